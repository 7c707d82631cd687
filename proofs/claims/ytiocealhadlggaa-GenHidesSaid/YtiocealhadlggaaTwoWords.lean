/- shatwo.words, keys, Key. -/
import Derived.Test.YtiocealhadlggaaBundle5
namespace Go.Proofs.Ytiocealhadlggaa
open Go.RowKit
set_option linter.unusedVariables false

theorem twoWords_length (s : List UInt8) (n : Nat) : (twoWords s n).length = 16 + n := by
  induction n with
  | zero => simp [twoWords, firstWords]
  | succ n ih => rw [twoWords, List.length_append, ih]; rfl
theorem twoWords_pre (s : List UInt8) (n m j : Nat) (h : j < 16 + n) : (twoWords s (n + m)).getD j 0 = (twoWords s n).getD j 0 := by
  induction m with
  | zero => rfl
  | succ m ih =>
    rw [show n + (m + 1) = (n + m) + 1 by omega, twoWords, List.getD_eq_getElem?_getD, List.getElem?_append_left (by rw [twoWords_length]; omega), ← List.getD_eq_getElem?_getD]
    exact ih
theorem twoW_low (s : List UInt8) {k : Nat} (h : k < 16) : (twoWords s 48).getD k 0 = word4 (s.getD (4 * k) 0) (s.getD (4 * k + 1) 0) (s.getD (4 * k + 2) 0) (s.getD (4 * k + 3) 0) := by
  rw [show (48 : Nat) = 0 + 48 from rfl, twoWords_pre s 0 48 k (by omega)]
  simp [twoWords, firstWords, h]
/-- A word from those before it. -/
def twoNew (p q x y : BitVec 32) : BitVec 32 := p + q + (turn x 25 ^^^ turn x 14 ^^^ x >>> 3) + (turn y 15 ^^^ turn y 13 ^^^ y >>> 10)
theorem twoW_high (s : List UInt8) {k : Nat} (h0 : 16 ≤ k) (h : k < 64) : (twoWords s 48).getD k 0 = twoNew ((twoWords s 48).getD (k - 16) 0) ((twoWords s 48).getD (k - 7) 0) ((twoWords s 48).getD (k - 15) 0) ((twoWords s 48).getD (k - 2) 0) := by
  obtain ⟨n, rfl⟩ : ∃ n, k = 16 + n := ⟨k - 16, by omega⟩
  have e (j : Nat) (hj : j < 16 + n) : (twoWords s 48).getD j 0 = (twoWords s n).getD j 0 := by
    have := twoWords_pre s n (48 - n) j hj
    rwa [show n + (48 - n) = 48 by omega] at this
  rw [e (16 + n - 16) (by omega), e (16 + n - 7) (by omega), e (16 + n - 15) (by omega), e (16 + n - 2) (by omega)]
  have h1 := twoWords_pre s (n + 1) (48 - (n + 1)) (16 + n) (by omega)
  rw [show n + 1 + (48 - (n + 1)) = 48 by omega] at h1
  rw [h1, twoWords, List.getD_eq_getElem?_getD, List.getElem?_append_right (by rw [twoWords_length]; omega), twoWords_length]
  simp [twoNext, twoNew, twoWords_length]

theorem right7 (x : BitVec 32) (w : World) : Calls Try.prog 51 #[.int .u32 (x.toNat : Int), .int .i64 7] w fun e w' => e = .returned (.int .u32 ((turn x 25).toNat : Int)) ∧ w = w' := right_at x 7 25 rfl w
theorem right18 (x : BitVec 32) (w : World) : Calls Try.prog 51 #[.int .u32 (x.toNat : Int), .int .i64 18] w fun e w' => e = .returned (.int .u32 ((turn x 14).toNat : Int)) ∧ w = w' := right_at x 18 14 rfl w
theorem right17 (x : BitVec 32) (w : World) : Calls Try.prog 51 #[.int .u32 (x.toNat : Int), .int .i64 17] w fun e w' => e = .returned (.int .u32 ((turn x 15).toNat : Int)) ∧ w = w' := right_at x 17 15 rfl w
theorem right19 (x : BitVec 32) (w : World) : Calls Try.prog 51 #[.int .u32 (x.toNat : Int), .int .i64 19] w fun e w' => e = .returned (.int .u32 ((turn x 13).toNat : Int)) ∧ w = w' := right_at x 19 13 rfl w
theorem right6 (x : BitVec 32) (w : World) : Calls Try.prog 51 #[.int .u32 (x.toNat : Int), .int .i64 6] w fun e w' => e = .returned (.int .u32 ((turn x 26).toNat : Int)) ∧ w = w' := right_at x 6 26 rfl w
theorem right11 (x : BitVec 32) (w : World) : Calls Try.prog 51 #[.int .u32 (x.toNat : Int), .int .i64 11] w fun e w' => e = .returned (.int .u32 ((turn x 21).toNat : Int)) ∧ w = w' := right_at x 11 21 rfl w
theorem right25 (x : BitVec 32) (w : World) : Calls Try.prog 51 #[.int .u32 (x.toNat : Int), .int .i64 25] w fun e w' => e = .returned (.int .u32 ((turn x 7).toNat : Int)) ∧ w = w' := right_at x 25 7 rfl w
theorem right2 (x : BitVec 32) (w : World) : Calls Try.prog 51 #[.int .u32 (x.toNat : Int), .int .i64 2] w fun e w' => e = .returned (.int .u32 ((turn x 30).toNat : Int)) ∧ w = w' := right_at x 2 30 rfl w
theorem right13 (x : BitVec 32) (w : World) : Calls Try.prog 51 #[.int .u32 (x.toNat : Int), .int .i64 13] w fun e w' => e = .returned (.int .u32 ((turn x 19).toNat : Int)) ∧ w = w' := right_at x 13 19 rfl w
theorem right22 (x : BitVec 32) (w : World) : Calls Try.prog 51 #[.int .u32 (x.toNat : Int), .int .i64 22] w fun e w' => e = .returned (.int .u32 ((turn x 10).toNat : Int)) ∧ w = w' := right_at x 22 10 rfl w

theorem fw_list (L : List (BitVec 32)) (m : Nat) (h : L.length = m) : wcells L = fw (fun j => L.getD j 0) m := by
  have e : L = (List.range m).map (fun j => L.getD j 0) := by
    apply List.ext_getElem?
    intro i
    by_cases hi : i < m
    · rw [List.getElem?_eq_getElem (by omega), List.getElem?_map, List.getElem?_range hi, Option.map_some, List.getD_eq_getElem?_getD, List.getElem?_eq_getElem (by omega)]; rfl
    · rw [List.getElem?_eq_none (by omega), List.getElem?_eq_none (by simp; omega)]
  unfold fw
  rw [← e]

set_option maxHeartbeats 3200000 in
set_option maxRecDepth 100000 in
theorem words_calls (s : ByteArray) (w : World) (hs : s.size = 64) : Calls Try.prog 49 #[.string s] w
    fun e w' => e = .returned (.agg (wcells (twoWords s.data.toList 48)).toArray) ∧ Below w.heap.size w w' := by
  have hs1 : s.size ≥ 64 := by omega
  clear hs
  have HI : Box (ArrAt w ((w.alloc (.cells (fw (fun _ => 0) 64).toArray 105)).alloc (.cells (fw (fun _ => 0) 64).toArray 105)) 64 (fun j => if j < 0 then (twoWords s.data.toList 48).getD j 0 else 0)) := by
    refine ⟨⟨((Below.refl _ _).alloc (Nat.le_refl _) _).alloc (by simp) _, ?_, ?_⟩⟩
    · have h1 := (Own.fresh w (fw (fun _ => 0) 64).toArray 105 (by simp [fw_length, maxLen])).alloc (.cells (fw (fun _ => 0) 64).toArray 105)
      simpa [fw_length] using h1
    · rw [fw_congr (g := fun _ => 0) (fun j _ => by simp)]
      have h1 := (Own.fresh (w.alloc (.cells (fw (fun _ => 0) 64).toArray 105)) (fw (fun _ => 0) 64).toArray 105 (by simp [fw_length, maxLen])).weaken (base' := w.heap.size) (by simp)
      simpa [fw_length] using h1
  go_enter Try.func49, Try.ntmps49
  go_wp2
  go_loopw [9] (fun i wr => ∃ k : Nat, k ≤ 16 ∧ i = .int .i64 k ∧ Box (ArrAt w wr 64 (fun j => if j < k then (twoWords s.data.toList 48).getD j 0 else 0))) (fun i _ => 16 - (intOf i).toNat)
  case atStart => exact ⟨0, by omega, rfl, HI⟩
  case round =>
    obtain ⟨k, hk, rfl, HM⟩ := hrel
    by_cases hlt : k < 16
    · go_wp2
      go_loopw [12] (fun i wr => ∃ n : Nat, n ≤ 4 ∧ i = .int .i64 n ∧ Box (ArrAt w wr 64 (fun j => if j < k then (twoWords s.data.toList 48).getD j 0 else if j = k then pw s.data.toList k n else 0))) (fun i _ => 4 - (intOf i).toNat)
      case atStart => exact ⟨0, by omega, rfl, ⟨HM.out.congr (fun j _ => by by_cases e : j = k <;> simp [e, pw])⟩⟩
      case round =>
        obtain ⟨n, hn, rfl, HN⟩ := hrel
        by_cases hlt2 : n < 4
        · obtain ⟨hc, hf⟩ := HN.out.ow.cell (j := k) (fw_at _ (by omega))
          simp only [Nat.lt_irrefl, if_false, if_true] at hc
          have hb : 4 * k + n < s.size := by omega
          have HP : Box (pw s.data.toList k (n + 1) = pw s.data.toList k n <<< 8 ||| bw s[4 * k + n]) := ⟨by rw [pw, getD_str _ _ hb]⟩
          have j1 : (0 : Int) ≤ (k : Int) := by omega
          have j2 : (k : Int) < 64 := by omega
          have j3 : (0 : Int) ≤ 4 * (k : Int) + (n : Int) := by omega
          have j4 : 4 * (k : Int) + (n : Int) < (s.size : Int) := by omega
          have y1 := IntWalk.i64_in (4 * (k : Int)) (by omega)
          have y2 := IntWalk.i64_in (4 * (k : Int) + (n : Int)) (by omega)
          have y3 : (4 * (k : Int) + (n : Int)).toNat = 4 * k + n := by omega
          have HV : Box (bits BinOp.or IntKind.u32 (((pw s.data.toList k n).toNat : Int) * 256 % 4294967296) ((s[4 * k + n].toNat : Int) % 4294967296) = ((pw s.data.toList k (n + 1)).toNat : Int)) := by
            refine ⟨?_⟩
            rw [HP.out, bw_nat, show (256 : Int) = 2 ^ 8 by decide, t_shl, Int.emod_eq_of_lt (by omega) (by have := w_lt (bw s[4 * k + n]); omega), w_or]
          go_wp2
          go_region
          go_wp2
          go_roundw
          case rel =>
            refine ⟨n + 1, by omega, by go_num, ⟨?_⟩⟩
            rw [HV.out]
            refine (HN.out.set k (by omega) (pw s.data.toList k (n + 1))).drew.congr (fun j _ => ?_)
            by_cases e : j = k
            · subst e; simp
            · simp [e]
          case measure => simp [intOf]; omega
        · obtain rfl : n = 4 := by omega
          go_wp2
          go_roundw
          case rel =>
            refine ⟨k + 1, by omega, by go_num, ⟨HN.out.congr (fun j _ => ?_)⟩⟩
            rw [pw4, ← twoW_low _ hlt]
            by_cases e : j = k
            · subst e; simp
            · by_cases e2 : j < k
              · rw [if_pos e2, if_pos (by omega)]
              · rw [if_neg e2, if_neg e, if_neg (by omega)]
          case measure => simp [intOf]; omega
    · obtain rfl : k = 16 := by omega
      clear hlt hk
      go_wp2
      go_loopw [6] (fun i wr => ∃ k : Nat, 16 ≤ k ∧ k ≤ 64 ∧ i = .int .i64 k ∧ Box (ArrAt w wr 64 (fun j => if j < k then (twoWords s.data.toList 48).getD j 0 else 0))) (fun i _ => 64 - (intOf i).toNat)
      case atStart => exact ⟨16, by omega, by omega, rfl, HM⟩
      case round =>
        obtain ⟨k, hk0, hk, rfl, HN⟩ := hrel
        by_cases hlt2 : k < 64
        · obtain ⟨c16, _⟩ := HN.out.ow.cell (j := k - 16) (fw_at _ (by omega))
          obtain ⟨c7, _⟩ := HN.out.ow.cell (j := k - 7) (fw_at _ (by omega))
          obtain ⟨c15, _⟩ := HN.out.ow.cell (j := k - 15) (fw_at _ (by omega))
          obtain ⟨c2, _⟩ := HN.out.ow.cell (j := k - 2) (fw_at _ (by omega))
          obtain ⟨c0, f0⟩ := HN.out.ow.cell (j := k) (fw_at _ (by omega))
          simp only [show k - 16 < k by omega, show k - 7 < k by omega, show k - 15 < k by omega, show k - 2 < k by omega, if_true] at c16 c7 c15 c2
          obtain ⟨p, hp⟩ : ∃ p, (twoWords s.data.toList 48).getD (k - 16) 0 = p := ⟨_, rfl⟩
          obtain ⟨q, hq⟩ : ∃ q, (twoWords s.data.toList 48).getD (k - 7) 0 = q := ⟨_, rfl⟩
          obtain ⟨x, hx⟩ : ∃ x, (twoWords s.data.toList 48).getD (k - 15) 0 = x := ⟨_, rfl⟩
          obtain ⟨y, hy⟩ : ∃ y, (twoWords s.data.toList 48).getD (k - 2) 0 = y := ⟨_, rfl⟩
          rw [hp] at c16
          rw [hq] at c7
          rw [hx] at c15
          rw [hy] at c2
          have HE : Box ((twoWords s.data.toList 48).getD k 0 = twoNew p q x y) := ⟨by rw [twoW_high _ hk0 hlt2, hp, hq, hx, hy]⟩
          clear hp hq hx hy
          have y1 := IntWalk.i64_in ((k : Int) - 16) (by omega)
          have y2 := IntWalk.i64_in ((k : Int) - 7) (by omega)
          have y3 := IntWalk.i64_in ((k : Int) - 15) (by omega)
          have y4 := IntWalk.i64_in ((k : Int) - 2) (by omega)
          have z1 : ((k : Int) - 16).toNat = k - 16 := by omega
          have z2 : ((k : Int) - 7).toNat = k - 7 := by omega
          have z3 : ((k : Int) - 15).toNat = k - 15 := by omega
          have z4 : ((k : Int) - 2).toNat = k - 2 := by omega
          have b1 : (0 : Int) ≤ (k : Int) - 16 := by omega
          have b2 : (0 : Int) ≤ (k : Int) - 7 := by omega
          have b3 : (0 : Int) ≤ (k : Int) - 15 := by omega
          have b4 : (0 : Int) ≤ (k : Int) - 2 := by omega
          have b5 : (k : Int) - 16 < 64 := by omega
          have b6 : (k : Int) - 7 < 64 := by omega
          have b7 : (k : Int) - 15 < 64 := by omega
          have b8 : (k : Int) - 2 < 64 := by omega
          have b9 : (0 : Int) ≤ (k : Int) := by omega
          have b10 : (k : Int) < 64 := by omega
          have a1 : (16 : Int) ≤ (k : Int) := by omega
          have a2 : (7 : Int) ≤ (k : Int) := by omega
          have a3 : (15 : Int) ≤ (k : Int) := by omega
          have a4 : (2 : Int) ≤ (k : Int) := by omega
          have HV : Box ((((((p.toNat : Int) + (q.toNat : Int)) % 4294967296 + bits BinOp.xor IntKind.u32 (bits BinOp.xor IntKind.u32 ((turn x 25).toNat : Int) ((turn x 14).toNat : Int)) ((x.toNat : Int) / (8 : Int))) % 4294967296) + bits BinOp.xor IntKind.u32 (bits BinOp.xor IntKind.u32 ((turn y 15).toNat : Int) ((turn y 13).toNat : Int)) ((y.toNat : Int) / (1024 : Int))) % 4294967296 = ((twoNew p q x y).toNat : Int)) := by
            refine ⟨?_⟩
            rw [t_add, show (8 : Int) = (2 : Int) ^ 3 by decide, show (1024 : Int) = (2 : Int) ^ 10 by decide, t_shr, t_shr, w_xor, w_xor, w_xor, w_xor, t_add, t_add]
            rfl
          go_wp2
          go_big_quiet (fail)
          go_wp2_with fail
          go_region_held3 (fun w' => w'.cell? ⟨w.heap.size + 1, k - 16, none⟩ = some (.int .u32 (p.toNat : Int)) ∧ w'.cell? ⟨w.heap.size + 1, k - 7, none⟩ = some (.int .u32 (q.toNat : Int)))
            (first | exact ⟨c16, c7⟩ | exact ⟨(World.cell?_setCell_other _ _ _ _ (by simp)).trans c16, (World.cell?_setCell_other _ _ _ _ (by simp)).trans c7⟩ | exact ⟨(World.cell?_setCell_other _ _ _ _ (by simp; omega)).trans c16, (World.cell?_setCell_other _ _ _ _ (by simp; omega)).trans c7⟩)
            (first
              | (go_at_call_of 51 (Value.int .i64 7); refine (right7 _ _).mono ?_; rintro e w' ⟨rfl, rfl⟩)
              | (go_at_call_of 51 (Value.int .i64 18); refine (right18 _ _).mono ?_; rintro e w' ⟨rfl, rfl⟩)
              | (go_at_call_of 51 (Value.int .i64 17); refine (right17 _ _).mono ?_; rintro e w' ⟨rfl, rfl⟩)
              | (go_at_call_of 51 (Value.int .i64 19); refine (right19 _ _).mono ?_; rintro e w' ⟨rfl, rfl⟩))
          go_wp2
          go_roundw
          case rel =>
            (repeat apply Exists.intro)
            refine ⟨?_, rfl⟩
            refine ⟨k + 1, by omega, by omega, by go_num, ⟨?_⟩⟩
            rw [HV.out]
            refine ((HN.out.drewN (nq + 1)).set k (by omega) (twoNew p q x y)).congr (fun j _ => ?_)
            rw [← HE.out]
            by_cases e : j = k
            · subst e; simp
            · by_cases e2 : j < k
              · rw [if_neg e, if_pos e2, if_pos (by omega)]
              · rw [if_neg e, if_neg e2, if_neg (by omega)]
          case measure => simp [intOf]; omega
        · obtain rfl : k = 64 := by omega
          clear hlt2 hk hk0
          have hfw := fw_list (twoWords s.data.toList 48) 64 (twoWords_length _ _)
          have hO1 : Own wr w.heap.size 1 (.slice (some ⟨w.heap.size + 1, 0, none⟩) 64 64) 64 (wcells (twoWords s.data.toList 48)) := by
            rw [hfw, fw_congr (g := fun j => if j < 64 then (twoWords s.data.toList 48).getD j 0 else 0) (fun j hj => by rw [if_pos hj])]; exact HN.out.ow
          have hl1 : (wcells (twoWords s.data.toList 48)).length = 64 := by rw [wcells_length, twoWords_length]
          have ha1 := all_wcells (twoWords s.data.toList 48)
          obtain ⟨F, hF⟩ : ∃ F, wcells (twoWords s.data.toList 48) = F := ⟨_, rfl⟩
          rw [hF] at hO1 hl1 ha1
          have HFF : Box _ := ⟨hF⟩
          clear hF hfw
          have hl2 : F.toArray.size = 64 := by rw [List.size_toArray, hl1]
          have HO : Box _ := ⟨hO1⟩
          have HI1 : Box ((Try.prog.info? 105).map (·.size) = some F.length) := ⟨by rw [hl1]; kernel_rfl⟩
          have HI2 : Box ((Try.prog.info? 105).map (·.size) = some F.toArray.size) := ⟨by rw [hl2]; kernel_rfl⟩
          have HTh : Box (wr.there w.heap.size 0 F.toArray.size) := ⟨by rw [hl2]; exact HN.out.or.there0⟩
          have HAl : Box (F.toArray.all (·.oneCell') = true) := ⟨ha1⟩
          have HL : Box _ := ⟨hl1⟩
          clear hO1 hl1 ha1 hl2
          go_wp2_with (first
            | (refine wpList_load_mid rfl 105 _ rfl (w.heap.size + 1) 0 rfl F _ HO.out.range0 Try.underlying105 rfl HI1.out ?_)
            | (refine wpList_store_mid rfl 105 _ _ rfl w.heap.size 0 F.toArray rfl rfl HTh.out HI2.out HAl.out ?_))
          have hF := HN.out.or.all F HL.out
          refine bodyPost_ret (results_cell_mid rfl _ _ w.heap.size F _ rfl hF.range0 Try.underlying105 rfl HI1.out) rfl ?_
          exact ⟨by rw [HFF.out], HN.out.bel.grown (grownBy_setCells w.heap.size F 0 wr) HN.out.bel.size (by simp)⟩
end Go.Proofs.Ytiocealhadlggaa
