/- shaone.mix. -/
import Derived.Test.YtiocealhadlggaaBundle1
import Derived.BigRegion
import Derived.Deep.MidRow
namespace Go.Proofs.Ytiocealhadlggaa
open Go.RowKit
set_option linter.unusedVariables false

theorem Own.fresh (w : World) (cs : Array Value) (t : TypeId) (hc : cs.size ≤ maxLen) : Own (w.alloc (.cells cs t)) w.heap.size 1 (.slice (some ⟨w.heap.size, 0, none⟩) cs.size cs.size) cs.size cs.toList := by
  have hb : (w.alloc (.cells cs t)).heap[w.heap.size]? = some (.cells cs t (0, 0)) := heap_alloc_new w _
  refine ⟨by simp, .inr ⟨_, _, rfl, Nat.le_refl _, by simp, Nat.le_refl _, hc, fun j hj => ⟨?_, frozen_of_row _ _ j cs t hb⟩, fun j u hu => ?_⟩⟩
  · rw [cell_of_row _ _ j cs t (0, 0) hb]
    simpa using hj
  · rw [cell_of_row _ _ j cs t (0, 0) hb]
    simpa using hu
theorem Own.drew {w : World} {base sz n : Nat} {v : Value} {xs : List Value} (h : Own w base sz v n xs) : Own w.drew base sz v n xs := h
theorem Own.drewN {w : World} {base sz n : Nat} {v : Value} {xs : List Value} (h : Own w base sz v n xs) (k : Nat) : Own (w.drewN k) base sz v n xs := h

theorem results_cell_mid {P : Program} {fn : Func} {p : Tmp} {ty : TypeId} (h : fn.results = #[.cell p ty]) (tmps : Array Value) (w : World) (g : Nat) (cs : List Value) (d : TypeDesc)
    (hp : tmps.getD p undef = .pointer (some ⟨g, 0, none⟩)) (hc : w.rangeAt g 0 cs)
    (hu : P.underlying ty = some d) (hd : d.isRow = true) (hi : (P.info? ty).map (·.size) = some cs.length) :
    (results fn tmps).run P w = .ok (.agg cs.toArray) w := by
  have hp' : tmps[p]?.getD undef = .pointer (some ⟨g, 0, none⟩) := by simpa using hp
  simp [results, h, hp', asAddr, run_loadVar_mid w g 0 ty cs d hc hu hd hi]
/-- The words of an array, told by a function. -/
def fw (f : Nat → BitVec 32) (n : Nat) : List Value := wcells ((List.range n).map f)
theorem fw_at (f : Nat → BitVec 32) {n k : Nat} (h : k < n) : (fw f n)[k]? = some (.int .u32 ((f k).toNat : Int)) := by simp [fw, wcells, h]
theorem fw_set (f : Nat → BitVec 32) (n k : Nat) (x : BitVec 32) : (fw f n).set k (.int .u32 (x.toNat : Int)) = fw (fun j => if j = k then x else f j) n := by
  apply List.ext_getElem?
  intro i
  rw [List.getElem?_set]
  by_cases hi : i < n
  · rw [fw_at _ hi]
    by_cases e : k = i
    · subst e; simp [fw, wcells, hi]
    · rw [if_neg e, fw_at _ hi]; simp only [if_neg (show ¬ i = k from fun h => e h.symm)]
  · have h1 : ∀ g : Nat → BitVec 32, (fw g n)[i]? = none := by intro g; simp [fw, wcells]; omega
    rw [h1, h1]
    split
    · split
      · rename_i h; simp [fw, wcells] at h; omega
      · rfl
    · rfl
theorem fw_congr {f g : Nat → BitVec 32} {n : Nat} (h : ∀ j, j < n → f j = g j) : fw f n = fw g n := by
  unfold fw
  congr 1
  apply List.map_congr_left
  intro j hj
  exact h j (List.mem_range.1 hj)
theorem fw_length (f : Nat → BitVec 32) (n : Nat) : (fw f n).length = n := by simp [fw, wcells]

structure MixAt (w wr : World) (h : List Value) (m n : Nat) (f : Nat → BitVec 32) : Prop where
  bel : Below w.heap.size w wr
  oh : Own wr w.heap.size 1 (.slice (some ⟨w.heap.size, 0, none⟩) m m) m h
  or : Own wr w.heap.size 1 (.slice (some ⟨w.heap.size + 1, 0, none⟩) m m) m (List.replicate m (.int .u32 0))
  ow : Own wr w.heap.size 1 (.slice (some ⟨w.heap.size + 1 + 1, 0, none⟩) n n) n (fw f n)
theorem MixAt.drew {w wr : World} {h : List Value} {m n : Nat} {f : Nat → BitVec 32} (a : MixAt w wr h m n f) : MixAt w wr.drew h m n f := ⟨⟨a.bel.os, a.bel.tape, a.bel.output, a.bel.size, a.bel.block⟩, a.oh, a.or, a.ow⟩
theorem MixAt.drewN {w wr : World} {h : List Value} {m n : Nat} {f : Nat → BitVec 32} (a : MixAt w wr h m n f) (k : Nat) : MixAt w (wr.drewN k) h m n f := ⟨⟨a.bel.os, a.bel.tape, a.bel.output, a.bel.size, a.bel.block⟩, a.oh, a.or, a.ow⟩
theorem MixAt.congr {w wr : World} {h : List Value} {m n : Nat} {f g : Nat → BitVec 32} (a : MixAt w wr h m n f) (e : ∀ j, j < n → f j = g j) : MixAt w wr h m n g := ⟨a.bel, a.oh, a.or, by rw [← fw_congr e]; exact a.ow⟩
theorem MixAt.set {w wr : World} {h : List Value} {m n : Nat} {f : Nat → BitVec 32} (a : MixAt w wr h m n f) (k : Nat) (hk : k < n) (x : BitVec 32) : MixAt w (wr.setCell ⟨w.heap.size + 1 + 1, k, none⟩ (.int .u32 (x.toNat : Int))) h m n (fun j => if j = k then x else f j) := by
  obtain ⟨h1, h2⟩ := a.ow.set k (by rw [fw_length]; exact hk) (.int .u32 (x.toNat : Int))
  rw [fw_set] at h1
  exact ⟨a.bel.setCell (by simp only; omega) _, a.oh.kept h2 (.inr (by simp [Value.ownBlock]; omega)), a.or.kept h2 (.inr (by simp [Value.ownBlock])), h1⟩

/-- So many bytes of a word. -/
def pw (s : List UInt8) (k : Nat) : Nat → BitVec 32
  | 0 => 0
  | i + 1 => pw s k i <<< 8 ||| bw (s.getD (4 * k + i) 0)
theorem pw4 (s : List UInt8) (k : Nat) : pw s k 4 = word4 (s.getD (4 * k) 0) (s.getD (4 * k + 1) 0) (s.getD (4 * k + 2) 0) (s.getD (4 * k + 3) 0) := by
  simp [pw, word4]
theorem getD_str (s : ByteArray) (i : Nat) (h : i < s.size) : s.data.toList.getD i 0 = s[i] := by
  rw [List.getD_eq_getElem?_getD, List.getElem?_eq_getElem (by simpa using h)]; rfl

theorem oneWords_length (s : List UInt8) (n : Nat) : (oneWords s n).length = 16 + n := by
  induction n with
  | zero => simp [oneWords, firstWords]
  | succ n ih => rw [oneWords, List.length_append, ih]; rfl
theorem oneWords_pre (s : List UInt8) (n m j : Nat) (h : j < 16 + n) : (oneWords s (n + m)).getD j 0 = (oneWords s n).getD j 0 := by
  induction m with
  | zero => rfl
  | succ m ih =>
    rw [show n + (m + 1) = (n + m) + 1 by omega, oneWords, List.getD_eq_getElem?_getD, List.getElem?_append_left (by rw [oneWords_length]; omega), ← List.getD_eq_getElem?_getD]
    exact ih
theorem oneW_low (s : List UInt8) {k : Nat} (h : k < 16) : (oneWords s 64).getD k 0 = word4 (s.getD (4 * k) 0) (s.getD (4 * k + 1) 0) (s.getD (4 * k + 2) 0) (s.getD (4 * k + 3) 0) := by
  rw [show (64 : Nat) = 0 + 64 from rfl, oneWords_pre s 0 64 k (by omega)]
  simp [oneWords, firstWords, h]
theorem oneW_high (s : List UInt8) {k : Nat} (h0 : 16 ≤ k) (h : k < 80) : (oneWords s 64).getD k 0 = turn ((oneWords s 64).getD (k - 3) 0 ^^^ (oneWords s 64).getD (k - 8) 0 ^^^ (oneWords s 64).getD (k - 14) 0 ^^^ (oneWords s 64).getD (k - 16) 0) 1 := by
  obtain ⟨n, rfl⟩ : ∃ n, k = 16 + n := ⟨k - 16, by omega⟩
  have e (j : Nat) (hj : j < 16 + n) : (oneWords s 64).getD j 0 = (oneWords s n).getD j 0 := by
    have := oneWords_pre s n (64 - n) j hj
    rwa [show n + (64 - n) = 64 by omega] at this
  rw [e (16 + n - 3) (by omega), e (16 + n - 8) (by omega), e (16 + n - 14) (by omega), e (16 + n - 16) (by omega)]
  have h1 := oneWords_pre s (n + 1) (64 - (n + 1)) (16 + n) (by omega)
  rw [show n + 1 + (64 - (n + 1)) = 64 by omega] at h1
  rw [h1, oneWords, List.getD_eq_getElem?_getD, List.getElem?_append_right (by rw [oneWords_length]; omega), oneWords_length]
  simp [oneNext, oneWords_length]

set_option maxHeartbeats 3200000 in
set_option maxRecDepth 100000 in
theorem mix_calls (h : Five) (s : ByteArray) (w : World) (hs : s.size = 64) : Calls Try.prog 37 #[.agg #[.int .u32 (h.a.toNat : Int), .int .u32 (h.b.toNat : Int), .int .u32 (h.c.toNat : Int), .int .u32 (h.d.toNat : Int), .int .u32 (h.e.toNat : Int)], .string s] w
    fun e w' => e = .returned (.agg (wcells (oneMix h s.data.toList).cells).toArray) ∧ Below w.heap.size w w' := by
  have hs1 : s.size ≥ 64 := by omega
  clear hs
  have HI : Hid (MixAt w (((w.alloc (.cells #[.int .u32 (h.a.toNat : Int), .int .u32 (h.b.toNat : Int), .int .u32 (h.c.toNat : Int), .int .u32 (h.d.toNat : Int), .int .u32 (h.e.toNat : Int)] 87)).alloc (.cells #[.int .u32 0, .int .u32 0, .int .u32 0, .int .u32 0, .int .u32 0] 87)).alloc (.cells Try.zeroCells102 102)) (wcells h.cells) 5 80 (fun j => if j < 0 then (oneWords s.data.toList 64).getD j 0 else 0)) := by
    have z : Try.zeroCells102 = (fw (fun j => if j < 0 then (oneWords s.data.toList 64).getD j 0 else 0) 80).toArray := by
      rw [fw_congr (g := fun _ => 0) (fun j _ => by simp)]; kernel_rfl
    refine ⟨(((Below.refl _ _).alloc (Nat.le_refl _) _).alloc (by simp) _).alloc (by simp; omega) _, ?_, ?_, ?_⟩
    · exact ((Own.fresh w _ _ (by simp [maxLen])).alloc _).alloc _
    · have h1 := Own.fresh (w.alloc (.cells #[.int .u32 (h.a.toNat : Int), .int .u32 (h.b.toNat : Int), .int .u32 (h.c.toNat : Int), .int .u32 (h.d.toNat : Int), .int .u32 (h.e.toNat : Int)] 87)) #[.int .u32 0, .int .u32 0, .int .u32 0, .int .u32 0, .int .u32 0] 87 (by decide)
      have h2 := (h1.weaken (base' := w.heap.size) (by simp)).alloc (.cells Try.zeroCells102 102)
      simpa using h2
    · rw [z]
      have h1 := Own.fresh ((w.alloc (.cells #[.int .u32 (h.a.toNat : Int), .int .u32 (h.b.toNat : Int), .int .u32 (h.c.toNat : Int), .int .u32 (h.d.toNat : Int), .int .u32 (h.e.toNat : Int)] 87)).alloc (.cells #[.int .u32 0, .int .u32 0, .int .u32 0, .int .u32 0, .int .u32 0] 87)) (fw (fun j => if j < 0 then (oneWords s.data.toList 64).getD j 0 else 0) 80).toArray 102 (by simp [fw_length, maxLen])
      have h2 := h1.weaken (base' := w.heap.size) (by simp; omega)
      simpa [fw_length] using h2
  go_enter Try.func37, Try.ntmps37
  go_wp2
  go_loopw [18] (fun i wr => ∃ k : Nat, k ≤ 16 ∧ i = .int .i64 k ∧ Hid (MixAt w wr (wcells h.cells) 5 80 (fun j => if j < k then (oneWords s.data.toList 64).getD j 0 else 0))) (fun i _ => 16 - (intOf i).toNat)
  case atStart => exact ⟨0, by omega, rfl, HI.out⟩
  case round =>
    obtain ⟨k, hk, rfl, HM⟩ := hrel
    by_cases hlt : k < 16
    · go_wp2
      go_loopw [21] (fun i wr => ∃ n : Nat, n ≤ 4 ∧ i = .int .i64 n ∧ Hid (MixAt w wr (wcells h.cells) 5 80 (fun j => if j < k then (oneWords s.data.toList 64).getD j 0 else if j = k then pw s.data.toList k n else 0))) (fun i _ => 4 - (intOf i).toNat)
      case atStart => exact ⟨0, by omega, rfl, HM.out.congr (fun j _ => by by_cases e : j = k <;> simp [e, pw])⟩
      case round =>
        obtain ⟨n, hn, rfl, HN⟩ := hrel
        by_cases hlt2 : n < 4
        · obtain ⟨hc, hf⟩ := HN.out.ow.cell (j := k) (fw_at _ (by omega))
          simp only [Nat.lt_irrefl, if_false, if_true] at hc
          have hb : 4 * k + n < s.size := by omega
          have HP : Hid (pw s.data.toList k (n + 1) = pw s.data.toList k n <<< 8 ||| bw s[4 * k + n]) := by rw [Hid, pw, getD_str _ _ hb]
          have j1 : (0 : Int) ≤ (k : Int) := by omega
          have j2 : (k : Int) < 80 := by omega
          have j3 : (0 : Int) ≤ 4 * (k : Int) + (n : Int) := by omega
          have j4 : 4 * (k : Int) + (n : Int) < (s.size : Int) := by omega
          have y1 := IntWalk.i64_in (4 * (k : Int)) (by omega)
          have y2 := IntWalk.i64_in (4 * (k : Int) + (n : Int)) (by omega)
          have y3 : (4 * (k : Int) + (n : Int)).toNat = 4 * k + n := by omega
          have HV : Hid (bits BinOp.or IntKind.u32 (((pw s.data.toList k n).toNat : Int) * 256 % 4294967296) ((s[4 * k + n].toNat : Int) % 4294967296) = ((pw s.data.toList k (n + 1)).toNat : Int)) := by
            rw [Hid, HP.out, bw_nat, show (256 : Int) = 2 ^ 8 by decide, t_shl, Int.emod_eq_of_lt (by omega) (by have := w_lt (bw s[4 * k + n]); omega), w_or]
          go_wp2
          go_region
          go_wp2
          go_roundw
          case rel =>
            refine ⟨n + 1, by omega, by go_num, ?_⟩
            rw [Hid, HV.out]
            refine (HN.out.set k (by omega) (pw s.data.toList k (n + 1))).drew.congr (fun j _ => ?_)
            by_cases e : j = k
            · subst e; simp
            · simp [e]
          case measure => simp [intOf]; omega
        · obtain rfl : n = 4 := by omega
          go_wp2
          go_roundw
          case rel =>
            refine ⟨k + 1, by omega, by go_num, HN.out.congr (fun j _ => ?_)⟩
            rw [pw4, ← oneW_low _ hlt]
            by_cases e : j = k
            · subst e; simp
            · by_cases e2 : j < k
              · rw [if_pos e2, if_pos (by omega)]
              · rw [if_neg e2, if_neg e, if_neg (by omega)]
          case measure => simp [intOf]; omega
    · obtain rfl : k = 16 := by omega
      clear hlt hk
      go_wp2
      go_loopw [8] (fun i wr => ∃ k : Nat, 16 ≤ k ∧ k ≤ 80 ∧ i = .int .i64 k ∧ Hid (MixAt w wr (wcells h.cells) 5 80 (fun j => if j < k then (oneWords s.data.toList 64).getD j 0 else 0))) (fun i _ => 80 - (intOf i).toNat)
      case atStart => exact ⟨16, by omega, by omega, rfl, HM.out⟩
      case round =>
        obtain ⟨k, hk0, hk, rfl, HN⟩ := hrel
        by_cases hlt2 : k < 80
        · obtain ⟨c3, _⟩ := HN.out.ow.cell (j := k - 3) (fw_at _ (by omega))
          obtain ⟨c8, _⟩ := HN.out.ow.cell (j := k - 8) (fw_at _ (by omega))
          obtain ⟨c14, _⟩ := HN.out.ow.cell (j := k - 14) (fw_at _ (by omega))
          obtain ⟨c16, _⟩ := HN.out.ow.cell (j := k - 16) (fw_at _ (by omega))
          obtain ⟨c0, f0⟩ := HN.out.ow.cell (j := k) (fw_at _ (by omega))
          simp only [show k - 3 < k by omega, show k - 8 < k by omega, show k - 14 < k by omega, show k - 16 < k by omega, if_true] at c3 c8 c14 c16
          obtain ⟨p, hp⟩ : ∃ p, (oneWords s.data.toList 64).getD (k - 3) 0 = p := ⟨_, rfl⟩
          obtain ⟨q, hq⟩ : ∃ q, (oneWords s.data.toList 64).getD (k - 8) 0 = q := ⟨_, rfl⟩
          obtain ⟨r, hr⟩ : ∃ r, (oneWords s.data.toList 64).getD (k - 14) 0 = r := ⟨_, rfl⟩
          obtain ⟨t, ht⟩ : ∃ t, (oneWords s.data.toList 64).getD (k - 16) 0 = t := ⟨_, rfl⟩
          rw [hp] at c3
          rw [hq] at c8
          rw [hr] at c14
          rw [ht] at c16
          have HE : Hid ((oneWords s.data.toList 64).getD k 0 = turn (p ^^^ q ^^^ r ^^^ t) 1) := by rw [Hid, oneW_high _ hk0 hlt2, hp, hq, hr, ht]
          clear hp hq hr ht
          have HC : Hid (∀ W : World, Calls Try.prog 47 #[.int .u32 (bits .xor .u32 (bits .xor .u32 (bits .xor .u32 (p.toNat : Int) (q.toNat : Int)) (r.toNat : Int)) (t.toNat : Int)), .int .i64 1] W fun e w' => e = .returned (.int .u32 ((turn (p ^^^ q ^^^ r ^^^ t) 1).toNat : Int)) ∧ W = w') := by
            intro W; rw [w_xor, w_xor, w_xor]; exact rot1_calls _ W
          have y1 := IntWalk.i64_in ((k : Int) - 3) (by omega)
          have y2 := IntWalk.i64_in ((k : Int) - 8) (by omega)
          have y3 := IntWalk.i64_in ((k : Int) - 14) (by omega)
          have y4 := IntWalk.i64_in ((k : Int) - 16) (by omega)
          have z1 : ((k : Int) - 3).toNat = k - 3 := by omega
          have z2 : ((k : Int) - 8).toNat = k - 8 := by omega
          have z3 : ((k : Int) - 14).toNat = k - 14 := by omega
          have z4 : ((k : Int) - 16).toNat = k - 16 := by omega
          have b1 : (0 : Int) ≤ (k : Int) - 3 := by omega
          have b2 : (0 : Int) ≤ (k : Int) - 8 := by omega
          have b3 : (0 : Int) ≤ (k : Int) - 14 := by omega
          have b4 : (0 : Int) ≤ (k : Int) - 16 := by omega
          have b5 : (k : Int) - 3 < 80 := by omega
          have b6 : (k : Int) - 8 < 80 := by omega
          have b7 : (k : Int) - 14 < 80 := by omega
          have b8 : (k : Int) - 16 < 80 := by omega
          have b9 : (0 : Int) ≤ (k : Int) := by omega
          have a1 : (3 : Int) ≤ (k : Int) := by omega
          have a2 : (8 : Int) ≤ (k : Int) := by omega
          have a3 : (14 : Int) ≤ (k : Int) := by omega
          have a4 : (16 : Int) ≤ (k : Int) := by omega
          have b10 : (k : Int) < 80 := by omega
          go_wp2
          go_region_held3 (fun w' => w'.cell? ⟨w.heap.size + 1 + 1, k - 3, none⟩ = some (.int .u32 (p.toNat : Int)) ∧ w'.cell? ⟨w.heap.size + 1 + 1, k - 8, none⟩ = some (.int .u32 (q.toNat : Int)) ∧ w'.cell? ⟨w.heap.size + 1 + 1, k - 14, none⟩ = some (.int .u32 (r.toNat : Int)) ∧ w'.cell? ⟨w.heap.size + 1 + 1, k - 16, none⟩ = some (.int .u32 (t.toNat : Int)))
            (first | exact ⟨c3, c8, c14, c16⟩ | exact ⟨(World.cell?_setCell_other _ _ _ _ (by simp)).trans c3, (World.cell?_setCell_other _ _ _ _ (by simp)).trans c8, (World.cell?_setCell_other _ _ _ _ (by simp)).trans c14, (World.cell?_setCell_other _ _ _ _ (by simp)).trans c16⟩)
            (first | (go_at_call 47; refine Calls.mono (HC.out _) ?_; rintro e w' ⟨rfl, rfl⟩))
          clear y1 y2 y3 y4 z1 z2 z3 z4
          go_wp2
          go_roundw
          case rel =>
            (repeat apply Exists.intro)
            refine ⟨?_, rfl⟩
            refine ⟨k + 1, by omega, by omega, by go_num, ?_⟩
            refine (HN.out.set k (by omega) (turn (p ^^^ q ^^^ r ^^^ t) 1)).drew.congr (fun j _ => ?_)
            rw [← HE.out]
            by_cases e : j = k
            · subst e; simp
            · by_cases e2 : j < k
              · rw [if_neg e, if_pos e2, if_pos (by omega)]
              · rw [if_neg e, if_neg e2, if_neg (by omega)]
          case measure => simp [intOf]; omega
        · obtain rfl : k = 80 := by omega
          clear hlt2 hk hk0
          obtain ⟨c0, _⟩ := HN.out.oh.cell (j := 0) (u := .int .u32 (h.a.toNat : Int)) rfl
          obtain ⟨c1, _⟩ := HN.out.oh.cell (j := 1) (u := .int .u32 (h.b.toNat : Int)) rfl
          obtain ⟨c2, _⟩ := HN.out.oh.cell (j := 2) (u := .int .u32 (h.c.toNat : Int)) rfl
          obtain ⟨c3, _⟩ := HN.out.oh.cell (j := 3) (u := .int .u32 (h.d.toNat : Int)) rfl
          obtain ⟨c4, _⟩ := HN.out.oh.cell (j := 4) (u := .int .u32 (h.e.toNat : Int)) rfl
          go_wp2
          go_big_quiet (fail)
          go_wp2
          go_loopw [9, 10, 11, 12, 13, 76] (fun va vb vc vd ve i wr => ∃ (k : Nat) (x : Five), k ≤ 80 ∧ i = .int .i64 k ∧ va = .int .u32 (x.a.toNat : Int) ∧ vb = .int .u32 (x.b.toNat : Int) ∧ vc = .int .u32 (x.c.toNat : Int) ∧ vd = .int .u32 (x.d.toNat : Int) ∧ ve = .int .u32 (x.e.toNat : Int) ∧ Hid (x = oneRounds (oneWords s.data.toList 64) h k) ∧ Hid (MixAt w wr (wcells h.cells) 5 80 (fun j => if j < 80 then (oneWords s.data.toList 64).getD j 0 else 0))) (fun _ _ _ _ _ i _ => 80 - (intOf i).toNat)
          case atStart => exact ⟨0, h, by omega, rfl, rfl, rfl, rfl, rfl, rfl, rfl, HN.out.drewN _⟩
          case round =>
            obtain ⟨k, x, hk, rfl, rfl, rfl, rfl, rfl, rfl, HX, HN⟩ := hrel
            clear c0 c1 c2 c3 c4
            by_cases hlt3 : k < 80
            · obtain ⟨c0, _⟩ := HN.out.ow.cell (j := k) (fw_at _ (by omega))
              simp only [hlt3, if_true] at c0
              obtain ⟨p, hp⟩ : ∃ p, (oneWords s.data.toList 64).getD k 0 = p := ⟨_, rfl⟩
              rw [hp] at c0
              have HE : Hid (oneRounds (oneWords s.data.toList 64) h (k + 1) = oneStep k p x) := by rw [Hid, oneRounds, hp, HX.out]
              clear hp
              have b9 : (0 : Int) ≤ (k : Int) := by omega
              have b10 : (k : Int) < 80 := by omega
              go_wp2_with (go_at_call 48; refine (round_calls k _ _ _ _ hlt3).mono ?_; rintro e w' ⟨rfl, rfl⟩)
              go_quiet ((go_at_call 47; exact quiet_same (rot5_calls _ _)))
              go_wp2_with (go_at_call 47; refine (rot30_calls _ _).mono ?_; rintro e w' ⟨rfl, rfl⟩)
              go_roundw
              case rel =>
                (repeat apply Exists.intro)
                refine ⟨?_, rfl⟩
                exact ⟨k + 1, oneStep k p x, by omega, by go_num, val_int (t_add5 _ _ _ _ _), rfl, rfl, rfl, rfl, HE.out.symm, HN.out.drewN _⟩
              case measure => simp [intOf]; omega
            · obtain rfl : k = 80 := by omega
              clear hlt3 hk
              obtain ⟨c0, _⟩ := HN.out.oh.cell (j := 0) (u := .int .u32 (h.a.toNat : Int)) rfl
              obtain ⟨c1, _⟩ := HN.out.oh.cell (j := 1) (u := .int .u32 (h.b.toNat : Int)) rfl
              obtain ⟨c2, _⟩ := HN.out.oh.cell (j := 2) (u := .int .u32 (h.c.toNat : Int)) rfl
              obtain ⟨c3, _⟩ := HN.out.oh.cell (j := 3) (u := .int .u32 (h.d.toNat : Int)) rfl
              obtain ⟨c4, _⟩ := HN.out.oh.cell (j := 4) (u := .int .u32 (h.e.toNat : Int)) rfl
              obtain ⟨d0, f0⟩ := HN.out.or.cell (j := 0) (u := .int .u32 0) rfl
              obtain ⟨d1, f1⟩ := HN.out.or.cell (j := 1) (u := .int .u32 0) rfl
              obtain ⟨d2, f2⟩ := HN.out.or.cell (j := 2) (u := .int .u32 0) rfl
              obtain ⟨d3, f3⟩ := HN.out.or.cell (j := 3) (u := .int .u32 0) rfl
              obtain ⟨d4, f4⟩ := HN.out.or.cell (j := 4) (u := .int .u32 0) rfl
              go_wp2
              rw [t_add h.a x.a, t_add h.b x.b, t_add h.c x.c, t_add h.d x.d, t_add h.e x.e]
              have g1 := HN.out.or.set 0 (by simp) (.int .u32 ((h.a + x.a).toNat : Int))
              have g2 := g1.1.set 1 (by simp) (.int .u32 ((h.b + x.b).toNat : Int))
              have g3 := g2.1.set 2 (by simp) (.int .u32 ((h.c + x.c).toNat : Int))
              have g4 := g3.1.set 3 (by simp) (.int .u32 ((h.d + x.d).toNat : Int))
              have g5 := g4.1.set 4 (by simp) (.int .u32 ((h.e + x.e).toNat : Int))
              have HB : Hid (Below w.heap.size w _) := ((((HN.out.bel.setCell (p := ⟨w.heap.size + 1, 0, none⟩) (by simp) (.int .u32 ((h.a + x.a).toNat : Int))).setCell (p := ⟨w.heap.size + 1, 1, none⟩) (by simp) (.int .u32 ((h.b + x.b).toNat : Int))).setCell (p := ⟨w.heap.size + 1, 2, none⟩) (by simp) (.int .u32 ((h.c + x.c).toNat : Int))).setCell (p := ⟨w.heap.size + 1, 3, none⟩) (by simp) (.int .u32 ((h.d + x.d).toNat : Int))).setCell (p := ⟨w.heap.size + 1, 4, none⟩) (by simp) (.int .u32 ((h.e + x.e).toNat : Int))
              have e : (oneMix h s.data.toList) = h.add x := by rw [oneMix, HX.out]
              refine bodyPost_ret (results_cell_mid rfl _ _ (w.heap.size + 1) (wcells (h.add x).cells) _ rfl (fun j v hv => ?_) Try.underlying87 rfl (by kernel_rfl)) rfl ?_
              · rw [Nat.zero_add]
                exact (g5.1.cell hv).1
              · exact ⟨by rw [e], HB.out⟩
theorem mix_calls' (h : Five) (s : ByteArray) (w : World) (hs : s.size = 64) : Calls Try.prog 37 #[.agg #[.int .u32 (h.a.toNat : Int), .int .u32 (h.b.toNat : Int), .int .u32 (h.c.toNat : Int), .int .u32 (h.d.toNat : Int), .int .u32 (h.e.toNat : Int)], .string s] w
    fun e w' => ∃ y : Five, Hid (y = oneMix h s.data.toList) ∧ e = .returned (.agg #[.int .u32 (y.a.toNat : Int), .int .u32 (y.b.toNat : Int), .int .u32 (y.c.toNat : Int), .int .u32 (y.d.toNat : Int), .int .u32 (y.e.toNat : Int)]) ∧ Below w.heap.size w w' :=
  (mix_calls h s w hs).mono fun _ _ ⟨he, hb⟩ => ⟨_, rfl, he, hb⟩
end Go.Proofs.Ytiocealhadlggaa
