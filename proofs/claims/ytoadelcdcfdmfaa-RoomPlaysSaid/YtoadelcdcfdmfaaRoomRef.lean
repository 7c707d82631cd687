/- The document's answer of a room: Drop, LayRoom. -/
import Derived.Test.YtoadelcdcfdmfaaRoomLay
import Derived.Test.YtoadelcdcfdmfaaRoomPlain
import Derived.Test.YtoadelcdcfdmfaaBundle5
namespace Go.Proofs.Ytoadelcdcfdmfaa
open Go.RowKit
set_option linter.unusedVariables false

theorem dropL_snoc (l : List Int) (x y : Int) : dropL (l ++ [y]) x = if y = x then dropL l x else dropL l x ++ [y] := by
  unfold dropL
  rw [List.filter_append]
  by_cases h : y = x <;> simp [h, List.filter_cons]
theorem dropL_le (l : List Int) (x : Int) : (dropL l x).length ≤ l.length := List.length_filter_le _ _
set_option maxHeartbeats 1600000 in
theorem refDrop_calls (A : Option Addr) (n c : Nat) (l : List Int) (x : Int) (w : World) (hl : l.length = n) (hn : n ≤ 1000000) (hR : RowAt w A (icells l)) :
    Calls Try.prog 11 #[.slice A n c, .int .i64 x] w fun e w' => ∃ v, e = .returned v ∧ Own w' w.heap.size 1 v (dropL l x).length (icells (dropL l x)) ∧ Below w.heap.size w w' := by
  subst hl
  have HR : Box _ := ⟨hR⟩
  clear hR
  go_enter Try.func11, Try.ntmps11
  go_wp2
  go_loopw [5, 6] (fun v i wr => ∃ k : Nat, k ≤ l.length ∧ i = .int .i64 (k : Int) ∧ Box (Own wr w.heap.size 1 v (dropL (l.take k) x).length (icells (dropL (l.take k) x))) ∧ Box (Below w.heap.size w wr)) (fun _ i _ => l.length - (intOf i).toNat)
  case atStart => exact ⟨0, Nat.zero_le _, rfl, ⟨by simpa [dropL, icells] using Own.nil _ _ _⟩, ⟨Below.refl _ _⟩⟩
  case round =>
    obtain ⟨k, hk, rfl, HN, HW⟩ := hrel
    by_cases hlt : k < l.length
    · obtain ⟨y, hy⟩ := some_at hlt
      have HS : Box _ := ⟨dropL_snoc (l.take k) x y⟩
      rw [← take_snoc_of hy] at HS
      have hle := dropL_le (l.take k) x
      have hle2 : (l.take k).length ≤ k := by rw [List.length_take]; omega
      obtain ⟨ad, rfl, hcell⟩ := (HR.out.below HW.out).get (icells_at hy)
      clear hy
      by_cases e : y = x
      · subst e
        rw [if_pos rfl] at HS
        have e2 : (y != y) = false := by simp
        go_wp2
        go_roundw
        case rel => exact ⟨k + 1, by omega, by go_num, by rw [HS.out]; exact HN, HW⟩
        case measure => simp [intOf]; omega
      · rw [if_neg e] at HS
        have e2 : (y != x) = true := by simpa using e
        have hlen : (dropL (l.take k) x).length ≤ 1000000 := by omega
        go_wp2_with (at_builtin; refine appO el_int w.heap.size rfl _ _ rfl rfl (HN.out.alloc _) (news := icells [y]) rfl rfl (rowAt_alloc _ _ _) (one_icells _) (by omega) (Nat.le_trans HW.out.size (by simp)) ?_; intro v1 w3 hown1 hg1 _; have HO3 : Box (Own w3 w.heap.size 1 v1 (dropL (l.take (k + 1)) x).length (icells (dropL (l.take (k + 1)) x))) := ⟨(by rw [HS.out, icells, List.map_append, List.length_append]; exact hown1)⟩; have HB3 : Box (Below w.heap.size w w3) := ⟨Own.grown_below (HN.out.alloc _) (HW.out.alloc HW.out.size _) hg1 (Nat.le_refl _)⟩; clear hown1 hg1)
        go_roundw
        case rel => exact ⟨k + 1, by omega, by go_num, HO3, HB3⟩
        case measure => simp [intOf]; omega
    · obtain rfl : k = l.length := by omega
      have e : l.take l.length = l := List.take_of_length_le (Nat.le_refl _)
      rw [e] at HN
      go_wp2
      go_ret
      exact ⟨_, rfl, HN.out, HW.out⟩

theorem mk_app2 (a b : List UInt8) : (⟨(a ++ b).toArray⟩ : ByteArray) = ⟨a.toArray⟩ ++ ⟨b.toArray⟩ := by
  apply ByteArray.ext
  rw [ByteArray.data_append]
  simp
theorem setL_upd {l : List Int} {k y : Nat} (hy : l[k]? = some (y : Int)) : (fun j : Nat => decide ((j : Int) ∈ l.take (k + 1))) = upd (fun j : Nat => decide ((j : Int) ∈ l.take k)) y true := by
  funext j
  rw [take_snoc_of hy]
  unfold upd
  by_cases e : j = y
  · subst e; simp
  · rw [if_neg e]
    have : ¬ (j : Int) = (y : Int) := by omega
    simp [this]
set_option maxHeartbeats 3200000 in
set_option maxRecDepth 100000 in
theorem layRoom_calls (n : Nat) (A : Option Addr) (m0 c : Nat) (l : List Int) (w : World) (hl : l.length = m0) (hn : n ≤ 1900) (hm0 : m0 ≤ 1000000) (hR : RowAt w A (icells l)) (hin : ∀ x ∈ l, 0 ≤ x ∧ x < (n : Int)) :
    Calls Try.prog 22 #[.int .i64 (n : Int), .slice A m0 c] w fun e w' => e = .returned (.string (roomB n (fun j => decide ((j : Int) ∈ l)))) ∧ Below w.heap.size w w' := by
  subst hl
  have HR : Box _ := ⟨hR⟩
  have HIN : Box _ := ⟨hin⟩
  clear hR hin
  obtain ⟨f, hf⟩ : ∃ f : Nat → Bool, (fun j : Nat => decide ((j : Int) ∈ l)) = f := ⟨_, rfl⟩
  have HF0 : Box _ := ⟨hf⟩
  rw [hf]
  clear hf
  obtain ⟨m, hm⟩ : ∃ m, (n + 7) / 8 = m := ⟨_, rfl⟩
  have hm1 : m ≤ 240 := by omega
  have HM : Box _ := ⟨hm⟩
  have y1 : (((n : Int) + 7).tdiv 8) = (m : Int) := by rw [Int.tdiv_eq_ediv_of_nonneg (by omega)]; omega
  have y2 : ((n : Int) + 7) / 8 = (m : Int) := by omega
  have hmk := fun W => make_u8 m (by omega) W
  have HO := Lib.hid (zeros_own w m (Nat.le_trans hm1 (by decide)))
  have HB : Box (Below w.heap.size w (w.alloc (.cells (bcells (List.replicate m 0)).toArray 5))) := ⟨(Below.refl _ _).alloc (Nat.le_refl _) _⟩
  clear hm
  go_enter Try.func22, Try.ntmps22
  go_wp2
  clear y1 y2
  go_loopw [6] (fun i wr => ∃ k : Nat, k ≤ l.length ∧ i = .int .i64 (k : Int) ∧ Box (Own wr w.heap.size 1 (.slice (some ⟨w.heap.size, 0, none⟩) m m) m (bcells (flagL (fun j => decide ((j : Int) ∈ l.take k)) n))) ∧ Box (Below w.heap.size w wr)) (fun i _ => l.length - (intOf i).toNat)
  case atStart => exact ⟨0, Nat.zero_le _, rfl, ⟨by
    have e : flagL (fun j => decide ((j : Int) ∈ l.take 0)) n = List.replicate ((n + 7) / 8) 0 := by rw [← flagL_none]; exact flagL_congr fun j _ => by simp
    rw [e, HM.out]; exact HO.out⟩, HB⟩
  case round =>
    obtain ⟨k, hk, rfl, HN, HW⟩ := hrel
    by_cases hlt : k < l.length
    · obtain ⟨x, hx⟩ := some_at hlt
      obtain ⟨x0, x1⟩ := HIN.out x (List.mem_of_getElem? hx)
      obtain ⟨y, rfl⟩ : ∃ y : Nat, x = (y : Int) := ⟨x.toNat, by omega⟩
      obtain ⟨ad, rfl, hcell⟩ := (HR.out.below HW.out).get (icells_at hx)
      have HX : Box _ := ⟨setL_upd hx⟩
      have hyn : y < n := by omega
      obtain ⟨q, hq⟩ : ∃ q, y / 8 = q := ⟨_, rfl⟩
      obtain ⟨r, hr⟩ : ∃ r, y % 8 = r := ⟨_, rfl⟩
      have hk8 : q < m := by have := HM.out; omega
      obtain ⟨fk, hf⟩ : ∃ fk : Nat → Bool, (fun j : Nat => decide ((j : Int) ∈ l.take k)) = fk := ⟨_, rfl⟩
      rw [hf] at HX HN
      obtain ⟨c1, f1⟩ := HN.out.cell (j := q) (u := .int .u8 ((flagB fk n q).toNat : Int)) (by
        rw [bcells, List.getElem?_map, flagL_at _ (by rw [HM.out]; exact hk8)]; rfl)
      have z1 : ((y : Int)).tdiv 8 = (q : Int) := by rw [Int.tdiv_eq_ediv_of_nonneg (by omega)]; omega
      have z2 : ((y : Int)).tmod 8 = (r : Int) := by rw [Int.tmod_eq_emod_of_nonneg (by omega)]; omega
      have z3 : (y : Int) / 8 = (q : Int) := by omega
      have z4 : (y : Int) % 8 = (r : Int) := by omega
      have Z5 : Box _ := ⟨flag_or (flagB fk n q) y⟩
      rw [hr] at Z5
      have z6 : (r : Int) < 8 := by omega
      have HQ : Box _ := ⟨hq⟩
      have HRr : Box _ := ⟨hr⟩
      clear hq hr hf hx
      go_wp2
      go_region
      go_wp2
      go_roundw
      case rel =>
        refine ⟨k + 1, by omega, by go_num, ⟨?_⟩, ⟨bel_drew (HW.out.setCell (by simp) _)⟩⟩
        have h1 := (HN.out.set q (by rw [bcells, List.length_map, flagL_length, HM.out]; exact hk8) (.int .u8 (bits BinOp.or IntKind.u8 ((flagB fk n q).toNat : Int) (2 ^ r % 256)))).1
        have h2 := flagL_upd fk hyn
        rw [HQ.out, HRr.out] at h2
        rw [HX.out, ← h2]
        rw [Z5.out] at h1 ⊢
        rw [bcells_set] at h1
        exact h1.drew
      case measure => simp [intOf]; omega
    · obtain rfl : k = l.length := by omega
      have e : l.take l.length = l := List.take_of_length_le (Nat.le_refl _)
      rw [e] at HN
      rw [HF0.out] at HN
      clear e
      have HRow : Box (RowAt wr (some ⟨w.heap.size, 0, none⟩) (bcells (flagL f n))) := ⟨by
        obtain ⟨A, c, e, _, hr, _⟩ := HN.out.slice
        injection e with e1 e2 e3
        subst e1
        exact hr⟩
      have KK : Box (∀ W, Below wr.heap.size wr W → (convert 67 9 (.slice (some ⟨w.heap.size, 0, none⟩) m m)).run Try.prog W = .ok (.string ⟨(flagL f n).toArray⟩) W) := ⟨fun W hW => bytes_str Try.prog 67 5 9 Try.underlying67 Try.underlying5 Try.underlying9 (some ⟨w.heap.size, 0, none⟩) m m (flagL f n) W (by rw [flagL_length, HM.out]) (HRow.out.below hW)⟩
      have hz : (lowS 6 1 ++ lowS n 2) ++ ⟨(flagL f n).toArray⟩ = roomRaw n f := by
        unfold lowS roomRaw
        rw [app_mk, app_mk]
        simp [lowL]
      have hs1 := lowS_size 6 1
      have hs2 := lowS_size n 2
      have hs3 : (⟨(flagL f n).toArray⟩ : ByteArray).size = m := by rw [← HM.out]; simp [ByteArray.size, flagL_length]
      have L1 := fun W => refLow_calls 6 1 W (by omega) (by omega)
      have L2 := fun W => refLow_calls n 2 W (by omega) (by omega)
      have hse := room_sealed n f hn
      have hrs := roomRaw_size n f
      obtain ⟨a, ha⟩ : ∃ a, lowS 6 1 = a := ⟨_, rfl⟩
      obtain ⟨b, hb⟩ : ∃ b, lowS n 2 = b := ⟨_, rfl⟩
      obtain ⟨z, hzz⟩ : ∃ z : ByteArray, ⟨(flagL f n).toArray⟩ = z := ⟨_, rfl⟩
      obtain ⟨R, hR⟩ : ∃ R, roomRaw n f = R := ⟨_, rfl⟩
      rw [ha] at hz hs1 L1
      rw [hb] at hz hs2 L2
      rw [hzz] at hz hs3 KK
      rw [hR] at hz hse hrs
      have L3 := fun W => refSeal_calls 256 R W (by omega) (by omega)
      rw [hse] at L3
      have HL1 : Box _ := ⟨L1⟩
      have HL2 : Box _ := ⟨L2⟩
      have HL3 : Box _ := ⟨L3⟩
      have HZ : Box _ := ⟨hz⟩
      have y3 : IntKind.u64.wrap (n : Int) = (n : Int) := by rw [IntKind.wrap_u64]; omega
      have HW0 : Box (Below wr.heap.size wr wr) := ⟨Below.refl _ _⟩
      have p0 := KK.out wr (Below.refl _ _)
      have r1 := fun W : World => run_string_add (P := Try.prog) W a b (by omega) (by omega)
      have hab : (a ++ b).size = 3 := by rw [ByteArray.size_append]; omega
      obtain ⟨ab, hab2⟩ : ∃ ab, a ++ b = ab := ⟨_, rfl⟩
      rw [hab2] at r1 hab hz
      have r2 := fun W : World => run_string_add (P := Try.prog) W ab z (by omega) (by omega)
      rw [hz] at r2
      clear L1 L2 L3 hz ha hb hzz hR hse hrs hab2 HZ
      go_wp2_with fail
      trace_state
      go_region_held3 (fun w' => (convert 67 9 (.slice (some ⟨w.heap.size, 0, none⟩) m m)).run Try.prog w' = .ok (.string z) w') (first | (refine KK.out _ ?_; repeat (first | exact HW0.out | apply bel_drew | apply bel_alloc)) | fail)
        (first
          | (go_at_call 23; refine Calls.mono (HL3.out _) ?_; rintro e w4 ⟨rfl, h4⟩; replace HW0 : Box (Below wr.heap.size wr w4) := ⟨by first | exact bel_calls HW0.out h4 | exact bel_calls (bel_drew HW0.out) h4⟩; have p2 := KK.out _ HW0.out; clear h4)
          | (go_at_call_of 39 (Value.int IntKind.u64 6); refine Calls.mono (HL1.out _) ?_; rintro e w4 ⟨rfl, h4⟩; replace HW0 : Box (Below wr.heap.size wr w4) := ⟨by first | exact bel_calls HW0.out h4 | exact bel_calls (bel_drew HW0.out) h4⟩; have p2 := KK.out _ HW0.out; clear h4)
          | (go_at_call_of 39 (Value.int IntKind.u64 (n : Int)); refine Calls.mono (HL2.out _) ?_; rintro e w4 ⟨rfl, h4⟩; replace HW0 : Box (Below wr.heap.size wr w4) := ⟨by first | exact bel_calls HW0.out h4 | exact bel_calls (bel_drew HW0.out) h4⟩; have p2 := KK.out _ HW0.out; clear h4))
      all_goals
        go_wp2_with fail
        go_ret
        exact ⟨rfl, below_trans' HW.out HW0.out⟩
end Go.Proofs.Ytoadelcdcfdmfaa
