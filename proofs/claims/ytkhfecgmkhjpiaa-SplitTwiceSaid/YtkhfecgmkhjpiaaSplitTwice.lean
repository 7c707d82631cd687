/- The law SplitTwice. -/
import Derived.Test.YtkhfecgmkhjpiaaSplitEdit
import Derived.Test.YtkhfecgmkhjpiaaSplitSame
namespace Go.Proofs.Ytkhfecgmkhjpiaa
open Go.RowKit
set_option linter.unusedVariables false
attribute [local go_sem] max2_int min2_int max_two min_two

/-- Numbers held in bounds. -/
def inB (x : Int) (m : Nat) : Nat := (min (max x 0) m).toNat
theorem inB_le (x : Int) (m : Nat) : inB x m ≤ m := by unfold inB; omega
theorem inB_int (x : Int) (m : Nat) : min (max x 0) (m : Int) = (inB x m : Nat) := by unfold inB; omega
theorem ints_two {w : World} {A : Option Addr} {l : List Int} (hR : RowAt w A (icells l)) (hl : l.length = 2) :
    ∃ g o x y, A = some ⟨g, o, none⟩ ∧ l = [x, y] ∧ ∀ W, Below w.heap.size w W → W.cell? ⟨g, o, none⟩ = some (.int .i64 x) ∧ W.cell? ⟨g, o + 1, none⟩ = some (.int .i64 y) := by
  match l, hl with
  | [x, y], _ =>
    obtain ⟨g, o, rfl, _, h⟩ := hR.addr (by simp [icells])
    refine ⟨g, o, x, y, rfl, rfl, fun W hb => ⟨?_, ?_⟩⟩
    · exact cell_kept hb (Nat.le_refl _) (h 0 _ rfl)
    · exact cell_kept hb (Nat.le_refl _) (h 1 _ rfl)
set_option maxHeartbeats 4000000 in
set_option maxRecDepth 100000 in
theorem splitTwice_calls (gen : Int) (s : ByteArray) (A : Option Addr) (an ac : Nat) (la : List Int) (B : Option Addr) (bn bc : Nat) (lb : List Int) (wi : ByteArray) (w : World)
    (_hgen : -9223372036854775808 ≤ gen ∧ gen ≤ 9223372036854775807) (_hss : s.size ≤ 140737488351232)
    (hla : la.length = an) (_hac : an ≤ ac) (_han : an * 8 ≤ 140737488351232) (hsa : ∀ x ∈ la, -9223372036854775808 ≤ x ∧ x ≤ 9223372036854775807) (hRA : RowAt w A (icells la))
    (hlb : lb.length = bn) (_hbc : bn ≤ bc) (_hbn : bn * 8 ≤ 140737488351232) (hsb : ∀ x ∈ lb, -9223372036854775808 ≤ x ∧ x ≤ 9223372036854775807) (hRB : RowAt w B (icells lb)) (_hww : wi.size ≤ 140737488351232) :
    Calls Try.prog 9 #[.int .i64 gen, .string s, .slice A an ac, .slice B bn bc, .string wi] w fun e w' => e = .returned (.bool true) ∧ Below w.heap.size w w' := by
  by_cases hin : s.size ≤ 700 ∧ wi.size ≤ 150 ∧ 1 ≤ gen ∧ gen ≤ 3 ∧ an = 2 ∧ bn = 2
  case neg =>
    have key : ¬ s.size ≤ 700 ∨ (s.size ≤ 700 ∧ ¬ wi.size ≤ 150) ∨ (s.size ≤ 700 ∧ wi.size ≤ 150 ∧ ¬ 1 ≤ gen) ∨ (s.size ≤ 700 ∧ wi.size ≤ 150 ∧ 1 ≤ gen ∧ ¬ gen ≤ 3) ∨ (s.size ≤ 700 ∧ wi.size ≤ 150 ∧ 1 ≤ gen ∧ gen ≤ 3 ∧ an ≠ 2) ∨ (s.size ≤ 700 ∧ wi.size ≤ 150 ∧ 1 ≤ gen ∧ gen ≤ 3 ∧ an = 2 ∧ bn ≠ 2) := by omega
    clear hin hRA hRB hsa hsb hla hlb
    rcases key with h1 | ⟨h1, h2⟩ | ⟨h1, h2, h3⟩ | ⟨h1, h2, h3, h4⟩ | ⟨h1, h2, h3, h4, h5⟩ | ⟨h1, h2, h3, h4, h5, h6⟩
    case inr.inr.inr.inr.inl => 
      have i5 : ((an : Int) != 2) = true := by simp; omega
      go_enter Try.func9, Try.ntmps9
      go_wp2_with fail
      refine (splitAlive_calls _).mono ?_
      rintro e w1 ⟨rfl, hb1⟩
      have HB1 := Lib.hid hb1
      clear hb1
      go_wp2
      go_ret
      exact ⟨rfl, HB1.out⟩
    case inr.inr.inr.inr.inr =>
      subst h5
      have i6 : ((bn : Int) != 2) = true := by simp; omega
      go_enter Try.func9, Try.ntmps9
      go_wp2_with fail
      refine (splitAlive_calls _).mono ?_
      rintro e w1 ⟨rfl, hb1⟩
      have HB1 := Lib.hid hb1
      clear hb1
      go_wp2
      go_ret
      exact ⟨rfl, HB1.out⟩
    all_goals
      go_enter Try.func9, Try.ntmps9
      go_wp2_with fail
      refine (splitAlive_calls _).mono ?_
      rintro e w1 ⟨rfl, hb1⟩
      have HB1 := Lib.hid hb1
      clear hb1
      go_wp2
      go_ret
      exact ⟨rfl, HB1.out⟩
  obtain ⟨h1, h2, h3, h4, rfl, rfl⟩ := hin
  obtain ⟨ga, oa, xa, ya, rfl, rfl, hca⟩ := ints_two hRA hla
  obtain ⟨gb, ob, xb, yb, rfl, rfl, hcb⟩ := ints_two hRB hlb
  have HCa := Lib.hid hca
  have HCb := Lib.hid hcb
  clear hca hcb hRA hRB hla hlb hsa hsb
  obtain ⟨cv, F, hf⟩ := form_of h3 h4
  obtain ⟨tc, vc, rfl⟩ := hf.cutter.ne
  have HF := Lib.hid hf
  have HGood := Lib.hid hf.cutter.best.toGood
  have hRf0 := fun W => hf.ref s W (by omega)
  have hn0 := cutA_length hf.cutter.best.toGood s.data.toList.length 0 s.data.toList (Nat.le_refl _)
  obtain ⟨L0, hL0⟩ : ∃ L0, cutA F 0 s.data.toList = L0 := ⟨_, rfl⟩
  rw [hL0] at hRf0 hn0
  rw [data_length] at hn0
  obtain ⟨N0, hN0⟩ : ∃ N0, L0.length = N0 := ⟨_, rfl⟩
  rw [hN0] at hRf0 hn0
  have HRf0 := Lib.hid hRf0
  have HL0 := Lib.hid hL0
  have HN0 := Lib.hid hN0
  clear hRf0 hL0 hN0 hf
  go_enter Try.func9, Try.ntmps9
  go_wp2_with fail
  refine (splitAlive_calls _).mono ?_
  rintro e u1 ⟨rfl, hb1⟩
  have HB1 := Lib.hid hb1
  clear hb1
  go_wp2_with fail
  refine (HF.out.of _).mono ?_
  rintro e u2 ⟨rfl, hb2⟩
  have HB2 := Lib.hid (below_trans' HB1.out hb2)
  clear hb2
  go_wp2_with fail
  refine Calls.mono (HRf0.out _) ?_
  rintro e u3 ⟨v, rfl, ho, hb3⟩
  obtain ⟨A3, c3, rfl, hc3, hr3, _⟩ := ho.slice
  have HR3 := Lib.hid hr3
  have HB3 := Lib.hid (below_trans' HB2.out hb3)
  clear ho hb3 hr3
  go_wp2_with fail
  have HR4 := Lib.hid (HR3.out.alloc (.cells #[.slice (some ⟨ga, oa, none⟩) 2 ac, .slice (some ⟨gb, ob, none⟩) 2 bc] 79))
  have HB4 := Lib.hid (HB3.out.alloc HB3.out.size (.cells #[.slice (some ⟨ga, oa, none⟩) 2 ac, .slice (some ⟨gb, ob, none⟩) 2 bc] 79))
  have HT4 := Lib.hid (rowAt_alloc u3 [.slice (some ⟨ga, oa, none⟩) 2 ac, .slice (some ⟨gb, ob, none⟩) 2 bc] 79)
  obtain ⟨u4, hu4⟩ : ∃ u4, u3.alloc (.cells #[.slice (some ⟨ga, oa, none⟩) 2 ac, .slice (some ⟨gb, ob, none⟩) 2 bc] 79) = u4 := ⟨_, rfl⟩
  have ht4 : RowAt u4 (some ⟨u3.heap.size, 0, none⟩) [.slice (some ⟨ga, oa, none⟩) 2 ac, .slice (some ⟨gb, ob, none⟩) 2 bc] := by rw [← hu4]; exact HT4.out
  rw [hu4] at HR4 HB4 ⊢
  clear HT4 hu4
  have HTw : Hid (∀ (k : Nat) W, k < 2 → Below u4.heap.size u4 W → ∃ (g o cx : Nat) (x y : Int), W.cell? ⟨u3.heap.size, k, none⟩ = some (.slice (some ⟨g, o, none⟩) 2 cx) ∧ W.cell? ⟨g, o, none⟩ = some (.int .i64 x) ∧ W.cell? ⟨g, o + 1, none⟩ = some (.int .i64 y)) := by
    intro k W hk hb
    have hw := HB4.out.trans (hb.mono HB4.out.size)
    rcases (by omega : k = 0 ∨ k = 1) with rfl | rfl
    · exact ⟨ga, oa, ac, xa, ya, cell_kept hb (Nat.le_refl _) (row_cell ht4 (j := 0) rfl), HCa.out W hw⟩
    · exact ⟨gb, ob, bc, xb, yb, cell_kept hb (Nat.le_refl _) (row_cell ht4 (j := 1) rfl), HCb.out W hw⟩
  clear ht4
  go_loopw [1, 13, 15] (fun vs vl vi wr => ∃ (k : Nat) (s' : ByteArray) (A' : Option Addr) (N' c' : Nat), k ≤ 2 ∧ vi = .int .i64 k ∧ vs = .string s' ∧ vl = .slice A' N' c' ∧ s'.size ≤ 700 + 150 * k ∧ N' ≤ c' ∧ Hid ((cutA F 0 s'.data.toList).length = N' ∧ RowAt wr A' (pcells (cutA F 0 s'.data.toList))) ∧ Hid (Below u4.heap.size u4 wr)) (fun _ _ vi _ => 2 - (intOf vi).toNat)
  case atStart => exact ⟨0, s, A3, N0, c3, by omega, rfl, rfl, rfl, by omega, hc3, ⟨by rw [HL0.out, HN0.out], by rw [HL0.out]; exact HR4.out⟩, Below.refl _ _⟩
  case round =>
    obtain ⟨k, s', A', N', c', hk, rfl, rfl, rfl, hs', hc', HRow, HW⟩ := hrel
    by_cases hlt : k < 2
    · obtain ⟨g, o, cx, x, y, c0, c1, c2⟩ := HTw.out k wr hlt HW.out
      have hp0 := inB_int x s'.size
      have hp1 := inB_le x s'.size
      obtain ⟨p, hp⟩ : ∃ p, inB x s'.size = p := ⟨_, rfl⟩
      rw [hp] at hp0 hp1
      have hq0 := inB_int y (s'.size - p)
      have hq1 := inB_le y (s'.size - p)
      obtain ⟨q, hq⟩ : ∃ q, inB y (s'.size - p) = q := ⟨_, rfl⟩
      rw [hq] at hq0 hq1
      rw [show ((s'.size - p : Nat) : Int) = (s'.size : Int) - (p : Int) by omega] at hq0
      clear hp hq
      obtain ⟨t, ht⟩ : ∃ t, edit s' wi p q = t := ⟨_, rfl⟩
      have hts := edit_size (wi := wi) hp1 hq1
      rw [ht] at hts
      have hAg := fun B sn sc W => againEdit_calls HF.out.cutter B sn sc s' wi p q W (by omega) (by omega) hp1 hq1
      rw [ht] at hAg
      have HRf := Lib.hid (fun W => HF.out.ref t W (by omega))
      have hn := cutA_length HGood.out t.data.toList.length 0 t.data.toList (Nat.le_refl _)
      rw [data_length] at hn
      obtain ⟨L0', hL0'⟩ : ∃ L, cutA F 0 s'.data.toList = L := ⟨_, rfl⟩
      rw [hL0'] at hAg HRow
      obtain ⟨L, hL⟩ : ∃ L, cutA F 0 t.data.toList = L := ⟨_, rfl⟩
      rw [hL] at hAg HRf hn
      obtain ⟨N, hN⟩ : ∃ N, L.length = N := ⟨_, rfl⟩
      rw [hN] at hAg HRf hn
      have HAg := Lib.hid hAg
      have HL := Lib.hid hL
      have HN := Lib.hid hN
      have HT : Hid (s'.extract 0 p ++ wi ++ s'.extract (p + q) s'.size = t) := ht
      have z1 : (s'.extract 0 p).size ≤ 1000 := by rw [ByteArray.size_extract]; omega
      have z2 : (s'.extract (p + q) s'.size).size ≤ 1000 := by rw [ByteArray.size_extract]; omega
      have r1 := fun W : World => run_string_add (P := Try.prog) W (s'.extract 0 p) wi (by omega) (by omega)
      have r2 := fun W : World => run_string_add (P := Try.prog) W (s'.extract 0 p ++ wi) (s'.extract (p + q) s'.size) (by rw [ByteArray.size_append]; omega) (by omega)
      have w1 := IntWalk.i64_in ((s'.size : Int) - p) (by omega)
      have w2 := IntWalk.i64_in ((p : Int) + q) (by omega)
      have w3 := IntWalk.i64_in ((p : Int) + wi.size) (by omega)
      have w4 := IntWalk.i64_in ((wi.size : Int) - q) (by omega)
      have w5 : ((p : Int) + (q : Int)).toNat = p + q := by omega
      have j1 : ((p : Int) + q) ≤ s'.size := by omega
      have j2 : (p : Int) ≤ s'.size := by omega
      have j3 : (0 : Int) ≤ (p : Int) + q := by omega
      have HTs : Hid (t.size ≤ 700 + 150 * (k + 1)) := by rw [Hid]; omega
      clear hAg hL0' hL hN ht hts z1 z2
      go_wp2_with fail
      go_big_quiet (fail)
      rw [HT.out]
      clear r1 r2 w1 w2 w5 j1 j2 j3 c0 c1 c2 hp0 hq0
      go_wp2_with fail
      refine Calls.mono (HAg.out _ _ _ _ hc' HRow.out.1 (HRow.out.2.below (below_drewN (Below.refl _ _) _))) ?_
      rintro e u5 ⟨v, n, rfl, hnl, ho, hb5⟩
      obtain ⟨A5, c5, rfl, hc5, hr5, _⟩ := ho.slice
      have HR5 := Lib.hid hr5
      have HW5 := Lib.hid (below_trans' (below_drewN HW.out _) hb5)
      clear ho hb5 hr5
      go_wp2_with fail
      refine Calls.mono (HRf.out _) ?_
      rintro e u6 ⟨v, rfl, ho, hb6⟩
      obtain ⟨A6, c6, rfl, _, hr6, _⟩ := ho.slice
      have HR6 := Lib.hid hr6
      have HR5b := Lib.hid (HR5.out.below hb6)
      have HW6 := Lib.hid (below_trans' HW5.out hb6)
      clear ho hb6 hr6
      have HS := refSameSpans_calls A5 A6 N N c5 c6 L L u6 HN.out HN.out (by have := HTs.out; omega) HR5b.out HR6.out
      rw [decide_eq_true (rfl : L = L)] at HS
      have HSS := Lib.hid HS
      clear HS
      go_wp2_with fail
      refine Calls.mono HSS.out ?_
      rintro e u7 ⟨rfl, hb7⟩
      have HW7 := Lib.hid (below_trans' HW6.out hb7)
      have HR7 := Lib.hid (HR5b.out.below hb7)
      clear hb7
      go_wp2
      go_roundw
      case rel => exact ⟨k + 1, t, A5, N, c5, by omega, by go_num, rfl, rfl, HTs.out, hc5, ⟨by rw [HL.out]; exact HN.out, by rw [HL.out]; exact HR7.out⟩, HW7⟩
      case measure => simp [intOf]; omega
    · go_wp2
      go_ret
      exact ⟨rfl, HB4.out.trans (HW.out.mono HB4.out.size)⟩
end Go.Proofs.Ytkhfecgmkhjpiaa
