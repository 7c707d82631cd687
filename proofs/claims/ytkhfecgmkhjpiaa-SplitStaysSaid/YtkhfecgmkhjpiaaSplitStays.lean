/- The law SplitStays. -/
import Derived.Test.YtkhfecgmkhjpiaaSplitEdit
import Derived.Test.YtkhfecgmkhjpiaaSplitSame
namespace Go.Proofs.Ytkhfecgmkhjpiaa
open Go.RowKit
set_option linter.unusedVariables false

theorem edit_end (s wi : ByteArray) {a : Nat} (ha : a ≤ s.size) : edit s wi a (s.size - a) = s.extract 0 a ++ wi := by
  rw [edit, show a + (s.size - a) = s.size by omega]
  have : s.extract s.size s.size = ByteArray.empty := by
    apply ByteArray.ext
    rw [ByteArray.data_extract]
    simp
  rw [this, ByteArray.append_empty]
theorem stays_pure {F : List UInt8 → Nat} (hF : Best F) (s : List UInt8) (a : Nat) (ha : a ≤ s.length) : (againR F s (cutA F 0 s) a a 0).1 = cutA F 0 s ∧ (againR F s (cutA F 0 s) a a 0).2 ≤ 1 := by
  have h1 := again_ok hF (s := s) (t := s) (a := a) (b := a) (g := 0) rfl (by congr 1) (Nat.le_refl _) ha (by omega) (by omega)
  have h2 := again_few hF (s := s) (t := s) (a := a) (b := a) rfl rfl (Nat.le_refl _) ha (by omega) rfl (fun _ _ => rfl)
  exact ⟨h1.1, h2⟩
set_option maxHeartbeats 4000000 in
set_option maxRecDepth 100000 in
theorem splitStays_calls (gen : Int) (s wi : ByteArray) (a : Int) (w : World)
    (_hgen : -9223372036854775808 ≤ gen ∧ gen ≤ 9223372036854775807) (_hss : s.size ≤ 140737488351232) (_hww : wi.size ≤ 140737488351232)
    (_ha : -9223372036854775808 ≤ a ∧ a ≤ 9223372036854775807) :
    Calls Try.prog 10 #[.int .i64 gen, .string s, .string wi, .int .i64 a] w fun e w' => e = .returned (.bool true) ∧ Below w.heap.size w w' := by
  by_cases hin : s.size ≤ 900 ∧ wi.size ≤ 200 ∧ 0 ≤ a ∧ a ≤ (s.size : Int) ∧ 1 ≤ gen ∧ gen ≤ 3
  case neg =>
    have key : ¬ s.size ≤ 900 ∨ (s.size ≤ 900 ∧ ¬ wi.size ≤ 200) ∨ (s.size ≤ 900 ∧ wi.size ≤ 200 ∧ ¬ 0 ≤ a) ∨ (s.size ≤ 900 ∧ wi.size ≤ 200 ∧ 0 ≤ a ∧ ¬ a ≤ (s.size : Int)) ∨ (s.size ≤ 900 ∧ wi.size ≤ 200 ∧ 0 ≤ a ∧ a ≤ (s.size : Int) ∧ ¬ 1 ≤ gen) ∨ (s.size ≤ 900 ∧ wi.size ≤ 200 ∧ 0 ≤ a ∧ a ≤ (s.size : Int) ∧ 1 ≤ gen ∧ ¬ gen ≤ 3) := by omega
    clear hin
    rcases key with h1 | ⟨h1, h2⟩ | ⟨h1, h2, h3⟩ | ⟨h1, h2, h3, h4⟩ | ⟨h1, h2, h3, h4, h5⟩ | ⟨h1, h2, h3, h4, h5, h6⟩
    all_goals
      go_enter Try.func10, Try.ntmps10
      go_wp2_with fail
      refine (splitAlive_calls _).mono ?_
      rintro e w1 ⟨rfl, hb1⟩
      have HB1 := Lib.hid hb1
      clear hb1
      go_wp2
      go_ret
      exact ⟨rfl, HB1.out⟩
  obtain ⟨h1, h2, k1, k2, h3, h4⟩ := hin
  obtain ⟨a, rfl⟩ := Int.eq_ofNat_of_zero_le k1
  obtain ⟨cv, F, hf⟩ := form_of h3 h4
  obtain ⟨tc, vc, rfl⟩ := hf.cutter.ne
  have HF := Lib.hid hf
  have ha : a ≤ s.size := by omega
  have hst := stays_pure hf.cutter.best s.data.toList a (by rw [data_length]; exact ha)
  have hee := edit_end s wi ha
  obtain ⟨t, ht⟩ : ∃ t, edit s wi a (s.size - a) = t := ⟨_, rfl⟩
  have hts := edit_size (s := s) (wi := wi) (a := a) (c := s.size - a) ha (Nat.le_refl _)
  have htk := edit_take (s := s) (wi := wi) (a := a) (c := s.size - a) ha
  have hAg := fun B sn sc W => againEdit_calls hf.cutter B sn sc s wi a (s.size - a) W (by omega) (by omega) ha (Nat.le_refl _)
  rw [ht] at hts hAg hee htk
  have hahead := fun i p h1 h2 h3 => cut_ahead hf.cutter.best htk (i := i) (p := p) h1 h2 h3
  have ez : (a : Int) + (wi.size : Int) = (t.size : Int) := by omega
  have eg : (wi.size : Int) - ((s.size - a : Nat) : Int) = (t.size : Int) - (s.size : Int) := by omega
  rw [ez, eg] at hAg
  have hor : ∀ p ∈ cutA F 0 s.data.toList, p.2 ≤ 9223372036854775807 := fun p hp => by have := cut_range hf.cutter.best.toGood hp; rw [data_length] at this; omega
  have hRf0 := fun W => hf.ref s W (by omega)
  have hRf := fun W => hf.ref t W (by omega)
  have hn0 := cutA_length hf.cutter.best.toGood s.data.toList.length 0 s.data.toList (Nat.le_refl _)
  have hn := cutA_length hf.cutter.best.toGood t.data.toList.length 0 t.data.toList (Nat.le_refl _)
  rw [data_length] at hn0 hn
  obtain ⟨L0, hL0⟩ : ∃ L0, cutA F 0 s.data.toList = L0 := ⟨_, rfl⟩
  obtain ⟨L, hL⟩ : ∃ L, cutA F 0 t.data.toList = L := ⟨_, rfl⟩
  rw [hL0] at hst hAg hor hRf0 hn0
  rw [hL0, hL] at hahead
  rw [hL] at hAg hRf hn
  obtain ⟨N0, hN0⟩ : ∃ N0, L0.length = N0 := ⟨_, rfl⟩
  obtain ⟨N, hN⟩ : ∃ N, L.length = N := ⟨_, rfl⟩
  have hAs := fun B sc W hsc hR => again_calls hf.cutter B N0 sc L0 s (a : Int) (a : Int) 0 W (by omega) (by omega) hsc hN0 (by omega) (by omega) (by omega) hor hR
  obtain ⟨R, hRR⟩ : ∃ R, againR F s.data.toList L0 a a 0 = R := ⟨_, rfl⟩
  rw [hRR] at hAs hst
  obtain ⟨R1, R2⟩ := R
  obtain ⟨e1, hR2⟩ := hst
  simp only at e1 hR2
  subst e1
  simp only at hAs
  rw [hN0] at hAs hRf0 hn0 hahead
  rw [hN] at hAg hRf hn
  have HAs := Lib.hid hAs
  have HAg := Lib.hid hAg
  have HRf0 := Lib.hid hRf0
  have HRf := Lib.hid hRf
  have HN0 := Lib.hid hN0
  have HN := Lib.hid hN
  have HAhead := Lib.hid hahead
  have HT : Hid (t = s.extract 0 a ++ wi) := hee
  have b1 : R2 ≤ 1 := hR2
  have b2 : ¬ (R2 : Int) < 0 := by omega
  have b3 : ¬ (1 : Int) < (R2 : Int) := by omega
  have b4 : N0 ≤ 900 := by omega
  have b5 : N ≤ 1100 := by omega
  have z1 : (s.extract 0 a).size ≤ 1000 := by rw [ByteArray.size_extract]; omega
  have r1 := fun W : World => run_string_add (P := Try.prog) W (s.extract 0 a) wi (by omega) (by omega)
  rw [← hee] at r1
  have w4 := IntWalk.i64_in ((t.size : Int) - s.size) (by omega)
  clear hAs hAg hRf0 hRf hL0 hL ht hts ez eg hN0 hN hn hn0 hf z1 hahead htk hee hRR hor hR2
  go_enter Try.func10, Try.ntmps10
  go_wp2_with fail
  refine (splitAlive_calls _).mono ?_
  rintro e u1 ⟨rfl, hb1⟩
  have HB1 := Lib.hid hb1
  clear hb1
  go_wp2_with fail
  refine (HF.out.of _).mono ?_
  rintro e u2 ⟨rfl, hb2⟩
  have HB2 := Lib.hid (below_trans' HB1.out hb2)
  clear hb2
  go_wp2_with fail
  refine Calls.mono (HRf0.out _) ?_
  rintro e u3 ⟨v, rfl, ho, hb3⟩
  obtain ⟨A3, c3, rfl, hc3, hr3, _⟩ := ho.slice
  have HR3 := Lib.hid hr3
  have HB3 := Lib.hid (below_trans' HB2.out hb3)
  clear ho hb3 hr3
  go_wp2_with fail
  refine Calls.mono (HAs.out _ _ _ hc3 HR3.out) ?_
  rintro e u4 ⟨v, rfl, ho, hb4⟩
  obtain ⟨A4, c4, rfl, hc4, hr4, _⟩ := ho.slice
  have HR3b := Lib.hid (HR3.out.below hb4)
  have HB4 := Lib.hid (below_trans' HB3.out hb4)
  have HS := refSameSpans_calls A4 A3 N0 N0 c4 c3 R1 R1 u4 HN0.out HN0.out (by omega) hr4 HR3b.out
  rw [decide_eq_true (rfl : R1 = R1)] at HS
  have HSS := Lib.hid HS
  clear ho hb4 hr4 HS
  go_wp2_with fail
  refine Calls.mono HSS.out ?_
  rintro e u5 ⟨rfl, hb5⟩
  have HR3c := Lib.hid (HR3b.out.below hb5)
  have HB5 := Lib.hid (below_trans' HB4.out hb5)
  clear hb5
  go_wp2_with fail
  refine Calls.mono (HAg.out _ _ _ _ hc3 HN0.out HR3c.out) ?_
  rintro e u6 ⟨v, n, rfl, _, ho, hb6⟩
  obtain ⟨A6, c6, rfl, hc6, hr6, _⟩ := ho.slice
  have HR6 := Lib.hid hr6
  have HR3d := Lib.hid (HR3c.out.below hb6)
  have HB6 := Lib.hid (below_trans' HB5.out hb6)
  clear ho hb6 hr6 r1 w4 b2 b3
  go_upto_block 0 with fail
  go_cut [17] (fun _ wx => Hid (Below u6.heap.size u6 wx))
  case first =>
    go_wp2_with fail
    go_loopw [17] (fun vi wr => ∃ k : Nat, k ≤ N0 ∧ vi = .int .i64 k ∧ Hid (Below u6.heap.size u6 wr)) (fun vi _ => N0 - (intOf vi).toNat)
    case atStart => exact ⟨0, Nat.zero_le _, rfl, Below.refl _ _⟩
    case round =>
      obtain ⟨k, hk, rfl, HW⟩ := hrel
      have w5 := IntWalk.i64_in ((k : Int) + 1) (by omega)
      by_cases hlt : k + 1 < N0
      · have hlti : (k : Int) + 1 < (N0 : Int) := by omega
        have hkb : (k : Int) < (N0 : Int) := by omega
        have hk0 : (0 : Int) ≤ (k : Int) := by omega
        obtain ⟨⟨x, y⟩, hx⟩ := some_at (show k < R1.length by have := HN0.out; omega)
        obtain ⟨g3, o3, rfl, _, s1, s2⟩ := pair_at (HR3d.out.below HW.out) hx
        simp only at s1 s2
        by_cases hya : y ≤ (a : Int)
        · have hm := HAhead.out k (x, y) hlt hx hya
          have hkN : k < N := by have := (List.getElem?_eq_some_iff.1 hm).1; have := HN.out; omega
          obtain ⟨g6, o6, rfl, _, s3, s4⟩ := pair_at (HR6.out.below HW.out) hm
          simp only at s3 s4
          have hkNi : ¬ (N : Int) ≤ (k : Int) := by omega
          have hkNj : (k : Int) < (N : Int) := by omega
          have hkd := decide_eq_false hkNi
          have hkm : ¬ N ≤ k := by omega
          have hke : decide (N ≤ k) = false := decide_eq_false hkm
          clear hm hx
          go_wp2_with fail
          go_big_quiet (fail)
          go_wp2
          go_roundw
          case rel => exact ⟨k + 1, by omega, by go_num, by first | exact HW | exact below_drewN HW.out _⟩
          case measure => simp [intOf]; omega
        · clear hx
          go_wp2_with fail
          go_meet
          exact HW
      · have hlti : ¬ (k : Int) + 1 < (N0 : Int) := by omega
        go_wp2_with fail
        go_meet
        exact HW
  have HB7 := Lib.hid (below_trans' HB6.out hcut.out)
  have HR7 := Lib.hid (HR6.out.below hcut.out)
  clear hcut
  go_wp2_with fail
  refine Calls.mono (HRf.out _) ?_
  rintro e u8 ⟨v, rfl, ho, hb8⟩
  obtain ⟨A8, c8, rfl, _, hr8, _⟩ := ho.slice
  have HB8 := Lib.hid (below_trans' HB7.out hb8)
  have HS := refSameSpans_calls A6 A8 N N c6 c8 L L u8 HN.out HN.out (by omega) (HR7.out.below hb8) hr8
  rw [decide_eq_true (rfl : L = L)] at HS
  have HSS2 := Lib.hid HS
  clear ho hb8 hr8 HS
  go_wp2_with fail
  refine Calls.mono HSS2.out ?_
  rintro e u9 ⟨rfl, hb9⟩
  have HB9 := Lib.hid (below_trans' HB8.out hb9)
  clear hb9
  go_wp2
  go_ret
  exact ⟨rfl, HB9.out⟩
end Go.Proofs.Ytkhfecgmkhjpiaa
