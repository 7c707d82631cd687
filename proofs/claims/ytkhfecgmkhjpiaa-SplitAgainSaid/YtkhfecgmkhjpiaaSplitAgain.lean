/- The law SplitAgain. -/
import Derived.Test.YtkhfecgmkhjpiaaSplitEdit
namespace Go.Proofs.Ytkhfecgmkhjpiaa
open Go.RowKit
set_option linter.unusedVariables false

set_option maxHeartbeats 4000000 in
set_option maxRecDepth 100000 in
theorem splitAgain_calls (gen : Int) (s wi : ByteArray) (a c : Int) (w : World)
    (_hgen : -9223372036854775808 ≤ gen ∧ gen ≤ 9223372036854775807) (_hss : s.size ≤ 140737488351232) (_hww : wi.size ≤ 140737488351232)
    (_ha : -9223372036854775808 ≤ a ∧ a ≤ 9223372036854775807) (_hc : -9223372036854775808 ≤ c ∧ c ≤ 9223372036854775807) :
    Calls Try.prog 6 #[.int .i64 gen, .string s, .string wi, .int .i64 a, .int .i64 c] w fun e w' => e = .returned (.bool true) ∧ Below w.heap.size w w' := by
  by_cases hin : s.size ≤ 1000 ∧ wi.size ≤ 400 ∧ 1 ≤ gen ∧ gen ≤ 3
  case neg =>
    by_cases h1 : s.size ≤ 1000
    all_goals by_cases h2 : wi.size ≤ 400
    all_goals by_cases h3 : 1 ≤ gen
    all_goals by_cases h4 : gen ≤ 3
    all_goals first | (exfalso; exact hin ⟨h1, h2, h3, h4⟩) | (exfalso; omega) | skip
    all_goals
      clear hin
      go_enter Try.func6, Try.ntmps6
      go_wp2_with fail
      refine (splitAlive_calls _).mono ?_
      rintro e w1 ⟨rfl, hb1⟩
      have HB1 := Lib.hid hb1
      clear hb1
      go_wp2
      go_ret
      exact ⟨rfl, HB1.out⟩
  obtain ⟨h1, h2, h3, h4⟩ := hin
  by_cases hin : 0 ≤ a ∧ a ≤ (s.size : Int) ∧ 0 ≤ c ∧ c ≤ (s.size : Int) - a
  case neg =>
    by_cases k1 : 0 ≤ a
    all_goals by_cases k2 : a ≤ (s.size : Int)
    all_goals by_cases k3 : 0 ≤ c
    all_goals by_cases k4 : c ≤ (s.size : Int) - a
    all_goals first | (exfalso; exact hin ⟨k1, k2, k3, k4⟩) | (exfalso; omega) | skip
    all_goals
      clear hin
      have w4 := fun (h : 0 ≤ a) (h' : a ≤ (s.size : Int)) => IntWalk.i64_in ((s.size : Int) - a) (by omega)
      go_enter Try.func6, Try.ntmps6
      go_wp2_with fail
      refine (splitAlive_calls _).mono ?_
      rintro e w1 ⟨rfl, hb1⟩
      have HB1 := Lib.hid hb1
      clear hb1
      go_wp2
      go_ret
      exact ⟨rfl, HB1.out⟩
  obtain ⟨k1, k2, k3, k4⟩ := hin
  obtain ⟨a, rfl⟩ := Int.eq_ofNat_of_zero_le k1
  obtain ⟨c, rfl⟩ := Int.eq_ofNat_of_zero_le k3
  obtain ⟨cv, F, hf⟩ := form_of h3 h4
  obtain ⟨tc, vc, rfl⟩ := hf.cutter.ne
  have HF := Lib.hid hf
  have hac : a ≤ s.size ∧ c ≤ s.size - a := by omega
  obtain ⟨L0, hL0⟩ : ∃ L0, cutA F 0 s.data.toList = L0 := ⟨_, rfl⟩
  obtain ⟨t, ht⟩ : ∃ t, edit s wi a c = t := ⟨_, rfl⟩
  have hts := edit_size (wi := wi) hac.1 hac.2
  rw [ht] at hts
  have hAg := fun B sn sc W => againEdit_calls hf.cutter B sn sc s wi a c W (by omega) (by omega) hac.1 hac.2
  rw [ht, hL0] at hAg
  obtain ⟨L, hL⟩ : ∃ L, cutA F 0 t.data.toList = L := ⟨_, rfl⟩
  rw [hL] at hAg
  have hRf0 := fun W => hf.ref s W (by omega)
  have hRf := fun W => hf.ref t W (by omega)
  rw [hL0] at hRf0
  rw [hL] at hRf
  have hn0 := cutA_length hf.cutter.best.toGood s.data.toList.length 0 s.data.toList (Nat.le_refl _)
  have hn := cutA_length hf.cutter.best.toGood t.data.toList.length 0 t.data.toList (Nat.le_refl _)
  rw [hL0, data_length] at hn0
  rw [hL, data_length] at hn
  obtain ⟨N0, hN0⟩ : ∃ N0, L0.length = N0 := ⟨_, rfl⟩
  obtain ⟨N, hN⟩ : ∃ N, L.length = N := ⟨_, rfl⟩
  rw [hN0] at hRf0 hn0
  rw [hN] at hRf hAg hn
  have HAg := Lib.hid hAg
  have HRf0 := Lib.hid hRf0
  have HRf := Lib.hid hRf
  have HN0 := Lib.hid hN0
  have HN := Lib.hid hN
  have HT : Hid (s.extract 0 a ++ wi ++ s.extract (a + c) s.size = t) := ht
  have b1 : N0 ≤ 1000 := by omega
  have b2 : N ≤ 1400 := by omega
  have z1 : (s.extract 0 a).size ≤ 1000 := by rw [ByteArray.size_extract]; omega
  have z2 : (s.extract (a + c) s.size).size ≤ 1000 := by rw [ByteArray.size_extract]; omega
  have r1 := fun W : World => run_string_add (P := Try.prog) W (s.extract 0 a) wi (by omega) (by omega)
  have r2 := fun W : World => run_string_add (P := Try.prog) W (s.extract 0 a ++ wi) (s.extract (a + c) s.size) (by rw [ByteArray.size_append]; omega) (by omega)
  have w1 := IntWalk.i64_in ((s.size : Int) - a) (by omega)
  have w2 := IntWalk.i64_in ((a : Int) + c) (by omega)
  have w3 := IntWalk.i64_in ((a : Int) + wi.size) (by omega)
  have w4 := IntWalk.i64_in ((wi.size : Int) - c) (by omega)
  have w5 : ((a : Int) + (c : Int)).toNat = a + c := by omega
  have j1 : ((a : Int) + c) ≤ s.size := by omega
  clear hAg hRf0 hRf hL hL0 ht hts hac hN0 hN hn hn0 hf z1 z2
  go_enter Try.func6, Try.ntmps6
  go_wp2_with fail
  refine (splitAlive_calls _).mono ?_
  rintro e u1 ⟨rfl, hb1⟩
  have HB1 := Lib.hid hb1
  clear hb1
  go_wp2_with fail
  refine (HF.out.of _).mono ?_
  rintro e u2 ⟨rfl, hb2⟩
  have HB2 := Lib.hid (below_trans' HB1.out hb2)
  clear hb2
  go_wp2_with fail
  refine Calls.mono (HRf0.out _) ?_
  rintro e u3 ⟨v, rfl, ho, hb3⟩
  obtain ⟨A3, c3, rfl, hc3, hr3, _⟩ := ho.slice
  have HR3 := Lib.hid hr3
  have HB3 := Lib.hid (below_trans' HB2.out hb3)
  clear ho hb3 hr3
  go_wp2_with fail
  go_big_quiet (fail)
  rw [HT.out]
  clear r1 r2 w1 w2 w5 j1
  go_wp2_with fail
  refine (lentSpans_calls A3 N0 c3 L0 _ HN0.out (by omega) (HR3.out.below (below_drewN (Below.refl _ _) _))).mono ?_
  rintro e u5 ⟨gk, cpk, rfl, hcpk, hrk, hb5⟩
  have HK5 := Lib.hid hrk
  have HR5 := Lib.hid ((HR3.out.below (below_drewN (Below.refl _ _) _)).below hb5)
  have HB5 := Lib.hid (below_trans' (below_drewN HB3.out _) hb5)
  clear hb5 hrk
  go_wp2_with fail
  refine Calls.mono (HAg.out _ _ _ _ (by omega) HN0.out HK5.out.left) ?_
  rintro e u6 ⟨v, n, rfl, hnl, ho, hb6⟩
  obtain ⟨A6, c6, rfl, hc6, _, _⟩ := ho.slice
  have HO6 := Lib.hid ho
  have H56 := Lib.hid hb6
  have HZ6 := Lib.hid hb6.size
  clear ho hb6
  go_wp2_with fail
  have HBk := Lib.hid (bookNew u6 u5.heap.size HZ6.out 36)
  have HB0 := Lib.hid (H56.out.alloc HZ6.out (.cells (Array.replicate 16 (.slice none 0 0)) 36))
  have HO6b := Lib.hid (HO6.out.alloc (.cells (Array.replicate 16 (.slice none 0 0)) 36))
  have hrep : (Array.replicate 16 (Value.slice none 0 0)) = #[.slice none 0 0, .slice none 0 0, .slice none 0 0, .slice none 0 0, .slice none 0 0, .slice none 0 0, .slice none 0 0, .slice none 0 0, .slice none 0 0, .slice none 0 0, .slice none 0 0, .slice none 0 0, .slice none 0 0, .slice none 0 0, .slice none 0 0, .slice none 0 0] := rfl
  rw [hrep] at HBk HB0 HO6b
  obtain ⟨wb, hwb⟩ : ∃ wb, u6.alloc (.cells #[.slice none 0 0, .slice none 0 0, .slice none 0 0, .slice none 0 0, .slice none 0 0, .slice none 0 0, .slice none 0 0, .slice none 0 0, .slice none 0 0, .slice none 0 0, .slice none 0 0, .slice none 0 0, .slice none 0 0, .slice none 0 0, .slice none 0 0, .slice none 0 0] 36) = wb := ⟨_, rfl⟩
  rw [hwb] at HBk HB0 HO6b ⊢
  clear hrep hwb
  refine (bookSpans_calls u6.heap.size u5.heap.size _ _ [] [] [] A6 N c6 L wb (by simp) (by omega) HBk.out HO6b.out (fun b hb => ⟨by have := (HO6.out.lt b hb).2; omega, by simp [Value.ownBlock], by simp [Value.ownBlock], by simp⟩)).mono ?_
  rintro e u7 ⟨rfl, hto⟩
  obtain ⟨S1, T1, v1, hbk1, _, _, _⟩ := hto.ex
  have HTc : Hid (Touched wb u7 [u6.heap.size]) := by rw [Hid]; have := hto.touched; simpa [Value.ownBlock] using this
  have HBk7 := Lib.hid hbk1
  have HB7 : Hid (Below u5.heap.size u5 u7) := HTc.out.below HB0.out HB0.out.size (by simp; exact HZ6.out)
  have HL7 : Hid (RowAt u7 A6 (pcells L)) := by
    have := HTc.out.own HO6b.out (fun b hb hm => by simp at hm; have := (HO6.out.lt b hb).2; omega)
    obtain ⟨_, _, e, _, hr, _⟩ := this.slice
    injection e with e
    rw [Hid, e]; exact hr
  clear hto hbk1
  go_wp2_with fail
  refine Calls.mono (HRf.out _) ?_
  rintro e u8 ⟨v, rfl, ho, hb8⟩
  obtain ⟨A8, c8, rfl, _, hr8, _⟩ := ho.slice
  have HR8 := Lib.hid hr8
  have H78 := Lib.hid hb8
  clear ho hb8 hr8
  have HS := sameSpans_calls A6 A8 N N c6 c8 L L u8 HN.out HN.out (by omega) (HL7.out.below H78.out) HR8.out
  rw [decide_eq_true (rfl : L = L)] at HS
  have HSS := Lib.hid HS
  have HLM : Hid (∀ l ∈ ([] ++ [L] : List (List (Int × Int))), l.length ≤ 100000) := by intro l hl; simp at hl; subst hl; have := HN.out; omega
  clear HS
  go_wp2_with fail
  refine Calls.mono HSS.out ?_
  rintro e u9 ⟨rfl, hb9⟩
  have H79 := Lib.hid (below_trans' H78.out hb9)
  have HB9 := Lib.hid (HB7.out.trans (H79.out.mono HB7.out.size))
  clear hb9
  have hn0 : (0 : Int) ≤ (n : Int) := by omega
  have hn1 : (n : Int) ≤ (N : Int) := by omega
  go_wp2_with fail
  refine (staysSpans_calls gk A3 N0 cpk c3 L0 _ HN0.out (by omega) (by omega) (HK5.out.below HB9.out) (HR5.out.below HB9.out)).mono ?_
  rintro e u10 ⟨rfl, hb10⟩
  have H710 := Lib.hid (below_trans' H79.out hb10)
  have HB10 := Lib.hid (HB7.out.trans (H710.out.mono HB7.out.size))
  clear hb10
  go_wp2_with fail
  refine (apart_calls u6.heap.size u5.heap.size S1 T1 _ _ _ _ (by simp) HLM.out (HBk7.out.below H710.out)).mono ?_
  rintro e u11 ⟨rfl, hq⟩
  have HY : Hid (Below u5.heap.size u5 u11) := hq.below HB10.out HB10.out.size (by intro k hk; obtain ⟨v, hv, e⟩ := mem_vblocks.1 hk; simp at hv; subst hv; exact (HO6.out.lt k e).1)
  clear hq
  go_wp2
  go_ret
  exact ⟨rfl, HB5.out.trans (HY.out.mono HB5.out.size)⟩
end Go.Proofs.Ytkhfecgmkhjpiaa
