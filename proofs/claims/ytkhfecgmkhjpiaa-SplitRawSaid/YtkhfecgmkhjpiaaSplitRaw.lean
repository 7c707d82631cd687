/- The law SplitRaw. -/
import Derived.Test.YtkhfecgmkhjpiaaSplitAlive
namespace Go.Proofs.Ytkhfecgmkhjpiaa
open Go.RowKit
set_option linter.unusedVariables false

set_option maxHeartbeats 4000000 in
set_option maxRecDepth 100000 in
theorem splitRaw_calls (gen : Int) (B : Option Addr) (sn sc : Nat) (old : List (Int × Int)) (s : ByteArray) (a b g : Int) (w : World)
    (_hgen : -9223372036854775808 ≤ gen ∧ gen ≤ 9223372036854775807) (hl : old.length = sn) (hsc : sn ≤ sc) (_hn : sn * 16 ≤ 140737488351232) (hor : ∀ p ∈ old, (-9223372036854775808 ≤ p.1 ∧ p.1 ≤ 9223372036854775807) ∧ -9223372036854775808 ≤ p.2 ∧ p.2 ≤ 9223372036854775807) (hR : RowAt w B (pcells old)) (hss : s.size ≤ 140737488351232)
    (ha : -9223372036854775808 ≤ a ∧ a ≤ 9223372036854775807) (hb : -9223372036854775808 ≤ b ∧ b ≤ 9223372036854775807) (hg : -9223372036854775808 ≤ g ∧ g ≤ 9223372036854775807) :
    Calls Try.prog 7 #[.int .i64 gen, .slice B sn sc, .string s, .int .i64 a, .int .i64 b, .int .i64 g] w fun e w' => e = .returned (.bool true) ∧ Below w.heap.size w w' := by
  by_cases hin : s.size ≤ 600 ∧ sn ≤ 60 ∧ 1 ≤ gen ∧ gen ≤ 3
  case neg =>
    by_cases h1 : s.size ≤ 600
    all_goals by_cases h2 : sn ≤ 60
    all_goals by_cases h3 : 1 ≤ gen
    all_goals by_cases h4 : gen ≤ 3
    all_goals first | (exfalso; exact hin ⟨h1, h2, h3, h4⟩) | (exfalso; omega) | skip
    all_goals
      clear hin hR hor hl
      go_enter Try.func7, Try.ntmps7
      go_wp2_with fail
      refine (splitAlive_calls _).mono ?_
      rintro e w1 ⟨rfl, hb1⟩
      have HB1 := Lib.hid hb1
      clear hb1
      go_wp2
      go_ret
      exact ⟨rfl, HB1.out⟩
  obtain ⟨h1, h2, h3, h4⟩ := hin
  obtain ⟨cv, F, hf⟩ := form_of h3 h4
  obtain ⟨tc, vc, rfl⟩ := hf.cutter.ne
  have HF := Lib.hid hf
  have HRs := Lib.hid hR
  have HL := Lib.hid hl
  have hAg := fun W hR => again_calls hf.cutter B sn sc old s a b g W (by omega) (by omega) hsc hl ha hb hg (fun p hp => (hor p hp).2.2) hR
  have hbadR : badP s.data.toList old a b g → againR F s.data.toList old a b g = (cutA F 0 s.data.toList, (cutA F 0 s.data.toList).length) := fun h => by rw [againR, if_pos h]
  have hRn := againR_len hf.cutter.best.toGood s.data.toList old a b g
  rw [data_length, hl] at hRn
  obtain ⟨R, hRR⟩ : ∃ R, againR F s.data.toList old a b g = R := ⟨_, rfl⟩
  obtain ⟨L, hLL⟩ : ∃ L, cutA F 0 s.data.toList = L := ⟨_, rfl⟩
  have HRef := Lib.hid (fun W => hf.ref s W (by omega))
  have hLn : L.length ≤ 600 := by
    have := cutA_length hf.cutter.best.toGood s.data.toList.length 0 s.data.toList (Nat.le_refl _)
    rw [hLL, data_length] at this
    omega
  rw [hLL] at HRef
  rw [hRR, hLL] at hbadR
  rw [hRR] at hAg hRn
  have HBad := Lib.hid hbadR
  have HAg := Lib.hid hAg
  have HWh := Lib.hid (fun W hR => refWhole_calls ((s.size : Int) - g) B sn sc old W (by omega) hl hR)
  have hbd : badP s.data.toList old a b g ↔ (a < 0 ∨ b < a ∨ (s.size : Int) < b ∨ b - a < g ∨ wholeGo 0 old ≠ some ((s.size : Int) - g)) := by unfold badP; rw [data_length]
  have HBd := Lib.hid hbd
  clear hbd hbadR hAg hR hl hf hRR hLL hor
  obtain ⟨R1, R2⟩ := R
  obtain ⟨N, hN⟩ : ∃ N, R1.length = N := ⟨_, rfl⟩
  obtain ⟨M, hM⟩ : ∃ M, L.length = M := ⟨_, rfl⟩
  simp only at HAg HBad hRn
  rw [hN] at HAg hRn
  rw [hM] at HRef HBad hLn
  have HNo := Lib.hid hN
  have HMo := Lib.hid hM
  clear hN hM
  go_enter Try.func7, Try.ntmps7
  go_wp2_with fail
  refine (splitAlive_calls _).mono ?_
  rintro e w1 ⟨rfl, hb1⟩
  have HB1 := Lib.hid hb1
  clear hb1
  go_wp2_with fail
  refine (HF.out.of _).mono ?_
  rintro e w2 ⟨rfl, hb2⟩
  have HB2 := Lib.hid (below_trans' HB1.out hb2)
  clear hb2
  go_wp2_with fail
  refine Calls.mono (HAg.out _ (HRs.out.below HB2.out)) ?_
  rintro e w3 ⟨v, rfl, ho, hb3⟩
  obtain ⟨A3, c3, rfl, _, hr3, _⟩ := ho.slice
  have HR3 := Lib.hid hr3
  have HB3 := Lib.hid (below_trans' HB2.out hb3)
  clear ho hb3 hr3
  go_upto_region 7 with fail
  go_cut [17] (fun v wx => ∃ x : Bool, v = .bool x ∧ Hid (x = decide (a < 0 ∨ b < a ∨ (s.size : Int) < b ∨ (s.size : Int) < g ∨ g < -100000)) ∧ Hid (wx = w3))
  case first =>
    by_cases k1 : a < 0
    · go_wp2_with fail
      go_meet
      exact ⟨_, rfl, by rw [Hid]; symm; simp; omega, rfl⟩
    by_cases k2 : b < a
    · go_wp2_with fail
      go_meet
      exact ⟨_, rfl, by rw [Hid]; symm; simp; omega, rfl⟩
    by_cases k3 : (s.size : Int) < b
    · go_wp2_with fail
      go_meet
      exact ⟨_, rfl, by rw [Hid]; symm; simp; omega, rfl⟩
    by_cases k4 : (s.size : Int) < g
    · go_wp2_with fail
      go_meet
      exact ⟨_, rfl, by rw [Hid]; symm; simp; omega, rfl⟩
    by_cases k5 : g < -100000
    · go_wp2_with fail
      go_meet
      exact ⟨_, rfl, by rw [Hid]; symm; simp; omega, rfl⟩
    · go_wp2_with fail
      go_meet
      exact ⟨_, rfl, by rw [Hid]; symm; simp; omega, rfl⟩
  obtain ⟨x, rfl, HX, hwc⟩ := hcut
  obtain rfl := hwc.out
  clear hwc
  go_upto_if 85 with fail
  go_cut [17] (fun v wx => ∃ y : Bool, v = .bool y ∧ Hid (y = true → badP s.data.toList old a b g ∨ g < -100000) ∧ Hid (wx = wc))
  case first =>
    cases x with
    | true =>
      go_wp2_with fail
      go_meet
      refine ⟨true, rfl, fun _ => ?_, rfl⟩
      have := of_decide_eq_true HX.out.symm
      rw [HBd.out]
      omega
    | false =>
      have hx := of_decide_eq_false HX.out.symm
      obtain ⟨k1, k2, k3, k4, k5⟩ : 0 ≤ a ∧ a ≤ b ∧ b ≤ (s.size : Int) ∧ g ≤ (s.size : Int) ∧ -100000 ≤ g := by omega
      clear hx
      have w4 := IntWalk.i64_in (b - g) (by omega)
      have w5 := IntWalk.i64_in ((s.size : Int) - g) (by omega)
      by_cases k6 : b - g < a
      · go_wp2_with fail
        go_meet
        exact ⟨true, rfl, fun _ => .inl (HBd.out.2 (by omega)), rfl⟩
      · go_wp2_with fail
        refine Calls.mono (HWh.out _ (HRs.out.below HB3.out)) ?_
        rintro e _ ⟨rfl, rfl⟩
        go_wp2_with fail
        go_meet
        refine ⟨_, rfl, fun h => .inl (HBd.out.2 (.inr (.inr (.inr (.inr ?_))))), rfl⟩
        have h2 : wholeB ((s.size : Int) - g) old = false := by simpa using h
        exact of_decide_eq_false h2
  obtain ⟨y, rfl, HY, hwc⟩ := hcut
  obtain rfl := hwc.out
  clear hwc HX
  go_wp2_with fail
  refine Calls.mono (HRef.out _) ?_
  rintro e w4 ⟨v, rfl, ho, hb4⟩
  obtain ⟨A4, c4, rfl, _, hr4, _⟩ := ho.slice
  have HR4 := Lib.hid hr4
  have HR3b := Lib.hid (HR3.out.below hb4)
  have HB4 := Lib.hid (below_trans' HB3.out hb4)
  clear ho hb4 hr4
  cases y with
  | false =>
    go_wp2
    go_ret
    exact ⟨rfl, HB4.out⟩
  | true =>
    have HS := sameSpans_calls A3 A4 N M c3 c4 R1 L w4 HNo.out HMo.out (by omega) HR3b.out HR4.out
    by_cases kb : badP s.data.toList old a b g
    · have h2 := HBad.out kb
      injection h2 with e1 e2
      rw [decide_eq_true e1] at HS
      have HS2 := Lib.hid HS
      subst e2
      clear HS e1 kb
      go_wp2_with fail
      refine Calls.mono HS2.out ?_
      rintro e w5 ⟨rfl, hb5⟩
      have HB5 := Lib.hid (below_trans' HB4.out hb5)
      clear hb5
      go_wp2
      go_ret
      exact ⟨rfl, HB5.out⟩
    · have hg2 : g < -100000 := (HY.out rfl).resolve_left kb
      clear kb
      obtain ⟨V, hV⟩ : ∃ V, decide (R1 = L) = V := ⟨_, rfl⟩
      rw [hV] at HS
      have HS2 := Lib.hid HS
      clear HS hV
      by_cases k7 : (R2 : Int) = (M : Int)
      all_goals
        cases V
        all_goals
          go_wp2_with fail
          refine Calls.mono HS2.out ?_
          rintro e w5 ⟨rfl, hb5⟩
          have HB5 := Lib.hid (below_trans' HB4.out hb5)
          clear hb5
          go_wp2
          go_ret
          exact ⟨rfl, HB5.out⟩
end Go.Proofs.Ytkhfecgmkhjpiaa
