/- The law GenTells. -/
import Derived.Test.YtiocealhadlggaaGreatGenT1
import Derived.Test.YtiocealhadlggaaGreatGenT2
import Derived.Test.YtiocealhadlggaaGreatGenT3
namespace Go.Proofs.YtiocealhadlggaaGreat
open Go.RowKit
set_option linter.unusedVariables false

set_option maxHeartbeats 2000000 in
set_option maxRecDepth 100000 in
theorem genTells_calls (n : Int) (A : Option Addr) (ln cp : Nat) (l : List ByteArray) (wi : ByteArray) (a c : Int) (w : World)
    (_hnr : -9223372036854775808 ≤ n ∧ n ≤ 9223372036854775807) (hl : l.length = ln) (hc : ln ≤ cp) (hn : ln * 16 ≤ 140737488351232) (hs : ∀ s ∈ l, s.size ≤ 140737488351232) (hR : RowAt w A (scells l)) (_hww : wi.size ≤ 140737488351232)
    (ha : -9223372036854775808 ≤ a ∧ a ≤ 9223372036854775807) (hcr : -9223372036854775808 ≤ c ∧ c ≤ 9223372036854775807) :
    Calls Tryz.prog 3 #[.int .i64 n, .slice A ln cp, .string wi, .int .i64 a, .int .i64 c] w fun e w' => e = .returned (.bool true) ∧ Below w.heap.size w w' := by
  subst hl
  have HSh := Lib.hid (short_calls 12 900 A cp l w (by omega) (by omega) (by omega) hs hR)
  by_cases hin : shortB 12 900 l = true ∧ wi.size ≤ 300
  case neg =>
    by_cases h1 : shortB 12 900 l = true
    all_goals by_cases h2 : wi.size ≤ 300
    all_goals first | (exfalso; exact hin ⟨h1, h2⟩) | skip
    all_goals
      clear hin
      obtain ⟨V, hV⟩ : ∃ V, shortB 12 900 l = V := ⟨_, rfl⟩
      rw [hV] at HSh h1
      try simp only [Bool.not_eq_true] at h1
      subst h1
      clear hV hR
      go_enter Tryz.func3, Tryz.ntmps3
      go_wp2_with fail
      refine Calls.mono HSh.out ?_
      rintro e w1 ⟨rfl, hb1⟩
      have HB1 := Lib.hid hb1; clear hb1
      go_wp2_with fail
      refine (genAlive_calls _).mono ?_
      rintro e w2 ⟨rfl, hb2⟩
      have HB2 := Lib.hid (below_trans' HB1.out hb2); clear hb2
      go_wp2
      go_ret
      exact ⟨rfl, HB2.out⟩
  obtain ⟨h1, h2⟩ := hin
  by_cases hg : n < 1 ∨ 3 < n
  · rw [h1] at HSh
    clear hR h1
    rcases hg with g1 | g2
    · go_enter Tryz.func3, Tryz.ntmps3
      go_wp2_with fail
      refine Calls.mono HSh.out ?_
      rintro e w1 ⟨rfl, hb1⟩
      have HB1 := Lib.hid hb1; clear hb1
      go_wp2_with fail
      refine (genAlive_calls _).mono ?_
      rintro e w2 ⟨rfl, hb2⟩
      have HB2 := Lib.hid (below_trans' HB1.out hb2); clear hb2
      go_wp2_with fail
      refine (genOfNone_calls n _ (.inl g1)).mono ?_
      rintro e w3 ⟨rfl, hb3⟩
      have HB3 := Lib.hid (below_trans' HB2.out hb3); clear hb3
      go_wp2
      go_ret
      exact ⟨rfl, HB3.out⟩
    · have g1 : ¬ n < 1 := by omega
      go_enter Tryz.func3, Tryz.ntmps3
      go_wp2_with fail
      refine Calls.mono HSh.out ?_
      rintro e w1 ⟨rfl, hb1⟩
      have HB1 := Lib.hid hb1; clear hb1
      go_wp2_with fail
      refine (genAlive_calls _).mono ?_
      rintro e w2 ⟨rfl, hb2⟩
      have HB2 := Lib.hid (below_trans' HB1.out hb2); clear hb2
      go_wp2_with fail
      refine (genOfNone_calls n _ (.inr g2)).mono ?_
      rintro e w3 ⟨rfl, hb3⟩
      have HB3 := Lib.hid (below_trans' HB2.out hb3); clear hb3
      go_wp2
      go_ret
      exact ⟨rfl, HB3.out⟩
  · clear HSh
    rcases (by omega : n = 1 ∨ n = 2 ∨ n = 3) with rfl | rfl | rfl
    · exact genT1_calls A cp l wi a c w hc hn hs hR h2 ha hcr h1
    · exact genT2_calls A cp l wi a c w hc hn hs hR h2 ha hcr h1
    · exact genT3_calls A cp l wi a c w hc hn hs hR h2 ha hcr h1
end Go.Proofs.YtiocealhadlggaaGreat
