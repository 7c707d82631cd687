/- Lists of numbers in the reference: is one among them? -/
import Derived.Test.YtoadelcdcfdmfaaBundle1
namespace Go.Proofs.Ytoadelcdcfdmfaa
open Go.RowKit
set_option linter.unusedVariables false

set_option maxHeartbeats 800000 in
theorem among_calls (A : Option Addr) (n c : Nat) (l : List Int) (x : Int) (w : World) (hl : l.length = n) (hn : n ≤ 4000000000000000000) (hR : RowAt w A (icells l)) :
    Calls Try.prog 10 #[.slice A n c, .int .i64 x] w fun e w' => e = .returned (.bool (decide (x ∈ l))) ∧ w = w' := by
  subst hl
  have HR := Lib.hid hR; clear hR
  go_enter Try.func10, Try.ntmps10
  go_wp2
  go_loop [5] (fun i => ∃ k : Nat, k ≤ l.length ∧ i = .int .i64 k ∧ Hid (x ∉ l.take k)) (fun i => l.length - (intOf i).toNat)
  case atStart => exact ⟨0, Nat.zero_le _, rfl, by simp [Hid]⟩
  case round =>
    obtain ⟨k, hk, rfl, HC⟩ := hrel
    by_cases hlt : k < l.length
    · obtain ⟨y, hy⟩ := some_at hlt
      obtain ⟨ad, rfl, hc⟩ := HR.out.get (icells_at hy)
      have HY := Lib.hid hy; clear hy
      by_cases hxy : y = x
      · subst hxy
        have HT : Hid (decide (y ∈ l) = true) := decide_eq_true (List.mem_of_getElem? HY.out)
        go_wp2
        go_ret
        exact ⟨ret_bool HT.out.symm, rfl⟩
      · have hne : (y == x) = false := by simpa using hxy
        have HN : Hid (x ∉ l.take (k + 1)) := by
          rw [Hid, take_snoc_of HY.out, List.mem_append]
          rintro (h | h)
          · exact HC.out h
          · exact hxy (List.mem_singleton.1 h).symm
        clear hxy
        go_wp2
        go_round
        case rel => exact ⟨k + 1, by omega, by go_num, HN⟩
        case measure => simp [intOf]; omega
    · have HT : Hid (decide (x ∈ l) = false) := decide_eq_false (by have := HC.out; rwa [List.take_of_length_le (by omega)] at this)
      go_wp2
      go_ret
      exact ⟨ret_bool HT.out.symm, rfl⟩
end Go.Proofs.Ytoadelcdcfdmfaa
