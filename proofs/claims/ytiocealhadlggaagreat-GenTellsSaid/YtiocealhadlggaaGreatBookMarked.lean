/- masonrybook.markedSpans: each list holds its own marks. -/
import Derived.Test.YtiocealhadlggaaGreatBookStill
namespace Go.Proofs.YtiocealhadlggaaGreat
open Go.RowKit
set_option linter.unusedVariables false

theorem markSpans0_calls (i n : Nat) (w : World) (hi : i ≤ 1000000) (hn : n ≤ 1000000) :
    Calls Tryz.prog 73 #[.int .i64 i, .int .i64 0, .int .i64 n] w fun e w' => ∃ A c, e = .returned (.slice A n c) ∧ RowAt w' A (pcells (marksP i 0 n)) ∧ Below w.heap.size w w' := by
  refine (markSpans_calls i 0 n w hi (by omega) hn).mono ?_
  rintro e w' ⟨v, rfl, hown, hb⟩
  obtain ⟨A, c, rfl, _, hr, _⟩ := hown.slice
  exact ⟨A, c, rfl, hr, hb⟩

set_option maxHeartbeats 1600000 in
set_option maxRecDepth 100000 in
theorem markedSpans_calls (A : Option Addr) (c N : Nat) (vs : List Value) (ns : List Nat) (w : World) (hN : N ≤ 1000) (hl : ns.length = N) (hA : RowAt w A vs)
    (hin : ∀ (i n : Nat), ns[i]? = some n → ∃ (A' : Option Addr) (c' : Nat), vs[i]? = some (Value.slice A' n c') ∧ n ≤ 1000000 ∧ RowAt w A' (pcells (marksP i 0 n))) :
    Calls Tryz.prog 51 #[.slice A N c] w fun e w' => e = .returned (.bool true) ∧ Below w.heap.size w w' := by
  have HA := Lib.hid hA
  have HI := Lib.hid hin
  have HL := Lib.hid hl
  clear hA hin hl
  go_enter Tryz.func51, Tryz.ntmps51
  go_wp2
  go_loopw [3] (fun i wr => ∃ k : Nat, k ≤ N ∧ i = .int .i64 k ∧ Hid (Below w.heap.size w wr)) (fun i _ => N - (intOf i).toNat)
  case atStart => exact ⟨0, Nat.zero_le _, rfl, Below.refl _ _⟩
  case round =>
    obtain ⟨k, hk, rfl, HW⟩ := hrel
    by_cases hlt : k < N
    · obtain ⟨n, hn⟩ := some_at (l := ns) (k := k) (by rw [HL.out]; exact hlt)
      obtain ⟨A', c', e1, hll, hr1⟩ := HI.out k n hn
      obtain ⟨b1, o1, rfl, hb1, s1⟩ := (HA.out.below HW.out).addr (by intro e; rw [e] at e1; simp at e1)
      have t1 := s1 _ _ e1
      have HR1 := Lib.hid (hr1.below HW.out)
      have hS := fun (W : World) (B' : Option Addr) (d' : Nat) (r1 : RowAt W A' (pcells (marksP k 0 n))) (r2 : RowAt W B' (pcells (marksP k 0 n))) => sameSpans_calls A' B' n n c' d' _ _ W (marksP_length _ _ _) (marksP_length _ _ _) (by omega) r1 r2
      have hd : decide (marksP k 0 n = marksP k 0 n) = true := decide_eq_true rfl
      rw [hd] at hS
      have HS := Lib.hid hS
      have HM := Lib.hid (fun W => markSpans0_calls k n W (by omega) hll)
      clear hS s1 hn e1 hr1 hd
      have j1 : (0 : Int) ≤ (k : Int) := by omega
      have j2 : (k : Int) < (N : Int) := by omega
      go_wp2_with fail
      go_region_held3 (fun w' => w'.cell? ⟨b1, o1 + k, none⟩ = some (.slice A' n c')) (first | exact t1 | exact u1 | exact v1)
        (first
          | (go_at_call 73; refine Calls.mono (HM.out _) ?_; rintro e w2 ⟨B', d', rfl, hrow, hb2⟩; have HRB := Lib.hid hrow; have HW2 := Lib.hid ((below_drew' (Below.refl wr.heap.size wr)).trans hb2); have u1 := cell_kept HW2.out (Nat.le_refl _) t1; clear hb2 hrow)
          | (go_at_call 11; refine Calls.mono (HS.out _ _ _ (HR1.out.below HW2.out) HRB.out) ?_; rintro e w3 ⟨rfl, hb3⟩; have HW3 := Lib.hid (HW2.out.trans (hb3.mono HW2.out.size)); have v1 := cell_kept HW3.out (Nat.le_refl _) t1; clear hb3))
      go_wp2
      go_roundw
      case rel => exact ⟨k + 1, by omega, by go_num, below_trans' HW.out HW3.out⟩
      case measure => simp [intOf]; omega
    · go_wp2
      go_ret
      exact ⟨rfl, HW.out⟩
end Go.Proofs.YtiocealhadlggaaGreat
