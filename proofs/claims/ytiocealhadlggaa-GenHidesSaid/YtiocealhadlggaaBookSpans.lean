/- The Book's helpers on lists of spans: a copy, a comparison, marks. -/
import Derived.Test.YtiocealhadlggaaBundle1
import Derived.Test.YtiocealhadlggaaBundle7
namespace Go.Proofs.Ytiocealhadlggaa
open Go.RowKit
set_option linter.unusedVariables false

set_option maxHeartbeats 1600000 in
theorem sameSpans_calls (A B : Option Addr) (n1 n2 c d : Nat) (l m : List (Int × Int)) (w : World) (hl : l.length = n1) (hm : m.length = n2) (hn : n1 ≤ 4000000000000000000) (hR : RowAt w A (pcells l)) (hS : RowAt w B (pcells m)) :
    Calls Try.prog 12 #[.slice A n1 c, .slice B n2 d] w fun e w' => e = .returned (.bool (decide (l = m))) ∧ Below w.heap.size w w' := by
  have HR := Lib.hid hR; clear hR
  have HS := Lib.hid hS; clear hS
  have HLl := Lib.hid hl
  have HMl := Lib.hid hm
  by_cases hlen : n1 = n2
  case neg =>
    have hb : decide (l = m) = false := by simp; intro h; exact hlen (by rw [← hl, ← hm, h])
    rw [hb]
    clear hl hm
    have hne : ((n1 : Int) != (n2 : Int)) = true := by simp; omega
    go_enter Try.func12, Try.ntmps12
    go_wp2
    go_ret
    exact ⟨rfl, Below.refl _ _⟩
  subst hlen
  clear hl hm
  go_enter Try.func12, Try.ntmps12
  go_wp2
  go_loopw [5] (fun i wr => ∃ k : Nat, k ≤ n1 ∧ i = .int .i64 k ∧ Hid (l.take k = m.take k) ∧ Hid (Below w.heap.size w wr)) (fun i _ => n1 - (intOf i).toNat)
  case atStart => exact ⟨0, Nat.zero_le _, rfl, by simp [Hid], Below.refl _ _⟩
  case round =>
    obtain ⟨k, hk, rfl, HE, HW⟩ := hrel
    by_cases hlt : k < n1
    · obtain ⟨⟨x1, x2⟩, hx⟩ := some_at (show k < l.length by have := HLl.out; omega)
      obtain ⟨⟨y1, y2⟩, hy⟩ := some_at (show k < m.length by have := HMl.out; omega)
      obtain ⟨b1, o1, rfl, hb1, s1, s2⟩ := pair_at (HR.out.below HW.out) hx
      obtain ⟨b2, o2, rfl, hb2, s3, s4⟩ := pair_at (HS.out.below HW.out) hy
      have HX := Lib.hid hx; clear hx
      have HY := Lib.hid hy; clear hy
      have j1 : (0 : Int) ≤ (k : Int) := by omega
      have j2 : (k : Int) < (n1 : Int) := by omega
      by_cases hxy : x1 = y1 ∧ x2 = y2
      · obtain ⟨rfl, rfl⟩ := hxy
        go_wp2_with fail
        go_big_quiet (fail)
        go_wp2
        go_roundw
        case rel => exact ⟨k + 1, by omega, by go_num, take_eq_snoc HX.out HY.out HE.out, below_drewN HW.out _⟩
        case measure => simp [intOf]; omega
      · have HF : Hid (decide (l = m) = false) := by
          simp only [Hid, decide_eq_false_iff_not]
          intro h
          have h1 := HX.out
          rw [h, HY.out] at h1
          injection h1 with h1
          injection h1 with h1 h2
          exact hxy ⟨h1.symm, h2.symm⟩
        by_cases hx1 : x1 = y1
        · have hx2 : (x2 == y2) = false := by simp; intro h; exact hxy ⟨hx1, h⟩
          subst hx1
          clear hxy
          go_wp2_with fail
          go_big_quiet (fail)
          go_wp2
          go_ret
          exact ⟨ret_bool HF.out.symm, below_drewN HW.out _⟩
        · have hx2 : (x1 == y1) = false := by simpa using hx1
          clear hxy hx1
          go_wp2_with fail
          go_big_quiet (fail)
          go_wp2
          go_ret
          exact ⟨ret_bool HF.out.symm, below_drewN HW.out _⟩
    · have HT : Hid (decide (l = m) = true) := by
        simp only [Hid, decide_eq_true_iff]
        exact eq_of_take (by have := HE.out; rwa [show k = l.length by have := HLl.out; omega] at this) (by rw [HLl.out, HMl.out])
      go_wp2
      go_ret
      exact ⟨ret_bool HT.out.symm, HW.out⟩

/-- Marks for list i, from place 'from' on. -/
def marksP (i from_ n : Nat) : List (Int × Int) := (List.range n).map fun j => (-1000 * (i : Int) - ((from_ + j : Nat) : Int) - 1, 0)
theorem marksP_length (i f n : Nat) : (marksP i f n).length = n := by simp [marksP]
theorem marksP_snoc (i f k : Nat) : marksP i f (k + 1) = marksP i f k ++ [(-1000 * (i : Int) - ((f + k : Nat) : Int) - 1, 0)] := by
  simp [marksP, List.range_succ]
theorem marksP_append (i f a b : Nat) : marksP i f (a + b) = marksP i f a ++ marksP i (f + a) b := by
  simp only [marksP, List.range_add, List.map_append, List.map_map]
  congr 1
  apply List.map_congr_left
  intro x _
  simp only [Function.comp, Prod.mk.injEq, and_true]
  omega

end Go.Proofs.Ytiocealhadlggaa
