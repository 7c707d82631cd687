/- The Book's helpers on lists of spans: a copy, a comparison, marks. -/
import Derived.Test.YtiocealhadlggaaGreatBundle1
import Derived.Test.YtiocealhadlggaaGreatBundle7
namespace Go.Proofs.YtiocealhadlggaaGreat
open Go.RowKit
set_option linter.unusedVariables false

set_option maxHeartbeats 400000 in
theorem copySpans_calls (A : Option Addr) (n c : Nat) (l : List (Int × Int)) (w : World) (hl : l.length = n) (hn : n * 16 ≤ 140737488351232) (hR : RowAt w A (pcells l)) :
    Calls Tryz.prog 21 #[.slice A n c] w fun e w' => ∃ v, e = .returned v ∧ Own w' w.heap.size 2 v n (pcells l) ∧ Below w.heap.size w w' := by
  go_enter Tryz.func21, Tryz.ntmps21
  go_wp2_with (at_builtin; refine appO el_spans w.heap.size rfl _ _ rfl (v := .slice none 0 0) (n := 0) (xs := []) rfl (Own.nil _ _ _) rfl (news := pcells l) (by rw [pcells_length, hl]) hR (one_pcells l) (by omega) (Nat.le_refl _) ?_; intro v1 w1 hown1 hg1 _)
  go_ret
  exact ⟨_, rfl, by simpa using hown1, (Below.refl _ _).grown hg1 (Nat.le_refl _) (fun j hj => by cases (show (none : Option Nat) = some j from hj))⟩

set_option maxHeartbeats 1600000 in
theorem sameSpans_calls (A B : Option Addr) (n1 n2 c d : Nat) (l m : List (Int × Int)) (w : World) (hl : l.length = n1) (hm : m.length = n2) (hn : n1 ≤ 4000000000000000000) (hR : RowAt w A (pcells l)) (hS : RowAt w B (pcells m)) :
    Calls Tryz.prog 11 #[.slice A n1 c, .slice B n2 d] w fun e w' => e = .returned (.bool (decide (l = m))) ∧ Below w.heap.size w w' := by
  have HR := Lib.hid hR; clear hR
  have HS := Lib.hid hS; clear hS
  have HLl := Lib.hid hl
  have HMl := Lib.hid hm
  by_cases hlen : n1 = n2
  case neg =>
    have hb : decide (l = m) = false := by simp; intro h; exact hlen (by rw [← hl, ← hm, h])
    rw [hb]
    clear hl hm
    have hne : ((n1 : Int) != (n2 : Int)) = true := by simp; omega
    go_enter Tryz.func11, Tryz.ntmps11
    go_wp2
    go_ret
    exact ⟨rfl, Below.refl _ _⟩
  subst hlen
  clear hl hm
  go_enter Tryz.func11, Tryz.ntmps11
  go_wp2
  go_loopw [5] (fun i wr => ∃ k : Nat, k ≤ n1 ∧ i = .int .i64 k ∧ Hid (l.take k = m.take k) ∧ Hid (Below w.heap.size w wr)) (fun i _ => n1 - (intOf i).toNat)
  case atStart => exact ⟨0, Nat.zero_le _, rfl, by simp [Hid], Below.refl _ _⟩
  case round =>
    obtain ⟨k, hk, rfl, HE, HW⟩ := hrel
    by_cases hlt : k < n1
    · obtain ⟨⟨x1, x2⟩, hx⟩ := some_at (show k < l.length by have := HLl.out; omega)
      obtain ⟨⟨y1, y2⟩, hy⟩ := some_at (show k < m.length by have := HMl.out; omega)
      obtain ⟨b1, o1, rfl, hb1, s1, s2⟩ := pair_at (HR.out.below HW.out) hx
      obtain ⟨b2, o2, rfl, hb2, s3, s4⟩ := pair_at (HS.out.below HW.out) hy
      have HX := Lib.hid hx; clear hx
      have HY := Lib.hid hy; clear hy
      have j1 : (0 : Int) ≤ (k : Int) := by omega
      have j2 : (k : Int) < (n1 : Int) := by omega
      by_cases hxy : x1 = y1 ∧ x2 = y2
      · obtain ⟨rfl, rfl⟩ := hxy
        go_wp2_with fail
        go_big_quiet (fail)
        go_wp2
        go_roundw
        case rel => exact ⟨k + 1, by omega, by go_num, take_eq_snoc HX.out HY.out HE.out, below_drewN HW.out _⟩
        case measure => simp [intOf]; omega
      · have HF : Hid (decide (l = m) = false) := by
          simp only [Hid, decide_eq_false_iff_not]
          intro h
          have h1 := HX.out
          rw [h, HY.out] at h1
          injection h1 with h1
          injection h1 with h1 h2
          exact hxy ⟨h1.symm, h2.symm⟩
        by_cases hx1 : x1 = y1
        · have hx2 : (x2 == y2) = false := by simp; intro h; exact hxy ⟨hx1, h⟩
          subst hx1
          clear hxy
          go_wp2_with fail
          go_big_quiet (fail)
          go_wp2
          go_ret
          exact ⟨ret_bool HF.out.symm, below_drewN HW.out _⟩
        · have hx2 : (x1 == y1) = false := by simpa using hx1
          clear hxy hx1
          go_wp2_with fail
          go_big_quiet (fail)
          go_wp2
          go_ret
          exact ⟨ret_bool HF.out.symm, below_drewN HW.out _⟩
    · have HT : Hid (decide (l = m) = true) := by
        simp only [Hid, decide_eq_true_iff]
        exact eq_of_take (by have := HE.out; rwa [show k = l.length by have := HLl.out; omega] at this) (by rw [HLl.out, HMl.out])
      go_wp2
      go_ret
      exact ⟨ret_bool HT.out.symm, HW.out⟩

/-- Marks for list i, from place 'from' on. -/
def marksP (i from_ n : Nat) : List (Int × Int) := (List.range n).map fun j => (-1000 * (i : Int) - ((from_ + j : Nat) : Int) - 1, 0)
theorem marksP_length (i f n : Nat) : (marksP i f n).length = n := by simp [marksP]
theorem marksP_snoc (i f k : Nat) : marksP i f (k + 1) = marksP i f k ++ [(-1000 * (i : Int) - ((f + k : Nat) : Int) - 1, 0)] := by
  simp [marksP, List.range_succ]
theorem marksP_append (i f a b : Nat) : marksP i f (a + b) = marksP i f a ++ marksP i (f + a) b := by
  simp only [marksP, List.range_add, List.map_append, List.map_map]
  congr 1
  apply List.map_congr_left
  intro x _
  simp only [Function.comp, Prod.mk.injEq, and_true]
  omega

set_option maxHeartbeats 1600000 in
theorem markSpans_calls (i f n : Nat) (w : World) (hi : i ≤ 1000000) (hf : f ≤ 1000000) (hn : n ≤ 1000000) :
    Calls Tryz.prog 73 #[.int .i64 i, .int .i64 f, .int .i64 n] w fun e w' => ∃ v, e = .returned v ∧ Own w' w.heap.size 2 v n (pcells (marksP i f n)) ∧ Below w.heap.size w w' := by
  go_enter Tryz.func73, Tryz.ntmps73
  go_wp2
  go_loopw [7, 8] (fun v x wr => ∃ k : Nat, k ≤ n ∧ x = .int .i64 ((f : Int) + (k : Int)) ∧ Hid (Own wr w.heap.size 2 v k (pcells (marksP i f k))) ∧ Hid (Below w.heap.size w wr)) (fun _ x _ => f + n - (intOf x).toNat)
  case atStart => exact ⟨0, Nat.zero_le _, by simp, Own.nil _ _ _, Below.refl _ _⟩
  case round =>
    obtain ⟨k, hk, rfl, HO, HW⟩ := hrel
    by_cases hlt : k < n
    · have y1 := IntWalk.i64_in (-1000 * (i : Int)) (by omega)
      obtain ⟨z, hz⟩ : ∃ z : Int, -1000 * (i : Int) - ((f : Int) + (k : Int)) - 1 = z := ⟨_, rfl⟩
      have HZ : Hid (pcells (marksP i f (k + 1)) = pcells (marksP i f k) ++ [.int .i64 z, .int .i64 0]) := by
        rw [Hid, marksP_snoc, pcells_append, ← hz]
        simp [pcells]
      go_wp2_with (at_builtin; refine appO el_spans w.heap.size rfl _ _ rfl rfl (HO.out.alloc _) (news := [.int .i64 z, .int .i64 0]) rfl rfl (rowAt_alloc _ [.int .i64 z, .int .i64 0] _) (one_pair _ _) (by omega) (by have := HW.out.size; simp; omega) ?_; intro v1 w3 hown1 hg1 _; have HO3 : Hid (Own w3 w.heap.size 2 v1 (k + 1) (pcells (marksP i f (k + 1)))) := (by rw [HZ.out]; exact hown1); have HB3 : Hid (Below w.heap.size w w3) := Own.grown_below (HO.out.alloc _) (HW.out.alloc HW.out.size _) hg1 (Nat.le_refl _); clear hown1 hg1)
      go_roundw
      case rel => exact ⟨k + 1, by omega, by first | rfl | (congr 1; omega), HO3, HB3⟩
      case measure => simp [intOf]; omega
    · obtain rfl : k = n := by omega
      go_wp2
      go_ret
      exact ⟨_, rfl, HO.out, HW.out⟩
end Go.Proofs.YtiocealhadlggaaGreat
