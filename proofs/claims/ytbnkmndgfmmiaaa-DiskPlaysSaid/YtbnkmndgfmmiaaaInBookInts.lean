/- The Book's helpers on lists of numbers: a copy, a comparison, marks. -/
import Derived.Test.YtbnkmndgfmmiaaaOwn
import Derived.Test.YtbnkmndgfmmiaaaBook
import Derived.Test.YtbnkmndgfmmiaaaFixed
namespace Go.Proofs.Ytbnkmndgfmmiaaa
open Go.RowKit
set_option linter.unusedVariables false

theorem el_ints1 : El Try.prog 32 3 1 8 := El.mk' Try.underlying32 (z := .int .i64 0) (by kernel_rfl) (by decide)
theorem icells_len1 (l : List Int) : (icells l).length = l.length * 1 := by simp [icells]
theorem icells_app (l m : List Int) : icells (l ++ m) = icells l ++ icells m := by simp [icells]
theorem one_int (x : Int) : ∀ u ∈ ([.int .i64 x] : List Value), u.oneCell' = true := by intro u hu; simp at hu; subst hu; rfl
set_option maxHeartbeats 400000 in
theorem copyInts_calls (A : Option Addr) (n c : Nat) (l : List Int) (w : World) (hl : l.length = n) (hn : n * 8 ≤ 140737488351232) (hR : RowAt w A (icells l)) :
    Calls Try.prog 49 #[.slice A n c] w fun e w' => ∃ v, e = .returned v ∧ Own w' w.heap.size 1 v n (icells l) ∧ Below w.heap.size w w' := by
  go_enter Try.func49, Try.ntmps49
  go_wp2_with (at_builtin; refine appO el_ints1 w.heap.size rfl _ _ rfl (v := .slice none 0 0) (n := 0) (xs := []) rfl (Own.nil _ _ _) rfl (news := icells l) (by rw [icells_len1, hl]) hR (one_icells l) (by omega) (Nat.le_refl _) ?_; intro v1 w1 hown1 hg1 _)
  go_ret
  exact ⟨_, rfl, by simpa using hown1, (Below.refl _ _).grown hg1 (Nat.le_refl _) (fun j hj => by cases (show (none : Option Nat) = some j from hj))⟩

set_option maxHeartbeats 1600000 in
theorem sameInts_calls (A B : Option Addr) (n1 n2 c d : Nat) (l m : List Int) (w : World) (hl : l.length = n1) (hm : m.length = n2) (hn : n1 ≤ 4000000000000000000) (hR : RowAt w A (icells l)) (hS : RowAt w B (icells m)) :
    Calls Try.prog 50 #[.slice A n1 c, .slice B n2 d] w fun e w' => e = .returned (.bool (decide (l = m))) ∧ Below w.heap.size w w' := by
  have HR := Lib.hid hR; clear hR
  have HS := Lib.hid hS; clear hS
  have HLl := Lib.hid hl
  have HMl := Lib.hid hm
  by_cases hlen : n1 = n2
  case neg =>
    have hb : decide (l = m) = false := by simp; intro h; exact hlen (by rw [← hl, ← hm, h])
    rw [hb]
    clear hl hm
    have hne : ((n1 : Int) != (n2 : Int)) = true := by simp; omega
    go_enter Try.func50, Try.ntmps50
    go_wp2
    go_ret
    exact ⟨rfl, Below.refl _ _⟩
  subst hlen
  clear hl hm
  go_enter Try.func50, Try.ntmps50
  go_wp2
  go_loopw [5] (fun i wr => ∃ k : Nat, k ≤ n1 ∧ i = .int .i64 k ∧ Hid (l.take k = m.take k) ∧ Hid (Below w.heap.size w wr)) (fun i _ => n1 - (intOf i).toNat)
  case atStart => exact ⟨0, Nat.zero_le _, rfl, by simp [Hid], Below.refl _ _⟩
  case round =>
    obtain ⟨k, hk, rfl, HE, HW⟩ := hrel
    by_cases hlt : k < n1
    · obtain ⟨x, hx⟩ := some_at (show k < l.length by have := HLl.out; omega)
      obtain ⟨y, hy⟩ := some_at (show k < m.length by have := HMl.out; omega)
      have hx' := icells_at hx
      have hy' := icells_at hy
      obtain ⟨b1, o1, rfl, hb1, s1⟩ := (HR.out.below HW.out).addr (by intro e; rw [e] at hx'; simp at hx')
      obtain ⟨b2, o2, rfl, hb2, s2⟩ := (HS.out.below HW.out).addr (by intro e; rw [e] at hy'; simp at hy')
      have t1 := s1 _ _ hx'
      have t2 := s2 _ _ hy'
      have HX := Lib.hid hx
      have HY := Lib.hid hy
      clear hx hy hx' hy' s1 s2
      have j1 : (0 : Int) ≤ (k : Int) := by omega
      have j2 : (k : Int) < (n1 : Int) := by omega
      by_cases hxy : x = y
      · subst hxy
        go_wp2_with fail
        first
          | (go_big_quiet (fail)
             go_wp2
             go_roundw)
          | go_roundw
        case rel => exact ⟨k + 1, by omega, by go_num, take_eq_snoc HX.out HY.out HE.out, by first | exact below_drewN HW.out _ | exact HW⟩
        case measure => simp [intOf]; omega
      · have HF : Hid (decide (l = m) = false) := by
          simp only [Hid, decide_eq_false_iff_not]
          intro h
          have h1 := HX.out
          rw [h, HY.out] at h1
          injection h1 with h1
          exact hxy h1.symm
        have hx1 : (x == y) = false := by simpa using hxy
        clear hxy
        go_wp2_with fail
        first
          | (go_big_quiet (fail)
             go_wp2
             go_ret)
          | go_ret
        exact ⟨ret_bool HF.out.symm, by first | exact below_drewN HW.out _ | exact HW.out⟩
    · have HT : Hid (decide (l = m) = true) := by
        simp only [Hid, decide_eq_true_iff]
        exact eq_of_take (by have := HE.out; rwa [show k = l.length by have := HLl.out; omega] at this) (by rw [HLl.out, HMl.out])
      go_wp2
      go_ret
      exact ⟨ret_bool HT.out.symm, HW.out⟩

/-- Marks for list i, from place 'from' on. -/
def marksI (i from_ n : Nat) : List Int := (List.range n).map fun j => -1000000 * (i : Int) - ((from_ + j : Nat) : Int) - 7
theorem marksI_length (i f n : Nat) : (marksI i f n).length = n := by simp [marksI]
theorem marksI_snoc (i f k : Nat) : marksI i f (k + 1) = marksI i f k ++ [-1000000 * (i : Int) - ((f + k : Nat) : Int) - 7] := by
  simp [marksI, List.range_succ]
theorem marksI_append (i f a b : Nat) : marksI i f (a + b) = marksI i f a ++ marksI i (f + a) b := by
  simp only [marksI, List.range_add, List.map_append, List.map_map]
  congr 1
  apply List.map_congr_left
  intro x _
  simp only [Function.comp]
  omega

end Go.Proofs.Ytbnkmndgfmmiaaa
