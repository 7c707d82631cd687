/- (Numbers.) masonrybook.LentInts, StaysInts: a list with room behind it, in which a mark stands. -/
import Derived.Test.YtbnkmndgfmmiaaaInBookInts
import Derived.Test.YtbnkmndgfmmiaaaOwn2
namespace Go.Proofs.Ytbnkmndgfmmiaaa
open Go.RowKit
set_option linter.unusedVariables false

set_option maxHeartbeats 800000 in
set_option maxRecDepth 100000 in
theorem lentInts_calls (A : Option Addr) (n c : Nat) (l : List Int) (w : World) (hl : l.length = n) (hn : (n + 1) * 8 ≤ 140737488351232) (hR : RowAt w A (icells l)) :
    Calls Try.prog 31 #[.slice A n c] w fun e w' => ∃ g cap, e = .returned (.slice (some ⟨g, 0, none⟩) n cap) ∧ n + 1 ≤ cap ∧ RowAt w' (some ⟨g, 0, none⟩) (icells l ++ [.int .i64 (-77)]) ∧ Below w.heap.size w w' ∧ w.heap.size ≤ g := by
  go_enter Try.func31, Try.ntmps31
  go_wp2_with fail
  refine (copyInts_calls A n c l w hl (by omega) hR).mono ?_
  rintro e w1 ⟨v1, rfl, hown1, hb1⟩
  have HO := Lib.hid hown1
  have HB := Lib.hid hb1
  obtain ⟨A1, c1, rfl, _, _, _⟩ := hown1.slice
  clear hR hown1 hb1
  have hz : w.heap.size ≤ w1.heap.size := HB.out.size
  go_wp2_with (at_builtin; refine appO el_ints1 w.heap.size rfl _ _ rfl rfl (HO.out.alloc _) (news := [.int .i64 (-77)]) rfl rfl (rowAt_alloc w1 [.int .i64 (-77)] _) (one_int _) (by omega) (by simp; omega) ?_; intro v2 w2 hown2 hg2 _; obtain ⟨g, cap, rfl, hgb, _, hcap, hrow⟩ := hown2.form (by omega); have HR2 := Lib.hid hrow; have HG : Hid (Below w.heap.size w w2) := Own.grown_below (HO.out.alloc _) (HB.out.alloc hz _) hg2 (Nat.le_refl _); clear hown2 hg2 hrow)
  go_ret
  exact ⟨g, cap, rfl, hcap, HR2.out, HG.out, hgb⟩

set_option maxHeartbeats 800000 in
theorem staysInts_calls (g : Nat) (B : Option Addr) (n c d : Nat) (l : List Int) (w : World) (hl : l.length = n) (hn : n ≤ 1000000) (hc : n + 1 ≤ c) (hR : RowAt w (some ⟨g, 0, none⟩) (icells l ++ [.int .i64 (-77)])) (hS : RowAt w B (icells l)) :
    Calls Try.prog 33 #[.slice (some ⟨g, 0, none⟩) n c, .slice B n d] w fun e w' => e = .returned (.bool true) ∧ Below w.heap.size w w' := by
  have hcell := row_cell hR (j := n) (u := .int .i64 (-77)) (by rw [List.getElem?_append_right (by rw [icells_len1, hl]; omega), icells_len1, hl, Nat.mul_one, Nat.sub_self]; rfl)
  have HC := sameInts_calls (some ⟨g, 0, none⟩) B n n c d l l w hl hl (by omega) hR.left hS
  have hb : decide (l = l) = true := decide_eq_true rfl
  rw [hb] at HC
  have HCC := Lib.hid HC
  clear HC hb hR hS
  have y1 := IntWalk.i64_in ((n : Int) + 1) (by omega)
  go_enter Try.func33, Try.ntmps33
  go_wp2_with fail
  refine Calls.mono HCC.out ?_
  rintro e w1 ⟨rfl, hb1⟩
  replace hcell := cell_kept hb1 (Nat.le_refl _) hcell
  have HB := Lib.hid hb1
  clear hb1 HCC
  go_wp2
  go_ret
  exact ⟨rfl, HB.out⟩
end Go.Proofs.Ytbnkmndgfmmiaaa
