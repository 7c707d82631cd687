/- masonrybook.LentWrites, StaysWrites (and LentInts, whose block is new): lists with room behind them, in which a mark stands. -/
import Derived.Test.YtbnkmndgfmmiaaaInLent
import Derived.Test.YtbnkmndgfmmiaaaDisk
namespace Go.Proofs.Ytbnkmndgfmmiaaa
open Go.RowKit
set_option linter.unusedVariables false

theorem write_at {w : World} {A : Option Addr} {l : List (Int × ByteArray)} {k : Nat} {p : Int × ByteArray} (h : RowAt w A (dcells l)) (hk : l[k]? = some p) :
    ∃ b o, A = some ⟨b, o, none⟩ ∧ b < w.heap.size ∧ w.cell? ⟨b, o + k * 2, none⟩ = some (.int .i64 p.1) ∧ w.cell? ⟨b, o + k * 2 + 1, none⟩ = some (.string p.2) := by
  obtain ⟨h1, h2⟩ := dcells_at hk
  obtain ⟨b, o, e, hb, hc⟩ := h.addr (by intro e; rw [e] at h1; simp at h1)
  exact ⟨b, o, e, hb, hc _ _ h1, by rw [Nat.add_assoc]; exact hc _ _ h2⟩
theorem one_wcell (x : Int) (y : ByteArray) : ∀ u ∈ ([.int .i64 x, .string y] : List Value), u.oneCell' = true := by intro u hu; simp at hu; rcases hu with rfl | rfl <;> rfl

set_option maxHeartbeats 400000 in
theorem copyWrites_calls (A : Option Addr) (n c : Nat) (l : List (Int × ByteArray)) (w : World) (hl : l.length = n) (hn : n * 24 ≤ 140737488351232) (hR : RowAt w A (dcells l)) :
    Calls Try.prog 45 #[.slice A n c] w fun e w' => ∃ v, e = .returned v ∧ Own w' w.heap.size 2 v n (dcells l) ∧ Below w.heap.size w w' := by
  go_enter Try.func45, Try.ntmps45
  go_wp2_with (at_builtin; refine appO el_writes w.heap.size rfl _ _ rfl (v := .slice none 0 0) (n := 0) (xs := []) rfl (Own.nil _ _ _) rfl (news := dcells l) (by rw [dcells_length, hl]) hR (one_dcells l) (by omega) (Nat.le_refl _) ?_; intro v1 w1 hown1 hg1 _)
  go_ret
  exact ⟨_, rfl, by simpa using hown1, (Below.refl _ _).grown hg1 (Nat.le_refl _) (fun j hj => by cases (show (none : Option Nat) = some j from hj))⟩

set_option maxHeartbeats 800000 in
set_option maxRecDepth 100000 in
theorem lentWrites_calls (A : Option Addr) (n c : Nat) (l : List (Int × ByteArray)) (w : World) (hl : l.length = n) (hn : (n + 1) * 24 ≤ 140737488351232) (hR : RowAt w A (dcells l)) :
    Calls Try.prog 26 #[.slice A n c] w fun e w' => ∃ g cap, e = .returned (.slice (some ⟨g, 0, none⟩) n cap) ∧ n + 1 ≤ cap ∧ RowAt w' (some ⟨g, 0, none⟩) (dcells l ++ [.int .i64 (-77), .string ByteArray.empty]) ∧ Below w.heap.size w w' ∧ w.heap.size ≤ g := by
  go_enter Try.func26, Try.ntmps26
  go_wp2_with fail
  refine (copyWrites_calls A n c l w hl (by omega) hR).mono ?_
  rintro e w1 ⟨v1, rfl, hown1, hb1⟩
  have HO := Lib.hid hown1
  have HB := Lib.hid hb1
  obtain ⟨A1, c1, rfl, _, _, _⟩ := hown1.slice
  clear hR hown1 hb1
  have hz : w.heap.size ≤ w1.heap.size := HB.out.size
  go_wp2_with (at_builtin; refine appO el_writes w.heap.size rfl _ _ rfl rfl (HO.out.alloc _) (news := [.int .i64 (-77), .string ByteArray.empty]) rfl rfl (rowAt_alloc w1 [.int .i64 (-77), .string ByteArray.empty] _) (one_wcell _ _) (by omega) (by simp; omega) ?_; intro v2 w2 hown2 hg2 _; obtain ⟨g, cap, rfl, hgb, _, hcap, hrow⟩ := hown2.form (by omega); have HR2 := Lib.hid hrow; have HG : Hid (Below w.heap.size w w2) := Own.grown_below (HO.out.alloc _) (HB.out.alloc hz _) hg2 (Nat.le_refl _); clear hown2 hg2 hrow)
  go_ret
  exact ⟨g, cap, rfl, hcap, HR2.out, HG.out, hgb⟩

set_option maxHeartbeats 1600000 in
set_option maxRecDepth 100000 in
/-- Two lists that are alike. -/
theorem sameWrites_calls (A B : Option Addr) (n c d : Nat) (l : List (Int × ByteArray)) (w : World) (hl : l.length = n) (hn : n ≤ 4000000000000000000) (hR : RowAt w A (dcells l)) (hS : RowAt w B (dcells l)) :
    Calls Try.prog 47 #[.slice A n c, .slice B n d] w fun e w' => e = .returned (.bool true) ∧ Below w.heap.size w w' := by
  have HR := Lib.hid hR; clear hR
  have HS := Lib.hid hS; clear hS
  have HLl := Lib.hid hl
  clear hl
  go_enter Try.func47, Try.ntmps47
  go_wp2
  go_loopw [5] (fun i wr => ∃ k : Nat, k ≤ n ∧ i = .int .i64 k ∧ Hid (Below w.heap.size w wr)) (fun i _ => n - (intOf i).toNat)
  case atStart => exact ⟨0, Nat.zero_le _, rfl, Below.refl _ _⟩
  case round =>
    obtain ⟨k, hk, rfl, HW⟩ := hrel
    by_cases hlt : k < n
    · obtain ⟨⟨x1, x2⟩, hx⟩ := some_at (show k < l.length by have := HLl.out; omega)
      obtain ⟨b1, o1, rfl, hb1, s1, s2⟩ := write_at (HR.out.below HW.out) hx
      obtain ⟨b2, o2, rfl, hb2, s3, s4⟩ := write_at (HS.out.below HW.out) hx
      clear hx
      have j1 : (0 : Int) ≤ (k : Int) := by omega
      have j2 : (k : Int) < (n : Int) := by omega
      go_wp2_with fail
      go_big_quiet (fail)
      go_wp2
      go_roundw
      case rel => exact ⟨k + 1, by omega, by go_num, below_drewN HW.out _⟩
      case measure => simp [intOf]; omega
    · go_wp2
      go_ret
      exact ⟨rfl, HW.out⟩
set_option maxHeartbeats 800000 in
theorem staysWrites_calls (g : Nat) (B : Option Addr) (n c d : Nat) (l : List (Int × ByteArray)) (w : World) (hl : l.length = n) (hn : n ≤ 1000000) (hc : n + 1 ≤ c) (hR : RowAt w (some ⟨g, 0, none⟩) (dcells l ++ [.int .i64 (-77), .string ByteArray.empty])) (hS : RowAt w B (dcells l)) :
    Calls Try.prog 28 #[.slice (some ⟨g, 0, none⟩) n c, .slice B n d] w fun e w' => e = .returned (.bool true) ∧ Below w.heap.size w w' := by
  have hcell := row_cell hR (j := n * 2) (u := .int .i64 (-77)) (by rw [List.getElem?_append_right (by rw [dcells_length, hl]; omega), dcells_length, hl, Nat.sub_self]; rfl)
  have HC := sameWrites_calls (some ⟨g, 0, none⟩) B n c d l w hl (by omega) hR.left hS
  have HCC := Lib.hid HC
  clear HC hR hS
  have y1 := IntWalk.i64_in ((n : Int) + 1) (by omega)
  go_enter Try.func28, Try.ntmps28
  go_wp2_with fail
  refine Calls.mono HCC.out ?_
  rintro e w1 ⟨rfl, hb1⟩
  replace hcell := cell_kept hb1 (Nat.le_refl _) hcell
  have HB := Lib.hid hb1
  clear hb1 HCC
  go_wp2
  go_ret
  exact ⟨rfl, HB.out⟩
end Go.Proofs.Ytbnkmndgfmmiaaa
