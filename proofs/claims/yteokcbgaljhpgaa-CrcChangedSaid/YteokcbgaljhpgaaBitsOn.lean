/- bits.On(s).Word() for four bytes. -/
import Derived.Test.YteokcbgaljhpgaaBitsLow
namespace Go.Proofs.Yteokcbgaljhpgaa
open Go.RowKit

theorem inWord_calls (g : Nat) (s : ByteArray) (w : World) (h : InAt w g s) (hs : s.size = 4) :
    Calls Try.prog 70 #[.pointer (some ⟨g, 0, none⟩)] w fun e w' => e = .returned (.int .i64 (numL s.data.toList : Int)) ∧ Touched w w' [g] := by
  have H : Box _ := ⟨inLow_calls g s w h hs⟩
  clear h
  go_enter Try.func70, Try.ntmps70
  go_wp2_with fail
  refine H.out.mono ?_
  rintro e w1 ⟨rfl, h2⟩
  go_wp2_with fail
  go_ret
  exact ⟨rfl, h2⟩
theorem on_calls (s : ByteArray) (w : World) : Calls Try.prog 69 #[.string s] w fun e w' => e = .returned (.pointer (some ⟨w.heap.size, 0, none⟩)) ∧ InAt w' w.heap.size s ∧ Below w.heap.size w w' := by
  go_enter Try.func69, Try.ntmps69
  go_wp2
  go_ret
  refine ⟨rfl, ?_, (Below.refl _ _).alloc (Nat.le_refl _) _⟩
  have hb := heap_alloc_new w (.cells #[.string s, .int .i64 0] 133)
  exact ⟨cell_of_row _ _ 0 _ _ (0, 0) hb, cell_of_row _ _ 1 _ _ (0, 0) hb, frozen_of_row _ _ 0 _ _ hb, frozen_of_row _ _ 1 _ _ hb⟩
end Go.Proofs.Yteokcbgaljhpgaa
