/- bits.In: Raw. -/
import Derived.Test.YteokcbgaljhpgaaBitsWord
import Derived.Test.YteokcbgaljhpgaaShelf
namespace Go.Proofs.Yteokcbgaljhpgaa
open Go.RowKit

theorem clone_calls (s : ByteArray) (w : World) (hs : s.size ≤ 1000000000) : Calls Try.prog 134 #[.string s] w fun e w' => e = .returned (.string s) ∧ Below w.heap.size w w' := by
  go_enter Try.func134, Try.ntmps134
  go_wp2_with fail
  refine (Try.stringslite_Clone s _ (by omega)).mono ?_
  rintro e w1 ⟨rfl, hb⟩
  go_wp2
  go_ret
  exact ⟨rfl, hb⟩

/-- An In at a block: what is left, and no error. -/
structure InAt (w : World) (g : Nat) (s : ByteArray) : Prop where
  c0 : w.cell? ⟨g, 0, none⟩ = some (.string s)
  c1 : w.cell? ⟨g, 1, none⟩ = some (.int .i64 0)
  f0 : w.frozen? ⟨g, 0, none⟩ = false
  f1 : w.frozen? ⟨g, 1, none⟩ = false
theorem InAt.lt {w : World} {g : Nat} {s : ByteArray} (h : InAt w g s) : g < w.heap.size := World.block_lt_of_cell? w _ h.c0
theorem InAt.touched {w w1 : World} {g : Nat} {s : ByteArray} {bs : List Nat} (h : InAt w g s) (hT : Touched w w1 bs) (hn : g ∉ bs) : InAt w1 g s :=
  ⟨(hT.cell h.lt hn).trans h.c0, (hT.cell h.lt hn).trans h.c1, (hT.free h.lt hn).trans h.f0, (hT.free h.lt hn).trans h.f1⟩
theorem InAt.set {w : World} {g : Nat} {s : ByteArray} (h : InAt w g s) (t : ByteArray) : InAt (w.setCell ⟨g, 0, none⟩ (.string t)) g t :=
  ⟨World.cell?_setCell_same' w _ _ (by rw [h.c0]; simp), (World.cell?_setCell_other w ⟨g, 0, none⟩ ⟨g, 1, none⟩ _ (by simp)).trans h.c1, by rw [World.frozen?_setCell]; exact h.f0, by rw [World.frozen?_setCell]; exact h.f1⟩

theorem inRaw_calls (g n : Nat) (s : ByteArray) (w : World) (h : InAt w g s) (hn : n ≤ s.size) (hs : s.size ≤ 1000000000) :
    Calls Try.prog 88 #[.pointer (some ⟨g, 0, none⟩), .int .i64 (n : Int)] w fun e w' => e = .returned (.string (s.extract 0 n)) ∧ InAt w' g (s.extract n s.size) ∧ Touched w w' [g] := by
  have H : Box _ := ⟨h⟩
  have k0 := h.c0
  have k1 := h.c1
  have e0 := h.f0
  have H2 : Box _ := ⟨h.set (s.extract n s.size)⟩
  have HT : Box (Touched w (w.setCell ⟨g, 0, none⟩ (.string (s.extract n s.size))) [g]) := ⟨(Touched.refl w _).setCell (.inl (by simp)) _⟩
  have hes : (s.extract 0 n).size ≤ 1000000000 := by rw [ByteArray.size_extract]; omega
  have b1 : (0 : Int) ≤ (n : Int) := by omega
  have b2 : (n : Int) ≤ (s.size : Int) := by omega
  clear h
  go_enter Try.func88, Try.ntmps88
  go_wp2_with fail
  refine (clone_calls _ _ hes).mono ?_
  rintro e w1 ⟨rfl, hb⟩
  have HB : Box _ := ⟨hb⟩
  clear hb
  go_wp2_with fail
  go_ret
  have hT2 := Touched.of_below HB.out []
  exact ⟨rfl, H2.out.touched hT2 (by simp), HT.out.trans (hT2.mono (by simp))⟩
end Go.Proofs.Yteokcbgaljhpgaa
