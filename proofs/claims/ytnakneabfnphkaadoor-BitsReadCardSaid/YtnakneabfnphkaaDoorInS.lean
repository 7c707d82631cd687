/- bits.In: what is left, with its error; Raw, numbers, texts, Left, Rest, End. -/
import Derived.Test.YtnakneabfnphkaaDoorNumP
import Derived.Test.YtnakneabfnphkaaDoorShelf
import Derived.Laws.BitsAllLaws
namespace Go.Proofs.YtnakneabfnphkaaDoor
open Go.RowKit

theorem clone_calls (s : ByteArray) (w : World) (hs : s.size ≤ 1000000000) : Calls Tryd.prog 39 #[.string s] w fun e w' => e = .returned (.string s) ∧ Below w.heap.size w w' := by
  go_enter Tryd.func39, Tryd.ntmps39
  go_wp2_with fail
  refine (Tryd.stringslite_Clone s _ (by omega)).mono ?_
  rintro e w1 ⟨rfl, hb⟩
  go_wp2
  go_ret
  exact ⟨rfl, hb⟩

/-- An In at a block: its error, what is left. -/
structure InS (w : World) (g : Nat) (e : Int) (s : ByteArray) : Prop where
  c0 : w.cell? ⟨g, 0, none⟩ = some (.string s)
  c1 : w.cell? ⟨g, 1, none⟩ = some (.int .i64 e)
  f0 : w.frozen? ⟨g, 0, none⟩ = false
  f1 : w.frozen? ⟨g, 1, none⟩ = false
section
variable {w w1 : World} {g : Nat} {e : Int} {s : ByteArray}
theorem InS.lt (h : InS w g e s) : g < w.heap.size := World.block_lt_of_cell? w _ h.c0
theorem InS.touched {bs : List Nat} (h : InS w g e s) (hT : Touched w w1 bs) (hn : g ∉ bs) : InS w1 g e s :=
  ⟨(hT.cell h.lt hn).trans h.c0, (hT.cell h.lt hn).trans h.c1, (hT.free h.lt hn).trans h.f0, (hT.free h.lt hn).trans h.f1⟩
theorem InS.below (h : InS w g e s) (hb : Below w.heap.size w w1) : InS w1 g e s := h.touched (Touched.of_below hb []) (by simp)
theorem InS.set (h : InS w g e s) (t : ByteArray) : InS (w.setCell ⟨g, 0, none⟩ (.string t)) g e t :=
  ⟨World.cell?_setCell_same' w _ _ (by rw [h.c0]; simp), (World.cell?_setCell_other w ⟨g, 0, none⟩ ⟨g, 1, none⟩ _ (by simp)).trans h.c1, by rw [World.frozen?_setCell]; exact h.f0, by rw [World.frozen?_setCell]; exact h.f1⟩
theorem InS.fail (h : InS w g e s) (x : Int) : InS (w.setCell ⟨g, 1, none⟩ (.int .i64 x)) g x s :=
  ⟨(World.cell?_setCell_other w ⟨g, 1, none⟩ ⟨g, 0, none⟩ _ (by simp)).trans h.c0, World.cell?_setCell_same' w _ _ (by rw [h.c1]; simp), by rw [World.frozen?_setCell]; exact h.f0, by rw [World.frozen?_setCell]; exact h.f1⟩
end
theorem on_calls (s : ByteArray) (w : World) : Calls Tryd.prog 18 #[.string s] w fun e w' => e = .returned (.pointer (some ⟨w.heap.size, 0, none⟩)) ∧ InS w' w.heap.size 0 s ∧ Below w.heap.size w w' := by
  go_enter Tryd.func18, Tryd.ntmps18
  go_wp2
  go_ret
  refine ⟨rfl, ?_, (Below.refl _ _).alloc (Nat.le_refl _) _⟩
  have hb := heap_alloc_new w (.cells #[.string s, .int .i64 0] 58)
  exact ⟨cell_of_row _ _ 0 _ _ (0, 0) hb, cell_of_row _ _ 1 _ _ (0, 0) hb, frozen_of_row _ _ 0 _ _ hb, frozen_of_row _ _ 1 _ _ hb⟩

/-- Raw. -/
def rawI (e : Int) (s : ByteArray) (n : Int) : ByteArray × Int × ByteArray :=
  if e ≠ 0 then (ByteArray.empty, e, s) else if n < 0 then (ByteArray.empty, 1, s) else if (s.size : Int) < n then (ByteArray.empty, 5, s) else (s.extract 0 n.toNat, 0, s.extract n.toNat s.size)
theorem inRaw_calls (g : Nat) (n e : Int) (s : ByteArray) (w : World) (h : InS w g e s) (hs : s.size ≤ 1000000000) :
    Calls Tryd.prog 26 #[.pointer (some ⟨g, 0, none⟩), .int .i64 n] w fun r w' => r = .returned (.string (rawI e s n).1) ∧ InS w' g (rawI e s n).2.1 (rawI e s n).2.2 ∧ Touched w w' [g] := by
  have H : Box _ := ⟨h⟩
  have k0 := h.c0
  have k1 := h.c1
  have e0 := h.f0
  have e1 := h.f1
  clear h
  by_cases he : e = 0
  case neg =>
    rw [rawI, if_pos he]
    go_enter Tryd.func26, Tryd.ntmps26
    go_wp2_with fail
    go_ret
    exact ⟨rfl, H.out, Touched.refl _ _⟩
  subst he
  by_cases hn : n < 0
  · rw [rawI, if_neg (by simp), if_pos hn]
    go_enter Tryd.func26, Tryd.ntmps26
    go_wp2_with fail
    go_ret
    exact ⟨rfl, H.out.fail 1, (Touched.refl w _).setCell (.inl (by simp)) _⟩
  by_cases hl : (s.size : Int) < n
  · rw [rawI, if_neg (by simp), if_neg hn, if_pos hl]
    go_enter Tryd.func26, Tryd.ntmps26
    go_wp2_with fail
    go_ret
    exact ⟨rfl, H.out.fail 5, (Touched.refl w _).setCell (.inl (by simp)) _⟩
  obtain ⟨m, rfl⟩ : ∃ m : Nat, n = (m : Int) := ⟨n.toNat, by omega⟩
  rw [rawI, if_neg (by simp), if_neg hn, if_neg hl, Int.toNat_natCast]
  have H2 : Box _ := ⟨H.out.set (s.extract m s.size)⟩
  have HT : Box (Touched w (w.setCell ⟨g, 0, none⟩ (.string (s.extract m s.size))) [g]) := ⟨(Touched.refl w _).setCell (.inl (by simp)) _⟩
  have hes : (s.extract 0 m).size ≤ 1000000000 := by rw [ByteArray.size_extract]; omega
  have b1 : (0 : Int) ≤ (m : Int) := by omega
  have b2 : (m : Int) ≤ (s.size : Int) := by omega
  go_enter Tryd.func26, Tryd.ntmps26
  go_wp2_with fail
  refine (clone_calls _ _ hes).mono ?_
  rintro e w1 ⟨rfl, hb⟩
  have HB : Box _ := ⟨hb⟩
  clear hb
  go_wp2_with fail
  go_ret
  have hT2 := Touched.of_below HB.out []
  exact ⟨rfl, H2.out.touched hT2 (by simp), HT.out.trans (hT2.mono (by simp))⟩
theorem rawI_size (e : Int) (s : ByteArray) (n : Int) : (rawI e s n).1.size ≤ s.size ∧ (rawI e s n).2.2.size ≤ s.size ∧ (0 ≤ n → ((rawI e s n).1.size : Int) ≤ n) := by
  unfold rawI
  split
  · exact ⟨by show 0 ≤ s.size; omega, Nat.le_refl _, fun h => h⟩
  · split
    · exact ⟨by show 0 ≤ s.size; omega, Nat.le_refl _, fun h => h⟩
    · split
      · exact ⟨by show 0 ≤ s.size; omega, Nat.le_refl _, fun h => h⟩
      · simp only [ByteArray.size_extract]
        omega

/-- Left. -/
def leftI (e : Int) (s : ByteArray) : Int := if e ≠ 0 then 0 else (s.size : Int)
theorem inLeft_calls (g : Nat) (e : Int) (s : ByteArray) (w : World) (h : InS w g e s) :
    Calls Tryd.prog 28 #[.pointer (some ⟨g, 0, none⟩)] w fun r w' => r = .returned (.int .i64 (leftI e s)) ∧ w = w' := by
  have k0 := h.c0
  have k1 := h.c1
  clear h
  by_cases he : e = 0
  · subst he
    rw [leftI, if_neg (by simp)]
    go_enter Tryd.func28, Tryd.ntmps28
    go_wp2_with fail
    go_ret
    exact ⟨rfl, rfl⟩
  · rw [leftI, if_pos he]
    go_enter Tryd.func28, Tryd.ntmps28
    go_wp2_with fail
    go_ret
    exact ⟨rfl, rfl⟩
end Go.Proofs.YtnakneabfnphkaaDoor
