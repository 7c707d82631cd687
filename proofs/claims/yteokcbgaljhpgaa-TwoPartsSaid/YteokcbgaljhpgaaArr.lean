/- Arrays of words in memory of the call's own. -/
import Derived.Test.YteokcbgaljhpgaaMix
namespace Go.Proofs.Yteokcbgaljhpgaa
open Go.RowKit

theorem Own.range0 {w : World} {base n cap g : Nat} {xs : List Value} (h : Own w base 1 (.slice (some ⟨g, 0, none⟩) n cap) n xs) : w.rangeAt g 0 xs := fun j v hv => by
  rw [Nat.zero_add]; exact (h.cell hv).1
theorem Own.there0 {w : World} {base n cap g : Nat} {xs : List Value} (h : Own w base 1 (.slice (some ⟨g, 0, none⟩) n cap) n xs) : w.there g 0 n := fun j hj => by
  have hl : j < xs.length := by rw [h.1]; omega
  rw [Nat.zero_add]
  have := h.cell (List.getElem?_eq_getElem hl)
  exact ⟨by rw [this.1]; rfl, this.2⟩
theorem Own.all {w : World} {base n g : Nat} {xs : List Value} (h : Own w base 1 (.slice (some ⟨g, 0, none⟩) n n) n xs) (ys : List Value) (hy : ys.length = n) : Own (w.setCells g 0 ys) base 1 (.slice (some ⟨g, 0, none⟩) n n) n ys := by
  have ht := h.there0
  rcases h.2 with ⟨h2, _⟩ | ⟨g', cap', h2, hb, hl, hn, hm, hc, hx⟩
  · simp at h2
  · simp at h2
    obtain ⟨rfl, rfl⟩ := h2
    refine ⟨by omega, .inr ⟨g, n, rfl, hb, Nat.lt_of_lt_of_le hl (grownBy_setCells g _ _ w).size, Nat.le_refl _, hm, fun j hj => ?_, fun j u hu => ?_⟩⟩
    · refine ⟨?_, by rw [World.frozen?_setCells]; exact (hc j hj).2⟩
      have := World.cell?_setCells_in g ys 0 w (fun i hi => (ht i (by omega)).1) j (by omega)
      rw [Nat.zero_add] at this
      rw [this]; rfl
    · have hjl := (List.getElem?_eq_some_iff.1 hu).1
      have := World.cell?_setCells_in g ys 0 w (fun i hi => (ht i (by omega)).1) j hjl
      rw [Nat.zero_add] at this
      rw [this, ← hu, List.getElem?_eq_getElem hjl]
theorem wcells_length (l : List (BitVec 32)) : (wcells l).length = l.length := by simp [wcells]
theorem all_wcells (l : List (BitVec 32)) : (wcells l).toArray.all (·.oneCell') = true := all_oneCell_toArray (one_wcells l)

structure ArrAt (w wr : World) (n : Nat) (f : Nat → BitVec 32) : Prop where
  bel : Below w.heap.size w wr
  or : Own wr w.heap.size 1 (.slice (some ⟨w.heap.size, 0, none⟩) n n) n (fw (fun _ => 0) n)
  ow : Own wr w.heap.size 1 (.slice (some ⟨w.heap.size + 1, 0, none⟩) n n) n (fw f n)
theorem ArrAt.drew {w wr : World} {n : Nat} {f : Nat → BitVec 32} (a : ArrAt w wr n f) : ArrAt w wr.drew n f := ⟨⟨a.bel.os, a.bel.tape, a.bel.output, a.bel.size, a.bel.block⟩, a.or, a.ow⟩
theorem ArrAt.drewN {w wr : World} {n : Nat} {f : Nat → BitVec 32} (a : ArrAt w wr n f) (k : Nat) : ArrAt w (wr.drewN k) n f := ⟨⟨a.bel.os, a.bel.tape, a.bel.output, a.bel.size, a.bel.block⟩, a.or, a.ow⟩
theorem ArrAt.congr {w wr : World} {n : Nat} {f g : Nat → BitVec 32} (a : ArrAt w wr n f) (e : ∀ j, j < n → f j = g j) : ArrAt w wr n g := ⟨a.bel, a.or, by rw [← fw_congr e]; exact a.ow⟩
theorem ArrAt.set {w wr : World} {n : Nat} {f : Nat → BitVec 32} (a : ArrAt w wr n f) (k : Nat) (hk : k < n) (x : BitVec 32) : ArrAt w (wr.setCell ⟨w.heap.size + 1, k, none⟩ (.int .u32 (x.toNat : Int))) n (fun j => if j = k then x else f j) := by
  obtain ⟨h1, h2⟩ := a.ow.set k (by rw [fw_length]; exact hk) (.int .u32 (x.toNat : Int))
  rw [fw_set] at h1
  exact ⟨a.bel.setCell (by simp only; omega) _, a.or.kept h2 (.inr (by simp [Value.ownBlock])), h1⟩

end Go.Proofs.Yteokcbgaljhpgaa
