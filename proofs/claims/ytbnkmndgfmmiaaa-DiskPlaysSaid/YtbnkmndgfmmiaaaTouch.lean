/- What a call changes when it writes into a few blocks that are known: everything else stays. -/
import Derived.Test.YtbnkmndgfmmiaaaOwn
namespace Go.Proofs.Ytbnkmndgfmmiaaa
open Go.RowKit
set_option linter.unusedVariables false

/-- Of the blocks that were there only those of bs may have changed. -/
structure Touched (w w' : World) (bs : List Nat) : Prop where
  os : w'.os = w.os
  tape : w'.tape = w.tape
  output : w'.output = w.output
  size : w.heap.size ≤ w'.heap.size
  block : ∀ k, k < w.heap.size → k ∉ bs → w'.heap[k]? = w.heap[k]?

theorem Touched.refl (w : World) (bs : List Nat) : Touched w w bs := ⟨rfl, rfl, rfl, Nat.le_refl _, fun _ _ _ => rfl⟩
theorem Touched.mono {w w' : World} {bs cs : List Nat} (h : Touched w w' bs) (hs : ∀ k ∈ bs, k < w.heap.size → k ∈ cs) : Touched w w' cs :=
  ⟨h.os, h.tape, h.output, h.size, fun k hk hn => h.block k hk fun hb => hn (hs k hb hk)⟩
theorem Touched.trans {w w1 w2 : World} {bs : List Nat} (h : Touched w w1 bs) (k : Touched w1 w2 bs) : Touched w w2 bs :=
  ⟨k.os.trans h.os, k.tape.trans h.tape, k.output.trans h.output, Nat.le_trans h.size k.size, fun j hj hn => (k.block j (Nat.lt_of_lt_of_le hj h.size) hn).trans (h.block j hj hn)⟩
/-- .. where the second step may also change what the first one has made. -/
theorem Touched.trans' {w w1 w2 : World} {bs cs : List Nat} (h : Touched w w1 bs) (k : Touched w1 w2 cs) (hc : ∀ j ∈ cs, j ∈ bs ∨ w.heap.size ≤ j) : Touched w w2 bs :=
  ⟨k.os.trans h.os, k.tape.trans h.tape, k.output.trans h.output, Nat.le_trans h.size k.size, fun j hj hn => (k.block j (Nat.lt_of_lt_of_le hj h.size) (fun hm => (hc j hm).elim hn (fun h1 => by omega))).trans (h.block j hj hn)⟩
theorem Touched.of_below {w w' : World} (h : Below w.heap.size w w') (bs : List Nat) : Touched w w' bs := ⟨h.os, h.tape, h.output, h.size, fun k hk _ => h.block k hk⟩
theorem Touched.of_grown {w w' : World} {row : Option Nat} (h : w.grownBy w' row) : Touched w w' row.toList := by
  refine ⟨h.os, h.tape, h.output, h.size, fun k hk hn => h.block k hk fun e => hn ?_⟩
  rw [← e]; simp
theorem Touched.alloc {w w' : World} {bs : List Nat} (h : Touched w w' bs) (o : Obj) : Touched w (w'.alloc o) bs :=
  h.trans (Touched.of_below ((Below.refl _ _).alloc (Nat.le_refl _) o) bs)
theorem Touched.drewN {w w' : World} {bs : List Nat} (h : Touched w w' bs) (n : Nat) : Touched w (w'.drewN n) bs := ⟨h.os, h.tape, h.output, h.size, h.block⟩
theorem Touched.drew {w w' : World} {bs : List Nat} (h : Touched w w' bs) : Touched w w'.drew bs := ⟨h.os, h.tape, h.output, h.size, h.block⟩
theorem Touched.setCell {w w' : World} {bs : List Nat} (h : Touched w w' bs) {a : Addr} (ha : a.block ∈ bs ∨ w.heap.size ≤ a.block) (v : Value) : Touched w (w'.setCell a v) bs := by
  refine ⟨h.os, h.tape, h.output, Nat.le_trans h.size (by simp [World.setCell]), fun k hk hn => ?_⟩
  rw [Below.heap_setCell w' a v k (fun e => by
    rcases ha with ha | ha
    · exact hn (by rw [e]; exact ha)
    · omega)]
  exact h.block k hk hn
theorem Touched.below {B : Nat} {a w w' : World} {bs : List Nat} (h : Touched w w' bs) (hb : Below B a w) (hB : B ≤ w.heap.size) (hs : ∀ k ∈ bs, B ≤ k) : Below B a w' :=
  ⟨h.os.trans hb.os, h.tape.trans hb.tape, h.output.trans hb.output, Nat.le_trans hb.size h.size, fun k hk => (h.block k (by omega) (fun hm => by have := hs k hm; omega)).trans (hb.block k hk)⟩
theorem Touched.own {w w' : World} {base sz n : Nat} {v : Value} {xs : List Value} {bs : List Nat} (h : Touched w w' bs) (ho : Own w base sz v n xs) (hv : ∀ k, v.ownBlock = some k → k ∉ bs) : Own w' base sz v n xs := by
  obtain ⟨h1, h2⟩ := ho
  refine ⟨h1, ?_⟩
  rcases h2 with h2 | ⟨g, cap, rfl, hb, hl, hn, hm, hc, hx⟩
  · exact .inl h2
  · have e : w'.heap[g]? = w.heap[g]? := h.block g hl (hv g (by simp [Value.ownBlock]))
    refine .inr ⟨g, cap, rfl, hb, Nat.lt_of_lt_of_le hl h.size, hn, hm, fun j hj => ?_, fun j u hu => ?_⟩
    · rw [World.cell?_of_block (w := w) (a := ⟨g, j, none⟩) e, World.frozen?_of_block (w := w) (a := ⟨g, j, none⟩) e]
      exact hc j hj
    · rw [World.cell?_of_block (w := w) (a := ⟨g, j, none⟩) e]
      exact hx j u hu
theorem Touched.cell {w w' : World} {bs : List Nat} (h : Touched w w' bs) {g j : Nat} (hg : g < w.heap.size) (hn : g ∉ bs) : w'.cell? ⟨g, j, none⟩ = w.cell? ⟨g, j, none⟩ :=
  World.cell?_of_block (w := w) (a := ⟨g, j, none⟩) (h.block g hg hn)
theorem Touched.free {w w' : World} {bs : List Nat} (h : Touched w w' bs) {g j : Nat} (hg : g < w.heap.size) (hn : g ∉ bs) : w'.frozen? ⟨g, j, none⟩ = w.frozen? ⟨g, j, none⟩ :=
  World.frozen?_of_block (w := w) (a := ⟨g, j, none⟩) (h.block g hg hn)

theorem ownBlock_lt {w : World} {base sz n : Nat} {v : Value} {xs : List Value} (h : Own w base sz v n xs) {k : Nat} (hk : v.ownBlock = some k) : base ≤ k ∧ k < w.heap.size := h.lt k hk
end Go.Proofs.Ytbnkmndgfmmiaaa
