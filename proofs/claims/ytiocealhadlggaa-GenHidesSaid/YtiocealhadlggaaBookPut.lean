/- A Book's lists of spans: marks are written over all of them. -/
import Derived.Test.YtiocealhadlggaaBookAt
import Derived.Test.YtiocealhadlggaaBundle2
namespace Go.Proofs.Ytiocealhadlggaa
open Go.RowKit
set_option linter.unusedVariables false

/-- A Book's lists alone, and what they hold. -/
structure BookV (w : World) (base g : Nat) (S : Value) (N : Nat) (vs : List Value) (lf : Nat → List (Int × Int)) : Prop where
  gb : base ≤ g
  c4 : w.cell? ⟨g, 4, none⟩ = some S
  hS : Own w base 1 S N vs
  sg : S.ownBlock ≠ some g
  hv : ∀ i, i < N → (lf i).length ≤ 1000000 ∧ ∃ v, vs[i]? = some v ∧ Own w base 2 v (lf i).length (pcells (lf i)) ∧ ∀ b, v.ownBlock = some b → b ≠ g ∧ S.ownBlock ≠ some b
  vd : ∀ (i j : Nat) (v v' : Value) (b : Nat), i ≠ j → vs[i]? = some v → vs[j]? = some v' → v.ownBlock = some b → v'.ownBlock ≠ some b
/-- The blocks of the lists. -/
def vblocks (vs : List Value) : List Nat := vs.filterMap Value.ownBlock
theorem mem_vblocks {vs : List Value} {b : Nat} : b ∈ vblocks vs ↔ ∃ v ∈ vs, v.ownBlock = some b := by simp [vblocks]
section
variable {w w' : World} {base g N : Nat} {S : Value} {vs : List Value} {lf : Nat → List (Int × Int)}
theorem BookV.vlen (h : BookV w base g S N vs lf) : vs.length = N := by have := h.hS.1; omega
theorem BookV.gl (h : BookV w base g S N vs lf) : g < w.heap.size := cell_lt2 h.c4
theorem BookAt.v {T : Value} {us : List Value} {ls : List (List (Int × Int))} (h : BookAt w base g S T vs us ls) : BookV w base g S ls.length vs (fun i => (ls[i]?).getD []) := by
  refine ⟨h.gb, h.c4, h.hS, h.sg, fun i hi => ?_, h.vd⟩
  obtain ⟨l, hl⟩ : ∃ l, ls[i]? = some l := ⟨ls[i], List.getElem?_eq_getElem hi⟩
  obtain ⟨a, v, hv, ho, hd⟩ := h.hv i l hl
  simp only [hl, Option.getD_some]
  exact ⟨a, v, hv, ho, fun b hb => ⟨(hd b hb).1, (hd b hb).2.1⟩⟩
/-- One list's block was written. -/
theorem BookV.one {k m : Nat} {v : Value} {l' : List (Int × Int)} {bs : List Nat} (h : BookV w base g S N vs lf) (hk : k < N) (hv : vs[k]? = some v) (hT : Touched w w' bs) (hb : ∀ b ∈ bs, v.ownBlock = some b) (ho : Own w' base 2 v m (pcells l')) (hm : l'.length = m) (hl : m ≤ 1000000) : BookV w' base g S N vs (fun i => if i = k then l' else lf i) := by
  obtain ⟨_, v0, hv0, ho0, hd0⟩ := h.hv k hk
  have hvv : v0 = v := by rw [hv] at hv0; injection hv0 with e; exact e.symm
  rw [hvv] at hd0 ho0
  have hgl := h.gl
  refine ⟨h.gb, (hT.cell hgl (fun hm => (hd0 _ (hb _ hm)).1 rfl)).trans h.c4, hT.own h.hS (fun b hb1 hm => (hd0 _ (hb _ hm)).2 hb1), h.sg, fun i hi => ?_, h.vd⟩
  by_cases e : i = k
  · subst e
    simp only [if_true, hm]
    exact ⟨hl, v, hv, ho, hd0⟩
  · simp only [if_neg e]
    obtain ⟨a, x, hx, hox, hdx⟩ := h.hv i hi
    exact ⟨a, x, hx, hT.own hox (fun b hb1 hm => h.vd i k x v b e hx hv hb1 (hb _ hm)), hdx⟩
theorem BookV.congr {lf' : Nat → List (Int × Int)} (h : BookV w base g S N vs lf) (he : ∀ i, i < N → lf i = lf' i) : BookV w base g S N vs lf' := by
  refine ⟨h.gb, h.c4, h.hS, h.sg, fun i hi => ?_, h.vd⟩
  rw [← he i hi]; exact h.hv i hi
theorem BookV.touched {bs : List Nat} (h : BookV w base g S N vs lf) (hT : Touched w w' bs) (h1 : g ∉ bs) (h2 : ∀ b ∈ bs, S.ownBlock ≠ some b) (h3 : ∀ v ∈ vs, ∀ b ∈ bs, v.ownBlock ≠ some b) : BookV w' base g S N vs lf := by
  refine ⟨h.gb, (hT.cell h.gl h1).trans h.c4, hT.own h.hS (fun b hb hm => h2 b hm hb), h.sg, fun i hi => ?_, h.vd⟩
  obtain ⟨a, x, hx, hox, hdx⟩ := h.hv i hi
  exact ⟨a, x, hx, hT.own hox (fun b hb hm => h3 x (List.mem_of_getElem? hx) b hm hb), hdx⟩
theorem BookV.below (h : BookV w base g S N vs lf) (hb : Below w.heap.size w w') : BookV w' base g S N vs lf := h.touched (Touched.of_below hb []) (by simp) (by simp) (by simp)
end
theorem pcells_set2 {l : List (Int × Int)} {k : Nat} (p : Int × Int) : ((pcells l).set (k * 2) (.int .i64 p.1)).set (k * 2 + 1) (.int .i64 p.2) = pcells (l.set k p) := by
  induction l generalizing k with
  | nil => simp [pcells]
  | cons q l ih =>
    cases k with
    | zero => simp [pcells_cons]
    | succ k =>
      have := ih (k := k)
      rw [show (k + 1) * 2 = k * 2 + 1 + 1 from by omega]
      simpa [pcells_cons] using this
/-- The first j of a list are marks already. -/
def marksTo (i j : Nat) (l : List (Int × Int)) : List (Int × Int) := marksP i 0 j ++ l.drop j
theorem marksTo_length (i j : Nat) (l : List (Int × Int)) (h : j ≤ l.length) : (marksTo i j l).length = l.length := by simp [marksTo, marksP_length]; omega
theorem marksTo_zero (i : Nat) (l : List (Int × Int)) : marksTo i 0 l = l := by simp [marksTo, marksP]
theorem marksTo_all (i : Nat) (l : List (Int × Int)) : marksTo i l.length l = marksP i 0 l.length := by simp [marksTo]
theorem marksTo_set (i j : Nat) (l : List (Int × Int)) (h : j < l.length) : (marksTo i j l).set j (-1000 * (i : Int) - (j : Int) - 1, 0) = marksTo i (j + 1) l := by
  rw [marksTo, marksTo, marksP_snoc, List.set_append_right _ _ (by simp [marksP_length]), marksP_length, Nat.sub_self, List.drop_eq_getElem_cons h, List.set_cons_zero]
  simp
theorem marksP_at (i n j : Nat) (h : j < n) : (marksP i 0 n)[j]? = some (-1000 * (i : Int) - (j : Int) - 1, 0) := by
  simp [marksP, h]
end Go.Proofs.Ytiocealhadlggaa
