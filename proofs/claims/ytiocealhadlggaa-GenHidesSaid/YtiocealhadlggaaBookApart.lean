/- (*Book).Apart, of a Book that keeps lists of spans. -/
import Derived.Test.YtiocealhadlggaaBookGrow
import Derived.Test.YtiocealhadlggaaBookMarked
namespace Go.Proofs.Ytiocealhadlggaa
open Go.RowKit
set_option linter.unusedVariables false

theorem BookAt.ins {w : World} {base g : Nat} {S T : Value} {vs us : List Value} {ls : List (List (Int × Int))} (h : BookAt w base g S T vs us ls) : ∀ (i : Nat) (l : List (Int × Int)), ls[i]? = some l → ∃ (A' : Option Addr) (c' : Nat) (B' : Option Addr) (d' : Nat), vs[i]? = some (Value.slice A' l.length c') ∧ us[i]? = some (Value.slice B' l.length d') ∧ l.length ≤ 4000000000000000000 ∧ RowAt w A' (pcells l) ∧ RowAt w B' (pcells l) := by
  intro i l hl
  obtain ⟨a, v, hv, ho, _⟩ := h.hv i l hl
  obtain ⟨u, hu, ho2, _⟩ := h.hu i l hl
  obtain ⟨A, c, e, _, hr, _⟩ := ho.slice
  obtain ⟨B, d, e2, _, hr2, _⟩ := ho2.slice
  subst e e2
  exact ⟨A, c, B, d, hv, hu, by omega, hr, hr2⟩
theorem BookAt.vfree {w : World} {base g : Nat} {S T : Value} {vs us : List Value} {ls : List (List (Int × Int))} (h : BookAt w base g S T vs us ls) : ∀ b ∈ vblocks vs, b ≠ g ∧ S.ownBlock ≠ some b ∧ T.ownBlock ≠ some b := by
  intro b hb
  obtain ⟨v, hv, e⟩ := mem_vblocks.1 hb
  obtain ⟨i, hi, hx⟩ := List.getElem_of_mem hv
  have hi' : vs[i]? = some v := by rw [List.getElem?_eq_getElem hi, hx]
  have hil : i < ls.length := by rw [← h.vlen]; exact hi
  obtain ⟨_, v1, hv1, _, hd⟩ := h.hv i _ (List.getElem?_eq_getElem hil)
  rw [hi'] at hv1; injection hv1 with e1; subst e1
  exact hd b e
theorem getD_len {ls : List (List (Int × Int))} {B : Nat} (h : ∀ l ∈ ls, l.length ≤ B) (i : Nat) (hi : i < ls.length) : ((ls[i]?).getD []).length ≤ B := by
  rw [List.getElem?_eq_getElem hi]
  exact h _ (List.getElem_mem hi)
end Go.Proofs.Ytiocealhadlggaa

