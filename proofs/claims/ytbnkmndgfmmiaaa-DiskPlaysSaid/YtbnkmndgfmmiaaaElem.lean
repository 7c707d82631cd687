/- An element of a row whose elements have several cells each. -/
import Derived.Test.YtbnkmndgfmmiaaaBase
namespace Go.Proofs.Ytbnkmndgfmmiaaa
open Go.RowKit
set_option linter.unusedVariables false

theorem flat_get {α : Type} {cells : α → List Value} {sz : Nat} (hsz : ∀ x, (cells x).length = sz) {l : List α} {k : Nat} {x : α} (hk : l[k]? = some x) {r : Nat} {u : Value} (hr : (cells x)[r]? = some u) : (l.flatMap cells)[k * sz + r]? = some u := by
  induction l generalizing k with
  | nil => simp at hk
  | cons y l ih =>
    rw [List.flatMap_cons]
    cases k with
    | zero =>
      simp at hk; subst hk
      rw [Nat.zero_mul, Nat.zero_add, List.getElem?_append_left (List.getElem?_eq_some_iff.1 hr).1]
      exact hr
    | succ k =>
      rw [List.getElem?_append_right (by rw [hsz, Nat.add_mul]; omega), hsz, show (k + 1) * sz + r - sz = k * sz + r by rw [Nat.add_mul]; omega]
      exact ih (by simpa using hk)
theorem elem_at {α : Type} {cells : α → List Value} {sz : Nat} (hsz : ∀ x, (cells x).length = sz) (h0 : 0 < sz) {w : World} {A : Option Addr} {l : List α} (h : RowAt w A (l.flatMap cells)) {k : Nat} {x : α} (hk : l[k]? = some x) :
    ∃ b o, A = some ⟨b, o, none⟩ ∧ b < w.heap.size ∧ ∀ r u, (cells x)[r]? = some u → w.cell? ⟨b, o + k * sz + r, none⟩ = some u := by
  have hx : (cells x)[0]? = some ((cells x)[0]'(by rw [hsz]; exact h0)) := List.getElem?_eq_getElem _
  have hne : l.flatMap cells ≠ [] := by
    intro e
    have := flat_get hsz hk hx
    rw [e] at this
    simp at this
  obtain ⟨b, o, e, hb, hc⟩ := h.addr hne
  exact ⟨b, o, e, hb, fun r u hr => by rw [Nat.add_assoc]; exact hc _ _ (flat_get hsz hk hr)⟩
end Go.Proofs.Ytbnkmndgfmmiaaa
