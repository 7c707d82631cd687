/- Package fixed and its reference: what each function computes. -/
import Derived.Test.YtbnkmndgfmmiaaaOwn
import Derived.Test.YtbnkmndgfmmiaaaBook
namespace Go.Proofs.Ytbnkmndgfmmiaaa
open Go.RowKit
set_option linter.unusedVariables false
attribute [local go_sem] max2_int min2_int max_two min_two

def wholeGo : Int → List (Int × Int) → Option Int
  | at_, [] => some at_
  | at_, p :: r => if p.1 = at_ ∧ at_ < p.2 then wholeGo p.2 r else none
def wholeB (n : Int) (l : List (Int × Int)) : Bool := decide (wholeGo 0 l = some n)

theorem drop_of_at {α : Type} {l : List α} {k : Nat} {x : α} (h : l[k]? = some x) : l.drop k = x :: l.drop (k + 1) := by
  rw [List.getElem?_eq_some_iff] at h
  obtain ⟨h, rfl⟩ := h
  exact List.drop_eq_getElem_cons h

/-- Whether a span has a byte of a part. -/
def hits (a b : Int) (p : Int × Int) : Prop := max p.1 a < min p.2 b
instance (a b : Int) (p : Int × Int) : Decidable (hits a b p) := by unfold hits; infer_instance
def touchGo (a b : Int) : Nat → List (Int × Int) → Int × Int → Int × Int
  | _, [], r => r
  | i, p :: l, r => touchGo a b (i + 1) l (if hits a b p then (if r.2 = 0 then (i : Int) else r.1, (i : Int) + 1) else r)
def touch (a b : Int) (l : List (Int × Int)) : Int × Int := touchGo a b 0 l (0, 0)

/-- Spans of n bytes of so many. -/
def fixedL (n size : Nat) : List (Int × Int) := (List.range ((size + n - 1) / n)).map fun i => (((i * n : Nat) : Int), ((min ((i + 1) * n) size : Nat) : Int))
def fixedZ (n size : Int) : List (Int × Int) := if n < 1 then [] else fixedL n.toNat size.toNat
theorem fixedL_length (n size : Nat) : (fixedL n size).length = (size + n - 1) / n := by simp [fixedL]
theorem fixed_lt {n size k : Nat} (hn : 1 ≤ n) : k < (size + n - 1) / n ↔ k * n < size := by
  rw [Nat.lt_div_iff_mul_lt (by omega)]
  omega
theorem fixedL_at {n size k : Nat} (hn : 1 ≤ n) (h : k * n < size) : (fixedL n size)[k]? = some (((k * n : Nat) : Int), ((min ((k + 1) * n) size : Nat) : Int)) := by
  simp [fixedL, (fixed_lt hn).2 h]
theorem fixed_le {n size k : Nat} (hn : 1 ≤ n) (h : k ≤ (size + n - 1) / n) : k ≤ size := by
  rcases Nat.eq_zero_or_pos k with h0 | h0
  · omega
  · have := (fixed_lt (n := n) (size := size) (k := k - 1) hn).1 (by omega)
    have h2 : (k - 1) * 1 ≤ (k - 1) * n := Nat.mul_le_mul_left _ hn
    omega
theorem one_pair (x y : Int) : ∀ u ∈ ([.int .i64 x, .int .i64 y] : List Value), u.oneCell' = true := by intro u hu; simp at hu; rcases hu with rfl | rfl <;> rfl

theorem fixedZ_pos {n : Int} {size : Nat} (hn : 1 ≤ n) : fixedZ n size = fixedL n.toNat size := by simp [fixedZ]; omega
theorem fixedZ_none {n : Int} {size : Int} (hn : n < 1) : fixedZ n size = [] := by simp [fixedZ, hn]

end Go.Proofs.Ytbnkmndgfmmiaaa
