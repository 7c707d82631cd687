/- bits.Out: numbers in so many bytes. -/
import Derived.Test.YtiocealhadlggaaBundle2
namespace Go.Proofs.Ytiocealhadlggaa
open Go.RowKit
set_option linter.unusedVariables false

/-- One number in so many bytes. -/
def layB (size : Nat) (x : Int) : Bool := decide (x < 0 ∨ (size < 8 ∧ x / 2 ^ (8 * size) ≠ 0))
def layOne (size : Nat) (d : Int × List UInt8) (x : Int) : Int × List UInt8 := if d.1 ≠ 0 then d else if layB size x = true then (1, d.2) else (0, d.2 ++ lowL x.toNat size)
def layO (size : Nat) (d : Int × List UInt8) (xs : List Int) : Int × List UInt8 := xs.foldl (layOne size) d
theorem layO_snoc (size : Nat) (d : Int × List UInt8) (xs : List Int) (x : Int) : layO size d (xs ++ [x]) = layOne size (layO size d xs) x := by simp [layO, List.foldl_append]
theorem layO_err (size : Nat) (d : Int × List UInt8) (xs : List Int) (h : d.1 ≠ 0) : layO size d xs = d := by
  induction xs with
  | nil => rfl
  | cons x xs ih => rw [layO, List.foldl_cons, layOne, if_pos h]; exact ih
theorem layO_stop (size : Nat) (d : Int × List UInt8) (xs : List Int) (k : Nat) (h : (layO size d (xs.take k)).1 ≠ 0) : layO size d xs = layO size d (xs.take k) := by
  conv => lhs; rw [← List.take_append_drop k xs]
  rw [layO, List.foldl_append]
  exact layO_err size _ _ h
theorem layO_len (size : Nat) (d : Int × List UInt8) (xs : List Int) : (layO size d xs).2.length ≤ d.2.length + size * xs.length := by
  induction xs generalizing d with
  | nil => simp [layO]
  | cons x xs ih =>
    have h := ih (layOne size d x)
    have h2 : (layOne size d x).2.length ≤ d.2.length + size := by
      unfold layOne
      split
      · omega
      · split
        · simp
        · simp [lowL_length]
    rw [layO, List.foldl_cons]
    rw [layO] at h
    rw [List.length_cons, Nat.mul_add]
    omega
theorem lowL_at (x n k : Nat) (h : k < n) : (lowL x n)[k]? = some (UInt8.ofNat (x / 256 ^ k)) := by
  induction n generalizing x k with
  | zero => omega
  | succ n ih =>
    cases k with
    | zero => simp [lowL]
    | succ k =>
      rw [lowL, List.getElem?_cons_succ, ih _ _ (by omega), Nat.div_div_eq_div_mul, Nat.pow_succ, Nat.mul_comm 256]
end Go.Proofs.Ytiocealhadlggaa
