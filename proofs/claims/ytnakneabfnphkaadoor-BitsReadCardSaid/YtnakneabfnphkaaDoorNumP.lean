/- Bytes as a number, and texts one behind the other: plain (as in CrcPure and Book, of no seat's functions; not together with those). -/
import Derived.Test.YtnakneabfnphkaaDoorOwn2
import Derived.Test.YtnakneabfnphkaaDoorTouch
namespace Go.Proofs.YtnakneabfnphkaaDoor
open Go.RowKit

/-- Bytes as a number, the lowest one first. -/
def numL : List UInt8 → Nat
  | [] => 0
  | b :: r => b.toNat + 256 * numL r
def lowL (v : Nat) : Nat → List UInt8
  | 0 => []
  | n + 1 => UInt8.ofNat v :: lowL (v / 256) n
theorem lowL_length (v n : Nat) : (lowL v n).length = n := by
  induction n generalizing v with
  | zero => rfl
  | succ n ih => rw [lowL, List.length_cons, ih]
theorem numL_lt (l : List UInt8) : numL l < 256 ^ l.length := by
  induction l with
  | nil => simp [numL]
  | cons b r ih =>
    have := b.toNat_lt
    rw [numL, List.length_cons, Nat.pow_succ]
    omega
theorem numL_lowL (v n : Nat) : numL (lowL v n) = v % 256 ^ n := by
  induction n generalizing v with
  | zero => simp [lowL, numL, Nat.mod_one]
  | succ n ih =>
    rw [lowL, numL, ih, Nat.pow_succ, Nat.mul_comm (256 ^ n) 256, Nat.mod_mul]
    have : (UInt8.ofNat v).toNat = v % 256 := by simp
    rw [this]
theorem lowL_numL (l : List UInt8) : lowL (numL l) l.length = l := by
  induction l with
  | nil => rfl
  | cons b r ih =>
    have hb := b.toNat_lt
    rw [List.length_cons, lowL, numL]
    have e1 : (b.toNat + 256 * numL r) / 256 = numL r := by omega
    have e2 : UInt8.ofNat (b.toNat + 256 * numL r) = b := by
      apply UInt8.toNat_inj.1
      simp
    rw [e1, e2, ih]
/-- How many bytes texts have together. -/
def totalLen (l : List ByteArray) : Int := (l.map fun s => (s.size : Int)).sum
theorem totalLen_snoc (l : List ByteArray) (s : ByteArray) : totalLen (l ++ [s]) = totalLen l + s.size := by simp [totalLen, List.sum_append]
theorem totalLen_nonneg (l : List ByteArray) : 0 ≤ totalLen l := by
  induction l with
  | nil => simp [totalLen]
  | cons a l ih => simp only [totalLen, List.map_cons, List.sum_cons] at *; omega
theorem totalLen_take_le (l : List ByteArray) (k : Nat) : totalLen (l.take k) ≤ totalLen l := by
  conv => rhs; rw [← List.take_append_drop k l]
  have : totalLen (l.take k ++ l.drop k) = totalLen (l.take k) + totalLen (l.drop k) := by simp only [totalLen, List.map_append, List.sum_append]
  have := totalLen_nonneg (l.drop k)
  omega

/-- All texts, one behind the other. -/
def joinB (l : List ByteArray) : ByteArray := l.foldl (· ++ ·) ByteArray.empty
theorem joinB_snoc (l : List ByteArray) (s : ByteArray) : joinB (l ++ [s]) = joinB l ++ s := by simp [joinB, List.foldl_append]
theorem joinB_size (l : List ByteArray) : ((joinB l).size : Int) = totalLen l := by
  have key : ∀ (l : List ByteArray) (a : ByteArray), ((l.foldl (· ++ ·) a).size : Int) = a.size + totalLen l := by
    intro l
    induction l with
    | nil => intro a; simp [totalLen]
    | cons s l ih => intro a; rw [List.foldl_cons, ih, ByteArray.size_append]; simp [totalLen]; omega
  have := key l ByteArray.empty
  simpa [joinB] using this
end Go.Proofs.YtnakneabfnphkaaDoor
