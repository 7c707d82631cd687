/- Flags in bytes, eight to a byte: plain laws for room.Lay and room.Read. -/
import Derived.Test.YtoadelcdcfdmfaaRoomPure
namespace Go.Proofs.Ytoadelcdcfdmfaa
set_option linter.unusedVariables false

/-- Eight flags as a number. -/
def byteF (g : Nat → Bool) : Nat → Nat
  | 0 => 0
  | k + 1 => byteF g k ||| (if g k then 2 ^ k else 0)
theorem byteF_bit (g : Nat → Bool) (k i : Nat) : (byteF g k).testBit i = (decide (i < k) && g i) := by
  induction k with
  | zero => simp [byteF]
  | succ k ih =>
    rw [byteF, Nat.testBit_or, ih]
    by_cases e : i = k
    · subst e
      by_cases h : g i
      · rw [if_pos h, Nat.testBit_two_pow_self]; simp [h]
      · rw [if_neg h]; simp [h]
    · have h2 : (if g k then 2 ^ k else 0 : Nat).testBit i = false := by
        split
        · exact Nat.testBit_two_pow_of_ne (fun h => e h.symm)
        · simp
      rw [h2, Bool.or_false]
      have : decide (i < k + 1) = decide (i < k) := by rw [decide_eq_decide]; omega
      rw [this]
theorem byteF_lt (g : Nat → Bool) (k : Nat) : byteF g k < 2 ^ k := by
  apply Nat.lt_pow_two_of_testBit
  intro i hi
  rw [byteF_bit]
  simp; omega
/-- One flag more. -/
theorem byteF_set (g : Nat → Bool) {k n : Nat} (hk : k < n) : byteF g n ||| 2 ^ k = byteF (upd g k true) n := by
  apply Nat.eq_of_testBit_eq
  intro i
  rw [Nat.testBit_or, byteF_bit, byteF_bit]
  by_cases e : i = k
  · subst e; rw [Nat.testBit_two_pow_self]; simp [upd, hk]
  · rw [Nat.testBit_two_pow_of_ne (fun h => e h.symm)]; simp [upd, e]
/-- The byte at place b: the flags 8 b to 8 b + 7 of n. -/
def flagB (f : Nat → Bool) (n b : Nat) : UInt8 := UInt8.ofNat (byteF (fun t => decide (8 * b + t < n) && f (8 * b + t)) 8)
def flagL (f : Nat → Bool) (n : Nat) : List UInt8 := (List.range ((n + 7) / 8)).map (flagB f n)
theorem flagL_length (f : Nat → Bool) (n : Nat) : (flagL f n).length = (n + 7) / 8 := by simp [flagL]
theorem flagL_at (f : Nat → Bool) {n b : Nat} (h : b < (n + 7) / 8) : (flagL f n)[b]? = some (flagB f n b) := by simp [flagL, h]
theorem flagB_nat (f : Nat → Bool) (n b : Nat) : (flagB f n b).toNat = byteF (fun t => decide (8 * b + t < n) && f (8 * b + t)) 8 := by
  have := byteF_lt (fun t => decide (8 * b + t < n) && f (8 * b + t)) 8
  unfold flagB
  rw [UInt8.toNat_ofNat']
  omega
/-- A flag is read where it was laid. -/
theorem flagB_bit (f : Nat → Bool) {n k : Nat} (h : k < n) : (flagB f n (k / 8)).toNat.testBit (k % 8) = f k := by
  rw [flagB_nat, byteF_bit]
  have h1 : 8 * (k / 8) + k % 8 = k := Nat.div_add_mod k 8
  have h2 : k % 8 < 8 := Nat.mod_lt _ (by omega)
  simp [h1, h, h2]
theorem flagB_none (n b : Nat) : flagB (fun _ => false) n b = 0 := by
  have : byteF (fun t => decide (8 * b + t < n) && (fun _ => false) (8 * b + t)) 8 = 0 := by
    apply Nat.eq_of_testBit_eq
    intro i
    rw [byteF_bit]
    simp
  unfold flagB
  rw [this]; rfl
/-- One flag more, in its byte; the others stay. -/
theorem flagB_set (f : Nat → Bool) {n k : Nat} (hk : k < n) (b : Nat) : (flagB (upd f k true) n b).toNat = if b = k / 8 then (flagB f n b).toNat ||| 2 ^ (k % 8) else (flagB f n b).toNat := by
  rw [flagB_nat, flagB_nat]
  split
  · rename_i e
    rw [byteF_set _ (Nat.mod_lt k (by omega) : k % 8 < 8)]
    apply Nat.eq_of_testBit_eq
    intro i
    rw [byteF_bit, byteF_bit]
    by_cases hi : i < 8
    · have h1 : 8 * (k / 8) + k % 8 = k := Nat.div_add_mod k 8
      by_cases e2 : i = k % 8
      · subst e2; subst e; simp [upd, h1, hk]
      · have : ¬ 8 * b + i = k := by subst e; omega
        simp [upd, e2, this]
    · simp [hi]
  · rename_i e
    apply Nat.eq_of_testBit_eq
    intro i
    rw [byteF_bit, byteF_bit]
    by_cases hi : i < 8
    · have : ¬ 8 * b + i = k := by omega
      simp [upd, this]
    · simp [hi]
end Go.Proofs.Ytoadelcdcfdmfaa
