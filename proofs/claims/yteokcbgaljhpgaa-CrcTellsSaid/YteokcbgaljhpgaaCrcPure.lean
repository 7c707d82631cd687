/- The check sum as plain mathematics: four bits at once, and that a changed byte is seen. -/
import Derived.Test.YteokcbgaljhpgaaWord
namespace Go.Proofs.Yteokcbgaljhpgaa
open Go.RowKit

def crcPoly : BitVec 32 := 0xedb88320
def crcBit (x : BitVec 32) : BitVec 32 := (x >>> 1) ^^^ (if x.getLsbD 0 then crcPoly else 0)
def crcBits : Nat → BitVec 32 → BitVec 32
  | 0, x => x
  | n + 1, x => crcBit (crcBits n x)
def crcByte (x : BitVec 32) (b : UInt8) : BitVec 32 := crcBits 8 (x ^^^ bw b)
def crcGo (x : BitVec 32) (l : List UInt8) : BitVec 32 := l.foldl crcByte x
def crcSum (l : List UInt8) : BitVec 32 := ~~~ (crcGo (BitVec.allOnes 32) l)
theorem crcGo_snoc (x : BitVec 32) (l : List UInt8) (b : UInt8) : crcGo x (l ++ [b]) = crcByte (crcGo x l) b := by simp [crcGo, List.foldl_append]
theorem crcGo_append (x : BitVec 32) (l m : List UInt8) : crcGo x (l ++ m) = crcGo (crcGo x l) m := by simp [crcGo, List.foldl_append]

theorem crcBit_xor (x y : BitVec 32) : crcBit (x ^^^ y) = crcBit x ^^^ crcBit y := by
  unfold crcBit
  apply BitVec.eq_of_getLsbD_eq
  intro i hi
  cases hx : x.getLsbD 0 <;> cases hy : y.getLsbD 0 <;> simp only [BitVec.getLsbD_xor, hx, hy, BitVec.getLsbD_ushiftRight] <;> simp <;>
    cases x.getLsbD (1 + i) <;> cases y.getLsbD (1 + i) <;> cases crcPoly.getLsbD i <;> rfl
theorem crcBits_xor (n : Nat) (x y : BitVec 32) : crcBits n (x ^^^ y) = crcBits n x ^^^ crcBits n y := by
  induction n with
  | zero => rfl
  | succ n ih => rw [crcBits, ih, crcBit_xor]; rfl
theorem crcBits_add (m n : Nat) (x : BitVec 32) : crcBits (m + n) x = crcBits m (crcBits n x) := by
  induction m with
  | zero => rw [Nat.zero_add]; rfl
  | succ m ih => rw [Nat.succ_add, crcBits, ih]; rfl
theorem crcBit_shl (y : BitVec 32) (h : y.getLsbD 31 = false) : crcBit (y <<< 1) = y := by
  unfold crcBit
  apply BitVec.eq_of_getLsbD_eq
  intro i hi
  have h0 : (y <<< 1).getLsbD 0 = false := by simp
  rw [h0]
  simp only [BitVec.getLsbD_xor, BitVec.getLsbD_ushiftRight, BitVec.getLsbD_shiftLeft]
  by_cases e : i = 31
  · subst e; rw [h]; simp
  · simp; omega
theorem crcBits_shl (x : BitVec 32) : crcBits 4 ((x >>> 4) <<< 4) = x >>> 4 := by
  have e (k : Nat) (hk : k < 4) : ((x >>> 4) <<< k).getLsbD 31 = false := by
    simp only [BitVec.getLsbD_shiftLeft, BitVec.getLsbD_ushiftRight]
    have : x.getLsbD (4 + (31 - k)) = false := BitVec.getLsbD_of_ge _ _ (by omega)
    simp [this]
  have s (k : Nat) : (x >>> 4) <<< (k + 1) = ((x >>> 4) <<< k) <<< 1 := by rw [← BitVec.shiftLeft_add]
  show crcBit (crcBit (crcBit (crcBit ((x >>> 4) <<< (3 + 1))))) = _
  rw [s 3, crcBit_shl _ (e 3 (by omega)), s 2, crcBit_shl _ (e 2 (by omega)), s 1, crcBit_shl _ (e 1 (by omega)), s 0, crcBit_shl _ (e 0 (by omega))]
  simp
theorem low_split (x : BitVec 32) : x = ((x >>> 4) <<< 4) ^^^ (x &&& 15) := by
  apply BitVec.eq_of_getLsbD_eq
  intro i hi
  simp only [BitVec.getLsbD_xor, BitVec.getLsbD_shiftLeft, BitVec.getLsbD_ushiftRight, BitVec.getLsbD_and]
  have h15 : (15 : BitVec 32).getLsbD i = decide (i < 4) := by
    have := BitVec.getLsbD_ofNat 32 15 i
    rw [show (15 : BitVec 32) = BitVec.ofNat 32 15 from rfl, this, show (15 : Nat) = 2 ^ 4 - 1 by decide, Nat.testBit_two_pow_sub_one]
    simp; omega
  rw [h15]
  by_cases h : i < 4
  · simp [h]
  · simp [h, hi, show 4 + (i - 4) = i by omega]
/-- Four bits by a table. -/
theorem crc_four (x : BitVec 32) : x >>> 4 ^^^ crcBits 4 (x &&& 15) = crcBits 4 x := by
  conv => rhs; rw [low_split x]
  rw [crcBits_xor, crcBits_shl]
theorem crc_eight (x : BitVec 32) : crcBits 4 (crcBits 4 x) = crcBits 8 x := (crcBits_add 4 4 x).symm

theorem crcBit_zero {x : BitVec 32} (h : crcBit x = 0) : x = 0 := by
  unfold crcBit at h
  cases h0 : x.getLsbD 0 with
  | true =>
    rw [h0, if_pos rfl] at h
    have h1 : (x >>> 1 ^^^ crcPoly).getLsbD 31 = false := by rw [h]; simp
    rw [BitVec.getLsbD_xor, BitVec.getLsbD_ushiftRight, BitVec.getLsbD_of_ge _ _ (show 32 ≤ 1 + 31 by omega), show crcPoly.getLsbD 31 = true by decide] at h1
    cases h1
  | false =>
    rw [h0] at h
    apply BitVec.eq_of_getLsbD_eq
    intro i hi
    cases i with
    | zero => rw [h0]; simp
    | succ i =>
      have h1 : (x >>> 1 ^^^ (if false = true then crcPoly else 0)).getLsbD i = false := by rw [h]; simp
      simp only [BitVec.getLsbD_xor, BitVec.getLsbD_ushiftRight] at h1
      rw [Nat.add_comm i 1]
      simpa using h1
theorem crcBit_inj {x y : BitVec 32} (h : crcBit x = crcBit y) : x = y := by
  have h1 : crcBit (x ^^^ y) = 0 := by rw [crcBit_xor, h, BitVec.xor_self]; rfl
  have h2 := crcBit_zero h1
  have h3 : x ^^^ y ^^^ y = 0 ^^^ y := by rw [h2]
  rw [BitVec.xor_assoc, BitVec.xor_self, BitVec.xor_zero] at h3
  rw [h3]; exact BitVec.zero_xor
theorem crcBits_inj {n : Nat} {x y : BitVec 32} (h : crcBits n x = crcBits n y) : x = y := by
  induction n with
  | zero => exact h
  | succ n ih => exact ih (crcBit_inj h)
theorem xor_cancel {x y z : BitVec 32} (h : x ^^^ y = x ^^^ z) : y = z := by
  have : x ^^^ (x ^^^ y) = x ^^^ (x ^^^ z) := by rw [h]
  rwa [← BitVec.xor_assoc, ← BitVec.xor_assoc, BitVec.xor_self, BitVec.zero_xor, BitVec.zero_xor] at this
theorem bw_inj {b c : UInt8} (h : bw b = bw c) : b = c := by
  have h1 : (b.toNat : Int) = c.toNat := by rw [bw_nat, bw_nat, h]
  exact UInt8.toNat_inj.1 (by omega)
theorem crcByte_inj {x y : BitVec 32} {b : UInt8} (h : crcByte x b = crcByte y b) : x = y := by
  have := crcBits_inj h
  rw [BitVec.xor_comm x, BitVec.xor_comm y] at this
  exact xor_cancel this
theorem crcGo_inj (l : List UInt8) : ∀ {x y : BitVec 32}, crcGo x l = crcGo y l → x = y := by
  induction l with
  | nil => intro x y h; exact h
  | cons b l ih => intro x y h; exact crcByte_inj (ih h)
theorem not_inj {x y : BitVec 32} (h : ~~~x = ~~~y) : x = y := by
  have := congrArg (~~~·) h
  simpa using this
/-- A changed byte is seen. -/
theorem crcSum_changed (p q : List UInt8) (b c : UInt8) (hne : b ≠ c) : crcSum (p ++ b :: q) ≠ crcSum (p ++ c :: q) := by
  intro h
  have h1 := not_inj h
  rw [crcGo_append, crcGo_append] at h1
  have h2 := crcGo_inj q (x := crcByte (crcGo (BitVec.allOnes 32) p) b) (y := crcByte (crcGo (BitVec.allOnes 32) p) c) h1
  exact hne (bw_inj (xor_cancel (crcBits_inj h2)))

/-- Bytes as a number, the lowest one first. -/
def numL : List UInt8 → Nat
  | [] => 0
  | b :: r => b.toNat + 256 * numL r
def lowL (v : Nat) : Nat → List UInt8
  | 0 => []
  | n + 1 => UInt8.ofNat v :: lowL (v / 256) n
theorem lowL_length (v n : Nat) : (lowL v n).length = n := by
  induction n generalizing v with
  | zero => rfl
  | succ n ih => rw [lowL, List.length_cons, ih]
theorem numL_lt (l : List UInt8) : numL l < 256 ^ l.length := by
  induction l with
  | nil => simp [numL]
  | cons b r ih =>
    have := b.toNat_lt
    rw [numL, List.length_cons, Nat.pow_succ]
    omega
theorem numL_lowL (v n : Nat) : numL (lowL v n) = v % 256 ^ n := by
  induction n generalizing v with
  | zero => simp [lowL, numL, Nat.mod_one]
  | succ n ih =>
    rw [lowL, numL, ih, Nat.pow_succ, Nat.mul_comm (256 ^ n) 256, Nat.mod_mul]
    have : (UInt8.ofNat v).toNat = v % 256 := by simp
    rw [this]
theorem lowL_numL (l : List UInt8) : lowL (numL l) l.length = l := by
  induction l with
  | nil => rfl
  | cons b r ih =>
    have hb := b.toNat_lt
    rw [List.length_cons, lowL, numL]
    have e1 : (b.toNat + 256 * numL r) / 256 = numL r := by omega
    have e2 : UInt8.ofNat (b.toNat + 256 * numL r) = b := by
      apply UInt8.toNat_inj.1
      simp
    rw [e1, e2, ih]
end Go.Proofs.Yteokcbgaljhpgaa
