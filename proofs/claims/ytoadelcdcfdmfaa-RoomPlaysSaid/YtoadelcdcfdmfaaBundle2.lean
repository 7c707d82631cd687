/- Words and contracts that this claim leans on, one text behind the other. -/
import Derived.Test.YtoadelcdcfdmfaaBundle1
import Derived.Laws.BitsAllLaws
import Derived.Outline
import Derived.Laws.Rows
import Derived.Deep.RegionHeld3
/- Package masonrybook: texts in rows, joined, lent, held against each other. -/
namespace Go.Proofs.Ytoadelcdcfdmfaa
open Go.RowKit
set_option linter.unusedVariables false

def roomI : Int → List Int → Int
  | left, [] => left
  | left, x :: r => if left < 0 ∨ left < x then -1 else roomI (left - x) r

theorem roomI_one (left x : Int) (h0 : 0 ≤ left) : roomI left [x] = if left < x then -1 else left - x := by
  rw [roomI, roomI]
  by_cases h : left < x
  · rw [if_pos (.inr h), if_pos h]
  · rw [if_neg (by omega), if_neg h]

/-- How many bytes texts have together. -/
def totalLen (l : List ByteArray) : Int := (l.map fun s => (s.size : Int)).sum
theorem totalLen_snoc (l : List ByteArray) (s : ByteArray) : totalLen (l ++ [s]) = totalLen l + s.size := by simp [totalLen, List.sum_append]
theorem totalLen_nonneg (l : List ByteArray) : 0 ≤ totalLen l := by
  induction l with
  | nil => simp [totalLen]
  | cons a l ih => simp only [totalLen, List.map_cons, List.sum_cons] at *; omega
theorem totalLen_take_le (l : List ByteArray) (k : Nat) : totalLen (l.take k) ≤ totalLen l := by
  conv => rhs; rw [← List.take_append_drop k l]
  have : totalLen (l.take k ++ l.drop k) = totalLen (l.take k) + totalLen (l.drop k) := by simp only [totalLen, List.map_append, List.sum_append]
  have := totalLen_nonneg (l.drop k)
  omega

def shortB (few room : Int) (l : List ByteArray) : Bool := decide ((l.length : Int) ≤ few ∧ totalLen l ≤ room)

/-- All texts, one behind the other. -/
def joinB (l : List ByteArray) : ByteArray := l.foldl (· ++ ·) ByteArray.empty
theorem joinB_snoc (l : List ByteArray) (s : ByteArray) : joinB (l ++ [s]) = joinB l ++ s := by simp [joinB, List.foldl_append]
theorem joinB_size (l : List ByteArray) : ((joinB l).size : Int) = totalLen l := by
  have key : ∀ (l : List ByteArray) (a : ByteArray), ((l.foldl (· ++ ·) a).size : Int) = a.size + totalLen l := by
    intro l
    induction l with
    | nil => intro a; simp [totalLen]
    | cons s l ih => intro a; rw [List.foldl_cons, ih, ByteArray.size_append]; simp [totalLen]; omega
  have := key l ByteArray.empty
  simpa [joinB] using this

theorem el_texts : El Try.prog 100 9 1 16 := El.mk' Try.underlying100 (z := .string ByteArray.empty) (by kernel_rfl) (by decide)

theorem eq_of_take {α : Type} {a b : List α} (h : a.take a.length = b.take a.length) (hl : a.length = b.length) : a = b := by
  rw [List.take_length, hl, List.take_length] at h
  exact h
theorem take_eq_snoc {α : Type} {a b : List α} {k : Nat} {x : α} (ha : a[k]? = some x) (hb : b[k]? = some x) (h : a.take k = b.take k) : a.take (k + 1) = b.take (k + 1) := by
  rw [take_snoc_of ha, take_snoc_of hb, h]

set_option maxHeartbeats 800000 in
theorem sameTexts_calls (A B : Option Addr) (c d : Nat) (l m : List ByteArray) (w : World) (hn : l.length ≤ 4000000000000000000) (hR : RowAt w A (scells l)) (hS : RowAt w B (scells m)) :
    Calls Try.prog 83 #[.slice A l.length c, .slice B m.length d] w fun e w' => e = .returned (.bool (decide (l = m))) ∧ Below w.heap.size w w' := by
  have HR := Lib.hid hR; clear hR
  have HS := Lib.hid hS; clear hS
  by_cases hlen : l.length = m.length
  case neg =>
    have hb : decide (l = m) = false := by simp; intro h; exact hlen (by rw [h])
    rw [hb]
    go_enter Try.func83, Try.ntmps83
    go_wp2
    go_ret
    exact ⟨rfl, Below.refl _ _⟩
  have HL := Lib.hid hlen
  rw [← hlen]; clear hlen
  go_enter Try.func83, Try.ntmps83
  go_wp2
  go_loopw [5] (fun i wr => ∃ k : Nat, k ≤ l.length ∧ i = .int .i64 k ∧ Hid (l.take k = m.take k) ∧ Hid (Below w.heap.size w wr)) (fun i _ => l.length - (intOf i).toNat)
  case atStart => exact ⟨0, Nat.zero_le _, rfl, by simp [Hid], Below.refl _ _⟩
  case round =>
    obtain ⟨k, hk, rfl, HE, HW⟩ := hrel
    by_cases hlt : k < l.length
    · obtain ⟨x, hx⟩ := some_at hlt
      obtain ⟨y, hy⟩ := some_at (show k < m.length by have := HL.out; omega)
      obtain ⟨ad, rfl, hc⟩ := (HR.out.below HW.out).get (scells_at hx)
      obtain ⟨bd, rfl, hd⟩ := (HS.out.below HW.out).get (scells_at hy)
      have HX := Lib.hid hx; clear hx
      have HY := Lib.hid hy; clear hy
      by_cases hxy : x = y
      · subst hxy
        go_wp2_with fail
        go_quiet (fail)
        go_wp2
        go_roundw
        case rel => exact ⟨k + 1, by omega, by go_num, take_eq_snoc HX.out HY.out HE.out, below_drewN HW.out _⟩
        case measure => simp [intOf]; omega
      · have HF : Hid (decide (l = m) = false) := by
          simp only [Hid, decide_eq_false_iff_not]
          intro h
          have h1 := HX.out
          rw [h, HY.out] at h1
          exact hxy (by injection h1 with h1; exact h1.symm)
        have hne := str_ne hxy
        go_wp2_with fail
        go_quiet (fail)
        go_wp2
        go_ret
        exact ⟨ret_bool HF.out.symm, below_drewN HW.out _⟩
    · have HT : Hid (decide (l = m) = true) := by
        simp only [Hid, decide_eq_true_iff]
        exact eq_of_take (by have := HE.out; rwa [show k = l.length by omega] at this) HL.out
      go_wp2
      go_ret
      exact ⟨ret_bool HT.out.symm, HW.out⟩

def markB : ByteArray := ⟨#[109, 97, 114, 107]⟩
def staysB (l was : List ByteArray) (m : ByteArray) : Bool := decide (l = was) && decide (m = markB)
end Go.Proofs.Ytoadelcdcfdmfaa

/- Words of 32 bits: what the walk's operations on numbers do to them. -/
namespace Go.Proofs.Ytoadelcdcfdmfaa
open Go.RowKit
set_option linter.unusedVariables false

theorem w_lt (x : BitVec 32) : x.toNat < 4294967296 := x.isLt
theorem w_xor (x y : BitVec 32) : bits .xor .u32 (x.toNat : Int) (y.toNat : Int) = ((x ^^^ y).toNat : Int) := by
  rw [u32_xor_nat _ _ (w_lt x) (w_lt y), BitVec.toNat_xor]
theorem w_and (x y : BitVec 32) : bits .and .u32 (x.toNat : Int) (y.toNat : Int) = ((x &&& y).toNat : Int) := by
  rw [u32_and_nat _ _ (w_lt x) (w_lt y), BitVec.toNat_and]
theorem w_or (x y : BitVec 32) : bits .or .u32 (x.toNat : Int) (y.toNat : Int) = ((x ||| y).toNat : Int) := by
  rw [u32_or_nat _ _ (w_lt x) (w_lt y), BitVec.toNat_or]
theorem w_not (x : BitVec 32) : bits .xor .u32 4294967295 (x.toNat : Int) = ((~~~x).toNat : Int) := by
  have h := w_xor (BitVec.allOnes 32) x
  rw [show ((BitVec.allOnes 32).toNat : Int) = 4294967295 by decide] at h
  rw [h, BitVec.allOnes_xor]
theorem w_not' (x : BitVec 32) : bits .xor .u32 IntKind.u32.max (x.toNat : Int) = ((~~~x).toNat : Int) := w_not x
theorem w_add (x y : BitVec 32) : IntKind.u32.wrap ((x.toNat : Int) + (y.toNat : Int)) = ((x + y).toNat : Int) := by
  rw [IntKind.wrap_u32', BitVec.toNat_add]; omega
theorem w_shl (x : BitVec 32) (k : Nat) : IntKind.u32.wrap ((x.toNat : Int) * ((2 ^ k : Nat) : Int)) = ((x <<< k).toNat : Int) := by
  rw [IntKind.wrap_u32', BitVec.toNat_shiftLeft, Nat.shiftLeft_eq]
  have e : (2 : Nat) ^ 32 = 4294967296 := by decide
  rw [e]
  generalize 2 ^ k = m
  rw [← Int.natCast_mul]
  omega
theorem w_shr (x : BitVec 32) (k : Nat) : (x.toNat : Int) / ((2 ^ k : Nat) : Int) = ((x >>> k).toNat : Int) := by
  rw [BitVec.toNat_ushiftRight, Nat.shiftRight_eq_div_pow]
  generalize 2 ^ k = m
  exact (Int.natCast_ediv _ _).symm
theorem t_add (x y : BitVec 32) : ((x.toNat : Int) + (y.toNat : Int)) % 4294967296 = ((x + y).toNat : Int) := by
  rw [← w_add, IntKind.wrap_u32']
theorem t_add5 (a b c d e : BitVec 32) : ((a.toNat : Int) + (b.toNat : Int) + (c.toNat : Int) + (d.toNat : Int) + (e.toNat : Int)) % 4294967296 = ((a + b + c + d + e).toNat : Int) := by
  simp only [BitVec.toNat_add]; omega
theorem t_shl (x : BitVec 32) (k : Nat) : (x.toNat : Int) * 2 ^ k % 4294967296 = ((x <<< k).toNat : Int) := by
  have h := w_shl x k
  rw [IntKind.wrap_u32', Int.natCast_pow] at h
  exact h
theorem t_shr (x : BitVec 32) (k : Nat) : (x.toNat : Int) / 2 ^ k = ((x >>> k).toNat : Int) := by
  have h := w_shr x k
  rw [Int.natCast_pow] at h
  exact h
/-- A byte as a word. -/
def bw (b : UInt8) : BitVec 32 := BitVec.ofNat 32 b.toNat
theorem bw_nat (b : UInt8) : (b.toNat : Int) = ((bw b).toNat : Int) := by
  have := b.toNat_lt
  rw [bw, BitVec.toNat_ofNat]; omega
/-- A word is turned to the left. -/
def turn (x : BitVec 32) (k : Nat) : BitVec 32 := x <<< k ||| x >>> (32 - k)
/-- The bytes of a word, the highest one first. -/
def hi4 (x : BitVec 32) : List UInt8 := [UInt8.ofNat (x.toNat / 16777216), UInt8.ofNat (x.toNat / 65536), UInt8.ofNat (x.toNat / 256), UInt8.ofNat x.toNat]
/-- Four bytes as a word, the highest one first. -/
def word4 (a b c d : UInt8) : BitVec 32 := (((bw a <<< 8 ||| bw b) <<< 8 ||| bw c) <<< 8 ||| bw d)
theorem word4_ref (a b c d : UInt8) : bw a <<< 24 ||| bw b <<< 16 ||| bw c <<< 8 ||| bw d = word4 a b c d := by
  simp only [word4, BitVec.shiftLeft_or_distrib, ← BitVec.shiftLeft_add]
def wcells (l : List (BitVec 32)) : List Value := l.map fun x => .int .u32 (x.toNat : Int)
theorem wcells_at {l : List (BitVec 32)} {k : Nat} {x : BitVec 32} (h : l[k]? = some x) : (wcells l)[k]? = some (.int .u32 (x.toNat : Int)) := by simp [wcells, h]
theorem one_wcells (l : List (BitVec 32)) : ∀ u ∈ wcells l, u.oneCell' = true := by intro u hu; obtain ⟨b, _, rfl⟩ := List.mem_map.1 hu; rfl

/-- SHA-1: the words of a block of 64 bytes: sixteen that stand there, then each from those before it. -/
def firstWords (s : List UInt8) : List (BitVec 32) := (List.range 16).map fun t => word4 (s.getD (4 * t) 0) (s.getD (4 * t + 1) 0) (s.getD (4 * t + 2) 0) (s.getD (4 * t + 3) 0)
def oneNext (w : List (BitVec 32)) : BitVec 32 := turn (w.getD (w.length - 3) 0 ^^^ w.getD (w.length - 8) 0 ^^^ w.getD (w.length - 14) 0 ^^^ w.getD (w.length - 16) 0) 1
def oneWords (s : List UInt8) : Nat → List (BitVec 32)
  | 0 => firstWords s
  | n + 1 => oneWords s n ++ [oneNext (oneWords s n)]
structure Five where
  a : BitVec 32
  b : BitVec 32
  c : BitVec 32
  d : BitVec 32
  e : BitVec 32
  deriving DecidableEq
def oneF (t : Nat) (b c d : BitVec 32) : BitVec 32 :=
  if t < 20 then b &&& c ||| ~~~b &&& d else if t < 40 then b ^^^ c ^^^ d else if t < 60 then b &&& c ||| b &&& d ||| c &&& d else b ^^^ c ^^^ d
def oneK (t : Nat) : BitVec 32 := if t < 20 then 0x5a827999 else if t < 40 then 0x6ed9eba1 else if t < 60 then 0x8f1bbcdc else 0xca62c1d6
def oneStep (t : Nat) (w : BitVec 32) (h : Five) : Five :=
  ⟨turn h.a 5 + oneF t h.b h.c h.d + h.e + oneK t + w, h.a, turn h.b 30, h.c, h.d⟩
def oneRounds (w : List (BitVec 32)) (h : Five) : Nat → Five
  | 0 => h
  | n + 1 => oneStep n (w.getD n 0) (oneRounds w h n)
def Five.add (x y : Five) : Five := ⟨x.a + y.a, x.b + y.b, x.c + y.c, x.d + y.d, x.e + y.e⟩
def oneMix (h : Five) (s : List UInt8) : Five := h.add (oneRounds (oneWords s 64) h 80)
def oneBlocks (s : List UInt8) (h : Five) : Nat → Five
  | 0 => h
  | n + 1 => oneMix (oneBlocks s h n) ((s.drop (64 * n)).take 64)
def Five.cells (h : Five) : List (BitVec 32) := [h.a, h.b, h.c, h.d, h.e]
def oneStart : Five := ⟨0x67452301, 0xefcdab89, 0x98badcfe, 0x10325476, 0xc3d2e1f0⟩
/-- The bytes of a number of 64 bits, the highest one first. -/
def hi8 (n : Nat) : List UInt8 := [UInt8.ofNat (n / 72057594037927936), UInt8.ofNat (n / 281474976710656), UInt8.ofNat (n / 1099511627776), UInt8.ofNat (n / 4294967296), UInt8.ofNat (n / 16777216), UInt8.ofNat (n / 65536), UInt8.ofNat (n / 256), UInt8.ofNat n]
def padL (n : Nat) : List UInt8 := 128 :: (List.replicate ((119 - n % 64) % 64) 0 ++ hi8 (8 * n))
def oneSum (s : List UInt8) : List UInt8 :=
  let p := s ++ padL s.length
  (oneBlocks p oneStart (p.length / 64)).cells.flatMap hi4

/-- SHA-256. -/
structure Eight where
  a : BitVec 32
  b : BitVec 32
  c : BitVec 32
  d : BitVec 32
  e : BitVec 32
  f : BitVec 32
  g : BitVec 32
  i : BitVec 32
  deriving DecidableEq
def twoKeys : List (BitVec 32) := [
  0x428a2f98, 0x71374491, 0xb5c0fbcf, 0xe9b5dba5, 0x3956c25b, 0x59f111f1, 0x923f82a4, 0xab1c5ed5,
  0xd807aa98, 0x12835b01, 0x243185be, 0x550c7dc3, 0x72be5d74, 0x80deb1fe, 0x9bdc06a7, 0xc19bf174,
  0xe49b69c1, 0xefbe4786, 0x0fc19dc6, 0x240ca1cc, 0x2de92c6f, 0x4a7484aa, 0x5cb0a9dc, 0x76f988da,
  0x983e5152, 0xa831c66d, 0xb00327c8, 0xbf597fc7, 0xc6e00bf3, 0xd5a79147, 0x06ca6351, 0x14292967,
  0x27b70a85, 0x2e1b2138, 0x4d2c6dfc, 0x53380d13, 0x650a7354, 0x766a0abb, 0x81c2c92e, 0x92722c85,
  0xa2bfe8a1, 0xa81a664b, 0xc24b8b70, 0xc76c51a3, 0xd192e819, 0xd6990624, 0xf40e3585, 0x106aa070,
  0x19a4c116, 0x1e376c08, 0x2748774c, 0x34b0bcb5, 0x391c0cb3, 0x4ed8aa4a, 0x5b9cca4f, 0x682e6ff3,
  0x748f82ee, 0x78a5636f, 0x84c87814, 0x8cc70208, 0x90befffa, 0xa4506ceb, 0xbef9a3f7, 0xc67178f2]
def twoNext (w : List (BitVec 32)) : BitVec 32 :=
  w.getD (w.length - 16) 0 + w.getD (w.length - 7) 0 + (turn (w.getD (w.length - 15) 0) 25 ^^^ turn (w.getD (w.length - 15) 0) 14 ^^^ w.getD (w.length - 15) 0 >>> 3) + (turn (w.getD (w.length - 2) 0) 15 ^^^ turn (w.getD (w.length - 2) 0) 13 ^^^ w.getD (w.length - 2) 0 >>> 10)
def twoWords (s : List UInt8) : Nat → List (BitVec 32)
  | 0 => firstWords s
  | n + 1 => twoWords s n ++ [twoNext (twoWords s n)]
def twoX (h : Eight) (k w : BitVec 32) : BitVec 32 := h.i + (turn h.e 26 ^^^ turn h.e 21 ^^^ turn h.e 7) + (h.e &&& h.f ^^^ ~~~h.e &&& h.g) + k + w
def twoY (h : Eight) : BitVec 32 := turn h.a 30 ^^^ turn h.a 19 ^^^ turn h.a 10
def twoZ (h : Eight) : BitVec 32 := h.a &&& h.b ^^^ h.a &&& h.c ^^^ h.b &&& h.c
def twoStep (k w : BitVec 32) (h : Eight) : Eight :=
  ⟨twoX h k w + (twoY h + twoZ h), h.a, h.b, h.c, h.d + twoX h k w, h.e, h.f, h.g⟩
def twoRounds (w : List (BitVec 32)) (h : Eight) : Nat → Eight
  | 0 => h
  | n + 1 => twoStep (twoKeys.getD n 0) (w.getD n 0) (twoRounds w h n)
def Eight.add (x y : Eight) : Eight := ⟨x.a + y.a, x.b + y.b, x.c + y.c, x.d + y.d, x.e + y.e, x.f + y.f, x.g + y.g, x.i + y.i⟩
def twoMix (h : Eight) (s : List UInt8) : Eight := h.add (twoRounds (twoWords s 48) h 64)
def twoBlocks (s : List UInt8) (h : Eight) : Nat → Eight
  | 0 => h
  | n + 1 => twoMix (twoBlocks s h n) ((s.drop (64 * n)).take 64)
def Eight.cells (h : Eight) : List (BitVec 32) := [h.a, h.b, h.c, h.d, h.e, h.f, h.g, h.i]
def twoStart : Eight := ⟨0x6a09e667, 0xbb67ae85, 0x3c6ef372, 0xa54ff53a, 0x510e527f, 0x9b05688c, 0x1f83d9ab, 0x5be0cd19⟩
def twoSum (s : List UInt8) : List UInt8 :=
  let p := s ++ padL s.length
  (twoBlocks p twoStart (p.length / 64)).cells.flatMap hi4
end Go.Proofs.Ytoadelcdcfdmfaa

/- Package shaone: what each function computes. -/
namespace Go.Proofs.Ytoadelcdcfdmfaa
open Go.RowKit
set_option linter.unusedVariables false

end Go.Proofs.Ytoadelcdcfdmfaa
