/- Flags in bytes, laid one by one. -/
import Derived.Test.YtoadelcdcfdmfaaRoomBits
import Derived.Laws.BitsAllLaws
namespace Go.Proofs.Ytoadelcdcfdmfaa
open Go.RowKit
set_option linter.unusedVariables false

/-- The first k flags. -/
def preF (f : Nat → Bool) (k : Nat) : Nat → Bool := fun j => decide (j < k) && f j
theorem flagL_ext {f g : Nat → Bool} {n m : Nat} (hn : (n + 7) / 8 = (m + 7) / 8) (h : ∀ b, b < (n + 7) / 8 → flagB f n b = flagB g m b) : flagL f n = flagL g m := by
  unfold flagL
  rw [← hn]
  exact List.map_congr_left fun b hb => h b (List.mem_range.1 hb)
theorem flagL_congr {f g : Nat → Bool} {n : Nat} (h : ∀ j, j < n → f j = g j) : flagL f n = flagL g n := by
  refine flagL_ext rfl fun b _ => ?_
  unfold flagB
  congr 2
  funext t
  by_cases ht : 8 * b + t < n
  · rw [h _ ht]
  · simp [ht]
theorem flagL_none (n : Nat) : flagL (fun _ => false) n = List.replicate ((n + 7) / 8) 0 := by
  unfold flagL
  rw [List.eq_replicate_iff]
  refine ⟨by simp, fun b hb => ?_⟩
  obtain ⟨j, _, rfl⟩ := List.mem_map.1 hb
  exact flagB_none n j
theorem flagL_pre0 (f : Nat → Bool) (n : Nat) : flagL (preF f 0) n = List.replicate ((n + 7) / 8) 0 := by
  rw [← flagL_none]
  exact flagL_congr fun j _ => by simp [preF]
theorem flagL_preN (f : Nat → Bool) (n : Nat) : flagL (preF f n) n = flagL f n := flagL_congr fun j hj => by simp [preF, hj]
theorem flagL_upd (f : Nat → Bool) {n k : Nat} (hk : k < n) : (flagL f n).set (k / 8) (UInt8.ofNat ((flagB f n (k / 8)).toNat ||| 2 ^ (k % 8))) = flagL (upd f k true) n := by
  apply List.ext_getElem?
  intro i
  rw [List.getElem?_set]
  by_cases hi : i < (n + 7) / 8
  · rw [flagL_at _ hi, flagL_at _ hi, flagL_length]
    have hs := flagB_set f hk i
    by_cases e : k / 8 = i
    · subst e
      rw [if_pos rfl, if_pos hi]
      rw [if_pos rfl] at hs
      congr 1
      apply UInt8.toNat_inj.1
      rw [hs, UInt8.toNat_ofNat']
      have h8 : k % 8 < 8 := Nat.mod_lt _ (by omega)
      have h2 : (2 : Nat) ^ (k % 8) < 2 ^ 8 := Nat.pow_lt_pow_right (by omega) h8
      have h3 := (flagB f n (k / 8)).toNat_lt
      have h4 := Nat.or_lt_two_pow h3 h2
      omega
    · rw [if_neg e]
      congr 1
      apply UInt8.toNat_inj.1
      rw [hs, if_neg (fun h => e h.symm)]
  · have h1 : ∀ g, (flagL g n)[i]? = none := fun g => List.getElem?_eq_none (by rw [flagL_length]; omega)
    rw [h1, h1, flagL_length]
    split
    · rw [if_neg (by omega)]
    · rfl
theorem preF_succ {f : Nat → Bool} {k : Nat} (h : f k = true) : preF f (k + 1) = upd (preF f k) k true := by
  funext j
  unfold preF upd
  by_cases e : j = k
  · subst e; simp [h]
  · rw [if_neg e]
    have : decide (j < k + 1) = decide (j < k) := by rw [decide_eq_decide]; omega
    rw [this]
theorem preF_skip {f : Nat → Bool} {k : Nat} (h : f k = false) : preF f (k + 1) = preF f k := by
  funext j
  unfold preF
  by_cases e : j = k
  · subst e; simp [h]
  · have : decide (j < k + 1) = decide (j < k) := by rw [decide_eq_decide]; omega
    rw [this]
theorem flag_or (x : UInt8) (k : Nat) : bits BinOp.or IntKind.u8 (x.toNat : Int) (2 ^ (k % 8) % 256) = ((UInt8.ofNat (x.toNat ||| 2 ^ (k % 8))).toNat : Int) := by
  have h8 : k % 8 < 8 := Nat.mod_lt _ (by omega)
  have h2 : (2 : Nat) ^ (k % 8) < 2 ^ 8 := Nat.pow_lt_pow_right (by omega) h8
  have h3 := x.toNat_lt
  have h4 := Nat.or_lt_two_pow h3 h2
  have e : (2 : Int) ^ (k % 8) % 256 = ((2 ^ (k % 8) : Nat) : Int) := by
    rw [show (2 : Int) ^ (k % 8) = ((2 ^ (k % 8) : Nat) : Int) by rw [Int.natCast_pow]; rfl]
    generalize 2 ^ (k % 8) = q at h2
    omega
  rw [e, u8_or_nat _ _ h3 (by omega), UInt8.toNat_ofNat']
  omega
theorem flag_or2 (x : UInt8) (k : Nat) : ((x.toNat ||| 2 ^ (k % 8) % 256 : Nat)) = (UInt8.ofNat (x.toNat ||| 2 ^ (k % 8))).toNat := by
  have h8 : k % 8 < 8 := Nat.mod_lt _ (by omega)
  have h2 : (2 : Nat) ^ (k % 8) < 2 ^ 8 := Nat.pow_lt_pow_right (by omega) h8
  have h3 := x.toNat_lt
  have h4 := Nat.or_lt_two_pow h3 h2
  rw [Nat.mod_eq_of_lt (by omega : (2 : Nat) ^ (k % 8) < 256), UInt8.toNat_ofNat']
  omega
theorem bcells_set (l : List UInt8) (j : Nat) (b : UInt8) : (bcells l).set j (.int .u8 (b.toNat : Int)) = bcells (l.set j b) := by
  simp [bcells, List.map_set]
end Go.Proofs.Ytoadelcdcfdmfaa
