/- What was sealed is opened; with one byte changed it is refused. -/
import Derived.Test.YtoadelcdcfdmfaaBundle5
namespace Go.Proofs.Ytoadelcdcfdmfaa
set_option linter.unusedVariables false

theorem open_seal (s : ByteArray) (m : Nat) : openB (sealOk s m) = (s ++ zerosB m, 0) := by
  obtain ⟨q, hq⟩ : ∃ q, s ++ zerosB m = q := ⟨_, rfl⟩
  rw [sealOk, hq]
  have h4 := lowS_size (crcSum q.data.toList).toNat 4
  have hsz : (q ++ lowS (crcSum q.data.toList).toNat 4).size = q.size + 4 := by rw [ByteArray.size_append, h4]
  have hex : (q ++ lowS (crcSum q.data.toList).toNat 4).extract 0 ((q ++ lowS (crcSum q.data.toList).toNat 4).size - 4) = q := by
    rw [hsz, Nat.add_sub_cancel]
    apply ByteArray.ext
    simp [ByteArray.data_extract]
  rw [openB, if_neg (by omega), hex, if_pos rfl]
theorem sealOk_size (s : ByteArray) (m : Nat) : (sealOk s m).size = s.size + m + 4 := by
  rw [sealOk, ByteArray.size_append, ByteArray.size_append, zerosB_size, lowS_size]

theorem mk_append (a b : List UInt8) : (⟨(a ++ b).toArray⟩ : ByteArray) = ⟨a.toArray⟩ ++ ⟨b.toArray⟩ := by
  apply ByteArray.ext; simp
/-- The bytes of two texts, the first one's known in number. -/
theorem open_two (a t : List UInt8) (ht : t.length = 4) : openB ⟨(a ++ t).toArray⟩ = if lowL (crcSum a).toNat 4 = t then (⟨a.toArray⟩, 0) else (ByteArray.empty, 7) := by
  have hsz : (⟨(a ++ t).toArray⟩ : ByteArray).size = a.length + 4 := by simp [ByteArray.size, ht]
  have hex : (⟨(a ++ t).toArray⟩ : ByteArray).extract 0 ((⟨(a ++ t).toArray⟩ : ByteArray).size - 4) = ⟨a.toArray⟩ := by
    rw [hsz, Nat.add_sub_cancel]
    apply ByteArray.ext
    simp [ByteArray.data_extract]
  rw [openB, if_neg (by omega), hex]
  have e : (⟨a.toArray⟩ : ByteArray) ++ lowS (crcSum (⟨a.toArray⟩ : ByteArray).data.toList).toNat 4 = ⟨(a ++ lowL (crcSum a).toNat 4).toArray⟩ := by
    rw [mk_append]; rfl
  rw [e]
  by_cases h : lowL (crcSum a).toNat 4 = t
  · rw [if_pos h, if_pos (by rw [h])]
  · rw [if_neg h, if_neg]
    intro h2
    have h3 := congrArg (fun x : ByteArray => x.data.toList) h2
    simp at h3
    exact h h3
theorem low4_inj {x y : BitVec 32} (h : lowL x.toNat 4 = lowL y.toNat 4) : x = y := by
  have h1 := congrArg numL h
  rw [numL_lowL, numL_lowL] at h1
  have := w_lt x; have := w_lt y
  apply BitVec.eq_of_toNat_eq
  omega
/-- One byte of what was sealed is changed. -/
theorem open_changed (s : ByteArray) (m j : Nat) (b : UInt8) (hj : j < (sealOk s m).data.toList.length) (hb : b ≠ (sealOk s m).data.toList[j]) :
    openB ⟨((sealOk s m).data.toList.set j b).toArray⟩ = (ByteArray.empty, 7) := by
  obtain ⟨q, hq⟩ : ∃ q, (s ++ zerosB m).data.toList = q := ⟨_, rfl⟩
  have hd : (sealOk s m).data.toList = q ++ lowL (crcSum q).toNat 4 := by
    rw [sealOk, ByteArray.data_append, Array.toList_append, hq]; rfl
  obtain ⟨l, hl⟩ : ∃ l, (sealOk s m).data.toList = l := ⟨_, rfl⟩
  simp only [hl] at hj hb hd ⊢
  subst hd
  have hL := lowL_length (crcSum q).toNat 4
  by_cases hjq : j < q.length
  · rw [List.set_append_left _ _ hjq, open_two _ _ hL, if_neg]
    intro h
    have h1 := low4_inj h
    rw [List.getElem_append_left hjq] at hb
    have e1 : q.set j b = q.take j ++ b :: q.drop (j + 1) := by rw [List.set_eq_take_append_cons_drop, if_pos hjq]
    have e2 : q = q.take j ++ q[j] :: q.drop (j + 1) := by
      conv => lhs; rw [← List.take_append_drop j q, List.drop_eq_getElem_cons hjq]
    rw [e1] at h1
    conv at h1 => rhs; rw [e2]
    exact crcSum_changed _ _ _ _ hb h1
  · rw [List.set_append_right _ _ (by omega), open_two _ _ (by rw [List.length_set, hL]), if_neg]
    intro h
    rw [List.getElem_append_right (by omega)] at hb
    have hj2 : j - q.length < (lowL (crcSum q).toNat 4).length := by simp at hj; omega
    have h2 : (lowL (crcSum q).toNat 4)[j - q.length]? = some b := by
      conv => lhs; rw [h]
      rw [List.getElem?_set_self hj2]
    rw [List.getElem?_eq_getElem hj2] at h2
    injection h2 with h2
    exact hb h2.symm

theorem xor_ne {x y : UInt8} (h : y ≠ 0) : x ^^^ y ≠ x := by
  intro h2
  apply h
  have : x ^^^ (x ^^^ y) = x ^^^ x := by rw [h2]
  rw [← UInt8.xor_assoc] at this
  simpa using this
theorem xor_nat (x y : UInt8) : ((x ^^^ y).toNat : Int) = ((x.toNat ^^^ y.toNat : Nat) : Int) := by simp
end Go.Proofs.Ytoadelcdcfdmfaa
