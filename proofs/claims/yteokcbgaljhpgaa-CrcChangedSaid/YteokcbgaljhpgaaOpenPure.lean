/- What is opened: the last four bytes are the sum. -/
import Derived.Test.YteokcbgaljhpgaaSealRef
namespace Go.Proofs.Yteokcbgaljhpgaa

theorem open_iff (b : ByteArray) (h : 4 ≤ b.size) (c : BitVec 32) : (b.extract 0 (b.size - 4) ++ lowS c.toNat 4 = b) ↔ numL (b.extract (b.size - 4) b.size).data.toList = c.toNat := by
  have hc := w_lt c
  have hb : b.extract 0 (b.size - 4) ++ b.extract (b.size - 4) b.size = b := by
    rw [ByteArray.extract_append_extract]
    simp
    try omega
  have hT : (b.extract (b.size - 4) b.size).data.toList.length = 4 := by
    rw [data_length, ByteArray.size_extract]; omega
  obtain ⟨F, hF⟩ : ∃ F, b.extract 0 (b.size - 4) = F := ⟨_, rfl⟩
  obtain ⟨T, hTT⟩ : ∃ T, b.extract (b.size - 4) b.size = T := ⟨_, rfl⟩
  rw [hF, hTT] at hb
  rw [hTT] at hT
  rw [hF, hTT]
  constructor
  · intro e
    rw [← hb] at e
    have e2 := congrArg (fun x : ByteArray => x.data.toList) e
    simp only [ByteArray.data_append, Array.toList_append] at e2
    have e3 := List.append_cancel_left e2
    rw [← e3]
    show numL (lowL c.toNat 4) = _
    rw [numL_lowL, Nat.mod_eq_of_lt (by simpa using hc)]
  · intro e
    have e2 := lowL_numL T.data.toList
    rw [hT, e] at e2
    rw [← hb, lowS, e2]
end Go.Proofs.Yteokcbgaljhpgaa
