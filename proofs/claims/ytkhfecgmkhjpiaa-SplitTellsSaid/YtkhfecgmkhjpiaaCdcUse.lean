/- What the laws of chapter 14 ask of Cut. -/
import Derived.Test.YtkhfecgmkhjpiaaCdcPure2
import Derived.Test.YtkhfecgmkhjpiaaCdcAlive
namespace Go.Proofs.Ytkhfecgmkhjpiaa
open Go.RowKit
set_option linter.unusedVariables false

theorem row_alloc2 (w : World) (o : Obj) (cs : List Value) (t : TypeId) : RowAt ((w.alloc o).alloc (.cells cs.toArray t)) (some ⟨w.heap.size + 1, 0, none⟩) cs := by
  have h := rowAt_alloc (w.alloc o) cs t
  rwa [World.size_alloc] at h
theorem cut_of (a b c h s : Int) (t : ByteArray) (ht : t.size ≤ 1000000) (A : Option Addr) (W : World) (hR : RowAt W A [.string t]) :
    Calls Try.prog 29 #[rule a b c h s, .slice A 1 1] W fun e w' => ∃ A2 cap, e = .returned (.slice A2 (cutA (firstN a b c h s) 0 t.data.toList).length cap) ∧ (cutA (firstN a b c h s) 0 t.data.toList).length ≤ cap ∧ RowAt w' A2 (pcells (cutA (firstN a b c h s) 0 t.data.toList)) ∧ Below W.heap.size W w' := by
  have ht1 : totalLen [t] = t.size := by simp [totalLen]
  have hj : joinB [t] = t := by simp [joinB]
  have h := cdcCut_calls a b c h s A 1 1 [t] W rfl (by omega) (by omega) (by rw [ht1]; omega) hR
  rw [hj] at h
  refine h.mono ?_
  rintro e w' ⟨v, rfl, hown, hb⟩
  obtain ⟨A2, cap, rfl, h1, h2, _⟩ := hown.slice
  exact ⟨A2, cap, rfl, h1, h2, hb⟩
theorem cut_of2 (a b c h s : Int) (t : ByteArray) (ht : t.size ≤ 500000) (A : Option Addr) (W : World) (hR : RowAt W A [.string t, .string t]) :
    Calls Try.prog 29 #[rule a b c h s, .slice A 2 2] W fun e w' => ∃ A2 cap, e = .returned (.slice A2 (cutA (firstN a b c h s) 0 (t.data.toList ++ t.data.toList)).length cap) ∧ (cutA (firstN a b c h s) 0 (t.data.toList ++ t.data.toList)).length ≤ cap ∧ RowAt w' A2 (pcells (cutA (firstN a b c h s) 0 (t.data.toList ++ t.data.toList))) ∧ Below W.heap.size W w' := by
  have ht1 : totalLen [t, t] = t.size + t.size := by simp [totalLen]
  have hj : (joinB [t, t]).data.toList = t.data.toList ++ t.data.toList := by rw [joinB_data]; simp
  have h := cdcCut_calls a b c h s A 2 2 [t, t] W rfl (by omega) (by omega) (by rw [ht1]; omega) hR
  rw [hj] at h
  refine h.mono ?_
  rintro e w' ⟨v, rfl, hown, hb⟩
  obtain ⟨A2, cap, rfl, h1, h2, _⟩ := hown.slice
  exact ⟨A2, cap, rfl, h1, h2, hb⟩
theorem extract_mid (t : ByteArray) (x f : Nat) : (t.extract x (x + f)).data.toList = (t.data.toList.drop x).take f := by
  rw [ByteArray.data_extract, Array.toList_extract, List.extract_eq_take_drop, show x + f - x = f by omega]
theorem list_size {t : ByteArray} {l : List UInt8} (h : t.data.toList = l) : t.size = l.length := by rw [← h, data_length]

end Go.Proofs.Ytkhfecgmkhjpiaa
