/- Texts that were changed: the plain part, and what Again makes of them. -/
import Derived.Test.YtiocealhadlggaaGreatSplitAlive
import Derived.BigQuiet
namespace Go.Proofs.YtiocealhadlggaaGreat
open Go.RowKit
set_option linter.unusedVariables false

/-- A text of which c bytes from a on were changed for others. -/
def edit (s wi : ByteArray) (a c : Nat) : ByteArray := s.extract 0 a ++ wi ++ s.extract (a + c) s.size
section
variable {s wi : ByteArray} {a c : Nat}
theorem edit_data (s wi : ByteArray) (a c : Nat) : (edit s wi a c).data.toList = s.data.toList.take a ++ wi.data.toList ++ s.data.toList.drop (a + c) := by
  rw [edit, ByteArray.data_append, Array.toList_append, extract_rest, ByteArray.data_append, Array.toList_append, ByteArray.data_extract, Array.toList_extract, List.extract_eq_take_drop]
  simp
theorem edit_size (ha : a ≤ s.size) (hc : c ≤ s.size - a) : ((edit s wi a c).size : Int) = s.size + wi.size - c := by
  rw [edit]; simp; omega
theorem edit_take (ha : a ≤ s.size) : (edit s wi a c).data.toList.take a = s.data.toList.take a := by
  rw [edit_data, List.append_assoc, List.take_append_of_le_length (by rw [List.length_take, data_length]; omega), List.take_take, Nat.min_self]
theorem edit_drop (ha : a ≤ s.size) : (edit s wi a c).data.toList.drop (a + wi.size) = s.data.toList.drop (a + c) := by
  have h1 : (s.data.toList.take a ++ wi.data.toList).length = a + wi.size := by rw [List.length_append, List.length_take, data_length, data_length]; omega
  rw [edit_data, ← h1, List.drop_left]
theorem edit_ok {F : List UInt8 → Nat} (hF : Best F) (ha : a ≤ s.size) (hc : c ≤ s.size - a) :
    (againR F (edit s wi a c).data.toList (cutA F 0 s.data.toList) a ((a : Int) + wi.size) ((wi.size : Int) - c)).1 = cutA F 0 (edit s wi a c).data.toList ∧ (againR F (edit s wi a c).data.toList (cutA F 0 s.data.toList) a ((a : Int) + wi.size) ((wi.size : Int) - c)).2 ≤ (cutA F 0 (edit s wi a c).data.toList).length := by
  have hz := edit_size (wi := wi) ha hc
  have := again_ok hF (s := s.data.toList) (t := (edit s wi a c).data.toList) (a := a) (b := a + wi.size) (g := (wi.size : Int) - c) (edit_take ha) (by rw [edit_drop ha]; congr 1; omega) (by omega) (by rw [data_length]; omega) (by omega) (by rw [data_length, data_length]; omega)
  simpa using this
end
theorem cut_range {F : List UInt8 → Nat} (hF : Good F) {s : List UInt8} {p : Int × Int} (h : p ∈ cutA F 0 s) : 0 ≤ p.1 ∧ p.2 ≤ s.length := by
  obtain ⟨i, hi⟩ := List.mem_iff_getElem?.1 h
  obtain ⟨x, g1, g2, g3, g4, _⟩ := cutA_at hF i 0 s p hi
  omega
/-- Again, of a text that was changed. -/
theorem againEdit_calls {cv : Value} {F : List UInt8 → Nat} (hc : Cutter cv F) (B : Option Addr) (sn sc : Nat) (s wi : ByteArray) (a c : Nat) (w : World) (hs : s.size ≤ 3000) (hw : wi.size ≤ 3000) (ha : a ≤ s.size) (hcc : c ≤ s.size - a) (hsc : sn ≤ sc) (hl : (cutA F 0 s.data.toList).length = sn) (hR : RowAt w B (pcells (cutA F 0 s.data.toList))) :
    Calls Tryz.prog 104 #[cv, .slice B sn sc, .string (edit s wi a c), .int .i64 a, .int .i64 ((a : Int) + wi.size), .int .i64 ((wi.size : Int) - c)] w fun e w' => ∃ v n, e = .returned (.tuple #[v, .int .i64 (n : Nat)]) ∧ n ≤ (cutA F 0 (edit s wi a c).data.toList).length ∧ Own w' w.heap.size 2 v (cutA F 0 (edit s wi a c).data.toList).length (pcells (cutA F 0 (edit s wi a c).data.toList)) ∧ Below w.heap.size w w' := by
  have hz := edit_size (wi := wi) ha hcc
  have hln := cutA_length hc.best.toGood s.data.toList.length 0 s.data.toList (Nat.le_refl _)
  rw [hl, data_length] at hln
  refine (again_calls hc B sn sc _ (edit s wi a c) a ((a : Int) + wi.size) ((wi.size : Int) - c) w (by omega) (by omega) hsc hl (by omega) (by omega) (by omega) (fun p hp => by have := cut_range hc.best.toGood hp; rw [data_length] at this; omega) hR).mono ?_
  have hk := edit_ok (wi := wi) hc.best ha hcc
  rintro e w' ⟨v, rfl, ho, hb⟩
  rw [hk.1] at ho
  exact ⟨v, _, rfl, hk.2, ho, hb⟩
end Go.Proofs.YtiocealhadlggaaGreat
