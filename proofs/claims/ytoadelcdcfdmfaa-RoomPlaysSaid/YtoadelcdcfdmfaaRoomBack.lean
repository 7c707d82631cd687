/- A room that is laid is read as it was. -/
import Derived.Test.YtoadelcdcfdmfaaRoomPlay0
namespace Go.Proofs.Ytoadelcdcfdmfaa
open Go.RowKit
set_option linter.unusedVariables false

theorem raw_list (n : Nat) (f : Nat → Bool) (m : Nat) : (roomRaw n f ++ zerosB m).data.toList = (6 : UInt8) :: (lowL n 2 ++ (flagL f n ++ List.replicate m 0)) := by
  rw [ByteArray.data_append]
  simp [roomRaw, zerosB]
theorem roomB_read (n : Nat) (f : Nat → Bool) (h1 : 1 ≤ n) (h2 : n ≤ 1900) : rdE (roomB n f) = 0 ∧ rdN (roomB n f) = n ∧ ∀ j, j < n → rdF (roomB n f) j = f j := by
  obtain ⟨m, e1, e2, e3⟩ := roomB_open n f h2
  have eS : rdS (roomB n f) = roomRaw n f ++ zerosB m := by rw [rdS, e1]
  have eN : rdN (roomB n f) = n := by
    rw [rdN, eS, ByteArray.data_extract, Array.toList_extract, raw_list]
    have e4 : ((6 : UInt8) :: (lowL n 2 ++ (flagL f n ++ List.replicate m 0))).extract 1 3 = lowL n 2 := by
      simp [List.extract, lowL_length, List.take_append_of_le_length]
    rw [e4, numL_lowL]
    exact Nat.mod_eq_of_lt (by omega)
  have eF : ∀ j, j < n → rdF (roomB n f) j = f j := by
    intro j hj
    rw [rdF, eS, raw_list]
    have e5 : ((6 : UInt8) :: (lowL n 2 ++ (flagL f n ++ List.replicate m 0))).getD (3 + j / 8) 0 = flagB f n (j / 8) := by
      have e6 : 3 + j / 8 = (2 + j / 8) + 1 := by omega
      rw [List.getD_eq_getElem?_getD, e6, List.getElem?_cons_succ, List.getElem?_append_right (by rw [lowL_length]; omega), lowL_length, show 2 + j / 8 - 2 = j / 8 by omega, List.getElem?_append_left (by rw [flagL_length]; omega), flagL_at f (by omega)]
      rfl
    rw [e5]
    exact flagB_bit f hj
  refine ⟨?_, eN, eF⟩
  rw [rdE, if_neg (by omega), if_neg (by rw [e1]; simp), eN, if_neg (by omega), if_pos]
  exact roomB_congr eF
theorem room_back (n : Nat) (f : Nat → Bool) (h1 : 1 ≤ n) (h2 : n ≤ 1900) : idsL (rdF (roomB n f)) n = idsL f n := idsL_congr (roomB_read n f h1 h2).2.2
theorem sealB_size (s : ByteArray) (h : s.size ≤ 252) : (sealB 256 s).1.size = 256 := by
  have e : (sealB 256 s).1 = sealOk s (256 - 4 - s.size) := by
    rw [sealB, if_neg (by omega), if_neg (by omega)]
    rfl
  rw [e, sealOk_size]; omega

/-- Take, whatever there is. -/
theorem roomTake_any (g h c n : Nat) (f : Nat → Bool) (w : World) (hA : RoomAt w g h c n f) (hn : n ≤ 1900) :
    Calls Try.prog 9 #[.pointer (some ⟨g, 0, none⟩)] w fun e w' => ∃ v f', e = .returned v ∧ RoomAt w' g h c n f' ∧ Touched w w' [h] := by
  obtain ⟨K, h1, h2, h3⟩ := least_free f n
  by_cases hK : K < n
  · exact (roomTake_calls g h c n f w hA hn K hK h2 (h3 hK)).mono fun e w' ⟨a, b, d⟩ => ⟨_, _, a, b, d⟩
  · obtain rfl : K = n := by omega
    exact (roomTake_full g h c K f w hA hn h2).mono fun e w' ⟨a, b⟩ => ⟨_, f, a, b ▸ hA, b ▸ Touched.refl _ _⟩
/-- Give of numbers that the program has just listed. -/
theorem roomGive_any (g h c n : Nat) (f : Nat → Bool) (xs : List Int) (m : Nat) (w : World) (hm : xs.length = m) (hA : RoomAt w g h c n f) (hn : n ≤ 1900) (hx : m ≤ 1000) :
    Calls Try.prog 12 #[.pointer (some ⟨g, 0, none⟩), .slice (some ⟨w.heap.size, 0, none⟩) m m] (w.alloc (.cells (icells xs).toArray 3)) fun e w' => ∃ v f', e = .returned v ∧ RoomAt w' g h c n f' ∧ Touched w w' [h] := by
  have hb : Below w.heap.size w (w.alloc (.cells (icells xs).toArray 3)) := (Below.refl _ _).alloc (Nat.le_refl _) _
  have hlt := hA.hlt
  refine (roomGive_calls g h c n f (some ⟨w.heap.size, 0, none⟩) m m xs _ hm (by omega) (hA.below hb) hn (fun w' hT => row_touched (rowAt_alloc w (icells xs) _) hT (.inr ⟨_, rfl, by simp; omega⟩))).mono ?_
  rintro e w' ⟨a, b, d⟩
  exact ⟨_, _, a, b, (Touched.of_below hb _).trans d⟩
end Go.Proofs.Ytoadelcdcfdmfaa
