/- Rooms: a copy, numbers that may not be, and what a room that is nil does. -/
import Derived.Test.YtoadelcdcfdmfaaRoom
import Derived.Test.YtoadelcdcfdmfaaShelf
import Derived.Test.YtoadelcdcfdmfaaRoomPure
namespace Go.Proofs.Ytoadelcdcfdmfaa
open Go.RowKit
set_option linter.unusedVariables false

set_option maxHeartbeats 3200000 in
/-- A number that is in use is no sector of the room. -/
theorem roomNew_out (n : Nat) (A : Option Addr) (c m : Nat) (l : List Int) (w : World) (hl : l.length = m) (h1 : 1 ≤ n) (h2 : n ≤ 1900) (hm : m ≤ 4000000000000000000) (hR : RowAt w A (icells l)) (k0 : Nat) (x0 : Int) (hx0 : l[k0]? = some x0) (hbad : ¬ (0 ≤ x0 ∧ x0 < (n : Int))) :
    Calls Try.prog 6 #[.int .i64 (n : Int), .slice A m c] w fun e w' => e = .returned (.tuple #[.pointer none, .int .i64 1]) ∧ Below w.heap.size w w' := by
  subst hl
  have HR : Box _ := ⟨hR⟩; clear hR
  have HX0 : Box _ := ⟨hx0⟩; clear hx0
  have HO : Box _ := ⟨roomNew_at w n h2⟩
  have HB : Box (Below w.heap.size w ((w.alloc (.cells (bf (fun _ => false) n).toArray 4)).alloc (.cells #[.slice (some ⟨w.heap.size, 0, none⟩) n n] 64))) := ⟨((Below.refl _ _).alloc (Nat.le_refl _) _).alloc (by simp) _⟩
  have hmk := fun W => make_bool n (by omega) W
  go_enter Try.func6, Try.ntmps6
  go_wp2
  go_loopw [21] (fun i wr => ∃ k : Nat, k ≤ k0 ∧ k ≤ l.length ∧ i = .int .i64 (k : Int) ∧ Box (∃ f, RoomAt wr (w.heap.size + 1) w.heap.size n n f) ∧ Box (Below w.heap.size w wr)) (fun i _ => l.length - (intOf i).toNat)
  case atStart => exact ⟨0, Nat.zero_le _, Nat.zero_le _, rfl, ⟨_, HO.out⟩, HB⟩
  case round =>
    obtain ⟨k, hk0, hk, rfl, HA, HW⟩ := hrel
    have hlt0 : k0 < l.length := (List.getElem?_eq_some_iff.1 HX0.out).1
    have hlt : k < l.length := by omega
    obtain ⟨x, hx⟩ := some_at hlt
    obtain ⟨ad, rfl, hcell⟩ := (HR.out.below HW.out).get (icells_at hx)
    by_cases hin : 0 ≤ x ∧ x < (n : Int)
    · obtain ⟨x0', x1⟩ := hin
      have hk1 : k < k0 := by
        rcases Nat.lt_or_ge k k0 with h | h
        · exact h
        · have e : k = k0 := by omega
          have h3 := HX0.out
          rw [← e, hx] at h3
          injection h3 with h3
          exact absurd ⟨h3 ▸ x0', h3 ▸ x1⟩ hbad
      obtain ⟨y, rfl⟩ : ∃ y : Nat, x = (y : Int) := ⟨x.toNat, by omega⟩
      have hy : y < n := by omega
      obtain ⟨f, hA⟩ := HA.out
      have k0 := hA.c0
      obtain ⟨k1, f1⟩ := hA.cell hy
      have HA2 : Box (∃ f, RoomAt _ (w.heap.size + 1) w.heap.size n n f) := ⟨⟨_, hA.set hy true⟩⟩
      clear hx hA
      go_wp2
      go_roundw
      case rel =>
        exact ⟨k + 1, by omega, by omega, by go_num, HA2, ⟨HW.out.setCell (by simp) _⟩⟩
      case measure => simp [intOf]; omega
    · have hb : x < 0 ∨ 0 ≤ x ∧ (n : Int) ≤ x := by omega
      clear hin hx
      rcases hb with hb | ⟨hb, hb2⟩
      · go_wp2
        go_ret2
        exact ⟨rfl, HW.out⟩
      · go_wp2
        go_ret2
        exact ⟨rfl, HW.out⟩

/-- A copy. -/
theorem bool_info : ∃ i, Try.prog.info? 4 = some i ∧ i.zero = some (.bool false) ∧ i.size = 1 ∧ i.bytes = 1 := by
  have h : (Try.prog.info? 4).map (fun i => (i.zero, i.size, i.bytes)) = some (some (.bool false), 1, 1) := by kernel_rfl
  obtain ⟨i, h1, h2⟩ := Option.map_eq_some_iff.1 h
  injection h2 with e1 e2
  injection e2 with e2 e3
  exact ⟨i, h1, e1, e2, e3⟩
theorem sizeBool (w : World) : (Go.sizeOf 4).run Try.prog w = .ok 1 w := by kernel_rfl
theorem cloneBool_calls (h n c : Nat) (f : Nat → Bool) (w : World) (hn : n ≤ 1900) (hr : RowAt w (some ⟨h, 0, none⟩) (bf f n)) :
    Calls Try.prog 28 #[.slice (some ⟨h, 0, none⟩) n c] w fun e w' => ∃ v', e = .returned v' ∧ Own w' w.heap.size 1 v' n (bf f n) ∧ v' ≠ .slice none 0 0 ∧ Below w.heap.size w w' := by
  obtain ⟨i0, hi, hz0, hz1, hz2⟩ := bool_info
  have H := Try.slices_Clone i0 (.bool false) 1 1 hi hz0 hz1 hz2 rfl Nat.one_pos sizeBool h 0 n c (bf f n) w (by rw [bf_length]; omega) (by unfold maxLen; omega) (by omega) (fun j u hj => by
    have hc := row_cell hr hj
    rw [Nat.zero_add]; exact hc) (one_bf f n)
  exact H.mono fun e w' ⟨v, h1, h2, h3, h4⟩ => ⟨v, h1, Own.of_row h2, h3, h4⟩
theorem roomCopy_calls (g h c n : Nat) (f : Nat → Bool) (w : World) (hA : RoomAt w g h c n f) (hn : n ≤ 1900) :
    Calls Try.prog 13 #[.pointer (some ⟨g, 0, none⟩)] w fun e w' => ∃ g' h' c', e = .returned (.pointer (some ⟨g', 0, none⟩)) ∧ RoomAt w' g' h' c' n f ∧ w.heap.size ≤ g' ∧ w.heap.size ≤ h' ∧ Below w.heap.size w w' := by
  have k0 := hA.c0
  have HC : Box _ := ⟨cloneBool_calls h n c f w hn hA.row⟩
  clear hA
  go_enter Try.func13, Try.ntmps13
  go_wp2_with fail
  refine (HC.out).mono ?_
  rintro e w1 ⟨v, rfl, ho, hne, hb⟩
  obtain ⟨h', c', rfl, hge⟩ : ∃ h' c', v = .slice (some ⟨h', 0, none⟩) n c' ∧ w.heap.size ≤ h' := by
    rcases ho.2 with ⟨e, _⟩ | ⟨h', c', e, hb, _⟩
    · exact absurd e hne
    · exact ⟨h', c', e, hb⟩
  have HB : Box _ := ⟨hb⟩
  have HO : Box _ := ⟨ho⟩
  clear hb ho hne HC
  go_wp2_with fail
  go_ret
  refine ⟨w1.heap.size, h', c', rfl, ⟨(HO.out.weaken (Nat.zero_le _)).alloc _, by simp, ?_⟩, HB.out.size, hge, bel_alloc HB.out _⟩
  have := (HO.out.lt h' (by simp [Value.ownBlock])).2
  omega

section
variable (w : World)
theorem roomTake_nil : Calls Try.prog 9 #[.pointer none] w fun e w' => e = .returned (.tuple #[.int .i64 0, .int .i64 1]) ∧ w = w' := by
  go_enter Try.func9, Try.ntmps9
  go_wp2
  go_ret2
  exact ⟨rfl, rfl⟩
theorem roomLay_nil : Calls Try.prog 20 #[.pointer none] w fun e w' => e = .returned (.tuple #[.string ByteArray.empty, .int .i64 1]) ∧ w = w' := by
  go_enter Try.func20, Try.ntmps20
  go_wp2
  go_ret2
  exact ⟨rfl, rfl⟩
theorem roomUsed_nil (x : Int) : Calls Try.prog 19 #[.pointer none, .int .i64 x] w fun e w' => e = .returned (.bool false) ∧ w = w' := by
  go_enter Try.func19, Try.ntmps19
  go_wp2
  go_ret
  exact ⟨rfl, rfl⟩
theorem roomSize_nil : Calls Try.prog 18 #[.pointer none] w fun e w' => e = .returned (.int .i64 0) ∧ w = w' := by
  go_enter Try.func18, Try.ntmps18
  go_wp2
  go_ret
  exact ⟨rfl, rfl⟩
theorem roomAll_nil : Calls Try.prog 14 #[.pointer none] w fun e w' => e = .returned (.slice none 0 0) ∧ w = w' := by
  go_enter Try.func14, Try.ntmps14
  go_wp2
  go_ret
  exact ⟨rfl, rfl⟩
theorem roomCopy_nil : Calls Try.prog 13 #[.pointer none] w fun e w' => e = .returned (.pointer none) ∧ w = w' := by
  go_enter Try.func13, Try.ntmps13
  go_wp2
  go_ret
  exact ⟨rfl, rfl⟩
theorem roomFree_nil : Calls Try.prog 17 #[.pointer none] w fun e w' => e = .returned (.int .i64 0) ∧ w = w' := by
  go_enter Try.func17, Try.ntmps17
  go_wp2_with fail
  refine (roomSize_nil _).mono ?_
  rintro e w1 ⟨rfl, rfl⟩
  go_wp2_with fail
  refine (roomAll_nil _).mono ?_
  rintro e w1 ⟨rfl, rfl⟩
  go_wp2
  go_ret
  exact ⟨rfl, rfl⟩
theorem addr_zero (a : Addr) : a.add 0 = a := by obtain ⟨b, o, c⟩ := a; cases c <;> simp [Addr.add]
theorem roomGive_nil (A : Option Addr) (c : Nat) (x : Int) (hR : RowAt w A (icells [x])) : Calls Try.prog 12 #[.pointer none, .slice A 1 c] w fun e w' => e = .returned (.int .i64 0) ∧ w = w' := by
  obtain ⟨ad, rfl, hc0⟩ := hR.get (j := 0) (u := .int .i64 x) rfl
  have hc : w.cell? ad = some (.int .i64 x) := by rwa [addr_zero] at hc0
  have HU : Box _ := ⟨fun W => roomUsed_nil W x⟩
  clear hR hc0
  go_enter Try.func12, Try.ntmps12
  go_wp2
  go_loopw [5, 10] (fun n i wr => n = .int .i64 0 ∧ ∃ k : Nat, k ≤ 1 ∧ i = .int .i64 (k : Int) ∧ w = wr) (fun _ i _ => 1 - (intOf i).toNat)
  case atStart => exact ⟨rfl, 0, by omega, rfl, rfl⟩
  case round =>
    obtain ⟨rfl, k, hk, rfl, rfl⟩ := hrel
    rcases Nat.lt_or_ge k 1 with h | h
    · obtain rfl : k = 0 := by omega
      go_wp2_with fail
      refine (HU.out _).mono ?_
      rintro e w1 ⟨rfl, rfl⟩
      go_wp2_with fail
      go_roundw
      case rel => exact ⟨rfl, 1, by omega, by go_num, by trivial⟩
      case measure => simp [intOf]
    · obtain rfl : k = 1 := by omega
      go_wp2
      go_ret
      exact ⟨rfl, rfl⟩
end
end Go.Proofs.Ytoadelcdcfdmfaa
