/- RoomFills: taken one by one each sector comes once, the least first; given back they come again. -/
import Derived.Test.YtoadelcdcfdmfaaBundle3
import Derived.Test.YtoadelcdcfdmfaaRoomPure
import Derived.Test.YtoadelcdcfdmfaaInts
namespace Go.Proofs.Ytoadelcdcfdmfaa
open Go.RowKit
set_option linter.unusedVariables false

set_option maxHeartbeats 1600000 in
theorem roomAlive_calls (w : World) : Calls Try.prog 4 #[] w fun e w' => e = .returned (.bool true) ∧ Below w.heap.size w w' := by
  have HN : Box _ := ⟨roomNew_calls 9 (some ⟨w.heap.size, 0, none⟩) 2 2 [0, 2] (w.alloc (.cells (icells [0, 2]).toArray 3)) rfl (by omega) (by omega) (by omega) (rowAt_alloc w (icells [0, 2]) _) (by intro x hx; simp at hx; omega)⟩
  have q1 : Box (∀ j, j < 1 → (fun j : Nat => decide ((j : Int) ∈ [(0 : Int), 2])) j = true) := ⟨by
    intro j hj
    have : j = 0 := by omega
    subst this
    rfl⟩
  have q2 : Box (∀ j, j < 3 → (upd (fun j : Nat => decide ((j : Int) ∈ [(0 : Int), 2])) 1 true) j = true) := ⟨by
    intro j hj
    have : j = 0 ∨ j = 1 ∨ j = 2 := by omega
    rcases this with rfl | rfl | rfl <;> rfl⟩
  go_enter Try.func4, Try.ntmps4
  go_wp2_with fail
  refine Calls.mono HN.out ?_
  rintro e w1 ⟨rfl, ha, hb⟩
  have hb1 : Below w.heap.size w w1 := Below.trans ((Below.refl _ _).alloc (Nat.le_refl _) _) (hb.mono (by simp))
  obtain ⟨h, hh⟩ : ∃ h, (w.alloc (.cells (icells [0, 2]).toArray 3)).heap.size = h := ⟨_, rfl⟩
  have hwh : w.heap.size ≤ h := by rw [← hh]; simp
  rw [hh] at ha ⊢
  have HA : Box _ := ⟨ha⟩
  have HB1 : Box _ := ⟨hb1⟩
  clear hh ha hb hb1
  go_wp2_with fail
  refine (roomTake_calls _ _ _ _ _ _ HA.out (by omega) 1 (by omega) q1.out (by rfl)).mono ?_
  rintro e w2 ⟨rfl, ha2, ht2⟩
  have HA2 : Box _ := ⟨ha2⟩
  have HB2 : Box _ := ⟨ht2.below HB1.out HB1.out.size (by intro k hk; simp at hk; omega)⟩
  clear ha2 ht2
  go_wp2_with fail
  refine (roomTake_calls _ _ _ _ _ _ HA2.out (by omega) 3 (by omega) q2.out (by rfl)).mono ?_
  rintro e w3 ⟨rfl, ha3, ht3⟩
  have HA3 : Box _ := ⟨ha3⟩
  have HB3 : Box _ := ⟨ht3.below HB2.out HB2.out.size (by intro k hk; simp at hk; omega)⟩
  clear ha3 ht3
  have e1 : ((9 - (idsL (upd (upd (fun j => decide ((j : Int) ∈ [(0 : Int), 2])) 1 true) 3 true) 9).length : Nat) : Int) = 5 := by decide
  have e2 : (decide ((0 : Int) ≤ 2 ∧ (2 : Int) < ((9 : Nat) : Int)) && (upd (upd (fun j => decide ((j : Int) ∈ [(0 : Int), 2])) 1 true) 3 true) (2 : Int).toNat) = true := by decide
  go_wp2_with fail
  refine (roomFree_calls _ _ _ _ _ _ HA3.out (by omega)).mono ?_
  rintro e w4 ⟨rfl, hb4⟩
  rw [e1]
  have HA4 : Box _ := ⟨HA3.out.below hb4⟩
  have HB4 : Box _ := ⟨below_trans' HB3.out hb4⟩
  clear hb4
  go_wp2_with fail
  refine (roomUsed_calls _ _ _ _ _ 2 _ HA4.out (by omega)).mono ?_
  rintro e w5 ⟨rfl, rfl⟩
  rw [e2]
  go_wp2_with fail
  refine (roomSize_calls _ _ _ _ _ _ HA4.out).mono ?_
  rintro e w6 ⟨rfl, rfl⟩
  go_wp2_with fail
  go_ret
  exact ⟨rfl, HB4.out⟩

/-- A number within n. -/
def modL (n : Nat) (x : Int) : Int := (x.tmod (n : Int) + (n : Int)) % (n : Int)
theorem modL_in (n : Nat) (x : Int) (h : 1 ≤ n) : 0 ≤ modL n x ∧ modL n x < (n : Int) :=
  ⟨Int.emod_nonneg _ (by omega), Int.emod_lt_of_pos _ (by omega)⟩
end Go.Proofs.Ytoadelcdcfdmfaa
