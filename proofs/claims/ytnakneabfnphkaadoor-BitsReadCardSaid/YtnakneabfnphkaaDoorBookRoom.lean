/- masonrybook.Room alone (as in Book, which lies not together with NumP). -/
import Derived.Test.YtnakneabfnphkaaDoorBase
namespace Go.Proofs.YtnakneabfnphkaaDoor
open Go.RowKit

def roomI : Int → List Int → Int
  | left, [] => left
  | left, x :: r => if left < 0 ∨ left < x then -1 else roomI (left - x) r

set_option maxHeartbeats 400000 in
theorem room_calls (left : Int) (A : Option Addr) (c : Nat) (l : List Int) (w : World) (h0 : -1 ≤ left) (h1 : left ≤ 4000000000000000000) (hn : l.length ≤ 4000000000000000000) (hp : ∀ x ∈ l, 0 ≤ x) (hR : RowAt w A (icells l)) :
    Calls Tryd.prog 36 #[.int .i64 left, .slice A l.length c] w fun e w' => e = .returned (.int .i64 (roomI left l)) ∧ w = w' := by
  have HR := Lib.hid hR; clear hR
  have HP := Lib.hid hp; clear hp
  go_enter Tryd.func36, Tryd.ntmps36
  go_wp2
  go_loop [0, 5] (fun x i => ∃ k : Nat, ∃ cur : Int, k ≤ l.length ∧ -1 ≤ cur ∧ cur ≤ 4000000000000000000 ∧ i = .int .i64 k ∧ x = .int .i64 cur ∧ Hid (roomI left l = roomI cur (l.drop k))) (fun _ i => l.length - (intOf i).toNat)
  case atStart => exact ⟨0, left, Nat.zero_le _, h0, h1, rfl, rfl, rfl⟩
  case round =>
    obtain ⟨k, cur, hk, hc0, hc1, rfl, rfl, HC⟩ := hrel
    by_cases hlt : k < l.length
    · obtain ⟨x, hx⟩ := some_at hlt
      obtain ⟨ad, rfl, hc⟩ := HR.out.get (icells_at hx)
      have hx0 : 0 ≤ x := HP.out x (List.mem_of_getElem? hx)
      have HD : Hid (l.drop k = x :: l.drop (k + 1)) := by
        rw [List.getElem?_eq_some_iff] at hx
        obtain ⟨h, rfl⟩ := hx
        exact List.drop_eq_getElem_cons h
      clear hx
      by_cases c1 : cur < 0
      · go_wp2
        go_ret
        exact ⟨ret_int (by rw [HC.out, HD.out, roomI, if_pos (.inl c1)]), rfl⟩
      by_cases c2 : cur < x
      · go_wp2
        go_ret
        exact ⟨ret_int (by rw [HC.out, HD.out, roomI, if_pos (.inr c2)]), rfl⟩
      go_wp2
      go_round
      case rel => exact ⟨k + 1, cur - x, by omega, by omega, by omega, by go_num, rfl, by rw [Hid, HC.out, HD.out, roomI, if_neg (by omega)]⟩
      case measure => simp [intOf]; omega
    · go_wp2
      go_ret
      exact ⟨ret_int (by rw [HC.out, List.drop_eq_nil_of_le (by omega), roomI]), rfl⟩

theorem roomI_one (left x : Int) (h0 : 0 ≤ left) : roomI left [x] = if left < x then -1 else left - x := by
  rw [roomI, roomI]
  by_cases h : left < x
  · rw [if_pos (.inr h), if_pos h]
  · rw [if_neg (by omega), if_neg h]
end Go.Proofs.YtnakneabfnphkaaDoor
