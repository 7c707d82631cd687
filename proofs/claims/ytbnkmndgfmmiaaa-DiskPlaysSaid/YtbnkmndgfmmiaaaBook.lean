/- Package masonrybook: texts in rows, joined, lent, held against each other. -/
import Derived.Test.YtbnkmndgfmmiaaaBase
namespace Go.Proofs.Ytbnkmndgfmmiaaa
open Go.RowKit
set_option linter.unusedVariables false

def roomI : Int → List Int → Int
  | left, [] => left
  | left, x :: r => if left < 0 ∨ left < x then -1 else roomI (left - x) r

set_option maxHeartbeats 400000 in
theorem room_calls (left : Int) (A : Option Addr) (c : Nat) (l : List Int) (w : World) (h0 : -1 ≤ left) (h1 : left ≤ 4000000000000000000) (hn : l.length ≤ 4000000000000000000) (hp : ∀ x ∈ l, 0 ≤ x) (hR : RowAt w A (icells l)) :
    Calls Try.prog 12 #[.int .i64 left, .slice A l.length c] w fun e w' => e = .returned (.int .i64 (roomI left l)) ∧ w = w' := by
  have HR := Lib.hid hR; clear hR
  have HP := Lib.hid hp; clear hp
  go_enter Try.func12, Try.ntmps12
  go_wp2
  go_loop [0, 5] (fun x i => ∃ k : Nat, ∃ cur : Int, k ≤ l.length ∧ -1 ≤ cur ∧ cur ≤ 4000000000000000000 ∧ i = .int .i64 k ∧ x = .int .i64 cur ∧ Hid (roomI left l = roomI cur (l.drop k))) (fun _ i => l.length - (intOf i).toNat)
  case atStart => exact ⟨0, left, Nat.zero_le _, h0, h1, rfl, rfl, rfl⟩
  case round =>
    obtain ⟨k, cur, hk, hc0, hc1, rfl, rfl, HC⟩ := hrel
    by_cases hlt : k < l.length
    · obtain ⟨x, hx⟩ := some_at hlt
      obtain ⟨ad, rfl, hc⟩ := HR.out.get (icells_at hx)
      have hx0 : 0 ≤ x := HP.out x (List.mem_of_getElem? hx)
      have HD : Hid (l.drop k = x :: l.drop (k + 1)) := by
        rw [List.getElem?_eq_some_iff] at hx
        obtain ⟨h, rfl⟩ := hx
        exact List.drop_eq_getElem_cons h
      clear hx
      by_cases c1 : cur < 0
      · go_wp2
        go_ret
        exact ⟨ret_int (by rw [HC.out, HD.out, roomI, if_pos (.inl c1)]), rfl⟩
      by_cases c2 : cur < x
      · go_wp2
        go_ret
        exact ⟨ret_int (by rw [HC.out, HD.out, roomI, if_pos (.inr c2)]), rfl⟩
      go_wp2
      go_round
      case rel => exact ⟨k + 1, cur - x, by omega, by omega, by omega, by go_num, rfl, by rw [Hid, HC.out, HD.out, roomI, if_neg (by omega)]⟩
      case measure => simp [intOf]; omega
    · go_wp2
      go_ret
      exact ⟨ret_int (by rw [HC.out, List.drop_eq_nil_of_le (by omega), roomI]), rfl⟩

theorem roomI_one (left x : Int) (h0 : 0 ≤ left) : roomI left [x] = if left < x then -1 else left - x := by
  rw [roomI, roomI]
  by_cases h : left < x
  · rw [if_pos (.inr h), if_pos h]
  · rw [if_neg (by omega), if_neg h]

/-- How many bytes texts have together. -/
def totalLen (l : List ByteArray) : Int := (l.map fun s => (s.size : Int)).sum
theorem totalLen_snoc (l : List ByteArray) (s : ByteArray) : totalLen (l ++ [s]) = totalLen l + s.size := by simp [totalLen, List.sum_append]
theorem totalLen_nonneg (l : List ByteArray) : 0 ≤ totalLen l := by
  induction l with
  | nil => simp [totalLen]
  | cons a l ih => simp only [totalLen, List.map_cons, List.sum_cons] at *; omega
theorem totalLen_take_le (l : List ByteArray) (k : Nat) : totalLen (l.take k) ≤ totalLen l := by
  conv => rhs; rw [← List.take_append_drop k l]
  have : totalLen (l.take k ++ l.drop k) = totalLen (l.take k) + totalLen (l.drop k) := by simp only [totalLen, List.map_append, List.sum_append]
  have := totalLen_nonneg (l.drop k)
  omega

def shortB (few room : Int) (l : List ByteArray) : Bool := decide ((l.length : Int) ≤ few ∧ totalLen l ≤ room)

/-- All texts, one behind the other. -/
def joinB (l : List ByteArray) : ByteArray := l.foldl (· ++ ·) ByteArray.empty
theorem joinB_snoc (l : List ByteArray) (s : ByteArray) : joinB (l ++ [s]) = joinB l ++ s := by simp [joinB, List.foldl_append]
theorem joinB_size (l : List ByteArray) : ((joinB l).size : Int) = totalLen l := by
  have key : ∀ (l : List ByteArray) (a : ByteArray), ((l.foldl (· ++ ·) a).size : Int) = a.size + totalLen l := by
    intro l
    induction l with
    | nil => intro a; simp [totalLen]
    | cons s l ih => intro a; rw [List.foldl_cons, ih, ByteArray.size_append]; simp [totalLen]; omega
  have := key l ByteArray.empty
  simpa [joinB] using this

theorem eq_of_take {α : Type} {a b : List α} (h : a.take a.length = b.take a.length) (hl : a.length = b.length) : a = b := by
  rw [List.take_length, hl, List.take_length] at h
  exact h
theorem take_eq_snoc {α : Type} {a b : List α} {k : Nat} {x : α} (ha : a[k]? = some x) (hb : b[k]? = some x) (h : a.take k = b.take k) : a.take (k + 1) = b.take (k + 1) := by
  rw [take_snoc_of ha, take_snoc_of hb, h]

def markB : ByteArray := ⟨#[109, 97, 114, 107]⟩
def staysB (l was : List ByteArray) (m : ByteArray) : Bool := decide (l = was) && decide (m = markB)
end Go.Proofs.Ytbnkmndgfmmiaaa
