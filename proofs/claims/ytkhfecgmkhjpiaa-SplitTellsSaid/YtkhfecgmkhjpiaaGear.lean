/- Package gear and its reference: what each function computes. -/
import Derived.Test.YtkhfecgmkhjpiaaBook
namespace Go.Proofs.Ytkhfecgmkhjpiaa
open Go.RowKit
set_option linter.unusedVariables false

/-- A byte's number. -/
def gearI (b : Int) : Int :=
  let x := IntKind.u64.wrap ((b + 1) * 11400714819323198485)
  let y := IntKind.u64.wrap (bits BinOp.xor IntKind.u64 x (x / 1073741824) * 13787848793156543929)
  let z := IntKind.u64.wrap (bits BinOp.xor IntKind.u64 y (y / 134217728) * 10723151780598845931)
  bits BinOp.xor IntKind.u64 z (z / 2147483648)

set_option maxHeartbeats 400000 in
theorem value_calls (b : Int) (w : World) (hb0 : 0 ≤ b) (hb : b ≤ 255):
    Calls Try.prog 104 #[.int .u8 b] w fun e w' => e = .returned (.int .u64 (gearI b)) ∧ w = w' := by
  go_enter Try.func104, Try.ntmps104
  go_wp2
  go_ret
  exact ⟨rfl, rfl⟩
set_option maxHeartbeats 400000 in
theorem refGear_calls (b : Int) (w : World) (hb0 : 0 ≤ b) (hb : b ≤ 255):
    Calls Try.prog 83 #[.int .u8 b] w fun e w' => e = .returned (.int .u64 (gearI b)) ∧ w = w' := by
  go_enter Try.func83, Try.ntmps83
  go_wp2
  go_ret
  exact ⟨rfl, rfl⟩

def roll1 (h : Int) (b : UInt8) : Int := IntKind.u64.wrap (IntKind.u64.wrap (h * 2) + gearI b.toNat)
def roll (h : Int) (l : List UInt8) : Int := l.foldl roll1 h
theorem roll_snoc (h : Int) (l : List UInt8) (b : UInt8) : roll h (l ++ [b]) = IntKind.u64.wrap (IntKind.u64.wrap (roll h l * 2) + gearI b.toNat) := by
  simp [roll, List.foldl_append, roll1]

set_option maxHeartbeats 400000 in
theorem roll_calls (h : Int) (A : Option Addr) (n c : Nat) (l : List UInt8) (w : World) (hn : n ≤ 9000000000000000000) (hl : l.length = n) (hR : RowAt w A (bcells l)) :
    Calls Try.prog 82 #[.int .u64 h, .slice A n c] w fun e w' => e = .returned (.int .u64 (roll h l)) ∧ w = w' := by
  subst hl
  have HR := Lib.hid hR; clear hR
  go_enter Try.func82, Try.ntmps82
  go_wp2
  go_loop [0, 9] (fun x i => ∃ k : Nat, k ≤ l.length ∧ i = .int .i64 k ∧ x = .int .u64 (roll h (l.take k))) (fun _ i => l.length - (intOf i).toNat)
  case atStart => exact ⟨0, Nat.zero_le _, rfl, rfl⟩
  case round =>
    obtain ⟨k, hk, rfl, rfl⟩ := hrel
    by_cases hlt : k < l.length
    · obtain ⟨x, hx⟩ := some_at hlt
      obtain ⟨ad, rfl, hc⟩ := HR.out.get (bcells_at hx)
      have HX := Lib.hid hx; clear hx
      have hx2 : (x.toNat : Int) ≤ 255 := by have := x.toNat_lt; omega
      go_wp2_with (go_at_call 104; refine (value_calls _ _ (by omega) hx2).mono ?_; rintro e w' ⟨rfl, rfl⟩)
      go_round
      case rel => exact ⟨k + 1, by omega, by go_num, by rw [take_snoc_of HX.out, roll_snoc]⟩
      case measure => simp [intOf]; omega
    · go_wp2
      go_ret
      exact ⟨ret_int (by rw [List.take_of_length_le (by omega)]), rfl⟩

theorem roll_append (h : Int) (l m : List UInt8) : roll h (l ++ m) = roll (roll h l) m := by simp [roll, List.foldl_append]
theorem joinB_data (l : List ByteArray) : (joinB l).data.toList = l.flatMap (·.data.toList) := by
  have key : ∀ (l : List ByteArray) (a : ByteArray), (l.foldl (· ++ ·) a).data.toList = a.data.toList ++ l.flatMap (·.data.toList) := by
    intro l
    induction l with
    | nil => intro a; simp
    | cons s l ih => intro a; rw [List.foldl_cons, ih]; simp [ByteArray.data_append]
  have := key l ByteArray.empty
  simpa [joinB] using this
theorem roll_join_snoc (h : Int) (l : List ByteArray) (s : ByteArray) : roll h (joinB (l ++ [s])).data.toList = roll (roll h (joinB l).data.toList) s.data.toList := by
  rw [← roll_append, joinB_snoc, ByteArray.data_append, Array.toList_append]

end Go.Proofs.Ytkhfecgmkhjpiaa
