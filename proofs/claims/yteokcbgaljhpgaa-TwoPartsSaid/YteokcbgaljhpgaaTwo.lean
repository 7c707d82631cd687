/- Package shatwo: what each function computes. -/
import Derived.Test.YteokcbgaljhpgaaOneSum
import Derived.Test.YteokcbgaljhpgaaOwn2
import Derived.Deep.CutBlock
import Derived.Deep.CutRange
namespace Go.Proofs.Yteokcbgaljhpgaa
open Go.RowKit

theorem right_calls (x : BitVec 32) (k : Nat) (m : Nat) (hk : bits BinOp.and IntKind.u64 (IntKind.u64.wrap (-(k : Int))) 31 = (m : Int)) (hm : m < 32) (hk2 : k ≤ 32) (w : World) :
    Calls Try.prog 133 #[.int .u32 (x.toNat : Int), .int .i64 (k : Int)] w fun e w' => e = .returned (.int .u32 ((turn x m).toNat : Int)) ∧ w = w' := by
  have HR := Lib.hid (fun W => rot_calls x (-(k : Int)) m hk hm W)
  clear hk
  go_enter Try.func133, Try.ntmps133
  go_wp2_with (go_at_call 127; refine Calls.mono (HR.out _) ?_; rintro e w' ⟨rfl, rfl⟩)
  go_ret
  exact ⟨rfl, rfl⟩
theorem right_at (x : BitVec 32) (k m : Nat) (h : (k == 7 && m == 25 || k == 18 && m == 14 || k == 17 && m == 15 || k == 19 && m == 13 || k == 6 && m == 26 || k == 11 && m == 21 || k == 25 && m == 7 || k == 2 && m == 30 || k == 13 && m == 19 || k == 22 && m == 10) = true) (w : World) :
    Calls Try.prog 133 #[.int .u32 (x.toNat : Int), .int .i64 (k : Int)] w fun e w' => e = .returned (.int .u32 ((turn x m).toNat : Int)) ∧ w = w' := by
  simp at h
  rcases h with ((((((((h | h) | h) | h) | h) | h) | h) | h) | h) | h <;> obtain ⟨rfl, rfl⟩ := h <;> exact right_calls x _ _ (by decide) (by omega) (by omega) w
end Go.Proofs.Yteokcbgaljhpgaa
