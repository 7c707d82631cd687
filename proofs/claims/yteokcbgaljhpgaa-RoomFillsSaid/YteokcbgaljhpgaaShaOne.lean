/- Package shaone: what each function computes. -/
import Derived.Test.YteokcbgaljhpgaaOwn
import Derived.Test.YteokcbgaljhpgaaWord
import Derived.Outline
import Derived.Laws.Rows
import Derived.Deep.RegionHeld3
namespace Go.Proofs.Yteokcbgaljhpgaa
open Go.RowKit

set_option maxHeartbeats 400000 in
theorem rot_calls (x : BitVec 32) (k : Int) (m : Nat) (hk : bits BinOp.and IntKind.u64 (IntKind.u64.wrap k) 31 = (m : Int)) (hm : m < 32) (w : World) : Calls Try.prog 127 #[.int .u32 (x.toNat : Int), .int .i64 k] w fun e w' => e = .returned (.int .u32 ((turn x m).toNat : Int)) ∧ w = w' := by
  go_enter Try.func127, Try.ntmps127
  go_wp2
  go_ret
  exact ⟨ret_int (by rw [t_shl, t_shr, w_or]; rfl), rfl⟩
theorem rot1_calls (x : BitVec 32) (w : World) : Calls Try.prog 127 #[.int .u32 (x.toNat : Int), .int .i64 1] w fun e w' => e = .returned (.int .u32 ((turn x 1).toNat : Int)) ∧ w = w' := rot_calls x 1 1 (by decide) (by omega) w
theorem rot5_calls (x : BitVec 32) (w : World) : Calls Try.prog 127 #[.int .u32 (x.toNat : Int), .int .i64 5] w fun e w' => e = .returned (.int .u32 ((turn x 5).toNat : Int)) ∧ w = w' := rot_calls x 5 5 (by decide) (by omega) w
theorem rot30_calls (x : BitVec 32) (w : World) : Calls Try.prog 127 #[.int .u32 (x.toNat : Int), .int .i64 30] w fun e w' => e = .returned (.int .u32 ((turn x 30).toNat : Int)) ∧ w = w' := rot_calls x 30 30 (by decide) (by omega) w

set_option maxHeartbeats 800000 in
theorem round_calls (t : Nat) (b c d : BitVec 32) (w : World) (ht : t < 80) : Calls Try.prog 128 #[.int .i64 t, .int .u32 (b.toNat : Int), .int .u32 (c.toNat : Int), .int .u32 (d.toNat : Int)] w fun e w' => e = .returned (.tuple #[.int .u32 ((oneF t b c d).toNat : Int), .int .u32 ((oneK t).toNat : Int)]) ∧ w = w' := by
  have key : ∀ q : Int, (t : Int) / 20 = q → Calls Try.prog 128 #[.int .i64 t, .int .u32 (b.toNat : Int), .int .u32 (c.toNat : Int), .int .u32 (d.toNat : Int)] w fun e w' => e = .returned (.tuple #[.int .u32 ((oneF t b c d).toNat : Int), .int .u32 ((oneK t).toNat : Int)]) ∧ w = w' := by
    intro q hq
    by_cases h1 : q = 0
    · subst h1
      have HF : Hid (oneF t b c d = (b &&& c ||| ~~~b &&& d)) := by rw [Hid, oneF, if_pos (by omega)]
      have HK : Hid (oneK t = 0x5a827999) := by rw [Hid, oneK, if_pos (by omega)]
      go_enter Try.func128, Try.ntmps128
      go_wp2
      go_ret2
      rw [HF.out, HK.out, w_and, w_not', w_and, w_or]
      exact ⟨rfl, rfl⟩
    · have b1 : (q == 0) = false := by simpa using h1
      by_cases h2 : q = 1
      · subst h2
        have HF : Hid (oneF t b c d = (b ^^^ c ^^^ d)) := by rw [Hid, oneF, if_neg (by omega), if_pos (by omega)]
        have HK : Hid (oneK t = 0x6ed9eba1) := by rw [Hid, oneK, if_neg (by omega), if_pos (by omega)]
        clear h1 b1
        go_enter Try.func128, Try.ntmps128
        go_wp2
        go_ret2
        rw [HF.out, HK.out, w_xor, w_xor]
        exact ⟨rfl, rfl⟩
      · have b2 : (q == 1) = false := by simpa using h2
        by_cases h3 : q = 2
        · subst h3
          have HF : Hid (oneF t b c d = (b &&& c ||| b &&& d ||| c &&& d)) := by rw [Hid, oneF, if_neg (by omega), if_neg (by omega), if_pos (by omega)]
          have HK : Hid (oneK t = 0x8f1bbcdc) := by rw [Hid, oneK, if_neg (by omega), if_neg (by omega), if_pos (by omega)]
          clear h1 b1 h2 b2
          go_enter Try.func128, Try.ntmps128
          go_wp2
          go_ret2
          rw [HF.out, HK.out, w_and, w_and, w_and, w_or, w_or]
          exact ⟨rfl, rfl⟩
        · have b3 : (q == 2) = false := by simpa using h3
          have HF : Hid (oneF t b c d = (b ^^^ c ^^^ d)) := by rw [Hid, oneF, if_neg (by omega), if_neg (by omega), if_neg (by omega)]
          have HK : Hid (oneK t = 0xca62c1d6) := by rw [Hid, oneK, if_neg (by omega), if_neg (by omega), if_neg (by omega)]
          clear h1 h2 h3
          go_enter Try.func128, Try.ntmps128
          go_wp2
          go_ret2
          rw [HF.out, HK.out, w_xor, w_xor]
          exact ⟨rfl, rfl⟩
  exact key _ rfl
end Go.Proofs.Yteokcbgaljhpgaa
