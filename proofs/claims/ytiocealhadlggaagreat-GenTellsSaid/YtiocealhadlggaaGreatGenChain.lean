/- The law GenChain. -/
import Derived.Test.YtiocealhadlggaaGreatGenForm
namespace Go.Proofs.YtiocealhadlggaaGreat
open Go.RowKit
set_option linter.unusedVariables false

set_option maxHeartbeats 1000000 in
set_option maxRecDepth 100000 in
theorem genAlive_calls (w : World) : Calls Tryz.prog 5 #[] w fun e w' => e = .returned (.bool true) ∧ Below w.heap.size w w' := by
  have hm1 : ∀ w : World, (method 315 69 (commonV (.iface 101 (rule 32 64 128 7 5)) 3) "Gen").run Tryz.prog w = .ok (99, commonV (.iface 101 (rule 32 64 128 7 5)) 3) w := fun _ => by kernel_rfl
  have hm2 : ∀ w : World, (method 315 69 (commonV (.iface 101 (rule 32 64 128 7 5)) 3) "Kind").run Tryz.prog w = .ok (100, commonV (.iface 101 (rule 32 64 128 7 5)) 3) w := fun _ => by kernel_rfl
  have hm3 : ∀ w : World, (method 315 69 (commonV (.iface 101 (rule 32 64 128 7 5)) 3) "Next").run Tryz.prog w = .ok (154, commonV (.iface 101 (rule 32 64 128 7 5)) 3) w := fun _ => by kernel_rfl
  have hm4 : ∀ w : World, (method 315 69 (commonV (.iface 101 (rule 32 64 128 7 5)) 3) "Name").run Tryz.prog w = .ok (101, commonV (.iface 101 (rule 32 64 128 7 5)) 3) w := fun _ => by kernel_rfl
  go_enter Tryz.func5, Tryz.ntmps5
  go_wp2_with fail
  refine (GForm.three.of _).mono ?_
  rintro e w1 ⟨rfl, hb1⟩
  have HB1 := Lib.hid hb1
  clear hb1
  go_wp2_with fail
  refine (gen_calls _ _ _ _).mono ?_
  rintro e w2 ⟨rfl, hb2⟩
  have HB2 := Lib.hid (below_trans' HB1.out hb2)
  clear hb2
  go_wp2_with fail
  refine (kind_calls _ _ _ _).mono ?_
  rintro e w3 ⟨rfl, hb3⟩
  have HB3 := Lib.hid (below_trans' HB2.out hb3)
  clear hb3
  go_wp2_with fail
  refine (nextThree_calls _ _ _ _).mono ?_
  rintro e w4 ⟨rfl, hb4⟩
  have HB4 := Lib.hid (below_trans' HB3.out hb4)
  clear hb4
  go_wp2_with fail
  refine (nameThree_calls _ _ _).mono ?_
  rintro e w5 ⟨rfl, hb5⟩
  have HB5 := Lib.hid (below_trans' HB4.out hb5)
  clear hb5
  go_wp2
  go_ret
  exact ⟨rfl, HB5.out⟩
theorem cutEven_of (s : ByteArray) (hs : s.size ≤ 1000000) (A : Option Addr) (W : World) (hR : RowAt W A (scells [s])) :
    Calls Tryz.prog 155 #[.agg #[.int .i64 64], .slice A 1 1] W fun e w' => ∃ v, e = .returned v ∧ Own w' W.heap.size 2 v (cutA (minF 64) 0 s.data.toList).length (pcells (cutA (minF 64) 0 s.data.toList)) ∧ Below W.heap.size W w' := by
  have ht1 : totalLen [s] = s.size := by simp [totalLen]
  have h1 := evenCut_calls 64 A 1 1 [s] W (by omega) rfl (by omega) (by rw [ht1]; omega) hR
  rw [ht1, fixedZ_pos (by omega), ← data_length s, ← fixed_cut (by decide)] at h1
  exact h1
theorem cutUneven_of (s : ByteArray) (hs : s.size ≤ 1000000) (A : Option Addr) (W : World) (hR : RowAt W A (scells [s])) :
    Calls Tryz.prog 158 #[rule 32 64 128 7 5, .slice A 1 1] W fun e w' => ∃ v, e = .returned v ∧ Own w' W.heap.size 2 v (cutA (firstN 32 64 128 7 5) 0 s.data.toList).length (pcells (cutA (firstN 32 64 128 7 5) 0 s.data.toList)) ∧ Below W.heap.size W w' := by
  have ht1 : totalLen [s] = s.size := by simp [totalLen]
  have h := cdcCut_calls 32 64 128 7 5 A 1 1 [s] W rfl (by omega) (by omega) (by rw [ht1]; omega) hR
  rw [show joinB [s] = s by simp [joinB]] at h
  exact h
end Go.Proofs.YtiocealhadlggaaGreat
