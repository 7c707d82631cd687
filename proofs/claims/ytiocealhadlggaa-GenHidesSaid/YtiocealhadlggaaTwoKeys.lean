/- shatwo.keys. -/
import Derived.Test.YtiocealhadlggaaTwoWords
namespace Go.Proofs.Ytiocealhadlggaa
open Go.RowKit
set_option linter.unusedVariables false

theorem t_add8 (i a b c d : BitVec 32) : ((i.toNat : Int) + (a.toNat : Int) + (b.toNat : Int) + (c.toNat : Int) + (d.toNat : Int)) % 4294967296 = ((i + a + b + c + d).toNat : Int) := t_add5 i a b c d
def twoKeyL : List Value := wcells twoKeys
set_option maxHeartbeats 4000000 in
set_option maxRecDepth 100000 in
theorem keys_calls (w : World) : Calls Try.prog 50 #[] w fun e w' => e = .returned (.agg twoKeyL.toArray) ∧ Below w.heap.size w w' := by
  have HI1 : Box ((Try.prog.info? 105).map (·.size) = some twoKeyL.length) := ⟨by kernel_rfl⟩
  have HI2 : Box ((Try.prog.info? 105).map (·.size) = some twoKeyL.toArray.size) := ⟨by kernel_rfl⟩
  have HZ : Box (Own (w.alloc (.cells (fw (fun _ => 0) 64).toArray 105)) w.heap.size 1 (.slice (some ⟨w.heap.size, 0, none⟩) 64 64) 64 (fw (fun _ => 0) 64)) := ⟨by
    have h1 := Own.fresh w (fw (fun _ => 0) 64).toArray 105 (by simp [fw_length, maxLen])
    simpa [fw_length] using h1⟩
  have HTh : Box ((w.alloc (.cells (fw (fun _ => 0) 64).toArray 105)).there w.heap.size 0 twoKeyL.toArray.size) := ⟨HZ.out.there0⟩
  have HAl : Box (twoKeyL.toArray.all (·.oneCell') = true) := ⟨all_wcells _⟩
  go_enter Try.func50, Try.ntmps50
  go_wp2_with (refine wpList_store_mid rfl 105 _ _ rfl w.heap.size 0 twoKeyL.toArray rfl rfl HTh.out HI2.out HAl.out ?_)
  have hF := HZ.out.all twoKeyL rfl
  refine bodyPost_ret (results_cell_mid rfl _ _ w.heap.size twoKeyL _ rfl hF.range0 Try.underlying105 rfl HI1.out) rfl ?_
  exact ⟨rfl, ((Below.refl w.heap.size w).alloc (Nat.le_refl _) _).grown (grownBy_setCells w.heap.size twoKeyL 0 _) (by simp) (by simp)⟩
end Go.Proofs.Ytiocealhadlggaa
