/- The first call of chapter 14's laws. -/
import Derived.Test.YtkhfecgmkhjpiaaCdcCut
import Derived.Deep.MidRow
import Derived.Deep.OwnRows
namespace Go.Proofs.Ytkhfecgmkhjpiaa
open Go.RowKit
set_option linter.unusedVariables false
attribute [local go_sem] max2_int min2_int max_two min_two

theorem results_cell_mid {P : Program} {fn : Func} {p : Tmp} {ty : TypeId} (h : fn.results = #[.cell p ty]) (tmps : Array Value) (w : World) (g : Nat) (cs : List Value) (d : TypeDesc)
    (hp : tmps.getD p undef = .pointer (some ⟨g, 0, none⟩)) (hc : w.rangeAt g 0 cs)
    (hu : P.underlying ty = some d) (hd : d.isRow = true) (hi : (P.info? ty).map (·.size) = some cs.length) :
    (results fn tmps).run P w = .ok (.agg cs.toArray) w := by
  have hp' : tmps[p]?.getD undef = .pointer (some ⟨g, 0, none⟩) := by simpa using hp
  simp [results, h, hp', asAddr, run_loadVar_mid w g 0 ty cs d hc hu hd hi]

set_option maxHeartbeats 400000 in
theorem default_calls (w : World) : Calls Try.prog 28 #[] w fun e w' => e = .returned (rule 32 64 128 7 5) ∧ Below w.heap.size w w' := by
  go_enter Try.func28, Try.ntmps28
  go_wp2
  (try simp only [Exit.inBlock, Exit.then])
  refine bodyPost_ret (results_cell_mid rfl _ _ w.heap.size [.int .i64 32, .int .i64 64, .int .i64 128, .int .i64 7, .int .i64 5] _ rfl (fun j v hv => by rw [Nat.zero_add, World.cell?_alloc_at _ _ _ _ rfl]; simpa using hv) Try.underlying56 rfl (by kernel_rfl)) rfl ?_
  exact ⟨rfl, (Below.refl _ _).alloc (Nat.le_refl _) _⟩

def z32 : List Value := bcells (List.replicate 32 0)
def zs32 : ByteArray := ⟨(List.replicate 32 (0 : UInt8)).toArray⟩
theorem make32 (W : World) : (Instr.makeSlice 77 (.int .i64 32) (.int .i64 32)).run Try.prog W = .ok (.slice (some ⟨W.heap.size, 0, none⟩) 32 32) (W.alloc (.cells z32.toArray 5)) := by
  have h := run_make_row' (P := Try.prog) 77 5 (.int .u8 0) 1 Try.underlying77 (by kernel_rfl) rfl .i64 .i64 32 (by omega) (by omega) W
  have e : madeCells #[.int .u8 0] 32 = z32.toArray := by kernel_rfl
  rw [e] at h
  exact h
theorem conv32 (W : World) : (convert 77 9 (.slice (some ⟨W.heap.size, 0, none⟩) 32 32)).run Try.prog (W.alloc (.cells z32.toArray 5)) = .ok (.string zs32) (W.alloc (.cells z32.toArray 5)) :=
  bytes_str Try.prog 77 5 9 Try.underlying77 Try.underlying5 Try.underlying9 _ 32 32 (List.replicate 32 0) _ (by simp) (rowAt_alloc W z32 _)
theorem first32 (W : World) : Calls Try.prog 33 #[rule 32 64 128 7 5, .string zs32] W fun e w' => e = .returned (.int .i64 32) ∧ Below W.heap.size W w' := by
  have h := first_calls 32 64 128 7 5 zs32 W (by decide)
  have e : ((firstN 32 64 128 7 5 zs32.data.toList : Nat) : Int) = 32 := by decide
  rw [e] at h
  exact h
def cutsOne : List (Int × Int) := cutA (firstN 32 64 128 7 5) 0 [97]
theorem cutOne (W : World) : Calls Try.prog 29 #[rule 32 64 128 7 5, .slice (some ⟨W.heap.size, 0, none⟩) 1 1] (W.alloc (.cells #[.string ⟨#[97]⟩] 9)) fun e w' => ∃ A c, e = .returned (.slice A 1 c) ∧ Below (W.alloc (.cells #[.string ⟨#[97]⟩] 9)).heap.size (W.alloc (.cells #[.string ⟨#[97]⟩] 9)) w' := by
  refine (cdcCut_calls 32 64 128 7 5 _ 1 1 [⟨#[97]⟩] _ rfl (by omega) (by omega) (by decide) (rowAt_alloc W [.string ⟨#[97]⟩] _)).mono ?_
  rintro e w' ⟨v, rfl, hown, hb⟩
  have hl : (cutA (firstN 32 64 128 7 5) 0 (joinB [⟨#[97]⟩]).data.toList).length = 1 := by decide
  rw [hl] at hown
  obtain ⟨A, c, rfl, _⟩ := hown.slice
  exact ⟨A, c, rfl, hb⟩

set_option maxHeartbeats 1600000 in
set_option maxRecDepth 100000 in
theorem cdcAlive_calls (w : World) : Calls Try.prog 27 #[] w fun e w' => e = .returned (.bool true) ∧ Below w.heap.size w w' := by
  have hv : validB 32 64 128 7 5 = true := by decide
  have HV := Lib.hid (fun W => valid_calls 32 64 128 7 5 W)
  rw [hv] at HV
  clear hv
  go_enter Try.func27, Try.ntmps27
  go_wp2_with fail
  refine (default_calls _).mono ?_
  rintro e w1 ⟨rfl, hb1⟩
  have HB := Lib.hid hb1; clear hb1
  obtain ⟨wa, hwa⟩ : ∃ wa, w1.alloc (.cells #[.int .i64 32, .int .i64 64, .int .i64 128, .int .i64 7, .int .i64 5] 56) = wa := ⟨_, rfl⟩
  have hr := rowAt_alloc w1 (icells [32, 64, 128, 7, 5]) 56
  have hba : Below w.heap.size w (w1.alloc (.cells #[.int .i64 32, .int .i64 64, .int .i64 128, .int .i64 7, .int .i64 5] 56)) := HB.out.alloc HB.out.size _
  have HBA := Lib.hid hba
  have HR := Lib.hid hr
  obtain ⟨q0, q1, q2, q3, q4⟩ := rule_cells hr
  clear hr hba hwa wa
  have hmk := make32
  have hcv := conv32
  go_wp2_with fail
  go_region_with
    (first
      | (go_at_call 31; refine Calls.mono (HV.out _) ?_; rintro e w2 ⟨rfl, hb2⟩; have HB2 := Lib.hid (below_trans' (below_drew HBA.out) hb2); obtain ⟨r0, r1, r2, r3, r4⟩ := rule_cells ((HR.out.below (below_drew (Below.refl _ _))).below hb2); have HR2 := Lib.hid ((HR.out.below (below_drew (Below.refl _ _))).below hb2); obtain ⟨r5, r6, r7, r8, r9⟩ := rule_cells (HR2.out.alloc (.cells z32.toArray 5)); clear hb2)
      | (go_at_call 33; refine Calls.mono (first32 _) ?_; rintro e w3 ⟨rfl, hb3⟩; have HB3 := Lib.hid (below_trans' (HB2.out.alloc HB2.out.size _) hb3); have HR3 := Lib.hid ((HR2.out.alloc (.cells z32.toArray 5)).below hb3); obtain ⟨s0, s1, s2, s3, s4⟩ := rule_cells HR3.out; obtain ⟨s5, s6, s7, s8, s9⟩ := rule_cells (HR3.out.alloc (.cells #[.string ⟨#[97]⟩] 9)); clear hb3)
      | (go_at_call 29; refine Calls.mono (cutOne _) ?_; rintro e w4 ⟨A4, c4, rfl, hb4⟩; have HB4 := Lib.hid (below_trans' (HB3.out.alloc HB3.out.size _) hb4); have HR4 := Lib.hid ((HR3.out.alloc (.cells #[.string ⟨#[97]⟩] 9)).below hb4); obtain ⟨t0, t1, t2, t3, t4⟩ := rule_cells HR4.out; clear hb4))
  all_goals
    go_wp2
    go_ret
    exact ⟨rfl, HB4.out⟩
end Go.Proofs.Ytkhfecgmkhjpiaa
