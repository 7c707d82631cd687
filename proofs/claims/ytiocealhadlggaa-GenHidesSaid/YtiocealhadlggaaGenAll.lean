/- All forms. -/
import Derived.Test.YtiocealhadlggaaGenChain
namespace Go.Proofs.Ytiocealhadlggaa
open Go.RowKit
set_option linter.unusedVariables false

theorem el_forms : El Try.prog 23 26 1 16 := El.mk' Try.underlying23 (z := .nilIface) (by kernel_rfl) (by decide)
abbrev v1 : Value := commonV (.iface 80 (.agg #[.int .i64 64])) 1
abbrev v2 : Value := commonV (.iface 84 (rule 32 64 128 7 5)) 2
abbrev v3 : Value := commonV (.iface 84 (rule 32 64 128 7 5)) 3
def formsL : List Value := [.iface 33 v1, .iface 35 v2, .iface 38 v3]
set_option maxHeartbeats 2000000 in
set_option maxRecDepth 100000 in
theorem genAll_calls (w : World) : Calls Try.prog 6 #[] w fun e w' => ∃ v, e = .returned v ∧ Own w' w.heap.size 1 v 3 formsL ∧ Below w.heap.size w w' := by
  have HI := rowAt_alloc w (icells [1, 2, 3]) 3
  have HB0 := Lib.hid ((Below.refl w.heap.size w).alloc (Nat.le_refl _) (.cells #[.int .i64 1, .int .i64 2, .int .i64 3] 3))
  obtain ⟨u0, hu0⟩ : ∃ u0, w.alloc (.cells #[.int .i64 1, .int .i64 2, .int .i64 3] 3) = u0 := ⟨_, rfl⟩
  have hI : RowAt u0 (some ⟨w.heap.size, 0, none⟩) (icells [1, 2, 3]) := by rw [← hu0]; exact HI
  rw [hu0] at HB0
  have HK := Lib.hid (fun (j : Nat) (x : Int) W (hb : Below u0.heap.size u0 W) (hx : (icells [1, 2, 3])[j]? = some (.int .i64 x)) => cell_kept hb (Nat.le_refl _) (row_cell hI hx))
  clear HI hI
  go_enter Try.func6, Try.ntmps6
  go_wp2
  go_loopw [1, 8] (fun v vk wr => ∃ k : Nat, k ≤ 3 ∧ vk = .int .i64 k ∧ Hid (Own wr u0.heap.size 1 v k (formsL.take k)) ∧ Hid (Below u0.heap.size u0 wr)) (fun _ vk _ => 3 - (intOf vk).toNat)
  case atStart => exact ⟨0, by omega, rfl, Own.nil _ _ _, Below.refl _ _⟩
  case round =>
    obtain ⟨k, hk, rfl, HO, HW⟩ := hrel
    rcases (by omega : k = 0 ∨ k = 1 ∨ k = 2 ∨ k = 3) with rfl | rfl | rfl | rfl
    · have ck := HK.out 0 1 wr HW.out rfl
      go_wp2_with fail
      refine (GForm.one.of _).mono ?_
      rintro e y1 ⟨rfl, hb⟩
      have HO1 := Lib.hid (HO.out.below hb)
      have HW1 := Lib.hid (below_trans' HW.out hb)
      clear hb ck
      go_wp2_with (at_builtin; refine appO el_forms u0.heap.size rfl _ _ rfl rfl (HO1.out.alloc _) (news := [.iface 33 v1]) rfl rfl (rowAt_alloc y1 [.iface 33 v1] _) (by intro u hu; simp at hu; subst hu; rfl) (by omega) (by have := HW1.out.size; simp; omega) ?_; intro v1' w3 hown1 hg1 _; have HO3 := Lib.hid hown1; have HB3 : Hid (Below u0.heap.size u0 w3) := Own.grown_below (HO1.out.alloc _) (HW1.out.alloc HW1.out.size _) hg1 (Nat.le_refl _); clear hown1 hg1)
      go_roundw
      case rel => exact ⟨1, by omega, rfl, HO3, HB3⟩
      case measure => simp [intOf]
    · have ck := HK.out 1 2 wr HW.out rfl
      go_wp2_with fail
      refine (GForm.two.of _).mono ?_
      rintro e y1 ⟨rfl, hb⟩
      have HO1 := Lib.hid (HO.out.below hb)
      have HW1 := Lib.hid (below_trans' HW.out hb)
      clear hb ck
      go_wp2_with (at_builtin; refine appO el_forms u0.heap.size rfl _ _ rfl rfl (HO1.out.alloc _) (news := [.iface 35 v2]) rfl rfl (rowAt_alloc y1 [.iface 35 v2] _) (by intro u hu; simp at hu; subst hu; rfl) (by omega) (by have := HW1.out.size; simp; omega) ?_; intro v1' w3 hown1 hg1 _; have HO3 := Lib.hid hown1; have HB3 : Hid (Below u0.heap.size u0 w3) := Own.grown_below (HO1.out.alloc _) (HW1.out.alloc HW1.out.size _) hg1 (Nat.le_refl _); clear hown1 hg1)
      go_roundw
      case rel => exact ⟨2, by omega, rfl, HO3, HB3⟩
      case measure => simp [intOf]
    · have ck := HK.out 2 3 wr HW.out rfl
      go_wp2_with fail
      refine (GForm.three.of _).mono ?_
      rintro e y1 ⟨rfl, hb⟩
      have HO1 := Lib.hid (HO.out.below hb)
      have HW1 := Lib.hid (below_trans' HW.out hb)
      clear hb ck
      go_wp2_with (at_builtin; refine appO el_forms u0.heap.size rfl _ _ rfl rfl (HO1.out.alloc _) (news := [.iface 38 v3]) rfl rfl (rowAt_alloc y1 [.iface 38 v3] _) (by intro u hu; simp at hu; subst hu; rfl) (by omega) (by have := HW1.out.size; simp; omega) ?_; intro v1' w3 hown1 hg1 _; have HO3 := Lib.hid hown1; have HB3 : Hid (Below u0.heap.size u0 w3) := Own.grown_below (HO1.out.alloc _) (HW1.out.alloc HW1.out.size _) hg1 (Nat.le_refl _); clear hown1 hg1)
      go_roundw
      case rel => exact ⟨3, by omega, rfl, HO3, HB3⟩
      case measure => simp [intOf]
    · go_wp2
      go_ret
      exact ⟨_, rfl, HO.out.weaken HB0.out.size, HB0.out.trans (HW.out.mono HB0.out.size)⟩
end Go.Proofs.Ytiocealhadlggaa
