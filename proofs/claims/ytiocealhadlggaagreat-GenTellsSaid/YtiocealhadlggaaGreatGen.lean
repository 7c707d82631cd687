/- Package gen: the forms. -/
import Derived.Test.YtiocealhadlggaaGreatBundle7
import Derived.Test.YtiocealhadlggaaGreatSplitAlive
namespace Go.Proofs.YtiocealhadlggaaGreat
open Go.RowKit
set_option linter.unusedVariables false

def kindG (n : Int) : Int := if n = 1 then 1 else if n = 2 then 2 else if n = 3 then 2 else 0
/-- What all forms have: a cutter and a number. -/
abbrev commonV (cv : Value) (n : Int) : Value := .agg #[cv, .int .i64 n]
theorem brickKind_calls (n : Int) (w : World) : Calls Tryz.prog 107 #[.int .i64 n] w fun e w' => e = .returned (.int .i64 (kindG n)) ∧ Below w.heap.size w w' := by
  by_cases h1 : n = 1
  · subst h1
    go_enter Tryz.func107, Tryz.ntmps107
    go_wp2
    go_ret
    exact ⟨rfl, Below.refl _ _⟩
  by_cases h2 : n = 2
  · subst h2
    go_enter Tryz.func107, Tryz.ntmps107
    go_wp2
    go_ret
    exact ⟨rfl, Below.refl _ _⟩
  by_cases h3 : n = 3
  · subst h3
    go_enter Tryz.func107, Tryz.ntmps107
    go_wp2
    go_ret
    exact ⟨rfl, Below.refl _ _⟩
  · have e : kindG n = 0 := by rw [kindG, if_neg h1, if_neg h2, if_neg h3]
    have b1 : (n == 1) = false := by simpa using h1
    have b2 : (n == 2) = false := by simpa using h2
    have b3 : (n == 3) = false := by simpa using h3
    rw [e]
    clear e h1 h2 h3
    go_enter Tryz.func107, Tryz.ntmps107
    go_wp2
    go_ret
    exact ⟨rfl, Below.refl _ _⟩
section
variable (tc : TypeId) (vc : Value) (n : Int) (w : World)
theorem gen_calls : Calls Tryz.prog 99 #[commonV (.iface tc vc) n] w fun e w' => e = .returned (.int .i64 n) ∧ Below w.heap.size w w' := by
  go_enter Tryz.func99, Tryz.ntmps99
  go_wp2
  go_ret
  exact ⟨rfl, (Below.refl _ _).alloc (Nat.le_refl _) _⟩
theorem kind_calls : Calls Tryz.prog 100 #[commonV (.iface tc vc) n] w fun e w' => e = .returned (.int .i64 2) ∧ Below w.heap.size w w' := by
  go_enter Tryz.func100, Tryz.ntmps100
  go_wp2
  go_ret
  exact ⟨rfl, (Below.refl _ _).alloc (Nat.le_refl _) _⟩
theorem kindOne_calls : Calls Tryz.prog 153 #[commonV (.iface tc vc) n] w fun e w' => e = .returned (.int .i64 1) ∧ Below w.heap.size w w' := by
  go_enter Tryz.func153, Tryz.ntmps153
  go_wp2
  go_ret
  exact ⟨rfl, (Below.refl _ _).alloc (Nat.le_refl _) _⟩
theorem next_calls (hn : 0 ≤ n ∧ n ≤ 100) : Calls Tryz.prog 102 #[commonV (.iface tc vc) n] w fun e w' => e = .returned (.int .i64 (n + 1)) ∧ Below w.heap.size w w' := by
  have w1 := IntWalk.i64_in (n + 1) (by omega)
  go_enter Tryz.func102, Tryz.ntmps102
  go_wp2
  go_ret
  exact ⟨rfl, (Below.refl _ _).alloc (Nat.le_refl _) _⟩
theorem nextThree_calls : Calls Tryz.prog 154 #[commonV (.iface tc vc) n] w fun e w' => e = .returned (.int .i64 0) ∧ Below w.heap.size w w' := by
  go_enter Tryz.func154, Tryz.ntmps154
  go_wp2
  go_ret
  exact ⟨rfl, (Below.refl _ _).alloc (Nat.le_refl _) _⟩
set_option maxRecDepth 100000 in
theorem nameThree_calls : Calls Tryz.prog 101 #[commonV (.iface tc vc) 3] w fun e w' => e = .returned (.string ⟨#[103, 51]⟩) ∧ Below w.heap.size w w' := by
  go_enter Tryz.func101, Tryz.ntmps101
  go_wp2_with fail
  refine (Tryz.strconv_Itoa_small 3 (by omega) _).mono ?_
  rintro e _ ⟨rfl, rfl⟩
  have hd : (⟨(Lib.decDigits 3).toArray⟩ : ByteArray) = ⟨#[51]⟩ := by rw [Lib.decDigits]; rfl
  rw [hd]
  have r1 := fun W : World => run_string_add (P := Tryz.prog) W ⟨#[103]⟩ ⟨#[51]⟩ (by decide) (by decide)
  have e1 : (⟨#[103]⟩ : ByteArray) ++ ⟨#[51]⟩ = ⟨#[103, 51]⟩ := by decide
  rw [e1] at r1
  go_wp2
  go_ret
  exact ⟨rfl, (Below.refl _ _).alloc (Nat.le_refl _) _⟩
end
end Go.Proofs.YtiocealhadlggaaGreat
