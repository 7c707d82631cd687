/- Package gen: the forms. -/
import Derived.Test.YtiocealhadlggaaBundle7
import Derived.Test.YtiocealhadlggaaSplitAlive
namespace Go.Proofs.Ytiocealhadlggaa
open Go.RowKit
set_option linter.unusedVariables false

def kindG (n : Int) : Int := if n = 1 then 1 else if n = 2 then 2 else if n = 3 then 2 else 0
/-- What all forms have: a cutter and a number. -/
abbrev commonV (cv : Value) (n : Int) : Value := .agg #[cv, .int .i64 n]
theorem brickKind_calls (n : Int) (w : World) : Calls Try.prog 19 #[.int .i64 n] w fun e w' => e = .returned (.int .i64 (kindG n)) ∧ Below w.heap.size w w' := by
  by_cases h1 : n = 1
  · subst h1
    go_enter Try.func19, Try.ntmps19
    go_wp2
    go_ret
    exact ⟨rfl, Below.refl _ _⟩
  by_cases h2 : n = 2
  · subst h2
    go_enter Try.func19, Try.ntmps19
    go_wp2
    go_ret
    exact ⟨rfl, Below.refl _ _⟩
  by_cases h3 : n = 3
  · subst h3
    go_enter Try.func19, Try.ntmps19
    go_wp2
    go_ret
    exact ⟨rfl, Below.refl _ _⟩
  · have e : kindG n = 0 := by rw [kindG, if_neg h1, if_neg h2, if_neg h3]
    have b1 : (n == 1) = false := by simpa using h1
    have b2 : (n == 2) = false := by simpa using h2
    have b3 : (n == 3) = false := by simpa using h3
    rw [e]
    clear e h1 h2 h3
    go_enter Try.func19, Try.ntmps19
    go_wp2
    go_ret
    exact ⟨rfl, Below.refl _ _⟩
section
variable (tc : TypeId) (vc : Value) (n : Int) (w : World)
theorem gen_calls : Calls Try.prog 11 #[commonV (.iface tc vc) n] w fun e w' => e = .returned (.int .i64 n) ∧ Below w.heap.size w w' := by
  go_enter Try.func11, Try.ntmps11
  go_wp2
  go_ret
  exact ⟨rfl, (Below.refl _ _).alloc (Nat.le_refl _) _⟩
theorem kind_calls : Calls Try.prog 8 #[commonV (.iface tc vc) n] w fun e w' => e = .returned (.int .i64 2) ∧ Below w.heap.size w w' := by
  go_enter Try.func8, Try.ntmps8
  go_wp2
  go_ret
  exact ⟨rfl, (Below.refl _ _).alloc (Nat.le_refl _) _⟩
theorem kindOne_calls : Calls Try.prog 7 #[commonV (.iface tc vc) n] w fun e w' => e = .returned (.int .i64 1) ∧ Below w.heap.size w w' := by
  go_enter Try.func7, Try.ntmps7
  go_wp2
  go_ret
  exact ⟨rfl, (Below.refl _ _).alloc (Nat.le_refl _) _⟩
theorem next_calls (hn : 0 ≤ n ∧ n ≤ 100) : Calls Try.prog 9 #[commonV (.iface tc vc) n] w fun e w' => e = .returned (.int .i64 (n + 1)) ∧ Below w.heap.size w w' := by
  have w1 := IntWalk.i64_in (n + 1) (by omega)
  go_enter Try.func9, Try.ntmps9
  go_wp2
  go_ret
  exact ⟨rfl, (Below.refl _ _).alloc (Nat.le_refl _) _⟩
theorem nextThree_calls : Calls Try.prog 10 #[commonV (.iface tc vc) n] w fun e w' => e = .returned (.int .i64 0) ∧ Below w.heap.size w w' := by
  go_enter Try.func10, Try.ntmps10
  go_wp2
  go_ret
  exact ⟨rfl, (Below.refl _ _).alloc (Nat.le_refl _) _⟩
set_option maxRecDepth 100000 in
theorem nameThree_calls : Calls Try.prog 79 #[commonV (.iface tc vc) 3] w fun e w' => e = .returned (.string ⟨#[103, 51]⟩) ∧ Below w.heap.size w w' := by
  go_enter Try.func79, Try.ntmps79
  go_wp2_with fail
  refine (Try.strconv_Itoa_small 3 (by omega) _).mono ?_
  rintro e _ ⟨rfl, rfl⟩
  have hd : (⟨(Lib.decDigits 3).toArray⟩ : ByteArray) = ⟨#[51]⟩ := by rw [Lib.decDigits]; rfl
  rw [hd]
  have r1 := fun W : World => run_string_add (P := Try.prog) W ⟨#[103]⟩ ⟨#[51]⟩ (by decide) (by decide)
  have e1 : (⟨#[103]⟩ : ByteArray) ++ ⟨#[51]⟩ = ⟨#[103, 51]⟩ := by decide
  rw [e1] at r1
  go_wp2
  go_ret
  exact ⟨rfl, (Below.refl _ _).alloc (Nat.le_refl _) _⟩
end
end Go.Proofs.Ytiocealhadlggaa
