/- What spans of one length are: whole, and their bytes are the text; the law FixedWhole. -/
import Derived.Test.YtkhfecgmkhjpiaaFixedLaw
import Derived.Test.YtkhfecgmkhjpiaaFixedJoin
namespace Go.Proofs.Ytkhfecgmkhjpiaa
open Go.RowKit
set_option linter.unusedVariables false
attribute [local go_sem] max2_int min2_int max_two min_two

theorem wholeGo_append (l m : List (Int × Int)) : ∀ a, wholeGo a (l ++ m) = (wholeGo a l).bind fun b => wholeGo b m := by
  induction l with
  | nil => intro a; rfl
  | cons p l ih =>
    intro a
    simp only [List.cons_append, wholeGo]
    split
    · exact ih _
    · rfl
theorem fixedL_take {n size : Nat} (hn : 1 ≤ n) : ∀ k, k ≤ (size + n - 1) / n → wholeGo 0 ((fixedL n size).take k) = some ((min (k * n) size : Nat) : Int) := by
  intro k
  induction k with
  | zero => intro _; simp [wholeGo]
  | succ k ih =>
    intro hk
    have h1 := (fixed_lt (size := size) (k := k) hn).1 (by omega)
    rw [take_snoc_of (fixedL_at hn h1), wholeGo_append, ih (by omega)]
    have h2 : k * n < (k + 1) * n := by rw [Nat.add_mul]; omega
    simp only [Option.bind_some, wholeGo]
    rw [if_pos ⟨by omega, by omega⟩]
theorem fixed_all {n size : Nat} (hn : 1 ≤ n) : size ≤ ((size + n - 1) / n) * n := by
  have : ¬ (size + n - 1) / n < (size + n - 1) / n := by omega
  rw [fixed_lt hn] at this
  omega
theorem fixedL_whole {n size : Nat} (hn : 1 ≤ n) : wholeGo 0 (fixedL n size) = some (size : Int) := by
  have h := fixedL_take (n := n) (size := size) hn _ (Nat.le_refl _)
  rw [← fixedL_length n size, List.take_length] at h
  rw [h, fixedL_length]
  have := fixed_all (size := size) hn
  congr 2; omega
theorem fixedL_cat {n : Nat} (s : List UInt8) (hn : 1 ≤ n) : ∀ k, k ≤ (s.length + n - 1) / n → catSpans s ((fixedL n s.length).take k) = s.take (min (k * n) s.length) := by
  intro k
  induction k with
  | zero => intro _; simp [catSpans]
  | succ k ih =>
    intro hk
    have h1 := (fixed_lt (size := s.length) (k := k) hn).1 (by omega)
    rw [take_snoc_of (fixedL_at hn h1), catSpans_snoc, ih (by omega)]
    have h2 : k * n < (k + 1) * n := by rw [Nat.add_mul]; omega
    have e1 : min (k * n) s.length = k * n := by omega
    rw [e1]
    generalize hm : min ((k + 1) * n) s.length = m
    have hkm : k * n ≤ m := by omega
    simp only [cutOf, Int.toNat_natCast]
    conv => rhs; rw [← List.take_append_drop (k * n) (s.take m)]
    rw [List.take_take, Nat.min_eq_left hkm, List.drop_take]
theorem fixedL_join {n : Nat} (s : List UInt8) (hn : 1 ≤ n) : catSpans s (fixedL n s.length) = s := by
  have h := fixedL_cat s hn _ (Nat.le_refl _)
  rw [← fixedL_length n s.length, List.take_length] at h
  rw [h, fixedL_length]
  have := fixed_all (size := s.length) hn
  rw [Nat.min_eq_right this, List.take_length]
theorem fixedL_okAll {n size : Nat} (hn : 1 ≤ n) : okAll size (fixedL n size) := by
  intro p hp
  obtain ⟨k, hk⟩ := List.getElem?_of_mem hp
  have hkl : k < (size + n - 1) / n := by rw [← fixedL_length]; exact (List.getElem?_eq_some_iff.1 hk).1
  have h1 := (fixed_lt (size := size) hn).1 hkl
  rw [fixedL_at hn h1] at hk
  injection hk with hk
  subst hk
  have h2 : k * n < (k + 1) * n := by rw [Nat.add_mul]; omega
  exact ⟨by simp only; omega, by simp only; omega, by simp only; omega⟩
/-- One span grown by a byte: they are whole no more. -/
theorem whole_grown {n size k : Nat} {p : Int × Int} (hn : 1 ≤ n) (hk : (fixedL n size)[k]? = some p) : wholeB size ((fixedL n size).set k (p.1, p.2 + 1)) = false := by
  have hkl : k < (size + n - 1) / n := by rw [← fixedL_length]; exact (List.getElem?_eq_some_iff.1 hk).1
  have h1 := (fixed_lt (size := size) hn).1 hkl
  rw [fixedL_at hn h1] at hk
  injection hk with hk
  subst hk
  have hk2 : k < (fixedL n size).length := by rw [fixedL_length]; exact hkl
  have e : (fixedL n size).set k (((k * n : Nat) : Int), ((min ((k + 1) * n) size : Nat) : Int) + 1) = (fixedL n size).take k ++ (((k * n : Nat) : Int), ((min ((k + 1) * n) size : Nat) : Int) + 1) :: (fixedL n size).drop (k + 1) := by
    rw [List.set_eq_take_append_cons_drop, if_pos hk2]
  have h2 : k * n < (k + 1) * n := by rw [Nat.add_mul]; omega
  simp only [wholeB, decide_eq_false_iff_not]
  rw [e, wholeGo_append, fixedL_take hn k (by omega)]
  simp only [Option.bind_some, wholeGo]
  rw [if_pos ⟨by omega, by omega⟩]
  by_cases hlast : k + 1 < (size + n - 1) / n
  · have h3 := (fixed_lt (size := size) (k := k + 1) hn).1 hlast
    rw [drop_of_at (fixedL_at hn h3)]
    simp only [wholeGo]
    rw [if_neg (by omega)]
    simp
  · rw [List.drop_eq_nil_of_le (by rw [fixedL_length]; omega)]
    simp only [wholeGo]
    intro h
    injection h with h
    have := fixed_all (size := size) hn
    have hm : size ≤ (k + 1) * n := by
      have e2 : (size + n - 1) / n = k + 1 := by omega
      rw [e2] at this
      exact this
    omega
theorem pcells_set {l : List (Int × Int)} {k : Nat} {p : Int × Int} (h : l[k]? = some p) (y : Int) : (pcells l).set (k * 2 + 1) (.int .i64 y) = pcells (l.set k (p.1, y)) := by
  induction l generalizing k with
  | nil => simp at h
  | cons q l ih =>
    cases k with
    | zero => simp at h; subst h; rfl
    | succ k =>
      have := ih (k := k) (by simpa using h)
      rw [pcells_cons, show (k + 1) * 2 + 1 = (k * 2 + 1) + 1 + 1 by omega, List.set_cons_succ, List.set_cons_succ, this, List.set_cons_succ, pcells_cons]

end Go.Proofs.Ytkhfecgmkhjpiaa
