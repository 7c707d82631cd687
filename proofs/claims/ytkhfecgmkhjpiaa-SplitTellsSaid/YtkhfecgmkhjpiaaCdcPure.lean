/- The plain laws of cuts. -/
import Derived.Test.YtkhfecgmkhjpiaaCdcCut
import Derived.Test.YtkhfecgmkhjpiaaFixedLaw2
namespace Go.Proofs.Ytkhfecgmkhjpiaa
set_option linter.unusedVariables false

theorem cutA_whole {F : List UInt8 → Nat} (hF : Good F) : ∀ (n k : Nat) (l : List UInt8), l.length ≤ n → wholeGo k (cutA F k l) = some ((k + l.length : Nat) : Int) := by
  intro n
  induction n with
  | zero => intro k l hl; obtain rfl : l = [] := List.eq_nil_of_length_eq_zero (by omega); rfl
  | succ n ih =>
    intro k l hl
    by_cases h0 : l = []
    · subst h0; rfl
    · have h1 := hF.pos l h0
      have h2 := hF.le l
      have h3 := ih (k + F l) (l.drop (F l)) (by rw [List.length_drop]; omega)
      rw [cutA_cons hF k h0, wholeGo, if_pos ⟨rfl, by simp only; omega⟩, h3, List.length_drop]
      congr 2; omega
/-- The piece at place i: where it stands, how long it is, what follows. -/
theorem cutA_at {F : List UInt8 → Nat} (hF : Good F) : ∀ (i k : Nat) (l : List UInt8) (p : Int × Int), (cutA F k l)[i]? = some p →
    ∃ x : Nat, x < l.length ∧ p.1 = ((k + x : Nat) : Int) ∧ p.2 = ((k + x + F (l.drop x) : Nat) : Int) ∧ x + F (l.drop x) ≤ l.length ∧ 1 ≤ F (l.drop x) ∧
      (cutA F k l).drop i = cutA F (k + x) (l.drop x) ∧ (cutA F k l).drop (i + 1) = cutA F (k + x + F (l.drop x)) (l.drop (x + F (l.drop x))) ∧ (x = 0 ↔ i = 0) := by
  intro i
  induction i with
  | zero =>
    intro k l p hp
    by_cases h0 : l = []
    · subst h0; simp [cutA_nil] at hp
    · have h1 := hF.pos l h0
      have h2 := hF.le l
      have h3 := List.length_pos_iff.2 h0
      rw [cutA_cons hF k h0] at hp
      simp at hp
      subst hp
      refine ⟨0, h3, by simp, by simp, by simpa using h2, by simpa using h1, by simp, ?_, by simp⟩
      rw [cutA_cons hF k h0]; simp
  | succ i ih =>
    intro k l p hp
    by_cases h0 : l = []
    · subst h0; simp [cutA_nil] at hp
    · have h1 := hF.pos l h0
      have h2 := hF.le l
      have e := cutA_cons hF k h0
      rw [e, List.getElem?_cons_succ] at hp
      obtain ⟨x, g1, g2, g3, g4, g5, g6, g7, _⟩ := ih _ _ _ hp
      rw [List.length_drop] at g1 g4
      rw [List.drop_drop] at g3 g4 g5 g6 g7
      rw [List.drop_drop] at g7
      refine ⟨F l + x, by omega, ?_, ?_, by omega, g5, ?_, ?_, by omega⟩
      · rw [g2]; congr 1; omega
      · rw [g3]; congr 1; omega
      · rw [e, List.drop_succ_cons, g6]; congr 1; omega
      · rw [e, List.drop_succ_cons, g7]
        congr 1
        · omega
        · congr 1; omega
theorem cutA_ne {F : List UInt8 → Nat} (hF : Good F) (k : Nat) {l : List UInt8} : cutA F k l = [] ↔ l = [] := by
  constructor
  · intro h
    by_cases h0 : l = []
    · exact h0
    · rw [cutA_cons hF k h0] at h; cases h
  · rintro rfl; rfl
theorem cutA_last {F : List UInt8 → Nat} (hF : Good F) {i k x : Nat} {l : List UInt8} (h : (cutA F k l).drop (i + 1) = cutA F (k + x + F (l.drop x)) (l.drop (x + F (l.drop x)))) : i + 1 < (cutA F k l).length ↔ x + F (l.drop x) < l.length := by
  have h1 : (cutA F k l).drop (i + 1) = [] ↔ l.drop (x + F (l.drop x)) = [] := by rw [h, cutA_ne hF]
  rw [List.drop_eq_nil_iff, List.drop_eq_nil_iff] at h1
  omega

theorem firstN_most {a b c h s : Int} (hv : validB a b c h s = true) (l : List UInt8) : (firstN a b c h s l : Int) ≤ c := by
  have hv2 := valid_bounds hv
  unfold firstN
  split
  · have := firstGo_le b h s ((l.take c.toNat).drop a.toNat) a.toNat 0
    rw [List.length_drop, List.length_take] at this
    omega
  · rename_i hc
    have : ¬ a < (l.length : Int) := fun h => hc ⟨hv, h⟩
    omega
theorem firstN_least {a b c h s : Int} {l : List UInt8} (hv : validB a b c h s = true) (hl : firstN a b c h s l < l.length) : a ≤ (firstN a b c h s l : Int) := by
  have hv2 := valid_bounds hv
  unfold firstN at hl ⊢
  split
  · have := firstGo_ge b h s ((l.take c.toNat).drop a.toNat) a.toNat 0
    omega
  · rename_i hc
    rw [if_neg hc] at hl
    omega
end Go.Proofs.Ytkhfecgmkhjpiaa
