/- Plain laws for RoomPlays: the least one that is free; what is dropped; what is given back. -/
import Derived.Test.YtoadelcdcfdmfaaRoomPure
namespace Go.Proofs.Ytoadelcdcfdmfaa
set_option linter.unusedVariables false

/-- The law's scan for the least number that is not there. -/
def runL (l : List Int) : Nat → Nat
  | 0 => 0
  | k + 1 => if runL l k = k ∧ l[k]? = some (k : Int) then k + 1 else runL l k
theorem runL_le (l : List Int) (k : Nat) : runL l k ≤ k := by
  induction k with
  | zero => exact Nat.le_refl _
  | succ k ih => rw [runL]; split <;> omega
theorem idsL_at {f : Nat → Bool} {k : Nat} (h : ∀ j, j < k → f j = true) : ∀ n, k ≤ n → ∀ j, j < k → (idsL f n)[j]? = some (j : Int) := by
  intro n
  induction n with
  | zero => intro hk j hj; omega
  | succ n ih =>
    intro hk j hj
    rcases Nat.lt_or_ge n k with h1 | h1
    · have hkn : k = n + 1 := by omega
      subst hkn
      have hall : ∀ m, m ≤ n + 1 → idsL f m = (List.range m).map fun j : Nat => (j : Int) := by
        intro m hm
        unfold idsL
        congr 1
        rw [List.filter_eq_self]
        intro x hx
        exact h x (by have := List.mem_range.1 hx; omega)
      rw [hall (n + 1) (Nat.le_refl _)]
      simp [hj]
    · have h2 := ih h1 j hj
      rw [idsL_succ]
      split
      · rw [List.getElem?_append_left (List.getElem?_eq_some_iff.1 h2).1]; exact h2
      · exact h2
/-- Where the first k are there and the next one is not, nothing stands at its place that is it. -/
theorem idsL_stop {f : Nat → Bool} {n k : Nat} (h : ∀ j, j < k → f j = true) (hk : k < n) (hf : f k = false) : (idsL f n)[k]? ≠ some (k : Int) := by
  intro e
  have hm := List.mem_of_getElem? e
  rw [idsL_mem] at hm
  obtain ⟨j, _, e2, hj⟩ := hm
  have : j = k := by omega
  subst this
  rw [hf] at hj
  cases hj
theorem idsL_out (f : Nat → Bool) (n : Nat) : (idsL f n)[n]? = none := List.getElem?_eq_none (idsL_le f n)
/-- What is left when one is dropped. -/
def dropL (l : List Int) (x : Int) : List Int := l.filter fun y => decide (y ≠ x)
theorem dropL_ids (f : Nat → Bool) (n k : Nat) : dropL (idsL f n) (k : Int) = idsL (upd f k false) n := by
  unfold dropL idsL
  rw [List.filter_map, List.filter_filter]
  congr 1
  apply List.filter_congr
  intro j _
  by_cases e : j = k
  · subst e; simp [upd]
  · have : ¬ (j : Int) = (k : Int) := by omega
    simp [upd, e, this]
theorem dropL_none (l : List Int) (x : Int) (h : x ∉ l) : dropL l x = l := by
  unfold dropL
  rw [List.filter_eq_self]
  intro y hy
  simp
  intro e
  exact h (by rw [← e]; exact hy)
end Go.Proofs.Ytoadelcdcfdmfaa
