/- Plain laws of cuts that are made anew. -/
import Derived.Test.YtkhfecgmkhjpiaaCdcPure2
namespace Go.Proofs.Ytkhfecgmkhjpiaa
set_option linter.unusedVariables false

/-- Pieces of one length. -/
def minF (n : Nat) (l : List UInt8) : Nat := min n l.length
theorem best_min {n : Nat} (hn : 1 ≤ n) : Best (minF n) where
  pos l h0 := by have := List.length_pos_iff.2 h0; unfold minF; omega
  le l := by unfold minF; omega
  own l := by simp [minF]
  more l r h := by simp [minF] at h ⊢; omega
theorem fixedL_cut {n : Nat} (hn : 1 ≤ n) (l : List UInt8) : ∀ (m j : Nat), (l.length + n - 1) / n - j = m → cutA (minF n) (j * n) (l.drop (j * n)) = (fixedL n l.length).drop j := by
  intro m
  induction m with
  | zero =>
    intro j hj
    have h1 : ¬ j < (l.length + n - 1) / n := by omega
    rw [fixed_lt hn] at h1
    rw [show l.drop (j * n) = [] from List.drop_eq_nil_of_le (by omega), cutA_nil, List.drop_eq_nil_of_le (by rw [fixedL_length]; omega)]
  | succ m ih =>
    intro j hj
    have h1 : j < (l.length + n - 1) / n := by omega
    rw [fixed_lt hn] at h1
    have hne : l.drop (j * n) ≠ [] := by
      intro e
      have := congrArg List.length e
      rw [List.length_drop, List.length_nil] at this
      omega
    have hat := fixedL_at hn h1
    rw [drop_of_at hat, cutA_cons (best_min hn).toGood _ hne, minF, List.length_drop, List.drop_drop]
    have e1 : (j + 1) * n = j * n + n := by rw [Nat.add_mul]; omega
    have e2 : j * n + min n (l.length - j * n) = min ((j + 1) * n) l.length := by omega
    rw [e2]
    congr 1
    rw [← ih (j + 1) (by omega)]
    by_cases h2 : (j + 1) * n ≤ l.length
    · rw [Nat.min_eq_left h2]
    · rw [show l.drop ((j + 1) * n) = [] from List.drop_eq_nil_of_le (by omega), show l.drop (min ((j + 1) * n) l.length) = [] from List.drop_eq_nil_of_le (by omega), cutA_nil, cutA_nil]
theorem fixed_cut {n : Nat} (hn : 1 ≤ n) (l : List UInt8) : cutA (minF n) 0 l = fixedL n l.length := by
  have := fixedL_cut hn l _ 0 rfl
  simpa using this

/-- How many old cuts stay ahead of a change. -/
def keptGo (a : Int) (same : Bool) : List (Int × Int) → Nat
  | [] => 0
  | x :: r => if a < x.2 ∨ (r = [] ∧ same = false) then 0 else keptGo a same r + 1
theorem keptGo_le (a : Int) (same : Bool) (l : List (Int × Int)) : keptGo a same l ≤ l.length := by
  induction l with
  | nil => simp [keptGo]
  | cons x r ih => rw [keptGo]; split <;> simp; omega
theorem keptGo_small {a : Int} {same : Bool} : ∀ {l : List (Int × Int)} {i : Nat} {p : Int × Int}, i < keptGo a same l → l[i]? = some p → p.2 ≤ a := by
  intro l
  induction l with
  | nil => intro i p h; simp [keptGo] at h
  | cons x r ih =>
    intro i p h hp
    rw [keptGo] at h
    split at h
    · omega
    · rename_i hc
      cases i with
      | zero => simp at hp; subst hp; by_cases h : a < x.2; exact absurd (.inl h) hc; omega
      | succ i => exact ih (i := i) (by omega) (by simpa using hp)
theorem keptGo_all {a : Int} {same : Bool} : ∀ {l : List (Int × Int)}, l ≠ [] → keptGo a same l = l.length → same = true := by
  intro l
  induction l with
  | nil => intro h; exact absurd rfl h
  | cons x r ih =>
    intro _ h
    rw [keptGo] at h
    split at h
    · simp at h
    · rename_i hc
      by_cases hr : r = []
      · cases same
        · exact absurd (.inr ⟨hr, rfl⟩) hc
        · rfl
      · exact ih hr (by simpa using h)
theorem keptGo_next {a : Int} {same : Bool} : ∀ {l : List (Int × Int)} {p : Int × Int}, l[keptGo a same l]? = some p → a < p.2 ∨ (keptGo a same l + 1 = l.length ∧ same = false) := by
  intro l
  induction l with
  | nil => intro p h; simp at h
  | cons x r ih =>
    intro p h
    rw [keptGo] at h ⊢
    split at h
    · rename_i hc
      rw [if_pos hc]
      simp at h
      subst h
      rcases hc with hc | ⟨rfl, hc⟩
      · exact .inl hc
      · exact .inr ⟨rfl, hc⟩
    · rename_i hc
      rw [if_neg hc]
      rw [List.getElem?_cons_succ] at h
      rcases ih h with h2 | h2
      · exact .inl h2
      · exact .inr ⟨by simp; exact h2.1, h2.2⟩

/-- Where the first cut from a place on stands. -/
def idxI (a : Int) (l : List (Int × Int)) : Option Nat := l.findIdx? fun p => decide (p.1 = a)
def idxZ (a : Int) (l : List (Int × Int)) : Int := match idxI a l with | some i => i | none => -1
theorem idxI_cons (a : Int) (p : Int × Int) (l : List (Int × Int)) : idxI a (p :: l) = if p.1 = a then some 0 else (idxI a l).map (· + 1) := by
  simp [idxI, List.findIdx?_cons]
theorem idxI_at {a : Int} {l : List (Int × Int)} {i : Nat} (h : idxI a l = some i) : ∃ p, l[i]? = some p ∧ p.1 = a := by
  unfold idxI at h
  rw [List.findIdx?_eq_some_iff_getElem] at h
  obtain ⟨h1, h2, _⟩ := h
  exact ⟨l[i], List.getElem?_eq_getElem h1, by simpa using h2⟩
theorem idxI_is {a : Int} {l : List (Int × Int)} {i : Nat} {p : Int × Int} (h : l[i]? = some p) (e : p.1 = a) : idxI a l ≠ none := by
  unfold idxI
  rw [Ne, List.findIdx?_eq_none_iff]
  intro h2
  have := h2 p (List.mem_of_getElem? h)
  simp [e] at this
def moved (g : Int) (l : List (Int × Int)) : List (Int × Int) := l.map fun p => (p.1 + g, p.2 + g)
def againGo (F : List UInt8 → Nat) (t : List UInt8) (old : List (Int × Int)) (b g : Int) : Nat → Nat → List (Int × Int) → Nat → List (Int × Int) × Nat
  | 0, _, out, n => (out, n)
  | f + 1, x, out, n =>
    if b ≤ (x : Int) ∧ x = t.length then (out, n)
    else match if b ≤ (x : Int) then idxI ((x : Int) - g) old else none with
      | some i => (out ++ moved g (old.drop i), n)
      | none => againGo F t old b g f (x + F (t.drop x)) (out ++ [((x : Int), ((x + F (t.drop x) : Nat) : Int))]) (n + 1)
def endOf (l : List (Int × Int)) : Int := match l.getLast? with | some p => p.2 | none => 0
def badP (t : List UInt8) (old : List (Int × Int)) (a b g : Int) : Prop := a < 0 ∨ b < a ∨ (t.length : Int) < b ∨ b - a < g ∨ wholeGo 0 old ≠ some ((t.length : Int) - g)
instance (t : List UInt8) (old : List (Int × Int)) (a b g : Int) : Decidable (badP t old a b g) := by unfold badP; infer_instance
def sameB (a b g : Int) : Bool := decide (a = b ∧ g = 0)
/-- What Again makes. -/
def againR (F : List UInt8 → Nat) (t : List UInt8) (old : List (Int × Int)) (a b g : Int) : List (Int × Int) × Nat :=
  if badP t old a b g then (cutA F 0 t, (cutA F 0 t).length)
  else
    let k := keptGo a (sameB a b g) old
    let x := (endOf (old.take k)).toNat
    againGo F t old b g (t.length - x + 1) x (old.take k) 0

theorem endOf_snoc (l : List (Int × Int)) (p : Int × Int) : endOf (l ++ [p]) = p.2 := by simp [endOf]
theorem cutA_end {F : List UInt8 → Nat} (hF : Good F) {s : List UInt8} {i : Nat} {p : Int × Int} (h : (cutA F 0 s)[i]? = some p) : endOf ((cutA F 0 s).take i) = p.1 := by
  obtain ⟨x, g1, g2, g3, g4, g5, g6, g7, g8⟩ := cutA_at hF i 0 s p h
  cases i with
  | zero => rw [g2, g8.2 rfl]; rfl
  | succ j =>
    have hlt := (List.getElem?_eq_some_iff.1 h).1
    obtain ⟨q, hq⟩ : ∃ q, (cutA F 0 s)[j]? = some q := ⟨_, List.getElem?_eq_getElem (by omega)⟩
    obtain ⟨y, k1, k2, k3, k4, k5, k6, k7, k8⟩ := cutA_at hF j 0 s q hq
    rw [take_snoc_of hq, endOf_snoc, k3]
    have e1 := drop_of_at h
    rw [k7] at e1
    have hne : s.drop (y + F (s.drop y)) ≠ [] := by
      intro e2
      rw [e2, cutA_nil] at e1
      cases e1
    rw [cutA_cons hF _ hne] at e1
    injection e1 with e1 _
    rw [← e1]
theorem cutA_end_all {F : List UInt8 → Nat} (hF : Good F) (s : List UInt8) : endOf (cutA F 0 s) = s.length := by
  by_cases h0 : s = []
  · subst h0; rfl
  · have hne : cutA F 0 s ≠ [] := fun e => h0 ((cutA_ne hF 0).1 e)
    obtain ⟨j, hj⟩ : ∃ j, (cutA F 0 s).length = j + 1 := ⟨(cutA F 0 s).length - 1, by have := List.length_pos_iff.2 hne; omega⟩
    obtain ⟨q, hq⟩ : ∃ q, (cutA F 0 s)[j]? = some q := ⟨_, List.getElem?_eq_getElem (by omega)⟩
    obtain ⟨y, k1, k2, k3, k4, k5, k6, k7, k8⟩ := cutA_at hF j 0 s q hq
    have e := take_snoc_of hq
    rw [← hj, List.take_length] at e
    rw [e, endOf_snoc, k3]
    have e1 : (cutA F 0 s).drop (j + 1) = [] := List.drop_eq_nil_of_le (by omega)
    rw [k7, cutA_ne hF] at e1
    have := congrArg List.length e1
    rw [List.length_drop, List.length_nil] at this
    omega
/-- The cut behind a cut. -/
theorem cutA_succ {F : List UInt8 → Nat} (hF : Good F) {s : List UInt8} {i : Nat} {p : Int × Int} (h : (cutA F 0 s)[i]? = some p) : p.2 = s.length ∨ ∃ q, (cutA F 0 s)[i + 1]? = some q ∧ q.1 = p.2 := by
  obtain ⟨x, g1, g2, g3, g4, g5, g6, g7, g8⟩ := cutA_at hF i 0 s p h
  by_cases hl : i + 1 < (cutA F 0 s).length
  · obtain ⟨q, hq⟩ : ∃ q, (cutA F 0 s)[i + 1]? = some q := ⟨_, List.getElem?_eq_getElem hl⟩
    refine .inr ⟨q, hq, ?_⟩
    have h1 := cutA_end hF hq
    rw [take_snoc_of h, endOf_snoc] at h1
    exact h1.symm
  · left
    have h1 := cutA_end_all hF s
    have e := take_snoc_of h
    rw [List.take_of_length_le (by omega)] at e
    rw [e, endOf_snoc] at h1
    exact h1
theorem cutA_moved {F : List UInt8 → Nat} (hF : Good F) (x y : Nat) (g : Int) (h : (y : Int) = x + g) (l : List UInt8) : moved g (cutA F x l) = cutA F y l := by
  by_cases hg : 0 ≤ g
  · obtain ⟨m, rfl⟩ := Int.eq_ofNat_of_zero_le hg
    obtain rfl : y = x + m := by omega
    rw [cutA_shift hF m _ x l (Nat.le_refl _)]; rfl
  · obtain ⟨m, hm⟩ := Int.eq_ofNat_of_zero_le (show 0 ≤ -g by omega)
    obtain rfl : x = y + m := by omega
    obtain rfl : g = -(m : Int) := by omega
    rw [cutA_shift hF m _ y l (Nat.le_refl _), moved, List.map_map]
    conv => rhs; rw [← List.map_id (cutA F y l)]
    refine List.map_congr_left fun p _ => Prod.ext ?_ ?_
    · show p.1 + (m : Int) + -(m : Int) = p.1; omega
    · show p.2 + (m : Int) + -(m : Int) = p.2; omega
theorem again_loop {F : List UInt8 → Nat} (hF : Good F) {t : List UInt8} {old : List (Int × Int)} {b g : Int} (hb : b ≤ t.length)
    (hidx : ∀ (x i : Nat), b ≤ (x : Int) → x ≤ t.length → idxI ((x : Int) - g) old = some i → moved g (old.drop i) = cutA F x (t.drop x)) :
    ∀ (f x : Nat) (out : List (Int × Int)) (n : Nat), x ≤ t.length → t.length - x + 1 ≤ f → out ++ cutA F x (t.drop x) = cutA F 0 t → n ≤ out.length →
      (againGo F t old b g f x out n).1 = cutA F 0 t ∧ (againGo F t old b g f x out n).2 ≤ (cutA F 0 t).length := by
  intro f
  induction f with
  | zero => intro x out n _ h; omega
  | succ f ih =>
    intro x out n hx hf ho hn
    have hlen := congrArg List.length ho
    rw [List.length_append] at hlen
    rw [againGo]
    split
    · rename_i hc
      rw [hc.2, List.drop_length, cutA_nil, List.append_nil] at ho
      exact ⟨ho, by rw [← ho]; exact hn⟩
    · rename_i hc
      split
      · rename_i i hi
        by_cases hb2 : b ≤ (x : Int)
        · rw [if_pos hb2] at hi
          rw [hidx x i hb2 hx hi]
          exact ⟨ho, by show n ≤ _; omega⟩
        · rw [if_neg hb2] at hi; cases hi
      · have hlt : x < t.length := by
          rcases Nat.lt_or_ge x t.length with h | h
          · exact h
          · exact absurd ⟨by omega, by omega⟩ hc
        have hne : t.drop x ≠ [] := by
          intro e
          have := congrArg List.length e
          rw [List.length_drop, List.length_nil] at this
          omega
        have h1 := hF.pos _ hne
        have h2 := hF.le (t.drop x)
        rw [List.length_drop] at h2
        refine ih _ _ _ (by omega) (by omega) ?_ (by rw [List.length_append]; simp; exact hn)
        rw [← ho, cutA_cons hF x hne, List.drop_drop, List.append_assoc]
        rfl
theorem kept_start {F : List UInt8 → Nat} (hF : Best F) {s t : List UInt8} {a b : Nat} {g : Int} (ha : t.take a = s.take a) (hd : t.drop b = s.drop ((b : Int) - g).toNat) (hab : a ≤ b) (hb : b ≤ t.length) (hg : g ≤ (b : Int) - a) (hl : (t.length : Int) - g = s.length) :
    ∃ x : Nat, endOf ((cutA F 0 s).take (keptGo a (sameB a b g) (cutA F 0 s))) = x ∧ x ≤ a ∧ x ≤ t.length ∧ (cutA F 0 s).take (keptGo a (sameB a b g) (cutA F 0 s)) ++ cutA F x (t.drop x) = cutA F 0 t ∧
      (keptGo a (sameB a b g) (cutA F 0 s) < (cutA F 0 s).length → ∃ p, (cutA F 0 s)[keptGo a (sameB a b g) (cutA F 0 s)]? = some p ∧ p.1 = x ∧ p.2 = ((x + F (s.drop x) : Nat) : Int)) ∧ (¬ keptGo a (sameB a b g) (cutA F 0 s) < (cutA F 0 s).length → s ≠ [] → x = t.length) := by
  obtain ⟨k, hk⟩ : ∃ k, keptGo a (sameB a b g) (cutA F 0 s) = k := ⟨_, rfl⟩
  have hkl := keptGo_le a (sameB a b g) (cutA F 0 s)
  have hsm : ∀ i p, i < k → (cutA F 0 s)[i]? = some p → p.2 ≤ a := fun i p hi hp => keptGo_small (by rw [hk]; exact hi) hp
  have hall : cutA F 0 s ≠ [] → k = (cutA F 0 s).length → sameB a b g = true := fun h1 h2 => keptGo_all h1 (by rw [hk]; exact h2)
  rw [hk] at hkl ⊢
  have htx : ∀ x, x ≤ a → t = s.take x ++ t.drop x := by
    intro x hx
    have h1 : t.take x = s.take x := by
      have := congrArg (List.take x) ha
      rw [List.take_take, List.take_take, Nat.min_eq_left hx] at this
      exact this
    rw [← h1, List.take_append_drop]
  by_cases hlt : k < (cutA F 0 s).length
  · obtain ⟨p, hp⟩ : ∃ p, (cutA F 0 s)[k]? = some p := ⟨_, List.getElem?_eq_getElem hlt⟩
    obtain ⟨x, g1, g2, g3, g4, g5, g6, g7, g8⟩ := cutA_at hF.toGood k 0 s p hp
    have hxa : x ≤ a := by
      cases k with
      | zero => have := g8.2 rfl; omega
      | succ j =>
        obtain ⟨q, hq⟩ : ∃ q, (cutA F 0 s)[j]? = some q := ⟨_, List.getElem?_eq_getElem (by omega)⟩
        have h1 := hsm j q (by omega) hq
        have h2 := cutA_end hF.toGood hp
        rw [take_snoc_of hq, endOf_snoc] at h2
        omega
    refine ⟨x, by rw [cutA_end hF.toGood hp, g2]; simp, hxa, by omega, ?_, fun _ => ⟨p, hp, by rw [g2]; simp, by rw [g3]; simp⟩, fun h => absurd hlt h⟩
    have h3 := cut_pre hF k 0 s p x hp g2 (t.drop x)
    rw [← htx x hxa, Nat.zero_add] at h3
    exact h3.symm
  · have hke : k = (cutA F 0 s).length := by omega
    by_cases h0 : s = []
    · subst h0
      have e0 : cutA F 0 ([] : List UInt8) = [] := rfl
      rw [e0] at hke
      simp at hke
      subst hke
      refine ⟨0, rfl, by omega, by omega, by simp, fun h => by simp [e0] at h, fun _ h => absurd rfl h⟩
    · have hne : cutA F 0 s ≠ [] := fun e => h0 ((cutA_ne hF.toGood 0).1 e)
      have hs := hall hne hke
      have hsame : a = b ∧ g = 0 := by
        have := of_decide_eq_true hs
        exact ⟨by omega, this.2⟩
      obtain ⟨rfl, rfl⟩ := hsame
      have hts : t = s := by
        have e1 := htx a (Nat.le_refl _)
        rw [hd] at e1
        simpa using e1
      subst hts
      have he := cutA_end_all hF.toGood t
      have hxa : t.length ≤ a := by
        obtain ⟨j, hj⟩ : ∃ j, (cutA F 0 t).length = j + 1 := ⟨(cutA F 0 t).length - 1, by have := List.length_pos_iff.2 hne; omega⟩
        obtain ⟨q, hq⟩ : ∃ q, (cutA F 0 t)[j]? = some q := ⟨_, List.getElem?_eq_getElem (by omega)⟩
        have h1 := hsm j q (by omega) hq
        have e := take_snoc_of hq
        rw [← hj, List.take_length] at e
        rw [e, endOf_snoc] at he
        omega
      refine ⟨t.length, by rw [hke, List.take_length]; exact he, hxa, Nat.le_refl _, ?_, fun h => absurd h hlt, fun _ _ => rfl⟩
      rw [hke, List.take_length, List.drop_length, cutA_nil, List.append_nil]
theorem idx_moved {F : List UInt8 → Nat} (hF : Good F) {s t : List UInt8} {b : Nat} {g : Int} (hd : t.drop b = s.drop ((b : Int) - g).toNat) (hg : g ≤ (b : Int)) {x i : Nat} (hx : b ≤ x) (h : idxI ((x : Int) - g) (cutA F 0 s) = some i) :
    moved g ((cutA F 0 s).drop i) = cutA F x (t.drop x) := by
  obtain ⟨p, hp, e⟩ := idxI_at h
  obtain ⟨y, g1, g2, g3, g4, g5, g6, g7, g8⟩ := cutA_at hF i 0 s p hp
  rw [g6, cutA_moved hF (0 + y) x g (by omega)]
  have e1 : t.drop x = (t.drop b).drop (x - b) := by rw [List.drop_drop]; congr 1; omega
  rw [e1, hd, List.drop_drop]
  congr 2; omega
theorem not_bad {F : List UInt8 → Nat} (hF : Good F) {s t : List UInt8} {a b : Nat} {g : Int} (hab : a ≤ b) (hb : b ≤ t.length) (hg : g ≤ (b : Int) - a) (hl : (t.length : Int) - g = s.length) : ¬ badP t (cutA F 0 s) a b g := by
  have h := cutA_whole hF s.length 0 s (Nat.le_refl _)
  rintro (h1 | h1 | h1 | h1 | h1)
  · omega
  · omega
  · omega
  · omega
  · apply h1
    rw [hl]
    simpa using h
/-- A text that was changed: cut anew it is as it is cut whole. -/
theorem again_ok {F : List UInt8 → Nat} (hF : Best F) {s t : List UInt8} {a b : Nat} {g : Int} (ha : t.take a = s.take a) (hd : t.drop b = s.drop ((b : Int) - g).toNat) (hab : a ≤ b) (hb : b ≤ t.length) (hg : g ≤ (b : Int) - a) (hl : (t.length : Int) - g = s.length) :
    (againR F t (cutA F 0 s) a b g).1 = cutA F 0 t ∧ (againR F t (cutA F 0 s) a b g).2 ≤ (cutA F 0 t).length := by
  rw [againR, if_neg (not_bad hF.toGood hab hb hg hl)]
  obtain ⟨x, h1, h2, h3, h4, _, _⟩ := kept_start hF ha hd hab hb hg hl
  simp only
  rw [h1]
  simp only [Int.toNat_natCast]
  exact again_loop hF.toGood (by omega) (fun y i hy _ hi => idx_moved hF.toGood hd (by omega) (by omega) hi) _ _ _ _ h3 (Nat.le_refl _) h4 (Nat.zero_le _)
theorem again_stop {F : List UInt8 → Nat} {t : List UInt8} {old : List (Int × Int)} {b g : Int} {f x : Nat} {out : List (Int × Int)} {n : Nat} (hb : b ≤ (x : Int)) (h : x = t.length ∨ idxI ((x : Int) - g) old ≠ none) : (againGo F t old b g (f + 1) x out n).2 = n := by
  rw [againGo]
  split
  · rfl
  · rename_i hc
    rcases h with h | h
    · exact absurd ⟨hb, h⟩ hc
    · split
      · rfl
      · rename_i hi; exact absurd hi h
/-- Few pieces are looked for where the lengths of the pieces stay. -/
theorem again_few {F : List UInt8 → Nat} (hF : Best F) {s t : List UInt8} {a b : Nat} (ha : t.take a = s.take a) (hd : t.drop b = s.drop b) (hab : a ≤ b) (hb : b ≤ t.length) (hba : b ≤ a + 1) (hl : t.length = s.length) (hF2 : ∀ x, x ≤ a → F (t.drop x) = F (s.drop x)) :
    (againR F t (cutA F 0 s) a b 0).2 ≤ 1 := by
  have hg : (0 : Int) ≤ (b : Int) - a := by omega
  have hl2 : (t.length : Int) - 0 = s.length := by omega
  rw [againR, if_neg (not_bad hF.toGood hab hb hg hl2)]
  obtain ⟨x, h1, h2, h3, h4, h5, h6⟩ := kept_start hF ha (by simpa using hd) hab hb hg hl2
  simp only
  rw [h1]
  simp only [Int.toNat_natCast]
  obtain ⟨k, hk⟩ : ∃ k, keptGo a (sameB a b 0) (cutA F 0 s) = k := ⟨_, rfl⟩
  have hnx := fun p h => keptGo_next (a := a) (same := sameB a b 0) (l := cutA F 0 s) (p := p) h
  rw [hk] at h4 h5 h6 hnx ⊢
  by_cases h0 : s = []
  · subst h0
    have : t = [] := List.eq_nil_of_length_eq_zero (by simpa using hl)
    subst this
    have hb0 : b = 0 := by simpa using hb
    have hx0 : x = 0 := by simpa using h3
    subst hb0 hx0
    show (againGo F [] _ _ 0 (0 + 1) 0 _ 0).2 ≤ 1
    rw [again_stop (F := F) (t := []) (old := cutA F 0 []) (b := ((0 : Nat) : Int)) (g := 0) (f := 0) (x := 0) (out := (cutA F 0 []).take k) (n := 0) (Int.le_refl _) (.inl rfl)]
    omega
  have hbd : x = t.length ∨ idxI ((x : Int) - 0) (cutA F 0 s) ≠ none := by
    by_cases hlt : k < (cutA F 0 s).length
    · obtain ⟨p, hp, e, _⟩ := h5 hlt
      exact .inr (idxI_is hp (by omega))
    · exact .inl (h6 hlt h0)
  by_cases hbx : b ≤ x
  · rw [again_stop (by omega) hbd]; omega
  · have hlt : k < (cutA F 0 s).length := by
      by_cases hlt : k < (cutA F 0 s).length
      · exact hlt
      · have := h6 hlt h0; omega
    obtain ⟨p, hp, e, e2⟩ := h5 hlt
    have hxt : x < t.length := by omega
    have hne : t.drop x ≠ [] := by
      intro e
      have := congrArg List.length e
      rw [List.length_drop, List.length_nil] at this
      omega
    have q1 := hF.pos _ hne
    obtain ⟨f, hf⟩ : ∃ f, t.length - x + 1 = f + 1 + 1 := ⟨t.length - x - 1, by omega⟩
    rw [hf, againGo, if_neg (by omega)]
    simp only [if_neg (show ¬ (b : Int) ≤ (x : Int) by omega)]
    have hfs := hF2 x h2
    rw [hfs] at q1 ⊢
    have hge : b ≤ x + F (s.drop x) := by
      rcases hnx p hp with h | h
      · omega
      · have := cutA_end_all hF.toGood s
        have e3 := take_snoc_of hp
        rw [h.1, List.take_length] at e3
        rw [e3, endOf_snoc] at this
        omega
    rw [again_stop (by omega)]
    · omega
    · rcases cutA_succ hF.toGood hp with h | ⟨q, hq, e3⟩
      · left; omega
      · exact .inr (idxI_is hq (by omega))
/-- Pieces ahead of a change stay. -/
theorem cut_ahead {F : List UInt8 → Nat} (hF : Best F) {s t : List UInt8} {a : Nat} (ha : t.take a = s.take a) {i : Nat} {p : Int × Int} (hi : i + 1 < (cutA F 0 s).length) (hp : (cutA F 0 s)[i]? = some p) (hpa : p.2 ≤ a) : (cutA F 0 t)[i]? = some p := by
  obtain ⟨q, hq⟩ : ∃ q, (cutA F 0 s)[i + 1]? = some q := ⟨_, List.getElem?_eq_getElem hi⟩
  obtain ⟨x, g1, g2, _⟩ := cutA_at hF.toGood (i + 1) 0 s q hq
  have h1 := cutA_end hF.toGood hq
  rw [take_snoc_of hp, endOf_snoc] at h1
  have hx : x ≤ a := by omega
  have h3 := cut_pre hF (i + 1) 0 s q x hq g2 (t.drop x)
  have h2 : t.take x = s.take x := by
    have := congrArg (List.take x) ha
    rw [List.take_take, List.take_take, Nat.min_eq_left hx] at this
    exact this
  rw [← h2, List.take_append_drop] at h3
  rw [h3, List.getElem?_append_left (by rw [List.length_take]; omega), List.getElem?_take, if_pos (by omega)]
  exact hp
end Go.Proofs.Ytkhfecgmkhjpiaa
