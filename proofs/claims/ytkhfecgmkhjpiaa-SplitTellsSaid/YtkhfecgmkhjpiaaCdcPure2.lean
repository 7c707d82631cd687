/- Where a piece ends hangs on its own bytes; cuts of a text that is cut at a cut. -/
import Derived.Test.YtkhfecgmkhjpiaaCdcPure
namespace Go.Proofs.Ytkhfecgmkhjpiaa
set_option linter.unusedVariables false

theorem firstGo_own (b h s : Int) (r : List UInt8) : ∀ (k : Nat) (x : Int), firstGo b h s k x (r.take (firstGo b h s k x r - k)) = firstGo b h s k x r := by
  induction r with
  | nil => intro k x; simp [firstGo]
  | cons y r ih =>
    intro k x
    by_cases hs : stopB b h s k (roll1 x y) = true
    · simp [firstGo, hs]
    · have hge := firstGo_ge b h s r (k + 1) (roll1 x y)
      have e : firstGo b h s k x (y :: r) = firstGo b h s (k + 1) (roll1 x y) r := by rw [firstGo, if_neg hs]
      rw [e]
      obtain ⟨m, hm⟩ : ∃ m, firstGo b h s (k + 1) (roll1 x y) r - k = m + 1 := ⟨firstGo b h s (k + 1) (roll1 x y) r - k - 1, by omega⟩
      rw [hm, List.take_succ_cons, firstGo, if_neg hs]
      have := ih (k + 1) (roll1 x y)
      rw [show firstGo b h s (k + 1) (roll1 x y) r - (k + 1) = m by omega] at this
      exact this
theorem firstGo_more (b h s : Int) (r r2 : List UInt8) : ∀ (k : Nat) (x : Int), firstGo b h s k x r < k + r.length → firstGo b h s k x (r.take (firstGo b h s k x r - k) ++ r2) = firstGo b h s k x r := by
  induction r with
  | nil => intro k x hl; simp [firstGo] at hl
  | cons y r ih =>
    intro k x hl
    by_cases hs : stopB b h s k (roll1 x y) = true
    · simp [firstGo, hs]
    · have hge := firstGo_ge b h s r (k + 1) (roll1 x y)
      have e : firstGo b h s k x (y :: r) = firstGo b h s (k + 1) (roll1 x y) r := by rw [firstGo, if_neg hs]
      rw [e] at hl ⊢
      obtain ⟨m, hm⟩ : ∃ m, firstGo b h s (k + 1) (roll1 x y) r - k = m + 1 := ⟨firstGo b h s (k + 1) (roll1 x y) r - k - 1, by omega⟩
      rw [hm, List.take_succ_cons, List.cons_append, firstGo, if_neg hs]
      have := ih (k + 1) (roll1 x y) (by rw [List.length_cons] at hl; omega)
      rw [show firstGo b h s (k + 1) (roll1 x y) r - (k + 1) = m by omega] at this
      exact this
theorem firstGo_pos (b h s : Int) {r : List UInt8} (h0 : r ≠ []) (k : Nat) (x : Int) : k + 1 ≤ firstGo b h s k x r := by
  obtain ⟨y, r, rfl⟩ := List.exists_cons_of_ne_nil h0
  rw [firstGo]
  split
  · omega
  · exact firstGo_ge _ _ _ _ _ _

theorem firstN_own (a b c h s : Int) (l : List UInt8) : firstN a b c h s (l.take (firstN a b c h s l)) = firstN a b c h s l := by
  by_cases hc : validB a b c h s = true ∧ a < l.length
  case neg =>
    have e : firstN a b c h s l = l.length := by rw [firstN, if_neg hc]
    rw [e, List.take_length, e]
  have hv := valid_bounds hc.1
  have e : firstN a b c h s l = firstGo b h s a.toNat 0 ((l.take c.toNat).drop a.toNat) := by rw [firstN, if_pos hc]
  have hge := firstGo_ge b h s ((l.take c.toNat).drop a.toNat) a.toNat 0
  have hle := firstGo_le b h s ((l.take c.toNat).drop a.toNat) a.toNat 0
  have hown := firstGo_own b h s ((l.take c.toNat).drop a.toNat) a.toNat 0
  rw [← e] at hge hle hown
  rw [List.length_drop, List.length_take] at hle
  generalize hn : firstN a b c h s l = n at *
  have hl : (l.take n).length = n := by rw [List.length_take]; omega
  by_cases ha : a < (n : Int)
  · rw [firstN, if_pos ⟨hc.1, by rw [hl]; exact ha⟩, List.take_take, Nat.min_eq_right (by omega)]
    rw [← List.drop_take, List.take_take, Nat.min_eq_left (by omega)] at hown
    have : a.toNat + (n - a.toNat) = n := by omega
    first | exact hown | (rw [show n - a.toNat + a.toNat = n by omega] at hown; exact hown) | (rw [this] at hown; exact hown)
  · rw [firstN, if_neg (by rw [hl]; exact fun h => ha h.2), hl]
theorem firstN_more (a b c h s : Int) (l r : List UInt8) (hlt : firstN a b c h s l < l.length) : firstN a b c h s (l.take (firstN a b c h s l) ++ r) = firstN a b c h s l := by
  by_cases hc : validB a b c h s = true ∧ a < l.length
  case neg => rw [firstN, if_neg hc] at hlt; omega
  have hv := valid_bounds hc.1
  have e : firstN a b c h s l = firstGo b h s a.toNat 0 ((l.take c.toNat).drop a.toNat) := by rw [firstN, if_pos hc]
  have hge := firstGo_ge b h s ((l.take c.toNat).drop a.toNat) a.toNat 0
  have hle := firstGo_le b h s ((l.take c.toNat).drop a.toNat) a.toNat 0
  have hown := fun r2 => firstGo_more b h s ((l.take c.toNat).drop a.toNat) r2 a.toNat 0
  have hpos : (l.take c.toNat).drop a.toNat ≠ [] → a.toNat + 1 ≤ firstN a b c h s l := fun h0 => by rw [e]; exact firstGo_pos b h s h0 _ _
  rw [← e] at hge hle hown
  rw [List.length_drop, List.length_take] at hle hown
  generalize hn : firstN a b c h s l = n at *
  have hl : (l.take n).length = n := by rw [List.length_take]; omega
  have hll : (l.take n ++ r).length = n + r.length := by rw [List.length_append, hl]
  by_cases ha : a < ((l.take n ++ r).length : Int)
  · rw [firstN, if_pos ⟨hc.1, ha⟩]
    by_cases hnc : n = c.toNat
    · have e2 : (l.take n ++ r).take c.toNat = l.take c.toNat := by
        rw [List.take_append_of_le_length (by omega), List.take_take, Nat.min_eq_left (by omega)]
      rw [e2]; exact e.symm
    · have h1 := hown (r.take (c.toNat - n)) (by omega)
      have e2 : ((l.take n ++ r).take c.toNat).drop a.toNat = ((l.take c.toNat).drop a.toNat).take (n - a.toNat) ++ r.take (c.toNat - n) := by
        rw [List.take_append, hl, List.take_of_length_le (by omega), List.drop_append, hl, show a.toNat - n = 0 by omega, List.drop_zero]
        congr 1
        rw [← List.drop_take, List.take_take]
        congr 2
        omega
      rw [e2]; exact h1
  · rw [firstN, if_neg (fun h => ha h.2), hll]
    have h3 : r.length = 0 := by
      by_cases h0 : (l.take c.toNat).drop a.toNat = []
      · rw [hll] at ha; omega
      · have := hpos h0; rw [hll] at ha; omega
    rw [h3]; rfl

/-- Two ways to say more of a way to tell first pieces. -/
structure Best (F : List UInt8 → Nat) : Prop extends Good F where
  own : ∀ l, F (l.take (F l)) = F l
  more : ∀ l r, F l < l.length → F (l.take (F l) ++ r) = F l
theorem best_first (a b c h s : Int) : Best (firstN a b c h s) := ⟨good_first a b c h s, firstN_own a b c h s, firstN_more a b c h s⟩

theorem cutA_shift {F : List UInt8 → Nat} (hF : Good F) (y : Nat) : ∀ (n k : Nat) (l : List UInt8), l.length ≤ n → cutA F (k + y) l = (cutA F k l).map fun p => (p.1 + (y : Int), p.2 + (y : Int)) := by
  intro n
  induction n with
  | zero => intro k l hl; obtain rfl : l = [] := List.eq_nil_of_length_eq_zero (by omega); rfl
  | succ n ih =>
    intro k l hl
    by_cases h0 : l = []
    · subst h0; rfl
    · have h1 := hF.pos l h0
      have h2 := hF.le l
      rw [cutA_cons hF _ h0, cutA_cons hF _ h0, List.map_cons]
      have := ih (k + F l) (l.drop (F l)) (by rw [List.length_drop]; omega)
      rw [show k + y + F l = k + F l + y by omega, this]
      congr 1

theorem cut_pre {F : List UInt8 → Nat} (hF : Best F) : ∀ (i k : Nat) (l : List UInt8) (p : Int × Int) (y : Nat), (cutA F k l)[i]? = some p → p.1 = ((k + y : Nat) : Int) → ∀ r, cutA F k (l.take y ++ r) = (cutA F k l).take i ++ cutA F (k + y) r := by
  intro i
  induction i with
  | zero =>
    intro k l p y hp hy r
    obtain ⟨x, _, g2, _, _, _, _, _, g8⟩ := cutA_at hF.toGood 0 k l p hp
    obtain rfl : y = 0 := by have := g8.2 rfl; omega
    simp
  | succ i ih =>
    intro k l p y hp hy r
    have hlen : i + 1 < (cutA F k l).length := (List.getElem?_eq_some_iff.1 hp).1
    by_cases h0 : l = []
    · subst h0; simp [cutA_nil] at hp
    · have h1 := hF.pos l h0
      have h2 := hF.le l
      have e := cutA_cons hF.toGood k h0
      rw [e, List.getElem?_cons_succ] at hp
      rw [e, List.length_cons] at hlen
      have hd : F l < l.length := by
        have : l.drop (F l) ≠ [] := by intro e2; rw [e2, cutA_nil] at hlen; simp at hlen
        have := List.length_pos_iff.2 this
        rw [List.length_drop] at this
        omega
      obtain ⟨x, _, g2, _, _, _, _, _, _⟩ := cutA_at hF.toGood i _ _ p hp
      have hyx : y = F l + x := by omega
      have ih2 := ih (k + F l) (l.drop (F l)) p x hp g2 r
      have e3 : l.take y ++ r = l.take (F l) ++ ((l.drop (F l)).take x ++ r) := by
        rw [hyx, List.take_add, List.append_assoc]
      have hf := hF.more l ((l.drop (F l)).take x ++ r) hd
      have hne : l.take (F l) ++ ((l.drop (F l)).take x ++ r) ≠ [] := by
        intro e4
        have e5 := congrArg List.length (List.append_eq_nil_iff.1 e4).1
        rw [List.length_take, List.length_nil] at e5
        omega
      rw [e3, cutA_cons hF.toGood k hne, hf, e, List.take_succ_cons, List.cons_append]
      congr 1
      have e5 : (l.take (F l) ++ ((l.drop (F l)).take x ++ r)).drop (F l) = (l.drop (F l)).take x ++ r := by
        rw [List.drop_append_of_le_length (by rw [List.length_take]; omega), List.drop_take_self, List.nil_append]
      rw [e5, ih2, show k + F l + x = k + y by omega]
end Go.Proofs.Ytkhfecgmkhjpiaa
