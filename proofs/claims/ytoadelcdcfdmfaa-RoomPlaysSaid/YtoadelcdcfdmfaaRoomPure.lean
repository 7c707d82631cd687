/- Numbers in their order: put, told apart, counted. -/
import Derived.Test.YtoadelcdcfdmfaaRoom
namespace Go.Proofs.Ytoadelcdcfdmfaa
set_option linter.unusedVariables false

theorem putL_mem (l : List Int) (id x : Int) : x ∈ putL l id ↔ x = id ∨ x ∈ l := by
  have h := List.takeWhile_append_dropWhile (p := fun y => decide (y < id)) (l := l)
  unfold putL
  split
  · rename_i h2
    constructor
    · exact .inr
    · rintro (rfl | h3)
      · rw [← h]
        exact List.mem_append_right _ (List.mem_of_mem_head? h2)
      · exact h3
  · conv => rhs; rw [← h]
    simp only [List.mem_append, List.mem_cons]
    constructor
    · rintro (h1 | h1 | h1)
      · exact .inr (.inl h1)
      · exact .inl h1
      · exact .inr (.inr h1)
    · rintro (h1 | h1 | h1)
      · exact .inr (.inl h1)
      · exact .inl h1
      · exact .inr (.inr h1)
theorem takeWhile_lt (l : List Int) (id : Int) : ∀ x ∈ l.takeWhile (· < id), x < id := by
  induction l with
  | nil => simp
  | cons a r ih =>
    rw [List.takeWhile_cons]
    split
    · rename_i h
      intro x hx
      rcases List.mem_cons.1 hx with rfl | hx
      · simpa using h
      · exact ih x hx
    · simp
theorem dropWhile_ge (l : List Int) (id : Int) (hs : l.Pairwise (· < ·)) : ∀ x ∈ l.dropWhile (· < id), id ≤ x := by
  induction l with
  | nil => simp
  | cons a r ih =>
    rw [List.dropWhile_cons]
    have h2 := List.pairwise_cons.1 hs
    split
    · exact ih h2.2
    · rename_i h
      intro x hx
      have ha : id ≤ a := by simpa using h
      rcases List.mem_cons.1 hx with rfl | hx
      · exact ha
      · have := h2.1 x hx; omega
theorem putL_sorted (l : List Int) (id : Int) (hs : l.Pairwise (· < ·)) : (putL l id).Pairwise (· < ·) := by
  unfold putL
  split
  · exact hs
  · rename_i h2
    have h := List.takeWhile_append_dropWhile (p := fun y => decide (y < id)) (l := l)
    have hsp : (l.takeWhile (fun y => decide (y < id)) ++ l.dropWhile (fun y => decide (y < id))).Pairwise (· < ·) := by rw [h]; exact hs
    rw [List.pairwise_append] at hsp
    obtain ⟨p1, p2, p3⟩ := hsp
    have d1 : ∀ x ∈ l.dropWhile (fun y => decide (y < id)), id < x := by
      intro x hx
      have h3 := dropWhile_ge l id hs x hx
      rcases e : l.dropWhile (fun y => decide (y < id)) with _ | ⟨b, r⟩
      · rw [e] at hx; cases hx
      · rw [e] at hx h2 p2
        have hb : b ≠ id := fun e => h2 (by rw [e]; rfl)
        have hb2 := dropWhile_ge l id hs b (by rw [e]; exact List.mem_cons_self)
        rcases List.mem_cons.1 hx with rfl | hx
        · omega
        · have := (List.pairwise_cons.1 p2).1 x hx; omega
    rw [List.pairwise_append]
    refine ⟨p1, List.pairwise_cons.2 ⟨d1, p2⟩, ?_⟩
    intro x hx y hy
    have hx2 := takeWhile_lt l id x hx
    rcases List.mem_cons.1 hy with rfl | hy
    · exact hx2
    · have := d1 y hy; omega
theorem putL_le (l : List Int) (id : Int) : (putL l id).length ≤ l.length + 1 := by
  unfold putL
  split
  · omega
  · have h := congrArg List.length (List.takeWhile_append_dropWhile (p := fun y => decide (y < id)) (l := l))
    rw [List.length_append] at h ⊢
    rw [List.length_cons]
    omega
/-- Numbers, one by one put at their places. -/
def putN (l : List Int) : List Int := l.foldl putL []
theorem putN_snoc (l : List Int) (x : Int) : putN (l ++ [x]) = putL (putN l) x := by simp [putN, List.foldl_append]
theorem list_rec_snoc {α : Type} {P : List α → Prop} (h0 : P []) (h1 : ∀ l x, P l → P (l ++ [x])) (l : List α) : P l := by
  have : ∀ n, ∀ l : List α, l.length = n → P l := by
    intro n
    induction n with
    | zero => intro l hl; rw [List.eq_nil_of_length_eq_zero hl]; exact h0
    | succ n ih =>
      intro l hl
      have hne : l ≠ [] := by intro e; simp [e] at hl
      rw [← List.dropLast_concat_getLast hne]
      exact h1 _ _ (ih _ (by rw [List.length_dropLast]; omega))
  exact this _ l rfl
theorem putN_mem (l : List Int) (x : Int) : x ∈ putN l ↔ x ∈ l := by
  induction l using list_rec_snoc with
  | h0 => simp [putN]
  | h1 l y ih => rw [putN_snoc, putL_mem, ih]; simp [or_comm]
theorem putN_sorted (l : List Int) : (putN l).Pairwise (· < ·) := by
  induction l using list_rec_snoc with
  | h0 => simp [putN]
  | h1 l y ih => rw [putN_snoc]; exact putL_sorted _ _ ih
theorem putN_le (l : List Int) : (putN l).length ≤ l.length := by
  induction l using list_rec_snoc with
  | h0 => simp [putN]
  | h1 l y ih => rw [putN_snoc, List.length_append]; have := putL_le (putN l) y; simp; omega

/-- Two lists that rise and have the same in them are one. -/
theorem sorted_ext : ∀ (l m : List Int), l.Pairwise (· < ·) → m.Pairwise (· < ·) → (∀ x, x ∈ l ↔ x ∈ m) → l = m
  | [], [], _, _, _ => rfl
  | [], b :: m, _, _, h => absurd ((h b).2 List.mem_cons_self) (by simp)
  | a :: l, [], _, _, h => absurd ((h a).1 List.mem_cons_self) (by simp)
  | a :: l, b :: m, h1, h2, h => by
    have p1 := List.pairwise_cons.1 h1
    have p2 := List.pairwise_cons.1 h2
    have e : a = b := by
      have ha := List.mem_cons.1 ((h a).1 List.mem_cons_self)
      have hb := List.mem_cons.1 ((h b).2 List.mem_cons_self)
      rcases ha with ha | ha
      · exact ha
      · rcases hb with hb | hb
        · exact hb.symm
        · have := p1.1 b hb; have := p2.1 a ha; omega
    subst e
    rw [sorted_ext l m p1.2 p2.2 fun x => ?_]
    constructor
    · intro hx
      have := List.mem_cons.1 ((h x).1 (List.mem_cons_of_mem _ hx))
      have := p1.1 x hx
      rcases ‹x = a ∨ x ∈ m› with e | e
      · omega
      · exact e
    · intro hx
      have := List.mem_cons.1 ((h x).2 (List.mem_cons_of_mem _ hx))
      have := p2.1 x hx
      rcases ‹x = a ∨ x ∈ l› with e | e
      · omega
      · exact e

theorem idsL_mem (f : Nat → Bool) (n : Nat) (x : Int) : x ∈ idsL f n ↔ ∃ j : Nat, j < n ∧ x = (j : Int) ∧ f j = true := by
  simp only [idsL, List.mem_map, List.mem_filter, List.mem_range]
  constructor
  · rintro ⟨j, ⟨h1, h2⟩, rfl⟩; exact ⟨j, h1, rfl, h2⟩
  · rintro ⟨j, h1, rfl, h2⟩; exact ⟨j, ⟨h1, h2⟩, rfl⟩
theorem idsL_sorted (f : Nat → Bool) (n : Nat) : (idsL f n).Pairwise (· < ·) := by
  induction n with
  | zero => simp [idsL]
  | succ n ih =>
    rw [idsL_succ]
    split
    · rw [List.pairwise_append]
      refine ⟨ih, by simp, ?_⟩
      intro x hx y hy
      obtain ⟨j, hj, rfl, _⟩ := (idsL_mem f n x).1 hx
      rw [List.mem_singleton] at hy
      omega
    · exact ih
theorem idsL_compl (f : Nat → Bool) (n : Nat) : (idsL f n).length + (idsL (fun j => !f j) n).length = n := by
  induction n with
  | zero => simp [idsL]
  | succ n ih =>
    rw [idsL_succ, idsL_succ]
    cases h : f n <;> simp [h] <;> omega
theorem idsL_congr {f g : Nat → Bool} {n : Nat} (h : ∀ j, j < n → f j = g j) : idsL f n = idsL g n := by
  unfold idsL
  congr 1
  apply List.filter_congr
  intro j hj
  exact h j (List.mem_range.1 hj)
/-- What is in a list that rises within n is what its flags tell. -/
theorem idsL_of (l : List Int) (n : Nat) (hs : l.Pairwise (· < ·)) (hin : ∀ x ∈ l, 0 ≤ x ∧ x < (n : Int)) : idsL (fun j => decide ((j : Int) ∈ l)) n = l := by
  refine sorted_ext _ _ (idsL_sorted _ _) hs fun x => ?_
  rw [idsL_mem]
  constructor
  · rintro ⟨j, _, rfl, h⟩; simpa using h
  · intro hx
    obtain ⟨h0, h1⟩ := hin x hx
    exact ⟨x.toNat, by omega, by omega, by rw [decide_eq_true_eq, Int.toNat_of_nonneg h0]; exact hx⟩
/-- The first k of a list that rises are those before its k-th. -/
theorem take_of_sorted (l : List Int) (hs : l.Pairwise (· < ·)) (k : Nat) (y : Int) (hk : l[k]? = some y) (x : Int) : x ∈ l.take k ↔ x ∈ l ∧ x < y := by
  have e : l = l.take k ++ y :: l.drop (k + 1) := by
    have h1 := (List.getElem?_eq_some_iff.1 hk).1
    have h2 := (List.getElem?_eq_some_iff.1 hk).2
    conv => lhs; rw [← List.take_append_drop k l, List.drop_eq_getElem_cons h1, h2]
  have hs2 : (l.take k ++ y :: l.drop (k + 1)).Pairwise (· < ·) := by rw [← e]; exact hs
  rw [List.pairwise_append] at hs2
  obtain ⟨_, p2, p3⟩ := hs2
  have p4 := (List.pairwise_cons.1 p2).1
  constructor
  · intro hx
    exact ⟨List.mem_of_mem_take hx, p3 x hx y List.mem_cons_self⟩
  · rintro ⟨hx, hlt⟩
    rw [e] at hx
    rcases List.mem_append.1 hx with h | h
    · exact h
    · rcases List.mem_cons.1 h with h | h
      · omega
      · have := p4 x h; omega
theorem giveL_all (n : Nat) : ∀ (l : List Int) (f : Nat → Bool) (c : Nat), l.Pairwise (· < ·) → (∀ x ∈ l, 0 ≤ x ∧ x < (n : Int) ∧ f x.toNat = true) →
    (giveL n l (f, c)).2 = c + l.length ∧ ∀ j : Nat, (giveL n l (f, c)).1 j = (f j && !decide ((j : Int) ∈ l))
  | [], f, c, _, _ => by simp [giveL]
  | x :: l, f, c, hs, hin => by
    have p := List.pairwise_cons.1 hs
    obtain ⟨h0, h1, h2⟩ := hin x List.mem_cons_self
    have e : (decide (0 ≤ x ∧ x < (n : Int)) && f x.toNat) = true := by rw [decide_eq_true ⟨h0, h1⟩, h2]; rfl
    obtain ⟨i1, i2⟩ := giveL_all n l (upd f x.toNat false) (c + 1) p.2 (fun y hy => by
      obtain ⟨y0, y1, y2⟩ := hin y (List.mem_cons_of_mem _ hy)
      have := p.1 y hy
      exact ⟨y0, y1, by unfold upd; rw [if_neg (by omega)]; exact y2⟩)
    rw [giveL, if_pos e]
    refine ⟨by rw [i1, List.length_cons]; omega, fun j => ?_⟩
    rw [i2]
    by_cases hj : (j : Int) = x
    · have hj2 : j = x.toNat := by omega
      have : decide ((j : Int) ∈ x :: l) = true := by rw [hj]; simp
      rw [this]
      unfold upd
      rw [if_pos hj2]
      simp
    · have hj2 : ¬ j = x.toNat := by omega
      have : decide ((j : Int) ∈ x :: l) = decide ((j : Int) ∈ l) := by simp [hj]
      rw [this]
      unfold upd
      rw [if_neg hj2]
theorem giveL_out (n : Nat) (f : Nat → Bool) (c : Nat) : giveL n [-1, (n : Int)] (f, c) = (f, c) := by
  have e1 : (decide ((0 : Int) ≤ -1 ∧ (-1 : Int) < (n : Int)) && f (-1 : Int).toNat) = false := by rw [decide_eq_false (by omega)]; rfl
  have e2 : (decide ((0 : Int) ≤ (n : Int) ∧ (n : Int) < (n : Int)) && f (n : Int).toNat) = false := by rw [decide_eq_false (by omega)]; rfl
  rw [giveL, e1, if_neg (by simp), giveL, e2, if_neg (by simp), giveL]
end Go.Proofs.Ytoadelcdcfdmfaa
