/- The laws of chapter 13: each returns true at every input; what was handed in is as it was. -/
import Derived.Test.YtkhfecgmkhjpiaaFixed
namespace Go.Proofs.Ytkhfecgmkhjpiaa
open Go.RowKit
set_option linter.unusedVariables false

set_option maxHeartbeats 1600000 in
theorem fixedAlive_calls (w : World) :
    Calls Try.prog 12 #[] w fun e w' => e = .returned (.bool true) ∧ Below w.heap.size w w' := by
  have ht : totalLen [⟨#[97, 98]⟩, ⟨#[99, 100, 101]⟩] = 5 := by decide
  have hr := rowAt_alloc w (scells [⟨#[97, 98]⟩, ⟨#[99, 100, 101]⟩]) 9
  have HC := Lib.hid (cut_calls 4 (some ⟨w.heap.size, 0, none⟩) 2 2 [⟨#[97, 98]⟩, ⟨#[99, 100, 101]⟩] (w.alloc (.cells (scells [⟨#[97, 98]⟩, ⟨#[99, 100, 101]⟩]).toArray 9)) (by omega) rfl (by omega) (by rw [ht]; omega) hr)
  clear hr
  rw [ht] at HC
  have hz : fixedZ 4 5 = [(0, 4), (4, 5)] := by decide
  rw [hz] at HC
  clear ht hz
  go_enter Try.func12, Try.ntmps12
  go_wp2_with fail
  refine Calls.mono HC.out ?_
  rintro e w1 ⟨v, rfl, hown, hb⟩
  obtain ⟨g, cap, rfl, hgb, hgl, hcap, hrow⟩ := hown.form (by simp)
  obtain ⟨b, o, e, _, h1, h2⟩ := pair_at (k := 0) hrow rfl
  obtain ⟨b', o', e', _, h3, h4⟩ := pair_at (k := 1) hrow rfl
  simp only [Option.some.injEq, Addr.mk.injEq, and_true] at e e'
  obtain ⟨rfl, rfl⟩ := e
  obtain ⟨rfl, rfl⟩ := e'
  simp only [Nat.zero_mul, Nat.zero_add, Nat.one_mul] at h1 h2 h3 h4
  have HB := Lib.hid (below_trans' ((Below.refl _ _).alloc (Nat.le_refl _) _) hb); clear hb
  have HW := Lib.hid (whole_calls 5 _ 2 cap [(0, 4), (4, 5)] w1 (by omega) rfl hrow)
  have hw : wholeB 5 [(0, 4), (4, 5)] = true := by decide
  rw [hw] at HW
  clear hown hrow hw HC
  go_wp2_with (go_at_call 20; refine Calls.mono HW.out ?_; rintro e w2 ⟨rfl, hb2⟩; have HB2 := Lib.hid (below_trans' HB.out hb2); clear hb2)
  go_ret
  exact ⟨rfl, HB2.out⟩

/-- Spans that rise. -/
def Rising (l : List (Int × Int)) : Prop := (∀ (i : Nat) p, l[i]? = some p → p.1 < p.2) ∧ ∀ (i j : Nat) p q, i ≤ j → l[i]? = some p → l[j]? = some q → p.1 ≤ q.1 ∧ p.2 ≤ q.2
structure TouchInv (a b : Int) (l : List (Int × Int)) (k : Nat) (r : Int × Int) : Prop where
  lo : 0 ≤ r.1
  le : r.1 ≤ r.2
  hi : r.2 ≤ k
  mid : r.2 ≠ 0 → r.1 < r.2
  nil : r.2 = 0 → r.1 = 0
  all : ∀ (i : Nat) p, i < k → l[i]? = some p → (hits a b p ↔ r.1 ≤ i ∧ (i : Int) < r.2)
theorem hits_iff {a b : Int} {p : Int × Int} (h : p.1 < p.2) : hits a b p ↔ a < b ∧ p.1 < b ∧ a < p.2 := by
  unfold hits; omega
theorem touch_step {a b : Int} {l : List (Int × Int)} (hl : Rising l) {k : Nat} {p : Int × Int} (hk : l[k]? = some p) {r : Int × Int} (h : TouchInv a b l k r) :
    TouchInv a b l (k + 1) (if hits a b p then (if r.2 = 0 then (k : Int) else r.1, (k : Int) + 1) else r) := by
  obtain ⟨f, g⟩ := r
  obtain ⟨h1, h2, h3, h4, h5, h6⟩ := h
  simp only at *
  have hp := hl.1 k p hk
  by_cases c : hits a b p
  · rw [if_pos c]
    by_cases g0 : g = 0
    · rw [if_pos g0]
      refine ⟨by simp only; omega, by simp only; omega, by simp only; omega, by simp only; omega, by simp only; omega, fun i q hi hq => ?_⟩
      simp only
      rcases Nat.lt_or_ge i k with hik | hik
      · rw [h6 i q hik hq]; omega
      · obtain rfl : i = k := by omega
        rw [hk] at hq; injection hq with hq; subst hq
        exact ⟨fun _ => by omega, fun _ => c⟩
    · rw [if_neg g0]
      have hfg := h4 g0
      refine ⟨by simp only; omega, by simp only; omega, by simp only; omega, by simp only; omega, by simp only; omega, fun i q hi hq => ?_⟩
      simp only
      rcases Nat.lt_or_ge i k with hik | hik
      · rw [h6 i q hik hq]
        constructor
        · intro h; omega
        · intro h
          refine ⟨h.1, ?_⟩
          by_cases hig : (i : Int) < g
          · exact hig
          · exfalso
            have hfk : f.toNat < k := by omega
            have hlen : k < l.length := (List.getElem?_eq_some_iff.1 hk).1
            obtain ⟨pf, hpf⟩ := some_at (l := l) (k := f.toNat) (by omega)
            have hf := (h6 f.toNat pf hfk hpf).2 (by omega)
            have hi' := (h6 i q hik hq)
            have m1 := hl.2 f.toNat i pf q (by omega) hpf hq
            have m2 := hl.2 i k q p (by omega) hq hk
            have := hl.1 i q hq
            have := hl.1 _ pf hpf
            rw [hits_iff (by assumption)] at hf
            rw [hits_iff hp] at c
            have : hits a b q := by rw [hits_iff (by assumption)]; omega
            exact hig (hi'.1 this).2
      · obtain rfl : i = k := by omega
        rw [hk] at hq; injection hq with hq; subst hq
        exact ⟨fun _ => by omega, fun _ => c⟩
  · rw [if_neg c]
    refine ⟨h1, h2, by simp only; omega, h4, h5, fun i q hi hq => ?_⟩
    simp only
    rcases Nat.lt_or_ge i k with hik | hik
    · exact h6 i q hik hq
    · obtain rfl : i = k := by omega
      rw [hk] at hq; injection hq with hq; subst hq
      exact ⟨fun h => absurd h c, fun h => by omega⟩
theorem touch_inv {a b : Int} {l : List (Int × Int)} (hl : Rising l) : ∀ (m : Nat) (k : Nat) (r : Int × Int), l.length - k = m → k ≤ l.length → TouchInv a b l k r → TouchInv a b l l.length (touchGo a b k (l.drop k) r) := by
  intro m
  induction m with
  | zero =>
    intro k r hm hk h
    obtain rfl : k = l.length := by omega
    rw [List.drop_length]; exact h
  | succ m ih =>
    intro k r hm hk h
    obtain ⟨p, hp⟩ := some_at (l := l) (k := k) (by omega)
    rw [drop_of_at hp]
    exact ih (k + 1) _ (by omega) (by omega) (touch_step hl hp h)
theorem touch_ok (a b : Int) {l : List (Int × Int)} (hl : Rising l) : TouchInv a b l l.length (touch a b l) :=
  touch_inv hl l.length 0 (0, 0) (by omega) (by omega) ⟨by simp, by simp, by simp, by simp, by simp, fun i p hi => by omega⟩

def stepN (x : Int) : Int := 1 + (x.tmod 50 + 50) % 50
theorem tmod50 (x : Int) : -49 ≤ x.tmod 50 ∧ x.tmod 50 ≤ 49 := by
  have := Int.tmod_lt_of_pos x (show (0 : Int) < 50 by omega)
  have := Int.lt_tmod_of_pos x (show (0 : Int) < 50 by omega)
  omega
theorem stepN_range (x : Int) : 1 ≤ stepN x ∧ stepN x ≤ 50 := by
  have := tmod50 x; unfold stepN; omega
def offs (l : List Int) : Int := (l.map stepN).sum
theorem offs_snoc (l : List Int) (x : Int) : offs (l ++ [x]) = offs l + stepN x := by simp [offs, List.sum_append]
theorem offs_range (l : List Int) : 0 ≤ offs l ∧ offs l ≤ 50 * l.length := by
  induction l with
  | nil => simp [offs]
  | cons x l ih =>
    have := stepN_range x
    simp only [offs, List.map_cons, List.sum_cons, List.length_cons] at *
    omega
def spansL (l : List Int) : List (Int × Int) := (List.range l.length).map fun i => (offs (l.take i), offs (l.take (i + 1)))
theorem spansL_length (l : List Int) : (spansL l).length = l.length := by simp [spansL]
theorem spansL_at {l : List Int} {k : Nat} (h : k < l.length) : (spansL l)[k]? = some (offs (l.take k), offs (l.take (k + 1))) := by simp [spansL, h]
theorem offs_take_le (l : List Int) {i j : Nat} (h : i ≤ j) : offs (l.take i) ≤ offs (l.take j) := by
  have e : l.take j = l.take i ++ (l.take j).drop i := by
    conv => lhs; rw [← List.take_append_drop i (l.take j)]
    rw [List.take_take, Nat.min_eq_left h]
  rw [e]
  have : offs (l.take i ++ (l.take j).drop i) = offs (l.take i) + offs ((l.take j).drop i) := by simp only [offs, List.map_append, List.sum_append]
  have := (offs_range ((l.take j).drop i)).1
  omega
theorem spansL_rising (l : List Int) : Rising (spansL l) := by
  refine ⟨fun i p hp => ?_, fun i j p q hij hp hq => ?_⟩
  · have hi : i < l.length := by rw [← spansL_length l]; exact (List.getElem?_eq_some_iff.1 hp).1
    rw [spansL_at hi] at hp
    injection hp with hp
    subst hp
    obtain ⟨x, hx⟩ := some_at hi
    simp only
    rw [take_snoc_of hx, offs_snoc]
    have := stepN_range x
    omega
  · have hi : i < l.length := by rw [← spansL_length l]; exact (List.getElem?_eq_some_iff.1 hp).1
    have hj : j < l.length := by rw [← spansL_length l]; exact (List.getElem?_eq_some_iff.1 hq).1
    rw [spansL_at hi] at hp
    rw [spansL_at hj] at hq
    injection hp with hp
    injection hq with hq
    subst hp hq
    exact ⟨offs_take_le l hij, offs_take_le l (by omega)⟩

end Go.Proofs.Ytkhfecgmkhjpiaa
