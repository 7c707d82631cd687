/- The laws of chapter 13: each returns true at every input; what was handed in is as it was. -/
import Derived.Test.YtoojbddnbeachaaFixed
namespace Go.Proofs.Ytoojbddnbeachaa
open Go.RowKit

set_option maxHeartbeats 1600000 in
theorem fixedAlive_calls (w : World) :
    Calls Try.prog 24 #[] w fun e w' => e = .returned (.bool true) ∧ Below w.heap.size w w' := by
  have ht : totalLen [⟨#[97, 98]⟩, ⟨#[99, 100, 101]⟩] = 5 := by decide
  have hr := rowAt_alloc w (scells [⟨#[97, 98]⟩, ⟨#[99, 100, 101]⟩]) 9
  have HC := Lib.hid (cut_calls 4 (some ⟨w.heap.size, 0, none⟩) 2 2 [⟨#[97, 98]⟩, ⟨#[99, 100, 101]⟩] (w.alloc (.cells (scells [⟨#[97, 98]⟩, ⟨#[99, 100, 101]⟩]).toArray 9)) (by omega) rfl (by omega) (by rw [ht]; omega) hr)
  clear hr
  rw [ht] at HC
  have hz : fixedZ 4 5 = [(0, 4), (4, 5)] := by decide
  rw [hz] at HC
  clear ht hz
  go_enter Try.func24, Try.ntmps24
  go_wp2_with fail
  refine Calls.mono HC.out ?_
  rintro e w1 ⟨v, rfl, hown, hb⟩
  obtain ⟨g, cap, rfl, hgb, hgl, hcap, hrow⟩ := hown.form (by simp)
  obtain ⟨b, o, e, _, h1, h2⟩ := pair_at (k := 0) hrow rfl
  obtain ⟨b', o', e', _, h3, h4⟩ := pair_at (k := 1) hrow rfl
  simp only [Option.some.injEq, Addr.mk.injEq, and_true] at e e'
  obtain ⟨rfl, rfl⟩ := e
  obtain ⟨rfl, rfl⟩ := e'
  simp only [Nat.zero_mul, Nat.zero_add, Nat.one_mul] at h1 h2 h3 h4
  have HB := Lib.hid (below_trans' ((Below.refl _ _).alloc (Nat.le_refl _) _) hb); clear hb
  have HW := Lib.hid (whole_calls 5 _ 2 cap [(0, 4), (4, 5)] w1 (by omega) rfl hrow)
  have hw : wholeB 5 [(0, 4), (4, 5)] = true := by decide
  rw [hw] at HW
  clear hown hrow hw HC
  go_wp2_with (go_at_call 28; refine Calls.mono HW.out ?_; rintro e w2 ⟨rfl, hb2⟩; have HB2 := Lib.hid (below_trans' HB.out hb2); clear hb2)
  go_ret
  exact ⟨rfl, HB2.out⟩

/-- Spans that rise. -/
def Rising (l : List (Int × Int)) : Prop := (∀ (i : Nat) p, l[i]? = some p → p.1 < p.2) ∧ ∀ (i j : Nat) p q, i ≤ j → l[i]? = some p → l[j]? = some q → p.1 ≤ q.1 ∧ p.2 ≤ q.2
structure TouchInv (a b : Int) (l : List (Int × Int)) (k : Nat) (r : Int × Int) : Prop where
  lo : 0 ≤ r.1
  le : r.1 ≤ r.2
  hi : r.2 ≤ k
  mid : r.2 ≠ 0 → r.1 < r.2
  nil : r.2 = 0 → r.1 = 0
  all : ∀ (i : Nat) p, i < k → l[i]? = some p → (hits a b p ↔ r.1 ≤ i ∧ (i : Int) < r.2)
theorem hits_iff {a b : Int} {p : Int × Int} (h : p.1 < p.2) : hits a b p ↔ a < b ∧ p.1 < b ∧ a < p.2 := by
  unfold hits; omega
theorem touch_step {a b : Int} {l : List (Int × Int)} (hl : Rising l) {k : Nat} {p : Int × Int} (hk : l[k]? = some p) {r : Int × Int} (h : TouchInv a b l k r) :
    TouchInv a b l (k + 1) (if hits a b p then (if r.2 = 0 then (k : Int) else r.1, (k : Int) + 1) else r) := by
  obtain ⟨f, g⟩ := r
  obtain ⟨h1, h2, h3, h4, h5, h6⟩ := h
  simp only at *
  have hp := hl.1 k p hk
  by_cases c : hits a b p
  · rw [if_pos c]
    by_cases g0 : g = 0
    · rw [if_pos g0]
      refine ⟨by simp only; omega, by simp only; omega, by simp only; omega, by simp only; omega, by simp only; omega, fun i q hi hq => ?_⟩
      simp only
      rcases Nat.lt_or_ge i k with hik | hik
      · rw [h6 i q hik hq]; omega
      · obtain rfl : i = k := by omega
        rw [hk] at hq; injection hq with hq; subst hq
        exact ⟨fun _ => by omega, fun _ => c⟩
    · rw [if_neg g0]
      have hfg := h4 g0
      refine ⟨by simp only; omega, by simp only; omega, by simp only; omega, by simp only; omega, by simp only; omega, fun i q hi hq => ?_⟩
      simp only
      rcases Nat.lt_or_ge i k with hik | hik
      · rw [h6 i q hik hq]
        constructor
        · intro h; omega
        · intro h
          refine ⟨h.1, ?_⟩
          by_cases hig : (i : Int) < g
          · exact hig
          · exfalso
            have hfk : f.toNat < k := by omega
            have hlen : k < l.length := (List.getElem?_eq_some_iff.1 hk).1
            obtain ⟨pf, hpf⟩ := some_at (l := l) (k := f.toNat) (by omega)
            have hf := (h6 f.toNat pf hfk hpf).2 (by omega)
            have hi' := (h6 i q hik hq)
            have m1 := hl.2 f.toNat i pf q (by omega) hpf hq
            have m2 := hl.2 i k q p (by omega) hq hk
            have := hl.1 i q hq
            have := hl.1 _ pf hpf
            rw [hits_iff (by assumption)] at hf
            rw [hits_iff hp] at c
            have : hits a b q := by rw [hits_iff (by assumption)]; omega
            exact hig (hi'.1 this).2
      · obtain rfl : i = k := by omega
        rw [hk] at hq; injection hq with hq; subst hq
        exact ⟨fun _ => by omega, fun _ => c⟩
  · rw [if_neg c]
    refine ⟨h1, h2, by simp only; omega, h4, h5, fun i q hi hq => ?_⟩
    simp only
    rcases Nat.lt_or_ge i k with hik | hik
    · exact h6 i q hik hq
    · obtain rfl : i = k := by omega
      rw [hk] at hq; injection hq with hq; subst hq
      exact ⟨fun h => absurd h c, fun h => by omega⟩
theorem touch_inv {a b : Int} {l : List (Int × Int)} (hl : Rising l) : ∀ (m : Nat) (k : Nat) (r : Int × Int), l.length - k = m → k ≤ l.length → TouchInv a b l k r → TouchInv a b l l.length (touchGo a b k (l.drop k) r) := by
  intro m
  induction m with
  | zero =>
    intro k r hm hk h
    obtain rfl : k = l.length := by omega
    rw [List.drop_length]; exact h
  | succ m ih =>
    intro k r hm hk h
    obtain ⟨p, hp⟩ := some_at (l := l) (k := k) (by omega)
    rw [drop_of_at hp]
    exact ih (k + 1) _ (by omega) (by omega) (touch_step hl hp h)
theorem touch_ok (a b : Int) {l : List (Int × Int)} (hl : Rising l) : TouchInv a b l l.length (touch a b l) :=
  touch_inv hl l.length 0 (0, 0) (by omega) (by omega) ⟨by simp, by simp, by simp, by simp, by simp, fun i p hi => by omega⟩

def stepN (x : Int) : Int := 1 + (x.tmod 50 + 50) % 50
theorem tmod50 (x : Int) : -49 ≤ x.tmod 50 ∧ x.tmod 50 ≤ 49 := by
  have := Int.tmod_lt_of_pos x (show (0 : Int) < 50 by omega)
  have := Int.lt_tmod_of_pos x (show (0 : Int) < 50 by omega)
  omega
theorem stepN_range (x : Int) : 1 ≤ stepN x ∧ stepN x ≤ 50 := by
  have := tmod50 x; unfold stepN; omega
def offs (l : List Int) : Int := (l.map stepN).sum
theorem offs_snoc (l : List Int) (x : Int) : offs (l ++ [x]) = offs l + stepN x := by simp [offs, List.sum_append]
theorem offs_range (l : List Int) : 0 ≤ offs l ∧ offs l ≤ 50 * l.length := by
  induction l with
  | nil => simp [offs]
  | cons x l ih =>
    have := stepN_range x
    simp only [offs, List.map_cons, List.sum_cons, List.length_cons] at *
    omega
def spansL (l : List Int) : List (Int × Int) := (List.range l.length).map fun i => (offs (l.take i), offs (l.take (i + 1)))
theorem spansL_length (l : List Int) : (spansL l).length = l.length := by simp [spansL]
theorem spansL_at {l : List Int} {k : Nat} (h : k < l.length) : (spansL l)[k]? = some (offs (l.take k), offs (l.take (k + 1))) := by simp [spansL, h]
theorem offs_take_le (l : List Int) {i j : Nat} (h : i ≤ j) : offs (l.take i) ≤ offs (l.take j) := by
  have e : l.take j = l.take i ++ (l.take j).drop i := by
    conv => lhs; rw [← List.take_append_drop i (l.take j)]
    rw [List.take_take, Nat.min_eq_left h]
  rw [e]
  have : offs (l.take i ++ (l.take j).drop i) = offs (l.take i) + offs ((l.take j).drop i) := by simp only [offs, List.map_append, List.sum_append]
  have := (offs_range ((l.take j).drop i)).1
  omega
theorem spansL_rising (l : List Int) : Rising (spansL l) := by
  refine ⟨fun i p hp => ?_, fun i j p q hij hp hq => ?_⟩
  · have hi : i < l.length := by rw [← spansL_length l]; exact (List.getElem?_eq_some_iff.1 hp).1
    rw [spansL_at hi] at hp
    injection hp with hp
    subst hp
    obtain ⟨x, hx⟩ := some_at hi
    simp only
    rw [take_snoc_of hx, offs_snoc]
    have := stepN_range x
    omega
  · have hi : i < l.length := by rw [← spansL_length l]; exact (List.getElem?_eq_some_iff.1 hp).1
    have hj : j < l.length := by rw [← spansL_length l]; exact (List.getElem?_eq_some_iff.1 hq).1
    rw [spansL_at hi] at hp
    rw [spansL_at hj] at hq
    injection hp with hp
    injection hq with hq
    subst hp hq
    exact ⟨offs_take_le l hij, offs_take_le l (by omega)⟩

set_option maxHeartbeats 4000000 in
set_option maxRecDepth 100000 in
theorem fixedTouches_calls (A : Option Addr) (n c : Nat) (l : List Int) (a b : Int) (w : World) (hl : l.length = n) (_hc : n ≤ c) (hn : n * 8 ≤ 140737488351232) (_hs : ∀ x ∈ l, -9223372036854775808 ≤ x ∧ x ≤ 9223372036854775807) (hR : RowAt w A (icells l))
    (_ha : -9223372036854775808 ≤ a ∧ a ≤ 9223372036854775807) (_hb : -9223372036854775808 ≤ b ∧ b ≤ 9223372036854775807) :
    Calls Try.prog 6 #[.slice A n c, .int .i64 a, .int .i64 b] w fun e w' => e = .returned (.bool true) ∧ Below w.heap.size w w' := by
  by_cases hbig : n ≤ 60
  case neg =>
    clear hR
    go_enter Try.func6, Try.ntmps6
    go_wp2_with fail
    refine (fixedAlive_calls _).mono ?_
    rintro e w1 ⟨rfl, hb1⟩
    have HB := Lib.hid hb1; clear hb1
    go_wp2
    go_ret
    exact ⟨rfl, HB.out⟩
  subst hl
  have HR := Lib.hid hR; clear hR
  go_enter Try.func6, Try.ntmps6
  go_wp2_with fail
  refine (fixedAlive_calls _).mono ?_
  rintro e w1 ⟨rfl, hb1⟩
  have HB1 := Lib.hid hb1; clear hb1
  go_wp2
  go_loopw [7, 8, 9] (fun v x i wr => ∃ k : Nat, ∃ p : Int, k ≤ l.length ∧ 0 ≤ p ∧ p ≤ 50 * k ∧ i = .int .i64 k ∧ x = .int .i64 p ∧ Hid (p = offs (l.take k)) ∧ Hid (Own wr w.heap.size 2 v k (pcells ((spansL l).take k))) ∧ Hid (Below w.heap.size w wr)) (fun _ _ i _ => l.length - (intOf i).toNat)
  case atStart => exact ⟨0, 0, Nat.zero_le _, by omega, by omega, rfl, rfl, rfl, Own.nil _ _ _, HB1.out⟩
  case round =>
    obtain ⟨k, p, hk, hp0, hp1, rfl, rfl, HP, HO, HW⟩ := hrel
    by_cases hlt : k < l.length
    · obtain ⟨x, hx⟩ := some_at hlt
      obtain ⟨ad, rfl, hcx⟩ := (HR.out.below HW.out).get (icells_at hx)
      obtain ⟨t, ht⟩ : ∃ t : Int, x.tmod 50 = t := ⟨_, rfl⟩
      have ht1 := tmod50 x
      rw [ht] at ht1
      obtain ⟨q, hq⟩ : ∃ q : Int, (t + 50) % 50 = q := ⟨_, rfl⟩
      have hq0 : 0 ≤ q := by omega
      have hq1 : q ≤ 49 := by omega
      have hst : offs (l.take (k + 1)) = p + (1 + q) := by rw [take_snoc_of hx, offs_snoc, ← HP.out, stepN, ht, hq]
      have HT : Hid (pcells ((spansL l).take (k + 1)) = pcells ((spansL l).take k) ++ [.int .i64 p, .int .i64 (p + (1 + q))]) := by
        rw [Hid, take_snoc_of (spansL_at hlt), pcells_append, hst, ← HP.out]; rfl
      have HST := Lib.hid hst; clear hst hx
      go_wp2_with (at_builtin; refine appO el_spans w.heap.size rfl _ _ rfl rfl (HO.out.alloc _) (news := [.int .i64 p, .int .i64 (p + (1 + q))]) rfl rfl (rowAt_alloc _ [.int .i64 p, .int .i64 (p + (1 + q))] _) (one_pair _ _) (by omega) (by have := HW.out.size; simp; omega) ?_; intro v1 w2 hown1 hg1 _; have HO1 : Hid (Own w2 w.heap.size 2 v1 (k + 1) (pcells ((spansL l).take (k + 1)))) := (by rw [HT.out]; exact hown1); have HB2 : Hid (Below w.heap.size w w2) := Own.grown_below (HO.out.alloc _) (HW.out.alloc HW.out.size _) hg1 (Nat.le_refl _); clear hown1 hg1)
      go_roundw
      case rel => exact ⟨k + 1, p + (1 + q), by omega, by omega, by omega, by go_num, rfl, HST.out.symm, HO1, HB2⟩
      case measure => simp [intOf]; omega
    · have hkl : k = l.length := by omega
      have ho := HO.out
      rw [hkl, ← spansL_length l, List.take_length] at ho
      obtain ⟨B, cap, rfl, hcap, hrow, hnil⟩ := ho.slice
      have HRow := Lib.hid hrow; clear hrow ho hnil HO hkl
      have ti := touch_ok a b (spansL_rising l)
      have HC := Lib.hid (touch_calls B (spansL l).length cap (spansL l) a b wr (by rw [spansL_length]; omega) rfl HRow.out)
      obtain ⟨f, hf⟩ : ∃ f, (touch a b (spansL l)).1 = f := ⟨_, rfl⟩
      obtain ⟨g, hg⟩ : ∃ g, (touch a b (spansL l)).2 = g := ⟨_, rfl⟩
      rw [hf, hg] at HC
      have hlo := ti.lo
      have hle := ti.le
      have hhi := ti.hi
      have hmid := ti.mid
      have hnil := ti.nil
      have hall := ti.all
      clear ti
      rw [hf, hg] at hle
      rw [hf] at hlo
      rw [hg] at hhi
      rw [hf, hg] at hmid hnil
      have HALL : Hid (∀ (i : Nat) p, i < (spansL l).length → (spansL l)[i]? = some p → (hits a b p ↔ f ≤ i ∧ (i : Int) < g)) := by rw [hf, hg] at hall; exact hall
      have HMN : Hid ((g ≠ 0 → f < g) ∧ (g = 0 → f = 0)) := ⟨hmid, hnil⟩
      clear hall hmid hnil hf hg
      have hsl := spansL_length l
      rw [hsl] at HC hhi
      have HSL := Lib.hid hsl; clear hsl
      rw [HSL.out]
      go_wp2_with fail
      refine Calls.mono HC.out ?_
      rintro e w3 ⟨rfl, hb3⟩
      have HB3 := Lib.hid (below_trans' HW.out hb3)
      have HRow3 := Lib.hid (HRow.out.below hb3); clear hb3 HC
      go_wp2
      go_loop [13] (fun i => ∃ k : Nat, k ≤ l.length ∧ i = .int .i64 k) (fun i => l.length - (intOf i).toNat)
      case atStart => exact ⟨0, Nat.zero_le _, rfl⟩
      case round =>
        obtain ⟨j, hj, rfl⟩ := hrel
        by_cases hjl : j < l.length
        · obtain ⟨⟨x, y⟩, hx⟩ := some_at (l := spansL l) (k := j) (by rw [HSL.out]; exact hjl)
          obtain ⟨bk, o, rfl, hbk, h1, h2⟩ := pair_at HRow3.out hx
          have hxy : x < y := (spansL_rising l).1 j _ hx
          have hit := HALL.out j _ (by rw [HSL.out]; exact hjl) hx
          rw [hits_iff hxy] at hit
          clear hx
          simp only at hit h1 h2
          by_cases c1 : a < b
          · by_cases c2 : x < b
            · by_cases c3 : a < y
              · have h4 : f ≤ (j : Int) ∧ (j : Int) < g := hit.1 ⟨c1, c2, c3⟩
                obtain ⟨h4, h5⟩ := h4
                clear hit
                go_wp2
                go_round
                case rel => exact ⟨j + 1, by omega, by go_num⟩
                case measure => simp [intOf]; omega
              · have h4 : ¬ (f ≤ (j : Int) ∧ (j : Int) < g) := fun h => c3 (hit.2 h).2.2
                clear hit
                by_cases h5 : f ≤ (j : Int)
                · have h6 : ¬ (j : Int) < g := fun h => h4 ⟨h5, h⟩
                  clear h4
                  go_wp2
                  go_round
                  case rel => exact ⟨j + 1, by omega, by go_num⟩
                  case measure => simp [intOf]; omega
                · clear h4
                  go_wp2
                  go_round
                  case rel => exact ⟨j + 1, by omega, by go_num⟩
                  case measure => simp [intOf]; omega
            · have h4 : ¬ (f ≤ (j : Int) ∧ (j : Int) < g) := fun h => c2 (hit.2 h).2.1
              clear hit
              by_cases h5 : f ≤ (j : Int)
              · have h6 : ¬ (j : Int) < g := fun h => h4 ⟨h5, h⟩
                clear h4
                go_wp2
                go_round
                case rel => exact ⟨j + 1, by omega, by go_num⟩
                case measure => simp [intOf]; omega
              · clear h4
                go_wp2
                go_round
                case rel => exact ⟨j + 1, by omega, by go_num⟩
                case measure => simp [intOf]; omega
          · have h4 : ¬ (f ≤ (j : Int) ∧ (j : Int) < g) := fun h => c1 (hit.2 h).1
            clear hit
            by_cases h5 : f ≤ (j : Int)
            · have h6 : ¬ (j : Int) < g := fun h => h4 ⟨h5, h⟩
              clear h4
              go_wp2
              go_round
              case rel => exact ⟨j + 1, by omega, by go_num⟩
              case measure => simp [intOf]; omega
            · clear h4
              go_wp2
              go_round
              case rel => exact ⟨j + 1, by omega, by go_num⟩
              case measure => simp [intOf]; omega
        · by_cases h5 : f < g
          · go_wp2
            go_ret
            exact ⟨rfl, HB3.out⟩
          · have hg0 : g = 0 := by
              by_cases hg : g = 0
              · exact hg
              · exact absurd (HMN.out.1 hg) h5
            have hf0 : f = 0 := HMN.out.2 hg0
            subst hg0 hf0
            go_wp2
            go_ret
            exact ⟨rfl, HB3.out⟩

end Go.Proofs.Ytoojbddnbeachaa
