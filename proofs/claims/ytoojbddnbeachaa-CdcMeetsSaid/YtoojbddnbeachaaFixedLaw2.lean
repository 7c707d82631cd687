/- What spans of one length are: whole, and their bytes are the text; the law FixedWhole. -/
import Derived.Test.YtoojbddnbeachaaFixedLaw
import Derived.Test.YtoojbddnbeachaaFixedJoin
namespace Go.Proofs.Ytoojbddnbeachaa
open Go.RowKit
attribute [local go_sem] max2_int min2_int max_two min_two

theorem wholeGo_append (l m : List (Int × Int)) : ∀ a, wholeGo a (l ++ m) = (wholeGo a l).bind fun b => wholeGo b m := by
  induction l with
  | nil => intro a; rfl
  | cons p l ih =>
    intro a
    simp only [List.cons_append, wholeGo]
    split
    · exact ih _
    · rfl
theorem fixedL_take {n size : Nat} (hn : 1 ≤ n) : ∀ k, k ≤ (size + n - 1) / n → wholeGo 0 ((fixedL n size).take k) = some ((min (k * n) size : Nat) : Int) := by
  intro k
  induction k with
  | zero => intro _; simp [wholeGo]
  | succ k ih =>
    intro hk
    have h1 := (fixed_lt (size := size) (k := k) hn).1 (by omega)
    rw [take_snoc_of (fixedL_at hn h1), wholeGo_append, ih (by omega)]
    have h2 : k * n < (k + 1) * n := by rw [Nat.add_mul]; omega
    simp only [Option.bind_some, wholeGo]
    rw [if_pos ⟨by omega, by omega⟩]
theorem fixed_all {n size : Nat} (hn : 1 ≤ n) : size ≤ ((size + n - 1) / n) * n := by
  have : ¬ (size + n - 1) / n < (size + n - 1) / n := by omega
  rw [fixed_lt hn] at this
  omega
theorem fixedL_whole {n size : Nat} (hn : 1 ≤ n) : wholeGo 0 (fixedL n size) = some (size : Int) := by
  have h := fixedL_take (n := n) (size := size) hn _ (Nat.le_refl _)
  rw [← fixedL_length n size, List.take_length] at h
  rw [h, fixedL_length]
  have := fixed_all (size := size) hn
  congr 2; omega
theorem fixedL_cat {n : Nat} (s : List UInt8) (hn : 1 ≤ n) : ∀ k, k ≤ (s.length + n - 1) / n → catSpans s ((fixedL n s.length).take k) = s.take (min (k * n) s.length) := by
  intro k
  induction k with
  | zero => intro _; simp [catSpans]
  | succ k ih =>
    intro hk
    have h1 := (fixed_lt (size := s.length) (k := k) hn).1 (by omega)
    rw [take_snoc_of (fixedL_at hn h1), catSpans_snoc, ih (by omega)]
    have h2 : k * n < (k + 1) * n := by rw [Nat.add_mul]; omega
    have e1 : min (k * n) s.length = k * n := by omega
    rw [e1]
    generalize hm : min ((k + 1) * n) s.length = m
    have hkm : k * n ≤ m := by omega
    simp only [cutOf, Int.toNat_natCast]
    conv => rhs; rw [← List.take_append_drop (k * n) (s.take m)]
    rw [List.take_take, Nat.min_eq_left hkm, List.drop_take]
theorem fixedL_join {n : Nat} (s : List UInt8) (hn : 1 ≤ n) : catSpans s (fixedL n s.length) = s := by
  have h := fixedL_cat s hn _ (Nat.le_refl _)
  rw [← fixedL_length n s.length, List.take_length] at h
  rw [h, fixedL_length]
  have := fixed_all (size := s.length) hn
  rw [Nat.min_eq_right this, List.take_length]
theorem fixedL_okAll {n size : Nat} (hn : 1 ≤ n) : okAll size (fixedL n size) := by
  intro p hp
  obtain ⟨k, hk⟩ := List.getElem?_of_mem hp
  have hkl : k < (size + n - 1) / n := by rw [← fixedL_length]; exact (List.getElem?_eq_some_iff.1 hk).1
  have h1 := (fixed_lt (size := size) hn).1 hkl
  rw [fixedL_at hn h1] at hk
  injection hk with hk
  subst hk
  have h2 : k * n < (k + 1) * n := by rw [Nat.add_mul]; omega
  exact ⟨by simp only; omega, by simp only; omega, by simp only; omega⟩
/-- One span grown by a byte: they are whole no more. -/
theorem whole_grown {n size k : Nat} {p : Int × Int} (hn : 1 ≤ n) (hk : (fixedL n size)[k]? = some p) : wholeB size ((fixedL n size).set k (p.1, p.2 + 1)) = false := by
  have hkl : k < (size + n - 1) / n := by rw [← fixedL_length]; exact (List.getElem?_eq_some_iff.1 hk).1
  have h1 := (fixed_lt (size := size) hn).1 hkl
  rw [fixedL_at hn h1] at hk
  injection hk with hk
  subst hk
  have hk2 : k < (fixedL n size).length := by rw [fixedL_length]; exact hkl
  have e : (fixedL n size).set k (((k * n : Nat) : Int), ((min ((k + 1) * n) size : Nat) : Int) + 1) = (fixedL n size).take k ++ (((k * n : Nat) : Int), ((min ((k + 1) * n) size : Nat) : Int) + 1) :: (fixedL n size).drop (k + 1) := by
    rw [List.set_eq_take_append_cons_drop, if_pos hk2]
  have h2 : k * n < (k + 1) * n := by rw [Nat.add_mul]; omega
  simp only [wholeB, decide_eq_false_iff_not]
  rw [e, wholeGo_append, fixedL_take hn k (by omega)]
  simp only [Option.bind_some, wholeGo]
  rw [if_pos ⟨by omega, by omega⟩]
  by_cases hlast : k + 1 < (size + n - 1) / n
  · have h3 := (fixed_lt (size := size) (k := k + 1) hn).1 hlast
    rw [drop_of_at (fixedL_at hn h3)]
    simp only [wholeGo]
    rw [if_neg (by omega)]
    simp
  · rw [List.drop_eq_nil_of_le (by rw [fixedL_length]; omega)]
    simp only [wholeGo]
    intro h
    injection h with h
    have := fixed_all (size := size) hn
    have hm : size ≤ (k + 1) * n := by
      have e2 : (size + n - 1) / n = k + 1 := by omega
      rw [e2] at this
      exact this
    omega
theorem pcells_set {l : List (Int × Int)} {k : Nat} {p : Int × Int} (h : l[k]? = some p) (y : Int) : (pcells l).set (k * 2 + 1) (.int .i64 y) = pcells (l.set k (p.1, y)) := by
  induction l generalizing k with
  | nil => simp at h
  | cons q l ih =>
    cases k with
    | zero => simp at h; subst h; rfl
    | succ k =>
      have := ih (k := k) (by simpa using h)
      rw [pcells_cons, show (k + 1) * 2 + 1 = (k * 2 + 1) + 1 + 1 by omega, List.set_cons_succ, List.set_cons_succ, this, List.set_cons_succ, pcells_cons]

set_option maxHeartbeats 4000000 in
set_option maxRecDepth 100000 in
theorem fixedWhole_calls (n : Int) (s : ByteArray) (at_ : Int) (w : World) (_hn : -9223372036854775808 ≤ n ∧ n ≤ 9223372036854775807) (_hs : s.size ≤ 140737488351232) (_ha : -9223372036854775808 ≤ at_ ∧ at_ ≤ 9223372036854775807) :
    Calls Try.prog 7 #[.int .i64 n, .string s, .int .i64 at_] w fun e w' => e = .returned (.bool true) ∧ Below w.heap.size w w' := by
  by_cases hbig : s.size ≤ 1500 ∧ 1 ≤ n ∧ n ≤ 2000 ∧ 0 ≤ at_
  case neg =>
    by_cases h1 : s.size ≤ 1500
    all_goals by_cases h2 : n < 1
    all_goals by_cases h3 : n ≤ 2000
    all_goals by_cases h4 : at_ < 0
    all_goals first | (exfalso; omega) | skip
    all_goals
      clear hbig
      go_enter Try.func7, Try.ntmps7
      go_wp2_with fail
      refine (fixedAlive_calls _).mono ?_
      rintro e w1 ⟨rfl, hb1⟩
      have HB := Lib.hid hb1; clear hb1
      go_wp2
      go_ret
      exact ⟨rfl, HB.out⟩
  obtain ⟨h1, h2, h3, h4⟩ := hbig
  obtain ⟨m, rfl⟩ := Int.eq_ofNat_of_zero_le (show 0 ≤ n by omega)
  have hm1 : 1 ≤ m := by omega
  obtain ⟨L, hL⟩ : ∃ L, (fixedL m s.size).length = L := ⟨_, rfl⟩
  have hL2 : (s.size + m - 1) / m = L := by rw [← hL, fixedL_length]
  have hLs : L ≤ s.size := fixed_le hm1 (by omega)
  have hdiv : ((s.size : Int) + m - 1) / m = L := by rw [← hL2, show ((s.size : Int) + m - 1) = ((s.size + m - 1 : Nat) : Int) by omega]; exact (Int.natCast_ediv _ _).symm
  have HL := Lib.hid hL; clear hL
  have HL2 := Lib.hid hL2; clear hL2
  have ht : totalLen [s] = s.size := by simp [totalLen]
  have HT := Lib.hid ht; clear ht
  go_enter Try.func7, Try.ntmps7
  go_wp2_with fail
  refine (fixedAlive_calls _).mono ?_
  rintro e w1 ⟨rfl, hb1⟩
  have HB1 := Lib.hid hb1; clear hb1
  go_wp2_with fail
  refine (cut_calls m _ 1 1 [s] _ (by omega) rfl (by omega) (by rw [HT.out]; omega) (rowAt_alloc w1 [.string s] _)).mono ?_
  rintro e w2 ⟨v, rfl, hown, hb2⟩
  rw [HT.out, fixedZ_pos (by omega), Int.toNat_natCast, HL.out] at hown
  have HB2 := Lib.hid (below_trans' (HB1.out.alloc HB1.out.size _) hb2); clear hb2
  obtain ⟨B, cap, rfl, hcap, hrow, hnil⟩ := hown.slice
  have HRow := Lib.hid hrow; clear hrow hown hnil
  go_wp2_with fail
  refine (fixedJoin_calls s B L cap (fixedL m s.size) _ (by omega) HL.out (by omega) HRow.out).mono ?_
  rintro e w3 ⟨rfl, hb3⟩
  have HB3 := Lib.hid (below_trans' HB2.out hb3)
  have HRow3 := Lib.hid (HRow.out.below hb3); clear hb3
  have hj : joinR s (fixedL m s.size) = .tuple #[.string s, .int .i64 0] := by
    have e1 := fixedL_join s.data.toList hm1
    rw [data_length] at e1
    rw [joinR_ok (fixedL_okAll hm1), e1, mk_data]
  rw [hj]
  clear hj
  have hw1 : wholeB (s.size : Int) (fixedL m s.size) = true := by simp [wholeB, fixedL_whole hm1]
  have hw2 : wholeB ((s.size : Int) + 1) (fixedL m s.size) = false := by simp [wholeB, fixedL_whole hm1]; omega
  have HW1 := Lib.hid (fun w hr => whole_calls (s.size : Int) B L cap (fixedL m s.size) w (by omega) HL.out hr)
  have HW2 := Lib.hid (fun w hr => whole_calls ((s.size : Int) + 1) B L cap (fixedL m s.size) w (by omega) HL.out hr)
  rw [hw1] at HW1
  rw [hw2] at HW2
  have HW0 := Lib.hid hw1
  clear hw1 hw2
  go_wp2_with fail
  refine Calls.mono (HW1.out _ HRow3.out) ?_
  rintro e w4 ⟨rfl, hb4⟩
  have HB4 := Lib.hid (below_trans' HB3.out hb4)
  have HRow4 := Lib.hid (HRow3.out.below hb4); clear hb4
  go_wp2_with fail
  refine Calls.mono (HW2.out _ HRow4.out) ?_
  rintro e w5 ⟨rfl, hb5⟩
  have HB5 := Lib.hid (below_trans' HB4.out hb5)
  have HRow5 := Lib.hid (HRow4.out.below hb5); clear hb5
  by_cases hL0 : L = 0
  · subst hL0
    go_wp2
    go_ret
    exact ⟨rfl, HB5.out⟩
  obtain ⟨k, hk⟩ : ∃ k : Nat, at_ % (L : Int) = k := ⟨(at_ % (L : Int)).toNat, by have := Int.emod_nonneg at_ (show (L : Int) ≠ 0 by omega); omega⟩
  have hkL : k < L := by have := Int.emod_lt_of_pos at_ (show (0 : Int) < L by omega); omega
  obtain ⟨p, hp⟩ := some_at (l := fixedL m s.size) (k := k) (by rw [HL.out]; exact hkL)
  have hL1 : 0 < L := by omega
  have hok := fixedL_okAll (size := s.size) hm1 p (List.mem_of_getElem? hp)
  have hp2 : 0 ≤ p.2 ∧ p.2 ≤ 1500 := by obtain ⟨q1, q2, q3⟩ := hok; omega
  obtain ⟨hp20, hp21⟩ := hp2
  have hws := whole_grown hm1 hp
  have HWS := Lib.hid hws
  have HP := Lib.hid hp
  clear hok hws hp
  have HB50 := Lib.hid (Below.refl w5.heap.size w5)
  go_wp2_with (at_builtin; refine appO el_spans w5.heap.size rfl _ _ rfl rfl (Own.nil _ _ _) rfl (by rw [pcells_length, HL.out]) HRow5.out (one_pcells _) (by omega) (Nat.le_refl _) ?_; intro v6 w6 hown6 hg6 _; rw [Nat.zero_add, List.nil_append] at hown6; obtain ⟨g, cap6, rfl, hgb, hgl, hcap6, hrow6⟩ := hown6.form (by omega); obtain ⟨hcell, hfz⟩ := hown6.cell (pcells_at HP.out).2; clear hrow6; have HO6 := Lib.hid hown6; clear hown6; have HG6 := Lib.hid hg6; clear hg6)
  have HS := Lib.hid (HO6.out.set (k * 2 + 1) (by rw [pcells_length, HL.out]; omega) (.int .i64 (p.2 + 1)))
  obtain ⟨A7, c7, e7, _, hrow7, _⟩ := HS.out.1.slice
  simp only [Value.slice.injEq, true_and] at e7
  obtain ⟨rfl, rfl⟩ := e7
  rw [pcells_set HP.out] at hrow7
  have HR7 := Lib.hid hrow7; clear hrow7
  have h6 : Below w5.heap.size w5 w6 := (Below.refl _ _).grown HG6.out (Nat.le_refl _) (fun j hj => by cases (show (none : Option Nat) = some j from hj))
  have h57 : Below w5.heap.size w5 (w6.setCell ⟨g, k * 2 + 1, none⟩ (.int .i64 (p.2 + 1))) := h6.grown HS.out.2 h6.size (by intro j hj; injection hj with hj; omega)
  have HB7 := Lib.hid (below_trans' HB5.out h57)
  have HRow7 := Lib.hid (HRow5.out.below h57)
  clear h6 h57
  have HW7 := Lib.hid (whole_calls (s.size : Int) _ L cap6 ((fixedL m s.size).set k (p.1, p.2 + 1)) _ (by omega) (by rw [List.length_set, HL.out]) HR7.out)
  rw [HWS.out] at HW7
  go_wp2_with fail
  refine Calls.mono HW7.out ?_
  rintro e w8 ⟨rfl, hb8⟩
  have HB8 := Lib.hid (below_trans' HB7.out hb8)
  have HRow8 := Lib.hid (HRow7.out.below hb8); clear hb8
  go_wp2_with fail
  refine (refWhole_calls (s.size : Int) B L cap (fixedL m s.size) _ (by omega) HL.out HRow8.out).mono ?_
  rintro e w9 ⟨rfl, rfl⟩
  rw [HW0.out]
  go_wp2
  go_ret
  exact ⟨rfl, HB8.out⟩
end Go.Proofs.Ytoojbddnbeachaa
