/- The law SplitTells. -/
import Derived.Test.YtkhfecgmkhjpiaaSplitEdit
import Derived.Deep.RegionHeld3
namespace Go.Proofs.Ytkhfecgmkhjpiaa
open Go.RowKit
set_option linter.unusedVariables false
attribute [local go_sem] max2_int min2_int max_two min_two

theorem fixedZ_short {n size : Int} (h0 : 0 ≤ size) : ((fixedZ n size).length : Int) ≤ size := by
  by_cases hn : n < 1
  · rw [fixedZ_none hn]; simpa using h0
  · obtain ⟨m, rfl⟩ := Int.eq_ofNat_of_zero_le h0
    rw [fixedZ_pos (by omega), fixedL_length]
    have h1 : 1 ≤ n.toNat := by omega
    have : (m + n.toNat - 1) / n.toNat ≤ m := by
      rw [Nat.div_le_iff_le_mul_add_pred (by omega)]
      have := Nat.le_mul_of_pos_left m (show 0 < n.toNat by omega)
      omega
    omega
set_option maxRecDepth 100000 in
theorem Cutter.both {cv : Value} {F : List UInt8 → Nat} (h : Cutter cv F) : ∃ (t : TypeId) (v : Value) (fc fn : FuncId), cv = .iface t v ∧ ((fc = 39 ∧ fn = 40) ∨ (fc = 29 ∧ fn = 38)) ∧
    (∀ w : World, (method 270 t v "Cut").run Try.prog w = .ok (fc, v) w) ∧ (∀ w : World, (method 270 t v "Next").run Try.prog w = .ok (fn, v) w) ∧
    (∀ (A : Option Addr) (ln cp : Nat) (l : List ByteArray) (W : World), l.length = ln → ln ≤ cp → ln ≤ 140737488355328 → totalLen l ≤ 1000000 → RowAt W A (scells l) → Calls Try.prog fc #[v, .slice A ln cp] W fun e w' => ∃ v, e = .returned v ∧ Own w' W.heap.size 2 v (cutA F 0 (joinB l).data.toList).length (pcells (cutA F 0 (joinB l).data.toList)) ∧ Below W.heap.size W w') ∧
    ∀ (s : ByteArray) (W : World), s.size ≤ 1000000 → Calls Try.prog fn #[v, .string s] W fun e w' => e = .returned (.int .i64 (F s.data.toList : Nat)) ∧ Below W.heap.size W w' := by
  cases h with
  | even =>
    refine ⟨_, _, _, _, rfl, .inl ⟨rfl, rfl⟩, fun w => by kernel_rfl, fun w => by kernel_rfl, fun A ln cp l W hl hc hn hs hR => ?_, fun s W hs => (evenNext_calls 64 s W hs).mono ?_⟩
    · have h1 := evenCut_calls 64 A ln cp l W (by omega) hl (by omega) hs hR
      have e1 : fixedZ 64 (totalLen l) = cutA (minF 64) 0 (joinB l).data.toList := by
        rw [fixed_cut (by decide), data_length, ← joinB_size, fixedZ_pos (by omega)]; rfl
      rw [e1] at h1
      exact h1
    · rintro e w' ⟨rfl, hb⟩
      refine ⟨?_, hb⟩
      congr 2
      rw [minF, data_length]
      omega
  | uneven => exact ⟨_, _, _, _, rfl, .inr ⟨rfl, rfl⟩, fun w => by kernel_rfl, fun w => by kernel_rfl, fun A ln cp l W hl hc hn hs hR => cdcCut_calls _ _ _ _ _ A ln cp l W hl hc hn hs hR, fun s W hs => unevenNext_calls _ _ _ _ _ s W hs⟩
set_option maxHeartbeats 4000000 in
set_option maxRecDepth 100000 in
theorem splitTells_calls (gen n : Int) (a b c h d : Int) (A : Option Addr) (ln cp : Nat) (l : List ByteArray) (w : World)
    (_hgen : -9223372036854775808 ≤ gen ∧ gen ≤ 9223372036854775807) (hnr : -9223372036854775808 ≤ n ∧ n ≤ 9223372036854775807)
    (hl : l.length = ln) (hc : ln ≤ cp) (hn : ln * 16 ≤ 140737488351232) (hs : ∀ s ∈ l, s.size ≤ 140737488351232) (hR : RowAt w A (scells l)) :
    Calls Try.prog 5 #[.int .i64 gen, .int .i64 n, rule a b c h d, .slice A ln cp] w fun e w' => e = .returned (.bool true) ∧ Below w.heap.size w w' := by
  subst hl
  have HSh := Lib.hid (fun W hR => short_calls 12 1500 A cp l W (by omega) (by omega) (by omega) hs hR)
  have HX := Lib.hid (rowAt_alloc w (icells [a, b, c, h, d]) 56)
  have HRa := Lib.hid (hR.alloc (.cells #[.int .i64 a, .int .i64 b, .int .i64 c, .int .i64 h, .int .i64 d] 56))
  have HB0 := Lib.hid ((Below.refl w.heap.size w).alloc (Nat.le_refl _) (.cells #[.int .i64 a, .int .i64 b, .int .i64 c, .int .i64 h, .int .i64 d] 56))
  by_cases hbig : shortB 12 1500 l = true
  case neg =>
    have hf : shortB 12 1500 l = false := by simpa using hbig
    rw [hf] at HSh
    clear hf hbig hR
    go_enter Try.func5, Try.ntmps5
    go_wp2_with fail
    refine Calls.mono (HSh.out _ HRa.out) ?_
    rintro e w1 ⟨rfl, hb1⟩
    have HB1 := Lib.hid (below_trans' HB0.out hb1)
    clear hb1
    go_wp2_with fail
    refine (splitAlive_calls _).mono ?_
    rintro e w2 ⟨rfl, hb2⟩
    have HB2 := Lib.hid (below_trans' HB1.out hb2)
    clear hb2
    go_wp2
    go_ret
    exact ⟨rfl, HB2.out⟩
  rw [hbig] at HSh
  have hsb : (l.length : Int) ≤ 12 ∧ totalLen l ≤ 1500 := of_decide_eq_true hbig
  obtain ⟨hl1, hl2⟩ := hsb
  clear hbig hR
  have hJs := joinB_size l
  obtain ⟨t, ht⟩ : ∃ t, joinB l = t := ⟨_, rfl⟩
  rw [ht] at hJs
  have HJs := Lib.hid hJs
  have hts : t.size ≤ 1500 := by omega
  have HJ := Lib.hid ht
  clear ht hJs
  go_enter Try.func5, Try.ntmps5
  go_wp2_with fail
  refine Calls.mono (HSh.out _ HRa.out) ?_
  rintro e w1 ⟨rfl, hb1⟩
  have HB1 := Lib.hid (below_trans' HB0.out hb1)
  have HX1 := Lib.hid (HX.out.below hb1)
  have HR1 := Lib.hid (HRa.out.below hb1)
  clear hb1
  go_wp2_with fail
  refine (splitAlive_calls _).mono ?_
  rintro e w2 ⟨rfl, hb2⟩
  have HB2 := Lib.hid (below_trans' HB1.out hb2)
  have HX2 := Lib.hid (HX1.out.below hb2)
  have HR2 := Lib.hid (HR1.out.below hb2)
  clear hb2
  go_wp2_with fail
  refine (join_calls A cp l _ (by omega) (by omega) HR2.out).mono ?_
  rintro e _ ⟨rfl, rfl⟩
  rw [HJ.out]
  clear HX HX1 HR1 HB1 HRa HSh
  go_upto_region 4 with fail
  go_cut [10, 11] (fun v10 v11 wx => ((gen < 1 ∨ 3 < gen) ∧ v10 = .nilIface ∧ v11 = .int .i64 1 ∨ (1 ≤ gen ∧ gen ≤ 3) ∧ ∃ F, Form gen v10 F ∧ v11 = .int .i64 0) ∧ Hid (Below w2.heap.size w2 wx))
  case first =>
    by_cases hg : gen < 1 ∨ 3 < gen
    · go_wp2_with fail
      refine (ofNone_calls gen _ hg).mono ?_
      rintro e w3 ⟨rfl, hb3⟩
      have HB3 := Lib.hid hb3
      clear hb3
      go_wp2_with fail
      go_meet
      exact ⟨.inl ⟨hg, rfl, rfl⟩, HB3⟩
    · obtain ⟨cv, F, hf⟩ := form_of (show 1 ≤ gen by omega) (by omega)
      go_wp2_with fail
      refine (hf.of _).mono ?_
      rintro e w3 ⟨rfl, hb3⟩
      have HB3 := Lib.hid hb3
      clear hb3
      go_wp2_with fail
      go_meet
      exact ⟨.inr ⟨by omega, F, hf, rfl⟩, HB3⟩
  obtain ⟨hd, HB3⟩ := hcut
  obtain ⟨w3, hw3⟩ : ∃ w3, wc = w3 := ⟨_, rfl⟩
  rw [hw3] at HB3 ⊢
  clear hw3 wc
  have HX3 := Lib.hid (HX2.out.below HB3.out)
  have HR3 := Lib.hid (HR2.out.below HB3.out)
  have HB3' := Lib.hid (below_trans' HB2.out HB3.out)
  clear HX2 HR2 HB2 HB3
  go_upto_region 5 with fail
  go_cut [38] (fun v wx => v = .bool (decide (gen < 1 ∨ 3 < gen)) ∧ Hid (wx = w3))
  case first =>
    by_cases g1 : gen < 1
    · have hg : decide (gen < 1 ∨ 3 < gen) = true := decide_eq_true (.inl g1)
      have HGg := Lib.hid hg
      clear hd hg
      go_wp2_with fail
      go_meet
      exact ⟨by rw [HGg.out], rfl⟩
    by_cases g2 : 3 < gen
    · have hg : decide (gen < 1 ∨ 3 < gen) = true := decide_eq_true (.inr g2)
      have HGg := Lib.hid hg
      clear hd hg
      go_wp2_with fail
      go_meet
      exact ⟨by rw [HGg.out], rfl⟩
    · have hg : decide (gen < 1 ∨ 3 < gen) = false := decide_eq_false (by omega)
      have HGg := Lib.hid hg
      clear hd hg
      go_wp2_with fail
      go_meet
      exact ⟨by rw [HGg.out], rfl⟩
  obtain ⟨rfl, hwc⟩ := hcut
  obtain ⟨wd, hwd⟩ : ∃ wd, wc = wd := ⟨_, rfl⟩
  rw [hwd] at hwc ⊢
  clear hwd wc
  obtain rfl := hwc.out
  clear hwc
  go_upto_if 38 with fail
  go_cut [12, 13] (fun _ _ wx => Hid (Below wd.heap.size wd wx))
  case first =>
    rcases hd with ⟨hg, rfl, rfl⟩ | ⟨hg, F, hf, rfl⟩
    · rw [decide_eq_true hg]
      clear hg
      go_wp2_with fail
      go_meet
      exact Below.refl _ _
    · rw [decide_eq_false (show ¬ (gen < 1 ∨ 3 < gen) by omega)]
      obtain ⟨tc, vc, fc, fn, rfl, hfs, hm1, hm2, hcut, hnext⟩ := hf.cutter.both
      have HG := hf.cutter.best.toGood
      have hRf := fun W => hf.ref t W (by omega)
      have hc1 := fun W hR => hcut A l.length cp l W rfl hc (by omega) (by omega) hR
      rw [HJ.out] at hc1
      have hn1 := fun W => hnext t W (by omega)
      have hnn := cutA_length HG t.data.toList.length 0 t.data.toList (Nat.le_refl _)
      rw [data_length] at hnn
      have hfirst : (cutA F 0 t.data.toList = [] → (F t.data.toList : Nat) = 0) ∧ ∀ p, (cutA F 0 t.data.toList)[0]? = some p → p.2 = ((F t.data.toList : Nat) : Int) := by
        refine ⟨fun e => ?_, fun p hp => ?_⟩
        · have e2 := (cutA_ne HG 0).1 e
          have := HG.le t.data.toList
          rw [e2] at this ⊢
          simpa using this
        · obtain ⟨x, _, _, h3, _, _, _, _, h8⟩ := cutA_at HG 0 0 _ p hp
          obtain rfl := h8.2 rfl
          rw [h3]; simp
      obtain ⟨L, hL⟩ : ∃ L, cutA F 0 t.data.toList = L := ⟨_, rfl⟩
      rw [hL] at hRf hc1 hnn hfirst
      obtain ⟨q, hq⟩ : ∃ q, F t.data.toList = q := ⟨_, rfl⟩
      rw [hq] at hn1 hfirst
      obtain ⟨N, hN⟩ : ∃ N, L.length = N := ⟨_, rfl⟩
      rw [hN] at hRf hc1 hnn
      have HRf := Lib.hid hRf
      have HC1 := Lib.hid hc1
      have HN1 := Lib.hid hn1
      have HFi := Lib.hid hfirst
      have HN := Lib.hid hN
      clear hRf hc1 hn1 hfirst hN hq hL hcut hnext HG hg hf
      go_wp2_with fail
      refine Calls.mono (HRf.out _) ?_
      rintro e w4 ⟨v, rfl, ho, hb4⟩
      obtain ⟨A4, c4, rfl, hc4, hr4, _⟩ := ho.slice
      have HR4 := Lib.hid hr4
      have HB4 := Lib.hid hb4
      clear ho hb4 hr4
      go_upto_if 56 with fail
      go_cut [13] (fun v wx => v = .int .i64 (q : Int) ∧ Hid (wx = w4))
      case first =>
        by_cases hN0 : N = 0
        · have hq0 : Hid ((0 : Int) = q) := by have := HFi.out.1 (List.eq_nil_of_length_eq_zero (by have := HN.out; omega)); rw [Hid, this]; rfl
          subst hN0
          go_wp2_with fail
          go_meet
          exact ⟨by rw [← hq0.out], rfl⟩
        · obtain ⟨⟨x, y⟩, hx⟩ := some_at (show 0 < L.length by have := HN.out; omega)
          obtain ⟨g4, o4, rfl, _, s1, s2⟩ := pair_at HR4.out hx
          have hy : y = (q : Int) := HFi.out.2 _ hx
          simp only at s1 s2
          subst hy
          have j1 : (0 : Int) < (N : Int) := by omega
          have j2 : 0 < N := by omega
          clear hx hN0
          go_wp2_with fail
          go_meet
          exact ⟨rfl, rfl⟩
      obtain ⟨rfl, hwc4⟩ := hcut
      obtain rfl := hwc4.out
      clear hwc4
      clear HFi
      rcases hfs with ⟨rfl, rfl⟩ | ⟨rfl, rfl⟩
      all_goals
        go_wp2_with fail
        refine Calls.mono (HC1.out _ (HR3.out.below HB4.out)) ?_
        rintro e w5 ⟨v, rfl, ho, hb5⟩
        obtain ⟨A5, c5, rfl, hc5, hr5, _⟩ := ho.slice
        have HB5 := Lib.hid (below_trans' HB4.out hb5)
        have HS := sameSpans_calls A5 A4 N N c5 c4 L L w5 HN.out HN.out (by omega) hr5 (HR4.out.below hb5)
        rw [decide_eq_true (rfl : L = L)] at HS
        have HSS := Lib.hid HS
        clear ho hb5 hr5 HS
        go_wp2_with fail
        refine Calls.mono HSS.out ?_
        rintro e w6 ⟨rfl, hb6⟩
        have HB6 := Lib.hid (below_trans' HB5.out hb6)
        clear hb6
        go_wp2_with fail
        refine Calls.mono (HN1.out _) ?_
        rintro e w7 ⟨rfl, hb7⟩
        have HB7 := Lib.hid (below_trans' HB6.out hb7)
        clear hb7
        go_wp2_with fail
        go_meet
        exact HB7
  clear hd
  have HXq := Lib.hid (HX3.out.below hcut.out)
  have HRq := Lib.hid (HR3.out.below hcut.out)
  have HBq := Lib.hid (below_trans' HB3'.out hcut.out)
  obtain ⟨wq, hwq⟩ : ∃ wq, wc = wq := ⟨_, rfl⟩
  rw [hwq] at HXq HRq HBq ⊢
  clear hcut hwq wc HX3 HR3 HB3'
  obtain ⟨q0, q1, q2, q3, q4⟩ := rule_cells HXq.out
  have HKq := Lib.hid (fun o => rule_cells (HXq.out.alloc o))
  have m0 := fun o => (HKq.out o).1
  have m1 := fun o => (HKq.out o).2.1
  have m2 := fun o => (HKq.out o).2.2.1
  have m3 := fun o => (HKq.out o).2.2.2.1
  have m4 := fun o => (HKq.out o).2.2.2.2
  go_upto_if 90 with fail
  go_cut [17] (fun v wx => v = .int .i64 (max (min n t.size) 0) ∧ Hid (wx = ((wq.alloc (.cells #[.int .i64 a, .int .i64 b, .int .i64 c, .int .i64 h, .int .i64 d] 58)).alloc (.cells #[.int .i64 a, .int .i64 b, .int .i64 c, .int .i64 h, .int .i64 d] 69)).alloc (.cells #[.int .i64 n] 71)))
  case first =>
    by_cases hn0 : 0 < n
    · have he : Hid (min n (t.size : Int) = max (min n (t.size : Int)) 0) := by rw [Hid]; omega
      clear q0 q1 q2 q3 q4 m0 m1 m2 m3 m4
      go_wp2_with fail
      go_meet
      exact ⟨by rw [← he.out], rfl⟩
    · have he : Hid ((0 : Int) = max (min n (t.size : Int)) 0) := by rw [Hid]; omega
      clear q0 q1 q2 q3 q4 m0 m1 m2 m3 m4
      go_wp2_with fail
      go_meet
      exact ⟨by rw [← he.out], rfl⟩
  obtain ⟨rfl, hwc⟩ := hcut
  obtain ⟨wS, hwS⟩ : ∃ wS, wc = wS := ⟨_, rfl⟩
  rw [hwS] at hwc ⊢
  clear hwS wc q0 q1 q2 q3 q4 m0 m1 m2 m3 m4
  have hS := hwc.out
  have x1 := (((rowAt_alloc wq (icells [a, b, c, h, d]) 58).alloc (.cells #[.int .i64 a, .int .i64 b, .int .i64 c, .int .i64 h, .int .i64 d] 69)).alloc (.cells #[.int .i64 n] 71))
  have x2 := ((row_alloc2 wq (.cells #[.int .i64 a, .int .i64 b, .int .i64 c, .int .i64 h, .int .i64 d] 58) (icells [a, b, c, h, d]) 69).alloc (.cells #[.int .i64 n] 71))
  have x3 := row_alloc2 (wq.alloc (.cells #[.int .i64 a, .int .i64 b, .int .i64 c, .int .i64 h, .int .i64 d] 58)) (.cells #[.int .i64 a, .int .i64 b, .int .i64 c, .int .i64 h, .int .i64 d] 69) [.int .i64 n] 71
  rw [World.size_alloc] at x3
  have xb : Below wq.heap.size wq (((wq.alloc (.cells #[.int .i64 a, .int .i64 b, .int .i64 c, .int .i64 h, .int .i64 d] 58)).alloc (.cells #[.int .i64 a, .int .i64 b, .int .i64 c, .int .i64 h, .int .i64 d] 69)).alloc (.cells #[.int .i64 n] 71)) := (((Below.refl wq.heap.size wq).alloc (Nat.le_refl _) _).alloc (by simp) _).alloc (by simp; omega) _
  have HX1 : Hid (RowAt wS (some ⟨wq.heap.size, 0, none⟩) (icells [a, b, c, h, d])) := by rw [hS]; exact x1
  have HX2 : Hid (RowAt wS (some ⟨wq.heap.size + 1, 0, none⟩) (icells [a, b, c, h, d])) := by rw [hS]; exact x2
  have HX3 : Hid (RowAt wS (some ⟨wq.heap.size + 1 + 1, 0, none⟩) [.int .i64 n]) := by rw [hS]; exact x3
  have HBS : Hid (Below w.heap.size w wS) := by rw [hS]; exact below_trans' HBq.out xb
  have HRS : Hid (∀ W, Below wS.heap.size wS W → RowAt W A (scells l)) := fun W hb => by
    have h1 : RowAt wS A (scells l) := by rw [hS]; exact HRq.out.below xb
    exact h1.below hb
  have HKS : Hid (∀ W, Below wS.heap.size wS W → (W.cell? ⟨wq.heap.size, 0, none⟩ = some (.int .i64 a) ∧ W.cell? ⟨wq.heap.size, 1, none⟩ = some (.int .i64 b) ∧ W.cell? ⟨wq.heap.size, 2, none⟩ = some (.int .i64 c) ∧ W.cell? ⟨wq.heap.size, 3, none⟩ = some (.int .i64 h) ∧ W.cell? ⟨wq.heap.size, 4, none⟩ = some (.int .i64 d) ∧ W.cell? ⟨wq.heap.size + 1, 0, none⟩ = some (.int .i64 a) ∧ W.cell? ⟨wq.heap.size + 1, 1, none⟩ = some (.int .i64 b) ∧ W.cell? ⟨wq.heap.size + 1, 2, none⟩ = some (.int .i64 c) ∧ W.cell? ⟨wq.heap.size + 1, 3, none⟩ = some (.int .i64 h) ∧ W.cell? ⟨wq.heap.size + 1, 4, none⟩ = some (.int .i64 d) ∧ W.cell? ⟨wq.heap.size + 1 + 1, 0, none⟩ = some (.int .i64 n))) := fun W hb => by
    obtain ⟨y0, y1, y2, y3, y4⟩ := rule_cells (HX1.out.below hb)
    obtain ⟨z0, z1, z2, z3, z4⟩ := rule_cells (HX2.out.below hb)
    exact ⟨y0, y1, y2, y3, y4, z0, z1, z2, z3, z4, row_cell (HX3.out.below hb) (j := 0) rfl⟩
  clear hS x1 x2 x3 xb hwc HXq HKq HRq HBq
  have P0 := Lib.hid (below_drew' (Below.refl wS.heap.size wS))
  have hcn := cutA_length (good_first a b c h d) t.data.toList.length 0 t.data.toList (Nat.le_refl _)
  rw [data_length] at hcn
  have hfn := fixedZ_short (n := n) (size := (t.size : Int)) (by omega)
  have hC1 := fun W hR => cdcCut_calls a b c h d A l.length cp l W rfl hc (by omega) (by omega) hR
  rw [HJ.out] at hC1
  have hC2 := fun W => refCut_calls a b c h d t W (by omega)
  have hE1 := fun W hR => evenCut_calls n A l.length cp l W (by omega) rfl (by omega) (by omega) hR
  rw [← HJs.out] at hE1
  have hE2 := fun W => refFixedZ_calls n t.size W (by omega) (by omega)
  obtain ⟨cl, hcl⟩ : ∃ cl, cutA (firstN a b c h d) 0 t.data.toList = cl := ⟨_, rfl⟩
  rw [hcl] at hcn hC1 hC2
  obtain ⟨fz, hfz⟩ : ∃ fz, fixedZ n (t.size : Int) = fz := ⟨_, rfl⟩
  rw [hfz] at hfn hE1 hE2
  obtain ⟨N, hN⟩ : ∃ N, cl.length = N := ⟨_, rfl⟩
  obtain ⟨M, hM⟩ : ∃ M, fz.length = M := ⟨_, rfl⟩
  rw [hN] at hC1 hC2 hcn
  rw [hM] at hE1 hE2 hfn
  have hS1 := fun A B c d W hR hS => sameSpans_calls A B N N c d cl cl W hN hN (by omega) hR hS
  have hS2 := fun A B c d W hR hS => sameSpans_calls A B M M c d fz fz W hM hM (by omega) hR hS
  rw [decide_eq_true (rfl : cl = cl)] at hS1
  rw [decide_eq_true (rfl : fz = fz)] at hS2
  have hNx := fun W => unevenNext_calls a b c h d t W (by omega)
  have hFi := fun W => refFirst_calls a b c h d t W (by omega)
  obtain ⟨q, hq⟩ : ∃ q, firstN a b c h d t.data.toList = q := ⟨_, rfl⟩
  rw [hq] at hNx hFi
  have hV1 := fun W => valid_calls a b c h d W
  have hV2 := fun W => refValid_calls a b c h d W
  obtain ⟨V, hV⟩ : ∃ V, validB a b c h d = V := ⟨_, rfl⟩
  rw [hV] at hV1 hV2
  have hE3 := fun W => evenNext_calls n t W (by omega)
  obtain ⟨ev, hev⟩ : ∃ ev, max (min n (t.size : Int)) 0 = ev := ⟨_, rfl⟩
  rw [hev] at hE3 ⊢
  have HC1 := Lib.hid hC1
  have HC2 := Lib.hid hC2
  have HSS1 := Lib.hid hS1
  have HSS2 := Lib.hid hS2
  have HNx := Lib.hid hNx
  have HFi := Lib.hid hFi
  have HV1 := Lib.hid hV1
  have HV2 := Lib.hid hV2
  have HE1 := Lib.hid hE1
  have HE2 := Lib.hid hE2
  have HE3 := Lib.hid hE3
  clear hC1 hC2 hS1 hS2 hNx hFi hV1 hV2 hE1 hE2 hE3 hcl hfz hN hM hq hV hev hcn hfn
  go_wp2_with fail
  go_region_held3 (fun w' => w'.cell? ⟨wq.heap.size, 0, none⟩ = some (.int .i64 a) ∧ w'.cell? ⟨wq.heap.size, 1, none⟩ = some (.int .i64 b) ∧ w'.cell? ⟨wq.heap.size, 2, none⟩ = some (.int .i64 c) ∧ w'.cell? ⟨wq.heap.size, 3, none⟩ = some (.int .i64 h) ∧ w'.cell? ⟨wq.heap.size, 4, none⟩ = some (.int .i64 d) ∧ w'.cell? ⟨wq.heap.size + 1, 0, none⟩ = some (.int .i64 a) ∧ w'.cell? ⟨wq.heap.size + 1, 1, none⟩ = some (.int .i64 b) ∧ w'.cell? ⟨wq.heap.size + 1, 2, none⟩ = some (.int .i64 c) ∧ w'.cell? ⟨wq.heap.size + 1, 3, none⟩ = some (.int .i64 h) ∧ w'.cell? ⟨wq.heap.size + 1, 4, none⟩ = some (.int .i64 d) ∧ w'.cell? ⟨wq.heap.size + 1 + 1, 0, none⟩ = some (.int .i64 n)) (first | exact HKS.out _ (below_drew' H11.out) | exact HKS.out _ H11.out | exact HKS.out _ (below_drew' H10.out) | exact HKS.out _ H10.out | exact HKS.out _ (below_drew' H9.out) | exact HKS.out _ H9.out | exact HKS.out _ (below_drew' H8.out) | exact HKS.out _ H8.out | exact HKS.out _ (below_drew' H7.out) | exact HKS.out _ H7.out | exact HKS.out _ (below_drew' H6.out) | exact HKS.out _ H6.out | exact HKS.out _ (below_drew' H5.out) | exact HKS.out _ H5.out | exact HKS.out _ (below_drew' H4.out) | exact HKS.out _ H4.out | exact HKS.out _ (below_drew' H3.out) | exact HKS.out _ H3.out | exact HKS.out _ (below_drew' H2.out) | exact HKS.out _ H2.out | exact HKS.out _ (below_drew' H1.out) | exact HKS.out _ H1.out | exact HKS.out _ P0.out | exact HKS.out _ (Below.refl _ _))
    (first
      | (go_at_call 18; have HGate := H9.out; clear HGate; refine Calls.mono (HSS2.out A8 A9 _ _ _ (by first | exact HA8b.out | exact HA8b.out.below (below_drew' (Below.refl _ _))) (by first | exact HA9.out | exact HA9.out.below (below_drew' (Below.refl _ _)))) ?_; rintro e y10 ⟨rfl, hq⟩; have H10 : Hid (Below wS.heap.size wS y10) := (by first | exact below_trans' H9.out hq | exact below_trans' (below_drew' H9.out) hq); clear hq)
      | (go_at_call 18; have HGate := H2.out; clear HGate; refine Calls.mono (HSS1.out A1 A2 _ _ _ (by first | exact HA1b.out | exact HA1b.out.below (below_drew' (Below.refl _ _))) (by first | exact HA2.out | exact HA2.out.below (below_drew' (Below.refl _ _)))) ?_; rintro e y3 ⟨rfl, hq⟩; have H3 : Hid (Below wS.heap.size wS y3) := (by first | exact below_trans' H2.out hq | exact below_trans' (below_drew' H2.out) hq); clear hq)
      | (go_at_call 40; refine Calls.mono (HE3.out _) ?_; rintro e y11 ⟨rfl, hq⟩; have H11 : Hid (Below wS.heap.size wS y11) := (by first | exact below_trans' H10.out hq | exact below_trans' (below_drew' H10.out) hq); clear hq)
      | (go_at_call 19; refine Calls.mono (HE2.out _) ?_; rintro e y9 ⟨v, rfl, ho, hq⟩; obtain ⟨A9, c9, rfl, _, hr, _⟩ := ho.slice; have HA9 := Lib.hid hr; have H9 : Hid (Below wS.heap.size wS y9) := (by first | exact below_trans' H8.out hq | exact below_trans' (below_drew' H8.out) hq); have HA8b : Hid (RowAt y9 A8 (pcells fz)) := (by first | exact HA8.out.below hq | exact (HA8.out.below (below_drew' (Below.refl _ _))).below hq); clear hq ho hr)
      | (go_at_call 39; refine Calls.mono (HE1.out _ (HRS.out _ H7.out)) ?_; rintro e y8 ⟨v, rfl, ho, hq⟩; obtain ⟨A8, c8, rfl, _, hr, _⟩ := ho.slice; have HA8 := Lib.hid hr; have H8 : Hid (Below wS.heap.size wS y8) := (by first | exact below_trans' H7.out hq | exact below_trans' (below_drew' H7.out) hq); clear hq ho hr)
      | (go_at_call 32; refine Calls.mono (HV2.out _) ?_; rintro e y7 ⟨rfl, hq⟩; have H7 : Hid (Below wS.heap.size wS y7) := (by first | exact below_trans' H6.out hq | exact below_trans' (below_drew' H6.out) hq); clear hq)
      | (go_at_call 31; refine Calls.mono (HV1.out _) ?_; rintro e y6 ⟨rfl, hq⟩; have H6 : Hid (Below wS.heap.size wS y6) := (by first | exact below_trans' H5.out hq | exact below_trans' (below_drew' H5.out) hq); clear hq)
      | (go_at_call 34; refine Calls.mono (HFi.out _) ?_; rintro e y5 ⟨rfl, hq⟩; have H5 : Hid (Below wS.heap.size wS y5) := (by first | exact below_trans' H4.out hq | exact below_trans' (below_drew' H4.out) hq); clear hq)
      | (go_at_call 38; refine Calls.mono (HNx.out _) ?_; rintro e y4 ⟨rfl, hq⟩; have H4 : Hid (Below wS.heap.size wS y4) := (by first | exact below_trans' H3.out hq | exact below_trans' (below_drew' H3.out) hq); clear hq)
      | (go_at_call 30; have HGate := H1.out; clear HGate; refine Calls.mono (HC2.out _) ?_; rintro e y2 ⟨v, rfl, ho, hq⟩; obtain ⟨A2, c2, rfl, _, hr, _⟩ := ho.slice; have HA2 := Lib.hid hr; have H2 : Hid (Below wS.heap.size wS y2) := (by first | exact below_trans' H1.out hq | exact below_trans' (below_drew' H1.out) hq); have HA1b : Hid (RowAt y2 A1 (pcells cl)) := (by first | exact HA1.out.below hq | exact (HA1.out.below (below_drew' (Below.refl _ _))).below hq); clear hq ho hr)
      | (go_at_call 29; refine Calls.mono (HC1.out _ (by first | exact HRS.out _ P0.out | exact HRS.out _ (Below.refl _ _) | exact HRS.out _ (below_drew' P0.out))) ?_; rintro e y1 ⟨v, rfl, ho, hq⟩; obtain ⟨A1, c1, rfl, _, hr, _⟩ := ho.slice; have HA1 := Lib.hid hr; have H1 : Hid (Below wS.heap.size wS y1) := (by first | exact below_trans' P0.out hq | exact hq | exact below_trans' (below_drew' P0.out) hq); clear hq ho hr))
  all_goals
    go_wp2
    go_ret
    exact ⟨rfl, below_trans' HBS.out H11.out⟩
end Go.Proofs.Ytkhfecgmkhjpiaa
