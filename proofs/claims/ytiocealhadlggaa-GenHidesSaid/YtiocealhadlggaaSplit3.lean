/- What split.Again makes. -/
import Derived.Test.YtiocealhadlggaaBundle8
import Derived.Deep.RegionHeld3
namespace Go.Proofs.Ytiocealhadlggaa
open Go.RowKit
set_option linter.unusedVariables false
attribute [local go_sem] max2_int min2_int max_two min_two

theorem wholeGo_in : ∀ {l : List (Int × Int)} {a v : Int}, wholeGo a l = some v → a ≤ v ∧ (∀ p ∈ l, a ≤ p.1 ∧ p.1 < p.2 ∧ p.2 ≤ v) ∧ (l = [] → v = a) ∧ (l ≠ [] → ∃ p ∈ l, p.2 = v) := by
  intro l
  induction l with
  | nil => intro a v h; simp [wholeGo] at h; subst h; simp
  | cons p r ih =>
    intro a v h
    rw [wholeGo] at h
    split at h
    · rename_i hc
      obtain ⟨h1, h2, h3, h4⟩ := ih h
      refine ⟨by omega, ?_, (fun e => by cases e), fun _ => ?_⟩
      · intro q hq
        rcases List.mem_cons.1 hq with rfl | hq
        · omega
        · have := h2 q hq; omega
      · by_cases hr : r = []
        · exact ⟨p, by simp, (h3 hr).symm⟩
        · obtain ⟨q, hq, e⟩ := h4 hr
          exact ⟨q, List.mem_cons_of_mem _ hq, e⟩
    · cases h
theorem wholeB_wrap {l : List (Int × Int)} {n : Nat} {g : Int} (hn : n ≤ 1000000) (hg : -9223372036854775808 ≤ g ∧ g ≤ 9223372036854775807) (hl : ∀ p ∈ l, p.2 ≤ 9223372036854775807) :
    wholeB (IntKind.i64.wrap ((n : Int) - g)) l = decide (wholeGo 0 l = some ((n : Int) - g)) := by
  by_cases h : (n : Int) - g ≤ 9223372036854775807
  · rw [IntWalk.i64_in _ (by omega)]; rfl
  · have hw : IntKind.i64.wrap ((n : Int) - g) = (n : Int) - g - 18446744073709551616 := by
      simp [IntKind.wrap, IntKind.bits, IntKind.signed]; omega
    rw [hw, wholeB, Bool.eq_iff_iff]
    simp only [decide_eq_true_eq]
    constructor
    · intro h1; have := (wholeGo_in h1).1; omega
    · intro h1
      obtain ⟨_, _, h3, h4⟩ := wholeGo_in h1
      by_cases h0 : l = []
      · have := h3 h0; omega
      · obtain ⟨p, hp, e⟩ := h4 h0
        have := hl p hp; omega
theorem wholeGo_take {l : List (Int × Int)} {v : Int} (h : wholeGo 0 l = some v) (k : Nat) : 0 ≤ endOf (l.take k) ∧ endOf (l.take k) ≤ v := by
  obtain ⟨h1, h2, _, _⟩ := wholeGo_in h
  unfold endOf
  split
  · rename_i p hp
    have := h2 p (List.mem_of_mem_take (List.mem_of_getLast? hp))
    omega
  · omega
theorem endOf_kept {a : Int} {same : Bool} {l : List (Int × Int)} (h0 : 0 ≤ a) : endOf (l.take (keptGo a same l)) ≤ a := by
  have hk := keptGo_le a same l
  unfold endOf
  split
  · rename_i p hp
    rw [List.getLast?_eq_getElem?, List.length_take, Nat.min_eq_left hk, List.getElem?_take] at hp
    split at hp
    · rename_i hlt
      exact keptGo_small hlt hp
    · cases hp
  · exact h0
theorem moved_length (g : Int) (l : List (Int × Int)) : (moved g l).length = l.length := by simp [moved]
theorem pcells_last {l : List (Int × Int)} {k : Nat} (h : k < l.length) : (pcells (l.take (k + 1)))[k * 2 + 1]? = some (.int .i64 (endOf (l.take (k + 1)))) := by
  have e := take_snoc_of (List.getElem?_eq_getElem h)
  have h2 := (pcells_at (l := l.take (k + 1)) (k := k) (p := l[k]) (by rw [List.getElem?_take, if_pos (by omega)]; exact List.getElem?_eq_getElem h)).2
  rw [h2, e, endOf_snoc]

set_option maxRecDepth 100000 in
theorem Cutter.next {cv : Value} {F : List UInt8 → Nat} (h : Cutter cv F) : ∃ (t : TypeId) (v : Value) (f : FuncId), cv = .iface t v ∧ (f = 102 ∨ f = 109) ∧ (∀ w : World, (method 256 t v "Next").run Try.prog w = .ok (f, v) w) ∧ (∀ w : World, (nilAhead 256 t v "Next").run Try.prog w = .ok (some false) w) ∧
    ∀ (s : ByteArray) (W : World), s.size ≤ 1000000 → Calls Try.prog f #[v, .string s] W fun e w' => e = .returned (.int .i64 (F s.data.toList : Nat)) ∧ Below W.heap.size W w' := by
  cases h with
  | even =>
    refine ⟨_, _, 102, rfl, .inl rfl, fun w => by kernel_rfl, fun w => by kernel_rfl, fun s W hs => (evenNext_calls 64 s W hs).mono ?_⟩
    rintro e w' ⟨rfl, hb⟩
    refine ⟨?_, hb⟩
    congr 2
    rw [minF, data_length]
    omega
  | uneven => exact ⟨_, _, 109, rfl, .inr rfl, fun w => by kernel_rfl, fun w => by kernel_rfl, fun s W hs => unevenNext_calls _ _ _ _ _ s W hs⟩
theorem againGo_next {F : List UInt8 → Nat} {t : List UInt8} {old : List (Int × Int)} {b g : Int} {f x : Nat} {out : List (Int × Int)} {n : Nat} (h1 : ¬ (b ≤ (x : Int) ∧ x = t.length)) (h2 : b ≤ (x : Int) → idxI ((x : Int) - g) old = none) :
    againGo F t old b g (f + 1) x out n = againGo F t old b g f (x + F (t.drop x)) (out ++ [((x : Int), ((x + F (t.drop x) : Nat) : Int))]) (n + 1) := by
  have h3 : (if b ≤ (x : Int) then idxI ((x : Int) - g) old else none) = none := by
    split
    · rename_i h; exact h2 h
    · rfl
  rw [againGo, if_neg h1, h3]
theorem againGo_found {F : List UInt8 → Nat} {t : List UInt8} {old : List (Int × Int)} {b g : Int} {f x i : Nat} {out : List (Int × Int)} {n : Nat} (h1 : x ≠ t.length) (hb : b ≤ (x : Int)) (h2 : idxI ((x : Int) - g) old = some i) :
    againGo F t old b g (f + 1) x out n = (out ++ moved g (old.drop i), n) := by
  rw [againGo, if_neg (fun h => h1 h.2), if_pos hb, h2]
set_option maxHeartbeats 2000000 in
set_option maxRecDepth 100000 in
theorem again_calls {cv : Value} {F : List UInt8 → Nat} (hc : Cutter cv F) (B : Option Addr) (sn sc : Nat) (old : List (Int × Int)) (s : ByteArray) (a b g : Int) (w : World) (hs : s.size ≤ 100000) (hn : sn ≤ 100000) (hsc : sn ≤ sc) (hl : old.length = sn)
    (ha : -9223372036854775808 ≤ a ∧ a ≤ 9223372036854775807) (hb : -9223372036854775808 ≤ b ∧ b ≤ 9223372036854775807) (hg : -9223372036854775808 ≤ g ∧ g ≤ 9223372036854775807) (hor : ∀ p ∈ old, p.2 ≤ 9223372036854775807) (hR : RowAt w B (pcells old)) :
    Calls Try.prog 80 #[cv, .slice B sn sc, .string s, .int .i64 a, .int .i64 b, .int .i64 g] w fun e w' => ∃ v, e = .returned (.tuple #[v, .int .i64 (againR F s.data.toList old a b g).2]) ∧ Own w' w.heap.size 2 v (againR F s.data.toList old a b g).1.length (pcells (againR F s.data.toList old a b g).1) ∧ Below w.heap.size w w' := by
  have hnext := hc.next
  obtain ⟨tc, vc, fN, hcv, hfN, hmN, hmNil, hnN⟩ := hnext
  have HNx := Lib.hid hnN
  clear hnN
  have hmf : ∀ (fn : Fn) (first cap : Array Value) (w : World), (Instr.makeFunc fn first cap).run Try.prog w = .ok (.func fn first cap) w := fun _ _ _ _ => rfl
  have hF := Lib.hid hc.best.toGood
  have HR := Lib.hid hR
  have HL := Lib.hid hl
  have hwb := wholeB_wrap (n := s.size) (by omega) hg hor
  clear hR hl
  have HA := Lib.hid (fun W => all_calls hc s W (by omega))
  have hsz : s.data.toList.length = s.size := data_length s
  obtain ⟨m, hm⟩ : ∃ m, IntKind.i64.wrap ((s.size : Int) - g) = m := ⟨_, rfl⟩
  have HWh := Lib.hid (fun W hR => whole_calls m B sn sc old W (by omega) HL.out hR)
  rw [hm] at hwb
  rw [hwb] at HWh
  by_cases hbad : badP s.data.toList old a b g
  · have hRR : againR F s.data.toList old a b g = (cutA F 0 s.data.toList, (cutA F 0 s.data.toList).length) := by rw [againR, if_pos hbad]
    rw [hRR]
    clear hRR
    have hbad' := hbad
    unfold badP at hbad'
    rw [hsz] at hbad'
    have HBad := Lib.hid hbad'
    obtain ⟨L, hL⟩ : ∃ L, cutA F 0 s.data.toList = L := ⟨_, rfl⟩
    rw [hL] at HA ⊢
    obtain ⟨N, hN⟩ : ∃ N, L.length = N := ⟨_, rfl⟩
    rw [hN] at HA ⊢
    clear hbad hbad' hL hN hsz
    simp only
    by_cases h1 : a < 0
    case pos =>
      clear hwb
      subst hcv
      go_enter Try.func80, Try.ntmps80
      go_wp2_with fail
      refine Calls.mono (HA.out _) ?_
      rintro e w2 ⟨v, rfl, ho, hb2⟩
      have HO := Lib.hid ho
      have HB2 := Lib.hid hb2
      clear ho hb2
      go_wp2
      go_ret2
      exact ⟨_, rfl, HO.out, HB2.out⟩
    by_cases h2 : b < a
    case pos =>
      clear hwb
      subst hcv
      go_enter Try.func80, Try.ntmps80
      go_wp2_with fail
      refine Calls.mono (HA.out _) ?_
      rintro e w2 ⟨v, rfl, ho, hb2⟩
      have HO := Lib.hid ho
      have HB2 := Lib.hid hb2
      clear ho hb2
      go_wp2
      go_ret2
      exact ⟨_, rfl, HO.out, HB2.out⟩
    by_cases h3 : (s.size : Int) < b
    case pos =>
      clear hwb
      subst hcv
      go_enter Try.func80, Try.ntmps80
      go_wp2_with fail
      refine Calls.mono (HA.out _) ?_
      rintro e w2 ⟨v, rfl, ho, hb2⟩
      have HO := Lib.hid ho
      have HB2 := Lib.hid hb2
      clear ho hb2
      go_wp2
      go_ret2
      exact ⟨_, rfl, HO.out, HB2.out⟩
    have w1 := IntWalk.i64_in (b - a) (by omega)
    by_cases h4 : b - a < g
    case pos =>
      clear hwb
      subst hcv
      go_enter Try.func80, Try.ntmps80
      go_wp2_with fail
      refine Calls.mono (HA.out _) ?_
      rintro e w2 ⟨v, rfl, ho, hb2⟩
      have HO := Lib.hid ho
      have HB2 := Lib.hid hb2
      clear ho hb2
      go_wp2
      go_ret2
      exact ⟨_, rfl, HO.out, HB2.out⟩
    have h5 : decide (wholeGo 0 old = some ((s.size : Int) - g)) = false := by
      rw [decide_eq_false_iff_not]
      rcases HBad.out with h | h | h | h | h
      · exact absurd h h1
      · exact absurd h h2
      · exact absurd h h3
      · exact absurd h h4
      · exact h
    rw [h5] at HWh
    clear h5 hwb
    subst hcv
    go_enter Try.func80, Try.ntmps80
    go_wp2_with fail
    refine Calls.mono (HWh.out _ HR.out) ?_
    rintro e w1' ⟨rfl, hb1⟩
    have HB1 := Lib.hid hb1
    clear hb1
    go_wp2_with fail
    refine Calls.mono (HA.out _) ?_
    rintro e w2 ⟨v, rfl, ho, hb2⟩
    have HO := Lib.hid (ho.weaken HB1.out.size)
    have HB2 := Lib.hid (below_trans' HB1.out hb2)
    clear ho hb2
    go_wp2
    go_ret2
    exact ⟨_, rfl, HO.out, HB2.out⟩
  · have hRR : againR F s.data.toList old a b g = againGo F s.data.toList old b g (s.data.toList.length - (endOf (old.take (keptGo a (sameB a b g) old))).toNat + 1) (endOf (old.take (keptGo a (sameB a b g) old))).toNat (old.take (keptGo a (sameB a b g) old)) 0 := by rw [againR, if_neg hbad]
    obtain ⟨n1, n2, n3, n4, n5⟩ : 0 ≤ a ∧ a ≤ b ∧ b ≤ (s.size : Int) ∧ g ≤ b - a ∧ wholeGo 0 old = some ((s.size : Int) - g) := by
      unfold badP at hbad
      rw [hsz] at hbad
      refine ⟨?_, ?_, ?_, ?_, ?_⟩
      · by_cases h : a < 0
        · exact absurd (.inl h) hbad
        · omega
      · by_cases h : b < a
        · exact absurd (.inr (.inl h)) hbad
        · omega
      · by_cases h : (s.size : Int) < b
        · exact absurd (.inr (.inr (.inl h))) hbad
        · omega
      · by_cases h : b - a < g
        · exact absurd (.inr (.inr (.inr (.inl h)))) hbad
        · omega
      · by_cases h : wholeGo 0 old = some ((s.size : Int) - g)
        · exact h
        · exact absurd (.inr (.inr (.inr (.inr h)))) hbad
    clear hbad
    rw [decide_eq_true n5] at HWh
    have HIn := Lib.hid (wholeGo_in n5)
    have hk0 := endOf_kept (a := a) (same := sameB a b g) (l := old) n1
    have hk1 := (wholeGo_take n5 (keptGo a (sameB a b g) old)).1
    have HKl := Lib.hid (keptGo_le a (sameB a b g) old)
    have HKc := Lib.hid (fun W hR => kept_calls B sn sc old a (sameB a b g) W (by omega) HL.out hR)
    obtain ⟨K, hK⟩ : ∃ K, keptGo a (sameB a b g) old = K := ⟨_, rfl⟩
    rw [hK] at hRR hk0 hk1 HKl HKc
    obtain ⟨x0, hx0⟩ := Int.eq_ofNat_of_zero_le hk1
    have HX0 := Lib.hid hx0
    rw [hx0, Int.toNat_natCast, hsz] at hRR
    rw [hx0] at hk0
    obtain ⟨R, hR⟩ : ∃ R, againR F s.data.toList old a b g = R := ⟨_, rfl⟩
    rw [hR] at hRR ⊢
    have HRR := Lib.hid hRR
    have HK := Lib.hid hK
    have w1 := IntWalk.i64_in (b - a) (by omega)
    obtain ⟨sm, hsm⟩ : ∃ sm, sameB a b g = sm := ⟨_, rfl⟩
    rw [hsm] at HKc
    have HSm := Lib.hid hsm
    have q1 : ¬ a < 0 := by omega
    have q2 : ¬ b < a := by omega
    have q3 : ¬ (s.size : Int) < b := by omega
    have q4 : ¬ b - a < g := by omega
    have HN := Lib.hid n4
    clear hR hRR hK hx0 hsm hwb n4 hk1
    subst hcv
    go_enter Try.func80, Try.ntmps80
    go_wp2_with fail
    refine Calls.mono (HWh.out _ HR.out) ?_
    rintro e w1' ⟨rfl, hb1⟩
    have HB1 := Lib.hid hb1
    clear hb1 q4
    go_upto_region 5 with fail
    go_cut [14] (fun v wx => Hid (Own wx w.heap.size 2 v K (pcells (old.take K))) ∧ Hid (Below w.heap.size w wx))
    case first =>
      have hsm := HSm.out
      by_cases e1 : a = b
      · have f1 : (a == b) = true := by simpa using e1
        replace e1 := Lib.hid e1
        by_cases e2 : g = 0
        · obtain rfl : sm = true := by rw [← hsm, sameB, decide_eq_true ⟨e1.out, e2⟩]
          have f2 : (g == 0) = true := by simpa using e2
          replace e2 := Lib.hid e2
          clear hsm
          go_wp2_with fail
          refine Calls.mono (HKc.out _ (HR.out.below HB1.out)) ?_
          rintro e w2 ⟨v, rfl, ho, hb2⟩
          have HO := Lib.hid (ho.weaken HB1.out.size)
          have HB2 := Lib.hid (below_trans' HB1.out hb2)
          clear ho hb2
          go_wp2_with fail
          go_meet
          exact ⟨HO, HB2⟩
        · obtain rfl : sm = false := by rw [← hsm, sameB, decide_eq_false (fun h => e2 h.2)]
          have f2 : (g == 0) = false := by simpa using e2
          replace e2 := Lib.hid e2
          clear hsm
          go_wp2_with fail
          refine Calls.mono (HKc.out _ (HR.out.below HB1.out)) ?_
          rintro e w2 ⟨v, rfl, ho, hb2⟩
          have HO := Lib.hid (ho.weaken HB1.out.size)
          have HB2 := Lib.hid (below_trans' HB1.out hb2)
          clear ho hb2
          go_wp2_with fail
          go_meet
          exact ⟨HO, HB2⟩
      · obtain rfl : sm = false := by rw [← hsm, sameB, decide_eq_false (fun h => e1 h.1)]
        have f1 : (a == b) = false := by simpa using e1
        replace e1 := Lib.hid e1
        clear hsm
        go_wp2_with fail
        refine Calls.mono (HKc.out _ (HR.out.below HB1.out)) ?_
        rintro e w2 ⟨v, rfl, ho, hb2⟩
        have HO := Lib.hid (ho.weaken HB1.out.size)
        have HB2 := Lib.hid (below_trans' HB1.out hb2)
        clear ho hb2
        go_wp2_with fail
        go_meet
        exact ⟨HO, HB2⟩
    obtain ⟨HO, HB2⟩ := hcut
    obtain ⟨Ao, co, rfl, _, hro, _⟩ := HO.out.slice
    have HRo := Lib.hid hro
    clear hro
    go_upto_if 68 with fail
    go_cut [15] (fun v wx => v = .int .i64 x0 ∧ Hid (wx = wc))
    case first =>
      by_cases hK0 : K = 0
      · subst hK0
        have hx : Hid ((0 : Int) = x0) := HX0.out
        go_wp2_with fail
        go_meet
        exact ⟨by rw [← hx.out], rfl⟩
      · obtain ⟨k, hk⟩ : ∃ k : Nat, K = k + 1 := ⟨K - 1, by omega⟩
        have hlt : k < old.length := by have := HKl.out; omega
        have hat : (old.take K)[k]? = some (old[k]) := by rw [List.getElem?_take, if_pos (by omega)]; exact List.getElem?_eq_getElem hlt
        obtain ⟨bo, oo, rfl, hbo, _, h2⟩ := pair_at HRo.out hat
        have he : old[k].2 = x0 := by rw [← HX0.out, hk, take_snoc_of (List.getElem?_eq_getElem hlt), endOf_snoc]
        rw [he] at h2
        have j0 : (0 : Int) < (K : Int) := by omega
        have j1 : (K : Int) - 1 = (k : Int) := by omega
        have j2 : (k : Int) < (K : Int) := by omega
        have j3 : (0 : Int) ≤ (k : Int) := by omega
        have j4 : k ≤ 1000000 := by have := HL.out; omega
        clear hat he hk hK0
        go_wp2_with fail
        go_meet
        exact ⟨rfl, rfl⟩
    obtain ⟨rfl, hwc⟩ := hcut
    obtain rfl := hwc.out
    clear hwc
    obtain ⟨u, hu⟩ : ∃ u, Value.slice Ao K co = u := ⟨_, rfl⟩
    rw [hu] at HO ⊢
    clear hu HRo
    have n6 : 0 ≤ (s.size : Int) - g ∧ (s.size : Int) - g ≤ 9223372036854775807 := by
      obtain ⟨k1, k2, k3, k4⟩ := HIn.out
      refine ⟨k1, ?_⟩
      by_cases h0 : old = []
      · have := k3 h0; omega
      · obtain ⟨p, hp, e⟩ := k4 h0
        have := hor p hp; omega
    have HKl2 : Hid ((old.take K).length = K) := by rw [Hid, List.length_take]; have := HKl.out; omega
    have hKs : K ≤ sn := by have := HKl.out; have := HL.out; omega
    go_wp2_with fail
    go_loopw [14, 15, 16] (fun v vx vn wr => ∃ (x n : Nat) (out : List (Int × Int)), x ≤ s.size ∧ n ≤ x ∧ vx = .int .i64 x ∧ vn = .int .i64 n ∧ Hid (out.length ≤ sn + x ∧ ∃ f, s.size - x ≤ f ∧ R = againGo F s.data.toList old b g (f + 1) x out n) ∧ Hid (Own wr w.heap.size 2 v out.length (pcells out)) ∧ Hid (Below w.heap.size w wr)) (fun _ vx _ _ => s.size - (intOf vx).toNat)
    case atStart => exact ⟨x0, 0, old.take K, by omega, by omega, rfl, rfl, ⟨by rw [HKl2.out]; omega, _, Nat.le_refl _, HRR.out⟩, by rw [Hid, HKl2.out]; exact HO.out, HB2⟩
    case round =>
      obtain ⟨x, n, out, hx, hnx, rfl, rfl, HC, HO, HW⟩ := hrel
      have w3 := IntWalk.i64_in ((x : Int) - g) (by omega)
      obtain ⟨N, hN⟩ : ∃ N, out.length = N := ⟨_, rfl⟩
      rw [hN] at HO
      have HNo := Lib.hid hN
      have hN2 : N ≤ 200000 := by have := HC.out.1; omega
      clear hN
      have hG2 : ∀ p ∈ old, (-9223372036854775808 ≤ p.1 + g ∧ p.1 + g ≤ 9223372036854775807) ∧ -9223372036854775808 ≤ p.2 + g ∧ p.2 + g ≤ 9223372036854775807 := fun p hp => by
        have := HIn.out.2.1 p hp
        omega
      go_upto_if 78 with fail
      go_cut [17] (fun _ wx => Hid (x < s.size ∧ (b ≤ (x : Int) → idxI ((x : Int) - g) old = none)) ∧ Hid (Own wx w.heap.size 2 u14 N (pcells out)) ∧ Hid (Below w.heap.size w wx))
      case first =>
        by_cases hbx : b ≤ x
        · have HBe := behind_calls B sn sc old x s.size g wr (by omega) HL.out hsc (HR.out.below HW.out) (by have := HN.out; omega) hG2
          clear hG2
          by_cases hxs : x = s.size
          · have HE : Hid (R = (out, n)) := by
              obtain ⟨_, f, _, hR⟩ := HC.out
              rw [Hid, hR, againGo, if_pos ⟨hbx, by rw [hsz]; exact hxs⟩]
            subst hxs
            go_wp2_with fail
            refine HBe.mono ?_
            rintro e w2 ⟨hcs, hb2⟩
            obtain rfl : e = .returned (.tuple #[.slice none 0 0, .bool true]) := by
              rcases hcs with ⟨_, h⟩ | ⟨h, _⟩ | ⟨h, _⟩
              · exact h
              · exact absurd rfl h
              · exact absurd rfl h
            have HO2 := Lib.hid (HO.out.below hb2)
            have HW2 := Lib.hid (below_trans' HW.out hb2)
            clear hcs hb2
            go_wp2_with (at_builtin; refine appO el_spans w.heap.size rfl _ _ rfl rfl HO2.out (news := []) rfl rfl (.inl rfl) (by simp) (by omega) HW2.out.size ?_; intro v1 w3 hown1 hg1 _; have HO3 := Lib.hid hown1; have HB3 : Hid (Below w.heap.size w w3) := Own.grown_below HO2.out HW2.out hg1 (Nat.le_refl _); clear hown1 hg1)
            go_ret2
            rw [HE.out]
            refine ⟨_, rfl, ?_, HB3.out⟩
            have := HO3.out
            simpa [HNo.out] using this
          · have hlt : x < s.size := by omega
            have hx2 : (x : Int) ≠ (s.size : Int) := by omega
            clear hxs
            go_wp2_with fail
            refine HBe.mono ?_
            rintro e w2 ⟨hcs, hb2⟩
            have HOq := Lib.hid (HO.out.below hb2)
            have HWq := Lib.hid (below_trans' HW.out hb2)
            have HZ2 := Lib.hid hb2.size
            clear hb2
            rcases hcs with ⟨h, _⟩ | ⟨_, hi, rfl⟩ | ⟨_, i, v, hi, rfl, hov⟩
            · exact absurd h hx2
            rotate_left
            · have HE : Hid (R = (out ++ moved g (old.drop i), n)) := by
                obtain ⟨_, f, _, hR⟩ := HC.out
                rw [Hid, hR]
                exact againGo_found (by rw [hsz]; omega) hbx hi
              obtain ⟨Ai, ci, rfl, _, hri, _⟩ := hov.slice
              have HRi := Lib.hid hri
              have hil : (moved g (old.drop i)).length = old.length - i := by rw [moved_length, List.length_drop]
              have HIl := Lib.hid hil
              obtain ⟨M, hM⟩ : ∃ M, old.length - i = M := ⟨_, rfl⟩
              rw [hM] at HIl ⊢
              have hM2 : M ≤ 100000 := by have := HL.out; omega
              clear hi hov hri hil hM
              go_wp2_with (at_builtin; refine appO el_spans w.heap.size rfl _ _ rfl rfl HOq.out (news := pcells (moved g (old.drop i))) rfl (by rw [pcells_length, HIl.out]) HRi.out (one_pcells _) (by omega) HWq.out.size ?_; intro v1 w3 hown1 hg1 _; have HO3 := Lib.hid hown1; have HB3 : Hid (Below w.heap.size w w3) := Own.grown_below HOq.out HWq.out hg1 (Nat.le_refl _); clear hown1 hg1)
              go_ret2
              rw [HE.out]
              refine ⟨_, rfl, ?_, HB3.out⟩
              have := HO3.out
              rw [← pcells_append, ← HNo.out, ← HIl.out, ← List.length_append] at this
              exact this
            have HIdx : Hid (b ≤ (x : Int) → idxI ((x : Int) - g) old = none) := fun _ => hi
            clear hi
            go_wp2_with fail
            go_meet
            exact ⟨⟨hlt, HIdx.out⟩, HOq, HWq⟩
        · have hlt : x < s.size := by omega
          clear hG2
          go_wp2_with fail
          go_meet
          exact ⟨⟨hlt, fun h => absurd h (by omega)⟩, HO, HW⟩
      clear HO HW hG2
      obtain ⟨HI, HO, HW⟩ := hcut
      have hlt := HI.out.1
      have hne : s.data.toList.drop x ≠ [] := by
        intro e
        have := congrArg List.length e
        rw [List.length_drop, hsz, List.length_nil] at this
        omega
      have hq1 := hF.out.pos _ hne
      have hq2 := hF.out.le (s.data.toList.drop x)
      rw [List.length_drop, hsz] at hq2
      have hcall := fun W => HNx.out (s.extract x s.size) W (by rw [ByteArray.size_extract]; omega)
      rw [extract_rest] at hcall
      have hE2 : ∃ f, s.size - (x + F (s.data.toList.drop x)) ≤ f ∧ R = againGo F s.data.toList old b g (f + 1) (x + F (s.data.toList.drop x)) (out ++ [((x : Int), ((x + F (s.data.toList.drop x) : Nat) : Int))]) (n + 1) := by
        obtain ⟨_, f, hf, hR⟩ := HC.out
        obtain ⟨f', rfl⟩ : ∃ f', f = f' + 1 := ⟨f - 1, by omega⟩
        refine ⟨f', by omega, ?_⟩
        rw [hR]
        exact againGo_next (by rw [hsz]; omega) HI.out.2
      obtain ⟨q, hq⟩ : ∃ q, F (s.data.toList.drop x) = q := ⟨_, rfl⟩
      rw [hq] at hq1 hq2 hcall hE2
      have HE2 := Lib.hid hE2
      have HCall := Lib.hid hcall
      have w4 := IntWalk.i64_in ((x : Int) + q) (by omega)
      have hxq : x + q ≤ s.size := by omega
      have j1 : ¬ (q : Int) < 1 := by omega
      have j2 : ¬ (s.size : Int) - (x : Int) < (q : Int) := by omega
      clear hne hcall hE2 hq hq2
      go_upto_region 13 with fail
      go_cut [19] (fun v wx => v = .int .i64 (q : Int) ∧ Hid (Own wx w.heap.size 2 u14 N (pcells out)) ∧ Hid (Below w.heap.size w wx))
      case first =>
        rcases hfN with rfl | rfl
        · go_region_held3 (fun _ => True) (trivial)
            (first | (go_at_call 102; refine Calls.mono (HCall.out _) ?_; rintro e w5 ⟨rfl, hb5⟩; have HW5 : Hid (Below w.heap.size w w5) := (by first | exact below_trans' HW.out hb5 | exact below_trans' (below_drew HW.out) hb5); have HO5 : Hid (Own w5 w.heap.size 2 u14 N (pcells out)) := (by first | exact HO.out.below hb5 | exact HO.out.below ((below_drew (Below.refl _ _)).trans hb5)); clear hb5))
          all_goals
            go_wp2_with fail
            go_meet
            exact ⟨rfl, HO5, HW5⟩
        · go_region_held3 (fun _ => True) (trivial)
            (first | (go_at_call 109; refine Calls.mono (HCall.out _) ?_; rintro e w5 ⟨rfl, hb5⟩; have HW5 : Hid (Below w.heap.size w w5) := (by first | exact below_trans' HW.out hb5 | exact below_trans' (below_drew HW.out) hb5); have HO5 : Hid (Own w5 w.heap.size 2 u14 N (pcells out)) := (by first | exact HO.out.below hb5 | exact HO.out.below ((below_drew (Below.refl _ _)).trans hb5)); clear hb5))
          all_goals
            go_wp2_with fail
            go_meet
            exact ⟨rfl, HO5, HW5⟩
      obtain ⟨rfl, HO5, HW5⟩ := hcut
      have HTe : Hid (pcells (out ++ [((x : Int), ((x + q : Nat) : Int))]) = pcells out ++ [.int .i64 x, .int .i64 (x + q)]) := by rw [Hid, pcells_append]; rfl
      go_wp2_with (at_builtin; refine appO el_spans w.heap.size rfl _ _ rfl rfl (HO5.out.alloc _) (news := [.int .i64 x, .int .i64 (x + q)]) rfl rfl (rowAt_alloc _ [.int .i64 x, .int .i64 (x + q)] _) (one_pair _ _) (by omega) (by have := HW5.out.size; simp; omega) ?_; intro v1 w6 hown1 hg1 _; have HO6 := Lib.hid hown1; have HB6 : Hid (Below w.heap.size w w6) := Own.grown_below (HO5.out.alloc _) (HW5.out.alloc HW5.out.size _) hg1 (Nat.le_refl _); clear hown1 hg1)
      go_roundw
      case rel =>
        refine ⟨x + q, n + 1, out ++ [((x : Int), ((x + q : Nat) : Int))], hxq, by omega, by go_num, by go_num, ⟨?_, HE2.out⟩, ?_, HB6⟩
        · have := HC.out.1
          rw [List.length_append]
          simp only [List.length_cons, List.length_nil]
          omega
        · rw [HTe.out, List.length_append, HNo.out]
          exact HO6
      case measure => simp [intOf]; omega
end Go.Proofs.Ytiocealhadlggaa
