/- The law CdcMeets. -/
import Derived.Test.YtoojbddnbeachaaCdcUse
import Derived.Deep.RegionHeld3
import Derived.Deep.DeepCutAuto
namespace Go.Proofs.Ytoojbddnbeachaa
open Go.RowKit
attribute [local go_sem] max2_int min2_int max_two min_two

theorem row_last (W : World) (cs : List Value) (t : TypeId) (g : Nat) (hg : g = W.heap.size) : RowAt (W.alloc (.cells cs.toArray t)) (some ⟨g, 0, none⟩) cs := by
  subst hg; exact rowAt_alloc W cs t
theorem row_drew {W : World} {A : Option Addr} {cs : List Value} (h : RowAt W A cs) : RowAt W.drew A cs := h
theorem cut_two (a b c h s : Int) (t u : ByteArray) (ht : t.size + u.size ≤ 1000000) (A : Option Addr) (W : World) (hR : RowAt W A [.string t, .string u]) :
    Calls Try.prog 38 #[rule a b c h s, .slice A 2 2] W fun e w' => ∃ A2 cap, e = .returned (.slice A2 (cutA (firstN a b c h s) 0 (t.data.toList ++ u.data.toList)).length cap) ∧ (cutA (firstN a b c h s) 0 (t.data.toList ++ u.data.toList)).length ≤ cap ∧ RowAt w' A2 (pcells (cutA (firstN a b c h s) 0 (t.data.toList ++ u.data.toList))) ∧ Below W.heap.size W w' := by
  have ht1 : totalLen [t, u] = t.size + u.size := by simp [totalLen]
  have hj : (joinB [t, u]).data.toList = t.data.toList ++ u.data.toList := by rw [joinB_data]; simp
  have h := cdcCut_calls a b c h s A 2 2 [t, u] W rfl (by omega) (by omega) (by rw [ht1]; omega) hR
  rw [hj] at h
  refine h.mono ?_
  rintro e w' ⟨v, rfl, hown, hb⟩
  obtain ⟨A2, cap, rfl, h1, h2, _⟩ := hown.slice
  exact ⟨A2, cap, rfl, h1, h2, hb⟩
/-- Where two texts are alike from two cuts on, what follows is alike. -/
theorem cut_meets {F : List UInt8 → Nat} (hF : Good F) {a b s : List UInt8} {i k x1 x2 : Nat} (hp : x1 + (b ++ s).length = x2 + (a ++ s).length) (h1 : a.length ≤ x1)
    (d1 : (cutA F 0 (a ++ s)).drop i = cutA F (0 + x1) ((a ++ s).drop x1)) (d2 : (cutA F 0 (b ++ s)).drop k = cutA F (0 + x2) ((b ++ s).drop x2)) :
    ∃ l : List (Int × Int), (cutA F 0 (a ++ s)).drop i = (l.map fun p => (p.1 + (x1 : Int), p.2 + (x1 : Int))) ∧ (cutA F 0 (b ++ s)).drop k = (l.map fun p => (p.1 + (x2 : Int), p.2 + (x2 : Int))) := by
  rw [List.length_append, List.length_append] at hp
  have e1 : (a ++ s).drop x1 = s.drop (x1 - a.length) := by rw [List.drop_append, List.drop_eq_nil_of_le h1, List.nil_append]
  have e2 : (b ++ s).drop x2 = s.drop (x2 - b.length) := by rw [List.drop_append, List.drop_eq_nil_of_le (by omega), List.nil_append]
  rw [e1, cutA_shift hF x1 _ 0 _ (Nat.le_refl _)] at d1
  rw [e2, show x2 - b.length = x1 - a.length by omega, cutA_shift hF x2 _ 0 _ (Nat.le_refl _)] at d2
  exact ⟨_, d1, d2⟩

set_option maxHeartbeats 8000000 in
set_option maxRecDepth 100000 in
theorem cdcMeets_calls (a b s : ByteArray) (w : World) (_ha : a.size ≤ 140737488351232) (_hb : b.size ≤ 140737488351232) (_hs : s.size ≤ 140737488351232) :
    Calls Try.prog 11 #[.string a, .string b, .string s] w fun e w' => e = .returned (.bool true) ∧ Below w.heap.size w w' := by
  by_cases hbig : a.size ≤ 600 ∧ b.size ≤ 600 ∧ s.size ≤ 900
  case neg =>
    by_cases h1 : a.size ≤ 600
    all_goals by_cases h2 : b.size ≤ 600
    all_goals by_cases h4 : s.size ≤ 900
    all_goals first | (exfalso; omega) | skip
    all_goals
      clear hbig
      go_enter Try.func11, Try.ntmps11
      go_wp2_with fail
      refine (cdcAlive_calls _).mono ?_
      rintro e w1 ⟨rfl, hb1⟩
      have HB := Lib.hid hb1; clear hb1
      go_wp2
      go_ret
      exact ⟨rfl, HB.out⟩
  obtain ⟨h1, h2, h3⟩ := hbig
  obtain ⟨F, hFe⟩ : ∃ F, firstN 32 64 128 7 5 = F := ⟨_, rfl⟩
  have hF : Good F := by rw [← hFe]; exact good_first _ _ _ _ _
  have HF := Lib.hid hF
  have HA := Lib.hid (fun A W hR => cut_two 32 64 128 7 5 a s (by omega) A W hR)
  have HB := Lib.hid (fun A W hR => cut_two 32 64 128 7 5 b s (by omega) A W hR)
  rw [hFe] at HA HB
  clear hF hFe
  obtain ⟨l, hl⟩ : ∃ l, cutA F 0 (a.data.toList ++ s.data.toList) = l := ⟨_, rfl⟩
  obtain ⟨m, hm⟩ : ∃ m, cutA F 0 (b.data.toList ++ s.data.toList) = m := ⟨_, rfl⟩
  rw [hl] at HA
  rw [hm] at HB
  have hll := cutA_length HF.out _ 0 (a.data.toList ++ s.data.toList) (Nat.le_refl _)
  have hml := cutA_length HF.out _ 0 (b.data.toList ++ s.data.toList) (Nat.le_refl _)
  rw [hl, List.length_append, data_length, data_length] at hll
  rw [hm, List.length_append, data_length, data_length] at hml
  have HL := Lib.hid hl
  have HM := Lib.hid hm
  clear hl hm
  go_enter Try.func11, Try.ntmps11
  go_wp2_with fail
  refine (cdcAlive_calls _).mono ?_
  rintro e w1 ⟨rfl, hb1⟩
  have HB1 := Lib.hid hb1; clear hb1
  go_wp2_with fail
  refine (default_calls _).mono ?_
  rintro e w2 ⟨rfl, hb2⟩
  have HB2 := Lib.hid (below_trans' HB1.out hb2); clear hb2
  have hz : w.heap.size ≤ w2.heap.size := HB2.out.size
  have HBX := Lib.hid (HB2.out.alloc HB2.out.size (.cells #[.int .i64 32, .int .i64 64, .int .i64 128, .int .i64 7, .int .i64 5] 68))
  have HR2 := Lib.hid (rowAt_alloc w2 (icells [32, 64, 128, 7, 5]) 68)
  obtain ⟨q0, q1, q2, q3, q4⟩ := rule_cells HR2.out
  go_upto_region 4 with fail
  go_cut [8, 9] (fun v1 v2 wx => ∃ A1 c1 A2 c2, v1 = .slice A1 l.length c1 ∧ v2 = .slice A2 m.length c2 ∧ Hid (l.length ≤ c1 ∧ m.length ≤ c2) ∧ Hid (RowAt wx A1 (pcells l)) ∧ Hid (RowAt wx A2 (pcells m)) ∧ Hid (Below w.heap.size w wx))
  case first =>
    go_region_held3 (fun w' => w'.cell? ⟨w2.heap.size, 0, none⟩ = some (.int .i64 32) ∧ w'.cell? ⟨w2.heap.size, 1, none⟩ = some (.int .i64 64) ∧ w'.cell? ⟨w2.heap.size, 2, none⟩ = some (.int .i64 128) ∧ w'.cell? ⟨w2.heap.size, 3, none⟩ = some (.int .i64 7) ∧ w'.cell? ⟨w2.heap.size, 4, none⟩ = some (.int .i64 5)) (first | exact ⟨q0, q1, q2, q3, q4⟩ | exact ⟨r0, r1, r2, r3, r4⟩ | exact ⟨s0, s1, s2, s3, s4⟩ | go_keep)
      (first
        | (go_at_call 38; rename Hid (RowAt _ _ (pcells l)) => HRow1; refine Calls.mono (HB.out _ _ (by first | exact row_last _ _ _ _ rfl | exact (row_drew (row_last _ _ _ _ (by simp))).below HPre.out | exact (row_drew ((row_last _ _ _ _ (by simp)).alloc _)).below HPre.out)) ?_; rintro e w5 ⟨A2, c2, rfl, hc2, hrow2, hb5⟩; have HRow2 := Lib.hid hrow2; have HRow3 : Hid (RowAt w5 A1 (pcells l)) := (by first | exact HRow1.out.below hb5 | exact (HRow1.out.alloc _).below hb5); have HW5 : Hid (Below w.heap.size w w5) := (by first | exact below_trans' HW4.out hb5 | exact below_trans' (HW4.out.alloc HW4.out.size _) hb5); have HR5 : Hid (RowAt w5 (some ⟨w2.heap.size, 0, none⟩) (icells [32, 64, 128, 7, 5])) := (by first | exact HR4.out.below hb5 | exact (HR4.out.alloc _).below hb5); obtain ⟨s0, s1, s2, s3, s4⟩ := rule_cells HR5.out; clear hrow2 hb5)
        | (go_at_call 38; refine Calls.mono (HA.out _ _ (by first | exact row_drew (row_last _ _ _ _ (by simp)) | exact row_drew ((row_last _ _ _ _ (by simp)).alloc _))) ?_; rintro e w4 ⟨A1, c1, rfl, hc1, hrow1, hb4⟩; have HRow1 := Lib.hid hrow1; have HPre := Lib.hid hb4; have HW4 : Hid (Below w.heap.size w w4) := (by first | exact below_trans' (below_drew (HBX.out.alloc (by simp; omega) _)) hb4 | exact below_trans' (below_drew ((HBX.out.alloc (by simp; omega) _).alloc (by simp; omega) _)) hb4); have HR4 : Hid (RowAt w4 (some ⟨w2.heap.size, 0, none⟩) (icells [32, 64, 128, 7, 5])) := (by first | exact (row_drew (HR2.out.alloc _)).below hb4 | exact (row_drew ((HR2.out.alloc _).alloc _)).below hb4); obtain ⟨r0, r1, r2, r3, r4⟩ := rule_cells HR4.out; clear hrow1 hb4))
    all_goals
      go_wp2_with fail
      go_meet
      exact ⟨A1, c1, A2, c2, rfl, rfl, ⟨hc1, hc2⟩, HRow3.out, HRow2.out, HW5.out⟩
  case rest =>
    obtain ⟨A1, c1, A2, c2, rfl, rfl, HC, HX, HY, HW0⟩ := hcut
    obtain ⟨hc1, hc2⟩ := HC.out
    clear q0 q1 q2 q3 q4
    go_wp2
    go_loopw [10, 11] (fun x y wr => ∃ i k : Nat, i ≤ l.length ∧ k ≤ m.length ∧ x = .int .i64 i ∧ y = .int .i64 k ∧ Hid (Below wc.heap.size wc wr)) (fun x y _ => (l.length - (intOf x).toNat) + (m.length - (intOf y).toNat))
    case atStart => exact ⟨0, 0, Nat.zero_le _, Nat.zero_le _, rfl, rfl, Below.refl _ _⟩
    case round =>
      obtain ⟨i, k, hi, hk, rfl, rfl, HW⟩ := hrel
      by_cases hil : i < l.length
      case neg =>
        obtain rfl : i = l.length := by omega
        go_wp2
        go_ret
        exact ⟨rfl, below_trans' HW0.out HW.out⟩
      by_cases hkm : k < m.length
      case neg =>
        obtain rfl : k = m.length := by omega
        go_wp2
        go_ret
        exact ⟨rfl, below_trans' HW0.out HW.out⟩
      obtain ⟨p, hp⟩ := some_at hil
      obtain ⟨q, hq⟩ := some_at hkm
      obtain ⟨b1, o1, rfl, hb1, s1, s2⟩ := pair_at (HX.out.below HW.out) hp
      obtain ⟨b2, o2, rfl, hb2, s3, s4⟩ := pair_at (HY.out.below HW.out) hq
      obtain ⟨x1, g1, g2, _, _, _, g6, _, _⟩ := cutA_at HF.out i 0 _ p (by rw [HL.out]; exact hp)
      obtain ⟨x2, f1, f2, _, _, _, f6, _, _⟩ := cutA_at HF.out k 0 _ q (by rw [HM.out]; exact hq)
      rw [List.length_append, data_length, data_length] at g1 f1
      rw [Nat.zero_add] at g2 f2
      rw [g2] at s1
      rw [f2] at s3
      obtain ⟨P, hP⟩ : ∃ P : Int, (a.size : Int) + (s.size : Int) - (x1 : Int) = P := ⟨_, rfl⟩
      obtain ⟨Q, hQ⟩ : ∃ Q : Int, (b.size : Int) + (s.size : Int) - (x2 : Int) = Q := ⟨_, rfl⟩
      have HG := Lib.hid g6
      have HH := Lib.hid f6
      clear s2 s4 g2 f2 g6 f6 hp hq
      have y1 := IntWalk.i64_in ((a.size : Int) + (s.size : Int)) (by omega)
      have y2 := IntWalk.i64_in ((b.size : Int) + (s.size : Int)) (by omega)
      have y3 := IntWalk.i64_in ((a.size : Int) + (s.size : Int) - (x1 : Int)) (by omega)
      have y4 := IntWalk.i64_in ((b.size : Int) + (s.size : Int) - (x2 : Int)) (by omega)
      have hP0 : 0 ≤ P ∧ P ≤ 1500 := by omega
      have hQ0 : 0 ≤ Q ∧ Q ≤ 1500 := by omega
      obtain ⟨P0, P1⟩ := hP0
      obtain ⟨Q0, Q1⟩ := hQ0
      have HPe := Lib.hid hP
      have HQe := Lib.hid hQ
      rw [hP] at y3
      rw [hQ] at y4
      have j1 : (0 : Int) ≤ (i : Int) := by omega
      have j2 : (i : Int) < (l.length : Int) := by omega
      have j3 : (0 : Int) ≤ (k : Int) := by omega
      have j4 : (k : Int) < (m.length : Int) := by omega
      by_cases hPQ : P = Q
      case neg =>
        have hne : (P == Q) = false := by simpa using hPQ
        by_cases hgt : Q < P
        · go_wp2_with fail
          go_big_quiet (fail)
          go_wp2
          go_roundw
          case rel => exact ⟨i + 1, k, by omega, by omega, by go_num, rfl, below_drewN HW.out _⟩
          case measure => simp [intOf]; omega
        · go_wp2_with fail
          go_big_quiet (fail)
          go_wp2
          go_roundw
          case rel => exact ⟨i, k + 1, by omega, by omega, rfl, by go_num, below_drewN HW.out _⟩
          case measure => simp [intOf]; omega
      subst hPQ
      by_cases hPs : P ≤ (s.size : Int)
      case neg =>
        go_wp2_with fail
        go_big_quiet (fail)
        go_wp2
        go_roundw
        case rel => exact ⟨i, k + 1, by omega, by omega, rfl, by go_num, below_drewN HW.out _⟩
        case measure => simp [intOf]; omega
      obtain ⟨d, e1, e2⟩ := cut_meets HF.out (i := i) (k := k) (x1 := x1) (x2 := x2) (by rw [List.length_append, List.length_append, data_length, data_length, data_length]; omega) (by rw [data_length]; omega) HG.out HH.out
      rw [HL.out] at e1
      rw [HM.out] at e2
      obtain ⟨D, hD⟩ : ∃ D, d.length = D := ⟨_, rfl⟩
      have l1 : l.length - i = D := by have := congrArg List.length e1; rw [List.length_drop, List.length_map] at this; omega
      have l2 : m.length - k = D := by have := congrArg List.length e2; rw [List.length_drop, List.length_map] at this; omega
      have HD := Lib.hid hD
      have HE1 := Lib.hid e1
      have HE2 := Lib.hid e2
      have z1 : (l.length : Int) - (i : Int) = (D : Int) := by omega
      have z2 : (m.length : Int) - (k : Int) = (D : Int) := by omega
      have hil2 : ((i : Int) == (l.length : Int)) = false := by simp; omega
      have hkm2 : ((k : Int) == (m.length : Int)) = false := by simp; omega
      have hlD : l.length = i + D := by omega
      have hmD : m.length = k + D := by omega
      have HlD := Lib.hid hlD
      have HmD := Lib.hid hmD
      clear hD e1 e2 l1 l2 hlD hmD
      go_wp2_with fail
      go_big_quiet (fail)
      go_wp2_with fail
      go_loopw [14] (fun x wy => ∃ j : Nat, j ≤ D ∧ x = .int .i64 j ∧ Hid (Below wc.heap.size wc wy)) (fun x _ => D - (intOf x).toNat)
      case atStart => exact ⟨0, Nat.zero_le _, rfl, below_drewN HW.out _⟩
      case round =>
        rename World => wy
        obtain ⟨j, hj, rfl, HW2⟩ := hrel
        clear s1 s3
        have n0 := IntWalk.i64_in ((i : Int) + (j : Int)) (by omega)
        by_cases hjD : j < D
        · obtain ⟨⟨d1, d2⟩, hd⟩ := some_at (l := d) (k := j) (by rw [HD.out]; exact hjD)
          have hp : l[i + j]? = some (d1 + (x1 : Int), d2 + (x1 : Int)) := by
            have := congrArg (fun z => z[j]?) HE1.out
            simp only [List.getElem?_drop, List.getElem?_map, hd, Option.map_some] at this
            exact this
          have hq : m[k + j]? = some (d1 + (x2 : Int), d2 + (x2 : Int)) := by
            have := congrArg (fun z => z[j]?) HE2.out
            simp only [List.getElem?_drop, List.getElem?_map, hd, Option.map_some] at this
            exact this
          obtain ⟨b3, o3, E3, hb3, t1, t2⟩ := pair_at (HX.out.below HW2.out) hp
          obtain ⟨b4, o4, E4, hb4, t3, t4⟩ := pair_at (HY.out.below HW2.out) hq
          injection E3 with E3
          injection E3 with E31 E32
          subst E31
          subst E32
          injection E4 with E4
          injection E4 with E41 E42
          subst E41
          subst E42
          obtain ⟨xa, ga1, ga2, ga3, ga4, _⟩ := cutA_at HF.out (i + j) 0 _ _ (by rw [HL.out]; exact hp)
          obtain ⟨xb, gb1, gb2, gb3, gb4, _⟩ := cutA_at HF.out (k + j) 0 _ _ (by rw [HM.out]; exact hq)
          rw [List.length_append, data_length, data_length] at ga1 ga4 gb1 gb4
          simp only at ga2 ga3 gb2 gb3 t1 t2 t3 t4
          obtain ⟨u1, hu1⟩ : ∃ u1 : Int, d1 + (x1 : Int) = u1 := ⟨_, rfl⟩
          obtain ⟨u2, hu2⟩ : ∃ u2 : Int, d2 + (x1 : Int) = u2 := ⟨_, rfl⟩
          obtain ⟨u3, hu3⟩ : ∃ u3 : Int, d1 + (x2 : Int) = u3 := ⟨_, rfl⟩
          obtain ⟨u4, hu4⟩ : ∃ u4 : Int, d2 + (x2 : Int) = u4 := ⟨_, rfl⟩
          rw [hu1] at t1 ga2
          rw [hu2] at t2 ga3
          rw [hu3] at t3 gb2
          rw [hu4] at t4 gb3
          obtain ⟨G, hG⟩ : ∃ G : Int, u2 - u1 = G := ⟨_, rfl⟩
          have hG2 : u4 - u3 = G := by omega
          have w1 := IntWalk.i64_in (u2 - u1) (by omega)
          have w2' := IntWalk.i64_in (u4 - u3) (by omega)
          rw [hG] at w1
          rw [hG2] at w2'
          have n1 := IntWalk.i64_in ((k : Int) + (j : Int)) (by have := HmD.out; omega)
          have n2 : ((i : Int) + (j : Int)).toNat = i + j := by omega
          have n3 : ((k : Int) + (j : Int)).toNat = k + j := by omega
          have n4 : (0 : Int) ≤ (i : Int) + (j : Int) := by omega
          have n5 : (i : Int) + (j : Int) < (l.length : Int) := by have := HlD.out; omega
          have n6 : (0 : Int) ≤ (k : Int) + (j : Int) := by omega
          have n7 : (k : Int) + (j : Int) < (m.length : Int) := by have := HmD.out; omega
          clear hp hq hd ga1 ga2 ga3 ga4 gb1 gb2 gb3 gb4 hu1 hu2 hu3 hu4
          go_wp2_with fail
          go_big_quiet (fail)
          go_wp2
          go_roundw
          case rel => exact ⟨j + 1, by omega, by go_num, below_drewN HW2.out _⟩
          case measure => simp [intOf]; omega
        · obtain rfl : j = D := by omega
          have n5 : ¬ (i : Int) + (j : Int) < (l.length : Int) := by have := HlD.out; omega
          go_wp2
          go_ret
          exact ⟨rfl, below_trans' HW0.out HW2.out⟩
end Go.Proofs.Ytoojbddnbeachaa
