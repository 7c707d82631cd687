/- The law CdcSame. -/
import Derived.Test.YtoojbddnbeachaaCdcUse
namespace Go.Proofs.Ytoojbddnbeachaa
open Go.RowKit
attribute [local go_sem] max2_int min2_int max_two min_two

def up (y : Nat) (l : List (Int × Int)) : List (Int × Int) := l.map fun p => (p.1 + (y : Int), p.2 + (y : Int))
/-- A text that ends at a cut, twice. -/
theorem cut_twice {F : List UInt8 → Nat} (hF : Best F) {l : List UInt8} {n y : Nat} {p : Int × Int} (hp : (cutA F 0 l)[n]? = some p) (hy : p.1 = (y : Int)) :
    cutA F 0 (l.take y ++ l.take y) = (cutA F 0 l).take n ++ up y ((cutA F 0 l).take n) := by
  have h1 := cut_pre hF n 0 l p y hp (by simpa using hy) (l.take y)
  have h2 := cut_pre hF n 0 l p y hp (by simpa using hy) []
  rw [cutA_nil, List.append_nil, List.append_nil] at h2
  have h3 := cutA_shift hF.toGood y _ 0 (l.take y) (Nat.le_refl _)
  rw [h1, h3, h2]; rfl

set_option maxHeartbeats 8000000 in
set_option maxRecDepth 100000 in
theorem cdcSame_calls (t : ByteArray) (w : World) (_ht : t.size ≤ 140737488351232) :
    Calls Try.prog 13 #[.string t] w fun e w' => e = .returned (.bool true) ∧ Below w.heap.size w w' := by
  by_cases h1 : t.size ≤ 900
  case neg =>
    go_enter Try.func13, Try.ntmps13
    go_wp2_with fail
    refine (cdcAlive_calls _).mono ?_
    rintro e w1 ⟨rfl, hb1⟩
    have HB := Lib.hid hb1; clear hb1
    go_wp2
    go_ret
    exact ⟨rfl, HB.out⟩
  obtain ⟨F, hFe⟩ : ∃ F, firstN 32 64 128 7 5 = F := ⟨_, rfl⟩
  have hF : Best F := by rw [← hFe]; exact best_first _ _ _ _ _
  have HF := Lib.hid hF
  have HCut := Lib.hid (fun A W hR => cut_of 32 64 128 7 5 t (by omega) A W hR)
  have HCut2 := Lib.hid (fun (u : ByteArray) (hu : u.size ≤ 900) A W hR => cut_of2 32 64 128 7 5 u (by omega) A W hR)
  rw [hFe] at HCut HCut2
  clear hF hFe
  obtain ⟨l, hl⟩ : ∃ l, cutA F 0 t.data.toList = l := ⟨_, rfl⟩
  rw [hl] at HCut
  have hll := cutA_length HF.out.toGood _ 0 t.data.toList (Nat.le_refl _)
  rw [hl, data_length] at hll
  have HL := Lib.hid hl
  clear hl
  go_enter Try.func13, Try.ntmps13
  go_wp2_with fail
  refine (cdcAlive_calls _).mono ?_
  rintro e w1 ⟨rfl, hb1⟩
  have HB1 := Lib.hid hb1; clear hb1
  go_wp2_with fail
  refine (default_calls _).mono ?_
  rintro e w2 ⟨rfl, hb2⟩
  have HB2 := Lib.hid (below_trans' HB1.out hb2); clear hb2
  have HR2 := Lib.hid (rowAt_alloc w2 (icells [32, 64, 128, 7, 5]) 68)
  go_wp2_with fail
  refine Calls.mono (HCut.out _ _ (row_alloc2 w2 (.cells #[.int .i64 32, .int .i64 64, .int .i64 128, .int .i64 7, .int .i64 5] 68) [.string t] 9)) ?_
  rintro e w3 ⟨A, cap, rfl, hcap, hrow, hb3⟩
  have HRow := Lib.hid hrow
  have HR3 := Lib.hid ((HR2.out.alloc (.cells #[.string t] 9)).below hb3)
  have HB3 := Lib.hid (below_trans' ((HB2.out.alloc HB2.out.size (.cells #[.int .i64 32, .int .i64 64, .int .i64 128, .int .i64 7, .int .i64 5] 68)).alloc (by have := HB2.out.size; simp; omega) (.cells #[.string t] 9)) hb3)
  clear hrow hb3
  obtain ⟨q0, q1, q2, q3, q4⟩ := rule_cells HR3.out
  by_cases hl0 : l.length < 2
  · go_wp2
    go_ret
    exact ⟨rfl, HB3.out⟩
  obtain ⟨N, hN⟩ : ∃ N : Nat, (l.length : Int) - 1 = N := ⟨l.length - 1, by omega⟩
  have hNl : N < l.length := by omega
  obtain ⟨p, hp⟩ := some_at hNl
  obtain ⟨y, g1, g2, _, _, _, _, _, _⟩ := cutA_at HF.out.toGood N 0 t.data.toList p (by rw [HL.out]; exact hp)
  rw [data_length] at g1
  rw [Nat.zero_add] at g2
  have htw := cut_twice HF.out (by rw [HL.out]; exact hp) g2
  rw [HL.out] at htw
  obtain ⟨bk, o, rfl, hbk, hs1, hs2⟩ := pair_at HRow.out hp
  obtain ⟨p1, p2⟩ := p
  simp only at g2 hs1 hs2
  subst g2
  obtain ⟨u, hu⟩ : ∃ u, t.extract 0 y = u := ⟨_, rfl⟩
  have hul : u.data.toList = t.data.toList.take y := by have := extract_mid t 0 y; rw [Nat.zero_add, hu] at this; simpa using this
  have hus : u.size = y := by rw [list_size hul, List.length_take, data_length]; omega
  have hcut2 := HCut2.out u (by omega)
  rw [hul, htw] at hcut2
  obtain ⟨m, hm⟩ : ∃ m, l.take N ++ up y (l.take N) = m := ⟨_, rfl⟩
  rw [hm] at hcut2
  have hml : m.length = 2 * N := by rw [← hm]; simp [up]; omega
  obtain ⟨M, hM⟩ : ∃ M, m.length = M := ⟨_, rfl⟩
  rw [hM] at hcut2 hml
  have HM2 := Lib.hid hml
  have HMl := Lib.hid hM
  have htest : ((M : Int) != 2 * (N : Int)) = false := by simp; omega
  have hNb : N ≤ 900 := by omega
  clear hml hM
  have hwh := cutA_whole HF.out.toGood _ 0 (t.data.toList.take y ++ t.data.toList.take y) (Nat.le_refl _)
  rw [htw, hm, List.length_append, List.length_take, data_length] at hwh
  have HWh : Hid (wholeB (2 * (y : Int)) m = true) := by
    refine decide_eq_true ?_
    have e : ((0 + (min y t.size + min y t.size) : Nat) : Int) = 2 * (y : Int) := by omega
    rw [e] at hwh
    exact hwh
  have HU := Lib.hid hu
  have HM := Lib.hid hm
  have HC2 := Lib.hid hcut2
  clear hm hwh hcut2 htw hul hp
  have i1 : (0 : Int) ≤ (N : Int) := by omega
  have i2 : (N : Int) < (l.length : Int) := by omega
  have i3 : (0 : Int) ≤ (y : Int) := by omega
  have i5 : (y : Int) ≤ (t.size : Int) := by omega
  have i6 : y ≤ t.size := by omega
  have hy9 : y ≤ 900 := by omega
  go_wp2_with fail
  refine Calls.mono (HC2.out _ _ (rowAt_alloc w3 [.string u, .string u] 9)) ?_
  rintro e w4 ⟨A4, cap4, rfl, hcap4, hrow4, hb4⟩
  have HW4 := Lib.hid (below_trans' ((Below.refl w3.heap.size w3).alloc (Nat.le_refl _) (.cells #[.string u, .string u] 9)) hb4)
  have HRow4 := Lib.hid hrow4
  have HRowL := Lib.hid (HRow.out.below HW4.out)
  have HB4 := Lib.hid (below_trans' HB3.out HW4.out)
  clear hrow4 hb4 hs1 hs2
  go_wp2_with fail
  refine (refWhole_calls (2 * (y : Int)) A4 M cap4 m _ (by have := HM2.out; omega) HMl.out HRow4.out).mono ?_
  rintro e w5 ⟨rfl, rfl⟩
  rw [HWh.out]
  go_wp2
  go_loopw [8] (fun i wr => ∃ k : Nat, k ≤ N ∧ i = .int .i64 k ∧ Hid (Below w4.heap.size w4 wr)) (fun i _ => N - (intOf i).toNat)
  case atStart => exact ⟨0, Nat.zero_le _, rfl, Below.refl _ _⟩
  case round =>
    obtain ⟨k, hk, rfl, HW⟩ := hrel
    by_cases hlt : k < N
    · have hkl : k < l.length := by omega
      obtain ⟨r, hr⟩ := some_at hkl
      obtain ⟨r1, r2⟩ := r
      have hr0 : (l.take N)[k]? = some (r1, r2) := by rw [List.getElem?_take, if_pos hlt]; exact hr
      have htl : (l.take N).length = N := by rw [List.length_take]; omega
      have hm1 : m[k]? = some (r1, r2) := by rw [← HM.out, List.getElem?_append_left (by rw [htl]; exact hlt)]; exact hr0
      have hm2 : m[N + k]? = some (r1 + y, r2 + y) := by rw [← HM.out, List.getElem?_append_right (by rw [htl]; omega), htl, show N + k - N = k by omega, up, List.getElem?_map, hr0]; rfl
      obtain ⟨x, e1, e2, e3, e4, _⟩ := cutA_at HF.out.toGood k 0 t.data.toList (r1, r2) (by rw [HL.out]; exact hr)
      rw [data_length] at e1 e4
      have hr1 : 0 ≤ r1 ∧ r1 ≤ 900 := by simp only at e2; omega
      have hr2 : 0 ≤ r2 ∧ r2 ≤ 900 := by simp only at e3; omega
      obtain ⟨a1, a2⟩ := hr1
      obtain ⟨a3, a4⟩ := hr2
      obtain ⟨b5, o5, E5, hb5, c1, c2⟩ := pair_at (HRowL.out.below HW.out) hr
      obtain ⟨b6, o6, E6, hb6, c3, c4⟩ := pair_at (HRow4.out.below HW.out) hm1
      obtain ⟨b7, o7, E7, hb7, c5, c6⟩ := pair_at (HRow4.out.below HW.out) hm2
      injection E5 with E5
      injection E5 with E51 E52
      subst E51
      subst E52
      subst E6
      injection E7 with E7
      injection E7 with E71 E72
      subst E71
      subst E72
      clear e1 e2 e3 e4 hr hr0 hm1 hm2 htl
      have j1 : (0 : Int) ≤ (k : Int) := by omega
      have j2 : (k : Int) < (l.length : Int) := by omega
      have j3 : (k : Int) < (M : Int) := by have := HM2.out; omega
      have j4 : (N : Int) + (k : Int) < (M : Int) := by have := HM2.out; omega
      have j5 : (0 : Int) ≤ (N : Int) + (k : Int) := by omega
      have v1 := IntWalk.i64_in ((N : Int) + k) (by omega)
      have v2 := IntWalk.i64_in (r1 + (y : Int)) (by omega)
      have v3 := IntWalk.i64_in (r2 + (y : Int)) (by omega)
      have v4 : ((N : Int) + (k : Int)).toNat = N + k := by omega
      go_wp2_with fail
      go_big_quiet (fail)
      go_wp2
      go_roundw
      case rel => exact ⟨k + 1, by omega, by go_num, below_drewN HW.out _⟩
      case measure => simp [intOf]; omega
    · go_wp2
      go_ret
      exact ⟨rfl, below_trans' HB4.out HW.out⟩
end Go.Proofs.Ytoojbddnbeachaa
