/- The law CdcBounds. -/
import Derived.Test.YtoojbddnbeachaaCdcPure
import Derived.Test.YtoojbddnbeachaaCdcAlive
namespace Go.Proofs.Ytoojbddnbeachaa
open Go.RowKit
attribute [local go_sem] max2_int min2_int max_two min_two

theorem rule_rows {w : World} {g : Nat} {a b c h s : Int} (h0 : w.cell? ⟨g, 0, none⟩ = some (.int .i64 a)) (h1 : w.cell? ⟨g, 1, none⟩ = some (.int .i64 b)) (h2 : w.cell? ⟨g, 2, none⟩ = some (.int .i64 c)) (h3 : w.cell? ⟨g, 3, none⟩ = some (.int .i64 h)) (h4 : w.cell? ⟨g, 4, none⟩ = some (.int .i64 s)) :
    RowAt w (some ⟨g, 0, none⟩) (icells [a, b, c, h, s]) := by
  refine .inr ⟨_, rfl, fun j u hj => ?_⟩
  rw [add0]
  match j, hj with
  | 0, hj => simpa [icells] using h0.trans hj
  | 1, hj => simpa [icells] using h1.trans hj
  | 2, hj => simpa [icells] using h2.trans hj
  | 3, hj => simpa [icells] using h3.trans hj
  | 4, hj => simpa [icells] using h4.trans hj
  | j + 5, hj => simp [icells] at hj

theorem box_free {w w2 : World} {cs : Array Value} {ty : TypeId} (hb : Below (w.alloc (.cells cs ty)).heap.size (w.alloc (.cells cs ty)) w2) (j : Nat) : w2.frozen? ⟨w.heap.size, j, none⟩ = false :=
  frozen_of_row w2 w.heap.size j cs ty ((hb.block w.heap.size (by simp)).trans (heap_alloc_new w _))

set_option maxHeartbeats 8000000 in
theorem cdcBounds_calls (a b c h s : Int) (own : Bool) (t : ByteArray) (w : World) (_ht : t.size ≤ 140737488351232) :
    Calls Try.prog 10 #[rule a b c h s, .bool own, .string t] w fun e w' => e = .returned (.bool true) ∧ Below w.heap.size w w' := by
  by_cases hbig : t.size ≤ 1500
  case neg =>
    go_enter Try.func10, Try.ntmps10
    go_wp2_with fail
    refine (cdcAlive_calls _).mono ?_
    rintro e w1 ⟨rfl, hb1⟩
    have HB := Lib.hid (below_trans' ((Below.refl _ _).alloc (Nat.le_refl _) _) hb1); clear hb1
    go_wp2
    go_ret
    exact ⟨rfl, HB.out⟩
  have ht1 : totalLen [t] = t.size := by simp [totalLen]
  have joinB_one : joinB [t] = t := by simp [joinB]
  rcases own with _ | _
  · go_enter Try.func10, Try.ntmps10
    go_wp2_with fail
    refine (cdcAlive_calls _).mono ?_
    rintro e w1 ⟨rfl, hb1⟩
    have HB := Lib.hid (below_trans' ((Below.refl _ _).alloc (Nat.le_refl _) _) hb1)
    have hr := (rowAt_alloc w (icells [a, b, c, h, s]) 68).below hb1
    have HR := Lib.hid hr
    clear hb1
    clear hr
    obtain ⟨q0, q1, q2, q3, q4⟩ := rule_cells HR.out
    obtain ⟨V, hV⟩ : ∃ V, validB a b c h s = V := ⟨_, rfl⟩
    have HV := Lib.hid (fun W => valid_calls a b c h s W)
    rw [hV] at HV
    by_cases hv : V = true
    case neg =>
      simp only [Bool.not_eq_true] at hv
      subst hv
      clear hV
      go_wp2_with fail
      refine Calls.mono (HV.out _) ?_
      rintro e w3 ⟨rfl, hb3⟩
      have HB3 := Lib.hid (below_trans' HB.out hb3); clear hb3
      go_wp2
      go_ret
      exact ⟨rfl, HB3.out⟩
    subst hv
    have hF := good_first a b c h s
    obtain ⟨F, hFe⟩ : ∃ F, firstN a b c h s = F := ⟨_, rfl⟩
    have HM := Lib.hid (firstN_most hV)
    have HLe := Lib.hid (fun l => firstN_least (l := l) hV)
    have HCut := Lib.hid (fun W => cdcCut_calls a b c h s (some ⟨W.heap.size, 0, none⟩) 1 1 [t] (W.alloc (.cells #[.string t] 9)) rfl (by omega) (by omega) (by rw [ht1]; omega) (rowAt_alloc W [.string t] _))
    rw [hFe] at HM HLe HCut hF
    rw [joinB_one] at HCut
    have HF := Lib.hid hF
    clear hV hF hFe
    obtain ⟨l, hl⟩ : ∃ l, cutA F 0 t.data.toList = l := ⟨_, rfl⟩
    have hll := cutA_length HF.out _ 0 t.data.toList (Nat.le_refl _)
    have hw := cutA_whole HF.out _ 0 t.data.toList (Nat.le_refl _)
    rw [hl, data_length] at hll
    rw [hl, Nat.zero_add, data_length] at hw
    have HWh : Hid (wholeB (t.size : Int) l = true) := decide_eq_true hw
    rw [hl] at HCut
    have HL := Lib.hid hl
    clear hl hw
    go_wp2_with fail
    refine Calls.mono (HV.out _) ?_
    rintro e w3 ⟨rfl, hb3⟩
    have HB3 := Lib.hid (below_trans' HB.out hb3)
    have HR3 := Lib.hid (HR.out.below hb3); clear hb3
    obtain ⟨r0, r1, r2, r3, r4⟩ := rule_cells HR3.out
    clear q0 q1 q2 q3 q4
    skip
    go_wp2_with fail
    refine Calls.mono (HCut.out _) ?_
    rintro e w4 ⟨v, rfl, hown, hb4⟩
    obtain ⟨A, cap, rfl, hcap, hrow, hnil⟩ := hown.slice
    have HRow := Lib.hid hrow
    have HR4 := Lib.hid ((HR3.out.alloc (.cells #[.string t] 9)).below hb4)
    have HB4 := Lib.hid (below_trans' (HB3.out.alloc HB3.out.size _) hb4)
    clear hown hrow hnil hb4
    go_wp2_with fail
    refine (refWhole_calls (t.size : Int) A l.length cap l _ (by omega) rfl HRow.out).mono ?_
    rintro e w5 ⟨rfl, rfl⟩
    rw [HWh.out]
    go_wp2
    go_loopw [8] (fun i wr => ∃ k : Nat, k ≤ l.length ∧ i = .int .i64 k ∧ Hid (Below w4.heap.size w4 wr)) (fun i _ => l.length - (intOf i).toNat)
    case atStart => exact ⟨0, Nat.zero_le _, rfl, Below.refl _ _⟩
    case round =>
      obtain ⟨k, hk, rfl, HW⟩ := hrel
      obtain ⟨u0, u1, u2, u3, u4⟩ := rule_cells (HR4.out.below HW.out)
      clear r0 r1 r2 r3 r4
      by_cases hlt : k < l.length
      · obtain ⟨p, hp⟩ := some_at hlt
        obtain ⟨bk, o, rfl, hbk, hc1, hc2⟩ := pair_at (HRow.out.below HW.out) hp
        obtain ⟨x, g1, g2, g3, g4, g5, g6, g7, _⟩ := cutA_at HF.out k 0 t.data.toList p (by rw [HL.out]; exact hp)
        have hlast := cutA_last HF.out g7
        rw [HL.out] at hlast
        have hmost := HM.out (t.data.toList.drop x)
        have hleast := HLe.out (t.data.toList.drop x)
        rw [List.length_drop] at hleast
        rw [data_length] at g1 g4 hlast hleast
        have hd : p.2 - p.1 = (F (t.data.toList.drop x) : Int) := by rw [g2, g3]; omega
        generalize F (t.data.toList.drop x) = f at *
        have hle : k + 1 < l.length → a ≤ (f : Int) := fun hh => hleast (by have := hlast.1 hh; omega)
        clear g6 g7 hlast hleast hp
        obtain ⟨p1, p2⟩ := p
        simp only at g2 g3 hd hc1 hc2
        have hw := IntWalk.i64_in (p2 - p1) (by omega)
        rw [hd] at hw
        have hf5 : f ≤ 1500 := by omega
        clear g2 g3
        have hi1 : (0 : Int) ≤ (k : Int) := by omega
        have hi2 : (k : Int) < (l.length : Int) := by omega
        by_cases hkl : k + 1 < l.length
        · have hfa := hle hkl
          go_wp2_with fail
          go_quiet (fail)
          go_wp2
          go_roundw
          case rel => exact ⟨k + 1, by omega, by go_num, below_drewN HW.out _⟩
          case measure => simp [intOf]; omega
        · go_wp2_with fail
          go_quiet (fail)
          go_wp2
          go_roundw
          case rel => exact ⟨k + 1, by omega, by go_num, below_drewN HW.out _⟩
          case measure => simp [intOf]; omega
      · go_wp2
        go_ret
        exact ⟨rfl, below_trans' HB4.out HW.out⟩
  · go_enter Try.func10, Try.ntmps10
    go_wp2_with fail
    refine (cdcAlive_calls _).mono ?_
    rintro e w1 ⟨rfl, hb1⟩
    have HB0 := Lib.hid (below_trans' ((Below.refl _ _).alloc (Nat.le_refl _) _) hb1)
    have HR0 := Lib.hid ((rowAt_alloc w (icells [a, b, c, h, s]) 68).below hb1)
    have HW1 := Lib.hid hb1
    clear hb1
    go_wp2_with fail
    refine (default_calls _).mono ?_
    rintro e w2 ⟨rfl, hb2⟩
    have HB1 := Lib.hid (below_trans' HB0.out hb2)
    have HR1 := Lib.hid (HR0.out.below hb2)
    obtain ⟨k0, k1, k2, k3, k4⟩ := rule_cells HR1.out
    have f0 := box_free (HW1.out.trans (hb2.mono HW1.out.size)) 0
    have f1 := box_free (HW1.out.trans (hb2.mono HW1.out.size)) 1
    have f2 := box_free (HW1.out.trans (hb2.mono HW1.out.size)) 2
    have f3 := box_free (HW1.out.trans (hb2.mono HW1.out.size)) 3
    have f4 := box_free (HW1.out.trans (hb2.mono HW1.out.size)) 4
    clear hb2
    have hb3 : Below w.heap.size w (((((w2.setCell ⟨w.heap.size, 0, none⟩ (.int .i64 32)).setCell ⟨w.heap.size, 1, none⟩ (.int .i64 64)).setCell ⟨w.heap.size, 2, none⟩ (.int .i64 128)).setCell ⟨w.heap.size, 3, none⟩ (.int .i64 7)).setCell ⟨w.heap.size, 4, none⟩ (.int .i64 5)) :=
      ((((HB1.out.setCell (Nat.le_refl _) _).setCell (Nat.le_refl _) _).setCell (Nat.le_refl _) _).setCell (Nat.le_refl _) _).setCell (Nat.le_refl _) _
    have hr : RowAt (((((w2.setCell ⟨w.heap.size, 0, none⟩ (.int .i64 32)).setCell ⟨w.heap.size, 1, none⟩ (.int .i64 64)).setCell ⟨w.heap.size, 2, none⟩ (.int .i64 128)).setCell ⟨w.heap.size, 3, none⟩ (.int .i64 7)).setCell ⟨w.heap.size, 4, none⟩ (.int .i64 5)) (some ⟨w.heap.size, 0, none⟩) (icells [32, 64, 128, 7, 5]) := by
      refine rule_rows ?_ ?_ ?_ ?_ ?_
      all_goals (go_simp)
    have HB := Lib.hid hb3
    have HR := Lib.hid hr
    clear hb3
    clear hr
    obtain ⟨q0, q1, q2, q3, q4⟩ := rule_cells HR.out
    obtain ⟨V, hV⟩ : ∃ V, validB 32 64 128 7 5 = V := ⟨_, rfl⟩
    have HV := Lib.hid (fun W => valid_calls 32 64 128 7 5 W)
    rw [hV] at HV
    by_cases hv : V = true
    case neg =>
      simp only [Bool.not_eq_true] at hv
      subst hv
      clear hV
      go_wp2_with fail
      refine Calls.mono (HV.out _) ?_
      rintro e w3 ⟨rfl, hb3⟩
      have HB3 := Lib.hid (below_trans' HB.out hb3); clear hb3
      go_wp2
      go_ret
      exact ⟨rfl, HB3.out⟩
    subst hv
    have hF := good_first 32 64 128 7 5
    obtain ⟨F, hFe⟩ : ∃ F, firstN 32 64 128 7 5 = F := ⟨_, rfl⟩
    have HM := Lib.hid (firstN_most hV)
    have HLe := Lib.hid (fun l => firstN_least (l := l) hV)
    have HCut := Lib.hid (fun W => cdcCut_calls 32 64 128 7 5 (some ⟨W.heap.size, 0, none⟩) 1 1 [t] (W.alloc (.cells #[.string t] 9)) rfl (by omega) (by omega) (by rw [ht1]; omega) (rowAt_alloc W [.string t] _))
    rw [hFe] at HM HLe HCut hF
    rw [joinB_one] at HCut
    have HF := Lib.hid hF
    clear hV hF hFe
    obtain ⟨l, hl⟩ : ∃ l, cutA F 0 t.data.toList = l := ⟨_, rfl⟩
    have hll := cutA_length HF.out _ 0 t.data.toList (Nat.le_refl _)
    have hw := cutA_whole HF.out _ 0 t.data.toList (Nat.le_refl _)
    rw [hl, data_length] at hll
    rw [hl, Nat.zero_add, data_length] at hw
    have HWh : Hid (wholeB (t.size : Int) l = true) := decide_eq_true hw
    rw [hl] at HCut
    have HL := Lib.hid hl
    clear hl hw
    go_wp2_with fail
    refine Calls.mono (HV.out _) ?_
    rintro e w3 ⟨rfl, hb3⟩
    have HB3 := Lib.hid (below_trans' HB.out hb3)
    have HR3 := Lib.hid (HR.out.below hb3); clear hb3
    obtain ⟨r0, r1, r2, r3, r4⟩ := rule_cells HR3.out
    clear q0 q1 q2 q3 q4
    clear k0 k1 k2 k3 k4 f0 f1 f2 f3 f4
    go_wp2_with fail
    refine Calls.mono (HCut.out _) ?_
    rintro e w4 ⟨v, rfl, hown, hb4⟩
    obtain ⟨A, cap, rfl, hcap, hrow, hnil⟩ := hown.slice
    have HRow := Lib.hid hrow
    have HR4 := Lib.hid ((HR3.out.alloc (.cells #[.string t] 9)).below hb4)
    have HB4 := Lib.hid (below_trans' (HB3.out.alloc HB3.out.size _) hb4)
    clear hown hrow hnil hb4
    go_wp2_with fail
    refine (refWhole_calls (t.size : Int) A l.length cap l _ (by omega) rfl HRow.out).mono ?_
    rintro e w5 ⟨rfl, rfl⟩
    rw [HWh.out]
    go_wp2
    go_loopw [8] (fun i wr => ∃ k : Nat, k ≤ l.length ∧ i = .int .i64 k ∧ Hid (Below w4.heap.size w4 wr)) (fun i _ => l.length - (intOf i).toNat)
    case atStart => exact ⟨0, Nat.zero_le _, rfl, Below.refl _ _⟩
    case round =>
      obtain ⟨k, hk, rfl, HW⟩ := hrel
      obtain ⟨u0, u1, u2, u3, u4⟩ := rule_cells (HR4.out.below HW.out)
      clear r0 r1 r2 r3 r4
      by_cases hlt : k < l.length
      · obtain ⟨p, hp⟩ := some_at hlt
        obtain ⟨bk, o, rfl, hbk, hc1, hc2⟩ := pair_at (HRow.out.below HW.out) hp
        obtain ⟨x, g1, g2, g3, g4, g5, g6, g7, _⟩ := cutA_at HF.out k 0 t.data.toList p (by rw [HL.out]; exact hp)
        have hlast := cutA_last HF.out g7
        rw [HL.out] at hlast
        have hmost := HM.out (t.data.toList.drop x)
        have hleast := HLe.out (t.data.toList.drop x)
        rw [List.length_drop] at hleast
        rw [data_length] at g1 g4 hlast hleast
        have hd : p.2 - p.1 = (F (t.data.toList.drop x) : Int) := by rw [g2, g3]; omega
        generalize F (t.data.toList.drop x) = f at *
        have hle : k + 1 < l.length → 32 ≤ (f : Int) := fun hh => hleast (by have := hlast.1 hh; omega)
        clear g6 g7 hlast hleast hp
        obtain ⟨p1, p2⟩ := p
        simp only at g2 g3 hd hc1 hc2
        have hw := IntWalk.i64_in (p2 - p1) (by omega)
        rw [hd] at hw
        have hf5 : f ≤ 1500 := by omega
        clear g2 g3
        have hi1 : (0 : Int) ≤ (k : Int) := by omega
        have hi2 : (k : Int) < (l.length : Int) := by omega
        by_cases hkl : k + 1 < l.length
        · have hfa := hle hkl
          go_wp2_with fail
          go_quiet (fail)
          go_wp2
          go_roundw
          case rel => exact ⟨k + 1, by omega, by go_num, below_drewN HW.out _⟩
          case measure => simp [intOf]; omega
        · go_wp2_with fail
          go_quiet (fail)
          go_wp2
          go_roundw
          case rel => exact ⟨k + 1, by omega, by go_num, below_drewN HW.out _⟩
          case measure => simp [intOf]; omega
      · go_wp2
        go_ret
        exact ⟨rfl, below_trans' HB4.out HW.out⟩
end Go.Proofs.Ytoojbddnbeachaa
