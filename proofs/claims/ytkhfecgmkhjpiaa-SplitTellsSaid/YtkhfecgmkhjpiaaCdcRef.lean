/- The reference's First and Cut of chapter 14: the same spec. -/
import Derived.Test.YtkhfecgmkhjpiaaCdcCut
import Derived.Deep.RegionHeld3
namespace Go.Proofs.Ytkhfecgmkhjpiaa
open Go.RowKit
set_option linter.unusedVariables false
attribute [local go_sem] max2_int min2_int max_two min_two

set_option maxHeartbeats 3200000 in
theorem refFirst_calls (a b c h s : Int) (t : ByteArray) (w : World) (ht : t.size ≤ 140737488351232) :
    Calls Try.prog 34 #[rule a b c h s, .string t] w fun e w' => e = .returned (.int .i64 (firstN a b c h s t.data.toList)) ∧ Below w.heap.size w w' := by
  obtain ⟨V, hV⟩ : ∃ V, validB a b c h s = V := ⟨_, rfl⟩
  by_cases hv : V = true ∧ a < t.size
  case neg =>
    have HF : Hid (firstN a b c h s t.data.toList = t.size) := by rw [Hid, firstN, hV, data_length, if_neg hv]
    have HC := Lib.hid (fun w => refValid_calls a b c h s w)
    rw [hV] at HC
    clear hV
    by_cases hv1 : V = true
    all_goals by_cases hv2 : a < t.size
    all_goals first | (exfalso; exact hv ⟨hv1, hv2⟩) | skip
    all_goals
      clear hv
      (try simp only [Bool.not_eq_true] at hv1)
      subst hv1
      go_enter Try.func34, Try.ntmps34
      go_wp2_with fail
      refine Calls.mono (HC.out _) ?_
      rintro e w1 ⟨rfl, hb1⟩
      have HB := Lib.hid (below_trans' ((Below.refl _ _).alloc (Nat.le_refl _) _) hb1)
      have hr := (rowAt_alloc w (icells [a, b, c, h, s]) 58).below hb1
      obtain ⟨q0, q1, q2, q3, q4⟩ := rule_cells hr
      clear hr hb1
      go_wp2
      go_ret
      exact ⟨ret_int (by rw [HF.out]), HB.out⟩
  obtain ⟨rfl, hv2⟩ := hv
  have HF : Hid (firstN a b c h s t.data.toList = firstGo b h s a.toNat 0 ((t.data.toList.take c.toNat).drop a.toNat)) := by rw [Hid, firstN, if_pos ⟨hV, by rw [data_length]; exact hv2⟩]
  have HC := Lib.hid (fun w => refValid_calls a b c h s w)
  rw [hV] at HC
  simp only [validB, decide_eq_true_eq] at hV
  obtain ⟨v1, v2, v3, v4, v5, v6, v7, v8⟩ := hV
  go_enter Try.func34, Try.ntmps34
  go_wp2_with fail
  refine Calls.mono (HC.out _) ?_
  rintro e w1 ⟨rfl, hb1⟩
  have HB := Lib.hid (below_trans' ((Below.refl _ _).alloc (Nat.le_refl _) _) hb1)
  have hr := (rowAt_alloc w (icells [a, b, c, h, s]) 58).below hb1
  have HR := Lib.hid hr
  obtain ⟨q0, q1, q2, q3, q4⟩ := rule_cells hr
  clear hr hb1
  obtain ⟨E, hE⟩ : ∃ E : Nat, min (t.size : Int) c = E := ⟨(min (t.size : Int) c).toNat, by omega⟩
  have hEc : E ≤ 4096 := by omega
  have hEt : E ≤ t.size := by omega
  have HL : Hid ((t.data.toList.take c.toNat) = t.data.toList.take E) := by
    rw [Hid]
    rcases Nat.le_total c.toNat t.size with hle | hle
    · congr 1; omega
    · rw [List.take_of_length_le (by rw [data_length]; omega), List.take_of_length_le (by rw [data_length]; omega)]
  have HE := Lib.hid hE
  obtain ⟨N1, rfl⟩ := Int.eq_ofNat_of_zero_le v5
  obtain ⟨N2, rfl⟩ := Int.eq_ofNat_of_zero_le v6
  obtain ⟨a', rfl⟩ := Int.eq_ofNat_of_zero_le (show 0 ≤ a by omega)
  have hnl : ¬ t.size ≤ a' := by omega
  go_wp2
  go_loopw [5, 6] (fun x i wr => ∃ k : Nat, ∃ z : Int, k ≤ E ∧ 0 ≤ z ∧ z < 18446744073709551616 ∧ i = .int .i64 k ∧ x = .int .u64 z ∧ Hid (firstN a' b c N1 N2 t.data.toList = firstGo b N1 N2 k z ((t.data.toList.take E).drop k)) ∧ Hid (Below w1.heap.size w1 wr)) (fun _ i _ => E - (intOf i).toNat)
  case atStart => exact ⟨a', 0, by omega, by omega, by omega, rfl, rfl, by rw [Hid, HF.out, HL.out, Int.toNat_natCast], Below.refl _ _⟩
  case round =>
    obtain ⟨k, z, hk, hz0, hz1, rfl, rfl, HC2, HW⟩ := hrel
    obtain ⟨q0, q1, q2, q3, q4⟩ := rule_cells (HR.out.below HW.out)
    by_cases hlt : k < E
    · have hkt : k < t.size := by omega
      have hkc : (k : Int) < c := by omega
      have hkt2 : (k : Int) < (t.size : Int) := by omega
      have HD : Hid ((t.data.toList.take E).drop k = t[k] :: (t.data.toList.take E).drop (k + 1)) := by
        refine drop_of_at ?_
        rw [List.getElem?_take, if_pos hlt, List.getElem?_eq_getElem (by rw [data_length]; exact hkt)]
        rfl
      obtain ⟨X, hX⟩ : ∃ X, IntKind.u64.wrap (IntKind.u64.wrap (z * 2) + gearI t[k].toNat) = X := ⟨_, rfl⟩
      have hX01 := roll1_range' z t[k]
      have HX2 : Hid (roll1 z t[k] = X) := hX
      rw [HX2.out] at hX01
      obtain ⟨hX0, hX1⟩ := hX01
      have hx2 : (t[k].toNat : Int) ≤ 255 := by have := t[k].toNat_lt; omega
      by_cases hkb : (k : Int) < b
      · have hp := pow_two_le (n := N1) (by omega)
        obtain ⟨hp0, hp1⟩ := hp
        have HS : Hid (stopB b N1 N2 k X = decide (X / 65536 % 2 ^ N1 = 0)) := by rw [Hid, stopB, if_pos hkb, Int.toNat_natCast]
        by_cases hz : X / 65536 % 2 ^ N1 = 0
        · have hz2 : (X / 65536 % 2 ^ N1 == 0) = true := by simpa using hz
          have HS2 : Hid (stopB b N1 N2 k X = true) := HS.out.trans (decide_eq_true hz)
          clear hz
          go_wp2_with (go_at_call 83; refine (refGear_calls _ _ (by omega) hx2).mono ?_; rintro e w' ⟨rfl, rfl⟩)
          go_ret
          refine ⟨ret_int ?_, below_trans' HB.out HW.out⟩
          rw [HC2.out, HD.out, firstGo, HX2.out, if_pos HS2.out]; rfl
        · have hz2 : (X / 65536 % 2 ^ N1 == 0) = false := by simpa using hz
          have HS2 : Hid (stopB b N1 N2 k X = false) := HS.out.trans (decide_eq_false hz)
          clear hz
          go_wp2_with (go_at_call 83; refine (refGear_calls _ _ (by omega) hx2).mono ?_; rintro e w' ⟨rfl, rfl⟩)
          go_roundw
          case rel => exact ⟨k + 1, X, by omega, hX0, hX1, by go_num, rfl, by rw [Hid, HC2.out, HD.out, firstGo, HX2.out, HS2.out, if_neg (by simp)], HW.out⟩
          case measure => simp [intOf]; omega
      · have hp := pow_two_le (n := N2) (by omega)
        obtain ⟨hp0, hp1⟩ := hp
        have HS : Hid (stopB b N1 N2 k X = decide (X / 65536 % 2 ^ N2 = 0)) := by rw [Hid, stopB, if_neg hkb, Int.toNat_natCast]
        by_cases hz : X / 65536 % 2 ^ N2 = 0
        · have hz2 : (X / 65536 % 2 ^ N2 == 0) = true := by simpa using hz
          have HS2 : Hid (stopB b N1 N2 k X = true) := HS.out.trans (decide_eq_true hz)
          clear hz
          go_wp2_with (go_at_call 83; refine (refGear_calls _ _ (by omega) hx2).mono ?_; rintro e w' ⟨rfl, rfl⟩)
          go_ret
          refine ⟨ret_int ?_, below_trans' HB.out HW.out⟩
          rw [HC2.out, HD.out, firstGo, HX2.out, if_pos HS2.out]; rfl
        · have hz2 : (X / 65536 % 2 ^ N2 == 0) = false := by simpa using hz
          have HS2 : Hid (stopB b N1 N2 k X = false) := HS.out.trans (decide_eq_false hz)
          clear hz
          go_wp2_with (go_at_call 83; refine (refGear_calls _ _ (by omega) hx2).mono ?_; rintro e w' ⟨rfl, rfl⟩)
          go_roundw
          case rel => exact ⟨k + 1, X, by omega, hX0, hX1, by go_num, rfl, by rw [Hid, HC2.out, HD.out, firstGo, HX2.out, HS2.out, if_neg (by simp)], HW.out⟩
          case measure => simp [intOf]; omega
    · have HZ : Hid (firstGo b N1 N2 k z ((t.data.toList.take E).drop k) = E) := by
        rw [Hid, List.drop_eq_nil_of_le (by rw [List.length_take]; omega), firstGo]; omega
      by_cases hkt : (k : Int) < (t.size : Int)
      · have hkc : ¬ (k : Int) < c := by omega
        go_wp2
        go_ret
        exact ⟨ret_int (by rw [HC2.out, HZ.out]), below_trans' HB.out HW.out⟩
      · go_wp2
        go_ret
        exact ⟨ret_int (by rw [HC2.out, HZ.out]), below_trans' HB.out HW.out⟩

set_option maxHeartbeats 1600000 in
set_option maxRecDepth 100000 in
theorem refCut_calls (a b c h s : Int) (t : ByteArray) (w : World) (hts : t.size ≤ 1000000) :
    Calls Try.prog 30 #[rule a b c h s, .string t] w fun e w' => ∃ v, e = .returned v ∧ Own w' w.heap.size 2 v (cutA (firstN a b c h s) 0 t.data.toList).length (pcells (cutA (firstN a b c h s) 0 t.data.toList)) ∧ Below w.heap.size w w' := by
  obtain ⟨F, hFe⟩ : ∃ F, firstN a b c h s = F := ⟨_, rfl⟩
  have hF : Good F := by rw [← hFe]; exact good_first a b c h s
  have HF1 := Lib.hid (fun (u : ByteArray) (hu : u.size ≤ 1000000) (W : World) => refFirst_calls a b c h s u W (by omega))
  rw [hFe] at HF1 ⊢
  have HF := Lib.hid hF; clear hF
  clear hFe
  have HR := Lib.hid (rowAt_alloc w (icells [a, b, c, h, s]) 58)
  have HB := Lib.hid ((Below.refl w.heap.size w).alloc (Nat.le_refl _) (.cells #[.int .i64 a, .int .i64 b, .int .i64 c, .int .i64 h, .int .i64 s] 58))
  go_enter Try.func30, Try.ntmps30
  go_wp2
  go_loopw [5, 6] (fun v x wr => ∃ k p : Nat, ∃ pre : List (Int × Int), p ≤ t.size ∧ k ≤ p ∧ x = .int .i64 p ∧ Hid (pre.length = k ∧ cutA F 0 t.data.toList = pre ++ cutA F p (t.data.toList.drop p)) ∧ Hid (Own wr (w.heap.size + 1) 2 v k (pcells pre)) ∧ Hid (Below (w.heap.size + 1) (w.alloc (.cells #[.int .i64 a, .int .i64 b, .int .i64 c, .int .i64 h, .int .i64 s] 58)) wr)) (fun _ x _ => t.size - (intOf x).toNat)
  case atStart => exact ⟨0, 0, [], Nat.zero_le _, Nat.zero_le _, rfl, ⟨rfl, rfl⟩, Own.nil _ _ _, Below.refl _ _⟩
  case round =>
    obtain ⟨k, p, pre, hp, hkp, rfl, HK, HO, HW⟩ := hrel
    have hsz : (w.alloc (.cells #[.int .i64 a, .int .i64 b, .int .i64 c, .int .i64 h, .int .i64 s] 58)).heap.size = w.heap.size + 1 := by simp
    have HWs : Hid (w.heap.size + 1 ≤ wr.heap.size) := by have := HW.out.size; rw [hsz] at this; exact this
    have HW' : Hid (Below (w.alloc (.cells #[.int .i64 a, .int .i64 b, .int .i64 c, .int .i64 h, .int .i64 s] 58)).heap.size (w.alloc (.cells #[.int .i64 a, .int .i64 b, .int .i64 c, .int .i64 h, .int .i64 s] 58)) wr) := by rw [hsz]; exact HW.out
    clear hsz
    obtain ⟨q0, q1, q2, q3, q4⟩ := rule_cells (HR.out.below HW'.out)
    by_cases hlt : p < t.size
    · have hne : t.data.toList.drop p ≠ [] := by
        intro e
        have := congrArg List.length e
        rw [List.length_drop, data_length] at this
        simp at this; omega
      have hq0 := HF.out.pos _ hne
      have hq1 := HF.out.le (t.data.toList.drop p)
      rw [List.length_drop, data_length] at hq1
      have hcons := cutA_cons HF.out p hne
      have hcall := HF1.out (t.extract p t.size) (by simp; omega)
      rw [extract_list] at hcall
      obtain ⟨q, hq⟩ : ∃ q : Nat, F (t.data.toList.drop p) = q := ⟨_, rfl⟩
      rw [hq] at hq0 hq1 hcons hcall
      have HCall := Lib.hid hcall
      have hpq : p + q ≤ t.size := by omega
      have HP : Hid (cutA F 0 t.data.toList = (pre ++ [((p : Int), ((p + q : Nat) : Int))]) ++ cutA F (p + q) (t.data.toList.drop (p + q))) := by
        rw [Hid, HK.out.2, hcons, List.drop_drop, List.append_assoc]; rfl
      clear hne hcons hcall hq
      go_wp2_with fail
      go_region_held3 (fun w' => w'.cell? ⟨w.heap.size, 0, none⟩ = some (.int .i64 a) ∧ w'.cell? ⟨w.heap.size, 1, none⟩ = some (.int .i64 b) ∧ w'.cell? ⟨w.heap.size, 2, none⟩ = some (.int .i64 c) ∧ w'.cell? ⟨w.heap.size, 3, none⟩ = some (.int .i64 h) ∧ w'.cell? ⟨w.heap.size, 4, none⟩ = some (.int .i64 s)) (first | exact ⟨q0, q1, q2, q3, q4⟩ | exact ⟨r0, r1, r2, r3, r4⟩)
        (first | (go_at_call 34; refine Calls.mono (HCall.out _) ?_; rintro e w2 ⟨rfl, hb2⟩; have HV2 := Lib.hid ((below_drew (Below.refl wr.heap.size wr)).trans hb2); have HW2 := Lib.hid (HW.out.trans (HV2.out.mono HWs.out)); have HO2 := Lib.hid (HO.out.below HV2.out); obtain ⟨r0, r1, r2, r3, r4⟩ := rule_cells ((HR.out.below HW'.out).below HV2.out); clear hb2))
      have HS2 : Hid (w.heap.size + 1 ≤ w2.heap.size) := Nat.le_trans HWs.out HV2.out.size
      go_wp2_with (at_builtin; refine appO el_spans (w.heap.size + 1) rfl _ _ rfl rfl (HO2.out.alloc _) (news := [.int .i64 p, .int .i64 (p + q)]) rfl rfl (rowAt_alloc _ [.int .i64 p, .int .i64 (p + q)] _) (one_pair _ _) (by omega) (by have := HS2.out; simp; omega) ?_; intro v1 w3 hown1 hg1 _; have HO3 := Lib.hid hown1; have HB3 : Hid (Below (w.heap.size + 1) (w.alloc (.cells #[.int .i64 a, .int .i64 b, .int .i64 c, .int .i64 h, .int .i64 s] 58)) w3) := (HW2.out.alloc HS2.out _).grown hg1 (by have := HS2.out; simp; omega) (fun j hj => (HO2.out.lt j hj).1); clear hown1 hg1)
      go_roundw
      case rel =>
        refine ⟨k + 1, p + q, pre ++ [((p : Int), ((p + q : Nat) : Int))], hpq, by omega, by go_num, ⟨by rw [List.length_append, HK.out.1]; rfl, HP.out⟩, ?_, HB3⟩
        have e := HO3.out
        rw [Hid, pcells_append]
        simpa [pcells] using e
      case measure => simp [intOf]; omega
    · go_wp2
      go_ret
      refine ⟨_, rfl, ?_, HB.out.trans (HW.out.mono (by omega))⟩
      have e := HK.out.2
      rw [List.drop_eq_nil_of_le (by rw [data_length]; omega), cutA_nil, List.append_nil] at e
      rw [e, HK.out.1]
      exact HO.out.weaken (by omega)
end Go.Proofs.Ytkhfecgmkhjpiaa
