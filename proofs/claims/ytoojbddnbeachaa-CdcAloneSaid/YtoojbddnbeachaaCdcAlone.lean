/- The law CdcAlone. -/
import Derived.Test.YtoojbddnbeachaaCdcUse
import Derived.Deep.RegionHeld3
namespace Go.Proofs.Ytoojbddnbeachaa
open Go.RowKit
attribute [local go_sem] max2_int min2_int max_two min_two

set_option maxHeartbeats 8000000 in
set_option maxRecDepth 100000 in
theorem cdcAlone_calls (t more : ByteArray) (at_ : Int) (w : World) (_ht : t.size ≤ 140737488351232) (_hm : more.size ≤ 140737488351232) (_ha : -9223372036854775808 ≤ at_ ∧ at_ ≤ 9223372036854775807) :
    Calls Try.prog 12 #[.string t, .string more, .int .i64 at_] w fun e w' => e = .returned (.bool true) ∧ Below w.heap.size w w' := by
  by_cases hbig : t.size ≤ 1200 ∧ more.size ≤ 600 ∧ 0 ≤ at_
  case neg =>
    by_cases h1 : t.size ≤ 1200
    all_goals by_cases h2 : more.size ≤ 600
    all_goals by_cases h4 : at_ < 0
    all_goals first | (exfalso; omega) | skip
    all_goals
      clear hbig
      go_enter Try.func12, Try.ntmps12
      go_wp2_with fail
      refine (cdcAlive_calls _).mono ?_
      rintro e w1 ⟨rfl, hb1⟩
      have HB := Lib.hid hb1; clear hb1
      go_wp2
      go_ret
      exact ⟨rfl, HB.out⟩
  obtain ⟨h1, h2, h3⟩ := hbig
  obtain ⟨F, hFe⟩ : ∃ F, firstN 32 64 128 7 5 = F := ⟨_, rfl⟩
  have hF : Best F := by rw [← hFe]; exact best_first _ _ _ _ _
  have HF := Lib.hid hF
  have HFirst := Lib.hid (fun (u : ByteArray) (hu : u.size ≤ 2000) (W : World) => first_calls 32 64 128 7 5 u W (by omega))
  have HCut := Lib.hid (fun A W hR => cut_of 32 64 128 7 5 t (by omega) A W hR)
  rw [hFe] at HFirst HCut
  clear hF hFe
  obtain ⟨l, hl⟩ : ∃ l, cutA F 0 t.data.toList = l := ⟨_, rfl⟩
  rw [hl] at HCut
  have hll := cutA_length HF.out.toGood _ 0 t.data.toList (Nat.le_refl _)
  rw [hl, data_length] at hll
  have hnil := cutA_ne HF.out.toGood 0 (l := t.data.toList)
  rw [hl] at hnil
  have HN := Lib.hid hnil
  have HL := Lib.hid hl
  clear hl hnil
  go_enter Try.func12, Try.ntmps12
  go_wp2_with fail
  refine (cdcAlive_calls _).mono ?_
  rintro e w1 ⟨rfl, hb1⟩
  have HB1 := Lib.hid hb1; clear hb1
  go_wp2_with fail
  refine (default_calls _).mono ?_
  rintro e w2 ⟨rfl, hb2⟩
  have HB2 := Lib.hid (below_trans' HB1.out hb2); clear hb2
  have HR2 := Lib.hid (rowAt_alloc w2 (icells [32, 64, 128, 7, 5]) 68)
  go_wp2_with fail
  refine Calls.mono (HCut.out _ _ (row_alloc2 w2 (.cells #[.int .i64 32, .int .i64 64, .int .i64 128, .int .i64 7, .int .i64 5] 68) [.string t] 9)) ?_
  rintro e w3 ⟨A, cap, rfl, hcap, hrow, hb3⟩
  have HRow := Lib.hid hrow
  have HR3 := Lib.hid ((HR2.out.alloc (.cells #[.string t] 9)).below hb3)
  have HB3 := Lib.hid (below_trans' ((HB2.out.alloc HB2.out.size (.cells #[.int .i64 32, .int .i64 64, .int .i64 128, .int .i64 7, .int .i64 5] 68)).alloc (by have := HB2.out.size; simp; omega) (.cells #[.string t] 9)) hb3)
  clear hrow hb3
  obtain ⟨q0, q1, q2, q3, q4⟩ := rule_cells HR3.out
  by_cases hl0 : l.length = 0
  · have ht0 : t.data.toList = [] := HN.out.1 (List.eq_nil_of_length_eq_zero hl0)
    have hts := list_size ht0
    have hft : F t.data.toList = 0 := by have := HF.out.le t.data.toList; rw [ht0] at this ⊢; simpa using this
    have hcall := HFirst.out t (by omega)
    rw [hft] at hcall
    have HCall := Lib.hid hcall
    clear hcall hft ht0
    go_wp2_with fail
    refine Calls.mono (HCall.out _) ?_
    rintro e w4 ⟨rfl, hb4⟩
    have HB4 := Lib.hid (below_trans' HB3.out hb4); clear hb4
    go_wp2
    go_ret
    exact ⟨rfl, HB4.out⟩
  obtain ⟨k, hk⟩ : ∃ k : Nat, at_ % (l.length : Int) = k := ⟨(at_ % (l.length : Int)).toNat, by have := Int.emod_nonneg at_ (show (l.length : Int) ≠ 0 by omega); omega⟩
  have hkL : k < l.length := by have := Int.emod_lt_of_pos at_ (show (0 : Int) < (l.length : Int) by omega); omega
  obtain ⟨p, hp⟩ := some_at hkL
  have hl1 : 0 < l.length := by omega
  obtain ⟨x, g1, g2, g3, g4, g5, g6, g7, _⟩ := cutA_at HF.out.toGood k 0 t.data.toList p (by rw [HL.out]; exact hp)
  have hlast := cutA_last HF.out.toGood g7
  rw [HL.out] at hlast
  rw [data_length] at g1 g4 hlast
  have hown := HF.out.own (t.data.toList.drop x)
  have hmore := HF.out.more (t.data.toList.drop x) more.data.toList
  rw [List.length_drop, data_length] at hmore
  have hc1 := HFirst.out (t.extract x t.size) (by simp; omega)
  rw [extract_list] at hc1
  obtain ⟨f, hf⟩ : ∃ f, F (t.data.toList.drop x) = f := ⟨_, rfl⟩
  rw [hf] at g3 g4 g5 hlast hown hmore hc1
  have hc2 := HFirst.out (t.extract x (x + f)) (by simp; omega)
  rw [extract_mid, hown] at hc2
  have hc3 := HFirst.out (t.extract x (x + f) ++ more) (by rw [ByteArray.size_append]; simp; omega)
  rw [ByteArray.data_append, Array.toList_append, extract_mid] at hc3
  have hpsz : (t.extract x (x + f)).size = f := by simp; omega
  obtain ⟨pc, hpc⟩ : ∃ pc, t.extract x (x + f) = pc := ⟨_, rfl⟩
  rw [hpc] at hc2 hc3 hpsz
  obtain ⟨sx, hsx⟩ : ∃ sx, t.extract x t.size = sx := ⟨_, rfl⟩
  rw [hsx] at hc1
  obtain ⟨bk, o, rfl, hbk, hs1, hs2⟩ := pair_at HRow.out hp
  obtain ⟨p1, p2⟩ := p
  simp only at g2 g3 hs1 hs2
  rw [Nat.zero_add] at g2 g3
  subst g2
  subst g3
  have HC1 := Lib.hid hc1
  have HC2 := Lib.hid hc2
  have HC3 := Lib.hid hc3
  have HLast := Lib.hid hlast
  have HMore := Lib.hid hmore
  clear hc1 hc2 hc3 hlast hmore hown g6 g7 hf hp
  have i1 : (0 : Int) ≤ (k : Int) := by omega
  have i2 : (k : Int) < (l.length : Int) := by omega
  have i3 : (0 : Int) ≤ (x : Int) := by omega
  have i4 : (x : Int) ≤ ((x + f : Nat) : Int) := by omega
  have i5 : ((x + f : Nat) : Int) ≤ (t.size : Int) := by omega
  have i6 : (x : Int) ≤ (t.size : Int) := by omega
  have i7 : x ≤ t.size := by omega
  go_wp2_with fail
  go_quiet (fail)
  simp only [hpc]
  clear i4 i5
  go_wp2_with fail
  go_region_held3 (fun w' => w'.cell? ⟨w2.heap.size, 0, none⟩ = some (.int .i64 32) ∧ w'.cell? ⟨w2.heap.size, 1, none⟩ = some (.int .i64 64) ∧ w'.cell? ⟨w2.heap.size, 2, none⟩ = some (.int .i64 128) ∧ w'.cell? ⟨w2.heap.size, 3, none⟩ = some (.int .i64 7) ∧ w'.cell? ⟨w2.heap.size, 4, none⟩ = some (.int .i64 5) ∧ w'.cell? ⟨bk, o + k * 2, none⟩ = some (.int .i64 x)) (first | exact ⟨q0, q1, q2, q3, q4, hs1⟩ | exact ⟨r0, r1, r2, r3, r4, hs4⟩ | exact ⟨s0, s1, s2, s3, s4, hs5⟩)
    (first
      | (go_at_call_of 42 (Value.string pc); refine Calls.mono (HC2.out _) ?_; rintro e w4 ⟨rfl, hb4⟩; have HW4 := Lib.hid ((below_drew (below_drewN (Below.refl w3.heap.size w3) _)).trans hb4); obtain ⟨r0, r1, r2, r3, r4⟩ := rule_cells (HR3.out.below HW4.out); have hs4 := cell_kept HW4.out (Nat.le_refl _) hs1; clear hb4)
      | (go_at_call_of 42 (Value.string sx); refine Calls.mono (HC1.out _) ?_; rintro e w5 ⟨rfl, hb5⟩; have HW5 := Lib.hid (HW4.out.trans (hb5.mono HW4.out.size)); obtain ⟨s0, s1, s2, s3, s4⟩ := rule_cells (HR3.out.below HW5.out); have hs5 := cell_kept HW5.out (Nat.le_refl _) hs1; clear hb5))
  have HB5 := Lib.hid (below_trans' HB3.out HW5.out)
  by_cases hkl : k + 1 = l.length
  · have hkl2 : ((k : Int) + 1 == (l.length : Int)) = true := by simp; omega
    go_wp2
    go_ret
    exact ⟨rfl, HB5.out⟩
  · have hkl2 : ((k : Int) + 1 == (l.length : Int)) = false := by simp; omega
    have hlt : x + f < t.size := HLast.out.1 (by omega)
    have hfm := HMore.out (by omega)
    have hc3 := HC3.out
    rw [hfm] at hc3
    have HC4 := Lib.hid hc3
    clear hfm hc3 hlt
    go_wp2_with fail
    refine Calls.mono (HC4.out _) ?_
    rintro e w6 ⟨rfl, hb6⟩
    have HB6 := Lib.hid (below_trans' HB5.out hb6); clear hb6
    go_wp2
    go_ret
    exact ⟨rfl, HB6.out⟩
end Go.Proofs.Ytoojbddnbeachaa
