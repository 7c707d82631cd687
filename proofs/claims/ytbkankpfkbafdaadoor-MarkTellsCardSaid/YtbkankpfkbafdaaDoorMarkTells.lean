/- MarkTells: every print: of texts, in bytes, in digits, its short number; every bytes as a print; two held against each other. -/
import Derived.Test.YtbkankpfkbafdaaDoorMarkBack
namespace Go.Proofs.YtbkankpfkbafdaaDoor
open Go.RowKit
set_option linter.unusedVariables false

theorem sumB_join (l : List ByteArray) : sumB [joinB l] = sumB l := by rw [sumB, joinB_single]; rfl
theorem sum2B_join (l : List ByteArray) : sum2B [joinB l] = sum2B l := by rw [sum2B, joinB_single]; rfl
theorem ofM_ref {k : Int} (h : sizeM k ≠ 0) (l : List ByteArray) : ofM k l = (k, refPrintM k (joinB l), 0) := by
  rcases sizeM_vals k with ⟨rfl, e⟩ | ⟨rfl, e⟩ | ⟨_, _, e⟩
  · rw [refPrintM, if_pos rfl, sumB_join]; rfl
  · rw [refPrintM, if_neg (by decide), sum2B_join]; rfl
  · exact absurd e h
theorem ofM_none {k : Int} (h : sizeM k = 0) (l : List ByteArray) : ofM k l = (0, ByteArray.empty, 1) := by
  rcases sizeM_vals k with ⟨rfl, e⟩ | ⟨rfl, e⟩ | ⟨h1, h2, e⟩
  · rw [e] at h; cases h
  · rw [e] at h; cases h
  · rw [ofM, if_neg h1, if_neg h2]

set_option maxHeartbeats 6400000 in
set_option maxRecDepth 100000 in
theorem markTells_neg (k : Int) (A : Option Addr) (n c : Nat) (l : List ByteArray) (k1 : Int) (s1 : ByteArray) (k2 : Int) (s2 : ByteArray) (b : ByteArray) (w : World)
    (hl : l.length = n) (hc : n ≤ c) (hn : n * 16 ≤ 140737488351232) (hs : ∀ s ∈ l, s.size ≤ 140737488351232) (hR : RowAt w A (scells l))
    (hg : shortB 12 600 l = false ∨ (shortB 12 600 l = true ∧ 100 < s1.size) ∨ (shortB 12 600 l = true ∧ s1.size ≤ 100 ∧ 100 < s2.size) ∨ (shortB 12 600 l = true ∧ s1.size ≤ 100 ∧ s2.size ≤ 100 ∧ 200 < b.size)) :
    Calls Tryd.prog 5 #[.int .i64 k, .slice A n c, .agg #[.int .i64 k1, .string s1], .agg #[.int .i64 k2, .string s2], .string b] w fun e w' => e = .returned (.bool true) ∧ Below w.heap.size w w' := by
  subst hl
  have hB0 : Below w.heap.size w ((w.alloc (.cells #[.int .i64 k1, .string s1] 24)).alloc (.cells #[.int .i64 k2, .string s2] 24)) := bel_alloc (bel_alloc (Below.refl _ _) _) _
  have HB0 : Box _ := ⟨hB0⟩
  have HS : Box _ := ⟨short_calls 12 600 A c l _ (by omega) (by omega) (by omega) hs (hR.below hB0)⟩
  have P1 := PrintAt.new w k1 s1
  have P2 := PrintAt.new (w.alloc (.cells #[.int .i64 k1, .string s1] 24)) k2 s2
  have z1 : (w.alloc (.cells #[.int .i64 k1, .string s1] 24)).heap.size = w.heap.size + 1 := by simp
  rw [z1] at P2
  have HP1 : Box _ := ⟨P1.below (bel_alloc (Below.refl _ _) (.cells #[.int .i64 k2, .string s2] 24))⟩
  have HP2 : Box _ := ⟨P2⟩
  clear P1 P2 z1 hB0 hR hs
  rcases hg with hg | ⟨hg, h1⟩ | ⟨hg, h1, h2⟩ | ⟨hg, h1, h2, h3⟩
  · rw [hg] at HS
    clear hg
    go_enter Tryd.func5, Tryd.ntmps5
    go_wp2_with fail
    refine HS.out.mono ?_
    rintro e w1 ⟨rfl, hb1⟩
    have HB1 : Box _ := ⟨bel_calls HB0.out hb1⟩
    have Q1 := HP1.out.below hb1
    have Q2 := HP2.out.below hb1
    have c1 := Q1.c1
    have c2 := Q2.c1
    clear hb1 Q1 Q2
    go_wp2_with fail
    refine (markAlive_calls _).mono ?_
    rintro e w2 ⟨rfl, hb2⟩
    have HB2 : Box _ := ⟨bel_calls HB1.out hb2⟩
    clear hb2
    go_wp2_with fail
    go_ret
    exact ⟨rfl, HB2.out⟩
  · rw [hg] at HS
    have q1 : (100 : Int) < (s1.size : Int) := by omega
    clear hg h1
    go_enter Tryd.func5, Tryd.ntmps5
    go_wp2_with fail
    refine HS.out.mono ?_
    rintro e w1 ⟨rfl, hb1⟩
    have HB1 : Box _ := ⟨bel_calls HB0.out hb1⟩
    have Q1 := HP1.out.below hb1
    have Q2 := HP2.out.below hb1
    have c1 := Q1.c1
    have c2 := Q2.c1
    clear hb1 Q1 Q2
    go_wp2_with fail
    refine (markAlive_calls _).mono ?_
    rintro e w2 ⟨rfl, hb2⟩
    have HB2 : Box _ := ⟨bel_calls HB1.out hb2⟩
    clear hb2
    go_wp2_with fail
    go_ret
    exact ⟨rfl, HB2.out⟩
  · rw [hg] at HS
    have q1 : (s1.size : Int) ≤ 100 := by omega
    have q2 : (100 : Int) < (s2.size : Int) := by omega
    clear hg h1 h2
    go_enter Tryd.func5, Tryd.ntmps5
    go_wp2_with fail
    refine HS.out.mono ?_
    rintro e w1 ⟨rfl, hb1⟩
    have HB1 : Box _ := ⟨bel_calls HB0.out hb1⟩
    have Q1 := HP1.out.below hb1
    have Q2 := HP2.out.below hb1
    have c1 := Q1.c1
    have c2 := Q2.c1
    clear hb1 Q1 Q2
    go_wp2_with fail
    refine (markAlive_calls _).mono ?_
    rintro e w2 ⟨rfl, hb2⟩
    have HB2 : Box _ := ⟨bel_calls HB1.out hb2⟩
    clear hb2
    go_wp2_with fail
    go_ret
    exact ⟨rfl, HB2.out⟩
  · rw [hg] at HS
    have q1 : (s1.size : Int) ≤ 100 := by omega
    have q2 : (s2.size : Int) ≤ 100 := by omega
    have q3 : (200 : Int) < (b.size : Int) := by omega
    clear hg h1 h2 h3
    go_enter Tryd.func5, Tryd.ntmps5
    go_wp2_with fail
    refine HS.out.mono ?_
    rintro e w1 ⟨rfl, hb1⟩
    have HB1 : Box _ := ⟨bel_calls HB0.out hb1⟩
    have Q1 := HP1.out.below hb1
    have Q2 := HP2.out.below hb1
    have c1 := Q1.c1
    have c2 := Q2.c1
    clear hb1 Q1 Q2
    go_wp2_with fail
    refine (markAlive_calls _).mono ?_
    rintro e w2 ⟨rfl, hb2⟩
    have HB2 : Box _ := ⟨bel_calls HB1.out hb2⟩
    clear hb2
    go_wp2_with fail
    go_ret
    exact ⟨rfl, HB2.out⟩
set_option maxHeartbeats 6400000 in
set_option maxRecDepth 100000 in
theorem markTells_main (k : Int) (A : Option Addr) (n c : Nat) (l : List ByteArray) (k1 : Int) (s1 : ByteArray) (k2 : Int) (s2 : ByteArray) (b : ByteArray) (w : World)
    (hl : l.length = n) (hc : n ≤ c) (hn : n * 16 ≤ 140737488351232) (hs : ∀ s ∈ l, s.size ≤ 140737488351232) (hR : RowAt w A (scells l))
    (hg : shortB 12 600 l = true) (h1 : s1.size ≤ 100) (h2 : s2.size ≤ 100) (h3 : b.size ≤ 200) :
    Calls Tryd.prog 5 #[.int .i64 k, .slice A n c, .agg #[.int .i64 k1, .string s1], .agg #[.int .i64 k2, .string s2], .string b] w fun e w' => e = .returned (.bool true) ∧ Below w.heap.size w w' := by
  subst hl
  have hB0 : Below w.heap.size w ((w.alloc (.cells #[.int .i64 k1, .string s1] 24)).alloc (.cells #[.int .i64 k2, .string s2] 24)) := bel_alloc (bel_alloc (Below.refl _ _) _) _
  have HB0 : Box _ := ⟨hB0⟩
  have HS : Box _ := ⟨short_calls 12 600 A c l _ (by omega) (by omega) (by omega) hs (hR.below hB0)⟩
  rw [hg] at HS
  have hsh : (l.length : Int) ≤ 12 ∧ totalLen l ≤ 600 := by simpa [shortB] using hg
  have HLen : Box _ := ⟨hsh⟩
  have HRl : Box _ := ⟨hR⟩
  have P1 := PrintAt.new w k1 s1
  have P2 := PrintAt.new (w.alloc (.cells #[.int .i64 k1, .string s1] 24)) k2 s2
  have z1 : (w.alloc (.cells #[.int .i64 k1, .string s1] 24)).heap.size = w.heap.size + 1 := by simp
  rw [z1] at P2
  have HP1 : Box _ := ⟨P1.below (bel_alloc (Below.refl _ _) (.cells #[.int .i64 k2, .string s2] 24))⟩
  have HP2 : Box _ := ⟨P2⟩
  have b1 : decide ((100 : Int) < (s1.size : Int)) = false := decide_eq_false (by omega)
  have b2 : decide ((100 : Int) < (s2.size : Int)) = false := decide_eq_false (by omega)
  have b3 : decide ((200 : Int) < (b.size : Int)) = false := decide_eq_false (by omega)
  have HN : Box (∀ W, _) := ⟨fun W => size_calls k W⟩
  have HNr : Box (∀ W, _) := ⟨fun W => refSize_calls k W⟩
  have HL : Box (∀ W, _) := ⟨fun W => lay_calls k1 s1 W⟩
  have HV : Box (∀ W, _) := ⟨fun W => valid_calls k1 s1 W⟩
  have HVr : Box (∀ W, _) := ⟨fun W => refValid_calls k1 s1 W⟩
  have HRd : Box (∀ W, _) := ⟨fun W => read_calls b W (by omega)⟩
  have HRr : Box (∀ W, _) := ⟨fun W => refRead_calls b W⟩
  have HC : Box (∀ W, _) := ⟨fun W => compare_calls k1 s1 k2 s2 W⟩
  have HCr : Box (∀ W, _) := ⟨fun W => refCmp_calls k1 s1 k2 s2 W⟩
  have HC1 : Box (∀ W, _) := ⟨fun W => compare_calls k1 s1 k1 s1 W⟩
  rw [cmpM_self] at HC1
  have HH : Box (∀ W, _) := ⟨fun W => hash_calls k1 s1 W (by omega)⟩
  have HHr : Box (∀ W, _) := ⟨fun W => refHash_calls k1 s1 W⟩
  have HT : Box (∀ W, _) := ⟨fun W => text_calls k1 s1 W (by omega)⟩
  have HX : Box (∀ W, _) := ⟨fun W => hex_calls s1 W (by omega)⟩
  rw [show (⟨(hexL s1.data.toList).toArray⟩ : ByteArray) = hexB s1 from rfl] at HX
  have hlay : (validM k1 s1 = false ∧ layM k1 s1 = (ByteArray.empty, 1)) ∨ (validM k1 s1 = true ∧ ∃ V : ByteArray, layM k1 s1 = (V, 0) ∧ ∀ W, Calls Tryd.prog 18 #[.agg #[.int .i64 k1, .string s1]] W fun e w' => e = .returned (.string V) ∧ Below W.heap.size W w') := by
    by_cases hv : validM k1 s1 = true
    · right
      refine ⟨hv, _, by rw [layM, if_pos hv], fun W => ?_⟩
      have hv2 := validM_true hv
      obtain ⟨m, rfl⟩ : ∃ m : Nat, k1 = (m : Int) := ⟨k1.toNat, by omega⟩
      exact refLay_calls m s1 W (by omega) (by omega)
    · left
      exact ⟨by simpa using hv, by rw [layM, if_neg hv]⟩
  have HLay : Box _ := ⟨hlay⟩
  obtain ⟨z, hz⟩ : ∃ z, sizeM k = z := ⟨_, rfl⟩
  rw [hz] at HN HNr
  obtain ⟨ok, hok⟩ : ∃ v, validM k1 s1 = v := ⟨_, rfl⟩
  rw [hok] at HV HVr HLay
  obtain ⟨⟨LS, LE⟩, hLE⟩ : ∃ p, layM k1 s1 = p := ⟨_, rfl⟩
  rw [hLE] at HL HLay
  obtain ⟨⟨rk, rs, re⟩, hre⟩ : ∃ p, readM b = p := ⟨_, rfl⟩
  rw [hre] at HRd HRr
  obtain ⟨cv, hcv⟩ : ∃ p, cmpM k1 s1 k2 s2 = p := ⟨_, rfl⟩
  rw [hcv] at HC HCr
  obtain ⟨hv, hhv⟩ : ∃ p, hashM s1 = p := ⟨_, rfl⟩
  rw [hhv] at HH HHr
  obtain ⟨X, hX⟩ : ∃ p, hexB s1 = p := ⟨_, rfl⟩
  rw [hX] at HT HX
  have HZ : Box ((z = 0 ∧ ofM k l = (0, ByteArray.empty, 1)) ∨ ((z == 0) = false ∧ ∃ S, ofM k l = (k, S, 0) ∧ ∀ W, Calls Tryd.prog 14 #[.int .i64 k, .string (joinB l)] W fun e w' => e = .returned (.agg #[.int .i64 k, .string S]) ∧ Below W.heap.size W w')) := ⟨by
    by_cases h0 : z = 0
    · exact .inl ⟨h0, ofM_none (by rw [hz]; exact h0) l⟩
    · refine .inr ⟨by simpa using h0, _, ofM_ref (by rw [hz]; exact h0) l, fun W => refPrint_calls k _ W (by have := joinB_size l; omega)⟩⟩
  have HJ : Box (∀ W, RowAt W A (scells l) → _) := ⟨fun W h => join_calls A c l W (by omega) (by omega) h⟩
  obtain ⟨J, hJ⟩ : ∃ J, joinB l = J := ⟨_, rfl⟩
  rw [hJ] at HJ HZ
  have HO : Box (∀ W (g cap : Nat), l.length + 1 ≤ cap → RowAt W (some ⟨g, 0, none⟩) (scells l ++ [.string markB]) → _) := ⟨fun W g cap hcap h => of_calls k (some ⟨g, 0, none⟩) l.length cap l W rfl (by omega) (by omega) (by omega) h.left⟩
  have HLt : Box (∀ W, RowAt W A (scells l) → _) := ⟨fun W h => lentTexts_calls A c l W (by omega) h⟩
  have HSt : Box (∀ W (g cap : Nat), l.length + 1 ≤ cap → RowAt W (some ⟨g, 0, none⟩) (scells l ++ [.string markB]) → RowAt W A (scells l) → _) := ⟨fun W g cap hcap h h' => staysTexts_calls (some ⟨g, 0, none⟩) A cap c l l markB W (by omega) hcap h h'⟩
  have hdd : (decide (l = l) && decide (markB = markB)) = true := by simp
  rw [hdd] at HSt
  clear hg hsh P1 P2 z1 h1 h2 h3 hB0 hlay hz hok hLE hre hcv hhv hX hJ hdd hs hR hn hc
  go_enter Tryd.func5, Tryd.ntmps5
  go_wp2_with fail
  refine HS.out.mono ?_
  rintro e w1 ⟨rfl, hb1⟩
  have HB1 : Box _ := ⟨bel_calls HB0.out hb1⟩
  have HQ1 : Box _ := ⟨HP1.out.below hb1⟩
  have HQ2 : Box _ := ⟨HP2.out.below hb1⟩
  have c1 := HQ1.out.c1
  have c2 := HQ2.out.c1
  clear hb1 HP1 HP2
  go_wp2_with fail
  refine (markAlive_calls _).mono ?_
  rintro e w2 ⟨rfl, hb2⟩
  have HB2 : Box _ := ⟨bel_calls HB1.out hb2⟩
  have HU1 : Box _ := ⟨HQ1.out.below hb2⟩
  have HU2 : Box _ := ⟨HQ2.out.below hb2⟩
  clear hb2 c1 c2 b1 b2 b3 HQ1 HQ2
  go_wp2_with fail
  refine (HLt.out _ (HRl.out.below HB2.out)).mono ?_
  rintro e w3 ⟨gm, cap, rfl, hcap, hrow, hb3⟩
  have HB3 : Box _ := ⟨bel_calls HB2.out hb3⟩
  have HV1 : Box _ := ⟨HU1.out.below hb3⟩
  have HV2 : Box _ := ⟨HU2.out.below hb3⟩
  have HM3 : Box _ := ⟨hrow⟩
  have HCap : Box _ := ⟨hcap⟩
  clear hb3 hrow hcap HU1 HU2
  have HO3 : Box _ := ⟨HO.out w3 gm cap HCap.out HM3.out⟩
  rcases HZ.out with ⟨rfl, hof⟩ | ⟨hz0, S, hof, hpr⟩
  · rw [hof] at HO3
    clear hof HZ
    go_wp2_with fail
    refine HO3.out.mono ?_
    rintro e w4 ⟨rfl, hb4⟩
    have HX4 : Box _ := ⟨PrintAt.new w4 0 ByteArray.empty⟩
    have hb5 := bel_alloc hb4 (.cells #[.int .i64 0, .string ByteArray.empty] 24)
    have HB5 : Box _ := ⟨bel_calls HB3.out hb5⟩
    have HE1 : Box _ := ⟨HV1.out.below hb5⟩
    have HE2 : Box _ := ⟨HV2.out.below hb5⟩
    have HM5 : Box _ := ⟨HM3.out.below hb5⟩
    clear hb4 hb5 HV1 HV2
    obtain ⟨gx, hgx⟩ : ∃ gx, w4.heap.size = gx := ⟨_, rfl⟩
    rw [hgx] at HX4
    have x0 := HX4.out.c0
    have x1 := HX4.out.c1
    go_wp2_with fail
    refine (HNr.out _).mono ?_
    rintro e w6 ⟨rfl, rfl⟩
    have d0 := HE1.out.c0
    have d1 := HE1.out.c1
    go_wp2_with fail
    refine (HL.out _).mono ?_
    rintro e w7 ⟨rfl, hb7⟩
    have HB7 : Box _ := ⟨bel_calls HB5.out hb7⟩
    have HF1 : Box _ := ⟨HE1.out.below hb7⟩
    have HF2 : Box _ := ⟨HE2.out.below hb7⟩
    have HM7 : Box _ := ⟨HM5.out.below hb7⟩
    clear hb7 d0 d1 HE1 HE2 HM5
    have d0 := HF1.out.c0
    have d1 := HF1.out.c1
    go_wp2_with fail
    refine (HVr.out _).mono ?_
    rintro e w8 ⟨rfl, hb8⟩
    have HB8 : Box _ := ⟨bel_calls HB7.out hb8⟩
    have HG1 : Box _ := ⟨HF1.out.below hb8⟩
    have HG2 : Box _ := ⟨HF2.out.below hb8⟩
    have HM8 : Box _ := ⟨HM7.out.below hb8⟩
    clear hb8 d0 d1 HF1 HF2 HM7
    go_wp2_with fail
    refine (HRd.out _).mono ?_
    rintro e w9 ⟨rfl, hb9⟩
    have hb9' := bel_alloc hb9 (.cells #[.int .i64 rk, .string rs] 24)
    have HB9 : Box _ := ⟨bel_calls HB8.out hb9'⟩
    have HI1 : Box _ := ⟨HG1.out.below hb9'⟩
    have HI2 : Box _ := ⟨HG2.out.below hb9'⟩
    have HM9 : Box _ := ⟨HM8.out.below hb9'⟩
    have HU9 : Box _ := ⟨PrintAt.new w9 rk rs⟩
    obtain ⟨gu, hgu⟩ : ∃ gu, w9.heap.size = gu := ⟨_, rfl⟩
    rw [hgu] at HU9
    clear hb9 hb9' HG1 HG2 HM8
    go_wp2_with fail
    refine (HRr.out _).mono ?_
    rintro e w10 ⟨rfl, hb10⟩
    have hb10' := bel_alloc hb10 (.cells #[.int .i64 rk, .string rs] 24)
    have HB10 : Box _ := ⟨bel_calls HB9.out hb10'⟩
    have HK1 : Box _ := ⟨HI1.out.below hb10'⟩
    have HK2 : Box _ := ⟨HI2.out.below hb10'⟩
    have HM10 : Box _ := ⟨HM9.out.below hb10'⟩
    have HU10 : Box _ := ⟨HU9.out.below hb10'⟩
    have HW10 : Box _ := ⟨PrintAt.new w10 rk rs⟩
    obtain ⟨gv, hgv⟩ : ∃ gv, w10.heap.size = gv := ⟨_, rfl⟩
    rw [hgv] at HW10
    clear hb10 hb10' HI1 HI2 HM9 HU9
    obtain ⟨wA, hwA⟩ : ∃ wA, w10.alloc (.cells #[.int .i64 rk, .string rs] 24) = wA := ⟨_, rfl⟩
    rw [hwA] at HB10 HK1 HK2 HM10 HU10 HW10
    rcases HLay.out with ⟨rfl, hh⟩ | ⟨rfl, V, hh, hLP⟩
    · injection hh with hh1 hh2
      subst hh1 hh2
      clear HLay
      have KK : Box (∀ W, Below wA.heap.size wA W → W.cell? ⟨w.heap.size, 0, none⟩ = some (.int .i64 k1) ∧ W.cell? ⟨w.heap.size, 1, none⟩ = some (.string s1) ∧ W.cell? ⟨w.heap.size + 1, 0, none⟩ = some (.int .i64 k2) ∧ W.cell? ⟨w.heap.size + 1, 1, none⟩ = some (.string s2) ∧ W.cell? ⟨gu, 0, none⟩ = some (.int .i64 rk) ∧ W.cell? ⟨gu, 1, none⟩ = some (.string rs) ∧ W.cell? ⟨gv, 0, none⟩ = some (.int .i64 rk) ∧ W.cell? ⟨gv, 1, none⟩ = some (.string rs)) := ⟨fun W h => ⟨(HK1.out.below h).c0, (HK1.out.below h).c1, (HK2.out.below h).c0, (HK2.out.below h).c1, (HU10.out.below h).c0, (HU10.out.below h).c1, (HW10.out.below h).c0, (HW10.out.below h).c1⟩⟩
      have e2 : (rs.toList == rs.toList) = true := by simp
      have e3 : (X.toList == X.toList) = true := by simp
      go_wp2_with fail
      refine wp_region_held_drew (S := (fun w' => w'.cell? ⟨w.heap.size, 0, none⟩ = some (.int .i64 k1) ∧ w'.cell? ⟨w.heap.size, 1, none⟩ = some (.string s1) ∧ w'.cell? ⟨w.heap.size + 1, 0, none⟩ = some (.int .i64 k2) ∧ w'.cell? ⟨w.heap.size + 1, 1, none⟩ = some (.string s2) ∧ w'.cell? ⟨gu, 0, none⟩ = some (.int .i64 rk) ∧ w'.cell? ⟨gu, 1, none⟩ = some (.string rs) ∧ w'.cell? ⟨gv, 0, none⟩ = some (.int .i64 rk) ∧ w'.cell? ⟨gv, 1, none⟩ = some (.string rs))) (by kernel_rfl) ?afS (fun hHeld => ?_)
      case afS => first | (exact KK.out _ (bel_drew (Below.refl _ _))) | (dsimp only; exact KK.out _ (bel_drew (Below.refl _ _)))
      refine wpAnyH_take (i := 0) (oi := Go.Oper.mk (Option.some 116) (Go.Op.move (Go.Operand.tmp 0)) 3 "law.go:39" #[] Option.none) (v := ?af1_v) rfl (by kernel_rfl) (by kernel_rfl) (by kernel_rfl) (fun _ _ _ h => h) (Or.inl ⟨by rfl, ?af1_y⟩) (by assumption) ?_
      case af1_y => (intro w hSw; (try dsimp only at hSw); go_simp; (first | done | with_reducible rfl))
      try simp only [Act.put, List.setIfInBounds_toArray, List.set_cons_zero, List.set_cons_succ]
      refine wpAnyH_take (i := 2) (oi := Go.Oper.mk (Option.some 118) (Go.Op.move (Go.Operand.tmp 14)) 3 "law.go:39" #[] Option.none) (v := ?af2_v) rfl (by kernel_rfl) (by kernel_rfl) (by kernel_rfl) (fun _ _ _ h => h) (Or.inl ⟨by rfl, ?af2_y⟩) (by assumption) ?_
      case af2_y => (intro w hSw; (try dsimp only at hSw); go_simp; (first | done | with_reducible rfl))
      try simp only [Act.put, List.setIfInBounds_toArray, List.set_cons_zero, List.set_cons_succ]
      refine wpAnyH_ready (rs := [1]) (by kernel_rfl) (by simp) ?_
      refine AllReadyH.cons (i := 1) (o := Go.Oper.mk (Option.some 117) (Go.Op.call (Go.Call.mk (Go.Callee.value (Go.Operand.func 19)) #[Go.Operand.tmp 116] #[3])) 3 "law.go:39" #[Go.Edge.mk 0 Go.Ground.data] Option.none) rfl (fun K hK => ?_) AllReadyH.nil
      go_simp
      (refine (HN.out _).mono ?_; rintro e wn ⟨rfl, rfl⟩)
      go_wp2_with fail
      refine hK.out _ _ ?af3_k1 (fun hHeld => ?_)
      case af3_k1 => first | (exact KK.out _ (bel_drew (Below.refl _ _))) | (dsimp only; exact KK.out _ (bel_drew (Below.refl _ _)))
      clear hK K
      try simp only [Act.put, List.setIfInBounds_toArray, List.set_cons_zero, List.set_cons_succ]
      refine wpAnyH_take (i := 3) (oi := Go.Oper.mk (Option.some 119) (Go.Op.binOp Go.BinOp.eql 3 (Go.Operand.tmp 117) (Go.Operand.tmp 118) 3) 4 "law.go:39" #[Go.Edge.mk 1 Go.Ground.data, Go.Edge.mk 2 Go.Ground.data] Option.none) (v := ?af4_v) rfl (by kernel_rfl) (by kernel_rfl) (by kernel_rfl) (fun _ _ _ h => h) (Or.inl ⟨by rfl, ?af4_y⟩) (by assumption) ?_
      case af4_y => (intro w hSw; (try dsimp only at hSw); go_simp; (first | done | with_reducible rfl))
      try simp only [Act.put, List.setIfInBounds_toArray, List.set_cons_zero, List.set_cons_succ]
      refine wpAnyH_take (i := 4) (oi := Go.Oper.mk (Option.some 120) (Go.Op.move (Go.Operand.tmp 119)) 4 "law.go:39" #[Go.Edge.mk 3 Go.Ground.data, Go.Edge.mk 1 Go.Ground.chain] Option.none) (v := ?af5_v) rfl (by kernel_rfl) (by kernel_rfl) (by kernel_rfl) (fun _ _ _ h => h) (Or.inl ⟨by rfl, ?af5_y⟩) (by assumption) ?_
      case af5_y => (intro w hSw; (try dsimp only at hSw); go_simp; (first | done | with_reducible rfl))
      try simp only [Act.put, List.setIfInBounds_toArray, List.set_cons_zero, List.set_cons_succ]
      refine wpAnyH_take (i := 5) (oi := Go.Oper.mk (Option.some 121) (Go.Op.load 24 (Go.Operand.tmp 7)) 24 "law.go:39" #[Go.Edge.mk 4 Go.Ground.guard] (Option.some (4, Bool.true))) (v := ?af6_v) rfl (by kernel_rfl) (by kernel_rfl) (by kernel_rfl) (fun _ _ _ h => h) (Or.inl ⟨by rfl, ?af6_y⟩) (by assumption) ?_
      case af6_y => (intro w hSw; (try dsimp only at hSw); go_simp; (first | done | with_reducible rfl))
      try simp only [Act.put, List.setIfInBounds_toArray, List.set_cons_zero, List.set_cons_succ]
      refine wpAnyH_take (i := 7) (oi := Go.Oper.mk (Option.some 123) (Go.Op.move (Go.Operand.tmp 17)) 4 "law.go:39" #[Go.Edge.mk 4 Go.Ground.guard] (Option.some (4, Bool.true))) (v := ?af7_v) rfl (by kernel_rfl) (by kernel_rfl) (by kernel_rfl) (fun _ _ _ h => h) (Or.inl ⟨by rfl, ?af7_y⟩) (by assumption) ?_
      case af7_y => (intro w hSw; (try dsimp only at hSw); go_simp; (first | done | with_reducible rfl))
      try simp only [Act.put, List.setIfInBounds_toArray, List.set_cons_zero, List.set_cons_succ]
      refine wpAnyH_ready (rs := [6]) (by kernel_rfl) (by simp) ?_
      refine AllReadyH.cons (i := 6) (o := Go.Oper.mk (Option.some 122) (Go.Op.call (Go.Call.mk (Go.Callee.value (Go.Operand.func 20)) #[Go.Operand.tmp 121] #[24])) 4 "law.go:39" #[Go.Edge.mk 5 Go.Ground.data, Go.Edge.mk 4 Go.Ground.chain, Go.Edge.mk 4 Go.Ground.guard] (Option.some (4, Bool.true))) rfl (fun K hK => ?_) AllReadyH.nil
      go_simp
      (refine (HV.out _).mono ?_; rintro e wn1 ⟨rfl, hb⟩; have HD1 : Box _ := ⟨bel_calls (bel_drew (Below.refl _ _)) hb⟩; clear hb)
      go_wp2_with fail
      refine hK.out _ _ ?af8_k6 (fun hHeld => ?_)
      case af8_k6 => first | (exact KK.out _ HD1.out) | (dsimp only; exact KK.out _ HD1.out)
      clear hK K
      try simp only [Act.put, List.setIfInBounds_toArray, List.set_cons_zero, List.set_cons_succ]
      refine wpAnyH_take (i := 8) (oi := Go.Oper.mk (Option.some 124) (Go.Op.binOp Go.BinOp.eql 4 (Go.Operand.tmp 122) (Go.Operand.tmp 123) 4) 4 "law.go:39" #[Go.Edge.mk 6 Go.Ground.data, Go.Edge.mk 7 Go.Ground.data, Go.Edge.mk 4 Go.Ground.guard] (Option.some (4, Bool.true))) (v := ?af9_v) rfl (by kernel_rfl) (by kernel_rfl) (by kernel_rfl) (fun _ _ _ h => h) (Or.inl ⟨by rfl, ?af9_y⟩) (by assumption) ?_
      case af9_y => (intro w hSw; (try dsimp only at hSw); go_simp; (first | done | with_reducible rfl))
      try simp only [Act.put, List.setIfInBounds_toArray, List.set_cons_zero, List.set_cons_succ]
      refine wpAnyH_take (i := 9) (oi := Go.Oper.mk (Option.some 125) (Go.Op.pick (Go.Operand.tmp 120) (Go.Operand.tmp 124) (Go.Operand.const (Go.Value.bool Bool.false))) 4 "law.go:39" #[Go.Edge.mk 4 Go.Ground.data, Go.Edge.mk 8 Go.Ground.data] Option.none) (v := ?af10_v) rfl (by kernel_rfl) (by kernel_rfl) (by kernel_rfl) (fun _ _ _ h => h) (Or.inl ⟨by rfl, ?af10_y⟩) (by assumption) ?_
      case af10_y => (intro w hSw; (try dsimp only at hSw); go_simp; (first | done | with_reducible rfl))
      try simp only [Act.put, List.setIfInBounds_toArray, List.set_cons_zero, List.set_cons_succ]
      refine wpAnyH_take (i := 10) (oi := Go.Oper.mk (Option.some 126) (Go.Op.move (Go.Operand.tmp 125)) 4 "law.go:39" #[Go.Edge.mk 9 Go.Ground.data, Go.Edge.mk 6 Go.Ground.chain] Option.none) (v := ?af11_v) rfl (by kernel_rfl) (by kernel_rfl) (by kernel_rfl) (fun _ _ _ h => h) (Or.inl ⟨by rfl, ?af11_y⟩) (by assumption) ?_
      case af11_y => (intro w hSw; (try dsimp only at hSw); go_simp; (first | done | with_reducible rfl))
      try simp only [Act.put, List.setIfInBounds_toArray, List.set_cons_zero, List.set_cons_succ]
      refine wpAnyH_take (i := 11) (oi := Go.Oper.mk (Option.some 127) (Go.Op.load 24 (Go.Operand.tmp 18)) 24 "law.go:39" #[Go.Edge.mk 10 Go.Ground.guard] (Option.some (10, Bool.true))) (v := ?af12_v) rfl (by kernel_rfl) (by kernel_rfl) (by kernel_rfl) (fun _ _ _ h => h) (Or.inl ⟨by rfl, ?af12_y⟩) (by assumption) ?_
      case af12_y => (intro w hSw; (try dsimp only at hSw); go_simp; (first | done | with_reducible rfl))
      try simp only [Act.put, List.setIfInBounds_toArray, List.set_cons_zero, List.set_cons_succ]
      refine wpAnyH_take (i := 12) (oi := Go.Oper.mk (Option.some 128) (Go.Op.load 24 (Go.Operand.tmp 20)) 24 "law.go:39" #[Go.Edge.mk 10 Go.Ground.guard] (Option.some (10, Bool.true))) (v := ?af13_v) rfl (by kernel_rfl) (by kernel_rfl) (by kernel_rfl) (fun _ _ _ h => h) (Or.inl ⟨by rfl, ?af13_y⟩) (by assumption) ?_
      case af13_y => (intro w hSw; (try dsimp only at hSw); go_simp; (first | done | with_reducible rfl))
      try simp only [Act.put, List.setIfInBounds_toArray, List.set_cons_zero, List.set_cons_succ]
      refine wpAnyH_take (i := 13) (oi := Go.Oper.mk (Option.some 129) (Go.Op.binOp Go.BinOp.eql 24 (Go.Operand.tmp 127) (Go.Operand.tmp 128) 24) 4 "law.go:39" #[Go.Edge.mk 11 Go.Ground.data, Go.Edge.mk 12 Go.Ground.data, Go.Edge.mk 10 Go.Ground.guard] (Option.some (10, Bool.true))) (v := ?af14_v) rfl (by kernel_rfl) (by kernel_rfl) (by kernel_rfl) (fun _ _ _ h => h) (Or.inl ⟨by rfl, ?af14_y⟩) (by assumption) ?_
      case af14_y => (intro w hSw; (try dsimp only at hSw); go_simp; (first | done | with_reducible rfl))
      try simp only [Act.put, List.setIfInBounds_toArray, List.set_cons_zero, List.set_cons_succ]
      refine wpAnyH_take (i := 14) (oi := Go.Oper.mk (Option.some 130) (Go.Op.pick (Go.Operand.tmp 126) (Go.Operand.tmp 129) (Go.Operand.const (Go.Value.bool Bool.false))) 4 "law.go:39" #[Go.Edge.mk 10 Go.Ground.data, Go.Edge.mk 13 Go.Ground.data] Option.none) (v := ?af15_v) rfl (by kernel_rfl) (by kernel_rfl) (by kernel_rfl) (fun _ _ _ h => h) (Or.inl ⟨by rfl, ?af15_y⟩) (by assumption) ?_
      case af15_y => (intro w hSw; (try dsimp only at hSw); go_simp; (first | done | with_reducible rfl))
      try simp only [Act.put, List.setIfInBounds_toArray, List.set_cons_zero, List.set_cons_succ]
      refine wpAnyH_take (i := 15) (oi := Go.Oper.mk (Option.some 131) (Go.Op.move (Go.Operand.tmp 130)) 4 "law.go:39" #[Go.Edge.mk 14 Go.Ground.data, Go.Edge.mk 10 Go.Ground.chain] Option.none) (v := ?af16_v) rfl (by kernel_rfl) (by kernel_rfl) (by kernel_rfl) (fun _ _ _ h => h) (Or.inl ⟨by rfl, ?af16_y⟩) (by assumption) ?_
      case af16_y => (intro w hSw; (try dsimp only at hSw); go_simp; (first | done | with_reducible rfl))
      try simp only [Act.put, List.setIfInBounds_toArray, List.set_cons_zero, List.set_cons_succ]
      refine wpAnyH_take (i := 16) (oi := Go.Oper.mk (Option.some 132) (Go.Op.move (Go.Operand.tmp 19)) 25 "law.go:39" #[Go.Edge.mk 15 Go.Ground.guard] (Option.some (15, Bool.true))) (v := ?af17_v) rfl (by kernel_rfl) (by kernel_rfl) (by kernel_rfl) (fun _ _ _ h => h) (Or.inl ⟨by rfl, ?af17_y⟩) (by assumption) ?_
      case af17_y => (intro w hSw; (try dsimp only at hSw); go_simp; (first | done | with_reducible rfl))
      try simp only [Act.put, List.setIfInBounds_toArray, List.set_cons_zero, List.set_cons_succ]
      refine wpAnyH_take (i := 17) (oi := Go.Oper.mk (Option.some 133) (Go.Op.move (Go.Operand.tmp 21)) 25 "law.go:39" #[Go.Edge.mk 15 Go.Ground.guard] (Option.some (15, Bool.true))) (v := ?af18_v) rfl (by kernel_rfl) (by kernel_rfl) (by kernel_rfl) (fun _ _ _ h => h) (Or.inl ⟨by rfl, ?af18_y⟩) (by assumption) ?_
      case af18_y => (intro w hSw; (try dsimp only at hSw); go_simp; (first | done | with_reducible rfl))
      try simp only [Act.put, List.setIfInBounds_toArray, List.set_cons_zero, List.set_cons_succ]
      refine wpAnyH_take (i := 18) (oi := Go.Oper.mk (Option.some 134) (Go.Op.binOp Go.BinOp.eql 25 (Go.Operand.tmp 132) (Go.Operand.tmp 133) 25) 4 "law.go:39" #[Go.Edge.mk 16 Go.Ground.data, Go.Edge.mk 17 Go.Ground.data, Go.Edge.mk 15 Go.Ground.guard] (Option.some (15, Bool.true))) (v := ?af19_v) rfl (by kernel_rfl) (by kernel_rfl) (by kernel_rfl) (fun _ _ _ h => h) (Or.inl ⟨by rfl, ?af19_y⟩) (by assumption) ?_
      case af19_y => (intro w hSw; (try dsimp only at hSw); go_simp; (first | done | with_reducible rfl))
      try simp only [Act.put, List.setIfInBounds_toArray, List.set_cons_zero, List.set_cons_succ]
      refine wpAnyH_take (i := 19) (oi := Go.Oper.mk (Option.some 135) (Go.Op.pick (Go.Operand.tmp 131) (Go.Operand.tmp 134) (Go.Operand.const (Go.Value.bool Bool.false))) 4 "law.go:39" #[Go.Edge.mk 15 Go.Ground.data, Go.Edge.mk 18 Go.Ground.data] Option.none) (v := ?af20_v) rfl (by kernel_rfl) (by kernel_rfl) (by kernel_rfl) (fun _ _ _ h => h) (Or.inl ⟨by rfl, ?af20_y⟩) (by assumption) ?_
      case af20_y => (intro w hSw; (try dsimp only at hSw); go_simp; (first | done | with_reducible rfl))
      try simp only [Act.put, List.setIfInBounds_toArray, List.set_cons_zero, List.set_cons_succ]
      refine wpAnyH_take (i := 20) (oi := Go.Oper.mk (Option.some 136) (Go.Op.move (Go.Operand.tmp 135)) 4 "law.go:39" #[Go.Edge.mk 19 Go.Ground.data, Go.Edge.mk 15 Go.Ground.chain] Option.none) (v := ?af21_v) rfl (by kernel_rfl) (by kernel_rfl) (by kernel_rfl) (fun _ _ _ h => h) (Or.inl ⟨by rfl, ?af21_y⟩) (by assumption) ?_
      case af21_y => (intro w hSw; (try dsimp only at hSw); go_simp; (first | done | with_reducible rfl))
      try simp only [Act.put, List.setIfInBounds_toArray, List.set_cons_zero, List.set_cons_succ]
      refine wpAnyH_take (i := 21) (oi := Go.Oper.mk (Option.some 137) (Go.Op.load 24 (Go.Operand.tmp 7)) 24 "law.go:39" #[Go.Edge.mk 20 Go.Ground.guard] (Option.some (20, Bool.true))) (v := ?af22_v) rfl (by kernel_rfl) (by kernel_rfl) (by kernel_rfl) (fun _ _ _ h => h) (Or.inl ⟨by rfl, ?af22_y⟩) (by assumption) ?_
      case af22_y => (intro w hSw; (try dsimp only at hSw); go_simp; (first | done | with_reducible rfl))
      try simp only [Act.put, List.setIfInBounds_toArray, List.set_cons_zero, List.set_cons_succ]
      refine wpAnyH_take (i := 22) (oi := Go.Oper.mk (Option.some 138) (Go.Op.load 24 (Go.Operand.tmp 8)) 24 "law.go:39" #[Go.Edge.mk 20 Go.Ground.guard] (Option.some (20, Bool.true))) (v := ?af23_v) rfl (by kernel_rfl) (by kernel_rfl) (by kernel_rfl) (fun _ _ _ h => h) (Or.inl ⟨by rfl, ?af23_y⟩) (by assumption) ?_
      case af23_y => (intro w hSw; (try dsimp only at hSw); go_simp; (first | done | with_reducible rfl))
      try simp only [Act.put, List.setIfInBounds_toArray, List.set_cons_zero, List.set_cons_succ]
      refine wpAnyH_take (i := 24) (oi := Go.Oper.mk (Option.some 140) (Go.Op.load 24 (Go.Operand.tmp 7)) 24 "law.go:39" #[Go.Edge.mk 20 Go.Ground.guard] (Option.some (20, Bool.true))) (v := ?af24_v) rfl (by kernel_rfl) (by kernel_rfl) (by kernel_rfl) (fun _ _ _ h => h) (Or.inl ⟨by rfl, ?af24_y⟩) (by assumption) ?_
      case af24_y => (intro w hSw; (try dsimp only at hSw); go_simp; (first | done | with_reducible rfl))
      try simp only [Act.put, List.setIfInBounds_toArray, List.set_cons_zero, List.set_cons_succ]
      refine wpAnyH_take (i := 25) (oi := Go.Oper.mk (Option.some 141) (Go.Op.load 24 (Go.Operand.tmp 8)) 24 "law.go:39" #[Go.Edge.mk 20 Go.Ground.guard] (Option.some (20, Bool.true))) (v := ?af25_v) rfl (by kernel_rfl) (by kernel_rfl) (by kernel_rfl) (fun _ _ _ h => h) (Or.inl ⟨by rfl, ?af25_y⟩) (by assumption) ?_
      case af25_y => (intro w hSw; (try dsimp only at hSw); go_simp; (first | done | with_reducible rfl))
      try simp only [Act.put, List.setIfInBounds_toArray, List.set_cons_zero, List.set_cons_succ]
      refine wpAnyH_ready (rs := [23]) (by kernel_rfl) (by simp) ?_
      refine AllReadyH.cons (i := 23) (o := Go.Oper.mk (Option.some 139) (Go.Op.call (Go.Call.mk (Go.Callee.value (Go.Operand.func 11)) #[Go.Operand.tmp 137, Go.Operand.tmp 138] #[24, 24])) 3 "law.go:39" #[Go.Edge.mk 21 Go.Ground.data, Go.Edge.mk 22 Go.Ground.data, Go.Edge.mk 20 Go.Ground.chain, Go.Edge.mk 20 Go.Ground.guard] (Option.some (20, Bool.true))) rfl (fun K hK => ?_) AllReadyH.nil
      go_simp
      (refine (HC.out _).mono ?_; rintro e wn2 ⟨rfl, hb⟩; have HD2 : Box _ := ⟨bel_calls HD1.out hb⟩; clear hb)
      go_wp2_with fail
      refine hK.out _ _ ?af26_k23 (fun hHeld => ?_)
      case af26_k23 => first | (exact KK.out _ HD2.out) | (dsimp only; exact KK.out _ HD2.out)
      clear hK K
      try simp only [Act.put, List.setIfInBounds_toArray, List.set_cons_zero, List.set_cons_succ]
      refine wpAnyH_ready (rs := [26]) (by kernel_rfl) (by simp) ?_
      refine AllReadyH.cons (i := 26) (o := Go.Oper.mk (Option.some 142) (Go.Op.call (Go.Call.mk (Go.Callee.value (Go.Operand.func 21)) #[Go.Operand.tmp 140, Go.Operand.tmp 141] #[24, 24])) 3 "law.go:39" #[Go.Edge.mk 24 Go.Ground.data, Go.Edge.mk 25 Go.Ground.data, Go.Edge.mk 23 Go.Ground.chain, Go.Edge.mk 20 Go.Ground.guard] (Option.some (20, Bool.true))) rfl (fun K hK => ?_) AllReadyH.nil
      go_simp
      (refine (HCr.out _).mono ?_; rintro e wn3 ⟨rfl, hb⟩; have HD3 : Box _ := ⟨bel_calls HD2.out hb⟩; clear hb)
      go_wp2_with fail
      refine hK.out _ _ ?af27_k26 (fun hHeld => ?_)
      case af27_k26 => first | (exact KK.out _ HD3.out) | (dsimp only; exact KK.out _ HD3.out)
      clear hK K
      try simp only [Act.put, List.setIfInBounds_toArray, List.set_cons_zero, List.set_cons_succ]
      refine wpAnyH_take (i := 27) (oi := Go.Oper.mk (Option.some 143) (Go.Op.binOp Go.BinOp.eql 3 (Go.Operand.tmp 139) (Go.Operand.tmp 142) 3) 4 "law.go:39" #[Go.Edge.mk 23 Go.Ground.data, Go.Edge.mk 26 Go.Ground.data, Go.Edge.mk 20 Go.Ground.guard] (Option.some (20, Bool.true))) (v := ?af28_v) rfl (by kernel_rfl) (by kernel_rfl) (by kernel_rfl) (fun _ _ _ h => h) (Or.inl ⟨by rfl, ?af28_y⟩) (by assumption) ?_
      case af28_y => (intro w hSw; (try dsimp only at hSw); go_simp; (first | done | with_reducible rfl))
      try simp only [Act.put, List.setIfInBounds_toArray, List.set_cons_zero, List.set_cons_succ]
      refine wpAnyH_take (i := 28) (oi := Go.Oper.mk (Option.some 144) (Go.Op.pick (Go.Operand.tmp 136) (Go.Operand.tmp 143) (Go.Operand.const (Go.Value.bool Bool.false))) 4 "law.go:39" #[Go.Edge.mk 20 Go.Ground.data, Go.Edge.mk 27 Go.Ground.data] Option.none) (v := ?af29_v) rfl (by kernel_rfl) (by kernel_rfl) (by kernel_rfl) (fun _ _ _ h => h) (Or.inl ⟨by rfl, ?af29_y⟩) (by assumption) ?_
      case af29_y => (intro w hSw; (try dsimp only at hSw); go_simp; (first | done | with_reducible rfl))
      try simp only [Act.put, List.setIfInBounds_toArray, List.set_cons_zero, List.set_cons_succ]
      refine wpAnyH_take (i := 29) (oi := Go.Oper.mk (Option.some 145) (Go.Op.move (Go.Operand.tmp 144)) 4 "law.go:39" #[Go.Edge.mk 28 Go.Ground.data, Go.Edge.mk 26 Go.Ground.chain] Option.none) (v := ?af30_v) rfl (by kernel_rfl) (by kernel_rfl) (by kernel_rfl) (fun _ _ _ h => h) (Or.inl ⟨by rfl, ?af30_y⟩) (by assumption) ?_
      case af30_y => (intro w hSw; (try dsimp only at hSw); go_simp; (first | done | with_reducible rfl))
      try simp only [Act.put, List.setIfInBounds_toArray, List.set_cons_zero, List.set_cons_succ]
      refine wpAnyH_take (i := 30) (oi := Go.Oper.mk (Option.some 146) (Go.Op.load 24 (Go.Operand.tmp 7)) 24 "law.go:39" #[Go.Edge.mk 29 Go.Ground.guard] (Option.some (29, Bool.true))) (v := ?af31_v) rfl (by kernel_rfl) (by kernel_rfl) (by kernel_rfl) (fun _ _ _ h => h) (Or.inl ⟨by rfl, ?af31_y⟩) (by assumption) ?_
      case af31_y => (intro w hSw; (try dsimp only at hSw); go_simp; (first | done | with_reducible rfl))
      try simp only [Act.put, List.setIfInBounds_toArray, List.set_cons_zero, List.set_cons_succ]
      refine wpAnyH_take (i := 31) (oi := Go.Oper.mk (Option.some 147) (Go.Op.load 24 (Go.Operand.tmp 7)) 24 "law.go:39" #[Go.Edge.mk 29 Go.Ground.guard] (Option.some (29, Bool.true))) (v := ?af32_v) rfl (by kernel_rfl) (by kernel_rfl) (by kernel_rfl) (fun _ _ _ h => h) (Or.inl ⟨by rfl, ?af32_y⟩) (by assumption) ?_
      case af32_y => (intro w hSw; (try dsimp only at hSw); go_simp; (first | done | with_reducible rfl))
      try simp only [Act.put, List.setIfInBounds_toArray, List.set_cons_zero, List.set_cons_succ]
      refine wpAnyH_ready (rs := [32]) (by kernel_rfl) (by simp) ?_
      refine AllReadyH.cons (i := 32) (o := Go.Oper.mk (Option.some 148) (Go.Op.call (Go.Call.mk (Go.Callee.value (Go.Operand.func 11)) #[Go.Operand.tmp 146, Go.Operand.tmp 147] #[24, 24])) 3 "law.go:39" #[Go.Edge.mk 30 Go.Ground.data, Go.Edge.mk 31 Go.Ground.data, Go.Edge.mk 29 Go.Ground.chain, Go.Edge.mk 29 Go.Ground.guard] (Option.some (29, Bool.true))) rfl (fun K hK => ?_) AllReadyH.nil
      go_simp
      (refine (HC1.out _).mono ?_; rintro e wn4 ⟨rfl, hb⟩; have HD4 : Box _ := ⟨bel_calls HD3.out hb⟩; clear hb)
      go_wp2_with fail
      refine hK.out _ _ ?af33_k32 (fun hHeld => ?_)
      case af33_k32 => first | (exact KK.out _ HD4.out) | (dsimp only; exact KK.out _ HD4.out)
      clear hK K
      try simp only [Act.put, List.setIfInBounds_toArray, List.set_cons_zero, List.set_cons_succ]
      refine wpAnyH_take (i := 33) (oi := Go.Oper.mk (Option.some 149) (Go.Op.binOp Go.BinOp.eql 3 (Go.Operand.tmp 148) (Go.Operand.const (Go.Value.int Go.IntKind.i64 0)) 3) 4 "law.go:39" #[Go.Edge.mk 32 Go.Ground.data, Go.Edge.mk 29 Go.Ground.guard] (Option.some (29, Bool.true))) (v := ?af34_v) rfl (by kernel_rfl) (by kernel_rfl) (by kernel_rfl) (fun _ _ _ h => h) (Or.inl ⟨by rfl, ?af34_y⟩) (by assumption) ?_
      case af34_y => (intro w hSw; (try dsimp only at hSw); go_simp; (first | done | with_reducible rfl))
      try simp only [Act.put, List.setIfInBounds_toArray, List.set_cons_zero, List.set_cons_succ]
      refine wpAnyH_take (i := 34) (oi := Go.Oper.mk (Option.some 150) (Go.Op.pick (Go.Operand.tmp 145) (Go.Operand.tmp 149) (Go.Operand.const (Go.Value.bool Bool.false))) 4 "law.go:39" #[Go.Edge.mk 29 Go.Ground.data, Go.Edge.mk 33 Go.Ground.data] Option.none) (v := ?af35_v) rfl (by kernel_rfl) (by kernel_rfl) (by kernel_rfl) (fun _ _ _ h => h) (Or.inl ⟨by rfl, ?af35_y⟩) (by assumption) ?_
      case af35_y => (intro w hSw; (try dsimp only at hSw); go_simp; (first | done | with_reducible rfl))
      try simp only [Act.put, List.setIfInBounds_toArray, List.set_cons_zero, List.set_cons_succ]
      refine wpAnyH_take (i := 35) (oi := Go.Oper.mk (Option.some 151) (Go.Op.move (Go.Operand.tmp 150)) 4 "law.go:39" #[Go.Edge.mk 34 Go.Ground.data, Go.Edge.mk 32 Go.Ground.chain] Option.none) (v := ?af36_v) rfl (by kernel_rfl) (by kernel_rfl) (by kernel_rfl) (fun _ _ _ h => h) (Or.inl ⟨by rfl, ?af36_y⟩) (by assumption) ?_
      case af36_y => (intro w hSw; (try dsimp only at hSw); go_simp; (first | done | with_reducible rfl))
      try simp only [Act.put, List.setIfInBounds_toArray, List.set_cons_zero, List.set_cons_succ]
      refine wpAnyH_take (i := 36) (oi := Go.Oper.mk (Option.some 152) (Go.Op.load 24 (Go.Operand.tmp 7)) 24 "law.go:39" #[Go.Edge.mk 35 Go.Ground.guard] (Option.some (35, Bool.true))) (v := ?af37_v) rfl (by kernel_rfl) (by kernel_rfl) (by kernel_rfl) (fun _ _ _ h => h) (Or.inl ⟨by rfl, ?af37_y⟩) (by assumption) ?_
      case af37_y => (intro w hSw; (try dsimp only at hSw); go_simp; (first | done | with_reducible rfl))
      try simp only [Act.put, List.setIfInBounds_toArray, List.set_cons_zero, List.set_cons_succ]
      refine wpAnyH_take (i := 38) (oi := Go.Oper.mk (Option.some 154) (Go.Op.load 24 (Go.Operand.tmp 7)) 24 "law.go:39" #[Go.Edge.mk 35 Go.Ground.guard] (Option.some (35, Bool.true))) (v := ?af38_v) rfl (by kernel_rfl) (by kernel_rfl) (by kernel_rfl) (fun _ _ _ h => h) (Or.inl ⟨by rfl, ?af38_y⟩) (by assumption) ?_
      case af38_y => (intro w hSw; (try dsimp only at hSw); go_simp; (first | done | with_reducible rfl))
      try simp only [Act.put, List.setIfInBounds_toArray, List.set_cons_zero, List.set_cons_succ]
      refine wpAnyH_ready (rs := [37]) (by kernel_rfl) (by simp) ?_
      refine AllReadyH.cons (i := 37) (o := Go.Oper.mk (Option.some 153) (Go.Op.call (Go.Call.mk (Go.Callee.value (Go.Operand.func 22)) #[Go.Operand.tmp 152] #[24])) 3 "law.go:39" #[Go.Edge.mk 36 Go.Ground.data, Go.Edge.mk 35 Go.Ground.chain, Go.Edge.mk 35 Go.Ground.guard] (Option.some (35, Bool.true))) rfl (fun K hK => ?_) AllReadyH.nil
      go_simp
      (refine (HH.out _).mono ?_; rintro e wn5 ⟨rfl, hb⟩; have HD5 : Box _ := ⟨bel_calls HD4.out hb⟩; clear hb)
      go_wp2_with fail
      refine hK.out _ _ ?af39_k37 (fun hHeld => ?_)
      case af39_k37 => first | (exact KK.out _ HD5.out) | (dsimp only; exact KK.out _ HD5.out)
      clear hK K
      try simp only [Act.put, List.setIfInBounds_toArray, List.set_cons_zero, List.set_cons_succ]
      refine wpAnyH_ready (rs := [39]) (by kernel_rfl) (by simp) ?_
      refine AllReadyH.cons (i := 39) (o := Go.Oper.mk (Option.some 155) (Go.Op.call (Go.Call.mk (Go.Callee.value (Go.Operand.func 23)) #[Go.Operand.tmp 154] #[24])) 3 "law.go:39" #[Go.Edge.mk 38 Go.Ground.data, Go.Edge.mk 37 Go.Ground.chain, Go.Edge.mk 35 Go.Ground.guard] (Option.some (35, Bool.true))) rfl (fun K hK => ?_) AllReadyH.nil
      go_simp
      (refine (HHr.out _).mono ?_; rintro e wn6 ⟨rfl, hb⟩; have HD6 : Box _ := ⟨bel_calls HD5.out hb⟩; clear hb)
      go_wp2_with fail
      refine hK.out _ _ ?af40_k39 (fun hHeld => ?_)
      case af40_k39 => first | (exact KK.out _ HD6.out) | (dsimp only; exact KK.out _ HD6.out)
      clear hK K
      try simp only [Act.put, List.setIfInBounds_toArray, List.set_cons_zero, List.set_cons_succ]
      refine wpAnyH_take (i := 40) (oi := Go.Oper.mk (Option.some 156) (Go.Op.binOp Go.BinOp.eql 3 (Go.Operand.tmp 153) (Go.Operand.tmp 155) 3) 4 "law.go:39" #[Go.Edge.mk 37 Go.Ground.data, Go.Edge.mk 39 Go.Ground.data, Go.Edge.mk 35 Go.Ground.guard] (Option.some (35, Bool.true))) (v := ?af41_v) rfl (by kernel_rfl) (by kernel_rfl) (by kernel_rfl) (fun _ _ _ h => h) (Or.inl ⟨by rfl, ?af41_y⟩) (by assumption) ?_
      case af41_y => (intro w hSw; (try dsimp only at hSw); go_simp; (first | done | with_reducible rfl))
      try simp only [Act.put, List.setIfInBounds_toArray, List.set_cons_zero, List.set_cons_succ]
      refine wpAnyH_take (i := 41) (oi := Go.Oper.mk (Option.some 157) (Go.Op.pick (Go.Operand.tmp 151) (Go.Operand.tmp 156) (Go.Operand.const (Go.Value.bool Bool.false))) 4 "law.go:39" #[Go.Edge.mk 35 Go.Ground.data, Go.Edge.mk 40 Go.Ground.data] Option.none) (v := ?af42_v) rfl (by kernel_rfl) (by kernel_rfl) (by kernel_rfl) (fun _ _ _ h => h) (Or.inl ⟨by rfl, ?af42_y⟩) (by assumption) ?_
      case af42_y => (intro w hSw; (try dsimp only at hSw); go_simp; (first | done | with_reducible rfl))
      try simp only [Act.put, List.setIfInBounds_toArray, List.set_cons_zero, List.set_cons_succ]
      refine wpAnyH_take (i := 42) (oi := Go.Oper.mk (Option.some 158) (Go.Op.move (Go.Operand.tmp 157)) 4 "law.go:39" #[Go.Edge.mk 41 Go.Ground.data, Go.Edge.mk 39 Go.Ground.chain] Option.none) (v := ?af43_v) rfl (by kernel_rfl) (by kernel_rfl) (by kernel_rfl) (fun _ _ _ h => h) (Or.inl ⟨by rfl, ?af43_y⟩) (by assumption) ?_
      case af43_y => (intro w hSw; (try dsimp only at hSw); go_simp; (first | done | with_reducible rfl))
      try simp only [Act.put, List.setIfInBounds_toArray, List.set_cons_zero, List.set_cons_succ]
      refine wpAnyH_take (i := 43) (oi := Go.Oper.mk (Option.some 159) (Go.Op.load 24 (Go.Operand.tmp 7)) 24 "law.go:39" #[Go.Edge.mk 42 Go.Ground.guard] (Option.some (42, Bool.true))) (v := ?af44_v) rfl (by kernel_rfl) (by kernel_rfl) (by kernel_rfl) (fun _ _ _ h => h) (Or.inl ⟨by rfl, ?af44_y⟩) (by assumption) ?_
      case af44_y => (intro w hSw; (try dsimp only at hSw); go_simp; (first | done | with_reducible rfl))
      try simp only [Act.put, List.setIfInBounds_toArray, List.set_cons_zero, List.set_cons_succ]
      refine wpAnyH_take (i := 45) (oi := Go.Oper.mk (Option.some 161) (Go.Op.fieldAddr 24 (Go.Operand.tmp 7) 1) 0 "law.go:39" #[Go.Edge.mk 42 Go.Ground.guard] (Option.some (42, Bool.true))) (v := ?af45_v) rfl (by kernel_rfl) (by kernel_rfl) (by kernel_rfl) (fun _ _ _ h => h) (Or.inl ⟨by rfl, ?af45_y⟩) (by assumption) ?_
      case af45_y => (intro w hSw; (try dsimp only at hSw); go_simp; (first | done | with_reducible rfl))
      try simp only [Act.put, List.setIfInBounds_toArray, List.set_cons_zero, List.set_cons_succ]
      refine wpAnyH_take (i := 46) (oi := Go.Oper.mk (Option.some 162) (Go.Op.load 9 (Go.Operand.tmp 161)) 9 "law.go:39" #[Go.Edge.mk 45 Go.Ground.data, Go.Edge.mk 42 Go.Ground.guard] (Option.some (42, Bool.true))) (v := ?af46_v) rfl (by kernel_rfl) (by kernel_rfl) (by kernel_rfl) (fun _ _ _ h => h) (Or.inl ⟨by rfl, ?af46_y⟩) (by assumption) ?_
      case af46_y => (intro w hSw; (try dsimp only at hSw); go_simp; (first | done | with_reducible rfl))
      try simp only [Act.put, List.setIfInBounds_toArray, List.set_cons_zero, List.set_cons_succ]
      refine wpAnyH_ready (rs := [44]) (by kernel_rfl) (by simp) ?_
      refine AllReadyH.cons (i := 44) (o := Go.Oper.mk (Option.some 160) (Go.Op.call (Go.Call.mk (Go.Callee.value (Go.Operand.func 24)) #[Go.Operand.tmp 159] #[24])) 9 "law.go:39" #[Go.Edge.mk 43 Go.Ground.data, Go.Edge.mk 42 Go.Ground.chain, Go.Edge.mk 42 Go.Ground.guard] (Option.some (42, Bool.true))) rfl (fun K hK => ?_) AllReadyH.nil
      go_simp
      (refine (HT.out _).mono ?_; rintro e wn7 ⟨rfl, hb⟩; have HD7 : Box _ := ⟨bel_calls HD6.out hb⟩; clear hb)
      go_wp2_with fail
      refine hK.out _ _ ?af47_k44 (fun hHeld => ?_)
      case af47_k44 => first | (exact KK.out _ HD7.out) | (dsimp only; exact KK.out _ HD7.out)
      clear hK K
      try simp only [Act.put, List.setIfInBounds_toArray, List.set_cons_zero, List.set_cons_succ]
      refine wpAnyH_ready (rs := [47]) (by kernel_rfl) (by simp) ?_
      refine AllReadyH.cons (i := 47) (o := Go.Oper.mk (Option.some 163) (Go.Op.call (Go.Call.mk (Go.Callee.value (Go.Operand.func 25)) #[Go.Operand.tmp 162] #[9])) 9 "law.go:39" #[Go.Edge.mk 46 Go.Ground.data, Go.Edge.mk 44 Go.Ground.chain, Go.Edge.mk 42 Go.Ground.guard] (Option.some (42, Bool.true))) rfl (fun K hK => ?_) AllReadyH.nil
      go_simp
      (refine (HX.out _).mono ?_; rintro e wn8 ⟨rfl, hb⟩; have HD8 : Box _ := ⟨bel_calls HD7.out hb⟩; clear hb)
      go_wp2_with fail
      refine hK.out _ _ ?af48_k47 (fun hHeld => ?_)
      case af48_k47 => first | (exact KK.out _ HD8.out) | (dsimp only; exact KK.out _ HD8.out)
      clear hK K
      try simp only [Act.put, List.setIfInBounds_toArray, List.set_cons_zero, List.set_cons_succ]
      refine wpAnyH_take (i := 48) (oi := Go.Oper.mk (Option.some 164) (Go.Op.binOp Go.BinOp.eql 9 (Go.Operand.tmp 160) (Go.Operand.tmp 163) 9) 4 "law.go:39" #[Go.Edge.mk 44 Go.Ground.data, Go.Edge.mk 47 Go.Ground.data, Go.Edge.mk 42 Go.Ground.guard] (Option.some (42, Bool.true))) (v := ?af49_v) rfl (by kernel_rfl) (by kernel_rfl) (by kernel_rfl) (fun _ _ _ h => h) (Or.inl ⟨by rfl, ?af49_y⟩) (by assumption) ?_
      case af49_y => (intro w hSw; (try dsimp only at hSw); go_simp; (first | done | with_reducible rfl))
      try simp only [Act.put, List.setIfInBounds_toArray, List.set_cons_zero, List.set_cons_succ]
      refine wpAnyH_take (i := 49) (oi := Go.Oper.mk (Option.some 165) (Go.Op.pick (Go.Operand.tmp 158) (Go.Operand.tmp 164) (Go.Operand.const (Go.Value.bool Bool.false))) 4 "law.go:39" #[Go.Edge.mk 42 Go.Ground.data, Go.Edge.mk 48 Go.Ground.data] Option.none) (v := ?af50_v) rfl (by kernel_rfl) (by kernel_rfl) (by kernel_rfl) (fun _ _ _ h => h) (Or.inl ⟨by rfl, ?af50_y⟩) (by assumption) ?_
      case af50_y => (intro w hSw; (try dsimp only at hSw); go_simp; (first | done | with_reducible rfl))
      try simp only [Act.put, List.setIfInBounds_toArray, List.set_cons_zero, List.set_cons_succ]
      refine wpAnyH_take (i := 50) (oi := Go.Oper.mk (Option.some 166) (Go.Op.move (Go.Operand.tmp 165)) 4 "law.go:39" #[Go.Edge.mk 49 Go.Ground.data, Go.Edge.mk 47 Go.Ground.chain] Option.none) (v := ?af51_v) rfl (by kernel_rfl) (by kernel_rfl) (by kernel_rfl) (fun _ _ _ h => h) (Or.inl ⟨by rfl, ?af51_y⟩) (by assumption) ?_
      case af51_y => (intro w hSw; (try dsimp only at hSw); go_simp; (first | done | with_reducible rfl))
      try simp only [Act.put, List.setIfInBounds_toArray, List.set_cons_zero, List.set_cons_succ]
      refine wpAnyH_take (i := 51) (oi := Go.Oper.mk (Option.some 167) (Go.Op.move (Go.Operand.tmp 11)) 36 "law.go:39" #[Go.Edge.mk 50 Go.Ground.guard] (Option.some (50, Bool.true))) (v := ?af52_v) rfl (by kernel_rfl) (by kernel_rfl) (by kernel_rfl) (fun _ _ _ h => h) (Or.inl ⟨by rfl, ?af52_y⟩) (by assumption) ?_
      case af52_y => (intro w hSw; (try dsimp only at hSw); go_simp; (first | done | with_reducible rfl))
      try simp only [Act.put, List.setIfInBounds_toArray, List.set_cons_zero, List.set_cons_succ]
      refine wpAnyH_take (i := 52) (oi := Go.Oper.mk (Option.some 168) (Go.Op.move (Go.Operand.tmp 1)) 36 "law.go:39" #[Go.Edge.mk 50 Go.Ground.guard] (Option.some (50, Bool.true))) (v := ?af53_v) rfl (by kernel_rfl) (by kernel_rfl) (by kernel_rfl) (fun _ _ _ h => h) (Or.inl ⟨by rfl, ?af53_y⟩) (by assumption) ?_
      case af53_y => (intro w hSw; (try dsimp only at hSw); go_simp; (first | done | with_reducible rfl))
      try simp only [Act.put, List.setIfInBounds_toArray, List.set_cons_zero, List.set_cons_succ]
      refine wpAnyH_ready (rs := [53]) (by kernel_rfl) (by simp) ?_
      refine AllReadyH.cons (i := 53) (o := Go.Oper.mk (Option.some 169) (Go.Op.call (Go.Call.mk (Go.Callee.value (Go.Operand.func 26)) #[Go.Operand.tmp 167, Go.Operand.tmp 168] #[36, 36])) 4 "law.go:39" #[Go.Edge.mk 51 Go.Ground.data, Go.Edge.mk 52 Go.Ground.data, Go.Edge.mk 50 Go.Ground.chain, Go.Edge.mk 50 Go.Ground.guard] (Option.some (50, Bool.true))) rfl (fun K hK => ?_) AllReadyH.nil
      go_simp
      (refine (HSt.out _ gm cap HCap.out (HM10.out.below HD8.out) (HRl.out.below (bel_calls HB10.out HD8.out))).mono ?_; rintro e wn9 ⟨rfl, hb⟩; have HD9 : Box _ := ⟨bel_calls HD8.out hb⟩; clear hb)
      go_wp2_with fail
      refine hK.out _ _ ?af54_k53 (fun hHeld => ?_)
      case af54_k53 => first | (exact KK.out _ HD9.out) | (dsimp only; exact KK.out _ HD9.out)
      clear hK K
      try simp only [Act.put, List.setIfInBounds_toArray, List.set_cons_zero, List.set_cons_succ]
      refine wpAnyH_take (i := 54) (oi := Go.Oper.mk (Option.some 170) (Go.Op.pick (Go.Operand.tmp 166) (Go.Operand.tmp 169) (Go.Operand.const (Go.Value.bool Bool.false))) 4 "law.go:39" #[Go.Edge.mk 50 Go.Ground.data, Go.Edge.mk 53 Go.Ground.data] Option.none) (v := ?af55_v) rfl (by kernel_rfl) (by kernel_rfl) (by kernel_rfl) (fun _ _ _ h => h) (Or.inl ⟨by rfl, ?af55_y⟩) (by assumption) ?_
      case af55_y => (intro w hSw; (try dsimp only at hSw); go_simp; (first | done | with_reducible rfl))
      try simp only [Act.put, List.setIfInBounds_toArray, List.set_cons_zero, List.set_cons_succ]
      refine wpAnyH_take (i := 55) (oi := Go.Oper.mk (Option.some 10) (Go.Op.assign (Go.Operand.tmp 170)) 4 "law.go:39" #[Go.Edge.mk 54 Go.Ground.data, Go.Edge.mk 53 Go.Ground.chain, Go.Edge.mk 0 Go.Ground.phase, Go.Edge.mk 1 Go.Ground.phase, Go.Edge.mk 2 Go.Ground.phase, Go.Edge.mk 3 Go.Ground.phase, Go.Edge.mk 4 Go.Ground.phase, Go.Edge.mk 5 Go.Ground.phase, Go.Edge.mk 6 Go.Ground.phase, Go.Edge.mk 7 Go.Ground.phase, Go.Edge.mk 8 Go.Ground.phase, Go.Edge.mk 9 Go.Ground.phase, Go.Edge.mk 10 Go.Ground.phase, Go.Edge.mk 11 Go.Ground.phase, Go.Edge.mk 12 Go.Ground.phase, Go.Edge.mk 13 Go.Ground.phase, Go.Edge.mk 14 Go.Ground.phase, Go.Edge.mk 15 Go.Ground.phase, Go.Edge.mk 16 Go.Ground.phase, Go.Edge.mk 17 Go.Ground.phase, Go.Edge.mk 18 Go.Ground.phase, Go.Edge.mk 19 Go.Ground.phase, Go.Edge.mk 20 Go.Ground.phase, Go.Edge.mk 21 Go.Ground.phase, Go.Edge.mk 22 Go.Ground.phase, Go.Edge.mk 23 Go.Ground.phase, Go.Edge.mk 24 Go.Ground.phase, Go.Edge.mk 25 Go.Ground.phase, Go.Edge.mk 26 Go.Ground.phase, Go.Edge.mk 27 Go.Ground.phase, Go.Edge.mk 28 Go.Ground.phase, Go.Edge.mk 29 Go.Ground.phase, Go.Edge.mk 30 Go.Ground.phase, Go.Edge.mk 31 Go.Ground.phase, Go.Edge.mk 32 Go.Ground.phase, Go.Edge.mk 33 Go.Ground.phase, Go.Edge.mk 34 Go.Ground.phase, Go.Edge.mk 35 Go.Ground.phase, Go.Edge.mk 36 Go.Ground.phase, Go.Edge.mk 37 Go.Ground.phase, Go.Edge.mk 38 Go.Ground.phase, Go.Edge.mk 39 Go.Ground.phase, Go.Edge.mk 40 Go.Ground.phase, Go.Edge.mk 41 Go.Ground.phase, Go.Edge.mk 42 Go.Ground.phase, Go.Edge.mk 43 Go.Ground.phase, Go.Edge.mk 44 Go.Ground.phase, Go.Edge.mk 45 Go.Ground.phase, Go.Edge.mk 46 Go.Ground.phase, Go.Edge.mk 47 Go.Ground.phase, Go.Edge.mk 48 Go.Ground.phase, Go.Edge.mk 49 Go.Ground.phase, Go.Edge.mk 50 Go.Ground.phase, Go.Edge.mk 51 Go.Ground.phase, Go.Edge.mk 52 Go.Ground.phase, Go.Edge.mk 53 Go.Ground.phase, Go.Edge.mk 54 Go.Ground.phase] Option.none) (v := ?af56_v) rfl (by kernel_rfl) (by kernel_rfl) (by kernel_rfl) (fun _ _ _ h => h) (Or.inl ⟨by rfl, ?af56_y⟩) (by assumption) ?_
      case af56_y => (intro w hSw; (try dsimp only at hSw); go_simp; (first | done | with_reducible rfl))
      try simp only [Act.put, List.setIfInBounds_toArray, List.set_cons_zero, List.set_cons_succ]
      refine wpAnyH_done (by kernel_rfl) ?_ _
      go_wp2_with fail
      go_ret
      exact ⟨rfl, bel_calls HB10.out HD9.out⟩
    · injection hh with hh1 hh2
      subst hh1 hh2
      have HLP : Box _ := ⟨hLP⟩
      clear HLay hLP
      have e1 : (LS.toList != LS.toList) = false := by simp
      have e0 : (LS.toList == LS.toList) = true := by simp
      have d0 := HK1.out.c0
      have d1 := HK1.out.c1
      go_wp2_with fail
      refine (HLP.out _).mono ?_
      rintro e wB ⟨rfl, hbB⟩
      have HBB : Box _ := ⟨bel_calls HB10.out hbB⟩
      replace HK1 : Box _ := ⟨HK1.out.below hbB⟩
      replace HK2 : Box _ := ⟨HK2.out.below hbB⟩
      replace HM10 : Box _ := ⟨HM10.out.below hbB⟩
      replace HU10 : Box _ := ⟨HU10.out.below hbB⟩
      replace HW10 : Box _ := ⟨HW10.out.below hbB⟩
      replace HB10 := HBB
      clear hbB d0 d1 HBB
      have KK : Box (∀ W, Below wB.heap.size wB W → W.cell? ⟨w.heap.size, 0, none⟩ = some (.int .i64 k1) ∧ W.cell? ⟨w.heap.size, 1, none⟩ = some (.string s1) ∧ W.cell? ⟨w.heap.size + 1, 0, none⟩ = some (.int .i64 k2) ∧ W.cell? ⟨w.heap.size + 1, 1, none⟩ = some (.string s2) ∧ W.cell? ⟨gu, 0, none⟩ = some (.int .i64 rk) ∧ W.cell? ⟨gu, 1, none⟩ = some (.string rs) ∧ W.cell? ⟨gv, 0, none⟩ = some (.int .i64 rk) ∧ W.cell? ⟨gv, 1, none⟩ = some (.string rs)) := ⟨fun W h => ⟨(HK1.out.below h).c0, (HK1.out.below h).c1, (HK2.out.below h).c0, (HK2.out.below h).c1, (HU10.out.below h).c0, (HU10.out.below h).c1, (HW10.out.below h).c0, (HW10.out.below h).c1⟩⟩
      have e2 : (rs.toList == rs.toList) = true := by simp
      have e3 : (X.toList == X.toList) = true := by simp
      go_wp2_with fail
      refine wp_region_held_drew (S := (fun w' => w'.cell? ⟨w.heap.size, 0, none⟩ = some (.int .i64 k1) ∧ w'.cell? ⟨w.heap.size, 1, none⟩ = some (.string s1) ∧ w'.cell? ⟨w.heap.size + 1, 0, none⟩ = some (.int .i64 k2) ∧ w'.cell? ⟨w.heap.size + 1, 1, none⟩ = some (.string s2) ∧ w'.cell? ⟨gu, 0, none⟩ = some (.int .i64 rk) ∧ w'.cell? ⟨gu, 1, none⟩ = some (.string rs) ∧ w'.cell? ⟨gv, 0, none⟩ = some (.int .i64 rk) ∧ w'.cell? ⟨gv, 1, none⟩ = some (.string rs))) (by kernel_rfl) ?atS (fun hHeld => ?_)
      case atS => first | (exact KK.out _ (bel_drew (Below.refl _ _))) | (dsimp only; exact KK.out _ (bel_drew (Below.refl _ _)))
      refine wpAnyH_take (i := 0) (oi := Go.Oper.mk (Option.some 116) (Go.Op.move (Go.Operand.tmp 0)) 3 "law.go:39" #[] Option.none) (v := ?at1_v) rfl (by kernel_rfl) (by kernel_rfl) (by kernel_rfl) (fun _ _ _ h => h) (Or.inl ⟨by rfl, ?at1_y⟩) (by assumption) ?_
      case at1_y => (intro w hSw; (try dsimp only at hSw); go_simp; (first | done | with_reducible rfl))
      try simp only [Act.put, List.setIfInBounds_toArray, List.set_cons_zero, List.set_cons_succ]
      refine wpAnyH_take (i := 2) (oi := Go.Oper.mk (Option.some 118) (Go.Op.move (Go.Operand.tmp 14)) 3 "law.go:39" #[] Option.none) (v := ?at2_v) rfl (by kernel_rfl) (by kernel_rfl) (by kernel_rfl) (fun _ _ _ h => h) (Or.inl ⟨by rfl, ?at2_y⟩) (by assumption) ?_
      case at2_y => (intro w hSw; (try dsimp only at hSw); go_simp; (first | done | with_reducible rfl))
      try simp only [Act.put, List.setIfInBounds_toArray, List.set_cons_zero, List.set_cons_succ]
      refine wpAnyH_ready (rs := [1]) (by kernel_rfl) (by simp) ?_
      refine AllReadyH.cons (i := 1) (o := Go.Oper.mk (Option.some 117) (Go.Op.call (Go.Call.mk (Go.Callee.value (Go.Operand.func 19)) #[Go.Operand.tmp 116] #[3])) 3 "law.go:39" #[Go.Edge.mk 0 Go.Ground.data] Option.none) rfl (fun K hK => ?_) AllReadyH.nil
      go_simp
      (refine (HN.out _).mono ?_; rintro e wn ⟨rfl, rfl⟩)
      go_wp2_with fail
      refine hK.out _ _ ?at3_k1 (fun hHeld => ?_)
      case at3_k1 => first | (exact KK.out _ (bel_drew (Below.refl _ _))) | (dsimp only; exact KK.out _ (bel_drew (Below.refl _ _)))
      clear hK K
      try simp only [Act.put, List.setIfInBounds_toArray, List.set_cons_zero, List.set_cons_succ]
      refine wpAnyH_take (i := 3) (oi := Go.Oper.mk (Option.some 119) (Go.Op.binOp Go.BinOp.eql 3 (Go.Operand.tmp 117) (Go.Operand.tmp 118) 3) 4 "law.go:39" #[Go.Edge.mk 1 Go.Ground.data, Go.Edge.mk 2 Go.Ground.data] Option.none) (v := ?at4_v) rfl (by kernel_rfl) (by kernel_rfl) (by kernel_rfl) (fun _ _ _ h => h) (Or.inl ⟨by rfl, ?at4_y⟩) (by assumption) ?_
      case at4_y => (intro w hSw; (try dsimp only at hSw); go_simp; (first | done | with_reducible rfl))
      try simp only [Act.put, List.setIfInBounds_toArray, List.set_cons_zero, List.set_cons_succ]
      refine wpAnyH_take (i := 4) (oi := Go.Oper.mk (Option.some 120) (Go.Op.move (Go.Operand.tmp 119)) 4 "law.go:39" #[Go.Edge.mk 3 Go.Ground.data, Go.Edge.mk 1 Go.Ground.chain] Option.none) (v := ?at5_v) rfl (by kernel_rfl) (by kernel_rfl) (by kernel_rfl) (fun _ _ _ h => h) (Or.inl ⟨by rfl, ?at5_y⟩) (by assumption) ?_
      case at5_y => (intro w hSw; (try dsimp only at hSw); go_simp; (first | done | with_reducible rfl))
      try simp only [Act.put, List.setIfInBounds_toArray, List.set_cons_zero, List.set_cons_succ]
      refine wpAnyH_take (i := 5) (oi := Go.Oper.mk (Option.some 121) (Go.Op.load 24 (Go.Operand.tmp 7)) 24 "law.go:39" #[Go.Edge.mk 4 Go.Ground.guard] (Option.some (4, Bool.true))) (v := ?at6_v) rfl (by kernel_rfl) (by kernel_rfl) (by kernel_rfl) (fun _ _ _ h => h) (Or.inl ⟨by rfl, ?at6_y⟩) (by assumption) ?_
      case at6_y => (intro w hSw; (try dsimp only at hSw); go_simp; (first | done | with_reducible rfl))
      try simp only [Act.put, List.setIfInBounds_toArray, List.set_cons_zero, List.set_cons_succ]
      refine wpAnyH_take (i := 7) (oi := Go.Oper.mk (Option.some 123) (Go.Op.move (Go.Operand.tmp 17)) 4 "law.go:39" #[Go.Edge.mk 4 Go.Ground.guard] (Option.some (4, Bool.true))) (v := ?at7_v) rfl (by kernel_rfl) (by kernel_rfl) (by kernel_rfl) (fun _ _ _ h => h) (Or.inl ⟨by rfl, ?at7_y⟩) (by assumption) ?_
      case at7_y => (intro w hSw; (try dsimp only at hSw); go_simp; (first | done | with_reducible rfl))
      try simp only [Act.put, List.setIfInBounds_toArray, List.set_cons_zero, List.set_cons_succ]
      refine wpAnyH_ready (rs := [6]) (by kernel_rfl) (by simp) ?_
      refine AllReadyH.cons (i := 6) (o := Go.Oper.mk (Option.some 122) (Go.Op.call (Go.Call.mk (Go.Callee.value (Go.Operand.func 20)) #[Go.Operand.tmp 121] #[24])) 4 "law.go:39" #[Go.Edge.mk 5 Go.Ground.data, Go.Edge.mk 4 Go.Ground.chain, Go.Edge.mk 4 Go.Ground.guard] (Option.some (4, Bool.true))) rfl (fun K hK => ?_) AllReadyH.nil
      go_simp
      (refine (HV.out _).mono ?_; rintro e wn1 ⟨rfl, hb⟩; have HD1 : Box _ := ⟨bel_calls (bel_drew (Below.refl _ _)) hb⟩; clear hb)
      go_wp2_with fail
      refine hK.out _ _ ?at8_k6 (fun hHeld => ?_)
      case at8_k6 => first | (exact KK.out _ HD1.out) | (dsimp only; exact KK.out _ HD1.out)
      clear hK K
      try simp only [Act.put, List.setIfInBounds_toArray, List.set_cons_zero, List.set_cons_succ]
      refine wpAnyH_take (i := 8) (oi := Go.Oper.mk (Option.some 124) (Go.Op.binOp Go.BinOp.eql 4 (Go.Operand.tmp 122) (Go.Operand.tmp 123) 4) 4 "law.go:39" #[Go.Edge.mk 6 Go.Ground.data, Go.Edge.mk 7 Go.Ground.data, Go.Edge.mk 4 Go.Ground.guard] (Option.some (4, Bool.true))) (v := ?at9_v) rfl (by kernel_rfl) (by kernel_rfl) (by kernel_rfl) (fun _ _ _ h => h) (Or.inl ⟨by rfl, ?at9_y⟩) (by assumption) ?_
      case at9_y => (intro w hSw; (try dsimp only at hSw); go_simp; (first | done | with_reducible rfl))
      try simp only [Act.put, List.setIfInBounds_toArray, List.set_cons_zero, List.set_cons_succ]
      refine wpAnyH_take (i := 9) (oi := Go.Oper.mk (Option.some 125) (Go.Op.pick (Go.Operand.tmp 120) (Go.Operand.tmp 124) (Go.Operand.const (Go.Value.bool Bool.false))) 4 "law.go:39" #[Go.Edge.mk 4 Go.Ground.data, Go.Edge.mk 8 Go.Ground.data] Option.none) (v := ?at10_v) rfl (by kernel_rfl) (by kernel_rfl) (by kernel_rfl) (fun _ _ _ h => h) (Or.inl ⟨by rfl, ?at10_y⟩) (by assumption) ?_
      case at10_y => (intro w hSw; (try dsimp only at hSw); go_simp; (first | done | with_reducible rfl))
      try simp only [Act.put, List.setIfInBounds_toArray, List.set_cons_zero, List.set_cons_succ]
      refine wpAnyH_take (i := 10) (oi := Go.Oper.mk (Option.some 126) (Go.Op.move (Go.Operand.tmp 125)) 4 "law.go:39" #[Go.Edge.mk 9 Go.Ground.data, Go.Edge.mk 6 Go.Ground.chain] Option.none) (v := ?at11_v) rfl (by kernel_rfl) (by kernel_rfl) (by kernel_rfl) (fun _ _ _ h => h) (Or.inl ⟨by rfl, ?at11_y⟩) (by assumption) ?_
      case at11_y => (intro w hSw; (try dsimp only at hSw); go_simp; (first | done | with_reducible rfl))
      try simp only [Act.put, List.setIfInBounds_toArray, List.set_cons_zero, List.set_cons_succ]
      refine wpAnyH_take (i := 11) (oi := Go.Oper.mk (Option.some 127) (Go.Op.load 24 (Go.Operand.tmp 18)) 24 "law.go:39" #[Go.Edge.mk 10 Go.Ground.guard] (Option.some (10, Bool.true))) (v := ?at12_v) rfl (by kernel_rfl) (by kernel_rfl) (by kernel_rfl) (fun _ _ _ h => h) (Or.inl ⟨by rfl, ?at12_y⟩) (by assumption) ?_
      case at12_y => (intro w hSw; (try dsimp only at hSw); go_simp; (first | done | with_reducible rfl))
      try simp only [Act.put, List.setIfInBounds_toArray, List.set_cons_zero, List.set_cons_succ]
      refine wpAnyH_take (i := 12) (oi := Go.Oper.mk (Option.some 128) (Go.Op.load 24 (Go.Operand.tmp 20)) 24 "law.go:39" #[Go.Edge.mk 10 Go.Ground.guard] (Option.some (10, Bool.true))) (v := ?at13_v) rfl (by kernel_rfl) (by kernel_rfl) (by kernel_rfl) (fun _ _ _ h => h) (Or.inl ⟨by rfl, ?at13_y⟩) (by assumption) ?_
      case at13_y => (intro w hSw; (try dsimp only at hSw); go_simp; (first | done | with_reducible rfl))
      try simp only [Act.put, List.setIfInBounds_toArray, List.set_cons_zero, List.set_cons_succ]
      refine wpAnyH_take (i := 13) (oi := Go.Oper.mk (Option.some 129) (Go.Op.binOp Go.BinOp.eql 24 (Go.Operand.tmp 127) (Go.Operand.tmp 128) 24) 4 "law.go:39" #[Go.Edge.mk 11 Go.Ground.data, Go.Edge.mk 12 Go.Ground.data, Go.Edge.mk 10 Go.Ground.guard] (Option.some (10, Bool.true))) (v := ?at14_v) rfl (by kernel_rfl) (by kernel_rfl) (by kernel_rfl) (fun _ _ _ h => h) (Or.inl ⟨by rfl, ?at14_y⟩) (by assumption) ?_
      case at14_y => (intro w hSw; (try dsimp only at hSw); go_simp; (first | done | with_reducible rfl))
      try simp only [Act.put, List.setIfInBounds_toArray, List.set_cons_zero, List.set_cons_succ]
      refine wpAnyH_take (i := 14) (oi := Go.Oper.mk (Option.some 130) (Go.Op.pick (Go.Operand.tmp 126) (Go.Operand.tmp 129) (Go.Operand.const (Go.Value.bool Bool.false))) 4 "law.go:39" #[Go.Edge.mk 10 Go.Ground.data, Go.Edge.mk 13 Go.Ground.data] Option.none) (v := ?at15_v) rfl (by kernel_rfl) (by kernel_rfl) (by kernel_rfl) (fun _ _ _ h => h) (Or.inl ⟨by rfl, ?at15_y⟩) (by assumption) ?_
      case at15_y => (intro w hSw; (try dsimp only at hSw); go_simp; (first | done | with_reducible rfl))
      try simp only [Act.put, List.setIfInBounds_toArray, List.set_cons_zero, List.set_cons_succ]
      refine wpAnyH_take (i := 15) (oi := Go.Oper.mk (Option.some 131) (Go.Op.move (Go.Operand.tmp 130)) 4 "law.go:39" #[Go.Edge.mk 14 Go.Ground.data, Go.Edge.mk 10 Go.Ground.chain] Option.none) (v := ?at16_v) rfl (by kernel_rfl) (by kernel_rfl) (by kernel_rfl) (fun _ _ _ h => h) (Or.inl ⟨by rfl, ?at16_y⟩) (by assumption) ?_
      case at16_y => (intro w hSw; (try dsimp only at hSw); go_simp; (first | done | with_reducible rfl))
      try simp only [Act.put, List.setIfInBounds_toArray, List.set_cons_zero, List.set_cons_succ]
      refine wpAnyH_take (i := 16) (oi := Go.Oper.mk (Option.some 132) (Go.Op.move (Go.Operand.tmp 19)) 25 "law.go:39" #[Go.Edge.mk 15 Go.Ground.guard] (Option.some (15, Bool.true))) (v := ?at17_v) rfl (by kernel_rfl) (by kernel_rfl) (by kernel_rfl) (fun _ _ _ h => h) (Or.inl ⟨by rfl, ?at17_y⟩) (by assumption) ?_
      case at17_y => (intro w hSw; (try dsimp only at hSw); go_simp; (first | done | with_reducible rfl))
      try simp only [Act.put, List.setIfInBounds_toArray, List.set_cons_zero, List.set_cons_succ]
      refine wpAnyH_take (i := 17) (oi := Go.Oper.mk (Option.some 133) (Go.Op.move (Go.Operand.tmp 21)) 25 "law.go:39" #[Go.Edge.mk 15 Go.Ground.guard] (Option.some (15, Bool.true))) (v := ?at18_v) rfl (by kernel_rfl) (by kernel_rfl) (by kernel_rfl) (fun _ _ _ h => h) (Or.inl ⟨by rfl, ?at18_y⟩) (by assumption) ?_
      case at18_y => (intro w hSw; (try dsimp only at hSw); go_simp; (first | done | with_reducible rfl))
      try simp only [Act.put, List.setIfInBounds_toArray, List.set_cons_zero, List.set_cons_succ]
      refine wpAnyH_take (i := 18) (oi := Go.Oper.mk (Option.some 134) (Go.Op.binOp Go.BinOp.eql 25 (Go.Operand.tmp 132) (Go.Operand.tmp 133) 25) 4 "law.go:39" #[Go.Edge.mk 16 Go.Ground.data, Go.Edge.mk 17 Go.Ground.data, Go.Edge.mk 15 Go.Ground.guard] (Option.some (15, Bool.true))) (v := ?at19_v) rfl (by kernel_rfl) (by kernel_rfl) (by kernel_rfl) (fun _ _ _ h => h) (Or.inl ⟨by rfl, ?at19_y⟩) (by assumption) ?_
      case at19_y => (intro w hSw; (try dsimp only at hSw); go_simp; (first | done | with_reducible rfl))
      try simp only [Act.put, List.setIfInBounds_toArray, List.set_cons_zero, List.set_cons_succ]
      refine wpAnyH_take (i := 19) (oi := Go.Oper.mk (Option.some 135) (Go.Op.pick (Go.Operand.tmp 131) (Go.Operand.tmp 134) (Go.Operand.const (Go.Value.bool Bool.false))) 4 "law.go:39" #[Go.Edge.mk 15 Go.Ground.data, Go.Edge.mk 18 Go.Ground.data] Option.none) (v := ?at20_v) rfl (by kernel_rfl) (by kernel_rfl) (by kernel_rfl) (fun _ _ _ h => h) (Or.inl ⟨by rfl, ?at20_y⟩) (by assumption) ?_
      case at20_y => (intro w hSw; (try dsimp only at hSw); go_simp; (first | done | with_reducible rfl))
      try simp only [Act.put, List.setIfInBounds_toArray, List.set_cons_zero, List.set_cons_succ]
      refine wpAnyH_take (i := 20) (oi := Go.Oper.mk (Option.some 136) (Go.Op.move (Go.Operand.tmp 135)) 4 "law.go:39" #[Go.Edge.mk 19 Go.Ground.data, Go.Edge.mk 15 Go.Ground.chain] Option.none) (v := ?at21_v) rfl (by kernel_rfl) (by kernel_rfl) (by kernel_rfl) (fun _ _ _ h => h) (Or.inl ⟨by rfl, ?at21_y⟩) (by assumption) ?_
      case at21_y => (intro w hSw; (try dsimp only at hSw); go_simp; (first | done | with_reducible rfl))
      try simp only [Act.put, List.setIfInBounds_toArray, List.set_cons_zero, List.set_cons_succ]
      refine wpAnyH_take (i := 21) (oi := Go.Oper.mk (Option.some 137) (Go.Op.load 24 (Go.Operand.tmp 7)) 24 "law.go:39" #[Go.Edge.mk 20 Go.Ground.guard] (Option.some (20, Bool.true))) (v := ?at22_v) rfl (by kernel_rfl) (by kernel_rfl) (by kernel_rfl) (fun _ _ _ h => h) (Or.inl ⟨by rfl, ?at22_y⟩) (by assumption) ?_
      case at22_y => (intro w hSw; (try dsimp only at hSw); go_simp; (first | done | with_reducible rfl))
      try simp only [Act.put, List.setIfInBounds_toArray, List.set_cons_zero, List.set_cons_succ]
      refine wpAnyH_take (i := 22) (oi := Go.Oper.mk (Option.some 138) (Go.Op.load 24 (Go.Operand.tmp 8)) 24 "law.go:39" #[Go.Edge.mk 20 Go.Ground.guard] (Option.some (20, Bool.true))) (v := ?at23_v) rfl (by kernel_rfl) (by kernel_rfl) (by kernel_rfl) (fun _ _ _ h => h) (Or.inl ⟨by rfl, ?at23_y⟩) (by assumption) ?_
      case at23_y => (intro w hSw; (try dsimp only at hSw); go_simp; (first | done | with_reducible rfl))
      try simp only [Act.put, List.setIfInBounds_toArray, List.set_cons_zero, List.set_cons_succ]
      refine wpAnyH_take (i := 24) (oi := Go.Oper.mk (Option.some 140) (Go.Op.load 24 (Go.Operand.tmp 7)) 24 "law.go:39" #[Go.Edge.mk 20 Go.Ground.guard] (Option.some (20, Bool.true))) (v := ?at24_v) rfl (by kernel_rfl) (by kernel_rfl) (by kernel_rfl) (fun _ _ _ h => h) (Or.inl ⟨by rfl, ?at24_y⟩) (by assumption) ?_
      case at24_y => (intro w hSw; (try dsimp only at hSw); go_simp; (first | done | with_reducible rfl))
      try simp only [Act.put, List.setIfInBounds_toArray, List.set_cons_zero, List.set_cons_succ]
      refine wpAnyH_take (i := 25) (oi := Go.Oper.mk (Option.some 141) (Go.Op.load 24 (Go.Operand.tmp 8)) 24 "law.go:39" #[Go.Edge.mk 20 Go.Ground.guard] (Option.some (20, Bool.true))) (v := ?at25_v) rfl (by kernel_rfl) (by kernel_rfl) (by kernel_rfl) (fun _ _ _ h => h) (Or.inl ⟨by rfl, ?at25_y⟩) (by assumption) ?_
      case at25_y => (intro w hSw; (try dsimp only at hSw); go_simp; (first | done | with_reducible rfl))
      try simp only [Act.put, List.setIfInBounds_toArray, List.set_cons_zero, List.set_cons_succ]
      refine wpAnyH_ready (rs := [23]) (by kernel_rfl) (by simp) ?_
      refine AllReadyH.cons (i := 23) (o := Go.Oper.mk (Option.some 139) (Go.Op.call (Go.Call.mk (Go.Callee.value (Go.Operand.func 11)) #[Go.Operand.tmp 137, Go.Operand.tmp 138] #[24, 24])) 3 "law.go:39" #[Go.Edge.mk 21 Go.Ground.data, Go.Edge.mk 22 Go.Ground.data, Go.Edge.mk 20 Go.Ground.chain, Go.Edge.mk 20 Go.Ground.guard] (Option.some (20, Bool.true))) rfl (fun K hK => ?_) AllReadyH.nil
      go_simp
      (refine (HC.out _).mono ?_; rintro e wn2 ⟨rfl, hb⟩; have HD2 : Box _ := ⟨bel_calls HD1.out hb⟩; clear hb)
      go_wp2_with fail
      refine hK.out _ _ ?at26_k23 (fun hHeld => ?_)
      case at26_k23 => first | (exact KK.out _ HD2.out) | (dsimp only; exact KK.out _ HD2.out)
      clear hK K
      try simp only [Act.put, List.setIfInBounds_toArray, List.set_cons_zero, List.set_cons_succ]
      refine wpAnyH_ready (rs := [26]) (by kernel_rfl) (by simp) ?_
      refine AllReadyH.cons (i := 26) (o := Go.Oper.mk (Option.some 142) (Go.Op.call (Go.Call.mk (Go.Callee.value (Go.Operand.func 21)) #[Go.Operand.tmp 140, Go.Operand.tmp 141] #[24, 24])) 3 "law.go:39" #[Go.Edge.mk 24 Go.Ground.data, Go.Edge.mk 25 Go.Ground.data, Go.Edge.mk 23 Go.Ground.chain, Go.Edge.mk 20 Go.Ground.guard] (Option.some (20, Bool.true))) rfl (fun K hK => ?_) AllReadyH.nil
      go_simp
      (refine (HCr.out _).mono ?_; rintro e wn3 ⟨rfl, hb⟩; have HD3 : Box _ := ⟨bel_calls HD2.out hb⟩; clear hb)
      go_wp2_with fail
      refine hK.out _ _ ?at27_k26 (fun hHeld => ?_)
      case at27_k26 => first | (exact KK.out _ HD3.out) | (dsimp only; exact KK.out _ HD3.out)
      clear hK K
      try simp only [Act.put, List.setIfInBounds_toArray, List.set_cons_zero, List.set_cons_succ]
      refine wpAnyH_take (i := 27) (oi := Go.Oper.mk (Option.some 143) (Go.Op.binOp Go.BinOp.eql 3 (Go.Operand.tmp 139) (Go.Operand.tmp 142) 3) 4 "law.go:39" #[Go.Edge.mk 23 Go.Ground.data, Go.Edge.mk 26 Go.Ground.data, Go.Edge.mk 20 Go.Ground.guard] (Option.some (20, Bool.true))) (v := ?at28_v) rfl (by kernel_rfl) (by kernel_rfl) (by kernel_rfl) (fun _ _ _ h => h) (Or.inl ⟨by rfl, ?at28_y⟩) (by assumption) ?_
      case at28_y => (intro w hSw; (try dsimp only at hSw); go_simp; (first | done | with_reducible rfl))
      try simp only [Act.put, List.setIfInBounds_toArray, List.set_cons_zero, List.set_cons_succ]
      refine wpAnyH_take (i := 28) (oi := Go.Oper.mk (Option.some 144) (Go.Op.pick (Go.Operand.tmp 136) (Go.Operand.tmp 143) (Go.Operand.const (Go.Value.bool Bool.false))) 4 "law.go:39" #[Go.Edge.mk 20 Go.Ground.data, Go.Edge.mk 27 Go.Ground.data] Option.none) (v := ?at29_v) rfl (by kernel_rfl) (by kernel_rfl) (by kernel_rfl) (fun _ _ _ h => h) (Or.inl ⟨by rfl, ?at29_y⟩) (by assumption) ?_
      case at29_y => (intro w hSw; (try dsimp only at hSw); go_simp; (first | done | with_reducible rfl))
      try simp only [Act.put, List.setIfInBounds_toArray, List.set_cons_zero, List.set_cons_succ]
      refine wpAnyH_take (i := 29) (oi := Go.Oper.mk (Option.some 145) (Go.Op.move (Go.Operand.tmp 144)) 4 "law.go:39" #[Go.Edge.mk 28 Go.Ground.data, Go.Edge.mk 26 Go.Ground.chain] Option.none) (v := ?at30_v) rfl (by kernel_rfl) (by kernel_rfl) (by kernel_rfl) (fun _ _ _ h => h) (Or.inl ⟨by rfl, ?at30_y⟩) (by assumption) ?_
      case at30_y => (intro w hSw; (try dsimp only at hSw); go_simp; (first | done | with_reducible rfl))
      try simp only [Act.put, List.setIfInBounds_toArray, List.set_cons_zero, List.set_cons_succ]
      refine wpAnyH_take (i := 30) (oi := Go.Oper.mk (Option.some 146) (Go.Op.load 24 (Go.Operand.tmp 7)) 24 "law.go:39" #[Go.Edge.mk 29 Go.Ground.guard] (Option.some (29, Bool.true))) (v := ?at31_v) rfl (by kernel_rfl) (by kernel_rfl) (by kernel_rfl) (fun _ _ _ h => h) (Or.inl ⟨by rfl, ?at31_y⟩) (by assumption) ?_
      case at31_y => (intro w hSw; (try dsimp only at hSw); go_simp; (first | done | with_reducible rfl))
      try simp only [Act.put, List.setIfInBounds_toArray, List.set_cons_zero, List.set_cons_succ]
      refine wpAnyH_take (i := 31) (oi := Go.Oper.mk (Option.some 147) (Go.Op.load 24 (Go.Operand.tmp 7)) 24 "law.go:39" #[Go.Edge.mk 29 Go.Ground.guard] (Option.some (29, Bool.true))) (v := ?at32_v) rfl (by kernel_rfl) (by kernel_rfl) (by kernel_rfl) (fun _ _ _ h => h) (Or.inl ⟨by rfl, ?at32_y⟩) (by assumption) ?_
      case at32_y => (intro w hSw; (try dsimp only at hSw); go_simp; (first | done | with_reducible rfl))
      try simp only [Act.put, List.setIfInBounds_toArray, List.set_cons_zero, List.set_cons_succ]
      refine wpAnyH_ready (rs := [32]) (by kernel_rfl) (by simp) ?_
      refine AllReadyH.cons (i := 32) (o := Go.Oper.mk (Option.some 148) (Go.Op.call (Go.Call.mk (Go.Callee.value (Go.Operand.func 11)) #[Go.Operand.tmp 146, Go.Operand.tmp 147] #[24, 24])) 3 "law.go:39" #[Go.Edge.mk 30 Go.Ground.data, Go.Edge.mk 31 Go.Ground.data, Go.Edge.mk 29 Go.Ground.chain, Go.Edge.mk 29 Go.Ground.guard] (Option.some (29, Bool.true))) rfl (fun K hK => ?_) AllReadyH.nil
      go_simp
      (refine (HC1.out _).mono ?_; rintro e wn4 ⟨rfl, hb⟩; have HD4 : Box _ := ⟨bel_calls HD3.out hb⟩; clear hb)
      go_wp2_with fail
      refine hK.out _ _ ?at33_k32 (fun hHeld => ?_)
      case at33_k32 => first | (exact KK.out _ HD4.out) | (dsimp only; exact KK.out _ HD4.out)
      clear hK K
      try simp only [Act.put, List.setIfInBounds_toArray, List.set_cons_zero, List.set_cons_succ]
      refine wpAnyH_take (i := 33) (oi := Go.Oper.mk (Option.some 149) (Go.Op.binOp Go.BinOp.eql 3 (Go.Operand.tmp 148) (Go.Operand.const (Go.Value.int Go.IntKind.i64 0)) 3) 4 "law.go:39" #[Go.Edge.mk 32 Go.Ground.data, Go.Edge.mk 29 Go.Ground.guard] (Option.some (29, Bool.true))) (v := ?at34_v) rfl (by kernel_rfl) (by kernel_rfl) (by kernel_rfl) (fun _ _ _ h => h) (Or.inl ⟨by rfl, ?at34_y⟩) (by assumption) ?_
      case at34_y => (intro w hSw; (try dsimp only at hSw); go_simp; (first | done | with_reducible rfl))
      try simp only [Act.put, List.setIfInBounds_toArray, List.set_cons_zero, List.set_cons_succ]
      refine wpAnyH_take (i := 34) (oi := Go.Oper.mk (Option.some 150) (Go.Op.pick (Go.Operand.tmp 145) (Go.Operand.tmp 149) (Go.Operand.const (Go.Value.bool Bool.false))) 4 "law.go:39" #[Go.Edge.mk 29 Go.Ground.data, Go.Edge.mk 33 Go.Ground.data] Option.none) (v := ?at35_v) rfl (by kernel_rfl) (by kernel_rfl) (by kernel_rfl) (fun _ _ _ h => h) (Or.inl ⟨by rfl, ?at35_y⟩) (by assumption) ?_
      case at35_y => (intro w hSw; (try dsimp only at hSw); go_simp; (first | done | with_reducible rfl))
      try simp only [Act.put, List.setIfInBounds_toArray, List.set_cons_zero, List.set_cons_succ]
      refine wpAnyH_take (i := 35) (oi := Go.Oper.mk (Option.some 151) (Go.Op.move (Go.Operand.tmp 150)) 4 "law.go:39" #[Go.Edge.mk 34 Go.Ground.data, Go.Edge.mk 32 Go.Ground.chain] Option.none) (v := ?at36_v) rfl (by kernel_rfl) (by kernel_rfl) (by kernel_rfl) (fun _ _ _ h => h) (Or.inl ⟨by rfl, ?at36_y⟩) (by assumption) ?_
      case at36_y => (intro w hSw; (try dsimp only at hSw); go_simp; (first | done | with_reducible rfl))
      try simp only [Act.put, List.setIfInBounds_toArray, List.set_cons_zero, List.set_cons_succ]
      refine wpAnyH_take (i := 36) (oi := Go.Oper.mk (Option.some 152) (Go.Op.load 24 (Go.Operand.tmp 7)) 24 "law.go:39" #[Go.Edge.mk 35 Go.Ground.guard] (Option.some (35, Bool.true))) (v := ?at37_v) rfl (by kernel_rfl) (by kernel_rfl) (by kernel_rfl) (fun _ _ _ h => h) (Or.inl ⟨by rfl, ?at37_y⟩) (by assumption) ?_
      case at37_y => (intro w hSw; (try dsimp only at hSw); go_simp; (first | done | with_reducible rfl))
      try simp only [Act.put, List.setIfInBounds_toArray, List.set_cons_zero, List.set_cons_succ]
      refine wpAnyH_take (i := 38) (oi := Go.Oper.mk (Option.some 154) (Go.Op.load 24 (Go.Operand.tmp 7)) 24 "law.go:39" #[Go.Edge.mk 35 Go.Ground.guard] (Option.some (35, Bool.true))) (v := ?at38_v) rfl (by kernel_rfl) (by kernel_rfl) (by kernel_rfl) (fun _ _ _ h => h) (Or.inl ⟨by rfl, ?at38_y⟩) (by assumption) ?_
      case at38_y => (intro w hSw; (try dsimp only at hSw); go_simp; (first | done | with_reducible rfl))
      try simp only [Act.put, List.setIfInBounds_toArray, List.set_cons_zero, List.set_cons_succ]
      refine wpAnyH_ready (rs := [37]) (by kernel_rfl) (by simp) ?_
      refine AllReadyH.cons (i := 37) (o := Go.Oper.mk (Option.some 153) (Go.Op.call (Go.Call.mk (Go.Callee.value (Go.Operand.func 22)) #[Go.Operand.tmp 152] #[24])) 3 "law.go:39" #[Go.Edge.mk 36 Go.Ground.data, Go.Edge.mk 35 Go.Ground.chain, Go.Edge.mk 35 Go.Ground.guard] (Option.some (35, Bool.true))) rfl (fun K hK => ?_) AllReadyH.nil
      go_simp
      (refine (HH.out _).mono ?_; rintro e wn5 ⟨rfl, hb⟩; have HD5 : Box _ := ⟨bel_calls HD4.out hb⟩; clear hb)
      go_wp2_with fail
      refine hK.out _ _ ?at39_k37 (fun hHeld => ?_)
      case at39_k37 => first | (exact KK.out _ HD5.out) | (dsimp only; exact KK.out _ HD5.out)
      clear hK K
      try simp only [Act.put, List.setIfInBounds_toArray, List.set_cons_zero, List.set_cons_succ]
      refine wpAnyH_ready (rs := [39]) (by kernel_rfl) (by simp) ?_
      refine AllReadyH.cons (i := 39) (o := Go.Oper.mk (Option.some 155) (Go.Op.call (Go.Call.mk (Go.Callee.value (Go.Operand.func 23)) #[Go.Operand.tmp 154] #[24])) 3 "law.go:39" #[Go.Edge.mk 38 Go.Ground.data, Go.Edge.mk 37 Go.Ground.chain, Go.Edge.mk 35 Go.Ground.guard] (Option.some (35, Bool.true))) rfl (fun K hK => ?_) AllReadyH.nil
      go_simp
      (refine (HHr.out _).mono ?_; rintro e wn6 ⟨rfl, hb⟩; have HD6 : Box _ := ⟨bel_calls HD5.out hb⟩; clear hb)
      go_wp2_with fail
      refine hK.out _ _ ?at40_k39 (fun hHeld => ?_)
      case at40_k39 => first | (exact KK.out _ HD6.out) | (dsimp only; exact KK.out _ HD6.out)
      clear hK K
      try simp only [Act.put, List.setIfInBounds_toArray, List.set_cons_zero, List.set_cons_succ]
      refine wpAnyH_take (i := 40) (oi := Go.Oper.mk (Option.some 156) (Go.Op.binOp Go.BinOp.eql 3 (Go.Operand.tmp 153) (Go.Operand.tmp 155) 3) 4 "law.go:39" #[Go.Edge.mk 37 Go.Ground.data, Go.Edge.mk 39 Go.Ground.data, Go.Edge.mk 35 Go.Ground.guard] (Option.some (35, Bool.true))) (v := ?at41_v) rfl (by kernel_rfl) (by kernel_rfl) (by kernel_rfl) (fun _ _ _ h => h) (Or.inl ⟨by rfl, ?at41_y⟩) (by assumption) ?_
      case at41_y => (intro w hSw; (try dsimp only at hSw); go_simp; (first | done | with_reducible rfl))
      try simp only [Act.put, List.setIfInBounds_toArray, List.set_cons_zero, List.set_cons_succ]
      refine wpAnyH_take (i := 41) (oi := Go.Oper.mk (Option.some 157) (Go.Op.pick (Go.Operand.tmp 151) (Go.Operand.tmp 156) (Go.Operand.const (Go.Value.bool Bool.false))) 4 "law.go:39" #[Go.Edge.mk 35 Go.Ground.data, Go.Edge.mk 40 Go.Ground.data] Option.none) (v := ?at42_v) rfl (by kernel_rfl) (by kernel_rfl) (by kernel_rfl) (fun _ _ _ h => h) (Or.inl ⟨by rfl, ?at42_y⟩) (by assumption) ?_
      case at42_y => (intro w hSw; (try dsimp only at hSw); go_simp; (first | done | with_reducible rfl))
      try simp only [Act.put, List.setIfInBounds_toArray, List.set_cons_zero, List.set_cons_succ]
      refine wpAnyH_take (i := 42) (oi := Go.Oper.mk (Option.some 158) (Go.Op.move (Go.Operand.tmp 157)) 4 "law.go:39" #[Go.Edge.mk 41 Go.Ground.data, Go.Edge.mk 39 Go.Ground.chain] Option.none) (v := ?at43_v) rfl (by kernel_rfl) (by kernel_rfl) (by kernel_rfl) (fun _ _ _ h => h) (Or.inl ⟨by rfl, ?at43_y⟩) (by assumption) ?_
      case at43_y => (intro w hSw; (try dsimp only at hSw); go_simp; (first | done | with_reducible rfl))
      try simp only [Act.put, List.setIfInBounds_toArray, List.set_cons_zero, List.set_cons_succ]
      refine wpAnyH_take (i := 43) (oi := Go.Oper.mk (Option.some 159) (Go.Op.load 24 (Go.Operand.tmp 7)) 24 "law.go:39" #[Go.Edge.mk 42 Go.Ground.guard] (Option.some (42, Bool.true))) (v := ?at44_v) rfl (by kernel_rfl) (by kernel_rfl) (by kernel_rfl) (fun _ _ _ h => h) (Or.inl ⟨by rfl, ?at44_y⟩) (by assumption) ?_
      case at44_y => (intro w hSw; (try dsimp only at hSw); go_simp; (first | done | with_reducible rfl))
      try simp only [Act.put, List.setIfInBounds_toArray, List.set_cons_zero, List.set_cons_succ]
      refine wpAnyH_take (i := 45) (oi := Go.Oper.mk (Option.some 161) (Go.Op.fieldAddr 24 (Go.Operand.tmp 7) 1) 0 "law.go:39" #[Go.Edge.mk 42 Go.Ground.guard] (Option.some (42, Bool.true))) (v := ?at45_v) rfl (by kernel_rfl) (by kernel_rfl) (by kernel_rfl) (fun _ _ _ h => h) (Or.inl ⟨by rfl, ?at45_y⟩) (by assumption) ?_
      case at45_y => (intro w hSw; (try dsimp only at hSw); go_simp; (first | done | with_reducible rfl))
      try simp only [Act.put, List.setIfInBounds_toArray, List.set_cons_zero, List.set_cons_succ]
      refine wpAnyH_take (i := 46) (oi := Go.Oper.mk (Option.some 162) (Go.Op.load 9 (Go.Operand.tmp 161)) 9 "law.go:39" #[Go.Edge.mk 45 Go.Ground.data, Go.Edge.mk 42 Go.Ground.guard] (Option.some (42, Bool.true))) (v := ?at46_v) rfl (by kernel_rfl) (by kernel_rfl) (by kernel_rfl) (fun _ _ _ h => h) (Or.inl ⟨by rfl, ?at46_y⟩) (by assumption) ?_
      case at46_y => (intro w hSw; (try dsimp only at hSw); go_simp; (first | done | with_reducible rfl))
      try simp only [Act.put, List.setIfInBounds_toArray, List.set_cons_zero, List.set_cons_succ]
      refine wpAnyH_ready (rs := [44]) (by kernel_rfl) (by simp) ?_
      refine AllReadyH.cons (i := 44) (o := Go.Oper.mk (Option.some 160) (Go.Op.call (Go.Call.mk (Go.Callee.value (Go.Operand.func 24)) #[Go.Operand.tmp 159] #[24])) 9 "law.go:39" #[Go.Edge.mk 43 Go.Ground.data, Go.Edge.mk 42 Go.Ground.chain, Go.Edge.mk 42 Go.Ground.guard] (Option.some (42, Bool.true))) rfl (fun K hK => ?_) AllReadyH.nil
      go_simp
      (refine (HT.out _).mono ?_; rintro e wn7 ⟨rfl, hb⟩; have HD7 : Box _ := ⟨bel_calls HD6.out hb⟩; clear hb)
      go_wp2_with fail
      refine hK.out _ _ ?at47_k44 (fun hHeld => ?_)
      case at47_k44 => first | (exact KK.out _ HD7.out) | (dsimp only; exact KK.out _ HD7.out)
      clear hK K
      try simp only [Act.put, List.setIfInBounds_toArray, List.set_cons_zero, List.set_cons_succ]
      refine wpAnyH_ready (rs := [47]) (by kernel_rfl) (by simp) ?_
      refine AllReadyH.cons (i := 47) (o := Go.Oper.mk (Option.some 163) (Go.Op.call (Go.Call.mk (Go.Callee.value (Go.Operand.func 25)) #[Go.Operand.tmp 162] #[9])) 9 "law.go:39" #[Go.Edge.mk 46 Go.Ground.data, Go.Edge.mk 44 Go.Ground.chain, Go.Edge.mk 42 Go.Ground.guard] (Option.some (42, Bool.true))) rfl (fun K hK => ?_) AllReadyH.nil
      go_simp
      (refine (HX.out _).mono ?_; rintro e wn8 ⟨rfl, hb⟩; have HD8 : Box _ := ⟨bel_calls HD7.out hb⟩; clear hb)
      go_wp2_with fail
      refine hK.out _ _ ?at48_k47 (fun hHeld => ?_)
      case at48_k47 => first | (exact KK.out _ HD8.out) | (dsimp only; exact KK.out _ HD8.out)
      clear hK K
      try simp only [Act.put, List.setIfInBounds_toArray, List.set_cons_zero, List.set_cons_succ]
      refine wpAnyH_take (i := 48) (oi := Go.Oper.mk (Option.some 164) (Go.Op.binOp Go.BinOp.eql 9 (Go.Operand.tmp 160) (Go.Operand.tmp 163) 9) 4 "law.go:39" #[Go.Edge.mk 44 Go.Ground.data, Go.Edge.mk 47 Go.Ground.data, Go.Edge.mk 42 Go.Ground.guard] (Option.some (42, Bool.true))) (v := ?at49_v) rfl (by kernel_rfl) (by kernel_rfl) (by kernel_rfl) (fun _ _ _ h => h) (Or.inl ⟨by rfl, ?at49_y⟩) (by assumption) ?_
      case at49_y => (intro w hSw; (try dsimp only at hSw); go_simp; (first | done | with_reducible rfl))
      try simp only [Act.put, List.setIfInBounds_toArray, List.set_cons_zero, List.set_cons_succ]
      refine wpAnyH_take (i := 49) (oi := Go.Oper.mk (Option.some 165) (Go.Op.pick (Go.Operand.tmp 158) (Go.Operand.tmp 164) (Go.Operand.const (Go.Value.bool Bool.false))) 4 "law.go:39" #[Go.Edge.mk 42 Go.Ground.data, Go.Edge.mk 48 Go.Ground.data] Option.none) (v := ?at50_v) rfl (by kernel_rfl) (by kernel_rfl) (by kernel_rfl) (fun _ _ _ h => h) (Or.inl ⟨by rfl, ?at50_y⟩) (by assumption) ?_
      case at50_y => (intro w hSw; (try dsimp only at hSw); go_simp; (first | done | with_reducible rfl))
      try simp only [Act.put, List.setIfInBounds_toArray, List.set_cons_zero, List.set_cons_succ]
      refine wpAnyH_take (i := 50) (oi := Go.Oper.mk (Option.some 166) (Go.Op.move (Go.Operand.tmp 165)) 4 "law.go:39" #[Go.Edge.mk 49 Go.Ground.data, Go.Edge.mk 47 Go.Ground.chain] Option.none) (v := ?at51_v) rfl (by kernel_rfl) (by kernel_rfl) (by kernel_rfl) (fun _ _ _ h => h) (Or.inl ⟨by rfl, ?at51_y⟩) (by assumption) ?_
      case at51_y => (intro w hSw; (try dsimp only at hSw); go_simp; (first | done | with_reducible rfl))
      try simp only [Act.put, List.setIfInBounds_toArray, List.set_cons_zero, List.set_cons_succ]
      refine wpAnyH_take (i := 51) (oi := Go.Oper.mk (Option.some 167) (Go.Op.move (Go.Operand.tmp 11)) 36 "law.go:39" #[Go.Edge.mk 50 Go.Ground.guard] (Option.some (50, Bool.true))) (v := ?at52_v) rfl (by kernel_rfl) (by kernel_rfl) (by kernel_rfl) (fun _ _ _ h => h) (Or.inl ⟨by rfl, ?at52_y⟩) (by assumption) ?_
      case at52_y => (intro w hSw; (try dsimp only at hSw); go_simp; (first | done | with_reducible rfl))
      try simp only [Act.put, List.setIfInBounds_toArray, List.set_cons_zero, List.set_cons_succ]
      refine wpAnyH_take (i := 52) (oi := Go.Oper.mk (Option.some 168) (Go.Op.move (Go.Operand.tmp 1)) 36 "law.go:39" #[Go.Edge.mk 50 Go.Ground.guard] (Option.some (50, Bool.true))) (v := ?at53_v) rfl (by kernel_rfl) (by kernel_rfl) (by kernel_rfl) (fun _ _ _ h => h) (Or.inl ⟨by rfl, ?at53_y⟩) (by assumption) ?_
      case at53_y => (intro w hSw; (try dsimp only at hSw); go_simp; (first | done | with_reducible rfl))
      try simp only [Act.put, List.setIfInBounds_toArray, List.set_cons_zero, List.set_cons_succ]
      refine wpAnyH_ready (rs := [53]) (by kernel_rfl) (by simp) ?_
      refine AllReadyH.cons (i := 53) (o := Go.Oper.mk (Option.some 169) (Go.Op.call (Go.Call.mk (Go.Callee.value (Go.Operand.func 26)) #[Go.Operand.tmp 167, Go.Operand.tmp 168] #[36, 36])) 4 "law.go:39" #[Go.Edge.mk 51 Go.Ground.data, Go.Edge.mk 52 Go.Ground.data, Go.Edge.mk 50 Go.Ground.chain, Go.Edge.mk 50 Go.Ground.guard] (Option.some (50, Bool.true))) rfl (fun K hK => ?_) AllReadyH.nil
      go_simp
      (refine (HSt.out _ gm cap HCap.out (HM10.out.below HD8.out) (HRl.out.below (bel_calls HB10.out HD8.out))).mono ?_; rintro e wn9 ⟨rfl, hb⟩; have HD9 : Box _ := ⟨bel_calls HD8.out hb⟩; clear hb)
      go_wp2_with fail
      refine hK.out _ _ ?at54_k53 (fun hHeld => ?_)
      case at54_k53 => first | (exact KK.out _ HD9.out) | (dsimp only; exact KK.out _ HD9.out)
      clear hK K
      try simp only [Act.put, List.setIfInBounds_toArray, List.set_cons_zero, List.set_cons_succ]
      refine wpAnyH_take (i := 54) (oi := Go.Oper.mk (Option.some 170) (Go.Op.pick (Go.Operand.tmp 166) (Go.Operand.tmp 169) (Go.Operand.const (Go.Value.bool Bool.false))) 4 "law.go:39" #[Go.Edge.mk 50 Go.Ground.data, Go.Edge.mk 53 Go.Ground.data] Option.none) (v := ?at55_v) rfl (by kernel_rfl) (by kernel_rfl) (by kernel_rfl) (fun _ _ _ h => h) (Or.inl ⟨by rfl, ?at55_y⟩) (by assumption) ?_
      case at55_y => (intro w hSw; (try dsimp only at hSw); go_simp; (first | done | with_reducible rfl))
      try simp only [Act.put, List.setIfInBounds_toArray, List.set_cons_zero, List.set_cons_succ]
      refine wpAnyH_take (i := 55) (oi := Go.Oper.mk (Option.some 10) (Go.Op.assign (Go.Operand.tmp 170)) 4 "law.go:39" #[Go.Edge.mk 54 Go.Ground.data, Go.Edge.mk 53 Go.Ground.chain, Go.Edge.mk 0 Go.Ground.phase, Go.Edge.mk 1 Go.Ground.phase, Go.Edge.mk 2 Go.Ground.phase, Go.Edge.mk 3 Go.Ground.phase, Go.Edge.mk 4 Go.Ground.phase, Go.Edge.mk 5 Go.Ground.phase, Go.Edge.mk 6 Go.Ground.phase, Go.Edge.mk 7 Go.Ground.phase, Go.Edge.mk 8 Go.Ground.phase, Go.Edge.mk 9 Go.Ground.phase, Go.Edge.mk 10 Go.Ground.phase, Go.Edge.mk 11 Go.Ground.phase, Go.Edge.mk 12 Go.Ground.phase, Go.Edge.mk 13 Go.Ground.phase, Go.Edge.mk 14 Go.Ground.phase, Go.Edge.mk 15 Go.Ground.phase, Go.Edge.mk 16 Go.Ground.phase, Go.Edge.mk 17 Go.Ground.phase, Go.Edge.mk 18 Go.Ground.phase, Go.Edge.mk 19 Go.Ground.phase, Go.Edge.mk 20 Go.Ground.phase, Go.Edge.mk 21 Go.Ground.phase, Go.Edge.mk 22 Go.Ground.phase, Go.Edge.mk 23 Go.Ground.phase, Go.Edge.mk 24 Go.Ground.phase, Go.Edge.mk 25 Go.Ground.phase, Go.Edge.mk 26 Go.Ground.phase, Go.Edge.mk 27 Go.Ground.phase, Go.Edge.mk 28 Go.Ground.phase, Go.Edge.mk 29 Go.Ground.phase, Go.Edge.mk 30 Go.Ground.phase, Go.Edge.mk 31 Go.Ground.phase, Go.Edge.mk 32 Go.Ground.phase, Go.Edge.mk 33 Go.Ground.phase, Go.Edge.mk 34 Go.Ground.phase, Go.Edge.mk 35 Go.Ground.phase, Go.Edge.mk 36 Go.Ground.phase, Go.Edge.mk 37 Go.Ground.phase, Go.Edge.mk 38 Go.Ground.phase, Go.Edge.mk 39 Go.Ground.phase, Go.Edge.mk 40 Go.Ground.phase, Go.Edge.mk 41 Go.Ground.phase, Go.Edge.mk 42 Go.Ground.phase, Go.Edge.mk 43 Go.Ground.phase, Go.Edge.mk 44 Go.Ground.phase, Go.Edge.mk 45 Go.Ground.phase, Go.Edge.mk 46 Go.Ground.phase, Go.Edge.mk 47 Go.Ground.phase, Go.Edge.mk 48 Go.Ground.phase, Go.Edge.mk 49 Go.Ground.phase, Go.Edge.mk 50 Go.Ground.phase, Go.Edge.mk 51 Go.Ground.phase, Go.Edge.mk 52 Go.Ground.phase, Go.Edge.mk 53 Go.Ground.phase, Go.Edge.mk 54 Go.Ground.phase] Option.none) (v := ?at56_v) rfl (by kernel_rfl) (by kernel_rfl) (by kernel_rfl) (fun _ _ _ h => h) (Or.inl ⟨by rfl, ?at56_y⟩) (by assumption) ?_
      case at56_y => (intro w hSw; (try dsimp only at hSw); go_simp; (first | done | with_reducible rfl))
      try simp only [Act.put, List.setIfInBounds_toArray, List.set_cons_zero, List.set_cons_succ]
      refine wpAnyH_done (by kernel_rfl) ?_ _
      go_wp2_with fail
      go_ret
      exact ⟨rfl, bel_calls HB10.out HD9.out⟩
  · rw [hof] at HO3
    clear hof HZ
    go_wp2_with fail
    refine HO3.out.mono ?_
    rintro e w4 ⟨rfl, hb4⟩
    have HX4 : Box _ := ⟨PrintAt.new w4 k S⟩
    have hb5 := bel_alloc hb4 (.cells #[.int .i64 k, .string S] 24)
    have HB5 : Box _ := ⟨bel_calls HB3.out hb5⟩
    have HE1 : Box _ := ⟨HV1.out.below hb5⟩
    have HE2 : Box _ := ⟨HV2.out.below hb5⟩
    have HM5 : Box _ := ⟨HM3.out.below hb5⟩
    clear hb4 hb5 HV1 HV2
    obtain ⟨gx, hgx⟩ : ∃ gx, w4.heap.size = gx := ⟨_, rfl⟩
    rw [hgx] at HX4
    obtain ⟨w5, hw5⟩ : ∃ w5, w4.alloc (.cells #[.int .i64 k, .string S] 24) = w5 := ⟨_, rfl⟩
    rw [hw5] at HX4 HB5 HE1 HE2 HM5
    have HPr : Box _ := ⟨hpr⟩
    clear hpr
    have e9 : (S.toList == S.toList) = true := by simp
    go_wp2_with fail
    refine (HNr.out _).mono ?_
    rintro e w6 ⟨rfl, rfl⟩
    have KX : Box (∀ W, Below w5.heap.size w5 W → W.cell? ⟨gx, 0, none⟩ = some (.int .i64 k) ∧ W.cell? ⟨gx, 1, none⟩ = some (.string S)) := ⟨fun W h => ⟨(HX4.out.below h).c0, (HX4.out.below h).c1⟩⟩
    go_wp2_with fail
    refine wp_region_held_drew (S := (fun w' => w'.cell? ⟨gx, 0, none⟩ = some (.int .i64 k) ∧ w'.cell? ⟨gx, 1, none⟩ = some (.string S))) (by kernel_rfl) ?rS (fun hHeld => ?_)
    case rS => first | (exact KX.out _ (bel_drew (Below.refl _ _))) | (dsimp only; exact KX.out _ (bel_drew (Below.refl _ _)))
    refine wpAnyH_take (i := 0) (oi := Go.Oper.mk (Option.some 66) (Go.Op.move (Go.Operand.tmp 13)) 25 "law.go:29" #[] Option.none) (v := ?r1_v) rfl (by kernel_rfl) (by kernel_rfl) (by kernel_rfl) (fun _ _ _ h => h) (Or.inl ⟨by rfl, ?r1_y⟩) (by assumption) ?_
    case r1_y => (intro w hSw; (try dsimp only at hSw); go_simp; (first | done | with_reducible rfl))
    try simp only [Act.put, List.setIfInBounds_toArray, List.set_cons_zero, List.set_cons_succ]
    refine wpAnyH_take (i := 1) (oi := Go.Oper.mk (Option.some 67) (Go.Op.binOp Go.BinOp.neq 25 (Go.Operand.tmp 66) (Go.Operand.const (Go.Value.int Go.IntKind.i64 0)) 25) 4 "law.go:29" #[Go.Edge.mk 0 Go.Ground.data] Option.none) (v := ?r2_v) rfl (by kernel_rfl) (by kernel_rfl) (by kernel_rfl) (fun _ _ _ h => h) (Or.inl ⟨by rfl, ?r2_y⟩) (by assumption) ?_
    case r2_y => (intro w hSw; (try dsimp only at hSw); go_simp; (first | done | with_reducible rfl))
    try simp only [Act.put, List.setIfInBounds_toArray, List.set_cons_zero, List.set_cons_succ]
    refine wpAnyH_take (i := 2) (oi := Go.Oper.mk (Option.some 68) (Go.Op.move (Go.Operand.tmp 67)) 4 "law.go:29" #[Go.Edge.mk 1 Go.Ground.data] Option.none) (v := ?r3_v) rfl (by kernel_rfl) (by kernel_rfl) (by kernel_rfl) (fun _ _ _ h => h) (Or.inl ⟨by rfl, ?r3_y⟩) (by assumption) ?_
    case r3_y => (intro w hSw; (try dsimp only at hSw); go_simp; (first | done | with_reducible rfl))
    try simp only [Act.put, List.setIfInBounds_toArray, List.set_cons_zero, List.set_cons_succ]
    refine wpAnyH_take (i := 3) (oi := Go.Oper.mk (Option.some 69) (Go.Op.load 24 (Go.Operand.tmp 12)) 24 "law.go:29" #[Go.Edge.mk 2 Go.Ground.guard] (Option.some (2, Bool.false))) (v := ?r4_v) rfl (by kernel_rfl) (by kernel_rfl) (by kernel_rfl) (fun _ _ _ h => h) (Or.inl ⟨by rfl, ?r4_y⟩) (by assumption) ?_
    case r4_y => (intro w hSw; (try dsimp only at hSw); go_simp; (first | done | with_reducible rfl))
    try simp only [Act.put, List.setIfInBounds_toArray, List.set_cons_zero, List.set_cons_succ]
    refine wpAnyH_take (i := 4) (oi := Go.Oper.mk (Option.some 70) (Go.Op.move (Go.Operand.tmp 0)) 3 "law.go:29" #[Go.Edge.mk 2 Go.Ground.guard] (Option.some (2, Bool.false))) (v := ?r5_v) rfl (by kernel_rfl) (by kernel_rfl) (by kernel_rfl) (fun _ _ _ h => h) (Or.inl ⟨by rfl, ?r5_y⟩) (by assumption) ?_
    case r5_y => (intro w hSw; (try dsimp only at hSw); go_simp; (first | done | with_reducible rfl))
    try simp only [Act.put, List.setIfInBounds_toArray, List.set_cons_zero, List.set_cons_succ]
    refine wpAnyH_take (i := 5) (oi := Go.Oper.mk (Option.some 71) (Go.Op.move (Go.Operand.tmp 1)) 36 "law.go:29" #[Go.Edge.mk 2 Go.Ground.guard] (Option.some (2, Bool.false))) (v := ?r6_v) rfl (by kernel_rfl) (by kernel_rfl) (by kernel_rfl) (fun _ _ _ h => h) (Or.inl ⟨by rfl, ?r6_y⟩) (by assumption) ?_
    case r6_y => (intro w hSw; (try dsimp only at hSw); go_simp; (first | done | with_reducible rfl))
    try simp only [Act.put, List.setIfInBounds_toArray, List.set_cons_zero, List.set_cons_succ]
    refine wpAnyH_ready (rs := [6]) (by kernel_rfl) (by simp) ?_
    refine AllReadyH.cons (i := 6) (o := Go.Oper.mk (Option.some 72) (Go.Op.call (Go.Call.mk (Go.Callee.value (Go.Operand.func 15)) #[Go.Operand.tmp 71] #[36])) 9 "law.go:29" #[Go.Edge.mk 5 Go.Ground.data, Go.Edge.mk 2 Go.Ground.chain, Go.Edge.mk 2 Go.Ground.guard] (Option.some (2, Bool.false))) rfl (fun K hK => ?_) AllReadyH.nil
    go_simp
    (refine (HJ.out _ (HRl.out.below (bel_calls HB5.out (bel_drew (Below.refl _ _))))).mono ?_; rintro e wn ⟨rfl, rfl⟩)
    go_wp2_with fail
    refine hK.out _ _ ?r7_k6 (fun hHeld => ?_)
    case r7_k6 => first | (exact KX.out _ (bel_drew (Below.refl _ _))) | (dsimp only; exact KX.out _ (bel_drew (Below.refl _ _)))
    clear hK K
    try simp only [Act.put, List.setIfInBounds_toArray, List.set_cons_zero, List.set_cons_succ]
    refine wpAnyH_ready (rs := [7]) (by kernel_rfl) (by simp) ?_
    refine AllReadyH.cons (i := 7) (o := Go.Oper.mk (Option.some 73) (Go.Op.call (Go.Call.mk (Go.Callee.value (Go.Operand.func 14)) #[Go.Operand.tmp 70, Go.Operand.tmp 72] #[3, 9])) 24 "law.go:29" #[Go.Edge.mk 4 Go.Ground.data, Go.Edge.mk 6 Go.Ground.data, Go.Edge.mk 6 Go.Ground.chain, Go.Edge.mk 2 Go.Ground.guard] (Option.some (2, Bool.false))) rfl (fun K hK => ?_) AllReadyH.nil
    go_simp
    (refine (HPr.out _).mono ?_; rintro e wP ⟨rfl, hbP⟩; have HBP : Box _ := ⟨bel_calls (bel_drew (Below.refl w5.heap.size w5)) hbP⟩; clear hbP)
    go_wp2_with fail
    refine hK.out _ _ ?r8_k7 (fun hHeld => ?_)
    case r8_k7 => first | (exact KX.out _ HBP.out) | (dsimp only; exact KX.out _ HBP.out)
    clear hK K
    try simp only [Act.put, List.setIfInBounds_toArray, List.set_cons_zero, List.set_cons_succ]
    refine wpAnyH_take (i := 8) (oi := Go.Oper.mk (Option.some 74) (Go.Op.binOp Go.BinOp.neq 24 (Go.Operand.tmp 69) (Go.Operand.tmp 73) 24) 4 "law.go:29" #[Go.Edge.mk 3 Go.Ground.data, Go.Edge.mk 7 Go.Ground.data, Go.Edge.mk 2 Go.Ground.guard] (Option.some (2, Bool.false))) (v := ?r9_v) rfl (by kernel_rfl) (by kernel_rfl) (by kernel_rfl) (fun _ _ _ h => h) (Or.inl ⟨by rfl, ?r9_y⟩) (by assumption) ?_
    case r9_y => (intro w hSw; (try dsimp only at hSw); go_simp; (first | done | with_reducible rfl))
    try simp only [Act.put, List.setIfInBounds_toArray, List.set_cons_zero, List.set_cons_succ]
    refine wpAnyH_take (i := 9) (oi := Go.Oper.mk (Option.some 75) (Go.Op.pick (Go.Operand.tmp 68) (Go.Operand.const (Go.Value.bool Bool.true)) (Go.Operand.tmp 74)) 4 "law.go:29" #[Go.Edge.mk 2 Go.Ground.data, Go.Edge.mk 8 Go.Ground.data] Option.none) (v := ?r10_v) rfl (by kernel_rfl) (by kernel_rfl) (by kernel_rfl) (fun _ _ _ h => h) (Or.inl ⟨by rfl, ?r10_y⟩) (by assumption) ?_
    case r10_y => (intro w hSw; (try dsimp only at hSw); go_simp; (first | done | with_reducible rfl))
    try simp only [Act.put, List.setIfInBounds_toArray, List.set_cons_zero, List.set_cons_succ]
    refine wpAnyH_done (by kernel_rfl) ?_ _
    replace HE1 : Box _ := ⟨HE1.out.below HBP.out⟩
    replace HE2 : Box _ := ⟨HE2.out.below HBP.out⟩
    replace HM5 : Box _ := ⟨HM5.out.below HBP.out⟩
    have HB6 : Box _ := ⟨bel_calls HB5.out HBP.out⟩
    clear HB5
    have HB5 := HB6
    clear HB6 KX
    have d0 := HE1.out.c0
    have d1 := HE1.out.c1
    go_wp2_with fail
    refine (HL.out _).mono ?_
    rintro e w7 ⟨rfl, hb7⟩
    have HB7 : Box _ := ⟨bel_calls HB5.out hb7⟩
    have HF1 : Box _ := ⟨HE1.out.below hb7⟩
    have HF2 : Box _ := ⟨HE2.out.below hb7⟩
    have HM7 : Box _ := ⟨HM5.out.below hb7⟩
    clear hb7 d0 d1 HE1 HE2 HM5
    have d0 := HF1.out.c0
    have d1 := HF1.out.c1
    go_wp2_with fail
    refine (HVr.out _).mono ?_
    rintro e w8 ⟨rfl, hb8⟩
    have HB8 : Box _ := ⟨bel_calls HB7.out hb8⟩
    have HG1 : Box _ := ⟨HF1.out.below hb8⟩
    have HG2 : Box _ := ⟨HF2.out.below hb8⟩
    have HM8 : Box _ := ⟨HM7.out.below hb8⟩
    clear hb8 d0 d1 HF1 HF2 HM7
    go_wp2_with fail
    refine (HRd.out _).mono ?_
    rintro e w9 ⟨rfl, hb9⟩
    have hb9' := bel_alloc hb9 (.cells #[.int .i64 rk, .string rs] 24)
    have HB9 : Box _ := ⟨bel_calls HB8.out hb9'⟩
    have HI1 : Box _ := ⟨HG1.out.below hb9'⟩
    have HI2 : Box _ := ⟨HG2.out.below hb9'⟩
    have HM9 : Box _ := ⟨HM8.out.below hb9'⟩
    have HU9 : Box _ := ⟨PrintAt.new w9 rk rs⟩
    obtain ⟨gu, hgu⟩ : ∃ gu, w9.heap.size = gu := ⟨_, rfl⟩
    rw [hgu] at HU9
    clear hb9 hb9' HG1 HG2 HM8
    go_wp2_with fail
    refine (HRr.out _).mono ?_
    rintro e w10 ⟨rfl, hb10⟩
    have hb10' := bel_alloc hb10 (.cells #[.int .i64 rk, .string rs] 24)
    have HB10 : Box _ := ⟨bel_calls HB9.out hb10'⟩
    have HK1 : Box _ := ⟨HI1.out.below hb10'⟩
    have HK2 : Box _ := ⟨HI2.out.below hb10'⟩
    have HM10 : Box _ := ⟨HM9.out.below hb10'⟩
    have HU10 : Box _ := ⟨HU9.out.below hb10'⟩
    have HW10 : Box _ := ⟨PrintAt.new w10 rk rs⟩
    obtain ⟨gv, hgv⟩ : ∃ gv, w10.heap.size = gv := ⟨_, rfl⟩
    rw [hgv] at HW10
    clear hb10 hb10' HI1 HI2 HM9 HU9
    obtain ⟨wA, hwA⟩ : ∃ wA, w10.alloc (.cells #[.int .i64 rk, .string rs] 24) = wA := ⟨_, rfl⟩
    rw [hwA] at HB10 HK1 HK2 HM10 HU10 HW10
    rcases HLay.out with ⟨rfl, hh⟩ | ⟨rfl, V, hh, hLP⟩
    · injection hh with hh1 hh2
      subst hh1 hh2
      clear HLay
      have KK : Box (∀ W, Below wA.heap.size wA W → W.cell? ⟨w.heap.size, 0, none⟩ = some (.int .i64 k1) ∧ W.cell? ⟨w.heap.size, 1, none⟩ = some (.string s1) ∧ W.cell? ⟨w.heap.size + 1, 0, none⟩ = some (.int .i64 k2) ∧ W.cell? ⟨w.heap.size + 1, 1, none⟩ = some (.string s2) ∧ W.cell? ⟨gu, 0, none⟩ = some (.int .i64 rk) ∧ W.cell? ⟨gu, 1, none⟩ = some (.string rs) ∧ W.cell? ⟨gv, 0, none⟩ = some (.int .i64 rk) ∧ W.cell? ⟨gv, 1, none⟩ = some (.string rs)) := ⟨fun W h => ⟨(HK1.out.below h).c0, (HK1.out.below h).c1, (HK2.out.below h).c0, (HK2.out.below h).c1, (HU10.out.below h).c0, (HU10.out.below h).c1, (HW10.out.below h).c0, (HW10.out.below h).c1⟩⟩
      have e2 : (rs.toList == rs.toList) = true := by simp
      have e3 : (X.toList == X.toList) = true := by simp
      go_wp2_with fail
      refine wp_region_held_drew (S := (fun w' => w'.cell? ⟨w.heap.size, 0, none⟩ = some (.int .i64 k1) ∧ w'.cell? ⟨w.heap.size, 1, none⟩ = some (.string s1) ∧ w'.cell? ⟨w.heap.size + 1, 0, none⟩ = some (.int .i64 k2) ∧ w'.cell? ⟨w.heap.size + 1, 1, none⟩ = some (.string s2) ∧ w'.cell? ⟨gu, 0, none⟩ = some (.int .i64 rk) ∧ w'.cell? ⟨gu, 1, none⟩ = some (.string rs) ∧ w'.cell? ⟨gv, 0, none⟩ = some (.int .i64 rk) ∧ w'.cell? ⟨gv, 1, none⟩ = some (.string rs))) (by kernel_rfl) ?bfS (fun hHeld => ?_)
      case bfS => first | (exact KK.out _ (bel_drew (Below.refl _ _))) | (dsimp only; exact KK.out _ (bel_drew (Below.refl _ _)))
      refine wpAnyH_take (i := 0) (oi := Go.Oper.mk (Option.some 116) (Go.Op.move (Go.Operand.tmp 0)) 3 "law.go:39" #[] Option.none) (v := ?bf1_v) rfl (by kernel_rfl) (by kernel_rfl) (by kernel_rfl) (fun _ _ _ h => h) (Or.inl ⟨by rfl, ?bf1_y⟩) (by assumption) ?_
      case bf1_y => (intro w hSw; (try dsimp only at hSw); go_simp; (first | done | with_reducible rfl))
      try simp only [Act.put, List.setIfInBounds_toArray, List.set_cons_zero, List.set_cons_succ]
      refine wpAnyH_take (i := 2) (oi := Go.Oper.mk (Option.some 118) (Go.Op.move (Go.Operand.tmp 14)) 3 "law.go:39" #[] Option.none) (v := ?bf2_v) rfl (by kernel_rfl) (by kernel_rfl) (by kernel_rfl) (fun _ _ _ h => h) (Or.inl ⟨by rfl, ?bf2_y⟩) (by assumption) ?_
      case bf2_y => (intro w hSw; (try dsimp only at hSw); go_simp; (first | done | with_reducible rfl))
      try simp only [Act.put, List.setIfInBounds_toArray, List.set_cons_zero, List.set_cons_succ]
      refine wpAnyH_ready (rs := [1]) (by kernel_rfl) (by simp) ?_
      refine AllReadyH.cons (i := 1) (o := Go.Oper.mk (Option.some 117) (Go.Op.call (Go.Call.mk (Go.Callee.value (Go.Operand.func 19)) #[Go.Operand.tmp 116] #[3])) 3 "law.go:39" #[Go.Edge.mk 0 Go.Ground.data] Option.none) rfl (fun K hK => ?_) AllReadyH.nil
      go_simp
      (refine (HN.out _).mono ?_; rintro e wn ⟨rfl, rfl⟩)
      go_wp2_with fail
      refine hK.out _ _ ?bf3_k1 (fun hHeld => ?_)
      case bf3_k1 => first | (exact KK.out _ (bel_drew (Below.refl _ _))) | (dsimp only; exact KK.out _ (bel_drew (Below.refl _ _)))
      clear hK K
      try simp only [Act.put, List.setIfInBounds_toArray, List.set_cons_zero, List.set_cons_succ]
      refine wpAnyH_take (i := 3) (oi := Go.Oper.mk (Option.some 119) (Go.Op.binOp Go.BinOp.eql 3 (Go.Operand.tmp 117) (Go.Operand.tmp 118) 3) 4 "law.go:39" #[Go.Edge.mk 1 Go.Ground.data, Go.Edge.mk 2 Go.Ground.data] Option.none) (v := ?bf4_v) rfl (by kernel_rfl) (by kernel_rfl) (by kernel_rfl) (fun _ _ _ h => h) (Or.inl ⟨by rfl, ?bf4_y⟩) (by assumption) ?_
      case bf4_y => (intro w hSw; (try dsimp only at hSw); go_simp; (first | done | with_reducible rfl))
      try simp only [Act.put, List.setIfInBounds_toArray, List.set_cons_zero, List.set_cons_succ]
      refine wpAnyH_take (i := 4) (oi := Go.Oper.mk (Option.some 120) (Go.Op.move (Go.Operand.tmp 119)) 4 "law.go:39" #[Go.Edge.mk 3 Go.Ground.data, Go.Edge.mk 1 Go.Ground.chain] Option.none) (v := ?bf5_v) rfl (by kernel_rfl) (by kernel_rfl) (by kernel_rfl) (fun _ _ _ h => h) (Or.inl ⟨by rfl, ?bf5_y⟩) (by assumption) ?_
      case bf5_y => (intro w hSw; (try dsimp only at hSw); go_simp; (first | done | with_reducible rfl))
      try simp only [Act.put, List.setIfInBounds_toArray, List.set_cons_zero, List.set_cons_succ]
      refine wpAnyH_take (i := 5) (oi := Go.Oper.mk (Option.some 121) (Go.Op.load 24 (Go.Operand.tmp 7)) 24 "law.go:39" #[Go.Edge.mk 4 Go.Ground.guard] (Option.some (4, Bool.true))) (v := ?bf6_v) rfl (by kernel_rfl) (by kernel_rfl) (by kernel_rfl) (fun _ _ _ h => h) (Or.inl ⟨by rfl, ?bf6_y⟩) (by assumption) ?_
      case bf6_y => (intro w hSw; (try dsimp only at hSw); go_simp; (first | done | with_reducible rfl))
      try simp only [Act.put, List.setIfInBounds_toArray, List.set_cons_zero, List.set_cons_succ]
      refine wpAnyH_take (i := 7) (oi := Go.Oper.mk (Option.some 123) (Go.Op.move (Go.Operand.tmp 17)) 4 "law.go:39" #[Go.Edge.mk 4 Go.Ground.guard] (Option.some (4, Bool.true))) (v := ?bf7_v) rfl (by kernel_rfl) (by kernel_rfl) (by kernel_rfl) (fun _ _ _ h => h) (Or.inl ⟨by rfl, ?bf7_y⟩) (by assumption) ?_
      case bf7_y => (intro w hSw; (try dsimp only at hSw); go_simp; (first | done | with_reducible rfl))
      try simp only [Act.put, List.setIfInBounds_toArray, List.set_cons_zero, List.set_cons_succ]
      refine wpAnyH_ready (rs := [6]) (by kernel_rfl) (by simp) ?_
      refine AllReadyH.cons (i := 6) (o := Go.Oper.mk (Option.some 122) (Go.Op.call (Go.Call.mk (Go.Callee.value (Go.Operand.func 20)) #[Go.Operand.tmp 121] #[24])) 4 "law.go:39" #[Go.Edge.mk 5 Go.Ground.data, Go.Edge.mk 4 Go.Ground.chain, Go.Edge.mk 4 Go.Ground.guard] (Option.some (4, Bool.true))) rfl (fun K hK => ?_) AllReadyH.nil
      go_simp
      (refine (HV.out _).mono ?_; rintro e wn1 ⟨rfl, hb⟩; have HD1 : Box _ := ⟨bel_calls (bel_drew (Below.refl _ _)) hb⟩; clear hb)
      go_wp2_with fail
      refine hK.out _ _ ?bf8_k6 (fun hHeld => ?_)
      case bf8_k6 => first | (exact KK.out _ HD1.out) | (dsimp only; exact KK.out _ HD1.out)
      clear hK K
      try simp only [Act.put, List.setIfInBounds_toArray, List.set_cons_zero, List.set_cons_succ]
      refine wpAnyH_take (i := 8) (oi := Go.Oper.mk (Option.some 124) (Go.Op.binOp Go.BinOp.eql 4 (Go.Operand.tmp 122) (Go.Operand.tmp 123) 4) 4 "law.go:39" #[Go.Edge.mk 6 Go.Ground.data, Go.Edge.mk 7 Go.Ground.data, Go.Edge.mk 4 Go.Ground.guard] (Option.some (4, Bool.true))) (v := ?bf9_v) rfl (by kernel_rfl) (by kernel_rfl) (by kernel_rfl) (fun _ _ _ h => h) (Or.inl ⟨by rfl, ?bf9_y⟩) (by assumption) ?_
      case bf9_y => (intro w hSw; (try dsimp only at hSw); go_simp; (first | done | with_reducible rfl))
      try simp only [Act.put, List.setIfInBounds_toArray, List.set_cons_zero, List.set_cons_succ]
      refine wpAnyH_take (i := 9) (oi := Go.Oper.mk (Option.some 125) (Go.Op.pick (Go.Operand.tmp 120) (Go.Operand.tmp 124) (Go.Operand.const (Go.Value.bool Bool.false))) 4 "law.go:39" #[Go.Edge.mk 4 Go.Ground.data, Go.Edge.mk 8 Go.Ground.data] Option.none) (v := ?bf10_v) rfl (by kernel_rfl) (by kernel_rfl) (by kernel_rfl) (fun _ _ _ h => h) (Or.inl ⟨by rfl, ?bf10_y⟩) (by assumption) ?_
      case bf10_y => (intro w hSw; (try dsimp only at hSw); go_simp; (first | done | with_reducible rfl))
      try simp only [Act.put, List.setIfInBounds_toArray, List.set_cons_zero, List.set_cons_succ]
      refine wpAnyH_take (i := 10) (oi := Go.Oper.mk (Option.some 126) (Go.Op.move (Go.Operand.tmp 125)) 4 "law.go:39" #[Go.Edge.mk 9 Go.Ground.data, Go.Edge.mk 6 Go.Ground.chain] Option.none) (v := ?bf11_v) rfl (by kernel_rfl) (by kernel_rfl) (by kernel_rfl) (fun _ _ _ h => h) (Or.inl ⟨by rfl, ?bf11_y⟩) (by assumption) ?_
      case bf11_y => (intro w hSw; (try dsimp only at hSw); go_simp; (first | done | with_reducible rfl))
      try simp only [Act.put, List.setIfInBounds_toArray, List.set_cons_zero, List.set_cons_succ]
      refine wpAnyH_take (i := 11) (oi := Go.Oper.mk (Option.some 127) (Go.Op.load 24 (Go.Operand.tmp 18)) 24 "law.go:39" #[Go.Edge.mk 10 Go.Ground.guard] (Option.some (10, Bool.true))) (v := ?bf12_v) rfl (by kernel_rfl) (by kernel_rfl) (by kernel_rfl) (fun _ _ _ h => h) (Or.inl ⟨by rfl, ?bf12_y⟩) (by assumption) ?_
      case bf12_y => (intro w hSw; (try dsimp only at hSw); go_simp; (first | done | with_reducible rfl))
      try simp only [Act.put, List.setIfInBounds_toArray, List.set_cons_zero, List.set_cons_succ]
      refine wpAnyH_take (i := 12) (oi := Go.Oper.mk (Option.some 128) (Go.Op.load 24 (Go.Operand.tmp 20)) 24 "law.go:39" #[Go.Edge.mk 10 Go.Ground.guard] (Option.some (10, Bool.true))) (v := ?bf13_v) rfl (by kernel_rfl) (by kernel_rfl) (by kernel_rfl) (fun _ _ _ h => h) (Or.inl ⟨by rfl, ?bf13_y⟩) (by assumption) ?_
      case bf13_y => (intro w hSw; (try dsimp only at hSw); go_simp; (first | done | with_reducible rfl))
      try simp only [Act.put, List.setIfInBounds_toArray, List.set_cons_zero, List.set_cons_succ]
      refine wpAnyH_take (i := 13) (oi := Go.Oper.mk (Option.some 129) (Go.Op.binOp Go.BinOp.eql 24 (Go.Operand.tmp 127) (Go.Operand.tmp 128) 24) 4 "law.go:39" #[Go.Edge.mk 11 Go.Ground.data, Go.Edge.mk 12 Go.Ground.data, Go.Edge.mk 10 Go.Ground.guard] (Option.some (10, Bool.true))) (v := ?bf14_v) rfl (by kernel_rfl) (by kernel_rfl) (by kernel_rfl) (fun _ _ _ h => h) (Or.inl ⟨by rfl, ?bf14_y⟩) (by assumption) ?_
      case bf14_y => (intro w hSw; (try dsimp only at hSw); go_simp; (first | done | with_reducible rfl))
      try simp only [Act.put, List.setIfInBounds_toArray, List.set_cons_zero, List.set_cons_succ]
      refine wpAnyH_take (i := 14) (oi := Go.Oper.mk (Option.some 130) (Go.Op.pick (Go.Operand.tmp 126) (Go.Operand.tmp 129) (Go.Operand.const (Go.Value.bool Bool.false))) 4 "law.go:39" #[Go.Edge.mk 10 Go.Ground.data, Go.Edge.mk 13 Go.Ground.data] Option.none) (v := ?bf15_v) rfl (by kernel_rfl) (by kernel_rfl) (by kernel_rfl) (fun _ _ _ h => h) (Or.inl ⟨by rfl, ?bf15_y⟩) (by assumption) ?_
      case bf15_y => (intro w hSw; (try dsimp only at hSw); go_simp; (first | done | with_reducible rfl))
      try simp only [Act.put, List.setIfInBounds_toArray, List.set_cons_zero, List.set_cons_succ]
      refine wpAnyH_take (i := 15) (oi := Go.Oper.mk (Option.some 131) (Go.Op.move (Go.Operand.tmp 130)) 4 "law.go:39" #[Go.Edge.mk 14 Go.Ground.data, Go.Edge.mk 10 Go.Ground.chain] Option.none) (v := ?bf16_v) rfl (by kernel_rfl) (by kernel_rfl) (by kernel_rfl) (fun _ _ _ h => h) (Or.inl ⟨by rfl, ?bf16_y⟩) (by assumption) ?_
      case bf16_y => (intro w hSw; (try dsimp only at hSw); go_simp; (first | done | with_reducible rfl))
      try simp only [Act.put, List.setIfInBounds_toArray, List.set_cons_zero, List.set_cons_succ]
      refine wpAnyH_take (i := 16) (oi := Go.Oper.mk (Option.some 132) (Go.Op.move (Go.Operand.tmp 19)) 25 "law.go:39" #[Go.Edge.mk 15 Go.Ground.guard] (Option.some (15, Bool.true))) (v := ?bf17_v) rfl (by kernel_rfl) (by kernel_rfl) (by kernel_rfl) (fun _ _ _ h => h) (Or.inl ⟨by rfl, ?bf17_y⟩) (by assumption) ?_
      case bf17_y => (intro w hSw; (try dsimp only at hSw); go_simp; (first | done | with_reducible rfl))
      try simp only [Act.put, List.setIfInBounds_toArray, List.set_cons_zero, List.set_cons_succ]
      refine wpAnyH_take (i := 17) (oi := Go.Oper.mk (Option.some 133) (Go.Op.move (Go.Operand.tmp 21)) 25 "law.go:39" #[Go.Edge.mk 15 Go.Ground.guard] (Option.some (15, Bool.true))) (v := ?bf18_v) rfl (by kernel_rfl) (by kernel_rfl) (by kernel_rfl) (fun _ _ _ h => h) (Or.inl ⟨by rfl, ?bf18_y⟩) (by assumption) ?_
      case bf18_y => (intro w hSw; (try dsimp only at hSw); go_simp; (first | done | with_reducible rfl))
      try simp only [Act.put, List.setIfInBounds_toArray, List.set_cons_zero, List.set_cons_succ]
      refine wpAnyH_take (i := 18) (oi := Go.Oper.mk (Option.some 134) (Go.Op.binOp Go.BinOp.eql 25 (Go.Operand.tmp 132) (Go.Operand.tmp 133) 25) 4 "law.go:39" #[Go.Edge.mk 16 Go.Ground.data, Go.Edge.mk 17 Go.Ground.data, Go.Edge.mk 15 Go.Ground.guard] (Option.some (15, Bool.true))) (v := ?bf19_v) rfl (by kernel_rfl) (by kernel_rfl) (by kernel_rfl) (fun _ _ _ h => h) (Or.inl ⟨by rfl, ?bf19_y⟩) (by assumption) ?_
      case bf19_y => (intro w hSw; (try dsimp only at hSw); go_simp; (first | done | with_reducible rfl))
      try simp only [Act.put, List.setIfInBounds_toArray, List.set_cons_zero, List.set_cons_succ]
      refine wpAnyH_take (i := 19) (oi := Go.Oper.mk (Option.some 135) (Go.Op.pick (Go.Operand.tmp 131) (Go.Operand.tmp 134) (Go.Operand.const (Go.Value.bool Bool.false))) 4 "law.go:39" #[Go.Edge.mk 15 Go.Ground.data, Go.Edge.mk 18 Go.Ground.data] Option.none) (v := ?bf20_v) rfl (by kernel_rfl) (by kernel_rfl) (by kernel_rfl) (fun _ _ _ h => h) (Or.inl ⟨by rfl, ?bf20_y⟩) (by assumption) ?_
      case bf20_y => (intro w hSw; (try dsimp only at hSw); go_simp; (first | done | with_reducible rfl))
      try simp only [Act.put, List.setIfInBounds_toArray, List.set_cons_zero, List.set_cons_succ]
      refine wpAnyH_take (i := 20) (oi := Go.Oper.mk (Option.some 136) (Go.Op.move (Go.Operand.tmp 135)) 4 "law.go:39" #[Go.Edge.mk 19 Go.Ground.data, Go.Edge.mk 15 Go.Ground.chain] Option.none) (v := ?bf21_v) rfl (by kernel_rfl) (by kernel_rfl) (by kernel_rfl) (fun _ _ _ h => h) (Or.inl ⟨by rfl, ?bf21_y⟩) (by assumption) ?_
      case bf21_y => (intro w hSw; (try dsimp only at hSw); go_simp; (first | done | with_reducible rfl))
      try simp only [Act.put, List.setIfInBounds_toArray, List.set_cons_zero, List.set_cons_succ]
      refine wpAnyH_take (i := 21) (oi := Go.Oper.mk (Option.some 137) (Go.Op.load 24 (Go.Operand.tmp 7)) 24 "law.go:39" #[Go.Edge.mk 20 Go.Ground.guard] (Option.some (20, Bool.true))) (v := ?bf22_v) rfl (by kernel_rfl) (by kernel_rfl) (by kernel_rfl) (fun _ _ _ h => h) (Or.inl ⟨by rfl, ?bf22_y⟩) (by assumption) ?_
      case bf22_y => (intro w hSw; (try dsimp only at hSw); go_simp; (first | done | with_reducible rfl))
      try simp only [Act.put, List.setIfInBounds_toArray, List.set_cons_zero, List.set_cons_succ]
      refine wpAnyH_take (i := 22) (oi := Go.Oper.mk (Option.some 138) (Go.Op.load 24 (Go.Operand.tmp 8)) 24 "law.go:39" #[Go.Edge.mk 20 Go.Ground.guard] (Option.some (20, Bool.true))) (v := ?bf23_v) rfl (by kernel_rfl) (by kernel_rfl) (by kernel_rfl) (fun _ _ _ h => h) (Or.inl ⟨by rfl, ?bf23_y⟩) (by assumption) ?_
      case bf23_y => (intro w hSw; (try dsimp only at hSw); go_simp; (first | done | with_reducible rfl))
      try simp only [Act.put, List.setIfInBounds_toArray, List.set_cons_zero, List.set_cons_succ]
      refine wpAnyH_take (i := 24) (oi := Go.Oper.mk (Option.some 140) (Go.Op.load 24 (Go.Operand.tmp 7)) 24 "law.go:39" #[Go.Edge.mk 20 Go.Ground.guard] (Option.some (20, Bool.true))) (v := ?bf24_v) rfl (by kernel_rfl) (by kernel_rfl) (by kernel_rfl) (fun _ _ _ h => h) (Or.inl ⟨by rfl, ?bf24_y⟩) (by assumption) ?_
      case bf24_y => (intro w hSw; (try dsimp only at hSw); go_simp; (first | done | with_reducible rfl))
      try simp only [Act.put, List.setIfInBounds_toArray, List.set_cons_zero, List.set_cons_succ]
      refine wpAnyH_take (i := 25) (oi := Go.Oper.mk (Option.some 141) (Go.Op.load 24 (Go.Operand.tmp 8)) 24 "law.go:39" #[Go.Edge.mk 20 Go.Ground.guard] (Option.some (20, Bool.true))) (v := ?bf25_v) rfl (by kernel_rfl) (by kernel_rfl) (by kernel_rfl) (fun _ _ _ h => h) (Or.inl ⟨by rfl, ?bf25_y⟩) (by assumption) ?_
      case bf25_y => (intro w hSw; (try dsimp only at hSw); go_simp; (first | done | with_reducible rfl))
      try simp only [Act.put, List.setIfInBounds_toArray, List.set_cons_zero, List.set_cons_succ]
      refine wpAnyH_ready (rs := [23]) (by kernel_rfl) (by simp) ?_
      refine AllReadyH.cons (i := 23) (o := Go.Oper.mk (Option.some 139) (Go.Op.call (Go.Call.mk (Go.Callee.value (Go.Operand.func 11)) #[Go.Operand.tmp 137, Go.Operand.tmp 138] #[24, 24])) 3 "law.go:39" #[Go.Edge.mk 21 Go.Ground.data, Go.Edge.mk 22 Go.Ground.data, Go.Edge.mk 20 Go.Ground.chain, Go.Edge.mk 20 Go.Ground.guard] (Option.some (20, Bool.true))) rfl (fun K hK => ?_) AllReadyH.nil
      go_simp
      (refine (HC.out _).mono ?_; rintro e wn2 ⟨rfl, hb⟩; have HD2 : Box _ := ⟨bel_calls HD1.out hb⟩; clear hb)
      go_wp2_with fail
      refine hK.out _ _ ?bf26_k23 (fun hHeld => ?_)
      case bf26_k23 => first | (exact KK.out _ HD2.out) | (dsimp only; exact KK.out _ HD2.out)
      clear hK K
      try simp only [Act.put, List.setIfInBounds_toArray, List.set_cons_zero, List.set_cons_succ]
      refine wpAnyH_ready (rs := [26]) (by kernel_rfl) (by simp) ?_
      refine AllReadyH.cons (i := 26) (o := Go.Oper.mk (Option.some 142) (Go.Op.call (Go.Call.mk (Go.Callee.value (Go.Operand.func 21)) #[Go.Operand.tmp 140, Go.Operand.tmp 141] #[24, 24])) 3 "law.go:39" #[Go.Edge.mk 24 Go.Ground.data, Go.Edge.mk 25 Go.Ground.data, Go.Edge.mk 23 Go.Ground.chain, Go.Edge.mk 20 Go.Ground.guard] (Option.some (20, Bool.true))) rfl (fun K hK => ?_) AllReadyH.nil
      go_simp
      (refine (HCr.out _).mono ?_; rintro e wn3 ⟨rfl, hb⟩; have HD3 : Box _ := ⟨bel_calls HD2.out hb⟩; clear hb)
      go_wp2_with fail
      refine hK.out _ _ ?bf27_k26 (fun hHeld => ?_)
      case bf27_k26 => first | (exact KK.out _ HD3.out) | (dsimp only; exact KK.out _ HD3.out)
      clear hK K
      try simp only [Act.put, List.setIfInBounds_toArray, List.set_cons_zero, List.set_cons_succ]
      refine wpAnyH_take (i := 27) (oi := Go.Oper.mk (Option.some 143) (Go.Op.binOp Go.BinOp.eql 3 (Go.Operand.tmp 139) (Go.Operand.tmp 142) 3) 4 "law.go:39" #[Go.Edge.mk 23 Go.Ground.data, Go.Edge.mk 26 Go.Ground.data, Go.Edge.mk 20 Go.Ground.guard] (Option.some (20, Bool.true))) (v := ?bf28_v) rfl (by kernel_rfl) (by kernel_rfl) (by kernel_rfl) (fun _ _ _ h => h) (Or.inl ⟨by rfl, ?bf28_y⟩) (by assumption) ?_
      case bf28_y => (intro w hSw; (try dsimp only at hSw); go_simp; (first | done | with_reducible rfl))
      try simp only [Act.put, List.setIfInBounds_toArray, List.set_cons_zero, List.set_cons_succ]
      refine wpAnyH_take (i := 28) (oi := Go.Oper.mk (Option.some 144) (Go.Op.pick (Go.Operand.tmp 136) (Go.Operand.tmp 143) (Go.Operand.const (Go.Value.bool Bool.false))) 4 "law.go:39" #[Go.Edge.mk 20 Go.Ground.data, Go.Edge.mk 27 Go.Ground.data] Option.none) (v := ?bf29_v) rfl (by kernel_rfl) (by kernel_rfl) (by kernel_rfl) (fun _ _ _ h => h) (Or.inl ⟨by rfl, ?bf29_y⟩) (by assumption) ?_
      case bf29_y => (intro w hSw; (try dsimp only at hSw); go_simp; (first | done | with_reducible rfl))
      try simp only [Act.put, List.setIfInBounds_toArray, List.set_cons_zero, List.set_cons_succ]
      refine wpAnyH_take (i := 29) (oi := Go.Oper.mk (Option.some 145) (Go.Op.move (Go.Operand.tmp 144)) 4 "law.go:39" #[Go.Edge.mk 28 Go.Ground.data, Go.Edge.mk 26 Go.Ground.chain] Option.none) (v := ?bf30_v) rfl (by kernel_rfl) (by kernel_rfl) (by kernel_rfl) (fun _ _ _ h => h) (Or.inl ⟨by rfl, ?bf30_y⟩) (by assumption) ?_
      case bf30_y => (intro w hSw; (try dsimp only at hSw); go_simp; (first | done | with_reducible rfl))
      try simp only [Act.put, List.setIfInBounds_toArray, List.set_cons_zero, List.set_cons_succ]
      refine wpAnyH_take (i := 30) (oi := Go.Oper.mk (Option.some 146) (Go.Op.load 24 (Go.Operand.tmp 7)) 24 "law.go:39" #[Go.Edge.mk 29 Go.Ground.guard] (Option.some (29, Bool.true))) (v := ?bf31_v) rfl (by kernel_rfl) (by kernel_rfl) (by kernel_rfl) (fun _ _ _ h => h) (Or.inl ⟨by rfl, ?bf31_y⟩) (by assumption) ?_
      case bf31_y => (intro w hSw; (try dsimp only at hSw); go_simp; (first | done | with_reducible rfl))
      try simp only [Act.put, List.setIfInBounds_toArray, List.set_cons_zero, List.set_cons_succ]
      refine wpAnyH_take (i := 31) (oi := Go.Oper.mk (Option.some 147) (Go.Op.load 24 (Go.Operand.tmp 7)) 24 "law.go:39" #[Go.Edge.mk 29 Go.Ground.guard] (Option.some (29, Bool.true))) (v := ?bf32_v) rfl (by kernel_rfl) (by kernel_rfl) (by kernel_rfl) (fun _ _ _ h => h) (Or.inl ⟨by rfl, ?bf32_y⟩) (by assumption) ?_
      case bf32_y => (intro w hSw; (try dsimp only at hSw); go_simp; (first | done | with_reducible rfl))
      try simp only [Act.put, List.setIfInBounds_toArray, List.set_cons_zero, List.set_cons_succ]
      refine wpAnyH_ready (rs := [32]) (by kernel_rfl) (by simp) ?_
      refine AllReadyH.cons (i := 32) (o := Go.Oper.mk (Option.some 148) (Go.Op.call (Go.Call.mk (Go.Callee.value (Go.Operand.func 11)) #[Go.Operand.tmp 146, Go.Operand.tmp 147] #[24, 24])) 3 "law.go:39" #[Go.Edge.mk 30 Go.Ground.data, Go.Edge.mk 31 Go.Ground.data, Go.Edge.mk 29 Go.Ground.chain, Go.Edge.mk 29 Go.Ground.guard] (Option.some (29, Bool.true))) rfl (fun K hK => ?_) AllReadyH.nil
      go_simp
      (refine (HC1.out _).mono ?_; rintro e wn4 ⟨rfl, hb⟩; have HD4 : Box _ := ⟨bel_calls HD3.out hb⟩; clear hb)
      go_wp2_with fail
      refine hK.out _ _ ?bf33_k32 (fun hHeld => ?_)
      case bf33_k32 => first | (exact KK.out _ HD4.out) | (dsimp only; exact KK.out _ HD4.out)
      clear hK K
      try simp only [Act.put, List.setIfInBounds_toArray, List.set_cons_zero, List.set_cons_succ]
      refine wpAnyH_take (i := 33) (oi := Go.Oper.mk (Option.some 149) (Go.Op.binOp Go.BinOp.eql 3 (Go.Operand.tmp 148) (Go.Operand.const (Go.Value.int Go.IntKind.i64 0)) 3) 4 "law.go:39" #[Go.Edge.mk 32 Go.Ground.data, Go.Edge.mk 29 Go.Ground.guard] (Option.some (29, Bool.true))) (v := ?bf34_v) rfl (by kernel_rfl) (by kernel_rfl) (by kernel_rfl) (fun _ _ _ h => h) (Or.inl ⟨by rfl, ?bf34_y⟩) (by assumption) ?_
      case bf34_y => (intro w hSw; (try dsimp only at hSw); go_simp; (first | done | with_reducible rfl))
      try simp only [Act.put, List.setIfInBounds_toArray, List.set_cons_zero, List.set_cons_succ]
      refine wpAnyH_take (i := 34) (oi := Go.Oper.mk (Option.some 150) (Go.Op.pick (Go.Operand.tmp 145) (Go.Operand.tmp 149) (Go.Operand.const (Go.Value.bool Bool.false))) 4 "law.go:39" #[Go.Edge.mk 29 Go.Ground.data, Go.Edge.mk 33 Go.Ground.data] Option.none) (v := ?bf35_v) rfl (by kernel_rfl) (by kernel_rfl) (by kernel_rfl) (fun _ _ _ h => h) (Or.inl ⟨by rfl, ?bf35_y⟩) (by assumption) ?_
      case bf35_y => (intro w hSw; (try dsimp only at hSw); go_simp; (first | done | with_reducible rfl))
      try simp only [Act.put, List.setIfInBounds_toArray, List.set_cons_zero, List.set_cons_succ]
      refine wpAnyH_take (i := 35) (oi := Go.Oper.mk (Option.some 151) (Go.Op.move (Go.Operand.tmp 150)) 4 "law.go:39" #[Go.Edge.mk 34 Go.Ground.data, Go.Edge.mk 32 Go.Ground.chain] Option.none) (v := ?bf36_v) rfl (by kernel_rfl) (by kernel_rfl) (by kernel_rfl) (fun _ _ _ h => h) (Or.inl ⟨by rfl, ?bf36_y⟩) (by assumption) ?_
      case bf36_y => (intro w hSw; (try dsimp only at hSw); go_simp; (first | done | with_reducible rfl))
      try simp only [Act.put, List.setIfInBounds_toArray, List.set_cons_zero, List.set_cons_succ]
      refine wpAnyH_take (i := 36) (oi := Go.Oper.mk (Option.some 152) (Go.Op.load 24 (Go.Operand.tmp 7)) 24 "law.go:39" #[Go.Edge.mk 35 Go.Ground.guard] (Option.some (35, Bool.true))) (v := ?bf37_v) rfl (by kernel_rfl) (by kernel_rfl) (by kernel_rfl) (fun _ _ _ h => h) (Or.inl ⟨by rfl, ?bf37_y⟩) (by assumption) ?_
      case bf37_y => (intro w hSw; (try dsimp only at hSw); go_simp; (first | done | with_reducible rfl))
      try simp only [Act.put, List.setIfInBounds_toArray, List.set_cons_zero, List.set_cons_succ]
      refine wpAnyH_take (i := 38) (oi := Go.Oper.mk (Option.some 154) (Go.Op.load 24 (Go.Operand.tmp 7)) 24 "law.go:39" #[Go.Edge.mk 35 Go.Ground.guard] (Option.some (35, Bool.true))) (v := ?bf38_v) rfl (by kernel_rfl) (by kernel_rfl) (by kernel_rfl) (fun _ _ _ h => h) (Or.inl ⟨by rfl, ?bf38_y⟩) (by assumption) ?_
      case bf38_y => (intro w hSw; (try dsimp only at hSw); go_simp; (first | done | with_reducible rfl))
      try simp only [Act.put, List.setIfInBounds_toArray, List.set_cons_zero, List.set_cons_succ]
      refine wpAnyH_ready (rs := [37]) (by kernel_rfl) (by simp) ?_
      refine AllReadyH.cons (i := 37) (o := Go.Oper.mk (Option.some 153) (Go.Op.call (Go.Call.mk (Go.Callee.value (Go.Operand.func 22)) #[Go.Operand.tmp 152] #[24])) 3 "law.go:39" #[Go.Edge.mk 36 Go.Ground.data, Go.Edge.mk 35 Go.Ground.chain, Go.Edge.mk 35 Go.Ground.guard] (Option.some (35, Bool.true))) rfl (fun K hK => ?_) AllReadyH.nil
      go_simp
      (refine (HH.out _).mono ?_; rintro e wn5 ⟨rfl, hb⟩; have HD5 : Box _ := ⟨bel_calls HD4.out hb⟩; clear hb)
      go_wp2_with fail
      refine hK.out _ _ ?bf39_k37 (fun hHeld => ?_)
      case bf39_k37 => first | (exact KK.out _ HD5.out) | (dsimp only; exact KK.out _ HD5.out)
      clear hK K
      try simp only [Act.put, List.setIfInBounds_toArray, List.set_cons_zero, List.set_cons_succ]
      refine wpAnyH_ready (rs := [39]) (by kernel_rfl) (by simp) ?_
      refine AllReadyH.cons (i := 39) (o := Go.Oper.mk (Option.some 155) (Go.Op.call (Go.Call.mk (Go.Callee.value (Go.Operand.func 23)) #[Go.Operand.tmp 154] #[24])) 3 "law.go:39" #[Go.Edge.mk 38 Go.Ground.data, Go.Edge.mk 37 Go.Ground.chain, Go.Edge.mk 35 Go.Ground.guard] (Option.some (35, Bool.true))) rfl (fun K hK => ?_) AllReadyH.nil
      go_simp
      (refine (HHr.out _).mono ?_; rintro e wn6 ⟨rfl, hb⟩; have HD6 : Box _ := ⟨bel_calls HD5.out hb⟩; clear hb)
      go_wp2_with fail
      refine hK.out _ _ ?bf40_k39 (fun hHeld => ?_)
      case bf40_k39 => first | (exact KK.out _ HD6.out) | (dsimp only; exact KK.out _ HD6.out)
      clear hK K
      try simp only [Act.put, List.setIfInBounds_toArray, List.set_cons_zero, List.set_cons_succ]
      refine wpAnyH_take (i := 40) (oi := Go.Oper.mk (Option.some 156) (Go.Op.binOp Go.BinOp.eql 3 (Go.Operand.tmp 153) (Go.Operand.tmp 155) 3) 4 "law.go:39" #[Go.Edge.mk 37 Go.Ground.data, Go.Edge.mk 39 Go.Ground.data, Go.Edge.mk 35 Go.Ground.guard] (Option.some (35, Bool.true))) (v := ?bf41_v) rfl (by kernel_rfl) (by kernel_rfl) (by kernel_rfl) (fun _ _ _ h => h) (Or.inl ⟨by rfl, ?bf41_y⟩) (by assumption) ?_
      case bf41_y => (intro w hSw; (try dsimp only at hSw); go_simp; (first | done | with_reducible rfl))
      try simp only [Act.put, List.setIfInBounds_toArray, List.set_cons_zero, List.set_cons_succ]
      refine wpAnyH_take (i := 41) (oi := Go.Oper.mk (Option.some 157) (Go.Op.pick (Go.Operand.tmp 151) (Go.Operand.tmp 156) (Go.Operand.const (Go.Value.bool Bool.false))) 4 "law.go:39" #[Go.Edge.mk 35 Go.Ground.data, Go.Edge.mk 40 Go.Ground.data] Option.none) (v := ?bf42_v) rfl (by kernel_rfl) (by kernel_rfl) (by kernel_rfl) (fun _ _ _ h => h) (Or.inl ⟨by rfl, ?bf42_y⟩) (by assumption) ?_
      case bf42_y => (intro w hSw; (try dsimp only at hSw); go_simp; (first | done | with_reducible rfl))
      try simp only [Act.put, List.setIfInBounds_toArray, List.set_cons_zero, List.set_cons_succ]
      refine wpAnyH_take (i := 42) (oi := Go.Oper.mk (Option.some 158) (Go.Op.move (Go.Operand.tmp 157)) 4 "law.go:39" #[Go.Edge.mk 41 Go.Ground.data, Go.Edge.mk 39 Go.Ground.chain] Option.none) (v := ?bf43_v) rfl (by kernel_rfl) (by kernel_rfl) (by kernel_rfl) (fun _ _ _ h => h) (Or.inl ⟨by rfl, ?bf43_y⟩) (by assumption) ?_
      case bf43_y => (intro w hSw; (try dsimp only at hSw); go_simp; (first | done | with_reducible rfl))
      try simp only [Act.put, List.setIfInBounds_toArray, List.set_cons_zero, List.set_cons_succ]
      refine wpAnyH_take (i := 43) (oi := Go.Oper.mk (Option.some 159) (Go.Op.load 24 (Go.Operand.tmp 7)) 24 "law.go:39" #[Go.Edge.mk 42 Go.Ground.guard] (Option.some (42, Bool.true))) (v := ?bf44_v) rfl (by kernel_rfl) (by kernel_rfl) (by kernel_rfl) (fun _ _ _ h => h) (Or.inl ⟨by rfl, ?bf44_y⟩) (by assumption) ?_
      case bf44_y => (intro w hSw; (try dsimp only at hSw); go_simp; (first | done | with_reducible rfl))
      try simp only [Act.put, List.setIfInBounds_toArray, List.set_cons_zero, List.set_cons_succ]
      refine wpAnyH_take (i := 45) (oi := Go.Oper.mk (Option.some 161) (Go.Op.fieldAddr 24 (Go.Operand.tmp 7) 1) 0 "law.go:39" #[Go.Edge.mk 42 Go.Ground.guard] (Option.some (42, Bool.true))) (v := ?bf45_v) rfl (by kernel_rfl) (by kernel_rfl) (by kernel_rfl) (fun _ _ _ h => h) (Or.inl ⟨by rfl, ?bf45_y⟩) (by assumption) ?_
      case bf45_y => (intro w hSw; (try dsimp only at hSw); go_simp; (first | done | with_reducible rfl))
      try simp only [Act.put, List.setIfInBounds_toArray, List.set_cons_zero, List.set_cons_succ]
      refine wpAnyH_take (i := 46) (oi := Go.Oper.mk (Option.some 162) (Go.Op.load 9 (Go.Operand.tmp 161)) 9 "law.go:39" #[Go.Edge.mk 45 Go.Ground.data, Go.Edge.mk 42 Go.Ground.guard] (Option.some (42, Bool.true))) (v := ?bf46_v) rfl (by kernel_rfl) (by kernel_rfl) (by kernel_rfl) (fun _ _ _ h => h) (Or.inl ⟨by rfl, ?bf46_y⟩) (by assumption) ?_
      case bf46_y => (intro w hSw; (try dsimp only at hSw); go_simp; (first | done | with_reducible rfl))
      try simp only [Act.put, List.setIfInBounds_toArray, List.set_cons_zero, List.set_cons_succ]
      refine wpAnyH_ready (rs := [44]) (by kernel_rfl) (by simp) ?_
      refine AllReadyH.cons (i := 44) (o := Go.Oper.mk (Option.some 160) (Go.Op.call (Go.Call.mk (Go.Callee.value (Go.Operand.func 24)) #[Go.Operand.tmp 159] #[24])) 9 "law.go:39" #[Go.Edge.mk 43 Go.Ground.data, Go.Edge.mk 42 Go.Ground.chain, Go.Edge.mk 42 Go.Ground.guard] (Option.some (42, Bool.true))) rfl (fun K hK => ?_) AllReadyH.nil
      go_simp
      (refine (HT.out _).mono ?_; rintro e wn7 ⟨rfl, hb⟩; have HD7 : Box _ := ⟨bel_calls HD6.out hb⟩; clear hb)
      go_wp2_with fail
      refine hK.out _ _ ?bf47_k44 (fun hHeld => ?_)
      case bf47_k44 => first | (exact KK.out _ HD7.out) | (dsimp only; exact KK.out _ HD7.out)
      clear hK K
      try simp only [Act.put, List.setIfInBounds_toArray, List.set_cons_zero, List.set_cons_succ]
      refine wpAnyH_ready (rs := [47]) (by kernel_rfl) (by simp) ?_
      refine AllReadyH.cons (i := 47) (o := Go.Oper.mk (Option.some 163) (Go.Op.call (Go.Call.mk (Go.Callee.value (Go.Operand.func 25)) #[Go.Operand.tmp 162] #[9])) 9 "law.go:39" #[Go.Edge.mk 46 Go.Ground.data, Go.Edge.mk 44 Go.Ground.chain, Go.Edge.mk 42 Go.Ground.guard] (Option.some (42, Bool.true))) rfl (fun K hK => ?_) AllReadyH.nil
      go_simp
      (refine (HX.out _).mono ?_; rintro e wn8 ⟨rfl, hb⟩; have HD8 : Box _ := ⟨bel_calls HD7.out hb⟩; clear hb)
      go_wp2_with fail
      refine hK.out _ _ ?bf48_k47 (fun hHeld => ?_)
      case bf48_k47 => first | (exact KK.out _ HD8.out) | (dsimp only; exact KK.out _ HD8.out)
      clear hK K
      try simp only [Act.put, List.setIfInBounds_toArray, List.set_cons_zero, List.set_cons_succ]
      refine wpAnyH_take (i := 48) (oi := Go.Oper.mk (Option.some 164) (Go.Op.binOp Go.BinOp.eql 9 (Go.Operand.tmp 160) (Go.Operand.tmp 163) 9) 4 "law.go:39" #[Go.Edge.mk 44 Go.Ground.data, Go.Edge.mk 47 Go.Ground.data, Go.Edge.mk 42 Go.Ground.guard] (Option.some (42, Bool.true))) (v := ?bf49_v) rfl (by kernel_rfl) (by kernel_rfl) (by kernel_rfl) (fun _ _ _ h => h) (Or.inl ⟨by rfl, ?bf49_y⟩) (by assumption) ?_
      case bf49_y => (intro w hSw; (try dsimp only at hSw); go_simp; (first | done | with_reducible rfl))
      try simp only [Act.put, List.setIfInBounds_toArray, List.set_cons_zero, List.set_cons_succ]
      refine wpAnyH_take (i := 49) (oi := Go.Oper.mk (Option.some 165) (Go.Op.pick (Go.Operand.tmp 158) (Go.Operand.tmp 164) (Go.Operand.const (Go.Value.bool Bool.false))) 4 "law.go:39" #[Go.Edge.mk 42 Go.Ground.data, Go.Edge.mk 48 Go.Ground.data] Option.none) (v := ?bf50_v) rfl (by kernel_rfl) (by kernel_rfl) (by kernel_rfl) (fun _ _ _ h => h) (Or.inl ⟨by rfl, ?bf50_y⟩) (by assumption) ?_
      case bf50_y => (intro w hSw; (try dsimp only at hSw); go_simp; (first | done | with_reducible rfl))
      try simp only [Act.put, List.setIfInBounds_toArray, List.set_cons_zero, List.set_cons_succ]
      refine wpAnyH_take (i := 50) (oi := Go.Oper.mk (Option.some 166) (Go.Op.move (Go.Operand.tmp 165)) 4 "law.go:39" #[Go.Edge.mk 49 Go.Ground.data, Go.Edge.mk 47 Go.Ground.chain] Option.none) (v := ?bf51_v) rfl (by kernel_rfl) (by kernel_rfl) (by kernel_rfl) (fun _ _ _ h => h) (Or.inl ⟨by rfl, ?bf51_y⟩) (by assumption) ?_
      case bf51_y => (intro w hSw; (try dsimp only at hSw); go_simp; (first | done | with_reducible rfl))
      try simp only [Act.put, List.setIfInBounds_toArray, List.set_cons_zero, List.set_cons_succ]
      refine wpAnyH_take (i := 51) (oi := Go.Oper.mk (Option.some 167) (Go.Op.move (Go.Operand.tmp 11)) 36 "law.go:39" #[Go.Edge.mk 50 Go.Ground.guard] (Option.some (50, Bool.true))) (v := ?bf52_v) rfl (by kernel_rfl) (by kernel_rfl) (by kernel_rfl) (fun _ _ _ h => h) (Or.inl ⟨by rfl, ?bf52_y⟩) (by assumption) ?_
      case bf52_y => (intro w hSw; (try dsimp only at hSw); go_simp; (first | done | with_reducible rfl))
      try simp only [Act.put, List.setIfInBounds_toArray, List.set_cons_zero, List.set_cons_succ]
      refine wpAnyH_take (i := 52) (oi := Go.Oper.mk (Option.some 168) (Go.Op.move (Go.Operand.tmp 1)) 36 "law.go:39" #[Go.Edge.mk 50 Go.Ground.guard] (Option.some (50, Bool.true))) (v := ?bf53_v) rfl (by kernel_rfl) (by kernel_rfl) (by kernel_rfl) (fun _ _ _ h => h) (Or.inl ⟨by rfl, ?bf53_y⟩) (by assumption) ?_
      case bf53_y => (intro w hSw; (try dsimp only at hSw); go_simp; (first | done | with_reducible rfl))
      try simp only [Act.put, List.setIfInBounds_toArray, List.set_cons_zero, List.set_cons_succ]
      refine wpAnyH_ready (rs := [53]) (by kernel_rfl) (by simp) ?_
      refine AllReadyH.cons (i := 53) (o := Go.Oper.mk (Option.some 169) (Go.Op.call (Go.Call.mk (Go.Callee.value (Go.Operand.func 26)) #[Go.Operand.tmp 167, Go.Operand.tmp 168] #[36, 36])) 4 "law.go:39" #[Go.Edge.mk 51 Go.Ground.data, Go.Edge.mk 52 Go.Ground.data, Go.Edge.mk 50 Go.Ground.chain, Go.Edge.mk 50 Go.Ground.guard] (Option.some (50, Bool.true))) rfl (fun K hK => ?_) AllReadyH.nil
      go_simp
      (refine (HSt.out _ gm cap HCap.out (HM10.out.below HD8.out) (HRl.out.below (bel_calls HB10.out HD8.out))).mono ?_; rintro e wn9 ⟨rfl, hb⟩; have HD9 : Box _ := ⟨bel_calls HD8.out hb⟩; clear hb)
      go_wp2_with fail
      refine hK.out _ _ ?bf54_k53 (fun hHeld => ?_)
      case bf54_k53 => first | (exact KK.out _ HD9.out) | (dsimp only; exact KK.out _ HD9.out)
      clear hK K
      try simp only [Act.put, List.setIfInBounds_toArray, List.set_cons_zero, List.set_cons_succ]
      refine wpAnyH_take (i := 54) (oi := Go.Oper.mk (Option.some 170) (Go.Op.pick (Go.Operand.tmp 166) (Go.Operand.tmp 169) (Go.Operand.const (Go.Value.bool Bool.false))) 4 "law.go:39" #[Go.Edge.mk 50 Go.Ground.data, Go.Edge.mk 53 Go.Ground.data] Option.none) (v := ?bf55_v) rfl (by kernel_rfl) (by kernel_rfl) (by kernel_rfl) (fun _ _ _ h => h) (Or.inl ⟨by rfl, ?bf55_y⟩) (by assumption) ?_
      case bf55_y => (intro w hSw; (try dsimp only at hSw); go_simp; (first | done | with_reducible rfl))
      try simp only [Act.put, List.setIfInBounds_toArray, List.set_cons_zero, List.set_cons_succ]
      refine wpAnyH_take (i := 55) (oi := Go.Oper.mk (Option.some 10) (Go.Op.assign (Go.Operand.tmp 170)) 4 "law.go:39" #[Go.Edge.mk 54 Go.Ground.data, Go.Edge.mk 53 Go.Ground.chain, Go.Edge.mk 0 Go.Ground.phase, Go.Edge.mk 1 Go.Ground.phase, Go.Edge.mk 2 Go.Ground.phase, Go.Edge.mk 3 Go.Ground.phase, Go.Edge.mk 4 Go.Ground.phase, Go.Edge.mk 5 Go.Ground.phase, Go.Edge.mk 6 Go.Ground.phase, Go.Edge.mk 7 Go.Ground.phase, Go.Edge.mk 8 Go.Ground.phase, Go.Edge.mk 9 Go.Ground.phase, Go.Edge.mk 10 Go.Ground.phase, Go.Edge.mk 11 Go.Ground.phase, Go.Edge.mk 12 Go.Ground.phase, Go.Edge.mk 13 Go.Ground.phase, Go.Edge.mk 14 Go.Ground.phase, Go.Edge.mk 15 Go.Ground.phase, Go.Edge.mk 16 Go.Ground.phase, Go.Edge.mk 17 Go.Ground.phase, Go.Edge.mk 18 Go.Ground.phase, Go.Edge.mk 19 Go.Ground.phase, Go.Edge.mk 20 Go.Ground.phase, Go.Edge.mk 21 Go.Ground.phase, Go.Edge.mk 22 Go.Ground.phase, Go.Edge.mk 23 Go.Ground.phase, Go.Edge.mk 24 Go.Ground.phase, Go.Edge.mk 25 Go.Ground.phase, Go.Edge.mk 26 Go.Ground.phase, Go.Edge.mk 27 Go.Ground.phase, Go.Edge.mk 28 Go.Ground.phase, Go.Edge.mk 29 Go.Ground.phase, Go.Edge.mk 30 Go.Ground.phase, Go.Edge.mk 31 Go.Ground.phase, Go.Edge.mk 32 Go.Ground.phase, Go.Edge.mk 33 Go.Ground.phase, Go.Edge.mk 34 Go.Ground.phase, Go.Edge.mk 35 Go.Ground.phase, Go.Edge.mk 36 Go.Ground.phase, Go.Edge.mk 37 Go.Ground.phase, Go.Edge.mk 38 Go.Ground.phase, Go.Edge.mk 39 Go.Ground.phase, Go.Edge.mk 40 Go.Ground.phase, Go.Edge.mk 41 Go.Ground.phase, Go.Edge.mk 42 Go.Ground.phase, Go.Edge.mk 43 Go.Ground.phase, Go.Edge.mk 44 Go.Ground.phase, Go.Edge.mk 45 Go.Ground.phase, Go.Edge.mk 46 Go.Ground.phase, Go.Edge.mk 47 Go.Ground.phase, Go.Edge.mk 48 Go.Ground.phase, Go.Edge.mk 49 Go.Ground.phase, Go.Edge.mk 50 Go.Ground.phase, Go.Edge.mk 51 Go.Ground.phase, Go.Edge.mk 52 Go.Ground.phase, Go.Edge.mk 53 Go.Ground.phase, Go.Edge.mk 54 Go.Ground.phase] Option.none) (v := ?bf56_v) rfl (by kernel_rfl) (by kernel_rfl) (by kernel_rfl) (fun _ _ _ h => h) (Or.inl ⟨by rfl, ?bf56_y⟩) (by assumption) ?_
      case bf56_y => (intro w hSw; (try dsimp only at hSw); go_simp; (first | done | with_reducible rfl))
      try simp only [Act.put, List.setIfInBounds_toArray, List.set_cons_zero, List.set_cons_succ]
      refine wpAnyH_done (by kernel_rfl) ?_ _
      go_wp2_with fail
      go_ret
      exact ⟨rfl, bel_calls HB10.out HD9.out⟩
    · injection hh with hh1 hh2
      subst hh1 hh2
      have HLP : Box _ := ⟨hLP⟩
      clear HLay hLP
      have e1 : (LS.toList != LS.toList) = false := by simp
      have e0 : (LS.toList == LS.toList) = true := by simp
      have d0 := HK1.out.c0
      have d1 := HK1.out.c1
      go_wp2_with fail
      refine (HLP.out _).mono ?_
      rintro e wB ⟨rfl, hbB⟩
      have HBB : Box _ := ⟨bel_calls HB10.out hbB⟩
      replace HK1 : Box _ := ⟨HK1.out.below hbB⟩
      replace HK2 : Box _ := ⟨HK2.out.below hbB⟩
      replace HM10 : Box _ := ⟨HM10.out.below hbB⟩
      replace HU10 : Box _ := ⟨HU10.out.below hbB⟩
      replace HW10 : Box _ := ⟨HW10.out.below hbB⟩
      replace HB10 := HBB
      clear hbB d0 d1 HBB
      have KK : Box (∀ W, Below wB.heap.size wB W → W.cell? ⟨w.heap.size, 0, none⟩ = some (.int .i64 k1) ∧ W.cell? ⟨w.heap.size, 1, none⟩ = some (.string s1) ∧ W.cell? ⟨w.heap.size + 1, 0, none⟩ = some (.int .i64 k2) ∧ W.cell? ⟨w.heap.size + 1, 1, none⟩ = some (.string s2) ∧ W.cell? ⟨gu, 0, none⟩ = some (.int .i64 rk) ∧ W.cell? ⟨gu, 1, none⟩ = some (.string rs) ∧ W.cell? ⟨gv, 0, none⟩ = some (.int .i64 rk) ∧ W.cell? ⟨gv, 1, none⟩ = some (.string rs)) := ⟨fun W h => ⟨(HK1.out.below h).c0, (HK1.out.below h).c1, (HK2.out.below h).c0, (HK2.out.below h).c1, (HU10.out.below h).c0, (HU10.out.below h).c1, (HW10.out.below h).c0, (HW10.out.below h).c1⟩⟩
      have e2 : (rs.toList == rs.toList) = true := by simp
      have e3 : (X.toList == X.toList) = true := by simp
      go_wp2_with fail
      refine wp_region_held_drew (S := (fun w' => w'.cell? ⟨w.heap.size, 0, none⟩ = some (.int .i64 k1) ∧ w'.cell? ⟨w.heap.size, 1, none⟩ = some (.string s1) ∧ w'.cell? ⟨w.heap.size + 1, 0, none⟩ = some (.int .i64 k2) ∧ w'.cell? ⟨w.heap.size + 1, 1, none⟩ = some (.string s2) ∧ w'.cell? ⟨gu, 0, none⟩ = some (.int .i64 rk) ∧ w'.cell? ⟨gu, 1, none⟩ = some (.string rs) ∧ w'.cell? ⟨gv, 0, none⟩ = some (.int .i64 rk) ∧ w'.cell? ⟨gv, 1, none⟩ = some (.string rs))) (by kernel_rfl) ?btS (fun hHeld => ?_)
      case btS => first | (exact KK.out _ (bel_drew (Below.refl _ _))) | (dsimp only; exact KK.out _ (bel_drew (Below.refl _ _)))
      refine wpAnyH_take (i := 0) (oi := Go.Oper.mk (Option.some 116) (Go.Op.move (Go.Operand.tmp 0)) 3 "law.go:39" #[] Option.none) (v := ?bt1_v) rfl (by kernel_rfl) (by kernel_rfl) (by kernel_rfl) (fun _ _ _ h => h) (Or.inl ⟨by rfl, ?bt1_y⟩) (by assumption) ?_
      case bt1_y => (intro w hSw; (try dsimp only at hSw); go_simp; (first | done | with_reducible rfl))
      try simp only [Act.put, List.setIfInBounds_toArray, List.set_cons_zero, List.set_cons_succ]
      refine wpAnyH_take (i := 2) (oi := Go.Oper.mk (Option.some 118) (Go.Op.move (Go.Operand.tmp 14)) 3 "law.go:39" #[] Option.none) (v := ?bt2_v) rfl (by kernel_rfl) (by kernel_rfl) (by kernel_rfl) (fun _ _ _ h => h) (Or.inl ⟨by rfl, ?bt2_y⟩) (by assumption) ?_
      case bt2_y => (intro w hSw; (try dsimp only at hSw); go_simp; (first | done | with_reducible rfl))
      try simp only [Act.put, List.setIfInBounds_toArray, List.set_cons_zero, List.set_cons_succ]
      refine wpAnyH_ready (rs := [1]) (by kernel_rfl) (by simp) ?_
      refine AllReadyH.cons (i := 1) (o := Go.Oper.mk (Option.some 117) (Go.Op.call (Go.Call.mk (Go.Callee.value (Go.Operand.func 19)) #[Go.Operand.tmp 116] #[3])) 3 "law.go:39" #[Go.Edge.mk 0 Go.Ground.data] Option.none) rfl (fun K hK => ?_) AllReadyH.nil
      go_simp
      (refine (HN.out _).mono ?_; rintro e wn ⟨rfl, rfl⟩)
      go_wp2_with fail
      refine hK.out _ _ ?bt3_k1 (fun hHeld => ?_)
      case bt3_k1 => first | (exact KK.out _ (bel_drew (Below.refl _ _))) | (dsimp only; exact KK.out _ (bel_drew (Below.refl _ _)))
      clear hK K
      try simp only [Act.put, List.setIfInBounds_toArray, List.set_cons_zero, List.set_cons_succ]
      refine wpAnyH_take (i := 3) (oi := Go.Oper.mk (Option.some 119) (Go.Op.binOp Go.BinOp.eql 3 (Go.Operand.tmp 117) (Go.Operand.tmp 118) 3) 4 "law.go:39" #[Go.Edge.mk 1 Go.Ground.data, Go.Edge.mk 2 Go.Ground.data] Option.none) (v := ?bt4_v) rfl (by kernel_rfl) (by kernel_rfl) (by kernel_rfl) (fun _ _ _ h => h) (Or.inl ⟨by rfl, ?bt4_y⟩) (by assumption) ?_
      case bt4_y => (intro w hSw; (try dsimp only at hSw); go_simp; (first | done | with_reducible rfl))
      try simp only [Act.put, List.setIfInBounds_toArray, List.set_cons_zero, List.set_cons_succ]
      refine wpAnyH_take (i := 4) (oi := Go.Oper.mk (Option.some 120) (Go.Op.move (Go.Operand.tmp 119)) 4 "law.go:39" #[Go.Edge.mk 3 Go.Ground.data, Go.Edge.mk 1 Go.Ground.chain] Option.none) (v := ?bt5_v) rfl (by kernel_rfl) (by kernel_rfl) (by kernel_rfl) (fun _ _ _ h => h) (Or.inl ⟨by rfl, ?bt5_y⟩) (by assumption) ?_
      case bt5_y => (intro w hSw; (try dsimp only at hSw); go_simp; (first | done | with_reducible rfl))
      try simp only [Act.put, List.setIfInBounds_toArray, List.set_cons_zero, List.set_cons_succ]
      refine wpAnyH_take (i := 5) (oi := Go.Oper.mk (Option.some 121) (Go.Op.load 24 (Go.Operand.tmp 7)) 24 "law.go:39" #[Go.Edge.mk 4 Go.Ground.guard] (Option.some (4, Bool.true))) (v := ?bt6_v) rfl (by kernel_rfl) (by kernel_rfl) (by kernel_rfl) (fun _ _ _ h => h) (Or.inl ⟨by rfl, ?bt6_y⟩) (by assumption) ?_
      case bt6_y => (intro w hSw; (try dsimp only at hSw); go_simp; (first | done | with_reducible rfl))
      try simp only [Act.put, List.setIfInBounds_toArray, List.set_cons_zero, List.set_cons_succ]
      refine wpAnyH_take (i := 7) (oi := Go.Oper.mk (Option.some 123) (Go.Op.move (Go.Operand.tmp 17)) 4 "law.go:39" #[Go.Edge.mk 4 Go.Ground.guard] (Option.some (4, Bool.true))) (v := ?bt7_v) rfl (by kernel_rfl) (by kernel_rfl) (by kernel_rfl) (fun _ _ _ h => h) (Or.inl ⟨by rfl, ?bt7_y⟩) (by assumption) ?_
      case bt7_y => (intro w hSw; (try dsimp only at hSw); go_simp; (first | done | with_reducible rfl))
      try simp only [Act.put, List.setIfInBounds_toArray, List.set_cons_zero, List.set_cons_succ]
      refine wpAnyH_ready (rs := [6]) (by kernel_rfl) (by simp) ?_
      refine AllReadyH.cons (i := 6) (o := Go.Oper.mk (Option.some 122) (Go.Op.call (Go.Call.mk (Go.Callee.value (Go.Operand.func 20)) #[Go.Operand.tmp 121] #[24])) 4 "law.go:39" #[Go.Edge.mk 5 Go.Ground.data, Go.Edge.mk 4 Go.Ground.chain, Go.Edge.mk 4 Go.Ground.guard] (Option.some (4, Bool.true))) rfl (fun K hK => ?_) AllReadyH.nil
      go_simp
      (refine (HV.out _).mono ?_; rintro e wn1 ⟨rfl, hb⟩; have HD1 : Box _ := ⟨bel_calls (bel_drew (Below.refl _ _)) hb⟩; clear hb)
      go_wp2_with fail
      refine hK.out _ _ ?bt8_k6 (fun hHeld => ?_)
      case bt8_k6 => first | (exact KK.out _ HD1.out) | (dsimp only; exact KK.out _ HD1.out)
      clear hK K
      try simp only [Act.put, List.setIfInBounds_toArray, List.set_cons_zero, List.set_cons_succ]
      refine wpAnyH_take (i := 8) (oi := Go.Oper.mk (Option.some 124) (Go.Op.binOp Go.BinOp.eql 4 (Go.Operand.tmp 122) (Go.Operand.tmp 123) 4) 4 "law.go:39" #[Go.Edge.mk 6 Go.Ground.data, Go.Edge.mk 7 Go.Ground.data, Go.Edge.mk 4 Go.Ground.guard] (Option.some (4, Bool.true))) (v := ?bt9_v) rfl (by kernel_rfl) (by kernel_rfl) (by kernel_rfl) (fun _ _ _ h => h) (Or.inl ⟨by rfl, ?bt9_y⟩) (by assumption) ?_
      case bt9_y => (intro w hSw; (try dsimp only at hSw); go_simp; (first | done | with_reducible rfl))
      try simp only [Act.put, List.setIfInBounds_toArray, List.set_cons_zero, List.set_cons_succ]
      refine wpAnyH_take (i := 9) (oi := Go.Oper.mk (Option.some 125) (Go.Op.pick (Go.Operand.tmp 120) (Go.Operand.tmp 124) (Go.Operand.const (Go.Value.bool Bool.false))) 4 "law.go:39" #[Go.Edge.mk 4 Go.Ground.data, Go.Edge.mk 8 Go.Ground.data] Option.none) (v := ?bt10_v) rfl (by kernel_rfl) (by kernel_rfl) (by kernel_rfl) (fun _ _ _ h => h) (Or.inl ⟨by rfl, ?bt10_y⟩) (by assumption) ?_
      case bt10_y => (intro w hSw; (try dsimp only at hSw); go_simp; (first | done | with_reducible rfl))
      try simp only [Act.put, List.setIfInBounds_toArray, List.set_cons_zero, List.set_cons_succ]
      refine wpAnyH_take (i := 10) (oi := Go.Oper.mk (Option.some 126) (Go.Op.move (Go.Operand.tmp 125)) 4 "law.go:39" #[Go.Edge.mk 9 Go.Ground.data, Go.Edge.mk 6 Go.Ground.chain] Option.none) (v := ?bt11_v) rfl (by kernel_rfl) (by kernel_rfl) (by kernel_rfl) (fun _ _ _ h => h) (Or.inl ⟨by rfl, ?bt11_y⟩) (by assumption) ?_
      case bt11_y => (intro w hSw; (try dsimp only at hSw); go_simp; (first | done | with_reducible rfl))
      try simp only [Act.put, List.setIfInBounds_toArray, List.set_cons_zero, List.set_cons_succ]
      refine wpAnyH_take (i := 11) (oi := Go.Oper.mk (Option.some 127) (Go.Op.load 24 (Go.Operand.tmp 18)) 24 "law.go:39" #[Go.Edge.mk 10 Go.Ground.guard] (Option.some (10, Bool.true))) (v := ?bt12_v) rfl (by kernel_rfl) (by kernel_rfl) (by kernel_rfl) (fun _ _ _ h => h) (Or.inl ⟨by rfl, ?bt12_y⟩) (by assumption) ?_
      case bt12_y => (intro w hSw; (try dsimp only at hSw); go_simp; (first | done | with_reducible rfl))
      try simp only [Act.put, List.setIfInBounds_toArray, List.set_cons_zero, List.set_cons_succ]
      refine wpAnyH_take (i := 12) (oi := Go.Oper.mk (Option.some 128) (Go.Op.load 24 (Go.Operand.tmp 20)) 24 "law.go:39" #[Go.Edge.mk 10 Go.Ground.guard] (Option.some (10, Bool.true))) (v := ?bt13_v) rfl (by kernel_rfl) (by kernel_rfl) (by kernel_rfl) (fun _ _ _ h => h) (Or.inl ⟨by rfl, ?bt13_y⟩) (by assumption) ?_
      case bt13_y => (intro w hSw; (try dsimp only at hSw); go_simp; (first | done | with_reducible rfl))
      try simp only [Act.put, List.setIfInBounds_toArray, List.set_cons_zero, List.set_cons_succ]
      refine wpAnyH_take (i := 13) (oi := Go.Oper.mk (Option.some 129) (Go.Op.binOp Go.BinOp.eql 24 (Go.Operand.tmp 127) (Go.Operand.tmp 128) 24) 4 "law.go:39" #[Go.Edge.mk 11 Go.Ground.data, Go.Edge.mk 12 Go.Ground.data, Go.Edge.mk 10 Go.Ground.guard] (Option.some (10, Bool.true))) (v := ?bt14_v) rfl (by kernel_rfl) (by kernel_rfl) (by kernel_rfl) (fun _ _ _ h => h) (Or.inl ⟨by rfl, ?bt14_y⟩) (by assumption) ?_
      case bt14_y => (intro w hSw; (try dsimp only at hSw); go_simp; (first | done | with_reducible rfl))
      try simp only [Act.put, List.setIfInBounds_toArray, List.set_cons_zero, List.set_cons_succ]
      refine wpAnyH_take (i := 14) (oi := Go.Oper.mk (Option.some 130) (Go.Op.pick (Go.Operand.tmp 126) (Go.Operand.tmp 129) (Go.Operand.const (Go.Value.bool Bool.false))) 4 "law.go:39" #[Go.Edge.mk 10 Go.Ground.data, Go.Edge.mk 13 Go.Ground.data] Option.none) (v := ?bt15_v) rfl (by kernel_rfl) (by kernel_rfl) (by kernel_rfl) (fun _ _ _ h => h) (Or.inl ⟨by rfl, ?bt15_y⟩) (by assumption) ?_
      case bt15_y => (intro w hSw; (try dsimp only at hSw); go_simp; (first | done | with_reducible rfl))
      try simp only [Act.put, List.setIfInBounds_toArray, List.set_cons_zero, List.set_cons_succ]
      refine wpAnyH_take (i := 15) (oi := Go.Oper.mk (Option.some 131) (Go.Op.move (Go.Operand.tmp 130)) 4 "law.go:39" #[Go.Edge.mk 14 Go.Ground.data, Go.Edge.mk 10 Go.Ground.chain] Option.none) (v := ?bt16_v) rfl (by kernel_rfl) (by kernel_rfl) (by kernel_rfl) (fun _ _ _ h => h) (Or.inl ⟨by rfl, ?bt16_y⟩) (by assumption) ?_
      case bt16_y => (intro w hSw; (try dsimp only at hSw); go_simp; (first | done | with_reducible rfl))
      try simp only [Act.put, List.setIfInBounds_toArray, List.set_cons_zero, List.set_cons_succ]
      refine wpAnyH_take (i := 16) (oi := Go.Oper.mk (Option.some 132) (Go.Op.move (Go.Operand.tmp 19)) 25 "law.go:39" #[Go.Edge.mk 15 Go.Ground.guard] (Option.some (15, Bool.true))) (v := ?bt17_v) rfl (by kernel_rfl) (by kernel_rfl) (by kernel_rfl) (fun _ _ _ h => h) (Or.inl ⟨by rfl, ?bt17_y⟩) (by assumption) ?_
      case bt17_y => (intro w hSw; (try dsimp only at hSw); go_simp; (first | done | with_reducible rfl))
      try simp only [Act.put, List.setIfInBounds_toArray, List.set_cons_zero, List.set_cons_succ]
      refine wpAnyH_take (i := 17) (oi := Go.Oper.mk (Option.some 133) (Go.Op.move (Go.Operand.tmp 21)) 25 "law.go:39" #[Go.Edge.mk 15 Go.Ground.guard] (Option.some (15, Bool.true))) (v := ?bt18_v) rfl (by kernel_rfl) (by kernel_rfl) (by kernel_rfl) (fun _ _ _ h => h) (Or.inl ⟨by rfl, ?bt18_y⟩) (by assumption) ?_
      case bt18_y => (intro w hSw; (try dsimp only at hSw); go_simp; (first | done | with_reducible rfl))
      try simp only [Act.put, List.setIfInBounds_toArray, List.set_cons_zero, List.set_cons_succ]
      refine wpAnyH_take (i := 18) (oi := Go.Oper.mk (Option.some 134) (Go.Op.binOp Go.BinOp.eql 25 (Go.Operand.tmp 132) (Go.Operand.tmp 133) 25) 4 "law.go:39" #[Go.Edge.mk 16 Go.Ground.data, Go.Edge.mk 17 Go.Ground.data, Go.Edge.mk 15 Go.Ground.guard] (Option.some (15, Bool.true))) (v := ?bt19_v) rfl (by kernel_rfl) (by kernel_rfl) (by kernel_rfl) (fun _ _ _ h => h) (Or.inl ⟨by rfl, ?bt19_y⟩) (by assumption) ?_
      case bt19_y => (intro w hSw; (try dsimp only at hSw); go_simp; (first | done | with_reducible rfl))
      try simp only [Act.put, List.setIfInBounds_toArray, List.set_cons_zero, List.set_cons_succ]
      refine wpAnyH_take (i := 19) (oi := Go.Oper.mk (Option.some 135) (Go.Op.pick (Go.Operand.tmp 131) (Go.Operand.tmp 134) (Go.Operand.const (Go.Value.bool Bool.false))) 4 "law.go:39" #[Go.Edge.mk 15 Go.Ground.data, Go.Edge.mk 18 Go.Ground.data] Option.none) (v := ?bt20_v) rfl (by kernel_rfl) (by kernel_rfl) (by kernel_rfl) (fun _ _ _ h => h) (Or.inl ⟨by rfl, ?bt20_y⟩) (by assumption) ?_
      case bt20_y => (intro w hSw; (try dsimp only at hSw); go_simp; (first | done | with_reducible rfl))
      try simp only [Act.put, List.setIfInBounds_toArray, List.set_cons_zero, List.set_cons_succ]
      refine wpAnyH_take (i := 20) (oi := Go.Oper.mk (Option.some 136) (Go.Op.move (Go.Operand.tmp 135)) 4 "law.go:39" #[Go.Edge.mk 19 Go.Ground.data, Go.Edge.mk 15 Go.Ground.chain] Option.none) (v := ?bt21_v) rfl (by kernel_rfl) (by kernel_rfl) (by kernel_rfl) (fun _ _ _ h => h) (Or.inl ⟨by rfl, ?bt21_y⟩) (by assumption) ?_
      case bt21_y => (intro w hSw; (try dsimp only at hSw); go_simp; (first | done | with_reducible rfl))
      try simp only [Act.put, List.setIfInBounds_toArray, List.set_cons_zero, List.set_cons_succ]
      refine wpAnyH_take (i := 21) (oi := Go.Oper.mk (Option.some 137) (Go.Op.load 24 (Go.Operand.tmp 7)) 24 "law.go:39" #[Go.Edge.mk 20 Go.Ground.guard] (Option.some (20, Bool.true))) (v := ?bt22_v) rfl (by kernel_rfl) (by kernel_rfl) (by kernel_rfl) (fun _ _ _ h => h) (Or.inl ⟨by rfl, ?bt22_y⟩) (by assumption) ?_
      case bt22_y => (intro w hSw; (try dsimp only at hSw); go_simp; (first | done | with_reducible rfl))
      try simp only [Act.put, List.setIfInBounds_toArray, List.set_cons_zero, List.set_cons_succ]
      refine wpAnyH_take (i := 22) (oi := Go.Oper.mk (Option.some 138) (Go.Op.load 24 (Go.Operand.tmp 8)) 24 "law.go:39" #[Go.Edge.mk 20 Go.Ground.guard] (Option.some (20, Bool.true))) (v := ?bt23_v) rfl (by kernel_rfl) (by kernel_rfl) (by kernel_rfl) (fun _ _ _ h => h) (Or.inl ⟨by rfl, ?bt23_y⟩) (by assumption) ?_
      case bt23_y => (intro w hSw; (try dsimp only at hSw); go_simp; (first | done | with_reducible rfl))
      try simp only [Act.put, List.setIfInBounds_toArray, List.set_cons_zero, List.set_cons_succ]
      refine wpAnyH_take (i := 24) (oi := Go.Oper.mk (Option.some 140) (Go.Op.load 24 (Go.Operand.tmp 7)) 24 "law.go:39" #[Go.Edge.mk 20 Go.Ground.guard] (Option.some (20, Bool.true))) (v := ?bt24_v) rfl (by kernel_rfl) (by kernel_rfl) (by kernel_rfl) (fun _ _ _ h => h) (Or.inl ⟨by rfl, ?bt24_y⟩) (by assumption) ?_
      case bt24_y => (intro w hSw; (try dsimp only at hSw); go_simp; (first | done | with_reducible rfl))
      try simp only [Act.put, List.setIfInBounds_toArray, List.set_cons_zero, List.set_cons_succ]
      refine wpAnyH_take (i := 25) (oi := Go.Oper.mk (Option.some 141) (Go.Op.load 24 (Go.Operand.tmp 8)) 24 "law.go:39" #[Go.Edge.mk 20 Go.Ground.guard] (Option.some (20, Bool.true))) (v := ?bt25_v) rfl (by kernel_rfl) (by kernel_rfl) (by kernel_rfl) (fun _ _ _ h => h) (Or.inl ⟨by rfl, ?bt25_y⟩) (by assumption) ?_
      case bt25_y => (intro w hSw; (try dsimp only at hSw); go_simp; (first | done | with_reducible rfl))
      try simp only [Act.put, List.setIfInBounds_toArray, List.set_cons_zero, List.set_cons_succ]
      refine wpAnyH_ready (rs := [23]) (by kernel_rfl) (by simp) ?_
      refine AllReadyH.cons (i := 23) (o := Go.Oper.mk (Option.some 139) (Go.Op.call (Go.Call.mk (Go.Callee.value (Go.Operand.func 11)) #[Go.Operand.tmp 137, Go.Operand.tmp 138] #[24, 24])) 3 "law.go:39" #[Go.Edge.mk 21 Go.Ground.data, Go.Edge.mk 22 Go.Ground.data, Go.Edge.mk 20 Go.Ground.chain, Go.Edge.mk 20 Go.Ground.guard] (Option.some (20, Bool.true))) rfl (fun K hK => ?_) AllReadyH.nil
      go_simp
      (refine (HC.out _).mono ?_; rintro e wn2 ⟨rfl, hb⟩; have HD2 : Box _ := ⟨bel_calls HD1.out hb⟩; clear hb)
      go_wp2_with fail
      refine hK.out _ _ ?bt26_k23 (fun hHeld => ?_)
      case bt26_k23 => first | (exact KK.out _ HD2.out) | (dsimp only; exact KK.out _ HD2.out)
      clear hK K
      try simp only [Act.put, List.setIfInBounds_toArray, List.set_cons_zero, List.set_cons_succ]
      refine wpAnyH_ready (rs := [26]) (by kernel_rfl) (by simp) ?_
      refine AllReadyH.cons (i := 26) (o := Go.Oper.mk (Option.some 142) (Go.Op.call (Go.Call.mk (Go.Callee.value (Go.Operand.func 21)) #[Go.Operand.tmp 140, Go.Operand.tmp 141] #[24, 24])) 3 "law.go:39" #[Go.Edge.mk 24 Go.Ground.data, Go.Edge.mk 25 Go.Ground.data, Go.Edge.mk 23 Go.Ground.chain, Go.Edge.mk 20 Go.Ground.guard] (Option.some (20, Bool.true))) rfl (fun K hK => ?_) AllReadyH.nil
      go_simp
      (refine (HCr.out _).mono ?_; rintro e wn3 ⟨rfl, hb⟩; have HD3 : Box _ := ⟨bel_calls HD2.out hb⟩; clear hb)
      go_wp2_with fail
      refine hK.out _ _ ?bt27_k26 (fun hHeld => ?_)
      case bt27_k26 => first | (exact KK.out _ HD3.out) | (dsimp only; exact KK.out _ HD3.out)
      clear hK K
      try simp only [Act.put, List.setIfInBounds_toArray, List.set_cons_zero, List.set_cons_succ]
      refine wpAnyH_take (i := 27) (oi := Go.Oper.mk (Option.some 143) (Go.Op.binOp Go.BinOp.eql 3 (Go.Operand.tmp 139) (Go.Operand.tmp 142) 3) 4 "law.go:39" #[Go.Edge.mk 23 Go.Ground.data, Go.Edge.mk 26 Go.Ground.data, Go.Edge.mk 20 Go.Ground.guard] (Option.some (20, Bool.true))) (v := ?bt28_v) rfl (by kernel_rfl) (by kernel_rfl) (by kernel_rfl) (fun _ _ _ h => h) (Or.inl ⟨by rfl, ?bt28_y⟩) (by assumption) ?_
      case bt28_y => (intro w hSw; (try dsimp only at hSw); go_simp; (first | done | with_reducible rfl))
      try simp only [Act.put, List.setIfInBounds_toArray, List.set_cons_zero, List.set_cons_succ]
      refine wpAnyH_take (i := 28) (oi := Go.Oper.mk (Option.some 144) (Go.Op.pick (Go.Operand.tmp 136) (Go.Operand.tmp 143) (Go.Operand.const (Go.Value.bool Bool.false))) 4 "law.go:39" #[Go.Edge.mk 20 Go.Ground.data, Go.Edge.mk 27 Go.Ground.data] Option.none) (v := ?bt29_v) rfl (by kernel_rfl) (by kernel_rfl) (by kernel_rfl) (fun _ _ _ h => h) (Or.inl ⟨by rfl, ?bt29_y⟩) (by assumption) ?_
      case bt29_y => (intro w hSw; (try dsimp only at hSw); go_simp; (first | done | with_reducible rfl))
      try simp only [Act.put, List.setIfInBounds_toArray, List.set_cons_zero, List.set_cons_succ]
      refine wpAnyH_take (i := 29) (oi := Go.Oper.mk (Option.some 145) (Go.Op.move (Go.Operand.tmp 144)) 4 "law.go:39" #[Go.Edge.mk 28 Go.Ground.data, Go.Edge.mk 26 Go.Ground.chain] Option.none) (v := ?bt30_v) rfl (by kernel_rfl) (by kernel_rfl) (by kernel_rfl) (fun _ _ _ h => h) (Or.inl ⟨by rfl, ?bt30_y⟩) (by assumption) ?_
      case bt30_y => (intro w hSw; (try dsimp only at hSw); go_simp; (first | done | with_reducible rfl))
      try simp only [Act.put, List.setIfInBounds_toArray, List.set_cons_zero, List.set_cons_succ]
      refine wpAnyH_take (i := 30) (oi := Go.Oper.mk (Option.some 146) (Go.Op.load 24 (Go.Operand.tmp 7)) 24 "law.go:39" #[Go.Edge.mk 29 Go.Ground.guard] (Option.some (29, Bool.true))) (v := ?bt31_v) rfl (by kernel_rfl) (by kernel_rfl) (by kernel_rfl) (fun _ _ _ h => h) (Or.inl ⟨by rfl, ?bt31_y⟩) (by assumption) ?_
      case bt31_y => (intro w hSw; (try dsimp only at hSw); go_simp; (first | done | with_reducible rfl))
      try simp only [Act.put, List.setIfInBounds_toArray, List.set_cons_zero, List.set_cons_succ]
      refine wpAnyH_take (i := 31) (oi := Go.Oper.mk (Option.some 147) (Go.Op.load 24 (Go.Operand.tmp 7)) 24 "law.go:39" #[Go.Edge.mk 29 Go.Ground.guard] (Option.some (29, Bool.true))) (v := ?bt32_v) rfl (by kernel_rfl) (by kernel_rfl) (by kernel_rfl) (fun _ _ _ h => h) (Or.inl ⟨by rfl, ?bt32_y⟩) (by assumption) ?_
      case bt32_y => (intro w hSw; (try dsimp only at hSw); go_simp; (first | done | with_reducible rfl))
      try simp only [Act.put, List.setIfInBounds_toArray, List.set_cons_zero, List.set_cons_succ]
      refine wpAnyH_ready (rs := [32]) (by kernel_rfl) (by simp) ?_
      refine AllReadyH.cons (i := 32) (o := Go.Oper.mk (Option.some 148) (Go.Op.call (Go.Call.mk (Go.Callee.value (Go.Operand.func 11)) #[Go.Operand.tmp 146, Go.Operand.tmp 147] #[24, 24])) 3 "law.go:39" #[Go.Edge.mk 30 Go.Ground.data, Go.Edge.mk 31 Go.Ground.data, Go.Edge.mk 29 Go.Ground.chain, Go.Edge.mk 29 Go.Ground.guard] (Option.some (29, Bool.true))) rfl (fun K hK => ?_) AllReadyH.nil
      go_simp
      (refine (HC1.out _).mono ?_; rintro e wn4 ⟨rfl, hb⟩; have HD4 : Box _ := ⟨bel_calls HD3.out hb⟩; clear hb)
      go_wp2_with fail
      refine hK.out _ _ ?bt33_k32 (fun hHeld => ?_)
      case bt33_k32 => first | (exact KK.out _ HD4.out) | (dsimp only; exact KK.out _ HD4.out)
      clear hK K
      try simp only [Act.put, List.setIfInBounds_toArray, List.set_cons_zero, List.set_cons_succ]
      refine wpAnyH_take (i := 33) (oi := Go.Oper.mk (Option.some 149) (Go.Op.binOp Go.BinOp.eql 3 (Go.Operand.tmp 148) (Go.Operand.const (Go.Value.int Go.IntKind.i64 0)) 3) 4 "law.go:39" #[Go.Edge.mk 32 Go.Ground.data, Go.Edge.mk 29 Go.Ground.guard] (Option.some (29, Bool.true))) (v := ?bt34_v) rfl (by kernel_rfl) (by kernel_rfl) (by kernel_rfl) (fun _ _ _ h => h) (Or.inl ⟨by rfl, ?bt34_y⟩) (by assumption) ?_
      case bt34_y => (intro w hSw; (try dsimp only at hSw); go_simp; (first | done | with_reducible rfl))
      try simp only [Act.put, List.setIfInBounds_toArray, List.set_cons_zero, List.set_cons_succ]
      refine wpAnyH_take (i := 34) (oi := Go.Oper.mk (Option.some 150) (Go.Op.pick (Go.Operand.tmp 145) (Go.Operand.tmp 149) (Go.Operand.const (Go.Value.bool Bool.false))) 4 "law.go:39" #[Go.Edge.mk 29 Go.Ground.data, Go.Edge.mk 33 Go.Ground.data] Option.none) (v := ?bt35_v) rfl (by kernel_rfl) (by kernel_rfl) (by kernel_rfl) (fun _ _ _ h => h) (Or.inl ⟨by rfl, ?bt35_y⟩) (by assumption) ?_
      case bt35_y => (intro w hSw; (try dsimp only at hSw); go_simp; (first | done | with_reducible rfl))
      try simp only [Act.put, List.setIfInBounds_toArray, List.set_cons_zero, List.set_cons_succ]
      refine wpAnyH_take (i := 35) (oi := Go.Oper.mk (Option.some 151) (Go.Op.move (Go.Operand.tmp 150)) 4 "law.go:39" #[Go.Edge.mk 34 Go.Ground.data, Go.Edge.mk 32 Go.Ground.chain] Option.none) (v := ?bt36_v) rfl (by kernel_rfl) (by kernel_rfl) (by kernel_rfl) (fun _ _ _ h => h) (Or.inl ⟨by rfl, ?bt36_y⟩) (by assumption) ?_
      case bt36_y => (intro w hSw; (try dsimp only at hSw); go_simp; (first | done | with_reducible rfl))
      try simp only [Act.put, List.setIfInBounds_toArray, List.set_cons_zero, List.set_cons_succ]
      refine wpAnyH_take (i := 36) (oi := Go.Oper.mk (Option.some 152) (Go.Op.load 24 (Go.Operand.tmp 7)) 24 "law.go:39" #[Go.Edge.mk 35 Go.Ground.guard] (Option.some (35, Bool.true))) (v := ?bt37_v) rfl (by kernel_rfl) (by kernel_rfl) (by kernel_rfl) (fun _ _ _ h => h) (Or.inl ⟨by rfl, ?bt37_y⟩) (by assumption) ?_
      case bt37_y => (intro w hSw; (try dsimp only at hSw); go_simp; (first | done | with_reducible rfl))
      try simp only [Act.put, List.setIfInBounds_toArray, List.set_cons_zero, List.set_cons_succ]
      refine wpAnyH_take (i := 38) (oi := Go.Oper.mk (Option.some 154) (Go.Op.load 24 (Go.Operand.tmp 7)) 24 "law.go:39" #[Go.Edge.mk 35 Go.Ground.guard] (Option.some (35, Bool.true))) (v := ?bt38_v) rfl (by kernel_rfl) (by kernel_rfl) (by kernel_rfl) (fun _ _ _ h => h) (Or.inl ⟨by rfl, ?bt38_y⟩) (by assumption) ?_
      case bt38_y => (intro w hSw; (try dsimp only at hSw); go_simp; (first | done | with_reducible rfl))
      try simp only [Act.put, List.setIfInBounds_toArray, List.set_cons_zero, List.set_cons_succ]
      refine wpAnyH_ready (rs := [37]) (by kernel_rfl) (by simp) ?_
      refine AllReadyH.cons (i := 37) (o := Go.Oper.mk (Option.some 153) (Go.Op.call (Go.Call.mk (Go.Callee.value (Go.Operand.func 22)) #[Go.Operand.tmp 152] #[24])) 3 "law.go:39" #[Go.Edge.mk 36 Go.Ground.data, Go.Edge.mk 35 Go.Ground.chain, Go.Edge.mk 35 Go.Ground.guard] (Option.some (35, Bool.true))) rfl (fun K hK => ?_) AllReadyH.nil
      go_simp
      (refine (HH.out _).mono ?_; rintro e wn5 ⟨rfl, hb⟩; have HD5 : Box _ := ⟨bel_calls HD4.out hb⟩; clear hb)
      go_wp2_with fail
      refine hK.out _ _ ?bt39_k37 (fun hHeld => ?_)
      case bt39_k37 => first | (exact KK.out _ HD5.out) | (dsimp only; exact KK.out _ HD5.out)
      clear hK K
      try simp only [Act.put, List.setIfInBounds_toArray, List.set_cons_zero, List.set_cons_succ]
      refine wpAnyH_ready (rs := [39]) (by kernel_rfl) (by simp) ?_
      refine AllReadyH.cons (i := 39) (o := Go.Oper.mk (Option.some 155) (Go.Op.call (Go.Call.mk (Go.Callee.value (Go.Operand.func 23)) #[Go.Operand.tmp 154] #[24])) 3 "law.go:39" #[Go.Edge.mk 38 Go.Ground.data, Go.Edge.mk 37 Go.Ground.chain, Go.Edge.mk 35 Go.Ground.guard] (Option.some (35, Bool.true))) rfl (fun K hK => ?_) AllReadyH.nil
      go_simp
      (refine (HHr.out _).mono ?_; rintro e wn6 ⟨rfl, hb⟩; have HD6 : Box _ := ⟨bel_calls HD5.out hb⟩; clear hb)
      go_wp2_with fail
      refine hK.out _ _ ?bt40_k39 (fun hHeld => ?_)
      case bt40_k39 => first | (exact KK.out _ HD6.out) | (dsimp only; exact KK.out _ HD6.out)
      clear hK K
      try simp only [Act.put, List.setIfInBounds_toArray, List.set_cons_zero, List.set_cons_succ]
      refine wpAnyH_take (i := 40) (oi := Go.Oper.mk (Option.some 156) (Go.Op.binOp Go.BinOp.eql 3 (Go.Operand.tmp 153) (Go.Operand.tmp 155) 3) 4 "law.go:39" #[Go.Edge.mk 37 Go.Ground.data, Go.Edge.mk 39 Go.Ground.data, Go.Edge.mk 35 Go.Ground.guard] (Option.some (35, Bool.true))) (v := ?bt41_v) rfl (by kernel_rfl) (by kernel_rfl) (by kernel_rfl) (fun _ _ _ h => h) (Or.inl ⟨by rfl, ?bt41_y⟩) (by assumption) ?_
      case bt41_y => (intro w hSw; (try dsimp only at hSw); go_simp; (first | done | with_reducible rfl))
      try simp only [Act.put, List.setIfInBounds_toArray, List.set_cons_zero, List.set_cons_succ]
      refine wpAnyH_take (i := 41) (oi := Go.Oper.mk (Option.some 157) (Go.Op.pick (Go.Operand.tmp 151) (Go.Operand.tmp 156) (Go.Operand.const (Go.Value.bool Bool.false))) 4 "law.go:39" #[Go.Edge.mk 35 Go.Ground.data, Go.Edge.mk 40 Go.Ground.data] Option.none) (v := ?bt42_v) rfl (by kernel_rfl) (by kernel_rfl) (by kernel_rfl) (fun _ _ _ h => h) (Or.inl ⟨by rfl, ?bt42_y⟩) (by assumption) ?_
      case bt42_y => (intro w hSw; (try dsimp only at hSw); go_simp; (first | done | with_reducible rfl))
      try simp only [Act.put, List.setIfInBounds_toArray, List.set_cons_zero, List.set_cons_succ]
      refine wpAnyH_take (i := 42) (oi := Go.Oper.mk (Option.some 158) (Go.Op.move (Go.Operand.tmp 157)) 4 "law.go:39" #[Go.Edge.mk 41 Go.Ground.data, Go.Edge.mk 39 Go.Ground.chain] Option.none) (v := ?bt43_v) rfl (by kernel_rfl) (by kernel_rfl) (by kernel_rfl) (fun _ _ _ h => h) (Or.inl ⟨by rfl, ?bt43_y⟩) (by assumption) ?_
      case bt43_y => (intro w hSw; (try dsimp only at hSw); go_simp; (first | done | with_reducible rfl))
      try simp only [Act.put, List.setIfInBounds_toArray, List.set_cons_zero, List.set_cons_succ]
      refine wpAnyH_take (i := 43) (oi := Go.Oper.mk (Option.some 159) (Go.Op.load 24 (Go.Operand.tmp 7)) 24 "law.go:39" #[Go.Edge.mk 42 Go.Ground.guard] (Option.some (42, Bool.true))) (v := ?bt44_v) rfl (by kernel_rfl) (by kernel_rfl) (by kernel_rfl) (fun _ _ _ h => h) (Or.inl ⟨by rfl, ?bt44_y⟩) (by assumption) ?_
      case bt44_y => (intro w hSw; (try dsimp only at hSw); go_simp; (first | done | with_reducible rfl))
      try simp only [Act.put, List.setIfInBounds_toArray, List.set_cons_zero, List.set_cons_succ]
      refine wpAnyH_take (i := 45) (oi := Go.Oper.mk (Option.some 161) (Go.Op.fieldAddr 24 (Go.Operand.tmp 7) 1) 0 "law.go:39" #[Go.Edge.mk 42 Go.Ground.guard] (Option.some (42, Bool.true))) (v := ?bt45_v) rfl (by kernel_rfl) (by kernel_rfl) (by kernel_rfl) (fun _ _ _ h => h) (Or.inl ⟨by rfl, ?bt45_y⟩) (by assumption) ?_
      case bt45_y => (intro w hSw; (try dsimp only at hSw); go_simp; (first | done | with_reducible rfl))
      try simp only [Act.put, List.setIfInBounds_toArray, List.set_cons_zero, List.set_cons_succ]
      refine wpAnyH_take (i := 46) (oi := Go.Oper.mk (Option.some 162) (Go.Op.load 9 (Go.Operand.tmp 161)) 9 "law.go:39" #[Go.Edge.mk 45 Go.Ground.data, Go.Edge.mk 42 Go.Ground.guard] (Option.some (42, Bool.true))) (v := ?bt46_v) rfl (by kernel_rfl) (by kernel_rfl) (by kernel_rfl) (fun _ _ _ h => h) (Or.inl ⟨by rfl, ?bt46_y⟩) (by assumption) ?_
      case bt46_y => (intro w hSw; (try dsimp only at hSw); go_simp; (first | done | with_reducible rfl))
      try simp only [Act.put, List.setIfInBounds_toArray, List.set_cons_zero, List.set_cons_succ]
      refine wpAnyH_ready (rs := [44]) (by kernel_rfl) (by simp) ?_
      refine AllReadyH.cons (i := 44) (o := Go.Oper.mk (Option.some 160) (Go.Op.call (Go.Call.mk (Go.Callee.value (Go.Operand.func 24)) #[Go.Operand.tmp 159] #[24])) 9 "law.go:39" #[Go.Edge.mk 43 Go.Ground.data, Go.Edge.mk 42 Go.Ground.chain, Go.Edge.mk 42 Go.Ground.guard] (Option.some (42, Bool.true))) rfl (fun K hK => ?_) AllReadyH.nil
      go_simp
      (refine (HT.out _).mono ?_; rintro e wn7 ⟨rfl, hb⟩; have HD7 : Box _ := ⟨bel_calls HD6.out hb⟩; clear hb)
      go_wp2_with fail
      refine hK.out _ _ ?bt47_k44 (fun hHeld => ?_)
      case bt47_k44 => first | (exact KK.out _ HD7.out) | (dsimp only; exact KK.out _ HD7.out)
      clear hK K
      try simp only [Act.put, List.setIfInBounds_toArray, List.set_cons_zero, List.set_cons_succ]
      refine wpAnyH_ready (rs := [47]) (by kernel_rfl) (by simp) ?_
      refine AllReadyH.cons (i := 47) (o := Go.Oper.mk (Option.some 163) (Go.Op.call (Go.Call.mk (Go.Callee.value (Go.Operand.func 25)) #[Go.Operand.tmp 162] #[9])) 9 "law.go:39" #[Go.Edge.mk 46 Go.Ground.data, Go.Edge.mk 44 Go.Ground.chain, Go.Edge.mk 42 Go.Ground.guard] (Option.some (42, Bool.true))) rfl (fun K hK => ?_) AllReadyH.nil
      go_simp
      (refine (HX.out _).mono ?_; rintro e wn8 ⟨rfl, hb⟩; have HD8 : Box _ := ⟨bel_calls HD7.out hb⟩; clear hb)
      go_wp2_with fail
      refine hK.out _ _ ?bt48_k47 (fun hHeld => ?_)
      case bt48_k47 => first | (exact KK.out _ HD8.out) | (dsimp only; exact KK.out _ HD8.out)
      clear hK K
      try simp only [Act.put, List.setIfInBounds_toArray, List.set_cons_zero, List.set_cons_succ]
      refine wpAnyH_take (i := 48) (oi := Go.Oper.mk (Option.some 164) (Go.Op.binOp Go.BinOp.eql 9 (Go.Operand.tmp 160) (Go.Operand.tmp 163) 9) 4 "law.go:39" #[Go.Edge.mk 44 Go.Ground.data, Go.Edge.mk 47 Go.Ground.data, Go.Edge.mk 42 Go.Ground.guard] (Option.some (42, Bool.true))) (v := ?bt49_v) rfl (by kernel_rfl) (by kernel_rfl) (by kernel_rfl) (fun _ _ _ h => h) (Or.inl ⟨by rfl, ?bt49_y⟩) (by assumption) ?_
      case bt49_y => (intro w hSw; (try dsimp only at hSw); go_simp; (first | done | with_reducible rfl))
      try simp only [Act.put, List.setIfInBounds_toArray, List.set_cons_zero, List.set_cons_succ]
      refine wpAnyH_take (i := 49) (oi := Go.Oper.mk (Option.some 165) (Go.Op.pick (Go.Operand.tmp 158) (Go.Operand.tmp 164) (Go.Operand.const (Go.Value.bool Bool.false))) 4 "law.go:39" #[Go.Edge.mk 42 Go.Ground.data, Go.Edge.mk 48 Go.Ground.data] Option.none) (v := ?bt50_v) rfl (by kernel_rfl) (by kernel_rfl) (by kernel_rfl) (fun _ _ _ h => h) (Or.inl ⟨by rfl, ?bt50_y⟩) (by assumption) ?_
      case bt50_y => (intro w hSw; (try dsimp only at hSw); go_simp; (first | done | with_reducible rfl))
      try simp only [Act.put, List.setIfInBounds_toArray, List.set_cons_zero, List.set_cons_succ]
      refine wpAnyH_take (i := 50) (oi := Go.Oper.mk (Option.some 166) (Go.Op.move (Go.Operand.tmp 165)) 4 "law.go:39" #[Go.Edge.mk 49 Go.Ground.data, Go.Edge.mk 47 Go.Ground.chain] Option.none) (v := ?bt51_v) rfl (by kernel_rfl) (by kernel_rfl) (by kernel_rfl) (fun _ _ _ h => h) (Or.inl ⟨by rfl, ?bt51_y⟩) (by assumption) ?_
      case bt51_y => (intro w hSw; (try dsimp only at hSw); go_simp; (first | done | with_reducible rfl))
      try simp only [Act.put, List.setIfInBounds_toArray, List.set_cons_zero, List.set_cons_succ]
      refine wpAnyH_take (i := 51) (oi := Go.Oper.mk (Option.some 167) (Go.Op.move (Go.Operand.tmp 11)) 36 "law.go:39" #[Go.Edge.mk 50 Go.Ground.guard] (Option.some (50, Bool.true))) (v := ?bt52_v) rfl (by kernel_rfl) (by kernel_rfl) (by kernel_rfl) (fun _ _ _ h => h) (Or.inl ⟨by rfl, ?bt52_y⟩) (by assumption) ?_
      case bt52_y => (intro w hSw; (try dsimp only at hSw); go_simp; (first | done | with_reducible rfl))
      try simp only [Act.put, List.setIfInBounds_toArray, List.set_cons_zero, List.set_cons_succ]
      refine wpAnyH_take (i := 52) (oi := Go.Oper.mk (Option.some 168) (Go.Op.move (Go.Operand.tmp 1)) 36 "law.go:39" #[Go.Edge.mk 50 Go.Ground.guard] (Option.some (50, Bool.true))) (v := ?bt53_v) rfl (by kernel_rfl) (by kernel_rfl) (by kernel_rfl) (fun _ _ _ h => h) (Or.inl ⟨by rfl, ?bt53_y⟩) (by assumption) ?_
      case bt53_y => (intro w hSw; (try dsimp only at hSw); go_simp; (first | done | with_reducible rfl))
      try simp only [Act.put, List.setIfInBounds_toArray, List.set_cons_zero, List.set_cons_succ]
      refine wpAnyH_ready (rs := [53]) (by kernel_rfl) (by simp) ?_
      refine AllReadyH.cons (i := 53) (o := Go.Oper.mk (Option.some 169) (Go.Op.call (Go.Call.mk (Go.Callee.value (Go.Operand.func 26)) #[Go.Operand.tmp 167, Go.Operand.tmp 168] #[36, 36])) 4 "law.go:39" #[Go.Edge.mk 51 Go.Ground.data, Go.Edge.mk 52 Go.Ground.data, Go.Edge.mk 50 Go.Ground.chain, Go.Edge.mk 50 Go.Ground.guard] (Option.some (50, Bool.true))) rfl (fun K hK => ?_) AllReadyH.nil
      go_simp
      (refine (HSt.out _ gm cap HCap.out (HM10.out.below HD8.out) (HRl.out.below (bel_calls HB10.out HD8.out))).mono ?_; rintro e wn9 ⟨rfl, hb⟩; have HD9 : Box _ := ⟨bel_calls HD8.out hb⟩; clear hb)
      go_wp2_with fail
      refine hK.out _ _ ?bt54_k53 (fun hHeld => ?_)
      case bt54_k53 => first | (exact KK.out _ HD9.out) | (dsimp only; exact KK.out _ HD9.out)
      clear hK K
      try simp only [Act.put, List.setIfInBounds_toArray, List.set_cons_zero, List.set_cons_succ]
      refine wpAnyH_take (i := 54) (oi := Go.Oper.mk (Option.some 170) (Go.Op.pick (Go.Operand.tmp 166) (Go.Operand.tmp 169) (Go.Operand.const (Go.Value.bool Bool.false))) 4 "law.go:39" #[Go.Edge.mk 50 Go.Ground.data, Go.Edge.mk 53 Go.Ground.data] Option.none) (v := ?bt55_v) rfl (by kernel_rfl) (by kernel_rfl) (by kernel_rfl) (fun _ _ _ h => h) (Or.inl ⟨by rfl, ?bt55_y⟩) (by assumption) ?_
      case bt55_y => (intro w hSw; (try dsimp only at hSw); go_simp; (first | done | with_reducible rfl))
      try simp only [Act.put, List.setIfInBounds_toArray, List.set_cons_zero, List.set_cons_succ]
      refine wpAnyH_take (i := 55) (oi := Go.Oper.mk (Option.some 10) (Go.Op.assign (Go.Operand.tmp 170)) 4 "law.go:39" #[Go.Edge.mk 54 Go.Ground.data, Go.Edge.mk 53 Go.Ground.chain, Go.Edge.mk 0 Go.Ground.phase, Go.Edge.mk 1 Go.Ground.phase, Go.Edge.mk 2 Go.Ground.phase, Go.Edge.mk 3 Go.Ground.phase, Go.Edge.mk 4 Go.Ground.phase, Go.Edge.mk 5 Go.Ground.phase, Go.Edge.mk 6 Go.Ground.phase, Go.Edge.mk 7 Go.Ground.phase, Go.Edge.mk 8 Go.Ground.phase, Go.Edge.mk 9 Go.Ground.phase, Go.Edge.mk 10 Go.Ground.phase, Go.Edge.mk 11 Go.Ground.phase, Go.Edge.mk 12 Go.Ground.phase, Go.Edge.mk 13 Go.Ground.phase, Go.Edge.mk 14 Go.Ground.phase, Go.Edge.mk 15 Go.Ground.phase, Go.Edge.mk 16 Go.Ground.phase, Go.Edge.mk 17 Go.Ground.phase, Go.Edge.mk 18 Go.Ground.phase, Go.Edge.mk 19 Go.Ground.phase, Go.Edge.mk 20 Go.Ground.phase, Go.Edge.mk 21 Go.Ground.phase, Go.Edge.mk 22 Go.Ground.phase, Go.Edge.mk 23 Go.Ground.phase, Go.Edge.mk 24 Go.Ground.phase, Go.Edge.mk 25 Go.Ground.phase, Go.Edge.mk 26 Go.Ground.phase, Go.Edge.mk 27 Go.Ground.phase, Go.Edge.mk 28 Go.Ground.phase, Go.Edge.mk 29 Go.Ground.phase, Go.Edge.mk 30 Go.Ground.phase, Go.Edge.mk 31 Go.Ground.phase, Go.Edge.mk 32 Go.Ground.phase, Go.Edge.mk 33 Go.Ground.phase, Go.Edge.mk 34 Go.Ground.phase, Go.Edge.mk 35 Go.Ground.phase, Go.Edge.mk 36 Go.Ground.phase, Go.Edge.mk 37 Go.Ground.phase, Go.Edge.mk 38 Go.Ground.phase, Go.Edge.mk 39 Go.Ground.phase, Go.Edge.mk 40 Go.Ground.phase, Go.Edge.mk 41 Go.Ground.phase, Go.Edge.mk 42 Go.Ground.phase, Go.Edge.mk 43 Go.Ground.phase, Go.Edge.mk 44 Go.Ground.phase, Go.Edge.mk 45 Go.Ground.phase, Go.Edge.mk 46 Go.Ground.phase, Go.Edge.mk 47 Go.Ground.phase, Go.Edge.mk 48 Go.Ground.phase, Go.Edge.mk 49 Go.Ground.phase, Go.Edge.mk 50 Go.Ground.phase, Go.Edge.mk 51 Go.Ground.phase, Go.Edge.mk 52 Go.Ground.phase, Go.Edge.mk 53 Go.Ground.phase, Go.Edge.mk 54 Go.Ground.phase] Option.none) (v := ?bt56_v) rfl (by kernel_rfl) (by kernel_rfl) (by kernel_rfl) (fun _ _ _ h => h) (Or.inl ⟨by rfl, ?bt56_y⟩) (by assumption) ?_
      case bt56_y => (intro w hSw; (try dsimp only at hSw); go_simp; (first | done | with_reducible rfl))
      try simp only [Act.put, List.setIfInBounds_toArray, List.set_cons_zero, List.set_cons_succ]
      refine wpAnyH_done (by kernel_rfl) ?_ _
      go_wp2_with fail
      go_ret
      exact ⟨rfl, bel_calls HB10.out HD9.out⟩
theorem markTells_calls (k : Int) (A : Option Addr) (n c : Nat) (l : List ByteArray) (k1 : Int) (s1 : ByteArray) (k2 : Int) (s2 : ByteArray) (b : ByteArray) (w : World)
    (_hk : -9223372036854775808 ≤ k ∧ k ≤ 9223372036854775807) (hl : l.length = n) (hc : n ≤ c) (hn : n * 16 ≤ 140737488351232) (hs : ∀ s ∈ l, s.size ≤ 140737488351232) (hR : RowAt w A (scells l)) (_hb : b.size ≤ 140737488351232) :
    Calls Tryd.prog 5 #[.int .i64 k, .slice A n c, .agg #[.int .i64 k1, .string s1], .agg #[.int .i64 k2, .string s2], .string b] w fun e w' => e = .returned (.bool true) ∧ Below w.heap.size w w' := by
  cases hg : shortB 12 600 l
  · exact markTells_neg k A n c l k1 s1 k2 s2 b w hl hc hn hs hR (.inl hg)
  · by_cases h1 : s1.size ≤ 100
    · by_cases h2 : s2.size ≤ 100
      · by_cases h3 : b.size ≤ 200
        · exact markTells_main k A n c l k1 s1 k2 s2 b w hl hc hn hs hR hg h1 h2 h3
        · exact markTells_neg k A n c l k1 s1 k2 s2 b w hl hc hn hs hR (.inr (.inr (.inr ⟨hg, h1, h2, by omega⟩)))
      · exact markTells_neg k A n c l k1 s1 k2 s2 b w hl hc hn hs hR (.inr (.inr (.inl ⟨hg, h1, by omega⟩)))
    · exact markTells_neg k A n c l k1 s1 k2 s2 b w hl hc hn hs hR (.inr (.inl ⟨hg, by omega⟩))
end Go.Proofs.YtbkankpfkbafdaaDoor
