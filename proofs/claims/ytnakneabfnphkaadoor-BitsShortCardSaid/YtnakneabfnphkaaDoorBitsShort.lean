/- BitsShort: what is cut off anywhere is too short, and the error stays. -/
import Derived.Test.YtnakneabfnphkaaDoorBitsPlain
namespace Go.Proofs.YtnakneabfnphkaaDoor
open Go.RowKit

def shortL (a b : Nat) (s : ByteArray) : List UInt8 := lowL a 1 ++ (lowL s.size 2 ++ (s.data.toList ++ lowL b 8))
theorem shortL_length (a b : Nat) (s : ByteArray) : (shortL a b s).length = 11 + s.size := by simp [shortL, lowL_length, data_length]; omega
theorem short_laid (a b : Nat) (s : ByteArray) (ha : a < 256) (hb : b < 9223372036854775808) (hs : s.size ≤ 500) :
    ∃ m1 m2, layO 1 (0, []) [(a : Int)] = (0, m1) ∧ textO (0, m1) [s] = (0, m2) ∧ layO 8 (0, m2) [(b : Int)] = (0, shortL a b s) ∧ m1.length ≤ 1000 ∧ m2.length ≤ 1000 := by
  refine ⟨_, _, layO_fine 1 [] [(a : Int)] ?_, textO_fine _ s (by omega), ?_, ?_, ?_⟩
  · intro x hx; simp at hx; subst hx; exact layB_fine (by omega) (.inr (by simp; omega))
  · rw [layO_fine 8 _ [(b : Int)] (by intro x hx; simp at hx; subst hx; exact layB_fine (by omega) (.inl (by omega)))]
    simp [shortL]
  · simp [lowL_length]
  · simp [lowL_length]; omega
/-- What is read of it, whole. -/
theorem short_whole (a b : Nat) (s : ByteArray) (ha : a < 256) (hb : b < 9223372036854775808) (hs : s.size ≤ 500) :
    ∃ d1 d2 : Int × ByteArray, lowI 0 ⟨(shortL a b s).toArray⟩ 1 = ((a : Int), d1) ∧ textI d1.1 d1.2 = (s, d2) ∧ lowI d2.1 d2.2 8 = ((b : Int), 0, ByteArray.empty) ∧ d1.2.size ≤ 1000 ∧ d2.2.size ≤ 1000 := by
  refine ⟨_, _, lowI_ok a 1 _ (by omega) (by omega), textI_ok s _ (by omega), ?_, ?_, ?_⟩
  · have h := lowI_ok b 8 [] (by omega) hb
    rw [List.append_nil] at h
    exact h
  · simp [mk_size, lowL_length]; omega
  · simp [mk_size, lowL_length]
theorem short_part (a b : Nat) (s : ByteArray) (k : Nat) (ha : a < 256) (hs : s.size ≤ 500) (hk : k < 11 + s.size) :
    ∃ (u : Int) (t : ByteArray) (d1 d2 : Int × ByteArray) (r : ByteArray), lowI 0 ⟨((shortL a b s).take k).toArray⟩ 1 = (u, d1) ∧ textI d1.1 d1.2 = (t, d2) ∧ lowI d2.1 d2.2 8 = (0, 5, r) ∧ (k = 0 ∨ u = a) ∧ (k < 3 + s.size ∨ t = s) ∧ d1.2.size ≤ 1000 ∧ d2.2.size ≤ 1000 ∧ r.size ≤ 1000 := by
  have key : ∃ (u : Int) (t : ByteArray) (d1 d2 : Int × ByteArray) (r : ByteArray), lowI 0 ⟨((shortL a b s).take k).toArray⟩ 1 = (u, d1) ∧ textI d1.1 d1.2 = (t, d2) ∧ lowI d2.1 d2.2 8 = (0, 5, r) ∧ (k = 0 ∨ u = a) ∧ (k < 3 + s.size ∨ t = s) := by
    rcases Nat.eq_zero_or_pos k with rfl | hk0
    · rw [List.take_zero]
      have e1 : lowI 0 ⟨([] : List UInt8).toArray⟩ 1 = (0, 5, ⟨#[]⟩) := lowI_short _ 1 (by decide)
      exact ⟨_, _, _, _, _, e1, textI_err 5 _ (by decide), lowI_err 5 _ 8 (by decide), .inl rfl, .inl (by omega)⟩
    · obtain ⟨j, rfl⟩ : ∃ j, k = j + 1 := ⟨k - 1, by omega⟩
      have e0 : (shortL a b s).take (j + 1) = lowL a 1 ++ (lowL s.size 2 ++ (s.data.toList ++ lowL b 8)).take j := by
        rw [shortL, List.take_append, List.take_of_length_le (by rw [lowL_length]; omega), lowL_length]; rfl
      have e1 := lowI_ok a 1 ((lowL s.size 2 ++ (s.data.toList ++ lowL b 8)).take j) (by omega) (by omega)
      rw [← e0] at e1
      by_cases h2 : j < 2
      · have hsz : (⟨((lowL s.size 2 ++ (s.data.toList ++ lowL b 8)).take j).toArray⟩ : ByteArray).size < 2 := by rw [mk_size, List.length_take]; omega
        exact ⟨_, _, _, _, _, e1, textI_short _ hsz, lowI_err 5 _ 8 (by decide), .inr rfl, .inl (by omega)⟩
      · obtain ⟨i, rfl⟩ : ∃ i, j = i + 2 := ⟨j - 2, by omega⟩
        have e2 : (lowL s.size 2 ++ (s.data.toList ++ lowL b 8)).take (i + 2) = lowL s.size 2 ++ (s.data.toList ++ lowL b 8).take i := by
          rw [List.take_append, List.take_of_length_le (by rw [lowL_length]; omega), lowL_length]; rfl
        rw [e2] at e1
        by_cases h3 : i < s.size
        · have e3 : textI 0 ⟨(lowL s.size 2 ++ (s.data.toList ++ lowL b 8).take i).toArray⟩ = (ByteArray.empty, 5, ⟨((s.data.toList ++ lowL b 8).take i).toArray⟩) := by
            rw [textI, lowI_ok s.size 2 _ (by simp; omega) (by omega)]
            exact rawI_short _ _ (by rw [mk_size, List.length_take]; omega)
          exact ⟨_, _, _, _, _, e1, e3, lowI_err 5 _ 8 (by decide), .inr rfl, .inl (by omega)⟩
        · have e4 : (s.data.toList ++ lowL b 8).take i = s.data.toList ++ (lowL b 8).take (i - s.size) := by
            rw [List.take_append, List.take_of_length_le (by rw [data_length]; omega), data_length]
          rw [e4] at e1
          exact ⟨_, _, _, _, _, e1, textI_ok s _ (by omega), lowI_short _ 8 (by rw [mk_size, List.length_take, lowL_length]; omega), .inr rfl, .inr rfl⟩
  obtain ⟨u, t, d1, d2, r, h1, h2, h3, h4, h5⟩ := key
  have z0 : (⟨((shortL a b s).take k).toArray⟩ : ByteArray).size ≤ 1000 := by rw [mk_size, List.length_take]; omega
  have z1 := lowI_size 0 ⟨((shortL a b s).take k).toArray⟩ 1
  rw [h1] at z1
  have z2 := textI_size' d1.1 d1.2
  rw [h2] at z2
  have z3 := lowI_size d2.1 d2.2 8
  rw [h3] at z3
  exact ⟨u, t, d1, d2, r, h1, h2, h3, h4, h5, Nat.le_trans z1 z0, Nat.le_trans z2 (Nat.le_trans z1 z0), Nat.le_trans z3 (Nat.le_trans z2 (Nat.le_trans z1 z0))⟩

set_option maxHeartbeats 3200000 in
theorem bitsShort_calls (a b : Int) (s : ByteArray) (cut : Int) (w : World) (ha : -9223372036854775808 ≤ a ∧ a ≤ 9223372036854775807) (hb : -9223372036854775808 ≤ b ∧ b ≤ 9223372036854775807) (_hs : s.size ≤ 140737488351232) (hc : -9223372036854775808 ≤ cut ∧ cut ≤ 9223372036854775807) :
    Calls Tryd.prog 6 #[.int .i64 a, .int .i64 b, .string s, .int .i64 cut] w fun e w' => e = .returned (.bool true) ∧ Below w.heap.size w w' := by
  by_cases hg : s.size ≤ 500 ∧ 0 ≤ a ∧ a ≤ 255 ∧ 0 ≤ b ∧ 0 ≤ cut
  case neg =>
    have hg2 : 500 < (s.size : Int) ∨ ((s.size : Int) ≤ 500 ∧ a < 0) ∨ ((s.size : Int) ≤ 500 ∧ 0 ≤ a ∧ 255 < a) ∨ ((s.size : Int) ≤ 500 ∧ 0 ≤ a ∧ a ≤ 255 ∧ b < 0) ∨ ((s.size : Int) ≤ 500 ∧ 0 ≤ a ∧ a ≤ 255 ∧ 0 ≤ b ∧ cut < 0) := by omega
    clear hg
    rcases hg2 with h1 | ⟨h1, h2⟩ | ⟨h1, h2, h3⟩ | ⟨h1, h2, h3, h4⟩ | ⟨h1, h2, h3, h4, h5⟩
    all_goals
      go_enter Tryd.func6, Tryd.ntmps6
      go_wp2_with fail
      refine (bitsAlive_calls _).mono ?_
      rintro e w1 ⟨rfl, hb1⟩
      go_wp2
      go_ret
      exact ⟨rfl, hb1⟩
  obtain ⟨g0, g1, g2, g3, g4⟩ := hg
  obtain ⟨a, rfl⟩ : ∃ m : Nat, a = (m : Int) := ⟨a.toNat, by omega⟩
  obtain ⟨b, rfl⟩ : ∃ m : Nat, b = (m : Int) := ⟨b.toNat, by omega⟩
  have g5 : (s.size : Int) ≤ 500 := by omega
  obtain ⟨m1, m2, e1, e2, e3, z1, z2⟩ := short_laid a b s (by omega) (by omega) g0
  obtain ⟨k, hk⟩ : ∃ k : Nat, cut % ((11 + s.size : Nat) + 1 : Int) = (k : Int) := ⟨(cut % ((11 + s.size : Nat) + 1 : Int)).toNat, by
    rw [Int.toNat_of_nonneg]; exact Int.emod_nonneg _ (by omega)⟩
  have hk2 : k ≤ 11 + s.size := by
    have := Int.emod_lt_of_pos cut (show (0 : Int) < ((11 + s.size : Nat) + 1 : Int) by omega)
    omega
  have hX : (⟨(shortL a b s).toArray⟩ : ByteArray).extract 0 k = ⟨((shortL a b s).take k).toArray⟩ := by
    rw [ext_mk _ _ _ (by rw [shortL_length]; omega)]; rfl
  have hXz : (⟨((shortL a b s).take k).toArray⟩ : ByteArray).size ≤ 1000 := by rw [mk_size, List.length_take, shortL_length]; omega
  have hW := short_whole a b s (by omega) (by omega) g0
  have hP := short_part a b s k (by omega) g0
  have hfull : k = 11 + s.size → (⟨((shortL a b s).take k).toArray⟩ : ByteArray) = ⟨(shortL a b s).toArray⟩ := by
    intro h; rw [List.take_of_length_le (by rw [shortL_length]; omega)]
  have hSz : (⟨(shortL a b s).toArray⟩ : ByteArray).size = 11 + s.size := by rw [mk_size, shortL_length]
  have e4 : endO (0, shortL a b s) = (⟨(shortL a b s).toArray⟩, 0) := rfl
  have HSL : Box ((shortL a b s).length ≤ 1000) := ⟨by rw [shortL_length]; omega⟩
  obtain ⟨L, hL⟩ : ∃ L, shortL a b s = L := ⟨_, rfl⟩
  rw [hL] at e3 e4 hX hXz hW hfull hSz HSL
  simp only [hL] at hP
  clear hL
  obtain ⟨S, hS⟩ : ∃ S : ByteArray, ⟨L.toArray⟩ = S := ⟨_, rfl⟩
  obtain ⟨X, hX2⟩ : ∃ X : ByteArray, ⟨(L.take k).toArray⟩ = X := ⟨_, rfl⟩
  rw [hS] at e4 hX hW hfull hSz
  rw [hX2] at hX hXz hfull
  simp only [hX2] at hP
  have HE : Box (layO 1 (0, []) [(a : Int)] = (0, m1) ∧ textO (0, m1) [s] = (0, m2) ∧ layO 8 (0, m2) [(b : Int)] = (0, L) ∧ endO (0, L) = (S, 0)) := ⟨e1, e2, e3, e4⟩
  have HZ : Box (m1.length ≤ 1000 ∧ m2.length ≤ 1000 ∧ X.size ≤ 1000) := ⟨z1, z2, hXz⟩
  have HC : Box (k = 11 + s.size ∧ X = S ∨ k < 11 + s.size ∧ ∃ (u : Int) (t : ByteArray) (d1 d2 : Int × ByteArray) (r : ByteArray), lowI 0 X 1 = (u, d1) ∧ textI d1.1 d1.2 = (t, d2) ∧ lowI d2.1 d2.2 8 = (0, 5, r) ∧ (k = 0 ∨ u = a) ∧ (k < 3 + s.size ∨ t = s) ∧ d1.2.size ≤ 1000 ∧ d2.2.size ≤ 1000 ∧ r.size ≤ 1000) := ⟨by
    by_cases h : k = 11 + s.size
    · exact .inl ⟨h, hfull h⟩
    · exact .inr ⟨by omega, hP (by omega)⟩⟩
  have HW : Box _ := ⟨hW⟩
  have HK : Box (cut % ((S.size : Int) + 1) = (k : Int) ∧ S.extract 0 k = X) := ⟨by rw [hSz]; exact hk, hX⟩
  have HSz : Box ((S.size : Int) = 11 + (s.size : Int)) := ⟨by rw [hSz]; omega⟩
  clear e1 e2 e3 e4 z1 z2 hXz hfull hW hk hX hS hX2 hP hSz
  have HV : Box (k ≤ 11 + s.size ∧ a < 256 ∧ b < 9223372036854775808) := ⟨by omega⟩
  clear hk2
  go_enter Tryd.func6, Tryd.ntmps6
  go_wp2_with fail
  refine (bitsAlive_calls _).mono ?_
  rintro e w1 ⟨rfl, hb1⟩
  have HB1 : Box _ := ⟨hb1⟩
  clear hb1
  obtain ⟨g, hg⟩ : ∃ g, w1.heap.size = g := ⟨_, rfl⟩
  have H1 : Box _ := ⟨OutI.new HB1.out⟩
  rw [hg] at H1
  have K1 : Box _ := ⟨outByte_in H1.out 1 [(a : Int)] rfl (by omega) (by simp) (by have := HV.out; intro z hz; simp at hz; omega)⟩
  rw [HE.out.1] at K1
  have hsz1 : (w1.alloc (.cells #[.slice none 0 0, .int .i64 0] 29)).heap.size = g + 1 := by simp [hg]
  rw [hsz1] at K1
  clear hsz1
  go_wp2_with fail
  refine Calls.mono K1.out ?_
  rintro e w2 ⟨rfl, h2⟩
  have K2 : Box _ := ⟨outText_in h2 1 [s] rfl (by omega) (by have := HZ.out; simp only [totalLen, List.map_cons, List.map_nil, List.sum_cons, List.sum_nil]; omega)⟩
  rw [HE.out.2.1] at K2
  clear h2
  go_wp2_with fail
  refine Calls.mono K2.out ?_
  rintro e w3 ⟨rfl, h3⟩
  have K3 : Box _ := ⟨outLong_in h3 1 [(b : Int)] rfl (by omega) (by have := HZ.out; simp only; omega) (by have := HV.out; intro z hz; simp at hz; omega)⟩
  rw [HE.out.2.2.1] at K3
  clear h3
  go_wp2_with fail
  refine Calls.mono K3.out ?_
  rintro e w4 ⟨rfl, h4⟩
  have K4 : Box _ := ⟨outEnd_in h4⟩
  rw [HE.out.2.2.2] at K4
  have HB4 : Box _ := ⟨fun W (h : Below w.heap.size w W) => on_in X h⟩
  clear h4
  have hk1 := HK.out.1
  have hk2 := HK.out.2
  have hk3 : (k : Int) ≤ (S.size : Int) := by have := HV.out; have := HSz.out; omega
  have hk4 : (0 : Int) ≤ (k : Int) := by omega
  have hk5 : (0 : Int) ≤ (S.size : Int) := by omega
  have hk6 : (S.size : Int) ≤ 511 := by have := HSz.out; omega
  go_wp2_with fail
  refine Calls.mono K4.out ?_
  rintro e w5 ⟨rfl, h5⟩
  have HB5 : Box _ := ⟨h5.bel⟩
  clear h5
  go_wp2_with fail
  refine Calls.mono (HB4.out _ HB5.out) ?_
  rintro e w6 ⟨gi, rfl, h6⟩
  clear hk2
  rcases HC.out with ⟨hk, rfl⟩ | ⟨hk, u, t, ⟨x1, y1⟩, ⟨x2, y2⟩, r, f1, f2, f3, f4, f5, f6, f7, f8⟩
  · obtain ⟨⟨x1, y1⟩, ⟨x2, y2⟩, f1, f2, f3, f6, f7⟩ := HW.out
    simp only at f2 f3 f6 f7
    have HF : Box _ := ⟨And.intro f1 (And.intro f2 f3)⟩
    have HFz : Box (y1.size ≤ 1000 ∧ y2.size ≤ 1000) := ⟨f6, f7⟩
    have hk7 : ((k : Int) == (X.size : Int)) = true := by have := HSz.out; simp; omega
    have I6 : Box _ := ⟨inByte_in h6 (by have := HZ.out; simp only; omega)⟩
    rw [HF.out.1] at I6
    clear h6 f1 f2 f3 f6 f7 hk
    go_wp2_with fail
    refine Calls.mono I6.out ?_
    rintro e w7 ⟨rfl, h7⟩
    have I7 : Box _ := ⟨inText_in h7 (by have := HFz.out; simp only; omega)⟩
    rw [HF.out.2.1] at I7
    clear h7
    go_wp2_with fail
    refine Calls.mono I7.out ?_
    rintro e w8 ⟨rfl, h8⟩
    have I8 : Box _ := ⟨inLong_in h8 (by have := HFz.out; simp only; omega)⟩
    rw [HF.out.2.2] at I8
    clear h8
    go_wp2_with fail
    refine Calls.mono I8.out ?_
    rintro e w9 ⟨rfl, h9⟩
    have I9 : Box _ := ⟨inRest_in h9 (by decide)⟩
    have q1 : restI 0 ByteArray.empty = true := by decide
    rw [q1] at I9
    clear h9 q1
    go_wp2_with fail
    refine Calls.mono I9.out ?_
    rintro e w10 ⟨rfl, h10⟩
    have I10 : Box _ := ⟨inEnd_in h10 (by decide)⟩
    have q1 : endI 0 ByteArray.empty = 0 := by decide
    rw [q1] at I10
    clear h10 q1
    go_wp2_with fail
    refine Calls.mono I10.out ?_
    rintro e w11 ⟨rfl, h11⟩
    have HB11 : Box _ := ⟨h11.bel⟩
    clear h11
    go_wp2_with fail
    go_ret
    exact ⟨rfl, HB11.out⟩
  · simp only at f2 f3 f6 f7
    have HF : Box _ := ⟨And.intro f1 (And.intro f2 f3)⟩
    have HFz : Box (y1.size ≤ 1000 ∧ y2.size ≤ 1000 ∧ r.size ≤ 1000) := ⟨f6, f7, f8⟩
    have hk7 : ((k : Int) == (S.size : Int)) = false := by have := HSz.out; simp; omega
    have hk8 : (0 : Int) ≤ (k : Int) := by omega
    have I6 : Box _ := ⟨inByte_in h6 (by have := HZ.out; simp only; omega)⟩
    rw [HF.out.1] at I6
    have q4 : ((k : Int) == 0) = true ∨ (((k : Int) == 0) = false ∧ u = (a : Int)) := by
      by_cases h : k = 0
      · left; simp [h]
      · right; exact ⟨by simp; omega, f4.resolve_left h⟩
    have q5 : ((k : Int) < 3 + (s.size : Int)) ∨ (¬ ((k : Int) < 3 + (s.size : Int)) ∧ t = s) := by
      by_cases h : k < 3 + s.size
      · left; omega
      · right; exact ⟨by omega, f5.resolve_left h⟩
    clear h6 f1 f2 f3 f4 f5 f6 f7 f8 hk
    have HQ4 : Box _ := ⟨q4⟩
    have HQ5 : Box _ := ⟨q5⟩
    clear q4 q5
    go_wp2_with fail
    refine Calls.mono I6.out ?_
    rintro e w7 ⟨rfl, h7⟩
    have I7 : Box _ := ⟨inText_in h7 (by have := HFz.out; simp only; omega)⟩
    rw [HF.out.2.1] at I7
    clear h7
    go_wp2_with fail
    refine Calls.mono I7.out ?_
    rintro e w8 ⟨rfl, h8⟩
    have I8 : Box _ := ⟨inLong_in h8 (by have := HFz.out; simp only; omega)⟩
    rw [HF.out.2.2] at I8
    clear h8
    go_wp2_with fail
    refine Calls.mono I8.out ?_
    rintro e w9 ⟨rfl, h9⟩
    have H9 : Box _ := ⟨h9⟩
    clear h9
    go_wp2_with fail
    refine Calls.mono (inLeft_in H9.out) ?_
    have q1 : leftI 5 r = 0 := rfl
    rw [q1]
    rintro e w10 ⟨rfl, rfl⟩
    have I9 : Box _ := ⟨inRest_in H9.out (by have := HFz.out; simp only; omega)⟩
    have q1 : restI 5 r = false := rfl
    rw [q1] at I9
    clear q1
    go_wp2_with fail
    refine Calls.mono I9.out ?_
    rintro e w10 ⟨rfl, h10⟩
    have I10 : Box _ := ⟨inEnd_in h10 (by have := HFz.out; simp only; omega)⟩
    have q1 : endI 5 r = 5 := rfl
    rw [q1] at I10
    clear h10 q1
    go_wp2_with fail
    refine Calls.mono I10.out ?_
    rintro e w11 ⟨rfl, h11⟩
    have I11 : Box _ := ⟨inEnd_in h11 (by have := HFz.out; simp only; omega)⟩
    have q1 : endI 5 r = 5 := rfl
    rw [q1] at I11
    clear h11 q1
    go_wp2_with fail
    refine Calls.mono I11.out ?_
    rintro e w12 ⟨rfl, h12⟩
    have HB12 : Box _ := ⟨h12.bel⟩
    clear h12
    rcases HQ4.out with q4 | ⟨q4, rfl⟩
    all_goals
      rcases HQ5.out with q5 | ⟨q5, rfl⟩
      all_goals
        go_wp2_with fail
        go_ret
        exact ⟨rfl, HB12.out⟩
end Go.Proofs.YtnakneabfnphkaaDoor
