/- BitsBack: what was laid is read as it was, in its order, and zero bytes behind it are nothing. -/
import Derived.Test.YtnakneabfnphkaaDoorBitsPlain
namespace Go.Proofs.YtnakneabfnphkaaDoor
open Go.RowKit

def backL (a b c z : Nat) (s t : ByteArray) : List UInt8 :=
  lowL a 1 ++ (lowL s.size 2 ++ (s.data.toList ++ (lowL t.size 2 ++ (t.data.toList ++ (lowL b 4 ++ (lowL b 4 ++ (lowL c 8 ++ ((s.data.toList ++ t.data.toList) ++ List.replicate z 0))))))))
theorem join_two (s t : ByteArray) : joinB [s, t] = s ++ t := by simp [joinB]
theorem app_data (s t : ByteArray) : (s ++ t).data.toList = s.data.toList ++ t.data.toList := by simp [ByteArray.data_append]
theorem app_mk (s t : ByteArray) : (⟨(s.data.toList ++ t.data.toList).toArray⟩ : ByteArray) = s ++ t := by rw [← app_data, mk_data]
theorem back_laid (a b c pad : Nat) (s t : ByteArray) (ha : a < 256) (hb : b < 4294967296) (hc : c < 9223372036854775808) (hs : s.size ≤ 1000) (ht : t.size ≤ 1000) (hp : pad ≤ 200) :
    ∃ m1 m2 m3 m4 m5 z, layO 1 (0, []) [(a : Int)] = (0, m1) ∧ textO (0, m1) [s, t] = (0, m2) ∧ layO 4 (0, m2) [(b : Int), (b : Int)] = (0, m3) ∧ layO 8 (0, m3) [(c : Int)] = (0, m4) ∧ rawO (0, m4) [s, t] = (0, m5) ∧ padO (0, m5) (4100 + (pad : Int)) = (0, backL a b c z s t)
      ∧ (m1.length ≤ 5000 ∧ m2.length ≤ 5000 ∧ m3.length ≤ 5000 ∧ m4.length ≤ 5000) ∧ (backL a b c z s t).length = 4100 + pad := by
  have e1 := layO_fine 1 [] [(a : Int)] (by intro x hx; simp at hx; subst hx; exact layB_fine (by omega) (.inr (by simp; omega)))
  have e2 := textO_fine2 ([] ++ [(a : Int)].flatMap fun x : Int => lowL x.toNat 1) s t (by omega) (by omega)
  have e3 := layO_fine 4 (([] ++ [(a : Int)].flatMap fun x : Int => lowL x.toNat 1) ++ (lowL s.size 2 ++ (s.data.toList ++ (lowL t.size 2 ++ t.data.toList)))) [(b : Int), (b : Int)] (by intro x hx; simp at hx; subst hx; exact layB_fine (by omega) (.inr (by simp; omega)))
  have e4 := layO_fine 8 ((([] ++ [(a : Int)].flatMap fun x : Int => lowL x.toNat 1) ++ (lowL s.size 2 ++ (s.data.toList ++ (lowL t.size 2 ++ t.data.toList)))) ++ [(b : Int), (b : Int)].flatMap fun x : Int => lowL x.toNat 4) [(c : Int)] (by intro x hx; simp at hx; subst hx; exact layB_fine (by omega) (.inl (by omega)))
  refine ⟨_, _, _, _, ((((([] ++ [(a : Int)].flatMap fun x : Int => lowL x.toNat 1) ++ (lowL s.size 2 ++ (s.data.toList ++ (lowL t.size 2 ++ t.data.toList)))) ++ [(b : Int), (b : Int)].flatMap fun x : Int => lowL x.toNat 4) ++ [(c : Int)].flatMap fun x : Int => lowL x.toNat 8) ++ (s.data.toList ++ t.data.toList)), 4100 + pad - (21 + 2 * s.size + 2 * t.size), e1, e2, e3, e4, ?_, ?_, ⟨?_, ?_, ?_, ?_⟩, ?_⟩
  · rw [rawO, if_neg (by simp), join_two, app_data]
  · have e : (((((([] ++ [(a : Int)].flatMap fun x : Int => lowL x.toNat 1) ++ (lowL s.size 2 ++ (s.data.toList ++ (lowL t.size 2 ++ t.data.toList)))) ++ [(b : Int), (b : Int)].flatMap fun x : Int => lowL x.toNat 4) ++ [(c : Int)].flatMap fun x : Int => lowL x.toNat 8) ++ (s.data.toList ++ t.data.toList))).length = 21 + 2 * s.size + 2 * t.size := by
      simp [lowL_length, data_length]; omega
    rw [padO, if_neg (by simp), if_neg (by omega), if_neg (by simp only [e]; omega)]
    simp only [e]
    rw [show (4100 + (pad : Int)).toNat = 4100 + pad by omega]
    simp [backL]
  · simp [lowL_length]
  · simp [lowL_length, data_length]; omega
  · simp [lowL_length, data_length]; omega
  · simp [lowL_length, data_length]; omega
  · simp [backL, lowL_length, data_length]; omega
theorem back_read (a b c z : Nat) (s t : ByteArray) (ha : a < 256) (hb : b < 4294967296) (hc : c < 9223372036854775808) (hs : s.size ≤ 1000) (ht : t.size ≤ 1000) :
    ∃ r1 r2 r3 r4 r5 r6 r7 : ByteArray, lowI 0 ⟨(backL a b c z s t).toArray⟩ 1 = ((a : Int), 0, r1) ∧ textI 0 r1 = (s, 0, r2) ∧ textI 0 r2 = (t, 0, r3) ∧ lowI 0 r3 4 = ((b : Int), 0, r4) ∧ lowI 0 r4 4 = ((b : Int), 0, r5) ∧ lowI 0 r5 8 = ((c : Int), 0, r6) ∧ rawI 0 r6 ((s.size : Int) + (t.size : Int)) = (s ++ t, 0, r7) ∧ restI 0 r7 = true ∧ endI 0 r7 = 0 := by
  have e7 := rawI_ok (s.data.toList ++ t.data.toList) (List.replicate z 0) (s.size + t.size) (by simp [data_length])
  have ez : zeroB ⟨(List.replicate z (0 : UInt8)).toArray⟩ = true := by
    rw [zeroB, mkS_toList]; simp
  refine ⟨_, _, _, _, _, _, ⟨(List.replicate z (0 : UInt8)).toArray⟩, lowI_ok a 1 _ (by omega) (by omega), textI_ok s _ (by omega), textI_ok t _ (by omega), lowI_ok b 4 _ (by omega) (by omega), lowI_ok b 4 _ (by omega) (by omega), lowI_ok c 8 _ (by omega) hc, ?_, ?_, ?_⟩
  · rw [← app_mk, ← e7]; rfl
  · rw [restI, ez]; rfl
  · rw [endI, if_neg (fun h => by rw [ez] at h; cases h.2)]

set_option maxHeartbeats 6400000 in
set_option maxRecDepth 100000 in
theorem bitsBack_calls (a b c : Int) (s t : ByteArray) (pad : Int) (w : World) (ha : -9223372036854775808 ≤ a ∧ a ≤ 9223372036854775807) (hb : -9223372036854775808 ≤ b ∧ b ≤ 9223372036854775807) (hc : -9223372036854775808 ≤ c ∧ c ≤ 9223372036854775807) (_hs : s.size ≤ 140737488351232) (_ht : t.size ≤ 140737488351232) (hpd : -9223372036854775808 ≤ pad ∧ pad ≤ 9223372036854775807) :
    Calls Tryd.prog 7 #[.int .i64 a, .int .i64 b, .int .i64 c, .string s, .string t, .int .i64 pad] w fun e w' => e = .returned (.bool true) ∧ Below w.heap.size w w' := by
  by_cases hg : s.size ≤ 1000 ∧ t.size ≤ 1000 ∧ 0 ≤ a ∧ a ≤ 255 ∧ 0 ≤ b ∧ b < 4294967296 ∧ 0 ≤ c ∧ 0 ≤ pad ∧ pad ≤ 200
  case neg =>
    have hg2 : 1000 < (s.size : Int) ∨ ((s.size : Int) ≤ 1000 ∧ 1000 < (t.size : Int)) ∨ ((s.size : Int) ≤ 1000 ∧ (t.size : Int) ≤ 1000 ∧ a < 0) ∨ ((s.size : Int) ≤ 1000 ∧ (t.size : Int) ≤ 1000 ∧ 0 ≤ a ∧ 255 < a)
      ∨ ((s.size : Int) ≤ 1000 ∧ (t.size : Int) ≤ 1000 ∧ 0 ≤ a ∧ a ≤ 255 ∧ b < 0) ∨ ((s.size : Int) ≤ 1000 ∧ (t.size : Int) ≤ 1000 ∧ 0 ≤ a ∧ a ≤ 255 ∧ 0 ≤ b ∧ 4294967296 ≤ b)
      ∨ ((s.size : Int) ≤ 1000 ∧ (t.size : Int) ≤ 1000 ∧ 0 ≤ a ∧ a ≤ 255 ∧ 0 ≤ b ∧ b < 4294967296 ∧ c < 0) ∨ ((s.size : Int) ≤ 1000 ∧ (t.size : Int) ≤ 1000 ∧ 0 ≤ a ∧ a ≤ 255 ∧ 0 ≤ b ∧ b < 4294967296 ∧ 0 ≤ c ∧ pad < 0)
      ∨ ((s.size : Int) ≤ 1000 ∧ (t.size : Int) ≤ 1000 ∧ 0 ≤ a ∧ a ≤ 255 ∧ 0 ≤ b ∧ b < 4294967296 ∧ 0 ≤ c ∧ 0 ≤ pad ∧ 200 < pad) := by omega
    clear hg
    rcases hg2 with h1 | ⟨h1, h2⟩ | ⟨h1, h2, h3⟩ | ⟨h1, h2, h3, h4⟩ | ⟨h1, h2, h3, h4, h5⟩ | ⟨h1, h2, h3, h4, h5, h6⟩ | ⟨h1, h2, h3, h4, h5, h6, h7⟩ | ⟨h1, h2, h3, h4, h5, h6, h7, h8⟩ | ⟨h1, h2, h3, h4, h5, h6, h7, h8, h9⟩
    all_goals
      go_enter Tryd.func7, Tryd.ntmps7
      go_wp2_with fail
      refine (bitsAlive_calls _).mono ?_
      rintro e w1 ⟨rfl, hb1⟩
      go_wp2
      go_ret
      exact ⟨rfl, hb1⟩
  obtain ⟨g0, g1, g2, g3, g4, g5, g6, g7, g8⟩ := hg
  obtain ⟨a, rfl⟩ : ∃ m : Nat, a = (m : Int) := ⟨a.toNat, by omega⟩
  obtain ⟨b, rfl⟩ : ∃ m : Nat, b = (m : Int) := ⟨b.toNat, by omega⟩
  obtain ⟨c, rfl⟩ : ∃ m : Nat, c = (m : Int) := ⟨c.toNat, by omega⟩
  obtain ⟨pad, rfl⟩ : ∃ m : Nat, pad = (m : Int) := ⟨pad.toNat, by omega⟩
  have q0 : (s.size : Int) ≤ 1000 := by omega
  have q1 : (t.size : Int) ≤ 1000 := by omega
  obtain ⟨m1, m2, m3, m4, m5, z, e1, e2, e3, e4, e5, e6, hz, hlen⟩ := back_laid a b c pad s t (by omega) (by omega) (by omega) g0 g1 (by omega)
  obtain ⟨r1, r2, r3, r4, r5, r6, r7, f1, f2, f3, f4, f5, f6, f7, f8, f9⟩ := back_read a b c z s t (by omega) (by omega) (by omega) g0 g1
  have e7 : endO (0, backL a b c z s t) = (⟨(backL a b c z s t).toArray⟩, 0) := rfl
  have hS : (⟨(backL a b c z s t).toArray⟩ : ByteArray).size = 4100 + pad := by rw [mk_size, hlen]
  obtain ⟨S, hS2⟩ : ∃ S : ByteArray, ⟨(backL a b c z s t).toArray⟩ = S := ⟨_, rfl⟩
  rw [hS2] at f1 e7 hS
  have y1 := lowI_size 0 S 1
  rw [f1] at y1
  have y2 := textI_size' 0 r1
  rw [f2] at y2
  have y3 := textI_size' 0 r2
  rw [f3] at y3
  have y4 := lowI_size 0 r3 4
  rw [f4] at y4
  have y5 := lowI_size 0 r4 4
  rw [f5] at y5
  have y6 := lowI_size 0 r5 8
  rw [f6] at y6
  have y7 := (rawI_size 0 r6 ((s.size : Int) + (t.size : Int))).2.1
  rw [f7] at y7
  simp only at y1 y2 y3 y4 y5 y6 y7
  have HE1 : Box _ := ⟨e1⟩
  have HE2 : Box _ := ⟨e2⟩
  have HE3 : Box _ := ⟨e3⟩
  have HE4 : Box _ := ⟨e4⟩
  have HE5 : Box _ := ⟨e5⟩
  have HE6 : Box _ := ⟨e6⟩
  have HE7 : Box _ := ⟨e7⟩
  have HF1 : Box _ := ⟨f1⟩
  have HF2 : Box _ := ⟨f2⟩
  have HF3 : Box _ := ⟨f3⟩
  have HF4 : Box _ := ⟨f4⟩
  have HF5 : Box _ := ⟨f5⟩
  have HF6 : Box _ := ⟨f6⟩
  have HF7 : Box _ := ⟨f7⟩
  have HF8 : Box _ := ⟨f8⟩
  have HF9 : Box _ := ⟨f9⟩
  have HZ : Box (m1.length ≤ 5000 ∧ m2.length ≤ 5000 ∧ m3.length ≤ 5000 ∧ m4.length ≤ 5000) := ⟨hz⟩
  have HY : Box (S.size ≤ 5000 ∧ r1.size ≤ 5000 ∧ r2.size ≤ 5000 ∧ r3.size ≤ 5000 ∧ r4.size ≤ 5000 ∧ r5.size ≤ 5000 ∧ r6.size ≤ 5000 ∧ r7.size ≤ 5000) := ⟨by omega⟩
  have HS : (S.size : Int) = 4100 + (pad : Int) := by omega
  have HSB : Box _ := ⟨HS⟩
  have HV : Box (a < 256 ∧ b < 4294967296 ∧ c < 9223372036854775808 ∧ s.size ≤ 1000 ∧ t.size ≤ 1000) := ⟨by omega⟩
  clear e1 e2 e3 e4 e5 e6 e7 f1 f2 f3 f4 f5 f6 f7 f8 f9 hz hlen hS hS2 HS y1 y2 y3 y4 y5 y6 y7
  have b0 : decide ((1000 : Int) < (s.size : Int)) = false := decide_eq_false (by omega)
  have b1 : decide ((1000 : Int) < (t.size : Int)) = false := decide_eq_false (by omega)
  have b2 : decide ((a : Int) < 0) = false := decide_eq_false (by omega)
  have b3 : decide ((255 : Int) < (a : Int)) = false := decide_eq_false (by omega)
  have b4 : decide ((b : Int) < 0) = false := decide_eq_false (by omega)
  have b5 : decide ((4294967296 : Int) ≤ (b : Int)) = false := decide_eq_false (by omega)
  have b6 : decide ((c : Int) < 0) = false := decide_eq_false (by omega)
  have b7 : decide ((pad : Int) < 0) = false := decide_eq_false (by omega)
  have b8 : decide ((200 : Int) < (pad : Int)) = false := decide_eq_false (by omega)
  clear g0 g1 g2 g3 g4 g5 g6 q0 q1 ha hb hc hpd
  go_enter Tryd.func7, Tryd.ntmps7
  go_wp2_with fail
  refine (bitsAlive_calls _).mono ?_
  rintro e w1 ⟨rfl, hb1⟩
  clear b0 b1 b2 b3 b4 b5 b6 b7 b8
  have HB1 : Box _ := ⟨hb1⟩
  clear hb1
  obtain ⟨g, hg⟩ : ∃ g, w1.heap.size = g := ⟨_, rfl⟩
  have H1 : Box _ := ⟨OutI.new HB1.out⟩
  rw [hg] at H1
  have K1 : Box _ := ⟨outByte_in H1.out 1 [(a : Int)] rfl (by omega) (by simp) (by have := HV.out; intro z hz; simp at hz; omega)⟩
  rw [HE1.out] at K1
  have hsz1 : (w1.alloc (.cells #[.slice none 0 0, .int .i64 0] 29)).heap.size = g + 1 := by simp [hg]
  rw [hsz1] at K1
  clear hsz1
  go_wp2_with fail
  refine Calls.mono K1.out ?_
  rintro e w2 ⟨rfl, h2⟩
  have K2 : Box _ := ⟨outText_in h2 2 [s, t] rfl (by omega) (by have := HZ.out; have := HV.out; simp only [totalLen, List.map_cons, List.map_nil, List.sum_cons, List.sum_nil]; omega)⟩
  rw [HE2.out] at K2
  clear h2
  go_wp2_with fail
  refine Calls.mono K2.out ?_
  rintro e w3 ⟨rfl, h3⟩
  have K3 : Box _ := ⟨outWord_in h3 2 [(b : Int), (b : Int)] rfl (by omega) (by have := HZ.out; simp only; omega) (by have := HV.out; intro z hz; simp at hz; omega)⟩
  rw [HE3.out] at K3
  clear h3
  go_wp2_with fail
  refine Calls.mono K3.out ?_
  rintro e w4 ⟨rfl, h4⟩
  have K4 : Box _ := ⟨outLong_in h4 1 [(c : Int)] rfl (by omega) (by have := HZ.out; simp only; omega) (by have := HV.out; intro z hz; simp at hz; omega)⟩
  rw [HE4.out] at K4
  clear h4
  go_wp2_with fail
  refine Calls.mono K4.out ?_
  rintro e w5 ⟨rfl, h5⟩
  have K5 : Box _ := ⟨outRaw_in h5 2 [s, t] rfl (by omega) (by have := HZ.out; have := HV.out; simp only [totalLen, List.map_cons, List.map_nil, List.sum_cons, List.sum_nil]; omega)⟩
  rw [HE5.out] at K5
  clear h5
  go_wp2_with fail
  refine Calls.mono K5.out ?_
  rintro e w6 ⟨rfl, h6⟩
  have K6 : Box _ := ⟨outPad_in h6 (4100 + (pad : Int))⟩
  rw [HE6.out] at K6
  clear h6
  go_wp2_with fail
  refine Calls.mono K6.out ?_
  rintro e w7 ⟨rfl, h7⟩
  have K7 : Box _ := ⟨outEnd_in h7⟩
  rw [HE7.out] at K7
  have HO : Box _ := ⟨fun W (h : Below w.heap.size w W) => on_in S h⟩
  clear h7
  go_wp2_with fail
  refine Calls.mono K7.out ?_
  rintro e w8 ⟨rfl, h8⟩
  have HB8 : Box _ := ⟨h8.bel⟩
  clear h8
  go_wp2_with fail
  refine Calls.mono (HO.out _ HB8.out) ?_
  rintro e w9 ⟨gi, rfl, h9⟩
  have I9 : Box _ := ⟨inByte_in h9 (by have := HY.out; simp only; omega)⟩
  rw [HF1.out] at I9
  have HS := HSB.out
  clear h9
  go_wp2_with fail
  refine Calls.mono I9.out ?_
  rintro e w10 ⟨rfl, h10⟩
  have I10 : Box _ := ⟨inText_in h10 (by have := HY.out; simp only; omega)⟩
  rw [HF2.out] at I10
  clear h10
  go_wp2_with fail
  refine Calls.mono I10.out ?_
  rintro e w11 ⟨rfl, h11⟩
  have I11 : Box _ := ⟨inText_in h11 (by have := HY.out; simp only; omega)⟩
  rw [HF3.out] at I11
  clear h11
  go_wp2_with fail
  refine Calls.mono I11.out ?_
  rintro e w12 ⟨rfl, h12⟩
  have I12 : Box _ := ⟨inWord_in h12 (by have := HY.out; simp only; omega)⟩
  rw [HF4.out] at I12
  clear h12
  go_wp2_with fail
  refine Calls.mono I12.out ?_
  rintro e w13 ⟨rfl, h13⟩
  have I13 : Box _ := ⟨inWord_in h13 (by have := HY.out; simp only; omega)⟩
  rw [HF5.out] at I13
  clear h13
  go_wp2_with fail
  refine Calls.mono I13.out ?_
  rintro e w14 ⟨rfl, h14⟩
  have I14 : Box _ := ⟨inLong_in h14 (by have := HY.out; simp only; omega)⟩
  rw [HF6.out] at I14
  clear h14
  go_wp2_with fail
  refine Calls.mono I14.out ?_
  rintro e w15 ⟨rfl, h15⟩
  have I15 : Box _ := ⟨inRaw_in h15 ((s.size : Int) + (t.size : Int)) (by have := HY.out; simp only; omega)⟩
  rw [HF7.out] at I15
  clear h15
  go_wp2_with fail
  refine Calls.mono I15.out ?_
  rintro e w16 ⟨rfl, h16⟩
  have I16 : Box _ := ⟨inRest_in h16 (by have := HY.out; simp only; omega)⟩
  rw [HF8.out] at I16
  clear h16
  go_wp2_with fail
  refine Calls.mono I16.out ?_
  rintro e w17 ⟨rfl, h17⟩
  have I17 : Box _ := ⟨inEnd_in h17 (by have := HY.out; simp only; omega)⟩
  rw [HF9.out] at I17
  clear h17
  go_wp2_with fail
  refine Calls.mono I17.out ?_
  rintro e w18 ⟨rfl, h18⟩
  have HB18 : Box _ := ⟨h18.bel⟩
  clear h18
  go_wp2_with fail
  go_ret
  exact ⟨rfl, HB18.out⟩
end Go.Proofs.YtnakneabfnphkaaDoor
