/- BitsOrder: things that are laid one by one are laid as at once; nothing is laid of no things. -/
import Derived.Test.YtnakneabfnphkaaDoorOutI2
namespace Go.Proofs.YtnakneabfnphkaaDoor
open Go.RowKit

theorem totalLen_few (ts : List ByteArray) (h : ∀ s ∈ ts, s.size ≤ 200) : totalLen ts ≤ 200 * (ts.length : Int) := by
  induction ts with
  | nil => simp [totalLen]
  | cons s ts ih =>
    have h1 := ih (fun x hx => h x (by simp [hx]))
    have h2 := h s (by simp)
    simp only [totalLen, List.map_cons, List.sum_cons, List.length_cons] at *
    omega
set_option maxHeartbeats 6400000 in
theorem bitsOrder_calls (A1 : Option Addr) (n1 c1 : Nat) (l : List Int) (A2 : Option Addr) (n2 c2 : Nat) (ts : List ByteArray) (w : World)
    (hl1 : l.length = n1) (_hc1 : n1 ≤ c1) (hn1 : n1 * 8 ≤ 140737488351232) (hs1 : ∀ z ∈ l, -9223372036854775808 ≤ z ∧ z ≤ 9223372036854775807) (hR1 : RowAt w A1 (icells l))
    (hl2 : ts.length = n2) (_hc2 : n2 ≤ c2) (hn2 : n2 * 16 ≤ 140737488351232) (_hs2 : ∀ s ∈ ts, s.size ≤ 140737488351232) (hR2 : RowAt w A2 (scells ts)) :
    Calls Tryd.prog 3 #[.slice A1 n1 c1, .slice A2 n2 c2] w fun e w' => e = .returned (.bool true) ∧ Below w.heap.size w w' := by
  subst hl1 hl2
  by_cases hg : l.length ≤ 40 ∧ ts.length ≤ 20
  case neg =>
    have hg2 : 40 < (l.length : Int) ∨ ((l.length : Int) ≤ 40 ∧ 20 < (ts.length : Int)) := by omega
    clear hg hR1 hR2 hs1 _hs2
    rcases hg2 with h1 | ⟨h1, h2⟩
    all_goals
      go_enter Tryd.func3, Tryd.ntmps3
      go_wp2_with fail
      refine (bitsAlive_calls _).mono ?_
      rintro e w1 ⟨rfl, hb1⟩
      go_wp2
      go_ret
      exact ⟨rfl, hb1⟩
  obtain ⟨g0, g1⟩ := hg
  have k0 : (l.length : Int) ≤ 40 := by omega
  have k1 : (ts.length : Int) ≤ 20 := by omega
  have HR1 : Box _ := ⟨hR1⟩
  have HR2 : Box _ := ⟨hR2⟩
  have HS1 : Box _ := ⟨hs1⟩
  clear hR1 hR2 hs1 _hs2 hn1 hn2 _hc1 _hc2
  go_enter Tryd.func3, Tryd.ntmps3
  go_wp2_with fail
  refine (bitsAlive_calls _).mono ?_
  rintro e w1 ⟨rfl, hb1⟩
  have HB1 : Box _ := ⟨hb1⟩
  clear hb1
  have H0 : Box _ := ⟨OutI2.new HB1.out⟩
  obtain ⟨g, hg⟩ : ∃ g, w1.heap.size = g := ⟨_, rfl⟩
  rw [hg] at H0
  go_wp2_with fail
  go_loopw [7] (fun i wr => ∃ k : Nat, k ≤ l.length ∧ i = .int .i64 (k : Int) ∧ Box (OutI2 w wr g (layO 2 (0, []) (l.take k)) (g + 1) (0, []))) (fun i _ => l.length - (intOf i).toNat)
  case atStart => exact ⟨0, by omega, rfl, H0⟩
  case round =>
    obtain ⟨k, hk, rfl, HO⟩ := hrel
    by_cases hlt : k < l.length
    · obtain ⟨x, hxk⟩ := some_at hlt
      obtain ⟨ad, rfl, hc⟩ := (HR1.out.below HO.out.bel).get (icells_at hxk)
      have hb := HS1.out x (List.mem_of_getElem? hxk)
      have HT : Box (layO 2 (0, []) (l.take (k + 1)) = layO 2 (layO 2 (0, []) (l.take k)) [x]) := ⟨by rw [take_snoc_of hxk, layO_snoc]; rfl⟩
      have hz := layO_len 2 (0, []) (l.take k)
      have K : Box _ := ⟨outHalf_two HO.out 1 [x] rfl (by omega) (by rw [List.length_take] at hz; simp only [List.length_nil] at hz; omega) (by intro z hz; simp at hz; omega)⟩
      rw [← HT.out] at K
      clear hxk hz hb
      obtain ⟨wo, rfl⟩ : ∃ wo : World, wo = wr := ⟨_, rfl⟩
      go_wp2_with fail
      refine Calls.mono K.out ?_
      rintro e w2 ⟨rfl, h2⟩
      have H2 : Box _ := ⟨h2⟩
      clear h2
      go_wp2_with fail
      go_roundw
      case rel => exact ⟨k + 1, by omega, by go_num, H2⟩
      case measure => simp [intOf]; omega
    · obtain rfl : k = l.length := by omega
      rw [List.take_of_length_le (Nat.le_refl _)] at HO
      have HZ : Box ((layO 2 (0, []) l).2.length ≤ 80) := ⟨by have := layO_len 2 (0, []) l; simp only [List.length_nil] at this; omega⟩
      obtain ⟨d, hd⟩ : ∃ d, layO 2 (0, []) l = d := ⟨_, rfl⟩
      have HD : Box (layO 2 (0, []) l = d) := ⟨hd⟩
      rw [hd] at HO HZ
      clear hd
      obtain ⟨wo, rfl⟩ : ∃ wo : World, wo = wr := ⟨_, rfl⟩
      go_wp2_with fail
      go_loopw [8] (fun i wr => ∃ k : Nat, k ≤ ts.length ∧ i = .int .i64 (k : Int) ∧ Box (∀ s ∈ ts.take k, s.size ≤ 200) ∧ Box (OutI2 w wr g (textO d (ts.take k)) (g + 1) (0, []))) (fun i _ => ts.length - (intOf i).toNat)
      case atStart => exact ⟨0, by omega, rfl, ⟨by simp⟩, HO⟩
      case round =>
        obtain ⟨k, hk, rfl, HA, HO⟩ := hrel
        by_cases hlt : k < ts.length
        · obtain ⟨x, hxk⟩ := some_at hlt
          obtain ⟨ad, rfl, hc⟩ := (HR2.out.below HO.out.bel).get (scells_at hxk)
          by_cases hbig : 200 < x.size
          · have hb2 : (200 : Int) < (x.size : Int) := by omega
            clear hxk hbig
            go_wp2_with fail
            go_ret
            exact ⟨rfl, HO.out.bel⟩
          · have hb2 : (x.size : Int) ≤ 200 := by omega
            have HA1 : Box (∀ s ∈ ts.take (k + 1), s.size ≤ 200) := ⟨by
              rw [take_snoc_of hxk]
              intro s hs
              rcases List.mem_append.1 hs with h | h
              · exact HA.out s h
              · simp at h; subst h; omega⟩
            have HT : Box (textO d (ts.take (k + 1)) = textO (textO d (ts.take k)) [x]) := ⟨by rw [take_snoc_of hxk, textO_snoc]; rfl⟩
            have hz := textO_len d (ts.take k)
            have hz2 := totalLen_few _ HA.out
            have K : Box _ := ⟨outText_two HO.out 1 [x] rfl (by omega) (by
              have := HZ.out
              rw [List.length_take] at hz hz2
              simp only [totalLen, List.map_cons, List.map_nil, List.sum_cons, List.sum_nil] at *
              omega)⟩
            rw [← HT.out] at K
            clear hxk hz hz2 hbig
            obtain ⟨wo, rfl⟩ : ∃ wo : World, wo = wr := ⟨_, rfl⟩
            go_wp2_with fail
            refine Calls.mono K.out ?_
            rintro e w2 ⟨rfl, h2⟩
            have H2 : Box _ := ⟨h2⟩
            clear h2
            go_wp2_with fail
            go_roundw
            case rel => exact ⟨k + 1, by omega, by go_num, HA1, H2⟩
            case measure => simp [intOf]; omega
        · obtain rfl : k = ts.length := by omega
          rw [List.take_of_length_le (Nat.le_refl _)] at HO HA
          have hz := totalLen_few _ HA.out
          have HZ2 : Box ((totalLen ts : Int) ≤ 4000) := ⟨by omega⟩
          have HZ3 : Box ((textO d ts).2.length ≤ 5000) := ⟨by have := textO_len d ts; have := HZ.out; have := HZ2.out; omega⟩
          obtain ⟨d3, hd3⟩ : ∃ d3, textO d ts = d3 := ⟨_, rfl⟩
          have HD3 : Box (textO d ts = d3) := ⟨hd3⟩
          rw [hd3] at HO HZ3
          clear hd3 hz
          have K1 : Box _ := ⟨outHalf_lent HO.out.swap A1 l.length c1 l rfl (by omega) (by simp) HS1.out HR1.out⟩
          rw [HD.out] at K1
          go_wp2_with fail
          refine Calls.mono K1.out ?_
          rintro e w2 ⟨rfl, h2⟩
          have K2 : Box _ := ⟨outByte_lent h2 none 0 0 [] rfl (by omega) (by have := HZ.out; omega) (by simp) (RowAt.nil _ _)⟩
          rw [show layO 1 d [] = d from rfl] at K2
          clear h2
          go_wp2_with fail
          refine Calls.mono K2.out ?_
          rintro e w3 ⟨rfl, h3⟩
          have K3 : Box _ := ⟨outRaw_lent h3 none 0 [] (by simp) (by have := HZ.out; simp only [totalLen, List.map_nil, List.sum_nil]; omega) (RowAt.nil _ _)⟩
          rw [rawO_nil] at K3
          clear h3
          go_wp2_with fail
          refine Calls.mono K3.out ?_
          rintro e w4 ⟨rfl, h4⟩
          have K4 : Box _ := ⟨outText_lent h4 A2 ts.length c2 ts rfl (by omega) (by have := HZ.out; have := HZ2.out; omega) HR2.out⟩
          rw [HD3.out] at K4
          clear h4
          go_wp2_with fail
          refine Calls.mono K4.out ?_
          rintro e w5 ⟨rfl, h5⟩
          have K5 : Box _ := ⟨outLong_lent h5 none 0 0 [] rfl (by omega) (by have := HZ3.out; omega) (by simp) (RowAt.nil _ _)⟩
          rw [show layO 8 d3 [] = d3 from rfl] at K5
          clear h5
          go_wp2_with fail
          refine Calls.mono K5.out ?_
          rintro e w6 ⟨rfl, h6⟩
          have H6 : Box _ := ⟨h6.swap⟩
          clear h6
          obtain ⟨⟨S, E⟩, hE⟩ : ∃ p, endO d3 = p := ⟨_, rfl⟩
          have K6 : Box _ := ⟨outEnd_two H6.out⟩
          rw [hE] at K6
          have HE : Box _ := ⟨hE⟩
          clear hE
          go_wp2_with fail
          refine Calls.mono K6.out ?_
          rintro e w7 ⟨rfl, h7⟩
          have K7 : Box _ := ⟨outEnd_two h7.swap⟩
          rw [HE.out] at K7
          clear h7
          go_wp2_with fail
          refine Calls.mono K7.out ?_
          rintro e w8 ⟨rfl, h8⟩
          have HB8 : Box _ := ⟨h8.bel⟩
          clear h8
          go_wp2_with fail
          go_ret
          exact ⟨rfl, HB8.out⟩
end Go.Proofs.YtnakneabfnphkaaDoor
