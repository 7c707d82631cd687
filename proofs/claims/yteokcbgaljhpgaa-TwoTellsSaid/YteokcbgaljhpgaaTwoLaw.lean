/- TwoTells: returns true at every input; what was handed in is as it was. -/
import Derived.Test.YteokcbgaljhpgaaRefTwo
namespace Go.Proofs.Yteokcbgaljhpgaa
open Go.RowKit

theorem joinB_one2 (s : ByteArray) : joinB [s] = s := by simp [joinB]
theorem sum2B_ref (s : ByteArray) : sum2B [s] = ⟨(twoSum s.data.toList).toArray⟩ := by rw [sum2B, joinB_one2]
theorem sum2B_mid (s : ByteArray) : sum2B [⟨#[]⟩, s, ⟨#[]⟩] = sum2B [s] := by
  rw [sum2B, sum2B, show joinB [⟨#[]⟩, s, ⟨#[]⟩] = joinB [s] by
    show ByteArray.empty ++ (⟨#[]⟩ : ByteArray) ++ s ++ (⟨#[]⟩ : ByteArray) = ByteArray.empty ++ s
    apply ByteArray.ext; simp [ByteArray.data_append]]
theorem total_mid (s : ByteArray) : totalLen [⟨#[]⟩, s, ⟨#[]⟩] = s.size := by
  have h0 : (⟨#[]⟩ : ByteArray).size = 0 := rfl
  simp only [totalLen, List.map_cons, List.map_nil, List.sum_cons, List.sum_nil, h0]; omega

set_option maxHeartbeats 4000000 in
theorem twoTells_calls (A : Option Addr) (n c : Nat) (l : List ByteArray) (t : Int) (w : World)
    (hl : l.length = n) (_hc : n ≤ c) (hn : n * 16 ≤ 140737488351232) (hs : ∀ s ∈ l, s.size ≤ 140737488351232) (hR : RowAt w A (scells l)) (_hk : -9223372036854775808 ≤ t ∧ t ≤ 9223372036854775807) :
    Calls Try.prog 13 #[.slice A n c, .int .i64 t] w fun e w' => e = .returned (.bool true) ∧ Below w.heap.size w w' := by
  subst hl
  have HSh := Lib.hid (short_calls 20 1500 A c l w (by omega) (by omega) (by omega) hs hR)
  by_cases hsh : shortB 20 1500 l = true
  case neg =>
    have hsf : shortB 20 1500 l = false := by simpa using hsh
    rw [hsf] at HSh
    clear hsh hsf hR hs
    go_enter Try.func13, Try.ntmps13
    go_wp2_with fail
    refine Calls.mono HSh.out ?_
    rintro e w1 ⟨rfl, hb1⟩
    have HB1 := Lib.hid hb1; clear hb1
    go_wp2_with fail
    refine (twoAlive_calls _).mono ?_
    rintro e w2 ⟨rfl, hb2⟩
    have HB2 := Lib.hid (below_trans' HB1.out hb2); clear hb2
    go_wp2
    go_ret
    exact ⟨rfl, HB2.out⟩
  rw [hsh] at HSh
  have htl : l.length ≤ 20 ∧ totalLen l ≤ 1500 := by simp [shortB] at hsh; omega
  have HT := Lib.hid htl.2
  have hl20 := htl.1
  clear htl hsh hs
  have HR := Lib.hid hR; clear hR
  by_cases h0 : t < 0 ∨ 63 < t
  · have HKc := Lib.hid (fun W => key_calls t W)
    rw [if_pos (by omega)] at HKc
    rcases h0 with h0 | h0
    all_goals
      go_enter Try.func13, Try.ntmps13
      go_wp2_with fail
      refine Calls.mono HSh.out ?_
      rintro e w1 ⟨rfl, hb1⟩
      have HB1 := Lib.hid hb1; clear hb1 HSh
      go_wp2_with fail
      refine (twoAlive_calls _).mono ?_
      rintro e w2 ⟨rfl, hb2⟩
      have HB2 := Lib.hid (below_trans' HB1.out hb2); clear hb2
      go_wp2_with fail
      refine (lentTexts_calls A c l _ (by omega) (HR.out.below HB2.out)).mono ?_
      rintro e w3 ⟨g, cap, rfl, hcap, hrow, hb3⟩
      have HB3 := Lib.hid (below_trans' HB2.out hb3); clear hb3
      have HM := Lib.hid hrow; clear hrow
      go_wp2_with fail
      refine (join_calls A c l _ (by omega) (by have := HT.out; omega) (HR.out.below HB3.out)).mono ?_
      rintro e w4 ⟨rfl, rfl⟩
      obtain ⟨s, hsj⟩ : ∃ s, joinB l = s := ⟨_, rfl⟩
      rw [hsj]
      have hss : s.size ≤ 1500 := by have := HT.out; have := joinB_size l; rw [hsj] at this; omega
      obtain ⟨d, hd⟩ : ∃ d, sum2B [s] = d := ⟨_, rfl⟩
      have HD1 : Box (sum2B l = d) := ⟨by rw [← hd, sum2B, sum2B, joinB_one2, hsj]⟩
      have HD2 : Box (sum2B [⟨#[]⟩, s, ⟨#[]⟩] = d) := ⟨by rw [← hd, sum2B_mid]⟩
      have HD3 : Box ((⟨(twoSum s.data.toList).toArray⟩ : ByteArray) = d) := ⟨by rw [← hd, sum2B_ref]⟩
      clear hsj hd
      go_wp2_with fail
      refine (twoSum_calls _ _ cap l _ rfl (by omega) (by omega) (by have := HT.out; omega) HM.out.left).mono ?_
      rintro e w5 ⟨rfl, hb5⟩
      have HB5 := Lib.hid (below_trans' HB3.out hb5)
      have HM5 := Lib.hid (HM.out.below hb5); clear hb5
      rw [show (⟨(twoSum (joinB l).data.toList).toArray⟩ : ByteArray) = sum2B l from rfl, HD1.out]
      go_wp2_with fail
      refine (refTwo_calls s _ (by omega)).mono ?_
      rintro e w6 ⟨rfl, hb6⟩
      have HB6 := Lib.hid (below_trans' HB5.out hb6)
      have HM6 := Lib.hid (HM5.out.below hb6); clear hb6
      rw [HD3.out]
      go_wp2_with fail
      refine (twoSum_new [⟨#[]⟩, s, ⟨#[]⟩] 3 _ rfl (by omega) (by rw [total_mid]; omega)).mono ?_
      rintro e w7 ⟨rfl, hb7⟩
      have HB7 := Lib.hid (below_trans' HB6.out hb7)
      have HM7 := Lib.hid (HM6.out.below hb7); clear hb7
      rw [HD2.out]
      go_wp2_with fail
      refine (refTwo_calls s _ (by omega)).mono ?_
      rintro e w8 ⟨rfl, hb8⟩
      have HB8 := Lib.hid (below_trans' HB7.out hb8)
      have HM8 := Lib.hid (HM7.out.below hb8); clear hb8
      rw [HD3.out]
      go_wp2_with fail
      refine Calls.mono (HKc.out _) ?_
      rintro e w9 ⟨rfl, hb9⟩
      have HB9 := Lib.hid (below_trans' HB8.out hb9)
      have HM9 := Lib.hid (HM8.out.below hb9); clear hb9
      go_wp2_with fail
      refine (staysTexts_calls _ A cap c l l markB _ (by omega) hcap HM9.out (HR.out.below HB9.out)).mono ?_
      rintro e w11 ⟨rfl, hb11⟩
      have HB11 := Lib.hid (below_trans' HB9.out hb11); clear hb11
      rw [show (decide (l = l) && decide (markB = markB)) = true by simp]
      go_wp2
      go_ret
      exact ⟨rfl, HB11.out⟩
  obtain ⟨k, rfl⟩ : ∃ k : Nat, t = (k : Int) := ⟨t.toNat, by omega⟩
  have hk : k < 64 := by omega
  have HKc := Lib.hid (fun W => key_calls (k : Int) W)
  rw [if_neg (by omega)] at HKc
  rw [Int.toNat_natCast] at HKc
  have mm := wlist_at (L := twoKeys) (k := k) hk
  obtain ⟨y, hy⟩ : ∃ y, twoKeys.getD k 0 = y := ⟨_, rfl⟩
  rw [hy] at HKc mm
  have HMm : Box _ := ⟨mm⟩
  have j1 : (0 : Int) ≤ (k : Int) := by omega
  have j2 : (k : Int) < 64 := by omega
  clear hy mm h0 _hk
  go_enter Try.func13, Try.ntmps13
  go_wp2_with fail
  refine Calls.mono HSh.out ?_
  rintro e w1 ⟨rfl, hb1⟩
  have HB1 := Lib.hid hb1; clear hb1 HSh
  go_wp2_with fail
  refine (twoAlive_calls _).mono ?_
  rintro e w2 ⟨rfl, hb2⟩
  have HB2 := Lib.hid (below_trans' HB1.out hb2); clear hb2
  go_wp2_with fail
  refine (lentTexts_calls A c l _ (by omega) (HR.out.below HB2.out)).mono ?_
  rintro e w3 ⟨g, cap, rfl, hcap, hrow, hb3⟩
  have HB3 := Lib.hid (below_trans' HB2.out hb3); clear hb3
  have HM := Lib.hid hrow; clear hrow
  go_wp2_with fail
  refine (join_calls A c l _ (by omega) (by have := HT.out; omega) (HR.out.below HB3.out)).mono ?_
  rintro e w4 ⟨rfl, rfl⟩
  obtain ⟨s, hsj⟩ : ∃ s, joinB l = s := ⟨_, rfl⟩
  rw [hsj]
  have hss : s.size ≤ 1500 := by have := HT.out; have := joinB_size l; rw [hsj] at this; omega
  obtain ⟨d, hd⟩ : ∃ d, sum2B [s] = d := ⟨_, rfl⟩
  have HD1 : Box (sum2B l = d) := ⟨by rw [← hd, sum2B, sum2B, joinB_one2, hsj]⟩
  have HD2 : Box (sum2B [⟨#[]⟩, s, ⟨#[]⟩] = d) := ⟨by rw [← hd, sum2B_mid]⟩
  have HD3 : Box ((⟨(twoSum s.data.toList).toArray⟩ : ByteArray) = d) := ⟨by rw [← hd, sum2B_ref]⟩
  clear hsj hd
  go_wp2_with fail
  refine (refKeys_calls _).mono ?_
  rintro e w4 ⟨rfl, HRk, hb4⟩
  have HB3 := Lib.hid (below_trans' HB3.out hb4)
  have HM := Lib.hid (HM.out.below hb4); clear hb4
  obtain ⟨ad, e, hck⟩ := HRk.out.get HMm.out
  injection e with e
  subst e
  rw [add0] at hck
  go_wp2_with fail
  refine (twoSum_calls _ _ cap l _ rfl (by omega) (by omega) (by have := HT.out; omega) HM.out.left).mono ?_
  rintro e w5 ⟨rfl, hb5⟩
  have HB5 := Lib.hid (below_trans' HB3.out hb5)
  have HM5 := Lib.hid (HM.out.below hb5); clear hb5
  rw [show (⟨(twoSum (joinB l).data.toList).toArray⟩ : ByteArray) = sum2B l from rfl, HD1.out]
  go_wp2_with fail
  refine (refTwo_calls s _ (by omega)).mono ?_
  rintro e w6 ⟨rfl, hb6⟩
  have HB6 := Lib.hid (below_trans' HB5.out hb6)
  have HM6 := Lib.hid (HM5.out.below hb6); clear hb6
  rw [HD3.out]
  go_wp2_with fail
  refine (twoSum_new [⟨#[]⟩, s, ⟨#[]⟩] 3 _ rfl (by omega) (by rw [total_mid]; omega)).mono ?_
  rintro e w7 ⟨rfl, hb7⟩
  have HB7 := Lib.hid (below_trans' HB6.out hb7)
  have HM7 := Lib.hid (HM6.out.below hb7); clear hb7
  rw [HD2.out]
  go_wp2_with fail
  refine (refTwo_calls s _ (by omega)).mono ?_
  rintro e w8 ⟨rfl, hb8⟩
  have HB8 := Lib.hid (below_trans' HB7.out hb8)
  have HM8 := Lib.hid (HM7.out.below hb8); clear hb8
  rw [HD3.out]
  go_wp2_with fail
  refine Calls.mono (HKc.out _) ?_
  rintro e w9 ⟨rfl, hb9⟩
  have HB9 := Lib.hid (below_trans' HB8.out hb9)
  have HM9 := Lib.hid (HM8.out.below hb9); clear hb9
  go_wp2_with fail
  refine (staysTexts_calls _ A cap c l l markB _ (by omega) hcap HM9.out (HR.out.below HB9.out)).mono ?_
  rintro e w11 ⟨rfl, hb11⟩
  have HB11 := Lib.hid (below_trans' HB9.out hb11); clear hb11
  rw [show (decide (l = l) && decide (markB = markB)) = true by simp]
  go_wp2
  go_ret
  exact ⟨rfl, HB11.out⟩
end Go.Proofs.Yteokcbgaljhpgaa
