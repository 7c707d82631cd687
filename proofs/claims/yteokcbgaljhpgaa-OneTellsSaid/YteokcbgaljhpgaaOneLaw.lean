/- OneTells: returns true at every input; what was handed in is as it was. -/
import Derived.Test.YteokcbgaljhpgaaOneLaw0
import Derived.Test.YteokcbgaljhpgaaRefOne
namespace Go.Proofs.Yteokcbgaljhpgaa
open Go.RowKit

set_option maxHeartbeats 4000000 in
theorem oneTells_calls (A : Option Addr) (n c : Nat) (l : List ByteArray) (k : Int) (w : World)
    (hl : l.length = n) (_hc : n ≤ c) (hn : n * 16 ≤ 140737488351232) (hs : ∀ s ∈ l, s.size ≤ 140737488351232) (hR : RowAt w A (scells l)) (_hk : -9223372036854775808 ≤ k ∧ k ≤ 9223372036854775807) :
    Calls Try.prog 7 #[.slice A n c, .int .i64 k] w fun e w' => e = .returned (.bool true) ∧ Below w.heap.size w w' := by
  subst hl
  have HSh := Lib.hid (short_calls 20 1500 A c l w (by omega) (by omega) (by omega) hs hR)
  by_cases hsh : shortB 20 1500 l = true
  case neg =>
    have hsf : shortB 20 1500 l = false := by simpa using hsh
    rw [hsf] at HSh
    clear hsh hsf hR hs
    go_enter Try.func7, Try.ntmps7
    go_wp2_with fail
    refine Calls.mono HSh.out ?_
    rintro e w1 ⟨rfl, hb1⟩
    have HB1 := Lib.hid hb1; clear hb1
    go_wp2_with fail
    refine (oneAlive_calls _).mono ?_
    rintro e w2 ⟨rfl, hb2⟩
    have HB2 := Lib.hid (below_trans' HB1.out hb2); clear hb2
    go_wp2
    go_ret
    exact ⟨rfl, HB2.out⟩
  rw [hsh] at HSh
  have htl : l.length ≤ 20 ∧ totalLen l ≤ 1500 := by simp [shortB] at hsh; omega
  have HT := Lib.hid htl.2
  have hl20 := htl.1
  clear htl hsh hs
  have HR := Lib.hid hR; clear hR
  go_enter Try.func7, Try.ntmps7
  go_wp2_with fail
  refine Calls.mono HSh.out ?_
  rintro e w1 ⟨rfl, hb1⟩
  have HB1 := Lib.hid hb1; clear hb1 HSh
  go_wp2_with fail
  refine (oneAlive_calls _).mono ?_
  rintro e w2 ⟨rfl, hb2⟩
  have HB2 := Lib.hid (below_trans' HB1.out hb2); clear hb2
  go_wp2_with fail
  refine (lentTexts_calls A c l _ (by omega) (HR.out.below HB2.out)).mono ?_
  rintro e w3 ⟨g, cap, rfl, hcap, hrow, hb3⟩
  have HB3 := Lib.hid (below_trans' HB2.out hb3); clear hb3
  have HM := Lib.hid hrow; clear hrow
  go_wp2_with fail
  refine (join_calls A c l _ (by omega) (by have := HT.out; omega) (HR.out.below HB3.out)).mono ?_
  rintro e w4 ⟨rfl, rfl⟩
  obtain ⟨s, hsj⟩ : ∃ s, joinB l = s := ⟨_, rfl⟩
  rw [hsj]
  have hss : s.size ≤ 1500 := by have := HT.out; have := joinB_size l; rw [hsj] at this; omega
  obtain ⟨d, hd⟩ : ∃ d, sumB [s] = d := ⟨_, rfl⟩
  have HD1 : Box (sumB l = d) := ⟨by rw [← hd, sumB, sumB, joinB_one, hsj]⟩
  have HD2 : Box (sumB [s] = d) := ⟨hd⟩
  have HD3 : Box ((⟨(oneSum s.data.toList).toArray⟩ : ByteArray) = d) := ⟨by rw [← hd, sumB_ref]⟩
  clear hsj hd
  go_wp2_with fail
  refine (oneSum_calls _ _ cap l _ rfl (by omega) (by omega) (by have := HT.out; omega) HM.out.left).mono ?_
  rintro e w5 ⟨rfl, hb5⟩
  have HB5 := Lib.hid (below_trans' HB3.out hb5)
  have HM5 := Lib.hid (HM.out.below hb5); clear hb5
  rw [show (⟨(oneSum (joinB l).data.toList).toArray⟩ : ByteArray) = sumB l from rfl, HD1.out]
  go_wp2_with fail
  refine (refOne_calls s _ (by omega)).mono ?_
  rintro e w6 ⟨rfl, hb6⟩
  have HB6 := Lib.hid (below_trans' HB5.out hb6)
  have HM6 := Lib.hid (HM5.out.below hb6); clear hb6
  rw [HD3.out]
  go_wp2_with fail
  refine (oneSum_new [s] 1 _ rfl (by omega) (by rw [total_one]; omega)).mono ?_
  rintro e w7 ⟨rfl, hb7⟩
  have HB7 := Lib.hid (below_trans' HB6.out hb7)
  have HM7 := Lib.hid (HM6.out.below hb7); clear hb7
  rw [HD2.out]
  go_wp2_with fail
  refine (refOne_calls s _ (by omega)).mono ?_
  rintro e w8 ⟨rfl, hb8⟩
  have HB8 := Lib.hid (below_trans' HB7.out hb8)
  have HM8 := Lib.hid (HM7.out.below hb8); clear hb8
  rw [HD3.out]
  go_wp2_with fail
  refine (pad_calls k _).mono ?_
  rintro e w9 ⟨rfl, hb9⟩
  have HB9 := Lib.hid (below_trans' HB8.out hb9)
  have HM9 := Lib.hid (HM8.out.below hb9); clear hb9
  go_wp2_with fail
  refine (refPad_calls k _).mono ?_
  rintro e w10 ⟨rfl, hb10⟩
  have HB10 := Lib.hid (below_trans' HB9.out hb10)
  have HM10 := Lib.hid (HM9.out.below hb10); clear hb10
  go_wp2_with fail
  refine (staysTexts_calls _ A cap c l l markB _ (by omega) hcap HM10.out (HR.out.below HB10.out)).mono ?_
  rintro e w11 ⟨rfl, hb11⟩
  have HB11 := Lib.hid (below_trans' HB10.out hb11); clear hb11
  rw [show (decide (l = l) && decide (markB = markB)) = true by simp]
  go_wp2
  go_ret
  exact ⟨rfl, HB11.out⟩
end Go.Proofs.Yteokcbgaljhpgaa
