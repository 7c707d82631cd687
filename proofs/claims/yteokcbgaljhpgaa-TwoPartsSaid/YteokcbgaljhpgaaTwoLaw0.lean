/- The laws of chapter 4: each returns true at every input; what was handed in is as it was. -/
import Derived.Test.YteokcbgaljhpgaaTwoSum
import Derived.Test.YteokcbgaljhpgaaKnown
namespace Go.Proofs.Yteokcbgaljhpgaa
open Go.RowKit

def sum2B (l : List ByteArray) : ByteArray := ⟨(twoSum (joinB l).data.toList).toArray⟩
theorem sum2B_size (l : List ByteArray) : (sum2B l).size = 32 := by
  rw [sum2B, mk_size]; simp [twoSum, Eight.cells, hi4]
theorem twoSum_new (l : List ByteArray) (n : Nat) (w : World) (hl : l.length = n) (hn : n ≤ 1000) (hs : totalLen l ≤ 1000000) :
    Calls Try.prog 36 #[.slice (some ⟨w.heap.size, 0, none⟩) n n] (w.alloc (.cells (scells l).toArray 9)) fun e w' => e = .returned (.string (sum2B l)) ∧ Below w.heap.size w w' :=
  (twoSum_calls _ n n l _ hl (Nat.le_refl _) (by omega) hs (rowAt_alloc w (scells l) _)).mono fun _ _ ⟨he, hb⟩ => ⟨he, ((Below.refl w.heap.size w).alloc (Nat.le_refl _) _).trans (hb.mono (by simp))⟩
def hex2B (s : ByteArray) : ByteArray := ⟨(hexL s.data.toList).toArray⟩
theorem known2_abc : hex2B (sum2B [⟨#[97, 98, 99]⟩]) = ⟨#[98, 97, 55, 56, 49, 54, 98, 102, 56, 102, 48, 49, 99, 102, 101, 97, 52, 49, 52, 49, 52, 48, 100, 101, 53, 100, 97, 101, 50, 50, 50, 51, 98, 48, 48, 51, 54, 49, 97, 51, 57, 54, 49, 55, 55, 97, 57, 99, 98, 52, 49, 48, 102, 102, 54, 49, 102, 50, 48, 48, 49, 53, 97, 100]⟩ := by
  rw [sum2B, show (joinB [⟨#[97, 98, 99]⟩]).data.toList = [97, 98, 99] by decide, two_abc]
  decide
theorem known2_empty : hex2B (sum2B [⟨#[]⟩]) = ⟨#[101, 51, 98, 48, 99, 52, 52, 50, 57, 56, 102, 99, 49, 99, 49, 52, 57, 97, 102, 98, 102, 52, 99, 56, 57, 57, 54, 102, 98, 57, 50, 52, 50, 55, 97, 101, 52, 49, 101, 52, 54, 52, 57, 98, 57, 51, 52, 99, 97, 52, 57, 53, 57, 57, 49, 98, 55, 56, 53, 50, 98, 56, 53, 53]⟩ := by
  rw [sum2B, show (joinB [⟨#[]⟩]).data.toList = [] by decide, two_empty]
  decide
theorem known2_two : hex2B (sum2B [⟨#[97, 98, 99, 100, 98, 99, 100, 101, 99, 100, 101, 102, 100, 101, 102, 103, 101, 102, 103, 104, 102, 103, 104, 105, 103, 104, 105, 106, 104, 105, 106, 107, 105, 106, 107, 108, 106, 107, 108, 109, 107, 108, 109, 110, 108, 109, 110, 111, 109, 110, 111, 112, 110, 111, 112, 113]⟩]) = ⟨#[50, 52, 56, 100, 54, 97, 54, 49, 100, 50, 48, 54, 51, 56, 98, 56, 101, 53, 99, 48, 50, 54, 57, 51, 48, 99, 51, 101, 54, 48, 51, 57, 97, 51, 51, 99, 101, 52, 53, 57, 54, 52, 102, 102, 50, 49, 54, 55, 102, 54, 101, 99, 101, 100, 100, 52, 49, 57, 100, 98, 48, 54, 99, 49]⟩ := by
  rw [sum2B, show (joinB [⟨#[97, 98, 99, 100, 98, 99, 100, 101, 99, 100, 101, 102, 100, 101, 102, 103, 101, 102, 103, 104, 102, 103, 104, 105, 103, 104, 105, 106, 104, 105, 106, 107, 105, 106, 107, 108, 106, 107, 108, 109, 107, 108, 109, 110, 108, 109, 110, 111, 109, 110, 111, 112, 110, 111, 112, 113]⟩]).data.toList = [97, 98, 99, 100, 98, 99, 100, 101, 99, 100, 101, 102, 100, 101, 102, 103, 101, 102, 103, 104, 102, 103, 104, 105, 103, 104, 105, 106, 104, 105, 106, 107, 105, 106, 107, 108, 106, 107, 108, 109, 107, 108, 109, 110, 108, 109, 110, 111, 109, 110, 111, 112, 110, 111, 112, 113] by decide, two_two]
  decide
theorem total_one2 (s : ByteArray) : totalLen [s] = s.size := by simp [totalLen]

set_option maxHeartbeats 800000 in
theorem twoAlive_calls (w : World) : Calls Try.prog 35 #[] w fun e w' => e = .returned (.bool true) ∧ Below w.heap.size w w' := by
  have HS := Lib.hid (twoSum_new [⟨#[97, 98, 99]⟩] 1 w rfl (by omega) (by decide))
  obtain ⟨d, hd⟩ : ∃ d, sum2B [⟨#[97, 98, 99]⟩] = d := ⟨_, rfl⟩
  have hds : d.size = 32 := by rw [← hd, sum2B_size]
  have hk := known2_abc
  rw [hd] at HS hk
  have HK : Box _ := ⟨hk⟩
  have HX := Lib.hid (fun W => hex_calls d W (by omega))
  clear hd hk hds
  go_enter Try.func35, Try.ntmps35
  go_wp2_with fail
  refine Calls.mono HS.out ?_
  rintro e w1 ⟨rfl, hb1⟩
  have HB1 := Lib.hid hb1; clear hb1
  go_wp2_with fail
  refine Calls.mono (HX.out _) ?_
  rintro e w2 ⟨rfl, hb2⟩
  have HB2 := Lib.hid (below_trans' HB1.out hb2); clear hb2
  rw [show (⟨(hexL d.data.toList).toArray⟩ : ByteArray) = hex2B d from rfl, HK.out]
  go_wp2
  go_ret
  exact ⟨rfl, HB2.out⟩

set_option maxHeartbeats 1600000 in
theorem twoKnown_calls (s : ByteArray) (w : World) (_hs : s.size ≤ 140737488351232) : Calls Try.prog 11 #[.string s] w fun e w' => e = .returned (.bool true) ∧ Below w.heap.size w w' := by
  by_cases h0 : 800 < s.size
  · go_enter Try.func11, Try.ntmps11
    go_wp2_with fail
    refine (twoAlive_calls _).mono ?_
    rintro e w1 ⟨rfl, hb1⟩
    have HB1 := Lib.hid hb1; clear hb1
    go_wp2
    go_ret
    exact ⟨rfl, HB1.out⟩
  have h1 : s.size ≤ 800 := by omega
  clear h0 _hs
  obtain ⟨d, hd⟩ : ∃ d, sum2B [⟨#[]⟩] = d := ⟨_, rfl⟩
  have hds : d.size = 32 := by rw [← hd, sum2B_size]
  have hk := known2_empty
  rw [hd] at hk
  have HS := Lib.hid (fun W => twoSum_new [⟨#[]⟩] 1 W rfl (by omega) (by decide))
  rw [hd] at HS
  have HK : Box _ := ⟨hk⟩
  have HX := Lib.hid (fun W => hex_calls d W (by omega))
  obtain ⟨d2, hd2⟩ : ∃ d, sum2B [⟨#[97, 98, 99, 100, 98, 99, 100, 101, 99, 100, 101, 102, 100, 101, 102, 103, 101, 102, 103, 104, 102, 103, 104, 105, 103, 104, 105, 106, 104, 105, 106, 107, 105, 106, 107, 108, 106, 107, 108, 109, 107, 108, 109, 110, 108, 109, 110, 111, 109, 110, 111, 112, 110, 111, 112, 113]⟩] = d := ⟨_, rfl⟩
  have hds2 : d2.size = 32 := by rw [← hd2, sum2B_size]
  have hk2 := known2_two
  rw [hd2] at hk2
  have HS2 := Lib.hid (fun W => twoSum_new [⟨#[97, 98, 99, 100, 98, 99, 100, 101, 99, 100, 101, 102, 100, 101, 102, 103, 101, 102, 103, 104, 102, 103, 104, 105, 103, 104, 105, 106, 104, 105, 106, 107, 105, 106, 107, 108, 106, 107, 108, 109, 107, 108, 109, 110, 108, 109, 110, 111, 109, 110, 111, 112, 110, 111, 112, 113]⟩] 1 W rfl (by omega) (by decide))
  rw [hd2] at HS2
  have HK2 : Box _ := ⟨hk2⟩
  have HX2 := Lib.hid (fun W => hex_calls d2 W (by omega))
  obtain ⟨d3, hd3⟩ : ∃ d, sum2B [s] = d := ⟨_, rfl⟩
  have hds3 : d3.size = 32 := by rw [← hd3, sum2B_size]
  have HS3 := Lib.hid (fun W => twoSum_new [s] 1 W rfl (by omega) (by rw [total_one2]; omega))
  rw [hd3] at HS3
  have hl3 : (d3.size : Int) = 32 := by omega
  clear hd hk hds hd2 hk2 hds2 hd3 hds3
  go_enter Try.func11, Try.ntmps11
  go_wp2_with fail
  refine (twoAlive_calls _).mono ?_
  rintro e w0 ⟨rfl, hb0⟩
  have HB0 := Lib.hid hb0; clear hb0
  go_wp2_with fail
  refine Calls.mono (HS.out _) ?_
  rintro e w1 ⟨rfl, hb1⟩
  have HB1 := Lib.hid (below_trans' HB0.out hb1); clear hb1
  go_wp2_with fail
  refine Calls.mono (HX.out _) ?_
  rintro e w2 ⟨rfl, hb2⟩
  have HB2 := Lib.hid (below_trans' HB1.out hb2); clear hb2
  rw [show (⟨(hexL d.data.toList).toArray⟩ : ByteArray) = hex2B d from rfl, HK.out]
  go_wp2_with fail
  refine Calls.mono (HS2.out _) ?_
  rintro e w3 ⟨rfl, hb3⟩
  have HB3 := Lib.hid (below_trans' HB2.out hb3); clear hb3
  go_wp2_with fail
  refine Calls.mono (HX2.out _) ?_
  rintro e w4 ⟨rfl, hb4⟩
  have HB4 := Lib.hid (below_trans' HB3.out hb4); clear hb4
  rw [show (⟨(hexL d2.data.toList).toArray⟩ : ByteArray) = hex2B d2 from rfl, HK2.out]
  go_wp2_with fail
  refine Calls.mono (HS3.out _) ?_
  rintro e w5 ⟨rfl, hb5⟩
  have HB5 := Lib.hid (below_trans' HB4.out hb5); clear hb5
  go_wp2
  go_ret
  exact ⟨rfl, HB5.out⟩
end Go.Proofs.Yteokcbgaljhpgaa
