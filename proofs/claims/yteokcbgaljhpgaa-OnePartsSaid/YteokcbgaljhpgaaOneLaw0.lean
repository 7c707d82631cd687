/- The laws of chapter 3: each returns true at every input; what was handed in is as it was. -/
import Derived.Test.YteokcbgaljhpgaaOneSum
import Derived.Test.YteokcbgaljhpgaaKnown
namespace Go.Proofs.Yteokcbgaljhpgaa
open Go.RowKit

def sumB (l : List ByteArray) : ByteArray := ⟨(oneSum (joinB l).data.toList).toArray⟩
theorem sumB_size (l : List ByteArray) : (sumB l).size = 20 := by
  rw [sumB, mk_size]; simp [oneSum, Five.cells, hi4]
/-- shaone.Sum of a list that was just built. -/
theorem oneSum_new (l : List ByteArray) (n : Nat) (w : World) (hl : l.length = n) (hn : n ≤ 1000) (hs : totalLen l ≤ 1000000) :
    Calls Try.prog 30 #[.slice (some ⟨w.heap.size, 0, none⟩) n n] (w.alloc (.cells (scells l).toArray 9)) fun e w' => e = .returned (.string (sumB l)) ∧ Below w.heap.size w w' :=
  (oneSum_calls _ n n l _ hl (Nat.le_refl _) (by omega) hs (rowAt_alloc w (scells l) _)).mono fun _ _ ⟨he, hb⟩ => ⟨he, ((Below.refl w.heap.size w).alloc (Nat.le_refl _) _).trans (hb.mono (by simp))⟩

def hexB (s : ByteArray) : ByteArray := ⟨(hexL s.data.toList).toArray⟩
theorem known_abc : hexB (sumB [⟨#[97]⟩, ⟨#[98, 99]⟩]) = ⟨#[97, 57, 57, 57, 51, 101, 51, 54, 52, 55, 48, 54, 56, 49, 54, 97, 98, 97, 51, 101, 50, 53, 55, 49, 55, 56, 53, 48, 99, 50, 54, 99, 57, 99, 100, 48, 100, 56, 57, 100]⟩ := by
  rw [sumB, show (joinB [⟨#[97]⟩, ⟨#[98, 99]⟩]).data.toList = [97, 98, 99] by decide, one_abc]
  decide

set_option maxHeartbeats 800000 in
theorem oneAlive_calls (w : World) : Calls Try.prog 29 #[] w fun e w' => e = .returned (.bool true) ∧ Below w.heap.size w w' := by
  have HS := Lib.hid (oneSum_new [⟨#[97]⟩, ⟨#[98, 99]⟩] 2 w rfl (by omega) (by decide))
  obtain ⟨d, hd⟩ : ∃ d, sumB [⟨#[97]⟩, ⟨#[98, 99]⟩] = d := ⟨_, rfl⟩
  have hds : d.size = 20 := by rw [← hd, sumB_size]
  have hk := known_abc
  rw [hd] at HS hk
  have HK := Lib.hid hk
  have HX := Lib.hid (fun W => hex_calls d W (by omega))
  clear hd hk hds
  go_enter Try.func29, Try.ntmps29
  go_wp2_with fail
  refine Calls.mono HS.out ?_
  rintro e w1 ⟨rfl, hb1⟩
  have HB1 := Lib.hid hb1; clear hb1
  go_wp2_with fail
  refine Calls.mono (HX.out _) ?_
  rintro e w2 ⟨rfl, hb2⟩
  have HB2 := Lib.hid (below_trans' HB1.out hb2); clear hb2
  rw [show (⟨(hexL d.data.toList).toArray⟩ : ByteArray) = hexB d from rfl, HK.out]
  go_wp2
  go_ret
  exact ⟨rfl, HB2.out⟩

set_option maxHeartbeats 1600000 in
theorem onePads_calls (n : Int) (w : World) (_h : -9223372036854775808 ≤ n ∧ n ≤ 9223372036854775807) : Calls Try.prog 8 #[.int .i64 n] w fun e w' => e = .returned (.bool true) ∧ Below w.heap.size w w' := by
  by_cases h0 : n < 0
  · have hp : padB n = ByteArray.empty := by rw [padB, if_pos (.inl h0)]
    have HP := Lib.hid hp; clear hp
    go_enter Try.func8, Try.ntmps8
    go_wp2_with fail
    refine (oneAlive_calls _).mono ?_
    rintro e w1 ⟨rfl, hb1⟩
    have HB1 := Lib.hid hb1; clear hb1
    go_wp2_with fail
    refine (pad_calls n _).mono ?_
    rintro e w2 ⟨rfl, hb2⟩
    have HB2 := Lib.hid (below_trans' HB1.out hb2); clear hb2
    rw [HP.out]
    go_wp2
    go_ret
    exact ⟨rfl, HB2.out⟩
  by_cases h1 : 1099511627776 < n
  · have hp : padB n = ByteArray.empty := by rw [padB, if_pos (.inr h1)]
    have HP := Lib.hid hp; clear hp
    have h2 : 0 ≤ n := by omega
    have h3 : ¬ n ≤ 1099511627776 := by omega
    clear h0
    go_enter Try.func8, Try.ntmps8
    go_wp2_with fail
    refine (oneAlive_calls _).mono ?_
    rintro e w1 ⟨rfl, hb1⟩
    have HB1 := Lib.hid hb1; clear hb1
    go_wp2_with fail
    refine (pad_calls n _).mono ?_
    rintro e w2 ⟨rfl, hb2⟩
    have HB2 := Lib.hid (below_trans' HB1.out hb2); clear hb2
    rw [HP.out]
    go_wp2
    go_ret
    exact ⟨rfl, HB2.out⟩
  obtain ⟨m, rfl⟩ : ∃ m : Nat, n = (m : Int) := ⟨n.toNat, by omega⟩
  have hm : m ≤ 1099511627776 := by omega
  clear h0 h1 _h
  have hp : padB (m : Int) = ⟨(padL m).toArray⟩ := by rw [padB, if_neg (by omega)]; rfl
  have hs : (⟨(padL m).toArray⟩ : ByteArray).size = 9 + (119 - m % 64) % 64 := by rw [mk_size, padL_length]
  have hz : ∀ h, (⟨(padL m).toArray⟩ : ByteArray)[0]'h = 128 := by intro h; rfl
  obtain ⟨p, hpp⟩ : ∃ p, (⟨(padL m).toArray⟩ : ByteArray) = p := ⟨_, rfl⟩
  rw [hpp] at hp hs hz
  have HP := Lib.hid hp
  clear hp hpp
  have s1 : 9 ≤ p.size := by omega
  have s2 : p.size ≤ 72 := by omega
  have s3 : ((m : Int) + (p.size : Int)) % 64 = 0 := by omega
  have s4 : (0 : Int) < (p.size : Int) := by omega
  have s5 : 0 < p.size := by omega
  have hz0 := hz s5
  clear hs hz
  go_enter Try.func8, Try.ntmps8
  go_wp2_with fail
  refine (oneAlive_calls _).mono ?_
  rintro e w1 ⟨rfl, hb1⟩
  have HB1 := Lib.hid hb1; clear hb1
  go_wp2_with fail
  refine (pad_calls (m : Int) _).mono ?_
  rintro e w2 ⟨rfl, hb2⟩
  have HB2 := Lib.hid (below_trans' HB1.out hb2); clear hb2
  rw [HP.out]
  go_wp2
  go_ret
  exact ⟨rfl, HB2.out⟩

theorem known_empty : hexB (sumB [⟨#[]⟩]) = ⟨#[100, 97, 51, 57, 97, 51, 101, 101, 53, 101, 54, 98, 52, 98, 48, 100, 51, 50, 53, 53, 98, 102, 101, 102, 57, 53, 54, 48, 49, 56, 57, 48, 97, 102, 100, 56, 48, 55, 48, 57]⟩ := by
  rw [sumB, show (joinB [⟨#[]⟩]).data.toList = [] by decide, one_empty]
  decide
theorem known_two : hexB (sumB [⟨#[97, 98, 99, 100, 98, 99, 100, 101, 99, 100, 101, 102, 100, 101, 102, 103, 101, 102, 103, 104, 102, 103, 104, 105, 103, 104, 105, 106, 104, 105, 106, 107, 105, 106, 107, 108, 106, 107, 108, 109, 107, 108, 109, 110, 108, 109, 110, 111, 109, 110, 111, 112, 110, 111, 112, 113]⟩]) = ⟨#[56, 52, 57, 56, 51, 101, 52, 52, 49, 99, 51, 98, 100, 50, 54, 101, 98, 97, 97, 101, 52, 97, 97, 49, 102, 57, 53, 49, 50, 57, 101, 53, 101, 53, 52, 54, 55, 48, 102, 49]⟩ := by
  rw [sumB, show (joinB [⟨#[97, 98, 99, 100, 98, 99, 100, 101, 99, 100, 101, 102, 100, 101, 102, 103, 101, 102, 103, 104, 102, 103, 104, 105, 103, 104, 105, 106, 104, 105, 106, 107, 105, 106, 107, 108, 106, 107, 108, 109, 107, 108, 109, 110, 108, 109, 110, 111, 109, 110, 111, 112, 110, 111, 112, 113]⟩]).data.toList = [97, 98, 99, 100, 98, 99, 100, 101, 99, 100, 101, 102, 100, 101, 102, 103, 101, 102, 103, 104, 102, 103, 104, 105, 103, 104, 105, 106, 104, 105, 106, 107, 105, 106, 107, 108, 106, 107, 108, 109, 107, 108, 109, 110, 108, 109, 110, 111, 109, 110, 111, 112, 110, 111, 112, 113] by decide, one_two]
  decide
theorem joinB_one (s : ByteArray) : joinB [s] = s := by simp [joinB]
theorem sumB_ref (s : ByteArray) : sumB [s] = ⟨(oneSum s.data.toList).toArray⟩ := by rw [sumB, joinB_one]
theorem sumB_nil2 (s : ByteArray) : sumB [s, ⟨#[]⟩] = sumB [s] := by
  rw [sumB, sumB, show joinB [s, ⟨#[]⟩] = joinB [s] by
    show ByteArray.empty ++ s ++ (⟨#[]⟩ : ByteArray) = ByteArray.empty ++ s
    apply ByteArray.ext; simp [ByteArray.data_append]]
theorem total_one (s : ByteArray) : totalLen [s] = s.size := by simp [totalLen]
theorem total_two (s t : ByteArray) : totalLen [s, t] = s.size + t.size := by simp [totalLen]

set_option maxHeartbeats 1600000 in
theorem oneKnown_calls (s : ByteArray) (w : World) (_hs : s.size ≤ 140737488351232) : Calls Try.prog 9 #[.string s] w fun e w' => e = .returned (.bool true) ∧ Below w.heap.size w w' := by
  by_cases h0 : 800 < s.size
  · go_enter Try.func9, Try.ntmps9
    go_wp2_with fail
    refine (oneAlive_calls _).mono ?_
    rintro e w1 ⟨rfl, hb1⟩
    have HB1 := Lib.hid hb1; clear hb1
    go_wp2
    go_ret
    exact ⟨rfl, HB1.out⟩
  have h1 : s.size ≤ 800 := by omega
  clear h0 _hs
  obtain ⟨d, hd⟩ : ∃ d, sumB [⟨#[]⟩] = d := ⟨_, rfl⟩
  have hds : d.size = 20 := by rw [← hd, sumB_size]
  have hk := known_empty
  rw [hd] at hk
  have HS := Lib.hid (fun W => oneSum_new [⟨#[]⟩] 1 W rfl (by omega) (by decide))
  rw [hd] at HS
  have HK := Lib.hid hk
  have HX := Lib.hid (fun W => hex_calls d W (by omega))
  obtain ⟨d2, hd2⟩ : ∃ d, sumB [⟨#[97, 98, 99, 100, 98, 99, 100, 101, 99, 100, 101, 102, 100, 101, 102, 103, 101, 102, 103, 104, 102, 103, 104, 105, 103, 104, 105, 106, 104, 105, 106, 107, 105, 106, 107, 108, 106, 107, 108, 109, 107, 108, 109, 110, 108, 109, 110, 111, 109, 110, 111, 112, 110, 111, 112, 113]⟩] = d := ⟨_, rfl⟩
  have hds2 : d2.size = 20 := by rw [← hd2, sumB_size]
  have hk2 := known_two
  rw [hd2] at hk2
  have HS2 := Lib.hid (fun W => oneSum_new [⟨#[97, 98, 99, 100, 98, 99, 100, 101, 99, 100, 101, 102, 100, 101, 102, 103, 101, 102, 103, 104, 102, 103, 104, 105, 103, 104, 105, 106, 104, 105, 106, 107, 105, 106, 107, 108, 106, 107, 108, 109, 107, 108, 109, 110, 108, 109, 110, 111, 109, 110, 111, 112, 110, 111, 112, 113]⟩] 1 W rfl (by omega) (by decide))
  rw [hd2] at HS2
  have HK2 := Lib.hid hk2
  have HX2 := Lib.hid (fun W => hex_calls d2 W (by omega))
  obtain ⟨d3, hd3⟩ : ∃ d, sumB [s] = d := ⟨_, rfl⟩
  have hds3 : d3.size = 20 := by rw [← hd3, sumB_size]
  have HS3 := Lib.hid (fun W => oneSum_new [s] 1 W rfl (by omega) (by rw [total_one]; omega))
  have HS4 := Lib.hid (fun W => oneSum_new [s, ⟨#[]⟩] 2 W rfl (by omega) (by rw [total_two]; have h0 : (⟨#[]⟩ : ByteArray).size = 0 := rfl; omega))
  rw [sumB_nil2, hd3] at HS4
  rw [hd3] at HS3
  have hl3 : (d3.size : Int) = 20 := by omega
  clear hd hk hds hd2 hk2 hds2 hd3 hds3
  go_enter Try.func9, Try.ntmps9
  go_wp2_with fail
  refine (oneAlive_calls _).mono ?_
  rintro e w0 ⟨rfl, hb0⟩
  have HB0 := Lib.hid hb0; clear hb0
  go_wp2_with fail
  refine Calls.mono (HS.out _) ?_
  rintro e w1 ⟨rfl, hb1⟩
  have HB1 := Lib.hid (below_trans' HB0.out hb1); clear hb1
  go_wp2_with fail
  refine Calls.mono (HX.out _) ?_
  rintro e w2 ⟨rfl, hb2⟩
  have HB2 := Lib.hid (below_trans' HB1.out hb2); clear hb2
  rw [show (⟨(hexL d.data.toList).toArray⟩ : ByteArray) = hexB d from rfl, HK.out]
  go_wp2_with fail
  refine Calls.mono (HS2.out _) ?_
  rintro e w3 ⟨rfl, hb3⟩
  have HB3 := Lib.hid (below_trans' HB2.out hb3); clear hb3
  go_wp2_with fail
  refine Calls.mono (HX2.out _) ?_
  rintro e w4 ⟨rfl, hb4⟩
  have HB4 := Lib.hid (below_trans' HB3.out hb4); clear hb4
  rw [show (⟨(hexL d2.data.toList).toArray⟩ : ByteArray) = hexB d2 from rfl, HK2.out]
  go_wp2_with fail
  refine Calls.mono (HS3.out _) ?_
  rintro e w5 ⟨rfl, hb5⟩
  have HB5 := Lib.hid (below_trans' HB4.out hb5); clear hb5
  go_wp2_with fail
  refine Calls.mono (HS3.out _) ?_
  rintro e w6 ⟨rfl, hb6⟩
  have HB6 := Lib.hid (below_trans' HB5.out hb6); clear hb6
  go_wp2_with fail
  refine Calls.mono (HS4.out _) ?_
  rintro e w7 ⟨rfl, hb7⟩
  have HB7 := Lib.hid (below_trans' HB6.out hb7); clear hb7
  go_wp2
  go_ret
  exact ⟨rfl, HB7.out⟩

end Go.Proofs.Yteokcbgaljhpgaa
