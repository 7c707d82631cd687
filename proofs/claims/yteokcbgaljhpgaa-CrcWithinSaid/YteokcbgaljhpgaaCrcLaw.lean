/- The laws of chapter 2: each returns true at every input. -/
import Derived.Test.YteokcbgaljhpgaaCrcSeal
import Derived.Test.YteokcbgaljhpgaaSealPure
import Derived.Test.YteokcbgaljhpgaaBook
namespace Go.Proofs.Yteokcbgaljhpgaa
open Go.RowKit

theorem crcOf_new (l : List ByteArray) (n : Nat) (w : World) (hl : l.length = n) (hn : n ≤ 1000) (hs : ∀ s ∈ l, s.size ≤ 1000000) :
    Calls Try.prog 19 #[.slice (some ⟨w.heap.size, 0, none⟩) n n] (w.alloc (.cells (scells l).toArray 9)) fun e w' => e = .returned (.int .u32 ((crcSum (joinB l).data.toList).toNat : Int)) ∧ Below w.heap.size w w' :=
  (crcOf_calls _ n n l _ hl (by omega) (fun s h => by have := hs s h; omega) (rowAt_alloc w (scells l) _)).mono fun _ _ ⟨he, hb⟩ => ⟨he, ((Below.refl w.heap.size w).alloc (Nat.le_refl _) _).trans (hb.mono (by simp))⟩
theorem crcSeal_new (n : Int) (l : List ByteArray) (k : Nat) (w : World) (hl : l.length = k) (hk : k ≤ 1000) (hn : -9223372036854775808 ≤ n ∧ n ≤ 9223372036854775807) (hs : totalLen l ≤ 1000000) :
    Calls Try.prog 18 #[.int .i64 n, .slice (some ⟨w.heap.size, 0, none⟩) k k] (w.alloc (.cells (scells l).toArray 9)) fun e w' => e = .returned (.tuple #[.string (sealB n (joinB l)).1, .int .i64 (sealB n (joinB l)).2]) ∧ Below w.heap.size w w' := by
  subst hl
  exact (crcSeal_calls _ n _ l _ hn (by omega) (by omega) (rowAt_alloc w (scells l) _)).mono fun _ _ ⟨he, hb⟩ => ⟨he, ((Below.refl w.heap.size w).alloc (Nat.le_refl _) _).trans (hb.mono (by simp))⟩

theorem crc_known : ((crcSum (joinB [⟨#[49, 50, 51, 52]⟩, ⟨#[53, 54, 55, 56, 57]⟩]).data.toList).toNat : Int) = 3421780262 := by
  have h : (joinB [⟨#[49, 50, 51, 52]⟩, ⟨#[53, 54, 55, 56, 57]⟩]).data.toList = [49, 50, 51, 52, 53, 54, 55, 56, 57] := by decide
  rw [h]
  decide +kernel
theorem crcAlive_calls (w : World) : Calls Try.prog 17 #[] w fun e w' => e = .returned (.bool true) ∧ Below w.heap.size w w' := by
  have HS := crcOf_new [⟨#[49, 50, 51, 52]⟩, ⟨#[53, 54, 55, 56, 57]⟩] 2 w rfl (by omega) (by decide)
  rw [crc_known] at HS
  have HC : Box _ := ⟨HS⟩
  clear HS
  go_enter Try.func17, Try.ntmps17
  go_wp2_with fail
  refine Calls.mono HC.out ?_
  rintro e w1 ⟨rfl, hb1⟩
  go_wp2
  go_ret
  exact ⟨rfl, hb1⟩

theorem sealB_ok (n : Nat) (s : ByteArray) (h1 : s.size + 4 ≤ n) (h2 : n ≤ 65536) : sealB (n : Int) s = (sealOk s (n - 4 - s.size), 0) := by
  rw [sealB, if_neg (by omega), if_neg (by omega), Int.toNat_natCast]

set_option maxHeartbeats 3200000 in
theorem crcParts_calls (a b : ByteArray) (w : World) (_ha : a.size ≤ 140737488351232) (_hb : b.size ≤ 140737488351232) :
    Calls Try.prog 3 #[.string a, .string b] w fun e w' => e = .returned (.bool true) ∧ Below w.heap.size w w' := by
  by_cases h1 : 800 < a.size
  · go_enter Try.func3, Try.ntmps3
    go_wp2_with fail
    refine (crcAlive_calls _).mono ?_
    rintro e w1 ⟨rfl, hb1⟩
    go_wp2
    go_ret
    exact ⟨rfl, hb1⟩
  by_cases h2 : 800 < b.size
  · go_enter Try.func3, Try.ntmps3
    go_wp2_with fail
    refine (crcAlive_calls _).mono ?_
    rintro e w1 ⟨rfl, hb1⟩
    go_wp2
    go_ret
    exact ⟨rfl, hb1⟩
  have ha : a.size ≤ 800 := by omega
  have hb : b.size ≤ 800 := by omega
  clear h1 h2 _ha _hb
  have hs : (a ++ b).size ≤ 1600 := by rw [ByteArray.size_append]; omega
  obtain ⟨J, hJJ⟩ : ∃ J, a ++ b = J := ⟨_, rfl⟩
  have hJ : joinB [a, b] = J := by rw [← hJJ]; simp [joinB]
  have hJ2 : joinB [J] = J := by simp [joinB]
  have hJ4 : joinB [⟨#[]⟩, a, ⟨#[]⟩, b] = J := by
    have e : (⟨#[]⟩ : ByteArray) = ByteArray.empty := rfl
    rw [← hJJ, e]; simp [joinB]
  rw [hJJ] at hs
  have hse := sealB_ok 2000 J (by omega) (by omega)
  obtain ⟨q, hq⟩ : ∃ q, sealOk J (2000 - 4 - J.size) = q := ⟨_, rfl⟩
  rw [hq] at hse
  have hall : ∀ s ∈ [a, b], s.size ≤ 1000000 := by intro s hs; simp at hs; rcases hs with rfl | rfl <;> omega
  have hall4 : ∀ s ∈ [(⟨#[]⟩ : ByteArray), a, ⟨#[]⟩, b], s.size ≤ 1000000 := by intro s hs; simp at hs; rcases hs with rfl | rfl | rfl | rfl <;> first | omega | decide
  have S2 : Box _ := ⟨fun W => crcSeal_new 2000 [a, b] 2 W rfl (by omega) (by omega) (by simp [totalLen]; omega)⟩
  have S1 : Box _ := ⟨fun W => crcSeal_new 2000 [J] 1 W rfl (by omega) (by omega) (by simp [totalLen]; omega)⟩
  have O0 : Box _ := ⟨fun W => crcOf_calls none 0 0 [] W rfl (by omega) (by simp) (.nil _ _)⟩
  have O1 : Box _ := ⟨fun W => crcOf_new [J] 1 W rfl (by omega) (all_one (by omega))⟩
  have O2 : Box _ := ⟨fun W => crcOf_new [a, b] 2 W rfl (by omega) hall⟩
  have O4 : Box _ := ⟨fun W => crcOf_new [⟨#[]⟩, a, ⟨#[]⟩, b] 4 W rfl (by omega) hall4⟩
  simp only [hJ, hJ2, hJ4] at S2 S1 O1 O2 O4
  rw [show (2000 : Int) = ((2000 : Nat) : Int) from rfl, hse] at S1 S2
  rw [show (crcSum (joinB []).data.toList).toNat = 0 by decide +kernel] at O0
  obtain ⟨c, hc⟩ : ∃ c, (crcSum J.data.toList).toNat = c := ⟨_, rfl⟩
  rw [hc] at O1 O2 O4
  have HJ : Box (a ++ b = J) := ⟨hJJ⟩
  clear hJ hJ2 hJ4 hJJ hse hq hc hall hall4
  by_cases hab : a = b
  · subst hab
    go_enter Try.func3, Try.ntmps3
    go_wp2_with fail
    refine (crcAlive_calls _).mono ?_
    rintro e w1 ⟨rfl, hb1⟩
    have B1 : Box _ := ⟨hb1⟩; clear hb1
    go_wp2_with fail
    refine (S2.out _).mono ?_
    rintro e w2 ⟨rfl, hb2⟩
    have B2 : Box _ := ⟨below_trans' B1.out hb2⟩; clear hb2 B1
    go_wp2_with fail
    rw [HJ.out]
    refine (S1.out _).mono ?_
    rintro e w3 ⟨rfl, hb3⟩
    have B3 : Box _ := ⟨below_trans' B2.out hb3⟩; clear hb3 B2
    go_wp2_with fail
    refine (O2.out _).mono ?_
    rintro e w4 ⟨rfl, hb4⟩
    have B4 : Box _ := ⟨below_trans' B3.out hb4⟩; clear hb4 B3
    go_wp2_with fail
    rw [HJ.out]
    refine (O1.out _).mono ?_
    rintro e w5 ⟨rfl, hb5⟩
    have B5 : Box _ := ⟨below_trans' B4.out hb5⟩; clear hb5 B4
    go_wp2_with fail
    refine (O4.out _).mono ?_
    rintro e w6 ⟨rfl, hb6⟩
    have B6 : Box _ := ⟨below_trans' B5.out hb6⟩; clear hb6 B5
    go_wp2_with fail
    refine (O2.out _).mono ?_
    rintro e w7 ⟨rfl, hb7⟩
    have B7 : Box _ := ⟨below_trans' B6.out hb7⟩; clear hb7 B6
    go_wp2_with fail
    refine (O2.out _).mono ?_
    rintro e w9 ⟨rfl, hb9⟩
    have B9 : Box _ := ⟨below_trans' B7.out hb9⟩; clear hb9 B7
    go_wp2_with fail
    refine (O2.out _).mono ?_
    rintro e w10 ⟨rfl, hb10⟩
    have B10 : Box _ := ⟨below_trans' B9.out hb10⟩; clear hb10 B9
    go_wp2_with fail
    refine (O0.out _).mono ?_
    rintro e w8 ⟨rfl, hb8⟩
    have B8 : Box _ := ⟨below_trans' B10.out hb8⟩; clear hb8 B10
    go_wp2_with fail
    go_ret
    exact ⟨rfl, B8.out⟩
  · have h0 := str_ne hab
    go_enter Try.func3, Try.ntmps3
    go_wp2_with fail
    refine (crcAlive_calls _).mono ?_
    rintro e w1 ⟨rfl, hb1⟩
    have B1 : Box _ := ⟨hb1⟩; clear hb1
    go_wp2_with fail
    refine (S2.out _).mono ?_
    rintro e w2 ⟨rfl, hb2⟩
    have B2 : Box _ := ⟨below_trans' B1.out hb2⟩; clear hb2 B1
    go_wp2_with fail
    rw [HJ.out]
    refine (S1.out _).mono ?_
    rintro e w3 ⟨rfl, hb3⟩
    have B3 : Box _ := ⟨below_trans' B2.out hb3⟩; clear hb3 B2
    go_wp2_with fail
    refine (O2.out _).mono ?_
    rintro e w4 ⟨rfl, hb4⟩
    have B4 : Box _ := ⟨below_trans' B3.out hb4⟩; clear hb4 B3
    go_wp2_with fail
    rw [HJ.out]
    refine (O1.out _).mono ?_
    rintro e w5 ⟨rfl, hb5⟩
    have B5 : Box _ := ⟨below_trans' B4.out hb5⟩; clear hb5 B4
    go_wp2_with fail
    refine (O4.out _).mono ?_
    rintro e w6 ⟨rfl, hb6⟩
    have B6 : Box _ := ⟨below_trans' B5.out hb6⟩; clear hb6 B5
    go_wp2_with fail
    refine (O2.out _).mono ?_
    rintro e w7 ⟨rfl, hb7⟩
    have B7 : Box _ := ⟨below_trans' B6.out hb7⟩; clear hb7 B6
    go_wp2_with fail
    refine (O0.out _).mono ?_
    rintro e w8 ⟨rfl, hb8⟩
    have B8 : Box _ := ⟨below_trans' B7.out hb8⟩; clear hb8 B7
    go_wp2_with fail
    go_ret
    exact ⟨rfl, B8.out⟩

set_option maxHeartbeats 3200000 in
theorem crcTells_calls (A : Option Addr) (n c : Nat) (l : List ByteArray) (k : Int) (b : ByteArray) (w : World)
    (hl : l.length = n) (_hc : n ≤ c) (hn : n * 16 ≤ 140737488351232) (hs : ∀ s ∈ l, s.size ≤ 140737488351232) (hR : RowAt w A (scells l)) (hk : -9223372036854775808 ≤ k ∧ k ≤ 9223372036854775807) (_hb : b.size ≤ 140737488351232) :
    Calls Try.prog 4 #[.slice A n c, .int .i64 k, .string b] w fun e w' => e = .returned (.bool true) ∧ Below w.heap.size w w' := by
  subst hl
  have HSh := Lib.hid (short_calls 20 2000 A c l w (by omega) (by omega) (by omega) hs hR)
  by_cases hsh : shortB 20 2000 l = true
  case neg =>
    have hsf : shortB 20 2000 l = false := by simpa using hsh
    rw [hsf] at HSh
    clear hsh hsf hR hs
    go_enter Try.func4, Try.ntmps4
    go_wp2_with fail
    refine Calls.mono HSh.out ?_
    rintro e w1 ⟨rfl, hb1⟩
    have HB1 := Lib.hid hb1; clear hb1
    go_wp2_with fail
    refine (crcAlive_calls _).mono ?_
    rintro e w2 ⟨rfl, hb2⟩
    have HB2 := Lib.hid (below_trans' HB1.out hb2); clear hb2
    go_wp2
    go_ret
    exact ⟨rfl, HB2.out⟩
  rw [hsh] at HSh
  have htl : l.length ≤ 20 ∧ totalLen l ≤ 2000 := by simp [shortB] at hsh; omega
  have HT := Lib.hid htl.2
  have hl20 := htl.1
  clear htl hsh
  have HS := Lib.hid hs; clear hs
  have HR := Lib.hid hR; clear hR
  by_cases h2 : 1000 < b.size
  · go_enter Try.func4, Try.ntmps4
    go_wp2_with fail
    refine Calls.mono HSh.out ?_
    rintro e w1 ⟨rfl, hb1⟩
    have HB1 := Lib.hid hb1; clear hb1
    go_wp2_with fail
    refine (crcAlive_calls _).mono ?_
    rintro e w2 ⟨rfl, hb2⟩
    have HB2 := Lib.hid (below_trans' HB1.out hb2); clear hb2
    go_wp2
    go_ret
    exact ⟨rfl, HB2.out⟩
  have hb : b.size ≤ 1000 := by omega
  clear h2 _hb
  go_enter Try.func4, Try.ntmps4
  go_wp2_with fail
  refine Calls.mono HSh.out ?_
  rintro e w1 ⟨rfl, hb1⟩
  have HB1 := Lib.hid hb1; clear hb1 HSh
  go_wp2_with fail
  refine (crcAlive_calls _).mono ?_
  rintro e w2 ⟨rfl, hb2⟩
  have HB2 := Lib.hid (below_trans' HB1.out hb2); clear hb2
  go_wp2_with fail
  refine (join_calls A c l _ (by omega) (by have := HT.out; omega) (HR.out.below HB2.out)).mono ?_
  rintro e w2' ⟨rfl, rfl⟩
  have hss : (joinB l).size ≤ 2000 := by have := HT.out; have := joinB_size l; omega
  go_wp2_with fail
  refine (lentTexts_calls A c l _ (by omega) (HR.out.below HB2.out)).mono ?_
  rintro e w3 ⟨g, cap, rfl, hcap, hrow, hb3⟩
  have HB3 := Lib.hid (below_trans' HB2.out hb3); clear hb3
  have HM := Lib.hid hrow; clear hrow
  go_wp2_with fail
  refine (crcSeal_calls _ k cap l _ hk (by omega) (by have := HT.out; omega) HM.out.left).mono ?_
  rintro e w4 ⟨rfl, hb4⟩
  have HB4 := Lib.hid (below_trans' HB3.out hb4)
  have HM4 := Lib.hid (HM.out.below hb4); clear hb4
  go_wp2_with fail
  refine (refSeal_calls k _ _ ⟨hk.1, by omega⟩ (by omega)).mono ?_
  rintro e w5 ⟨rfl, hb5⟩
  have HB5 := Lib.hid (below_trans' HB4.out hb5)
  have HM5 := Lib.hid (HM4.out.below hb5); clear hb5
  obtain ⟨s1, hs1⟩ : ∃ s1, (sealB k (joinB l)).1 = s1 := ⟨_, rfl⟩
  obtain ⟨s2, hs2⟩ : ∃ s2, (sealB k (joinB l)).2 = s2 := ⟨_, rfl⟩
  rw [hs1, hs2]
  clear hs1 hs2
  go_wp2_with fail
  refine (crcOpen_calls b _ (by omega)).mono ?_
  rintro e w6 ⟨rfl, hb6⟩
  have HB6 := Lib.hid (below_trans' HB5.out hb6)
  have HM6 := Lib.hid (HM5.out.below hb6); clear hb6
  go_wp2_with fail
  refine (refOpen_calls b _ (by omega)).mono ?_
  rintro e w7 ⟨rfl, hb7⟩
  have HB7 := Lib.hid (below_trans' HB6.out hb7)
  have HM7 := Lib.hid (HM6.out.below hb7); clear hb7
  obtain ⟨o1, ho1⟩ : ∃ o1, (openB b).1 = o1 := ⟨_, rfl⟩
  obtain ⟨o2, ho2⟩ : ∃ o2, (openB b).2 = o2 := ⟨_, rfl⟩
  rw [ho1, ho2]
  clear ho1 ho2
  go_wp2_with fail
  refine (crcOf_calls _ _ cap l _ rfl (by omega) HS.out HM7.out.left).mono ?_
  rintro e w8 ⟨rfl, hb8⟩
  have HB8 := Lib.hid (below_trans' HB7.out hb8)
  have HM8 := Lib.hid (HM7.out.below hb8); clear hb8
  go_wp2_with fail
  refine (refCrc_calls _ _ (by omega)).mono ?_
  rintro e w9 ⟨rfl, rfl⟩
  obtain ⟨cc, hcc⟩ : ∃ cc, (crcSum (joinB l).data.toList).toNat = cc := ⟨_, rfl⟩
  rw [hcc]
  clear hcc
  go_wp2_with fail
  refine (staysTexts_calls _ A cap c l l markB _ (by omega) hcap HM8.out (HR.out.below HB8.out)).mono ?_
  rintro e w11 ⟨rfl, hb11⟩
  have HB11 := Lib.hid (below_trans' HB8.out hb11); clear hb11
  rw [show (decide (l = l) && decide (markB = markB)) = true by simp]
  go_wp2
  go_ret
  exact ⟨rfl, HB11.out⟩

set_option maxHeartbeats 3200000 in
set_option maxRecDepth 100000 in
theorem crcChanged_calls (s : ByteArray) (more at_ by_ : Int) (w : World) (_hs : s.size ≤ 140737488351232) (hm : -9223372036854775808 ≤ more ∧ more ≤ 9223372036854775807) (ha : -9223372036854775808 ≤ at_ ∧ at_ ≤ 9223372036854775807) (_hb : -9223372036854775808 ≤ by_ ∧ by_ ≤ 9223372036854775807) :
    Calls Try.prog 5 #[.string s, .int .i64 more, .int .i64 at_, .int .i64 by_] w fun e w' => e = .returned (.bool true) ∧ Below w.heap.size w w' := by
  by_cases hg : s.size ≤ 1500 ∧ 0 ≤ more ∧ more ≤ 500 ∧ 0 ≤ at_ ∧ by_ % 256 ≠ 0
  case neg =>
    have key : ¬ s.size ≤ 1500 ∨ (s.size ≤ 1500 ∧ ¬ 0 ≤ more) ∨ (s.size ≤ 1500 ∧ 0 ≤ more ∧ ¬ more ≤ 500) ∨ (s.size ≤ 1500 ∧ 0 ≤ more ∧ more ≤ 500 ∧ ¬ 0 ≤ at_) ∨ (s.size ≤ 1500 ∧ 0 ≤ more ∧ more ≤ 500 ∧ 0 ≤ at_ ∧ by_ % 256 = 0) := by omega
    clear hg
    rcases key with h1 | ⟨h1, h2⟩ | ⟨h1, h2, h3⟩ | ⟨h1, h2, h3, h4⟩ | ⟨h1, h2, h3, h4, h5⟩
    all_goals
      go_enter Try.func5, Try.ntmps5
      go_wp2_with fail
      refine (crcAlive_calls _).mono ?_
      rintro e w1 ⟨rfl, hb1⟩
      go_wp2
      go_ret
      exact ⟨rfl, hb1⟩
  obtain ⟨g1, g2, g3, g4, g5⟩ := hg
  obtain ⟨m, rfl⟩ : ∃ m : Nat, more = (m : Int) := ⟨more.toNat, by omega⟩
  obtain ⟨a, rfl⟩ : ∃ a : Nat, at_ = (a : Int) := ⟨at_.toNat, by omega⟩
  obtain ⟨y, hy⟩ : ∃ y : UInt8, by_ % 256 = (y.toNat : Int) := ⟨UInt8.ofNat (by_ % 256).toNat, by simp; omega⟩
  have hy0 : y ≠ 0 := by rintro rfl; exact g5 (by rw [hy]; rfl)
  have hyn : ((y.toNat : Int) == 0) = false := by rw [← hy]; simpa using g5
  have hyw : IntKind.u8.wrap by_ = (y.toNat : Int) := by rw [IntKind.wrap_u8']; exact hy
  clear hy g5 _hb hm ha
  have hse := sealB_ok (s.size + 4 + m) s (by omega) (by omega)
  rw [show s.size + 4 + m - 4 - s.size = m by omega] at hse
  have hop := open_seal s m
  have hch := open_changed s m
  have hqs := sealOk_size s m
  obtain ⟨q, hq⟩ : ∃ q, sealOk s m = q := ⟨_, rfl⟩
  rw [hq] at hse hop hch hqs
  have hql := data_length q
  have S1 : Box _ := ⟨fun W => crcSeal_new ((s.size + 4 + m : Nat) : Int) [s] 1 W rfl (by omega) (by omega) (by simp [totalLen]; omega)⟩
  rw [show joinB [s] = s by simp [joinB], hse] at S1
  have O1 : Box _ := ⟨fun W => crcOpen_calls q W (by omega)⟩
  rw [hop] at O1
  have Z1 : Box _ := ⟨fun W => zeros_calls m W (by omega)⟩
  have hq0 : 0 < q.size := by omega
  obtain ⟨j, hj⟩ : ∃ j, a % q.size = j := ⟨_, rfl⟩
  have hjq : j < q.size := by rw [← hj]; exact Nat.mod_lt _ hq0
  have hji : (a : Int) % (q.size : Int) = (j : Int) := by rw [← hj]; simp
  have hjl : j < q.data.toList.length := by rw [hql]; exact hjq
  have hx := hch j (q.data.toList[j] ^^^ y) hjl (xor_ne hy0)
  obtain ⟨x, hxx⟩ : ∃ x, q.data.toList[j] = x := ⟨_, rfl⟩
  have hxa : q.data.toList[j]? = some x := by rw [List.getElem?_eq_getElem hjl, hxx]
  rw [hxx] at hx
  have hxor : bits BinOp.xor IntKind.u8 (x.toNat : Int) (y.toNat : Int) = ((x ^^^ y).toNat : Int) := by rw [u8_xor_nat _ _ x.toNat_lt y.toNat_lt, xor_nat]
  obtain ⟨u, hu⟩ : ∃ u, x ^^^ y = u := ⟨_, rfl⟩
  rw [hu] at hx hxor
  obtain ⟨p, hp⟩ : ∃ p : ByteArray, (⟨(q.data.toList.set j u).toArray⟩ : ByteArray) = p := ⟨_, rfl⟩
  have hps : p.size ≤ 100000 := by rw [← hp, mk_size, List.length_set, hql]; omega
  rw [hp] at hx
  have O2 : Box _ := ⟨fun W => crcOpen_calls p W (by omega)⟩
  rw [hx] at O2
  have HP : Box _ := ⟨hp⟩
  have HXA : Box _ := ⟨hxa⟩
  have HQS := Lib.hid hqs
  have hqm : q.size ≤ 2004 := by omega
  obtain ⟨z, hz⟩ : ∃ z, zerosB m = z := ⟨_, rfl⟩
  rw [hz] at O1 Z1
  have hzs : z.size ≤ 500 := by rw [← hz, zerosB_size]; omega
  have kb := fun (W : World) (s : ByteArray) => Lib.run_convert_string_bytes (P := Try.prog) W 9 39 5 s Try.underlying9 Try.underlying39 Try.underlying5
  have yy : (s.size : Int) + 4 + (m : Int) = ((s.size + 4 + m : Nat) : Int) := by omega
  have HYY := Lib.hid yy
  have HQI : Box ((q.size : Int) = (s.size : Int) + 4 + (m : Int)) := ⟨by omega⟩
  clear hse hop hch hqs hq hql hj hxx hu hp hx hxa hz yy hy0 hjl
  go_enter Try.func5, Try.ntmps5
  go_wp2_with fail
  refine (crcAlive_calls _).mono ?_
  rintro e w1 ⟨rfl, hb1⟩
  have B1 : Box _ := ⟨hb1⟩; clear hb1
  go_wp2_with fail
  rw [HYY.out]
  refine (S1.out _).mono ?_
  rintro e w2 ⟨rfl, hb2⟩
  have B2 : Box _ := ⟨below_trans' B1.out hb2⟩; clear hb2 B1
  go_wp2_with fail
  refine (O1.out _).mono ?_
  rintro e w3 ⟨rfl, hb3⟩
  have B3 : Box _ := ⟨below_trans' B2.out hb3⟩; clear hb3 B2
  have hqq := HQI.out
  go_wp2_with fail
  refine (Z1.out _).mono ?_
  rintro e w4 ⟨rfl, hb4⟩
  have B4 : Box _ := ⟨below_trans' B3.out hb4⟩; clear hb4 B3 hqq
  have hO := Own.bytes w4 5 q (by simp only [maxLen]; omega)
  obtain ⟨c0, f0⟩ := hO.cell (bcells_at HXA.out)
  have hO2 := (hO.set j (by simp [bcells]; exact hjq) (.int .u8 (u.toNat : Int))).1
  have e9 : (bcells q.data.toList).set j (.int .u8 (u.toNat : Int)) = bcells (q.data.toList.set j u) := by simp [bcells, List.map_set]
  rw [e9] at hO2
  obtain ⟨A, c, eA, _, hr, _⟩ := hO2.slice
  injection eA with eA1 eA2 eA3
  subst eA1 eA3
  have hcv := bytes_str Try.prog 39 5 9 Try.underlying39 Try.underlying5 Try.underlying9 _ q.size (grownCap w4 q.size 0 5) (q.data.toList.set j u) _ (by rw [List.length_set]; exact data_length q) hr
  rw [HP.out] at hcv
  have B5 : Box (Below w.heap.size w ((Lib.bytesWorld w4 5 q).setCell ⟨w4.heap.size, j, none⟩ (.int .u8 (u.toNat : Int)))) := ⟨(below_trans' B4.out (bytes_below w4 5 q)).setCell B4.out.size _⟩
  clear hO hO2 e9 eA2 hr B4
  have b1 : (0 : Int) < (q.size : Int) := by omega
  have b2 : (0 : Int) ≤ (j : Int) := by omega
  have b3 : (j : Int) < (q.size : Int) := by omega
  go_wp2_with fail
  refine (O2.out _).mono ?_
  rintro e w6 ⟨rfl, hb6⟩
  have B6 : Box _ := ⟨below_trans' B5.out hb6⟩; clear hb6 B5
  go_wp2_with fail
  go_ret
  exact ⟨rfl, B6.out⟩

def sealN (s : ByteArray) : Nat → ByteArray
  | 0 => s
  | k + 1 => sealOk (sealN s k) 0
theorem sealN_size (s : ByteArray) (k : Nat) : (sealN s k).size = s.size + 4 * k := by
  induction k with
  | zero => rfl
  | succ k ih => rw [sealN, sealOk_size, ih]; omega
theorem sealN_open (s : ByteArray) (k : Nat) : openB (sealN s (k + 1)) = (sealN s k, 0) := by
  rw [sealN, open_seal]
  have : zerosB 0 = ByteArray.empty := rfl
  rw [this, ByteArray.append_empty]

set_option maxHeartbeats 3200000 in
set_option maxRecDepth 100000 in
theorem crcWithin_calls (s : ByteArray) (n : Int) (w : World) (_hs : s.size ≤ 140737488351232) (_hn : -9223372036854775808 ≤ n ∧ n ≤ 9223372036854775807) :
    Calls Try.prog 6 #[.string s, .int .i64 n] w fun e w' => e = .returned (.bool true) ∧ Below w.heap.size w w' := by
  by_cases hg : s.size ≤ 500 ∧ 0 ≤ n ∧ n ≤ 6
  case neg =>
    have key : ¬ s.size ≤ 500 ∨ (s.size ≤ 500 ∧ ¬ 0 ≤ n) ∨ (s.size ≤ 500 ∧ 0 ≤ n ∧ ¬ n ≤ 6) := by omega
    clear hg
    rcases key with h1 | ⟨h1, h2⟩ | ⟨h1, h2, h3⟩
    all_goals
      go_enter Try.func6, Try.ntmps6
      go_wp2_with fail
      refine (crcAlive_calls _).mono ?_
      rintro e w1 ⟨rfl, hb1⟩
      go_wp2
      go_ret
      exact ⟨rfl, hb1⟩
  obtain ⟨g1, g2, g3⟩ := hg
  obtain ⟨m, rfl⟩ : ∃ m : Nat, n = (m : Int) := ⟨n.toNat, by omega⟩
  have hm : m ≤ 6 := by omega
  clear _hs _hn
  go_enter Try.func6, Try.ntmps6
  go_wp2_with fail
  refine (crcAlive_calls _).mono ?_
  rintro e w1 ⟨rfl, hb1⟩
  have B1 : Box _ := ⟨hb1⟩; clear hb1
  go_wp2_with fail
  go_loopw [5, 6] (fun b i wr => ∃ k : Nat, k ≤ m ∧ i = .int .i64 (k : Int) ∧ b = .string (sealN s k) ∧ Box (Below w.heap.size w wr)) (fun _ i _ => m - (intOf i).toNat)
  case atStart => exact ⟨0, by omega, rfl, rfl, B1⟩
  case round =>
    obtain ⟨k, hk, rfl, rfl, B⟩ := hrel
    by_cases hlt : k < m
    · have hsz := sealN_size s k
      have hse := sealB_ok ((sealN s k).size + 4) (sealN s k) (by omega) (by omega)
      rw [show (sealN s k).size + 4 - 4 - (sealN s k).size = 0 by omega, show sealOk (sealN s k) 0 = sealN s (k + 1) from rfl] at hse
      obtain ⟨b, hb⟩ : ∃ b, sealN s k = b := ⟨_, rfl⟩
      obtain ⟨q, hq⟩ : ∃ q, sealN s (k + 1) = q := ⟨_, rfl⟩
      rw [hb, hq] at hse
      rw [hb] at hsz
      have hbs : b.size ≤ 600 := by omega
      have S1 : Box _ := ⟨fun W => crcSeal_new ((b.size + 4 : Nat) : Int) [b] 1 W rfl (by omega) (by omega) (by simp [totalLen]; omega)⟩
      rw [show joinB [b] = b by simp [joinB], hse] at S1
      have HY : Box ((b.size : Int) + 4 = ((b.size + 4 : Nat) : Int)) := ⟨by omega⟩
      have HQ : Box _ := ⟨hq⟩
      rw [hb]
      clear hb hq hse hsz
      go_wp2_with fail
      rw [HY.out]
      refine (S1.out _).mono ?_
      rintro e w2 ⟨rfl, hb2⟩
      have B2 : Box _ := ⟨below_trans' B.out hb2⟩; clear hb2
      go_wp2_with fail
      go_roundw
      case rel => exact ⟨k + 1, by omega, by go_num, by rw [HQ.out], B2⟩
      case measure => simp [intOf]; omega
    · obtain rfl : k = m := by omega
      go_wp2_with fail
      go_loopw [5, 9] (fun b i wr => ∃ j : Nat, j ≤ k ∧ i = .int .i64 (j : Int) ∧ b = .string (sealN s (k - j)) ∧ Box (Below w.heap.size w wr)) (fun _ i _ => k - (intOf i).toNat)
      case atStart => exact ⟨0, by omega, rfl, rfl, B⟩
      case round =>
        obtain ⟨j, hj, rfl, rfl, B⟩ := hrel
        by_cases hlt : j < k
        · have hop := sealN_open s (k - (j + 1))
          rw [show k - (j + 1) + 1 = k - j by omega] at hop
          have hsz := sealN_size s (k - j)
          obtain ⟨b, hb⟩ : ∃ b, sealN s (k - j) = b := ⟨_, rfl⟩
          obtain ⟨q, hq⟩ : ∃ q, sealN s (k - (j + 1)) = q := ⟨_, rfl⟩
          rw [hb, hq] at hop
          rw [hb] at hsz
          have O1 : Box _ := ⟨fun W => crcOpen_calls b W (by omega)⟩
          rw [hop] at O1
          have HQ : Box _ := ⟨hq⟩
          rw [hb]
          clear hb hq hop hsz
          go_wp2_with fail
          refine (O1.out _).mono ?_
          rintro e w2 ⟨rfl, hb2⟩
          have B2 : Box _ := ⟨below_trans' B.out hb2⟩; clear hb2
          go_wp2_with fail
          go_roundw
          case rel => exact ⟨j + 1, by omega, by go_num, by rw [HQ.out], B2⟩
          case measure => simp [intOf]; omega
        · obtain rfl : j = k := by omega
          rw [Nat.sub_self, show sealN s 0 = s from rfl]
          obtain ⟨i, hi⟩ : ∃ i, j % 4 = i := ⟨_, rfl⟩
          have hii : (j : Int) % 4 = (i : Int) := by omega
          have hi4 : i < 4 := by omega
          have O1 : Box _ := ⟨fun W => crcOpen_calls ((⟨#[97, 98, 99]⟩ : ByteArray).extract 0 i) W (by rw [ByteArray.size_extract]; simp [ByteArray.size]; omega)⟩
          rw [show openB ((⟨#[97, 98, 99]⟩ : ByteArray).extract 0 i) = (ByteArray.empty, 5) by rw [openB, if_pos]; rw [ByteArray.size_extract]; simp [ByteArray.size]; omega] at O1
          have c1 : (0 : Int) ≤ (i : Int) := by omega
          have c2 : (i : Int) ≤ 3 := by omega
          clear hi
          go_wp2_with fail
          refine (O1.out _).mono ?_
          rintro e w2 ⟨rfl, hb2⟩
          have B2 : Box _ := ⟨below_trans' B.out hb2⟩; clear hb2
          go_wp2_with fail
          go_ret
          exact ⟨rfl, B2.out⟩
end Go.Proofs.Yteokcbgaljhpgaa
