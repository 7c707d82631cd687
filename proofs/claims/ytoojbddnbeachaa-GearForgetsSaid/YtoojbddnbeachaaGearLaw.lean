/- The laws of chapter 5: each returns true at every input; what was handed in is as it was. -/
import Derived.Test.YtoojbddnbeachaaGear
import Derived.Test.YtoojbddnbeachaaOwn
namespace Go.Proofs.Ytoojbddnbeachaa
open Go.RowKit

set_option maxHeartbeats 800000 in
theorem gearAlive_calls (w : World) :
    Calls Try.prog 15 #[] w fun e w' => e = .returned (.bool true) ∧ Below w.heap.size w w' := by
  have h1 : (roll 0 [7] == gearI 7) = true := by decide +kernel
  have h3 : (roll 1 [] == 1) = true := by decide +kernel
  have hr : RowAt (w.alloc (.cells #[.int .u8 7] 5)) (some ⟨w.heap.size, 0, none⟩) (bcells [7]) := rowAt_alloc w (bcells [7]) _
  have HR := Lib.hid hr; clear hr
  go_enter Try.func15, Try.ntmps15
  go_wp2_with fail
  refine (roll_calls 0 _ 1 1 [7] _ (by omega) rfl HR.out).mono ?_
  rintro e w' ⟨rfl, rfl⟩
  go_wp2_with fail
  refine (value_calls 7 _ (by omega) (by omega)).mono ?_
  rintro e w' ⟨rfl, rfl⟩
  go_wp2_with fail
  refine (value_calls 7 _ (by omega) (by omega)).mono ?_
  rintro e w' ⟨rfl, rfl⟩
  go_wp2_with fail
  refine (refGear_calls 7 _ (by omega) (by omega)).mono ?_
  rintro e w' ⟨rfl, rfl⟩
  go_wp2_with fail
  refine (roll_calls 1 none 0 0 [] _ (by omega) rfl (.inl rfl)).mono ?_
  rintro e w' ⟨rfl, rfl⟩
  go_wp2
  go_ret
  exact ⟨rfl, (Below.refl _ _).alloc (Nat.le_refl _) _⟩

theorem u64_wrap (x : Int) : IntKind.u64.wrap x = x % 18446744073709551616 := by
  simp [IntKind.wrap, IntKind.signed, IntKind.bits]
theorem roll1_eq (h : Int) (b : UInt8) : ∃ k : Int, roll1 h b = h * 2 + gearI b.toNat + k * 18446744073709551616 := by
  simp only [roll1, u64_wrap]
  exact ⟨-((h * 2 % 18446744073709551616 + gearI b.toNat) / 18446744073709551616) - (h * 2) / 18446744073709551616, by omega⟩
theorem roll1_range (h : Int) (b : UInt8) : 0 ≤ roll1 h b ∧ roll1 h b < 18446744073709551616 := by
  simp only [roll1, u64_wrap]; omega
theorem roll_diff (l : List UInt8) : ∀ h h' : Int, ∃ k : Int, roll h l - roll h' l = (h - h') * 2 ^ l.length + k * 18446744073709551616 := by
  induction l with
  | nil => intro h h'; exact ⟨0, by simp [roll]⟩
  | cons b l ih =>
    intro h h'
    obtain ⟨k, hk⟩ := ih (roll1 h b) (roll1 h' b)
    obtain ⟨p, hp⟩ := roll1_eq h b
    obtain ⟨q, hq⟩ := roll1_eq h' b
    refine ⟨k + (p - q) * 2 ^ l.length, ?_⟩
    have e : roll h (b :: l) - roll h' (b :: l) = roll (roll1 h b) l - roll (roll1 h' b) l := rfl
    have e2 : roll1 h b - roll1 h' b = (h - h') * 2 + (p - q) * 18446744073709551616 := by omega
    have e3 : (2 : Int) ^ (b :: l).length = 2 * 2 ^ l.length := by rw [List.length_cons, Int.pow_succ]; omega
    rw [e, hk, e2, e3]
    generalize (2 : Int) ^ l.length = z
    rw [Int.add_mul, Int.add_mul, Int.mul_assoc, Int.mul_assoc (p - q), Int.mul_comm 18446744073709551616 z, ← Int.mul_assoc]
    simp only [Int.mul_assoc]
    omega
theorem roll_range (l : List UInt8) (h : Int) (hl : l ≠ []) : 0 ≤ roll h l ∧ roll h l < 18446744073709551616 := by
  obtain ⟨m, x, rfl⟩ : ∃ m x, l = m ++ [x] := ⟨l.dropLast, l.getLast hl, (List.dropLast_concat_getLast hl).symm⟩
  rw [roll, List.foldl_append]
  exact roll1_range _ _
theorem roll_forgets (l : List UInt8) (h h' : Int) (hl : 64 ≤ l.length) : roll h l = roll h' l := by
  obtain ⟨k, hk⟩ := roll_diff l h h'
  have h1 := roll_range l h (by intro e; simp [e] at hl)
  have h2 := roll_range l h' (by intro e; simp [e] at hl)
  have e : (2 : Int) ^ l.length = 18446744073709551616 * 2 ^ (l.length - 64) := by
    rw [show l.length = 64 + (l.length - 64) by omega, Int.pow_add, Nat.add_sub_cancel_left]
    rfl
  rw [e] at hk
  have e2 : (h - h') * (18446744073709551616 * 2 ^ (l.length - 64)) = ((h - h') * 2 ^ (l.length - 64)) * 18446744073709551616 := by
    rw [Int.mul_comm 18446744073709551616, Int.mul_assoc]
  rw [e2] at hk
  generalize (h - h') * 2 ^ (l.length - 64) = z at hk
  omega

set_option maxHeartbeats 2000000 in
theorem gearForgets_calls (s a b : ByteArray) (w : World) (hs : s.size ≤ 140737488351232) (ha : a.size ≤ 140737488351232) (hb : b.size ≤ 140737488351232) :
    Calls Try.prog 4 #[.string s, .string a, .string b] w fun e w' => e = .returned (.bool true) ∧ Below w.heap.size w w' := by
  have kb := fun (W : World) (s : ByteArray) => Lib.run_convert_string_bytes (P := Try.prog) W 9 28 5 s Try.underlying9 Try.underlying28 Try.underlying5
  by_cases hbig : s.size ≤ 1000 ∧ a.size ≤ 1000 ∧ b.size ≤ 1000
  case neg =>
    go_enter Try.func4, Try.ntmps4
    by_cases h1 : s.size ≤ 1000
    all_goals by_cases h2 : a.size ≤ 1000
    all_goals by_cases h3 : b.size ≤ 1000
    all_goals first | (exfalso; omega) | skip
    all_goals
      clear hbig
      go_wp2_with fail
      refine (gearAlive_calls _).mono ?_
      rintro e w1 ⟨rfl, hb1⟩
      have HB := Lib.hid hb1; clear hb1
      go_wp2
      go_ret
      exact ⟨rfl, HB.out⟩
  obtain ⟨h1, h2, h3⟩ := hbig
  have HE : Hid (roll (roll 0 (joinB [a]).data.toList) b.data.toList = roll 0 (joinB [a ++ b]).data.toList) := by
    rw [Hid, ← roll_append]; simp [joinB, ByteArray.data_append]
  have HF : Hid (64 ≤ s.size → roll 0 (joinB [a, s]).data.toList = roll 0 (joinB [b, s]).data.toList) := by
    intro h
    have e : ∀ x : ByteArray, roll 0 (joinB [x, s]).data.toList = roll (roll 0 x.data.toList) s.data.toList := by
      intro x; rw [← roll_append]; simp [joinB, ByteArray.data_append]
    rw [e, e]
    exact roll_forgets _ _ _ (by rw [data_length]; exact h)
  go_enter Try.func4, Try.ntmps4
  go_wp2_with fail
  refine (gearAlive_calls _).mono ?_
  rintro e w1 ⟨rfl, hb1⟩
  have HB1 := Lib.hid hb1; clear hb1
  go_wp2_with fail
  refine (of_calls _ 1 1 [a] _ (by omega) rfl (by simp; omega) (rowAt_alloc w1 [.string a] _)).mono ?_
  rintro e w2 ⟨rfl, hb2⟩
  have HB2 := Lib.hid (below_trans' (HB1.out.alloc HB1.out.size _) hb2); clear hb2
  go_wp2_with fail
  refine (roll_calls _ _ _ _ b.data.toList _ (by omega) (data_length b) (bytes_row _ _ _)).mono ?_
  rintro e w3 ⟨rfl, rfl⟩
  have hab : (a ++ b).size ≤ 2000 := by rw [ByteArray.size_append]; omega
  go_wp2_with fail
  refine (of_calls _ 1 1 [a ++ b] _ (by omega) rfl (by simp; omega) (rowAt_alloc _ [.string (a ++ b)] _)).mono ?_
  rintro e w4 ⟨rfl, hb4⟩
  have HB4 := Lib.hid (below_trans' (Below.alloc (below_trans' HB2.out (bytes_below _ _ _)) (below_trans' HB2.out (bytes_below _ _ _)).size _) hb4); clear hb4
  rw [HE.out]
  by_cases h64 : s.size < 64
  · go_wp2
    go_ret
    exact ⟨rfl, HB4.out⟩
  have hF := beq_iff_eq.2 (HF.out (by omega))
  go_wp2_with fail
  refine (of_calls _ 2 2 [a, s] _ (by omega) rfl (by simp; omega) (rowAt_alloc _ [.string a, .string s] _)).mono ?_
  rintro e w5 ⟨rfl, hb5⟩
  have HB5 := Lib.hid (below_trans' (HB4.out.alloc HB4.out.size _) hb5); clear hb5
  go_wp2_with fail
  refine (of_calls _ 2 2 [b, s] _ (by omega) rfl (by simp; omega) (rowAt_alloc _ [.string b, .string s] _)).mono ?_
  rintro e w6 ⟨rfl, hb6⟩
  have HB6 := Lib.hid (below_trans' (HB5.out.alloc HB5.out.size _) hb6); clear hb6
  go_wp2
  go_ret
  exact ⟨rfl, HB6.out⟩


theorem roll_one (h : Int) (x : UInt8) : roll h [x] = IntKind.u64.wrap (IntKind.u64.wrap (h * 2) + gearI x.toNat) := rfl
set_option maxHeartbeats 2000000 in
theorem gearSteps_calls (h : Int) (A : Option Addr) (n c : Nat) (l : List UInt8) (w : World) (_hr : 0 ≤ h ∧ h < 18446744073709551616) (hl : l.length = n) (hc : n ≤ c) (hn : n * 1 ≤ 140737488351232) (hR : RowAt w A (bcells l)) :
    Calls Try.prog 5 #[.int .u64 h, .slice A n c] w fun e w' => e = .returned (.bool true) ∧ Below w.heap.size w w' := by
  by_cases hbig : n ≤ 300
  case neg =>
    clear hR
    go_enter Try.func5, Try.ntmps5
    go_wp2_with fail
    refine (gearAlive_calls _).mono ?_
    rintro e w1 ⟨rfl, hb1⟩
    have HB := Lib.hid hb1; clear hb1
    go_wp2
    go_ret
    exact ⟨rfl, HB.out⟩
  subst hl
  have HR := Lib.hid hR; clear hR
  go_enter Try.func5, Try.ntmps5
  go_wp2_with fail
  refine (gearAlive_calls _).mono ?_
  rintro e w1 ⟨rfl, hb1⟩
  have HB1 := Lib.hid hb1; clear hb1
  go_wp2
  go_loopw [5, 6] (fun x i wr => ∃ k : Nat, k ≤ l.length ∧ i = .int .i64 k ∧ x = .int .u64 (roll h (l.take k)) ∧ Hid (Below w.heap.size w wr)) (fun _ i _ => l.length - (intOf i).toNat)
  case atStart => exact ⟨0, Nat.zero_le _, rfl, rfl, HB1.out⟩
  case round =>
    obtain ⟨k, hk, rfl, rfl, HW⟩ := hrel
    by_cases hlt : k < l.length
    · obtain ⟨x, hx⟩ := some_at hlt
      obtain ⟨ad, rfl, hcx⟩ := (HR.out.below HW.out).get (bcells_at hx)
      have HX := Lib.hid hx; clear hx
      have hx2 : (x.toNat : Int) ≤ 255 := by have := x.toNat_lt; omega
      have HS : Hid (roll (roll h (l.take k)) [x] = roll h (l.take (k + 1))) := by rw [Hid, take_snoc_of HX.out, roll_append]
      have hrow : RowAt (wr.alloc (.cells #[.int .u8 x.toNat] 5)) (some ⟨wr.heap.size, 0, none⟩) (bcells [x]) := rowAt_alloc wr (bcells [x]) _
      have HRow := Lib.hid hrow; clear hrow
      go_wp2_with fail
      refine (roll_calls _ _ 1 1 [x] _ (by omega) rfl HRow.out).mono ?_
      rintro e w3 ⟨rfl, rfl⟩
      rw [HS.out]
      go_wp2_with fail
      refine (roll_calls _ _ (k + 1) c (l.take (k + 1)) _ (by omega) (by rw [List.length_take]; omega) ((HR.out.below HW.out).alloc _ |>.take_b _)).mono ?_
      rintro e w3 ⟨rfl, rfl⟩
      by_cases hk0 : k = 0
      · subst hk0
        go_wp2_with fail
        go_quiet (fail)
        go_wp2
        go_roundw
        case rel => exact ⟨1, by omega, rfl, rfl, below_drewN (HW.out.alloc HW.out.size _) _⟩
        case measure => simp [intOf]; omega
      · have HQ : (roll h (l.take (k + 1)) != IntKind.u64.wrap (IntKind.u64.wrap (roll h (l.take k) * 2) + gearI x.toNat)) = false := by
          rw [bne_eq_false_iff_eq, ← HS.out, roll_one]
        have hk1 : 0 < k := by omega
        have hkk : decide ((0 : Int) < (k : Int)) = true := by simp; omega
        have hkn : decide (0 < k) = true := by simp; omega
        have hkc : (k : Int) ≤ (c : Int) := by omega
        have hkc2 : k ≤ c := by omega
        have hcx2 := cell_kept (Below.alloc (Below.refl _ wr) (Nat.le_refl _) (.cells #[.int .u8 x.toNat] 5)) (Nat.le_refl _) hcx
        go_wp2_with fail
        go_quiet ((first | (go_at_call 20; exact quiet_same (roll_calls _ _ k c (l.take k) _ (by omega) (by rw [List.length_take]; omega) ((HR.out.below (below_drewN (HW.out.alloc HW.out.size _) _)).take_b _))) | (go_at_call 18; exact quiet_same (value_calls _ _ (by omega) hx2))))
        go_wp2
        go_roundw
        case rel => exact ⟨k + 1, by omega, by go_num, rfl, below_drewN (HW.out.alloc HW.out.size _) _⟩
        case measure => simp [intOf]; omega
    · obtain rfl : k = l.length := by omega
      have hcv := bytes_str Try.prog 28 5 9 Try.underlying28 Try.underlying5 Try.underlying9 A _ c l wr rfl (HR.out.below HW.out)
      have h0 : (roll h [] == h) = true := by simp [roll]
      go_wp2_with fail
      refine (roll_calls h none 0 0 [] _ (by omega) rfl (.inl rfl)).mono ?_
      rintro e w4 ⟨rfl, rfl⟩
      go_wp2_with fail
      refine (of_calls _ 1 1 [⟨l.toArray⟩] _ (by omega) rfl (all_one (by rw [mk_size]; omega)) (rowAt_alloc wr [.string ⟨l.toArray⟩] _)).mono ?_
      rintro e w5 ⟨rfl, hb5⟩
      have HB5 := Lib.hid (below_trans' (HW.out.alloc HW.out.size _) hb5); clear hb5
      go_wp2_with fail
      refine (roll_calls 0 _ _ c l _ (by omega) rfl (HR.out.below HB5.out)).mono ?_
      rintro e w6 ⟨rfl, rfl⟩
      have HE : (roll 0 (joinB [(⟨l.toArray⟩ : ByteArray)]).data.toList == roll 0 l) = true := by rw [beq_iff_eq]; simp [joinB]
      go_wp2
      go_ret
      exact ⟨rfl, HB5.out⟩


theorem el_bytes : El Try.prog 28 5 1 1 := El.mk' Try.underlying28 (z := .int .u8 0) (by kernel_rfl) (by decide)

set_option maxHeartbeats 4000000 in
theorem gearTells_calls (h b : Int) (A : Option Addr) (n c : Nat) (l : List ByteArray) (w : World) (_hr : 0 ≤ h ∧ h < 18446744073709551616) (hb : 0 ≤ b ∧ b ≤ 255)
    (hl : l.length = n) (_hc : n ≤ c) (hn : n * 16 ≤ 140737488351232) (hs : ∀ s ∈ l, s.size ≤ 140737488351232) (hR : RowAt w A (scells l)) :
    Calls Try.prog 3 #[.int .u64 h, .int .u8 b, .slice A n c] w fun e w' => e = .returned (.bool true) ∧ Below w.heap.size w w' := by
  subst hl
  have HSh := Lib.hid (short_calls 20 2000 A c l w (by omega) (by omega) (by omega) hs hR)
  by_cases hsh : shortB 20 2000 l = true
  case neg =>
    have hsf : shortB 20 2000 l = false := by simpa using hsh
    rw [hsf] at HSh
    clear hsh hsf hR hs
    go_enter Try.func3, Try.ntmps3
    go_wp2_with fail
    refine Calls.mono HSh.out ?_
    rintro e w1 ⟨rfl, hb1⟩
    have HB1 := Lib.hid hb1; clear hb1
    go_wp2_with fail
    refine (gearAlive_calls _).mono ?_
    rintro e w2 ⟨rfl, hb2⟩
    have HB2 := Lib.hid (below_trans' HB1.out hb2); clear hb2
    go_wp2
    go_ret
    exact ⟨rfl, HB2.out⟩
  rw [hsh] at HSh
  have htl : l.length ≤ 20 ∧ totalLen l ≤ 2000 := by simp [shortB] at hsh; omega
  have HT := Lib.hid htl.2
  have hl20 := htl.1
  clear htl hsh
  have HR := Lib.hid hR; clear hR
  have HS := Lib.hid hs; clear hs
  have kb := fun (W : World) (s : ByteArray) => Lib.run_convert_string_bytes (P := Try.prog) W 9 28 5 s Try.underlying9 Try.underlying28 Try.underlying5
  go_enter Try.func3, Try.ntmps3
  go_wp2_with fail
  refine Calls.mono HSh.out ?_
  rintro e w1 ⟨rfl, hb1⟩
  have HB1 := Lib.hid hb1; clear hb1 HSh
  go_wp2_with fail
  refine (gearAlive_calls _).mono ?_
  rintro e w2 ⟨rfl, hb2⟩
  have HB2 := Lib.hid (below_trans' HB1.out hb2); clear hb2
  go_wp2_with fail
  refine (lentTexts_calls A c l _ (by omega) (HR.out.below HB2.out)).mono ?_
  rintro e w3 ⟨g, cap, rfl, hcap, hrow, hb3⟩
  have HB3 := Lib.hid (below_trans' HB2.out hb3); clear hb3
  have HM := Lib.hid hrow; clear hrow
  go_wp2_with fail
  refine (join_calls A c l _ (by omega) (by have := HT.out; omega) (HR.out.below HB3.out)).mono ?_
  rintro e w4 ⟨rfl, rfl⟩
  obtain ⟨s, hsj⟩ : ∃ s, joinB l = s := ⟨_, rfl⟩
  rw [hsj]
  have HJ := Lib.hid hsj; clear hsj
  have hss : s.size ≤ 2000 := by have := HT.out; have := joinB_size l; rw [HJ.out] at this; omega
  go_wp2_with (at_builtin; refine appO el_bytes w3.heap.size rfl _ _ rfl rfl ((Own.bytes w3 _ s (by simp only [maxLen]; omega)).alloc _) (news := bcells [77]) rfl rfl (rowAt_alloc _ (bcells [77]) _) (one_bcells _) (by omega) (by simp [Lib.bytesWorld_size]; omega) ?_; intro v5 w5 hown5 hg5 _; obtain ⟨g5, cap5, rfl, hgb, hgl, hcap5, hrow5⟩ := hown5.form (by omega))
  have h35 : Below w3.heap.size w3 w5 := Own.grown_below ((Own.bytes w3 5 s (by simp only [maxLen]; omega)).alloc _) (Below.alloc (bytes_below _ _ _) (bytes_below _ _ _).size (.cells (bcells [77]).toArray 5)) hg5 (Nat.le_refl _)
  clear hg5
  have HB5 := Lib.hid (below_trans' HB3.out h35)
  have HM5 := Lib.hid (HM.out.below h35); clear h35
  have HO5 := Lib.hid hrow5; clear hrow5 hown5
  go_wp2_with fail
  refine (value_calls b _ hb.1 hb.2).mono ?_
  rintro e w' ⟨rfl, rfl⟩
  go_wp2_with fail
  refine (refGear_calls b _ hb.1 hb.2).mono ?_
  rintro e w' ⟨rfl, rfl⟩
  go_wp2_with fail
  refine (roll_calls h _ _ _ s.data.toList _ (by omega) (data_length s) HO5.out.left).mono ?_
  rintro e w' ⟨rfl, rfl⟩
  go_wp2_with fail
  refine (refRoll_calls h s _ (by omega)).mono ?_
  rintro e w' ⟨rfl, rfl⟩
  go_wp2_with fail
  refine (of_calls _ _ _ l _ (by omega) rfl HS.out HM5.out.left).mono ?_
  rintro e w6 ⟨rfl, hb6⟩
  have HB6 := Lib.hid (below_trans' HB5.out hb6)
  have HM6 := Lib.hid (HM5.out.below hb6)
  have HO6 := Lib.hid (HO5.out.below hb6); clear hb6
  rw [HJ.out]
  go_wp2_with fail
  refine (refRoll_calls 0 s _ (by omega)).mono ?_
  rintro e w' ⟨rfl, rfl⟩
  go_wp2_with fail
  refine (staysTexts_calls _ A cap c l l markB _ (by omega) hcap HM6.out (HR.out.below HB6.out)).mono ?_
  rintro e w7 ⟨rfl, hb7⟩
  have HB7 := Lib.hid (below_trans' HB6.out hb7)
  have h77 := (HO6.out.below hb7)
  clear hb7
  have hcv := bytes_str Try.prog 28 5 9 Try.underlying28 Try.underlying5 Try.underlying9 _ s.size cap5 s.data.toList w7 (data_length s) h77.left
  rw [mk_data] at hcv
  obtain ⟨ad7, had, hcell⟩ := h77.get (j := s.size) (u := .int .u8 77) (by rw [List.getElem?_append_right (by simp [bcells])]; simp [bcells])
  simp only [Option.some.injEq] at had
  subst had
  rw [add0] at hcell
  clear h77
  rw [show (decide (l = l) && decide (markB = markB)) = true by simp]
  go_wp2
  go_ret
  exact ⟨rfl, HB7.out⟩

end Go.Proofs.Ytoojbddnbeachaa
