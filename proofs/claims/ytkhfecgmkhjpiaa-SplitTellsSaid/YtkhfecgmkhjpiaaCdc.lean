/- Package cdc and its reference: what each function computes. -/
import Derived.Test.YtkhfecgmkhjpiaaOwn
import Derived.Test.YtkhfecgmkhjpiaaBook
import Derived.Test.YtkhfecgmkhjpiaaGear
import Derived.Test.YtkhfecgmkhjpiaaFixed
import Derived.Test.YtkhfecgmkhjpiaaStrs
namespace Go.Proofs.Ytkhfecgmkhjpiaa
open Go.RowKit
set_option linter.unusedVariables false
attribute [local go_sem] max2_int min2_int max_two min_two

/-- A rule: least, middle, most, hard, soft. -/
abbrev rule (a b c h s : Int) : Value := .agg #[.int .i64 a, .int .i64 b, .int .i64 c, .int .i64 h, .int .i64 s]
def validB (a b c h s : Int) : Bool := decide (1 ≤ a ∧ a ≤ b ∧ b ≤ c ∧ c ≤ 4096 ∧ 0 ≤ h ∧ 0 ≤ s ∧ h ≤ 20 ∧ s ≤ 20)

set_option maxHeartbeats 1600000 in
theorem valid_calls (a b c h s : Int) (w : World) :
    Calls Try.prog 31 #[rule a b c h s] w fun e w' => e = .returned (.bool (validB a b c h s)) ∧ Below w.heap.size w w' := by
  obtain ⟨m, hm⟩ : ∃ m : Int, min h s = m := ⟨_, rfl⟩
  obtain ⟨M, hM⟩ : ∃ M : Int, max h s = M := ⟨_, rfl⟩
  have HV : Hid (validB a b c h s = decide (1 ≤ a ∧ a ≤ b ∧ b ≤ c ∧ c ≤ 4096 ∧ 0 ≤ m ∧ M ≤ 20)) := by
    simp only [Hid, validB, decide_eq_decide]; omega
  by_cases h1 : 1 ≤ a
  case neg =>
    go_enter Try.func31, Try.ntmps31
    go_wp2
    go_ret
    exact ⟨ret_bool (by rw [HV.out]; first | exact (decide_eq_false (by omega)).symm | exact (decide_eq_true (by omega)).symm), (Below.refl _ _).alloc (Nat.le_refl _) _⟩
  by_cases h2 : a ≤ b
  case neg =>
    go_enter Try.func31, Try.ntmps31
    go_wp2
    go_ret
    exact ⟨ret_bool (by rw [HV.out]; first | exact (decide_eq_false (by omega)).symm | exact (decide_eq_true (by omega)).symm), (Below.refl _ _).alloc (Nat.le_refl _) _⟩
  by_cases h3 : b ≤ c
  case neg =>
    go_enter Try.func31, Try.ntmps31
    go_wp2
    go_ret
    exact ⟨ret_bool (by rw [HV.out]; first | exact (decide_eq_false (by omega)).symm | exact (decide_eq_true (by omega)).symm), (Below.refl _ _).alloc (Nat.le_refl _) _⟩
  by_cases h4 : c ≤ 4096
  case neg =>
    go_enter Try.func31, Try.ntmps31
    go_wp2
    go_ret
    exact ⟨ret_bool (by rw [HV.out]; first | exact (decide_eq_false (by omega)).symm | exact (decide_eq_true (by omega)).symm), (Below.refl _ _).alloc (Nat.le_refl _) _⟩
  by_cases h5 : 0 ≤ m
  case neg =>
    go_enter Try.func31, Try.ntmps31
    go_wp2
    go_ret
    exact ⟨ret_bool (by rw [HV.out]; first | exact (decide_eq_false (by omega)).symm | exact (decide_eq_true (by omega)).symm), (Below.refl _ _).alloc (Nat.le_refl _) _⟩
  by_cases h6 : M ≤ 20
  case neg =>
    go_enter Try.func31, Try.ntmps31
    go_wp2
    go_ret
    exact ⟨ret_bool (by rw [HV.out]; first | exact (decide_eq_false (by omega)).symm | exact (decide_eq_true (by omega)).symm), (Below.refl _ _).alloc (Nat.le_refl _) _⟩
  case pos =>
    go_enter Try.func31, Try.ntmps31
    go_wp2
    go_ret
    exact ⟨ret_bool (by rw [HV.out]; first | exact (decide_eq_false (by omega)).symm | exact (decide_eq_true (by omega)).symm), (Below.refl _ _).alloc (Nat.le_refl _) _⟩
set_option maxHeartbeats 1600000 in
theorem refValid_calls (a b c h s : Int) (w : World) :
    Calls Try.prog 32 #[rule a b c h s] w fun e w' => e = .returned (.bool (validB a b c h s)) ∧ Below w.heap.size w w' := by
  have HV : Hid (validB a b c h s = decide (1 ≤ a ∧ a ≤ b ∧ b ≤ c ∧ c ≤ 4096 ∧ 0 ≤ h ∧ 0 ≤ s ∧ h ≤ 20 ∧ s ≤ 20)) := rfl
  by_cases h1 : 1 ≤ a
  case neg =>
    go_enter Try.func32, Try.ntmps32
    go_wp2
    go_ret
    exact ⟨ret_bool (by rw [HV.out]; first | exact (decide_eq_false (by omega)).symm | exact (decide_eq_true (by omega)).symm), (Below.refl _ _).alloc (Nat.le_refl _) _⟩
  by_cases h2 : a ≤ b
  case neg =>
    go_enter Try.func32, Try.ntmps32
    go_wp2
    go_ret
    exact ⟨ret_bool (by rw [HV.out]; first | exact (decide_eq_false (by omega)).symm | exact (decide_eq_true (by omega)).symm), (Below.refl _ _).alloc (Nat.le_refl _) _⟩
  by_cases h3 : b ≤ c
  case neg =>
    go_enter Try.func32, Try.ntmps32
    go_wp2
    go_ret
    exact ⟨ret_bool (by rw [HV.out]; first | exact (decide_eq_false (by omega)).symm | exact (decide_eq_true (by omega)).symm), (Below.refl _ _).alloc (Nat.le_refl _) _⟩
  by_cases h4 : c ≤ 4096
  case neg =>
    go_enter Try.func32, Try.ntmps32
    go_wp2
    go_ret
    exact ⟨ret_bool (by rw [HV.out]; first | exact (decide_eq_false (by omega)).symm | exact (decide_eq_true (by omega)).symm), (Below.refl _ _).alloc (Nat.le_refl _) _⟩
  by_cases h5 : 0 ≤ h
  case neg =>
    go_enter Try.func32, Try.ntmps32
    go_wp2
    go_ret
    exact ⟨ret_bool (by rw [HV.out]; first | exact (decide_eq_false (by omega)).symm | exact (decide_eq_true (by omega)).symm), (Below.refl _ _).alloc (Nat.le_refl _) _⟩
  by_cases h6 : h ≤ 20
  case neg =>
    go_enter Try.func32, Try.ntmps32
    go_wp2
    go_ret
    exact ⟨ret_bool (by rw [HV.out]; first | exact (decide_eq_false (by omega)).symm | exact (decide_eq_true (by omega)).symm), (Below.refl _ _).alloc (Nat.le_refl _) _⟩
  by_cases h7 : 0 ≤ s
  case neg =>
    go_enter Try.func32, Try.ntmps32
    go_wp2
    go_ret
    exact ⟨ret_bool (by rw [HV.out]; first | exact (decide_eq_false (by omega)).symm | exact (decide_eq_true (by omega)).symm), (Below.refl _ _).alloc (Nat.le_refl _) _⟩
  by_cases h8 : s ≤ 20
  case neg =>
    go_enter Try.func32, Try.ntmps32
    go_wp2
    go_ret
    exact ⟨ret_bool (by rw [HV.out]; first | exact (decide_eq_false (by omega)).symm | exact (decide_eq_true (by omega)).symm), (Below.refl _ _).alloc (Nat.le_refl _) _⟩
  case pos =>
    go_enter Try.func32, Try.ntmps32
    go_wp2
    go_ret
    exact ⟨ret_bool (by rw [HV.out]; first | exact (decide_eq_false (by omega)).symm | exact (decide_eq_true (by omega)).symm), (Below.refl _ _).alloc (Nat.le_refl _) _⟩

/-- Whether a piece ends behind the byte at at_, where the number is x. -/
def stopB (b h s : Int) (at_ : Nat) (x : Int) : Bool := decide ((x / 65536) % 2 ^ (if (at_ : Int) < b then h else s).toNat = 0)
def firstGo (b h s : Int) : Nat → Int → List UInt8 → Nat
  | at_, _, [] => at_
  | at_, x, y :: r => if stopB b h s at_ (roll1 x y) then at_ + 1 else firstGo b h s (at_ + 1) (roll1 x y) r
/-- How many bytes the first piece has. -/
def firstN (a b c h s : Int) (l : List UInt8) : Nat :=
  if validB a b c h s = true ∧ a < l.length then firstGo b h s a.toNat 0 ((l.take c.toNat).drop a.toNat) else l.length

theorem u64_wrap' (x : Int) : IntKind.u64.wrap x = x % 18446744073709551616 := by simp [IntKind.wrap, IntKind.bits, IntKind.signed]
theorem and_mask (y : Int) (n : Nat) (hy : 0 ≤ y) (hn : n ≤ 63) : bits BinOp.and IntKind.u64 y (2 ^ n - 1) = y % 2 ^ n := by
  obtain ⟨m, rfl⟩ := Int.eq_ofNat_of_zero_le hy
  have h1 : 2 ^ n ≤ 2 ^ 63 := Nat.pow_le_pow_right (by omega) hn
  have h0 : 0 < 2 ^ n := Nat.two_pow_pos n
  have e1 : ((2 : Int) ^ n - 1) = ((2 ^ n - 1 : Nat) : Int) := by
    rw [Int.natCast_sub h0]; simp
  have e2 : (2 : Int) ^ n = ((2 ^ n : Nat) : Int) := by simp
  rw [e1, e2]
  have key : (BitVec.ofInt 64 (m : Int) &&& BitVec.ofInt 64 ((2 ^ n - 1 : Nat) : Int)).toNat = m % 2 ^ n := by
    simp only [BitVec.ofInt_natCast, BitVec.toNat_and, BitVec.toNat_ofNat]
    rw [show (2 ^ n - 1) % 2 ^ 64 = 2 ^ n - 1 from Nat.mod_eq_of_lt (by omega), Nat.and_two_pow_sub_one_eq_mod, Nat.mod_mod_of_dvd _ (Nat.pow_dvd_pow 2 (by omega))]
  have h3 : m % 2 ^ n < 2 ^ n := Nat.mod_lt _ h0
  rw [← Int.natCast_emod]
  show IntKind.u64.wrap ((BitVec.ofInt 64 (m : Int) &&& BitVec.ofInt 64 ((2 ^ n - 1 : Nat) : Int)).toNat : Int) = _
  rw [key]
  generalize m % 2 ^ n = z at *
  rw [u64_wrap']
  exact Int.emod_eq_of_lt (by omega) (by omega)
theorem roll1_range' (h : Int) (b : UInt8) : 0 ≤ roll1 h b ∧ roll1 h b < 18446744073709551616 := by
  unfold roll1
  rw [u64_wrap' (IntKind.u64.wrap (h * 2) + gearI b.toNat)]
  omega
theorem pow_two_le {n : Nat} (h : n ≤ 20) : (1 : Int) ≤ 2 ^ n ∧ (2 : Int) ^ n ≤ 1048576 := by
  have h1 : 2 ^ n ≤ 2 ^ 20 := Nat.pow_le_pow_right (by omega) h
  have h0 : 0 < 2 ^ n := Nat.two_pow_pos n
  have e : (2 : Int) ^ n = ((2 ^ n : Nat) : Int) := by simp
  rw [e]
  omega
theorem rule_cells {w : World} {g : Nat} {a b c h s : Int} (H : RowAt w (some ⟨g, 0, none⟩) (icells [a, b, c, h, s])) :
    w.cell? ⟨g, 0, none⟩ = some (.int .i64 a) ∧ w.cell? ⟨g, 1, none⟩ = some (.int .i64 b) ∧ w.cell? ⟨g, 2, none⟩ = some (.int .i64 c) ∧ w.cell? ⟨g, 3, none⟩ = some (.int .i64 h) ∧ w.cell? ⟨g, 4, none⟩ = some (.int .i64 s) := by
  obtain ⟨g', o, e, _, hc⟩ := H.addr (by simp [icells])
  injection e with e
  injection e with e1 e2
  subst e1
  subst e2
  exact ⟨hc 0 _ rfl, hc 1 _ rfl, hc 2 _ rfl, hc 3 _ rfl, hc 4 _ rfl⟩

set_option maxHeartbeats 1600000 in
theorem first_calls (a b c h s : Int) (t : ByteArray) (w : World) (ht : t.size ≤ 140737488351232) :
    Calls Try.prog 33 #[rule a b c h s, .string t] w fun e w' => e = .returned (.int .i64 (firstN a b c h s t.data.toList)) ∧ Below w.heap.size w w' := by
  obtain ⟨V, hV⟩ : ∃ V, validB a b c h s = V := ⟨_, rfl⟩
  by_cases hv : V = true ∧ a < t.size
  case neg =>
    have HF : Hid (firstN a b c h s t.data.toList = t.size) := by rw [Hid, firstN, hV, data_length, if_neg hv]
    have HC := Lib.hid (fun w => valid_calls a b c h s w)
    rw [hV] at HC
    clear hV
    by_cases hv1 : V = true
    all_goals by_cases hv2 : a < t.size
    all_goals first | (exfalso; exact hv ⟨hv1, hv2⟩) | skip
    all_goals
      clear hv
      (try simp only [Bool.not_eq_true] at hv1)
      subst hv1
      go_enter Try.func33, Try.ntmps33
      go_wp2_with fail
      refine Calls.mono (HC.out _) ?_
      rintro e w1 ⟨rfl, hb1⟩
      have HB := Lib.hid (below_trans' ((Below.refl _ _).alloc (Nat.le_refl _) _) hb1)
      have hr := (rowAt_alloc w (icells [a, b, c, h, s]) 56).below hb1
      obtain ⟨q0, q1, q2, q3, q4⟩ := rule_cells hr
      clear hr hb1
      go_wp2
      go_ret
      exact ⟨ret_int (by rw [HF.out]), HB.out⟩
  obtain ⟨rfl, hv2⟩ := hv
  have HF : Hid (firstN a b c h s t.data.toList = firstGo b h s a.toNat 0 ((t.data.toList.take c.toNat).drop a.toNat)) := by rw [Hid, firstN, if_pos ⟨hV, by rw [data_length]; exact hv2⟩]
  have HC := Lib.hid (fun w => valid_calls a b c h s w)
  rw [hV] at HC
  simp only [validB, decide_eq_true_eq] at hV
  obtain ⟨v1, v2, v3, v4, v5, v6, v7, v8⟩ := hV
  go_enter Try.func33, Try.ntmps33
  go_wp2_with fail
  refine Calls.mono (HC.out _) ?_
  rintro e w1 ⟨rfl, hb1⟩
  have HB := Lib.hid (below_trans' ((Below.refl _ _).alloc (Nat.le_refl _) _) hb1)
  have hr := (rowAt_alloc w (icells [a, b, c, h, s]) 56).below hb1
  have HR := Lib.hid hr
  obtain ⟨q0, q1, q2, q3, q4⟩ := rule_cells hr
  clear hr hb1
  obtain ⟨E, hE⟩ : ∃ E : Nat, min c (t.size : Int) = E := ⟨(min c (t.size : Int)).toNat, by omega⟩
  have hEc : E ≤ 4096 := by omega
  have hEt : E ≤ t.size := by omega
  have HL : Hid ((t.data.toList.take c.toNat) = t.data.toList.take E) := by
    rw [Hid]
    rcases Nat.le_total c.toNat t.size with hle | hle
    · congr 1; omega
    · rw [List.take_of_length_le (by rw [data_length]; omega), List.take_of_length_le (by rw [data_length]; omega)]
  have HE := Lib.hid hE
  obtain ⟨N1, rfl⟩ := Int.eq_ofNat_of_zero_le v5
  obtain ⟨N2, rfl⟩ := Int.eq_ofNat_of_zero_le v6
  obtain ⟨a', rfl⟩ := Int.eq_ofNat_of_zero_le (show 0 ≤ a by omega)
  have hnl : ¬ t.size ≤ a' := by omega
  go_wp2
  go_loopw [5, 7] (fun x i wr => ∃ k : Nat, ∃ z : Int, k ≤ E ∧ 0 ≤ z ∧ z < 18446744073709551616 ∧ i = .int .i64 k ∧ x = .int .u64 z ∧ Hid (firstN a' b c N1 N2 t.data.toList = firstGo b N1 N2 k z ((t.data.toList.take E).drop k)) ∧ Hid (Below w1.heap.size w1 wr)) (fun _ i _ => E - (intOf i).toNat)
  case atStart => exact ⟨a', 0, by omega, by omega, by omega, rfl, rfl, by rw [Hid, HF.out, HL.out, Int.toNat_natCast], Below.refl _ _⟩
  case round =>
    obtain ⟨k, z, hk, hz0, hz1, rfl, rfl, HC2, HW⟩ := hrel
    obtain ⟨q0, q1, q2, q3, q4⟩ := rule_cells (HR.out.below HW.out)
    by_cases hlt : k < E
    · have hkt : k < t.size := by omega
      have HD : Hid ((t.data.toList.take E).drop k = t[k] :: (t.data.toList.take E).drop (k + 1)) := by
        refine drop_of_at ?_
        rw [List.getElem?_take, if_pos hlt, List.getElem?_eq_getElem (by rw [data_length]; exact hkt)]
        rfl
      obtain ⟨X, hX⟩ : ∃ X, roll1 z t[k] = X := ⟨_, rfl⟩
      have hX01 := roll1_range' z t[k]
      rw [hX] at hX01
      obtain ⟨hX0, hX1⟩ := hX01
      have HX : Hid (roll z [t[k]] = X) := hX
      have HX2 := Lib.hid hX
      clear hX
      by_cases hkb : (k : Int) < b
      · have hp := pow_two_le (n := N1) (by omega)
        obtain ⟨hp0, hp1⟩ := hp
        have hm := and_mask (X / 65536) N1 (by omega) (by omega)
        obtain ⟨r0, r1, r2, r3, r4⟩ := rule_cells ((HR.out.below HW.out).alloc (.cells #[.int .u8 t[k].toNat] 5))
        have HS : Hid (stopB b N1 N2 k X = decide (X / 65536 % 2 ^ N1 = 0)) := by rw [Hid, stopB, if_pos hkb, Int.toNat_natCast]
        by_cases hz : X / 65536 % 2 ^ N1 = 0
        · have hz2 : (X / 65536 % 2 ^ N1 == 0) = true := by simpa using hz
          have HS2 : Hid (stopB b N1 N2 k X = true) := HS.out.trans (decide_eq_true hz)
          clear hz
          go_wp2_with (go_at_call 82; refine (roll_calls z _ 1 1 [t[k]] _ (by omega) rfl (rowAt_alloc _ [.int .u8 t[k].toNat] _)).mono ?_; rintro e w' ⟨rfl, rfl⟩; rw [HX.out])
          go_ret
          refine ⟨ret_int ?_, below_trans' HB.out (HW.out.alloc HW.out.size _)⟩
          rw [HC2.out, HD.out, firstGo, HX2.out, if_pos HS2.out]; rfl
        · have hz2 : (X / 65536 % 2 ^ N1 == 0) = false := by simpa using hz
          have HS2 : Hid (stopB b N1 N2 k X = false) := HS.out.trans (decide_eq_false hz)
          clear hz
          go_wp2_with (go_at_call 82; refine (roll_calls z _ 1 1 [t[k]] _ (by omega) rfl (rowAt_alloc _ [.int .u8 t[k].toNat] _)).mono ?_; rintro e w' ⟨rfl, rfl⟩; rw [HX.out])
          go_roundw
          case rel => exact ⟨k + 1, X, by omega, hX0, hX1, by go_num, rfl, by rw [Hid, HC2.out, HD.out, firstGo, HX2.out, HS2.out, if_neg (by simp)], HW.out.alloc HW.out.size _⟩
          case measure => simp [intOf]; omega
      · have hp := pow_two_le (n := N2) (by omega)
        obtain ⟨hp0, hp1⟩ := hp
        have hm := and_mask (X / 65536) N2 (by omega) (by omega)
        obtain ⟨r0, r1, r2, r3, r4⟩ := rule_cells ((HR.out.below HW.out).alloc (.cells #[.int .u8 t[k].toNat] 5))
        have HS : Hid (stopB b N1 N2 k X = decide (X / 65536 % 2 ^ N2 = 0)) := by rw [Hid, stopB, if_neg hkb, Int.toNat_natCast]
        by_cases hz : X / 65536 % 2 ^ N2 = 0
        · have hz2 : (X / 65536 % 2 ^ N2 == 0) = true := by simpa using hz
          have HS2 : Hid (stopB b N1 N2 k X = true) := HS.out.trans (decide_eq_true hz)
          clear hz
          go_wp2_with (go_at_call 82; refine (roll_calls z _ 1 1 [t[k]] _ (by omega) rfl (rowAt_alloc _ [.int .u8 t[k].toNat] _)).mono ?_; rintro e w' ⟨rfl, rfl⟩; rw [HX.out])
          go_ret
          refine ⟨ret_int ?_, below_trans' HB.out (HW.out.alloc HW.out.size _)⟩
          rw [HC2.out, HD.out, firstGo, HX2.out, if_pos HS2.out]; rfl
        · have hz2 : (X / 65536 % 2 ^ N2 == 0) = false := by simpa using hz
          have HS2 : Hid (stopB b N1 N2 k X = false) := HS.out.trans (decide_eq_false hz)
          clear hz
          go_wp2_with (go_at_call 82; refine (roll_calls z _ 1 1 [t[k]] _ (by omega) rfl (rowAt_alloc _ [.int .u8 t[k].toNat] _)).mono ?_; rintro e w' ⟨rfl, rfl⟩; rw [HX.out])
          go_roundw
          case rel => exact ⟨k + 1, X, by omega, hX0, hX1, by go_num, rfl, by rw [Hid, HC2.out, HD.out, firstGo, HX2.out, HS2.out, if_neg (by simp)], HW.out.alloc HW.out.size _⟩
          case measure => simp [intOf]; omega
    · go_wp2
      go_ret
      refine ⟨ret_int ?_, below_trans' HB.out HW.out⟩
      rw [HC2.out, List.drop_eq_nil_of_le (by rw [List.length_take]; omega), firstGo]
      omega
end Go.Proofs.Ytkhfecgmkhjpiaa
