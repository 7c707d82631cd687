/- MarkNone: bytes that are too few, too many, of another kind, with something behind a short print are no print. -/
import Derived.Test.YtbkankpfkbafdaaDoorMarkBack
import Derived.RegionTactic
namespace Go.Proofs.YtbkankpfkbafdaaDoor
open Go.RowKit
set_option linter.unusedVariables false

theorem readM_len {b : ByteArray} (h : b.size ≠ 33) : (readM b).2.2 = 5 := by rw [readM_short h]
theorem readM_kind (x : UInt8) (r : List UInt8) (hr : r.length = 32) (h : sizeM x.toNat = 0) : (readM ⟨(x :: r).toArray⟩).2.2 = 6 := by
  rw [readM, mkS_toList, readL, if_pos hr, h, if_neg (by simp)]
theorem readM_last (k : Int) (s : ByteArray) (hv : validM k s = true) (hs : s.size = 20) : (readM ⟨((layL k s).take 32 ++ [120]).toArray⟩).2.2 = 6 := by
  have h := validM_true hv
  obtain rfl : k = 1 := by omega
  have e : (layL 1 s).take 32 ++ [120] = 1 :: (s.data.toList ++ (List.replicate 11 0 ++ [120])) := by
    have e1 : layL 1 s = 1 :: (s.data.toList ++ (List.replicate 11 0 ++ [0])) := by
      rw [layL, hs]; rfl
    have e2 : (1 :: (s.data.toList ++ (List.replicate 11 0 ++ [0])) : List UInt8) = (1 :: (s.data.toList ++ List.replicate 11 0)) ++ [0] := by simp
    rw [e1, e2, List.take_left' (by simp [data_length]; omega)]
    simp
  rw [e, readM, mkS_toList, readL, if_pos (by simp [data_length]; omega)]
  have e3 : (sizeM ((1 : UInt8).toNat : Int)).toNat = 20 := rfl
  rw [e3, List.drop_left' (by rw [data_length, hs]), if_neg]
  rintro ⟨_, h2⟩
  simp at h2
theorem readM_one (s : ByteArray) (r : List UInt8) (hr : r.length = 32) (x : UInt8) (hx : x = 1) (hz : (r.drop 20).all (· == 0) = true) : (readM ⟨(x :: r).toArray⟩).2.2 = 0 := by
  subst hx
  have e3 : (sizeM ((1 : UInt8).toNat : Int)) = 20 := rfl
  rw [readM, mkS_toList, readL, if_pos hr, e3, if_pos ⟨by decide, hz⟩]
theorem readM_two (r : List UInt8) (hr : r.length = 32) (x : UInt8) (hx : x = 2) : (readM ⟨(x :: r).toArray⟩).2.2 = 0 := by
  subst hx
  have e3 : (sizeM ((2 : UInt8).toNat : Int)) = 32 := rfl
  rw [readM, mkS_toList, readL, if_pos hr, e3, if_pos ⟨by decide, by
    rw [show (32 : Int).toNat = 32 from rfl, List.drop_of_length_le (by omega)]; rfl⟩]

/-- All that MarkNone meets. -/
structure NoneF (S B X1 X2 X3 X4 Z Y R1 T : ByteArray) (more : Nat) (y : UInt8) : Prop where
  lay : layM 1 S = (B, 0)
  bsz : B.size = 33
  z : zerosB more = Z
  x1 : B ++ Z = X1
  x2 : B.extract 0 32 = X2
  x3 : X2 ++ T = X3
  yy : (⟨#[y]⟩ : ByteArray) = Y
  r1 : B.extract 1 33 = R1
  x4 : Y ++ R1 = X4
  e1 : more = 0 ∧ (readM X1).2.2 = 0 ∨ more ≠ 0 ∧ (readM X1).2.2 = 5
  e2 : (readM X2).2.2 = 5
  e3 : (readM X3).2.2 = 6
  e4 : (y = 1 ∧ (readM X4).2.2 = 0) ∨ (y = 2 ∧ (readM X4).2.2 = 0) ∨ (y ≠ 1 ∧ y ≠ 2 ∧ (readM X4).2.2 = 6)
  s1 : X1.size ≤ 1000 ∧ X2.size ≤ 1000 ∧ X3.size ≤ 1000 ∧ X4.size ≤ 1000
theorem noneF (S : ByteArray) (hS : S.size = 20) (more : Nat) (hm : more ≤ 60) (y : UInt8) : ∃ B X1 X2 X3 X4 Z Y R1, NoneF S B X1 X2 X3 X4 Z Y R1 ⟨#[120]⟩ more y := by
  have hv : validM 1 S = true := by rw [validM, hS]; rfl
  have hl : (layL 1 S).length = 33 := layL_length 1 S (by omega)
  have hB : (⟨(layL 1 S).toArray⟩ : ByteArray).size = 33 := by rw [mk_size, hl]
  obtain ⟨r, hr⟩ : ∃ r, layL 1 S = 1 :: r := ⟨S.data.toList ++ List.replicate (32 - S.size) 0, by rw [layL]; rfl⟩
  have hrl : r.length = 32 := by rw [hr] at hl; simpa using hl
  have hr2 : r = S.data.toList ++ List.replicate 12 0 := by
    have : layL 1 S = 1 :: (S.data.toList ++ List.replicate (32 - S.size) 0) := by rw [layL]; rfl
    rw [this, hS] at hr
    exact (List.cons.inj hr).2.symm
  have x4 : (⟨#[y]⟩ : ByteArray) ++ (⟨(layL 1 S).toArray⟩ : ByteArray).extract 1 33 = ⟨(y :: r).toArray⟩ := by
    rw [ext_mk _ _ _ (by omega), hr, List.take_of_length_le (by simp; omega), List.drop_succ_cons, List.drop_zero]
    apply str_inj
    rw [ByteArray.toList_eq, ByteArray.toList_eq]
    simp [ByteArray.data_append]
  have x3 : (⟨(layL 1 S).toArray⟩ : ByteArray).extract 0 32 ++ ⟨#[120]⟩ = ⟨((layL 1 S).take 32 ++ [120]).toArray⟩ := by
    rw [ext_mk _ _ _ (by omega), List.drop_zero]
    apply str_inj
    rw [ByteArray.toList_eq, ByteArray.toList_eq]
    simp [ByteArray.data_append]
  refine ⟨⟨(layL 1 S).toArray⟩, _, _, _, _, _, _, _, ⟨by rw [layM, if_pos hv], hB, rfl, rfl, rfl, rfl, rfl, rfl, rfl, ?_, ?_, ?_, ?_, ?_⟩⟩
  · rcases Nat.eq_zero_or_pos more with rfl | h
    · refine .inl ⟨rfl, ?_⟩
      have : (⟨(layL 1 S).toArray⟩ : ByteArray) ++ zerosB 0 = ⟨(layL 1 S).toArray⟩ := by
        apply str_inj
        rw [ByteArray.toList_eq, ByteArray.toList_eq]
        simp [zerosB, ByteArray.data_append]
      rw [this, read_lay hv]
    · exact .inr ⟨by omega, readM_len (by rw [ByteArray.size_append, hB, zerosB_size]; omega)⟩
  · exact readM_len (by rw [ByteArray.size_extract, hB]; omega)
  · rw [x3]; exact readM_last 1 S hv hS
  · rw [x4]
    by_cases h1 : y = 1
    · exact .inl ⟨h1, readM_one S r hrl y h1 (by rw [hr2, List.drop_left' (by rw [data_length, hS])]; decide)⟩
    · by_cases h2 : y = 2
      · exact .inr (.inl ⟨h2, readM_two r hrl y h2⟩)
      · refine .inr (.inr ⟨h1, h2, readM_kind y r hrl ?_⟩)
        rcases sizeM_vals (y.toNat : Int) with ⟨h, _⟩ | ⟨h, _⟩ | ⟨_, _, h⟩
        · exact absurd (UInt8.toNat_inj.1 (by have : y.toNat = 1 := by omega
                                              rw [this]; rfl)) h1
        · exact absurd (UInt8.toNat_inj.1 (by have : y.toNat = 2 := by omega
                                              rw [this]; rfl)) h2
        · exact h
  · refine ⟨?_, ?_, ?_, ?_⟩
    · rw [ByteArray.size_append, hB, zerosB_size]; omega
    · rw [ByteArray.size_extract, hB]; omega
    · rw [x3, mk_size]; simp; omega
    · rw [x4, mk_size]; simp; omega
set_option maxHeartbeats 6400000 in
set_option maxRecDepth 100000 in
theorem markNone_calls (s : ByteArray) (more kind : Int) (w : World) (_hs : s.size ≤ 140737488351232) (_hm : -9223372036854775808 ≤ more ∧ more ≤ 9223372036854775807) (_hk : -9223372036854775808 ≤ kind ∧ kind ≤ 9223372036854775807) :
    Calls Tryd.prog 3 #[.string s, .int .i64 more, .int .i64 kind] w fun e w' => e = .returned (.bool true) ∧ Below w.heap.size w w' := by
  by_cases hg : s.size ≤ 200 ∧ 0 ≤ more ∧ more ≤ 60
  case neg =>
    have hg2 : 200 < (s.size : Int) ∨ ((s.size : Int) ≤ 200 ∧ more < 0) ∨ ((s.size : Int) ≤ 200 ∧ 0 ≤ more ∧ 60 < more) := by omega
    clear hg
    rcases hg2 with h1 | ⟨h1, h2⟩ | ⟨h1, h2, h3⟩
    all_goals
      go_enter Tryd.func3, Tryd.ntmps3
      go_wp2_with fail
      refine (markAlive_calls _).mono ?_
      rintro e w1 ⟨rfl, hb1⟩
      go_wp2
      go_ret
      exact ⟨rfl, hb1⟩
  obtain ⟨g0, g1, g2⟩ := hg
  obtain ⟨m, rfl⟩ : ∃ m : Nat, more = (m : Int) := ⟨more.toNat, by omega⟩
  have b0 : decide ((200 : Int) < (s.size : Int)) = false := decide_eq_false (by omega)
  have b1 : decide ((m : Int) < 0) = false := decide_eq_false (by omega)
  have b2 : decide ((60 : Int) < (m : Int)) = false := decide_eq_false (by omega)
  have HO : Box (∀ W, _) := ⟨fun W => of_new 1 [s] 1 W rfl (by omega) (by simp [totalLen]; omega)⟩
  have hS : (sumB [s]).size = 20 := sumB_size _
  rw [show ofM 1 [s] = (1, sumB [s], 0) from rfl] at HO
  obtain ⟨S, hSS⟩ : ∃ S, sumB [s] = S := ⟨_, rfl⟩
  rw [hSS] at HO hS
  obtain ⟨y, hy⟩ : ∃ y : UInt8, IntKind.u8.wrap kind = (y.toNat : Int) := ⟨UInt8.ofNat (kind % 256).toNat, by
    rw [IntKind.wrap_u8']
    have h1 : 0 ≤ kind % 256 := Int.emod_nonneg _ (by decide)
    have h2 : kind % 256 < 256 := Int.emod_lt_of_pos _ (by decide)
    rw [UInt8.toNat_ofNat_of_lt' (by simp [UInt8.size]; omega)]; omega⟩
  obtain ⟨T, hT⟩ : ∃ T : ByteArray, (⟨#[120]⟩ : ByteArray) = T := ⟨_, rfl⟩
  obtain ⟨B, X1, X2, X3, X4, Z, Y, R1, hF0⟩ := noneF S hS m (by omega) y
  rw [hT] at hF0
  have HF : Box _ := ⟨hF0⟩
  have HL : Box (∀ W, _) := ⟨fun W => lay_calls 1 S W⟩
  rw [hF0.lay] at HL
  have HR1 : Box (∀ W, _) := ⟨fun W => read_calls X1 W (by have := hF0.s1; omega)⟩
  have HR2 : Box (∀ W, _) := ⟨fun W => read_calls X2 W (by have := hF0.s1; omega)⟩
  have HR3 : Box (∀ W, _) := ⟨fun W => read_calls X3 W (by have := hF0.s1; omega)⟩
  have HR4 : Box (∀ W, _) := ⟨fun W => read_calls X4 W (by have := hF0.s1; omega)⟩
  have E1 := hF0.e1
  have E4 := hF0.e4
  rw [hF0.e2] at HR2
  rw [hF0.e3] at HR3
  have hbs : (B.size : Int) = 33 := by have := hF0.bsz; omega
  have hzs : Z.size = m := by rw [← hF0.z, zerosB_size]
  have u1 := fun W : World => run_string_add (P := Tryd.prog) W B Z (by omega) (by omega)
  have u2 := fun W : World => run_string_add (P := Tryd.prog) W X2 ⟨#[120]⟩ (by have := hF0.s1; omega) (by decide)
  have hys : Y.size = 1 := by rw [← hF0.yy]; rfl
  have hrs : R1.size ≤ 33 := by rw [← hF0.r1, ByteArray.size_extract]; have := hF0.bsz; omega
  have u3 := fun W : World => run_string_add (P := Tryd.prog) W Y R1 (by omega) (by omega)
  rw [hF0.x1] at u1
  have hx3 := hF0.x3
  rw [← hT] at hx3
  simp only [hx3] at u2
  simp only [hF0.x4] at u3
  have U1 : Box _ := ⟨u1⟩
  have U2 : Box _ := ⟨u2⟩
  have U3 : Box _ := ⟨u3⟩
  have hmk := fun W => make_u8 m (by omega) W
  have hcv := fun W => zeros_str m (by omega) W
  simp only [hF0.z] at hcv
  have HCY : Box (∀ (W : World) (A : Option Addr), RowAt W A (bcells [y]) → (convert 31 9 (.slice A 1 1)).run Tryd.prog W = .ok (.string Y) W) := ⟨fun W A h => by
    rw [← hF0.yy]
    exact bytes_str Tryd.prog 31 5 9 Tryd.underlying31 Tryd.underlying5 Tryd.underlying9 A 1 1 [y] W rfl h⟩
  obtain ⟨⟨k1, t1, j1⟩, hM1⟩ : ∃ p, readM X1 = p := ⟨_, rfl⟩
  obtain ⟨⟨k4, t4, j4⟩, hM4⟩ : ∃ p, readM X4 = p := ⟨_, rfl⟩
  rw [hM1] at HR1 E1
  rw [hM4] at HR4 E4
  obtain ⟨k2, hk2⟩ : ∃ k, (readM X2).1 = k := ⟨_, rfl⟩
  obtain ⟨t2, ht2⟩ : ∃ k, (readM X2).2.1 = k := ⟨_, rfl⟩
  obtain ⟨k3, hk3⟩ : ∃ k, (readM X3).1 = k := ⟨_, rfl⟩
  obtain ⟨t3, ht3⟩ : ∃ k, (readM X3).2.1 = k := ⟨_, rfl⟩
  rw [hk2, ht2] at HR2
  rw [hk3, ht3] at HR3
  simp only at E1 E4
  have HE1 : Box _ := ⟨E1⟩
  have HE4 : Box _ := ⟨E4⟩
  have HY : Box _ := ⟨hy⟩
  have HBS : Box _ := ⟨hbs⟩
  have X2E : Box (B.extract 0 32 = X2) := ⟨hF0.x2⟩
  have R1E : Box (B.extract 1 B.size = R1) := ⟨by rw [hF0.bsz]; exact hF0.r1⟩
  clear hF0 E1 E4 hM1 hM4 hk2 ht2 hk3 ht3 hys hrs hzs u1 u2 u3 hy hS hSS HF g0 g1 g2 _hs _hm _hk hbs hx3 hT
  go_enter Tryd.func3, Tryd.ntmps3
  go_wp2_with fail
  refine (markAlive_calls _).mono ?_
  rintro e w1 ⟨rfl, hb1⟩
  have HB1 : Box _ := ⟨hb1⟩
  clear hb1 b0 b1 b2
  go_wp2_with fail
  refine (HO.out _).mono ?_
  rintro e w2 ⟨rfl, hb2⟩
  have HB2 : Box _ := ⟨bel_alloc (bel_calls HB1.out hb2) (.cells #[.int .i64 1, .string S] 24)⟩
  clear hb2
  go_wp2_with fail
  refine (HL.out _).mono ?_
  rintro e w4 ⟨rfl, hb4⟩
  have HB4 : Box _ := ⟨bel_calls HB2.out hb4⟩
  clear hb4
  have hbs := HBS.out
  have u1 := U1.out
  go_wp2_with fail
  refine (HR1.out _).mono ?_
  rintro e w5 ⟨rfl, hb5⟩
  have HB5 : Box _ := ⟨bel_alloc (bel_calls (bel_alloc HB4.out _) hb5) (.cells #[.int .i64 k1, .string t1] 24)⟩
  clear hb5 u1 hmk hcv
  have x2 := X2E.out
  go_wp2_with fail
  refine (HR2.out _).mono ?_
  rintro e w6 ⟨rfl, hb6⟩
  have HB6 : Box _ := ⟨bel_alloc (bel_calls HB5.out hb6) (.cells #[.int .i64 k2, .string t2] 24)⟩
  clear hb6
  have u2 := U2.out
  go_wp2_with fail
  refine (HR3.out _).mono ?_
  rintro e w7 ⟨rfl, hb7⟩
  have HB7 : Box _ := ⟨bel_alloc (bel_calls HB6.out hb7) (.cells #[.int .i64 k3, .string t3] 24)⟩
  clear hb7 u2 x2
  obtain ⟨w8, hw8⟩ : ∃ w8, w7.alloc (.cells #[.int .i64 k3, .string t3] 24) = w8 := ⟨_, rfl⟩
  have r1 := R1E.out
  have hy := HY.out
  have u3 := U3.out
  go_wp2_with fail
  have HB8 : Box (Below w.heap.size w w8) := ⟨by rw [← hw8]; exact HB7.out⟩
  refine wp_region_held_drew (S := (fun _ => True)) (by kernel_rfl) ?qS (fun hHeld => ?_)
  case qS => first | (exact trivial) | (dsimp only; exact trivial)
  refine wpAnyH_take (i := 0) (oi := Go.Oper.mk (Option.some 81) (Go.Op.move (Go.Operand.tmp 2)) 3 "more.go:40" #[] Option.none) (v := ?q1_v) rfl (by kernel_rfl) (by kernel_rfl) (by kernel_rfl) (fun _ _ _ h => h) (Or.inl ⟨by rfl, ?q1_y⟩) (by assumption) ?_
  case q1_y => (intro w hSw; (try dsimp only at hSw); go_simp; (first | done | with_reducible rfl))
  try simp only [Act.put, List.setIfInBounds_toArray, List.set_cons_zero, List.set_cons_succ]
  refine wpAnyH_take (i := 1) (oi := Go.Oper.mk (Option.some 82) (Go.Op.convert 3 5 (Go.Operand.tmp 81)) 5 "more.go:40" #[Go.Edge.mk 0 Go.Ground.data] Option.none) (v := ?q2_v) rfl (by kernel_rfl) (by kernel_rfl) (by kernel_rfl) (fun _ _ _ h => h) (Or.inl ⟨by rfl, ?q2_y⟩) (by assumption) ?_
  case q2_y => (intro w hSw; (try dsimp only at hSw); go_simp; (first | done | with_reducible rfl))
  try simp only [Act.put, List.setIfInBounds_toArray, List.set_cons_zero, List.set_cons_succ]
  refine wpAnyH_take (i := 4) (oi := Go.Oper.mk (Option.some 85) (Go.Op.move (Go.Operand.tmp 9)) 9 "more.go:40" #[] Option.none) (v := ?q3_v) rfl (by kernel_rfl) (by kernel_rfl) (by kernel_rfl) (fun _ _ _ h => h) (Or.inl ⟨by rfl, ?q3_y⟩) (by assumption) ?_
  case q3_y => (intro w hSw; (try dsimp only at hSw); go_simp; (first | done | with_reducible rfl))
  try simp only [Act.put, List.setIfInBounds_toArray, List.set_cons_zero, List.set_cons_succ]
  refine wpAnyH_take (i := 5) (oi := Go.Oper.mk (Option.some 86) (Go.Op.slice 9 (Go.Operand.tmp 85) (Option.some (Go.Operand.const (Go.Value.int Go.IntKind.i64 1))) Option.none Option.none) 9 "more.go:40" #[Go.Edge.mk 4 Go.Ground.data] Option.none) (v := ?q4_v) rfl (by kernel_rfl) (by kernel_rfl) (by kernel_rfl) (fun _ _ _ h => h) (Or.inl ⟨by rfl, ?q4_y⟩) (by assumption) ?_
  case q4_y => (intro w hSw; (try dsimp only at hSw); go_simp; (first | done | with_reducible rfl))
  try simp only [Act.put, List.setIfInBounds_toArray, List.set_cons_zero, List.set_cons_succ]
  refine wpAnyH_ready (rs := [2, 11]) (by kernel_rfl) (by simp) ?_
  refine AllReadyH.cons (i := 2) (o := Go.Oper.mk (Option.some 83) (Go.Op.buildSlice 31 1 #[(0, Go.Operand.tmp 82)]) 31 "more.go:40" #[Go.Edge.mk 1 Go.Ground.data] Option.none) rfl (fun K hK => ?_) ?_
  · go_simp
    (skip)
    go_wp2_with fail
    refine hK.out _ _ ?q5_k2 (fun hHeld => ?_)
    case q5_k2 => first | (exact trivial) | (dsimp only; exact trivial)
    clear hK K
    try simp only [Act.put, List.setIfInBounds_toArray, List.set_cons_zero, List.set_cons_succ]
    refine wpAnyH_ready (rs := [3, 11]) (by kernel_rfl) (by simp) ?_
    refine AllReadyH.cons (i := 3) (o := Go.Oper.mk (Option.some 84) (Go.Op.convert 31 9 (Go.Operand.tmp 83)) 9 "more.go:40" #[Go.Edge.mk 2 Go.Ground.data] Option.none) rfl (fun K hK => ?_) ?_
    · have hcv3 := HCY.out _ _ (show RowAt _ _ (bcells [y]) from row_drew (rowAt_alloc w8 [.int .u8 (y.toNat : Int)] 5))
      go_simp
      (skip)
      go_wp2_with fail
      refine hK.out _ _ ?q6_k3 (fun hHeld => ?_)
      case q6_k3 => first | (exact trivial) | (dsimp only; exact trivial)
      clear hK K
      try simp only [Act.put, List.setIfInBounds_toArray, List.set_cons_zero, List.set_cons_succ]
      refine wpAnyH_take (i := 6) (oi := Go.Oper.mk (Option.some 87) (Go.Op.binOp Go.BinOp.add 9 (Go.Operand.tmp 84) (Go.Operand.tmp 86) 9) 9 "more.go:40" #[Go.Edge.mk 3 Go.Ground.data, Go.Edge.mk 5 Go.Ground.data] Option.none) (v := ?q7_v) rfl (by kernel_rfl) (by kernel_rfl) (by kernel_rfl) (fun _ _ _ h => h) (Or.inl ⟨by rfl, ?q7_y⟩) (by assumption) ?_
      case q7_y => (intro w hSw; (try dsimp only at hSw); go_simp; (first | done | with_reducible rfl))
      try simp only [Act.put, List.setIfInBounds_toArray, List.set_cons_zero, List.set_cons_succ]
      refine wpAnyH_ready (rs := [7, 11]) (by kernel_rfl) (by simp) ?_
      refine AllReadyH.cons (i := 7) (o := Go.Oper.mk (Option.some 88) (Go.Op.call (Go.Call.mk (Go.Callee.value (Go.Operand.func 9)) #[Go.Operand.tmp 87] #[9])) 26 "more.go:40" #[Go.Edge.mk 6 Go.Ground.data] Option.none) rfl (fun K hK => ?_) ?_
      · (try clear hcv3)
        go_simp
        (refine (HR4.out _).mono ?_; rintro e w9 ⟨rfl, hb⟩; have HB9 : Box (Below w.heap.size w w9) := ⟨bel_calls (by repeat (first | exact HB8.out | apply bel_drew | apply bel_alloc)) hb⟩; clear hb)
        go_wp2_with fail
        refine hK.out _ _ ?q8_k7 (fun hHeld => ?_)
        case q8_k7 => first | (exact trivial) | (dsimp only; exact trivial)
        clear hK K
        try simp only [Act.put, List.setIfInBounds_toArray, List.set_cons_zero, List.set_cons_succ]
        refine wpAnyH_take (i := 8) (oi := Go.Oper.mk (Option.some 80) (Go.Op.move (Go.Operand.tmp 88)) 26 "more.go:40" #[Go.Edge.mk 7 Go.Ground.data] Option.none) (v := ?q9_v) rfl (by kernel_rfl) (by kernel_rfl) (by kernel_rfl) (fun _ _ _ h => h) (Or.inl ⟨by rfl, ?q9_y⟩) (by assumption) ?_
        case q9_y => (intro w hSw; (try dsimp only at hSw); go_simp; (first | done | with_reducible rfl))
        try simp only [Act.put, List.setIfInBounds_toArray, List.set_cons_zero, List.set_cons_succ]
        refine wpAnyH_take (i := 9) (oi := Go.Oper.mk (Option.some 89) (Go.Op.extract (Go.Operand.tmp 80) 0) 24 "more.go:40" #[Go.Edge.mk 8 Go.Ground.data] Option.none) (v := ?q10_v) rfl (by kernel_rfl) (by kernel_rfl) (by kernel_rfl) (fun _ _ _ h => h) (Or.inl ⟨by rfl, ?q10_y⟩) (by assumption) ?_
        case q10_y => (intro w hSw; (try dsimp only at hSw); go_simp; (first | done | with_reducible rfl))
        try simp only [Act.put, List.setIfInBounds_toArray, List.set_cons_zero, List.set_cons_succ]
        refine wpAnyH_take (i := 10) (oi := Go.Oper.mk (Option.some 90) (Go.Op.extract (Go.Operand.tmp 80) 1) 25 "more.go:40" #[Go.Edge.mk 8 Go.Ground.data, Go.Edge.mk 12 (Go.Ground.gcOnly Go.Departure.lateStores)] Option.none) (v := ?q11_v) rfl (by kernel_rfl) (by kernel_rfl) (by kernel_rfl) (fun _ _ _ h => h) (Or.inl ⟨by rfl, ?q11_y⟩) (by assumption) ?_
        case q11_y => (intro w hSw; (try dsimp only at hSw); go_simp; (first | done | with_reducible rfl))
        try simp only [Act.put, List.setIfInBounds_toArray, List.set_cons_zero, List.set_cons_succ]
        refine wpAnyH_ready (rs := [11]) (by kernel_rfl) (by simp) ?_
        refine AllReadyH.cons (i := 11) (o := Go.Oper.mk (Option.some 17) (Go.Op.alloc 24) 0 "more.go:40" #[] Option.none) rfl (fun K hK => ?_) AllReadyH.nil
        go_simp
        (skip)
        go_wp2_with fail
        refine hK.out _ _ ?q12_k11 (fun hHeld => ?_)
        case q12_k11 => first | (exact trivial) | (dsimp only; exact trivial)
        clear hK K
        try simp only [Act.put, List.setIfInBounds_toArray, List.set_cons_zero, List.set_cons_succ]
        refine wpAnyH_ready (rs := [12]) (by kernel_rfl) (by simp) ?_
        refine AllReadyH.cons (i := 12) (o := Go.Oper.mk Option.none (Go.Op.store 24 (Go.Operand.tmp 17) (Go.Operand.tmp 89)) 0 "more.go:40" #[Go.Edge.mk 11 Go.Ground.data, Go.Edge.mk 9 Go.Ground.data, Go.Edge.mk 7 Go.Ground.chain, Go.Edge.mk 0 Go.Ground.phase, Go.Edge.mk 1 Go.Ground.phase, Go.Edge.mk 2 Go.Ground.phase, Go.Edge.mk 3 Go.Ground.phase, Go.Edge.mk 4 Go.Ground.phase, Go.Edge.mk 5 Go.Ground.phase, Go.Edge.mk 6 Go.Ground.phase, Go.Edge.mk 7 Go.Ground.phase, Go.Edge.mk 8 Go.Ground.phase, Go.Edge.mk 9 Go.Ground.phase, Go.Edge.mk 10 (Go.Ground.textOnly Go.Departure.lateStores), Go.Edge.mk 11 Go.Ground.phase] Option.none) rfl (fun K hK => ?_) AllReadyH.nil
        go_simp
        (skip)
        go_wp2_with fail
        refine hK.out _ _ ?q13_k12 (fun hHeld => ?_)
        case q13_k12 => first | (exact trivial) | (dsimp only; exact trivial)
        clear hK K
        try simp only [Act.put, List.setIfInBounds_toArray, List.set_cons_zero, List.set_cons_succ]
        refine wpAnyH_take (i := 13) (oi := Go.Oper.mk (Option.some 18) (Go.Op.assign (Go.Operand.tmp 90)) 25 "more.go:40" #[Go.Edge.mk 10 Go.Ground.data, Go.Edge.mk 12 Go.Ground.chain, Go.Edge.mk 0 Go.Ground.phase, Go.Edge.mk 1 Go.Ground.phase, Go.Edge.mk 2 Go.Ground.phase, Go.Edge.mk 3 Go.Ground.phase, Go.Edge.mk 4 Go.Ground.phase, Go.Edge.mk 5 Go.Ground.phase, Go.Edge.mk 6 Go.Ground.phase, Go.Edge.mk 7 Go.Ground.phase, Go.Edge.mk 8 Go.Ground.phase, Go.Edge.mk 9 Go.Ground.phase, Go.Edge.mk 10 Go.Ground.phase, Go.Edge.mk 11 Go.Ground.phase, Go.Edge.mk 12 Go.Ground.phase] Option.none) (v := ?q14_v) rfl (by kernel_rfl) (by kernel_rfl) (by kernel_rfl) (fun _ _ _ h => h) (Or.inl ⟨by rfl, ?q14_y⟩) (by assumption) ?_
        case q14_y => (intro w hSw; (try dsimp only at hSw); go_simp; (first | done | with_reducible rfl))
        try simp only [Act.put, List.setIfInBounds_toArray, List.set_cons_zero, List.set_cons_succ]
        refine wpAnyH_done (by kernel_rfl) ?_ _
        clear hy u3 r1 hbs
        (try clear hcv3)
        have hle : w.heap.size ≤ w8.heap.size := HB8.out.size
        rcases HE1.out with ⟨e1, rfl⟩ | ⟨e1, rfl⟩
        · have f1 : ((m : Int) == 0) = true := by simp; omega
          rcases HE4.out with ⟨e3, rfl⟩ | ⟨e3, rfl⟩ | ⟨e3, e5, rfl⟩
          · have f3 : ((y.toNat : Int) == 1) = true := by rw [e3]; rfl
            have f4 : ((y.toNat : Int) == 2) = false := by rw [e3]; rfl
            clear e3
            have hy := HY.out
            go_wp2_with fail
            go_ret
            exact ⟨rfl, by repeat (first | exact HB9.out | apply bel_drew | apply bel_alloc | refine Below.setCell ?_ (by simp; omega) _)⟩
          · have f3 : ((y.toNat : Int) == 1) = false := by rw [e3]; rfl
            have f4 : ((y.toNat : Int) == 2) = true := by rw [e3]; rfl
            clear e3
            have hy := HY.out
            go_wp2_with fail
            go_ret
            exact ⟨rfl, by repeat (first | exact HB9.out | apply bel_drew | apply bel_alloc | refine Below.setCell ?_ (by simp; omega) _)⟩
          · have f3 : ((y.toNat : Int) == 1) = false := by simp; intro h; exact e3 (UInt8.toNat_inj.1 (by rw [show (1 : UInt8).toNat = 1 from rfl]; omega))
            have f4 : ((y.toNat : Int) == 2) = false := by simp; intro h; exact e5 (UInt8.toNat_inj.1 (by rw [show (2 : UInt8).toNat = 2 from rfl]; omega))
            clear e3 e5
            have hy := HY.out
            go_wp2_with fail
            go_ret
            exact ⟨rfl, by repeat (first | exact HB9.out | apply bel_drew | apply bel_alloc | refine Below.setCell ?_ (by simp; omega) _)⟩
        · have f1 : ((m : Int) == 0) = false := by simp; omega
          rcases HE4.out with ⟨e3, rfl⟩ | ⟨e3, rfl⟩ | ⟨e3, e5, rfl⟩
          · have f3 : ((y.toNat : Int) == 1) = true := by rw [e3]; rfl
            have f4 : ((y.toNat : Int) == 2) = false := by rw [e3]; rfl
            clear e3
            have hy := HY.out
            go_wp2_with fail
            go_ret
            exact ⟨rfl, by repeat (first | exact HB9.out | apply bel_drew | apply bel_alloc | refine Below.setCell ?_ (by simp; omega) _)⟩
          · have f3 : ((y.toNat : Int) == 1) = false := by rw [e3]; rfl
            have f4 : ((y.toNat : Int) == 2) = true := by rw [e3]; rfl
            clear e3
            have hy := HY.out
            go_wp2_with fail
            go_ret
            exact ⟨rfl, by repeat (first | exact HB9.out | apply bel_drew | apply bel_alloc | refine Below.setCell ?_ (by simp; omega) _)⟩
          · have f3 : ((y.toNat : Int) == 1) = false := by simp; intro h; exact e3 (UInt8.toNat_inj.1 (by rw [show (1 : UInt8).toNat = 1 from rfl]; omega))
            have f4 : ((y.toNat : Int) == 2) = false := by simp; intro h; exact e5 (UInt8.toNat_inj.1 (by rw [show (2 : UInt8).toNat = 2 from rfl]; omega))
            clear e3 e5
            have hy := HY.out
            go_wp2_with fail
            go_ret
            exact ⟨rfl, by repeat (first | exact HB9.out | apply bel_drew | apply bel_alloc | refine Below.setCell ?_ (by simp; omega) _)⟩
      refine AllReadyH.cons (i := 11) (o := Go.Oper.mk (Option.some 17) (Go.Op.alloc 24) 0 "more.go:40" #[] Option.none) rfl (fun K hK => ?_) ?_
      · go_simp
        (skip)
        go_wp2_with fail
        refine hK.out _ _ ?q8_k11 (fun hHeld => ?_)
        case q8_k11 => first | (exact trivial) | (dsimp only; exact trivial)
        clear hK K
        try simp only [Act.put, List.setIfInBounds_toArray, List.set_cons_zero, List.set_cons_succ]
        refine wpAnyH_ready (rs := [7]) (by kernel_rfl) (by simp) ?_
        refine AllReadyH.cons (i := 7) (o := Go.Oper.mk (Option.some 88) (Go.Op.call (Go.Call.mk (Go.Callee.value (Go.Operand.func 9)) #[Go.Operand.tmp 87] #[9])) 26 "more.go:40" #[Go.Edge.mk 6 Go.Ground.data] Option.none) rfl (fun K hK => ?_) AllReadyH.nil
        (try clear hcv3)
        go_simp
        (refine (HR4.out _).mono ?_; rintro e w9 ⟨rfl, hb⟩; have HB9 : Box (Below w.heap.size w w9) := ⟨bel_calls (by repeat (first | exact HB8.out | apply bel_drew | apply bel_alloc)) hb⟩; have HP9 : Box (PrintAt w9 (w8.heap.size + 1) 0 ⟨#[]⟩) := ⟨((show PrintAt _ (w8.heap.size + 1) _ _ from by have h9 := PrintAt.new (w8.alloc (.cells #[.int .u8 (y.toNat : Int)] 5)) 0 ⟨#[]⟩; rw [show (w8.alloc (.cells #[.int .u8 (y.toNat : Int)] 5)).heap.size = w8.heap.size + 1 by simp] at h9; exact h9).drew).below hb⟩; have c0 := HP9.out.c0; have c1 := HP9.out.c1; have f0 := HP9.out.f0; have f1 := HP9.out.f1; clear hb)
        go_wp2_with fail
        refine hK.out _ _ ?q15_k7 (fun hHeld => ?_)
        case q15_k7 => first | (exact trivial) | (dsimp only; exact trivial)
        clear hK K
        try simp only [Act.put, List.setIfInBounds_toArray, List.set_cons_zero, List.set_cons_succ]
        refine wpAnyH_take (i := 8) (oi := Go.Oper.mk (Option.some 80) (Go.Op.move (Go.Operand.tmp 88)) 26 "more.go:40" #[Go.Edge.mk 7 Go.Ground.data] Option.none) (v := ?q16_v) rfl (by kernel_rfl) (by kernel_rfl) (by kernel_rfl) (fun _ _ _ h => h) (Or.inl ⟨by rfl, ?q16_y⟩) (by assumption) ?_
        case q16_y => (intro w hSw; (try dsimp only at hSw); go_simp; (first | done | with_reducible rfl))
        try simp only [Act.put, List.setIfInBounds_toArray, List.set_cons_zero, List.set_cons_succ]
        refine wpAnyH_take (i := 9) (oi := Go.Oper.mk (Option.some 89) (Go.Op.extract (Go.Operand.tmp 80) 0) 24 "more.go:40" #[Go.Edge.mk 8 Go.Ground.data] Option.none) (v := ?q17_v) rfl (by kernel_rfl) (by kernel_rfl) (by kernel_rfl) (fun _ _ _ h => h) (Or.inl ⟨by rfl, ?q17_y⟩) (by assumption) ?_
        case q17_y => (intro w hSw; (try dsimp only at hSw); go_simp; (first | done | with_reducible rfl))
        try simp only [Act.put, List.setIfInBounds_toArray, List.set_cons_zero, List.set_cons_succ]
        refine wpAnyH_take (i := 10) (oi := Go.Oper.mk (Option.some 90) (Go.Op.extract (Go.Operand.tmp 80) 1) 25 "more.go:40" #[Go.Edge.mk 8 Go.Ground.data, Go.Edge.mk 12 (Go.Ground.gcOnly Go.Departure.lateStores)] Option.none) (v := ?q18_v) rfl (by kernel_rfl) (by kernel_rfl) (by kernel_rfl) (fun _ _ _ h => h) (Or.inl ⟨by rfl, ?q18_y⟩) (by assumption) ?_
        case q18_y => (intro w hSw; (try dsimp only at hSw); go_simp; (first | done | with_reducible rfl))
        try simp only [Act.put, List.setIfInBounds_toArray, List.set_cons_zero, List.set_cons_succ]
        refine wpAnyH_ready (rs := [12]) (by kernel_rfl) (by simp) ?_
        refine AllReadyH.cons (i := 12) (o := Go.Oper.mk Option.none (Go.Op.store 24 (Go.Operand.tmp 17) (Go.Operand.tmp 89)) 0 "more.go:40" #[Go.Edge.mk 11 Go.Ground.data, Go.Edge.mk 9 Go.Ground.data, Go.Edge.mk 7 Go.Ground.chain, Go.Edge.mk 0 Go.Ground.phase, Go.Edge.mk 1 Go.Ground.phase, Go.Edge.mk 2 Go.Ground.phase, Go.Edge.mk 3 Go.Ground.phase, Go.Edge.mk 4 Go.Ground.phase, Go.Edge.mk 5 Go.Ground.phase, Go.Edge.mk 6 Go.Ground.phase, Go.Edge.mk 7 Go.Ground.phase, Go.Edge.mk 8 Go.Ground.phase, Go.Edge.mk 9 Go.Ground.phase, Go.Edge.mk 10 (Go.Ground.textOnly Go.Departure.lateStores), Go.Edge.mk 11 Go.Ground.phase] Option.none) rfl (fun K hK => ?_) AllReadyH.nil
        go_simp
        (skip)
        go_wp2_with fail
        refine hK.out _ _ ?q19_k12 (fun hHeld => ?_)
        case q19_k12 => first | (exact trivial) | (dsimp only; exact trivial)
        clear hK K
        try simp only [Act.put, List.setIfInBounds_toArray, List.set_cons_zero, List.set_cons_succ]
        refine wpAnyH_take (i := 13) (oi := Go.Oper.mk (Option.some 18) (Go.Op.assign (Go.Operand.tmp 90)) 25 "more.go:40" #[Go.Edge.mk 10 Go.Ground.data, Go.Edge.mk 12 Go.Ground.chain, Go.Edge.mk 0 Go.Ground.phase, Go.Edge.mk 1 Go.Ground.phase, Go.Edge.mk 2 Go.Ground.phase, Go.Edge.mk 3 Go.Ground.phase, Go.Edge.mk 4 Go.Ground.phase, Go.Edge.mk 5 Go.Ground.phase, Go.Edge.mk 6 Go.Ground.phase, Go.Edge.mk 7 Go.Ground.phase, Go.Edge.mk 8 Go.Ground.phase, Go.Edge.mk 9 Go.Ground.phase, Go.Edge.mk 10 Go.Ground.phase, Go.Edge.mk 11 Go.Ground.phase, Go.Edge.mk 12 Go.Ground.phase] Option.none) (v := ?q20_v) rfl (by kernel_rfl) (by kernel_rfl) (by kernel_rfl) (fun _ _ _ h => h) (Or.inl ⟨by rfl, ?q20_y⟩) (by assumption) ?_
        case q20_y => (intro w hSw; (try dsimp only at hSw); go_simp; (first | done | with_reducible rfl))
        try simp only [Act.put, List.setIfInBounds_toArray, List.set_cons_zero, List.set_cons_succ]
        refine wpAnyH_done (by kernel_rfl) ?_ _
        clear hy u3 r1 hbs
        (try clear hcv3)
        have hle : w.heap.size ≤ w8.heap.size := HB8.out.size
        rcases HE1.out with ⟨e1, rfl⟩ | ⟨e1, rfl⟩
        · have f1 : ((m : Int) == 0) = true := by simp; omega
          rcases HE4.out with ⟨e3, rfl⟩ | ⟨e3, rfl⟩ | ⟨e3, e5, rfl⟩
          · have f3 : ((y.toNat : Int) == 1) = true := by rw [e3]; rfl
            have f4 : ((y.toNat : Int) == 2) = false := by rw [e3]; rfl
            clear e3
            have hy := HY.out
            go_wp2_with fail
            go_ret
            exact ⟨rfl, by repeat (first | exact HB9.out | apply bel_drew | apply bel_alloc | refine Below.setCell ?_ (by simp; omega) _)⟩
          · have f3 : ((y.toNat : Int) == 1) = false := by rw [e3]; rfl
            have f4 : ((y.toNat : Int) == 2) = true := by rw [e3]; rfl
            clear e3
            have hy := HY.out
            go_wp2_with fail
            go_ret
            exact ⟨rfl, by repeat (first | exact HB9.out | apply bel_drew | apply bel_alloc | refine Below.setCell ?_ (by simp; omega) _)⟩
          · have f3 : ((y.toNat : Int) == 1) = false := by simp; intro h; exact e3 (UInt8.toNat_inj.1 (by rw [show (1 : UInt8).toNat = 1 from rfl]; omega))
            have f4 : ((y.toNat : Int) == 2) = false := by simp; intro h; exact e5 (UInt8.toNat_inj.1 (by rw [show (2 : UInt8).toNat = 2 from rfl]; omega))
            clear e3 e5
            have hy := HY.out
            go_wp2_with fail
            go_ret
            exact ⟨rfl, by repeat (first | exact HB9.out | apply bel_drew | apply bel_alloc | refine Below.setCell ?_ (by simp; omega) _)⟩
        · have f1 : ((m : Int) == 0) = false := by simp; omega
          rcases HE4.out with ⟨e3, rfl⟩ | ⟨e3, rfl⟩ | ⟨e3, e5, rfl⟩
          · have f3 : ((y.toNat : Int) == 1) = true := by rw [e3]; rfl
            have f4 : ((y.toNat : Int) == 2) = false := by rw [e3]; rfl
            clear e3
            have hy := HY.out
            go_wp2_with fail
            go_ret
            exact ⟨rfl, by repeat (first | exact HB9.out | apply bel_drew | apply bel_alloc | refine Below.setCell ?_ (by simp; omega) _)⟩
          · have f3 : ((y.toNat : Int) == 1) = false := by rw [e3]; rfl
            have f4 : ((y.toNat : Int) == 2) = true := by rw [e3]; rfl
            clear e3
            have hy := HY.out
            go_wp2_with fail
            go_ret
            exact ⟨rfl, by repeat (first | exact HB9.out | apply bel_drew | apply bel_alloc | refine Below.setCell ?_ (by simp; omega) _)⟩
          · have f3 : ((y.toNat : Int) == 1) = false := by simp; intro h; exact e3 (UInt8.toNat_inj.1 (by rw [show (1 : UInt8).toNat = 1 from rfl]; omega))
            have f4 : ((y.toNat : Int) == 2) = false := by simp; intro h; exact e5 (UInt8.toNat_inj.1 (by rw [show (2 : UInt8).toNat = 2 from rfl]; omega))
            clear e3 e5
            have hy := HY.out
            go_wp2_with fail
            go_ret
            exact ⟨rfl, by repeat (first | exact HB9.out | apply bel_drew | apply bel_alloc | refine Below.setCell ?_ (by simp; omega) _)⟩
      exact AllReadyH.nil
    refine AllReadyH.cons (i := 11) (o := Go.Oper.mk (Option.some 17) (Go.Op.alloc 24) 0 "more.go:40" #[] Option.none) rfl (fun K hK => ?_) ?_
    · go_simp
      (skip)
      go_wp2_with fail
      refine hK.out _ _ ?q6_k11 (fun hHeld => ?_)
      case q6_k11 => first | (exact trivial) | (dsimp only; exact trivial)
      clear hK K
      try simp only [Act.put, List.setIfInBounds_toArray, List.set_cons_zero, List.set_cons_succ]
      refine wpAnyH_ready (rs := [3]) (by kernel_rfl) (by simp) ?_
      refine AllReadyH.cons (i := 3) (o := Go.Oper.mk (Option.some 84) (Go.Op.convert 31 9 (Go.Operand.tmp 83)) 9 "more.go:40" #[Go.Edge.mk 2 Go.Ground.data] Option.none) rfl (fun K hK => ?_) AllReadyH.nil
      have hcv3 := HCY.out _ _ (show RowAt _ _ (bcells [y]) from row_drew ((rowAt_alloc w8 [.int .u8 (y.toNat : Int)] 5).alloc (.cells #[.int .i64 0, .string ⟨#[]⟩] 24)))
      go_simp
      (skip)
      go_wp2_with fail
      refine hK.out _ _ ?q21_k3 (fun hHeld => ?_)
      case q21_k3 => first | (exact trivial) | (dsimp only; exact trivial)
      clear hK K
      try simp only [Act.put, List.setIfInBounds_toArray, List.set_cons_zero, List.set_cons_succ]
      refine wpAnyH_take (i := 6) (oi := Go.Oper.mk (Option.some 87) (Go.Op.binOp Go.BinOp.add 9 (Go.Operand.tmp 84) (Go.Operand.tmp 86) 9) 9 "more.go:40" #[Go.Edge.mk 3 Go.Ground.data, Go.Edge.mk 5 Go.Ground.data] Option.none) (v := ?q22_v) rfl (by kernel_rfl) (by kernel_rfl) (by kernel_rfl) (fun _ _ _ h => h) (Or.inl ⟨by rfl, ?q22_y⟩) (by assumption) ?_
      case q22_y => (intro w hSw; (try dsimp only at hSw); go_simp; (first | done | with_reducible rfl))
      try simp only [Act.put, List.setIfInBounds_toArray, List.set_cons_zero, List.set_cons_succ]
      refine wpAnyH_ready (rs := [7]) (by kernel_rfl) (by simp) ?_
      refine AllReadyH.cons (i := 7) (o := Go.Oper.mk (Option.some 88) (Go.Op.call (Go.Call.mk (Go.Callee.value (Go.Operand.func 9)) #[Go.Operand.tmp 87] #[9])) 26 "more.go:40" #[Go.Edge.mk 6 Go.Ground.data] Option.none) rfl (fun K hK => ?_) AllReadyH.nil
      (try clear hcv3)
      go_simp
      (refine (HR4.out _).mono ?_; rintro e w9 ⟨rfl, hb⟩; have HB9 : Box (Below w.heap.size w w9) := ⟨bel_calls (by repeat (first | exact HB8.out | apply bel_drew | apply bel_alloc)) hb⟩; have HP9 : Box (PrintAt w9 (w8.heap.size + 1) 0 ⟨#[]⟩) := ⟨((show PrintAt _ (w8.heap.size + 1) _ _ from by have h9 := PrintAt.new (w8.alloc (.cells #[.int .u8 (y.toNat : Int)] 5)) 0 ⟨#[]⟩; rw [show (w8.alloc (.cells #[.int .u8 (y.toNat : Int)] 5)).heap.size = w8.heap.size + 1 by simp] at h9; exact h9).drew).below hb⟩; have c0 := HP9.out.c0; have c1 := HP9.out.c1; have f0 := HP9.out.f0; have f1 := HP9.out.f1; clear hb)
      go_wp2_with fail
      refine hK.out _ _ ?q23_k7 (fun hHeld => ?_)
      case q23_k7 => first | (exact trivial) | (dsimp only; exact trivial)
      clear hK K
      try simp only [Act.put, List.setIfInBounds_toArray, List.set_cons_zero, List.set_cons_succ]
      refine wpAnyH_take (i := 8) (oi := Go.Oper.mk (Option.some 80) (Go.Op.move (Go.Operand.tmp 88)) 26 "more.go:40" #[Go.Edge.mk 7 Go.Ground.data] Option.none) (v := ?q24_v) rfl (by kernel_rfl) (by kernel_rfl) (by kernel_rfl) (fun _ _ _ h => h) (Or.inl ⟨by rfl, ?q24_y⟩) (by assumption) ?_
      case q24_y => (intro w hSw; (try dsimp only at hSw); go_simp; (first | done | with_reducible rfl))
      try simp only [Act.put, List.setIfInBounds_toArray, List.set_cons_zero, List.set_cons_succ]
      refine wpAnyH_take (i := 9) (oi := Go.Oper.mk (Option.some 89) (Go.Op.extract (Go.Operand.tmp 80) 0) 24 "more.go:40" #[Go.Edge.mk 8 Go.Ground.data] Option.none) (v := ?q25_v) rfl (by kernel_rfl) (by kernel_rfl) (by kernel_rfl) (fun _ _ _ h => h) (Or.inl ⟨by rfl, ?q25_y⟩) (by assumption) ?_
      case q25_y => (intro w hSw; (try dsimp only at hSw); go_simp; (first | done | with_reducible rfl))
      try simp only [Act.put, List.setIfInBounds_toArray, List.set_cons_zero, List.set_cons_succ]
      refine wpAnyH_take (i := 10) (oi := Go.Oper.mk (Option.some 90) (Go.Op.extract (Go.Operand.tmp 80) 1) 25 "more.go:40" #[Go.Edge.mk 8 Go.Ground.data, Go.Edge.mk 12 (Go.Ground.gcOnly Go.Departure.lateStores)] Option.none) (v := ?q26_v) rfl (by kernel_rfl) (by kernel_rfl) (by kernel_rfl) (fun _ _ _ h => h) (Or.inl ⟨by rfl, ?q26_y⟩) (by assumption) ?_
      case q26_y => (intro w hSw; (try dsimp only at hSw); go_simp; (first | done | with_reducible rfl))
      try simp only [Act.put, List.setIfInBounds_toArray, List.set_cons_zero, List.set_cons_succ]
      refine wpAnyH_ready (rs := [12]) (by kernel_rfl) (by simp) ?_
      refine AllReadyH.cons (i := 12) (o := Go.Oper.mk Option.none (Go.Op.store 24 (Go.Operand.tmp 17) (Go.Operand.tmp 89)) 0 "more.go:40" #[Go.Edge.mk 11 Go.Ground.data, Go.Edge.mk 9 Go.Ground.data, Go.Edge.mk 7 Go.Ground.chain, Go.Edge.mk 0 Go.Ground.phase, Go.Edge.mk 1 Go.Ground.phase, Go.Edge.mk 2 Go.Ground.phase, Go.Edge.mk 3 Go.Ground.phase, Go.Edge.mk 4 Go.Ground.phase, Go.Edge.mk 5 Go.Ground.phase, Go.Edge.mk 6 Go.Ground.phase, Go.Edge.mk 7 Go.Ground.phase, Go.Edge.mk 8 Go.Ground.phase, Go.Edge.mk 9 Go.Ground.phase, Go.Edge.mk 10 (Go.Ground.textOnly Go.Departure.lateStores), Go.Edge.mk 11 Go.Ground.phase] Option.none) rfl (fun K hK => ?_) AllReadyH.nil
      go_simp
      (skip)
      go_wp2_with fail
      refine hK.out _ _ ?q27_k12 (fun hHeld => ?_)
      case q27_k12 => first | (exact trivial) | (dsimp only; exact trivial)
      clear hK K
      try simp only [Act.put, List.setIfInBounds_toArray, List.set_cons_zero, List.set_cons_succ]
      refine wpAnyH_take (i := 13) (oi := Go.Oper.mk (Option.some 18) (Go.Op.assign (Go.Operand.tmp 90)) 25 "more.go:40" #[Go.Edge.mk 10 Go.Ground.data, Go.Edge.mk 12 Go.Ground.chain, Go.Edge.mk 0 Go.Ground.phase, Go.Edge.mk 1 Go.Ground.phase, Go.Edge.mk 2 Go.Ground.phase, Go.Edge.mk 3 Go.Ground.phase, Go.Edge.mk 4 Go.Ground.phase, Go.Edge.mk 5 Go.Ground.phase, Go.Edge.mk 6 Go.Ground.phase, Go.Edge.mk 7 Go.Ground.phase, Go.Edge.mk 8 Go.Ground.phase, Go.Edge.mk 9 Go.Ground.phase, Go.Edge.mk 10 Go.Ground.phase, Go.Edge.mk 11 Go.Ground.phase, Go.Edge.mk 12 Go.Ground.phase] Option.none) (v := ?q28_v) rfl (by kernel_rfl) (by kernel_rfl) (by kernel_rfl) (fun _ _ _ h => h) (Or.inl ⟨by rfl, ?q28_y⟩) (by assumption) ?_
      case q28_y => (intro w hSw; (try dsimp only at hSw); go_simp; (first | done | with_reducible rfl))
      try simp only [Act.put, List.setIfInBounds_toArray, List.set_cons_zero, List.set_cons_succ]
      refine wpAnyH_done (by kernel_rfl) ?_ _
      clear hy u3 r1 hbs
      (try clear hcv3)
      have hle : w.heap.size ≤ w8.heap.size := HB8.out.size
      rcases HE1.out with ⟨e1, rfl⟩ | ⟨e1, rfl⟩
      · have f1 : ((m : Int) == 0) = true := by simp; omega
        rcases HE4.out with ⟨e3, rfl⟩ | ⟨e3, rfl⟩ | ⟨e3, e5, rfl⟩
        · have f3 : ((y.toNat : Int) == 1) = true := by rw [e3]; rfl
          have f4 : ((y.toNat : Int) == 2) = false := by rw [e3]; rfl
          clear e3
          have hy := HY.out
          go_wp2_with fail
          go_ret
          exact ⟨rfl, by repeat (first | exact HB9.out | apply bel_drew | apply bel_alloc | refine Below.setCell ?_ (by simp; omega) _)⟩
        · have f3 : ((y.toNat : Int) == 1) = false := by rw [e3]; rfl
          have f4 : ((y.toNat : Int) == 2) = true := by rw [e3]; rfl
          clear e3
          have hy := HY.out
          go_wp2_with fail
          go_ret
          exact ⟨rfl, by repeat (first | exact HB9.out | apply bel_drew | apply bel_alloc | refine Below.setCell ?_ (by simp; omega) _)⟩
        · have f3 : ((y.toNat : Int) == 1) = false := by simp; intro h; exact e3 (UInt8.toNat_inj.1 (by rw [show (1 : UInt8).toNat = 1 from rfl]; omega))
          have f4 : ((y.toNat : Int) == 2) = false := by simp; intro h; exact e5 (UInt8.toNat_inj.1 (by rw [show (2 : UInt8).toNat = 2 from rfl]; omega))
          clear e3 e5
          have hy := HY.out
          go_wp2_with fail
          go_ret
          exact ⟨rfl, by repeat (first | exact HB9.out | apply bel_drew | apply bel_alloc | refine Below.setCell ?_ (by simp; omega) _)⟩
      · have f1 : ((m : Int) == 0) = false := by simp; omega
        rcases HE4.out with ⟨e3, rfl⟩ | ⟨e3, rfl⟩ | ⟨e3, e5, rfl⟩
        · have f3 : ((y.toNat : Int) == 1) = true := by rw [e3]; rfl
          have f4 : ((y.toNat : Int) == 2) = false := by rw [e3]; rfl
          clear e3
          have hy := HY.out
          go_wp2_with fail
          go_ret
          exact ⟨rfl, by repeat (first | exact HB9.out | apply bel_drew | apply bel_alloc | refine Below.setCell ?_ (by simp; omega) _)⟩
        · have f3 : ((y.toNat : Int) == 1) = false := by rw [e3]; rfl
          have f4 : ((y.toNat : Int) == 2) = true := by rw [e3]; rfl
          clear e3
          have hy := HY.out
          go_wp2_with fail
          go_ret
          exact ⟨rfl, by repeat (first | exact HB9.out | apply bel_drew | apply bel_alloc | refine Below.setCell ?_ (by simp; omega) _)⟩
        · have f3 : ((y.toNat : Int) == 1) = false := by simp; intro h; exact e3 (UInt8.toNat_inj.1 (by rw [show (1 : UInt8).toNat = 1 from rfl]; omega))
          have f4 : ((y.toNat : Int) == 2) = false := by simp; intro h; exact e5 (UInt8.toNat_inj.1 (by rw [show (2 : UInt8).toNat = 2 from rfl]; omega))
          clear e3 e5
          have hy := HY.out
          go_wp2_with fail
          go_ret
          exact ⟨rfl, by repeat (first | exact HB9.out | apply bel_drew | apply bel_alloc | refine Below.setCell ?_ (by simp; omega) _)⟩
    exact AllReadyH.nil
  refine AllReadyH.cons (i := 11) (o := Go.Oper.mk (Option.some 17) (Go.Op.alloc 24) 0 "more.go:40" #[] Option.none) rfl (fun K hK => ?_) ?_
  · go_simp
    (skip)
    go_wp2_with fail
    refine hK.out _ _ ?q5_k11 (fun hHeld => ?_)
    case q5_k11 => first | (exact trivial) | (dsimp only; exact trivial)
    clear hK K
    try simp only [Act.put, List.setIfInBounds_toArray, List.set_cons_zero, List.set_cons_succ]
    refine wpAnyH_ready (rs := [2]) (by kernel_rfl) (by simp) ?_
    refine AllReadyH.cons (i := 2) (o := Go.Oper.mk (Option.some 83) (Go.Op.buildSlice 31 1 #[(0, Go.Operand.tmp 82)]) 31 "more.go:40" #[Go.Edge.mk 1 Go.Ground.data] Option.none) rfl (fun K hK => ?_) AllReadyH.nil
    go_simp
    (skip)
    go_wp2_with fail
    refine hK.out _ _ ?q29_k2 (fun hHeld => ?_)
    case q29_k2 => first | (exact trivial) | (dsimp only; exact trivial)
    clear hK K
    try simp only [Act.put, List.setIfInBounds_toArray, List.set_cons_zero, List.set_cons_succ]
    refine wpAnyH_ready (rs := [3]) (by kernel_rfl) (by simp) ?_
    refine AllReadyH.cons (i := 3) (o := Go.Oper.mk (Option.some 84) (Go.Op.convert 31 9 (Go.Operand.tmp 83)) 9 "more.go:40" #[Go.Edge.mk 2 Go.Ground.data] Option.none) rfl (fun K hK => ?_) AllReadyH.nil
    have hcv3 := HCY.out _ _ (show RowAt _ _ (bcells [y]) from row_drew (rowAt_alloc_k (k := w8.heap.size + 1) (w8.alloc (.cells #[.int .i64 0, .string ⟨#[]⟩] 24)) [.int .u8 (y.toNat : Int)] 5 (by simp)))
    go_simp
    (skip)
    go_wp2_with fail
    refine hK.out _ _ ?q30_k3 (fun hHeld => ?_)
    case q30_k3 => first | (exact trivial) | (dsimp only; exact trivial)
    clear hK K
    try simp only [Act.put, List.setIfInBounds_toArray, List.set_cons_zero, List.set_cons_succ]
    refine wpAnyH_take (i := 6) (oi := Go.Oper.mk (Option.some 87) (Go.Op.binOp Go.BinOp.add 9 (Go.Operand.tmp 84) (Go.Operand.tmp 86) 9) 9 "more.go:40" #[Go.Edge.mk 3 Go.Ground.data, Go.Edge.mk 5 Go.Ground.data] Option.none) (v := ?q31_v) rfl (by kernel_rfl) (by kernel_rfl) (by kernel_rfl) (fun _ _ _ h => h) (Or.inl ⟨by rfl, ?q31_y⟩) (by assumption) ?_
    case q31_y => (intro w hSw; (try dsimp only at hSw); go_simp; (first | done | with_reducible rfl))
    try simp only [Act.put, List.setIfInBounds_toArray, List.set_cons_zero, List.set_cons_succ]
    refine wpAnyH_ready (rs := [7]) (by kernel_rfl) (by simp) ?_
    refine AllReadyH.cons (i := 7) (o := Go.Oper.mk (Option.some 88) (Go.Op.call (Go.Call.mk (Go.Callee.value (Go.Operand.func 9)) #[Go.Operand.tmp 87] #[9])) 26 "more.go:40" #[Go.Edge.mk 6 Go.Ground.data] Option.none) rfl (fun K hK => ?_) AllReadyH.nil
    (try clear hcv3)
    go_simp
    (refine (HR4.out _).mono ?_; rintro e w9 ⟨rfl, hb⟩; have HB9 : Box (Below w.heap.size w w9) := ⟨bel_calls (by repeat (first | exact HB8.out | apply bel_drew | apply bel_alloc)) hb⟩; have HP9 : Box (PrintAt w9 (w8.heap.size) 0 ⟨#[]⟩) := ⟨(((PrintAt.new w8 0 ⟨#[]⟩).below (bel_alloc (Below.refl _ _) (.cells #[.int .u8 (y.toNat : Int)] 5))).drew).below hb⟩; have c0 := HP9.out.c0; have c1 := HP9.out.c1; have f0 := HP9.out.f0; have f1 := HP9.out.f1; clear hb)
    go_wp2_with fail
    refine hK.out _ _ ?q32_k7 (fun hHeld => ?_)
    case q32_k7 => first | (exact trivial) | (dsimp only; exact trivial)
    clear hK K
    try simp only [Act.put, List.setIfInBounds_toArray, List.set_cons_zero, List.set_cons_succ]
    refine wpAnyH_take (i := 8) (oi := Go.Oper.mk (Option.some 80) (Go.Op.move (Go.Operand.tmp 88)) 26 "more.go:40" #[Go.Edge.mk 7 Go.Ground.data] Option.none) (v := ?q33_v) rfl (by kernel_rfl) (by kernel_rfl) (by kernel_rfl) (fun _ _ _ h => h) (Or.inl ⟨by rfl, ?q33_y⟩) (by assumption) ?_
    case q33_y => (intro w hSw; (try dsimp only at hSw); go_simp; (first | done | with_reducible rfl))
    try simp only [Act.put, List.setIfInBounds_toArray, List.set_cons_zero, List.set_cons_succ]
    refine wpAnyH_take (i := 9) (oi := Go.Oper.mk (Option.some 89) (Go.Op.extract (Go.Operand.tmp 80) 0) 24 "more.go:40" #[Go.Edge.mk 8 Go.Ground.data] Option.none) (v := ?q34_v) rfl (by kernel_rfl) (by kernel_rfl) (by kernel_rfl) (fun _ _ _ h => h) (Or.inl ⟨by rfl, ?q34_y⟩) (by assumption) ?_
    case q34_y => (intro w hSw; (try dsimp only at hSw); go_simp; (first | done | with_reducible rfl))
    try simp only [Act.put, List.setIfInBounds_toArray, List.set_cons_zero, List.set_cons_succ]
    refine wpAnyH_take (i := 10) (oi := Go.Oper.mk (Option.some 90) (Go.Op.extract (Go.Operand.tmp 80) 1) 25 "more.go:40" #[Go.Edge.mk 8 Go.Ground.data, Go.Edge.mk 12 (Go.Ground.gcOnly Go.Departure.lateStores)] Option.none) (v := ?q35_v) rfl (by kernel_rfl) (by kernel_rfl) (by kernel_rfl) (fun _ _ _ h => h) (Or.inl ⟨by rfl, ?q35_y⟩) (by assumption) ?_
    case q35_y => (intro w hSw; (try dsimp only at hSw); go_simp; (first | done | with_reducible rfl))
    try simp only [Act.put, List.setIfInBounds_toArray, List.set_cons_zero, List.set_cons_succ]
    refine wpAnyH_ready (rs := [12]) (by kernel_rfl) (by simp) ?_
    refine AllReadyH.cons (i := 12) (o := Go.Oper.mk Option.none (Go.Op.store 24 (Go.Operand.tmp 17) (Go.Operand.tmp 89)) 0 "more.go:40" #[Go.Edge.mk 11 Go.Ground.data, Go.Edge.mk 9 Go.Ground.data, Go.Edge.mk 7 Go.Ground.chain, Go.Edge.mk 0 Go.Ground.phase, Go.Edge.mk 1 Go.Ground.phase, Go.Edge.mk 2 Go.Ground.phase, Go.Edge.mk 3 Go.Ground.phase, Go.Edge.mk 4 Go.Ground.phase, Go.Edge.mk 5 Go.Ground.phase, Go.Edge.mk 6 Go.Ground.phase, Go.Edge.mk 7 Go.Ground.phase, Go.Edge.mk 8 Go.Ground.phase, Go.Edge.mk 9 Go.Ground.phase, Go.Edge.mk 10 (Go.Ground.textOnly Go.Departure.lateStores), Go.Edge.mk 11 Go.Ground.phase] Option.none) rfl (fun K hK => ?_) AllReadyH.nil
    go_simp
    (skip)
    go_wp2_with fail
    refine hK.out _ _ ?q36_k12 (fun hHeld => ?_)
    case q36_k12 => first | (exact trivial) | (dsimp only; exact trivial)
    clear hK K
    try simp only [Act.put, List.setIfInBounds_toArray, List.set_cons_zero, List.set_cons_succ]
    refine wpAnyH_take (i := 13) (oi := Go.Oper.mk (Option.some 18) (Go.Op.assign (Go.Operand.tmp 90)) 25 "more.go:40" #[Go.Edge.mk 10 Go.Ground.data, Go.Edge.mk 12 Go.Ground.chain, Go.Edge.mk 0 Go.Ground.phase, Go.Edge.mk 1 Go.Ground.phase, Go.Edge.mk 2 Go.Ground.phase, Go.Edge.mk 3 Go.Ground.phase, Go.Edge.mk 4 Go.Ground.phase, Go.Edge.mk 5 Go.Ground.phase, Go.Edge.mk 6 Go.Ground.phase, Go.Edge.mk 7 Go.Ground.phase, Go.Edge.mk 8 Go.Ground.phase, Go.Edge.mk 9 Go.Ground.phase, Go.Edge.mk 10 Go.Ground.phase, Go.Edge.mk 11 Go.Ground.phase, Go.Edge.mk 12 Go.Ground.phase] Option.none) (v := ?q37_v) rfl (by kernel_rfl) (by kernel_rfl) (by kernel_rfl) (fun _ _ _ h => h) (Or.inl ⟨by rfl, ?q37_y⟩) (by assumption) ?_
    case q37_y => (intro w hSw; (try dsimp only at hSw); go_simp; (first | done | with_reducible rfl))
    try simp only [Act.put, List.setIfInBounds_toArray, List.set_cons_zero, List.set_cons_succ]
    refine wpAnyH_done (by kernel_rfl) ?_ _
    clear hy u3 r1 hbs
    (try clear hcv3)
    have hle : w.heap.size ≤ w8.heap.size := HB8.out.size
    rcases HE1.out with ⟨e1, rfl⟩ | ⟨e1, rfl⟩
    · have f1 : ((m : Int) == 0) = true := by simp; omega
      rcases HE4.out with ⟨e3, rfl⟩ | ⟨e3, rfl⟩ | ⟨e3, e5, rfl⟩
      · have f3 : ((y.toNat : Int) == 1) = true := by rw [e3]; rfl
        have f4 : ((y.toNat : Int) == 2) = false := by rw [e3]; rfl
        clear e3
        have hy := HY.out
        go_wp2_with fail
        go_ret
        exact ⟨rfl, by repeat (first | exact HB9.out | apply bel_drew | apply bel_alloc | refine Below.setCell ?_ (by simp; omega) _)⟩
      · have f3 : ((y.toNat : Int) == 1) = false := by rw [e3]; rfl
        have f4 : ((y.toNat : Int) == 2) = true := by rw [e3]; rfl
        clear e3
        have hy := HY.out
        go_wp2_with fail
        go_ret
        exact ⟨rfl, by repeat (first | exact HB9.out | apply bel_drew | apply bel_alloc | refine Below.setCell ?_ (by simp; omega) _)⟩
      · have f3 : ((y.toNat : Int) == 1) = false := by simp; intro h; exact e3 (UInt8.toNat_inj.1 (by rw [show (1 : UInt8).toNat = 1 from rfl]; omega))
        have f4 : ((y.toNat : Int) == 2) = false := by simp; intro h; exact e5 (UInt8.toNat_inj.1 (by rw [show (2 : UInt8).toNat = 2 from rfl]; omega))
        clear e3 e5
        have hy := HY.out
        go_wp2_with fail
        go_ret
        exact ⟨rfl, by repeat (first | exact HB9.out | apply bel_drew | apply bel_alloc | refine Below.setCell ?_ (by simp; omega) _)⟩
    · have f1 : ((m : Int) == 0) = false := by simp; omega
      rcases HE4.out with ⟨e3, rfl⟩ | ⟨e3, rfl⟩ | ⟨e3, e5, rfl⟩
      · have f3 : ((y.toNat : Int) == 1) = true := by rw [e3]; rfl
        have f4 : ((y.toNat : Int) == 2) = false := by rw [e3]; rfl
        clear e3
        have hy := HY.out
        go_wp2_with fail
        go_ret
        exact ⟨rfl, by repeat (first | exact HB9.out | apply bel_drew | apply bel_alloc | refine Below.setCell ?_ (by simp; omega) _)⟩
      · have f3 : ((y.toNat : Int) == 1) = false := by rw [e3]; rfl
        have f4 : ((y.toNat : Int) == 2) = true := by rw [e3]; rfl
        clear e3
        have hy := HY.out
        go_wp2_with fail
        go_ret
        exact ⟨rfl, by repeat (first | exact HB9.out | apply bel_drew | apply bel_alloc | refine Below.setCell ?_ (by simp; omega) _)⟩
      · have f3 : ((y.toNat : Int) == 1) = false := by simp; intro h; exact e3 (UInt8.toNat_inj.1 (by rw [show (1 : UInt8).toNat = 1 from rfl]; omega))
        have f4 : ((y.toNat : Int) == 2) = false := by simp; intro h; exact e5 (UInt8.toNat_inj.1 (by rw [show (2 : UInt8).toNat = 2 from rfl]; omega))
        clear e3 e5
        have hy := HY.out
        go_wp2_with fail
        go_ret
        exact ⟨rfl, by repeat (first | exact HB9.out | apply bel_drew | apply bel_alloc | refine Below.setCell ?_ (by simp; omega) _)⟩
  exact AllReadyH.nil
end Go.Proofs.YtbkankpfkbafdaaDoor
