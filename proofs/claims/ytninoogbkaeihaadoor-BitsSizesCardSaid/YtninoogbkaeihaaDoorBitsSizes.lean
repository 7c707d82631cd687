/- BitsSizes: how many bytes each thing takes. -/
import Derived.Test.YtninoogbkaeihaaDoorBundle3
import Derived.Deep.DeepCutAuto
namespace Go.Proofs.YtninoogbkaeihaaDoor
open Go.RowKit
set_option linter.unusedVariables false

set_option maxHeartbeats 3200000 in
theorem bitsSizes_calls (a0 n : Int) (w : World) (ha : -9223372036854775808 ≤ a0 ∧ a0 ≤ 9223372036854775807) (hn : -9223372036854775808 ≤ n ∧ n ≤ 9223372036854775807) :
    Calls Tryd.prog 3 #[.int .i64 a0, .int .i64 n] w fun e w' => e = .returned (.bool true) ∧ Below w.heap.size w w' := by
  by_cases hg : 0 ≤ n ∧ n ≤ 70000
  case neg =>
    have hg2 : n < 0 ∨ (0 ≤ n ∧ 70000 < n) := by omega
    clear hg
    rcases hg2 with h1 | ⟨h0, h1⟩
    all_goals
      go_enter Tryd.func3, Tryd.ntmps3
      go_wp2_with fail
      refine (bitsAlive_calls _).mono ?_
      rintro e w1 ⟨rfl, hb1⟩
      go_wp2
      go_ret
      exact ⟨rfl, hb1⟩
  obtain ⟨m, rfl⟩ : ∃ m : Nat, n = (m : Int) := ⟨n.toNat, by omega⟩
  have hm : m ≤ 70000 := by omega
  clear hg hn
  have hp := i64_low 8 (by omega) a0
  have hq := i64_low 16 (by omega) a0
  have hp2 : 0 ≤ a0 % ((2 ^ 8 : Nat) : Int) ∧ a0 % ((2 ^ 8 : Nat) : Int) < 256 := ⟨Int.emod_nonneg _ (by decide), Int.emod_lt_of_pos _ (by decide)⟩
  have hq2 : 0 ≤ a0 % ((2 ^ 16 : Nat) : Int) ∧ a0 % ((2 ^ 16 : Nat) : Int) < 65536 := ⟨Int.emod_nonneg _ (by decide), Int.emod_lt_of_pos _ (by decide)⟩
  obtain ⟨p, hp3⟩ : ∃ p, a0 % ((2 ^ 8 : Nat) : Int) = p := ⟨_, rfl⟩
  obtain ⟨q, hq3⟩ : ∃ q, a0 % ((2 ^ 16 : Nat) : Int) = q := ⟨_, rfl⟩
  rw [hp3] at hp hp2
  rw [hq3] at hq hq2
  have kp : bits BinOp.and IntKind.i64 a0 255 = p := hp
  have kq : bits BinOp.and IntKind.i64 a0 65535 = q := hq
  obtain ⟨m1, e1, z1⟩ := layO_many 1 [] [p, 1] 2 rfl (by intro x hx; simp at hx; rcases hx with rfl | rfl <;> exact layB_fine (by omega) (.inr (by simp <;> omega)))
  obtain ⟨m2, e2, z2⟩ := layO_many 2 m1 [q] 4 (by rw [z1]; rfl) (by intro x hx; simp at hx; subst hx; exact layB_fine (by omega) (.inr (by simp; omega)))
  obtain ⟨m3, e3, z3⟩ := layO_many 4 m2 [1, 2] 12 (by rw [z2]; rfl) (by intro x hx; simp at hx; rcases hx with rfl | rfl <;> exact layB_fine (by omega) (.inr (by simp)))
  obtain ⟨m4, e4, z4⟩ := layO_many 8 m3 [3] 20 (by rw [z3]; rfl) (by intro x hx; simp at hx; subst hx; exact layB_fine (by omega) (.inl (by omega)))
  have HP : Box ((-9223372036854775808 ≤ p ∧ p ≤ 9223372036854775807) ∧ -9223372036854775808 ≤ q ∧ q ≤ 9223372036854775807) := ⟨by omega, by omega⟩
  have HE : Box (layO 1 (0, []) [p, 1] = (0, m1) ∧ layO 2 (0, m1) [q] = (0, m2) ∧ layO 4 (0, m2) [1, 2] = (0, m3) ∧ layO 8 (0, m3) [3] = (0, m4)) := ⟨e1, e2, e3, e4⟩
  have HZ : Box (m1.length = 2 ∧ m2.length = 4 ∧ m3.length = 12 ∧ m4.length = 20) := ⟨z1, z2, z3, z4⟩
  clear hp hq hp2 hq2 hp3 hq3 e1 e2 e3 e4 z1 z2 z3 z4 ha
  have hmk := fun W => make_u8 m (by omega) W
  have hzb : (⟨(List.replicate m (0 : UInt8)).toArray⟩ : ByteArray) = zerosB m := rfl
  have hzz : (zerosB m).size = m := zerosB_size m
  obtain ⟨zs, hzs⟩ : ∃ zs, zerosB m = zs := ⟨_, rfl⟩
  rw [hzs] at hzb hzz
  have HZs : Box _ := ⟨hzb⟩
  have hT1 : (65535 < m ∧ textO (0, m4) [zs] = (2, m4)) ∨ (¬ 65535 < m ∧ ∃ m5, textO (0, m4) [zs] = (0, m5) ∧ m5.length = 22 + m) := by
    by_cases h : 65535 < m
    · exact .inl ⟨h, by rw [textO, List.foldl_cons, List.foldl_nil, textOne, if_neg (by simp), if_pos (by omega)]⟩
    · refine .inr ⟨h, _, textO_fine m4 zs (by omega), ?_⟩
      simp only [List.length_append, lowL_length, data_length, HZ.out.2.2.2]
      omega
  obtain ⟨d5, hd5⟩ : ∃ d, textO (0, m4) [zs] = d := ⟨_, rfl⟩
  rw [hd5] at hT1
  have HT1 : Box _ := ⟨hT1⟩
  obtain ⟨t6, ht6⟩ : ∃ t, (endO d5).1 = t := ⟨_, rfl⟩
  obtain ⟨e6, he6⟩ : ∃ e, (endO d5).2 = e := ⟨_, rfl⟩
  have HE6 : Box ((endO d5).1 = t6 ∧ (endO d5).2 = e6) := ⟨ht6, he6⟩
  have C1 : Box (∀ W b L, ∀ g, OutR w W g (0, []) L → (b, icells [p, 1]) ∈ L → _) := ⟨fun W b L g h hm => outByte_row (b := b) h 2 2 [p, 1] hm rfl (by omega) (by simp) (by have := HP.out; intro z hz; simp at hz; omega)⟩
  have C2 : Box (∀ W b L, ∀ g, OutR w W g (0, m1) L → (b, icells [q]) ∈ L → _) := ⟨fun W b L g h hm => outHalf_row (b := b) h 1 1 [q] hm rfl (by omega) (by have := HZ.out; simp only; omega) (by have := HP.out; intro z hz; simp at hz; omega)⟩
  have C3 : Box (∀ W b L, ∀ g, OutR w W g (0, m2) L → (b, icells [1, 2]) ∈ L → _) := ⟨fun W b L g h hm => outWord_row (b := b) h 2 2 [1, 2] hm rfl (by omega) (by have := HZ.out; simp only; omega) (by intro z hz; simp at hz; omega)⟩
  have C4 : Box (∀ W b L, ∀ g, OutR w W g (0, m3) L → (b, icells [3]) ∈ L → _) := ⟨fun W b L g h hm => outLong_row (b := b) h 1 1 [3] hm rfl (by omega) (by have := HZ.out; simp only; omega) (by intro z hz; simp at hz; omega)⟩
  have C5 : Box (∀ W b L, ∀ g, OutR w W g (0, m4) L → (b, scells [zs]) ∈ L → _) := ⟨fun W b L g h hm => outText_row (b := b) h 1 1 [zs] hm rfl (by omega) (by have := HZ.out; simp only [totalLen, List.map_cons, List.map_nil, List.sum_cons, List.sum_nil]; omega)⟩
  have C6 : Box (∀ W L, ∀ g, OutR w W g d5 L → _) := ⟨fun W L g h => outEnd_row h⟩
  rw [HE.out.1] at C1
  rw [HE.out.2.1] at C2
  rw [HE.out.2.2.1] at C3
  rw [HE.out.2.2.2] at C4
  rw [hd5] at C5
  rw [ht6, he6] at C6
  clear hzb hzs hT1 hd5 ht6 he6
  go_enter Tryd.func3, Tryd.ntmps3
  go_wp2_with fail
  refine (bitsAlive_calls _).mono ?_
  rintro e w1 ⟨rfl, hb1⟩
  have HB1 : Box _ := ⟨hb1⟩
  have HO : Box _ := ⟨(RowsR.nil hb1).newOut rfl⟩
  clear hb1
  obtain ⟨g, hg⟩ : ∃ g, w1.heap.size = g := ⟨_, rfl⟩
  rw [hg] at HO
  go_upto_region 4 with fail
  clear hg
  go_cut [6, 7] (fun v1 v2 wx => v1 = .string t6 ∧ v2 = .int .i64 e6 ∧ Box (∃ L, OutR w wx g d5 L))
  case first =>
    refine region_enter ?_
    intro T hT
    have hTs : T.size = 77 := by rw [hT]; rfl
    have B0 : Box (T.getD 0 undef = .int .i64 a0) := ⟨by rw [hT]; rfl⟩
    have B1 : Box (T.getD 1 undef = .int .i64 (m : Int)) := ⟨by rw [hT]; rfl⟩
    have B5 : Box (T.getD 5 undef = .pointer (some ⟨g, 0, none⟩)) := ⟨by rw [hT]; rfl⟩
    refine wp_region_any (by kernel_rfl) ?_
    refine wpAny_inv (fun l a w' => ∃ (xA : Nat) (xB : Nat) (xC : Nat) (xD : Nat) (xE : Nat) (xF : Nat) (L : List (Nat × List Value)), a.defers = [] ∧ a.tmps.size = 77 ∧ (∀ s, s ∉ [6, 7, 23, 24, 25, 26, 27, 28, 29, 30, 31, 32, 33, 34, 35, 36, 37, 38, 39, 40, 41, 42, 43, 44] → a.tmps.getD s undef = T.getD s undef) ∧ (l.getD 0 false = true → a.tmps.getD 24 undef = .pointer (some ⟨g, 0, none⟩)) ∧ (l.getD 1 false = true → a.tmps.getD 25 undef = .int .i64 a0) ∧ (l.getD 2 false = true → a.tmps.getD 26 undef = .int .i64 p) ∧ (l.getD 3 false = true → a.tmps.getD 27 undef = .slice (some ⟨xA, 0, none⟩) 2 2) ∧ (l.getD 4 false = true → a.tmps.getD 28 undef = .pointer (some ⟨g, 0, none⟩)) ∧ (l.getD 5 false = true → a.tmps.getD 29 undef = .int .i64 a0) ∧ (l.getD 6 false = true → a.tmps.getD 30 undef = .int .i64 q) ∧ (l.getD 7 false = true → a.tmps.getD 31 undef = .slice (some ⟨xB, 0, none⟩) 1 1) ∧ (l.getD 8 false = true → a.tmps.getD 32 undef = .pointer (some ⟨g, 0, none⟩)) ∧ (l.getD 9 false = true → a.tmps.getD 33 undef = .slice (some ⟨xC, 0, none⟩) 2 2) ∧ (l.getD 10 false = true → a.tmps.getD 34 undef = .pointer (some ⟨g, 0, none⟩)) ∧ (l.getD 11 false = true → a.tmps.getD 35 undef = .slice (some ⟨xD, 0, none⟩) 1 1) ∧ (l.getD 12 false = true → a.tmps.getD 36 undef = .pointer (some ⟨g, 0, none⟩)) ∧ (l.getD 13 false = true → a.tmps.getD 37 undef = .int .i64 (m : Int)) ∧ (l.getD 14 false = true → a.tmps.getD 38 undef = .slice (some ⟨xE, 0, none⟩) m m) ∧ (l.getD 15 false = true → a.tmps.getD 39 undef = .string zs) ∧ (l.getD 16 false = true → a.tmps.getD 40 undef = .slice (some ⟨xF, 0, none⟩) 1 1) ∧ (l.getD 17 false = true → a.tmps.getD 41 undef = .pointer (some ⟨g, 0, none⟩)) ∧ (l.getD 18 false = true → a.tmps.getD 42 undef = .tuple #[.string t6, .int .i64 e6]) ∧ (l.getD 19 false = true → a.tmps.getD 23 undef = .tuple #[.string t6, .int .i64 e6]) ∧ (l.getD 20 false = true → a.tmps.getD 43 undef = .string t6) ∧ (l.getD 21 false = true → a.tmps.getD 44 undef = .int .i64 e6) ∧ (l.getD 22 false = true → a.tmps.getD 6 undef = .string t6) ∧ (l.getD 23 false = true → a.tmps.getD 7 undef = .int .i64 e6) ∧ (OutR w w' g (if l.getD 17 false = true then d5 else if l.getD 12 false = true then (0, m4) else if l.getD 10 false = true then (0, m3) else if l.getD 8 false = true then (0, m2) else if l.getD 4 false = true then (0, m1) else (0, [])) L) ∧ (l.getD 3 false = true → (xA, icells [p, 1]) ∈ L) ∧ (l.getD 7 false = true → (xB, icells [q]) ∈ L) ∧ (l.getD 9 false = true → (xC, icells [1, 2]) ∈ L) ∧ (l.getD 11 false = true → (xD, icells [3]) ∈ L) ∧ (l.getD 14 false = true → (xE, bcells (List.replicate m 0)) ∈ L) ∧ (l.getD 16 false = true → (xF, scells [zs]) ∈ L) ∧ (l.getD 8 false = true → l.getD 4 false = true) ∧ (l.getD 10 false = true → l.getD 8 false = true) ∧ (l.getD 12 false = true → l.getD 10 false = true) ∧ (l.getD 17 false = true → l.getD 12 false = true)) ?step ?done _ _ _ _ (by simp) (by rw [unlisted_new]; exact Nat.le_refl _) ?start
    case start =>
      refine ⟨0, 0, 0, 0, 0, 0, [], rfl, hTs, fun s _ => rfl, fun h => absurd h (by rw [new_listed]; simp), fun h => absurd h (by rw [new_listed]; simp), fun h => absurd h (by rw [new_listed]; simp), fun h => absurd h (by rw [new_listed]; simp), fun h => absurd h (by rw [new_listed]; simp), fun h => absurd h (by rw [new_listed]; simp), fun h => absurd h (by rw [new_listed]; simp), fun h => absurd h (by rw [new_listed]; simp), fun h => absurd h (by rw [new_listed]; simp), fun h => absurd h (by rw [new_listed]; simp), fun h => absurd h (by rw [new_listed]; simp), fun h => absurd h (by rw [new_listed]; simp), fun h => absurd h (by rw [new_listed]; simp), fun h => absurd h (by rw [new_listed]; simp), fun h => absurd h (by rw [new_listed]; simp), fun h => absurd h (by rw [new_listed]; simp), fun h => absurd h (by rw [new_listed]; simp), fun h => absurd h (by rw [new_listed]; simp), fun h => absurd h (by rw [new_listed]; simp), fun h => absurd h (by rw [new_listed]; simp), fun h => absurd h (by rw [new_listed]; simp), fun h => absurd h (by rw [new_listed]; simp), fun h => absurd h (by rw [new_listed]; simp), fun h => absurd h (by rw [new_listed]; simp), ?_, ?_, ?_, ?_, ?_, ?_, ?_, ?_, ?_, ?_, ?_⟩
      · rw [new_listed, new_listed, new_listed, new_listed, new_listed]; exact HO.out.drew
      · exact fun h => absurd h (by rw [new_listed]; simp)
      · exact fun h => absurd h (by rw [new_listed]; simp)
      · exact fun h => absurd h (by rw [new_listed]; simp)
      · exact fun h => absurd h (by rw [new_listed]; simp)
      · exact fun h => absurd h (by rw [new_listed]; simp)
      · exact fun h => absurd h (by rw [new_listed]; simp)
      · exact fun h => absurd h (by rw [new_listed]; simp)
      · exact fun h => absurd h (by rw [new_listed]; simp)
      · exact fun h => absurd h (by rw [new_listed]; simp)
      · exact fun h => absurd h (by rw [new_listed]; simp)
    case done =>
      intro l a w' hs hI hr
      obtain ⟨xA, xB, xC, xD, xE, xF, L, hdf, hsz, hbs, f0, f1, f2, f3, f4, f5, f6, f7, f8, f9, f10, f11, f12, f13, f14, f15, f16, f17, f18, f19, f20, f21, f22, f23, W0, W1, W2, W3, W4, W5, W6, W7, W8, W9, W10⟩ := hI
      have k0 : l.getD 0 false = true := listed_of hs hr (i := 0) (by simp) rfl (by intro e he; simp at he)
      have k1 : l.getD 1 false = true := listed_of hs hr (i := 1) (by simp) rfl (by intro e he; simp at he)
      have k2 : l.getD 2 false = true := listed_of hs hr (i := 2) (by simp) rfl (by intro e he hb; simp at he; subst he; first | exact k1 | (simp [Region.binds] at hb))
      have k3 : l.getD 3 false = true := listed_of hs hr (i := 3) (by simp) rfl (by intro e he hb; simp at he; subst he; first | exact k2 | (simp [Region.binds] at hb))
      have k4 : l.getD 4 false = true := listed_of hs hr (i := 4) (by simp) rfl (by intro e he hb; simp at he; rcases he with rfl | rfl <;> first | exact k0 | exact k3 | (simp [Region.binds] at hb))
      have k5 : l.getD 5 false = true := listed_of hs hr (i := 5) (by simp) rfl (by intro e he; simp at he)
      have k6 : l.getD 6 false = true := listed_of hs hr (i := 6) (by simp) rfl (by intro e he hb; simp at he; subst he; first | exact k5 | (simp [Region.binds] at hb))
      have k7 : l.getD 7 false = true := listed_of hs hr (i := 7) (by simp) rfl (by intro e he hb; simp at he; subst he; first | exact k6 | (simp [Region.binds] at hb))
      have k8 : l.getD 8 false = true := listed_of hs hr (i := 8) (by simp) rfl (by intro e he hb; simp at he; rcases he with rfl | rfl | rfl <;> first | exact k4 | exact k7 | exact k4 | (simp [Region.binds] at hb))
      have k9 : l.getD 9 false = true := listed_of hs hr (i := 9) (by simp) rfl (by intro e he; simp at he)
      have k10 : l.getD 10 false = true := listed_of hs hr (i := 10) (by simp) rfl (by intro e he hb; simp at he; rcases he with rfl | rfl | rfl <;> first | exact k8 | exact k9 | exact k8 | (simp [Region.binds] at hb))
      have k11 : l.getD 11 false = true := listed_of hs hr (i := 11) (by simp) rfl (by intro e he; simp at he)
      have k12 : l.getD 12 false = true := listed_of hs hr (i := 12) (by simp) rfl (by intro e he hb; simp at he; rcases he with rfl | rfl | rfl <;> first | exact k10 | exact k11 | exact k10 | (simp [Region.binds] at hb))
      have k13 : l.getD 13 false = true := listed_of hs hr (i := 13) (by simp) rfl (by intro e he; simp at he)
      have k14 : l.getD 14 false = true := listed_of hs hr (i := 14) (by simp) rfl (by intro e he hb; simp at he; rcases he with rfl | rfl <;> first | exact k13 | exact k13 | (simp [Region.binds] at hb))
      have k15 : l.getD 15 false = true := listed_of hs hr (i := 15) (by simp) rfl (by intro e he hb; simp at he; subst he; first | exact k14 | (simp [Region.binds] at hb))
      have k16 : l.getD 16 false = true := listed_of hs hr (i := 16) (by simp) rfl (by intro e he hb; simp at he; subst he; first | exact k15 | (simp [Region.binds] at hb))
      have k17 : l.getD 17 false = true := listed_of hs hr (i := 17) (by simp) rfl (by intro e he hb; simp at he; rcases he with rfl | rfl | rfl <;> first | exact k12 | exact k16 | exact k12 | (simp [Region.binds] at hb))
      have k18 : l.getD 18 false = true := listed_of hs hr (i := 18) (by simp) rfl (by intro e he hb; simp at he; rcases he with rfl | rfl <;> first | exact k17 | exact k17 | (simp [Region.binds] at hb))
      have k19 : l.getD 19 false = true := listed_of hs hr (i := 19) (by simp) rfl (by intro e he hb; simp at he; subst he; first | exact k18 | (simp [Region.binds] at hb))
      have k20 : l.getD 20 false = true := listed_of hs hr (i := 20) (by simp) rfl (by intro e he hb; simp at he; subst he; first | exact k19 | (simp [Region.binds] at hb))
      have k21 : l.getD 21 false = true := listed_of hs hr (i := 21) (by simp) rfl (by intro e he hb; simp at he; rcases he with rfl | rfl <;> first | exact k19 | (simp [Region.binds] at hb))
      have k22 : l.getD 22 false = true := listed_of hs hr (i := 22) (by simp) rfl (by intro e he hb; simp at he; rcases he with rfl | rfl | rfl | rfl | rfl | rfl | rfl | rfl | rfl | rfl | rfl | rfl | rfl | rfl | rfl | rfl | rfl | rfl | rfl | rfl | rfl | rfl | rfl | rfl <;> first | exact k20 | exact k18 | exact k0 | exact k1 | exact k2 | exact k3 | exact k4 | exact k5 | exact k6 | exact k7 | exact k8 | exact k9 | exact k10 | exact k11 | exact k12 | exact k13 | exact k14 | exact k15 | exact k16 | exact k17 | exact k18 | exact k19 | exact k20 | (simp [Region.binds] at hb))
      have k23 : l.getD 23 false = true := listed_of hs hr (i := 23) (by simp) rfl (by intro e he hb; simp at he; rcases he with rfl | rfl | rfl | rfl | rfl | rfl | rfl | rfl | rfl | rfl | rfl | rfl | rfl | rfl | rfl | rfl | rfl | rfl | rfl | rfl | rfl | rfl | rfl | rfl | rfl <;> first | exact k21 | exact k22 | exact k0 | exact k1 | exact k2 | exact k3 | exact k4 | exact k5 | exact k6 | exact k7 | exact k8 | exact k9 | exact k10 | exact k11 | exact k12 | exact k13 | exact k14 | exact k15 | exact k16 | exact k17 | exact k18 | exact k19 | exact k20 | exact k21 | exact k22 | (simp [Region.binds] at hb))
      have hfr := frame_of [(24, .pointer (some ⟨g, 0, none⟩)), (25, .int .i64 a0), (26, .int .i64 p), (27, .slice (some ⟨xA, 0, none⟩) 2 2), (28, .pointer (some ⟨g, 0, none⟩)), (29, .int .i64 a0), (30, .int .i64 q), (31, .slice (some ⟨xB, 0, none⟩) 1 1), (32, .pointer (some ⟨g, 0, none⟩)), (33, .slice (some ⟨xC, 0, none⟩) 2 2), (34, .pointer (some ⟨g, 0, none⟩)), (35, .slice (some ⟨xD, 0, none⟩) 1 1), (36, .pointer (some ⟨g, 0, none⟩)), (37, .int .i64 (m : Int)), (38, .slice (some ⟨xE, 0, none⟩) m m), (39, .string zs), (40, .slice (some ⟨xF, 0, none⟩) 1 1), (41, .pointer (some ⟨g, 0, none⟩)), (42, .tuple #[.string t6, .int .i64 e6]), (23, .tuple #[.string t6, .int .i64 e6]), (43, .string t6), (44, .int .i64 e6), (6, .string t6), (7, .int .i64 e6)] T a.tmps (by rw [hsz, hTs]) (by rw [hTs]; simp) (by simp) (by intro p hp; simp at hp; rcases hp with rfl | rfl | rfl | rfl | rfl | rfl | rfl | rfl | rfl | rfl | rfl | rfl | rfl | rfl | rfl | rfl | rfl | rfl | rfl | rfl | rfl | rfl | rfl | rfl; exact f0 k0; exact f1 k1; exact f2 k2; exact f3 k3; exact f4 k4; exact f5 k5; exact f6 k6; exact f7 k7; exact f8 k8; exact f9 k9; exact f10 k10; exact f11 k11; exact f12 k12; exact f13 k13; exact f14 k14; exact f15 k15; exact f16 k16; exact f17 k17; exact f18 k18; exact f19 k19; exact f20 k20; exact f21 k21; exact f22 k22; exact f23 k23) (by intro s hsn; exact hbs s (fun hm => hsn (by simp at hm ⊢; omega)))
      rw [if_pos k17] at W0
      obtain ⟨ad, td⟩ := a
      simp only at hdf hfr
      subst hdf
      rw [hfr, hT]
      simp only [List.foldl, List.setIfInBounds_toArray, List.set_cons_zero, List.set_cons_succ]
      go_wp2_with fail
      go_meet
      exact ⟨rfl, rfl, ⟨_, W0⟩⟩
    case step =>
      intro l a w' i hs hI hi
      obtain ⟨xA, xB, xC, xD, xE, xF, L, hdf, hsz, hbs, f0, f1, f2, f3, f4, f5, f6, f7, f8, f9, f10, f11, f12, f13, f14, f15, f16, f17, f18, f19, f20, f21, f22, f23, W0, W1, W2, W3, W4, W5, W6, W7, W8, W9, W10⟩ := hI
      have hil := ready_lt hi
      have hil2 : i < l.size := by rw [hs]; exact hil
      have hnot := not_listed hil2 (ready_not hi)
      have hcs : i = 0 ∨ i = 1 ∨ i = 2 ∨ i = 3 ∨ i = 4 ∨ i = 5 ∨ i = 6 ∨ i = 7 ∨ i = 8 ∨ i = 9 ∨ i = 10 ∨ i = 11 ∨ i = 12 ∨ i = 13 ∨ i = 14 ∨ i = 15 ∨ i = 16 ∨ i = 17 ∨ i = 18 ∨ i = 19 ∨ i = 20 ∨ i = 21 ∨ i = 22 ∨ i = 23 := by simp at hil; omega
      rcases hcs with rfl | rfl | rfl | rfl | rfl | rfl | rfl | rfl | rfl | rfl | rfl | rfl | rfl | rfl | rfl | rfl | rfl | rfl | rfl | rfl | rfl | rfl | rfl | rfl
      · have b0 := (hbs 0 (by decide)).trans B0.out
        have b1 := (hbs 1 (by decide)).trans B1.out
        have b5 := (hbs 5 (by decide)).trans B5.out
        clear hi hil
        refine wpOp_step rfl (fun K hK => ?_)
        go_simp
        refine hK _ _ ?_
        clear hK K
        refine ⟨xA, xB, xC, xD, xE, xF, L, by first | rfl | exact hdf, put_size.trans hsz, base_other (by rw [hsz]; decide) (by decide) hbs, fact_self (by rw [hsz]; decide) rfl, fact_other hil2 (by rw [hsz]; decide) (by decide) (by decide) f1, fact_other hil2 (by rw [hsz]; decide) (by decide) (by decide) f2, fact_other hil2 (by rw [hsz]; decide) (by decide) (by decide) f3, fact_other hil2 (by rw [hsz]; decide) (by decide) (by decide) f4, fact_other hil2 (by rw [hsz]; decide) (by decide) (by decide) f5, fact_other hil2 (by rw [hsz]; decide) (by decide) (by decide) f6, fact_other hil2 (by rw [hsz]; decide) (by decide) (by decide) f7, fact_other hil2 (by rw [hsz]; decide) (by decide) (by decide) f8, fact_other hil2 (by rw [hsz]; decide) (by decide) (by decide) f9, fact_other hil2 (by rw [hsz]; decide) (by decide) (by decide) f10, fact_other hil2 (by rw [hsz]; decide) (by decide) (by decide) f11, fact_other hil2 (by rw [hsz]; decide) (by decide) (by decide) f12, fact_other hil2 (by rw [hsz]; decide) (by decide) (by decide) f13, fact_other hil2 (by rw [hsz]; decide) (by decide) (by decide) f14, fact_other hil2 (by rw [hsz]; decide) (by decide) (by decide) f15, fact_other hil2 (by rw [hsz]; decide) (by decide) (by decide) f16, fact_other hil2 (by rw [hsz]; decide) (by decide) (by decide) f17, fact_other hil2 (by rw [hsz]; decide) (by decide) (by decide) f18, fact_other hil2 (by rw [hsz]; decide) (by decide) (by decide) f19, fact_other hil2 (by rw [hsz]; decide) (by decide) (by decide) f20, fact_other hil2 (by rw [hsz]; decide) (by decide) (by decide) f21, fact_other hil2 (by rw [hsz]; decide) (by decide) (by decide) f22, fact_other hil2 (by rw [hsz]; decide) (by decide) (by decide) f23, ?_, ?_, ?_, ?_, ?_, ?_, ?_, ?_, ?_, ?_, ?_⟩
        · rw [@listed_other l _ 17 hil2 (by decide), @listed_other l _ 12 hil2 (by decide), @listed_other l _ 10 hil2 (by decide), @listed_other l _ 8 hil2 (by decide), @listed_other l _ 4 hil2 (by decide)]; exact W0
        · rw [@listed_other l _ 3 hil2 (by decide)]; exact W1
        · rw [@listed_other l _ 7 hil2 (by decide)]; exact W2
        · rw [@listed_other l _ 9 hil2 (by decide)]; exact W3
        · rw [@listed_other l _ 11 hil2 (by decide)]; exact W4
        · rw [@listed_other l _ 14 hil2 (by decide)]; exact W5
        · rw [@listed_other l _ 16 hil2 (by decide)]; exact W6
        · rw [@listed_other l _ 8 hil2 (by decide), @listed_other l _ 4 hil2 (by decide)]; exact W7
        · rw [@listed_other l _ 10 hil2 (by decide), @listed_other l _ 8 hil2 (by decide)]; exact W8
        · rw [@listed_other l _ 12 hil2 (by decide), @listed_other l _ 10 hil2 (by decide)]; exact W9
        · rw [@listed_other l _ 17 hil2 (by decide), @listed_other l _ 12 hil2 (by decide)]; exact W10
      · have b0 := (hbs 0 (by decide)).trans B0.out
        have b1 := (hbs 1 (by decide)).trans B1.out
        have b5 := (hbs 5 (by decide)).trans B5.out
        clear hi hil
        refine wpOp_step rfl (fun K hK => ?_)
        go_simp
        refine hK _ _ ?_
        clear hK K
        refine ⟨xA, xB, xC, xD, xE, xF, L, by first | rfl | exact hdf, put_size.trans hsz, base_other (by rw [hsz]; decide) (by decide) hbs, fact_other hil2 (by rw [hsz]; decide) (by decide) (by decide) f0, fact_self (by rw [hsz]; decide) rfl, fact_other hil2 (by rw [hsz]; decide) (by decide) (by decide) f2, fact_other hil2 (by rw [hsz]; decide) (by decide) (by decide) f3, fact_other hil2 (by rw [hsz]; decide) (by decide) (by decide) f4, fact_other hil2 (by rw [hsz]; decide) (by decide) (by decide) f5, fact_other hil2 (by rw [hsz]; decide) (by decide) (by decide) f6, fact_other hil2 (by rw [hsz]; decide) (by decide) (by decide) f7, fact_other hil2 (by rw [hsz]; decide) (by decide) (by decide) f8, fact_other hil2 (by rw [hsz]; decide) (by decide) (by decide) f9, fact_other hil2 (by rw [hsz]; decide) (by decide) (by decide) f10, fact_other hil2 (by rw [hsz]; decide) (by decide) (by decide) f11, fact_other hil2 (by rw [hsz]; decide) (by decide) (by decide) f12, fact_other hil2 (by rw [hsz]; decide) (by decide) (by decide) f13, fact_other hil2 (by rw [hsz]; decide) (by decide) (by decide) f14, fact_other hil2 (by rw [hsz]; decide) (by decide) (by decide) f15, fact_other hil2 (by rw [hsz]; decide) (by decide) (by decide) f16, fact_other hil2 (by rw [hsz]; decide) (by decide) (by decide) f17, fact_other hil2 (by rw [hsz]; decide) (by decide) (by decide) f18, fact_other hil2 (by rw [hsz]; decide) (by decide) (by decide) f19, fact_other hil2 (by rw [hsz]; decide) (by decide) (by decide) f20, fact_other hil2 (by rw [hsz]; decide) (by decide) (by decide) f21, fact_other hil2 (by rw [hsz]; decide) (by decide) (by decide) f22, fact_other hil2 (by rw [hsz]; decide) (by decide) (by decide) f23, ?_, ?_, ?_, ?_, ?_, ?_, ?_, ?_, ?_, ?_, ?_⟩
        · rw [@listed_other l _ 17 hil2 (by decide), @listed_other l _ 12 hil2 (by decide), @listed_other l _ 10 hil2 (by decide), @listed_other l _ 8 hil2 (by decide), @listed_other l _ 4 hil2 (by decide)]; exact W0
        · rw [@listed_other l _ 3 hil2 (by decide)]; exact W1
        · rw [@listed_other l _ 7 hil2 (by decide)]; exact W2
        · rw [@listed_other l _ 9 hil2 (by decide)]; exact W3
        · rw [@listed_other l _ 11 hil2 (by decide)]; exact W4
        · rw [@listed_other l _ 14 hil2 (by decide)]; exact W5
        · rw [@listed_other l _ 16 hil2 (by decide)]; exact W6
        · rw [@listed_other l _ 8 hil2 (by decide), @listed_other l _ 4 hil2 (by decide)]; exact W7
        · rw [@listed_other l _ 10 hil2 (by decide), @listed_other l _ 8 hil2 (by decide)]; exact W8
        · rw [@listed_other l _ 12 hil2 (by decide), @listed_other l _ 10 hil2 (by decide)]; exact W9
        · rw [@listed_other l _ 17 hil2 (by decide), @listed_other l _ 12 hil2 (by decide)]; exact W10
      · have d1 : l.getD 1 false = true := ready_on hi (k := 0) rfl rfl rfl
        have e1 := f1 d1
        have b0 := (hbs 0 (by decide)).trans B0.out
        have b1 := (hbs 1 (by decide)).trans B1.out
        have b5 := (hbs 5 (by decide)).trans B5.out
        clear hi hil
        refine wpOp_step rfl (fun K hK => ?_)
        go_simp
        refine hK _ _ ?_
        clear hK K
        refine ⟨xA, xB, xC, xD, xE, xF, L, by first | rfl | exact hdf, put_size.trans hsz, base_other (by rw [hsz]; decide) (by decide) hbs, fact_other hil2 (by rw [hsz]; decide) (by decide) (by decide) f0, fact_other hil2 (by rw [hsz]; decide) (by decide) (by decide) f1, fact_self (by rw [hsz]; decide) rfl, fact_other hil2 (by rw [hsz]; decide) (by decide) (by decide) f3, fact_other hil2 (by rw [hsz]; decide) (by decide) (by decide) f4, fact_other hil2 (by rw [hsz]; decide) (by decide) (by decide) f5, fact_other hil2 (by rw [hsz]; decide) (by decide) (by decide) f6, fact_other hil2 (by rw [hsz]; decide) (by decide) (by decide) f7, fact_other hil2 (by rw [hsz]; decide) (by decide) (by decide) f8, fact_other hil2 (by rw [hsz]; decide) (by decide) (by decide) f9, fact_other hil2 (by rw [hsz]; decide) (by decide) (by decide) f10, fact_other hil2 (by rw [hsz]; decide) (by decide) (by decide) f11, fact_other hil2 (by rw [hsz]; decide) (by decide) (by decide) f12, fact_other hil2 (by rw [hsz]; decide) (by decide) (by decide) f13, fact_other hil2 (by rw [hsz]; decide) (by decide) (by decide) f14, fact_other hil2 (by rw [hsz]; decide) (by decide) (by decide) f15, fact_other hil2 (by rw [hsz]; decide) (by decide) (by decide) f16, fact_other hil2 (by rw [hsz]; decide) (by decide) (by decide) f17, fact_other hil2 (by rw [hsz]; decide) (by decide) (by decide) f18, fact_other hil2 (by rw [hsz]; decide) (by decide) (by decide) f19, fact_other hil2 (by rw [hsz]; decide) (by decide) (by decide) f20, fact_other hil2 (by rw [hsz]; decide) (by decide) (by decide) f21, fact_other hil2 (by rw [hsz]; decide) (by decide) (by decide) f22, fact_other hil2 (by rw [hsz]; decide) (by decide) (by decide) f23, ?_, ?_, ?_, ?_, ?_, ?_, ?_, ?_, ?_, ?_, ?_⟩
        · rw [@listed_other l _ 17 hil2 (by decide), @listed_other l _ 12 hil2 (by decide), @listed_other l _ 10 hil2 (by decide), @listed_other l _ 8 hil2 (by decide), @listed_other l _ 4 hil2 (by decide)]; exact W0
        · rw [@listed_other l _ 3 hil2 (by decide)]; exact W1
        · rw [@listed_other l _ 7 hil2 (by decide)]; exact W2
        · rw [@listed_other l _ 9 hil2 (by decide)]; exact W3
        · rw [@listed_other l _ 11 hil2 (by decide)]; exact W4
        · rw [@listed_other l _ 14 hil2 (by decide)]; exact W5
        · rw [@listed_other l _ 16 hil2 (by decide)]; exact W6
        · rw [@listed_other l _ 8 hil2 (by decide), @listed_other l _ 4 hil2 (by decide)]; exact W7
        · rw [@listed_other l _ 10 hil2 (by decide), @listed_other l _ 8 hil2 (by decide)]; exact W8
        · rw [@listed_other l _ 12 hil2 (by decide), @listed_other l _ 10 hil2 (by decide)]; exact W9
        · rw [@listed_other l _ 17 hil2 (by decide), @listed_other l _ 12 hil2 (by decide)]; exact W10
      · have d2 : l.getD 2 false = true := ready_on hi (k := 0) rfl rfl rfl
        have e2 := f2 d2
        have g2 := slot_get (by rw [hsz]; decide) e2
        have b0 := (hbs 0 (by decide)).trans B0.out
        have b1 := (hbs 1 (by decide)).trans B1.out
        have b5 := (hbs 5 (by decide)).trans B5.out
        clear hi hil
        refine wpOp_step rfl (fun K hK => ?_)
        go_simp
        refine hK _ _ ?_
        clear hK K
        refine ⟨w'.heap.size, xB, xC, xD, xE, xF, (w'.heap.size, icells [p, 1]) :: L, by first | rfl | exact hdf, put_size.trans hsz, base_other (by rw [hsz]; decide) (by decide) hbs, fact_other hil2 (by rw [hsz]; decide) (by decide) (by decide) f0, fact_other hil2 (by rw [hsz]; decide) (by decide) (by decide) f1, fact_other hil2 (by rw [hsz]; decide) (by decide) (by decide) f2, fact_self (by rw [hsz]; decide) rfl, fact_other hil2 (by rw [hsz]; decide) (by decide) (by decide) f4, fact_other hil2 (by rw [hsz]; decide) (by decide) (by decide) f5, fact_other hil2 (by rw [hsz]; decide) (by decide) (by decide) f6, fact_other hil2 (by rw [hsz]; decide) (by decide) (by decide) f7, fact_other hil2 (by rw [hsz]; decide) (by decide) (by decide) f8, fact_other hil2 (by rw [hsz]; decide) (by decide) (by decide) f9, fact_other hil2 (by rw [hsz]; decide) (by decide) (by decide) f10, fact_other hil2 (by rw [hsz]; decide) (by decide) (by decide) f11, fact_other hil2 (by rw [hsz]; decide) (by decide) (by decide) f12, fact_other hil2 (by rw [hsz]; decide) (by decide) (by decide) f13, fact_other hil2 (by rw [hsz]; decide) (by decide) (by decide) f14, fact_other hil2 (by rw [hsz]; decide) (by decide) (by decide) f15, fact_other hil2 (by rw [hsz]; decide) (by decide) (by decide) f16, fact_other hil2 (by rw [hsz]; decide) (by decide) (by decide) f17, fact_other hil2 (by rw [hsz]; decide) (by decide) (by decide) f18, fact_other hil2 (by rw [hsz]; decide) (by decide) (by decide) f19, fact_other hil2 (by rw [hsz]; decide) (by decide) (by decide) f20, fact_other hil2 (by rw [hsz]; decide) (by decide) (by decide) f21, fact_other hil2 (by rw [hsz]; decide) (by decide) (by decide) f22, fact_other hil2 (by rw [hsz]; decide) (by decide) (by decide) f23, ?_, ?_, ?_, ?_, ?_, ?_, ?_, ?_, ?_, ?_, ?_⟩
        · rw [@listed_other l _ 17 hil2 (by decide), @listed_other l _ 12 hil2 (by decide), @listed_other l _ 10 hil2 (by decide), @listed_other l _ 8 hil2 (by decide), @listed_other l _ 4 hil2 (by decide)]; exact W0.allocRow (icells [p, 1]) _
        · exact fun _ => List.mem_cons_self
        · rw [@listed_other l _ 7 hil2 (by decide)]; exact fun h => List.mem_cons_of_mem _ (W2 h)
        · rw [@listed_other l _ 9 hil2 (by decide)]; exact fun h => List.mem_cons_of_mem _ (W3 h)
        · rw [@listed_other l _ 11 hil2 (by decide)]; exact fun h => List.mem_cons_of_mem _ (W4 h)
        · rw [@listed_other l _ 14 hil2 (by decide)]; exact fun h => List.mem_cons_of_mem _ (W5 h)
        · rw [@listed_other l _ 16 hil2 (by decide)]; exact fun h => List.mem_cons_of_mem _ (W6 h)
        · rw [@listed_other l _ 8 hil2 (by decide), @listed_other l _ 4 hil2 (by decide)]; exact W7
        · rw [@listed_other l _ 10 hil2 (by decide), @listed_other l _ 8 hil2 (by decide)]; exact W8
        · rw [@listed_other l _ 12 hil2 (by decide), @listed_other l _ 10 hil2 (by decide)]; exact W9
        · rw [@listed_other l _ 17 hil2 (by decide), @listed_other l _ 12 hil2 (by decide)]; exact W10
      · have d0 : l.getD 0 false = true := ready_on hi (k := 0) rfl rfl rfl
        have d3 : l.getD 3 false = true := ready_on hi (k := 1) rfl rfl rfl
        have e0 := f0 d0
        have e3 := f3 d3
        have b0 := (hbs 0 (by decide)).trans B0.out
        have b1 := (hbs 1 (by decide)).trans B1.out
        have b5 := (hbs 5 (by decide)).trans B5.out
        clear hi hil
        refine wpOp_step rfl (fun K hK => ?_)
        have n8 : ¬ l.getD 8 false = true := fun h => by have := W7 h; rw [hnot] at this; cases this
        have n10 : ¬ l.getD 10 false = true := fun h => by have := W8 h; exact n8 this
        have n12 : ¬ l.getD 12 false = true := fun h => by have := W9 h; exact n10 this
        have n17 : ¬ l.getD 17 false = true := fun h => by have := W10 h; exact n12 this
        have hO := W0
        rw [if_neg n17, if_neg n12, if_neg n10, if_neg n8, if_neg (by rw [hnot]; simp : ¬ l.getD 4 false = true)] at hO
        go_simp
        refine Calls.mono (C1.out _ _ _ _ hO (W1 d3)) ?_
        rintro e w2 ⟨rfl, h2⟩
        refine hK _ _ ?_
        clear hK K
        refine ⟨xA, xB, xC, xD, xE, xF, L, by first | rfl | exact hdf, put_size.trans hsz, base_other (by rw [hsz]; decide) (by decide) hbs, fact_other hil2 (by rw [hsz]; decide) (by decide) (by decide) f0, fact_other hil2 (by rw [hsz]; decide) (by decide) (by decide) f1, fact_other hil2 (by rw [hsz]; decide) (by decide) (by decide) f2, fact_other hil2 (by rw [hsz]; decide) (by decide) (by decide) f3, fact_self (by rw [hsz]; decide) rfl, fact_other hil2 (by rw [hsz]; decide) (by decide) (by decide) f5, fact_other hil2 (by rw [hsz]; decide) (by decide) (by decide) f6, fact_other hil2 (by rw [hsz]; decide) (by decide) (by decide) f7, fact_other hil2 (by rw [hsz]; decide) (by decide) (by decide) f8, fact_other hil2 (by rw [hsz]; decide) (by decide) (by decide) f9, fact_other hil2 (by rw [hsz]; decide) (by decide) (by decide) f10, fact_other hil2 (by rw [hsz]; decide) (by decide) (by decide) f11, fact_other hil2 (by rw [hsz]; decide) (by decide) (by decide) f12, fact_other hil2 (by rw [hsz]; decide) (by decide) (by decide) f13, fact_other hil2 (by rw [hsz]; decide) (by decide) (by decide) f14, fact_other hil2 (by rw [hsz]; decide) (by decide) (by decide) f15, fact_other hil2 (by rw [hsz]; decide) (by decide) (by decide) f16, fact_other hil2 (by rw [hsz]; decide) (by decide) (by decide) f17, fact_other hil2 (by rw [hsz]; decide) (by decide) (by decide) f18, fact_other hil2 (by rw [hsz]; decide) (by decide) (by decide) f19, fact_other hil2 (by rw [hsz]; decide) (by decide) (by decide) f20, fact_other hil2 (by rw [hsz]; decide) (by decide) (by decide) f21, fact_other hil2 (by rw [hsz]; decide) (by decide) (by decide) f22, fact_other hil2 (by rw [hsz]; decide) (by decide) (by decide) f23, ?_, ?_, ?_, ?_, ?_, ?_, ?_, ?_, ?_, ?_, ?_⟩
        · rw [@listed_other l _ 17 hil2 (by decide), @listed_other l _ 12 hil2 (by decide), @listed_other l _ 10 hil2 (by decide), @listed_other l _ 8 hil2 (by decide), if_neg n17, if_neg n12, if_neg n10, if_neg n8, listed_self hil2, if_pos rfl]; exact h2
        · rw [@listed_other l _ 3 hil2 (by decide)]; exact W1
        · rw [@listed_other l _ 7 hil2 (by decide)]; exact W2
        · rw [@listed_other l _ 9 hil2 (by decide)]; exact W3
        · rw [@listed_other l _ 11 hil2 (by decide)]; exact W4
        · rw [@listed_other l _ 14 hil2 (by decide)]; exact W5
        · rw [@listed_other l _ 16 hil2 (by decide)]; exact W6
        · intro h; exact listed_self hil2
        · rw [@listed_other l _ 10 hil2 (by decide), @listed_other l _ 8 hil2 (by decide)]; exact W8
        · rw [@listed_other l _ 12 hil2 (by decide), @listed_other l _ 10 hil2 (by decide)]; exact W9
        · rw [@listed_other l _ 17 hil2 (by decide), @listed_other l _ 12 hil2 (by decide)]; exact W10
      · have b0 := (hbs 0 (by decide)).trans B0.out
        have b1 := (hbs 1 (by decide)).trans B1.out
        have b5 := (hbs 5 (by decide)).trans B5.out
        clear hi hil
        refine wpOp_step rfl (fun K hK => ?_)
        go_simp
        refine hK _ _ ?_
        clear hK K
        refine ⟨xA, xB, xC, xD, xE, xF, L, by first | rfl | exact hdf, put_size.trans hsz, base_other (by rw [hsz]; decide) (by decide) hbs, fact_other hil2 (by rw [hsz]; decide) (by decide) (by decide) f0, fact_other hil2 (by rw [hsz]; decide) (by decide) (by decide) f1, fact_other hil2 (by rw [hsz]; decide) (by decide) (by decide) f2, fact_other hil2 (by rw [hsz]; decide) (by decide) (by decide) f3, fact_other hil2 (by rw [hsz]; decide) (by decide) (by decide) f4, fact_self (by rw [hsz]; decide) rfl, fact_other hil2 (by rw [hsz]; decide) (by decide) (by decide) f6, fact_other hil2 (by rw [hsz]; decide) (by decide) (by decide) f7, fact_other hil2 (by rw [hsz]; decide) (by decide) (by decide) f8, fact_other hil2 (by rw [hsz]; decide) (by decide) (by decide) f9, fact_other hil2 (by rw [hsz]; decide) (by decide) (by decide) f10, fact_other hil2 (by rw [hsz]; decide) (by decide) (by decide) f11, fact_other hil2 (by rw [hsz]; decide) (by decide) (by decide) f12, fact_other hil2 (by rw [hsz]; decide) (by decide) (by decide) f13, fact_other hil2 (by rw [hsz]; decide) (by decide) (by decide) f14, fact_other hil2 (by rw [hsz]; decide) (by decide) (by decide) f15, fact_other hil2 (by rw [hsz]; decide) (by decide) (by decide) f16, fact_other hil2 (by rw [hsz]; decide) (by decide) (by decide) f17, fact_other hil2 (by rw [hsz]; decide) (by decide) (by decide) f18, fact_other hil2 (by rw [hsz]; decide) (by decide) (by decide) f19, fact_other hil2 (by rw [hsz]; decide) (by decide) (by decide) f20, fact_other hil2 (by rw [hsz]; decide) (by decide) (by decide) f21, fact_other hil2 (by rw [hsz]; decide) (by decide) (by decide) f22, fact_other hil2 (by rw [hsz]; decide) (by decide) (by decide) f23, ?_, ?_, ?_, ?_, ?_, ?_, ?_, ?_, ?_, ?_, ?_⟩
        · rw [@listed_other l _ 17 hil2 (by decide), @listed_other l _ 12 hil2 (by decide), @listed_other l _ 10 hil2 (by decide), @listed_other l _ 8 hil2 (by decide), @listed_other l _ 4 hil2 (by decide)]; exact W0
        · rw [@listed_other l _ 3 hil2 (by decide)]; exact W1
        · rw [@listed_other l _ 7 hil2 (by decide)]; exact W2
        · rw [@listed_other l _ 9 hil2 (by decide)]; exact W3
        · rw [@listed_other l _ 11 hil2 (by decide)]; exact W4
        · rw [@listed_other l _ 14 hil2 (by decide)]; exact W5
        · rw [@listed_other l _ 16 hil2 (by decide)]; exact W6
        · rw [@listed_other l _ 8 hil2 (by decide), @listed_other l _ 4 hil2 (by decide)]; exact W7
        · rw [@listed_other l _ 10 hil2 (by decide), @listed_other l _ 8 hil2 (by decide)]; exact W8
        · rw [@listed_other l _ 12 hil2 (by decide), @listed_other l _ 10 hil2 (by decide)]; exact W9
        · rw [@listed_other l _ 17 hil2 (by decide), @listed_other l _ 12 hil2 (by decide)]; exact W10
      · have d5 : l.getD 5 false = true := ready_on hi (k := 0) rfl rfl rfl
        have e5 := f5 d5
        have b0 := (hbs 0 (by decide)).trans B0.out
        have b1 := (hbs 1 (by decide)).trans B1.out
        have b5 := (hbs 5 (by decide)).trans B5.out
        clear hi hil
        refine wpOp_step rfl (fun K hK => ?_)
        go_simp
        refine hK _ _ ?_
        clear hK K
        refine ⟨xA, xB, xC, xD, xE, xF, L, by first | rfl | exact hdf, put_size.trans hsz, base_other (by rw [hsz]; decide) (by decide) hbs, fact_other hil2 (by rw [hsz]; decide) (by decide) (by decide) f0, fact_other hil2 (by rw [hsz]; decide) (by decide) (by decide) f1, fact_other hil2 (by rw [hsz]; decide) (by decide) (by decide) f2, fact_other hil2 (by rw [hsz]; decide) (by decide) (by decide) f3, fact_other hil2 (by rw [hsz]; decide) (by decide) (by decide) f4, fact_other hil2 (by rw [hsz]; decide) (by decide) (by decide) f5, fact_self (by rw [hsz]; decide) rfl, fact_other hil2 (by rw [hsz]; decide) (by decide) (by decide) f7, fact_other hil2 (by rw [hsz]; decide) (by decide) (by decide) f8, fact_other hil2 (by rw [hsz]; decide) (by decide) (by decide) f9, fact_other hil2 (by rw [hsz]; decide) (by decide) (by decide) f10, fact_other hil2 (by rw [hsz]; decide) (by decide) (by decide) f11, fact_other hil2 (by rw [hsz]; decide) (by decide) (by decide) f12, fact_other hil2 (by rw [hsz]; decide) (by decide) (by decide) f13, fact_other hil2 (by rw [hsz]; decide) (by decide) (by decide) f14, fact_other hil2 (by rw [hsz]; decide) (by decide) (by decide) f15, fact_other hil2 (by rw [hsz]; decide) (by decide) (by decide) f16, fact_other hil2 (by rw [hsz]; decide) (by decide) (by decide) f17, fact_other hil2 (by rw [hsz]; decide) (by decide) (by decide) f18, fact_other hil2 (by rw [hsz]; decide) (by decide) (by decide) f19, fact_other hil2 (by rw [hsz]; decide) (by decide) (by decide) f20, fact_other hil2 (by rw [hsz]; decide) (by decide) (by decide) f21, fact_other hil2 (by rw [hsz]; decide) (by decide) (by decide) f22, fact_other hil2 (by rw [hsz]; decide) (by decide) (by decide) f23, ?_, ?_, ?_, ?_, ?_, ?_, ?_, ?_, ?_, ?_, ?_⟩
        · rw [@listed_other l _ 17 hil2 (by decide), @listed_other l _ 12 hil2 (by decide), @listed_other l _ 10 hil2 (by decide), @listed_other l _ 8 hil2 (by decide), @listed_other l _ 4 hil2 (by decide)]; exact W0
        · rw [@listed_other l _ 3 hil2 (by decide)]; exact W1
        · rw [@listed_other l _ 7 hil2 (by decide)]; exact W2
        · rw [@listed_other l _ 9 hil2 (by decide)]; exact W3
        · rw [@listed_other l _ 11 hil2 (by decide)]; exact W4
        · rw [@listed_other l _ 14 hil2 (by decide)]; exact W5
        · rw [@listed_other l _ 16 hil2 (by decide)]; exact W6
        · rw [@listed_other l _ 8 hil2 (by decide), @listed_other l _ 4 hil2 (by decide)]; exact W7
        · rw [@listed_other l _ 10 hil2 (by decide), @listed_other l _ 8 hil2 (by decide)]; exact W8
        · rw [@listed_other l _ 12 hil2 (by decide), @listed_other l _ 10 hil2 (by decide)]; exact W9
        · rw [@listed_other l _ 17 hil2 (by decide), @listed_other l _ 12 hil2 (by decide)]; exact W10
      · have d6 : l.getD 6 false = true := ready_on hi (k := 0) rfl rfl rfl
        have e6 := f6 d6
        have g6 := slot_get (by rw [hsz]; decide) e6
        have b0 := (hbs 0 (by decide)).trans B0.out
        have b1 := (hbs 1 (by decide)).trans B1.out
        have b5 := (hbs 5 (by decide)).trans B5.out
        clear hi hil
        refine wpOp_step rfl (fun K hK => ?_)
        go_simp
        refine hK _ _ ?_
        clear hK K
        refine ⟨xA, w'.heap.size, xC, xD, xE, xF, (w'.heap.size, icells [q]) :: L, by first | rfl | exact hdf, put_size.trans hsz, base_other (by rw [hsz]; decide) (by decide) hbs, fact_other hil2 (by rw [hsz]; decide) (by decide) (by decide) f0, fact_other hil2 (by rw [hsz]; decide) (by decide) (by decide) f1, fact_other hil2 (by rw [hsz]; decide) (by decide) (by decide) f2, fact_other hil2 (by rw [hsz]; decide) (by decide) (by decide) f3, fact_other hil2 (by rw [hsz]; decide) (by decide) (by decide) f4, fact_other hil2 (by rw [hsz]; decide) (by decide) (by decide) f5, fact_other hil2 (by rw [hsz]; decide) (by decide) (by decide) f6, fact_self (by rw [hsz]; decide) rfl, fact_other hil2 (by rw [hsz]; decide) (by decide) (by decide) f8, fact_other hil2 (by rw [hsz]; decide) (by decide) (by decide) f9, fact_other hil2 (by rw [hsz]; decide) (by decide) (by decide) f10, fact_other hil2 (by rw [hsz]; decide) (by decide) (by decide) f11, fact_other hil2 (by rw [hsz]; decide) (by decide) (by decide) f12, fact_other hil2 (by rw [hsz]; decide) (by decide) (by decide) f13, fact_other hil2 (by rw [hsz]; decide) (by decide) (by decide) f14, fact_other hil2 (by rw [hsz]; decide) (by decide) (by decide) f15, fact_other hil2 (by rw [hsz]; decide) (by decide) (by decide) f16, fact_other hil2 (by rw [hsz]; decide) (by decide) (by decide) f17, fact_other hil2 (by rw [hsz]; decide) (by decide) (by decide) f18, fact_other hil2 (by rw [hsz]; decide) (by decide) (by decide) f19, fact_other hil2 (by rw [hsz]; decide) (by decide) (by decide) f20, fact_other hil2 (by rw [hsz]; decide) (by decide) (by decide) f21, fact_other hil2 (by rw [hsz]; decide) (by decide) (by decide) f22, fact_other hil2 (by rw [hsz]; decide) (by decide) (by decide) f23, ?_, ?_, ?_, ?_, ?_, ?_, ?_, ?_, ?_, ?_, ?_⟩
        · rw [@listed_other l _ 17 hil2 (by decide), @listed_other l _ 12 hil2 (by decide), @listed_other l _ 10 hil2 (by decide), @listed_other l _ 8 hil2 (by decide), @listed_other l _ 4 hil2 (by decide)]; exact W0.allocRow (icells [q]) _
        · rw [@listed_other l _ 3 hil2 (by decide)]; exact fun h => List.mem_cons_of_mem _ (W1 h)
        · exact fun _ => List.mem_cons_self
        · rw [@listed_other l _ 9 hil2 (by decide)]; exact fun h => List.mem_cons_of_mem _ (W3 h)
        · rw [@listed_other l _ 11 hil2 (by decide)]; exact fun h => List.mem_cons_of_mem _ (W4 h)
        · rw [@listed_other l _ 14 hil2 (by decide)]; exact fun h => List.mem_cons_of_mem _ (W5 h)
        · rw [@listed_other l _ 16 hil2 (by decide)]; exact fun h => List.mem_cons_of_mem _ (W6 h)
        · rw [@listed_other l _ 8 hil2 (by decide), @listed_other l _ 4 hil2 (by decide)]; exact W7
        · rw [@listed_other l _ 10 hil2 (by decide), @listed_other l _ 8 hil2 (by decide)]; exact W8
        · rw [@listed_other l _ 12 hil2 (by decide), @listed_other l _ 10 hil2 (by decide)]; exact W9
        · rw [@listed_other l _ 17 hil2 (by decide), @listed_other l _ 12 hil2 (by decide)]; exact W10
      · have d4 : l.getD 4 false = true := ready_on hi (k := 0) rfl rfl rfl
        have d7 : l.getD 7 false = true := ready_on hi (k := 1) rfl rfl rfl
        have e4 := f4 d4
        have e7 := f7 d7
        have b0 := (hbs 0 (by decide)).trans B0.out
        have b1 := (hbs 1 (by decide)).trans B1.out
        have b5 := (hbs 5 (by decide)).trans B5.out
        clear hi hil
        refine wpOp_step rfl (fun K hK => ?_)
        have n10 : ¬ l.getD 10 false = true := fun h => by have := W8 h; rw [hnot] at this; cases this
        have n12 : ¬ l.getD 12 false = true := fun h => by have := W9 h; exact n10 this
        have n17 : ¬ l.getD 17 false = true := fun h => by have := W10 h; exact n12 this
        have hO := W0
        rw [if_neg n17, if_neg n12, if_neg n10, if_neg (by rw [hnot]; simp : ¬ l.getD 8 false = true), if_pos d4] at hO
        go_simp
        refine Calls.mono (C2.out _ _ _ _ hO (W2 d7)) ?_
        rintro e w2 ⟨rfl, h2⟩
        refine hK _ _ ?_
        clear hK K
        refine ⟨xA, xB, xC, xD, xE, xF, L, by first | rfl | exact hdf, put_size.trans hsz, base_other (by rw [hsz]; decide) (by decide) hbs, fact_other hil2 (by rw [hsz]; decide) (by decide) (by decide) f0, fact_other hil2 (by rw [hsz]; decide) (by decide) (by decide) f1, fact_other hil2 (by rw [hsz]; decide) (by decide) (by decide) f2, fact_other hil2 (by rw [hsz]; decide) (by decide) (by decide) f3, fact_other hil2 (by rw [hsz]; decide) (by decide) (by decide) f4, fact_other hil2 (by rw [hsz]; decide) (by decide) (by decide) f5, fact_other hil2 (by rw [hsz]; decide) (by decide) (by decide) f6, fact_other hil2 (by rw [hsz]; decide) (by decide) (by decide) f7, fact_self (by rw [hsz]; decide) rfl, fact_other hil2 (by rw [hsz]; decide) (by decide) (by decide) f9, fact_other hil2 (by rw [hsz]; decide) (by decide) (by decide) f10, fact_other hil2 (by rw [hsz]; decide) (by decide) (by decide) f11, fact_other hil2 (by rw [hsz]; decide) (by decide) (by decide) f12, fact_other hil2 (by rw [hsz]; decide) (by decide) (by decide) f13, fact_other hil2 (by rw [hsz]; decide) (by decide) (by decide) f14, fact_other hil2 (by rw [hsz]; decide) (by decide) (by decide) f15, fact_other hil2 (by rw [hsz]; decide) (by decide) (by decide) f16, fact_other hil2 (by rw [hsz]; decide) (by decide) (by decide) f17, fact_other hil2 (by rw [hsz]; decide) (by decide) (by decide) f18, fact_other hil2 (by rw [hsz]; decide) (by decide) (by decide) f19, fact_other hil2 (by rw [hsz]; decide) (by decide) (by decide) f20, fact_other hil2 (by rw [hsz]; decide) (by decide) (by decide) f21, fact_other hil2 (by rw [hsz]; decide) (by decide) (by decide) f22, fact_other hil2 (by rw [hsz]; decide) (by decide) (by decide) f23, ?_, ?_, ?_, ?_, ?_, ?_, ?_, ?_, ?_, ?_, ?_⟩
        · rw [@listed_other l _ 17 hil2 (by decide), @listed_other l _ 12 hil2 (by decide), @listed_other l _ 10 hil2 (by decide), if_neg n17, if_neg n12, if_neg n10, listed_self hil2, if_pos rfl]; exact h2
        · rw [@listed_other l _ 3 hil2 (by decide)]; exact W1
        · rw [@listed_other l _ 7 hil2 (by decide)]; exact W2
        · rw [@listed_other l _ 9 hil2 (by decide)]; exact W3
        · rw [@listed_other l _ 11 hil2 (by decide)]; exact W4
        · rw [@listed_other l _ 14 hil2 (by decide)]; exact W5
        · rw [@listed_other l _ 16 hil2 (by decide)]; exact W6
        · intro _; rw [@listed_other l _ 4 hil2 (by decide)]; exact d4
        · intro h; exact listed_self hil2
        · rw [@listed_other l _ 12 hil2 (by decide), @listed_other l _ 10 hil2 (by decide)]; exact W9
        · rw [@listed_other l _ 17 hil2 (by decide), @listed_other l _ 12 hil2 (by decide)]; exact W10
      · have b0 := (hbs 0 (by decide)).trans B0.out
        have b1 := (hbs 1 (by decide)).trans B1.out
        have b5 := (hbs 5 (by decide)).trans B5.out
        clear hi hil
        refine wpOp_step rfl (fun K hK => ?_)
        go_simp
        refine hK _ _ ?_
        clear hK K
        refine ⟨xA, xB, w'.heap.size, xD, xE, xF, (w'.heap.size, icells [1, 2]) :: L, by first | rfl | exact hdf, put_size.trans hsz, base_other (by rw [hsz]; decide) (by decide) hbs, fact_other hil2 (by rw [hsz]; decide) (by decide) (by decide) f0, fact_other hil2 (by rw [hsz]; decide) (by decide) (by decide) f1, fact_other hil2 (by rw [hsz]; decide) (by decide) (by decide) f2, fact_other hil2 (by rw [hsz]; decide) (by decide) (by decide) f3, fact_other hil2 (by rw [hsz]; decide) (by decide) (by decide) f4, fact_other hil2 (by rw [hsz]; decide) (by decide) (by decide) f5, fact_other hil2 (by rw [hsz]; decide) (by decide) (by decide) f6, fact_other hil2 (by rw [hsz]; decide) (by decide) (by decide) f7, fact_other hil2 (by rw [hsz]; decide) (by decide) (by decide) f8, fact_self (by rw [hsz]; decide) rfl, fact_other hil2 (by rw [hsz]; decide) (by decide) (by decide) f10, fact_other hil2 (by rw [hsz]; decide) (by decide) (by decide) f11, fact_other hil2 (by rw [hsz]; decide) (by decide) (by decide) f12, fact_other hil2 (by rw [hsz]; decide) (by decide) (by decide) f13, fact_other hil2 (by rw [hsz]; decide) (by decide) (by decide) f14, fact_other hil2 (by rw [hsz]; decide) (by decide) (by decide) f15, fact_other hil2 (by rw [hsz]; decide) (by decide) (by decide) f16, fact_other hil2 (by rw [hsz]; decide) (by decide) (by decide) f17, fact_other hil2 (by rw [hsz]; decide) (by decide) (by decide) f18, fact_other hil2 (by rw [hsz]; decide) (by decide) (by decide) f19, fact_other hil2 (by rw [hsz]; decide) (by decide) (by decide) f20, fact_other hil2 (by rw [hsz]; decide) (by decide) (by decide) f21, fact_other hil2 (by rw [hsz]; decide) (by decide) (by decide) f22, fact_other hil2 (by rw [hsz]; decide) (by decide) (by decide) f23, ?_, ?_, ?_, ?_, ?_, ?_, ?_, ?_, ?_, ?_, ?_⟩
        · rw [@listed_other l _ 17 hil2 (by decide), @listed_other l _ 12 hil2 (by decide), @listed_other l _ 10 hil2 (by decide), @listed_other l _ 8 hil2 (by decide), @listed_other l _ 4 hil2 (by decide)]; exact W0.allocRow (icells [1, 2]) _
        · rw [@listed_other l _ 3 hil2 (by decide)]; exact fun h => List.mem_cons_of_mem _ (W1 h)
        · rw [@listed_other l _ 7 hil2 (by decide)]; exact fun h => List.mem_cons_of_mem _ (W2 h)
        · exact fun _ => List.mem_cons_self
        · rw [@listed_other l _ 11 hil2 (by decide)]; exact fun h => List.mem_cons_of_mem _ (W4 h)
        · rw [@listed_other l _ 14 hil2 (by decide)]; exact fun h => List.mem_cons_of_mem _ (W5 h)
        · rw [@listed_other l _ 16 hil2 (by decide)]; exact fun h => List.mem_cons_of_mem _ (W6 h)
        · rw [@listed_other l _ 8 hil2 (by decide), @listed_other l _ 4 hil2 (by decide)]; exact W7
        · rw [@listed_other l _ 10 hil2 (by decide), @listed_other l _ 8 hil2 (by decide)]; exact W8
        · rw [@listed_other l _ 12 hil2 (by decide), @listed_other l _ 10 hil2 (by decide)]; exact W9
        · rw [@listed_other l _ 17 hil2 (by decide), @listed_other l _ 12 hil2 (by decide)]; exact W10
      · have d8 : l.getD 8 false = true := ready_on hi (k := 0) rfl rfl rfl
        have d9 : l.getD 9 false = true := ready_on hi (k := 1) rfl rfl rfl
        have e8 := f8 d8
        have e9 := f9 d9
        have b0 := (hbs 0 (by decide)).trans B0.out
        have b1 := (hbs 1 (by decide)).trans B1.out
        have b5 := (hbs 5 (by decide)).trans B5.out
        clear hi hil
        refine wpOp_step rfl (fun K hK => ?_)
        have n12 : ¬ l.getD 12 false = true := fun h => by have := W9 h; rw [hnot] at this; cases this
        have n17 : ¬ l.getD 17 false = true := fun h => by have := W10 h; exact n12 this
        have hO := W0
        rw [if_neg n17, if_neg n12, if_neg (by rw [hnot]; simp : ¬ l.getD 10 false = true), if_pos d8] at hO
        go_simp
        refine Calls.mono (C3.out _ _ _ _ hO (W3 d9)) ?_
        rintro e w2 ⟨rfl, h2⟩
        refine hK _ _ ?_
        clear hK K
        refine ⟨xA, xB, xC, xD, xE, xF, L, by first | rfl | exact hdf, put_size.trans hsz, base_other (by rw [hsz]; decide) (by decide) hbs, fact_other hil2 (by rw [hsz]; decide) (by decide) (by decide) f0, fact_other hil2 (by rw [hsz]; decide) (by decide) (by decide) f1, fact_other hil2 (by rw [hsz]; decide) (by decide) (by decide) f2, fact_other hil2 (by rw [hsz]; decide) (by decide) (by decide) f3, fact_other hil2 (by rw [hsz]; decide) (by decide) (by decide) f4, fact_other hil2 (by rw [hsz]; decide) (by decide) (by decide) f5, fact_other hil2 (by rw [hsz]; decide) (by decide) (by decide) f6, fact_other hil2 (by rw [hsz]; decide) (by decide) (by decide) f7, fact_other hil2 (by rw [hsz]; decide) (by decide) (by decide) f8, fact_other hil2 (by rw [hsz]; decide) (by decide) (by decide) f9, fact_self (by rw [hsz]; decide) rfl, fact_other hil2 (by rw [hsz]; decide) (by decide) (by decide) f11, fact_other hil2 (by rw [hsz]; decide) (by decide) (by decide) f12, fact_other hil2 (by rw [hsz]; decide) (by decide) (by decide) f13, fact_other hil2 (by rw [hsz]; decide) (by decide) (by decide) f14, fact_other hil2 (by rw [hsz]; decide) (by decide) (by decide) f15, fact_other hil2 (by rw [hsz]; decide) (by decide) (by decide) f16, fact_other hil2 (by rw [hsz]; decide) (by decide) (by decide) f17, fact_other hil2 (by rw [hsz]; decide) (by decide) (by decide) f18, fact_other hil2 (by rw [hsz]; decide) (by decide) (by decide) f19, fact_other hil2 (by rw [hsz]; decide) (by decide) (by decide) f20, fact_other hil2 (by rw [hsz]; decide) (by decide) (by decide) f21, fact_other hil2 (by rw [hsz]; decide) (by decide) (by decide) f22, fact_other hil2 (by rw [hsz]; decide) (by decide) (by decide) f23, ?_, ?_, ?_, ?_, ?_, ?_, ?_, ?_, ?_, ?_, ?_⟩
        · rw [@listed_other l _ 17 hil2 (by decide), @listed_other l _ 12 hil2 (by decide), if_neg n17, if_neg n12, listed_self hil2, if_pos rfl]; exact h2
        · rw [@listed_other l _ 3 hil2 (by decide)]; exact W1
        · rw [@listed_other l _ 7 hil2 (by decide)]; exact W2
        · rw [@listed_other l _ 9 hil2 (by decide)]; exact W3
        · rw [@listed_other l _ 11 hil2 (by decide)]; exact W4
        · rw [@listed_other l _ 14 hil2 (by decide)]; exact W5
        · rw [@listed_other l _ 16 hil2 (by decide)]; exact W6
        · rw [@listed_other l _ 8 hil2 (by decide), @listed_other l _ 4 hil2 (by decide)]; exact W7
        · intro _; rw [@listed_other l _ 8 hil2 (by decide)]; exact d8
        · intro h; exact listed_self hil2
        · rw [@listed_other l _ 17 hil2 (by decide), @listed_other l _ 12 hil2 (by decide)]; exact W10
      · have b0 := (hbs 0 (by decide)).trans B0.out
        have b1 := (hbs 1 (by decide)).trans B1.out
        have b5 := (hbs 5 (by decide)).trans B5.out
        clear hi hil
        refine wpOp_step rfl (fun K hK => ?_)
        go_simp
        refine hK _ _ ?_
        clear hK K
        refine ⟨xA, xB, xC, w'.heap.size, xE, xF, (w'.heap.size, icells [3]) :: L, by first | rfl | exact hdf, put_size.trans hsz, base_other (by rw [hsz]; decide) (by decide) hbs, fact_other hil2 (by rw [hsz]; decide) (by decide) (by decide) f0, fact_other hil2 (by rw [hsz]; decide) (by decide) (by decide) f1, fact_other hil2 (by rw [hsz]; decide) (by decide) (by decide) f2, fact_other hil2 (by rw [hsz]; decide) (by decide) (by decide) f3, fact_other hil2 (by rw [hsz]; decide) (by decide) (by decide) f4, fact_other hil2 (by rw [hsz]; decide) (by decide) (by decide) f5, fact_other hil2 (by rw [hsz]; decide) (by decide) (by decide) f6, fact_other hil2 (by rw [hsz]; decide) (by decide) (by decide) f7, fact_other hil2 (by rw [hsz]; decide) (by decide) (by decide) f8, fact_other hil2 (by rw [hsz]; decide) (by decide) (by decide) f9, fact_other hil2 (by rw [hsz]; decide) (by decide) (by decide) f10, fact_self (by rw [hsz]; decide) rfl, fact_other hil2 (by rw [hsz]; decide) (by decide) (by decide) f12, fact_other hil2 (by rw [hsz]; decide) (by decide) (by decide) f13, fact_other hil2 (by rw [hsz]; decide) (by decide) (by decide) f14, fact_other hil2 (by rw [hsz]; decide) (by decide) (by decide) f15, fact_other hil2 (by rw [hsz]; decide) (by decide) (by decide) f16, fact_other hil2 (by rw [hsz]; decide) (by decide) (by decide) f17, fact_other hil2 (by rw [hsz]; decide) (by decide) (by decide) f18, fact_other hil2 (by rw [hsz]; decide) (by decide) (by decide) f19, fact_other hil2 (by rw [hsz]; decide) (by decide) (by decide) f20, fact_other hil2 (by rw [hsz]; decide) (by decide) (by decide) f21, fact_other hil2 (by rw [hsz]; decide) (by decide) (by decide) f22, fact_other hil2 (by rw [hsz]; decide) (by decide) (by decide) f23, ?_, ?_, ?_, ?_, ?_, ?_, ?_, ?_, ?_, ?_, ?_⟩
        · rw [@listed_other l _ 17 hil2 (by decide), @listed_other l _ 12 hil2 (by decide), @listed_other l _ 10 hil2 (by decide), @listed_other l _ 8 hil2 (by decide), @listed_other l _ 4 hil2 (by decide)]; exact W0.allocRow (icells [3]) _
        · rw [@listed_other l _ 3 hil2 (by decide)]; exact fun h => List.mem_cons_of_mem _ (W1 h)
        · rw [@listed_other l _ 7 hil2 (by decide)]; exact fun h => List.mem_cons_of_mem _ (W2 h)
        · rw [@listed_other l _ 9 hil2 (by decide)]; exact fun h => List.mem_cons_of_mem _ (W3 h)
        · exact fun _ => List.mem_cons_self
        · rw [@listed_other l _ 14 hil2 (by decide)]; exact fun h => List.mem_cons_of_mem _ (W5 h)
        · rw [@listed_other l _ 16 hil2 (by decide)]; exact fun h => List.mem_cons_of_mem _ (W6 h)
        · rw [@listed_other l _ 8 hil2 (by decide), @listed_other l _ 4 hil2 (by decide)]; exact W7
        · rw [@listed_other l _ 10 hil2 (by decide), @listed_other l _ 8 hil2 (by decide)]; exact W8
        · rw [@listed_other l _ 12 hil2 (by decide), @listed_other l _ 10 hil2 (by decide)]; exact W9
        · rw [@listed_other l _ 17 hil2 (by decide), @listed_other l _ 12 hil2 (by decide)]; exact W10
      · have d10 : l.getD 10 false = true := ready_on hi (k := 0) rfl rfl rfl
        have d11 : l.getD 11 false = true := ready_on hi (k := 1) rfl rfl rfl
        have e10 := f10 d10
        have e11 := f11 d11
        have b0 := (hbs 0 (by decide)).trans B0.out
        have b1 := (hbs 1 (by decide)).trans B1.out
        have b5 := (hbs 5 (by decide)).trans B5.out
        clear hi hil
        refine wpOp_step rfl (fun K hK => ?_)
        have n17 : ¬ l.getD 17 false = true := fun h => by have := W10 h; rw [hnot] at this; cases this
        have hO := W0
        rw [if_neg n17, if_neg (by rw [hnot]; simp : ¬ l.getD 12 false = true), if_pos d10] at hO
        go_simp
        refine Calls.mono (C4.out _ _ _ _ hO (W4 d11)) ?_
        rintro e w2 ⟨rfl, h2⟩
        refine hK _ _ ?_
        clear hK K
        refine ⟨xA, xB, xC, xD, xE, xF, L, by first | rfl | exact hdf, put_size.trans hsz, base_other (by rw [hsz]; decide) (by decide) hbs, fact_other hil2 (by rw [hsz]; decide) (by decide) (by decide) f0, fact_other hil2 (by rw [hsz]; decide) (by decide) (by decide) f1, fact_other hil2 (by rw [hsz]; decide) (by decide) (by decide) f2, fact_other hil2 (by rw [hsz]; decide) (by decide) (by decide) f3, fact_other hil2 (by rw [hsz]; decide) (by decide) (by decide) f4, fact_other hil2 (by rw [hsz]; decide) (by decide) (by decide) f5, fact_other hil2 (by rw [hsz]; decide) (by decide) (by decide) f6, fact_other hil2 (by rw [hsz]; decide) (by decide) (by decide) f7, fact_other hil2 (by rw [hsz]; decide) (by decide) (by decide) f8, fact_other hil2 (by rw [hsz]; decide) (by decide) (by decide) f9, fact_other hil2 (by rw [hsz]; decide) (by decide) (by decide) f10, fact_other hil2 (by rw [hsz]; decide) (by decide) (by decide) f11, fact_self (by rw [hsz]; decide) rfl, fact_other hil2 (by rw [hsz]; decide) (by decide) (by decide) f13, fact_other hil2 (by rw [hsz]; decide) (by decide) (by decide) f14, fact_other hil2 (by rw [hsz]; decide) (by decide) (by decide) f15, fact_other hil2 (by rw [hsz]; decide) (by decide) (by decide) f16, fact_other hil2 (by rw [hsz]; decide) (by decide) (by decide) f17, fact_other hil2 (by rw [hsz]; decide) (by decide) (by decide) f18, fact_other hil2 (by rw [hsz]; decide) (by decide) (by decide) f19, fact_other hil2 (by rw [hsz]; decide) (by decide) (by decide) f20, fact_other hil2 (by rw [hsz]; decide) (by decide) (by decide) f21, fact_other hil2 (by rw [hsz]; decide) (by decide) (by decide) f22, fact_other hil2 (by rw [hsz]; decide) (by decide) (by decide) f23, ?_, ?_, ?_, ?_, ?_, ?_, ?_, ?_, ?_, ?_, ?_⟩
        · rw [@listed_other l _ 17 hil2 (by decide), if_neg n17, listed_self hil2, if_pos rfl]; exact h2
        · rw [@listed_other l _ 3 hil2 (by decide)]; exact W1
        · rw [@listed_other l _ 7 hil2 (by decide)]; exact W2
        · rw [@listed_other l _ 9 hil2 (by decide)]; exact W3
        · rw [@listed_other l _ 11 hil2 (by decide)]; exact W4
        · rw [@listed_other l _ 14 hil2 (by decide)]; exact W5
        · rw [@listed_other l _ 16 hil2 (by decide)]; exact W6
        · rw [@listed_other l _ 8 hil2 (by decide), @listed_other l _ 4 hil2 (by decide)]; exact W7
        · rw [@listed_other l _ 10 hil2 (by decide), @listed_other l _ 8 hil2 (by decide)]; exact W8
        · intro _; rw [@listed_other l _ 10 hil2 (by decide)]; exact d10
        · intro h; exact listed_self hil2
      · have b0 := (hbs 0 (by decide)).trans B0.out
        have b1 := (hbs 1 (by decide)).trans B1.out
        have b5 := (hbs 5 (by decide)).trans B5.out
        clear hi hil
        refine wpOp_step rfl (fun K hK => ?_)
        go_simp
        refine hK _ _ ?_
        clear hK K
        refine ⟨xA, xB, xC, xD, xE, xF, L, by first | rfl | exact hdf, put_size.trans hsz, base_other (by rw [hsz]; decide) (by decide) hbs, fact_other hil2 (by rw [hsz]; decide) (by decide) (by decide) f0, fact_other hil2 (by rw [hsz]; decide) (by decide) (by decide) f1, fact_other hil2 (by rw [hsz]; decide) (by decide) (by decide) f2, fact_other hil2 (by rw [hsz]; decide) (by decide) (by decide) f3, fact_other hil2 (by rw [hsz]; decide) (by decide) (by decide) f4, fact_other hil2 (by rw [hsz]; decide) (by decide) (by decide) f5, fact_other hil2 (by rw [hsz]; decide) (by decide) (by decide) f6, fact_other hil2 (by rw [hsz]; decide) (by decide) (by decide) f7, fact_other hil2 (by rw [hsz]; decide) (by decide) (by decide) f8, fact_other hil2 (by rw [hsz]; decide) (by decide) (by decide) f9, fact_other hil2 (by rw [hsz]; decide) (by decide) (by decide) f10, fact_other hil2 (by rw [hsz]; decide) (by decide) (by decide) f11, fact_other hil2 (by rw [hsz]; decide) (by decide) (by decide) f12, fact_self (by rw [hsz]; decide) rfl, fact_other hil2 (by rw [hsz]; decide) (by decide) (by decide) f14, fact_other hil2 (by rw [hsz]; decide) (by decide) (by decide) f15, fact_other hil2 (by rw [hsz]; decide) (by decide) (by decide) f16, fact_other hil2 (by rw [hsz]; decide) (by decide) (by decide) f17, fact_other hil2 (by rw [hsz]; decide) (by decide) (by decide) f18, fact_other hil2 (by rw [hsz]; decide) (by decide) (by decide) f19, fact_other hil2 (by rw [hsz]; decide) (by decide) (by decide) f20, fact_other hil2 (by rw [hsz]; decide) (by decide) (by decide) f21, fact_other hil2 (by rw [hsz]; decide) (by decide) (by decide) f22, fact_other hil2 (by rw [hsz]; decide) (by decide) (by decide) f23, ?_, ?_, ?_, ?_, ?_, ?_, ?_, ?_, ?_, ?_, ?_⟩
        · rw [@listed_other l _ 17 hil2 (by decide), @listed_other l _ 12 hil2 (by decide), @listed_other l _ 10 hil2 (by decide), @listed_other l _ 8 hil2 (by decide), @listed_other l _ 4 hil2 (by decide)]; exact W0
        · rw [@listed_other l _ 3 hil2 (by decide)]; exact W1
        · rw [@listed_other l _ 7 hil2 (by decide)]; exact W2
        · rw [@listed_other l _ 9 hil2 (by decide)]; exact W3
        · rw [@listed_other l _ 11 hil2 (by decide)]; exact W4
        · rw [@listed_other l _ 14 hil2 (by decide)]; exact W5
        · rw [@listed_other l _ 16 hil2 (by decide)]; exact W6
        · rw [@listed_other l _ 8 hil2 (by decide), @listed_other l _ 4 hil2 (by decide)]; exact W7
        · rw [@listed_other l _ 10 hil2 (by decide), @listed_other l _ 8 hil2 (by decide)]; exact W8
        · rw [@listed_other l _ 12 hil2 (by decide), @listed_other l _ 10 hil2 (by decide)]; exact W9
        · rw [@listed_other l _ 17 hil2 (by decide), @listed_other l _ 12 hil2 (by decide)]; exact W10
      · have d13 : l.getD 13 false = true := ready_on hi (k := 0) rfl rfl rfl
        have e13 := f13 d13
        have b0 := (hbs 0 (by decide)).trans B0.out
        have b1 := (hbs 1 (by decide)).trans B1.out
        have b5 := (hbs 5 (by decide)).trans B5.out
        clear hi hil
        refine wpOp_step rfl (fun K hK => ?_)
        go_simp
        refine hK _ _ ?_
        clear hK K
        refine ⟨xA, xB, xC, xD, w'.heap.size, xF, (w'.heap.size, bcells (List.replicate m 0)) :: L, by first | rfl | exact hdf, put_size.trans hsz, base_other (by rw [hsz]; decide) (by decide) hbs, fact_other hil2 (by rw [hsz]; decide) (by decide) (by decide) f0, fact_other hil2 (by rw [hsz]; decide) (by decide) (by decide) f1, fact_other hil2 (by rw [hsz]; decide) (by decide) (by decide) f2, fact_other hil2 (by rw [hsz]; decide) (by decide) (by decide) f3, fact_other hil2 (by rw [hsz]; decide) (by decide) (by decide) f4, fact_other hil2 (by rw [hsz]; decide) (by decide) (by decide) f5, fact_other hil2 (by rw [hsz]; decide) (by decide) (by decide) f6, fact_other hil2 (by rw [hsz]; decide) (by decide) (by decide) f7, fact_other hil2 (by rw [hsz]; decide) (by decide) (by decide) f8, fact_other hil2 (by rw [hsz]; decide) (by decide) (by decide) f9, fact_other hil2 (by rw [hsz]; decide) (by decide) (by decide) f10, fact_other hil2 (by rw [hsz]; decide) (by decide) (by decide) f11, fact_other hil2 (by rw [hsz]; decide) (by decide) (by decide) f12, fact_other hil2 (by rw [hsz]; decide) (by decide) (by decide) f13, fact_self (by rw [hsz]; decide) rfl, fact_other hil2 (by rw [hsz]; decide) (by decide) (by decide) f15, fact_other hil2 (by rw [hsz]; decide) (by decide) (by decide) f16, fact_other hil2 (by rw [hsz]; decide) (by decide) (by decide) f17, fact_other hil2 (by rw [hsz]; decide) (by decide) (by decide) f18, fact_other hil2 (by rw [hsz]; decide) (by decide) (by decide) f19, fact_other hil2 (by rw [hsz]; decide) (by decide) (by decide) f20, fact_other hil2 (by rw [hsz]; decide) (by decide) (by decide) f21, fact_other hil2 (by rw [hsz]; decide) (by decide) (by decide) f22, fact_other hil2 (by rw [hsz]; decide) (by decide) (by decide) f23, ?_, ?_, ?_, ?_, ?_, ?_, ?_, ?_, ?_, ?_, ?_⟩
        · rw [@listed_other l _ 17 hil2 (by decide), @listed_other l _ 12 hil2 (by decide), @listed_other l _ 10 hil2 (by decide), @listed_other l _ 8 hil2 (by decide), @listed_other l _ 4 hil2 (by decide)]; exact W0.allocRow (bcells (List.replicate m 0)) _
        · rw [@listed_other l _ 3 hil2 (by decide)]; exact fun h => List.mem_cons_of_mem _ (W1 h)
        · rw [@listed_other l _ 7 hil2 (by decide)]; exact fun h => List.mem_cons_of_mem _ (W2 h)
        · rw [@listed_other l _ 9 hil2 (by decide)]; exact fun h => List.mem_cons_of_mem _ (W3 h)
        · rw [@listed_other l _ 11 hil2 (by decide)]; exact fun h => List.mem_cons_of_mem _ (W4 h)
        · exact fun _ => List.mem_cons_self
        · rw [@listed_other l _ 16 hil2 (by decide)]; exact fun h => List.mem_cons_of_mem _ (W6 h)
        · rw [@listed_other l _ 8 hil2 (by decide), @listed_other l _ 4 hil2 (by decide)]; exact W7
        · rw [@listed_other l _ 10 hil2 (by decide), @listed_other l _ 8 hil2 (by decide)]; exact W8
        · rw [@listed_other l _ 12 hil2 (by decide), @listed_other l _ 10 hil2 (by decide)]; exact W9
        · rw [@listed_other l _ 17 hil2 (by decide), @listed_other l _ 12 hil2 (by decide)]; exact W10
      · have d14 : l.getD 14 false = true := ready_on hi (k := 0) rfl rfl rfl
        have e14 := f14 d14
        have b0 := (hbs 0 (by decide)).trans B0.out
        have b1 := (hbs 1 (by decide)).trans B1.out
        have b5 := (hbs 5 (by decide)).trans B5.out
        clear hi hil
        refine wpOp_step rfl (fun K hK => ?_)
        have kc := bytes_str Tryd.prog 24 5 9 Tryd.underlying24 Tryd.underlying5 Tryd.underlying9 (some ⟨xE, 0, none⟩) m m (List.replicate m 0) w' (by simp) (W0.rows _ (W5 d14)).2.2
        rw [HZs.out] at kc
        go_simp
        refine hK _ _ ?_
        clear hK K
        refine ⟨xA, xB, xC, xD, xE, xF, L, by first | rfl | exact hdf, put_size.trans hsz, base_other (by rw [hsz]; decide) (by decide) hbs, fact_other hil2 (by rw [hsz]; decide) (by decide) (by decide) f0, fact_other hil2 (by rw [hsz]; decide) (by decide) (by decide) f1, fact_other hil2 (by rw [hsz]; decide) (by decide) (by decide) f2, fact_other hil2 (by rw [hsz]; decide) (by decide) (by decide) f3, fact_other hil2 (by rw [hsz]; decide) (by decide) (by decide) f4, fact_other hil2 (by rw [hsz]; decide) (by decide) (by decide) f5, fact_other hil2 (by rw [hsz]; decide) (by decide) (by decide) f6, fact_other hil2 (by rw [hsz]; decide) (by decide) (by decide) f7, fact_other hil2 (by rw [hsz]; decide) (by decide) (by decide) f8, fact_other hil2 (by rw [hsz]; decide) (by decide) (by decide) f9, fact_other hil2 (by rw [hsz]; decide) (by decide) (by decide) f10, fact_other hil2 (by rw [hsz]; decide) (by decide) (by decide) f11, fact_other hil2 (by rw [hsz]; decide) (by decide) (by decide) f12, fact_other hil2 (by rw [hsz]; decide) (by decide) (by decide) f13, fact_other hil2 (by rw [hsz]; decide) (by decide) (by decide) f14, fact_self (by rw [hsz]; decide) rfl, fact_other hil2 (by rw [hsz]; decide) (by decide) (by decide) f16, fact_other hil2 (by rw [hsz]; decide) (by decide) (by decide) f17, fact_other hil2 (by rw [hsz]; decide) (by decide) (by decide) f18, fact_other hil2 (by rw [hsz]; decide) (by decide) (by decide) f19, fact_other hil2 (by rw [hsz]; decide) (by decide) (by decide) f20, fact_other hil2 (by rw [hsz]; decide) (by decide) (by decide) f21, fact_other hil2 (by rw [hsz]; decide) (by decide) (by decide) f22, fact_other hil2 (by rw [hsz]; decide) (by decide) (by decide) f23, ?_, ?_, ?_, ?_, ?_, ?_, ?_, ?_, ?_, ?_, ?_⟩
        · rw [@listed_other l _ 17 hil2 (by decide), @listed_other l _ 12 hil2 (by decide), @listed_other l _ 10 hil2 (by decide), @listed_other l _ 8 hil2 (by decide), @listed_other l _ 4 hil2 (by decide)]; exact W0
        · rw [@listed_other l _ 3 hil2 (by decide)]; exact W1
        · rw [@listed_other l _ 7 hil2 (by decide)]; exact W2
        · rw [@listed_other l _ 9 hil2 (by decide)]; exact W3
        · rw [@listed_other l _ 11 hil2 (by decide)]; exact W4
        · rw [@listed_other l _ 14 hil2 (by decide)]; exact W5
        · rw [@listed_other l _ 16 hil2 (by decide)]; exact W6
        · rw [@listed_other l _ 8 hil2 (by decide), @listed_other l _ 4 hil2 (by decide)]; exact W7
        · rw [@listed_other l _ 10 hil2 (by decide), @listed_other l _ 8 hil2 (by decide)]; exact W8
        · rw [@listed_other l _ 12 hil2 (by decide), @listed_other l _ 10 hil2 (by decide)]; exact W9
        · rw [@listed_other l _ 17 hil2 (by decide), @listed_other l _ 12 hil2 (by decide)]; exact W10
      · have d15 : l.getD 15 false = true := ready_on hi (k := 0) rfl rfl rfl
        have e15 := f15 d15
        have g15 := slot_get (by rw [hsz]; decide) e15
        have b0 := (hbs 0 (by decide)).trans B0.out
        have b1 := (hbs 1 (by decide)).trans B1.out
        have b5 := (hbs 5 (by decide)).trans B5.out
        clear hi hil
        refine wpOp_step rfl (fun K hK => ?_)
        go_simp
        refine hK _ _ ?_
        clear hK K
        refine ⟨xA, xB, xC, xD, xE, w'.heap.size, (w'.heap.size, scells [zs]) :: L, by first | rfl | exact hdf, put_size.trans hsz, base_other (by rw [hsz]; decide) (by decide) hbs, fact_other hil2 (by rw [hsz]; decide) (by decide) (by decide) f0, fact_other hil2 (by rw [hsz]; decide) (by decide) (by decide) f1, fact_other hil2 (by rw [hsz]; decide) (by decide) (by decide) f2, fact_other hil2 (by rw [hsz]; decide) (by decide) (by decide) f3, fact_other hil2 (by rw [hsz]; decide) (by decide) (by decide) f4, fact_other hil2 (by rw [hsz]; decide) (by decide) (by decide) f5, fact_other hil2 (by rw [hsz]; decide) (by decide) (by decide) f6, fact_other hil2 (by rw [hsz]; decide) (by decide) (by decide) f7, fact_other hil2 (by rw [hsz]; decide) (by decide) (by decide) f8, fact_other hil2 (by rw [hsz]; decide) (by decide) (by decide) f9, fact_other hil2 (by rw [hsz]; decide) (by decide) (by decide) f10, fact_other hil2 (by rw [hsz]; decide) (by decide) (by decide) f11, fact_other hil2 (by rw [hsz]; decide) (by decide) (by decide) f12, fact_other hil2 (by rw [hsz]; decide) (by decide) (by decide) f13, fact_other hil2 (by rw [hsz]; decide) (by decide) (by decide) f14, fact_other hil2 (by rw [hsz]; decide) (by decide) (by decide) f15, fact_self (by rw [hsz]; decide) rfl, fact_other hil2 (by rw [hsz]; decide) (by decide) (by decide) f17, fact_other hil2 (by rw [hsz]; decide) (by decide) (by decide) f18, fact_other hil2 (by rw [hsz]; decide) (by decide) (by decide) f19, fact_other hil2 (by rw [hsz]; decide) (by decide) (by decide) f20, fact_other hil2 (by rw [hsz]; decide) (by decide) (by decide) f21, fact_other hil2 (by rw [hsz]; decide) (by decide) (by decide) f22, fact_other hil2 (by rw [hsz]; decide) (by decide) (by decide) f23, ?_, ?_, ?_, ?_, ?_, ?_, ?_, ?_, ?_, ?_, ?_⟩
        · rw [@listed_other l _ 17 hil2 (by decide), @listed_other l _ 12 hil2 (by decide), @listed_other l _ 10 hil2 (by decide), @listed_other l _ 8 hil2 (by decide), @listed_other l _ 4 hil2 (by decide)]; exact W0.allocRow (scells [zs]) _
        · rw [@listed_other l _ 3 hil2 (by decide)]; exact fun h => List.mem_cons_of_mem _ (W1 h)
        · rw [@listed_other l _ 7 hil2 (by decide)]; exact fun h => List.mem_cons_of_mem _ (W2 h)
        · rw [@listed_other l _ 9 hil2 (by decide)]; exact fun h => List.mem_cons_of_mem _ (W3 h)
        · rw [@listed_other l _ 11 hil2 (by decide)]; exact fun h => List.mem_cons_of_mem _ (W4 h)
        · rw [@listed_other l _ 14 hil2 (by decide)]; exact fun h => List.mem_cons_of_mem _ (W5 h)
        · exact fun _ => List.mem_cons_self
        · rw [@listed_other l _ 8 hil2 (by decide), @listed_other l _ 4 hil2 (by decide)]; exact W7
        · rw [@listed_other l _ 10 hil2 (by decide), @listed_other l _ 8 hil2 (by decide)]; exact W8
        · rw [@listed_other l _ 12 hil2 (by decide), @listed_other l _ 10 hil2 (by decide)]; exact W9
        · rw [@listed_other l _ 17 hil2 (by decide), @listed_other l _ 12 hil2 (by decide)]; exact W10
      · have d12 : l.getD 12 false = true := ready_on hi (k := 0) rfl rfl rfl
        have d16 : l.getD 16 false = true := ready_on hi (k := 1) rfl rfl rfl
        have e12 := f12 d12
        have e16 := f16 d16
        have b0 := (hbs 0 (by decide)).trans B0.out
        have b1 := (hbs 1 (by decide)).trans B1.out
        have b5 := (hbs 5 (by decide)).trans B5.out
        clear hi hil
        refine wpOp_step rfl (fun K hK => ?_)
        have hO := W0
        rw [if_neg (by rw [hnot]; simp : ¬ l.getD 17 false = true), if_pos d12] at hO
        go_simp
        refine Calls.mono (C5.out _ _ _ _ hO (W6 d16)) ?_
        rintro e w2 ⟨rfl, h2⟩
        refine hK _ _ ?_
        clear hK K
        refine ⟨xA, xB, xC, xD, xE, xF, L, by first | rfl | exact hdf, put_size.trans hsz, base_other (by rw [hsz]; decide) (by decide) hbs, fact_other hil2 (by rw [hsz]; decide) (by decide) (by decide) f0, fact_other hil2 (by rw [hsz]; decide) (by decide) (by decide) f1, fact_other hil2 (by rw [hsz]; decide) (by decide) (by decide) f2, fact_other hil2 (by rw [hsz]; decide) (by decide) (by decide) f3, fact_other hil2 (by rw [hsz]; decide) (by decide) (by decide) f4, fact_other hil2 (by rw [hsz]; decide) (by decide) (by decide) f5, fact_other hil2 (by rw [hsz]; decide) (by decide) (by decide) f6, fact_other hil2 (by rw [hsz]; decide) (by decide) (by decide) f7, fact_other hil2 (by rw [hsz]; decide) (by decide) (by decide) f8, fact_other hil2 (by rw [hsz]; decide) (by decide) (by decide) f9, fact_other hil2 (by rw [hsz]; decide) (by decide) (by decide) f10, fact_other hil2 (by rw [hsz]; decide) (by decide) (by decide) f11, fact_other hil2 (by rw [hsz]; decide) (by decide) (by decide) f12, fact_other hil2 (by rw [hsz]; decide) (by decide) (by decide) f13, fact_other hil2 (by rw [hsz]; decide) (by decide) (by decide) f14, fact_other hil2 (by rw [hsz]; decide) (by decide) (by decide) f15, fact_other hil2 (by rw [hsz]; decide) (by decide) (by decide) f16, fact_self (by rw [hsz]; decide) rfl, fact_other hil2 (by rw [hsz]; decide) (by decide) (by decide) f18, fact_other hil2 (by rw [hsz]; decide) (by decide) (by decide) f19, fact_other hil2 (by rw [hsz]; decide) (by decide) (by decide) f20, fact_other hil2 (by rw [hsz]; decide) (by decide) (by decide) f21, fact_other hil2 (by rw [hsz]; decide) (by decide) (by decide) f22, fact_other hil2 (by rw [hsz]; decide) (by decide) (by decide) f23, ?_, ?_, ?_, ?_, ?_, ?_, ?_, ?_, ?_, ?_, ?_⟩
        · rw [listed_self hil2, if_pos rfl]; exact h2
        · rw [@listed_other l _ 3 hil2 (by decide)]; exact W1
        · rw [@listed_other l _ 7 hil2 (by decide)]; exact W2
        · rw [@listed_other l _ 9 hil2 (by decide)]; exact W3
        · rw [@listed_other l _ 11 hil2 (by decide)]; exact W4
        · rw [@listed_other l _ 14 hil2 (by decide)]; exact W5
        · rw [@listed_other l _ 16 hil2 (by decide)]; exact W6
        · rw [@listed_other l _ 8 hil2 (by decide), @listed_other l _ 4 hil2 (by decide)]; exact W7
        · rw [@listed_other l _ 10 hil2 (by decide), @listed_other l _ 8 hil2 (by decide)]; exact W8
        · rw [@listed_other l _ 12 hil2 (by decide), @listed_other l _ 10 hil2 (by decide)]; exact W9
        · intro _; rw [@listed_other l _ 12 hil2 (by decide)]; exact d12
      · have d17 : l.getD 17 false = true := ready_on hi (k := 0) rfl rfl rfl
        have e17 := f17 d17
        have b0 := (hbs 0 (by decide)).trans B0.out
        have b1 := (hbs 1 (by decide)).trans B1.out
        have b5 := (hbs 5 (by decide)).trans B5.out
        clear hi hil
        refine wpOp_step rfl (fun K hK => ?_)
        have hO := W0
        rw [if_pos d17] at hO
        go_simp
        refine Calls.mono (C6.out _ _ _ hO) ?_
        rintro e w2 ⟨rfl, h2⟩
        refine hK _ _ ?_
        clear hK K
        refine ⟨xA, xB, xC, xD, xE, xF, L, by first | rfl | exact hdf, put_size.trans hsz, base_other (by rw [hsz]; decide) (by decide) hbs, fact_other hil2 (by rw [hsz]; decide) (by decide) (by decide) f0, fact_other hil2 (by rw [hsz]; decide) (by decide) (by decide) f1, fact_other hil2 (by rw [hsz]; decide) (by decide) (by decide) f2, fact_other hil2 (by rw [hsz]; decide) (by decide) (by decide) f3, fact_other hil2 (by rw [hsz]; decide) (by decide) (by decide) f4, fact_other hil2 (by rw [hsz]; decide) (by decide) (by decide) f5, fact_other hil2 (by rw [hsz]; decide) (by decide) (by decide) f6, fact_other hil2 (by rw [hsz]; decide) (by decide) (by decide) f7, fact_other hil2 (by rw [hsz]; decide) (by decide) (by decide) f8, fact_other hil2 (by rw [hsz]; decide) (by decide) (by decide) f9, fact_other hil2 (by rw [hsz]; decide) (by decide) (by decide) f10, fact_other hil2 (by rw [hsz]; decide) (by decide) (by decide) f11, fact_other hil2 (by rw [hsz]; decide) (by decide) (by decide) f12, fact_other hil2 (by rw [hsz]; decide) (by decide) (by decide) f13, fact_other hil2 (by rw [hsz]; decide) (by decide) (by decide) f14, fact_other hil2 (by rw [hsz]; decide) (by decide) (by decide) f15, fact_other hil2 (by rw [hsz]; decide) (by decide) (by decide) f16, fact_other hil2 (by rw [hsz]; decide) (by decide) (by decide) f17, fact_self (by rw [hsz]; decide) rfl, fact_other hil2 (by rw [hsz]; decide) (by decide) (by decide) f19, fact_other hil2 (by rw [hsz]; decide) (by decide) (by decide) f20, fact_other hil2 (by rw [hsz]; decide) (by decide) (by decide) f21, fact_other hil2 (by rw [hsz]; decide) (by decide) (by decide) f22, fact_other hil2 (by rw [hsz]; decide) (by decide) (by decide) f23, ?_, ?_, ?_, ?_, ?_, ?_, ?_, ?_, ?_, ?_, ?_⟩
        · rw [@listed_other l _ 17 hil2 (by decide)]; rw [if_pos d17]; exact h2
        · rw [@listed_other l _ 3 hil2 (by decide)]; exact W1
        · rw [@listed_other l _ 7 hil2 (by decide)]; exact W2
        · rw [@listed_other l _ 9 hil2 (by decide)]; exact W3
        · rw [@listed_other l _ 11 hil2 (by decide)]; exact W4
        · rw [@listed_other l _ 14 hil2 (by decide)]; exact W5
        · rw [@listed_other l _ 16 hil2 (by decide)]; exact W6
        · rw [@listed_other l _ 8 hil2 (by decide), @listed_other l _ 4 hil2 (by decide)]; exact W7
        · rw [@listed_other l _ 10 hil2 (by decide), @listed_other l _ 8 hil2 (by decide)]; exact W8
        · rw [@listed_other l _ 12 hil2 (by decide), @listed_other l _ 10 hil2 (by decide)]; exact W9
        · rw [@listed_other l _ 17 hil2 (by decide), @listed_other l _ 12 hil2 (by decide)]; exact W10
      · have d18 : l.getD 18 false = true := ready_on hi (k := 0) rfl rfl rfl
        have e18 := f18 d18
        have b0 := (hbs 0 (by decide)).trans B0.out
        have b1 := (hbs 1 (by decide)).trans B1.out
        have b5 := (hbs 5 (by decide)).trans B5.out
        clear hi hil
        refine wpOp_step rfl (fun K hK => ?_)
        go_simp
        refine hK _ _ ?_
        clear hK K
        refine ⟨xA, xB, xC, xD, xE, xF, L, by first | rfl | exact hdf, put_size.trans hsz, base_other (by rw [hsz]; decide) (by decide) hbs, fact_other hil2 (by rw [hsz]; decide) (by decide) (by decide) f0, fact_other hil2 (by rw [hsz]; decide) (by decide) (by decide) f1, fact_other hil2 (by rw [hsz]; decide) (by decide) (by decide) f2, fact_other hil2 (by rw [hsz]; decide) (by decide) (by decide) f3, fact_other hil2 (by rw [hsz]; decide) (by decide) (by decide) f4, fact_other hil2 (by rw [hsz]; decide) (by decide) (by decide) f5, fact_other hil2 (by rw [hsz]; decide) (by decide) (by decide) f6, fact_other hil2 (by rw [hsz]; decide) (by decide) (by decide) f7, fact_other hil2 (by rw [hsz]; decide) (by decide) (by decide) f8, fact_other hil2 (by rw [hsz]; decide) (by decide) (by decide) f9, fact_other hil2 (by rw [hsz]; decide) (by decide) (by decide) f10, fact_other hil2 (by rw [hsz]; decide) (by decide) (by decide) f11, fact_other hil2 (by rw [hsz]; decide) (by decide) (by decide) f12, fact_other hil2 (by rw [hsz]; decide) (by decide) (by decide) f13, fact_other hil2 (by rw [hsz]; decide) (by decide) (by decide) f14, fact_other hil2 (by rw [hsz]; decide) (by decide) (by decide) f15, fact_other hil2 (by rw [hsz]; decide) (by decide) (by decide) f16, fact_other hil2 (by rw [hsz]; decide) (by decide) (by decide) f17, fact_other hil2 (by rw [hsz]; decide) (by decide) (by decide) f18, fact_self (by rw [hsz]; decide) rfl, fact_other hil2 (by rw [hsz]; decide) (by decide) (by decide) f20, fact_other hil2 (by rw [hsz]; decide) (by decide) (by decide) f21, fact_other hil2 (by rw [hsz]; decide) (by decide) (by decide) f22, fact_other hil2 (by rw [hsz]; decide) (by decide) (by decide) f23, ?_, ?_, ?_, ?_, ?_, ?_, ?_, ?_, ?_, ?_, ?_⟩
        · rw [@listed_other l _ 17 hil2 (by decide), @listed_other l _ 12 hil2 (by decide), @listed_other l _ 10 hil2 (by decide), @listed_other l _ 8 hil2 (by decide), @listed_other l _ 4 hil2 (by decide)]; exact W0
        · rw [@listed_other l _ 3 hil2 (by decide)]; exact W1
        · rw [@listed_other l _ 7 hil2 (by decide)]; exact W2
        · rw [@listed_other l _ 9 hil2 (by decide)]; exact W3
        · rw [@listed_other l _ 11 hil2 (by decide)]; exact W4
        · rw [@listed_other l _ 14 hil2 (by decide)]; exact W5
        · rw [@listed_other l _ 16 hil2 (by decide)]; exact W6
        · rw [@listed_other l _ 8 hil2 (by decide), @listed_other l _ 4 hil2 (by decide)]; exact W7
        · rw [@listed_other l _ 10 hil2 (by decide), @listed_other l _ 8 hil2 (by decide)]; exact W8
        · rw [@listed_other l _ 12 hil2 (by decide), @listed_other l _ 10 hil2 (by decide)]; exact W9
        · rw [@listed_other l _ 17 hil2 (by decide), @listed_other l _ 12 hil2 (by decide)]; exact W10
      · have d19 : l.getD 19 false = true := ready_on hi (k := 0) rfl rfl rfl
        have e19 := f19 d19
        have b0 := (hbs 0 (by decide)).trans B0.out
        have b1 := (hbs 1 (by decide)).trans B1.out
        have b5 := (hbs 5 (by decide)).trans B5.out
        clear hi hil
        refine wpOp_step rfl (fun K hK => ?_)
        go_simp
        refine hK _ _ ?_
        clear hK K
        refine ⟨xA, xB, xC, xD, xE, xF, L, by first | rfl | exact hdf, put_size.trans hsz, base_other (by rw [hsz]; decide) (by decide) hbs, fact_other hil2 (by rw [hsz]; decide) (by decide) (by decide) f0, fact_other hil2 (by rw [hsz]; decide) (by decide) (by decide) f1, fact_other hil2 (by rw [hsz]; decide) (by decide) (by decide) f2, fact_other hil2 (by rw [hsz]; decide) (by decide) (by decide) f3, fact_other hil2 (by rw [hsz]; decide) (by decide) (by decide) f4, fact_other hil2 (by rw [hsz]; decide) (by decide) (by decide) f5, fact_other hil2 (by rw [hsz]; decide) (by decide) (by decide) f6, fact_other hil2 (by rw [hsz]; decide) (by decide) (by decide) f7, fact_other hil2 (by rw [hsz]; decide) (by decide) (by decide) f8, fact_other hil2 (by rw [hsz]; decide) (by decide) (by decide) f9, fact_other hil2 (by rw [hsz]; decide) (by decide) (by decide) f10, fact_other hil2 (by rw [hsz]; decide) (by decide) (by decide) f11, fact_other hil2 (by rw [hsz]; decide) (by decide) (by decide) f12, fact_other hil2 (by rw [hsz]; decide) (by decide) (by decide) f13, fact_other hil2 (by rw [hsz]; decide) (by decide) (by decide) f14, fact_other hil2 (by rw [hsz]; decide) (by decide) (by decide) f15, fact_other hil2 (by rw [hsz]; decide) (by decide) (by decide) f16, fact_other hil2 (by rw [hsz]; decide) (by decide) (by decide) f17, fact_other hil2 (by rw [hsz]; decide) (by decide) (by decide) f18, fact_other hil2 (by rw [hsz]; decide) (by decide) (by decide) f19, fact_self (by rw [hsz]; decide) rfl, fact_other hil2 (by rw [hsz]; decide) (by decide) (by decide) f21, fact_other hil2 (by rw [hsz]; decide) (by decide) (by decide) f22, fact_other hil2 (by rw [hsz]; decide) (by decide) (by decide) f23, ?_, ?_, ?_, ?_, ?_, ?_, ?_, ?_, ?_, ?_, ?_⟩
        · rw [@listed_other l _ 17 hil2 (by decide), @listed_other l _ 12 hil2 (by decide), @listed_other l _ 10 hil2 (by decide), @listed_other l _ 8 hil2 (by decide), @listed_other l _ 4 hil2 (by decide)]; exact W0
        · rw [@listed_other l _ 3 hil2 (by decide)]; exact W1
        · rw [@listed_other l _ 7 hil2 (by decide)]; exact W2
        · rw [@listed_other l _ 9 hil2 (by decide)]; exact W3
        · rw [@listed_other l _ 11 hil2 (by decide)]; exact W4
        · rw [@listed_other l _ 14 hil2 (by decide)]; exact W5
        · rw [@listed_other l _ 16 hil2 (by decide)]; exact W6
        · rw [@listed_other l _ 8 hil2 (by decide), @listed_other l _ 4 hil2 (by decide)]; exact W7
        · rw [@listed_other l _ 10 hil2 (by decide), @listed_other l _ 8 hil2 (by decide)]; exact W8
        · rw [@listed_other l _ 12 hil2 (by decide), @listed_other l _ 10 hil2 (by decide)]; exact W9
        · rw [@listed_other l _ 17 hil2 (by decide), @listed_other l _ 12 hil2 (by decide)]; exact W10
      · have d19 : l.getD 19 false = true := ready_on hi (k := 0) rfl rfl rfl
        have e19 := f19 d19
        have b0 := (hbs 0 (by decide)).trans B0.out
        have b1 := (hbs 1 (by decide)).trans B1.out
        have b5 := (hbs 5 (by decide)).trans B5.out
        clear hi hil
        refine wpOp_step rfl (fun K hK => ?_)
        go_simp
        refine hK _ _ ?_
        clear hK K
        refine ⟨xA, xB, xC, xD, xE, xF, L, by first | rfl | exact hdf, put_size.trans hsz, base_other (by rw [hsz]; decide) (by decide) hbs, fact_other hil2 (by rw [hsz]; decide) (by decide) (by decide) f0, fact_other hil2 (by rw [hsz]; decide) (by decide) (by decide) f1, fact_other hil2 (by rw [hsz]; decide) (by decide) (by decide) f2, fact_other hil2 (by rw [hsz]; decide) (by decide) (by decide) f3, fact_other hil2 (by rw [hsz]; decide) (by decide) (by decide) f4, fact_other hil2 (by rw [hsz]; decide) (by decide) (by decide) f5, fact_other hil2 (by rw [hsz]; decide) (by decide) (by decide) f6, fact_other hil2 (by rw [hsz]; decide) (by decide) (by decide) f7, fact_other hil2 (by rw [hsz]; decide) (by decide) (by decide) f8, fact_other hil2 (by rw [hsz]; decide) (by decide) (by decide) f9, fact_other hil2 (by rw [hsz]; decide) (by decide) (by decide) f10, fact_other hil2 (by rw [hsz]; decide) (by decide) (by decide) f11, fact_other hil2 (by rw [hsz]; decide) (by decide) (by decide) f12, fact_other hil2 (by rw [hsz]; decide) (by decide) (by decide) f13, fact_other hil2 (by rw [hsz]; decide) (by decide) (by decide) f14, fact_other hil2 (by rw [hsz]; decide) (by decide) (by decide) f15, fact_other hil2 (by rw [hsz]; decide) (by decide) (by decide) f16, fact_other hil2 (by rw [hsz]; decide) (by decide) (by decide) f17, fact_other hil2 (by rw [hsz]; decide) (by decide) (by decide) f18, fact_other hil2 (by rw [hsz]; decide) (by decide) (by decide) f19, fact_other hil2 (by rw [hsz]; decide) (by decide) (by decide) f20, fact_self (by rw [hsz]; decide) rfl, fact_other hil2 (by rw [hsz]; decide) (by decide) (by decide) f22, fact_other hil2 (by rw [hsz]; decide) (by decide) (by decide) f23, ?_, ?_, ?_, ?_, ?_, ?_, ?_, ?_, ?_, ?_, ?_⟩
        · rw [@listed_other l _ 17 hil2 (by decide), @listed_other l _ 12 hil2 (by decide), @listed_other l _ 10 hil2 (by decide), @listed_other l _ 8 hil2 (by decide), @listed_other l _ 4 hil2 (by decide)]; exact W0
        · rw [@listed_other l _ 3 hil2 (by decide)]; exact W1
        · rw [@listed_other l _ 7 hil2 (by decide)]; exact W2
        · rw [@listed_other l _ 9 hil2 (by decide)]; exact W3
        · rw [@listed_other l _ 11 hil2 (by decide)]; exact W4
        · rw [@listed_other l _ 14 hil2 (by decide)]; exact W5
        · rw [@listed_other l _ 16 hil2 (by decide)]; exact W6
        · rw [@listed_other l _ 8 hil2 (by decide), @listed_other l _ 4 hil2 (by decide)]; exact W7
        · rw [@listed_other l _ 10 hil2 (by decide), @listed_other l _ 8 hil2 (by decide)]; exact W8
        · rw [@listed_other l _ 12 hil2 (by decide), @listed_other l _ 10 hil2 (by decide)]; exact W9
        · rw [@listed_other l _ 17 hil2 (by decide), @listed_other l _ 12 hil2 (by decide)]; exact W10
      · have d20 : l.getD 20 false = true := ready_on hi (k := 0) rfl rfl rfl
        have d18 : l.getD 18 false = true := ready_on hi (k := 1) rfl rfl rfl
        have d0 : l.getD 0 false = true := ready_on hi (k := 2) rfl rfl rfl
        have d3 : l.getD 3 false = true := ready_on hi (k := 5) rfl rfl rfl
        have d4 : l.getD 4 false = true := ready_on hi (k := 6) rfl rfl rfl
        have d5 : l.getD 5 false = true := ready_on hi (k := 7) rfl rfl rfl
        have d6 : l.getD 6 false = true := ready_on hi (k := 8) rfl rfl rfl
        have d7 : l.getD 7 false = true := ready_on hi (k := 9) rfl rfl rfl
        have d8 : l.getD 8 false = true := ready_on hi (k := 10) rfl rfl rfl
        have d9 : l.getD 9 false = true := ready_on hi (k := 11) rfl rfl rfl
        have d10 : l.getD 10 false = true := ready_on hi (k := 12) rfl rfl rfl
        have d11 : l.getD 11 false = true := ready_on hi (k := 13) rfl rfl rfl
        have d12 : l.getD 12 false = true := ready_on hi (k := 14) rfl rfl rfl
        have d13 : l.getD 13 false = true := ready_on hi (k := 15) rfl rfl rfl
        have d14 : l.getD 14 false = true := ready_on hi (k := 16) rfl rfl rfl
        have d15 : l.getD 15 false = true := ready_on hi (k := 17) rfl rfl rfl
        have d16 : l.getD 16 false = true := ready_on hi (k := 18) rfl rfl rfl
        have d17 : l.getD 17 false = true := ready_on hi (k := 19) rfl rfl rfl
        have d19 : l.getD 19 false = true := ready_on hi (k := 21) rfl rfl rfl
        have e20 := f20 d20
        have e18 := f18 d18
        have e0 := f0 d0
        have e3 := f3 d3
        have e4 := f4 d4
        have e5 := f5 d5
        have e6 := f6 d6
        have e7 := f7 d7
        have e8 := f8 d8
        have e9 := f9 d9
        have e10 := f10 d10
        have e11 := f11 d11
        have e12 := f12 d12
        have e13 := f13 d13
        have e14 := f14 d14
        have e15 := f15 d15
        have e16 := f16 d16
        have e17 := f17 d17
        have e19 := f19 d19
        have b0 := (hbs 0 (by decide)).trans B0.out
        have b1 := (hbs 1 (by decide)).trans B1.out
        have b5 := (hbs 5 (by decide)).trans B5.out
        clear hi hil
        refine wpOp_step rfl (fun K hK => ?_)
        go_simp
        refine hK _ _ ?_
        clear hK K
        refine ⟨xA, xB, xC, xD, xE, xF, L, by first | rfl | exact hdf, put_size.trans hsz, base_other (by rw [hsz]; decide) (by decide) hbs, fact_other hil2 (by rw [hsz]; decide) (by decide) (by decide) f0, fact_other hil2 (by rw [hsz]; decide) (by decide) (by decide) f1, fact_other hil2 (by rw [hsz]; decide) (by decide) (by decide) f2, fact_other hil2 (by rw [hsz]; decide) (by decide) (by decide) f3, fact_other hil2 (by rw [hsz]; decide) (by decide) (by decide) f4, fact_other hil2 (by rw [hsz]; decide) (by decide) (by decide) f5, fact_other hil2 (by rw [hsz]; decide) (by decide) (by decide) f6, fact_other hil2 (by rw [hsz]; decide) (by decide) (by decide) f7, fact_other hil2 (by rw [hsz]; decide) (by decide) (by decide) f8, fact_other hil2 (by rw [hsz]; decide) (by decide) (by decide) f9, fact_other hil2 (by rw [hsz]; decide) (by decide) (by decide) f10, fact_other hil2 (by rw [hsz]; decide) (by decide) (by decide) f11, fact_other hil2 (by rw [hsz]; decide) (by decide) (by decide) f12, fact_other hil2 (by rw [hsz]; decide) (by decide) (by decide) f13, fact_other hil2 (by rw [hsz]; decide) (by decide) (by decide) f14, fact_other hil2 (by rw [hsz]; decide) (by decide) (by decide) f15, fact_other hil2 (by rw [hsz]; decide) (by decide) (by decide) f16, fact_other hil2 (by rw [hsz]; decide) (by decide) (by decide) f17, fact_other hil2 (by rw [hsz]; decide) (by decide) (by decide) f18, fact_other hil2 (by rw [hsz]; decide) (by decide) (by decide) f19, fact_other hil2 (by rw [hsz]; decide) (by decide) (by decide) f20, fact_other hil2 (by rw [hsz]; decide) (by decide) (by decide) f21, fact_self (by rw [hsz]; decide) rfl, fact_other hil2 (by rw [hsz]; decide) (by decide) (by decide) f23, ?_, ?_, ?_, ?_, ?_, ?_, ?_, ?_, ?_, ?_, ?_⟩
        · rw [@listed_other l _ 17 hil2 (by decide), @listed_other l _ 12 hil2 (by decide), @listed_other l _ 10 hil2 (by decide), @listed_other l _ 8 hil2 (by decide), @listed_other l _ 4 hil2 (by decide)]; exact W0
        · rw [@listed_other l _ 3 hil2 (by decide)]; exact W1
        · rw [@listed_other l _ 7 hil2 (by decide)]; exact W2
        · rw [@listed_other l _ 9 hil2 (by decide)]; exact W3
        · rw [@listed_other l _ 11 hil2 (by decide)]; exact W4
        · rw [@listed_other l _ 14 hil2 (by decide)]; exact W5
        · rw [@listed_other l _ 16 hil2 (by decide)]; exact W6
        · rw [@listed_other l _ 8 hil2 (by decide), @listed_other l _ 4 hil2 (by decide)]; exact W7
        · rw [@listed_other l _ 10 hil2 (by decide), @listed_other l _ 8 hil2 (by decide)]; exact W8
        · rw [@listed_other l _ 12 hil2 (by decide), @listed_other l _ 10 hil2 (by decide)]; exact W9
        · rw [@listed_other l _ 17 hil2 (by decide), @listed_other l _ 12 hil2 (by decide)]; exact W10
      · have d21 : l.getD 21 false = true := ready_on hi (k := 0) rfl rfl rfl
        have d22 : l.getD 22 false = true := ready_on hi (k := 1) rfl rfl rfl
        have d0 : l.getD 0 false = true := ready_on hi (k := 2) rfl rfl rfl
        have d1 : l.getD 1 false = true := ready_on hi (k := 3) rfl rfl rfl
        have d3 : l.getD 3 false = true := ready_on hi (k := 5) rfl rfl rfl
        have d4 : l.getD 4 false = true := ready_on hi (k := 6) rfl rfl rfl
        have d5 : l.getD 5 false = true := ready_on hi (k := 7) rfl rfl rfl
        have d6 : l.getD 6 false = true := ready_on hi (k := 8) rfl rfl rfl
        have d7 : l.getD 7 false = true := ready_on hi (k := 9) rfl rfl rfl
        have d8 : l.getD 8 false = true := ready_on hi (k := 10) rfl rfl rfl
        have d9 : l.getD 9 false = true := ready_on hi (k := 11) rfl rfl rfl
        have d10 : l.getD 10 false = true := ready_on hi (k := 12) rfl rfl rfl
        have d11 : l.getD 11 false = true := ready_on hi (k := 13) rfl rfl rfl
        have d12 : l.getD 12 false = true := ready_on hi (k := 14) rfl rfl rfl
        have d13 : l.getD 13 false = true := ready_on hi (k := 15) rfl rfl rfl
        have d14 : l.getD 14 false = true := ready_on hi (k := 16) rfl rfl rfl
        have d15 : l.getD 15 false = true := ready_on hi (k := 17) rfl rfl rfl
        have d16 : l.getD 16 false = true := ready_on hi (k := 18) rfl rfl rfl
        have d17 : l.getD 17 false = true := ready_on hi (k := 19) rfl rfl rfl
        have d18 : l.getD 18 false = true := ready_on hi (k := 20) rfl rfl rfl
        have d19 : l.getD 19 false = true := ready_on hi (k := 21) rfl rfl rfl
        have d20 : l.getD 20 false = true := ready_on hi (k := 22) rfl rfl rfl
        have e21 := f21 d21
        have e22 := f22 d22
        have e0 := f0 d0
        have e1 := f1 d1
        have e3 := f3 d3
        have e4 := f4 d4
        have e5 := f5 d5
        have e6 := f6 d6
        have e7 := f7 d7
        have e8 := f8 d8
        have e9 := f9 d9
        have e10 := f10 d10
        have e11 := f11 d11
        have e12 := f12 d12
        have e13 := f13 d13
        have e14 := f14 d14
        have e15 := f15 d15
        have e16 := f16 d16
        have e17 := f17 d17
        have e18 := f18 d18
        have e19 := f19 d19
        have e20 := f20 d20
        have b0 := (hbs 0 (by decide)).trans B0.out
        have b1 := (hbs 1 (by decide)).trans B1.out
        have b5 := (hbs 5 (by decide)).trans B5.out
        clear hi hil
        refine wpOp_step rfl (fun K hK => ?_)
        go_simp
        refine hK _ _ ?_
        clear hK K
        refine ⟨xA, xB, xC, xD, xE, xF, L, by first | rfl | exact hdf, put_size.trans hsz, base_other (by rw [hsz]; decide) (by decide) hbs, fact_other hil2 (by rw [hsz]; decide) (by decide) (by decide) f0, fact_other hil2 (by rw [hsz]; decide) (by decide) (by decide) f1, fact_other hil2 (by rw [hsz]; decide) (by decide) (by decide) f2, fact_other hil2 (by rw [hsz]; decide) (by decide) (by decide) f3, fact_other hil2 (by rw [hsz]; decide) (by decide) (by decide) f4, fact_other hil2 (by rw [hsz]; decide) (by decide) (by decide) f5, fact_other hil2 (by rw [hsz]; decide) (by decide) (by decide) f6, fact_other hil2 (by rw [hsz]; decide) (by decide) (by decide) f7, fact_other hil2 (by rw [hsz]; decide) (by decide) (by decide) f8, fact_other hil2 (by rw [hsz]; decide) (by decide) (by decide) f9, fact_other hil2 (by rw [hsz]; decide) (by decide) (by decide) f10, fact_other hil2 (by rw [hsz]; decide) (by decide) (by decide) f11, fact_other hil2 (by rw [hsz]; decide) (by decide) (by decide) f12, fact_other hil2 (by rw [hsz]; decide) (by decide) (by decide) f13, fact_other hil2 (by rw [hsz]; decide) (by decide) (by decide) f14, fact_other hil2 (by rw [hsz]; decide) (by decide) (by decide) f15, fact_other hil2 (by rw [hsz]; decide) (by decide) (by decide) f16, fact_other hil2 (by rw [hsz]; decide) (by decide) (by decide) f17, fact_other hil2 (by rw [hsz]; decide) (by decide) (by decide) f18, fact_other hil2 (by rw [hsz]; decide) (by decide) (by decide) f19, fact_other hil2 (by rw [hsz]; decide) (by decide) (by decide) f20, fact_other hil2 (by rw [hsz]; decide) (by decide) (by decide) f21, fact_other hil2 (by rw [hsz]; decide) (by decide) (by decide) f22, fact_self (by rw [hsz]; decide) rfl, ?_, ?_, ?_, ?_, ?_, ?_, ?_, ?_, ?_, ?_, ?_⟩
        · rw [@listed_other l _ 17 hil2 (by decide), @listed_other l _ 12 hil2 (by decide), @listed_other l _ 10 hil2 (by decide), @listed_other l _ 8 hil2 (by decide), @listed_other l _ 4 hil2 (by decide)]; exact W0
        · rw [@listed_other l _ 3 hil2 (by decide)]; exact W1
        · rw [@listed_other l _ 7 hil2 (by decide)]; exact W2
        · rw [@listed_other l _ 9 hil2 (by decide)]; exact W3
        · rw [@listed_other l _ 11 hil2 (by decide)]; exact W4
        · rw [@listed_other l _ 14 hil2 (by decide)]; exact W5
        · rw [@listed_other l _ 16 hil2 (by decide)]; exact W6
        · rw [@listed_other l _ 8 hil2 (by decide), @listed_other l _ 4 hil2 (by decide)]; exact W7
        · rw [@listed_other l _ 10 hil2 (by decide), @listed_other l _ 8 hil2 (by decide)]; exact W8
        · rw [@listed_other l _ 12 hil2 (by decide), @listed_other l _ 10 hil2 (by decide)]; exact W9
        · rw [@listed_other l _ 17 hil2 (by decide), @listed_other l _ 12 hil2 (by decide)]; exact W10
  case rest =>
    obtain ⟨rfl, rfl, HOc⟩ := hcut
    obtain ⟨L, hOc⟩ := HOc.out
    have HOR : Box _ := ⟨hOc⟩
    clear hOc HOc
    rcases HT1.out with ⟨hbig, rfl⟩ | ⟨hbig, m5, rfl, hm5⟩
    · have e1 : t6 = ByteArray.empty := by rw [← HE6.out.1]; rfl
      have e2 : e6 = 2 := by rw [← HE6.out.2]; rfl
      subst e1 e2
      have hbig2 : (65535 : Int) < (m : Int) := by omega
      have K7 : Box _ := ⟨outByte_row (b := wc.heap.size) (HOR.out.allocRow [.int .i64 1] 3) 1 1 [1] (by simp [icells]) rfl (by omega) (by have := HZ.out; simp only; omega) (by intro z hz; simp at hz; omega)⟩
      rw [layO_err 1 (2, m4) [1] (by simp)] at K7
      clear hbig HE6 C1 C2 C3 C4 C5 C6
      go_wp2_with fail
      refine Calls.mono K7.out ?_
      rintro e w8 ⟨rfl, h8⟩
      have K8 : Box _ := ⟨outEnd_row h8⟩
      rw [show endO (2, m4) = (ByteArray.empty, 2) from rfl] at K8
      clear h8 K7
      go_wp2_with fail
      refine Calls.mono K8.out ?_
      rintro e w9 ⟨rfl, h9⟩
      go_wp2
      go_ret
      exact ⟨rfl, h9.bel⟩
    · have e1 : t6 = ⟨m5.toArray⟩ := by rw [← HE6.out.1]; rfl
      have e2 : e6 = 0 := by rw [← HE6.out.2]; rfl
      have hsz : t6.size = 22 + m := by rw [e1]; simpa [ByteArray.size] using hm5
      subst e2
      have hbig2 : ¬ (65535 : Int) < (m : Int) := by omega
      have hsz2 : (t6.size : Int) = 22 + (m : Int) := by omega
      have hw2 : IntKind.i64.wrap (22 + (m : Int)) = 22 + (m : Int) := IntWalk.i64_in _ (by omega)
      clear hbig HE6 C1 C2 C3 C4 C5 C6 e1 hsz
      go_wp2
      go_ret
      exact ⟨rfl, HOR.out.bel⟩
end Go.Proofs.YtninoogbkaeihaaDoor
