/- MarkBack: a print is read as it was laid; of two texts the prints differ, or the texts are alike, or a digest was broken. -/
import Derived.Test.YtbkankpfkbafdaaDoorBundle8
import Derived.Test.YtbkankpfkbafdaaDoorBundle9
import Derived.Deep.RegionHeld3
namespace Go.Proofs.YtbkankpfkbafdaaDoor
open Go.RowKit
set_option linter.unusedVariables false

theorem layL_length (k : Int) (s : ByteArray) (h : s.size ≤ 32) : (layL k s).length = 33 := by
  simp [layL, lowL_length]; omega
theorem read_lay {k : Int} {s : ByteArray} (h : validM k s = true) : readM ⟨(layL k s).toArray⟩ = (k, s, 0) := by
  have hv := validM_true h
  have hk : ∃ x : UInt8, lowL k.toNat 1 = [x] ∧ (x.toNat : Int) = k := by
    rcases hv with ⟨rfl, _⟩ | ⟨rfl, _⟩
    · exact ⟨1, rfl, rfl⟩
    · exact ⟨2, rfl, rfl⟩
  obtain ⟨x, hx, hxk⟩ := hk
  have hn : (sizeM k).toNat = s.size := by
    rcases hv with ⟨rfl, hs⟩ | ⟨rfl, hs⟩ <;> rw [hs] <;> rfl
  have hp : 0 < sizeM k := by rcases hv with ⟨rfl, _⟩ | ⟨rfl, _⟩ <;> decide
  rw [readM, mkS_toList, layL, hx, List.singleton_append, readL, if_pos (by simp [data_length]; omega), hxk, hn]
  rw [List.drop_left' (data_length s), List.take_left' (data_length s), if_pos ⟨hp, by simp⟩, mk_data]
/-- The digest of a text, by kind. -/
def sumM (k : Int) (s : ByteArray) : ByteArray := if k = 1 then sumB [s] else sum2B [s]
theorem ofM_good {k : Int} (h : sizeM k ≠ 0) (s : ByteArray) : ofM k [s] = (k, sumM k s, 0) ∧ validM k (sumM k s) = true := by
  rcases sizeM_vals k with ⟨rfl, e⟩ | ⟨rfl, e⟩ | ⟨_, _, e⟩
  · refine ⟨rfl, ?_⟩
    have : (sumM 1 s).size = 20 := sumB_size _
    rw [validM, this]; rfl
  · refine ⟨rfl, ?_⟩
    have : (sumM 2 s).size = 32 := sum2B_size _
    rw [validM, this]; rfl
  · exact absurd e h
set_option maxHeartbeats 6400000 in
set_option maxRecDepth 100000 in
theorem markBack_calls (k : Int) (s t : ByteArray) (w : World) (_hk : -9223372036854775808 ≤ k ∧ k ≤ 9223372036854775807) (_hs : s.size ≤ 140737488351232) (_ht : t.size ≤ 140737488351232) :
    Calls Tryd.prog 4 #[.int .i64 k, .string s, .string t] w fun e w' => e = .returned (.bool true) ∧ Below w.heap.size w w' := by
  have HN : Box _ := ⟨refSize_calls k⟩
  by_cases hg : s.size ≤ 400 ∧ t.size ≤ 400 ∧ sizeM k ≠ 0
  case neg =>
    have hg2 : 400 < (s.size : Int) ∨ ((s.size : Int) ≤ 400 ∧ 400 < (t.size : Int)) ∨ ((s.size : Int) ≤ 400 ∧ (t.size : Int) ≤ 400 ∧ sizeM k = 0) := by omega
    clear hg
    rcases hg2 with h1 | ⟨h1, h2⟩ | ⟨h1, h2, h3⟩
    · go_enter Tryd.func4, Tryd.ntmps4
      go_wp2_with fail
      refine (markAlive_calls _).mono ?_
      rintro e w1 ⟨rfl, hb1⟩
      go_wp2
      go_ret
      exact ⟨rfl, hb1⟩
    · go_enter Tryd.func4, Tryd.ntmps4
      go_wp2_with fail
      refine (markAlive_calls _).mono ?_
      rintro e w1 ⟨rfl, hb1⟩
      go_wp2
      go_ret
      exact ⟨rfl, hb1⟩
    · rw [h3] at HN
      clear h3
      go_enter Tryd.func4, Tryd.ntmps4
      go_wp2_with fail
      refine (HN.out _).mono ?_
      rintro e w1 ⟨rfl, rfl⟩
      go_wp2_with fail
      refine (markAlive_calls _).mono ?_
      rintro e w1 ⟨rfl, hb1⟩
      go_wp2
      go_ret
      exact ⟨rfl, hb1⟩
  obtain ⟨g0, g1, g2⟩ := hg
  have b0 : decide ((400 : Int) < (s.size : Int)) = false := decide_eq_false (by omega)
  have b1 : decide ((400 : Int) < (t.size : Int)) = false := decide_eq_false (by omega)
  obtain ⟨eS, vS⟩ := ofM_good g2 s
  obtain ⟨eT, vT⟩ := ofM_good g2 t
  have HO1 : Box (∀ W, _) := ⟨fun W => of_new k [s] 1 W rfl (by omega) (by simp [totalLen]; omega)⟩
  have HO2 : Box (∀ W, _) := ⟨fun W => of_new k [t] 1 W rfl (by omega) (by simp [totalLen]; omega)⟩
  rw [eS] at HO1
  rw [eT] at HO2
  have hst : s = t → sumM k s = sumM k t := fun h => by rw [h]
  have hL : layM k (sumM k s) = (⟨(layL k (sumM k s)).toArray⟩, 0) := by rw [layM, if_pos vS]
  have hR := read_lay vS
  have hlen : (⟨(layL k (sumM k s)).toArray⟩ : ByteArray).size = 33 := by rw [mk_size, layL_length _ _ (by have := validM_true vS; omega)]
  obtain ⟨S, hS⟩ : ∃ S, sumM k s = S := ⟨_, rfl⟩
  obtain ⟨T, hT⟩ : ∃ T, sumM k t = T := ⟨_, rfl⟩
  rw [hS] at HO1 hst hL hR hlen
  rw [hT] at HO2 hst
  obtain ⟨B, hB⟩ : ∃ B : ByteArray, ⟨(layL k S).toArray⟩ = B := ⟨_, rfl⟩
  rw [hB] at hL hR hlen
  have HL : Box _ := ⟨fun W => lay_calls k S W⟩
  rw [hL] at HL
  have HR : Box _ := ⟨fun W => read_calls B W (by omega)⟩
  rw [hR] at HR
  have HB33 : Box ((B.size : Int) = 33) := ⟨by omega⟩
  have hz : (sizeM k == 0) = false := by simpa using g2
  obtain ⟨z, hzz⟩ : ∃ z, sizeM k = z := ⟨_, rfl⟩
  rw [hzz] at HN hz
  have HC : Box (s = t ∧ S = T ∨ s ≠ t ∧ S = T ∨ s ≠ t ∧ S ≠ T ∧ (cmpM k S k T = 1 ∧ cmpM k T k S = -1 ∨ cmpM k S k T = -1 ∧ cmpM k T k S = 1)) := ⟨by
    by_cases h1 : s = t
    · exact .inl ⟨h1, hst h1⟩
    · by_cases h2 : S = T
      · exact .inr (.inl ⟨h1, h2⟩)
      · refine .inr (.inr ⟨h1, h2, ?_⟩)
        have hn := cmpM_neg k S k T
        have h0 : cmpM k S k T ≠ 0 := fun h => h2 (cmpM_zero.1 h).2
        rcases cmpM_vals k S k T with h | h | h
        · exact .inr ⟨h, by omega⟩
        · exact absurd h h0
        · exact .inl ⟨h, by omega⟩⟩
  clear eS vS eT vT hst hL hR hlen hS hT hB g0 g1 g2 hzz _hk _hs _ht
  go_enter Tryd.func4, Tryd.ntmps4
  go_wp2_with fail
  refine (HN.out _).mono ?_
  rintro e w1 ⟨rfl, rfl⟩
  go_wp2_with fail
  refine (markAlive_calls _).mono ?_
  rintro e w1 ⟨rfl, hb1⟩
  have HB1 : Box _ := ⟨hb1⟩
  clear hb1 b0 b1 hz
  go_wp2_with fail
  refine (HO1.out _).mono ?_
  rintro e w2 ⟨rfl, hb2⟩
  have HB2 : Box _ := ⟨bel_alloc (bel_calls HB1.out hb2) (.cells #[.int .i64 k, .string S] 24)⟩
  have HP2 : Box _ := ⟨PrintAt.new w2 k S⟩
  obtain ⟨gp, hgp⟩ : ∃ gp, w2.heap.size = gp := ⟨_, rfl⟩
  rw [hgp] at HP2
  have hz2 : (w2.alloc (.cells #[.int .i64 k, .string S] 24)).heap.size = gp + 1 := by simp [hgp]
  have HO3 : Box _ := ⟨HO2.out (w2.alloc (.cells #[.int .i64 k, .string S] 24))⟩
  rw [hz2] at HO3
  clear hb2 hz2
  go_wp2_with fail
  refine HO3.out.mono ?_
  rintro e w3 ⟨rfl, hb3⟩
  have hz2 : (w2.alloc (.cells #[.int .i64 k, .string S] 24)).heap.size = gp + 1 := by simp [hgp]
  rw [← hz2] at hb3
  clear hz2
  have HP3 : Box _ := ⟨(HP2.out.below hb3).below (bel_alloc (Below.refl _ _) (.cells #[.int .i64 k, .string T] 24))⟩
  have HB3 : Box _ := ⟨bel_alloc (bel_calls HB2.out hb3) (.cells #[.int .i64 k, .string T] 24)⟩
  have HQ3 : Box _ := ⟨PrintAt.new w3 k T⟩
  obtain ⟨gq, hgq⟩ : ∃ gq, w3.heap.size = gq := ⟨_, rfl⟩
  rw [hgq] at HQ3
  have c0 := HP3.out.c0
  have c1 := HP3.out.c1
  clear hb3
  go_wp2_with fail
  refine (HL.out _).mono ?_
  rintro e w4 ⟨rfl, hb4⟩
  have HP4 : Box _ := ⟨HP3.out.below hb4⟩
  have HQ4 : Box _ := ⟨HQ3.out.below hb4⟩
  have HB4 : Box _ := ⟨bel_calls HB3.out hb4⟩
  clear hb4 c0 c1
  go_wp2_with fail
  refine (HR.out _).mono ?_
  rintro e w5 ⟨rfl, hb5⟩
  have HP5 : Box _ := ⟨(HP4.out.below hb5).below (bel_alloc (Below.refl _ _) (.cells #[.int .i64 k, .string S] 24))⟩
  have HQ5 : Box _ := ⟨(HQ4.out.below hb5).below (bel_alloc (Below.refl _ _) (.cells #[.int .i64 k, .string S] 24))⟩
  have HB5 : Box _ := ⟨bel_alloc (bel_calls HB4.out hb5) (.cells #[.int .i64 k, .string S] 24)⟩
  have HR5 : Box _ := ⟨PrintAt.new w5 k S⟩
  obtain ⟨gr, hgr⟩ : ∃ gr, w5.heap.size = gr := ⟨_, rfl⟩
  rw [hgr] at HR5
  obtain ⟨w6, hw6⟩ : ∃ w6, w5.alloc (.cells #[.int .i64 k, .string S] 24) = w6 := ⟨_, rfl⟩
  rw [hw6] at HP5 HQ5 HB5 HR5
  have KK : Box (∀ W, Below w6.heap.size w6 W → W.cell? ⟨gp, 0, none⟩ = some (.int .i64 k) ∧ W.cell? ⟨gp, 1, none⟩ = some (.string S) ∧ W.cell? ⟨gq, 0, none⟩ = some (.int .i64 k) ∧ W.cell? ⟨gq, 1, none⟩ = some (.string T) ∧ W.cell? ⟨gr, 0, none⟩ = some (.int .i64 k) ∧ W.cell? ⟨gr, 1, none⟩ = some (.string S)) :=
    ⟨fun W h => ⟨(HP5.out.below h).c0, (HP5.out.below h).c1, (HQ5.out.below h).c0, (HQ5.out.below h).c1, (HR5.out.below h).c0, (HR5.out.below h).c1⟩⟩
  clear hb5
  have hB33 := HB33.out
  rcases HC.out with ⟨rfl, rfl⟩ | ⟨hne, rfl⟩ | ⟨hne, hne2, h⟩
  · clear HC
    have e1 : (s.toList != s.toList) = false := by simp
    have e2 : (s.toList == s.toList) = true := by simp
    have CC : Box (∀ W, _) := ⟨fun W => compare_calls k S k S W⟩
    rw [cmpM_self k S] at CC
    go_wp2_with fail
    refine wp_region_held_drew (S := (fun w' => w'.cell? ⟨gp, 0, none⟩ = some (.int .i64 k) ∧ w'.cell? ⟨gp, 1, none⟩ = some (.string S) ∧ w'.cell? ⟨gq, 0, none⟩ = some (.int .i64 k) ∧ w'.cell? ⟨gq, 1, none⟩ = some (.string S) ∧ w'.cell? ⟨gr, 0, none⟩ = some (.int .i64 k) ∧ w'.cell? ⟨gr, 1, none⟩ = some (.string S))) (by kernel_rfl) ?aS (fun hHeld => ?_)
    case aS => (try dsimp only); exact KK.out _ (bel_drew (Below.refl _ _))
    refine wpAnyH_take (i := 0) (oi := Go.Oper.mk (Option.some 57) (Go.Op.move (Go.Operand.tmp 8)) 25 "law.go:51" #[] Option.none) (v := ?a1_v) rfl (by kernel_rfl) (by kernel_rfl) (by kernel_rfl) (fun _ _ _ h => h) (Or.inl ⟨by rfl, ?a1_y⟩) (by assumption) ?_
    case a1_y => (intro w hSw; (try dsimp only at hSw); go_simp; (first | done | with_reducible rfl))
    try simp only [Act.put, List.setIfInBounds_toArray, List.set_cons_zero, List.set_cons_succ]
    refine wpAnyH_take (i := 1) (oi := Go.Oper.mk (Option.some 58) (Go.Op.binOp Go.BinOp.eql 25 (Go.Operand.tmp 57) (Go.Operand.const (Go.Value.int Go.IntKind.i64 0)) 25) 4 "law.go:51" #[Go.Edge.mk 0 Go.Ground.data] Option.none) (v := ?a2_v) rfl (by kernel_rfl) (by kernel_rfl) (by kernel_rfl) (fun _ _ _ h => h) (Or.inl ⟨by rfl, ?a2_y⟩) (by assumption) ?_
    case a2_y => (intro w hSw; (try dsimp only at hSw); go_simp; (first | done | with_reducible rfl))
    try simp only [Act.put, List.setIfInBounds_toArray, List.set_cons_zero, List.set_cons_succ]
    refine wpAnyH_take (i := 2) (oi := Go.Oper.mk (Option.some 59) (Go.Op.move (Go.Operand.tmp 58)) 4 "law.go:51" #[Go.Edge.mk 1 Go.Ground.data] Option.none) (v := ?a3_v) rfl (by kernel_rfl) (by kernel_rfl) (by kernel_rfl) (fun _ _ _ h => h) (Or.inl ⟨by rfl, ?a3_y⟩) (by assumption) ?_
    case a3_y => (intro w hSw; (try dsimp only at hSw); go_simp; (first | done | with_reducible rfl))
    try simp only [Act.put, List.setIfInBounds_toArray, List.set_cons_zero, List.set_cons_succ]
    refine wpAnyH_take (i := 3) (oi := Go.Oper.mk (Option.some 60) (Go.Op.move (Go.Operand.tmp 10)) 25 "law.go:51" #[Go.Edge.mk 2 Go.Ground.guard] (Option.some (2, Bool.true))) (v := ?a4_v) rfl (by kernel_rfl) (by kernel_rfl) (by kernel_rfl) (fun _ _ _ h => h) (Or.inl ⟨by rfl, ?a4_y⟩) (by assumption) ?_
    case a4_y => (intro w hSw; (try dsimp only at hSw); go_simp; (first | done | with_reducible rfl))
    try simp only [Act.put, List.setIfInBounds_toArray, List.set_cons_zero, List.set_cons_succ]
    refine wpAnyH_take (i := 4) (oi := Go.Oper.mk (Option.some 61) (Go.Op.binOp Go.BinOp.eql 25 (Go.Operand.tmp 60) (Go.Operand.const (Go.Value.int Go.IntKind.i64 0)) 25) 4 "law.go:51" #[Go.Edge.mk 3 Go.Ground.data, Go.Edge.mk 2 Go.Ground.guard] (Option.some (2, Bool.true))) (v := ?a5_v) rfl (by kernel_rfl) (by kernel_rfl) (by kernel_rfl) (fun _ _ _ h => h) (Or.inl ⟨by rfl, ?a5_y⟩) (by assumption) ?_
    case a5_y => (intro w hSw; (try dsimp only at hSw); go_simp; (first | done | with_reducible rfl))
    try simp only [Act.put, List.setIfInBounds_toArray, List.set_cons_zero, List.set_cons_succ]
    refine wpAnyH_take (i := 5) (oi := Go.Oper.mk (Option.some 62) (Go.Op.pick (Go.Operand.tmp 59) (Go.Operand.tmp 61) (Go.Operand.const (Go.Value.bool Bool.false))) 4 "law.go:51" #[Go.Edge.mk 2 Go.Ground.data, Go.Edge.mk 4 Go.Ground.data] Option.none) (v := ?a6_v) rfl (by kernel_rfl) (by kernel_rfl) (by kernel_rfl) (fun _ _ _ h => h) (Or.inl ⟨by rfl, ?a6_y⟩) (by assumption) ?_
    case a6_y => (intro w hSw; (try dsimp only at hSw); go_simp; (first | done | with_reducible rfl))
    try simp only [Act.put, List.setIfInBounds_toArray, List.set_cons_zero, List.set_cons_succ]
    refine wpAnyH_take (i := 6) (oi := Go.Oper.mk (Option.some 63) (Go.Op.move (Go.Operand.tmp 62)) 4 "law.go:51" #[Go.Edge.mk 5 Go.Ground.data, Go.Edge.mk 2 Go.Ground.chain] Option.none) (v := ?a7_v) rfl (by kernel_rfl) (by kernel_rfl) (by kernel_rfl) (fun _ _ _ h => h) (Or.inl ⟨by rfl, ?a7_y⟩) (by assumption) ?_
    case a7_y => (intro w hSw; (try dsimp only at hSw); go_simp; (first | done | with_reducible rfl))
    try simp only [Act.put, List.setIfInBounds_toArray, List.set_cons_zero, List.set_cons_succ]
    refine wpAnyH_take (i := 7) (oi := Go.Oper.mk (Option.some 64) (Go.Op.move (Go.Operand.tmp 12)) 25 "law.go:51" #[Go.Edge.mk 6 Go.Ground.guard] (Option.some (6, Bool.true))) (v := ?a8_v) rfl (by kernel_rfl) (by kernel_rfl) (by kernel_rfl) (fun _ _ _ h => h) (Or.inl ⟨by rfl, ?a8_y⟩) (by assumption) ?_
    case a8_y => (intro w hSw; (try dsimp only at hSw); go_simp; (first | done | with_reducible rfl))
    try simp only [Act.put, List.setIfInBounds_toArray, List.set_cons_zero, List.set_cons_succ]
    refine wpAnyH_take (i := 8) (oi := Go.Oper.mk (Option.some 65) (Go.Op.binOp Go.BinOp.eql 25 (Go.Operand.tmp 64) (Go.Operand.const (Go.Value.int Go.IntKind.i64 0)) 25) 4 "law.go:51" #[Go.Edge.mk 7 Go.Ground.data, Go.Edge.mk 6 Go.Ground.guard] (Option.some (6, Bool.true))) (v := ?a9_v) rfl (by kernel_rfl) (by kernel_rfl) (by kernel_rfl) (fun _ _ _ h => h) (Or.inl ⟨by rfl, ?a9_y⟩) (by assumption) ?_
    case a9_y => (intro w hSw; (try dsimp only at hSw); go_simp; (first | done | with_reducible rfl))
    try simp only [Act.put, List.setIfInBounds_toArray, List.set_cons_zero, List.set_cons_succ]
    refine wpAnyH_take (i := 9) (oi := Go.Oper.mk (Option.some 66) (Go.Op.pick (Go.Operand.tmp 63) (Go.Operand.tmp 65) (Go.Operand.const (Go.Value.bool Bool.false))) 4 "law.go:51" #[Go.Edge.mk 6 Go.Ground.data, Go.Edge.mk 8 Go.Ground.data] Option.none) (v := ?a10_v) rfl (by kernel_rfl) (by kernel_rfl) (by kernel_rfl) (fun _ _ _ h => h) (Or.inl ⟨by rfl, ?a10_y⟩) (by assumption) ?_
    case a10_y => (intro w hSw; (try dsimp only at hSw); go_simp; (first | done | with_reducible rfl))
    try simp only [Act.put, List.setIfInBounds_toArray, List.set_cons_zero, List.set_cons_succ]
    refine wpAnyH_take (i := 10) (oi := Go.Oper.mk (Option.some 67) (Go.Op.move (Go.Operand.tmp 66)) 4 "law.go:51" #[Go.Edge.mk 9 Go.Ground.data, Go.Edge.mk 6 Go.Ground.chain] Option.none) (v := ?a11_v) rfl (by kernel_rfl) (by kernel_rfl) (by kernel_rfl) (fun _ _ _ h => h) (Or.inl ⟨by rfl, ?a11_y⟩) (by assumption) ?_
    case a11_y => (intro w hSw; (try dsimp only at hSw); go_simp; (first | done | with_reducible rfl))
    try simp only [Act.put, List.setIfInBounds_toArray, List.set_cons_zero, List.set_cons_succ]
    refine wpAnyH_take (i := 11) (oi := Go.Oper.mk (Option.some 68) (Go.Op.move (Go.Operand.tmp 14)) 25 "law.go:51" #[Go.Edge.mk 10 Go.Ground.guard] (Option.some (10, Bool.true))) (v := ?a12_v) rfl (by kernel_rfl) (by kernel_rfl) (by kernel_rfl) (fun _ _ _ h => h) (Or.inl ⟨by rfl, ?a12_y⟩) (by assumption) ?_
    case a12_y => (intro w hSw; (try dsimp only at hSw); go_simp; (first | done | with_reducible rfl))
    try simp only [Act.put, List.setIfInBounds_toArray, List.set_cons_zero, List.set_cons_succ]
    refine wpAnyH_take (i := 12) (oi := Go.Oper.mk (Option.some 69) (Go.Op.binOp Go.BinOp.eql 25 (Go.Operand.tmp 68) (Go.Operand.const (Go.Value.int Go.IntKind.i64 0)) 25) 4 "law.go:51" #[Go.Edge.mk 11 Go.Ground.data, Go.Edge.mk 10 Go.Ground.guard] (Option.some (10, Bool.true))) (v := ?a13_v) rfl (by kernel_rfl) (by kernel_rfl) (by kernel_rfl) (fun _ _ _ h => h) (Or.inl ⟨by rfl, ?a13_y⟩) (by assumption) ?_
    case a13_y => (intro w hSw; (try dsimp only at hSw); go_simp; (first | done | with_reducible rfl))
    try simp only [Act.put, List.setIfInBounds_toArray, List.set_cons_zero, List.set_cons_succ]
    refine wpAnyH_take (i := 13) (oi := Go.Oper.mk (Option.some 70) (Go.Op.pick (Go.Operand.tmp 67) (Go.Operand.tmp 69) (Go.Operand.const (Go.Value.bool Bool.false))) 4 "law.go:51" #[Go.Edge.mk 10 Go.Ground.data, Go.Edge.mk 12 Go.Ground.data] Option.none) (v := ?a14_v) rfl (by kernel_rfl) (by kernel_rfl) (by kernel_rfl) (fun _ _ _ h => h) (Or.inl ⟨by rfl, ?a14_y⟩) (by assumption) ?_
    case a14_y => (intro w hSw; (try dsimp only at hSw); go_simp; (first | done | with_reducible rfl))
    try simp only [Act.put, List.setIfInBounds_toArray, List.set_cons_zero, List.set_cons_succ]
    refine wpAnyH_take (i := 14) (oi := Go.Oper.mk (Option.some 71) (Go.Op.move (Go.Operand.tmp 70)) 4 "law.go:51" #[Go.Edge.mk 13 Go.Ground.data, Go.Edge.mk 10 Go.Ground.chain] Option.none) (v := ?a15_v) rfl (by kernel_rfl) (by kernel_rfl) (by kernel_rfl) (fun _ _ _ h => h) (Or.inl ⟨by rfl, ?a15_y⟩) (by assumption) ?_
    case a15_y => (intro w hSw; (try dsimp only at hSw); go_simp; (first | done | with_reducible rfl))
    try simp only [Act.put, List.setIfInBounds_toArray, List.set_cons_zero, List.set_cons_succ]
    refine wpAnyH_take (i := 15) (oi := Go.Oper.mk (Option.some 72) (Go.Op.load 24 (Go.Operand.tmp 13)) 24 "law.go:51" #[Go.Edge.mk 14 Go.Ground.guard] (Option.some (14, Bool.true))) (v := ?a16_v) rfl (by kernel_rfl) (by kernel_rfl) (by kernel_rfl) (fun _ _ _ h => h) (Or.inl ⟨by rfl, ?a16_y⟩) (by assumption) ?_
    case a16_y => (intro w hSw; (try dsimp only at hSw); go_simp; (first | done | with_reducible rfl))
    try simp only [Act.put, List.setIfInBounds_toArray, List.set_cons_zero, List.set_cons_succ]
    refine wpAnyH_take (i := 16) (oi := Go.Oper.mk (Option.some 73) (Go.Op.load 24 (Go.Operand.tmp 7)) 24 "law.go:51" #[Go.Edge.mk 14 Go.Ground.guard] (Option.some (14, Bool.true))) (v := ?a17_v) rfl (by kernel_rfl) (by kernel_rfl) (by kernel_rfl) (fun _ _ _ h => h) (Or.inl ⟨by rfl, ?a17_y⟩) (by assumption) ?_
    case a17_y => (intro w hSw; (try dsimp only at hSw); go_simp; (first | done | with_reducible rfl))
    try simp only [Act.put, List.setIfInBounds_toArray, List.set_cons_zero, List.set_cons_succ]
    refine wpAnyH_take (i := 17) (oi := Go.Oper.mk (Option.some 74) (Go.Op.binOp Go.BinOp.eql 24 (Go.Operand.tmp 72) (Go.Operand.tmp 73) 24) 4 "law.go:51" #[Go.Edge.mk 15 Go.Ground.data, Go.Edge.mk 16 Go.Ground.data, Go.Edge.mk 14 Go.Ground.guard] (Option.some (14, Bool.true))) (v := ?a18_v) rfl (by kernel_rfl) (by kernel_rfl) (by kernel_rfl) (fun _ _ _ h => h) (Or.inl ⟨by rfl, ?a18_y⟩) (by assumption) ?_
    case a18_y => (intro w hSw; (try dsimp only at hSw); go_simp; (first | done | with_reducible rfl))
    try simp only [Act.put, List.setIfInBounds_toArray, List.set_cons_zero, List.set_cons_succ]
    refine wpAnyH_take (i := 18) (oi := Go.Oper.mk (Option.some 75) (Go.Op.pick (Go.Operand.tmp 71) (Go.Operand.tmp 74) (Go.Operand.const (Go.Value.bool Bool.false))) 4 "law.go:51" #[Go.Edge.mk 14 Go.Ground.data, Go.Edge.mk 17 Go.Ground.data] Option.none) (v := ?a19_v) rfl (by kernel_rfl) (by kernel_rfl) (by kernel_rfl) (fun _ _ _ h => h) (Or.inl ⟨by rfl, ?a19_y⟩) (by assumption) ?_
    case a19_y => (intro w hSw; (try dsimp only at hSw); go_simp; (first | done | with_reducible rfl))
    try simp only [Act.put, List.setIfInBounds_toArray, List.set_cons_zero, List.set_cons_succ]
    refine wpAnyH_take (i := 19) (oi := Go.Oper.mk (Option.some 76) (Go.Op.move (Go.Operand.tmp 75)) 4 "law.go:51" #[Go.Edge.mk 18 Go.Ground.data, Go.Edge.mk 14 Go.Ground.chain] Option.none) (v := ?a20_v) rfl (by kernel_rfl) (by kernel_rfl) (by kernel_rfl) (fun _ _ _ h => h) (Or.inl ⟨by rfl, ?a20_y⟩) (by assumption) ?_
    case a20_y => (intro w hSw; (try dsimp only at hSw); go_simp; (first | done | with_reducible rfl))
    try simp only [Act.put, List.setIfInBounds_toArray, List.set_cons_zero, List.set_cons_succ]
    refine wpAnyH_take (i := 20) (oi := Go.Oper.mk (Option.some 77) (Go.Op.move (Go.Operand.tmp 11)) 9 "law.go:51" #[Go.Edge.mk 19 Go.Ground.guard] (Option.some (19, Bool.true))) (v := ?a21_v) rfl (by kernel_rfl) (by kernel_rfl) (by kernel_rfl) (fun _ _ _ h => h) (Or.inl ⟨by rfl, ?a21_y⟩) (by assumption) ?_
    case a21_y => (intro w hSw; (try dsimp only at hSw); go_simp; (first | done | with_reducible rfl))
    try simp only [Act.put, List.setIfInBounds_toArray, List.set_cons_zero, List.set_cons_succ]
    refine wpAnyH_take (i := 21) (oi := Go.Oper.mk (Option.some 78) (Go.Op.call (Go.Call.mk (Go.Callee.builtin Go.Builtin.len) #[Go.Operand.tmp 77] #[9])) 3 "law.go:51" #[Go.Edge.mk 20 Go.Ground.data, Go.Edge.mk 19 Go.Ground.guard] (Option.some (19, Bool.true))) (v := ?a22_v) rfl (by kernel_rfl) (by kernel_rfl) (by kernel_rfl) (fun _ _ _ h => h) (Or.inl ⟨by rfl, ?a22_y⟩) (by assumption) ?_
    case a22_y => (intro w hSw; (try dsimp only at hSw); go_simp; (first | done | with_reducible rfl))
    try simp only [Act.put, List.setIfInBounds_toArray, List.set_cons_zero, List.set_cons_succ]
    refine wpAnyH_take (i := 22) (oi := Go.Oper.mk (Option.some 79) (Go.Op.binOp Go.BinOp.eql 3 (Go.Operand.tmp 78) (Go.Operand.const (Go.Value.int Go.IntKind.i64 33)) 3) 4 "law.go:51" #[Go.Edge.mk 21 Go.Ground.data, Go.Edge.mk 19 Go.Ground.guard] (Option.some (19, Bool.true))) (v := ?a23_v) rfl (by kernel_rfl) (by kernel_rfl) (by kernel_rfl) (fun _ _ _ h => h) (Or.inl ⟨by rfl, ?a23_y⟩) (by assumption) ?_
    case a23_y => (intro w hSw; (try dsimp only at hSw); go_simp; (first | done | with_reducible rfl))
    try simp only [Act.put, List.setIfInBounds_toArray, List.set_cons_zero, List.set_cons_succ]
    refine wpAnyH_take (i := 23) (oi := Go.Oper.mk (Option.some 80) (Go.Op.pick (Go.Operand.tmp 76) (Go.Operand.tmp 79) (Go.Operand.const (Go.Value.bool Bool.false))) 4 "law.go:51" #[Go.Edge.mk 19 Go.Ground.data, Go.Edge.mk 22 Go.Ground.data] Option.none) (v := ?a24_v) rfl (by kernel_rfl) (by kernel_rfl) (by kernel_rfl) (fun _ _ _ h => h) (Or.inl ⟨by rfl, ?a24_y⟩) (by assumption) ?_
    case a24_y => (intro w hSw; (try dsimp only at hSw); go_simp; (first | done | with_reducible rfl))
    try simp only [Act.put, List.setIfInBounds_toArray, List.set_cons_zero, List.set_cons_succ]
    refine wpAnyH_take (i := 24) (oi := Go.Oper.mk (Option.some 81) (Go.Op.move (Go.Operand.tmp 80)) 4 "law.go:51" #[Go.Edge.mk 23 Go.Ground.data, Go.Edge.mk 19 Go.Ground.chain] Option.none) (v := ?a25_v) rfl (by kernel_rfl) (by kernel_rfl) (by kernel_rfl) (fun _ _ _ h => h) (Or.inl ⟨by rfl, ?a25_y⟩) (by assumption) ?_
    case a25_y => (intro w hSw; (try dsimp only at hSw); go_simp; (first | done | with_reducible rfl))
    try simp only [Act.put, List.setIfInBounds_toArray, List.set_cons_zero, List.set_cons_succ]
    refine wpAnyH_take (i := 25) (oi := Go.Oper.mk (Option.some 82) (Go.Op.move (Go.Operand.tmp 1)) 9 "law.go:51" #[Go.Edge.mk 24 Go.Ground.guard] (Option.some (24, Bool.true))) (v := ?a26_v) rfl (by kernel_rfl) (by kernel_rfl) (by kernel_rfl) (fun _ _ _ h => h) (Or.inl ⟨by rfl, ?a26_y⟩) (by assumption) ?_
    case a26_y => (intro w hSw; (try dsimp only at hSw); go_simp; (first | done | with_reducible rfl))
    try simp only [Act.put, List.setIfInBounds_toArray, List.set_cons_zero, List.set_cons_succ]
    refine wpAnyH_take (i := 26) (oi := Go.Oper.mk (Option.some 83) (Go.Op.move (Go.Operand.tmp 2)) 9 "law.go:51" #[Go.Edge.mk 24 Go.Ground.guard] (Option.some (24, Bool.true))) (v := ?a27_v) rfl (by kernel_rfl) (by kernel_rfl) (by kernel_rfl) (fun _ _ _ h => h) (Or.inl ⟨by rfl, ?a27_y⟩) (by assumption) ?_
    case a27_y => (intro w hSw; (try dsimp only at hSw); go_simp; (first | done | with_reducible rfl))
    try simp only [Act.put, List.setIfInBounds_toArray, List.set_cons_zero, List.set_cons_succ]
    refine wpAnyH_take (i := 27) (oi := Go.Oper.mk (Option.some 84) (Go.Op.binOp Go.BinOp.neq 9 (Go.Operand.tmp 82) (Go.Operand.tmp 83) 9) 4 "law.go:51" #[Go.Edge.mk 25 Go.Ground.data, Go.Edge.mk 26 Go.Ground.data, Go.Edge.mk 24 Go.Ground.guard] (Option.some (24, Bool.true))) (v := ?a28_v) rfl (by kernel_rfl) (by kernel_rfl) (by kernel_rfl) (fun _ _ _ h => h) (Or.inl ⟨by rfl, ?a28_y⟩) (by assumption) ?_
    case a28_y => (intro w hSw; (try dsimp only at hSw); go_simp; (first | done | with_reducible rfl))
    try simp only [Act.put, List.setIfInBounds_toArray, List.set_cons_zero, List.set_cons_succ]
    refine wpAnyH_take (i := 28) (oi := Go.Oper.mk (Option.some 85) (Go.Op.move (Go.Operand.tmp 84)) 4 "law.go:51" #[Go.Edge.mk 27 Go.Ground.data, Go.Edge.mk 24 Go.Ground.chain, Go.Edge.mk 24 Go.Ground.guard] (Option.some (24, Bool.true))) (v := ?a29_v) rfl (by kernel_rfl) (by kernel_rfl) (by kernel_rfl) (fun _ _ _ h => h) (Or.inl ⟨by rfl, ?a29_y⟩) (by assumption) ?_
    case a29_y => (intro w hSw; (try dsimp only at hSw); go_simp; (first | done | with_reducible rfl))
    try simp only [Act.put, List.setIfInBounds_toArray, List.set_cons_zero, List.set_cons_succ]
    refine wpAnyH_take (i := 29) (oi := Go.Oper.mk (Option.some 86) (Go.Op.load 24 (Go.Operand.tmp 7)) 24 "law.go:51" #[Go.Edge.mk 28 Go.Ground.guard] (Option.some (28, Bool.false))) (v := ?a30_v) rfl (by kernel_rfl) (by kernel_rfl) (by kernel_rfl) (fun _ _ _ h => h) (Or.inl ⟨by rfl, ?a30_y⟩) (by assumption) ?_
    case a30_y => (intro w hSw; (try dsimp only at hSw); go_simp; (first | done | with_reducible rfl))
    try simp only [Act.put, List.setIfInBounds_toArray, List.set_cons_zero, List.set_cons_succ]
    refine wpAnyH_take (i := 30) (oi := Go.Oper.mk (Option.some 87) (Go.Op.load 24 (Go.Operand.tmp 9)) 24 "law.go:51" #[Go.Edge.mk 28 Go.Ground.guard] (Option.some (28, Bool.false))) (v := ?a31_v) rfl (by kernel_rfl) (by kernel_rfl) (by kernel_rfl) (fun _ _ _ h => h) (Or.inl ⟨by rfl, ?a31_y⟩) (by assumption) ?_
    case a31_y => (intro w hSw; (try dsimp only at hSw); go_simp; (first | done | with_reducible rfl))
    try simp only [Act.put, List.setIfInBounds_toArray, List.set_cons_zero, List.set_cons_succ]
    refine wpAnyH_take (i := 31) (oi := Go.Oper.mk (Option.some 88) (Go.Op.binOp Go.BinOp.eql 24 (Go.Operand.tmp 86) (Go.Operand.tmp 87) 24) 4 "law.go:51" #[Go.Edge.mk 29 Go.Ground.data, Go.Edge.mk 30 Go.Ground.data, Go.Edge.mk 28 Go.Ground.guard] (Option.some (28, Bool.false))) (v := ?a32_v) rfl (by kernel_rfl) (by kernel_rfl) (by kernel_rfl) (fun _ _ _ h => h) (Or.inl ⟨by rfl, ?a32_y⟩) (by assumption) ?_
    case a32_y => (intro w hSw; (try dsimp only at hSw); go_simp; (first | done | with_reducible rfl))
    try simp only [Act.put, List.setIfInBounds_toArray, List.set_cons_zero, List.set_cons_succ]
    refine wpAnyH_take (i := 32) (oi := Go.Oper.mk (Option.some 89) (Go.Op.pick (Go.Operand.tmp 85) (Go.Operand.const (Go.Value.bool Bool.true)) (Go.Operand.tmp 88)) 4 "law.go:51" #[Go.Edge.mk 28 Go.Ground.data, Go.Edge.mk 31 Go.Ground.data, Go.Edge.mk 24 Go.Ground.guard] (Option.some (24, Bool.true))) (v := ?a33_v) rfl (by kernel_rfl) (by kernel_rfl) (by kernel_rfl) (fun _ _ _ h => h) (Or.inl ⟨by rfl, ?a33_y⟩) (by assumption) ?_
    case a33_y => (intro w hSw; (try dsimp only at hSw); go_simp; (first | done | with_reducible rfl))
    try simp only [Act.put, List.setIfInBounds_toArray, List.set_cons_zero, List.set_cons_succ]
    refine wpAnyH_take (i := 33) (oi := Go.Oper.mk (Option.some 90) (Go.Op.pick (Go.Operand.tmp 81) (Go.Operand.tmp 89) (Go.Operand.const (Go.Value.bool Bool.false))) 4 "law.go:51" #[Go.Edge.mk 24 Go.Ground.data, Go.Edge.mk 32 Go.Ground.data] Option.none) (v := ?a34_v) rfl (by kernel_rfl) (by kernel_rfl) (by kernel_rfl) (fun _ _ _ h => h) (Or.inl ⟨by rfl, ?a34_y⟩) (by assumption) ?_
    case a34_y => (intro w hSw; (try dsimp only at hSw); go_simp; (first | done | with_reducible rfl))
    try simp only [Act.put, List.setIfInBounds_toArray, List.set_cons_zero, List.set_cons_succ]
    refine wpAnyH_take (i := 34) (oi := Go.Oper.mk (Option.some 91) (Go.Op.move (Go.Operand.tmp 90)) 4 "law.go:51" #[Go.Edge.mk 33 Go.Ground.data, Go.Edge.mk 28 Go.Ground.chain] Option.none) (v := ?a35_v) rfl (by kernel_rfl) (by kernel_rfl) (by kernel_rfl) (fun _ _ _ h => h) (Or.inl ⟨by rfl, ?a35_y⟩) (by assumption) ?_
    case a35_y => (intro w hSw; (try dsimp only at hSw); go_simp; (first | done | with_reducible rfl))
    try simp only [Act.put, List.setIfInBounds_toArray, List.set_cons_zero, List.set_cons_succ]
    refine wpAnyH_take (i := 35) (oi := Go.Oper.mk (Option.some 92) (Go.Op.load 24 (Go.Operand.tmp 7)) 24 "law.go:51" #[Go.Edge.mk 34 Go.Ground.guard] (Option.some (34, Bool.true))) (v := ?a36_v) rfl (by kernel_rfl) (by kernel_rfl) (by kernel_rfl) (fun _ _ _ h => h) (Or.inl ⟨by rfl, ?a36_y⟩) (by assumption) ?_
    case a36_y => (intro w hSw; (try dsimp only at hSw); go_simp; (first | done | with_reducible rfl))
    try simp only [Act.put, List.setIfInBounds_toArray, List.set_cons_zero, List.set_cons_succ]
    refine wpAnyH_take (i := 36) (oi := Go.Oper.mk (Option.some 93) (Go.Op.load 24 (Go.Operand.tmp 9)) 24 "law.go:51" #[Go.Edge.mk 34 Go.Ground.guard] (Option.some (34, Bool.true))) (v := ?a37_v) rfl (by kernel_rfl) (by kernel_rfl) (by kernel_rfl) (fun _ _ _ h => h) (Or.inl ⟨by rfl, ?a37_y⟩) (by assumption) ?_
    case a37_y => (intro w hSw; (try dsimp only at hSw); go_simp; (first | done | with_reducible rfl))
    try simp only [Act.put, List.setIfInBounds_toArray, List.set_cons_zero, List.set_cons_succ]
    refine wpAnyH_take (i := 39) (oi := Go.Oper.mk (Option.some 96) (Go.Op.load 24 (Go.Operand.tmp 7)) 24 "law.go:51" #[Go.Edge.mk 34 Go.Ground.guard] (Option.some (34, Bool.true))) (v := ?a38_v) rfl (by kernel_rfl) (by kernel_rfl) (by kernel_rfl) (fun _ _ _ h => h) (Or.inl ⟨by rfl, ?a38_y⟩) (by assumption) ?_
    case a38_y => (intro w hSw; (try dsimp only at hSw); go_simp; (first | done | with_reducible rfl))
    try simp only [Act.put, List.setIfInBounds_toArray, List.set_cons_zero, List.set_cons_succ]
    refine wpAnyH_take (i := 40) (oi := Go.Oper.mk (Option.some 97) (Go.Op.load 24 (Go.Operand.tmp 9)) 24 "law.go:51" #[Go.Edge.mk 34 Go.Ground.guard] (Option.some (34, Bool.true))) (v := ?a39_v) rfl (by kernel_rfl) (by kernel_rfl) (by kernel_rfl) (fun _ _ _ h => h) (Or.inl ⟨by rfl, ?a39_y⟩) (by assumption) ?_
    case a39_y => (intro w hSw; (try dsimp only at hSw); go_simp; (first | done | with_reducible rfl))
    try simp only [Act.put, List.setIfInBounds_toArray, List.set_cons_zero, List.set_cons_succ]
    refine wpAnyH_take (i := 41) (oi := Go.Oper.mk (Option.some 98) (Go.Op.binOp Go.BinOp.eql 24 (Go.Operand.tmp 96) (Go.Operand.tmp 97) 24) 4 "law.go:51" #[Go.Edge.mk 39 Go.Ground.data, Go.Edge.mk 40 Go.Ground.data, Go.Edge.mk 34 Go.Ground.guard] (Option.some (34, Bool.true))) (v := ?a40_v) rfl (by kernel_rfl) (by kernel_rfl) (by kernel_rfl) (fun _ _ _ h => h) (Or.inl ⟨by rfl, ?a40_y⟩) (by assumption) ?_
    case a40_y => (intro w hSw; (try dsimp only at hSw); go_simp; (first | done | with_reducible rfl))
    try simp only [Act.put, List.setIfInBounds_toArray, List.set_cons_zero, List.set_cons_succ]
    refine wpAnyH_ready (rs := [37]) (by kernel_rfl) (by simp) ?_
    refine AllReadyH.cons (i := 37) (o := Go.Oper.mk (Option.some 94) (Go.Op.call (Go.Call.mk (Go.Callee.value (Go.Operand.func 11)) #[Go.Operand.tmp 92, Go.Operand.tmp 93] #[24, 24])) 3 "law.go:51" #[Go.Edge.mk 35 Go.Ground.data, Go.Edge.mk 36 Go.Ground.data, Go.Edge.mk 34 Go.Ground.chain, Go.Edge.mk 34 Go.Ground.guard] (Option.some (34, Bool.true))) rfl (fun K hK => ?_) AllReadyH.nil
    go_simp
    (refine (CC.out _).mono ?_; rintro e w7 ⟨rfl, hb⟩; have HC1 : Box _ := ⟨bel_calls (bel_drew (Below.refl _ _)) hb⟩; clear hb)
    go_wp2_with fail
    refine hK.out _ _ ?a41_k37 (fun hHeld => ?_)
    case a41_k37 => (try dsimp only); exact KK.out _ HC1.out
    clear hK K
    try simp only [Act.put, List.setIfInBounds_toArray, List.set_cons_zero, List.set_cons_succ]
    refine wpAnyH_take (i := 38) (oi := Go.Oper.mk (Option.some 95) (Go.Op.binOp Go.BinOp.eql 3 (Go.Operand.tmp 94) (Go.Operand.const (Go.Value.int Go.IntKind.i64 0)) 3) 4 "law.go:51" #[Go.Edge.mk 37 Go.Ground.data, Go.Edge.mk 34 Go.Ground.guard] (Option.some (34, Bool.true))) (v := ?a42_v) rfl (by kernel_rfl) (by kernel_rfl) (by kernel_rfl) (fun _ _ _ h => h) (Or.inl ⟨by rfl, ?a42_y⟩) (by assumption) ?_
    case a42_y => (intro w hSw; (try dsimp only at hSw); go_simp; (first | done | with_reducible rfl))
    try simp only [Act.put, List.setIfInBounds_toArray, List.set_cons_zero, List.set_cons_succ]
    refine wpAnyH_take (i := 42) (oi := Go.Oper.mk (Option.some 99) (Go.Op.binOp Go.BinOp.eql 4 (Go.Operand.tmp 95) (Go.Operand.tmp 98) 4) 4 "law.go:51" #[Go.Edge.mk 38 Go.Ground.data, Go.Edge.mk 41 Go.Ground.data, Go.Edge.mk 34 Go.Ground.guard] (Option.some (34, Bool.true))) (v := ?a43_v) rfl (by kernel_rfl) (by kernel_rfl) (by kernel_rfl) (fun _ _ _ h => h) (Or.inl ⟨by rfl, ?a43_y⟩) (by assumption) ?_
    case a43_y => (intro w hSw; (try dsimp only at hSw); go_simp; (first | done | with_reducible rfl))
    try simp only [Act.put, List.setIfInBounds_toArray, List.set_cons_zero, List.set_cons_succ]
    refine wpAnyH_take (i := 43) (oi := Go.Oper.mk (Option.some 100) (Go.Op.pick (Go.Operand.tmp 91) (Go.Operand.tmp 99) (Go.Operand.const (Go.Value.bool Bool.false))) 4 "law.go:51" #[Go.Edge.mk 34 Go.Ground.data, Go.Edge.mk 42 Go.Ground.data] Option.none) (v := ?a44_v) rfl (by kernel_rfl) (by kernel_rfl) (by kernel_rfl) (fun _ _ _ h => h) (Or.inl ⟨by rfl, ?a44_y⟩) (by assumption) ?_
    case a44_y => (intro w hSw; (try dsimp only at hSw); go_simp; (first | done | with_reducible rfl))
    try simp only [Act.put, List.setIfInBounds_toArray, List.set_cons_zero, List.set_cons_succ]
    refine wpAnyH_take (i := 44) (oi := Go.Oper.mk (Option.some 101) (Go.Op.move (Go.Operand.tmp 100)) 4 "law.go:51" #[Go.Edge.mk 43 Go.Ground.data, Go.Edge.mk 37 Go.Ground.chain] Option.none) (v := ?a45_v) rfl (by kernel_rfl) (by kernel_rfl) (by kernel_rfl) (fun _ _ _ h => h) (Or.inl ⟨by rfl, ?a45_y⟩) (by assumption) ?_
    case a45_y => (intro w hSw; (try dsimp only at hSw); go_simp; (first | done | with_reducible rfl))
    try simp only [Act.put, List.setIfInBounds_toArray, List.set_cons_zero, List.set_cons_succ]
    refine wpAnyH_take (i := 45) (oi := Go.Oper.mk (Option.some 102) (Go.Op.load 24 (Go.Operand.tmp 7)) 24 "law.go:51" #[Go.Edge.mk 44 Go.Ground.guard] (Option.some (44, Bool.true))) (v := ?a46_v) rfl (by kernel_rfl) (by kernel_rfl) (by kernel_rfl) (fun _ _ _ h => h) (Or.inl ⟨by rfl, ?a46_y⟩) (by assumption) ?_
    case a46_y => (intro w hSw; (try dsimp only at hSw); go_simp; (first | done | with_reducible rfl))
    try simp only [Act.put, List.setIfInBounds_toArray, List.set_cons_zero, List.set_cons_succ]
    refine wpAnyH_take (i := 46) (oi := Go.Oper.mk (Option.some 103) (Go.Op.load 24 (Go.Operand.tmp 9)) 24 "law.go:51" #[Go.Edge.mk 44 Go.Ground.guard] (Option.some (44, Bool.true))) (v := ?a47_v) rfl (by kernel_rfl) (by kernel_rfl) (by kernel_rfl) (fun _ _ _ h => h) (Or.inl ⟨by rfl, ?a47_y⟩) (by assumption) ?_
    case a47_y => (intro w hSw; (try dsimp only at hSw); go_simp; (first | done | with_reducible rfl))
    try simp only [Act.put, List.setIfInBounds_toArray, List.set_cons_zero, List.set_cons_succ]
    refine wpAnyH_take (i := 48) (oi := Go.Oper.mk (Option.some 105) (Go.Op.load 24 (Go.Operand.tmp 9)) 24 "law.go:51" #[Go.Edge.mk 44 Go.Ground.guard] (Option.some (44, Bool.true))) (v := ?a48_v) rfl (by kernel_rfl) (by kernel_rfl) (by kernel_rfl) (fun _ _ _ h => h) (Or.inl ⟨by rfl, ?a48_y⟩) (by assumption) ?_
    case a48_y => (intro w hSw; (try dsimp only at hSw); go_simp; (first | done | with_reducible rfl))
    try simp only [Act.put, List.setIfInBounds_toArray, List.set_cons_zero, List.set_cons_succ]
    refine wpAnyH_take (i := 49) (oi := Go.Oper.mk (Option.some 106) (Go.Op.load 24 (Go.Operand.tmp 7)) 24 "law.go:51" #[Go.Edge.mk 44 Go.Ground.guard] (Option.some (44, Bool.true))) (v := ?a49_v) rfl (by kernel_rfl) (by kernel_rfl) (by kernel_rfl) (fun _ _ _ h => h) (Or.inl ⟨by rfl, ?a49_y⟩) (by assumption) ?_
    case a49_y => (intro w hSw; (try dsimp only at hSw); go_simp; (first | done | with_reducible rfl))
    try simp only [Act.put, List.setIfInBounds_toArray, List.set_cons_zero, List.set_cons_succ]
    refine wpAnyH_ready (rs := [47]) (by kernel_rfl) (by simp) ?_
    refine AllReadyH.cons (i := 47) (o := Go.Oper.mk (Option.some 104) (Go.Op.call (Go.Call.mk (Go.Callee.value (Go.Operand.func 11)) #[Go.Operand.tmp 102, Go.Operand.tmp 103] #[24, 24])) 3 "law.go:51" #[Go.Edge.mk 45 Go.Ground.data, Go.Edge.mk 46 Go.Ground.data, Go.Edge.mk 44 Go.Ground.chain, Go.Edge.mk 44 Go.Ground.guard] (Option.some (44, Bool.true))) rfl (fun K hK => ?_) AllReadyH.nil
    go_simp
    (refine (CC.out _).mono ?_; rintro e w8 ⟨rfl, hb⟩; have HC2 : Box _ := ⟨bel_calls HC1.out hb⟩; clear hb)
    go_wp2_with fail
    refine hK.out _ _ ?a50_k47 (fun hHeld => ?_)
    case a50_k47 => (try dsimp only); exact KK.out _ HC2.out
    clear hK K
    try simp only [Act.put, List.setIfInBounds_toArray, List.set_cons_zero, List.set_cons_succ]
    refine wpAnyH_ready (rs := [50]) (by kernel_rfl) (by simp) ?_
    refine AllReadyH.cons (i := 50) (o := Go.Oper.mk (Option.some 107) (Go.Op.call (Go.Call.mk (Go.Callee.value (Go.Operand.func 11)) #[Go.Operand.tmp 105, Go.Operand.tmp 106] #[24, 24])) 3 "law.go:51" #[Go.Edge.mk 48 Go.Ground.data, Go.Edge.mk 49 Go.Ground.data, Go.Edge.mk 47 Go.Ground.chain, Go.Edge.mk 44 Go.Ground.guard] (Option.some (44, Bool.true))) rfl (fun K hK => ?_) AllReadyH.nil
    go_simp
    (refine (CC.out _).mono ?_; rintro e w9 ⟨rfl, hb⟩; have HC3 : Box _ := ⟨bel_calls HC2.out hb⟩; clear hb)
    go_wp2_with fail
    refine hK.out _ _ ?a51_k50 (fun hHeld => ?_)
    case a51_k50 => (try dsimp only); exact KK.out _ HC3.out
    clear hK K
    try simp only [Act.put, List.setIfInBounds_toArray, List.set_cons_zero, List.set_cons_succ]
    refine wpAnyH_take (i := 51) (oi := Go.Oper.mk (Option.some 108) (Go.Op.unOp Go.UnOp.neg 3 (Go.Operand.tmp 107)) 3 "law.go:51" #[Go.Edge.mk 50 Go.Ground.data, Go.Edge.mk 44 Go.Ground.guard] (Option.some (44, Bool.true))) (v := ?a52_v) rfl (by kernel_rfl) (by kernel_rfl) (by kernel_rfl) (fun _ _ _ h => h) (Or.inl ⟨by rfl, ?a52_y⟩) (by assumption) ?_
    case a52_y => (intro w hSw; (try dsimp only at hSw); go_simp; (first | done | with_reducible rfl))
    try simp only [Act.put, List.setIfInBounds_toArray, List.set_cons_zero, List.set_cons_succ]
    refine wpAnyH_take (i := 52) (oi := Go.Oper.mk (Option.some 109) (Go.Op.binOp Go.BinOp.eql 3 (Go.Operand.tmp 104) (Go.Operand.tmp 108) 3) 4 "law.go:51" #[Go.Edge.mk 47 Go.Ground.data, Go.Edge.mk 51 Go.Ground.data, Go.Edge.mk 44 Go.Ground.guard] (Option.some (44, Bool.true))) (v := ?a53_v) rfl (by kernel_rfl) (by kernel_rfl) (by kernel_rfl) (fun _ _ _ h => h) (Or.inl ⟨by rfl, ?a53_y⟩) (by assumption) ?_
    case a53_y => (intro w hSw; (try dsimp only at hSw); go_simp; (first | done | with_reducible rfl))
    try simp only [Act.put, List.setIfInBounds_toArray, List.set_cons_zero, List.set_cons_succ]
    refine wpAnyH_take (i := 53) (oi := Go.Oper.mk (Option.some 110) (Go.Op.pick (Go.Operand.tmp 101) (Go.Operand.tmp 109) (Go.Operand.const (Go.Value.bool Bool.false))) 4 "law.go:51" #[Go.Edge.mk 44 Go.Ground.data, Go.Edge.mk 52 Go.Ground.data] Option.none) (v := ?a54_v) rfl (by kernel_rfl) (by kernel_rfl) (by kernel_rfl) (fun _ _ _ h => h) (Or.inl ⟨by rfl, ?a54_y⟩) (by assumption) ?_
    case a54_y => (intro w hSw; (try dsimp only at hSw); go_simp; (first | done | with_reducible rfl))
    try simp only [Act.put, List.setIfInBounds_toArray, List.set_cons_zero, List.set_cons_succ]
    refine wpAnyH_take (i := 54) (oi := Go.Oper.mk (Option.some 6) (Go.Op.assign (Go.Operand.tmp 110)) 4 "law.go:51" #[Go.Edge.mk 53 Go.Ground.data, Go.Edge.mk 50 Go.Ground.chain, Go.Edge.mk 0 Go.Ground.phase, Go.Edge.mk 1 Go.Ground.phase, Go.Edge.mk 2 Go.Ground.phase, Go.Edge.mk 3 Go.Ground.phase, Go.Edge.mk 4 Go.Ground.phase, Go.Edge.mk 5 Go.Ground.phase, Go.Edge.mk 6 Go.Ground.phase, Go.Edge.mk 7 Go.Ground.phase, Go.Edge.mk 8 Go.Ground.phase, Go.Edge.mk 9 Go.Ground.phase, Go.Edge.mk 10 Go.Ground.phase, Go.Edge.mk 11 Go.Ground.phase, Go.Edge.mk 12 Go.Ground.phase, Go.Edge.mk 13 Go.Ground.phase, Go.Edge.mk 14 Go.Ground.phase, Go.Edge.mk 15 Go.Ground.phase, Go.Edge.mk 16 Go.Ground.phase, Go.Edge.mk 17 Go.Ground.phase, Go.Edge.mk 18 Go.Ground.phase, Go.Edge.mk 19 Go.Ground.phase, Go.Edge.mk 20 Go.Ground.phase, Go.Edge.mk 21 Go.Ground.phase, Go.Edge.mk 22 Go.Ground.phase, Go.Edge.mk 23 Go.Ground.phase, Go.Edge.mk 24 Go.Ground.phase, Go.Edge.mk 25 Go.Ground.phase, Go.Edge.mk 26 Go.Ground.phase, Go.Edge.mk 27 Go.Ground.phase, Go.Edge.mk 28 Go.Ground.phase, Go.Edge.mk 29 Go.Ground.phase, Go.Edge.mk 30 Go.Ground.phase, Go.Edge.mk 31 Go.Ground.phase, Go.Edge.mk 32 Go.Ground.phase, Go.Edge.mk 33 Go.Ground.phase, Go.Edge.mk 34 Go.Ground.phase, Go.Edge.mk 35 Go.Ground.phase, Go.Edge.mk 36 Go.Ground.phase, Go.Edge.mk 37 Go.Ground.phase, Go.Edge.mk 38 Go.Ground.phase, Go.Edge.mk 39 Go.Ground.phase, Go.Edge.mk 40 Go.Ground.phase, Go.Edge.mk 41 Go.Ground.phase, Go.Edge.mk 42 Go.Ground.phase, Go.Edge.mk 43 Go.Ground.phase, Go.Edge.mk 44 Go.Ground.phase, Go.Edge.mk 45 Go.Ground.phase, Go.Edge.mk 46 Go.Ground.phase, Go.Edge.mk 47 Go.Ground.phase, Go.Edge.mk 48 Go.Ground.phase, Go.Edge.mk 49 Go.Ground.phase, Go.Edge.mk 50 Go.Ground.phase, Go.Edge.mk 51 Go.Ground.phase, Go.Edge.mk 52 Go.Ground.phase, Go.Edge.mk 53 Go.Ground.phase] Option.none) (v := ?a55_v) rfl (by kernel_rfl) (by kernel_rfl) (by kernel_rfl) (fun _ _ _ h => h) (Or.inl ⟨by rfl, ?a55_y⟩) (by assumption) ?_
    case a55_y => (intro w hSw; (try dsimp only at hSw); go_simp; (first | done | with_reducible rfl))
    try simp only [Act.put, List.setIfInBounds_toArray, List.set_cons_zero, List.set_cons_succ]
    refine wpAnyH_done (by kernel_rfl) ?_ _
    go_wp2_with fail
    go_ret
    exact ⟨rfl, bel_calls HB5.out HC3.out⟩
  · clear HC
    have e1 : (s.toList != t.toList) = true := by simp only [bne, str_ne hne]; rfl
    have e0 := str_ne hne
    clear hne
    have CC : Box (∀ W, _) := ⟨fun W => compare_calls k S k S W⟩
    rw [cmpM_self k S] at CC
    go_wp2_with fail
    refine wp_region_held_drew (S := (fun w' => w'.cell? ⟨gp, 0, none⟩ = some (.int .i64 k) ∧ w'.cell? ⟨gp, 1, none⟩ = some (.string S) ∧ w'.cell? ⟨gq, 0, none⟩ = some (.int .i64 k) ∧ w'.cell? ⟨gq, 1, none⟩ = some (.string S) ∧ w'.cell? ⟨gr, 0, none⟩ = some (.int .i64 k) ∧ w'.cell? ⟨gr, 1, none⟩ = some (.string S))) (by kernel_rfl) ?bS (fun hHeld => ?_)
    case bS => (try dsimp only); exact KK.out _ (bel_drew (Below.refl _ _))
    refine wpAnyH_take (i := 0) (oi := Go.Oper.mk (Option.some 57) (Go.Op.move (Go.Operand.tmp 8)) 25 "law.go:51" #[] Option.none) (v := ?b1_v) rfl (by kernel_rfl) (by kernel_rfl) (by kernel_rfl) (fun _ _ _ h => h) (Or.inl ⟨by rfl, ?b1_y⟩) (by assumption) ?_
    case b1_y => (intro w hSw; (try dsimp only at hSw); go_simp; (first | done | with_reducible rfl))
    try simp only [Act.put, List.setIfInBounds_toArray, List.set_cons_zero, List.set_cons_succ]
    refine wpAnyH_take (i := 1) (oi := Go.Oper.mk (Option.some 58) (Go.Op.binOp Go.BinOp.eql 25 (Go.Operand.tmp 57) (Go.Operand.const (Go.Value.int Go.IntKind.i64 0)) 25) 4 "law.go:51" #[Go.Edge.mk 0 Go.Ground.data] Option.none) (v := ?b2_v) rfl (by kernel_rfl) (by kernel_rfl) (by kernel_rfl) (fun _ _ _ h => h) (Or.inl ⟨by rfl, ?b2_y⟩) (by assumption) ?_
    case b2_y => (intro w hSw; (try dsimp only at hSw); go_simp; (first | done | with_reducible rfl))
    try simp only [Act.put, List.setIfInBounds_toArray, List.set_cons_zero, List.set_cons_succ]
    refine wpAnyH_take (i := 2) (oi := Go.Oper.mk (Option.some 59) (Go.Op.move (Go.Operand.tmp 58)) 4 "law.go:51" #[Go.Edge.mk 1 Go.Ground.data] Option.none) (v := ?b3_v) rfl (by kernel_rfl) (by kernel_rfl) (by kernel_rfl) (fun _ _ _ h => h) (Or.inl ⟨by rfl, ?b3_y⟩) (by assumption) ?_
    case b3_y => (intro w hSw; (try dsimp only at hSw); go_simp; (first | done | with_reducible rfl))
    try simp only [Act.put, List.setIfInBounds_toArray, List.set_cons_zero, List.set_cons_succ]
    refine wpAnyH_take (i := 3) (oi := Go.Oper.mk (Option.some 60) (Go.Op.move (Go.Operand.tmp 10)) 25 "law.go:51" #[Go.Edge.mk 2 Go.Ground.guard] (Option.some (2, Bool.true))) (v := ?b4_v) rfl (by kernel_rfl) (by kernel_rfl) (by kernel_rfl) (fun _ _ _ h => h) (Or.inl ⟨by rfl, ?b4_y⟩) (by assumption) ?_
    case b4_y => (intro w hSw; (try dsimp only at hSw); go_simp; (first | done | with_reducible rfl))
    try simp only [Act.put, List.setIfInBounds_toArray, List.set_cons_zero, List.set_cons_succ]
    refine wpAnyH_take (i := 4) (oi := Go.Oper.mk (Option.some 61) (Go.Op.binOp Go.BinOp.eql 25 (Go.Operand.tmp 60) (Go.Operand.const (Go.Value.int Go.IntKind.i64 0)) 25) 4 "law.go:51" #[Go.Edge.mk 3 Go.Ground.data, Go.Edge.mk 2 Go.Ground.guard] (Option.some (2, Bool.true))) (v := ?b5_v) rfl (by kernel_rfl) (by kernel_rfl) (by kernel_rfl) (fun _ _ _ h => h) (Or.inl ⟨by rfl, ?b5_y⟩) (by assumption) ?_
    case b5_y => (intro w hSw; (try dsimp only at hSw); go_simp; (first | done | with_reducible rfl))
    try simp only [Act.put, List.setIfInBounds_toArray, List.set_cons_zero, List.set_cons_succ]
    refine wpAnyH_take (i := 5) (oi := Go.Oper.mk (Option.some 62) (Go.Op.pick (Go.Operand.tmp 59) (Go.Operand.tmp 61) (Go.Operand.const (Go.Value.bool Bool.false))) 4 "law.go:51" #[Go.Edge.mk 2 Go.Ground.data, Go.Edge.mk 4 Go.Ground.data] Option.none) (v := ?b6_v) rfl (by kernel_rfl) (by kernel_rfl) (by kernel_rfl) (fun _ _ _ h => h) (Or.inl ⟨by rfl, ?b6_y⟩) (by assumption) ?_
    case b6_y => (intro w hSw; (try dsimp only at hSw); go_simp; (first | done | with_reducible rfl))
    try simp only [Act.put, List.setIfInBounds_toArray, List.set_cons_zero, List.set_cons_succ]
    refine wpAnyH_take (i := 6) (oi := Go.Oper.mk (Option.some 63) (Go.Op.move (Go.Operand.tmp 62)) 4 "law.go:51" #[Go.Edge.mk 5 Go.Ground.data, Go.Edge.mk 2 Go.Ground.chain] Option.none) (v := ?b7_v) rfl (by kernel_rfl) (by kernel_rfl) (by kernel_rfl) (fun _ _ _ h => h) (Or.inl ⟨by rfl, ?b7_y⟩) (by assumption) ?_
    case b7_y => (intro w hSw; (try dsimp only at hSw); go_simp; (first | done | with_reducible rfl))
    try simp only [Act.put, List.setIfInBounds_toArray, List.set_cons_zero, List.set_cons_succ]
    refine wpAnyH_take (i := 7) (oi := Go.Oper.mk (Option.some 64) (Go.Op.move (Go.Operand.tmp 12)) 25 "law.go:51" #[Go.Edge.mk 6 Go.Ground.guard] (Option.some (6, Bool.true))) (v := ?b8_v) rfl (by kernel_rfl) (by kernel_rfl) (by kernel_rfl) (fun _ _ _ h => h) (Or.inl ⟨by rfl, ?b8_y⟩) (by assumption) ?_
    case b8_y => (intro w hSw; (try dsimp only at hSw); go_simp; (first | done | with_reducible rfl))
    try simp only [Act.put, List.setIfInBounds_toArray, List.set_cons_zero, List.set_cons_succ]
    refine wpAnyH_take (i := 8) (oi := Go.Oper.mk (Option.some 65) (Go.Op.binOp Go.BinOp.eql 25 (Go.Operand.tmp 64) (Go.Operand.const (Go.Value.int Go.IntKind.i64 0)) 25) 4 "law.go:51" #[Go.Edge.mk 7 Go.Ground.data, Go.Edge.mk 6 Go.Ground.guard] (Option.some (6, Bool.true))) (v := ?b9_v) rfl (by kernel_rfl) (by kernel_rfl) (by kernel_rfl) (fun _ _ _ h => h) (Or.inl ⟨by rfl, ?b9_y⟩) (by assumption) ?_
    case b9_y => (intro w hSw; (try dsimp only at hSw); go_simp; (first | done | with_reducible rfl))
    try simp only [Act.put, List.setIfInBounds_toArray, List.set_cons_zero, List.set_cons_succ]
    refine wpAnyH_take (i := 9) (oi := Go.Oper.mk (Option.some 66) (Go.Op.pick (Go.Operand.tmp 63) (Go.Operand.tmp 65) (Go.Operand.const (Go.Value.bool Bool.false))) 4 "law.go:51" #[Go.Edge.mk 6 Go.Ground.data, Go.Edge.mk 8 Go.Ground.data] Option.none) (v := ?b10_v) rfl (by kernel_rfl) (by kernel_rfl) (by kernel_rfl) (fun _ _ _ h => h) (Or.inl ⟨by rfl, ?b10_y⟩) (by assumption) ?_
    case b10_y => (intro w hSw; (try dsimp only at hSw); go_simp; (first | done | with_reducible rfl))
    try simp only [Act.put, List.setIfInBounds_toArray, List.set_cons_zero, List.set_cons_succ]
    refine wpAnyH_take (i := 10) (oi := Go.Oper.mk (Option.some 67) (Go.Op.move (Go.Operand.tmp 66)) 4 "law.go:51" #[Go.Edge.mk 9 Go.Ground.data, Go.Edge.mk 6 Go.Ground.chain] Option.none) (v := ?b11_v) rfl (by kernel_rfl) (by kernel_rfl) (by kernel_rfl) (fun _ _ _ h => h) (Or.inl ⟨by rfl, ?b11_y⟩) (by assumption) ?_
    case b11_y => (intro w hSw; (try dsimp only at hSw); go_simp; (first | done | with_reducible rfl))
    try simp only [Act.put, List.setIfInBounds_toArray, List.set_cons_zero, List.set_cons_succ]
    refine wpAnyH_take (i := 11) (oi := Go.Oper.mk (Option.some 68) (Go.Op.move (Go.Operand.tmp 14)) 25 "law.go:51" #[Go.Edge.mk 10 Go.Ground.guard] (Option.some (10, Bool.true))) (v := ?b12_v) rfl (by kernel_rfl) (by kernel_rfl) (by kernel_rfl) (fun _ _ _ h => h) (Or.inl ⟨by rfl, ?b12_y⟩) (by assumption) ?_
    case b12_y => (intro w hSw; (try dsimp only at hSw); go_simp; (first | done | with_reducible rfl))
    try simp only [Act.put, List.setIfInBounds_toArray, List.set_cons_zero, List.set_cons_succ]
    refine wpAnyH_take (i := 12) (oi := Go.Oper.mk (Option.some 69) (Go.Op.binOp Go.BinOp.eql 25 (Go.Operand.tmp 68) (Go.Operand.const (Go.Value.int Go.IntKind.i64 0)) 25) 4 "law.go:51" #[Go.Edge.mk 11 Go.Ground.data, Go.Edge.mk 10 Go.Ground.guard] (Option.some (10, Bool.true))) (v := ?b13_v) rfl (by kernel_rfl) (by kernel_rfl) (by kernel_rfl) (fun _ _ _ h => h) (Or.inl ⟨by rfl, ?b13_y⟩) (by assumption) ?_
    case b13_y => (intro w hSw; (try dsimp only at hSw); go_simp; (first | done | with_reducible rfl))
    try simp only [Act.put, List.setIfInBounds_toArray, List.set_cons_zero, List.set_cons_succ]
    refine wpAnyH_take (i := 13) (oi := Go.Oper.mk (Option.some 70) (Go.Op.pick (Go.Operand.tmp 67) (Go.Operand.tmp 69) (Go.Operand.const (Go.Value.bool Bool.false))) 4 "law.go:51" #[Go.Edge.mk 10 Go.Ground.data, Go.Edge.mk 12 Go.Ground.data] Option.none) (v := ?b14_v) rfl (by kernel_rfl) (by kernel_rfl) (by kernel_rfl) (fun _ _ _ h => h) (Or.inl ⟨by rfl, ?b14_y⟩) (by assumption) ?_
    case b14_y => (intro w hSw; (try dsimp only at hSw); go_simp; (first | done | with_reducible rfl))
    try simp only [Act.put, List.setIfInBounds_toArray, List.set_cons_zero, List.set_cons_succ]
    refine wpAnyH_take (i := 14) (oi := Go.Oper.mk (Option.some 71) (Go.Op.move (Go.Operand.tmp 70)) 4 "law.go:51" #[Go.Edge.mk 13 Go.Ground.data, Go.Edge.mk 10 Go.Ground.chain] Option.none) (v := ?b15_v) rfl (by kernel_rfl) (by kernel_rfl) (by kernel_rfl) (fun _ _ _ h => h) (Or.inl ⟨by rfl, ?b15_y⟩) (by assumption) ?_
    case b15_y => (intro w hSw; (try dsimp only at hSw); go_simp; (first | done | with_reducible rfl))
    try simp only [Act.put, List.setIfInBounds_toArray, List.set_cons_zero, List.set_cons_succ]
    refine wpAnyH_take (i := 15) (oi := Go.Oper.mk (Option.some 72) (Go.Op.load 24 (Go.Operand.tmp 13)) 24 "law.go:51" #[Go.Edge.mk 14 Go.Ground.guard] (Option.some (14, Bool.true))) (v := ?b16_v) rfl (by kernel_rfl) (by kernel_rfl) (by kernel_rfl) (fun _ _ _ h => h) (Or.inl ⟨by rfl, ?b16_y⟩) (by assumption) ?_
    case b16_y => (intro w hSw; (try dsimp only at hSw); go_simp; (first | done | with_reducible rfl))
    try simp only [Act.put, List.setIfInBounds_toArray, List.set_cons_zero, List.set_cons_succ]
    refine wpAnyH_take (i := 16) (oi := Go.Oper.mk (Option.some 73) (Go.Op.load 24 (Go.Operand.tmp 7)) 24 "law.go:51" #[Go.Edge.mk 14 Go.Ground.guard] (Option.some (14, Bool.true))) (v := ?b17_v) rfl (by kernel_rfl) (by kernel_rfl) (by kernel_rfl) (fun _ _ _ h => h) (Or.inl ⟨by rfl, ?b17_y⟩) (by assumption) ?_
    case b17_y => (intro w hSw; (try dsimp only at hSw); go_simp; (first | done | with_reducible rfl))
    try simp only [Act.put, List.setIfInBounds_toArray, List.set_cons_zero, List.set_cons_succ]
    refine wpAnyH_take (i := 17) (oi := Go.Oper.mk (Option.some 74) (Go.Op.binOp Go.BinOp.eql 24 (Go.Operand.tmp 72) (Go.Operand.tmp 73) 24) 4 "law.go:51" #[Go.Edge.mk 15 Go.Ground.data, Go.Edge.mk 16 Go.Ground.data, Go.Edge.mk 14 Go.Ground.guard] (Option.some (14, Bool.true))) (v := ?b18_v) rfl (by kernel_rfl) (by kernel_rfl) (by kernel_rfl) (fun _ _ _ h => h) (Or.inl ⟨by rfl, ?b18_y⟩) (by assumption) ?_
    case b18_y => (intro w hSw; (try dsimp only at hSw); go_simp; (first | done | with_reducible rfl))
    try simp only [Act.put, List.setIfInBounds_toArray, List.set_cons_zero, List.set_cons_succ]
    refine wpAnyH_take (i := 18) (oi := Go.Oper.mk (Option.some 75) (Go.Op.pick (Go.Operand.tmp 71) (Go.Operand.tmp 74) (Go.Operand.const (Go.Value.bool Bool.false))) 4 "law.go:51" #[Go.Edge.mk 14 Go.Ground.data, Go.Edge.mk 17 Go.Ground.data] Option.none) (v := ?b19_v) rfl (by kernel_rfl) (by kernel_rfl) (by kernel_rfl) (fun _ _ _ h => h) (Or.inl ⟨by rfl, ?b19_y⟩) (by assumption) ?_
    case b19_y => (intro w hSw; (try dsimp only at hSw); go_simp; (first | done | with_reducible rfl))
    try simp only [Act.put, List.setIfInBounds_toArray, List.set_cons_zero, List.set_cons_succ]
    refine wpAnyH_take (i := 19) (oi := Go.Oper.mk (Option.some 76) (Go.Op.move (Go.Operand.tmp 75)) 4 "law.go:51" #[Go.Edge.mk 18 Go.Ground.data, Go.Edge.mk 14 Go.Ground.chain] Option.none) (v := ?b20_v) rfl (by kernel_rfl) (by kernel_rfl) (by kernel_rfl) (fun _ _ _ h => h) (Or.inl ⟨by rfl, ?b20_y⟩) (by assumption) ?_
    case b20_y => (intro w hSw; (try dsimp only at hSw); go_simp; (first | done | with_reducible rfl))
    try simp only [Act.put, List.setIfInBounds_toArray, List.set_cons_zero, List.set_cons_succ]
    refine wpAnyH_take (i := 20) (oi := Go.Oper.mk (Option.some 77) (Go.Op.move (Go.Operand.tmp 11)) 9 "law.go:51" #[Go.Edge.mk 19 Go.Ground.guard] (Option.some (19, Bool.true))) (v := ?b21_v) rfl (by kernel_rfl) (by kernel_rfl) (by kernel_rfl) (fun _ _ _ h => h) (Or.inl ⟨by rfl, ?b21_y⟩) (by assumption) ?_
    case b21_y => (intro w hSw; (try dsimp only at hSw); go_simp; (first | done | with_reducible rfl))
    try simp only [Act.put, List.setIfInBounds_toArray, List.set_cons_zero, List.set_cons_succ]
    refine wpAnyH_take (i := 21) (oi := Go.Oper.mk (Option.some 78) (Go.Op.call (Go.Call.mk (Go.Callee.builtin Go.Builtin.len) #[Go.Operand.tmp 77] #[9])) 3 "law.go:51" #[Go.Edge.mk 20 Go.Ground.data, Go.Edge.mk 19 Go.Ground.guard] (Option.some (19, Bool.true))) (v := ?b22_v) rfl (by kernel_rfl) (by kernel_rfl) (by kernel_rfl) (fun _ _ _ h => h) (Or.inl ⟨by rfl, ?b22_y⟩) (by assumption) ?_
    case b22_y => (intro w hSw; (try dsimp only at hSw); go_simp; (first | done | with_reducible rfl))
    try simp only [Act.put, List.setIfInBounds_toArray, List.set_cons_zero, List.set_cons_succ]
    refine wpAnyH_take (i := 22) (oi := Go.Oper.mk (Option.some 79) (Go.Op.binOp Go.BinOp.eql 3 (Go.Operand.tmp 78) (Go.Operand.const (Go.Value.int Go.IntKind.i64 33)) 3) 4 "law.go:51" #[Go.Edge.mk 21 Go.Ground.data, Go.Edge.mk 19 Go.Ground.guard] (Option.some (19, Bool.true))) (v := ?b23_v) rfl (by kernel_rfl) (by kernel_rfl) (by kernel_rfl) (fun _ _ _ h => h) (Or.inl ⟨by rfl, ?b23_y⟩) (by assumption) ?_
    case b23_y => (intro w hSw; (try dsimp only at hSw); go_simp; (first | done | with_reducible rfl))
    try simp only [Act.put, List.setIfInBounds_toArray, List.set_cons_zero, List.set_cons_succ]
    refine wpAnyH_take (i := 23) (oi := Go.Oper.mk (Option.some 80) (Go.Op.pick (Go.Operand.tmp 76) (Go.Operand.tmp 79) (Go.Operand.const (Go.Value.bool Bool.false))) 4 "law.go:51" #[Go.Edge.mk 19 Go.Ground.data, Go.Edge.mk 22 Go.Ground.data] Option.none) (v := ?b24_v) rfl (by kernel_rfl) (by kernel_rfl) (by kernel_rfl) (fun _ _ _ h => h) (Or.inl ⟨by rfl, ?b24_y⟩) (by assumption) ?_
    case b24_y => (intro w hSw; (try dsimp only at hSw); go_simp; (first | done | with_reducible rfl))
    try simp only [Act.put, List.setIfInBounds_toArray, List.set_cons_zero, List.set_cons_succ]
    refine wpAnyH_take (i := 24) (oi := Go.Oper.mk (Option.some 81) (Go.Op.move (Go.Operand.tmp 80)) 4 "law.go:51" #[Go.Edge.mk 23 Go.Ground.data, Go.Edge.mk 19 Go.Ground.chain] Option.none) (v := ?b25_v) rfl (by kernel_rfl) (by kernel_rfl) (by kernel_rfl) (fun _ _ _ h => h) (Or.inl ⟨by rfl, ?b25_y⟩) (by assumption) ?_
    case b25_y => (intro w hSw; (try dsimp only at hSw); go_simp; (first | done | with_reducible rfl))
    try simp only [Act.put, List.setIfInBounds_toArray, List.set_cons_zero, List.set_cons_succ]
    refine wpAnyH_take (i := 25) (oi := Go.Oper.mk (Option.some 82) (Go.Op.move (Go.Operand.tmp 1)) 9 "law.go:51" #[Go.Edge.mk 24 Go.Ground.guard] (Option.some (24, Bool.true))) (v := ?b26_v) rfl (by kernel_rfl) (by kernel_rfl) (by kernel_rfl) (fun _ _ _ h => h) (Or.inl ⟨by rfl, ?b26_y⟩) (by assumption) ?_
    case b26_y => (intro w hSw; (try dsimp only at hSw); go_simp; (first | done | with_reducible rfl))
    try simp only [Act.put, List.setIfInBounds_toArray, List.set_cons_zero, List.set_cons_succ]
    refine wpAnyH_take (i := 26) (oi := Go.Oper.mk (Option.some 83) (Go.Op.move (Go.Operand.tmp 2)) 9 "law.go:51" #[Go.Edge.mk 24 Go.Ground.guard] (Option.some (24, Bool.true))) (v := ?b27_v) rfl (by kernel_rfl) (by kernel_rfl) (by kernel_rfl) (fun _ _ _ h => h) (Or.inl ⟨by rfl, ?b27_y⟩) (by assumption) ?_
    case b27_y => (intro w hSw; (try dsimp only at hSw); go_simp; (first | done | with_reducible rfl))
    try simp only [Act.put, List.setIfInBounds_toArray, List.set_cons_zero, List.set_cons_succ]
    refine wpAnyH_take (i := 27) (oi := Go.Oper.mk (Option.some 84) (Go.Op.binOp Go.BinOp.neq 9 (Go.Operand.tmp 82) (Go.Operand.tmp 83) 9) 4 "law.go:51" #[Go.Edge.mk 25 Go.Ground.data, Go.Edge.mk 26 Go.Ground.data, Go.Edge.mk 24 Go.Ground.guard] (Option.some (24, Bool.true))) (v := ?b28_v) rfl (by kernel_rfl) (by kernel_rfl) (by kernel_rfl) (fun _ _ _ h => h) (Or.inl ⟨by rfl, ?b28_y⟩) (by assumption) ?_
    case b28_y => (intro w hSw; (try dsimp only at hSw); go_simp; (first | done | with_reducible rfl))
    try simp only [Act.put, List.setIfInBounds_toArray, List.set_cons_zero, List.set_cons_succ]
    refine wpAnyH_take (i := 28) (oi := Go.Oper.mk (Option.some 85) (Go.Op.move (Go.Operand.tmp 84)) 4 "law.go:51" #[Go.Edge.mk 27 Go.Ground.data, Go.Edge.mk 24 Go.Ground.chain, Go.Edge.mk 24 Go.Ground.guard] (Option.some (24, Bool.true))) (v := ?b29_v) rfl (by kernel_rfl) (by kernel_rfl) (by kernel_rfl) (fun _ _ _ h => h) (Or.inl ⟨by rfl, ?b29_y⟩) (by assumption) ?_
    case b29_y => (intro w hSw; (try dsimp only at hSw); go_simp; (first | done | with_reducible rfl))
    try simp only [Act.put, List.setIfInBounds_toArray, List.set_cons_zero, List.set_cons_succ]
    refine wpAnyH_take (i := 29) (oi := Go.Oper.mk (Option.some 86) (Go.Op.load 24 (Go.Operand.tmp 7)) 24 "law.go:51" #[Go.Edge.mk 28 Go.Ground.guard] (Option.some (28, Bool.false))) (v := undef) rfl (by kernel_rfl) (by kernel_rfl) (by kernel_rfl) (fun _ _ _ h => h) (Or.inr ⟨by rfl, rfl⟩) (by assumption) ?_
    try simp only [Act.put, List.setIfInBounds_toArray, List.set_cons_zero, List.set_cons_succ]
    refine wpAnyH_take (i := 30) (oi := Go.Oper.mk (Option.some 87) (Go.Op.load 24 (Go.Operand.tmp 9)) 24 "law.go:51" #[Go.Edge.mk 28 Go.Ground.guard] (Option.some (28, Bool.false))) (v := undef) rfl (by kernel_rfl) (by kernel_rfl) (by kernel_rfl) (fun _ _ _ h => h) (Or.inr ⟨by rfl, rfl⟩) (by assumption) ?_
    try simp only [Act.put, List.setIfInBounds_toArray, List.set_cons_zero, List.set_cons_succ]
    refine wpAnyH_take (i := 31) (oi := Go.Oper.mk (Option.some 88) (Go.Op.binOp Go.BinOp.eql 24 (Go.Operand.tmp 86) (Go.Operand.tmp 87) 24) 4 "law.go:51" #[Go.Edge.mk 29 Go.Ground.data, Go.Edge.mk 30 Go.Ground.data, Go.Edge.mk 28 Go.Ground.guard] (Option.some (28, Bool.false))) (v := undef) rfl (by kernel_rfl) (by kernel_rfl) (by kernel_rfl) (fun _ _ _ h => h) (Or.inr ⟨by rfl, rfl⟩) (by assumption) ?_
    try simp only [Act.put, List.setIfInBounds_toArray, List.set_cons_zero, List.set_cons_succ]
    refine wpAnyH_take (i := 32) (oi := Go.Oper.mk (Option.some 89) (Go.Op.pick (Go.Operand.tmp 85) (Go.Operand.const (Go.Value.bool Bool.true)) (Go.Operand.tmp 88)) 4 "law.go:51" #[Go.Edge.mk 28 Go.Ground.data, Go.Edge.mk 31 Go.Ground.data, Go.Edge.mk 24 Go.Ground.guard] (Option.some (24, Bool.true))) (v := ?b33_v) rfl (by kernel_rfl) (by kernel_rfl) (by kernel_rfl) (fun _ _ _ h => h) (Or.inl ⟨by rfl, ?b33_y⟩) (by assumption) ?_
    case b33_y => (intro w hSw; (try dsimp only at hSw); go_simp; (first | done | with_reducible rfl))
    try simp only [Act.put, List.setIfInBounds_toArray, List.set_cons_zero, List.set_cons_succ]
    refine wpAnyH_take (i := 33) (oi := Go.Oper.mk (Option.some 90) (Go.Op.pick (Go.Operand.tmp 81) (Go.Operand.tmp 89) (Go.Operand.const (Go.Value.bool Bool.false))) 4 "law.go:51" #[Go.Edge.mk 24 Go.Ground.data, Go.Edge.mk 32 Go.Ground.data] Option.none) (v := ?b34_v) rfl (by kernel_rfl) (by kernel_rfl) (by kernel_rfl) (fun _ _ _ h => h) (Or.inl ⟨by rfl, ?b34_y⟩) (by assumption) ?_
    case b34_y => (intro w hSw; (try dsimp only at hSw); go_simp; (first | done | with_reducible rfl))
    try simp only [Act.put, List.setIfInBounds_toArray, List.set_cons_zero, List.set_cons_succ]
    refine wpAnyH_take (i := 34) (oi := Go.Oper.mk (Option.some 91) (Go.Op.move (Go.Operand.tmp 90)) 4 "law.go:51" #[Go.Edge.mk 33 Go.Ground.data, Go.Edge.mk 28 Go.Ground.chain] Option.none) (v := ?b35_v) rfl (by kernel_rfl) (by kernel_rfl) (by kernel_rfl) (fun _ _ _ h => h) (Or.inl ⟨by rfl, ?b35_y⟩) (by assumption) ?_
    case b35_y => (intro w hSw; (try dsimp only at hSw); go_simp; (first | done | with_reducible rfl))
    try simp only [Act.put, List.setIfInBounds_toArray, List.set_cons_zero, List.set_cons_succ]
    refine wpAnyH_take (i := 35) (oi := Go.Oper.mk (Option.some 92) (Go.Op.load 24 (Go.Operand.tmp 7)) 24 "law.go:51" #[Go.Edge.mk 34 Go.Ground.guard] (Option.some (34, Bool.true))) (v := ?b36_v) rfl (by kernel_rfl) (by kernel_rfl) (by kernel_rfl) (fun _ _ _ h => h) (Or.inl ⟨by rfl, ?b36_y⟩) (by assumption) ?_
    case b36_y => (intro w hSw; (try dsimp only at hSw); go_simp; (first | done | with_reducible rfl))
    try simp only [Act.put, List.setIfInBounds_toArray, List.set_cons_zero, List.set_cons_succ]
    refine wpAnyH_take (i := 36) (oi := Go.Oper.mk (Option.some 93) (Go.Op.load 24 (Go.Operand.tmp 9)) 24 "law.go:51" #[Go.Edge.mk 34 Go.Ground.guard] (Option.some (34, Bool.true))) (v := ?b37_v) rfl (by kernel_rfl) (by kernel_rfl) (by kernel_rfl) (fun _ _ _ h => h) (Or.inl ⟨by rfl, ?b37_y⟩) (by assumption) ?_
    case b37_y => (intro w hSw; (try dsimp only at hSw); go_simp; (first | done | with_reducible rfl))
    try simp only [Act.put, List.setIfInBounds_toArray, List.set_cons_zero, List.set_cons_succ]
    refine wpAnyH_take (i := 39) (oi := Go.Oper.mk (Option.some 96) (Go.Op.load 24 (Go.Operand.tmp 7)) 24 "law.go:51" #[Go.Edge.mk 34 Go.Ground.guard] (Option.some (34, Bool.true))) (v := ?b38_v) rfl (by kernel_rfl) (by kernel_rfl) (by kernel_rfl) (fun _ _ _ h => h) (Or.inl ⟨by rfl, ?b38_y⟩) (by assumption) ?_
    case b38_y => (intro w hSw; (try dsimp only at hSw); go_simp; (first | done | with_reducible rfl))
    try simp only [Act.put, List.setIfInBounds_toArray, List.set_cons_zero, List.set_cons_succ]
    refine wpAnyH_take (i := 40) (oi := Go.Oper.mk (Option.some 97) (Go.Op.load 24 (Go.Operand.tmp 9)) 24 "law.go:51" #[Go.Edge.mk 34 Go.Ground.guard] (Option.some (34, Bool.true))) (v := ?b39_v) rfl (by kernel_rfl) (by kernel_rfl) (by kernel_rfl) (fun _ _ _ h => h) (Or.inl ⟨by rfl, ?b39_y⟩) (by assumption) ?_
    case b39_y => (intro w hSw; (try dsimp only at hSw); go_simp; (first | done | with_reducible rfl))
    try simp only [Act.put, List.setIfInBounds_toArray, List.set_cons_zero, List.set_cons_succ]
    refine wpAnyH_take (i := 41) (oi := Go.Oper.mk (Option.some 98) (Go.Op.binOp Go.BinOp.eql 24 (Go.Operand.tmp 96) (Go.Operand.tmp 97) 24) 4 "law.go:51" #[Go.Edge.mk 39 Go.Ground.data, Go.Edge.mk 40 Go.Ground.data, Go.Edge.mk 34 Go.Ground.guard] (Option.some (34, Bool.true))) (v := ?b40_v) rfl (by kernel_rfl) (by kernel_rfl) (by kernel_rfl) (fun _ _ _ h => h) (Or.inl ⟨by rfl, ?b40_y⟩) (by assumption) ?_
    case b40_y => (intro w hSw; (try dsimp only at hSw); go_simp; (first | done | with_reducible rfl))
    try simp only [Act.put, List.setIfInBounds_toArray, List.set_cons_zero, List.set_cons_succ]
    refine wpAnyH_ready (rs := [37]) (by kernel_rfl) (by simp) ?_
    refine AllReadyH.cons (i := 37) (o := Go.Oper.mk (Option.some 94) (Go.Op.call (Go.Call.mk (Go.Callee.value (Go.Operand.func 11)) #[Go.Operand.tmp 92, Go.Operand.tmp 93] #[24, 24])) 3 "law.go:51" #[Go.Edge.mk 35 Go.Ground.data, Go.Edge.mk 36 Go.Ground.data, Go.Edge.mk 34 Go.Ground.chain, Go.Edge.mk 34 Go.Ground.guard] (Option.some (34, Bool.true))) rfl (fun K hK => ?_) AllReadyH.nil
    go_simp
    (refine (CC.out _).mono ?_; rintro e w7 ⟨rfl, hb⟩; have HC1 : Box _ := ⟨bel_calls (bel_drew (Below.refl _ _)) hb⟩; clear hb)
    go_wp2_with fail
    refine hK.out _ _ ?b41_k37 (fun hHeld => ?_)
    case b41_k37 => (try dsimp only); exact KK.out _ HC1.out
    clear hK K
    try simp only [Act.put, List.setIfInBounds_toArray, List.set_cons_zero, List.set_cons_succ]
    refine wpAnyH_take (i := 38) (oi := Go.Oper.mk (Option.some 95) (Go.Op.binOp Go.BinOp.eql 3 (Go.Operand.tmp 94) (Go.Operand.const (Go.Value.int Go.IntKind.i64 0)) 3) 4 "law.go:51" #[Go.Edge.mk 37 Go.Ground.data, Go.Edge.mk 34 Go.Ground.guard] (Option.some (34, Bool.true))) (v := ?b42_v) rfl (by kernel_rfl) (by kernel_rfl) (by kernel_rfl) (fun _ _ _ h => h) (Or.inl ⟨by rfl, ?b42_y⟩) (by assumption) ?_
    case b42_y => (intro w hSw; (try dsimp only at hSw); go_simp; (first | done | with_reducible rfl))
    try simp only [Act.put, List.setIfInBounds_toArray, List.set_cons_zero, List.set_cons_succ]
    refine wpAnyH_take (i := 42) (oi := Go.Oper.mk (Option.some 99) (Go.Op.binOp Go.BinOp.eql 4 (Go.Operand.tmp 95) (Go.Operand.tmp 98) 4) 4 "law.go:51" #[Go.Edge.mk 38 Go.Ground.data, Go.Edge.mk 41 Go.Ground.data, Go.Edge.mk 34 Go.Ground.guard] (Option.some (34, Bool.true))) (v := ?b43_v) rfl (by kernel_rfl) (by kernel_rfl) (by kernel_rfl) (fun _ _ _ h => h) (Or.inl ⟨by rfl, ?b43_y⟩) (by assumption) ?_
    case b43_y => (intro w hSw; (try dsimp only at hSw); go_simp; (first | done | with_reducible rfl))
    try simp only [Act.put, List.setIfInBounds_toArray, List.set_cons_zero, List.set_cons_succ]
    refine wpAnyH_take (i := 43) (oi := Go.Oper.mk (Option.some 100) (Go.Op.pick (Go.Operand.tmp 91) (Go.Operand.tmp 99) (Go.Operand.const (Go.Value.bool Bool.false))) 4 "law.go:51" #[Go.Edge.mk 34 Go.Ground.data, Go.Edge.mk 42 Go.Ground.data] Option.none) (v := ?b44_v) rfl (by kernel_rfl) (by kernel_rfl) (by kernel_rfl) (fun _ _ _ h => h) (Or.inl ⟨by rfl, ?b44_y⟩) (by assumption) ?_
    case b44_y => (intro w hSw; (try dsimp only at hSw); go_simp; (first | done | with_reducible rfl))
    try simp only [Act.put, List.setIfInBounds_toArray, List.set_cons_zero, List.set_cons_succ]
    refine wpAnyH_take (i := 44) (oi := Go.Oper.mk (Option.some 101) (Go.Op.move (Go.Operand.tmp 100)) 4 "law.go:51" #[Go.Edge.mk 43 Go.Ground.data, Go.Edge.mk 37 Go.Ground.chain] Option.none) (v := ?b45_v) rfl (by kernel_rfl) (by kernel_rfl) (by kernel_rfl) (fun _ _ _ h => h) (Or.inl ⟨by rfl, ?b45_y⟩) (by assumption) ?_
    case b45_y => (intro w hSw; (try dsimp only at hSw); go_simp; (first | done | with_reducible rfl))
    try simp only [Act.put, List.setIfInBounds_toArray, List.set_cons_zero, List.set_cons_succ]
    refine wpAnyH_take (i := 45) (oi := Go.Oper.mk (Option.some 102) (Go.Op.load 24 (Go.Operand.tmp 7)) 24 "law.go:51" #[Go.Edge.mk 44 Go.Ground.guard] (Option.some (44, Bool.true))) (v := ?b46_v) rfl (by kernel_rfl) (by kernel_rfl) (by kernel_rfl) (fun _ _ _ h => h) (Or.inl ⟨by rfl, ?b46_y⟩) (by assumption) ?_
    case b46_y => (intro w hSw; (try dsimp only at hSw); go_simp; (first | done | with_reducible rfl))
    try simp only [Act.put, List.setIfInBounds_toArray, List.set_cons_zero, List.set_cons_succ]
    refine wpAnyH_take (i := 46) (oi := Go.Oper.mk (Option.some 103) (Go.Op.load 24 (Go.Operand.tmp 9)) 24 "law.go:51" #[Go.Edge.mk 44 Go.Ground.guard] (Option.some (44, Bool.true))) (v := ?b47_v) rfl (by kernel_rfl) (by kernel_rfl) (by kernel_rfl) (fun _ _ _ h => h) (Or.inl ⟨by rfl, ?b47_y⟩) (by assumption) ?_
    case b47_y => (intro w hSw; (try dsimp only at hSw); go_simp; (first | done | with_reducible rfl))
    try simp only [Act.put, List.setIfInBounds_toArray, List.set_cons_zero, List.set_cons_succ]
    refine wpAnyH_take (i := 48) (oi := Go.Oper.mk (Option.some 105) (Go.Op.load 24 (Go.Operand.tmp 9)) 24 "law.go:51" #[Go.Edge.mk 44 Go.Ground.guard] (Option.some (44, Bool.true))) (v := ?b48_v) rfl (by kernel_rfl) (by kernel_rfl) (by kernel_rfl) (fun _ _ _ h => h) (Or.inl ⟨by rfl, ?b48_y⟩) (by assumption) ?_
    case b48_y => (intro w hSw; (try dsimp only at hSw); go_simp; (first | done | with_reducible rfl))
    try simp only [Act.put, List.setIfInBounds_toArray, List.set_cons_zero, List.set_cons_succ]
    refine wpAnyH_take (i := 49) (oi := Go.Oper.mk (Option.some 106) (Go.Op.load 24 (Go.Operand.tmp 7)) 24 "law.go:51" #[Go.Edge.mk 44 Go.Ground.guard] (Option.some (44, Bool.true))) (v := ?b49_v) rfl (by kernel_rfl) (by kernel_rfl) (by kernel_rfl) (fun _ _ _ h => h) (Or.inl ⟨by rfl, ?b49_y⟩) (by assumption) ?_
    case b49_y => (intro w hSw; (try dsimp only at hSw); go_simp; (first | done | with_reducible rfl))
    try simp only [Act.put, List.setIfInBounds_toArray, List.set_cons_zero, List.set_cons_succ]
    refine wpAnyH_ready (rs := [47]) (by kernel_rfl) (by simp) ?_
    refine AllReadyH.cons (i := 47) (o := Go.Oper.mk (Option.some 104) (Go.Op.call (Go.Call.mk (Go.Callee.value (Go.Operand.func 11)) #[Go.Operand.tmp 102, Go.Operand.tmp 103] #[24, 24])) 3 "law.go:51" #[Go.Edge.mk 45 Go.Ground.data, Go.Edge.mk 46 Go.Ground.data, Go.Edge.mk 44 Go.Ground.chain, Go.Edge.mk 44 Go.Ground.guard] (Option.some (44, Bool.true))) rfl (fun K hK => ?_) AllReadyH.nil
    go_simp
    (refine (CC.out _).mono ?_; rintro e w8 ⟨rfl, hb⟩; have HC2 : Box _ := ⟨bel_calls HC1.out hb⟩; clear hb)
    go_wp2_with fail
    refine hK.out _ _ ?b50_k47 (fun hHeld => ?_)
    case b50_k47 => (try dsimp only); exact KK.out _ HC2.out
    clear hK K
    try simp only [Act.put, List.setIfInBounds_toArray, List.set_cons_zero, List.set_cons_succ]
    refine wpAnyH_ready (rs := [50]) (by kernel_rfl) (by simp) ?_
    refine AllReadyH.cons (i := 50) (o := Go.Oper.mk (Option.some 107) (Go.Op.call (Go.Call.mk (Go.Callee.value (Go.Operand.func 11)) #[Go.Operand.tmp 105, Go.Operand.tmp 106] #[24, 24])) 3 "law.go:51" #[Go.Edge.mk 48 Go.Ground.data, Go.Edge.mk 49 Go.Ground.data, Go.Edge.mk 47 Go.Ground.chain, Go.Edge.mk 44 Go.Ground.guard] (Option.some (44, Bool.true))) rfl (fun K hK => ?_) AllReadyH.nil
    go_simp
    (refine (CC.out _).mono ?_; rintro e w9 ⟨rfl, hb⟩; have HC3 : Box _ := ⟨bel_calls HC2.out hb⟩; clear hb)
    go_wp2_with fail
    refine hK.out _ _ ?b51_k50 (fun hHeld => ?_)
    case b51_k50 => (try dsimp only); exact KK.out _ HC3.out
    clear hK K
    try simp only [Act.put, List.setIfInBounds_toArray, List.set_cons_zero, List.set_cons_succ]
    refine wpAnyH_take (i := 51) (oi := Go.Oper.mk (Option.some 108) (Go.Op.unOp Go.UnOp.neg 3 (Go.Operand.tmp 107)) 3 "law.go:51" #[Go.Edge.mk 50 Go.Ground.data, Go.Edge.mk 44 Go.Ground.guard] (Option.some (44, Bool.true))) (v := ?b52_v) rfl (by kernel_rfl) (by kernel_rfl) (by kernel_rfl) (fun _ _ _ h => h) (Or.inl ⟨by rfl, ?b52_y⟩) (by assumption) ?_
    case b52_y => (intro w hSw; (try dsimp only at hSw); go_simp; (first | done | with_reducible rfl))
    try simp only [Act.put, List.setIfInBounds_toArray, List.set_cons_zero, List.set_cons_succ]
    refine wpAnyH_take (i := 52) (oi := Go.Oper.mk (Option.some 109) (Go.Op.binOp Go.BinOp.eql 3 (Go.Operand.tmp 104) (Go.Operand.tmp 108) 3) 4 "law.go:51" #[Go.Edge.mk 47 Go.Ground.data, Go.Edge.mk 51 Go.Ground.data, Go.Edge.mk 44 Go.Ground.guard] (Option.some (44, Bool.true))) (v := ?b53_v) rfl (by kernel_rfl) (by kernel_rfl) (by kernel_rfl) (fun _ _ _ h => h) (Or.inl ⟨by rfl, ?b53_y⟩) (by assumption) ?_
    case b53_y => (intro w hSw; (try dsimp only at hSw); go_simp; (first | done | with_reducible rfl))
    try simp only [Act.put, List.setIfInBounds_toArray, List.set_cons_zero, List.set_cons_succ]
    refine wpAnyH_take (i := 53) (oi := Go.Oper.mk (Option.some 110) (Go.Op.pick (Go.Operand.tmp 101) (Go.Operand.tmp 109) (Go.Operand.const (Go.Value.bool Bool.false))) 4 "law.go:51" #[Go.Edge.mk 44 Go.Ground.data, Go.Edge.mk 52 Go.Ground.data] Option.none) (v := ?b54_v) rfl (by kernel_rfl) (by kernel_rfl) (by kernel_rfl) (fun _ _ _ h => h) (Or.inl ⟨by rfl, ?b54_y⟩) (by assumption) ?_
    case b54_y => (intro w hSw; (try dsimp only at hSw); go_simp; (first | done | with_reducible rfl))
    try simp only [Act.put, List.setIfInBounds_toArray, List.set_cons_zero, List.set_cons_succ]
    refine wpAnyH_take (i := 54) (oi := Go.Oper.mk (Option.some 6) (Go.Op.assign (Go.Operand.tmp 110)) 4 "law.go:51" #[Go.Edge.mk 53 Go.Ground.data, Go.Edge.mk 50 Go.Ground.chain, Go.Edge.mk 0 Go.Ground.phase, Go.Edge.mk 1 Go.Ground.phase, Go.Edge.mk 2 Go.Ground.phase, Go.Edge.mk 3 Go.Ground.phase, Go.Edge.mk 4 Go.Ground.phase, Go.Edge.mk 5 Go.Ground.phase, Go.Edge.mk 6 Go.Ground.phase, Go.Edge.mk 7 Go.Ground.phase, Go.Edge.mk 8 Go.Ground.phase, Go.Edge.mk 9 Go.Ground.phase, Go.Edge.mk 10 Go.Ground.phase, Go.Edge.mk 11 Go.Ground.phase, Go.Edge.mk 12 Go.Ground.phase, Go.Edge.mk 13 Go.Ground.phase, Go.Edge.mk 14 Go.Ground.phase, Go.Edge.mk 15 Go.Ground.phase, Go.Edge.mk 16 Go.Ground.phase, Go.Edge.mk 17 Go.Ground.phase, Go.Edge.mk 18 Go.Ground.phase, Go.Edge.mk 19 Go.Ground.phase, Go.Edge.mk 20 Go.Ground.phase, Go.Edge.mk 21 Go.Ground.phase, Go.Edge.mk 22 Go.Ground.phase, Go.Edge.mk 23 Go.Ground.phase, Go.Edge.mk 24 Go.Ground.phase, Go.Edge.mk 25 Go.Ground.phase, Go.Edge.mk 26 Go.Ground.phase, Go.Edge.mk 27 Go.Ground.phase, Go.Edge.mk 28 Go.Ground.phase, Go.Edge.mk 29 Go.Ground.phase, Go.Edge.mk 30 Go.Ground.phase, Go.Edge.mk 31 Go.Ground.phase, Go.Edge.mk 32 Go.Ground.phase, Go.Edge.mk 33 Go.Ground.phase, Go.Edge.mk 34 Go.Ground.phase, Go.Edge.mk 35 Go.Ground.phase, Go.Edge.mk 36 Go.Ground.phase, Go.Edge.mk 37 Go.Ground.phase, Go.Edge.mk 38 Go.Ground.phase, Go.Edge.mk 39 Go.Ground.phase, Go.Edge.mk 40 Go.Ground.phase, Go.Edge.mk 41 Go.Ground.phase, Go.Edge.mk 42 Go.Ground.phase, Go.Edge.mk 43 Go.Ground.phase, Go.Edge.mk 44 Go.Ground.phase, Go.Edge.mk 45 Go.Ground.phase, Go.Edge.mk 46 Go.Ground.phase, Go.Edge.mk 47 Go.Ground.phase, Go.Edge.mk 48 Go.Ground.phase, Go.Edge.mk 49 Go.Ground.phase, Go.Edge.mk 50 Go.Ground.phase, Go.Edge.mk 51 Go.Ground.phase, Go.Edge.mk 52 Go.Ground.phase, Go.Edge.mk 53 Go.Ground.phase] Option.none) (v := ?b55_v) rfl (by kernel_rfl) (by kernel_rfl) (by kernel_rfl) (fun _ _ _ h => h) (Or.inl ⟨by rfl, ?b55_y⟩) (by assumption) ?_
    case b55_y => (intro w hSw; (try dsimp only at hSw); go_simp; (first | done | with_reducible rfl))
    try simp only [Act.put, List.setIfInBounds_toArray, List.set_cons_zero, List.set_cons_succ]
    refine wpAnyH_done (by kernel_rfl) ?_ _
    go_wp2_with fail
    go_ret
    exact ⟨rfl, bel_calls HB5.out HC3.out⟩
  · clear HC
    have e1 : (s.toList != t.toList) = true := by simp only [bne, str_ne hne]; rfl
    have e0 := str_ne hne
    have e2 := str_ne hne2
    have e3 := str_ne (Ne.symm hne2)
    have C1 : Box (∀ W, _) := ⟨fun W => compare_calls k S k T W⟩
    have C2 : Box (∀ W, _) := ⟨fun W => compare_calls k T k S W⟩
    clear hne hne2
    rcases h with ⟨h1, h2⟩ | ⟨h1, h2⟩
    · rw [h1] at C1
      rw [h2] at C2
      clear h1 h2
      go_wp2_with fail
      refine wp_region_held_drew (S := (fun w' => w'.cell? ⟨gp, 0, none⟩ = some (.int .i64 k) ∧ w'.cell? ⟨gp, 1, none⟩ = some (.string S) ∧ w'.cell? ⟨gq, 0, none⟩ = some (.int .i64 k) ∧ w'.cell? ⟨gq, 1, none⟩ = some (.string T) ∧ w'.cell? ⟨gr, 0, none⟩ = some (.int .i64 k) ∧ w'.cell? ⟨gr, 1, none⟩ = some (.string S))) (by kernel_rfl) ?cS (fun hHeld => ?_)
      case cS => (try dsimp only); exact KK.out _ (bel_drew (Below.refl _ _))
      refine wpAnyH_take (i := 0) (oi := Go.Oper.mk (Option.some 57) (Go.Op.move (Go.Operand.tmp 8)) 25 "law.go:51" #[] Option.none) (v := ?c1_v) rfl (by kernel_rfl) (by kernel_rfl) (by kernel_rfl) (fun _ _ _ h => h) (Or.inl ⟨by rfl, ?c1_y⟩) (by assumption) ?_
      case c1_y => (intro w hSw; (try dsimp only at hSw); go_simp; (first | done | with_reducible rfl))
      try simp only [Act.put, List.setIfInBounds_toArray, List.set_cons_zero, List.set_cons_succ]
      refine wpAnyH_take (i := 1) (oi := Go.Oper.mk (Option.some 58) (Go.Op.binOp Go.BinOp.eql 25 (Go.Operand.tmp 57) (Go.Operand.const (Go.Value.int Go.IntKind.i64 0)) 25) 4 "law.go:51" #[Go.Edge.mk 0 Go.Ground.data] Option.none) (v := ?c2_v) rfl (by kernel_rfl) (by kernel_rfl) (by kernel_rfl) (fun _ _ _ h => h) (Or.inl ⟨by rfl, ?c2_y⟩) (by assumption) ?_
      case c2_y => (intro w hSw; (try dsimp only at hSw); go_simp; (first | done | with_reducible rfl))
      try simp only [Act.put, List.setIfInBounds_toArray, List.set_cons_zero, List.set_cons_succ]
      refine wpAnyH_take (i := 2) (oi := Go.Oper.mk (Option.some 59) (Go.Op.move (Go.Operand.tmp 58)) 4 "law.go:51" #[Go.Edge.mk 1 Go.Ground.data] Option.none) (v := ?c3_v) rfl (by kernel_rfl) (by kernel_rfl) (by kernel_rfl) (fun _ _ _ h => h) (Or.inl ⟨by rfl, ?c3_y⟩) (by assumption) ?_
      case c3_y => (intro w hSw; (try dsimp only at hSw); go_simp; (first | done | with_reducible rfl))
      try simp only [Act.put, List.setIfInBounds_toArray, List.set_cons_zero, List.set_cons_succ]
      refine wpAnyH_take (i := 3) (oi := Go.Oper.mk (Option.some 60) (Go.Op.move (Go.Operand.tmp 10)) 25 "law.go:51" #[Go.Edge.mk 2 Go.Ground.guard] (Option.some (2, Bool.true))) (v := ?c4_v) rfl (by kernel_rfl) (by kernel_rfl) (by kernel_rfl) (fun _ _ _ h => h) (Or.inl ⟨by rfl, ?c4_y⟩) (by assumption) ?_
      case c4_y => (intro w hSw; (try dsimp only at hSw); go_simp; (first | done | with_reducible rfl))
      try simp only [Act.put, List.setIfInBounds_toArray, List.set_cons_zero, List.set_cons_succ]
      refine wpAnyH_take (i := 4) (oi := Go.Oper.mk (Option.some 61) (Go.Op.binOp Go.BinOp.eql 25 (Go.Operand.tmp 60) (Go.Operand.const (Go.Value.int Go.IntKind.i64 0)) 25) 4 "law.go:51" #[Go.Edge.mk 3 Go.Ground.data, Go.Edge.mk 2 Go.Ground.guard] (Option.some (2, Bool.true))) (v := ?c5_v) rfl (by kernel_rfl) (by kernel_rfl) (by kernel_rfl) (fun _ _ _ h => h) (Or.inl ⟨by rfl, ?c5_y⟩) (by assumption) ?_
      case c5_y => (intro w hSw; (try dsimp only at hSw); go_simp; (first | done | with_reducible rfl))
      try simp only [Act.put, List.setIfInBounds_toArray, List.set_cons_zero, List.set_cons_succ]
      refine wpAnyH_take (i := 5) (oi := Go.Oper.mk (Option.some 62) (Go.Op.pick (Go.Operand.tmp 59) (Go.Operand.tmp 61) (Go.Operand.const (Go.Value.bool Bool.false))) 4 "law.go:51" #[Go.Edge.mk 2 Go.Ground.data, Go.Edge.mk 4 Go.Ground.data] Option.none) (v := ?c6_v) rfl (by kernel_rfl) (by kernel_rfl) (by kernel_rfl) (fun _ _ _ h => h) (Or.inl ⟨by rfl, ?c6_y⟩) (by assumption) ?_
      case c6_y => (intro w hSw; (try dsimp only at hSw); go_simp; (first | done | with_reducible rfl))
      try simp only [Act.put, List.setIfInBounds_toArray, List.set_cons_zero, List.set_cons_succ]
      refine wpAnyH_take (i := 6) (oi := Go.Oper.mk (Option.some 63) (Go.Op.move (Go.Operand.tmp 62)) 4 "law.go:51" #[Go.Edge.mk 5 Go.Ground.data, Go.Edge.mk 2 Go.Ground.chain] Option.none) (v := ?c7_v) rfl (by kernel_rfl) (by kernel_rfl) (by kernel_rfl) (fun _ _ _ h => h) (Or.inl ⟨by rfl, ?c7_y⟩) (by assumption) ?_
      case c7_y => (intro w hSw; (try dsimp only at hSw); go_simp; (first | done | with_reducible rfl))
      try simp only [Act.put, List.setIfInBounds_toArray, List.set_cons_zero, List.set_cons_succ]
      refine wpAnyH_take (i := 7) (oi := Go.Oper.mk (Option.some 64) (Go.Op.move (Go.Operand.tmp 12)) 25 "law.go:51" #[Go.Edge.mk 6 Go.Ground.guard] (Option.some (6, Bool.true))) (v := ?c8_v) rfl (by kernel_rfl) (by kernel_rfl) (by kernel_rfl) (fun _ _ _ h => h) (Or.inl ⟨by rfl, ?c8_y⟩) (by assumption) ?_
      case c8_y => (intro w hSw; (try dsimp only at hSw); go_simp; (first | done | with_reducible rfl))
      try simp only [Act.put, List.setIfInBounds_toArray, List.set_cons_zero, List.set_cons_succ]
      refine wpAnyH_take (i := 8) (oi := Go.Oper.mk (Option.some 65) (Go.Op.binOp Go.BinOp.eql 25 (Go.Operand.tmp 64) (Go.Operand.const (Go.Value.int Go.IntKind.i64 0)) 25) 4 "law.go:51" #[Go.Edge.mk 7 Go.Ground.data, Go.Edge.mk 6 Go.Ground.guard] (Option.some (6, Bool.true))) (v := ?c9_v) rfl (by kernel_rfl) (by kernel_rfl) (by kernel_rfl) (fun _ _ _ h => h) (Or.inl ⟨by rfl, ?c9_y⟩) (by assumption) ?_
      case c9_y => (intro w hSw; (try dsimp only at hSw); go_simp; (first | done | with_reducible rfl))
      try simp only [Act.put, List.setIfInBounds_toArray, List.set_cons_zero, List.set_cons_succ]
      refine wpAnyH_take (i := 9) (oi := Go.Oper.mk (Option.some 66) (Go.Op.pick (Go.Operand.tmp 63) (Go.Operand.tmp 65) (Go.Operand.const (Go.Value.bool Bool.false))) 4 "law.go:51" #[Go.Edge.mk 6 Go.Ground.data, Go.Edge.mk 8 Go.Ground.data] Option.none) (v := ?c10_v) rfl (by kernel_rfl) (by kernel_rfl) (by kernel_rfl) (fun _ _ _ h => h) (Or.inl ⟨by rfl, ?c10_y⟩) (by assumption) ?_
      case c10_y => (intro w hSw; (try dsimp only at hSw); go_simp; (first | done | with_reducible rfl))
      try simp only [Act.put, List.setIfInBounds_toArray, List.set_cons_zero, List.set_cons_succ]
      refine wpAnyH_take (i := 10) (oi := Go.Oper.mk (Option.some 67) (Go.Op.move (Go.Operand.tmp 66)) 4 "law.go:51" #[Go.Edge.mk 9 Go.Ground.data, Go.Edge.mk 6 Go.Ground.chain] Option.none) (v := ?c11_v) rfl (by kernel_rfl) (by kernel_rfl) (by kernel_rfl) (fun _ _ _ h => h) (Or.inl ⟨by rfl, ?c11_y⟩) (by assumption) ?_
      case c11_y => (intro w hSw; (try dsimp only at hSw); go_simp; (first | done | with_reducible rfl))
      try simp only [Act.put, List.setIfInBounds_toArray, List.set_cons_zero, List.set_cons_succ]
      refine wpAnyH_take (i := 11) (oi := Go.Oper.mk (Option.some 68) (Go.Op.move (Go.Operand.tmp 14)) 25 "law.go:51" #[Go.Edge.mk 10 Go.Ground.guard] (Option.some (10, Bool.true))) (v := ?c12_v) rfl (by kernel_rfl) (by kernel_rfl) (by kernel_rfl) (fun _ _ _ h => h) (Or.inl ⟨by rfl, ?c12_y⟩) (by assumption) ?_
      case c12_y => (intro w hSw; (try dsimp only at hSw); go_simp; (first | done | with_reducible rfl))
      try simp only [Act.put, List.setIfInBounds_toArray, List.set_cons_zero, List.set_cons_succ]
      refine wpAnyH_take (i := 12) (oi := Go.Oper.mk (Option.some 69) (Go.Op.binOp Go.BinOp.eql 25 (Go.Operand.tmp 68) (Go.Operand.const (Go.Value.int Go.IntKind.i64 0)) 25) 4 "law.go:51" #[Go.Edge.mk 11 Go.Ground.data, Go.Edge.mk 10 Go.Ground.guard] (Option.some (10, Bool.true))) (v := ?c13_v) rfl (by kernel_rfl) (by kernel_rfl) (by kernel_rfl) (fun _ _ _ h => h) (Or.inl ⟨by rfl, ?c13_y⟩) (by assumption) ?_
      case c13_y => (intro w hSw; (try dsimp only at hSw); go_simp; (first | done | with_reducible rfl))
      try simp only [Act.put, List.setIfInBounds_toArray, List.set_cons_zero, List.set_cons_succ]
      refine wpAnyH_take (i := 13) (oi := Go.Oper.mk (Option.some 70) (Go.Op.pick (Go.Operand.tmp 67) (Go.Operand.tmp 69) (Go.Operand.const (Go.Value.bool Bool.false))) 4 "law.go:51" #[Go.Edge.mk 10 Go.Ground.data, Go.Edge.mk 12 Go.Ground.data] Option.none) (v := ?c14_v) rfl (by kernel_rfl) (by kernel_rfl) (by kernel_rfl) (fun _ _ _ h => h) (Or.inl ⟨by rfl, ?c14_y⟩) (by assumption) ?_
      case c14_y => (intro w hSw; (try dsimp only at hSw); go_simp; (first | done | with_reducible rfl))
      try simp only [Act.put, List.setIfInBounds_toArray, List.set_cons_zero, List.set_cons_succ]
      refine wpAnyH_take (i := 14) (oi := Go.Oper.mk (Option.some 71) (Go.Op.move (Go.Operand.tmp 70)) 4 "law.go:51" #[Go.Edge.mk 13 Go.Ground.data, Go.Edge.mk 10 Go.Ground.chain] Option.none) (v := ?c15_v) rfl (by kernel_rfl) (by kernel_rfl) (by kernel_rfl) (fun _ _ _ h => h) (Or.inl ⟨by rfl, ?c15_y⟩) (by assumption) ?_
      case c15_y => (intro w hSw; (try dsimp only at hSw); go_simp; (first | done | with_reducible rfl))
      try simp only [Act.put, List.setIfInBounds_toArray, List.set_cons_zero, List.set_cons_succ]
      refine wpAnyH_take (i := 15) (oi := Go.Oper.mk (Option.some 72) (Go.Op.load 24 (Go.Operand.tmp 13)) 24 "law.go:51" #[Go.Edge.mk 14 Go.Ground.guard] (Option.some (14, Bool.true))) (v := ?c16_v) rfl (by kernel_rfl) (by kernel_rfl) (by kernel_rfl) (fun _ _ _ h => h) (Or.inl ⟨by rfl, ?c16_y⟩) (by assumption) ?_
      case c16_y => (intro w hSw; (try dsimp only at hSw); go_simp; (first | done | with_reducible rfl))
      try simp only [Act.put, List.setIfInBounds_toArray, List.set_cons_zero, List.set_cons_succ]
      refine wpAnyH_take (i := 16) (oi := Go.Oper.mk (Option.some 73) (Go.Op.load 24 (Go.Operand.tmp 7)) 24 "law.go:51" #[Go.Edge.mk 14 Go.Ground.guard] (Option.some (14, Bool.true))) (v := ?c17_v) rfl (by kernel_rfl) (by kernel_rfl) (by kernel_rfl) (fun _ _ _ h => h) (Or.inl ⟨by rfl, ?c17_y⟩) (by assumption) ?_
      case c17_y => (intro w hSw; (try dsimp only at hSw); go_simp; (first | done | with_reducible rfl))
      try simp only [Act.put, List.setIfInBounds_toArray, List.set_cons_zero, List.set_cons_succ]
      refine wpAnyH_take (i := 17) (oi := Go.Oper.mk (Option.some 74) (Go.Op.binOp Go.BinOp.eql 24 (Go.Operand.tmp 72) (Go.Operand.tmp 73) 24) 4 "law.go:51" #[Go.Edge.mk 15 Go.Ground.data, Go.Edge.mk 16 Go.Ground.data, Go.Edge.mk 14 Go.Ground.guard] (Option.some (14, Bool.true))) (v := ?c18_v) rfl (by kernel_rfl) (by kernel_rfl) (by kernel_rfl) (fun _ _ _ h => h) (Or.inl ⟨by rfl, ?c18_y⟩) (by assumption) ?_
      case c18_y => (intro w hSw; (try dsimp only at hSw); go_simp; (first | done | with_reducible rfl))
      try simp only [Act.put, List.setIfInBounds_toArray, List.set_cons_zero, List.set_cons_succ]
      refine wpAnyH_take (i := 18) (oi := Go.Oper.mk (Option.some 75) (Go.Op.pick (Go.Operand.tmp 71) (Go.Operand.tmp 74) (Go.Operand.const (Go.Value.bool Bool.false))) 4 "law.go:51" #[Go.Edge.mk 14 Go.Ground.data, Go.Edge.mk 17 Go.Ground.data] Option.none) (v := ?c19_v) rfl (by kernel_rfl) (by kernel_rfl) (by kernel_rfl) (fun _ _ _ h => h) (Or.inl ⟨by rfl, ?c19_y⟩) (by assumption) ?_
      case c19_y => (intro w hSw; (try dsimp only at hSw); go_simp; (first | done | with_reducible rfl))
      try simp only [Act.put, List.setIfInBounds_toArray, List.set_cons_zero, List.set_cons_succ]
      refine wpAnyH_take (i := 19) (oi := Go.Oper.mk (Option.some 76) (Go.Op.move (Go.Operand.tmp 75)) 4 "law.go:51" #[Go.Edge.mk 18 Go.Ground.data, Go.Edge.mk 14 Go.Ground.chain] Option.none) (v := ?c20_v) rfl (by kernel_rfl) (by kernel_rfl) (by kernel_rfl) (fun _ _ _ h => h) (Or.inl ⟨by rfl, ?c20_y⟩) (by assumption) ?_
      case c20_y => (intro w hSw; (try dsimp only at hSw); go_simp; (first | done | with_reducible rfl))
      try simp only [Act.put, List.setIfInBounds_toArray, List.set_cons_zero, List.set_cons_succ]
      refine wpAnyH_take (i := 20) (oi := Go.Oper.mk (Option.some 77) (Go.Op.move (Go.Operand.tmp 11)) 9 "law.go:51" #[Go.Edge.mk 19 Go.Ground.guard] (Option.some (19, Bool.true))) (v := ?c21_v) rfl (by kernel_rfl) (by kernel_rfl) (by kernel_rfl) (fun _ _ _ h => h) (Or.inl ⟨by rfl, ?c21_y⟩) (by assumption) ?_
      case c21_y => (intro w hSw; (try dsimp only at hSw); go_simp; (first | done | with_reducible rfl))
      try simp only [Act.put, List.setIfInBounds_toArray, List.set_cons_zero, List.set_cons_succ]
      refine wpAnyH_take (i := 21) (oi := Go.Oper.mk (Option.some 78) (Go.Op.call (Go.Call.mk (Go.Callee.builtin Go.Builtin.len) #[Go.Operand.tmp 77] #[9])) 3 "law.go:51" #[Go.Edge.mk 20 Go.Ground.data, Go.Edge.mk 19 Go.Ground.guard] (Option.some (19, Bool.true))) (v := ?c22_v) rfl (by kernel_rfl) (by kernel_rfl) (by kernel_rfl) (fun _ _ _ h => h) (Or.inl ⟨by rfl, ?c22_y⟩) (by assumption) ?_
      case c22_y => (intro w hSw; (try dsimp only at hSw); go_simp; (first | done | with_reducible rfl))
      try simp only [Act.put, List.setIfInBounds_toArray, List.set_cons_zero, List.set_cons_succ]
      refine wpAnyH_take (i := 22) (oi := Go.Oper.mk (Option.some 79) (Go.Op.binOp Go.BinOp.eql 3 (Go.Operand.tmp 78) (Go.Operand.const (Go.Value.int Go.IntKind.i64 33)) 3) 4 "law.go:51" #[Go.Edge.mk 21 Go.Ground.data, Go.Edge.mk 19 Go.Ground.guard] (Option.some (19, Bool.true))) (v := ?c23_v) rfl (by kernel_rfl) (by kernel_rfl) (by kernel_rfl) (fun _ _ _ h => h) (Or.inl ⟨by rfl, ?c23_y⟩) (by assumption) ?_
      case c23_y => (intro w hSw; (try dsimp only at hSw); go_simp; (first | done | with_reducible rfl))
      try simp only [Act.put, List.setIfInBounds_toArray, List.set_cons_zero, List.set_cons_succ]
      refine wpAnyH_take (i := 23) (oi := Go.Oper.mk (Option.some 80) (Go.Op.pick (Go.Operand.tmp 76) (Go.Operand.tmp 79) (Go.Operand.const (Go.Value.bool Bool.false))) 4 "law.go:51" #[Go.Edge.mk 19 Go.Ground.data, Go.Edge.mk 22 Go.Ground.data] Option.none) (v := ?c24_v) rfl (by kernel_rfl) (by kernel_rfl) (by kernel_rfl) (fun _ _ _ h => h) (Or.inl ⟨by rfl, ?c24_y⟩) (by assumption) ?_
      case c24_y => (intro w hSw; (try dsimp only at hSw); go_simp; (first | done | with_reducible rfl))
      try simp only [Act.put, List.setIfInBounds_toArray, List.set_cons_zero, List.set_cons_succ]
      refine wpAnyH_take (i := 24) (oi := Go.Oper.mk (Option.some 81) (Go.Op.move (Go.Operand.tmp 80)) 4 "law.go:51" #[Go.Edge.mk 23 Go.Ground.data, Go.Edge.mk 19 Go.Ground.chain] Option.none) (v := ?c25_v) rfl (by kernel_rfl) (by kernel_rfl) (by kernel_rfl) (fun _ _ _ h => h) (Or.inl ⟨by rfl, ?c25_y⟩) (by assumption) ?_
      case c25_y => (intro w hSw; (try dsimp only at hSw); go_simp; (first | done | with_reducible rfl))
      try simp only [Act.put, List.setIfInBounds_toArray, List.set_cons_zero, List.set_cons_succ]
      refine wpAnyH_take (i := 25) (oi := Go.Oper.mk (Option.some 82) (Go.Op.move (Go.Operand.tmp 1)) 9 "law.go:51" #[Go.Edge.mk 24 Go.Ground.guard] (Option.some (24, Bool.true))) (v := ?c26_v) rfl (by kernel_rfl) (by kernel_rfl) (by kernel_rfl) (fun _ _ _ h => h) (Or.inl ⟨by rfl, ?c26_y⟩) (by assumption) ?_
      case c26_y => (intro w hSw; (try dsimp only at hSw); go_simp; (first | done | with_reducible rfl))
      try simp only [Act.put, List.setIfInBounds_toArray, List.set_cons_zero, List.set_cons_succ]
      refine wpAnyH_take (i := 26) (oi := Go.Oper.mk (Option.some 83) (Go.Op.move (Go.Operand.tmp 2)) 9 "law.go:51" #[Go.Edge.mk 24 Go.Ground.guard] (Option.some (24, Bool.true))) (v := ?c27_v) rfl (by kernel_rfl) (by kernel_rfl) (by kernel_rfl) (fun _ _ _ h => h) (Or.inl ⟨by rfl, ?c27_y⟩) (by assumption) ?_
      case c27_y => (intro w hSw; (try dsimp only at hSw); go_simp; (first | done | with_reducible rfl))
      try simp only [Act.put, List.setIfInBounds_toArray, List.set_cons_zero, List.set_cons_succ]
      refine wpAnyH_take (i := 27) (oi := Go.Oper.mk (Option.some 84) (Go.Op.binOp Go.BinOp.neq 9 (Go.Operand.tmp 82) (Go.Operand.tmp 83) 9) 4 "law.go:51" #[Go.Edge.mk 25 Go.Ground.data, Go.Edge.mk 26 Go.Ground.data, Go.Edge.mk 24 Go.Ground.guard] (Option.some (24, Bool.true))) (v := ?c28_v) rfl (by kernel_rfl) (by kernel_rfl) (by kernel_rfl) (fun _ _ _ h => h) (Or.inl ⟨by rfl, ?c28_y⟩) (by assumption) ?_
      case c28_y => (intro w hSw; (try dsimp only at hSw); go_simp; (first | done | with_reducible rfl))
      try simp only [Act.put, List.setIfInBounds_toArray, List.set_cons_zero, List.set_cons_succ]
      refine wpAnyH_take (i := 28) (oi := Go.Oper.mk (Option.some 85) (Go.Op.move (Go.Operand.tmp 84)) 4 "law.go:51" #[Go.Edge.mk 27 Go.Ground.data, Go.Edge.mk 24 Go.Ground.chain, Go.Edge.mk 24 Go.Ground.guard] (Option.some (24, Bool.true))) (v := ?c29_v) rfl (by kernel_rfl) (by kernel_rfl) (by kernel_rfl) (fun _ _ _ h => h) (Or.inl ⟨by rfl, ?c29_y⟩) (by assumption) ?_
      case c29_y => (intro w hSw; (try dsimp only at hSw); go_simp; (first | done | with_reducible rfl))
      try simp only [Act.put, List.setIfInBounds_toArray, List.set_cons_zero, List.set_cons_succ]
      refine wpAnyH_take (i := 29) (oi := Go.Oper.mk (Option.some 86) (Go.Op.load 24 (Go.Operand.tmp 7)) 24 "law.go:51" #[Go.Edge.mk 28 Go.Ground.guard] (Option.some (28, Bool.false))) (v := undef) rfl (by kernel_rfl) (by kernel_rfl) (by kernel_rfl) (fun _ _ _ h => h) (Or.inr ⟨by rfl, rfl⟩) (by assumption) ?_
      try simp only [Act.put, List.setIfInBounds_toArray, List.set_cons_zero, List.set_cons_succ]
      refine wpAnyH_take (i := 30) (oi := Go.Oper.mk (Option.some 87) (Go.Op.load 24 (Go.Operand.tmp 9)) 24 "law.go:51" #[Go.Edge.mk 28 Go.Ground.guard] (Option.some (28, Bool.false))) (v := undef) rfl (by kernel_rfl) (by kernel_rfl) (by kernel_rfl) (fun _ _ _ h => h) (Or.inr ⟨by rfl, rfl⟩) (by assumption) ?_
      try simp only [Act.put, List.setIfInBounds_toArray, List.set_cons_zero, List.set_cons_succ]
      refine wpAnyH_take (i := 31) (oi := Go.Oper.mk (Option.some 88) (Go.Op.binOp Go.BinOp.eql 24 (Go.Operand.tmp 86) (Go.Operand.tmp 87) 24) 4 "law.go:51" #[Go.Edge.mk 29 Go.Ground.data, Go.Edge.mk 30 Go.Ground.data, Go.Edge.mk 28 Go.Ground.guard] (Option.some (28, Bool.false))) (v := undef) rfl (by kernel_rfl) (by kernel_rfl) (by kernel_rfl) (fun _ _ _ h => h) (Or.inr ⟨by rfl, rfl⟩) (by assumption) ?_
      try simp only [Act.put, List.setIfInBounds_toArray, List.set_cons_zero, List.set_cons_succ]
      refine wpAnyH_take (i := 32) (oi := Go.Oper.mk (Option.some 89) (Go.Op.pick (Go.Operand.tmp 85) (Go.Operand.const (Go.Value.bool Bool.true)) (Go.Operand.tmp 88)) 4 "law.go:51" #[Go.Edge.mk 28 Go.Ground.data, Go.Edge.mk 31 Go.Ground.data, Go.Edge.mk 24 Go.Ground.guard] (Option.some (24, Bool.true))) (v := ?c33_v) rfl (by kernel_rfl) (by kernel_rfl) (by kernel_rfl) (fun _ _ _ h => h) (Or.inl ⟨by rfl, ?c33_y⟩) (by assumption) ?_
      case c33_y => (intro w hSw; (try dsimp only at hSw); go_simp; (first | done | with_reducible rfl))
      try simp only [Act.put, List.setIfInBounds_toArray, List.set_cons_zero, List.set_cons_succ]
      refine wpAnyH_take (i := 33) (oi := Go.Oper.mk (Option.some 90) (Go.Op.pick (Go.Operand.tmp 81) (Go.Operand.tmp 89) (Go.Operand.const (Go.Value.bool Bool.false))) 4 "law.go:51" #[Go.Edge.mk 24 Go.Ground.data, Go.Edge.mk 32 Go.Ground.data] Option.none) (v := ?c34_v) rfl (by kernel_rfl) (by kernel_rfl) (by kernel_rfl) (fun _ _ _ h => h) (Or.inl ⟨by rfl, ?c34_y⟩) (by assumption) ?_
      case c34_y => (intro w hSw; (try dsimp only at hSw); go_simp; (first | done | with_reducible rfl))
      try simp only [Act.put, List.setIfInBounds_toArray, List.set_cons_zero, List.set_cons_succ]
      refine wpAnyH_take (i := 34) (oi := Go.Oper.mk (Option.some 91) (Go.Op.move (Go.Operand.tmp 90)) 4 "law.go:51" #[Go.Edge.mk 33 Go.Ground.data, Go.Edge.mk 28 Go.Ground.chain] Option.none) (v := ?c35_v) rfl (by kernel_rfl) (by kernel_rfl) (by kernel_rfl) (fun _ _ _ h => h) (Or.inl ⟨by rfl, ?c35_y⟩) (by assumption) ?_
      case c35_y => (intro w hSw; (try dsimp only at hSw); go_simp; (first | done | with_reducible rfl))
      try simp only [Act.put, List.setIfInBounds_toArray, List.set_cons_zero, List.set_cons_succ]
      refine wpAnyH_take (i := 35) (oi := Go.Oper.mk (Option.some 92) (Go.Op.load 24 (Go.Operand.tmp 7)) 24 "law.go:51" #[Go.Edge.mk 34 Go.Ground.guard] (Option.some (34, Bool.true))) (v := ?c36_v) rfl (by kernel_rfl) (by kernel_rfl) (by kernel_rfl) (fun _ _ _ h => h) (Or.inl ⟨by rfl, ?c36_y⟩) (by assumption) ?_
      case c36_y => (intro w hSw; (try dsimp only at hSw); go_simp; (first | done | with_reducible rfl))
      try simp only [Act.put, List.setIfInBounds_toArray, List.set_cons_zero, List.set_cons_succ]
      refine wpAnyH_take (i := 36) (oi := Go.Oper.mk (Option.some 93) (Go.Op.load 24 (Go.Operand.tmp 9)) 24 "law.go:51" #[Go.Edge.mk 34 Go.Ground.guard] (Option.some (34, Bool.true))) (v := ?c37_v) rfl (by kernel_rfl) (by kernel_rfl) (by kernel_rfl) (fun _ _ _ h => h) (Or.inl ⟨by rfl, ?c37_y⟩) (by assumption) ?_
      case c37_y => (intro w hSw; (try dsimp only at hSw); go_simp; (first | done | with_reducible rfl))
      try simp only [Act.put, List.setIfInBounds_toArray, List.set_cons_zero, List.set_cons_succ]
      refine wpAnyH_take (i := 39) (oi := Go.Oper.mk (Option.some 96) (Go.Op.load 24 (Go.Operand.tmp 7)) 24 "law.go:51" #[Go.Edge.mk 34 Go.Ground.guard] (Option.some (34, Bool.true))) (v := ?c38_v) rfl (by kernel_rfl) (by kernel_rfl) (by kernel_rfl) (fun _ _ _ h => h) (Or.inl ⟨by rfl, ?c38_y⟩) (by assumption) ?_
      case c38_y => (intro w hSw; (try dsimp only at hSw); go_simp; (first | done | with_reducible rfl))
      try simp only [Act.put, List.setIfInBounds_toArray, List.set_cons_zero, List.set_cons_succ]
      refine wpAnyH_take (i := 40) (oi := Go.Oper.mk (Option.some 97) (Go.Op.load 24 (Go.Operand.tmp 9)) 24 "law.go:51" #[Go.Edge.mk 34 Go.Ground.guard] (Option.some (34, Bool.true))) (v := ?c39_v) rfl (by kernel_rfl) (by kernel_rfl) (by kernel_rfl) (fun _ _ _ h => h) (Or.inl ⟨by rfl, ?c39_y⟩) (by assumption) ?_
      case c39_y => (intro w hSw; (try dsimp only at hSw); go_simp; (first | done | with_reducible rfl))
      try simp only [Act.put, List.setIfInBounds_toArray, List.set_cons_zero, List.set_cons_succ]
      refine wpAnyH_take (i := 41) (oi := Go.Oper.mk (Option.some 98) (Go.Op.binOp Go.BinOp.eql 24 (Go.Operand.tmp 96) (Go.Operand.tmp 97) 24) 4 "law.go:51" #[Go.Edge.mk 39 Go.Ground.data, Go.Edge.mk 40 Go.Ground.data, Go.Edge.mk 34 Go.Ground.guard] (Option.some (34, Bool.true))) (v := ?c40_v) rfl (by kernel_rfl) (by kernel_rfl) (by kernel_rfl) (fun _ _ _ h => h) (Or.inl ⟨by rfl, ?c40_y⟩) (by assumption) ?_
      case c40_y => (intro w hSw; (try dsimp only at hSw); go_simp; (first | done | with_reducible rfl))
      try simp only [Act.put, List.setIfInBounds_toArray, List.set_cons_zero, List.set_cons_succ]
      refine wpAnyH_ready (rs := [37]) (by kernel_rfl) (by simp) ?_
      refine AllReadyH.cons (i := 37) (o := Go.Oper.mk (Option.some 94) (Go.Op.call (Go.Call.mk (Go.Callee.value (Go.Operand.func 11)) #[Go.Operand.tmp 92, Go.Operand.tmp 93] #[24, 24])) 3 "law.go:51" #[Go.Edge.mk 35 Go.Ground.data, Go.Edge.mk 36 Go.Ground.data, Go.Edge.mk 34 Go.Ground.chain, Go.Edge.mk 34 Go.Ground.guard] (Option.some (34, Bool.true))) rfl (fun K hK => ?_) AllReadyH.nil
      go_simp
      (refine (C1.out _).mono ?_; rintro e w7 ⟨rfl, hb⟩; have HC1 : Box _ := ⟨bel_calls (bel_drew (Below.refl _ _)) hb⟩; clear hb)
      go_wp2_with fail
      refine hK.out _ _ ?c41_k37 (fun hHeld => ?_)
      case c41_k37 => (try dsimp only); exact KK.out _ HC1.out
      clear hK K
      try simp only [Act.put, List.setIfInBounds_toArray, List.set_cons_zero, List.set_cons_succ]
      refine wpAnyH_take (i := 38) (oi := Go.Oper.mk (Option.some 95) (Go.Op.binOp Go.BinOp.eql 3 (Go.Operand.tmp 94) (Go.Operand.const (Go.Value.int Go.IntKind.i64 0)) 3) 4 "law.go:51" #[Go.Edge.mk 37 Go.Ground.data, Go.Edge.mk 34 Go.Ground.guard] (Option.some (34, Bool.true))) (v := ?c42_v) rfl (by kernel_rfl) (by kernel_rfl) (by kernel_rfl) (fun _ _ _ h => h) (Or.inl ⟨by rfl, ?c42_y⟩) (by assumption) ?_
      case c42_y => (intro w hSw; (try dsimp only at hSw); go_simp; (first | done | with_reducible rfl))
      try simp only [Act.put, List.setIfInBounds_toArray, List.set_cons_zero, List.set_cons_succ]
      refine wpAnyH_take (i := 42) (oi := Go.Oper.mk (Option.some 99) (Go.Op.binOp Go.BinOp.eql 4 (Go.Operand.tmp 95) (Go.Operand.tmp 98) 4) 4 "law.go:51" #[Go.Edge.mk 38 Go.Ground.data, Go.Edge.mk 41 Go.Ground.data, Go.Edge.mk 34 Go.Ground.guard] (Option.some (34, Bool.true))) (v := ?c43_v) rfl (by kernel_rfl) (by kernel_rfl) (by kernel_rfl) (fun _ _ _ h => h) (Or.inl ⟨by rfl, ?c43_y⟩) (by assumption) ?_
      case c43_y => (intro w hSw; (try dsimp only at hSw); go_simp; (first | done | with_reducible rfl))
      try simp only [Act.put, List.setIfInBounds_toArray, List.set_cons_zero, List.set_cons_succ]
      refine wpAnyH_take (i := 43) (oi := Go.Oper.mk (Option.some 100) (Go.Op.pick (Go.Operand.tmp 91) (Go.Operand.tmp 99) (Go.Operand.const (Go.Value.bool Bool.false))) 4 "law.go:51" #[Go.Edge.mk 34 Go.Ground.data, Go.Edge.mk 42 Go.Ground.data] Option.none) (v := ?c44_v) rfl (by kernel_rfl) (by kernel_rfl) (by kernel_rfl) (fun _ _ _ h => h) (Or.inl ⟨by rfl, ?c44_y⟩) (by assumption) ?_
      case c44_y => (intro w hSw; (try dsimp only at hSw); go_simp; (first | done | with_reducible rfl))
      try simp only [Act.put, List.setIfInBounds_toArray, List.set_cons_zero, List.set_cons_succ]
      refine wpAnyH_take (i := 44) (oi := Go.Oper.mk (Option.some 101) (Go.Op.move (Go.Operand.tmp 100)) 4 "law.go:51" #[Go.Edge.mk 43 Go.Ground.data, Go.Edge.mk 37 Go.Ground.chain] Option.none) (v := ?c45_v) rfl (by kernel_rfl) (by kernel_rfl) (by kernel_rfl) (fun _ _ _ h => h) (Or.inl ⟨by rfl, ?c45_y⟩) (by assumption) ?_
      case c45_y => (intro w hSw; (try dsimp only at hSw); go_simp; (first | done | with_reducible rfl))
      try simp only [Act.put, List.setIfInBounds_toArray, List.set_cons_zero, List.set_cons_succ]
      refine wpAnyH_take (i := 45) (oi := Go.Oper.mk (Option.some 102) (Go.Op.load 24 (Go.Operand.tmp 7)) 24 "law.go:51" #[Go.Edge.mk 44 Go.Ground.guard] (Option.some (44, Bool.true))) (v := ?c46_v) rfl (by kernel_rfl) (by kernel_rfl) (by kernel_rfl) (fun _ _ _ h => h) (Or.inl ⟨by rfl, ?c46_y⟩) (by assumption) ?_
      case c46_y => (intro w hSw; (try dsimp only at hSw); go_simp; (first | done | with_reducible rfl))
      try simp only [Act.put, List.setIfInBounds_toArray, List.set_cons_zero, List.set_cons_succ]
      refine wpAnyH_take (i := 46) (oi := Go.Oper.mk (Option.some 103) (Go.Op.load 24 (Go.Operand.tmp 9)) 24 "law.go:51" #[Go.Edge.mk 44 Go.Ground.guard] (Option.some (44, Bool.true))) (v := ?c47_v) rfl (by kernel_rfl) (by kernel_rfl) (by kernel_rfl) (fun _ _ _ h => h) (Or.inl ⟨by rfl, ?c47_y⟩) (by assumption) ?_
      case c47_y => (intro w hSw; (try dsimp only at hSw); go_simp; (first | done | with_reducible rfl))
      try simp only [Act.put, List.setIfInBounds_toArray, List.set_cons_zero, List.set_cons_succ]
      refine wpAnyH_take (i := 48) (oi := Go.Oper.mk (Option.some 105) (Go.Op.load 24 (Go.Operand.tmp 9)) 24 "law.go:51" #[Go.Edge.mk 44 Go.Ground.guard] (Option.some (44, Bool.true))) (v := ?c48_v) rfl (by kernel_rfl) (by kernel_rfl) (by kernel_rfl) (fun _ _ _ h => h) (Or.inl ⟨by rfl, ?c48_y⟩) (by assumption) ?_
      case c48_y => (intro w hSw; (try dsimp only at hSw); go_simp; (first | done | with_reducible rfl))
      try simp only [Act.put, List.setIfInBounds_toArray, List.set_cons_zero, List.set_cons_succ]
      refine wpAnyH_take (i := 49) (oi := Go.Oper.mk (Option.some 106) (Go.Op.load 24 (Go.Operand.tmp 7)) 24 "law.go:51" #[Go.Edge.mk 44 Go.Ground.guard] (Option.some (44, Bool.true))) (v := ?c49_v) rfl (by kernel_rfl) (by kernel_rfl) (by kernel_rfl) (fun _ _ _ h => h) (Or.inl ⟨by rfl, ?c49_y⟩) (by assumption) ?_
      case c49_y => (intro w hSw; (try dsimp only at hSw); go_simp; (first | done | with_reducible rfl))
      try simp only [Act.put, List.setIfInBounds_toArray, List.set_cons_zero, List.set_cons_succ]
      refine wpAnyH_ready (rs := [47]) (by kernel_rfl) (by simp) ?_
      refine AllReadyH.cons (i := 47) (o := Go.Oper.mk (Option.some 104) (Go.Op.call (Go.Call.mk (Go.Callee.value (Go.Operand.func 11)) #[Go.Operand.tmp 102, Go.Operand.tmp 103] #[24, 24])) 3 "law.go:51" #[Go.Edge.mk 45 Go.Ground.data, Go.Edge.mk 46 Go.Ground.data, Go.Edge.mk 44 Go.Ground.chain, Go.Edge.mk 44 Go.Ground.guard] (Option.some (44, Bool.true))) rfl (fun K hK => ?_) AllReadyH.nil
      go_simp
      (refine (C1.out _).mono ?_; rintro e w8 ⟨rfl, hb⟩; have HC2 : Box _ := ⟨bel_calls HC1.out hb⟩; clear hb)
      go_wp2_with fail
      refine hK.out _ _ ?c50_k47 (fun hHeld => ?_)
      case c50_k47 => (try dsimp only); exact KK.out _ HC2.out
      clear hK K
      try simp only [Act.put, List.setIfInBounds_toArray, List.set_cons_zero, List.set_cons_succ]
      refine wpAnyH_ready (rs := [50]) (by kernel_rfl) (by simp) ?_
      refine AllReadyH.cons (i := 50) (o := Go.Oper.mk (Option.some 107) (Go.Op.call (Go.Call.mk (Go.Callee.value (Go.Operand.func 11)) #[Go.Operand.tmp 105, Go.Operand.tmp 106] #[24, 24])) 3 "law.go:51" #[Go.Edge.mk 48 Go.Ground.data, Go.Edge.mk 49 Go.Ground.data, Go.Edge.mk 47 Go.Ground.chain, Go.Edge.mk 44 Go.Ground.guard] (Option.some (44, Bool.true))) rfl (fun K hK => ?_) AllReadyH.nil
      go_simp
      (refine (C2.out _).mono ?_; rintro e w9 ⟨rfl, hb⟩; have HC3 : Box _ := ⟨bel_calls HC2.out hb⟩; clear hb)
      go_wp2_with fail
      refine hK.out _ _ ?c51_k50 (fun hHeld => ?_)
      case c51_k50 => (try dsimp only); exact KK.out _ HC3.out
      clear hK K
      try simp only [Act.put, List.setIfInBounds_toArray, List.set_cons_zero, List.set_cons_succ]
      refine wpAnyH_take (i := 51) (oi := Go.Oper.mk (Option.some 108) (Go.Op.unOp Go.UnOp.neg 3 (Go.Operand.tmp 107)) 3 "law.go:51" #[Go.Edge.mk 50 Go.Ground.data, Go.Edge.mk 44 Go.Ground.guard] (Option.some (44, Bool.true))) (v := ?c52_v) rfl (by kernel_rfl) (by kernel_rfl) (by kernel_rfl) (fun _ _ _ h => h) (Or.inl ⟨by rfl, ?c52_y⟩) (by assumption) ?_
      case c52_y => (intro w hSw; (try dsimp only at hSw); go_simp; (first | done | with_reducible rfl))
      try simp only [Act.put, List.setIfInBounds_toArray, List.set_cons_zero, List.set_cons_succ]
      refine wpAnyH_take (i := 52) (oi := Go.Oper.mk (Option.some 109) (Go.Op.binOp Go.BinOp.eql 3 (Go.Operand.tmp 104) (Go.Operand.tmp 108) 3) 4 "law.go:51" #[Go.Edge.mk 47 Go.Ground.data, Go.Edge.mk 51 Go.Ground.data, Go.Edge.mk 44 Go.Ground.guard] (Option.some (44, Bool.true))) (v := ?c53_v) rfl (by kernel_rfl) (by kernel_rfl) (by kernel_rfl) (fun _ _ _ h => h) (Or.inl ⟨by rfl, ?c53_y⟩) (by assumption) ?_
      case c53_y => (intro w hSw; (try dsimp only at hSw); go_simp; (first | done | with_reducible rfl))
      try simp only [Act.put, List.setIfInBounds_toArray, List.set_cons_zero, List.set_cons_succ]
      refine wpAnyH_take (i := 53) (oi := Go.Oper.mk (Option.some 110) (Go.Op.pick (Go.Operand.tmp 101) (Go.Operand.tmp 109) (Go.Operand.const (Go.Value.bool Bool.false))) 4 "law.go:51" #[Go.Edge.mk 44 Go.Ground.data, Go.Edge.mk 52 Go.Ground.data] Option.none) (v := ?c54_v) rfl (by kernel_rfl) (by kernel_rfl) (by kernel_rfl) (fun _ _ _ h => h) (Or.inl ⟨by rfl, ?c54_y⟩) (by assumption) ?_
      case c54_y => (intro w hSw; (try dsimp only at hSw); go_simp; (first | done | with_reducible rfl))
      try simp only [Act.put, List.setIfInBounds_toArray, List.set_cons_zero, List.set_cons_succ]
      refine wpAnyH_take (i := 54) (oi := Go.Oper.mk (Option.some 6) (Go.Op.assign (Go.Operand.tmp 110)) 4 "law.go:51" #[Go.Edge.mk 53 Go.Ground.data, Go.Edge.mk 50 Go.Ground.chain, Go.Edge.mk 0 Go.Ground.phase, Go.Edge.mk 1 Go.Ground.phase, Go.Edge.mk 2 Go.Ground.phase, Go.Edge.mk 3 Go.Ground.phase, Go.Edge.mk 4 Go.Ground.phase, Go.Edge.mk 5 Go.Ground.phase, Go.Edge.mk 6 Go.Ground.phase, Go.Edge.mk 7 Go.Ground.phase, Go.Edge.mk 8 Go.Ground.phase, Go.Edge.mk 9 Go.Ground.phase, Go.Edge.mk 10 Go.Ground.phase, Go.Edge.mk 11 Go.Ground.phase, Go.Edge.mk 12 Go.Ground.phase, Go.Edge.mk 13 Go.Ground.phase, Go.Edge.mk 14 Go.Ground.phase, Go.Edge.mk 15 Go.Ground.phase, Go.Edge.mk 16 Go.Ground.phase, Go.Edge.mk 17 Go.Ground.phase, Go.Edge.mk 18 Go.Ground.phase, Go.Edge.mk 19 Go.Ground.phase, Go.Edge.mk 20 Go.Ground.phase, Go.Edge.mk 21 Go.Ground.phase, Go.Edge.mk 22 Go.Ground.phase, Go.Edge.mk 23 Go.Ground.phase, Go.Edge.mk 24 Go.Ground.phase, Go.Edge.mk 25 Go.Ground.phase, Go.Edge.mk 26 Go.Ground.phase, Go.Edge.mk 27 Go.Ground.phase, Go.Edge.mk 28 Go.Ground.phase, Go.Edge.mk 29 Go.Ground.phase, Go.Edge.mk 30 Go.Ground.phase, Go.Edge.mk 31 Go.Ground.phase, Go.Edge.mk 32 Go.Ground.phase, Go.Edge.mk 33 Go.Ground.phase, Go.Edge.mk 34 Go.Ground.phase, Go.Edge.mk 35 Go.Ground.phase, Go.Edge.mk 36 Go.Ground.phase, Go.Edge.mk 37 Go.Ground.phase, Go.Edge.mk 38 Go.Ground.phase, Go.Edge.mk 39 Go.Ground.phase, Go.Edge.mk 40 Go.Ground.phase, Go.Edge.mk 41 Go.Ground.phase, Go.Edge.mk 42 Go.Ground.phase, Go.Edge.mk 43 Go.Ground.phase, Go.Edge.mk 44 Go.Ground.phase, Go.Edge.mk 45 Go.Ground.phase, Go.Edge.mk 46 Go.Ground.phase, Go.Edge.mk 47 Go.Ground.phase, Go.Edge.mk 48 Go.Ground.phase, Go.Edge.mk 49 Go.Ground.phase, Go.Edge.mk 50 Go.Ground.phase, Go.Edge.mk 51 Go.Ground.phase, Go.Edge.mk 52 Go.Ground.phase, Go.Edge.mk 53 Go.Ground.phase] Option.none) (v := ?c55_v) rfl (by kernel_rfl) (by kernel_rfl) (by kernel_rfl) (fun _ _ _ h => h) (Or.inl ⟨by rfl, ?c55_y⟩) (by assumption) ?_
      case c55_y => (intro w hSw; (try dsimp only at hSw); go_simp; (first | done | with_reducible rfl))
      try simp only [Act.put, List.setIfInBounds_toArray, List.set_cons_zero, List.set_cons_succ]
      refine wpAnyH_done (by kernel_rfl) ?_ _
      go_wp2_with fail
      go_ret
      exact ⟨rfl, bel_calls HB5.out HC3.out⟩
    · rw [h1] at C1
      rw [h2] at C2
      clear h1 h2
      go_wp2_with fail
      refine wp_region_held_drew (S := (fun w' => w'.cell? ⟨gp, 0, none⟩ = some (.int .i64 k) ∧ w'.cell? ⟨gp, 1, none⟩ = some (.string S) ∧ w'.cell? ⟨gq, 0, none⟩ = some (.int .i64 k) ∧ w'.cell? ⟨gq, 1, none⟩ = some (.string T) ∧ w'.cell? ⟨gr, 0, none⟩ = some (.int .i64 k) ∧ w'.cell? ⟨gr, 1, none⟩ = some (.string S))) (by kernel_rfl) ?dS (fun hHeld => ?_)
      case dS => (try dsimp only); exact KK.out _ (bel_drew (Below.refl _ _))
      refine wpAnyH_take (i := 0) (oi := Go.Oper.mk (Option.some 57) (Go.Op.move (Go.Operand.tmp 8)) 25 "law.go:51" #[] Option.none) (v := ?d1_v) rfl (by kernel_rfl) (by kernel_rfl) (by kernel_rfl) (fun _ _ _ h => h) (Or.inl ⟨by rfl, ?d1_y⟩) (by assumption) ?_
      case d1_y => (intro w hSw; (try dsimp only at hSw); go_simp; (first | done | with_reducible rfl))
      try simp only [Act.put, List.setIfInBounds_toArray, List.set_cons_zero, List.set_cons_succ]
      refine wpAnyH_take (i := 1) (oi := Go.Oper.mk (Option.some 58) (Go.Op.binOp Go.BinOp.eql 25 (Go.Operand.tmp 57) (Go.Operand.const (Go.Value.int Go.IntKind.i64 0)) 25) 4 "law.go:51" #[Go.Edge.mk 0 Go.Ground.data] Option.none) (v := ?d2_v) rfl (by kernel_rfl) (by kernel_rfl) (by kernel_rfl) (fun _ _ _ h => h) (Or.inl ⟨by rfl, ?d2_y⟩) (by assumption) ?_
      case d2_y => (intro w hSw; (try dsimp only at hSw); go_simp; (first | done | with_reducible rfl))
      try simp only [Act.put, List.setIfInBounds_toArray, List.set_cons_zero, List.set_cons_succ]
      refine wpAnyH_take (i := 2) (oi := Go.Oper.mk (Option.some 59) (Go.Op.move (Go.Operand.tmp 58)) 4 "law.go:51" #[Go.Edge.mk 1 Go.Ground.data] Option.none) (v := ?d3_v) rfl (by kernel_rfl) (by kernel_rfl) (by kernel_rfl) (fun _ _ _ h => h) (Or.inl ⟨by rfl, ?d3_y⟩) (by assumption) ?_
      case d3_y => (intro w hSw; (try dsimp only at hSw); go_simp; (first | done | with_reducible rfl))
      try simp only [Act.put, List.setIfInBounds_toArray, List.set_cons_zero, List.set_cons_succ]
      refine wpAnyH_take (i := 3) (oi := Go.Oper.mk (Option.some 60) (Go.Op.move (Go.Operand.tmp 10)) 25 "law.go:51" #[Go.Edge.mk 2 Go.Ground.guard] (Option.some (2, Bool.true))) (v := ?d4_v) rfl (by kernel_rfl) (by kernel_rfl) (by kernel_rfl) (fun _ _ _ h => h) (Or.inl ⟨by rfl, ?d4_y⟩) (by assumption) ?_
      case d4_y => (intro w hSw; (try dsimp only at hSw); go_simp; (first | done | with_reducible rfl))
      try simp only [Act.put, List.setIfInBounds_toArray, List.set_cons_zero, List.set_cons_succ]
      refine wpAnyH_take (i := 4) (oi := Go.Oper.mk (Option.some 61) (Go.Op.binOp Go.BinOp.eql 25 (Go.Operand.tmp 60) (Go.Operand.const (Go.Value.int Go.IntKind.i64 0)) 25) 4 "law.go:51" #[Go.Edge.mk 3 Go.Ground.data, Go.Edge.mk 2 Go.Ground.guard] (Option.some (2, Bool.true))) (v := ?d5_v) rfl (by kernel_rfl) (by kernel_rfl) (by kernel_rfl) (fun _ _ _ h => h) (Or.inl ⟨by rfl, ?d5_y⟩) (by assumption) ?_
      case d5_y => (intro w hSw; (try dsimp only at hSw); go_simp; (first | done | with_reducible rfl))
      try simp only [Act.put, List.setIfInBounds_toArray, List.set_cons_zero, List.set_cons_succ]
      refine wpAnyH_take (i := 5) (oi := Go.Oper.mk (Option.some 62) (Go.Op.pick (Go.Operand.tmp 59) (Go.Operand.tmp 61) (Go.Operand.const (Go.Value.bool Bool.false))) 4 "law.go:51" #[Go.Edge.mk 2 Go.Ground.data, Go.Edge.mk 4 Go.Ground.data] Option.none) (v := ?d6_v) rfl (by kernel_rfl) (by kernel_rfl) (by kernel_rfl) (fun _ _ _ h => h) (Or.inl ⟨by rfl, ?d6_y⟩) (by assumption) ?_
      case d6_y => (intro w hSw; (try dsimp only at hSw); go_simp; (first | done | with_reducible rfl))
      try simp only [Act.put, List.setIfInBounds_toArray, List.set_cons_zero, List.set_cons_succ]
      refine wpAnyH_take (i := 6) (oi := Go.Oper.mk (Option.some 63) (Go.Op.move (Go.Operand.tmp 62)) 4 "law.go:51" #[Go.Edge.mk 5 Go.Ground.data, Go.Edge.mk 2 Go.Ground.chain] Option.none) (v := ?d7_v) rfl (by kernel_rfl) (by kernel_rfl) (by kernel_rfl) (fun _ _ _ h => h) (Or.inl ⟨by rfl, ?d7_y⟩) (by assumption) ?_
      case d7_y => (intro w hSw; (try dsimp only at hSw); go_simp; (first | done | with_reducible rfl))
      try simp only [Act.put, List.setIfInBounds_toArray, List.set_cons_zero, List.set_cons_succ]
      refine wpAnyH_take (i := 7) (oi := Go.Oper.mk (Option.some 64) (Go.Op.move (Go.Operand.tmp 12)) 25 "law.go:51" #[Go.Edge.mk 6 Go.Ground.guard] (Option.some (6, Bool.true))) (v := ?d8_v) rfl (by kernel_rfl) (by kernel_rfl) (by kernel_rfl) (fun _ _ _ h => h) (Or.inl ⟨by rfl, ?d8_y⟩) (by assumption) ?_
      case d8_y => (intro w hSw; (try dsimp only at hSw); go_simp; (first | done | with_reducible rfl))
      try simp only [Act.put, List.setIfInBounds_toArray, List.set_cons_zero, List.set_cons_succ]
      refine wpAnyH_take (i := 8) (oi := Go.Oper.mk (Option.some 65) (Go.Op.binOp Go.BinOp.eql 25 (Go.Operand.tmp 64) (Go.Operand.const (Go.Value.int Go.IntKind.i64 0)) 25) 4 "law.go:51" #[Go.Edge.mk 7 Go.Ground.data, Go.Edge.mk 6 Go.Ground.guard] (Option.some (6, Bool.true))) (v := ?d9_v) rfl (by kernel_rfl) (by kernel_rfl) (by kernel_rfl) (fun _ _ _ h => h) (Or.inl ⟨by rfl, ?d9_y⟩) (by assumption) ?_
      case d9_y => (intro w hSw; (try dsimp only at hSw); go_simp; (first | done | with_reducible rfl))
      try simp only [Act.put, List.setIfInBounds_toArray, List.set_cons_zero, List.set_cons_succ]
      refine wpAnyH_take (i := 9) (oi := Go.Oper.mk (Option.some 66) (Go.Op.pick (Go.Operand.tmp 63) (Go.Operand.tmp 65) (Go.Operand.const (Go.Value.bool Bool.false))) 4 "law.go:51" #[Go.Edge.mk 6 Go.Ground.data, Go.Edge.mk 8 Go.Ground.data] Option.none) (v := ?d10_v) rfl (by kernel_rfl) (by kernel_rfl) (by kernel_rfl) (fun _ _ _ h => h) (Or.inl ⟨by rfl, ?d10_y⟩) (by assumption) ?_
      case d10_y => (intro w hSw; (try dsimp only at hSw); go_simp; (first | done | with_reducible rfl))
      try simp only [Act.put, List.setIfInBounds_toArray, List.set_cons_zero, List.set_cons_succ]
      refine wpAnyH_take (i := 10) (oi := Go.Oper.mk (Option.some 67) (Go.Op.move (Go.Operand.tmp 66)) 4 "law.go:51" #[Go.Edge.mk 9 Go.Ground.data, Go.Edge.mk 6 Go.Ground.chain] Option.none) (v := ?d11_v) rfl (by kernel_rfl) (by kernel_rfl) (by kernel_rfl) (fun _ _ _ h => h) (Or.inl ⟨by rfl, ?d11_y⟩) (by assumption) ?_
      case d11_y => (intro w hSw; (try dsimp only at hSw); go_simp; (first | done | with_reducible rfl))
      try simp only [Act.put, List.setIfInBounds_toArray, List.set_cons_zero, List.set_cons_succ]
      refine wpAnyH_take (i := 11) (oi := Go.Oper.mk (Option.some 68) (Go.Op.move (Go.Operand.tmp 14)) 25 "law.go:51" #[Go.Edge.mk 10 Go.Ground.guard] (Option.some (10, Bool.true))) (v := ?d12_v) rfl (by kernel_rfl) (by kernel_rfl) (by kernel_rfl) (fun _ _ _ h => h) (Or.inl ⟨by rfl, ?d12_y⟩) (by assumption) ?_
      case d12_y => (intro w hSw; (try dsimp only at hSw); go_simp; (first | done | with_reducible rfl))
      try simp only [Act.put, List.setIfInBounds_toArray, List.set_cons_zero, List.set_cons_succ]
      refine wpAnyH_take (i := 12) (oi := Go.Oper.mk (Option.some 69) (Go.Op.binOp Go.BinOp.eql 25 (Go.Operand.tmp 68) (Go.Operand.const (Go.Value.int Go.IntKind.i64 0)) 25) 4 "law.go:51" #[Go.Edge.mk 11 Go.Ground.data, Go.Edge.mk 10 Go.Ground.guard] (Option.some (10, Bool.true))) (v := ?d13_v) rfl (by kernel_rfl) (by kernel_rfl) (by kernel_rfl) (fun _ _ _ h => h) (Or.inl ⟨by rfl, ?d13_y⟩) (by assumption) ?_
      case d13_y => (intro w hSw; (try dsimp only at hSw); go_simp; (first | done | with_reducible rfl))
      try simp only [Act.put, List.setIfInBounds_toArray, List.set_cons_zero, List.set_cons_succ]
      refine wpAnyH_take (i := 13) (oi := Go.Oper.mk (Option.some 70) (Go.Op.pick (Go.Operand.tmp 67) (Go.Operand.tmp 69) (Go.Operand.const (Go.Value.bool Bool.false))) 4 "law.go:51" #[Go.Edge.mk 10 Go.Ground.data, Go.Edge.mk 12 Go.Ground.data] Option.none) (v := ?d14_v) rfl (by kernel_rfl) (by kernel_rfl) (by kernel_rfl) (fun _ _ _ h => h) (Or.inl ⟨by rfl, ?d14_y⟩) (by assumption) ?_
      case d14_y => (intro w hSw; (try dsimp only at hSw); go_simp; (first | done | with_reducible rfl))
      try simp only [Act.put, List.setIfInBounds_toArray, List.set_cons_zero, List.set_cons_succ]
      refine wpAnyH_take (i := 14) (oi := Go.Oper.mk (Option.some 71) (Go.Op.move (Go.Operand.tmp 70)) 4 "law.go:51" #[Go.Edge.mk 13 Go.Ground.data, Go.Edge.mk 10 Go.Ground.chain] Option.none) (v := ?d15_v) rfl (by kernel_rfl) (by kernel_rfl) (by kernel_rfl) (fun _ _ _ h => h) (Or.inl ⟨by rfl, ?d15_y⟩) (by assumption) ?_
      case d15_y => (intro w hSw; (try dsimp only at hSw); go_simp; (first | done | with_reducible rfl))
      try simp only [Act.put, List.setIfInBounds_toArray, List.set_cons_zero, List.set_cons_succ]
      refine wpAnyH_take (i := 15) (oi := Go.Oper.mk (Option.some 72) (Go.Op.load 24 (Go.Operand.tmp 13)) 24 "law.go:51" #[Go.Edge.mk 14 Go.Ground.guard] (Option.some (14, Bool.true))) (v := ?d16_v) rfl (by kernel_rfl) (by kernel_rfl) (by kernel_rfl) (fun _ _ _ h => h) (Or.inl ⟨by rfl, ?d16_y⟩) (by assumption) ?_
      case d16_y => (intro w hSw; (try dsimp only at hSw); go_simp; (first | done | with_reducible rfl))
      try simp only [Act.put, List.setIfInBounds_toArray, List.set_cons_zero, List.set_cons_succ]
      refine wpAnyH_take (i := 16) (oi := Go.Oper.mk (Option.some 73) (Go.Op.load 24 (Go.Operand.tmp 7)) 24 "law.go:51" #[Go.Edge.mk 14 Go.Ground.guard] (Option.some (14, Bool.true))) (v := ?d17_v) rfl (by kernel_rfl) (by kernel_rfl) (by kernel_rfl) (fun _ _ _ h => h) (Or.inl ⟨by rfl, ?d17_y⟩) (by assumption) ?_
      case d17_y => (intro w hSw; (try dsimp only at hSw); go_simp; (first | done | with_reducible rfl))
      try simp only [Act.put, List.setIfInBounds_toArray, List.set_cons_zero, List.set_cons_succ]
      refine wpAnyH_take (i := 17) (oi := Go.Oper.mk (Option.some 74) (Go.Op.binOp Go.BinOp.eql 24 (Go.Operand.tmp 72) (Go.Operand.tmp 73) 24) 4 "law.go:51" #[Go.Edge.mk 15 Go.Ground.data, Go.Edge.mk 16 Go.Ground.data, Go.Edge.mk 14 Go.Ground.guard] (Option.some (14, Bool.true))) (v := ?d18_v) rfl (by kernel_rfl) (by kernel_rfl) (by kernel_rfl) (fun _ _ _ h => h) (Or.inl ⟨by rfl, ?d18_y⟩) (by assumption) ?_
      case d18_y => (intro w hSw; (try dsimp only at hSw); go_simp; (first | done | with_reducible rfl))
      try simp only [Act.put, List.setIfInBounds_toArray, List.set_cons_zero, List.set_cons_succ]
      refine wpAnyH_take (i := 18) (oi := Go.Oper.mk (Option.some 75) (Go.Op.pick (Go.Operand.tmp 71) (Go.Operand.tmp 74) (Go.Operand.const (Go.Value.bool Bool.false))) 4 "law.go:51" #[Go.Edge.mk 14 Go.Ground.data, Go.Edge.mk 17 Go.Ground.data] Option.none) (v := ?d19_v) rfl (by kernel_rfl) (by kernel_rfl) (by kernel_rfl) (fun _ _ _ h => h) (Or.inl ⟨by rfl, ?d19_y⟩) (by assumption) ?_
      case d19_y => (intro w hSw; (try dsimp only at hSw); go_simp; (first | done | with_reducible rfl))
      try simp only [Act.put, List.setIfInBounds_toArray, List.set_cons_zero, List.set_cons_succ]
      refine wpAnyH_take (i := 19) (oi := Go.Oper.mk (Option.some 76) (Go.Op.move (Go.Operand.tmp 75)) 4 "law.go:51" #[Go.Edge.mk 18 Go.Ground.data, Go.Edge.mk 14 Go.Ground.chain] Option.none) (v := ?d20_v) rfl (by kernel_rfl) (by kernel_rfl) (by kernel_rfl) (fun _ _ _ h => h) (Or.inl ⟨by rfl, ?d20_y⟩) (by assumption) ?_
      case d20_y => (intro w hSw; (try dsimp only at hSw); go_simp; (first | done | with_reducible rfl))
      try simp only [Act.put, List.setIfInBounds_toArray, List.set_cons_zero, List.set_cons_succ]
      refine wpAnyH_take (i := 20) (oi := Go.Oper.mk (Option.some 77) (Go.Op.move (Go.Operand.tmp 11)) 9 "law.go:51" #[Go.Edge.mk 19 Go.Ground.guard] (Option.some (19, Bool.true))) (v := ?d21_v) rfl (by kernel_rfl) (by kernel_rfl) (by kernel_rfl) (fun _ _ _ h => h) (Or.inl ⟨by rfl, ?d21_y⟩) (by assumption) ?_
      case d21_y => (intro w hSw; (try dsimp only at hSw); go_simp; (first | done | with_reducible rfl))
      try simp only [Act.put, List.setIfInBounds_toArray, List.set_cons_zero, List.set_cons_succ]
      refine wpAnyH_take (i := 21) (oi := Go.Oper.mk (Option.some 78) (Go.Op.call (Go.Call.mk (Go.Callee.builtin Go.Builtin.len) #[Go.Operand.tmp 77] #[9])) 3 "law.go:51" #[Go.Edge.mk 20 Go.Ground.data, Go.Edge.mk 19 Go.Ground.guard] (Option.some (19, Bool.true))) (v := ?d22_v) rfl (by kernel_rfl) (by kernel_rfl) (by kernel_rfl) (fun _ _ _ h => h) (Or.inl ⟨by rfl, ?d22_y⟩) (by assumption) ?_
      case d22_y => (intro w hSw; (try dsimp only at hSw); go_simp; (first | done | with_reducible rfl))
      try simp only [Act.put, List.setIfInBounds_toArray, List.set_cons_zero, List.set_cons_succ]
      refine wpAnyH_take (i := 22) (oi := Go.Oper.mk (Option.some 79) (Go.Op.binOp Go.BinOp.eql 3 (Go.Operand.tmp 78) (Go.Operand.const (Go.Value.int Go.IntKind.i64 33)) 3) 4 "law.go:51" #[Go.Edge.mk 21 Go.Ground.data, Go.Edge.mk 19 Go.Ground.guard] (Option.some (19, Bool.true))) (v := ?d23_v) rfl (by kernel_rfl) (by kernel_rfl) (by kernel_rfl) (fun _ _ _ h => h) (Or.inl ⟨by rfl, ?d23_y⟩) (by assumption) ?_
      case d23_y => (intro w hSw; (try dsimp only at hSw); go_simp; (first | done | with_reducible rfl))
      try simp only [Act.put, List.setIfInBounds_toArray, List.set_cons_zero, List.set_cons_succ]
      refine wpAnyH_take (i := 23) (oi := Go.Oper.mk (Option.some 80) (Go.Op.pick (Go.Operand.tmp 76) (Go.Operand.tmp 79) (Go.Operand.const (Go.Value.bool Bool.false))) 4 "law.go:51" #[Go.Edge.mk 19 Go.Ground.data, Go.Edge.mk 22 Go.Ground.data] Option.none) (v := ?d24_v) rfl (by kernel_rfl) (by kernel_rfl) (by kernel_rfl) (fun _ _ _ h => h) (Or.inl ⟨by rfl, ?d24_y⟩) (by assumption) ?_
      case d24_y => (intro w hSw; (try dsimp only at hSw); go_simp; (first | done | with_reducible rfl))
      try simp only [Act.put, List.setIfInBounds_toArray, List.set_cons_zero, List.set_cons_succ]
      refine wpAnyH_take (i := 24) (oi := Go.Oper.mk (Option.some 81) (Go.Op.move (Go.Operand.tmp 80)) 4 "law.go:51" #[Go.Edge.mk 23 Go.Ground.data, Go.Edge.mk 19 Go.Ground.chain] Option.none) (v := ?d25_v) rfl (by kernel_rfl) (by kernel_rfl) (by kernel_rfl) (fun _ _ _ h => h) (Or.inl ⟨by rfl, ?d25_y⟩) (by assumption) ?_
      case d25_y => (intro w hSw; (try dsimp only at hSw); go_simp; (first | done | with_reducible rfl))
      try simp only [Act.put, List.setIfInBounds_toArray, List.set_cons_zero, List.set_cons_succ]
      refine wpAnyH_take (i := 25) (oi := Go.Oper.mk (Option.some 82) (Go.Op.move (Go.Operand.tmp 1)) 9 "law.go:51" #[Go.Edge.mk 24 Go.Ground.guard] (Option.some (24, Bool.true))) (v := ?d26_v) rfl (by kernel_rfl) (by kernel_rfl) (by kernel_rfl) (fun _ _ _ h => h) (Or.inl ⟨by rfl, ?d26_y⟩) (by assumption) ?_
      case d26_y => (intro w hSw; (try dsimp only at hSw); go_simp; (first | done | with_reducible rfl))
      try simp only [Act.put, List.setIfInBounds_toArray, List.set_cons_zero, List.set_cons_succ]
      refine wpAnyH_take (i := 26) (oi := Go.Oper.mk (Option.some 83) (Go.Op.move (Go.Operand.tmp 2)) 9 "law.go:51" #[Go.Edge.mk 24 Go.Ground.guard] (Option.some (24, Bool.true))) (v := ?d27_v) rfl (by kernel_rfl) (by kernel_rfl) (by kernel_rfl) (fun _ _ _ h => h) (Or.inl ⟨by rfl, ?d27_y⟩) (by assumption) ?_
      case d27_y => (intro w hSw; (try dsimp only at hSw); go_simp; (first | done | with_reducible rfl))
      try simp only [Act.put, List.setIfInBounds_toArray, List.set_cons_zero, List.set_cons_succ]
      refine wpAnyH_take (i := 27) (oi := Go.Oper.mk (Option.some 84) (Go.Op.binOp Go.BinOp.neq 9 (Go.Operand.tmp 82) (Go.Operand.tmp 83) 9) 4 "law.go:51" #[Go.Edge.mk 25 Go.Ground.data, Go.Edge.mk 26 Go.Ground.data, Go.Edge.mk 24 Go.Ground.guard] (Option.some (24, Bool.true))) (v := ?d28_v) rfl (by kernel_rfl) (by kernel_rfl) (by kernel_rfl) (fun _ _ _ h => h) (Or.inl ⟨by rfl, ?d28_y⟩) (by assumption) ?_
      case d28_y => (intro w hSw; (try dsimp only at hSw); go_simp; (first | done | with_reducible rfl))
      try simp only [Act.put, List.setIfInBounds_toArray, List.set_cons_zero, List.set_cons_succ]
      refine wpAnyH_take (i := 28) (oi := Go.Oper.mk (Option.some 85) (Go.Op.move (Go.Operand.tmp 84)) 4 "law.go:51" #[Go.Edge.mk 27 Go.Ground.data, Go.Edge.mk 24 Go.Ground.chain, Go.Edge.mk 24 Go.Ground.guard] (Option.some (24, Bool.true))) (v := ?d29_v) rfl (by kernel_rfl) (by kernel_rfl) (by kernel_rfl) (fun _ _ _ h => h) (Or.inl ⟨by rfl, ?d29_y⟩) (by assumption) ?_
      case d29_y => (intro w hSw; (try dsimp only at hSw); go_simp; (first | done | with_reducible rfl))
      try simp only [Act.put, List.setIfInBounds_toArray, List.set_cons_zero, List.set_cons_succ]
      refine wpAnyH_take (i := 29) (oi := Go.Oper.mk (Option.some 86) (Go.Op.load 24 (Go.Operand.tmp 7)) 24 "law.go:51" #[Go.Edge.mk 28 Go.Ground.guard] (Option.some (28, Bool.false))) (v := undef) rfl (by kernel_rfl) (by kernel_rfl) (by kernel_rfl) (fun _ _ _ h => h) (Or.inr ⟨by rfl, rfl⟩) (by assumption) ?_
      try simp only [Act.put, List.setIfInBounds_toArray, List.set_cons_zero, List.set_cons_succ]
      refine wpAnyH_take (i := 30) (oi := Go.Oper.mk (Option.some 87) (Go.Op.load 24 (Go.Operand.tmp 9)) 24 "law.go:51" #[Go.Edge.mk 28 Go.Ground.guard] (Option.some (28, Bool.false))) (v := undef) rfl (by kernel_rfl) (by kernel_rfl) (by kernel_rfl) (fun _ _ _ h => h) (Or.inr ⟨by rfl, rfl⟩) (by assumption) ?_
      try simp only [Act.put, List.setIfInBounds_toArray, List.set_cons_zero, List.set_cons_succ]
      refine wpAnyH_take (i := 31) (oi := Go.Oper.mk (Option.some 88) (Go.Op.binOp Go.BinOp.eql 24 (Go.Operand.tmp 86) (Go.Operand.tmp 87) 24) 4 "law.go:51" #[Go.Edge.mk 29 Go.Ground.data, Go.Edge.mk 30 Go.Ground.data, Go.Edge.mk 28 Go.Ground.guard] (Option.some (28, Bool.false))) (v := undef) rfl (by kernel_rfl) (by kernel_rfl) (by kernel_rfl) (fun _ _ _ h => h) (Or.inr ⟨by rfl, rfl⟩) (by assumption) ?_
      try simp only [Act.put, List.setIfInBounds_toArray, List.set_cons_zero, List.set_cons_succ]
      refine wpAnyH_take (i := 32) (oi := Go.Oper.mk (Option.some 89) (Go.Op.pick (Go.Operand.tmp 85) (Go.Operand.const (Go.Value.bool Bool.true)) (Go.Operand.tmp 88)) 4 "law.go:51" #[Go.Edge.mk 28 Go.Ground.data, Go.Edge.mk 31 Go.Ground.data, Go.Edge.mk 24 Go.Ground.guard] (Option.some (24, Bool.true))) (v := ?d33_v) rfl (by kernel_rfl) (by kernel_rfl) (by kernel_rfl) (fun _ _ _ h => h) (Or.inl ⟨by rfl, ?d33_y⟩) (by assumption) ?_
      case d33_y => (intro w hSw; (try dsimp only at hSw); go_simp; (first | done | with_reducible rfl))
      try simp only [Act.put, List.setIfInBounds_toArray, List.set_cons_zero, List.set_cons_succ]
      refine wpAnyH_take (i := 33) (oi := Go.Oper.mk (Option.some 90) (Go.Op.pick (Go.Operand.tmp 81) (Go.Operand.tmp 89) (Go.Operand.const (Go.Value.bool Bool.false))) 4 "law.go:51" #[Go.Edge.mk 24 Go.Ground.data, Go.Edge.mk 32 Go.Ground.data] Option.none) (v := ?d34_v) rfl (by kernel_rfl) (by kernel_rfl) (by kernel_rfl) (fun _ _ _ h => h) (Or.inl ⟨by rfl, ?d34_y⟩) (by assumption) ?_
      case d34_y => (intro w hSw; (try dsimp only at hSw); go_simp; (first | done | with_reducible rfl))
      try simp only [Act.put, List.setIfInBounds_toArray, List.set_cons_zero, List.set_cons_succ]
      refine wpAnyH_take (i := 34) (oi := Go.Oper.mk (Option.some 91) (Go.Op.move (Go.Operand.tmp 90)) 4 "law.go:51" #[Go.Edge.mk 33 Go.Ground.data, Go.Edge.mk 28 Go.Ground.chain] Option.none) (v := ?d35_v) rfl (by kernel_rfl) (by kernel_rfl) (by kernel_rfl) (fun _ _ _ h => h) (Or.inl ⟨by rfl, ?d35_y⟩) (by assumption) ?_
      case d35_y => (intro w hSw; (try dsimp only at hSw); go_simp; (first | done | with_reducible rfl))
      try simp only [Act.put, List.setIfInBounds_toArray, List.set_cons_zero, List.set_cons_succ]
      refine wpAnyH_take (i := 35) (oi := Go.Oper.mk (Option.some 92) (Go.Op.load 24 (Go.Operand.tmp 7)) 24 "law.go:51" #[Go.Edge.mk 34 Go.Ground.guard] (Option.some (34, Bool.true))) (v := ?d36_v) rfl (by kernel_rfl) (by kernel_rfl) (by kernel_rfl) (fun _ _ _ h => h) (Or.inl ⟨by rfl, ?d36_y⟩) (by assumption) ?_
      case d36_y => (intro w hSw; (try dsimp only at hSw); go_simp; (first | done | with_reducible rfl))
      try simp only [Act.put, List.setIfInBounds_toArray, List.set_cons_zero, List.set_cons_succ]
      refine wpAnyH_take (i := 36) (oi := Go.Oper.mk (Option.some 93) (Go.Op.load 24 (Go.Operand.tmp 9)) 24 "law.go:51" #[Go.Edge.mk 34 Go.Ground.guard] (Option.some (34, Bool.true))) (v := ?d37_v) rfl (by kernel_rfl) (by kernel_rfl) (by kernel_rfl) (fun _ _ _ h => h) (Or.inl ⟨by rfl, ?d37_y⟩) (by assumption) ?_
      case d37_y => (intro w hSw; (try dsimp only at hSw); go_simp; (first | done | with_reducible rfl))
      try simp only [Act.put, List.setIfInBounds_toArray, List.set_cons_zero, List.set_cons_succ]
      refine wpAnyH_take (i := 39) (oi := Go.Oper.mk (Option.some 96) (Go.Op.load 24 (Go.Operand.tmp 7)) 24 "law.go:51" #[Go.Edge.mk 34 Go.Ground.guard] (Option.some (34, Bool.true))) (v := ?d38_v) rfl (by kernel_rfl) (by kernel_rfl) (by kernel_rfl) (fun _ _ _ h => h) (Or.inl ⟨by rfl, ?d38_y⟩) (by assumption) ?_
      case d38_y => (intro w hSw; (try dsimp only at hSw); go_simp; (first | done | with_reducible rfl))
      try simp only [Act.put, List.setIfInBounds_toArray, List.set_cons_zero, List.set_cons_succ]
      refine wpAnyH_take (i := 40) (oi := Go.Oper.mk (Option.some 97) (Go.Op.load 24 (Go.Operand.tmp 9)) 24 "law.go:51" #[Go.Edge.mk 34 Go.Ground.guard] (Option.some (34, Bool.true))) (v := ?d39_v) rfl (by kernel_rfl) (by kernel_rfl) (by kernel_rfl) (fun _ _ _ h => h) (Or.inl ⟨by rfl, ?d39_y⟩) (by assumption) ?_
      case d39_y => (intro w hSw; (try dsimp only at hSw); go_simp; (first | done | with_reducible rfl))
      try simp only [Act.put, List.setIfInBounds_toArray, List.set_cons_zero, List.set_cons_succ]
      refine wpAnyH_take (i := 41) (oi := Go.Oper.mk (Option.some 98) (Go.Op.binOp Go.BinOp.eql 24 (Go.Operand.tmp 96) (Go.Operand.tmp 97) 24) 4 "law.go:51" #[Go.Edge.mk 39 Go.Ground.data, Go.Edge.mk 40 Go.Ground.data, Go.Edge.mk 34 Go.Ground.guard] (Option.some (34, Bool.true))) (v := ?d40_v) rfl (by kernel_rfl) (by kernel_rfl) (by kernel_rfl) (fun _ _ _ h => h) (Or.inl ⟨by rfl, ?d40_y⟩) (by assumption) ?_
      case d40_y => (intro w hSw; (try dsimp only at hSw); go_simp; (first | done | with_reducible rfl))
      try simp only [Act.put, List.setIfInBounds_toArray, List.set_cons_zero, List.set_cons_succ]
      refine wpAnyH_ready (rs := [37]) (by kernel_rfl) (by simp) ?_
      refine AllReadyH.cons (i := 37) (o := Go.Oper.mk (Option.some 94) (Go.Op.call (Go.Call.mk (Go.Callee.value (Go.Operand.func 11)) #[Go.Operand.tmp 92, Go.Operand.tmp 93] #[24, 24])) 3 "law.go:51" #[Go.Edge.mk 35 Go.Ground.data, Go.Edge.mk 36 Go.Ground.data, Go.Edge.mk 34 Go.Ground.chain, Go.Edge.mk 34 Go.Ground.guard] (Option.some (34, Bool.true))) rfl (fun K hK => ?_) AllReadyH.nil
      go_simp
      (refine (C1.out _).mono ?_; rintro e w7 ⟨rfl, hb⟩; have HC1 : Box _ := ⟨bel_calls (bel_drew (Below.refl _ _)) hb⟩; clear hb)
      go_wp2_with fail
      refine hK.out _ _ ?d41_k37 (fun hHeld => ?_)
      case d41_k37 => (try dsimp only); exact KK.out _ HC1.out
      clear hK K
      try simp only [Act.put, List.setIfInBounds_toArray, List.set_cons_zero, List.set_cons_succ]
      refine wpAnyH_take (i := 38) (oi := Go.Oper.mk (Option.some 95) (Go.Op.binOp Go.BinOp.eql 3 (Go.Operand.tmp 94) (Go.Operand.const (Go.Value.int Go.IntKind.i64 0)) 3) 4 "law.go:51" #[Go.Edge.mk 37 Go.Ground.data, Go.Edge.mk 34 Go.Ground.guard] (Option.some (34, Bool.true))) (v := ?d42_v) rfl (by kernel_rfl) (by kernel_rfl) (by kernel_rfl) (fun _ _ _ h => h) (Or.inl ⟨by rfl, ?d42_y⟩) (by assumption) ?_
      case d42_y => (intro w hSw; (try dsimp only at hSw); go_simp; (first | done | with_reducible rfl))
      try simp only [Act.put, List.setIfInBounds_toArray, List.set_cons_zero, List.set_cons_succ]
      refine wpAnyH_take (i := 42) (oi := Go.Oper.mk (Option.some 99) (Go.Op.binOp Go.BinOp.eql 4 (Go.Operand.tmp 95) (Go.Operand.tmp 98) 4) 4 "law.go:51" #[Go.Edge.mk 38 Go.Ground.data, Go.Edge.mk 41 Go.Ground.data, Go.Edge.mk 34 Go.Ground.guard] (Option.some (34, Bool.true))) (v := ?d43_v) rfl (by kernel_rfl) (by kernel_rfl) (by kernel_rfl) (fun _ _ _ h => h) (Or.inl ⟨by rfl, ?d43_y⟩) (by assumption) ?_
      case d43_y => (intro w hSw; (try dsimp only at hSw); go_simp; (first | done | with_reducible rfl))
      try simp only [Act.put, List.setIfInBounds_toArray, List.set_cons_zero, List.set_cons_succ]
      refine wpAnyH_take (i := 43) (oi := Go.Oper.mk (Option.some 100) (Go.Op.pick (Go.Operand.tmp 91) (Go.Operand.tmp 99) (Go.Operand.const (Go.Value.bool Bool.false))) 4 "law.go:51" #[Go.Edge.mk 34 Go.Ground.data, Go.Edge.mk 42 Go.Ground.data] Option.none) (v := ?d44_v) rfl (by kernel_rfl) (by kernel_rfl) (by kernel_rfl) (fun _ _ _ h => h) (Or.inl ⟨by rfl, ?d44_y⟩) (by assumption) ?_
      case d44_y => (intro w hSw; (try dsimp only at hSw); go_simp; (first | done | with_reducible rfl))
      try simp only [Act.put, List.setIfInBounds_toArray, List.set_cons_zero, List.set_cons_succ]
      refine wpAnyH_take (i := 44) (oi := Go.Oper.mk (Option.some 101) (Go.Op.move (Go.Operand.tmp 100)) 4 "law.go:51" #[Go.Edge.mk 43 Go.Ground.data, Go.Edge.mk 37 Go.Ground.chain] Option.none) (v := ?d45_v) rfl (by kernel_rfl) (by kernel_rfl) (by kernel_rfl) (fun _ _ _ h => h) (Or.inl ⟨by rfl, ?d45_y⟩) (by assumption) ?_
      case d45_y => (intro w hSw; (try dsimp only at hSw); go_simp; (first | done | with_reducible rfl))
      try simp only [Act.put, List.setIfInBounds_toArray, List.set_cons_zero, List.set_cons_succ]
      refine wpAnyH_take (i := 45) (oi := Go.Oper.mk (Option.some 102) (Go.Op.load 24 (Go.Operand.tmp 7)) 24 "law.go:51" #[Go.Edge.mk 44 Go.Ground.guard] (Option.some (44, Bool.true))) (v := ?d46_v) rfl (by kernel_rfl) (by kernel_rfl) (by kernel_rfl) (fun _ _ _ h => h) (Or.inl ⟨by rfl, ?d46_y⟩) (by assumption) ?_
      case d46_y => (intro w hSw; (try dsimp only at hSw); go_simp; (first | done | with_reducible rfl))
      try simp only [Act.put, List.setIfInBounds_toArray, List.set_cons_zero, List.set_cons_succ]
      refine wpAnyH_take (i := 46) (oi := Go.Oper.mk (Option.some 103) (Go.Op.load 24 (Go.Operand.tmp 9)) 24 "law.go:51" #[Go.Edge.mk 44 Go.Ground.guard] (Option.some (44, Bool.true))) (v := ?d47_v) rfl (by kernel_rfl) (by kernel_rfl) (by kernel_rfl) (fun _ _ _ h => h) (Or.inl ⟨by rfl, ?d47_y⟩) (by assumption) ?_
      case d47_y => (intro w hSw; (try dsimp only at hSw); go_simp; (first | done | with_reducible rfl))
      try simp only [Act.put, List.setIfInBounds_toArray, List.set_cons_zero, List.set_cons_succ]
      refine wpAnyH_take (i := 48) (oi := Go.Oper.mk (Option.some 105) (Go.Op.load 24 (Go.Operand.tmp 9)) 24 "law.go:51" #[Go.Edge.mk 44 Go.Ground.guard] (Option.some (44, Bool.true))) (v := ?d48_v) rfl (by kernel_rfl) (by kernel_rfl) (by kernel_rfl) (fun _ _ _ h => h) (Or.inl ⟨by rfl, ?d48_y⟩) (by assumption) ?_
      case d48_y => (intro w hSw; (try dsimp only at hSw); go_simp; (first | done | with_reducible rfl))
      try simp only [Act.put, List.setIfInBounds_toArray, List.set_cons_zero, List.set_cons_succ]
      refine wpAnyH_take (i := 49) (oi := Go.Oper.mk (Option.some 106) (Go.Op.load 24 (Go.Operand.tmp 7)) 24 "law.go:51" #[Go.Edge.mk 44 Go.Ground.guard] (Option.some (44, Bool.true))) (v := ?d49_v) rfl (by kernel_rfl) (by kernel_rfl) (by kernel_rfl) (fun _ _ _ h => h) (Or.inl ⟨by rfl, ?d49_y⟩) (by assumption) ?_
      case d49_y => (intro w hSw; (try dsimp only at hSw); go_simp; (first | done | with_reducible rfl))
      try simp only [Act.put, List.setIfInBounds_toArray, List.set_cons_zero, List.set_cons_succ]
      refine wpAnyH_ready (rs := [47]) (by kernel_rfl) (by simp) ?_
      refine AllReadyH.cons (i := 47) (o := Go.Oper.mk (Option.some 104) (Go.Op.call (Go.Call.mk (Go.Callee.value (Go.Operand.func 11)) #[Go.Operand.tmp 102, Go.Operand.tmp 103] #[24, 24])) 3 "law.go:51" #[Go.Edge.mk 45 Go.Ground.data, Go.Edge.mk 46 Go.Ground.data, Go.Edge.mk 44 Go.Ground.chain, Go.Edge.mk 44 Go.Ground.guard] (Option.some (44, Bool.true))) rfl (fun K hK => ?_) AllReadyH.nil
      go_simp
      (refine (C1.out _).mono ?_; rintro e w8 ⟨rfl, hb⟩; have HC2 : Box _ := ⟨bel_calls HC1.out hb⟩; clear hb)
      go_wp2_with fail
      refine hK.out _ _ ?d50_k47 (fun hHeld => ?_)
      case d50_k47 => (try dsimp only); exact KK.out _ HC2.out
      clear hK K
      try simp only [Act.put, List.setIfInBounds_toArray, List.set_cons_zero, List.set_cons_succ]
      refine wpAnyH_ready (rs := [50]) (by kernel_rfl) (by simp) ?_
      refine AllReadyH.cons (i := 50) (o := Go.Oper.mk (Option.some 107) (Go.Op.call (Go.Call.mk (Go.Callee.value (Go.Operand.func 11)) #[Go.Operand.tmp 105, Go.Operand.tmp 106] #[24, 24])) 3 "law.go:51" #[Go.Edge.mk 48 Go.Ground.data, Go.Edge.mk 49 Go.Ground.data, Go.Edge.mk 47 Go.Ground.chain, Go.Edge.mk 44 Go.Ground.guard] (Option.some (44, Bool.true))) rfl (fun K hK => ?_) AllReadyH.nil
      go_simp
      (refine (C2.out _).mono ?_; rintro e w9 ⟨rfl, hb⟩; have HC3 : Box _ := ⟨bel_calls HC2.out hb⟩; clear hb)
      go_wp2_with fail
      refine hK.out _ _ ?d51_k50 (fun hHeld => ?_)
      case d51_k50 => (try dsimp only); exact KK.out _ HC3.out
      clear hK K
      try simp only [Act.put, List.setIfInBounds_toArray, List.set_cons_zero, List.set_cons_succ]
      refine wpAnyH_take (i := 51) (oi := Go.Oper.mk (Option.some 108) (Go.Op.unOp Go.UnOp.neg 3 (Go.Operand.tmp 107)) 3 "law.go:51" #[Go.Edge.mk 50 Go.Ground.data, Go.Edge.mk 44 Go.Ground.guard] (Option.some (44, Bool.true))) (v := ?d52_v) rfl (by kernel_rfl) (by kernel_rfl) (by kernel_rfl) (fun _ _ _ h => h) (Or.inl ⟨by rfl, ?d52_y⟩) (by assumption) ?_
      case d52_y => (intro w hSw; (try dsimp only at hSw); go_simp; (first | done | with_reducible rfl))
      try simp only [Act.put, List.setIfInBounds_toArray, List.set_cons_zero, List.set_cons_succ]
      refine wpAnyH_take (i := 52) (oi := Go.Oper.mk (Option.some 109) (Go.Op.binOp Go.BinOp.eql 3 (Go.Operand.tmp 104) (Go.Operand.tmp 108) 3) 4 "law.go:51" #[Go.Edge.mk 47 Go.Ground.data, Go.Edge.mk 51 Go.Ground.data, Go.Edge.mk 44 Go.Ground.guard] (Option.some (44, Bool.true))) (v := ?d53_v) rfl (by kernel_rfl) (by kernel_rfl) (by kernel_rfl) (fun _ _ _ h => h) (Or.inl ⟨by rfl, ?d53_y⟩) (by assumption) ?_
      case d53_y => (intro w hSw; (try dsimp only at hSw); go_simp; (first | done | with_reducible rfl))
      try simp only [Act.put, List.setIfInBounds_toArray, List.set_cons_zero, List.set_cons_succ]
      refine wpAnyH_take (i := 53) (oi := Go.Oper.mk (Option.some 110) (Go.Op.pick (Go.Operand.tmp 101) (Go.Operand.tmp 109) (Go.Operand.const (Go.Value.bool Bool.false))) 4 "law.go:51" #[Go.Edge.mk 44 Go.Ground.data, Go.Edge.mk 52 Go.Ground.data] Option.none) (v := ?d54_v) rfl (by kernel_rfl) (by kernel_rfl) (by kernel_rfl) (fun _ _ _ h => h) (Or.inl ⟨by rfl, ?d54_y⟩) (by assumption) ?_
      case d54_y => (intro w hSw; (try dsimp only at hSw); go_simp; (first | done | with_reducible rfl))
      try simp only [Act.put, List.setIfInBounds_toArray, List.set_cons_zero, List.set_cons_succ]
      refine wpAnyH_take (i := 54) (oi := Go.Oper.mk (Option.some 6) (Go.Op.assign (Go.Operand.tmp 110)) 4 "law.go:51" #[Go.Edge.mk 53 Go.Ground.data, Go.Edge.mk 50 Go.Ground.chain, Go.Edge.mk 0 Go.Ground.phase, Go.Edge.mk 1 Go.Ground.phase, Go.Edge.mk 2 Go.Ground.phase, Go.Edge.mk 3 Go.Ground.phase, Go.Edge.mk 4 Go.Ground.phase, Go.Edge.mk 5 Go.Ground.phase, Go.Edge.mk 6 Go.Ground.phase, Go.Edge.mk 7 Go.Ground.phase, Go.Edge.mk 8 Go.Ground.phase, Go.Edge.mk 9 Go.Ground.phase, Go.Edge.mk 10 Go.Ground.phase, Go.Edge.mk 11 Go.Ground.phase, Go.Edge.mk 12 Go.Ground.phase, Go.Edge.mk 13 Go.Ground.phase, Go.Edge.mk 14 Go.Ground.phase, Go.Edge.mk 15 Go.Ground.phase, Go.Edge.mk 16 Go.Ground.phase, Go.Edge.mk 17 Go.Ground.phase, Go.Edge.mk 18 Go.Ground.phase, Go.Edge.mk 19 Go.Ground.phase, Go.Edge.mk 20 Go.Ground.phase, Go.Edge.mk 21 Go.Ground.phase, Go.Edge.mk 22 Go.Ground.phase, Go.Edge.mk 23 Go.Ground.phase, Go.Edge.mk 24 Go.Ground.phase, Go.Edge.mk 25 Go.Ground.phase, Go.Edge.mk 26 Go.Ground.phase, Go.Edge.mk 27 Go.Ground.phase, Go.Edge.mk 28 Go.Ground.phase, Go.Edge.mk 29 Go.Ground.phase, Go.Edge.mk 30 Go.Ground.phase, Go.Edge.mk 31 Go.Ground.phase, Go.Edge.mk 32 Go.Ground.phase, Go.Edge.mk 33 Go.Ground.phase, Go.Edge.mk 34 Go.Ground.phase, Go.Edge.mk 35 Go.Ground.phase, Go.Edge.mk 36 Go.Ground.phase, Go.Edge.mk 37 Go.Ground.phase, Go.Edge.mk 38 Go.Ground.phase, Go.Edge.mk 39 Go.Ground.phase, Go.Edge.mk 40 Go.Ground.phase, Go.Edge.mk 41 Go.Ground.phase, Go.Edge.mk 42 Go.Ground.phase, Go.Edge.mk 43 Go.Ground.phase, Go.Edge.mk 44 Go.Ground.phase, Go.Edge.mk 45 Go.Ground.phase, Go.Edge.mk 46 Go.Ground.phase, Go.Edge.mk 47 Go.Ground.phase, Go.Edge.mk 48 Go.Ground.phase, Go.Edge.mk 49 Go.Ground.phase, Go.Edge.mk 50 Go.Ground.phase, Go.Edge.mk 51 Go.Ground.phase, Go.Edge.mk 52 Go.Ground.phase, Go.Edge.mk 53 Go.Ground.phase] Option.none) (v := ?d55_v) rfl (by kernel_rfl) (by kernel_rfl) (by kernel_rfl) (fun _ _ _ h => h) (Or.inl ⟨by rfl, ?d55_y⟩) (by assumption) ?_
      case d55_y => (intro w hSw; (try dsimp only at hSw); go_simp; (first | done | with_reducible rfl))
      try simp only [Act.put, List.setIfInBounds_toArray, List.set_cons_zero, List.set_cons_succ]
      refine wpAnyH_done (by kernel_rfl) ?_ _
      go_wp2_with fail
      go_ret
      exact ⟨rfl, bel_calls HB5.out HC3.out⟩
end Go.Proofs.YtbkankpfkbafdaaDoor
