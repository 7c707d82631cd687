/- MarkOrder: prints stand in one order; the short number is that of the first two bytes. -/
import Derived.Test.YtbkankpfkbafdaaBundle8
namespace Go.Proofs.Ytbkankpfkbafdaa
open Go.RowKit
set_option linter.unusedVariables false
theorem hexB_size (s : ByteArray) : (hexB s).size = 2 * s.size := by rw [hexB, mk_size, hexL_length, data_length]
theorem hashM_range (s : ByteArray) : 0 ≤ hashM s ∧ hashM s < 65536 := by
  by_cases h : s.size < 2
  · rw [hash_short s h]; omega
  · have e := hash_two s (by omega)
    have h0 := s[0].toNat_lt
    have h1 := s[1].toNat_lt
    omega
/-- What of three prints is known beforehand. -/
structure Three (k1 : Int) (s1 : ByteArray) (k2 : Int) (s2 : ByteArray) (k3 : Int) (s3 : ByteArray) (a b c : Int) : Prop where
  e1 : cmpM k1 s1 k2 s2 = a
  e1' : cmpM k2 s2 k1 s1 = -a
  e2 : cmpM k2 s2 k3 s3 = b
  e3 : cmpM k1 s1 k3 s3 = c
  r1 : -1 ≤ a ∧ a ≤ 1
  r2 : -1 ≤ b ∧ b ≤ 1
  r3 : -1 ≤ c ∧ c ≤ 1
  t1 : a ≤ 0 → b ≤ 0 → c ≤ 0
  t2 : 0 ≤ a → 0 ≤ b → 0 ≤ c
theorem three (k1 : Int) (s1 : ByteArray) (k2 : Int) (s2 : ByteArray) (k3 : Int) (s3 : ByteArray) : ∃ a b c, Three k1 s1 k2 s2 k3 s3 a b c := by
  refine ⟨_, _, _, rfl, cmpM_neg _ _ _ _, rfl, rfl, ?_, ?_, ?_, cmpM_trans, ?_⟩
  · rcases cmpM_vals k1 s1 k2 s2 with h | h | h <;> omega
  · rcases cmpM_vals k2 s2 k3 s3 with h | h | h <;> omega
  · rcases cmpM_vals k1 s1 k3 s3 with h | h | h <;> omega
  · intro h1 h2
    have n1 := cmpM_neg k1 s1 k2 s2
    have n2 := cmpM_neg k2 s2 k3 s3
    have n3 := cmpM_neg k1 s1 k3 s3
    have := cmpM_trans (k1 := k3) (s1 := s3) (k2 := k2) (s2 := s2) (k3 := k1) (s3 := s1) (by omega) (by omega)
    omega
set_option maxHeartbeats 6400000 in
set_option maxRecDepth 100000 in
theorem markOrder_main (k1 : Int) (s1 : ByteArray) (k2 : Int) (s2 : ByteArray) (k3 : Int) (s3 : ByteArray) (a b c : Int) (w : World) (g1 : s1.size ≤ 60) (g2 : s2.size ≤ 60) (g3 : s3.size ≤ 60) (hT : Three k1 s1 k2 s2 k3 s3 a b c)
    (hc : (a = 0 ∧ k1 = k2 ∧ s1 = s2) ∨ (a ≠ 0 ∧ k1 ≠ k2) ∨ (a ≠ 0 ∧ k1 = k2 ∧ s1 ≠ s2)) :
    Calls Try.prog 3 #[.agg #[.int .i64 k1, .string s1], .agg #[.int .i64 k2, .string s2], .agg #[.int .i64 k3, .string s3]] w fun e w' => e = .returned (.bool true) ∧ Below w.heap.size w w' := by
  have HT : Box _ := ⟨hT⟩
  have C1 : Box (∀ W, _) := ⟨fun W => compare_calls k1 s1 k2 s2 W⟩
  have C2 : Box (∀ W, _) := ⟨fun W => compare_calls k2 s2 k3 s3 W⟩
  have C3 : Box (∀ W, _) := ⟨fun W => compare_calls k1 s1 k3 s3 W⟩
  have C4 : Box (∀ W, _) := ⟨fun W => compare_calls k2 s2 k1 s1 W⟩
  rw [hT.e1] at C1
  rw [hT.e2] at C2
  rw [hT.e3] at C3
  rw [hT.e1'] at C4
  have HH : Box (∀ W, _) := ⟨fun W => hash_calls k1 s1 W (by omega)⟩
  have HH2 : Box (∀ W, _) := ⟨fun W => refHash_calls k1 s1 W⟩
  have HX : Box (∀ W, _) := ⟨fun W => text_calls k1 s1 W (by omega)⟩
  have hx : ((hexB s1).size : Int) = 2 * (s1.size : Int) := by rw [hexB_size]; omega
  obtain ⟨X, hX⟩ : ∃ X, hexB s1 = X := ⟨_, rfl⟩
  rw [hX] at HX hx
  have hr := hashM_range s1
  obtain ⟨h, hh⟩ : ∃ h, hashM s1 = h := ⟨_, rfl⟩
  rw [hh] at HH HH2 hr
  have HXs : Box _ := ⟨hx⟩
  have HHr : Box _ := ⟨hr⟩
  have b0 : decide ((60 : Int) < (s1.size : Int)) = false := decide_eq_false (by omega)
  have b1 : decide ((60 : Int) < (s2.size : Int)) = false := decide_eq_false (by omega)
  have b2 : decide ((60 : Int) < (s3.size : Int)) = false := decide_eq_false (by omega)
  have HG : Box (s1.size ≤ 60) := ⟨g1⟩
  have HC : Box _ := ⟨hc⟩
  clear hT hX hx hh hr g1 g2 g3 hc
  have P1 := PrintAt.new w k1 s1
  have P2 := PrintAt.new (w.alloc (.cells #[.int .i64 k1, .string s1] 23)) k2 s2
  have P3 := PrintAt.new ((w.alloc (.cells #[.int .i64 k1, .string s1] 23)).alloc (.cells #[.int .i64 k2, .string s2] 23)) k3 s3
  have z1 : (w.alloc (.cells #[.int .i64 k1, .string s1] 23)).heap.size = w.heap.size + 1 := by simp
  have z2 : ((w.alloc (.cells #[.int .i64 k1, .string s1] 23)).alloc (.cells #[.int .i64 k2, .string s2] 23)).heap.size = w.heap.size + 1 + 1 := by simp
  rw [z1] at P2
  rw [z2] at P3
  have P1' := (P1.below (bel_alloc (Below.refl _ _) (.cells #[.int .i64 k2, .string s2] 23))).below (bel_alloc (Below.refl _ _) (.cells #[.int .i64 k3, .string s3] 23))
  have P2' := P2.below (bel_alloc (Below.refl _ _) (.cells #[.int .i64 k3, .string s3] 23))
  have HB0 : Box _ := ⟨bel_alloc (bel_alloc (bel_alloc (Below.refl w.heap.size w) (.cells #[.int .i64 k1, .string s1] 23)) (.cells #[.int .i64 k2, .string s2] 23)) (.cells #[.int .i64 k3, .string s3] 23)⟩
  have HP1 : Box _ := ⟨P1'⟩
  have HP2 : Box _ := ⟨P2'⟩
  have HP3 : Box _ := ⟨P3⟩
  clear P1 P2 P3 P1' P2' z1 z2
  go_enter Try.func3, Try.ntmps3
  go_wp2_with fail
  refine (markAlive_calls _).mono ?_
  rintro e w1 ⟨rfl, hb1⟩
  have Q1 : Box _ := ⟨HP1.out.below hb1⟩
  have Q2 : Box _ := ⟨HP2.out.below hb1⟩
  have Q3 : Box _ := ⟨HP3.out.below hb1⟩
  have HB1 : Box _ := ⟨bel_calls HB0.out hb1⟩
  have KK : Box (∀ W, Below w1.heap.size w1 W → W.cell? ⟨w.heap.size, 0, none⟩ = some (.int .i64 k1) ∧ W.cell? ⟨w.heap.size, 1, none⟩ = some (.string s1) ∧ W.cell? ⟨w.heap.size + 1, 0, none⟩ = some (.int .i64 k2) ∧ W.cell? ⟨w.heap.size + 1, 1, none⟩ = some (.string s2) ∧ W.cell? ⟨w.heap.size + 1 + 1, 0, none⟩ = some (.int .i64 k3) ∧ W.cell? ⟨w.heap.size + 1 + 1, 1, none⟩ = some (.string s3)) :=
    ⟨fun W h => ⟨(Q1.out.below h).c0, (Q1.out.below h).c1, (Q2.out.below h).c0, (Q2.out.below h).c1, (Q3.out.below h).c0, (Q3.out.below h).c1⟩⟩
  clear hb1 b0 b1 b2 HP1 HP2 HP3 HB0
  go_wp2_with fail
  go_region_held3 (fun W => W.cell? ⟨w.heap.size, 0, none⟩ = some (.int .i64 k1) ∧ W.cell? ⟨w.heap.size, 1, none⟩ = some (.string s1) ∧ W.cell? ⟨w.heap.size + 1, 0, none⟩ = some (.int .i64 k2) ∧ W.cell? ⟨w.heap.size + 1, 1, none⟩ = some (.string s2) ∧ W.cell? ⟨w.heap.size + 1 + 1, 0, none⟩ = some (.int .i64 k3) ∧ W.cell? ⟨w.heap.size + 1 + 1, 1, none⟩ = some (.string s3))
    (first | exact KK.out _ HC3.out | exact KK.out _ HC2.out | exact KK.out _ HC1.out | exact KK.out _ (bel_drew (Below.refl _ _)))
    (first
      | (go_at_call 7; revert HC2; intro HC2; refine (C3.out _).mono ?_; rintro e w9 ⟨rfl, hb⟩; have HC3 : Box _ := ⟨bel_calls HC2.out hb⟩; clear hb)
      | (go_at_call 7; revert HC1; intro HC1; refine (C2.out _).mono ?_; rintro e w8 ⟨rfl, hb⟩; have HC2 : Box _ := ⟨bel_calls HC1.out hb⟩; clear hb)
      | (go_at_call 7; refine (C1.out _).mono ?_; rintro e w7 ⟨rfl, hb⟩; have HC1 : Box _ := ⟨bel_calls (bel_drew (Below.refl _ _)) hb⟩; clear hb))
  have HR := HT.out.r1
  obtain ⟨c0, c1, c2, c3, c4, c5⟩ := KK.out _ HC3.out
  go_wp2_with fail
  refine (C4.out _).mono ?_
  rintro e w10 ⟨rfl, hb⟩
  have HC4 : Box _ := ⟨bel_calls HC3.out hb⟩
  clear hb c0 c1 c2 c3 c4 c5
  obtain ⟨c0, c1, c2, c3, c4, c5⟩ := KK.out _ HC4.out
  have y1 := IntWalk.i64_in (- -a) (by omega)
  have y2 : - -a = a := by omega
  have KK1 : Box (∀ W, Below w1.heap.size w1 W → W.cell? ⟨w.heap.size, 0, none⟩ = some (.int .i64 k1) ∧ W.cell? ⟨w.heap.size, 1, none⟩ = some (.string s1)) := ⟨fun W h => ⟨(KK.out W h).1, (KK.out W h).2.1⟩⟩
  rcases HC.out with ⟨ha, hk, hs⟩ | ⟨ha, hk⟩ | ⟨ha, hk, hs⟩
  · subst ha hk hs
    go_wp2_with fail
    all_goals first
      | (exfalso; have q1 := HT.out.t1; have q2 := HT.out.t2; omega)
      | skip
    all_goals
      refine (HH.out _).mono ?_
      rintro e w11 ⟨rfl, hb⟩
      have HC5 : Box _ := ⟨bel_calls HC4.out hb⟩
      clear hb c0 c1 c2 c3 c4 c5
      have hr0 := HHr.out.1
      have hr1 := HHr.out.2
      have hxs := HXs.out
      have hgs := HG.out
      have hws := IntWalk.i64_in (2 * (s1.size : Int)) (by omega)
      go_wp2_with fail
      refine wp_region_held_drew (S := (fun w' => w'.cell? ⟨w.heap.size, 0, none⟩ = some (.int .i64 k1) ∧ w'.cell? ⟨w.heap.size, 1, none⟩ = some (.string s1))) (by kernel_rfl) ?aS (fun hHeld => ?_)
      case aS => (try dsimp only); exact KK1.out _ (bel_drew HC5.out)
      refine wpAnyH_take (i := 0) (oi := Go.Oper.mk (Option.some 87) (Go.Op.move (Go.Operand.tmp 10)) 3 "more.go:24" #[] Option.none) (v := ?a1_v) rfl (by kernel_rfl) (by kernel_rfl) (by kernel_rfl) (fun _ _ _ h => h) (Or.inl ⟨by rfl, ?a1_y⟩) (by assumption) ?_
      case a1_y => (intro w hSw; (try dsimp only at hSw); go_simp; (first | done | with_reducible rfl))
      try simp only [Act.put, List.setIfInBounds_toArray, List.set_cons_zero, List.set_cons_succ]
      refine wpAnyH_take (i := 1) (oi := Go.Oper.mk (Option.some 88) (Go.Op.load 23 (Go.Operand.tmp 3)) 23 "more.go:24" #[] Option.none) (v := ?a2_v) rfl (by kernel_rfl) (by kernel_rfl) (by kernel_rfl) (fun _ _ _ h => h) (Or.inl ⟨by rfl, ?a2_y⟩) (by assumption) ?_
      case a2_y => (intro w hSw; (try dsimp only at hSw); go_simp; (first | done | with_reducible rfl))
      try simp only [Act.put, List.setIfInBounds_toArray, List.set_cons_zero, List.set_cons_succ]
      refine wpAnyH_ready (rs := [2]) (by kernel_rfl) (by simp) ?_
      refine AllReadyH.cons (i := 2) (o := Go.Oper.mk (Option.some 89) (Go.Op.call (Go.Call.mk (Go.Callee.value (Go.Operand.func 9)) #[Go.Operand.tmp 88] #[23])) 3 "more.go:24" #[Go.Edge.mk 1 Go.Ground.data] Option.none) rfl (fun K hK => ?_) AllReadyH.nil
      go_simp
      (refine (HH2.out _).mono ?_; rintro e w12 ⟨rfl, hb⟩; have HC6 : Box _ := ⟨bel_calls (bel_drew HC5.out) hb⟩; clear hb)
      go_wp2_with fail
      refine hK.out _ _ ?a3_k2 (fun hHeld => ?_)
      case a3_k2 => (try dsimp only); exact KK1.out _ HC6.out
      clear hK K
      try simp only [Act.put, List.setIfInBounds_toArray, List.set_cons_zero, List.set_cons_succ]
      refine wpAnyH_take (i := 3) (oi := Go.Oper.mk (Option.some 90) (Go.Op.binOp Go.BinOp.eql 3 (Go.Operand.tmp 87) (Go.Operand.tmp 89) 3) 4 "more.go:24" #[Go.Edge.mk 0 Go.Ground.data, Go.Edge.mk 2 Go.Ground.data] Option.none) (v := ?a4_v) rfl (by kernel_rfl) (by kernel_rfl) (by kernel_rfl) (fun _ _ _ h => h) (Or.inl ⟨by rfl, ?a4_y⟩) (by assumption) ?_
      case a4_y => (intro w hSw; (try dsimp only at hSw); go_simp; (first | done | with_reducible rfl))
      try simp only [Act.put, List.setIfInBounds_toArray, List.set_cons_zero, List.set_cons_succ]
      refine wpAnyH_take (i := 4) (oi := Go.Oper.mk (Option.some 91) (Go.Op.move (Go.Operand.tmp 90)) 4 "more.go:24" #[Go.Edge.mk 3 Go.Ground.data, Go.Edge.mk 2 Go.Ground.chain] Option.none) (v := ?a5_v) rfl (by kernel_rfl) (by kernel_rfl) (by kernel_rfl) (fun _ _ _ h => h) (Or.inl ⟨by rfl, ?a5_y⟩) (by assumption) ?_
      case a5_y => (intro w hSw; (try dsimp only at hSw); go_simp; (first | done | with_reducible rfl))
      try simp only [Act.put, List.setIfInBounds_toArray, List.set_cons_zero, List.set_cons_succ]
      refine wpAnyH_take (i := 5) (oi := Go.Oper.mk (Option.some 92) (Go.Op.move (Go.Operand.tmp 10)) 3 "more.go:24" #[Go.Edge.mk 4 Go.Ground.guard] (Option.some (4, Bool.true))) (v := ?a6_v) rfl (by kernel_rfl) (by kernel_rfl) (by kernel_rfl) (fun _ _ _ h => h) (Or.inl ⟨by rfl, ?a6_y⟩) (by assumption) ?_
      case a6_y => (intro w hSw; (try dsimp only at hSw); go_simp; (first | done | with_reducible rfl))
      try simp only [Act.put, List.setIfInBounds_toArray, List.set_cons_zero, List.set_cons_succ]
      refine wpAnyH_take (i := 6) (oi := Go.Oper.mk (Option.some 93) (Go.Op.binOp Go.BinOp.geq 3 (Go.Operand.tmp 92) (Go.Operand.const (Go.Value.int Go.IntKind.i64 0)) 3) 4 "more.go:24" #[Go.Edge.mk 5 Go.Ground.data, Go.Edge.mk 4 Go.Ground.guard] (Option.some (4, Bool.true))) (v := ?a7_v) rfl (by kernel_rfl) (by kernel_rfl) (by kernel_rfl) (fun _ _ _ h => h) (Or.inl ⟨by rfl, ?a7_y⟩) (by assumption) ?_
      case a7_y => (intro w hSw; (try dsimp only at hSw); go_simp; (first | done | with_reducible rfl))
      try simp only [Act.put, List.setIfInBounds_toArray, List.set_cons_zero, List.set_cons_succ]
      refine wpAnyH_take (i := 7) (oi := Go.Oper.mk (Option.some 94) (Go.Op.pick (Go.Operand.tmp 91) (Go.Operand.tmp 93) (Go.Operand.const (Go.Value.bool Bool.false))) 4 "more.go:24" #[Go.Edge.mk 4 Go.Ground.data, Go.Edge.mk 6 Go.Ground.data] Option.none) (v := ?a8_v) rfl (by kernel_rfl) (by kernel_rfl) (by kernel_rfl) (fun _ _ _ h => h) (Or.inl ⟨by rfl, ?a8_y⟩) (by assumption) ?_
      case a8_y => (intro w hSw; (try dsimp only at hSw); go_simp; (first | done | with_reducible rfl))
      try simp only [Act.put, List.setIfInBounds_toArray, List.set_cons_zero, List.set_cons_succ]
      refine wpAnyH_take (i := 8) (oi := Go.Oper.mk (Option.some 95) (Go.Op.move (Go.Operand.tmp 94)) 4 "more.go:24" #[Go.Edge.mk 7 Go.Ground.data, Go.Edge.mk 4 Go.Ground.chain] Option.none) (v := ?a9_v) rfl (by kernel_rfl) (by kernel_rfl) (by kernel_rfl) (fun _ _ _ h => h) (Or.inl ⟨by rfl, ?a9_y⟩) (by assumption) ?_
      case a9_y => (intro w hSw; (try dsimp only at hSw); go_simp; (first | done | with_reducible rfl))
      try simp only [Act.put, List.setIfInBounds_toArray, List.set_cons_zero, List.set_cons_succ]
      refine wpAnyH_take (i := 9) (oi := Go.Oper.mk (Option.some 96) (Go.Op.move (Go.Operand.tmp 10)) 3 "more.go:24" #[Go.Edge.mk 8 Go.Ground.guard] (Option.some (8, Bool.true))) (v := ?a10_v) rfl (by kernel_rfl) (by kernel_rfl) (by kernel_rfl) (fun _ _ _ h => h) (Or.inl ⟨by rfl, ?a10_y⟩) (by assumption) ?_
      case a10_y => (intro w hSw; (try dsimp only at hSw); go_simp; (first | done | with_reducible rfl))
      try simp only [Act.put, List.setIfInBounds_toArray, List.set_cons_zero, List.set_cons_succ]
      refine wpAnyH_take (i := 10) (oi := Go.Oper.mk (Option.some 97) (Go.Op.binOp Go.BinOp.lss 3 (Go.Operand.tmp 96) (Go.Operand.const (Go.Value.int Go.IntKind.i64 65536)) 3) 4 "more.go:24" #[Go.Edge.mk 9 Go.Ground.data, Go.Edge.mk 8 Go.Ground.guard] (Option.some (8, Bool.true))) (v := ?a11_v) rfl (by kernel_rfl) (by kernel_rfl) (by kernel_rfl) (fun _ _ _ h => h) (Or.inl ⟨by rfl, ?a11_y⟩) (by assumption) ?_
      case a11_y => (intro w hSw; (try dsimp only at hSw); go_simp; (first | done | with_reducible rfl))
      try simp only [Act.put, List.setIfInBounds_toArray, List.set_cons_zero, List.set_cons_succ]
      refine wpAnyH_take (i := 11) (oi := Go.Oper.mk (Option.some 98) (Go.Op.pick (Go.Operand.tmp 95) (Go.Operand.tmp 97) (Go.Operand.const (Go.Value.bool Bool.false))) 4 "more.go:24" #[Go.Edge.mk 8 Go.Ground.data, Go.Edge.mk 10 Go.Ground.data] Option.none) (v := ?a12_v) rfl (by kernel_rfl) (by kernel_rfl) (by kernel_rfl) (fun _ _ _ h => h) (Or.inl ⟨by rfl, ?a12_y⟩) (by assumption) ?_
      case a12_y => (intro w hSw; (try dsimp only at hSw); go_simp; (first | done | with_reducible rfl))
      try simp only [Act.put, List.setIfInBounds_toArray, List.set_cons_zero, List.set_cons_succ]
      refine wpAnyH_take (i := 12) (oi := Go.Oper.mk (Option.some 99) (Go.Op.move (Go.Operand.tmp 98)) 4 "more.go:24" #[Go.Edge.mk 11 Go.Ground.data, Go.Edge.mk 8 Go.Ground.chain] Option.none) (v := ?a13_v) rfl (by kernel_rfl) (by kernel_rfl) (by kernel_rfl) (fun _ _ _ h => h) (Or.inl ⟨by rfl, ?a13_y⟩) (by assumption) ?_
      case a13_y => (intro w hSw; (try dsimp only at hSw); go_simp; (first | done | with_reducible rfl))
      try simp only [Act.put, List.setIfInBounds_toArray, List.set_cons_zero, List.set_cons_succ]
      refine wpAnyH_take (i := 13) (oi := Go.Oper.mk (Option.some 100) (Go.Op.load 23 (Go.Operand.tmp 3)) 23 "more.go:24" #[Go.Edge.mk 12 Go.Ground.guard] (Option.some (12, Bool.true))) (v := ?a14_v) rfl (by kernel_rfl) (by kernel_rfl) (by kernel_rfl) (fun _ _ _ h => h) (Or.inl ⟨by rfl, ?a14_y⟩) (by assumption) ?_
      case a14_y => (intro w hSw; (try dsimp only at hSw); go_simp; (first | done | with_reducible rfl))
      try simp only [Act.put, List.setIfInBounds_toArray, List.set_cons_zero, List.set_cons_succ]
      refine wpAnyH_take (i := 16) (oi := Go.Oper.mk (Option.some 103) (Go.Op.fieldAddr 23 (Go.Operand.tmp 3) 1) 0 "more.go:24" #[Go.Edge.mk 12 Go.Ground.guard] (Option.some (12, Bool.true))) (v := ?a15_v) rfl (by kernel_rfl) (by kernel_rfl) (by kernel_rfl) (fun _ _ _ h => h) (Or.inl ⟨by rfl, ?a15_y⟩) (by assumption) ?_
      case a15_y => (intro w hSw; (try dsimp only at hSw); go_simp; (first | done | with_reducible rfl))
      try simp only [Act.put, List.setIfInBounds_toArray, List.set_cons_zero, List.set_cons_succ]
      refine wpAnyH_take (i := 17) (oi := Go.Oper.mk (Option.some 104) (Go.Op.load 9 (Go.Operand.tmp 103)) 9 "more.go:24" #[Go.Edge.mk 16 Go.Ground.data, Go.Edge.mk 12 Go.Ground.guard] (Option.some (12, Bool.true))) (v := ?a16_v) rfl (by kernel_rfl) (by kernel_rfl) (by kernel_rfl) (fun _ _ _ h => h) (Or.inl ⟨by rfl, ?a16_y⟩) (by assumption) ?_
      case a16_y => (intro w hSw; (try dsimp only at hSw); go_simp; (first | done | with_reducible rfl))
      try simp only [Act.put, List.setIfInBounds_toArray, List.set_cons_zero, List.set_cons_succ]
      refine wpAnyH_take (i := 18) (oi := Go.Oper.mk (Option.some 105) (Go.Op.call (Go.Call.mk (Go.Callee.builtin Go.Builtin.len) #[Go.Operand.tmp 104] #[9])) 3 "more.go:24" #[Go.Edge.mk 17 Go.Ground.data, Go.Edge.mk 12 Go.Ground.guard] (Option.some (12, Bool.true))) (v := ?a17_v) rfl (by kernel_rfl) (by kernel_rfl) (by kernel_rfl) (fun _ _ _ h => h) (Or.inl ⟨by rfl, ?a17_y⟩) (by assumption) ?_
      case a17_y => (intro w hSw; (try dsimp only at hSw); go_simp; (first | done | with_reducible rfl))
      try simp only [Act.put, List.setIfInBounds_toArray, List.set_cons_zero, List.set_cons_succ]
      refine wpAnyH_take (i := 19) (oi := Go.Oper.mk (Option.some 106) (Go.Op.binOp Go.BinOp.mul 3 (Go.Operand.const (Go.Value.int Go.IntKind.i64 2)) (Go.Operand.tmp 105) 3) 3 "more.go:24" #[Go.Edge.mk 18 Go.Ground.data, Go.Edge.mk 12 Go.Ground.guard] (Option.some (12, Bool.true))) (v := ?a18_v) rfl (by kernel_rfl) (by kernel_rfl) (by kernel_rfl) (fun _ _ _ h => h) (Or.inl ⟨by rfl, ?a18_y⟩) (by assumption) ?_
      case a18_y => (intro w hSw; (try dsimp only at hSw); go_simp; (first | done | with_reducible rfl))
      try simp only [Act.put, List.setIfInBounds_toArray, List.set_cons_zero, List.set_cons_succ]
      refine wpAnyH_ready (rs := [14]) (by kernel_rfl) (by simp) ?_
      refine AllReadyH.cons (i := 14) (o := Go.Oper.mk (Option.some 101) (Go.Op.call (Go.Call.mk (Go.Callee.value (Go.Operand.func 10)) #[Go.Operand.tmp 100] #[23])) 9 "more.go:24" #[Go.Edge.mk 13 Go.Ground.data, Go.Edge.mk 12 Go.Ground.chain, Go.Edge.mk 12 Go.Ground.guard] (Option.some (12, Bool.true))) rfl (fun K hK => ?_) AllReadyH.nil
      go_simp
      (refine (HX.out _).mono ?_; rintro e w13 ⟨rfl, hb⟩; have HC7 : Box _ := ⟨bel_calls HC6.out hb⟩; clear hb)
      go_wp2_with fail
      refine hK.out _ _ ?a19_k14 (fun hHeld => ?_)
      case a19_k14 => (try dsimp only); exact KK1.out _ HC7.out
      clear hK K
      try simp only [Act.put, List.setIfInBounds_toArray, List.set_cons_zero, List.set_cons_succ]
      refine wpAnyH_take (i := 15) (oi := Go.Oper.mk (Option.some 102) (Go.Op.call (Go.Call.mk (Go.Callee.builtin Go.Builtin.len) #[Go.Operand.tmp 101] #[9])) 3 "more.go:24" #[Go.Edge.mk 14 Go.Ground.data, Go.Edge.mk 12 Go.Ground.guard] (Option.some (12, Bool.true))) (v := ?a20_v) rfl (by kernel_rfl) (by kernel_rfl) (by kernel_rfl) (fun _ _ _ h => h) (Or.inl ⟨by rfl, ?a20_y⟩) (by assumption) ?_
      case a20_y => (intro w hSw; (try dsimp only at hSw); go_simp; (first | done | with_reducible rfl))
      try simp only [Act.put, List.setIfInBounds_toArray, List.set_cons_zero, List.set_cons_succ]
      refine wpAnyH_take (i := 20) (oi := Go.Oper.mk (Option.some 107) (Go.Op.binOp Go.BinOp.eql 3 (Go.Operand.tmp 102) (Go.Operand.tmp 106) 3) 4 "more.go:24" #[Go.Edge.mk 15 Go.Ground.data, Go.Edge.mk 19 Go.Ground.data, Go.Edge.mk 12 Go.Ground.guard] (Option.some (12, Bool.true))) (v := ?a21_v) rfl (by kernel_rfl) (by kernel_rfl) (by kernel_rfl) (fun _ _ _ h => h) (Or.inl ⟨by rfl, ?a21_y⟩) (by assumption) ?_
      case a21_y => (intro w hSw; (try dsimp only at hSw); go_simp; (first | done | with_reducible rfl))
      try simp only [Act.put, List.setIfInBounds_toArray, List.set_cons_zero, List.set_cons_succ]
      refine wpAnyH_take (i := 21) (oi := Go.Oper.mk (Option.some 108) (Go.Op.pick (Go.Operand.tmp 99) (Go.Operand.tmp 107) (Go.Operand.const (Go.Value.bool Bool.false))) 4 "more.go:24" #[Go.Edge.mk 12 Go.Ground.data, Go.Edge.mk 20 Go.Ground.data] Option.none) (v := ?a22_v) rfl (by kernel_rfl) (by kernel_rfl) (by kernel_rfl) (fun _ _ _ h => h) (Or.inl ⟨by rfl, ?a22_y⟩) (by assumption) ?_
      case a22_y => (intro w hSw; (try dsimp only at hSw); go_simp; (first | done | with_reducible rfl))
      try simp only [Act.put, List.setIfInBounds_toArray, List.set_cons_zero, List.set_cons_succ]
      refine wpAnyH_take (i := 22) (oi := Go.Oper.mk (Option.some 6) (Go.Op.assign (Go.Operand.tmp 108)) 4 "more.go:24" #[Go.Edge.mk 21 Go.Ground.data, Go.Edge.mk 14 Go.Ground.chain, Go.Edge.mk 0 Go.Ground.phase, Go.Edge.mk 1 Go.Ground.phase, Go.Edge.mk 2 Go.Ground.phase, Go.Edge.mk 3 Go.Ground.phase, Go.Edge.mk 4 Go.Ground.phase, Go.Edge.mk 5 Go.Ground.phase, Go.Edge.mk 6 Go.Ground.phase, Go.Edge.mk 7 Go.Ground.phase, Go.Edge.mk 8 Go.Ground.phase, Go.Edge.mk 9 Go.Ground.phase, Go.Edge.mk 10 Go.Ground.phase, Go.Edge.mk 11 Go.Ground.phase, Go.Edge.mk 12 Go.Ground.phase, Go.Edge.mk 13 Go.Ground.phase, Go.Edge.mk 14 Go.Ground.phase, Go.Edge.mk 15 Go.Ground.phase, Go.Edge.mk 16 Go.Ground.phase, Go.Edge.mk 17 Go.Ground.phase, Go.Edge.mk 18 Go.Ground.phase, Go.Edge.mk 19 Go.Ground.phase, Go.Edge.mk 20 Go.Ground.phase, Go.Edge.mk 21 Go.Ground.phase] Option.none) (v := ?a23_v) rfl (by kernel_rfl) (by kernel_rfl) (by kernel_rfl) (fun _ _ _ h => h) (Or.inl ⟨by rfl, ?a23_y⟩) (by assumption) ?_
      case a23_y => (intro w hSw; (try dsimp only at hSw); go_simp; (first | done | with_reducible rfl))
      try simp only [Act.put, List.setIfInBounds_toArray, List.set_cons_zero, List.set_cons_succ]
      refine wpAnyH_done (by kernel_rfl) ?_ _
      go_wp2_with fail
      go_ret
      exact ⟨rfl, bel_calls HB1.out HC7.out⟩
  · have e1 : (a == 0) = false := by simpa using ha
    have e2 : (k1 == k2) = false := by simpa using hk
    clear ha hk
    go_wp2_with fail
    all_goals first
      | (exfalso; have q1 := HT.out.t1; have q2 := HT.out.t2; omega)
      | skip
    all_goals
      refine (HH.out _).mono ?_
      rintro e w11 ⟨rfl, hb⟩
      have HC5 : Box _ := ⟨bel_calls HC4.out hb⟩
      clear hb c0 c1 c2 c3 c4 c5
      have hr0 := HHr.out.1
      have hr1 := HHr.out.2
      have hxs := HXs.out
      have hgs := HG.out
      have hws := IntWalk.i64_in (2 * (s1.size : Int)) (by omega)
      go_wp2_with fail
      refine wp_region_held_drew (S := (fun w' => w'.cell? ⟨w.heap.size, 0, none⟩ = some (.int .i64 k1) ∧ w'.cell? ⟨w.heap.size, 1, none⟩ = some (.string s1))) (by kernel_rfl) ?bS (fun hHeld => ?_)
      case bS => (try dsimp only); exact KK1.out _ (bel_drew HC5.out)
      refine wpAnyH_take (i := 0) (oi := Go.Oper.mk (Option.some 87) (Go.Op.move (Go.Operand.tmp 10)) 3 "more.go:24" #[] Option.none) (v := ?b1_v) rfl (by kernel_rfl) (by kernel_rfl) (by kernel_rfl) (fun _ _ _ h => h) (Or.inl ⟨by rfl, ?b1_y⟩) (by assumption) ?_
      case b1_y => (intro w hSw; (try dsimp only at hSw); go_simp; (first | done | with_reducible rfl))
      try simp only [Act.put, List.setIfInBounds_toArray, List.set_cons_zero, List.set_cons_succ]
      refine wpAnyH_take (i := 1) (oi := Go.Oper.mk (Option.some 88) (Go.Op.load 23 (Go.Operand.tmp 3)) 23 "more.go:24" #[] Option.none) (v := ?b2_v) rfl (by kernel_rfl) (by kernel_rfl) (by kernel_rfl) (fun _ _ _ h => h) (Or.inl ⟨by rfl, ?b2_y⟩) (by assumption) ?_
      case b2_y => (intro w hSw; (try dsimp only at hSw); go_simp; (first | done | with_reducible rfl))
      try simp only [Act.put, List.setIfInBounds_toArray, List.set_cons_zero, List.set_cons_succ]
      refine wpAnyH_ready (rs := [2]) (by kernel_rfl) (by simp) ?_
      refine AllReadyH.cons (i := 2) (o := Go.Oper.mk (Option.some 89) (Go.Op.call (Go.Call.mk (Go.Callee.value (Go.Operand.func 9)) #[Go.Operand.tmp 88] #[23])) 3 "more.go:24" #[Go.Edge.mk 1 Go.Ground.data] Option.none) rfl (fun K hK => ?_) AllReadyH.nil
      go_simp
      (refine (HH2.out _).mono ?_; rintro e w12 ⟨rfl, hb⟩; have HC6 : Box _ := ⟨bel_calls (bel_drew HC5.out) hb⟩; clear hb)
      go_wp2_with fail
      refine hK.out _ _ ?b3_k2 (fun hHeld => ?_)
      case b3_k2 => (try dsimp only); exact KK1.out _ HC6.out
      clear hK K
      try simp only [Act.put, List.setIfInBounds_toArray, List.set_cons_zero, List.set_cons_succ]
      refine wpAnyH_take (i := 3) (oi := Go.Oper.mk (Option.some 90) (Go.Op.binOp Go.BinOp.eql 3 (Go.Operand.tmp 87) (Go.Operand.tmp 89) 3) 4 "more.go:24" #[Go.Edge.mk 0 Go.Ground.data, Go.Edge.mk 2 Go.Ground.data] Option.none) (v := ?b4_v) rfl (by kernel_rfl) (by kernel_rfl) (by kernel_rfl) (fun _ _ _ h => h) (Or.inl ⟨by rfl, ?b4_y⟩) (by assumption) ?_
      case b4_y => (intro w hSw; (try dsimp only at hSw); go_simp; (first | done | with_reducible rfl))
      try simp only [Act.put, List.setIfInBounds_toArray, List.set_cons_zero, List.set_cons_succ]
      refine wpAnyH_take (i := 4) (oi := Go.Oper.mk (Option.some 91) (Go.Op.move (Go.Operand.tmp 90)) 4 "more.go:24" #[Go.Edge.mk 3 Go.Ground.data, Go.Edge.mk 2 Go.Ground.chain] Option.none) (v := ?b5_v) rfl (by kernel_rfl) (by kernel_rfl) (by kernel_rfl) (fun _ _ _ h => h) (Or.inl ⟨by rfl, ?b5_y⟩) (by assumption) ?_
      case b5_y => (intro w hSw; (try dsimp only at hSw); go_simp; (first | done | with_reducible rfl))
      try simp only [Act.put, List.setIfInBounds_toArray, List.set_cons_zero, List.set_cons_succ]
      refine wpAnyH_take (i := 5) (oi := Go.Oper.mk (Option.some 92) (Go.Op.move (Go.Operand.tmp 10)) 3 "more.go:24" #[Go.Edge.mk 4 Go.Ground.guard] (Option.some (4, Bool.true))) (v := ?b6_v) rfl (by kernel_rfl) (by kernel_rfl) (by kernel_rfl) (fun _ _ _ h => h) (Or.inl ⟨by rfl, ?b6_y⟩) (by assumption) ?_
      case b6_y => (intro w hSw; (try dsimp only at hSw); go_simp; (first | done | with_reducible rfl))
      try simp only [Act.put, List.setIfInBounds_toArray, List.set_cons_zero, List.set_cons_succ]
      refine wpAnyH_take (i := 6) (oi := Go.Oper.mk (Option.some 93) (Go.Op.binOp Go.BinOp.geq 3 (Go.Operand.tmp 92) (Go.Operand.const (Go.Value.int Go.IntKind.i64 0)) 3) 4 "more.go:24" #[Go.Edge.mk 5 Go.Ground.data, Go.Edge.mk 4 Go.Ground.guard] (Option.some (4, Bool.true))) (v := ?b7_v) rfl (by kernel_rfl) (by kernel_rfl) (by kernel_rfl) (fun _ _ _ h => h) (Or.inl ⟨by rfl, ?b7_y⟩) (by assumption) ?_
      case b7_y => (intro w hSw; (try dsimp only at hSw); go_simp; (first | done | with_reducible rfl))
      try simp only [Act.put, List.setIfInBounds_toArray, List.set_cons_zero, List.set_cons_succ]
      refine wpAnyH_take (i := 7) (oi := Go.Oper.mk (Option.some 94) (Go.Op.pick (Go.Operand.tmp 91) (Go.Operand.tmp 93) (Go.Operand.const (Go.Value.bool Bool.false))) 4 "more.go:24" #[Go.Edge.mk 4 Go.Ground.data, Go.Edge.mk 6 Go.Ground.data] Option.none) (v := ?b8_v) rfl (by kernel_rfl) (by kernel_rfl) (by kernel_rfl) (fun _ _ _ h => h) (Or.inl ⟨by rfl, ?b8_y⟩) (by assumption) ?_
      case b8_y => (intro w hSw; (try dsimp only at hSw); go_simp; (first | done | with_reducible rfl))
      try simp only [Act.put, List.setIfInBounds_toArray, List.set_cons_zero, List.set_cons_succ]
      refine wpAnyH_take (i := 8) (oi := Go.Oper.mk (Option.some 95) (Go.Op.move (Go.Operand.tmp 94)) 4 "more.go:24" #[Go.Edge.mk 7 Go.Ground.data, Go.Edge.mk 4 Go.Ground.chain] Option.none) (v := ?b9_v) rfl (by kernel_rfl) (by kernel_rfl) (by kernel_rfl) (fun _ _ _ h => h) (Or.inl ⟨by rfl, ?b9_y⟩) (by assumption) ?_
      case b9_y => (intro w hSw; (try dsimp only at hSw); go_simp; (first | done | with_reducible rfl))
      try simp only [Act.put, List.setIfInBounds_toArray, List.set_cons_zero, List.set_cons_succ]
      refine wpAnyH_take (i := 9) (oi := Go.Oper.mk (Option.some 96) (Go.Op.move (Go.Operand.tmp 10)) 3 "more.go:24" #[Go.Edge.mk 8 Go.Ground.guard] (Option.some (8, Bool.true))) (v := ?b10_v) rfl (by kernel_rfl) (by kernel_rfl) (by kernel_rfl) (fun _ _ _ h => h) (Or.inl ⟨by rfl, ?b10_y⟩) (by assumption) ?_
      case b10_y => (intro w hSw; (try dsimp only at hSw); go_simp; (first | done | with_reducible rfl))
      try simp only [Act.put, List.setIfInBounds_toArray, List.set_cons_zero, List.set_cons_succ]
      refine wpAnyH_take (i := 10) (oi := Go.Oper.mk (Option.some 97) (Go.Op.binOp Go.BinOp.lss 3 (Go.Operand.tmp 96) (Go.Operand.const (Go.Value.int Go.IntKind.i64 65536)) 3) 4 "more.go:24" #[Go.Edge.mk 9 Go.Ground.data, Go.Edge.mk 8 Go.Ground.guard] (Option.some (8, Bool.true))) (v := ?b11_v) rfl (by kernel_rfl) (by kernel_rfl) (by kernel_rfl) (fun _ _ _ h => h) (Or.inl ⟨by rfl, ?b11_y⟩) (by assumption) ?_
      case b11_y => (intro w hSw; (try dsimp only at hSw); go_simp; (first | done | with_reducible rfl))
      try simp only [Act.put, List.setIfInBounds_toArray, List.set_cons_zero, List.set_cons_succ]
      refine wpAnyH_take (i := 11) (oi := Go.Oper.mk (Option.some 98) (Go.Op.pick (Go.Operand.tmp 95) (Go.Operand.tmp 97) (Go.Operand.const (Go.Value.bool Bool.false))) 4 "more.go:24" #[Go.Edge.mk 8 Go.Ground.data, Go.Edge.mk 10 Go.Ground.data] Option.none) (v := ?b12_v) rfl (by kernel_rfl) (by kernel_rfl) (by kernel_rfl) (fun _ _ _ h => h) (Or.inl ⟨by rfl, ?b12_y⟩) (by assumption) ?_
      case b12_y => (intro w hSw; (try dsimp only at hSw); go_simp; (first | done | with_reducible rfl))
      try simp only [Act.put, List.setIfInBounds_toArray, List.set_cons_zero, List.set_cons_succ]
      refine wpAnyH_take (i := 12) (oi := Go.Oper.mk (Option.some 99) (Go.Op.move (Go.Operand.tmp 98)) 4 "more.go:24" #[Go.Edge.mk 11 Go.Ground.data, Go.Edge.mk 8 Go.Ground.chain] Option.none) (v := ?b13_v) rfl (by kernel_rfl) (by kernel_rfl) (by kernel_rfl) (fun _ _ _ h => h) (Or.inl ⟨by rfl, ?b13_y⟩) (by assumption) ?_
      case b13_y => (intro w hSw; (try dsimp only at hSw); go_simp; (first | done | with_reducible rfl))
      try simp only [Act.put, List.setIfInBounds_toArray, List.set_cons_zero, List.set_cons_succ]
      refine wpAnyH_take (i := 13) (oi := Go.Oper.mk (Option.some 100) (Go.Op.load 23 (Go.Operand.tmp 3)) 23 "more.go:24" #[Go.Edge.mk 12 Go.Ground.guard] (Option.some (12, Bool.true))) (v := ?b14_v) rfl (by kernel_rfl) (by kernel_rfl) (by kernel_rfl) (fun _ _ _ h => h) (Or.inl ⟨by rfl, ?b14_y⟩) (by assumption) ?_
      case b14_y => (intro w hSw; (try dsimp only at hSw); go_simp; (first | done | with_reducible rfl))
      try simp only [Act.put, List.setIfInBounds_toArray, List.set_cons_zero, List.set_cons_succ]
      refine wpAnyH_take (i := 16) (oi := Go.Oper.mk (Option.some 103) (Go.Op.fieldAddr 23 (Go.Operand.tmp 3) 1) 0 "more.go:24" #[Go.Edge.mk 12 Go.Ground.guard] (Option.some (12, Bool.true))) (v := ?b15_v) rfl (by kernel_rfl) (by kernel_rfl) (by kernel_rfl) (fun _ _ _ h => h) (Or.inl ⟨by rfl, ?b15_y⟩) (by assumption) ?_
      case b15_y => (intro w hSw; (try dsimp only at hSw); go_simp; (first | done | with_reducible rfl))
      try simp only [Act.put, List.setIfInBounds_toArray, List.set_cons_zero, List.set_cons_succ]
      refine wpAnyH_take (i := 17) (oi := Go.Oper.mk (Option.some 104) (Go.Op.load 9 (Go.Operand.tmp 103)) 9 "more.go:24" #[Go.Edge.mk 16 Go.Ground.data, Go.Edge.mk 12 Go.Ground.guard] (Option.some (12, Bool.true))) (v := ?b16_v) rfl (by kernel_rfl) (by kernel_rfl) (by kernel_rfl) (fun _ _ _ h => h) (Or.inl ⟨by rfl, ?b16_y⟩) (by assumption) ?_
      case b16_y => (intro w hSw; (try dsimp only at hSw); go_simp; (first | done | with_reducible rfl))
      try simp only [Act.put, List.setIfInBounds_toArray, List.set_cons_zero, List.set_cons_succ]
      refine wpAnyH_take (i := 18) (oi := Go.Oper.mk (Option.some 105) (Go.Op.call (Go.Call.mk (Go.Callee.builtin Go.Builtin.len) #[Go.Operand.tmp 104] #[9])) 3 "more.go:24" #[Go.Edge.mk 17 Go.Ground.data, Go.Edge.mk 12 Go.Ground.guard] (Option.some (12, Bool.true))) (v := ?b17_v) rfl (by kernel_rfl) (by kernel_rfl) (by kernel_rfl) (fun _ _ _ h => h) (Or.inl ⟨by rfl, ?b17_y⟩) (by assumption) ?_
      case b17_y => (intro w hSw; (try dsimp only at hSw); go_simp; (first | done | with_reducible rfl))
      try simp only [Act.put, List.setIfInBounds_toArray, List.set_cons_zero, List.set_cons_succ]
      refine wpAnyH_take (i := 19) (oi := Go.Oper.mk (Option.some 106) (Go.Op.binOp Go.BinOp.mul 3 (Go.Operand.const (Go.Value.int Go.IntKind.i64 2)) (Go.Operand.tmp 105) 3) 3 "more.go:24" #[Go.Edge.mk 18 Go.Ground.data, Go.Edge.mk 12 Go.Ground.guard] (Option.some (12, Bool.true))) (v := ?b18_v) rfl (by kernel_rfl) (by kernel_rfl) (by kernel_rfl) (fun _ _ _ h => h) (Or.inl ⟨by rfl, ?b18_y⟩) (by assumption) ?_
      case b18_y => (intro w hSw; (try dsimp only at hSw); go_simp; (first | done | with_reducible rfl))
      try simp only [Act.put, List.setIfInBounds_toArray, List.set_cons_zero, List.set_cons_succ]
      refine wpAnyH_ready (rs := [14]) (by kernel_rfl) (by simp) ?_
      refine AllReadyH.cons (i := 14) (o := Go.Oper.mk (Option.some 101) (Go.Op.call (Go.Call.mk (Go.Callee.value (Go.Operand.func 10)) #[Go.Operand.tmp 100] #[23])) 9 "more.go:24" #[Go.Edge.mk 13 Go.Ground.data, Go.Edge.mk 12 Go.Ground.chain, Go.Edge.mk 12 Go.Ground.guard] (Option.some (12, Bool.true))) rfl (fun K hK => ?_) AllReadyH.nil
      go_simp
      (refine (HX.out _).mono ?_; rintro e w13 ⟨rfl, hb⟩; have HC7 : Box _ := ⟨bel_calls HC6.out hb⟩; clear hb)
      go_wp2_with fail
      refine hK.out _ _ ?b19_k14 (fun hHeld => ?_)
      case b19_k14 => (try dsimp only); exact KK1.out _ HC7.out
      clear hK K
      try simp only [Act.put, List.setIfInBounds_toArray, List.set_cons_zero, List.set_cons_succ]
      refine wpAnyH_take (i := 15) (oi := Go.Oper.mk (Option.some 102) (Go.Op.call (Go.Call.mk (Go.Callee.builtin Go.Builtin.len) #[Go.Operand.tmp 101] #[9])) 3 "more.go:24" #[Go.Edge.mk 14 Go.Ground.data, Go.Edge.mk 12 Go.Ground.guard] (Option.some (12, Bool.true))) (v := ?b20_v) rfl (by kernel_rfl) (by kernel_rfl) (by kernel_rfl) (fun _ _ _ h => h) (Or.inl ⟨by rfl, ?b20_y⟩) (by assumption) ?_
      case b20_y => (intro w hSw; (try dsimp only at hSw); go_simp; (first | done | with_reducible rfl))
      try simp only [Act.put, List.setIfInBounds_toArray, List.set_cons_zero, List.set_cons_succ]
      refine wpAnyH_take (i := 20) (oi := Go.Oper.mk (Option.some 107) (Go.Op.binOp Go.BinOp.eql 3 (Go.Operand.tmp 102) (Go.Operand.tmp 106) 3) 4 "more.go:24" #[Go.Edge.mk 15 Go.Ground.data, Go.Edge.mk 19 Go.Ground.data, Go.Edge.mk 12 Go.Ground.guard] (Option.some (12, Bool.true))) (v := ?b21_v) rfl (by kernel_rfl) (by kernel_rfl) (by kernel_rfl) (fun _ _ _ h => h) (Or.inl ⟨by rfl, ?b21_y⟩) (by assumption) ?_
      case b21_y => (intro w hSw; (try dsimp only at hSw); go_simp; (first | done | with_reducible rfl))
      try simp only [Act.put, List.setIfInBounds_toArray, List.set_cons_zero, List.set_cons_succ]
      refine wpAnyH_take (i := 21) (oi := Go.Oper.mk (Option.some 108) (Go.Op.pick (Go.Operand.tmp 99) (Go.Operand.tmp 107) (Go.Operand.const (Go.Value.bool Bool.false))) 4 "more.go:24" #[Go.Edge.mk 12 Go.Ground.data, Go.Edge.mk 20 Go.Ground.data] Option.none) (v := ?b22_v) rfl (by kernel_rfl) (by kernel_rfl) (by kernel_rfl) (fun _ _ _ h => h) (Or.inl ⟨by rfl, ?b22_y⟩) (by assumption) ?_
      case b22_y => (intro w hSw; (try dsimp only at hSw); go_simp; (first | done | with_reducible rfl))
      try simp only [Act.put, List.setIfInBounds_toArray, List.set_cons_zero, List.set_cons_succ]
      refine wpAnyH_take (i := 22) (oi := Go.Oper.mk (Option.some 6) (Go.Op.assign (Go.Operand.tmp 108)) 4 "more.go:24" #[Go.Edge.mk 21 Go.Ground.data, Go.Edge.mk 14 Go.Ground.chain, Go.Edge.mk 0 Go.Ground.phase, Go.Edge.mk 1 Go.Ground.phase, Go.Edge.mk 2 Go.Ground.phase, Go.Edge.mk 3 Go.Ground.phase, Go.Edge.mk 4 Go.Ground.phase, Go.Edge.mk 5 Go.Ground.phase, Go.Edge.mk 6 Go.Ground.phase, Go.Edge.mk 7 Go.Ground.phase, Go.Edge.mk 8 Go.Ground.phase, Go.Edge.mk 9 Go.Ground.phase, Go.Edge.mk 10 Go.Ground.phase, Go.Edge.mk 11 Go.Ground.phase, Go.Edge.mk 12 Go.Ground.phase, Go.Edge.mk 13 Go.Ground.phase, Go.Edge.mk 14 Go.Ground.phase, Go.Edge.mk 15 Go.Ground.phase, Go.Edge.mk 16 Go.Ground.phase, Go.Edge.mk 17 Go.Ground.phase, Go.Edge.mk 18 Go.Ground.phase, Go.Edge.mk 19 Go.Ground.phase, Go.Edge.mk 20 Go.Ground.phase, Go.Edge.mk 21 Go.Ground.phase] Option.none) (v := ?b23_v) rfl (by kernel_rfl) (by kernel_rfl) (by kernel_rfl) (fun _ _ _ h => h) (Or.inl ⟨by rfl, ?b23_y⟩) (by assumption) ?_
      case b23_y => (intro w hSw; (try dsimp only at hSw); go_simp; (first | done | with_reducible rfl))
      try simp only [Act.put, List.setIfInBounds_toArray, List.set_cons_zero, List.set_cons_succ]
      refine wpAnyH_done (by kernel_rfl) ?_ _
      go_wp2_with fail
      go_ret
      exact ⟨rfl, bel_calls HB1.out HC7.out⟩
  · subst hk
    have e1 : (a == 0) = false := by simpa using ha
    have e2 := str_ne hs
    clear ha hs
    go_wp2_with fail
    all_goals first
      | (exfalso; have q1 := HT.out.t1; have q2 := HT.out.t2; omega)
      | skip
    all_goals
      refine (HH.out _).mono ?_
      rintro e w11 ⟨rfl, hb⟩
      have HC5 : Box _ := ⟨bel_calls HC4.out hb⟩
      clear hb c0 c1 c2 c3 c4 c5
      have hr0 := HHr.out.1
      have hr1 := HHr.out.2
      have hxs := HXs.out
      have hgs := HG.out
      have hws := IntWalk.i64_in (2 * (s1.size : Int)) (by omega)
      go_wp2_with fail
      refine wp_region_held_drew (S := (fun w' => w'.cell? ⟨w.heap.size, 0, none⟩ = some (.int .i64 k1) ∧ w'.cell? ⟨w.heap.size, 1, none⟩ = some (.string s1))) (by kernel_rfl) ?cS (fun hHeld => ?_)
      case cS => (try dsimp only); exact KK1.out _ (bel_drew HC5.out)
      refine wpAnyH_take (i := 0) (oi := Go.Oper.mk (Option.some 87) (Go.Op.move (Go.Operand.tmp 10)) 3 "more.go:24" #[] Option.none) (v := ?c1_v) rfl (by kernel_rfl) (by kernel_rfl) (by kernel_rfl) (fun _ _ _ h => h) (Or.inl ⟨by rfl, ?c1_y⟩) (by assumption) ?_
      case c1_y => (intro w hSw; (try dsimp only at hSw); go_simp; (first | done | with_reducible rfl))
      try simp only [Act.put, List.setIfInBounds_toArray, List.set_cons_zero, List.set_cons_succ]
      refine wpAnyH_take (i := 1) (oi := Go.Oper.mk (Option.some 88) (Go.Op.load 23 (Go.Operand.tmp 3)) 23 "more.go:24" #[] Option.none) (v := ?c2_v) rfl (by kernel_rfl) (by kernel_rfl) (by kernel_rfl) (fun _ _ _ h => h) (Or.inl ⟨by rfl, ?c2_y⟩) (by assumption) ?_
      case c2_y => (intro w hSw; (try dsimp only at hSw); go_simp; (first | done | with_reducible rfl))
      try simp only [Act.put, List.setIfInBounds_toArray, List.set_cons_zero, List.set_cons_succ]
      refine wpAnyH_ready (rs := [2]) (by kernel_rfl) (by simp) ?_
      refine AllReadyH.cons (i := 2) (o := Go.Oper.mk (Option.some 89) (Go.Op.call (Go.Call.mk (Go.Callee.value (Go.Operand.func 9)) #[Go.Operand.tmp 88] #[23])) 3 "more.go:24" #[Go.Edge.mk 1 Go.Ground.data] Option.none) rfl (fun K hK => ?_) AllReadyH.nil
      go_simp
      (refine (HH2.out _).mono ?_; rintro e w12 ⟨rfl, hb⟩; have HC6 : Box _ := ⟨bel_calls (bel_drew HC5.out) hb⟩; clear hb)
      go_wp2_with fail
      refine hK.out _ _ ?c3_k2 (fun hHeld => ?_)
      case c3_k2 => (try dsimp only); exact KK1.out _ HC6.out
      clear hK K
      try simp only [Act.put, List.setIfInBounds_toArray, List.set_cons_zero, List.set_cons_succ]
      refine wpAnyH_take (i := 3) (oi := Go.Oper.mk (Option.some 90) (Go.Op.binOp Go.BinOp.eql 3 (Go.Operand.tmp 87) (Go.Operand.tmp 89) 3) 4 "more.go:24" #[Go.Edge.mk 0 Go.Ground.data, Go.Edge.mk 2 Go.Ground.data] Option.none) (v := ?c4_v) rfl (by kernel_rfl) (by kernel_rfl) (by kernel_rfl) (fun _ _ _ h => h) (Or.inl ⟨by rfl, ?c4_y⟩) (by assumption) ?_
      case c4_y => (intro w hSw; (try dsimp only at hSw); go_simp; (first | done | with_reducible rfl))
      try simp only [Act.put, List.setIfInBounds_toArray, List.set_cons_zero, List.set_cons_succ]
      refine wpAnyH_take (i := 4) (oi := Go.Oper.mk (Option.some 91) (Go.Op.move (Go.Operand.tmp 90)) 4 "more.go:24" #[Go.Edge.mk 3 Go.Ground.data, Go.Edge.mk 2 Go.Ground.chain] Option.none) (v := ?c5_v) rfl (by kernel_rfl) (by kernel_rfl) (by kernel_rfl) (fun _ _ _ h => h) (Or.inl ⟨by rfl, ?c5_y⟩) (by assumption) ?_
      case c5_y => (intro w hSw; (try dsimp only at hSw); go_simp; (first | done | with_reducible rfl))
      try simp only [Act.put, List.setIfInBounds_toArray, List.set_cons_zero, List.set_cons_succ]
      refine wpAnyH_take (i := 5) (oi := Go.Oper.mk (Option.some 92) (Go.Op.move (Go.Operand.tmp 10)) 3 "more.go:24" #[Go.Edge.mk 4 Go.Ground.guard] (Option.some (4, Bool.true))) (v := ?c6_v) rfl (by kernel_rfl) (by kernel_rfl) (by kernel_rfl) (fun _ _ _ h => h) (Or.inl ⟨by rfl, ?c6_y⟩) (by assumption) ?_
      case c6_y => (intro w hSw; (try dsimp only at hSw); go_simp; (first | done | with_reducible rfl))
      try simp only [Act.put, List.setIfInBounds_toArray, List.set_cons_zero, List.set_cons_succ]
      refine wpAnyH_take (i := 6) (oi := Go.Oper.mk (Option.some 93) (Go.Op.binOp Go.BinOp.geq 3 (Go.Operand.tmp 92) (Go.Operand.const (Go.Value.int Go.IntKind.i64 0)) 3) 4 "more.go:24" #[Go.Edge.mk 5 Go.Ground.data, Go.Edge.mk 4 Go.Ground.guard] (Option.some (4, Bool.true))) (v := ?c7_v) rfl (by kernel_rfl) (by kernel_rfl) (by kernel_rfl) (fun _ _ _ h => h) (Or.inl ⟨by rfl, ?c7_y⟩) (by assumption) ?_
      case c7_y => (intro w hSw; (try dsimp only at hSw); go_simp; (first | done | with_reducible rfl))
      try simp only [Act.put, List.setIfInBounds_toArray, List.set_cons_zero, List.set_cons_succ]
      refine wpAnyH_take (i := 7) (oi := Go.Oper.mk (Option.some 94) (Go.Op.pick (Go.Operand.tmp 91) (Go.Operand.tmp 93) (Go.Operand.const (Go.Value.bool Bool.false))) 4 "more.go:24" #[Go.Edge.mk 4 Go.Ground.data, Go.Edge.mk 6 Go.Ground.data] Option.none) (v := ?c8_v) rfl (by kernel_rfl) (by kernel_rfl) (by kernel_rfl) (fun _ _ _ h => h) (Or.inl ⟨by rfl, ?c8_y⟩) (by assumption) ?_
      case c8_y => (intro w hSw; (try dsimp only at hSw); go_simp; (first | done | with_reducible rfl))
      try simp only [Act.put, List.setIfInBounds_toArray, List.set_cons_zero, List.set_cons_succ]
      refine wpAnyH_take (i := 8) (oi := Go.Oper.mk (Option.some 95) (Go.Op.move (Go.Operand.tmp 94)) 4 "more.go:24" #[Go.Edge.mk 7 Go.Ground.data, Go.Edge.mk 4 Go.Ground.chain] Option.none) (v := ?c9_v) rfl (by kernel_rfl) (by kernel_rfl) (by kernel_rfl) (fun _ _ _ h => h) (Or.inl ⟨by rfl, ?c9_y⟩) (by assumption) ?_
      case c9_y => (intro w hSw; (try dsimp only at hSw); go_simp; (first | done | with_reducible rfl))
      try simp only [Act.put, List.setIfInBounds_toArray, List.set_cons_zero, List.set_cons_succ]
      refine wpAnyH_take (i := 9) (oi := Go.Oper.mk (Option.some 96) (Go.Op.move (Go.Operand.tmp 10)) 3 "more.go:24" #[Go.Edge.mk 8 Go.Ground.guard] (Option.some (8, Bool.true))) (v := ?c10_v) rfl (by kernel_rfl) (by kernel_rfl) (by kernel_rfl) (fun _ _ _ h => h) (Or.inl ⟨by rfl, ?c10_y⟩) (by assumption) ?_
      case c10_y => (intro w hSw; (try dsimp only at hSw); go_simp; (first | done | with_reducible rfl))
      try simp only [Act.put, List.setIfInBounds_toArray, List.set_cons_zero, List.set_cons_succ]
      refine wpAnyH_take (i := 10) (oi := Go.Oper.mk (Option.some 97) (Go.Op.binOp Go.BinOp.lss 3 (Go.Operand.tmp 96) (Go.Operand.const (Go.Value.int Go.IntKind.i64 65536)) 3) 4 "more.go:24" #[Go.Edge.mk 9 Go.Ground.data, Go.Edge.mk 8 Go.Ground.guard] (Option.some (8, Bool.true))) (v := ?c11_v) rfl (by kernel_rfl) (by kernel_rfl) (by kernel_rfl) (fun _ _ _ h => h) (Or.inl ⟨by rfl, ?c11_y⟩) (by assumption) ?_
      case c11_y => (intro w hSw; (try dsimp only at hSw); go_simp; (first | done | with_reducible rfl))
      try simp only [Act.put, List.setIfInBounds_toArray, List.set_cons_zero, List.set_cons_succ]
      refine wpAnyH_take (i := 11) (oi := Go.Oper.mk (Option.some 98) (Go.Op.pick (Go.Operand.tmp 95) (Go.Operand.tmp 97) (Go.Operand.const (Go.Value.bool Bool.false))) 4 "more.go:24" #[Go.Edge.mk 8 Go.Ground.data, Go.Edge.mk 10 Go.Ground.data] Option.none) (v := ?c12_v) rfl (by kernel_rfl) (by kernel_rfl) (by kernel_rfl) (fun _ _ _ h => h) (Or.inl ⟨by rfl, ?c12_y⟩) (by assumption) ?_
      case c12_y => (intro w hSw; (try dsimp only at hSw); go_simp; (first | done | with_reducible rfl))
      try simp only [Act.put, List.setIfInBounds_toArray, List.set_cons_zero, List.set_cons_succ]
      refine wpAnyH_take (i := 12) (oi := Go.Oper.mk (Option.some 99) (Go.Op.move (Go.Operand.tmp 98)) 4 "more.go:24" #[Go.Edge.mk 11 Go.Ground.data, Go.Edge.mk 8 Go.Ground.chain] Option.none) (v := ?c13_v) rfl (by kernel_rfl) (by kernel_rfl) (by kernel_rfl) (fun _ _ _ h => h) (Or.inl ⟨by rfl, ?c13_y⟩) (by assumption) ?_
      case c13_y => (intro w hSw; (try dsimp only at hSw); go_simp; (first | done | with_reducible rfl))
      try simp only [Act.put, List.setIfInBounds_toArray, List.set_cons_zero, List.set_cons_succ]
      refine wpAnyH_take (i := 13) (oi := Go.Oper.mk (Option.some 100) (Go.Op.load 23 (Go.Operand.tmp 3)) 23 "more.go:24" #[Go.Edge.mk 12 Go.Ground.guard] (Option.some (12, Bool.true))) (v := ?c14_v) rfl (by kernel_rfl) (by kernel_rfl) (by kernel_rfl) (fun _ _ _ h => h) (Or.inl ⟨by rfl, ?c14_y⟩) (by assumption) ?_
      case c14_y => (intro w hSw; (try dsimp only at hSw); go_simp; (first | done | with_reducible rfl))
      try simp only [Act.put, List.setIfInBounds_toArray, List.set_cons_zero, List.set_cons_succ]
      refine wpAnyH_take (i := 16) (oi := Go.Oper.mk (Option.some 103) (Go.Op.fieldAddr 23 (Go.Operand.tmp 3) 1) 0 "more.go:24" #[Go.Edge.mk 12 Go.Ground.guard] (Option.some (12, Bool.true))) (v := ?c15_v) rfl (by kernel_rfl) (by kernel_rfl) (by kernel_rfl) (fun _ _ _ h => h) (Or.inl ⟨by rfl, ?c15_y⟩) (by assumption) ?_
      case c15_y => (intro w hSw; (try dsimp only at hSw); go_simp; (first | done | with_reducible rfl))
      try simp only [Act.put, List.setIfInBounds_toArray, List.set_cons_zero, List.set_cons_succ]
      refine wpAnyH_take (i := 17) (oi := Go.Oper.mk (Option.some 104) (Go.Op.load 9 (Go.Operand.tmp 103)) 9 "more.go:24" #[Go.Edge.mk 16 Go.Ground.data, Go.Edge.mk 12 Go.Ground.guard] (Option.some (12, Bool.true))) (v := ?c16_v) rfl (by kernel_rfl) (by kernel_rfl) (by kernel_rfl) (fun _ _ _ h => h) (Or.inl ⟨by rfl, ?c16_y⟩) (by assumption) ?_
      case c16_y => (intro w hSw; (try dsimp only at hSw); go_simp; (first | done | with_reducible rfl))
      try simp only [Act.put, List.setIfInBounds_toArray, List.set_cons_zero, List.set_cons_succ]
      refine wpAnyH_take (i := 18) (oi := Go.Oper.mk (Option.some 105) (Go.Op.call (Go.Call.mk (Go.Callee.builtin Go.Builtin.len) #[Go.Operand.tmp 104] #[9])) 3 "more.go:24" #[Go.Edge.mk 17 Go.Ground.data, Go.Edge.mk 12 Go.Ground.guard] (Option.some (12, Bool.true))) (v := ?c17_v) rfl (by kernel_rfl) (by kernel_rfl) (by kernel_rfl) (fun _ _ _ h => h) (Or.inl ⟨by rfl, ?c17_y⟩) (by assumption) ?_
      case c17_y => (intro w hSw; (try dsimp only at hSw); go_simp; (first | done | with_reducible rfl))
      try simp only [Act.put, List.setIfInBounds_toArray, List.set_cons_zero, List.set_cons_succ]
      refine wpAnyH_take (i := 19) (oi := Go.Oper.mk (Option.some 106) (Go.Op.binOp Go.BinOp.mul 3 (Go.Operand.const (Go.Value.int Go.IntKind.i64 2)) (Go.Operand.tmp 105) 3) 3 "more.go:24" #[Go.Edge.mk 18 Go.Ground.data, Go.Edge.mk 12 Go.Ground.guard] (Option.some (12, Bool.true))) (v := ?c18_v) rfl (by kernel_rfl) (by kernel_rfl) (by kernel_rfl) (fun _ _ _ h => h) (Or.inl ⟨by rfl, ?c18_y⟩) (by assumption) ?_
      case c18_y => (intro w hSw; (try dsimp only at hSw); go_simp; (first | done | with_reducible rfl))
      try simp only [Act.put, List.setIfInBounds_toArray, List.set_cons_zero, List.set_cons_succ]
      refine wpAnyH_ready (rs := [14]) (by kernel_rfl) (by simp) ?_
      refine AllReadyH.cons (i := 14) (o := Go.Oper.mk (Option.some 101) (Go.Op.call (Go.Call.mk (Go.Callee.value (Go.Operand.func 10)) #[Go.Operand.tmp 100] #[23])) 9 "more.go:24" #[Go.Edge.mk 13 Go.Ground.data, Go.Edge.mk 12 Go.Ground.chain, Go.Edge.mk 12 Go.Ground.guard] (Option.some (12, Bool.true))) rfl (fun K hK => ?_) AllReadyH.nil
      go_simp
      (refine (HX.out _).mono ?_; rintro e w13 ⟨rfl, hb⟩; have HC7 : Box _ := ⟨bel_calls HC6.out hb⟩; clear hb)
      go_wp2_with fail
      refine hK.out _ _ ?c19_k14 (fun hHeld => ?_)
      case c19_k14 => (try dsimp only); exact KK1.out _ HC7.out
      clear hK K
      try simp only [Act.put, List.setIfInBounds_toArray, List.set_cons_zero, List.set_cons_succ]
      refine wpAnyH_take (i := 15) (oi := Go.Oper.mk (Option.some 102) (Go.Op.call (Go.Call.mk (Go.Callee.builtin Go.Builtin.len) #[Go.Operand.tmp 101] #[9])) 3 "more.go:24" #[Go.Edge.mk 14 Go.Ground.data, Go.Edge.mk 12 Go.Ground.guard] (Option.some (12, Bool.true))) (v := ?c20_v) rfl (by kernel_rfl) (by kernel_rfl) (by kernel_rfl) (fun _ _ _ h => h) (Or.inl ⟨by rfl, ?c20_y⟩) (by assumption) ?_
      case c20_y => (intro w hSw; (try dsimp only at hSw); go_simp; (first | done | with_reducible rfl))
      try simp only [Act.put, List.setIfInBounds_toArray, List.set_cons_zero, List.set_cons_succ]
      refine wpAnyH_take (i := 20) (oi := Go.Oper.mk (Option.some 107) (Go.Op.binOp Go.BinOp.eql 3 (Go.Operand.tmp 102) (Go.Operand.tmp 106) 3) 4 "more.go:24" #[Go.Edge.mk 15 Go.Ground.data, Go.Edge.mk 19 Go.Ground.data, Go.Edge.mk 12 Go.Ground.guard] (Option.some (12, Bool.true))) (v := ?c21_v) rfl (by kernel_rfl) (by kernel_rfl) (by kernel_rfl) (fun _ _ _ h => h) (Or.inl ⟨by rfl, ?c21_y⟩) (by assumption) ?_
      case c21_y => (intro w hSw; (try dsimp only at hSw); go_simp; (first | done | with_reducible rfl))
      try simp only [Act.put, List.setIfInBounds_toArray, List.set_cons_zero, List.set_cons_succ]
      refine wpAnyH_take (i := 21) (oi := Go.Oper.mk (Option.some 108) (Go.Op.pick (Go.Operand.tmp 99) (Go.Operand.tmp 107) (Go.Operand.const (Go.Value.bool Bool.false))) 4 "more.go:24" #[Go.Edge.mk 12 Go.Ground.data, Go.Edge.mk 20 Go.Ground.data] Option.none) (v := ?c22_v) rfl (by kernel_rfl) (by kernel_rfl) (by kernel_rfl) (fun _ _ _ h => h) (Or.inl ⟨by rfl, ?c22_y⟩) (by assumption) ?_
      case c22_y => (intro w hSw; (try dsimp only at hSw); go_simp; (first | done | with_reducible rfl))
      try simp only [Act.put, List.setIfInBounds_toArray, List.set_cons_zero, List.set_cons_succ]
      refine wpAnyH_take (i := 22) (oi := Go.Oper.mk (Option.some 6) (Go.Op.assign (Go.Operand.tmp 108)) 4 "more.go:24" #[Go.Edge.mk 21 Go.Ground.data, Go.Edge.mk 14 Go.Ground.chain, Go.Edge.mk 0 Go.Ground.phase, Go.Edge.mk 1 Go.Ground.phase, Go.Edge.mk 2 Go.Ground.phase, Go.Edge.mk 3 Go.Ground.phase, Go.Edge.mk 4 Go.Ground.phase, Go.Edge.mk 5 Go.Ground.phase, Go.Edge.mk 6 Go.Ground.phase, Go.Edge.mk 7 Go.Ground.phase, Go.Edge.mk 8 Go.Ground.phase, Go.Edge.mk 9 Go.Ground.phase, Go.Edge.mk 10 Go.Ground.phase, Go.Edge.mk 11 Go.Ground.phase, Go.Edge.mk 12 Go.Ground.phase, Go.Edge.mk 13 Go.Ground.phase, Go.Edge.mk 14 Go.Ground.phase, Go.Edge.mk 15 Go.Ground.phase, Go.Edge.mk 16 Go.Ground.phase, Go.Edge.mk 17 Go.Ground.phase, Go.Edge.mk 18 Go.Ground.phase, Go.Edge.mk 19 Go.Ground.phase, Go.Edge.mk 20 Go.Ground.phase, Go.Edge.mk 21 Go.Ground.phase] Option.none) (v := ?c23_v) rfl (by kernel_rfl) (by kernel_rfl) (by kernel_rfl) (fun _ _ _ h => h) (Or.inl ⟨by rfl, ?c23_y⟩) (by assumption) ?_
      case c23_y => (intro w hSw; (try dsimp only at hSw); go_simp; (first | done | with_reducible rfl))
      try simp only [Act.put, List.setIfInBounds_toArray, List.set_cons_zero, List.set_cons_succ]
      refine wpAnyH_done (by kernel_rfl) ?_ _
      go_wp2_with fail
      go_ret
      exact ⟨rfl, bel_calls HB1.out HC7.out⟩
theorem markOrder_calls (k1 : Int) (s1 : ByteArray) (k2 : Int) (s2 : ByteArray) (k3 : Int) (s3 : ByteArray) (w : World) :
    Calls Try.prog 3 #[.agg #[.int .i64 k1, .string s1], .agg #[.int .i64 k2, .string s2], .agg #[.int .i64 k3, .string s3]] w fun e w' => e = .returned (.bool true) ∧ Below w.heap.size w w' := by
  by_cases hg : s1.size ≤ 60 ∧ s2.size ≤ 60 ∧ s3.size ≤ 60
  case neg =>
    have hg2 : 60 < (s1.size : Int) ∨ ((s1.size : Int) ≤ 60 ∧ 60 < (s2.size : Int)) ∨ ((s1.size : Int) ≤ 60 ∧ (s2.size : Int) ≤ 60 ∧ 60 < (s3.size : Int)) := by omega
    clear hg
    have HB0 : Box _ := ⟨bel_alloc (bel_alloc (bel_alloc (Below.refl w.heap.size w) (.cells #[.int .i64 k1, .string s1] 23)) (.cells #[.int .i64 k2, .string s2] 23)) (.cells #[.int .i64 k3, .string s3] 23)⟩
    rcases hg2 with h1 | ⟨h1, h2⟩ | ⟨h1, h2, h3⟩
    all_goals
      go_enter Try.func3, Try.ntmps3
      go_wp2_with fail
      refine (markAlive_calls _).mono ?_
      rintro e w1 ⟨rfl, hb1⟩
      have HB1 : Box _ := ⟨bel_calls HB0.out hb1⟩
      clear hb1
      go_wp2
      go_ret
      exact ⟨rfl, HB1.out⟩
  obtain ⟨g1, g2, g3⟩ := hg
  obtain ⟨a, b, c, hT⟩ := three k1 s1 k2 s2 k3 s3
  refine markOrder_main k1 s1 k2 s2 k3 s3 a b c w g1 g2 g3 hT ?_
  have he := hT.e1
  by_cases h0 : a = 0
  · subst h0
    exact .inl ⟨rfl, cmpM_zero.1 he⟩
  · by_cases hk : k1 = k2
    · by_cases hs : s1 = s2
      · exact absurd (by rw [← he]; exact cmpM_zero.2 ⟨hk, hs⟩) h0
      · exact .inr (.inr ⟨h0, hk, hs⟩)
    · exact .inr (.inl ⟨h0, hk⟩)
end Go.Proofs.Ytbkankpfkbafdaa
