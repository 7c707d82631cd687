/- The disk: a twin. -/
import Derived.Test.YtbnkmndgfmmiaaaPlain6
namespace Go.Proofs.Ytbnkmndgfmmiaaa
open Go.RowKit
set_option linter.unusedVariables false

theorem clone_own {w : World} {v : Value} {n : Nat} {l : List Int} (h : Own w 0 1 v n (icells l)) : ∃ A c, v = .slice A n c ∧ n ≤ c ∧ RowAt w A (icells l) ∧ (A = none → n = 0 ∧ c = 0) ∧ (A = none ∨ ∃ b, A = some ⟨b, 0, none⟩ ∧ v.ownBlock = some b) := by
  obtain ⟨A, c, rfl, h1, h2, h3⟩ := h.slice
  refine ⟨A, c, rfl, h1, h2, h3, ?_⟩
  rcases h.2 with ⟨e, _⟩ | ⟨g, cap, e, _⟩
  · injection e with e1
    exact .inl e1
  · injection e with e1
    subst e1
    exact .inr ⟨g, rfl, by simp [Value.ownBlock]⟩
section
variable {w0 w : World} {g bl cl bs cs : Nat} {V : Value} {K : Option Addr} {kc : Nat} {D : DSt}
set_option maxHeartbeats 3200000 in
set_option maxRecDepth 100000 in
theorem diskTwin_calls (a : DiskAt w g bl cl bs cs V K kc D) (h0 : w0.heap.size ≤ w.heap.size) :
    Calls Try.prog 8 #[.pointer (some ⟨g, 0, none⟩)] w fun e w' => ∃ g' F', e = .returned (.pointer (some ⟨g', 0, none⟩)) ∧ DiskO w0 w' g' F' D ∧ (∀ k ∈ F', w.heap.size ≤ k) ∧ Below w.heap.size w w' := by
  obtain ⟨AV, cV, rfl, hcV, hrV, hnV⟩ := a.ow.slice
  have HA : Box _ := ⟨a⟩
  obtain ⟨N, hN⟩ : ∃ N, D.l.length = N := ⟨_, rfl⟩
  have HN : Box _ := ⟨hN⟩
  obtain ⟨n, hn⟩ : ∃ n, D.ws.length = n := ⟨_, rfl⟩
  have HNW : Box _ := ⟨hn⟩
  obtain ⟨k0, _⟩ := a.fld (i := 0) rfl
  obtain ⟨k1, _⟩ := a.fld (i := 1) rfl
  obtain ⟨k2, _⟩ := a.fld (i := 2) rfl
  obtain ⟨k3, _⟩ := a.fld (i := 3) rfl
  obtain ⟨k4, _⟩ := a.fld (i := 4) rfl
  obtain ⟨k5, _⟩ := a.fld (i := 5) rfl
  obtain ⟨k6, _⟩ := a.fld (i := 6) rfl
  obtain ⟨k7, _⟩ := a.fld (i := 7) rfl
  replace k0 : w.cell? ⟨g, 0, none⟩ = some (.slice (some ⟨bl, 0, none⟩) N cl) := by rw [← hN]; exact k0
  replace k1 : w.cell? ⟨g, 1, none⟩ = some (.slice (some ⟨bs, 0, none⟩) N cs) := by rw [← hN]; exact k1
  replace k2 : w.cell? ⟨g, 2, none⟩ = some (.slice AV n cV) := by rw [← hn]; exact k2
  have hgl := a.lt.1
  have hN0 : 0 < N := by rw [← hN]; exact a.pos
  have hN2 : N ≤ 2000 := by rw [← hN]; exact a.big.1
  have hn9 : n ≤ 1000000000 := by rw [← hn]; have := a.big.2.2.1; omega
  obtain ⟨o1, ho1⟩ : ∃ x, D.off = x := ⟨_, rfl⟩
  obtain ⟨o2, ho2⟩ : ∃ x, D.armed = x := ⟨_, rfl⟩
  obtain ⟨o3, ho3⟩ : ∃ x, D.left = x := ⟨_, rfl⟩
  obtain ⟨o4, ho4⟩ : ∃ x, D.many = x := ⟨_, rfl⟩
  obtain ⟨o5, ho5⟩ : ∃ x, D.keep.length = x := ⟨_, rfl⟩
  have HE : Box (D.off = o1 ∧ D.armed = o2 ∧ D.left = o3 ∧ D.many = o4 ∧ D.keep.length = o5) := ⟨⟨ho1, ho2, ho3, ho4, ho5⟩⟩
  have ho5b : o5 ≤ 1000000 := by rw [← ho5]; exact a.big.2.1
  have HC1 : Box (∀ W, Below w.heap.size w W → Calls Try.prog 23 #[.slice (some ⟨bl, 0, none⟩) N cl] W fun e w' => ∃ v, e = .returned v ∧ Own w' W.heap.size 1 v N (scells D.l) ∧ Below W.heap.size W w') := ⟨by
    obtain ⟨A9, c9, e9, _, hr9, _⟩ := a.ol.slice
    injection e9 with e91
    subst e91
    exact fun W hb => cloneS_calls _ N cl (scells D.l) W (fun h => by cases h) (by simp [scells, hN]) (by omega) (one_scells _) (hr9.below hb)⟩
  have HC2 : Box (∀ W, Below w.heap.size w W → Calls Try.prog 23 #[.slice (some ⟨bs, 0, none⟩) N cs] W fun e w' => ∃ v, e = .returned v ∧ Own w' W.heap.size 1 v N (scells D.safe) ∧ Below W.heap.size W w') := ⟨by
    obtain ⟨A9, c9, e9, _, hr9, _⟩ := a.os.slice
    injection e9 with e91
    subst e91
    exact fun W hb => cloneS_calls _ N cs (scells D.safe) W (fun h => by cases h) (by simp [scells, a.ls, hN]) (by omega) (one_scells _) (hr9.below hb)⟩
  have HC3 : Box (∀ W, Below w.heap.size w W → Calls Try.prog 24 #[.slice AV n cV] W fun e w' => ∃ v, e = .returned v ∧ Own w' W.heap.size 2 v n (dcells D.ws) ∧ Below W.heap.size W w') := ⟨fun W hb => cloneW_calls AV n cV (dcells D.ws) W (fun h => by obtain ⟨q1, q2⟩ := hnV h; exact ⟨by omega, q2⟩) (by rw [dcells_length, hn]) (by omega) (one_dcells _) (hrV.below hb)⟩
  have HC4 : Box (∀ W, Below w.heap.size w W → Calls Try.prog 25 #[.slice K o5 kc] W fun e w' => ∃ v, e = .returned v ∧ Own w' W.heap.size 1 v o5 (icells D.keep) ∧ Below W.heap.size W w') := ⟨fun W hb => cloneI_calls K o5 kc (icells D.keep) W (fun h => by rw [← ho5]; exact a.kn h) (by simp [icells, ho5]) (by omega) (one_icells _) (a.rk.below hb)⟩
  rw [ho1] at k4
  rw [ho2] at k5
  rw [ho3] at k6
  rw [ho4] at k3
  rw [ho5] at k7
  clear a hN hn hrV ho1 ho2 ho3 ho4 ho5 hcV hnV
  go_enter Try.func8, Try.ntmps8
  go_wp2_with fail
  have HW1 : Box (Own (w.alloc (.cells #[.slice (some ⟨bl, 0, none⟩) N cl, .slice (some ⟨bs, 0, none⟩) N cs, .slice AV n cV, .int .i64 (o4 : Int), .bool o1, .bool o2, .int .i64 o3, .slice K o5 kc] 55)) 0 1 (.slice (some ⟨w.heap.size, 0, none⟩) 8 8) 8 [.slice (some ⟨bl, 0, none⟩) N cl, .slice (some ⟨bs, 0, none⟩) N cs, .slice AV n cV, .int .i64 (o4 : Int), .bool o1, .bool o2, .int .i64 o3, .slice K o5 kc]) := ⟨(Own.fresh w #[.slice (some ⟨bl, 0, none⟩) N cl, .slice (some ⟨bs, 0, none⟩) N cs, .slice AV n cV, .int .i64 (o4 : Int), .bool o1, .bool o2, .int .i64 o3, .slice K o5 kc] 55 (show 8 ≤ maxLen by decide)).weaken (Nat.zero_le _)⟩
  have HWB : Box (Below w.heap.size w (w.alloc (.cells #[.slice (some ⟨bl, 0, none⟩) N cl, .slice (some ⟨bs, 0, none⟩) N cs, .slice AV n cV, .int .i64 (o4 : Int), .bool o1, .bool o2, .int .i64 o3, .slice K o5 kc] 55))) := ⟨(Below.refl _ _).alloc (Nat.le_refl _) _⟩
  have hs1 : (w.alloc (.cells #[.slice (some ⟨bl, 0, none⟩) N cl, .slice (some ⟨bs, 0, none⟩) N cs, .slice AV n cV, .int .i64 (o4 : Int), .bool o1, .bool o2, .int .i64 o3, .slice K o5 kc] 55)).heap.size = w.heap.size + 1 := by simp
  have m0 := cell_kept HWB.out (Nat.le_refl _) k0
  have m1 := cell_kept HWB.out (Nat.le_refl _) k1
  have m2 := cell_kept HWB.out (Nat.le_refl _) k2
  have m7 := cell_kept HWB.out (Nat.le_refl _) k7
  obtain ⟨W1, hW1⟩ : ∃ W1, w.alloc (.cells #[.slice (some ⟨bl, 0, none⟩) N cl, .slice (some ⟨bs, 0, none⟩) N cs, .slice AV n cV, .int .i64 (o4 : Int), .bool o1, .bool o2, .int .i64 o3, .slice K o5 kc] 55) = W1 := ⟨_, rfl⟩
  rw [hW1] at HW1 HWB hs1 m0 m1 m2 m7 ⊢
  clear hW1 k0 k1 k2 k3 k4 k5 k6 k7
  have HSK : Box (∀ W', Touched W1 W' [w.heap.size] → W'.cell? ⟨g, 0, none⟩ = some (.slice (some ⟨bl, 0, none⟩) N cl) ∧ W'.cell? ⟨g, 1, none⟩ = some (.slice (some ⟨bs, 0, none⟩) N cs) ∧ W'.cell? ⟨g, 2, none⟩ = some (.slice AV n cV) ∧ W'.cell? ⟨g, 7, none⟩ = some (.slice K o5 kc)) := ⟨fun W' hT => by
    have hg : g < W1.heap.size := by omega
    have hn : g ∉ [w.heap.size] := by simp; omega
    exact ⟨(hT.cell hg hn).trans m0, (hT.cell hg hn).trans m1, (hT.cell hg hn).trans m2, (hT.cell hg hn).trans m7⟩⟩
  have HB0 : Box (Below W1.heap.size W1 W1) := ⟨Below.refl _ _⟩
  have HUP : Box (∀ W, Below W1.heap.size W1 W → Below w.heap.size w W) := ⟨fun W h => HWB.out.trans (h.mono (by omega))⟩
  go_region_held3 (fun W' => W'.cell? ⟨g, 0, none⟩ = some (.slice (some ⟨bl, 0, none⟩) N cl) ∧ W'.cell? ⟨g, 1, none⟩ = some (.slice (some ⟨bs, 0, none⟩) N cs) ∧ W'.cell? ⟨g, 2, none⟩ = some (.slice AV n cV) ∧ W'.cell? ⟨g, 7, none⟩ = some (.slice K o5 kc)) ((refine HSK.out _ ?_; repeat (first | exact tw_below HB4.out | exact tw_below HB3.out | exact tw_below HB2.out | exact tw_below HB1.out | exact tw_below HB0.out | apply tw_set | apply tw_drew)))
    (first
      | (go_at_call_of 23 (Value.slice (some ⟨bl, 0, none⟩) N cl); refine Calls.mono (HC1.out _ (HUP.out _ (by repeat (first | exact HB0.out | apply bel_drew)))) ?_; rintro e w2 ⟨v1, rfl, ho1, hb⟩; obtain ⟨b1, c1, rfl, hb1, hb1', _, _⟩ := ho1.form hN0; have HB1 : Box (Below W1.heap.size W1 w2) := ⟨bel_calls (by repeat (first | exact HB0.out | apply bel_drew)) hb⟩; have HO1 : Box _ := ⟨ho1⟩; have hz1 : W1.heap.size ≤ b1 := (by simpa using hb1); clear ho1 hb hb1)
      | (go_at_call_of 23 (Value.slice (some ⟨bs, 0, none⟩) N cs); refine Calls.mono (HC2.out _ (HUP.out _ (by repeat (first | exact HB1.out | apply bel_drew)))) ?_; rintro e w3 ⟨v2, rfl, ho2, hb⟩; obtain ⟨b2, c2, rfl, hb2, hb2', _, _⟩ := ho2.form hN0; have HBB2 : Box (Below w2.heap.size w2 w3) := ⟨bel_calls (by repeat (first | exact Below.refl _ _ | apply bel_drew)) hb⟩; have HB2 : Box (Below W1.heap.size W1 w3) := ⟨bel_calls HB1.out HBB2.out⟩; have HO2 : Box _ := ⟨ho2⟩; have hz2 : w2.heap.size ≤ b2 := (by simpa using hb2); clear ho2 hb hb2)
      | (go_at_call 24; refine Calls.mono (HC3.out _ (HUP.out _ (by repeat (first | exact HB2.out | apply bel_drew)))) ?_; rintro e w4 ⟨v3, rfl, ho3, hb⟩; have HBB3 : Box (Below w3.heap.size w3 w4) := ⟨bel_calls (by repeat (first | exact Below.refl _ _ | apply bel_drew)) hb⟩; have HB3 : Box (Below W1.heap.size W1 w4) := ⟨bel_calls HB2.out HBB3.out⟩; obtain ⟨A3, c3, rfl, _, _, _⟩ := ho3.slice; have HO3 : Box _ := ⟨ho3⟩; clear ho3 hb)
      | (go_at_call 25; refine Calls.mono (HC4.out _ (HUP.out _ (by repeat (first | exact HB3.out | apply bel_drew)))) ?_; rintro e w5 ⟨v4, rfl, ho4, hb⟩; have HBB4 : Box (Below w4.heap.size w4 w5) := ⟨bel_calls (by repeat (first | exact Below.refl _ _ | apply bel_drew)) hb⟩; have HB4 : Box (Below W1.heap.size W1 w5) := ⟨bel_calls HB3.out HBB4.out⟩; obtain ⟨A4, c4, rfl, hc4, hr4, hn4, hs4⟩ := clone_own (ho4.weaken (Nat.zero_le _)); have HO4 : Box _ := ⟨ho4⟩; have HR4 : Box _ := ⟨And.intro hc4 (And.intro hr4 (And.intro hn4 hs4))⟩; have HW4 : Box _ := ⟨HW1.out.below HB4.out⟩; obtain ⟨x0, y0⟩ := HW4.out.cell (j := 0) rfl; obtain ⟨x1, y1⟩ := HW4.out.cell (j := 1) rfl; obtain ⟨x2, y2⟩ := HW4.out.cell (j := 2) rfl; obtain ⟨x7, y7⟩ := HW4.out.cell (j := 7) rfl; clear ho4 hb hc4 hr4 hn4 hs4))
  all_goals
    go_wp2_with fail
    go_ret
    have hs4 := HB4.out.size
    have hs2 := HB1.out.size
    have hs32 := HBB2.out.size
    have hs43 := HBB3.out.size
    have hs54 := HBB4.out.size
    obtain ⟨hc4, hr4, hn4, hk4⟩ := HR4.out
    have hV : ∀ b, (Value.slice A3 n c3).ownBlock = some b → w3.heap.size ≤ b ∧ b < w4.heap.size := fun b hb => by
      have := HO3.out.lt b hb
      simpa using this
    have hK : ∀ b, (Value.slice A4 o5 c4).ownBlock = some b → w4.heap.size ≤ b ∧ b < w5.heap.size := fun b hb => by
      have := HO4.out.lt b hb
      simpa using this
    have hT5 : Touched w5 ((((w5.setCell ⟨w.heap.size, 0, none⟩ (.slice (some ⟨b1, 0, none⟩) N c1)).setCell ⟨w.heap.size, 1, none⟩ (.slice (some ⟨b2, 0, none⟩) N c2)).setCell ⟨w.heap.size, 2, none⟩ (.slice A3 n c3)).setCell ⟨w.heap.size, 7, none⟩ (.slice A4 o5 c4)) [w.heap.size] := tw_set (tw_set (tw_set (tw_set (Touched.refl _ _) _ _) _ _) _ _) _ _
    have hKK : ∀ b, A4 = some ⟨b, 0, none⟩ → w4.heap.size ≤ b ∧ b < w5.heap.size := by
      intro b hb
      subst hb
      exact hK b (by simp [Value.ownBlock])
    have hF : DiskAt ((((w5.setCell ⟨w.heap.size, 0, none⟩ (.slice (some ⟨b1, 0, none⟩) N c1)).setCell ⟨w.heap.size, 1, none⟩ (.slice (some ⟨b2, 0, none⟩) N c2)).setCell ⟨w.heap.size, 2, none⟩ (.slice A3 n c3)).setCell ⟨w.heap.size, 7, none⟩ (.slice A4 o5 c4)) w.heap.size b1 c1 b2 c2 (.slice A3 n c3) A4 c4 D := by
      have hO1 := ((HO1.out.weaken (base' := 0) (Nat.zero_le _)).below (bel_calls HBB2.out HBB3.out)).below HBB4.out
      have hO2 := ((HO2.out.weaken (base' := 0) (Nat.zero_le _)).below HBB3.out).below HBB4.out
      have hO3 := (HO3.out.weaken (base' := 0) (Nat.zero_le _)).below HBB4.out
      obtain ⟨e1, e2, e3, e4, e5⟩ := HE.out
      refine DiskAt.refield (w2 := w5) hT5 ?_ (by rw [HN.out]; exact hO1) (by rw [HN.out]; exact hO2) HA.out.ls (by rw [HNW.out]; exact hO3) hr4 (fun h => by rw [e5]; exact hn4 h) (by rw [e5]; exact hc4) (by omega) (by omega) (by omega) ?_ ?_ ?_ HA.out.pos HA.out.big HA.out.inv
      · have h5 := ((((HW4.out.set 0 (by simp) (.slice (some ⟨b1, 0, none⟩) N c1)).1.set 1 (by simp) (.slice (some ⟨b2, 0, none⟩) N c2)).1.set 2 (by simp) (.slice A3 n c3)).1.set 7 (by simp) (.slice A4 o5 c4)).1
        simp only [List.set_cons_zero, List.set_cons_succ] at h5
        simp only [dflds, HN.out, e1, e2, e3, e4, e5]
        exact h5
      · intro b hb
        have := hV b hb
        omega
      · rcases hk4 with h | ⟨b, h, _⟩
        · exact .inl h
        · have := hKK b h
          refine .inr ⟨b, h, by omega, by omega, by omega, fun e => ?_⟩
          have := hV b e
          omega
      · intro b hb
        exact (hKK b hb).2
    refine ⟨w.heap.size, w.heap.size :: b1 :: b2 :: ((Value.slice A3 n c3).ownBlock.toList ++ (Value.slice A4 o5 c4).ownBlock.toList), rfl, ⟨⟨b1, c1, b2, c2, _, _, _, by first | exact hF | exact hF.drew, ?_, ?_⟩, ?_⟩, ?_, ?_⟩
    · intro q hq
      simp only [List.mem_cons, List.mem_append] at hq ⊢
      rcases hq with h | h | h | h
      · exact .inl h
      · exact .inr (.inl h)
      · exact .inr (.inr (.inl h))
      · exact .inr (.inr (.inr (.inl h)))
    · intro b hb
      subst hb
      simp [Value.ownBlock]
    · obtain ⟨l1, l2, l3, l4⟩ := hF.lt
      have l5 := hT5.size
      intro q hq
      simp only [List.mem_cons, List.mem_append, Option.mem_toList] at hq
      rcases hq with rfl | rfl | rfl | hq | hq
      · exact ⟨h0, l1⟩
      · exact ⟨by omega, l2⟩
      · exact ⟨by omega, l3⟩
      · exact ⟨by have := hV q hq; omega, l4 q hq⟩
      · exact ⟨by have := hK q hq; omega, Nat.lt_of_lt_of_le (hK q hq).2 l5⟩
    · intro q hq
      simp only [List.mem_cons, List.mem_append, Option.mem_toList] at hq
      rcases hq with rfl | rfl | rfl | hq | hq
      · omega
      · omega
      · omega
      · have := hV q hq; omega
      · have := hK q hq; omega
    · first
        | exact hT5.below (HUP.out _ HB4.out) (by omega) (by simp)
        | exact bel_drew (hT5.below (HUP.out _ HB4.out) (by omega) (by simp))
end
theorem diskTwin_o {w0 w : World} {g : Nat} {F : List Nat} {D : DSt} (h : DiskO w0 w g F D) (h0 : w0.heap.size ≤ w.heap.size) :
    Calls Try.prog 8 #[.pointer (some ⟨g, 0, none⟩)] w fun e w' => ∃ g' F', e = .returned (.pointer (some ⟨g', 0, none⟩)) ∧ DiskO w0 w' g' F' D ∧ (∀ k ∈ F', w.heap.size ≤ k) ∧ Below w.heap.size w w' := by
  obtain ⟨bl, cl, bs, cs, V, K, kc, a, _⟩ := h.ex
  exact diskTwin_calls a h0
theorem plainTwin_o {w0 w : World} {g : Nat} {F : List Nat} {P : DSt} (h : PlainO w0 w g F P) (h0 : w0.heap.size ≤ w.heap.size) :
    Calls Try.prog 9 #[.pointer (some ⟨g, 0, none⟩)] w fun e w' => ∃ g' F', e = .returned (.pointer (some ⟨g', 0, none⟩)) ∧ PlainO w0 w' g' F' P ∧ (∀ k ∈ F', w.heap.size ≤ k) ∧ Below w.heap.size w w' := by
  obtain ⟨bl, cl, bs, cs, V, K, kc, a, _⟩ := h.ex
  exact plainTwin_calls a h0
end Go.Proofs.Ytbnkmndgfmmiaaa
