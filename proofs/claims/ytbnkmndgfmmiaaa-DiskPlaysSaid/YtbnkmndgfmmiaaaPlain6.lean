/- The document's disk: a twin. -/
import Derived.Test.YtbnkmndgfmmiaaaPlain5
namespace Go.Proofs.Ytbnkmndgfmmiaaa
open Go.RowKit
set_option linter.unusedVariables false

theorem tw_set {W1 W : World} {nb : Nat} (h : Touched W1 W [nb]) (i : Nat) (v : Value) : Touched W1 (W.setCell ⟨nb, i, none⟩ v) [nb] := h.setCell (.inl (by simp)) v
theorem tw_drew {W1 W : World} {ts : List Nat} (h : Touched W1 W ts) : Touched W1 W.drew ts := h.drew
theorem tw_below {W1 W : World} {ts : List Nat} (h : Below W1.heap.size W1 W) : Touched W1 W ts := Touched.of_below h _
section
variable {w0 w : World} {g bl cl bs cs : Nat} {V : Value} {K : Option Addr} {kc : Nat} {P : DSt}
set_option maxHeartbeats 1600000 in
set_option maxRecDepth 100000 in
theorem plainTwin_calls (a : PlainAt w0 w g bl cl bs cs V K kc P) (h0 : w0.heap.size ≤ w.heap.size) :
    Calls Try.prog 9 #[.pointer (some ⟨g, 0, none⟩)] w fun e w' => ∃ g' F', e = .returned (.pointer (some ⟨g', 0, none⟩)) ∧ PlainO w0 w' g' F' P ∧ (∀ k ∈ F', w.heap.size ≤ k) ∧ Below w.heap.size w w' := by
  obtain ⟨AV, cV, rfl, hcV, hrV, _⟩ := a.ow.slice
  have HA : Box _ := ⟨a⟩
  obtain ⟨N, hN⟩ : ∃ N, P.l.length = N := ⟨_, rfl⟩
  have HN : Box _ := ⟨hN⟩
  obtain ⟨n, hn⟩ : ∃ n, P.ws.length = n := ⟨_, rfl⟩
  have HNW : Box _ := ⟨hn⟩
  obtain ⟨k0, _⟩ := a.fld (i := 0) rfl
  obtain ⟨k1, _⟩ := a.fld (i := 1) rfl
  obtain ⟨k2, _⟩ := a.fld (i := 2) rfl
  obtain ⟨k3, _⟩ := a.fld (i := 3) rfl
  obtain ⟨k4, _⟩ := a.fld (i := 4) rfl
  obtain ⟨k5, _⟩ := a.fld (i := 5) rfl
  obtain ⟨k6, _⟩ := a.fld (i := 6) rfl
  obtain ⟨k7, _⟩ := a.fld (i := 7) rfl
  replace k0 : w.cell? ⟨g, 0, none⟩ = some (.slice (some ⟨bl, 0, none⟩) N cl) := by rw [← hN]; exact k0
  replace k1 : w.cell? ⟨g, 1, none⟩ = some (.slice (some ⟨bs, 0, none⟩) N cs) := by rw [← hN]; exact k1
  replace k2 : w.cell? ⟨g, 2, none⟩ = some (.slice AV n cV) := by rw [← hn]; exact k2
  have hgl := a.lt.1
  have hN0 : 0 < N := by rw [← hN]; exact a.pos
  have hN2 : N ≤ 2000 := by rw [← hN]; exact a.big.1
  have hn9 : n ≤ 1000000000 := by rw [← hn]; have := a.big.2.2.1; omega
  have HRl : Box (∀ W, Below w.heap.size w W → RowAt W (some ⟨bl, 0, none⟩) (scells P.l)) := ⟨by
    obtain ⟨A9, c9, e9, _, hr9, _⟩ := a.ol.slice
    injection e9 with e91
    subst e91
    exact fun W hb => hr9.below hb⟩
  have HRs : Box (∀ W, Below w.heap.size w W → RowAt W (some ⟨bs, 0, none⟩) (scells P.safe)) := ⟨by
    obtain ⟨A9, c9, e9, _, hr9, _⟩ := a.os.slice
    injection e9 with e91
    subst e91
    exact fun W hb => hr9.below hb⟩
  have HRw : Box (∀ W, Below w.heap.size w W → RowAt W AV (dcells P.ws)) := ⟨fun W hb => hrV.below hb⟩
  have HLl : Box ((scells P.l).length = N * 1) := ⟨by simp [scells, hN]⟩
  have HLs : Box ((scells P.safe).length = N * 1) := ⟨by simp [scells, a.ls, hN]⟩
  have HLw : Box ((dcells P.ws).length = n * 2) := ⟨by rw [dcells_length, hn]⟩
  obtain ⟨o1, ho1⟩ : ∃ x, P.off = x := ⟨_, rfl⟩
  obtain ⟨o2, ho2⟩ : ∃ x, P.armed = x := ⟨_, rfl⟩
  obtain ⟨o3, ho3⟩ : ∃ x, P.left = x := ⟨_, rfl⟩
  obtain ⟨o4, ho4⟩ : ∃ x, P.many = x := ⟨_, rfl⟩
  obtain ⟨o5, ho5⟩ : ∃ x, P.keep.length = x := ⟨_, rfl⟩
  have HE : Box (P.off = o1 ∧ P.armed = o2 ∧ P.left = o3 ∧ P.many = o4 ∧ P.keep.length = o5) := ⟨⟨ho1, ho2, ho3, ho4, ho5⟩⟩
  rw [ho1] at k3
  rw [ho2] at k4
  rw [ho3] at k5
  rw [ho4] at k7
  rw [ho5] at k6
  clear a hN hn hrV ho1 ho2 ho3 ho4 ho5 hcV
  go_enter Try.func9, Try.ntmps9
  go_wp2_with fail
  have HW1 : Box (Own (w.alloc (.cells #[.slice (some ⟨bl, 0, none⟩) N cl, .slice (some ⟨bs, 0, none⟩) N cs, .slice AV n cV, .bool o1, .bool o2, .int .i64 o3, .slice K o5 kc, .int .i64 (o4 : Int)] 58)) 0 1 (.slice (some ⟨w.heap.size, 0, none⟩) 8 8) 8 [.slice (some ⟨bl, 0, none⟩) N cl, .slice (some ⟨bs, 0, none⟩) N cs, .slice AV n cV, .bool o1, .bool o2, .int .i64 o3, .slice K o5 kc, .int .i64 (o4 : Int)]) := ⟨(Own.fresh w #[.slice (some ⟨bl, 0, none⟩) N cl, .slice (some ⟨bs, 0, none⟩) N cs, .slice AV n cV, .bool o1, .bool o2, .int .i64 o3, .slice K o5 kc, .int .i64 (o4 : Int)] 58 (show 8 ≤ maxLen by decide)).weaken (Nat.zero_le _)⟩
  have HWB : Box (Below w.heap.size w (w.alloc (.cells #[.slice (some ⟨bl, 0, none⟩) N cl, .slice (some ⟨bs, 0, none⟩) N cs, .slice AV n cV, .bool o1, .bool o2, .int .i64 o3, .slice K o5 kc, .int .i64 (o4 : Int)] 58))) := ⟨(Below.refl _ _).alloc (Nat.le_refl _) _⟩
  have hs1 : (w.alloc (.cells #[.slice (some ⟨bl, 0, none⟩) N cl, .slice (some ⟨bs, 0, none⟩) N cs, .slice AV n cV, .bool o1, .bool o2, .int .i64 o3, .slice K o5 kc, .int .i64 (o4 : Int)] 58)).heap.size = w.heap.size + 1 := by simp
  have m0 := cell_kept HWB.out (Nat.le_refl _) k0
  have m1 := cell_kept HWB.out (Nat.le_refl _) k1
  have m2 := cell_kept HWB.out (Nat.le_refl _) k2
  obtain ⟨W1, hW1⟩ : ∃ W1, w.alloc (.cells #[.slice (some ⟨bl, 0, none⟩) N cl, .slice (some ⟨bs, 0, none⟩) N cs, .slice AV n cV, .bool o1, .bool o2, .int .i64 o3, .slice K o5 kc, .int .i64 (o4 : Int)] 58) = W1 := ⟨_, rfl⟩
  rw [hW1] at HW1 HWB hs1 m0 m1 m2 ⊢
  clear hW1 k0 k1 k2 k3 k4 k5 k6 k7
  have HSK : Box (∀ W', Touched W1 W' [w.heap.size] → W'.cell? ⟨g, 0, none⟩ = some (.slice (some ⟨bl, 0, none⟩) N cl) ∧ W'.cell? ⟨g, 1, none⟩ = some (.slice (some ⟨bs, 0, none⟩) N cs) ∧ W'.cell? ⟨g, 2, none⟩ = some (.slice AV n cV)) := ⟨fun W' hT => by
    have hg : g < W1.heap.size := by omega
    have hn : g ∉ [w.heap.size] := by simp; omega
    exact ⟨(hT.cell hg hn).trans m0, (hT.cell hg hn).trans m1, (hT.cell hg hn).trans m2⟩⟩
  have HB0 : Box (Below W1.heap.size W1 W1) := ⟨Below.refl _ _⟩
  have hup : ∀ W, Below W1.heap.size W1 W → Below w.heap.size w W := fun W h => HWB.out.trans (h.mono (by omega))
  have HUP : Box _ := ⟨hup⟩
  clear hup
  go_region_held3 (fun w' => w'.cell? ⟨g, 0, none⟩ = some (.slice (some ⟨bl, 0, none⟩) N cl) ∧ w'.cell? ⟨g, 1, none⟩ = some (.slice (some ⟨bs, 0, none⟩) N cs) ∧ w'.cell? ⟨g, 2, none⟩ = some (.slice AV n cV)) ((refine HSK.out _ ?_; repeat (first | exact tw_below HB3.out | exact tw_below HB2.out | exact tw_below HB1.out | exact tw_below HB0.out | apply tw_set | apply tw_drew)))
    (first
      | (refine step_appO el_texts _ rfl _ _ rfl (v := .slice none 0 0) (n := 0) (xs := []) rfl (Own.nil _ _ _) (A := some ⟨bl, 0, none⟩) (m := N) (c := cl) (news := scells P.l) rfl HLl.out (HRl.out _ (HUP.out _ (by repeat (first | exact HB0.out | apply bel_drew)))) (one_scells _) (by omega) (Nat.le_refl _) ?_; intro v1 w2 ho1 hg1 _; rw [Nat.zero_add, List.nil_append] at ho1; obtain ⟨b1, c1, rfl, hb1, hb1', _, _⟩ := ho1.form hN0; have HB1 : Box (Below W1.heap.size W1 w2) := ⟨bel_calls (by repeat (first | exact HB0.out | apply bel_drew)) (grown_nil hg1)⟩; have HO1 : Box _ := ⟨ho1⟩; have hz1 : W1.heap.size ≤ b1 := (by simpa using hb1); clear ho1 hg1 hb1)
      | (refine step_appO el_texts _ rfl _ _ rfl (v := .slice none 0 0) (n := 0) (xs := []) rfl (Own.nil _ _ _) (A := some ⟨bs, 0, none⟩) (m := N) (c := cs) (news := scells P.safe) rfl HLs.out (HRs.out _ (HUP.out _ (by repeat (first | exact HB1.out | apply bel_drew)))) (one_scells _) (by omega) (Nat.le_refl _) ?_; intro v2 w3 ho2 hg2 _; rw [Nat.zero_add, List.nil_append] at ho2; obtain ⟨b2, c2, rfl, hb2, hb2', _, _⟩ := ho2.form hN0; have HBB2 : Box (Below w2.heap.size w2 w3) := ⟨bel_calls (by repeat (first | exact Below.refl _ _ | apply bel_drew)) (grown_nil hg2)⟩; have HB2 : Box (Below W1.heap.size W1 w3) := ⟨bel_calls HB1.out HBB2.out⟩; have HO2 : Box _ := ⟨ho2⟩; have hz2 : w2.heap.size ≤ b2 := (by simpa using hb2); clear ho2 hg2 hb2)
      | (refine step_appO el_pws _ rfl _ _ rfl (v := .slice none 0 0) (n := 0) (xs := []) rfl (Own.nil _ _ _) (A := AV) (m := n) (c := cV) (news := dcells P.ws) rfl HLw.out (HRw.out _ (HUP.out _ (by repeat (first | exact HB2.out | apply bel_drew)))) (one_dcells _) (by omega) (Nat.le_refl _) ?_; intro v3 w4 ho3 hg3 _; rw [Nat.zero_add, List.nil_append] at ho3; have HBB3 : Box (Below w3.heap.size w3 w4) := ⟨bel_calls (by repeat (first | exact Below.refl _ _ | apply bel_drew)) (grown_nil hg3)⟩; have HB3 : Box (Below W1.heap.size W1 w4) := ⟨bel_calls HB2.out HBB3.out⟩; obtain ⟨A3, c3, rfl, _, _, _⟩ := ho3.slice; have HO3 : Box _ := ⟨ho3⟩; have HW4 : Box _ := ⟨HW1.out.below HB3.out⟩; obtain ⟨x0, y0⟩ := HW4.out.cell (j := 0) rfl; obtain ⟨x1, y1⟩ := HW4.out.cell (j := 1) rfl; obtain ⟨x2, y2⟩ := HW4.out.cell (j := 2) rfl; clear ho3 hg3))
  all_goals
    go_wp2_with fail
    go_ret
    have hs4 := HB3.out.size
    have hs2 := HB1.out.size
    have hs32 := HBB2.out.size
    have hs43 := HBB3.out.size
    have hV : ∀ b, (Value.slice A3 n c3).ownBlock = some b → w3.heap.size ≤ b ∧ b < w4.heap.size := fun b hb => by
      have := HO3.out.lt b hb
      simpa using this
    have hge := HA.out.ge
    have hT5 : Touched w4 (((w4.setCell ⟨w.heap.size, 0, none⟩ (.slice (some ⟨b1, 0, none⟩) N c1)).setCell ⟨w.heap.size, 1, none⟩ (.slice (some ⟨b2, 0, none⟩) N c2)).setCell ⟨w.heap.size, 2, none⟩ (.slice A3 n c3)) [w.heap.size] := tw_set (tw_set (tw_set (Touched.refl _ _) _ _) _ _) _ _
    have hF : PlainAt w0 (((w4.setCell ⟨w.heap.size, 0, none⟩ (.slice (some ⟨b1, 0, none⟩) N c1)).setCell ⟨w.heap.size, 1, none⟩ (.slice (some ⟨b2, 0, none⟩) N c2)).setCell ⟨w.heap.size, 2, none⟩ (.slice A3 n c3)) w.heap.size b1 c1 b2 c2 (.slice A3 n c3) K kc P := by
      have hO1 := (HO1.out.weaken (base' := 0) (Nat.zero_le _)).below (bel_calls HBB2.out HBB3.out)
      have hO2 := (HO2.out.weaken (base' := 0) (Nat.zero_le _)).below HBB3.out
      have hO3 := HO3.out.weaken (base' := 0) (Nat.zero_le _)
      obtain ⟨e1, e2, e3, e4, e5⟩ := HE.out
      refine PlainAt.refield hT5 ?_ (by rw [HN.out]; exact hO1) (by rw [HN.out]; exact hO2) HA.out.ls (by rw [HNW.out]; exact hO3) HA.out.rk (by omega) (by omega) (by omega) ?_ HA.out.pos HA.out.big HA.out.inv ⟨h0, by omega, by omega, ?_⟩
      · have h5 := (((HW4.out.set 0 (by simp) (.slice (some ⟨b1, 0, none⟩) N c1)).1.set 1 (by simp) (.slice (some ⟨b2, 0, none⟩) N c2)).1.set 2 (by simp) (.slice A3 n c3)).1
        simp only [List.set_cons_zero, List.set_cons_succ] at h5
        simp only [pflds, HN.out, e1, e2, e3, e4, e5]
        exact h5
      · intro b hb
        have := hV b hb
        omega
      · intro b hb
        have := hV b hb
        omega
    refine ⟨w.heap.size, w.heap.size :: b1 :: b2 :: (Value.slice A3 n c3).ownBlock.toList, rfl, ⟨⟨b1, c1, b2, c2, _, _, _, by first | exact hF | exact hF.touched (Touched.refl _ []).drew (by simp) (by simp) (by simp) (by simp), fun q hq => hq⟩, ?_⟩, ?_, ?_⟩
    · obtain ⟨l1, l2, l3, l4⟩ := hF.lt
      intro q hq
      simp only [List.mem_cons, Option.mem_toList] at hq
      rcases hq with rfl | rfl | rfl | hq
      · exact ⟨h0, l1⟩
      · exact ⟨by omega, l2⟩
      · exact ⟨by omega, l3⟩
      · exact ⟨by have := hV q hq; omega, l4 q hq⟩
    · intro q hq
      simp only [List.mem_cons, Option.mem_toList] at hq
      rcases hq with rfl | rfl | rfl | hq
      · omega
      · omega
      · omega
      · have := hV q hq; omega
    · first
        | exact hT5.below (HUP.out _ HB3.out) (by omega) (by simp)
        | exact bel_drew (hT5.below (HUP.out _ HB3.out) (by omega) (by simp))
end
end Go.Proofs.Ytbnkmndgfmmiaaa
