/- The document's disk: sectors are written, one behind another. -/
import Derived.Test.YtbnkmndgfmmiaaaPlain3
namespace Go.Proofs.Ytbnkmndgfmmiaaa
open Go.RowKit
set_option linter.unusedVariables false

theorem crashP_room (D : DSt) (k : List Int) : (crashP D k).1.ws.length + (crashP D k).1.many ≤ D.ws.length + D.many := by
  unfold crashP; split <;> simp
theorem crashP_arm (D : DSt) (k : List Int) (h : D.off = false) : (crashP D k).1.armed = false := by
  unfold crashP; rw [if_neg (by simp [h])]
theorem fallsP_arm (P : DSt) (h : P.armed = true → 0 ≤ P.left) : (fallsP P).1.armed = true → 0 ≤ (fallsP P).1.left := by
  unfold fallsP
  split
  · rename_i ha
    have := h ha
    split
    · exact h
    · intro _; simp only; omega
  · exact h
theorem writeP_room (P : DSt) (x : Int) (d : ByteArray) : (writeP P x d).1.ws.length + (writeP P x d).1.many ≤ P.ws.length + P.many + 2 := by
  unfold writeP
  split
  · simp
  · split
    · simp
    · obtain ⟨t1, t2, t3, t4, t5, t6, t7⟩ := fallsP_same P
      split
      · refine Nat.le_trans (crashP_room _ _) ?_
        simp only [List.length_append, List.length_singleton]; omega
      · simp only [List.length_append, List.length_singleton]; omega
theorem writeP_off (P : DSt) (x : Int) (d : ByteArray) (h : (writeP P x d).2 = 0) : (writeP P x d).1.off = false := by
  unfold writeP at h ⊢
  by_cases h1 : mayE P x ≠ 0
  · rw [if_pos h1] at h; exact absurd h h1
  · rw [if_neg h1] at h ⊢
    have ho : P.off = false := by
      unfold mayE at h1
      by_cases ho : P.off = true
      · rw [if_pos ho] at h1; simp at h1
      · simpa using ho
    by_cases h2 : d.size ≠ 256
    · rw [if_pos h2] at h; simp at h
    · rw [if_neg h2] at h ⊢
      by_cases h3 : (fallsP P).2 = true
      · rw [if_pos h3] at h; simp at h
      · rw [if_neg h3]
        show (fallsP P).1.off = false
        rw [(fallsP_same P).2.1]; exact ho
theorem writeP_arm (P : DSt) (x : Int) (d : ByteArray) (h : P.armed = true → 0 ≤ P.left) : (writeP P x d).1.armed = true → 0 ≤ (writeP P x d).1.left := by
  unfold writeP
  split
  · exact h
  · rename_i hm
    split
    · exact h
    · have hoff : P.off = false := by
        have hm' : mayE P x = 0 := by simpa using hm
        unfold mayE at hm'
        split at hm'
        · cases hm'
        · rename_i h; simpa using h
      split
      · intro ha
        rw [crashP_arm _ _ (by show (fallsP P).1.off = false; rw [(fallsP_same P).2.1]; exact hoff)] at ha
        cases ha
      · exact fallsP_arm P h
section
variable {w0 w w' : World} {g bl cl bs cs : Nat} {V : Value} {K : Option Addr} {kc : Nat} {P : DSt}
theorem PlainTo.drewN {F : List Nat} (h : PlainTo w0 w w' g F P) (m : Nat) : PlainTo w0 w (w'.drewN m) g F P := by
  obtain ⟨⟨F', h1, h2⟩, hT⟩ := h
  exact ⟨⟨F', h1.keep ((Touched.refl w' []).drewN m) (by simp), h2⟩, hT.drewN m⟩
set_option maxHeartbeats 6400000 in
set_option maxRecDepth 100000 in
theorem plainWrite_calls {F : List Nat} (a : PlainAt w0 w g bl cl bs cs V K kc P) (hF : ∀ k, k ∈ g :: bl :: bs :: V.ownBlock.toList → k ∈ F) (h0 : Below w0.heap.size w0 w) (hlo : ∀ k ∈ F, w0.heap.size ≤ k) (harm : P.armed = true → 0 ≤ P.left)
    (A : Option Addr) (n c : Nat) (l : List (Int × ByteArray)) (hl : l.length = n) (hroom : P.ws.length + P.many + 2 * n ≤ 1000000000) (hR : ∀ w', Touched w w' F → RowAt w' A (dcells l)) :
    Calls Try.prog 27 #[.pointer (some ⟨g, 0, none⟩), .slice A n c] w fun e w' => e = .returned (.int .i64 (writesP P l).2) ∧ PlainTo w0 w w' g F (writesP P l).1 := by
  have HA : Box _ := ⟨a⟩
  have HF : Box _ := ⟨hF⟩
  have HR : Box _ := ⟨hR⟩
  have H0 : Box _ := ⟨h0⟩
  have HLO : Box _ := ⟨hlo⟩
  have HL : Box _ := ⟨hl⟩
  have hnn : n ≤ 1000000000 := by omega
  obtain ⟨k3, _⟩ := a.fld (i := 3) rfl
  clear hF hR h0 hlo
  by_cases h1 : P.off = true
  · have e : writesP P l = (P, 14) := by rw [writesP, if_pos h1]
    rw [e]
    rw [h1] at k3
    clear a h1 e harm hroom hl
    go_enter Try.func27, Try.ntmps27
    go_wp2_with fail
    go_loopw [5] (fun i wr => i = .int .i64 0 ∧ w = wr) (fun _ _ => 0)
    case atStart => exact ⟨rfl, rfl⟩
    case round =>
      obtain ⟨rfl, rfl⟩ := hrel
      by_cases hn : 0 < n
      · go_wp2
        go_ret
        exact ⟨rfl, PlainTo.refl HA.out HF.out⟩
      · obtain rfl : n = 0 := by omega
        go_wp2
        go_ret
        exact ⟨rfl, PlainTo.refl HA.out HF.out⟩
  have h1' : P.off = false := by simpa using h1
  have e : writesP P l = writesPL l P := by rw [writesP, if_neg h1]
  rw [e]
  have HH : Box _ := ⟨harm⟩
  have HRM : Box _ := ⟨hroom⟩
  have HOF : Box _ := ⟨h1'⟩
  clear a h1 h1' e harm hroom k3 hl
  go_enter Try.func27, Try.ntmps27
  go_wp2_with fail
  go_loopw [5] (fun i wr => ∃ (k : Nat) (E : DSt), k ≤ n ∧ i = .int .i64 (k : Int) ∧ Box (writesPL l P = writesPL (l.drop k) E) ∧ Box (PlainTo w0 w wr g F E) ∧ Box (E.armed = true → 0 ≤ E.left) ∧ Box (E.ws.length + E.many + 2 * (n - k) ≤ 1000000000) ∧ Box (E.off = false)) (fun i _ => n - (intOf i).toNat)
  case atStart => exact ⟨0, P, by omega, rfl, ⟨rfl⟩, ⟨PlainTo.refl HA.out HF.out⟩, HH, ⟨by have := HRM.out; omega⟩, HOF⟩
  case round =>
    obtain ⟨k, E, hk, rfl, HE, HS, HH, HRM, HOF⟩ := hrel
    obtain ⟨⟨F1, hO1, hF1⟩, hT1⟩ := HS.out
    obtain ⟨⟨bl1, cl1, bs1, cs1, V1, K1, kc1, a1, hF2⟩, hlo1⟩ := hO1
    obtain ⟨k3, _⟩ := a1.fld (i := 3) rfl
    replace k3 : wr.cell? ⟨g, 3, none⟩ = some (.bool false) := by rw [← HOF.out]; exact k3
    by_cases hlt : k < n
    · obtain ⟨⟨p1, p2⟩, hp⟩ := some_at (show k < l.length by rw [HL.out]; exact hlt)
      obtain ⟨b, o, rfl, hb, d1, d2⟩ := write_at (HR.out _ hT1) hp
      have HP : Box _ := ⟨hp⟩
      have HD : Box (writesPL (l.drop k) E = if (writeP E p1 p2).2 ≠ 0 then writeP E p1 p2 else writesPL (l.drop (k + 1)) (writeP E p1 p2).1) := ⟨by
        have h2 := (List.getElem?_eq_some_iff.1 hp).2
        rw [List.drop_eq_getElem_cons (by rw [HL.out]; exact hlt), h2, writesPL]⟩
      obtain ⟨q0, _⟩ := a1.fld (i := 0) rfl
      obtain ⟨N, hN⟩ : ∃ N, E.l.length = N := ⟨_, rfl⟩
      have HN : Box _ := ⟨hN⟩
      replace q0 : wr.cell? ⟨g, 0, none⟩ = some (.slice (some ⟨bl1, 0, none⟩) N cl1) := by rw [← hN]; exact q0
      have HA1 : Box _ := ⟨a1⟩
      have HF1 : Box _ := ⟨hF1⟩
      have HF2 : Box _ := ⟨hF2⟩
      have HT1 : Box _ := ⟨hT1⟩
      have HL1 : Box _ := ⟨hlo1⟩
      have hN2 : N ≤ 2000 := by rw [← hN]; exact a1.big.1
      have hr2 := writeP_room E p1 p2
      have HAR : Box _ := ⟨writeP_arm E p1 p2 HH.out⟩
      have HOF2 : Box _ := ⟨writeP_off E p1 p2⟩
      have j0 : (0 : Int) ≤ (k : Int) := by omega
      have j1 : (k : Int) < (n : Int) := by omega
      clear a1 hF1 hF2 hT1 hN hp hlo1
      by_cases h1 : p1 < 0
      · have e : writeP E p1 p2 = (E, 15) := by rw [writeP, mayE, HOF.out, if_pos (by simp [h1])]; simp [h1]
        rw [e, if_pos (by simp)] at HD
        have cb : decide (p1 < 0) = true := decide_eq_true h1
        clear e hr2 HAR HOF2
        go_wp2_with fail
        go_big_quiet (fail)
        go_wp2
        go_ret
        rw [HE.out, HD.out]
        exact ⟨rfl, HS.out.drewN _⟩
      have cb : decide (p1 < 0) = false := decide_eq_false h1
      by_cases h2 : (N : Int) ≤ p1
      · have e : writeP E p1 p2 = (E, 15) := by
          have h2' : (E.l.length : Int) ≤ p1 := by rw [HN.out]; exact h2
          rw [writeP, mayE, HOF.out, if_pos (by simp [h2'])]; simp [h2']
        rw [e, if_pos (by simp)] at HD
        have cb2 : decide ((N : Int) ≤ p1) = true := decide_eq_true h2
        clear e hr2 HAR HOF2
        go_wp2_with fail
        go_big_quiet (fail)
        go_wp2
        go_ret
        rw [HE.out, HD.out]
        exact ⟨rfl, HS.out.drewN _⟩
      have cb2 : decide ((N : Int) ≤ p1) = false := decide_eq_false h2
      have hmay : mayE E p1 = 0 := by
        rw [mayE, HOF.out, HN.out]
        simp [h1, h2]
      obtain ⟨y, rfl⟩ : ∃ y : Nat, p1 = (y : Int) := ⟨p1.toNat, by omega⟩
      have hyN : y < N := by omega
      by_cases h3 : p2.size = 256
      case neg =>
        have e : writeP E (y : Int) p2 = (E, 1) := by rw [writeP, if_neg (by simp [hmay]), if_pos h3]
        have h3' : ((p2.size : Int) == 256) = false := by simpa using (fun h : (p2.size : Int) = 256 => h3 (by omega))
        rw [e, if_pos (by simp)] at HD
        have j2 : (y : Int) < (N : Int) := by omega
        clear e hr2 HAR HOF2 h3 hmay
        go_wp2_with fail
        go_big_quiet (fail)
        go_wp2
        go_ret
        rw [HE.out, HD.out]
        exact ⟨rfl, HS.out.drewN _⟩
      have HW : Box (writeP E (y : Int) p2 = if (fallsP E).2 = true then ((crashP { (fallsP E).1 with l := (fallsP E).1.l.set y p2, ws := (fallsP E).1.ws ++ [((y : Int), p2)], many := (fallsP E).1.many + 1 } (fallsP E).1.keep).1, 14) else ({ (fallsP E).1 with l := (fallsP E).1.l.set y p2, ws := (fallsP E).1.ws ++ [((y : Int), p2)], many := (fallsP E).1.many + 1 }, 0)) := ⟨by
        obtain ⟨t1, t2, t3, t4, t5, t6, t7⟩ := fallsP_same E
        rw [writeP, if_neg (by simp [hmay]), if_neg (by simp [h3]), t3, t4, t5, t7, Int.toNat_natCast]⟩
      have HG : Box (∀ m, Calls Try.prog 46 #[.pointer (some ⟨g, 0, none⟩)] (wr.drewN m) fun e w' => e = .returned (.bool (fallsP E).2) ∧ PlainAt w0 w' g bl1 cl1 bs1 cs1 V1 K1 kc1 (fallsP E).1 ∧ Touched wr w' [g]) := ⟨fun m => (plainFalls_calls (HA1.out.touched ((Touched.refl wr []).drewN m) (by simp) (by simp) (by simp) (by simp)) HH.out).mono fun e w' ⟨h1, h2, h3⟩ => ⟨h1, h2, ((Touched.refl wr _).drewN m).trans h3⟩⟩
      have h3a : p2.size ≤ 256 := by omega
      have h3b : 256 ≤ p2.size := by omega
      have hroom : (fallsP E).1.ws.length + (fallsP E).1.many + 2 ≤ 1000000000 := by
        obtain ⟨t1, t2, t3, t4, t5, t6, t7⟩ := fallsP_same E
        rw [t4, t5]; have := HRM.out; omega
      have HNG : Box ((fallsP E).1.l.length = N) := ⟨by rw [(fallsP_same E).2.2.1]; exact HN.out⟩
      clear hmay h3
      obtain ⟨G, hG⟩ : ∃ G, fallsP E = G := ⟨_, rfl⟩
      rw [hG] at HW HG hroom HNG
      clear hG
      obtain ⟨bb, hbb⟩ : ∃ bb, G.2 = bb := ⟨_, rfl⟩
      rw [hbb] at HW HG
      clear hbb
      have j2 : (y : Int) < (N : Int) := by omega
      go_wp2_with fail
      go_big_quiet (fail)
      go_wp2_with fail
      refine (HG.out _).mono ?_
      rintro e w2 ⟨rfl, ha2, ht2⟩
      have HT2 : Box (Touched wr w2 F1) := ⟨ht2.mono (fun q hq _ => HF2.out q (by simp at hq; simp [hq]))⟩
      have HA2 : Box _ := ⟨ha2⟩
      obtain ⟨g0, _⟩ := ha2.fld (i := 0) rfl
      replace g0 : w2.cell? ⟨g, 0, none⟩ = some (.slice (some ⟨bl1, 0, none⟩) N cl1) := by rw [← HNG.out]; exact g0
      have hyG : y < G.1.l.length := by rw [HNG.out]; exact hyN
      obtain ⟨l0, lf⟩ := ha2.ol.cell (j := y) (u := .string G.1.l[y]) (scells_at (List.getElem?_eq_getElem hyG))
      have HRW : Box (∀ w', Touched wr w' F1 → w'.cell? ⟨b, o + k * 2, none⟩ = some (.int .i64 (y : Int)) ∧ w'.cell? ⟨b, o + k * 2 + 1, none⟩ = some (.string p2)) := ⟨fun w' hT => by
        obtain ⟨b', o', e', _, c1, c2⟩ := write_at (HR.out w' (HT1.out.trans' hT HF1.out)) HP.out
        injection e' with e'
        injection e' with e1 e2
        subst e1 e2
        exact ⟨c1, c2⟩⟩
      obtain ⟨z0, z1⟩ := HRW.out w2 HT2.out
      have HA3 : Box _ := ⟨ha2.setL hyG p2⟩
      have HT3 : Box (Touched wr (w2.setCell ⟨bl1, y, none⟩ (.string p2)) F1) := ⟨HT2.out.trans (HA3.out.2.mono (fun q hq _ => HF2.out q (by simp at hq; simp [hq])))⟩
      have b0 := (World.cell?_setCell_far w2 ⟨bl1, y, none⟩ ⟨g, 0, none⟩ (.string p2) (by simp; exact fun e => ha2.n1 e.symm)).trans g0
      obtain ⟨b1, b2⟩ := HRW.out _ HT3.out
      have HSA : Box _ := ⟨And.intro g0 (And.intro z0 z1)⟩
      have HSB : Box _ := ⟨And.intro b0 (And.intro b1 b2)⟩
      clear ha2 ht2 b0 b1 b2 q0 k3 d1 d2 HS
      go_wp2_with fail
      go_region_held3 (fun w' => w'.cell? ⟨g, 0, none⟩ = some (.slice (some ⟨bl1, 0, none⟩) N cl1) ∧ w'.cell? ⟨b, o + k * 2, none⟩ = some (.int .i64 (y : Int)) ∧ w'.cell? ⟨b, o + k * 2 + 1, none⟩ = some (.string p2)) ((first | exact HSA.out | exact HSB.out)) (fail)
      all_goals
        go_wp2_with fail
        have HA4 : Box (PlainAt w0 (w2.setCell ⟨bl1, y, none⟩ (.string p2)).drew g bl1 cl1 bs1 cs1 V1 K1 kc1 { G.1 with l := G.1.l.set y p2 }) := ⟨HA3.out.1.touched (Touched.refl _ []).drew (by simp) (by simp) (by simp) (by simp)⟩
        have HT4 : Box (Touched wr (w2.setCell ⟨bl1, y, none⟩ (.string p2)).drew F1) := ⟨HT3.out.drew⟩
        obtain ⟨W3, hW3⟩ : ∃ W3, (w2.setCell ⟨bl1, y, none⟩ (.string p2)).drew = W3 := ⟨_, rfl⟩
        rw [hW3] at HA4 HT4 ⊢
        clear hW3 HSA HSB HA3 HT3 g0 z0 z1 l0 lf
        obtain ⟨y0, y1⟩ := HRW.out W3 HT4.out
        obtain ⟨AV, cV, eV, hcV, _, _⟩ := HA4.out.ow.slice
        subst eV
        obtain ⟨q2, f2⟩ := HA4.out.fld (i := 2) rfl
        obtain ⟨nw, hnw⟩ : ∃ nw, G.1.ws.length = nw := ⟨_, rfl⟩
        have HNW : Box _ := ⟨hnw⟩
        have HOW : Box (Own W3 0 2 (.slice AV nw cV) nw (dcells G.1.ws)) := ⟨by rw [← hnw]; exact HA4.out.ow⟩
        replace q2 : W3.cell? ⟨g, 2, none⟩ = some (.slice AV nw cV) := by rw [← hnw]; exact q2
        have hgW : g < W3.heap.size := HA4.out.lt.1
        have q2a : ∀ o : Obj, (W3.alloc o).cell? ⟨g, 2, none⟩ = some (.slice AV nw cV) := fun o => (World.cell?_alloc_lt _ _ _ hgW).trans q2
        have q2b : ∀ o : Obj, (W3.drew.alloc o).cell? ⟨g, 2, none⟩ = some (.slice AV nw cV) := fun o => (World.cell?_alloc_lt _ _ _ hgW).trans q2
        have hn9 : nw ≤ 1000000000 := by omega
        have hgV : g ∉ (Value.slice AV nw cV).ownBlock.toList := fun h => (HA4.out.n4 g (by rw [hnw]; simpa using h)).1 rfl
        obtain ⟨q7, f7⟩ := HA4.out.fld (i := 7) rfl
        replace q7 : W3.cell? ⟨g, 7, none⟩ = some (.int .i64 (G.1.many : Int)) := q7
        have hmany : (G.1.many : Int) ≤ 1000000000 := by omega
        obtain ⟨q6, _⟩ := HA4.out.fld (i := 6) rfl
        replace q6 : W3.cell? ⟨g, 6, none⟩ = some (.slice K1 G.1.keep.length kc1) := q6
        clear hnw
        go_region_law
          (first
            | (refine step_appO el_pws 0 rfl _ _ rfl (v := .slice AV nw cV) rfl (by first | exact (HOW.out.alloc _).drew | exact HOW.out.drew.alloc _) (news := dcells [((y : Int), p2)]) rfl rfl (by first | exact rowAt_alloc_k W3 [.int .i64 (y : Int), .string p2] _ rfl | exact rowAt_alloc_k W3.drew [.int .i64 (y : Int), .string p2] _ rfl) (one_dcells _) (by omega) (Nat.zero_le _) ?_; intro v1 w4 ho1 hg1 hp1; obtain ⟨a1, c1, rfl, _, _, _⟩ := ho1.slice; have hT : Touched W3 w4 (Value.slice AV nw cV).ownBlock.toList := (by first | exact ((Touched.refl W3 _).alloc _).drew.trans (Touched.of_grown hg1) | exact ((Touched.refl W3 _).drew.alloc _).trans (Touched.of_grown hg1)); have k4 := (hT.cell hgW hgV).trans q2; have e4 := (hT.free hgW hgV).trans f2; have k7 := (hT.cell hgW hgV).trans q7; have e7 := (hT.free hgW hgV).trans f7; have k6 := (hT.cell hgW hgV).trans q6; have HT1' : Box _ := ⟨hT⟩; have HW1 : Box _ := ⟨ho1⟩; have HP1 : Box _ := ⟨hp1⟩; clear ho1 hg1 hT hp1))
        all_goals
          have HTT : Box (Touched wr ((w4.setCell ⟨g, 2, none⟩ (.slice a1 (nw + 1) c1)).setCell ⟨g, 7, none⟩ (.int .i64 ((G.1.many : Int) + 1))) F1 ∧ PlainAt w0 ((w4.setCell ⟨g, 2, none⟩ (.slice a1 (nw + 1) c1)).setCell ⟨g, 7, none⟩ (.int .i64 ((G.1.many : Int) + 1))) g bl1 cl1 bs1 cs1 (.slice a1 (nw + 1) c1) K1 kc1 { G.1 with l := G.1.l.set y p2, ws := G.1.ws ++ [((y : Int), p2)], many := G.1.many + 1 }) := ⟨by
            obtain ⟨HA5, HT5⟩ := HA4.out.grown (Nat.le_trans H0.out.size (Nat.le_trans HT1.out.size HT4.out.size)) (w1 := w4) (V1 := .slice a1 (nw + 1) c1) (p := ((y : Int), p2)) (by rw [HNW.out]; exact HW1.out) (by rw [HNW.out]; exact HT1'.out) (by rw [HNW.out]; exact HP1.out.imp id (fun ⟨b, h1, h2⟩ => ⟨b, h1, by simp at h2; omega⟩)) (by simp; rw [HNG.out]; omega) hroom
            have hT6 : Touched (w4.setCell ⟨g, 2, none⟩ (.slice a1 (nw + 1) c1)) ((w4.setCell ⟨g, 2, none⟩ (.slice a1 (nw + 1) c1)).setCell ⟨g, 7, none⟩ (.int .i64 ((G.1.many : Int) + 1))) [g] := (Touched.refl _ _).setCell (.inl (by simp)) _
            refine ⟨(HT4.out.trans (HT5.mono (fun q hq _ => HF2.out q (by simp only [List.mem_cons] at hq ⊢; rcases hq with h | h; exact .inl h; exact .inr (.inr (.inr h)))))).trans (hT6.mono (fun q hq _ => HF2.out q (by simp at hq; simp [hq]))), ?_⟩
            have hb := HA5.big
            refine PlainAt.refield hT6 ?_ HA5.ol HA5.os HA5.ls HA5.ow HA5.rk HA5.n1 HA5.n2 HA5.n3 HA5.n4 HA5.pos ⟨hb.1, hb.2.1, ?_, hb.2.2.2.1, hb.2.2.2.2⟩ HA5.inv HA5.ge
            · exact (HA5.of.set 7 (by simp [pflds]) (.int .i64 ((G.1.many : Int) + 1))).1
            · show (G.1.ws ++ [((y : Int), p2)]).length + (G.1.many + 1) ≤ 1000000000
              rw [List.length_append]; simp; omega⟩
          have HVV : Box (∀ q, q ∈ g :: bl1 :: bs1 :: (Value.slice a1 (nw + 1) c1).ownBlock.toList → q ∈ F1 ∨ wr.heap.size ≤ q) := ⟨by
            intro q hq
            simp only [List.mem_cons, Option.mem_toList] at hq
            rcases hq with rfl | rfl | rfl | hq
            · exact .inl (HF2.out _ (by simp))
            · exact .inl (HF2.out _ (by simp))
            · exact .inl (HF2.out _ (by simp))
            · rcases HP1.out with h | ⟨b', h, h'⟩
              · exact .inl (HF2.out _ (by rw [h] at hq; rw [HNW.out]; simp only [List.mem_cons, Option.mem_toList]; exact .inr (.inr (.inr hq))))
              · rw [h] at hq
                injection hq with hq
                have := HT4.out.size
                simp at h'
                exact .inr (by omega)⟩
          cases bb
          · rw [if_neg (by simp)] at HW
            go_wp2_with fail
            go_roundw
            case rel => exact ⟨k + 1, _, by omega, by go_num, ⟨HE.out.trans (HD.out.trans (by rw [HW.out]; rfl))⟩, ⟨by first | exact PlainTo.trans HT1.out HF1.out (PlainTo.at HTT.out.2 HVV.out HTT.out.1) | exact (PlainTo.trans HT1.out HF1.out (PlainTo.at HTT.out.2 HVV.out HTT.out.1)).drewN 1⟩, ⟨by have := HAR.out; rw [HW.out] at this; exact this⟩, ⟨by have := HRM.out; rw [HW.out] at hr2; simp only at hr2 ⊢; omega⟩, ⟨by have := HOF2.out; rw [HW.out] at this; exact this rfl⟩⟩
            case measure => simp [intOf]; omega
          · rw [if_pos rfl] at HW
            have HC : Box _ := ⟨plainCrash_calls (F := g :: bl1 :: bs1 :: (Value.slice a1 (nw + 1) c1).ownBlock.toList) HTT.out.2 (fun q hq => hq) K1 G.1.keep.length kc1 G.1.keep rfl HTT.out.2.big.2.1 (fun w' hT => HTT.out.2.rkAt (((HT1.out.trans' HTT.out.1 HF1.out)).below H0.out H0.out.size HLO.out) hT (by intro k hk; simp at hk; subst hk; exact HTT.out.2.ge.2.2.1))⟩
            go_wp2_with fail
            refine Calls.mono HC.out ?_
            rintro e w8 ⟨rfl, hs8⟩
            have HS8 : Box _ := ⟨hs8⟩
            clear hs8
            go_wp2_with fail
            go_ret
            rw [HE.out, HD.out, HW.out]
            exact ⟨rfl, PlainTo.trans HT1.out HF1.out (PlainTo.trans HTT.out.1 HVV.out HS8.out)⟩
    · obtain rfl : k = n := by omega
      have hdr : l.drop k = [] := List.drop_eq_nil_of_le (by rw [HL.out]; exact Nat.le_refl _)
      rw [hdr, writesPL] at HE
      clear hdr
      go_wp2
      go_ret
      rw [HE.out]
      exact ⟨rfl, HS.out⟩
end
end Go.Proofs.Ytbnkmndgfmmiaaa
