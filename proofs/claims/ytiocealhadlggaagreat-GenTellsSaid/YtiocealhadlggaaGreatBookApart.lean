/- (*Book).Apart, of a Book that keeps lists of spans. -/
import Derived.Test.YtiocealhadlggaaGreatBookGrow
import Derived.Test.YtiocealhadlggaaGreatBookMarked
namespace Go.Proofs.YtiocealhadlggaaGreat
open Go.RowKit
set_option linter.unusedVariables false

theorem BookAt.ins {w : World} {base g : Nat} {S T : Value} {vs us : List Value} {ls : List (List (Int × Int))} (h : BookAt w base g S T vs us ls) : ∀ (i : Nat) (l : List (Int × Int)), ls[i]? = some l → ∃ (A' : Option Addr) (c' : Nat) (B' : Option Addr) (d' : Nat), vs[i]? = some (Value.slice A' l.length c') ∧ us[i]? = some (Value.slice B' l.length d') ∧ l.length ≤ 4000000000000000000 ∧ RowAt w A' (pcells l) ∧ RowAt w B' (pcells l) := by
  intro i l hl
  obtain ⟨a, v, hv, ho, _⟩ := h.hv i l hl
  obtain ⟨u, hu, ho2, _⟩ := h.hu i l hl
  obtain ⟨A, c, e, _, hr, _⟩ := ho.slice
  obtain ⟨B, d, e2, _, hr2, _⟩ := ho2.slice
  subst e e2
  exact ⟨A, c, B, d, hv, hu, by omega, hr, hr2⟩
theorem BookAt.vfree {w : World} {base g : Nat} {S T : Value} {vs us : List Value} {ls : List (List (Int × Int))} (h : BookAt w base g S T vs us ls) : ∀ b ∈ vblocks vs, b ≠ g ∧ S.ownBlock ≠ some b ∧ T.ownBlock ≠ some b := by
  intro b hb
  obtain ⟨v, hv, e⟩ := mem_vblocks.1 hb
  obtain ⟨i, hi, hx⟩ := List.getElem_of_mem hv
  have hi' : vs[i]? = some v := by rw [List.getElem?_eq_getElem hi, hx]
  have hil : i < ls.length := by rw [← h.vlen]; exact hi
  obtain ⟨_, v1, hv1, _, hd⟩ := h.hv i _ (List.getElem?_eq_getElem hil)
  rw [hi'] at hv1; injection hv1 with e1; subst e1
  exact hd b e
theorem getD_len {ls : List (List (Int × Int))} {B : Nat} (h : ∀ l ∈ ls, l.length ≤ B) (i : Nat) (hi : i < ls.length) : ((ls[i]?).getD []).length ≤ B := by
  rw [List.getElem?_eq_getElem hi]
  exact h _ (List.getElem_mem hi)
set_option maxHeartbeats 6400000 in
set_option maxRecDepth 100000 in
theorem apart_calls (g base : Nat) (S T : Value) (vs us : List Value) (ls : List (List (Int × Int))) (w : World) (hN : ls.length ≤ 250) (hM : ∀ l ∈ ls, l.length ≤ 100000) (h : BookAt w base g S T vs us ls) :
    Calls Tryz.prog 14 #[.pointer (some ⟨g, 0, none⟩)] w fun e w' => e = .returned (.bool true) ∧ Touched w w' (vblocks vs) := by
  have HB := Lib.hid h
  have HM := Lib.hid hM
  obtain ⟨N, hNN⟩ : ∃ N, ls.length = N := ⟨_, rfl⟩
  have HN := Lib.hid hNN
  rw [hNN] at hN
  obtain ⟨AS, cS, eS, _, _, _⟩ := h.hS.slice
  obtain ⟨AT, cT, eT, _, _, _⟩ := h.hT.slice
  rw [hNN] at eS eT
  subst eS eT
  clear h hM hNN
  have HVF := Lib.hid HB.out.vfree
  obtain ⟨ns, hns⟩ : ∃ ns : Nat → Nat, (fun i => ((ls[i]?).getD []).length) = ns := ⟨_, rfl⟩
  have HNS := Lib.hid hns
  clear hns
  have HNM : Hid (∀ i, i < N → ns i ≤ 100000) := fun i hi => by rw [← HNS.out]; exact getD_len HM.out i (by rw [HN.out]; exact hi)
  have n0 : w.cell? ⟨g, 0, none⟩ = some (.slice none 0 0) := HB.out.nil 0 (by omega) (by omega) (by omega)
  have n2 : w.cell? ⟨g, 2, none⟩ = some (.slice none 0 0) := HB.out.nil 2 (by omega) (by omega) (by omega)
  have n6 : w.cell? ⟨g, 6, none⟩ = some (.slice none 0 0) := HB.out.nil 6 (by omega) (by omega) (by omega)
  have n8 : w.cell? ⟨g, 8, none⟩ = some (.slice none 0 0) := HB.out.nil 8 (by omega) (by omega) (by omega)
  have n10 : w.cell? ⟨g, 10, none⟩ = some (.slice none 0 0) := HB.out.nil 10 (by omega) (by omega) (by omega)
  have n12 : w.cell? ⟨g, 12, none⟩ = some (.slice none 0 0) := HB.out.nil 12 (by omega) (by omega) (by omega)
  have n14 : w.cell? ⟨g, 14, none⟩ = some (.slice none 0 0) := HB.out.nil 14 (by omega) (by omega) (by omega)
  go_enter Tryz.func14, Tryz.ntmps14
  go_wp2_with fail
  refine Calls.mono (stillTexts_nil g w n0) ?_
  rintro e _ ⟨rfl, rfl⟩
  go_wp2_with fail
  refine Calls.mono (stillInts_nil g w n2) ?_
  rintro e _ ⟨rfl, rfl⟩
  go_wp2_with fail
  refine Calls.mono (stillSpans_calls g AS AT cS cT N vs us ls w (by omega) HN.out HB.out.c4 HB.out.c5 (by obtain ⟨_, _, e, _, hr, _⟩ := HB.out.hS.slice; injection e with e) (by obtain ⟨_, _, e, _, hr, _⟩ := HB.out.hT.slice; injection e with e) HB.out.ins) ?_
  rintro e w1 ⟨rfl, hb1⟩
  have HB1 := Lib.hid (HB.out.below hb1)
  have HT1 := Lib.hid (Touched.of_below hb1 (vblocks vs))
  clear hb1 n0 n2 n6 n8 n10 n12 n14
  have n0 : w1.cell? ⟨g, 0, none⟩ = some (.slice none 0 0) := HB1.out.nil 0 (by omega) (by omega) (by omega)
  have n2 : w1.cell? ⟨g, 2, none⟩ = some (.slice none 0 0) := HB1.out.nil 2 (by omega) (by omega) (by omega)
  have n6 : w1.cell? ⟨g, 6, none⟩ = some (.slice none 0 0) := HB1.out.nil 6 (by omega) (by omega) (by omega)
  have n8 : w1.cell? ⟨g, 8, none⟩ = some (.slice none 0 0) := HB1.out.nil 8 (by omega) (by omega) (by omega)
  have n10 : w1.cell? ⟨g, 10, none⟩ = some (.slice none 0 0) := HB1.out.nil 10 (by omega) (by omega) (by omega)
  have n12 : w1.cell? ⟨g, 12, none⟩ = some (.slice none 0 0) := HB1.out.nil 12 (by omega) (by omega) (by omega)
  have n14 : w1.cell? ⟨g, 14, none⟩ = some (.slice none 0 0) := HB1.out.nil 14 (by omega) (by omega) (by omega)
  go_wp2_with fail
  refine Calls.mono (stillPieces_nil g w1 n6) ?_
  rintro e _ ⟨rfl, rfl⟩
  go_wp2_with fail
  refine Calls.mono (stillEntries_nil g w1 n8) ?_
  rintro e _ ⟨rfl, rfl⟩
  go_wp2_with fail
  refine Calls.mono (stillObjects_nil g w1 n10) ?_
  rintro e _ ⟨rfl, rfl⟩
  go_wp2_with fail
  refine Calls.mono (stillWrites_nil g w1 n12) ?_
  rintro e _ ⟨rfl, rfl⟩
  go_wp2_with fail
  refine Calls.mono (stillSteps_nil g w1 n14) ?_
  rintro e _ ⟨rfl, rfl⟩
  go_wp2_with fail
  refine Calls.mono (putSteps_nil g w1 n14) ?_
  rintro e _ ⟨rfl, rfl⟩
  go_wp2_with fail
  refine Calls.mono (putTexts_nil g w1 n0) ?_
  rintro e _ ⟨rfl, rfl⟩
  go_wp2_with fail
  refine Calls.mono (putInts_nil g w1 n2) ?_
  rintro e _ ⟨rfl, rfl⟩
  go_wp2_with fail
  refine Calls.mono (putSpans_calls g base N _ vs (fun i => (ls[i]?).getD []) w1 (by omega) (by have := HB1.out.v; rw [HN.out] at this; exact this)) ?_
  rintro e w2 ⟨rfl, hv2, ht2⟩
  have HV2 : Hid (BookV w2 base g (.slice AS N cS) N vs (fun i => marksP i 0 (ns i))) := by rw [Hid, ← HNS.out]; exact hv2
  have HT2 := Lib.hid (HT1.out.trans ht2)
  have HNL : Hid (∀ j, j < 16 → j ≠ 4 → j ≠ 5 → w2.cell? ⟨g, j, none⟩ = some (.slice none 0 0)) := fun j hj a b => (ht2.cell (j := j) HB1.out.gl (fun hm => (HVF.out g hm).1 rfl)).trans (HB1.out.nil j hj a b)
  clear hv2 ht2 n0 n2 n6 n8 n10 n12 n14
  have n0 : w2.cell? ⟨g, 0, none⟩ = some (.slice none 0 0) := HNL.out 0 (by omega) (by omega) (by omega)
  have n2 : w2.cell? ⟨g, 2, none⟩ = some (.slice none 0 0) := HNL.out 2 (by omega) (by omega) (by omega)
  have n6 : w2.cell? ⟨g, 6, none⟩ = some (.slice none 0 0) := HNL.out 6 (by omega) (by omega) (by omega)
  have n8 : w2.cell? ⟨g, 8, none⟩ = some (.slice none 0 0) := HNL.out 8 (by omega) (by omega) (by omega)
  have n10 : w2.cell? ⟨g, 10, none⟩ = some (.slice none 0 0) := HNL.out 10 (by omega) (by omega) (by omega)
  have n12 : w2.cell? ⟨g, 12, none⟩ = some (.slice none 0 0) := HNL.out 12 (by omega) (by omega) (by omega)
  have n14 : w2.cell? ⟨g, 14, none⟩ = some (.slice none 0 0) := HNL.out 14 (by omega) (by omega) (by omega)
  go_wp2_with fail
  refine Calls.mono (putPieces_nil g w2 n6) ?_
  rintro e _ ⟨rfl, rfl⟩
  go_wp2_with fail
  refine Calls.mono (putEntries_nil g w2 n8) ?_
  rintro e _ ⟨rfl, rfl⟩
  go_wp2_with fail
  refine Calls.mono (putObjects_nil g w2 n10) ?_
  rintro e _ ⟨rfl, rfl⟩
  go_wp2_with fail
  refine Calls.mono (putWrites_nil g w2 n12) ?_
  rintro e _ ⟨rfl, rfl⟩
  go_wp2_with fail
  refine Calls.mono (growTexts_nil g w2 n0) ?_
  rintro e _ ⟨rfl, rfl⟩
  go_wp2_with fail
  refine Calls.mono (growInts_nil g w2 n2) ?_
  rintro e _ ⟨rfl, rfl⟩
  go_wp2_with fail
  refine Calls.mono (growSpans_calls g base N _ vs ns w2 hN HNM.out HV2.out) ?_
  rintro e w3 ⟨o, rfl, hg3⟩
  have HG := Lib.hid hg3
  have HT3 := Lib.hid (HT2.out.trans hg3.t)
  have HNL3 : Hid (∀ j, j < 16 → j ≠ 4 → j ≠ 5 → w3.cell? ⟨g, j, none⟩ = some (.slice none 0 0)) := fun j hj a b => (hg3.t.cell (j := j) HV2.out.gl (fun hm => (HVF.out g hm).1 rfl)).trans (HNL.out j hj a b)
  have n4 : w3.cell? ⟨g, 4, none⟩ = some (.slice AS N cS) := (hg3.t.cell HV2.out.gl (fun hm => (HVF.out g hm).1 rfl)).trans HV2.out.c4
  obtain ⟨gs, hgo, hgi⟩ := hg3.ex
  have HSr : Hid (RowAt w3 AS vs) := by
    have := hg3.t.own HV2.out.hS (fun b hb hm => (HVF.out b hm).2.1 hb)
    obtain ⟨_, _, e, _, hr, _⟩ := this.slice
    injection e with e; subst e; exact hr
  obtain ⟨AG, cG, rfl, _, hrG, _⟩ := hgo.slice
  have HRG := Lib.hid hrG
  have HGI := Lib.hid hgi
  clear hrG hgi hgo hg3 n0 n2 n6 n8 n10 n12 n14
  have n0 : w3.cell? ⟨g, 0, none⟩ = some (.slice none 0 0) := HNL3.out 0 (by omega) (by omega) (by omega)
  have n2 : w3.cell? ⟨g, 2, none⟩ = some (.slice none 0 0) := HNL3.out 2 (by omega) (by omega) (by omega)
  have n6 : w3.cell? ⟨g, 6, none⟩ = some (.slice none 0 0) := HNL3.out 6 (by omega) (by omega) (by omega)
  have n8 : w3.cell? ⟨g, 8, none⟩ = some (.slice none 0 0) := HNL3.out 8 (by omega) (by omega) (by omega)
  have n10 : w3.cell? ⟨g, 10, none⟩ = some (.slice none 0 0) := HNL3.out 10 (by omega) (by omega) (by omega)
  have n12 : w3.cell? ⟨g, 12, none⟩ = some (.slice none 0 0) := HNL3.out 12 (by omega) (by omega) (by omega)
  have n14 : w3.cell? ⟨g, 14, none⟩ = some (.slice none 0 0) := HNL3.out 14 (by omega) (by omega) (by omega)
  go_wp2_with fail
  refine Calls.mono (growPieces_nil g w3 n6) ?_
  rintro e _ ⟨rfl, rfl⟩
  go_wp2_with fail
  refine Calls.mono (growEntries_nil g w3 n8) ?_
  rintro e _ ⟨rfl, rfl⟩
  go_wp2_with fail
  refine Calls.mono (growObjects_nil g w3 n10) ?_
  rintro e _ ⟨rfl, rfl⟩
  go_wp2_with fail
  refine Calls.mono (growWrites_nil g w3 n12) ?_
  rintro e _ ⟨rfl, rfl⟩
  go_wp2_with fail
  refine Calls.mono (growSteps_nil g w3 n14) ?_
  rintro e _ ⟨rfl, rfl⟩
  have HX1 : Hid (∀ W, Below w3.heap.size w3 W → Calls Tryz.prog 51 #[.slice AG N cG] W fun e w' => e = .returned (.bool true) ∧ Below W.heap.size W w') := by
    intro W hb
    refine markedSpans_calls AG cG N gs ((List.range N).map fun i => ns i + 72) W (by omega) (by simp) (HRG.out.below hb) (fun i n hn => ?_)
    have hi : i < N := by have := (List.getElem?_eq_some_iff.1 hn).1; simpa using this
    obtain ⟨A, c, A', c', h1, h2, h3, h4⟩ := HGI.out i hi
    simp [hi] at hn
    subst hn
    exact ⟨A', c', h3, by have := HNM.out i hi; omega, h4.below hb⟩
  have HX2 : Hid (∀ W, Below w3.heap.size w3 W → Calls Tryz.prog 51 #[.slice AS N cS] W fun e w' => e = .returned (.bool true) ∧ Below W.heap.size W w') := by
    intro W hb
    refine markedSpans_calls AS cS N vs ((List.range N).map fun i => ns i) W (by omega) (by simp) (HSr.out.below hb) (fun i n hn => ?_)
    have hi : i < N := by have := (List.getElem?_eq_some_iff.1 hn).1; simpa using this
    obtain ⟨A, c, A', c', h1, h2, h3, h4⟩ := HGI.out i hi
    simp [hi] at hn
    subst hn
    exact ⟨A, c, h1, by have := HNM.out i hi; omega, h2.below hb⟩
  go_wp2_with fail
  refine Calls.mono (markedTexts_nil w3) ?_
  rintro e _ ⟨rfl, rfl⟩
  go_wp2_with fail
  refine Calls.mono (markedTexts_nil w3) ?_
  rintro e _ ⟨rfl, rfl⟩
  go_wp2_with fail
  refine Calls.mono (markedInts_nil w3) ?_
  rintro e _ ⟨rfl, rfl⟩
  go_wp2_with fail
  refine Calls.mono (markedInts_nil w3) ?_
  rintro e _ ⟨rfl, rfl⟩
  go_wp2_with fail
  refine Calls.mono (HX1.out _ (Below.refl _ _)) ?_
  rintro e w4 ⟨rfl, hb4⟩
  have HB4 := Lib.hid hb4
  replace n0 := cell_kept hb4 (Nat.le_refl _) n0
  replace n2 := cell_kept hb4 (Nat.le_refl _) n2
  replace n4 := cell_kept hb4 (Nat.le_refl _) n4
  replace n6 := cell_kept hb4 (Nat.le_refl _) n6
  replace n8 := cell_kept hb4 (Nat.le_refl _) n8
  replace n10 := cell_kept hb4 (Nat.le_refl _) n10
  replace n12 := cell_kept hb4 (Nat.le_refl _) n12
  replace n14 := cell_kept hb4 (Nat.le_refl _) n14
  clear hb4
  go_wp2_with fail
  refine Calls.mono (HX2.out _ HB4.out) ?_
  rintro e w5 ⟨rfl, hb5⟩
  have HB5 := Lib.hid (HB4.out.trans (hb5.mono HB4.out.size))
  replace n0 := cell_kept hb5 (Nat.le_refl _) n0
  replace n2 := cell_kept hb5 (Nat.le_refl _) n2
  replace n4 := cell_kept hb5 (Nat.le_refl _) n4
  replace n6 := cell_kept hb5 (Nat.le_refl _) n6
  replace n8 := cell_kept hb5 (Nat.le_refl _) n8
  replace n10 := cell_kept hb5 (Nat.le_refl _) n10
  replace n12 := cell_kept hb5 (Nat.le_refl _) n12
  replace n14 := cell_kept hb5 (Nat.le_refl _) n14
  clear hb5
  go_wp2_with fail
  refine Calls.mono (markedPieces_nil w5) ?_
  rintro e _ ⟨rfl, rfl⟩
  go_wp2_with fail
  refine Calls.mono (markedPieces_nil w5) ?_
  rintro e _ ⟨rfl, rfl⟩
  go_wp2_with fail
  refine Calls.mono (markedEntries_nil w5) ?_
  rintro e _ ⟨rfl, rfl⟩
  go_wp2_with fail
  refine Calls.mono (markedEntries_nil w5) ?_
  rintro e _ ⟨rfl, rfl⟩
  go_wp2_with fail
  refine Calls.mono (markedObjects_nil w5) ?_
  rintro e _ ⟨rfl, rfl⟩
  go_wp2_with fail
  refine Calls.mono (markedObjects_nil w5) ?_
  rintro e _ ⟨rfl, rfl⟩
  go_wp2_with fail
  refine Calls.mono (markedWrites_nil w5) ?_
  rintro e _ ⟨rfl, rfl⟩
  go_wp2_with fail
  refine Calls.mono (markedWrites_nil w5) ?_
  rintro e _ ⟨rfl, rfl⟩
  go_wp2_with fail
  refine Calls.mono (markedSteps_nil w5) ?_
  rintro e _ ⟨rfl, rfl⟩
  go_wp2_with fail
  refine Calls.mono (markedSteps_nil w5) ?_
  rintro e _ ⟨rfl, rfl⟩
  go_wp2
  go_ret
  exact ⟨rfl, HT3.out.trans (Touched.of_below HB5.out _)⟩
end Go.Proofs.YtiocealhadlggaaGreat

