/- act: Crash; Arm. -/
import Derived.Test.YtbnkmndgfmmiaaaAct1
import Derived.Deep.DeepCutAuto
namespace Go.Proofs.Ytbnkmndgfmmiaaa
open Go.RowKit
set_option linter.unusedVariables false

section
variable {w0 w : World} {gd gp : Nat} {Fd Fp : List Nat} {D P : DSt}
theorem row_off {w w' : World} {b : Nat} {xs : List Value} {ts : List Nat} (h : RowAt w (some ⟨b, 0, none⟩) xs) (hT : Touched w w' ts) (hb : b ∉ ts) : RowAt w' (some ⟨b, 0, none⟩) xs := row_touched h hT (.inr ⟨b, rfl, hb⟩)
set_option maxHeartbeats 3200000 in
set_option maxRecDepth 100000 in
theorem act_crash (T : Two w0 w gd gp Fd Fp D P) (o : DOpV) (hg : o.Good w0) (h6 : o.n2 ≤ 6000) (hk : o.kind = 3) :
    Calls Try.prog 10 #[.pointer (some ⟨gd, 0, none⟩), .pointer (some ⟨gp, 0, none⟩), o.val] w fun e w' => e = .returned (.bool true) ∧ ActTo w0 w w' gd gp Fd Fp D P := by
  obtain ⟨q0, q1, q2, q3, q4⟩ := opW_cells w o
  have hbW := opW_below w o
  have hsz := opW_size w o
  have T1 : Box _ := ⟨T.below hbW⟩
  have HB : Box _ := ⟨hbW⟩
  have hlo := T.lo
  obtain ⟨hl1, hl2⟩ := T.like.crash o.l
  have HLK : Box _ := ⟨hl1⟩
  have HRM : Box _ := ⟨crashD_room D o.l⟩
  have HLN : Box (∀ N, Len N P → Len N (crashP P o.l).1) := ⟨fun N h => len_crash h o.l⟩
  have HL : Box (∀ W, Below w0.heap.size w0 W → RowAt W o.a2 (icells o.l)) := ⟨fun W h => hg.r2.below h⟩
  have HLE : Box _ := ⟨lentInts_calls o.a2 o.n2 o.c2 o.l (opW w o) hg.h2 (by omega) (HL.out _ T1.out.bel)⟩
  have HLL : Box _ := ⟨hg.h2⟩
  have HLO : Box (∀ b, (opW w o).heap.size ≤ b → b ∉ Fd ∧ b ∉ Fp) := ⟨fun b hb => ⟨fun h => by have := (hlo b (List.mem_append_left _ h)).2; omega, fun h => by have := (hlo b (List.mem_append_right _ h)).2; omega⟩⟩
  have HX : Box (w.heap.size ∉ Fd ∧ w.heap.size ∉ Fp) := ⟨⟨fun h => by have := (hlo _ (List.mem_append_left _ h)).2; omega, fun h => by have := (hlo _ (List.mem_append_right _ h)).2; omega⟩⟩
  have HSZ : Box _ := ⟨hsz⟩
  rw [hk] at q0
  unfold DOpV.val
  rw [hk]
  clear T hbW hlo hl1 q1 q2 q3 hsz
  obtain ⟨r, hr⟩ : ∃ r, (crashP P o.l).2 = r := ⟨_, rfl⟩
  have HR : Box _ := ⟨hl2.trans hr⟩
  have HR2 : Box _ := ⟨hr⟩
  clear hl2 hr
  unfold opW at q0 q4 T1 HB HLE HLO HSZ
  rw [hk] at q0 q4 T1 HB HLE HLO HSZ
  go_enter Try.func10, Try.ntmps10
  go_wp2_with fail
  refine HLE.out.mono ?_
  rintro e w2 ⟨g5, cap, rfl, hcap, hrow, hb2, hg5⟩
  have hs2 := hb2.size
  have T2 : Box _ := ⟨T1.out.below hb2⟩
  have HB2 : Box _ := ⟨hb2⟩
  have HRow : Box _ := ⟨hrow⟩
  obtain ⟨hn1, hn2⟩ := HLO.out g5 hg5
  have HN : Box _ := ⟨And.intro hn1 hn2⟩
  have HC1 : Box (∀ W, Below w2.heap.size w2 W → Calls Try.prog 15 #[.pointer (some ⟨gd, 0, none⟩), .slice (some ⟨g5, 0, none⟩) o.n2 cap] W fun e w' => e = .returned (.int .i64 (r : Int)) ∧ DiskTo w0 w2 w' gd Fd (crashD D o.l).1) := ⟨fun W hb => by
    have TW := T2.out.below hb
    rw [← HR.out]
    exact (diskCrash_o TW.d TW.bel.size (some ⟨g5, 0, none⟩) o.n2 cap o.l HLL.out (by omega) (fun w' hT => row_off (HRow.out.left.below hb) hT HN.out.1)).mono fun e w' ⟨h1, h2⟩ => ⟨h1, h2.after hb⟩⟩
  have HC2 : Box (∀ w3 W, DiskTo w0 w2 w3 gd Fd (crashD D o.l).1 → Below w3.heap.size w3 W → Calls Try.prog 32 #[.pointer (some ⟨gp, 0, none⟩), .slice o.a2 o.n2 o.c2] W fun e w' => e = .returned (.int .i64 (r : Int)) ∧ PlainTo w0 w3 w' gp Fp (crashP P o.l).1) := ⟨fun w3 W hd hb => by
    obtain ⟨hp, hb0⟩ := T2.out.ptr hd
    rw [← HR2.out]
    exact (plainCrash_o (hp.below hb) o.a2 o.n2 o.c2 o.l HLL.out (by omega) (fun w' hT => HL.out w' (hT.below (hb0.trans (hb.mono hb0.size)) (Nat.le_trans hb0.size hb.size) (fun k hk => (hp.lo k hk).1)))).mono fun e w' ⟨h1, h2⟩ => ⟨h1, h2.after hb⟩⟩
  have HC3 : Box (∀ w3 w4 W, DiskTo w0 w2 w3 gd Fd (crashD D o.l).1 → PlainTo w0 w3 w4 gp Fp (crashP P o.l).1 → Below w4.heap.size w4 W → Calls Try.prog 33 #[.slice (some ⟨g5, 0, none⟩) o.n2 cap, .slice o.a2 o.n2 o.c2] W fun e w' => e = .returned (.bool true) ∧ Below w4.heap.size w4 w') := ⟨fun w3 w4 W hd hp hb => by
    obtain ⟨hp0, hb0⟩ := T2.out.ptr hd
    have hb4 : Below w0.heap.size w0 w4 := hp.touched.below hb0 hb0.size (fun k hk => (hp0.lo k hk).1)
    exact (staysInts_calls g5 o.a2 o.n2 cap o.c2 o.l W HLL.out (by omega) hcap ((row_off (row_off HRow.out hd.touched HN.out.1) hp.touched HN.out.2).below hb) (HL.out W (hb4.trans (hb.mono hb4.size)))).mono fun e w' ⟨h1, h2⟩ => ⟨h1, bel_calls hb h2⟩⟩
  have p4 := cell_kept hb2 (by have := HSZ.out; omega) q4
  have HS : Box (∀ W, Below w2.heap.size w2 W → W.cell? ⟨w.heap.size, 4, none⟩ = some (.slice o.a2 o.n2 o.c2)) := ⟨fun W hb => cell_kept hb (by have := HSZ.out; omega) p4⟩
  have HS1 : Box (∀ w3 W, DiskTo w0 w2 w3 gd Fd (crashD D o.l).1 → Below w3.heap.size w3 W → W.cell? ⟨w.heap.size, 4, none⟩ = some (.slice o.a2 o.n2 o.c2)) := ⟨fun w3 W hd hb => cell_kept hb (by have := HSZ.out; have := hd.touched.size; omega) ((hd.touched.cell (by have := HSZ.out; omega) HX.out.1).trans p4)⟩
  have HS2 : Box (∀ w3 w4 W, DiskTo w0 w2 w3 gd Fd (crashD D o.l).1 → PlainTo w0 w3 w4 gp Fp (crashP P o.l).1 → Below w4.heap.size w4 W → W.cell? ⟨w.heap.size, 4, none⟩ = some (.slice o.a2 o.n2 o.c2)) := ⟨fun w3 w4 W hd hp hb => cell_kept hb (by have := HSZ.out; have := hd.touched.size; have := hp.touched.size; omega) ((hp.touched.cell (by have := HSZ.out; have := hd.touched.size; omega) HX.out.2).trans ((hd.touched.cell (by have := HSZ.out; omega) HX.out.1).trans p4))⟩
  have HB0 : Box (Below w2.heap.size w2 w2) := ⟨Below.refl _ _⟩
  clear hrow hb2 hn1 hn2 q0 q4
  go_wp2_with fail
  go_region_held3 (fun w' => w'.cell? ⟨w.heap.size, 4, none⟩ = some (.slice o.a2 o.n2 o.c2)) ((first | exact HS2.out _ _ _ H3.out H4.out (by repeat (first | exact HB5.out | exact Below.refl _ _ | apply bel_drew)) | exact HS1.out _ _ H3.out (by repeat (first | exact Below.refl _ _ | apply bel_drew)) | exact HS.out _ (by repeat (first | exact Below.refl _ _ | apply bel_drew))))
    (first
      | (go_at_call 15; refine Calls.mono (HC1.out _ (by repeat (first | exact Below.refl _ _ | apply bel_drew))) ?_; rintro e w3 ⟨rfl, h3⟩; have H3 : Box _ := ⟨h3⟩; clear h3)
      | (go_at_call 32; refine Calls.mono (HC2.out w3 _ H3.out (by repeat (first | exact Below.refl _ _ | apply bel_drew))) ?_; rintro e w4 ⟨rfl, h4⟩; have H4 : Box _ := ⟨h4⟩; clear h4)
      | (go_at_call 33; refine Calls.mono (HC3.out w3 w4 _ H3.out H4.out (by repeat (first | exact Below.refl _ _ | apply bel_drew))) ?_; rintro e w5 ⟨rfl, h5⟩; have HB5 : Box _ := ⟨h5⟩; clear h5))
  all_goals
    go_wp2_with fail
    go_ret
    have hfin := TwoTo.of T2.out H3.out H4.out HLK.out
    first
      | exact ⟨rfl, ActTo.of (bel_calls HB.out HB2.out) (hfin.then HB5.out) (by have := HRM.out; omega) HLN.out⟩
      | exact ⟨rfl, ActTo.of (bel_calls HB.out HB2.out) (hfin.then (bel_drew HB5.out)) (by have := HRM.out; omega) HLN.out⟩
set_option maxHeartbeats 3200000 in
set_option maxRecDepth 100000 in
theorem act_arm (T : Two w0 w gd gp Fd Fp D P) (o : DOpV) (hg : o.Good w0) (h6 : o.n2 ≤ 6000) (hk : o.kind = 5) :
    Calls Try.prog 10 #[.pointer (some ⟨gd, 0, none⟩), .pointer (some ⟨gp, 0, none⟩), o.val] w fun e w' => e = .returned (.bool true) ∧ ActTo w0 w w' gd gp Fd Fp D P := by
  obtain ⟨q0, q1, q2, q3, q4⟩ := opW_cells w o
  have hbW := opW_below w o
  have hsz := opW_size w o
  have T1 : Box _ := ⟨T.below hbW⟩
  have HB : Box _ := ⟨hbW⟩
  have hlo := T.lo
  have HLK : Box _ := ⟨T.like.arm o.n o.l⟩
  have HGD : Box _ := ⟨hg⟩
  have hgp : gp ∈ Fp := by
    obtain ⟨bl, cl, bs, cs, V, K, kc, a, h1⟩ := T.p.ex
    exact h1 gp (by simp)
  have hgpx : gp ≠ w.heap.size := by have := (hlo gp (List.mem_append_right _ hgp)).2; omega
  have HL : Box (∀ W, Below w0.heap.size w0 W → RowAt W o.a2 (icells o.l)) := ⟨fun W h => hg.r2.below h⟩
  have HLE : Box _ := ⟨lentInts_calls o.a2 o.n2 o.c2 o.l (opW w o) hg.h2 (by omega) (HL.out _ T1.out.bel)⟩
  have HLL : Box _ := ⟨hg.h2⟩
  have HLO : Box (∀ b, (opW w o).heap.size ≤ b → b ∉ Fd ∧ b ∉ Fp) := ⟨fun b hb => ⟨fun h => by have := (hlo b (List.mem_append_left _ h)).2; omega, fun h => by have := (hlo b (List.mem_append_right _ h)).2; omega⟩⟩
  have HX : Box (w.heap.size ∉ Fd ∧ w.heap.size ∉ Fp) := ⟨⟨fun h => by have := (hlo _ (List.mem_append_left _ h)).2; omega, fun h => by have := (hlo _ (List.mem_append_right _ h)).2; omega⟩⟩
  have HSZ : Box _ := ⟨hsz⟩
  rw [hk] at q0
  unfold DOpV.val
  rw [hk]
  clear T hbW hlo q2 q3 hsz hgp hg
  unfold opW at q0 q1 q4 T1 HB HLE HLO HSZ
  rw [hk] at q0 q1 q4 T1 HB HLE HLO HSZ
  go_enter Try.func10, Try.ntmps10
  go_wp2_with fail
  refine HLE.out.mono ?_
  rintro e w2 ⟨g5, cap, rfl, hcap, hrow, hb2, hg5⟩
  have hs2 := hb2.size
  have T2 : Box _ := ⟨T1.out.below hb2⟩
  have HB2 : Box _ := ⟨hb2⟩
  have HRow : Box _ := ⟨hrow⟩
  obtain ⟨hn1, hn2⟩ := HLO.out g5 hg5
  have HN : Box _ := ⟨And.intro hn1 hn2⟩
  have p1 := cell_kept hb2 (by have := HSZ.out; omega) q1
  have p4 := cell_kept hb2 (by have := HSZ.out; omega) q4
  obtain ⟨ba, hba⟩ : ∃ ba, decide (0 ≤ o.n) = ba := ⟨_, rfl⟩
  have HBA : Box _ := ⟨hba⟩
  have HF : Box _ := ⟨diskArm_o T2.out.d T2.out.bel.size o.n (some ⟨g5, 0, none⟩) o.n2 cap o.l HLL.out (by omega) (fun h => by cases h) (by omega) HGD.out.nn HGD.out.s2 HRow.out.left⟩
  have HQQ : Box _ := ⟨And.intro p1 p4⟩
  clear hrow hb2 hn1 hn2 q0 q4 q1 p4
  go_wp2_with fail
  refine HF.out.mono ?_
  rintro e w3 ⟨rfl, h3⟩
  obtain ⟨h4, v4, v5, v6, ⟨c4, f4⟩, ⟨c5, f5⟩, ⟨c6, f6⟩⟩ := plain_arm (T2.out.ptr h3).1 o.n ba HBA.out o.a2 o.n2 o.c2 o.l HLL.out (by omega) HGD.out.nn HGD.out.s2 HGD.out.r2
  have HSK : Box (∀ W', Touched w3 W' [gp] → W'.cell? ⟨w.heap.size, 1, none⟩ = some (.int .i64 o.n) ∧ W'.cell? ⟨w.heap.size, 4, none⟩ = some (.slice o.a2 o.n2 o.c2)) := ⟨fun W' hT => by
    have hz := HSZ.out
    have h3s := h3.touched.size
    have hne : w.heap.size ∉ [gp] := by simp; exact fun e => hgpx e.symm
    exact ⟨(hT.cell (by omega) hne).trans ((h3.touched.cell (by omega) HX.out.1).trans HQQ.out.1), (hT.cell (by omega) hne).trans ((h3.touched.cell (by omega) HX.out.1).trans HQQ.out.2)⟩⟩
  have H3 : Box _ := ⟨h3⟩
  have H4 : Box _ := ⟨h4⟩
  have HC3 : Box (∀ W, Below (((w3.setCell ⟨gp, 4, none⟩ (.bool ba)).setCell ⟨gp, 5, none⟩ (.int .i64 o.n)).setCell ⟨gp, 6, none⟩ (.slice o.a2 o.n2 o.c2)).heap.size (((w3.setCell ⟨gp, 4, none⟩ (.bool ba)).setCell ⟨gp, 5, none⟩ (.int .i64 o.n)).setCell ⟨gp, 6, none⟩ (.slice o.a2 o.n2 o.c2)) W → Calls Try.prog 33 #[.slice (some ⟨g5, 0, none⟩) o.n2 cap, .slice o.a2 o.n2 o.c2] W fun e w' => e = .returned (.bool true) ∧ Below (((w3.setCell ⟨gp, 4, none⟩ (.bool ba)).setCell ⟨gp, 5, none⟩ (.int .i64 o.n)).setCell ⟨gp, 6, none⟩ (.slice o.a2 o.n2 o.c2)).heap.size (((w3.setCell ⟨gp, 4, none⟩ (.bool ba)).setCell ⟨gp, 5, none⟩ (.int .i64 o.n)).setCell ⟨gp, 6, none⟩ (.slice o.a2 o.n2 o.c2)) w') := ⟨fun W hb => by
    obtain ⟨hp0, hb0⟩ := T2.out.ptr h3
    have hb4 := h4.touched.below hb0 hb0.size (fun k hk => (hp0.lo k hk).1)
    exact (staysInts_calls g5 o.a2 o.n2 cap o.c2 o.l W HLL.out (by omega) hcap ((row_off (row_off HRow.out h3.touched HN.out.1) h4.touched HN.out.2).below hb) (HL.out W (hb4.trans (hb.mono hb4.size)))).mono fun e w' ⟨h1, h2⟩ => ⟨h1, bel_calls hb h2⟩⟩
  clear h3 h4 HF
  go_wp2_with fail
  go_region_held3 (fun W' => W'.cell? ⟨w.heap.size, 1, none⟩ = some (.int .i64 o.n) ∧ W'.cell? ⟨w.heap.size, 4, none⟩ = some (.slice o.a2 o.n2 o.c2)) ((refine HSK.out _ ?_; repeat (first | exact Touched.refl _ _ | apply tw_set | apply tw_drew))) (fail)
  all_goals
    have z4 := (HSK.out _ (tw_set (tw_set (tw_set (Touched.refl w3 [gp]) 4 (.bool ba)) 5 (.int .i64 o.n)) 6 (.slice o.a2 o.n2 o.c2))).2
    go_wp2_with fail
    refine Calls.mono (HC3.out _ (by repeat (first | exact Below.refl _ _ | apply bel_drew))) ?_
    rintro e w5 ⟨rfl, h5⟩
    have HB5 : Box _ := ⟨h5⟩
    clear h5
    go_wp2_with fail
    go_ret
    have hfin := TwoTo.of T2.out H3.out H4.out HLK.out
    exact ⟨rfl, ActTo.of (bel_calls HB.out HB2.out) (hfin.then HB5.out) (by show D.ws.length + D.many ≤ _; omega) (fun N h => h)⟩
end
end Go.Proofs.Ytbnkmndgfmmiaaa
