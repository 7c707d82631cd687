/- The document's disk: sectors are written; all is made safe. -/
import Derived.Test.YtbnkmndgfmmiaaaPlain2
import Derived.Test.YtbnkmndgfmmiaaaLentW
namespace Go.Proofs.Ytbnkmndgfmmiaaa
open Go.RowKit
set_option linter.unusedVariables false

section
variable {w0 w : World} {g bl cl bs cs : Nat} {V : Value} {K : Option Addr} {kc : Nat} {P : DSt}
theorem PlainAt.setL (a : PlainAt w0 w g bl cl bs cs V K kc P) {y : Nat} (hy : y < P.l.length) (d : ByteArray) :
    PlainAt w0 (w.setCell ⟨bl, y, none⟩ (.string d)) g bl cl bs cs V K kc { P with l := P.l.set y d } ∧ Touched w (w.setCell ⟨bl, y, none⟩ (.string d)) [bl] := by
  have hT : Touched w (w.setCell ⟨bl, y, none⟩ (.string d)) [bl] := (Touched.refl w _).setCell (.inl (by simp)) _
  have h1 := (a.ol.set y (by simpa [scells] using hy) (.string d)).1
  have e1 : (scells P.l).set y (.string d) = scells (P.l.set y d) := by simp [scells, List.map_set]
  rw [e1] at h1
  have n1 := a.n1
  have n3 := a.n3
  refine ⟨⟨?_, by simpa using h1, ?_, by simpa using a.ls, ?_, a.rk, a.n1, a.n2, a.n3, a.n4, by simpa using a.pos, by simpa using a.big, a.inv, a.ge⟩, hT⟩
  · have := hT.own a.of (fun k hk => by simp [Value.ownBlock] at hk; subst hk; simpa using n1)
    simpa [pflds] using this
  · have := hT.own a.os (fun k hk => by simp [Value.ownBlock] at hk; subst hk; simpa using fun e => n3 e.symm)
    simpa using this
  · exact hT.own a.ow (fun k hk => by simpa using (a.n4 k hk).2.1)
theorem PlainAt.grown (a : PlainAt w0 w g bl cl bs cs V K kc P) (hw0 : w0.heap.size ≤ w.heap.size) {w1 : World} {V1 : Value} {p : Int × ByteArray} (ho : Own w1 0 2 V1 (P.ws.length + 1) (dcells P.ws ++ dcells [p])) (hT : Touched w w1 V.ownBlock.toList)
    (hV : V1.ownBlock = V.ownBlock ∨ ∃ b, V1.ownBlock = some b ∧ w.heap.size ≤ b) (hp : 0 ≤ p.1 ∧ p.1 < (P.l.length : Int)) (hroom : P.ws.length + P.many + 2 ≤ 1000000000) :
    PlainAt w0 (w1.setCell ⟨g, 2, none⟩ V1) g bl cl bs cs V1 K kc { P with ws := P.ws ++ [p] } ∧ Touched w (w1.setCell ⟨g, 2, none⟩ V1) (g :: V.ownBlock.toList) := by
  have hg : g ∉ V.ownBlock.toList := fun h => (a.n4 g (by simpa using h)).1 rfl
  have hbl : bl ∉ V.ownBlock.toList := fun h => (a.n4 bl (by simpa using h)).2.1 rfl
  have hbs : bs ∉ V.ownBlock.toList := fun h => (a.n4 bs (by simpa using h)).2.2 rfl
  have hlt := a.lt
  have hT2 : Touched w1 (w1.setCell ⟨g, 2, none⟩ V1) [g] := (Touched.refl w1 _).setCell (.inl (by simp)) _
  have of1 := (hT.own a.of (fun k hk => by simp [Value.ownBlock] at hk; subst hk; exact hg)).set 2 (by simp [pflds]) V1
  refine ⟨PlainAt.refield hT2 of1.1 (hT.own a.ol (fun k hk => by simp [Value.ownBlock] at hk; subst hk; exact hbl)) (hT.own a.os (fun k hk => by simp [Value.ownBlock] at hk; subst hk; exact hbs)) a.ls ?_ a.rk a.n1 a.n2 a.n3 ?_ a.pos ?_ a.inv ?_, ?_⟩
  · rw [show ({ P with ws := P.ws ++ [p] } : DSt).ws = P.ws ++ [p] from rfl, dcells_append, List.length_append]
    exact ho
  · intro b hb
    rcases hV with h | ⟨b', h, hb'⟩
    · rw [h] at hb; exact a.n4 b hb
    · rw [h] at hb; injection hb with hb; subst hb; omega
  · obtain ⟨q1, q2, q3, q4, q5⟩ := a.big
    refine ⟨q1, q2, ?_, q4, ?_⟩
    · show (P.ws ++ [p]).length + P.many ≤ _
      rw [List.length_append]; simp; omega
    · intro z hz
      rcases List.mem_append.1 hz with h | h
      · exact q5 z h
      · rw [List.mem_singleton] at h; subst h; exact hp
  · refine ⟨a.ge.1, a.ge.2.1, a.ge.2.2.1, fun b hb => ?_⟩
    rcases hV with h | ⟨b', h, hb'⟩
    · rw [h] at hb; exact a.ge.2.2.2 b hb
    · rw [h] at hb; injection hb with hb; subst hb; omega
  · exact (hT.mono (fun k hk _ => List.mem_cons_of_mem _ hk)).trans (hT2.mono (fun k hk _ => by simp at hk; simp [hk]))
/-- What it keeps is there still. -/
theorem PlainAt.rkAt (a : PlainAt w0 w g bl cl bs cs V K kc P) (h0 : Below w0.heap.size w0 w) {w' : World} {ts : List Nat} (hT : Touched w w' ts) (hts : ∀ k ∈ ts, w0.heap.size ≤ k) : RowAt w' K (icells P.keep) :=
  a.rk.below (hT.below h0 h0.size hts)
theorem PlainTo.refl {F : List Nat} (a : PlainAt w0 w g bl cl bs cs V K kc P) (hF : ∀ k, k ∈ g :: bl :: bs :: V.ownBlock.toList → k ∈ F) : PlainTo w0 w w g F P := PlainTo.at a (fun k hk => .inl (hF k hk)) (Touched.refl _ _)

set_option maxHeartbeats 1600000 in
set_option maxRecDepth 100000 in
theorem plainFlush_calls {F : List Nat} (a : PlainAt w0 w g bl cl bs cs V K kc P) (hF : ∀ k, k ∈ g :: bl :: bs :: V.ownBlock.toList → k ∈ F) (h0 : Below w0.heap.size w0 w) (harm : P.armed = true → 0 ≤ P.left) :
    Calls Try.prog 30 #[.pointer (some ⟨g, 0, none⟩)] w fun e w' => e = .returned (.int .i64 (flushP P).2) ∧ PlainTo w0 w w' g F (flushP P).1 := by
  have HA : Box _ := ⟨a⟩
  have HF : Box _ := ⟨hF⟩
  have HG : Box _ := ⟨plainFalls_calls a harm⟩
  have H0 : Box _ := ⟨h0⟩
  obtain ⟨k3, _⟩ := a.fld (i := 3) rfl
  clear hF h0
  by_cases h1 : P.off = true
  · have e : flushP P = (P, 14) := by rw [flushP, if_pos h1]
    rw [e]
    rw [h1] at k3
    clear a h1 e HG
    go_enter Try.func30, Try.ntmps30
    go_wp2
    go_ret
    exact ⟨rfl, PlainTo.refl HA.out HF.out⟩
  have h1' : P.off = false := by simpa using h1
  have HW : Box (flushP P = if (fallsP P).2 = true then ((crashP (fallsP P).1 (fallsP P).1.keep).1, 14) else ({ (fallsP P).1 with safe := (fallsP P).1.l, ws := [] }, 0)) := ⟨by rw [flushP, if_neg h1]⟩
  rw [h1'] at k3
  clear a h1 h1' harm
  obtain ⟨G, hG⟩ : ∃ G, fallsP P = G := ⟨_, rfl⟩
  rw [hG] at HG HW
  clear hG
  obtain ⟨b, hb⟩ : ∃ b, G.2 = b := ⟨_, rfl⟩
  rw [hb] at HG HW
  clear hb
  go_enter Try.func30, Try.ntmps30
  go_wp2_with fail
  refine HG.out.mono ?_
  rintro e w2 ⟨rfl, ha2, ht2⟩
  have HA2 : Box _ := ⟨ha2⟩
  have HT2 : Box (Touched w w2 [g]) := ⟨ht2⟩
  have HT2F : Box (Touched w w2 F) := ⟨ht2.mono (fun q hq _ => HF.out q (by simp at hq; simp [hq]))⟩
  have H02 : Box (Below w0.heap.size w0 w2) := ⟨ht2.below H0.out H0.out.size (by intro k hk; simp at hk; subst hk; exact HA.out.ge.1)⟩
  clear ha2 ht2
  cases b
  · rw [if_neg (by simp)] at HW
    obtain ⟨q0, f0⟩ := HA2.out.fld (i := 0) rfl
    obtain ⟨n, hn⟩ : ∃ n, G.1.l.length = n := ⟨_, rfl⟩
    have HN : Box _ := ⟨hn⟩
    replace q0 : w2.cell? ⟨g, 0, none⟩ = some (.slice (some ⟨bl, 0, none⟩) n cl) := by rw [← hn]; exact q0
    have hn2 : n ≤ 2000 := by rw [← hn]; exact HA2.out.big.1
    have hn0 : 0 < n := by rw [← hn]; exact HA2.out.pos
    have HR : Box (RowAt w2 (some ⟨bl, 0, none⟩) (scells G.1.l)) := ⟨by
      obtain ⟨A9, c9, e9, _, hr9, _⟩ := HA2.out.ol.slice
      injection e9 with e91
      subst e91
      exact hr9⟩
    have HL : Box ((scells G.1.l).length = n * 1) := ⟨by simp [scells, HN.out]⟩
    have hsz : w.heap.size ≤ w2.heap.size := HT2.out.size
    have HLT : Box _ := ⟨HA2.out.lt⟩
    clear hn f0
    go_wp2_with (at_builtin; refine appO el_texts w2.heap.size rfl _ _ rfl (v := .slice none 0 0) (n := 0) (xs := []) rfl (Own.nil _ _ _) rfl (news := scells G.1.l) HL.out HR.out (one_scells _) (by omega) (Nat.le_refl _) ?_; intro v3 w3 ho3 hg3 _; have hb3 : Below w2.heap.size w2 w3 := grown_nil hg3; rw [Nat.zero_add, List.nil_append] at ho3; obtain ⟨b3, c3, rfl, hb3l, hb3s, hc3, hr3⟩ := ho3.form hn0; have HA3 : Box _ := ⟨HA2.out.below hb3⟩; have HT3 : Box (Touched w w3 F) := ⟨HT2F.out.trans (Touched.of_below hb3 _)⟩; have HO3 : Box (Own w3 0 1 (.slice (some ⟨b3, 0, none⟩) n c3) n (scells G.1.l)) := ⟨ho3.weaken (Nat.zero_le _)⟩; obtain ⟨_, f1⟩ := HA3.out.fld (i := 1) rfl; obtain ⟨_, f2⟩ := HA3.out.fld (i := 2) rfl; clear ho3 hb3 hr3 hg3)
    go_ret
    rw [HW.out]
    have hlt := HLT.out
    have hge := HA.out.ge
    have hT4 : Touched w3 ((w3.setCell ⟨g, 1, none⟩ (.slice (some ⟨b3, 0, none⟩) n c3)).setCell ⟨g, 2, none⟩ (.slice none 0 0)) [g] := ((Touched.refl w3 _).setCell (.inl (by simp)) _).setCell (.inl (by simp)) _
    refine ⟨rfl, PlainTo.at (bl' := bl) (cl' := cl) (bs' := b3) (cs' := c3) (V' := .slice none 0 0) (K' := K) (kc' := kc) ?_ ?_ ?_⟩
    · refine PlainAt.refield hT4 ?_ HA3.out.ol (by have := HO3.out; rw [← HN.out] at this; exact this) rfl (Own.nil _ _ _) HA3.out.rk HA3.out.n1 (by omega) (by omega) (fun b hb => by simp [Value.ownBlock] at hb) HA3.out.pos ?_ HA3.out.inv ⟨hge.1, hge.2.1, by have := HA.out.lt.1; omega, fun b hb => by simp [Value.ownBlock] at hb⟩
      · have h5 := ((HA3.out.of.set 1 (by simp [pflds]) (.slice (some ⟨b3, 0, none⟩) n c3)).1.set 2 (by simp [pflds]) (.slice none 0 0)).1
        simp only [pflds, List.set_cons_zero, List.set_cons_succ] at h5
        simp only [pflds, HN.out]
        simp only [HN.out] at h5
        exact h5
      · obtain ⟨p1, p2, p3, p4, p5⟩ := HA3.out.big
        exact ⟨p1, p2, by show 0 + G.1.many ≤ _; omega, p4, by simp⟩
    · intro q hq
      simp only [List.mem_cons, Value.ownBlock, Option.mem_toList] at hq
      rcases hq with rfl | rfl | rfl | hq
      · exact .inl (HF.out _ (by simp))
      · exact .inl (HF.out _ (by simp))
      · exact .inr (by omega)
      · simp at hq
    · exact HT3.out.trans (hT4.mono (fun q hq _ => HF.out q (by simp at hq; simp [hq])))
  · rw [if_pos rfl] at HW
    obtain ⟨q6, _⟩ := HA2.out.fld (i := 6) rfl
    have q6 : w2.cell? ⟨g, 6, none⟩ = some (.slice K G.1.keep.length kc) := q6
    have HC : Box _ := ⟨plainCrash_calls HA2.out HF.out K G.1.keep.length kc G.1.keep rfl HA2.out.big.2.1 (fun w' hT => HA2.out.rkAt H02.out hT (by intro k hk; simp at hk; subst hk; exact HA.out.ge.2.2.1))⟩
    go_wp2_with fail
    refine HC.out.mono ?_
    rintro e w3 ⟨rfl, hs3⟩
    have HS3 : Box _ := ⟨hs3⟩
    clear hs3
    go_wp2_with fail
    go_ret
    rw [HW.out]
    exact ⟨rfl, PlainTo.trans HT2F.out (fun k hk => .inl hk) HS3.out⟩
end
end Go.Proofs.Ytbnkmndgfmmiaaa
