/- The disk: all is made safe; the power is to go; a nil disk. -/
import Derived.Test.YtbnkmndgfmmiaaaDisk5
namespace Go.Proofs.Ytbnkmndgfmmiaaa
open Go.RowKit
set_option linter.unusedVariables false

def flushD (D : DSt) : DSt × Int :=
  if D.off = true then (D, 14) else
    if (goesD D).2 = true then ((crashD (goesD D).1 (goesD D).1.keep).1, 14) else ({ (goesD D).1 with safe := (goesD D).1.l, ws := [] }, 0)
def armD (D : DSt) (n : Int) (keep : List Int) : DSt := { D with armed := decide (0 ≤ n), left := n, keep := keep }
section
variable {w : World} {g bl cl bs cs : Nat} {V : Value} {K : Option Addr} {kc : Nat} {D : DSt}
set_option maxHeartbeats 1600000 in
set_option maxRecDepth 100000 in
theorem diskFlush_calls (a : DiskAt w g bl cl bs cs V K kc D) (harm : D.armed = true → 0 ≤ D.left) :
    Calls Try.prog 29 #[.pointer (some ⟨g, 0, none⟩)] w fun e w' => e = .returned (.int .i64 (flushD D).2) ∧ DiskStep w w' g bl bs V K (flushD D).1 := by
  have HO : Box _ := ⟨diskOn_calls a⟩
  have HA : Box _ := ⟨a⟩
  have HG : Box _ := ⟨diskGoes_calls a harm⟩
  by_cases h1 : D.off = true
  · have e : flushD D = (D, 14) := by rw [flushD, if_pos h1]
    rw [e]
    rw [h1] at HO
    clear a h1 e HG
    go_enter Try.func29, Try.ntmps29
    go_wp2_with fail
    refine HO.out.mono ?_
    rintro e w1 ⟨rfl, rfl⟩
    go_wp2
    go_ret
    exact ⟨rfl, DiskStep.of HA.out (Touched.refl _ _) (fun _ h => .inl h)⟩
  have h1' : D.off = false := by simpa using h1
  have HW : Box (flushD D = if (goesD D).2 = true then ((crashD (goesD D).1 (goesD D).1.keep).1, 14) else ({ (goesD D).1 with safe := (goesD D).1.l, ws := [] }, 0)) := ⟨by rw [flushD, if_neg h1]⟩
  rw [h1'] at HO
  clear a h1 h1' harm
  obtain ⟨G, hG⟩ : ∃ G, goesD D = G := ⟨_, rfl⟩
  rw [hG] at HG HW
  clear hG
  obtain ⟨b, hb⟩ : ∃ b, G.2 = b := ⟨_, rfl⟩
  rw [hb] at HG HW
  clear hb
  go_enter Try.func29, Try.ntmps29
  go_wp2_with fail
  refine HO.out.mono ?_
  rintro e w1 ⟨rfl, rfl⟩
  go_wp2_with fail
  refine HG.out.mono ?_
  rintro e w2 ⟨rfl, ha2, ht2⟩
  have HA2 : Box _ := ⟨ha2⟩
  have HT2 : Box (Touched w w2 (g :: bl :: bs :: V.ownBlock.toList)) := ⟨ht2.mono (fun q hq _ => by simp at hq; simp [hq])⟩
  clear ha2 ht2
  cases b
  · rw [if_neg (by simp)] at HW
    obtain ⟨q0, f0⟩ := HA2.out.fld (i := 0) rfl
    have q0 : w2.cell? ⟨g, 0, none⟩ = some (.slice (some ⟨bl, 0, none⟩) G.1.l.length cl) := q0
    have HC : Box _ := ⟨cloneS_calls (some ⟨bl, 0, none⟩) G.1.l.length cl (scells G.1.l) w2 (fun h => by cases h) (by simp [scells]) (by have := HA2.out.big.1; omega) (one_scells _) (by
      obtain ⟨A9, c9, e9, _, hr9, _⟩ := HA2.out.ol.slice
      injection e9 with e91
      subst e91
      exact hr9)⟩
    go_wp2_with fail
    refine HC.out.mono ?_
    rintro e w3 ⟨v3, rfl, ho3, hb3⟩
    obtain ⟨b3, c3, rfl, hb3l, hb3s, _, _⟩ := ho3.form HA2.out.pos
    have HA3 : Box _ := ⟨HA2.out.below hb3⟩
    have HT3 : Box (Touched w w3 (g :: bl :: bs :: V.ownBlock.toList)) := ⟨HT2.out.trans (Touched.of_below hb3 _)⟩
    have HO3 : Box (Own w3 0 1 (.slice (some ⟨b3, 0, none⟩) G.1.l.length c3) G.1.l.length (scells G.1.l)) := ⟨ho3.weaken (Nat.zero_le _)⟩
    have hlt := HA2.out.lt
    have hsz := HT2.out.size
    obtain ⟨_, f1⟩ := HA3.out.fld (i := 1) rfl
    obtain ⟨_, f2⟩ := HA3.out.fld (i := 2) rfl
    have HLT : Box _ := ⟨hlt⟩
    clear ho3 hb3 hlt f0
    go_wp2_with fail
    go_ret
    rw [HW.out]
    have hT4 : Touched w3 ((w3.setCell ⟨g, 1, none⟩ (.slice (some ⟨b3, 0, none⟩) G.1.l.length c3)).setCell ⟨g, 2, none⟩ (.slice none 0 0)) [g] := ((Touched.refl w3 _).setCell (.inl (by simp)) _).setCell (.inl (by simp)) _
    refine ⟨rfl, ⟨bl, cl, b3, c3, .slice none 0 0, K, kc, ?_, .inl rfl, .inr (.inr (by omega)), fun b hb => by simp [Value.ownBlock] at hb, fun b hb => .inl hb⟩, HT3.out.trans (hT4.mono (fun q hq _ => by simp at hq; simp [hq]))⟩
    have hlt := HLT.out
    refine DiskAt.refield hT4 ?_ HA3.out.ol HO3.out rfl (Own.nil _ _ _) HA3.out.rk HA3.out.kn HA3.out.kl HA3.out.n1 (by omega) (by omega) (fun b hb => by simp [Value.ownBlock] at hb) ?_ HA3.out.kb HA3.out.pos ?_ HA3.out.inv
    · exact (((HA3.out.of.set 1 (by simp [dflds]) (.slice (some ⟨b3, 0, none⟩) G.1.l.length c3)).1.set 2 (by simp [dflds]) (.slice none 0 0)).1)
    · refine HA3.out.n5.elim .inl fun ⟨b, hb, h1, h2, h3, h4⟩ => .inr ⟨b, hb, h1, h2, ?_, by simp [Value.ownBlock]⟩
      have := HA2.out.kb b hb
      omega
    · obtain ⟨p1, p2, p3, p4, p5⟩ := HA3.out.big
      exact ⟨p1, p2, by show 0 + G.1.many ≤ _; omega, p4, by simp⟩
  · rw [if_pos rfl] at HW
    obtain ⟨q7, _⟩ := HA2.out.fld (i := 7) rfl
    have q7 : w2.cell? ⟨g, 7, none⟩ = some (.slice K G.1.keep.length kc) := q7
    have HC : Box _ := ⟨diskCrash_calls HA2.out K G.1.keep.length kc G.1.keep rfl HA2.out.big.2.1 (fun w' hT => row_touched HA2.out.rk hT (HA2.out.n5.elim .inl fun ⟨b, hb, _, _, h, _⟩ => .inr ⟨b, hb, by simpa using h⟩))⟩
    go_wp2_with fail
    refine HC.out.mono ?_
    rintro e w3 ⟨rfl, hs3⟩
    have HS3 : Box _ := ⟨DiskStep.after HT2.out (fun _ h => .inl h) hs3⟩
    clear hs3
    go_wp2_with fail
    go_ret
    rw [HW.out]
    exact ⟨rfl, HS3.out⟩
set_option maxHeartbeats 1600000 in
set_option maxRecDepth 100000 in
theorem diskArm_calls (a : DiskAt w g bl cl bs cs V K kc D) (x : Int) (A : Option Addr) (n c : Nat) (keep : List Int) (hl : keep.length = n) (hc : n ≤ c) (hA : NilOk A n c) (hn : n ≤ 1000000) (hx : -9223372036854775808 ≤ x ∧ x ≤ 9223372036854775807) (hk : ∀ z ∈ keep, -9223372036854775808 ≤ z ∧ z ≤ 9223372036854775807) (hR : RowAt w A (icells keep)) :
    Calls Try.prog 34 #[.pointer (some ⟨g, 0, none⟩), .int .i64 x, .slice A n c] w fun e w' => e = .returned (.tuple #[]) ∧ DiskStep w w' g bl bs V K (armD D x keep) := by
  subst hl
  have HA : Box _ := ⟨a⟩
  have HC : Box _ := ⟨cloneI_calls A keep.length c (icells keep) w hA (by simp [icells]) (by omega) (one_icells _) hR⟩
  have HX : Box _ := ⟨hx⟩
  have HK : Box _ := ⟨hk⟩
  clear a hR hA hx hk
  go_enter Try.func34, Try.ntmps34
  go_wp2_with fail
  refine HC.out.mono ?_
  rintro e w2 ⟨v2, rfl, ho2, hb2⟩
  obtain ⟨A2, c2, rfl, hc2, hr2, hz2⟩ := ho2.slice
  have HF : Box (A2 = none ∨ ∃ b, A2 = some ⟨b, 0, none⟩ ∧ w.heap.size ≤ b ∧ b < w2.heap.size) := ⟨by
    rcases ho2.2 with ⟨h, _⟩ | ⟨g', cap, h, h1, h2, _⟩
    · injection h with h; exact .inl h
    · injection h with h; exact .inr ⟨g', h, h1, h2⟩⟩
  have HA2 : Box _ := ⟨HA.out.below hb2⟩
  have HB2 : Box _ := ⟨hb2⟩
  have HR2 : Box _ := ⟨hr2⟩
  have HZ2 : Box _ := ⟨hz2⟩
  obtain ⟨_, f5⟩ := HA2.out.fld (i := 5) rfl
  obtain ⟨_, f6⟩ := HA2.out.fld (i := 6) rfl
  obtain ⟨_, f7⟩ := HA2.out.fld (i := 7) rfl
  clear ho2 hb2 hr2 hz2
  go_wp2_with fail
  go_end0
  have hT4 : Touched w2 (((w2.setCell ⟨g, 5, none⟩ (.bool (decide (0 ≤ x)))).setCell ⟨g, 6, none⟩ (.int .i64 x)).setCell ⟨g, 7, none⟩ (.slice A2 keep.length c2)) [g] := (((Touched.refl w2 _).setCell (.inl (by simp)) _).setCell (.inl (by simp)) _).setCell (.inl (by simp)) _
  refine ⟨rfl, ⟨bl, cl, bs, cs, V, A2, c2, ?_, .inl rfl, .inl rfl, fun b hb => .inl hb, fun b hb => ?_⟩, (Touched.of_below HB2.out _).trans (hT4.mono (fun q hq _ => by simp at hq; simp [hq]))⟩
  · have hlt := HA.out.lt
    refine DiskAt.refield hT4 ?_ HA2.out.ol HA2.out.os HA2.out.ls HA2.out.ow HR2.out HZ2.out hc2 HA2.out.n1 HA2.out.n2 HA2.out.n3 HA2.out.n4 ?_ ?_ HA2.out.pos ?_ HX.out
    · exact ((((HA2.out.of.set 5 (by simp [dflds]) (.bool (decide (0 ≤ x)))).1.set 6 (by simp [dflds]) (.int .i64 x)).1.set 7 (by simp [dflds]) (.slice A2 keep.length c2)).1)
    · refine HF.out.imp id fun ⟨b, hb, h1, h2⟩ => ⟨b, hb, by omega, by omega, by omega, fun e => ?_⟩
      have := hlt.2.2.2 b e
      omega
    · intro b hb
      rcases HF.out with h | ⟨b', h, _, h2⟩
      · rw [h] at hb; cases hb
      · rw [h] at hb; injection hb with hb; injection hb with hb; omega
    · obtain ⟨p1, p2, p3, p4, p5⟩ := HA2.out.big
      exact ⟨p1, hn, p3, HK.out, p5⟩
  · rcases HF.out with h | ⟨b', h, h1, _⟩
    · rw [h] at hb; cases hb
    · rw [h] at hb; injection hb with hb; injection hb with hb; exact .inr (by omega)
end
theorem diskNil_Restore (w : World) : Calls Try.prog 16 #[.pointer none] w fun e w' => e = .returned (.tuple #[]) ∧ w = w' := by
  go_enter Try.func16, Try.ntmps16
  go_wp2
  go_end0
  exact ⟨rfl, rfl⟩
theorem diskNil_Arm (x v : Value) (w : World) : Calls Try.prog 34 #[.pointer none, x, v] w fun e w' => e = .returned (.tuple #[]) ∧ w = w' := by
  go_enter Try.func34, Try.ntmps34
  go_wp2
  go_end0
  exact ⟨rfl, rfl⟩
theorem diskNil_may (x : Value) (w : World) : Calls Try.prog 38 #[.pointer none, x] w fun e w' => e = .returned (.int .i64 14) ∧ w = w' := by
  go_enter Try.func38, Try.ntmps38
  go_wp2_with fail
  refine (diskOn_nil _).mono ?_
  rintro e w1 ⟨rfl, rfl⟩
  go_wp2
  go_ret
  exact ⟨rfl, rfl⟩
theorem diskNil_Read (x : Value) (w : World) : Calls Try.prog 17 #[.pointer none, x] w fun e w' => e = .returned (.tuple #[.string ⟨#[]⟩, .int .i64 14]) ∧ w = w' := by
  go_enter Try.func17, Try.ntmps17
  go_wp2_with fail
  refine (diskNil_may _ _).mono ?_
  rintro e w1 ⟨rfl, rfl⟩
  go_wp2
  go_ret2
  exact ⟨rfl, rfl⟩
theorem diskNil_Write (v : Value) (w : World) : Calls Try.prog 14 #[.pointer none, v] w fun e w' => e = .returned (.int .i64 14) ∧ w = w' := by
  go_enter Try.func14, Try.ntmps14
  go_wp2_with fail
  refine (diskOn_nil _).mono ?_
  rintro e w1 ⟨rfl, rfl⟩
  go_wp2
  go_ret
  exact ⟨rfl, rfl⟩
theorem diskNil_Flush (w : World) : Calls Try.prog 29 #[.pointer none] w fun e w' => e = .returned (.int .i64 14) ∧ w = w' := by
  go_enter Try.func29, Try.ntmps29
  go_wp2_with fail
  refine (diskOn_nil _).mono ?_
  rintro e w1 ⟨rfl, rfl⟩
  go_wp2
  go_ret
  exact ⟨rfl, rfl⟩
theorem diskNil_Crash (v : Value) (w : World) : Calls Try.prog 15 #[.pointer none, v] w fun e w' => e = .returned (.int .i64 0) ∧ w = w' := by
  go_enter Try.func15, Try.ntmps15
  go_wp2_with fail
  refine (diskOn_nil _).mono ?_
  rintro e w1 ⟨rfl, rfl⟩
  go_wp2
  go_ret
  exact ⟨rfl, rfl⟩
theorem diskNil_Size (w : World) : Calls Try.prog 20 #[.pointer none] w fun e w' => e = .returned (.int .i64 0) ∧ w = w' := by
  go_enter Try.func20, Try.ntmps20
  go_wp2
  go_ret
  exact ⟨rfl, rfl⟩
theorem diskNil_Dirty (w : World) : Calls Try.prog 35 #[.pointer none] w fun e w' => e = .returned (.int .i64 0) ∧ w = w' := by
  go_enter Try.func35, Try.ntmps35
  go_wp2
  go_ret
  exact ⟨rfl, rfl⟩
theorem diskNil_Writes (w : World) : Calls Try.prog 36 #[.pointer none] w fun e w' => e = .returned (.int .i64 0) ∧ w = w' := by
  go_enter Try.func36, Try.ntmps36
  go_wp2
  go_ret
  exact ⟨rfl, rfl⟩
theorem diskNil_Twin (w : World) : Calls Try.prog 8 #[.pointer none] w fun e w' => e = .returned (.pointer none) ∧ w = w' := by
  go_enter Try.func8, Try.ntmps8
  go_wp2
  go_ret
  exact ⟨rfl, rfl⟩
end Go.Proofs.Ytbnkmndgfmmiaaa
