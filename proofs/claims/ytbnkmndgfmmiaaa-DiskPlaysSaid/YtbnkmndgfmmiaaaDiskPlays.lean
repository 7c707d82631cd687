/- DiskPlays. -/
import Derived.Test.YtbnkmndgfmmiaaaAct3
import Derived.Test.YtbnkmndgfmmiaaaDiskAlive
namespace Go.Proofs.Ytbnkmndgfmmiaaa
open Go.RowKit
set_option linter.unusedVariables false

section
variable {w0 w : World} {gd gp gt gu : Nat} {Fd Fp Ft Fu : List Nat} {D P : DSt}
theorem act_calls (T : Two w0 w gd gp Fd Fp D P) (o : DOpV) (hg : o.Good w0) (h6 : o.n1 ≤ 6000 ∧ o.n2 ≤ 6000) (hroom : D.ws.length + D.many + 12000 ≤ 1000000000) :
    Calls Try.prog 10 #[.pointer (some ⟨gd, 0, none⟩), .pointer (some ⟨gp, 0, none⟩), .agg #[.int .i64 o.kind, .int .i64 o.n, .slice o.a1 o.n1 o.c1, .bool o.own, .slice o.a2 o.n2 o.c2]] w fun e w' => e = .returned (.bool true) ∧ ActTo w0 w w' gd gp Fd Fp D P := by
  by_cases h1 : o.kind = 1
  · exact act_write T o hg h6.1 hroom h1
  by_cases h2 : o.kind = 2
  · exact act_flush T o h2
  by_cases h3 : o.kind = 3
  · exact act_crash T o hg h6.2 h3
  by_cases h4 : o.kind = 4
  · exact act_restore T o h4
  by_cases h5 : o.kind = 5
  · exact act_arm T o hg h6.2 h5
  exact act_other T o h1 h2 h3 h4 h5
/-- Two pairs, blocks apart. -/
structure Four (w0 w : World) (gd gp gt gu : Nat) (Fd Fp Ft Fu : List Nat) (D P : DSt) : Prop where
  a : Two w0 w gd gp Fd Fp D P
  b : Two w0 w gt gu Ft Fu D P
  ne : ∀ k ∈ Fd ++ Fp, k ∉ Ft ++ Fu
theorem Four.swap (T : Four w0 w gd gp gt gu Fd Fp Ft Fu D P) : Four w0 w gt gu gd gp Ft Fu Fd Fp D P := ⟨T.b, T.a, fun k h1 h2 => T.ne k h2 h1⟩
theorem Four.keepA {w' : World} {D' P' : DSt} (T : Four w0 w gd gp gt gu Fd Fp Ft Fu D P) (h : TwoTo w0 w w' gt gu Ft Fu D' P') : Two w0 w' gd gp Fd Fp D P :=
  T.a.keep h.touched T.ne (fun k hk => (T.b.lo k hk).1)
end

set_option maxHeartbeats 6400000 in
set_option maxRecDepth 100000 in
theorem diskPlays_law (n : Int) (A : Option Addr) (nl c : Nat) (l : List DOpV) (x : Int) (w : World) (hnn : -9223372036854775808 ≤ n ∧ n ≤ 9223372036854775807) (hl : l.length = nl) (hn : nl ≤ 140737488351232) (hg : ∀ o ∈ l, o.Good w) (hR : RowAt w A (l.flatMap DOpV.cells)) :
    Calls Try.prog 3 #[.int .i64 n, .slice A nl c, .int .i64 x] w fun e w' => e = .returned (.bool true) ∧ Below w.heap.size w w' := by
  subst hl
  have HR : Box _ := ⟨hR⟩
  have HG : Box _ := ⟨hg⟩
  have HLi : Box _ := ⟨light7_calls A c l w hn hg hR⟩
  have HAl : Box (∀ W, Calls Try.prog 5 #[] W fun e w' => e = .returned (.bool true) ∧ Below W.heap.size W w') := ⟨fun W => diskAlive_calls W⟩
  clear hg hR
  go_enter Try.func3, Try.ntmps3
  go_wp2_with fail
  refine HLi.out.mono ?_
  rintro e w1 ⟨⟨b, rfl, hb⟩, hbw⟩
  have HB1 : Box _ := ⟨hbw⟩
  cases b
  · clear hb hbw
    go_wp2_with fail
    refine (HAl.out _).mono ?_
    rintro e w2 ⟨rfl, hb2⟩
    have HB2 : Box (Below w.heap.size w w2) := ⟨bel_calls HB1.out hb2⟩
    clear hb2
    go_wp2_with fail
    go_ret
    exact ⟨rfl, HB2.out⟩
  have hb' := hb rfl
  have hl40 : l.length ≤ 40 := hb'.1
  have HS : Box _ := ⟨hb'.2⟩
  clear hb hb' hbw
  go_wp2_with fail
  refine (HAl.out _).mono ?_
  rintro e w2 ⟨rfl, hb2⟩
  have HB2 : Box (Below w.heap.size w w2) := ⟨bel_calls HB1.out hb2⟩
  clear hb2 HB1
  by_cases hbad : n < 140 ∨ 2000 < n
  · have HN : Box _ := ⟨diskNew_bad n w2 hbad⟩
    rcases hbad with hb | hb
    · go_wp2_with fail
      refine HN.out.mono ?_
      rintro e w3 ⟨rfl, rfl⟩
      go_wp2_with fail
      go_ret
      exact ⟨rfl, HB2.out⟩
    · have hb0 : ¬ n < 140 := by omega
      go_wp2_with fail
      refine HN.out.mono ?_
      rintro e w3 ⟨rfl, rfl⟩
      go_wp2_with fail
      go_ret
      exact ⟨rfl, HB2.out⟩
  obtain ⟨m, rfl⟩ : ∃ m : Nat, n = (m : Int) := ⟨n.toNat, by omega⟩
  have hm1 : 140 ≤ m := by omega
  have hm2 : m ≤ 2000 := by omega
  have g1 : ¬ (m : Int) < 140 := by omega
  have g2 : ¬ (2000 : Int) < (m : Int) := by omega
  have HN : Box _ := ⟨diskNew_o w w2 m HB2.out hm1 hm2⟩
  clear hbad
  go_wp2_with fail
  refine HN.out.mono ?_
  rintro e w3 ⟨gd, Fd, rfl, hd, hdF, hb3⟩
  have HD : Box _ := ⟨hd⟩
  have HB3 : Box (Below w.heap.size w w3) := ⟨bel_calls HB2.out hb3⟩
  have HF : Box _ := ⟨fresh_calls w w3 m HB3.out.size hm1 hm2⟩
  clear hd hdF hb3 HN
  go_wp2_with fail
  refine HF.out.mono ?_
  rintro e w4 ⟨gp, Fp, rfl, hp, hpF, hb4⟩
  have HT : Box (Two w w4 gd gp Fd Fp (newD m) (newD m)) := ⟨HD.out.below hb4, hp, fun k hk hk2 => by have := (HD.out.lo k hk).2; have := hpF k hk2; omega, like_new m, bel_calls HB3.out hb4⟩
  clear hp hpF hb4 HF HD HB3
  go_wp2_with fail
  go_loopw [7, 9, 10] (fun dv pv i wr => ∃ (k gd gp : Nat) (Fd Fp : List Nat) (D P : DSt), k ≤ l.length ∧ i = .int .i64 (k : Int) ∧ dv = .pointer (some ⟨gd, 0, none⟩) ∧ pv = .pointer (some ⟨gp, 0, none⟩) ∧ Box (Two w wr gd gp Fd Fp D P) ∧ Box (Len m P) ∧ Box (D.ws.length + D.many ≤ 12000 * k)) (fun _ _ i _ => l.length - (intOf i).toNat)
  case atStart => exact ⟨0, gd, gp, Fd, Fp, newD m, newD m, by omega, rfl, rfl, rfl, HT, ⟨by simp [newD], by simp [newD]⟩, ⟨by simp [newD]⟩⟩
  case round =>
    clear HT
    obtain ⟨k, gd, gp, Fd, Fp, D, P, hk, rfl, rfl, rfl, HT, HL, HM⟩ := hrel
    by_cases hlt : k < l.length
    · obtain ⟨o, ho⟩ := some_at hlt
      have HO : Box _ := ⟨HG.out o (List.mem_of_getElem? ho)⟩
      have HS1 : Box _ := ⟨HS.out o (List.mem_of_getElem? ho)⟩
      obtain ⟨bb, off, hA, hbl, Q0, Q1, Q2, Q3, Q4⟩ := dop_at HR.out ho
      subst hA
      have r0 := cell_kept HT.out.bel (Nat.le_refl _) Q0
      have r1 := cell_kept HT.out.bel (Nat.le_refl _) Q1
      have r2 := cell_kept HT.out.bel (Nat.le_refl _) Q2
      have r3 := cell_kept HT.out.bel (Nat.le_refl _) Q3
      have r4 := cell_kept HT.out.bel (Nat.le_refl _) Q4
      have j0 : (0 : Int) ≤ (k : Int) := by omega
      have j1 : (k : Int) < (l.length : Int) := by omega
      have hm9 := HM.out
      by_cases h6 : o.kind = 6
      · have HD2 : Box _ := ⟨diskTwin_o HT.out.d HT.out.bel.size⟩
        have HX1 : Box (∀ W, Below w.heap.size w W → W.cell? ⟨bb, off + k * 5 + 1, none⟩ = some (.int .i64 o.n)) := ⟨fun W hb => cell_kept hb (Nat.le_refl _) Q1⟩
        rw [h6] at r0
        clear ho Q0 Q1 Q2 Q3 Q4 h6 r1 r2 r3 r4
        go_wp2_with fail
        refine HD2.out.mono ?_
        rintro e w5 ⟨gt, Ft, rfl, ht, htF, hb5⟩
        have HT5 : Box _ := ⟨HT.out.below hb5⟩
        have HP2 : Box _ := ⟨plainTwin_o HT5.out.p HT5.out.bel.size⟩
        have HTt : Box _ := ⟨And.intro ht htF⟩
        have hs5 := hb5.size
        clear ht htF hb5 HD2 r0
        go_wp2_with fail
        refine HP2.out.mono ?_
        rintro e w6 ⟨gu, Fu, rfl, hu, huF, hb6⟩
        have HF0 : Box (Four w w6 gd gp gt gu Fd Fp Ft Fu D P) := ⟨⟨HT5.out.below hb6, ⟨HTt.out.1.below hb6, hu, fun q h1 h2 => by have := (HTt.out.1.lo q h1).2; have := huF q h2; omega, HT.out.like, bel_calls HT5.out.bel hb6⟩, fun q h1 h2 => by
          have h3 := (HT.out.lo q h1).2
          rcases List.mem_append.1 h2 with h | h
          · have := HTt.out.2 q h; omega
          · have := huF q h; omega⟩⟩
        have s1 := HX1.out w6 HF0.out.a.bel
        obtain ⟨qb, hqb⟩ : ∃ qb, bits BinOp.and IntKind.i64 o.n 1 = qb := ⟨_, rfl⟩
        obtain ⟨bo, hbo⟩ : ∃ bo, (qb == 1) = bo := ⟨_, rfl⟩
        clear hu huF hb6 HP2 HTt HT5 HX1
        go_upto_if 70 with fail
        go_cut [7, 9, 11, 12] (fun v1 v2 v3 v4 wx => w6 = wx ∧ ∃ g1 g2 g3 g4 F1 F2 F3 F4, v1 = .pointer (some ⟨g1, 0, none⟩) ∧ v2 = .pointer (some ⟨g2, 0, none⟩) ∧ v3 = .pointer (some ⟨g3, 0, none⟩) ∧ v4 = .pointer (some ⟨g4, 0, none⟩) ∧ Box (Four w w6 g1 g2 g3 g4 F1 F2 F3 F4 D P))
        case first =>
          cases bo
          · go_wp2_with fail
            go_meet
            exact ⟨rfl, gd, gp, gt, gu, _, _, _, _, rfl, rfl, rfl, rfl, HF0⟩
          · go_wp2_with fail
            go_meet
            exact ⟨rfl, gt, gu, gd, gp, _, _, _, _, rfl, rfl, rfl, rfl, ⟨HF0.out.swap⟩⟩
        case rest =>
          obtain ⟨rfl, g1, g2, g3, g4, F1, F2, F3, F4, rfl, rfl, rfl, rfl, HF⟩ := hcut
          clear HF0 s1 hqb hbo
          have HSb : Box _ := ⟨same_calls HF.out.b x (by have := HL.out.1; omega)⟩
          by_cases hlt2 : k + 1 < l.length
          · obtain ⟨o2, ho2⟩ := some_at hlt2
            have HO2 : Box _ := ⟨HG.out o2 (List.mem_of_getElem? ho2)⟩
            have HS2 : Box _ := ⟨HS.out o2 (List.mem_of_getElem? ho2)⟩
            obtain ⟨bb', off', hA', _, Q0, Q1, Q2, Q3, Q4⟩ := dop_at HR.out ho2
            injection hA' with hA'
            injection hA' with e1 e2
            subst e1 e2
            have r0 := cell_kept HF.out.a.bel (Nat.le_refl _) Q0
            have r1 := cell_kept HF.out.a.bel (Nat.le_refl _) Q1
            have r2 := cell_kept HF.out.a.bel (Nat.le_refl _) Q2
            have r3 := cell_kept HF.out.a.bel (Nat.le_refl _) Q3
            have r4 := cell_kept HF.out.a.bel (Nat.le_refl _) Q4
            have y1 := IntWalk.i64_in ((k : Int) + 1) (by omega)
            have j2 : (k : Int) + 1 < (l.length : Int) := by omega
            have j3 : (0 : Int) ≤ (k : Int) + 1 := by omega
            have j4 : ((k : Int) + 1).toNat = k + 1 := by omega
            clear ho2 Q0 Q1 Q2 Q3 Q4
            by_cases h62 : o2.kind = 6
            · rw [h62] at r0
              clear h62 r1 r2 r3 r4
              go_wp2_with fail
              refine HSb.out.mono ?_
              rintro e w7 ⟨rfl, hb7⟩
              have HT7 : Box _ := ⟨HF.out.a.below hb7⟩
              have HSa : Box _ := ⟨same_calls HT7.out x (by have := HL.out.1; omega)⟩
              clear hb7 HSb
              go_wp2_with fail
              refine HSa.out.mono ?_
              rintro e w8 ⟨rfl, hb8⟩
              have HT8 : Box _ := ⟨HT7.out.below hb8⟩
              clear hb8 HSa
              go_wp2_with fail
              go_roundw
              case rel =>
                first
                  | exact ⟨k + 1, g1, g2, _, _, D, P, by omega, by go_num, rfl, rfl, HT8, HL, ⟨by omega⟩⟩
                  | ((repeat apply Exists.intro); exact ⟨⟨k + 1, g1, g2, _, _, D, P, by omega, by go_num, rfl, rfl, HT8, HL, ⟨by omega⟩⟩, by first | trivial | rfl⟩)
              case measure => simp [intOf]; omega
            · have h62' : (o2.kind == 6) = false := by simpa using h62
              have h62n : (o2.kind != 6) = true := by simpa using h62
              have HC : Box _ := ⟨act_calls HF.out.b o2 HO2.out HS2.out (by omega)⟩
              clear h62 HSb
              go_wp2_with fail
              refine HC.out.mono ?_
              rintro e w7 ⟨rfl, ⟨D', P', hto, _, hl'⟩⟩
              have HTa : Box _ := ⟨HF.out.keepA hto⟩
              obtain ⟨⟨F3', F4', hT', _⟩, _⟩ := hto
              have HSb : Box _ := ⟨same_calls hT' x (by have := (hl' m HL.out).1; omega)⟩
              clear hT' hl' HC r0 r1 r2 r3 r4
              go_wp2_with fail
              refine HSb.out.mono ?_
              rintro e w8 ⟨rfl, hb8⟩
              have HT8 : Box _ := ⟨HTa.out.below hb8⟩
              have HSa : Box _ := ⟨same_calls HT8.out x (by have := HL.out.1; omega)⟩
              clear hb8 HSb HTa
              go_wp2_with fail
              refine HSa.out.mono ?_
              rintro e w9 ⟨rfl, hb9⟩
              have HT9 : Box _ := ⟨HT8.out.below hb9⟩
              clear hb9 HSa
              go_wp2_with fail
              go_roundw
              case rel =>
                first
                  | exact ⟨k + 1, g1, g2, _, _, D, P, by omega, by go_num, rfl, rfl, HT9, HL, ⟨by omega⟩⟩
                  | ((repeat apply Exists.intro); exact ⟨⟨k + 1, g1, g2, _, _, D, P, by omega, by go_num, rfl, rfl, HT9, HL, ⟨by omega⟩⟩, by first | trivial | rfl⟩)
              case measure => simp [intOf]; omega
          · have y1 := IntWalk.i64_in ((k : Int) + 1) (by omega)
            have j2 : ¬ (k : Int) + 1 < (l.length : Int) := by omega
            go_wp2_with fail
            refine HSb.out.mono ?_
            rintro e w7 ⟨rfl, hb7⟩
            have HT7 : Box _ := ⟨HF.out.a.below hb7⟩
            have HSa : Box _ := ⟨same_calls HT7.out x (by have := HL.out.1; omega)⟩
            clear hb7 HSb
            go_wp2_with fail
            refine HSa.out.mono ?_
            rintro e w8 ⟨rfl, hb8⟩
            have HT8 : Box _ := ⟨HT7.out.below hb8⟩
            clear hb8 HSa
            go_wp2_with fail
            go_roundw
            case rel =>
              first
                | exact ⟨k + 1, g1, g2, _, _, D, P, by omega, by go_num, rfl, rfl, HT8, HL, ⟨by omega⟩⟩
                | ((repeat apply Exists.intro); exact ⟨⟨k + 1, g1, g2, _, _, D, P, by omega, by go_num, rfl, rfl, HT8, HL, ⟨by omega⟩⟩, by first | trivial | rfl⟩)
            case measure => simp [intOf]; omega
      · have h6' : (o.kind == 6) = false := by simpa using h6
        have HC : Box _ := ⟨act_calls HT.out o HO.out HS1.out (by omega)⟩
        clear ho Q0 Q1 Q2 Q3 Q4 h6
        go_wp2_with fail
        refine HC.out.mono ?_
        rintro e w5 ⟨rfl, ⟨D', P', ⟨⟨Fd', Fp', hT', _⟩, _⟩, hr', hl'⟩⟩
        have HT5 : Box _ := ⟨hT'⟩
        have HL5 : Box (Len m P') := ⟨hl' m HL.out⟩
        have HM5 : Box (D'.ws.length + D'.many ≤ 12000 * (k + 1)) := ⟨by omega⟩
        have HSm : Box _ := ⟨same_calls hT' x (by have := HL5.out.1; omega)⟩
        clear hT' hr' hl' HC r0 r1 r2 r3 r4
        go_wp2_with fail
        refine HSm.out.mono ?_
        rintro e w6 ⟨rfl, hb6⟩
        have HT6 : Box _ := ⟨HT5.out.below hb6⟩
        clear hb6 HT5 HSm
        go_wp2_with fail
        go_roundw
        case rel =>
          first
            | exact ⟨k + 1, gd, gp, _, _, D', P', by omega, by go_num, rfl, rfl, HT6, HL5, HM5⟩
            | ((repeat apply Exists.intro); exact ⟨⟨k + 1, gd, gp, _, _, D', P', by omega, by go_num, rfl, rfl, HT6, HL5, HM5⟩, by first | trivial | rfl⟩)
        case measure => simp [intOf]; omega
    · go_wp2_with fail
      go_ret
      exact ⟨rfl, HT.out.bel⟩
theorem diskPlays_calls (n : Int) (A : Option Addr) (nl c : Nat) (l : List DOpV) (x : Int) (w : World) (hnn : -9223372036854775808 ≤ n ∧ n ≤ 9223372036854775807) (hl : l.length = nl) (_hc : nl ≤ c) (hn : nl * 72 ≤ 140737488351232) (hg : ∀ o ∈ l, o.Good w) (hR : RowAt w A (l.flatMap DOpV.cells)) (_hx : -9223372036854775808 ≤ x ∧ x ≤ 9223372036854775807) :
    Calls Try.prog 3 #[.int .i64 n, .slice A nl c, .int .i64 x] w fun e w' => e = .returned (.bool true) ∧ Below w.heap.size w w' :=
  diskPlays_law n A nl c l x w hnn hl (by omega) hg hR
end Go.Proofs.Ytbnkmndgfmmiaaa
