/- The document's disk: does the power go now; the power goes. -/
import Derived.Test.YtbnkmndgfmmiaaaPlain
namespace Go.Proofs.Ytbnkmndgfmmiaaa
open Go.RowKit
set_option linter.unusedVariables false

theorem el_pws : El Try.prog 56 84 2 24 := El.mk' Try.underlying56 (z := .agg #[.int .i64 0, .string ByteArray.empty]) (by kernel_rfl) (by decide)
section
variable {w0 w : World} {g bl cl bs cs : Nat} {V : Value} {K : Option Addr} {kc : Nat} {P : DSt}
theorem plainFalls_calls (a : PlainAt w0 w g bl cl bs cs V K kc P) (harm : P.armed = true → 0 ≤ P.left) :
    Calls Try.prog 46 #[.pointer (some ⟨g, 0, none⟩)] w fun e w' => e = .returned (.bool (fallsP P).2) ∧ PlainAt w0 w' g bl cl bs cs V K kc (fallsP P).1 ∧ Touched w w' [g] := by
  obtain ⟨k4, _⟩ := a.fld (i := 4) rfl
  obtain ⟨k5, f5⟩ := a.fld (i := 5) rfl
  have HA : Box _ := ⟨a⟩
  by_cases h1 : P.armed = true
  · by_cases hz : P.left = 0
    · have e : fallsP P = (P, true) := by rw [fallsP, if_pos h1, if_pos hz]
      rw [e]
      rw [h1] at k4
      rw [hz] at k5
      clear a e h1 hz harm
      go_enter Try.func46, Try.ntmps46
      go_wp2
      go_ret
      exact ⟨rfl, HA.out, Touched.refl _ _⟩
    · have e : fallsP P = ({ P with left := P.left - 1 }, false) := by rw [fallsP, if_pos h1, if_neg hz]
      have h2 := harm h1
      have h3 := a.inv.2
      rw [e]
      rw [h1] at k4
      have HS : Box _ := ⟨(a.of.set 5 (by simp [pflds]) (.int .i64 (P.left - 1))).1⟩
      obtain ⟨x, hx⟩ : ∃ x, P.left = x := ⟨_, rfl⟩
      rw [hx] at h2 h3 hz k5 HS ⊢
      have hz' : (x == 0) = false := by simpa using hz
      clear a e h1 harm hx
      go_enter Try.func46, Try.ntmps46
      go_wp2
      go_ret
      have hT : Touched w (w.setCell ⟨g, 5, none⟩ (.int .i64 (x - 1))) [g] := (Touched.refl w _).setCell (.inl (by simp)) _
      exact ⟨rfl, PlainAt.refield hT HS.out HA.out.ol HA.out.os HA.out.ls HA.out.ow HA.out.rk HA.out.n1 HA.out.n2 HA.out.n3 HA.out.n4 HA.out.pos HA.out.big ⟨by show -9223372036854775808 ≤ x - 1; omega, by show x - 1 ≤ _; omega⟩ HA.out.ge, hT⟩
  · have e : fallsP P = (P, false) := by rw [fallsP, if_neg h1]
    have h1' : P.armed = false := by simpa using h1
    rw [e]
    rw [h1'] at k4
    clear a e h1 harm h1'
    go_enter Try.func46, Try.ntmps46
    go_wp2
    go_ret
    exact ⟨rfl, HA.out, Touched.refl _ _⟩

set_option maxHeartbeats 3200000 in
set_option maxRecDepth 100000 in
theorem plainCrash_calls {F : List Nat} (a : PlainAt w0 w g bl cl bs cs V K kc P) (hF : ∀ k, k ∈ g :: bl :: bs :: V.ownBlock.toList → k ∈ F) (A : Option Addr) (m c : Nat) (keep : List Int) (hl : keep.length = m) (hm : m ≤ 1000000) (hR : ∀ w', Touched w w' [bs] → RowAt w' A (icells keep)) :
    Calls Try.prog 32 #[.pointer (some ⟨g, 0, none⟩), .slice A m c] w fun e w' => e = .returned (.int .i64 ((crashP P keep).2 : Int)) ∧ PlainTo w0 w w' g F (crashP P keep).1 := by
  subst hl
  have HA : Box _ := ⟨a⟩
  have HF : Box _ := ⟨hF⟩
  obtain ⟨k3, _⟩ := a.fld (i := 3) rfl
  clear hF
  by_cases h1 : P.off = true
  · have e : crashP P keep = (P, 0) := by rw [crashP, if_pos h1]
    rw [e]
    rw [h1] at k3
    clear a h1 e hR
    go_enter Try.func32, Try.ntmps32
    go_wp2
    go_ret
    exact ⟨rfl, PlainTo.at HA.out (fun k hk => .inl (HF.out k hk)) (Touched.refl _ _)⟩
  have h1' : P.off = false := by simpa using h1
  rw [h1'] at k3
  have HR : Box _ := ⟨hR⟩
  have HIN : Box _ := ⟨a.big.2.2.2.2⟩
  obtain ⟨k1, _⟩ := a.fld (i := 1) rfl
  obtain ⟨k2, _⟩ := a.fld (i := 2) rfl
  obtain ⟨AV, cV, eV, hcV, hrV, _⟩ := a.ow.slice
  have HE : Box (crashP P keep = ({ P with l := (crashK keep P.ws P.safe P.ws.length).1, safe := (crashK keep P.ws P.safe P.ws.length).1, ws := [], off := true, armed := false }, (crashK keep P.ws P.safe P.ws.length).2)) := ⟨by rw [crashP, if_neg h1]⟩
  subst eV
  have HRV : Box _ := ⟨hrV⟩
  obtain ⟨n, hn⟩ : ∃ n, P.ws.length = n := ⟨_, rfl⟩
  have HN : Box _ := ⟨hn⟩
  obtain ⟨N, hN⟩ : ∃ N, P.l.length = N := ⟨_, rfl⟩
  have HNN : Box _ := ⟨hN⟩
  have hn9 : n ≤ 1000000000 := by rw [← hn]; have := a.big.2.2.1; omega
  have hN9 : N ≤ 2000 := by rw [← hN]; exact a.big.1
  have K1 : Box (w.cell? ⟨g, 1, none⟩ = some (.slice (some ⟨bs, 0, none⟩) N cs)) := ⟨by rw [← hN]; exact k1⟩
  have K2 : Box (w.cell? ⟨g, 2, none⟩ = some (.slice AV n cV)) := ⟨by rw [← hn]; exact k2⟩
  clear a h1 h1' hR hn hN hrV k1 k2
  go_enter Try.func32, Try.ntmps32
  go_wp2_with fail
  go_loopw [5, 6] (fun q i wr => ∃ k : Nat, k ≤ n ∧ i = .int .i64 (k : Int) ∧ q = .int .i64 ((crashK keep P.ws P.safe k).2 : Int) ∧ Box (Own wr 0 1 (.slice (some ⟨bs, 0, none⟩) N cs) N (scells (crashK keep P.ws P.safe k).1)) ∧ Box (Touched w wr [bs])) (fun _ i _ => n - (intOf i).toNat)
  case atStart => exact ⟨0, by omega, rfl, rfl, ⟨by rw [← HNN.out]; exact HA.out.os⟩, ⟨Touched.refl _ _⟩⟩
  case round =>
    obtain ⟨k, hk, rfl, rfl, HS, HT⟩ := hrel
    have hle := crashK_le keep P.ws P.safe k
    have kg1 : wr.cell? ⟨g, 1, none⟩ = some (.slice (some ⟨bs, 0, none⟩) N cs) := (HT.out.cell HA.out.lt.1 (by simpa using HA.out.n2)).trans K1.out
    have kg2 : wr.cell? ⟨g, 2, none⟩ = some (.slice AV n cV) := (HT.out.cell HA.out.lt.1 (by simpa using HA.out.n2)).trans K2.out
    by_cases hlt : k < n
    · obtain ⟨p, hp⟩ := some_at (l := P.ws) (k := k) (by rw [HN.out]; exact hlt)
      obtain ⟨q0, q1⟩ := HIN.out p (List.mem_of_getElem? hp)
      obtain ⟨p1, p2⟩ := p
      obtain ⟨y, rfl⟩ : ∃ y : Nat, p1 = (y : Int) := ⟨p1.toNat, by simp at q0; omega⟩
      rw [HNN.out] at q1
      have hyN : y < N := by simp at q1; omega
      obtain ⟨gv, cap, eV, _, hgv, _, hrow⟩ := HA.out.ow.form (by rw [HN.out]; omega)
      injection eV with eA eB eC
      subst eA eC
      have hgb : gv ≠ bs := (HA.out.n4 gv (by simp [Value.ownBlock])).2.2
      have hgvt : ∀ j, wr.cell? ⟨gv, j, none⟩ = w.cell? ⟨gv, j, none⟩ := fun j => HT.out.cell hgv (by simpa using hgb)
      have d1 : wr.cell? ⟨gv, k * 2, none⟩ = some (.int .i64 (y : Int)) := (hgvt _).trans (row_cell hrow (dcells_at hp).1)
      have d2 : wr.cell? ⟨gv, k * 2 + 1, none⟩ = some (.string p2) := (hgvt _).trans (row_cell hrow (dcells_at hp).2)
      have HK1 : Box (crashK keep P.ws P.safe (k + 1) = if keptB keep k then ((crashK keep P.ws P.safe k).1.set y p2, (crashK keep P.ws P.safe k).2) else ((crashK keep P.ws P.safe k).1, (crashK keep P.ws P.safe k).2 + 1)) := ⟨by rw [crashK, hp]; simp⟩
      obtain ⟨s, hs⟩ : ∃ s, crashK keep P.ws P.safe k = s := ⟨_, rfl⟩
      rw [hs] at HK1 HS hle
      rw [hs]
      have hle2 : s.2 ≤ 1000000000 := by omega
      clear hs hrow hgvt hp q0 q1
      by_cases hkl : k < keep.length
      · obtain ⟨x, hx⟩ := some_at hkl
        obtain ⟨ad, rfl, hcell⟩ := (HR.out _ HT.out).get (icells_at hx)
        by_cases hx1 : x % 2 = 1
        · have hkb : keptB keep k = true := by rw [keptB, hx]; simpa using hx1
          rw [if_pos hkb] at HK1
          have hb : bits BinOp.and IntKind.i64 x 1 = 1 := (i64_and1 x).trans hx1
          clear hx hkb hx1
          obtain ⟨c1, f1⟩ := HS.out.cell (j := y) (u := .string (s.1.getD y ByteArray.empty)) (by
            have hsl : y < s.1.length := by
              have h1 := HS.out.1
              rw [scells, List.length_map] at h1
              omega
            rw [List.getD_eq_getElem?_getD, List.getElem?_eq_getElem hsl]
            exact scells_at (List.getElem?_eq_getElem hsl))
          have HS2 := HS.out.set y (by
              have h1 := HS.out.1
              omega) (.string p2)
          have e1 : (scells s.1).set y (.string p2) = scells (s.1.set y p2) := by simp [scells, List.map_set]
          rw [e1] at HS2
          have HS3 : Box (Own (wr.setCell ⟨bs, y, none⟩ (.string p2)) 0 1 (.slice (some ⟨bs, 0, none⟩) N cs) N (scells (s.1.set y p2))) := ⟨HS2.1⟩
          have hgbs := HA.out.n2
          have b1 : (wr.setCell ⟨bs, y, none⟩ (.string p2)).cell? ⟨g, 1, none⟩ = some (.slice (some ⟨bs, 0, none⟩) N cs) := (World.cell?_setCell_far wr ⟨bs, y, none⟩ ⟨g, 1, none⟩ (.string p2) (by simp; exact fun e => hgbs e.symm)).trans kg1
          have b2 : (wr.setCell ⟨bs, y, none⟩ (.string p2)).cell? ⟨g, 2, none⟩ = some (.slice (some ⟨gv, 0, none⟩) n cV) := (World.cell?_setCell_far wr ⟨bs, y, none⟩ ⟨g, 2, none⟩ (.string p2) (by simp; exact fun e => hgbs e.symm)).trans kg2
          have b3 : (wr.setCell ⟨bs, y, none⟩ (.string p2)).cell? ⟨gv, k * 2, none⟩ = some (.int .i64 (y : Int)) := (World.cell?_setCell_far wr ⟨bs, y, none⟩ ⟨gv, k * 2, none⟩ (.string p2) (by simp; exact fun e => hgb e.symm)).trans d1
          have b4 : (wr.setCell ⟨bs, y, none⟩ (.string p2)).cell? ⟨gv, k * 2 + 1, none⟩ = some (.string p2) := (World.cell?_setCell_far wr ⟨bs, y, none⟩ ⟨gv, k * 2 + 1, none⟩ (.string p2) (by simp; exact fun e => hgb e.symm)).trans d2
          have j0 : (0 : Int) ≤ (y : Int) := by omega
          have j1 : (y : Int) < (N : Int) := by omega
          have HSA : Box _ := ⟨And.intro kg1 (And.intro kg2 (And.intro d1 d2))⟩
          have HSB : Box _ := ⟨And.intro b1 (And.intro b2 (And.intro b3 b4))⟩
          clear HS2 e1 b1 b2 b3 b4
          go_wp2_with fail
          go_region_held3 (fun w' => w'.cell? ⟨g, 1, none⟩ = some (.slice (some ⟨bs, 0, none⟩) N cs) ∧ w'.cell? ⟨g, 2, none⟩ = some (.slice (some ⟨gv, 0, none⟩) n cV) ∧ w'.cell? ⟨gv, k * 2, none⟩ = some (.int .i64 (y : Int)) ∧ w'.cell? ⟨gv, k * 2 + 1, none⟩ = some (.string p2)) ((first | exact HSA.out | exact HSB.out)) (fail)
          all_goals
            go_wp2_with fail
            go_roundw
            case rel => first | exact ⟨k + 1, by omega, by go_num, by rw [HK1.out], by rw [HK1.out]; exact HS3, ⟨(HT.out.setCell (.inl (by simp)) _).drew⟩⟩ | ((repeat apply Exists.intro); exact ⟨⟨k + 1, by omega, by go_num, by rw [HK1.out], by rw [HK1.out]; exact HS3, ⟨(HT.out.setCell (.inl (by simp)) _).drew⟩⟩, rfl⟩)
            case measure => simp [intOf]; omega
        · have hx0 : x % 2 = 0 := by omega
          have hkb : keptB keep k = false := by rw [keptB, hx]; simp [hx0]
          rw [if_neg (by rw [hkb]; simp)] at HK1
          have hb : bits BinOp.and IntKind.i64 x 1 = 0 := (i64_and1 x).trans hx0
          clear hx hkb hx1 hx0
          go_wp2_with fail
          go_roundw
          case rel => exact ⟨k + 1, by omega, by go_num, by rw [HK1.out]; go_num, by rw [HK1.out]; exact HS, HT⟩
          case measure => simp [intOf]; omega
      · have hkb : keptB keep k = false := by rw [keptB, List.getElem?_eq_none (by omega)]
        rw [if_neg (by rw [hkb]; simp)] at HK1
        clear hkb
        go_wp2_with fail
        go_roundw
        case rel => exact ⟨k + 1, by omega, by go_num, by rw [HK1.out]; go_num, by rw [HK1.out]; exact HS, HT⟩
        case measure => simp [intOf]; omega
    · obtain rfl : k = n := by omega
      have hsl := crashK_length keep P.ws P.safe k
      rw [HA.out.ls, HNN.out] at hsl
      rw [HN.out] at HE
      obtain ⟨s, hs⟩ : ∃ s, crashK keep P.ws P.safe k = s := ⟨_, rfl⟩
      rw [hs] at HE HS hsl
      rw [hs]
      have HSrow : Box (RowAt wr (some ⟨bs, 0, none⟩) (scells s.1)) := ⟨by
        obtain ⟨A9, c9, e9, _, hr9, _⟩ := HS.out.slice
        injection e9 with e91
        subst e91
        exact hr9⟩
      have HF2 : Box (Own wr 0 1 (.slice (some ⟨g, 0, none⟩) 8 8) 8 (pflds bl cl bs cs (.slice AV P.ws.length cV) K kc P)) := ⟨HT.out.own HA.out.of (fun q hq => by simp [Value.ownBlock] at hq; subst hq; simpa using HA.out.n2)⟩
      have HGL : Box _ := ⟨HA.out.lt⟩
      have hlt2 : w.heap.size ≤ wr.heap.size := HT.out.size
      clear hs
      go_wp2_with (at_builtin; refine appO el_texts wr.heap.size rfl _ _ rfl (v := .slice none 0 0) (n := 0) (xs := []) rfl (Own.nil _ _ _) rfl (news := scells s.1) (by simp [scells, hsl]) HSrow.out (one_scells _) (by omega) (Nat.le_refl _) ?_; intro v2 w2 ho2 hg2 _; have hb2 : Below wr.heap.size wr w2 := grown_nil hg2; rw [Nat.zero_add, List.nil_append] at ho2; obtain ⟨b2, c2, rfl, hb2l, hb2s, hc2, hr2⟩ := ho2.form (by rw [← HNN.out]; exact HA.out.pos); have HW2 : Box (Touched w w2 [bs]) := ⟨HT.out.trans (Touched.of_below hb2 _)⟩; have HS2 : Box (Own w2 0 1 (.slice (some ⟨bs, 0, none⟩) N cs) N (scells s.1)) := ⟨HS.out.below hb2⟩; have HO2 : Box (Own w2 0 1 (.slice (some ⟨b2, 0, none⟩) N c2) N (scells s.1)) := ⟨ho2.weaken (Nat.zero_le _)⟩; have HF3 : Box (Own w2 0 1 (.slice (some ⟨g, 0, none⟩) 8 8) 8 (pflds bl cl bs cs (.slice AV P.ws.length cV) K kc P)) := ⟨HF2.out.below hb2⟩; obtain ⟨_, f0⟩ := HF3.out.cell (j := 0) rfl; obtain ⟨_, f2⟩ := HF3.out.cell (j := 2) rfl; obtain ⟨_, f3⟩ := HF3.out.cell (j := 3) rfl; obtain ⟨_, f4⟩ := HF3.out.cell (j := 4) rfl; clear ho2 hb2 hr2 hg2)
      go_ret
      rw [HE.out]
      have hgs := HGL.out
      have hT9 : Touched w2 ((((w2.setCell ⟨g, 0, none⟩ (.slice (some ⟨b2, 0, none⟩) N c2)).setCell ⟨g, 2, none⟩ (.slice none 0 0)).setCell ⟨g, 3, none⟩ (.bool true)).setCell ⟨g, 4, none⟩ (.bool false)) [g] := ((((Touched.refl w2 [g]).setCell (.inl (by simp)) _).setCell (.inl (by simp)) _).setCell (.inl (by simp)) _).setCell (.inl (by simp)) _
      refine ⟨rfl, PlainTo.at (bl' := b2) (cl' := c2) (bs' := bs) (cs' := cs) (V' := .slice none 0 0) (K' := K) (kc' := kc) ?_ ?_ ?_⟩
      · have hge := HA.out.ge
        refine PlainAt.refield (w2 := w2) hT9 ?_ (by simpa [hsl] using HO2.out) (by simpa [hsl] using HS2.out) rfl (Own.nil _ _ _) HA.out.rk (by omega) HA.out.n2 (by omega) (fun b hb => by simp [Value.ownBlock] at hb) (by show 0 < s.1.length; rw [hsl, ← HNN.out]; exact HA.out.pos) ?_ HA.out.inv ⟨hge.1, by have := HA.out.lt.1; omega, hge.2.2.1, fun b hb => by simp [Value.ownBlock] at hb⟩
        · have h5 := (((((HF3.out.set 0 (by simp [pflds]) (.slice (some ⟨b2, 0, none⟩) N c2)).1.set 2 (by simp [pflds]) (.slice none 0 0)).1.set 3 (by simp [pflds]) (.bool true)).1.set 4 (by simp [pflds]) (.bool false)).1)
          simp only [pflds, List.set_cons_zero, List.set_cons_succ, HNN.out] at h5
          simp only [pflds, hsl]
          exact h5
        · have hb := HA.out.big
          refine ⟨by show s.1.length ≤ 2000; omega, hb.2.1, ?_, hb.2.2.2.1, by simp⟩
          have := hb.2.2.1
          show 0 + P.many ≤ 1000000000
          omega
      · intro q hq
        simp only [List.mem_cons, Value.ownBlock, Option.mem_toList] at hq
        rcases hq with rfl | rfl | rfl | hq
        · exact .inl (HF.out _ (by simp))
        · exact .inr (by omega)
        · exact .inl (HF.out _ (by simp))
        · simp at hq
      · exact (HW2.out.mono (fun q hq _ => HF.out q (by simp at hq; simp [hq]))).trans (hT9.mono (fun q hq _ => HF.out q (by simp at hq; simp [hq])))
end
end Go.Proofs.Ytbnkmndgfmmiaaa
