/- The disk: the power goes. -/
import Derived.Test.YtbnkmndgfmmiaaaDisk
namespace Go.Proofs.Ytbnkmndgfmmiaaa
open Go.RowKit
set_option linter.unusedVariables false

theorem i64_and1 (x : Int) : bits BinOp.and IntKind.i64 x 1 = x % 2 := by
  show IntKind.i64.wrap ((BitVec.ofInt 64 x &&& BitVec.ofInt 64 1).toNat : Int) = x % 2
  rw [BitVec.toNat_and, BitVec.toNat_ofInt, BitVec.toNat_ofInt, show ((1 : Int) % ((2 ^ 64 : Nat) : Int)).toNat = 1 from rfl, Nat.and_one_is_mod]
  have h : 0 ≤ x % ((2 ^ 64 : Nat) : Int) := Int.emod_nonneg _ (by decide)
  have h2 : ((((x % ((2 ^ 64 : Nat) : Int)).toNat % 2 : Nat) : Int)) = x % 2 := by omega
  rw [h2]
  exact IntWalk.i64_in _ (by omega)
/-- Is the k-th write kept? -/
def keptB (keep : List Int) (k : Nat) : Bool := match keep[k]? with | some x => x % 2 == 1 | none => false
/-- What is safe behind so many writes that were not, and how many were lost. -/
def crashK (keep : List Int) (ws : List (Int × ByteArray)) (s : List ByteArray) : Nat → List ByteArray × Nat
  | 0 => (s, 0)
  | k + 1 => match ws[k]? with
    | some p => if keptB keep k then ((crashK keep ws s k).1.set p.1.toNat p.2, (crashK keep ws s k).2) else ((crashK keep ws s k).1, (crashK keep ws s k).2 + 1)
    | none => crashK keep ws s k
theorem crashK_length (keep : List Int) (ws : List (Int × ByteArray)) (s : List ByteArray) (k : Nat) : (crashK keep ws s k).1.length = s.length := by
  induction k with
  | zero => rfl
  | succ k ih =>
    rw [crashK]
    split
    · split
      · simp [ih]
      · exact ih
    · exact ih
theorem crashK_le (keep : List Int) (ws : List (Int × ByteArray)) (s : List ByteArray) (k : Nat) : (crashK keep ws s k).2 ≤ k := by
  induction k with
  | zero => exact Nat.le_refl _
  | succ k ih =>
    rw [crashK]
    split
    · split
      · exact Nat.le_succ_of_le ih
      · simp; exact ih
    · exact Nat.le_succ_of_le ih
def crashD (D : DSt) (keep : List Int) : DSt × Nat :=
  if D.off = true then (D, 0) else
    ({ D with l := (crashK keep D.ws D.safe D.ws.length).1, safe := (crashK keep D.ws D.safe D.ws.length).1, ws := [], off := true, armed := false, keep := [] }, (crashK keep D.ws D.safe D.ws.length).2)

/-- A disk again, in blocks that it had or that are new. -/
structure DiskStep (w w' : World) (g bl bs : Nat) (V : Value) (K : Option Addr) (D' : DSt) : Prop where
  ex : ∃ bl' cl' bs' cs' V' K' kc', DiskAt w' g bl' cl' bs' cs' V' K' kc' D' ∧ (bl' = bl ∨ bl' = bs ∨ w.heap.size ≤ bl') ∧ (bs' = bs ∨ bs' = bl ∨ w.heap.size ≤ bs') ∧ (∀ b, V'.ownBlock = some b → V.ownBlock = some b ∨ w.heap.size ≤ b) ∧ (∀ b, K' = some ⟨b, 0, none⟩ → K = some ⟨b, 0, none⟩ ∨ w.heap.size ≤ b)
  touched : Touched w w' (g :: bl :: bs :: V.ownBlock.toList)

section
variable {w : World} {g bl cl bs cs : Nat} {V : Value} {K : Option Addr} {kc : Nat} {D : DSt}
set_option maxHeartbeats 3200000 in
set_option maxRecDepth 100000 in
theorem diskCrash_calls (a : DiskAt w g bl cl bs cs V K kc D) (A : Option Addr) (m c : Nat) (keep : List Int) (hl : keep.length = m) (hm : m ≤ 1000000) (hR : ∀ w', Touched w w' [bs] → RowAt w' A (icells keep)) :
    Calls Try.prog 15 #[.pointer (some ⟨g, 0, none⟩), .slice A m c] w fun e w' => e = .returned (.int .i64 ((crashD D keep).2 : Int)) ∧ DiskStep w w' g bl bs V K (crashD D keep).1 := by
  subst hl
  have HO : Box _ := ⟨diskOn_calls a⟩
  have HA : Box _ := ⟨a⟩
  by_cases h1 : D.off = true
  · have e : crashD D keep = (D, 0) := by rw [crashD, if_pos h1]
    rw [e]
    rw [h1] at HO
    have HD : Box _ := ⟨a⟩
    clear a h1 e hR
    go_enter Try.func15, Try.ntmps15
    go_wp2_with fail
    refine HO.out.mono ?_
    rintro e w1 ⟨rfl, rfl⟩
    go_wp2
    go_ret
    exact ⟨rfl, ⟨bl, cl, bs, cs, V, K, kc, HD.out, .inl rfl, .inl rfl, fun _ h => .inl h, fun _ h => .inl h⟩, Touched.refl _ _⟩
  have h1' : D.off = false := by simpa using h1
  rw [h1'] at HO
  have HR : Box _ := ⟨hR⟩
  have HIN : Box _ := ⟨a.big.2.2.2.2⟩
  obtain ⟨k1, _⟩ := a.fld (i := 1) rfl
  obtain ⟨k2, _⟩ := a.fld (i := 2) rfl
  obtain ⟨AV, cV, eV, hcV, hrV, _⟩ := a.ow.slice
  have HE : Box (crashD D keep = ({ D with l := (crashK keep D.ws D.safe D.ws.length).1, safe := (crashK keep D.ws D.safe D.ws.length).1, ws := [], off := true, armed := false, keep := [] }, (crashK keep D.ws D.safe D.ws.length).2)) := ⟨by rw [crashD, if_neg h1]⟩
  subst eV
  have HRV : Box _ := ⟨hrV⟩
  obtain ⟨n, hn⟩ : ∃ n, D.ws.length = n := ⟨_, rfl⟩
  have HN : Box _ := ⟨hn⟩
  obtain ⟨N, hN⟩ : ∃ N, D.l.length = N := ⟨_, rfl⟩
  have HNN : Box _ := ⟨hN⟩
  have hn9 : n ≤ 1000000000 := by rw [← hn]; have := a.big.2.2.1; omega
  have hN9 : N ≤ 2000 := by rw [← hN]; exact a.big.1
  rw [hn] at k2
  rw [hN] at k1
  clear a h1 h1' hR hn hN hrV
  go_enter Try.func15, Try.ntmps15
  go_wp2_with fail
  refine HO.out.mono ?_
  rintro e w1 ⟨rfl, rfl⟩
  go_wp2_with fail
  go_loopw [5, 16] (fun q i wr => ∃ k : Nat, k ≤ n ∧ i = .int .i64 (k : Int) ∧ q = .int .i64 ((crashK keep D.ws D.safe k).2 : Int) ∧ Box (Own wr 0 1 (.slice (some ⟨bs, 0, none⟩) N cs) N (scells (crashK keep D.ws D.safe k).1)) ∧ Box (Touched w wr [bs])) (fun _ i _ => n - (intOf i).toNat)
  case atStart => exact ⟨0, by omega, rfl, rfl, ⟨by rw [← HNN.out]; exact HA.out.os⟩, ⟨Touched.refl _ _⟩⟩
  case round =>
    obtain ⟨k, hk, rfl, rfl, HS, HT⟩ := hrel
    have hle := crashK_le keep D.ws D.safe k
    by_cases hlt : k < n
    · obtain ⟨p, hp⟩ := some_at (l := D.ws) (k := k) (by rw [HN.out]; exact hlt)
      obtain ⟨q0, q1⟩ := HIN.out p (List.mem_of_getElem? hp)
      obtain ⟨p1, p2⟩ := p
      obtain ⟨y, rfl⟩ : ∃ y : Nat, p1 = (y : Int) := ⟨p1.toNat, by simp at q0; omega⟩
      rw [HNN.out] at q1
      have hyN : y < N := by simp at q1; omega
      obtain ⟨gv, cap, eV, _, hgv, _, hrow⟩ := HA.out.ow.form (by rw [HN.out]; omega)
      injection eV with eA eB eC
      subst eA eC
      have hgb : gv ≠ bs := (HA.out.n4 gv (by simp [Value.ownBlock])).2.2
      have hgvt : ∀ j, wr.cell? ⟨gv, j, none⟩ = w.cell? ⟨gv, j, none⟩ := fun j => HT.out.cell hgv (by simpa using hgb)
      have d1 : wr.cell? ⟨gv, k * 2, none⟩ = some (.int .i64 (y : Int)) := (hgvt _).trans (row_cell hrow (dcells_at hp).1)
      have d2 : wr.cell? ⟨gv, k * 2 + 1, none⟩ = some (.string p2) := (hgvt _).trans (row_cell hrow (dcells_at hp).2)
      have kg1 : wr.cell? ⟨g, 1, none⟩ = some (.slice (some ⟨bs, 0, none⟩) N cs) := (HT.out.cell HA.out.lt.1 (by simpa using HA.out.n2)).trans k1
      have hgl : g < wr.heap.size := Nat.lt_of_lt_of_le HA.out.lt.1 HT.out.size
      have HK1 : Box (crashK keep D.ws D.safe (k + 1) = if keptB keep k then ((crashK keep D.ws D.safe k).1.set y p2, (crashK keep D.ws D.safe k).2) else ((crashK keep D.ws D.safe k).1, (crashK keep D.ws D.safe k).2 + 1)) := ⟨by rw [crashK, hp]; simp⟩
      obtain ⟨s, hs⟩ : ∃ s, crashK keep D.ws D.safe k = s := ⟨_, rfl⟩
      rw [hs] at HK1 HS hle
      rw [hs]
      have hle2 : s.2 ≤ 1000000000 := by omega
      clear hs hrow hgvt hp q0 q1
      by_cases hkl : k < keep.length
      · obtain ⟨x, hx⟩ := some_at hkl
        obtain ⟨ad, rfl, hcell⟩ := (HR.out _ HT.out).get (icells_at hx)
        have hcell2 : ∀ o : Obj, (wr.alloc o).cell? (ad.add k) = some (.int .i64 x) := fun o => (World.cell?_alloc_lt _ _ _ (World.block_lt_of_cell? wr _ hcell)).trans hcell
        by_cases hx1 : x % 2 = 1
        · have hkb : keptB keep k = true := by rw [keptB, hx]; simpa using hx1
          rw [if_pos hkb] at HK1
          have hb : bits BinOp.and IntKind.i64 x 1 = 1 := (i64_and1 x).trans hx1
          clear hx hkb hx1
          obtain ⟨c1, f1⟩ := (HS.out.alloc (.cells #[.int .i64 (y : Int), .string p2] 42)).cell (j := y) (u := .string (s.1.getD y ByteArray.empty)) (by
            have hsl : y < s.1.length := by
              have h1 := HS.out.1
              rw [scells, List.length_map] at h1
              omega
            rw [List.getD_eq_getElem?_getD, List.getElem?_eq_getElem hsl]
            exact scells_at (List.getElem?_eq_getElem hsl))
          have HS2 := HS.out.set y (by
              have h1 := HS.out.1
              omega) (.string p2)
          have e1 : (scells s.1).set y (.string p2) = scells (s.1.set y p2) := by simp [scells, List.map_set]
          rw [e1] at HS2
          have HS3 : Box (Own ((wr.setCell ⟨bs, y, none⟩ (.string p2)).alloc (.cells #[.int .i64 (y : Int), .string p2] 42)) 0 1 (.slice (some ⟨bs, 0, none⟩) N cs) N (scells (s.1.set y p2))) := ⟨HS2.1.alloc _⟩
          have hbn := heap_alloc_new wr (.cells #[.int .i64 (y : Int), .string p2] 42)
          have a1 : (wr.alloc (.cells #[.int .i64 (y : Int), .string p2] 42)).cell? ⟨g, 1, none⟩ = some (.slice (some ⟨bs, 0, none⟩) N cs) := (World.cell?_alloc_lt _ _ _ hgl).trans kg1
          have a2 : (wr.alloc (.cells #[.int .i64 (y : Int), .string p2] 42)).cell? ⟨wr.heap.size, 0, none⟩ = some (.int .i64 (y : Int)) := cell_of_row _ _ 0 _ _ (0, 0) hbn
          have a3 : (wr.alloc (.cells #[.int .i64 (y : Int), .string p2] 42)).cell? ⟨wr.heap.size, 1, none⟩ = some (.string p2) := cell_of_row _ _ 1 _ _ (0, 0) hbn
          have hbsl : bs < wr.heap.size := Nat.lt_of_lt_of_le HA.out.lt.2.2.1 HT.out.size
          have hgbs := HA.out.n2
          have hss : (wr.setCell ⟨bs, y, none⟩ (.string p2)).heap.size = wr.heap.size := by simp [World.setCell]
          have hbn2 := heap_alloc_new (wr.setCell ⟨bs, y, none⟩ (.string p2)) (.cells #[.int .i64 (y : Int), .string p2] 42)
          rw [hss] at hbn2
          have b1 : ((wr.setCell ⟨bs, y, none⟩ (.string p2)).alloc (.cells #[.int .i64 (y : Int), .string p2] 42)).cell? ⟨g, 1, none⟩ = some (.slice (some ⟨bs, 0, none⟩) N cs) := (World.cell?_alloc_lt _ _ _ (by rw [hss]; exact hgl)).trans ((World.cell?_setCell_far wr ⟨bs, y, none⟩ ⟨g, 1, none⟩ (.string p2) (by simp; exact fun e => hgbs e.symm)).trans kg1)
          have b2 : ((wr.setCell ⟨bs, y, none⟩ (.string p2)).alloc (.cells #[.int .i64 (y : Int), .string p2] 42)).cell? ⟨wr.heap.size, 0, none⟩ = some (.int .i64 (y : Int)) := cell_of_row _ _ 0 _ _ (0, 0) hbn2
          have b3 : ((wr.setCell ⟨bs, y, none⟩ (.string p2)).alloc (.cells #[.int .i64 (y : Int), .string p2] 42)).cell? ⟨wr.heap.size, 1, none⟩ = some (.string p2) := cell_of_row _ _ 1 _ _ (0, 0) hbn2
          have j0 : (0 : Int) ≤ (y : Int) := by omega
          have j1 : (y : Int) < (N : Int) := by omega
          have HSA : Box _ := ⟨And.intro a1 (And.intro a2 a3)⟩
          have HSB : Box _ := ⟨And.intro b1 (And.intro b2 b3)⟩
          clear HS2 hbn hbn2 hss e1 b1 b2 b3
          go_wp2_with fail
          go_region_held3 (fun w' => w'.cell? ⟨g, 1, none⟩ = some (.slice (some ⟨bs, 0, none⟩) N cs) ∧ w'.cell? ⟨wr.heap.size, 0, none⟩ = some (.int .i64 (y : Int)) ∧ w'.cell? ⟨wr.heap.size, 1, none⟩ = some (.string p2)) ((first | exact HSA.out | exact HSB.out)) (fail)
          all_goals
            go_wp2_with fail
            go_roundw
            case rel => first | exact ⟨k + 1, by omega, by go_num, by rw [HK1.out], by rw [HK1.out]; exact HS3, ⟨((HT.out.setCell (.inl (by simp)) _).alloc _).drew⟩⟩ | ((repeat apply Exists.intro); exact ⟨⟨k + 1, by omega, by go_num, by rw [HK1.out], by rw [HK1.out]; exact HS3, ⟨((HT.out.setCell (.inl (by simp)) _).alloc _).drew⟩⟩, rfl⟩)
            case measure => simp [intOf]; omega
        · have hx0 : x % 2 = 0 := by omega
          have hkb : keptB keep k = false := by rw [keptB, hx]; simp [hx0]
          rw [if_neg (by rw [hkb]; simp)] at HK1
          have hb : bits BinOp.and IntKind.i64 x 1 = 0 := (i64_and1 x).trans hx0
          clear hx hkb hx1 hx0
          go_wp2_with fail
          go_roundw
          case rel => exact ⟨k + 1, by omega, by go_num, by rw [HK1.out]; go_num, by rw [HK1.out]; exact ⟨HS.out.alloc _⟩, ⟨HT.out.alloc _⟩⟩
          case measure => simp [intOf]; omega
      · have hkb : keptB keep k = false := by rw [keptB, List.getElem?_eq_none (by omega)]
        rw [if_neg (by rw [hkb]; simp)] at HK1
        clear hkb
        go_wp2_with fail
        go_roundw
        case rel => exact ⟨k + 1, by omega, by go_num, by rw [HK1.out]; go_num, by rw [HK1.out]; exact ⟨HS.out.alloc _⟩, ⟨HT.out.alloc _⟩⟩
        case measure => simp [intOf]; omega
    · obtain rfl : k = n := by omega
      obtain ⟨wo, rfl⟩ : ∃ wo : World, wo = wr := ⟨_, rfl⟩
      have kg1 : wo.cell? ⟨g, 1, none⟩ = some (.slice (some ⟨bs, 0, none⟩) N cs) := (HT.out.cell HA.out.lt.1 (by simpa using HA.out.n2)).trans k1
      have hsl := crashK_length keep D.ws D.safe k
      rw [HA.out.ls, HNN.out] at hsl
      rw [HN.out] at HE
      obtain ⟨s, hs⟩ : ∃ s, crashK keep D.ws D.safe k = s := ⟨_, rfl⟩
      rw [hs] at HE HS hsl
      rw [hs]
      have hSrow : RowAt wo (some ⟨bs, 0, none⟩) (scells s.1) := by
        obtain ⟨A9, c9, e9, _, hr9, _⟩ := HS.out.slice
        injection e9 with e91
        subst e91
        exact hr9
      have HC : Box _ := ⟨cloneS_calls (some ⟨bs, 0, none⟩) N cs (scells s.1) wo (fun h => by cases h) (by simp [scells, hsl]) (by omega) (one_scells _) hSrow⟩
      clear hs hSrow
      go_wp2_with fail
      refine HC.out.mono ?_
      rintro e w2 ⟨v2, rfl, ho2, hb2⟩
      obtain ⟨b2, c2, rfl, hb2l, hb2s, hc2, hr2⟩ := ho2.form (by rw [← HNN.out]; exact HA.out.pos)
      have HW2 : Box (Touched w w2 [bs]) := ⟨HT.out.trans (Touched.of_below hb2 _)⟩
      have HS2 : Box (Own w2 0 1 (.slice (some ⟨bs, 0, none⟩) N cs) N (scells s.1)) := ⟨HS.out.below hb2⟩
      have HO2 : Box (Own w2 0 1 (.slice (some ⟨b2, 0, none⟩) N c2) N (scells s.1)) := ⟨ho2.weaken (Nat.zero_le _)⟩
      have hwo : w.heap.size ≤ wo.heap.size := HT.out.size
      have hb2w : w.heap.size ≤ b2 := Nat.le_trans hwo hb2l
      have HF2 : Box (Own w2 0 1 (.slice (some ⟨g, 0, none⟩) 8 8) 8 (dflds bl cl bs cs (.slice AV D.ws.length cV) K kc D)) := ⟨HW2.out.own HA.out.of (fun q hq => by simp [Value.ownBlock] at hq; subst hq; simpa using HA.out.n2)⟩
      obtain ⟨_, f0⟩ := HF2.out.cell (j := 0) rfl
      obtain ⟨_, f2⟩ := HF2.out.cell (j := 2) rfl
      obtain ⟨_, f4⟩ := HF2.out.cell (j := 4) rfl
      obtain ⟨_, f5⟩ := HF2.out.cell (j := 5) rfl
      obtain ⟨_, f7⟩ := HF2.out.cell (j := 7) rfl
      have HGL : Box _ := ⟨HA.out.lt⟩
      clear ho2 hb2 hr2
      go_wp2_with fail
      go_ret
      rw [HE.out]
      refine ⟨rfl, ⟨b2, c2, bs, cs, .slice none 0 0, none, 0, ?_, .inr (.inr hb2w), .inl rfl, fun b hb => by simp [Value.ownBlock] at hb, fun b hb => by cases hb⟩, ?_⟩
      · have hgs := HGL.out
        refine DiskAt.refield (w2 := w2) ?_ ?_ (by simpa [hsl] using HO2.out) (by simpa [hsl] using HS2.out) rfl (Own.nil _ _ _) (.nil _ _) (fun _ => ⟨rfl, rfl⟩) (by simp) (by omega) HA.out.n2 (by omega) (fun b hb => by simp [Value.ownBlock] at hb) (.inl rfl) (fun b hb => by cases hb) (by show 0 < s.1.length; rw [hsl, ← HNN.out]; exact HA.out.pos) ?_ ?_
        · exact (((((Touched.refl w2 [g]).setCell (.inl (by simp)) _).setCell (.inl (by simp)) _).setCell (.inl (by simp)) _).setCell (.inl (by simp)) _).setCell (.inl (by simp)) _
        · have h5 := ((((((HF2.out.set 0 (by simp [dflds]) (.slice (some ⟨b2, 0, none⟩) N c2)).1.set 2 (by simp [dflds]) (.slice none 0 0)).1.set 4 (by simp [dflds]) (.bool true)).1.set 5 (by simp [dflds]) (.bool false)).1.set 7 (by simp [dflds]) (.slice none 0 0)).1)
          simp only [dflds, List.set_cons_zero, List.set_cons_succ, HNN.out] at h5
          simp only [dflds, hsl]
          exact h5
        · have hb := HA.out.big
          refine ⟨by show s.1.length ≤ 2000; omega, by simp, ?_, by simp, by simp⟩
          have := hb.2.2.1
          show 0 + D.many ≤ 1000000000
          omega
        · exact HA.out.inv
      · refine ((HW2.out.mono (fun q hq _ => by simp at hq; simp [hq])).trans ((((((Touched.refl w2 _).setCell (.inl (by simp)) _).setCell (.inl (by simp)) _).setCell (.inl (by simp)) _).setCell (.inl (by simp)) _).setCell (.inl (by simp)) _))
end
end Go.Proofs.Ytbnkmndgfmmiaaa
