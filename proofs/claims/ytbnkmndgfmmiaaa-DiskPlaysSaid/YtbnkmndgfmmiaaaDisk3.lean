/- The disk: a sector is written. -/
import Derived.Test.YtbnkmndgfmmiaaaDisk2
namespace Go.Proofs.Ytbnkmndgfmmiaaa
open Go.RowKit
set_option linter.unusedVariables false

theorem cloneStr_calls (s : ByteArray) (w : World) (hs : s.size ≤ 1000000000) : Calls Try.prog 51 #[.string s] w fun e w' => e = .returned (.string s) ∧ Below w.heap.size w w' := by
  go_enter Try.func51, Try.ntmps51
  go_wp2_with fail
  refine (Try.stringslite_Clone s _ (by omega)).mono ?_
  rintro e w1 ⟨rfl, hb⟩
  go_wp2
  go_ret
  exact ⟨rfl, hb⟩
def goesD (D : DSt) : DSt × Bool := if D.armed = true then ({ D with left := D.left - 1 }, decide (D.left - 1 < 0)) else (D, false)
section
variable {w : World} {g bl cl bs cs : Nat} {V : Value} {K : Option Addr} {kc : Nat} {D : DSt}
theorem diskGoes_calls (a : DiskAt w g bl cl bs cs V K kc D) (harm : D.armed = true → 0 ≤ D.left) :
    Calls Try.prog 48 #[.pointer (some ⟨g, 0, none⟩)] w fun e w' => e = .returned (.bool (goesD D).2) ∧ DiskAt w' g bl cl bs cs V K kc (goesD D).1 ∧ Touched w w' [g] := by
  obtain ⟨k5, _⟩ := a.fld (i := 5) rfl
  obtain ⟨k6, f6⟩ := a.fld (i := 6) rfl
  have HA : Box _ := ⟨a⟩
  by_cases h1 : D.armed = true
  · have e : goesD D = ({ D with left := D.left - 1 }, decide (D.left - 1 < 0)) := by rw [goesD, if_pos h1]
    have h2 := harm h1
    have h3 := a.inv.2
    rw [e]
    rw [h1] at k5
    have hs := (a.of.set 6 (by simp [dflds]) (.int .i64 (D.left - 1))).1
    have HS : Box _ := ⟨hs⟩
    obtain ⟨x, hx⟩ : ∃ x, D.left = x := ⟨_, rfl⟩
    have HX : Box _ := ⟨hx⟩
    rw [hx] at h2 h3 k6 HS ⊢
    clear a e h1 harm hs hx
    go_enter Try.func48, Try.ntmps48
    go_wp2
    go_ret
    have hT : Touched w (w.setCell ⟨g, 6, none⟩ (.int .i64 (x - 1))) [g] := (Touched.refl w _).setCell (.inl (by simp)) _
    refine ⟨by first | rfl | (simp; try omega), DiskAt.refield hT HS.out HA.out.ol HA.out.os HA.out.ls HA.out.ow HA.out.rk HA.out.kn HA.out.kl HA.out.n1 HA.out.n2 HA.out.n3 HA.out.n4 HA.out.n5 HA.out.kb HA.out.pos HA.out.big ⟨by show -9223372036854775808 ≤ x - 1; omega, by show x - 1 ≤ _; omega⟩, hT⟩
  · have e : goesD D = (D, false) := by rw [goesD, if_neg h1]
    have h1' : D.armed = false := by simpa using h1
    rw [e]
    rw [h1'] at k5
    clear a e h1 harm h1'
    go_enter Try.func48, Try.ntmps48
    go_wp2
    go_ret
    exact ⟨rfl, HA.out, Touched.refl _ _⟩

theorem DiskAt.setL (a : DiskAt w g bl cl bs cs V K kc D) {y : Nat} (hy : y < D.l.length) (d : ByteArray) :
    DiskAt (w.setCell ⟨bl, y, none⟩ (.string d)) g bl cl bs cs V K kc { D with l := D.l.set y d } ∧ Touched w (w.setCell ⟨bl, y, none⟩ (.string d)) [bl] := by
  have hT : Touched w (w.setCell ⟨bl, y, none⟩ (.string d)) [bl] := (Touched.refl w _).setCell (.inl (by simp)) _
  have h1 := (a.ol.set y (by simpa [scells] using hy) (.string d)).1
  have e1 : (scells D.l).set y (.string d) = scells (D.l.set y d) := by simp [scells, List.map_set]
  rw [e1] at h1
  have n1 := a.n1
  have n3 := a.n3
  refine ⟨⟨?_, by simpa using h1, ?_, by simpa using a.ls, ?_, ?_, a.kn, a.kl, a.n1, a.n2, a.n3, a.n4, a.n5, fun b hb => by simpa [World.setCell] using a.kb b hb, by simpa using a.pos, by simpa using a.big, a.inv⟩, hT⟩
  · have := hT.own a.of (fun k hk => by simp [Value.ownBlock] at hk; subst hk; simpa using n1)
    simpa [dflds] using this
  · have := hT.own a.os (fun k hk => by simp [Value.ownBlock] at hk; subst hk; simpa using fun e => n3 e.symm)
    simpa using this
  · exact hT.own a.ow (fun k hk => by simpa using (a.n4 k hk).2.1)
  · exact row_touched a.rk hT (a.n5.elim .inl fun ⟨b, hb, _, h, _⟩ => .inr ⟨b, hb, by simpa using h⟩)
/-- One more write, behind an append onto the row and the store of the field. -/
theorem DiskAt.grown (a : DiskAt w g bl cl bs cs V K kc D) {w1 : World} {V1 : Value} {p : Int × ByteArray} (ho : Own w1 0 2 V1 (D.ws.length + 1) (dcells D.ws ++ dcells [p])) (hT : Touched w w1 V.ownBlock.toList)
    (hV : V1.ownBlock = V.ownBlock ∨ ∃ b, V1.ownBlock = some b ∧ w.heap.size ≤ b) (hp : 0 ≤ p.1 ∧ p.1 < (D.l.length : Int)) (hroom : D.ws.length + D.many + 2 ≤ 1000000000) :
    DiskAt (w1.setCell ⟨g, 2, none⟩ V1) g bl cl bs cs V1 K kc { D with ws := D.ws ++ [p] } ∧ Touched w (w1.setCell ⟨g, 2, none⟩ V1) (g :: V.ownBlock.toList) := by
  have hg : g ∉ V.ownBlock.toList := fun h => (a.n4 g (by simpa using h)).1 rfl
  have hbl : bl ∉ V.ownBlock.toList := fun h => (a.n4 bl (by simpa using h)).2.1 rfl
  have hbs : bs ∉ V.ownBlock.toList := fun h => (a.n4 bs (by simpa using h)).2.2 rfl
  have hlt := a.lt
  have hT2 : Touched w1 (w1.setCell ⟨g, 2, none⟩ V1) [g] := (Touched.refl w1 _).setCell (.inl (by simp)) _
  have of1 := (hT.own a.of (fun k hk => by simp [Value.ownBlock] at hk; subst hk; exact hg)).set 2 (by simp [dflds]) V1
  refine ⟨DiskAt.refield hT2 of1.1 (hT.own a.ol (fun k hk => by simp [Value.ownBlock] at hk; subst hk; exact hbl)) (hT.own a.os (fun k hk => by simp [Value.ownBlock] at hk; subst hk; exact hbs)) a.ls ?_ (row_touched a.rk hT (a.n5.elim .inl fun ⟨b, hb, _, _, _, h⟩ => .inr ⟨b, hb, by simpa using h⟩)) a.kn a.kl a.n1 a.n2 a.n3 ?_ ?_ (fun b hb => Nat.lt_of_lt_of_le (a.kb b hb) hT.size) a.pos ?_ a.inv, ?_⟩
  · rw [show ({ D with ws := D.ws ++ [p] } : DSt).ws = D.ws ++ [p] from rfl, dcells_append, List.length_append]
    exact ho
  · intro b hb
    rcases hV with h | ⟨b', h, hb'⟩
    · rw [h] at hb; exact a.n4 b hb
    · rw [h] at hb; injection hb with hb; subst hb; omega
  · refine a.n5.elim .inl fun ⟨b, hb, h1, h2, h3, h4⟩ => .inr ⟨b, hb, h1, h2, h3, ?_⟩
    rcases hV with h | ⟨b', h, hb'⟩
    · rw [h]; exact h4
    · rw [h]
      intro e
      injection e with e
      have := a.kb b hb
      omega
  · obtain ⟨q1, q2, q3, q4, q5⟩ := a.big
    refine ⟨q1, q2, ?_, q4, ?_⟩
    · show (D.ws ++ [p]).length + D.many ≤ _
      rw [List.length_append]; simp; omega
    · intro z hz
      rcases List.mem_append.1 hz with h | h
      · exact q5 z h
      · rw [List.mem_singleton] at h; subst h; exact hp
  · exact (hT.mono (fun k hk _ => List.mem_cons_of_mem _ hk)).trans (hT2.mono (fun k hk _ => by simp at hk; simp [hk]))

theorem DiskStep.of {w w1 : World} {g bl cl bs cs : Nat} {V V1 : Value} {K : Option Addr} {kc : Nat} {D' : DSt} (a : DiskAt w1 g bl cl bs cs V1 K kc D') (hT : Touched w w1 (g :: bl :: bs :: V.ownBlock.toList)) (hV : ∀ b, V1.ownBlock = some b → V.ownBlock = some b ∨ w.heap.size ≤ b) : DiskStep w w1 g bl bs V K D' :=
  ⟨⟨bl, cl, bs, cs, V1, K, kc, a, .inl rfl, .inl rfl, hV, fun _ h => .inl h⟩, hT⟩
theorem DiskStep.after {w w1 w2 : World} {g bl bs : Nat} {V V1 : Value} {K : Option Addr} {D' : DSt} (hT : Touched w w1 (g :: bl :: bs :: V.ownBlock.toList)) (hV : ∀ b, V1.ownBlock = some b → V.ownBlock = some b ∨ w.heap.size ≤ b) (h : DiskStep w1 w2 g bl bs V1 K D') : DiskStep w w2 g bl bs V K D' := by
  obtain ⟨⟨bl', cl', bs', cs', V', K', kc', h1, h2, h3, h4, h5⟩, h6⟩ := h
  refine ⟨⟨bl', cl', bs', cs', V', K', kc', h1, ?_, ?_, ?_, ?_⟩, hT.trans' h6 ?_⟩
  · exact h2.imp id (fun h => h.imp id (fun h => Nat.le_trans hT.size h))
  · exact h3.imp id (fun h => h.imp id (fun h => Nat.le_trans hT.size h))
  · intro b hb
    rcases h4 b hb with h | h
    · exact hV b h
    · exact .inr (Nat.le_trans hT.size h)
  · intro b hb
    exact (h5 b hb).imp id (fun h => Nat.le_trans hT.size h)
  · intro j hj
    simp only [List.mem_cons] at hj ⊢
    rcases hj with h | h | h | h
    · exact .inl (.inl h)
    · exact .inl (.inr (.inl h))
    · exact .inl (.inr (.inr (.inl h)))
    · rcases hV j (by simpa using h) with h | h
      · exact .inl (.inr (.inr (.inr (by simp [h]))))
      · exact .inr h
def writeD (D : DSt) (x : Int) (d : ByteArray) : DSt × Int :=
  if mayE D x ≠ 0 then (D, mayE D x) else if d.size ≠ 256 then (D, 1) else
    let D2 := goesD { D with l := D.l.set x.toNat d, ws := D.ws ++ [(x, d)], many := D.many + 1 }
    if D2.2 = true then ((crashD D2.1 D2.1.keep).1, 14) else (D2.1, 0)

set_option maxHeartbeats 6400000 in
set_option maxRecDepth 100000 in
theorem diskWrite1_calls (a : DiskAt w g bl cl bs cs V K kc D) (harm : D.armed = true → 0 ≤ D.left) (x : Int) (d : ByteArray) (hroom : D.ws.length + D.many + 2 ≤ 1000000000) :
    Calls Try.prog 37 #[.pointer (some ⟨g, 0, none⟩), .agg #[.int .i64 x, .string d]] w fun e w' => e = .returned (.int .i64 (writeD D x d).2) ∧ DiskStep w w' g bl bs V K (writeD D x d).1 := by
  have HA : Box _ := ⟨a⟩
  have hW0 := a.below ((Below.refl w.heap.size w).alloc (Nat.le_refl _) (.cells #[.int .i64 x, .string d] 42))
  have HA0 : Box _ := ⟨hW0⟩
  have HM : Box _ := ⟨diskMay_calls hW0 x⟩
  have HT0 : Box (Touched w (w.alloc (.cells #[.int .i64 x, .string d] 42)) []) := ⟨(Touched.refl w _).alloc _⟩
  clear a hW0
  by_cases h1 : mayE D x = 0
  case neg =>
    have e : writeD D x d = (D, mayE D x) := by rw [writeD, if_pos h1]
    rw [e]
    obtain ⟨r, hr⟩ : ∃ r, mayE D x = r := ⟨_, rfl⟩
    rw [hr] at HM h1 ⊢
    have h1' : (r == 0) = false := by simpa using h1
    clear e hr h1
    go_enter Try.func37, Try.ntmps37
    go_wp2_with fail
    refine HM.out.mono ?_
    rintro e w1 ⟨rfl, rfl⟩
    go_wp2
    go_ret
    exact ⟨rfl, ⟨bl, cl, bs, cs, V, K, kc, HA0.out, .inl rfl, .inl rfl, fun _ h => .inl h, fun _ h => .inl h⟩, HT0.out.mono (by simp)⟩
  by_cases h2 : d.size = 256
  case neg =>
    have e : writeD D x d = (D, 1) := by rw [writeD, if_neg (by simp [h1]), if_pos h2]
    rw [e]
    rw [h1] at HM
    have h2' : ((d.size : Int) == 256) = false := by simpa using (fun h : (d.size : Int) = 256 => h2 (by omega))
    clear e h1 h2
    go_enter Try.func37, Try.ntmps37
    go_wp2_with fail
    refine HM.out.mono ?_
    rintro e w1 ⟨rfl, rfl⟩
    go_wp2
    go_ret
    exact ⟨rfl, ⟨bl, cl, bs, cs, V, K, kc, HA0.out, .inl rfl, .inl rfl, fun _ h => .inl h, fun _ h => .inl h⟩, HT0.out.mono (by simp)⟩
  have hx : D.off = false ∧ 0 ≤ x ∧ x < (D.l.length : Int) := by
    unfold mayE at h1
    split at h1
    · cases h1
    · rename_i ho
      split at h1
      · cases h1
      · rename_i hx
        refine ⟨by simpa using ho, by omega, by omega⟩
  obtain ⟨y, rfl⟩ : ∃ y : Nat, x = (y : Int) := ⟨x.toNat, by omega⟩
  have hy : y < D.l.length := by omega
  have HW : Box (writeD D (y : Int) d = if (goesD { D with l := D.l.set y d, ws := D.ws ++ [((y : Int), d)], many := D.many + 1 }).2 = true then ((crashD (goesD { D with l := D.l.set y d, ws := D.ws ++ [((y : Int), d)], many := D.many + 1 }).1 (goesD { D with l := D.l.set y d, ws := D.ws ++ [((y : Int), d)], many := D.many + 1 }).1.keep).1, 14) else ((goesD { D with l := D.l.set y d, ws := D.ws ++ [((y : Int), d)], many := D.many + 1 }).1, 0)) := ⟨by
    rw [writeD, if_neg (by simp [h1]), if_neg (by simp [h2]), Int.toNat_natCast]⟩
  rw [h1] at HM
  have hd1 : d.size ≤ 256 := by omega
  have hd2 : 256 ≤ d.size := by omega
  clear h1 h2
  go_enter Try.func37, Try.ntmps37
  go_wp2_with fail
  refine HM.out.mono ?_
  rintro e w1 ⟨rfl, rfl⟩
  go_wp2_with fail
  refine (cloneStr_calls d _ (by omega)).mono ?_
  rintro e w2 ⟨rfl, hb2⟩
  have hbw : Below w.heap.size w w2 := Below.trans ((Below.refl _ _).alloc (Nat.le_refl _) _) (hb2.mono (by simp))
  have hbx := heap_alloc_new w (.cells #[.int .i64 (y : Int), .string d] 42)
  have hbx2 : w2.heap[w.heap.size]? = some (.cells #[.int .i64 (y : Int), .string d] 42 (0, 0)) := (hb2.block _ (by simp)).trans hbx
  have x0 : w2.cell? ⟨w.heap.size, 0, none⟩ = some (.int .i64 (y : Int)) := cell_of_row _ _ 0 _ _ (0, 0) hbx2
  have x1 : w2.cell? ⟨w.heap.size, 1, none⟩ = some (.string d) := cell_of_row _ _ 1 _ _ (0, 0) hbx2
  have xf := frozen_of_row _ _ 1 _ _ hbx2
  have hws : w.heap.size < w2.heap.size := World.block_lt_of_cell? w2 _ x0
  have HT2 : Box (Touched w (w2.setCell ⟨w.heap.size, 1, none⟩ (.string d)) []) := ⟨(Touched.of_below hbw []).setCell (.inr (Nat.le_refl _)) _⟩
  have HA2 : Box _ := ⟨HA.out.touched HT2.out (by simp) (by simp) (by simp) (by simp) (by simp)⟩
  have z0 : (w2.setCell ⟨w.heap.size, 1, none⟩ (.string d)).cell? ⟨w.heap.size, 0, none⟩ = some (.int .i64 (y : Int)) := (World.cell?_setCell_other w2 _ _ _ (by simp)).trans x0
  have z1 : (w2.setCell ⟨w.heap.size, 1, none⟩ (.string d)).cell? ⟨w.heap.size, 1, none⟩ = some (.string d) := World.cell?_setCell_same' w2 _ _ (by rw [x1]; simp)
  clear hbx hbx2 hbw hb2
  go_wp2_with fail
  have hWs : (w2.setCell ⟨w.heap.size, 1, none⟩ (.string d)).heap.size = w2.heap.size := by simp [World.setCell]
  obtain ⟨W, hW⟩ : ∃ W, w2.setCell ⟨w.heap.size, 1, none⟩ (.string d) = W := ⟨_, rfl⟩
  rw [hW] at HT2 HA2 z0 z1 hWs ⊢
  clear hW x0 x1 xf
  obtain ⟨g0, _⟩ := HA2.out.fld (i := 0) rfl
  obtain ⟨l0, lf⟩ := HA2.out.ol.cell (j := y) (u := .string D.l[y]) (scells_at (List.getElem?_eq_getElem hy))
  have HA3 := HA2.out.setL hy d
  have HA3b : Box _ := ⟨HA3⟩
  have HLT := HA2.out.lt
  have hbl : bl < w.heap.size := HA.out.lt.2.1
  have hgl : g < w.heap.size := HA.out.lt.1
  have b0 := (World.cell?_setCell_far W ⟨bl, y, none⟩ ⟨g, 0, none⟩ (.string d) (by simp; exact fun e => HA.out.n1 e.symm)).trans g0
  have b1 := (World.cell?_setCell_far W ⟨bl, y, none⟩ ⟨w.heap.size, 0, none⟩ (.string d) (by simp; omega)).trans z0
  have b2 := (World.cell?_setCell_far W ⟨bl, y, none⟩ ⟨w.heap.size, 1, none⟩ (.string d) (by simp; omega)).trans z1
  have HSA : Box _ := ⟨And.intro g0 (And.intro z0 z1)⟩
  have HSB : Box _ := ⟨And.intro b0 (And.intro b1 b2)⟩
  obtain ⟨N, hN⟩ : ∃ N, D.l.length = N := ⟨_, rfl⟩
  have HN : Box _ := ⟨hN⟩
  have e0 : (Value.slice (some ⟨bl, 0, none⟩) D.l.length cl) = .slice (some ⟨bl, 0, none⟩) N cl := by rw [hN]
  simp only [dflds, e0] at g0 HSA HSB
  have j0 : (0 : Int) ≤ (y : Int) := by omega
  have j1 : (y : Int) < (N : Int) := by omega
  clear b0 b1 b2 HA3 HLT hx hN e0
  go_region_held3 (fun w' => w'.cell? ⟨g, 0, none⟩ = some (.slice (some ⟨bl, 0, none⟩) N cl) ∧ w'.cell? ⟨w.heap.size, 0, none⟩ = some (.int .i64 (y : Int)) ∧ w'.cell? ⟨w.heap.size, 1, none⟩ = some (.string d)) ((first | exact HSA.out | exact HSB.out)) (fail)
  all_goals
    go_wp2_with fail
    have HA4 : Box _ := ⟨HA3b.out.1.drew⟩
    have HT4 : Box (Touched w (W.setCell ⟨bl, y, none⟩ (.string d)).drew [bl]) := ⟨((HT2.out.mono (by simp)).trans HA3b.out.2).drew⟩
    have y0 := HSB.out.2.1
    have y1 := HSB.out.2.2
    have y0 : (W.setCell ⟨bl, y, none⟩ (.string d)).drew.cell? ⟨w.heap.size, 0, none⟩ = some (.int .i64 (y : Int)) := y0
    have y1 : (W.setCell ⟨bl, y, none⟩ (.string d)).drew.cell? ⟨w.heap.size, 1, none⟩ = some (.string d) := y1
    obtain ⟨W3, hW3⟩ : ∃ W3, (W.setCell ⟨bl, y, none⟩ (.string d)).drew = W3 := ⟨_, rfl⟩
    rw [hW3] at HA4 HT4 y0 y1 ⊢
    clear hW3 HSA HSB HA3b g0 z0 z1 l0 lf
    obtain ⟨AV, cV, eV, hcV, _, _⟩ := HA4.out.ow.slice
    subst eV
    obtain ⟨q2, f2⟩ := HA4.out.fld (i := 2) rfl
    obtain ⟨n, hn⟩ : ∃ n, D.ws.length = n := ⟨_, rfl⟩
    have HNW : Box _ := ⟨hn⟩
    have HOW : Box (Own W3 0 2 (.slice AV n cV) n (dcells D.ws)) := ⟨by rw [← hn]; exact HA4.out.ow⟩
    have q2' : W3.cell? ⟨g, 2, none⟩ = some (.slice AV n cV) := by rw [← hn]; exact q2
    have hgW : g < W3.heap.size := HA4.out.lt.1
    have q2a : ∀ o : Obj, (W3.alloc o).cell? ⟨g, 2, none⟩ = some (.slice AV n cV) := fun o => (World.cell?_alloc_lt _ _ _ hgW).trans q2'
    have q2b : ∀ o : Obj, (W3.drew.alloc o).cell? ⟨g, 2, none⟩ = some (.slice AV n cV) := fun o => (World.cell?_alloc_lt _ _ _ hgW).trans q2'
    have hn9 : n ≤ 1000000000 := by omega
    have hgV : g ∉ (Value.slice AV n cV).ownBlock.toList := fun h => (HA4.out.n4 g (by rw [hn]; simpa using h)).1 rfl
    obtain ⟨q3, f3⟩ := HA4.out.fld (i := 3) rfl
    have q3 : W3.cell? ⟨g, 3, none⟩ = some (.int .i64 (D.many : Int)) := q3
    have hmany : (D.many : Int) ≤ 1000000000 := by omega
    clear q2 hn
    go_region_law
      (first
        | (refine step_appO el_writes 0 rfl _ _ rfl (v := .slice AV n cV) rfl (by first | exact (HOW.out.alloc _).drew | exact HOW.out.drew.alloc _) (news := dcells [((y : Int), d)]) rfl rfl (by first | exact rowAt_alloc_k W3 [.int .i64 (y : Int), .string d] _ rfl | exact rowAt_alloc_k W3.drew [.int .i64 (y : Int), .string d] _ rfl) (one_dcells _) (by omega) (Nat.zero_le _) ?_; intro v1 w4 ho1 hg1 hp1; obtain ⟨a1, c1, rfl, _, _, _⟩ := ho1.slice; have hT : Touched W3 w4 (Value.slice AV n cV).ownBlock.toList := (by first | exact ((Touched.refl W3 _).alloc _).drew.trans (Touched.of_grown hg1) | exact ((Touched.refl W3 _).drew.alloc _).trans (Touched.of_grown hg1)); have k4 := (hT.cell hgW hgV).trans q2'; have e4 := (hT.free hgW hgV).trans f2; have k3 := (hT.cell hgW hgV).trans q3; have e3 := (hT.free hgW hgV).trans f3; have HT1 : Box _ := ⟨hT⟩; have HW1 : Box _ := ⟨ho1⟩; have HP1 : Box _ := ⟨hp1⟩; clear ho1 hg1 hT hp1))
    all_goals
      go_wp2_with fail
      obtain ⟨HA5, HT5⟩ := HA4.out.grown (w1 := w4) (V1 := .slice a1 (n + 1) c1) (p := ((y : Int), d)) (by rw [HNW.out]; exact HW1.out) (by rw [HNW.out]; exact HT1.out) (by rw [HNW.out]; exact HP1.out.imp id (fun ⟨b, h1, h2⟩ => ⟨b, h1, by simp at h2; omega⟩)) (by simp; omega) hroom
      have hT6 : Touched (w4.setCell ⟨g, 2, none⟩ (.slice a1 (n + 1) c1)) ((w4.setCell ⟨g, 2, none⟩ (.slice a1 (n + 1) c1)).setCell ⟨g, 3, none⟩ (.int .i64 ((D.many : Int) + 1))) [g] := (Touched.refl _ _).setCell (.inl (by simp)) _
      have HA6 : DiskAt ((w4.setCell ⟨g, 2, none⟩ (.slice a1 (n + 1) c1)).setCell ⟨g, 3, none⟩ (.int .i64 ((D.many : Int) + 1))) g bl cl bs cs (.slice a1 (n + 1) c1) K kc { D with l := D.l.set y d, ws := D.ws ++ [((y : Int), d)], many := D.many + 1 } := by
        have hb := HA5.big
        refine DiskAt.refield hT6 ?_ HA5.ol HA5.os HA5.ls HA5.ow HA5.rk HA5.kn HA5.kl HA5.n1 HA5.n2 HA5.n3 HA5.n4 HA5.n5 HA5.kb HA5.pos ⟨hb.1, hb.2.1, ?_, hb.2.2.2.1, hb.2.2.2.2⟩ HA5.inv
        · exact (HA5.of.set 3 (by simp [dflds]) (.int .i64 ((D.many : Int) + 1))).1
        · show (D.ws ++ [((y : Int), d)]).length + (D.many + 1) ≤ 1000000000
          rw [List.length_append]; simp; omega
      have hTT : Touched w ((w4.setCell ⟨g, 2, none⟩ (.slice a1 (n + 1) c1)).setCell ⟨g, 3, none⟩ (.int .i64 ((D.many : Int) + 1))) (g :: bl :: bs :: (Value.slice AV n cV).ownBlock.toList) := by
        refine ((HT4.out.mono (fun q hq _ => by simp at hq; simp [hq])).trans (HT5.mono (fun q hq _ => ?_))).trans (hT6.mono (fun q hq _ => by simp at hq; simp [hq]))
        rw [HNW.out] at hq
        rcases List.mem_cons.1 hq with h | h
        · simp [h]
        · simp only [List.mem_cons]; exact .inr (.inr (.inr h))
      have hVV : ∀ b, (Value.slice a1 (n + 1) c1).ownBlock = some b → (Value.slice AV n cV).ownBlock = some b ∨ w.heap.size ≤ b := by
        intro b hb
        rcases HP1.out with h | ⟨b', h, h'⟩
        · exact .inl (by rw [← h]; exact hb)
        · rw [h] at hb
          injection hb with hb
          have := HT4.out.size
          simp at h'
          exact .inr (by omega)
      have HA6b : Box _ := ⟨HA6⟩
      have HTTb : Box _ := ⟨hTT⟩
      have HVVb : Box _ := ⟨hVV⟩
      clear HA5 HT5 hT6 HA6 hTT hVV k3 e3 k4 e4
      obtain ⟨D6, hD6⟩ : ∃ D6 : DSt, ({ D with l := D.l.set y d, ws := D.ws ++ [((y : Int), d)], many := D.many + 1 } : DSt) = D6 := ⟨_, rfl⟩
      have h6a : D6.armed = D.armed := by rw [← hD6]
      have h6b : D6.left = D.left := by rw [← hD6]
      rw [hD6] at HA6b HW
      clear hD6
      obtain ⟨W6, hW6⟩ : ∃ W6, ((w4.setCell ⟨g, 2, none⟩ (.slice a1 (n + 1) c1)).setCell ⟨g, 3, none⟩ (.int .i64 ((D.many : Int) + 1))) = W6 := ⟨_, rfl⟩
      simp only [hW6] at HA6b HTTb ⊢
      clear hW6
      first
        | refine Calls.mono (diskGoes_calls HA6b.out (by rw [h6a, h6b]; exact harm)) ?_
        | refine Calls.mono (diskGoes_calls HA6b.out.drew (by rw [h6a, h6b]; exact harm)) ?_
      rintro e w7 ⟨rfl, ha7, ht7⟩
      have HA7 : Box _ := ⟨ha7⟩
      have HT7 : Box (Touched w w7 (g :: bl :: bs :: (Value.slice AV n cV).ownBlock.toList)) := ⟨by
        first
          | exact HTTb.out.trans (ht7.mono (fun q hq _ => by simp at hq; simp [hq]))
          | exact HTTb.out.drew.trans (ht7.mono (fun q hq _ => by simp at hq; simp [hq]))⟩
      clear ha7 ht7
      obtain ⟨G, hG⟩ : ∃ G, goesD D6 = G := ⟨_, rfl⟩
      rw [hG] at HA7 HW ⊢
      clear hG
      obtain ⟨b, hb⟩ : ∃ b, G.2 = b := ⟨_, rfl⟩
      rw [hb] at HW ⊢
      clear hb
      cases b
      · rw [if_neg (by simp)] at HW
        go_wp2_with fail
        go_ret
        rw [HW.out]
        exact ⟨rfl, by rw [HNW.out]; exact DiskStep.of HA7.out HT7.out HVVb.out⟩
      · rw [if_pos rfl] at HW
        obtain ⟨q7, _⟩ := HA7.out.fld (i := 7) rfl
        have q7 : w7.cell? ⟨g, 7, none⟩ = some (.slice K G.1.keep.length kc) := q7
        have HC : Box _ := ⟨diskCrash_calls HA7.out K G.1.keep.length kc G.1.keep rfl HA7.out.big.2.1 (fun w' hT => row_touched HA7.out.rk hT (HA7.out.n5.elim .inl fun ⟨b, hb, _, _, h, _⟩ => .inr ⟨b, hb, by simpa using h⟩))⟩
        go_wp2_with fail
        refine Calls.mono HC.out ?_
        rintro e w8 ⟨rfl, hs8⟩
        have HS8 : Box _ := ⟨DiskStep.after HT7.out HVVb.out hs8⟩
        clear hs8
        go_wp2_with fail
        go_ret
        rw [HW.out]
        exact ⟨rfl, by rw [HNW.out]; exact HS8.out⟩
end
end Go.Proofs.Ytbnkmndgfmmiaaa
