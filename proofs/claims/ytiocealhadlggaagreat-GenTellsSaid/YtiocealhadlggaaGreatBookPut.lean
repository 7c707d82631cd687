/- A Book's lists of spans: marks are written over all of them. -/
import Derived.Test.YtiocealhadlggaaGreatBookAt
import Derived.Test.YtiocealhadlggaaGreatBundle2
namespace Go.Proofs.YtiocealhadlggaaGreat
open Go.RowKit
set_option linter.unusedVariables false

/-- A Book's lists alone, and what they hold. -/
structure BookV (w : World) (base g : Nat) (S : Value) (N : Nat) (vs : List Value) (lf : Nat → List (Int × Int)) : Prop where
  gb : base ≤ g
  c4 : w.cell? ⟨g, 4, none⟩ = some S
  hS : Own w base 1 S N vs
  sg : S.ownBlock ≠ some g
  hv : ∀ i, i < N → (lf i).length ≤ 1000000 ∧ ∃ v, vs[i]? = some v ∧ Own w base 2 v (lf i).length (pcells (lf i)) ∧ ∀ b, v.ownBlock = some b → b ≠ g ∧ S.ownBlock ≠ some b
  vd : ∀ (i j : Nat) (v v' : Value) (b : Nat), i ≠ j → vs[i]? = some v → vs[j]? = some v' → v.ownBlock = some b → v'.ownBlock ≠ some b
/-- The blocks of the lists. -/
def vblocks (vs : List Value) : List Nat := vs.filterMap Value.ownBlock
theorem mem_vblocks {vs : List Value} {b : Nat} : b ∈ vblocks vs ↔ ∃ v ∈ vs, v.ownBlock = some b := by simp [vblocks]
section
variable {w w' : World} {base g N : Nat} {S : Value} {vs : List Value} {lf : Nat → List (Int × Int)}
theorem BookV.vlen (h : BookV w base g S N vs lf) : vs.length = N := by have := h.hS.1; omega
theorem BookV.gl (h : BookV w base g S N vs lf) : g < w.heap.size := cell_lt2 h.c4
theorem BookAt.v {T : Value} {us : List Value} {ls : List (List (Int × Int))} (h : BookAt w base g S T vs us ls) : BookV w base g S ls.length vs (fun i => (ls[i]?).getD []) := by
  refine ⟨h.gb, h.c4, h.hS, h.sg, fun i hi => ?_, h.vd⟩
  obtain ⟨l, hl⟩ : ∃ l, ls[i]? = some l := ⟨ls[i], List.getElem?_eq_getElem hi⟩
  obtain ⟨a, v, hv, ho, hd⟩ := h.hv i l hl
  simp only [hl, Option.getD_some]
  exact ⟨a, v, hv, ho, fun b hb => ⟨(hd b hb).1, (hd b hb).2.1⟩⟩
/-- One list's block was written. -/
theorem BookV.one {k m : Nat} {v : Value} {l' : List (Int × Int)} {bs : List Nat} (h : BookV w base g S N vs lf) (hk : k < N) (hv : vs[k]? = some v) (hT : Touched w w' bs) (hb : ∀ b ∈ bs, v.ownBlock = some b) (ho : Own w' base 2 v m (pcells l')) (hm : l'.length = m) (hl : m ≤ 1000000) : BookV w' base g S N vs (fun i => if i = k then l' else lf i) := by
  obtain ⟨_, v0, hv0, ho0, hd0⟩ := h.hv k hk
  have hvv : v0 = v := by rw [hv] at hv0; injection hv0 with e; exact e.symm
  rw [hvv] at hd0 ho0
  have hgl := h.gl
  refine ⟨h.gb, (hT.cell hgl (fun hm => (hd0 _ (hb _ hm)).1 rfl)).trans h.c4, hT.own h.hS (fun b hb1 hm => (hd0 _ (hb _ hm)).2 hb1), h.sg, fun i hi => ?_, h.vd⟩
  by_cases e : i = k
  · subst e
    simp only [if_true, hm]
    exact ⟨hl, v, hv, ho, hd0⟩
  · simp only [if_neg e]
    obtain ⟨a, x, hx, hox, hdx⟩ := h.hv i hi
    exact ⟨a, x, hx, hT.own hox (fun b hb1 hm => h.vd i k x v b e hx hv hb1 (hb _ hm)), hdx⟩
theorem BookV.congr {lf' : Nat → List (Int × Int)} (h : BookV w base g S N vs lf) (he : ∀ i, i < N → lf i = lf' i) : BookV w base g S N vs lf' := by
  refine ⟨h.gb, h.c4, h.hS, h.sg, fun i hi => ?_, h.vd⟩
  rw [← he i hi]; exact h.hv i hi
theorem BookV.touched {bs : List Nat} (h : BookV w base g S N vs lf) (hT : Touched w w' bs) (h1 : g ∉ bs) (h2 : ∀ b ∈ bs, S.ownBlock ≠ some b) (h3 : ∀ v ∈ vs, ∀ b ∈ bs, v.ownBlock ≠ some b) : BookV w' base g S N vs lf := by
  refine ⟨h.gb, (hT.cell h.gl h1).trans h.c4, hT.own h.hS (fun b hb hm => h2 b hm hb), h.sg, fun i hi => ?_, h.vd⟩
  obtain ⟨a, x, hx, hox, hdx⟩ := h.hv i hi
  exact ⟨a, x, hx, hT.own hox (fun b hb hm => h3 x (List.mem_of_getElem? hx) b hm hb), hdx⟩
theorem BookV.below (h : BookV w base g S N vs lf) (hb : Below w.heap.size w w') : BookV w' base g S N vs lf := h.touched (Touched.of_below hb []) (by simp) (by simp) (by simp)
end
theorem pcells_set2 {l : List (Int × Int)} {k : Nat} (p : Int × Int) : ((pcells l).set (k * 2) (.int .i64 p.1)).set (k * 2 + 1) (.int .i64 p.2) = pcells (l.set k p) := by
  induction l generalizing k with
  | nil => simp [pcells]
  | cons q l ih =>
    cases k with
    | zero => simp [pcells_cons]
    | succ k =>
      have := ih (k := k)
      rw [show (k + 1) * 2 = k * 2 + 1 + 1 from by omega]
      simpa [pcells_cons] using this
/-- The first j of a list are marks already. -/
def marksTo (i j : Nat) (l : List (Int × Int)) : List (Int × Int) := marksP i 0 j ++ l.drop j
theorem marksTo_length (i j : Nat) (l : List (Int × Int)) (h : j ≤ l.length) : (marksTo i j l).length = l.length := by simp [marksTo, marksP_length]; omega
theorem marksTo_zero (i : Nat) (l : List (Int × Int)) : marksTo i 0 l = l := by simp [marksTo, marksP]
theorem marksTo_all (i : Nat) (l : List (Int × Int)) : marksTo i l.length l = marksP i 0 l.length := by simp [marksTo]
theorem marksTo_set (i j : Nat) (l : List (Int × Int)) (h : j < l.length) : (marksTo i j l).set j (-1000 * (i : Int) - (j : Int) - 1, 0) = marksTo i (j + 1) l := by
  rw [marksTo, marksTo, marksP_snoc, List.set_append_right _ _ (by simp [marksP_length]), marksP_length, Nat.sub_self, List.drop_eq_getElem_cons h, List.set_cons_zero]
  simp
theorem marksP_at (i n j : Nat) (h : j < n) : (marksP i 0 n)[j]? = some (-1000 * (i : Int) - (j : Int) - 1, 0) := by
  simp [marksP, h]
set_option maxHeartbeats 3200000 in
set_option maxRecDepth 100000 in
theorem putSpans_calls (g base N : Nat) (S : Value) (vs : List Value) (lf : Nat → List (Int × Int)) (w : World) (hN : N ≤ 1000) (h : BookV w base g S N vs lf) :
    Calls Tryz.prog 36 #[.pointer (some ⟨g, 0, none⟩)] w fun e w' => e = .returned (.tuple #[]) ∧ BookV w' base g S N vs (fun i => marksP i 0 (lf i).length) ∧ Touched w w' (vblocks vs) := by
  obtain ⟨AS, cS, rfl, hcS, hrS, _⟩ := h.hS.slice
  have hc4 := h.c4
  have HB := Lib.hid h
  clear h hrS
  go_enter Tryz.func36, Tryz.ntmps36
  go_wp2
  go_loopw [2] (fun i wr => ∃ k : Nat, k ≤ N ∧ i = .int .i64 k ∧ Hid (BookV wr base g (.slice AS N cS) N vs (fun i => if i < k then marksP i 0 (lf i).length else lf i)) ∧ Hid (Touched w wr (vblocks vs))) (fun i _ => N - (intOf i).toNat)
  case atStart => exact ⟨0, Nat.zero_le _, rfl, by simpa [Hid] using HB.out, Touched.refl _ _⟩
  case round =>
    obtain ⟨k, hk, rfl, HK, HT⟩ := hrel
    clear hc4
    have c4 := HK.out.c4
    by_cases hlt : k < N
    · obtain ⟨_, _, eS, _, hrS, _⟩ := HK.out.hS.slice
      injection eS with eS1 _ _
      subst eS1
      obtain ⟨hlm, v, hv, ho, hd⟩ := HK.out.hv k hlt
      simp only [Nat.lt_irrefl, if_false] at hlm ho
      obtain ⟨n, hn⟩ : ∃ n, (lf k).length = n := ⟨_, rfl⟩
      have HN := Lib.hid hn
      rw [hn] at hlm ho
      obtain ⟨A', c', rfl, hcn, hr', _⟩ := ho.slice
      obtain ⟨b1, o1, rfl, hb1, s1⟩ := hrS.addr (by intro e; rw [e] at hv; simp at hv)
      have t1 := s1 k _ hv
      have HVk := Lib.hid hv
      obtain ⟨wr0, hwr0⟩ : ∃ x, wr.heap.size = x := ⟨_, rfl⟩
      have HWr0 := Lib.hid hwr0
      clear hwr0
      have HVb : Hid (∀ b, (Value.slice A' n c').ownBlock = some b → b < wr0) := fun b hb => by rw [← HWr0.out]; exact (ho.lt b hb).2
      have HM := Lib.hid (fun W => markSpans_calls k 0 n W (by omega) (by omega) hlm)
      clear ho hr' s1 hrS hd hv hn
      have j1 : (0 : Int) ≤ (k : Int) := by omega
      have j2 : (k : Int) < (N : Int) := by omega
      go_wp2_with fail
      refine Calls.mono (HM.out _) ?_
      rintro e w2 ⟨m, rfl, hownm, hb2⟩
      obtain ⟨B, d, rfl, _, _, _⟩ := hownm.slice
      have HO2 : Hid (Own w2 wr0 2 (.slice B n d) n (pcells (marksP k 0 n))) := by rw [Hid, ← HWr0.out]; exact hownm
      have HB2 := Lib.hid hb2
      have HV2 := Lib.hid (HK.out.below hb2)
      have HT2 := Lib.hid (HT.out.trans (Touched.of_below hb2 _))
      clear hownm hb2
      go_wp2
      go_loopw [4] (fun i wi => ∃ j : Nat, j ≤ n ∧ i = .int .i64 j ∧ Hid (BookV wi base g (.slice (some ⟨b1, o1, none⟩) N cS) N vs (fun i => if i = k then marksTo k j (lf k) else if i < k then marksP i 0 (lf i).length else lf i)) ∧ Hid (Touched w wi (vblocks vs)) ∧ Hid (Own wi wr0 2 (.slice B n d) n (pcells (marksP k 0 n)))) (fun i _ => n - (intOf i).toNat)
      case atStart =>
        refine ⟨0, Nat.zero_le _, rfl, HV2.out.congr (fun i hi => ?_), HT2.out, HO2.out⟩
        by_cases e : i = k
        · subst e; simp [marksTo_zero]
        · simp [e]
      case round =>
        obtain ⟨j, hj, rfl, HK3, HT3, HO3⟩ := hrel
        by_cases hjt : j < n
        · obtain ⟨_, v', hv', ho', hdd⟩ := HK3.out.hv k hlt
          rw [HVk.out] at hv'
          injection hv' with hv'
          subst hv'
          simp only [if_true] at ho'
          have hlen : (marksTo k j (lf k)).length = n := by rw [marksTo_length _ _ _ (by rw [HN.out]; omega), HN.out]
          rw [hlen] at ho'
          obtain ⟨b2, c2, e2, hb2, hbl2, hc2, hr2⟩ := ho'.form (by omega)
          injection e2 with e2 _ e3
          subst e2 e3
          obtain ⟨b3, c3, e3, hb3, hbl3, hc3, hr3⟩ := HO3.out.form (by omega)
          injection e3 with e3 _ e4
          subst e3 e4
          have hm := marksP_at k n j hjt
          obtain ⟨p1, p2⟩ := pcells_at hm
          have d1 := (HO3.out.cell p1).1
          have d2 := (HO3.out.cell p2).1
          obtain ⟨_, _, eS, _, hrS, _⟩ := HK3.out.hS.slice
          injection eS with eS1 _ _
          subst eS1
          obtain ⟨b1', o1', e1, _, s1⟩ := hrS.addr (by intro e; rw [e] at HVk; have := HVk.out; simp at this)
          injection e1 with e1
          injection e1 with e1 e1' _
          subst e1 e1'
          have t2 := s1 k _ HVk.out
          have c42 := HK3.out.c4
          obtain ⟨q, hq⟩ : ∃ q, (marksTo k j (lf k))[j]? = some q := some_at (by omega)
          obtain ⟨q1, q2⟩ := pcells_at hq
          obtain ⟨x1, y1⟩ := ho'.cell q1
          obtain ⟨x2, y2⟩ := ho'.cell q2
          have HHo := Lib.hid ho'
          have HLn := Lib.hid hlen
          clear ho' hr2 hr3 p1 p2 q1 q2 hq hm s1 hrS hlen c4 t1
          have z1 : (0 : Int) ≤ (j : Int) := by omega
          have z2 : (j : Int) < (n : Int) := by omega
          go_wp2_with fail
          have W1 := Touched.setCell (a := ⟨b2, j * 2, none⟩) (Touched.refl wr [b2]) (.inl (by simp)) (.int .i64 (-1000 * (k : Int) - (j : Int) - 1))
          have W2 := Lib.hid (Touched.setCell (a := ⟨b2, j * 2 + 1, none⟩) W1 (.inl (by simp)) (.int .i64 0)).drew
          have n1 : g ∉ [b2] := by simp; intro e; exact (hdd b2 rfl).1 e.symm
          have n2 : b1 ∉ [b2] := by simp; intro e; exact (hdd b2 rfl).2 (by rw [← e]; rfl)
          have n3 : b3 ∉ [b2] := by simp; intro e; have := HVb.out b2 rfl; omega
          have g1 := (W2.out.cell (j := 4) HK3.out.gl n1).trans c42
          have g2 := (W2.out.cell (j := o1 + k) (cell_lt2 t2) n2).trans t2
          have g3 := (W2.out.cell (j := j * 2) hbl3 n3).trans d1
          have g4 := (W2.out.cell (j := j * 2 + 1) hbl3 n3).trans d2
          have HHo2 : Hid (Own ((wr.setCell ⟨b2, j * 2, none⟩ (.int .i64 (-1000 * (k : Int) - (j : Int) - 1))).setCell ⟨b2, j * 2 + 1, none⟩ (.int .i64 0)).drew base 2 (.slice (some ⟨b2, 0, none⟩) n c') n (pcells (marksTo k (j + 1) (lf k)))) := by
            have u1 := (HHo.out.set (j * 2) (by rw [pcells_length, HLn.out]; omega) (.int .i64 (-1000 * (k : Int) - (j : Int) - 1))).1
            have u2 := (u1.set (j * 2 + 1) (by rw [List.length_set, pcells_length, HLn.out]; omega) (.int .i64 0)).1
            have e := pcells_set2 (l := marksTo k j (lf k)) (k := j) (-1000 * (k : Int) - (j : Int) - 1, 0)
            rw [marksTo_set k j (lf k) (by rw [HN.out]; exact hjt)] at e
            rw [← e]
            exact u2.drew
          have HVV : Hid (BookV _ base g (.slice (some ⟨b1, o1, none⟩) N cS) N vs (fun i => if i = k then marksTo k (j + 1) (lf k) else if i < k then marksP i 0 (lf i).length else lf i)) := (HK3.out.one (l' := marksTo k (j + 1) (lf k)) hlt HVk.out W2.out (by intro b hb; simp at hb; rw [hb]; rfl) HHo2.out (by rw [marksTo_length _ _ _ (by rw [HN.out]; omega), HN.out]) hlm).congr (fun i hi => by by_cases e : i = k <;> simp [e])
          have HTT : Hid (Touched w _ (vblocks vs)) := HT3.out.trans (W2.out.mono (by intro b hb _; simp at hb; rw [hb]; exact mem_vblocks.2 ⟨_, List.mem_of_getElem? HVk.out, rfl⟩))
          have HOO : Hid (Own _ wr0 2 (.slice (some ⟨b3, 0, none⟩) n d) n (pcells (marksP k 0 n))) := W2.out.own HO3.out (by intro b hb hm; injection hb with hb; rw [← hb] at hm; exact n3 hm)
          clear n1 n2 n3 W1 hdd
          go_region_held3 (fun w' => w'.cell? ⟨g, 4, none⟩ = some (.slice (some ⟨b1, o1, none⟩) N cS) ∧ w'.cell? ⟨b1, o1 + k, none⟩ = some (.slice (some ⟨b2, 0, none⟩) n c') ∧ w'.cell? ⟨b3, j * 2, none⟩ = some (.int .i64 (-1000 * (k : Int) - (j : Int) - 1)) ∧ w'.cell? ⟨b3, j * 2 + 1, none⟩ = some (.int .i64 0)) (first | exact ⟨c42, t2, d1, d2⟩ | exact ⟨g1, g2, g3, g4⟩) (fail)
          go_wp2
          go_roundw
          case rel => exact ⟨j + 1, by omega, by go_num, HVV, HTT, HOO⟩
          case measure => simp [intOf]; omega
        · obtain rfl : j = n := by omega
          have HVE : Hid (BookV wr base g (.slice (some ⟨b1, o1, none⟩) N cS) N vs (fun i => if i < k + 1 then marksP i 0 (lf i).length else lf i)) := HK3.out.congr (fun i hi => by
            by_cases e : i = k
            · subst e
              have := marksTo_all i (lf i)
              rw [HN.out] at this
              simp [this, HN.out]
            · by_cases e2 : i < k
              · simp [e, e2, show i < k + 1 by omega]
              · simp [e, e2, show ¬ i < k + 1 by omega])
          go_wp2
          go_roundw
          case rel => exact ⟨k + 1, by omega, by go_num, HVE, HT3⟩
          case measure => simp [intOf]; omega
    · obtain rfl : k = N := by omega
      go_wp2
      go_end0
      exact ⟨rfl, HK.out.congr (fun i hi => by simp [hi]), HT.out⟩
end Go.Proofs.YtiocealhadlggaaGreat
