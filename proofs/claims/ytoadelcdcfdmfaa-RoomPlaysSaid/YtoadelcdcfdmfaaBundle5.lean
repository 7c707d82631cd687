/- Words and contracts that this claim leans on, one text behind the other. -/
import Derived.Test.YtoadelcdcfdmfaaBundle4
import Derived.Test.YtoadelcdcfdmfaaBundle1
import Derived.Test.YtoadelcdcfdmfaaMix
import Derived.Test.YtoadelcdcfdmfaaBundle2
import Derived.Test.YtoadelcdcfdmfaaBundle3
import Derived.Deep.RegionHeldLaw
import Derived.Deep.RegionLaw
/- (Numbers.) A Book's lists of spans grow, one by one and by many, each into a list of its own. -/
namespace Go.Proofs.Ytoadelcdcfdmfaa
open Go.RowKit
set_option linter.unusedVariables false

theorem row_free {w w' : World} {A : Option Addr} {xs : List Value} {bs : List Nat} {n c : Nat} (h : RowAt w A xs) (hT : Touched w w' bs) (hA : ∀ b, (Value.slice A n c).ownBlock = some b → b ∉ bs) : RowAt w' A xs := by
  rcases h with h | ⟨ad, e, hc⟩
  · exact .inl h
  · subst e
    refine .inr ⟨ad, rfl, fun j u hj => ?_⟩
    have hcj := hc j u hj
    have hl := World.block_lt_of_cell? w _ hcj
    have hb : (ad.add j).block = ad.block := by unfold Addr.add; split <;> rfl
    rw [hb] at hl
    rw [World.cell?_of_block (w := w) (a := ad.add j) (by rw [hb]; exact hT.block _ hl (hA _ rfl))]
    exact hcj
/-- One list that grows: l, beside the list v that it was. -/
structure GrowL (wr wi : World) (base : Nat) (v l : Value) (k n m : Nat) : Prop where
  own : Own wi base 1 l (n + m) (icells (marksI k 0 (n + m)))
  blk : ∀ b, l.ownBlock = some b → v.ownBlock = some b ∨ wr.heap.size ≤ b
  row : ∀ A c, v = .slice A n c → RowAt wi A (icells (marksI k 0 n))
  t : Touched wr wi v.ownBlock.toList
theorem GrowL.zero {wr : World} {base : Nat} {v : Value} {k n : Nat} (h : Own wr base 1 v n (icells (marksI k 0 n))) : GrowL wr wr base v v k n 0 :=
  ⟨h, fun b hb => .inl hb, fun A c e => by subst e; obtain ⟨_, _, e, _, hr, _⟩ := h.slice; injection e with e; subst e; exact hr, Touched.refl _ _⟩
theorem GrowL.below {wr wi w2 : World} {base : Nat} {v l : Value} {k n m : Nat} (h : GrowL wr wi base v l k n m) (hb : Below wi.heap.size wi w2) : GrowL wr w2 base v l k n m :=
  ⟨h.own.below hb, h.blk, fun A c e => (h.row A c e).below hb, h.t.trans (Touched.of_below hb _)⟩
theorem GrowL.step {wr wi w3 : World} {base : Nat} {v l l' : Value} {k n m j : Nat} (h : GrowL wr wi base v l k n m) (hv : Own wr base 1 v n (icells (marksI k 0 n)))
    (ho : Own w3 base 1 l' (n + m + j) (icells (marksI k 0 (n + m)) ++ icells (marksI k (n + m) j))) (hg : wi.grownBy w3 l.ownBlock) (hblk : l'.ownBlock = l.ownBlock ∨ ∃ b, l'.ownBlock = some b ∧ wi.heap.size ≤ b)
    (hrow : ∀ A c, l = .slice A (n + m) c → RowAt w3 A (icells (marksI k 0 (n + m)))) : GrowL wr w3 base v l' k n (m + j) := by
  have hs := h.t.size
  refine ⟨?_, fun b hb => ?_, fun A c e => ?_, ?_⟩
  · rw [show n + (m + j) = n + m + j by omega, marksI_append k 0 (n + m) j, icells_app, Nat.zero_add]
    exact ho
  · rcases hblk with e | ⟨b', e, hb'⟩
    · exact h.blk b (e.symm.trans hb)
    · rw [e] at hb; injection hb with hb; exact .inr (by omega)
  · subst e
    by_cases he : (Value.slice A n c).ownBlock = l.ownBlock
    · obtain ⟨A', c', e', _, hr', hz⟩ := h.own.slice
      subst e'
      have hr3 := hrow _ _ rfl
      rw [marksI_append k 0 n m, icells_app] at hr3
      have hr3 := hr3.left
      obtain ⟨A2, c2, e2, _, _, hz2⟩ := hv.slice
      injection e2 with e2 _ e3
      subst e2 e3
      rcases hv.2 with ⟨h1, _⟩ | ⟨g1, c1, h1, _⟩
      · injection h1 with _ h1; subst h1
        exact .inl (by simp [marksI, icells])
      · rcases h.own.2 with ⟨h2, _⟩ | ⟨g2, c2, h2, _⟩
        · injection h2 with h2a; subst h2a
          injection h1 with h1a; subst h1a
          simp [Value.ownBlock] at he
        · injection h2 with h2a; subst h2a
          injection h1 with h1a; subst h1a
          have : g1 = g2 := by injection he
          subst this
          exact hr3
    · refine row_free (n := n) (c := c) (h.row A c rfl) (Touched.of_grown hg) (fun b hb hm => he ?_)
      rw [hb]
      exact (by simpa using hm : l.ownBlock = some b).symm
  · refine h.t.trans' (Touched.of_grown hg) (fun b hb => ?_)
    have hb : l.ownBlock = some b := by simpa using hb
    rcases h.blk b hb with e | e
    · exact .inl (by simp [e])
    · exact .inr e
/-- All lists, k of them grown. -/
structure GrowO (w wr : World) (base : Nat) (N : Nat) (vs : List Value) (ns : Nat → Nat) (k : Nat) (o : Value) (gs : List Value) : Prop where
  t : Touched w wr (vblocks vs)
  own : Own wr w.heap.size 1 o k gs
  done : ∀ i, i < k → ∃ A c v', vs[i]? = some (.slice A (ns i) c) ∧ RowAt wr A (icells (marksI i 0 (ns i))) ∧ gs[i]? = some v' ∧ Own wr base 1 v' (ns i + 72) (icells (marksI i 0 (ns i + 72))) ∧ ∀ b, v'.ownBlock = some b → ((Value.slice A (ns i) c).ownBlock = some b ∨ w.heap.size ≤ b) ∧ o.ownBlock ≠ some b
  togo : ∀ i, k ≤ i → i < N → ∃ v, vs[i]? = some v ∧ Own wr base 1 v (ns i) (icells (marksI i 0 (ns i)))
theorem BookV.grow0 {w : World} {base g N : Nat} {S : Value} {vs : List Value} {ns : Nat → Nat} (h : BookV w base g S N vs (fun i => marksI i 0 (ns i))) : GrowO w w base N vs ns 0 (.slice none 0 0) [] := by
  refine ⟨Touched.refl _ _, Own.nil _ _ _, fun i hi => absurd hi (by omega), fun i _ hi => ?_⟩
  obtain ⟨_, v, hv, ho, _⟩ := h.hv i hi
  simp only [marksI_length] at ho
  exact ⟨v, hv, ho⟩
theorem GrowO.round {w wr w3 w5 : World} {base g N k : Nat} {S o o' v l' : Value} {vs gs : List Value} {ns : Nat → Nat} (hB : BookV w base g S N vs (fun i => marksI i 0 (ns i))) (h : GrowO w wr base N vs ns k o gs) (hk : k < N) (hv : vs[k]? = some v)
    (hL : GrowL wr w3 base v l' k (ns k) 72) (ho : Own w5 w.heap.size 1 o' (k + 1) (gs ++ [l'])) (t : TypeId) (hg : (w3.alloc (.cells #[l'] t)).grownBy w5 o.ownBlock) (hblk : o'.ownBlock = o.ownBlock ∨ ∃ b, o'.ownBlock = some b ∧ w3.heap.size ≤ b) : GrowO w w5 base N vs ns (k + 1) o' (gs ++ [l']) := by
  have hs1 := h.t.size
  have hs2 := hL.t.size
  have hT3 : Touched w w3 (vblocks vs) := h.t.trans (hL.t.mono (fun b hb _ => mem_vblocks.2 ⟨v, List.mem_of_getElem? hv, by simpa using hb⟩))
  have hT5 : Touched w3 w5 o.ownBlock.toList := ((Touched.refl w3 _).alloc _).trans (Touched.of_grown hg)
  have hol : ∀ b, o.ownBlock = some b → w.heap.size ≤ b ∧ b < wr.heap.size := fun b hb => h.own.lt b hb
  obtain ⟨_, v0, hv0, ho0, _⟩ := hB.hv k hk
  have hvv : v0 = v := by rw [hv] at hv0; injection hv0 with e; exact e.symm
  subst hvv
  have hvl : ∀ i x b, i < N → vs[i]? = some x → x.ownBlock = some b → b < w.heap.size := by
    intro i x b hi hx hb
    obtain ⟨_, v1, hv1, ho1, _⟩ := hB.hv i hi
    rw [hx] at hv1; injection hv1 with e; subst e
    exact (ho1.lt b hb).2
  have hoc : ∀ b, o'.ownBlock = some b → o.ownBlock = some b ∨ w3.heap.size ≤ b := by
    intro b hb
    rcases hblk with e | ⟨b', e, hb'⟩
    · exact .inl (e.symm.trans hb)
    · rw [e] at hb; injection hb with hb; exact .inr (by omega)
  have htr : Touched wr w5 (v0.ownBlock.toList ++ o.ownBlock.toList) := (hL.t.mono (fun b hb _ => List.mem_append_left _ hb)).trans (hT5.mono (fun b hb _ => List.mem_append_right _ hb))
  refine ⟨hT3.trans' hT5 (fun b hb => .inr (hol b (by simpa using hb)).1), ho, fun i hi => ?_, fun i hi hiN => ?_⟩
  · rcases Nat.lt_or_ge i k with hik | hik
    · obtain ⟨A, c, v', h1, h2, h3, h4, h5⟩ := h.done i hik
      have hgi : (gs ++ [l'])[i]? = some v' := append_old h3
      refine ⟨A, c, v', h1, row_free (n := ns i) (c := c) h2 htr (fun b hb hm => ?_), hgi, htr.own h4 (fun b hb hm => ?_), fun b hb => ⟨(h5 b hb).1, fun e => ?_⟩⟩
      · have := hvl i _ b (by omega) h1 hb
        simp at hm
        rcases hm with hm | hm
        · exact hB.vd i k _ _ b (by omega) h1 hv hb hm
        · have := (hol b hm).1; omega
      · simp at hm
        rcases hm with hm | hm
        · rcases (h5 b hb).1 with e | e
          · exact hB.vd i k _ _ b (by omega) h1 hv e hm
          · have := hvl k _ b hk hv hm; omega
        · exact (h5 b hb).2 hm
      · rcases hoc b e with e | e
        · exact (h5 b hb).2 e
        · have := (h4.lt b hb).2; omega
    · obtain rfl : i = k := by omega
      obtain ⟨A, c, e, _, _, _⟩ := ho0.slice
      simp only [marksI_length] at e
      subst e
      have hgl : gs.length = i := by have := h.own.1; omega
      refine ⟨A, c, l', hv, row_free (n := ns i) (c := c) (hL.row A c rfl) hT5 (fun b hb hm => ?_), by rw [← hgl]; exact append_new gs l', hT5.own hL.own (fun b hb hm => ?_), fun b hb => ⟨?_, fun e => ?_⟩⟩
      · have := hvl i _ b hk hv hb
        have := (hol b (by simpa using hm)).1; omega
      · have hm2 := hol b (by simpa using hm)
        rcases hL.blk b hb with e | e
        · have := hvl i _ b hk hv e; omega
        · omega
      · rcases hL.blk b hb with e | e
        · exact .inl e
        · exact .inr (by omega)
      · have := (hL.own.lt b hb).2
        rcases hoc b e with e | e
        · have hm2 := hol b e
          rcases hL.blk b hb with e | e
          · have := hvl i _ b hk hv e; omega
          · omega
        · omega
  · obtain ⟨x, hx, hox⟩ := h.togo i (by omega) hiN
    refine ⟨x, hx, htr.own hox (fun b hb hm => ?_)⟩
    simp at hm
    rcases hm with hm | hm
    · exact hB.vd i k x _ b (by omega) hx hv hb hm
    · have := hvl i x b hiN hx hb; have := (hol b hm).1; omega

/-- What growing says. -/
structure Grown (w w' : World) (base g : Nat) (S : Value) (N : Nat) (vs : List Value) (ns : Nat → Nat) (o : Value) : Prop where
  t : Touched w w' (vblocks vs)
  ex : ∃ gs, Own w' w.heap.size 1 o N gs ∧ ∀ i, i < N → ∃ A c A' c', vs[i]? = some (.slice A (ns i) c) ∧ RowAt w' A (icells (marksI i 0 (ns i))) ∧ gs[i]? = some (.slice A' (ns i + 72) c') ∧ RowAt w' A' (icells (marksI i 0 (ns i + 72)))
theorem GrowO.end {w w' : World} {base g N : Nat} {S o : Value} {vs gs : List Value} {ns : Nat → Nat} (h : GrowO w w' base N vs ns N o gs) : Grown w w' base g S N vs ns o := by
  refine ⟨h.t, gs, h.own, fun i hi => ?_⟩
  obtain ⟨A, c, v', h1, h2, h3, h4, _⟩ := h.done i hi
  obtain ⟨A', c', e, _, hr, _⟩ := h4.slice
  subst e
  exact ⟨A, c, A', c', h1, h2, h3, hr⟩
set_option maxHeartbeats 3200000 in
set_option maxRecDepth 100000 in
theorem growInts_calls (g base N : Nat) (S : Value) (vs : List Value) (ns : Nat → Nat) (w : World) (hN : N ≤ 250) (hn : ∀ i, i < N → ns i ≤ 100000) (h : BookV w base g S N vs (fun i => marksI i 0 (ns i))) :
    Calls Try.prog 61 #[.pointer (some ⟨g, 0, none⟩)] w fun e w' => ∃ o, e = .returned o ∧ Grown w w' base g S N vs ns o := by
  obtain ⟨AS, cS, rfl, hcS, hrS, _⟩ := h.hS.slice
  have hc4 := h.c4
  have HB := Lib.hid h
  have HNs := Lib.hid hn
  clear h hrS hn
  go_enter Try.func61, Try.ntmps61
  go_wp2
  go_loopw [3, 4] (fun o i wr => ∃ k gs, k ≤ N ∧ i = .int .i64 (k : Nat) ∧ Hid (GrowO w wr base N vs ns k o gs)) (fun _ i _ => N - (intOf i).toNat)
  case atStart => exact ⟨0, [], Nat.zero_le _, rfl, HB.out.grow0⟩
  case round =>
    obtain ⟨k, gs, hk, rfl, HG⟩ := hrel
    clear hc4
    have HBk : Hid (wr.cell? ⟨g, 2, none⟩ = some (.slice AS N cS) ∧ Own wr base 1 (.slice AS N cS) N vs) := by
      have hh : ∀ b, b ∈ vblocks vs → b ≠ g ∧ (Value.slice AS N cS).ownBlock ≠ some b := by
        intro b hb
        obtain ⟨v, hv, e⟩ := mem_vblocks.1 hb
        obtain ⟨i, hi, hx⟩ := List.getElem_of_mem hv
        have hi' : vs[i]? = some v := by rw [List.getElem?_eq_getElem hi, hx]
        obtain ⟨_, v1, hv1, _, hd⟩ := HB.out.hv i (by rw [HB.out.vlen] at hi; exact hi)
        rw [hi'] at hv1; injection hv1 with e1; subst e1
        exact hd b e
      exact ⟨(HG.out.t.cell HB.out.gl (fun hm => (hh g hm).1 rfl)).trans HB.out.c4, HG.out.t.own HB.out.hS (fun b hb hm => (hh b hm).2 hb)⟩
    have c4 := HBk.out.1
    by_cases hlt : k < N
    · obtain ⟨v, hv, ho⟩ := HG.out.togo k (Nat.le_refl _) hlt
      obtain ⟨n, hnk⟩ : ∃ n, ns k = n := ⟨_, rfl⟩
      have hnm := HNs.out k hlt
      have HNk := Lib.hid hnk
      rw [hnk] at ho hnm
      obtain ⟨A', c', rfl, hcn, hr', _⟩ := ho.slice
      obtain ⟨_, _, eS, _, hrS, _⟩ := HBk.out.2.slice
      injection eS with eS1 _ _
      subst eS1
      obtain ⟨b1, o1, rfl, hb1, s1⟩ := hrS.addr (by intro e; rw [e] at hv; simp at hv)
      have t1 := s1 k _ hv
      have HVk := Lib.hid hv
      have HV := Lib.hid ho
      have HM := Lib.hid (fun W (f j : Nat) (hf : f ≤ 1000000) (hj : j ≤ 1000000) => markInts_calls k f j W (by omega) hf hj)
      clear ho hr' s1 hrS hv hnk
      have j1 : (0 : Int) ≤ (k : Int) := by omega
      have j2 : (k : Int) < (N : Int) := by omega
      go_wp2
      go_loopw [5, 6] (fun l x wi => ∃ m : Nat, m ≤ 12 ∧ x = .int .i64 m ∧ Hid (GrowL wr wi base (.slice A' n c') l k n m)) (fun _ x _ => 12 - (intOf x).toNat)
      case atStart => exact ⟨0, Nat.zero_le _, rfl, GrowL.zero HV.out⟩
      case round =>
        obtain ⟨m, hm, rfl, HL⟩ := hrel
        by_cases hmt : m < 12
        · obtain ⟨Al, cl, rfl, _, _, _⟩ := HL.out.own.slice
          go_wp2_with fail
          refine Calls.mono (HM.out _ (n + m) 1 (by omega) (by omega)) ?_
          rintro e w2 ⟨x, rfl, hownx, hb2⟩
          obtain ⟨B, d, rfl, _, hrx, _⟩ := hownx.slice
          have HL2 := Lib.hid (HL.out.below hb2)
          have HZ2 : Hid (base ≤ w2.heap.size) := by have := HB.out.gb; have := HB.out.gl; have := HG.out.t.size; have := HL2.out.t.size; rw [Hid]; omega
          clear hownx hb2
          go_wp2_with (at_builtin; refine appO2 el_ints1 base rfl _ _ rfl rfl HL2.out.own (news := icells (marksI k (n + m) 1)) rfl (by rw [icells_len1, marksI_length]) hrx (one_icells _) (by omega) HZ2.out ?_; intro l' w3 ho3 hg3 hk3 hr3 _; have HL3 := Lib.hid (GrowL.step HL2.out HV.out ho3 hg3 hk3 (fun A c e => hr3 A c e)); clear ho3 hg3 hk3 hr3 hrx)
          go_roundw
          case rel => exact ⟨m + 1, by omega, by go_num, HL3⟩
          case measure => simp [intOf]; omega
        · obtain rfl : m = 12 := by omega
          obtain ⟨Al, cl, rfl, _, _, _⟩ := HL.out.own.slice
          obtain ⟨Ao, co, rfl, _, _, _⟩ := HG.out.own.slice
          go_wp2_with fail
          refine Calls.mono (HM.out _ (n + 12) 60 (by omega) (by omega)) ?_
          rintro e w2 ⟨x, rfl, hownx, hb2⟩
          obtain ⟨B, d, rfl, _, hrx, _⟩ := hownx.slice
          have HL2 := Lib.hid (HL.out.below hb2)
          have HZ2 : Hid (base ≤ w2.heap.size) := by have := HB.out.gb; have := HB.out.gl; have := HG.out.t.size; have := HL2.out.t.size; rw [Hid]; omega
          clear hownx hb2
          go_wp2_with (at_builtin; first
            | (refine appO2 el_ints1 base rfl _ _ rfl rfl HL2.out.own (news := icells (marksI k (n + 12) 60)) rfl (by rw [icells_len1, marksI_length]) hrx (one_icells _) (by omega) HZ2.out ?_; intro l' w3 ho3 hg3 hk3 hr3 _; obtain ⟨A3, c3, rfl, _, _, _⟩ := ho3.slice; have HL3 := Lib.hid (GrowL.step HL2.out HV.out ho3 hg3 hk3 (fun A c e => hr3 A c e)); clear ho3 hg3 hk3 hr3 hrx; have HO3 : Hid (Own w3 w.heap.size 1 (.slice Ao k co) k gs) := HL3.out.t.own HG.out.own (by
                intro b hb hm
                have h1 := HG.out.own.lt b hb
                have h2 : (Value.slice A' n c').ownBlock = some b := by simpa using hm
                obtain ⟨_, v1, hv1, ho1, _⟩ := HB.out.hv k hlt
                rw [HVk.out] at hv1; injection hv1 with e1; subst e1
                have := (ho1.lt b h2).2; omega))
            | (refine appO el_ilists w.heap.size rfl _ _ rfl rfl (HO3.out.alloc _) (news := [.slice A3 (n + 12 + 60) c3]) rfl rfl (rowAt_alloc _ [.slice A3 (n + 12 + 60) c3] _) (by intro u hu; simp at hu; subst hu; rfl) (by omega) (by have := HG.out.t.size; have := HL3.out.t.size; simp; omega) ?_; intro o' w5 ho5 hg5 hk5; have HO5 := Lib.hid (GrowO.round HB.out HG.out hlt HVk.out (by rw [HNk.out]; exact HL3.out) ho5 _ hg5 (hk5.imp id (fun ⟨b, h1, h2⟩ => ⟨b, h1, by simp at h2; omega⟩))); clear ho5 hg5 hk5))
          go_roundw
          case rel => exact ⟨k + 1, _, by omega, by go_num, HO5⟩
          case measure => simp [intOf]; omega
    · obtain rfl : k = N := by omega
      go_wp2
      go_ret
      exact ⟨_, rfl, HG.out.end⟩
end Go.Proofs.Ytoadelcdcfdmfaa

/- (*Book).Apart, of a Book that keeps lists of spans. -/
namespace Go.Proofs.Ytoadelcdcfdmfaa
open Go.RowKit
set_option linter.unusedVariables false

theorem BookAt.ins {w : World} {base g : Nat} {S T : Value} {vs us : List Value} {ls : List (List Int)} (h : BookAt w base g S T vs us ls) : ∀ (i : Nat) (l : List Int), ls[i]? = some l → ∃ (A' : Option Addr) (c' : Nat) (B' : Option Addr) (d' : Nat), vs[i]? = some (Value.slice A' l.length c') ∧ us[i]? = some (Value.slice B' l.length d') ∧ l.length ≤ 4000000000000000000 ∧ RowAt w A' (icells l) ∧ RowAt w B' (icells l) := by
  intro i l hl
  obtain ⟨a, v, hv, ho, _⟩ := h.hv i l hl
  obtain ⟨u, hu, ho2, _⟩ := h.hu i l hl
  obtain ⟨A, c, e, _, hr, _⟩ := ho.slice
  obtain ⟨B, d, e2, _, hr2, _⟩ := ho2.slice
  subst e e2
  exact ⟨A, c, B, d, hv, hu, by omega, hr, hr2⟩
theorem BookAt.vfree {w : World} {base g : Nat} {S T : Value} {vs us : List Value} {ls : List (List Int)} (h : BookAt w base g S T vs us ls) : ∀ b ∈ vblocks vs, b ≠ g ∧ S.ownBlock ≠ some b ∧ T.ownBlock ≠ some b := by
  intro b hb
  obtain ⟨v, hv, e⟩ := mem_vblocks.1 hb
  obtain ⟨i, hi, hx⟩ := List.getElem_of_mem hv
  have hi' : vs[i]? = some v := by rw [List.getElem?_eq_getElem hi, hx]
  have hil : i < ls.length := by rw [← h.vlen]; exact hi
  obtain ⟨_, v1, hv1, _, hd⟩ := h.hv i _ (List.getElem?_eq_getElem hil)
  rw [hi'] at hv1; injection hv1 with e1; subst e1
  exact hd b e
theorem getD_len {ls : List (List Int)} {B : Nat} (h : ∀ l ∈ ls, l.length ≤ B) (i : Nat) (hi : i < ls.length) : ((ls[i]?).getD []).length ≤ B := by
  rw [List.getElem?_eq_getElem hi]
  exact h _ (List.getElem_mem hi)
set_option maxHeartbeats 6400000 in
set_option maxRecDepth 100000 in
theorem apart_calls (g base : Nat) (S T : Value) (vs us : List Value) (ls : List (List Int)) (w : World) (hN : ls.length ≤ 250) (hM : ∀ l ∈ ls, l.length ≤ 100000) (h : BookAt w base g S T vs us ls) :
    Calls Try.prog 25 #[.pointer (some ⟨g, 0, none⟩)] w fun e w' => e = .returned (.bool true) ∧ Touched w w' (vblocks vs) := by
  have HB := Lib.hid h
  have HM := Lib.hid hM
  obtain ⟨N, hNN⟩ : ∃ N, ls.length = N := ⟨_, rfl⟩
  have HN := Lib.hid hNN
  rw [hNN] at hN
  obtain ⟨AS, cS, eS, _, _, _⟩ := h.hS.slice
  obtain ⟨AT, cT, eT, _, _, _⟩ := h.hT.slice
  rw [hNN] at eS eT
  subst eS eT
  clear h hM hNN
  have HVF := Lib.hid HB.out.vfree
  obtain ⟨ns, hns⟩ : ∃ ns : Nat → Nat, (fun i => ((ls[i]?).getD []).length) = ns := ⟨_, rfl⟩
  have HNS := Lib.hid hns
  clear hns
  have HNM : Hid (∀ i, i < N → ns i ≤ 100000) := fun i hi => by rw [← HNS.out]; exact getD_len HM.out i (by rw [HN.out]; exact hi)
  have n0 : w.cell? ⟨g, 0, none⟩ = some (.slice none 0 0) := HB.out.nil 0 (by omega) (by omega) (by omega)
  have n4 : w.cell? ⟨g, 4, none⟩ = some (.slice none 0 0) := HB.out.nil 4 (by omega) (by omega) (by omega)
  have n6 : w.cell? ⟨g, 6, none⟩ = some (.slice none 0 0) := HB.out.nil 6 (by omega) (by omega) (by omega)
  have n8 : w.cell? ⟨g, 8, none⟩ = some (.slice none 0 0) := HB.out.nil 8 (by omega) (by omega) (by omega)
  have n10 : w.cell? ⟨g, 10, none⟩ = some (.slice none 0 0) := HB.out.nil 10 (by omega) (by omega) (by omega)
  have n12 : w.cell? ⟨g, 12, none⟩ = some (.slice none 0 0) := HB.out.nil 12 (by omega) (by omega) (by omega)
  have n14 : w.cell? ⟨g, 14, none⟩ = some (.slice none 0 0) := HB.out.nil 14 (by omega) (by omega) (by omega)
  go_enter Try.func25, Try.ntmps25
  go_wp2_with fail
  refine Calls.mono (stillTexts_nil g w n0) ?_
  rintro e _ ⟨rfl, rfl⟩
  go_wp2_with fail
  refine Calls.mono (stillInts_calls g AS AT cS cT N vs us ls w (by omega) HN.out HB.out.c4 HB.out.c5 (by obtain ⟨_, _, e, _, hr, _⟩ := HB.out.hS.slice; injection e with e) (by obtain ⟨_, _, e, _, hr, _⟩ := HB.out.hT.slice; injection e with e) HB.out.ins) ?_
  rintro e w1 ⟨rfl, hb1⟩
  have HB1 := Lib.hid (HB.out.below hb1)
  have HT1 := Lib.hid (Touched.of_below hb1 (vblocks vs))
  clear hb1 n0 n4 n6 n8 n10 n12 n14
  have n0 : w1.cell? ⟨g, 0, none⟩ = some (.slice none 0 0) := HB1.out.nil 0 (by omega) (by omega) (by omega)
  have n4 : w1.cell? ⟨g, 4, none⟩ = some (.slice none 0 0) := HB1.out.nil 4 (by omega) (by omega) (by omega)
  have n6 : w1.cell? ⟨g, 6, none⟩ = some (.slice none 0 0) := HB1.out.nil 6 (by omega) (by omega) (by omega)
  have n8 : w1.cell? ⟨g, 8, none⟩ = some (.slice none 0 0) := HB1.out.nil 8 (by omega) (by omega) (by omega)
  have n10 : w1.cell? ⟨g, 10, none⟩ = some (.slice none 0 0) := HB1.out.nil 10 (by omega) (by omega) (by omega)
  have n12 : w1.cell? ⟨g, 12, none⟩ = some (.slice none 0 0) := HB1.out.nil 12 (by omega) (by omega) (by omega)
  have n14 : w1.cell? ⟨g, 14, none⟩ = some (.slice none 0 0) := HB1.out.nil 14 (by omega) (by omega) (by omega)
  go_wp2_with fail
  refine Calls.mono (stillSpans_nil g w1 n4) ?_
  rintro e _ ⟨rfl, rfl⟩
  go_wp2_with fail
  refine Calls.mono (stillPieces_nil g w1 n6) ?_
  rintro e _ ⟨rfl, rfl⟩
  go_wp2_with fail
  refine Calls.mono (stillEntries_nil g w1 n8) ?_
  rintro e _ ⟨rfl, rfl⟩
  go_wp2_with fail
  refine Calls.mono (stillObjects_nil g w1 n10) ?_
  rintro e _ ⟨rfl, rfl⟩
  go_wp2_with fail
  refine Calls.mono (stillWrites_nil g w1 n12) ?_
  rintro e _ ⟨rfl, rfl⟩
  go_wp2_with fail
  refine Calls.mono (stillSteps_nil g w1 n14) ?_
  rintro e _ ⟨rfl, rfl⟩
  go_wp2_with fail
  refine Calls.mono (putSteps_nil g w1 n14) ?_
  rintro e _ ⟨rfl, rfl⟩
  go_wp2_with fail
  refine Calls.mono (putTexts_nil g w1 n0) ?_
  rintro e _ ⟨rfl, rfl⟩
  go_wp2_with fail
  refine Calls.mono (putInts_calls g base N _ vs (fun i => (ls[i]?).getD []) w1 (by omega) (by have := HB1.out.v; rw [HN.out] at this; exact this)) ?_
  rintro e w2 ⟨rfl, hv2, ht2⟩
  have HV2 : Hid (BookV w2 base g (.slice AS N cS) N vs (fun i => marksI i 0 (ns i))) := by rw [Hid, ← HNS.out]; exact hv2
  have HT2 := Lib.hid (HT1.out.trans ht2)
  have HNL : Hid (∀ j, j < 16 → j ≠ 2 → j ≠ 3 → w2.cell? ⟨g, j, none⟩ = some (.slice none 0 0)) := fun j hj a b => (ht2.cell (j := j) HB1.out.gl (fun hm => (HVF.out g hm).1 rfl)).trans (HB1.out.nil j hj a b)
  clear hv2 ht2 n0 n4 n6 n8 n10 n12 n14
  have n0 : w2.cell? ⟨g, 0, none⟩ = some (.slice none 0 0) := HNL.out 0 (by omega) (by omega) (by omega)
  have n4 : w2.cell? ⟨g, 4, none⟩ = some (.slice none 0 0) := HNL.out 4 (by omega) (by omega) (by omega)
  have n6 : w2.cell? ⟨g, 6, none⟩ = some (.slice none 0 0) := HNL.out 6 (by omega) (by omega) (by omega)
  have n8 : w2.cell? ⟨g, 8, none⟩ = some (.slice none 0 0) := HNL.out 8 (by omega) (by omega) (by omega)
  have n10 : w2.cell? ⟨g, 10, none⟩ = some (.slice none 0 0) := HNL.out 10 (by omega) (by omega) (by omega)
  have n12 : w2.cell? ⟨g, 12, none⟩ = some (.slice none 0 0) := HNL.out 12 (by omega) (by omega) (by omega)
  have n14 : w2.cell? ⟨g, 14, none⟩ = some (.slice none 0 0) := HNL.out 14 (by omega) (by omega) (by omega)
  go_wp2_with fail
  refine Calls.mono (putSpans_nil g w2 n4) ?_
  rintro e _ ⟨rfl, rfl⟩
  go_wp2_with fail
  refine Calls.mono (putPieces_nil g w2 n6) ?_
  rintro e _ ⟨rfl, rfl⟩
  go_wp2_with fail
  refine Calls.mono (putEntries_nil g w2 n8) ?_
  rintro e _ ⟨rfl, rfl⟩
  go_wp2_with fail
  refine Calls.mono (putObjects_nil g w2 n10) ?_
  rintro e _ ⟨rfl, rfl⟩
  go_wp2_with fail
  refine Calls.mono (putWrites_nil g w2 n12) ?_
  rintro e _ ⟨rfl, rfl⟩
  go_wp2_with fail
  refine Calls.mono (growTexts_nil g w2 n0) ?_
  rintro e _ ⟨rfl, rfl⟩
  go_wp2_with fail
  refine Calls.mono (growInts_calls g base N _ vs ns w2 hN HNM.out HV2.out) ?_
  rintro e w3 ⟨o, rfl, hg3⟩
  have HG := Lib.hid hg3
  have HT3 := Lib.hid (HT2.out.trans hg3.t)
  have HNL3 : Hid (∀ j, j < 16 → j ≠ 2 → j ≠ 3 → w3.cell? ⟨g, j, none⟩ = some (.slice none 0 0)) := fun j hj a b => (hg3.t.cell (j := j) HV2.out.gl (fun hm => (HVF.out g hm).1 rfl)).trans (HNL.out j hj a b)
  have n2 : w3.cell? ⟨g, 2, none⟩ = some (.slice AS N cS) := (hg3.t.cell HV2.out.gl (fun hm => (HVF.out g hm).1 rfl)).trans HV2.out.c4
  obtain ⟨gs, hgo, hgi⟩ := hg3.ex
  have HSr : Hid (RowAt w3 AS vs) := by
    have := hg3.t.own HV2.out.hS (fun b hb hm => (HVF.out b hm).2.1 hb)
    obtain ⟨_, _, e, _, hr, _⟩ := this.slice
    injection e with e; subst e; exact hr
  obtain ⟨AG, cG, rfl, _, hrG, _⟩ := hgo.slice
  have HRG := Lib.hid hrG
  have HGI := Lib.hid hgi
  clear hrG hgi hgo hg3 n0 n4 n6 n8 n10 n12 n14
  have n0 : w3.cell? ⟨g, 0, none⟩ = some (.slice none 0 0) := HNL3.out 0 (by omega) (by omega) (by omega)
  have n4 : w3.cell? ⟨g, 4, none⟩ = some (.slice none 0 0) := HNL3.out 4 (by omega) (by omega) (by omega)
  have n6 : w3.cell? ⟨g, 6, none⟩ = some (.slice none 0 0) := HNL3.out 6 (by omega) (by omega) (by omega)
  have n8 : w3.cell? ⟨g, 8, none⟩ = some (.slice none 0 0) := HNL3.out 8 (by omega) (by omega) (by omega)
  have n10 : w3.cell? ⟨g, 10, none⟩ = some (.slice none 0 0) := HNL3.out 10 (by omega) (by omega) (by omega)
  have n12 : w3.cell? ⟨g, 12, none⟩ = some (.slice none 0 0) := HNL3.out 12 (by omega) (by omega) (by omega)
  have n14 : w3.cell? ⟨g, 14, none⟩ = some (.slice none 0 0) := HNL3.out 14 (by omega) (by omega) (by omega)
  go_wp2_with fail
  refine Calls.mono (growSpans_nil g w3 n4) ?_
  rintro e _ ⟨rfl, rfl⟩
  go_wp2_with fail
  refine Calls.mono (growPieces_nil g w3 n6) ?_
  rintro e _ ⟨rfl, rfl⟩
  go_wp2_with fail
  refine Calls.mono (growEntries_nil g w3 n8) ?_
  rintro e _ ⟨rfl, rfl⟩
  go_wp2_with fail
  refine Calls.mono (growObjects_nil g w3 n10) ?_
  rintro e _ ⟨rfl, rfl⟩
  go_wp2_with fail
  refine Calls.mono (growWrites_nil g w3 n12) ?_
  rintro e _ ⟨rfl, rfl⟩
  go_wp2_with fail
  refine Calls.mono (growSteps_nil g w3 n14) ?_
  rintro e _ ⟨rfl, rfl⟩
  have HX1 : Hid (∀ W, Below w3.heap.size w3 W → Calls Try.prog 69 #[.slice AG N cG] W fun e w' => e = .returned (.bool true) ∧ Below W.heap.size W w') := by
    intro W hb
    refine markedInts_calls AG cG N gs ((List.range N).map fun i => ns i + 72) W (by omega) (by simp) (HRG.out.below hb) (fun i n hn => ?_)
    have hi : i < N := by have := (List.getElem?_eq_some_iff.1 hn).1; simpa using this
    obtain ⟨A, c, A', c', h1, h2, h3, h4⟩ := HGI.out i hi
    simp [hi] at hn
    subst hn
    exact ⟨A', c', h3, by have := HNM.out i hi; omega, h4.below hb⟩
  have HX2 : Hid (∀ W, Below w3.heap.size w3 W → Calls Try.prog 69 #[.slice AS N cS] W fun e w' => e = .returned (.bool true) ∧ Below W.heap.size W w') := by
    intro W hb
    refine markedInts_calls AS cS N vs ((List.range N).map fun i => ns i) W (by omega) (by simp) (HSr.out.below hb) (fun i n hn => ?_)
    have hi : i < N := by have := (List.getElem?_eq_some_iff.1 hn).1; simpa using this
    obtain ⟨A, c, A', c', h1, h2, h3, h4⟩ := HGI.out i hi
    simp [hi] at hn
    subst hn
    exact ⟨A, c, h1, by have := HNM.out i hi; omega, h2.below hb⟩
  go_wp2_with fail
  refine Calls.mono (markedTexts_nil w3) ?_
  rintro e _ ⟨rfl, rfl⟩
  go_wp2_with fail
  refine Calls.mono (markedTexts_nil w3) ?_
  rintro e _ ⟨rfl, rfl⟩
  go_wp2_with fail
  refine Calls.mono (HX1.out _ (Below.refl _ _)) ?_
  rintro e w4 ⟨rfl, hb4⟩
  have HB4 := Lib.hid hb4
  replace n0 := cell_kept hb4 (Nat.le_refl _) n0
  replace n2 := cell_kept hb4 (Nat.le_refl _) n2
  replace n4 := cell_kept hb4 (Nat.le_refl _) n4
  replace n6 := cell_kept hb4 (Nat.le_refl _) n6
  replace n8 := cell_kept hb4 (Nat.le_refl _) n8
  replace n10 := cell_kept hb4 (Nat.le_refl _) n10
  replace n12 := cell_kept hb4 (Nat.le_refl _) n12
  replace n14 := cell_kept hb4 (Nat.le_refl _) n14
  clear hb4
  go_wp2_with fail
  refine Calls.mono (HX2.out _ HB4.out) ?_
  rintro e w5 ⟨rfl, hb5⟩
  have HB5 := Lib.hid (HB4.out.trans (hb5.mono HB4.out.size))
  replace n0 := cell_kept hb5 (Nat.le_refl _) n0
  replace n2 := cell_kept hb5 (Nat.le_refl _) n2
  replace n4 := cell_kept hb5 (Nat.le_refl _) n4
  replace n6 := cell_kept hb5 (Nat.le_refl _) n6
  replace n8 := cell_kept hb5 (Nat.le_refl _) n8
  replace n10 := cell_kept hb5 (Nat.le_refl _) n10
  replace n12 := cell_kept hb5 (Nat.le_refl _) n12
  replace n14 := cell_kept hb5 (Nat.le_refl _) n14
  clear hb5
  go_wp2_with fail
  refine Calls.mono (markedSpans_nil w5) ?_
  rintro e _ ⟨rfl, rfl⟩
  go_wp2_with fail
  refine Calls.mono (markedSpans_nil w5) ?_
  rintro e _ ⟨rfl, rfl⟩
  go_wp2_with fail
  refine Calls.mono (markedPieces_nil w5) ?_
  rintro e _ ⟨rfl, rfl⟩
  go_wp2_with fail
  refine Calls.mono (markedPieces_nil w5) ?_
  rintro e _ ⟨rfl, rfl⟩
  go_wp2_with fail
  refine Calls.mono (markedEntries_nil w5) ?_
  rintro e _ ⟨rfl, rfl⟩
  go_wp2_with fail
  refine Calls.mono (markedEntries_nil w5) ?_
  rintro e _ ⟨rfl, rfl⟩
  go_wp2_with fail
  refine Calls.mono (markedObjects_nil w5) ?_
  rintro e _ ⟨rfl, rfl⟩
  go_wp2_with fail
  refine Calls.mono (markedObjects_nil w5) ?_
  rintro e _ ⟨rfl, rfl⟩
  go_wp2_with fail
  refine Calls.mono (markedWrites_nil w5) ?_
  rintro e _ ⟨rfl, rfl⟩
  go_wp2_with fail
  refine Calls.mono (markedWrites_nil w5) ?_
  rintro e _ ⟨rfl, rfl⟩
  go_wp2_with fail
  refine Calls.mono (markedSteps_nil w5) ?_
  rintro e _ ⟨rfl, rfl⟩
  go_wp2_with fail
  refine Calls.mono (markedSteps_nil w5) ?_
  rintro e _ ⟨rfl, rfl⟩
  go_wp2
  go_ret
  exact ⟨rfl, HT3.out.trans (Touched.of_below HB5.out _)⟩
end Go.Proofs.Ytoadelcdcfdmfaa


/- (Numbers.) masonrybook.LentInts, StaysInts: a list with room behind it, in which a mark stands. -/
namespace Go.Proofs.Ytoadelcdcfdmfaa
open Go.RowKit
set_option linter.unusedVariables false

set_option maxHeartbeats 800000 in
set_option maxRecDepth 100000 in
theorem lentInts_calls (A : Option Addr) (n c : Nat) (l : List Int) (w : World) (hl : l.length = n) (hn : (n + 1) * 8 ≤ 140737488351232) (hR : RowAt w A (icells l)) :
    Calls Try.prog 5 #[.slice A n c] w fun e w' => ∃ g cap, e = .returned (.slice (some ⟨g, 0, none⟩) n cap) ∧ n + 1 ≤ cap ∧ RowAt w' (some ⟨g, 0, none⟩) (icells l ++ [.int .i64 (-77)]) ∧ Below w.heap.size w w' ∧ w.heap.size ≤ g := by
  go_enter Try.func5, Try.ntmps5
  go_wp2_with fail
  refine (copyInts_calls A n c l w hl (by omega) hR).mono ?_
  rintro e w1 ⟨v1, rfl, hown1, hb1⟩
  have HO := Lib.hid hown1
  have HB := Lib.hid hb1
  obtain ⟨A1, c1, rfl, _, _, _⟩ := hown1.slice
  clear hR hown1 hb1
  have hz : w.heap.size ≤ w1.heap.size := HB.out.size
  go_wp2_with (at_builtin; refine appO el_ints1 w.heap.size rfl _ _ rfl rfl (HO.out.alloc _) (news := [.int .i64 (-77)]) rfl rfl (rowAt_alloc w1 [.int .i64 (-77)] _) (one_int _) (by omega) (by simp; omega) ?_; intro v2 w2 hown2 hg2 _; obtain ⟨g, cap, rfl, hgb, _, hcap, hrow⟩ := hown2.form (by omega); have HR2 := Lib.hid hrow; have HG : Hid (Below w.heap.size w w2) := Own.grown_below (HO.out.alloc _) (HB.out.alloc hz _) hg2 (Nat.le_refl _); clear hown2 hg2 hrow)
  go_ret
  exact ⟨g, cap, rfl, hcap, HR2.out, HG.out, hgb⟩

set_option maxHeartbeats 800000 in
theorem staysInts_calls (g : Nat) (B : Option Addr) (n c d : Nat) (l : List Int) (w : World) (hl : l.length = n) (hn : n ≤ 1000000) (hc : n + 1 ≤ c) (hR : RowAt w (some ⟨g, 0, none⟩) (icells l ++ [.int .i64 (-77)])) (hS : RowAt w B (icells l)) :
    Calls Try.prog 8 #[.slice (some ⟨g, 0, none⟩) n c, .slice B n d] w fun e w' => e = .returned (.bool true) ∧ Below w.heap.size w w' := by
  have hcell := row_cell hR (j := n) (u := .int .i64 (-77)) (by rw [List.getElem?_append_right (by rw [icells_len1, hl]; omega), icells_len1, hl, Nat.mul_one, Nat.sub_self]; rfl)
  have HC := sameInts_calls (some ⟨g, 0, none⟩) B n n c d l l w hl hl (by omega) hR.left hS
  have hb : decide (l = l) = true := decide_eq_true rfl
  rw [hb] at HC
  have HCC := Lib.hid HC
  clear HC hb hR hS
  have y1 := IntWalk.i64_in ((n : Int) + 1) (by omega)
  go_enter Try.func8, Try.ntmps8
  go_wp2_with fail
  refine Calls.mono HCC.out ?_
  rintro e w1 ⟨rfl, hb1⟩
  replace hcell := cell_kept hb1 (Nat.le_refl _) hcell
  have HB := Lib.hid hb1
  clear hb1 HCC
  go_wp2
  go_ret
  exact ⟨rfl, HB.out⟩
end Go.Proofs.Ytoadelcdcfdmfaa

/- Arrays of words in memory of the call's own. -/
namespace Go.Proofs.Ytoadelcdcfdmfaa
open Go.RowKit
set_option linter.unusedVariables false

theorem Own.range0 {w : World} {base n cap g : Nat} {xs : List Value} (h : Own w base 1 (.slice (some ⟨g, 0, none⟩) n cap) n xs) : w.rangeAt g 0 xs := fun j v hv => by
  rw [Nat.zero_add]; exact (h.cell hv).1
theorem Own.there0 {w : World} {base n cap g : Nat} {xs : List Value} (h : Own w base 1 (.slice (some ⟨g, 0, none⟩) n cap) n xs) : w.there g 0 n := fun j hj => by
  have hl : j < xs.length := by rw [h.1]; omega
  rw [Nat.zero_add]
  have := h.cell (List.getElem?_eq_getElem hl)
  exact ⟨by rw [this.1]; rfl, this.2⟩
theorem Own.all {w : World} {base n g : Nat} {xs : List Value} (h : Own w base 1 (.slice (some ⟨g, 0, none⟩) n n) n xs) (ys : List Value) (hy : ys.length = n) : Own (w.setCells g 0 ys) base 1 (.slice (some ⟨g, 0, none⟩) n n) n ys := by
  have ht := h.there0
  rcases h.2 with ⟨h2, _⟩ | ⟨g', cap', h2, hb, hl, hn, hm, hc, hx⟩
  · simp at h2
  · simp at h2
    obtain ⟨rfl, rfl⟩ := h2
    refine ⟨by omega, .inr ⟨g, n, rfl, hb, Nat.lt_of_lt_of_le hl (grownBy_setCells g _ _ w).size, Nat.le_refl _, hm, fun j hj => ?_, fun j u hu => ?_⟩⟩
    · refine ⟨?_, by rw [World.frozen?_setCells]; exact (hc j hj).2⟩
      have := World.cell?_setCells_in g ys 0 w (fun i hi => (ht i (by omega)).1) j (by omega)
      rw [Nat.zero_add] at this
      rw [this]; rfl
    · have hjl := (List.getElem?_eq_some_iff.1 hu).1
      have := World.cell?_setCells_in g ys 0 w (fun i hi => (ht i (by omega)).1) j hjl
      rw [Nat.zero_add] at this
      rw [this, ← hu, List.getElem?_eq_getElem hjl]
theorem wcells_length (l : List (BitVec 32)) : (wcells l).length = l.length := by simp [wcells]
theorem all_wcells (l : List (BitVec 32)) : (wcells l).toArray.all (·.oneCell') = true := all_oneCell_toArray (one_wcells l)

structure ArrAt (w wr : World) (n : Nat) (f : Nat → BitVec 32) : Prop where
  bel : Below w.heap.size w wr
  or : Own wr w.heap.size 1 (.slice (some ⟨w.heap.size, 0, none⟩) n n) n (fw (fun _ => 0) n)
  ow : Own wr w.heap.size 1 (.slice (some ⟨w.heap.size + 1, 0, none⟩) n n) n (fw f n)
theorem ArrAt.drew {w wr : World} {n : Nat} {f : Nat → BitVec 32} (a : ArrAt w wr n f) : ArrAt w wr.drew n f := ⟨⟨a.bel.os, a.bel.tape, a.bel.output, a.bel.size, a.bel.block⟩, a.or, a.ow⟩
theorem ArrAt.drewN {w wr : World} {n : Nat} {f : Nat → BitVec 32} (a : ArrAt w wr n f) (k : Nat) : ArrAt w (wr.drewN k) n f := ⟨⟨a.bel.os, a.bel.tape, a.bel.output, a.bel.size, a.bel.block⟩, a.or, a.ow⟩
theorem ArrAt.congr {w wr : World} {n : Nat} {f g : Nat → BitVec 32} (a : ArrAt w wr n f) (e : ∀ j, j < n → f j = g j) : ArrAt w wr n g := ⟨a.bel, a.or, by rw [← fw_congr e]; exact a.ow⟩
theorem ArrAt.set {w wr : World} {n : Nat} {f : Nat → BitVec 32} (a : ArrAt w wr n f) (k : Nat) (hk : k < n) (x : BitVec 32) : ArrAt w (wr.setCell ⟨w.heap.size + 1, k, none⟩ (.int .u32 (x.toNat : Int))) n (fun j => if j = k then x else f j) := by
  obtain ⟨h1, h2⟩ := a.ow.set k (by rw [fw_length]; exact hk) (.int .u32 (x.toNat : Int))
  rw [fw_set] at h1
  exact ⟨a.bel.setCell (by simp only; omega) _, a.or.kept h2 (.inr (by simp [Value.ownBlock])), h1⟩

end Go.Proofs.Ytoadelcdcfdmfaa

/- The check sum as plain mathematics: four bits at once, and that a changed byte is seen. -/
namespace Go.Proofs.Ytoadelcdcfdmfaa
open Go.RowKit
set_option linter.unusedVariables false

def crcPoly : BitVec 32 := 0xedb88320
def crcBit (x : BitVec 32) : BitVec 32 := (x >>> 1) ^^^ (if x.getLsbD 0 then crcPoly else 0)
def crcBits : Nat → BitVec 32 → BitVec 32
  | 0, x => x
  | n + 1, x => crcBit (crcBits n x)
def crcByte (x : BitVec 32) (b : UInt8) : BitVec 32 := crcBits 8 (x ^^^ bw b)
def crcGo (x : BitVec 32) (l : List UInt8) : BitVec 32 := l.foldl crcByte x
def crcSum (l : List UInt8) : BitVec 32 := ~~~ (crcGo (BitVec.allOnes 32) l)
theorem crcGo_snoc (x : BitVec 32) (l : List UInt8) (b : UInt8) : crcGo x (l ++ [b]) = crcByte (crcGo x l) b := by simp [crcGo, List.foldl_append]
theorem crcGo_append (x : BitVec 32) (l m : List UInt8) : crcGo x (l ++ m) = crcGo (crcGo x l) m := by simp [crcGo, List.foldl_append]

theorem crcBit_xor (x y : BitVec 32) : crcBit (x ^^^ y) = crcBit x ^^^ crcBit y := by
  unfold crcBit
  apply BitVec.eq_of_getLsbD_eq
  intro i hi
  cases hx : x.getLsbD 0 <;> cases hy : y.getLsbD 0 <;> simp only [BitVec.getLsbD_xor, hx, hy, BitVec.getLsbD_ushiftRight] <;> simp <;>
    cases x.getLsbD (1 + i) <;> cases y.getLsbD (1 + i) <;> cases crcPoly.getLsbD i <;> rfl
theorem crcBits_xor (n : Nat) (x y : BitVec 32) : crcBits n (x ^^^ y) = crcBits n x ^^^ crcBits n y := by
  induction n with
  | zero => rfl
  | succ n ih => rw [crcBits, ih, crcBit_xor]; rfl
theorem crcBits_add (m n : Nat) (x : BitVec 32) : crcBits (m + n) x = crcBits m (crcBits n x) := by
  induction m with
  | zero => rw [Nat.zero_add]; rfl
  | succ m ih => rw [Nat.succ_add, crcBits, ih]; rfl
theorem crcBit_shl (y : BitVec 32) (h : y.getLsbD 31 = false) : crcBit (y <<< 1) = y := by
  unfold crcBit
  apply BitVec.eq_of_getLsbD_eq
  intro i hi
  have h0 : (y <<< 1).getLsbD 0 = false := by simp
  rw [h0]
  simp only [BitVec.getLsbD_xor, BitVec.getLsbD_ushiftRight, BitVec.getLsbD_shiftLeft]
  by_cases e : i = 31
  · subst e; rw [h]; simp
  · simp; omega
theorem crcBits_shl (x : BitVec 32) : crcBits 4 ((x >>> 4) <<< 4) = x >>> 4 := by
  have e (k : Nat) (hk : k < 4) : ((x >>> 4) <<< k).getLsbD 31 = false := by
    simp only [BitVec.getLsbD_shiftLeft, BitVec.getLsbD_ushiftRight]
    have : x.getLsbD (4 + (31 - k)) = false := BitVec.getLsbD_of_ge _ _ (by omega)
    simp [this]
  have s (k : Nat) : (x >>> 4) <<< (k + 1) = ((x >>> 4) <<< k) <<< 1 := by rw [← BitVec.shiftLeft_add]
  show crcBit (crcBit (crcBit (crcBit ((x >>> 4) <<< (3 + 1))))) = _
  rw [s 3, crcBit_shl _ (e 3 (by omega)), s 2, crcBit_shl _ (e 2 (by omega)), s 1, crcBit_shl _ (e 1 (by omega)), s 0, crcBit_shl _ (e 0 (by omega))]
  simp
theorem low_split (x : BitVec 32) : x = ((x >>> 4) <<< 4) ^^^ (x &&& 15) := by
  apply BitVec.eq_of_getLsbD_eq
  intro i hi
  simp only [BitVec.getLsbD_xor, BitVec.getLsbD_shiftLeft, BitVec.getLsbD_ushiftRight, BitVec.getLsbD_and]
  have h15 : (15 : BitVec 32).getLsbD i = decide (i < 4) := by
    have := BitVec.getLsbD_ofNat 32 15 i
    rw [show (15 : BitVec 32) = BitVec.ofNat 32 15 from rfl, this, show (15 : Nat) = 2 ^ 4 - 1 by decide, Nat.testBit_two_pow_sub_one]
    simp; omega
  rw [h15]
  by_cases h : i < 4
  · simp [h]
  · simp [h, hi, show 4 + (i - 4) = i by omega]
/-- Four bits by a table. -/
theorem crc_four (x : BitVec 32) : x >>> 4 ^^^ crcBits 4 (x &&& 15) = crcBits 4 x := by
  conv => rhs; rw [low_split x]
  rw [crcBits_xor, crcBits_shl]
theorem crc_eight (x : BitVec 32) : crcBits 4 (crcBits 4 x) = crcBits 8 x := (crcBits_add 4 4 x).symm

theorem crcBit_zero {x : BitVec 32} (h : crcBit x = 0) : x = 0 := by
  unfold crcBit at h
  cases h0 : x.getLsbD 0 with
  | true =>
    rw [h0, if_pos rfl] at h
    have h1 : (x >>> 1 ^^^ crcPoly).getLsbD 31 = false := by rw [h]; simp
    rw [BitVec.getLsbD_xor, BitVec.getLsbD_ushiftRight, BitVec.getLsbD_of_ge _ _ (show 32 ≤ 1 + 31 by omega), show crcPoly.getLsbD 31 = true by decide] at h1
    cases h1
  | false =>
    rw [h0] at h
    apply BitVec.eq_of_getLsbD_eq
    intro i hi
    cases i with
    | zero => rw [h0]; simp
    | succ i =>
      have h1 : (x >>> 1 ^^^ (if false = true then crcPoly else 0)).getLsbD i = false := by rw [h]; simp
      simp only [BitVec.getLsbD_xor, BitVec.getLsbD_ushiftRight] at h1
      rw [Nat.add_comm i 1]
      simpa using h1
theorem crcBit_inj {x y : BitVec 32} (h : crcBit x = crcBit y) : x = y := by
  have h1 : crcBit (x ^^^ y) = 0 := by rw [crcBit_xor, h, BitVec.xor_self]; rfl
  have h2 := crcBit_zero h1
  have h3 : x ^^^ y ^^^ y = 0 ^^^ y := by rw [h2]
  rw [BitVec.xor_assoc, BitVec.xor_self, BitVec.xor_zero] at h3
  rw [h3]; exact BitVec.zero_xor
theorem crcBits_inj {n : Nat} {x y : BitVec 32} (h : crcBits n x = crcBits n y) : x = y := by
  induction n with
  | zero => exact h
  | succ n ih => exact ih (crcBit_inj h)
theorem xor_cancel {x y z : BitVec 32} (h : x ^^^ y = x ^^^ z) : y = z := by
  have : x ^^^ (x ^^^ y) = x ^^^ (x ^^^ z) := by rw [h]
  rwa [← BitVec.xor_assoc, ← BitVec.xor_assoc, BitVec.xor_self, BitVec.zero_xor, BitVec.zero_xor] at this
theorem bw_inj {b c : UInt8} (h : bw b = bw c) : b = c := by
  have h1 : (b.toNat : Int) = c.toNat := by rw [bw_nat, bw_nat, h]
  exact UInt8.toNat_inj.1 (by omega)
theorem crcByte_inj {x y : BitVec 32} {b : UInt8} (h : crcByte x b = crcByte y b) : x = y := by
  have := crcBits_inj h
  rw [BitVec.xor_comm x, BitVec.xor_comm y] at this
  exact xor_cancel this
theorem crcGo_inj (l : List UInt8) : ∀ {x y : BitVec 32}, crcGo x l = crcGo y l → x = y := by
  induction l with
  | nil => intro x y h; exact h
  | cons b l ih => intro x y h; exact crcByte_inj (ih h)
theorem not_inj {x y : BitVec 32} (h : ~~~x = ~~~y) : x = y := by
  have := congrArg (~~~·) h
  simpa using this
/-- A changed byte is seen. -/
theorem crcSum_changed (p q : List UInt8) (b c : UInt8) (hne : b ≠ c) : crcSum (p ++ b :: q) ≠ crcSum (p ++ c :: q) := by
  intro h
  have h1 := not_inj h
  rw [crcGo_append, crcGo_append] at h1
  have h2 := crcGo_inj q (x := crcByte (crcGo (BitVec.allOnes 32) p) b) (y := crcByte (crcGo (BitVec.allOnes 32) p) c) h1
  exact hne (bw_inj (xor_cancel (crcBits_inj h2)))

/-- Bytes as a number, the lowest one first. -/
def numL : List UInt8 → Nat
  | [] => 0
  | b :: r => b.toNat + 256 * numL r
def lowL (v : Nat) : Nat → List UInt8
  | 0 => []
  | n + 1 => UInt8.ofNat v :: lowL (v / 256) n
theorem lowL_length (v n : Nat) : (lowL v n).length = n := by
  induction n generalizing v with
  | zero => rfl
  | succ n ih => rw [lowL, List.length_cons, ih]
theorem numL_lt (l : List UInt8) : numL l < 256 ^ l.length := by
  induction l with
  | nil => simp [numL]
  | cons b r ih =>
    have := b.toNat_lt
    rw [numL, List.length_cons, Nat.pow_succ]
    omega
theorem numL_lowL (v n : Nat) : numL (lowL v n) = v % 256 ^ n := by
  induction n generalizing v with
  | zero => simp [lowL, numL, Nat.mod_one]
  | succ n ih =>
    rw [lowL, numL, ih, Nat.pow_succ, Nat.mul_comm (256 ^ n) 256, Nat.mod_mul]
    have : (UInt8.ofNat v).toNat = v % 256 := by simp
    rw [this]
theorem lowL_numL (l : List UInt8) : lowL (numL l) l.length = l := by
  induction l with
  | nil => rfl
  | cons b r ih =>
    have hb := b.toNat_lt
    rw [List.length_cons, lowL, numL]
    have e1 : (b.toNat + 256 * numL r) / 256 = numL r := by omega
    have e2 : UInt8.ofNat (b.toNat + 256 * numL r) = b := by
      apply UInt8.toNat_inj.1
      simp
    rw [e1, e2, ih]
end Go.Proofs.Ytoadelcdcfdmfaa

/- crc.half, Of, and the reference's sum. -/
namespace Go.Proofs.Ytoadelcdcfdmfaa
open Go.RowKit
set_option linter.unusedVariables false

theorem u32_byte' (b : UInt8) : IntKind.u32.wrap (b.toNat : Int) = (b.toNat : Int) := by
  have := b.toNat_lt; rw [IntKind.wrap_u32']; omega
theorem crcBit_odd {z : BitVec 32} (h : z.toNat % 2 = 1) : ((crcBit z).toNat : Int) = bits BinOp.xor IntKind.u32 ((z >>> 1).toNat : Int) 3988292384 := by
  have h0 : z.getLsbD 0 = true := by rw [BitVec.getLsbD, Nat.testBit_zero]; simp [h]
  have e : (3988292384 : Int) = (crcPoly.toNat : Int) := by decide
  rw [crcBit, h0, if_pos rfl, e, w_xor]
theorem crcBit_even {z : BitVec 32} (h : z.toNat % 2 = 0) : crcBit z = z >>> 1 := by
  have h0 : z.getLsbD 0 = false := by rw [BitVec.getLsbD, Nat.testBit_zero]; simp [h]
  rw [crcBit, h0]; simp
theorem w_shr1 (z : BitVec 32) : (z.toNat : Int) / (2 : Int) = ((z >>> 1).toNat : Int) := by
  have h := t_shr z 1
  rw [show (2 : Int) ^ 1 = (2 : Int) by decide] at h
  exact h
theorem w_wrap (z : BitVec 32) : IntKind.u32.wrap (z.toNat : Int) = (z.toNat : Int) := by rw [IntKind.wrap_u32']; have := w_lt z; omega
theorem w_one (z : BitVec 32) : bits BinOp.and IntKind.u32 (z.toNat : Int) 1 = ((z.toNat % 2 : Nat) : Int) := by
  have e : (1 : Int) = ((1 : BitVec 32).toNat : Int) := by decide
  rw [e, w_and, BitVec.toNat_and]
  have : (1 : BitVec 32).toNat = 1 := by decide
  rw [this, Nat.and_one_is_mod]

set_option maxHeartbeats 1600000 in
theorem refCrc_calls (s : ByteArray) (w : World) (hs : s.size ≤ 4000000000000000000) : Calls Try.prog 41 #[.string s] w fun e w' => e = .returned (.int .u32 ((crcSum s.data.toList).toNat : Int)) ∧ w = w' := by
  go_enter Try.func41, Try.ntmps41
  go_wp2
  go_loop [3, 4] (fun x i => ∃ (k : Nat) (y : BitVec 32), k ≤ s.size ∧ i = .int .i64 (k : Int) ∧ x = .int .u32 (y.toNat : Int) ∧ Box (y = crcGo (BitVec.allOnes 32) (s.data.toList.take k))) (fun _ i => s.size - (intOf i).toNat)
  case atStart => exact ⟨0, BitVec.allOnes 32, by omega, rfl, rfl, ⟨rfl⟩⟩
  case round =>
    obtain ⟨k, y, hk, rfl, rfl, HY⟩ := hrel
    by_cases hlt : k < s.size
    · have hx0 := u32_byte' s[k]
      have hxx : bits BinOp.xor IntKind.u32 (y.toNat : Int) (s[k].toNat : Int) = ((y ^^^ bw s[k]).toNat : Int) := by rw [bw_nat, w_xor]
      have HN : Box (crcGo (BitVec.allOnes 32) (s.data.toList.take (k + 1)) = crcBits 8 (y ^^^ bw s[k])) := ⟨by rw [take_snoc_str s k hlt, crcGo_snoc, ← HY.out]; rfl⟩
      go_wp2
      go_loop [3, 5] (fun x i => ∃ (n : Nat) (z : BitVec 32), n ≤ 8 ∧ i = .int .i64 (n : Int) ∧ x = .int .u32 (z.toNat : Int) ∧ Box (z = crcBits n (y ^^^ bw s[k]))) (fun _ i => 8 - (intOf i).toNat)
      case atStart => exact ⟨0, _, by omega, rfl, rfl, ⟨rfl⟩⟩
      case round =>
        obtain ⟨n, z, hn, rfl, rfl, HZ⟩ := hrel
        clear hx0 hxx
        by_cases hlt2 : n < 8
        · have HE1 : Box _ := ⟨w_shr1 z⟩
          by_cases hodd : z.toNat % 2 = 1
          · have o1 : (z.toNat : Int) % 2 = 1 := by omega
            have o2 : (z.toNat : Int).tmod 2 = 1 := by rw [Int.tmod_eq_emod_of_nonneg (by omega)]; omega
            have e3 : Box _ := ⟨(crcBit_odd hodd).symm⟩
            clear hodd
            go_wp2
            go_round
            case rel => exact ⟨n + 1, crcBit z, by omega, by go_num, val_int (by rw [HE1.out]; exact e3.out), ⟨by rw [crcBits, ← HZ.out]⟩⟩
            case measure => simp [intOf]; omega
          · have hev : z.toNat % 2 = 0 := by omega
            have o1 : (z.toNat : Int) % 2 = 0 := by omega
            have o2 : (z.toNat : Int).tmod 2 = 0 := by rw [Int.tmod_eq_emod_of_nonneg (by omega)]; omega
            have e3 : Box (crcBit z = z >>> 1) := ⟨crcBit_even hev⟩
            clear hev hodd
            go_wp2
            go_round
            case rel => exact ⟨n + 1, z >>> 1, by omega, by go_num, val_int HE1.out, ⟨by rw [crcBits, ← HZ.out, e3.out]⟩⟩
            case measure => simp [intOf]; omega
        · obtain rfl : n = 8 := by omega
          go_wp2
          go_round
          case rel => first | exact ⟨k + 1, z, by omega, by go_num, rfl, ⟨by rw [HN.out, HZ.out]⟩⟩ | ((repeat apply Exists.intro); exact ⟨⟨k + 1, z, by omega, by go_num, rfl, ⟨by rw [HN.out, HZ.out]⟩⟩, rfl⟩)
          case measure => simp [intOf]; omega
    · have HNot : Box _ := ⟨w_not' y⟩
      have HF : Box (crcSum s.data.toList = ~~~ y) := ⟨by rw [crcSum, HY.out, List.take_of_length_le (by rw [data_length]; omega)]⟩
      go_wp2
      go_ret
      exact ⟨ret_int (by rw [HF.out]; exact HNot.out), rfl⟩

/-- The table of four bits. -/
def crcTab (i : Nat) : BitVec 32 := crcBits 4 (BitVec.ofNat 32 i)
set_option maxHeartbeats 3200000 in
set_option maxRecDepth 100000 in
theorem half_calls (w : World) : Calls Try.prog 98 #[] w fun e w' => e = .returned (.agg (fw crcTab 16).toArray) ∧ Below w.heap.size w w' := by
  have HI : Box (ArrAt w ((w.alloc (.cells (fw (fun _ => 0) 16).toArray 142)).alloc (.cells (fw (fun _ => 0) 16).toArray 142)) 16 (fun j => if j < 0 then crcTab j else 0)) := by
    refine ⟨⟨((Below.refl _ _).alloc (Nat.le_refl _) _).alloc (by simp) _, ?_, ?_⟩⟩
    · have h1 := (Own.fresh w (fw (fun _ => 0) 16).toArray 142 (by simp [fw_length, maxLen])).alloc (.cells (fw (fun _ => 0) 16).toArray 142)
      simpa [fw_length] using h1
    · rw [fw_congr (g := fun _ => 0) (fun j _ => by simp)]
      have h1 := (Own.fresh (w.alloc (.cells (fw (fun _ => 0) 16).toArray 142)) (fw (fun _ => 0) 16).toArray 142 (by simp [fw_length, maxLen])).weaken (base' := w.heap.size) (by simp)
      simpa [fw_length] using h1
  go_enter Try.func98, Try.ntmps98
  go_wp2
  go_loopw [5] (fun i wr => ∃ k : Nat, k ≤ 16 ∧ i = .int .i64 (k : Int) ∧ Box (ArrAt w wr 16 (fun j => if j < k then crcTab j else 0))) (fun i _ => 16 - (intOf i).toNat)
  case atStart => exact ⟨0, by omega, rfl, HI⟩
  case round =>
    obtain ⟨k, hk, rfl, HM⟩ := hrel
    by_cases hlt : k < 16
    · have hw0 : Box ((k : Int) % 4294967296 = ((BitVec.ofNat 32 k).toNat : Int)) := ⟨by rw [BitVec.toNat_ofNat]; omega⟩
      obtain ⟨c0, f0⟩ := HM.out.ow.cell (j := k) (fw_at _ hlt)
      have j1 : (0 : Int) ≤ (k : Int) := by omega
      have j2 : (k : Int) < 16 := by omega
      go_wp2
      go_loop [3, 10] (fun x i => ∃ (n : Nat) (z : BitVec 32), n ≤ 4 ∧ i = .int .i64 (n : Int) ∧ x = .int .u32 (z.toNat : Int) ∧ Box (z = crcBits n (BitVec.ofNat 32 k))) (fun _ i => 4 - (intOf i).toNat)
      case atStart => exact ⟨0, BitVec.ofNat 32 k, by omega, rfl, val_int (by first | exact hw0.out | (rw [BitVec.toNat_ofNat]; omega)), ⟨rfl⟩⟩
      case round =>
        obtain ⟨n, z, hn, rfl, rfl, HZ⟩ := hrel
        clear hw0
        by_cases hlt2 : n < 4
        · have HE1 : Box _ := ⟨w_shr1 z⟩
          have e0 := w_one z
          by_cases hodd : z.toNat % 2 = 1
          · have e3 : Box _ := ⟨(crcBit_odd hodd).symm⟩
            rw [hodd] at e0
            clear hodd
            go_wp2
            go_round
            case rel => exact ⟨n + 1, crcBit z, by omega, by go_num, val_int (by rw [HE1.out]; exact e3.out), ⟨by rw [crcBits, ← HZ.out]⟩⟩
            case measure => simp [intOf]; omega
          · have hev : z.toNat % 2 = 0 := by omega
            have e3 : Box (crcBit z = z >>> 1) := ⟨crcBit_even hev⟩
            rw [hev] at e0
            clear hev hodd
            go_wp2
            go_round
            case rel => exact ⟨n + 1, z >>> 1, by omega, by go_num, val_int HE1.out, ⟨by rw [crcBits, ← HZ.out, e3.out]⟩⟩
            case measure => simp [intOf]; omega
        · obtain rfl : n = 4 := by omega
          go_wp2
          go_roundw
          case rel =>
            refine ⟨k + 1, by omega, by go_num, ⟨(HM.out.set k hlt z).congr (fun j _ => ?_)⟩⟩
            have hz : z = crcTab k := HZ.out
            by_cases e : j = k
            · subst e; simp [hz]
            · by_cases e2 : j < k
              · rw [if_neg e, if_pos e2, if_pos (by omega)]
              · rw [if_neg e, if_neg e2, if_neg (by omega)]
          case measure => simp [intOf]; omega
    · obtain rfl : k = 16 := by omega
      have HO : Box (Own wr w.heap.size 1 (.slice (some ⟨w.heap.size + 1, 0, none⟩) 16 16) 16 (fw crcTab 16)) := ⟨by rw [fw_congr (g := fun j => if j < 16 then crcTab j else 0) (fun j hj => by rw [if_pos hj])]; exact HM.out.ow⟩
      have hi : (Try.prog.info? 142).map (·.size) = some (fw crcTab 16).length := by rw [fw_length]; kernel_rfl
      have hi2 : (Try.prog.info? 142).map (·.size) = some (fw crcTab 16).toArray.size := by rw [List.size_toArray, fw_length]; kernel_rfl
      have HI1 : Box _ := ⟨hi⟩
      have HI2 : Box _ := ⟨hi2⟩
      clear hi hi2
      have HTh : Box (wr.there w.heap.size 0 (fw crcTab 16).toArray.size) := ⟨by rw [show (fw crcTab 16).toArray.size = 16 by simp [fw_length]]; exact HM.out.or.there0⟩
      have HAl : Box ((fw crcTab 16).toArray.all (·.oneCell') = true) := ⟨all_wcells _⟩
      go_wp2_with (first
        | (refine wpList_load_mid rfl 142 _ rfl (w.heap.size + 1) 0 rfl (fw crcTab 16) _ HO.out.range0 Try.underlying142 rfl HI1.out ?_)
        | (refine wpList_store_mid rfl 142 _ _ rfl w.heap.size 0 (fw crcTab 16).toArray rfl rfl HTh.out HI2.out HAl.out ?_))
      have hF := HM.out.or.all (fw crcTab 16) (by rw [fw_length])
      refine bodyPost_ret (results_cell_mid rfl _ _ w.heap.size (fw crcTab 16) _ rfl hF.range0 Try.underlying142 rfl HI1.out) rfl ?_
      exact ⟨rfl, HM.out.bel.grown (grownBy_setCells w.heap.size (fw crcTab 16) 0 wr) HM.out.bel.size (by simp)⟩
end Go.Proofs.Ytoadelcdcfdmfaa

/- The reference's Low, Seal and Open. -/
namespace Go.Proofs.Ytoadelcdcfdmfaa
open Go.RowKit
set_option linter.unusedVariables false

theorem lowL_at (v n k : Nat) (h : k < n) : (lowL v n)[k]? = some (UInt8.ofNat (v / 256 ^ k)) := by
  induction n generalizing v k with
  | zero => omega
  | succ n ih =>
    cases k with
    | zero => simp [lowL]
    | succ k => rw [lowL, List.getElem?_cons_succ, ih _ _ (by omega), Nat.div_div_eq_div_mul, Nat.pow_succ, Nat.mul_comm (256 ^ k) 256]
def lowS (v n : Nat) : ByteArray := ⟨(lowL v n).toArray⟩
theorem lowS_size (v n : Nat) : (lowS v n).size = n := by simp [lowS, ByteArray.size, lowL_length]

set_option maxHeartbeats 800000 in
set_option maxRecDepth 10000 in
theorem refLow_calls (v n : Nat) (w : World) (hn : n ≤ 8) (hv : v < 18446744073709551616) : Calls Try.prog 39 #[.int .u64 (v : Int), .int .i64 (n : Int)] w fun e w' => e = .returned (.string (lowS v n)) ∧ Below w.heap.size w w' := by
  go_enter Try.func39, Try.ntmps39
  go_wp2
  go_loopw [0, 5, 6] (fun u x i wr => ∃ k y : Nat, k ≤ n ∧ y < 18446744073709551616 ∧ u = .int .u64 (y : Int) ∧ i = .int .i64 (k : Int) ∧ Hid (y = v / 256 ^ k) ∧ Hid (Own wr w.heap.size 1 x k (bcells ((lowL v n).take k))) ∧ Hid (Below w.heap.size w wr)) (fun _ _ i _ => n - (intOf i).toNat)
  case atStart => exact ⟨0, v, by omega, hv, rfl, rfl, by simp [Hid], by rw [Hid]; simpa [bcells] using Own.nil _ _ _, Below.refl _ _⟩
  case round =>
    obtain ⟨k, y, hk, hy, rfl, rfl, HY, HN, HW⟩ := hrel
    by_cases hlt : k < n
    · obtain ⟨b, hb⟩ : ∃ b, UInt8.ofNat y = b := ⟨_, rfl⟩
      obtain ⟨z, hz⟩ : ∃ z, y / 256 = z := ⟨_, rfl⟩
      have HX : Hid ((lowL v n).take (k + 1) = (lowL v n).take k ++ [b]) := by rw [Hid, ← hb, HY.out]; exact take_snoc_of (lowL_at v n k hlt)
      have HQ : Hid (z = v / 256 ^ (k + 1)) := by rw [Hid, ← hz, HY.out, Nat.div_div_eq_div_mul, Nat.pow_succ]
      have HV : (y : Int) % 256 = (b.toNat : Int) := by rw [← hb]; simp
      have HD : (y : Int) / 256 = (z : Int) := by omega
      have hzl : z < 18446744073709551616 := by omega
      clear hb hz
      go_wp2_with (at_builtin; refine appO el_u8 w.heap.size rfl _ _ rfl rfl (HN.out.alloc _) (news := bcells [b]) rfl rfl (rowAt_alloc _ _ _) (one_bcells _) (by omega) (Nat.le_trans HW.out.size (by simp)) ?_; intro v1 w3 hown1 hg1 _; have HO3 : Hid (Own w3 w.heap.size 1 v1 (k + 1) (bcells ((lowL v n).take (k + 1)))) := (by have e9 : bcells ((lowL v n).take (k + 1)) = bcells ((lowL v n).take k) ++ bcells [b] := (congrArg bcells HX.out).trans (by simp [bcells]); rw [Hid, e9]; exact hown1); have HB3 : Hid (Below w.heap.size w w3) := Own.grown_below (HN.out.alloc _) (HW.out.alloc HW.out.size _) hg1 (Nat.le_refl _); clear hown1 hg1)
      go_roundw
      case rel => exact ⟨k + 1, z, by omega, hzl, rfl, by go_num, HQ, HO3, HB3⟩
      case measure => simp [intOf]; omega
    · obtain rfl : k = n := by omega
      obtain ⟨A, c, rfl, _, hr, _⟩ := HN.out.slice
      rw [List.take_of_length_le (by rw [lowL_length]; omega)] at hr
      have hcv := bytes_str Try.prog 67 5 9 Try.underlying67 Try.underlying5 Try.underlying9 A k c (lowL v k) wr (lowL_length _ _) hr
      clear hr
      go_wp2_with fail
      go_ret
      exact ⟨rfl, HW.out⟩

/-- What the reference's Seal and Open tell. -/
def sealOk (s : ByteArray) (m : Nat) : ByteArray := (s ++ zerosB m) ++ lowS (crcSum (s ++ zerosB m).data.toList).toNat 4
def sealB (n : Int) (s : ByteArray) : ByteArray × Int :=
  if n < 4 ∨ 65536 < n then (ByteArray.empty, 1)
  else if n - 4 < (s.size : Int) then (ByteArray.empty, 2)
  else (sealOk s (n.toNat - 4 - s.size), 0)
theorem refSeal_calls (n : Int) (s : ByteArray) (w : World) (hn : -9223372036854775808 ≤ n ∧ n < 9223372036854775808) (hs : s.size ≤ 1000000000) : Calls Try.prog 23 #[.int .i64 n, .string s] w fun e w' => e = .returned (.tuple #[.string (sealB n s).1, .int .i64 (sealB n s).2]) ∧ Below w.heap.size w w' := by
  by_cases h1 : n < 4
  · have e : Box (sealB n s = (ByteArray.empty, 1)) := ⟨by rw [sealB, if_pos (Or.inl h1)]⟩
    go_enter Try.func23, Try.ntmps23
    go_wp2
    go_ret2
    exact ⟨by rw [e.out]; rfl, Below.refl _ _⟩
  by_cases h2 : 65536 < n
  · have e : Box (sealB n s = (ByteArray.empty, 1)) := ⟨by rw [sealB, if_pos (Or.inr h2)]⟩
    go_enter Try.func23, Try.ntmps23
    go_wp2
    go_ret2
    exact ⟨by rw [e.out]; rfl, Below.refl _ _⟩
  by_cases h3 : n - 4 < (s.size : Int)
  · have e : Box (sealB n s = (ByteArray.empty, 2)) := ⟨by rw [sealB, if_neg (by omega), if_pos h3]⟩
    go_enter Try.func23, Try.ntmps23
    go_wp2
    go_ret2
    exact ⟨by rw [e.out]; rfl, Below.refl _ _⟩
  obtain ⟨m, hm⟩ : ∃ m : Nat, n.toNat - 4 - s.size = m := ⟨_, rfl⟩
  have e : Box (sealB n s = (sealOk s m, 0)) := ⟨by rw [sealB, if_neg (by omega), if_neg h3, hm]⟩
  obtain rfl : n = (s.size : Int) + 4 + (m : Int) := by omega
  have hm2 : m ≤ 65536 := by omega
  have e1 : (s.size : Int) + 4 + (m : Int) - 4 - (s.size : Int) = (m : Int) := by omega
  clear hm
  go_enter Try.func23, Try.ntmps23
  go_wp2_with fail
  refine (zeros_calls m _ (by omega)).mono ?_
  rintro e w1 ⟨rfl, hb1⟩
  have HB1 := Lib.hid hb1; clear hb1
  have hzs : (s ++ zerosB m).size ≤ 2000000000 := by rw [ByteArray.size_append, zerosB_size]; omega
  have HE : Box (sealOk s m = (s ++ zerosB m) ++ lowS (crcSum (s ++ zerosB m).data.toList).toNat 4) := ⟨rfl⟩
  have hzz : (zerosB m).size ≤ 65536 := by rw [zerosB_size]; omega
  obtain ⟨z, hz⟩ : ∃ z, zerosB m = z := ⟨_, rfl⟩
  rw [hz] at hzs HE hzz ⊢
  clear hz
  go_wp2_with fail
  refine (refCrc_calls _ _ (by omega)).mono ?_
  rintro e w2 ⟨rfl, rfl⟩
  have hc := w_lt (crcSum (s ++ z).data.toList)
  obtain ⟨c, hcc⟩ : ∃ c, crcSum (s ++ z).data.toList = c := ⟨_, rfl⟩
  rw [hcc] at HE hc ⊢
  have hc64 : IntKind.u64.wrap (c.toNat : Int) = (c.toNat : Int) := by rw [IntKind.wrap_u64]; omega
  go_wp2_with fail
  refine (refLow_calls c.toNat 4 _ (by omega) (by omega)).mono ?_
  rintro e w3 ⟨rfl, hb3⟩
  have HB3 := Lib.hid (below_trans' HB1.out hb3); clear hb3
  have hls := lowS_size c.toNat 4
  obtain ⟨q, hq⟩ : ∃ q, lowS c.toNat 4 = q := ⟨_, rfl⟩
  rw [hq] at HE hls ⊢
  have hsz : (s ++ z).size ≤ 2000000000 := hzs
  go_wp2_with fail
  go_ret2
  exact ⟨by rw [e.out, HE.out]; rfl, HB3.out⟩

/-- What the reference's Open tells. -/
def openB (b : ByteArray) : ByteArray × Int :=
  if b.size < 4 then (ByteArray.empty, 5)
  else if (b.extract 0 (b.size - 4)) ++ lowS (crcSum (b.extract 0 (b.size - 4)).data.toList).toNat 4 = b then (b.extract 0 (b.size - 4), 0) else (ByteArray.empty, 7)
theorem refOpen_calls (b : ByteArray) (w : World) (hs : b.size ≤ 1000000000) : Calls Try.prog 42 #[.string b] w fun e w' => e = .returned (.tuple #[.string (openB b).1, .int .i64 (openB b).2]) ∧ Below w.heap.size w w' := by
  by_cases h1 : b.size < 4
  · have e : Box (openB b = (ByteArray.empty, 5)) := ⟨by rw [openB, if_pos h1]⟩
    go_enter Try.func42, Try.ntmps42
    go_wp2
    go_ret2
    exact ⟨by rw [e.out]; rfl, Below.refl _ _⟩
  have y1 := IntWalk.i64_in ((b.size : Int) - 4) (by omega)
  have y2 : ((b.size : Int) - 4).toNat = b.size - 4 := by omega
  have y3 : (0 : Int) ≤ (b.size : Int) - 4 := by omega
  have y4 : (b.size : Int) - 4 ≤ (b.size : Int) := by omega
  have HE : Box (openB b = if (b.extract 0 (b.size - 4)) ++ lowS (crcSum (b.extract 0 (b.size - 4)).data.toList).toNat 4 = b then (b.extract 0 (b.size - 4), 0) else (ByteArray.empty, 7)) := ⟨by rw [openB, if_neg h1]⟩
  have hes : (b.extract 0 (b.size - 4)).size ≤ 1000000000 := by rw [ByteArray.size_extract]; omega
  go_enter Try.func42, Try.ntmps42
  go_wp2_with fail
  obtain ⟨t, ht⟩ : ∃ t, b.extract 0 (b.size - 4) = t := ⟨_, rfl⟩
  rw [ht] at HE hes ⊢
  clear ht
  refine (refCrc_calls _ _ (by omega)).mono ?_
  rintro e w2 ⟨rfl, rfl⟩
  have hc := w_lt (crcSum t.data.toList)
  obtain ⟨c, hcc⟩ : ∃ c, crcSum t.data.toList = c := ⟨_, rfl⟩
  rw [hcc] at HE hc ⊢
  have hc64 : IntKind.u64.wrap (c.toNat : Int) = (c.toNat : Int) := by rw [IntKind.wrap_u64]; omega
  go_wp2_with fail
  refine (refLow_calls c.toNat 4 _ (by omega) (by omega)).mono ?_
  rintro e w3 ⟨rfl, hb3⟩
  have HB3 := Lib.hid hb3; clear hb3
  have hls := lowS_size c.toNat 4
  obtain ⟨q, hq⟩ : ∃ q, lowS c.toNat 4 = q := ⟨_, rfl⟩
  rw [hq] at HE hls ⊢
  by_cases hf : t ++ q = b
  · have HR : Box (openB b = (t, 0)) := ⟨by rw [HE.out, if_pos hf]⟩
    have hsb : ((t ++ q).toList == b.toList) = true := by rw [str_beq, decide_eq_true hf]
    go_wp2_with fail
    go_ret2
    exact ⟨by rw [HR.out]; rfl, HB3.out⟩
  · have HR : Box (openB b = (ByteArray.empty, 7)) := ⟨by rw [HE.out, if_neg hf]⟩
    have hsb : ((t ++ q).toList == b.toList) = false := by rw [str_beq, decide_eq_false hf]
    go_wp2_with fail
    go_ret2
    exact ⟨by rw [HR.out]; rfl, HB3.out⟩
end Go.Proofs.Ytoadelcdcfdmfaa

/- bits.Out: what it holds; Raw. -/
namespace Go.Proofs.Ytoadelcdcfdmfaa
open Go.RowKit
set_option linter.unusedVariables false

theorem u8_info : ∃ i, Try.prog.info? 5 = some i ∧ i.zero = some (.int .u8 0) ∧ i.size = 1 ∧ i.bytes = 1 := by
  have h : (Try.prog.info? 5).map (fun i => (i.zero, i.size, i.bytes)) = some (some (.int .u8 0), 1, 1) := by kernel_rfl
  obtain ⟨i, h1, h2⟩ := Option.map_eq_some_iff.1 h
  injection h2 with e1 e2
  injection e2 with e2 e3
  exact ⟨i, h1, e1, e2, e3⟩

/-- An Out at a block holds these bytes, and no error. -/
structure OutAt (w : World) (g : Nat) (v : Value) (l : List UInt8) : Prop where
  own : w.ownsRow (g + 1) 5 1 v l.length (bcells l)
  c0 : w.cell? ⟨g, 0, none⟩ = some v
  c1 : w.cell? ⟨g, 1, none⟩ = some (.int .i64 0)
  f0 : w.frozen? ⟨g, 0, none⟩ = false
  f1 : w.frozen? ⟨g, 1, none⟩ = false
theorem OutAt.lt {w : World} {g : Nat} {v : Value} {l : List UInt8} (h : OutAt w g v l) : g < w.heap.size := World.block_lt_of_cell? w _ h.c0
theorem OutAt.apart {w : World} {g : Nat} {v : Value} {l : List UInt8} (h : OutAt w g v l) : g ∉ v.ownBlock.toList := by
  intro hm
  have := (h.own.lt g (by simpa using hm)).1
  omega
/-- More bytes: the row has grown, and the field is set. -/
theorem OutAt.grown {w w1 : World} {g : Nat} {v v1 : Value} {l m : List UInt8} (h : OutAt w g v l) (ho : w1.ownsRow (g + 1) 5 1 v1 m.length (bcells m)) (hg : w.grownBy w1 v.ownBlock) :
    OutAt (w1.setCell ⟨g, 0, none⟩ v1) g v1 m := by
  have hT := Touched.of_grown hg
  have hc0 : w1.cell? ⟨g, 0, none⟩ = some v := (hT.cell h.lt h.apart).trans h.c0
  have hc1 : w1.cell? ⟨g, 1, none⟩ = some (.int .i64 0) := (hT.cell h.lt h.apart).trans h.c1
  have hf0 : w1.frozen? ⟨g, 0, none⟩ = false := (hT.free h.lt h.apart).trans h.f0
  have hf1 : w1.frozen? ⟨g, 1, none⟩ = false := (hT.free h.lt h.apart).trans h.f1
  refine ⟨ownsRow_setCell_below ho (by simp) _, ?_, ?_, ?_, ?_⟩
  · exact World.cell?_setCell_same' w1 _ _ (by rw [hc0]; simp)
  · exact (World.cell?_setCell_other w1 ⟨g, 0, none⟩ ⟨g, 1, none⟩ _ (by simp)).trans hc1
  · rw [World.frozen?_setCell]; exact hf0
  · rw [World.frozen?_setCell]; exact hf1

set_option maxHeartbeats 1600000 in
theorem outRaw_calls (g : Nat) (v : Value) (l : List UInt8) (A : Option Addr) (c : Nat) (ts : List ByteArray) (w : World) (hO : OutAt w g v l) (hn : ts.length ≤ 4000000000000000000) (hsz : l.length + totalLen ts ≤ 140737488355328)
    (hR : ∀ w', Touched w w' (g :: v.ownBlock.toList) → RowAt w' A (scells ts)) :
    Calls Try.prog 31 #[.pointer (some ⟨g, 0, none⟩), .slice A ts.length c] w fun e w' => ∃ v', e = .returned (.pointer (some ⟨g, 0, none⟩)) ∧ OutAt w' g v' (l ++ (joinB ts).data.toList) ∧ Touched w w' (g :: v.ownBlock.toList) ∧ (∀ b, v'.ownBlock = some b → v.ownBlock = some b ∨ w.heap.size ≤ b) := by
  have HO0 : Box (OutAt w g v l) := ⟨hO⟩
  have HS := Lib.hid hsz; clear hsz
  have HR : Box _ := ⟨hR⟩
  clear hR hO
  obtain ⟨i0, hi0, hi1, hi2, hi3⟩ := u8_info
  have HI : Box (Try.prog.info? 5 = some i0 ∧ i0.zero = some (.int .u8 0) ∧ i0.size = 1 ∧ i0.bytes = 1) := ⟨hi0, hi1, hi2, hi3⟩
  clear hi0 hi1 hi2 hi3
  go_enter Try.func31, Try.ntmps31
  go_wp2
  go_loopw [9] (fun i wr => ∃ (k : Nat) (u : Value), k ≤ ts.length ∧ i = .int .i64 (k : Int) ∧ Box (OutAt wr g u (l ++ (joinB (ts.take k)).data.toList)) ∧ Hid (Touched w wr (g :: v.ownBlock.toList)) ∧ Box (∀ b, u.ownBlock = some b → v.ownBlock = some b ∨ w.heap.size ≤ b)) (fun i _ => ts.length - (intOf i).toNat)
  case atStart => exact ⟨0, v, by omega, rfl, ⟨by have := HO0.out; simpa [joinB] using this⟩, Touched.refl _ _, ⟨fun b hb => .inl hb⟩⟩
  case round =>
    obtain ⟨k, u, hk, rfl, HO, HT, HF⟩ := hrel
    by_cases hlt : k < ts.length
    · obtain ⟨s, hs⟩ := some_at hlt
      obtain ⟨ad, rfl, hc⟩ := (HR.out _ HT.out).get (scells_at hs)
      have HX : Box (l ++ (joinB (ts.take (k + 1))).data.toList = (l ++ (joinB (ts.take k)).data.toList) ++ s.data.toList) := ⟨by rw [take_snoc_of hs, joinB_snoc, show (joinB (ts.take k) ++ s).data.toList = (joinB (ts.take k)).data.toList ++ s.data.toList by simp, List.append_assoc]⟩
      have HL : Hid ((l ++ (joinB (ts.take k)).data.toList).length + s.size ≤ 140737488355328) := by
        have h1 := totalLen_take_le ts (k + 1)
        rw [take_snoc_of hs, totalLen_snoc, ← joinB_size] at h1
        have h2 := HS.out
        rw [Hid, List.length_append, data_length]
        omega
      clear hs
      obtain ⟨m, hm⟩ : ∃ m, l ++ (joinB (ts.take k)).data.toList = m := ⟨_, rfl⟩
      rw [hm] at HX HL HO
      clear hm
      obtain ⟨a0, ca, rfl, _, _, _⟩ := (Own.of_row HO.out.own).slice
      have k0 := HO.out.c0
      have k1 := HO.out.c1
      have e0 := HO.out.f0
      go_wp2_with (at_builtin; refine appS rfl _ _ 67 9 rfl (g + 1) 5 i0 Try.underlying67 Try.underlying9 HI.out.1 HI.out.2.1 HI.out.2.2.1 HI.out.2.2.2 (.slice a0 m.length ca) _ _ rfl HO.out.own s rfl HL.out HO.out.lt ?_; intro v1 w1 hown1 hg1 hp1; obtain ⟨a1, c1, rfl, _, _, _⟩ := (Own.of_row hown1).slice; have hT := Touched.of_grown hg1; have k4 := (hT.cell HO.out.lt HO.out.apart).trans HO.out.c0; have e4 := (hT.free HO.out.lt HO.out.apart).trans HO.out.f0; have HG1 : Box _ := ⟨hg1⟩; have HW1 : Box _ := ⟨hown1⟩; have HP1 : Box _ := ⟨hp1⟩; clear hown1 hg1 hT k0 k1 e0 hp1)
      go_roundw
      case rel =>
        have hO2 : OutAt (w1.setCell ⟨g, 0, none⟩ (.slice a1 (m.length + s.size) c1)) g (.slice a1 (m.length + s.size) c1) (m ++ s.data.toList) := HO.out.grown (by
          have h := HW1.out
          rw [show Lib.strCells s = bcells s.data.toList from rfl] at h
          rw [bcells, List.map_append, List.length_append, data_length]
          exact h) HG1.out
        refine ⟨k + 1, _, by omega, by go_num, ⟨by rw [HX.out]; exact hO2⟩, (HT.out.trans' (Touched.of_grown HG1.out) ?_).setCell (.inl (by simp)) _, ⟨fun b hb => ?_⟩⟩
        · intro j hj
          rcases HF.out j (by simpa using hj) with h | h
          · exact .inl (by simp [h])
          · exact .inr h
        · rcases HP1.out with h | h
          · exact HF.out b (by rw [← h]; exact hb)
          · rw [h] at hb
            injection hb with hb
            exact .inr (by rw [← hb]; exact HT.out.size)
      case measure => simp [intOf]; omega
    · obtain rfl : k = ts.length := by omega
      go_wp2
      go_ret
      exact ⟨u, rfl, by have := HO.out; rwa [List.take_of_length_le (Nat.le_refl _)] at this, HT.out, HF.out⟩
end Go.Proofs.Ytoadelcdcfdmfaa

/- bits.Out: End. -/
namespace Go.Proofs.Ytoadelcdcfdmfaa
open Go.RowKit
set_option linter.unusedVariables false

theorem outEnd_calls (g : Nat) (v : Value) (l : List UInt8) (w : World) (hO : OutAt w g v l) :
    Calls Try.prog 32 #[.pointer (some ⟨g, 0, none⟩)] w fun e w' => e = .returned (.tuple #[.string ⟨l.toArray⟩, .int .i64 0]) ∧ Below w.heap.size w w' := by
  obtain ⟨a0, ca, rfl, _, hr, _⟩ := (Own.of_row hO.own).slice
  have k0 := hO.c0
  have k1 := hO.c1
  have hcv := bytes_str Try.prog 67 5 9 Try.underlying67 Try.underlying5 Try.underlying9 a0 l.length ca l w rfl hr
  clear hr hO
  go_enter Try.func32, Try.ntmps32
  go_wp2
  go_ret2
  exact ⟨rfl, Below.refl _ _⟩
/-- An error stays. -/
theorem outEnd_err (g : Nat) (x : Int) (hx : x ≠ 0) (w : World) (k1 : w.cell? ⟨g, 1, none⟩ = some (.int .i64 x)) :
    Calls Try.prog 32 #[.pointer (some ⟨g, 0, none⟩)] w fun e w' => e = .returned (.tuple #[.string ByteArray.empty, .int .i64 x]) ∧ Below w.heap.size w w' := by
  go_enter Try.func32, Try.ntmps32
  go_wp2
  go_quiet (fail)
  go_wp2
  go_ret2
  exact ⟨rfl, below_drewN (Below.refl _ _) _⟩
end Go.Proofs.Ytoadelcdcfdmfaa

/- bits.Out: one number in so many bytes. -/
namespace Go.Proofs.Ytoadelcdcfdmfaa
open Go.RowKit
set_option linter.unusedVariables false

/-- An append as a step of a region that draws its order (rows of the library). -/
theorem step_appR {P : Program} {ops : Array Oper} {o : Oper} {a : Act} {K : Act → World → Prop} {Q : Exit → Act → World → Prop} {E' : Prop} {t e : TypeId} {size bytes : Nat} (E : El P t e size bytes) {W : World} (base : Nat) (hgd : o.guard = none) (s x : Operand)
    (ho : o.op = .call { callee := .builtin .append, args := #[s, x], argTypes := #[t, t] })
    {v : Value} {n : Nat} {xs : List Value} (hs : a.eval s = v) (hown : W.ownsRow base e size v n xs)
    {A : Option Addr} {m c : Nat} {news : List Value} (hx : a.eval x = .slice A m c) (hl : news.length = m * size) (hR : RowAt W A news) (h1 : ∀ u ∈ news, u.oneCell' = true)
    (hbytes : (n + m) * bytes ≤ 140737488355328) (hbase : base ≤ W.heap.size)
    (h : ∀ v' w', w'.ownsRow base e size v' (n + m) (xs ++ news) → W.grownBy w' v.ownBlock → (v'.ownBlock = v.ownBlock ∨ v'.ownBlock = some W.heap.size) → K (a.put o.dst v') w') :
    if Region.wanted o (yielded ops a.tmps) = true then Oper.wp P o a W K Q else E' := by
  have hw : Region.wanted o (yielded ops a.tmps) = true := by simp [Region.wanted, hgd]
  rw [if_pos hw]
  obtain ⟨v', w', hr, h2, h3, h4⟩ := run_app E W base o.type v n xs hown A m c news hl hR h1 hbytes hbase
  unfold Oper.wp execOp
  simp only [ho, resolve, invoke, builtin, Sem.run_bind, Sem.run_pure, Result.andThen_ok, List.map_toArray, List.map_cons, List.map_nil, hs, hx, hr]
  exact h v' w' h2 h3 h4
theorem OutAt.grownT {w w1 : World} {g : Nat} {v v1 : Value} {l m : List UInt8} (h : OutAt w g v l) (ho : w1.ownsRow (g + 1) 5 1 v1 m.length (bcells m)) (hT : Touched w w1 v.ownBlock.toList) :
    OutAt (w1.setCell ⟨g, 0, none⟩ v1) g v1 m := by
  have hc0 : w1.cell? ⟨g, 0, none⟩ = some v := (hT.cell h.lt h.apart).trans h.c0
  have hc1 : w1.cell? ⟨g, 1, none⟩ = some (.int .i64 0) := (hT.cell h.lt h.apart).trans h.c1
  have hf0 : w1.frozen? ⟨g, 0, none⟩ = false := (hT.free h.lt h.apart).trans h.f0
  have hf1 : w1.frozen? ⟨g, 1, none⟩ = false := (hT.free h.lt h.apart).trans h.f1
  refine ⟨ownsRow_setCell_below ho (by simp) _, ?_, ?_, ?_, ?_⟩
  · exact World.cell?_setCell_same' w1 _ _ (by rw [hc0]; simp)
  · exact (World.cell?_setCell_other w1 ⟨g, 0, none⟩ ⟨g, 1, none⟩ _ (by simp)).trans hc1
  · rw [World.frozen?_setCell]; exact hf0
  · rw [World.frozen?_setCell]; exact hf1

theorem OutAt.drew {w : World} {g : Nat} {v : Value} {l : List UInt8} (h : OutAt w g v l) : OutAt w.drew g v l := ⟨h.own.drew, h.c0, h.c1, h.f0, h.f1⟩

theorem low_byte (x n : Nat) : ((x : Int) / 2 ^ (8 * n)) % 256 = ((UInt8.ofNat (x / 256 ^ n)).toNat : Int) := by
  have e : (2 : Int) ^ (8 * n) = ((256 ^ n : Nat) : Int) := by
    rw [Int.pow_mul]; simp
  rw [e, UInt8.toNat_ofNat']
  simp

set_option maxHeartbeats 3200000 in
theorem outLay_calls (g : Nat) (v : Value) (l : List UInt8) (A : Option Addr) (c x : Nat) (w : World) (hO : OutAt w g v l) (hx : x < 4294967296) (hsz : l.length ≤ 1000000000) (hR : ∀ w', Touched w w' (g :: v.ownBlock.toList) → RowAt w' A [.int .i64 (x : Int)]) :
    Calls Try.prog 76 #[.pointer (some ⟨g, 0, none⟩), .int .i64 4, .slice A 1 c] w fun e w' => ∃ v', e = .returned (.pointer (some ⟨g, 0, none⟩)) ∧ OutAt w' g v' (l ++ lowL x 4) ∧ Touched w w' (g :: v.ownBlock.toList) ∧ (∀ b, v'.ownBlock = some b → v.ownBlock = some b ∨ w.heap.size ≤ b) := by
  have HO0 : Box (OutAt w g v l) := ⟨hO⟩
  have HR : Box _ := ⟨hR⟩
  clear hR hO
  have hx0 : (0 : Int) ≤ (x : Int) := by omega
  have hx1 : (x : Int) / 4294967296 = 0 := by omega
  go_enter Try.func76, Try.ntmps76
  go_wp2
  go_loopw [12] (fun i wr => ∃ (k : Nat) (u : Value), k ≤ 1 ∧ i = .int .i64 (k : Int) ∧ Box (OutAt wr g u (l ++ (lowL x 4).take (4 * k))) ∧ Hid (Touched w wr (g :: v.ownBlock.toList)) ∧ Box (∀ b, u.ownBlock = some b → v.ownBlock = some b ∨ w.heap.size ≤ b)) (fun i _ => 1 - (intOf i).toNat)
  case atStart => exact ⟨0, v, by omega, rfl, ⟨by have := HO0.out; simpa using this⟩, Touched.refl _ _, ⟨fun b hb => .inl hb⟩⟩
  case round =>
    obtain ⟨k, u, hk, rfl, HO, HT, HF⟩ := hrel
    by_cases hlt : k < 1
    · have hk0 : k = 0 := by omega
      have HK0 := Lib.hid hk0
      obtain ⟨ad, rfl, hc⟩ := (HR.out _ HT.out).get (j := k) (u := .int .i64 (x : Int)) (by rw [hk0]; rfl)
      have HO4 : Box (OutAt wr g u (l ++ (lowL x 4).take 0)) := ⟨by have := HO.out; rw [hk0] at this; exact this⟩
      clear hk0
      have k1 := HO.out.c1
      go_wp2
      go_loopw [46] (fun i wi => ∃ (n : Nat) (u : Value), n ≤ 4 ∧ i = .int .i64 (n : Int) ∧ Box (OutAt wi g u (l ++ (lowL x 4).take n)) ∧ Hid (Touched w wi (g :: v.ownBlock.toList)) ∧ Box (∀ b, u.ownBlock = some b → v.ownBlock = some b ∨ w.heap.size ≤ b)) (fun i _ => 4 - (intOf i).toNat)
      case atStart => exact ⟨0, u, by omega, rfl, HO4, HT, HF⟩
      case round =>
        obtain ⟨n, u, hn, rfl, HO, HT, HF⟩ := hrel
        by_cases hlt2 : n < 4
        · obtain ⟨b, hb⟩ : ∃ b, UInt8.ofNat (x / 256 ^ n) = b := ⟨_, rfl⟩
          have HX : Box (l ++ (lowL x 4).take (n + 1) = (l ++ (lowL x 4).take n) ++ [b]) := ⟨by rw [List.append_assoc, ← hb, ← take_snoc_of (lowL_at x 4 n hlt2)]⟩
          have HL : Hid ((l ++ (lowL x 4).take n).length ≤ 1000000004) := by rw [Hid, List.length_append, List.length_take, lowL_length]; omega
          have HV := low_byte x n
          rw [hb] at HV
          have HW8 : IntKind.u8.wrap ((x : Int) / 2 ^ (8 * n)) = (b.toNat : Int) := by rw [IntKind.wrap_u8']; exact HV
          clear hb
          obtain ⟨m, hm⟩ : ∃ m, l ++ (lowL x 4).take n = m := ⟨_, rfl⟩
          rw [hm] at HX HL HO
          clear hm
          obtain ⟨a0, ca, rfl, _, _, _⟩ := (Own.of_row HO.out.own).slice
          have hlt3 := HO.out.lt
          have k0 := HO.out.c0
          have k0a : ∀ o : Obj, (wr.alloc o).cell? ⟨g, 0, none⟩ = some (.slice a0 m.length ca) := fun o => (World.cell?_alloc_lt _ _ _ hlt3).trans k0
          have k0b : ∀ o : Obj, (wr.drew.alloc o).cell? ⟨g, 0, none⟩ = some (.slice a0 m.length ca) := fun o => (World.cell?_alloc_lt _ _ _ hlt3).trans k0
          have y3 := IntWalk.i64_in (8 * (n : Int)) (by omega)
          have y4 : (8 * (n : Int)).toNat = 8 * n := by omega
          have y5 : (0 : Int) ≤ 8 * (n : Int) := by omega
          obtain ⟨wo, rfl⟩ : ∃ wo : World, wo = wr := ⟨_, rfl⟩
          go_wp2_with fail
          go_region_law
            (first
              | (refine step_appR el_u8 (g + 1) rfl _ _ rfl (v := .slice a0 m.length ca) rfl (by first | exact (HO.out.own.alloc _).drew | exact HO.out.own.drew.alloc _) (news := bcells [b]) rfl rfl (by first | exact rowAt_alloc wo [.int .u8 (b.toNat : Int)] _ | exact rowAt_alloc wo.drew [.int .u8 (b.toNat : Int)] _) (one_bcells _) (by have := HL.out; omega) (by have := HO.out.lt; simp; omega) ?_; intro v1 w1 hown1 hg1 hp1; obtain ⟨a1, c1, rfl, _, _, _⟩ := (Own.of_row hown1).slice; have hT : Touched wo w1 (Value.slice a0 m.length ca).ownBlock.toList := (by first | exact ((Touched.refl wo _).alloc _).drew.trans (Touched.of_grown hg1) | exact ((Touched.refl wo _).drew.alloc _).trans (Touched.of_grown hg1)); have k4 := (hT.cell HO.out.lt HO.out.apart).trans HO.out.c0; have e4 := (hT.free HO.out.lt HO.out.apart).trans HO.out.f0; have HT1 : Box _ := ⟨hT⟩; have HW1 : Box _ := ⟨hown1⟩; have HP1 : Box _ := ⟨hp1⟩; clear hown1 hg1 hT hp1))
          all_goals
            go_wp2_with fail
            go_roundw
            case rel =>
              have hO2 : OutAt (w1.setCell ⟨g, 0, none⟩ (.slice a1 (m.length + 1) c1)) g (.slice a1 (m.length + 1) c1) (m ++ [b]) := HO.out.grownT (by
                have h := HW1.out
                rw [bcells, List.map_append, List.length_append]
                exact h) HT1.out
              have hT2 : Touched w (w1.setCell ⟨g, 0, none⟩ (.slice a1 (m.length + 1) c1)) (g :: v.ownBlock.toList) := (HT.out.trans' HT1.out (by
                intro j hj
                rcases HF.out j (by simpa using hj) with h | h
                · exact .inl (by simp [h])
                · exact .inr h)).setCell (.inl (by simp)) _
              have hF2 : ∀ b, (Value.slice a1 (m.length + 1) c1).ownBlock = some b → v.ownBlock = some b ∨ w.heap.size ≤ b := by
                intro b hb
                rcases HP1.out with h | h
                · exact HF.out b (by rw [← h]; exact hb)
                · rw [h] at hb
                  injection hb with hb
                  have := HT.out.size
                  simp at hb
                  exact .inr (by omega)
              first
                | exact ⟨n + 1, _, by omega, by go_num, ⟨by rw [HX.out]; exact hO2⟩, hT2, ⟨hF2⟩⟩
                | exact ⟨n + 1, _, by omega, by go_num, ⟨by rw [HX.out]; exact hO2.drew⟩, hT2.drew, ⟨hF2⟩⟩
                | ((repeat apply Exists.intro); exact ⟨⟨n + 1, _, by omega, by go_num, ⟨by rw [HX.out]; exact hO2⟩, hT2, ⟨hF2⟩⟩, rfl⟩)
            case measure => simp [intOf]; omega
        · obtain rfl : n = 4 := by omega
          go_wp2
          go_roundw
          case rel =>
            have e45 : (lowL x 4).take (4 * (k + 1)) = (lowL x 4).take 4 := by rw [HK0.out]
            rw [← e45] at HO
            first | exact ⟨k + 1, u, by omega, by go_num, HO, HT, HF⟩ | ((repeat apply Exists.intro); exact ⟨⟨k + 1, u, by omega, by go_num, HO, HT, HF⟩, rfl⟩)
          case measure => simp [intOf]; omega
    · obtain rfl : k = 1 := by omega
      go_wp2
      go_ret
      exact ⟨u, rfl, HO.out, HT.out, HF.out⟩
end Go.Proofs.Ytoadelcdcfdmfaa

/- bits.Out: Word; Pad. -/
namespace Go.Proofs.Ytoadelcdcfdmfaa
open Go.RowKit
set_option linter.unusedVariables false

theorem outWord_calls (g : Nat) (v : Value) (l : List UInt8) (A : Option Addr) (c x : Nat) (w : World) (hO : OutAt w g v l) (hx : x < 4294967296) (hsz : l.length ≤ 1000000000) (hR : ∀ w', Touched w w' (g :: v.ownBlock.toList) → RowAt w' A [.int .i64 (x : Int)]) :
    Calls Try.prog 78 #[.pointer (some ⟨g, 0, none⟩), .slice A 1 c] w fun e w' => ∃ v', e = .returned (.pointer (some ⟨g, 0, none⟩)) ∧ OutAt w' g v' (l ++ lowL x 4) ∧ Touched w w' (g :: v.ownBlock.toList) ∧ (∀ b, v'.ownBlock = some b → v.ownBlock = some b ∨ w.heap.size ≤ b) := by
  have H := outLay_calls g v l A c x w hO hx hsz hR
  have HH : Box _ := ⟨H⟩
  clear H hR hO
  go_enter Try.func78, Try.ntmps78
  go_wp2_with fail
  refine HH.out.mono ?_
  rintro e w1 ⟨v1, rfl, h1, h2, h3⟩
  go_wp2_with fail
  go_ret
  exact ⟨v1, rfl, h1, h2, h3⟩
end Go.Proofs.Ytoadelcdcfdmfaa
