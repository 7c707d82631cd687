/- A Book's lists of spans grow, one by one and by many, each into a list of its own. -/
import Derived.Test.YtiocealhadlggaaBookPut
namespace Go.Proofs.Ytiocealhadlggaa
open Go.RowKit
set_option linter.unusedVariables false

theorem row_free {w w' : World} {A : Option Addr} {xs : List Value} {bs : List Nat} {n c : Nat} (h : RowAt w A xs) (hT : Touched w w' bs) (hA : ∀ b, (Value.slice A n c).ownBlock = some b → b ∉ bs) : RowAt w' A xs := by
  rcases h with h | ⟨ad, e, hc⟩
  · exact .inl h
  · subst e
    refine .inr ⟨ad, rfl, fun j u hj => ?_⟩
    have hcj := hc j u hj
    have hl := World.block_lt_of_cell? w _ hcj
    have hb : (ad.add j).block = ad.block := by unfold Addr.add; split <;> rfl
    rw [hb] at hl
    rw [World.cell?_of_block (w := w) (a := ad.add j) (by rw [hb]; exact hT.block _ hl (hA _ rfl))]
    exact hcj
/-- One list that grows: l, beside the list v that it was. -/
structure GrowL (wr wi : World) (base : Nat) (v l : Value) (k n m : Nat) : Prop where
  own : Own wi base 2 l (n + m) (pcells (marksP k 0 (n + m)))
  blk : ∀ b, l.ownBlock = some b → v.ownBlock = some b ∨ wr.heap.size ≤ b
  row : ∀ A c, v = .slice A n c → RowAt wi A (pcells (marksP k 0 n))
  t : Touched wr wi v.ownBlock.toList
theorem GrowL.zero {wr : World} {base : Nat} {v : Value} {k n : Nat} (h : Own wr base 2 v n (pcells (marksP k 0 n))) : GrowL wr wr base v v k n 0 :=
  ⟨h, fun b hb => .inl hb, fun A c e => by subst e; obtain ⟨_, _, e, _, hr, _⟩ := h.slice; injection e with e; subst e; exact hr, Touched.refl _ _⟩
theorem GrowL.below {wr wi w2 : World} {base : Nat} {v l : Value} {k n m : Nat} (h : GrowL wr wi base v l k n m) (hb : Below wi.heap.size wi w2) : GrowL wr w2 base v l k n m :=
  ⟨h.own.below hb, h.blk, fun A c e => (h.row A c e).below hb, h.t.trans (Touched.of_below hb _)⟩
theorem GrowL.step {wr wi w3 : World} {base : Nat} {v l l' : Value} {k n m j : Nat} (h : GrowL wr wi base v l k n m) (hv : Own wr base 2 v n (pcells (marksP k 0 n)))
    (ho : Own w3 base 2 l' (n + m + j) (pcells (marksP k 0 (n + m)) ++ pcells (marksP k (n + m) j))) (hg : wi.grownBy w3 l.ownBlock) (hblk : l'.ownBlock = l.ownBlock ∨ ∃ b, l'.ownBlock = some b ∧ wi.heap.size ≤ b)
    (hrow : ∀ A c, l = .slice A (n + m) c → RowAt w3 A (pcells (marksP k 0 (n + m)))) : GrowL wr w3 base v l' k n (m + j) := by
  have hs := h.t.size
  refine ⟨?_, fun b hb => ?_, fun A c e => ?_, ?_⟩
  · rw [show n + (m + j) = n + m + j by omega, marksP_append k 0 (n + m) j, pcells_append, Nat.zero_add]
    exact ho
  · rcases hblk with e | ⟨b', e, hb'⟩
    · exact h.blk b (e.symm.trans hb)
    · rw [e] at hb; injection hb with hb; exact .inr (by omega)
  · subst e
    by_cases he : (Value.slice A n c).ownBlock = l.ownBlock
    · obtain ⟨A', c', e', _, hr', hz⟩ := h.own.slice
      subst e'
      have hr3 := hrow _ _ rfl
      rw [marksP_append k 0 n m, pcells_append] at hr3
      have hr3 := hr3.left
      obtain ⟨A2, c2, e2, _, _, hz2⟩ := hv.slice
      injection e2 with e2 _ e3
      subst e2 e3
      rcases hv.2 with ⟨h1, _⟩ | ⟨g1, c1, h1, _⟩
      · injection h1 with _ h1; subst h1
        exact .inl (by simp [marksP, pcells])
      · rcases h.own.2 with ⟨h2, _⟩ | ⟨g2, c2, h2, _⟩
        · injection h2 with h2a; subst h2a
          injection h1 with h1a; subst h1a
          simp [Value.ownBlock] at he
        · injection h2 with h2a; subst h2a
          injection h1 with h1a; subst h1a
          have : g1 = g2 := by injection he
          subst this
          exact hr3
    · refine row_free (n := n) (c := c) (h.row A c rfl) (Touched.of_grown hg) (fun b hb hm => he ?_)
      rw [hb]
      exact (by simpa using hm : l.ownBlock = some b).symm
  · refine h.t.trans' (Touched.of_grown hg) (fun b hb => ?_)
    have hb : l.ownBlock = some b := by simpa using hb
    rcases h.blk b hb with e | e
    · exact .inl (by simp [e])
    · exact .inr e
/-- All lists, k of them grown. -/
structure GrowO (w wr : World) (base : Nat) (N : Nat) (vs : List Value) (ns : Nat → Nat) (k : Nat) (o : Value) (gs : List Value) : Prop where
  t : Touched w wr (vblocks vs)
  own : Own wr w.heap.size 1 o k gs
  done : ∀ i, i < k → ∃ A c v', vs[i]? = some (.slice A (ns i) c) ∧ RowAt wr A (pcells (marksP i 0 (ns i))) ∧ gs[i]? = some v' ∧ Own wr base 2 v' (ns i + 72) (pcells (marksP i 0 (ns i + 72))) ∧ ∀ b, v'.ownBlock = some b → ((Value.slice A (ns i) c).ownBlock = some b ∨ w.heap.size ≤ b) ∧ o.ownBlock ≠ some b
  togo : ∀ i, k ≤ i → i < N → ∃ v, vs[i]? = some v ∧ Own wr base 2 v (ns i) (pcells (marksP i 0 (ns i)))
theorem BookV.grow0 {w : World} {base g N : Nat} {S : Value} {vs : List Value} {ns : Nat → Nat} (h : BookV w base g S N vs (fun i => marksP i 0 (ns i))) : GrowO w w base N vs ns 0 (.slice none 0 0) [] := by
  refine ⟨Touched.refl _ _, Own.nil _ _ _, fun i hi => absurd hi (by omega), fun i _ hi => ?_⟩
  obtain ⟨_, v, hv, ho, _⟩ := h.hv i hi
  simp only [marksP_length] at ho
  exact ⟨v, hv, ho⟩
theorem GrowO.round {w wr w3 w5 : World} {base g N k : Nat} {S o o' v l' : Value} {vs gs : List Value} {ns : Nat → Nat} (hB : BookV w base g S N vs (fun i => marksP i 0 (ns i))) (h : GrowO w wr base N vs ns k o gs) (hk : k < N) (hv : vs[k]? = some v)
    (hL : GrowL wr w3 base v l' k (ns k) 72) (ho : Own w5 w.heap.size 1 o' (k + 1) (gs ++ [l'])) (t : TypeId) (hg : (w3.alloc (.cells #[l'] t)).grownBy w5 o.ownBlock) (hblk : o'.ownBlock = o.ownBlock ∨ ∃ b, o'.ownBlock = some b ∧ w3.heap.size ≤ b) : GrowO w w5 base N vs ns (k + 1) o' (gs ++ [l']) := by
  have hs1 := h.t.size
  have hs2 := hL.t.size
  have hT3 : Touched w w3 (vblocks vs) := h.t.trans (hL.t.mono (fun b hb _ => mem_vblocks.2 ⟨v, List.mem_of_getElem? hv, by simpa using hb⟩))
  have hT5 : Touched w3 w5 o.ownBlock.toList := ((Touched.refl w3 _).alloc _).trans (Touched.of_grown hg)
  have hol : ∀ b, o.ownBlock = some b → w.heap.size ≤ b ∧ b < wr.heap.size := fun b hb => h.own.lt b hb
  obtain ⟨_, v0, hv0, ho0, _⟩ := hB.hv k hk
  have hvv : v0 = v := by rw [hv] at hv0; injection hv0 with e; exact e.symm
  subst hvv
  have hvl : ∀ i x b, i < N → vs[i]? = some x → x.ownBlock = some b → b < w.heap.size := by
    intro i x b hi hx hb
    obtain ⟨_, v1, hv1, ho1, _⟩ := hB.hv i hi
    rw [hx] at hv1; injection hv1 with e; subst e
    exact (ho1.lt b hb).2
  have hoc : ∀ b, o'.ownBlock = some b → o.ownBlock = some b ∨ w3.heap.size ≤ b := by
    intro b hb
    rcases hblk with e | ⟨b', e, hb'⟩
    · exact .inl (e.symm.trans hb)
    · rw [e] at hb; injection hb with hb; exact .inr (by omega)
  have htr : Touched wr w5 (v0.ownBlock.toList ++ o.ownBlock.toList) := (hL.t.mono (fun b hb _ => List.mem_append_left _ hb)).trans (hT5.mono (fun b hb _ => List.mem_append_right _ hb))
  refine ⟨hT3.trans' hT5 (fun b hb => .inr (hol b (by simpa using hb)).1), ho, fun i hi => ?_, fun i hi hiN => ?_⟩
  · rcases Nat.lt_or_ge i k with hik | hik
    · obtain ⟨A, c, v', h1, h2, h3, h4, h5⟩ := h.done i hik
      have hgi : (gs ++ [l'])[i]? = some v' := append_old h3
      refine ⟨A, c, v', h1, row_free (n := ns i) (c := c) h2 htr (fun b hb hm => ?_), hgi, htr.own h4 (fun b hb hm => ?_), fun b hb => ⟨(h5 b hb).1, fun e => ?_⟩⟩
      · have := hvl i _ b (by omega) h1 hb
        simp at hm
        rcases hm with hm | hm
        · exact hB.vd i k _ _ b (by omega) h1 hv hb hm
        · have := (hol b hm).1; omega
      · simp at hm
        rcases hm with hm | hm
        · rcases (h5 b hb).1 with e | e
          · exact hB.vd i k _ _ b (by omega) h1 hv e hm
          · have := hvl k _ b hk hv hm; omega
        · exact (h5 b hb).2 hm
      · rcases hoc b e with e | e
        · exact (h5 b hb).2 e
        · have := (h4.lt b hb).2; omega
    · obtain rfl : i = k := by omega
      obtain ⟨A, c, e, _, _, _⟩ := ho0.slice
      simp only [marksP_length] at e
      subst e
      have hgl : gs.length = i := by have := h.own.1; omega
      refine ⟨A, c, l', hv, row_free (n := ns i) (c := c) (hL.row A c rfl) hT5 (fun b hb hm => ?_), by rw [← hgl]; exact append_new gs l', hT5.own hL.own (fun b hb hm => ?_), fun b hb => ⟨?_, fun e => ?_⟩⟩
      · have := hvl i _ b hk hv hb
        have := (hol b (by simpa using hm)).1; omega
      · have hm2 := hol b (by simpa using hm)
        rcases hL.blk b hb with e | e
        · have := hvl i _ b hk hv e; omega
        · omega
      · rcases hL.blk b hb with e | e
        · exact .inl e
        · exact .inr (by omega)
      · have := (hL.own.lt b hb).2
        rcases hoc b e with e | e
        · have hm2 := hol b e
          rcases hL.blk b hb with e | e
          · have := hvl i _ b hk hv e; omega
          · omega
        · omega
  · obtain ⟨x, hx, hox⟩ := h.togo i (by omega) hiN
    refine ⟨x, hx, htr.own hox (fun b hb hm => ?_)⟩
    simp at hm
    rcases hm with hm | hm
    · exact hB.vd i k x _ b (by omega) hx hv hb hm
    · have := hvl i x b hiN hx hb; have := (hol b hm).1; omega

/-- What growing says. -/
structure Grown (w w' : World) (base g : Nat) (S : Value) (N : Nat) (vs : List Value) (ns : Nat → Nat) (o : Value) : Prop where
  t : Touched w w' (vblocks vs)
  ex : ∃ gs, Own w' w.heap.size 1 o N gs ∧ ∀ i, i < N → ∃ A c A' c', vs[i]? = some (.slice A (ns i) c) ∧ RowAt w' A (pcells (marksP i 0 (ns i))) ∧ gs[i]? = some (.slice A' (ns i + 72) c') ∧ RowAt w' A' (pcells (marksP i 0 (ns i + 72)))
theorem GrowO.end {w w' : World} {base g N : Nat} {S o : Value} {vs gs : List Value} {ns : Nat → Nat} (h : GrowO w w' base N vs ns N o gs) : Grown w w' base g S N vs ns o := by
  refine ⟨h.t, gs, h.own, fun i hi => ?_⟩
  obtain ⟨A, c, v', h1, h2, h3, h4, _⟩ := h.done i hi
  obtain ⟨A', c', e, _, hr, _⟩ := h4.slice
  subst e
  exact ⟨A, c, A', c', h1, h2, h3, hr⟩
end Go.Proofs.Ytiocealhadlggaa
