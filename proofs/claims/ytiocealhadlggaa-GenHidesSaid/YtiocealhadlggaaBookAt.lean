/- A Book that keeps lists of spans: what it holds; one more list. -/
import Derived.Test.YtiocealhadlggaaBookStill
import Derived.Test.YtiocealhadlggaaBookMarked
import Derived.Test.YtiocealhadlggaaBookNil
import Derived.Test.YtiocealhadlggaaBundle2
import Derived.Deep.RegionHeldLaw
import Derived.Deep.RegionLaw
namespace Go.Proofs.Ytiocealhadlggaa
open Go.RowKit
set_option linter.unusedVariables false

theorem cell_lt2 {w : World} {a : Addr} {v : Value} (h : w.cell? a = some v) : a.block < w.heap.size := World.block_lt_of_cell? w _ h

/-- The lists ls are kept: vs are the lists themselves, us the copies. -/
structure BookAt (w : World) (base g : Nat) (S T : Value) (vs us : List Value) (ls : List (List (Int × Int))) : Prop where
  gb : base ≤ g
  nil : ∀ j, j < 16 → j ≠ 4 → j ≠ 5 → w.cell? ⟨g, j, none⟩ = some (.slice none 0 0)
  c4 : w.cell? ⟨g, 4, none⟩ = some S
  c5 : w.cell? ⟨g, 5, none⟩ = some T
  f4 : w.frozen? ⟨g, 4, none⟩ = false
  f5 : w.frozen? ⟨g, 5, none⟩ = false
  hS : Own w base 1 S ls.length vs
  hT : Own w base 1 T ls.length us
  sg : S.ownBlock ≠ some g
  tg : T.ownBlock ≠ some g
  st : ∀ b, S.ownBlock = some b → T.ownBlock ≠ some b
  hv : ∀ (i : Nat) (l : List (Int × Int)), ls[i]? = some l → l.length ≤ 1000000 ∧ ∃ v, vs[i]? = some v ∧ Own w base 2 v l.length (pcells l) ∧ ∀ b, v.ownBlock = some b → b ≠ g ∧ S.ownBlock ≠ some b ∧ T.ownBlock ≠ some b
  hu : ∀ (i : Nat) (l : List (Int × Int)), ls[i]? = some l → ∃ u, us[i]? = some u ∧ Own w base 2 u l.length (pcells l) ∧ ∀ b, u.ownBlock = some b → b ≠ g ∧ S.ownBlock ≠ some b ∧ T.ownBlock ≠ some b
  vd : ∀ (i j : Nat) (v v' : Value) (b : Nat), i ≠ j → vs[i]? = some v → vs[j]? = some v' → v.ownBlock = some b → v'.ownBlock ≠ some b
section
variable {w w' : World} {base g : Nat} {S T : Value} {vs us : List Value} {ls : List (List (Int × Int))}
theorem BookAt.gl (h : BookAt w base g S T vs us ls) : g < w.heap.size := cell_lt2 h.c4
theorem BookAt.vlen (h : BookAt w base g S T vs us ls) : vs.length = ls.length := by have := h.hS.1; omega
theorem BookAt.ulen (h : BookAt w base g S T vs us ls) : us.length = ls.length := by have := h.hT.1; omega
/-- Nothing that the Book leans on was touched. -/
theorem BookAt.touched (h : BookAt w base g S T vs us ls) {bs : List Nat} (hT : Touched w w' bs) (h1 : g ∉ bs) (h2 : ∀ b ∈ bs, S.ownBlock ≠ some b ∧ T.ownBlock ≠ some b) (h3 : ∀ v ∈ vs, ∀ b ∈ bs, v.ownBlock ≠ some b) (h4 : ∀ u ∈ us, ∀ b ∈ bs, u.ownBlock ≠ some b) : BookAt w' base g S T vs us ls := by
  have hg := h.gl
  refine ⟨h.gb, fun j hj a b => (hT.cell hg h1).trans (h.nil j hj a b), (hT.cell hg h1).trans h.c4, (hT.cell hg h1).trans h.c5, (hT.free hg h1).trans h.f4, (hT.free hg h1).trans h.f5,
    hT.own h.hS (fun k hk hm => (h2 k hm).1 hk), hT.own h.hT (fun k hk hm => (h2 k hm).2 hk), h.sg, h.tg, h.st, fun i l hl => ?_, fun i l hl => ?_, h.vd⟩
  · obtain ⟨a, v, hv, ho, hd⟩ := h.hv i l hl
    exact ⟨a, v, hv, hT.own ho (fun k hk hm => h3 v (List.mem_of_getElem? hv) k hm hk), hd⟩
  · obtain ⟨u, hu, ho, hd⟩ := h.hu i l hl
    exact ⟨u, hu, hT.own ho (fun k hk hm => h4 u (List.mem_of_getElem? hu) k hm hk), hd⟩
theorem BookAt.below (h : BookAt w base g S T vs us ls) (hb : Below w.heap.size w w') : BookAt w' base g S T vs us ls :=
  h.touched (Touched.of_below hb []) (by simp) (by simp) (by simp) (by simp)
end
theorem bookNew (w : World) (base : Nat) (hb : base ≤ w.heap.size) (t : TypeId) : BookAt (w.alloc (.cells (Array.replicate 16 (.slice none 0 0)) t)) base w.heap.size (.slice none 0 0) (.slice none 0 0) [] [] [] := by
  have hh := heap_alloc_new w (.cells (Array.replicate 16 (.slice none 0 0)) t)
  have hc : ∀ j, j < 16 → (w.alloc (.cells (Array.replicate 16 (.slice none 0 0)) t)).cell? ⟨w.heap.size, j, none⟩ = some (.slice none 0 0) := by
    intro j hj
    rw [cell_of_row _ _ j _ _ (0, 0) hh]
    simp [hj]
  exact ⟨hb, fun j hj _ _ => hc j hj, hc 4 (by omega), hc 5 (by omega), frozen_of_row _ _ 4 _ _ hh, frozen_of_row _ _ 5 _ _ hh, Own.nil _ _ _, Own.nil _ _ _, by simp [Value.ownBlock], by simp [Value.ownBlock], by simp [Value.ownBlock], by simp, by simp, by simp⟩
/-- What one more list makes of a Book. -/
structure BookTo (w w' : World) (base g : Nat) (S T : Value) (vs us : List Value) (ls : List (List (Int × Int))) (v : Value) (l : List (Int × Int)) : Prop where
  ex : ∃ S' T' u, BookAt w' base g S' T' (vs ++ [v]) (us ++ [u]) (ls ++ [l]) ∧ (∀ b, S'.ownBlock = some b → S.ownBlock = some b ∨ w.heap.size ≤ b) ∧ (∀ b, T'.ownBlock = some b → T.ownBlock = some b ∨ w.heap.size ≤ b) ∧ (∀ b, u.ownBlock = some b → w.heap.size ≤ b)
  touched : Touched w w' (g :: (S.ownBlock.toList ++ T.ownBlock.toList))
theorem append_at {α : Type} {xs : List α} {x y : α} {i : Nat} (h : (xs ++ [x])[i]? = some y) : xs[i]? = some y ∨ (i = xs.length ∧ y = x) := by
  rcases Nat.lt_or_ge i xs.length with hi | hi
  · rw [List.getElem?_append_left hi] at h; exact .inl h
  · rw [List.getElem?_append_right hi] at h
    rcases Nat.eq_zero_or_pos (i - xs.length) with h0 | h0
    · rw [h0] at h; simp at h; exact .inr ⟨by omega, h.symm⟩
    · rw [List.getElem?_eq_none (by simp; omega)] at h; cases h
theorem append_old {α : Type} {xs : List α} {x y : α} {i : Nat} (h : xs[i]? = some y) : (xs ++ [x])[i]? = some y := by
  rw [List.getElem?_append_left (List.getElem?_eq_some_iff.1 h).1]; exact h
theorem append_new {α : Type} (xs : List α) (x : α) : (xs ++ [x])[xs.length]? = some x := by simp
theorem bookTo_mk {w W2 w3 w4 : World} {base g N n : Nat} {S T S1 T2 v u : Value} {vs us : List Value} {ls : List (List (Int × Int))} {l : List (Int × Int)} (h : BookAt w base g S T vs us ls) (hN : ls.length = N) (hn : n ≤ 1000000) (hln : l.length = n)
    (hl : Own w base 2 v n (pcells l)) (hd : ∀ b, v.ownBlock = some b → b ≠ g ∧ S.ownBlock ≠ some b ∧ T.ownBlock ≠ some b ∧ ∀ v' ∈ vs, v'.ownBlock ≠ some b)
    (hnil : ∀ j, j < 16 → j ≠ 4 → j ≠ 5 → W2.cell? ⟨g, j, none⟩ = some (.slice none 0 0)) (m4 : W2.cell? ⟨g, 4, none⟩ = some S1) (n4 : W2.frozen? ⟨g, 4, none⟩ = false)
    (hT2 : Touched w W2 (g :: S.ownBlock.toList)) (hS2 : Own W2 base 1 S1 (N + 1) (vs ++ [v])) (hV1 : S1.ownBlock = S.ownBlock ∨ ∃ b, S1.ownBlock = some b ∧ w.heap.size ≤ b)
    (hB3 : Below W2.heap.size W2 w3) (hU : Own w3 W2.heap.size 2 u n (pcells l)) (hT4 : Touched w3 w4 T.ownBlock.toList) (hO4 : Own w4 base 1 T2 (N + 1) (us ++ [u])) (hV2 : T2.ownBlock = T.ownBlock ∨ ∃ b, T2.ownBlock = some b ∧ w3.heap.size ≤ b)
    (u5 : (w4.cell? ⟨g, 5, none⟩).isSome = true) (x5 : w4.frozen? ⟨g, 5, none⟩ = false) : BookTo w (w4.setCell ⟨g, 5, none⟩ T2) base g S T vs us ls v l := by
  have hgl := h.gl
  have s1 := hT2.size
  have s2 := hB3.size
  have s3 := hT4.size
  have Sl : ∀ b, S.ownBlock = some b → b < w.heap.size := fun b hb => (h.hS.lt b hb).2
  have Tl : ∀ b, T.ownBlock = some b → b < w.heap.size := fun b hb => (h.hT.lt b hb).2
  have S1l : ∀ b, S1.ownBlock = some b → b < W2.heap.size := fun b hb => (hS2.lt b hb).2
  have ul : ∀ b, u.ownBlock = some b → W2.heap.size ≤ b ∧ b < w3.heap.size := fun b hb => hU.lt b hb
  have vl : ∀ b, v.ownBlock = some b → b < w.heap.size := fun b hb => (hl.lt b hb).2
  have S1c : ∀ b, S1.ownBlock = some b → S.ownBlock = some b ∨ w.heap.size ≤ b := by
    intro b hb
    rcases hV1 with e | ⟨b', e, hb'⟩
    · exact .inl (by rw [← e]; exact hb)
    · rw [e] at hb; injection hb with hb; exact .inr (by omega)
  have T2c : ∀ b, T2.ownBlock = some b → T.ownBlock = some b ∨ w3.heap.size ≤ b := by
    intro b hb
    rcases hV2 with e | ⟨b', e, hb'⟩
    · exact .inl (by rw [← e]; exact hb)
    · rw [e] at hb; injection hb with hb; exact .inr (by omega)
  have gT : g ∉ T.ownBlock.toList := by intro hm; exact h.tg (by simpa using hm)
  have hset : Touched w4 (w4.setCell ⟨g, 5, none⟩ T2) [g] := (Touched.refl _ _).setCell (.inl (by simp)) _
  have hWf : Touched W2 (w4.setCell ⟨g, 5, none⟩ T2) (g :: T.ownBlock.toList) :=
    ((Touched.of_below hB3 _).trans (hT4.mono (fun k hk _ => List.mem_cons_of_mem _ hk))).trans (hset.mono (by simp))
  have hf : Touched w (w4.setCell ⟨g, 5, none⟩ T2) (g :: (S.ownBlock.toList ++ T.ownBlock.toList)) :=
    (hT2.mono (by intro k hk _; simp at hk ⊢; rcases hk with h | h <;> simp [h])).trans (hWf.mono (by intro k hk _; simp at hk ⊢; rcases hk with h | h <;> simp [h]))
  have gW2 : g < W2.heap.size := by omega
  have gw3 : g < w3.heap.size := by omega
  have cell3 : ∀ j, j ≠ 5 → (w4.setCell ⟨g, 5, none⟩ T2).cell? ⟨g, j, none⟩ = W2.cell? ⟨g, j, none⟩ := by
    intro j hj
    rw [World.cell?_setCell_other w4 ⟨g, 5, none⟩ ⟨g, j, none⟩ _ (by first | (simp; done) | (simp; omega)), hT4.cell gw3 gT]
    exact (Touched.of_below hB3 []).cell gW2 (by simp)
  have old : ∀ (x : Value) (m : Nat) (xs : List Value), Own w base 2 x m xs → (∀ b, x.ownBlock = some b → b ≠ g ∧ S.ownBlock ≠ some b ∧ T.ownBlock ≠ some b) → Own (w4.setCell ⟨g, 5, none⟩ T2) base 2 x m xs ∧ ∀ b, x.ownBlock = some b → b ≠ g ∧ S1.ownBlock ≠ some b ∧ T2.ownBlock ≠ some b := by
    intro x m xs ho hx
    refine ⟨hf.own ho (fun k hk hm => ?_), fun b hb => ⟨(hx b hb).1, fun e => ?_, fun e => ?_⟩⟩
    · simp at hm
      rcases hm with rfl | hm | hm
      · exact (hx _ hk).1 rfl
      · exact (hx _ hk).2.1 hm
      · exact (hx _ hk).2.2 hm
    · rcases S1c b e with e | e
      · exact (hx b hb).2.1 e
      · have := (ho.lt b hb).2; omega
    · rcases T2c b e with e | e
      · exact (hx b hb).2.2 e
      · have := (ho.lt b hb).2; omega
  have hlen : (ls ++ [l]).length = N + 1 := by simp [hN]
  refine ⟨⟨S1, T2, u, ⟨h.gb, fun j hj a b => (cell3 j b).trans (hnil j hj a b), (cell3 4 (by omega)).trans m4, World.cell?_setCell_same' w4 _ _ (by simpa [Option.isSome_iff_ne_none] using u5), ?_, by rw [World.frozen?_setCell]; exact x5, ?_, ?_, ?_, ?_, ?_, ?_, ?_, ?_⟩, S1c, ?_, ?_⟩, hf⟩
  · rw [World.frozen?_setCell, hT4.free gw3 gT]
    exact ((Touched.of_below hB3 []).free gW2 (by simp)).trans n4
  · rw [hlen]
    refine hWf.own hS2 (fun k hk hm => ?_)
    simp at hm
    rcases S1c k hk with e | e
    · rcases hm with rfl | hm
      · exact h.sg e
      · exact h.st k e hm
    · rcases hm with rfl | hm
      · omega
      · have := Tl k hm; omega
  · rw [hlen]
    refine hset.own hO4 (fun k hk hm => ?_)
    simp at hm
    subst hm
    rcases T2c _ hk with e | e
    · exact h.tg e
    · omega
  · intro e
    rcases S1c g e with e | e
    · exact h.sg e
    · omega
  · intro e
    rcases T2c g e with e | e
    · exact h.tg e
    · omega
  · intro b hb hb2
    rcases T2c b hb2 with e2 | e2
    · rcases S1c b hb with e | e
      · exact h.st b e e2
      · have := Tl b e2; omega
    · have := S1l b hb; omega
  · intro i x hx
    rcases append_at hx with hx | ⟨rfl, rfl⟩
    · obtain ⟨a, y, hy, ho, hyd⟩ := h.hv i x hx
      obtain ⟨p, q⟩ := old y _ _ ho hyd
      exact ⟨a, y, append_old hy, p, q⟩
    · rw [hln]
      obtain ⟨p, q⟩ := old v _ _ hl (fun b hb => ⟨(hd b hb).1, (hd b hb).2.1, (hd b hb).2.2.1⟩)
      exact ⟨hn, v, by rw [← h.vlen]; exact append_new vs v, p, q⟩
  · intro i x hx
    rcases append_at hx with hx | ⟨rfl, rfl⟩
    · obtain ⟨y, hy, ho, hyd⟩ := h.hu i x hx
      obtain ⟨p, q⟩ := old y _ _ ho hyd
      exact ⟨y, append_old hy, p, q⟩
    · refine ⟨u, by rw [← h.ulen]; exact append_new us u, ?_, fun b hb => ⟨?_, fun e => ?_, fun e => ?_⟩⟩
      · rw [hln]
        refine hset.own (hT4.own (hU.weaken (by have := h.gb; omega)) (fun k hk hm => ?_)) (fun k hk hm => ?_)
        · have := Tl k (by simpa using hm); have := ul k hk; omega
        · simp at hm; have := ul k hk; omega
      · have := ul b hb; omega
      · have := ul b hb; have := S1l b e; omega
      · rcases T2c b e with e | e
        · have := Tl b e; have := ul b hb; omega
        · have := ul b hb; omega
  · intro i j x y b hij hx hy hb
    rcases append_at hx with hx1 | ⟨hx1, hx2⟩
    · rcases append_at hy with hy1 | ⟨hy1, hy2⟩
      · exact h.vd i j x y b hij hx1 hy1 hb
      · intro e
        rw [hy2] at e
        exact (hd b e).2.2.2 x (List.mem_of_getElem? hx1) hb
    · rcases append_at hy with hy1 | ⟨hy1, hy2⟩
      · rw [hx2] at hb
        exact (hd b hb).2.2.2 y (List.mem_of_getElem? hy1)
      · exact absurd (hx1.trans hy1.symm) hij
  · intro b hb
    rcases T2c b hb with e | e
    · exact .inl e
    · exact .inr (by omega)
  · intro b hb
    have := ul b hb
    omega
end Go.Proofs.Ytiocealhadlggaa
