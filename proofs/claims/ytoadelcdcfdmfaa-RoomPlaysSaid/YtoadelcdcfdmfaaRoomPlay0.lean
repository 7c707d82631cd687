/- RoomPlays: the state between two calls: a room, what is in use, the lists that are kept; plain laws. -/
import Derived.Test.YtoadelcdcfdmfaaRoomRead
import Derived.Test.YtoadelcdcfdmfaaRoomLaw
import Derived.Test.YtoadelcdcfdmfaaBundle5
import Derived.Test.YtoadelcdcfdmfaaElem
namespace Go.Proofs.Ytoadelcdcfdmfaa
open Go.RowKit
set_option linter.unusedVariables false

/-- An act of masonrylaw10 that came in. -/
structure ActV where
  kind : Int
  a : Option Addr
  n : Nat
  c : Nat
  l : List Int
deriving Inhabited
def ActV.cells (o : ActV) : List Value := [.int .i64 o.kind, .slice o.a o.n o.c]
theorem ActV.two (o : ActV) : o.cells.length = 2 := rfl
structure ActV.Good (w : World) (o : ActV) : Prop where
  h1 : o.l.length = o.n
  b1 : o.n * 8 ≤ 140737488351232
  r1 : RowAt w o.a (icells o.l)
  s1 : ∀ x ∈ o.l, -9223372036854775808 ≤ x ∧ x ≤ 9223372036854775807
  kd : -9223372036854775808 ≤ o.kind ∧ o.kind ≤ 9223372036854775807
theorem act_at {w : World} {A : Option Addr} {l : List ActV} (h : RowAt w A (l.flatMap ActV.cells)) {k : Nat} {x : ActV} (hk : l[k]? = some x) :
    ∃ b o, A = some ⟨b, o, none⟩ ∧ b < w.heap.size ∧ w.cell? ⟨b, o + k * 2, none⟩ = some (.int .i64 x.kind) ∧ w.cell? ⟨b, o + k * 2 + 1, none⟩ = some (.slice x.a x.n x.c) := by
  obtain ⟨b, o, e, hb, hc⟩ := elem_at ActV.two (by decide) h hk
  exact ⟨b, o, e, hb, hc 0 _ rfl, hc 1 _ rfl⟩

/-- The blocks that the Book leans on. -/
def bk (gb : Nat) (S T : Value) (vs us : List Value) (k : Nat) : Prop := k = gb ∨ S.ownBlock = some k ∨ T.ownBlock = some k ∨ (∃ v ∈ vs, v.ownBlock = some k) ∨ ∃ u ∈ us, u.ownBlock = some k
structure PlayAt (w wx : World) (gb n i g h c : Nat) (f : Nat → Bool) (A : Option Addr) (S T : Value) (vs us : List Value) (ls : List (List Int)) : Prop where
  room : RoomAt wx g h c n f
  row : RowAt wx A (icells (idsL f n))
  book : BookAt wx gb gb S T vs us ls
  len : ls.length = i
  small : ∀ l ∈ ls, l.length ≤ 1900
  off : ∀ k, bk gb S T vs us k → k ≠ g ∧ k ≠ h ∧ ∀ b o, A = some ⟨b, o, none⟩ → b ≠ k
  oA : A = none ∨ ∃ b, A = some ⟨b, 0, none⟩ ∧ b ≠ h ∧ b < wx.heap.size
  gbw : w.heap.size ≤ gb
  hw : w.heap.size ≤ h
  bel : Below w.heap.size w wx
section
variable {w wx w1 : World} {gb n i g h c : Nat} {f f' : Nat → Bool} {A A' : Option Addr} {S T : Value} {vs us : List Value} {ls : List (List Int)}
theorem BookAt.blk {base : Nat} (hB : BookAt wx base gb S T vs us ls) (k : Nat) (hk : bk gb S T vs us k) : k < wx.heap.size := by
  rcases hk with rfl | hk | hk | ⟨v, hv, hk⟩ | ⟨u, hu, hk⟩
  · exact hB.gl
  · exact (hB.hS.lt k hk).2
  · exact (hB.hT.lt k hk).2
  · obtain ⟨j, hj, rfl⟩ := List.getElem_of_mem hv
    have hl : j < ls.length := by rw [← hB.vlen]; exact hj
    obtain ⟨_, v', e, ho, _⟩ := hB.hv j ls[j] (List.getElem?_eq_getElem hl)
    rw [List.getElem?_eq_getElem hj] at e
    injection e with e
    subst e
    exact (ho.lt k hk).2
  · obtain ⟨j, hj, rfl⟩ := List.getElem_of_mem hu
    have hl : j < ls.length := by rw [← hB.ulen]; exact hj
    obtain ⟨v', e, ho, _⟩ := hB.hu j ls[j] (List.getElem?_eq_getElem hl)
    rw [List.getElem?_eq_getElem hj] at e
    injection e with e
    subst e
    exact (ho.lt k hk).2
theorem PlayAt.move (P : PlayAt w wx gb n i g h c f A S T vs us ls) (hT : Touched wx w1 [h]) {g' h' c' : Nat} (hr : RoomAt w1 g' h' c' n f') (hg : g' = g ∨ wx.heap.size ≤ g') (hh : h' = h ∨ wx.heap.size ≤ h')
    (hA : RowAt w1 A' (icells (idsL f' n))) (ho : (A' = A ∨ A' = none) ∨ h' = h ∧ ∃ b, A' = some ⟨b, 0, none⟩ ∧ wx.heap.size ≤ b ∧ b < w1.heap.size) : PlayAt w w1 gb n i g' h' c' f' A' S T vs us ls := by
  have hlt := P.room.hlt
  refine ⟨hr, hA, ?_, P.len, P.small, ?_, ?_, P.gbw, ?_, ?_⟩
  · have ho := P.off
    refine P.book.touched hT ?_ ?_ ?_ ?_
    · simp; exact (ho gb (.inl rfl)).2.1
    · intro b hb; simp at hb; subst hb
      exact ⟨fun e => (ho _ (.inr (.inl e))).2.1 rfl, fun e => (ho _ (.inr (.inr (.inl e)))).2.1 rfl⟩
    · intro v hv b hb e; simp at hb; subst hb
      exact (ho _ (.inr (.inr (.inr (.inl ⟨v, hv, e⟩))))).2.1 rfl
    · intro v hv b hb e; simp at hb; subst hb
      exact (ho _ (.inr (.inr (.inr (.inr ⟨v, hv, e⟩))))).2.1 rfl
  · intro k hk
    have hlk := P.book.blk k hk
    obtain ⟨o1, o2, o3⟩ := P.off k hk
    refine ⟨?_, ?_, ?_⟩
    · rcases hg with rfl | hg
      · exact o1
      · omega
    · rcases hh with rfl | hh
      · exact o2
      · omega
    · intro b o e
      rcases ho with (rfl | rfl) | ⟨_, b', rfl, hb', _⟩
      · exact o3 b o e
      · cases e
      · injection e with e; injection e with e1 e2; omega
  · rcases ho with (rfl | rfl) | ⟨rfl, b', rfl, hb', hb''⟩
    · rcases P.oA with e | ⟨b, e, hb, hb2⟩
      · exact .inl e
      · refine .inr ⟨b, e, ?_, Nat.lt_of_lt_of_le hb2 hT.size⟩
        rcases hh with rfl | hh
        · exact hb
        · omega
    · exact .inl rfl
    · exact .inr ⟨b', rfl, by omega, hb''⟩
  · rcases hh with rfl | hh
    · exact P.hw
    · have := P.bel.size; omega
  · exact hT.below P.bel P.bel.size (by intro k hk; simp at hk; subst hk; exact P.hw)
theorem PlayAt.below (P : PlayAt w wx gb n i g h c f A S T vs us ls) (hb : Below wx.heap.size wx w1) : PlayAt w w1 gb n i g h c f A S T vs us ls := by
  refine P.move (Touched.of_below hb _) (P.room.below hb) (.inl rfl) (.inl rfl) (P.row.below hb) (.inl (.inl rfl))
/-- One more list is kept. -/
theorem PlayAt.keep (P : PlayAt w wx gb n i g h c f A S T vs us ls) {w2 : World} {v : Value} {l : List Int} (hb : Below wx.heap.size wx w1) (hl : l.length ≤ 1900) (hv : ∀ k, v.ownBlock = some k → wx.heap.size ≤ k) (hto : BookTo w1 w2 gb gb S T vs us ls v l) :
    ∃ S' T' u, PlayAt w w2 gb n (i + 1) g h c f A S' T' (vs ++ [v]) (us ++ [u]) (ls ++ [l]) := by
  obtain ⟨S', T', u, hB, hS, hT, hu⟩ := hto.ex
  have hsz := hb.size
  have P1 := P.below hb
  have hTo := hto.touched
  have key : ∀ k ∈ gb :: (S.ownBlock.toList ++ T.ownBlock.toList), bk gb S T vs us k := by
    intro k hk
    simp only [List.mem_cons, List.mem_append, Option.mem_toList] at hk
    rcases hk with rfl | hk | hk
    · exact .inl rfl
    · exact .inr (.inl hk)
    · exact .inr (.inr (.inl hk))
  have hgn : g ∉ gb :: (S.ownBlock.toList ++ T.ownBlock.toList) := fun hm => (P.off g (key g hm)).1 rfl
  have hhn : h ∉ gb :: (S.ownBlock.toList ++ T.ownBlock.toList) := fun hm => (P.off h (key h hm)).2.1 rfl
  refine ⟨S', T', u, P1.room.touched hTo hgn hhn, ?_, hB, by rw [List.length_append, P.len]; rfl, ?_, ?_, ?_, P.gbw, P.hw, ?_⟩
  · refine row_touched P1.row hTo ?_
    rcases P.oA with e | ⟨b, e, _⟩
    · exact .inl e
    · exact .inr ⟨b, e, fun hm => (P.off b (key b hm)).2.2 b 0 e rfl⟩
  · intro x hx
    rcases List.mem_append.1 hx with hx | hx
    · exact P.small x hx
    · simp at hx; subst hx; exact hl
  · have hgl := P1.room.glt
    have hhl := P1.room.hlt
    have hg0 := P.room.glt
    have hh0 := P.room.hlt
    have new : ∀ k, wx.heap.size ≤ k → k ≠ g ∧ k ≠ h ∧ ∀ b o, A = some ⟨b, o, none⟩ → b ≠ k := by
      intro k hk
      refine ⟨by omega, by omega, fun b o e => ?_⟩
      rcases P.oA with e2 | ⟨b', e2, _, hb'⟩
      · rw [e2] at e; cases e
      · rw [e2] at e; injection e with e; injection e with e1 e3; omega
    intro k hk
    rcases hk with rfl | hk | hk | ⟨x, hx, hk⟩ | ⟨x, hx, hk⟩
    · exact P.off _ (.inl rfl)
    · rcases hS k hk with h1 | h1
      · exact P.off _ (.inr (.inl h1))
      · exact new k (by omega)
    · rcases hT k hk with h1 | h1
      · exact P.off _ (.inr (.inr (.inl h1)))
      · exact new k (by omega)
    · rcases List.mem_append.1 hx with hx | hx
      · exact P.off _ (.inr (.inr (.inr (.inl ⟨x, hx, hk⟩))))
      · simp at hx; subst hx; exact new k (hv k hk)
    · rcases List.mem_append.1 hx with hx | hx
      · exact P.off _ (.inr (.inr (.inr (.inr ⟨x, hx, hk⟩))))
      · simp at hx; subst hx; exact new k (by have := hu k hk; omega)
  · rcases P.oA with e | ⟨b, e, h1, h2⟩
    · exact .inl e
    · exact .inr ⟨b, e, h1, by have := hTo.size; omega⟩
  · refine hTo.below P1.bel P1.bel.size ?_
    intro k hk
    rcases key k hk with rfl | h1 | h1 | ⟨x, hx, h1⟩ | ⟨x, hx, h1⟩
    · exact P.gbw
    · have := (P.book.hS.lt k h1).1; have := P.gbw; omega
    · have := (P.book.hT.lt k h1).1; have := P.gbw; omega
    · have := P.gbw
      have : gb ≤ k := by
        simp only [List.mem_cons, List.mem_append, Option.mem_toList] at hk
        rcases hk with rfl | hk | hk
        · exact Nat.le_refl _
        · exact (P.book.hS.lt k hk).1
        · exact (P.book.hT.lt k hk).1
      omega
    · have := P.gbw
      have : gb ≤ k := by
        simp only [List.mem_cons, List.mem_append, Option.mem_toList] at hk
        rcases hk with rfl | hk | hk
        · exact Nat.le_refl _
        · exact (P.book.hS.lt k hk).1
        · exact (P.book.hT.lt k hk).1
      omega
end

/-- The least number that is free, or n. -/
theorem least_free (f : Nat → Bool) (n : Nat) : ∃ K, K ≤ n ∧ (∀ j, j < K → f j = true) ∧ (K < n → f K = false) := by
  induction n with
  | zero => exact ⟨0, Nat.le_refl _, by omega, by omega⟩
  | succ n ih =>
    obtain ⟨K, h1, h2, h3⟩ := ih
    by_cases e : K < n
    · exact ⟨K, by omega, h2, fun _ => h3 e⟩
    · obtain rfl : K = n := by omega
      by_cases hf : f K = true
      · refine ⟨K + 1, by omega, fun j hj => ?_, by omega⟩
        rcases Nat.lt_or_ge j K with h | h
        · exact h2 j h
        · obtain rfl : j = K := by omega
          exact hf
      · exact ⟨K, by omega, h2, fun _ => by simpa using hf⟩
theorem putL_ids (f : Nat → Bool) {n k : Nat} (hk : k < n) : putL (idsL f n) (k : Int) = idsL (upd f k true) n := by
  refine sorted_ext _ _ (putL_sorted _ _ (idsL_sorted f n)) (idsL_sorted _ n) fun x => ?_
  rw [putL_mem, idsL_mem, idsL_mem]
  constructor
  · rintro (rfl | ⟨j, hj, rfl, hf⟩)
    · exact ⟨k, hk, rfl, by simp [upd]⟩
    · refine ⟨j, hj, rfl, ?_⟩
      unfold upd
      split
      · rfl
      · exact hf
  · rintro ⟨j, hj, rfl, hf⟩
    by_cases e : j = k
    · exact .inl (by rw [e])
    · refine .inr ⟨j, hj, rfl, ?_⟩
      unfold upd at hf
      rwa [if_neg e] at hf
theorem among_ids (f : Nat → Bool) (n : Nat) (x : Int) : decide (x ∈ idsL f n) = (decide (0 ≤ x ∧ x < (n : Int)) && f x.toNat) := by
  rw [Bool.eq_iff_iff]
  simp only [decide_eq_true_eq, Bool.and_eq_true, idsL_mem]
  constructor
  · rintro ⟨j, hj, rfl, hf⟩
    exact ⟨by omega, by simpa using hf⟩
  · rintro ⟨⟨h0, h1⟩, hf⟩
    exact ⟨x.toNat, by omega, by omega, hf⟩
theorem roomB_open (n : Nat) (f : Nat → Bool) (hn : n ≤ 1900) : ∃ m, openB (roomB n f) = (roomRaw n f ++ zerosB m, 0) ∧ (roomB n f).size = 256 ∧ 3 + (n + 7) / 8 + m = 252 := by
  have h := roomRaw_size n f
  have e : roomB n f = sealOk (roomRaw n f) (256 - 4 - (roomRaw n f).size) := by
    rw [roomB, sealB, if_neg (by omega), if_neg (by omega)]
    rfl
  refine ⟨256 - 4 - (roomRaw n f).size, ?_, ?_, by omega⟩
  · rw [e, open_seal]
  · rw [e, sealOk_size]; omega
end Go.Proofs.Ytoadelcdcfdmfaa
