/- Words and contracts that this claim leans on, one text behind the other. -/
import Derived.Test.YtbkankpfkbafdaaDoorMarkText
import Derived.Test.YtbkankpfkbafdaaDoorBundle4
/- masonrylaw6.alive: a first call. -/
namespace Go.Proofs.YtbkankpfkbafdaaDoor
open Go.RowKit
set_option linter.unusedVariables false

theorem of_new (k : Int) (l : List ByteArray) (n : Nat) (w : World) (hl : l.length = n) (hn : n ≤ 1000) (hs : totalLen l ≤ 1000000) :
    Calls Tryd.prog 7 #[.int .i64 k, .slice (some ⟨w.heap.size, 0, none⟩) n n] (w.alloc (.cells (scells l).toArray 9)) fun e w' => e = .returned (.tuple #[.agg #[.int .i64 (ofM k l).1, .string (ofM k l).2.1], .int .i64 (ofM k l).2.2]) ∧ Below w.heap.size w w' :=
  (of_calls k _ n n l _ hl (Nat.le_refl _) (by omega) hs (rowAt_alloc w (scells l) _)).mono fun _ _ ⟨he, hb⟩ => ⟨he, bel_calls (bel_alloc (Below.refl _ _) _) hb⟩
theorem markAlive_calls (w : World) : Calls Tryd.prog 6 #[] w fun e w' => e = .returned (.bool true) ∧ Below w.heap.size w w' := by
  have H1 : Box _ := ⟨of_new 1 [⟨#[97]⟩, ⟨#[98, 99]⟩] 2 w rfl (by omega) (by decide)⟩
  have hM : ofM 1 [⟨#[97]⟩, ⟨#[98, 99]⟩] = (1, sumB [⟨#[97]⟩, ⟨#[98, 99]⟩], 0) := rfl
  rw [hM] at H1
  have hT := known_abc
  have hz : (sumB [⟨#[97]⟩, ⟨#[98, 99]⟩]).size = 20 := sumB_size _
  obtain ⟨s, hs⟩ : ∃ s, sumB [⟨#[97]⟩, ⟨#[98, 99]⟩] = s := ⟨_, rfl⟩
  rw [hs] at H1 hT hz
  have T1 : Box _ := ⟨fun W => text_calls 1 s W (by omega)⟩
  rw [hT] at T1
  have hv : validM 1 s = true := by rw [validM, hz]; rfl
  have V1 : Box _ := ⟨fun W => valid_calls 1 s W⟩
  rw [hv] at V1
  have S1 : Box _ := ⟨fun W => size_calls 2 W⟩
  clear hM hT hz hs hv
  go_enter Tryd.func6, Tryd.ntmps6
  go_wp2_with fail
  refine H1.out.mono ?_
  rintro e w1 ⟨rfl, hb1⟩
  have HB1 : Box _ := ⟨hb1⟩
  clear hb1
  have HP1 : Box _ := ⟨PrintAt.new w1 1 s⟩
  have HB2 : Box _ := ⟨bel_alloc HB1.out (.cells #[.int .i64 1, .string s] 24)⟩
  go_wp2_with fail
  refine (T1.out _).mono ?_
  rintro e w2 ⟨rfl, hb2⟩
  have HP2 : Box _ := ⟨HP1.out.below hb2⟩
  have HB3 : Box _ := ⟨bel_calls HB2.out hb2⟩
  have c0 := HP2.out.c0
  have c1 := HP2.out.c1
  clear hb2
  go_wp2_with fail
  refine (V1.out _).mono ?_
  rintro e w3 ⟨rfl, hb3⟩
  have HB4 : Box _ := ⟨bel_calls HB3.out hb3⟩
  clear hb3 c0 c1
  go_wp2_with fail
  refine (S1.out _).mono ?_
  rintro e w4 ⟨rfl, rfl⟩
  go_wp2_with fail
  go_ret
  exact ⟨rfl, HB4.out⟩
end Go.Proofs.YtbkankpfkbafdaaDoor

/- An Out of a call's own, beside rows that the same statement has built in any order. -/
namespace Go.Proofs.YtbkankpfkbafdaaDoor
open Go.RowKit
set_option linter.unusedVariables false

structure RowsR (w0 w : World) (L : List (Nat × List Value)) : Prop where
  rows : ∀ r ∈ L, r.1 < w.heap.size ∧ RowAt w (some ⟨r.1, 0, none⟩) r.2
  bel : Below w0.heap.size w0 w
structure OutR (w0 w : World) (g : Nat) (d : Int × List UInt8) (L : List (Nat × List Value)) : Prop where
  ex : ∃ v, OutS w g v d.1 d.2 ∧ ∀ b, v.ownBlock = some b → w0.heap.size ≤ b ∧ ∀ r ∈ L, r.1 ≠ b
  rows : ∀ r ∈ L, r.1 ≠ g ∧ r.1 < w.heap.size ∧ RowAt w (some ⟨r.1, 0, none⟩) r.2
  ge : w0.heap.size ≤ g
  bel : Below w0.heap.size w0 w
section
variable {P : Program} {f : FuncId} {args : Array Value} {w0 w w1 : World} {g : Nat} {R : Ending} {d d' : Int × List UInt8} {L : List (Nat × List Value)}
theorem RowsR.nil (h : Below w0.heap.size w0 w) : RowsR w0 w [] := ⟨by simp, h⟩
theorem RowsR.below (h : RowsR w0 w L) (hb : Below w.heap.size w w1) : RowsR w0 w1 L :=
  ⟨fun r hr => ⟨Nat.lt_of_lt_of_le (h.rows r hr).1 hb.size, (h.rows r hr).2.below hb⟩, below_trans' h.bel hb⟩
theorem RowsR.allocRow (h : RowsR w0 w L) (cs : List Value) (t : TypeId) : RowsR w0 (w.alloc (.cells cs.toArray t)) ((w.heap.size, cs) :: L) := by
  have hb : Below w.heap.size w (w.alloc (.cells cs.toArray t)) := (Below.refl _ _).alloc (Nat.le_refl _) _
  refine ⟨fun r hr => ?_, below_trans' h.bel hb⟩
  rcases List.mem_cons.1 hr with rfl | hr
  · exact ⟨by simp, rowAt_alloc w cs t⟩
  · exact (h.below hb).rows r hr
theorem RowsR.newOut (h : RowsR w0 w L) (hg : g = w.heap.size) : OutR w0 (w.alloc (.cells #[.slice none 0 0, .int .i64 0] 50)) g (0, []) L := by
  subst hg
  have hb : Below w.heap.size w (w.alloc (.cells #[.slice none 0 0, .int .i64 0] 50)) := (Below.refl _ _).alloc (Nat.le_refl _) _
  refine ⟨⟨_, outNew w, by simp [Value.ownBlock]⟩, fun r hr => ⟨?_, (h.below hb).rows r hr⟩, h.bel.size, below_trans' h.bel hb⟩
  have := (h.rows r hr).1
  omega
theorem OutR.below (h : OutR w0 w g d L) (hb : Below w.heap.size w w1) : OutR w0 w1 g d L := by
  obtain ⟨v, hv, hv2⟩ := h.ex
  exact ⟨⟨v, hv.below hb, hv2⟩, fun r hr => ⟨(h.rows r hr).1, Nat.lt_of_lt_of_le (h.rows r hr).2.1 hb.size, (h.rows r hr).2.2.below hb⟩, h.ge, below_trans' h.bel hb⟩
theorem OutR.drew (h : OutR w0 w g d L) : OutR w0 w.drew g d L := h.below (below_drewN (Below.refl _ _) 1)
theorem OutR.allocRow (h : OutR w0 w g d L) (cs : List Value) (t : TypeId) : OutR w0 (w.alloc (.cells cs.toArray t)) g d ((w.heap.size, cs) :: L) := by
  have hb : Below w.heap.size w (w.alloc (.cells cs.toArray t)) := (Below.refl _ _).alloc (Nat.le_refl _) _
  obtain ⟨v, hv, hv2⟩ := h.ex
  refine ⟨⟨v, hv.below hb, fun b hb' => ⟨(hv2 b hb').1, fun r hr => ?_⟩⟩, fun r hr => ?_, h.ge, below_trans' h.bel hb⟩
  · rcases List.mem_cons.1 hr with rfl | hr
    · have := hv.vlt hb'; simp only; omega
    · exact (hv2 b hb').2 r hr
  · rcases List.mem_cons.1 hr with rfl | hr
    · have := hv.lt
      exact ⟨by simp only; omega, by simp, rowAt_alloc w cs t⟩
    · exact (h.below hb).rows r hr
theorem OutR.cell {b j : Nat} {cs : List Value} {u : Value} (h : OutR w0 w g d L) (hm : (b, cs) ∈ L) (hj : cs[j]? = some u) : w.cell? ⟨b, j, none⟩ = some u := by
  obtain ⟨ad, e, hc⟩ := (h.rows _ hm).2.2.get hj
  injection e with e
  subst e
  rwa [add0] at hc
theorem OutR.step (h : OutR w0 w g d L) (c : ∀ v, OutS w g v d.1 d.2 → (∀ r ∈ L, ∀ w', Touched w w' (g :: v.ownBlock.toList) → RowAt w' (some ⟨r.1, 0, none⟩) r.2) → Calls P f args w fun r w' => r = R ∧ OutTo w w' g v d') : Calls P f args w fun r w' => r = R ∧ OutR w0 w' g d' L := by
  obtain ⟨v, hv, hv2⟩ := h.ex
  have keep : ∀ r ∈ L, ∀ w', Touched w w' (g :: v.ownBlock.toList) → RowAt w' (some ⟨r.1, 0, none⟩) r.2 := by
    intro r hr w' hT
    refine row_touched (h.rows r hr).2.2 hT (.inr ⟨_, rfl, ?_⟩)
    intro hm
    simp only [List.mem_cons, Option.mem_toList] at hm
    rcases hm with hm | hm
    · exact (h.rows r hr).1 hm
    · exact (hv2 _ hm).2 r hr rfl
  refine (c v hv keep).mono fun r w' ⟨h1, h2⟩ => ⟨h1, ?_⟩
  obtain ⟨⟨v', h3, h4⟩, h5⟩ := h2
  refine ⟨⟨v', h3, fun b hb => ?_⟩, fun r hr => ⟨(h.rows r hr).1, Nat.lt_of_lt_of_le (h.rows r hr).2.1 h5.size, keep r hr w' h5⟩, h.ge, h5.below h.bel h.bel.size ?_⟩
  · rcases h4 b hb with h6 | h6
    · exact hv2 b h6
    · exact ⟨Nat.le_trans h.bel.size h6, fun r hr => by have := (h.rows r hr).2.1; omega⟩
  · intro k hk
    simp only [List.mem_cons, Option.mem_toList] at hk
    rcases hk with rfl | hk
    · exact h.ge
    · exact (hv2 k hk).1
end
section
variable {w0 w : World} {g b : Nat} {d : Int × List UInt8} {L : List (Nat × List Value)}
theorem outByte_row (h : OutR w0 w g d L) (n c : Nat) (xs : List Int) (hm : (b, icells xs) ∈ L) (hxn : xs.length = n) (hn : n ≤ 1000000) (hsz : d.2.length ≤ 1000000000) (hx : ∀ z ∈ xs, -9223372036854775808 ≤ z ∧ z ≤ 9223372036854775807) :
    Calls Tryd.prog 29 #[.pointer (some ⟨g, 0, none⟩), .slice (some ⟨b, 0, none⟩) n c] w fun r w' => r = .returned (.pointer (some ⟨g, 0, none⟩)) ∧ OutR w0 w' g (layO 1 d xs) L :=
  h.step fun v hv hr => outByte_calls g v d.1 d.2 _ n c xs w hxn hv hn hsz hx (hr _ hm)
theorem outRaw_row (h : OutR w0 w g d L) (n c : Nat) (ts : List ByteArray) (hm : (b, scells ts) ∈ L) (hts : ts.length = n) (hn : n ≤ 1000000) (hsz : d.2.length + totalLen ts ≤ 140737488355328) :
    Calls Tryd.prog 30 #[.pointer (some ⟨g, 0, none⟩), .slice (some ⟨b, 0, none⟩) n c] w fun r w' => r = .returned (.pointer (some ⟨g, 0, none⟩)) ∧ OutR w0 w' g (rawO d ts) L := by
  subst hts
  exact h.step fun v hv hr => outRaw_calls g v d.1 d.2 _ c ts w hv (by omega) hsz (hr _ hm)
theorem outPad_row (h : OutR w0 w g d L) (n : Int) :
    Calls Tryd.prog 31 #[.pointer (some ⟨g, 0, none⟩), .int .i64 n] w fun r w' => r = .returned (.pointer (some ⟨g, 0, none⟩)) ∧ OutR w0 w' g (padO d n) L :=
  h.step fun v hv _ => outPad_calls g v d.1 d.2 n w hv
theorem outEnd_row (h : OutR w0 w g d L) :
    Calls Tryd.prog 32 #[.pointer (some ⟨g, 0, none⟩)] w fun r w' => r = .returned (.tuple #[.string (endO d).1, .int .i64 (endO d).2]) ∧ OutR w0 w' g d L := by
  obtain ⟨v, hv, hb⟩ := h.ex
  exact (outEnd_calls g v d.1 d.2 w hv).mono fun r w' ⟨h1, h2⟩ => ⟨h1, h.below h2⟩
end
end Go.Proofs.YtbkankpfkbafdaaDoor
