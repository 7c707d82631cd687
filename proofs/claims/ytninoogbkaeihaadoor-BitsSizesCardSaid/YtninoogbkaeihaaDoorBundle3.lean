/- Words and contracts that this claim leans on, one text behind the other. -/
import Derived.Test.YtninoogbkaeihaaDoorBundle2
import Derived.Test.YtninoogbkaeihaaDoorOutPad
import Derived.Test.YtninoogbkaeihaaDoorBundle1
import Derived.ProofKit
import Derived.OpenShut
import Derived.ShutString
import Derived.ChangeOld
import Derived.SizedLaws
import Derived.Deep.Slices
import Derived.KernelRfl
import Derived.Test.YtninoogbkaeihaaDoorRows
import Derived.Deep.DeepHandedRow
import Derived.Deep.DeepWitnessRowRef
import Derived.Lib.LaidU8
import Derived.Deep.DeepLaidRun
import Derived.Orders
import Derived.RegionTactic
/- An Out, an In of a law's own: all calls on it, said in one form (the world it began in; what it holds). -/
namespace Go.Proofs.YtninoogbkaeihaaDoor
open Go.RowKit
set_option linter.unusedVariables false

structure OutI (w0 w : World) (g : Nat) (d : Int × List UInt8) : Prop where
  ex : ∃ v, OutS w g v d.1 d.2 ∧ ∀ b, v.ownBlock = some b → w0.heap.size ≤ b
  ge : w0.heap.size ≤ g
  bel : Below w0.heap.size w0 w
structure InI (w0 w : World) (g : Nat) (d : Int × ByteArray) : Prop where
  at_ : InS w g d.1 d.2
  ge : w0.heap.size ≤ g
  bel : Below w0.heap.size w0 w
section
variable {P : Program} {f : FuncId} {args : Array Value} {w0 w w1 : World} {g : Nat} {R : Ending}
theorem OutI.step {d d' : Int × List UInt8} (h : OutI w0 w g d) (c : ∀ v, OutS w g v d.1 d.2 → Calls P f args w1 fun r w' => r = R ∧ OutTo w w' g v d') : Calls P f args w1 fun r w' => r = R ∧ OutI w0 w' g d' := by
  obtain ⟨v, hv, hb⟩ := h.ex
  refine (c v hv).mono fun r w' ⟨h1, h2⟩ => ⟨h1, ?_⟩
  obtain ⟨⟨v', h3, h4⟩, h5⟩ := h2
  refine ⟨⟨v', h3, fun b hb' => ?_⟩, h.ge, h5.below h.bel h.bel.size ?_⟩
  · rcases h4 b hb' with h6 | h6
    · exact hb b h6
    · exact Nat.le_trans h.bel.size h6
  · intro k hk
    simp only [List.mem_cons, Option.mem_toList] at hk
    rcases hk with rfl | hk
    · exact h.ge
    · exact hb k hk
theorem OutI.below {d : Int × List UInt8} (h : OutI w0 w g d) (hb : Below w.heap.size w w1) : OutI w0 w1 g d := by
  obtain ⟨v, hv, hv2⟩ := h.ex
  exact ⟨⟨v, hv.below hb, hv2⟩, h.ge, below_trans' h.bel hb⟩
theorem OutI.new (h : Below w0.heap.size w0 w) : OutI w0 (w.alloc (.cells #[.slice none 0 0, .int .i64 0] 27)) w.heap.size (0, []) :=
  ⟨⟨_, outNew w, by simp [Value.ownBlock]⟩, h.size, h.alloc h.size _⟩
theorem InI.step {d : Int × ByteArray} {e : Int} {s : ByteArray} (h : InI w0 w g d) (c : InS w g d.1 d.2 → Calls P f args w fun r w' => r = R ∧ InS w' g e s ∧ Touched w w' [g]) : Calls P f args w fun r w' => r = R ∧ InI w0 w' g (e, s) :=
  (c h.at_).mono fun r w' ⟨h1, h2, h3⟩ => ⟨h1, h2, h.ge, h3.below h.bel h.bel.size (by have := h.ge; simpa using this)⟩
theorem InI.below {d : Int × ByteArray} (h : InI w0 w g d) (hb : Below w.heap.size w w1) : InI w0 w1 g d := ⟨h.at_.below hb, h.ge, below_trans' h.bel hb⟩
end
section
variable {w0 w : World} {g : Nat}
theorem outByte_in {d : Int × List UInt8} (h : OutI w0 w g d) (n : Nat) (xs : List Int) (hxn : xs.length = n) (hn : n ≤ 1000000) (hsz : d.2.length ≤ 1000000000) (hx : ∀ z ∈ xs, -9223372036854775808 ≤ z ∧ z ≤ 9223372036854775807) :
    Calls Tryd.prog 5 #[.pointer (some ⟨g, 0, none⟩), .slice (some ⟨w.heap.size, 0, none⟩) n n] (w.alloc (.cells (icells xs).toArray 3)) fun r w' => r = .returned (.pointer (some ⟨g, 0, none⟩)) ∧ OutI w0 w' g (layO 1 d xs) :=
  h.step fun v hv => outByte_new g v d.1 d.2 n xs w hxn hv hn hsz hx
theorem outHalf_in {d : Int × List UInt8} (h : OutI w0 w g d) (n : Nat) (xs : List Int) (hxn : xs.length = n) (hn : n ≤ 1000000) (hsz : d.2.length ≤ 1000000000) (hx : ∀ z ∈ xs, -9223372036854775808 ≤ z ∧ z ≤ 9223372036854775807) :
    Calls Tryd.prog 6 #[.pointer (some ⟨g, 0, none⟩), .slice (some ⟨w.heap.size, 0, none⟩) n n] (w.alloc (.cells (icells xs).toArray 3)) fun r w' => r = .returned (.pointer (some ⟨g, 0, none⟩)) ∧ OutI w0 w' g (layO 2 d xs) :=
  h.step fun v hv => outHalf_new g v d.1 d.2 n xs w hxn hv hn hsz hx
theorem inHalf_in {d : Int × ByteArray} (h : InI w0 w g d) (hs : d.2.size ≤ 1000000000) :
    Calls Tryd.prog 12 #[.pointer (some ⟨g, 0, none⟩)] w fun r w' => r = .returned (.int .i64 (lowI d.1 d.2 2).1) ∧ InI w0 w' g (lowI d.1 d.2 2).2 :=
  h.step fun hv => inHalf_calls g d.1 d.2 w hv hs
theorem outWord_in {d : Int × List UInt8} (h : OutI w0 w g d) (n : Nat) (xs : List Int) (hxn : xs.length = n) (hn : n ≤ 1000000) (hsz : d.2.length ≤ 1000000000) (hx : ∀ z ∈ xs, -9223372036854775808 ≤ z ∧ z ≤ 9223372036854775807) :
    Calls Tryd.prog 7 #[.pointer (some ⟨g, 0, none⟩), .slice (some ⟨w.heap.size, 0, none⟩) n n] (w.alloc (.cells (icells xs).toArray 3)) fun r w' => r = .returned (.pointer (some ⟨g, 0, none⟩)) ∧ OutI w0 w' g (layO 4 d xs) :=
  h.step fun v hv => outWord_new g v d.1 d.2 n xs w hxn hv hn hsz hx
theorem outLong_in {d : Int × List UInt8} (h : OutI w0 w g d) (n : Nat) (xs : List Int) (hxn : xs.length = n) (hn : n ≤ 1000000) (hsz : d.2.length ≤ 1000000000) (hx : ∀ z ∈ xs, -9223372036854775808 ≤ z ∧ z ≤ 9223372036854775807) :
    Calls Tryd.prog 8 #[.pointer (some ⟨g, 0, none⟩), .slice (some ⟨w.heap.size, 0, none⟩) n n] (w.alloc (.cells (icells xs).toArray 3)) fun r w' => r = .returned (.pointer (some ⟨g, 0, none⟩)) ∧ OutI w0 w' g (layO 8 d xs) :=
  h.step fun v hv => outLong_new g v d.1 d.2 n xs w hxn hv hn hsz hx
theorem outText_in {d : Int × List UInt8} (h : OutI w0 w g d) (n : Nat) (ts : List ByteArray) (hts : ts.length = n) (hn : n ≤ 1000000) (hsz : d.2.length + totalLen ts + 2 * n ≤ 1000000000) :
    Calls Tryd.prog 9 #[.pointer (some ⟨g, 0, none⟩), .slice (some ⟨w.heap.size, 0, none⟩) n n] (w.alloc (.cells (scells ts).toArray 9)) fun r w' => r = .returned (.pointer (some ⟨g, 0, none⟩)) ∧ OutI w0 w' g (textO d ts) :=
  h.step fun v hv => outText_new g v d.1 d.2 n ts w hts hv hn hsz
theorem outRaw_in {d : Int × List UInt8} (h : OutI w0 w g d) (n : Nat) (ts : List ByteArray) (hts : ts.length = n) (hn : n ≤ 1000000) (hsz : d.2.length + totalLen ts ≤ 140737488355328) :
    Calls Tryd.prog 16 #[.pointer (some ⟨g, 0, none⟩), .slice (some ⟨w.heap.size, 0, none⟩) n n] (w.alloc (.cells (scells ts).toArray 9)) fun r w' => r = .returned (.pointer (some ⟨g, 0, none⟩)) ∧ OutI w0 w' g (rawO d ts) :=
  h.step fun v hv => outRaw_new g v d.1 d.2 n ts w hts hv hn hsz
theorem outEnd_in {d : Int × List UInt8} (h : OutI w0 w g d) :
    Calls Tryd.prog 10 #[.pointer (some ⟨g, 0, none⟩)] w fun r w' => r = .returned (.tuple #[.string (endO d).1, .int .i64 (endO d).2]) ∧ OutI w0 w' g d := by
  obtain ⟨v, hv, hb⟩ := h.ex
  exact (outEnd_calls g v d.1 d.2 w hv).mono fun r w' ⟨h1, h2⟩ => ⟨h1, h.below h2⟩
theorem on_in (s : ByteArray) (h : Below w0.heap.size w0 w) : Calls Tryd.prog 11 #[.string s] w fun r w' => ∃ g, r = .returned (.pointer (some ⟨g, 0, none⟩)) ∧ InI w0 w' g (0, s) :=
  (on_calls s w).mono fun r w' ⟨h1, h2, h3⟩ => ⟨_, h1, h2, h.size, below_trans' h h3⟩
theorem inText_in {d : Int × ByteArray} (h : InI w0 w g d) (hs : d.2.size ≤ 1000000000) :
    Calls Tryd.prog 13 #[.pointer (some ⟨g, 0, none⟩)] w fun r w' => r = .returned (.string (textI d.1 d.2).1) ∧ InI w0 w' g (textI d.1 d.2).2 :=
  h.step fun hv => inText_calls g d.1 d.2 w hv hs
theorem inRaw_in {d : Int × ByteArray} (h : InI w0 w g d) (n : Int) (hs : d.2.size ≤ 1000000000) :
    Calls Tryd.prog 18 #[.pointer (some ⟨g, 0, none⟩), .int .i64 n] w fun r w' => r = .returned (.string (rawI d.1 d.2 n).1) ∧ InI w0 w' g (rawI d.1 d.2 n).2 :=
  h.step fun hv => inRaw_calls g n d.1 d.2 w hv hs
theorem inRest_in {d : Int × ByteArray} (h : InI w0 w g d) (hs : d.2.size ≤ 1000000000) : Calls Tryd.prog 19 #[.pointer (some ⟨g, 0, none⟩)] w fun r w' => r = .returned (.bool (restI d.1 d.2)) ∧ InI w0 w' g d :=
  (inRest_calls g d.1 d.2 w h.at_ hs).mono fun r w' ⟨h1, h2⟩ => ⟨h1, h.below h2⟩
theorem inEnd_in {d : Int × ByteArray} (h : InI w0 w g d) (hs : d.2.size ≤ 1000000000) : Calls Tryd.prog 14 #[.pointer (some ⟨g, 0, none⟩)] w fun r w' => r = .returned (.int .i64 (endI d.1 d.2)) ∧ InI w0 w' g (endI d.1 d.2, d.2) :=
  h.step fun hv => inEnd_calls g d.1 d.2 w hv hs
end
end Go.Proofs.YtninoogbkaeihaaDoor

/- An Out of a call's own, beside rows that the same statement has built in any order. -/
namespace Go.Proofs.YtninoogbkaeihaaDoor
open Go.RowKit
set_option linter.unusedVariables false

structure RowsR (w0 w : World) (L : List (Nat × List Value)) : Prop where
  rows : ∀ r ∈ L, r.1 < w.heap.size ∧ RowAt w (some ⟨r.1, 0, none⟩) r.2
  bel : Below w0.heap.size w0 w
structure OutR (w0 w : World) (g : Nat) (d : Int × List UInt8) (L : List (Nat × List Value)) : Prop where
  ex : ∃ v, OutS w g v d.1 d.2 ∧ ∀ b, v.ownBlock = some b → w0.heap.size ≤ b ∧ ∀ r ∈ L, r.1 ≠ b
  rows : ∀ r ∈ L, r.1 ≠ g ∧ r.1 < w.heap.size ∧ RowAt w (some ⟨r.1, 0, none⟩) r.2
  ge : w0.heap.size ≤ g
  bel : Below w0.heap.size w0 w
section
variable {P : Program} {f : FuncId} {args : Array Value} {w0 w w1 : World} {g : Nat} {R : Ending} {d d' : Int × List UInt8} {L : List (Nat × List Value)}
theorem RowsR.nil (h : Below w0.heap.size w0 w) : RowsR w0 w [] := ⟨by simp, h⟩
theorem RowsR.below (h : RowsR w0 w L) (hb : Below w.heap.size w w1) : RowsR w0 w1 L :=
  ⟨fun r hr => ⟨Nat.lt_of_lt_of_le (h.rows r hr).1 hb.size, (h.rows r hr).2.below hb⟩, below_trans' h.bel hb⟩
theorem RowsR.allocRow (h : RowsR w0 w L) (cs : List Value) (t : TypeId) : RowsR w0 (w.alloc (.cells cs.toArray t)) ((w.heap.size, cs) :: L) := by
  have hb : Below w.heap.size w (w.alloc (.cells cs.toArray t)) := (Below.refl _ _).alloc (Nat.le_refl _) _
  refine ⟨fun r hr => ?_, below_trans' h.bel hb⟩
  rcases List.mem_cons.1 hr with rfl | hr
  · exact ⟨by simp, rowAt_alloc w cs t⟩
  · exact (h.below hb).rows r hr
theorem RowsR.newOut (h : RowsR w0 w L) (hg : g = w.heap.size) : OutR w0 (w.alloc (.cells #[.slice none 0 0, .int .i64 0] 27)) g (0, []) L := by
  subst hg
  have hb : Below w.heap.size w (w.alloc (.cells #[.slice none 0 0, .int .i64 0] 27)) := (Below.refl _ _).alloc (Nat.le_refl _) _
  refine ⟨⟨_, outNew w, by simp [Value.ownBlock]⟩, fun r hr => ⟨?_, (h.below hb).rows r hr⟩, h.bel.size, below_trans' h.bel hb⟩
  have := (h.rows r hr).1
  omega
theorem OutR.below (h : OutR w0 w g d L) (hb : Below w.heap.size w w1) : OutR w0 w1 g d L := by
  obtain ⟨v, hv, hv2⟩ := h.ex
  exact ⟨⟨v, hv.below hb, hv2⟩, fun r hr => ⟨(h.rows r hr).1, Nat.lt_of_lt_of_le (h.rows r hr).2.1 hb.size, (h.rows r hr).2.2.below hb⟩, h.ge, below_trans' h.bel hb⟩
theorem OutR.drew (h : OutR w0 w g d L) : OutR w0 w.drew g d L := h.below (below_drewN (Below.refl _ _) 1)
theorem OutR.allocRow (h : OutR w0 w g d L) (cs : List Value) (t : TypeId) : OutR w0 (w.alloc (.cells cs.toArray t)) g d ((w.heap.size, cs) :: L) := by
  have hb : Below w.heap.size w (w.alloc (.cells cs.toArray t)) := (Below.refl _ _).alloc (Nat.le_refl _) _
  obtain ⟨v, hv, hv2⟩ := h.ex
  refine ⟨⟨v, hv.below hb, fun b hb' => ⟨(hv2 b hb').1, fun r hr => ?_⟩⟩, fun r hr => ?_, h.ge, below_trans' h.bel hb⟩
  · rcases List.mem_cons.1 hr with rfl | hr
    · have := hv.vlt hb'; simp only; omega
    · exact (hv2 b hb').2 r hr
  · rcases List.mem_cons.1 hr with rfl | hr
    · have := hv.lt
      exact ⟨by simp only; omega, by simp, rowAt_alloc w cs t⟩
    · exact (h.below hb).rows r hr
theorem OutR.cell {b j : Nat} {cs : List Value} {u : Value} (h : OutR w0 w g d L) (hm : (b, cs) ∈ L) (hj : cs[j]? = some u) : w.cell? ⟨b, j, none⟩ = some u := by
  obtain ⟨ad, e, hc⟩ := (h.rows _ hm).2.2.get hj
  injection e with e
  subst e
  rwa [add0] at hc
theorem OutR.step (h : OutR w0 w g d L) (c : ∀ v, OutS w g v d.1 d.2 → (∀ r ∈ L, ∀ w', Touched w w' (g :: v.ownBlock.toList) → RowAt w' (some ⟨r.1, 0, none⟩) r.2) → Calls P f args w fun r w' => r = R ∧ OutTo w w' g v d') : Calls P f args w fun r w' => r = R ∧ OutR w0 w' g d' L := by
  obtain ⟨v, hv, hv2⟩ := h.ex
  have keep : ∀ r ∈ L, ∀ w', Touched w w' (g :: v.ownBlock.toList) → RowAt w' (some ⟨r.1, 0, none⟩) r.2 := by
    intro r hr w' hT
    refine row_touched (h.rows r hr).2.2 hT (.inr ⟨_, rfl, ?_⟩)
    intro hm
    simp only [List.mem_cons, Option.mem_toList] at hm
    rcases hm with hm | hm
    · exact (h.rows r hr).1 hm
    · exact (hv2 _ hm).2 r hr rfl
  refine (c v hv keep).mono fun r w' ⟨h1, h2⟩ => ⟨h1, ?_⟩
  obtain ⟨⟨v', h3, h4⟩, h5⟩ := h2
  refine ⟨⟨v', h3, fun b hb => ?_⟩, fun r hr => ⟨(h.rows r hr).1, Nat.lt_of_lt_of_le (h.rows r hr).2.1 h5.size, keep r hr w' h5⟩, h.ge, h5.below h.bel h.bel.size ?_⟩
  · rcases h4 b hb with h6 | h6
    · exact hv2 b h6
    · exact ⟨Nat.le_trans h.bel.size h6, fun r hr => by have := (h.rows r hr).2.1; omega⟩
  · intro k hk
    simp only [List.mem_cons, Option.mem_toList] at hk
    rcases hk with rfl | hk
    · exact h.ge
    · exact (hv2 k hk).1
end
section
variable {w0 w : World} {g b : Nat} {d : Int × List UInt8} {L : List (Nat × List Value)}
theorem outByte_row (h : OutR w0 w g d L) (n c : Nat) (xs : List Int) (hm : (b, icells xs) ∈ L) (hxn : xs.length = n) (hn : n ≤ 1000000) (hsz : d.2.length ≤ 1000000000) (hx : ∀ z ∈ xs, -9223372036854775808 ≤ z ∧ z ≤ 9223372036854775807) :
    Calls Tryd.prog 5 #[.pointer (some ⟨g, 0, none⟩), .slice (some ⟨b, 0, none⟩) n c] w fun r w' => r = .returned (.pointer (some ⟨g, 0, none⟩)) ∧ OutR w0 w' g (layO 1 d xs) L :=
  h.step fun v hv hr => outByte_calls g v d.1 d.2 _ n c xs w hxn hv hn hsz hx (hr _ hm)
theorem outHalf_row (h : OutR w0 w g d L) (n c : Nat) (xs : List Int) (hm : (b, icells xs) ∈ L) (hxn : xs.length = n) (hn : n ≤ 1000000) (hsz : d.2.length ≤ 1000000000) (hx : ∀ z ∈ xs, -9223372036854775808 ≤ z ∧ z ≤ 9223372036854775807) :
    Calls Tryd.prog 6 #[.pointer (some ⟨g, 0, none⟩), .slice (some ⟨b, 0, none⟩) n c] w fun r w' => r = .returned (.pointer (some ⟨g, 0, none⟩)) ∧ OutR w0 w' g (layO 2 d xs) L :=
  h.step fun v hv hr => outHalf_calls g v d.1 d.2 _ n c xs w hxn hv hn hsz hx (hr _ hm)
theorem outWord_row (h : OutR w0 w g d L) (n c : Nat) (xs : List Int) (hm : (b, icells xs) ∈ L) (hxn : xs.length = n) (hn : n ≤ 1000000) (hsz : d.2.length ≤ 1000000000) (hx : ∀ z ∈ xs, -9223372036854775808 ≤ z ∧ z ≤ 9223372036854775807) :
    Calls Tryd.prog 7 #[.pointer (some ⟨g, 0, none⟩), .slice (some ⟨b, 0, none⟩) n c] w fun r w' => r = .returned (.pointer (some ⟨g, 0, none⟩)) ∧ OutR w0 w' g (layO 4 d xs) L :=
  h.step fun v hv hr => outWord_calls g v d.1 d.2 _ n c xs w hxn hv hn hsz hx (hr _ hm)
theorem outLong_row (h : OutR w0 w g d L) (n c : Nat) (xs : List Int) (hm : (b, icells xs) ∈ L) (hxn : xs.length = n) (hn : n ≤ 1000000) (hsz : d.2.length ≤ 1000000000) (hx : ∀ z ∈ xs, -9223372036854775808 ≤ z ∧ z ≤ 9223372036854775807) :
    Calls Tryd.prog 8 #[.pointer (some ⟨g, 0, none⟩), .slice (some ⟨b, 0, none⟩) n c] w fun r w' => r = .returned (.pointer (some ⟨g, 0, none⟩)) ∧ OutR w0 w' g (layO 8 d xs) L :=
  h.step fun v hv hr => outLong_calls g v d.1 d.2 _ n c xs w hxn hv hn hsz hx (hr _ hm)
theorem outText_row (h : OutR w0 w g d L) (n c : Nat) (ts : List ByteArray) (hm : (b, scells ts) ∈ L) (hts : ts.length = n) (hn : n ≤ 1000000) (hsz : d.2.length + totalLen ts + 2 * n ≤ 1000000000) :
    Calls Tryd.prog 9 #[.pointer (some ⟨g, 0, none⟩), .slice (some ⟨b, 0, none⟩) n c] w fun r w' => r = .returned (.pointer (some ⟨g, 0, none⟩)) ∧ OutR w0 w' g (textO d ts) L :=
  h.step fun v hv hr => outText_calls g v d.1 d.2 _ c n ts w hts hv hn hsz (hr _ hm)
theorem outRaw_row (h : OutR w0 w g d L) (n c : Nat) (ts : List ByteArray) (hm : (b, scells ts) ∈ L) (hts : ts.length = n) (hn : n ≤ 1000000) (hsz : d.2.length + totalLen ts ≤ 140737488355328) :
    Calls Tryd.prog 16 #[.pointer (some ⟨g, 0, none⟩), .slice (some ⟨b, 0, none⟩) n c] w fun r w' => r = .returned (.pointer (some ⟨g, 0, none⟩)) ∧ OutR w0 w' g (rawO d ts) L := by
  subst hts
  exact h.step fun v hv hr => outRaw_calls g v d.1 d.2 _ c ts w hv (by omega) hsz (hr _ hm)
theorem outEnd_row (h : OutR w0 w g d L) :
    Calls Tryd.prog 10 #[.pointer (some ⟨g, 0, none⟩)] w fun r w' => r = .returned (.tuple #[.string (endO d).1, .int .i64 (endO d).2]) ∧ OutR w0 w' g d L := by
  obtain ⟨v, hv, hb⟩ := h.ex
  exact (outEnd_calls g v d.1 d.2 w hv).mono fun r w' ⟨h1, h2⟩ => ⟨h1, h.below h2⟩
end
end Go.Proofs.YtninoogbkaeihaaDoor

/- What was laid is read as it was: plain; make([]byte, n) and string of it. -/
namespace Go.Proofs.YtninoogbkaeihaaDoor
open Go.RowKit
set_option linter.unusedVariables false

theorem make_u8 (n : Nat) (hn : n ≤ 281474976710656) (W : World) : (Instr.makeSlice 24 (.int .i64 (n : Int)) (.int .i64 (n : Int))).run Tryd.prog W = .ok (.slice (some ⟨W.heap.size, 0, none⟩) n n) (W.alloc (.cells (bcells (List.replicate n 0)).toArray 5)) := by
  have h := run_make_row' (P := Tryd.prog) 24 5 (.int .u8 0) 1 Tryd.underlying24 (by kernel_rfl) rfl .i64 .i64 n (by omega) (by omega) W
  have e : madeCells #[.int .u8 0] n = (bcells (List.replicate n 0)).toArray := by
    apply Array.toList_inj.mp
    rw [toList_madeCells_one]
    simp [bcells]
  rw [e] at h
  exact h
theorem zeros_own (W : World) (n : Nat) (hn : n ≤ maxLen) : Own (W.alloc (.cells (bcells (List.replicate n 0)).toArray 5)) W.heap.size 1 (.slice (some ⟨W.heap.size, 0, none⟩) n n) n (bcells (List.replicate n 0)) := by
  have h := Own.fresh W (bcells (List.replicate n 0)).toArray 5 (by simpa [bcells] using hn)
  simpa [bcells] using h
theorem zeros_str (n : Nat) (hn : n ≤ 281474976710656) (W : World) : (convert 24 9 (.slice (some ⟨W.heap.size, 0, none⟩) n n)).run Tryd.prog (W.alloc (.cells (bcells (List.replicate n 0)).toArray 5)) = .ok (.string (zerosB n)) (W.alloc (.cells (bcells (List.replicate n 0)).toArray 5)) := by
  have h := bytes_str Tryd.prog 24 5 9 Tryd.underlying24 Tryd.underlying5 Tryd.underlying9 (some ⟨W.heap.size, 0, none⟩) n n (List.replicate n 0) _ (by simp) (by
    obtain ⟨A, c, e, _, hr, _⟩ := (zeros_own W n (by unfold maxLen; omega)).slice
    injection e with e1 e2 e3
    subst e1
    exact hr)
  rw [h]; rfl

theorem i64_low (k : Nat) (hk : k < 63) (x : Int) : bits BinOp.and IntKind.i64 x ((2 ^ k - 1 : Nat) : Int) = x % ((2 ^ k : Nat) : Int) := by
  show IntKind.i64.wrap ((BitVec.ofInt 64 x &&& BitVec.ofInt 64 ((2 ^ k - 1 : Nat) : Int)).toNat : Int) = _
  have hp : (2 : Nat) ^ k ≤ 2 ^ 62 := Nat.pow_le_pow_right (by decide) (by omega)
  have hp2 : (2 : Nat) ^ 62 = 4611686018427387904 := by decide
  have hp0 : 0 < (2 : Nat) ^ k := Nat.pow_pos (by decide)
  have e1 : (((2 ^ k - 1 : Nat) : Int) % ((2 ^ 64 : Nat) : Int)).toNat = 2 ^ k - 1 := by
    have : (2 : Nat) ^ 64 = 18446744073709551616 := by decide
    rw [this]; omega
  rw [BitVec.toNat_and, BitVec.toNat_ofInt, BitVec.toNat_ofInt, e1, Nat.and_two_pow_sub_one_eq_mod]
  have h : 0 ≤ x % ((2 ^ 64 : Nat) : Int) := Int.emod_nonneg _ (by decide)
  have h2 : ((((x % ((2 ^ 64 : Nat) : Int)).toNat % 2 ^ k : Nat) : Int)) = x % ((2 ^ k : Nat) : Int) := by
    rw [Int.natCast_emod, Int.toNat_of_nonneg h]
    exact Int.emod_emod_of_dvd x (by exact_mod_cast Nat.pow_dvd_pow 2 (by omega))
  rw [h2]
  have h3 : 0 ≤ x % ((2 ^ k : Nat) : Int) := Int.emod_nonneg _ (by omega)
  have h4 : x % ((2 ^ k : Nat) : Int) < ((2 ^ k : Nat) : Int) := Int.emod_lt_of_pos _ (by omega)
  exact IntWalk.i64_in _ (by omega)

theorem layB_fine {size : Nat} {x : Int} (h0 : 0 ≤ x) (h : 8 ≤ size ∨ x < ((256 ^ size : Nat) : Int)) : layB size x = false := by
  refine decide_eq_false ?_
  rintro (h1 | ⟨h1, h2⟩)
  · omega
  · rcases h with h | h
    · omega
    · have e : ((2 : Int) ^ (8 * size)) = ((256 ^ size : Nat) : Int) := by rw [Int.pow_mul]; simp
      rw [e] at h2
      exact h2 (Int.ediv_eq_zero_of_lt h0 h)
theorem layO_fine (size : Nat) (l : List UInt8) (xs : List Int) (h : ∀ x ∈ xs, layB size x = false) : layO size (0, l) xs = (0, l ++ xs.flatMap fun x => lowL x.toNat size) := by
  induction xs generalizing l with
  | nil => simp [layO]
  | cons x xs ih =>
    have h1 : layOne size (0, l) x = (0, l ++ lowL x.toNat size) := by
      rw [layOne, if_neg (by simp), if_neg (by rw [h x (by simp)]; simp)]
    rw [layO, List.foldl_cons, h1]
    have := ih (l ++ lowL x.toNat size) (fun y hy => h y (by simp [hy]))
    rw [layO] at this
    rw [this]
    simp
theorem layO_many (size : Nat) (l : List UInt8) (xs : List Int) (n : Nat) (hn : l.length + size * xs.length = n) (h : ∀ x ∈ xs, layB size x = false) : ∃ m, layO size (0, l) xs = (0, m) ∧ m.length = n := by
  refine ⟨_, layO_fine size l xs h, ?_⟩
  subst hn
  clear h
  induction xs generalizing l with
  | nil => simp
  | cons x xs ih =>
    have := ih (l ++ lowL x.toNat size)
    simp only [List.length_append, List.flatMap_cons, lowL_length, List.length_cons, Nat.mul_add] at *
    omega
theorem mkS_toList (l : List UInt8) : (⟨l.toArray⟩ : ByteArray).data.toList = l := by simp
theorem ext_mk (l : List UInt8) (i j : Nat) (h : j ≤ l.length) : (⟨l.toArray⟩ : ByteArray).extract i j = ⟨((l.take j).drop i).toArray⟩ := by
  apply ByteArray.ext
  apply Array.toList_inj.mp
  simp [ByteArray.data_extract, List.extract_eq_take_drop, List.drop_take]
theorem rawI_ok (a b : List UInt8) (n : Nat) (h : a.length = n) : rawI 0 ⟨(a ++ b).toArray⟩ (n : Int) = (⟨a.toArray⟩, 0, ⟨b.toArray⟩) := by
  subst h
  rw [rawI, if_neg (by simp), if_neg (by omega), if_neg (by rw [mk_size, List.length_append]; omega), Int.toNat_natCast, mk_size, ext_mk _ _ _ (by simp), ext_mk _ _ _ (Nat.le_refl _), List.take_of_length_le (Nat.le_refl _)]
  simp
theorem lowI_ok (x size : Nat) (b : List UInt8) (hx : x < 256 ^ size) (hb : x < 9223372036854775808) : lowI 0 ⟨(lowL x size ++ b).toArray⟩ size = ((x : Int), 0, ⟨b.toArray⟩) := by
  have h := rawI_ok (lowL x size) b size (lowL_length x size)
  have e : numL (lowL x size) = x := by rw [numL_lowL, Nat.mod_eq_of_lt hx]
  rw [lowI, h]
  simp only [e]
  rw [if_neg (by omega)]
theorem textI_ok (s : ByteArray) (b : List UInt8) (h : s.size ≤ 65535) : textI 0 ⟨(lowL s.size 2 ++ (s.data.toList ++ b)).toArray⟩ = (s, 0, ⟨b.toArray⟩) := by
  rw [textI, lowI_ok s.size 2 _ (by simp; omega) (by omega)]
  simp only
  rw [rawI_ok _ _ _ (data_length s), mk_data]
theorem rawI_err (e : Int) (s : ByteArray) (n : Int) (h : e ≠ 0) : rawI e s n = (ByteArray.empty, e, s) := by rw [rawI, if_pos h]
theorem rawI_short (s : ByteArray) (n : Nat) (h : s.size < n) : rawI 0 s (n : Int) = (ByteArray.empty, 5, s) := by
  rw [rawI, if_neg (by simp), if_neg (by omega), if_pos (by omega)]
theorem numL_empty : numL ByteArray.empty.data.toList = 0 := rfl
theorem lowI_err (e : Int) (s : ByteArray) (n : Nat) (h : e ≠ 0) : lowI e s n = (0, e, s) := by
  rw [lowI, rawI_err e s _ h, numL_empty, if_neg (by omega)]; rfl
theorem lowI_short (s : ByteArray) (n : Nat) (h : s.size < n) : lowI 0 s n = (0, 5, s) := by
  rw [lowI, rawI_short s n h, numL_empty, if_neg (by omega)]; rfl
theorem textI_err (e : Int) (s : ByteArray) (h : e ≠ 0) : textI e s = (ByteArray.empty, e, s) := by
  rw [textI, lowI_err e s 2 h]; exact rawI_err e s 0 h
theorem textI_short (s : ByteArray) (h : s.size < 2) : textI 0 s = (ByteArray.empty, 5, s) := by
  rw [textI, lowI_short s 2 h]; exact rawI_err 5 s 0 (by decide)
theorem textO_fine (l : List UInt8) (s : ByteArray) (h : s.size ≤ 65535) : textO (0, l) [s] = (0, l ++ (lowL s.size 2 ++ s.data.toList)) := by
  rw [textO, List.foldl_cons, List.foldl_nil, textOne, if_neg (by simp), if_neg (by omega), List.append_assoc]
theorem textO_fine2 (l : List UInt8) (s t : ByteArray) (h : s.size ≤ 65535) (h2 : t.size ≤ 65535) : textO (0, l) [s, t] = (0, l ++ (lowL s.size 2 ++ (s.data.toList ++ (lowL t.size 2 ++ t.data.toList)))) := by
  have h1 := textO_fine l s h
  have h3 := textO_fine (l ++ (lowL s.size 2 ++ s.data.toList)) t h2
  rw [textO, List.foldl_cons, List.foldl_nil] at h1 h3
  rw [textO, List.foldl_cons, List.foldl_cons, List.foldl_nil, h1, h3]
  simp
theorem textI_size' (e : Int) (s : ByteArray) : (textI e s).2.2.size ≤ s.size :=
  Nat.le_trans (rawI_size _ _ _).2.1 (lowI_size e s 2)
end Go.Proofs.YtninoogbkaeihaaDoor

/- What a row's arguments are: each reading of the form, told as a list of plain data and cells that lie in a row. -/
namespace Go.Proofs.YtninoogbkaeihaaDoor
open Go.ChangeShapes Go.WideShapes Go.ChangeAt Go.RowKit
open Go.Deep (open_slice choose_lt add_add)
set_option linter.unusedVariables false

section
variable {H : Type} {enc : TypeId × Value → H} {P : Program} {W : World}

theorem row_weight {ts : List TypeId} {ds : List (DataW H)} (hsz : (DataW.weightsEach P ts ds).all (· ≤ reachBytes) = true) {j : Nat} {t : TypeId} {d : DataW H} (ht : ts[j]? = some t) (hd : ds[j]? = some d) :
    ∀ n ∈ d.weights P t, n ≤ 140737488351232 := by
  intro n hn
  have := List.all_eq_true.1 hsz _ (DataW.weights_mem_each ht hd n hn)
  exact of_decide_eq_true this

theorem mem_weightsAll {e : TypeId} {ds : List (DataW H)} {d : DataW H} (hd : d ∈ ds) {n : Nat} (hn : n ∈ d.weights P e) : n ∈ DataW.weightsAll P e ds := by
  induction ds with
  | nil => cases hd
  | cons x r ih =>
    simp only [DataW.weightsAll, List.mem_append]
    rcases List.mem_cons.1 hd with rfl | h
    · exact .inl hn
    · exact .inr (ih h)

theorem flatMap_cell {α : Type} {cells : α → List Value} {sz : Nat} (hsz : ∀ x, (cells x).length = sz) (l : List α) : ∀ (j : Nat) (u : Value), (l.flatMap cells)[j]? = some u →
    ∃ i r x, j = i * sz + r ∧ r < sz ∧ l[i]? = some x ∧ (cells x)[r]? = some u := by
  induction l with
  | nil => intro j u h; simp at h
  | cons a l ih =>
    intro j u h
    rw [List.flatMap_cons] at h
    rcases Nat.lt_or_ge j (cells a).length with hj | hj
    · rw [List.getElem?_append_left hj] at h
      exact ⟨0, j, a, by omega, by rw [← hsz a]; exact hj, rfl, h⟩
    · rw [List.getElem?_append_right hj] at h
      obtain ⟨i, r, x, e, hr, hx, hu⟩ := ih _ _ h
      refine ⟨i + 1, r, x, ?_, hr, by simpa using hx, hu⟩
      rw [hsz a] at e hj
      rw [Nat.add_mul]; omega

/-- A slice that came in, element by element. -/
theorem arg_slice {α : Type} [Inhabited α] {t e : TypeId} {sz : Nat} (cells : α → List Value) (good : α → Prop) (ht : P.underlying t = some (.slice e)) (hc : P.cellsOf e = sz) (hlen : ∀ x, (cells x).length = sz)
    (hdec : ∀ fuel cs (y : DataW H × List MemPlace), DataW.trod enc P W 0 (fun _ => true) true fuel e cs = some y → (∀ n ∈ y.1.weights P e, n ≤ 140737488351232) → ∃ x, cs = cells x ∧ good x)
    {a : Option Addr} {len cap : Nat} {d : DataW H} {ps : List MemPlace} (h : DataW.Trod enc P W 0 (fun _ => true) true t (.slice a len cap) d ps) (hw : ∀ n ∈ d.weights P t, n ≤ 140737488351232) :
    ∃ l : List α, l.length = len ∧ len ≤ cap ∧ len * P.bytesOf e ≤ 140737488351232 ∧ (∀ x ∈ l, good x) ∧ RowAt W a (l.flatMap cells) := by
  obtain ⟨fuel, hf⟩ := h
  rcases open_slice ht hf with ⟨hcs, _⟩ | ⟨ad, len', cap', m, n, D, Pl, hcs, _, hl, _, hm, hx, hel⟩
  · simp [Value.cells] at hcs
    obtain ⟨rfl, rfl, rfl⟩ := hcs
    exact ⟨[], rfl, Nat.le_refl _, by simp, by simp, .inl rfl⟩
  · simp [Value.cells] at hcs
    obtain ⟨rfl, rfl, rfl⟩ := hcs
    simp only [Prod.mk.injEq] at hx
    obtain ⟨rfl, _⟩ := hx
    have hm' : m = cap := by simpa using hm
    subst hm'
    have hW : ∀ n ∈ DataW.weights P t (.slice ((List.range len).map D) ((List.range (m - len)).map fun j => D (len + j))), n ≤ 140737488351232 := hw
    simp only [DataW.weights, ht] at hW
    have each : ∀ i, i < len → ∃ x : α, good x ∧ ∀ r u, (cells x)[r]? = some u → W.cell? (ad.add (i * sz + r)) = some u := by
      intro i hi
      obtain ⟨cs', h1, h2⟩ := hel i (by omega)
      obtain ⟨x, rfl, hg⟩ := hdec n cs' _ h2 (fun k hk => hW k (by
        simp only [List.mem_cons, List.mem_append]
        exact .inr (.inl (mem_weightsAll (List.mem_map.2 ⟨i, List.mem_range.2 hi, rfl⟩) hk))))
      refine ⟨x, hg, fun r u hr => ?_⟩
      obtain ⟨_, hln, hcell⟩ := World.cells?_some h1
      have hrl : r < P.cellsOf e := by rw [← hln]; exact (List.getElem?_eq_some_iff.1 hr).1
      have := hcell r hrl
      rw [add_add, hc] at this
      rw [this, hr]
    obtain ⟨f, hf⟩ := choose_lt each
    refine ⟨(List.range len).map f, by simp, hl, ?_, ?_, .inr ⟨ad, rfl, ?_⟩⟩
    · have := hW _ (List.mem_cons_self ..)
      simp at this
      exact Nat.le_trans (Nat.mul_le_mul_right _ (by omega)) this
    · intro x hx
      obtain ⟨i, hi, rfl⟩ := List.mem_map.1 hx
      exact (hf i (List.mem_range.1 hi)).1
    · intro j u hj
      obtain ⟨i, r, x, rfl, hr, hxi, hu⟩ := flatMap_cell hlen _ j u hj
      have hi : i < len := by have := (List.getElem?_eq_some_iff.1 hxi).1; simpa using this
      simp [hi] at hxi
      subst hxi
      exact (hf i hi).2 r u hu

theorem flatMap_one {α β : Type} (f : α → β) (l : List α) : (l.flatMap fun x => [f x]) = l.map f := by
  induction l with
  | nil => rfl
  | cons a l ih => simp [ih]

theorem arg_strs {t e : TypeId} (ht : P.underlying t = some (.slice e)) (he : P.underlying e = some .string) (hc : P.cellsOf e = 1) {B : Nat} (hB : P.bytesOf e = B)
    {a : Option Addr} {len cap : Nat} {d : DataW H} {ps : List MemPlace} (h : DataW.Trod enc P W 0 (fun _ => true) true t (.slice a len cap) d ps) (hw : ∀ n ∈ d.weights P t, n ≤ 140737488351232) :
    ∃ l : List ByteArray, l.length = len ∧ len ≤ cap ∧ len * B ≤ 140737488351232 ∧ (∀ x ∈ l, x.size ≤ 140737488351232) ∧ RowAt W a (scells l) := by
  obtain ⟨l, h1, h2, h3, h4, h5⟩ := arg_slice (fun s : ByteArray => [.string s]) (fun s => s.size ≤ 140737488351232) ht hc (fun _ => rfl) (fun fuel cs y hy hwy => by
    obtain ⟨s, rfl, rfl, _⟩ := DataW.trod_string he hy
    exact ⟨s, rfl, by have := hwy s.data.toList.length (by simp [DataW.weights]); simpa using this⟩) h hw
  rw [hB] at h3
  exact ⟨l, h1, h2, h3, h4, by rwa [flatMap_one] at h5⟩

theorem lit_i64 {a : Int} (h : (Lit.int .i64 a).wf = true) : -9223372036854775808 ≤ a ∧ a ≤ 9223372036854775807 := by
  simp [Lit.wf, IntKind.min, IntKind.max, IntKind.signed, IntKind.bits] at h; omega
theorem lit_u64 {a : Int} (h : (Lit.int .u64 a).wf = true) : 0 ≤ a ∧ a < 18446744073709551616 := by
  simp [Lit.wf, IntKind.min, IntKind.max, IntKind.signed, IntKind.bits] at h; omega
theorem lit_u8 {a : Int} (h : (Lit.int .u8 a).wf = true) : 0 ≤ a ∧ a ≤ 255 := by
  simp [Lit.wf, IntKind.min, IntKind.max, IntKind.signed, IntKind.bits] at h; omega

theorem arg_ints {t e : TypeId} (ht : P.underlying t = some (.slice e)) (he : P.underlying e = some (.int .i64)) (hc : P.cellsOf e = 1) {B : Nat} (hB : P.bytesOf e = B)
    {a : Option Addr} {len cap : Nat} {d : DataW H} {ps : List MemPlace} (h : DataW.Trod enc P W 0 (fun _ => true) true t (.slice a len cap) d ps) (hw : ∀ n ∈ d.weights P t, n ≤ 140737488351232) :
    ∃ l : List Int, l.length = len ∧ len ≤ cap ∧ len * B ≤ 140737488351232 ∧ (∀ x ∈ l, -9223372036854775808 ≤ x ∧ x ≤ 9223372036854775807) ∧ RowAt W a (icells l) := by
  obtain ⟨l, h1, h2, h3, h4, h5⟩ := arg_slice (fun n : Int => [.int .i64 n]) (fun n => -9223372036854775808 ≤ n ∧ n ≤ 9223372036854775807) ht hc (fun _ => rfl) (fun fuel cs y hy hwy => by
    obtain ⟨s, rfl, rfl, hwf⟩ := DataW.trod_int he hy
    exact ⟨s, rfl, lit_i64 hwf⟩) h hw
  rw [hB] at h3
  exact ⟨l, h1, h2, h3, h4, by rwa [flatMap_one] at h5⟩

theorem arg_bytes {t e : TypeId} (ht : P.underlying t = some (.slice e)) (he : P.underlying e = some (.int .u8)) (hc : P.cellsOf e = 1) {B : Nat} (hB : P.bytesOf e = B)
    {a : Option Addr} {len cap : Nat} {d : DataW H} {ps : List MemPlace} (h : DataW.Trod enc P W 0 (fun _ => true) true t (.slice a len cap) d ps) (hw : ∀ n ∈ d.weights P t, n ≤ 140737488351232) :
    ∃ l : List UInt8, l.length = len ∧ len ≤ cap ∧ len * B ≤ 140737488351232 ∧ RowAt W a (bcells l) := by
  obtain ⟨l, h1, h2, h3, h4, h5⟩ := arg_slice (fun n : UInt8 => [.int .u8 n.toNat]) (fun _ => True) ht hc (fun _ => rfl) (fun fuel cs y hy hwy => by
    obtain ⟨s, rfl, rfl, hwf⟩ := DataW.trod_int he hy
    have := lit_u8 hwf
    refine ⟨UInt8.ofNat s.toNat, ?_, trivial⟩
    have e : ((UInt8.ofNat s.toNat).toNat : Int) = s := by
      rw [UInt8.toNat_ofNat_of_lt' (by simp [UInt8.size]; omega)]; omega
    rw [e]) h hw
  rw [hB] at h3
  exact ⟨l, h1, h2, h3, by rwa [flatMap_one] at h5⟩
end
end Go.Proofs.YtninoogbkaeihaaDoor

/- A world in which the two tables of unicode/utf8 lie as they are laid (for the rows that list them). -/
namespace Go.Proofs.YtninoogbkaeihaaDoor
open Go.ChangeShapes Go.WideShapes Go.ChangeAt Go.RowKit
set_option linter.unusedVariables false

noncomputable def laidWorld (os : Os) (obs : Array Obj) : World :=
  let w0 := World.holding Tryd.prog os ⟨obs, #[], []⟩
  let put (h : Array Obj) (g : Nat) (cs : Array Value) : Array Obj := h.modify g fun
    | .cells _ t frozen => .cells cs t frozen
    | o => o
  let h1 := put w0.heap ((Tryd.prog.globalNamed "unicode/utf8.first").getD 0) (Lib.firstTab.map fun z => Value.int .u8 z).toArray
  let h2 := put h1 ((Tryd.prog.globalNamed "unicode/utf8.acceptRanges").getD 0) ((List.range 16).flatMap fun i => [Value.int .u8 (Lib.accLo i), Value.int .u8 (Lib.accHi i)]).toArray
  { w0 with heap := h2 }
end Go.Proofs.YtninoogbkaeihaaDoor

/- A region that draws its order, by an invariant: what each operation keeps, whatever came up before it. -/
namespace Go.Proofs.YtninoogbkaeihaaDoor
open Go.RowKit
set_option linter.unusedVariables false

/-- How many operations have not come up yet. -/
def unlisted (l : Array Bool) : Nat := (l.toList.filter fun b => !b).length
theorem unlisted_set : ∀ (l : List Bool) (i : Nat), l[i]? = some false → ((l.set i true).filter fun b => !b).length + 1 = (l.filter fun b => !b).length := by
  intro l
  induction l with
  | nil => intro i h; simp at h
  | cons b l ih =>
    intro i h
    cases i with
    | zero => simp at h; subst h; simp
    | succ i =>
      have := ih i (by simpa using h)
      cases b <;> simp <;> omega
theorem ready_unlisted {md : Region.Mode} {ops : Array Oper} {l : Array Bool} {i : Nat} (hs : l.size = ops.size) (h : i ∈ Region.ready md ops l) : unlisted (l.setIfInBounds i true) + 1 = unlisted l := by
  unfold Region.ready at h
  rw [List.mem_filter, List.mem_range] at h
  obtain ⟨h1, h2⟩ := h
  have hi : i < l.size := by omega
  have h3 : l[i]? = some false := by
    simp only [Bool.and_eq_true, Bool.not_eq_true'] at h2
    have := h2.1
    rw [Array.getD_eq_getD_getElem?, Array.getElem?_eq_getElem hi] at this
    rw [Array.getElem?_eq_getElem hi]
    simpa using this
  unfold unlisted
  rw [Array.toList_setIfInBounds]
  exact unlisted_set _ _ (by simpa using h3)
theorem ready_all {md : Region.Mode} {ops : Array Oper} {l : Array Bool} (hs : l.size = ops.size) (h : unlisted l = 0) : Region.ready md ops l = [] := by
  cases hr : Region.ready md ops l with
  | nil => rfl
  | cons i r =>
    have := ready_unlisted (md := md) hs (i := i) (by rw [hr]; simp)
    omega
/-- An invariant that every operation that may come up keeps, whatever came up before it. -/
theorem wpAny_inv {P : Program} {md : Region.Mode} {ops : Array Oper} {Q : Exit → Act → World → Prop} (I : Array Bool → Act → World → Prop)
    (step : ∀ (l : Array Bool) (a : Act) (w : World) (i : Nat), l.size = ops.size → I l a w → i ∈ Region.ready md ops l → wpOp P ops Q i (fun a' w' => I (l.setIfInBounds i true) a' w') a w)
    (done : ∀ (l : Array Bool) (a : Act) (w : World), l.size = ops.size → I l a w → Region.ready md ops l = [] → Q .normal a w) :
    ∀ (fuel : Nat) (l : Array Bool) (a : Act) (w : World), l.size = ops.size → unlisted l ≤ fuel → I l a w → wpAny P md ops Q fuel l a w := by
  intro fuel
  induction fuel with
  | zero =>
    intro l a w hs hf hI
    have hr := ready_all (md := md) hs (by omega)
    exact ⟨hr, done l a w hs hI hr⟩
  | succ fuel ih =>
    intro l a w hs hf hI
    refine ⟨fun hr => done l a w hs hI hr, fun i hi => ?_⟩
    refine wpOp_mono (fun a' w' hI' => ih _ a' w' (by rw [Array.size_setIfInBounds]; exact hs) ?_ hI') (step l a w i hs hI hi)
    have := ready_unlisted (md := md) hs hi
    omega
theorem unlisted_new (n : Nat) : unlisted (Array.replicate n false) = n := by
  simp [unlisted]
end Go.Proofs.YtninoogbkaeihaaDoor

/- Regions that draw their order, by an invariant: what it means that an operation may come up. -/
namespace Go.Proofs.YtninoogbkaeihaaDoor
open Go.RowKit
set_option linter.unusedVariables false

section
variable {md : Region.Mode} {ops : Array Oper} {l : Array Bool} {i : Nat} {o : Oper}
theorem ready_lt (h : i ∈ Region.ready md ops l) : i < ops.size := by
  unfold Region.ready at h
  rw [List.mem_filter, List.mem_range] at h
  exact h.1
theorem ready_not (h : i ∈ Region.ready md ops l) : l.getD i true = false := by
  unfold Region.ready at h
  rw [List.mem_filter] at h
  have := h.2
  simp only [Bool.and_eq_true, Bool.not_eq_true'] at this
  exact this.1
theorem ready_on {k : Nat} {e : Edge} (h : i ∈ Region.ready md ops l) (ho : ops[i]? = some o) (hk : o.after[k]? = some e) (hb : Region.binds md e = true) : l.getD e.on false = true := by
  unfold Region.ready at h
  rw [List.mem_filter] at h
  have h2 := h.2
  simp only [Bool.and_eq_true, Bool.not_eq_true'] at h2
  have h3 := h2.2
  rw [ho] at h3
  simp only [Option.map_some, Option.getD_some] at h3
  rw [Array.all_eq_true_iff_forall_mem] at h3
  have h4 := h3 e (Array.mem_of_getElem? hk)
  rw [hb] at h4
  simpa using h4
theorem listed_set (hi : i < l.size) (j : Nat) : (l.setIfInBounds i true).getD j false = if i = j then true else l.getD j false := by
  rw [Array.getD_eq_getD_getElem?, Array.getD_eq_getD_getElem?, Array.getElem?_setIfInBounds]
  by_cases e : i = j
  · subst e; simp [hi]
  · simp [e]
/-- Where nothing may come up any more, what hangs on listed ones alone is listed. -/
theorem listed_of (hs : l.size = ops.size) (hr : Region.ready md ops l = []) (hi : i < ops.size) (ho : ops[i]? = some o) (hd : ∀ e ∈ o.after, Region.binds md e = true → l.getD e.on false = true) : l.getD i false = true := by
  cases hl : l.getD i false
  · exfalso
    have hm : i ∈ Region.ready md ops l := by
      unfold Region.ready
      rw [List.mem_filter, List.mem_range]
      refine ⟨hi, ?_⟩
      have h1 : l.getD i true = false := by
        rw [Array.getD_eq_getD_getElem?, Array.getElem?_eq_getElem (by omega)] at hl ⊢
        exact hl
      rw [h1, ho]
      simp only [Option.map_some, Option.getD_some, Bool.not_false, Bool.true_and]
      rw [Array.all_eq_true_iff_forall_mem]
      intro e he
      cases hb : Region.binds md e
      · rfl
      · rw [hd e he hb]; rfl
    rw [hr] at hm
    cases hm
  · rfl
end

/-- A frame's slot. -/
theorem slot_put {t : Array Value} {s : Nat} (v : Value) (hs : s < t.size) (r : Nat) : (t.setIfInBounds s v).getD r undef = if s = r then v else t.getD r undef := by
  rw [Array.getD_eq_getD_getElem?, Array.getD_eq_getD_getElem?, Array.getElem?_setIfInBounds]
  by_cases e : s = r
  · subst e; simp [hs]
  · simp [e]
/-- The frame again, off its slots. -/
theorem frame_of (sv : List (Nat × Value)) : ∀ (t a : Array Value), a.size = t.size → (∀ p ∈ sv, p.1 < t.size) → (sv.map (·.1)).Nodup → (∀ p ∈ sv, a.getD p.1 undef = p.2) → (∀ s, s ∉ sv.map (·.1) → a.getD s undef = t.getD s undef) → a = sv.foldl (fun t p => t.setIfInBounds p.1 p.2) t := by
  induction sv with
  | nil =>
    intro t a hs _ _ _ h
    apply Array.ext hs
    intro i h1 h2
    have := h i (by simp)
    rw [Array.getD_eq_getD_getElem?, Array.getD_eq_getD_getElem?, Array.getElem?_eq_getElem h1, Array.getElem?_eq_getElem h2] at this
    exact this
  | cons p sv ih =>
    intro t a hs hb hn hv h
    rw [List.map_cons, List.nodup_cons] at hn
    rw [List.foldl_cons]
    refine ih (t.setIfInBounds p.1 p.2) a (by rw [Array.size_setIfInBounds]; exact hs) (fun q hq => by rw [Array.size_setIfInBounds]; exact hb q (List.mem_cons_of_mem _ hq)) hn.2 (fun q hq => hv q (List.mem_cons_of_mem _ hq)) fun s hsn => ?_
    rw [slot_put _ (hb p List.mem_cons_self)]
    by_cases e : p.1 = s
    · rw [if_pos e, ← e]; exact hv p List.mem_cons_self
    · rw [if_neg e]
      refine h s ?_
      rw [List.map_cons, List.mem_cons]
      rintro (e2 | e2)
      · exact e e2.symm
      · exact hsn e2
section
variable {l : Array Bool} {t T : Array Value} {i j s r : Nat} {v x : Value}
theorem fact_other (hl : i < l.size) (hs : s < t.size) (hij : i ≠ j) (hsr : s ≠ r) (f : l.getD j false = true → t.getD r undef = x) : (l.setIfInBounds i true).getD j false = true → (t.setIfInBounds s v).getD r undef = x := by
  rw [listed_set hl, if_neg hij, slot_put _ hs, if_neg hsr]
  exact f
theorem fact_self {p : Prop} (hs : s < t.size) (e : v = x) : p → (t.setIfInBounds s v).getD s undef = x := by
  intro _
  rw [slot_put _ hs, if_pos rfl]
  exact e
theorem base_other {D : List Nat} (hs : s < t.size) (hD : s ∈ D) (f : ∀ r, r ∉ D → t.getD r undef = T.getD r undef) : ∀ r, r ∉ D → (t.setIfInBounds s v).getD r undef = T.getD r undef := by
  intro r hr
  have hne : ¬ s = r := by rintro rfl; exact hr hD
  rw [slot_put _ hs, if_neg hne]
  exact f r hr
theorem listed_other (hl : i < l.size) (hij : i ≠ j) : (l.setIfInBounds i true).getD j false = l.getD j false := by
  rw [listed_set hl, if_neg hij]
theorem listed_self (hl : i < l.size) : (l.setIfInBounds i true).getD i false = true := by
  rw [listed_set hl, if_pos rfl]
theorem not_listed (hl : i < l.size) (h : l.getD i true = false) : l.getD i false = false := by
  rw [Array.getD_eq_getD_getElem?, Array.getElem?_eq_getElem hl] at h ⊢
  exact h
theorem slot_get (h : s < t.size) (e : t.getD s undef = v) : t[s]'h = v := by
  rw [Array.getD_eq_getD_getElem?, Array.getElem?_eq_getElem h] at e
  exact e
theorem put_size : (t.setIfInBounds s v).size = t.size := Array.size_setIfInBounds
end
theorem new_listed (n i : Nat) : (Array.replicate n false).getD i false = false := by
  rw [Array.getD_eq_getD_getElem?, Array.getElem?_replicate]
  split <;> rfl
/-- Enter a region with its frame under a name. -/
theorem region_enter {P : Program} {code : Code} {Q : Exit → Act → World → Prop} {t : Array Value} {w : World} (h : ∀ T, T = t → Code.wp P code Q ⟨T, []⟩ w) : Code.wp P code Q ⟨t, []⟩ w := h t rfl
end Go.Proofs.YtninoogbkaeihaaDoor
