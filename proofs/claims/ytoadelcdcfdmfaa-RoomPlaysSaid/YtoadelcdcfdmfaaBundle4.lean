/- Words and contracts that this claim leans on, one text behind the other. -/
import Derived.Test.YtoadelcdcfdmfaaBundle3
import Derived.Test.YtoadelcdcfdmfaaOutPad
import Derived.Test.YtoadelcdcfdmfaaBundle1
import Derived.Test.YtoadelcdcfdmfaaBundle2
import Derived.Deep.RegionHeld3
import Derived.Deep.RegionHeldLaw
import Derived.Deep.RegionLaw
/- An Out, an In of a law's own: all calls on it, said in one form (the world it began in; what it holds). -/
namespace Go.Proofs.Ytoadelcdcfdmfaa.B
open Go.RowKit
set_option linter.unusedVariables false

structure OutI (w0 w : World) (g : Nat) (d : Int × List UInt8) : Prop where
  ex : ∃ v, OutS w g v d.1 d.2 ∧ ∀ b, v.ownBlock = some b → w0.heap.size ≤ b
  ge : w0.heap.size ≤ g
  bel : Below w0.heap.size w0 w
structure InI (w0 w : World) (g : Nat) (d : Int × ByteArray) : Prop where
  at_ : InS w g d.1 d.2
  ge : w0.heap.size ≤ g
  bel : Below w0.heap.size w0 w
section
variable {P : Program} {f : FuncId} {args : Array Value} {w0 w w1 : World} {g : Nat} {R : Ending}
theorem OutI.step {d d' : Int × List UInt8} (h : OutI w0 w g d) (c : ∀ v, OutS w g v d.1 d.2 → Calls P f args w1 fun r w' => r = R ∧ OutTo w w' g v d') : Calls P f args w1 fun r w' => r = R ∧ OutI w0 w' g d' := by
  obtain ⟨v, hv, hb⟩ := h.ex
  refine (c v hv).mono fun r w' ⟨h1, h2⟩ => ⟨h1, ?_⟩
  obtain ⟨⟨v', h3, h4⟩, h5⟩ := h2
  refine ⟨⟨v', h3, fun b hb' => ?_⟩, h.ge, h5.below h.bel h.bel.size ?_⟩
  · rcases h4 b hb' with h6 | h6
    · exact hb b h6
    · exact Nat.le_trans h.bel.size h6
  · intro k hk
    simp only [List.mem_cons, Option.mem_toList] at hk
    rcases hk with rfl | hk
    · exact h.ge
    · exact hb k hk
theorem OutI.below {d : Int × List UInt8} (h : OutI w0 w g d) (hb : Below w.heap.size w w1) : OutI w0 w1 g d := by
  obtain ⟨v, hv, hv2⟩ := h.ex
  exact ⟨⟨v, hv.below hb, hv2⟩, h.ge, below_trans' h.bel hb⟩
theorem OutI.new (h : Below w0.heap.size w0 w) : OutI w0 (w.alloc (.cells #[.slice none 0 0, .int .i64 0] 70)) w.heap.size (0, []) :=
  ⟨⟨_, outNew w, by simp [Value.ownBlock]⟩, h.size, h.alloc h.size _⟩
theorem InI.step {d : Int × ByteArray} {e : Int} {s : ByteArray} (h : InI w0 w g d) (c : InS w g d.1 d.2 → Calls P f args w fun r w' => r = R ∧ InS w' g e s ∧ Touched w w' [g]) : Calls P f args w fun r w' => r = R ∧ InI w0 w' g (e, s) :=
  (c h.at_).mono fun r w' ⟨h1, h2, h3⟩ => ⟨h1, h2, h.ge, h3.below h.bel h.bel.size (by have := h.ge; simpa using this)⟩
theorem InI.below {d : Int × ByteArray} (h : InI w0 w g d) (hb : Below w.heap.size w w1) : InI w0 w1 g d := ⟨h.at_.below hb, h.ge, below_trans' h.bel hb⟩
end
section
variable {w0 w : World} {g : Nat}
theorem outByte_in {d : Int × List UInt8} (h : OutI w0 w g d) (n : Nat) (xs : List Int) (hxn : xs.length = n) (hn : n ≤ 1000000) (hsz : d.2.length ≤ 1000000000) (hx : ∀ z ∈ xs, -9223372036854775808 ≤ z ∧ z ≤ 9223372036854775807) :
    Calls Try.prog 29 #[.pointer (some ⟨g, 0, none⟩), .slice (some ⟨w.heap.size, 0, none⟩) n n] (w.alloc (.cells (icells xs).toArray 3)) fun r w' => r = .returned (.pointer (some ⟨g, 0, none⟩)) ∧ OutI w0 w' g (layO 1 d xs) :=
  h.step fun v hv => outByte_new g v d.1 d.2 n xs w hxn hv hn hsz hx
theorem inByte_in {d : Int × ByteArray} (h : InI w0 w g d) (hs : d.2.size ≤ 1000000000) :
    Calls Try.prog 36 #[.pointer (some ⟨g, 0, none⟩)] w fun r w' => r = .returned (.int .i64 (lowI d.1 d.2 1).1) ∧ InI w0 w' g (lowI d.1 d.2 1).2 :=
  h.step fun hv => inByte_calls g d.1 d.2 w hv hs
theorem outHalf_in {d : Int × List UInt8} (h : OutI w0 w g d) (n : Nat) (xs : List Int) (hxn : xs.length = n) (hn : n ≤ 1000000) (hsz : d.2.length ≤ 1000000000) (hx : ∀ z ∈ xs, -9223372036854775808 ≤ z ∧ z ≤ 9223372036854775807) :
    Calls Try.prog 30 #[.pointer (some ⟨g, 0, none⟩), .slice (some ⟨w.heap.size, 0, none⟩) n n] (w.alloc (.cells (icells xs).toArray 3)) fun r w' => r = .returned (.pointer (some ⟨g, 0, none⟩)) ∧ OutI w0 w' g (layO 2 d xs) :=
  h.step fun v hv => outHalf_new g v d.1 d.2 n xs w hxn hv hn hsz hx
theorem inHalf_in {d : Int × ByteArray} (h : InI w0 w g d) (hs : d.2.size ≤ 1000000000) :
    Calls Try.prog 37 #[.pointer (some ⟨g, 0, none⟩)] w fun r w' => r = .returned (.int .i64 (lowI d.1 d.2 2).1) ∧ InI w0 w' g (lowI d.1 d.2 2).2 :=
  h.step fun hv => inHalf_calls g d.1 d.2 w hv hs
theorem outWord_in {d : Int × List UInt8} (h : OutI w0 w g d) (n : Nat) (xs : List Int) (hxn : xs.length = n) (hn : n ≤ 1000000) (hsz : d.2.length ≤ 1000000000) (hx : ∀ z ∈ xs, -9223372036854775808 ≤ z ∧ z ≤ 9223372036854775807) :
    Calls Try.prog 78 #[.pointer (some ⟨g, 0, none⟩), .slice (some ⟨w.heap.size, 0, none⟩) n n] (w.alloc (.cells (icells xs).toArray 3)) fun r w' => r = .returned (.pointer (some ⟨g, 0, none⟩)) ∧ OutI w0 w' g (layO 4 d xs) :=
  h.step fun v hv => outWord_new g v d.1 d.2 n xs w hxn hv hn hsz hx
theorem inWord_in {d : Int × ByteArray} (h : InI w0 w g d) (hs : d.2.size ≤ 1000000000) :
    Calls Try.prog 80 #[.pointer (some ⟨g, 0, none⟩)] w fun r w' => r = .returned (.int .i64 (lowI d.1 d.2 4).1) ∧ InI w0 w' g (lowI d.1 d.2 4).2 :=
  h.step fun hv => inWord_calls g d.1 d.2 w hv hs
theorem outRaw_in {d : Int × List UInt8} (h : OutI w0 w g d) (n : Nat) (ts : List ByteArray) (hts : ts.length = n) (hn : n ≤ 1000000) (hsz : d.2.length + totalLen ts ≤ 140737488355328) :
    Calls Try.prog 31 #[.pointer (some ⟨g, 0, none⟩), .slice (some ⟨w.heap.size, 0, none⟩) n n] (w.alloc (.cells (scells ts).toArray 9)) fun r w' => r = .returned (.pointer (some ⟨g, 0, none⟩)) ∧ OutI w0 w' g (rawO d ts) :=
  h.step fun v hv => outRaw_new g v d.1 d.2 n ts w hts hv hn hsz
theorem outPad_in {d : Int × List UInt8} (h : OutI w0 w g d) (n : Int) :
    Calls Try.prog 77 #[.pointer (some ⟨g, 0, none⟩), .int .i64 n] w fun r w' => r = .returned (.pointer (some ⟨g, 0, none⟩)) ∧ OutI w0 w' g (padO d n) :=
  h.step fun v hv => outPad_calls g v d.1 d.2 n w hv
theorem outEnd_in {d : Int × List UInt8} (h : OutI w0 w g d) :
    Calls Try.prog 32 #[.pointer (some ⟨g, 0, none⟩)] w fun r w' => r = .returned (.tuple #[.string (endO d).1, .int .i64 (endO d).2]) ∧ OutI w0 w' g d := by
  obtain ⟨v, hv, hb⟩ := h.ex
  exact (outEnd_calls g v d.1 d.2 w hv).mono fun r w' ⟨h1, h2⟩ => ⟨h1, h.below h2⟩
theorem on_in (s : ByteArray) (h : Below w0.heap.size w0 w) : Calls Try.prog 35 #[.string s] w fun r w' => ∃ g, r = .returned (.pointer (some ⟨g, 0, none⟩)) ∧ InI w0 w' g (0, s) :=
  (on_calls s w).mono fun r w' ⟨h1, h2, h3⟩ => ⟨_, h1, h2, h.size, below_trans' h h3⟩
theorem inRaw_in {d : Int × ByteArray} (h : InI w0 w g d) (n : Int) (hs : d.2.size ≤ 1000000000) :
    Calls Try.prog 38 #[.pointer (some ⟨g, 0, none⟩), .int .i64 n] w fun r w' => r = .returned (.string (rawI d.1 d.2 n).1) ∧ InI w0 w' g (rawI d.1 d.2 n).2 :=
  h.step fun hv => inRaw_calls g n d.1 d.2 w hv hs
end
end Go.Proofs.Ytoadelcdcfdmfaa.B

/- An Out of a call's own, beside rows that the same statement has built in any order. -/
namespace Go.Proofs.Ytoadelcdcfdmfaa.B
open Go.RowKit
set_option linter.unusedVariables false

structure RowsR (w0 w : World) (L : List (Nat × List Value)) : Prop where
  rows : ∀ r ∈ L, r.1 < w.heap.size ∧ RowAt w (some ⟨r.1, 0, none⟩) r.2
  bel : Below w0.heap.size w0 w
structure OutR (w0 w : World) (g : Nat) (d : Int × List UInt8) (L : List (Nat × List Value)) : Prop where
  ex : ∃ v, OutS w g v d.1 d.2 ∧ ∀ b, v.ownBlock = some b → w0.heap.size ≤ b ∧ ∀ r ∈ L, r.1 ≠ b
  rows : ∀ r ∈ L, r.1 ≠ g ∧ r.1 < w.heap.size ∧ RowAt w (some ⟨r.1, 0, none⟩) r.2
  ge : w0.heap.size ≤ g
  bel : Below w0.heap.size w0 w
section
variable {P : Program} {f : FuncId} {args : Array Value} {w0 w w1 : World} {g : Nat} {R : Ending} {d d' : Int × List UInt8} {L : List (Nat × List Value)}
theorem RowsR.nil (h : Below w0.heap.size w0 w) : RowsR w0 w [] := ⟨by simp, h⟩
theorem RowsR.below (h : RowsR w0 w L) (hb : Below w.heap.size w w1) : RowsR w0 w1 L :=
  ⟨fun r hr => ⟨Nat.lt_of_lt_of_le (h.rows r hr).1 hb.size, (h.rows r hr).2.below hb⟩, below_trans' h.bel hb⟩
theorem RowsR.allocRow (h : RowsR w0 w L) (cs : List Value) (t : TypeId) : RowsR w0 (w.alloc (.cells cs.toArray t)) ((w.heap.size, cs) :: L) := by
  have hb : Below w.heap.size w (w.alloc (.cells cs.toArray t)) := (Below.refl _ _).alloc (Nat.le_refl _) _
  refine ⟨fun r hr => ?_, below_trans' h.bel hb⟩
  rcases List.mem_cons.1 hr with rfl | hr
  · exact ⟨by simp, rowAt_alloc w cs t⟩
  · exact (h.below hb).rows r hr
theorem RowsR.newOut (h : RowsR w0 w L) (hg : g = w.heap.size) : OutR w0 (w.alloc (.cells #[.slice none 0 0, .int .i64 0] 70)) g (0, []) L := by
  subst hg
  have hb : Below w.heap.size w (w.alloc (.cells #[.slice none 0 0, .int .i64 0] 70)) := (Below.refl _ _).alloc (Nat.le_refl _) _
  refine ⟨⟨_, outNew w, by simp [Value.ownBlock]⟩, fun r hr => ⟨?_, (h.below hb).rows r hr⟩, h.bel.size, below_trans' h.bel hb⟩
  have := (h.rows r hr).1
  omega
theorem OutR.below (h : OutR w0 w g d L) (hb : Below w.heap.size w w1) : OutR w0 w1 g d L := by
  obtain ⟨v, hv, hv2⟩ := h.ex
  exact ⟨⟨v, hv.below hb, hv2⟩, fun r hr => ⟨(h.rows r hr).1, Nat.lt_of_lt_of_le (h.rows r hr).2.1 hb.size, (h.rows r hr).2.2.below hb⟩, h.ge, below_trans' h.bel hb⟩
theorem OutR.drew (h : OutR w0 w g d L) : OutR w0 w.drew g d L := h.below (below_drewN (Below.refl _ _) 1)
theorem OutR.allocRow (h : OutR w0 w g d L) (cs : List Value) (t : TypeId) : OutR w0 (w.alloc (.cells cs.toArray t)) g d ((w.heap.size, cs) :: L) := by
  have hb : Below w.heap.size w (w.alloc (.cells cs.toArray t)) := (Below.refl _ _).alloc (Nat.le_refl _) _
  obtain ⟨v, hv, hv2⟩ := h.ex
  refine ⟨⟨v, hv.below hb, fun b hb' => ⟨(hv2 b hb').1, fun r hr => ?_⟩⟩, fun r hr => ?_, h.ge, below_trans' h.bel hb⟩
  · rcases List.mem_cons.1 hr with rfl | hr
    · have := hv.vlt hb'; simp only; omega
    · exact (hv2 b hb').2 r hr
  · rcases List.mem_cons.1 hr with rfl | hr
    · have := hv.lt
      exact ⟨by simp only; omega, by simp, rowAt_alloc w cs t⟩
    · exact (h.below hb).rows r hr
theorem OutR.cell {b j : Nat} {cs : List Value} {u : Value} (h : OutR w0 w g d L) (hm : (b, cs) ∈ L) (hj : cs[j]? = some u) : w.cell? ⟨b, j, none⟩ = some u := by
  obtain ⟨ad, e, hc⟩ := (h.rows _ hm).2.2.get hj
  injection e with e
  subst e
  rwa [add0] at hc
theorem OutR.step (h : OutR w0 w g d L) (c : ∀ v, OutS w g v d.1 d.2 → (∀ r ∈ L, ∀ w', Touched w w' (g :: v.ownBlock.toList) → RowAt w' (some ⟨r.1, 0, none⟩) r.2) → Calls P f args w fun r w' => r = R ∧ OutTo w w' g v d') : Calls P f args w fun r w' => r = R ∧ OutR w0 w' g d' L := by
  obtain ⟨v, hv, hv2⟩ := h.ex
  have keep : ∀ r ∈ L, ∀ w', Touched w w' (g :: v.ownBlock.toList) → RowAt w' (some ⟨r.1, 0, none⟩) r.2 := by
    intro r hr w' hT
    refine row_touched (h.rows r hr).2.2 hT (.inr ⟨_, rfl, ?_⟩)
    intro hm
    simp only [List.mem_cons, Option.mem_toList] at hm
    rcases hm with hm | hm
    · exact (h.rows r hr).1 hm
    · exact (hv2 _ hm).2 r hr rfl
  refine (c v hv keep).mono fun r w' ⟨h1, h2⟩ => ⟨h1, ?_⟩
  obtain ⟨⟨v', h3, h4⟩, h5⟩ := h2
  refine ⟨⟨v', h3, fun b hb => ?_⟩, fun r hr => ⟨(h.rows r hr).1, Nat.lt_of_lt_of_le (h.rows r hr).2.1 h5.size, keep r hr w' h5⟩, h.ge, h5.below h.bel h.bel.size ?_⟩
  · rcases h4 b hb with h6 | h6
    · exact hv2 b h6
    · exact ⟨Nat.le_trans h.bel.size h6, fun r hr => by have := (h.rows r hr).2.1; omega⟩
  · intro k hk
    simp only [List.mem_cons, Option.mem_toList] at hk
    rcases hk with rfl | hk
    · exact h.ge
    · exact (hv2 k hk).1
end
section
variable {w0 w : World} {g b : Nat} {d : Int × List UInt8} {L : List (Nat × List Value)}
theorem outByte_row (h : OutR w0 w g d L) (n c : Nat) (xs : List Int) (hm : (b, icells xs) ∈ L) (hxn : xs.length = n) (hn : n ≤ 1000000) (hsz : d.2.length ≤ 1000000000) (hx : ∀ z ∈ xs, -9223372036854775808 ≤ z ∧ z ≤ 9223372036854775807) :
    Calls Try.prog 29 #[.pointer (some ⟨g, 0, none⟩), .slice (some ⟨b, 0, none⟩) n c] w fun r w' => r = .returned (.pointer (some ⟨g, 0, none⟩)) ∧ OutR w0 w' g (layO 1 d xs) L :=
  h.step fun v hv hr => outByte_calls g v d.1 d.2 _ n c xs w hxn hv hn hsz hx (hr _ hm)
theorem outHalf_row (h : OutR w0 w g d L) (n c : Nat) (xs : List Int) (hm : (b, icells xs) ∈ L) (hxn : xs.length = n) (hn : n ≤ 1000000) (hsz : d.2.length ≤ 1000000000) (hx : ∀ z ∈ xs, -9223372036854775808 ≤ z ∧ z ≤ 9223372036854775807) :
    Calls Try.prog 30 #[.pointer (some ⟨g, 0, none⟩), .slice (some ⟨b, 0, none⟩) n c] w fun r w' => r = .returned (.pointer (some ⟨g, 0, none⟩)) ∧ OutR w0 w' g (layO 2 d xs) L :=
  h.step fun v hv hr => outHalf_calls g v d.1 d.2 _ n c xs w hxn hv hn hsz hx (hr _ hm)
theorem outWord_row (h : OutR w0 w g d L) (n c : Nat) (xs : List Int) (hm : (b, icells xs) ∈ L) (hxn : xs.length = n) (hn : n ≤ 1000000) (hsz : d.2.length ≤ 1000000000) (hx : ∀ z ∈ xs, -9223372036854775808 ≤ z ∧ z ≤ 9223372036854775807) :
    Calls Try.prog 78 #[.pointer (some ⟨g, 0, none⟩), .slice (some ⟨b, 0, none⟩) n c] w fun r w' => r = .returned (.pointer (some ⟨g, 0, none⟩)) ∧ OutR w0 w' g (layO 4 d xs) L :=
  h.step fun v hv hr => outWord_calls g v d.1 d.2 _ n c xs w hxn hv hn hsz hx (hr _ hm)
theorem outRaw_row (h : OutR w0 w g d L) (n c : Nat) (ts : List ByteArray) (hm : (b, scells ts) ∈ L) (hts : ts.length = n) (hn : n ≤ 1000000) (hsz : d.2.length + totalLen ts ≤ 140737488355328) :
    Calls Try.prog 31 #[.pointer (some ⟨g, 0, none⟩), .slice (some ⟨b, 0, none⟩) n c] w fun r w' => r = .returned (.pointer (some ⟨g, 0, none⟩)) ∧ OutR w0 w' g (rawO d ts) L := by
  subst hts
  exact h.step fun v hv hr => outRaw_calls g v d.1 d.2 _ c ts w hv (by omega) hsz (hr _ hm)
theorem outPad_row (h : OutR w0 w g d L) (n : Int) :
    Calls Try.prog 77 #[.pointer (some ⟨g, 0, none⟩), .int .i64 n] w fun r w' => r = .returned (.pointer (some ⟨g, 0, none⟩)) ∧ OutR w0 w' g (padO d n) L :=
  h.step fun v hv _ => outPad_calls g v d.1 d.2 n w hv
theorem outEnd_row (h : OutR w0 w g d L) :
    Calls Try.prog 32 #[.pointer (some ⟨g, 0, none⟩)] w fun r w' => r = .returned (.tuple #[.string (endO d).1, .int .i64 (endO d).2]) ∧ OutR w0 w' g d L := by
  obtain ⟨v, hv, hb⟩ := h.ex
  exact (outEnd_calls g v d.1 d.2 w hv).mono fun r w' ⟨h1, h2⟩ => ⟨h1, h.below h2⟩
end
end Go.Proofs.Ytoadelcdcfdmfaa.B

/- What was laid is read as it was: plain; make([]byte, n) and string of it. -/
namespace Go.Proofs.Ytoadelcdcfdmfaa.B
open Go.RowKit
set_option linter.unusedVariables false

theorem make_u8 (n : Nat) (hn : n ≤ 281474976710656) (W : World) : (Instr.makeSlice 67 (.int .i64 (n : Int)) (.int .i64 (n : Int))).run Try.prog W = .ok (.slice (some ⟨W.heap.size, 0, none⟩) n n) (W.alloc (.cells (bcells (List.replicate n 0)).toArray 5)) := by
  have h := run_make_row' (P := Try.prog) 67 5 (.int .u8 0) 1 Try.underlying67 (by kernel_rfl) rfl .i64 .i64 n (by omega) (by omega) W
  have e : madeCells #[.int .u8 0] n = (bcells (List.replicate n 0)).toArray := by
    apply Array.toList_inj.mp
    rw [toList_madeCells_one]
    simp [bcells]
  rw [e] at h
  exact h
theorem zeros_own (W : World) (n : Nat) (hn : n ≤ maxLen) : Own (W.alloc (.cells (bcells (List.replicate n 0)).toArray 5)) W.heap.size 1 (.slice (some ⟨W.heap.size, 0, none⟩) n n) n (bcells (List.replicate n 0)) := by
  have h := Own.fresh W (bcells (List.replicate n 0)).toArray 5 (by simpa [bcells] using hn)
  simpa [bcells] using h
theorem zeros_str (n : Nat) (hn : n ≤ 281474976710656) (W : World) : (convert 67 9 (.slice (some ⟨W.heap.size, 0, none⟩) n n)).run Try.prog (W.alloc (.cells (bcells (List.replicate n 0)).toArray 5)) = .ok (.string (zerosB n)) (W.alloc (.cells (bcells (List.replicate n 0)).toArray 5)) := by
  have h := bytes_str Try.prog 67 5 9 Try.underlying67 Try.underlying5 Try.underlying9 (some ⟨W.heap.size, 0, none⟩) n n (List.replicate n 0) _ (by simp) (by
    obtain ⟨A, c, e, _, hr, _⟩ := (zeros_own W n (by unfold maxLen; omega)).slice
    injection e with e1 e2 e3
    subst e1
    exact hr)
  rw [h]; rfl

theorem i64_low (k : Nat) (hk : k < 63) (x : Int) : bits BinOp.and IntKind.i64 x ((2 ^ k - 1 : Nat) : Int) = x % ((2 ^ k : Nat) : Int) := by
  show IntKind.i64.wrap ((BitVec.ofInt 64 x &&& BitVec.ofInt 64 ((2 ^ k - 1 : Nat) : Int)).toNat : Int) = _
  have hp : (2 : Nat) ^ k ≤ 2 ^ 62 := Nat.pow_le_pow_right (by decide) (by omega)
  have hp2 : (2 : Nat) ^ 62 = 4611686018427387904 := by decide
  have hp0 : 0 < (2 : Nat) ^ k := Nat.pow_pos (by decide)
  have e1 : (((2 ^ k - 1 : Nat) : Int) % ((2 ^ 64 : Nat) : Int)).toNat = 2 ^ k - 1 := by
    have : (2 : Nat) ^ 64 = 18446744073709551616 := by decide
    rw [this]; omega
  rw [BitVec.toNat_and, BitVec.toNat_ofInt, BitVec.toNat_ofInt, e1, Nat.and_two_pow_sub_one_eq_mod]
  have h : 0 ≤ x % ((2 ^ 64 : Nat) : Int) := Int.emod_nonneg _ (by decide)
  have h2 : ((((x % ((2 ^ 64 : Nat) : Int)).toNat % 2 ^ k : Nat) : Int)) = x % ((2 ^ k : Nat) : Int) := by
    rw [Int.natCast_emod, Int.toNat_of_nonneg h]
    exact Int.emod_emod_of_dvd x (by exact_mod_cast Nat.pow_dvd_pow 2 (by omega))
  rw [h2]
  have h3 : 0 ≤ x % ((2 ^ k : Nat) : Int) := Int.emod_nonneg _ (by omega)
  have h4 : x % ((2 ^ k : Nat) : Int) < ((2 ^ k : Nat) : Int) := Int.emod_lt_of_pos _ (by omega)
  exact IntWalk.i64_in _ (by omega)

theorem layB_fine {size : Nat} {x : Int} (h0 : 0 ≤ x) (h : 8 ≤ size ∨ x < ((256 ^ size : Nat) : Int)) : layB size x = false := by
  refine decide_eq_false ?_
  rintro (h1 | ⟨h1, h2⟩)
  · omega
  · rcases h with h | h
    · omega
    · have e : ((2 : Int) ^ (8 * size)) = ((256 ^ size : Nat) : Int) := by rw [Int.pow_mul]; simp
      rw [e] at h2
      exact h2 (Int.ediv_eq_zero_of_lt h0 h)
theorem layO_fine (size : Nat) (l : List UInt8) (xs : List Int) (h : ∀ x ∈ xs, layB size x = false) : layO size (0, l) xs = (0, l ++ xs.flatMap fun x => lowL x.toNat size) := by
  induction xs generalizing l with
  | nil => simp [layO]
  | cons x xs ih =>
    have h1 : layOne size (0, l) x = (0, l ++ lowL x.toNat size) := by
      rw [layOne, if_neg (by simp), if_neg (by rw [h x (by simp)]; simp)]
    rw [layO, List.foldl_cons, h1]
    have := ih (l ++ lowL x.toNat size) (fun y hy => h y (by simp [hy]))
    rw [layO] at this
    rw [this]
    simp
theorem layO_many (size : Nat) (l : List UInt8) (xs : List Int) (n : Nat) (hn : l.length + size * xs.length = n) (h : ∀ x ∈ xs, layB size x = false) : ∃ m, layO size (0, l) xs = (0, m) ∧ m.length = n := by
  refine ⟨_, layO_fine size l xs h, ?_⟩
  subst hn
  clear h
  induction xs generalizing l with
  | nil => simp
  | cons x xs ih =>
    have := ih (l ++ lowL x.toNat size)
    simp only [List.length_append, List.flatMap_cons, lowL_length, List.length_cons, Nat.mul_add] at *
    omega
theorem mkS_toList (l : List UInt8) : (⟨l.toArray⟩ : ByteArray).data.toList = l := by simp
theorem ext_mk (l : List UInt8) (i j : Nat) (h : j ≤ l.length) : (⟨l.toArray⟩ : ByteArray).extract i j = ⟨((l.take j).drop i).toArray⟩ := by
  apply ByteArray.ext
  apply Array.toList_inj.mp
  simp [ByteArray.data_extract, List.extract_eq_take_drop, List.drop_take]
theorem rawI_ok (a b : List UInt8) (n : Nat) (h : a.length = n) : rawI 0 ⟨(a ++ b).toArray⟩ (n : Int) = (⟨a.toArray⟩, 0, ⟨b.toArray⟩) := by
  subst h
  rw [rawI, if_neg (by simp), if_neg (by omega), if_neg (by rw [mk_size, List.length_append]; omega), Int.toNat_natCast, mk_size, ext_mk _ _ _ (by simp), ext_mk _ _ _ (Nat.le_refl _), List.take_of_length_le (Nat.le_refl _)]
  simp
theorem lowI_ok (x size : Nat) (b : List UInt8) (hx : x < 256 ^ size) (hb : x < 9223372036854775808) : lowI 0 ⟨(lowL x size ++ b).toArray⟩ size = ((x : Int), 0, ⟨b.toArray⟩) := by
  have h := rawI_ok (lowL x size) b size (lowL_length x size)
  have e : numL (lowL x size) = x := by rw [numL_lowL, Nat.mod_eq_of_lt hx]
  rw [lowI, h]
  simp only [e]
  rw [if_neg (by omega)]
theorem textI_ok (s : ByteArray) (b : List UInt8) (h : s.size ≤ 65535) : textI 0 ⟨(lowL s.size 2 ++ (s.data.toList ++ b)).toArray⟩ = (s, 0, ⟨b.toArray⟩) := by
  rw [textI, lowI_ok s.size 2 _ (by simp; omega) (by omega)]
  simp only
  rw [rawI_ok _ _ _ (data_length s), mk_data]
theorem rawI_err (e : Int) (s : ByteArray) (n : Int) (h : e ≠ 0) : rawI e s n = (ByteArray.empty, e, s) := by rw [rawI, if_pos h]
theorem rawI_short (s : ByteArray) (n : Nat) (h : s.size < n) : rawI 0 s (n : Int) = (ByteArray.empty, 5, s) := by
  rw [rawI, if_neg (by simp), if_neg (by omega), if_pos (by omega)]
theorem numL_empty : numL ByteArray.empty.data.toList = 0 := rfl
theorem lowI_err (e : Int) (s : ByteArray) (n : Nat) (h : e ≠ 0) : lowI e s n = (0, e, s) := by
  rw [lowI, rawI_err e s _ h, numL_empty, if_neg (by omega)]; rfl
theorem lowI_short (s : ByteArray) (n : Nat) (h : s.size < n) : lowI 0 s n = (0, 5, s) := by
  rw [lowI, rawI_short s n h, numL_empty, if_neg (by omega)]; rfl
theorem textI_err (e : Int) (s : ByteArray) (h : e ≠ 0) : textI e s = (ByteArray.empty, e, s) := by
  rw [textI, lowI_err e s 2 h]; exact rawI_err e s 0 h
theorem textI_short (s : ByteArray) (h : s.size < 2) : textI 0 s = (ByteArray.empty, 5, s) := by
  rw [textI, lowI_short s 2 h]; exact rawI_err 5 s 0 (by decide)
theorem textO_fine (l : List UInt8) (s : ByteArray) (h : s.size ≤ 65535) : textO (0, l) [s] = (0, l ++ (lowL s.size 2 ++ s.data.toList)) := by
  rw [textO, List.foldl_cons, List.foldl_nil, textOne, if_neg (by simp), if_neg (by omega), List.append_assoc]
theorem textO_fine2 (l : List UInt8) (s t : ByteArray) (h : s.size ≤ 65535) (h2 : t.size ≤ 65535) : textO (0, l) [s, t] = (0, l ++ (lowL s.size 2 ++ (s.data.toList ++ (lowL t.size 2 ++ t.data.toList)))) := by
  have h1 := textO_fine l s h
  have h3 := textO_fine (l ++ (lowL s.size 2 ++ s.data.toList)) t h2
  rw [textO, List.foldl_cons, List.foldl_nil] at h1 h3
  rw [textO, List.foldl_cons, List.foldl_cons, List.foldl_nil, h1, h3]
  simp
theorem textI_size' (e : Int) (s : ByteArray) : (textI e s).2.2.size ≤ s.size :=
  Nat.le_trans (rawI_size _ _ _).2.1 (lowI_size e s 2)
end Go.Proofs.Ytoadelcdcfdmfaa.B

/- The document's reader (masonryref1.In): it tells what the program's reader tells. -/
namespace Go.Proofs.Ytoadelcdcfdmfaa.B
open Go.RowKit
set_option linter.unusedVariables false

set_option maxHeartbeats 800000 in
theorem refNum_calls (s : ByteArray) (w : World) (hs : s.size ≤ 8) : Calls Try.prog 43 #[.string s] w fun e w' => e = .returned (.int .u64 (numL s.data.toList : Int)) ∧ w = w' := by
  go_enter Try.func43, Try.ntmps43
  go_wp2_with fail
  go_loop [3, 4] (fun v i => ∃ k : Nat, k ≤ s.size ∧ i = .int .i64 ((k : Int) - 1) ∧ v = .int .u64 (numL (s.data.toList.drop k) : Int)) (fun _ i => (intOf i + 1).toNat)
  case atStart => exact ⟨s.size, by omega, rfl, by rw [List.drop_of_length_le (by rw [data_length]; omega)]; rfl⟩
  case round =>
    obtain ⟨k, hk, rfl, rfl⟩ := hrel
    rcases Nat.eq_zero_or_pos k with rfl | hk0
    · have e1 : ((0 : Nat) : Int) - 1 = -1 := rfl
      rw [e1, List.drop_zero]
      clear e1
      go_wp2_with fail
      go_ret
      exact ⟨rfl, rfl⟩
    · obtain ⟨j, rfl⟩ : ∃ j, k = j + 1 := ⟨k - 1, by omega⟩
      have e1 : ((j + 1 : Nat) : Int) - 1 = (j : Int) := by omega
      rw [e1]
      have hlt : j < s.size := by omega
      have hd : s.data.toList.drop j = s[j] :: s.data.toList.drop (j + 1) := by
        rw [List.drop_eq_getElem_cons (by rw [data_length]; exact hlt)]; rfl
      have hn : numL (s.data.toList.drop j) = s[j].toNat + 256 * numL (s.data.toList.drop (j + 1)) := by rw [hd]; rfl
      have hb := numL_lt (s.data.toList.drop (j + 1))
      have hb2 : 256 ^ (s.data.toList.drop (j + 1)).length ≤ 256 ^ 7 := Nat.pow_le_pow_right (by decide) (by rw [List.length_drop, data_length]; omega)
      have hb3 : (256 : Nat) ^ 7 = 72057594037927936 := by decide
      obtain ⟨p, hp⟩ : ∃ p, numL (s.data.toList.drop (j + 1)) = p := ⟨_, rfl⟩
      obtain ⟨q, hq⟩ : ∃ q, numL (s.data.toList.drop j) = q := ⟨_, rfl⟩
      rw [hp] at hn hb ⊢
      rw [hq] at hn
      have hp2 : (p : Int) ≤ 72057594037927935 := by omega
      have hp0 : (0 : Int) ≤ (p : Int) := by omega
      have hu := s[j].toNat_lt
      have HN : Box (q = s[j].toNat + 256 * p) := ⟨hn⟩
      have HQ : Box (numL (s.data.toList.drop j) = q) := ⟨hq⟩
      clear hn hb hb2 hb3 hp hq hd e1 hk0
      go_wp2_with fail
      go_round
      case rel => exact ⟨j, by omega, by go_num, by rw [HQ.out, HN.out]; exact val_int (by omega)⟩
      case measure => simp [intOf]

end Go.Proofs.Ytoadelcdcfdmfaa.B

/- Package fixed and its reference: what each function computes. -/
namespace Go.Proofs.Ytoadelcdcfdmfaa
open Go.RowKit
set_option linter.unusedVariables false
attribute [local go_sem] max2_int min2_int max_two min_two

theorem el_spans : El Try.prog 109 127 2 16 := El.mk' Try.underlying109 (z := .agg #[.int .i64 0, .int .i64 0]) (by kernel_rfl) (by decide)

def wholeGo : Int → List (Int × Int) → Option Int
  | at_, [] => some at_
  | at_, p :: r => if p.1 = at_ ∧ at_ < p.2 then wholeGo p.2 r else none
def wholeB (n : Int) (l : List (Int × Int)) : Bool := decide (wholeGo 0 l = some n)

theorem drop_of_at {α : Type} {l : List α} {k : Nat} {x : α} (h : l[k]? = some x) : l.drop k = x :: l.drop (k + 1) := by
  rw [List.getElem?_eq_some_iff] at h
  obtain ⟨h, rfl⟩ := h
  exact List.drop_eq_getElem_cons h

/-- Whether a span has a byte of a part. -/
def hits (a b : Int) (p : Int × Int) : Prop := max p.1 a < min p.2 b
instance (a b : Int) (p : Int × Int) : Decidable (hits a b p) := by unfold hits; infer_instance
def touchGo (a b : Int) : Nat → List (Int × Int) → Int × Int → Int × Int
  | _, [], r => r
  | i, p :: l, r => touchGo a b (i + 1) l (if hits a b p then (if r.2 = 0 then (i : Int) else r.1, (i : Int) + 1) else r)
def touch (a b : Int) (l : List (Int × Int)) : Int × Int := touchGo a b 0 l (0, 0)

/-- Spans of n bytes of so many. -/
def fixedL (n size : Nat) : List (Int × Int) := (List.range ((size + n - 1) / n)).map fun i => (((i * n : Nat) : Int), ((min ((i + 1) * n) size : Nat) : Int))
def fixedZ (n size : Int) : List (Int × Int) := if n < 1 then [] else fixedL n.toNat size.toNat
theorem fixedL_length (n size : Nat) : (fixedL n size).length = (size + n - 1) / n := by simp [fixedL]
theorem fixed_lt {n size k : Nat} (hn : 1 ≤ n) : k < (size + n - 1) / n ↔ k * n < size := by
  rw [Nat.lt_div_iff_mul_lt (by omega)]
  omega
theorem fixedL_at {n size k : Nat} (hn : 1 ≤ n) (h : k * n < size) : (fixedL n size)[k]? = some (((k * n : Nat) : Int), ((min ((k + 1) * n) size : Nat) : Int)) := by
  simp [fixedL, (fixed_lt hn).2 h]
theorem fixed_le {n size k : Nat} (hn : 1 ≤ n) (h : k ≤ (size + n - 1) / n) : k ≤ size := by
  rcases Nat.eq_zero_or_pos k with h0 | h0
  · omega
  · have := (fixed_lt (n := n) (size := size) (k := k - 1) hn).1 (by omega)
    have h2 : (k - 1) * 1 ≤ (k - 1) * n := Nat.mul_le_mul_left _ hn
    omega
theorem one_pair (x y : Int) : ∀ u ∈ ([.int .i64 x, .int .i64 y] : List Value), u.oneCell' = true := by intro u hu; simp at hu; rcases hu with rfl | rfl <;> rfl

theorem fixedZ_pos {n : Int} {size : Nat} (hn : 1 ≤ n) : fixedZ n size = fixedL n.toNat size := by simp [fixedZ]; omega
theorem fixedZ_none {n : Int} {size : Int} (hn : n < 1) : fixedZ n size = [] := by simp [fixedZ, hn]

end Go.Proofs.Ytoadelcdcfdmfaa

/- The Book's helpers on lists of numbers: a copy, a comparison, marks. -/
namespace Go.Proofs.Ytoadelcdcfdmfaa
open Go.RowKit
set_option linter.unusedVariables false

theorem el_ints1 : El Try.prog 22 3 1 8 := El.mk' Try.underlying22 (z := .int .i64 0) (by kernel_rfl) (by decide)
theorem icells_len1 (l : List Int) : (icells l).length = l.length * 1 := by simp [icells]
theorem icells_app (l m : List Int) : icells (l ++ m) = icells l ++ icells m := by simp [icells]
theorem one_int (x : Int) : ∀ u ∈ ([.int .i64 x] : List Value), u.oneCell' = true := by intro u hu; simp at hu; subst hu; rfl
set_option maxHeartbeats 400000 in
theorem copyInts_calls (A : Option Addr) (n c : Nat) (l : List Int) (w : World) (hl : l.length = n) (hn : n * 8 ≤ 140737488351232) (hR : RowAt w A (icells l)) :
    Calls Try.prog 26 #[.slice A n c] w fun e w' => ∃ v, e = .returned v ∧ Own w' w.heap.size 1 v n (icells l) ∧ Below w.heap.size w w' := by
  go_enter Try.func26, Try.ntmps26
  go_wp2_with (at_builtin; refine appO el_ints1 w.heap.size rfl _ _ rfl (v := .slice none 0 0) (n := 0) (xs := []) rfl (Own.nil _ _ _) rfl (news := icells l) (by rw [icells_len1, hl]) hR (one_icells l) (by omega) (Nat.le_refl _) ?_; intro v1 w1 hown1 hg1 _)
  go_ret
  exact ⟨_, rfl, by simpa using hown1, (Below.refl _ _).grown hg1 (Nat.le_refl _) (fun j hj => by cases (show (none : Option Nat) = some j from hj))⟩

set_option maxHeartbeats 1600000 in
theorem sameInts_calls (A B : Option Addr) (n1 n2 c d : Nat) (l m : List Int) (w : World) (hl : l.length = n1) (hm : m.length = n2) (hn : n1 ≤ 4000000000000000000) (hR : RowAt w A (icells l)) (hS : RowAt w B (icells m)) :
    Calls Try.prog 16 #[.slice A n1 c, .slice B n2 d] w fun e w' => e = .returned (.bool (decide (l = m))) ∧ Below w.heap.size w w' := by
  have HR := Lib.hid hR; clear hR
  have HS := Lib.hid hS; clear hS
  have HLl := Lib.hid hl
  have HMl := Lib.hid hm
  by_cases hlen : n1 = n2
  case neg =>
    have hb : decide (l = m) = false := by simp; intro h; exact hlen (by rw [← hl, ← hm, h])
    rw [hb]
    clear hl hm
    have hne : ((n1 : Int) != (n2 : Int)) = true := by simp; omega
    go_enter Try.func16, Try.ntmps16
    go_wp2
    go_ret
    exact ⟨rfl, Below.refl _ _⟩
  subst hlen
  clear hl hm
  go_enter Try.func16, Try.ntmps16
  go_wp2
  go_loopw [5] (fun i wr => ∃ k : Nat, k ≤ n1 ∧ i = .int .i64 k ∧ Hid (l.take k = m.take k) ∧ Hid (Below w.heap.size w wr)) (fun i _ => n1 - (intOf i).toNat)
  case atStart => exact ⟨0, Nat.zero_le _, rfl, by simp [Hid], Below.refl _ _⟩
  case round =>
    obtain ⟨k, hk, rfl, HE, HW⟩ := hrel
    by_cases hlt : k < n1
    · obtain ⟨x, hx⟩ := some_at (show k < l.length by have := HLl.out; omega)
      obtain ⟨y, hy⟩ := some_at (show k < m.length by have := HMl.out; omega)
      have hx' := icells_at hx
      have hy' := icells_at hy
      obtain ⟨b1, o1, rfl, hb1, s1⟩ := (HR.out.below HW.out).addr (by intro e; rw [e] at hx'; simp at hx')
      obtain ⟨b2, o2, rfl, hb2, s2⟩ := (HS.out.below HW.out).addr (by intro e; rw [e] at hy'; simp at hy')
      have t1 := s1 _ _ hx'
      have t2 := s2 _ _ hy'
      have HX := Lib.hid hx
      have HY := Lib.hid hy
      clear hx hy hx' hy' s1 s2
      have j1 : (0 : Int) ≤ (k : Int) := by omega
      have j2 : (k : Int) < (n1 : Int) := by omega
      by_cases hxy : x = y
      · subst hxy
        go_wp2_with fail
        first
          | (go_big_quiet (fail)
             go_wp2
             go_roundw)
          | go_roundw
        case rel => exact ⟨k + 1, by omega, by go_num, take_eq_snoc HX.out HY.out HE.out, by first | exact below_drewN HW.out _ | exact HW⟩
        case measure => simp [intOf]; omega
      · have HF : Hid (decide (l = m) = false) := by
          simp only [Hid, decide_eq_false_iff_not]
          intro h
          have h1 := HX.out
          rw [h, HY.out] at h1
          injection h1 with h1
          exact hxy h1.symm
        have hx1 : (x == y) = false := by simpa using hxy
        clear hxy
        go_wp2_with fail
        first
          | (go_big_quiet (fail)
             go_wp2
             go_ret)
          | go_ret
        exact ⟨ret_bool HF.out.symm, by first | exact below_drewN HW.out _ | exact HW.out⟩
    · have HT : Hid (decide (l = m) = true) := by
        simp only [Hid, decide_eq_true_iff]
        exact eq_of_take (by have := HE.out; rwa [show k = l.length by have := HLl.out; omega] at this) (by rw [HLl.out, HMl.out])
      go_wp2
      go_ret
      exact ⟨ret_bool HT.out.symm, HW.out⟩

/-- Marks for list i, from place 'from' on. -/
def marksI (i from_ n : Nat) : List Int := (List.range n).map fun j => -1000000 * (i : Int) - ((from_ + j : Nat) : Int) - 7
theorem marksI_length (i f n : Nat) : (marksI i f n).length = n := by simp [marksI]
theorem marksI_snoc (i f k : Nat) : marksI i f (k + 1) = marksI i f k ++ [-1000000 * (i : Int) - ((f + k : Nat) : Int) - 7] := by
  simp [marksI, List.range_succ]
theorem marksI_append (i f a b : Nat) : marksI i f (a + b) = marksI i f a ++ marksI i (f + a) b := by
  simp only [marksI, List.range_add, List.map_append, List.map_map]
  congr 1
  apply List.map_congr_left
  intro x _
  simp only [Function.comp]
  omega

set_option maxHeartbeats 1600000 in
set_option maxRecDepth 100000 in
theorem markInts_calls (i f n : Nat) (w : World) (hi : i ≤ 1000000) (hf : f ≤ 1000000) (hn : n ≤ 1000000) :
    Calls Try.prog 92 #[.int .i64 i, .int .i64 f, .int .i64 n] w fun e w' => ∃ v, e = .returned v ∧ Own w' w.heap.size 1 v n (icells (marksI i f n)) ∧ Below w.heap.size w w' := by
  go_enter Try.func92, Try.ntmps92
  go_wp2
  go_loopw [7, 8] (fun v x wr => ∃ k : Nat, k ≤ n ∧ x = .int .i64 ((f : Int) + (k : Int)) ∧ Hid (Own wr w.heap.size 1 v k (icells (marksI i f k))) ∧ Hid (Below w.heap.size w wr)) (fun _ x _ => f + n - (intOf x).toNat)
  case atStart => exact ⟨0, Nat.zero_le _, by simp, Own.nil _ _ _, Below.refl _ _⟩
  case round =>
    obtain ⟨k, hk, rfl, HO, HW⟩ := hrel
    by_cases hlt : k < n
    · have y1 := IntWalk.i64_in (-1000000 * (i : Int)) (by omega)
      obtain ⟨z, hz⟩ : ∃ z : Int, -1000000 * (i : Int) - ((f : Int) + (k : Int)) - 7 = z := ⟨_, rfl⟩
      have HZ : Hid (icells (marksI i f (k + 1)) = icells (marksI i f k) ++ [.int .i64 z]) := by
        rw [Hid, marksI_snoc, icells_app, ← hz]
        simp [icells]
      go_wp2_with (at_builtin; refine appO el_ints1 w.heap.size rfl _ _ rfl rfl (HO.out.alloc _) (news := [.int .i64 z]) rfl rfl (rowAt_alloc _ [.int .i64 z] _) (one_int _) (by omega) (by have := HW.out.size; simp; omega) ?_; intro v1 w3 hown1 hg1 _; have HO3 : Hid (Own w3 w.heap.size 1 v1 (k + 1) (icells (marksI i f (k + 1)))) := (by rw [HZ.out]; exact hown1); have HB3 : Hid (Below w.heap.size w w3) := Own.grown_below (HO.out.alloc _) (HW.out.alloc HW.out.size _) hg1 (Nat.le_refl _); clear hown1 hg1)
      go_roundw
      case rel => exact ⟨k + 1, by omega, by first | rfl | (congr 1; omega), HO3, HB3⟩
      case measure => simp [intOf]; omega
    · obtain rfl : k = n := by omega
      go_wp2
      go_ret
      exact ⟨_, rfl, HO.out, HW.out⟩
end Go.Proofs.Ytoadelcdcfdmfaa

/- (Numbers.) (*Book).stillInts, markedInts: lists of lists that are as they were, or as they were marked. -/
namespace Go.Proofs.Ytoadelcdcfdmfaa
open Go.RowKit
set_option linter.unusedVariables false

theorem below_drew' {B : Nat} {w W : World} (h : Below B w W) : Below B w W.drew := ⟨h.os, h.tape, h.output, h.size, h.block⟩
theorem cell_lt {w : World} {a : Addr} {v : Value} (h : w.cell? a = some v) : a.block < w.heap.size := World.block_lt_of_cell? w _ h

set_option maxHeartbeats 1600000 in
set_option maxRecDepth 100000 in
theorem stillInts_calls (g : Nat) (A B : Option Addr) (c d N : Nat) (vs us : List Value) (ls : List (List Int)) (w : World) (hN : N ≤ 1000) (hl : ls.length = N)
    (c4 : w.cell? ⟨g, 2, none⟩ = some (.slice A N c)) (c5 : w.cell? ⟨g, 3, none⟩ = some (.slice B N d)) (hA : RowAt w A vs) (hB : RowAt w B us)
    (hin : ∀ (i : Nat) (l : List Int), ls[i]? = some l → ∃ (A' : Option Addr) (c' : Nat) (B' : Option Addr) (d' : Nat), vs[i]? = some (Value.slice A' l.length c') ∧ us[i]? = some (Value.slice B' l.length d') ∧ l.length ≤ 4000000000000000000 ∧ RowAt w A' (icells l) ∧ RowAt w B' (icells l)) :
    Calls Try.prog 45 #[.pointer (some ⟨g, 0, none⟩)] w fun e w' => e = .returned (.bool true) ∧ Below w.heap.size w w' := by
  have HA := Lib.hid hA
  have HB := Lib.hid hB
  have HI := Lib.hid hin
  have HL := Lib.hid hl
  have C4 := Lib.hid c4
  have C5 := Lib.hid c5
  clear hA hB hin hl
  go_enter Try.func45, Try.ntmps45
  go_wp2
  go_loopw [3] (fun i wr => ∃ k : Nat, k ≤ N ∧ i = .int .i64 k ∧ Hid (Below w.heap.size w wr)) (fun i _ => N - (intOf i).toNat)
  case atStart => exact ⟨0, Nat.zero_le _, rfl, Below.refl _ _⟩
  case round =>
    obtain ⟨k, hk, rfl, HW⟩ := hrel
    clear c4 c5
    have c4 := cell_kept HW.out (Nat.le_refl _) C4.out
    have c5 := cell_kept HW.out (Nat.le_refl _) C5.out
    by_cases hlt : k < N
    · obtain ⟨l, hl⟩ := some_at (l := ls) (k := k) (by rw [HL.out]; exact hlt)
      obtain ⟨A', c', B', d', e1, e2, hll, hr1, hr2⟩ := HI.out k l hl
      obtain ⟨b1, o1, rfl, hb1, s1⟩ := (HA.out.below HW.out).addr (by intro e; rw [e] at e1; simp at e1)
      obtain ⟨b2, o2, rfl, hb2, s2⟩ := (HB.out.below HW.out).addr (by intro e; rw [e] at e2; simp at e2)
      have t1 := s1 _ _ e1
      have t2 := s2 _ _ e2
      have HR1 := Lib.hid (hr1.below HW.out)
      have HR2 := Lib.hid (hr2.below HW.out)
      have hS := fun (W : World) (r1 : RowAt W A' (icells l)) (r2 : RowAt W B' (icells l)) => sameInts_calls A' B' l.length l.length c' d' l l W rfl rfl hll r1 r2
      have hd : decide (l = l) = true := decide_eq_true rfl
      rw [hd] at hS
      have HS := Lib.hid hS
      clear hS s1 s2 hl e1 e2 hr1 hr2
      have j1 : (0 : Int) ≤ (k : Int) := by omega
      have j2 : (k : Int) < (N : Int) := by omega
      go_wp2_with fail
      go_region_held3 (fun w' => w'.cell? ⟨g, 2, none⟩ = some (.slice (some ⟨b1, o1, none⟩) N c) ∧ w'.cell? ⟨g, 3, none⟩ = some (.slice (some ⟨b2, o2, none⟩) N d) ∧ w'.cell? ⟨b1, o1 + k, none⟩ = some (.slice A' l.length c') ∧ w'.cell? ⟨b2, o2 + k, none⟩ = some (.slice B' l.length d')) (first | exact ⟨c4, c5, t1, t2⟩ | exact ⟨u4, u5, u1, u2⟩)
        (first | (go_at_call 16; refine Calls.mono (HS.out _ HR1.out HR2.out) ?_; rintro e w2 ⟨rfl, hb2'⟩; have HW2 := Lib.hid ((below_drew' (Below.refl wr.heap.size wr)).trans hb2'); have u4 := cell_kept HW2.out (Nat.le_refl _) c4; have u5 := cell_kept HW2.out (Nat.le_refl _) c5; have u1 := cell_kept HW2.out (Nat.le_refl _) t1; have u2 := cell_kept HW2.out (Nat.le_refl _) t2; clear hb2'))
      go_wp2
      go_roundw
      case rel => exact ⟨k + 1, by omega, by go_num, below_trans' HW.out HW2.out⟩
      case measure => simp [intOf]; omega
    · go_wp2
      go_ret
      exact ⟨rfl, HW.out⟩
end Go.Proofs.Ytoadelcdcfdmfaa

/- (Numbers.) masonrybook.markedInts: each list holds its own marks. -/
namespace Go.Proofs.Ytoadelcdcfdmfaa
open Go.RowKit
set_option linter.unusedVariables false

theorem markInts0_calls (i n : Nat) (w : World) (hi : i ≤ 1000000) (hn : n ≤ 1000000) :
    Calls Try.prog 92 #[.int .i64 i, .int .i64 0, .int .i64 n] w fun e w' => ∃ A c, e = .returned (.slice A n c) ∧ RowAt w' A (icells (marksI i 0 n)) ∧ Below w.heap.size w w' := by
  refine (markInts_calls i 0 n w hi (by omega) hn).mono ?_
  rintro e w' ⟨v, rfl, hown, hb⟩
  obtain ⟨A, c, rfl, _, hr, _⟩ := hown.slice
  exact ⟨A, c, rfl, hr, hb⟩

set_option maxHeartbeats 1600000 in
set_option maxRecDepth 100000 in
theorem markedInts_calls (A : Option Addr) (c N : Nat) (vs : List Value) (ns : List Nat) (w : World) (hN : N ≤ 1000) (hl : ns.length = N) (hA : RowAt w A vs)
    (hin : ∀ (i n : Nat), ns[i]? = some n → ∃ (A' : Option Addr) (c' : Nat), vs[i]? = some (Value.slice A' n c') ∧ n ≤ 1000000 ∧ RowAt w A' (icells (marksI i 0 n))) :
    Calls Try.prog 69 #[.slice A N c] w fun e w' => e = .returned (.bool true) ∧ Below w.heap.size w w' := by
  have HA := Lib.hid hA
  have HI := Lib.hid hin
  have HL := Lib.hid hl
  clear hA hin hl
  go_enter Try.func69, Try.ntmps69
  go_wp2
  go_loopw [3] (fun i wr => ∃ k : Nat, k ≤ N ∧ i = .int .i64 k ∧ Hid (Below w.heap.size w wr)) (fun i _ => N - (intOf i).toNat)
  case atStart => exact ⟨0, Nat.zero_le _, rfl, Below.refl _ _⟩
  case round =>
    obtain ⟨k, hk, rfl, HW⟩ := hrel
    by_cases hlt : k < N
    · obtain ⟨n, hn⟩ := some_at (l := ns) (k := k) (by rw [HL.out]; exact hlt)
      obtain ⟨A', c', e1, hll, hr1⟩ := HI.out k n hn
      obtain ⟨b1, o1, rfl, hb1, s1⟩ := (HA.out.below HW.out).addr (by intro e; rw [e] at e1; simp at e1)
      have t1 := s1 _ _ e1
      have HR1 := Lib.hid (hr1.below HW.out)
      have hS := fun (W : World) (B' : Option Addr) (d' : Nat) (r1 : RowAt W A' (icells (marksI k 0 n))) (r2 : RowAt W B' (icells (marksI k 0 n))) => sameInts_calls A' B' n n c' d' _ _ W (marksI_length _ _ _) (marksI_length _ _ _) (by omega) r1 r2
      have hd : decide (marksI k 0 n = marksI k 0 n) = true := decide_eq_true rfl
      rw [hd] at hS
      have HS := Lib.hid hS
      have HM := Lib.hid (fun W => markInts0_calls k n W (by omega) hll)
      clear hS s1 hn e1 hr1 hd
      have j1 : (0 : Int) ≤ (k : Int) := by omega
      have j2 : (k : Int) < (N : Int) := by omega
      go_wp2_with fail
      go_region_held3 (fun w' => w'.cell? ⟨b1, o1 + k, none⟩ = some (.slice A' n c')) (first | exact t1 | exact u1 | exact v1)
        (first
          | (go_at_call 92; refine Calls.mono (HM.out _) ?_; rintro e w2 ⟨B', d', rfl, hrow, hb2⟩; have HRB := Lib.hid hrow; have HW2 := Lib.hid ((below_drew' (Below.refl wr.heap.size wr)).trans hb2); have u1 := cell_kept HW2.out (Nat.le_refl _) t1; clear hb2 hrow)
          | (go_at_call 16; refine Calls.mono (HS.out _ _ _ (HR1.out.below HW2.out) HRB.out) ?_; rintro e w3 ⟨rfl, hb3⟩; have HW3 := Lib.hid (HW2.out.trans (hb3.mono HW2.out.size)); have v1 := cell_kept HW3.out (Nat.le_refl _) t1; clear hb3))
      go_wp2
      go_roundw
      case rel => exact ⟨k + 1, by omega, by go_num, below_trans' HW.out HW3.out⟩
      case measure => simp [intOf]; omega
    · go_wp2
      go_ret
      exact ⟨rfl, HW.out⟩
end Go.Proofs.Ytoadelcdcfdmfaa

/- The Book at a kind of which no list is kept. -/
namespace Go.Proofs.Ytoadelcdcfdmfaa
open Go.RowKit
set_option linter.unusedVariables false
theorem stillTexts_nil (g : Nat) (w : World) (hc : w.cell? ⟨g, 0, none⟩ = some (.slice none 0 0)) : Calls Try.prog 44 #[.pointer (some ⟨g, 0, none⟩)] w fun e w' => e = .returned (.bool true) ∧ w = w' := by
  go_enter Try.func44, Try.ntmps44
  go_wp2
  refine wp_loop_rounds 1 ?_
  rw [rounds_succ]
  go_wp2
  go_ret
  exact ⟨rfl, rfl⟩
theorem putTexts_nil (g : Nat) (w : World) (hc : w.cell? ⟨g, 0, none⟩ = some (.slice none 0 0)) : Calls Try.prog 53 #[.pointer (some ⟨g, 0, none⟩)] w fun e w' => e = .returned (.tuple #[]) ∧ w = w' := by
  go_enter Try.func53, Try.ntmps53
  go_wp2
  refine wp_loop_rounds 1 ?_
  rw [rounds_succ]
  go_wp2
  go_end0
  exact ⟨rfl, rfl⟩
theorem growTexts_nil (g : Nat) (w : World) (hc : w.cell? ⟨g, 0, none⟩ = some (.slice none 0 0)) : Calls Try.prog 60 #[.pointer (some ⟨g, 0, none⟩)] w fun e w' => e = .returned (.slice none 0 0) ∧ w = w' := by
  go_enter Try.func60, Try.ntmps60
  go_wp2
  refine wp_loop_rounds 1 ?_
  rw [rounds_succ]
  go_wp2
  go_ret
  exact ⟨rfl, rfl⟩
theorem markedTexts_nil (w : World) : Calls Try.prog 68 #[.slice none 0 0] w fun e w' => e = .returned (.bool true) ∧ w = w' := by
  go_enter Try.func68, Try.ntmps68
  go_wp2
  refine wp_loop_rounds 1 ?_
  rw [rounds_succ]
  go_wp2
  go_ret
  exact ⟨rfl, rfl⟩
theorem stillInts_nil (g : Nat) (w : World) (hc : w.cell? ⟨g, 2, none⟩ = some (.slice none 0 0)) : Calls Try.prog 45 #[.pointer (some ⟨g, 0, none⟩)] w fun e w' => e = .returned (.bool true) ∧ w = w' := by
  go_enter Try.func45, Try.ntmps45
  go_wp2
  refine wp_loop_rounds 1 ?_
  rw [rounds_succ]
  go_wp2
  go_ret
  exact ⟨rfl, rfl⟩
theorem putInts_nil (g : Nat) (w : World) (hc : w.cell? ⟨g, 2, none⟩ = some (.slice none 0 0)) : Calls Try.prog 54 #[.pointer (some ⟨g, 0, none⟩)] w fun e w' => e = .returned (.tuple #[]) ∧ w = w' := by
  go_enter Try.func54, Try.ntmps54
  go_wp2
  refine wp_loop_rounds 1 ?_
  rw [rounds_succ]
  go_wp2
  go_end0
  exact ⟨rfl, rfl⟩
theorem growInts_nil (g : Nat) (w : World) (hc : w.cell? ⟨g, 2, none⟩ = some (.slice none 0 0)) : Calls Try.prog 61 #[.pointer (some ⟨g, 0, none⟩)] w fun e w' => e = .returned (.slice none 0 0) ∧ w = w' := by
  go_enter Try.func61, Try.ntmps61
  go_wp2
  refine wp_loop_rounds 1 ?_
  rw [rounds_succ]
  go_wp2
  go_ret
  exact ⟨rfl, rfl⟩
theorem markedInts_nil (w : World) : Calls Try.prog 69 #[.slice none 0 0] w fun e w' => e = .returned (.bool true) ∧ w = w' := by
  go_enter Try.func69, Try.ntmps69
  go_wp2
  refine wp_loop_rounds 1 ?_
  rw [rounds_succ]
  go_wp2
  go_ret
  exact ⟨rfl, rfl⟩
theorem stillSpans_nil (g : Nat) (w : World) (hc : w.cell? ⟨g, 4, none⟩ = some (.slice none 0 0)) : Calls Try.prog 46 #[.pointer (some ⟨g, 0, none⟩)] w fun e w' => e = .returned (.bool true) ∧ w = w' := by
  go_enter Try.func46, Try.ntmps46
  go_wp2
  refine wp_loop_rounds 1 ?_
  rw [rounds_succ]
  go_wp2
  go_ret
  exact ⟨rfl, rfl⟩
theorem putSpans_nil (g : Nat) (w : World) (hc : w.cell? ⟨g, 4, none⟩ = some (.slice none 0 0)) : Calls Try.prog 55 #[.pointer (some ⟨g, 0, none⟩)] w fun e w' => e = .returned (.tuple #[]) ∧ w = w' := by
  go_enter Try.func55, Try.ntmps55
  go_wp2
  refine wp_loop_rounds 1 ?_
  rw [rounds_succ]
  go_wp2
  go_end0
  exact ⟨rfl, rfl⟩
theorem growSpans_nil (g : Nat) (w : World) (hc : w.cell? ⟨g, 4, none⟩ = some (.slice none 0 0)) : Calls Try.prog 62 #[.pointer (some ⟨g, 0, none⟩)] w fun e w' => e = .returned (.slice none 0 0) ∧ w = w' := by
  go_enter Try.func62, Try.ntmps62
  go_wp2
  refine wp_loop_rounds 1 ?_
  rw [rounds_succ]
  go_wp2
  go_ret
  exact ⟨rfl, rfl⟩
theorem markedSpans_nil (w : World) : Calls Try.prog 70 #[.slice none 0 0] w fun e w' => e = .returned (.bool true) ∧ w = w' := by
  go_enter Try.func70, Try.ntmps70
  go_wp2
  refine wp_loop_rounds 1 ?_
  rw [rounds_succ]
  go_wp2
  go_ret
  exact ⟨rfl, rfl⟩
theorem stillPieces_nil (g : Nat) (w : World) (hc : w.cell? ⟨g, 6, none⟩ = some (.slice none 0 0)) : Calls Try.prog 47 #[.pointer (some ⟨g, 0, none⟩)] w fun e w' => e = .returned (.bool true) ∧ w = w' := by
  go_enter Try.func47, Try.ntmps47
  go_wp2
  refine wp_loop_rounds 1 ?_
  rw [rounds_succ]
  go_wp2
  go_ret
  exact ⟨rfl, rfl⟩
theorem putPieces_nil (g : Nat) (w : World) (hc : w.cell? ⟨g, 6, none⟩ = some (.slice none 0 0)) : Calls Try.prog 56 #[.pointer (some ⟨g, 0, none⟩)] w fun e w' => e = .returned (.tuple #[]) ∧ w = w' := by
  go_enter Try.func56, Try.ntmps56
  go_wp2
  refine wp_loop_rounds 1 ?_
  rw [rounds_succ]
  go_wp2
  go_end0
  exact ⟨rfl, rfl⟩
theorem growPieces_nil (g : Nat) (w : World) (hc : w.cell? ⟨g, 6, none⟩ = some (.slice none 0 0)) : Calls Try.prog 63 #[.pointer (some ⟨g, 0, none⟩)] w fun e w' => e = .returned (.slice none 0 0) ∧ w = w' := by
  go_enter Try.func63, Try.ntmps63
  go_wp2
  refine wp_loop_rounds 1 ?_
  rw [rounds_succ]
  go_wp2
  go_ret
  exact ⟨rfl, rfl⟩
theorem markedPieces_nil (w : World) : Calls Try.prog 71 #[.slice none 0 0] w fun e w' => e = .returned (.bool true) ∧ w = w' := by
  go_enter Try.func71, Try.ntmps71
  go_wp2
  refine wp_loop_rounds 1 ?_
  rw [rounds_succ]
  go_wp2
  go_ret
  exact ⟨rfl, rfl⟩
theorem stillEntries_nil (g : Nat) (w : World) (hc : w.cell? ⟨g, 8, none⟩ = some (.slice none 0 0)) : Calls Try.prog 48 #[.pointer (some ⟨g, 0, none⟩)] w fun e w' => e = .returned (.bool true) ∧ w = w' := by
  go_enter Try.func48, Try.ntmps48
  go_wp2
  refine wp_loop_rounds 1 ?_
  rw [rounds_succ]
  go_wp2
  go_ret
  exact ⟨rfl, rfl⟩
theorem putEntries_nil (g : Nat) (w : World) (hc : w.cell? ⟨g, 8, none⟩ = some (.slice none 0 0)) : Calls Try.prog 57 #[.pointer (some ⟨g, 0, none⟩)] w fun e w' => e = .returned (.tuple #[]) ∧ w = w' := by
  go_enter Try.func57, Try.ntmps57
  go_wp2
  refine wp_loop_rounds 1 ?_
  rw [rounds_succ]
  go_wp2
  go_end0
  exact ⟨rfl, rfl⟩
theorem growEntries_nil (g : Nat) (w : World) (hc : w.cell? ⟨g, 8, none⟩ = some (.slice none 0 0)) : Calls Try.prog 64 #[.pointer (some ⟨g, 0, none⟩)] w fun e w' => e = .returned (.slice none 0 0) ∧ w = w' := by
  go_enter Try.func64, Try.ntmps64
  go_wp2
  refine wp_loop_rounds 1 ?_
  rw [rounds_succ]
  go_wp2
  go_ret
  exact ⟨rfl, rfl⟩
theorem markedEntries_nil (w : World) : Calls Try.prog 72 #[.slice none 0 0] w fun e w' => e = .returned (.bool true) ∧ w = w' := by
  go_enter Try.func72, Try.ntmps72
  go_wp2
  refine wp_loop_rounds 1 ?_
  rw [rounds_succ]
  go_wp2
  go_ret
  exact ⟨rfl, rfl⟩
theorem stillObjects_nil (g : Nat) (w : World) (hc : w.cell? ⟨g, 10, none⟩ = some (.slice none 0 0)) : Calls Try.prog 49 #[.pointer (some ⟨g, 0, none⟩)] w fun e w' => e = .returned (.bool true) ∧ w = w' := by
  go_enter Try.func49, Try.ntmps49
  go_wp2
  refine wp_loop_rounds 1 ?_
  rw [rounds_succ]
  go_wp2
  go_ret
  exact ⟨rfl, rfl⟩
theorem putObjects_nil (g : Nat) (w : World) (hc : w.cell? ⟨g, 10, none⟩ = some (.slice none 0 0)) : Calls Try.prog 58 #[.pointer (some ⟨g, 0, none⟩)] w fun e w' => e = .returned (.tuple #[]) ∧ w = w' := by
  go_enter Try.func58, Try.ntmps58
  go_wp2
  refine wp_loop_rounds 1 ?_
  rw [rounds_succ]
  go_wp2
  go_end0
  exact ⟨rfl, rfl⟩
theorem growObjects_nil (g : Nat) (w : World) (hc : w.cell? ⟨g, 10, none⟩ = some (.slice none 0 0)) : Calls Try.prog 65 #[.pointer (some ⟨g, 0, none⟩)] w fun e w' => e = .returned (.slice none 0 0) ∧ w = w' := by
  go_enter Try.func65, Try.ntmps65
  go_wp2
  refine wp_loop_rounds 1 ?_
  rw [rounds_succ]
  go_wp2
  go_ret
  exact ⟨rfl, rfl⟩
theorem markedObjects_nil (w : World) : Calls Try.prog 73 #[.slice none 0 0] w fun e w' => e = .returned (.bool true) ∧ w = w' := by
  go_enter Try.func73, Try.ntmps73
  go_wp2
  refine wp_loop_rounds 1 ?_
  rw [rounds_succ]
  go_wp2
  go_ret
  exact ⟨rfl, rfl⟩
theorem stillWrites_nil (g : Nat) (w : World) (hc : w.cell? ⟨g, 12, none⟩ = some (.slice none 0 0)) : Calls Try.prog 50 #[.pointer (some ⟨g, 0, none⟩)] w fun e w' => e = .returned (.bool true) ∧ w = w' := by
  go_enter Try.func50, Try.ntmps50
  go_wp2
  refine wp_loop_rounds 1 ?_
  rw [rounds_succ]
  go_wp2
  go_ret
  exact ⟨rfl, rfl⟩
theorem putWrites_nil (g : Nat) (w : World) (hc : w.cell? ⟨g, 12, none⟩ = some (.slice none 0 0)) : Calls Try.prog 59 #[.pointer (some ⟨g, 0, none⟩)] w fun e w' => e = .returned (.tuple #[]) ∧ w = w' := by
  go_enter Try.func59, Try.ntmps59
  go_wp2
  refine wp_loop_rounds 1 ?_
  rw [rounds_succ]
  go_wp2
  go_end0
  exact ⟨rfl, rfl⟩
theorem growWrites_nil (g : Nat) (w : World) (hc : w.cell? ⟨g, 12, none⟩ = some (.slice none 0 0)) : Calls Try.prog 66 #[.pointer (some ⟨g, 0, none⟩)] w fun e w' => e = .returned (.slice none 0 0) ∧ w = w' := by
  go_enter Try.func66, Try.ntmps66
  go_wp2
  refine wp_loop_rounds 1 ?_
  rw [rounds_succ]
  go_wp2
  go_ret
  exact ⟨rfl, rfl⟩
theorem markedWrites_nil (w : World) : Calls Try.prog 74 #[.slice none 0 0] w fun e w' => e = .returned (.bool true) ∧ w = w' := by
  go_enter Try.func74, Try.ntmps74
  go_wp2
  refine wp_loop_rounds 1 ?_
  rw [rounds_succ]
  go_wp2
  go_ret
  exact ⟨rfl, rfl⟩
theorem stillSteps_nil (g : Nat) (w : World) (hc : w.cell? ⟨g, 14, none⟩ = some (.slice none 0 0)) : Calls Try.prog 51 #[.pointer (some ⟨g, 0, none⟩)] w fun e w' => e = .returned (.bool true) ∧ w = w' := by
  go_enter Try.func51, Try.ntmps51
  go_wp2
  refine wp_loop_rounds 1 ?_
  rw [rounds_succ]
  go_wp2
  go_ret
  exact ⟨rfl, rfl⟩
theorem putSteps_nil (g : Nat) (w : World) (hc : w.cell? ⟨g, 14, none⟩ = some (.slice none 0 0)) : Calls Try.prog 52 #[.pointer (some ⟨g, 0, none⟩)] w fun e w' => e = .returned (.tuple #[]) ∧ w = w' := by
  go_enter Try.func52, Try.ntmps52
  go_wp2
  refine wp_loop_rounds 1 ?_
  rw [rounds_succ]
  go_wp2
  go_end0
  exact ⟨rfl, rfl⟩
theorem growSteps_nil (g : Nat) (w : World) (hc : w.cell? ⟨g, 14, none⟩ = some (.slice none 0 0)) : Calls Try.prog 67 #[.pointer (some ⟨g, 0, none⟩)] w fun e w' => e = .returned (.slice none 0 0) ∧ w = w' := by
  go_enter Try.func67, Try.ntmps67
  go_wp2
  refine wp_loop_rounds 1 ?_
  rw [rounds_succ]
  go_wp2
  go_ret
  exact ⟨rfl, rfl⟩
theorem markedSteps_nil (w : World) : Calls Try.prog 75 #[.slice none 0 0] w fun e w' => e = .returned (.bool true) ∧ w = w' := by
  go_enter Try.func75, Try.ntmps75
  go_wp2
  refine wp_loop_rounds 1 ?_
  rw [rounds_succ]
  go_wp2
  go_ret
  exact ⟨rfl, rfl⟩
end Go.Proofs.Ytoadelcdcfdmfaa


/- (Numbers.) A Book that keeps lists of spans: what it holds; one more list. -/
namespace Go.Proofs.Ytoadelcdcfdmfaa
open Go.RowKit
set_option linter.unusedVariables false

theorem el_ilists : El Try.prog 34 22 1 24 := El.mk' Try.underlying34 (z := .slice none 0 0) (by kernel_rfl) (by decide)
theorem cell_lt2 {w : World} {a : Addr} {v : Value} (h : w.cell? a = some v) : a.block < w.heap.size := World.block_lt_of_cell? w _ h

/-- The lists ls are kept: vs are the lists themselves, us the copies. -/
structure BookAt (w : World) (base g : Nat) (S T : Value) (vs us : List Value) (ls : List (List Int)) : Prop where
  gb : base ≤ g
  nil : ∀ j, j < 16 → j ≠ 2 → j ≠ 3 → w.cell? ⟨g, j, none⟩ = some (.slice none 0 0)
  c4 : w.cell? ⟨g, 2, none⟩ = some S
  c5 : w.cell? ⟨g, 3, none⟩ = some T
  f4 : w.frozen? ⟨g, 2, none⟩ = false
  f5 : w.frozen? ⟨g, 3, none⟩ = false
  hS : Own w base 1 S ls.length vs
  hT : Own w base 1 T ls.length us
  sg : S.ownBlock ≠ some g
  tg : T.ownBlock ≠ some g
  st : ∀ b, S.ownBlock = some b → T.ownBlock ≠ some b
  hv : ∀ (i : Nat) (l : List Int), ls[i]? = some l → l.length ≤ 1000000 ∧ ∃ v, vs[i]? = some v ∧ Own w base 1 v l.length (icells l) ∧ ∀ b, v.ownBlock = some b → b ≠ g ∧ S.ownBlock ≠ some b ∧ T.ownBlock ≠ some b
  hu : ∀ (i : Nat) (l : List Int), ls[i]? = some l → ∃ u, us[i]? = some u ∧ Own w base 1 u l.length (icells l) ∧ ∀ b, u.ownBlock = some b → b ≠ g ∧ S.ownBlock ≠ some b ∧ T.ownBlock ≠ some b
  vd : ∀ (i j : Nat) (v v' : Value) (b : Nat), i ≠ j → vs[i]? = some v → vs[j]? = some v' → v.ownBlock = some b → v'.ownBlock ≠ some b
section
variable {w w' : World} {base g : Nat} {S T : Value} {vs us : List Value} {ls : List (List Int)}
theorem BookAt.gl (h : BookAt w base g S T vs us ls) : g < w.heap.size := cell_lt2 h.c4
theorem BookAt.vlen (h : BookAt w base g S T vs us ls) : vs.length = ls.length := by have := h.hS.1; omega
theorem BookAt.ulen (h : BookAt w base g S T vs us ls) : us.length = ls.length := by have := h.hT.1; omega
/-- Nothing that the Book leans on was touched. -/
theorem BookAt.touched (h : BookAt w base g S T vs us ls) {bs : List Nat} (hT : Touched w w' bs) (h1 : g ∉ bs) (h2 : ∀ b ∈ bs, S.ownBlock ≠ some b ∧ T.ownBlock ≠ some b) (h3 : ∀ v ∈ vs, ∀ b ∈ bs, v.ownBlock ≠ some b) (h4 : ∀ u ∈ us, ∀ b ∈ bs, u.ownBlock ≠ some b) : BookAt w' base g S T vs us ls := by
  have hg := h.gl
  refine ⟨h.gb, fun j hj a b => (hT.cell hg h1).trans (h.nil j hj a b), (hT.cell hg h1).trans h.c4, (hT.cell hg h1).trans h.c5, (hT.free hg h1).trans h.f4, (hT.free hg h1).trans h.f5,
    hT.own h.hS (fun k hk hm => (h2 k hm).1 hk), hT.own h.hT (fun k hk hm => (h2 k hm).2 hk), h.sg, h.tg, h.st, fun i l hl => ?_, fun i l hl => ?_, h.vd⟩
  · obtain ⟨a, v, hv, ho, hd⟩ := h.hv i l hl
    exact ⟨a, v, hv, hT.own ho (fun k hk hm => h3 v (List.mem_of_getElem? hv) k hm hk), hd⟩
  · obtain ⟨u, hu, ho, hd⟩ := h.hu i l hl
    exact ⟨u, hu, hT.own ho (fun k hk hm => h4 u (List.mem_of_getElem? hu) k hm hk), hd⟩
theorem BookAt.below (h : BookAt w base g S T vs us ls) (hb : Below w.heap.size w w') : BookAt w' base g S T vs us ls :=
  h.touched (Touched.of_below hb []) (by simp) (by simp) (by simp) (by simp)
end
theorem bookNew (w : World) (base : Nat) (hb : base ≤ w.heap.size) (t : TypeId) : BookAt (w.alloc (.cells (Array.replicate 16 (.slice none 0 0)) t)) base w.heap.size (.slice none 0 0) (.slice none 0 0) [] [] [] := by
  have hh := heap_alloc_new w (.cells (Array.replicate 16 (.slice none 0 0)) t)
  have hc : ∀ j, j < 16 → (w.alloc (.cells (Array.replicate 16 (.slice none 0 0)) t)).cell? ⟨w.heap.size, j, none⟩ = some (.slice none 0 0) := by
    intro j hj
    rw [cell_of_row _ _ j _ _ (0, 0) hh]
    simp [hj]
  exact ⟨hb, fun j hj _ _ => hc j hj, hc 2 (by omega), hc 3 (by omega), frozen_of_row _ _ 2 _ _ hh, frozen_of_row _ _ 3 _ _ hh, Own.nil _ _ _, Own.nil _ _ _, by simp [Value.ownBlock], by simp [Value.ownBlock], by simp [Value.ownBlock], by simp, by simp, by simp⟩
/-- What one more list makes of a Book. -/
structure BookTo (w w' : World) (base g : Nat) (S T : Value) (vs us : List Value) (ls : List (List Int)) (v : Value) (l : List Int) : Prop where
  ex : ∃ S' T' u, BookAt w' base g S' T' (vs ++ [v]) (us ++ [u]) (ls ++ [l]) ∧ (∀ b, S'.ownBlock = some b → S.ownBlock = some b ∨ w.heap.size ≤ b) ∧ (∀ b, T'.ownBlock = some b → T.ownBlock = some b ∨ w.heap.size ≤ b) ∧ (∀ b, u.ownBlock = some b → w.heap.size ≤ b)
  touched : Touched w w' (g :: (S.ownBlock.toList ++ T.ownBlock.toList))
theorem append_at {α : Type} {xs : List α} {x y : α} {i : Nat} (h : (xs ++ [x])[i]? = some y) : xs[i]? = some y ∨ (i = xs.length ∧ y = x) := by
  rcases Nat.lt_or_ge i xs.length with hi | hi
  · rw [List.getElem?_append_left hi] at h; exact .inl h
  · rw [List.getElem?_append_right hi] at h
    rcases Nat.eq_zero_or_pos (i - xs.length) with h0 | h0
    · rw [h0] at h; simp at h; exact .inr ⟨by omega, h.symm⟩
    · rw [List.getElem?_eq_none (by simp; omega)] at h; cases h
theorem append_old {α : Type} {xs : List α} {x y : α} {i : Nat} (h : xs[i]? = some y) : (xs ++ [x])[i]? = some y := by
  rw [List.getElem?_append_left (List.getElem?_eq_some_iff.1 h).1]; exact h
theorem append_new {α : Type} (xs : List α) (x : α) : (xs ++ [x])[xs.length]? = some x := by simp
theorem bookTo_mk {w W2 w3 w4 : World} {base g N n : Nat} {S T S1 T2 v u : Value} {vs us : List Value} {ls : List (List Int)} {l : List Int} (h : BookAt w base g S T vs us ls) (hN : ls.length = N) (hn : n ≤ 1000000) (hln : l.length = n)
    (hl : Own w base 1 v n (icells l)) (hd : ∀ b, v.ownBlock = some b → b ≠ g ∧ S.ownBlock ≠ some b ∧ T.ownBlock ≠ some b ∧ ∀ v' ∈ vs, v'.ownBlock ≠ some b)
    (hnil : ∀ j, j < 16 → j ≠ 2 → j ≠ 3 → W2.cell? ⟨g, j, none⟩ = some (.slice none 0 0)) (m4 : W2.cell? ⟨g, 2, none⟩ = some S1) (n4 : W2.frozen? ⟨g, 2, none⟩ = false)
    (hT2 : Touched w W2 (g :: S.ownBlock.toList)) (hS2 : Own W2 base 1 S1 (N + 1) (vs ++ [v])) (hV1 : S1.ownBlock = S.ownBlock ∨ ∃ b, S1.ownBlock = some b ∧ w.heap.size ≤ b)
    (hB3 : Below W2.heap.size W2 w3) (hU : Own w3 W2.heap.size 1 u n (icells l)) (hT4 : Touched w3 w4 T.ownBlock.toList) (hO4 : Own w4 base 1 T2 (N + 1) (us ++ [u])) (hV2 : T2.ownBlock = T.ownBlock ∨ ∃ b, T2.ownBlock = some b ∧ w3.heap.size ≤ b)
    (u5 : (w4.cell? ⟨g, 3, none⟩).isSome = true) (x5 : w4.frozen? ⟨g, 3, none⟩ = false) : BookTo w (w4.setCell ⟨g, 3, none⟩ T2) base g S T vs us ls v l := by
  have hgl := h.gl
  have s1 := hT2.size
  have s2 := hB3.size
  have s3 := hT4.size
  have Sl : ∀ b, S.ownBlock = some b → b < w.heap.size := fun b hb => (h.hS.lt b hb).2
  have Tl : ∀ b, T.ownBlock = some b → b < w.heap.size := fun b hb => (h.hT.lt b hb).2
  have S1l : ∀ b, S1.ownBlock = some b → b < W2.heap.size := fun b hb => (hS2.lt b hb).2
  have ul : ∀ b, u.ownBlock = some b → W2.heap.size ≤ b ∧ b < w3.heap.size := fun b hb => hU.lt b hb
  have vl : ∀ b, v.ownBlock = some b → b < w.heap.size := fun b hb => (hl.lt b hb).2
  have S1c : ∀ b, S1.ownBlock = some b → S.ownBlock = some b ∨ w.heap.size ≤ b := by
    intro b hb
    rcases hV1 with e | ⟨b', e, hb'⟩
    · exact .inl (by rw [← e]; exact hb)
    · rw [e] at hb; injection hb with hb; exact .inr (by omega)
  have T2c : ∀ b, T2.ownBlock = some b → T.ownBlock = some b ∨ w3.heap.size ≤ b := by
    intro b hb
    rcases hV2 with e | ⟨b', e, hb'⟩
    · exact .inl (by rw [← e]; exact hb)
    · rw [e] at hb; injection hb with hb; exact .inr (by omega)
  have gT : g ∉ T.ownBlock.toList := by intro hm; exact h.tg (by simpa using hm)
  have hset : Touched w4 (w4.setCell ⟨g, 3, none⟩ T2) [g] := (Touched.refl _ _).setCell (.inl (by simp)) _
  have hWf : Touched W2 (w4.setCell ⟨g, 3, none⟩ T2) (g :: T.ownBlock.toList) :=
    ((Touched.of_below hB3 _).trans (hT4.mono (fun k hk _ => List.mem_cons_of_mem _ hk))).trans (hset.mono (by simp))
  have hf : Touched w (w4.setCell ⟨g, 3, none⟩ T2) (g :: (S.ownBlock.toList ++ T.ownBlock.toList)) :=
    (hT2.mono (by intro k hk _; simp at hk ⊢; rcases hk with h | h <;> simp [h])).trans (hWf.mono (by intro k hk _; simp at hk ⊢; rcases hk with h | h <;> simp [h]))
  have gW2 : g < W2.heap.size := by omega
  have gw3 : g < w3.heap.size := by omega
  have cell3 : ∀ j, j ≠ 3 → (w4.setCell ⟨g, 3, none⟩ T2).cell? ⟨g, j, none⟩ = W2.cell? ⟨g, j, none⟩ := by
    intro j hj
    rw [World.cell?_setCell_other w4 ⟨g, 3, none⟩ ⟨g, j, none⟩ _ (by first | (simp; done) | (simp; omega)), hT4.cell gw3 gT]
    exact (Touched.of_below hB3 []).cell gW2 (by simp)
  have old : ∀ (x : Value) (m : Nat) (xs : List Value), Own w base 1 x m xs → (∀ b, x.ownBlock = some b → b ≠ g ∧ S.ownBlock ≠ some b ∧ T.ownBlock ≠ some b) → Own (w4.setCell ⟨g, 3, none⟩ T2) base 1 x m xs ∧ ∀ b, x.ownBlock = some b → b ≠ g ∧ S1.ownBlock ≠ some b ∧ T2.ownBlock ≠ some b := by
    intro x m xs ho hx
    refine ⟨hf.own ho (fun k hk hm => ?_), fun b hb => ⟨(hx b hb).1, fun e => ?_, fun e => ?_⟩⟩
    · simp at hm
      rcases hm with rfl | hm | hm
      · exact (hx _ hk).1 rfl
      · exact (hx _ hk).2.1 hm
      · exact (hx _ hk).2.2 hm
    · rcases S1c b e with e | e
      · exact (hx b hb).2.1 e
      · have := (ho.lt b hb).2; omega
    · rcases T2c b e with e | e
      · exact (hx b hb).2.2 e
      · have := (ho.lt b hb).2; omega
  have hlen : (ls ++ [l]).length = N + 1 := by simp [hN]
  refine ⟨⟨S1, T2, u, ⟨h.gb, fun j hj a b => (cell3 j b).trans (hnil j hj a b), (cell3 2 (by omega)).trans m4, World.cell?_setCell_same' w4 _ _ (by simpa [Option.isSome_iff_ne_none] using u5), ?_, by rw [World.frozen?_setCell]; exact x5, ?_, ?_, ?_, ?_, ?_, ?_, ?_, ?_⟩, S1c, ?_, ?_⟩, hf⟩
  · rw [World.frozen?_setCell, hT4.free gw3 gT]
    exact ((Touched.of_below hB3 []).free gW2 (by simp)).trans n4
  · rw [hlen]
    refine hWf.own hS2 (fun k hk hm => ?_)
    simp at hm
    rcases S1c k hk with e | e
    · rcases hm with rfl | hm
      · exact h.sg e
      · exact h.st k e hm
    · rcases hm with rfl | hm
      · omega
      · have := Tl k hm; omega
  · rw [hlen]
    refine hset.own hO4 (fun k hk hm => ?_)
    simp at hm
    subst hm
    rcases T2c _ hk with e | e
    · exact h.tg e
    · omega
  · intro e
    rcases S1c g e with e | e
    · exact h.sg e
    · omega
  · intro e
    rcases T2c g e with e | e
    · exact h.tg e
    · omega
  · intro b hb hb2
    rcases T2c b hb2 with e2 | e2
    · rcases S1c b hb with e | e
      · exact h.st b e e2
      · have := Tl b e2; omega
    · have := S1l b hb; omega
  · intro i x hx
    rcases append_at hx with hx | ⟨rfl, rfl⟩
    · obtain ⟨a, y, hy, ho, hyd⟩ := h.hv i x hx
      obtain ⟨p, q⟩ := old y _ _ ho hyd
      exact ⟨a, y, append_old hy, p, q⟩
    · rw [hln]
      obtain ⟨p, q⟩ := old v _ _ hl (fun b hb => ⟨(hd b hb).1, (hd b hb).2.1, (hd b hb).2.2.1⟩)
      exact ⟨hn, v, by rw [← h.vlen]; exact append_new vs v, p, q⟩
  · intro i x hx
    rcases append_at hx with hx | ⟨rfl, rfl⟩
    · obtain ⟨y, hy, ho, hyd⟩ := h.hu i x hx
      obtain ⟨p, q⟩ := old y _ _ ho hyd
      exact ⟨y, append_old hy, p, q⟩
    · refine ⟨u, by rw [← h.ulen]; exact append_new us u, ?_, fun b hb => ⟨?_, fun e => ?_, fun e => ?_⟩⟩
      · rw [hln]
        refine hset.own (hT4.own (hU.weaken (by have := h.gb; omega)) (fun k hk hm => ?_)) (fun k hk hm => ?_)
        · have := Tl k (by simpa using hm); have := ul k hk; omega
        · simp at hm; have := ul k hk; omega
      · have := ul b hb; omega
      · have := ul b hb; have := S1l b e; omega
      · rcases T2c b e with e | e
        · have := Tl b e; have := ul b hb; omega
        · have := ul b hb; omega
  · intro i j x y b hij hx hy hb
    rcases append_at hx with hx1 | ⟨hx1, hx2⟩
    · rcases append_at hy with hy1 | ⟨hy1, hy2⟩
      · exact h.vd i j x y b hij hx1 hy1 hb
      · intro e
        rw [hy2] at e
        exact (hd b e).2.2.2 x (List.mem_of_getElem? hx1) hb
    · rcases append_at hy with hy1 | ⟨hy1, hy2⟩
      · rw [hx2] at hb
        exact (hd b hb).2.2.2 y (List.mem_of_getElem? hy1)
      · exact absurd (hx1.trans hy1.symm) hij
  · intro b hb
    rcases T2c b hb with e | e
    · exact .inl e
    · exact .inr (by omega)
  · intro b hb
    have := ul b hb
    omega
set_option maxHeartbeats 3200000 in
set_option maxRecDepth 100000 in
theorem bookInts_calls (g base : Nat) (S T : Value) (vs us : List Value) (ls : List (List Int)) (A : Option Addr) (n c : Nat) (l : List Int) (w : World) (hN : ls.length < 250) (hn : n ≤ 1000000)
    (h : BookAt w base g S T vs us ls) (hl : Own w base 1 (.slice A n c) n (icells l)) (hd : ∀ b, (Value.slice A n c).ownBlock = some b → b ≠ g ∧ S.ownBlock ≠ some b ∧ T.ownBlock ≠ some b ∧ ∀ v ∈ vs, v.ownBlock ≠ some b) :
    Calls Try.prog 15 #[.pointer (some ⟨g, 0, none⟩), .slice A n c] w fun e w' => e = .returned (.tuple #[]) ∧ BookTo w w' base g S T vs us ls (.slice A n c) l := by
  have HB0 : Box _ := ⟨h⟩
  have HD0 : Box _ := ⟨hd⟩
  have hS := h.hS
  have hT := h.hT
  have c4 := h.c4
  have c5 := h.c5
  have f4 := h.f4
  have f5 := h.f5
  have hgl := h.gl
  have hg := h.gb
  have hlg : (Value.slice A n c).ownBlock ≠ some g := fun e => (hd g e).1 rfl
  have hlS : ∀ k, S.ownBlock = some k → (Value.slice A n c).ownBlock ≠ some k := fun k hk e => (hd k e).2.1 hk
  have hTg : ∀ k, T.ownBlock = some k → k ≠ g := fun k hk e => h.tg (by rw [← e]; exact hk)
  have hSg : ∀ k, S.ownBlock = some k → k ≠ g := fun k hk e => h.sg (by rw [← e]; exact hk)
  have hST := h.st
  obtain ⟨N, hNN⟩ : ∃ N, ls.length = N := ⟨_, rfl⟩
  have HNN : Box (ls.length = N) := ⟨hNN⟩
  rw [hNN] at hS hT hN
  clear h hd hNN
  obtain ⟨AS, cS, rfl, hcS, hrS, _⟩ := hS.slice
  obtain ⟨AT, cT, rfl, hcT, hrT, _⟩ := hT.slice
  have HS := Lib.hid hS
  have HT := Lib.hid hT
  have HLn := Lib.hid hl
  clear hS hT hl hrS hrT
  have hSb : g ∉ (Value.slice AS N cS).ownBlock.toList := by intro h; exact hSg g (by simpa using h) rfl
  have HSb := Lib.hid hSb
  have HC4 := Lib.hid c4
  have HC5 := Lib.hid c5
  have HF4 := Lib.hid f4
  have HF5 := Lib.hid f5
  have HK := Lib.hid (And.intro hST (And.intro hlS (And.intro hTg hlg)))
  clear hSb hST hlS hTg hlg hSg
  go_enter Try.func15, Try.ntmps15
  go_wp2_with (at_builtin; refine appO el_ilists base rfl _ _ rfl rfl (HS.out.alloc _) (news := [.slice A n c]) rfl rfl (rowAt_alloc w [.slice A n c] _) (by intro u hu; simp at hu; subst hu; rfl) (by omega) (by simp; omega) ?_; intro v1 w1 hown1 hg1 hb1; obtain ⟨A1, cc1, rfl, _, _, _⟩ := hown1.slice; have HO1 := Lib.hid hown1; have HT1 : Hid (Touched w w1 (Value.slice AS N cS).ownBlock.toList) := ((Touched.refl w _).alloc _).trans (Touched.of_grown hg1); have k4 := (HT1.out.cell (j := 2) hgl HSb.out).trans HC4.out; have k5 := (HT1.out.cell (j := 3) hgl HSb.out).trans HC5.out; have e4 := (HT1.out.free (j := 2) hgl HSb.out).trans HF4.out; have e5 := (HT1.out.free (j := 3) hgl HSb.out).trans HF5.out; have HV1 := Lib.hid hb1; have HZ1 : Hid (w.heap.size ≤ w1.heap.size) := HT1.out.size; clear hown1 hg1 hb1)
  go_wp2_with fail
  have m5 : (w1.setCell ⟨g, 2, none⟩ (.slice A1 (N + 1) cc1)).cell? ⟨g, 3, none⟩ = some (.slice AT N cT) := (World.cell?_setCell_other w1 ⟨g, 2, none⟩ ⟨g, 3, none⟩ _ (by simp)).trans k5
  have n5 : (w1.setCell ⟨g, 2, none⟩ (.slice A1 (N + 1) cc1)).frozen? ⟨g, 3, none⟩ = false := by rw [World.frozen?_setCell]; exact e5
  have mN : Hid (∀ j, j < 16 → j ≠ 2 → j ≠ 3 → (w1.setCell ⟨g, 2, none⟩ (.slice A1 (N + 1) cc1)).cell? ⟨g, j, none⟩ = some (.slice none 0 0)) := fun j hj a b => (World.cell?_setCell_other w1 ⟨g, 2, none⟩ ⟨g, j, none⟩ _ (by first | (simp; done) | (simp; omega))).trans ((HT1.out.cell (j := j) hgl HSb.out).trans (HB0.out.nil j hj a b))
  have m4 : Hid ((w1.setCell ⟨g, 2, none⟩ (.slice A1 (N + 1) cc1)).cell? ⟨g, 2, none⟩ = some (.slice A1 (N + 1) cc1)) := World.cell?_setCell_same' w1 _ _ (by rw [k4]; simp)
  have n4 : Hid ((w1.setCell ⟨g, 2, none⟩ (.slice A1 (N + 1) cc1)).frozen? ⟨g, 2, none⟩ = false) := by rw [Hid, World.frozen?_setCell]; exact e4
  have HT2 : Hid (Touched w (w1.setCell ⟨g, 2, none⟩ (.slice A1 (N + 1) cc1)) (g :: (Value.slice AS N cS).ownBlock.toList)) := (HT1.out.mono (fun k hk _ => List.mem_cons_of_mem _ hk)).setCell (.inl (by simp)) _
  have HL2 : Hid (Own (w1.setCell ⟨g, 2, none⟩ (.slice A1 (N + 1) cc1)) base 1 (.slice A n c) n (icells l)) := HT2.out.own HLn.out (by
    intro k hk hm
    rcases List.mem_cons.1 hm with rfl | hm
    · exact HK.out.2.2.2 hk
    · exact HK.out.2.1 k (by simpa using hm) hk)
  have HTT : Hid (Own (w1.setCell ⟨g, 2, none⟩ (.slice A1 (N + 1) cc1)) base 1 (.slice AT N cT) N us) := HT2.out.own HT.out (by
    intro k hk hm
    rcases List.mem_cons.1 hm with rfl | hm
    · exact HK.out.2.2.1 _ hk rfl
    · exact HK.out.1 k (by simpa using hm) hk)
  have hS1g : ∀ b, (Value.slice A1 (N + 1) cc1).ownBlock = some b → b ≠ g := by
    intro b hb e
    rcases HV1.out with h | ⟨b', h, h2⟩
    · have hh : (Value.slice AS N cS).ownBlock = some b := h.symm.trans hb
      exact HB0.out.sg (by rw [← e]; exact hh)
    · rw [h] at hb; injection hb with hb; simp at h2; omega
  have HSS : Hid (Own (w1.setCell ⟨g, 2, none⟩ (.slice A1 (N + 1) cc1)) base 1 (.slice A1 (N + 1) cc1) (N + 1) (vs ++ [.slice A n c])) := Touched.own ((Touched.refl w1 [g]).setCell (.inl (by simp)) _) HO1.out (by
    intro k hk hm
    simp at hm
    exact hS1g k hk hm)
  have HLl : Hid (l.length = n) := by have := HLn.out.1; rw [icells_len1] at this; rw [Hid]; omega
  obtain ⟨A', c', e', _, hrow2, _⟩ := HL2.out.slice
  injection e' with e1' e2' e3'
  subst e1'
  have HRow := Lib.hid hrow2
  have HZ2 : Hid (base ≤ (w1.setCell ⟨g, 2, none⟩ (.slice A1 (N + 1) cc1)).heap.size) := by have := HT2.out.size; rw [Hid]; omega
  have HS1g := Lib.hid hS1g
  clear hrow2 e3' hS1g
  obtain ⟨W2, hW2⟩ : ∃ W2, w1.setCell ⟨g, 2, none⟩ (.slice A1 (N + 1) cc1) = W2 := ⟨_, rfl⟩
  rw [hW2] at m5 n5 mN m4 n4 HT2 HL2 HTT HRow HZ2 HSS ⊢
  clear hW2
  have HTb : Hid (g ∉ (Value.slice AT N cT).ownBlock.toList) := by rw [Hid]; intro h; exact HK.out.2.2.1 g (by simpa using h) rfl
  go_region_law
    (first
      | (refine step_appO el_ilists base rfl _ _ rfl rfl (HT3.out.alloc _) (news := [.slice Au n cu]) rfl rfl (rowAt_alloc _ [.slice Au n cu] _) (by intro u hu; simp at hu; subst hu; rfl) (by omega) (by have := HB3.out.size; have := HZ2.out; simp; omega) ?_; intro v2 w4 hown2 hg2 hb2; obtain ⟨A2, cc2, rfl, _, _, _⟩ := hown2.slice; have HO4 := Lib.hid hown2; have HT4 : Hid (Touched w3 w4 (Value.slice AT N cT).ownBlock.toList) := ((Touched.refl w3 _).alloc _).trans (Touched.of_grown hg2); have u5 := (HT4.out.cell (j := 3) (cell_lt2 r5) HTb.out).trans r5; have x5 := (HT4.out.free (j := 3) (cell_lt2 r5) HTb.out).trans t5; have HV2 := Lib.hid hb2; clear hown2 hg2 hb2)
      | (go_simp; go_at_call 26; refine (copyInts_calls A n c l W2.drew HLl.out (by omega) (show RowAt W2.drew A (icells l) from HRow.out)).mono ?_; rintro e w3 ⟨u, rfl, hownu, hb3⟩; obtain ⟨Au, cu, rfl, _, _, _⟩ := hownu.slice; have HU := Lib.hid hownu; have HB3 := Lib.hid (show Below W2.heap.size W2 w3 from ⟨hb3.os, hb3.tape, hb3.output, hb3.size, hb3.block⟩); have r5 := cell_kept HB3.out (Nat.le_refl _) m5; have t5 := (World.frozen?_of_block (w := W2) (a := ⟨g, 3, none⟩) (HB3.out.block g (cell_lt2 m5))).trans n5; have HT3 := Lib.hid (HTT.out.below HB3.out); have HBA := Lib.hid ((Below.refl w3.heap.size w3).alloc (Nat.le_refl _) (.cells #[Value.slice Au n cu] 22)); have a5 := cell_kept HBA.out (Nat.le_refl _) r5; have a6 := (World.frozen?_of_block (w := w3) (a := ⟨g, 3, none⟩) (HBA.out.block g (cell_lt2 r5))).trans t5; clear hownu hb3))
  all_goals
    go_end0
    refine ⟨rfl, bookTo_mk (n := n) (w3 := w3) (w4 := w4) HB0.out HNN.out hn HLl.out HLn.out HD0.out mN.out m4.out n4.out HT2.out HSS.out (HV1.out.imp id (fun ⟨b, h1, h2⟩ => ⟨b, h1, by simp at h2; omega⟩)) HB3.out HU.out HT4.out HO4.out (HV2.out.imp id (fun ⟨b, h1, h2⟩ => ⟨b, h1, by simp at h2; omega⟩)) (by rw [u5]; rfl) x5⟩
end Go.Proofs.Ytoadelcdcfdmfaa

/- (Numbers.) A Book's lists of spans: marks are written over all of them. -/
namespace Go.Proofs.Ytoadelcdcfdmfaa
open Go.RowKit
set_option linter.unusedVariables false

/-- A Book's lists alone, and what they hold. -/
structure BookV (w : World) (base g : Nat) (S : Value) (N : Nat) (vs : List Value) (lf : Nat → List Int) : Prop where
  gb : base ≤ g
  c4 : w.cell? ⟨g, 2, none⟩ = some S
  hS : Own w base 1 S N vs
  sg : S.ownBlock ≠ some g
  hv : ∀ i, i < N → (lf i).length ≤ 1000000 ∧ ∃ v, vs[i]? = some v ∧ Own w base 1 v (lf i).length (icells (lf i)) ∧ ∀ b, v.ownBlock = some b → b ≠ g ∧ S.ownBlock ≠ some b
  vd : ∀ (i j : Nat) (v v' : Value) (b : Nat), i ≠ j → vs[i]? = some v → vs[j]? = some v' → v.ownBlock = some b → v'.ownBlock ≠ some b
/-- The blocks of the lists. -/
def vblocks (vs : List Value) : List Nat := vs.filterMap Value.ownBlock
theorem mem_vblocks {vs : List Value} {b : Nat} : b ∈ vblocks vs ↔ ∃ v ∈ vs, v.ownBlock = some b := by simp [vblocks]
section
variable {w w' : World} {base g N : Nat} {S : Value} {vs : List Value} {lf : Nat → List Int}
theorem BookV.vlen (h : BookV w base g S N vs lf) : vs.length = N := by have := h.hS.1; omega
theorem BookV.gl (h : BookV w base g S N vs lf) : g < w.heap.size := cell_lt2 h.c4
theorem BookAt.v {T : Value} {us : List Value} {ls : List (List Int)} (h : BookAt w base g S T vs us ls) : BookV w base g S ls.length vs (fun i => (ls[i]?).getD []) := by
  refine ⟨h.gb, h.c4, h.hS, h.sg, fun i hi => ?_, h.vd⟩
  obtain ⟨l, hl⟩ : ∃ l, ls[i]? = some l := ⟨ls[i], List.getElem?_eq_getElem hi⟩
  obtain ⟨a, v, hv, ho, hd⟩ := h.hv i l hl
  simp only [hl, Option.getD_some]
  exact ⟨a, v, hv, ho, fun b hb => ⟨(hd b hb).1, (hd b hb).2.1⟩⟩
/-- One list's block was written. -/
theorem BookV.one {k m : Nat} {v : Value} {l' : List Int} {bs : List Nat} (h : BookV w base g S N vs lf) (hk : k < N) (hv : vs[k]? = some v) (hT : Touched w w' bs) (hb : ∀ b ∈ bs, v.ownBlock = some b) (ho : Own w' base 1 v m (icells l')) (hm : l'.length = m) (hl : m ≤ 1000000) : BookV w' base g S N vs (fun i => if i = k then l' else lf i) := by
  obtain ⟨_, v0, hv0, ho0, hd0⟩ := h.hv k hk
  have hvv : v0 = v := by rw [hv] at hv0; injection hv0 with e; exact e.symm
  rw [hvv] at hd0 ho0
  have hgl := h.gl
  refine ⟨h.gb, (hT.cell hgl (fun hm => (hd0 _ (hb _ hm)).1 rfl)).trans h.c4, hT.own h.hS (fun b hb1 hm => (hd0 _ (hb _ hm)).2 hb1), h.sg, fun i hi => ?_, h.vd⟩
  by_cases e : i = k
  · subst e
    simp only [if_true, hm]
    exact ⟨hl, v, hv, ho, hd0⟩
  · simp only [if_neg e]
    obtain ⟨a, x, hx, hox, hdx⟩ := h.hv i hi
    exact ⟨a, x, hx, hT.own hox (fun b hb1 hm => h.vd i k x v b e hx hv hb1 (hb _ hm)), hdx⟩
theorem BookV.congr {lf' : Nat → List Int} (h : BookV w base g S N vs lf) (he : ∀ i, i < N → lf i = lf' i) : BookV w base g S N vs lf' := by
  refine ⟨h.gb, h.c4, h.hS, h.sg, fun i hi => ?_, h.vd⟩
  rw [← he i hi]; exact h.hv i hi
theorem BookV.touched {bs : List Nat} (h : BookV w base g S N vs lf) (hT : Touched w w' bs) (h1 : g ∉ bs) (h2 : ∀ b ∈ bs, S.ownBlock ≠ some b) (h3 : ∀ v ∈ vs, ∀ b ∈ bs, v.ownBlock ≠ some b) : BookV w' base g S N vs lf := by
  refine ⟨h.gb, (hT.cell h.gl h1).trans h.c4, hT.own h.hS (fun b hb hm => h2 b hm hb), h.sg, fun i hi => ?_, h.vd⟩
  obtain ⟨a, x, hx, hox, hdx⟩ := h.hv i hi
  exact ⟨a, x, hx, hT.own hox (fun b hb hm => h3 x (List.mem_of_getElem? hx) b hm hb), hdx⟩
theorem BookV.below (h : BookV w base g S N vs lf) (hb : Below w.heap.size w w') : BookV w' base g S N vs lf := h.touched (Touched.of_below hb []) (by simp) (by simp) (by simp)
end
theorem icells_set1 {l : List Int} {k : Nat} (x : Int) : (icells l).set k (.int .i64 x) = icells (l.set k x) := by simp [icells, List.map_set]
/-- The first j of a list are marks already. -/
def marksTo (i j : Nat) (l : List Int) : List Int := marksI i 0 j ++ l.drop j
theorem marksTo_length (i j : Nat) (l : List Int) (h : j ≤ l.length) : (marksTo i j l).length = l.length := by simp [marksTo, marksI_length]; omega
theorem marksTo_zero (i : Nat) (l : List Int) : marksTo i 0 l = l := by simp [marksTo, marksI]
theorem marksTo_all (i : Nat) (l : List Int) : marksTo i l.length l = marksI i 0 l.length := by simp [marksTo]
theorem marksTo_set (i j : Nat) (l : List Int) (h : j < l.length) : (marksTo i j l).set j (-1000000 * (i : Int) - (j : Int) - 7) = marksTo i (j + 1) l := by
  rw [marksTo, marksTo, marksI_snoc, List.set_append_right _ _ (by simp [marksI_length]), marksI_length, Nat.sub_self, List.drop_eq_getElem_cons h, List.set_cons_zero]
  simp
theorem marksI_at (i n j : Nat) (h : j < n) : (marksI i 0 n)[j]? = some (-1000000 * (i : Int) - (j : Int) - 7) := by
  simp [marksI, h]
set_option maxHeartbeats 3200000 in
set_option maxRecDepth 100000 in
theorem putInts_calls (g base N : Nat) (S : Value) (vs : List Value) (lf : Nat → List Int) (w : World) (hN : N ≤ 1000) (h : BookV w base g S N vs lf) :
    Calls Try.prog 54 #[.pointer (some ⟨g, 0, none⟩)] w fun e w' => e = .returned (.tuple #[]) ∧ BookV w' base g S N vs (fun i => marksI i 0 (lf i).length) ∧ Touched w w' (vblocks vs) := by
  obtain ⟨AS, cS, rfl, hcS, hrS, _⟩ := h.hS.slice
  have hc4 := h.c4
  have HB := Lib.hid h
  clear h hrS
  go_enter Try.func54, Try.ntmps54
  go_wp2
  go_loopw [2] (fun i wr => ∃ k : Nat, k ≤ N ∧ i = .int .i64 k ∧ Hid (BookV wr base g (.slice AS N cS) N vs (fun i => if i < k then marksI i 0 (lf i).length else lf i)) ∧ Hid (Touched w wr (vblocks vs))) (fun i _ => N - (intOf i).toNat)
  case atStart => exact ⟨0, Nat.zero_le _, rfl, by simpa [Hid] using HB.out, Touched.refl _ _⟩
  case round =>
    obtain ⟨k, hk, rfl, HK, HT⟩ := hrel
    clear hc4
    have c4 := HK.out.c4
    by_cases hlt : k < N
    · obtain ⟨_, _, eS, _, hrS, _⟩ := HK.out.hS.slice
      injection eS with eS1 _ _
      subst eS1
      obtain ⟨hlm, v, hv, ho, hd⟩ := HK.out.hv k hlt
      simp only [Nat.lt_irrefl, if_false] at hlm ho
      obtain ⟨n, hn⟩ : ∃ n, (lf k).length = n := ⟨_, rfl⟩
      have HN := Lib.hid hn
      rw [hn] at hlm ho
      obtain ⟨A', c', rfl, hcn, hr', _⟩ := ho.slice
      obtain ⟨b1, o1, rfl, hb1, s1⟩ := hrS.addr (by intro e; rw [e] at hv; simp at hv)
      have t1 := s1 k _ hv
      have HVk := Lib.hid hv
      obtain ⟨wr0, hwr0⟩ : ∃ x, wr.heap.size = x := ⟨_, rfl⟩
      have HWr0 := Lib.hid hwr0
      clear hwr0
      have HVb : Hid (∀ b, (Value.slice A' n c').ownBlock = some b → b < wr0) := fun b hb => by rw [← HWr0.out]; exact (ho.lt b hb).2
      have HM := Lib.hid (fun W => markInts_calls k 0 n W (by omega) (by omega) hlm)
      clear ho hr' s1 hrS hd hv hn
      have j1 : (0 : Int) ≤ (k : Int) := by omega
      have j2 : (k : Int) < (N : Int) := by omega
      go_wp2_with fail
      refine Calls.mono (HM.out _) ?_
      rintro e w2 ⟨m, rfl, hownm, hb2⟩
      obtain ⟨B, d, rfl, _, _, _⟩ := hownm.slice
      have HO2 : Hid (Own w2 wr0 1 (.slice B n d) n (icells (marksI k 0 n))) := by rw [Hid, ← HWr0.out]; exact hownm
      have HB2 := Lib.hid hb2
      have HV2 := Lib.hid (HK.out.below hb2)
      have HT2 := Lib.hid (HT.out.trans (Touched.of_below hb2 _))
      clear hownm hb2
      go_wp2
      go_loopw [4] (fun i wi => ∃ j : Nat, j ≤ n ∧ i = .int .i64 j ∧ Hid (BookV wi base g (.slice (some ⟨b1, o1, none⟩) N cS) N vs (fun i => if i = k then marksTo k j (lf k) else if i < k then marksI i 0 (lf i).length else lf i)) ∧ Hid (Touched w wi (vblocks vs)) ∧ Hid (Own wi wr0 1 (.slice B n d) n (icells (marksI k 0 n)))) (fun i _ => n - (intOf i).toNat)
      case atStart =>
        refine ⟨0, Nat.zero_le _, rfl, HV2.out.congr (fun i hi => ?_), HT2.out, HO2.out⟩
        by_cases e : i = k
        · subst e; simp [marksTo_zero]
        · simp [e]
      case round =>
        obtain ⟨j, hj, rfl, HK3, HT3, HO3⟩ := hrel
        by_cases hjt : j < n
        · obtain ⟨_, v', hv', ho', hdd⟩ := HK3.out.hv k hlt
          rw [HVk.out] at hv'
          injection hv' with hv'
          subst hv'
          simp only [if_true] at ho'
          have hlen : (marksTo k j (lf k)).length = n := by rw [marksTo_length _ _ _ (by rw [HN.out]; omega), HN.out]
          rw [hlen] at ho'
          obtain ⟨b2, c2, e2, hb2, hbl2, hc2, hr2⟩ := ho'.form (by omega)
          injection e2 with e2 _ e3
          subst e2 e3
          obtain ⟨b3, c3, e3, hb3, hbl3, hc3, hr3⟩ := HO3.out.form (by omega)
          injection e3 with e3 _ e4
          subst e3 e4
          have hm := marksI_at k n j hjt
          have p1 := icells_at hm
          have d1 := (HO3.out.cell p1).1
          obtain ⟨_, _, eS, _, hrS, _⟩ := HK3.out.hS.slice
          injection eS with eS1 _ _
          subst eS1
          obtain ⟨b1', o1', e1, _, s1⟩ := hrS.addr (by intro e; rw [e] at HVk; have := HVk.out; simp at this)
          injection e1 with e1
          injection e1 with e1 e1' _
          subst e1 e1'
          have t2 := s1 k _ HVk.out
          have c42 := HK3.out.c4
          obtain ⟨q, hq⟩ : ∃ q, (marksTo k j (lf k))[j]? = some q := some_at (by omega)
          have q1 := icells_at hq
          obtain ⟨x1, y1⟩ := ho'.cell q1
          have HHo := Lib.hid ho'
          have HLn := Lib.hid hlen
          clear ho' hr2 hr3 p1 q1 hq hm s1 hrS hlen c4 t1
          have z1 : (0 : Int) ≤ (j : Int) := by omega
          have z2 : (j : Int) < (n : Int) := by omega
          go_wp2_with fail
          have W2 := Lib.hid (Touched.setCell (a := ⟨b2, j, none⟩) (Touched.refl wr [b2]) (.inl (by simp)) (.int .i64 (-1000000 * (k : Int) - (j : Int) - 7))).drew
          have n1 : g ∉ [b2] := by simp; intro e; exact (hdd b2 rfl).1 e.symm
          have n2 : b1 ∉ [b2] := by simp; intro e; exact (hdd b2 rfl).2 (by rw [← e]; rfl)
          have n3 : b3 ∉ [b2] := by simp; intro e; have := HVb.out b2 rfl; omega
          have g1 := (W2.out.cell (j := 2) HK3.out.gl n1).trans c42
          have g2 := (W2.out.cell (j := o1 + k) (cell_lt2 t2) n2).trans t2
          have g3 := (W2.out.cell (j := j) hbl3 n3).trans d1
          have HHo2 : Hid (Own (wr.setCell ⟨b2, j, none⟩ (.int .i64 (-1000000 * (k : Int) - (j : Int) - 7))).drew base 1 (.slice (some ⟨b2, 0, none⟩) n c') n (icells (marksTo k (j + 1) (lf k)))) := by
            have u1 := (HHo.out.set j (by rw [icells_len1, HLn.out]; omega) (.int .i64 (-1000000 * (k : Int) - (j : Int) - 7))).1
            have e := icells_set1 (l := marksTo k j (lf k)) (k := j) (-1000000 * (k : Int) - (j : Int) - 7)
            rw [marksTo_set k j (lf k) (by rw [HN.out]; exact hjt)] at e
            rw [← e]
            exact u1.drew
          have HVV : Hid (BookV _ base g (.slice (some ⟨b1, o1, none⟩) N cS) N vs (fun i => if i = k then marksTo k (j + 1) (lf k) else if i < k then marksI i 0 (lf i).length else lf i)) := (HK3.out.one (l' := marksTo k (j + 1) (lf k)) hlt HVk.out W2.out (by intro b hb; simp at hb; rw [hb]; rfl) HHo2.out (by rw [marksTo_length _ _ _ (by rw [HN.out]; omega), HN.out]) hlm).congr (fun i hi => by by_cases e : i = k <;> simp [e])
          have HTT : Hid (Touched w _ (vblocks vs)) := HT3.out.trans (W2.out.mono (by intro b hb _; simp at hb; rw [hb]; exact mem_vblocks.2 ⟨_, List.mem_of_getElem? HVk.out, rfl⟩))
          have HOO : Hid (Own _ wr0 1 (.slice (some ⟨b3, 0, none⟩) n d) n (icells (marksI k 0 n))) := W2.out.own HO3.out (by intro b hb hm; injection hb with hb; rw [← hb] at hm; exact n3 hm)
          clear n1 n2 n3 hdd
          go_region_held3 (fun w' => w'.cell? ⟨g, 2, none⟩ = some (.slice (some ⟨b1, o1, none⟩) N cS) ∧ w'.cell? ⟨b1, o1 + k, none⟩ = some (.slice (some ⟨b2, 0, none⟩) n c') ∧ w'.cell? ⟨b3, j, none⟩ = some (.int .i64 (-1000000 * (k : Int) - (j : Int) - 7))) (first | exact ⟨c42, t2, d1⟩ | exact ⟨g1, g2, g3⟩) (fail)
          go_wp2
          go_roundw
          case rel => exact ⟨j + 1, by omega, by go_num, HVV, HTT, HOO⟩
          case measure => simp [intOf]; omega
        · obtain rfl : j = n := by omega
          have HVE : Hid (BookV wr base g (.slice (some ⟨b1, o1, none⟩) N cS) N vs (fun i => if i < k + 1 then marksI i 0 (lf i).length else lf i)) := HK3.out.congr (fun i hi => by
            by_cases e : i = k
            · subst e
              have := marksTo_all i (lf i)
              rw [HN.out] at this
              simp [this, HN.out]
            · by_cases e2 : i < k
              · simp [e, e2, show i < k + 1 by omega]
              · simp [e, e2, show ¬ i < k + 1 by omega])
          go_wp2
          go_roundw
          case rel => exact ⟨k + 1, by omega, by go_num, HVE, HT3⟩
          case measure => simp [intOf]; omega
    · obtain rfl : k = N := by omega
      go_wp2
      go_end0
      exact ⟨rfl, HK.out.congr (fun i hi => by simp [hi]), HT.out⟩
end Go.Proofs.Ytoadelcdcfdmfaa
