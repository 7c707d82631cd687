/- An Out, an In of a law's own: all calls on it, said in one form (the world it began in; what it holds). -/
import Derived.Test.YtnakneabfnphkaaDoorBitsAlive
import Derived.Test.YtnakneabfnphkaaDoorOutPad
namespace Go.Proofs.YtnakneabfnphkaaDoor
open Go.RowKit

structure OutI (w0 w : World) (g : Nat) (d : Int × List UInt8) : Prop where
  ex : ∃ v, OutS w g v d.1 d.2 ∧ ∀ b, v.ownBlock = some b → w0.heap.size ≤ b
  ge : w0.heap.size ≤ g
  bel : Below w0.heap.size w0 w
structure InI (w0 w : World) (g : Nat) (d : Int × ByteArray) : Prop where
  at_ : InS w g d.1 d.2
  ge : w0.heap.size ≤ g
  bel : Below w0.heap.size w0 w
section
variable {P : Program} {f : FuncId} {args : Array Value} {w0 w w1 : World} {g : Nat} {R : Ending}
theorem OutI.step {d d' : Int × List UInt8} (h : OutI w0 w g d) (c : ∀ v, OutS w g v d.1 d.2 → Calls P f args w1 fun r w' => r = R ∧ OutTo w w' g v d') : Calls P f args w1 fun r w' => r = R ∧ OutI w0 w' g d' := by
  obtain ⟨v, hv, hb⟩ := h.ex
  refine (c v hv).mono fun r w' ⟨h1, h2⟩ => ⟨h1, ?_⟩
  obtain ⟨⟨v', h3, h4⟩, h5⟩ := h2
  refine ⟨⟨v', h3, fun b hb' => ?_⟩, h.ge, h5.below h.bel h.bel.size ?_⟩
  · rcases h4 b hb' with h6 | h6
    · exact hb b h6
    · exact Nat.le_trans h.bel.size h6
  · intro k hk
    simp only [List.mem_cons, Option.mem_toList] at hk
    rcases hk with rfl | hk
    · exact h.ge
    · exact hb k hk
theorem OutI.below {d : Int × List UInt8} (h : OutI w0 w g d) (hb : Below w.heap.size w w1) : OutI w0 w1 g d := by
  obtain ⟨v, hv, hv2⟩ := h.ex
  exact ⟨⟨v, hv.below hb, hv2⟩, h.ge, below_trans' h.bel hb⟩
theorem OutI.new (h : Below w0.heap.size w0 w) : OutI w0 (w.alloc (.cells #[.slice none 0 0, .int .i64 0] 29)) w.heap.size (0, []) :=
  ⟨⟨_, outNew w, by simp [Value.ownBlock]⟩, h.size, h.alloc h.size _⟩
theorem InI.step {d : Int × ByteArray} {e : Int} {s : ByteArray} (h : InI w0 w g d) (c : InS w g d.1 d.2 → Calls P f args w fun r w' => r = R ∧ InS w' g e s ∧ Touched w w' [g]) : Calls P f args w fun r w' => r = R ∧ InI w0 w' g (e, s) :=
  (c h.at_).mono fun r w' ⟨h1, h2, h3⟩ => ⟨h1, h2, h.ge, h3.below h.bel h.bel.size (by have := h.ge; simpa using this)⟩
theorem InI.below {d : Int × ByteArray} (h : InI w0 w g d) (hb : Below w.heap.size w w1) : InI w0 w1 g d := ⟨h.at_.below hb, h.ge, below_trans' h.bel hb⟩
end
section
variable {w0 w : World} {g : Nat}
theorem outByte_in {d : Int × List UInt8} (h : OutI w0 w g d) (n : Nat) (xs : List Int) (hxn : xs.length = n) (hn : n ≤ 1000000) (hsz : d.2.length ≤ 1000000000) (hx : ∀ z ∈ xs, -9223372036854775808 ≤ z ∧ z ≤ 9223372036854775807) :
    Calls Tryd.prog 12 #[.pointer (some ⟨g, 0, none⟩), .slice (some ⟨w.heap.size, 0, none⟩) n n] (w.alloc (.cells (icells xs).toArray 3)) fun r w' => r = .returned (.pointer (some ⟨g, 0, none⟩)) ∧ OutI w0 w' g (layO 1 d xs) :=
  h.step fun v hv => outByte_new g v d.1 d.2 n xs w hxn hv hn hsz hx
theorem inByte_in {d : Int × ByteArray} (h : InI w0 w g d) (hs : d.2.size ≤ 1000000000) :
    Calls Tryd.prog 19 #[.pointer (some ⟨g, 0, none⟩)] w fun r w' => r = .returned (.int .i64 (lowI d.1 d.2 1).1) ∧ InI w0 w' g (lowI d.1 d.2 1).2 :=
  h.step fun hv => inByte_calls g d.1 d.2 w hv hs
theorem outHalf_in {d : Int × List UInt8} (h : OutI w0 w g d) (n : Nat) (xs : List Int) (hxn : xs.length = n) (hn : n ≤ 1000000) (hsz : d.2.length ≤ 1000000000) (hx : ∀ z ∈ xs, -9223372036854775808 ≤ z ∧ z ≤ 9223372036854775807) :
    Calls Tryd.prog 10 #[.pointer (some ⟨g, 0, none⟩), .slice (some ⟨w.heap.size, 0, none⟩) n n] (w.alloc (.cells (icells xs).toArray 3)) fun r w' => r = .returned (.pointer (some ⟨g, 0, none⟩)) ∧ OutI w0 w' g (layO 2 d xs) :=
  h.step fun v hv => outHalf_new g v d.1 d.2 n xs w hxn hv hn hsz hx
theorem inHalf_in {d : Int × ByteArray} (h : InI w0 w g d) (hs : d.2.size ≤ 1000000000) :
    Calls Tryd.prog 21 #[.pointer (some ⟨g, 0, none⟩)] w fun r w' => r = .returned (.int .i64 (lowI d.1 d.2 2).1) ∧ InI w0 w' g (lowI d.1 d.2 2).2 :=
  h.step fun hv => inHalf_calls g d.1 d.2 w hv hs
theorem outWord_in {d : Int × List UInt8} (h : OutI w0 w g d) (n : Nat) (xs : List Int) (hxn : xs.length = n) (hn : n ≤ 1000000) (hsz : d.2.length ≤ 1000000000) (hx : ∀ z ∈ xs, -9223372036854775808 ≤ z ∧ z ≤ 9223372036854775807) :
    Calls Tryd.prog 16 #[.pointer (some ⟨g, 0, none⟩), .slice (some ⟨w.heap.size, 0, none⟩) n n] (w.alloc (.cells (icells xs).toArray 3)) fun r w' => r = .returned (.pointer (some ⟨g, 0, none⟩)) ∧ OutI w0 w' g (layO 4 d xs) :=
  h.step fun v hv => outWord_new g v d.1 d.2 n xs w hxn hv hn hsz hx
theorem inWord_in {d : Int × ByteArray} (h : InI w0 w g d) (hs : d.2.size ≤ 1000000000) :
    Calls Tryd.prog 22 #[.pointer (some ⟨g, 0, none⟩)] w fun r w' => r = .returned (.int .i64 (lowI d.1 d.2 4).1) ∧ InI w0 w' g (lowI d.1 d.2 4).2 :=
  h.step fun hv => inWord_calls g d.1 d.2 w hv hs
theorem outLong_in {d : Int × List UInt8} (h : OutI w0 w g d) (n : Nat) (xs : List Int) (hxn : xs.length = n) (hn : n ≤ 1000000) (hsz : d.2.length ≤ 1000000000) (hx : ∀ z ∈ xs, -9223372036854775808 ≤ z ∧ z ≤ 9223372036854775807) :
    Calls Tryd.prog 14 #[.pointer (some ⟨g, 0, none⟩), .slice (some ⟨w.heap.size, 0, none⟩) n n] (w.alloc (.cells (icells xs).toArray 3)) fun r w' => r = .returned (.pointer (some ⟨g, 0, none⟩)) ∧ OutI w0 w' g (layO 8 d xs) :=
  h.step fun v hv => outLong_new g v d.1 d.2 n xs w hxn hv hn hsz hx
theorem inLong_in {d : Int × ByteArray} (h : InI w0 w g d) (hs : d.2.size ≤ 1000000000) :
    Calls Tryd.prog 23 #[.pointer (some ⟨g, 0, none⟩)] w fun r w' => r = .returned (.int .i64 (lowI d.1 d.2 8).1) ∧ InI w0 w' g (lowI d.1 d.2 8).2 :=
  h.step fun hv => inLong_calls g d.1 d.2 w hv hs
theorem outText_in {d : Int × List UInt8} (h : OutI w0 w g d) (n : Nat) (ts : List ByteArray) (hts : ts.length = n) (hn : n ≤ 1000000) (hsz : d.2.length + totalLen ts + 2 * n ≤ 1000000000) :
    Calls Tryd.prog 11 #[.pointer (some ⟨g, 0, none⟩), .slice (some ⟨w.heap.size, 0, none⟩) n n] (w.alloc (.cells (scells ts).toArray 9)) fun r w' => r = .returned (.pointer (some ⟨g, 0, none⟩)) ∧ OutI w0 w' g (textO d ts) :=
  h.step fun v hv => outText_new g v d.1 d.2 n ts w hts hv hn hsz
theorem outRaw_in {d : Int × List UInt8} (h : OutI w0 w g d) (n : Nat) (ts : List ByteArray) (hts : ts.length = n) (hn : n ≤ 1000000) (hsz : d.2.length + totalLen ts ≤ 140737488355328) :
    Calls Tryd.prog 13 #[.pointer (some ⟨g, 0, none⟩), .slice (some ⟨w.heap.size, 0, none⟩) n n] (w.alloc (.cells (scells ts).toArray 9)) fun r w' => r = .returned (.pointer (some ⟨g, 0, none⟩)) ∧ OutI w0 w' g (rawO d ts) :=
  h.step fun v hv => outRaw_new g v d.1 d.2 n ts w hts hv hn hsz
theorem outPad_in {d : Int × List UInt8} (h : OutI w0 w g d) (n : Int) :
    Calls Tryd.prog 34 #[.pointer (some ⟨g, 0, none⟩), .int .i64 n] w fun r w' => r = .returned (.pointer (some ⟨g, 0, none⟩)) ∧ OutI w0 w' g (padO d n) :=
  h.step fun v hv => outPad_calls g v d.1 d.2 n w hv
theorem outEnd_in {d : Int × List UInt8} (h : OutI w0 w g d) :
    Calls Tryd.prog 15 #[.pointer (some ⟨g, 0, none⟩)] w fun r w' => r = .returned (.tuple #[.string (endO d).1, .int .i64 (endO d).2]) ∧ OutI w0 w' g d := by
  obtain ⟨v, hv, hb⟩ := h.ex
  exact (outEnd_calls g v d.1 d.2 w hv).mono fun r w' ⟨h1, h2⟩ => ⟨h1, h.below h2⟩
theorem on_in (s : ByteArray) (h : Below w0.heap.size w0 w) : Calls Tryd.prog 18 #[.string s] w fun r w' => ∃ g, r = .returned (.pointer (some ⟨g, 0, none⟩)) ∧ InI w0 w' g (0, s) :=
  (on_calls s w).mono fun r w' ⟨h1, h2, h3⟩ => ⟨_, h1, h2, h.size, below_trans' h h3⟩
theorem inText_in {d : Int × ByteArray} (h : InI w0 w g d) (hs : d.2.size ≤ 1000000000) :
    Calls Tryd.prog 24 #[.pointer (some ⟨g, 0, none⟩)] w fun r w' => r = .returned (.string (textI d.1 d.2).1) ∧ InI w0 w' g (textI d.1 d.2).2 :=
  h.step fun hv => inText_calls g d.1 d.2 w hv hs
theorem inRaw_in {d : Int × ByteArray} (h : InI w0 w g d) (n : Int) (hs : d.2.size ≤ 1000000000) :
    Calls Tryd.prog 26 #[.pointer (some ⟨g, 0, none⟩), .int .i64 n] w fun r w' => r = .returned (.string (rawI d.1 d.2 n).1) ∧ InI w0 w' g (rawI d.1 d.2 n).2 :=
  h.step fun hv => inRaw_calls g n d.1 d.2 w hv hs
theorem inLeft_in {d : Int × ByteArray} (h : InI w0 w g d) : Calls Tryd.prog 28 #[.pointer (some ⟨g, 0, none⟩)] w fun r w' => r = .returned (.int .i64 (leftI d.1 d.2)) ∧ w = w' :=
  inLeft_calls g d.1 d.2 w h.at_
theorem inRest_in {d : Int × ByteArray} (h : InI w0 w g d) (hs : d.2.size ≤ 1000000000) : Calls Tryd.prog 30 #[.pointer (some ⟨g, 0, none⟩)] w fun r w' => r = .returned (.bool (restI d.1 d.2)) ∧ InI w0 w' g d :=
  (inRest_calls g d.1 d.2 w h.at_ hs).mono fun r w' ⟨h1, h2⟩ => ⟨h1, h.below h2⟩
theorem inEnd_in {d : Int × ByteArray} (h : InI w0 w g d) (hs : d.2.size ≤ 1000000000) : Calls Tryd.prog 32 #[.pointer (some ⟨g, 0, none⟩)] w fun r w' => r = .returned (.int .i64 (endI d.1 d.2)) ∧ InI w0 w' g (endI d.1 d.2, d.2) :=
  h.step fun hv => inEnd_calls g d.1 d.2 w hv hs
end
end Go.Proofs.YtnakneabfnphkaaDoor
