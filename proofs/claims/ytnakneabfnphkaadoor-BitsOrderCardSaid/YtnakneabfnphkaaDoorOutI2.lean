/- Two Outs of a law's own, apart. -/
import Derived.Test.YtnakneabfnphkaaDoorBitsPlain
namespace Go.Proofs.YtnakneabfnphkaaDoor
open Go.RowKit

structure OutI2 (w0 w : World) (g1 : Nat) (d1 : Int × List UInt8) (g2 : Nat) (d2 : Int × List UInt8) : Prop where
  ex : ∃ v1 v2, OutS w g1 v1 d1.1 d1.2 ∧ OutS w g2 v2 d2.1 d2.2 ∧ (∀ b, v1.ownBlock = some b → w0.heap.size ≤ b ∧ b ≠ g2 ∧ v2.ownBlock ≠ some b) ∧ (∀ b, v2.ownBlock = some b → w0.heap.size ≤ b ∧ b ≠ g1)
  ne : g1 ≠ g2
  ge1 : w0.heap.size ≤ g1
  ge2 : w0.heap.size ≤ g2
  bel : Below w0.heap.size w0 w
section
variable {P : Program} {f : FuncId} {args : Array Value} {w0 w w1 : World} {g1 g2 : Nat} {R : Ending} {d1 d2 d' : Int × List UInt8}
theorem OutI2.step (h : OutI2 w0 w g1 d1 g2 d2) (c : ∀ v, (∀ b, v.ownBlock = some b → w0.heap.size ≤ b) → OutS w g1 v d1.1 d1.2 → Calls P f args w1 fun r w' => r = R ∧ OutTo w w' g1 v d') : Calls P f args w1 fun r w' => r = R ∧ OutI2 w0 w' g1 d' g2 d2 := by
  obtain ⟨v1, v2, hv1, hv2, hb1, hb2⟩ := h.ex
  refine (c v1 (fun b hb => (hb1 b hb).1) hv1).mono fun r w' ⟨h1, h2⟩ => ⟨h1, ?_⟩
  obtain ⟨⟨v', h3, h4⟩, h5⟩ := h2
  have l2 := hv2.lt
  refine ⟨⟨v', v2, h3, hv2.touched h5 ?_ ?_, fun b hb => ?_, hb2⟩, h.ne, h.ge1, h.ge2, h5.below h.bel h.bel.size ?_⟩
  · intro hm
    simp only [List.mem_cons, Option.mem_toList] at hm
    rcases hm with hm | hm
    · exact h.ne hm.symm
    · exact (hb1 _ hm).2.1 rfl
  · intro b hb hm
    simp only [List.mem_cons, Option.mem_toList] at hm
    rcases hm with hm | hm
    · exact (hb2 _ hb).2 hm
    · exact (hb1 _ hm).2.2 hb
  · rcases h4 b hb with h6 | h6
    · exact hb1 b h6
    · exact ⟨Nat.le_trans h.bel.size h6, by omega, fun hh => by have := hv2.vlt hh; omega⟩
  · intro k hk
    simp only [List.mem_cons, Option.mem_toList] at hk
    rcases hk with rfl | hk
    · exact h.ge1
    · exact (hb1 k hk).1
theorem OutI2.swap (h : OutI2 w0 w g1 d1 g2 d2) : OutI2 w0 w g2 d2 g1 d1 := by
  obtain ⟨v1, v2, hv1, hv2, hb1, hb2⟩ := h.ex
  exact ⟨⟨v2, v1, hv2, hv1, fun b hb => ⟨(hb2 b hb).1, (hb2 b hb).2, fun hh => (hb1 b hh).2.2 hb⟩, fun b hb => ⟨(hb1 b hb).1, (hb1 b hb).2.1⟩⟩, h.ne.symm, h.ge2, h.ge1, h.bel⟩
theorem OutI2.below (h : OutI2 w0 w g1 d1 g2 d2) (hb : Below w.heap.size w w1) : OutI2 w0 w1 g1 d1 g2 d2 := by
  obtain ⟨v1, v2, hv1, hv2, hb1, hb2⟩ := h.ex
  exact ⟨⟨v1, v2, hv1.below hb, hv2.below hb, hb1, hb2⟩, h.ne, h.ge1, h.ge2, below_trans' h.bel hb⟩
theorem OutI2.new (h : Below w0.heap.size w0 w) : OutI2 w0 ((w.alloc (.cells #[.slice none 0 0, .int .i64 0] 29)).alloc (.cells #[.slice none 0 0, .int .i64 0] 29)) w.heap.size (0, []) (w.heap.size + 1) (0, []) := by
  have h1 := outNew w
  have h2 := outNew (w.alloc (.cells #[.slice none 0 0, .int .i64 0] 29))
  have e : (w.alloc (.cells #[.slice none 0 0, .int .i64 0] 29)).heap.size = w.heap.size + 1 := by simp
  rw [e] at h2
  exact ⟨⟨_, _, h1.alloc _, h2, by simp [Value.ownBlock], by simp [Value.ownBlock]⟩, by omega, h.size, by have := h.size; omega, (h.alloc h.size _).alloc (h.alloc h.size _).size _⟩
end
section
variable {w0 w : World} {g1 g2 : Nat} {d1 d2 : Int × List UInt8}
/-- What came in lies still, whatever an Out of the law's own does. -/
theorem lent_row {A : Option Addr} {cs : List Value} {v : Value} (h : Below w0.heap.size w0 w) (hg : w0.heap.size ≤ g1) (hv : ∀ b, v.ownBlock = some b → w0.heap.size ≤ b) (hR : RowAt w0 A cs) : ∀ w', Touched w w' (g1 :: v.ownBlock.toList) → RowAt w' A cs := by
  intro w' hT
  refine hR.below (hT.below h h.size ?_)
  intro k hk
  simp only [List.mem_cons, Option.mem_toList] at hk
  rcases hk with rfl | hk
  · exact hg
  · exact hv k hk
theorem outByte_lent (h : OutI2 w0 w g1 d1 g2 d2) (A : Option Addr) (n c : Nat) (xs : List Int) (hxn : xs.length = n) (hn : n ≤ 1000000) (hsz : d1.2.length ≤ 1000000000) (hx : ∀ z ∈ xs, -9223372036854775808 ≤ z ∧ z ≤ 9223372036854775807) (hR : RowAt w0 A (icells xs)) :
    Calls Tryd.prog 12 #[.pointer (some ⟨g1, 0, none⟩), .slice A n c] w fun r w' => r = .returned (.pointer (some ⟨g1, 0, none⟩)) ∧ OutI2 w0 w' g1 (layO 1 d1 xs) g2 d2 :=
  h.step fun v hv hO => outByte_calls g1 v d1.1 d1.2 A n c xs w hxn hO hn hsz hx (lent_row h.bel h.ge1 hv hR)
theorem outHalf_lent (h : OutI2 w0 w g1 d1 g2 d2) (A : Option Addr) (n c : Nat) (xs : List Int) (hxn : xs.length = n) (hn : n ≤ 1000000) (hsz : d1.2.length ≤ 1000000000) (hx : ∀ z ∈ xs, -9223372036854775808 ≤ z ∧ z ≤ 9223372036854775807) (hR : RowAt w0 A (icells xs)) :
    Calls Tryd.prog 10 #[.pointer (some ⟨g1, 0, none⟩), .slice A n c] w fun r w' => r = .returned (.pointer (some ⟨g1, 0, none⟩)) ∧ OutI2 w0 w' g1 (layO 2 d1 xs) g2 d2 :=
  h.step fun v hv hO => outHalf_calls g1 v d1.1 d1.2 A n c xs w hxn hO hn hsz hx (lent_row h.bel h.ge1 hv hR)
theorem outLong_lent (h : OutI2 w0 w g1 d1 g2 d2) (A : Option Addr) (n c : Nat) (xs : List Int) (hxn : xs.length = n) (hn : n ≤ 1000000) (hsz : d1.2.length ≤ 1000000000) (hx : ∀ z ∈ xs, -9223372036854775808 ≤ z ∧ z ≤ 9223372036854775807) (hR : RowAt w0 A (icells xs)) :
    Calls Tryd.prog 14 #[.pointer (some ⟨g1, 0, none⟩), .slice A n c] w fun r w' => r = .returned (.pointer (some ⟨g1, 0, none⟩)) ∧ OutI2 w0 w' g1 (layO 8 d1 xs) g2 d2 :=
  h.step fun v hv hO => outLong_calls g1 v d1.1 d1.2 A n c xs w hxn hO hn hsz hx (lent_row h.bel h.ge1 hv hR)
theorem outHalf_two (h : OutI2 w0 w g1 d1 g2 d2) (n : Nat) (xs : List Int) (hxn : xs.length = n) (hn : n ≤ 1000000) (hsz : d1.2.length ≤ 1000000000) (hx : ∀ z ∈ xs, -9223372036854775808 ≤ z ∧ z ≤ 9223372036854775807) :
    Calls Tryd.prog 10 #[.pointer (some ⟨g1, 0, none⟩), .slice (some ⟨w.heap.size, 0, none⟩) n n] (w.alloc (.cells (icells xs).toArray 3)) fun r w' => r = .returned (.pointer (some ⟨g1, 0, none⟩)) ∧ OutI2 w0 w' g1 (layO 2 d1 xs) g2 d2 :=
  h.step fun v _ hv => outHalf_new g1 v d1.1 d1.2 n xs w hxn hv hn hsz hx
theorem outText_two (h : OutI2 w0 w g1 d1 g2 d2) (n : Nat) (ts : List ByteArray) (hts : ts.length = n) (hn : n ≤ 1000000) (hsz : d1.2.length + totalLen ts + 2 * n ≤ 1000000000) :
    Calls Tryd.prog 11 #[.pointer (some ⟨g1, 0, none⟩), .slice (some ⟨w.heap.size, 0, none⟩) n n] (w.alloc (.cells (scells ts).toArray 9)) fun r w' => r = .returned (.pointer (some ⟨g1, 0, none⟩)) ∧ OutI2 w0 w' g1 (textO d1 ts) g2 d2 :=
  h.step fun v _ hv => outText_new g1 v d1.1 d1.2 n ts w hts hv hn hsz
theorem outText_lent (h : OutI2 w0 w g1 d1 g2 d2) (A : Option Addr) (n c : Nat) (ts : List ByteArray) (hts : ts.length = n) (hn : n ≤ 1000000) (hsz : d1.2.length + totalLen ts + 2 * n ≤ 1000000000) (hR : RowAt w0 A (scells ts)) :
    Calls Tryd.prog 11 #[.pointer (some ⟨g1, 0, none⟩), .slice A n c] w fun r w' => r = .returned (.pointer (some ⟨g1, 0, none⟩)) ∧ OutI2 w0 w' g1 (textO d1 ts) g2 d2 :=
  h.step fun v hv hO => outText_calls g1 v d1.1 d1.2 A c n ts w hts hO hn hsz (lent_row h.bel h.ge1 hv hR)
theorem outRaw_lent (h : OutI2 w0 w g1 d1 g2 d2) (A : Option Addr) (c : Nat) (ts : List ByteArray) (hn : ts.length ≤ 1000000) (hsz : d1.2.length + totalLen ts ≤ 140737488355328) (hR : RowAt w0 A (scells ts)) :
    Calls Tryd.prog 13 #[.pointer (some ⟨g1, 0, none⟩), .slice A ts.length c] w fun r w' => r = .returned (.pointer (some ⟨g1, 0, none⟩)) ∧ OutI2 w0 w' g1 (rawO d1 ts) g2 d2 :=
  h.step fun v hv hO => outRaw_calls g1 v d1.1 d1.2 A c ts w hO (by omega) hsz (lent_row h.bel h.ge1 hv hR)
theorem outEnd_two (h : OutI2 w0 w g1 d1 g2 d2) :
    Calls Tryd.prog 15 #[.pointer (some ⟨g1, 0, none⟩)] w fun r w' => r = .returned (.tuple #[.string (endO d1).1, .int .i64 (endO d1).2]) ∧ OutI2 w0 w' g1 d1 g2 d2 := by
  obtain ⟨v, _, hv, _⟩ := h.ex
  exact (outEnd_calls g1 v d1.1 d1.2 w hv).mono fun r w' ⟨h1, h2⟩ => ⟨h1, h.below h2⟩
end
theorem rawO_nil (d : Int × List UInt8) : rawO d [] = d := by
  obtain ⟨e, l⟩ := d
  by_cases h : e = 0
  · subst h; rw [rawO, if_neg (by simp)]; show (0, l ++ []) = (0, l); rw [List.append_nil]
  · simp [rawO, h]
end Go.Proofs.YtnakneabfnphkaaDoor
