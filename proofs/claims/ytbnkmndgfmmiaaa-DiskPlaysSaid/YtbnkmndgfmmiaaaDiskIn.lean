/- One disk of a law's own: its blocks lie behind what was there when the law was called. -/
import Derived.Test.YtbnkmndgfmmiaaaDiskLaw0
namespace Go.Proofs.Ytbnkmndgfmmiaaa
open Go.RowKit
set_option linter.unusedVariables false

structure DiskIn (w0 w : World) (g : Nat) (D : DSt) : Prop where
  bel : Below w0.heap.size w0 w
  ex : ∃ bl cl bs cs V K kc, DiskAt w g bl cl bs cs V K kc D ∧ w0.heap.size ≤ g ∧ w0.heap.size ≤ bl ∧ w0.heap.size ≤ bs ∧ (∀ b, V.ownBlock = some b → w0.heap.size ≤ b)
theorem DiskIn.step {w0 w w' : World} {g bl cl bs cs : Nat} {V : Value} {K : Option Addr} {kc : Nat} {D D' : DSt} (hb : Below w0.heap.size w0 w) (a : DiskAt w g bl cl bs cs V K kc D) (h1 : w0.heap.size ≤ g) (h2 : w0.heap.size ≤ bl) (h3 : w0.heap.size ≤ bs) (h4 : ∀ b, V.ownBlock = some b → w0.heap.size ≤ b) (s : DiskStep w w' g bl bs V K D') : DiskIn w0 w' g D' := by
  obtain ⟨⟨bl', cl', bs', cs', V', K', kc', e1, e2, e3, e4, e5⟩, hT⟩ := s
  have hs := hb.size
  refine ⟨hT.below hb hs ?_, bl', cl', bs', cs', V', K', kc', e1, h1, by omega, by omega, fun b hb => (e4 b hb).elim (h4 b) (fun h => Nat.le_trans hs h)⟩
  intro k hk
  simp only [List.mem_cons] at hk
  rcases hk with h | h | h | h
  · omega
  · omega
  · omega
  · exact h4 k (by simpa using h)
theorem DiskIn.below {w0 w w' : World} {g : Nat} {D : DSt} (h : DiskIn w0 w g D) (hb : Below w.heap.size w w') : DiskIn w0 w' g D := by
  obtain ⟨b, bl, cl, bs, cs, V, K, kc, a, r⟩ := h
  exact ⟨below_trans' b hb, bl, cl, bs, cs, V, K, kc, a.below hb, r⟩
theorem diskNew_in (w0 w : World) (n : Nat) (h0 : Below w0.heap.size w0 w) (h1 : 140 ≤ n) (h2 : n ≤ 2000) :
    Calls Try.prog 6 #[.int .i64 (n : Int)] w fun e w' => ∃ g, e = .returned (.tuple #[.pointer (some ⟨g, 0, none⟩), .int .i64 0]) ∧ DiskIn w0 w' g (newD n) :=
  (diskNew_calls n w h1 h2).mono fun e w' ⟨g, bl, cl, bs, cs, he, a, e1, e2, e3, hb⟩ => ⟨g, he, below_trans' h0 hb, bl, cl, bs, cs, _, _, _, a, Nat.le_trans h0.size e1, Nat.le_trans h0.size e2, Nat.le_trans h0.size e3, fun b hb => by simp [Value.ownBlock] at hb⟩
section
variable {w0 w : World} {g : Nat} {D : DSt}
theorem diskWrite_new (h : DiskIn w0 w g D) (harm : D.armed = true → 0 ≤ D.left) (l : List (Int × ByteArray)) (n : Nat) (hl : l.length = n) (hroom : D.ws.length + D.many + 2 * n ≤ 1000000000) :
    Calls Try.prog 14 #[.pointer (some ⟨g, 0, none⟩), .slice (some ⟨w.heap.size, 0, none⟩) n n] (w.alloc (.cells (dcells l).toArray 42)) fun e w' => e = .returned (.int .i64 (writesD D l).2) ∧ DiskIn w0 w' g (writesD D l).1 := by
  obtain ⟨b, bl, cl, bs, cs, V, K, kc, a, r1, r2, r3, r4⟩ := h
  have hlt := a.lt
  refine (diskWrite_calls (a.below ((Below.refl _ _).alloc (Nat.le_refl _) _)) harm _ n n l hl hroom (fun w' hT => row_touched (rowAt_alloc w (dcells l) _) hT (.inr ⟨_, rfl, ?_⟩))).mono fun e w' ⟨he, hs⟩ => ⟨he, DiskIn.step b a r1 r2 r3 r4 (DiskStep.after ((Touched.refl w _).alloc _) (fun _ h => .inl h) hs)⟩
  intro hm
  simp only [List.mem_cons] at hm
  rcases hm with h | h | h | h
  · omega
  · omega
  · omega
  · have := hlt.2.2.2 _ (by simpa using h); omega
theorem diskCrash_new (h : DiskIn w0 w g D) (l : List Int) (n : Nat) (hl : l.length = n) (hn : n ≤ 1000000) :
    Calls Try.prog 15 #[.pointer (some ⟨g, 0, none⟩), .slice (some ⟨w.heap.size, 0, none⟩) n n] (w.alloc (.cells (icells l).toArray 3)) fun e w' => e = .returned (.int .i64 ((crashD D l).2 : Int)) ∧ DiskIn w0 w' g (crashD D l).1 := by
  obtain ⟨b, bl, cl, bs, cs, V, K, kc, a, r1, r2, r3, r4⟩ := h
  have hlt := a.lt
  exact (diskCrash_calls (a.below ((Below.refl _ _).alloc (Nat.le_refl _) _)) _ n n l hl hn (fun w' hT => row_touched (rowAt_alloc w (icells l) _) hT (.inr ⟨_, rfl, by simp; omega⟩))).mono fun e w' ⟨he, hs⟩ => ⟨he, DiskIn.step b a r1 r2 r3 r4 (DiskStep.after ((Touched.refl w _).alloc _) (fun _ h => .inl h) hs)⟩
theorem diskCrash_arg (h : DiskIn w0 w g D) (A : Option Addr) (n c : Nat) (l : List Int) (hl : l.length = n) (hn : n ≤ 1000000) (hR : RowAt w0 A (icells l)) :
    Calls Try.prog 15 #[.pointer (some ⟨g, 0, none⟩), .slice A n c] w fun e w' => e = .returned (.int .i64 ((crashD D l).2 : Int)) ∧ DiskIn w0 w' g (crashD D l).1 := by
  obtain ⟨b, bl, cl, bs, cs, V, K, kc, a, r1, r2, r3, r4⟩ := h
  exact (diskCrash_calls a A n c l hl hn (fun w' hT => hR.below (hT.below b b.size (by intro k hk; simp at hk; omega)))).mono fun e w' ⟨he, hs⟩ => ⟨he, DiskIn.step b a r1 r2 r3 r4 hs⟩
theorem diskRestore_in (h : DiskIn w0 w g D) : Calls Try.prog 16 #[.pointer (some ⟨g, 0, none⟩)] w fun e w' => e = .returned (.tuple #[]) ∧ DiskIn w0 w' g { D with off := false } := by
  obtain ⟨b, bl, cl, bs, cs, V, K, kc, a, r1, r2, r3, r4⟩ := h
  exact (diskRestore_calls a).mono fun e w' ⟨he, a', hT⟩ => ⟨he, DiskIn.step b a r1 r2 r3 r4 (DiskStep.of a' (hT.mono (fun q hq _ => by simp at hq; simp [hq])) (fun _ h => .inl h))⟩
theorem diskFlush_in (h : DiskIn w0 w g D) (harm : D.armed = true → 0 ≤ D.left) : Calls Try.prog 29 #[.pointer (some ⟨g, 0, none⟩)] w fun e w' => e = .returned (.int .i64 (flushD D).2) ∧ DiskIn w0 w' g (flushD D).1 := by
  obtain ⟨b, bl, cl, bs, cs, V, K, kc, a, r1, r2, r3, r4⟩ := h
  exact (diskFlush_calls a harm).mono fun e w' ⟨he, hs⟩ => ⟨he, DiskIn.step b a r1 r2 r3 r4 hs⟩
theorem diskArm_arg (h : DiskIn w0 w g D) (x : Int) (A : Option Addr) (n c : Nat) (l : List Int) (hl : l.length = n) (hc : n ≤ c) (hA : NilOk A n c) (hn : n ≤ 1000000) (hx : -9223372036854775808 ≤ x ∧ x ≤ 9223372036854775807) (hk : ∀ z ∈ l, -9223372036854775808 ≤ z ∧ z ≤ 9223372036854775807) (hR : RowAt w0 A (icells l)) :
    Calls Try.prog 34 #[.pointer (some ⟨g, 0, none⟩), .int .i64 x, .slice A n c] w fun e w' => e = .returned (.tuple #[]) ∧ DiskIn w0 w' g (armD D x l) := by
  obtain ⟨b, bl, cl, bs, cs, V, K, kc, a, r1, r2, r3, r4⟩ := h
  exact (diskArm_calls a x A n c l hl hc hA hn hx hk (hR.below b)).mono fun e w' ⟨he, hs⟩ => ⟨he, DiskIn.step b a r1 r2 r3 r4 hs⟩
theorem diskRead_in (h : DiskIn w0 w g D) (x : Int) : Calls Try.prog 17 #[.pointer (some ⟨g, 0, none⟩), .int .i64 x] w fun e w' => e = .returned (.tuple #[.string (readD D x).1, .int .i64 (readD D x).2]) ∧ w = w' := by
  obtain ⟨b, bl, cl, bs, cs, V, K, kc, a, _⟩ := h
  exact diskRead_calls a x
theorem diskOn_in (h : DiskIn w0 w g D) : Calls Try.prog 19 #[.pointer (some ⟨g, 0, none⟩)] w fun e w' => e = .returned (.bool (!D.off)) ∧ w = w' := by
  obtain ⟨b, bl, cl, bs, cs, V, K, kc, a, _⟩ := h
  exact diskOn_calls a
theorem diskSize_in (h : DiskIn w0 w g D) : Calls Try.prog 20 #[.pointer (some ⟨g, 0, none⟩)] w fun e w' => e = .returned (.int .i64 (D.l.length : Int)) ∧ w = w' := by
  obtain ⟨b, bl, cl, bs, cs, V, K, kc, a, _⟩ := h
  exact diskSize_calls a
theorem diskDirty_in (h : DiskIn w0 w g D) : Calls Try.prog 35 #[.pointer (some ⟨g, 0, none⟩)] w fun e w' => e = .returned (.int .i64 (D.ws.length : Int)) ∧ w = w' := by
  obtain ⟨b, bl, cl, bs, cs, V, K, kc, a, _⟩ := h
  exact diskDirty_calls a
end

/-! What is told of a disk that is not to lose its power. -/
theorem writeD_ok (D : DSt) (y : Nat) (d : ByteArray) (h1 : D.off = false) (h2 : D.armed = false) (hy : y < D.l.length) (hd : d.size = 256) : writeD D (y : Int) d = ({ D with l := D.l.set y d, ws := D.ws ++ [((y : Int), d)], many := D.many + 1 }, 0) := by
  have hm : mayE D (y : Int) = 0 := by unfold mayE; rw [if_neg (by simp [h1]), if_neg (by omega)]
  rw [writeD, if_neg (by simp [hm]), if_neg (by simp [hd])]
  simp only [goesD, h2, Int.toNat_natCast]
  simp
theorem readD_ok (D : DSt) (y : Nat) (h1 : D.off = false) (hy : y < D.l.length) : readD D (y : Int) = (D.l.getD y ByteArray.empty, 0) := by
  have hm : mayE D (y : Int) = 0 := by unfold mayE; rw [if_neg (by simp [h1]), if_neg (by omega)]
  rw [readD, if_neg (by simp [hm]), Int.toNat_natCast]
theorem writesD_one (D : DSt) (y : Nat) (d : ByteArray) (h1 : D.off = false) (h2 : D.armed = false) (hy : y < D.l.length) (hd : d.size = 256) : writesD D [((y : Int), d)] = ({ D with l := D.l.set y d, ws := D.ws ++ [((y : Int), d)], many := D.many + 1 }, 0) := by
  rw [writesD, if_neg (by simp [h1]), writesL, writeD_ok D y d h1 h2 hy hd, if_neg (by simp), writesL]
end Go.Proofs.Ytbnkmndgfmmiaaa
