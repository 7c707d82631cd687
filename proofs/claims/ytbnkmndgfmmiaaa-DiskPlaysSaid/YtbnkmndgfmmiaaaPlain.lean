/- The document's disk (masonrylaw7.Plain) in memory. -/
import Derived.Test.YtbnkmndgfmmiaaaDiskO
import Derived.Test.YtbnkmndgfmmiaaaPlainPure
namespace Go.Proofs.Ytbnkmndgfmmiaaa
open Go.RowKit
set_option linter.unusedVariables false

def pflds (bl cl bs cs : Nat) (V : Value) (K : Option Addr) (kc : Nat) (P : DSt) : List Value :=
  [.slice (some ⟨bl, 0, none⟩) P.l.length cl, .slice (some ⟨bs, 0, none⟩) P.l.length cs, V, .bool P.off, .bool P.armed, .int .i64 P.left, .slice K P.keep.length kc, .int .i64 (P.many : Int)]
/-- What it keeps (Keep) is a list that came in: it lies in w0. -/
structure PlainAt (w0 w : World) (g bl cl bs cs : Nat) (V : Value) (K : Option Addr) (kc : Nat) (P : DSt) : Prop where
  of : Own w 0 1 (.slice (some ⟨g, 0, none⟩) 8 8) 8 (pflds bl cl bs cs V K kc P)
  ol : Own w 0 1 (.slice (some ⟨bl, 0, none⟩) P.l.length cl) P.l.length (scells P.l)
  os : Own w 0 1 (.slice (some ⟨bs, 0, none⟩) P.l.length cs) P.l.length (scells P.safe)
  ls : P.safe.length = P.l.length
  ow : Own w 0 2 V P.ws.length (dcells P.ws)
  rk : RowAt w0 K (icells P.keep)
  n1 : g ≠ bl
  n2 : g ≠ bs
  n3 : bl ≠ bs
  n4 : ∀ b, V.ownBlock = some b → b ≠ g ∧ b ≠ bl ∧ b ≠ bs
  pos : 0 < P.l.length
  big : P.l.length ≤ 2000 ∧ P.keep.length ≤ 1000000 ∧ P.ws.length + P.many ≤ 1000000000 ∧ (∀ x ∈ P.keep, -9223372036854775808 ≤ x ∧ x ≤ 9223372036854775807) ∧ (∀ p ∈ P.ws, 0 ≤ p.1 ∧ p.1 < (P.l.length : Int))
  inv : -9223372036854775808 ≤ P.left ∧ P.left ≤ 9223372036854775807
  ge : w0.heap.size ≤ g ∧ w0.heap.size ≤ bl ∧ w0.heap.size ≤ bs ∧ ∀ b, V.ownBlock = some b → w0.heap.size ≤ b
section
variable {w0 w w' : World} {g bl cl bs cs : Nat} {V : Value} {K : Option Addr} {kc : Nat} {P : DSt}
theorem PlainAt.fld (a : PlainAt w0 w g bl cl bs cs V K kc P) {i : Nat} {v : Value} (hv : (pflds bl cl bs cs V K kc P)[i]? = some v) : w.cell? ⟨g, i, none⟩ = some v ∧ w.frozen? ⟨g, i, none⟩ = false := a.of.cell hv
theorem PlainAt.lt (a : PlainAt w0 w g bl cl bs cs V K kc P) : g < w.heap.size ∧ bl < w.heap.size ∧ bs < w.heap.size ∧ ∀ b, V.ownBlock = some b → b < w.heap.size :=
  ⟨(a.of.lt g (by simp [Value.ownBlock])).2, (a.ol.lt bl (by simp [Value.ownBlock])).2, (a.os.lt bs (by simp [Value.ownBlock])).2, fun b hb => (a.ow.lt b hb).2⟩
theorem PlainAt.touched {ts : List Nat} (a : PlainAt w0 w g bl cl bs cs V K kc P) (hT : Touched w w' ts) (h1 : g ∉ ts) (h2 : bl ∉ ts) (h3 : bs ∉ ts) (h4 : ∀ b, V.ownBlock = some b → b ∉ ts) : PlainAt w0 w' g bl cl bs cs V K kc P :=
  { a with
    of := hT.own a.of (fun k hk => by simp [Value.ownBlock] at hk; subst hk; exact h1)
    ol := hT.own a.ol (fun k hk => by simp [Value.ownBlock] at hk; subst hk; exact h2)
    os := hT.own a.os (fun k hk => by simp [Value.ownBlock] at hk; subst hk; exact h3)
    ow := hT.own a.ow h4 }
theorem PlainAt.below (a : PlainAt w0 w g bl cl bs cs V K kc P) (hb : Below w.heap.size w w') : PlainAt w0 w' g bl cl bs cs V K kc P :=
  a.touched (Touched.of_below hb []) (by simp) (by simp) (by simp) (by simp)
/-- Stores into the fields. -/
theorem PlainAt.refield {w2 w3 : World} (hT : Touched w2 w3 [g])
    (of : Own w3 0 1 (.slice (some ⟨g, 0, none⟩) 8 8) 8 (pflds bl cl bs cs V K kc P))
    (ol : Own w2 0 1 (.slice (some ⟨bl, 0, none⟩) P.l.length cl) P.l.length (scells P.l)) (os : Own w2 0 1 (.slice (some ⟨bs, 0, none⟩) P.l.length cs) P.l.length (scells P.safe)) (ls : P.safe.length = P.l.length)
    (ow : Own w2 0 2 V P.ws.length (dcells P.ws)) (rk : RowAt w0 K (icells P.keep))
    (n1 : g ≠ bl) (n2 : g ≠ bs) (n3 : bl ≠ bs) (n4 : ∀ b, V.ownBlock = some b → b ≠ g ∧ b ≠ bl ∧ b ≠ bs) (pos : 0 < P.l.length)
    (big : P.l.length ≤ 2000 ∧ P.keep.length ≤ 1000000 ∧ P.ws.length + P.many ≤ 1000000000 ∧ (∀ x ∈ P.keep, -9223372036854775808 ≤ x ∧ x ≤ 9223372036854775807) ∧ (∀ p ∈ P.ws, 0 ≤ p.1 ∧ p.1 < (P.l.length : Int)))
    (inv : -9223372036854775808 ≤ P.left ∧ P.left ≤ 9223372036854775807) (ge : w0.heap.size ≤ g ∧ w0.heap.size ≤ bl ∧ w0.heap.size ≤ bs ∧ ∀ b, V.ownBlock = some b → w0.heap.size ≤ b) : PlainAt w0 w3 g bl cl bs cs V K kc P := by
  refine ⟨of, hT.own ol (fun k hk => ?_), hT.own os (fun k hk => ?_), ls, hT.own ow (fun k hk => ?_), rk, n1, n2, n3, n4, pos, big, inv, ge⟩
  · simp [Value.ownBlock] at hk; subst hk; simp; exact fun e => n1 e.symm
  · simp [Value.ownBlock] at hk; subst hk; simp; exact fun e => n2 e.symm
  · simp; exact (n4 k hk).1
end
/-- The same with its blocks. -/
structure PlainO (w0 w : World) (g : Nat) (F : List Nat) (P : DSt) : Prop where
  ex : ∃ bl cl bs cs V K kc, PlainAt w0 w g bl cl bs cs V K kc P ∧ (∀ k, k ∈ g :: bl :: bs :: V.ownBlock.toList → k ∈ F)
  lo : ∀ k ∈ F, w0.heap.size ≤ k ∧ k < w.heap.size
structure PlainTo (w0 w w' : World) (g : Nat) (F : List Nat) (P' : DSt) : Prop where
  ex : ∃ F', PlainO w0 w' g F' P' ∧ ∀ k ∈ F', k ∈ F ∨ w.heap.size ≤ k
  touched : Touched w w' F
theorem PlainO.keep {w0 w w' : World} {g : Nat} {F ts : List Nat} {P : DSt} (h : PlainO w0 w g F P) (hT : Touched w w' ts) (hF : ∀ k ∈ F, k ∉ ts) : PlainO w0 w' g F P := by
  obtain ⟨bl, cl, bs, cs, V, K, kc, a, h1⟩ := h.ex
  exact ⟨⟨bl, cl, bs, cs, V, K, kc, a.touched hT (hF g (h1 g (by simp))) (hF bl (h1 bl (by simp))) (hF bs (h1 bs (by simp))) (fun b hb => hF b (h1 b (by simp [hb]))), h1⟩, fun k hk => ⟨(h.lo k hk).1, Nat.lt_of_lt_of_le (h.lo k hk).2 hT.size⟩⟩
theorem PlainO.below {w0 w w' : World} {g : Nat} {F : List Nat} {P : DSt} (h : PlainO w0 w g F P) (hb : Below w.heap.size w w') : PlainO w0 w' g F P := h.keep (Touched.of_below hb []) (by simp)
theorem PlainTo.at {w0 w w' : World} {g bl' cl' bs' cs' : Nat} {F : List Nat} {P' : DSt} {V' : Value} {K' : Option Addr} {kc' : Nat} (a : PlainAt w0 w' g bl' cl' bs' cs' V' K' kc' P')
    (h : ∀ k, k ∈ g :: bl' :: bs' :: V'.ownBlock.toList → k ∈ F ∨ w.heap.size ≤ k) (hT : Touched w w' F) : PlainTo w0 w w' g F P' := by
  obtain ⟨l1, l2, l3, l4⟩ := a.lt
  refine ⟨⟨g :: bl' :: bs' :: V'.ownBlock.toList, ⟨⟨bl', cl', bs', cs', V', K', kc', a, fun k hk => hk⟩, fun k hk => ?_⟩, h⟩, hT⟩
  obtain ⟨g1, g2, g3, g4⟩ := a.ge
  simp only [List.mem_cons, Option.mem_toList] at hk
  rcases hk with rfl | rfl | rfl | hk
  · exact ⟨g1, l1⟩
  · exact ⟨g2, l2⟩
  · exact ⟨g3, l3⟩
  · exact ⟨g4 k hk, l4 k hk⟩
/-- Two acts, one behind the other. -/
theorem PlainTo.trans {w0 w w1 w2 : World} {g : Nat} {F F1 : List Nat} {P2 : DSt} (hT : Touched w w1 F) (h1 : ∀ k ∈ F1, k ∈ F ∨ w.heap.size ≤ k) (h : PlainTo w0 w1 w2 g F1 P2) : PlainTo w0 w w2 g F P2 := by
  obtain ⟨F2, h2, h3⟩ := h.ex
  refine ⟨⟨F2, h2, fun k hk => ?_⟩, hT.trans' h.touched h1⟩
  rcases h3 k hk with e | e
  · exact h1 k e
  · exact .inr (Nat.le_trans hT.size e)
end Go.Proofs.Ytbnkmndgfmmiaaa
