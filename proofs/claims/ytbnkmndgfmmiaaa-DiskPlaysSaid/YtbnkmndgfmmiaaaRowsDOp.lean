/- A list of masonrylaw7.Op that came in. -/
import Derived.Test.YtbnkmndgfmmiaaaRows0
import Derived.Test.YtbnkmndgfmmiaaaDOp
import Derived.Lib.SmallJoins
import Derived.Deep.Fields
namespace Go.Proofs.Ytbnkmndgfmmiaaa
open Go.ChangeShapes Go.WideShapes Go.ChangeAt Go.RowKit
open Go.Joins Go.Deep
set_option linter.unusedVariables false
section
variable {H : Type} {enc : TypeId × Value → H} {P : Program} {W : World}
theorem trod_field7 {fs : Array Field} {n : Nat} {cs : List Value} {xs : List (DataW H × List MemPlace)} (hone : oneCellFields P fs = true)
    (hg : ∀ (i : Nat) (f : Field), fs[i]? = some f → DataW.trod enc P W 0 (fun _ => true) true n f.type ((cs.drop f.offset).take (P.cellsOf f.type)) = xs[i]?)
    {i : Nat} {f : Field} {u : Value} (hi : fs[i]? = some f) (hu : cs[i]? = some u) : DataW.trod enc P W 0 (fun _ => true) true n f.type [u] = xs[i]? := by
  obtain ⟨ho, hk⟩ := hone_of hone i f hi
  have h1 := hg i f hi
  rw [ho, hk] at h1
  have e : (cs.drop i).take 1 = [u] := by
    obtain ⟨hlt, rfl⟩ := List.getElem?_eq_some_iff.1 hu
    rw [List.drop_eq_getElem_cons hlt, List.take_succ_cons, List.take_zero]
  rwa [e] at h1
theorem trod_slice7 {t e : TypeId} {n : Nat} {u : Value} {y : DataW H × List MemPlace} (ht : P.underlying t = some (.slice e)) (h : DataW.trod enc P W 0 (fun _ => true) true n t [u] = some y) :
    ∃ a len cap, u = .slice a len cap ∧ DataW.Trod enc P W 0 (fun _ => true) true t (.slice a len cap) y.1 y.2 := by
  rcases open_slice ht h with ⟨hcs, _⟩ | ⟨ad, len', cap', m, n, D, Pl, hcs, _⟩
  · simp at hcs; subst hcs; exact ⟨none, 0, 0, rfl, _, h⟩
  · simp at hcs; subst hcs; exact ⟨some ad, len', cap', rfl, _, h⟩
theorem weights_part7 {e : TypeId} {fs : Array Field} (hs : P.underlying e = some (.struct fs)) {xs : List (DataW H)} {i : Nat} {f : Field} {d : DataW H} (hf : fs[i]? = some f) (hx : xs[i]? = some d) {n : Nat} (hn : n ∈ d.weights P f.type) : n ∈ DataW.weights P e (.agg xs) := by
  simp only [DataW.weights, hs]
  exact DataW.weights_mem_each (show (fs.toList.map (·.type))[i]? = some f.type by rw [List.getElem?_map, Array.getElem?_toList, hf]; rfl) hx n hn
theorem dcells_flat (l : List (Int × ByteArray)) : (l.flatMap fun p => [.int .i64 p.1, .string p.2]) = dcells l := rfl

/-- A list of writes. -/
theorem arg_writes7 {t e ti tS : TypeId} {f0 f1 : Field} (ht : P.underlying t = some (.slice e)) (hs : P.underlying e = some (.struct #[f0, f1])) (hone : oneCellFields P #[f0, f1] = true) (hC : P.cellsOf e = 2)
    (hf : (f0.type == ti && f1.type == tS) = true) (hi : P.underlying ti = some (.int .i64)) (hS : P.underlying tS = some .string) {B : Nat} (hB : P.bytesOf e = B)
    {a : Option Addr} {len cap : Nat} {d : DataW H} {ps : List MemPlace} (h : DataW.Trod enc P W 0 (fun _ => true) true t (.slice a len cap) d ps) (hw : ∀ n ∈ d.weights P t, n ≤ 140737488351232) :
    ∃ l : List (Int × ByteArray), l.length = len ∧ len ≤ cap ∧ len * B ≤ 140737488351232 ∧ (∀ p ∈ l, (-9223372036854775808 ≤ p.1 ∧ p.1 ≤ 9223372036854775807) ∧ p.2.size ≤ 140737488351232) ∧ RowAt W a (dcells l) := by
  simp only [Bool.and_eq_true, beq_iff_eq] at hf
  obtain ⟨e0, e1⟩ := hf
  rw [← hB]
  refine arg_slice (fun p : Int × ByteArray => [.int .i64 p.1, .string p.2]) (fun p => (-9223372036854775808 ≤ p.1 ∧ p.1 ≤ 9223372036854775807) ∧ p.2.size ≤ 140737488351232) ht hC (fun _ => rfl) (fun fuel cs y hy hwy => ?_) h hw
  obtain ⟨xs, n, _, rfl, hlen, hxl, hg⟩ := DataW.trod_struct hs hy
  rw [hC] at hlen
  match cs, hlen with
  | [u0, u1], _ =>
    have g0 : DataW.trod enc P W 0 (fun _ => true) true n f0.type [u0] = xs[0]? := trod_field7 hone hg (i := 0) (u := u0) rfl rfl
    have g1 : DataW.trod enc P W 0 (fun _ => true) true n f1.type [u1] = xs[1]? := trod_field7 hone hg (i := 1) (u := u1) rfl rfl
    simp at hxl
    rw [List.getElem?_eq_getElem (by omega)] at g0 g1
    rw [e0] at g0
    rw [e1] at g1
    obtain ⟨k, h1, _, hwk⟩ := DataW.trod_int hi g0
    obtain ⟨s, h2, h3, _⟩ := DataW.trod_string hS g1
    simp at h1 h2
    subst h1 h2
    refine ⟨(k, s), rfl, lit_i64 hwk, ?_⟩
    have h4 := hwy s.data.toList.length (weights_part7 (f := f1) hs (i := 1) rfl (by rw [List.getElem?_map, List.getElem?_eq_getElem (by omega)]; rfl) (by rw [h3]; simp [DataW.weights]))
    simpa using h4

theorem arg_dops {t e ti tw tW tS tb tl : TypeId} {f0 f1 f2 f3 f4 g0 g1 : Field} (ht : P.underlying t = some (.slice e)) (hs : P.underlying e = some (.struct #[f0, f1, f2, f3, f4])) (hone : oneCellFields P #[f0, f1, f2, f3, f4] = true) (hC : P.cellsOf e = 5)
    (hf : (f0.type == ti && f1.type == ti && f2.type == tw && f3.type == tb && f4.type == tl) = true) (hi : P.underlying ti = some (.int .i64)) (hl : P.underlying tl = some (.slice ti)) (hb : P.underlying tb = some .bool)
    (htw : P.underlying tw = some (.slice tW)) (hsW : P.underlying tW = some (.struct #[g0, g1])) (honeW : oneCellFields P #[g0, g1] = true) (hCW : P.cellsOf tW = 2) (hfW : (g0.type == ti && g1.type == tS) = true) (hS : P.underlying tS = some .string)
    (hc1 : P.cellsOf ti = 1) (hb1 : P.bytesOf ti = 8) (hb2 : P.bytesOf tW = 24) {B : Nat} (hB : P.bytesOf e = B)
    {a : Option Addr} {len cap : Nat} {d : DataW H} {ps : List MemPlace} (h : DataW.Trod enc P W 0 (fun _ => true) true t (.slice a len cap) d ps) (hw : ∀ n ∈ d.weights P t, n ≤ 140737488351232) :
    ∃ l : List DOpV, l.length = len ∧ len ≤ cap ∧ len * B ≤ 140737488351232 ∧ (∀ x ∈ l, x.Good W) ∧ RowAt W a (l.flatMap DOpV.cells) := by
  simp only [Bool.and_eq_true, beq_iff_eq] at hf
  obtain ⟨⟨⟨⟨e0, e1⟩, e2⟩, e3⟩, e4⟩ := hf
  rw [← hB]
  refine arg_slice DOpV.cells (fun x => x.Good W) ht hC DOpV.five (fun fuel cs y hy hwy => ?_) h hw
  obtain ⟨xs, n, _, rfl, hlen, hxl, hg⟩ := DataW.trod_struct hs hy
  rw [hC] at hlen
  match cs, hlen with
  | [u0, u1, u2, u3, u4], _ =>
    have g0 : DataW.trod enc P W 0 (fun _ => true) true n f0.type [u0] = xs[0]? := trod_field7 hone hg (i := 0) (u := u0) rfl rfl
    have g1 : DataW.trod enc P W 0 (fun _ => true) true n f1.type [u1] = xs[1]? := trod_field7 hone hg (i := 1) (u := u1) rfl rfl
    have g2 : DataW.trod enc P W 0 (fun _ => true) true n f2.type [u2] = xs[2]? := trod_field7 hone hg (i := 2) (u := u2) rfl rfl
    have g3 : DataW.trod enc P W 0 (fun _ => true) true n f3.type [u3] = xs[3]? := trod_field7 hone hg (i := 3) (u := u3) rfl rfl
    have g4 : DataW.trod enc P W 0 (fun _ => true) true n f4.type [u4] = xs[4]? := trod_field7 hone hg (i := 4) (u := u4) rfl rfl
    simp at hxl
    rw [List.getElem?_eq_getElem (by omega)] at g0 g1 g2 g3 g4
    rw [e0] at g0
    rw [e1] at g1
    rw [e2] at g2
    rw [e3] at g3
    rw [e4] at g4
    obtain ⟨k, h1, _, hwk⟩ := DataW.trod_int hi g0
    obtain ⟨m, h2, _, hwm⟩ := DataW.trod_int hi g1
    obtain ⟨b, h3, _⟩ := DataW.trod_bool hb g3
    simp at h1 h2 h3
    subst h1 h2 h3
    obtain ⟨a1, n1, c1, rfl, t1⟩ := trod_slice7 htw g2
    obtain ⟨a2, n2, c2, rfl, t2⟩ := trod_slice7 hl g4
    have w2 : ∀ q ∈ (xs[2].1).weights P tw, q ≤ 140737488351232 := fun q hq => hwy q (weights_part7 (f := f2) hs (i := 2) rfl (by rw [List.getElem?_map, List.getElem?_eq_getElem (by omega)]; rfl) (by rw [e2]; exact hq))
    have w4 : ∀ q ∈ (xs[4].1).weights P tl, q ≤ 140737488351232 := fun q hq => hwy q (weights_part7 (f := f4) hs (i := 4) rfl (by rw [List.getElem?_map, List.getElem?_eq_getElem (by omega)]; rfl) (by rw [e4]; exact hq))
    obtain ⟨l1, hl1, hcc1, hn1, hs1, hR1⟩ := arg_writes7 htw hsW honeW hCW hfW hi hS hb2 t1 w2
    obtain ⟨l2, hl2, hcc2, hn2, hs2, hR2⟩ := arg_ints hl hi hc1 hb1 t2 w4
    exact ⟨⟨k, m, a1, n1, c1, b, a2, n2, c2, l1, l2⟩, rfl, ⟨hl1, hl2, by show n1 ≤ _; omega, by show n2 ≤ _; omega, hs1, hs2, hR1, hR2, lit_i64 hwk, lit_i64 hwm⟩⟩
end
end Go.Proofs.Ytbnkmndgfmmiaaa
