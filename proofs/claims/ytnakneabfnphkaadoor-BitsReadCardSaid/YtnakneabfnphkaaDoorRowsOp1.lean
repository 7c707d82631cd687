/- A list of masonrylaw1.Op that came in. -/
import Derived.Test.YtnakneabfnphkaaDoorRows0
import Derived.Test.YtnakneabfnphkaaDoorOpIn
import Derived.Lib.SmallJoins
import Derived.Deep.Fields
namespace Go.Proofs.YtnakneabfnphkaaDoor
open Go.ChangeShapes Go.WideShapes Go.ChangeAt Go.RowKit
open Go.Joins Go.Deep
section
variable {H : Type} {enc : TypeId × Value → H} {P : Program} {W : World}
/-- One cell of a struct's reading. -/
theorem trod_field {fs : Array Field} {n : Nat} {cs : List Value} {xs : List (DataW H × List MemPlace)} (hone : oneCellFields P fs = true)
    (hg : ∀ (i : Nat) (f : Field), fs[i]? = some f → DataW.trod enc P W 0 (fun _ => true) true n f.type ((cs.drop f.offset).take (P.cellsOf f.type)) = xs[i]?)
    {i : Nat} {f : Field} {u : Value} (hi : fs[i]? = some f) (hu : cs[i]? = some u) : DataW.trod enc P W 0 (fun _ => true) true n f.type [u] = xs[i]? := by
  obtain ⟨ho, hk⟩ := hone_of hone i f hi
  have h1 := hg i f hi
  rw [ho, hk] at h1
  have e : (cs.drop i).take 1 = [u] := by
    obtain ⟨hlt, rfl⟩ := List.getElem?_eq_some_iff.1 hu
    rw [List.drop_eq_getElem_cons hlt, List.take_succ_cons, List.take_zero]
  rwa [e] at h1
theorem trod_slice_of {t e : TypeId} {n : Nat} {u : Value} {y : DataW H × List MemPlace} (ht : P.underlying t = some (.slice e)) (h : DataW.trod enc P W 0 (fun _ => true) true n t [u] = some y) :
    ∃ a len cap, u = .slice a len cap ∧ DataW.Trod enc P W 0 (fun _ => true) true t (.slice a len cap) y.1 y.2 := by
  rcases open_slice ht h with ⟨hcs, _⟩ | ⟨ad, len', cap', m, n, D, Pl, hcs, _⟩
  · simp at hcs; subst hcs; exact ⟨none, 0, 0, rfl, _, h⟩
  · simp at hcs; subst hcs; exact ⟨some ad, len', cap', rfl, _, h⟩
theorem weights_part {e : TypeId} {fs : Array Field} (hs : P.underlying e = some (.struct fs)) {xs : List (DataW H)} {i : Nat} {f : Field} {d : DataW H} (hf : fs[i]? = some f) (hx : xs[i]? = some d) {n : Nat} (hn : n ∈ d.weights P f.type) : n ∈ DataW.weights P e (.agg xs) := by
  simp only [DataW.weights, hs]
  exact DataW.weights_mem_each (show (fs.toList.map (·.type))[i]? = some f.type by rw [List.getElem?_map, Array.getElem?_toList, hf]; rfl) hx n hn

theorem arg_ops1 {t e ti tl tt tS : TypeId} {f0 f1 f2 f3 : Field} (ht : P.underlying t = some (.slice e)) (hs : P.underlying e = some (.struct #[f0, f1, f2, f3])) (hone : oneCellFields P #[f0, f1, f2, f3] = true) (hC : P.cellsOf e = 4)
    (hf : (f0.type == ti && f1.type == ti && f2.type == tl && f3.type == tt) = true) (hi : P.underlying ti = some (.int .i64)) (hl : P.underlying tl = some (.slice ti)) (htt : P.underlying tt = some (.slice tS)) (hS : P.underlying tS = some .string)
    (hc1 : P.cellsOf ti = 1) (hc2 : P.cellsOf tS = 1) (hb1 : P.bytesOf ti = 8) (hb2 : P.bytesOf tS = 16) {B : Nat} (hB : P.bytesOf e = B)
    {a : Option Addr} {len cap : Nat} {d : DataW H} {ps : List MemPlace} (h : DataW.Trod enc P W 0 (fun _ => true) true t (.slice a len cap) d ps) (hw : ∀ n ∈ d.weights P t, n ≤ 140737488351232) :
    ∃ l : List OpV, l.length = len ∧ len ≤ cap ∧ len * B ≤ 140737488351232 ∧ (∀ x ∈ l, x.Good W) ∧ RowAt W a (l.flatMap OpV.cells) := by
  simp only [Bool.and_eq_true, beq_iff_eq] at hf
  obtain ⟨⟨⟨e0, e1⟩, e2⟩, e3⟩ := hf
  rw [← hB]
  refine arg_slice OpV.cells (fun x => x.Good W) ht hC OpV.four (fun fuel cs y hy hwy => ?_) h hw
  obtain ⟨xs, n, _, rfl, hlen, hxl, hg⟩ := DataW.trod_struct hs hy
  rw [hC] at hlen
  match cs, hlen with
  | [u0, u1, u2, u3], _ =>
    have g0 : DataW.trod enc P W 0 (fun _ => true) true n f0.type [u0] = xs[0]? := trod_field hone hg (i := 0) (u := u0) rfl rfl
    have g1 : DataW.trod enc P W 0 (fun _ => true) true n f1.type [u1] = xs[1]? := trod_field hone hg (i := 1) (u := u1) rfl rfl
    have g2 : DataW.trod enc P W 0 (fun _ => true) true n f2.type [u2] = xs[2]? := trod_field hone hg (i := 2) (u := u2) rfl rfl
    have g3 : DataW.trod enc P W 0 (fun _ => true) true n f3.type [u3] = xs[3]? := trod_field hone hg (i := 3) (u := u3) rfl rfl
    simp at hxl
    rw [List.getElem?_eq_getElem (by omega)] at g0 g1 g2 g3
    rw [e0] at g0
    rw [e1] at g1
    rw [e2] at g2
    rw [e3] at g3
    obtain ⟨k, h1, _, hwk⟩ := DataW.trod_int hi g0
    obtain ⟨m, h2, _, hwm⟩ := DataW.trod_int hi g1
    simp at h1 h2
    subst h1 h2
    obtain ⟨a1, n1, c1, rfl, t1⟩ := trod_slice_of hl g2
    obtain ⟨a2, n2, c2, rfl, t2⟩ := trod_slice_of htt g3
    have w2 : ∀ q ∈ (xs[2].1).weights P tl, q ≤ 140737488351232 := fun q hq => hwy q (weights_part (f := f2) hs (i := 2) rfl (by rw [List.getElem?_map, List.getElem?_eq_getElem (by omega)]; rfl) (by rw [e2]; exact hq))
    have w3 : ∀ q ∈ (xs[3].1).weights P tt, q ≤ 140737488351232 := fun q hq => hwy q (weights_part (f := f3) hs (i := 3) rfl (by rw [List.getElem?_map, List.getElem?_eq_getElem (by omega)]; rfl) (by rw [e3]; exact hq))
    obtain ⟨l1, hl1, hcc1, hn1, _, hR1⟩ := arg_ints hl hi hc1 hb1 t1 w2
    obtain ⟨l2, hl2, hcc2, hn2, hs2, hR2⟩ := arg_strs htt hS hc2 hb2 t2 w3
    exact ⟨⟨k, m, a1, n1, c1, a2, n2, c2, l1, l2⟩, rfl, ⟨hl1, hl2, by show n1 ≤ _; omega, by show n2 ≤ _; omega, hs2, hR1, hR2, lit_i64 hwk, lit_i64 hwm⟩⟩
end
end Go.Proofs.YtnakneabfnphkaaDoor
