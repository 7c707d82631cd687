/- A list of masonrylaw10.Op that came in. -/
import Derived.Test.YtoadelcdcfdmfaaRows0
import Derived.Test.YtoadelcdcfdmfaaRoomPlay0
import Derived.Lib.SmallJoins
import Derived.Deep.Fields
namespace Go.Proofs.Ytoadelcdcfdmfaa
open Go.ChangeShapes Go.WideShapes Go.ChangeAt Go.RowKit
open Go.Joins Go.Deep
set_option linter.unusedVariables false
section
variable {H : Type} {enc : TypeId × Value → H} {P : Program} {W : World}
theorem trod_field10 {fs : Array Field} {n : Nat} {cs : List Value} {xs : List (DataW H × List MemPlace)} (hone : oneCellFields P fs = true)
    (hg : ∀ (i : Nat) (f : Field), fs[i]? = some f → DataW.trod enc P W 0 (fun _ => true) true n f.type ((cs.drop f.offset).take (P.cellsOf f.type)) = xs[i]?)
    {i : Nat} {f : Field} {u : Value} (hi : fs[i]? = some f) (hu : cs[i]? = some u) : DataW.trod enc P W 0 (fun _ => true) true n f.type [u] = xs[i]? := by
  obtain ⟨ho, hk⟩ := hone_of hone i f hi
  have h1 := hg i f hi
  rw [ho, hk] at h1
  have e : (cs.drop i).take 1 = [u] := by
    obtain ⟨hlt, rfl⟩ := List.getElem?_eq_some_iff.1 hu
    rw [List.drop_eq_getElem_cons hlt, List.take_succ_cons, List.take_zero]
  rwa [e] at h1
theorem trod_slice10 {t e : TypeId} {n : Nat} {u : Value} {y : DataW H × List MemPlace} (ht : P.underlying t = some (.slice e)) (h : DataW.trod enc P W 0 (fun _ => true) true n t [u] = some y) :
    ∃ a len cap, u = .slice a len cap ∧ DataW.Trod enc P W 0 (fun _ => true) true t (.slice a len cap) y.1 y.2 := by
  rcases open_slice ht h with ⟨hcs, _⟩ | ⟨ad, len', cap', m, n, D, Pl, hcs, _⟩
  · simp at hcs; subst hcs; exact ⟨none, 0, 0, rfl, _, h⟩
  · simp at hcs; subst hcs; exact ⟨some ad, len', cap', rfl, _, h⟩
theorem weights_part10 {e : TypeId} {fs : Array Field} (hs : P.underlying e = some (.struct fs)) {xs : List (DataW H)} {i : Nat} {f : Field} {d : DataW H} (hf : fs[i]? = some f) (hx : xs[i]? = some d) {n : Nat} (hn : n ∈ d.weights P f.type) : n ∈ DataW.weights P e (.agg xs) := by
  simp only [DataW.weights, hs]
  exact DataW.weights_mem_each (show (fs.toList.map (·.type))[i]? = some f.type by rw [List.getElem?_map, Array.getElem?_toList, hf]; rfl) hx n hn

theorem arg_acts10 {t e ti tl : TypeId} {f0 f1 : Field} (ht : P.underlying t = some (.slice e)) (hs : P.underlying e = some (.struct #[f0, f1])) (hone : oneCellFields P #[f0, f1] = true) (hC : P.cellsOf e = 2)
    (hf : (f0.type == ti && f1.type == tl) = true) (hi : P.underlying ti = some (.int .i64)) (hl : P.underlying tl = some (.slice ti))
    (hc1 : P.cellsOf ti = 1) (hb1 : P.bytesOf ti = 8) {B : Nat} (hB : P.bytesOf e = B)
    {a : Option Addr} {len cap : Nat} {d : DataW H} {ps : List MemPlace} (h : DataW.Trod enc P W 0 (fun _ => true) true t (.slice a len cap) d ps) (hw : ∀ n ∈ d.weights P t, n ≤ 140737488351232) :
    ∃ l : List ActV, l.length = len ∧ len ≤ cap ∧ len * B ≤ 140737488351232 ∧ (∀ x ∈ l, x.Good W) ∧ RowAt W a (l.flatMap ActV.cells) := by
  simp only [Bool.and_eq_true, beq_iff_eq] at hf
  obtain ⟨e0, e1⟩ := hf
  rw [← hB]
  refine arg_slice ActV.cells (fun x => x.Good W) ht hC ActV.two (fun fuel cs y hy hwy => ?_) h hw
  obtain ⟨xs, n, _, rfl, hlen, hxl, hg⟩ := DataW.trod_struct hs hy
  rw [hC] at hlen
  match cs, hlen with
  | [u0, u1], _ =>
    have g0 : DataW.trod enc P W 0 (fun _ => true) true n f0.type [u0] = xs[0]? := trod_field10 hone hg (i := 0) (u := u0) rfl rfl
    have g1 : DataW.trod enc P W 0 (fun _ => true) true n f1.type [u1] = xs[1]? := trod_field10 hone hg (i := 1) (u := u1) rfl rfl
    simp at hxl
    rw [List.getElem?_eq_getElem (by omega)] at g0 g1
    rw [e0] at g0
    rw [e1] at g1
    obtain ⟨k, h1, _, hwk⟩ := DataW.trod_int hi g0
    simp at h1
    subst h1
    obtain ⟨a1, n1, c1, rfl, t1⟩ := trod_slice10 hl g1
    have w1 : ∀ q ∈ (xs[1].1).weights P tl, q ≤ 140737488351232 := fun q hq => hwy q (weights_part10 (f := f1) hs (i := 1) rfl (by rw [List.getElem?_map, List.getElem?_eq_getElem (by omega)]; rfl) (by rw [e1]; exact hq))
    obtain ⟨l1, hl1, hcc1, hn1, hs1, hR1⟩ := arg_ints hl hi hc1 hb1 t1 w1
    exact ⟨⟨k, a1, n1, c1, l1⟩, rfl, ⟨hl1, hn1, hR1, hs1, lit_i64 hwk⟩⟩
end
end Go.Proofs.Ytoadelcdcfdmfaa
