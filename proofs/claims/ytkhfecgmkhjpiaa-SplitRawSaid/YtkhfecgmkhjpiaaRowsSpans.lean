/- A list of spans (structs of two numbers) that came in. -/
import Derived.Test.YtkhfecgmkhjpiaaRows0
import Derived.Lib.SmallJoins
import Derived.Deep.Fields
namespace Go.Proofs.Ytkhfecgmkhjpiaa
open Go.ChangeShapes Go.WideShapes Go.ChangeAt Go.RowKit
open Go.Joins Go.Deep
set_option linter.unusedVariables false
section
variable {H : Type} {enc : TypeId × Value → H} {P : Program} {W : World}
theorem trod_part {fs : Array Field} {n : Nat} {cs : List Value} {xs : List (DataW H × List MemPlace)} (hone : oneCellFields P fs = true)
    (hg : ∀ (i : Nat) (f : Field), fs[i]? = some f → DataW.trod enc P W 0 (fun _ => true) true n f.type ((cs.drop f.offset).take (P.cellsOf f.type)) = xs[i]?)
    {i : Nat} {f : Field} {u : Value} (hi : fs[i]? = some f) (hu : cs[i]? = some u) : DataW.trod enc P W 0 (fun _ => true) true n f.type [u] = xs[i]? := by
  obtain ⟨ho, hk⟩ := hone_of hone i f hi
  have h1 := hg i f hi
  rw [ho, hk] at h1
  have e : (cs.drop i).take 1 = [u] := by
    obtain ⟨hlt, rfl⟩ := List.getElem?_eq_some_iff.1 hu
    rw [List.drop_eq_getElem_cons hlt, List.take_succ_cons, List.take_zero]
  rwa [e] at h1
theorem arg_spans {t e ti : TypeId} {f0 f1 : Field} (ht : P.underlying t = some (.slice e)) (hs : P.underlying e = some (.struct #[f0, f1])) (hone : oneCellFields P #[f0, f1] = true) (hC : P.cellsOf e = 2)
    (hf : (f0.type == ti && f1.type == ti) = true) (hi : P.underlying ti = some (.int .i64)) {B : Nat} (hB : P.bytesOf e = B)
    {a : Option Addr} {len cap : Nat} {d : DataW H} {ps : List MemPlace} (h : DataW.Trod enc P W 0 (fun _ => true) true t (.slice a len cap) d ps) (hw : ∀ n ∈ d.weights P t, n ≤ 140737488351232) :
    ∃ l : List (Int × Int), l.length = len ∧ len ≤ cap ∧ len * B ≤ 140737488351232 ∧ (∀ p ∈ l, (-9223372036854775808 ≤ p.1 ∧ p.1 ≤ 9223372036854775807) ∧ -9223372036854775808 ≤ p.2 ∧ p.2 ≤ 9223372036854775807) ∧ RowAt W a (pcells l) := by
  simp only [Bool.and_eq_true, beq_iff_eq] at hf
  obtain ⟨e0, e1⟩ := hf
  rw [← hB]
  refine arg_slice (fun p : Int × Int => [.int .i64 p.1, .int .i64 p.2]) (fun p => (-9223372036854775808 ≤ p.1 ∧ p.1 ≤ 9223372036854775807) ∧ -9223372036854775808 ≤ p.2 ∧ p.2 ≤ 9223372036854775807) ht hC (fun _ => rfl) (fun fuel cs y hy _ => ?_) h hw
  obtain ⟨xs, n, _, rfl, hlen, hxl, hg⟩ := DataW.trod_struct hs hy
  rw [hC] at hlen
  match cs, hlen with
  | [u0, u1], _ =>
    have g0 : DataW.trod enc P W 0 (fun _ => true) true n f0.type [u0] = xs[0]? := trod_part hone hg (i := 0) (u := u0) rfl rfl
    have g1 : DataW.trod enc P W 0 (fun _ => true) true n f1.type [u1] = xs[1]? := trod_part hone hg (i := 1) (u := u1) rfl rfl
    simp at hxl
    rw [List.getElem?_eq_getElem (by omega)] at g0 g1
    rw [e0] at g0
    rw [e1] at g1
    obtain ⟨k, h1, _, hwk⟩ := DataW.trod_int hi g0
    obtain ⟨m, h2, _, hwm⟩ := DataW.trod_int hi g1
    simp at h1 h2
    subst h1 h2
    exact ⟨(k, m), rfl, lit_i64 hwk, lit_i64 hwm⟩
end
end Go.Proofs.Ytkhfecgmkhjpiaa
