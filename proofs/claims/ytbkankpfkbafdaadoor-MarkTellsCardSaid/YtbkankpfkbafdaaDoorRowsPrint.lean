/- A fingerprint by value, as an argument. -/
import Derived.Test.YtbkankpfkbafdaaDoorRows0
import Derived.Lib.SmallJoins
namespace Go.Proofs.YtbkankpfkbafdaaDoor
open Go.Joins Go.ChangeShapes Go.WideShapes Go.RowKit Go.Deep
set_option linter.unusedVariables false
theorem arg_print {H : Type} {enc : TypeId × Value → H} {P : Program} {w : World} {r : Reach} {b0 : Nat} {t ti ts : TypeId} {f0 f1 : Field} {v : Value} {d : DataW H} {p : List MemPlace} (hs : P.underlying t = some (.struct #[f0, f1])) (hone : oneCellFields P #[f0, f1] = true) (hC : P.cellsOf t = 2)
    (hi : P.underlying ti = some (.int .i64)) (hS : P.underlying ts = some .string) (hf : (f0.type == ti && f1.type == ts) = true)
    (hv : Value.okWide P w r b0 t v) (h : DataW.Trod enc P w 0 (fun _ => true) true t v d p) :
    ∃ (a : Int) (s : ByteArray), v = .agg #[.int .i64 a, .string s] ∧ (-9223372036854775808 ≤ a ∧ a ≤ 9223372036854775807) := by
  obtain ⟨v0, v1, y0, y1, n, rfl, _, _, h0, h1⟩ := open_agg2 hs hone hC hv h
  simp only [Bool.and_eq_true, beq_iff_eq] at hf
  rw [hf.1] at h0
  rw [hf.2] at h1
  obtain ⟨a, e0, _, ha⟩ := DataW.trod_int hi h0
  obtain ⟨s, e1, _⟩ := DataW.trod_string hS h1
  simp at e0 e1
  subst e0 e1
  exact ⟨a, s, rfl, lit_i64 ha⟩
end Go.Proofs.YtbkankpfkbafdaaDoor
