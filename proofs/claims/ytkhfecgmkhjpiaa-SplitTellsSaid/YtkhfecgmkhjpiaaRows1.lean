/- A struct whose fields are all numbers, by value, as an argument. -/
import Derived.Test.YtkhfecgmkhjpiaaRows0
import Derived.Lib.SmallJoins
namespace Go.Proofs.Ytkhfecgmkhjpiaa
open Go.Joins Go.ChangeShapes Go.WideShapes Go.RowKit Go.Deep
set_option linter.unusedVariables false
section
variable {H : Type} {enc : TypeId × Value → H} {P : Program} {w : World}
/-- Every cell of it is a number. -/
theorem arg_nums {r : Reach} {b0 : Nat} {t ti : TypeId} {fs : Array Field} {v : Value} {d : DataW H} {p : List MemPlace} (hs : P.underlying t = some (.struct fs)) (hone : oneCellFields P fs = true) (hC : P.cellsOf t = fs.size)
    (hi : P.underlying ti = some (.int .i64)) (hf : ∀ f ∈ fs, f.type = ti) (hv : Value.okWide P w r b0 t v) (h : DataW.Trod enc P w 0 (fun _ => true) true t v d p) :
    ∃ l : List Int, l.length = fs.size ∧ v = .agg (l.map (Value.int .i64)).toArray ∧ ∀ x ∈ l, -9223372036854775808 ≤ x ∧ x ≤ 9223372036854775807 := by
  obtain ⟨cs, rfl, hsz⟩ := okWide_struct hs hv
  rw [hC] at hsz
  obtain ⟨fuel, hf0⟩ := h
  obtain ⟨ys, n, _, _, _, hlen, hg⟩ := DataW.trod_struct hs hf0
  have key : ∀ j : Fin fs.size, ∃ a : Int, cs[j]'(by omega) = .int .i64 a ∧ (-9223372036854775808 ≤ a ∧ a ≤ 9223372036854775807) := by
    intro j
    have hj : fs[j.val]? = some fs[j] := by simp
    obtain ⟨ho, hk⟩ := hone_of hone j.val fs[j] hj
    have h1 := hg j.val fs[j] hj
    rw [ho, hk, hf fs[j] (by simp)] at h1
    have e : ((Value.agg cs).cells.toList.drop j.val).take 1 = [cs[j]'(by omega)] := by
      simp only [Value.cells]
      rw [List.drop_eq_getElem_cons (by simp; omega)]
      simp
    rw [e] at h1
    obtain ⟨a, e2, _, hw⟩ := DataW.trod_int hi (h1.trans (List.getElem?_eq_getElem (by omega)))
    injection e2 with e2
    exact ⟨a, e2, lit_i64 hw⟩
  have pick := fun j => (key j).choose_spec
  refine ⟨List.ofFn fun j => (key j).choose, by simp, ?_, ?_⟩
  · congr 1
    apply Array.ext
    · simp [hsz]
    · intro i h1 h2
      have := (pick ⟨i, by omega⟩).1
      simpa using this
  · intro x hx
    obtain ⟨j, rfl⟩ := List.mem_ofFn.1 hx
    exact (pick j).2
theorem arg_five {r : Reach} {b0 : Nat} {t ti : TypeId} {f0 f1 f2 f3 f4 : Field} {v : Value} {d : DataW H} {p : List MemPlace} (hs : P.underlying t = some (.struct #[f0, f1, f2, f3, f4])) (hone : oneCellFields P #[f0, f1, f2, f3, f4] = true) (hC : P.cellsOf t = 5)
    (hi : P.underlying ti = some (.int .i64)) (hf : (f0.type == ti && f1.type == ti && f2.type == ti && f3.type == ti && f4.type == ti) = true)
    (hv : Value.okWide P w r b0 t v) (h : DataW.Trod enc P w 0 (fun _ => true) true t v d p) :
    ∃ a b c g s : Int, v = .agg #[.int .i64 a, .int .i64 b, .int .i64 c, .int .i64 g, .int .i64 s] ∧ (-9223372036854775808 ≤ a ∧ a ≤ 9223372036854775807) ∧ (-9223372036854775808 ≤ b ∧ b ≤ 9223372036854775807) ∧ (-9223372036854775808 ≤ c ∧ c ≤ 9223372036854775807) ∧ (-9223372036854775808 ≤ g ∧ g ≤ 9223372036854775807) ∧ (-9223372036854775808 ≤ s ∧ s ≤ 9223372036854775807) := by
  obtain ⟨l, hl, rfl, hr⟩ := arg_nums hs hone hC hi (by simp at hf ⊢; simp [hf]) hv h
  match l, hl with
  | [a, b, c, g, s], _ => exact ⟨a, b, c, g, s, by simp, hr a (by simp), hr b (by simp), hr c (by simp), hr g (by simp), hr s (by simp)⟩
end
end Go.Proofs.Ytkhfecgmkhjpiaa
