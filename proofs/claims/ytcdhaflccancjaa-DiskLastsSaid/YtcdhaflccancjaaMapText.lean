/- A map of texts by number that the call itself has made. -/
import Derived.Test.YtcdhaflccancjaaTouch
import Derived.Maps.StringElems
namespace Go.Proofs.Ytcdhaflccancjaa
open Go.RowKit Go.Maps

structure MapIs (P : Program) (k e : TypeId) (w : World) (b n : Nat) (f : Nat → Option ByteArray) : Prop where
  ex : ∃ D : DataW Unit, w.ownsMap P k (plainElem P e) b n D ∧ ∀ y : Nat, Maps.has D (.int .i64 (y : Int)) = (f y).isSome ∧ D.atKey (.int .i64 (y : Int)) (.lit (.string [])) = .lit (.string ((f y).getD ByteArray.empty).data.toList)
section
variable {P : Program} {t k e : TypeId} {w w' : World} {b n : Nat} {f : Nat → Option ByteArray}
theorem MapIs.made (w : World) : MapIs P k e (w.alloc (.map #[] 0)) w.heap.size 0 (fun _ => none) :=
  ⟨.map [], World.ownsMap_made w P k _, fun _ => ⟨rfl, rfl⟩⟩
theorem MapIs.lt (h : MapIs P k e w b n f) : b < w.heap.size := h.ex.elim fun _ h => h.1.lt
theorem MapIs.kept (h : MapIs P k e w b n f) (hb : w'.heap[b]? = w.heap[b]?) : MapIs P k e w' b n f := by
  obtain ⟨D, ⟨es, clock, h1, h2⟩, h3⟩ := h
  exact ⟨D, ⟨es, clock, hb.trans h1, h2⟩, h3⟩
theorem MapIs.touched {bs : List Nat} (h : MapIs P k e w b n f) (hT : Touched w w' bs) (hb : b ∉ bs) : MapIs P k e w' b n f := h.kept (hT.block b h.lt hb)
theorem MapIs.put (h : MapIs P k e w b n f) (ht : P.underlying t = some (.map k e)) (hk : P.underlying k = some (.int .i64)) (he : P.underlying e = some .string) (hn : n < maxLen) (y : Nat) (hy : y < 9223372036854775808) (s : ByteArray) (hs : s.size ≤ maxLen) :
    ∃ w', (Instr.mapUpdate t (.map (some b)) (.int .i64 (y : Int)) (.string s)).run P w = .ok () w' ∧ MapIs P k e w' b (n + 1) (fun i => if i = y then some s else f i) ∧ Touched w w' [b] := by
  obtain ⟨D, h1, h2⟩ := h
  have hw : (Lit.int .i64 (y : Int)).wf = true := by simp [Lit.wf, IntKind.min, IntKind.max, IntKind.signed, IntKind.bits]; omega
  have hkl : WideAt.IsKeyLit (.int .i64 (y : Int)) := by simp [WideAt.IsKeyLit]
  obtain ⟨w', r1, r2, r3⟩ := h1.update (int_keyed hk) ht hn (keyOf_int_mk hk hw) (plainElem_string he hs)
  refine ⟨w', r1, ⟨_, r2, fun i => ?_⟩, Touched.of_grown r3⟩
  by_cases hi : i = y
  · subst hi
    rw [has_put_same h1.isMap hkl, atKey_put_same h1.isMap hkl]
    simp
  · have hne : (Lit.int .i64 (i : Int)) ≠ .int .i64 (y : Int) := by intro h; injection h with _ h; omega
    rw [has_put_other hne, atKey_put_other hne]
    simpa [hi] using h2 i
theorem MapIs.look (h : MapIs P k e w b n f) (ht : P.underlying t = some (.map k e)) (hk : P.underlying k = some (.int .i64)) (he : P.underlying e = some .string) (hz : (zeroValue e).run P w = .ok (.string ByteArray.empty) w) (y : Nat) (hy : y < 9223372036854775808) :
    (Instr.lookup t (.map (some b)) (.int .i64 (y : Int)) true).run P w = .ok (.tuple #[.string ((f y).getD ByteArray.empty), .bool (f y).isSome]) w := by
  obtain ⟨D, h1, h2⟩ := h
  have hw : (Lit.int .i64 (y : Int)).wf = true := by simp [Lit.wf, IntKind.min, IntKind.max, IntKind.signed, IntKind.bits]; omega
  obtain ⟨v, ps, r1, r2⟩ := h1.look_ok (int_keyed hk) ht hz (plainElem_string he (s := ByteArray.empty) (by decide)) (keyOf_int_mk hk hw)
  obtain ⟨s, rfl, hs, _⟩ := plainElem_string_inv he r2
  rw [r1, (h2 y).1]
  have e1 : D.atKey (.int .i64 (y : Int)) (.lit (.string ByteArray.empty.data.toList)) = .lit (.string s.data.toList) := congrArg Prod.fst hs
  rw [show ByteArray.empty.data.toList = [] from rfl, (h2 y).2] at e1
  have e2 : ((f y).getD ByteArray.empty).data.toList = s.data.toList := by injection e1 with e1; injection e1
  have e3 : (f y).getD ByteArray.empty = s := ByteArray.ext (Array.toList_inj.mp e2)
  rw [e3]
end
end Go.Proofs.Ytcdhaflccancjaa
