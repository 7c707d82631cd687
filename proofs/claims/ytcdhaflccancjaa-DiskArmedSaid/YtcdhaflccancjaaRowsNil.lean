/- A nil slice that came in is empty and has no room. -/
import Derived.Test.YtcdhaflccancjaaRows0
import Derived.Test.YtcdhaflccancjaaDiskLib
namespace Go.Proofs.Ytcdhaflccancjaa
open Go.RowKit
open Go.Deep (open_slice)
theorem arg_nil {P : Program} {H : Type} {enc : TypeId × Value → H} {W : World} {t e : TypeId} (ht : P.underlying t = some (.slice e))
    {a : Option Addr} {len cap : Nat} {d : DataW H} {ps : List MemPlace} (h : DataW.Trod enc P W 0 (fun _ => true) true t (.slice a len cap) d ps) : NilOk a len cap := by
  obtain ⟨fuel, hf⟩ := h
  rcases open_slice ht hf with ⟨hcs, _⟩ | ⟨ad, len', cap', m, n, D, Pl, hcs, _, hl, _, hm, hx, hel⟩
  · simp [Value.cells] at hcs
    obtain ⟨rfl, rfl, rfl⟩ := hcs
    exact fun _ => ⟨rfl, rfl⟩
  · simp [Value.cells] at hcs
    obtain ⟨rfl, rfl, rfl⟩ := hcs
    exact fun h => by cases h
end Go.Proofs.Ytcdhaflccancjaa
