/- bits.Out: End. -/
import Derived.Test.YteokcbgaljhpgaaBits
namespace Go.Proofs.Yteokcbgaljhpgaa
open Go.RowKit

theorem outEnd_calls (g : Nat) (v : Value) (l : List UInt8) (w : World) (hO : OutAt w g v l) :
    Calls Try.prog 63 #[.pointer (some ⟨g, 0, none⟩)] w fun e w' => e = .returned (.tuple #[.string ⟨l.toArray⟩, .int .i64 0]) ∧ Below w.heap.size w w' := by
  obtain ⟨a0, ca, rfl, _, hr, _⟩ := (Own.of_row hO.own).slice
  have k0 := hO.c0
  have k1 := hO.c1
  have hcv := bytes_str Try.prog 39 5 9 Try.underlying39 Try.underlying5 Try.underlying9 a0 l.length ca l w rfl hr
  clear hr hO
  go_enter Try.func63, Try.ntmps63
  go_wp2
  go_ret2
  exact ⟨rfl, Below.refl _ _⟩
/-- An error stays. -/
theorem outEnd_err (g : Nat) (x : Int) (hx : x ≠ 0) (w : World) (k1 : w.cell? ⟨g, 1, none⟩ = some (.int .i64 x)) :
    Calls Try.prog 63 #[.pointer (some ⟨g, 0, none⟩)] w fun e w' => e = .returned (.tuple #[.string ByteArray.empty, .int .i64 x]) ∧ Below w.heap.size w w' := by
  go_enter Try.func63, Try.ntmps63
  go_wp2
  go_quiet (fail)
  go_wp2
  go_ret2
  exact ⟨rfl, below_drewN (Below.refl _ _) _⟩
end Go.Proofs.Yteokcbgaljhpgaa
