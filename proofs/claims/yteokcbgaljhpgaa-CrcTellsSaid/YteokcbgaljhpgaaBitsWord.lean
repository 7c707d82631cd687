/- bits.Out: Word; Pad. -/
import Derived.Test.YteokcbgaljhpgaaBitsLay
namespace Go.Proofs.Yteokcbgaljhpgaa
open Go.RowKit

theorem outWord_calls (g : Nat) (v : Value) (l : List UInt8) (A : Option Addr) (c x : Nat) (w : World) (hO : OutAt w g v l) (hx : x < 4294967296) (hsz : l.length ≤ 1000000000) (hR : ∀ w', Touched w w' (g :: v.ownBlock.toList) → RowAt w' A [.int .i64 (x : Int)]) :
    Calls Try.prog 64 #[.pointer (some ⟨g, 0, none⟩), .slice A 1 c] w fun e w' => ∃ v', e = .returned (.pointer (some ⟨g, 0, none⟩)) ∧ OutAt w' g v' (l ++ lowL x 4) ∧ Touched w w' (g :: v.ownBlock.toList) ∧ (∀ b, v'.ownBlock = some b → v.ownBlock = some b ∨ w.heap.size ≤ b) := by
  have H := outLay_calls g v l A c x w hO hx hsz hR
  have HH : Box _ := ⟨H⟩
  clear H hR hO
  go_enter Try.func64, Try.ntmps64
  go_wp2_with fail
  refine HH.out.mono ?_
  rintro e w1 ⟨v1, rfl, h1, h2, h3⟩
  go_wp2_with fail
  go_ret
  exact ⟨v1, rfl, h1, h2, h3⟩
end Go.Proofs.Yteokcbgaljhpgaa
