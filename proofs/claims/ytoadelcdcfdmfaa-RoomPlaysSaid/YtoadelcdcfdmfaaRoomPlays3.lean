/- RoomPlays, whatever comes in. -/
import Derived.Test.YtoadelcdcfdmfaaRoomPlays2
namespace Go.Proofs.Ytoadelcdcfdmfaa
open Go.RowKit
set_option linter.unusedVariables false

theorem roomPlays_calls (n : Int) (A : Option Addr) (nu cu : Nat) (lu : List Int) (B : Option Addr) (nl cl : Nat) (lo : List ActV) (at_ : Int) (b : ByteArray) (own : Bool) (w : World)
    (hn : -9223372036854775808 ≤ n ∧ n ≤ 9223372036854775807) (hlu : lu.length = nu) (hcu : nu ≤ cu) (_hnu : nu * 8 ≤ 140737488351232) (hs : ∀ x ∈ lu, -9223372036854775808 ≤ x ∧ x ≤ 9223372036854775807) (hR : RowAt w A (icells lu))
    (hlo : lo.length = nl) (_hcl : nl ≤ cl) (_hnl : nl * 32 ≤ 140737488351232) (hG : ∀ o ∈ lo, o.Good w) (hL : RowAt w B (lo.flatMap ActV.cells))
    (hat : -9223372036854775808 ≤ at_ ∧ at_ ≤ 9223372036854775807) (_hb : b.size ≤ 140737488351232) :
    Calls Try.prog 3 #[.int .i64 n, .slice A nu cu, .slice B nl cl, .int .i64 at_, .string b, .bool own] w fun e w' => e = .returned (.bool true) ∧ Below w.heap.size w w' := by
  by_cases h : 300 < nu ∨ 60 < nl ∨ 300 < b.size
  · exact roomPlays_much n A nu cu lu B nl cl at_ b own w h
  by_cases hbad : badN n lu
  · exact roomPlays_bad n A nu cu lu B nl cl at_ b own w hn hlu hcu hR hs (by omega) (by omega) (by omega) hbad
  have hg : (1 ≤ n ∧ n ≤ 1900) ∧ ∀ x ∈ lu, 0 ≤ x ∧ x < n := by
    refine ⟨Decidable.byContradiction fun h => hbad (.inl h), fun x hx => Decidable.byContradiction fun h => hbad (.inr ⟨x, hx, h⟩)⟩
  obtain ⟨⟨n1, n2⟩, hin⟩ := hg
  obtain ⟨N, rfl⟩ : ∃ N : Nat, n = (N : Int) := ⟨n.toNat, by omega⟩
  exact roomPlays_good N A nu cu lu B nl cl lo at_ b own w (by omega) (by omega) hlu hcu hR hin hlo hG hL hat (by omega) (by omega) (by omega)
end Go.Proofs.Ytoadelcdcfdmfaa
