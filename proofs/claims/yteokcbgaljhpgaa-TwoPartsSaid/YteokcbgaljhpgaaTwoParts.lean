/- TwoParts: wherever a text is cut its digest is the same. -/
import Derived.Test.YteokcbgaljhpgaaTwoLaw0
import Derived.Test.YteokcbgaljhpgaaOwn2
import Derived.Deep.RegionHeld3
namespace Go.Proofs.Yteokcbgaljhpgaa
open Go.RowKit

theorem rowAt_alloc_k (w : World) (cs : List Value) (t : TypeId) {k : Nat} (hk : k = w.heap.size) : RowAt (w.alloc (.cells cs.toArray t)) (some ⟨k, 0, none⟩) cs := by
  subst hk
  exact rowAt_alloc w cs t
theorem sum2_calls (l : List ByteArray) (cs : List Value) (n k : Nat) (W : World) (hl : l.length = n) (hn : n ≤ 1000) (hs : totalLen l ≤ 1000000) (hR : RowAt W (some ⟨k, 0, none⟩) cs) (hcs : scells l = cs) :
    Calls Try.prog 36 #[.slice (some ⟨k, 0, none⟩) n n] W fun e w' => e = .returned (.string (sum2B l)) ∧ Below W.heap.size W w' :=
  twoSum_calls _ n n l _ hl (Nat.le_refl _) (by omega) hs (by rw [hcs]; exact hR)

theorem bel_alloc {w W : World} (h : Below w.heap.size w W) (o : Obj) : Below w.heap.size w (W.alloc o) := h.alloc h.size o
theorem bel_drew {w W : World} (h : Below w.heap.size w W) : Below w.heap.size w W.drew := ⟨h.os, h.tape, h.output, h.size, h.block⟩
theorem bel_calls {w W w' : World} (h : Below w.heap.size w W) (k : Below W.heap.size W w') : Below w.heap.size w w' := below_trans' h k
theorem row_drew {w : World} {A : Option Addr} {cs : List Value} (h : RowAt w A cs) : RowAt w.drew A cs := h

set_option maxHeartbeats 20000000 in
set_option maxRecDepth 100000 in
theorem twoParts_calls (s : ByteArray) (at_ : Int) (w : World) (_hs : s.size ≤ 140737488351232) (_ha : -9223372036854775808 ≤ at_ ∧ at_ ≤ 9223372036854775807) :
    Calls Try.prog 12 #[.string s, .int .i64 at_] w fun e w' => e = .returned (.bool true) ∧ Below w.heap.size w w' := by
  by_cases hg : s.size ≤ 800 ∧ 0 ≤ at_
  case neg =>
    have key : ¬ s.size ≤ 800 ∨ (s.size ≤ 800 ∧ ¬ 0 ≤ at_) := by omega
    clear hg
    rcases key with h1 | ⟨h1, h2⟩
    all_goals
      go_enter Try.func12, Try.ntmps12
      go_wp2_with fail
      refine (twoAlive_calls _).mono ?_
      rintro e w1 ⟨rfl, hb1⟩
      go_wp2
      go_ret
      exact ⟨rfl, hb1⟩
  obtain ⟨g1, g2⟩ := hg
  obtain ⟨a, rfl⟩ : ∃ a : Nat, at_ = (a : Int) := ⟨at_.toNat, by omega⟩
  obtain ⟨k, hk⟩ : ∃ k, a % (s.size + 1) = k := ⟨_, rfl⟩
  have hki : (a : Int) % ((s.size : Int) + 1) = (k : Int) := by rw [← hk]; simp
  have hks : k ≤ s.size := by have := Nat.mod_lt a (show 0 < s.size + 1 by omega); omega
  have k1 : (0 : Int) ≤ (k : Int) := by omega
  have k2 : (k : Int) ≤ (s.size : Int) := by omega
  have hxy : s.extract 0 k ++ s.extract k s.size = s := by rw [ByteArray.extract_append_extract]; simp; try omega
  have hsz := congrArg ByteArray.size hxy
  rw [ByteArray.size_append] at hsz
  obtain ⟨x, hx⟩ : ∃ x, s.extract 0 k = x := ⟨_, rfl⟩
  obtain ⟨y, hy⟩ : ∃ y, s.extract k s.size = y := ⟨_, rfl⟩
  have e0 : (⟨#[]⟩ : ByteArray) = ByteArray.empty := rfl
  rw [hx, hy] at hxy hsz
  have j1 : sum2B [s] = sum2B [x, y] := by rw [sum2B, sum2B, ← hxy]; simp [joinB]
  have j2 : sum2B [x, ⟨#[]⟩, y] = sum2B [x, y] := by rw [sum2B, sum2B, e0]; simp [joinB]
  obtain ⟨d, hd⟩ : ∃ d, sum2B [x, y] = d := ⟨_, rfl⟩
  have C1 : Box _ := ⟨fun k W h => sum2_calls [s] [.string s] 1 k W rfl (by omega) (by simp [totalLen]; omega) h rfl⟩
  have C2 : Box _ := ⟨fun k W h => sum2_calls [x, y] [.string x, .string y] 2 k W rfl (by omega) (by simp [totalLen]; omega) h rfl⟩
  have e00 : ((⟨#[]⟩ : ByteArray).size : Int) = 0 := rfl
  have C3 : Box _ := ⟨fun k W h => sum2_calls [x, ⟨#[]⟩, y] [.string x, .string ⟨#[]⟩, .string y] 3 k W rfl (by omega) (by simp only [totalLen, List.map_cons, List.map_nil, List.sum_cons, List.sum_nil, e00]; omega) h rfl⟩
  rw [j1] at C1
  rw [j2] at C3
  rw [hd] at C1 C2 C3
  have C : Box (∀ n k W, (n = 1 ∧ RowAt W (some ⟨k, 0, none⟩) [.string s]) ∨ (n = 2 ∧ RowAt W (some ⟨k, 0, none⟩) [.string x, .string y]) ∨ (n = 3 ∧ RowAt W (some ⟨k, 0, none⟩) [.string x, .string ⟨#[]⟩, .string y]) →
      Calls Try.prog 36 #[.slice (some ⟨k, 0, none⟩) n n] W fun e w' => e = .returned (.string d) ∧ Below W.heap.size W w') := ⟨by
    rintro n k W (⟨rfl, h⟩ | ⟨rfl, h⟩ | ⟨rfl, h⟩)
    · exact C1.out k W h
    · exact C2.out k W h
    · exact C3.out k W h⟩
  clear C1 C2 C3
  clear hk j1 j2 hd hxy hsz e0 e00
  go_enter Try.func12, Try.ntmps12
  go_wp2_with fail
  refine (twoAlive_calls _).mono ?_
  rintro e w1 ⟨rfl, hb1⟩
  have T : Box _ := ⟨hb1⟩; clear hb1
  go_wp2_with fail
  go_region_held3 (fun _ => True) (trivial)
    ((go_at_call 36; (try rw [hx]); (try rw [hy]); refine (C.out _ _ _ (by first | exact .inl ⟨rfl, by with_reducible repeat' (first | exact rowAt_alloc_k _ _ _ rfl | exact rowAt_alloc_k _ _ _ (by simp) | apply row_drew | apply RowAt.alloc | refine RowAt.below ?_ H.out)⟩ | exact .inr (.inl ⟨rfl, by with_reducible repeat' (first | exact rowAt_alloc_k _ _ _ rfl | exact rowAt_alloc_k _ _ _ (by simp) | apply row_drew | apply RowAt.alloc | refine RowAt.below ?_ H.out)⟩) | exact .inr (.inr ⟨rfl, by with_reducible repeat' (first | exact rowAt_alloc_k _ _ _ rfl | exact rowAt_alloc_k _ _ _ (by simp) | apply row_drew | apply RowAt.alloc | refine RowAt.below ?_ H.out)⟩))).mono ?_; rintro e w2 ⟨rfl, hb⟩; have T2 : Box (Below w.heap.size w w2) := ⟨bel_calls (by with_reducible repeat' (first | exact T.out | apply bel_drew | apply bel_alloc)) hb⟩; have H : Box _ := ⟨hb⟩; clear hb; clear T; rename Box (Below w.heap.size w w2) => T))
  all_goals
    go_wp2_with fail
    go_ret
    exact ⟨rfl, T.out⟩
end Go.Proofs.Yteokcbgaljhpgaa
