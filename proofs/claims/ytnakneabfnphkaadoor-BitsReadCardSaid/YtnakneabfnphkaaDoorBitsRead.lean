/- BitsRead: every bytes, read in every way: what stands there, or the first error. -/
import Derived.Test.YtnakneabfnphkaaDoorRefIn
import Derived.Test.YtnakneabfnphkaaDoorBitsPlain
import Derived.Test.YtnakneabfnphkaaDoorOpIn
namespace Go.Proofs.YtnakneabfnphkaaDoor
open Go.RowKit

/-- The program's reader at g1, the document's at g2: both hold the same. -/
structure InI2 (w0 w : World) (g1 g2 : Nat) (d1 d2 : Int × ByteArray) : Prop where
  at1 : InS w g1 d1.1 d1.2
  at2 : InS w g2 d2.1 d2.2
  ne : g1 ≠ g2
  ge1 : w0.heap.size ≤ g1
  ge2 : w0.heap.size ≤ g2
  bel : Below w0.heap.size w0 w
section
variable {P : Program} {f : FuncId} {args : Array Value} {w0 w w1 : World} {g1 g2 : Nat} {R : Ending} {d1 d2 d : Int × ByteArray}
theorem InI2.swap (h : InI2 w0 w g1 g2 d1 d2) : InI2 w0 w g2 g1 d2 d1 := ⟨h.at2, h.at1, h.ne.symm, h.ge2, h.ge1, h.bel⟩
theorem InI2.below (h : InI2 w0 w g1 g2 d1 d2) (hb : Below w.heap.size w w1) : InI2 w0 w1 g1 g2 d1 d2 := ⟨h.at1.below hb, h.at2.below hb, h.ne, h.ge1, h.ge2, below_trans' h.bel hb⟩
theorem InI2.drew (h : InI2 w0 w g1 g2 d1 d2) : InI2 w0 w.drew g1 g2 d1 d2 := h.below (below_drewN (Below.refl _ _) 1)
theorem InI2.step (h : InI2 w0 w g1 g2 d1 d2) (c : InS w g1 d1.1 d1.2 → Calls P f args w fun r w' => r = R ∧ InS w' g1 d.1 d.2 ∧ Touched w w' [g1]) : Calls P f args w fun r w' => r = R ∧ InI2 w0 w' g1 g2 d d2 :=
  (c h.at1).mono fun r w' ⟨h1, h2, h3⟩ => ⟨h1, h2, h.at2.touched h3 (by have := h.ne; simp; omega), h.ne, h.ge1, h.ge2, h3.below h.bel h.bel.size (by have := h.ge1; simpa using this)⟩
end
section
variable {w0 w : World} {g1 g2 : Nat} {d1 d2 : Int × ByteArray}
theorem inByte_two (h : InI2 w0 w g1 g2 d1 d2) (hs : d1.2.size ≤ 1000000000) :
    Calls Tryd.prog 19 #[.pointer (some ⟨g1, 0, none⟩)] w fun r w' => r = .returned (.int .i64 (lowI d1.1 d1.2 1).1) ∧ InI2 w0 w' g1 g2 (lowI d1.1 d1.2 1).2 d2 :=
  h.step fun hv => inByte_calls g1 d1.1 d1.2 w hv hs
theorem refByte_two (h : InI2 w0 w g1 g2 d1 d2) (hs : d2.2.size ≤ 1000000000) :
    Calls Tryd.prog 20 #[.pointer (some ⟨g2, 0, none⟩), .int .i64 1] w fun r w' => r = .returned (.int .i64 (lowI d2.1 d2.2 1).1) ∧ InI2 w0 w' g1 g2 d1 (lowI d2.1 d2.2 1).2 :=
  (h.swap.step fun hv => refInNum_calls 1 (by omega) g2 d2.1 d2.2 w hv hs).mono fun r w' ⟨h1, h2⟩ => ⟨h1, h2.swap⟩
theorem inHalf_two (h : InI2 w0 w g1 g2 d1 d2) (hs : d1.2.size ≤ 1000000000) :
    Calls Tryd.prog 21 #[.pointer (some ⟨g1, 0, none⟩)] w fun r w' => r = .returned (.int .i64 (lowI d1.1 d1.2 2).1) ∧ InI2 w0 w' g1 g2 (lowI d1.1 d1.2 2).2 d2 :=
  h.step fun hv => inHalf_calls g1 d1.1 d1.2 w hv hs
theorem refHalf_two (h : InI2 w0 w g1 g2 d1 d2) (hs : d2.2.size ≤ 1000000000) :
    Calls Tryd.prog 20 #[.pointer (some ⟨g2, 0, none⟩), .int .i64 2] w fun r w' => r = .returned (.int .i64 (lowI d2.1 d2.2 2).1) ∧ InI2 w0 w' g1 g2 d1 (lowI d2.1 d2.2 2).2 :=
  (h.swap.step fun hv => refInNum_calls 2 (by omega) g2 d2.1 d2.2 w hv hs).mono fun r w' ⟨h1, h2⟩ => ⟨h1, h2.swap⟩
theorem inWord_two (h : InI2 w0 w g1 g2 d1 d2) (hs : d1.2.size ≤ 1000000000) :
    Calls Tryd.prog 22 #[.pointer (some ⟨g1, 0, none⟩)] w fun r w' => r = .returned (.int .i64 (lowI d1.1 d1.2 4).1) ∧ InI2 w0 w' g1 g2 (lowI d1.1 d1.2 4).2 d2 :=
  h.step fun hv => inWord_calls g1 d1.1 d1.2 w hv hs
theorem refWord_two (h : InI2 w0 w g1 g2 d1 d2) (hs : d2.2.size ≤ 1000000000) :
    Calls Tryd.prog 20 #[.pointer (some ⟨g2, 0, none⟩), .int .i64 4] w fun r w' => r = .returned (.int .i64 (lowI d2.1 d2.2 4).1) ∧ InI2 w0 w' g1 g2 d1 (lowI d2.1 d2.2 4).2 :=
  (h.swap.step fun hv => refInNum_calls 4 (by omega) g2 d2.1 d2.2 w hv hs).mono fun r w' ⟨h1, h2⟩ => ⟨h1, h2.swap⟩
theorem inLong_two (h : InI2 w0 w g1 g2 d1 d2) (hs : d1.2.size ≤ 1000000000) :
    Calls Tryd.prog 23 #[.pointer (some ⟨g1, 0, none⟩)] w fun r w' => r = .returned (.int .i64 (lowI d1.1 d1.2 8).1) ∧ InI2 w0 w' g1 g2 (lowI d1.1 d1.2 8).2 d2 :=
  h.step fun hv => inLong_calls g1 d1.1 d1.2 w hv hs
theorem refLong_two (h : InI2 w0 w g1 g2 d1 d2) (hs : d2.2.size ≤ 1000000000) :
    Calls Tryd.prog 20 #[.pointer (some ⟨g2, 0, none⟩), .int .i64 8] w fun r w' => r = .returned (.int .i64 (lowI d2.1 d2.2 8).1) ∧ InI2 w0 w' g1 g2 d1 (lowI d2.1 d2.2 8).2 :=
  (h.swap.step fun hv => refInNum_calls 8 (by omega) g2 d2.1 d2.2 w hv hs).mono fun r w' ⟨h1, h2⟩ => ⟨h1, h2.swap⟩
theorem inText_two (h : InI2 w0 w g1 g2 d1 d2) (hs : d1.2.size ≤ 1000000000) :
    Calls Tryd.prog 24 #[.pointer (some ⟨g1, 0, none⟩)] w fun r w' => r = .returned (.string (textI d1.1 d1.2).1) ∧ InI2 w0 w' g1 g2 (textI d1.1 d1.2).2 d2 :=
  h.step fun hv => inText_calls g1 d1.1 d1.2 w hv hs
theorem refText_two (h : InI2 w0 w g1 g2 d1 d2) (hs : d2.2.size ≤ 1000000000) :
    Calls Tryd.prog 25 #[.pointer (some ⟨g2, 0, none⟩)] w fun r w' => r = .returned (.string (textI d2.1 d2.2).1) ∧ InI2 w0 w' g1 g2 d1 (textI d2.1 d2.2).2 :=
  (h.swap.step fun hv => refText_calls g2 d2.1 d2.2 w hv hs).mono fun r w' ⟨h1, h2⟩ => ⟨h1, h2.swap⟩
theorem inRaw_two (h : InI2 w0 w g1 g2 d1 d2) (n : Int) (hs : d1.2.size ≤ 1000000000) :
    Calls Tryd.prog 26 #[.pointer (some ⟨g1, 0, none⟩), .int .i64 n] w fun r w' => r = .returned (.string (rawI d1.1 d1.2 n).1) ∧ InI2 w0 w' g1 g2 (rawI d1.1 d1.2 n).2 d2 :=
  h.step fun hv => inRaw_calls g1 n d1.1 d1.2 w hv hs
theorem refRaw_two (h : InI2 w0 w g1 g2 d1 d2) (n : Int) (hs : d2.2.size ≤ 1000000000) :
    Calls Tryd.prog 27 #[.pointer (some ⟨g2, 0, none⟩), .int .i64 n] w fun r w' => r = .returned (.string (rawI d2.1 d2.2 n).1) ∧ InI2 w0 w' g1 g2 d1 (rawI d2.1 d2.2 n).2 :=
  (h.swap.step fun hv => refRaw_calls g2 n d2.1 d2.2 w hv hs).mono fun r w' ⟨h1, h2⟩ => ⟨h1, h2.swap⟩
theorem inRest_two (h : InI2 w0 w g1 g2 d1 d2) (hs : d1.2.size ≤ 1000000000) :
    Calls Tryd.prog 30 #[.pointer (some ⟨g1, 0, none⟩)] w fun r w' => r = .returned (.bool (restI d1.1 d1.2)) ∧ InI2 w0 w' g1 g2 d1 d2 :=
  (inRest_calls g1 d1.1 d1.2 w h.at1 hs).mono fun r w' ⟨h1, h2⟩ => ⟨h1, h.below h2⟩
theorem inEnd_two (h : InI2 w0 w g1 g2 d1 d2) (hs : d1.2.size ≤ 1000000000) :
    Calls Tryd.prog 32 #[.pointer (some ⟨g1, 0, none⟩)] w fun r w' => r = .returned (.int .i64 (endI d1.1 d1.2)) ∧ InI2 w0 w' g1 g2 (endI d1.1 d1.2, d1.2) d2 :=
  h.step fun hv => inEnd_calls g1 d1.1 d1.2 w hv hs
theorem refEnd_two (h : InI2 w0 w g1 g2 d1 d2) (hs : d2.2.size ≤ 1000000000) :
    Calls Tryd.prog 33 #[.pointer (some ⟨g2, 0, none⟩)] w fun r w' => r = .returned (.int .i64 (endI d2.1 d2.2)) ∧ InI2 w0 w' g1 g2 d1 (endI d2.1 d2.2, d2.2) :=
  (h.swap.step fun hv => refEnd_calls g2 d2.1 d2.2 w hv hs).mono fun r w' ⟨h1, h2⟩ => ⟨h1, h2.swap⟩
end

set_option maxHeartbeats 6400000 in
set_option maxRecDepth 100000 in
theorem bitsRead_calls (s : ByteArray) (A : Option Addr) (n c : Nat) (l : List OpV) (w : World) (_hs : s.size ≤ 140737488351232) (hl : l.length = n) (_hc : n ≤ c) (hn0 : n * 64 ≤ 140737488351232) (hg : ∀ o ∈ l, o.Good w) (hR : RowAt w A (l.flatMap OpV.cells)) :
    Calls Tryd.prog 5 #[.string s, .slice A n c] w fun e w' => e = .returned (.bool true) ∧ Below w.heap.size w w' := by
  subst hl
  have HL : Box _ := ⟨light_calls A c l w (by omega) hg hR⟩
  have hn : l.length ≤ 140737488351232 := by omega
  clear hn0 _hc
  by_cases hsz : s.size ≤ 2000
  case neg =>
    have h1 : (2000 : Int) < (s.size : Int) := by omega
    clear hsz hR hg
    go_enter Tryd.func5, Tryd.ntmps5
    go_wp2_with fail
    refine (bitsAlive_calls _).mono ?_
    rintro e w1 ⟨rfl, hb1⟩
    go_wp2
    go_ret
    exact ⟨rfl, hb1⟩
  have h1 : decide ((2000 : Int) < (s.size : Int)) = false := decide_eq_false (by omega)
  have HZ : Box (s.size ≤ 2000) := ⟨hsz⟩
  have HR : Box _ := ⟨hR⟩
  have HG : Box _ := ⟨hg⟩
  clear hsz hR hg
  go_enter Tryd.func5, Tryd.ntmps5
  go_wp2_with fail
  refine Calls.mono HL.out ?_
  rintro e w1 ⟨⟨b, rfl⟩, hb1⟩
  have HB1 : Box _ := ⟨hb1⟩
  clear hb1
  cases b
  case false =>
    go_wp2_with fail
    refine (bitsAlive_calls _).mono ?_
    rintro e w2 ⟨rfl, hb2⟩
    have HB2 : Box _ := ⟨below_trans' HB1.out hb2⟩
    clear hb2
    go_wp2
    go_ret
    exact ⟨rfl, HB2.out⟩
  go_wp2_with fail
  refine (bitsAlive_calls _).mono ?_
  rintro e w2 ⟨rfl, hb2⟩
  have HB2 : Box _ := ⟨below_trans' HB1.out hb2⟩
  clear hb2 h1
  go_wp2_with fail
  refine (on_calls s _).mono ?_
  rintro e w3 ⟨rfl, h3, hb3⟩
  obtain ⟨g, hgg⟩ : ∃ g, w2.heap.size = g := ⟨_, rfl⟩
  have hlt := h3.lt
  have HI : Box (InI2 w (w3.alloc (.cells #[.string s, .int .i64 0] 42)) g w3.heap.size (0, s) (0, s)) := ⟨by
    have hb := heap_alloc_new w3 (.cells #[.string s, .int .i64 0] 42)
    rw [hgg] at h3 hlt
    exact ⟨h3.below ((Below.refl _ _).alloc (Nat.le_refl _) _), ⟨cell_of_row _ _ 0 _ _ (0, 0) hb, cell_of_row _ _ 1 _ _ (0, 0) hb, frozen_of_row _ _ 0 _ _ hb, frozen_of_row _ _ 1 _ _ hb⟩, by omega, by rw [← hgg]; exact HB2.out.size, Nat.le_trans HB2.out.size (by rw [hgg]; omega), (below_trans' HB2.out hb3).alloc (below_trans' HB2.out hb3).size _⟩⟩
  rw [hgg]
  obtain ⟨g2, hg2⟩ : ∃ g2, w3.heap.size = g2 := ⟨_, rfl⟩
  rw [hg2] at HI
  clear h3 hb3 hlt
  go_wp2_with fail
  go_loopw [7] (fun i wr => ∃ (k : Nat) (e : Int) (t : ByteArray), k ≤ l.length ∧ i = .int .i64 (k : Int) ∧ t.size ≤ 2000 ∧ Box (InI2 w wr g g2 (e, t) (e, t))) (fun i _ => l.length - (intOf i).toNat)
  case atStart => exact ⟨0, 0, s, by omega, rfl, HZ.out, HI⟩
  case round =>
    obtain ⟨k, e, t, hk, rfl, ht, HI⟩ := hrel
    by_cases hlt : k < l.length
    case neg =>
      obtain rfl : k = l.length := by omega
      have K1 : Box _ := ⟨inEnd_two HI.out (by simp only; omega)⟩
      clear HI hlt
      go_wp2_with fail
      refine Calls.mono K1.out ?_
      rintro r w4 ⟨rfl, h4⟩
      have K2 : Box _ := ⟨refEnd_two h4 (by simp only; omega)⟩
      clear h4
      go_wp2_with fail
      refine Calls.mono K2.out ?_
      rintro r w5 ⟨rfl, h5⟩
      have HB5 : Box _ := ⟨h5.bel⟩
      clear h5
      go_wp2_with fail
      go_ret
      exact ⟨rfl, HB5.out⟩
    obtain ⟨x, hx⟩ := some_at hlt
    obtain ⟨b, o, rfl, hb, Q0, Q1, _, _⟩ := op_at HR.out hx
    have HQ1 : Box _ := ⟨Q1⟩
    have q0 := cell_kept HI.out.bel (Nat.le_refl _) Q0
    clear hx Q0 Q1
    have y1 : (0 : Int) ≤ (k : Int) := by omega
    have y2 : (k : Int) < (l.length : Int) := by omega
    obtain ⟨y, hy⟩ : ∃ y, x.kind = y := ⟨_, rfl⟩
    rw [hy] at q0
    clear hy
    by_cases k1 : y = 1
    case pos =>
      subst k1
      obtain ⟨⟨u, e', t'⟩, hd⟩ : ∃ p, lowI e t 1 = p := ⟨_, rfl⟩
      have hz := lowI_size e t 1
      rw [hd] at hz
      simp only at hz
      have K1 : Box _ := ⟨inByte_two HI.out (by simp only; omega)⟩
      rw [hd] at K1
      have K2 : Box (∀ W, InI2 w W g g2 (e', t') (e, t) → _) := ⟨fun W h => refByte_two h (by simp only; omega)⟩
      rw [hd] at K2
      clear hd HI
      go_wp2_with fail
      refine Calls.mono K1.out ?_
      rintro r w4 ⟨rfl, h4⟩
      have K3 : Box _ := ⟨K2.out _ h4⟩
      clear h4
      go_wp2_with fail
      refine Calls.mono K3.out ?_
      rintro r w5 ⟨rfl, h5⟩
      have HI4 : Box _ := ⟨h5⟩
      clear h5
      have HB4 : Box _ := ⟨HI4.out.bel⟩
      go_wp2_with fail
      refine (inLeft_calls g e' t' _ HI4.out.at1).mono ?_
      rintro r w6 ⟨rfl, rfl⟩
      go_wp2_with fail
      refine (refLeft_calls g2 e' t' _ HI4.out.at2).mono ?_
      rintro r w6 ⟨rfl, rfl⟩
      have K5 : Box _ := ⟨inRest_two HI4.out (by simp only; omega)⟩
      go_wp2_with fail
      refine Calls.mono K5.out ?_
      rintro r w6 ⟨rfl, h6⟩
      have HI6 : Box _ := ⟨h6⟩
      clear h6
      go_wp2_with fail
      refine (refRest_calls g2 e' t' _ HI6.out.at2 (by omega)).mono ?_
      rintro r w7 ⟨rfl, rfl⟩
      go_wp2_with fail
      go_roundw
      case rel => exact ⟨k + 1, e', t', by omega, by go_num, by omega, HI6⟩
      case measure => simp [intOf]; omega
    by_cases k2 : y = 2
    case pos =>
      subst k2
      obtain ⟨⟨u, e', t'⟩, hd⟩ : ∃ p, lowI e t 2 = p := ⟨_, rfl⟩
      have hz := lowI_size e t 2
      rw [hd] at hz
      simp only at hz
      have K1 : Box _ := ⟨inHalf_two HI.out (by simp only; omega)⟩
      rw [hd] at K1
      have K2 : Box (∀ W, InI2 w W g g2 (e', t') (e, t) → _) := ⟨fun W h => refHalf_two h (by simp only; omega)⟩
      rw [hd] at K2
      clear hd HI
      go_wp2_with fail
      refine Calls.mono K1.out ?_
      rintro r w4 ⟨rfl, h4⟩
      have K3 : Box _ := ⟨K2.out _ h4⟩
      clear h4
      go_wp2_with fail
      refine Calls.mono K3.out ?_
      rintro r w5 ⟨rfl, h5⟩
      have HI4 : Box _ := ⟨h5⟩
      clear h5
      have HB4 : Box _ := ⟨HI4.out.bel⟩
      go_wp2_with fail
      refine (inLeft_calls g e' t' _ HI4.out.at1).mono ?_
      rintro r w6 ⟨rfl, rfl⟩
      go_wp2_with fail
      refine (refLeft_calls g2 e' t' _ HI4.out.at2).mono ?_
      rintro r w6 ⟨rfl, rfl⟩
      have K5 : Box _ := ⟨inRest_two HI4.out (by simp only; omega)⟩
      go_wp2_with fail
      refine Calls.mono K5.out ?_
      rintro r w6 ⟨rfl, h6⟩
      have HI6 : Box _ := ⟨h6⟩
      clear h6
      go_wp2_with fail
      refine (refRest_calls g2 e' t' _ HI6.out.at2 (by omega)).mono ?_
      rintro r w7 ⟨rfl, rfl⟩
      go_wp2_with fail
      go_roundw
      case rel => exact ⟨k + 1, e', t', by omega, by go_num, by omega, HI6⟩
      case measure => simp [intOf]; omega
    by_cases k3 : y = 3
    case pos =>
      subst k3
      obtain ⟨⟨u, e', t'⟩, hd⟩ : ∃ p, lowI e t 4 = p := ⟨_, rfl⟩
      have hz := lowI_size e t 4
      rw [hd] at hz
      simp only at hz
      have K1 : Box _ := ⟨inWord_two HI.out (by simp only; omega)⟩
      rw [hd] at K1
      have K2 : Box (∀ W, InI2 w W g g2 (e', t') (e, t) → _) := ⟨fun W h => refWord_two h (by simp only; omega)⟩
      rw [hd] at K2
      clear hd HI
      go_wp2_with fail
      refine Calls.mono K1.out ?_
      rintro r w4 ⟨rfl, h4⟩
      have K3 : Box _ := ⟨K2.out _ h4⟩
      clear h4
      go_wp2_with fail
      refine Calls.mono K3.out ?_
      rintro r w5 ⟨rfl, h5⟩
      have HI4 : Box _ := ⟨h5⟩
      clear h5
      have HB4 : Box _ := ⟨HI4.out.bel⟩
      go_wp2_with fail
      refine (inLeft_calls g e' t' _ HI4.out.at1).mono ?_
      rintro r w6 ⟨rfl, rfl⟩
      go_wp2_with fail
      refine (refLeft_calls g2 e' t' _ HI4.out.at2).mono ?_
      rintro r w6 ⟨rfl, rfl⟩
      have K5 : Box _ := ⟨inRest_two HI4.out (by simp only; omega)⟩
      go_wp2_with fail
      refine Calls.mono K5.out ?_
      rintro r w6 ⟨rfl, h6⟩
      have HI6 : Box _ := ⟨h6⟩
      clear h6
      go_wp2_with fail
      refine (refRest_calls g2 e' t' _ HI6.out.at2 (by omega)).mono ?_
      rintro r w7 ⟨rfl, rfl⟩
      go_wp2_with fail
      go_roundw
      case rel => exact ⟨k + 1, e', t', by omega, by go_num, by omega, HI6⟩
      case measure => simp [intOf]; omega
    by_cases k4 : y = 4
    case pos =>
      subst k4
      obtain ⟨⟨u, e', t'⟩, hd⟩ : ∃ p, lowI e t 8 = p := ⟨_, rfl⟩
      have hz := lowI_size e t 8
      rw [hd] at hz
      simp only at hz
      have K1 : Box _ := ⟨inLong_two HI.out (by simp only; omega)⟩
      rw [hd] at K1
      have K2 : Box (∀ W, InI2 w W g g2 (e', t') (e, t) → _) := ⟨fun W h => refLong_two h (by simp only; omega)⟩
      rw [hd] at K2
      clear hd HI
      go_wp2_with fail
      refine Calls.mono K1.out ?_
      rintro r w4 ⟨rfl, h4⟩
      have K3 : Box _ := ⟨K2.out _ h4⟩
      clear h4
      go_wp2_with fail
      refine Calls.mono K3.out ?_
      rintro r w5 ⟨rfl, h5⟩
      have HI4 : Box _ := ⟨h5⟩
      clear h5
      have HB4 : Box _ := ⟨HI4.out.bel⟩
      go_wp2_with fail
      refine (inLeft_calls g e' t' _ HI4.out.at1).mono ?_
      rintro r w6 ⟨rfl, rfl⟩
      go_wp2_with fail
      refine (refLeft_calls g2 e' t' _ HI4.out.at2).mono ?_
      rintro r w6 ⟨rfl, rfl⟩
      have K5 : Box _ := ⟨inRest_two HI4.out (by simp only; omega)⟩
      go_wp2_with fail
      refine Calls.mono K5.out ?_
      rintro r w6 ⟨rfl, h6⟩
      have HI6 : Box _ := ⟨h6⟩
      clear h6
      go_wp2_with fail
      refine (refRest_calls g2 e' t' _ HI6.out.at2 (by omega)).mono ?_
      rintro r w7 ⟨rfl, rfl⟩
      go_wp2_with fail
      go_roundw
      case rel => exact ⟨k + 1, e', t', by omega, by go_num, by omega, HI6⟩
      case measure => simp [intOf]; omega
    by_cases k5 : y = 5
    case pos =>
      subst k5
      obtain ⟨⟨u, e', t'⟩, hd⟩ : ∃ p, textI e t = p := ⟨_, rfl⟩
      have hz := textI_size' e t
      rw [hd] at hz
      simp only at hz
      have K1 : Box _ := ⟨inText_two HI.out (by simp only; omega)⟩
      rw [hd] at K1
      have K2 : Box (∀ W, InI2 w W g g2 (e', t') (e, t) → _) := ⟨fun W h => refText_two h (by simp only; omega)⟩
      rw [hd] at K2
      clear hd HI
      go_wp2_with fail
      refine Calls.mono K1.out ?_
      rintro r w4 ⟨rfl, h4⟩
      have K3 : Box _ := ⟨K2.out _ h4⟩
      clear h4
      go_wp2_with fail
      refine Calls.mono K3.out ?_
      rintro r w5 ⟨rfl, h5⟩
      have HI4 : Box _ := ⟨h5⟩
      clear h5
      have HB4 : Box _ := ⟨HI4.out.bel⟩
      go_wp2_with fail
      refine (inLeft_calls g e' t' _ HI4.out.at1).mono ?_
      rintro r w6 ⟨rfl, rfl⟩
      go_wp2_with fail
      refine (refLeft_calls g2 e' t' _ HI4.out.at2).mono ?_
      rintro r w6 ⟨rfl, rfl⟩
      have K5 : Box _ := ⟨inRest_two HI4.out (by simp only; omega)⟩
      go_wp2_with fail
      refine Calls.mono K5.out ?_
      rintro r w6 ⟨rfl, h6⟩
      have HI6 : Box _ := ⟨h6⟩
      clear h6
      go_wp2_with fail
      refine (refRest_calls g2 e' t' _ HI6.out.at2 (by omega)).mono ?_
      rintro r w7 ⟨rfl, rfl⟩
      go_wp2_with fail
      go_roundw
      case rel => exact ⟨k + 1, e', t', by omega, by go_num, by omega, HI6⟩
      case measure => simp [intOf]; omega
    have z1 : (y == 1) = false := by simpa using k1
    have z2 : (y == 2) = false := by simpa using k2
    have z3 : (y == 3) = false := by simpa using k3
    have z4 : (y == 4) = false := by simpa using k4
    have z5 : (y == 5) = false := by simpa using k5
    clear k1 k2 k3 k4 k5
    · obtain ⟨m, hm⟩ : ∃ m, x.n = m := ⟨_, rfl⟩
      rw [hm] at HQ1
      clear hm
      have q1 := cell_kept HI.out.bel (Nat.le_refl _) HQ1.out
      obtain ⟨⟨u, e', t'⟩, hd⟩ : ∃ p, rawI e t m = p := ⟨_, rfl⟩
      have hz := (rawI_size e t m).2.1
      rw [hd] at hz
      simp only at hz
      have K1 : Box _ := ⟨inRaw_two HI.out.drew m (by simp only; omega)⟩
      rw [hd] at K1
      have K2 : Box (∀ W, InI2 w W g g2 (e', t') (e, t) → _) := ⟨fun W h => refRaw_two h m (by simp only; omega)⟩
      rw [hd] at K2
      clear hd HI
      obtain ⟨wo, rfl⟩ : ∃ wo : World, wo = wr := ⟨_, rfl⟩
      go_wp2_with fail
      go_region_held3 (fun w' => w'.cell? ⟨b, o + k * 4 + 1, none⟩ = some (.int .i64 m)) (first | exact p2 | exact p1 | exact q1 | go_keep)
        (first
          | (go_at_call 26; refine Calls.mono K1.out ?_; rintro r w4 ⟨rfl, h4⟩; have p1 := cell_kept h4.bel (Nat.le_refl _) HQ1.out; have HI3 : Box _ := ⟨h4⟩; clear h4)
          | (go_at_call 27; refine Calls.mono (K2.out _ HI3.out) ?_; rintro r w5 ⟨rfl, h5⟩; have p2 := cell_kept h5.bel (Nat.le_refl _) HQ1.out; have HI4 : Box _ := ⟨h5⟩; clear h5))
      all_goals
        have HB4 : Box _ := ⟨HI4.out.bel⟩
        go_wp2_with fail
        refine (inLeft_calls g e' t' _ HI4.out.at1).mono ?_
        rintro r w6 ⟨rfl, rfl⟩
        go_wp2_with fail
        refine (refLeft_calls g2 e' t' _ HI4.out.at2).mono ?_
        rintro r w6 ⟨rfl, rfl⟩
        have K5 : Box _ := ⟨inRest_two HI4.out (by simp only; omega)⟩
        go_wp2_with fail
        refine Calls.mono K5.out ?_
        rintro r w6 ⟨rfl, h6⟩
        have HI6 : Box _ := ⟨h6⟩
        clear h6
        go_wp2_with fail
        refine (refRest_calls g2 e' t' _ HI6.out.at2 (by omega)).mono ?_
        rintro r w7 ⟨rfl, rfl⟩
        go_wp2_with fail
        go_roundw
        case rel => exact ⟨k + 1, e', t', by omega, by go_num, by omega, HI6⟩
        case measure => simp [intOf]; omega
end Go.Proofs.YtnakneabfnphkaaDoor
