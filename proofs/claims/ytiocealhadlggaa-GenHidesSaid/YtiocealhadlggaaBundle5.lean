/- Words and contracts that this claim leans on, one text behind the other. -/
import Derived.Test.YtiocealhadlggaaOneSum
import Derived.Test.YtiocealhadlggaaKnown
import Derived.Test.YtiocealhadlggaaBundle2
import Derived.Deep.CutBlock
import Derived.Deep.CutRange
import Derived.Test.YtiocealhadlggaaMix
/- The laws of chapter 3: each returns true at every input; what was handed in is as it was. -/
namespace Go.Proofs.Ytiocealhadlggaa
open Go.RowKit
set_option linter.unusedVariables false

def sumB (l : List ByteArray) : ByteArray := ⟨(oneSum (joinB l).data.toList).toArray⟩
theorem sumB_size (l : List ByteArray) : (sumB l).size = 20 := by
  rw [sumB, mk_size]; simp [oneSum, Five.cells, hi4]
/-- shaone.Sum of a list that was just built. -/
theorem oneSum_new (l : List ByteArray) (n : Nat) (w : World) (hl : l.length = n) (hn : n ≤ 1000) (hs : totalLen l ≤ 1000000) :
    Calls Try.prog 26 #[.slice (some ⟨w.heap.size, 0, none⟩) n n] (w.alloc (.cells (scells l).toArray 9)) fun e w' => e = .returned (.string (sumB l)) ∧ Below w.heap.size w w' :=
  (oneSum_calls _ n n l _ hl (Nat.le_refl _) (by omega) hs (rowAt_alloc w (scells l) _)).mono fun _ _ ⟨he, hb⟩ => ⟨he, ((Below.refl w.heap.size w).alloc (Nat.le_refl _) _).trans (hb.mono (by simp))⟩

def hexB (s : ByteArray) : ByteArray := ⟨(hexL s.data.toList).toArray⟩
theorem known_abc : hexB (sumB [⟨#[97]⟩, ⟨#[98, 99]⟩]) = ⟨#[97, 57, 57, 57, 51, 101, 51, 54, 52, 55, 48, 54, 56, 49, 54, 97, 98, 97, 51, 101, 50, 53, 55, 49, 55, 56, 53, 48, 99, 50, 54, 99, 57, 99, 100, 48, 100, 56, 57, 100]⟩ := by
  rw [sumB, show (joinB [⟨#[97]⟩, ⟨#[98, 99]⟩]).data.toList = [97, 98, 99] by decide, one_abc]
  decide

theorem known_empty : hexB (sumB [⟨#[]⟩]) = ⟨#[100, 97, 51, 57, 97, 51, 101, 101, 53, 101, 54, 98, 52, 98, 48, 100, 51, 50, 53, 53, 98, 102, 101, 102, 57, 53, 54, 48, 49, 56, 57, 48, 97, 102, 100, 56, 48, 55, 48, 57]⟩ := by
  rw [sumB, show (joinB [⟨#[]⟩]).data.toList = [] by decide, one_empty]
  decide
theorem known_two : hexB (sumB [⟨#[97, 98, 99, 100, 98, 99, 100, 101, 99, 100, 101, 102, 100, 101, 102, 103, 101, 102, 103, 104, 102, 103, 104, 105, 103, 104, 105, 106, 104, 105, 106, 107, 105, 106, 107, 108, 106, 107, 108, 109, 107, 108, 109, 110, 108, 109, 110, 111, 109, 110, 111, 112, 110, 111, 112, 113]⟩]) = ⟨#[56, 52, 57, 56, 51, 101, 52, 52, 49, 99, 51, 98, 100, 50, 54, 101, 98, 97, 97, 101, 52, 97, 97, 49, 102, 57, 53, 49, 50, 57, 101, 53, 101, 53, 52, 54, 55, 48, 102, 49]⟩ := by
  rw [sumB, show (joinB [⟨#[97, 98, 99, 100, 98, 99, 100, 101, 99, 100, 101, 102, 100, 101, 102, 103, 101, 102, 103, 104, 102, 103, 104, 105, 103, 104, 105, 106, 104, 105, 106, 107, 105, 106, 107, 108, 106, 107, 108, 109, 107, 108, 109, 110, 108, 109, 110, 111, 109, 110, 111, 112, 110, 111, 112, 113]⟩]).data.toList = [97, 98, 99, 100, 98, 99, 100, 101, 99, 100, 101, 102, 100, 101, 102, 103, 101, 102, 103, 104, 102, 103, 104, 105, 103, 104, 105, 106, 104, 105, 106, 107, 105, 106, 107, 108, 106, 107, 108, 109, 107, 108, 109, 110, 108, 109, 110, 111, 109, 110, 111, 112, 110, 111, 112, 113] by decide, one_two]
  decide
theorem joinB_one (s : ByteArray) : joinB [s] = s := by simp [joinB]
theorem sumB_ref (s : ByteArray) : sumB [s] = ⟨(oneSum s.data.toList).toArray⟩ := by rw [sumB, joinB_one]
theorem sumB_nil2 (s : ByteArray) : sumB [s, ⟨#[]⟩] = sumB [s] := by
  rw [sumB, sumB, show joinB [s, ⟨#[]⟩] = joinB [s] by
    show ByteArray.empty ++ s ++ (⟨#[]⟩ : ByteArray) = ByteArray.empty ++ s
    apply ByteArray.ext; simp [ByteArray.data_append]]
theorem total_one (s : ByteArray) : totalLen [s] = s.size := by simp [totalLen]
theorem total_two (s t : ByteArray) : totalLen [s, t] = s.size + t.size := by simp [totalLen]

end Go.Proofs.Ytiocealhadlggaa

/- Package shatwo: what each function computes. -/
namespace Go.Proofs.Ytiocealhadlggaa
open Go.RowKit
set_option linter.unusedVariables false

theorem right_calls (x : BitVec 32) (k : Nat) (m : Nat) (hk : bits BinOp.and IntKind.u64 (IntKind.u64.wrap (-(k : Int))) 31 = (m : Int)) (hm : m < 32) (hk2 : k ≤ 32) (w : World) :
    Calls Try.prog 51 #[.int .u32 (x.toNat : Int), .int .i64 (k : Int)] w fun e w' => e = .returned (.int .u32 ((turn x m).toNat : Int)) ∧ w = w' := by
  have HR := Lib.hid (fun W => rot_calls x (-(k : Int)) m hk hm W)
  clear hk
  go_enter Try.func51, Try.ntmps51
  go_wp2_with (go_at_call 47; refine Calls.mono (HR.out _) ?_; rintro e w' ⟨rfl, rfl⟩)
  go_ret
  exact ⟨rfl, rfl⟩
theorem right_at (x : BitVec 32) (k m : Nat) (h : (k == 7 && m == 25 || k == 18 && m == 14 || k == 17 && m == 15 || k == 19 && m == 13 || k == 6 && m == 26 || k == 11 && m == 21 || k == 25 && m == 7 || k == 2 && m == 30 || k == 13 && m == 19 || k == 22 && m == 10) = true) (w : World) :
    Calls Try.prog 51 #[.int .u32 (x.toNat : Int), .int .i64 (k : Int)] w fun e w' => e = .returned (.int .u32 ((turn x m).toNat : Int)) ∧ w = w' := by
  simp at h
  rcases h with ((((((((h | h) | h) | h) | h) | h) | h) | h) | h) | h <;> obtain ⟨rfl, rfl⟩ := h <;> exact right_calls x _ _ (by decide) (by omega) (by omega) w
end Go.Proofs.Ytiocealhadlggaa

/- Arrays of words in memory of the call's own. -/
namespace Go.Proofs.Ytiocealhadlggaa
open Go.RowKit
set_option linter.unusedVariables false

theorem Own.range0 {w : World} {base n cap g : Nat} {xs : List Value} (h : Own w base 1 (.slice (some ⟨g, 0, none⟩) n cap) n xs) : w.rangeAt g 0 xs := fun j v hv => by
  rw [Nat.zero_add]; exact (h.cell hv).1
theorem Own.there0 {w : World} {base n cap g : Nat} {xs : List Value} (h : Own w base 1 (.slice (some ⟨g, 0, none⟩) n cap) n xs) : w.there g 0 n := fun j hj => by
  have hl : j < xs.length := by rw [h.1]; omega
  rw [Nat.zero_add]
  have := h.cell (List.getElem?_eq_getElem hl)
  exact ⟨by rw [this.1]; rfl, this.2⟩
theorem Own.all {w : World} {base n g : Nat} {xs : List Value} (h : Own w base 1 (.slice (some ⟨g, 0, none⟩) n n) n xs) (ys : List Value) (hy : ys.length = n) : Own (w.setCells g 0 ys) base 1 (.slice (some ⟨g, 0, none⟩) n n) n ys := by
  have ht := h.there0
  rcases h.2 with ⟨h2, _⟩ | ⟨g', cap', h2, hb, hl, hn, hm, hc, hx⟩
  · simp at h2
  · simp at h2
    obtain ⟨rfl, rfl⟩ := h2
    refine ⟨by omega, .inr ⟨g, n, rfl, hb, Nat.lt_of_lt_of_le hl (grownBy_setCells g _ _ w).size, Nat.le_refl _, hm, fun j hj => ?_, fun j u hu => ?_⟩⟩
    · refine ⟨?_, by rw [World.frozen?_setCells]; exact (hc j hj).2⟩
      have := World.cell?_setCells_in g ys 0 w (fun i hi => (ht i (by omega)).1) j (by omega)
      rw [Nat.zero_add] at this
      rw [this]; rfl
    · have hjl := (List.getElem?_eq_some_iff.1 hu).1
      have := World.cell?_setCells_in g ys 0 w (fun i hi => (ht i (by omega)).1) j hjl
      rw [Nat.zero_add] at this
      rw [this, ← hu, List.getElem?_eq_getElem hjl]
theorem wcells_length (l : List (BitVec 32)) : (wcells l).length = l.length := by simp [wcells]
theorem all_wcells (l : List (BitVec 32)) : (wcells l).toArray.all (·.oneCell') = true := all_oneCell_toArray (one_wcells l)

structure ArrAt (w wr : World) (n : Nat) (f : Nat → BitVec 32) : Prop where
  bel : Below w.heap.size w wr
  or : Own wr w.heap.size 1 (.slice (some ⟨w.heap.size, 0, none⟩) n n) n (fw (fun _ => 0) n)
  ow : Own wr w.heap.size 1 (.slice (some ⟨w.heap.size + 1, 0, none⟩) n n) n (fw f n)
theorem ArrAt.drew {w wr : World} {n : Nat} {f : Nat → BitVec 32} (a : ArrAt w wr n f) : ArrAt w wr.drew n f := ⟨⟨a.bel.os, a.bel.tape, a.bel.output, a.bel.size, a.bel.block⟩, a.or, a.ow⟩
theorem ArrAt.drewN {w wr : World} {n : Nat} {f : Nat → BitVec 32} (a : ArrAt w wr n f) (k : Nat) : ArrAt w (wr.drewN k) n f := ⟨⟨a.bel.os, a.bel.tape, a.bel.output, a.bel.size, a.bel.block⟩, a.or, a.ow⟩
theorem ArrAt.congr {w wr : World} {n : Nat} {f g : Nat → BitVec 32} (a : ArrAt w wr n f) (e : ∀ j, j < n → f j = g j) : ArrAt w wr n g := ⟨a.bel, a.or, by rw [← fw_congr e]; exact a.ow⟩
theorem ArrAt.set {w wr : World} {n : Nat} {f : Nat → BitVec 32} (a : ArrAt w wr n f) (k : Nat) (hk : k < n) (x : BitVec 32) : ArrAt w (wr.setCell ⟨w.heap.size + 1, k, none⟩ (.int .u32 (x.toNat : Int))) n (fun j => if j = k then x else f j) := by
  obtain ⟨h1, h2⟩ := a.ow.set k (by rw [fw_length]; exact hk) (.int .u32 (x.toNat : Int))
  rw [fw_set] at h1
  exact ⟨a.bel.setCell (by simp only; omega) _, a.or.kept h2 (.inr (by simp [Value.ownBlock])), h1⟩

end Go.Proofs.Ytiocealhadlggaa
