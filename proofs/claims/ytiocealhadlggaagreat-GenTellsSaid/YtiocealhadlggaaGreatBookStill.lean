/- (*Book).stillSpans, markedSpans: lists of lists that are as they were, or as they were marked. -/
import Derived.Test.YtiocealhadlggaaGreatBookSpans
import Derived.Test.YtiocealhadlggaaGreatBundle2
import Derived.Deep.RegionHeld3
namespace Go.Proofs.YtiocealhadlggaaGreat
open Go.RowKit
set_option linter.unusedVariables false

theorem below_drew' {B : Nat} {w W : World} (h : Below B w W) : Below B w W.drew := ⟨h.os, h.tape, h.output, h.size, h.block⟩
theorem cell_lt {w : World} {a : Addr} {v : Value} (h : w.cell? a = some v) : a.block < w.heap.size := World.block_lt_of_cell? w _ h

set_option maxHeartbeats 1600000 in
set_option maxRecDepth 100000 in
theorem stillSpans_calls (g : Nat) (A B : Option Addr) (c d N : Nat) (vs us : List Value) (ls : List (List (Int × Int))) (w : World) (hN : N ≤ 1000) (hl : ls.length = N)
    (c4 : w.cell? ⟨g, 4, none⟩ = some (.slice A N c)) (c5 : w.cell? ⟨g, 5, none⟩ = some (.slice B N d)) (hA : RowAt w A vs) (hB : RowAt w B us)
    (hin : ∀ (i : Nat) (l : List (Int × Int)), ls[i]? = some l → ∃ (A' : Option Addr) (c' : Nat) (B' : Option Addr) (d' : Nat), vs[i]? = some (Value.slice A' l.length c') ∧ us[i]? = some (Value.slice B' l.length d') ∧ l.length ≤ 4000000000000000000 ∧ RowAt w A' (pcells l) ∧ RowAt w B' (pcells l)) :
    Calls Tryz.prog 27 #[.pointer (some ⟨g, 0, none⟩)] w fun e w' => e = .returned (.bool true) ∧ Below w.heap.size w w' := by
  have HA := Lib.hid hA
  have HB := Lib.hid hB
  have HI := Lib.hid hin
  have HL := Lib.hid hl
  have C4 := Lib.hid c4
  have C5 := Lib.hid c5
  clear hA hB hin hl
  go_enter Tryz.func27, Tryz.ntmps27
  go_wp2
  go_loopw [3] (fun i wr => ∃ k : Nat, k ≤ N ∧ i = .int .i64 k ∧ Hid (Below w.heap.size w wr)) (fun i _ => N - (intOf i).toNat)
  case atStart => exact ⟨0, Nat.zero_le _, rfl, Below.refl _ _⟩
  case round =>
    obtain ⟨k, hk, rfl, HW⟩ := hrel
    clear c4 c5
    have c4 := cell_kept HW.out (Nat.le_refl _) C4.out
    have c5 := cell_kept HW.out (Nat.le_refl _) C5.out
    by_cases hlt : k < N
    · obtain ⟨l, hl⟩ := some_at (l := ls) (k := k) (by rw [HL.out]; exact hlt)
      obtain ⟨A', c', B', d', e1, e2, hll, hr1, hr2⟩ := HI.out k l hl
      obtain ⟨b1, o1, rfl, hb1, s1⟩ := (HA.out.below HW.out).addr (by intro e; rw [e] at e1; simp at e1)
      obtain ⟨b2, o2, rfl, hb2, s2⟩ := (HB.out.below HW.out).addr (by intro e; rw [e] at e2; simp at e2)
      have t1 := s1 _ _ e1
      have t2 := s2 _ _ e2
      have HR1 := Lib.hid (hr1.below HW.out)
      have HR2 := Lib.hid (hr2.below HW.out)
      have hS := fun (W : World) (r1 : RowAt W A' (pcells l)) (r2 : RowAt W B' (pcells l)) => sameSpans_calls A' B' l.length l.length c' d' l l W rfl rfl hll r1 r2
      have hd : decide (l = l) = true := decide_eq_true rfl
      rw [hd] at hS
      have HS := Lib.hid hS
      clear hS s1 s2 hl e1 e2 hr1 hr2
      have j1 : (0 : Int) ≤ (k : Int) := by omega
      have j2 : (k : Int) < (N : Int) := by omega
      go_wp2_with fail
      go_region_held3 (fun w' => w'.cell? ⟨g, 4, none⟩ = some (.slice (some ⟨b1, o1, none⟩) N c) ∧ w'.cell? ⟨g, 5, none⟩ = some (.slice (some ⟨b2, o2, none⟩) N d) ∧ w'.cell? ⟨b1, o1 + k, none⟩ = some (.slice A' l.length c') ∧ w'.cell? ⟨b2, o2 + k, none⟩ = some (.slice B' l.length d')) (first | exact ⟨c4, c5, t1, t2⟩ | exact ⟨u4, u5, u1, u2⟩)
        (first | (go_at_call 11; refine Calls.mono (HS.out _ HR1.out HR2.out) ?_; rintro e w2 ⟨rfl, hb2'⟩; have HW2 := Lib.hid ((below_drew' (Below.refl wr.heap.size wr)).trans hb2'); have u4 := cell_kept HW2.out (Nat.le_refl _) c4; have u5 := cell_kept HW2.out (Nat.le_refl _) c5; have u1 := cell_kept HW2.out (Nat.le_refl _) t1; have u2 := cell_kept HW2.out (Nat.le_refl _) t2; clear hb2'))
      go_wp2
      go_roundw
      case rel => exact ⟨k + 1, by omega, by go_num, below_trans' HW.out HW2.out⟩
      case measure => simp [intOf]; omega
    · go_wp2
      go_ret
      exact ⟨rfl, HW.out⟩
end Go.Proofs.YtiocealhadlggaaGreat
