/- The first call of chapter 15's laws; the reference's cuts by form. -/
import Derived.Test.YtkhfecgmkhjpiaaSplit3
import Derived.Test.YtkhfecgmkhjpiaaBookApart
import Derived.Test.YtkhfecgmkhjpiaaLentSpans
namespace Go.Proofs.Ytkhfecgmkhjpiaa
open Go.RowKit
set_option linter.unusedVariables false

theorem againGo_len (F : List UInt8 → Nat) (t : List UInt8) (old : List (Int × Int)) (b g : Int) : ∀ (f x : Nat) (out : List (Int × Int)) (n : Nat), (againGo F t old b g f x out n).1.length ≤ out.length + f + old.length := by
  intro f
  induction f with
  | zero => intro x out n; simp [againGo]
  | succ f ih =>
    intro x out n
    rw [againGo]
    split
    · simp; omega
    · split
      · simp [moved]; omega
      · have := ih (x + F (t.drop x)) (out ++ [((x : Int), ((x + F (t.drop x) : Nat) : Int))]) (n + 1)
        rw [List.length_append] at this
        simp only [List.length_cons, List.length_nil] at this
        omega
theorem againR_len {F : List UInt8 → Nat} (hF : Good F) (t : List UInt8) (old : List (Int × Int)) (a b g : Int) : (againR F t old a b g).1.length ≤ t.length + 1 + 2 * old.length := by
  rw [againR]
  split
  · have := cutA_length hF t.length 0 t (Nat.le_refl _)
    simp only
    omega
  · have h := againGo_len F t old b g (t.length - (endOf (old.take (keptGo a (sameB a b g) old))).toNat + 1) (endOf (old.take (keptGo a (sameB a b g) old))).toNat (old.take (keptGo a (sameB a b g) old)) 0
    rw [List.length_take] at h
    simp only
    omega
/-- The forms: their cutters, and how long first pieces are. -/
inductive Form : Int → Value → (List UInt8 → Nat) → Prop
  | one : Form 1 (.iface 71 (.agg #[.int .i64 64])) (minF 64)
  | two : Form 2 (.iface 69 (rule 32 64 128 7 5)) (firstN 32 64 128 7 5)
  | three : Form 3 (.iface 69 (rule 32 64 128 7 5)) (firstN 32 64 128 7 5)
theorem Form.cutter {g : Int} {c : Value} {F : List UInt8 → Nat} (h : Form g c F) : Cutter c F := by
  cases h
  · exact .even
  · exact .uneven
  · exact .uneven
theorem form_of {g : Int} (h1 : 1 ≤ g) (h3 : g ≤ 3) : ∃ c F, Form g c F := by
  rcases (by omega : g = 1 ∨ g = 2 ∨ g = 3) with rfl | rfl | rfl
  · exact ⟨_, _, .one⟩
  · exact ⟨_, _, .two⟩
  · exact ⟨_, _, .three⟩
theorem Form.of {g : Int} {c : Value} {F : List UInt8 → Nat} (h : Form g c F) (w : World) : Calls Try.prog 36 #[.int .i64 g] w fun e w' => e = .returned (.tuple #[c, .int .i64 0]) ∧ Below w.heap.size w w' := by
  cases h
  · exact of1_calls w
  · exact of2_calls w
  · exact of3_calls w
set_option maxHeartbeats 400000 in
theorem refDefault_calls (w : World) : Calls Try.prog 84 #[] w fun e w' => e = .returned (rule 32 64 128 7 5) ∧ Below w.heap.size w w' := by
  go_enter Try.func84, Try.ntmps84
  go_wp2
  (try simp only [Exit.inBlock, Exit.then])
  refine bodyPost_ret (results_cell_mid rfl _ _ w.heap.size [.int .i64 32, .int .i64 64, .int .i64 128, .int .i64 7, .int .i64 5] _ rfl (fun j v hv => by rw [Nat.zero_add, World.cell?_alloc_at _ _ _ _ rfl]; simpa using hv) Try.underlying58 rfl (by kernel_rfl)) rfl ?_
  exact ⟨rfl, (Below.refl _ _).alloc (Nat.le_refl _) _⟩
theorem refGen_unev (gen : Int) (s : ByteArray) (w : World) (hs : s.size ≤ 1000000) (hg : (gen == 1) = false) : Calls Try.prog 37 #[.int .i64 gen, .string s] w fun e w' => ∃ v, e = .returned v ∧ Own w' w.heap.size 2 v (cutA (firstN 32 64 128 7 5) 0 s.data.toList).length (pcells (cutA (firstN 32 64 128 7 5) 0 s.data.toList)) ∧ Below w.heap.size w w' := by
  have HC := Lib.hid (fun W => refCut_calls 32 64 128 7 5 s W hs)
  obtain ⟨L, hL⟩ : ∃ L, cutA (firstN 32 64 128 7 5) 0 s.data.toList = L := ⟨_, rfl⟩
  rw [hL] at HC ⊢
  clear hL
  go_enter Try.func37, Try.ntmps37
  go_wp2_with fail
  refine (refDefault_calls _).mono ?_
  rintro e w1 ⟨rfl, hb1⟩
  have HB1 := Lib.hid hb1
  clear hb1
  go_wp2_with fail
  refine Calls.mono (HC.out _) ?_
  rintro e w2 ⟨v, rfl, ho, hb2⟩
  have HO := Lib.hid (ho.weaken HB1.out.size)
  have HB2 := Lib.hid (below_trans' HB1.out hb2)
  clear ho hb2
  go_wp2
  go_ret
  exact ⟨_, rfl, HO.out, HB2.out⟩
theorem Form.ref {g : Int} {c : Value} {F : List UInt8 → Nat} (h : Form g c F) (s : ByteArray) (w : World) (hs : s.size ≤ 1000000) : Calls Try.prog 37 #[.int .i64 g, .string s] w fun e w' => ∃ v, e = .returned v ∧ Own w' w.heap.size 2 v (cutA F 0 s.data.toList).length (pcells (cutA F 0 s.data.toList)) ∧ Below w.heap.size w w' := by
  cases h with
  | one =>
    have HC := Lib.hid (fun W => refFixed_calls 64 s.size W (by omega) (by omega) hs)
    rw [← data_length s, ← fixed_cut (by decide)] at HC
    obtain ⟨L, hL⟩ : ∃ L, cutA (minF 64) 0 s.data.toList = L := ⟨_, rfl⟩
    rw [hL, data_length s] at HC
    rw [hL]
    clear hL
    go_enter Try.func37, Try.ntmps37
    go_wp2_with fail
    refine Calls.mono (HC.out _) ?_
    rintro e w2 ⟨v, rfl, ho, hb2⟩
    have HO := Lib.hid ho
    have HB2 := Lib.hid hb2
    clear ho hb2
    go_wp2
    go_ret
    exact ⟨_, rfl, HO.out, HB2.out⟩
  | two => exact refGen_unev 2 s w hs (by decide)
  | three => exact refGen_unev 3 s w hs (by decide)

set_option maxHeartbeats 2000000 in
set_option maxRecDepth 100000 in
theorem splitAlive_calls (w : World) : Calls Try.prog 35 #[] w fun e w' => e = .returned (.bool true) ∧ Below w.heap.size w w' := by
  have hm1 : ∀ w : World, (method 270 71 (.agg #[.int .i64 64]) "Cut").run Try.prog w = .ok (39, .agg #[.int .i64 64]) w := fun _ => by kernel_rfl
  have hm2 : ∀ w : World, (method 270 71 (.agg #[.int .i64 64]) "Next").run Try.prog w = .ok (40, .agg #[.int .i64 64]) w := fun _ => by kernel_rfl
  have hm3 : ∀ w : World, (method 270 69 (rule 32 64 128 7 5) "Next").run Try.prog w = .ok (38, rule 32 64 128 7 5) w := fun _ => by kernel_rfl
  have HC := Lib.hid (fun A W hR => evenCut_calls 64 A 1 1 [⟨#[97, 98]⟩] W (by omega) rfl (by omega) (by decide) hR)
  have e1 : fixedZ 64 (totalLen [⟨#[97, 98]⟩]) = [(0, 2)] := by decide
  rw [e1] at HC
  have HN1 := Lib.hid (fun W => evenNext_calls 64 ⟨#[97, 98]⟩ W (by decide))
  have e2 : max (min (64 : Int) ((ByteArray.mk #[97, 98]).size : Nat)) 0 = 2 := by decide
  rw [e2] at HN1
  have HN2 := Lib.hid (fun W => unevenNext_calls 32 64 128 7 5 ⟨#[97, 98]⟩ W (by decide))
  have e3 : ((firstN 32 64 128 7 5 (ByteArray.mk #[97, 98]).data.toList : Nat) : Int) = 2 := by decide
  rw [e3] at HN2
  have HA := Lib.hid (fun B sc W hsc hR => again_calls Cutter.even B 1 sc [(0, 2)] ⟨#[97, 98]⟩ 2 2 0 W (by decide) (by decide) hsc rfl (by omega) (by omega) (by omega) (by simp) hR)
  have e4 : againR (minF 64) (ByteArray.mk #[97, 98]).data.toList [(0, 2)] 2 2 0 = ([(0, 2)], 0) := by decide
  rw [e4] at HA
  have HS := Lib.hid (fun A B c d W hR hS => sameSpans_calls A B 1 1 c d [(0, 2)] [(0, 2)] W rfl rfl (by omega) hR hS)
  have e5 : decide (([(0, 2)] : List (Int × Int)) = [(0, 2)]) = true := by decide
  rw [e5] at HS
  clear e1 e2 e3 e4 e5
  go_enter Try.func35, Try.ntmps35
  go_wp2_with fail
  refine (of1_calls _).mono ?_
  rintro e w1 ⟨rfl, hb1⟩
  have HB1 := Lib.hid hb1; clear hb1
  go_wp2_with fail
  refine (of2_calls _).mono ?_
  rintro e w2 ⟨rfl, hb2⟩
  have HB2 := Lib.hid (below_trans' HB1.out hb2); clear hb2
  go_wp2_with fail
  refine Calls.mono (HC.out _ _ (rowAt_alloc w2 (scells [⟨#[97, 98]⟩]) _)) ?_
  rintro e w3 ⟨v, rfl, ho, hb3⟩
  obtain ⟨A1, c1, rfl, hc1, hr1, _⟩ := ho.slice
  have HR1 := Lib.hid hr1
  have HB3 := Lib.hid (below_trans' (HB2.out.alloc HB2.out.size _) hb3)
  clear ho hb3 hr1
  go_wp2_with fail
  refine Calls.mono (HA.out A1 c1 _ hc1 HR1.out) ?_
  rintro e w4 ⟨v, rfl, ho, hb4⟩
  obtain ⟨A2, c2, rfl, hc2, hr2, _⟩ := ho.slice
  have HR2 := Lib.hid hr2
  have HR3 := Lib.hid (HR1.out.below hb4)
  have HB4 := Lib.hid (below_trans' HB3.out hb4)
  clear ho hb4 hr2
  go_wp2_with fail
  refine Calls.mono (HN1.out _) ?_
  rintro e w5 ⟨rfl, hb5⟩
  have HB5 := Lib.hid (below_trans' HB4.out hb5)
  have HR2b := Lib.hid (HR2.out.below hb5)
  have HR3b := Lib.hid (HR3.out.below hb5)
  clear hb5
  go_wp2_with fail
  refine Calls.mono (HN2.out _) ?_
  rintro e w6 ⟨rfl, hb6⟩
  have HB6 := Lib.hid (below_trans' HB5.out hb6)
  have HR2c := Lib.hid (HR2b.out.below hb6)
  have HR3c := Lib.hid (HR3b.out.below hb6)
  clear hb6
  go_wp2_with fail
  refine Calls.mono (HS.out _ _ _ _ _ HR2c.out HR3c.out) ?_
  rintro e w7 ⟨rfl, hb7⟩
  have HB7 := Lib.hid (below_trans' HB6.out hb7)
  clear hb7
  go_wp2
  go_ret
  exact ⟨rfl, HB7.out⟩
end Go.Proofs.Ytkhfecgmkhjpiaa
