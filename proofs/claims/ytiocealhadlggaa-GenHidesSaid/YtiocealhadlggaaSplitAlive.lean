/- The first call of chapter 15's laws; the reference's cuts by form. -/
import Derived.Test.YtiocealhadlggaaSplit3
import Derived.Test.YtiocealhadlggaaBookApart
import Derived.Test.YtiocealhadlggaaLentSpans
namespace Go.Proofs.Ytiocealhadlggaa
open Go.RowKit
set_option linter.unusedVariables false

theorem againGo_len (F : List UInt8 → Nat) (t : List UInt8) (old : List (Int × Int)) (b g : Int) : ∀ (f x : Nat) (out : List (Int × Int)) (n : Nat), (againGo F t old b g f x out n).1.length ≤ out.length + f + old.length := by
  intro f
  induction f with
  | zero => intro x out n; simp [againGo]
  | succ f ih =>
    intro x out n
    rw [againGo]
    split
    · simp; omega
    · split
      · simp [moved]; omega
      · have := ih (x + F (t.drop x)) (out ++ [((x : Int), ((x + F (t.drop x) : Nat) : Int))]) (n + 1)
        rw [List.length_append] at this
        simp only [List.length_cons, List.length_nil] at this
        omega
theorem againR_len {F : List UInt8 → Nat} (hF : Good F) (t : List UInt8) (old : List (Int × Int)) (a b g : Int) : (againR F t old a b g).1.length ≤ t.length + 1 + 2 * old.length := by
  rw [againR]
  split
  · have := cutA_length hF t.length 0 t (Nat.le_refl _)
    simp only
    omega
  · have h := againGo_len F t old b g (t.length - (endOf (old.take (keptGo a (sameB a b g) old))).toNat + 1) (endOf (old.take (keptGo a (sameB a b g) old))).toNat (old.take (keptGo a (sameB a b g) old)) 0
    rw [List.length_take] at h
    simp only
    omega
/-- The forms: their cutters, and how long first pieces are. -/
inductive Form : Int → Value → (List UInt8 → Nat) → Prop
  | one : Form 1 (.iface 80 (.agg #[.int .i64 64])) (minF 64)
  | two : Form 2 (.iface 84 (rule 32 64 128 7 5)) (firstN 32 64 128 7 5)
  | three : Form 3 (.iface 84 (rule 32 64 128 7 5)) (firstN 32 64 128 7 5)
theorem Form.cutter {g : Int} {c : Value} {F : List UInt8 → Nat} (h : Form g c F) : Cutter c F := by
  cases h
  · exact .even
  · exact .uneven
  · exact .uneven
theorem form_of {g : Int} (h1 : 1 ≤ g) (h3 : g ≤ 3) : ∃ c F, Form g c F := by
  rcases (by omega : g = 1 ∨ g = 2 ∨ g = 3) with rfl | rfl | rfl
  · exact ⟨_, _, .one⟩
  · exact ⟨_, _, .two⟩
  · exact ⟨_, _, .three⟩
theorem Form.of {g : Int} {c : Value} {F : List UInt8 → Nat} (h : Form g c F) (w : World) : Calls Try.prog 22 #[.int .i64 g] w fun e w' => e = .returned (.tuple #[c, .int .i64 0]) ∧ Below w.heap.size w w' := by
  cases h
  · exact of1_calls w
  · exact of2_calls w
  · exact of3_calls w
set_option maxHeartbeats 400000 in
theorem refDefault_calls (w : World) : Calls Try.prog 24 #[] w fun e w' => e = .returned (rule 32 64 128 7 5) ∧ Below w.heap.size w w' := by
  go_enter Try.func24, Try.ntmps24
  go_wp2
  (try simp only [Exit.inBlock, Exit.then])
  refine bodyPost_ret (results_cell_mid rfl _ _ w.heap.size [.int .i64 32, .int .i64 64, .int .i64 128, .int .i64 7, .int .i64 5] _ rfl (fun j v hv => by rw [Nat.zero_add, World.cell?_alloc_at _ _ _ _ rfl]; simpa using hv) Try.underlying66 rfl (by kernel_rfl)) rfl ?_
  exact ⟨rfl, (Below.refl _ _).alloc (Nat.le_refl _) _⟩
theorem refGen_unev (gen : Int) (s : ByteArray) (w : World) (hs : s.size ≤ 1000000) (hg : (gen == 1) = false) : Calls Try.prog 17 #[.int .i64 gen, .string s] w fun e w' => ∃ v, e = .returned v ∧ Own w' w.heap.size 2 v (cutA (firstN 32 64 128 7 5) 0 s.data.toList).length (pcells (cutA (firstN 32 64 128 7 5) 0 s.data.toList)) ∧ Below w.heap.size w w' := by
  have HC := Lib.hid (fun W => refCut_calls 32 64 128 7 5 s W hs)
  obtain ⟨L, hL⟩ : ∃ L, cutA (firstN 32 64 128 7 5) 0 s.data.toList = L := ⟨_, rfl⟩
  rw [hL] at HC ⊢
  clear hL
  go_enter Try.func17, Try.ntmps17
  go_wp2_with fail
  refine (refDefault_calls _).mono ?_
  rintro e w1 ⟨rfl, hb1⟩
  have HB1 := Lib.hid hb1
  clear hb1
  go_wp2_with fail
  refine Calls.mono (HC.out _) ?_
  rintro e w2 ⟨v, rfl, ho, hb2⟩
  have HO := Lib.hid (ho.weaken HB1.out.size)
  have HB2 := Lib.hid (below_trans' HB1.out hb2)
  clear ho hb2
  go_wp2
  go_ret
  exact ⟨_, rfl, HO.out, HB2.out⟩
theorem Form.ref {g : Int} {c : Value} {F : List UInt8 → Nat} (h : Form g c F) (s : ByteArray) (w : World) (hs : s.size ≤ 1000000) : Calls Try.prog 17 #[.int .i64 g, .string s] w fun e w' => ∃ v, e = .returned v ∧ Own w' w.heap.size 2 v (cutA F 0 s.data.toList).length (pcells (cutA F 0 s.data.toList)) ∧ Below w.heap.size w w' := by
  cases h with
  | one =>
    have HC := Lib.hid (fun W => refFixed_calls 64 s.size W (by omega) (by omega) hs)
    rw [← data_length s, ← fixed_cut (by decide)] at HC
    obtain ⟨L, hL⟩ : ∃ L, cutA (minF 64) 0 s.data.toList = L := ⟨_, rfl⟩
    rw [hL, data_length s] at HC
    rw [hL]
    clear hL
    go_enter Try.func17, Try.ntmps17
    go_wp2_with fail
    refine Calls.mono (HC.out _) ?_
    rintro e w2 ⟨v, rfl, ho, hb2⟩
    have HO := Lib.hid ho
    have HB2 := Lib.hid hb2
    clear ho hb2
    go_wp2
    go_ret
    exact ⟨_, rfl, HO.out, HB2.out⟩
  | two => exact refGen_unev 2 s w hs (by decide)
  | three => exact refGen_unev 3 s w hs (by decide)

end Go.Proofs.Ytiocealhadlggaa
