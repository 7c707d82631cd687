/- Package split: the cutters, and what is cut anew. -/
import Derived.Test.YtkhfecgmkhjpiaaSplit
import Derived.Deep.DeepCutAuto
import Derived.Deep.CutBlock
namespace Go.Proofs.Ytkhfecgmkhjpiaa
open Go.RowKit
set_option linter.unusedVariables false
attribute [local go_sem] max2_int min2_int max_two min_two

/-- The cutters of the forms, and how long their first pieces are. -/
inductive Cutter : Value → (List UInt8 → Nat) → Prop
  | even : Cutter (.iface 71 (.agg #[.int .i64 64])) (minF 64)
  | uneven : Cutter (.iface 69 (rule 32 64 128 7 5)) (firstN 32 64 128 7 5)
theorem Cutter.best {c : Value} {F : List UInt8 → Nat} (h : Cutter c F) : Best F := by
  cases h
  · exact best_min (by omega)
  · exact best_first _ _ _ _ _
theorem Cutter.ne {c : Value} {F : List UInt8 → Nat} (h : Cutter c F) : ∃ t v, c = .iface t v := by cases h <;> exact ⟨_, _, rfl⟩

theorem of1_calls (w : World) : Calls Try.prog 36 #[.int .i64 1] w fun e w' => e = .returned (.tuple #[.iface 71 (.agg #[.int .i64 64]), .int .i64 0]) ∧ Below w.heap.size w w' := by
  go_enter Try.func36, Try.ntmps36
  go_wp2
  go_ret2
  exact ⟨rfl, Below.refl _ _⟩
theorem of2_calls (w : World) : Calls Try.prog 36 #[.int .i64 2] w fun e w' => e = .returned (.tuple #[.iface 69 (rule 32 64 128 7 5), .int .i64 0]) ∧ Below w.heap.size w w' := by
  go_enter Try.func36, Try.ntmps36
  go_wp2_with fail
  refine (default_calls _).mono ?_
  rintro e w1 ⟨rfl, hb1⟩
  go_wp2
  go_ret2
  exact ⟨rfl, hb1⟩
theorem of3_calls (w : World) : Calls Try.prog 36 #[.int .i64 3] w fun e w' => e = .returned (.tuple #[.iface 69 (rule 32 64 128 7 5), .int .i64 0]) ∧ Below w.heap.size w w' := by
  go_enter Try.func36, Try.ntmps36
  go_wp2_with fail
  refine (default_calls _).mono ?_
  rintro e w1 ⟨rfl, hb1⟩
  go_wp2
  go_ret2
  exact ⟨rfl, hb1⟩
theorem ofNone_calls (gen : Int) (w : World) (h : gen < 1 ∨ 3 < gen) : Calls Try.prog 36 #[.int .i64 gen] w fun e w' => e = .returned (.tuple #[.nilIface, .int .i64 1]) ∧ Below w.heap.size w w' := by
  have h1 : (gen == 1) = false := by simp; omega
  have h2 : (gen == 2) = false := by simp; omega
  have h3 : (gen == 3) = false := by simp; omega
  go_enter Try.func36, Try.ntmps36
  go_wp2
  go_ret2
  exact ⟨rfl, Below.refl _ _⟩

theorem evenNext_calls (n : Int) (s : ByteArray) (w : World) (hs : s.size ≤ 1000000) : Calls Try.prog 40 #[.agg #[.int .i64 n], .string s] w fun e w' => e = .returned (.int .i64 (max (min n s.size) 0)) ∧ Below w.heap.size w w' := by
  go_enter Try.func40, Try.ntmps40
  go_wp2
  go_ret
  exact ⟨rfl, (Below.refl _ _).alloc (Nat.le_refl _) _⟩
set_option maxRecDepth 100000 in
theorem evenCut_calls (n : Int) (A : Option Addr) (len c : Nat) (l : List ByteArray) (w : World) (hn2 : n ≤ 9223372036854775807) (hl : l.length = len) (hlen : len ≤ 4000000000000000000) (hs : totalLen l ≤ 1000000) (hR : RowAt w A (scells l)) :
    Calls Try.prog 39 #[.agg #[.int .i64 n], .slice A len c] w fun e w' => ∃ v, e = .returned v ∧ Own w' w.heap.size 2 v (fixedZ n (totalLen l)).length (pcells (fixedZ n (totalLen l))) ∧ Below w.heap.size w w' := by
  have HB := Lib.hid ((Below.refl w.heap.size w).alloc (Nat.le_refl _) (.cells #[.int .i64 n] 71))
  have HC := Lib.hid (cut_calls n A len c l _ hn2 hl hlen hs (hR.alloc (.cells #[.int .i64 n] 71)))
  clear hR hl
  go_enter Try.func39, Try.ntmps39
  go_wp2_with fail
  refine Calls.mono HC.out ?_
  rintro e w1 ⟨v, rfl, ho, hb⟩
  have HO := Lib.hid ho
  have HB1 := Lib.hid (below_trans' HB.out hb)
  have HZ := Lib.hid HB.out.size
  clear ho hb
  go_wp2
  go_ret
  exact ⟨_, rfl, HO.out.weaken HZ.out, HB1.out⟩
set_option maxRecDepth 100000 in
theorem unevenNext_calls (a b c h s : Int) (t : ByteArray) (w : World) (ht : t.size ≤ 1000000) : Calls Try.prog 38 #[rule a b c h s, .string t] w fun e w' => e = .returned (.int .i64 (firstN a b c h s t.data.toList : Nat)) ∧ Below w.heap.size w w' := by
  have HB := Lib.hid ((Below.refl w.heap.size w).alloc (Nat.le_refl _) (.cells #[.int .i64 a, .int .i64 b, .int .i64 c, .int .i64 h, .int .i64 s] 69))
  have HF := Lib.hid (fun W => first_calls a b c h s t W (by omega))
  go_enter Try.func38, Try.ntmps38
  go_wp2_with fail
  refine Calls.mono (HF.out _) ?_
  rintro e w1 ⟨rfl, hb⟩
  have HB1 := Lib.hid (below_trans' HB.out hb)
  clear hb
  go_wp2
  go_ret
  exact ⟨rfl, HB1.out⟩
/-- A whole text, cut by a cutter. -/
theorem all_calls {cv : Value} {F : List UInt8 → Nat} (hc : Cutter cv F) (s : ByteArray) (w : World) (hs : s.size ≤ 1000000) :
    Calls Try.prog 85 #[cv, .string s] w fun e w' => ∃ v, e = .returned (.tuple #[v, .int .i64 (cutA F 0 s.data.toList).length]) ∧ Own w' w.heap.size 2 v (cutA F 0 s.data.toList).length (pcells (cutA F 0 s.data.toList)) ∧ Below w.heap.size w w' := by
  have ht1 : totalLen [s] = s.size := by simp [totalLen]
  have hj : joinB [s] = s := by simp [joinB]
  have HB := Lib.hid ((Below.refl w.heap.size w).alloc (Nat.le_refl _) (.cells #[.string s] 9))
  have hrow := rowAt_alloc w (scells [s]) 9
  cases hc with
  | even =>
    have h1 := evenCut_calls 64 _ 1 1 [s] _ (by omega) rfl (by omega) (by rw [ht1]; omega) hrow
    rw [ht1, fixedZ_pos (by omega), ← data_length s, ← fixed_cut (by decide)] at h1
    have e64 : (64 : Int).toNat = 64 := rfl
    rw [e64] at h1
    obtain ⟨L, hL⟩ : ∃ L, cutA (minF 64) 0 s.data.toList = L := ⟨_, rfl⟩
    rw [hL] at h1 ⊢
    obtain ⟨N, hN⟩ : ∃ N, L.length = N := ⟨_, rfl⟩
    rw [hN] at h1 ⊢
    have HC := Lib.hid h1
    have hm : ∀ w : World, (method 270 71 (.agg #[.int .i64 64]) "Cut").run Try.prog w = .ok (39, .agg #[.int .i64 64]) w := fun _ => by kernel_rfl
    clear h1 hrow hL hj ht1 hN e64
    go_enter Try.func85, Try.ntmps85
    go_wp2_with fail
    refine Calls.mono HC.out ?_
    rintro e w1 ⟨v, rfl, ho, hb⟩
    obtain ⟨A1, c1, rfl, _, _, _⟩ := ho.slice
    have HO := Lib.hid (ho.weaken HB.out.size)
    have HB1 := Lib.hid (below_trans' HB.out hb)
    clear ho hb
    go_wp2
    go_ret2
    exact ⟨_, rfl, HO.out, HB1.out⟩
  | uneven =>
    have h1 := cdcCut_calls 32 64 128 7 5 _ 1 1 [s] _ rfl (by omega) (by omega) (by rw [ht1]; omega) hrow
    rw [hj] at h1
    obtain ⟨L, hL⟩ : ∃ L, cutA (firstN 32 64 128 7 5) 0 s.data.toList = L := ⟨_, rfl⟩
    rw [hL] at h1 ⊢
    obtain ⟨N, hN⟩ : ∃ N, L.length = N := ⟨_, rfl⟩
    rw [hN] at h1 ⊢
    have HC := Lib.hid h1
    have hm : ∀ w : World, (method 270 69 (rule 32 64 128 7 5) "Cut").run Try.prog w = .ok (29, rule 32 64 128 7 5) w := fun _ => by kernel_rfl
    clear h1 hrow hL hj ht1 hN
    go_enter Try.func85, Try.ntmps85
    go_wp2_with fail
    refine Calls.mono HC.out ?_
    rintro e w1 ⟨v, rfl, ho, hb⟩
    obtain ⟨A1, c1, rfl, _, _, _⟩ := ho.slice
    have HO := Lib.hid (ho.weaken HB.out.size)
    have HB1 := Lib.hid (below_trans' HB.out hb)
    clear ho hb
    go_wp2
    go_ret2
    exact ⟨_, rfl, HO.out, HB1.out⟩
end Go.Proofs.Ytkhfecgmkhjpiaa
