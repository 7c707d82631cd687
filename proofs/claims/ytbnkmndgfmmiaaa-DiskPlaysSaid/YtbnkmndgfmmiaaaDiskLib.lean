/- The library's functions that the disk calls: slices.Clone, slices.Repeat, strings.Repeat, strings.Clone. -/
import Derived.Test.YtbnkmndgfmmiaaaReg
import Derived.Test.YtbnkmndgfmmiaaaShelf
import Derived.Laws.CopyOwn
namespace Go.Proofs.Ytbnkmndgfmmiaaa
open Go.RowKit
set_option linter.unusedVariables false

theorem el_texts : El Try.prog 50 9 1 16 := El.mk' Try.underlying50 (z := .string ByteArray.empty) (by kernel_rfl) (by decide)
theorem el_int : El Try.prog 32 3 1 8 := El.mk' Try.underlying32 (z := .int .i64 0) (by kernel_rfl) (by decide)
theorem el_writes : El Try.prog 31 42 2 24 := El.mk' Try.underlying31 (z := .agg #[.int .i64 0, .string ByteArray.empty]) (by kernel_rfl) (by decide)

/-- A nil slice of length zero, or one that is there. -/
def NilOk (A : Option Addr) (n c : Nat) : Prop := A = none → n = 0 ∧ c = 0

theorem own_empty (W : World) (base sz : Nat) (t : TypeId) (hb : base ≤ W.heap.size) : Own (W.alloc (.cells #[] t)) base sz (.slice (some ⟨W.heap.size, 0, none⟩) 0 0) 0 [] :=
  ⟨by simp, .inr ⟨_, _, rfl, hb, by simp, Nat.le_refl _, by decide, fun j hj => by omega, fun j u hu => by simp at hu⟩⟩

set_option maxHeartbeats 800000 in
set_option maxRecDepth 20000 in
theorem cloneS_calls (A : Option Addr) (n c : Nat) (xs : List Value) (w : World) (hA : NilOk A n c) (hl : xs.length = n * 1) (hn : n * 16 ≤ 140737488351232) (h1 : ∀ u ∈ xs, u.oneCell' = true) (hR : RowAt w A xs) :
    Calls Try.prog 23 #[.slice A n c] w fun e w' => ∃ v, e = .returned v ∧ Own w' w.heap.size 1 v n xs ∧ Below w.heap.size w w' := by
  have kb := fun (W : World) (a : Option Addr) (n c n' c' : Nat) => @Lib.run_eql_slice_nil Try.prog W 50 9 a n c n' c' Try.underlying50
  rcases A with _ | ad
  · obtain ⟨rfl, rfl⟩ := hA rfl
    obtain rfl : xs = [] := List.eq_nil_of_length_eq_zero (by simpa using hl)
    go_enter Try.func23, Try.ntmps23
    go_wp2
    go_ret
    exact ⟨_, rfl, Own.nil _ _ _, Below.refl _ _⟩
  · go_enter Try.func23, Try.ntmps23
    go_wp2_with (at_builtin; refine appO el_texts w.heap.size rfl _ _ rfl rfl (own_empty w _ 1 9 (Nat.le_refl _)) rfl hl (hR.alloc _) h1 (by omega) (by simp) ?_; intro v1 w3 hown1 hg1 _)
    go_ret
    exact ⟨v1, rfl, by simpa using hown1, Own.grown_below (own_empty w _ 1 9 (Nat.le_refl _)) ((Below.refl _ _).alloc (Nat.le_refl _) _) hg1 (Nat.le_refl _)⟩
set_option maxHeartbeats 800000 in
set_option maxRecDepth 20000 in
theorem cloneI_calls (A : Option Addr) (n c : Nat) (xs : List Value) (w : World) (hA : NilOk A n c) (hl : xs.length = n * 1) (hn : n * 8 ≤ 140737488351232) (h1 : ∀ u ∈ xs, u.oneCell' = true) (hR : RowAt w A xs) :
    Calls Try.prog 25 #[.slice A n c] w fun e w' => ∃ v, e = .returned v ∧ Own w' w.heap.size 1 v n xs ∧ Below w.heap.size w w' := by
  have kb := fun (W : World) (a : Option Addr) (n c n' c' : Nat) => @Lib.run_eql_slice_nil Try.prog W 32 3 a n c n' c' Try.underlying32
  rcases A with _ | ad
  · obtain ⟨rfl, rfl⟩ := hA rfl
    obtain rfl : xs = [] := List.eq_nil_of_length_eq_zero (by simpa using hl)
    go_enter Try.func25, Try.ntmps25
    go_wp2
    go_ret
    exact ⟨_, rfl, Own.nil _ _ _, Below.refl _ _⟩
  · go_enter Try.func25, Try.ntmps25
    go_wp2_with (at_builtin; refine appO el_int w.heap.size rfl _ _ rfl rfl (own_empty w _ 1 3 (Nat.le_refl _)) rfl hl (hR.alloc _) h1 (by omega) (by simp) ?_; intro v1 w3 hown1 hg1 _)
    go_ret
    exact ⟨v1, rfl, by simpa using hown1, Own.grown_below (own_empty w _ 1 3 (Nat.le_refl _)) ((Below.refl _ _).alloc (Nat.le_refl _) _) hg1 (Nat.le_refl _)⟩
set_option maxHeartbeats 800000 in
set_option maxRecDepth 20000 in
theorem cloneW_calls (A : Option Addr) (n c : Nat) (xs : List Value) (w : World) (hA : NilOk A n c) (hl : xs.length = n * 2) (hn : n * 24 ≤ 140737488351232) (h1 : ∀ u ∈ xs, u.oneCell' = true) (hR : RowAt w A xs) :
    Calls Try.prog 24 #[.slice A n c] w fun e w' => ∃ v, e = .returned v ∧ Own w' w.heap.size 2 v n xs ∧ Below w.heap.size w w' := by
  have kb := fun (W : World) (a : Option Addr) (n c n' c' : Nat) => @Lib.run_eql_slice_nil Try.prog W 31 42 a n c n' c' Try.underlying31
  rcases A with _ | ad
  · obtain ⟨rfl, rfl⟩ := hA rfl
    obtain rfl : xs = [] := List.eq_nil_of_length_eq_zero (by simpa using hl)
    go_enter Try.func24, Try.ntmps24
    go_wp2
    go_ret
    exact ⟨_, rfl, Own.nil _ _ _, Below.refl _ _⟩
  · go_enter Try.func24, Try.ntmps24
    go_wp2_with (at_builtin; refine appO el_writes w.heap.size rfl _ _ rfl rfl (own_empty w _ 2 42 (Nat.le_refl _)) rfl hl (hR.alloc _) h1 (by omega) (by simp) ?_; intro v1 w3 hown1 hg1 _)
    go_ret
    exact ⟨v1, rfl, by simpa using hown1, Own.grown_below (own_empty w _ 2 42 (Nat.le_refl _)) ((Below.refl _ _).alloc (Nat.le_refl _) _) hg1 (Nat.le_refl _)⟩

theorem own_block {w : World} {g base : Nat} {cs : Array Value} {t : TypeId} (h : w.heap[g]? = some (.cells cs t (0, 0))) (hb : base ≤ g) (hc : cs.size ≤ maxLen) : Own w base 1 (.slice (some ⟨g, 0, none⟩) cs.size cs.size) cs.size cs.toList := by
  refine ⟨by simp, .inr ⟨_, _, rfl, hb, (Array.getElem?_eq_some_iff.1 h).1, Nat.le_refl _, hc, fun j hj => ⟨?_, frozen_of_row _ _ j cs t h⟩, fun j u hu => ?_⟩⟩
  · rw [cell_of_row _ _ j cs t (0, 0) h]
    simpa using hj
  · rw [cell_of_row _ _ j cs t (0, 0) h]
    simpa using hu
theorem make_str (n : Nat) (hn : n * 16 ≤ 281474976710656) (W : World) : (Instr.makeSlice 50 (.int .i64 (n : Int)) (.int .i64 (n : Int))).run Try.prog W = .ok (.slice (some ⟨W.heap.size, 0, none⟩) n n) (W.alloc (.cells (scells (List.replicate n ByteArray.empty)).toArray 9)) := by
  have h := run_make_row' (P := Try.prog) 50 9 (.string ByteArray.empty) 16 Try.underlying50 (by kernel_rfl) rfl .i64 .i64 n (by omega) (by omega) W
  have e : madeCells #[.string ByteArray.empty] n = (scells (List.replicate n ByteArray.empty)).toArray := by
    apply Array.toList_inj.mp
    rw [toList_madeCells_one]
    simp [scells]
  rw [e] at h
  exact h
/-- So many of one text, then empty ones. -/
def repS (x : ByteArray) (k n : Nat) : List ByteArray := List.replicate k x ++ List.replicate (n - k) ByteArray.empty
theorem repS_splice (x : ByteArray) (k m n : Nat) (h : k + m ≤ n) : splice (scells (repS x k n)) k (scells (List.replicate m x)) = scells (repS x (k + m) n) := by
  unfold splice repS scells
  simp only [List.map_append, List.map_replicate, List.length_replicate]
  have e1 : n - k = m + (n - (k + m)) := by omega
  rw [e1, ← List.replicate_append_replicate, List.take_left' (by simp), ← List.append_assoc (List.replicate k _) (List.replicate m _) (List.replicate (n - (k + m)) _), List.drop_left' (by simp), ← List.append_assoc, List.replicate_append_replicate]

set_option maxHeartbeats 3200000 in
set_option maxRecDepth 20000 in
theorem repeatS_calls (x : ByteArray) (k n : Nat) (w : World) (hn : 1 ≤ n) (hn2 : n ≤ 1000000) (hR : RowAt w (some ⟨k, 0, none⟩) [.string x]) :
    Calls Try.prog 21 #[.slice (some ⟨k, 0, none⟩) 1 1, .int .i64 (n : Int)] w fun e w' => ∃ g, e = .returned (.slice (some ⟨g, 0, none⟩) n n) ∧ w.heap.size ≤ g ∧ Own w' w.heap.size 1 (.slice (some ⟨g, 0, none⟩) n n) n (scells (List.replicate n x)) ∧ Below w.heap.size w w' := by
  have HR : Box _ := ⟨hR⟩
  clear hR
  have hmk := fun W => make_str n (by omega) W
  have hsz : (Try.prog.info? 9).map (·.size) = some 1 := by kernel_rfl
  have HSZ : Box _ := ⟨hsz⟩
  clear hsz
  have HM : Box (∀ W, Calls Try.prog 39 #[.int .u64 1, .int .u64 (n : Int)] W fun e w' => e = .returned (.tuple #[.int .u64 0, .int .u64 (n : Int)]) ∧ W = w') := ⟨fun W => (Try.bits_Mul 1 n (by omega) (by omega) W).mono fun e w' ⟨he, hw⟩ => ⟨by
    rw [he]
    have e1 : 1 * n / 18446744073709551616 = 0 := by omega
    have e2 : 1 * n % 18446744073709551616 = n := by omega
    rw [e1, e2]; rfl, hw.symm⟩⟩
  have hwn : IntKind.u64.wrap (n : Int) = (n : Int) := by rw [IntKind.wrap_u64]; omega
  have hwi := IntWalk.i64_in (n : Int) (by omega)
  go_enter Try.func21, Try.ntmps21
  go_wp2_with fail
  refine (HM.out _).mono ?_
  rintro e w1 ⟨rfl, rfl⟩
  have HG0 : Box ((w.alloc (.cells (scells (repS x 0 n)).toArray 9)).heap[w.heap.size]? = some (.cells (scells (repS x 0 n)).toArray 9 (0, 0))) := ⟨heap_alloc_new w _⟩
  have e0 : repS x 0 n = List.replicate n ByteArray.empty := by simp [repS]
  rw [e0] at HG0
  have HE0 : Box _ := ⟨e0⟩
  have HLx : Box ((scells [x]).length = Nat.min 1 n) := ⟨by rw [show Nat.min 1 n = 1 from Nat.min_eq_left hn]; rfl⟩
  clear e0
  go_wp2_with (refine wpList_copy_splice rfl _ _ 50 50 rfl 9 Try.underlying50 HSZ.out _ _ n n 1 1 rfl rfl w.heap.size 0 (scells (List.replicate n ByteArray.empty)) 9 HG0.out (scells [x]) HLx.out (fun _ => ⟨rfl, ⟨k, 0, none⟩, rfl, fun j v hj => by rw [add0]; exact row_cell (HR.out.alloc _) hj⟩) (by simp [scells]; omega) (one_scells _) w.heap.size w ((Below.refl _ _).alloc (Nat.le_refl _) _) (Nat.le_refl _) ?_; intro w1 hg1 hb1; have HG1 : Box _ := ⟨hg1.out⟩; have HB1 : Box _ := ⟨hb1⟩; clear hg1 hb1)
  have e1 : splice (scells (List.replicate n ByteArray.empty)) 0 (scells [x]) = scells (repS x 1 n) := by
    have := repS_splice x 0 1 n (by omega)
    rw [HE0.out] at this
    simpa using this
  rw [e1] at HG1
  clear e1
  go_wp2_with fail
  go_loopw [8] (fun i wr => ∃ j : Nat, 1 ≤ j ∧ j ≤ n ∧ i = .int .i64 (j : Int) ∧ Box (wr.heap[w.heap.size]? = some (.cells (scells (repS x j n)).toArray 9 (0, 0))) ∧ Box (Below w.heap.size w wr)) (fun i _ => n - (intOf i).toNat)
  case atStart => exact ⟨1, by omega, hn, rfl, HG1, HB1⟩
  case round =>
    obtain ⟨j, hj1, hj, rfl, HG, HB⟩ := hrel
    by_cases hlt : j < n
    · have hnj : ¬ n = j := by omega
      have b1 : (0 : Int) ≤ (j : Int) := by omega
      have b2 : (j : Int) ≤ (n : Int) := by omega
      obtain ⟨m, hm⟩ : ∃ m, Nat.min j (n - j) = m := ⟨_, rfl⟩
      have hm1 : 1 ≤ m := by rw [← hm]; exact Nat.le_min.2 ⟨hj1, by omega⟩
      have hm2 : m ≤ j := by rw [← hm]; exact Nat.min_le_left _ _
      have hm3 : m ≤ n - j := by rw [← hm]; exact Nat.min_le_right _ _
      have HSP : Box (splice (scells (repS x j n)) j (scells (List.replicate m x)) = scells (repS x (j + m) n)) := ⟨repS_splice x j m n (by omega)⟩
      have HLN : Box ((scells (List.replicate m x)).length = Nat.min j (n - j)) := ⟨by rw [hm]; simp [scells]⟩
      have HLN2 : Box ((scells (List.replicate m x)).length = m) := ⟨by simp [scells]⟩
      have HCC : Box (∀ i v, (scells (List.replicate m x))[i]? = some v → wr.cell? ((⟨w.heap.size, 0, none⟩ : Addr).add i) = some v) := ⟨fun i v hv => by
        have hi := (List.getElem?_eq_some_iff.1 hv).1
        rw [HLN2.out] at hi
        rw [add0, cell_of_row _ _ i _ _ (0, 0) HG.out]
        have e2 : (scells (repS x j n))[i]? = some (.string x) := by
          unfold repS scells
          rw [List.map_append, List.getElem?_append_left (by simp; omega), List.map_replicate, List.getElem?_replicate, if_pos (by omega)]
        have e3 : v = .string x := by
          rw [scells, List.map_replicate, List.getElem?_replicate, if_pos hi] at hv
          injection hv with hv
          exact hv.symm
        rw [e3, List.getElem?_toArray]
        exact e2⟩
      have HF1 : Box (j + (scells (List.replicate m x)).length ≤ (scells (repS x j n)).length) := ⟨by rw [HLN2.out]; simp [scells, repS]; omega⟩
      clear hm
      obtain ⟨wo, rfl⟩ : ∃ wo : World, wo = wr := ⟨_, rfl⟩
      go_wp2_with fail
      go_region_held3 (fun _ => True) (trivial)
        ((refine step_copy_splice rfl _ _ 50 50 rfl 9 Try.underlying50 HSZ.out _ _ _ _ _ _ rfl rfl w.heap.size j (scells (repS x j n)) 9 HG.out (scells (List.replicate m x)) HLN.out (fun _ => ⟨rfl, ⟨w.heap.size, 0, none⟩, rfl, HCC.out⟩) HF1.out (one_scells _) w.heap.size w (bel_drew HB.out) (Nat.le_refl _) ?_; intro w2 hg2 hb2; have HG2 : Box _ := ⟨hg2.out⟩; have HB2 : Box _ := ⟨hb2⟩; clear hg2 hb2))
      all_goals
        rw [HSP.out] at HG2
        go_wp2_with fail
        go_roundw
        case rel => exact ⟨j + m, by omega, by omega, by rw [HLN2.out, IntWalk.i64_in _ (by omega)]; go_num, HG2, HB2⟩
        case measure => rw [HLN2.out, IntWalk.i64_in _ (by omega)]; simp [intOf]; omega
    · obtain rfl : j = n := by omega
      go_wp2_with fail
      go_ret
      have hO := own_block (base := w.heap.size) HG.out (Nat.le_refl _) (by simp [scells, repS, maxLen]; omega)
      refine ⟨w.heap.size, rfl, Nat.le_refl _, ?_, HB.out⟩
      simpa [scells, repS] using hO
end Go.Proofs.Ytbnkmndgfmmiaaa
