/- mark.Lay: a fingerprint in bytes. -/
import Derived.Test.YtbkankpfkbafdaaDoorBundle7
import Derived.Test.YtbkankpfkbafdaaDoorBundle8
namespace Go.Proofs.YtbkankpfkbafdaaDoor
open Go.RowKit
set_option linter.unusedVariables false

def layL (k : Int) (s : ByteArray) : List UInt8 := lowL k.toNat 1 ++ (s.data.toList ++ List.replicate (32 - s.size) 0)
def layM (k : Int) (s : ByteArray) : ByteArray × Int := if validM k s = true then (⟨(layL k s).toArray⟩, 0) else (ByteArray.empty, 1)
theorem validM_true {k : Int} {s : ByteArray} (h : validM k s = true) : (k = 1 ∧ s.size = 20) ∨ (k = 2 ∧ s.size = 32) := by
  simp only [validM, Bool.and_eq_true, decide_eq_true_eq] at h
  rcases sizeM_vals k with ⟨h1, h2⟩ | ⟨h1, h2⟩ | ⟨_, _, h2⟩ <;> omega
theorem lay_laid {k : Int} {s : ByteArray} (h : validM k s = true) :
    ∃ m1 m2, layO 1 (0, []) [k] = (0, m1) ∧ rawO (0, m1) [s] = (0, m2) ∧ padO (0, m2) 33 = (0, layL k s) ∧ m1.length = 1 ∧ m2.length ≤ 33 ∧ s.size ≤ 32 ∧ 1 ≤ k ∧ k ≤ 2 := by
  have hv := validM_true h
  refine ⟨_, (([] ++ [k].flatMap fun x : Int => lowL x.toNat 1) ++ s.data.toList), layO_fine 1 [] [k] (by intro x hx; simp at hx; subst hx; exact layB_fine (by omega) (.inr (by simp; omega))), ?_, ?_, ?_, ?_, by omega, by omega, by omega⟩
  · rw [rawO, if_neg (by simp), joinB_single]
  · have e : (([] ++ [k].flatMap fun x : Int => lowL x.toNat 1) ++ s.data.toList).length = 1 + s.size := by simp [lowL_length]
    rw [padO, if_neg (by simp), if_neg (by omega), if_neg (by simp only [e]; omega)]
    simp only [e]
    rw [show (33 : Int).toNat - (1 + s.size) = 32 - s.size by omega]
    simp [layL]
  · simp [lowL_length]
  · simp [lowL_length]; omega
set_option maxHeartbeats 3200000 in
set_option maxRecDepth 100000 in
theorem lay_calls (k : Int) (s : ByteArray) (w : World) : Calls Tryd.prog 8 #[.agg #[.int .i64 k, .string s]] w fun e w' => e = .returned (.tuple #[.string (layM k s).1, .int .i64 (layM k s).2]) ∧ Below w.heap.size w w' := by
  have HP : Box _ := ⟨PrintAt.new w k s⟩
  have HB0 : Box _ := ⟨bel_alloc (Below.refl w.heap.size w) (.cells #[.int .i64 k, .string s] 24)⟩
  have HV : Box _ := ⟨valid_calls k s⟩
  by_cases hv : validM k s = true
  case neg =>
    have hv2 : validM k s = false := by simpa using hv
    have e : layM k s = (ByteArray.empty, 1) := by rw [layM, if_neg hv]
    rw [e]
    rw [hv2] at HV
    clear e hv hv2
    go_enter Tryd.func8, Tryd.ntmps8
    go_wp2_with fail
    refine (HV.out _).mono ?_
    rintro e w1 ⟨rfl, hb⟩
    have HB1 : Box _ := ⟨bel_calls HB0.out hb⟩
    clear hb
    go_wp2_with fail
    go_ret2
    exact ⟨rfl, HB1.out⟩
  have e : layM k s = (⟨(layL k s).toArray⟩, 0) := by rw [layM, if_pos hv]
  rw [e]
  rw [hv] at HV
  obtain ⟨m1, m2, e1, e2, e3, z1, z2, z3, z4, z5⟩ := lay_laid hv
  obtain ⟨M, hM⟩ : ∃ M, layL k s = M := ⟨_, rfl⟩
  rw [hM] at e3 ⊢
  have e4 : endO (0, M) = (⟨M.toArray⟩, 0) := rfl
  obtain ⟨S, hS⟩ : ∃ S : ByteArray, ⟨M.toArray⟩ = S := ⟨_, rfl⟩
  rw [hS] at e4 ⊢
  have HE : Box (layO 1 (0, []) [k] = (0, m1) ∧ rawO (0, m1) [s] = (0, m2) ∧ padO (0, m2) 33 = (0, M) ∧ endO (0, M) = (S, 0)) := ⟨e1, e2, e3, e4⟩
  have HZ : Box (m1.length = 1 ∧ m2.length ≤ 33 ∧ s.size ≤ 32 ∧ 1 ≤ k ∧ k ≤ 2) := ⟨z1, z2, z3, z4, z5⟩
  clear e e1 e2 e3 e4 z1 z2 z3 z4 z5 hM hS hv
  have C1 : Box (∀ W g b L, OutR w W g (0, []) L → (b, icells [k]) ∈ L → _) := ⟨fun W g b L h hm => outByte_row (b := b) h 1 1 [k] hm rfl (by omega) (by simp) (by have := HZ.out; intro z hz; simp at hz; omega)⟩
  have C2 : Box (∀ W g b L, OutR w W g (0, m1) L → (b, scells [s]) ∈ L → _) := ⟨fun W g b L h hm => outRaw_row (b := b) h 1 1 [s] hm rfl (by omega) (by have := HZ.out; simp only [totalLen, List.map_cons, List.map_nil, List.sum_cons, List.sum_nil]; omega)⟩
  have C3 : Box (∀ W g L, OutR w W g (0, m2) L → _) := ⟨fun W g L h => outPad_row h 33⟩
  have C4 : Box (∀ W g L, OutR w W g (0, M) L → _) := ⟨fun W g L h => outEnd_row h⟩
  rw [HE.out.1] at C1
  rw [HE.out.2.1] at C2
  rw [HE.out.2.2.1] at C3
  rw [HE.out.2.2.2] at C4
  go_enter Tryd.func8, Tryd.ntmps8
  go_wp2_with fail
  refine (HV.out _).mono ?_
  rintro e w1 ⟨rfl, hb⟩
  have HP1 : Box _ := ⟨HP.out.below hb⟩
  have R0 : Box (RowsR w w1 [(w.heap.size, [.int .i64 k, .string s])]) := ⟨⟨by
    intro r hr
    simp at hr
    subst hr
    exact ⟨HP1.out.lt, .inr ⟨_, rfl, fun j u hj => by
      rw [add0]
      rcases j with _ | _ | j
      · simp at hj; subst hj; exact HP1.out.c0
      · simp at hj; subst hj; exact HP1.out.c1
      · simp at hj⟩⟩, bel_calls HB0.out hb⟩⟩
  have KK : Box (∀ W, Below w1.heap.size w1 W → W.cell? ⟨w.heap.size, 0, none⟩ = some (.int .i64 k) ∧ W.cell? ⟨w.heap.size, 1, none⟩ = some (.string s)) := ⟨fun W h => ⟨(HP1.out.below h).c0, (HP1.out.below h).c1⟩⟩
  clear hb
  go_wp2_with fail
  go_region_held3 (fun w' => w'.cell? ⟨w.heap.size, 0, none⟩ = some (.int .i64 k) ∧ w'.cell? ⟨w.heap.size, 1, none⟩ = some (.string s)) (first | exact ⟨p8, p9⟩ | exact ⟨p6, p7⟩ | exact ⟨p4, p5⟩ | exact ⟨p2, p3⟩ | exact ⟨cell_kept (bel_drew (bel_alloc (Below.refl _ _) _)) (Nat.le_refl _) p2, cell_kept (bel_drew (bel_alloc (Below.refl _ _) _)) (Nat.le_refl _) p3⟩ | exact KK.out _ (by repeat (first | exact Below.refl _ _ | apply bel_drew | apply bel_alloc)))
    (first
      | (go_at_call 29; refine Calls.mono (C1.out _ _ _ _ (by first
          | exact ((R0.out.newOut rfl).allocRow _ _).drew
          | exact ((R0.out.allocRow [.int .i64 k] _).newOut (by simp)).drew
          | exact (((R0.out.newOut rfl).allocRow [.int .i64 k] _).allocRow [.string s] _).drew
          | exact (((R0.out.newOut rfl).allocRow [.string s] _).allocRow [.int .i64 k] _).drew
          | exact (((R0.out.allocRow [.string s] _).newOut (by simp)).allocRow [.int .i64 k] _).drew
          | exact (((R0.out.allocRow [.int .i64 k] _).newOut (by simp)).allocRow [.string s] _).drew
          | exact (((R0.out.allocRow [.int .i64 k] _).allocRow [.string s] _).newOut (by simp)).drew
          | exact (((R0.out.allocRow [.string s] _).allocRow [.int .i64 k] _).newOut (by simp)).drew) (by simp [icells])) ?_; rintro e w4 ⟨rfl, h4⟩; have H4 : Box _ := ⟨h4⟩; have p2 := h4.cell (b := w.heap.size) (cs := [.int .i64 k, .string s]) (j := 0) (by simp) rfl; have p3 := h4.cell (b := w.heap.size) (cs := [.int .i64 k, .string s]) (j := 1) (by simp) rfl; clear h4)
      | (go_at_call 30; refine Calls.mono (C2.out _ _ _ _ (by first
          | exact H4.out
          | exact H4.out.allocRow [.string s] _) (by simp [scells])) ?_; rintro e w5 ⟨rfl, h5⟩; have H5 : Box _ := ⟨h5⟩; have p4 := h5.cell (b := w.heap.size) (cs := [.int .i64 k, .string s]) (j := 0) (by simp) rfl; have p5 := h5.cell (b := w.heap.size) (cs := [.int .i64 k, .string s]) (j := 1) (by simp) rfl; clear h5)
      | (go_at_call 31; refine Calls.mono (C3.out _ _ _ H5.out) ?_; rintro e w6 ⟨rfl, h6⟩; have H6 : Box _ := ⟨h6⟩; have p6 := h6.cell (b := w.heap.size) (cs := [.int .i64 k, .string s]) (j := 0) (by simp) rfl; have p7 := h6.cell (b := w.heap.size) (cs := [.int .i64 k, .string s]) (j := 1) (by simp) rfl; clear h6)
      | (go_at_call 32; refine Calls.mono (C4.out _ _ _ H6.out) ?_; rintro e w7 ⟨rfl, h7⟩; have H7 : Box _ := ⟨h7⟩; have p8 := h7.cell (b := w.heap.size) (cs := [.int .i64 k, .string s]) (j := 0) (by simp) rfl; have p9 := h7.cell (b := w.heap.size) (cs := [.int .i64 k, .string s]) (j := 1) (by simp) rfl; clear h7))
  all_goals
    go_wp2_with fail
    go_ret2
    exact ⟨rfl, H7.out.bel⟩
end Go.Proofs.YtbkankpfkbafdaaDoor
