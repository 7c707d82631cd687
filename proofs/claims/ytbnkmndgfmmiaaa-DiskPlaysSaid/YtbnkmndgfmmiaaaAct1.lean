/- act: Flush; Restore; what is nothing. -/
import Derived.Test.YtbnkmndgfmmiaaaAct0
namespace Go.Proofs.Ytbnkmndgfmmiaaa
open Go.RowKit
set_option linter.unusedVariables false

def DOpV.val (o : DOpV) : Value := .agg #[.int .i64 o.kind, .int .i64 o.n, .slice o.a1 o.n1 o.c1, .bool o.own, .slice o.a2 o.n2 o.c2]
def opW (w : World) (o : DOpV) : World := w.alloc (.cells #[.int .i64 o.kind, .int .i64 o.n, .slice o.a1 o.n1 o.c1, .bool o.own, .slice o.a2 o.n2 o.c2] 34)
theorem opW_below (w : World) (o : DOpV) : Below w.heap.size w (opW w o) := (Below.refl _ _).alloc (Nat.le_refl _) _
theorem opW_size (w : World) (o : DOpV) : (opW w o).heap.size = w.heap.size + 1 := by simp [opW]
theorem opW_cells (w : World) (o : DOpV) : (opW w o).cell? ⟨w.heap.size, 0, none⟩ = some (.int .i64 o.kind) ∧ (opW w o).cell? ⟨w.heap.size, 1, none⟩ = some (.int .i64 o.n) ∧ (opW w o).cell? ⟨w.heap.size, 2, none⟩ = some (.slice o.a1 o.n1 o.c1) ∧ (opW w o).cell? ⟨w.heap.size, 3, none⟩ = some (.bool o.own) ∧ (opW w o).cell? ⟨w.heap.size, 4, none⟩ = some (.slice o.a2 o.n2 o.c2) := by
  have hb : (opW w o).heap[w.heap.size]? = some (.cells #[.int .i64 o.kind, .int .i64 o.n, .slice o.a1 o.n1 o.c1, .bool o.own, .slice o.a2 o.n2 o.c2] 34 (0, 0)) := heap_alloc_new w _
  exact ⟨cell_of_row _ _ 0 _ _ (0, 0) hb, cell_of_row _ _ 1 _ _ (0, 0) hb, cell_of_row _ _ 2 _ _ (0, 0) hb, cell_of_row _ _ 3 _ _ (0, 0) hb, cell_of_row _ _ 4 _ _ (0, 0) hb⟩
section
variable {w0 w : World} {gd gp : Nat} {Fd Fp : List Nat} {D P : DSt}
theorem ActTo.of {w1 w2 : World} {D' P' : DSt} (hb : Below w.heap.size w w1) (h : TwoTo w0 w1 w2 gd gp Fd Fp D' P') (h1 : D'.ws.length + D'.many ≤ D.ws.length + D.many + 12000) (h2 : ∀ N, Len N P → Len N P') : ActTo w0 w w2 gd gp Fd Fp D P := ⟨⟨D', P', h.after hb, h1, h2⟩⟩

set_option maxHeartbeats 1600000 in
set_option maxRecDepth 100000 in
theorem act_flush (T : Two w0 w gd gp Fd Fp D P) (o : DOpV) (hk : o.kind = 2) :
    Calls Try.prog 10 #[.pointer (some ⟨gd, 0, none⟩), .pointer (some ⟨gp, 0, none⟩), o.val] w fun e w' => e = .returned (.bool true) ∧ ActTo w0 w w' gd gp Fd Fp D P := by
  obtain ⟨q0, q1, q2, q3, q4⟩ := opW_cells w o
  have hbW := opW_below w o
  have T1 : Box _ := ⟨T.below hbW⟩
  have HB : Box _ := ⟨hbW⟩
  have HRM : Box _ := ⟨flushD_room D⟩
  have HLN : Box (∀ N, Len N P → Len N (flushP P).1) := ⟨fun N h => len_flush h⟩
  obtain ⟨hl1, hl2⟩ := T.like.flush
  have HLK : Box _ := ⟨hl1⟩
  have HF : Box _ := ⟨diskFlush_o T1.out.d T1.out.bel.size T1.out.armD⟩
  have HG : Box (∀ w2, DiskTo w0 (opW w o) w2 gd Fd (flushD D).1 → Calls Try.prog 30 #[.pointer (some ⟨gp, 0, none⟩)] w2 fun e w' => e = .returned (.int .i64 (flushP P).2) ∧ PlainTo w0 w2 w' gp Fp (flushP P).1) := ⟨fun w2 h => plainFlush_o (T1.out.ptr h).1 (T1.out.ptr h).2 T1.out.armP⟩
  rw [hl2] at HF
  obtain ⟨r, hr⟩ : ∃ r, (flushP P).2 = r := ⟨_, rfl⟩
  rw [hr] at HF HG
  rw [hk] at q0
  unfold DOpV.val
  rw [hk]
  clear hr hl1 hl2 T q1 q2 q3 q4 hbW
  unfold opW at T1 HB HF HG q0
  rw [hk] at T1 HB HF HG q0
  go_enter Try.func10, Try.ntmps10
  go_wp2_with fail
  refine HF.out.mono ?_
  rintro e w2 ⟨rfl, h2⟩
  have HG2 : Box _ := ⟨HG.out w2 h2⟩
  have H2 : Box _ := ⟨h2⟩
  clear h2
  go_wp2_with fail
  refine HG2.out.mono ?_
  rintro e w3 ⟨rfl, h3⟩
  have H3 : Box _ := ⟨h3⟩
  clear h3
  go_wp2_with fail
  go_ret
  exact ⟨rfl, ActTo.of HB.out (TwoTo.of T1.out H2.out H3.out HLK.out) (by have := HRM.out; omega) HLN.out⟩

set_option maxHeartbeats 1600000 in
set_option maxRecDepth 100000 in
theorem act_restore (T : Two w0 w gd gp Fd Fp D P) (o : DOpV) (hk : o.kind = 4) :
    Calls Try.prog 10 #[.pointer (some ⟨gd, 0, none⟩), .pointer (some ⟨gp, 0, none⟩), o.val] w fun e w' => e = .returned (.bool true) ∧ ActTo w0 w w' gd gp Fd Fp D P := by
  obtain ⟨q0, q1, q2, q3, q4⟩ := opW_cells w o
  have hbW := opW_below w o
  have T1 : Box _ := ⟨T.below hbW⟩
  have HB : Box _ := ⟨hbW⟩
  have HLK : Box _ := ⟨T.like.restore⟩
  have HF : Box _ := ⟨diskRestore_o T1.out.d T1.out.bel.size⟩
  rw [hk] at q0
  unfold DOpV.val
  rw [hk]
  clear T q1 q2 q3 q4 hbW
  unfold opW at T1 HB HF q0
  rw [hk] at T1 HB HF q0
  go_enter Try.func10, Try.ntmps10
  go_wp2_with fail
  refine HF.out.mono ?_
  rintro e w2 ⟨rfl, h2⟩
  obtain ⟨h3, v, hv, hf⟩ := plain_on (T1.out.ptr h2).1
  have H2 : Box _ := ⟨h2⟩
  have H3 : Box _ := ⟨h3⟩
  clear h2 h3
  go_wp2_with fail
  go_ret
  exact ⟨rfl, ActTo.of HB.out (TwoTo.of T1.out H2.out H3.out HLK.out) (by show D.ws.length + D.many ≤ _; omega) (fun N h => h)⟩

set_option maxHeartbeats 1600000 in
set_option maxRecDepth 100000 in
theorem act_other (T : Two w0 w gd gp Fd Fp D P) (o : DOpV) (h1 : o.kind ≠ 1) (h2 : o.kind ≠ 2) (h3 : o.kind ≠ 3) (h4 : o.kind ≠ 4) (h5 : o.kind ≠ 5) :
    Calls Try.prog 10 #[.pointer (some ⟨gd, 0, none⟩), .pointer (some ⟨gp, 0, none⟩), o.val] w fun e w' => e = .returned (.bool true) ∧ ActTo w0 w w' gd gp Fd Fp D P := by
  obtain ⟨q0, q1, q2, q3, q4⟩ := opW_cells w o
  have HB : Box _ := ⟨opW_below w o⟩
  have HT : Box _ := ⟨T⟩
  unfold DOpV.val
  clear T q1 q2 q3 q4
  unfold opW at HB q0
  obtain ⟨x, hx⟩ : ∃ x, o.kind = x := ⟨_, rfl⟩
  rw [hx] at h1 h2 h3 h4 h5 HB q0 ⊢
  have e1 : (x == 1) = false := by simpa using h1
  have e2 : (x == 2) = false := by simpa using h2
  have e3 : (x == 3) = false := by simpa using h3
  have e4 : (x == 4) = false := by simpa using h4
  have e5 : (x == 5) = false := by simpa using h5
  clear hx h1 h2 h3 h4 h5
  go_enter Try.func10, Try.ntmps10
  go_wp2_with fail
  go_ret
  exact ⟨rfl, ActTo.of HB.out (TwoTo.refl (HT.out.below HB.out) (Below.refl _ _)) (by omega) (fun N h => h)⟩
end
end Go.Proofs.Ytbnkmndgfmmiaaa
