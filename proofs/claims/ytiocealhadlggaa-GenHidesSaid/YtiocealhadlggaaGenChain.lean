/- The law GenChain. -/
import Derived.Test.YtiocealhadlggaaGenForm
namespace Go.Proofs.Ytiocealhadlggaa
open Go.RowKit
set_option linter.unusedVariables false

set_option maxHeartbeats 1000000 in
set_option maxRecDepth 100000 in
theorem genAlive_calls (w : World) : Calls Try.prog 5 #[] w fun e w' => e = .returned (.bool true) ∧ Below w.heap.size w w' := by
  have hm1 : ∀ w : World, (method 256 38 (commonV (.iface 84 (rule 32 64 128 7 5)) 3) "Gen").run Try.prog w = .ok (11, commonV (.iface 84 (rule 32 64 128 7 5)) 3) w := fun _ => by kernel_rfl
  have hm2 : ∀ w : World, (method 256 38 (commonV (.iface 84 (rule 32 64 128 7 5)) 3) "Kind").run Try.prog w = .ok (8, commonV (.iface 84 (rule 32 64 128 7 5)) 3) w := fun _ => by kernel_rfl
  have hm3 : ∀ w : World, (method 256 38 (commonV (.iface 84 (rule 32 64 128 7 5)) 3) "Next").run Try.prog w = .ok (10, commonV (.iface 84 (rule 32 64 128 7 5)) 3) w := fun _ => by kernel_rfl
  have hm4 : ∀ w : World, (method 256 38 (commonV (.iface 84 (rule 32 64 128 7 5)) 3) "Name").run Try.prog w = .ok (79, commonV (.iface 84 (rule 32 64 128 7 5)) 3) w := fun _ => by kernel_rfl
  go_enter Try.func5, Try.ntmps5
  go_wp2_with fail
  refine (GForm.three.of _).mono ?_
  rintro e w1 ⟨rfl, hb1⟩
  have HB1 := Lib.hid hb1
  clear hb1
  go_wp2_with fail
  refine (gen_calls _ _ _ _).mono ?_
  rintro e w2 ⟨rfl, hb2⟩
  have HB2 := Lib.hid (below_trans' HB1.out hb2)
  clear hb2
  go_wp2_with fail
  refine (kind_calls _ _ _ _).mono ?_
  rintro e w3 ⟨rfl, hb3⟩
  have HB3 := Lib.hid (below_trans' HB2.out hb3)
  clear hb3
  go_wp2_with fail
  refine (nextThree_calls _ _ _ _).mono ?_
  rintro e w4 ⟨rfl, hb4⟩
  have HB4 := Lib.hid (below_trans' HB3.out hb4)
  clear hb4
  go_wp2_with fail
  refine (nameThree_calls _ _ _).mono ?_
  rintro e w5 ⟨rfl, hb5⟩
  have HB5 := Lib.hid (below_trans' HB4.out hb5)
  clear hb5
  go_wp2
  go_ret
  exact ⟨rfl, HB5.out⟩
theorem cutEven_of (s : ByteArray) (hs : s.size ≤ 1000000) (A : Option Addr) (W : World) (hR : RowAt W A (scells [s])) :
    Calls Try.prog 101 #[.agg #[.int .i64 64], .slice A 1 1] W fun e w' => ∃ v, e = .returned v ∧ Own w' W.heap.size 2 v (cutA (minF 64) 0 s.data.toList).length (pcells (cutA (minF 64) 0 s.data.toList)) ∧ Below W.heap.size W w' := by
  have ht1 : totalLen [s] = s.size := by simp [totalLen]
  have h1 := evenCut_calls 64 A 1 1 [s] W (by omega) rfl (by omega) (by rw [ht1]; omega) hR
  rw [ht1, fixedZ_pos (by omega), ← data_length s, ← fixed_cut (by decide)] at h1
  exact h1
theorem cutUneven_of (s : ByteArray) (hs : s.size ≤ 1000000) (A : Option Addr) (W : World) (hR : RowAt W A (scells [s])) :
    Calls Try.prog 104 #[rule 32 64 128 7 5, .slice A 1 1] W fun e w' => ∃ v, e = .returned v ∧ Own w' W.heap.size 2 v (cutA (firstN 32 64 128 7 5) 0 s.data.toList).length (pcells (cutA (firstN 32 64 128 7 5) 0 s.data.toList)) ∧ Below W.heap.size W w' := by
  have ht1 : totalLen [s] = s.size := by simp [totalLen]
  have h := cdcCut_calls 32 64 128 7 5 A 1 1 [s] W rfl (by omega) (by omega) (by rw [ht1]; omega) hR
  rw [show joinB [s] = s by simp [joinB]] at h
  exact h
set_option maxHeartbeats 4000000 in
set_option maxRecDepth 100000 in
theorem genChain_calls (s : ByteArray) (w : World) (_hss : s.size ≤ 140737488351232) : Calls Try.prog 4 #[.string s] w fun e w' => e = .returned (.bool true) ∧ Below w.heap.size w w' := by
  by_cases hin : s.size ≤ 600
  case neg =>
    go_enter Try.func4, Try.ntmps4
    go_wp2_with fail
    refine (genAlive_calls _).mono ?_
    rintro e w1 ⟨rfl, hb1⟩
    have HB1 := Lib.hid hb1
    clear hb1
    go_wp2
    go_ret
    exact ⟨rfl, HB1.out⟩
  go_enter Try.func4, Try.ntmps4
  go_wp2_with fail
  refine (genAlive_calls _).mono ?_
  rintro e w1 ⟨rfl, hb1⟩
  have HB1 := Lib.hid hb1
  clear hb1
  go_wp2_with fail
  go_loopw [3, 4] (fun vn va wr => ∃ k : Nat, k ≤ 3 ∧ vn = .int .i64 k ∧ va = .int .i64 (if k < 3 then (k : Int) + 1 else 0) ∧ Hid (Below w.heap.size w wr)) (fun vn _ _ => 3 - (intOf vn).toNat)
  case atStart => exact ⟨0, by omega, rfl, rfl, HB1⟩
  case round =>
    obtain ⟨k, hk, rfl, rfl, HW⟩ := hrel
    rcases (by omega : k = 0 ∨ k = 1 ∨ k = 2 ∨ k = 3) with rfl | rfl | rfl | rfl
    · have hmP : ∀ w : World, (method 256 33 (commonV (.iface 80 (.agg #[.int .i64 64])) 1) "Print").run Try.prog w = .ok (13, (commonV (.iface 80 (.agg #[.int .i64 64])) 1)) w := fun _ => by kernel_rfl
      have hmC : ∀ w : World, (method 256 33 (commonV (.iface 80 (.agg #[.int .i64 64])) 1) "Cut").run Try.prog w = .ok (101, (.agg #[.int .i64 64])) w := fun _ => by kernel_rfl
      have hmA : ∀ w : World, (method 256 33 (commonV (.iface 80 (.agg #[.int .i64 64])) 1) "Again").run Try.prog w = .ok (78, (commonV (.iface 80 (.agg #[.int .i64 64])) 1)) w := fun _ => by kernel_rfl
      have hmN : ∀ w : World, (method 256 33 (commonV (.iface 80 (.agg #[.int .i64 64])) 1) "Next").run Try.prog w = .ok (9, (commonV (.iface 80 (.agg #[.int .i64 64])) 1)) w := fun _ => by kernel_rfl
      have hPr := fun tc vc A W hR => commonPrint_calls tc vc 1 A 1 1 [s] W (by omega) rfl (by omega) (by omega) (by simp [totalLen]; omega) hR
      rw [show kindG 1 = 1 from rfl, joinB_single] at hPr
      have hRp := fun W => refPrint_calls 1 s W (by omega)
      obtain ⟨p, hp⟩ : ∃ p, refPrintM 1 s = p := ⟨_, rfl⟩
      rw [hp] at hPr hRp
      have hCt := fun A W hR => cutEven_of s (by omega) A W hR
      have hRf := fun W => Form.one.ref s W (by omega)
      have hAg := fun W => commonAgain_calls Form.one.cutter 1 s W (by omega)
      have hnn := cutA_length Form.one.cutter.best.toGood s.data.toList.length 0 s.data.toList (Nat.le_refl _)
      rw [data_length] at hnn
      obtain ⟨L, hL⟩ : ∃ L, cutA (minF 64) 0 s.data.toList = L := ⟨_, rfl⟩
      rw [hL] at hCt hRf hAg hnn
      obtain ⟨N, hN⟩ : ∃ N, L.length = N := ⟨_, rfl⟩
      rw [hN] at hCt hRf hAg hnn
      have hSm := fun A B c d W hR hS => refSameSpans_calls A B N N c d L L W hN hN (by omega) hR hS
      rw [decide_eq_true (rfl : L = L)] at hSm
      have HPr := Lib.hid hPr
      have HRp := Lib.hid hRp
      have HCt := Lib.hid hCt
      have HRf := Lib.hid hRf
      have HAg := Lib.hid hAg
      have HSm := Lib.hid hSm
      clear hPr hRp hp hCt hRf hAg hnn hL hN hSm
      go_wp2_with fail
      refine (GForm.one.of _).mono ?_
      rintro e y1 ⟨rfl, hb⟩
      have Y1 := Lib.hid (below_trans' HW.out hb)
      clear hb
      go_wp2_with fail
      refine Calls.mono (HPr.out _ _ _ _ (rowAt_alloc y1 (scells [s]) _)) ?_
      rintro e y2 ⟨rfl, hb⟩
      have Y2 := Lib.hid (below_trans' (Y1.out.alloc Y1.out.size _) hb)
      clear hb
      go_wp2_with fail
      refine Calls.mono (HRp.out _) ?_
      rintro e y3 ⟨rfl, hb⟩
      have Y3 := Lib.hid (below_trans' Y2.out hb)
      clear hb
      go_wp2_with fail
      refine Calls.mono (HCt.out _ _ (rowAt_alloc y3 (scells [s]) _)) ?_
      rintro e y4 ⟨v, rfl, ho, hb⟩
      obtain ⟨A4, c4, rfl, _, hr4, _⟩ := ho.slice
      have HR4 := Lib.hid hr4
      have Y4 := Lib.hid (below_trans' (Y3.out.alloc Y3.out.size _) hb)
      clear hb ho hr4
      go_wp2_with fail
      refine Calls.mono (HRf.out _) ?_
      rintro e y5 ⟨v, rfl, ho, hb⟩
      obtain ⟨A5, c5, rfl, _, hr5, _⟩ := ho.slice
      have HR5 := Lib.hid hr5
      have HR4b := Lib.hid (HR4.out.below hb)
      have Y5 := Lib.hid (below_trans' Y4.out hb)
      clear hb ho hr5
      go_wp2_with fail
      refine Calls.mono (HSm.out _ _ _ _ _ HR4b.out HR5.out) ?_
      rintro e y6 ⟨rfl, hb⟩
      have Y6 := Lib.hid (below_trans' Y5.out hb)
      clear hb
      go_wp2_with fail
      refine Calls.mono (HAg.out _) ?_
      rintro e y7 ⟨v, rfl, ho, hb⟩
      obtain ⟨A7, c7, rfl, _, hr7, _⟩ := ho.slice
      have HR7 := Lib.hid hr7
      have Y7 := Lib.hid (below_trans' Y6.out hb)
      clear hb ho hr7
      go_wp2_with fail
      refine Calls.mono (HRf.out _) ?_
      rintro e y8 ⟨v, rfl, ho, hb⟩
      obtain ⟨A8, c8, rfl, _, hr8, _⟩ := ho.slice
      have HR8 := Lib.hid hr8
      have HR7b := Lib.hid (HR7.out.below hb)
      have Y8 := Lib.hid (below_trans' Y7.out hb)
      clear hb ho hr8
      go_wp2_with fail
      refine Calls.mono (HSm.out _ _ _ _ _ HR7b.out HR8.out) ?_
      rintro e y9 ⟨rfl, hb⟩
      have Y9 := Lib.hid (below_trans' Y8.out hb)
      clear hb
      go_wp2_with fail
      refine (next_calls _ _ _ _ (by omega)).mono ?_
      rintro e y10 ⟨rfl, hb⟩
      have Y10 := Lib.hid (below_trans' Y9.out hb)
      clear hb
      go_wp2
      go_roundw
      case rel => exact ⟨1, by omega, rfl, rfl, Y10⟩
      case measure => simp [intOf]
    · have hmP : ∀ w : World, (method 256 35 (commonV (.iface 84 (rule 32 64 128 7 5)) 2) "Print").run Try.prog w = .ok (13, (commonV (.iface 84 (rule 32 64 128 7 5)) 2)) w := fun _ => by kernel_rfl
      have hmC : ∀ w : World, (method 256 35 (commonV (.iface 84 (rule 32 64 128 7 5)) 2) "Cut").run Try.prog w = .ok (104, (rule 32 64 128 7 5)) w := fun _ => by kernel_rfl
      have hmA : ∀ w : World, (method 256 35 (commonV (.iface 84 (rule 32 64 128 7 5)) 2) "Again").run Try.prog w = .ok (78, (commonV (.iface 84 (rule 32 64 128 7 5)) 2)) w := fun _ => by kernel_rfl
      have hmN : ∀ w : World, (method 256 35 (commonV (.iface 84 (rule 32 64 128 7 5)) 2) "Next").run Try.prog w = .ok (9, (commonV (.iface 84 (rule 32 64 128 7 5)) 2)) w := fun _ => by kernel_rfl
      have hPr := fun tc vc A W hR => commonPrint_calls tc vc 2 A 1 1 [s] W (by omega) rfl (by omega) (by omega) (by simp [totalLen]; omega) hR
      rw [show kindG 2 = 2 from rfl, joinB_single] at hPr
      have hRp := fun W => refPrint_calls 2 s W (by omega)
      obtain ⟨p, hp⟩ : ∃ p, refPrintM 2 s = p := ⟨_, rfl⟩
      rw [hp] at hPr hRp
      have hCt := fun A W hR => cutUneven_of s (by omega) A W hR
      have hRf := fun W => Form.two.ref s W (by omega)
      have hAg := fun W => commonAgain_calls Form.two.cutter 2 s W (by omega)
      have hnn := cutA_length Form.two.cutter.best.toGood s.data.toList.length 0 s.data.toList (Nat.le_refl _)
      rw [data_length] at hnn
      obtain ⟨L, hL⟩ : ∃ L, cutA (firstN 32 64 128 7 5) 0 s.data.toList = L := ⟨_, rfl⟩
      rw [hL] at hCt hRf hAg hnn
      obtain ⟨N, hN⟩ : ∃ N, L.length = N := ⟨_, rfl⟩
      rw [hN] at hCt hRf hAg hnn
      have hSm := fun A B c d W hR hS => refSameSpans_calls A B N N c d L L W hN hN (by omega) hR hS
      rw [decide_eq_true (rfl : L = L)] at hSm
      have HPr := Lib.hid hPr
      have HRp := Lib.hid hRp
      have HCt := Lib.hid hCt
      have HRf := Lib.hid hRf
      have HAg := Lib.hid hAg
      have HSm := Lib.hid hSm
      clear hPr hRp hp hCt hRf hAg hnn hL hN hSm
      go_wp2_with fail
      refine (GForm.two.of _).mono ?_
      rintro e y1 ⟨rfl, hb⟩
      have Y1 := Lib.hid (below_trans' HW.out hb)
      clear hb
      go_wp2_with fail
      refine Calls.mono (HPr.out _ _ _ _ (rowAt_alloc y1 (scells [s]) _)) ?_
      rintro e y2 ⟨rfl, hb⟩
      have Y2 := Lib.hid (below_trans' (Y1.out.alloc Y1.out.size _) hb)
      clear hb
      go_wp2_with fail
      refine Calls.mono (HRp.out _) ?_
      rintro e y3 ⟨rfl, hb⟩
      have Y3 := Lib.hid (below_trans' Y2.out hb)
      clear hb
      go_wp2_with fail
      refine Calls.mono (HCt.out _ _ (rowAt_alloc y3 (scells [s]) _)) ?_
      rintro e y4 ⟨v, rfl, ho, hb⟩
      obtain ⟨A4, c4, rfl, _, hr4, _⟩ := ho.slice
      have HR4 := Lib.hid hr4
      have Y4 := Lib.hid (below_trans' (Y3.out.alloc Y3.out.size _) hb)
      clear hb ho hr4
      go_wp2_with fail
      refine Calls.mono (HRf.out _) ?_
      rintro e y5 ⟨v, rfl, ho, hb⟩
      obtain ⟨A5, c5, rfl, _, hr5, _⟩ := ho.slice
      have HR5 := Lib.hid hr5
      have HR4b := Lib.hid (HR4.out.below hb)
      have Y5 := Lib.hid (below_trans' Y4.out hb)
      clear hb ho hr5
      go_wp2_with fail
      refine Calls.mono (HSm.out _ _ _ _ _ HR4b.out HR5.out) ?_
      rintro e y6 ⟨rfl, hb⟩
      have Y6 := Lib.hid (below_trans' Y5.out hb)
      clear hb
      go_wp2_with fail
      refine Calls.mono (HAg.out _) ?_
      rintro e y7 ⟨v, rfl, ho, hb⟩
      obtain ⟨A7, c7, rfl, _, hr7, _⟩ := ho.slice
      have HR7 := Lib.hid hr7
      have Y7 := Lib.hid (below_trans' Y6.out hb)
      clear hb ho hr7
      go_wp2_with fail
      refine Calls.mono (HRf.out _) ?_
      rintro e y8 ⟨v, rfl, ho, hb⟩
      obtain ⟨A8, c8, rfl, _, hr8, _⟩ := ho.slice
      have HR8 := Lib.hid hr8
      have HR7b := Lib.hid (HR7.out.below hb)
      have Y8 := Lib.hid (below_trans' Y7.out hb)
      clear hb ho hr8
      go_wp2_with fail
      refine Calls.mono (HSm.out _ _ _ _ _ HR7b.out HR8.out) ?_
      rintro e y9 ⟨rfl, hb⟩
      have Y9 := Lib.hid (below_trans' Y8.out hb)
      clear hb
      go_wp2_with fail
      refine (next_calls _ _ _ _ (by omega)).mono ?_
      rintro e y10 ⟨rfl, hb⟩
      have Y10 := Lib.hid (below_trans' Y9.out hb)
      clear hb
      go_wp2
      go_roundw
      case rel => exact ⟨2, by omega, rfl, rfl, Y10⟩
      case measure => simp [intOf]
    · have hmP : ∀ w : World, (method 256 38 (commonV (.iface 84 (rule 32 64 128 7 5)) 3) "Print").run Try.prog w = .ok (13, (commonV (.iface 84 (rule 32 64 128 7 5)) 3)) w := fun _ => by kernel_rfl
      have hmC : ∀ w : World, (method 256 38 (commonV (.iface 84 (rule 32 64 128 7 5)) 3) "Cut").run Try.prog w = .ok (104, (rule 32 64 128 7 5)) w := fun _ => by kernel_rfl
      have hmA : ∀ w : World, (method 256 38 (commonV (.iface 84 (rule 32 64 128 7 5)) 3) "Again").run Try.prog w = .ok (78, (commonV (.iface 84 (rule 32 64 128 7 5)) 3)) w := fun _ => by kernel_rfl
      have hmN : ∀ w : World, (method 256 38 (commonV (.iface 84 (rule 32 64 128 7 5)) 3) "Next").run Try.prog w = .ok (10, (commonV (.iface 84 (rule 32 64 128 7 5)) 3)) w := fun _ => by kernel_rfl
      have hPr := fun tc vc A W hR => commonPrint_calls tc vc 3 A 1 1 [s] W (by omega) rfl (by omega) (by omega) (by simp [totalLen]; omega) hR
      rw [show kindG 3 = 2 from rfl, joinB_single] at hPr
      have hRp := fun W => refPrint_calls 2 s W (by omega)
      obtain ⟨p, hp⟩ : ∃ p, refPrintM 2 s = p := ⟨_, rfl⟩
      rw [hp] at hPr hRp
      have hCt := fun A W hR => cutUneven_of s (by omega) A W hR
      have hRf := fun W => Form.three.ref s W (by omega)
      have hAg := fun W => commonAgain_calls Form.three.cutter 3 s W (by omega)
      have hnn := cutA_length Form.three.cutter.best.toGood s.data.toList.length 0 s.data.toList (Nat.le_refl _)
      rw [data_length] at hnn
      obtain ⟨L, hL⟩ : ∃ L, cutA (firstN 32 64 128 7 5) 0 s.data.toList = L := ⟨_, rfl⟩
      rw [hL] at hCt hRf hAg hnn
      obtain ⟨N, hN⟩ : ∃ N, L.length = N := ⟨_, rfl⟩
      rw [hN] at hCt hRf hAg hnn
      have hSm := fun A B c d W hR hS => refSameSpans_calls A B N N c d L L W hN hN (by omega) hR hS
      rw [decide_eq_true (rfl : L = L)] at hSm
      have HPr := Lib.hid hPr
      have HRp := Lib.hid hRp
      have HCt := Lib.hid hCt
      have HRf := Lib.hid hRf
      have HAg := Lib.hid hAg
      have HSm := Lib.hid hSm
      clear hPr hRp hp hCt hRf hAg hnn hL hN hSm
      go_wp2_with fail
      refine (GForm.three.of _).mono ?_
      rintro e y1 ⟨rfl, hb⟩
      have Y1 := Lib.hid (below_trans' HW.out hb)
      clear hb
      go_wp2_with fail
      refine Calls.mono (HPr.out _ _ _ _ (rowAt_alloc y1 (scells [s]) _)) ?_
      rintro e y2 ⟨rfl, hb⟩
      have Y2 := Lib.hid (below_trans' (Y1.out.alloc Y1.out.size _) hb)
      clear hb
      go_wp2_with fail
      refine Calls.mono (HRp.out _) ?_
      rintro e y3 ⟨rfl, hb⟩
      have Y3 := Lib.hid (below_trans' Y2.out hb)
      clear hb
      go_wp2_with fail
      refine Calls.mono (HCt.out _ _ (rowAt_alloc y3 (scells [s]) _)) ?_
      rintro e y4 ⟨v, rfl, ho, hb⟩
      obtain ⟨A4, c4, rfl, _, hr4, _⟩ := ho.slice
      have HR4 := Lib.hid hr4
      have Y4 := Lib.hid (below_trans' (Y3.out.alloc Y3.out.size _) hb)
      clear hb ho hr4
      go_wp2_with fail
      refine Calls.mono (HRf.out _) ?_
      rintro e y5 ⟨v, rfl, ho, hb⟩
      obtain ⟨A5, c5, rfl, _, hr5, _⟩ := ho.slice
      have HR5 := Lib.hid hr5
      have HR4b := Lib.hid (HR4.out.below hb)
      have Y5 := Lib.hid (below_trans' Y4.out hb)
      clear hb ho hr5
      go_wp2_with fail
      refine Calls.mono (HSm.out _ _ _ _ _ HR4b.out HR5.out) ?_
      rintro e y6 ⟨rfl, hb⟩
      have Y6 := Lib.hid (below_trans' Y5.out hb)
      clear hb
      go_wp2_with fail
      refine Calls.mono (HAg.out _) ?_
      rintro e y7 ⟨v, rfl, ho, hb⟩
      obtain ⟨A7, c7, rfl, _, hr7, _⟩ := ho.slice
      have HR7 := Lib.hid hr7
      have Y7 := Lib.hid (below_trans' Y6.out hb)
      clear hb ho hr7
      go_wp2_with fail
      refine Calls.mono (HRf.out _) ?_
      rintro e y8 ⟨v, rfl, ho, hb⟩
      obtain ⟨A8, c8, rfl, _, hr8, _⟩ := ho.slice
      have HR8 := Lib.hid hr8
      have HR7b := Lib.hid (HR7.out.below hb)
      have Y8 := Lib.hid (below_trans' Y7.out hb)
      clear hb ho hr8
      go_wp2_with fail
      refine Calls.mono (HSm.out _ _ _ _ _ HR7b.out HR8.out) ?_
      rintro e y9 ⟨rfl, hb⟩
      have Y9 := Lib.hid (below_trans' Y8.out hb)
      clear hb
      go_wp2_with fail
      refine (nextThree_calls _ _ _ _).mono ?_
      rintro e y10 ⟨rfl, hb⟩
      have Y10 := Lib.hid (below_trans' Y9.out hb)
      clear hb
      go_wp2
      go_roundw
      case rel => exact ⟨3, by omega, rfl, rfl, Y10⟩
      case measure => simp [intOf]
    · go_wp2_with fail
      refine (genOfNone_calls 0 _ (by omega)).mono ?_
      rintro e y1 ⟨rfl, hb⟩
      have Y1 := Lib.hid (below_trans' HW.out hb)
      clear hb
      go_wp2_with fail
      refine (genOfNone_calls 4 _ (by omega)).mono ?_
      rintro e y2 ⟨rfl, hb⟩
      have Y2 := Lib.hid (below_trans' Y1.out hb)
      clear hb
      go_wp2
      go_ret
      exact ⟨rfl, Y2.out⟩
end Go.Proofs.Ytiocealhadlggaa
