/- shaone.Sum. -/
import Derived.Test.YtiocealhadlggaaBundle2
namespace Go.Proofs.Ytiocealhadlggaa
open Go.RowKit
set_option linter.unusedVariables false

theorem padL_length (n : Nat) : (padL n).length = 9 + (119 - n % 64) % 64 := by simp [padL, hi8]; omega
theorem padL_whole (n : Nat) : (n + (padL n).length) % 64 = 0 := by rw [padL_length]; omega
theorem extract_list (s : ByteArray) (a b : Nat) : (s.extract a b).data.toList = (s.data.toList.drop a).take (b - a) := by
  rw [ByteArray.data_extract]
  rw [Array.toList_extract, List.extract_eq_take_drop]
theorem extract_size64 (s : ByteArray) (a : Nat) (h : a + 64 ≤ s.size) : (s.extract a (a + 64)).size = 64 := by
  rw [ByteArray.size_extract]; omega
theorem five_set (w : World) (base : Nat) (g : Nat) (x y : Five) (h : Own w base 1 (.slice (some ⟨g, 0, none⟩) 5 5) 5 (wcells x.cells)) :
    Own (((((w.setCell ⟨g, 0, none⟩ (.int .u32 (y.a.toNat : Int))).setCell ⟨g, 1, none⟩ (.int .u32 (y.b.toNat : Int))).setCell ⟨g, 2, none⟩ (.int .u32 (y.c.toNat : Int))).setCell ⟨g, 3, none⟩ (.int .u32 (y.d.toNat : Int))).setCell ⟨g, 4, none⟩ (.int .u32 (y.e.toNat : Int))) base 1 (.slice (some ⟨g, 0, none⟩) 5 5) 5 (wcells y.cells) := by
  have g1 := h.set 0 (by simp [wcells, Five.cells]) (.int .u32 (y.a.toNat : Int))
  have g2 := g1.1.set 1 (by simp [wcells, Five.cells]) (.int .u32 (y.b.toNat : Int))
  have g3 := g2.1.set 2 (by simp [wcells, Five.cells]) (.int .u32 (y.c.toNat : Int))
  have g4 := g3.1.set 3 (by simp [wcells, Five.cells]) (.int .u32 (y.d.toNat : Int))
  have g5 := g4.1.set 4 (by simp [wcells, Five.cells]) (.int .u32 (y.e.toNat : Int))
  exact g5.1
theorem five_below {B : Nat} {a w : World} (g : Nat) (y : Five) (h : Below B a w) (hg : B ≤ g) :
    Below B a (((((w.setCell ⟨g, 0, none⟩ (.int .u32 (y.a.toNat : Int))).setCell ⟨g, 1, none⟩ (.int .u32 (y.b.toNat : Int))).setCell ⟨g, 2, none⟩ (.int .u32 (y.c.toNat : Int))).setCell ⟨g, 3, none⟩ (.int .u32 (y.d.toNat : Int))).setCell ⟨g, 4, none⟩ (.int .u32 (y.e.toNat : Int))) :=
  ((((h.setCell (p := ⟨g, 0, none⟩) hg _).setCell (p := ⟨g, 1, none⟩) hg _).setCell (p := ⟨g, 2, none⟩) hg _).setCell (p := ⟨g, 3, none⟩) hg _).setCell (p := ⟨g, 4, none⟩) hg _

def outB (l : List (BitVec 32)) : ByteArray := ⟨(l.flatMap hi4).toArray⟩
theorem outB_snoc (l : List (BitVec 32)) (x : BitVec 32) : outB (l ++ [x]) = outB l ++ ⟨(hiL x.toNat 4).toArray⟩ := by
  rw [hiL4, outB, outB, app_mk]; simp
theorem outB_size (l : List (BitVec 32)) : (outB l).size = 4 * l.length := by
  induction l with
  | nil => rfl
  | cons x l ih => simp [outB, ByteArray.size, hi4] at *; omega

theorem five_index (x : Five) (k : Nat) (hk : k < 5) (W : World) : (Instr.index 87 (.agg #[.int .u32 (x.a.toNat : Int), .int .u32 (x.b.toNat : Int), .int .u32 (x.c.toNat : Int), .int .u32 (x.d.toNat : Int), .int .u32 (x.e.toNat : Int)]) (.int .i64 (k : Int))).run Try.prog W = .ok (.int .u32 ((x.cells.getD k 0).toNat : Int)) W := by
  match k, hk with
  | 0, _ => show _ = _; kernel_rfl
  | 1, _ => show _ = _; kernel_rfl
  | 2, _ => show _ = _; kernel_rfl
  | 3, _ => show _ = _; kernel_rfl
  | 4, _ => show _ = _; kernel_rfl

set_option maxHeartbeats 1600000 in
set_option maxRecDepth 100000 in
theorem oneSum_calls (A : Option Addr) (n c : Nat) (l : List ByteArray) (w : World) (hl : l.length = n) (hc : n ≤ c) (hn : n ≤ 140737488355328) (hs : totalLen l ≤ 1000000) (hR : RowAt w A (scells l)) :
    Calls Try.prog 26 #[.slice A n c] w fun e w' => e = .returned (.string ⟨(oneSum (joinB l).data.toList).toArray⟩) ∧ Below w.heap.size w w' := by
  have HJ := Lib.hid (stringsJoin_calls A n c l w hl hc hn (by omega) hR)
  clear hR
  go_enter Try.func26, Try.ntmps26
  go_wp2_with fail
  refine Calls.mono HJ.out ?_
  rintro e w1 ⟨rfl, hb1⟩
  have HB1 := Lib.hid hb1; clear hb1 HJ
  have hjs := joinB_size l
  obtain ⟨s, hsj⟩ : ∃ s, joinB l = s := ⟨_, rfl⟩
  rw [hsj] at hjs ⊢
  have hs1 : s.size ≤ 1000000 := by omega
  have HP : Hid (padB (s.size : Int) = ⟨(padL s.size).toArray⟩) := by rw [Hid, padB, if_neg (by omega)]; simp
  have HSJ := Lib.hid hsj
  clear hsj hjs hs hl hc hn
  go_wp2_with fail
  refine (pad_calls (s.size : Int) _).mono ?_
  rintro e w2 ⟨rfl, hb2⟩
  have HB2 := Lib.hid (below_trans' HB1.out hb2); clear hb2
  rw [HP.out]
  have hps : (⟨(padL s.size).toArray⟩ : ByteArray).size = 9 + (119 - s.size % 64) % 64 := by rw [mk_size, padL_length]
  obtain ⟨p, hp⟩ : ∃ p, (⟨(padL s.size).toArray⟩ : ByteArray) = p := ⟨_, rfl⟩
  rw [hp] at hps ⊢
  have HPP := Lib.hid hp; clear hp
  have hp1 : p.size ≤ 72 := by omega
  have hsp : (s ++ p).size = s.size + p.size := ByteArray.size_append
  have hmod : (s.size + p.size) % 64 = 0 := by have := padL_whole s.size; rw [padL_length] at this; omega
  go_wp2
  obtain ⟨t, ht⟩ : ∃ t, s ++ p = t := ⟨_, rfl⟩
  rw [ht] at hsp ⊢
  have HT := Lib.hid ht; clear ht
  obtain ⟨m, hm⟩ : ∃ m, t.size = 64 * m := ⟨t.size / 64, by omega⟩
  have hm1 : m ≤ 20000 := by omega
  have HM := Lib.hid hm
  have ht1 : t.size ≤ 64 * m := by omega
  have ht2 : 64 * m ≤ t.size := by omega
  clear hsp hmod hps hm hp1
  obtain ⟨g, hg⟩ : ∃ g, w2.heap.size = g := ⟨_, rfl⟩
  have hO : Own (w2.alloc (.cells #[.int .u32 1732584193, .int .u32 4023233417, .int .u32 2562383102, .int .u32 271733878, .int .u32 3285377520] 87)) w.heap.size 1 (.slice (some ⟨g, 0, none⟩) 5 5) 5 (wcells oneStart.cells) := by
    have h1 := Own.fresh w2 #[.int .u32 1732584193, .int .u32 4023233417, .int .u32 2562383102, .int .u32 271733878, .int .u32 3285377520] 87 (by decide)
    rw [← hg]
    exact h1.weaken HB2.out.size
  have HO := Lib.hid hO; clear hO
  have hgw : w.heap.size ≤ g := by rw [← hg]; exact HB2.out.size
  have HB3 : Hid (Below w.heap.size w (w2.alloc (.cells #[.int .u32 1732584193, .int .u32 4023233417, .int .u32 2562383102, .int .u32 271733878, .int .u32 3285377520] 87))) := HB2.out.alloc HB2.out.size _
  rw [hg]
  clear hg
  go_loopw [5] (fun i wr => ∃ (k a : Nat) (x : Five), k ≤ m ∧ i = .int .i64 (a : Int) ∧ Hid (a = 64 * k) ∧ Hid (x = oneBlocks t.data.toList oneStart k) ∧ Hid (Own wr w.heap.size 1 (.slice (some ⟨g, 0, none⟩) 5 5) 5 (wcells x.cells)) ∧ Hid (Below w.heap.size w wr)) (fun i _ => 64 * m - (intOf i).toNat)
  case atStart => exact ⟨0, 0, oneStart, by omega, rfl, rfl, rfl, HO.out, HB3.out⟩
  case round =>
    obtain ⟨k, a, x, hk, rfl, HA, HX, HN, HW⟩ := hrel
    by_cases hlt : k < m
    · obtain ⟨c0, f0⟩ := HN.out.cell (j := 0) (u := .int .u32 (x.a.toNat : Int)) rfl
      obtain ⟨c1, f1⟩ := HN.out.cell (j := 1) (u := .int .u32 (x.b.toNat : Int)) rfl
      obtain ⟨c2, f2⟩ := HN.out.cell (j := 2) (u := .int .u32 (x.c.toNat : Int)) rfl
      obtain ⟨c3, f3⟩ := HN.out.cell (j := 3) (u := .int .u32 (x.d.toNat : Int)) rfl
      obtain ⟨c4, f4⟩ := HN.out.cell (j := 4) (u := .int .u32 (x.e.toNat : Int)) rfl
      have ha : a + 64 ≤ t.size := by have := HA.out; omega
      have HMX := Lib.hid (fun W => mix_calls' x (t.extract a (a + 64)) W (extract_size64 t a ha))
      have j1 : (0 : Int) ≤ (a : Int) := by omega
      have j2 : (a : Int) + 64 ≤ (t.size : Int) := by omega
      have j3 : (a : Int) < (t.size : Int) := by omega
      have j4 : (0 : Int) ≤ (a : Int) + 64 := by omega
      have j5 : (a : Int) ≤ (a : Int) + 64 := by omega
      have y1 := IntWalk.i64_in ((a : Int) + 64) (by omega)
      have y2 : ((a : Int) + 64).toNat = a + 64 := by omega
      go_wp2
      go_region_law ((go_simp; go_at_call 37; refine Calls.mono (HMX.out _) ?_; rintro e w5 ⟨y, HY, rfl, hb5⟩; have HB5 := Lib.hid hb5; have HN5 := Lib.hid (HN.out.drew.below hb5); obtain ⟨d0, e0⟩ := HN5.out.cell (j := 0) (u := .int .u32 (x.a.toNat : Int)) rfl; obtain ⟨d1, e1⟩ := HN5.out.cell (j := 1) (u := .int .u32 (x.b.toNat : Int)) rfl; obtain ⟨d2, e2⟩ := HN5.out.cell (j := 2) (u := .int .u32 (x.c.toNat : Int)) rfl; obtain ⟨d3, e3⟩ := HN5.out.cell (j := 3) (u := .int .u32 (x.d.toNat : Int)) rfl; obtain ⟨d4, e4⟩ := HN5.out.cell (j := 4) (u := .int .u32 (x.e.toNat : Int)) rfl; clear hb5))
      all_goals
        go_wp2
        go_roundw
        case rel =>
          refine ⟨k + 1, a + 64, y, by omega, by go_num, by have := HA.out; rw [Hid]; omega, ?_, five_set w5 _ g x y HN5.out, five_below g y (below_trans' (below_drewN HW.out 1) HB5.out) hgw⟩
          rw [Hid, oneBlocks, ← HX.out, HY.out, extract_list, ← HA.out, show a + 64 - a = 64 by omega]
        case measure => simp [intOf]; omega
    · obtain rfl : k = m := by omega
      have ha : a = 64 * k := HA.out
      have ha2 : (t.size : Int) ≤ (a : Int) := by omega
      have HF : Hid (oneSum s.data.toList = x.cells.flatMap hi4) := by
        have e : t.data.toList = s.data.toList ++ padL s.size := by rw [← HT.out, ByteArray.data_append, Array.toList_append, ← HPP.out]
        rw [Hid, oneSum, data_length, ← e, data_length, HM.out, Nat.mul_div_cancel_left _ (by omega), HX.out]
      have hd : decide (a < t.size) = false := by simp; omega
      clear ha
      obtain ⟨c0, f0⟩ := HN.out.cell (j := 0) (u := .int .u32 (x.a.toNat : Int)) rfl
      obtain ⟨c1, f1⟩ := HN.out.cell (j := 1) (u := .int .u32 (x.b.toNat : Int)) rfl
      obtain ⟨c2, f2⟩ := HN.out.cell (j := 2) (u := .int .u32 (x.c.toNat : Int)) rfl
      obtain ⟨c3, f3⟩ := HN.out.cell (j := 3) (u := .int .u32 (x.d.toNat : Int)) rfl
      obtain ⟨c4, f4⟩ := HN.out.cell (j := 4) (u := .int .u32 (x.e.toNat : Int)) rfl
      go_wp2
      go_loopw [6, 31] (fun v i wr => ∃ k : Nat, k ≤ 5 ∧ i = .int .i64 k ∧ v = .string (outB (x.cells.take k)) ∧ Hid (Below w.heap.size w wr)) (fun _ i _ => 5 - (intOf i).toNat)
      case atStart => exact ⟨0, by omega, rfl, rfl, HW.out⟩
      case round =>
        obtain ⟨k, hk, rfl, rfl, HW⟩ := hrel
        clear c0 c1 c2 c3 c4 f0 f1 f2 f3 f4
        by_cases hlt2 : k < 5
        · have hidx := fun W => five_index x k hlt2 W
          obtain ⟨y, hy⟩ : ∃ y, x.cells.getD k 0 = y := ⟨_, rfl⟩
          rw [hy] at hidx
          have HX2 : Hid (outB (x.cells.take (k + 1)) = outB (x.cells.take k) ++ ⟨(hiL y.toNat 4).toArray⟩) := by
            have h5 : k < x.cells.length := hlt2
            rw [Hid, take_snoc_of (List.getElem?_eq_getElem h5), outB_snoc]
            rw [List.getD_eq_getElem?_getD, List.getElem?_eq_getElem h5] at hy
            rw [← hy]; rfl
          have hsz : (outB (x.cells.take k)).size ≤ 20 := by rw [outB_size, List.length_take]; omega
          have hy32 : IntKind.u64.wrap (y.toNat : Int) = (y.toNat : Int) := by rw [IntKind.wrap_u64]; have := w_lt y; omega
          have hy33 := w_lt y
          clear hy
          go_wp2_with fail
          refine (high_calls y.toNat 4 _ (by omega) (by omega)).mono ?_
          rintro e w7 ⟨rfl, hb7⟩
          have HB7 := Lib.hid (below_trans' HW.out hb7); clear hb7 hidx
          have hq1 : (⟨(hiL y.toNat 4).toArray⟩ : ByteArray).size = 4 := by rw [mk_size, hiL_length]
          obtain ⟨q, hq⟩ : ∃ q, (⟨(hiL y.toNat 4).toArray⟩ : ByteArray) = q := ⟨_, rfl⟩
          rw [hq] at hq1 HX2 ⊢
          have hq2 : q.size ≤ 4 := by omega
          clear hq1 hq
          go_wp2
          go_roundw
          case rel => first | exact ⟨k + 1, by omega, by go_num, by rw [HX2.out], HB7.out⟩ | ((repeat apply Exists.intro); exact ⟨⟨k + 1, by omega, by go_num, by rw [HX2.out], HB7.out⟩, rfl⟩)
          case measure => simp [intOf]; omega
        · obtain rfl : k = 5 := by omega
          go_wp2
          go_ret
          refine ⟨ret_str ?_, HW.out⟩
          rw [HSJ.out, HF.out]
          rfl
end Go.Proofs.Ytiocealhadlggaa
