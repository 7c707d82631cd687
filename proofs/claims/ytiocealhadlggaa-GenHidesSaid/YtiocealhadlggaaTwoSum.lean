/- shatwo.Sum. -/
import Derived.Test.YtiocealhadlggaaTwoMix
namespace Go.Proofs.Ytiocealhadlggaa
open Go.RowKit
set_option linter.unusedVariables false

theorem eight_set (w : World) (base : Nat) (g : Nat) (x y : Eight) (h : Own w base 1 (.slice (some ⟨g, 0, none⟩) 8 8) 8 (wcells x.cells)) :
    Own ((((((((w.setCell ⟨g, 0, none⟩ (.int .u32 (y.a.toNat : Int))).setCell ⟨g, 1, none⟩ (.int .u32 (y.b.toNat : Int))).setCell ⟨g, 2, none⟩ (.int .u32 (y.c.toNat : Int))).setCell ⟨g, 3, none⟩ (.int .u32 (y.d.toNat : Int))).setCell ⟨g, 4, none⟩ (.int .u32 (y.e.toNat : Int))).setCell ⟨g, 5, none⟩ (.int .u32 (y.f.toNat : Int))).setCell ⟨g, 6, none⟩ (.int .u32 (y.g.toNat : Int))).setCell ⟨g, 7, none⟩ (.int .u32 (y.i.toNat : Int))) base 1 (.slice (some ⟨g, 0, none⟩) 8 8) 8 (wcells y.cells) := by
  have g1 := h.set 0 (by simp [wcells, Eight.cells]) (.int .u32 (y.a.toNat : Int))
  have g2 := g1.1.set 1 (by simp [wcells, Eight.cells]) (.int .u32 (y.b.toNat : Int))
  have g3 := g2.1.set 2 (by simp [wcells, Eight.cells]) (.int .u32 (y.c.toNat : Int))
  have g4 := g3.1.set 3 (by simp [wcells, Eight.cells]) (.int .u32 (y.d.toNat : Int))
  have g5 := g4.1.set 4 (by simp [wcells, Eight.cells]) (.int .u32 (y.e.toNat : Int))
  have g6 := g5.1.set 5 (by simp [wcells, Eight.cells]) (.int .u32 (y.f.toNat : Int))
  have g7 := g6.1.set 6 (by simp [wcells, Eight.cells]) (.int .u32 (y.g.toNat : Int))
  have g8 := g7.1.set 7 (by simp [wcells, Eight.cells]) (.int .u32 (y.i.toNat : Int))
  exact g8.1
theorem eight_below {B : Nat} {a w : World} (g : Nat) (y : Eight) (h : Below B a w) (hg : B ≤ g) : Below B a ((((((((w.setCell ⟨g, 0, none⟩ (.int .u32 (y.a.toNat : Int))).setCell ⟨g, 1, none⟩ (.int .u32 (y.b.toNat : Int))).setCell ⟨g, 2, none⟩ (.int .u32 (y.c.toNat : Int))).setCell ⟨g, 3, none⟩ (.int .u32 (y.d.toNat : Int))).setCell ⟨g, 4, none⟩ (.int .u32 (y.e.toNat : Int))).setCell ⟨g, 5, none⟩ (.int .u32 (y.f.toNat : Int))).setCell ⟨g, 6, none⟩ (.int .u32 (y.g.toNat : Int))).setCell ⟨g, 7, none⟩ (.int .u32 (y.i.toNat : Int))) :=
  ((((((((h.setCell (p := ⟨g, 0, none⟩) hg _).setCell (p := ⟨g, 1, none⟩) hg _).setCell (p := ⟨g, 2, none⟩) hg _).setCell (p := ⟨g, 3, none⟩) hg _).setCell (p := ⟨g, 4, none⟩) hg _).setCell (p := ⟨g, 5, none⟩) hg _).setCell (p := ⟨g, 6, none⟩) hg _).setCell (p := ⟨g, 7, none⟩) hg _)
theorem eight_index (x : Eight) (k : Nat) (hk : k < 8) (W : World) : (Instr.index 89 (.agg #[.int .u32 (x.a.toNat : Int), .int .u32 (x.b.toNat : Int), .int .u32 (x.c.toNat : Int), .int .u32 (x.d.toNat : Int), .int .u32 (x.e.toNat : Int), .int .u32 (x.f.toNat : Int), .int .u32 (x.g.toNat : Int), .int .u32 (x.i.toNat : Int)]) (.int .i64 (k : Int))).run Try.prog W = .ok (.int .u32 ((x.cells.getD k 0).toNat : Int)) W := by
  match k, hk with
  | 0, _ => show _ = _; kernel_rfl
  | 1, _ => show _ = _; kernel_rfl
  | 2, _ => show _ = _; kernel_rfl
  | 3, _ => show _ = _; kernel_rfl
  | 4, _ => show _ = _; kernel_rfl
  | 5, _ => show _ = _; kernel_rfl
  | 6, _ => show _ = _; kernel_rfl
  | 7, _ => show _ = _; kernel_rfl

theorem twoMix_calls' (h : Eight) (s : ByteArray) (w : World) (hs : s.size = 64) : Calls Try.prog 39 #[.agg #[.int .u32 (h.a.toNat : Int), .int .u32 (h.b.toNat : Int), .int .u32 (h.c.toNat : Int), .int .u32 (h.d.toNat : Int), .int .u32 (h.e.toNat : Int), .int .u32 (h.f.toNat : Int), .int .u32 (h.g.toNat : Int), .int .u32 (h.i.toNat : Int)], .string s] w
    fun e w' => ∃ y : Eight, Box (y = twoMix h s.data.toList) ∧ e = .returned (.agg #[.int .u32 (y.a.toNat : Int), .int .u32 (y.b.toNat : Int), .int .u32 (y.c.toNat : Int), .int .u32 (y.d.toNat : Int), .int .u32 (y.e.toNat : Int), .int .u32 (y.f.toNat : Int), .int .u32 (y.g.toNat : Int), .int .u32 (y.i.toNat : Int)]) ∧ Below w.heap.size w w' :=
  (twoMix_calls h s w hs).mono fun _ _ ⟨y, hy, he, hb⟩ => ⟨y, hy, he, hb⟩
theorem byte_of (n d : Nat) : IntKind.u8.wrap ((n : Int) / (d : Int)) = ((UInt8.ofNat (n / d)).toNat : Int) := by
  rw [IntKind.wrap_u8', ← Int.natCast_ediv]
  generalize n / d = q
  simp

set_option maxHeartbeats 1600000 in
set_option maxRecDepth 100000 in
theorem twoSum_calls (A : Option Addr) (n c : Nat) (l : List ByteArray) (w : World) (hl : l.length = n) (hc : n ≤ c) (hn : n ≤ 140737488355328) (hs : totalLen l ≤ 1000000) (hR : RowAt w A (scells l)) :
    Calls Try.prog 27 #[.slice A n c] w fun e w' => e = .returned (.string ⟨(twoSum (joinB l).data.toList).toArray⟩) ∧ Below w.heap.size w w' := by
  have HJ := Lib.hid (stringsJoin_calls A n c l w hl hc hn (by omega) hR)
  clear hR
  go_enter Try.func27, Try.ntmps27
  go_wp2_with fail
  refine Calls.mono HJ.out ?_
  rintro e w1 ⟨rfl, hb1⟩
  have HB1 := Lib.hid hb1; clear hb1 HJ
  have hjs := joinB_size l
  obtain ⟨s, hsj⟩ : ∃ s, joinB l = s := ⟨_, rfl⟩
  rw [hsj] at hjs ⊢
  have hs1 : s.size ≤ 1000000 := by omega
  have HP : Hid (padB (s.size : Int) = ⟨(padL s.size).toArray⟩) := by rw [Hid, padB, if_neg (by omega)]; simp
  have HSJ := Lib.hid hsj
  clear hsj hjs hs hl hc hn
  go_wp2_with fail
  refine (pad_calls (s.size : Int) _).mono ?_
  rintro e w2 ⟨rfl, hb2⟩
  have HB2 := Lib.hid (below_trans' HB1.out hb2); clear hb2
  rw [HP.out]
  have hps : (⟨(padL s.size).toArray⟩ : ByteArray).size = 9 + (119 - s.size % 64) % 64 := by rw [mk_size, padL_length]
  obtain ⟨p, hp⟩ : ∃ p, (⟨(padL s.size).toArray⟩ : ByteArray) = p := ⟨_, rfl⟩
  rw [hp] at hps ⊢
  have HPP := Lib.hid hp; clear hp
  have hp1 : p.size ≤ 72 := by omega
  have hsp : (s ++ p).size = s.size + p.size := ByteArray.size_append
  have hmod : (s.size + p.size) % 64 = 0 := by have := padL_whole s.size; rw [padL_length] at this; omega
  go_wp2
  obtain ⟨t, ht⟩ : ∃ t, s ++ p = t := ⟨_, rfl⟩
  rw [ht] at hsp ⊢
  have HT := Lib.hid ht; clear ht
  obtain ⟨m, hm⟩ : ∃ m, t.size = 64 * m := ⟨t.size / 64, by omega⟩
  have hm1 : m ≤ 20000 := by omega
  have HM := Lib.hid hm
  have ht1 : t.size ≤ 64 * m := by omega
  have ht2 : 64 * m ≤ t.size := by omega
  clear hsp hmod hps hm hp1
  obtain ⟨g, hg⟩ : ∃ g, w2.heap.size = g := ⟨_, rfl⟩
  have hO : Own (w2.alloc (.cells #[.int .u32 1779033703, .int .u32 3144134277, .int .u32 1013904242, .int .u32 2773480762, .int .u32 1359893119, .int .u32 2600822924, .int .u32 528734635, .int .u32 1541459225] 89)) w.heap.size 1 (.slice (some ⟨g, 0, none⟩) 8 8) 8 (wcells twoStart.cells) := by
    have h1 := Own.fresh w2 #[.int .u32 1779033703, .int .u32 3144134277, .int .u32 1013904242, .int .u32 2773480762, .int .u32 1359893119, .int .u32 2600822924, .int .u32 528734635, .int .u32 1541459225] 89 (by decide)
    rw [← hg]
    exact h1.weaken HB2.out.size
  have HO := Lib.hid hO; clear hO
  have hgw : w.heap.size ≤ g := by rw [← hg]; exact HB2.out.size
  have HB3 : Hid (Below w.heap.size w (w2.alloc (.cells #[.int .u32 1779033703, .int .u32 3144134277, .int .u32 1013904242, .int .u32 2773480762, .int .u32 1359893119, .int .u32 2600822924, .int .u32 528734635, .int .u32 1541459225] 89))) := HB2.out.alloc HB2.out.size _
  rw [hg]
  clear hg
  go_loopw [5] (fun i wr => ∃ (k a : Nat) (x : Eight), k ≤ m ∧ i = .int .i64 (a : Int) ∧ Hid (a = 64 * k) ∧ Hid (x = twoBlocks t.data.toList twoStart k) ∧ Hid (Own wr w.heap.size 1 (.slice (some ⟨g, 0, none⟩) 8 8) 8 (wcells x.cells)) ∧ Hid (Below w.heap.size w wr)) (fun i _ => 64 * m - (intOf i).toNat)
  case atStart => exact ⟨0, 0, twoStart, by omega, rfl, rfl, rfl, HO.out, HB3.out⟩
  case round =>
    obtain ⟨k, a, x, hk, rfl, HA, HX, HN, HW⟩ := hrel
    by_cases hlt : k < m
    · obtain ⟨c0, f0⟩ := HN.out.cell (j := 0) (u := .int .u32 (x.a.toNat : Int)) rfl
      obtain ⟨c0, f0⟩ := HN.out.cell (j := 0) (u := .int .u32 (x.a.toNat : Int)) rfl
      obtain ⟨c1, f1⟩ := HN.out.cell (j := 1) (u := .int .u32 (x.b.toNat : Int)) rfl
      obtain ⟨c2, f2⟩ := HN.out.cell (j := 2) (u := .int .u32 (x.c.toNat : Int)) rfl
      obtain ⟨c3, f3⟩ := HN.out.cell (j := 3) (u := .int .u32 (x.d.toNat : Int)) rfl
      obtain ⟨c4, f4⟩ := HN.out.cell (j := 4) (u := .int .u32 (x.e.toNat : Int)) rfl
      obtain ⟨c5, f5⟩ := HN.out.cell (j := 5) (u := .int .u32 (x.f.toNat : Int)) rfl
      obtain ⟨c6, f6⟩ := HN.out.cell (j := 6) (u := .int .u32 (x.g.toNat : Int)) rfl
      obtain ⟨c7, f7⟩ := HN.out.cell (j := 7) (u := .int .u32 (x.i.toNat : Int)) rfl
      have ha : a + 64 ≤ t.size := by have := HA.out; omega
      have HMX := Lib.hid (fun W => twoMix_calls' x (t.extract a (a + 64)) W (extract_size64 t a ha))
      have j1 : (0 : Int) ≤ (a : Int) := by omega
      have j2 : (a : Int) + 64 ≤ (t.size : Int) := by omega
      have j3 : (a : Int) < (t.size : Int) := by omega
      have j4 : (0 : Int) ≤ (a : Int) + 64 := by omega
      have j5 : (a : Int) ≤ (a : Int) + 64 := by omega
      have y1 := IntWalk.i64_in ((a : Int) + 64) (by omega)
      have y2 : ((a : Int) + 64).toNat = a + 64 := by omega
      go_wp2
      go_region_law ((go_simp; go_at_call 39; refine Calls.mono (HMX.out _) ?_; rintro e w5 ⟨y, HY, rfl, hb5⟩; have HB5 := Lib.hid hb5; have HN5 := Lib.hid (HN.out.drew.below hb5); obtain ⟨d0, e0⟩ := HN5.out.cell (j := 0) (u := .int .u32 (x.a.toNat : Int)) rfl; obtain ⟨d1, e1⟩ := HN5.out.cell (j := 1) (u := .int .u32 (x.b.toNat : Int)) rfl; obtain ⟨d2, e2⟩ := HN5.out.cell (j := 2) (u := .int .u32 (x.c.toNat : Int)) rfl; obtain ⟨d3, e3⟩ := HN5.out.cell (j := 3) (u := .int .u32 (x.d.toNat : Int)) rfl; obtain ⟨d4, e4⟩ := HN5.out.cell (j := 4) (u := .int .u32 (x.e.toNat : Int)) rfl; obtain ⟨d5, e5⟩ := HN5.out.cell (j := 5) (u := .int .u32 (x.f.toNat : Int)) rfl; obtain ⟨d6, e6⟩ := HN5.out.cell (j := 6) (u := .int .u32 (x.g.toNat : Int)) rfl; obtain ⟨d7, e7⟩ := HN5.out.cell (j := 7) (u := .int .u32 (x.i.toNat : Int)) rfl; clear hb5))
      all_goals
        go_wp2
        go_roundw
        case rel =>
          refine ⟨k + 1, a + 64, y, by omega, by go_num, by have := HA.out; rw [Hid]; omega, ?_, eight_set w5 _ g x y HN5.out, eight_below g y (below_trans' (below_drewN HW.out 1) HB5.out) hgw⟩
          rw [Hid, twoBlocks, ← HX.out, HY.out, extract_list, ← HA.out, show a + 64 - a = 64 by omega]
        case measure => simp [intOf]; omega
    · obtain rfl : k = m := by omega
      have ha : a = 64 * k := HA.out
      have ha2 : (t.size : Int) ≤ (a : Int) := by omega
      have HF : Hid (twoSum s.data.toList = x.cells.flatMap hi4) := by
        have e : t.data.toList = s.data.toList ++ padL s.size := by rw [← HT.out, ByteArray.data_append, Array.toList_append, ← HPP.out]
        rw [Hid, twoSum, data_length, ← e, data_length, HM.out, Nat.mul_div_cancel_left _ (by omega), HX.out]
      have hd : decide (a < t.size) = false := by simp; omega
      clear ha
      obtain ⟨c0, f0⟩ := HN.out.cell (j := 0) (u := .int .u32 (x.a.toNat : Int)) rfl
      obtain ⟨c1, f1⟩ := HN.out.cell (j := 1) (u := .int .u32 (x.b.toNat : Int)) rfl
      obtain ⟨c2, f2⟩ := HN.out.cell (j := 2) (u := .int .u32 (x.c.toNat : Int)) rfl
      obtain ⟨c3, f3⟩ := HN.out.cell (j := 3) (u := .int .u32 (x.d.toNat : Int)) rfl
      obtain ⟨c4, f4⟩ := HN.out.cell (j := 4) (u := .int .u32 (x.e.toNat : Int)) rfl
      obtain ⟨c5, f5⟩ := HN.out.cell (j := 5) (u := .int .u32 (x.f.toNat : Int)) rfl
      obtain ⟨c6, f6⟩ := HN.out.cell (j := 6) (u := .int .u32 (x.g.toNat : Int)) rfl
      obtain ⟨c7, f7⟩ := HN.out.cell (j := 7) (u := .int .u32 (x.i.toNat : Int)) rfl
      go_wp2
      go_loopw [6, 31] (fun v i wr => ∃ k : Nat, k ≤ 8 ∧ i = .int .i64 k ∧ Box (Own wr w.heap.size 1 v (k * 4) (bcells ((x.cells.take k).flatMap hi4))) ∧ Hid (Below w.heap.size w wr)) (fun _ i _ => 8 - (intOf i).toNat)
      case atStart => exact ⟨0, by omega, rfl, ⟨by simpa [bcells] using Own.nil _ _ _⟩, HW.out⟩
      case round =>
        obtain ⟨k, hk, rfl, HN, HW⟩ := hrel
        clear c0 c1 c2 c3 c4 c5 c6 c7 f0 f1 f2 f3 f4 f5 f6 f7
        by_cases hlt2 : k < 8
        · have hidx := fun W => eight_index x k hlt2 W
          obtain ⟨y, hy⟩ : ∃ y, x.cells.getD k 0 = y := ⟨_, rfl⟩
          rw [hy] at hidx
          have HX2 : Box ((x.cells.take (k + 1)).flatMap hi4 = (x.cells.take k).flatMap hi4 ++ hi4 y) := by
            have h5 : k < x.cells.length := hlt2
            refine ⟨?_⟩
            rw [take_snoc_of (List.getElem?_eq_getElem h5), List.flatMap_append]
            rw [List.getD_eq_getElem?_getD, List.getElem?_eq_getElem h5] at hy
            rw [← hy]; simp
          have y1 : IntKind.u8.wrap ((y.toNat : Int) / (16777216 : Int)) = ((UInt8.ofNat (y.toNat / 16777216)).toNat : Int) := byte_of y.toNat 16777216
          have y2 : IntKind.u8.wrap ((y.toNat : Int) / (65536 : Int)) = ((UInt8.ofNat (y.toNat / 65536)).toNat : Int) := byte_of y.toNat 65536
          have y3 : IntKind.u8.wrap ((y.toNat : Int) / (256 : Int)) = ((UInt8.ofNat (y.toNat / 256)).toNat : Int) := byte_of y.toNat 256
          have y4 : IntKind.u8.wrap (y.toNat : Int) = ((UInt8.ofNat y.toNat).toNat : Int) := by rw [IntKind.wrap_u8']; simp
          have Y1 : Box _ := ⟨y1⟩
          have Y2 : Box _ := ⟨y2⟩
          have Y3 : Box _ := ⟨y3⟩
          have Y4 : Box _ := ⟨y4⟩
          rw [IntKind.wrap_u8'] at y1 y2 y3 y4
          rw [Int.emod_eq_of_lt (by omega) (by have := w_lt y; omega)] at y1
          have Z : Box ([.int .u8 ((y.toNat : Int) / (16777216 : Int)), .int .u8 ((y.toNat : Int) / (65536 : Int) % 256), .int .u8 ((y.toNat : Int) / (256 : Int) % 256), .int .u8 ((y.toNat : Int) % 256)] = bcells (hi4 y)) := ⟨by rw [y1, y2, y3, y4]; rfl⟩
          clear hy y1 y2 y3 y4
          go_wp2_with (at_builtin; refine appO el_u8 w.heap.size rfl _ _ rfl rfl (HN.out.alloc _) (news := bcells (hi4 y)) rfl rfl (by rw [← Z.out]; exact rowAt_alloc _ _ _) (one_bcells _) (by omega) (by have := HW.out.size; simp; omega) ?_; intro v1 w3 hown1 hg1 _; have HO3 : Box (Own w3 w.heap.size 1 v1 ((k + 1) * 4) (bcells ((x.cells.take (k + 1)).flatMap hi4))) := (by refine ⟨?_⟩; rw [HX2.out, bcells, List.map_append, show (k + 1) * 4 = k * 4 + 4 by omega]; exact hown1); have HB3 : Hid (Below w.heap.size w w3) := Own.grown_below (HN.out.alloc _) (HW.out.alloc HW.out.size _) hg1 (Nat.le_refl _); clear hown1 hg1)
          go_roundw
          case rel => first | exact ⟨k + 1, by omega, by go_num, HO3, HB3⟩ | ((repeat apply Exists.intro); exact ⟨⟨k + 1, by omega, by go_num, HO3, HB3⟩, rfl⟩)
          case measure => simp [intOf]; omega
        · obtain rfl : k = 8 := by omega
          obtain ⟨A2, cp2, rfl, _, hr2, _⟩ := HN.out.slice
          have hcv := bytes_str Try.prog 91 5 9 Try.underlying91 Try.underlying5 Try.underlying9 A2 _ cp2 ((x.cells.take 8).flatMap hi4) wr (by have := HN.out.1; simpa [bcells] using this) hr2
          clear hr2
          go_wp2
          go_ret
          refine ⟨ret_str ?_, HW.out⟩
          rw [HSJ.out, HF.out]
          rfl
end Go.Proofs.Ytiocealhadlggaa
