/- Words and contracts that this claim leans on, one text behind the other. -/
import Derived.Test.YtbkankpfkbafdaaDoorBundle2
import Derived.Test.YtbkankpfkbafdaaDoorBundle1
import Derived.RegionTactic
/- The reference's SHA-256. -/
namespace Go.Proofs.YtbkankpfkbafdaaDoor
open Go.RowKit

theorem block_word2 (t : ByteArray) (a k : Nat) (_ha : a + 64 ≤ t.size) (hk : k < 16) (h4 : 4 ≤ (t.extract (a + 4 * k) (a + 4 * k + 4)).size) :
    word4 ((t.extract (a + 4 * k) (a + 4 * k + 4))[0]'(by omega)) ((t.extract (a + 4 * k) (a + 4 * k + 4))[1]'(by omega)) ((t.extract (a + 4 * k) (a + 4 * k + 4))[2]'(by omega)) ((t.extract (a + 4 * k) (a + 4 * k + 4))[3]'(by omega)) = (twoWords ((t.data.toList.drop a).take 64) 48).getD k 0 := by
  rw [block_word t a k _ha hk h4, oneW_low _ hk, twoW_low _ hk]
theorem refKeys_own (w : World) : Calls Tryd.prog 63 #[] w fun e w' => e = .returned (.slice (some ⟨w.heap.size, 0, none⟩) 64 64) ∧ Box (Own w' w.heap.size 1 (.slice (some ⟨w.heap.size, 0, none⟩) 64 64) 64 (wcells twoKeys)) ∧ Below w.heap.size w w' := by
  rw [keyL_lit]
  go_enter Tryd.func63, Tryd.ntmps63
  go_wp2
  go_ret
  exact ⟨rfl, ⟨Own.fresh w _ _ (by decide)⟩, (Below.refl _ _).alloc (Nat.le_refl _) _⟩

theorem own_fresh8 (W : World) (t : TypeId) {b0 b4 x1 x2 x3 x5 x6 x7 : BitVec 32} {a0 a4 : Int} {L : List (BitVec 32)} {base : Nat} (hL : L = [b0, x1, x2, x3, b4, x5, x6, x7]) (h0 : a0 = (b0.toNat : Int)) (h4 : a4 = (b4.toNat : Int)) (hb : base ≤ W.heap.size) :
    Own (W.alloc (.cells #[.int .u32 a0, .int .u32 (x1.toNat : Int), .int .u32 (x2.toNat : Int), .int .u32 (x3.toNat : Int), .int .u32 a4, .int .u32 (x5.toNat : Int), .int .u32 (x6.toNat : Int), .int .u32 (x7.toNat : Int)] t)) base 1 (.slice (some ⟨W.heap.size, 0, none⟩) 8 8) 8 (wcells L) := by
  subst hL h0 h4
  exact (Own.fresh W (wcells [b0, x1, x2, x3, b4, x5, x6, x7]).toArray t (by simp [wcells, maxLen])).weaken hb
theorem cell_turned {w wq : World} {n : Nat} {a : Addr} {v : Value} (h : w.drewN n = wq) (hc : w.cell? a = some v) : wq.cell? a = some v := by subst h; exact hc

set_option maxHeartbeats 6000000 in
set_option maxRecDepth 100000 in
theorem refTwo_calls (s : ByteArray) (w : World) (hs : s.size ≤ 1000000) :
    Calls Tryd.prog 43 #[.string s] w fun e w' => e = .returned (.string ⟨(twoSum s.data.toList).toArray⟩) ∧ Below w.heap.size w w' := by
  go_enter Tryd.func43, Tryd.ntmps43
  have HP : Box (padB (s.size : Int) = ⟨(padL s.size).toArray⟩) := ⟨by rw [padB, if_neg (by omega)]; simp⟩
  go_wp2_with fail
  refine (refKeys_own _).mono ?_
  rintro e w1 ⟨rfl, HK1, hb1⟩
  have HB1 := Lib.hid ((((Below.refl w.heap.size w).alloc (Nat.le_refl _) (.cells #[.int .u32 1779033703, .int .u32 3144134277, .int .u32 1013904242, .int .u32 2773480762, .int .u32 1359893119, .int .u32 2600822924, .int .u32 528734635, .int .u32 1541459225] 67))).trans (hb1.mono (by simp)))
  have HO1 : Box (Own w1 w.heap.size 1 (.slice (some ⟨w.heap.size, 0, none⟩) 8 8) 8 (wcells twoStart.cells)) := ⟨(Own.fresh w #[.int .u32 1779033703, .int .u32 3144134277, .int .u32 1013904242, .int .u32 2773480762, .int .u32 1359893119, .int .u32 2600822924, .int .u32 528734635, .int .u32 1541459225] 67 (by decide)).below hb1⟩
  have HK2 : Box (Own w1 w.heap.size 1 (.slice (some ⟨w.heap.size + 1, 0, none⟩) 64 64) 64 (wcells twoKeys)) := ⟨by
    have := HK1.out.weaken (base' := w.heap.size) (by simp)
    simpa using this⟩
  clear hb1
  go_wp2_with fail
  refine (refPad_calls (s.size : Int) _).mono ?_
  rintro e w2 ⟨rfl, hb2⟩
  have HB2 := Lib.hid (below_trans' HB1.out hb2)
  have HO : Box _ := ⟨HO1.out.below hb2⟩
  have HK : Box _ := ⟨HK2.out.below hb2⟩
  clear hb2
  rw [HP.out]
  have hps : (⟨(padL s.size).toArray⟩ : ByteArray).size = 9 + (119 - s.size % 64) % 64 := by rw [mk_size, padL_length]
  obtain ⟨p, hp⟩ : ∃ p, (⟨(padL s.size).toArray⟩ : ByteArray) = p := ⟨_, rfl⟩
  rw [hp] at hps ⊢
  have HPP : Box _ := ⟨hp⟩
  clear hp
  have hp1 : p.size ≤ 72 := by omega
  have hsp : (s ++ p).size = s.size + p.size := ByteArray.size_append
  have hmod : (s.size + p.size) % 64 = 0 := by have := padL_whole s.size; rw [padL_length] at this; omega
  go_wp2
  obtain ⟨t, ht⟩ : ∃ t, s ++ p = t := ⟨_, rfl⟩
  rw [ht] at hsp ⊢
  have HT : Box _ := ⟨ht⟩
  clear ht
  obtain ⟨m, hm⟩ : ∃ m, t.size = 64 * m := ⟨t.size / 64, by omega⟩
  have hm1 : m ≤ 20000 := by omega
  have HM : Box _ := ⟨hm⟩
  have ht1 : t.size ≤ 64 * m := by omega
  have ht2 : 64 * m ≤ t.size := by omega
  clear hsp hmod hps hm hp1
  go_loopw [5] (fun i wr => ∃ (k a : Nat) (x : Eight), k ≤ m ∧ i = .int .i64 (a : Int) ∧ Box (a = 64 * k) ∧ Box (x = twoBlocks t.data.toList twoStart k) ∧ Box (Own wr w.heap.size 1 (.slice (some ⟨w.heap.size, 0, none⟩) 8 8) 8 (wcells x.cells)) ∧ Box (Own wr w.heap.size 1 (.slice (some ⟨w.heap.size + 1, 0, none⟩) 64 64) 64 (wcells twoKeys)) ∧ Hid (Below w.heap.size w wr)) (fun i _ => 64 * m - (intOf i).toNat)
  case atStart => exact ⟨0, 0, twoStart, by omega, rfl, ⟨rfl⟩, ⟨rfl⟩, HO, HK, HB2.out⟩
  case round =>
    obtain ⟨k, a, x, hk, rfl, HA, HX, HN, HKy, HW⟩ := hrel
    by_cases hlt : k < m
    · have ha : a + 64 ≤ t.size := by have := HA.out; omega
      have hd : decide (a < t.size) = true := by simp; omega
      obtain ⟨wo, rfl⟩ : ∃ wo : World, wo = wr := ⟨_, rfl⟩
      go_upto_block 2 with fail
      go_cut [6] from 30 to 204 (fun v wx => Box (Own wx wo.heap.size 1 v 64 (wcells (twoWords ((t.data.toList.drop a).take 64) 48))) ∧ Hid (Below wo.heap.size wo wx))
      case first =>
        go_wp2_with fail
        go_loopw [6, 7] (fun v i wr => ∃ n : Nat, n ≤ 64 ∧ i = .int .i64 (n : Int) ∧ Box (Own wr wo.heap.size 1 v n (wcells ((twoWords ((t.data.toList.drop a).take 64) 48).take n))) ∧ Hid (Below wo.heap.size wo wr)) (fun _ i _ => 64 - (intOf i).toNat)
        case atStart => exact ⟨0, by omega, rfl, ⟨Own.nil _ _ _⟩, Below.refl _ _⟩
        case round =>
          obtain ⟨n, hn, rfl, HV, HWV⟩ := hrel
          by_cases hlt2 : n < 64
          · obtain ⟨W, hW⟩ : ∃ W, twoWords ((t.data.toList.drop a).take 64) 48 = W := ⟨_, rfl⟩
            have hWl : W.length = 64 := by rw [← hW, twoWords_length]
            have HHW : Box (twoWords ((t.data.toList.drop a).take 64) 48 = W) := ⟨hW⟩
            rw [hW] at HV
            obtain ⟨y, hy⟩ : ∃ y, W.getD n 0 = y := ⟨_, rfl⟩
            have HS : Box (W.take (n + 1) = W.take n ++ [y]) := by
              rw [← hy, List.getD_eq_getElem?_getD, List.getElem?_eq_getElem (by omega)]
              exact ⟨take_snoc_of (List.getElem?_eq_getElem (by omega))⟩
            by_cases h16 : n < 16
            · have h4 : 4 ≤ (t.extract (a + 4 * n) (a + 4 * n + 4)).size := by rw [ByteArray.size_extract]; omega
              have HWC : Box (∀ W' : World, Calls Tryd.prog 60 #[.string (t.extract (a + 4 * n) (a + 4 * n + 4))] W' fun e w' => e = .returned (.int .u32 (y.toNat : Int)) ∧ ∃ n, w' = W'.drewN n) := by
                refine ⟨fun W' => ?_⟩
                have h := refWord_calls (t.extract (a + 4 * n) (a + 4 * n + 4)) W' h4
                rw [block_word2 t a n ha h16 h4, hW, hy] at h
                exact h
              clear hW hWl h4 hy
              go_wp2_with (first
                | (go_at_call 60; refine Calls.mono (HWC.out _) ?_; rintro e w5 ⟨rfl, dn, rfl⟩)
                | (at_builtin; refine appO el_w32 wo.heap.size rfl _ _ rfl rfl ((HV.out.drewN _).alloc _) (news := wcells [y]) rfl rfl (rowAt_alloc _ (wcells [y]) _) (one_wcells _) (by omega) (by have := HWV.out.size; simp; omega) ?_; intro v1 w6 hown1 hg1 _; have HO6 : Hid (Own w6 wo.heap.size 1 v1 (n + 1) (wcells (W.take (n + 1)))) := (by rw [HS.out, wcells, List.map_append]; exact hown1); have HB6 : Hid (Below wo.heap.size wo w6) := Own.grown_below ((HV.out.drewN dn).alloc _) ((below_drewN HWV.out dn).alloc (by simpa using HWV.out.size) _) hg1 (Nat.le_refl _); clear hown1 hg1))
              go_roundw
              case rel => first | exact ⟨n + 1, by omega, by go_num, ⟨by rw [HHW.out]; exact HO6.out⟩, HB6.out⟩ | ((repeat apply Exists.intro); exact ⟨⟨n + 1, by omega, by go_num, ⟨by rw [HHW.out]; exact HO6.out⟩, HB6.out⟩, rfl⟩)
              case measure => simp [intOf]; omega
            · have hn0 : 0 < n := by omega
              obtain ⟨g5, cap5, rfl, hgb, hgl, hcap, hrow⟩ := HV.out.form hn0
              have at_ : ∀ d, 0 < d → d ≤ 16 → (W.take n)[n - d]? = some (W.getD (n - d) 0) := by
                intro d h1 h2
                rw [List.getElem?_take, if_pos (by omega), List.getD_eq_getElem?_getD, List.getElem?_eq_getElem (by omega)]; rfl
              have m16 := wcells_at (at_ 16 (by omega) (by omega))
              have m7 := wcells_at (at_ 7 (by omega) (by omega))
              have m15 := wcells_at (at_ 15 (by omega) (by omega))
              have m2 := wcells_at (at_ 2 (by omega) (by omega))
              have hyy : y = twoNew (W.getD (n - 16) 0) (W.getD (n - 7) 0) (W.getD (n - 15) 0) (W.getD (n - 2) 0) := by
                rw [← hy, ← hW]; exact twoW_high _ (by omega) hlt2
              obtain ⟨p16, e16⟩ : ∃ p, W.getD (n - 16) 0 = p := ⟨_, rfl⟩
              obtain ⟨p7, e7⟩ : ∃ p, W.getD (n - 7) 0 = p := ⟨_, rfl⟩
              obtain ⟨p15, e15⟩ : ∃ p, W.getD (n - 15) 0 = p := ⟨_, rfl⟩
              obtain ⟨p2, e2⟩ : ∃ p, W.getD (n - 2) 0 = p := ⟨_, rfl⟩
              rw [e16, e7, e15, e2] at hyy
              rw [e16] at m16
              rw [e7] at m7
              rw [e15] at m15
              rw [e2] at m2
              have c16 := row_cell hrow m16
              have c7 := row_cell hrow m7
              have c15 := row_cell hrow m15
              have c2 := row_cell hrow m2
              have HM16 : Box _ := ⟨m16⟩
              have HM7 : Box _ := ⟨m7⟩
              have HZ : Box ([Value.int .u32 ((((((p16.toNat : Int) + (p7.toNat : Int)) % 4294967296 + bits BinOp.xor IntKind.u32 (bits BinOp.xor IntKind.u32 ((turn p15 25).toNat : Int) ((turn p15 14).toNat : Int)) ((p15.toNat : Int) / (8 : Int))) % 4294967296) + bits BinOp.xor IntKind.u32 (bits BinOp.xor IntKind.u32 ((turn p2 15).toNat : Int) ((turn p2 13).toNat : Int)) ((p2.toNat : Int) / (1024 : Int))) % 4294967296)] = wcells [y]) := by
                refine ⟨?_⟩
                rw [t_add, show (8 : Int) = (2 : Int) ^ 3 by decide, show (1024 : Int) = (2 : Int) ^ 10 by decide, t_shr, t_shr, w_xor, w_xor, w_xor, w_xor, t_add, t_add, hyy]
                rfl
              clear e16 e7 e15 e2 hyy hy hW hWl at_ m16 m7 m15 m2 hrow
              have y16 := IntWalk.i64_in ((n : Int) - 16) (by omega)
              have z16 : ((n : Int) - 16).toNat = n - 16 := by omega
              have b16 : (0 : Int) ≤ (n : Int) - 16 := by omega
              have a16 : (16 : Int) ≤ (n : Int) := by omega
              have l16 : (n : Int) - 16 < (n : Int) := by omega
              have y7 := IntWalk.i64_in ((n : Int) - 7) (by omega)
              have z7 : ((n : Int) - 7).toNat = n - 7 := by omega
              have b7 : (0 : Int) ≤ (n : Int) - 7 := by omega
              have a7 : (7 : Int) ≤ (n : Int) := by omega
              have l7 : (n : Int) - 7 < (n : Int) := by omega
              have y15 := IntWalk.i64_in ((n : Int) - 15) (by omega)
              have z15 : ((n : Int) - 15).toNat = n - 15 := by omega
              have b15 : (0 : Int) ≤ (n : Int) - 15 := by omega
              have a15 : (15 : Int) ≤ (n : Int) := by omega
              have l15 : (n : Int) - 15 < (n : Int) := by omega
              have y2 := IntWalk.i64_in ((n : Int) - 2) (by omega)
              have z2 : ((n : Int) - 2).toNat = n - 2 := by omega
              have b2 : (0 : Int) ≤ (n : Int) - 2 := by omega
              have a2 : (2 : Int) ≤ (n : Int) := by omega
              have l2 : (n : Int) - 2 < (n : Int) := by omega
              go_wp2
              go_big_quiet (fail)
              go_wp2_with fail
              go_region_held3 (fun w' => w'.cell? ⟨g5, n - 16, none⟩ = some (.int .u32 (p16.toNat : Int)) ∧ w'.cell? ⟨g5, n - 7, none⟩ = some (.int .u32 (p7.toNat : Int)))
                (first | exact ⟨c16, c7⟩ | exact ⟨row_cell HKk.out HM16.out, row_cell HKk.out HM7.out⟩ | exact ⟨(World.cell?_alloc_lt _ _ _ (World.block_lt_of_cell? _ _ c16)).trans c16, (World.cell?_alloc_lt _ _ _ (World.block_lt_of_cell? _ _ c7)).trans c7⟩)
                (first
                  | (go_at_call_of 61 (Value.int .i64 25); refine (refTurn_calls _ 25 _ (by omega)).mono ?_; rintro e w5 ⟨rfl, dn1, rfl⟩)
                  | (go_at_call_of 61 (Value.int .i64 14); refine (refTurn_calls _ 14 _ (by omega)).mono ?_; rintro e w5 ⟨rfl, dn2, rfl⟩)
                  | (go_at_call_of 61 (Value.int .i64 15); refine (refTurn_calls _ 15 _ (by omega)).mono ?_; rintro e w5 ⟨rfl, dn3, rfl⟩)
                  | (go_at_call_of 61 (Value.int .i64 13); refine (refTurn_calls _ 13 _ (by omega)).mono ?_; rintro e w5 ⟨rfl, dn4, rfl⟩)
                  | (refine step_appO2 el_w32 wo.heap.size rfl _ _ rfl rfl ((HV.out.drewN _).alloc _) (news := wcells [y]) rfl rfl (by rw [← HZ.out]; exact rowAt_alloc _ _ _) (one_wcells _) (by omega) (by have := HWV.out.size; simp; omega) ?_; intro v1 w6 hown1 hg1 _ hk1 _; have HKk : Box _ := ⟨hk1 _ _ rfl⟩; have HO6 : Box (Own w6 wo.heap.size 1 v1 (n + 1) (wcells (W.take (n + 1)))) := (by refine ⟨?_⟩; rw [HS.out, wcells, List.map_append]; exact hown1); have HB6 : Hid (Below wo.heap.size wo w6) := Own.grown_below ((HV.out.drewN _).alloc _) ((below_drewN HWV.out _).alloc (by simpa using HWV.out.size) _) hg1 (Nat.le_refl _); clear hown1 hg1 hk1))
              go_wp2
              go_roundw
              case rel => first | exact ⟨n + 1, by omega, by go_num, ⟨by rw [HHW.out]; exact HO6.out⟩, HB6.out⟩ | ((repeat apply Exists.intro); exact ⟨⟨n + 1, by omega, by go_num, ⟨by rw [HHW.out]; exact HO6.out⟩, HB6.out⟩, rfl⟩)
              case measure => simp [intOf]; omega
          · obtain rfl : n = 64 := by omega
            go_wp2_with fail
            go_meet
            refine ⟨⟨?_⟩, HWV.out⟩
            have := HV.out
            rwa [List.take_of_length_le (by rw [twoWords_length]; omega)] at this
      case rest =>
        obtain ⟨HV, HWV⟩ := hcut
        obtain ⟨wa, rfl⟩ : ∃ wa : World, wa = wc := ⟨_, rfl⟩
        obtain ⟨g5, cap5, rfl, hgb, hgl, hcap, hrow⟩ := HV.out.form (by omega)
        have HRow : Box _ := ⟨hrow⟩
        clear hrow
        have HNa : Box _ := ⟨HN.out.below HWV.out⟩
        have HKa : Box _ := ⟨HKy.out.below HWV.out⟩
        have HWa : Hid (Below w.heap.size w wa) := HW.out.trans (HWV.out.mono HW.out.size)
        have hRh : RowAt wa (some ⟨w.heap.size, 0, none⟩) (wcells x.cells) := by
          obtain ⟨A', c', e', _, hr', _⟩ := HNa.out.slice
          injection e' with e1 e2 e3
          subst e1
          exact hr'
        have HRh : Box _ := ⟨hRh⟩
        clear hRh
        go_upto_block 4 with (at_builtin; refine appO el_w32 wa.heap.size rfl _ _ rfl (v := .slice none 0 0) (n := 0) (xs := []) rfl (Own.nil _ _ _) rfl (news := wcells x.cells) (by simp [wcells, Eight.cells]) HRh.out (one_wcells _) (by omega) (Nat.le_refl _) ?_; intro v1 wb hown1 hg1 _; obtain ⟨gv, capv, rfl, _, _, _, _⟩ := hown1.form (by omega); have HVb : Box (Own wb wa.heap.size 1 _ 8 (wcells x.cells)) := ⟨by simpa using hown1⟩; have HWb : Hid (Below wa.heap.size wa wb) := (Below.refl _ _).grown hg1 (Nat.le_refl _) (fun j hj => by cases (show (none : Option Nat) = some j from hj)); clear hown1 hg1)
        go_cut [10] from 30 to 204 (fun v wx => ∃ (g cap : Nat) (y : Eight), v = .slice (some ⟨g, 0, none⟩) 8 cap ∧ Box (y = twoRounds (twoWords ((t.data.toList.drop a).take 64) 48) x 64) ∧ Box (Own wx wa.heap.size 1 (.slice (some ⟨g, 0, none⟩) 8 cap) 8 (wcells y.cells)) ∧ Hid (Below wa.heap.size wa wx))
        case first =>
          go_wp2_with fail
          go_loopw [10, 11] (fun v i wr => ∃ (n g cap : Nat) (y : Eight), n ≤ 64 ∧ i = .int .i64 (n : Int) ∧ v = .slice (some ⟨g, 0, none⟩) 8 cap ∧ Box (y = twoRounds (twoWords ((t.data.toList.drop a).take 64) 48) x n) ∧ Box (Own wr wa.heap.size 1 (.slice (some ⟨g, 0, none⟩) 8 cap) 8 (wcells y.cells)) ∧ Hid (Below wa.heap.size wa wr)) (fun _ i _ => 64 - (intOf i).toNat)
          case atStart => exact ⟨0, _, _, x, by omega, rfl, rfl, ⟨rfl⟩, ⟨HVb.out⟩, HWb.out⟩
          case round =>
            obtain ⟨n, gr, cap, y, hn, rfl, rfl, HY, HV, HWr⟩ := hrel
            by_cases hlt2 : n < 64
            · obtain ⟨p, hp⟩ : ∃ p, (twoWords ((t.data.toList.drop a).take 64) 48).getD n 0 = p := ⟨_, rfl⟩
              obtain ⟨q, hq⟩ : ∃ q, twoKeys.getD n 0 = q := ⟨_, rfl⟩
              have m1 := wlist_at (L := twoWords ((t.data.toList.drop a).take 64) 48) (k := n) (by rw [twoWords_length]; omega)
              have m2 := wlist_at (L := twoKeys) (k := n) hlt2
              rw [hp] at m1
              rw [hq] at m2
              have cw := cell_kept HWr.out (Nat.le_refl _) (row_cell HRow.out m1)
              have ck := cell_kept HWr.out (Nat.le_refl _) (HKa.out.cell m2).1
              have HE : Box (twoRounds (twoWords ((t.data.toList.drop a).take 64) 48) x (n + 1) = twoStep q p y) := ⟨by rw [twoRounds, hp, hq, HY.out]⟩
              clear hp hq m1 m2
              obtain ⟨e0, _⟩ := HV.out.cell (j := 0) (u := .int .u32 (y.a.toNat : Int)) rfl
              obtain ⟨e1, _⟩ := HV.out.cell (j := 1) (u := .int .u32 (y.b.toNat : Int)) rfl
              obtain ⟨e2, _⟩ := HV.out.cell (j := 2) (u := .int .u32 (y.c.toNat : Int)) rfl
              obtain ⟨e3, _⟩ := HV.out.cell (j := 3) (u := .int .u32 (y.d.toNat : Int)) rfl
              obtain ⟨e4, _⟩ := HV.out.cell (j := 4) (u := .int .u32 (y.e.toNat : Int)) rfl
              obtain ⟨e5, _⟩ := HV.out.cell (j := 5) (u := .int .u32 (y.f.toNat : Int)) rfl
              obtain ⟨e6, _⟩ := HV.out.cell (j := 6) (u := .int .u32 (y.g.toNat : Int)) rfl
              obtain ⟨e7, _⟩ := HV.out.cell (j := 7) (u := .int .u32 (y.i.toNat : Int)) rfl
              have b9 : (0 : Int) ≤ (n : Int) := by omega
              have b10 : (n : Int) < 64 := by omega
              go_wp2_with fail
              go_big_quiet (fail)
              go_wp2_with fail
              obtain ⟨wq, hwq⟩ : ∃ wq, wr.drewN nq = wq := ⟨_, rfl⟩
              rw [hwq]
              have HVq : Box (Own wq wa.heap.size 1 (.slice (some ⟨gr, 0, none⟩) 8 cap) 8 (wcells y.cells)) := ⟨by rw [← hwq]; exact HV.out.drewN _⟩
              have HWq : Hid (Below wa.heap.size wa wq) := by rw [Hid, ← hwq]; exact below_drewN HWr.out _
              replace cw := cell_turned hwq cw
              replace ck := cell_turned hwq ck
              clear e0 e1 e2 e3 e4 e5 e6 e7 hwq
              obtain ⟨e7, _⟩ := HVq.out.cell (j := 7) (u := .int .u32 (y.i.toNat : Int)) rfl
              obtain ⟨e3, _⟩ := HVq.out.cell (j := 3) (u := .int .u32 (y.d.toNat : Int)) rfl
              go_big_quiet ((first
                | (go_at_call_of 61 (Value.int .i64 26); exact quiet_more (refTurn_calls _ 26 _ (by omega)))
                | (go_at_call_of 61 (Value.int .i64 21); exact quiet_more (refTurn_calls _ 21 _ (by omega)))
                | (go_at_call_of 61 (Value.int .i64 7); exact quiet_more (refTurn_calls _ 7 _ (by omega)))))
              go_wp2_with (first
                | (go_at_call_of 61 (Value.int .i64 30); refine (refTurn_calls _ 30 _ (by omega)).mono ?_; rintro e w' ⟨rfl, d1, rfl⟩)
                | (go_at_call_of 61 (Value.int .i64 19); refine (refTurn_calls _ 19 _ (by omega)).mono ?_; rintro e w' ⟨rfl, d2, rfl⟩)
                | (go_at_call_of 61 (Value.int .i64 10); refine (refTurn_calls _ 10 _ (by omega)).mono ?_; rintro e w' ⟨rfl, d3, rfl⟩))
              go_roundw
              case rel =>
                have hmax : (if IntKind.u32.signed = true then (-1 : Int) else IntKind.u32.max) = IntKind.u32.max := rfl
                refine ⟨n + 1, wq.heap.size, 8, twoStep q p y, by omega, by go_num, rfl, ⟨HE.out.symm⟩, ⟨?_⟩, ?_⟩
                · refine own_fresh8 _ 67 (b0 := twoX y q p + (twoY y + twoZ y)) (b4 := y.d + twoX y q p) rfl ?_ ?_ HWq.out.size
                  all_goals
                    (try simp only [hmax])
                    (try simp only [IntKind.wrap_u32'])
                    (try simp only [w_not'])
                    (try simp only [w_and])
                    (try simp only [w_xor])
                    (try unfold twoX)
                    (try unfold twoY)
                    (try unfold twoZ)
                    simp only [BitVec.toNat_add]
                    omega
                · exact (below_drewN HWq.out _).alloc HWq.out.size _
              case measure => simp [intOf]; omega
            · obtain rfl : n = 64 := by omega
              go_wp2_with fail
              go_meet
              exact ⟨gr, cap, y, rfl, HY, HV, HWr.out⟩
        case rest =>
          obtain ⟨gr, cap, y, rfl, HY, HV, HWr⟩ := hcut
          have HNc : Box _ := ⟨HNa.out.below HWr.out⟩
          have HKc : Box _ := ⟨HKa.out.below HWr.out⟩
          have HWc : Hid (Below w.heap.size w wc) := HWa.out.trans (HWr.out.mono HWa.out.size)
          have hgr : w.heap.size + 1 < gr := by have := (HV.out.lt gr rfl).1; have := (HKa.out.lt (w.heap.size + 1) rfl).2; omega
          have HFin : Box (twoBlocks t.data.toList twoStart (k + 1) = x.add y) := ⟨by rw [twoBlocks, ← HX.out, twoMix, ← HA.out, ← HY.out]⟩
          have HN0 : Box (Own wc w.heap.size 1 (.slice (some ⟨w.heap.size, 0, none⟩) 8 8) 8 (fw (fun j => if j < 0 then x.cells.getD j 0 + y.cells.getD j 0 else x.cells.getD j 0) 8)) := ⟨HNc.out⟩
          go_wp2_with fail
          go_loopw [20] (fun i wr => ∃ n : Nat, n ≤ 8 ∧ i = .int .i64 (n : Int) ∧ Box (Own wr w.heap.size 1 (.slice (some ⟨w.heap.size, 0, none⟩) 8 8) 8 (fw (fun j => if j < n then x.cells.getD j 0 + y.cells.getD j 0 else x.cells.getD j 0) 8)) ∧ Box (Own wr wa.heap.size 1 (.slice (some ⟨gr, 0, none⟩) 8 cap) 8 (wcells y.cells)) ∧ Box (Own wr w.heap.size 1 (.slice (some ⟨w.heap.size + 1, 0, none⟩) 64 64) 64 (wcells twoKeys)) ∧ Hid (Below w.heap.size w wr)) (fun i _ => 8 - (intOf i).toNat)
          case atStart => exact ⟨0, by omega, rfl, HN0, HV, HKc, HWc.out⟩
          case round =>
            obtain ⟨n, hn, rfl, HN, HV, HKy, HW⟩ := hrel
            by_cases hlt2 : n < 8
            · obtain ⟨c0, f0⟩ := HN.out.cell (fw_at _ hlt2)
              simp only [Nat.lt_irrefl, if_false] at c0
              obtain ⟨c1, _⟩ := HV.out.cell (wlist_at (L := y.cells) (k := n) hlt2)
              obtain ⟨p, hp⟩ : ∃ p, x.cells.getD n 0 = p := ⟨_, rfl⟩
              obtain ⟨q, hq⟩ : ∃ q, y.cells.getD n 0 = q := ⟨_, rfl⟩
              rw [hp] at c0
              rw [hq] at c1
              have HPQ : Box (x.cells.getD n 0 + y.cells.getD n 0 = p + q) := ⟨by rw [hp, hq]⟩
              clear hp hq
              have b9 : (0 : Int) ≤ (n : Int) := by omega
              have b10 : (n : Int) < 8 := by omega
              have hne : w.heap.size ≠ gr := by omega
              go_wp2_with fail
              go_region
              go_wp2_with fail
              go_roundw
              case rel =>
                have g := HN.out.set n (by rw [fw_length]; exact hlt2) (.int .u32 ((p + q).toNat : Int))
                rw [fw_set] at g
                refine ⟨n + 1, by omega, by go_num, ⟨?_⟩, ⟨?_⟩, ⟨?_⟩, ?_⟩
                · rw [t_add]
                  have h2 := g.1
                  rw [fw_congr (g := fun j => if j < n + 1 then x.cells.getD j 0 + y.cells.getD j 0 else x.cells.getD j 0) (fun j _ => by
                    by_cases e : j = n
                    · subst e; simp [← HPQ.out]
                    · by_cases e2 : j < n
                      · rw [if_neg e, if_pos e2, if_pos (by omega)]
                      · rw [if_neg e, if_neg e2, if_neg (by omega)])] at h2
                  exact h2.drew
                · rw [t_add]; exact (HV.out.kept g.2 (.inr (by simp [Value.ownBlock]; omega))).drew
                · rw [t_add]; exact (HKy.out.kept g.2 (.inr (by simp [Value.ownBlock]))).drew
                · exact below_drewN (HW.out.setCell (by simp) _) 1
              case measure => simp [intOf]; omega
            · obtain rfl : n = 8 := by omega
              go_wp2_with fail
              go_roundw
              case rel =>
                have hfin : fw (fun j => if j < 8 then x.cells.getD j 0 + y.cells.getD j 0 else x.cells.getD j 0) 8 = wcells (x.add y).cells := rfl
                first
                  | exact ⟨k + 1, a + 64, x.add y, by omega, by go_num, ⟨by have := HA.out; omega⟩, ⟨HFin.out.symm⟩, ⟨by rw [← hfin]; exact HN.out⟩, HKy, HW.out⟩
                  | ((repeat apply Exists.intro); exact ⟨⟨k + 1, a + 64, x.add y, by omega, by go_num, ⟨by have := HA.out; omega⟩, ⟨HFin.out.symm⟩, ⟨by rw [← hfin]; exact HN.out⟩, HKy, HW.out⟩, rfl⟩)
              case measure => simp [intOf]; omega
    · obtain rfl : k = m := by omega
      have ha2 : t.size ≤ a := by have := HA.out; omega
      have hd : decide (a < t.size) = false := by simp; omega
      have hd2 : decide ((a : Int) < (t.size : Int)) = false := by simp; omega
      have HF : Box (twoSum s.data.toList = x.cells.flatMap hi4) := by
        have e : t.data.toList = s.data.toList ++ padL s.size := by rw [← HT.out, ByteArray.data_append, Array.toList_append, ← HPP.out]
        refine ⟨?_⟩
        rw [twoSum, data_length, ← e, data_length, HM.out, Nat.mul_div_cancel_left _ (by omega), HX.out]
      go_wp2
      go_loopw [21, 22] (fun v i wr => ∃ k : Nat, k ≤ 8 ∧ i = .int .i64 (k : Int) ∧ v = .string (outB (x.cells.take k)) ∧ Box (Own wr w.heap.size 1 (.slice (some ⟨w.heap.size, 0, none⟩) 8 8) 8 (wcells x.cells)) ∧ Hid (Below w.heap.size w wr)) (fun _ i _ => 8 - (intOf i).toNat)
      case atStart => exact ⟨0, by omega, rfl, rfl, HN, HW.out⟩
      case round =>
        obtain ⟨k, hk, rfl, rfl, HN, HW⟩ := hrel
        by_cases hlt2 : k < 8
        · obtain ⟨y, hy⟩ : ∃ y, x.cells.getD k 0 = y := ⟨_, rfl⟩
          have h5 : x.cells[k]? = some y := by
            rw [← hy, List.getD_eq_getElem?_getD, List.getElem?_eq_getElem (show k < x.cells.length from hlt2)]; rfl
          obtain ⟨c0, _⟩ := HN.out.cell (wcells_at h5)
          have HX2 : Box (outB (x.cells.take (k + 1)) = outB (x.cells.take k) ++ ⟨(hiL y.toNat 4).toArray⟩) := ⟨by rw [take_snoc_of h5, outB_snoc]⟩
          have hsz : (outB (x.cells.take k)).size ≤ 32 := by rw [outB_size, List.length_take]; omega
          have hy32 : IntKind.u64.wrap (y.toNat : Int) = (y.toNat : Int) := by rw [IntKind.wrap_u64]; have := w_lt y; omega
          have hy33 := w_lt y
          clear hy h5
          go_wp2_with fail
          refine (refHigh_calls y.toNat 4 _ (by omega) (by omega)).mono ?_
          rintro e w7 ⟨rfl, hb7⟩
          have HB7 := Lib.hid (below_trans' HW.out hb7)
          have HN7 : Box _ := ⟨HN.out.below hb7⟩
          clear hb7
          have hq1 : (⟨(hiL y.toNat 4).toArray⟩ : ByteArray).size = 4 := by rw [mk_size, hiL_length]
          obtain ⟨q, hq⟩ : ∃ q, (⟨(hiL y.toNat 4).toArray⟩ : ByteArray) = q := ⟨_, rfl⟩
          have HX3 : Box (outB (x.cells.take (k + 1)) = outB (x.cells.take k) ++ q) := ⟨by rw [HX2.out, hq]⟩
          rw [hq] at hq1 ⊢
          have hq2 : q.size ≤ 4 := by omega
          clear hq1 hq
          go_wp2
          go_roundw
          case rel => first | exact ⟨k + 1, by omega, by go_num, by rw [HX3.out], HN7, HB7.out⟩ | ((repeat apply Exists.intro); exact ⟨⟨k + 1, by omega, by go_num, by rw [HX3.out], HN7, HB7.out⟩, rfl⟩)
          case measure => simp [intOf]; omega
        · obtain rfl : k = 8 := by omega
          go_wp2
          go_ret
          refine ⟨ret_str ?_, HW.out⟩
          rw [HF.out]
          rfl
end Go.Proofs.YtbkankpfkbafdaaDoor

/- mark: Size, Valid, Of, Hash, Text; the document's own. -/

namespace Go.Proofs.YtbkankpfkbafdaaDoor
open Go.RowKit

def sizeM (k : Int) : Int := if k = 1 then 20 else if k = 2 then 32 else 0
theorem size_calls (k : Int) (w : World) : Calls Tryd.prog 19 #[.int .i64 k] w fun e w' => e = .returned (.int .i64 (sizeM k)) ∧ w = w' := by
  by_cases h1 : k = 1
  · subst h1
    go_enter Tryd.func19, Tryd.ntmps19
    go_wp2_with fail
    go_ret
    exact ⟨rfl, rfl⟩
  by_cases h2 : k = 2
  · subst h2
    go_enter Tryd.func19, Tryd.ntmps19
    go_wp2_with fail
    go_ret
    exact ⟨rfl, rfl⟩
  rw [sizeM, if_neg h1, if_neg h2]
  have z1 : (k == 1) = false := by simpa using h1
  have z2 : (k == 2) = false := by simpa using h2
  clear h1 h2
  go_enter Tryd.func19, Tryd.ntmps19
  go_wp2_with fail
  go_ret
  exact ⟨rfl, rfl⟩
theorem refSize_calls (k : Int) (w : World) : Calls Tryd.prog 10 #[.int .i64 k] w fun e w' => e = .returned (.int .i64 (sizeM k)) ∧ w = w' := by
  by_cases h1 : k = 1
  · subst h1
    go_enter Tryd.func10, Tryd.ntmps10
    go_wp2_with fail
    go_ret
    exact ⟨rfl, rfl⟩
  by_cases h2 : k = 2
  · subst h2
    go_enter Tryd.func10, Tryd.ntmps10
    go_wp2_with fail
    go_ret
    exact ⟨rfl, rfl⟩
  rw [sizeM, if_neg h1, if_neg h2]
  have z1 : (k == 1) = false := by simpa using h1
  have z2 : (k == 2) = false := by simpa using h2
  clear h1 h2
  go_enter Tryd.func10, Tryd.ntmps10
  go_wp2_with fail
  go_ret
  exact ⟨rfl, rfl⟩
theorem sizeM_vals (k : Int) : (k = 1 ∧ sizeM k = 20) ∨ (k = 2 ∧ sizeM k = 32) ∨ (k ≠ 1 ∧ k ≠ 2 ∧ sizeM k = 0) := by
  unfold sizeM
  by_cases h1 : k = 1
  · exact .inl ⟨h1, if_pos h1⟩
  · by_cases h2 : k = 2
    · exact .inr (.inl ⟨h2, by rw [if_neg h1, if_pos h2]⟩)
    · exact .inr (.inr ⟨h1, h2, by rw [if_neg h1, if_neg h2]⟩)
def validM (k : Int) (s : ByteArray) : Bool := decide (0 < sizeM k) && decide ((s.size : Int) = sizeM k)
theorem valid_calls (k : Int) (s : ByteArray) (w : World) : Calls Tryd.prog 20 #[.agg #[.int .i64 k, .string s]] w fun e w' => e = .returned (.bool (validM k s)) ∧ Below w.heap.size w w' := by
  have N : Box _ := ⟨size_calls k⟩
  have HV : Box (validM k s = (decide (0 < sizeM k) && decide ((s.size : Int) = sizeM k))) := ⟨rfl⟩
  have hz0 : 0 ≤ sizeM k ∧ sizeM k ≤ 32 := by rcases sizeM_vals k with ⟨_, h⟩ | ⟨_, h⟩ | ⟨_, _, h⟩ <;> omega
  obtain ⟨z, hz⟩ : ∃ z, sizeM k = z := ⟨_, rfl⟩
  obtain ⟨v, hv⟩ : ∃ v, validM k s = v := ⟨_, rfl⟩
  rw [hz] at N HV hz0
  rw [hv] at HV ⊢
  clear hz hv
  by_cases hz1 : 0 < z
  · by_cases hs : (s.size : Int) = z
    · have e1 : ((s.size : Int) == z) = true := by simpa using hs
      have HV2 : Box (v = true) := ⟨by rw [HV.out, decide_eq_true hz1, decide_eq_true hs]; rfl⟩
      clear hs
      go_enter Tryd.func20, Tryd.ntmps20
      go_wp2_with fail
      go_quiet ((go_at_call 19; exact quiet_same (N.out _)))
      go_wp2
      go_ret
      exact ⟨by rw [HV2.out]; rfl, below_drewN (bel_alloc (Below.refl _ _) _) _⟩
    · have e1 : ((s.size : Int) == z) = false := by simpa using hs
      have HV2 : Box (v = false) := ⟨by rw [HV.out, decide_eq_false hs, Bool.and_false]⟩
      clear hs
      go_enter Tryd.func20, Tryd.ntmps20
      go_wp2_with fail
      go_quiet ((go_at_call 19; exact quiet_same (N.out _)))
      go_wp2
      go_ret
      exact ⟨by rw [HV2.out]; rfl, below_drewN (bel_alloc (Below.refl _ _) _) _⟩
  · have HV2 : Box (v = false) := ⟨by rw [HV.out, decide_eq_false hz1, Bool.false_and]⟩
    have e1 : decide (0 < z) = false := decide_eq_false hz1
    go_enter Tryd.func20, Tryd.ntmps20
    go_wp2_with fail
    go_quiet ((go_at_call 19; exact quiet_same (N.out _)))
    go_wp2
    go_ret
    exact ⟨by rw [HV2.out]; rfl, below_drewN (bel_alloc (Below.refl _ _) _) _⟩
theorem refValid_calls (k : Int) (s : ByteArray) (w : World) : Calls Tryd.prog 16 #[.agg #[.int .i64 k, .string s]] w fun e w' => e = .returned (.bool (validM k s)) ∧ Below w.heap.size w w' := by
  have N : Box _ := ⟨refSize_calls k⟩
  have HV : Box (validM k s = (decide (0 < sizeM k) && decide ((s.size : Int) = sizeM k))) := ⟨rfl⟩
  have hz0 : 0 ≤ sizeM k ∧ sizeM k ≤ 32 := by rcases sizeM_vals k with ⟨_, h⟩ | ⟨_, h⟩ | ⟨_, _, h⟩ <;> omega
  obtain ⟨z, hz⟩ : ∃ z, sizeM k = z := ⟨_, rfl⟩
  obtain ⟨v, hv⟩ : ∃ v, validM k s = v := ⟨_, rfl⟩
  rw [hz] at N HV hz0
  rw [hv] at HV ⊢
  clear hz hv
  by_cases hz1 : 0 < z
  · by_cases hs : (s.size : Int) = z
    · have e1 : ((s.size : Int) == z) = true := by simpa using hs
      have HV2 : Box (v = true) := ⟨by rw [HV.out, decide_eq_true hz1, decide_eq_true hs]; rfl⟩
      clear hs
      go_enter Tryd.func16, Tryd.ntmps16
      go_wp2_with fail
      go_quiet ((go_at_call 10; exact quiet_same (N.out _)))
      go_wp2
      go_ret
      exact ⟨by rw [HV2.out]; rfl, below_drewN (bel_alloc (Below.refl _ _) _) _⟩
    · have e1 : ((s.size : Int) == z) = false := by simpa using hs
      have HV2 : Box (v = false) := ⟨by rw [HV.out, decide_eq_false hs, Bool.and_false]⟩
      clear hs
      go_enter Tryd.func16, Tryd.ntmps16
      go_wp2_with fail
      go_quiet ((go_at_call 10; exact quiet_same (N.out _)))
      go_wp2
      go_ret
      exact ⟨by rw [HV2.out]; rfl, below_drewN (bel_alloc (Below.refl _ _) _) _⟩
  · have HV2 : Box (v = false) := ⟨by rw [HV.out, decide_eq_false hz1, Bool.false_and]⟩
    have e1 : decide (0 < z) = false := decide_eq_false hz1
    go_enter Tryd.func16, Tryd.ntmps16
    go_wp2_with fail
    go_quiet ((go_at_call 10; exact quiet_same (N.out _)))
    go_wp2
    go_ret
    exact ⟨by rw [HV2.out]; rfl, below_drewN (bel_alloc (Below.refl _ _) _) _⟩

theorem results_cell_tmp {P : Program} {fn : Func} {p q : Tmp} {ty : TypeId} (h : fn.results = #[.cell p ty, .tmp q]) (tmps : Array Value) (w : World) (g : Nat) (cs : List Value) (d : TypeDesc)
    (hp : tmps.getD p undef = .pointer (some ⟨g, 0, none⟩)) (hc : w.rangeAt g 0 cs)
    (hu : P.underlying ty = some d) (hd : d.isRow = true) (hi : (P.info? ty).map (·.size) = some cs.length) :
    (results fn tmps).run P w = .ok (.tuple #[.agg cs.toArray, tmps.getD q undef]) w := by
  have hp' : tmps[p]?.getD undef = .pointer (some ⟨g, 0, none⟩) := by simpa using hp
  simp [results, h, hp', asAddr, run_loadVar_mid w g 0 ty cs d hc hu hd hi]
theorem range_two {w : World} {g : Nat} {a b : Value} (h0 : w.cell? ⟨g, 0, none⟩ = some a) (h1 : w.cell? ⟨g, 1, none⟩ = some b) : w.rangeAt g 0 [a, b] := by
  intro j v hv
  rcases j with _ | _ | j
  · simp at hv; subst hv; exact h0
  · simp at hv; subst hv; exact h1
  · simp at hv
/-- A variable of a fingerprint: its two cells. -/
structure PrintAt (w : World) (g : Nat) (k : Int) (s : ByteArray) : Prop where
  c0 : w.cell? ⟨g, 0, none⟩ = some (.int .i64 k)
  c1 : w.cell? ⟨g, 1, none⟩ = some (.string s)
  f0 : w.frozen? ⟨g, 0, none⟩ = false
  f1 : w.frozen? ⟨g, 1, none⟩ = false
theorem PrintAt.new (w : World) (k : Int) (s : ByteArray) : PrintAt (w.alloc (.cells #[.int .i64 k, .string s] 24)) w.heap.size k s := by
  have hb := heap_alloc_new w (.cells #[.int .i64 k, .string s] 24)
  exact ⟨cell_of_row _ _ 0 _ _ (0, 0) hb, cell_of_row _ _ 1 _ _ (0, 0) hb, frozen_of_row _ _ 0 _ _ hb, frozen_of_row _ _ 1 _ _ hb⟩
theorem PrintAt.lt {w : World} {g : Nat} {k : Int} {s : ByteArray} (h : PrintAt w g k s) : g < w.heap.size := World.block_lt_of_cell? w _ h.c0
theorem PrintAt.below {w w1 : World} {g : Nat} {k : Int} {s : ByteArray} (h : PrintAt w g k s) (hb : Below w.heap.size w w1) : PrintAt w1 g k s :=
  have hT := Touched.of_below hb []
  ⟨(hT.cell h.lt (by simp)).trans h.c0, (hT.cell h.lt (by simp)).trans h.c1, (hT.free h.lt (by simp)).trans h.f0, (hT.free h.lt (by simp)).trans h.f1⟩
theorem PrintAt.touched {w w1 : World} {g : Nat} {k : Int} {s : ByteArray} {bs : List Nat} (h : PrintAt w g k s) (hT : Touched w w1 bs) (hn : g ∉ bs) : PrintAt w1 g k s :=
  ⟨(hT.cell h.lt hn).trans h.c0, (hT.cell h.lt hn).trans h.c1, (hT.free h.lt hn).trans h.f0, (hT.free h.lt hn).trans h.f1⟩
theorem PrintAt.drew {w : World} {g : Nat} {k : Int} {s : ByteArray} (h : PrintAt w g k s) : PrintAt w.drew g k s := ⟨h.c0, h.c1, h.f0, h.f1⟩
theorem PrintAt.set {w : World} {g : Nat} {k : Int} {s : ByteArray} (h : PrintAt w g k s) (k' : Int) (s' : ByteArray) : PrintAt ((w.setCell ⟨g, 0, none⟩ (.int .i64 k')).setCell ⟨g, 1, none⟩ (.string s')) g k' s' := by
  have h1 : (w.setCell ⟨g, 0, none⟩ (.int .i64 k')).cell? ⟨g, 1, none⟩ = some (.string s) := (World.cell?_setCell_other w ⟨g, 0, none⟩ ⟨g, 1, none⟩ _ (by simp)).trans h.c1
  refine ⟨?_, World.cell?_setCell_same' _ _ _ (by rw [h1]; simp), ?_, ?_⟩
  · refine (World.cell?_setCell_other _ ⟨g, 1, none⟩ ⟨g, 0, none⟩ _ (by simp)).trans ?_
    exact World.cell?_setCell_same' w _ _ (by rw [h.c0]; simp)
  · rw [World.frozen?_setCell, World.frozen?_setCell]; exact h.f0
  · rw [World.frozen?_setCell, World.frozen?_setCell]; exact h.f1
theorem PrintAt.setSum {w : World} {g : Nat} {k : Int} {s : ByteArray} (h : PrintAt w g k s) (s' : ByteArray) : PrintAt (w.setCell ⟨g, 1, none⟩ (.string s')) g k s' :=
  ⟨(World.cell?_setCell_other w ⟨g, 1, none⟩ ⟨g, 0, none⟩ _ (by simp)).trans h.c0, World.cell?_setCell_same' w _ _ (by rw [h.c1]; simp), by rw [World.frozen?_setCell]; exact h.f0, by rw [World.frozen?_setCell]; exact h.f1⟩

def ofM (k : Int) (l : List ByteArray) : Int × ByteArray × Int := if k = 1 then (1, sumB l, 0) else if k = 2 then (2, sum2B l, 0) else (0, ByteArray.empty, 1)
theorem of_calls (k : Int) (A : Option Addr) (n c : Nat) (l : List ByteArray) (w : World) (hl : l.length = n) (hc : n ≤ c) (hn : n ≤ 140737488355328) (hs : totalLen l ≤ 1000000) (hR : RowAt w A (scells l)) :
    Calls Tryd.prog 7 #[.int .i64 k, .slice A n c] w fun e w' => e = .returned (.tuple #[.agg #[.int .i64 (ofM k l).1, .string (ofM k l).2.1], .int .i64 (ofM k l).2.2]) ∧ Below w.heap.size w w' := by
  have HP : Box _ := ⟨PrintAt.new w 0 ByteArray.empty⟩
  have hB0 := bel_alloc (Below.refl w.heap.size w) (.cells #[.int .i64 0, .string ByteArray.empty] 24)
  have HB0 : Box _ := ⟨hB0⟩
  have H1 : Box _ := ⟨oneSum_calls A n c l _ hl hc hn hs (hR.below hB0)⟩
  have H2 : Box _ := ⟨twoSum_calls A n c l _ hl hc hn hs (hR.below hB0)⟩
  clear hB0 hR
  by_cases h1 : k = 1
  · subst h1
    have e : ofM 1 l = (1, sumB l, 0) := by rw [ofM, if_pos rfl]
    rw [e]
    rw [show (⟨(oneSum (joinB l).data.toList).toArray⟩ : ByteArray) = sumB l from rfl] at H1
    clear e H2
    go_enter Tryd.func7, Tryd.ntmps7
    go_wp2_with fail
    refine H1.out.mono ?_
    rintro e w1 ⟨rfl, hb⟩
    have HP1 : Box _ := ⟨HP.out.below hb⟩
    have HB1 : Box _ := ⟨bel_calls HB0.out hb⟩
    have c0 := HP1.out.c0
    have c1 := HP1.out.c1
    have f0 := HP1.out.f0
    have f1 := HP1.out.f1
    clear hb
    go_wp2_with fail
    have HP2 := HP1.out.set 1 (sumB l)
    refine bodyPost_ret (results_cell_tmp rfl _ _ w.heap.size [.int .i64 1, .string (sumB l)] _ rfl (range_two HP2.c0 HP2.c1) Tryd.underlying24 rfl (by kernel_rfl)) rfl ?_
    exact ⟨rfl, (HB1.out.setCell (by simp) _).setCell (by simp) _⟩
  by_cases h2 : k = 2
  · subst h2
    have e : ofM 2 l = (2, sum2B l, 0) := by rw [ofM, if_neg h1, if_pos rfl]
    rw [e]
    rw [show (⟨(twoSum (joinB l).data.toList).toArray⟩ : ByteArray) = sum2B l from rfl] at H2
    clear e H1
    go_enter Tryd.func7, Tryd.ntmps7
    go_wp2_with fail
    refine H2.out.mono ?_
    rintro e w1 ⟨rfl, hb⟩
    have HP1 : Box _ := ⟨HP.out.below hb⟩
    have HB1 : Box _ := ⟨bel_calls HB0.out hb⟩
    have c0 := HP1.out.c0
    have c1 := HP1.out.c1
    have f0 := HP1.out.f0
    have f1 := HP1.out.f1
    clear hb
    go_wp2_with fail
    have HP2 := HP1.out.set 2 (sum2B l)
    refine bodyPost_ret (results_cell_tmp rfl _ _ w.heap.size [.int .i64 2, .string (sum2B l)] _ rfl (range_two HP2.c0 HP2.c1) Tryd.underlying24 rfl (by kernel_rfl)) rfl ?_
    exact ⟨rfl, (HB1.out.setCell (by simp) _).setCell (by simp) _⟩
  have e : ofM k l = (0, ByteArray.empty, 1) := by rw [ofM, if_neg h1, if_neg h2]
  rw [e]
  have z1 : (k == 1) = false := by simpa using h1
  have z2 : (k == 2) = false := by simpa using h2
  clear e h1 h2 H1 H2
  go_enter Tryd.func7, Tryd.ntmps7
  go_wp2_with fail
  refine bodyPost_ret (results_cell_tmp rfl _ _ w.heap.size [.int .i64 0, .string ByteArray.empty] _ rfl (range_two HP.out.c0 HP.out.c1) Tryd.underlying24 rfl (by kernel_rfl)) rfl ?_
  exact ⟨rfl, HB0.out⟩
end Go.Proofs.YtbkankpfkbafdaaDoor

/- mark: Hash, Text; the document's Hash, Compare, Print. -/
namespace Go.Proofs.YtbkankpfkbafdaaDoor
open Go.RowKit

def hashM (s : ByteArray) : Int := (lowI 0 s 2).1
theorem hash_calls (k : Int) (s : ByteArray) (w : World) (hs : s.size ≤ 1000000000) : Calls Tryd.prog 22 #[.agg #[.int .i64 k, .string s]] w fun e w' => e = .returned (.int .i64 (hashM s)) ∧ Below w.heap.size w w' := by
  have HO : Box (∀ W, Below w.heap.size w W → _) := ⟨fun W h => on_in (w0 := w) (w := W) s h⟩
  have HI : Box (∀ W g, InI w W g (0, s) → _) := ⟨fun W g h => inHalf_in (w0 := w) h hs⟩
  rw [show (lowI (0, s).1 (0, s).2 2).1 = hashM s from rfl] at HI
  have HB0 := bel_alloc (Below.refl w.heap.size w) (.cells #[.int .i64 k, .string s] 24)
  obtain ⟨x, hx⟩ : ∃ x, hashM s = x := ⟨_, rfl⟩
  rw [hx] at HI ⊢
  clear hx
  have HBB : Box _ := ⟨HB0⟩
  clear HB0
  go_enter Tryd.func22, Tryd.ntmps22
  go_wp2_with fail
  refine (HO.out _ HBB.out).mono ?_
  rintro e w1 ⟨g, rfl, h1⟩
  have H1 : Box _ := ⟨h1⟩
  clear h1
  go_wp2_with fail
  refine (HI.out _ _ H1.out).mono ?_
  rintro e w2 ⟨rfl, h2⟩
  have HB2 : Box _ := ⟨h2.bel⟩
  clear h2
  go_wp2_with fail
  go_ret
  exact ⟨rfl, HB2.out⟩
theorem hash_short (s : ByteArray) (h : s.size < 2) : hashM s = 0 := by rw [hashM, lowI_short s 2 h]
theorem hash_two (s : ByteArray) (h : 2 ≤ s.size) : hashM s = (s[0].toNat : Int) + (256 : Int) * (s[1].toNat : Int) := by
  have hl : s.data.toList.length = s.size := data_length s
  match hh : s.data.toList, hl with
  | [], hl => simp at hl; omega
  | [_], hl => simp at hl; omega
  | a :: b :: r, hl =>
    have e : s = ⟨([a, b] ++ r).toArray⟩ := by rw [← mk_data s, hh]; rfl
    have h2 := rawI_ok [a, b] r 2 rfl
    have e3 : numL [a, b] = a.toNat + 256 * b.toNat := by simp [numL]
    have ha := a.toNat_lt
    have hb := b.toNat_lt
    subst e
    rw [hashM, lowI, h2]
    simp only [mkS_toList, e3]
    rw [if_neg (by omega)]
    show ((a.toNat + 256 * b.toNat : Nat) : Int) = (a.toNat : Int) + 256 * (b.toNat : Int)
    omega
theorem refHash_calls (k : Int) (s : ByteArray) (w : World) : Calls Tryd.prog 23 #[.agg #[.int .i64 k, .string s]] w fun e w' => e = .returned (.int .i64 (hashM s)) ∧ Below w.heap.size w w' := by
  by_cases h : s.size < 2
  · rw [hash_short s h]
    have h1 : (s.size : Int) < 2 := by omega
    go_enter Tryd.func23, Tryd.ntmps23
    go_wp2_with fail
    go_ret
    exact ⟨rfl, bel_alloc (Below.refl _ _) _⟩
  · replace h : 2 ≤ s.size := by omega
    have HE : Box _ := ⟨hash_two s h⟩
    have h0 : 0 < s.size := by omega
    have h00 : 1 < s.size := by omega
    have h1 : (2 : Int) ≤ (s.size : Int) := by omega
    have h2 : (1 : Int) < (s.size : Int) := by omega
    have h3 : (0 : Int) < (s.size : Int) := by omega
    have hu0 := s[0].toNat_lt
    have hu1 := s[1].toNat_lt
    have y0 : (s[1].toNat : Int) ≤ 255 := by omega
    have y1 : (s[0].toNat : Int) ≤ 255 := by omega
    have x1 := IntWalk.i64_in ((256 : Int) * (s[1].toNat : Int)) (by omega)
    have x2 := IntWalk.i64_in ((s[0].toNat : Int) + (256 : Int) * (s[1].toNat : Int)) (by omega)
    clear hu0 hu1
    go_enter Tryd.func23, Tryd.ntmps23
    go_wp2_with fail
    go_big_quiet (fail)
    go_wp2
    go_ret
    exact ⟨by rw [HE.out]; rfl, below_drewN (bel_alloc (Below.refl _ _) _) _⟩
theorem refCmp_calls (k1 : Int) (s1 : ByteArray) (k2 : Int) (s2 : ByteArray) (w : World) :
    Calls Tryd.prog 21 #[.agg #[.int .i64 k1, .string s1], .agg #[.int .i64 k2, .string s2]] w fun e w' => e = .returned (.int .i64 (cmpM k1 s1 k2 s2)) ∧ Below w.heap.size w w' := by
  rcases cmpM_cases k1 s1 k2 s2 with ⟨h, e⟩ | ⟨h, e⟩ | ⟨h, e⟩
  · rw [e]
    clear e
    go_enter Tryd.func21, Tryd.ntmps21
    go_wp2_with fail
    go_ret
    exact ⟨rfl, bel_alloc (bel_alloc (Below.refl _ _) _) _⟩
  · subst h
    rw [e]
    clear e
    by_cases he : s1 = s2
    · subst he
      have hl := less_irrefl s1.toList
      rw [cmpS_self]
      go_enter Tryd.func21, Tryd.ntmps21
      go_wp2_with fail
      go_ret
      exact ⟨rfl, bel_alloc (bel_alloc (Below.refl _ _) _) _⟩
    · have hq := str_ne he
      cases hl : Op.bytesLess s1.toList s2.toList
      · rw [cmpS_gt hl he]
        clear he
        go_enter Tryd.func21, Tryd.ntmps21
        go_wp2_with fail
        go_ret
        exact ⟨rfl, bel_alloc (bel_alloc (Below.refl _ _) _) _⟩
      · rw [cmpS_lt hl]
        clear he
        go_enter Tryd.func21, Tryd.ntmps21
        go_wp2_with fail
        go_ret
        exact ⟨rfl, bel_alloc (bel_alloc (Below.refl _ _) _) _⟩
  · rw [e]
    have h2 : ¬ k1 < k2 := by omega
    have h3 : (k1 == k2) = false := by simp; omega
    clear e
    go_enter Tryd.func21, Tryd.ntmps21
    go_wp2_with fail
    go_ret
    exact ⟨rfl, bel_alloc (bel_alloc (Below.refl _ _) _) _⟩
/-- The document's fingerprint of a text: of any other kind it is the second digest. -/
def refPrintM (k : Int) (s : ByteArray) : ByteArray := if k = 1 then sumB [s] else sum2B [s]
theorem joinB_single (s : ByteArray) : joinB [s] = s := by simp [joinB]
theorem refPrint_calls (k : Int) (s : ByteArray) (w : World) (hs : s.size ≤ 1000000) : Calls Tryd.prog 14 #[.int .i64 k, .string s] w fun e w' => e = .returned (.agg #[.int .i64 k, .string (refPrintM k s)]) ∧ Below w.heap.size w w' := by
  have HP : Box _ := ⟨PrintAt.new w 0 ByteArray.empty⟩
  have HB0 : Box _ := ⟨bel_alloc (Below.refl w.heap.size w) (.cells #[.int .i64 0, .string ByteArray.empty] 24)⟩
  have H1 : Box (∀ W, Calls Tryd.prog 42 #[.string s] W fun e w' => e = .returned (.string (sumB [s])) ∧ Below W.heap.size W w') := ⟨fun W => by rw [sumB, joinB_single]; exact refOne_calls s W hs⟩
  have H2 : Box (∀ W, Calls Tryd.prog 43 #[.string s] W fun e w' => e = .returned (.string (sum2B [s])) ∧ Below W.heap.size W w') := ⟨fun W => by rw [sum2B, joinB_single]; exact refTwo_calls s W hs⟩
  obtain ⟨p, hp⟩ : ∃ p, sumB [s] = p := ⟨_, rfl⟩
  obtain ⟨q, hq⟩ : ∃ q, sum2B [s] = q := ⟨_, rfl⟩
  rw [refPrintM, hp, hq]
  rw [hp] at H1
  rw [hq] at H2
  clear hp hq
  by_cases h1 : k = 1
  · subst h1
    rw [if_pos rfl]
    clear H2
    go_enter Tryd.func14, Tryd.ntmps14
    go_wp2_with fail
    refine (H1.out _).mono ?_
    rintro e w1 ⟨rfl, hb⟩
    have HP1 : Box _ := ⟨HP.out.below hb⟩
    have HB1 : Box _ := ⟨bel_calls HB0.out hb⟩
    have c0 := HP1.out.c0
    have c1 := HP1.out.c1
    have f0 := HP1.out.f0
    have f1 := HP1.out.f1
    clear hb
    go_wp2_with fail
    have HP2 := HP1.out.set 1 p
    refine bodyPost_ret (results_cell_mid rfl _ _ w.heap.size [.int .i64 1, .string p] _ rfl (range_two HP2.c0 HP2.c1) Tryd.underlying24 rfl (by kernel_rfl)) rfl ?_
    exact ⟨rfl, (HB1.out.setCell (by simp) _).setCell (by simp) _⟩
  · rw [if_neg h1]
    have z1 : (k == 1) = false := by simpa using h1
    clear H1 h1
    go_enter Tryd.func14, Tryd.ntmps14
    go_wp2_with fail
    refine (H2.out _).mono ?_
    rintro e w1 ⟨rfl, hb⟩
    have HP1 : Box _ := ⟨HP.out.below hb⟩
    have HB1 : Box _ := ⟨bel_calls HB0.out hb⟩
    have c0 := HP1.out.c0
    have c1 := HP1.out.c1
    have f0 := HP1.out.f0
    have f1 := HP1.out.f1
    clear hb
    go_wp2_with fail
    have HP2 := HP1.out.set k q
    refine bodyPost_ret (results_cell_mid rfl _ _ w.heap.size [.int .i64 k, .string q] _ rfl (range_two HP2.c0 HP2.c1) Tryd.underlying24 rfl (by kernel_rfl)) rfl ?_
    exact ⟨rfl, (HB1.out.setCell (by simp) _).setCell (by simp) _⟩
end Go.Proofs.YtbkankpfkbafdaaDoor

/- mark.Text: a fingerprint in digits. -/
namespace Go.Proofs.YtbkankpfkbafdaaDoor
open Go.RowKit

theorem u8_low4 (b : UInt8) : bits BinOp.and IntKind.u8 (b.toNat : Int) 15 = ((b.toNat % 16 : Nat) : Int) := by
  have h : ∀ n : Fin 256, bits BinOp.and IntKind.u8 (n.val : Int) 15 = ((n.val % 16 : Nat) : Int) := by decide +kernel
  exact h ⟨b.toNat, b.toNat_lt⟩
theorem make_cap (c : Nat) (hc : c ≤ 281474976710656) (W : World) : (Instr.makeSlice 31 (.int .i64 0) (.int .i64 (c : Int))).run Tryd.prog W = .ok (.slice (some ⟨W.heap.size, 0, none⟩) 0 c) (W.alloc (.cells (madeCells #[.int .u8 0] c) 5)) := by
  obtain ⟨i, h1, h2, h3, h4⟩ := u8_info
  have h := run_make (P := Tryd.prog) W 31 5 i (.int .u8 0) Tryd.underlying31 h1 h2 .i64 .i64 0 c (Int.le_refl _) (by omega) (by rw [h4]; omega) (by omega)
  simp only [Int.toNat_zero, Int.toNat_natCast, h3, Nat.mul_one] at h
  exact h
theorem cap_own (c : Nat) (hc : c ≤ maxLen) (W : World) : Own (W.alloc (.cells (madeCells #[.int .u8 0] c) 5)) W.heap.size 1 (.slice (some ⟨W.heap.size, 0, none⟩) 0 c) 0 [] :=
  Own.of_row (World.ownsRow_made W _ c (Nat.le_refl _) hc (by simp [size_madeCells]))
set_option maxHeartbeats 1600000 in
set_option maxRecDepth 100000 in
theorem text_calls (kd : Int) (s : ByteArray) (w : World) (hs : s.size ≤ 1000000) : Calls Tryd.prog 24 #[.agg #[.int .i64 kd, .string s]] w fun e w' => e = .returned (.string (hexB s)) ∧ Below w.heap.size w w' := by
  have HP : Box _ := ⟨PrintAt.new w kd s⟩
  have HB0 : Box _ := ⟨bel_alloc (Below.refl w.heap.size w) (.cells #[.int .i64 kd, .string s] 24)⟩
  obtain ⟨c, hc⟩ : ∃ c : Nat, 2 * (s.size : Int) = (c : Int) := ⟨2 * s.size, by omega⟩
  have hmk := fun W => make_cap c (by omega) W
  have HO : Box _ := ⟨fun W => cap_own c (by simp only [maxLen]; omega) W⟩
  rw [hexB]
  go_enter Tryd.func24, Tryd.ntmps24
  go_wp2_with fail
  go_loopw [3, 13] (fun x i wr => ∃ k : Nat, k ≤ s.size ∧ i = .int .i64 k ∧ Hid (Own wr (w.heap.size + 1) 1 x (k * 2) (bcells (hexL (s.data.toList.take k)))) ∧ Hid (Below w.heap.size w wr) ∧ Box (PrintAt wr w.heap.size kd s)) (fun _ i _ => s.size - (intOf i).toNat)
  case atStart =>
    refine ⟨0, by omega, rfl, ?_, bel_alloc HB0.out _, ⟨HP.out.below ((Below.refl _ _).alloc (Nat.le_refl _) _)⟩⟩
    rw [Hid]
    have h := HO.out (w.alloc (.cells #[.int .i64 kd, .string s] 24))
    simpa [bcells, hexL] using h.weaken (base' := w.heap.size + 1) (by simp)
  case round =>
    obtain ⟨k, hk, rfl, HN, HW, HP1⟩ := hrel
    have c1 := HP1.out.c1
    by_cases hlt : k < s.size
    · have HX : Hid (hexL (s.data.toList.take (k + 1)) = hexL (s.data.toList.take k) ++ [hexD (s[k].toNat / 16), hexD (s[k].toNat % 16)]) := by rw [Hid, take_snoc_str s k hlt, hexL_snoc]
      have hx2 : s[k].toNat < 256 := s[k].toNat_lt
      have e2 := u8_low4 s[k]
      obtain ⟨q, hq⟩ : ∃ q, s[k].toNat / 16 = q := ⟨_, rfl⟩
      obtain ⟨r, hr⟩ : ∃ r, s[k].toNat % 16 = r := ⟨_, rfl⟩
      rw [hq, hr] at HX
      rw [hr] at e2
      have e1 : (s[k].toNat : Int) / 16 = (q : Int) := by omega
      have e1b : (s[k].toNat : Int) / 2 ^ 4 = (q : Int) := by omega
      have e3 : IntKind.u8.wrap (q : Int) = (q : Int) := by rw [IntKind.wrap_u8']; omega
      have e4 : IntKind.u8.wrap (r : Int) = (r : Int) := by rw [IntKind.wrap_u8']; omega
      have q1 : (q : Int) < 16 := by omega
      have r1 : (r : Int) < 16 := by omega
      have q2 : q < 16 := by omega
      have r2 : r < 16 := by omega
      have v1 := hexD_lit q
      have v2 := hexD_lit r
      clear hq hr hx2
      have j1 : (0 : Int) ≤ (k : Int) := by omega
      have j2 : (k : Int) < (s.size : Int) := by omega
      have hpl := HP1.out.lt
      obtain ⟨wo, rfl⟩ : ∃ wo : World, wo = wr := ⟨_, rfl⟩
      go_wp2
      go_region_law
        ((refine step_appO el_u8 (w.heap.size + 1) rfl _ _ rfl rfl (HN.out.alloc _).drew (news := bcells [hexD q, hexD r]) rfl rfl (rowAt_alloc _ _ _).drew (one_bcells _) (by omega) (by have := HP1.out.lt; simp; omega) ?_; intro v1 w3 hown1 hg1 _; have HO3 : Hid (Own w3 (w.heap.size + 1) 1 v1 ((k + 1) * 2) (bcells (hexL (s.data.toList.take (k + 1))))) := (by rw [HX.out, bcells, List.map_append, show (k + 1) * 2 = k * 2 + 2 by omega]; exact hown1); have HB3 : Hid (Below w.heap.size w w3) := Own.grown_below (HN.out.alloc _).drew (below_drewN (HW.out.alloc HW.out.size _) 1) hg1 (by omega); have HP3 : Box (PrintAt w3 w.heap.size kd s) := ⟨((HP1.out.below ((Below.refl _ _).alloc (Nat.le_refl _) _)).drew).touched (Touched.of_grown hg1) (by intro hm; have := (HN.out.lt _ (Option.mem_toList.1 hm)).1; omega)⟩; clear hown1 hg1))
      all_goals
        go_wp2
        go_roundw
        case rel => exact ⟨k + 1, by omega, by go_num, HO3, HB3, HP3⟩
        case measure => simp [intOf]; omega
    · obtain rfl : k = s.size := by omega
      obtain ⟨A, cc, rfl, _, hr, _⟩ := HN.out.slice
      rw [List.take_of_length_le (by rw [data_length]; omega)] at hr
      have hcv := bytes_str Tryd.prog 31 5 9 Tryd.underlying31 Tryd.underlying5 Tryd.underlying9 A _ cc (hexL s.data.toList) wr (by rw [hexL_length, data_length, Nat.mul_comm]) hr
      clear hr
      go_wp2
      go_ret
      exact ⟨rfl, HW.out⟩
end Go.Proofs.YtbkankpfkbafdaaDoor

/- masonrylaw6.alive: a first call. -/
namespace Go.Proofs.YtbkankpfkbafdaaDoor
open Go.RowKit

theorem of_new (k : Int) (l : List ByteArray) (n : Nat) (w : World) (hl : l.length = n) (hn : n ≤ 1000) (hs : totalLen l ≤ 1000000) :
    Calls Tryd.prog 7 #[.int .i64 k, .slice (some ⟨w.heap.size, 0, none⟩) n n] (w.alloc (.cells (scells l).toArray 9)) fun e w' => e = .returned (.tuple #[.agg #[.int .i64 (ofM k l).1, .string (ofM k l).2.1], .int .i64 (ofM k l).2.2]) ∧ Below w.heap.size w w' :=
  (of_calls k _ n n l _ hl (Nat.le_refl _) (by omega) hs (rowAt_alloc w (scells l) _)).mono fun _ _ ⟨he, hb⟩ => ⟨he, bel_calls (bel_alloc (Below.refl _ _) _) hb⟩
theorem markAlive_calls (w : World) : Calls Tryd.prog 6 #[] w fun e w' => e = .returned (.bool true) ∧ Below w.heap.size w w' := by
  have H1 : Box _ := ⟨of_new 1 [⟨#[97]⟩, ⟨#[98, 99]⟩] 2 w rfl (by omega) (by decide)⟩
  have hM : ofM 1 [⟨#[97]⟩, ⟨#[98, 99]⟩] = (1, sumB [⟨#[97]⟩, ⟨#[98, 99]⟩], 0) := rfl
  rw [hM] at H1
  have hT := known_abc
  have hz : (sumB [⟨#[97]⟩, ⟨#[98, 99]⟩]).size = 20 := sumB_size _
  obtain ⟨s, hs⟩ : ∃ s, sumB [⟨#[97]⟩, ⟨#[98, 99]⟩] = s := ⟨_, rfl⟩
  rw [hs] at H1 hT hz
  have T1 : Box _ := ⟨fun W => text_calls 1 s W (by omega)⟩
  rw [hT] at T1
  have hv : validM 1 s = true := by rw [validM, hz]; rfl
  have V1 : Box _ := ⟨fun W => valid_calls 1 s W⟩
  rw [hv] at V1
  have S1 : Box _ := ⟨fun W => size_calls 2 W⟩
  clear hM hT hz hs hv
  go_enter Tryd.func6, Tryd.ntmps6
  go_wp2_with fail
  refine H1.out.mono ?_
  rintro e w1 ⟨rfl, hb1⟩
  have HB1 : Box _ := ⟨hb1⟩
  clear hb1
  have HP1 : Box _ := ⟨PrintAt.new w1 1 s⟩
  have HB2 : Box _ := ⟨bel_alloc HB1.out (.cells #[.int .i64 1, .string s] 24)⟩
  go_wp2_with fail
  refine (T1.out _).mono ?_
  rintro e w2 ⟨rfl, hb2⟩
  have HP2 : Box _ := ⟨HP1.out.below hb2⟩
  have HB3 : Box _ := ⟨bel_calls HB2.out hb2⟩
  have c0 := HP2.out.c0
  have c1 := HP2.out.c1
  clear hb2
  go_wp2_with fail
  refine (V1.out _).mono ?_
  rintro e w3 ⟨rfl, hb3⟩
  have HB4 : Box _ := ⟨bel_calls HB3.out hb3⟩
  clear hb3 c0 c1
  go_wp2_with fail
  refine (S1.out _).mono ?_
  rintro e w4 ⟨rfl, rfl⟩
  go_wp2_with fail
  go_ret
  exact ⟨rfl, HB4.out⟩
end Go.Proofs.YtbkankpfkbafdaaDoor

/- An Out of a call's own, beside rows that the same statement has built in any order. -/
namespace Go.Proofs.YtbkankpfkbafdaaDoor
open Go.RowKit

structure RowsR (w0 w : World) (L : List (Nat × List Value)) : Prop where
  rows : ∀ r ∈ L, r.1 < w.heap.size ∧ RowAt w (some ⟨r.1, 0, none⟩) r.2
  bel : Below w0.heap.size w0 w
structure OutR (w0 w : World) (g : Nat) (d : Int × List UInt8) (L : List (Nat × List Value)) : Prop where
  ex : ∃ v, OutS w g v d.1 d.2 ∧ ∀ b, v.ownBlock = some b → w0.heap.size ≤ b ∧ ∀ r ∈ L, r.1 ≠ b
  rows : ∀ r ∈ L, r.1 ≠ g ∧ r.1 < w.heap.size ∧ RowAt w (some ⟨r.1, 0, none⟩) r.2
  ge : w0.heap.size ≤ g
  bel : Below w0.heap.size w0 w
section
variable {P : Program} {f : FuncId} {args : Array Value} {w0 w w1 : World} {g : Nat} {R : Ending} {d d' : Int × List UInt8} {L : List (Nat × List Value)}
theorem RowsR.nil (h : Below w0.heap.size w0 w) : RowsR w0 w [] := ⟨by simp, h⟩
theorem RowsR.below (h : RowsR w0 w L) (hb : Below w.heap.size w w1) : RowsR w0 w1 L :=
  ⟨fun r hr => ⟨Nat.lt_of_lt_of_le (h.rows r hr).1 hb.size, (h.rows r hr).2.below hb⟩, below_trans' h.bel hb⟩
theorem RowsR.allocRow (h : RowsR w0 w L) (cs : List Value) (t : TypeId) : RowsR w0 (w.alloc (.cells cs.toArray t)) ((w.heap.size, cs) :: L) := by
  have hb : Below w.heap.size w (w.alloc (.cells cs.toArray t)) := (Below.refl _ _).alloc (Nat.le_refl _) _
  refine ⟨fun r hr => ?_, below_trans' h.bel hb⟩
  rcases List.mem_cons.1 hr with rfl | hr
  · exact ⟨by simp, rowAt_alloc w cs t⟩
  · exact (h.below hb).rows r hr
theorem RowsR.newOut (h : RowsR w0 w L) (hg : g = w.heap.size) : OutR w0 (w.alloc (.cells #[.slice none 0 0, .int .i64 0] 50)) g (0, []) L := by
  subst hg
  have hb : Below w.heap.size w (w.alloc (.cells #[.slice none 0 0, .int .i64 0] 50)) := (Below.refl _ _).alloc (Nat.le_refl _) _
  refine ⟨⟨_, outNew w, by simp [Value.ownBlock]⟩, fun r hr => ⟨?_, (h.below hb).rows r hr⟩, h.bel.size, below_trans' h.bel hb⟩
  have := (h.rows r hr).1
  omega
theorem OutR.below (h : OutR w0 w g d L) (hb : Below w.heap.size w w1) : OutR w0 w1 g d L := by
  obtain ⟨v, hv, hv2⟩ := h.ex
  exact ⟨⟨v, hv.below hb, hv2⟩, fun r hr => ⟨(h.rows r hr).1, Nat.lt_of_lt_of_le (h.rows r hr).2.1 hb.size, (h.rows r hr).2.2.below hb⟩, h.ge, below_trans' h.bel hb⟩
theorem OutR.drew (h : OutR w0 w g d L) : OutR w0 w.drew g d L := h.below (below_drewN (Below.refl _ _) 1)
theorem OutR.allocRow (h : OutR w0 w g d L) (cs : List Value) (t : TypeId) : OutR w0 (w.alloc (.cells cs.toArray t)) g d ((w.heap.size, cs) :: L) := by
  have hb : Below w.heap.size w (w.alloc (.cells cs.toArray t)) := (Below.refl _ _).alloc (Nat.le_refl _) _
  obtain ⟨v, hv, hv2⟩ := h.ex
  refine ⟨⟨v, hv.below hb, fun b hb' => ⟨(hv2 b hb').1, fun r hr => ?_⟩⟩, fun r hr => ?_, h.ge, below_trans' h.bel hb⟩
  · rcases List.mem_cons.1 hr with rfl | hr
    · have := hv.vlt hb'; simp only; omega
    · exact (hv2 b hb').2 r hr
  · rcases List.mem_cons.1 hr with rfl | hr
    · have := hv.lt
      exact ⟨by simp only; omega, by simp, rowAt_alloc w cs t⟩
    · exact (h.below hb).rows r hr
theorem OutR.cell {b j : Nat} {cs : List Value} {u : Value} (h : OutR w0 w g d L) (hm : (b, cs) ∈ L) (hj : cs[j]? = some u) : w.cell? ⟨b, j, none⟩ = some u := by
  obtain ⟨ad, e, hc⟩ := (h.rows _ hm).2.2.get hj
  injection e with e
  subst e
  rwa [add0] at hc
theorem OutR.step (h : OutR w0 w g d L) (c : ∀ v, OutS w g v d.1 d.2 → (∀ r ∈ L, ∀ w', Touched w w' (g :: v.ownBlock.toList) → RowAt w' (some ⟨r.1, 0, none⟩) r.2) → Calls P f args w fun r w' => r = R ∧ OutTo w w' g v d') : Calls P f args w fun r w' => r = R ∧ OutR w0 w' g d' L := by
  obtain ⟨v, hv, hv2⟩ := h.ex
  have keep : ∀ r ∈ L, ∀ w', Touched w w' (g :: v.ownBlock.toList) → RowAt w' (some ⟨r.1, 0, none⟩) r.2 := by
    intro r hr w' hT
    refine row_touched (h.rows r hr).2.2 hT (.inr ⟨_, rfl, ?_⟩)
    intro hm
    simp only [List.mem_cons, Option.mem_toList] at hm
    rcases hm with hm | hm
    · exact (h.rows r hr).1 hm
    · exact (hv2 _ hm).2 r hr rfl
  refine (c v hv keep).mono fun r w' ⟨h1, h2⟩ => ⟨h1, ?_⟩
  obtain ⟨⟨v', h3, h4⟩, h5⟩ := h2
  refine ⟨⟨v', h3, fun b hb => ?_⟩, fun r hr => ⟨(h.rows r hr).1, Nat.lt_of_lt_of_le (h.rows r hr).2.1 h5.size, keep r hr w' h5⟩, h.ge, h5.below h.bel h.bel.size ?_⟩
  · rcases h4 b hb with h6 | h6
    · exact hv2 b h6
    · exact ⟨Nat.le_trans h.bel.size h6, fun r hr => by have := (h.rows r hr).2.1; omega⟩
  · intro k hk
    simp only [List.mem_cons, Option.mem_toList] at hk
    rcases hk with rfl | hk
    · exact h.ge
    · exact (hv2 k hk).1
end
section
variable {w0 w : World} {g b : Nat} {d : Int × List UInt8} {L : List (Nat × List Value)}
theorem outByte_row (h : OutR w0 w g d L) (n c : Nat) (xs : List Int) (hm : (b, icells xs) ∈ L) (hxn : xs.length = n) (hn : n ≤ 1000000) (hsz : d.2.length ≤ 1000000000) (hx : ∀ z ∈ xs, -9223372036854775808 ≤ z ∧ z ≤ 9223372036854775807) :
    Calls Tryd.prog 29 #[.pointer (some ⟨g, 0, none⟩), .slice (some ⟨b, 0, none⟩) n c] w fun r w' => r = .returned (.pointer (some ⟨g, 0, none⟩)) ∧ OutR w0 w' g (layO 1 d xs) L :=
  h.step fun v hv hr => outByte_calls g v d.1 d.2 _ n c xs w hxn hv hn hsz hx (hr _ hm)
theorem outRaw_row (h : OutR w0 w g d L) (n c : Nat) (ts : List ByteArray) (hm : (b, scells ts) ∈ L) (hts : ts.length = n) (hn : n ≤ 1000000) (hsz : d.2.length + totalLen ts ≤ 140737488355328) :
    Calls Tryd.prog 30 #[.pointer (some ⟨g, 0, none⟩), .slice (some ⟨b, 0, none⟩) n c] w fun r w' => r = .returned (.pointer (some ⟨g, 0, none⟩)) ∧ OutR w0 w' g (rawO d ts) L := by
  subst hts
  exact h.step fun v hv hr => outRaw_calls g v d.1 d.2 _ c ts w hv (by omega) hsz (hr _ hm)
theorem outPad_row (h : OutR w0 w g d L) (n : Int) :
    Calls Tryd.prog 31 #[.pointer (some ⟨g, 0, none⟩), .int .i64 n] w fun r w' => r = .returned (.pointer (some ⟨g, 0, none⟩)) ∧ OutR w0 w' g (padO d n) L :=
  h.step fun v hv _ => outPad_calls g v d.1 d.2 n w hv
theorem outEnd_row (h : OutR w0 w g d L) :
    Calls Tryd.prog 32 #[.pointer (some ⟨g, 0, none⟩)] w fun r w' => r = .returned (.tuple #[.string (endO d).1, .int .i64 (endO d).2]) ∧ OutR w0 w' g d L := by
  obtain ⟨v, hv, hb⟩ := h.ex
  exact (outEnd_calls g v d.1 d.2 w hv).mono fun r w' ⟨h1, h2⟩ => ⟨h1, h.below h2⟩
end
end Go.Proofs.YtbkankpfkbafdaaDoor

/- mark.Lay: a fingerprint in bytes. -/
namespace Go.Proofs.YtbkankpfkbafdaaDoor
open Go.RowKit

def layL (k : Int) (s : ByteArray) : List UInt8 := lowL k.toNat 1 ++ (s.data.toList ++ List.replicate (32 - s.size) 0)
def layM (k : Int) (s : ByteArray) : ByteArray × Int := if validM k s = true then (⟨(layL k s).toArray⟩, 0) else (ByteArray.empty, 1)
theorem validM_true {k : Int} {s : ByteArray} (h : validM k s = true) : (k = 1 ∧ s.size = 20) ∨ (k = 2 ∧ s.size = 32) := by
  simp only [validM, Bool.and_eq_true, decide_eq_true_eq] at h
  rcases sizeM_vals k with ⟨h1, h2⟩ | ⟨h1, h2⟩ | ⟨_, _, h2⟩ <;> omega
theorem lay_laid {k : Int} {s : ByteArray} (h : validM k s = true) :
    ∃ m1 m2, layO 1 (0, []) [k] = (0, m1) ∧ rawO (0, m1) [s] = (0, m2) ∧ padO (0, m2) 33 = (0, layL k s) ∧ m1.length = 1 ∧ m2.length ≤ 33 ∧ s.size ≤ 32 ∧ 1 ≤ k ∧ k ≤ 2 := by
  have hv := validM_true h
  refine ⟨_, (([] ++ [k].flatMap fun x : Int => lowL x.toNat 1) ++ s.data.toList), layO_fine 1 [] [k] (by intro x hx; simp at hx; subst hx; exact layB_fine (by omega) (.inr (by simp; omega))), ?_, ?_, ?_, ?_, by omega, by omega, by omega⟩
  · rw [rawO, if_neg (by simp), joinB_single]
  · have e : (([] ++ [k].flatMap fun x : Int => lowL x.toNat 1) ++ s.data.toList).length = 1 + s.size := by simp [lowL_length, data_length]
    rw [padO, if_neg (by simp), if_neg (by omega), if_neg (by simp only [e]; omega)]
    simp only [e]
    rw [show (33 : Int).toNat - (1 + s.size) = 32 - s.size by omega]
    simp [layL]
  · simp [lowL_length]
  · simp [lowL_length, data_length]; omega
set_option maxHeartbeats 3200000 in
set_option maxRecDepth 100000 in
theorem lay_calls (k : Int) (s : ByteArray) (w : World) : Calls Tryd.prog 8 #[.agg #[.int .i64 k, .string s]] w fun e w' => e = .returned (.tuple #[.string (layM k s).1, .int .i64 (layM k s).2]) ∧ Below w.heap.size w w' := by
  have HP : Box _ := ⟨PrintAt.new w k s⟩
  have HB0 : Box _ := ⟨bel_alloc (Below.refl w.heap.size w) (.cells #[.int .i64 k, .string s] 24)⟩
  have HV : Box _ := ⟨valid_calls k s⟩
  by_cases hv : validM k s = true
  case neg =>
    have hv2 : validM k s = false := by simpa using hv
    have e : layM k s = (ByteArray.empty, 1) := by rw [layM, if_neg hv]
    rw [e]
    rw [hv2] at HV
    clear e hv hv2
    go_enter Tryd.func8, Tryd.ntmps8
    go_wp2_with fail
    refine (HV.out _).mono ?_
    rintro e w1 ⟨rfl, hb⟩
    have HB1 : Box _ := ⟨bel_calls HB0.out hb⟩
    clear hb
    go_wp2_with fail
    go_ret2
    exact ⟨rfl, HB1.out⟩
  have e : layM k s = (⟨(layL k s).toArray⟩, 0) := by rw [layM, if_pos hv]
  rw [e]
  rw [hv] at HV
  obtain ⟨m1, m2, e1, e2, e3, z1, z2, z3, z4, z5⟩ := lay_laid hv
  obtain ⟨M, hM⟩ : ∃ M, layL k s = M := ⟨_, rfl⟩
  rw [hM] at e3 ⊢
  have e4 : endO (0, M) = (⟨M.toArray⟩, 0) := rfl
  obtain ⟨S, hS⟩ : ∃ S : ByteArray, ⟨M.toArray⟩ = S := ⟨_, rfl⟩
  rw [hS] at e4 ⊢
  have HE : Box (layO 1 (0, []) [k] = (0, m1) ∧ rawO (0, m1) [s] = (0, m2) ∧ padO (0, m2) 33 = (0, M) ∧ endO (0, M) = (S, 0)) := ⟨e1, e2, e3, e4⟩
  have HZ : Box (m1.length = 1 ∧ m2.length ≤ 33 ∧ s.size ≤ 32 ∧ 1 ≤ k ∧ k ≤ 2) := ⟨z1, z2, z3, z4, z5⟩
  clear e e1 e2 e3 e4 z1 z2 z3 z4 z5 hM hS hv
  have C1 : Box (∀ W g b L, OutR w W g (0, []) L → (b, icells [k]) ∈ L → _) := ⟨fun W g b L h hm => outByte_row (b := b) h 1 1 [k] hm rfl (by omega) (by simp) (by have := HZ.out; intro z hz; simp at hz; omega)⟩
  have C2 : Box (∀ W g b L, OutR w W g (0, m1) L → (b, scells [s]) ∈ L → _) := ⟨fun W g b L h hm => outRaw_row (b := b) h 1 1 [s] hm rfl (by omega) (by have := HZ.out; simp only [totalLen, List.map_cons, List.map_nil, List.sum_cons, List.sum_nil]; omega)⟩
  have C3 : Box (∀ W g L, OutR w W g (0, m2) L → _) := ⟨fun W g L h => outPad_row h 33⟩
  have C4 : Box (∀ W g L, OutR w W g (0, M) L → _) := ⟨fun W g L h => outEnd_row h⟩
  rw [HE.out.1] at C1
  rw [HE.out.2.1] at C2
  rw [HE.out.2.2.1] at C3
  rw [HE.out.2.2.2] at C4
  go_enter Tryd.func8, Tryd.ntmps8
  go_wp2_with fail
  refine (HV.out _).mono ?_
  rintro e w1 ⟨rfl, hb⟩
  have HP1 : Box _ := ⟨HP.out.below hb⟩
  have R0 : Box (RowsR w w1 [(w.heap.size, [.int .i64 k, .string s])]) := ⟨⟨by
    intro r hr
    simp at hr
    subst hr
    exact ⟨HP1.out.lt, .inr ⟨_, rfl, fun j u hj => by
      rw [add0]
      rcases j with _ | _ | j
      · simp at hj; subst hj; exact HP1.out.c0
      · simp at hj; subst hj; exact HP1.out.c1
      · simp at hj⟩⟩, bel_calls HB0.out hb⟩⟩
  have KK : Box (∀ W, Below w1.heap.size w1 W → W.cell? ⟨w.heap.size, 0, none⟩ = some (.int .i64 k) ∧ W.cell? ⟨w.heap.size, 1, none⟩ = some (.string s)) := ⟨fun W h => ⟨(HP1.out.below h).c0, (HP1.out.below h).c1⟩⟩
  clear hb
  go_wp2_with fail
  go_region_held3 (fun w' => w'.cell? ⟨w.heap.size, 0, none⟩ = some (.int .i64 k) ∧ w'.cell? ⟨w.heap.size, 1, none⟩ = some (.string s)) (first | exact ⟨p8, p9⟩ | exact ⟨p6, p7⟩ | exact ⟨p4, p5⟩ | exact ⟨p2, p3⟩ | exact ⟨cell_kept (bel_drew (bel_alloc (Below.refl _ _) _)) (Nat.le_refl _) p2, cell_kept (bel_drew (bel_alloc (Below.refl _ _) _)) (Nat.le_refl _) p3⟩ | exact KK.out _ (by repeat (first | exact Below.refl _ _ | apply bel_drew | apply bel_alloc)))
    (first
      | (go_at_call 29; refine Calls.mono (C1.out _ _ _ _ (by first
          | exact ((R0.out.newOut rfl).allocRow _ _).drew
          | exact ((R0.out.allocRow [.int .i64 k] _).newOut (by simp)).drew
          | exact (((R0.out.newOut rfl).allocRow [.int .i64 k] _).allocRow [.string s] _).drew
          | exact (((R0.out.newOut rfl).allocRow [.string s] _).allocRow [.int .i64 k] _).drew
          | exact (((R0.out.allocRow [.string s] _).newOut (by simp)).allocRow [.int .i64 k] _).drew
          | exact (((R0.out.allocRow [.int .i64 k] _).newOut (by simp)).allocRow [.string s] _).drew
          | exact (((R0.out.allocRow [.int .i64 k] _).allocRow [.string s] _).newOut (by simp)).drew
          | exact (((R0.out.allocRow [.string s] _).allocRow [.int .i64 k] _).newOut (by simp)).drew) (by simp [icells])) ?_; rintro e w4 ⟨rfl, h4⟩; have H4 : Box _ := ⟨h4⟩; have p2 := h4.cell (b := w.heap.size) (cs := [.int .i64 k, .string s]) (j := 0) (by simp) rfl; have p3 := h4.cell (b := w.heap.size) (cs := [.int .i64 k, .string s]) (j := 1) (by simp) rfl; clear h4)
      | (go_at_call 30; refine Calls.mono (C2.out _ _ _ _ (by first
          | exact H4.out
          | exact H4.out.allocRow [.string s] _) (by simp [scells])) ?_; rintro e w5 ⟨rfl, h5⟩; have H5 : Box _ := ⟨h5⟩; have p4 := h5.cell (b := w.heap.size) (cs := [.int .i64 k, .string s]) (j := 0) (by simp) rfl; have p5 := h5.cell (b := w.heap.size) (cs := [.int .i64 k, .string s]) (j := 1) (by simp) rfl; clear h5)
      | (go_at_call 31; refine Calls.mono (C3.out _ _ _ H5.out) ?_; rintro e w6 ⟨rfl, h6⟩; have H6 : Box _ := ⟨h6⟩; have p6 := h6.cell (b := w.heap.size) (cs := [.int .i64 k, .string s]) (j := 0) (by simp) rfl; have p7 := h6.cell (b := w.heap.size) (cs := [.int .i64 k, .string s]) (j := 1) (by simp) rfl; clear h6)
      | (go_at_call 32; refine Calls.mono (C4.out _ _ _ H6.out) ?_; rintro e w7 ⟨rfl, h7⟩; have H7 : Box _ := ⟨h7⟩; have p8 := h7.cell (b := w.heap.size) (cs := [.int .i64 k, .string s]) (j := 0) (by simp) rfl; have p9 := h7.cell (b := w.heap.size) (cs := [.int .i64 k, .string s]) (j := 1) (by simp) rfl; clear h7))
  all_goals
    go_wp2_with fail
    go_ret2
    exact ⟨rfl, H7.out.bel⟩
end Go.Proofs.YtbkankpfkbafdaaDoor

/- mark.Read: bytes as a fingerprint. -/
namespace Go.Proofs.YtbkankpfkbafdaaDoor
open Go.RowKit

def readL : List UInt8 → Int × ByteArray × Int
  | x :: r => if r.length = 32 then (if 0 < sizeM x.toNat ∧ (r.drop (sizeM x.toNat).toNat).all (· == 0) = true then ((x.toNat : Int), ⟨(r.take (sizeM x.toNat).toNat).toArray⟩, 0) else (0, ByteArray.empty, 6)) else (0, ByteArray.empty, 5)
  | [] => (0, ByteArray.empty, 5)
def readM (b : ByteArray) : Int × ByteArray × Int := readL b.data.toList
theorem readM_short {b : ByteArray} (h : b.size ≠ 33) : readM b = (0, ByteArray.empty, 5) := by
  have hl := data_length b
  rw [readM]
  match hh : b.data.toList with
  | [] => rfl
  | x :: r =>
    rw [hh] at hl
    simp at hl
    rw [readL, if_neg (by omega)]
theorem read_parts {b : ByteArray} (h : b.size = 33) : ∃ (x : UInt8) (r : List UInt8), b = ⟨(x :: r).toArray⟩ ∧ r.length = 32 := by
  have hl := data_length b
  match hh : b.data.toList with
  | [] => rw [hh] at hl; simp at hl; omega
  | x :: r =>
    rw [hh] at hl
    simp at hl
    exact ⟨x, r, by rw [← hh, mk_data], by omega⟩
theorem sizeM_le (k : Int) : 0 ≤ sizeM k ∧ sizeM k ≤ 32 := by rcases sizeM_vals k with ⟨_, h⟩ | ⟨_, h⟩ | ⟨_, _, h⟩ <;> omega
/-- What the reader meets in 33 bytes. -/
theorem read_walk (x : UInt8) (r : List UInt8) (hr : r.length = 32) :
    ∃ t u v : ByteArray, lowI 0 ⟨(x :: r).toArray⟩ 1 = ((x.toNat : Int), 0, t) ∧ rawI 0 t (sizeM x.toNat) = (u, 0, v) ∧ t.size ≤ 33 ∧ v.size ≤ 33 ∧
      ((validM x.toNat u = true ∧ restI 0 v = true ∧ readM ⟨(x :: r).toArray⟩ = ((x.toNat : Int), u, 0)) ∨ (validM x.toNat u = true ∧ restI 0 v = false ∧ readM ⟨(x :: r).toArray⟩ = (0, ByteArray.empty, 6)) ∨ (validM x.toNat u = false ∧ readM ⟨(x :: r).toArray⟩ = (0, ByteArray.empty, 6))) := by
  have hx := x.toNat_lt
  have e1 := lowI_ok x.toNat 1 r (by omega) (by omega)
  have e0 : lowL x.toNat 1 ++ r = x :: r := by simp [lowL]
  rw [e0] at e1
  have hn := sizeM_le (x.toNat : Int)
  obtain ⟨n, hnn⟩ : ∃ n : Nat, sizeM (x.toNat : Int) = (n : Int) := ⟨(sizeM (x.toNat : Int)).toNat, by omega⟩
  have e2 := rawI_ok (r.take n) (r.drop n) n (by rw [List.length_take]; omega)
  rw [List.take_append_drop] at e2
  have hM : readM ⟨(x :: r).toArray⟩ = if 0 < sizeM x.toNat ∧ (r.drop n).all (· == 0) = true then ((x.toNat : Int), ⟨(r.take n).toArray⟩, 0) else (0, ByteArray.empty, 6) := by
    rw [readM, mkS_toList, readL, if_pos hr, hnn, Int.toNat_natCast]
  have hz : restI 0 ⟨(r.drop n).toArray⟩ = (r.drop n).all (· == 0) := by rw [restI, zeroB, mkS_toList]; rfl
  have hv : validM x.toNat ⟨(r.take n).toArray⟩ = decide (0 < sizeM (x.toNat : Int)) := by
    rw [validM, hnn, mk_size, List.length_take, show min n r.length = n by omega]; simp
  refine ⟨_, _, _, e1, by rw [hnn]; exact e2, by rw [mk_size]; omega, by rw [mk_size, List.length_drop]; omega, ?_⟩
  rw [hz, hM, hv]
  by_cases h1 : 0 < sizeM (x.toNat : Int)
  · cases h2 : (r.drop n).all (· == 0)
    · exact .inr (.inl ⟨decide_eq_true h1, rfl, if_neg (fun h => by cases h.2)⟩)
    · exact .inl ⟨decide_eq_true h1, rfl, if_pos ⟨h1, rfl⟩⟩
  · exact .inr (.inr ⟨decide_eq_false h1, if_neg (fun h => h1 h.1)⟩)
set_option maxHeartbeats 3200000 in
set_option maxRecDepth 100000 in
theorem read_calls (b : ByteArray) (w : World) (hb : b.size ≤ 1000000) : Calls Tryd.prog 9 #[.string b] w fun e w' => e = .returned (.tuple #[.agg #[.int .i64 (readM b).1, .string (readM b).2.1], .int .i64 (readM b).2.2]) ∧ Below w.heap.size w w' := by
  have HP : Box _ := ⟨PrintAt.new w 0 ⟨#[]⟩⟩
  have HB0 : Box _ := ⟨bel_alloc (Below.refl w.heap.size w) (.cells #[.int .i64 0, .string ⟨#[]⟩] 24)⟩
  by_cases h33 : b.size = 33
  case neg =>
    rw [readM_short h33]
    have e1 : ((b.size : Int) != 33) = true := by simp; omega
    clear h33
    go_enter Tryd.func9, Tryd.ntmps9
    go_wp2_with fail
    refine bodyPost_ret (results_cell_tmp rfl _ _ w.heap.size [.int .i64 0, .string ⟨#[]⟩] _ rfl (range_two HP.out.c0 HP.out.c1) Tryd.underlying24 rfl (by kernel_rfl)) rfl ?_
    exact ⟨rfl, HB0.out⟩
  obtain ⟨x, r, rfl, hr⟩ := read_parts h33
  have e1 : (((⟨(x :: r).toArray⟩ : ByteArray).size : Int) != 33) = false := by rw [h33]; rfl
  obtain ⟨t, u, v, f1, f2, z1, z2, hc⟩ := read_walk x r hr
  obtain ⟨B, hB⟩ : ∃ B : ByteArray, ⟨(x :: r).toArray⟩ = B := ⟨_, rfl⟩
  rw [hB] at f1 hc hb e1 ⊢
  obtain ⟨k, hk⟩ : ∃ k : Int, (x.toNat : Int) = k := ⟨_, rfl⟩
  rw [hk] at f1 f2 hc
  obtain ⟨n, hn⟩ : ∃ n, sizeM k = n := ⟨_, rfl⟩
  have HN : Box _ := ⟨size_calls k⟩
  rw [hn] at HN f2
  have HF1 : Box _ := ⟨f1⟩
  have HF2 : Box _ := ⟨f2⟩
  have HC : Box _ := ⟨hc⟩
  have HZ : Box (B.size ≤ 1000000 ∧ t.size ≤ 33 ∧ v.size ≤ 33) := ⟨hb, z1, z2⟩
  have HV : Box _ := ⟨valid_calls k u⟩
  clear h33 hr f1 f2 hc hb z1 z2 hB hk hn
  obtain ⟨⟨rk, rs, re⟩, hM⟩ : ∃ m, readM B = m := ⟨_, rfl⟩
  rw [hM] at HC ⊢
  clear hM
  go_enter Tryd.func9, Tryd.ntmps9
  go_wp2_with fail
  refine (on_calls B _).mono ?_
  rintro e w1 ⟨rfl, h1, hb1⟩
  have hz : (w.alloc (.cells #[.int .i64 0, .string ⟨#[]⟩] 24)).heap.size = w.heap.size + 1 := by simp
  rw [hz] at h1 ⊢
  clear hz
  have HP1 : Box _ := ⟨HP.out.below hb1⟩
  have HB1 : Box _ := ⟨bel_calls HB0.out hb1⟩
  have I1 : Box _ := ⟨inByte_calls _ 0 B w1 h1 (by have := HZ.out; omega)⟩
  rw [HF1.out] at I1
  clear h1 hb1
  go_wp2_with fail
  refine I1.out.mono ?_
  rintro e w2 ⟨rfl, h2, hT2⟩
  have HP2 : Box _ := ⟨HP1.out.touched hT2 (by simp)⟩
  have HB2 : Box (Below w.heap.size w w2) := ⟨hT2.below HB1.out HB1.out.size (by simp)⟩
  have HP5 : Box _ := ⟨PrintAt.new w2 k ⟨#[]⟩⟩
  have hbb : Below w2.heap.size w2 (w2.alloc (.cells #[.int .i64 k, .string ⟨#[]⟩] 24)) := bel_alloc (Below.refl _ _) _
  have HP3 : Box _ := ⟨HP2.out.below hbb⟩
  have HI3 : Box _ := ⟨h2.below hbb⟩
  have HB3 : Box _ := ⟨bel_calls HB2.out hbb⟩
  obtain ⟨g5, hg5⟩ : ∃ g5, w2.heap.size = g5 := ⟨_, rfl⟩
  have HL : Box (w.heap.size + 1 < g5) := ⟨by rw [← hg5]; exact h2.lt⟩
  clear h2 hT2 hbb
  have HW3 : Box (PrintAt (w2.alloc (.cells #[.int .i64 k, .string ⟨#[]⟩] 24)) g5 k ⟨#[]⟩) := ⟨by rw [← hg5]; exact HP5.out⟩
  clear HP5
  have I3 : Box _ := ⟨inRaw_calls _ n 0 t _ HI3.out (by have := HZ.out; omega)⟩
  rw [HF2.out] at I3
  go_wp2_with fail
  refine (HN.out _).mono ?_
  rintro e w3 ⟨rfl, rfl⟩
  go_wp2_with fail
  refine I3.out.mono ?_
  rintro e w4 ⟨rfl, h4, hT4⟩
  have HP4 : Box _ := ⟨HP3.out.touched hT4 (by simp)⟩
  have HW4 : Box _ := ⟨HW3.out.touched hT4 (by have := HL.out; simp; omega)⟩
  have HB4 : Box (Below w.heap.size w w4) := ⟨hT4.below HB3.out HB3.out.size (by simp)⟩
  have HI4 : Box _ := ⟨h4⟩
  clear h4 hT4
  have c1 := HW4.out.c1
  have f1 := HW4.out.f1
  have hT : Touched w4 (w4.setCell ⟨g5, 1, none⟩ (.string u)) [g5] := (Touched.refl _ _).setCell (.inl (by simp)) _
  have HP6 : Box _ := ⟨HP4.out.touched hT (by have := HL.out; simp; omega)⟩
  have HI6 : Box _ := ⟨HI4.out.touched hT (by have := HL.out; simp; omega)⟩
  have HB6 : Box (Below w.heap.size w (w4.setCell ⟨g5, 1, none⟩ (.string u))) := ⟨hT.below HB4.out HB4.out.size (by have := HL.out; simp; omega)⟩
  have HW6 : Box _ := ⟨HW4.out.setSum u⟩
  clear hT
  obtain ⟨w6, hw6⟩ : ∃ w6, w4.setCell ⟨g5, 1, none⟩ (.string u) = w6 := ⟨_, rfl⟩
  rw [hw6] at HP6 HI6 HB6 HW6
  have d0 := HW6.out.c0
  have d1 := HW6.out.c1
  go_wp2_with fail
  rcases HC.out with ⟨v1, v2, hm⟩ | ⟨v1, v2, hm⟩ | ⟨v1, hm⟩
  · injection hm with hm1 hm
    injection hm with hm2 hm3
    subst hm1 hm2 hm3
    rw [v1] at HV
    refine (HV.out _).mono ?_
    rintro e w7 ⟨rfl, hb7⟩
    have HP7 : Box _ := ⟨HP6.out.below hb7⟩
    have HW7 : Box _ := ⟨HW6.out.below hb7⟩
    have HB7 : Box _ := ⟨bel_calls HB6.out hb7⟩
    have R7 : Box _ := ⟨inRest_calls _ 0 v w7 (HI6.out.below hb7) (by have := HZ.out; omega)⟩
    rw [v2] at R7
    clear hb7 v1 v2
    go_wp2_with fail
    refine R7.out.mono ?_
    rintro e w8 ⟨rfl, hb8⟩
    have HP8 : Box _ := ⟨HP7.out.below hb8⟩
    have HW8 : Box _ := ⟨HW7.out.below hb8⟩
    have HB8 : Box _ := ⟨bel_calls HB7.out hb8⟩
    clear hb8
    have c0 := HP8.out.c0
    have c1 := HP8.out.c1
    have f0 := HP8.out.f0
    have f1 := HP8.out.f1
    have d0 := HW8.out.c0
    have d1 := HW8.out.c1
    go_wp2_with fail
    have HQ := HP8.out.set rk rs
    refine bodyPost_ret (results_cell_tmp rfl _ _ w.heap.size [.int .i64 rk, .string rs] _ rfl (range_two HQ.c0 HQ.c1) Tryd.underlying24 rfl (by kernel_rfl)) rfl ?_
    exact ⟨rfl, (HB8.out.setCell (by simp) _).setCell (by simp) _⟩
  · injection hm with hm1 hm
    injection hm with hm2 hm3
    subst hm1 hm2 hm3
    rw [v1] at HV
    refine (HV.out _).mono ?_
    rintro e w7 ⟨rfl, hb7⟩
    have HP7 : Box _ := ⟨HP6.out.below hb7⟩
    have HB7 : Box _ := ⟨bel_calls HB6.out hb7⟩
    have R7 : Box _ := ⟨inRest_calls _ 0 v w7 (HI6.out.below hb7) (by have := HZ.out; omega)⟩
    rw [v2] at R7
    clear hb7 v1 v2
    go_wp2_with fail
    refine R7.out.mono ?_
    rintro e w8 ⟨rfl, hb8⟩
    have HP8 : Box _ := ⟨HP7.out.below hb8⟩
    have HB8 : Box _ := ⟨bel_calls HB7.out hb8⟩
    clear hb8
    have c0 := HP8.out.c0
    have c1 := HP8.out.c1
    have f0 := HP8.out.f0
    have f1 := HP8.out.f1
    go_wp2_with fail
    have HQ := HP8.out.set 0 ⟨#[]⟩
    refine bodyPost_ret (results_cell_tmp rfl _ _ w.heap.size [.int .i64 0, .string ⟨#[]⟩] _ rfl (range_two HQ.c0 HQ.c1) Tryd.underlying24 rfl (by kernel_rfl)) rfl ?_
    exact ⟨rfl, (HB8.out.setCell (by simp) _).setCell (by simp) _⟩
  · injection hm with hm1 hm
    injection hm with hm2 hm3
    subst hm1 hm2 hm3
    rw [v1] at HV
    refine (HV.out _).mono ?_
    rintro e w7 ⟨rfl, hb7⟩
    have HP7 : Box _ := ⟨HP6.out.below hb7⟩
    have HB7 : Box _ := ⟨bel_calls HB6.out hb7⟩
    clear hb7 v1
    have c0 := HP7.out.c0
    have c1 := HP7.out.c1
    have f0 := HP7.out.f0
    have f1 := HP7.out.f1
    go_wp2_with fail
    have HQ := HP7.out.set 0 ⟨#[]⟩
    refine bodyPost_ret (results_cell_tmp rfl _ _ w.heap.size [.int .i64 0, .string ⟨#[]⟩] _ rfl (range_two HQ.c0 HQ.c1) Tryd.underlying24 rfl (by kernel_rfl)) rfl ?_
    exact ⟨rfl, (HB7.out.setCell (by simp) _).setCell (by simp) _⟩
end Go.Proofs.YtbkankpfkbafdaaDoor

/- The document's Low (as in SealRef, beside the bits' own texts). -/
namespace Go.Proofs.YtbkankpfkbafdaaDoor
open Go.RowKit

def lowS (v n : Nat) : ByteArray := ⟨(lowL v n).toArray⟩
theorem lowS_size (v n : Nat) : (lowS v n).size = n := by simp [lowS, ByteArray.size, lowL_length]

set_option maxHeartbeats 800000 in
set_option maxRecDepth 10000 in
theorem refLow_calls (v n : Nat) (w : World) (hn : n ≤ 8) (hv : v < 18446744073709551616) : Calls Tryd.prog 44 #[.int .u64 (v : Int), .int .i64 (n : Int)] w fun e w' => e = .returned (.string (lowS v n)) ∧ Below w.heap.size w w' := by
  go_enter Tryd.func44, Tryd.ntmps44
  go_wp2
  go_loopw [0, 5, 6] (fun u x i wr => ∃ k y : Nat, k ≤ n ∧ y < 18446744073709551616 ∧ u = .int .u64 (y : Int) ∧ i = .int .i64 (k : Int) ∧ Hid (y = v / 256 ^ k) ∧ Hid (Own wr w.heap.size 1 x k (bcells ((lowL v n).take k))) ∧ Hid (Below w.heap.size w wr)) (fun _ _ i _ => n - (intOf i).toNat)
  case atStart => exact ⟨0, v, by omega, hv, rfl, rfl, by simp [Hid], by rw [Hid]; simpa [bcells] using Own.nil _ _ _, Below.refl _ _⟩
  case round =>
    obtain ⟨k, y, hk, hy, rfl, rfl, HY, HN, HW⟩ := hrel
    by_cases hlt : k < n
    · obtain ⟨b, hb⟩ : ∃ b, UInt8.ofNat y = b := ⟨_, rfl⟩
      obtain ⟨z, hz⟩ : ∃ z, y / 256 = z := ⟨_, rfl⟩
      have HX : Hid ((lowL v n).take (k + 1) = (lowL v n).take k ++ [b]) := by rw [Hid, ← hb, HY.out]; exact take_snoc_of (lowL_at v n k hlt)
      have HQ : Hid (z = v / 256 ^ (k + 1)) := by rw [Hid, ← hz, HY.out, Nat.div_div_eq_div_mul, Nat.pow_succ]
      have HV : (y : Int) % 256 = (b.toNat : Int) := by rw [← hb]; simp
      have HD : (y : Int) / 256 = (z : Int) := by omega
      have hzl : z < 18446744073709551616 := by omega
      clear hb hz
      go_wp2_with (at_builtin; refine appO el_u8 w.heap.size rfl _ _ rfl rfl (HN.out.alloc _) (news := bcells [b]) rfl rfl (rowAt_alloc _ _ _) (one_bcells _) (by omega) (Nat.le_trans HW.out.size (by simp)) ?_; intro v1 w3 hown1 hg1 _; have HO3 : Hid (Own w3 w.heap.size 1 v1 (k + 1) (bcells ((lowL v n).take (k + 1)))) := (by have e9 : bcells ((lowL v n).take (k + 1)) = bcells ((lowL v n).take k) ++ bcells [b] := (congrArg bcells HX.out).trans (by simp [bcells]); rw [Hid, e9]; exact hown1); have HB3 : Hid (Below w.heap.size w w3) := Own.grown_below (HN.out.alloc _) (HW.out.alloc HW.out.size _) hg1 (Nat.le_refl _); clear hown1 hg1)
      go_roundw
      case rel => exact ⟨k + 1, z, by omega, hzl, rfl, by go_num, HQ, HO3, HB3⟩
      case measure => simp [intOf]; omega
    · obtain rfl : k = n := by omega
      obtain ⟨A, c, rfl, _, hr, _⟩ := HN.out.slice
      rw [List.take_of_length_le (by rw [lowL_length]; omega)] at hr
      have hcv := bytes_str Tryd.prog 31 5 9 Tryd.underlying31 Tryd.underlying5 Tryd.underlying9 A k c (lowL v k) wr (lowL_length _ _) hr
      clear hr
      go_wp2_with fail
      go_ret
      exact ⟨rfl, HW.out⟩
end Go.Proofs.YtbkankpfkbafdaaDoor

/- The document's LayPrint and ReadPrint. -/
namespace Go.Proofs.YtbkankpfkbafdaaDoor
open Go.RowKit

theorem lay_text (k : Nat) (s : ByteArray) : lowS k 1 ++ s ++ zerosB (32 - s.size) = ⟨(layL (k : Int) s).toArray⟩ := by
  apply str_inj
  rw [ByteArray.toList_eq, ByteArray.toList_eq]
  simp [layL, lowS, zerosB, ByteArray.data_append]
set_option maxHeartbeats 1600000 in
theorem refLay_calls (k : Nat) (s : ByteArray) (w : World) (hk : k < 256) (hs : s.size ≤ 32) : Calls Tryd.prog 18 #[.agg #[.int .i64 (k : Int), .string s]] w fun e w' => e = .returned (.string ⟨(layL (k : Int) s).toArray⟩) ∧ Below w.heap.size w w' := by
  have HP : Box _ := ⟨PrintAt.new w (k : Int) s⟩
  have HB0 : Box _ := ⟨bel_alloc (Below.refl w.heap.size w) (.cells #[.int .i64 (k : Int), .string s] 24)⟩
  have N1 : Box _ := ⟨fun W => refLow_calls k 1 W (by omega) (by omega)⟩
  have N2 : Box _ := ⟨fun W => zeros_calls (32 - s.size) W (by omega)⟩
  have HT : Box _ := ⟨lay_text k s⟩
  have u1 : ((lowS k 1).size : Int) ≤ 1 := by rw [lowS_size]; omega
  have u2 : ((zerosB (32 - s.size)).size : Int) ≤ 32 := by rw [zerosB_size]; omega
  have u3 : (s.size : Int) ≤ 32 := by omega
  obtain ⟨p, hp⟩ : ∃ p, lowS k 1 = p := ⟨_, rfl⟩
  obtain ⟨q, hq⟩ : ∃ q, zerosB (32 - s.size) = q := ⟨_, rfl⟩
  rw [hp, hq] at HT
  rw [hp] at u1
  rw [hq] at u2
  have u4 : ((p ++ s).size : Int) ≤ 33 := by rw [ByteArray.size_append]; omega
  simp only [hp] at N1
  simp only [hq] at N2
  clear hp hq
  rw [← HT.out]
  have y1 : (32 : Int) - (s.size : Int) = ((32 - s.size : Nat) : Int) := by omega
  have y2 := IntWalk.i64_in ((32 - s.size : Nat) : Int) (by omega)
  have y3 := IntWalk.i64_in ((32 : Int) - (s.size : Int)) (by omega)
  have y4 : IntKind.u64.wrap (k : Int) = (k : Int) := by rw [IntKind.wrap_u64]; omega
  obtain ⟨m, hm⟩ : ∃ m, 32 - s.size = m := ⟨_, rfl⟩
  rw [hm] at y1 y2 N2
  clear hm
  have KK : Box (∀ W, Below (w.alloc (.cells #[.int .i64 (k : Int), .string s] 24)).heap.size (w.alloc (.cells #[.int .i64 (k : Int), .string s] 24)) W → W.cell? ⟨w.heap.size, 0, none⟩ = some (.int .i64 (k : Int)) ∧ W.cell? ⟨w.heap.size, 1, none⟩ = some (.string s)) := ⟨fun W h => ⟨(HP.out.below h).c0, (HP.out.below h).c1⟩⟩
  have v1 := fun W : World => run_string_add (P := Tryd.prog) W p s (by omega) (by omega)
  have v2 := fun W : World => run_string_add (P := Tryd.prog) W (p ++ s) q (by omega) (by omega)
  go_enter Tryd.func18, Tryd.ntmps18
  go_wp2_with fail
  go_region_held3 (fun w' => w'.cell? ⟨w.heap.size, 0, none⟩ = some (.int .i64 (k : Int)) ∧ w'.cell? ⟨w.heap.size, 1, none⟩ = some (.string s)) (first | exact KK.out _ HB2.out | exact KK.out _ HB1.out | exact KK.out _ (bel_drew (Below.refl _ _)))
    (first
      | (go_at_call 44; refine (N1.out _).mono ?_; rintro e w5 ⟨rfl, hb⟩; have HB1 : Box _ := ⟨bel_calls (bel_drew (Below.refl _ _)) hb⟩; clear hb)
      | (go_at_call 45; refine (N2.out _).mono ?_; rintro e w6 ⟨rfl, hb⟩; have HB2 : Box _ := ⟨bel_calls HB1.out hb⟩; clear hb))
  all_goals
    go_wp2_with fail
    go_ret
    exact ⟨rfl, bel_calls HB0.out HB2.out⟩
end Go.Proofs.YtbkankpfkbafdaaDoor

/- The document's ReadPrint. -/
namespace Go.Proofs.YtbkankpfkbafdaaDoor
open Go.RowKit

theorem zeros_iff (l : List UInt8) (n : Nat) (h : l.length = n) : (List.replicate n 0 = l) ↔ l.all (· == 0) = true := by
  subst h
  induction l with
  | nil => simp
  | cons x l ih =>
    rw [List.length_cons, List.replicate_succ, List.cons.injEq, ih, List.all_cons, Bool.and_eq_true]
    constructor
    · rintro ⟨rfl, h⟩; exact ⟨rfl, h⟩
    · rintro ⟨h1, h2⟩; exact ⟨(by simpa using h1 : x = 0).symm, h2⟩
theorem lay_same (x : UInt8) (r : List UInt8) (n : Nat) (hr : r.length = 32) (hn : n ≤ 32) : ((⟨(layL (x.toNat : Int) ⟨(r.take n).toArray⟩).toArray⟩ : ByteArray) = ⟨(x :: r).toArray⟩) ↔ (r.drop n).all (· == 0) = true := by
  rw [← zeros_iff (r.drop n) (32 - n) (by rw [List.length_drop, hr])]
  have e : layL (x.toNat : Int) ⟨(r.take n).toArray⟩ = x :: (r.take n ++ List.replicate (32 - n) 0) := by
    rw [layL, mkS_toList, mk_size, List.length_take, show min n r.length = n by omega]
    simp [lowL]
  rw [e]
  constructor
  · intro h
    have h2 : x :: (r.take n ++ List.replicate (32 - n) 0) = x :: r := by
      have := congrArg (fun b : ByteArray => b.data.toList) h
      simpa using this
    have h3 : r.take n ++ List.replicate (32 - n) 0 = r := by simpa using h2
    conv at h3 => rhs; rw [← List.take_append_drop n r]
    exact List.append_cancel_left h3
  · intro h
    rw [h, List.take_append_drop]
set_option maxHeartbeats 3200000 in
set_option maxRecDepth 100000 in
theorem refRead_calls (b : ByteArray) (w : World) : Calls Tryd.prog 17 #[.string b] w fun e w' => e = .returned (.tuple #[.agg #[.int .i64 (readM b).1, .string (readM b).2.1], .int .i64 (readM b).2.2]) ∧ Below w.heap.size w w' := by
  have HP : Box _ := ⟨PrintAt.new w 0 ⟨#[]⟩⟩
  have HB0 : Box _ := ⟨bel_alloc (Below.refl w.heap.size w) (.cells #[.int .i64 0, .string ⟨#[]⟩] 24)⟩
  by_cases h33 : b.size = 33
  case neg =>
    rw [readM_short h33]
    have e1 : ((b.size : Int) != 33) = true := by simp; omega
    clear h33
    go_enter Tryd.func17, Tryd.ntmps17
    go_wp2_with fail
    refine bodyPost_ret (results_cell_tmp rfl _ _ w.heap.size [.int .i64 0, .string ⟨#[]⟩] _ rfl (range_two HP.out.c0 HP.out.c1) Tryd.underlying24 rfl (by kernel_rfl)) rfl ?_
    exact ⟨rfl, HB0.out⟩
  obtain ⟨x, r, rfl, hr⟩ := read_parts h33
  have e1 : (((⟨(x :: r).toArray⟩ : ByteArray).size : Int) != 33) = false := by rw [h33]; rfl
  have h0 : 0 < (⟨(x :: r).toArray⟩ : ByteArray).size := by omega
  have h0i : (0 : Int) < ((⟨(x :: r).toArray⟩ : ByteArray).size : Int) := by omega
  have hsz : ((⟨(x :: r).toArray⟩ : ByteArray).size : Int) = 33 := by omega
  have hx : (((⟨(x :: r).toArray⟩ : ByteArray)[0]).toNat : Int) = (x.toNat : Int) := rfl
  have hM : readM ⟨(x :: r).toArray⟩ = if 0 < sizeM x.toNat ∧ (r.drop (sizeM x.toNat).toNat).all (· == 0) = true then ((x.toNat : Int), ⟨(r.take (sizeM x.toNat).toNat).toArray⟩, 0) else (0, ByteArray.empty, 6) := by
    rw [readM, mkS_toList, readL, if_pos hr]
  have hE : ∀ n, n ≤ 32 → (⟨(x :: r).toArray⟩ : ByteArray).extract 1 (1 + n) = ⟨(r.take n).toArray⟩ := by
    intro n hn
    rw [ext_mk _ _ _ (by simp; omega)]
    rw [show 1 + n = n + 1 by omega, List.take_succ_cons, List.drop_succ_cons, List.drop_zero]
  have hS := fun n (hn : n ≤ 32) => lay_same x r n hr hn
  have hxl : (x.toNat : Int) < 256 := by have := x.toNat_lt; omega
  obtain ⟨n, hn⟩ : ∃ n : Nat, sizeM (x.toNat : Int) = (n : Int) := ⟨(sizeM (x.toNat : Int)).toNat, by have := sizeM_le (x.toNat : Int); omega⟩
  have hn32 : n ≤ 32 := by have := sizeM_le (x.toNat : Int); omega
  have HN : Box _ := ⟨refSize_calls (x.toNat : Int)⟩
  rw [hn, Int.toNat_natCast] at hM
  rw [hn] at HN
  have hE1 := hE n hn32
  have hS1 := hS n hn32
  have HL : Box _ := ⟨fun W => refLay_calls x.toNat ⟨(r.take n).toArray⟩ W (by have := x.toNat_lt; omega) (by rw [mk_size, List.length_take]; omega)⟩
  obtain ⟨u, hu⟩ : ∃ u : ByteArray, ⟨(r.take n).toArray⟩ = u := ⟨_, rfl⟩
  simp only [hu] at hE1 hS1 hM HL
  obtain ⟨V, hV⟩ : ∃ V : ByteArray, ⟨(layL (x.toNat : Int) u).toArray⟩ = V := ⟨_, rfl⟩
  simp only [hV] at HL hS1
  obtain ⟨z, hz⟩ : ∃ z, (r.drop n).all (· == 0) = z := ⟨_, rfl⟩
  rw [hz] at hM hS1
  have hS2 : ((V.toList == (⟨(x :: r).toArray⟩ : ByteArray).toList) = z) := by
    rw [str_beq]
    cases z
    · exact decide_eq_false (fun h => by have := hS1.1 h; cases this)
    · exact decide_eq_true (hS1.2 rfl)
  clear hE hS hS1 hz hV hu hn hr h33
  generalize (⟨(x :: r).toArray⟩ : ByteArray) = B at *
  obtain ⟨k, hk⟩ : ∃ k : Int, (x.toNat : Int) = k := ⟨_, rfl⟩
  have hk0 : 0 ≤ k := by omega
  rw [hk] at hx hM HN HL hxl
  clear hk
  rcases Nat.eq_zero_or_pos n with rfl | hn0
  · have HM : Box (readM B = (0, ByteArray.empty, 6)) := ⟨by rw [hM, if_neg (fun h => by have := h.1; simp at this)]⟩
    rw [HM.out]
    clear hM hS2 HL
    have y1 : (1 : Int) ≤ (B.size : Int) := by omega
    have hE1 : B.extract 1 1 = u := hE1
    go_enter Tryd.func17, Tryd.ntmps17
    go_wp2_with fail
    refine (HN.out _).mono ?_
    rintro e w1 ⟨rfl, rfl⟩
    go_wp2_with fail
    go_region
    all_goals
      go_wp2_with fail
      refine bodyPost_ret (results_cell_tmp rfl _ _ w.heap.size [.int .i64 0, .string ⟨#[]⟩] _ rfl (range_two (HP.out.below (by repeat (first | exact Below.refl _ _ | apply bel_drew | apply bel_alloc))).c0 (HP.out.below (by repeat (first | exact Below.refl _ _ | apply bel_drew | apply bel_alloc))).c1) Tryd.underlying24 rfl (by kernel_rfl)) rfl ?_
      exact ⟨rfl, by repeat (first | exact Below.refl _ _ | apply bel_drew | apply bel_alloc)⟩
  · have y0 : ((n : Int) == 0) = false := by simp; omega
    have y1 : (1 : Int) + (n : Int) ≤ (B.size : Int) := by omega
    have y2 : (n : Int) ≤ 32 := by omega
    have y3 : ((1 : Int) + (n : Int)).toNat = 1 + n := by omega
    have y4 := IntWalk.i64_in ((1 : Int) + (n : Int)) (by omega)
    have y5 : (1 : Int) ≤ (1 : Int) + (n : Int) := by omega
    have HK : Box _ := ⟨fun W => PrintAt.new W k u⟩
    cases z
    · have HM : Box (readM B = (0, ByteArray.empty, 6)) := ⟨by rw [hM, if_neg (fun h => by cases h.2)]⟩
      rw [HM.out]
      have hS3 : ((V.toList != B.toList) = true) := by simp only [bne, hS2]; rfl
      clear hM
      go_enter Tryd.func17, Tryd.ntmps17
      go_wp2_with fail
      refine (HN.out _).mono ?_
      rintro e w1 ⟨rfl, rfl⟩
      go_wp2_with fail
      go_region
      all_goals
        go_wp2_with fail
        refine (HL.out _).mono ?_
        rintro e w2 ⟨rfl, hb2⟩
        have HB2 : Box (Below (w.alloc (.cells #[.int .i64 0, .string ⟨#[]⟩] 24)).heap.size (w.alloc (.cells #[.int .i64 0, .string ⟨#[]⟩] 24)) w2) := ⟨bel_calls (by repeat (first | exact Below.refl _ _ | apply bel_drew | apply bel_alloc)) hb2⟩
        have HP2 : Box _ := ⟨HP.out.below HB2.out⟩
        have HB3 : Box _ := ⟨bel_calls HB0.out HB2.out⟩
        have c0 := HP2.out.c0
        have c1 := HP2.out.c1
        have f0 := HP2.out.f0
        have f1 := HP2.out.f1
        clear hb2
        go_wp2_with fail
        have HQ := HP2.out.set 0 ⟨#[]⟩
        refine bodyPost_ret (results_cell_tmp rfl _ _ w.heap.size [.int .i64 0, .string ⟨#[]⟩] _ rfl (range_two HQ.c0 HQ.c1) Tryd.underlying24 rfl (by kernel_rfl)) rfl ?_
        exact ⟨rfl, (HB3.out.setCell (by simp) _).setCell (by simp) _⟩
    · have HM : Box (readM B = (k, u, 0)) := ⟨by rw [hM, if_pos ⟨by omega, rfl⟩]⟩
      rw [HM.out]
      have hS3 : ((V.toList != B.toList) = false) := by simp only [bne, hS2]; rfl
      clear hM
      go_enter Tryd.func17, Tryd.ntmps17
      go_wp2_with fail
      refine (HN.out _).mono ?_
      rintro e w1 ⟨rfl, rfl⟩
      go_wp2_with fail
      go_region
      all_goals
        go_wp2_with fail
        refine (HL.out _).mono ?_
        rintro e w2 ⟨rfl, hb2⟩
        have hK := (HK.out (w.alloc (.cells #[.int .i64 0, .string ⟨#[]⟩] 24))).drew
        have hz : (w.alloc (.cells #[.int .i64 0, .string ⟨#[]⟩] 24)).heap.size = w.heap.size + 1 := by simp
        rw [hz] at hK
        have HK2 : Box _ := ⟨hK.below hb2⟩
        have HB2 : Box (Below (w.alloc (.cells #[.int .i64 0, .string ⟨#[]⟩] 24)).heap.size (w.alloc (.cells #[.int .i64 0, .string ⟨#[]⟩] 24)) w2) := ⟨bel_calls (by repeat (first | exact Below.refl _ _ | apply bel_drew | apply bel_alloc)) hb2⟩
        have HP2 : Box _ := ⟨HP.out.below HB2.out⟩
        have HB3 : Box _ := ⟨bel_calls HB0.out HB2.out⟩
        have c0 := HP2.out.c0
        have c1 := HP2.out.c1
        have f0 := HP2.out.f0
        have f1 := HP2.out.f1
        have d0 := HK2.out.c0
        have d1 := HK2.out.c1
        clear hb2 hK hz
        go_wp2_with fail
        have HQ := HP2.out.set k u
        refine bodyPost_ret (results_cell_tmp rfl _ _ w.heap.size [.int .i64 k, .string u] _ rfl (range_two HQ.c0 HQ.c1) Tryd.underlying24 rfl (by kernel_rfl)) rfl ?_
        exact ⟨rfl, (HB3.out.setCell (by simp) _).setCell (by simp) _⟩
end Go.Proofs.YtbkankpfkbafdaaDoor
