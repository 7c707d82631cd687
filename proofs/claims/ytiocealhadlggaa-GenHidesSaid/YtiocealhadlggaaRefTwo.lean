/- The reference's SHA-256. -/
import Derived.Test.YtiocealhadlggaaTwoLawK
import Derived.Test.YtiocealhadlggaaRefOne
namespace Go.Proofs.Ytiocealhadlggaa
open Go.RowKit
set_option linter.unusedVariables false

theorem block_word2 (t : ByteArray) (a k : Nat) (_ha : a + 64 ≤ t.size) (hk : k < 16) (h4 : 4 ≤ (t.extract (a + 4 * k) (a + 4 * k + 4)).size) :
    word4 ((t.extract (a + 4 * k) (a + 4 * k + 4))[0]'(by omega)) ((t.extract (a + 4 * k) (a + 4 * k + 4))[1]'(by omega)) ((t.extract (a + 4 * k) (a + 4 * k + 4))[2]'(by omega)) ((t.extract (a + 4 * k) (a + 4 * k + 4))[3]'(by omega)) = (twoWords ((t.data.toList.drop a).take 64) 48).getD k 0 := by
  rw [block_word t a k _ha hk h4, oneW_low _ hk, twoW_low _ hk]
theorem refKeys_own (w : World) : Calls Try.prog 32 #[] w fun e w' => e = .returned (.slice (some ⟨w.heap.size, 0, none⟩) 64 64) ∧ Box (Own w' w.heap.size 1 (.slice (some ⟨w.heap.size, 0, none⟩) 64 64) 64 (wcells twoKeys)) ∧ Below w.heap.size w w' := by
  rw [keyL_lit]
  go_enter Try.func32, Try.ntmps32
  go_wp2
  go_ret
  exact ⟨rfl, ⟨Own.fresh w _ _ (by decide)⟩, (Below.refl _ _).alloc (Nat.le_refl _) _⟩

theorem own_fresh8 (W : World) (t : TypeId) {b0 b4 x1 x2 x3 x5 x6 x7 : BitVec 32} {a0 a4 : Int} {L : List (BitVec 32)} {base : Nat} (hL : L = [b0, x1, x2, x3, b4, x5, x6, x7]) (h0 : a0 = (b0.toNat : Int)) (h4 : a4 = (b4.toNat : Int)) (hb : base ≤ W.heap.size) :
    Own (W.alloc (.cells #[.int .u32 a0, .int .u32 (x1.toNat : Int), .int .u32 (x2.toNat : Int), .int .u32 (x3.toNat : Int), .int .u32 a4, .int .u32 (x5.toNat : Int), .int .u32 (x6.toNat : Int), .int .u32 (x7.toNat : Int)] t)) base 1 (.slice (some ⟨W.heap.size, 0, none⟩) 8 8) 8 (wcells L) := by
  subst hL h0 h4
  exact (Own.fresh W (wcells [b0, x1, x2, x3, b4, x5, x6, x7]).toArray t (by simp [wcells, maxLen])).weaken hb
theorem cell_turned {w wq : World} {n : Nat} {a : Addr} {v : Value} (h : w.drewN n = wq) (hc : w.cell? a = some v) : wq.cell? a = some v := by subst h; exact hc

set_option maxHeartbeats 6000000 in
set_option maxRecDepth 100000 in
theorem refTwo_calls (s : ByteArray) (w : World) (hs : s.size ≤ 1000000) :
    Calls Try.prog 21 #[.string s] w fun e w' => e = .returned (.string ⟨(twoSum s.data.toList).toArray⟩) ∧ Below w.heap.size w w' := by
  go_enter Try.func21, Try.ntmps21
  have HP : Box (padB (s.size : Int) = ⟨(padL s.size).toArray⟩) := ⟨by rw [padB, if_neg (by omega)]; simp⟩
  go_wp2_with fail
  refine (refKeys_own _).mono ?_
  rintro e w1 ⟨rfl, HK1, hb1⟩
  have HB1 := Lib.hid ((((Below.refl w.heap.size w).alloc (Nat.le_refl _) (.cells #[.int .u32 1779033703, .int .u32 3144134277, .int .u32 1013904242, .int .u32 2773480762, .int .u32 1359893119, .int .u32 2600822924, .int .u32 528734635, .int .u32 1541459225] 70))).trans (hb1.mono (by simp)))
  have HO1 : Box (Own w1 w.heap.size 1 (.slice (some ⟨w.heap.size, 0, none⟩) 8 8) 8 (wcells twoStart.cells)) := ⟨(Own.fresh w #[.int .u32 1779033703, .int .u32 3144134277, .int .u32 1013904242, .int .u32 2773480762, .int .u32 1359893119, .int .u32 2600822924, .int .u32 528734635, .int .u32 1541459225] 70 (by decide)).below hb1⟩
  have HK2 : Box (Own w1 w.heap.size 1 (.slice (some ⟨w.heap.size + 1, 0, none⟩) 64 64) 64 (wcells twoKeys)) := ⟨by
    have := HK1.out.weaken (base' := w.heap.size) (by simp)
    simpa using this⟩
  clear hb1
  go_wp2_with fail
  refine (refPad_calls (s.size : Int) _).mono ?_
  rintro e w2 ⟨rfl, hb2⟩
  have HB2 := Lib.hid (below_trans' HB1.out hb2)
  have HO : Box _ := ⟨HO1.out.below hb2⟩
  have HK : Box _ := ⟨HK2.out.below hb2⟩
  clear hb2
  rw [HP.out]
  have hps : (⟨(padL s.size).toArray⟩ : ByteArray).size = 9 + (119 - s.size % 64) % 64 := by rw [mk_size, padL_length]
  obtain ⟨p, hp⟩ : ∃ p, (⟨(padL s.size).toArray⟩ : ByteArray) = p := ⟨_, rfl⟩
  rw [hp] at hps ⊢
  have HPP : Box _ := ⟨hp⟩
  clear hp
  have hp1 : p.size ≤ 72 := by omega
  have hsp : (s ++ p).size = s.size + p.size := ByteArray.size_append
  have hmod : (s.size + p.size) % 64 = 0 := by have := padL_whole s.size; rw [padL_length] at this; omega
  go_wp2
  obtain ⟨t, ht⟩ : ∃ t, s ++ p = t := ⟨_, rfl⟩
  rw [ht] at hsp ⊢
  have HT : Box _ := ⟨ht⟩
  clear ht
  obtain ⟨m, hm⟩ : ∃ m, t.size = 64 * m := ⟨t.size / 64, by omega⟩
  have hm1 : m ≤ 20000 := by omega
  have HM : Box _ := ⟨hm⟩
  have ht1 : t.size ≤ 64 * m := by omega
  have ht2 : 64 * m ≤ t.size := by omega
  clear hsp hmod hps hm hp1
  go_loopw [5] (fun i wr => ∃ (k a : Nat) (x : Eight), k ≤ m ∧ i = .int .i64 (a : Int) ∧ Box (a = 64 * k) ∧ Box (x = twoBlocks t.data.toList twoStart k) ∧ Box (Own wr w.heap.size 1 (.slice (some ⟨w.heap.size, 0, none⟩) 8 8) 8 (wcells x.cells)) ∧ Box (Own wr w.heap.size 1 (.slice (some ⟨w.heap.size + 1, 0, none⟩) 64 64) 64 (wcells twoKeys)) ∧ Hid (Below w.heap.size w wr)) (fun i _ => 64 * m - (intOf i).toNat)
  case atStart => exact ⟨0, 0, twoStart, by omega, rfl, ⟨rfl⟩, ⟨rfl⟩, HO, HK, HB2.out⟩
  case round =>
    obtain ⟨k, a, x, hk, rfl, HA, HX, HN, HKy, HW⟩ := hrel
    by_cases hlt : k < m
    · have ha : a + 64 ≤ t.size := by have := HA.out; omega
      have hd : decide (a < t.size) = true := by simp; omega
      obtain ⟨wo, rfl⟩ : ∃ wo : World, wo = wr := ⟨_, rfl⟩
      go_upto_block 2 with fail
      go_cut [6] from 30 to 204 (fun v wx => Box (Own wx wo.heap.size 1 v 64 (wcells (twoWords ((t.data.toList.drop a).take 64) 48))) ∧ Hid (Below wo.heap.size wo wx))
      case first =>
        go_wp2_with fail
        go_loopw [6, 7] (fun v i wr => ∃ n : Nat, n ≤ 64 ∧ i = .int .i64 (n : Int) ∧ Box (Own wr wo.heap.size 1 v n (wcells ((twoWords ((t.data.toList.drop a).take 64) 48).take n))) ∧ Hid (Below wo.heap.size wo wr)) (fun _ i _ => 64 - (intOf i).toNat)
        case atStart => exact ⟨0, by omega, rfl, ⟨Own.nil _ _ _⟩, Below.refl _ _⟩
        case round =>
          obtain ⟨n, hn, rfl, HV, HWV⟩ := hrel
          by_cases hlt2 : n < 64
          · obtain ⟨W, hW⟩ : ∃ W, twoWords ((t.data.toList.drop a).take 64) 48 = W := ⟨_, rfl⟩
            have hWl : W.length = 64 := by rw [← hW, twoWords_length]
            have HHW : Box (twoWords ((t.data.toList.drop a).take 64) 48 = W) := ⟨hW⟩
            rw [hW] at HV
            obtain ⟨y, hy⟩ : ∃ y, W.getD n 0 = y := ⟨_, rfl⟩
            have HS : Box (W.take (n + 1) = W.take n ++ [y]) := by
              rw [← hy, List.getD_eq_getElem?_getD, List.getElem?_eq_getElem (by omega)]
              exact ⟨take_snoc_of (List.getElem?_eq_getElem (by omega))⟩
            by_cases h16 : n < 16
            · have h4 : 4 ≤ (t.extract (a + 4 * n) (a + 4 * n + 4)).size := by rw [ByteArray.size_extract]; omega
              have HWC : Box (∀ W' : World, Calls Try.prog 29 #[.string (t.extract (a + 4 * n) (a + 4 * n + 4))] W' fun e w' => e = .returned (.int .u32 (y.toNat : Int)) ∧ ∃ n, w' = W'.drewN n) := by
                refine ⟨fun W' => ?_⟩
                have h := refWord_calls (t.extract (a + 4 * n) (a + 4 * n + 4)) W' h4
                rw [block_word2 t a n ha h16 h4, hW, hy] at h
                exact h
              clear hW hWl h4 hy
              go_wp2_with (first
                | (go_at_call 29; refine Calls.mono (HWC.out _) ?_; rintro e w5 ⟨rfl, dn, rfl⟩)
                | (at_builtin; refine appO el_w32 wo.heap.size rfl _ _ rfl rfl ((HV.out.drewN _).alloc _) (news := wcells [y]) rfl rfl (rowAt_alloc _ (wcells [y]) _) (one_wcells _) (by omega) (by have := HWV.out.size; simp; omega) ?_; intro v1 w6 hown1 hg1 _; have HO6 : Hid (Own w6 wo.heap.size 1 v1 (n + 1) (wcells (W.take (n + 1)))) := (by rw [HS.out, wcells, List.map_append]; exact hown1); have HB6 : Hid (Below wo.heap.size wo w6) := Own.grown_below ((HV.out.drewN dn).alloc _) ((below_drewN HWV.out dn).alloc (by simpa using HWV.out.size) _) hg1 (Nat.le_refl _); clear hown1 hg1))
              go_roundw
              case rel => first | exact ⟨n + 1, by omega, by go_num, ⟨by rw [HHW.out]; exact HO6.out⟩, HB6.out⟩ | ((repeat apply Exists.intro); exact ⟨⟨n + 1, by omega, by go_num, ⟨by rw [HHW.out]; exact HO6.out⟩, HB6.out⟩, rfl⟩)
              case measure => simp [intOf]; omega
            · have hn0 : 0 < n := by omega
              obtain ⟨g5, cap5, rfl, hgb, hgl, hcap, hrow⟩ := HV.out.form hn0
              have at_ : ∀ d, 0 < d → d ≤ 16 → (W.take n)[n - d]? = some (W.getD (n - d) 0) := by
                intro d h1 h2
                rw [List.getElem?_take, if_pos (by omega), List.getD_eq_getElem?_getD, List.getElem?_eq_getElem (by omega)]; rfl
              have m16 := wcells_at (at_ 16 (by omega) (by omega))
              have m7 := wcells_at (at_ 7 (by omega) (by omega))
              have m15 := wcells_at (at_ 15 (by omega) (by omega))
              have m2 := wcells_at (at_ 2 (by omega) (by omega))
              have hyy : y = twoNew (W.getD (n - 16) 0) (W.getD (n - 7) 0) (W.getD (n - 15) 0) (W.getD (n - 2) 0) := by
                rw [← hy, ← hW]; exact twoW_high _ (by omega) hlt2
              obtain ⟨p16, e16⟩ : ∃ p, W.getD (n - 16) 0 = p := ⟨_, rfl⟩
              obtain ⟨p7, e7⟩ : ∃ p, W.getD (n - 7) 0 = p := ⟨_, rfl⟩
              obtain ⟨p15, e15⟩ : ∃ p, W.getD (n - 15) 0 = p := ⟨_, rfl⟩
              obtain ⟨p2, e2⟩ : ∃ p, W.getD (n - 2) 0 = p := ⟨_, rfl⟩
              rw [e16, e7, e15, e2] at hyy
              rw [e16] at m16
              rw [e7] at m7
              rw [e15] at m15
              rw [e2] at m2
              have c16 := row_cell hrow m16
              have c7 := row_cell hrow m7
              have c15 := row_cell hrow m15
              have c2 := row_cell hrow m2
              have HM16 : Box _ := ⟨m16⟩
              have HM7 : Box _ := ⟨m7⟩
              have HZ : Box ([Value.int .u32 ((((((p16.toNat : Int) + (p7.toNat : Int)) % 4294967296 + bits BinOp.xor IntKind.u32 (bits BinOp.xor IntKind.u32 ((turn p15 25).toNat : Int) ((turn p15 14).toNat : Int)) ((p15.toNat : Int) / (8 : Int))) % 4294967296) + bits BinOp.xor IntKind.u32 (bits BinOp.xor IntKind.u32 ((turn p2 15).toNat : Int) ((turn p2 13).toNat : Int)) ((p2.toNat : Int) / (1024 : Int))) % 4294967296)] = wcells [y]) := by
                refine ⟨?_⟩
                rw [t_add, show (8 : Int) = (2 : Int) ^ 3 by decide, show (1024 : Int) = (2 : Int) ^ 10 by decide, t_shr, t_shr, w_xor, w_xor, w_xor, w_xor, t_add, t_add, hyy]
                rfl
              clear e16 e7 e15 e2 hyy hy hW hWl at_ m16 m7 m15 m2 hrow
              have y16 := IntWalk.i64_in ((n : Int) - 16) (by omega)
              have z16 : ((n : Int) - 16).toNat = n - 16 := by omega
              have b16 : (0 : Int) ≤ (n : Int) - 16 := by omega
              have a16 : (16 : Int) ≤ (n : Int) := by omega
              have l16 : (n : Int) - 16 < (n : Int) := by omega
              have y7 := IntWalk.i64_in ((n : Int) - 7) (by omega)
              have z7 : ((n : Int) - 7).toNat = n - 7 := by omega
              have b7 : (0 : Int) ≤ (n : Int) - 7 := by omega
              have a7 : (7 : Int) ≤ (n : Int) := by omega
              have l7 : (n : Int) - 7 < (n : Int) := by omega
              have y15 := IntWalk.i64_in ((n : Int) - 15) (by omega)
              have z15 : ((n : Int) - 15).toNat = n - 15 := by omega
              have b15 : (0 : Int) ≤ (n : Int) - 15 := by omega
              have a15 : (15 : Int) ≤ (n : Int) := by omega
              have l15 : (n : Int) - 15 < (n : Int) := by omega
              have y2 := IntWalk.i64_in ((n : Int) - 2) (by omega)
              have z2 : ((n : Int) - 2).toNat = n - 2 := by omega
              have b2 : (0 : Int) ≤ (n : Int) - 2 := by omega
              have a2 : (2 : Int) ≤ (n : Int) := by omega
              have l2 : (n : Int) - 2 < (n : Int) := by omega
              go_wp2
              go_big_quiet (fail)
              go_wp2_with fail
              go_region_held3 (fun w' => w'.cell? ⟨g5, n - 16, none⟩ = some (.int .u32 (p16.toNat : Int)) ∧ w'.cell? ⟨g5, n - 7, none⟩ = some (.int .u32 (p7.toNat : Int)))
                (first | exact ⟨c16, c7⟩ | exact ⟨row_cell HKk.out HM16.out, row_cell HKk.out HM7.out⟩ | exact ⟨(World.cell?_alloc_lt _ _ _ (World.block_lt_of_cell? _ _ c16)).trans c16, (World.cell?_alloc_lt _ _ _ (World.block_lt_of_cell? _ _ c7)).trans c7⟩)
                (first
                  | (go_at_call_of 30 (Value.int .i64 25); refine (refTurn_calls _ 25 _ (by omega)).mono ?_; rintro e w5 ⟨rfl, dn1, rfl⟩)
                  | (go_at_call_of 30 (Value.int .i64 14); refine (refTurn_calls _ 14 _ (by omega)).mono ?_; rintro e w5 ⟨rfl, dn2, rfl⟩)
                  | (go_at_call_of 30 (Value.int .i64 15); refine (refTurn_calls _ 15 _ (by omega)).mono ?_; rintro e w5 ⟨rfl, dn3, rfl⟩)
                  | (go_at_call_of 30 (Value.int .i64 13); refine (refTurn_calls _ 13 _ (by omega)).mono ?_; rintro e w5 ⟨rfl, dn4, rfl⟩)
                  | (refine step_appO2 el_w32 wo.heap.size rfl _ _ rfl rfl ((HV.out.drewN _).alloc _) (news := wcells [y]) rfl rfl (by rw [← HZ.out]; exact rowAt_alloc _ _ _) (one_wcells _) (by omega) (by have := HWV.out.size; simp; omega) ?_; intro v1 w6 hown1 hg1 _ hk1 _; have HKk : Box _ := ⟨hk1 _ _ rfl⟩; have HO6 : Box (Own w6 wo.heap.size 1 v1 (n + 1) (wcells (W.take (n + 1)))) := (by refine ⟨?_⟩; rw [HS.out, wcells, List.map_append]; exact hown1); have HB6 : Hid (Below wo.heap.size wo w6) := Own.grown_below ((HV.out.drewN _).alloc _) ((below_drewN HWV.out _).alloc (by simpa using HWV.out.size) _) hg1 (Nat.le_refl _); clear hown1 hg1 hk1))
              go_wp2
              go_roundw
              case rel => first | exact ⟨n + 1, by omega, by go_num, ⟨by rw [HHW.out]; exact HO6.out⟩, HB6.out⟩ | ((repeat apply Exists.intro); exact ⟨⟨n + 1, by omega, by go_num, ⟨by rw [HHW.out]; exact HO6.out⟩, HB6.out⟩, rfl⟩)
              case measure => simp [intOf]; omega
          · obtain rfl : n = 64 := by omega
            go_wp2_with fail
            go_meet
            refine ⟨⟨?_⟩, HWV.out⟩
            have := HV.out
            rwa [List.take_of_length_le (by rw [twoWords_length]; omega)] at this
      case rest =>
        obtain ⟨HV, HWV⟩ := hcut
        obtain ⟨wa, rfl⟩ : ∃ wa : World, wa = wc := ⟨_, rfl⟩
        obtain ⟨g5, cap5, rfl, hgb, hgl, hcap, hrow⟩ := HV.out.form (by omega)
        have HRow : Box _ := ⟨hrow⟩
        clear hrow
        have HNa : Box _ := ⟨HN.out.below HWV.out⟩
        have HKa : Box _ := ⟨HKy.out.below HWV.out⟩
        have HWa : Hid (Below w.heap.size w wa) := HW.out.trans (HWV.out.mono HW.out.size)
        have hRh : RowAt wa (some ⟨w.heap.size, 0, none⟩) (wcells x.cells) := by
          obtain ⟨A', c', e', _, hr', _⟩ := HNa.out.slice
          injection e' with e1 e2 e3
          subst e1
          exact hr'
        have HRh : Box _ := ⟨hRh⟩
        clear hRh
        go_upto_block 4 with (at_builtin; refine appO el_w32 wa.heap.size rfl _ _ rfl (v := .slice none 0 0) (n := 0) (xs := []) rfl (Own.nil _ _ _) rfl (news := wcells x.cells) (by simp [wcells, Eight.cells]) HRh.out (one_wcells _) (by omega) (Nat.le_refl _) ?_; intro v1 wb hown1 hg1 _; obtain ⟨gv, capv, rfl, _, _, _, _⟩ := hown1.form (by omega); have HVb : Box (Own wb wa.heap.size 1 _ 8 (wcells x.cells)) := ⟨by simpa using hown1⟩; have HWb : Hid (Below wa.heap.size wa wb) := (Below.refl _ _).grown hg1 (Nat.le_refl _) (fun j hj => by cases (show (none : Option Nat) = some j from hj)); clear hown1 hg1)
        go_cut [10] from 30 to 204 (fun v wx => ∃ (g cap : Nat) (y : Eight), v = .slice (some ⟨g, 0, none⟩) 8 cap ∧ Box (y = twoRounds (twoWords ((t.data.toList.drop a).take 64) 48) x 64) ∧ Box (Own wx wa.heap.size 1 (.slice (some ⟨g, 0, none⟩) 8 cap) 8 (wcells y.cells)) ∧ Hid (Below wa.heap.size wa wx))
        case first =>
          go_wp2_with fail
          go_loopw [10, 11] (fun v i wr => ∃ (n g cap : Nat) (y : Eight), n ≤ 64 ∧ i = .int .i64 (n : Int) ∧ v = .slice (some ⟨g, 0, none⟩) 8 cap ∧ Box (y = twoRounds (twoWords ((t.data.toList.drop a).take 64) 48) x n) ∧ Box (Own wr wa.heap.size 1 (.slice (some ⟨g, 0, none⟩) 8 cap) 8 (wcells y.cells)) ∧ Hid (Below wa.heap.size wa wr)) (fun _ i _ => 64 - (intOf i).toNat)
          case atStart => exact ⟨0, _, _, x, by omega, rfl, rfl, ⟨rfl⟩, ⟨HVb.out⟩, HWb.out⟩
          case round =>
            obtain ⟨n, gr, cap, y, hn, rfl, rfl, HY, HV, HWr⟩ := hrel
            by_cases hlt2 : n < 64
            · obtain ⟨p, hp⟩ : ∃ p, (twoWords ((t.data.toList.drop a).take 64) 48).getD n 0 = p := ⟨_, rfl⟩
              obtain ⟨q, hq⟩ : ∃ q, twoKeys.getD n 0 = q := ⟨_, rfl⟩
              have m1 := wlist_at (L := twoWords ((t.data.toList.drop a).take 64) 48) (k := n) (by rw [twoWords_length]; omega)
              have m2 := wlist_at (L := twoKeys) (k := n) hlt2
              rw [hp] at m1
              rw [hq] at m2
              have cw := cell_kept HWr.out (Nat.le_refl _) (row_cell HRow.out m1)
              have ck := cell_kept HWr.out (Nat.le_refl _) (HKa.out.cell m2).1
              have HE : Box (twoRounds (twoWords ((t.data.toList.drop a).take 64) 48) x (n + 1) = twoStep q p y) := ⟨by rw [twoRounds, hp, hq, HY.out]⟩
              clear hp hq m1 m2
              obtain ⟨e0, _⟩ := HV.out.cell (j := 0) (u := .int .u32 (y.a.toNat : Int)) rfl
              obtain ⟨e1, _⟩ := HV.out.cell (j := 1) (u := .int .u32 (y.b.toNat : Int)) rfl
              obtain ⟨e2, _⟩ := HV.out.cell (j := 2) (u := .int .u32 (y.c.toNat : Int)) rfl
              obtain ⟨e3, _⟩ := HV.out.cell (j := 3) (u := .int .u32 (y.d.toNat : Int)) rfl
              obtain ⟨e4, _⟩ := HV.out.cell (j := 4) (u := .int .u32 (y.e.toNat : Int)) rfl
              obtain ⟨e5, _⟩ := HV.out.cell (j := 5) (u := .int .u32 (y.f.toNat : Int)) rfl
              obtain ⟨e6, _⟩ := HV.out.cell (j := 6) (u := .int .u32 (y.g.toNat : Int)) rfl
              obtain ⟨e7, _⟩ := HV.out.cell (j := 7) (u := .int .u32 (y.i.toNat : Int)) rfl
              have b9 : (0 : Int) ≤ (n : Int) := by omega
              have b10 : (n : Int) < 64 := by omega
              go_wp2_with fail
              go_big_quiet (fail)
              go_wp2_with fail
              obtain ⟨wq, hwq⟩ : ∃ wq, wr.drewN nq = wq := ⟨_, rfl⟩
              rw [hwq]
              have HVq : Box (Own wq wa.heap.size 1 (.slice (some ⟨gr, 0, none⟩) 8 cap) 8 (wcells y.cells)) := ⟨by rw [← hwq]; exact HV.out.drewN _⟩
              have HWq : Hid (Below wa.heap.size wa wq) := by rw [Hid, ← hwq]; exact below_drewN HWr.out _
              replace cw := cell_turned hwq cw
              replace ck := cell_turned hwq ck
              clear e0 e1 e2 e3 e4 e5 e6 e7 hwq
              obtain ⟨e7, _⟩ := HVq.out.cell (j := 7) (u := .int .u32 (y.i.toNat : Int)) rfl
              obtain ⟨e3, _⟩ := HVq.out.cell (j := 3) (u := .int .u32 (y.d.toNat : Int)) rfl
              go_big_quiet ((first
                | (go_at_call_of 30 (Value.int .i64 26); exact quiet_more (refTurn_calls _ 26 _ (by omega)))
                | (go_at_call_of 30 (Value.int .i64 21); exact quiet_more (refTurn_calls _ 21 _ (by omega)))
                | (go_at_call_of 30 (Value.int .i64 7); exact quiet_more (refTurn_calls _ 7 _ (by omega)))))
              go_wp2_with (first
                | (go_at_call_of 30 (Value.int .i64 30); refine (refTurn_calls _ 30 _ (by omega)).mono ?_; rintro e w' ⟨rfl, d1, rfl⟩)
                | (go_at_call_of 30 (Value.int .i64 19); refine (refTurn_calls _ 19 _ (by omega)).mono ?_; rintro e w' ⟨rfl, d2, rfl⟩)
                | (go_at_call_of 30 (Value.int .i64 10); refine (refTurn_calls _ 10 _ (by omega)).mono ?_; rintro e w' ⟨rfl, d3, rfl⟩))
              go_roundw
              case rel =>
                have hmax : (if IntKind.u32.signed = true then (-1 : Int) else IntKind.u32.max) = IntKind.u32.max := rfl
                refine ⟨n + 1, wq.heap.size, 8, twoStep q p y, by omega, by go_num, rfl, ⟨HE.out.symm⟩, ⟨?_⟩, ?_⟩
                · refine own_fresh8 _ 70 (b0 := twoX y q p + (twoY y + twoZ y)) (b4 := y.d + twoX y q p) rfl ?_ ?_ HWq.out.size
                  all_goals
                    (try simp only [hmax])
                    (try simp only [IntKind.wrap_u32'])
                    (try simp only [w_not'])
                    (try simp only [w_and])
                    (try simp only [w_xor])
                    (try unfold twoX)
                    (try unfold twoY)
                    (try unfold twoZ)
                    simp only [BitVec.toNat_add]
                    omega
                · exact (below_drewN HWq.out _).alloc HWq.out.size _
              case measure => simp [intOf]; omega
            · obtain rfl : n = 64 := by omega
              go_wp2_with fail
              go_meet
              exact ⟨gr, cap, y, rfl, HY, HV, HWr.out⟩
        case rest =>
          obtain ⟨gr, cap, y, rfl, HY, HV, HWr⟩ := hcut
          have HNc : Box _ := ⟨HNa.out.below HWr.out⟩
          have HKc : Box _ := ⟨HKa.out.below HWr.out⟩
          have HWc : Hid (Below w.heap.size w wc) := HWa.out.trans (HWr.out.mono HWa.out.size)
          have hgr : w.heap.size + 1 < gr := by have := (HV.out.lt gr rfl).1; have := (HKa.out.lt (w.heap.size + 1) rfl).2; omega
          have HFin : Box (twoBlocks t.data.toList twoStart (k + 1) = x.add y) := ⟨by rw [twoBlocks, ← HX.out, twoMix, ← HA.out, ← HY.out]⟩
          have HN0 : Box (Own wc w.heap.size 1 (.slice (some ⟨w.heap.size, 0, none⟩) 8 8) 8 (fw (fun j => if j < 0 then x.cells.getD j 0 + y.cells.getD j 0 else x.cells.getD j 0) 8)) := ⟨HNc.out⟩
          go_wp2_with fail
          go_loopw [20] (fun i wr => ∃ n : Nat, n ≤ 8 ∧ i = .int .i64 (n : Int) ∧ Box (Own wr w.heap.size 1 (.slice (some ⟨w.heap.size, 0, none⟩) 8 8) 8 (fw (fun j => if j < n then x.cells.getD j 0 + y.cells.getD j 0 else x.cells.getD j 0) 8)) ∧ Box (Own wr wa.heap.size 1 (.slice (some ⟨gr, 0, none⟩) 8 cap) 8 (wcells y.cells)) ∧ Box (Own wr w.heap.size 1 (.slice (some ⟨w.heap.size + 1, 0, none⟩) 64 64) 64 (wcells twoKeys)) ∧ Hid (Below w.heap.size w wr)) (fun i _ => 8 - (intOf i).toNat)
          case atStart => exact ⟨0, by omega, rfl, HN0, HV, HKc, HWc.out⟩
          case round =>
            obtain ⟨n, hn, rfl, HN, HV, HKy, HW⟩ := hrel
            by_cases hlt2 : n < 8
            · obtain ⟨c0, f0⟩ := HN.out.cell (fw_at _ hlt2)
              simp only [Nat.lt_irrefl, if_false] at c0
              obtain ⟨c1, _⟩ := HV.out.cell (wlist_at (L := y.cells) (k := n) hlt2)
              obtain ⟨p, hp⟩ : ∃ p, x.cells.getD n 0 = p := ⟨_, rfl⟩
              obtain ⟨q, hq⟩ : ∃ q, y.cells.getD n 0 = q := ⟨_, rfl⟩
              rw [hp] at c0
              rw [hq] at c1
              have HPQ : Box (x.cells.getD n 0 + y.cells.getD n 0 = p + q) := ⟨by rw [hp, hq]⟩
              clear hp hq
              have b9 : (0 : Int) ≤ (n : Int) := by omega
              have b10 : (n : Int) < 8 := by omega
              have hne : w.heap.size ≠ gr := by omega
              go_wp2_with fail
              go_region
              go_wp2_with fail
              go_roundw
              case rel =>
                have g := HN.out.set n (by rw [fw_length]; exact hlt2) (.int .u32 ((p + q).toNat : Int))
                rw [fw_set] at g
                refine ⟨n + 1, by omega, by go_num, ⟨?_⟩, ⟨?_⟩, ⟨?_⟩, ?_⟩
                · rw [t_add]
                  have h2 := g.1
                  rw [fw_congr (g := fun j => if j < n + 1 then x.cells.getD j 0 + y.cells.getD j 0 else x.cells.getD j 0) (fun j _ => by
                    by_cases e : j = n
                    · subst e; simp [← HPQ.out]
                    · by_cases e2 : j < n
                      · rw [if_neg e, if_pos e2, if_pos (by omega)]
                      · rw [if_neg e, if_neg e2, if_neg (by omega)])] at h2
                  exact h2.drew
                · rw [t_add]; exact (HV.out.kept g.2 (.inr (by simp [Value.ownBlock]; omega))).drew
                · rw [t_add]; exact (HKy.out.kept g.2 (.inr (by simp [Value.ownBlock]))).drew
                · exact below_drewN (HW.out.setCell (by simp) _) 1
              case measure => simp [intOf]; omega
            · obtain rfl : n = 8 := by omega
              go_wp2_with fail
              go_roundw
              case rel =>
                have hfin : fw (fun j => if j < 8 then x.cells.getD j 0 + y.cells.getD j 0 else x.cells.getD j 0) 8 = wcells (x.add y).cells := rfl
                first
                  | exact ⟨k + 1, a + 64, x.add y, by omega, by go_num, ⟨by have := HA.out; omega⟩, ⟨HFin.out.symm⟩, ⟨by rw [← hfin]; exact HN.out⟩, HKy, HW.out⟩
                  | ((repeat apply Exists.intro); exact ⟨⟨k + 1, a + 64, x.add y, by omega, by go_num, ⟨by have := HA.out; omega⟩, ⟨HFin.out.symm⟩, ⟨by rw [← hfin]; exact HN.out⟩, HKy, HW.out⟩, rfl⟩)
              case measure => simp [intOf]; omega
    · obtain rfl : k = m := by omega
      have ha2 : t.size ≤ a := by have := HA.out; omega
      have hd : decide (a < t.size) = false := by simp; omega
      have hd2 : decide ((a : Int) < (t.size : Int)) = false := by simp; omega
      have HF : Box (twoSum s.data.toList = x.cells.flatMap hi4) := by
        have e : t.data.toList = s.data.toList ++ padL s.size := by rw [← HT.out, ByteArray.data_append, Array.toList_append, ← HPP.out]
        refine ⟨?_⟩
        rw [twoSum, data_length, ← e, data_length, HM.out, Nat.mul_div_cancel_left _ (by omega), HX.out]
      go_wp2
      go_loopw [21, 22] (fun v i wr => ∃ k : Nat, k ≤ 8 ∧ i = .int .i64 (k : Int) ∧ v = .string (outB (x.cells.take k)) ∧ Box (Own wr w.heap.size 1 (.slice (some ⟨w.heap.size, 0, none⟩) 8 8) 8 (wcells x.cells)) ∧ Hid (Below w.heap.size w wr)) (fun _ i _ => 8 - (intOf i).toNat)
      case atStart => exact ⟨0, by omega, rfl, rfl, HN, HW.out⟩
      case round =>
        obtain ⟨k, hk, rfl, rfl, HN, HW⟩ := hrel
        by_cases hlt2 : k < 8
        · obtain ⟨y, hy⟩ : ∃ y, x.cells.getD k 0 = y := ⟨_, rfl⟩
          have h5 : x.cells[k]? = some y := by
            rw [← hy, List.getD_eq_getElem?_getD, List.getElem?_eq_getElem (show k < x.cells.length from hlt2)]; rfl
          obtain ⟨c0, _⟩ := HN.out.cell (wcells_at h5)
          have HX2 : Box (outB (x.cells.take (k + 1)) = outB (x.cells.take k) ++ ⟨(hiL y.toNat 4).toArray⟩) := ⟨by rw [take_snoc_of h5, outB_snoc]⟩
          have hsz : (outB (x.cells.take k)).size ≤ 32 := by rw [outB_size, List.length_take]; omega
          have hy32 : IntKind.u64.wrap (y.toNat : Int) = (y.toNat : Int) := by rw [IntKind.wrap_u64]; have := w_lt y; omega
          have hy33 := w_lt y
          clear hy h5
          go_wp2_with fail
          refine (refHigh_calls y.toNat 4 _ (by omega) (by omega)).mono ?_
          rintro e w7 ⟨rfl, hb7⟩
          have HB7 := Lib.hid (below_trans' HW.out hb7)
          have HN7 : Box _ := ⟨HN.out.below hb7⟩
          clear hb7
          have hq1 : (⟨(hiL y.toNat 4).toArray⟩ : ByteArray).size = 4 := by rw [mk_size, hiL_length]
          obtain ⟨q, hq⟩ : ∃ q, (⟨(hiL y.toNat 4).toArray⟩ : ByteArray) = q := ⟨_, rfl⟩
          have HX3 : Box (outB (x.cells.take (k + 1)) = outB (x.cells.take k) ++ q) := ⟨by rw [HX2.out, hq]⟩
          rw [hq] at hq1 ⊢
          have hq2 : q.size ≤ 4 := by omega
          clear hq1 hq
          go_wp2
          go_roundw
          case rel => first | exact ⟨k + 1, by omega, by go_num, by rw [HX3.out], HN7, HB7.out⟩ | ((repeat apply Exists.intro); exact ⟨⟨k + 1, by omega, by go_num, by rw [HX3.out], HN7, HB7.out⟩, rfl⟩)
          case measure => simp [intOf]; omega
        · obtain rfl : k = 8 := by omega
          go_wp2
          go_ret
          refine ⟨ret_str ?_, HW.out⟩
          rw [HF.out]
          rfl
end Go.Proofs.Ytiocealhadlggaa
