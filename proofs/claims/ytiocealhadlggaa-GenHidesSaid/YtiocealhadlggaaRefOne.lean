/- The reference's SHA-1. -/
import Derived.Test.YtiocealhadlggaaOneSum
import Derived.Test.YtiocealhadlggaaBundle2
import Derived.Deep.CutBlock
import Derived.Deep.CutRange
namespace Go.Proofs.Ytiocealhadlggaa
open Go.RowKit
set_option linter.unusedVariables false

theorem el_w32 : El Try.prog 71 70 1 4 := El.mk' Try.underlying71 (z := .int .u32 0) (by kernel_rfl) (by decide)
theorem word4_int (a b c d : UInt8) : bits BinOp.or IntKind.u32 (bits BinOp.or IntKind.u32 (bits BinOp.or IntKind.u32 ((a.toNat : Int) * 16777216 % 4294967296) ((b.toNat : Int) * 65536 % 4294967296)) ((c.toNat : Int) * 256 % 4294967296)) (d.toNat : Int) = ((word4 a b c d).toNat : Int) := by
  rw [bw_nat a, bw_nat b, bw_nat c, bw_nat d, show (16777216 : Int) = 2 ^ 24 by decide, show (65536 : Int) = 2 ^ 16 by decide, show (256 : Int) = 2 ^ 8 by decide, t_shl, t_shl, t_shl, w_or, w_or, w_or, word4_ref]
theorem u32_byte (b : UInt8) : IntKind.u32.wrap (b.toNat : Int) = (b.toNat : Int) := by
  have := b.toNat_lt; rw [IntKind.wrap_u32']; omega

set_option maxHeartbeats 800000 in
theorem refWord_calls (s : ByteArray) (w : World) (hs : 4 ≤ s.size) : Calls Try.prog 29 #[.string s] w fun e w' => e = .returned (.int .u32 ((word4 (s[0]'(by omega)) (s[1]'(by omega)) (s[2]'(by omega)) (s[3]'(by omega))).toNat : Int)) ∧ ∃ n, w' = w.drewN n := by
  have h0 : 0 < s.size := by omega
  have h1 : 1 < s.size := by omega
  have h2 : 2 < s.size := by omega
  have h3 : 3 < s.size := by omega
  have i0 : (0 : Int) < (s.size : Int) := by omega
  have i1 : (1 : Int) < (s.size : Int) := by omega
  have i2 : (2 : Int) < (s.size : Int) := by omega
  have i3 : (3 : Int) < (s.size : Int) := by omega
  have u0 := u32_byte s[0]
  have u1 := u32_byte s[1]
  have u2 := u32_byte s[2]
  have u3 := u32_byte s[3]

  go_enter Try.func29, Try.ntmps29
  go_wp2_with fail
  go_big_quiet (fail)
  go_wp2
  go_ret
  exact ⟨ret_int (word4_int _ _ _ _), _, rfl⟩

set_option maxHeartbeats 800000 in
theorem refTurn_calls (x : BitVec 32) (k : Nat) (w : World) (hk : k ≤ 32) : Calls Try.prog 30 #[.int .u32 (x.toNat : Int), .int .i64 (k : Int)] w fun e w' => e = .returned (.int .u32 ((turn x k).toNat : Int)) ∧ ∃ n, w' = w.drewN n := by
  have y1 := IntWalk.i64_in (32 - (k : Int)) (by omega)
  have y2 : (32 - (k : Int)).toNat = 32 - k := by omega
  have y3 : (0 : Int) ≤ 32 - (k : Int) := by omega
  have y4 : (k : Int) ≤ 32 := by omega
  go_enter Try.func30, Try.ntmps30
  go_wp2_with fail
  go_big_quiet (fail)
  go_wp2
  go_ret
  exact ⟨ret_int (by rw [t_shl, t_shr, w_or]; rfl), _, rfl⟩

theorem block_word (t : ByteArray) (a k : Nat) (_ha : a + 64 ≤ t.size) (hk : k < 16) (h4 : 4 ≤ (t.extract (a + 4 * k) (a + 4 * k + 4)).size) :
    word4 ((t.extract (a + 4 * k) (a + 4 * k + 4))[0]'(by omega)) ((t.extract (a + 4 * k) (a + 4 * k + 4))[1]'(by omega)) ((t.extract (a + 4 * k) (a + 4 * k + 4))[2]'(by omega)) ((t.extract (a + 4 * k) (a + 4 * k + 4))[3]'(by omega)) = (oneWords ((t.data.toList.drop a).take 64) 64).getD k 0 := by
  rw [oneW_low _ hk]
  have key : ∀ i, (hi : i < 4) → ((t.extract (a + 4 * k) (a + 4 * k + 4))[i]'(by omega)) = ((t.data.toList.drop a).take 64).getD (4 * k + i) 0 := by
    intro i hi
    rw [← getD_str _ i (by omega), extract_list]
    simp only [List.getD_eq_getElem?_getD, List.getElem?_take, List.getElem?_drop]
    rw [if_pos (by omega), if_pos (by omega), Nat.add_assoc]
  rw [key 0 (by omega), key 1 (by omega), key 2 (by omega), key 3 (by omega)]
  rfl

theorem quiet_more {P : Program} {f : FuncId} {args : Array Value} {w : World} {n : Nat} {v : Value}
    (h : Calls P f args (w.drewN n) fun e w' => e = .returned v ∧ ∃ m, w' = (w.drewN n).drewN m) : Calls P f args (w.drewN n) fun e w'' => e = .returned v ∧ ∃ m, w'' = w.drewN m :=
  h.mono fun _ _ ⟨he, m, hm⟩ => ⟨he, n + m, by rw [hm, World.drewN_drewN]⟩
theorem oneF_1 (n : Nat) (b c d : BitVec 32) (h : n < 20) : oneF n b c d = (b &&& c ||| ~~~b &&& d) := by rw [oneF, if_pos h]
theorem oneF_2 (n : Nat) (b c d : BitVec 32) (h : 20 ≤ n) (h2 : n < 40) : oneF n b c d = (b ^^^ c ^^^ d) := by rw [oneF, if_neg (by omega), if_pos h2]
theorem oneF_3 (n : Nat) (b c d : BitVec 32) (h : 40 ≤ n) (h2 : n < 60) : oneF n b c d = (b &&& c ||| b &&& d ||| c &&& d) := by rw [oneF, if_neg (by omega), if_neg (by omega), if_pos h2]
theorem oneF_4 (n : Nat) (b c d : BitVec 32) (h : 60 ≤ n) : oneF n b c d = (b ^^^ c ^^^ d) := by rw [oneF, if_neg (by omega), if_neg (by omega), if_neg (by omega)]
theorem oneK_1 (n : Nat) (h : n < 20) : oneK n = 0x5a827999 := by rw [oneK, if_pos h]
theorem oneK_2 (n : Nat) (h : 20 ≤ n) (h2 : n < 40) : oneK n = 0x6ed9eba1 := by rw [oneK, if_neg (by omega), if_pos h2]
theorem oneK_3 (n : Nat) (h : 40 ≤ n) (h2 : n < 60) : oneK n = 0x8f1bbcdc := by rw [oneK, if_neg (by omega), if_neg (by omega), if_pos h2]
theorem oneK_4 (n : Nat) (h : 60 ≤ n) : oneK n = 0xca62c1d6 := by rw [oneK, if_neg (by omega), if_neg (by omega), if_neg (by omega)]
theorem drewN_of {w wr : World} (h : ∃ q, wr = w.drewN q) (n : Nat) : ∃ q, wr.drewN n = w.drewN q := by
  obtain ⟨q, rfl⟩ := h; exact ⟨q + n, World.drewN_drewN _ _ _⟩
theorem cell_drewN {w wr : World} (h : ∃ q, wr = w.drewN q) {a : Addr} {v : Value} (hc : w.cell? a = some v) : wr.cell? a = some v := by
  obtain ⟨q, rfl⟩ := h; exact hc

set_option maxHeartbeats 3000000 in
set_option maxRecDepth 100000 in
theorem refOne_calls (s : ByteArray) (w : World) (hs : s.size ≤ 1000000) :
    Calls Try.prog 20 #[.string s] w fun e w' => e = .returned (.string ⟨(oneSum s.data.toList).toArray⟩) ∧ Below w.heap.size w w' := by
  go_enter Try.func20, Try.ntmps20
  have HP : Hid (padB (s.size : Int) = ⟨(padL s.size).toArray⟩) := by rw [Hid, padB, if_neg (by omega)]; simp
  go_wp2_with fail
  refine (refPad_calls (s.size : Int) _).mono ?_
  rintro e w2 ⟨rfl, hb2⟩
  have HB2 := Lib.hid ((((Below.refl w.heap.size w).alloc (Nat.le_refl _) (.cells #[.int .u32 1732584193, .int .u32 4023233417, .int .u32 2562383102, .int .u32 271733878, .int .u32 3285377520] 70))).trans (hb2.mono (by simp)))
  have HO := Lib.hid ((Own.fresh w #[.int .u32 1732584193, .int .u32 4023233417, .int .u32 2562383102, .int .u32 271733878, .int .u32 3285377520] 70 (by decide)).below hb2)
  clear hb2
  rw [HP.out]
  have hps : (⟨(padL s.size).toArray⟩ : ByteArray).size = 9 + (119 - s.size % 64) % 64 := by rw [mk_size, padL_length]
  obtain ⟨p, hp⟩ : ∃ p, (⟨(padL s.size).toArray⟩ : ByteArray) = p := ⟨_, rfl⟩
  rw [hp] at hps ⊢
  have HPP := Lib.hid hp; clear hp
  have hp1 : p.size ≤ 72 := by omega
  have hsp : (s ++ p).size = s.size + p.size := ByteArray.size_append
  have hmod : (s.size + p.size) % 64 = 0 := by have := padL_whole s.size; rw [padL_length] at this; omega
  go_wp2
  obtain ⟨t, ht⟩ : ∃ t, s ++ p = t := ⟨_, rfl⟩
  rw [ht] at hsp ⊢
  have HT := Lib.hid ht; clear ht
  obtain ⟨m, hm⟩ : ∃ m, t.size = 64 * m := ⟨t.size / 64, by omega⟩
  have hm1 : m ≤ 20000 := by omega
  have HM := Lib.hid hm
  have ht1 : t.size ≤ 64 * m := by omega
  have ht2 : 64 * m ≤ t.size := by omega
  clear hsp hmod hps hm hp1
  go_loopw [3, 4] (fun v i wr => ∃ (k a g : Nat) (x : Five), k ≤ m ∧ v = .slice (some ⟨g, 0, none⟩) 5 5 ∧ i = .int .i64 (a : Int) ∧ Hid (a = 64 * k) ∧ Hid (x = oneBlocks t.data.toList oneStart k) ∧ Hid (Own wr w.heap.size 1 (.slice (some ⟨g, 0, none⟩) 5 5) 5 (wcells x.cells)) ∧ Hid (Below w.heap.size w wr)) (fun _ i _ => 64 * m - (intOf i).toNat)
  case atStart => exact ⟨0, 0, w.heap.size, oneStart, by omega, rfl, rfl, rfl, rfl, HO.out, HB2.out⟩
  case round =>
    obtain ⟨k, a, g, x, hk, rfl, rfl, HA, HX, HN, HW⟩ := hrel
    by_cases hlt : k < m
    · have ha : a + 64 ≤ t.size := by have := HA.out; omega
      have hd : decide (a < t.size) = true := by simp; omega
      obtain ⟨wo, rfl⟩ : ∃ wo : World, wo = wr := ⟨_, rfl⟩
      go_upto_block 2 with fail
      go_cut [5] from 24 to 178 (fun v wx => Hid (Own wx wo.heap.size 1 v 80 (wcells (oneWords ((t.data.toList.drop a).take 64) 64))) ∧ Hid (Below wo.heap.size wo wx))
      case first =>
        go_wp2_with fail
        go_loopw [5, 6] (fun v i wr => ∃ n : Nat, n ≤ 80 ∧ i = .int .i64 (n : Int) ∧ Hid (Own wr wo.heap.size 1 v n (wcells ((oneWords ((t.data.toList.drop a).take 64) 64).take n))) ∧ Hid (Below wo.heap.size wo wr)) (fun _ i _ => 80 - (intOf i).toNat)
        case atStart => exact ⟨0, by omega, rfl, Own.nil _ _ _, Below.refl _ _⟩
        case round =>
          obtain ⟨n, hn, rfl, HV, HWV⟩ := hrel
          by_cases hlt2 : n < 80
          · obtain ⟨W, hW⟩ : ∃ W, oneWords ((t.data.toList.drop a).take 64) 64 = W := ⟨_, rfl⟩
            have hWl : W.length = 80 := by rw [← hW, oneWords_length]
            have HHW : Box (oneWords ((t.data.toList.drop a).take 64) 64 = W) := ⟨hW⟩
            rw [hW] at HV
            obtain ⟨y, hy⟩ : ∃ y, W.getD n 0 = y := ⟨_, rfl⟩
            have HS : Box (W.take (n + 1) = W.take n ++ [y]) := by
              rw [← hy, List.getD_eq_getElem?_getD, List.getElem?_eq_getElem (by omega)]
              exact ⟨take_snoc_of (List.getElem?_eq_getElem (by omega))⟩
            by_cases h16 : n < 16
            · have h4 : 4 ≤ (t.extract (a + 4 * n) (a + 4 * n + 4)).size := by rw [ByteArray.size_extract]; omega
              have HWC : Box (∀ W' : World, Calls Try.prog 29 #[.string (t.extract (a + 4 * n) (a + 4 * n + 4))] W' fun e w' => e = .returned (.int .u32 (y.toNat : Int)) ∧ ∃ n, w' = W'.drewN n) := by
                refine ⟨fun W' => ?_⟩
                have h := refWord_calls (t.extract (a + 4 * n) (a + 4 * n + 4)) W' h4
                rw [block_word t a n ha h16 h4, hW, hy] at h
                exact h
              clear hW hWl h4 hy
              go_wp2_with (first
                | (go_at_call 29; refine Calls.mono (HWC.out _) ?_; rintro e w5 ⟨rfl, dn, rfl⟩)
                | (at_builtin; refine appO el_w32 wo.heap.size rfl _ _ rfl rfl ((HV.out.drewN _).alloc _) (news := wcells [y]) rfl rfl (rowAt_alloc _ (wcells [y]) _) (one_wcells _) (by omega) (by have := HWV.out.size; simp; omega) ?_; intro v1 w6 hown1 hg1 _; have HO6 : Hid (Own w6 wo.heap.size 1 v1 (n + 1) (wcells (W.take (n + 1)))) := (by rw [HS.out, wcells, List.map_append]; exact hown1); have HB6 : Hid (Below wo.heap.size wo w6) := Own.grown_below ((HV.out.drewN dn).alloc _) ((below_drewN HWV.out dn).alloc (by simpa using HWV.out.size) _) hg1 (Nat.le_refl _); clear hown1 hg1))
              go_roundw
              case rel => first | exact ⟨n + 1, by omega, by go_num, by rw [HHW.out]; exact HO6.out, HB6.out⟩ | ((repeat apply Exists.intro); exact ⟨⟨n + 1, by omega, by go_num, by rw [HHW.out]; exact HO6.out, HB6.out⟩, rfl⟩)
              case measure => simp [intOf]; omega
            · have hn0 : 0 < n := by omega
              obtain ⟨g5, cap5, rfl, hgb, hgl, hcap, hrow⟩ := HV.out.form hn0
              have at_ : ∀ d, 0 < d → d ≤ 16 → (W.take n)[n - d]? = some (W.getD (n - d) 0) := by
                intro d h1 h2
                rw [List.getElem?_take, if_pos (by omega), List.getD_eq_getElem?_getD, List.getElem?_eq_getElem (by omega)]; rfl
              have m3 := wcells_at (at_ 3 (by omega) (by omega))
              have m8 := wcells_at (at_ 8 (by omega) (by omega))
              have m14 := wcells_at (at_ 14 (by omega) (by omega))
              have m16 := wcells_at (at_ 16 (by omega) (by omega))
              have hyy : y = turn (W.getD (n - 3) 0 ^^^ W.getD (n - 8) 0 ^^^ W.getD (n - 14) 0 ^^^ W.getD (n - 16) 0) 1 := by
                rw [← hy, ← hW]; exact oneW_high _ (by omega) hlt2
              obtain ⟨p3, e3⟩ : ∃ p, W.getD (n - 3) 0 = p := ⟨_, rfl⟩
              obtain ⟨p8, e8⟩ : ∃ p, W.getD (n - 8) 0 = p := ⟨_, rfl⟩
              obtain ⟨p14, e14⟩ : ∃ p, W.getD (n - 14) 0 = p := ⟨_, rfl⟩
              obtain ⟨p16, e16⟩ : ∃ p, W.getD (n - 16) 0 = p := ⟨_, rfl⟩
              rw [e3, e8, e14, e16] at hyy
              rw [e3] at m3
              rw [e8] at m8
              rw [e14] at m14
              rw [e16] at m16
              have c3 := row_cell hrow m3
              have c8 := row_cell hrow m8
              have c14 := row_cell hrow m14
              have c16 := row_cell hrow m16
              have HM3 : Box _ := ⟨m3⟩
              have HM8 : Box _ := ⟨m8⟩
              have HM14 : Box _ := ⟨m14⟩
              have HM16 : Box _ := ⟨m16⟩
              have HC : Box (∀ W : World, Calls Try.prog 30 #[.int .u32 (bits .xor .u32 (bits .xor .u32 (bits .xor .u32 (p3.toNat : Int) (p8.toNat : Int)) (p14.toNat : Int)) (p16.toNat : Int)), .int .i64 1] W fun e w' => e = .returned (.int .u32 (y.toNat : Int)) ∧ ∃ n, w' = W.drewN n) := by
                refine ⟨fun W => ?_⟩
                rw [w_xor, w_xor, w_xor, hyy]
                exact refTurn_calls _ 1 W (by omega)
              clear e3 e8 e14 e16 hyy hy hW hWl at_ m3 m8 m14 m16 hrow
              have y1 := IntWalk.i64_in ((n : Int) - 3) (by omega)
              have y2 := IntWalk.i64_in ((n : Int) - 8) (by omega)
              have y3 := IntWalk.i64_in ((n : Int) - 14) (by omega)
              have y4 := IntWalk.i64_in ((n : Int) - 16) (by omega)
              have z1 : ((n : Int) - 3).toNat = n - 3 := by omega
              have z2 : ((n : Int) - 8).toNat = n - 8 := by omega
              have z3 : ((n : Int) - 14).toNat = n - 14 := by omega
              have z4 : ((n : Int) - 16).toNat = n - 16 := by omega
              have b1 : (0 : Int) ≤ (n : Int) - 3 := by omega
              have b2 : (0 : Int) ≤ (n : Int) - 8 := by omega
              have b3 : (0 : Int) ≤ (n : Int) - 14 := by omega
              have b4 : (0 : Int) ≤ (n : Int) - 16 := by omega
              have a1 : (3 : Int) ≤ (n : Int) := by omega
              have a2 : (8 : Int) ≤ (n : Int) := by omega
              have a3 : (14 : Int) ≤ (n : Int) := by omega
              have a4 : (16 : Int) ≤ (n : Int) := by omega
              have b5 : (n : Int) - 3 < (n : Int) := by omega
              have b6 : (n : Int) - 8 < (n : Int) := by omega
              have b7 : (n : Int) - 14 < (n : Int) := by omega
              have b8 : (n : Int) - 16 < (n : Int) := by omega
              go_wp2
              go_region_held3 (fun w' => w'.cell? ⟨g5, n - 3, none⟩ = some (.int .u32 (p3.toNat : Int)) ∧ w'.cell? ⟨g5, n - 8, none⟩ = some (.int .u32 (p8.toNat : Int)) ∧ w'.cell? ⟨g5, n - 14, none⟩ = some (.int .u32 (p14.toNat : Int)) ∧ w'.cell? ⟨g5, n - 16, none⟩ = some (.int .u32 (p16.toNat : Int)))
                (first | exact ⟨c3, c8, c14, c16⟩ | exact ⟨row_cell HK.out HM3.out, row_cell HK.out HM8.out, row_cell HK.out HM14.out, row_cell HK.out HM16.out⟩ | exact ⟨(World.cell?_alloc_lt _ _ _ (World.block_lt_of_cell? _ _ c3)).trans c3, (World.cell?_alloc_lt _ _ _ (World.block_lt_of_cell? _ _ c8)).trans c8, (World.cell?_alloc_lt _ _ _ (World.block_lt_of_cell? _ _ c14)).trans c14, (World.cell?_alloc_lt _ _ _ (World.block_lt_of_cell? _ _ c16)).trans c16⟩)
                (first
                  | (go_at_call 30; refine Calls.mono (HC.out _) ?_; rintro e w5 ⟨rfl, dn, rfl⟩)
                  | (refine step_appO2 el_w32 wo.heap.size rfl _ _ rfl rfl ((HV.out.drewN (1 + dn)).alloc _) (news := wcells [y]) rfl rfl (rowAt_alloc _ (wcells [y]) _) (one_wcells _) (by omega) (by have := HWV.out.size; simp; omega) ?_; intro v1 w6 hown1 hg1 _ hk1 _; have HK : Box _ := ⟨hk1 _ _ rfl⟩; have HO6 : Hid (Own w6 wo.heap.size 1 v1 (n + 1) (wcells (W.take (n + 1)))) := (by rw [HS.out, wcells, List.map_append]; exact hown1); have HB6 : Hid (Below wo.heap.size wo w6) := Own.grown_below ((HV.out.drewN (1 + dn)).alloc _) ((below_drewN HWV.out (1 + dn)).alloc (by simpa using HWV.out.size) _) hg1 (Nat.le_refl _); clear hown1 hg1 hk1))
              go_wp2
              go_roundw
              case rel => first | exact ⟨n + 1, by omega, by go_num, by rw [HHW.out]; exact HO6.out, HB6.out⟩ | ((repeat apply Exists.intro); exact ⟨⟨n + 1, by omega, by go_num, by rw [HHW.out]; exact HO6.out, HB6.out⟩, rfl⟩)
              case measure => simp [intOf]; omega
          · obtain rfl : n = 80 := by omega
            go_wp2_with fail
            go_meet
            refine ⟨?_, HWV.out⟩
            have := HV.out
            rwa [List.take_of_length_le (by rw [oneWords_length]; omega)] at this
      case rest =>
        obtain ⟨HV, HWV⟩ := hcut
        obtain ⟨wa, rfl⟩ : ∃ wa : World, wa = wc := ⟨_, rfl⟩
        obtain ⟨g5, cap5, rfl, hgb, hgl, hcap, hrow⟩ := HV.out.form (by omega)
        have HN1 := Lib.hid (HN.out.below HWV.out)
        have HRow : Box _ := ⟨hrow⟩
        clear hrow
        obtain ⟨c0, _⟩ := HN1.out.cell (j := 0) (u := .int .u32 (x.a.toNat : Int)) rfl
        obtain ⟨c1, _⟩ := HN1.out.cell (j := 1) (u := .int .u32 (x.b.toNat : Int)) rfl
        obtain ⟨c2, _⟩ := HN1.out.cell (j := 2) (u := .int .u32 (x.c.toNat : Int)) rfl
        obtain ⟨c3, _⟩ := HN1.out.cell (j := 3) (u := .int .u32 (x.d.toNat : Int)) rfl
        obtain ⟨c4, _⟩ := HN1.out.cell (j := 4) (u := .int .u32 (x.e.toNat : Int)) rfl
        go_wp2_with fail
        go_big_quiet (fail)
        obtain ⟨wq, hwq⟩ : ∃ wq, wq = wa.drewN nq := ⟨_, rfl⟩
        have HQ : Box (∃ q, wq = wa.drewN q) := ⟨⟨_, hwq⟩⟩
        rw [← hwq]
        clear hwq
        go_upto_block 4 with fail
        go_cut [7, 8, 9, 10, 11] from 24 to 178 (fun va vb vc vd ve wx => ∃ y : Five, va = .int .u32 (y.a.toNat : Int) ∧ vb = .int .u32 (y.b.toNat : Int) ∧ vc = .int .u32 (y.c.toNat : Int) ∧ vd = .int .u32 (y.d.toNat : Int) ∧ ve = .int .u32 (y.e.toNat : Int) ∧ Box (y = oneRounds (oneWords ((t.data.toList.drop a).take 64) 64) x 80) ∧ Box (∃ q, wx = wa.drewN q))
        case first =>
          clear c0 c1 c2 c3 c4
          go_wp2_with fail
          go_loopw [7, 8, 9, 10, 11, 12] (fun va vb vc vd ve i wr => ∃ (n : Nat) (y : Five), n ≤ 80 ∧ i = .int .i64 (n : Int) ∧ va = .int .u32 (y.a.toNat : Int) ∧ vb = .int .u32 (y.b.toNat : Int) ∧ vc = .int .u32 (y.c.toNat : Int) ∧ vd = .int .u32 (y.d.toNat : Int) ∧ ve = .int .u32 (y.e.toNat : Int) ∧ Box (y = oneRounds (oneWords ((t.data.toList.drop a).take 64) 64) x n) ∧ Box (∃ q, wr = wa.drewN q)) (fun _ _ _ _ _ i _ => 80 - (intOf i).toNat)
          case atStart => exact ⟨0, x, by omega, rfl, rfl, rfl, rfl, rfl, rfl, ⟨rfl⟩, HQ⟩
          case round =>
            obtain ⟨n, y, hn, rfl, rfl, rfl, rfl, rfl, rfl, HY, HQ⟩ := hrel
            by_cases hlt2 : n < 80
            · obtain ⟨p, hp⟩ : ∃ p, (oneWords ((t.data.toList.drop a).take 64) 64).getD n 0 = p := ⟨_, rfl⟩
              have hc : wr.cell? ⟨g5, n, none⟩ = some (.int .u32 (p.toNat : Int)) := by
                refine cell_drewN HQ.out (row_cell HRow.out (wcells_at ?_))
                rw [← hp, List.getD_eq_getElem?_getD, List.getElem?_eq_getElem (by rw [oneWords_length]; omega)]; rfl
              have HE : Box (oneRounds (oneWords ((t.data.toList.drop a).take 64) 64) x (n + 1) = oneStep n p y) := ⟨by rw [oneRounds, hp, HY.out]⟩
              clear hp
              have b9 : (0 : Int) ≤ (n : Int) := by omega
              have b10 : (n : Int) < 80 := by omega
              by_cases r1 : n < 20
              · have HF : Box (oneF n y.b y.c y.d = _) := ⟨oneF_1 n _ _ _ r1⟩
                have HK : Box (oneK n = _) := ⟨oneK_1 n r1⟩
                go_wp2
                go_quiet ((go_at_call 30; exact quiet_more (refTurn_calls _ 5 _ (by omega))))
                go_wp2_with (go_at_call 30; refine (refTurn_calls _ 30 _ (by omega)).mono ?_; rintro e w' ⟨rfl, dn, rfl⟩)
                go_roundw
                case rel =>
                  first
                    | exact ⟨n + 1, oneStep n p y, by omega, by go_num, val_int (by rw [w_and, w_not', w_and, w_or, oneStep, HF.out, HK.out, ← t_add5]; rfl), rfl, rfl, rfl, rfl, ⟨HE.out.symm⟩, ⟨by first | exact drewN_of HQ.out _ | exact drewN_of (drewN_of HQ.out _) _⟩⟩
                    | ((repeat apply Exists.intro); exact ⟨⟨n + 1, oneStep n p y, by omega, by go_num, val_int (by rw [w_and, w_not', w_and, w_or, oneStep, HF.out, HK.out, ← t_add5]; rfl), rfl, rfl, rfl, rfl, ⟨HE.out.symm⟩, ⟨by first | exact drewN_of HQ.out _ | exact drewN_of (drewN_of HQ.out _) _⟩⟩, rfl⟩)
                case measure => simp [intOf]; omega
              by_cases r2 : n < 40
              · have r1' : 20 ≤ n := by omega
                have HF : Box (oneF n y.b y.c y.d = _) := ⟨oneF_2 n _ _ _ r1' r2⟩
                have HK : Box (oneK n = _) := ⟨oneK_2 n r1' r2⟩
                go_wp2
                go_quiet ((go_at_call 30; exact quiet_more (refTurn_calls _ 5 _ (by omega))))
                go_wp2_with (go_at_call 30; refine (refTurn_calls _ 30 _ (by omega)).mono ?_; rintro e w' ⟨rfl, dn, rfl⟩)
                go_roundw
                case rel =>
                  first
                    | exact ⟨n + 1, oneStep n p y, by omega, by go_num, val_int (by rw [w_xor, w_xor, oneStep, HF.out, HK.out, ← t_add5]; rfl), rfl, rfl, rfl, rfl, ⟨HE.out.symm⟩, ⟨by first | exact drewN_of HQ.out _ | exact drewN_of (drewN_of HQ.out _) _⟩⟩
                    | ((repeat apply Exists.intro); exact ⟨⟨n + 1, oneStep n p y, by omega, by go_num, val_int (by rw [w_xor, w_xor, oneStep, HF.out, HK.out, ← t_add5]; rfl), rfl, rfl, rfl, rfl, ⟨HE.out.symm⟩, ⟨by first | exact drewN_of HQ.out _ | exact drewN_of (drewN_of HQ.out _) _⟩⟩, rfl⟩)
                case measure => simp [intOf]; omega
              by_cases r3 : n < 60
              · have r2' : 40 ≤ n := by omega
                have HF : Box (oneF n y.b y.c y.d = _) := ⟨oneF_3 n _ _ _ r2' r3⟩
                have HK : Box (oneK n = _) := ⟨oneK_3 n r2' r3⟩
                go_wp2
                go_quiet ((go_at_call 30; exact quiet_more (refTurn_calls _ 5 _ (by omega))))
                go_wp2_with (go_at_call 30; refine (refTurn_calls _ 30 _ (by omega)).mono ?_; rintro e w' ⟨rfl, dn, rfl⟩)
                go_roundw
                case rel =>
                  first
                    | exact ⟨n + 1, oneStep n p y, by omega, by go_num, val_int (by rw [w_and, w_and, w_and, w_or, w_or, oneStep, HF.out, HK.out, ← t_add5]; rfl), rfl, rfl, rfl, rfl, ⟨HE.out.symm⟩, ⟨by first | exact drewN_of HQ.out _ | exact drewN_of (drewN_of HQ.out _) _⟩⟩
                    | ((repeat apply Exists.intro); exact ⟨⟨n + 1, oneStep n p y, by omega, by go_num, val_int (by rw [w_and, w_and, w_and, w_or, w_or, oneStep, HF.out, HK.out, ← t_add5]; rfl), rfl, rfl, rfl, rfl, ⟨HE.out.symm⟩, ⟨by first | exact drewN_of HQ.out _ | exact drewN_of (drewN_of HQ.out _) _⟩⟩, rfl⟩)
                case measure => simp [intOf]; omega
              · have r3' : 60 ≤ n := by omega
                have HF : Box (oneF n y.b y.c y.d = _) := ⟨oneF_4 n _ _ _ r3'⟩
                have HK : Box (oneK n = _) := ⟨oneK_4 n r3'⟩
                go_wp2
                go_quiet ((go_at_call 30; exact quiet_more (refTurn_calls _ 5 _ (by omega))))
                go_wp2_with (go_at_call 30; refine (refTurn_calls _ 30 _ (by omega)).mono ?_; rintro e w' ⟨rfl, dn, rfl⟩)
                go_roundw
                case rel =>
                  first
                    | exact ⟨n + 1, oneStep n p y, by omega, by go_num, val_int (by rw [w_xor, w_xor, oneStep, HF.out, HK.out, ← t_add5]; rfl), rfl, rfl, rfl, rfl, ⟨HE.out.symm⟩, ⟨by first | exact drewN_of HQ.out _ | exact drewN_of (drewN_of HQ.out _) _⟩⟩
                    | ((repeat apply Exists.intro); exact ⟨⟨n + 1, oneStep n p y, by omega, by go_num, val_int (by rw [w_xor, w_xor, oneStep, HF.out, HK.out, ← t_add5]; rfl), rfl, rfl, rfl, rfl, ⟨HE.out.symm⟩, ⟨by first | exact drewN_of HQ.out _ | exact drewN_of (drewN_of HQ.out _) _⟩⟩, rfl⟩)
                case measure => simp [intOf]; omega
            · obtain rfl : n = 80 := by omega
              go_wp2_with fail
              go_meet
              exact ⟨y, rfl, rfl, rfl, rfl, rfl, HY, HQ⟩
        case rest =>
          obtain ⟨y, rfl, rfl, rfl, rfl, rfl, HY, HQ⟩ := hcut
          have HN2 : Box (Own wc w.heap.size 1 (.slice (some ⟨g, 0, none⟩) 5 5) 5 (wcells x.cells)) := by
            obtain ⟨q, rfl⟩ := HQ.out
            exact ⟨HN1.out.drewN q⟩
          have HW2 : Box (Below w.heap.size w wc) := by
            obtain ⟨q, rfl⟩ := HQ.out
            exact ⟨below_drewN (HW.out.trans (HWV.out.mono HW.out.size)) q⟩
          clear c0 c1 c2 c3 c4
          obtain ⟨c0, _⟩ := HN2.out.cell (j := 0) (u := .int .u32 (x.a.toNat : Int)) rfl
          obtain ⟨c1, _⟩ := HN2.out.cell (j := 1) (u := .int .u32 (x.b.toNat : Int)) rfl
          obtain ⟨c2, _⟩ := HN2.out.cell (j := 2) (u := .int .u32 (x.c.toNat : Int)) rfl
          obtain ⟨c3, _⟩ := HN2.out.cell (j := 3) (u := .int .u32 (x.d.toNat : Int)) rfl
          obtain ⟨c4, _⟩ := HN2.out.cell (j := 4) (u := .int .u32 (x.e.toNat : Int)) rfl
          have hFin : Box (oneBlocks t.data.toList oneStart (k + 1) = x.add y) := ⟨by rw [oneBlocks, ← HX.out, oneMix, ← HA.out, ← HY.out]⟩
          go_wp2_with fail
          go_region_held3 (fun w' => w'.cell? ⟨g, 0, none⟩ = some (.int .u32 (x.a.toNat : Int)) ∧ w'.cell? ⟨g, 1, none⟩ = some (.int .u32 (x.b.toNat : Int)) ∧ w'.cell? ⟨g, 2, none⟩ = some (.int .u32 (x.c.toNat : Int)) ∧ w'.cell? ⟨g, 3, none⟩ = some (.int .u32 (x.d.toNat : Int)) ∧ w'.cell? ⟨g, 4, none⟩ = some (.int .u32 (x.e.toNat : Int)))
            (first | exact ⟨c0, c1, c2, c3, c4⟩ | exact ⟨(World.cell?_alloc_lt _ _ _ (World.block_lt_of_cell? _ _ c0)).trans c0, (World.cell?_alloc_lt _ _ _ (World.block_lt_of_cell? _ _ c1)).trans c1, (World.cell?_alloc_lt _ _ _ (World.block_lt_of_cell? _ _ c2)).trans c2, (World.cell?_alloc_lt _ _ _ (World.block_lt_of_cell? _ _ c3)).trans c3, (World.cell?_alloc_lt _ _ _ (World.block_lt_of_cell? _ _ c4)).trans c4⟩) (fail)
          go_wp2_with fail
          go_roundw
          case rel =>
            have hO := (Own.fresh wc (wcells (x.add y).cells).toArray 70 (by simp [wcells, Five.cells, maxLen])).weaken HW2.out.size
            refine ⟨k + 1, a + 64, wc.heap.size, x.add y, by omega, rfl, by go_num, by have := HA.out; rw [Hid]; omega, hFin.out.symm, ?_, ?_⟩
            · rw [t_add x.a, t_add x.b, t_add x.c, t_add x.d, t_add x.e]
              exact Own.drew hO
            · exact below_drewN (HW2.out.alloc HW2.out.size _) 1
          case measure => simp [intOf]; omega
    · obtain rfl : k = m := by omega
      have ha2 : t.size ≤ a := by have := HA.out; omega
      have hd : decide (a < t.size) = false := by simp; omega
      have hd2 : decide ((a : Int) < (t.size : Int)) = false := by simp; omega
      have HF : Box (oneSum s.data.toList = x.cells.flatMap hi4) := by
        have e : t.data.toList = s.data.toList ++ padL s.size := by rw [← HT.out, ByteArray.data_append, Array.toList_append, ← HPP.out]
        refine ⟨?_⟩
        rw [oneSum, data_length, ← e, data_length, HM.out, Nat.mul_div_cancel_left _ (by omega), HX.out]
      go_wp2
      go_loopw [16, 17] (fun v i wr => ∃ k : Nat, k ≤ 5 ∧ i = .int .i64 (k : Int) ∧ v = .string (outB (x.cells.take k)) ∧ Hid (Own wr w.heap.size 1 (.slice (some ⟨g, 0, none⟩) 5 5) 5 (wcells x.cells)) ∧ Hid (Below w.heap.size w wr)) (fun _ i _ => 5 - (intOf i).toNat)
      case atStart => exact ⟨0, by omega, rfl, rfl, HN.out, HW.out⟩
      case round =>
        obtain ⟨k, hk, rfl, rfl, HN, HW⟩ := hrel
        by_cases hlt2 : k < 5
        · obtain ⟨y, hy⟩ : ∃ y, x.cells.getD k 0 = y := ⟨_, rfl⟩
          have h5 : x.cells[k]? = some y := by
            rw [← hy, List.getD_eq_getElem?_getD, List.getElem?_eq_getElem (show k < x.cells.length from hlt2)]; rfl
          obtain ⟨c0, _⟩ := HN.out.cell (wcells_at h5)
          have HX2 : Box (outB (x.cells.take (k + 1)) = outB (x.cells.take k) ++ ⟨(hiL y.toNat 4).toArray⟩) := ⟨by rw [take_snoc_of h5, outB_snoc]⟩
          have hsz : (outB (x.cells.take k)).size ≤ 20 := by rw [outB_size, List.length_take]; omega
          have hy32 : IntKind.u64.wrap (y.toNat : Int) = (y.toNat : Int) := by rw [IntKind.wrap_u64]; have := w_lt y; omega
          have hy33 := w_lt y
          clear hy h5
          go_wp2_with fail
          refine (refHigh_calls y.toNat 4 _ (by omega) (by omega)).mono ?_
          rintro e w7 ⟨rfl, hb7⟩
          have HB7 := Lib.hid (below_trans' HW.out hb7)
          have HN7 := Lib.hid (HN.out.below hb7)
          clear hb7
          have hq1 : (⟨(hiL y.toNat 4).toArray⟩ : ByteArray).size = 4 := by rw [mk_size, hiL_length]
          obtain ⟨q, hq⟩ : ∃ q, (⟨(hiL y.toNat 4).toArray⟩ : ByteArray) = q := ⟨_, rfl⟩
          have HX3 : Box (outB (x.cells.take (k + 1)) = outB (x.cells.take k) ++ q) := ⟨by rw [HX2.out, hq]⟩
          rw [hq] at hq1 ⊢
          have hq2 : q.size ≤ 4 := by omega
          clear hq1 hq
          go_wp2
          go_roundw
          case rel => first | exact ⟨k + 1, by omega, by go_num, by rw [HX3.out], HN7.out, HB7.out⟩ | ((repeat apply Exists.intro); exact ⟨⟨k + 1, by omega, by go_num, by rw [HX3.out], HN7.out, HB7.out⟩, rfl⟩)
          case measure => simp [intOf]; omega
        · obtain rfl : k = 5 := by omega
          go_wp2
          go_ret
          refine ⟨ret_str ?_, HW.out⟩
          rw [HF.out]
          rfl
end Go.Proofs.Ytiocealhadlggaa
