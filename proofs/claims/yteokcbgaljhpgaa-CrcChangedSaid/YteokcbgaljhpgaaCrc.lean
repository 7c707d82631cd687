/- crc.half, Of, and the reference's sum. -/
import Derived.Test.YteokcbgaljhpgaaArr
import Derived.Test.YteokcbgaljhpgaaCrcPure
import Derived.Test.YteokcbgaljhpgaaOwn2
namespace Go.Proofs.Yteokcbgaljhpgaa
open Go.RowKit

theorem u32_byte' (b : UInt8) : IntKind.u32.wrap (b.toNat : Int) = (b.toNat : Int) := by
  have := b.toNat_lt; rw [IntKind.wrap_u32']; omega
theorem crcBit_odd {z : BitVec 32} (h : z.toNat % 2 = 1) : ((crcBit z).toNat : Int) = bits BinOp.xor IntKind.u32 ((z >>> 1).toNat : Int) 3988292384 := by
  have h0 : z.getLsbD 0 = true := by rw [BitVec.getLsbD, Nat.testBit_zero]; simp [h]
  have e : (3988292384 : Int) = (crcPoly.toNat : Int) := by decide
  rw [crcBit, h0, if_pos rfl, e, w_xor]
theorem crcBit_even {z : BitVec 32} (h : z.toNat % 2 = 0) : crcBit z = z >>> 1 := by
  have h0 : z.getLsbD 0 = false := by rw [BitVec.getLsbD, Nat.testBit_zero]; simp [h]
  rw [crcBit, h0]; simp
theorem w_shr1 (z : BitVec 32) : (z.toNat : Int) / (2 : Int) = ((z >>> 1).toNat : Int) := by
  have h := t_shr z 1
  rw [show (2 : Int) ^ 1 = (2 : Int) by decide] at h
  exact h
theorem w_wrap (z : BitVec 32) : IntKind.u32.wrap (z.toNat : Int) = (z.toNat : Int) := by rw [IntKind.wrap_u32']; have := w_lt z; omega
theorem w_one (z : BitVec 32) : bits BinOp.and IntKind.u32 (z.toNat : Int) 1 = ((z.toNat % 2 : Nat) : Int) := by
  have e : (1 : Int) = ((1 : BitVec 32).toNat : Int) := by decide
  rw [e, w_and, BitVec.toNat_and]
  have : (1 : BitVec 32).toNat = 1 := by decide
  rw [this, Nat.and_one_is_mod]

set_option maxHeartbeats 1600000 in
theorem refCrc_calls (s : ByteArray) (w : World) (hs : s.size ≤ 4000000000000000000) : Calls Try.prog 26 #[.string s] w fun e w' => e = .returned (.int .u32 ((crcSum s.data.toList).toNat : Int)) ∧ w = w' := by
  go_enter Try.func26, Try.ntmps26
  go_wp2
  go_loop [3, 4] (fun x i => ∃ (k : Nat) (y : BitVec 32), k ≤ s.size ∧ i = .int .i64 (k : Int) ∧ x = .int .u32 (y.toNat : Int) ∧ Box (y = crcGo (BitVec.allOnes 32) (s.data.toList.take k))) (fun _ i => s.size - (intOf i).toNat)
  case atStart => exact ⟨0, BitVec.allOnes 32, by omega, rfl, rfl, ⟨rfl⟩⟩
  case round =>
    obtain ⟨k, y, hk, rfl, rfl, HY⟩ := hrel
    by_cases hlt : k < s.size
    · have hx0 := u32_byte' s[k]
      have hxx : bits BinOp.xor IntKind.u32 (y.toNat : Int) (s[k].toNat : Int) = ((y ^^^ bw s[k]).toNat : Int) := by rw [bw_nat, w_xor]
      have HN : Box (crcGo (BitVec.allOnes 32) (s.data.toList.take (k + 1)) = crcBits 8 (y ^^^ bw s[k])) := ⟨by rw [take_snoc_str s k hlt, crcGo_snoc, ← HY.out]; rfl⟩
      go_wp2
      go_loop [3, 5] (fun x i => ∃ (n : Nat) (z : BitVec 32), n ≤ 8 ∧ i = .int .i64 (n : Int) ∧ x = .int .u32 (z.toNat : Int) ∧ Box (z = crcBits n (y ^^^ bw s[k]))) (fun _ i => 8 - (intOf i).toNat)
      case atStart => exact ⟨0, _, by omega, rfl, rfl, ⟨rfl⟩⟩
      case round =>
        obtain ⟨n, z, hn, rfl, rfl, HZ⟩ := hrel
        clear hx0 hxx
        by_cases hlt2 : n < 8
        · have HE1 : Box _ := ⟨w_shr1 z⟩
          by_cases hodd : z.toNat % 2 = 1
          · have o1 : (z.toNat : Int) % 2 = 1 := by omega
            have o2 : (z.toNat : Int).tmod 2 = 1 := by rw [Int.tmod_eq_emod_of_nonneg (by omega)]; omega
            have e3 : Box _ := ⟨(crcBit_odd hodd).symm⟩
            clear hodd
            go_wp2
            go_round
            case rel => exact ⟨n + 1, crcBit z, by omega, by go_num, val_int (by rw [HE1.out]; exact e3.out), ⟨by rw [crcBits, ← HZ.out]⟩⟩
            case measure => simp [intOf]; omega
          · have hev : z.toNat % 2 = 0 := by omega
            have o1 : (z.toNat : Int) % 2 = 0 := by omega
            have o2 : (z.toNat : Int).tmod 2 = 0 := by rw [Int.tmod_eq_emod_of_nonneg (by omega)]; omega
            have e3 : Box (crcBit z = z >>> 1) := ⟨crcBit_even hev⟩
            clear hev hodd
            go_wp2
            go_round
            case rel => exact ⟨n + 1, z >>> 1, by omega, by go_num, val_int HE1.out, ⟨by rw [crcBits, ← HZ.out, e3.out]⟩⟩
            case measure => simp [intOf]; omega
        · obtain rfl : n = 8 := by omega
          go_wp2
          go_round
          case rel => first | exact ⟨k + 1, z, by omega, by go_num, rfl, ⟨by rw [HN.out, HZ.out]⟩⟩ | ((repeat apply Exists.intro); exact ⟨⟨k + 1, z, by omega, by go_num, rfl, ⟨by rw [HN.out, HZ.out]⟩⟩, rfl⟩)
          case measure => simp [intOf]; omega
    · have HNot : Box _ := ⟨w_not' y⟩
      have HF : Box (crcSum s.data.toList = ~~~ y) := ⟨by rw [crcSum, HY.out, List.take_of_length_le (by rw [data_length]; omega)]⟩
      go_wp2
      go_ret
      exact ⟨ret_int (by rw [HF.out]; exact HNot.out), rfl⟩

/-- The table of four bits. -/
def crcTab (i : Nat) : BitVec 32 := crcBits 4 (BitVec.ofNat 32 i)
set_option maxHeartbeats 3200000 in
set_option maxRecDepth 100000 in
theorem half_calls (w : World) : Calls Try.prog 65 #[] w fun e w' => e = .returned (.agg (fw crcTab 16).toArray) ∧ Below w.heap.size w w' := by
  have HI : Box (ArrAt w ((w.alloc (.cells (fw (fun _ => 0) 16).toArray 92)).alloc (.cells (fw (fun _ => 0) 16).toArray 92)) 16 (fun j => if j < 0 then crcTab j else 0)) := by
    refine ⟨⟨((Below.refl _ _).alloc (Nat.le_refl _) _).alloc (by simp) _, ?_, ?_⟩⟩
    · have h1 := (Own.fresh w (fw (fun _ => 0) 16).toArray 92 (by simp [fw_length, maxLen])).alloc (.cells (fw (fun _ => 0) 16).toArray 92)
      simpa [fw_length] using h1
    · rw [fw_congr (g := fun _ => 0) (fun j _ => by simp)]
      have h1 := (Own.fresh (w.alloc (.cells (fw (fun _ => 0) 16).toArray 92)) (fw (fun _ => 0) 16).toArray 92 (by simp [fw_length, maxLen])).weaken (base' := w.heap.size) (by simp)
      simpa [fw_length] using h1
  go_enter Try.func65, Try.ntmps65
  go_wp2
  go_loopw [5] (fun i wr => ∃ k : Nat, k ≤ 16 ∧ i = .int .i64 (k : Int) ∧ Box (ArrAt w wr 16 (fun j => if j < k then crcTab j else 0))) (fun i _ => 16 - (intOf i).toNat)
  case atStart => exact ⟨0, by omega, rfl, HI⟩
  case round =>
    obtain ⟨k, hk, rfl, HM⟩ := hrel
    by_cases hlt : k < 16
    · have hw0 : Box ((k : Int) % 4294967296 = ((BitVec.ofNat 32 k).toNat : Int)) := ⟨by rw [BitVec.toNat_ofNat]; omega⟩
      obtain ⟨c0, f0⟩ := HM.out.ow.cell (j := k) (fw_at _ hlt)
      have j1 : (0 : Int) ≤ (k : Int) := by omega
      have j2 : (k : Int) < 16 := by omega
      go_wp2
      go_loop [3, 10] (fun x i => ∃ (n : Nat) (z : BitVec 32), n ≤ 4 ∧ i = .int .i64 (n : Int) ∧ x = .int .u32 (z.toNat : Int) ∧ Box (z = crcBits n (BitVec.ofNat 32 k))) (fun _ i => 4 - (intOf i).toNat)
      case atStart => exact ⟨0, BitVec.ofNat 32 k, by omega, rfl, val_int (by first | exact hw0.out | (rw [BitVec.toNat_ofNat]; omega)), ⟨rfl⟩⟩
      case round =>
        obtain ⟨n, z, hn, rfl, rfl, HZ⟩ := hrel
        clear hw0
        by_cases hlt2 : n < 4
        · have HE1 : Box _ := ⟨w_shr1 z⟩
          have e0 := w_one z
          by_cases hodd : z.toNat % 2 = 1
          · have e3 : Box _ := ⟨(crcBit_odd hodd).symm⟩
            rw [hodd] at e0
            clear hodd
            go_wp2
            go_round
            case rel => exact ⟨n + 1, crcBit z, by omega, by go_num, val_int (by rw [HE1.out]; exact e3.out), ⟨by rw [crcBits, ← HZ.out]⟩⟩
            case measure => simp [intOf]; omega
          · have hev : z.toNat % 2 = 0 := by omega
            have e3 : Box (crcBit z = z >>> 1) := ⟨crcBit_even hev⟩
            rw [hev] at e0
            clear hev hodd
            go_wp2
            go_round
            case rel => exact ⟨n + 1, z >>> 1, by omega, by go_num, val_int HE1.out, ⟨by rw [crcBits, ← HZ.out, e3.out]⟩⟩
            case measure => simp [intOf]; omega
        · obtain rfl : n = 4 := by omega
          go_wp2
          go_roundw
          case rel =>
            refine ⟨k + 1, by omega, by go_num, ⟨(HM.out.set k hlt z).congr (fun j _ => ?_)⟩⟩
            have hz : z = crcTab k := HZ.out
            by_cases e : j = k
            · subst e; simp [hz]
            · by_cases e2 : j < k
              · rw [if_neg e, if_pos e2, if_pos (by omega)]
              · rw [if_neg e, if_neg e2, if_neg (by omega)]
          case measure => simp [intOf]; omega
    · obtain rfl : k = 16 := by omega
      have HO : Box (Own wr w.heap.size 1 (.slice (some ⟨w.heap.size + 1, 0, none⟩) 16 16) 16 (fw crcTab 16)) := ⟨by rw [fw_congr (g := fun j => if j < 16 then crcTab j else 0) (fun j hj => by rw [if_pos hj])]; exact HM.out.ow⟩
      have hi : (Try.prog.info? 92).map (·.size) = some (fw crcTab 16).length := by rw [fw_length]; kernel_rfl
      have hi2 : (Try.prog.info? 92).map (·.size) = some (fw crcTab 16).toArray.size := by rw [List.size_toArray, fw_length]; kernel_rfl
      have HI1 : Box _ := ⟨hi⟩
      have HI2 : Box _ := ⟨hi2⟩
      clear hi hi2
      have HTh : Box (wr.there w.heap.size 0 (fw crcTab 16).toArray.size) := ⟨by rw [show (fw crcTab 16).toArray.size = 16 by simp [fw_length]]; exact HM.out.or.there0⟩
      have HAl : Box ((fw crcTab 16).toArray.all (·.oneCell') = true) := ⟨all_wcells _⟩
      go_wp2_with (first
        | (refine wpList_load_mid rfl 92 _ rfl (w.heap.size + 1) 0 rfl (fw crcTab 16) _ HO.out.range0 Try.underlying92 rfl HI1.out ?_)
        | (refine wpList_store_mid rfl 92 _ _ rfl w.heap.size 0 (fw crcTab 16).toArray rfl rfl HTh.out HI2.out HAl.out ?_))
      have hF := HM.out.or.all (fw crcTab 16) (by rw [fw_length])
      refine bodyPost_ret (results_cell_mid rfl _ _ w.heap.size (fw crcTab 16) _ rfl hF.range0 Try.underlying92 rfl HI1.out) rfl ?_
      exact ⟨rfl, HM.out.bel.grown (grownBy_setCells w.heap.size (fw crcTab 16) 0 wr) HM.out.bel.size (by simp)⟩
end Go.Proofs.Yteokcbgaljhpgaa
