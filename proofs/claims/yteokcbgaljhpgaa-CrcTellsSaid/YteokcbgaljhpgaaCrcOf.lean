/- crc.Of. -/
import Derived.Test.YteokcbgaljhpgaaCrc
namespace Go.Proofs.Yteokcbgaljhpgaa
open Go.RowKit

theorem half_calls' (w : World) : Calls Try.prog 65 #[] w fun e w' => ∃ F : List Value, Box (F = fw crcTab 16) ∧ e = .returned (.agg F.toArray) ∧ Below w.heap.size w w' :=
  (half_calls w).mono fun _ _ ⟨he, hb⟩ => ⟨_, ⟨rfl⟩, he, hb⟩
/-- Four bits of a word, told as the walk tells them. -/
theorem crc_nib (x : BitVec 32) : ∃ q : Nat, q < 16 ∧ bits BinOp.and IntKind.u32 (x.toNat : Int) 15 = (q : Int) ∧ bits BinOp.xor IntKind.u32 ((x.toNat : Int) / (16 : Int)) ((crcTab q).toNat : Int) = ((crcBits 4 x).toNat : Int) := by
  refine ⟨(x &&& 15).toNat, ?_, ?_, ?_⟩
  · rw [BitVec.toNat_and]
    exact Nat.lt_of_le_of_lt Nat.and_le_right (by decide)
  · have e : (15 : Int) = ((15 : BitVec 32).toNat : Int) := by decide
    rw [e, w_and]
  · have h := t_shr x 4
    rw [show (2 : Int) ^ 4 = (16 : Int) by decide] at h
    rw [h, crcTab, BitVec.ofNat_toNat, BitVec.setWidth_eq, w_xor, crc_four]

set_option maxHeartbeats 3200000 in
set_option maxRecDepth 100000 in
theorem crcOf_calls (A : Option Addr) (n c : Nat) (l : List ByteArray) (w : World) (hl : l.length = n) (hn : n ≤ 4000000000000000000) (hs : ∀ s ∈ l, s.size ≤ 140737488351232) (hR : RowAt w A (scells l)) :
    Calls Try.prog 19 #[.slice A n c] w fun e w' => e = .returned (.int .u32 ((crcSum (joinB l).data.toList).toNat : Int)) ∧ Below w.heap.size w w' := by
  subst hl
  have HR := Lib.hid hR; clear hR
  have HS := Lib.hid hs; clear hs
  go_enter Try.func19, Try.ntmps19
  go_wp2_with fail
  refine (half_calls' _).mono ?_
  rintro e w1 ⟨F, HF, rfl, hb1⟩
  have HB1 := Lib.hid hb1; clear hb1
  have hlF : F.length = 16 := by rw [HF.out, fw_length]
  have hoF : F.toArray.all (·.oneCell') = true := by rw [HF.out]; exact all_wcells _
  have hsF : F.toArray.size = 16 := by rw [List.size_toArray, hlF]
  have hO : Own (w1.alloc (.cells (fw (fun _ => 0) 16).toArray 92)) w.heap.size 1 (.slice (some ⟨w1.heap.size, 0, none⟩) 16 16) 16 (fw (fun _ => 0) 16) := by
    have h1 := (Own.fresh w1 (fw (fun _ => 0) 16).toArray 92 (by simp [fw_length, maxLen])).weaken (base' := w.heap.size) HB1.out.size
    simpa [fw_length] using h1
  have HT5 : Box ((w1.alloc (.cells (fw (fun _ => 0) 16).toArray 92)).there w1.heap.size 0 F.toArray.size) := ⟨by rw [hsF]; exact hO.there0⟩
  have HI5 : Box ((Try.prog.info? 92).map (·.size) = some F.toArray.size) := ⟨by rw [hsF]; kernel_rfl⟩
  have HoF : Box _ := ⟨hoF⟩
  have hO2 := hO.all F hlF
  rw [HF.out] at hO2
  have HO2 : Box (Own ((w1.alloc (.cells (fw (fun _ => 0) 16).toArray 92)).setCells w1.heap.size 0 F) w.heap.size 1 (.slice (some ⟨w1.heap.size, 0, none⟩) 16 16) 16 (fw crcTab 16)) := ⟨by rw [HF.out]; exact hO2⟩
  have HB2 : Hid (Below w.heap.size w ((w1.alloc (.cells (fw (fun _ => 0) 16).toArray 92)).setCells w1.heap.size 0 F)) := (HB1.out.alloc HB1.out.size _).grown (grownBy_setCells w1.heap.size F 0 _) (by have := HB1.out.size; simp; omega) (by intro k hk; simp at hk; subst hk; exact HB1.out.size)
  have HRw : Box (RowAt ((w1.alloc (.cells (fw (fun _ => 0) 16).toArray 92)).setCells w1.heap.size 0 F) A (scells l)) := ⟨HR.out.below HB2.out⟩
  clear hlF hoF hsF hO hO2
  go_wp2_with (refine wpList_store_mid rfl 92 _ _ rfl w1.heap.size 0 F.toArray rfl rfl HT5.out HI5.out HoF.out ?_)
  go_simp
  obtain ⟨W, hW⟩ : ∃ W, ((w1.alloc (.cells (fw (fun _ => 0) 16).toArray 92)).setCells w1.heap.size 0 F) = W := ⟨_, rfl⟩
  change Code.wp _ _ _ _ ((w1.alloc (.cells (fw (fun _ => 0) 16).toArray 92)).setCells w1.heap.size 0 F)
  rw [hW] at HO2 HB2 HRw ⊢
  clear hW HR HB1 HT5 HI5 HoF HF
  go_wp2_with fail
  go_loop [3, 11] (fun x i => ∃ (k : Nat) (y : BitVec 32), k ≤ l.length ∧ i = .int .i64 (k : Int) ∧ x = .int .u32 (y.toNat : Int) ∧ Box (y = crcGo (BitVec.allOnes 32) (joinB (l.take k)).data.toList)) (fun _ i => l.length - (intOf i).toNat)
  case atStart => exact ⟨0, BitVec.allOnes 32, by omega, rfl, rfl, ⟨rfl⟩⟩
  case round =>
    obtain ⟨k, y, hk, rfl, rfl, HY⟩ := hrel
    by_cases hlt : k < l.length
    · obtain ⟨s, hs⟩ := some_at hlt
      obtain ⟨ad, rfl, hc⟩ := HRw.out.get (scells_at hs)
      have hss := HS.out s (List.mem_of_getElem? hs)
      have HX : Box (crcGo (BitVec.allOnes 32) (joinB (l.take (k + 1))).data.toList = crcGo y s.data.toList) := ⟨by rw [take_snoc_of hs, joinB_snoc, show (joinB (l.take k) ++ s).data.toList = (joinB (l.take k)).data.toList ++ s.data.toList by simp, crcGo_append, ← HY.out]⟩
      clear hs
      go_wp2_with fail
      go_loop [3, 17] (fun x i => ∃ (n : Nat) (z : BitVec 32), n ≤ s.size ∧ i = .int .i64 (n : Int) ∧ x = .int .u32 (z.toNat : Int) ∧ Box (z = crcGo y (s.data.toList.take n))) (fun _ i => s.size - (intOf i).toNat)
      case atStart => exact ⟨0, y, by omega, rfl, rfl, ⟨rfl⟩⟩
      case round =>
        obtain ⟨n, z, hn, rfl, rfl, HZ⟩ := hrel
        by_cases hlt2 : n < s.size
        · have hx0 := u32_byte' s[n]
          have hxx : bits BinOp.xor IntKind.u32 (z.toNat : Int) (s[n].toNat : Int) = ((z ^^^ bw s[n]).toNat : Int) := by rw [bw_nat, w_xor]
          obtain ⟨v, hv⟩ : ∃ v, z ^^^ bw s[n] = v := ⟨_, rfl⟩
          rw [hv] at hxx
          obtain ⟨q, hq, e1, e2⟩ := crc_nib v
          obtain ⟨q', hq', e3, e4⟩ := crc_nib (crcBits 4 v)
          obtain ⟨c1, _⟩ := HO2.out.cell (j := q) (fw_at _ hq)
          obtain ⟨c2, _⟩ := HO2.out.cell (j := q') (fw_at _ hq')
          have HN : Box (crcGo y (s.data.toList.take (n + 1)) = crcBits 4 (crcBits 4 v)) := ⟨by rw [take_snoc_str s n hlt2, crcGo_snoc, ← HZ.out, crcByte, hv, crc_eight]⟩
          have b1 : (0 : Int) ≤ (q : Int) := by omega
          have b2 : (q : Int) < 16 := by omega
          have b3 : (0 : Int) ≤ (q' : Int) := by omega
          have b4 : (q' : Int) < 16 := by omega
          clear hv
          go_wp2_with fail
          go_round
          case rel => exact ⟨n + 1, crcBits 4 (crcBits 4 v), by omega, by go_num, rfl, ⟨HN.out.symm⟩⟩
          case measure => simp [intOf]; omega
        · obtain rfl : n = s.size := by omega
          go_wp2_with fail
          go_round
          case rel => 
            have hz : z = crcGo (BitVec.allOnes 32) (joinB (l.take (k + 1))).data.toList := by rw [HX.out, HZ.out, List.take_of_length_le (by rw [data_length]; omega)]
            first | exact ⟨k + 1, z, by omega, by go_num, rfl, ⟨hz⟩⟩ | ((repeat apply Exists.intro); exact ⟨⟨k + 1, z, by omega, by go_num, rfl, ⟨hz⟩⟩, rfl⟩)
          case measure => simp [intOf]; omega
    · have HNot : Box (bits BinOp.xor IntKind.u32 (y.toNat : Int) 4294967295 = ((~~~ y).toNat : Int)) := ⟨by rw [show (4294967295 : Int) = ((BitVec.allOnes 32).toNat : Int) by decide, w_xor, BitVec.xor_allOnes]⟩
      have HF : Box (crcSum (joinB l).data.toList = ~~~ y) := ⟨by rw [crcSum, HY.out, List.take_of_length_le (by omega)]⟩
      go_wp2_with fail
      go_ret
      exact ⟨ret_int (by rw [HF.out]; exact HNot.out), HB2.out⟩
end Go.Proofs.Yteokcbgaljhpgaa
