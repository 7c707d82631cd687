/- The reference's Low, Seal and Open. -/
import Derived.Test.YteokcbgaljhpgaaCrc
import Derived.Test.YteokcbgaljhpgaaSums
namespace Go.Proofs.Yteokcbgaljhpgaa
open Go.RowKit

theorem lowL_at (v n k : Nat) (h : k < n) : (lowL v n)[k]? = some (UInt8.ofNat (v / 256 ^ k)) := by
  induction n generalizing v k with
  | zero => omega
  | succ n ih =>
    cases k with
    | zero => simp [lowL]
    | succ k => rw [lowL, List.getElem?_cons_succ, ih _ _ (by omega), Nat.div_div_eq_div_mul, Nat.pow_succ, Nat.mul_comm (256 ^ k) 256]
def lowS (v n : Nat) : ByteArray := ⟨(lowL v n).toArray⟩
theorem lowS_size (v n : Nat) : (lowS v n).size = n := by simp [lowS, ByteArray.size, lowL_length]

set_option maxHeartbeats 800000 in
set_option maxRecDepth 10000 in
theorem refLow_calls (v n : Nat) (w : World) (hn : n ≤ 8) (hv : v < 18446744073709551616) : Calls Try.prog 68 #[.int .u64 (v : Int), .int .i64 (n : Int)] w fun e w' => e = .returned (.string (lowS v n)) ∧ Below w.heap.size w w' := by
  go_enter Try.func68, Try.ntmps68
  go_wp2
  go_loopw [0, 5, 6] (fun u x i wr => ∃ k y : Nat, k ≤ n ∧ y < 18446744073709551616 ∧ u = .int .u64 (y : Int) ∧ i = .int .i64 (k : Int) ∧ Hid (y = v / 256 ^ k) ∧ Hid (Own wr w.heap.size 1 x k (bcells ((lowL v n).take k))) ∧ Hid (Below w.heap.size w wr)) (fun _ _ i _ => n - (intOf i).toNat)
  case atStart => exact ⟨0, v, by omega, hv, rfl, rfl, by simp [Hid], by rw [Hid]; simpa [bcells] using Own.nil _ _ _, Below.refl _ _⟩
  case round =>
    obtain ⟨k, y, hk, hy, rfl, rfl, HY, HN, HW⟩ := hrel
    by_cases hlt : k < n
    · obtain ⟨b, hb⟩ : ∃ b, UInt8.ofNat y = b := ⟨_, rfl⟩
      obtain ⟨z, hz⟩ : ∃ z, y / 256 = z := ⟨_, rfl⟩
      have HX : Hid ((lowL v n).take (k + 1) = (lowL v n).take k ++ [b]) := by rw [Hid, ← hb, HY.out]; exact take_snoc_of (lowL_at v n k hlt)
      have HQ : Hid (z = v / 256 ^ (k + 1)) := by rw [Hid, ← hz, HY.out, Nat.div_div_eq_div_mul, Nat.pow_succ]
      have HV : (y : Int) % 256 = (b.toNat : Int) := by rw [← hb]; simp
      have HD : (y : Int) / 256 = (z : Int) := by omega
      have hzl : z < 18446744073709551616 := by omega
      clear hb hz
      go_wp2_with (at_builtin; refine appO el_u8 w.heap.size rfl _ _ rfl rfl (HN.out.alloc _) (news := bcells [b]) rfl rfl (rowAt_alloc _ _ _) (one_bcells _) (by omega) (Nat.le_trans HW.out.size (by simp)) ?_; intro v1 w3 hown1 hg1 _; have HO3 : Hid (Own w3 w.heap.size 1 v1 (k + 1) (bcells ((lowL v n).take (k + 1)))) := (by have e9 : bcells ((lowL v n).take (k + 1)) = bcells ((lowL v n).take k) ++ bcells [b] := (congrArg bcells HX.out).trans (by simp [bcells]); rw [Hid, e9]; exact hown1); have HB3 : Hid (Below w.heap.size w w3) := Own.grown_below (HN.out.alloc _) (HW.out.alloc HW.out.size _) hg1 (Nat.le_refl _); clear hown1 hg1)
      go_roundw
      case rel => exact ⟨k + 1, z, by omega, hzl, rfl, by go_num, HQ, HO3, HB3⟩
      case measure => simp [intOf]; omega
    · obtain rfl : k = n := by omega
      obtain ⟨A, c, rfl, _, hr, _⟩ := HN.out.slice
      rw [List.take_of_length_le (by rw [lowL_length]; omega)] at hr
      have hcv := bytes_str Try.prog 39 5 9 Try.underlying39 Try.underlying5 Try.underlying9 A k c (lowL v k) wr (lowL_length _ _) hr
      clear hr
      go_wp2_with fail
      go_ret
      exact ⟨rfl, HW.out⟩

/-- What the reference's Seal and Open tell. -/
def sealOk (s : ByteArray) (m : Nat) : ByteArray := (s ++ zerosB m) ++ lowS (crcSum (s ++ zerosB m).data.toList).toNat 4
def sealB (n : Int) (s : ByteArray) : ByteArray × Int :=
  if n < 4 ∨ 65536 < n then (ByteArray.empty, 1)
  else if n - 4 < (s.size : Int) then (ByteArray.empty, 2)
  else (sealOk s (n.toNat - 4 - s.size), 0)
theorem refSeal_calls (n : Int) (s : ByteArray) (w : World) (hn : -9223372036854775808 ≤ n ∧ n < 9223372036854775808) (hs : s.size ≤ 1000000000) : Calls Try.prog 23 #[.int .i64 n, .string s] w fun e w' => e = .returned (.tuple #[.string (sealB n s).1, .int .i64 (sealB n s).2]) ∧ Below w.heap.size w w' := by
  by_cases h1 : n < 4
  · have e : Box (sealB n s = (ByteArray.empty, 1)) := ⟨by rw [sealB, if_pos (Or.inl h1)]⟩
    go_enter Try.func23, Try.ntmps23
    go_wp2
    go_ret2
    exact ⟨by rw [e.out]; rfl, Below.refl _ _⟩
  by_cases h2 : 65536 < n
  · have e : Box (sealB n s = (ByteArray.empty, 1)) := ⟨by rw [sealB, if_pos (Or.inr h2)]⟩
    go_enter Try.func23, Try.ntmps23
    go_wp2
    go_ret2
    exact ⟨by rw [e.out]; rfl, Below.refl _ _⟩
  by_cases h3 : n - 4 < (s.size : Int)
  · have e : Box (sealB n s = (ByteArray.empty, 2)) := ⟨by rw [sealB, if_neg (by omega), if_pos h3]⟩
    go_enter Try.func23, Try.ntmps23
    go_wp2
    go_ret2
    exact ⟨by rw [e.out]; rfl, Below.refl _ _⟩
  obtain ⟨m, hm⟩ : ∃ m : Nat, n.toNat - 4 - s.size = m := ⟨_, rfl⟩
  have e : Box (sealB n s = (sealOk s m, 0)) := ⟨by rw [sealB, if_neg (by omega), if_neg h3, hm]⟩
  obtain rfl : n = (s.size : Int) + 4 + (m : Int) := by omega
  have hm2 : m ≤ 65536 := by omega
  have e1 : (s.size : Int) + 4 + (m : Int) - 4 - (s.size : Int) = (m : Int) := by omega
  clear hm
  go_enter Try.func23, Try.ntmps23
  go_wp2_with fail
  refine (zeros_calls m _ (by omega)).mono ?_
  rintro e w1 ⟨rfl, hb1⟩
  have HB1 := Lib.hid hb1; clear hb1
  have hzs : (s ++ zerosB m).size ≤ 2000000000 := by rw [ByteArray.size_append, zerosB_size]; omega
  have HE : Box (sealOk s m = (s ++ zerosB m) ++ lowS (crcSum (s ++ zerosB m).data.toList).toNat 4) := ⟨rfl⟩
  have hzz : (zerosB m).size ≤ 65536 := by rw [zerosB_size]; omega
  obtain ⟨z, hz⟩ : ∃ z, zerosB m = z := ⟨_, rfl⟩
  rw [hz] at hzs HE hzz ⊢
  clear hz
  go_wp2_with fail
  refine (refCrc_calls _ _ (by omega)).mono ?_
  rintro e w2 ⟨rfl, rfl⟩
  have hc := w_lt (crcSum (s ++ z).data.toList)
  obtain ⟨c, hcc⟩ : ∃ c, crcSum (s ++ z).data.toList = c := ⟨_, rfl⟩
  rw [hcc] at HE hc ⊢
  have hc64 : IntKind.u64.wrap (c.toNat : Int) = (c.toNat : Int) := by rw [IntKind.wrap_u64]; omega
  go_wp2_with fail
  refine (refLow_calls c.toNat 4 _ (by omega) (by omega)).mono ?_
  rintro e w3 ⟨rfl, hb3⟩
  have HB3 := Lib.hid (below_trans' HB1.out hb3); clear hb3
  have hls := lowS_size c.toNat 4
  obtain ⟨q, hq⟩ : ∃ q, lowS c.toNat 4 = q := ⟨_, rfl⟩
  rw [hq] at HE hls ⊢
  have hsz : (s ++ z).size ≤ 2000000000 := hzs
  go_wp2_with fail
  go_ret2
  exact ⟨by rw [e.out, HE.out]; rfl, HB3.out⟩

/-- What the reference's Open tells. -/
def openB (b : ByteArray) : ByteArray × Int :=
  if b.size < 4 then (ByteArray.empty, 5)
  else if (b.extract 0 (b.size - 4)) ++ lowS (crcSum (b.extract 0 (b.size - 4)).data.toList).toNat 4 = b then (b.extract 0 (b.size - 4), 0) else (ByteArray.empty, 7)
theorem refOpen_calls (b : ByteArray) (w : World) (hs : b.size ≤ 1000000000) : Calls Try.prog 25 #[.string b] w fun e w' => e = .returned (.tuple #[.string (openB b).1, .int .i64 (openB b).2]) ∧ Below w.heap.size w w' := by
  by_cases h1 : b.size < 4
  · have e : Box (openB b = (ByteArray.empty, 5)) := ⟨by rw [openB, if_pos h1]⟩
    go_enter Try.func25, Try.ntmps25
    go_wp2
    go_ret2
    exact ⟨by rw [e.out]; rfl, Below.refl _ _⟩
  have y1 := IntWalk.i64_in ((b.size : Int) - 4) (by omega)
  have y2 : ((b.size : Int) - 4).toNat = b.size - 4 := by omega
  have y3 : (0 : Int) ≤ (b.size : Int) - 4 := by omega
  have y4 : (b.size : Int) - 4 ≤ (b.size : Int) := by omega
  have HE : Box (openB b = if (b.extract 0 (b.size - 4)) ++ lowS (crcSum (b.extract 0 (b.size - 4)).data.toList).toNat 4 = b then (b.extract 0 (b.size - 4), 0) else (ByteArray.empty, 7)) := ⟨by rw [openB, if_neg h1]⟩
  have hes : (b.extract 0 (b.size - 4)).size ≤ 1000000000 := by rw [ByteArray.size_extract]; omega
  go_enter Try.func25, Try.ntmps25
  go_wp2_with fail
  obtain ⟨t, ht⟩ : ∃ t, b.extract 0 (b.size - 4) = t := ⟨_, rfl⟩
  rw [ht] at HE hes ⊢
  clear ht
  refine (refCrc_calls _ _ (by omega)).mono ?_
  rintro e w2 ⟨rfl, rfl⟩
  have hc := w_lt (crcSum t.data.toList)
  obtain ⟨c, hcc⟩ : ∃ c, crcSum t.data.toList = c := ⟨_, rfl⟩
  rw [hcc] at HE hc ⊢
  have hc64 : IntKind.u64.wrap (c.toNat : Int) = (c.toNat : Int) := by rw [IntKind.wrap_u64]; omega
  go_wp2_with fail
  refine (refLow_calls c.toNat 4 _ (by omega) (by omega)).mono ?_
  rintro e w3 ⟨rfl, hb3⟩
  have HB3 := Lib.hid hb3; clear hb3
  have hls := lowS_size c.toNat 4
  obtain ⟨q, hq⟩ : ∃ q, lowS c.toNat 4 = q := ⟨_, rfl⟩
  rw [hq] at HE hls ⊢
  by_cases hf : t ++ q = b
  · have HR : Box (openB b = (t, 0)) := ⟨by rw [HE.out, if_pos hf]⟩
    have hsb : ((t ++ q).toList == b.toList) = true := by rw [str_beq, decide_eq_true hf]
    go_wp2_with fail
    go_ret2
    exact ⟨by rw [HR.out]; rfl, HB3.out⟩
  · have HR : Box (openB b = (ByteArray.empty, 7)) := ⟨by rw [HE.out, if_neg hf]⟩
    have hsb : ((t ++ q).toList == b.toList) = false := by rw [str_beq, decide_eq_false hf]
    go_wp2_with fail
    go_ret2
    exact ⟨by rw [HR.out]; rfl, HB3.out⟩
end Go.Proofs.Yteokcbgaljhpgaa
