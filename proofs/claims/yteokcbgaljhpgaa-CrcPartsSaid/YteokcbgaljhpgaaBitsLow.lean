/- bits.In: a number of so many bytes. -/
import Derived.Test.YteokcbgaljhpgaaBitsIn
import Derived.Laws.BitsAllLaws
namespace Go.Proofs.Yteokcbgaljhpgaa
open Go.RowKit

theorem numL_snoc (l : List UInt8) (b : UInt8) : numL (l ++ [b]) = numL l + 256 ^ l.length * b.toNat := by
  induction l with
  | nil => simp [numL]
  | cons c r ih =>
    rw [List.cons_append, numL, ih, numL, List.length_cons, Nat.pow_succ, Nat.mul_add, ← Nat.mul_assoc, Nat.mul_comm 256 (256 ^ r.length)]
    omega
theorem numL_or (l : List UInt8) (b : UInt8) (hl : l.length < 4) : bits BinOp.or IntKind.u64 (numL l : Int) ((b.toNat : Int) * 2 ^ (8 * l.length) % 18446744073709551616) = (numL (l ++ [b]) : Int) := by
  have h1 := numL_lt l
  have hb := b.toNat_lt
  have hp : (256 : Nat) ^ l.length = 2 ^ (8 * l.length) := by rw [Nat.pow_mul]
  have hle : (256 : Nat) ^ l.length ≤ 256 ^ 3 := Nat.pow_le_pow_right (by decide) (by omega)
  have h3 : (256 : Nat) ^ 3 = 16777216 := by decide
  have hm : 256 ^ l.length * b.toNat ≤ 16777216 * 256 := Nat.mul_le_mul (by omega) (by omega)
  have e : ((b.toNat : Int) * 2 ^ (8 * l.length) % 18446744073709551616) = ((256 ^ l.length * b.toNat : Nat) : Int) := by
    have e2 : (b.toNat : Int) * 2 ^ (8 * l.length) = ((256 ^ l.length * b.toNat : Nat) : Int) := by
      rw [hp, Int.natCast_mul, Int.natCast_pow, Int.mul_comm]; rfl
    rw [e2]
    omega
  rw [e, u64_or_nat _ _ (by omega) (by omega), numL_snoc, Nat.or_comm]
  rw [hp] at h1 ⊢
  rw [← Nat.two_pow_add_eq_or_of_lt h1, Nat.add_comm]

set_option maxHeartbeats 1600000 in
set_option maxRecDepth 20000 in
theorem inLow_calls (g : Nat) (s : ByteArray) (w : World) (h : InAt w g s) (hs : s.size = 4) :
    Calls Try.prog 123 #[.pointer (some ⟨g, 0, none⟩), .int .i64 4] w fun e w' => e = .returned (.int .i64 (numL s.data.toList : Int)) ∧ Touched w w' [g] := by
  have HR := inRaw_calls g 4 s w h (by omega) (by omega)
  have HRo : Box _ := ⟨HR⟩
  clear HR h
  have hex : s.extract 0 4 = s := by rw [← hs]; simp
  have kb := fun (W : World) (s : ByteArray) => Lib.run_convert_string_bytes (P := Try.prog) W 9 39 5 s Try.underlying9 Try.underlying39 Try.underlying5
  go_enter Try.func123, Try.ntmps123
  go_wp2_with fail
  refine HRo.out.mono ?_
  rintro e w1 ⟨rfl, _, hT⟩
  have HT : Box _ := ⟨hT⟩
  clear hT
  rw [hex]
  have hs1 : s.size ≤ 4 := by omega
  have hs2 : 4 ≤ s.size := by omega
  have HZ := Lib.hid hs
  clear hex HRo hs
  go_wp2_with fail
  have HOB : Box _ := ⟨Own.bytes w1 5 s (by simp only [maxLen]; omega)⟩
  have HTB : Box (Touched w (Lib.bytesWorld w1 5 s) [g]) := ⟨HT.out.trans (Touched.of_below (bytes_below w1 5 s) [] |>.mono (by simp))⟩
  have hn0 : numL s.data.toList < 4294967296 := by
    have := numL_lt s.data.toList
    rw [data_length, HZ.out] at this
    simpa using this
  go_loop [5, 13] (fun x i => ∃ k : Nat, k ≤ s.size ∧ i = .int .i64 (k : Int) ∧ x = .int .u64 (numL (s.data.toList.take k) : Int)) (fun _ i => s.size - (intOf i).toNat)
  case atStart => exact ⟨0, by omega, rfl, rfl⟩
  case round =>
    obtain ⟨k, hk, rfl, rfl⟩ := hrel
    by_cases hlt : k < s.size
    · have hlen : (s.data.toList.take k).length = k := by rw [List.length_take, data_length]; omega
      have hor := numL_or (s.data.toList.take k) s[k] (by omega)
      rw [hlen, ← take_snoc_str s k hlt] at hor
      obtain ⟨p, hp⟩ : ∃ p, numL (s.data.toList.take k) = p := ⟨_, rfl⟩
      obtain ⟨q, hq⟩ : ∃ q, numL (s.data.toList.take (k + 1)) = q := ⟨_, rfl⟩
      rw [hp, hq] at hor
      rw [hp]
      obtain ⟨c0, f0⟩ := HOB.out.cell (j := k) (u := .int .u8 (s[k].toNat : Int)) (bcells_at (by rw [Array.getElem?_toList, Array.getElem?_eq_getElem (show k < s.data.size from hlt)]; rfl))
      have y3 := IntWalk.i64_in (8 * (k : Int)) (by omega)
      have y4 : (8 * (k : Int)).toNat = 8 * k := by omega
      have y5 : (0 : Int) ≤ 8 * (k : Int) := by omega
      have HQ := Lib.hid hq
      have hw1 : IntKind.u64.wrap (s[k].toNat : Int) = (s[k].toNat : Int) := by rw [IntKind.wrap_u64]; have := s[k].toNat_lt; omega
      have HOR : Box (bits BinOp.or IntKind.u64 (p : Int) (IntKind.u64.wrap ((s[k].toNat : Int) * 2 ^ (8 * k))) = (q : Int)) := ⟨by rw [IntKind.wrap_u64]; exact hor⟩
      clear hor
      clear hlen hp hq
      go_wp2_with fail
      go_round
      case rel => exact ⟨k + 1, by omega, by go_num, by first | rw [HOR.out, HQ.out] | rw [hw1, HOR.out, HQ.out]⟩
      case measure => simp [intOf]; omega
    · obtain rfl : k = s.size := by omega
      have ht : s.data.toList.take s.size = s.data.toList := List.take_of_length_le (by rw [data_length]; omega)
      rw [ht]
      obtain ⟨p, hp⟩ : ∃ p, numL s.data.toList = p := ⟨_, rfl⟩
      rw [hp] at hn0 ⊢
      have y6 := IntWalk.i64_in (p : Int) (by omega)
      clear ht
      go_wp2_with fail
      go_ret
      exact ⟨rfl, HTB.out⟩
end Go.Proofs.Yteokcbgaljhpgaa
