/- bits.In: numbers, texts. -/
import Derived.Test.YtnakneabfnphkaaDoorInS
namespace Go.Proofs.YtnakneabfnphkaaDoor
open Go.RowKit

theorem numL_snoc (l : List UInt8) (b : UInt8) : numL (l ++ [b]) = numL l + 256 ^ l.length * b.toNat := by
  induction l with
  | nil => simp [numL]
  | cons c r ih =>
    rw [List.cons_append, numL, ih, numL, List.length_cons, Nat.pow_succ, Nat.mul_add, ← Nat.mul_assoc, Nat.mul_comm 256 (256 ^ r.length)]
    omega
theorem numL_or (l : List UInt8) (b : UInt8) (hl : l.length < 8) : bits BinOp.or IntKind.u64 (numL l : Int) ((b.toNat : Int) * 2 ^ (8 * l.length) % 18446744073709551616) = (numL (l ++ [b]) : Int) := by
  have h1 := numL_lt l
  have hb := b.toNat_lt
  have hp : (256 : Nat) ^ l.length = 2 ^ (8 * l.length) := by rw [Nat.pow_mul]
  have hle : (256 : Nat) ^ l.length ≤ 256 ^ 7 := Nat.pow_le_pow_right (by decide) (by omega)
  have h3 : (256 : Nat) ^ 7 = 72057594037927936 := by decide
  have hm : 256 ^ l.length * b.toNat ≤ 72057594037927936 * 255 := Nat.mul_le_mul (by omega) (by omega)
  have e : ((b.toNat : Int) * 2 ^ (8 * l.length) % 18446744073709551616) = ((256 ^ l.length * b.toNat : Nat) : Int) := by
    have e2 : (b.toNat : Int) * 2 ^ (8 * l.length) = ((256 ^ l.length * b.toNat : Nat) : Int) := by
      rw [hp, Int.natCast_mul, Int.natCast_pow, Int.mul_comm]; rfl
    rw [e2]
    omega
  rw [e, u64_or_nat _ _ (by omega) (by omega), numL_snoc, Nat.or_comm]
  rw [hp] at h1 ⊢
  rw [← Nat.two_pow_add_eq_or_of_lt h1, Nat.add_comm]

/-- A number of so many bytes. -/
def lowI (e : Int) (s : ByteArray) (size : Nat) : Int × Int × ByteArray :=
  if 9223372036854775808 ≤ numL (rawI e s size).1.data.toList then (0, 6, (rawI e s size).2.2) else ((numL (rawI e s size).1.data.toList : Int), (rawI e s size).2.1, (rawI e s size).2.2)
theorem lowI_size (e : Int) (s : ByteArray) (size : Nat) : (lowI e s size).2.2.size ≤ s.size := by
  have := (rawI_size e s size).2.1
  unfold lowI
  split <;> exact this
set_option maxHeartbeats 1600000 in
set_option maxRecDepth 20000 in
theorem inLow_calls (size : Nat) (h8 : size ≤ 8) (g : Nat) (e : Int) (s0 : ByteArray) (w : World) (h : InS w g e s0) (hs0 : s0.size ≤ 1000000000) :
    Calls Tryd.prog 37 #[.pointer (some ⟨g, 0, none⟩), .int .i64 (size : Int)] w fun r w' => r = .returned (.int .i64 (lowI e s0 size).1) ∧ InS w' g (lowI e s0 size).2.1 (lowI e s0 size).2.2 ∧ Touched w w' [g] := by
  have HRo : Box _ := ⟨inRaw_calls g (size : Int) e s0 w h hs0⟩
  have hz := (rawI_size e s0 (size : Int)).2.2 (by omega)
  have hlow : ∀ t : ByteArray, ∀ x : Int, ∀ u : ByteArray, rawI e s0 (size : Int) = (t, x, u) → lowI e s0 size = if 9223372036854775808 ≤ numL t.data.toList then (0, 6, u) else ((numL t.data.toList : Int), x, u) := by
    intro t x u hh
    rw [lowI, hh]
  obtain ⟨⟨s, x, u⟩, hd⟩ : ∃ d, rawI e s0 (size : Int) = d := ⟨_, rfl⟩
  rw [hd] at HRo hz
  have HLo : Box _ := ⟨hlow s x u hd⟩
  clear h hlow hd
  obtain ⟨r0, hr0⟩ : ∃ r0, lowI e s0 size = r0 := ⟨_, rfl⟩
  rw [hr0] at HLo ⊢
  clear hr0
  have hs1 : s.size ≤ 8 := by
    have h1 : ((s.size : Nat) : Int) ≤ (size : Int) := hz
    omega
  have kb := fun (W : World) (s : ByteArray) => Lib.run_convert_string_bytes (P := Tryd.prog) W 9 26 5 s Tryd.underlying9 Tryd.underlying26 Tryd.underlying5
  clear hz
  go_enter Tryd.func37, Tryd.ntmps37
  go_wp2_with fail
  refine HRo.out.mono ?_
  rintro e w1 ⟨rfl, hI, hT⟩
  have HT : Box _ := ⟨hT⟩
  have HI : Box _ := ⟨hI⟩
  clear hT hI HRo
  go_wp2_with fail
  have HOB : Box _ := ⟨Own.bytes w1 5 s (by simp only [maxLen]; omega)⟩
  have HTB : Box (Touched w (Lib.bytesWorld w1 5 s) [g]) := ⟨HT.out.trans (Touched.of_below (bytes_below w1 5 s) [] |>.mono (by simp))⟩
  have HIB : Box (InS (Lib.bytesWorld w1 5 s) g x u) := ⟨HI.out.below (bytes_below w1 5 s)⟩
  have hn0 : numL s.data.toList < 18446744073709551616 := by
    have h1 := numL_lt s.data.toList
    rw [data_length] at h1
    have h2 : 256 ^ s.size ≤ 256 ^ 8 := Nat.pow_le_pow_right (by decide) hs1
    have h3 : (256 : Nat) ^ 8 = 18446744073709551616 := by decide
    omega
  go_loop [5, 13] (fun x i => ∃ k : Nat, k ≤ s.size ∧ i = .int .i64 (k : Int) ∧ x = .int .u64 (numL (s.data.toList.take k) : Int)) (fun _ i => s.size - (intOf i).toNat)
  case atStart => exact ⟨0, by omega, rfl, rfl⟩
  case round =>
    obtain ⟨k, hk, rfl, rfl⟩ := hrel
    by_cases hlt : k < s.size
    · have hlen : (s.data.toList.take k).length = k := by rw [List.length_take, data_length]; omega
      have hor := numL_or (s.data.toList.take k) s[k] (by omega)
      rw [hlen, ← take_snoc_str s k hlt] at hor
      obtain ⟨p, hp⟩ : ∃ p, numL (s.data.toList.take k) = p := ⟨_, rfl⟩
      obtain ⟨q, hq⟩ : ∃ q, numL (s.data.toList.take (k + 1)) = q := ⟨_, rfl⟩
      rw [hp, hq] at hor
      rw [hp]
      obtain ⟨c0, f0⟩ := HOB.out.cell (j := k) (u := .int .u8 (s[k].toNat : Int)) (bcells_at (by rw [Array.getElem?_toList, Array.getElem?_eq_getElem (show k < s.data.size from hlt)]; rfl))
      have y3 := IntWalk.i64_in (8 * (k : Int)) (by omega)
      have y4 : (8 * (k : Int)).toNat = 8 * k := by omega
      have y5 : (0 : Int) ≤ 8 * (k : Int) := by omega
      have HQ := Lib.hid hq
      have hw1 : IntKind.u64.wrap (s[k].toNat : Int) = (s[k].toNat : Int) := by rw [IntKind.wrap_u64]; have := s[k].toNat_lt; omega
      have HOR : Box (bits BinOp.or IntKind.u64 (p : Int) (IntKind.u64.wrap ((s[k].toNat : Int) * 2 ^ (8 * k))) = (q : Int)) := ⟨by rw [IntKind.wrap_u64]; exact hor⟩
      clear hor
      clear hlen hp hq
      go_wp2_with fail
      go_round
      case rel => exact ⟨k + 1, by omega, by go_num, by first | rw [HOR.out, HQ.out] | rw [hw1, HOR.out, HQ.out]⟩
      case measure => simp [intOf]; omega
    · obtain rfl : k = s.size := by omega
      have ht : s.data.toList.take s.size = s.data.toList := List.take_of_length_le (by rw [data_length]; omega)
      rw [ht]
      obtain ⟨p, hp⟩ : ∃ p, numL s.data.toList = p := ⟨_, rfl⟩
      rw [hp] at hn0 HLo ⊢
      clear ht hp
      by_cases hbig : 9223372036854775808 ≤ p
      · have HL1 : Box (r0 = (0, 6, u)) := ⟨by rw [HLo.out, if_pos hbig]⟩
        have y6 : IntKind.i64.wrap (p : Int) = (p : Int) - 18446744073709551616 := by rw [IntKind.wrap_i64]; omega
        have y7 : (p : Int) - 18446744073709551616 < 0 := by omega
        have f1 := HIB.out.f1
        have k1 := HIB.out.c1
        go_wp2_with fail
        go_ret
        exact ⟨by rw [HL1.out]; rfl, by rw [HL1.out]; exact HIB.out.fail 6, HTB.out.setCell (.inl (by simp)) _⟩
      · have HL1 : Box (r0 = ((p : Int), x, u)) := ⟨by rw [HLo.out, if_neg hbig]⟩
        have y6 := IntWalk.i64_in (p : Int) (by omega)
        have y7 : (0 : Int) ≤ (p : Int) := by omega
        go_wp2_with fail
        go_ret
        exact ⟨by rw [HL1.out]; rfl, by rw [HL1.out]; exact HIB.out, HTB.out⟩
end Go.Proofs.YtnakneabfnphkaaDoor
