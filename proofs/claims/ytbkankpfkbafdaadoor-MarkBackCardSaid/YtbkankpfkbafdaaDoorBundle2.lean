/- Words and contracts that this claim leans on, one text behind the other. -/
import Derived.Test.YtbkankpfkbafdaaDoorBundle1
import Derived.Test.YtbkankpfkbafdaaDoorShelf
import Derived.Laws.BitsAllLaws
import Derived.KernelRfl
import Derived.Deep.CutBlock
import Derived.Deep.CutRange
/- bits.Out: Text. -/
namespace Go.Proofs.YtbkankpfkbafdaaDoor
open Go.RowKit

def textOne (d : Int × List UInt8) (s : ByteArray) : Int × List UInt8 := if d.1 ≠ 0 then d else if 65535 < s.size then (2, d.2) else (0, d.2 ++ lowL s.size 2 ++ s.data.toList)
def textO (d : Int × List UInt8) (ts : List ByteArray) : Int × List UInt8 := ts.foldl textOne d
theorem textO_snoc (d : Int × List UInt8) (ts : List ByteArray) (s : ByteArray) : textO d (ts ++ [s]) = textOne (textO d ts) s := by simp [textO, List.foldl_append]
theorem textO_err (d : Int × List UInt8) (ts : List ByteArray) (h : d.1 ≠ 0) : textO d ts = d := by
  induction ts with
  | nil => rfl
  | cons x xs ih => rw [textO, List.foldl_cons, textOne, if_pos h]; exact ih
theorem textO_stop (d : Int × List UInt8) (ts : List ByteArray) (k : Nat) (h : (textO d (ts.take k)).1 ≠ 0) : textO d ts = textO d (ts.take k) := by
  conv => lhs; rw [← List.take_append_drop k ts]
  rw [textO, List.foldl_append]
  exact textO_err _ _ h
theorem textO_len (d : Int × List UInt8) (ts : List ByteArray) : ((textO d ts).2.length : Int) ≤ d.2.length + totalLen ts + 2 * ts.length := by
  induction ts generalizing d with
  | nil => simp [textO, totalLen]
  | cons x xs ih =>
    have h := ih (textOne d x)
    have h2 : ((textOne d x).2.length : Int) ≤ d.2.length + 2 + x.size := by
      unfold textOne
      split
      · omega
      · split
        · show (d.2.length : Int) ≤ _; omega
        · simp only [List.length_append, lowL_length, data_length]; omega
    have h3 : totalLen (x :: xs) = x.size + totalLen xs := by simp [totalLen]
    rw [textO, List.foldl_cons]
    rw [textO] at h
    rw [List.length_cons, h3]
    omega
theorem text_parts (l : List UInt8) (s : ByteArray) (h : s.size ≤ 65535) : layO 2 (0, l) [(s.size : Int)] = (0, l ++ lowL s.size 2) ∧ rawO (0, l ++ lowL s.size 2) [s] = (0, l ++ lowL s.size 2 ++ s.data.toList) := by
  constructor
  · have hb : layB 2 (s.size : Int) = false := decide_eq_false (by
      intro hh
      have e1 : (s.size : Int) / 2 ^ (8 * 2) = 0 := by show (s.size : Int) / 65536 = 0; omega
      omega)
    rw [layO, List.foldl_cons, List.foldl_nil, layOne, if_neg (by simp), if_neg (by simp [hb])]
    simp
  · rw [rawO, if_neg (by simp)]
    simp [joinB]
end Go.Proofs.YtbkankpfkbafdaaDoor

/- bits.In: what is left, with its error; Raw, numbers, texts, Left, Rest, End. -/
namespace Go.Proofs.YtbkankpfkbafdaaDoor
open Go.RowKit

theorem clone_calls (s : ByteArray) (w : World) (hs : s.size ≤ 1000000000) : Calls Tryd.prog 55 #[.string s] w fun e w' => e = .returned (.string s) ∧ Below w.heap.size w w' := by
  go_enter Tryd.func55, Tryd.ntmps55
  go_wp2_with fail
  refine (Tryd.stringslite_Clone s _ (by omega)).mono ?_
  rintro e w1 ⟨rfl, hb⟩
  go_wp2
  go_ret
  exact ⟨rfl, hb⟩

/-- An In at a block: its error, what is left. -/
structure InS (w : World) (g : Nat) (e : Int) (s : ByteArray) : Prop where
  c0 : w.cell? ⟨g, 0, none⟩ = some (.string s)
  c1 : w.cell? ⟨g, 1, none⟩ = some (.int .i64 e)
  f0 : w.frozen? ⟨g, 0, none⟩ = false
  f1 : w.frozen? ⟨g, 1, none⟩ = false
section
variable {w w1 : World} {g : Nat} {e : Int} {s : ByteArray}
theorem InS.lt (h : InS w g e s) : g < w.heap.size := World.block_lt_of_cell? w _ h.c0
theorem InS.touched {bs : List Nat} (h : InS w g e s) (hT : Touched w w1 bs) (hn : g ∉ bs) : InS w1 g e s :=
  ⟨(hT.cell h.lt hn).trans h.c0, (hT.cell h.lt hn).trans h.c1, (hT.free h.lt hn).trans h.f0, (hT.free h.lt hn).trans h.f1⟩
theorem InS.below (h : InS w g e s) (hb : Below w.heap.size w w1) : InS w1 g e s := h.touched (Touched.of_below hb []) (by simp)
theorem InS.set (h : InS w g e s) (t : ByteArray) : InS (w.setCell ⟨g, 0, none⟩ (.string t)) g e t :=
  ⟨World.cell?_setCell_same' w _ _ (by rw [h.c0]; simp), (World.cell?_setCell_other w ⟨g, 0, none⟩ ⟨g, 1, none⟩ _ (by simp)).trans h.c1, by rw [World.frozen?_setCell]; exact h.f0, by rw [World.frozen?_setCell]; exact h.f1⟩
theorem InS.fail (h : InS w g e s) (x : Int) : InS (w.setCell ⟨g, 1, none⟩ (.int .i64 x)) g x s :=
  ⟨(World.cell?_setCell_other w ⟨g, 1, none⟩ ⟨g, 0, none⟩ _ (by simp)).trans h.c0, World.cell?_setCell_same' w _ _ (by rw [h.c1]; simp), by rw [World.frozen?_setCell]; exact h.f0, by rw [World.frozen?_setCell]; exact h.f1⟩
end
theorem on_calls (s : ByteArray) (w : World) : Calls Tryd.prog 33 #[.string s] w fun e w' => e = .returned (.pointer (some ⟨w.heap.size, 0, none⟩)) ∧ InS w' w.heap.size 0 s ∧ Below w.heap.size w w' := by
  go_enter Tryd.func33, Tryd.ntmps33
  go_wp2
  go_ret
  refine ⟨rfl, ?_, (Below.refl _ _).alloc (Nat.le_refl _) _⟩
  have hb := heap_alloc_new w (.cells #[.string s, .int .i64 0] 75)
  exact ⟨cell_of_row _ _ 0 _ _ (0, 0) hb, cell_of_row _ _ 1 _ _ (0, 0) hb, frozen_of_row _ _ 0 _ _ hb, frozen_of_row _ _ 1 _ _ hb⟩

/-- Raw. -/
def rawI (e : Int) (s : ByteArray) (n : Int) : ByteArray × Int × ByteArray :=
  if e ≠ 0 then (ByteArray.empty, e, s) else if n < 0 then (ByteArray.empty, 1, s) else if (s.size : Int) < n then (ByteArray.empty, 5, s) else (s.extract 0 n.toNat, 0, s.extract n.toNat s.size)
theorem inRaw_calls (g : Nat) (n e : Int) (s : ByteArray) (w : World) (h : InS w g e s) (hs : s.size ≤ 1000000000) :
    Calls Tryd.prog 35 #[.pointer (some ⟨g, 0, none⟩), .int .i64 n] w fun r w' => r = .returned (.string (rawI e s n).1) ∧ InS w' g (rawI e s n).2.1 (rawI e s n).2.2 ∧ Touched w w' [g] := by
  have H : Box _ := ⟨h⟩
  have k0 := h.c0
  have k1 := h.c1
  have e0 := h.f0
  have e1 := h.f1
  clear h
  by_cases he : e = 0
  case neg =>
    rw [rawI, if_pos he]
    go_enter Tryd.func35, Tryd.ntmps35
    go_wp2_with fail
    go_ret
    exact ⟨rfl, H.out, Touched.refl _ _⟩
  subst he
  by_cases hn : n < 0
  · rw [rawI, if_neg (by simp), if_pos hn]
    go_enter Tryd.func35, Tryd.ntmps35
    go_wp2_with fail
    go_ret
    exact ⟨rfl, H.out.fail 1, (Touched.refl w _).setCell (.inl (by simp)) _⟩
  by_cases hl : (s.size : Int) < n
  · rw [rawI, if_neg (by simp), if_neg hn, if_pos hl]
    go_enter Tryd.func35, Tryd.ntmps35
    go_wp2_with fail
    go_ret
    exact ⟨rfl, H.out.fail 5, (Touched.refl w _).setCell (.inl (by simp)) _⟩
  obtain ⟨m, rfl⟩ : ∃ m : Nat, n = (m : Int) := ⟨n.toNat, by omega⟩
  rw [rawI, if_neg (by simp), if_neg hn, if_neg hl, Int.toNat_natCast]
  have H2 : Box _ := ⟨H.out.set (s.extract m s.size)⟩
  have HT : Box (Touched w (w.setCell ⟨g, 0, none⟩ (.string (s.extract m s.size))) [g]) := ⟨(Touched.refl w _).setCell (.inl (by simp)) _⟩
  have hes : (s.extract 0 m).size ≤ 1000000000 := by rw [ByteArray.size_extract]; omega
  have b1 : (0 : Int) ≤ (m : Int) := by omega
  have b2 : (m : Int) ≤ (s.size : Int) := by omega
  go_enter Tryd.func35, Tryd.ntmps35
  go_wp2_with fail
  refine (clone_calls _ _ hes).mono ?_
  rintro e w1 ⟨rfl, hb⟩
  have HB : Box _ := ⟨hb⟩
  clear hb
  go_wp2_with fail
  go_ret
  have hT2 := Touched.of_below HB.out []
  exact ⟨rfl, H2.out.touched hT2 (by simp), HT.out.trans (hT2.mono (by simp))⟩
theorem rawI_size (e : Int) (s : ByteArray) (n : Int) : (rawI e s n).1.size ≤ s.size ∧ (rawI e s n).2.2.size ≤ s.size ∧ (0 ≤ n → ((rawI e s n).1.size : Int) ≤ n) := by
  unfold rawI
  split
  · exact ⟨by show 0 ≤ s.size; omega, Nat.le_refl _, fun h => h⟩
  · split
    · exact ⟨by show 0 ≤ s.size; omega, Nat.le_refl _, fun h => h⟩
    · split
      · exact ⟨by show 0 ≤ s.size; omega, Nat.le_refl _, fun h => h⟩
      · simp only [ByteArray.size_extract]
        omega

/-- Left. -/
def leftI (e : Int) (s : ByteArray) : Int := if e ≠ 0 then 0 else (s.size : Int)
end Go.Proofs.YtbkankpfkbafdaaDoor

/- bits.In: numbers, texts. -/
namespace Go.Proofs.YtbkankpfkbafdaaDoor
open Go.RowKit

theorem numL_snoc (l : List UInt8) (b : UInt8) : numL (l ++ [b]) = numL l + 256 ^ l.length * b.toNat := by
  induction l with
  | nil => simp [numL]
  | cons c r ih =>
    rw [List.cons_append, numL, ih, numL, List.length_cons, Nat.pow_succ, Nat.mul_add, ← Nat.mul_assoc, Nat.mul_comm 256 (256 ^ r.length)]
    omega
theorem numL_or (l : List UInt8) (b : UInt8) (hl : l.length < 8) : bits BinOp.or IntKind.u64 (numL l : Int) ((b.toNat : Int) * 2 ^ (8 * l.length) % 18446744073709551616) = (numL (l ++ [b]) : Int) := by
  have h1 := numL_lt l
  have hb := b.toNat_lt
  have hp : (256 : Nat) ^ l.length = 2 ^ (8 * l.length) := by rw [Nat.pow_mul]
  have hle : (256 : Nat) ^ l.length ≤ 256 ^ 7 := Nat.pow_le_pow_right (by decide) (by omega)
  have h3 : (256 : Nat) ^ 7 = 72057594037927936 := by decide
  have hm : 256 ^ l.length * b.toNat ≤ 72057594037927936 * 255 := Nat.mul_le_mul (by omega) (by omega)
  have e : ((b.toNat : Int) * 2 ^ (8 * l.length) % 18446744073709551616) = ((256 ^ l.length * b.toNat : Nat) : Int) := by
    have e2 : (b.toNat : Int) * 2 ^ (8 * l.length) = ((256 ^ l.length * b.toNat : Nat) : Int) := by
      rw [hp, Int.natCast_mul, Int.natCast_pow, Int.mul_comm]; rfl
    rw [e2]
    omega
  rw [e, u64_or_nat _ _ (by omega) (by omega), numL_snoc, Nat.or_comm]
  rw [hp] at h1 ⊢
  rw [← Nat.two_pow_add_eq_or_of_lt h1, Nat.add_comm]

/-- A number of so many bytes. -/
def lowI (e : Int) (s : ByteArray) (size : Nat) : Int × Int × ByteArray :=
  if 9223372036854775808 ≤ numL (rawI e s size).1.data.toList then (0, 6, (rawI e s size).2.2) else ((numL (rawI e s size).1.data.toList : Int), (rawI e s size).2.1, (rawI e s size).2.2)
theorem lowI_size (e : Int) (s : ByteArray) (size : Nat) : (lowI e s size).2.2.size ≤ s.size := by
  have := (rawI_size e s size).2.1
  unfold lowI
  split <;> exact this
set_option maxHeartbeats 1600000 in
set_option maxRecDepth 20000 in
theorem inLow_calls (size : Nat) (h8 : size ≤ 8) (g : Nat) (e : Int) (s0 : ByteArray) (w : World) (h : InS w g e s0) (hs0 : s0.size ≤ 1000000000) :
    Calls Tryd.prog 54 #[.pointer (some ⟨g, 0, none⟩), .int .i64 (size : Int)] w fun r w' => r = .returned (.int .i64 (lowI e s0 size).1) ∧ InS w' g (lowI e s0 size).2.1 (lowI e s0 size).2.2 ∧ Touched w w' [g] := by
  have HRo : Box _ := ⟨inRaw_calls g (size : Int) e s0 w h hs0⟩
  have hz := (rawI_size e s0 (size : Int)).2.2 (by omega)
  have hlow : ∀ t : ByteArray, ∀ x : Int, ∀ u : ByteArray, rawI e s0 (size : Int) = (t, x, u) → lowI e s0 size = if 9223372036854775808 ≤ numL t.data.toList then (0, 6, u) else ((numL t.data.toList : Int), x, u) := by
    intro t x u hh
    rw [lowI, hh]
  obtain ⟨⟨s, x, u⟩, hd⟩ : ∃ d, rawI e s0 (size : Int) = d := ⟨_, rfl⟩
  rw [hd] at HRo hz
  have HLo : Box _ := ⟨hlow s x u hd⟩
  clear h hlow hd
  obtain ⟨r0, hr0⟩ : ∃ r0, lowI e s0 size = r0 := ⟨_, rfl⟩
  rw [hr0] at HLo ⊢
  clear hr0
  have hs1 : s.size ≤ 8 := by
    have h1 : ((s.size : Nat) : Int) ≤ (size : Int) := hz
    omega
  have kb := fun (W : World) (s : ByteArray) => Lib.run_convert_string_bytes (P := Tryd.prog) W 9 31 5 s Tryd.underlying9 Tryd.underlying31 Tryd.underlying5
  clear hz
  go_enter Tryd.func54, Tryd.ntmps54
  go_wp2_with fail
  refine HRo.out.mono ?_
  rintro e w1 ⟨rfl, hI, hT⟩
  have HT : Box _ := ⟨hT⟩
  have HI : Box _ := ⟨hI⟩
  clear hT hI HRo
  go_wp2_with fail
  have HOB : Box _ := ⟨Own.bytes w1 5 s (by simp only [maxLen]; omega)⟩
  have HTB : Box (Touched w (Lib.bytesWorld w1 5 s) [g]) := ⟨HT.out.trans (Touched.of_below (bytes_below w1 5 s) [] |>.mono (by simp))⟩
  have HIB : Box (InS (Lib.bytesWorld w1 5 s) g x u) := ⟨HI.out.below (bytes_below w1 5 s)⟩
  have hn0 : numL s.data.toList < 18446744073709551616 := by
    have h1 := numL_lt s.data.toList
    rw [data_length] at h1
    have h2 : 256 ^ s.size ≤ 256 ^ 8 := Nat.pow_le_pow_right (by decide) hs1
    have h3 : (256 : Nat) ^ 8 = 18446744073709551616 := by decide
    omega
  go_loop [5, 13] (fun x i => ∃ k : Nat, k ≤ s.size ∧ i = .int .i64 (k : Int) ∧ x = .int .u64 (numL (s.data.toList.take k) : Int)) (fun _ i => s.size - (intOf i).toNat)
  case atStart => exact ⟨0, by omega, rfl, rfl⟩
  case round =>
    obtain ⟨k, hk, rfl, rfl⟩ := hrel
    by_cases hlt : k < s.size
    · have hlen : (s.data.toList.take k).length = k := by rw [List.length_take, data_length]; omega
      have hor := numL_or (s.data.toList.take k) s[k] (by omega)
      rw [hlen, ← take_snoc_str s k hlt] at hor
      obtain ⟨p, hp⟩ : ∃ p, numL (s.data.toList.take k) = p := ⟨_, rfl⟩
      obtain ⟨q, hq⟩ : ∃ q, numL (s.data.toList.take (k + 1)) = q := ⟨_, rfl⟩
      rw [hp, hq] at hor
      rw [hp]
      obtain ⟨c0, f0⟩ := HOB.out.cell (j := k) (u := .int .u8 (s[k].toNat : Int)) (bcells_at (by rw [Array.getElem?_toList, Array.getElem?_eq_getElem (show k < s.data.size from hlt)]; rfl))
      have y3 := IntWalk.i64_in (8 * (k : Int)) (by omega)
      have y4 : (8 * (k : Int)).toNat = 8 * k := by omega
      have y5 : (0 : Int) ≤ 8 * (k : Int) := by omega
      have HQ := Lib.hid hq
      have hw1 : IntKind.u64.wrap (s[k].toNat : Int) = (s[k].toNat : Int) := by rw [IntKind.wrap_u64]; have := s[k].toNat_lt; omega
      have HOR : Box (bits BinOp.or IntKind.u64 (p : Int) (IntKind.u64.wrap ((s[k].toNat : Int) * 2 ^ (8 * k))) = (q : Int)) := ⟨by rw [IntKind.wrap_u64]; exact hor⟩
      clear hor
      clear hlen hp hq
      go_wp2_with fail
      go_round
      case rel => exact ⟨k + 1, by omega, by go_num, by first | rw [HOR.out, HQ.out] | rw [hw1, HOR.out, HQ.out]⟩
      case measure => simp [intOf]; omega
    · obtain rfl : k = s.size := by omega
      have ht : s.data.toList.take s.size = s.data.toList := List.take_of_length_le (by rw [data_length]; omega)
      rw [ht]
      obtain ⟨p, hp⟩ : ∃ p, numL s.data.toList = p := ⟨_, rfl⟩
      rw [hp] at hn0 HLo ⊢
      clear ht hp
      by_cases hbig : 9223372036854775808 ≤ p
      · have HL1 : Box (r0 = (0, 6, u)) := ⟨by rw [HLo.out, if_pos hbig]⟩
        have y6 : IntKind.i64.wrap (p : Int) = (p : Int) - 18446744073709551616 := by rw [IntKind.wrap_i64]; omega
        have y7 : (p : Int) - 18446744073709551616 < 0 := by omega
        have f1 := HIB.out.f1
        have k1 := HIB.out.c1
        go_wp2_with fail
        go_ret
        exact ⟨by rw [HL1.out]; rfl, by rw [HL1.out]; exact HIB.out.fail 6, HTB.out.setCell (.inl (by simp)) _⟩
      · have HL1 : Box (r0 = ((p : Int), x, u)) := ⟨by rw [HLo.out, if_neg hbig]⟩
        have y6 := IntWalk.i64_in (p : Int) (by omega)
        have y7 : (0 : Int) ≤ (p : Int) := by omega
        go_wp2_with fail
        go_ret
        exact ⟨by rw [HL1.out]; rfl, by rw [HL1.out]; exact HIB.out, HTB.out⟩
end Go.Proofs.YtbkankpfkbafdaaDoor

/- bits.In: Byte, Half, Word, Long (printed: alike), Text, Rest, End; of a nil reader. -/
namespace Go.Proofs.YtbkankpfkbafdaaDoor
open Go.RowKit

theorem inRaw_nil (n : Int) (w : World) : Calls Tryd.prog 35 #[.pointer none, .int .i64 n] w fun r w' => r = .returned (.string ByteArray.empty) ∧ w = w' := by
  go_enter Tryd.func35, Tryd.ntmps35
  go_wp2_with fail
  go_ret
  exact ⟨rfl, rfl⟩
theorem inLow_nil (size : Nat) (w : World) : Calls Tryd.prog 54 #[.pointer none, .int .i64 (size : Int)] w fun r w' => r = .returned (.int .i64 0) ∧ Below w.heap.size w w' := by
  have H : Box _ := ⟨fun W => inRaw_nil (size : Int) W⟩
  have kb := fun (W : World) (s : ByteArray) => Lib.run_convert_string_bytes (P := Tryd.prog) W 9 31 5 s Tryd.underlying9 Tryd.underlying31 Tryd.underlying5
  have HB : Box _ := ⟨bytes_below w 5 ByteArray.empty⟩
  have hz : ByteArray.empty.size = 0 := rfl
  go_enter Tryd.func54, Tryd.ntmps54
  go_wp2_with fail
  refine Calls.mono (H.out _) ?_
  rintro r w1 ⟨rfl, rfl⟩
  go_wp2_with fail
  go_loop [5, 13] (fun x i => i = .int .i64 0 ∧ x = .int .u64 0) (fun _ i => 1)
  case atStart => exact ⟨rfl, rfl⟩
  case round =>
    obtain ⟨rfl, rfl⟩ := hrel
    go_wp2_with fail
    go_ret
    exact ⟨rfl, HB.out⟩

theorem inByte_calls (g : Nat) (e : Int) (s : ByteArray) (w : World) (h : InS w g e s) (hs : s.size ≤ 1000000000) :
    Calls Tryd.prog 34 #[.pointer (some ⟨g, 0, none⟩)] w fun r w' => r = .returned (.int .i64 (lowI e s 1).1) ∧ InS w' g (lowI e s 1).2.1 (lowI e s 1).2.2 ∧ Touched w w' [g] := by
  have H : Box _ := ⟨inLow_calls 1 (by omega) g e s w h hs⟩
  clear h
  obtain ⟨d, hd⟩ : ∃ d, lowI e s 1 = d := ⟨_, rfl⟩
  rw [hd] at H ⊢
  clear hd
  go_enter Tryd.func34, Tryd.ntmps34
  go_wp2_with fail
  refine Calls.mono H.out ?_
  rintro r w1 ⟨rfl, h1, h2⟩
  go_wp2_with fail
  go_ret
  exact ⟨rfl, h1, h2⟩
theorem inByte_nil (w : World) : Calls Tryd.prog 34 #[.pointer none] w fun r w' => r = .returned (.int .i64 0) ∧ Below w.heap.size w w' := by
  have H : Box _ := ⟨fun W => inLow_nil 1 W⟩
  go_enter Tryd.func34, Tryd.ntmps34
  go_wp2_with fail
  refine Calls.mono (H.out _) ?_
  rintro r w1 ⟨rfl, h1⟩
  go_wp2_with fail
  go_ret
  exact ⟨rfl, h1⟩

theorem inHalf_calls (g : Nat) (e : Int) (s : ByteArray) (w : World) (h : InS w g e s) (hs : s.size ≤ 1000000000) :
    Calls Tryd.prog 46 #[.pointer (some ⟨g, 0, none⟩)] w fun r w' => r = .returned (.int .i64 (lowI e s 2).1) ∧ InS w' g (lowI e s 2).2.1 (lowI e s 2).2.2 ∧ Touched w w' [g] := by
  have H : Box _ := ⟨inLow_calls 2 (by omega) g e s w h hs⟩
  clear h
  obtain ⟨d, hd⟩ : ∃ d, lowI e s 2 = d := ⟨_, rfl⟩
  rw [hd] at H ⊢
  clear hd
  go_enter Tryd.func46, Tryd.ntmps46
  go_wp2_with fail
  refine Calls.mono H.out ?_
  rintro r w1 ⟨rfl, h1, h2⟩
  go_wp2_with fail
  go_ret
  exact ⟨rfl, h1, h2⟩
theorem inHalf_nil (w : World) : Calls Tryd.prog 46 #[.pointer none] w fun r w' => r = .returned (.int .i64 0) ∧ Below w.heap.size w w' := by
  have H : Box _ := ⟨fun W => inLow_nil 2 W⟩
  go_enter Tryd.func46, Tryd.ntmps46
  go_wp2_with fail
  refine Calls.mono (H.out _) ?_
  rintro r w1 ⟨rfl, h1⟩
  go_wp2_with fail
  go_ret
  exact ⟨rfl, h1⟩

/-- Text. -/
def textI (e : Int) (s : ByteArray) : ByteArray × Int × ByteArray := rawI (lowI e s 2).2.1 (lowI e s 2).2.2 (lowI e s 2).1
end Go.Proofs.YtbkankpfkbafdaaDoor

/- bits.In: Rest, End. -/
namespace Go.Proofs.YtbkankpfkbafdaaDoor
open Go.RowKit

/-- All that is left are zero bytes. -/
def zeroB (s : ByteArray) : Bool := s.data.toList.all (· == 0)
theorem dropAll_nil (p : UInt8 → Bool) (l : List UInt8) : l.dropWhile p = [] ↔ ∀ x ∈ l, p x = true := by
  induction l with
  | nil => simp
  | cons y ys ih =>
    rw [List.dropWhile_cons]
    by_cases h : p y = true
    · rw [if_pos h, ih]; simp [h]
    · rw [if_neg h]; simp [h]
theorem dropAll_head (p : UInt8 → Bool) (l : List UInt8) (y : UInt8) (ys : List UInt8) (h : l.dropWhile p = y :: ys) : ¬ p y = true := by
  induction l with
  | nil => simp at h
  | cons z zs ih =>
    rw [List.dropWhile_cons] at h
    by_cases hz : p z = true
    · rw [if_pos hz] at h; exact ih h
    · rw [if_neg hz] at h; injection h with h1 h2; rw [← h1]; exact hz
theorem trimB_nil (l : List UInt8) : Lib.trimB l 0 = [] ↔ l.all (· == 0) = true := by
  unfold Lib.trimB Lib.trimLeftB Lib.trimRightB
  rw [dropAll_nil, List.all_eq_true]
  constructor
  · intro h
    have h2 : l.reverse.dropWhile (· == (0 : UInt8)) = [] := by
      cases hd : l.reverse.dropWhile (· == (0 : UInt8)) with
      | nil => rfl
      | cons y ys =>
        have hy := h y (by rw [hd]; simp)
        exact absurd hy (dropAll_head (· == (0 : UInt8)) _ _ _ hd)
    rw [dropAll_nil] at h2
    exact fun x hx => h2 x (by simpa using hx)
  · intro h x hx
    have h2 : l.reverse.dropWhile (· == (0 : UInt8)) = [] := (dropAll_nil _ _).2 (fun x hx => h x (by simpa using hx))
    rw [h2] at hx
    simp at hx
theorem empty_toList : ByteArray.empty.toList = [] := by
  have h := str_beq ByteArray.empty ByteArray.empty
  cases hh : ByteArray.empty.toList with
  | nil => rfl
  | cons x xs => have := congrArg List.length hh; simp [ByteArray.toList, ByteArray.toList.loop] at this
theorem trim_zero (s : ByteArray) : (⟨(Lib.trimB s.data.toList 0).toArray⟩ : ByteArray).toList.isEmpty = zeroB s := by
  have e0 : ∀ t : ByteArray, t.toList.isEmpty = (t.toList == ByteArray.empty.toList) := by
    intro t; rw [empty_toList]; cases t.toList <;> rfl
  rw [e0, str_beq]
  have e1 : ((⟨(Lib.trimB s.data.toList 0).toArray⟩ : ByteArray) = ByteArray.empty) ↔ Lib.trimB s.data.toList 0 = [] := by
    constructor
    · intro h
      have := congrArg (fun b : ByteArray => b.data.toList) h
      simpa using this
    · intro h; rw [h]; rfl
  have e2 := e1.trans (trimB_nil s.data.toList)
  cases h : zeroB s
  · exact decide_eq_false (fun hh => by have := e2.1 hh; rw [zeroB] at h; rw [h] at this; cases this)
  · exact decide_eq_true (e2.2 h)
def restI (e : Int) (s : ByteArray) : Bool := decide (e = 0) && zeroB s
theorem inRest_calls (g : Nat) (e : Int) (s : ByteArray) (w : World) (h : InS w g e s) (hs : s.size ≤ 1000000000) :
    Calls Tryd.prog 36 #[.pointer (some ⟨g, 0, none⟩)] w fun r w' => r = .returned (.bool (restI e s)) ∧ Below w.heap.size w w' := by
  have k0 := h.c0
  have k1 := h.c1
  clear h
  by_cases he : e = 0
  · subst he
    have hr : restI 0 s = zeroB s := by simp [restI]
    rw [hr]
    have HT : Box _ := ⟨Tryd.strings_Trim_one s 0 (by decide) w (by omega)⟩
    have hz := trim_zero s
    clear hr
    obtain ⟨t, ht⟩ : ∃ t : ByteArray, ⟨(Lib.trimB s.data.toList 0).toArray⟩ = t := ⟨_, rfl⟩
    rw [ht] at HT hz
    clear ht
    obtain ⟨z, hz2⟩ : ∃ z, zeroB s = z := ⟨_, rfl⟩
    rw [hz2] at hz ⊢
    clear hz2
    go_enter Tryd.func36, Tryd.ntmps36
    go_wp2_with fail
    refine Calls.mono HT.out ?_
    rintro r w1 ⟨rfl, hw⟩
    have HB : Box (Below w.heap.size w w1) := ⟨by
      rcases hw with rfl | rfl
      · exact Below.refl _ _
      · exact below_drewN (Below.refl _ _) 1⟩
    clear hw
    go_wp2_with fail
    go_ret
    exact ⟨ret_bool (by first | rfl | exact hz), HB.out⟩
  · have hr : restI e s = false := by simp [restI, he]
    rw [hr]
    clear hr
    go_enter Tryd.func36, Tryd.ntmps36
    go_wp2_with fail
    go_ret
    exact ⟨rfl, Below.refl _ _⟩
theorem inRest_nil (w : World) : Calls Tryd.prog 36 #[.pointer none] w fun r w' => r = .returned (.bool false) ∧ w = w' := by
  go_enter Tryd.func36, Tryd.ntmps36
  go_wp2_with fail
  go_ret
  exact ⟨rfl, rfl⟩
/-- End. -/
def endI (e : Int) (s : ByteArray) : Int := if e = 0 ∧ zeroB s = false then 6 else e
end Go.Proofs.YtbkankpfkbafdaaDoor

/- masonrylaw1.alive: a first call; a new Out. -/
namespace Go.Proofs.YtbkankpfkbafdaaDoor
open Go.RowKit

theorem outNew (w : World) : OutS (w.alloc (.cells #[.slice none 0 0, .int .i64 0] 50)) w.heap.size (.slice none 0 0) 0 [] := by
  have hb := heap_alloc_new w (.cells #[.slice none 0 0, .int .i64 0] 50)
  exact ⟨⟨rfl, .inl ⟨rfl, rfl⟩⟩, cell_of_row _ _ 0 _ _ (0, 0) hb, cell_of_row _ _ 1 _ _ (0, 0) hb, frozen_of_row _ _ 0 _ _ hb, frozen_of_row _ _ 1 _ _ hb⟩
def aliveS : ByteArray := ⟨#[2, 1, 1, 0, 1, 0, 97]⟩
theorem alive_lay : layO 2 (0, []) [258, 1] = (0, [2, 1, 1, 0]) := by decide +kernel
theorem alive_text : textO (0, [2, 1, 1, 0]) [⟨#[97]⟩] = (0, [2, 1, 1, 0, 1, 0, 97]) := by decide +kernel
theorem alive_end : endO (0, [2, 1, 1, 0, 1, 0, 97]) = (aliveS, 0) := by decide +kernel
theorem alive_r1 : lowI 0 aliveS 2 = (258, 0, ⟨#[1, 0, 1, 0, 97]⟩) := by decide +kernel
theorem alive_r2 : lowI 0 ⟨#[1, 0, 1, 0, 97]⟩ 2 = (1, 0, ⟨#[1, 0, 97]⟩) := by decide +kernel
theorem alive_r3 : textI 0 ⟨#[1, 0, 97]⟩ = (⟨#[97]⟩, 0, ByteArray.empty) := by decide +kernel
theorem alive_r4 : endI 0 ByteArray.empty = 0 := by decide +kernel

end Go.Proofs.YtbkankpfkbafdaaDoor

/- bits.Out: Pad. -/
namespace Go.Proofs.YtbkankpfkbafdaaDoor
open Go.RowKit

theorem zeros_cells (n : Nat) : (zerosB n).data.map (fun b => Value.int .u8 (b.toNat : Int)) = Builtin.zeroCells #[Value.int .u8 0] n := by
  apply Array.ext
  · simp [zerosB, Builtin.zeroCells]
  · intro i h1 h2
    simp [zerosB, Builtin.zeroCells, Nat.mod_one]
theorem zeros_firstCells {P : Program} (w : World) (n : Nat) : (Builtin.firstCells 1 n (.string (zerosB n))).run P w = .ok (Builtin.zeroCells #[Value.int .u8 0] n) w := by
  have h : (zerosB n).extract 0 n = zerosB n := by
    have h2 : (zerosB n).extract 0 (zerosB n).size = zerosB n := by simp
    rwa [zerosB_size] at h2
  simp only [Builtin.firstCells, h, zeros_cells]
  rfl
theorem run_append_zeros {P : Program} {W : World} (t ti tu ty e : TypeId) (i : TypeInfo) (ht : P.underlying t = some (.slice e)) (hti : P.underlying ti = some (.int .i64)) (htu : P.underlying tu = some .string)
    (hi : P.info? e = some i) (hz : i.zero = some (.int .u8 0)) (hsize : i.size = 1) (hby : i.bytes = 1) (A : Option Addr) (m c n : Nat) (h : m + n ≤ 140737488355328) :
    (Builtin.append_ #[t, ti] ty #[.slice A m c, .int .i64 (n : Int)]).run P W = (Builtin.append_ #[t, tu] ty #[.slice A m c, .string (zerosB n)]).run P W := by
  obtain ⟨l, hl⟩ : ∃ l : Int, (n : Int) = l := ⟨_, rfl⟩
  rw [hl]
  have e1 : IntKind.i64.wrap l = l := IntWalk.i64_in _ (by omega)
  have e2 : ¬ (l < 0) := by omega
  have e3 : ¬ ((281474976710656 : Int) < l) := by omega
  have e9 : l.toNat = n := by omega
  have hzs := zerosB_size n
  have hf := fun w => zeros_firstCells (P := P) w n
  have hz1 : (Value.int .u8 0).cells = #[.int .u8 0] := rfl
  have e4 : ∀ w, (asInt (.int .i64 l)).run P w = .ok l w := fun w => rfl
  have e5 : ∀ w, (zeroValue e).run P w = .ok (.int .u8 0) w := by intro w; simp [zeroValue, typeInfo, hi, hz]
  have e7 : ¬ ((9223372036854775807 : Int) < (m : Int) + (n : Int)) := by omega
  have h00 : Builtin.zeroCells #[Value.int .u8 0] 0 = #[] := by simp [Builtin.zeroCells]
  have e8 : ¬ ((9223372036854775807 : Int) < (m : Int) + max l 0) := by omega
  by_cases hr : m + n ≤ c
  · by_cases h0 : n = 0
    · have hr' : m ≤ c := by omega
      rw [h0] at hzs hf e9 ⊢
      simp [Builtin.append_, run_underlying ht, run_underlying hti, run_underlying htu, sizeOf, typeInfo, hi, hsize, hby, Builtin.lenOf, hzs, e4, e1, e2, e3, e9, hf, hr', h00]
    · simp [Builtin.append_, run_underlying ht, run_underlying hti, run_underlying htu, sizeOf, typeInfo, hi, hsize, hby, Builtin.lenOf, hzs, e4, e1, e2, e3, e9, hf, h0, e5, hz1, hr]
  · have e6 : ¬ (281474976710656 < Builtin.nextslicecap (m + n) c) := by
      have := growslice_fits (need := m + n) (old := c) (bytes := 1) (by omega) (by omega)
      omega
    by_cases h0 : n = 0
    · have hr' : ¬ (m ≤ c) := by omega
      have e7' : ¬ ((9223372036854775807 : Int) < (m : Int)) := by omega
      rw [h0] at hzs hf e9 e6 ⊢
      rw [Nat.add_zero] at e6
      simp [Builtin.append_, run_underlying ht, run_underlying hti, run_underlying htu, sizeOf, typeInfo, hi, hsize, hby, Builtin.lenOf, hzs, e4, e1, e2, e3, e6, e7', e8, e9, hf, hr', h00]
    · simp [Builtin.append_, run_underlying ht, run_underlying hti, run_underlying htu, sizeOf, typeInfo, hi, hsize, hby, Builtin.lenOf, hzs, e4, e1, e2, e3, e6, e7, e8, e9, hf, h0, e5, hz1, hr]

/-- append(b, make([]byte, n)...) as a step of a region that draws its order. -/
theorem step_appZ {P : Program} {ops : Array Oper} {o : Oper} {a : Act} {K : Act → World → Prop} {Q : Exit → Act → World → Prop} {E' : Prop} {t ti tu e : TypeId} {i : TypeInfo} (ht : P.underlying t = some (.slice e)) (hti : P.underlying ti = some (.int .i64)) (htu : P.underlying tu = some .string)
    (hi : P.info? e = some i) (hz : i.zero = some (.int .u8 0)) (hsize : i.size = 1) (hby : i.bytes = 1) {W : World} (base : Nat) (hgd : o.guard = none) (s x : Operand)
    (ho : o.op = .call { callee := .builtin .append, args := #[s, x], argTypes := #[t, ti] })
    {v : Value} {n : Nat} {xs : List Value} (hs : a.eval s = v) (hown : W.ownsRow base e 1 v n xs)
    {m : Nat} (hx : a.eval x = .int .i64 (m : Int)) (hbytes : n + m ≤ 140737488355328) (hbase : base ≤ W.heap.size)
    (h : ∀ v' w', w'.ownsRow base e 1 v' (n + m) (xs ++ bcells (List.replicate m 0)) → W.grownBy w' v.ownBlock → (v'.ownBlock = v.ownBlock ∨ v'.ownBlock = some W.heap.size) → K (a.put o.dst v') w') :
    if Region.wanted o (yielded ops a.tmps) = true then Oper.wp P o a W K Q else E' := by
  have hw : Region.wanted o (yielded ops a.tmps) = true := by simp [Region.wanted, hgd]
  rw [if_pos hw]
  have hsz := zerosB_size m
  obtain ⟨v', w', hr, h2, h3, _⟩ := Lib.run_append_own_string (P := P) W base t tu o.type e i ht htu hi hz hsize hby v n xs hown (zerosB m) (by unfold maxLen; omega) (by omega) hbase
  have h4 := str_where base t tu o.type e i ht htu hi hz hsize hby v n xs hown (zerosB m) (by omega) v' w' hr
  obtain ⟨A, c, rfl, _, _, _⟩ := (Own.of_row hown).slice
  rw [← run_append_zeros t ti tu o.type e i ht hti htu hi hz hsize hby A n c m hbytes] at hr
  rw [hsz] at h2
  have h5 : Lib.strCells (zerosB m) = bcells (List.replicate m 0) := by simp [Lib.strCells, bcells, zerosB]
  rw [h5] at h2
  unfold Oper.wp execOp
  simp only [ho, resolve, invoke, builtin, Sem.run_bind, Sem.run_pure, Result.andThen_ok, List.map_toArray, List.map_cons, List.map_nil, hs, hx, hr]
  exact h v' w' h2 h3 h4

set_option maxHeartbeats 1600000 in
theorem outPad_ok (g : Nat) (v : Value) (l : List UInt8) (n : Nat) (w : World) (hO : OutS w g v 0 l) (hl : l.length ≤ n) (hn : n ≤ 65536) :
    Calls Tryd.prog 31 #[.pointer (some ⟨g, 0, none⟩), .int .i64 (n : Int)] w fun e w' => ∃ v', e = .returned (.pointer (some ⟨g, 0, none⟩)) ∧ OutS w' g v' 0 (l ++ List.replicate (n - l.length) 0) ∧ Touched w w' (g :: v.ownBlock.toList) ∧ (∀ b, v'.ownBlock = some b → v.ownBlock = some b ∨ w.heap.size ≤ b) := by
  have HO : Box (OutS w g v 0 l) := ⟨hO⟩
  clear hO
  obtain ⟨i0, hi0, hi1, hi2, hi3⟩ := u8_info
  have HI : Box (Tryd.prog.info? 5 = some i0 ∧ i0.zero = some (.int .u8 0) ∧ i0.size = 1 ∧ i0.bytes = 1) := ⟨hi0, hi1, hi2, hi3⟩
  clear hi0 hi1 hi2 hi3
  obtain ⟨m, hm⟩ : ∃ m, l.length = m := ⟨_, rfl⟩
  have HM : Box (l.length = m) := ⟨hm⟩
  rw [hm] at hl
  obtain ⟨a0, ca, rfl, _, _, _⟩ := (Own.of_row HO.out.own).slice
  have k0 := HO.out.c0
  have k1 := HO.out.c1
  have f0 := HO.out.f0
  rw [hm] at k0 HO
  rw [hm]
  clear hm
  have y1 := IntWalk.i64_in ((n - m : Nat) : Int) (by omega)
  have y2 : ((n : Int) - (m : Int)) = ((n - m : Nat) : Int) := by omega
  have y3 : (m : Int) ≤ (n : Int) := by omega
  have y4 : (n : Int) ≤ 65536 := by omega
  have y5 : (0 : Int) ≤ (n : Int) := by omega
  go_enter Tryd.func31, Tryd.ntmps31
  go_wp2_with fail
  obtain ⟨wo, rfl⟩ : ∃ wo : World, wo = w := ⟨_, rfl⟩
  go_region_law
    (first
      | (refine step_appZ Tryd.underlying31 Tryd.underlying3 Tryd.underlying9 HI.out.1 HI.out.2.1 HI.out.2.2.1 HI.out.2.2.2 (g + 1) rfl _ _ rfl (v := .slice a0 m ca) (n := m) (xs := bcells l) rfl (by have h := HO.out.own.drew; rw [HM.out] at h; exact h) (m := n - m) rfl (by omega) (by have := HO.out.lt; simp; omega) ?_; intro v1 w1 hown1 hg1 hp1; obtain ⟨a1, c1, rfl, _, _, _⟩ := (Own.of_row hown1).slice; have hT : Touched wo w1 (Value.slice a0 m ca).ownBlock.toList := (Touched.refl wo _).drew.trans (Touched.of_grown hg1); have k4 := (hT.cell HO.out.lt HO.out.apart).trans HO.out.c0; have e4 := (hT.free HO.out.lt HO.out.apart).trans HO.out.f0; have HT1 : Box _ := ⟨hT⟩; have HW1 : Box _ := ⟨hown1⟩; have HP1 : Box _ := ⟨hp1⟩; clear hown1 hg1 hT hp1))
  all_goals
    go_wp2_with fail
    go_ret
    have em : m + (n - m) = n := by omega
    rw [em] at HW1 HP1
    have hO2 : OutS (w1.setCell ⟨g, 0, none⟩ (.slice a1 n c1)) g (.slice a1 n c1) 0 (l ++ List.replicate (n - m) 0) := HO.out.grownT (by
      have h := HW1.out
      rw [bcells, List.map_append, List.length_append, HM.out, List.length_replicate, em]
      exact h) HT1.out
    have hT2 : Touched wo (w1.setCell ⟨g, 0, none⟩ (.slice a1 n c1)) (g :: (Value.slice a0 m ca).ownBlock.toList) := (HT1.out.mono (fun k hk _ => List.mem_cons_of_mem _ hk)).setCell (.inl (by simp)) _
    exact ⟨_, rfl, hO2, hT2, fun b hb => HP1.out.elim (fun h => .inl (by rw [← h]; exact hb)) (fun h => .inr (by rw [h] at hb; injection hb with hb; simp at hb; omega))⟩

/-- .. that has more already. -/
theorem outPad_long (g : Nat) (v : Value) (l : List UInt8) (n : Nat) (w : World) (hO : OutS w g v 0 l) (hl : n < l.length) (hn : n ≤ 65536) :
    Calls Tryd.prog 31 #[.pointer (some ⟨g, 0, none⟩), .int .i64 (n : Int)] w fun e w' => e = .returned (.pointer (some ⟨g, 0, none⟩)) ∧ OutTo w w' g v (2, l) := by
  have HE : Box (OutTo w (w.setCell ⟨g, 1, none⟩ (.int .i64 2)) g v (2, l)) := ⟨OutTo.fail hO _⟩
  obtain ⟨m, hm⟩ : ∃ m, l.length = m := ⟨_, rfl⟩
  obtain ⟨a0, ca, rfl, _, _, _⟩ := (Own.of_row hO.own).slice
  have k0 := hO.c0
  have k1 := hO.c1
  have f1 := hO.f1
  rw [hm] at hl k0
  clear hO hm
  have y3 : (n : Int) < (m : Int) := by omega
  have y4 : (n : Int) ≤ 65536 := by omega
  have y5 : (0 : Int) ≤ (n : Int) := by omega
  go_enter Tryd.func31, Tryd.ntmps31
  go_wp2_with fail
  go_ret
  exact ⟨rfl, HE.out⟩
/-- .. of a length that may not be. -/
theorem outPad_bad (g : Nat) (v : Value) (l : List UInt8) (n : Int) (w : World) (hO : OutS w g v 0 l) (hn : n < 0 ∨ 65536 < n) :
    Calls Tryd.prog 31 #[.pointer (some ⟨g, 0, none⟩), .int .i64 n] w fun e w' => e = .returned (.pointer (some ⟨g, 0, none⟩)) ∧ OutTo w w' g v (1, l) := by
  have HE : Box (OutTo w (w.setCell ⟨g, 1, none⟩ (.int .i64 1)) g v (1, l)) := ⟨OutTo.fail hO _⟩
  have k0 := hO.c0
  have k1 := hO.c1
  have f1 := hO.f1
  clear hO
  rcases hn with y3 | y3
  · go_enter Tryd.func31, Tryd.ntmps31
    go_wp2_with fail
    go_ret
    exact ⟨rfl, HE.out⟩
  · have y4 : ¬ n < 0 := by omega
    go_enter Tryd.func31, Tryd.ntmps31
    go_wp2_with fail
    go_ret
    exact ⟨rfl, HE.out⟩
/-- .. that bears an error. -/
theorem outPad_err (g : Nat) (x : Int) (n : Int) (w : World) (v : Value) (l : List UInt8) (hx : x ≠ 0) (hE : OutS w g v x l) :
    Calls Tryd.prog 31 #[.pointer (some ⟨g, 0, none⟩), .int .i64 n] w fun e w' => e = .returned (.pointer (some ⟨g, 0, none⟩)) ∧ w = w' := by
  have k1 := hE.c1
  have y1 := hx
  clear hE
  go_enter Tryd.func31, Tryd.ntmps31
  go_wp2_with fail
  go_ret
  exact ⟨rfl, rfl⟩

/-- Pad. -/
def padO (d : Int × List UInt8) (n : Int) : Int × List UInt8 :=
  if d.1 ≠ 0 then d else if n < 0 ∨ 65536 < n then (1, d.2) else if n < (d.2.length : Int) then (2, d.2) else (0, d.2 ++ List.replicate (n.toNat - d.2.length) 0)
theorem outPad_calls (g : Nat) (v : Value) (e : Int) (l : List UInt8) (n : Int) (w : World) (hO : OutS w g v e l) :
    Calls Tryd.prog 31 #[.pointer (some ⟨g, 0, none⟩), .int .i64 n] w fun r w' => r = .returned (.pointer (some ⟨g, 0, none⟩)) ∧ OutTo w w' g v (padO (e, l) n) := by
  by_cases he : e = 0
  · subst he
    by_cases h1 : n < 0 ∨ 65536 < n
    · rw [padO, if_neg (by simp), if_pos h1]
      exact outPad_bad g v l n w hO h1
    · obtain ⟨m, rfl⟩ : ∃ m : Nat, n = (m : Int) := ⟨n.toNat, by omega⟩
      by_cases h2 : (m : Int) < (l.length : Int)
      · rw [padO, if_neg (by simp), if_neg h1, if_pos h2]
        exact outPad_long g v l m w hO (by omega) (by omega)
      · rw [padO, if_neg (by simp), if_neg h1, if_neg h2, Int.toNat_natCast]
        exact (outPad_ok g v l m w hO (by omega) (by omega)).mono fun r w' ⟨v', h1, h2, h3, h4⟩ => ⟨h1, ⟨v', h2, h4⟩, h3⟩
  · rw [padO, if_pos he]
    refine (outPad_err g e n w v l he hO).mono fun r w' ⟨h1, h2⟩ => ⟨h1, ?_⟩
    subst h2
    exact OutTo.refl hO
end Go.Proofs.YtbkankpfkbafdaaDoor

/- An Out, an In of a law's own: all calls on it, said in one form (the world it began in; what it holds). -/
namespace Go.Proofs.YtbkankpfkbafdaaDoor
open Go.RowKit

structure OutI (w0 w : World) (g : Nat) (d : Int × List UInt8) : Prop where
  ex : ∃ v, OutS w g v d.1 d.2 ∧ ∀ b, v.ownBlock = some b → w0.heap.size ≤ b
  ge : w0.heap.size ≤ g
  bel : Below w0.heap.size w0 w
structure InI (w0 w : World) (g : Nat) (d : Int × ByteArray) : Prop where
  at_ : InS w g d.1 d.2
  ge : w0.heap.size ≤ g
  bel : Below w0.heap.size w0 w
section
variable {P : Program} {f : FuncId} {args : Array Value} {w0 w w1 : World} {g : Nat} {R : Ending}
theorem OutI.step {d d' : Int × List UInt8} (h : OutI w0 w g d) (c : ∀ v, OutS w g v d.1 d.2 → Calls P f args w1 fun r w' => r = R ∧ OutTo w w' g v d') : Calls P f args w1 fun r w' => r = R ∧ OutI w0 w' g d' := by
  obtain ⟨v, hv, hb⟩ := h.ex
  refine (c v hv).mono fun r w' ⟨h1, h2⟩ => ⟨h1, ?_⟩
  obtain ⟨⟨v', h3, h4⟩, h5⟩ := h2
  refine ⟨⟨v', h3, fun b hb' => ?_⟩, h.ge, h5.below h.bel h.bel.size ?_⟩
  · rcases h4 b hb' with h6 | h6
    · exact hb b h6
    · exact Nat.le_trans h.bel.size h6
  · intro k hk
    simp only [List.mem_cons, Option.mem_toList] at hk
    rcases hk with rfl | hk
    · exact h.ge
    · exact hb k hk
theorem OutI.below {d : Int × List UInt8} (h : OutI w0 w g d) (hb : Below w.heap.size w w1) : OutI w0 w1 g d := by
  obtain ⟨v, hv, hv2⟩ := h.ex
  exact ⟨⟨v, hv.below hb, hv2⟩, h.ge, below_trans' h.bel hb⟩
theorem OutI.new (h : Below w0.heap.size w0 w) : OutI w0 (w.alloc (.cells #[.slice none 0 0, .int .i64 0] 50)) w.heap.size (0, []) :=
  ⟨⟨_, outNew w, by simp [Value.ownBlock]⟩, h.size, h.alloc h.size _⟩
theorem InI.step {d : Int × ByteArray} {e : Int} {s : ByteArray} (h : InI w0 w g d) (c : InS w g d.1 d.2 → Calls P f args w fun r w' => r = R ∧ InS w' g e s ∧ Touched w w' [g]) : Calls P f args w fun r w' => r = R ∧ InI w0 w' g (e, s) :=
  (c h.at_).mono fun r w' ⟨h1, h2, h3⟩ => ⟨h1, h2, h.ge, h3.below h.bel h.bel.size (by have := h.ge; simpa using this)⟩
theorem InI.below {d : Int × ByteArray} (h : InI w0 w g d) (hb : Below w.heap.size w w1) : InI w0 w1 g d := ⟨h.at_.below hb, h.ge, below_trans' h.bel hb⟩
end
section
variable {w0 w : World} {g : Nat}
theorem outByte_in {d : Int × List UInt8} (h : OutI w0 w g d) (n : Nat) (xs : List Int) (hxn : xs.length = n) (hn : n ≤ 1000000) (hsz : d.2.length ≤ 1000000000) (hx : ∀ z ∈ xs, -9223372036854775808 ≤ z ∧ z ≤ 9223372036854775807) :
    Calls Tryd.prog 29 #[.pointer (some ⟨g, 0, none⟩), .slice (some ⟨w.heap.size, 0, none⟩) n n] (w.alloc (.cells (icells xs).toArray 3)) fun r w' => r = .returned (.pointer (some ⟨g, 0, none⟩)) ∧ OutI w0 w' g (layO 1 d xs) :=
  h.step fun v hv => outByte_new g v d.1 d.2 n xs w hxn hv hn hsz hx
theorem inByte_in {d : Int × ByteArray} (h : InI w0 w g d) (hs : d.2.size ≤ 1000000000) :
    Calls Tryd.prog 34 #[.pointer (some ⟨g, 0, none⟩)] w fun r w' => r = .returned (.int .i64 (lowI d.1 d.2 1).1) ∧ InI w0 w' g (lowI d.1 d.2 1).2 :=
  h.step fun hv => inByte_calls g d.1 d.2 w hv hs
theorem inHalf_in {d : Int × ByteArray} (h : InI w0 w g d) (hs : d.2.size ≤ 1000000000) :
    Calls Tryd.prog 46 #[.pointer (some ⟨g, 0, none⟩)] w fun r w' => r = .returned (.int .i64 (lowI d.1 d.2 2).1) ∧ InI w0 w' g (lowI d.1 d.2 2).2 :=
  h.step fun hv => inHalf_calls g d.1 d.2 w hv hs
theorem outRaw_in {d : Int × List UInt8} (h : OutI w0 w g d) (n : Nat) (ts : List ByteArray) (hts : ts.length = n) (hn : n ≤ 1000000) (hsz : d.2.length + totalLen ts ≤ 140737488355328) :
    Calls Tryd.prog 30 #[.pointer (some ⟨g, 0, none⟩), .slice (some ⟨w.heap.size, 0, none⟩) n n] (w.alloc (.cells (scells ts).toArray 9)) fun r w' => r = .returned (.pointer (some ⟨g, 0, none⟩)) ∧ OutI w0 w' g (rawO d ts) :=
  h.step fun v hv => outRaw_new g v d.1 d.2 n ts w hts hv hn hsz
theorem outPad_in {d : Int × List UInt8} (h : OutI w0 w g d) (n : Int) :
    Calls Tryd.prog 31 #[.pointer (some ⟨g, 0, none⟩), .int .i64 n] w fun r w' => r = .returned (.pointer (some ⟨g, 0, none⟩)) ∧ OutI w0 w' g (padO d n) :=
  h.step fun v hv => outPad_calls g v d.1 d.2 n w hv
theorem outEnd_in {d : Int × List UInt8} (h : OutI w0 w g d) :
    Calls Tryd.prog 32 #[.pointer (some ⟨g, 0, none⟩)] w fun r w' => r = .returned (.tuple #[.string (endO d).1, .int .i64 (endO d).2]) ∧ OutI w0 w' g d := by
  obtain ⟨v, hv, hb⟩ := h.ex
  exact (outEnd_calls g v d.1 d.2 w hv).mono fun r w' ⟨h1, h2⟩ => ⟨h1, h.below h2⟩
theorem on_in (s : ByteArray) (h : Below w0.heap.size w0 w) : Calls Tryd.prog 33 #[.string s] w fun r w' => ∃ g, r = .returned (.pointer (some ⟨g, 0, none⟩)) ∧ InI w0 w' g (0, s) :=
  (on_calls s w).mono fun r w' ⟨h1, h2, h3⟩ => ⟨_, h1, h2, h.size, below_trans' h h3⟩
theorem inRaw_in {d : Int × ByteArray} (h : InI w0 w g d) (n : Int) (hs : d.2.size ≤ 1000000000) :
    Calls Tryd.prog 35 #[.pointer (some ⟨g, 0, none⟩), .int .i64 n] w fun r w' => r = .returned (.string (rawI d.1 d.2 n).1) ∧ InI w0 w' g (rawI d.1 d.2 n).2 :=
  h.step fun hv => inRaw_calls g n d.1 d.2 w hv hs
theorem inRest_in {d : Int × ByteArray} (h : InI w0 w g d) (hs : d.2.size ≤ 1000000000) : Calls Tryd.prog 36 #[.pointer (some ⟨g, 0, none⟩)] w fun r w' => r = .returned (.bool (restI d.1 d.2)) ∧ InI w0 w' g d :=
  (inRest_calls g d.1 d.2 w h.at_ hs).mono fun r w' ⟨h1, h2⟩ => ⟨h1, h.below h2⟩
end
end Go.Proofs.YtbkankpfkbafdaaDoor

/- What was laid is read as it was: plain; make([]byte, n) and string of it. -/
namespace Go.Proofs.YtbkankpfkbafdaaDoor
open Go.RowKit

theorem zeros_str (n : Nat) (hn : n ≤ 281474976710656) (W : World) : (convert 31 9 (.slice (some ⟨W.heap.size, 0, none⟩) n n)).run Tryd.prog (W.alloc (.cells (bcells (List.replicate n 0)).toArray 5)) = .ok (.string (zerosB n)) (W.alloc (.cells (bcells (List.replicate n 0)).toArray 5)) := by
  have h := bytes_str Tryd.prog 31 5 9 Tryd.underlying31 Tryd.underlying5 Tryd.underlying9 (some ⟨W.heap.size, 0, none⟩) n n (List.replicate n 0) _ (by simp) (by
    obtain ⟨A, c, e, _, hr, _⟩ := (zeros_own W n (by unfold maxLen; omega)).slice
    injection e with e1 e2 e3
    subst e1
    exact hr)
  rw [h]; rfl

theorem i64_low (k : Nat) (hk : k < 63) (x : Int) : bits BinOp.and IntKind.i64 x ((2 ^ k - 1 : Nat) : Int) = x % ((2 ^ k : Nat) : Int) := by
  show IntKind.i64.wrap ((BitVec.ofInt 64 x &&& BitVec.ofInt 64 ((2 ^ k - 1 : Nat) : Int)).toNat : Int) = _
  have hp : (2 : Nat) ^ k ≤ 2 ^ 62 := Nat.pow_le_pow_right (by decide) (by omega)
  have hp2 : (2 : Nat) ^ 62 = 4611686018427387904 := by decide
  have hp0 : 0 < (2 : Nat) ^ k := Nat.pow_pos (by decide)
  have e1 : (((2 ^ k - 1 : Nat) : Int) % ((2 ^ 64 : Nat) : Int)).toNat = 2 ^ k - 1 := by
    have : (2 : Nat) ^ 64 = 18446744073709551616 := by decide
    rw [this]; omega
  rw [BitVec.toNat_and, BitVec.toNat_ofInt, BitVec.toNat_ofInt, e1, Nat.and_two_pow_sub_one_eq_mod]
  have h : 0 ≤ x % ((2 ^ 64 : Nat) : Int) := Int.emod_nonneg _ (by decide)
  have h2 : ((((x % ((2 ^ 64 : Nat) : Int)).toNat % 2 ^ k : Nat) : Int)) = x % ((2 ^ k : Nat) : Int) := by
    rw [Int.natCast_emod, Int.toNat_of_nonneg h]
    exact Int.emod_emod_of_dvd x (by exact_mod_cast Nat.pow_dvd_pow 2 (by omega))
  rw [h2]
  have h3 : 0 ≤ x % ((2 ^ k : Nat) : Int) := Int.emod_nonneg _ (by omega)
  have h4 : x % ((2 ^ k : Nat) : Int) < ((2 ^ k : Nat) : Int) := Int.emod_lt_of_pos _ (by omega)
  exact IntWalk.i64_in _ (by omega)

theorem layB_fine {size : Nat} {x : Int} (h0 : 0 ≤ x) (h : 8 ≤ size ∨ x < ((256 ^ size : Nat) : Int)) : layB size x = false := by
  refine decide_eq_false ?_
  rintro (h1 | ⟨h1, h2⟩)
  · omega
  · rcases h with h | h
    · omega
    · have e : ((2 : Int) ^ (8 * size)) = ((256 ^ size : Nat) : Int) := by rw [Int.pow_mul]; simp
      rw [e] at h2
      exact h2 (Int.ediv_eq_zero_of_lt h0 h)
theorem layO_fine (size : Nat) (l : List UInt8) (xs : List Int) (h : ∀ x ∈ xs, layB size x = false) : layO size (0, l) xs = (0, l ++ xs.flatMap fun x => lowL x.toNat size) := by
  induction xs generalizing l with
  | nil => simp [layO]
  | cons x xs ih =>
    have h1 : layOne size (0, l) x = (0, l ++ lowL x.toNat size) := by
      rw [layOne, if_neg (by simp), if_neg (by rw [h x (by simp)]; simp)]
    rw [layO, List.foldl_cons, h1]
    have := ih (l ++ lowL x.toNat size) (fun y hy => h y (by simp [hy]))
    rw [layO] at this
    rw [this]
    simp
theorem layO_many (size : Nat) (l : List UInt8) (xs : List Int) (n : Nat) (hn : l.length + size * xs.length = n) (h : ∀ x ∈ xs, layB size x = false) : ∃ m, layO size (0, l) xs = (0, m) ∧ m.length = n := by
  refine ⟨_, layO_fine size l xs h, ?_⟩
  subst hn
  clear h
  induction xs generalizing l with
  | nil => simp
  | cons x xs ih =>
    have := ih (l ++ lowL x.toNat size)
    simp only [List.length_append, List.flatMap_cons, lowL_length, List.length_cons, Nat.mul_add] at *
    omega
theorem mkS_toList (l : List UInt8) : (⟨l.toArray⟩ : ByteArray).data.toList = l := by simp
theorem ext_mk (l : List UInt8) (i j : Nat) (h : j ≤ l.length) : (⟨l.toArray⟩ : ByteArray).extract i j = ⟨((l.take j).drop i).toArray⟩ := by
  apply ByteArray.ext
  apply Array.toList_inj.mp
  simp [ByteArray.data_extract, List.extract_eq_take_drop, List.drop_take]
theorem rawI_ok (a b : List UInt8) (n : Nat) (h : a.length = n) : rawI 0 ⟨(a ++ b).toArray⟩ (n : Int) = (⟨a.toArray⟩, 0, ⟨b.toArray⟩) := by
  subst h
  rw [rawI, if_neg (by simp), if_neg (by omega), if_neg (by rw [mk_size, List.length_append]; omega), Int.toNat_natCast, mk_size, ext_mk _ _ _ (by simp), ext_mk _ _ _ (Nat.le_refl _), List.take_of_length_le (Nat.le_refl _)]
  simp
theorem lowI_ok (x size : Nat) (b : List UInt8) (hx : x < 256 ^ size) (hb : x < 9223372036854775808) : lowI 0 ⟨(lowL x size ++ b).toArray⟩ size = ((x : Int), 0, ⟨b.toArray⟩) := by
  have h := rawI_ok (lowL x size) b size (lowL_length x size)
  have e : numL (lowL x size) = x := by rw [numL_lowL, Nat.mod_eq_of_lt hx]
  rw [lowI, h]
  simp only [mkS_toList, e]
  rw [if_neg (by omega)]
theorem textI_ok (s : ByteArray) (b : List UInt8) (h : s.size ≤ 65535) : textI 0 ⟨(lowL s.size 2 ++ (s.data.toList ++ b)).toArray⟩ = (s, 0, ⟨b.toArray⟩) := by
  rw [textI, lowI_ok s.size 2 _ (by simp; omega) (by omega)]
  simp only
  rw [rawI_ok _ _ _ (data_length s), mk_data]
theorem rawI_err (e : Int) (s : ByteArray) (n : Int) (h : e ≠ 0) : rawI e s n = (ByteArray.empty, e, s) := by rw [rawI, if_pos h]
theorem rawI_short (s : ByteArray) (n : Nat) (h : s.size < n) : rawI 0 s (n : Int) = (ByteArray.empty, 5, s) := by
  rw [rawI, if_neg (by simp), if_neg (by omega), if_pos (by omega)]
theorem numL_empty : numL ByteArray.empty.data.toList = 0 := rfl
theorem lowI_err (e : Int) (s : ByteArray) (n : Nat) (h : e ≠ 0) : lowI e s n = (0, e, s) := by
  rw [lowI, rawI_err e s _ h, numL_empty, if_neg (by omega)]; rfl
theorem lowI_short (s : ByteArray) (n : Nat) (h : s.size < n) : lowI 0 s n = (0, 5, s) := by
  rw [lowI, rawI_short s n h, numL_empty, if_neg (by omega)]; rfl
theorem textI_err (e : Int) (s : ByteArray) (h : e ≠ 0) : textI e s = (ByteArray.empty, e, s) := by
  rw [textI, lowI_err e s 2 h]; exact rawI_err e s 0 h
theorem textI_short (s : ByteArray) (h : s.size < 2) : textI 0 s = (ByteArray.empty, 5, s) := by
  rw [textI, lowI_short s 2 h]; exact rawI_err 5 s 0 (by decide)
theorem textO_fine (l : List UInt8) (s : ByteArray) (h : s.size ≤ 65535) : textO (0, l) [s] = (0, l ++ (lowL s.size 2 ++ s.data.toList)) := by
  rw [textO, List.foldl_cons, List.foldl_nil, textOne, if_neg (by simp), if_neg (by omega), List.append_assoc]
theorem textO_fine2 (l : List UInt8) (s t : ByteArray) (h : s.size ≤ 65535) (h2 : t.size ≤ 65535) : textO (0, l) [s, t] = (0, l ++ (lowL s.size 2 ++ (s.data.toList ++ (lowL t.size 2 ++ t.data.toList)))) := by
  have h1 := textO_fine l s h
  have h3 := textO_fine (l ++ (lowL s.size 2 ++ s.data.toList)) t h2
  rw [textO, List.foldl_cons, List.foldl_nil] at h1 h3
  rw [textO, List.foldl_cons, List.foldl_cons, List.foldl_nil, h1, h3]
  simp
theorem textI_size' (e : Int) (s : ByteArray) : (textI e s).2.2.size ≤ s.size :=
  Nat.le_trans (rawI_size _ _ _).2.1 (lowI_size e s 2)
end Go.Proofs.YtbkankpfkbafdaaDoor

/- shaone.Sum. -/
namespace Go.Proofs.YtbkankpfkbafdaaDoor
open Go.RowKit

theorem padL_length (n : Nat) : (padL n).length = 9 + (119 - n % 64) % 64 := by simp [padL, hi8]; omega
theorem padL_whole (n : Nat) : (n + (padL n).length) % 64 = 0 := by rw [padL_length]; omega
theorem extract_list (s : ByteArray) (a b : Nat) : (s.extract a b).data.toList = (s.data.toList.drop a).take (b - a) := by
  rw [ByteArray.data_extract]
  rw [Array.toList_extract, List.extract_eq_take_drop]
theorem extract_size64 (s : ByteArray) (a : Nat) (h : a + 64 ≤ s.size) : (s.extract a (a + 64)).size = 64 := by
  rw [ByteArray.size_extract]; omega
theorem five_set (w : World) (base : Nat) (g : Nat) (x y : Five) (h : Own w base 1 (.slice (some ⟨g, 0, none⟩) 5 5) 5 (wcells x.cells)) :
    Own (((((w.setCell ⟨g, 0, none⟩ (.int .u32 (y.a.toNat : Int))).setCell ⟨g, 1, none⟩ (.int .u32 (y.b.toNat : Int))).setCell ⟨g, 2, none⟩ (.int .u32 (y.c.toNat : Int))).setCell ⟨g, 3, none⟩ (.int .u32 (y.d.toNat : Int))).setCell ⟨g, 4, none⟩ (.int .u32 (y.e.toNat : Int))) base 1 (.slice (some ⟨g, 0, none⟩) 5 5) 5 (wcells y.cells) := by
  have g1 := h.set 0 (by simp [wcells, Five.cells]) (.int .u32 (y.a.toNat : Int))
  have g2 := g1.1.set 1 (by simp [wcells, Five.cells]) (.int .u32 (y.b.toNat : Int))
  have g3 := g2.1.set 2 (by simp [wcells, Five.cells]) (.int .u32 (y.c.toNat : Int))
  have g4 := g3.1.set 3 (by simp [wcells, Five.cells]) (.int .u32 (y.d.toNat : Int))
  have g5 := g4.1.set 4 (by simp [wcells, Five.cells]) (.int .u32 (y.e.toNat : Int))
  exact g5.1
theorem five_below {B : Nat} {a w : World} (g : Nat) (y : Five) (h : Below B a w) (hg : B ≤ g) :
    Below B a (((((w.setCell ⟨g, 0, none⟩ (.int .u32 (y.a.toNat : Int))).setCell ⟨g, 1, none⟩ (.int .u32 (y.b.toNat : Int))).setCell ⟨g, 2, none⟩ (.int .u32 (y.c.toNat : Int))).setCell ⟨g, 3, none⟩ (.int .u32 (y.d.toNat : Int))).setCell ⟨g, 4, none⟩ (.int .u32 (y.e.toNat : Int))) :=
  ((((h.setCell (p := ⟨g, 0, none⟩) hg _).setCell (p := ⟨g, 1, none⟩) hg _).setCell (p := ⟨g, 2, none⟩) hg _).setCell (p := ⟨g, 3, none⟩) hg _).setCell (p := ⟨g, 4, none⟩) hg _

def outB (l : List (BitVec 32)) : ByteArray := ⟨(l.flatMap hi4).toArray⟩
theorem outB_snoc (l : List (BitVec 32)) (x : BitVec 32) : outB (l ++ [x]) = outB l ++ ⟨(hiL x.toNat 4).toArray⟩ := by
  rw [hiL4, outB, outB, app_mk]; simp
theorem outB_size (l : List (BitVec 32)) : (outB l).size = 4 * l.length := by
  induction l with
  | nil => rfl
  | cons x l ih => simp [outB, ByteArray.size, hi4] at *; omega

theorem five_index (x : Five) (k : Nat) (hk : k < 5) (W : World) : (Instr.index 68 (.agg #[.int .u32 (x.a.toNat : Int), .int .u32 (x.b.toNat : Int), .int .u32 (x.c.toNat : Int), .int .u32 (x.d.toNat : Int), .int .u32 (x.e.toNat : Int)]) (.int .i64 (k : Int))).run Tryd.prog W = .ok (.int .u32 ((x.cells.getD k 0).toNat : Int)) W := by
  match k, hk with
  | 0, _ => show _ = _; kernel_rfl
  | 1, _ => show _ = _; kernel_rfl
  | 2, _ => show _ = _; kernel_rfl
  | 3, _ => show _ = _; kernel_rfl
  | 4, _ => show _ = _; kernel_rfl

set_option maxHeartbeats 1600000 in
set_option maxRecDepth 100000 in
theorem oneSum_calls (A : Option Addr) (n c : Nat) (l : List ByteArray) (w : World) (hl : l.length = n) (hc : n ≤ c) (hn : n ≤ 140737488355328) (hs : totalLen l ≤ 1000000) (hR : RowAt w A (scells l)) :
    Calls Tryd.prog 27 #[.slice A n c] w fun e w' => e = .returned (.string ⟨(oneSum (joinB l).data.toList).toArray⟩) ∧ Below w.heap.size w w' := by
  have HJ := Lib.hid (stringsJoin_calls A n c l w hl hc hn (by omega) hR)
  clear hR
  go_enter Tryd.func27, Tryd.ntmps27
  go_wp2_with fail
  refine Calls.mono HJ.out ?_
  rintro e w1 ⟨rfl, hb1⟩
  have HB1 := Lib.hid hb1; clear hb1 HJ
  have hjs := joinB_size l
  obtain ⟨s, hsj⟩ : ∃ s, joinB l = s := ⟨_, rfl⟩
  rw [hsj] at hjs ⊢
  have hs1 : s.size ≤ 1000000 := by omega
  have HP : Hid (padB (s.size : Int) = ⟨(padL s.size).toArray⟩) := by rw [Hid, padB, if_neg (by omega)]; simp
  have HSJ := Lib.hid hsj
  clear hsj hjs hs hl hc hn
  go_wp2_with fail
  refine (pad_calls (s.size : Int) _).mono ?_
  rintro e w2 ⟨rfl, hb2⟩
  have HB2 := Lib.hid (below_trans' HB1.out hb2); clear hb2
  rw [HP.out]
  have hps : (⟨(padL s.size).toArray⟩ : ByteArray).size = 9 + (119 - s.size % 64) % 64 := by rw [mk_size, padL_length]
  obtain ⟨p, hp⟩ : ∃ p, (⟨(padL s.size).toArray⟩ : ByteArray) = p := ⟨_, rfl⟩
  rw [hp] at hps ⊢
  have HPP := Lib.hid hp; clear hp
  have hp1 : p.size ≤ 72 := by omega
  have hsp : (s ++ p).size = s.size + p.size := ByteArray.size_append
  have hmod : (s.size + p.size) % 64 = 0 := by have := padL_whole s.size; rw [padL_length] at this; omega
  go_wp2
  obtain ⟨t, ht⟩ : ∃ t, s ++ p = t := ⟨_, rfl⟩
  rw [ht] at hsp ⊢
  have HT := Lib.hid ht; clear ht
  obtain ⟨m, hm⟩ : ∃ m, t.size = 64 * m := ⟨t.size / 64, by omega⟩
  have hm1 : m ≤ 20000 := by omega
  have HM := Lib.hid hm
  have ht1 : t.size ≤ 64 * m := by omega
  have ht2 : 64 * m ≤ t.size := by omega
  clear hsp hmod hps hm hp1
  obtain ⟨g, hg⟩ : ∃ g, w2.heap.size = g := ⟨_, rfl⟩
  have hO : Own (w2.alloc (.cells #[.int .u32 1732584193, .int .u32 4023233417, .int .u32 2562383102, .int .u32 271733878, .int .u32 3285377520] 68)) w.heap.size 1 (.slice (some ⟨g, 0, none⟩) 5 5) 5 (wcells oneStart.cells) := by
    have h1 := Own.fresh w2 #[.int .u32 1732584193, .int .u32 4023233417, .int .u32 2562383102, .int .u32 271733878, .int .u32 3285377520] 68 (by decide)
    rw [← hg]
    exact h1.weaken HB2.out.size
  have HO := Lib.hid hO; clear hO
  have hgw : w.heap.size ≤ g := by rw [← hg]; exact HB2.out.size
  have HB3 : Hid (Below w.heap.size w (w2.alloc (.cells #[.int .u32 1732584193, .int .u32 4023233417, .int .u32 2562383102, .int .u32 271733878, .int .u32 3285377520] 68))) := HB2.out.alloc HB2.out.size _
  rw [hg]
  clear hg
  go_loopw [5] (fun i wr => ∃ (k a : Nat) (x : Five), k ≤ m ∧ i = .int .i64 (a : Int) ∧ Hid (a = 64 * k) ∧ Hid (x = oneBlocks t.data.toList oneStart k) ∧ Hid (Own wr w.heap.size 1 (.slice (some ⟨g, 0, none⟩) 5 5) 5 (wcells x.cells)) ∧ Hid (Below w.heap.size w wr)) (fun i _ => 64 * m - (intOf i).toNat)
  case atStart => exact ⟨0, 0, oneStart, by omega, rfl, rfl, rfl, HO.out, HB3.out⟩
  case round =>
    obtain ⟨k, a, x, hk, rfl, HA, HX, HN, HW⟩ := hrel
    by_cases hlt : k < m
    · obtain ⟨c0, f0⟩ := HN.out.cell (j := 0) (u := .int .u32 (x.a.toNat : Int)) rfl
      obtain ⟨c1, f1⟩ := HN.out.cell (j := 1) (u := .int .u32 (x.b.toNat : Int)) rfl
      obtain ⟨c2, f2⟩ := HN.out.cell (j := 2) (u := .int .u32 (x.c.toNat : Int)) rfl
      obtain ⟨c3, f3⟩ := HN.out.cell (j := 3) (u := .int .u32 (x.d.toNat : Int)) rfl
      obtain ⟨c4, f4⟩ := HN.out.cell (j := 4) (u := .int .u32 (x.e.toNat : Int)) rfl
      have ha : a + 64 ≤ t.size := by have := HA.out; omega
      have HMX := Lib.hid (fun W => mix_calls' x (t.extract a (a + 64)) W (extract_size64 t a ha))
      have j1 : (0 : Int) ≤ (a : Int) := by omega
      have j2 : (a : Int) + 64 ≤ (t.size : Int) := by omega
      have j3 : (a : Int) < (t.size : Int) := by omega
      have j4 : (0 : Int) ≤ (a : Int) + 64 := by omega
      have j5 : (a : Int) ≤ (a : Int) + 64 := by omega
      have y1 := IntWalk.i64_in ((a : Int) + 64) (by omega)
      have y2 : ((a : Int) + 64).toNat = a + 64 := by omega
      go_wp2
      go_region_law ((go_simp; go_at_call 50; refine Calls.mono (HMX.out _) ?_; rintro e w5 ⟨y, HY, rfl, hb5⟩; have HB5 := Lib.hid hb5; have HN5 := Lib.hid (HN.out.drew.below hb5); obtain ⟨d0, e0⟩ := HN5.out.cell (j := 0) (u := .int .u32 (x.a.toNat : Int)) rfl; obtain ⟨d1, e1⟩ := HN5.out.cell (j := 1) (u := .int .u32 (x.b.toNat : Int)) rfl; obtain ⟨d2, e2⟩ := HN5.out.cell (j := 2) (u := .int .u32 (x.c.toNat : Int)) rfl; obtain ⟨d3, e3⟩ := HN5.out.cell (j := 3) (u := .int .u32 (x.d.toNat : Int)) rfl; obtain ⟨d4, e4⟩ := HN5.out.cell (j := 4) (u := .int .u32 (x.e.toNat : Int)) rfl; clear hb5))
      all_goals
        go_wp2
        go_roundw
        case rel =>
          refine ⟨k + 1, a + 64, y, by omega, by go_num, by have := HA.out; rw [Hid]; omega, ?_, five_set w5 _ g x y HN5.out, five_below g y (below_trans' (below_drewN HW.out 1) HB5.out) hgw⟩
          rw [Hid, oneBlocks, ← HX.out, HY.out, extract_list, ← HA.out, show a + 64 - a = 64 by omega]
        case measure => simp [intOf]; omega
    · obtain rfl : k = m := by omega
      have ha : a = 64 * k := HA.out
      have ha2 : (t.size : Int) ≤ (a : Int) := by omega
      have HF : Hid (oneSum s.data.toList = x.cells.flatMap hi4) := by
        have e : t.data.toList = s.data.toList ++ padL s.size := by rw [← HT.out, ByteArray.data_append, Array.toList_append, ← HPP.out]
        rw [Hid, oneSum, data_length, ← e, data_length, HM.out, Nat.mul_div_cancel_left _ (by omega), HX.out]
      have hd : decide (a < t.size) = false := by simp; omega
      clear ha
      obtain ⟨c0, f0⟩ := HN.out.cell (j := 0) (u := .int .u32 (x.a.toNat : Int)) rfl
      obtain ⟨c1, f1⟩ := HN.out.cell (j := 1) (u := .int .u32 (x.b.toNat : Int)) rfl
      obtain ⟨c2, f2⟩ := HN.out.cell (j := 2) (u := .int .u32 (x.c.toNat : Int)) rfl
      obtain ⟨c3, f3⟩ := HN.out.cell (j := 3) (u := .int .u32 (x.d.toNat : Int)) rfl
      obtain ⟨c4, f4⟩ := HN.out.cell (j := 4) (u := .int .u32 (x.e.toNat : Int)) rfl
      go_wp2
      go_loopw [6, 31] (fun v i wr => ∃ k : Nat, k ≤ 5 ∧ i = .int .i64 k ∧ v = .string (outB (x.cells.take k)) ∧ Hid (Below w.heap.size w wr)) (fun _ i _ => 5 - (intOf i).toNat)
      case atStart => exact ⟨0, by omega, rfl, rfl, HW.out⟩
      case round =>
        obtain ⟨k, hk, rfl, rfl, HW⟩ := hrel
        clear c0 c1 c2 c3 c4 f0 f1 f2 f3 f4
        by_cases hlt2 : k < 5
        · have hidx := fun W => five_index x k hlt2 W
          obtain ⟨y, hy⟩ : ∃ y, x.cells.getD k 0 = y := ⟨_, rfl⟩
          rw [hy] at hidx
          have HX2 : Hid (outB (x.cells.take (k + 1)) = outB (x.cells.take k) ++ ⟨(hiL y.toNat 4).toArray⟩) := by
            have h5 : k < x.cells.length := hlt2
            rw [Hid, take_snoc_of (List.getElem?_eq_getElem h5), outB_snoc]
            rw [List.getD_eq_getElem?_getD, List.getElem?_eq_getElem h5] at hy
            rw [← hy]; rfl
          have hsz : (outB (x.cells.take k)).size ≤ 20 := by rw [outB_size, List.length_take]; omega
          have hy32 : IntKind.u64.wrap (y.toNat : Int) = (y.toNat : Int) := by rw [IntKind.wrap_u64]; have := w_lt y; omega
          have hy33 := w_lt y
          clear hy
          go_wp2_with fail
          refine (high_calls y.toNat 4 _ (by omega) (by omega)).mono ?_
          rintro e w7 ⟨rfl, hb7⟩
          have HB7 := Lib.hid (below_trans' HW.out hb7); clear hb7 hidx
          have hq1 : (⟨(hiL y.toNat 4).toArray⟩ : ByteArray).size = 4 := by rw [mk_size, hiL_length]
          obtain ⟨q, hq⟩ : ∃ q, (⟨(hiL y.toNat 4).toArray⟩ : ByteArray) = q := ⟨_, rfl⟩
          rw [hq] at hq1 HX2 ⊢
          have hq2 : q.size ≤ 4 := by omega
          clear hq1 hq
          go_wp2
          go_roundw
          case rel => first | exact ⟨k + 1, by omega, by go_num, by rw [HX2.out], HB7.out⟩ | ((repeat apply Exists.intro); exact ⟨⟨k + 1, by omega, by go_num, by rw [HX2.out], HB7.out⟩, rfl⟩)
          case measure => simp [intOf]; omega
        · obtain rfl : k = 5 := by omega
          go_wp2
          go_ret
          refine ⟨ret_str ?_, HW.out⟩
          rw [HSJ.out, HF.out]
          rfl
end Go.Proofs.YtbkankpfkbafdaaDoor

/- Digests that are known, reckoned by the kernel. -/
namespace Go.Proofs.YtbkankpfkbafdaaDoor
set_option maxRecDepth 100000 in
theorem one_abc : oneSum [97, 98, 99] = [0xa9, 0x99, 0x3e, 0x36, 0x47, 0x06, 0x81, 0x6a, 0xba, 0x3e, 0x25, 0x71, 0x78, 0x50, 0xc2, 0x6c, 0x9c, 0xd0, 0xd8, 0x9d] := by decide +kernel
set_option maxRecDepth 100000 in
theorem one_empty : oneSum [] = [218, 57, 163, 238, 94, 107, 75, 13, 50, 85, 191, 239, 149, 96, 24, 144, 175, 216, 7, 9] := by decide +kernel
set_option maxRecDepth 100000 in
theorem one_two : oneSum [97, 98, 99, 100, 98, 99, 100, 101, 99, 100, 101, 102, 100, 101, 102, 103, 101, 102, 103, 104, 102, 103, 104, 105, 103, 104, 105, 106, 104, 105, 106, 107, 105, 106, 107, 108, 106, 107, 108, 109, 107, 108, 109, 110, 108, 109, 110, 111, 109, 110, 111, 112, 110, 111, 112, 113] = [132, 152, 62, 68, 28, 59, 210, 110, 186, 174, 74, 161, 249, 81, 41, 229, 229, 70, 112, 241] := by decide +kernel
set_option maxRecDepth 100000 in
theorem two_abc : twoSum [97, 98, 99] = [186, 120, 22, 191, 143, 1, 207, 234, 65, 65, 64, 222, 93, 174, 34, 35, 176, 3, 97, 163, 150, 23, 122, 156, 180, 16, 255, 97, 242, 0, 21, 173] := by decide +kernel
set_option maxRecDepth 100000 in
theorem two_empty : twoSum [] = [227, 176, 196, 66, 152, 252, 28, 20, 154, 251, 244, 200, 153, 111, 185, 36, 39, 174, 65, 228, 100, 155, 147, 76, 164, 149, 153, 27, 120, 82, 184, 85] := by decide +kernel
set_option maxRecDepth 100000 in
theorem two_two : twoSum [97, 98, 99, 100, 98, 99, 100, 101, 99, 100, 101, 102, 100, 101, 102, 103, 101, 102, 103, 104, 102, 103, 104, 105, 103, 104, 105, 106, 104, 105, 106, 107, 105, 106, 107, 108, 106, 107, 108, 109, 107, 108, 109, 110, 108, 109, 110, 111, 109, 110, 111, 112, 110, 111, 112, 113] = [36, 141, 106, 97, 210, 6, 56, 184, 229, 192, 38, 147, 12, 62, 96, 57, 163, 60, 228, 89, 100, 255, 33, 103, 246, 236, 237, 212, 25, 219, 6, 193] := by decide +kernel
end Go.Proofs.YtbkankpfkbafdaaDoor

/- The laws of chapter 3: each returns true at every input; what was handed in is as it was. -/
namespace Go.Proofs.YtbkankpfkbafdaaDoor
open Go.RowKit

def sumB (l : List ByteArray) : ByteArray := ⟨(oneSum (joinB l).data.toList).toArray⟩
theorem sumB_size (l : List ByteArray) : (sumB l).size = 20 := by
  rw [sumB, mk_size]; simp [oneSum, Five.cells, hi4]
/-- shaone.Sum of a list that was just built. -/
theorem oneSum_new (l : List ByteArray) (n : Nat) (w : World) (hl : l.length = n) (hn : n ≤ 1000) (hs : totalLen l ≤ 1000000) :
    Calls Tryd.prog 27 #[.slice (some ⟨w.heap.size, 0, none⟩) n n] (w.alloc (.cells (scells l).toArray 9)) fun e w' => e = .returned (.string (sumB l)) ∧ Below w.heap.size w w' :=
  (oneSum_calls _ n n l _ hl (Nat.le_refl _) (by omega) hs (rowAt_alloc w (scells l) _)).mono fun _ _ ⟨he, hb⟩ => ⟨he, ((Below.refl w.heap.size w).alloc (Nat.le_refl _) _).trans (hb.mono (by simp))⟩

def hexB (s : ByteArray) : ByteArray := ⟨(hexL s.data.toList).toArray⟩
theorem known_abc : hexB (sumB [⟨#[97]⟩, ⟨#[98, 99]⟩]) = ⟨#[97, 57, 57, 57, 51, 101, 51, 54, 52, 55, 48, 54, 56, 49, 54, 97, 98, 97, 51, 101, 50, 53, 55, 49, 55, 56, 53, 48, 99, 50, 54, 99, 57, 99, 100, 48, 100, 56, 57, 100]⟩ := by
  rw [sumB, show (joinB [⟨#[97]⟩, ⟨#[98, 99]⟩]).data.toList = [97, 98, 99] by decide, one_abc]
  decide

theorem known_empty : hexB (sumB [⟨#[]⟩]) = ⟨#[100, 97, 51, 57, 97, 51, 101, 101, 53, 101, 54, 98, 52, 98, 48, 100, 51, 50, 53, 53, 98, 102, 101, 102, 57, 53, 54, 48, 49, 56, 57, 48, 97, 102, 100, 56, 48, 55, 48, 57]⟩ := by
  rw [sumB, show (joinB [⟨#[]⟩]).data.toList = [] by decide, one_empty]
  decide
theorem known_two : hexB (sumB [⟨#[97, 98, 99, 100, 98, 99, 100, 101, 99, 100, 101, 102, 100, 101, 102, 103, 101, 102, 103, 104, 102, 103, 104, 105, 103, 104, 105, 106, 104, 105, 106, 107, 105, 106, 107, 108, 106, 107, 108, 109, 107, 108, 109, 110, 108, 109, 110, 111, 109, 110, 111, 112, 110, 111, 112, 113]⟩]) = ⟨#[56, 52, 57, 56, 51, 101, 52, 52, 49, 99, 51, 98, 100, 50, 54, 101, 98, 97, 97, 101, 52, 97, 97, 49, 102, 57, 53, 49, 50, 57, 101, 53, 101, 53, 52, 54, 55, 48, 102, 49]⟩ := by
  rw [sumB, show (joinB [⟨#[97, 98, 99, 100, 98, 99, 100, 101, 99, 100, 101, 102, 100, 101, 102, 103, 101, 102, 103, 104, 102, 103, 104, 105, 103, 104, 105, 106, 104, 105, 106, 107, 105, 106, 107, 108, 106, 107, 108, 109, 107, 108, 109, 110, 108, 109, 110, 111, 109, 110, 111, 112, 110, 111, 112, 113]⟩]).data.toList = [97, 98, 99, 100, 98, 99, 100, 101, 99, 100, 101, 102, 100, 101, 102, 103, 101, 102, 103, 104, 102, 103, 104, 105, 103, 104, 105, 106, 104, 105, 106, 107, 105, 106, 107, 108, 106, 107, 108, 109, 107, 108, 109, 110, 108, 109, 110, 111, 109, 110, 111, 112, 110, 111, 112, 113] by decide, one_two]
  decide
theorem joinB_one (s : ByteArray) : joinB [s] = s := by simp [joinB]
theorem sumB_ref (s : ByteArray) : sumB [s] = ⟨(oneSum s.data.toList).toArray⟩ := by rw [sumB, joinB_one]
theorem sumB_nil2 (s : ByteArray) : sumB [s, ⟨#[]⟩] = sumB [s] := by
  rw [sumB, sumB, show joinB [s, ⟨#[]⟩] = joinB [s] by
    show ByteArray.empty ++ s ++ (⟨#[]⟩ : ByteArray) = ByteArray.empty ++ s
    apply ByteArray.ext; simp [ByteArray.data_append]]
theorem total_one (s : ByteArray) : totalLen [s] = s.size := by simp [totalLen]
theorem total_two (s t : ByteArray) : totalLen [s, t] = s.size + t.size := by simp [totalLen]

end Go.Proofs.YtbkankpfkbafdaaDoor

/- Package shatwo: what each function computes. -/
namespace Go.Proofs.YtbkankpfkbafdaaDoor
open Go.RowKit

theorem right_calls (x : BitVec 32) (k : Nat) (m : Nat) (hk : bits BinOp.and IntKind.u64 (IntKind.u64.wrap (-(k : Int))) 31 = (m : Int)) (hm : m < 32) (hk2 : k ≤ 32) (w : World) :
    Calls Tryd.prog 72 #[.int .u32 (x.toNat : Int), .int .i64 (k : Int)] w fun e w' => e = .returned (.int .u32 ((turn x m).toNat : Int)) ∧ w = w' := by
  have HR := Lib.hid (fun W => rot_calls x (-(k : Int)) m hk hm W)
  clear hk
  go_enter Tryd.func72, Tryd.ntmps72
  go_wp2_with (go_at_call 68; refine Calls.mono (HR.out _) ?_; rintro e w' ⟨rfl, rfl⟩)
  go_ret
  exact ⟨rfl, rfl⟩
theorem right_at (x : BitVec 32) (k m : Nat) (h : (k == 7 && m == 25 || k == 18 && m == 14 || k == 17 && m == 15 || k == 19 && m == 13 || k == 6 && m == 26 || k == 11 && m == 21 || k == 25 && m == 7 || k == 2 && m == 30 || k == 13 && m == 19 || k == 22 && m == 10) = true) (w : World) :
    Calls Tryd.prog 72 #[.int .u32 (x.toNat : Int), .int .i64 (k : Int)] w fun e w' => e = .returned (.int .u32 ((turn x m).toNat : Int)) ∧ w = w' := by
  simp at h
  rcases h with ((((((((h | h) | h) | h) | h) | h) | h) | h) | h) | h <;> obtain ⟨rfl, rfl⟩ := h <;> exact right_calls x _ _ (by decide) (by omega) (by omega) w
end Go.Proofs.YtbkankpfkbafdaaDoor

/- Arrays of words in memory of the call's own. -/
namespace Go.Proofs.YtbkankpfkbafdaaDoor
open Go.RowKit

theorem Own.range0 {w : World} {base n cap g : Nat} {xs : List Value} (h : Own w base 1 (.slice (some ⟨g, 0, none⟩) n cap) n xs) : w.rangeAt g 0 xs := fun j v hv => by
  rw [Nat.zero_add]; exact (h.cell hv).1
theorem Own.there0 {w : World} {base n cap g : Nat} {xs : List Value} (h : Own w base 1 (.slice (some ⟨g, 0, none⟩) n cap) n xs) : w.there g 0 n := fun j hj => by
  have hl : j < xs.length := by rw [h.1]; omega
  rw [Nat.zero_add]
  have := h.cell (List.getElem?_eq_getElem hl)
  exact ⟨by rw [this.1]; rfl, this.2⟩
theorem Own.all {w : World} {base n g : Nat} {xs : List Value} (h : Own w base 1 (.slice (some ⟨g, 0, none⟩) n n) n xs) (ys : List Value) (hy : ys.length = n) : Own (w.setCells g 0 ys) base 1 (.slice (some ⟨g, 0, none⟩) n n) n ys := by
  have ht := h.there0
  rcases h.2 with ⟨h2, _⟩ | ⟨g', cap', h2, hb, hl, hn, hm, hc, hx⟩
  · simp at h2
  · simp at h2
    obtain ⟨rfl, rfl⟩ := h2
    refine ⟨by omega, .inr ⟨g, n, rfl, hb, Nat.lt_of_lt_of_le hl (grownBy_setCells g _ _ w).size, Nat.le_refl _, hm, fun j hj => ?_, fun j u hu => ?_⟩⟩
    · refine ⟨?_, by rw [World.frozen?_setCells]; exact (hc j hj).2⟩
      have := World.cell?_setCells_in g ys 0 w (fun i hi => (ht i (by omega)).1) j (by omega)
      rw [Nat.zero_add] at this
      rw [this]; rfl
    · have hjl := (List.getElem?_eq_some_iff.1 hu).1
      have := World.cell?_setCells_in g ys 0 w (fun i hi => (ht i (by omega)).1) j hjl
      rw [Nat.zero_add] at this
      rw [this, ← hu, List.getElem?_eq_getElem hjl]
theorem wcells_length (l : List (BitVec 32)) : (wcells l).length = l.length := by simp [wcells]
theorem all_wcells (l : List (BitVec 32)) : (wcells l).toArray.all (·.oneCell') = true := all_oneCell_toArray (one_wcells l)

structure ArrAt (w wr : World) (n : Nat) (f : Nat → BitVec 32) : Prop where
  bel : Below w.heap.size w wr
  or : Own wr w.heap.size 1 (.slice (some ⟨w.heap.size, 0, none⟩) n n) n (fw (fun _ => 0) n)
  ow : Own wr w.heap.size 1 (.slice (some ⟨w.heap.size + 1, 0, none⟩) n n) n (fw f n)
theorem ArrAt.drew {w wr : World} {n : Nat} {f : Nat → BitVec 32} (a : ArrAt w wr n f) : ArrAt w wr.drew n f := ⟨⟨a.bel.os, a.bel.tape, a.bel.output, a.bel.size, a.bel.block⟩, a.or, a.ow⟩
theorem ArrAt.drewN {w wr : World} {n : Nat} {f : Nat → BitVec 32} (a : ArrAt w wr n f) (k : Nat) : ArrAt w (wr.drewN k) n f := ⟨⟨a.bel.os, a.bel.tape, a.bel.output, a.bel.size, a.bel.block⟩, a.or, a.ow⟩
theorem ArrAt.congr {w wr : World} {n : Nat} {f g : Nat → BitVec 32} (a : ArrAt w wr n f) (e : ∀ j, j < n → f j = g j) : ArrAt w wr n g := ⟨a.bel, a.or, by rw [← fw_congr e]; exact a.ow⟩
theorem ArrAt.set {w wr : World} {n : Nat} {f : Nat → BitVec 32} (a : ArrAt w wr n f) (k : Nat) (hk : k < n) (x : BitVec 32) : ArrAt w (wr.setCell ⟨w.heap.size + 1, k, none⟩ (.int .u32 (x.toNat : Int))) n (fun j => if j = k then x else f j) := by
  obtain ⟨h1, h2⟩ := a.ow.set k (by rw [fw_length]; exact hk) (.int .u32 (x.toNat : Int))
  rw [fw_set] at h1
  exact ⟨a.bel.setCell (by simp only; omega) _, a.or.kept h2 (.inr (by simp [Value.ownBlock])), h1⟩

end Go.Proofs.YtbkankpfkbafdaaDoor

/- shatwo.words, keys, Key. -/
namespace Go.Proofs.YtbkankpfkbafdaaDoor
open Go.RowKit

theorem twoWords_length (s : List UInt8) (n : Nat) : (twoWords s n).length = 16 + n := by
  induction n with
  | zero => simp [twoWords, firstWords]
  | succ n ih => rw [twoWords, List.length_append, ih]; rfl
theorem twoWords_pre (s : List UInt8) (n m j : Nat) (h : j < 16 + n) : (twoWords s (n + m)).getD j 0 = (twoWords s n).getD j 0 := by
  induction m with
  | zero => rfl
  | succ m ih =>
    rw [show n + (m + 1) = (n + m) + 1 by omega, twoWords, List.getD_eq_getElem?_getD, List.getElem?_append_left (by rw [twoWords_length]; omega), ← List.getD_eq_getElem?_getD]
    exact ih
theorem twoW_low (s : List UInt8) {k : Nat} (h : k < 16) : (twoWords s 48).getD k 0 = word4 (s.getD (4 * k) 0) (s.getD (4 * k + 1) 0) (s.getD (4 * k + 2) 0) (s.getD (4 * k + 3) 0) := by
  rw [show (48 : Nat) = 0 + 48 from rfl, twoWords_pre s 0 48 k (by omega)]
  simp [twoWords, firstWords, h]
/-- A word from those before it. -/
def twoNew (p q x y : BitVec 32) : BitVec 32 := p + q + (turn x 25 ^^^ turn x 14 ^^^ x >>> 3) + (turn y 15 ^^^ turn y 13 ^^^ y >>> 10)
theorem twoW_high (s : List UInt8) {k : Nat} (h0 : 16 ≤ k) (h : k < 64) : (twoWords s 48).getD k 0 = twoNew ((twoWords s 48).getD (k - 16) 0) ((twoWords s 48).getD (k - 7) 0) ((twoWords s 48).getD (k - 15) 0) ((twoWords s 48).getD (k - 2) 0) := by
  obtain ⟨n, rfl⟩ : ∃ n, k = 16 + n := ⟨k - 16, by omega⟩
  have e (j : Nat) (hj : j < 16 + n) : (twoWords s 48).getD j 0 = (twoWords s n).getD j 0 := by
    have := twoWords_pre s n (48 - n) j hj
    rwa [show n + (48 - n) = 48 by omega] at this
  rw [e (16 + n - 16) (by omega), e (16 + n - 7) (by omega), e (16 + n - 15) (by omega), e (16 + n - 2) (by omega)]
  have h1 := twoWords_pre s (n + 1) (48 - (n + 1)) (16 + n) (by omega)
  rw [show n + 1 + (48 - (n + 1)) = 48 by omega] at h1
  rw [h1, twoWords, List.getD_eq_getElem?_getD, List.getElem?_append_right (by rw [twoWords_length]; omega), twoWords_length]
  simp [twoNext, twoNew, twoWords_length]

theorem right7 (x : BitVec 32) (w : World) : Calls Tryd.prog 72 #[.int .u32 (x.toNat : Int), .int .i64 7] w fun e w' => e = .returned (.int .u32 ((turn x 25).toNat : Int)) ∧ w = w' := right_at x 7 25 rfl w
theorem right18 (x : BitVec 32) (w : World) : Calls Tryd.prog 72 #[.int .u32 (x.toNat : Int), .int .i64 18] w fun e w' => e = .returned (.int .u32 ((turn x 14).toNat : Int)) ∧ w = w' := right_at x 18 14 rfl w
theorem right17 (x : BitVec 32) (w : World) : Calls Tryd.prog 72 #[.int .u32 (x.toNat : Int), .int .i64 17] w fun e w' => e = .returned (.int .u32 ((turn x 15).toNat : Int)) ∧ w = w' := right_at x 17 15 rfl w
theorem right19 (x : BitVec 32) (w : World) : Calls Tryd.prog 72 #[.int .u32 (x.toNat : Int), .int .i64 19] w fun e w' => e = .returned (.int .u32 ((turn x 13).toNat : Int)) ∧ w = w' := right_at x 19 13 rfl w
theorem right6 (x : BitVec 32) (w : World) : Calls Tryd.prog 72 #[.int .u32 (x.toNat : Int), .int .i64 6] w fun e w' => e = .returned (.int .u32 ((turn x 26).toNat : Int)) ∧ w = w' := right_at x 6 26 rfl w
theorem right11 (x : BitVec 32) (w : World) : Calls Tryd.prog 72 #[.int .u32 (x.toNat : Int), .int .i64 11] w fun e w' => e = .returned (.int .u32 ((turn x 21).toNat : Int)) ∧ w = w' := right_at x 11 21 rfl w
theorem right25 (x : BitVec 32) (w : World) : Calls Tryd.prog 72 #[.int .u32 (x.toNat : Int), .int .i64 25] w fun e w' => e = .returned (.int .u32 ((turn x 7).toNat : Int)) ∧ w = w' := right_at x 25 7 rfl w
theorem right2 (x : BitVec 32) (w : World) : Calls Tryd.prog 72 #[.int .u32 (x.toNat : Int), .int .i64 2] w fun e w' => e = .returned (.int .u32 ((turn x 30).toNat : Int)) ∧ w = w' := right_at x 2 30 rfl w
theorem right13 (x : BitVec 32) (w : World) : Calls Tryd.prog 72 #[.int .u32 (x.toNat : Int), .int .i64 13] w fun e w' => e = .returned (.int .u32 ((turn x 19).toNat : Int)) ∧ w = w' := right_at x 13 19 rfl w
theorem right22 (x : BitVec 32) (w : World) : Calls Tryd.prog 72 #[.int .u32 (x.toNat : Int), .int .i64 22] w fun e w' => e = .returned (.int .u32 ((turn x 10).toNat : Int)) ∧ w = w' := right_at x 22 10 rfl w

theorem fw_list (L : List (BitVec 32)) (m : Nat) (h : L.length = m) : wcells L = fw (fun j => L.getD j 0) m := by
  have e : L = (List.range m).map (fun j => L.getD j 0) := by
    apply List.ext_getElem?
    intro i
    by_cases hi : i < m
    · rw [List.getElem?_eq_getElem (by omega), List.getElem?_map, List.getElem?_range hi, Option.map_some, List.getD_eq_getElem?_getD, List.getElem?_eq_getElem (by omega)]; rfl
    · rw [List.getElem?_eq_none (by omega), List.getElem?_eq_none (by simp; omega)]
  unfold fw
  rw [← e]

set_option maxHeartbeats 3200000 in
set_option maxRecDepth 100000 in
theorem words_calls (s : ByteArray) (w : World) (hs : s.size = 64) : Calls Tryd.prog 70 #[.string s] w
    fun e w' => e = .returned (.agg (wcells (twoWords s.data.toList 48)).toArray) ∧ Below w.heap.size w w' := by
  have hs1 : s.size ≥ 64 := by omega
  clear hs
  have HI : Box (ArrAt w ((w.alloc (.cells (fw (fun _ => 0) 64).toArray 96)).alloc (.cells (fw (fun _ => 0) 64).toArray 96)) 64 (fun j => if j < 0 then (twoWords s.data.toList 48).getD j 0 else 0)) := by
    refine ⟨⟨((Below.refl _ _).alloc (Nat.le_refl _) _).alloc (by simp) _, ?_, ?_⟩⟩
    · have h1 := (Own.fresh w (fw (fun _ => 0) 64).toArray 96 (by simp [fw_length, maxLen])).alloc (.cells (fw (fun _ => 0) 64).toArray 96)
      simpa [fw_length] using h1
    · rw [fw_congr (g := fun _ => 0) (fun j _ => by simp)]
      have h1 := (Own.fresh (w.alloc (.cells (fw (fun _ => 0) 64).toArray 96)) (fw (fun _ => 0) 64).toArray 96 (by simp [fw_length, maxLen])).weaken (base' := w.heap.size) (by simp)
      simpa [fw_length] using h1
  go_enter Tryd.func70, Tryd.ntmps70
  go_wp2
  go_loopw [9] (fun i wr => ∃ k : Nat, k ≤ 16 ∧ i = .int .i64 k ∧ Box (ArrAt w wr 64 (fun j => if j < k then (twoWords s.data.toList 48).getD j 0 else 0))) (fun i _ => 16 - (intOf i).toNat)
  case atStart => exact ⟨0, by omega, rfl, HI⟩
  case round =>
    obtain ⟨k, hk, rfl, HM⟩ := hrel
    by_cases hlt : k < 16
    · go_wp2
      go_loopw [12] (fun i wr => ∃ n : Nat, n ≤ 4 ∧ i = .int .i64 n ∧ Box (ArrAt w wr 64 (fun j => if j < k then (twoWords s.data.toList 48).getD j 0 else if j = k then pw s.data.toList k n else 0))) (fun i _ => 4 - (intOf i).toNat)
      case atStart => exact ⟨0, by omega, rfl, ⟨HM.out.congr (fun j _ => by by_cases e : j = k <;> simp [e, pw])⟩⟩
      case round =>
        obtain ⟨n, hn, rfl, HN⟩ := hrel
        by_cases hlt2 : n < 4
        · obtain ⟨hc, hf⟩ := HN.out.ow.cell (j := k) (fw_at _ (by omega))
          simp only [Nat.lt_irrefl, if_false, if_true] at hc
          have hb : 4 * k + n < s.size := by omega
          have HP : Box (pw s.data.toList k (n + 1) = pw s.data.toList k n <<< 8 ||| bw s[4 * k + n]) := ⟨by rw [pw, getD_str _ _ hb]⟩
          have j1 : (0 : Int) ≤ (k : Int) := by omega
          have j2 : (k : Int) < 64 := by omega
          have j3 : (0 : Int) ≤ 4 * (k : Int) + (n : Int) := by omega
          have j4 : 4 * (k : Int) + (n : Int) < (s.size : Int) := by omega
          have y1 := IntWalk.i64_in (4 * (k : Int)) (by omega)
          have y2 := IntWalk.i64_in (4 * (k : Int) + (n : Int)) (by omega)
          have y3 : (4 * (k : Int) + (n : Int)).toNat = 4 * k + n := by omega
          have HV : Box (bits BinOp.or IntKind.u32 (((pw s.data.toList k n).toNat : Int) * 256 % 4294967296) ((s[4 * k + n].toNat : Int) % 4294967296) = ((pw s.data.toList k (n + 1)).toNat : Int)) := by
            refine ⟨?_⟩
            rw [HP.out, bw_nat, show (256 : Int) = 2 ^ 8 by decide, t_shl, Int.emod_eq_of_lt (by omega) (by have := w_lt (bw s[4 * k + n]); omega), w_or]
          go_wp2
          go_region
          go_wp2
          go_roundw
          case rel =>
            refine ⟨n + 1, by omega, by go_num, ⟨?_⟩⟩
            rw [HV.out]
            refine (HN.out.set k (by omega) (pw s.data.toList k (n + 1))).drew.congr (fun j _ => ?_)
            by_cases e : j = k
            · subst e; simp
            · simp [e]
          case measure => simp [intOf]; omega
        · obtain rfl : n = 4 := by omega
          go_wp2
          go_roundw
          case rel =>
            refine ⟨k + 1, by omega, by go_num, ⟨HN.out.congr (fun j _ => ?_)⟩⟩
            rw [pw4, ← twoW_low _ hlt]
            by_cases e : j = k
            · subst e; simp
            · by_cases e2 : j < k
              · rw [if_pos e2, if_pos (by omega)]
              · rw [if_neg e2, if_neg e, if_neg (by omega)]
          case measure => simp [intOf]; omega
    · obtain rfl : k = 16 := by omega
      clear hlt hk
      go_wp2
      go_loopw [6] (fun i wr => ∃ k : Nat, 16 ≤ k ∧ k ≤ 64 ∧ i = .int .i64 k ∧ Box (ArrAt w wr 64 (fun j => if j < k then (twoWords s.data.toList 48).getD j 0 else 0))) (fun i _ => 64 - (intOf i).toNat)
      case atStart => exact ⟨16, by omega, by omega, rfl, HM⟩
      case round =>
        obtain ⟨k, hk0, hk, rfl, HN⟩ := hrel
        by_cases hlt2 : k < 64
        · obtain ⟨c16, _⟩ := HN.out.ow.cell (j := k - 16) (fw_at _ (by omega))
          obtain ⟨c7, _⟩ := HN.out.ow.cell (j := k - 7) (fw_at _ (by omega))
          obtain ⟨c15, _⟩ := HN.out.ow.cell (j := k - 15) (fw_at _ (by omega))
          obtain ⟨c2, _⟩ := HN.out.ow.cell (j := k - 2) (fw_at _ (by omega))
          obtain ⟨c0, f0⟩ := HN.out.ow.cell (j := k) (fw_at _ (by omega))
          simp only [show k - 16 < k by omega, show k - 7 < k by omega, show k - 15 < k by omega, show k - 2 < k by omega, if_true] at c16 c7 c15 c2
          obtain ⟨p, hp⟩ : ∃ p, (twoWords s.data.toList 48).getD (k - 16) 0 = p := ⟨_, rfl⟩
          obtain ⟨q, hq⟩ : ∃ q, (twoWords s.data.toList 48).getD (k - 7) 0 = q := ⟨_, rfl⟩
          obtain ⟨x, hx⟩ : ∃ x, (twoWords s.data.toList 48).getD (k - 15) 0 = x := ⟨_, rfl⟩
          obtain ⟨y, hy⟩ : ∃ y, (twoWords s.data.toList 48).getD (k - 2) 0 = y := ⟨_, rfl⟩
          rw [hp] at c16
          rw [hq] at c7
          rw [hx] at c15
          rw [hy] at c2
          have HE : Box ((twoWords s.data.toList 48).getD k 0 = twoNew p q x y) := ⟨by rw [twoW_high _ hk0 hlt2, hp, hq, hx, hy]⟩
          clear hp hq hx hy
          have y1 := IntWalk.i64_in ((k : Int) - 16) (by omega)
          have y2 := IntWalk.i64_in ((k : Int) - 7) (by omega)
          have y3 := IntWalk.i64_in ((k : Int) - 15) (by omega)
          have y4 := IntWalk.i64_in ((k : Int) - 2) (by omega)
          have z1 : ((k : Int) - 16).toNat = k - 16 := by omega
          have z2 : ((k : Int) - 7).toNat = k - 7 := by omega
          have z3 : ((k : Int) - 15).toNat = k - 15 := by omega
          have z4 : ((k : Int) - 2).toNat = k - 2 := by omega
          have b1 : (0 : Int) ≤ (k : Int) - 16 := by omega
          have b2 : (0 : Int) ≤ (k : Int) - 7 := by omega
          have b3 : (0 : Int) ≤ (k : Int) - 15 := by omega
          have b4 : (0 : Int) ≤ (k : Int) - 2 := by omega
          have b5 : (k : Int) - 16 < 64 := by omega
          have b6 : (k : Int) - 7 < 64 := by omega
          have b7 : (k : Int) - 15 < 64 := by omega
          have b8 : (k : Int) - 2 < 64 := by omega
          have b9 : (0 : Int) ≤ (k : Int) := by omega
          have b10 : (k : Int) < 64 := by omega
          have a1 : (16 : Int) ≤ (k : Int) := by omega
          have a2 : (7 : Int) ≤ (k : Int) := by omega
          have a3 : (15 : Int) ≤ (k : Int) := by omega
          have a4 : (2 : Int) ≤ (k : Int) := by omega
          have HV : Box ((((((p.toNat : Int) + (q.toNat : Int)) % 4294967296 + bits BinOp.xor IntKind.u32 (bits BinOp.xor IntKind.u32 ((turn x 25).toNat : Int) ((turn x 14).toNat : Int)) ((x.toNat : Int) / (8 : Int))) % 4294967296) + bits BinOp.xor IntKind.u32 (bits BinOp.xor IntKind.u32 ((turn y 15).toNat : Int) ((turn y 13).toNat : Int)) ((y.toNat : Int) / (1024 : Int))) % 4294967296 = ((twoNew p q x y).toNat : Int)) := by
            refine ⟨?_⟩
            rw [t_add, show (8 : Int) = (2 : Int) ^ 3 by decide, show (1024 : Int) = (2 : Int) ^ 10 by decide, t_shr, t_shr, w_xor, w_xor, w_xor, w_xor, t_add, t_add]
            rfl
          go_wp2
          go_big_quiet (fail)
          go_wp2_with fail
          go_region_held3 (fun w' => w'.cell? ⟨w.heap.size + 1, k - 16, none⟩ = some (.int .u32 (p.toNat : Int)) ∧ w'.cell? ⟨w.heap.size + 1, k - 7, none⟩ = some (.int .u32 (q.toNat : Int)))
            (first | exact ⟨c16, c7⟩ | exact ⟨(World.cell?_setCell_other _ _ _ _ (by simp)).trans c16, (World.cell?_setCell_other _ _ _ _ (by simp)).trans c7⟩ | exact ⟨(World.cell?_setCell_other _ _ _ _ (by simp; omega)).trans c16, (World.cell?_setCell_other _ _ _ _ (by simp; omega)).trans c7⟩)
            (first
              | (go_at_call_of 72 (Value.int .i64 7); refine (right7 _ _).mono ?_; rintro e w' ⟨rfl, rfl⟩)
              | (go_at_call_of 72 (Value.int .i64 18); refine (right18 _ _).mono ?_; rintro e w' ⟨rfl, rfl⟩)
              | (go_at_call_of 72 (Value.int .i64 17); refine (right17 _ _).mono ?_; rintro e w' ⟨rfl, rfl⟩)
              | (go_at_call_of 72 (Value.int .i64 19); refine (right19 _ _).mono ?_; rintro e w' ⟨rfl, rfl⟩))
          go_wp2
          go_roundw
          case rel =>
            (repeat apply Exists.intro)
            refine ⟨?_, rfl⟩
            refine ⟨k + 1, by omega, by omega, by go_num, ⟨?_⟩⟩
            rw [HV.out]
            refine ((HN.out.drewN (nq + 1)).set k (by omega) (twoNew p q x y)).congr (fun j _ => ?_)
            rw [← HE.out]
            by_cases e : j = k
            · subst e; simp
            · by_cases e2 : j < k
              · rw [if_neg e, if_pos e2, if_pos (by omega)]
              · rw [if_neg e, if_neg e2, if_neg (by omega)]
          case measure => simp [intOf]; omega
        · obtain rfl : k = 64 := by omega
          clear hlt2 hk hk0
          have hfw := fw_list (twoWords s.data.toList 48) 64 (twoWords_length _ _)
          have hO1 : Own wr w.heap.size 1 (.slice (some ⟨w.heap.size + 1, 0, none⟩) 64 64) 64 (wcells (twoWords s.data.toList 48)) := by
            rw [hfw, fw_congr (g := fun j => if j < 64 then (twoWords s.data.toList 48).getD j 0 else 0) (fun j hj => by rw [if_pos hj])]; exact HN.out.ow
          have hl1 : (wcells (twoWords s.data.toList 48)).length = 64 := by rw [wcells_length, twoWords_length]
          have ha1 := all_wcells (twoWords s.data.toList 48)
          obtain ⟨F, hF⟩ : ∃ F, wcells (twoWords s.data.toList 48) = F := ⟨_, rfl⟩
          rw [hF] at hO1 hl1 ha1
          have HFF : Box _ := ⟨hF⟩
          clear hF hfw
          have hl2 : F.toArray.size = 64 := by rw [List.size_toArray, hl1]
          have HO : Box _ := ⟨hO1⟩
          have HI1 : Box ((Tryd.prog.info? 96).map (·.size) = some F.length) := ⟨by rw [hl1]; kernel_rfl⟩
          have HI2 : Box ((Tryd.prog.info? 96).map (·.size) = some F.toArray.size) := ⟨by rw [hl2]; kernel_rfl⟩
          have HTh : Box (wr.there w.heap.size 0 F.toArray.size) := ⟨by rw [hl2]; exact HN.out.or.there0⟩
          have HAl : Box (F.toArray.all (·.oneCell') = true) := ⟨ha1⟩
          have HL : Box _ := ⟨hl1⟩
          clear hO1 hl1 ha1 hl2
          go_wp2_with (first
            | (refine wpList_load_mid rfl 96 _ rfl (w.heap.size + 1) 0 rfl F _ HO.out.range0 Tryd.underlying96 rfl HI1.out ?_)
            | (refine wpList_store_mid rfl 96 _ _ rfl w.heap.size 0 F.toArray rfl rfl HTh.out HI2.out HAl.out ?_))
          have hF := HN.out.or.all F HL.out
          refine bodyPost_ret (results_cell_mid rfl _ _ w.heap.size F _ rfl hF.range0 Tryd.underlying96 rfl HI1.out) rfl ?_
          exact ⟨by rw [HFF.out], HN.out.bel.grown (grownBy_setCells w.heap.size F 0 wr) HN.out.bel.size (by simp)⟩
end Go.Proofs.YtbkankpfkbafdaaDoor

/- shatwo.keys. -/
namespace Go.Proofs.YtbkankpfkbafdaaDoor
open Go.RowKit

theorem t_add8 (i a b c d : BitVec 32) : ((i.toNat : Int) + (a.toNat : Int) + (b.toNat : Int) + (c.toNat : Int) + (d.toNat : Int)) % 4294967296 = ((i + a + b + c + d).toNat : Int) := t_add5 i a b c d
def twoKeyL : List Value := wcells twoKeys
set_option maxHeartbeats 4000000 in
set_option maxRecDepth 100000 in
theorem keys_calls (w : World) : Calls Tryd.prog 71 #[] w fun e w' => e = .returned (.agg twoKeyL.toArray) ∧ Below w.heap.size w w' := by
  have HI1 : Box ((Tryd.prog.info? 96).map (·.size) = some twoKeyL.length) := ⟨by kernel_rfl⟩
  have HI2 : Box ((Tryd.prog.info? 96).map (·.size) = some twoKeyL.toArray.size) := ⟨by kernel_rfl⟩
  have HZ : Box (Own (w.alloc (.cells (fw (fun _ => 0) 64).toArray 96)) w.heap.size 1 (.slice (some ⟨w.heap.size, 0, none⟩) 64 64) 64 (fw (fun _ => 0) 64)) := ⟨by
    have h1 := Own.fresh w (fw (fun _ => 0) 64).toArray 96 (by simp [fw_length, maxLen])
    simpa [fw_length] using h1⟩
  have HTh : Box ((w.alloc (.cells (fw (fun _ => 0) 64).toArray 96)).there w.heap.size 0 twoKeyL.toArray.size) := ⟨HZ.out.there0⟩
  have HAl : Box (twoKeyL.toArray.all (·.oneCell') = true) := ⟨all_wcells _⟩
  go_enter Tryd.func71, Tryd.ntmps71
  go_wp2_with (refine wpList_store_mid rfl 96 _ _ rfl w.heap.size 0 twoKeyL.toArray rfl rfl HTh.out HI2.out HAl.out ?_)
  have hF := HZ.out.all twoKeyL rfl
  refine bodyPost_ret (results_cell_mid rfl _ _ w.heap.size twoKeyL _ rfl hF.range0 Tryd.underlying96 rfl HI1.out) rfl ?_
  exact ⟨rfl, ((Below.refl w.heap.size w).alloc (Nat.le_refl _) _).grown (grownBy_setCells w.heap.size twoKeyL 0 _) (by simp) (by simp)⟩
end Go.Proofs.YtbkankpfkbafdaaDoor

/- shatwo.mix. -/
namespace Go.Proofs.YtbkankpfkbafdaaDoor
open Go.RowKit

theorem words_calls' (s : ByteArray) (w : World) (hs : s.size = 64) : Calls Tryd.prog 70 #[.string s] w
    fun e w' => ∃ F : List Value, Box (F = wcells (twoWords s.data.toList 48)) ∧ e = .returned (.agg F.toArray) ∧ Below w.heap.size w w' :=
  (words_calls s w hs).mono fun _ _ ⟨he, hb⟩ => ⟨_, ⟨rfl⟩, he, hb⟩
theorem keys_calls' (w : World) : Calls Tryd.prog 71 #[] w
    fun e w' => ∃ F : List Value, Box (F = wcells twoKeys) ∧ e = .returned (.agg F.toArray) ∧ Below w.heap.size w w' :=
  (keys_calls w).mono fun _ _ ⟨he, hb⟩ => ⟨_, ⟨rfl⟩, he, hb⟩
theorem wlist_at {L : List (BitVec 32)} {k : Nat} (h : k < L.length) : (wcells L)[k]? = some (.int .u32 ((L.getD k 0).toNat : Int)) := by
  rw [wcells_at (List.getElem?_eq_getElem h), List.getD_eq_getElem?_getD, List.getElem?_eq_getElem h]; rfl
def eightV (h : Eight) : Value := .agg #[.int .u32 (h.a.toNat : Int), .int .u32 (h.b.toNat : Int), .int .u32 (h.c.toNat : Int), .int .u32 (h.d.toNat : Int), .int .u32 (h.e.toNat : Int), .int .u32 (h.f.toNat : Int), .int .u32 (h.g.toNat : Int), .int .u32 (h.i.toNat : Int)]

set_option maxHeartbeats 3200000 in
set_option maxRecDepth 100000 in
theorem twoMix_calls (h : Eight) (s : ByteArray) (w : World) (hs : s.size = 64) : Calls Tryd.prog 52 #[.agg #[.int .u32 (h.a.toNat : Int), .int .u32 (h.b.toNat : Int), .int .u32 (h.c.toNat : Int), .int .u32 (h.d.toNat : Int), .int .u32 (h.e.toNat : Int), .int .u32 (h.f.toNat : Int), .int .u32 (h.g.toNat : Int), .int .u32 (h.i.toNat : Int)], .string s] w
    fun e w' => ∃ y : Eight, Box (y = twoMix h s.data.toList) ∧ e = .returned (eightV y) ∧ Below w.heap.size w w' := by
  have HWd := Lib.hid (fun W => words_calls' s W hs)
  clear hs
  go_enter Tryd.func52, Tryd.ntmps52
  go_wp2_with fail
  refine Calls.mono (HWd.out _) ?_
  rintro e w1 ⟨F, HF, rfl, hb1⟩
  have HB0 := Lib.hid (((Below.refl w.heap.size w).alloc (Nat.le_refl _) (.cells #[.int .u32 (h.a.toNat : Int), .int .u32 (h.b.toNat : Int), .int .u32 (h.c.toNat : Int), .int .u32 (h.d.toNat : Int), .int .u32 (h.e.toNat : Int), .int .u32 (h.f.toNat : Int), .int .u32 (h.g.toNat : Int), .int .u32 (h.i.toNat : Int)] 70)).alloc (by simp) (.cells #[.int .u32 0, .int .u32 0, .int .u32 0, .int .u32 0, .int .u32 0, .int .u32 0, .int .u32 0, .int .u32 0] 70))
  have HB1 := Lib.hid (HB0.out.trans (hb1.mono HB0.out.size))
  have HH1 : Box (Own w1 w.heap.size 1 (.slice (some ⟨w.heap.size, 0, none⟩) 8 8) 8 (wcells h.cells)) := ⟨((Own.fresh w #[.int .u32 (h.a.toNat : Int), .int .u32 (h.b.toNat : Int), .int .u32 (h.c.toNat : Int), .int .u32 (h.d.toNat : Int), .int .u32 (h.e.toNat : Int), .int .u32 (h.f.toNat : Int), .int .u32 (h.g.toNat : Int), .int .u32 (h.i.toNat : Int)] 70 (by simp [maxLen])).alloc (.cells #[.int .u32 0, .int .u32 0, .int .u32 0, .int .u32 0, .int .u32 0, .int .u32 0, .int .u32 0, .int .u32 0] 70)).below hb1⟩
  have HR1 : Box (Own w1 w.heap.size 1 (.slice (some ⟨w.heap.size + 1, 0, none⟩) 8 8) 8 (List.replicate 8 (.int .u32 0))) := ⟨by
    have h1 := Own.fresh (w.alloc (.cells #[.int .u32 (h.a.toNat : Int), .int .u32 (h.b.toNat : Int), .int .u32 (h.c.toNat : Int), .int .u32 (h.d.toNat : Int), .int .u32 (h.e.toNat : Int), .int .u32 (h.f.toNat : Int), .int .u32 (h.g.toNat : Int), .int .u32 (h.i.toNat : Int)] 70)) #[.int .u32 0, .int .u32 0, .int .u32 0, .int .u32 0, .int .u32 0, .int .u32 0, .int .u32 0, .int .u32 0] 70 (by simp [maxLen])
    have h2 := (h1.weaken (base' := w.heap.size) (by simp)).below hb1
    simpa using h2⟩
  clear hb1
  go_wp2_with fail
  refine (keys_calls' _).mono ?_
  rintro e w2 ⟨K, HK, rfl, hb2⟩
  have HB2 := Lib.hid (below_trans' HB1.out hb2)
  have HH2 : Box _ := ⟨HH1.out.below hb2⟩
  have HR2 : Box _ := ⟨HR1.out.below hb2⟩
  clear hb2
  have hlF : F.length = 64 := by rw [HF.out, wcells_length, twoWords_length]
  have hlK : K.length = 64 := by rw [HK.out]; rfl
  have hoF : F.toArray.all (·.oneCell') = true := by rw [HF.out]; exact all_wcells _
  have hoK : K.toArray.all (·.oneCell') = true := by rw [HK.out]; exact all_wcells _
  have hsF : F.toArray.size = 64 := by rw [List.size_toArray, hlF]
  have hsK : K.toArray.size = 64 := by rw [List.size_toArray, hlK]
  obtain ⟨g5, hg5⟩ : ∃ g, w2.heap.size = g := ⟨_, rfl⟩
  have hwg : w.heap.size + 2 ≤ g5 := by have := HB1.out.size; have := HB2.out.size; have := HR2.out.lt (w.heap.size + 1) rfl; omega
  have h5 : Own ((w2.alloc (.cells (fw (fun _ => 0) 64).toArray 96)).alloc (.cells (fw (fun _ => 0) 64).toArray 96)) w.heap.size 1 (.slice (some ⟨g5, 0, none⟩) 64 64) 64 (fw (fun _ => 0) 64) := by
    have h1 := ((Own.fresh w2 (fw (fun _ => 0) 64).toArray 96 (by simp [fw_length, maxLen])).weaken (base' := w.heap.size) (by omega)).alloc (.cells (fw (fun _ => 0) 64).toArray 96)
    rw [hg5] at h1
    simpa [fw_length] using h1
  have h6 : Own ((w2.alloc (.cells (fw (fun _ => 0) 64).toArray 96)).alloc (.cells (fw (fun _ => 0) 64).toArray 96)) w.heap.size 1 (.slice (some ⟨g5 + 1, 0, none⟩) 64 64) 64 (fw (fun _ => 0) 64) := by
    have h1 := ((Own.fresh (w2.alloc (.cells (fw (fun _ => 0) 64).toArray 96)) (fw (fun _ => 0) 64).toArray 96 (by simp [fw_length, maxLen])).weaken (base' := w.heap.size) (by simp; omega))
    have e : (w2.alloc (.cells (fw (fun _ => 0) 64).toArray 96)).heap.size = g5 + 1 := by simp [hg5]
    rw [e] at h1
    simpa [fw_length] using h1
  obtain ⟨W3, hW3⟩ : ∃ W, (w2.alloc (.cells (fw (fun _ => 0) 64).toArray 96)).alloc (.cells (fw (fun _ => 0) 64).toArray 96) = W := ⟨_, rfl⟩
  have HB3 : Hid (Below w.heap.size w W3) := by rw [← hW3]; exact (HB2.out.alloc HB2.out.size _).alloc (by have := HB2.out.size; simp; omega) _
  have HH3 : Box (Own W3 _ _ _ _ _) := ⟨by rw [← hW3]; exact (HH2.out.alloc _).alloc _⟩
  have HR3 : Box (Own W3 _ _ _ _ _) := ⟨by rw [← hW3]; exact (HR2.out.alloc _).alloc _⟩
  rw [hW3] at h5 h6
  have k5 := h5.all F hlF
  have p5 := grownBy_setCells g5 F 0 W3
  have k6 := h6.kept p5 (.inr (by simp [Value.ownBlock]))
  have k6' := k6.all K hlK
  have p6 := grownBy_setCells (g5 + 1) K 0 (W3.setCells g5 0 F)
  have HT5 : Box (W3.there g5 0 F.toArray.size) := ⟨by rw [hsF]; exact h5.there0⟩
  have HT6 : Box ((W3.setCells g5 0 F).there (g5 + 1) 0 K.toArray.size) := ⟨by rw [hsK]; exact k6.there0⟩
  have H5 : Box (Own ((W3.setCells g5 0 F).setCells (g5 + 1) 0 K) _ _ _ _ _) := ⟨k5.kept p6 (.inr (by simp [Value.ownBlock]))⟩
  have H6 : Box _ := ⟨k6'⟩
  have HH5 : Box (Own ((W3.setCells g5 0 F).setCells (g5 + 1) 0 K) _ _ _ _ _) := ⟨(HH3.out.kept p5 (.inr (by simp [Value.ownBlock]; omega))).kept p6 (.inr (by simp [Value.ownBlock]; omega))⟩
  have HR5 : Box (Own ((W3.setCells g5 0 F).setCells (g5 + 1) 0 K) _ _ _ _ _) := ⟨(HR3.out.kept p5 (.inr (by simp [Value.ownBlock]; omega))).kept p6 (.inr (by simp [Value.ownBlock]; omega))⟩
  have HB5 : Hid (Below w.heap.size w ((W3.setCells g5 0 F).setCells (g5 + 1) 0 K)) := (HB3.out.grown p5 HB3.out.size (by simp; omega)).grown p6 (by have := p5.size; have := HB3.out.size; omega) (by simp; omega)
  have HI5 : Box ((Tryd.prog.info? 96).map (·.size) = some F.toArray.size) := ⟨by rw [hsF]; kernel_rfl⟩
  have HI6 : Box ((Tryd.prog.info? 96).map (·.size) = some K.toArray.size) := ⟨by rw [hsK]; kernel_rfl⟩
  have HoF : Box _ := ⟨hoF⟩
  have HoK : Box _ := ⟨hoK⟩
  have HG5 : Box _ := ⟨hg5⟩
  have HW3 : Box _ := ⟨hW3⟩
  clear hlF hlK hoF hoK hsF hsK h5 h6 k5 p5 k6 k6' p6 hg5 hW3
  go_wp2_with (first
    | (refine wpList_store_mid rfl 96 _ _ rfl w2.heap.size 0 F.toArray rfl rfl (by have := HT5.out; rw [← HG5.out, ← HW3.out] at this; exact this) HI5.out HoF.out ?_)
    | (refine wpList_store_mid rfl 96 _ _ rfl (w2.heap.size + 1) 0 K.toArray rfl rfl (by have := HT6.out; rw [← HG5.out, ← HW3.out] at this; exact this) HI6.out HoK.out ?_))
  change Code.wp _ _ _ _ (World.setCells (World.setCells ((w2.alloc (.cells (fw (fun _ => 0) 64).toArray 96)).alloc (.cells (fw (fun _ => 0) 64).toArray 96)) w2.heap.size 0 F) (w2.heap.size + 1) 0 K)
  rw [HW3.out, HG5.out]
  obtain ⟨W5, hW5⟩ : ∃ W, ((W3.setCells g5 0 F).setCells (g5 + 1) 0 K) = W := ⟨_, rfl⟩
  rw [hW5] at H5 H6 HH5 HR5 HB5 ⊢
  rw [HF.out] at H5
  rw [HK.out] at H6
  clear hW5
  obtain ⟨c0, _⟩ := HH5.out.cell (j := 0) (u := .int .u32 (h.a.toNat : Int)) rfl
  obtain ⟨c1, _⟩ := HH5.out.cell (j := 1) (u := .int .u32 (h.b.toNat : Int)) rfl
  obtain ⟨c2, _⟩ := HH5.out.cell (j := 2) (u := .int .u32 (h.c.toNat : Int)) rfl
  obtain ⟨c3, _⟩ := HH5.out.cell (j := 3) (u := .int .u32 (h.d.toNat : Int)) rfl
  obtain ⟨c4, _⟩ := HH5.out.cell (j := 4) (u := .int .u32 (h.e.toNat : Int)) rfl
  obtain ⟨c5, _⟩ := HH5.out.cell (j := 5) (u := .int .u32 (h.f.toNat : Int)) rfl
  obtain ⟨c6, _⟩ := HH5.out.cell (j := 6) (u := .int .u32 (h.g.toNat : Int)) rfl
  obtain ⟨c7, _⟩ := HH5.out.cell (j := 7) (u := .int .u32 (h.i.toNat : Int)) rfl
  have HM0 : Box (Own W5 w.heap.size 1 (.slice (some ⟨w.heap.size, 0, none⟩) 8 8) 8 (wcells h.cells) ∧ Own W5 w.heap.size 1 (.slice (some ⟨w.heap.size + 1, 0, none⟩) 8 8) 8 (List.replicate 8 (.int .u32 0)) ∧ Own W5 w.heap.size 1 (.slice (some ⟨g5, 0, none⟩) 64 64) 64 (wcells (twoWords s.data.toList 48)) ∧ Own W5 w.heap.size 1 (.slice (some ⟨g5 + 1, 0, none⟩) 64 64) 64 (wcells twoKeys) ∧ Below w.heap.size w W5) := ⟨HH5.out, HR5.out, H5.out, H6.out, HB5.out⟩
  go_simp
  clear H5 H6 HH5 HR5 HB5 HT5 HT6 HI5 HI6 HoF HoK HH3 HR3 HB3
  go_wp2_with fail
  go_big_quiet (fail)
  go_wp2_with fail
  go_loopw [7, 8, 9, 10, 11, 12, 13, 14, 37] (fun va vb vc vd ve vf vg vi i wr => ∃ (k : Nat) (x : Eight), k ≤ 64 ∧ i = .int .i64 (k : Int) ∧ va = .int .u32 (x.a.toNat : Int) ∧ vb = .int .u32 (x.b.toNat : Int) ∧ vc = .int .u32 (x.c.toNat : Int) ∧ vd = .int .u32 (x.d.toNat : Int) ∧ ve = .int .u32 (x.e.toNat : Int) ∧ vf = .int .u32 (x.f.toNat : Int) ∧ vg = .int .u32 (x.g.toNat : Int) ∧ vi = .int .u32 (x.i.toNat : Int) ∧ Box (x = twoRounds (twoWords s.data.toList 48) h k) ∧ Box (Own wr w.heap.size 1 (.slice (some ⟨w.heap.size, 0, none⟩) 8 8) 8 (wcells h.cells) ∧ Own wr w.heap.size 1 (.slice (some ⟨w.heap.size + 1, 0, none⟩) 8 8) 8 (List.replicate 8 (.int .u32 0)) ∧ Own wr w.heap.size 1 (.slice (some ⟨g5, 0, none⟩) 64 64) 64 (wcells (twoWords s.data.toList 48)) ∧ Own wr w.heap.size 1 (.slice (some ⟨g5 + 1, 0, none⟩) 64 64) 64 (wcells twoKeys) ∧ Below w.heap.size w wr)) (fun _ _ _ _ _ _ _ _ i _ => 64 - (intOf i).toNat)
  case atStart => exact ⟨0, h, by omega, rfl, rfl, rfl, rfl, rfl, rfl, rfl, rfl, rfl, ⟨rfl⟩, ⟨⟨HM0.out.1.drewN _, HM0.out.2.1.drewN _, HM0.out.2.2.1.drewN _, HM0.out.2.2.2.1.drewN _, below_drewN HM0.out.2.2.2.2 _⟩⟩⟩
  case round =>
    obtain ⟨k, x, hk, rfl, rfl, rfl, rfl, rfl, rfl, rfl, rfl, rfl, HX, HM⟩ := hrel
    clear c0 c1 c2 c3 c4 c5 c6 c7
    by_cases hlt : k < 64
    · obtain ⟨p, hp⟩ : ∃ p, (twoWords s.data.toList 48).getD k 0 = p := ⟨_, rfl⟩
      obtain ⟨q, hq⟩ : ∃ q, twoKeys.getD k 0 = q := ⟨_, rfl⟩
      have m1 := wlist_at (L := twoWords s.data.toList 48) (k := k) (by rw [twoWords_length]; omega)
      have m2 := wlist_at (L := twoKeys) (k := k) hlt
      rw [hp] at m1
      rw [hq] at m2
      obtain ⟨c5, _⟩ := HM.out.2.2.1.cell m1
      obtain ⟨c6, _⟩ := HM.out.2.2.2.1.cell m2
      have HE : Box (twoRounds (twoWords s.data.toList 48) h (k + 1) = twoStep q p x) := ⟨by rw [twoRounds, hp, hq, HX.out]⟩
      clear hp hq m1 m2
      have b9 : (0 : Int) ≤ (k : Int) := by omega
      have b10 : (k : Int) < 64 := by omega
      go_wp2_with fail
      go_quiet ((first
        | (go_at_call_of 72 (Value.int .i64 6); exact quiet_same (right6 _ _))
        | (go_at_call_of 72 (Value.int .i64 11); exact quiet_same (right11 _ _))
        | (go_at_call_of 72 (Value.int .i64 25); exact quiet_same (right25 _ _))))
      go_wp2_with (first
        | (go_at_call_of 72 (Value.int .i64 2); refine (right2 _ _).mono ?_; rintro e w' ⟨rfl, rfl⟩)
        | (go_at_call_of 72 (Value.int .i64 13); refine (right13 _ _).mono ?_; rintro e w' ⟨rfl, rfl⟩)
        | (go_at_call_of 72 (Value.int .i64 22); refine (right22 _ _).mono ?_; rintro e w' ⟨rfl, rfl⟩))
      go_roundw
      case rel =>
        have hmax : (if IntKind.u32.signed = true then (-1 : Int) else IntKind.u32.max) = IntKind.u32.max := rfl
        exact ⟨k + 1, twoStep q p x, by omega, by go_num, val_int (by simp only [hmax, w_xor, w_and, w_not', t_add5, t_add]; rfl), rfl, rfl, rfl, val_int (by simp only [hmax, w_xor, w_and, w_not', t_add5, t_add]; rfl), rfl, rfl, rfl, ⟨HE.out.symm⟩, ⟨⟨HM.out.1.drewN _, HM.out.2.1.drewN _, HM.out.2.2.1.drewN _, HM.out.2.2.2.1.drewN _, below_drewN HM.out.2.2.2.2 _⟩⟩⟩
      case measure => simp [intOf]; omega
    · obtain rfl : k = 64 := by omega
      obtain ⟨c0, _⟩ := HM.out.1.cell (j := 0) (u := .int .u32 (h.a.toNat : Int)) rfl
      obtain ⟨d0, f0⟩ := HM.out.2.1.cell (j := 0) (u := .int .u32 0) rfl
      obtain ⟨c1, _⟩ := HM.out.1.cell (j := 1) (u := .int .u32 (h.b.toNat : Int)) rfl
      obtain ⟨d1, f1⟩ := HM.out.2.1.cell (j := 1) (u := .int .u32 0) rfl
      obtain ⟨c2, _⟩ := HM.out.1.cell (j := 2) (u := .int .u32 (h.c.toNat : Int)) rfl
      obtain ⟨d2, f2⟩ := HM.out.2.1.cell (j := 2) (u := .int .u32 0) rfl
      obtain ⟨c3, _⟩ := HM.out.1.cell (j := 3) (u := .int .u32 (h.d.toNat : Int)) rfl
      obtain ⟨d3, f3⟩ := HM.out.2.1.cell (j := 3) (u := .int .u32 0) rfl
      obtain ⟨c4, _⟩ := HM.out.1.cell (j := 4) (u := .int .u32 (h.e.toNat : Int)) rfl
      obtain ⟨d4, f4⟩ := HM.out.2.1.cell (j := 4) (u := .int .u32 0) rfl
      obtain ⟨c5, _⟩ := HM.out.1.cell (j := 5) (u := .int .u32 (h.f.toNat : Int)) rfl
      obtain ⟨d5, f5⟩ := HM.out.2.1.cell (j := 5) (u := .int .u32 0) rfl
      obtain ⟨c6, _⟩ := HM.out.1.cell (j := 6) (u := .int .u32 (h.g.toNat : Int)) rfl
      obtain ⟨d6, f6⟩ := HM.out.2.1.cell (j := 6) (u := .int .u32 0) rfl
      obtain ⟨c7, _⟩ := HM.out.1.cell (j := 7) (u := .int .u32 (h.i.toNat : Int)) rfl
      obtain ⟨d7, f7⟩ := HM.out.2.1.cell (j := 7) (u := .int .u32 0) rfl
      go_wp2
      rw [t_add h.a x.a, t_add h.b x.b, t_add h.c x.c, t_add h.d x.d, t_add h.e x.e, t_add h.f x.f, t_add h.g x.g, t_add h.i x.i]
      have q1 := HM.out.2.1.set 0 (by simp) (.int .u32 ((h.a + x.a).toNat : Int))
      have q2 := q1.1.set 1 (by simp) (.int .u32 ((h.b + x.b).toNat : Int))
      have q3 := q2.1.set 2 (by simp) (.int .u32 ((h.c + x.c).toNat : Int))
      have q4 := q3.1.set 3 (by simp) (.int .u32 ((h.d + x.d).toNat : Int))
      have q5 := q4.1.set 4 (by simp) (.int .u32 ((h.e + x.e).toNat : Int))
      have q6 := q5.1.set 5 (by simp) (.int .u32 ((h.f + x.f).toNat : Int))
      have q7 := q6.1.set 6 (by simp) (.int .u32 ((h.g + x.g).toNat : Int))
      have q8 := q7.1.set 7 (by simp) (.int .u32 ((h.i + x.i).toNat : Int))
      have HB : Box _ := ⟨((((((((HM.out.2.2.2.2.setCell (p := ⟨w.heap.size + 1, 0, none⟩) (by simp) (.int .u32 ((h.a + x.a).toNat : Int))).setCell (p := ⟨w.heap.size + 1, 1, none⟩) (by simp) (.int .u32 ((h.b + x.b).toNat : Int))).setCell (p := ⟨w.heap.size + 1, 2, none⟩) (by simp) (.int .u32 ((h.c + x.c).toNat : Int))).setCell (p := ⟨w.heap.size + 1, 3, none⟩) (by simp) (.int .u32 ((h.d + x.d).toNat : Int))).setCell (p := ⟨w.heap.size + 1, 4, none⟩) (by simp) (.int .u32 ((h.e + x.e).toNat : Int))).setCell (p := ⟨w.heap.size + 1, 5, none⟩) (by simp) (.int .u32 ((h.f + x.f).toNat : Int))).setCell (p := ⟨w.heap.size + 1, 6, none⟩) (by simp) (.int .u32 ((h.g + x.g).toNat : Int))).setCell (p := ⟨w.heap.size + 1, 7, none⟩) (by simp) (.int .u32 ((h.i + x.i).toNat : Int)))⟩
      refine bodyPost_ret (results_cell_mid rfl _ _ (w.heap.size + 1) (wcells (h.add x).cells) _ rfl (fun j v hv => ?_) Tryd.underlying70 rfl (by kernel_rfl)) rfl ?_
      · rw [Nat.zero_add]
        exact (q8.1.cell hv).1
      · exact ⟨h.add x, ⟨by rw [twoMix, HX.out]⟩, rfl, HB.out⟩
end Go.Proofs.YtbkankpfkbafdaaDoor

/- shatwo.Sum. -/
namespace Go.Proofs.YtbkankpfkbafdaaDoor
open Go.RowKit

theorem eight_set (w : World) (base : Nat) (g : Nat) (x y : Eight) (h : Own w base 1 (.slice (some ⟨g, 0, none⟩) 8 8) 8 (wcells x.cells)) :
    Own ((((((((w.setCell ⟨g, 0, none⟩ (.int .u32 (y.a.toNat : Int))).setCell ⟨g, 1, none⟩ (.int .u32 (y.b.toNat : Int))).setCell ⟨g, 2, none⟩ (.int .u32 (y.c.toNat : Int))).setCell ⟨g, 3, none⟩ (.int .u32 (y.d.toNat : Int))).setCell ⟨g, 4, none⟩ (.int .u32 (y.e.toNat : Int))).setCell ⟨g, 5, none⟩ (.int .u32 (y.f.toNat : Int))).setCell ⟨g, 6, none⟩ (.int .u32 (y.g.toNat : Int))).setCell ⟨g, 7, none⟩ (.int .u32 (y.i.toNat : Int))) base 1 (.slice (some ⟨g, 0, none⟩) 8 8) 8 (wcells y.cells) := by
  have g1 := h.set 0 (by simp [wcells, Eight.cells]) (.int .u32 (y.a.toNat : Int))
  have g2 := g1.1.set 1 (by simp [wcells, Eight.cells]) (.int .u32 (y.b.toNat : Int))
  have g3 := g2.1.set 2 (by simp [wcells, Eight.cells]) (.int .u32 (y.c.toNat : Int))
  have g4 := g3.1.set 3 (by simp [wcells, Eight.cells]) (.int .u32 (y.d.toNat : Int))
  have g5 := g4.1.set 4 (by simp [wcells, Eight.cells]) (.int .u32 (y.e.toNat : Int))
  have g6 := g5.1.set 5 (by simp [wcells, Eight.cells]) (.int .u32 (y.f.toNat : Int))
  have g7 := g6.1.set 6 (by simp [wcells, Eight.cells]) (.int .u32 (y.g.toNat : Int))
  have g8 := g7.1.set 7 (by simp [wcells, Eight.cells]) (.int .u32 (y.i.toNat : Int))
  exact g8.1
theorem eight_below {B : Nat} {a w : World} (g : Nat) (y : Eight) (h : Below B a w) (hg : B ≤ g) : Below B a ((((((((w.setCell ⟨g, 0, none⟩ (.int .u32 (y.a.toNat : Int))).setCell ⟨g, 1, none⟩ (.int .u32 (y.b.toNat : Int))).setCell ⟨g, 2, none⟩ (.int .u32 (y.c.toNat : Int))).setCell ⟨g, 3, none⟩ (.int .u32 (y.d.toNat : Int))).setCell ⟨g, 4, none⟩ (.int .u32 (y.e.toNat : Int))).setCell ⟨g, 5, none⟩ (.int .u32 (y.f.toNat : Int))).setCell ⟨g, 6, none⟩ (.int .u32 (y.g.toNat : Int))).setCell ⟨g, 7, none⟩ (.int .u32 (y.i.toNat : Int))) :=
  ((((((((h.setCell (p := ⟨g, 0, none⟩) hg _).setCell (p := ⟨g, 1, none⟩) hg _).setCell (p := ⟨g, 2, none⟩) hg _).setCell (p := ⟨g, 3, none⟩) hg _).setCell (p := ⟨g, 4, none⟩) hg _).setCell (p := ⟨g, 5, none⟩) hg _).setCell (p := ⟨g, 6, none⟩) hg _).setCell (p := ⟨g, 7, none⟩) hg _)
theorem eight_index (x : Eight) (k : Nat) (hk : k < 8) (W : World) : (Instr.index 70 (.agg #[.int .u32 (x.a.toNat : Int), .int .u32 (x.b.toNat : Int), .int .u32 (x.c.toNat : Int), .int .u32 (x.d.toNat : Int), .int .u32 (x.e.toNat : Int), .int .u32 (x.f.toNat : Int), .int .u32 (x.g.toNat : Int), .int .u32 (x.i.toNat : Int)]) (.int .i64 (k : Int))).run Tryd.prog W = .ok (.int .u32 ((x.cells.getD k 0).toNat : Int)) W := by
  match k, hk with
  | 0, _ => show _ = _; kernel_rfl
  | 1, _ => show _ = _; kernel_rfl
  | 2, _ => show _ = _; kernel_rfl
  | 3, _ => show _ = _; kernel_rfl
  | 4, _ => show _ = _; kernel_rfl
  | 5, _ => show _ = _; kernel_rfl
  | 6, _ => show _ = _; kernel_rfl
  | 7, _ => show _ = _; kernel_rfl

theorem twoMix_calls' (h : Eight) (s : ByteArray) (w : World) (hs : s.size = 64) : Calls Tryd.prog 52 #[.agg #[.int .u32 (h.a.toNat : Int), .int .u32 (h.b.toNat : Int), .int .u32 (h.c.toNat : Int), .int .u32 (h.d.toNat : Int), .int .u32 (h.e.toNat : Int), .int .u32 (h.f.toNat : Int), .int .u32 (h.g.toNat : Int), .int .u32 (h.i.toNat : Int)], .string s] w
    fun e w' => ∃ y : Eight, Box (y = twoMix h s.data.toList) ∧ e = .returned (.agg #[.int .u32 (y.a.toNat : Int), .int .u32 (y.b.toNat : Int), .int .u32 (y.c.toNat : Int), .int .u32 (y.d.toNat : Int), .int .u32 (y.e.toNat : Int), .int .u32 (y.f.toNat : Int), .int .u32 (y.g.toNat : Int), .int .u32 (y.i.toNat : Int)]) ∧ Below w.heap.size w w' :=
  (twoMix_calls h s w hs).mono fun _ _ ⟨y, hy, he, hb⟩ => ⟨y, hy, he, hb⟩
theorem byte_of (n d : Nat) : IntKind.u8.wrap ((n : Int) / (d : Int)) = ((UInt8.ofNat (n / d)).toNat : Int) := by
  rw [IntKind.wrap_u8', ← Int.natCast_ediv]
  generalize n / d = q
  simp

set_option maxHeartbeats 1600000 in
set_option maxRecDepth 100000 in
theorem twoSum_calls (A : Option Addr) (n c : Nat) (l : List ByteArray) (w : World) (hl : l.length = n) (hc : n ≤ c) (hn : n ≤ 140737488355328) (hs : totalLen l ≤ 1000000) (hR : RowAt w A (scells l)) :
    Calls Tryd.prog 28 #[.slice A n c] w fun e w' => e = .returned (.string ⟨(twoSum (joinB l).data.toList).toArray⟩) ∧ Below w.heap.size w w' := by
  have HJ := Lib.hid (stringsJoin_calls A n c l w hl hc hn (by omega) hR)
  clear hR
  go_enter Tryd.func28, Tryd.ntmps28
  go_wp2_with fail
  refine Calls.mono HJ.out ?_
  rintro e w1 ⟨rfl, hb1⟩
  have HB1 := Lib.hid hb1; clear hb1 HJ
  have hjs := joinB_size l
  obtain ⟨s, hsj⟩ : ∃ s, joinB l = s := ⟨_, rfl⟩
  rw [hsj] at hjs ⊢
  have hs1 : s.size ≤ 1000000 := by omega
  have HP : Hid (padB (s.size : Int) = ⟨(padL s.size).toArray⟩) := by rw [Hid, padB, if_neg (by omega)]; simp
  have HSJ := Lib.hid hsj
  clear hsj hjs hs hl hc hn
  go_wp2_with fail
  refine (pad_calls (s.size : Int) _).mono ?_
  rintro e w2 ⟨rfl, hb2⟩
  have HB2 := Lib.hid (below_trans' HB1.out hb2); clear hb2
  rw [HP.out]
  have hps : (⟨(padL s.size).toArray⟩ : ByteArray).size = 9 + (119 - s.size % 64) % 64 := by rw [mk_size, padL_length]
  obtain ⟨p, hp⟩ : ∃ p, (⟨(padL s.size).toArray⟩ : ByteArray) = p := ⟨_, rfl⟩
  rw [hp] at hps ⊢
  have HPP := Lib.hid hp; clear hp
  have hp1 : p.size ≤ 72 := by omega
  have hsp : (s ++ p).size = s.size + p.size := ByteArray.size_append
  have hmod : (s.size + p.size) % 64 = 0 := by have := padL_whole s.size; rw [padL_length] at this; omega
  go_wp2
  obtain ⟨t, ht⟩ : ∃ t, s ++ p = t := ⟨_, rfl⟩
  rw [ht] at hsp ⊢
  have HT := Lib.hid ht; clear ht
  obtain ⟨m, hm⟩ : ∃ m, t.size = 64 * m := ⟨t.size / 64, by omega⟩
  have hm1 : m ≤ 20000 := by omega
  have HM := Lib.hid hm
  have ht1 : t.size ≤ 64 * m := by omega
  have ht2 : 64 * m ≤ t.size := by omega
  clear hsp hmod hps hm hp1
  obtain ⟨g, hg⟩ : ∃ g, w2.heap.size = g := ⟨_, rfl⟩
  have hO : Own (w2.alloc (.cells #[.int .u32 1779033703, .int .u32 3144134277, .int .u32 1013904242, .int .u32 2773480762, .int .u32 1359893119, .int .u32 2600822924, .int .u32 528734635, .int .u32 1541459225] 70)) w.heap.size 1 (.slice (some ⟨g, 0, none⟩) 8 8) 8 (wcells twoStart.cells) := by
    have h1 := Own.fresh w2 #[.int .u32 1779033703, .int .u32 3144134277, .int .u32 1013904242, .int .u32 2773480762, .int .u32 1359893119, .int .u32 2600822924, .int .u32 528734635, .int .u32 1541459225] 70 (by decide)
    rw [← hg]
    exact h1.weaken HB2.out.size
  have HO := Lib.hid hO; clear hO
  have hgw : w.heap.size ≤ g := by rw [← hg]; exact HB2.out.size
  have HB3 : Hid (Below w.heap.size w (w2.alloc (.cells #[.int .u32 1779033703, .int .u32 3144134277, .int .u32 1013904242, .int .u32 2773480762, .int .u32 1359893119, .int .u32 2600822924, .int .u32 528734635, .int .u32 1541459225] 70))) := HB2.out.alloc HB2.out.size _
  rw [hg]
  clear hg
  go_loopw [5] (fun i wr => ∃ (k a : Nat) (x : Eight), k ≤ m ∧ i = .int .i64 (a : Int) ∧ Hid (a = 64 * k) ∧ Hid (x = twoBlocks t.data.toList twoStart k) ∧ Hid (Own wr w.heap.size 1 (.slice (some ⟨g, 0, none⟩) 8 8) 8 (wcells x.cells)) ∧ Hid (Below w.heap.size w wr)) (fun i _ => 64 * m - (intOf i).toNat)
  case atStart => exact ⟨0, 0, twoStart, by omega, rfl, rfl, rfl, HO.out, HB3.out⟩
  case round =>
    obtain ⟨k, a, x, hk, rfl, HA, HX, HN, HW⟩ := hrel
    by_cases hlt : k < m
    · obtain ⟨c0, f0⟩ := HN.out.cell (j := 0) (u := .int .u32 (x.a.toNat : Int)) rfl
      obtain ⟨c0, f0⟩ := HN.out.cell (j := 0) (u := .int .u32 (x.a.toNat : Int)) rfl
      obtain ⟨c1, f1⟩ := HN.out.cell (j := 1) (u := .int .u32 (x.b.toNat : Int)) rfl
      obtain ⟨c2, f2⟩ := HN.out.cell (j := 2) (u := .int .u32 (x.c.toNat : Int)) rfl
      obtain ⟨c3, f3⟩ := HN.out.cell (j := 3) (u := .int .u32 (x.d.toNat : Int)) rfl
      obtain ⟨c4, f4⟩ := HN.out.cell (j := 4) (u := .int .u32 (x.e.toNat : Int)) rfl
      obtain ⟨c5, f5⟩ := HN.out.cell (j := 5) (u := .int .u32 (x.f.toNat : Int)) rfl
      obtain ⟨c6, f6⟩ := HN.out.cell (j := 6) (u := .int .u32 (x.g.toNat : Int)) rfl
      obtain ⟨c7, f7⟩ := HN.out.cell (j := 7) (u := .int .u32 (x.i.toNat : Int)) rfl
      have ha : a + 64 ≤ t.size := by have := HA.out; omega
      have HMX := Lib.hid (fun W => twoMix_calls' x (t.extract a (a + 64)) W (extract_size64 t a ha))
      have j1 : (0 : Int) ≤ (a : Int) := by omega
      have j2 : (a : Int) + 64 ≤ (t.size : Int) := by omega
      have j3 : (a : Int) < (t.size : Int) := by omega
      have j4 : (0 : Int) ≤ (a : Int) + 64 := by omega
      have j5 : (a : Int) ≤ (a : Int) + 64 := by omega
      have y1 := IntWalk.i64_in ((a : Int) + 64) (by omega)
      have y2 : ((a : Int) + 64).toNat = a + 64 := by omega
      go_wp2
      go_region_law ((go_simp; go_at_call 52; refine Calls.mono (HMX.out _) ?_; rintro e w5 ⟨y, HY, rfl, hb5⟩; have HB5 := Lib.hid hb5; have HN5 := Lib.hid (HN.out.drew.below hb5); obtain ⟨d0, e0⟩ := HN5.out.cell (j := 0) (u := .int .u32 (x.a.toNat : Int)) rfl; obtain ⟨d1, e1⟩ := HN5.out.cell (j := 1) (u := .int .u32 (x.b.toNat : Int)) rfl; obtain ⟨d2, e2⟩ := HN5.out.cell (j := 2) (u := .int .u32 (x.c.toNat : Int)) rfl; obtain ⟨d3, e3⟩ := HN5.out.cell (j := 3) (u := .int .u32 (x.d.toNat : Int)) rfl; obtain ⟨d4, e4⟩ := HN5.out.cell (j := 4) (u := .int .u32 (x.e.toNat : Int)) rfl; obtain ⟨d5, e5⟩ := HN5.out.cell (j := 5) (u := .int .u32 (x.f.toNat : Int)) rfl; obtain ⟨d6, e6⟩ := HN5.out.cell (j := 6) (u := .int .u32 (x.g.toNat : Int)) rfl; obtain ⟨d7, e7⟩ := HN5.out.cell (j := 7) (u := .int .u32 (x.i.toNat : Int)) rfl; clear hb5))
      all_goals
        go_wp2
        go_roundw
        case rel =>
          refine ⟨k + 1, a + 64, y, by omega, by go_num, by have := HA.out; rw [Hid]; omega, ?_, eight_set w5 _ g x y HN5.out, eight_below g y (below_trans' (below_drewN HW.out 1) HB5.out) hgw⟩
          rw [Hid, twoBlocks, ← HX.out, HY.out, extract_list, ← HA.out, show a + 64 - a = 64 by omega]
        case measure => simp [intOf]; omega
    · obtain rfl : k = m := by omega
      have ha : a = 64 * k := HA.out
      have ha2 : (t.size : Int) ≤ (a : Int) := by omega
      have HF : Hid (twoSum s.data.toList = x.cells.flatMap hi4) := by
        have e : t.data.toList = s.data.toList ++ padL s.size := by rw [← HT.out, ByteArray.data_append, Array.toList_append, ← HPP.out]
        rw [Hid, twoSum, data_length, ← e, data_length, HM.out, Nat.mul_div_cancel_left _ (by omega), HX.out]
      have hd : decide (a < t.size) = false := by simp; omega
      clear ha
      obtain ⟨c0, f0⟩ := HN.out.cell (j := 0) (u := .int .u32 (x.a.toNat : Int)) rfl
      obtain ⟨c1, f1⟩ := HN.out.cell (j := 1) (u := .int .u32 (x.b.toNat : Int)) rfl
      obtain ⟨c2, f2⟩ := HN.out.cell (j := 2) (u := .int .u32 (x.c.toNat : Int)) rfl
      obtain ⟨c3, f3⟩ := HN.out.cell (j := 3) (u := .int .u32 (x.d.toNat : Int)) rfl
      obtain ⟨c4, f4⟩ := HN.out.cell (j := 4) (u := .int .u32 (x.e.toNat : Int)) rfl
      obtain ⟨c5, f5⟩ := HN.out.cell (j := 5) (u := .int .u32 (x.f.toNat : Int)) rfl
      obtain ⟨c6, f6⟩ := HN.out.cell (j := 6) (u := .int .u32 (x.g.toNat : Int)) rfl
      obtain ⟨c7, f7⟩ := HN.out.cell (j := 7) (u := .int .u32 (x.i.toNat : Int)) rfl
      go_wp2
      go_loopw [6, 31] (fun v i wr => ∃ k : Nat, k ≤ 8 ∧ i = .int .i64 k ∧ Box (Own wr w.heap.size 1 v (k * 4) (bcells ((x.cells.take k).flatMap hi4))) ∧ Hid (Below w.heap.size w wr)) (fun _ i _ => 8 - (intOf i).toNat)
      case atStart => exact ⟨0, by omega, rfl, ⟨by simpa [bcells] using Own.nil _ _ _⟩, HW.out⟩
      case round =>
        obtain ⟨k, hk, rfl, HN, HW⟩ := hrel
        clear c0 c1 c2 c3 c4 c5 c6 c7 f0 f1 f2 f3 f4 f5 f6 f7
        by_cases hlt2 : k < 8
        · have hidx := fun W => eight_index x k hlt2 W
          obtain ⟨y, hy⟩ : ∃ y, x.cells.getD k 0 = y := ⟨_, rfl⟩
          rw [hy] at hidx
          have HX2 : Box ((x.cells.take (k + 1)).flatMap hi4 = (x.cells.take k).flatMap hi4 ++ hi4 y) := by
            have h5 : k < x.cells.length := hlt2
            refine ⟨?_⟩
            rw [take_snoc_of (List.getElem?_eq_getElem h5), List.flatMap_append]
            rw [List.getD_eq_getElem?_getD, List.getElem?_eq_getElem h5] at hy
            rw [← hy]; simp
          have y1 : IntKind.u8.wrap ((y.toNat : Int) / (16777216 : Int)) = ((UInt8.ofNat (y.toNat / 16777216)).toNat : Int) := byte_of y.toNat 16777216
          have y2 : IntKind.u8.wrap ((y.toNat : Int) / (65536 : Int)) = ((UInt8.ofNat (y.toNat / 65536)).toNat : Int) := byte_of y.toNat 65536
          have y3 : IntKind.u8.wrap ((y.toNat : Int) / (256 : Int)) = ((UInt8.ofNat (y.toNat / 256)).toNat : Int) := byte_of y.toNat 256
          have y4 : IntKind.u8.wrap (y.toNat : Int) = ((UInt8.ofNat y.toNat).toNat : Int) := by rw [IntKind.wrap_u8']; simp
          have Y1 : Box _ := ⟨y1⟩
          have Y2 : Box _ := ⟨y2⟩
          have Y3 : Box _ := ⟨y3⟩
          have Y4 : Box _ := ⟨y4⟩
          rw [IntKind.wrap_u8'] at y1 y2 y3 y4
          rw [Int.emod_eq_of_lt (by omega) (by have := w_lt y; omega)] at y1
          have Z : Box ([.int .u8 ((y.toNat : Int) / (16777216 : Int)), .int .u8 ((y.toNat : Int) / (65536 : Int) % 256), .int .u8 ((y.toNat : Int) / (256 : Int) % 256), .int .u8 ((y.toNat : Int) % 256)] = bcells (hi4 y)) := ⟨by rw [y1, y2, y3, y4]; rfl⟩
          clear hy y1 y2 y3 y4
          go_wp2_with (at_builtin; refine appO el_u8 w.heap.size rfl _ _ rfl rfl (HN.out.alloc _) (news := bcells (hi4 y)) rfl rfl (by rw [← Z.out]; exact rowAt_alloc _ _ _) (one_bcells _) (by omega) (by have := HW.out.size; simp; omega) ?_; intro v1 w3 hown1 hg1 _; have HO3 : Box (Own w3 w.heap.size 1 v1 ((k + 1) * 4) (bcells ((x.cells.take (k + 1)).flatMap hi4))) := (by refine ⟨?_⟩; rw [HX2.out, bcells, List.map_append, show (k + 1) * 4 = k * 4 + 4 by omega]; exact hown1); have HB3 : Hid (Below w.heap.size w w3) := Own.grown_below (HN.out.alloc _) (HW.out.alloc HW.out.size _) hg1 (Nat.le_refl _); clear hown1 hg1)
          go_roundw
          case rel => first | exact ⟨k + 1, by omega, by go_num, HO3, HB3⟩ | ((repeat apply Exists.intro); exact ⟨⟨k + 1, by omega, by go_num, HO3, HB3⟩, rfl⟩)
          case measure => simp [intOf]; omega
        · obtain rfl : k = 8 := by omega
          obtain ⟨A2, cp2, rfl, _, hr2, _⟩ := HN.out.slice
          have hcv := bytes_str Tryd.prog 31 5 9 Tryd.underlying31 Tryd.underlying5 Tryd.underlying9 A2 _ cp2 ((x.cells.take 8).flatMap hi4) wr (by have := HN.out.1; simpa [bcells] using this) hr2
          clear hr2
          go_wp2
          go_ret
          refine ⟨ret_str ?_, HW.out⟩
          rw [HSJ.out, HF.out]
          rfl
end Go.Proofs.YtbkankpfkbafdaaDoor

/- The laws of chapter 4: each returns true at every input; what was handed in is as it was. -/
namespace Go.Proofs.YtbkankpfkbafdaaDoor
open Go.RowKit

def sum2B (l : List ByteArray) : ByteArray := ⟨(twoSum (joinB l).data.toList).toArray⟩
theorem sum2B_size (l : List ByteArray) : (sum2B l).size = 32 := by
  rw [sum2B, mk_size]; simp [twoSum, Eight.cells, hi4]
theorem twoSum_new (l : List ByteArray) (n : Nat) (w : World) (hl : l.length = n) (hn : n ≤ 1000) (hs : totalLen l ≤ 1000000) :
    Calls Tryd.prog 28 #[.slice (some ⟨w.heap.size, 0, none⟩) n n] (w.alloc (.cells (scells l).toArray 9)) fun e w' => e = .returned (.string (sum2B l)) ∧ Below w.heap.size w w' :=
  (twoSum_calls _ n n l _ hl (Nat.le_refl _) (by omega) hs (rowAt_alloc w (scells l) _)).mono fun _ _ ⟨he, hb⟩ => ⟨he, ((Below.refl w.heap.size w).alloc (Nat.le_refl _) _).trans (hb.mono (by simp))⟩
def hex2B (s : ByteArray) : ByteArray := ⟨(hexL s.data.toList).toArray⟩
theorem known2_abc : hex2B (sum2B [⟨#[97, 98, 99]⟩]) = ⟨#[98, 97, 55, 56, 49, 54, 98, 102, 56, 102, 48, 49, 99, 102, 101, 97, 52, 49, 52, 49, 52, 48, 100, 101, 53, 100, 97, 101, 50, 50, 50, 51, 98, 48, 48, 51, 54, 49, 97, 51, 57, 54, 49, 55, 55, 97, 57, 99, 98, 52, 49, 48, 102, 102, 54, 49, 102, 50, 48, 48, 49, 53, 97, 100]⟩ := by
  rw [sum2B, show (joinB [⟨#[97, 98, 99]⟩]).data.toList = [97, 98, 99] by decide, two_abc]
  decide
theorem known2_empty : hex2B (sum2B [⟨#[]⟩]) = ⟨#[101, 51, 98, 48, 99, 52, 52, 50, 57, 56, 102, 99, 49, 99, 49, 52, 57, 97, 102, 98, 102, 52, 99, 56, 57, 57, 54, 102, 98, 57, 50, 52, 50, 55, 97, 101, 52, 49, 101, 52, 54, 52, 57, 98, 57, 51, 52, 99, 97, 52, 57, 53, 57, 57, 49, 98, 55, 56, 53, 50, 98, 56, 53, 53]⟩ := by
  rw [sum2B, show (joinB [⟨#[]⟩]).data.toList = [] by decide, two_empty]
  decide
theorem known2_two : hex2B (sum2B [⟨#[97, 98, 99, 100, 98, 99, 100, 101, 99, 100, 101, 102, 100, 101, 102, 103, 101, 102, 103, 104, 102, 103, 104, 105, 103, 104, 105, 106, 104, 105, 106, 107, 105, 106, 107, 108, 106, 107, 108, 109, 107, 108, 109, 110, 108, 109, 110, 111, 109, 110, 111, 112, 110, 111, 112, 113]⟩]) = ⟨#[50, 52, 56, 100, 54, 97, 54, 49, 100, 50, 48, 54, 51, 56, 98, 56, 101, 53, 99, 48, 50, 54, 57, 51, 48, 99, 51, 101, 54, 48, 51, 57, 97, 51, 51, 99, 101, 52, 53, 57, 54, 52, 102, 102, 50, 49, 54, 55, 102, 54, 101, 99, 101, 100, 100, 52, 49, 57, 100, 98, 48, 54, 99, 49]⟩ := by
  rw [sum2B, show (joinB [⟨#[97, 98, 99, 100, 98, 99, 100, 101, 99, 100, 101, 102, 100, 101, 102, 103, 101, 102, 103, 104, 102, 103, 104, 105, 103, 104, 105, 106, 104, 105, 106, 107, 105, 106, 107, 108, 106, 107, 108, 109, 107, 108, 109, 110, 108, 109, 110, 111, 109, 110, 111, 112, 110, 111, 112, 113]⟩]).data.toList = [97, 98, 99, 100, 98, 99, 100, 101, 99, 100, 101, 102, 100, 101, 102, 103, 101, 102, 103, 104, 102, 103, 104, 105, 103, 104, 105, 106, 104, 105, 106, 107, 105, 106, 107, 108, 106, 107, 108, 109, 107, 108, 109, 110, 108, 109, 110, 111, 109, 110, 111, 112, 110, 111, 112, 113] by decide, two_two]
  decide
theorem total_one2 (s : ByteArray) : totalLen [s] = s.size := by simp [totalLen]

end Go.Proofs.YtbkankpfkbafdaaDoor

/- shatwo.Key, the reference's Keys; TwoKeys. -/
namespace Go.Proofs.YtbkankpfkbafdaaDoor
open Go.RowKit

theorem keyL_lit : wcells twoKeys = [.int .u32 1116352408, .int .u32 1899447441, .int .u32 3049323471, .int .u32 3921009573, .int .u32 961987163, .int .u32 1508970993, .int .u32 2453635748, .int .u32 2870763221, .int .u32 3624381080, .int .u32 310598401, .int .u32 607225278, .int .u32 1426881987, .int .u32 1925078388, .int .u32 2162078206, .int .u32 2614888103, .int .u32 3248222580, .int .u32 3835390401, .int .u32 4022224774, .int .u32 264347078, .int .u32 604807628, .int .u32 770255983, .int .u32 1249150122, .int .u32 1555081692, .int .u32 1996064986, .int .u32 2554220882, .int .u32 2821834349, .int .u32 2952996808, .int .u32 3210313671, .int .u32 3336571891, .int .u32 3584528711, .int .u32 113926993, .int .u32 338241895, .int .u32 666307205, .int .u32 773529912, .int .u32 1294757372, .int .u32 1396182291, .int .u32 1695183700, .int .u32 1986661051, .int .u32 2177026350, .int .u32 2456956037, .int .u32 2730485921, .int .u32 2820302411, .int .u32 3259730800, .int .u32 3345764771, .int .u32 3516065817, .int .u32 3600352804, .int .u32 4094571909, .int .u32 275423344, .int .u32 430227734, .int .u32 506948616, .int .u32 659060556, .int .u32 883997877, .int .u32 958139571, .int .u32 1322822218, .int .u32 1537002063, .int .u32 1747873779, .int .u32 1955562222, .int .u32 2024104815, .int .u32 2227730452, .int .u32 2361852424, .int .u32 2428436474, .int .u32 2756734187, .int .u32 3204031479, .int .u32 3329325298] := by kernel_rfl
theorem keyL_lit2 : twoKeyL = [.int .u32 1116352408, .int .u32 1899447441, .int .u32 3049323471, .int .u32 3921009573, .int .u32 961987163, .int .u32 1508970993, .int .u32 2453635748, .int .u32 2870763221, .int .u32 3624381080, .int .u32 310598401, .int .u32 607225278, .int .u32 1426881987, .int .u32 1925078388, .int .u32 2162078206, .int .u32 2614888103, .int .u32 3248222580, .int .u32 3835390401, .int .u32 4022224774, .int .u32 264347078, .int .u32 604807628, .int .u32 770255983, .int .u32 1249150122, .int .u32 1555081692, .int .u32 1996064986, .int .u32 2554220882, .int .u32 2821834349, .int .u32 2952996808, .int .u32 3210313671, .int .u32 3336571891, .int .u32 3584528711, .int .u32 113926993, .int .u32 338241895, .int .u32 666307205, .int .u32 773529912, .int .u32 1294757372, .int .u32 1396182291, .int .u32 1695183700, .int .u32 1986661051, .int .u32 2177026350, .int .u32 2456956037, .int .u32 2730485921, .int .u32 2820302411, .int .u32 3259730800, .int .u32 3345764771, .int .u32 3516065817, .int .u32 3600352804, .int .u32 4094571909, .int .u32 275423344, .int .u32 430227734, .int .u32 506948616, .int .u32 659060556, .int .u32 883997877, .int .u32 958139571, .int .u32 1322822218, .int .u32 1537002063, .int .u32 1747873779, .int .u32 1955562222, .int .u32 2024104815, .int .u32 2227730452, .int .u32 2361852424, .int .u32 2428436474, .int .u32 2756734187, .int .u32 3204031479, .int .u32 3329325298] := by kernel_rfl
def keyArr : Array Value := #[.int .u32 1116352408, .int .u32 1899447441, .int .u32 3049323471, .int .u32 3921009573, .int .u32 961987163, .int .u32 1508970993, .int .u32 2453635748, .int .u32 2870763221, .int .u32 3624381080, .int .u32 310598401, .int .u32 607225278, .int .u32 1426881987, .int .u32 1925078388, .int .u32 2162078206, .int .u32 2614888103, .int .u32 3248222580, .int .u32 3835390401, .int .u32 4022224774, .int .u32 264347078, .int .u32 604807628, .int .u32 770255983, .int .u32 1249150122, .int .u32 1555081692, .int .u32 1996064986, .int .u32 2554220882, .int .u32 2821834349, .int .u32 2952996808, .int .u32 3210313671, .int .u32 3336571891, .int .u32 3584528711, .int .u32 113926993, .int .u32 338241895, .int .u32 666307205, .int .u32 773529912, .int .u32 1294757372, .int .u32 1396182291, .int .u32 1695183700, .int .u32 1986661051, .int .u32 2177026350, .int .u32 2456956037, .int .u32 2730485921, .int .u32 2820302411, .int .u32 3259730800, .int .u32 3345764771, .int .u32 3516065817, .int .u32 3600352804, .int .u32 4094571909, .int .u32 275423344, .int .u32 430227734, .int .u32 506948616, .int .u32 659060556, .int .u32 883997877, .int .u32 958139571, .int .u32 1322822218, .int .u32 1537002063, .int .u32 1747873779, .int .u32 1955562222, .int .u32 2024104815, .int .u32 2227730452, .int .u32 2361852424, .int .u32 2428436474, .int .u32 2756734187, .int .u32 3204031479, .int .u32 3329325298]
theorem key_index0 (W : World) : (Instr.index 96 (.agg keyArr) (.int .i64 ((0 : Nat) : Int))).run Tryd.prog W = .ok (.int .u32 ((twoKeys.getD 0 0).toNat : Int)) W := by kernel_rfl
theorem key_index1 (W : World) : (Instr.index 96 (.agg keyArr) (.int .i64 ((1 : Nat) : Int))).run Tryd.prog W = .ok (.int .u32 ((twoKeys.getD 1 0).toNat : Int)) W := by kernel_rfl
theorem key_index2 (W : World) : (Instr.index 96 (.agg keyArr) (.int .i64 ((2 : Nat) : Int))).run Tryd.prog W = .ok (.int .u32 ((twoKeys.getD 2 0).toNat : Int)) W := by kernel_rfl
theorem key_index3 (W : World) : (Instr.index 96 (.agg keyArr) (.int .i64 ((3 : Nat) : Int))).run Tryd.prog W = .ok (.int .u32 ((twoKeys.getD 3 0).toNat : Int)) W := by kernel_rfl
theorem key_index4 (W : World) : (Instr.index 96 (.agg keyArr) (.int .i64 ((4 : Nat) : Int))).run Tryd.prog W = .ok (.int .u32 ((twoKeys.getD 4 0).toNat : Int)) W := by kernel_rfl
theorem key_index5 (W : World) : (Instr.index 96 (.agg keyArr) (.int .i64 ((5 : Nat) : Int))).run Tryd.prog W = .ok (.int .u32 ((twoKeys.getD 5 0).toNat : Int)) W := by kernel_rfl
theorem key_index6 (W : World) : (Instr.index 96 (.agg keyArr) (.int .i64 ((6 : Nat) : Int))).run Tryd.prog W = .ok (.int .u32 ((twoKeys.getD 6 0).toNat : Int)) W := by kernel_rfl
theorem key_index7 (W : World) : (Instr.index 96 (.agg keyArr) (.int .i64 ((7 : Nat) : Int))).run Tryd.prog W = .ok (.int .u32 ((twoKeys.getD 7 0).toNat : Int)) W := by kernel_rfl
theorem key_index8 (W : World) : (Instr.index 96 (.agg keyArr) (.int .i64 ((8 : Nat) : Int))).run Tryd.prog W = .ok (.int .u32 ((twoKeys.getD 8 0).toNat : Int)) W := by kernel_rfl
theorem key_index9 (W : World) : (Instr.index 96 (.agg keyArr) (.int .i64 ((9 : Nat) : Int))).run Tryd.prog W = .ok (.int .u32 ((twoKeys.getD 9 0).toNat : Int)) W := by kernel_rfl
theorem key_index10 (W : World) : (Instr.index 96 (.agg keyArr) (.int .i64 ((10 : Nat) : Int))).run Tryd.prog W = .ok (.int .u32 ((twoKeys.getD 10 0).toNat : Int)) W := by kernel_rfl
theorem key_index11 (W : World) : (Instr.index 96 (.agg keyArr) (.int .i64 ((11 : Nat) : Int))).run Tryd.prog W = .ok (.int .u32 ((twoKeys.getD 11 0).toNat : Int)) W := by kernel_rfl
theorem key_index12 (W : World) : (Instr.index 96 (.agg keyArr) (.int .i64 ((12 : Nat) : Int))).run Tryd.prog W = .ok (.int .u32 ((twoKeys.getD 12 0).toNat : Int)) W := by kernel_rfl
theorem key_index13 (W : World) : (Instr.index 96 (.agg keyArr) (.int .i64 ((13 : Nat) : Int))).run Tryd.prog W = .ok (.int .u32 ((twoKeys.getD 13 0).toNat : Int)) W := by kernel_rfl
theorem key_index14 (W : World) : (Instr.index 96 (.agg keyArr) (.int .i64 ((14 : Nat) : Int))).run Tryd.prog W = .ok (.int .u32 ((twoKeys.getD 14 0).toNat : Int)) W := by kernel_rfl
theorem key_index15 (W : World) : (Instr.index 96 (.agg keyArr) (.int .i64 ((15 : Nat) : Int))).run Tryd.prog W = .ok (.int .u32 ((twoKeys.getD 15 0).toNat : Int)) W := by kernel_rfl
theorem key_index16 (W : World) : (Instr.index 96 (.agg keyArr) (.int .i64 ((16 : Nat) : Int))).run Tryd.prog W = .ok (.int .u32 ((twoKeys.getD 16 0).toNat : Int)) W := by kernel_rfl
theorem key_index17 (W : World) : (Instr.index 96 (.agg keyArr) (.int .i64 ((17 : Nat) : Int))).run Tryd.prog W = .ok (.int .u32 ((twoKeys.getD 17 0).toNat : Int)) W := by kernel_rfl
theorem key_index18 (W : World) : (Instr.index 96 (.agg keyArr) (.int .i64 ((18 : Nat) : Int))).run Tryd.prog W = .ok (.int .u32 ((twoKeys.getD 18 0).toNat : Int)) W := by kernel_rfl
theorem key_index19 (W : World) : (Instr.index 96 (.agg keyArr) (.int .i64 ((19 : Nat) : Int))).run Tryd.prog W = .ok (.int .u32 ((twoKeys.getD 19 0).toNat : Int)) W := by kernel_rfl
theorem key_index20 (W : World) : (Instr.index 96 (.agg keyArr) (.int .i64 ((20 : Nat) : Int))).run Tryd.prog W = .ok (.int .u32 ((twoKeys.getD 20 0).toNat : Int)) W := by kernel_rfl
theorem key_index21 (W : World) : (Instr.index 96 (.agg keyArr) (.int .i64 ((21 : Nat) : Int))).run Tryd.prog W = .ok (.int .u32 ((twoKeys.getD 21 0).toNat : Int)) W := by kernel_rfl
theorem key_index22 (W : World) : (Instr.index 96 (.agg keyArr) (.int .i64 ((22 : Nat) : Int))).run Tryd.prog W = .ok (.int .u32 ((twoKeys.getD 22 0).toNat : Int)) W := by kernel_rfl
theorem key_index23 (W : World) : (Instr.index 96 (.agg keyArr) (.int .i64 ((23 : Nat) : Int))).run Tryd.prog W = .ok (.int .u32 ((twoKeys.getD 23 0).toNat : Int)) W := by kernel_rfl
theorem key_index24 (W : World) : (Instr.index 96 (.agg keyArr) (.int .i64 ((24 : Nat) : Int))).run Tryd.prog W = .ok (.int .u32 ((twoKeys.getD 24 0).toNat : Int)) W := by kernel_rfl
theorem key_index25 (W : World) : (Instr.index 96 (.agg keyArr) (.int .i64 ((25 : Nat) : Int))).run Tryd.prog W = .ok (.int .u32 ((twoKeys.getD 25 0).toNat : Int)) W := by kernel_rfl
theorem key_index26 (W : World) : (Instr.index 96 (.agg keyArr) (.int .i64 ((26 : Nat) : Int))).run Tryd.prog W = .ok (.int .u32 ((twoKeys.getD 26 0).toNat : Int)) W := by kernel_rfl
theorem key_index27 (W : World) : (Instr.index 96 (.agg keyArr) (.int .i64 ((27 : Nat) : Int))).run Tryd.prog W = .ok (.int .u32 ((twoKeys.getD 27 0).toNat : Int)) W := by kernel_rfl
theorem key_index28 (W : World) : (Instr.index 96 (.agg keyArr) (.int .i64 ((28 : Nat) : Int))).run Tryd.prog W = .ok (.int .u32 ((twoKeys.getD 28 0).toNat : Int)) W := by kernel_rfl
theorem key_index29 (W : World) : (Instr.index 96 (.agg keyArr) (.int .i64 ((29 : Nat) : Int))).run Tryd.prog W = .ok (.int .u32 ((twoKeys.getD 29 0).toNat : Int)) W := by kernel_rfl
theorem key_index30 (W : World) : (Instr.index 96 (.agg keyArr) (.int .i64 ((30 : Nat) : Int))).run Tryd.prog W = .ok (.int .u32 ((twoKeys.getD 30 0).toNat : Int)) W := by kernel_rfl
theorem key_index31 (W : World) : (Instr.index 96 (.agg keyArr) (.int .i64 ((31 : Nat) : Int))).run Tryd.prog W = .ok (.int .u32 ((twoKeys.getD 31 0).toNat : Int)) W := by kernel_rfl
theorem key_index32 (W : World) : (Instr.index 96 (.agg keyArr) (.int .i64 ((32 : Nat) : Int))).run Tryd.prog W = .ok (.int .u32 ((twoKeys.getD 32 0).toNat : Int)) W := by kernel_rfl
theorem key_index33 (W : World) : (Instr.index 96 (.agg keyArr) (.int .i64 ((33 : Nat) : Int))).run Tryd.prog W = .ok (.int .u32 ((twoKeys.getD 33 0).toNat : Int)) W := by kernel_rfl
theorem key_index34 (W : World) : (Instr.index 96 (.agg keyArr) (.int .i64 ((34 : Nat) : Int))).run Tryd.prog W = .ok (.int .u32 ((twoKeys.getD 34 0).toNat : Int)) W := by kernel_rfl
theorem key_index35 (W : World) : (Instr.index 96 (.agg keyArr) (.int .i64 ((35 : Nat) : Int))).run Tryd.prog W = .ok (.int .u32 ((twoKeys.getD 35 0).toNat : Int)) W := by kernel_rfl
theorem key_index36 (W : World) : (Instr.index 96 (.agg keyArr) (.int .i64 ((36 : Nat) : Int))).run Tryd.prog W = .ok (.int .u32 ((twoKeys.getD 36 0).toNat : Int)) W := by kernel_rfl
theorem key_index37 (W : World) : (Instr.index 96 (.agg keyArr) (.int .i64 ((37 : Nat) : Int))).run Tryd.prog W = .ok (.int .u32 ((twoKeys.getD 37 0).toNat : Int)) W := by kernel_rfl
theorem key_index38 (W : World) : (Instr.index 96 (.agg keyArr) (.int .i64 ((38 : Nat) : Int))).run Tryd.prog W = .ok (.int .u32 ((twoKeys.getD 38 0).toNat : Int)) W := by kernel_rfl
theorem key_index39 (W : World) : (Instr.index 96 (.agg keyArr) (.int .i64 ((39 : Nat) : Int))).run Tryd.prog W = .ok (.int .u32 ((twoKeys.getD 39 0).toNat : Int)) W := by kernel_rfl
theorem key_index40 (W : World) : (Instr.index 96 (.agg keyArr) (.int .i64 ((40 : Nat) : Int))).run Tryd.prog W = .ok (.int .u32 ((twoKeys.getD 40 0).toNat : Int)) W := by kernel_rfl
theorem key_index41 (W : World) : (Instr.index 96 (.agg keyArr) (.int .i64 ((41 : Nat) : Int))).run Tryd.prog W = .ok (.int .u32 ((twoKeys.getD 41 0).toNat : Int)) W := by kernel_rfl
theorem key_index42 (W : World) : (Instr.index 96 (.agg keyArr) (.int .i64 ((42 : Nat) : Int))).run Tryd.prog W = .ok (.int .u32 ((twoKeys.getD 42 0).toNat : Int)) W := by kernel_rfl
theorem key_index43 (W : World) : (Instr.index 96 (.agg keyArr) (.int .i64 ((43 : Nat) : Int))).run Tryd.prog W = .ok (.int .u32 ((twoKeys.getD 43 0).toNat : Int)) W := by kernel_rfl
theorem key_index44 (W : World) : (Instr.index 96 (.agg keyArr) (.int .i64 ((44 : Nat) : Int))).run Tryd.prog W = .ok (.int .u32 ((twoKeys.getD 44 0).toNat : Int)) W := by kernel_rfl
theorem key_index45 (W : World) : (Instr.index 96 (.agg keyArr) (.int .i64 ((45 : Nat) : Int))).run Tryd.prog W = .ok (.int .u32 ((twoKeys.getD 45 0).toNat : Int)) W := by kernel_rfl
theorem key_index46 (W : World) : (Instr.index 96 (.agg keyArr) (.int .i64 ((46 : Nat) : Int))).run Tryd.prog W = .ok (.int .u32 ((twoKeys.getD 46 0).toNat : Int)) W := by kernel_rfl
theorem key_index47 (W : World) : (Instr.index 96 (.agg keyArr) (.int .i64 ((47 : Nat) : Int))).run Tryd.prog W = .ok (.int .u32 ((twoKeys.getD 47 0).toNat : Int)) W := by kernel_rfl
theorem key_index48 (W : World) : (Instr.index 96 (.agg keyArr) (.int .i64 ((48 : Nat) : Int))).run Tryd.prog W = .ok (.int .u32 ((twoKeys.getD 48 0).toNat : Int)) W := by kernel_rfl
theorem key_index49 (W : World) : (Instr.index 96 (.agg keyArr) (.int .i64 ((49 : Nat) : Int))).run Tryd.prog W = .ok (.int .u32 ((twoKeys.getD 49 0).toNat : Int)) W := by kernel_rfl
theorem key_index50 (W : World) : (Instr.index 96 (.agg keyArr) (.int .i64 ((50 : Nat) : Int))).run Tryd.prog W = .ok (.int .u32 ((twoKeys.getD 50 0).toNat : Int)) W := by kernel_rfl
theorem key_index51 (W : World) : (Instr.index 96 (.agg keyArr) (.int .i64 ((51 : Nat) : Int))).run Tryd.prog W = .ok (.int .u32 ((twoKeys.getD 51 0).toNat : Int)) W := by kernel_rfl
theorem key_index52 (W : World) : (Instr.index 96 (.agg keyArr) (.int .i64 ((52 : Nat) : Int))).run Tryd.prog W = .ok (.int .u32 ((twoKeys.getD 52 0).toNat : Int)) W := by kernel_rfl
theorem key_index53 (W : World) : (Instr.index 96 (.agg keyArr) (.int .i64 ((53 : Nat) : Int))).run Tryd.prog W = .ok (.int .u32 ((twoKeys.getD 53 0).toNat : Int)) W := by kernel_rfl
theorem key_index54 (W : World) : (Instr.index 96 (.agg keyArr) (.int .i64 ((54 : Nat) : Int))).run Tryd.prog W = .ok (.int .u32 ((twoKeys.getD 54 0).toNat : Int)) W := by kernel_rfl
theorem key_index55 (W : World) : (Instr.index 96 (.agg keyArr) (.int .i64 ((55 : Nat) : Int))).run Tryd.prog W = .ok (.int .u32 ((twoKeys.getD 55 0).toNat : Int)) W := by kernel_rfl
theorem key_index56 (W : World) : (Instr.index 96 (.agg keyArr) (.int .i64 ((56 : Nat) : Int))).run Tryd.prog W = .ok (.int .u32 ((twoKeys.getD 56 0).toNat : Int)) W := by kernel_rfl
theorem key_index57 (W : World) : (Instr.index 96 (.agg keyArr) (.int .i64 ((57 : Nat) : Int))).run Tryd.prog W = .ok (.int .u32 ((twoKeys.getD 57 0).toNat : Int)) W := by kernel_rfl
theorem key_index58 (W : World) : (Instr.index 96 (.agg keyArr) (.int .i64 ((58 : Nat) : Int))).run Tryd.prog W = .ok (.int .u32 ((twoKeys.getD 58 0).toNat : Int)) W := by kernel_rfl
theorem key_index59 (W : World) : (Instr.index 96 (.agg keyArr) (.int .i64 ((59 : Nat) : Int))).run Tryd.prog W = .ok (.int .u32 ((twoKeys.getD 59 0).toNat : Int)) W := by kernel_rfl
theorem key_index60 (W : World) : (Instr.index 96 (.agg keyArr) (.int .i64 ((60 : Nat) : Int))).run Tryd.prog W = .ok (.int .u32 ((twoKeys.getD 60 0).toNat : Int)) W := by kernel_rfl
theorem key_index61 (W : World) : (Instr.index 96 (.agg keyArr) (.int .i64 ((61 : Nat) : Int))).run Tryd.prog W = .ok (.int .u32 ((twoKeys.getD 61 0).toNat : Int)) W := by kernel_rfl
theorem key_index62 (W : World) : (Instr.index 96 (.agg keyArr) (.int .i64 ((62 : Nat) : Int))).run Tryd.prog W = .ok (.int .u32 ((twoKeys.getD 62 0).toNat : Int)) W := by kernel_rfl
theorem key_index63 (W : World) : (Instr.index 96 (.agg keyArr) (.int .i64 ((63 : Nat) : Int))).run Tryd.prog W = .ok (.int .u32 ((twoKeys.getD 63 0).toNat : Int)) W := by kernel_rfl
theorem key_index (k : Nat) (hk : k < 64) (W : World) : (Instr.index 96 (.agg #[.int .u32 1116352408, .int .u32 1899447441, .int .u32 3049323471, .int .u32 3921009573, .int .u32 961987163, .int .u32 1508970993, .int .u32 2453635748, .int .u32 2870763221, .int .u32 3624381080, .int .u32 310598401, .int .u32 607225278, .int .u32 1426881987, .int .u32 1925078388, .int .u32 2162078206, .int .u32 2614888103, .int .u32 3248222580, .int .u32 3835390401, .int .u32 4022224774, .int .u32 264347078, .int .u32 604807628, .int .u32 770255983, .int .u32 1249150122, .int .u32 1555081692, .int .u32 1996064986, .int .u32 2554220882, .int .u32 2821834349, .int .u32 2952996808, .int .u32 3210313671, .int .u32 3336571891, .int .u32 3584528711, .int .u32 113926993, .int .u32 338241895, .int .u32 666307205, .int .u32 773529912, .int .u32 1294757372, .int .u32 1396182291, .int .u32 1695183700, .int .u32 1986661051, .int .u32 2177026350, .int .u32 2456956037, .int .u32 2730485921, .int .u32 2820302411, .int .u32 3259730800, .int .u32 3345764771, .int .u32 3516065817, .int .u32 3600352804, .int .u32 4094571909, .int .u32 275423344, .int .u32 430227734, .int .u32 506948616, .int .u32 659060556, .int .u32 883997877, .int .u32 958139571, .int .u32 1322822218, .int .u32 1537002063, .int .u32 1747873779, .int .u32 1955562222, .int .u32 2024104815, .int .u32 2227730452, .int .u32 2361852424, .int .u32 2428436474, .int .u32 2756734187, .int .u32 3204031479, .int .u32 3329325298]) (.int .i64 (k : Int))).run Tryd.prog W = .ok (.int .u32 ((twoKeys.getD k 0).toNat : Int)) W := by
  have h : k = 0 ∨ k = 1 ∨ k = 2 ∨ k = 3 ∨ k = 4 ∨ k = 5 ∨ k = 6 ∨ k = 7 ∨ k = 8 ∨ k = 9 ∨ k = 10 ∨ k = 11 ∨ k = 12 ∨ k = 13 ∨ k = 14 ∨ k = 15 ∨ k = 16 ∨ k = 17 ∨ k = 18 ∨ k = 19 ∨ k = 20 ∨ k = 21 ∨ k = 22 ∨ k = 23 ∨ k = 24 ∨ k = 25 ∨ k = 26 ∨ k = 27 ∨ k = 28 ∨ k = 29 ∨ k = 30 ∨ k = 31 ∨ k = 32 ∨ k = 33 ∨ k = 34 ∨ k = 35 ∨ k = 36 ∨ k = 37 ∨ k = 38 ∨ k = 39 ∨ k = 40 ∨ k = 41 ∨ k = 42 ∨ k = 43 ∨ k = 44 ∨ k = 45 ∨ k = 46 ∨ k = 47 ∨ k = 48 ∨ k = 49 ∨ k = 50 ∨ k = 51 ∨ k = 52 ∨ k = 53 ∨ k = 54 ∨ k = 55 ∨ k = 56 ∨ k = 57 ∨ k = 58 ∨ k = 59 ∨ k = 60 ∨ k = 61 ∨ k = 62 ∨ k = 63 := by omega
  rcases h with h | h | h | h | h | h | h | h | h | h | h | h | h | h | h | h | h | h | h | h | h | h | h | h | h | h | h | h | h | h | h | h | h | h | h | h | h | h | h | h | h | h | h | h | h | h | h | h | h | h | h | h | h | h | h | h | h | h | h | h | h | h | h | h
  · rw [h]; exact key_index0 W
  · rw [h]; exact key_index1 W
  · rw [h]; exact key_index2 W
  · rw [h]; exact key_index3 W
  · rw [h]; exact key_index4 W
  · rw [h]; exact key_index5 W
  · rw [h]; exact key_index6 W
  · rw [h]; exact key_index7 W
  · rw [h]; exact key_index8 W
  · rw [h]; exact key_index9 W
  · rw [h]; exact key_index10 W
  · rw [h]; exact key_index11 W
  · rw [h]; exact key_index12 W
  · rw [h]; exact key_index13 W
  · rw [h]; exact key_index14 W
  · rw [h]; exact key_index15 W
  · rw [h]; exact key_index16 W
  · rw [h]; exact key_index17 W
  · rw [h]; exact key_index18 W
  · rw [h]; exact key_index19 W
  · rw [h]; exact key_index20 W
  · rw [h]; exact key_index21 W
  · rw [h]; exact key_index22 W
  · rw [h]; exact key_index23 W
  · rw [h]; exact key_index24 W
  · rw [h]; exact key_index25 W
  · rw [h]; exact key_index26 W
  · rw [h]; exact key_index27 W
  · rw [h]; exact key_index28 W
  · rw [h]; exact key_index29 W
  · rw [h]; exact key_index30 W
  · rw [h]; exact key_index31 W
  · rw [h]; exact key_index32 W
  · rw [h]; exact key_index33 W
  · rw [h]; exact key_index34 W
  · rw [h]; exact key_index35 W
  · rw [h]; exact key_index36 W
  · rw [h]; exact key_index37 W
  · rw [h]; exact key_index38 W
  · rw [h]; exact key_index39 W
  · rw [h]; exact key_index40 W
  · rw [h]; exact key_index41 W
  · rw [h]; exact key_index42 W
  · rw [h]; exact key_index43 W
  · rw [h]; exact key_index44 W
  · rw [h]; exact key_index45 W
  · rw [h]; exact key_index46 W
  · rw [h]; exact key_index47 W
  · rw [h]; exact key_index48 W
  · rw [h]; exact key_index49 W
  · rw [h]; exact key_index50 W
  · rw [h]; exact key_index51 W
  · rw [h]; exact key_index52 W
  · rw [h]; exact key_index53 W
  · rw [h]; exact key_index54 W
  · rw [h]; exact key_index55 W
  · rw [h]; exact key_index56 W
  · rw [h]; exact key_index57 W
  · rw [h]; exact key_index58 W
  · rw [h]; exact key_index59 W
  · rw [h]; exact key_index60 W
  · rw [h]; exact key_index61 W
  · rw [h]; exact key_index62 W
  · rw [h]; exact key_index63 W
set_option maxHeartbeats 1600000 in
theorem refKeys_calls (w : World) : Calls Tryd.prog 63 #[] w fun e w' => e = .returned (.slice (some ⟨w.heap.size, 0, none⟩) 64 64) ∧ Box (RowAt w' (some ⟨w.heap.size, 0, none⟩) (wcells twoKeys)) ∧ Below w.heap.size w w' := by
  rw [keyL_lit]
  go_enter Tryd.func63, Tryd.ntmps63
  go_wp2
  go_ret
  exact ⟨rfl, ⟨rowAt_alloc w _ _⟩, (Below.refl _ _).alloc (Nat.le_refl _) _⟩

end Go.Proofs.YtbkankpfkbafdaaDoor

/- The reference's SHA-1. -/
namespace Go.Proofs.YtbkankpfkbafdaaDoor
open Go.RowKit

theorem el_w32 : El Tryd.prog 79 67 1 4 := El.mk' Tryd.underlying79 (z := .int .u32 0) (by kernel_rfl) (by decide)
theorem word4_int (a b c d : UInt8) : bits BinOp.or IntKind.u32 (bits BinOp.or IntKind.u32 (bits BinOp.or IntKind.u32 ((a.toNat : Int) * 16777216 % 4294967296) ((b.toNat : Int) * 65536 % 4294967296)) ((c.toNat : Int) * 256 % 4294967296)) (d.toNat : Int) = ((word4 a b c d).toNat : Int) := by
  rw [bw_nat a, bw_nat b, bw_nat c, bw_nat d, show (16777216 : Int) = 2 ^ 24 by decide, show (65536 : Int) = 2 ^ 16 by decide, show (256 : Int) = 2 ^ 8 by decide, t_shl, t_shl, t_shl, w_or, w_or, w_or, word4_ref]
theorem u32_byte (b : UInt8) : IntKind.u32.wrap (b.toNat : Int) = (b.toNat : Int) := by
  have := b.toNat_lt; rw [IntKind.wrap_u32']; omega

set_option maxHeartbeats 800000 in
theorem refWord_calls (s : ByteArray) (w : World) (hs : 4 ≤ s.size) : Calls Tryd.prog 60 #[.string s] w fun e w' => e = .returned (.int .u32 ((word4 (s[0]'(by omega)) (s[1]'(by omega)) (s[2]'(by omega)) (s[3]'(by omega))).toNat : Int)) ∧ ∃ n, w' = w.drewN n := by
  have h0 : 0 < s.size := by omega
  have h1 : 1 < s.size := by omega
  have h2 : 2 < s.size := by omega
  have h3 : 3 < s.size := by omega
  have i0 : (0 : Int) < (s.size : Int) := by omega
  have i1 : (1 : Int) < (s.size : Int) := by omega
  have i2 : (2 : Int) < (s.size : Int) := by omega
  have i3 : (3 : Int) < (s.size : Int) := by omega
  have u0 := u32_byte s[0]
  have u1 := u32_byte s[1]
  have u2 := u32_byte s[2]
  have u3 := u32_byte s[3]

  go_enter Tryd.func60, Tryd.ntmps60
  go_wp2_with fail
  go_big_quiet (fail)
  go_wp2
  go_ret
  exact ⟨ret_int (word4_int _ _ _ _), _, rfl⟩

set_option maxHeartbeats 800000 in
theorem refTurn_calls (x : BitVec 32) (k : Nat) (w : World) (hk : k ≤ 32) : Calls Tryd.prog 61 #[.int .u32 (x.toNat : Int), .int .i64 (k : Int)] w fun e w' => e = .returned (.int .u32 ((turn x k).toNat : Int)) ∧ ∃ n, w' = w.drewN n := by
  have y1 := IntWalk.i64_in (32 - (k : Int)) (by omega)
  have y2 : (32 - (k : Int)).toNat = 32 - k := by omega
  have y3 : (0 : Int) ≤ 32 - (k : Int) := by omega
  have y4 : (k : Int) ≤ 32 := by omega
  go_enter Tryd.func61, Tryd.ntmps61
  go_wp2_with fail
  go_big_quiet (fail)
  go_wp2
  go_ret
  exact ⟨ret_int (by rw [t_shl, t_shr, w_or]; rfl), _, rfl⟩

theorem block_word (t : ByteArray) (a k : Nat) (_ha : a + 64 ≤ t.size) (hk : k < 16) (h4 : 4 ≤ (t.extract (a + 4 * k) (a + 4 * k + 4)).size) :
    word4 ((t.extract (a + 4 * k) (a + 4 * k + 4))[0]'(by omega)) ((t.extract (a + 4 * k) (a + 4 * k + 4))[1]'(by omega)) ((t.extract (a + 4 * k) (a + 4 * k + 4))[2]'(by omega)) ((t.extract (a + 4 * k) (a + 4 * k + 4))[3]'(by omega)) = (oneWords ((t.data.toList.drop a).take 64) 64).getD k 0 := by
  rw [oneW_low _ hk]
  have key : ∀ i, (hi : i < 4) → ((t.extract (a + 4 * k) (a + 4 * k + 4))[i]'(by omega)) = ((t.data.toList.drop a).take 64).getD (4 * k + i) 0 := by
    intro i hi
    rw [← getD_str _ i (by omega), extract_list]
    simp only [List.getD_eq_getElem?_getD, List.getElem?_take, List.getElem?_drop]
    rw [if_pos (by omega), if_pos (by omega), Nat.add_assoc]
  rw [key 0 (by omega), key 1 (by omega), key 2 (by omega), key 3 (by omega)]
  rfl

theorem quiet_more {P : Program} {f : FuncId} {args : Array Value} {w : World} {n : Nat} {v : Value}
    (h : Calls P f args (w.drewN n) fun e w' => e = .returned v ∧ ∃ m, w' = (w.drewN n).drewN m) : Calls P f args (w.drewN n) fun e w'' => e = .returned v ∧ ∃ m, w'' = w.drewN m :=
  h.mono fun _ _ ⟨he, m, hm⟩ => ⟨he, n + m, by rw [hm, World.drewN_drewN]⟩
theorem oneF_1 (n : Nat) (b c d : BitVec 32) (h : n < 20) : oneF n b c d = (b &&& c ||| ~~~b &&& d) := by rw [oneF, if_pos h]
theorem oneF_2 (n : Nat) (b c d : BitVec 32) (h : 20 ≤ n) (h2 : n < 40) : oneF n b c d = (b ^^^ c ^^^ d) := by rw [oneF, if_neg (by omega), if_pos h2]
theorem oneF_3 (n : Nat) (b c d : BitVec 32) (h : 40 ≤ n) (h2 : n < 60) : oneF n b c d = (b &&& c ||| b &&& d ||| c &&& d) := by rw [oneF, if_neg (by omega), if_neg (by omega), if_pos h2]
theorem oneF_4 (n : Nat) (b c d : BitVec 32) (h : 60 ≤ n) : oneF n b c d = (b ^^^ c ^^^ d) := by rw [oneF, if_neg (by omega), if_neg (by omega), if_neg (by omega)]
theorem oneK_1 (n : Nat) (h : n < 20) : oneK n = 0x5a827999 := by rw [oneK, if_pos h]
theorem oneK_2 (n : Nat) (h : 20 ≤ n) (h2 : n < 40) : oneK n = 0x6ed9eba1 := by rw [oneK, if_neg (by omega), if_pos h2]
theorem oneK_3 (n : Nat) (h : 40 ≤ n) (h2 : n < 60) : oneK n = 0x8f1bbcdc := by rw [oneK, if_neg (by omega), if_neg (by omega), if_pos h2]
theorem oneK_4 (n : Nat) (h : 60 ≤ n) : oneK n = 0xca62c1d6 := by rw [oneK, if_neg (by omega), if_neg (by omega), if_neg (by omega)]
theorem drewN_of {w wr : World} (h : ∃ q, wr = w.drewN q) (n : Nat) : ∃ q, wr.drewN n = w.drewN q := by
  obtain ⟨q, rfl⟩ := h; exact ⟨q + n, World.drewN_drewN _ _ _⟩
theorem cell_drewN {w wr : World} (h : ∃ q, wr = w.drewN q) {a : Addr} {v : Value} (hc : w.cell? a = some v) : wr.cell? a = some v := by
  obtain ⟨q, rfl⟩ := h; exact hc

set_option maxHeartbeats 3000000 in
set_option maxRecDepth 100000 in
theorem refOne_calls (s : ByteArray) (w : World) (hs : s.size ≤ 1000000) :
    Calls Tryd.prog 42 #[.string s] w fun e w' => e = .returned (.string ⟨(oneSum s.data.toList).toArray⟩) ∧ Below w.heap.size w w' := by
  go_enter Tryd.func42, Tryd.ntmps42
  have HP : Hid (padB (s.size : Int) = ⟨(padL s.size).toArray⟩) := by rw [Hid, padB, if_neg (by omega)]; simp
  go_wp2_with fail
  refine (refPad_calls (s.size : Int) _).mono ?_
  rintro e w2 ⟨rfl, hb2⟩
  have HB2 := Lib.hid ((((Below.refl w.heap.size w).alloc (Nat.le_refl _) (.cells #[.int .u32 1732584193, .int .u32 4023233417, .int .u32 2562383102, .int .u32 271733878, .int .u32 3285377520] 67))).trans (hb2.mono (by simp)))
  have HO := Lib.hid ((Own.fresh w #[.int .u32 1732584193, .int .u32 4023233417, .int .u32 2562383102, .int .u32 271733878, .int .u32 3285377520] 67 (by decide)).below hb2)
  clear hb2
  rw [HP.out]
  have hps : (⟨(padL s.size).toArray⟩ : ByteArray).size = 9 + (119 - s.size % 64) % 64 := by rw [mk_size, padL_length]
  obtain ⟨p, hp⟩ : ∃ p, (⟨(padL s.size).toArray⟩ : ByteArray) = p := ⟨_, rfl⟩
  rw [hp] at hps ⊢
  have HPP := Lib.hid hp; clear hp
  have hp1 : p.size ≤ 72 := by omega
  have hsp : (s ++ p).size = s.size + p.size := ByteArray.size_append
  have hmod : (s.size + p.size) % 64 = 0 := by have := padL_whole s.size; rw [padL_length] at this; omega
  go_wp2
  obtain ⟨t, ht⟩ : ∃ t, s ++ p = t := ⟨_, rfl⟩
  rw [ht] at hsp ⊢
  have HT := Lib.hid ht; clear ht
  obtain ⟨m, hm⟩ : ∃ m, t.size = 64 * m := ⟨t.size / 64, by omega⟩
  have hm1 : m ≤ 20000 := by omega
  have HM := Lib.hid hm
  have ht1 : t.size ≤ 64 * m := by omega
  have ht2 : 64 * m ≤ t.size := by omega
  clear hsp hmod hps hm hp1
  go_loopw [3, 4] (fun v i wr => ∃ (k a g : Nat) (x : Five), k ≤ m ∧ v = .slice (some ⟨g, 0, none⟩) 5 5 ∧ i = .int .i64 (a : Int) ∧ Hid (a = 64 * k) ∧ Hid (x = oneBlocks t.data.toList oneStart k) ∧ Hid (Own wr w.heap.size 1 (.slice (some ⟨g, 0, none⟩) 5 5) 5 (wcells x.cells)) ∧ Hid (Below w.heap.size w wr)) (fun _ i _ => 64 * m - (intOf i).toNat)
  case atStart => exact ⟨0, 0, w.heap.size, oneStart, by omega, rfl, rfl, rfl, rfl, HO.out, HB2.out⟩
  case round =>
    obtain ⟨k, a, g, x, hk, rfl, rfl, HA, HX, HN, HW⟩ := hrel
    by_cases hlt : k < m
    · have ha : a + 64 ≤ t.size := by have := HA.out; omega
      have hd : decide (a < t.size) = true := by simp; omega
      obtain ⟨wo, rfl⟩ : ∃ wo : World, wo = wr := ⟨_, rfl⟩
      go_upto_block 2 with fail
      go_cut [5] from 24 to 178 (fun v wx => Hid (Own wx wo.heap.size 1 v 80 (wcells (oneWords ((t.data.toList.drop a).take 64) 64))) ∧ Hid (Below wo.heap.size wo wx))
      case first =>
        go_wp2_with fail
        go_loopw [5, 6] (fun v i wr => ∃ n : Nat, n ≤ 80 ∧ i = .int .i64 (n : Int) ∧ Hid (Own wr wo.heap.size 1 v n (wcells ((oneWords ((t.data.toList.drop a).take 64) 64).take n))) ∧ Hid (Below wo.heap.size wo wr)) (fun _ i _ => 80 - (intOf i).toNat)
        case atStart => exact ⟨0, by omega, rfl, Own.nil _ _ _, Below.refl _ _⟩
        case round =>
          obtain ⟨n, hn, rfl, HV, HWV⟩ := hrel
          by_cases hlt2 : n < 80
          · obtain ⟨W, hW⟩ : ∃ W, oneWords ((t.data.toList.drop a).take 64) 64 = W := ⟨_, rfl⟩
            have hWl : W.length = 80 := by rw [← hW, oneWords_length]
            have HHW : Box (oneWords ((t.data.toList.drop a).take 64) 64 = W) := ⟨hW⟩
            rw [hW] at HV
            obtain ⟨y, hy⟩ : ∃ y, W.getD n 0 = y := ⟨_, rfl⟩
            have HS : Box (W.take (n + 1) = W.take n ++ [y]) := by
              rw [← hy, List.getD_eq_getElem?_getD, List.getElem?_eq_getElem (by omega)]
              exact ⟨take_snoc_of (List.getElem?_eq_getElem (by omega))⟩
            by_cases h16 : n < 16
            · have h4 : 4 ≤ (t.extract (a + 4 * n) (a + 4 * n + 4)).size := by rw [ByteArray.size_extract]; omega
              have HWC : Box (∀ W' : World, Calls Tryd.prog 60 #[.string (t.extract (a + 4 * n) (a + 4 * n + 4))] W' fun e w' => e = .returned (.int .u32 (y.toNat : Int)) ∧ ∃ n, w' = W'.drewN n) := by
                refine ⟨fun W' => ?_⟩
                have h := refWord_calls (t.extract (a + 4 * n) (a + 4 * n + 4)) W' h4
                rw [block_word t a n ha h16 h4, hW, hy] at h
                exact h
              clear hW hWl h4 hy
              go_wp2_with (first
                | (go_at_call 60; refine Calls.mono (HWC.out _) ?_; rintro e w5 ⟨rfl, dn, rfl⟩)
                | (at_builtin; refine appO el_w32 wo.heap.size rfl _ _ rfl rfl ((HV.out.drewN _).alloc _) (news := wcells [y]) rfl rfl (rowAt_alloc _ (wcells [y]) _) (one_wcells _) (by omega) (by have := HWV.out.size; simp; omega) ?_; intro v1 w6 hown1 hg1 _; have HO6 : Hid (Own w6 wo.heap.size 1 v1 (n + 1) (wcells (W.take (n + 1)))) := (by rw [HS.out, wcells, List.map_append]; exact hown1); have HB6 : Hid (Below wo.heap.size wo w6) := Own.grown_below ((HV.out.drewN dn).alloc _) ((below_drewN HWV.out dn).alloc (by simpa using HWV.out.size) _) hg1 (Nat.le_refl _); clear hown1 hg1))
              go_roundw
              case rel => first | exact ⟨n + 1, by omega, by go_num, by rw [HHW.out]; exact HO6.out, HB6.out⟩ | ((repeat apply Exists.intro); exact ⟨⟨n + 1, by omega, by go_num, by rw [HHW.out]; exact HO6.out, HB6.out⟩, rfl⟩)
              case measure => simp [intOf]; omega
            · have hn0 : 0 < n := by omega
              obtain ⟨g5, cap5, rfl, hgb, hgl, hcap, hrow⟩ := HV.out.form hn0
              have at_ : ∀ d, 0 < d → d ≤ 16 → (W.take n)[n - d]? = some (W.getD (n - d) 0) := by
                intro d h1 h2
                rw [List.getElem?_take, if_pos (by omega), List.getD_eq_getElem?_getD, List.getElem?_eq_getElem (by omega)]; rfl
              have m3 := wcells_at (at_ 3 (by omega) (by omega))
              have m8 := wcells_at (at_ 8 (by omega) (by omega))
              have m14 := wcells_at (at_ 14 (by omega) (by omega))
              have m16 := wcells_at (at_ 16 (by omega) (by omega))
              have hyy : y = turn (W.getD (n - 3) 0 ^^^ W.getD (n - 8) 0 ^^^ W.getD (n - 14) 0 ^^^ W.getD (n - 16) 0) 1 := by
                rw [← hy, ← hW]; exact oneW_high _ (by omega) hlt2
              obtain ⟨p3, e3⟩ : ∃ p, W.getD (n - 3) 0 = p := ⟨_, rfl⟩
              obtain ⟨p8, e8⟩ : ∃ p, W.getD (n - 8) 0 = p := ⟨_, rfl⟩
              obtain ⟨p14, e14⟩ : ∃ p, W.getD (n - 14) 0 = p := ⟨_, rfl⟩
              obtain ⟨p16, e16⟩ : ∃ p, W.getD (n - 16) 0 = p := ⟨_, rfl⟩
              rw [e3, e8, e14, e16] at hyy
              rw [e3] at m3
              rw [e8] at m8
              rw [e14] at m14
              rw [e16] at m16
              have c3 := row_cell hrow m3
              have c8 := row_cell hrow m8
              have c14 := row_cell hrow m14
              have c16 := row_cell hrow m16
              have HM3 : Box _ := ⟨m3⟩
              have HM8 : Box _ := ⟨m8⟩
              have HM14 : Box _ := ⟨m14⟩
              have HM16 : Box _ := ⟨m16⟩
              have HC : Box (∀ W : World, Calls Tryd.prog 61 #[.int .u32 (bits .xor .u32 (bits .xor .u32 (bits .xor .u32 (p3.toNat : Int) (p8.toNat : Int)) (p14.toNat : Int)) (p16.toNat : Int)), .int .i64 1] W fun e w' => e = .returned (.int .u32 (y.toNat : Int)) ∧ ∃ n, w' = W.drewN n) := by
                refine ⟨fun W => ?_⟩
                rw [w_xor, w_xor, w_xor, hyy]
                exact refTurn_calls _ 1 W (by omega)
              clear e3 e8 e14 e16 hyy hy hW hWl at_ m3 m8 m14 m16 hrow
              have y1 := IntWalk.i64_in ((n : Int) - 3) (by omega)
              have y2 := IntWalk.i64_in ((n : Int) - 8) (by omega)
              have y3 := IntWalk.i64_in ((n : Int) - 14) (by omega)
              have y4 := IntWalk.i64_in ((n : Int) - 16) (by omega)
              have z1 : ((n : Int) - 3).toNat = n - 3 := by omega
              have z2 : ((n : Int) - 8).toNat = n - 8 := by omega
              have z3 : ((n : Int) - 14).toNat = n - 14 := by omega
              have z4 : ((n : Int) - 16).toNat = n - 16 := by omega
              have b1 : (0 : Int) ≤ (n : Int) - 3 := by omega
              have b2 : (0 : Int) ≤ (n : Int) - 8 := by omega
              have b3 : (0 : Int) ≤ (n : Int) - 14 := by omega
              have b4 : (0 : Int) ≤ (n : Int) - 16 := by omega
              have a1 : (3 : Int) ≤ (n : Int) := by omega
              have a2 : (8 : Int) ≤ (n : Int) := by omega
              have a3 : (14 : Int) ≤ (n : Int) := by omega
              have a4 : (16 : Int) ≤ (n : Int) := by omega
              have b5 : (n : Int) - 3 < (n : Int) := by omega
              have b6 : (n : Int) - 8 < (n : Int) := by omega
              have b7 : (n : Int) - 14 < (n : Int) := by omega
              have b8 : (n : Int) - 16 < (n : Int) := by omega
              go_wp2
              go_region_held3 (fun w' => w'.cell? ⟨g5, n - 3, none⟩ = some (.int .u32 (p3.toNat : Int)) ∧ w'.cell? ⟨g5, n - 8, none⟩ = some (.int .u32 (p8.toNat : Int)) ∧ w'.cell? ⟨g5, n - 14, none⟩ = some (.int .u32 (p14.toNat : Int)) ∧ w'.cell? ⟨g5, n - 16, none⟩ = some (.int .u32 (p16.toNat : Int)))
                (first | exact ⟨c3, c8, c14, c16⟩ | exact ⟨row_cell HK.out HM3.out, row_cell HK.out HM8.out, row_cell HK.out HM14.out, row_cell HK.out HM16.out⟩ | exact ⟨(World.cell?_alloc_lt _ _ _ (World.block_lt_of_cell? _ _ c3)).trans c3, (World.cell?_alloc_lt _ _ _ (World.block_lt_of_cell? _ _ c8)).trans c8, (World.cell?_alloc_lt _ _ _ (World.block_lt_of_cell? _ _ c14)).trans c14, (World.cell?_alloc_lt _ _ _ (World.block_lt_of_cell? _ _ c16)).trans c16⟩)
                (first
                  | (go_at_call 61; refine Calls.mono (HC.out _) ?_; rintro e w5 ⟨rfl, dn, rfl⟩)
                  | (refine step_appO2 el_w32 wo.heap.size rfl _ _ rfl rfl ((HV.out.drewN (1 + dn)).alloc _) (news := wcells [y]) rfl rfl (rowAt_alloc _ (wcells [y]) _) (one_wcells _) (by omega) (by have := HWV.out.size; simp; omega) ?_; intro v1 w6 hown1 hg1 _ hk1 _; have HK : Box _ := ⟨hk1 _ _ rfl⟩; have HO6 : Hid (Own w6 wo.heap.size 1 v1 (n + 1) (wcells (W.take (n + 1)))) := (by rw [HS.out, wcells, List.map_append]; exact hown1); have HB6 : Hid (Below wo.heap.size wo w6) := Own.grown_below ((HV.out.drewN (1 + dn)).alloc _) ((below_drewN HWV.out (1 + dn)).alloc (by simpa using HWV.out.size) _) hg1 (Nat.le_refl _); clear hown1 hg1 hk1))
              go_wp2
              go_roundw
              case rel => first | exact ⟨n + 1, by omega, by go_num, by rw [HHW.out]; exact HO6.out, HB6.out⟩ | ((repeat apply Exists.intro); exact ⟨⟨n + 1, by omega, by go_num, by rw [HHW.out]; exact HO6.out, HB6.out⟩, rfl⟩)
              case measure => simp [intOf]; omega
          · obtain rfl : n = 80 := by omega
            go_wp2_with fail
            go_meet
            refine ⟨?_, HWV.out⟩
            have := HV.out
            rwa [List.take_of_length_le (by rw [oneWords_length]; omega)] at this
      case rest =>
        obtain ⟨HV, HWV⟩ := hcut
        obtain ⟨wa, rfl⟩ : ∃ wa : World, wa = wc := ⟨_, rfl⟩
        obtain ⟨g5, cap5, rfl, hgb, hgl, hcap, hrow⟩ := HV.out.form (by omega)
        have HN1 := Lib.hid (HN.out.below HWV.out)
        have HRow : Box _ := ⟨hrow⟩
        clear hrow
        obtain ⟨c0, _⟩ := HN1.out.cell (j := 0) (u := .int .u32 (x.a.toNat : Int)) rfl
        obtain ⟨c1, _⟩ := HN1.out.cell (j := 1) (u := .int .u32 (x.b.toNat : Int)) rfl
        obtain ⟨c2, _⟩ := HN1.out.cell (j := 2) (u := .int .u32 (x.c.toNat : Int)) rfl
        obtain ⟨c3, _⟩ := HN1.out.cell (j := 3) (u := .int .u32 (x.d.toNat : Int)) rfl
        obtain ⟨c4, _⟩ := HN1.out.cell (j := 4) (u := .int .u32 (x.e.toNat : Int)) rfl
        go_wp2_with fail
        go_big_quiet (fail)
        obtain ⟨wq, hwq⟩ : ∃ wq, wq = wa.drewN nq := ⟨_, rfl⟩
        have HQ : Box (∃ q, wq = wa.drewN q) := ⟨⟨_, hwq⟩⟩
        rw [← hwq]
        clear hwq
        go_upto_block 4 with fail
        go_cut [7, 8, 9, 10, 11] from 24 to 178 (fun va vb vc vd ve wx => ∃ y : Five, va = .int .u32 (y.a.toNat : Int) ∧ vb = .int .u32 (y.b.toNat : Int) ∧ vc = .int .u32 (y.c.toNat : Int) ∧ vd = .int .u32 (y.d.toNat : Int) ∧ ve = .int .u32 (y.e.toNat : Int) ∧ Box (y = oneRounds (oneWords ((t.data.toList.drop a).take 64) 64) x 80) ∧ Box (∃ q, wx = wa.drewN q))
        case first =>
          clear c0 c1 c2 c3 c4
          go_wp2_with fail
          go_loopw [7, 8, 9, 10, 11, 12] (fun va vb vc vd ve i wr => ∃ (n : Nat) (y : Five), n ≤ 80 ∧ i = .int .i64 (n : Int) ∧ va = .int .u32 (y.a.toNat : Int) ∧ vb = .int .u32 (y.b.toNat : Int) ∧ vc = .int .u32 (y.c.toNat : Int) ∧ vd = .int .u32 (y.d.toNat : Int) ∧ ve = .int .u32 (y.e.toNat : Int) ∧ Box (y = oneRounds (oneWords ((t.data.toList.drop a).take 64) 64) x n) ∧ Box (∃ q, wr = wa.drewN q)) (fun _ _ _ _ _ i _ => 80 - (intOf i).toNat)
          case atStart => exact ⟨0, x, by omega, rfl, rfl, rfl, rfl, rfl, rfl, ⟨rfl⟩, HQ⟩
          case round =>
            obtain ⟨n, y, hn, rfl, rfl, rfl, rfl, rfl, rfl, HY, HQ⟩ := hrel
            by_cases hlt2 : n < 80
            · obtain ⟨p, hp⟩ : ∃ p, (oneWords ((t.data.toList.drop a).take 64) 64).getD n 0 = p := ⟨_, rfl⟩
              have hc : wr.cell? ⟨g5, n, none⟩ = some (.int .u32 (p.toNat : Int)) := by
                refine cell_drewN HQ.out (row_cell HRow.out (wcells_at ?_))
                rw [← hp, List.getD_eq_getElem?_getD, List.getElem?_eq_getElem (by rw [oneWords_length]; omega)]; rfl
              have HE : Box (oneRounds (oneWords ((t.data.toList.drop a).take 64) 64) x (n + 1) = oneStep n p y) := ⟨by rw [oneRounds, hp, HY.out]⟩
              clear hp
              have b9 : (0 : Int) ≤ (n : Int) := by omega
              have b10 : (n : Int) < 80 := by omega
              by_cases r1 : n < 20
              · have HF : Box (oneF n y.b y.c y.d = _) := ⟨oneF_1 n _ _ _ r1⟩
                have HK : Box (oneK n = _) := ⟨oneK_1 n r1⟩
                go_wp2
                go_quiet ((go_at_call 61; exact quiet_more (refTurn_calls _ 5 _ (by omega))))
                go_wp2_with (go_at_call 61; refine (refTurn_calls _ 30 _ (by omega)).mono ?_; rintro e w' ⟨rfl, dn, rfl⟩)
                go_roundw
                case rel =>
                  first
                    | exact ⟨n + 1, oneStep n p y, by omega, by go_num, val_int (by rw [w_and, w_not', w_and, w_or, oneStep, HF.out, HK.out, ← t_add5]; rfl), rfl, rfl, rfl, rfl, ⟨HE.out.symm⟩, ⟨by first | exact drewN_of HQ.out _ | exact drewN_of (drewN_of HQ.out _) _⟩⟩
                    | ((repeat apply Exists.intro); exact ⟨⟨n + 1, oneStep n p y, by omega, by go_num, val_int (by rw [w_and, w_not', w_and, w_or, oneStep, HF.out, HK.out, ← t_add5]; rfl), rfl, rfl, rfl, rfl, ⟨HE.out.symm⟩, ⟨by first | exact drewN_of HQ.out _ | exact drewN_of (drewN_of HQ.out _) _⟩⟩, rfl⟩)
                case measure => simp [intOf]; omega
              by_cases r2 : n < 40
              · have r1' : 20 ≤ n := by omega
                have HF : Box (oneF n y.b y.c y.d = _) := ⟨oneF_2 n _ _ _ r1' r2⟩
                have HK : Box (oneK n = _) := ⟨oneK_2 n r1' r2⟩
                go_wp2
                go_quiet ((go_at_call 61; exact quiet_more (refTurn_calls _ 5 _ (by omega))))
                go_wp2_with (go_at_call 61; refine (refTurn_calls _ 30 _ (by omega)).mono ?_; rintro e w' ⟨rfl, dn, rfl⟩)
                go_roundw
                case rel =>
                  first
                    | exact ⟨n + 1, oneStep n p y, by omega, by go_num, val_int (by rw [w_xor, w_xor, oneStep, HF.out, HK.out, ← t_add5]; rfl), rfl, rfl, rfl, rfl, ⟨HE.out.symm⟩, ⟨by first | exact drewN_of HQ.out _ | exact drewN_of (drewN_of HQ.out _) _⟩⟩
                    | ((repeat apply Exists.intro); exact ⟨⟨n + 1, oneStep n p y, by omega, by go_num, val_int (by rw [w_xor, w_xor, oneStep, HF.out, HK.out, ← t_add5]; rfl), rfl, rfl, rfl, rfl, ⟨HE.out.symm⟩, ⟨by first | exact drewN_of HQ.out _ | exact drewN_of (drewN_of HQ.out _) _⟩⟩, rfl⟩)
                case measure => simp [intOf]; omega
              by_cases r3 : n < 60
              · have r2' : 40 ≤ n := by omega
                have HF : Box (oneF n y.b y.c y.d = _) := ⟨oneF_3 n _ _ _ r2' r3⟩
                have HK : Box (oneK n = _) := ⟨oneK_3 n r2' r3⟩
                go_wp2
                go_quiet ((go_at_call 61; exact quiet_more (refTurn_calls _ 5 _ (by omega))))
                go_wp2_with (go_at_call 61; refine (refTurn_calls _ 30 _ (by omega)).mono ?_; rintro e w' ⟨rfl, dn, rfl⟩)
                go_roundw
                case rel =>
                  first
                    | exact ⟨n + 1, oneStep n p y, by omega, by go_num, val_int (by rw [w_and, w_and, w_and, w_or, w_or, oneStep, HF.out, HK.out, ← t_add5]; rfl), rfl, rfl, rfl, rfl, ⟨HE.out.symm⟩, ⟨by first | exact drewN_of HQ.out _ | exact drewN_of (drewN_of HQ.out _) _⟩⟩
                    | ((repeat apply Exists.intro); exact ⟨⟨n + 1, oneStep n p y, by omega, by go_num, val_int (by rw [w_and, w_and, w_and, w_or, w_or, oneStep, HF.out, HK.out, ← t_add5]; rfl), rfl, rfl, rfl, rfl, ⟨HE.out.symm⟩, ⟨by first | exact drewN_of HQ.out _ | exact drewN_of (drewN_of HQ.out _) _⟩⟩, rfl⟩)
                case measure => simp [intOf]; omega
              · have r3' : 60 ≤ n := by omega
                have HF : Box (oneF n y.b y.c y.d = _) := ⟨oneF_4 n _ _ _ r3'⟩
                have HK : Box (oneK n = _) := ⟨oneK_4 n r3'⟩
                go_wp2
                go_quiet ((go_at_call 61; exact quiet_more (refTurn_calls _ 5 _ (by omega))))
                go_wp2_with (go_at_call 61; refine (refTurn_calls _ 30 _ (by omega)).mono ?_; rintro e w' ⟨rfl, dn, rfl⟩)
                go_roundw
                case rel =>
                  first
                    | exact ⟨n + 1, oneStep n p y, by omega, by go_num, val_int (by rw [w_xor, w_xor, oneStep, HF.out, HK.out, ← t_add5]; rfl), rfl, rfl, rfl, rfl, ⟨HE.out.symm⟩, ⟨by first | exact drewN_of HQ.out _ | exact drewN_of (drewN_of HQ.out _) _⟩⟩
                    | ((repeat apply Exists.intro); exact ⟨⟨n + 1, oneStep n p y, by omega, by go_num, val_int (by rw [w_xor, w_xor, oneStep, HF.out, HK.out, ← t_add5]; rfl), rfl, rfl, rfl, rfl, ⟨HE.out.symm⟩, ⟨by first | exact drewN_of HQ.out _ | exact drewN_of (drewN_of HQ.out _) _⟩⟩, rfl⟩)
                case measure => simp [intOf]; omega
            · obtain rfl : n = 80 := by omega
              go_wp2_with fail
              go_meet
              exact ⟨y, rfl, rfl, rfl, rfl, rfl, HY, HQ⟩
        case rest =>
          obtain ⟨y, rfl, rfl, rfl, rfl, rfl, HY, HQ⟩ := hcut
          have HN2 : Box (Own wc w.heap.size 1 (.slice (some ⟨g, 0, none⟩) 5 5) 5 (wcells x.cells)) := by
            obtain ⟨q, rfl⟩ := HQ.out
            exact ⟨HN1.out.drewN q⟩
          have HW2 : Box (Below w.heap.size w wc) := by
            obtain ⟨q, rfl⟩ := HQ.out
            exact ⟨below_drewN (HW.out.trans (HWV.out.mono HW.out.size)) q⟩
          clear c0 c1 c2 c3 c4
          obtain ⟨c0, _⟩ := HN2.out.cell (j := 0) (u := .int .u32 (x.a.toNat : Int)) rfl
          obtain ⟨c1, _⟩ := HN2.out.cell (j := 1) (u := .int .u32 (x.b.toNat : Int)) rfl
          obtain ⟨c2, _⟩ := HN2.out.cell (j := 2) (u := .int .u32 (x.c.toNat : Int)) rfl
          obtain ⟨c3, _⟩ := HN2.out.cell (j := 3) (u := .int .u32 (x.d.toNat : Int)) rfl
          obtain ⟨c4, _⟩ := HN2.out.cell (j := 4) (u := .int .u32 (x.e.toNat : Int)) rfl
          have hFin : Box (oneBlocks t.data.toList oneStart (k + 1) = x.add y) := ⟨by rw [oneBlocks, ← HX.out, oneMix, ← HA.out, ← HY.out]⟩
          go_wp2_with fail
          go_region_held3 (fun w' => w'.cell? ⟨g, 0, none⟩ = some (.int .u32 (x.a.toNat : Int)) ∧ w'.cell? ⟨g, 1, none⟩ = some (.int .u32 (x.b.toNat : Int)) ∧ w'.cell? ⟨g, 2, none⟩ = some (.int .u32 (x.c.toNat : Int)) ∧ w'.cell? ⟨g, 3, none⟩ = some (.int .u32 (x.d.toNat : Int)) ∧ w'.cell? ⟨g, 4, none⟩ = some (.int .u32 (x.e.toNat : Int)))
            (first | exact ⟨c0, c1, c2, c3, c4⟩ | exact ⟨(World.cell?_alloc_lt _ _ _ (World.block_lt_of_cell? _ _ c0)).trans c0, (World.cell?_alloc_lt _ _ _ (World.block_lt_of_cell? _ _ c1)).trans c1, (World.cell?_alloc_lt _ _ _ (World.block_lt_of_cell? _ _ c2)).trans c2, (World.cell?_alloc_lt _ _ _ (World.block_lt_of_cell? _ _ c3)).trans c3, (World.cell?_alloc_lt _ _ _ (World.block_lt_of_cell? _ _ c4)).trans c4⟩) (fail)
          go_wp2_with fail
          go_roundw
          case rel =>
            have hO := (Own.fresh wc (wcells (x.add y).cells).toArray 67 (by simp [wcells, Five.cells, maxLen])).weaken HW2.out.size
            refine ⟨k + 1, a + 64, wc.heap.size, x.add y, by omega, rfl, by go_num, by have := HA.out; rw [Hid]; omega, hFin.out.symm, ?_, ?_⟩
            · rw [t_add x.a, t_add x.b, t_add x.c, t_add x.d, t_add x.e]
              exact Own.drew hO
            · exact below_drewN (HW2.out.alloc HW2.out.size _) 1
          case measure => simp [intOf]; omega
    · obtain rfl : k = m := by omega
      have ha2 : t.size ≤ a := by have := HA.out; omega
      have hd : decide (a < t.size) = false := by simp; omega
      have hd2 : decide ((a : Int) < (t.size : Int)) = false := by simp; omega
      have HF : Box (oneSum s.data.toList = x.cells.flatMap hi4) := by
        have e : t.data.toList = s.data.toList ++ padL s.size := by rw [← HT.out, ByteArray.data_append, Array.toList_append, ← HPP.out]
        refine ⟨?_⟩
        rw [oneSum, data_length, ← e, data_length, HM.out, Nat.mul_div_cancel_left _ (by omega), HX.out]
      go_wp2
      go_loopw [16, 17] (fun v i wr => ∃ k : Nat, k ≤ 5 ∧ i = .int .i64 (k : Int) ∧ v = .string (outB (x.cells.take k)) ∧ Hid (Own wr w.heap.size 1 (.slice (some ⟨g, 0, none⟩) 5 5) 5 (wcells x.cells)) ∧ Hid (Below w.heap.size w wr)) (fun _ i _ => 5 - (intOf i).toNat)
      case atStart => exact ⟨0, by omega, rfl, rfl, HN.out, HW.out⟩
      case round =>
        obtain ⟨k, hk, rfl, rfl, HN, HW⟩ := hrel
        by_cases hlt2 : k < 5
        · obtain ⟨y, hy⟩ : ∃ y, x.cells.getD k 0 = y := ⟨_, rfl⟩
          have h5 : x.cells[k]? = some y := by
            rw [← hy, List.getD_eq_getElem?_getD, List.getElem?_eq_getElem (show k < x.cells.length from hlt2)]; rfl
          obtain ⟨c0, _⟩ := HN.out.cell (wcells_at h5)
          have HX2 : Box (outB (x.cells.take (k + 1)) = outB (x.cells.take k) ++ ⟨(hiL y.toNat 4).toArray⟩) := ⟨by rw [take_snoc_of h5, outB_snoc]⟩
          have hsz : (outB (x.cells.take k)).size ≤ 20 := by rw [outB_size, List.length_take]; omega
          have hy32 : IntKind.u64.wrap (y.toNat : Int) = (y.toNat : Int) := by rw [IntKind.wrap_u64]; have := w_lt y; omega
          have hy33 := w_lt y
          clear hy h5
          go_wp2_with fail
          refine (refHigh_calls y.toNat 4 _ (by omega) (by omega)).mono ?_
          rintro e w7 ⟨rfl, hb7⟩
          have HB7 := Lib.hid (below_trans' HW.out hb7)
          have HN7 := Lib.hid (HN.out.below hb7)
          clear hb7
          have hq1 : (⟨(hiL y.toNat 4).toArray⟩ : ByteArray).size = 4 := by rw [mk_size, hiL_length]
          obtain ⟨q, hq⟩ : ∃ q, (⟨(hiL y.toNat 4).toArray⟩ : ByteArray) = q := ⟨_, rfl⟩
          have HX3 : Box (outB (x.cells.take (k + 1)) = outB (x.cells.take k) ++ q) := ⟨by rw [HX2.out, hq]⟩
          rw [hq] at hq1 ⊢
          have hq2 : q.size ≤ 4 := by omega
          clear hq1 hq
          go_wp2
          go_roundw
          case rel => first | exact ⟨k + 1, by omega, by go_num, by rw [HX3.out], HN7.out, HB7.out⟩ | ((repeat apply Exists.intro); exact ⟨⟨k + 1, by omega, by go_num, by rw [HX3.out], HN7.out, HB7.out⟩, rfl⟩)
          case measure => simp [intOf]; omega
        · obtain rfl : k = 5 := by omega
          go_wp2
          go_ret
          refine ⟨ret_str ?_, HW.out⟩
          rw [HF.out]
          rfl
end Go.Proofs.YtbkankpfkbafdaaDoor
