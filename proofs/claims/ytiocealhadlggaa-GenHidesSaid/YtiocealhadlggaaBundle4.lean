/- Words and contracts that this claim leans on, one text behind the other. -/
import Derived.Test.YtiocealhadlggaaBundle3
import Derived.Test.YtiocealhadlggaaOutPad
/- An Out, an In of a law's own: all calls on it, said in one form (the world it began in; what it holds). -/
namespace Go.Proofs.Ytiocealhadlggaa
open Go.RowKit
set_option linter.unusedVariables false

structure OutI (w0 w : World) (g : Nat) (d : Int × List UInt8) : Prop where
  ex : ∃ v, OutS w g v d.1 d.2 ∧ ∀ b, v.ownBlock = some b → w0.heap.size ≤ b
  ge : w0.heap.size ≤ g
  bel : Below w0.heap.size w0 w
structure InI (w0 w : World) (g : Nat) (d : Int × ByteArray) : Prop where
  at_ : InS w g d.1 d.2
  ge : w0.heap.size ≤ g
  bel : Below w0.heap.size w0 w
section
variable {P : Program} {f : FuncId} {args : Array Value} {w0 w w1 : World} {g : Nat} {R : Ending}
theorem OutI.step {d d' : Int × List UInt8} (h : OutI w0 w g d) (c : ∀ v, OutS w g v d.1 d.2 → Calls P f args w1 fun r w' => r = R ∧ OutTo w w' g v d') : Calls P f args w1 fun r w' => r = R ∧ OutI w0 w' g d' := by
  obtain ⟨v, hv, hb⟩ := h.ex
  refine (c v hv).mono fun r w' ⟨h1, h2⟩ => ⟨h1, ?_⟩
  obtain ⟨⟨v', h3, h4⟩, h5⟩ := h2
  refine ⟨⟨v', h3, fun b hb' => ?_⟩, h.ge, h5.below h.bel h.bel.size ?_⟩
  · rcases h4 b hb' with h6 | h6
    · exact hb b h6
    · exact Nat.le_trans h.bel.size h6
  · intro k hk
    simp only [List.mem_cons, Option.mem_toList] at hk
    rcases hk with rfl | hk
    · exact h.ge
    · exact hb k hk
theorem OutI.below {d : Int × List UInt8} (h : OutI w0 w g d) (hb : Below w.heap.size w w1) : OutI w0 w1 g d := by
  obtain ⟨v, hv, hv2⟩ := h.ex
  exact ⟨⟨v, hv.below hb, hv2⟩, h.ge, below_trans' h.bel hb⟩
theorem InI.step {d : Int × ByteArray} {e : Int} {s : ByteArray} (h : InI w0 w g d) (c : InS w g d.1 d.2 → Calls P f args w fun r w' => r = R ∧ InS w' g e s ∧ Touched w w' [g]) : Calls P f args w fun r w' => r = R ∧ InI w0 w' g (e, s) :=
  (c h.at_).mono fun r w' ⟨h1, h2, h3⟩ => ⟨h1, h2, h.ge, h3.below h.bel h.bel.size (by have := h.ge; simpa using this)⟩
theorem InI.below {d : Int × ByteArray} (h : InI w0 w g d) (hb : Below w.heap.size w w1) : InI w0 w1 g d := ⟨h.at_.below hb, h.ge, below_trans' h.bel hb⟩
end
section
variable {w0 w : World} {g : Nat}
end
end Go.Proofs.Ytiocealhadlggaa

/- What was laid is read as it was: plain; make([]byte, n) and string of it. -/
namespace Go.Proofs.Ytiocealhadlggaa
open Go.RowKit
set_option linter.unusedVariables false

theorem zeros_str (n : Nat) (hn : n ≤ 281474976710656) (W : World) : (convert 91 9 (.slice (some ⟨W.heap.size, 0, none⟩) n n)).run Try.prog (W.alloc (.cells (bcells (List.replicate n 0)).toArray 5)) = .ok (.string (zerosB n)) (W.alloc (.cells (bcells (List.replicate n 0)).toArray 5)) := by
  have h := bytes_str Try.prog 91 5 9 Try.underlying91 Try.underlying5 Try.underlying9 (some ⟨W.heap.size, 0, none⟩) n n (List.replicate n 0) _ (by simp) (by
    obtain ⟨A, c, e, _, hr, _⟩ := (zeros_own W n (by unfold maxLen; omega)).slice
    injection e with e1 e2 e3
    subst e1
    exact hr)
  rw [h]; rfl

theorem i64_low (k : Nat) (hk : k < 63) (x : Int) : bits BinOp.and IntKind.i64 x ((2 ^ k - 1 : Nat) : Int) = x % ((2 ^ k : Nat) : Int) := by
  show IntKind.i64.wrap ((BitVec.ofInt 64 x &&& BitVec.ofInt 64 ((2 ^ k - 1 : Nat) : Int)).toNat : Int) = _
  have hp : (2 : Nat) ^ k ≤ 2 ^ 62 := Nat.pow_le_pow_right (by decide) (by omega)
  have hp2 : (2 : Nat) ^ 62 = 4611686018427387904 := by decide
  have hp0 : 0 < (2 : Nat) ^ k := Nat.pow_pos (by decide)
  have e1 : (((2 ^ k - 1 : Nat) : Int) % ((2 ^ 64 : Nat) : Int)).toNat = 2 ^ k - 1 := by
    have : (2 : Nat) ^ 64 = 18446744073709551616 := by decide
    rw [this]; omega
  rw [BitVec.toNat_and, BitVec.toNat_ofInt, BitVec.toNat_ofInt, e1, Nat.and_two_pow_sub_one_eq_mod]
  have h : 0 ≤ x % ((2 ^ 64 : Nat) : Int) := Int.emod_nonneg _ (by decide)
  have h2 : ((((x % ((2 ^ 64 : Nat) : Int)).toNat % 2 ^ k : Nat) : Int)) = x % ((2 ^ k : Nat) : Int) := by
    rw [Int.natCast_emod, Int.toNat_of_nonneg h]
    exact Int.emod_emod_of_dvd x (by exact_mod_cast Nat.pow_dvd_pow 2 (by omega))
  rw [h2]
  have h3 : 0 ≤ x % ((2 ^ k : Nat) : Int) := Int.emod_nonneg _ (by omega)
  have h4 : x % ((2 ^ k : Nat) : Int) < ((2 ^ k : Nat) : Int) := Int.emod_lt_of_pos _ (by omega)
  exact IntWalk.i64_in _ (by omega)

theorem layB_fine {size : Nat} {x : Int} (h0 : 0 ≤ x) (h : 8 ≤ size ∨ x < ((256 ^ size : Nat) : Int)) : layB size x = false := by
  refine decide_eq_false ?_
  rintro (h1 | ⟨h1, h2⟩)
  · omega
  · rcases h with h | h
    · omega
    · have e : ((2 : Int) ^ (8 * size)) = ((256 ^ size : Nat) : Int) := by rw [Int.pow_mul]; simp
      rw [e] at h2
      exact h2 (Int.ediv_eq_zero_of_lt h0 h)
theorem layO_fine (size : Nat) (l : List UInt8) (xs : List Int) (h : ∀ x ∈ xs, layB size x = false) : layO size (0, l) xs = (0, l ++ xs.flatMap fun x => lowL x.toNat size) := by
  induction xs generalizing l with
  | nil => simp [layO]
  | cons x xs ih =>
    have h1 : layOne size (0, l) x = (0, l ++ lowL x.toNat size) := by
      rw [layOne, if_neg (by simp), if_neg (by rw [h x (by simp)]; simp)]
    rw [layO, List.foldl_cons, h1]
    have := ih (l ++ lowL x.toNat size) (fun y hy => h y (by simp [hy]))
    rw [layO] at this
    rw [this]
    simp
theorem layO_many (size : Nat) (l : List UInt8) (xs : List Int) (n : Nat) (hn : l.length + size * xs.length = n) (h : ∀ x ∈ xs, layB size x = false) : ∃ m, layO size (0, l) xs = (0, m) ∧ m.length = n := by
  refine ⟨_, layO_fine size l xs h, ?_⟩
  subst hn
  clear h
  induction xs generalizing l with
  | nil => simp
  | cons x xs ih =>
    have := ih (l ++ lowL x.toNat size)
    simp only [List.length_append, List.flatMap_cons, lowL_length, List.length_cons, Nat.mul_add] at *
    omega
theorem mkS_toList (l : List UInt8) : (⟨l.toArray⟩ : ByteArray).data.toList = l := by simp
theorem ext_mk (l : List UInt8) (i j : Nat) (h : j ≤ l.length) : (⟨l.toArray⟩ : ByteArray).extract i j = ⟨((l.take j).drop i).toArray⟩ := by
  apply ByteArray.ext
  apply Array.toList_inj.mp
  simp [ByteArray.data_extract, List.extract_eq_take_drop, List.drop_take]
theorem rawI_ok (a b : List UInt8) (n : Nat) (h : a.length = n) : rawI 0 ⟨(a ++ b).toArray⟩ (n : Int) = (⟨a.toArray⟩, 0, ⟨b.toArray⟩) := by
  subst h
  rw [rawI, if_neg (by simp), if_neg (by omega), if_neg (by rw [mk_size, List.length_append]; omega), Int.toNat_natCast, mk_size, ext_mk _ _ _ (by simp), ext_mk _ _ _ (Nat.le_refl _), List.take_of_length_le (Nat.le_refl _)]
  simp
theorem lowI_ok (x size : Nat) (b : List UInt8) (hx : x < 256 ^ size) (hb : x < 9223372036854775808) : lowI 0 ⟨(lowL x size ++ b).toArray⟩ size = ((x : Int), 0, ⟨b.toArray⟩) := by
  have h := rawI_ok (lowL x size) b size (lowL_length x size)
  have e : numL (lowL x size) = x := by rw [numL_lowL, Nat.mod_eq_of_lt hx]
  rw [lowI, h]
  simp only [e]
  rw [if_neg (by omega)]
theorem textI_ok (s : ByteArray) (b : List UInt8) (h : s.size ≤ 65535) : textI 0 ⟨(lowL s.size 2 ++ (s.data.toList ++ b)).toArray⟩ = (s, 0, ⟨b.toArray⟩) := by
  rw [textI, lowI_ok s.size 2 _ (by simp; omega) (by omega)]
  simp only
  rw [rawI_ok _ _ _ (data_length s), mk_data]
theorem rawI_err (e : Int) (s : ByteArray) (n : Int) (h : e ≠ 0) : rawI e s n = (ByteArray.empty, e, s) := by rw [rawI, if_pos h]
theorem rawI_short (s : ByteArray) (n : Nat) (h : s.size < n) : rawI 0 s (n : Int) = (ByteArray.empty, 5, s) := by
  rw [rawI, if_neg (by simp), if_neg (by omega), if_pos (by omega)]
theorem numL_empty : numL ByteArray.empty.data.toList = 0 := rfl
theorem lowI_err (e : Int) (s : ByteArray) (n : Nat) (h : e ≠ 0) : lowI e s n = (0, e, s) := by
  rw [lowI, rawI_err e s _ h, numL_empty, if_neg (by omega)]; rfl
theorem lowI_short (s : ByteArray) (n : Nat) (h : s.size < n) : lowI 0 s n = (0, 5, s) := by
  rw [lowI, rawI_short s n h, numL_empty, if_neg (by omega)]; rfl
theorem textI_err (e : Int) (s : ByteArray) (h : e ≠ 0) : textI e s = (ByteArray.empty, e, s) := by
  rw [textI, lowI_err e s 2 h]; exact rawI_err e s 0 h
theorem textI_short (s : ByteArray) (h : s.size < 2) : textI 0 s = (ByteArray.empty, 5, s) := by
  rw [textI, lowI_short s 2 h]; exact rawI_err 5 s 0 (by decide)
theorem textO_fine (l : List UInt8) (s : ByteArray) (h : s.size ≤ 65535) : textO (0, l) [s] = (0, l ++ (lowL s.size 2 ++ s.data.toList)) := by
  rw [textO, List.foldl_cons, List.foldl_nil, textOne, if_neg (by simp), if_neg (by omega), List.append_assoc]
theorem textO_fine2 (l : List UInt8) (s t : ByteArray) (h : s.size ≤ 65535) (h2 : t.size ≤ 65535) : textO (0, l) [s, t] = (0, l ++ (lowL s.size 2 ++ (s.data.toList ++ (lowL t.size 2 ++ t.data.toList)))) := by
  have h1 := textO_fine l s h
  have h3 := textO_fine (l ++ (lowL s.size 2 ++ s.data.toList)) t h2
  rw [textO, List.foldl_cons, List.foldl_nil] at h1 h3
  rw [textO, List.foldl_cons, List.foldl_cons, List.foldl_nil, h1, h3]
  simp
theorem textI_size' (e : Int) (s : ByteArray) : (textI e s).2.2.size ≤ s.size :=
  Nat.le_trans (rawI_size _ _ _).2.1 (lowI_size e s 2)
end Go.Proofs.Ytiocealhadlggaa
