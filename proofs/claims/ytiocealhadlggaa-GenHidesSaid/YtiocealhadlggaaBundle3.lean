/- Words and contracts that this claim leans on, one text behind the other. -/
import Derived.Test.YtiocealhadlggaaOutLay
import Derived.Test.YtiocealhadlggaaBundle2
import Derived.Test.YtiocealhadlggaaShelf
import Derived.Laws.BitsAllLaws
/- bits.Out: Byte, Half, Word, Long; lists that were just built; Text; End. (The four are printed by a program: alike.) -/
namespace Go.Proofs.Ytiocealhadlggaa
open Go.RowKit
set_option linter.unusedVariables false

theorem OutS.newRow {w : World} {g : Nat} {v : Value} {e : Int} {l : List UInt8} (h : OutS w g v e l) (xs : List Value) (t : TypeId) : ∀ w', Touched (w.alloc (.cells xs.toArray t)) w' (g :: v.ownBlock.toList) → RowAt w' (some ⟨w.heap.size, 0, none⟩) xs := by
  intro w' hT
  refine row_touched (rowAt_alloc w xs t) hT (.inr ⟨_, rfl, ?_⟩)
  intro hm
  have h1 := h.lt
  simp only [List.mem_cons, Option.mem_toList] at hm
  rcases hm with hm | hm
  · omega
  · have := h.vlt hm; omega
theorem OutS.alloc {w : World} {g : Nat} {v : Value} {e : Int} {l : List UInt8} (h : OutS w g v e l) (o : Obj) : OutS (w.alloc o) g v e l := h.below ((Below.refl _ _).alloc (Nat.le_refl _) o)
theorem OutTo.alloc {w w' : World} {g : Nat} {v : Value} {d : Int × List UInt8} {o : Obj} (h : OutTo (w.alloc o) w' g v d) : OutTo w w' g v d := OutTo.trans ((Touched.refl w _).alloc o) (fun _ h => .inl h) h
theorem OutTo.below {w w' w2 : World} {g : Nat} {v : Value} {d : Int × List UInt8} (h : OutTo w w' g v d) (hb : Below w'.heap.size w' w2) : OutTo w w2 g v d := by
  obtain ⟨⟨v', h1, h2⟩, h3⟩ := h
  exact ⟨⟨v', h1.below hb, h2⟩, h3.trans (Touched.of_below hb _)⟩

/-- End. -/
def endO (d : Int × List UInt8) : ByteArray × Int := if d.1 ≠ 0 then (ByteArray.empty, d.1) else (⟨d.2.toArray⟩, 0)
end Go.Proofs.Ytiocealhadlggaa

/- bits.Out: Text. -/
namespace Go.Proofs.Ytiocealhadlggaa
open Go.RowKit
set_option linter.unusedVariables false

def textOne (d : Int × List UInt8) (s : ByteArray) : Int × List UInt8 := if d.1 ≠ 0 then d else if 65535 < s.size then (2, d.2) else (0, d.2 ++ lowL s.size 2 ++ s.data.toList)
def textO (d : Int × List UInt8) (ts : List ByteArray) : Int × List UInt8 := ts.foldl textOne d
theorem textO_snoc (d : Int × List UInt8) (ts : List ByteArray) (s : ByteArray) : textO d (ts ++ [s]) = textOne (textO d ts) s := by simp [textO, List.foldl_append]
theorem textO_err (d : Int × List UInt8) (ts : List ByteArray) (h : d.1 ≠ 0) : textO d ts = d := by
  induction ts with
  | nil => rfl
  | cons x xs ih => rw [textO, List.foldl_cons, textOne, if_pos h]; exact ih
theorem textO_stop (d : Int × List UInt8) (ts : List ByteArray) (k : Nat) (h : (textO d (ts.take k)).1 ≠ 0) : textO d ts = textO d (ts.take k) := by
  conv => lhs; rw [← List.take_append_drop k ts]
  rw [textO, List.foldl_append]
  exact textO_err _ _ h
theorem textO_len (d : Int × List UInt8) (ts : List ByteArray) : ((textO d ts).2.length : Int) ≤ d.2.length + totalLen ts + 2 * ts.length := by
  induction ts generalizing d with
  | nil => simp [textO, totalLen]
  | cons x xs ih =>
    have h := ih (textOne d x)
    have h2 : ((textOne d x).2.length : Int) ≤ d.2.length + 2 + x.size := by
      unfold textOne
      split
      · omega
      · split
        · show (d.2.length : Int) ≤ _; omega
        · simp only [List.length_append, lowL_length, data_length]; omega
    have h3 : totalLen (x :: xs) = x.size + totalLen xs := by simp [totalLen]
    rw [textO, List.foldl_cons]
    rw [textO] at h
    rw [List.length_cons, h3]
    omega
theorem text_parts (l : List UInt8) (s : ByteArray) (h : s.size ≤ 65535) : layO 2 (0, l) [(s.size : Int)] = (0, l ++ lowL s.size 2) ∧ rawO (0, l ++ lowL s.size 2) [s] = (0, l ++ lowL s.size 2 ++ s.data.toList) := by
  constructor
  · have hb : layB 2 (s.size : Int) = false := decide_eq_false (by
      intro hh
      have e1 : (s.size : Int) / 2 ^ (8 * 2) = 0 := by show (s.size : Int) / 65536 = 0; omega
      omega)
    rw [layO, List.foldl_cons, List.foldl_nil, layOne, if_neg (by simp), if_neg (by simp [hb])]
    simp
  · rw [rawO, if_neg (by simp)]
    simp [joinB]
end Go.Proofs.Ytiocealhadlggaa

/- bits.In: what is left, with its error; Raw, numbers, texts, Left, Rest, End. -/
namespace Go.Proofs.Ytiocealhadlggaa
open Go.RowKit
set_option linter.unusedVariables false

/-- An In at a block: its error, what is left. -/
structure InS (w : World) (g : Nat) (e : Int) (s : ByteArray) : Prop where
  c0 : w.cell? ⟨g, 0, none⟩ = some (.string s)
  c1 : w.cell? ⟨g, 1, none⟩ = some (.int .i64 e)
  f0 : w.frozen? ⟨g, 0, none⟩ = false
  f1 : w.frozen? ⟨g, 1, none⟩ = false
section
variable {w w1 : World} {g : Nat} {e : Int} {s : ByteArray}
theorem InS.lt (h : InS w g e s) : g < w.heap.size := World.block_lt_of_cell? w _ h.c0
theorem InS.touched {bs : List Nat} (h : InS w g e s) (hT : Touched w w1 bs) (hn : g ∉ bs) : InS w1 g e s :=
  ⟨(hT.cell h.lt hn).trans h.c0, (hT.cell h.lt hn).trans h.c1, (hT.free h.lt hn).trans h.f0, (hT.free h.lt hn).trans h.f1⟩
theorem InS.below (h : InS w g e s) (hb : Below w.heap.size w w1) : InS w1 g e s := h.touched (Touched.of_below hb []) (by simp)
theorem InS.set (h : InS w g e s) (t : ByteArray) : InS (w.setCell ⟨g, 0, none⟩ (.string t)) g e t :=
  ⟨World.cell?_setCell_same' w _ _ (by rw [h.c0]; simp), (World.cell?_setCell_other w ⟨g, 0, none⟩ ⟨g, 1, none⟩ _ (by simp)).trans h.c1, by rw [World.frozen?_setCell]; exact h.f0, by rw [World.frozen?_setCell]; exact h.f1⟩
theorem InS.fail (h : InS w g e s) (x : Int) : InS (w.setCell ⟨g, 1, none⟩ (.int .i64 x)) g x s :=
  ⟨(World.cell?_setCell_other w ⟨g, 1, none⟩ ⟨g, 0, none⟩ _ (by simp)).trans h.c0, World.cell?_setCell_same' w _ _ (by rw [h.c1]; simp), by rw [World.frozen?_setCell]; exact h.f0, by rw [World.frozen?_setCell]; exact h.f1⟩
end
/-- Raw. -/
def rawI (e : Int) (s : ByteArray) (n : Int) : ByteArray × Int × ByteArray :=
  if e ≠ 0 then (ByteArray.empty, e, s) else if n < 0 then (ByteArray.empty, 1, s) else if (s.size : Int) < n then (ByteArray.empty, 5, s) else (s.extract 0 n.toNat, 0, s.extract n.toNat s.size)
theorem rawI_size (e : Int) (s : ByteArray) (n : Int) : (rawI e s n).1.size ≤ s.size ∧ (rawI e s n).2.2.size ≤ s.size ∧ (0 ≤ n → ((rawI e s n).1.size : Int) ≤ n) := by
  unfold rawI
  split
  · exact ⟨by show 0 ≤ s.size; omega, Nat.le_refl _, fun h => h⟩
  · split
    · exact ⟨by show 0 ≤ s.size; omega, Nat.le_refl _, fun h => h⟩
    · split
      · exact ⟨by show 0 ≤ s.size; omega, Nat.le_refl _, fun h => h⟩
      · simp only [ByteArray.size_extract]
        omega

/-- Left. -/
def leftI (e : Int) (s : ByteArray) : Int := if e ≠ 0 then 0 else (s.size : Int)
end Go.Proofs.Ytiocealhadlggaa

/- bits.In: numbers, texts. -/
namespace Go.Proofs.Ytiocealhadlggaa
open Go.RowKit
set_option linter.unusedVariables false

theorem numL_snoc (l : List UInt8) (b : UInt8) : numL (l ++ [b]) = numL l + 256 ^ l.length * b.toNat := by
  induction l with
  | nil => simp [numL]
  | cons c r ih =>
    rw [List.cons_append, numL, ih, numL, List.length_cons, Nat.pow_succ, Nat.mul_add, ← Nat.mul_assoc, Nat.mul_comm 256 (256 ^ r.length)]
    omega
theorem numL_or (l : List UInt8) (b : UInt8) (hl : l.length < 8) : bits BinOp.or IntKind.u64 (numL l : Int) ((b.toNat : Int) * 2 ^ (8 * l.length) % 18446744073709551616) = (numL (l ++ [b]) : Int) := by
  have h1 := numL_lt l
  have hb := b.toNat_lt
  have hp : (256 : Nat) ^ l.length = 2 ^ (8 * l.length) := by rw [Nat.pow_mul]
  have hle : (256 : Nat) ^ l.length ≤ 256 ^ 7 := Nat.pow_le_pow_right (by decide) (by omega)
  have h3 : (256 : Nat) ^ 7 = 72057594037927936 := by decide
  have hm : 256 ^ l.length * b.toNat ≤ 72057594037927936 * 255 := Nat.mul_le_mul (by omega) (by omega)
  have e : ((b.toNat : Int) * 2 ^ (8 * l.length) % 18446744073709551616) = ((256 ^ l.length * b.toNat : Nat) : Int) := by
    have e2 : (b.toNat : Int) * 2 ^ (8 * l.length) = ((256 ^ l.length * b.toNat : Nat) : Int) := by
      rw [hp, Int.natCast_mul, Int.natCast_pow, Int.mul_comm]; rfl
    rw [e2]
    omega
  rw [e, u64_or_nat _ _ (by omega) (by omega), numL_snoc, Nat.or_comm]
  rw [hp] at h1 ⊢
  rw [← Nat.two_pow_add_eq_or_of_lt h1, Nat.add_comm]

/-- A number of so many bytes. -/
def lowI (e : Int) (s : ByteArray) (size : Nat) : Int × Int × ByteArray :=
  if 9223372036854775808 ≤ numL (rawI e s size).1.data.toList then (0, 6, (rawI e s size).2.2) else ((numL (rawI e s size).1.data.toList : Int), (rawI e s size).2.1, (rawI e s size).2.2)
theorem lowI_size (e : Int) (s : ByteArray) (size : Nat) : (lowI e s size).2.2.size ≤ s.size := by
  have := (rawI_size e s size).2.1
  unfold lowI
  split <;> exact this
end Go.Proofs.Ytiocealhadlggaa

/- bits.In: Byte, Half, Word, Long (printed: alike), Text, Rest, End; of a nil reader. -/
namespace Go.Proofs.Ytiocealhadlggaa
open Go.RowKit
set_option linter.unusedVariables false

/-- Text. -/
def textI (e : Int) (s : ByteArray) : ByteArray × Int × ByteArray := rawI (lowI e s 2).2.1 (lowI e s 2).2.2 (lowI e s 2).1
end Go.Proofs.Ytiocealhadlggaa

/- bits.In: Rest, End. -/
namespace Go.Proofs.Ytiocealhadlggaa
open Go.RowKit
set_option linter.unusedVariables false

/-- All that is left are zero bytes. -/
def zeroB (s : ByteArray) : Bool := s.data.toList.all (· == 0)
theorem dropAll_nil (p : UInt8 → Bool) (l : List UInt8) : l.dropWhile p = [] ↔ ∀ x ∈ l, p x = true := by
  induction l with
  | nil => simp
  | cons y ys ih =>
    rw [List.dropWhile_cons]
    by_cases h : p y = true
    · rw [if_pos h, ih]; simp [h]
    · rw [if_neg h]; simp [h]
theorem dropAll_head (p : UInt8 → Bool) (l : List UInt8) (y : UInt8) (ys : List UInt8) (h : l.dropWhile p = y :: ys) : ¬ p y = true := by
  induction l with
  | nil => simp at h
  | cons z zs ih =>
    rw [List.dropWhile_cons] at h
    by_cases hz : p z = true
    · rw [if_pos hz] at h; exact ih h
    · rw [if_neg hz] at h; injection h with h1 h2; rw [← h1]; exact hz
theorem trimB_nil (l : List UInt8) : Lib.trimB l 0 = [] ↔ l.all (· == 0) = true := by
  unfold Lib.trimB Lib.trimLeftB Lib.trimRightB
  rw [dropAll_nil, List.all_eq_true]
  constructor
  · intro h
    have h2 : l.reverse.dropWhile (· == (0 : UInt8)) = [] := by
      cases hd : l.reverse.dropWhile (· == (0 : UInt8)) with
      | nil => rfl
      | cons y ys =>
        have hy := h y (by rw [hd]; simp)
        exact absurd hy (dropAll_head (· == (0 : UInt8)) _ _ _ hd)
    rw [dropAll_nil] at h2
    exact fun x hx => h2 x (by simpa using hx)
  · intro h x hx
    have h2 : l.reverse.dropWhile (· == (0 : UInt8)) = [] := (dropAll_nil _ _).2 (fun x hx => h x (by simpa using hx))
    rw [h2] at hx
    simp at hx
theorem empty_toList : ByteArray.empty.toList = [] := by
  have h := str_beq ByteArray.empty ByteArray.empty
  cases hh : ByteArray.empty.toList with
  | nil => rfl
  | cons x xs => have := congrArg List.length hh; simp [ByteArray.toList, ByteArray.toList.loop] at this
theorem trim_zero (s : ByteArray) : (⟨(Lib.trimB s.data.toList 0).toArray⟩ : ByteArray).toList.isEmpty = zeroB s := by
  have e0 : ∀ t : ByteArray, t.toList.isEmpty = (t.toList == ByteArray.empty.toList) := by
    intro t; rw [empty_toList]; cases t.toList <;> rfl
  rw [e0, str_beq]
  have e1 : ((⟨(Lib.trimB s.data.toList 0).toArray⟩ : ByteArray) = ByteArray.empty) ↔ Lib.trimB s.data.toList 0 = [] := by
    constructor
    · intro h
      have := congrArg (fun b : ByteArray => b.data.toList) h
      simpa using this
    · intro h; rw [h]; rfl
  have e2 := e1.trans (trimB_nil s.data.toList)
  cases h : zeroB s
  · exact decide_eq_false (fun hh => by have := e2.1 hh; rw [zeroB] at h; rw [h] at this; cases this)
  · exact decide_eq_true (e2.2 h)
def restI (e : Int) (s : ByteArray) : Bool := decide (e = 0) && zeroB s
/-- End. -/
def endI (e : Int) (s : ByteArray) : Int := if e = 0 ∧ zeroB s = false then 6 else e
end Go.Proofs.Ytiocealhadlggaa

/- masonrylaw1.alive: a first call; a new Out. -/
namespace Go.Proofs.Ytiocealhadlggaa
open Go.RowKit
set_option linter.unusedVariables false

def aliveS : ByteArray := ⟨#[2, 1, 1, 0, 1, 0, 97]⟩
theorem alive_lay : layO 2 (0, []) [258, 1] = (0, [2, 1, 1, 0]) := by decide +kernel
theorem alive_text : textO (0, [2, 1, 1, 0]) [⟨#[97]⟩] = (0, [2, 1, 1, 0, 1, 0, 97]) := by decide +kernel
theorem alive_end : endO (0, [2, 1, 1, 0, 1, 0, 97]) = (aliveS, 0) := by decide +kernel
theorem alive_r1 : lowI 0 aliveS 2 = (258, 0, ⟨#[1, 0, 1, 0, 97]⟩) := by decide +kernel
theorem alive_r2 : lowI 0 ⟨#[1, 0, 1, 0, 97]⟩ 2 = (1, 0, ⟨#[1, 0, 97]⟩) := by decide +kernel
theorem alive_r3 : textI 0 ⟨#[1, 0, 97]⟩ = (⟨#[97]⟩, 0, ByteArray.empty) := by decide +kernel
theorem alive_r4 : endI 0 ByteArray.empty = 0 := by decide +kernel

end Go.Proofs.Ytiocealhadlggaa
