/- Words and contracts that this claim leans on, one text behind the other. -/
import Derived.Test.YtiocealhadlggaaBundle2
import Derived.Test.YtiocealhadlggaaBundle4
import Derived.Test.YtiocealhadlggaaBundle5
import Derived.Test.YtiocealhadlggaaBundle6
import Derived.Test.YtiocealhadlggaaRefTwo
import Derived.Test.YtiocealhadlggaaBundle1
import Derived.Deep.RegionHeld3
/- mark: Size, Valid, Of, Hash, Text; the document's own. -/

namespace Go.Proofs.Ytiocealhadlggaa
open Go.RowKit
set_option linter.unusedVariables false

def sizeM (k : Int) : Int := if k = 1 then 20 else if k = 2 then 32 else 0
theorem sizeM_vals (k : Int) : (k = 1 ∧ sizeM k = 20) ∨ (k = 2 ∧ sizeM k = 32) ∨ (k ≠ 1 ∧ k ≠ 2 ∧ sizeM k = 0) := by
  unfold sizeM
  by_cases h1 : k = 1
  · exact .inl ⟨h1, if_pos h1⟩
  · by_cases h2 : k = 2
    · exact .inr (.inl ⟨h2, by rw [if_neg h1, if_pos h2]⟩)
    · exact .inr (.inr ⟨h1, h2, by rw [if_neg h1, if_neg h2]⟩)
def validM (k : Int) (s : ByteArray) : Bool := decide (0 < sizeM k) && decide ((s.size : Int) = sizeM k)
theorem results_cell_tmp {P : Program} {fn : Func} {p q : Tmp} {ty : TypeId} (h : fn.results = #[.cell p ty, .tmp q]) (tmps : Array Value) (w : World) (g : Nat) (cs : List Value) (d : TypeDesc)
    (hp : tmps.getD p undef = .pointer (some ⟨g, 0, none⟩)) (hc : w.rangeAt g 0 cs)
    (hu : P.underlying ty = some d) (hd : d.isRow = true) (hi : (P.info? ty).map (·.size) = some cs.length) :
    (results fn tmps).run P w = .ok (.tuple #[.agg cs.toArray, tmps.getD q undef]) w := by
  have hp' : tmps[p]?.getD undef = .pointer (some ⟨g, 0, none⟩) := by simpa using hp
  simp [results, h, hp', asAddr, run_loadVar_mid w g 0 ty cs d hc hu hd hi]
theorem range_two {w : World} {g : Nat} {a b : Value} (h0 : w.cell? ⟨g, 0, none⟩ = some a) (h1 : w.cell? ⟨g, 1, none⟩ = some b) : w.rangeAt g 0 [a, b] := by
  intro j v hv
  rcases j with _ | _ | j
  · simp at hv; subst hv; exact h0
  · simp at hv; subst hv; exact h1
  · simp at hv
/-- A variable of a fingerprint: its two cells. -/
structure PrintAt (w : World) (g : Nat) (k : Int) (s : ByteArray) : Prop where
  c0 : w.cell? ⟨g, 0, none⟩ = some (.int .i64 k)
  c1 : w.cell? ⟨g, 1, none⟩ = some (.string s)
  f0 : w.frozen? ⟨g, 0, none⟩ = false
  f1 : w.frozen? ⟨g, 1, none⟩ = false
theorem PrintAt.new (w : World) (k : Int) (s : ByteArray) : PrintAt (w.alloc (.cells #[.int .i64 k, .string s] 44)) w.heap.size k s := by
  have hb := heap_alloc_new w (.cells #[.int .i64 k, .string s] 44)
  exact ⟨cell_of_row _ _ 0 _ _ (0, 0) hb, cell_of_row _ _ 1 _ _ (0, 0) hb, frozen_of_row _ _ 0 _ _ hb, frozen_of_row _ _ 1 _ _ hb⟩
theorem PrintAt.lt {w : World} {g : Nat} {k : Int} {s : ByteArray} (h : PrintAt w g k s) : g < w.heap.size := World.block_lt_of_cell? w _ h.c0
theorem PrintAt.below {w w1 : World} {g : Nat} {k : Int} {s : ByteArray} (h : PrintAt w g k s) (hb : Below w.heap.size w w1) : PrintAt w1 g k s :=
  have hT := Touched.of_below hb []
  ⟨(hT.cell h.lt (by simp)).trans h.c0, (hT.cell h.lt (by simp)).trans h.c1, (hT.free h.lt (by simp)).trans h.f0, (hT.free h.lt (by simp)).trans h.f1⟩
theorem PrintAt.touched {w w1 : World} {g : Nat} {k : Int} {s : ByteArray} {bs : List Nat} (h : PrintAt w g k s) (hT : Touched w w1 bs) (hn : g ∉ bs) : PrintAt w1 g k s :=
  ⟨(hT.cell h.lt hn).trans h.c0, (hT.cell h.lt hn).trans h.c1, (hT.free h.lt hn).trans h.f0, (hT.free h.lt hn).trans h.f1⟩
theorem PrintAt.drew {w : World} {g : Nat} {k : Int} {s : ByteArray} (h : PrintAt w g k s) : PrintAt w.drew g k s := ⟨h.c0, h.c1, h.f0, h.f1⟩
theorem PrintAt.set {w : World} {g : Nat} {k : Int} {s : ByteArray} (h : PrintAt w g k s) (k' : Int) (s' : ByteArray) : PrintAt ((w.setCell ⟨g, 0, none⟩ (.int .i64 k')).setCell ⟨g, 1, none⟩ (.string s')) g k' s' := by
  have h1 : (w.setCell ⟨g, 0, none⟩ (.int .i64 k')).cell? ⟨g, 1, none⟩ = some (.string s) := (World.cell?_setCell_other w ⟨g, 0, none⟩ ⟨g, 1, none⟩ _ (by simp)).trans h.c1
  refine ⟨?_, World.cell?_setCell_same' _ _ _ (by rw [h1]; simp), ?_, ?_⟩
  · refine (World.cell?_setCell_other _ ⟨g, 1, none⟩ ⟨g, 0, none⟩ _ (by simp)).trans ?_
    exact World.cell?_setCell_same' w _ _ (by rw [h.c0]; simp)
  · rw [World.frozen?_setCell, World.frozen?_setCell]; exact h.f0
  · rw [World.frozen?_setCell, World.frozen?_setCell]; exact h.f1
theorem PrintAt.setSum {w : World} {g : Nat} {k : Int} {s : ByteArray} (h : PrintAt w g k s) (s' : ByteArray) : PrintAt (w.setCell ⟨g, 1, none⟩ (.string s')) g k s' :=
  ⟨(World.cell?_setCell_other w ⟨g, 1, none⟩ ⟨g, 0, none⟩ _ (by simp)).trans h.c0, World.cell?_setCell_same' w _ _ (by rw [h.c1]; simp), by rw [World.frozen?_setCell]; exact h.f0, by rw [World.frozen?_setCell]; exact h.f1⟩

def ofM (k : Int) (l : List ByteArray) : Int × ByteArray × Int := if k = 1 then (1, sumB l, 0) else if k = 2 then (2, sum2B l, 0) else (0, ByteArray.empty, 1)
theorem of_calls (k : Int) (A : Option Addr) (n c : Nat) (l : List ByteArray) (w : World) (hl : l.length = n) (hc : n ≤ c) (hn : n ≤ 140737488355328) (hs : totalLen l ≤ 1000000) (hR : RowAt w A (scells l)) :
    Calls Try.prog 18 #[.int .i64 k, .slice A n c] w fun e w' => e = .returned (.tuple #[.agg #[.int .i64 (ofM k l).1, .string (ofM k l).2.1], .int .i64 (ofM k l).2.2]) ∧ Below w.heap.size w w' := by
  have HP : Box _ := ⟨PrintAt.new w 0 ByteArray.empty⟩
  have hB0 := bel_alloc (Below.refl w.heap.size w) (.cells #[.int .i64 0, .string ByteArray.empty] 44)
  have HB0 : Box _ := ⟨hB0⟩
  have H1 : Box _ := ⟨oneSum_calls A n c l _ hl hc hn hs (hR.below hB0)⟩
  have H2 : Box _ := ⟨twoSum_calls A n c l _ hl hc hn hs (hR.below hB0)⟩
  clear hB0 hR
  by_cases h1 : k = 1
  · subst h1
    have e : ofM 1 l = (1, sumB l, 0) := by rw [ofM, if_pos rfl]
    rw [e]
    rw [show (⟨(oneSum (joinB l).data.toList).toArray⟩ : ByteArray) = sumB l from rfl] at H1
    clear e H2
    go_enter Try.func18, Try.ntmps18
    go_wp2_with fail
    refine H1.out.mono ?_
    rintro e w1 ⟨rfl, hb⟩
    have HP1 : Box _ := ⟨HP.out.below hb⟩
    have HB1 : Box _ := ⟨bel_calls HB0.out hb⟩
    have c0 := HP1.out.c0
    have c1 := HP1.out.c1
    have f0 := HP1.out.f0
    have f1 := HP1.out.f1
    clear hb
    go_wp2_with fail
    have HP2 := HP1.out.set 1 (sumB l)
    refine bodyPost_ret (results_cell_tmp rfl _ _ w.heap.size [.int .i64 1, .string (sumB l)] _ rfl (range_two HP2.c0 HP2.c1) Try.underlying44 rfl (by kernel_rfl)) rfl ?_
    exact ⟨rfl, (HB1.out.setCell (by simp) _).setCell (by simp) _⟩
  by_cases h2 : k = 2
  · subst h2
    have e : ofM 2 l = (2, sum2B l, 0) := by rw [ofM, if_neg h1, if_pos rfl]
    rw [e]
    rw [show (⟨(twoSum (joinB l).data.toList).toArray⟩ : ByteArray) = sum2B l from rfl] at H2
    clear e H1
    go_enter Try.func18, Try.ntmps18
    go_wp2_with fail
    refine H2.out.mono ?_
    rintro e w1 ⟨rfl, hb⟩
    have HP1 : Box _ := ⟨HP.out.below hb⟩
    have HB1 : Box _ := ⟨bel_calls HB0.out hb⟩
    have c0 := HP1.out.c0
    have c1 := HP1.out.c1
    have f0 := HP1.out.f0
    have f1 := HP1.out.f1
    clear hb
    go_wp2_with fail
    have HP2 := HP1.out.set 2 (sum2B l)
    refine bodyPost_ret (results_cell_tmp rfl _ _ w.heap.size [.int .i64 2, .string (sum2B l)] _ rfl (range_two HP2.c0 HP2.c1) Try.underlying44 rfl (by kernel_rfl)) rfl ?_
    exact ⟨rfl, (HB1.out.setCell (by simp) _).setCell (by simp) _⟩
  have e : ofM k l = (0, ByteArray.empty, 1) := by rw [ofM, if_neg h1, if_neg h2]
  rw [e]
  have z1 : (k == 1) = false := by simpa using h1
  have z2 : (k == 2) = false := by simpa using h2
  clear e h1 h2 H1 H2
  go_enter Try.func18, Try.ntmps18
  go_wp2_with fail
  refine bodyPost_ret (results_cell_tmp rfl _ _ w.heap.size [.int .i64 0, .string ByteArray.empty] _ rfl (range_two HP.out.c0 HP.out.c1) Try.underlying44 rfl (by kernel_rfl)) rfl ?_
  exact ⟨rfl, HB0.out⟩
end Go.Proofs.Ytiocealhadlggaa

/- mark: Hash, Text; the document's Hash, Compare, Print. -/
namespace Go.Proofs.Ytiocealhadlggaa
open Go.RowKit
set_option linter.unusedVariables false

def hashM (s : ByteArray) : Int := (lowI 0 s 2).1
theorem hash_short (s : ByteArray) (h : s.size < 2) : hashM s = 0 := by rw [hashM, lowI_short s 2 h]
theorem hash_two (s : ByteArray) (h : 2 ≤ s.size) : hashM s = (s[0].toNat : Int) + (256 : Int) * (s[1].toNat : Int) := by
  have hl : s.data.toList.length = s.size := data_length s
  match hh : s.data.toList, hl with
  | [], hl => simp at hl; omega
  | [_], hl => simp at hl; omega
  | a :: b :: r, hl =>
    have e : s = ⟨([a, b] ++ r).toArray⟩ := by rw [← mk_data s, hh]; rfl
    have h2 := rawI_ok [a, b] r 2 rfl
    have e3 : numL [a, b] = a.toNat + 256 * b.toNat := by simp [numL]
    have ha := a.toNat_lt
    have hb := b.toNat_lt
    subst e
    rw [hashM, lowI, h2]
    simp only [e3]
    rw [if_neg (by omega)]
    show ((a.toNat + 256 * b.toNat : Nat) : Int) = (a.toNat : Int) + 256 * (b.toNat : Int)
    omega
/-- The document's fingerprint of a text: of any other kind it is the second digest. -/
def refPrintM (k : Int) (s : ByteArray) : ByteArray := if k = 1 then sumB [s] else sum2B [s]
theorem joinB_single (s : ByteArray) : joinB [s] = s := by simp [joinB]
theorem refPrint_calls (k : Int) (s : ByteArray) (w : World) (hs : s.size ≤ 1000000) : Calls Try.prog 14 #[.int .i64 k, .string s] w fun e w' => e = .returned (.agg #[.int .i64 k, .string (refPrintM k s)]) ∧ Below w.heap.size w w' := by
  have HP : Box _ := ⟨PrintAt.new w 0 ByteArray.empty⟩
  have HB0 : Box _ := ⟨bel_alloc (Below.refl w.heap.size w) (.cells #[.int .i64 0, .string ByteArray.empty] 44)⟩
  have H1 : Box (∀ W, Calls Try.prog 20 #[.string s] W fun e w' => e = .returned (.string (sumB [s])) ∧ Below W.heap.size W w') := ⟨fun W => by rw [sumB, joinB_single]; exact refOne_calls s W hs⟩
  have H2 : Box (∀ W, Calls Try.prog 21 #[.string s] W fun e w' => e = .returned (.string (sum2B [s])) ∧ Below W.heap.size W w') := ⟨fun W => by rw [sum2B, joinB_single]; exact refTwo_calls s W hs⟩
  obtain ⟨p, hp⟩ : ∃ p, sumB [s] = p := ⟨_, rfl⟩
  obtain ⟨q, hq⟩ : ∃ q, sum2B [s] = q := ⟨_, rfl⟩
  rw [refPrintM, hp, hq]
  rw [hp] at H1
  rw [hq] at H2
  clear hp hq
  by_cases h1 : k = 1
  · subst h1
    rw [if_pos rfl]
    clear H2
    go_enter Try.func14, Try.ntmps14
    go_wp2_with fail
    refine (H1.out _).mono ?_
    rintro e w1 ⟨rfl, hb⟩
    have HP1 : Box _ := ⟨HP.out.below hb⟩
    have HB1 : Box _ := ⟨bel_calls HB0.out hb⟩
    have c0 := HP1.out.c0
    have c1 := HP1.out.c1
    have f0 := HP1.out.f0
    have f1 := HP1.out.f1
    clear hb
    go_wp2_with fail
    have HP2 := HP1.out.set 1 p
    refine bodyPost_ret (results_cell_mid rfl _ _ w.heap.size [.int .i64 1, .string p] _ rfl (range_two HP2.c0 HP2.c1) Try.underlying44 rfl (by kernel_rfl)) rfl ?_
    exact ⟨rfl, (HB1.out.setCell (by simp) _).setCell (by simp) _⟩
  · rw [if_neg h1]
    have z1 : (k == 1) = false := by simpa using h1
    clear H1 h1
    go_enter Try.func14, Try.ntmps14
    go_wp2_with fail
    refine (H2.out _).mono ?_
    rintro e w1 ⟨rfl, hb⟩
    have HP1 : Box _ := ⟨HP.out.below hb⟩
    have HB1 : Box _ := ⟨bel_calls HB0.out hb⟩
    have c0 := HP1.out.c0
    have c1 := HP1.out.c1
    have f0 := HP1.out.f0
    have f1 := HP1.out.f1
    clear hb
    go_wp2_with fail
    have HP2 := HP1.out.set k q
    refine bodyPost_ret (results_cell_mid rfl _ _ w.heap.size [.int .i64 k, .string q] _ rfl (range_two HP2.c0 HP2.c1) Try.underlying44 rfl (by kernel_rfl)) rfl ?_
    exact ⟨rfl, (HB1.out.setCell (by simp) _).setCell (by simp) _⟩
end Go.Proofs.Ytiocealhadlggaa

/- Package gear and its reference: what each function computes. -/
namespace Go.Proofs.Ytiocealhadlggaa
open Go.RowKit
set_option linter.unusedVariables false

/-- A byte's number. -/
def gearI (b : Int) : Int :=
  let x := IntKind.u64.wrap ((b + 1) * 11400714819323198485)
  let y := IntKind.u64.wrap (bits BinOp.xor IntKind.u64 x (x / 1073741824) * 13787848793156543929)
  let z := IntKind.u64.wrap (bits BinOp.xor IntKind.u64 y (y / 134217728) * 10723151780598845931)
  bits BinOp.xor IntKind.u64 z (z / 2147483648)

set_option maxHeartbeats 400000 in
theorem value_calls (b : Int) (w : World) (hb0 : 0 ≤ b) (hb : b ≤ 255):
    Calls Try.prog 108 #[.int .u8 b] w fun e w' => e = .returned (.int .u64 (gearI b)) ∧ w = w' := by
  go_enter Try.func108, Try.ntmps108
  go_wp2
  go_ret
  exact ⟨rfl, rfl⟩
set_option maxHeartbeats 400000 in
theorem refGear_calls (b : Int) (w : World) (hb0 : 0 ≤ b) (hb : b ≤ 255):
    Calls Try.prog 42 #[.int .u8 b] w fun e w' => e = .returned (.int .u64 (gearI b)) ∧ w = w' := by
  go_enter Try.func42, Try.ntmps42
  go_wp2
  go_ret
  exact ⟨rfl, rfl⟩

def roll1 (h : Int) (b : UInt8) : Int := IntKind.u64.wrap (IntKind.u64.wrap (h * 2) + gearI b.toNat)
def roll (h : Int) (l : List UInt8) : Int := l.foldl roll1 h
theorem roll_snoc (h : Int) (l : List UInt8) (b : UInt8) : roll h (l ++ [b]) = IntKind.u64.wrap (IntKind.u64.wrap (roll h l * 2) + gearI b.toNat) := by
  simp [roll, List.foldl_append, roll1]

set_option maxHeartbeats 400000 in
theorem roll_calls (h : Int) (A : Option Addr) (n c : Nat) (l : List UInt8) (w : World) (hn : n ≤ 9000000000000000000) (hl : l.length = n) (hR : RowAt w A (bcells l)) :
    Calls Try.prog 107 #[.int .u64 h, .slice A n c] w fun e w' => e = .returned (.int .u64 (roll h l)) ∧ w = w' := by
  subst hl
  have HR := Lib.hid hR; clear hR
  go_enter Try.func107, Try.ntmps107
  go_wp2
  go_loop [0, 9] (fun x i => ∃ k : Nat, k ≤ l.length ∧ i = .int .i64 k ∧ x = .int .u64 (roll h (l.take k))) (fun _ i => l.length - (intOf i).toNat)
  case atStart => exact ⟨0, Nat.zero_le _, rfl, rfl⟩
  case round =>
    obtain ⟨k, hk, rfl, rfl⟩ := hrel
    by_cases hlt : k < l.length
    · obtain ⟨x, hx⟩ := some_at hlt
      obtain ⟨ad, rfl, hc⟩ := HR.out.get (bcells_at hx)
      have HX := Lib.hid hx; clear hx
      have hx2 : (x.toNat : Int) ≤ 255 := by have := x.toNat_lt; omega
      go_wp2_with (go_at_call 108; refine (value_calls _ _ (by omega) hx2).mono ?_; rintro e w' ⟨rfl, rfl⟩)
      go_round
      case rel => exact ⟨k + 1, by omega, by go_num, by rw [take_snoc_of HX.out, roll_snoc]⟩
      case measure => simp [intOf]; omega
    · go_wp2
      go_ret
      exact ⟨ret_int (by rw [List.take_of_length_le (by omega)]), rfl⟩

theorem roll_append (h : Int) (l m : List UInt8) : roll h (l ++ m) = roll (roll h l) m := by simp [roll, List.foldl_append]
theorem joinB_data (l : List ByteArray) : (joinB l).data.toList = l.flatMap (·.data.toList) := by
  have key : ∀ (l : List ByteArray) (a : ByteArray), (l.foldl (· ++ ·) a).data.toList = a.data.toList ++ l.flatMap (·.data.toList) := by
    intro l
    induction l with
    | nil => intro a; simp
    | cons s l ih => intro a; rw [List.foldl_cons, ih]; simp [ByteArray.data_append]
  have := key l ByteArray.empty
  simpa [joinB] using this
theorem roll_join_snoc (h : Int) (l : List ByteArray) (s : ByteArray) : roll h (joinB (l ++ [s])).data.toList = roll (roll h (joinB l).data.toList) s.data.toList := by
  rw [← roll_append, joinB_snoc, ByteArray.data_append, Array.toList_append]

end Go.Proofs.Ytiocealhadlggaa

/- Package fixed and its reference: what each function computes. -/
namespace Go.Proofs.Ytiocealhadlggaa
open Go.RowKit
set_option linter.unusedVariables false
attribute [local go_sem] max2_int min2_int max_two min_two

theorem el_spans : El Try.prog 41 56 2 16 := El.mk' Try.underlying41 (z := .agg #[.int .i64 0, .int .i64 0]) (by kernel_rfl) (by decide)

def wholeGo : Int → List (Int × Int) → Option Int
  | at_, [] => some at_
  | at_, p :: r => if p.1 = at_ ∧ at_ < p.2 then wholeGo p.2 r else none
def wholeB (n : Int) (l : List (Int × Int)) : Bool := decide (wholeGo 0 l = some n)

theorem drop_of_at {α : Type} {l : List α} {k : Nat} {x : α} (h : l[k]? = some x) : l.drop k = x :: l.drop (k + 1) := by
  rw [List.getElem?_eq_some_iff] at h
  obtain ⟨h, rfl⟩ := h
  exact List.drop_eq_getElem_cons h

set_option maxHeartbeats 800000 in
theorem whole_calls (m : Int) (A : Option Addr) (n c : Nat) (l : List (Int × Int)) (w : World) (hn : n ≤ 4000000000000000000) (hl : l.length = n) (hR : RowAt w A (pcells l)) :
    Calls Try.prog 82 #[.int .i64 m, .slice A n c] w fun e w' => e = .returned (.bool (wholeB m l)) ∧ Below w.heap.size w w' := by
  subst hl
  have HR := Lib.hid hR; clear hR
  go_enter Try.func82, Try.ntmps82
  go_wp2
  go_loopw [5, 10] (fun x i wr => ∃ k : Nat, ∃ cur : Int, k ≤ l.length ∧ i = .int .i64 k ∧ x = .int .i64 cur ∧ Hid (wholeGo 0 l = wholeGo cur (l.drop k)) ∧ Hid (Below w.heap.size w wr)) (fun _ i _ => l.length - (intOf i).toNat)
  case atStart => exact ⟨0, 0, Nat.zero_le _, rfl, rfl, rfl, Below.refl _ _⟩
  case round =>
    obtain ⟨k, cur, hk, rfl, rfl, HC, HW⟩ := hrel
    by_cases hlt : k < l.length
    · obtain ⟨⟨x, y⟩, hx⟩ := some_at hlt
      obtain ⟨b, o, rfl, hb, h1, h2⟩ := pair_at (HR.out.below HW.out) hx
      have HD : Hid (wholeGo 0 l = if x = cur ∧ cur < y then wholeGo y (l.drop (k + 1)) else none) := by rw [Hid, HC.out, drop_of_at hx]; rfl
      clear hx
      by_cases c1 : x = cur
      · subst c1
        by_cases c2 : x < y
        · have c3 : ¬ y ≤ x := by omega
          go_wp2
          go_roundw
          case rel => exact ⟨k + 1, y, by omega, by go_num, rfl, by rw [Hid, HD.out, if_pos ⟨rfl, c2⟩], (HW.out.alloc HW.out.size _)⟩
          case measure => simp [intOf]; omega
        · have c3 : y ≤ x := by omega
          go_wp2
          go_ret
          refine ⟨ret_bool ?_, (HW.out.alloc HW.out.size _)⟩
          rw [wholeB, HD.out, if_neg (by omega)]; rfl
      · have c3 : (x != cur) = true := by simpa using c1
        have c4 : (x == cur) = false := by simpa using c1
        go_wp2
        go_ret
        refine ⟨ret_bool ?_, (HW.out.alloc HW.out.size _)⟩
        rw [wholeB, HD.out, if_neg (by intro h; exact c1 h.1)]; rfl
    · go_wp2
      go_ret
      refine ⟨ret_bool ?_, HW.out⟩
      rw [wholeB, HC.out, List.drop_eq_nil_of_le (by omega)]
      simp [wholeGo]
      rw [Bool.eq_iff_iff]; simp

/-- Whether a span has a byte of a part. -/
def hits (a b : Int) (p : Int × Int) : Prop := max p.1 a < min p.2 b
instance (a b : Int) (p : Int × Int) : Decidable (hits a b p) := by unfold hits; infer_instance
def touchGo (a b : Int) : Nat → List (Int × Int) → Int × Int → Int × Int
  | _, [], r => r
  | i, p :: l, r => touchGo a b (i + 1) l (if hits a b p then (if r.2 = 0 then (i : Int) else r.1, (i : Int) + 1) else r)
def touch (a b : Int) (l : List (Int × Int)) : Int × Int := touchGo a b 0 l (0, 0)

/-- Spans of n bytes of so many. -/
def fixedL (n size : Nat) : List (Int × Int) := (List.range ((size + n - 1) / n)).map fun i => (((i * n : Nat) : Int), ((min ((i + 1) * n) size : Nat) : Int))
def fixedZ (n size : Int) : List (Int × Int) := if n < 1 then [] else fixedL n.toNat size.toNat
theorem fixedL_length (n size : Nat) : (fixedL n size).length = (size + n - 1) / n := by simp [fixedL]
theorem fixed_lt {n size k : Nat} (hn : 1 ≤ n) : k < (size + n - 1) / n ↔ k * n < size := by
  rw [Nat.lt_div_iff_mul_lt (by omega)]
  omega
theorem fixedL_at {n size k : Nat} (hn : 1 ≤ n) (h : k * n < size) : (fixedL n size)[k]? = some (((k * n : Nat) : Int), ((min ((k + 1) * n) size : Nat) : Int)) := by
  simp [fixedL, (fixed_lt hn).2 h]
theorem fixed_le {n size k : Nat} (hn : 1 ≤ n) (h : k ≤ (size + n - 1) / n) : k ≤ size := by
  rcases Nat.eq_zero_or_pos k with h0 | h0
  · omega
  · have := (fixed_lt (n := n) (size := size) (k := k - 1) hn).1 (by omega)
    have h2 : (k - 1) * 1 ≤ (k - 1) * n := Nat.mul_le_mul_left _ hn
    omega
theorem one_pair (x y : Int) : ∀ u ∈ ([.int .i64 x, .int .i64 y] : List Value), u.oneCell' = true := by intro u hu; simp at hu; rcases hu with rfl | rfl <;> rfl

set_option maxHeartbeats 1600000 in
theorem refFixed_calls (n : Nat) (size : Nat) (w : World) (hn : 1 ≤ n) (hn2 : n ≤ 9223372036854775807) (hs : size ≤ 1000000) :
    Calls Try.prog 23 #[.int .i64 n, .int .i64 size] w fun e w' => ∃ v, e = .returned v ∧ Own w' w.heap.size 2 v (fixedL n size).length (pcells (fixedL n size)) ∧ Below w.heap.size w w' := by
  go_enter Try.func23, Try.ntmps23
  go_wp2
  go_loopw [5, 6] (fun v x wr => ∃ k p : Nat, p ≤ size ∧ x = .int .i64 p ∧ Hid (k ≤ (size + n - 1) / n ∧ p = min (k * n) size) ∧ Hid (Own wr w.heap.size 2 v k (pcells ((fixedL n size).take k))) ∧ Hid (Below w.heap.size w wr)) (fun _ x _ => size - (intOf x).toNat)
  case atStart => exact ⟨0, 0, Nat.zero_le _, rfl, ⟨Nat.zero_le _, by simp⟩, Own.nil _ _ _, Below.refl _ _⟩
  case round =>
    obtain ⟨k, p, hp, rfl, HK, HO, HW⟩ := hrel
    by_cases hlt : p < size
    · have hkn : k * n = p := by have := HK.out.2; omega
      have hkb : k ≤ size := fixed_le hn HK.out.1
      have hat := fixedL_at (n := n) (size := size) (k := k) hn (by omega)
      obtain ⟨q, hq⟩ : ∃ q : Int, min (n : Int) ((size : Int) - (p : Int)) = q := ⟨_, rfl⟩
      have hq0 : 1 ≤ q := by omega
      have hq1 : q ≤ 1000000 := by omega
      have HQ : Hid (((min ((k + 1) * n) size : Nat) : Int) = p + q) := by rw [Hid, Nat.add_mul, hkn]; omega
      have HT : Hid (pcells ((fixedL n size).take (k + 1)) = pcells ((fixedL n size).take k) ++ [.int .i64 p, .int .i64 (p + q)]) := by
        rw [Hid, take_snoc_of hat, pcells_append, HQ.out, hkn]; rfl
      have HP : Hid (((min ((k + 1) * n) size : Nat) : Int) = p + q ∧ k + 1 ≤ (size + n - 1) / n) := ⟨HQ.out, (fixed_lt hn).2 (by omega)⟩
      clear hat HQ
      have HKN := Lib.hid hkn; clear hkn
      have HKB := Lib.hid hkb; clear hkb
      go_wp2_with (at_builtin; refine appO el_spans w.heap.size rfl _ _ rfl rfl (HO.out.alloc _) (news := [.int .i64 p, .int .i64 (p + q)]) rfl rfl (rowAt_alloc wr [.int .i64 p, .int .i64 (p + q)] _) (one_pair _ _) (by have := HKB.out; omega) (by have := HW.out.size; simp; omega) ?_; intro v1 w1 hown1 hg1 _; have HO1 : Hid (Own w1 w.heap.size 2 v1 (k + 1) (pcells ((fixedL n size).take (k + 1)))) := (by rw [HT.out]; exact hown1); have HB1 : Hid (Below w.heap.size w w1) := Own.grown_below (HO.out.alloc _) (HW.out.alloc HW.out.size _) hg1 (Nat.le_refl _); clear hown1 hg1)
      go_roundw
      case rel =>
        refine ⟨k + 1, (p + q).toNat, by omega, ?_, ⟨HP.out.2, ?_⟩, HO1, HB1⟩
        · congr 1; omega
        · have := HP.out.1; omega
      case measure => simp [intOf]; omega
    · have HF : Hid (k = (fixedL n size).length) := by
        rw [Hid, fixedL_length]
        have h1 := HK.out
        have : ¬ k < (size + n - 1) / n := by rw [fixed_lt hn]; omega
        omega
      go_wp2
      go_ret
      refine ⟨_, rfl, ?_, HW.out⟩
      have := HO.out
      rw [HF.out, List.take_length] at this
      exact this

set_option maxHeartbeats 400000 in
theorem refFixed_none (n : Int) (size : Int) (w : World) (hn : n < 1) :
    Calls Try.prog 23 #[.int .i64 n, .int .i64 size] w fun e w' => e = .returned (.slice none 0 0) ∧ w = w' := by
  have hb : decide (0 < n) = false := by simp; omega
  have hb2 : n ≤ 0 := by omega
  by_cases hs : 0 < size
  all_goals
    go_enter Try.func23, Try.ntmps23
    go_wp2
    refine wp_loop_rounds 1 ?_
    rw [rounds_succ]
    go_wp2
    go_ret
    exact ⟨rfl, rfl⟩

theorem fixedZ_pos {n : Int} {size : Nat} (hn : 1 ≤ n) : fixedZ n size = fixedL n.toNat size := by simp [fixedZ]; omega
theorem fixedZ_none {n : Int} {size : Int} (hn : n < 1) : fixedZ n size = [] := by simp [fixedZ, hn]

theorem refFixedZ_calls (n : Int) (size : Nat) (w : World) (hn2 : n ≤ 9223372036854775807) (hs : size ≤ 1000000) :
    Calls Try.prog 23 #[.int .i64 n, .int .i64 size] w fun e w' => ∃ v, e = .returned v ∧ Own w' w.heap.size 2 v (fixedZ n size).length (pcells (fixedZ n size)) ∧ Below w.heap.size w w' := by
  by_cases hn : n < 1
  · refine (refFixed_none n size w hn).mono ?_
    rintro e w' ⟨rfl, rfl⟩
    rw [fixedZ_none hn]
    exact ⟨_, rfl, Own.nil _ _ _, Below.refl _ _⟩
  · rw [fixedZ_pos (by omega)]
    obtain ⟨m, rfl⟩ := Int.eq_ofNat_of_zero_le (show 0 ≤ n by omega)
    exact refFixed_calls m size w (by omega) (by omega) hs

set_option maxHeartbeats 1600000 in
theorem cut_calls (n : Int) (A : Option Addr) (len c : Nat) (l : List ByteArray) (w : World) (hn2 : n ≤ 9223372036854775807) (hl : l.length = len) (hlen : len ≤ 4000000000000000000) (hs : totalLen l ≤ 1000000) (hR : RowAt w A (scells l)) :
    Calls Try.prog 103 #[.int .i64 n, .slice A len c] w fun e w' => ∃ v, e = .returned v ∧ Own w' w.heap.size 2 v (fixedZ n (totalLen l)).length (pcells (fixedZ n (totalLen l))) ∧ Below w.heap.size w w' := by
  subst hl
  have HR := Lib.hid hR; clear hR
  have HS := Lib.hid hs; clear hs
  go_enter Try.func103, Try.ntmps103
  go_wp2
  go_loop [5, 13] (fun x i => ∃ k : Nat, k ≤ l.length ∧ i = .int .i64 k ∧ ∃ t : Nat, t ≤ 1000000 ∧ x = .int .i64 t ∧ Hid ((t : Int) = totalLen (l.take k))) (fun _ i => l.length - (intOf i).toNat)
  case atStart => exact ⟨0, Nat.zero_le _, rfl, 0, by omega, rfl, rfl⟩
  case round =>
    obtain ⟨k, hk, rfl, t, ht, rfl, HC⟩ := hrel
    by_cases hlt : k < l.length
    · obtain ⟨x, hx⟩ := some_at hlt
      obtain ⟨ad, rfl, hc⟩ := HR.out.get (scells_at hx)
      have hb : totalLen (l.take (k + 1)) = t + x.size := by rw [take_snoc_of hx, totalLen_snoc, HC.out]
      have hb2 : t + x.size ≤ 1000000 := by
        have h1 := totalLen_take_le l (k + 1)
        have := HS.out
        omega
      have HB : Hid ((t + x.size : Nat) = totalLen (l.take (k + 1))) := by rw [Hid, hb]; omega
      clear hx hb
      go_wp2
      go_round
      case rel => exact ⟨k + 1, by omega, by go_num, t + x.size, hb2, by go_num, HB⟩
      case measure => simp [intOf]; omega
    · have HT : Hid (totalLen l = t) := by rw [Hid, HC.out, List.take_of_length_le (by omega)]
      clear HC
      by_cases hn : n < 1
      · go_wp2
        go_ret
        rw [HT.out, fixedZ_none hn]
        exact ⟨_, rfl, Own.nil _ _ _, Below.refl _ _⟩
      obtain ⟨m, rfl⟩ := Int.eq_ofNat_of_zero_le (show 0 ≤ n by omega)
      have hm1 : 1 ≤ m := by omega
      go_wp2
      go_loopw [8, 9] (fun v x wr => ∃ k p : Nat, p ≤ t ∧ x = .int .i64 p ∧ Hid (k ≤ (t + m - 1) / m ∧ p = min (k * m) t) ∧ Hid (Own wr w.heap.size 2 v k (pcells ((fixedL m t).take k))) ∧ Hid (Below w.heap.size w wr)) (fun _ x _ => t - (intOf x).toNat)
      case atStart => exact ⟨0, 0, Nat.zero_le _, rfl, ⟨Nat.zero_le _, by simp⟩, Own.nil _ _ _, Below.refl _ _⟩
      case round =>
        obtain ⟨k, p, hp, rfl, HK, HO, HW⟩ := hrel
        by_cases hlt : p < t
        · have hkn : k * m = p := by have := HK.out.2; omega
          have hkb : k ≤ t := fixed_le hm1 HK.out.1
          have hat := fixedL_at (n := m) (size := t) (k := k) hm1 (by omega)
          obtain ⟨q, hq⟩ : ∃ q : Int, min (m : Int) ((t : Int) - (p : Int)) = q := ⟨_, rfl⟩
          have hq0 : 1 ≤ q := by omega
          have hq1 : q ≤ 1000000 := by omega
          have HQ : Hid (((min ((k + 1) * m) t : Nat) : Int) = p + q) := by rw [Hid, Nat.add_mul, hkn]; omega
          have HT : Hid (pcells ((fixedL m t).take (k + 1)) = pcells ((fixedL m t).take k) ++ [.int .i64 p, .int .i64 (p + q)]) := by
            rw [Hid, take_snoc_of hat, pcells_append, HQ.out, hkn]; rfl
          have HP : Hid (((min ((k + 1) * m) t : Nat) : Int) = p + q ∧ k + 1 ≤ (t + m - 1) / m) := ⟨HQ.out, (fixed_lt hm1).2 (by omega)⟩
          clear hat HQ
          have HKN := Lib.hid hkn; clear hkn
          have HKB := Lib.hid hkb; clear hkb
          go_wp2_with (at_builtin; refine appO el_spans w.heap.size rfl _ _ rfl rfl (HO.out.alloc _) (news := [.int .i64 p, .int .i64 (p + q)]) rfl rfl (rowAt_alloc _ [.int .i64 p, .int .i64 (p + q)] _) (one_pair _ _) (by have := HKB.out; omega) (by have := HW.out.size; simp; omega) ?_; intro v1 w1 hown1 hg1 _; have HO1 : Hid (Own w1 w.heap.size 2 v1 (k + 1) (pcells ((fixedL m t).take (k + 1)))) := (by rw [HT.out]; exact hown1); have HB1 : Hid (Below w.heap.size w w1) := Own.grown_below (HO.out.alloc _) (HW.out.alloc HW.out.size _) hg1 (Nat.le_refl _); clear hown1 hg1)
          go_roundw
          case rel =>
            refine ⟨k + 1, (p + q).toNat, by omega, ?_, ⟨HP.out.2, ?_⟩, HO1, HB1⟩
            · congr 1; omega
            · have := HP.out.1; omega
          case measure => simp [intOf]; omega
        · have HF : Hid (k = (fixedL m t).length) := by
            rw [Hid, fixedL_length]
            have h1 := HK.out
            have : ¬ k < (t + m - 1) / m := by rw [fixed_lt hm1]; omega
            omega
          go_wp2
          go_ret
          refine ⟨_, rfl, ?_, HW.out⟩
          have := HO.out
          rw [HF.out, List.take_length] at this
          rw [HT.out, fixedZ_pos (by omega)]
          exact this
end Go.Proofs.Ytiocealhadlggaa

/- Package cdc and its reference: what each function computes. -/
namespace Go.Proofs.Ytiocealhadlggaa
open Go.RowKit
set_option linter.unusedVariables false
attribute [local go_sem] max2_int min2_int max_two min_two

/-- A rule: least, middle, most, hard, soft. -/
abbrev rule (a b c h s : Int) : Value := .agg #[.int .i64 a, .int .i64 b, .int .i64 c, .int .i64 h, .int .i64 s]
def validB (a b c h s : Int) : Bool := decide (1 ≤ a ∧ a ≤ b ∧ b ≤ c ∧ c ≤ 4096 ∧ 0 ≤ h ∧ 0 ≤ s ∧ h ≤ 20 ∧ s ≤ 20)

set_option maxHeartbeats 1600000 in
theorem valid_calls (a b c h s : Int) (w : World) :
    Calls Try.prog 105 #[rule a b c h s] w fun e w' => e = .returned (.bool (validB a b c h s)) ∧ Below w.heap.size w w' := by
  obtain ⟨m, hm⟩ : ∃ m : Int, min h s = m := ⟨_, rfl⟩
  obtain ⟨M, hM⟩ : ∃ M : Int, max h s = M := ⟨_, rfl⟩
  have HV : Hid (validB a b c h s = decide (1 ≤ a ∧ a ≤ b ∧ b ≤ c ∧ c ≤ 4096 ∧ 0 ≤ m ∧ M ≤ 20)) := by
    simp only [Hid, validB, decide_eq_decide]; omega
  by_cases h1 : 1 ≤ a
  case neg =>
    go_enter Try.func105, Try.ntmps105
    go_wp2
    go_ret
    exact ⟨ret_bool (by rw [HV.out]; first | exact (decide_eq_false (by omega)).symm | exact (decide_eq_true (by omega)).symm), (Below.refl _ _).alloc (Nat.le_refl _) _⟩
  by_cases h2 : a ≤ b
  case neg =>
    go_enter Try.func105, Try.ntmps105
    go_wp2
    go_ret
    exact ⟨ret_bool (by rw [HV.out]; first | exact (decide_eq_false (by omega)).symm | exact (decide_eq_true (by omega)).symm), (Below.refl _ _).alloc (Nat.le_refl _) _⟩
  by_cases h3 : b ≤ c
  case neg =>
    go_enter Try.func105, Try.ntmps105
    go_wp2
    go_ret
    exact ⟨ret_bool (by rw [HV.out]; first | exact (decide_eq_false (by omega)).symm | exact (decide_eq_true (by omega)).symm), (Below.refl _ _).alloc (Nat.le_refl _) _⟩
  by_cases h4 : c ≤ 4096
  case neg =>
    go_enter Try.func105, Try.ntmps105
    go_wp2
    go_ret
    exact ⟨ret_bool (by rw [HV.out]; first | exact (decide_eq_false (by omega)).symm | exact (decide_eq_true (by omega)).symm), (Below.refl _ _).alloc (Nat.le_refl _) _⟩
  by_cases h5 : 0 ≤ m
  case neg =>
    go_enter Try.func105, Try.ntmps105
    go_wp2
    go_ret
    exact ⟨ret_bool (by rw [HV.out]; first | exact (decide_eq_false (by omega)).symm | exact (decide_eq_true (by omega)).symm), (Below.refl _ _).alloc (Nat.le_refl _) _⟩
  by_cases h6 : M ≤ 20
  case neg =>
    go_enter Try.func105, Try.ntmps105
    go_wp2
    go_ret
    exact ⟨ret_bool (by rw [HV.out]; first | exact (decide_eq_false (by omega)).symm | exact (decide_eq_true (by omega)).symm), (Below.refl _ _).alloc (Nat.le_refl _) _⟩
  case pos =>
    go_enter Try.func105, Try.ntmps105
    go_wp2
    go_ret
    exact ⟨ret_bool (by rw [HV.out]; first | exact (decide_eq_false (by omega)).symm | exact (decide_eq_true (by omega)).symm), (Below.refl _ _).alloc (Nat.le_refl _) _⟩
set_option maxHeartbeats 1600000 in
theorem refValid_calls (a b c h s : Int) (w : World) :
    Calls Try.prog 41 #[rule a b c h s] w fun e w' => e = .returned (.bool (validB a b c h s)) ∧ Below w.heap.size w w' := by
  have HV : Hid (validB a b c h s = decide (1 ≤ a ∧ a ≤ b ∧ b ≤ c ∧ c ≤ 4096 ∧ 0 ≤ h ∧ 0 ≤ s ∧ h ≤ 20 ∧ s ≤ 20)) := rfl
  by_cases h1 : 1 ≤ a
  case neg =>
    go_enter Try.func41, Try.ntmps41
    go_wp2
    go_ret
    exact ⟨ret_bool (by rw [HV.out]; first | exact (decide_eq_false (by omega)).symm | exact (decide_eq_true (by omega)).symm), (Below.refl _ _).alloc (Nat.le_refl _) _⟩
  by_cases h2 : a ≤ b
  case neg =>
    go_enter Try.func41, Try.ntmps41
    go_wp2
    go_ret
    exact ⟨ret_bool (by rw [HV.out]; first | exact (decide_eq_false (by omega)).symm | exact (decide_eq_true (by omega)).symm), (Below.refl _ _).alloc (Nat.le_refl _) _⟩
  by_cases h3 : b ≤ c
  case neg =>
    go_enter Try.func41, Try.ntmps41
    go_wp2
    go_ret
    exact ⟨ret_bool (by rw [HV.out]; first | exact (decide_eq_false (by omega)).symm | exact (decide_eq_true (by omega)).symm), (Below.refl _ _).alloc (Nat.le_refl _) _⟩
  by_cases h4 : c ≤ 4096
  case neg =>
    go_enter Try.func41, Try.ntmps41
    go_wp2
    go_ret
    exact ⟨ret_bool (by rw [HV.out]; first | exact (decide_eq_false (by omega)).symm | exact (decide_eq_true (by omega)).symm), (Below.refl _ _).alloc (Nat.le_refl _) _⟩
  by_cases h5 : 0 ≤ h
  case neg =>
    go_enter Try.func41, Try.ntmps41
    go_wp2
    go_ret
    exact ⟨ret_bool (by rw [HV.out]; first | exact (decide_eq_false (by omega)).symm | exact (decide_eq_true (by omega)).symm), (Below.refl _ _).alloc (Nat.le_refl _) _⟩
  by_cases h6 : h ≤ 20
  case neg =>
    go_enter Try.func41, Try.ntmps41
    go_wp2
    go_ret
    exact ⟨ret_bool (by rw [HV.out]; first | exact (decide_eq_false (by omega)).symm | exact (decide_eq_true (by omega)).symm), (Below.refl _ _).alloc (Nat.le_refl _) _⟩
  by_cases h7 : 0 ≤ s
  case neg =>
    go_enter Try.func41, Try.ntmps41
    go_wp2
    go_ret
    exact ⟨ret_bool (by rw [HV.out]; first | exact (decide_eq_false (by omega)).symm | exact (decide_eq_true (by omega)).symm), (Below.refl _ _).alloc (Nat.le_refl _) _⟩
  by_cases h8 : s ≤ 20
  case neg =>
    go_enter Try.func41, Try.ntmps41
    go_wp2
    go_ret
    exact ⟨ret_bool (by rw [HV.out]; first | exact (decide_eq_false (by omega)).symm | exact (decide_eq_true (by omega)).symm), (Below.refl _ _).alloc (Nat.le_refl _) _⟩
  case pos =>
    go_enter Try.func41, Try.ntmps41
    go_wp2
    go_ret
    exact ⟨ret_bool (by rw [HV.out]; first | exact (decide_eq_false (by omega)).symm | exact (decide_eq_true (by omega)).symm), (Below.refl _ _).alloc (Nat.le_refl _) _⟩

/-- Whether a piece ends behind the byte at at_, where the number is x. -/
def stopB (b h s : Int) (at_ : Nat) (x : Int) : Bool := decide ((x / 65536) % 2 ^ (if (at_ : Int) < b then h else s).toNat = 0)
def firstGo (b h s : Int) : Nat → Int → List UInt8 → Nat
  | at_, _, [] => at_
  | at_, x, y :: r => if stopB b h s at_ (roll1 x y) then at_ + 1 else firstGo b h s (at_ + 1) (roll1 x y) r
/-- How many bytes the first piece has. -/
def firstN (a b c h s : Int) (l : List UInt8) : Nat :=
  if validB a b c h s = true ∧ a < l.length then firstGo b h s a.toNat 0 ((l.take c.toNat).drop a.toNat) else l.length

theorem u64_wrap' (x : Int) : IntKind.u64.wrap x = x % 18446744073709551616 := by simp [IntKind.wrap, IntKind.bits, IntKind.signed]
theorem and_mask (y : Int) (n : Nat) (hy : 0 ≤ y) (hn : n ≤ 63) : bits BinOp.and IntKind.u64 y (2 ^ n - 1) = y % 2 ^ n := by
  obtain ⟨m, rfl⟩ := Int.eq_ofNat_of_zero_le hy
  have h1 : 2 ^ n ≤ 2 ^ 63 := Nat.pow_le_pow_right (by omega) hn
  have h0 : 0 < 2 ^ n := Nat.two_pow_pos n
  have e1 : ((2 : Int) ^ n - 1) = ((2 ^ n - 1 : Nat) : Int) := by
    rw [Int.natCast_sub h0]; simp
  have e2 : (2 : Int) ^ n = ((2 ^ n : Nat) : Int) := by simp
  rw [e1, e2]
  have key : (BitVec.ofInt 64 (m : Int) &&& BitVec.ofInt 64 ((2 ^ n - 1 : Nat) : Int)).toNat = m % 2 ^ n := by
    simp only [BitVec.ofInt_natCast, BitVec.toNat_and, BitVec.toNat_ofNat]
    rw [show (2 ^ n - 1) % 2 ^ 64 = 2 ^ n - 1 from Nat.mod_eq_of_lt (by omega), Nat.and_two_pow_sub_one_eq_mod, Nat.mod_mod_of_dvd _ (Nat.pow_dvd_pow 2 (by omega))]
  have h3 : m % 2 ^ n < 2 ^ n := Nat.mod_lt _ h0
  rw [← Int.natCast_emod]
  show IntKind.u64.wrap ((BitVec.ofInt 64 (m : Int) &&& BitVec.ofInt 64 ((2 ^ n - 1 : Nat) : Int)).toNat : Int) = _
  rw [key]
  generalize m % 2 ^ n = z at *
  rw [u64_wrap']
  exact Int.emod_eq_of_lt (by omega) (by omega)
theorem roll1_range' (h : Int) (b : UInt8) : 0 ≤ roll1 h b ∧ roll1 h b < 18446744073709551616 := by
  unfold roll1
  rw [u64_wrap' (IntKind.u64.wrap (h * 2) + gearI b.toNat)]
  omega
theorem pow_two_le {n : Nat} (h : n ≤ 20) : (1 : Int) ≤ 2 ^ n ∧ (2 : Int) ^ n ≤ 1048576 := by
  have h1 : 2 ^ n ≤ 2 ^ 20 := Nat.pow_le_pow_right (by omega) h
  have h0 : 0 < 2 ^ n := Nat.two_pow_pos n
  have e : (2 : Int) ^ n = ((2 ^ n : Nat) : Int) := by simp
  rw [e]
  omega
theorem rule_cells {w : World} {g : Nat} {a b c h s : Int} (H : RowAt w (some ⟨g, 0, none⟩) (icells [a, b, c, h, s])) :
    w.cell? ⟨g, 0, none⟩ = some (.int .i64 a) ∧ w.cell? ⟨g, 1, none⟩ = some (.int .i64 b) ∧ w.cell? ⟨g, 2, none⟩ = some (.int .i64 c) ∧ w.cell? ⟨g, 3, none⟩ = some (.int .i64 h) ∧ w.cell? ⟨g, 4, none⟩ = some (.int .i64 s) := by
  obtain ⟨g', o, e, _, hc⟩ := H.addr (by simp [icells])
  injection e with e
  injection e with e1 e2
  subst e1
  subst e2
  exact ⟨hc 0 _ rfl, hc 1 _ rfl, hc 2 _ rfl, hc 3 _ rfl, hc 4 _ rfl⟩

set_option maxHeartbeats 1600000 in
theorem first_calls (a b c h s : Int) (t : ByteArray) (w : World) (ht : t.size ≤ 140737488351232) :
    Calls Try.prog 106 #[rule a b c h s, .string t] w fun e w' => e = .returned (.int .i64 (firstN a b c h s t.data.toList)) ∧ Below w.heap.size w w' := by
  obtain ⟨V, hV⟩ : ∃ V, validB a b c h s = V := ⟨_, rfl⟩
  by_cases hv : V = true ∧ a < t.size
  case neg =>
    have HF : Hid (firstN a b c h s t.data.toList = t.size) := by rw [Hid, firstN, hV, data_length, if_neg hv]
    have HC := Lib.hid (fun w => valid_calls a b c h s w)
    rw [hV] at HC
    clear hV
    by_cases hv1 : V = true
    all_goals by_cases hv2 : a < t.size
    all_goals first | (exfalso; exact hv ⟨hv1, hv2⟩) | skip
    all_goals
      clear hv
      (try simp only [Bool.not_eq_true] at hv1)
      subst hv1
      go_enter Try.func106, Try.ntmps106
      go_wp2_with fail
      refine Calls.mono (HC.out _) ?_
      rintro e w1 ⟨rfl, hb1⟩
      have HB := Lib.hid (below_trans' ((Below.refl _ _).alloc (Nat.le_refl _) _) hb1)
      have hr := (rowAt_alloc w (icells [a, b, c, h, s]) 81).below hb1
      obtain ⟨q0, q1, q2, q3, q4⟩ := rule_cells hr
      clear hr hb1
      go_wp2
      go_ret
      exact ⟨ret_int (by rw [HF.out]), HB.out⟩
  obtain ⟨rfl, hv2⟩ := hv
  have HF : Hid (firstN a b c h s t.data.toList = firstGo b h s a.toNat 0 ((t.data.toList.take c.toNat).drop a.toNat)) := by rw [Hid, firstN, if_pos ⟨hV, by rw [data_length]; exact hv2⟩]
  have HC := Lib.hid (fun w => valid_calls a b c h s w)
  rw [hV] at HC
  simp only [validB, decide_eq_true_eq] at hV
  obtain ⟨v1, v2, v3, v4, v5, v6, v7, v8⟩ := hV
  go_enter Try.func106, Try.ntmps106
  go_wp2_with fail
  refine Calls.mono (HC.out _) ?_
  rintro e w1 ⟨rfl, hb1⟩
  have HB := Lib.hid (below_trans' ((Below.refl _ _).alloc (Nat.le_refl _) _) hb1)
  have hr := (rowAt_alloc w (icells [a, b, c, h, s]) 81).below hb1
  have HR := Lib.hid hr
  obtain ⟨q0, q1, q2, q3, q4⟩ := rule_cells hr
  clear hr hb1
  obtain ⟨E, hE⟩ : ∃ E : Nat, min c (t.size : Int) = E := ⟨(min c (t.size : Int)).toNat, by omega⟩
  have hEc : E ≤ 4096 := by omega
  have hEt : E ≤ t.size := by omega
  have HL : Hid ((t.data.toList.take c.toNat) = t.data.toList.take E) := by
    rw [Hid]
    rcases Nat.le_total c.toNat t.size with hle | hle
    · congr 1; omega
    · rw [List.take_of_length_le (by rw [data_length]; omega), List.take_of_length_le (by rw [data_length]; omega)]
  have HE := Lib.hid hE
  obtain ⟨N1, rfl⟩ := Int.eq_ofNat_of_zero_le v5
  obtain ⟨N2, rfl⟩ := Int.eq_ofNat_of_zero_le v6
  obtain ⟨a', rfl⟩ := Int.eq_ofNat_of_zero_le (show 0 ≤ a by omega)
  have hnl : ¬ t.size ≤ a' := by omega
  go_wp2
  go_loopw [5, 7] (fun x i wr => ∃ k : Nat, ∃ z : Int, k ≤ E ∧ 0 ≤ z ∧ z < 18446744073709551616 ∧ i = .int .i64 k ∧ x = .int .u64 z ∧ Hid (firstN a' b c N1 N2 t.data.toList = firstGo b N1 N2 k z ((t.data.toList.take E).drop k)) ∧ Hid (Below w1.heap.size w1 wr)) (fun _ i _ => E - (intOf i).toNat)
  case atStart => exact ⟨a', 0, by omega, by omega, by omega, rfl, rfl, by rw [Hid, HF.out, HL.out, Int.toNat_natCast], Below.refl _ _⟩
  case round =>
    obtain ⟨k, z, hk, hz0, hz1, rfl, rfl, HC2, HW⟩ := hrel
    obtain ⟨q0, q1, q2, q3, q4⟩ := rule_cells (HR.out.below HW.out)
    by_cases hlt : k < E
    · have hkt : k < t.size := by omega
      have HD : Hid ((t.data.toList.take E).drop k = t[k] :: (t.data.toList.take E).drop (k + 1)) := by
        refine drop_of_at ?_
        rw [List.getElem?_take, if_pos hlt, List.getElem?_eq_getElem (by rw [data_length]; exact hkt)]
        rfl
      obtain ⟨X, hX⟩ : ∃ X, roll1 z t[k] = X := ⟨_, rfl⟩
      have hX01 := roll1_range' z t[k]
      rw [hX] at hX01
      obtain ⟨hX0, hX1⟩ := hX01
      have HX : Hid (roll z [t[k]] = X) := hX
      have HX2 := Lib.hid hX
      clear hX
      by_cases hkb : (k : Int) < b
      · have hp := pow_two_le (n := N1) (by omega)
        obtain ⟨hp0, hp1⟩ := hp
        have hm := and_mask (X / 65536) N1 (by omega) (by omega)
        obtain ⟨r0, r1, r2, r3, r4⟩ := rule_cells ((HR.out.below HW.out).alloc (.cells #[.int .u8 t[k].toNat] 5))
        have HS : Hid (stopB b N1 N2 k X = decide (X / 65536 % 2 ^ N1 = 0)) := by rw [Hid, stopB, if_pos hkb, Int.toNat_natCast]
        by_cases hz : X / 65536 % 2 ^ N1 = 0
        · have hz2 : (X / 65536 % 2 ^ N1 == 0) = true := by simpa using hz
          have HS2 : Hid (stopB b N1 N2 k X = true) := HS.out.trans (decide_eq_true hz)
          clear hz
          go_wp2_with (go_at_call 107; refine (roll_calls z _ 1 1 [t[k]] _ (by omega) rfl (rowAt_alloc _ [.int .u8 t[k].toNat] _)).mono ?_; rintro e w' ⟨rfl, rfl⟩; rw [HX.out])
          go_ret
          refine ⟨ret_int ?_, below_trans' HB.out (HW.out.alloc HW.out.size _)⟩
          rw [HC2.out, HD.out, firstGo, HX2.out, if_pos HS2.out]; rfl
        · have hz2 : (X / 65536 % 2 ^ N1 == 0) = false := by simpa using hz
          have HS2 : Hid (stopB b N1 N2 k X = false) := HS.out.trans (decide_eq_false hz)
          clear hz
          go_wp2_with (go_at_call 107; refine (roll_calls z _ 1 1 [t[k]] _ (by omega) rfl (rowAt_alloc _ [.int .u8 t[k].toNat] _)).mono ?_; rintro e w' ⟨rfl, rfl⟩; rw [HX.out])
          go_roundw
          case rel => exact ⟨k + 1, X, by omega, hX0, hX1, by go_num, rfl, by rw [Hid, HC2.out, HD.out, firstGo, HX2.out, HS2.out, if_neg (by simp)], HW.out.alloc HW.out.size _⟩
          case measure => simp [intOf]; omega
      · have hp := pow_two_le (n := N2) (by omega)
        obtain ⟨hp0, hp1⟩ := hp
        have hm := and_mask (X / 65536) N2 (by omega) (by omega)
        obtain ⟨r0, r1, r2, r3, r4⟩ := rule_cells ((HR.out.below HW.out).alloc (.cells #[.int .u8 t[k].toNat] 5))
        have HS : Hid (stopB b N1 N2 k X = decide (X / 65536 % 2 ^ N2 = 0)) := by rw [Hid, stopB, if_neg hkb, Int.toNat_natCast]
        by_cases hz : X / 65536 % 2 ^ N2 = 0
        · have hz2 : (X / 65536 % 2 ^ N2 == 0) = true := by simpa using hz
          have HS2 : Hid (stopB b N1 N2 k X = true) := HS.out.trans (decide_eq_true hz)
          clear hz
          go_wp2_with (go_at_call 107; refine (roll_calls z _ 1 1 [t[k]] _ (by omega) rfl (rowAt_alloc _ [.int .u8 t[k].toNat] _)).mono ?_; rintro e w' ⟨rfl, rfl⟩; rw [HX.out])
          go_ret
          refine ⟨ret_int ?_, below_trans' HB.out (HW.out.alloc HW.out.size _)⟩
          rw [HC2.out, HD.out, firstGo, HX2.out, if_pos HS2.out]; rfl
        · have hz2 : (X / 65536 % 2 ^ N2 == 0) = false := by simpa using hz
          have HS2 : Hid (stopB b N1 N2 k X = false) := HS.out.trans (decide_eq_false hz)
          clear hz
          go_wp2_with (go_at_call 107; refine (roll_calls z _ 1 1 [t[k]] _ (by omega) rfl (rowAt_alloc _ [.int .u8 t[k].toNat] _)).mono ?_; rintro e w' ⟨rfl, rfl⟩; rw [HX.out])
          go_roundw
          case rel => exact ⟨k + 1, X, by omega, hX0, hX1, by go_num, rfl, by rw [Hid, HC2.out, HD.out, firstGo, HX2.out, HS2.out, if_neg (by simp)], HW.out.alloc HW.out.size _⟩
          case measure => simp [intOf]; omega
    · go_wp2
      go_ret
      refine ⟨ret_int ?_, below_trans' HB.out HW.out⟩
      rw [HC2.out, List.drop_eq_nil_of_le (by rw [List.length_take]; omega), firstGo]
      omega
end Go.Proofs.Ytiocealhadlggaa

/- Cuts: the list of spans; what Cut computes. -/
namespace Go.Proofs.Ytiocealhadlggaa
open Go.RowKit
set_option linter.unusedVariables false
attribute [local go_sem] max2_int min2_int max_two min_two

theorem firstGo_le (b h s : Int) (r : List UInt8) : ∀ (k : Nat) (x : Int), firstGo b h s k x r ≤ k + r.length := by
  induction r with
  | nil => intro k x; simp [firstGo]
  | cons y r ih =>
    intro k x
    rw [firstGo]
    split
    · simp
    · have := ih (k + 1) (roll1 x y); simp; omega
theorem firstGo_ge (b h s : Int) (r : List UInt8) : ∀ (k : Nat) (x : Int), k ≤ firstGo b h s k x r := by
  induction r with
  | nil => intro k x; simp [firstGo]
  | cons y r ih =>
    intro k x
    rw [firstGo]
    split
    · omega
    · have := ih (k + 1) (roll1 x y); omega
theorem valid_bounds {a b c h s : Int} (hv : validB a b c h s = true) : 1 ≤ a ∧ a ≤ b ∧ b ≤ c ∧ c ≤ 4096 := by
  simp [validB] at hv; omega
theorem firstN_le (a b c h s : Int) (l : List UInt8) : firstN a b c h s l ≤ l.length := by
  unfold firstN
  split
  · rename_i hc
    have hv := valid_bounds hc.1
    have := firstGo_le b h s ((l.take c.toNat).drop a.toNat) a.toNat 0
    rw [List.length_drop, List.length_take] at this
    omega
  · omega
theorem firstN_pos (a b c h s : Int) {l : List UInt8} (h0 : l ≠ []) : 1 ≤ firstN a b c h s l := by
  unfold firstN
  have := List.length_pos_iff.2 h0
  split
  · rename_i hc
    have hv := valid_bounds hc.1
    have := firstGo_ge b h s ((l.take c.toNat).drop a.toNat) a.toNat 0
    omega
  · omega

/-- A way to tell first pieces: at least one byte, and no more than there are. -/
structure Good (F : List UInt8 → Nat) : Prop where
  pos : ∀ l, l ≠ [] → 1 ≤ F l
  le : ∀ l, F l ≤ l.length
theorem good_first (a b c h s : Int) : Good (firstN a b c h s) := ⟨fun _ h0 => firstN_pos a b c h s h0, firstN_le a b c h s⟩

def cutGo (F : List UInt8 → Nat) : Nat → Nat → List UInt8 → List (Int × Int)
  | 0, _, _ => []
  | f + 1, k, l => if l = [] then [] else ((k : Int), ((k + F l : Nat) : Int)) :: cutGo F f (k + F l) (l.drop (F l))
/-- The pieces of a text, of which k bytes stand ahead. -/
def cutA (F : List UInt8 → Nat) (k : Nat) (l : List UInt8) : List (Int × Int) := cutGo F l.length k l
theorem cutGo_fuel {F : List UInt8 → Nat} (hF : Good F) : ∀ (f : Nat) (k : Nat) (l : List UInt8), l.length ≤ f → cutGo F f k l = cutGo F l.length k l := by
  intro f
  induction f using Nat.strongRecOn with
  | _ f ih =>
    intro k l hl
    cases f with
    | zero => obtain rfl : l = [] := List.eq_nil_of_length_eq_zero (by omega)
              rfl
    | succ f =>
      rcases Nat.lt_or_ge l.length (f + 1) with h | h
      · by_cases h0 : l = []
        · subst h0; simp [cutGo]
        · obtain ⟨m, hm⟩ : ∃ m, l.length = m + 1 := ⟨l.length - 1, by have := List.length_pos_iff.2 h0; omega⟩
          rw [hm, cutGo, cutGo, if_neg h0, if_neg h0]
          have h1 := hF.pos l h0
          have e1 := ih f (by omega) (k + F l) (l.drop (F l)) (by rw [List.length_drop]; omega)
          have e2 := ih m (by omega) (k + F l) (l.drop (F l)) (by rw [List.length_drop]; omega)
          rw [e1, e2]
      · rw [show l.length = f + 1 by omega]
theorem cutA_nil (F : List UInt8 → Nat) (k : Nat) : cutA F k [] = [] := rfl
theorem cutA_cons {F : List UInt8 → Nat} (hF : Good F) (k : Nat) {l : List UInt8} (h0 : l ≠ []) : cutA F k l = ((k : Int), ((k + F l : Nat) : Int)) :: cutA F (k + F l) (l.drop (F l)) := by
  obtain ⟨m, hm⟩ : ∃ m, l.length = m + 1 := ⟨l.length - 1, by have := List.length_pos_iff.2 h0; omega⟩
  have h1 := hF.pos l h0
  have h2 := hF.le l
  unfold cutA
  rw [hm, cutGo, if_neg h0, cutGo_fuel hF m _ _ (by rw [List.length_drop]; omega)]
theorem cutA_length {F : List UInt8 → Nat} (hF : Good F) : ∀ (n k : Nat) (l : List UInt8), l.length ≤ n → (cutA F k l).length ≤ l.length := by
  intro n
  induction n with
  | zero => intro k l hl; obtain rfl : l = [] := List.eq_nil_of_length_eq_zero (by omega); simp [cutA_nil]
  | succ n ih =>
    intro k l hl
    by_cases h0 : l = []
    · subst h0; simp [cutA_nil]
    · have h1 := hF.pos l h0
      have h2 := hF.le l
      have h3 := ih (k + F l) (l.drop (F l)) (by rw [List.length_drop]; omega)
      rw [List.length_drop] at h3
      rw [cutA_cons hF k h0, List.length_cons]
      omega

theorem extract_rest (t : ByteArray) (p : Nat) : (t.extract p t.size).data.toList = t.data.toList.drop p := by
  rw [ByteArray.data_extract, Array.toList_extract, List.extract_eq_take_drop, List.take_of_length_le]
  rw [List.length_drop, data_length]; omega
theorem below_drew {B : Nat} {w W : World} (h : Below B w W) : Below B w W.drew := ⟨h.os, h.tape, h.output, h.size, h.block⟩

set_option maxHeartbeats 1600000 in
set_option maxRecDepth 100000 in
theorem cdcCut_calls (a b c h s : Int) (A : Option Addr) (n cp : Nat) (l : List ByteArray) (w : World) (hl : l.length = n) (hc : n ≤ cp) (hn : n ≤ 140737488355328) (hs : totalLen l ≤ 1000000) (hR : RowAt w A (scells l)) :
    Calls Try.prog 104 #[rule a b c h s, .slice A n cp] w fun e w' => ∃ v, e = .returned v ∧ Own w' w.heap.size 2 v (cutA (firstN a b c h s) 0 (joinB l).data.toList).length (pcells (cutA (firstN a b c h s) 0 (joinB l).data.toList)) ∧ Below w.heap.size w w' := by
  obtain ⟨t, ht⟩ : ∃ t, joinB l = t := ⟨_, rfl⟩
  have hts : t.size ≤ 1000000 := by have := joinB_size l; rw [ht] at this; omega
  obtain ⟨F, hFe⟩ : ∃ F, firstN a b c h s = F := ⟨_, rfl⟩
  have hF : Good F := by rw [← hFe]; exact good_first a b c h s
  rw [ht]
  have HC := Lib.hid (stringsJoin_calls A n cp l (w.alloc (.cells #[.int .i64 a, .int .i64 b, .int .i64 c, .int .i64 h, .int .i64 s] 81)) hl hc hn (by omega) (hR.alloc _))
  rw [ht] at HC
  have HF1 := Lib.hid (fun (u : ByteArray) (hu : u.size ≤ 1000000) (W : World) => first_calls a b c h s u W (by omega))
  rw [hFe] at HF1 ⊢
  have HF := Lib.hid hF; clear hF
  clear ht hR hFe
  go_enter Try.func104, Try.ntmps104
  go_wp2_with (go_at_call 35; refine Calls.mono HC.out ?_; rintro e w1 ⟨rfl, hb1⟩; have HB := Lib.hid (below_trans' ((Below.refl _ _).alloc (Nat.le_refl _) _) hb1); have HR := Lib.hid ((rowAt_alloc w (icells [a, b, c, h, s]) 81).below hb1); have hlt : w.heap.size < w1.heap.size := (by have := hb1.size; simp at this; omega); clear hb1)
  go_loopw [6, 7] (fun v x wr => ∃ k p : Nat, ∃ pre : List (Int × Int), p ≤ t.size ∧ k ≤ p ∧ x = .int .i64 p ∧ Hid (pre.length = k ∧ cutA F 0 t.data.toList = pre ++ cutA F p (t.data.toList.drop p)) ∧ Hid (Own wr w1.heap.size 2 v k (pcells pre)) ∧ Hid (Below w1.heap.size w1 wr)) (fun _ x _ => t.size - (intOf x).toNat)
  case atStart => exact ⟨0, 0, [], Nat.zero_le _, Nat.zero_le _, rfl, ⟨rfl, rfl⟩, Own.nil _ _ _, Below.refl _ _⟩
  case round =>
    obtain ⟨k, p, pre, hp, hkp, rfl, HK, HO, HW⟩ := hrel
    obtain ⟨q0, q1, q2, q3, q4⟩ := rule_cells (HR.out.below HW.out)
    by_cases hlt : p < t.size
    · have hne : t.data.toList.drop p ≠ [] := by
        intro e
        have := congrArg List.length e
        rw [List.length_drop, data_length] at this
        simp at this; omega
      have hq0 := HF.out.pos _ hne
      have hq1 := HF.out.le (t.data.toList.drop p)
      rw [List.length_drop, data_length] at hq1
      have hcons := cutA_cons HF.out p hne
      have hcall := HF1.out (t.extract p t.size) (by simp; omega)
      rw [extract_rest] at hcall
      obtain ⟨q, hq⟩ : ∃ q : Nat, F (t.data.toList.drop p) = q := ⟨_, rfl⟩
      rw [hq] at hq0 hq1 hcons hcall
      have HCall := Lib.hid hcall
      have hpq : p + q ≤ t.size := by omega
      have HP : Hid (cutA F 0 t.data.toList = (pre ++ [((p : Int), ((p + q : Nat) : Int))]) ++ cutA F (p + q) (t.data.toList.drop (p + q))) := by
        rw [Hid, HK.out.2, hcons, List.drop_drop, List.append_assoc]; rfl
      clear hne hcons hcall hq
      have hw := IntWalk.i64_in ((p : Int) + q) (by omega)
      go_wp2_with fail
      go_region_held3 (fun w' => w'.cell? ⟨w.heap.size, 0, none⟩ = some (.int .i64 a) ∧ w'.cell? ⟨w.heap.size, 1, none⟩ = some (.int .i64 b) ∧ w'.cell? ⟨w.heap.size, 2, none⟩ = some (.int .i64 c) ∧ w'.cell? ⟨w.heap.size, 3, none⟩ = some (.int .i64 h) ∧ w'.cell? ⟨w.heap.size, 4, none⟩ = some (.int .i64 s)) (first | exact ⟨q0, q1, q2, q3, q4⟩ | exact ⟨r0, r1, r2, r3, r4⟩)
        (first | (go_at_call 106; refine Calls.mono (HCall.out _) ?_; rintro e w2 ⟨rfl, hb2⟩; have HW2 := Lib.hid (below_trans' (below_drew HW.out) hb2); have HO2 := Lib.hid (HO.out.below ((below_drew (Below.refl wr.heap.size wr)).trans hb2)); obtain ⟨r0, r1, r2, r3, r4⟩ := rule_cells (HR.out.below HW2.out); clear hb2))
      go_wp2_with (at_builtin; refine appO el_spans w1.heap.size rfl _ _ rfl rfl (HO2.out.alloc _) (news := [.int .i64 p, .int .i64 (p + q)]) rfl rfl (rowAt_alloc _ [.int .i64 p, .int .i64 (p + q)] _) (one_pair _ _) (by omega) (by have := HW2.out.size; simp; omega) ?_; intro v1 w3 hown1 hg1 _; have HO3 := Lib.hid hown1; have HB3 : Hid (Below w1.heap.size w1 w3) := Own.grown_below (HO2.out.alloc _) (HW2.out.alloc HW2.out.size _) hg1 (Nat.le_refl _); clear hown1 hg1)
      go_roundw
      case rel =>
        refine ⟨k + 1, p + q, pre ++ [((p : Int), ((p + q : Nat) : Int))], hpq, by omega, by go_num, ⟨by rw [List.length_append, HK.out.1]; rfl, HP.out⟩, ?_, HB3⟩
        have e := HO3.out
        rw [Hid, pcells_append]
        simpa [pcells] using e
      case measure => simp [intOf]; omega
    · go_wp2
      go_ret
      refine ⟨_, rfl, ?_, below_trans' HB.out HW.out⟩
      have e := HK.out.2
      rw [List.drop_eq_nil_of_le (by rw [data_length]; omega), cutA_nil, List.append_nil] at e
      rw [e, HK.out.1]
      exact HO.out.weaken (by omega)
end Go.Proofs.Ytiocealhadlggaa

/- The reference's First and Cut of chapter 14: the same spec. -/
namespace Go.Proofs.Ytiocealhadlggaa
open Go.RowKit
set_option linter.unusedVariables false
attribute [local go_sem] max2_int min2_int max_two min_two

set_option maxHeartbeats 3200000 in
theorem refFirst_calls (a b c h s : Int) (t : ByteArray) (w : World) (ht : t.size ≤ 140737488351232) :
    Calls Try.prog 34 #[rule a b c h s, .string t] w fun e w' => e = .returned (.int .i64 (firstN a b c h s t.data.toList)) ∧ Below w.heap.size w w' := by
  obtain ⟨V, hV⟩ : ∃ V, validB a b c h s = V := ⟨_, rfl⟩
  by_cases hv : V = true ∧ a < t.size
  case neg =>
    have HF : Hid (firstN a b c h s t.data.toList = t.size) := by rw [Hid, firstN, hV, data_length, if_neg hv]
    have HC := Lib.hid (fun w => refValid_calls a b c h s w)
    rw [hV] at HC
    clear hV
    by_cases hv1 : V = true
    all_goals by_cases hv2 : a < t.size
    all_goals first | (exfalso; exact hv ⟨hv1, hv2⟩) | skip
    all_goals
      clear hv
      (try simp only [Bool.not_eq_true] at hv1)
      subst hv1
      go_enter Try.func34, Try.ntmps34
      go_wp2_with fail
      refine Calls.mono (HC.out _) ?_
      rintro e w1 ⟨rfl, hb1⟩
      have HB := Lib.hid (below_trans' ((Below.refl _ _).alloc (Nat.le_refl _) _) hb1)
      have hr := (rowAt_alloc w (icells [a, b, c, h, s]) 66).below hb1
      obtain ⟨q0, q1, q2, q3, q4⟩ := rule_cells hr
      clear hr hb1
      go_wp2
      go_ret
      exact ⟨ret_int (by rw [HF.out]), HB.out⟩
  obtain ⟨rfl, hv2⟩ := hv
  have HF : Hid (firstN a b c h s t.data.toList = firstGo b h s a.toNat 0 ((t.data.toList.take c.toNat).drop a.toNat)) := by rw [Hid, firstN, if_pos ⟨hV, by rw [data_length]; exact hv2⟩]
  have HC := Lib.hid (fun w => refValid_calls a b c h s w)
  rw [hV] at HC
  simp only [validB, decide_eq_true_eq] at hV
  obtain ⟨v1, v2, v3, v4, v5, v6, v7, v8⟩ := hV
  go_enter Try.func34, Try.ntmps34
  go_wp2_with fail
  refine Calls.mono (HC.out _) ?_
  rintro e w1 ⟨rfl, hb1⟩
  have HB := Lib.hid (below_trans' ((Below.refl _ _).alloc (Nat.le_refl _) _) hb1)
  have hr := (rowAt_alloc w (icells [a, b, c, h, s]) 66).below hb1
  have HR := Lib.hid hr
  obtain ⟨q0, q1, q2, q3, q4⟩ := rule_cells hr
  clear hr hb1
  obtain ⟨E, hE⟩ : ∃ E : Nat, min (t.size : Int) c = E := ⟨(min (t.size : Int) c).toNat, by omega⟩
  have hEc : E ≤ 4096 := by omega
  have hEt : E ≤ t.size := by omega
  have HL : Hid ((t.data.toList.take c.toNat) = t.data.toList.take E) := by
    rw [Hid]
    rcases Nat.le_total c.toNat t.size with hle | hle
    · congr 1; omega
    · rw [List.take_of_length_le (by rw [data_length]; omega), List.take_of_length_le (by rw [data_length]; omega)]
  have HE := Lib.hid hE
  obtain ⟨N1, rfl⟩ := Int.eq_ofNat_of_zero_le v5
  obtain ⟨N2, rfl⟩ := Int.eq_ofNat_of_zero_le v6
  obtain ⟨a', rfl⟩ := Int.eq_ofNat_of_zero_le (show 0 ≤ a by omega)
  have hnl : ¬ t.size ≤ a' := by omega
  go_wp2
  go_loopw [5, 6] (fun x i wr => ∃ k : Nat, ∃ z : Int, k ≤ E ∧ 0 ≤ z ∧ z < 18446744073709551616 ∧ i = .int .i64 k ∧ x = .int .u64 z ∧ Hid (firstN a' b c N1 N2 t.data.toList = firstGo b N1 N2 k z ((t.data.toList.take E).drop k)) ∧ Hid (Below w1.heap.size w1 wr)) (fun _ i _ => E - (intOf i).toNat)
  case atStart => exact ⟨a', 0, by omega, by omega, by omega, rfl, rfl, by rw [Hid, HF.out, HL.out, Int.toNat_natCast], Below.refl _ _⟩
  case round =>
    obtain ⟨k, z, hk, hz0, hz1, rfl, rfl, HC2, HW⟩ := hrel
    obtain ⟨q0, q1, q2, q3, q4⟩ := rule_cells (HR.out.below HW.out)
    by_cases hlt : k < E
    · have hkt : k < t.size := by omega
      have hkc : (k : Int) < c := by omega
      have hkt2 : (k : Int) < (t.size : Int) := by omega
      have HD : Hid ((t.data.toList.take E).drop k = t[k] :: (t.data.toList.take E).drop (k + 1)) := by
        refine drop_of_at ?_
        rw [List.getElem?_take, if_pos hlt, List.getElem?_eq_getElem (by rw [data_length]; exact hkt)]
        rfl
      obtain ⟨X, hX⟩ : ∃ X, IntKind.u64.wrap (IntKind.u64.wrap (z * 2) + gearI t[k].toNat) = X := ⟨_, rfl⟩
      have hX01 := roll1_range' z t[k]
      have HX2 : Hid (roll1 z t[k] = X) := hX
      rw [HX2.out] at hX01
      obtain ⟨hX0, hX1⟩ := hX01
      have hx2 : (t[k].toNat : Int) ≤ 255 := by have := t[k].toNat_lt; omega
      by_cases hkb : (k : Int) < b
      · have hp := pow_two_le (n := N1) (by omega)
        obtain ⟨hp0, hp1⟩ := hp
        have HS : Hid (stopB b N1 N2 k X = decide (X / 65536 % 2 ^ N1 = 0)) := by rw [Hid, stopB, if_pos hkb, Int.toNat_natCast]
        by_cases hz : X / 65536 % 2 ^ N1 = 0
        · have hz2 : (X / 65536 % 2 ^ N1 == 0) = true := by simpa using hz
          have HS2 : Hid (stopB b N1 N2 k X = true) := HS.out.trans (decide_eq_true hz)
          clear hz
          go_wp2_with (go_at_call 42; refine (refGear_calls _ _ (by omega) hx2).mono ?_; rintro e w' ⟨rfl, rfl⟩)
          go_ret
          refine ⟨ret_int ?_, below_trans' HB.out HW.out⟩
          rw [HC2.out, HD.out, firstGo, HX2.out, if_pos HS2.out]; rfl
        · have hz2 : (X / 65536 % 2 ^ N1 == 0) = false := by simpa using hz
          have HS2 : Hid (stopB b N1 N2 k X = false) := HS.out.trans (decide_eq_false hz)
          clear hz
          go_wp2_with (go_at_call 42; refine (refGear_calls _ _ (by omega) hx2).mono ?_; rintro e w' ⟨rfl, rfl⟩)
          go_roundw
          case rel => exact ⟨k + 1, X, by omega, hX0, hX1, by go_num, rfl, by rw [Hid, HC2.out, HD.out, firstGo, HX2.out, HS2.out, if_neg (by simp)], HW.out⟩
          case measure => simp [intOf]; omega
      · have hp := pow_two_le (n := N2) (by omega)
        obtain ⟨hp0, hp1⟩ := hp
        have HS : Hid (stopB b N1 N2 k X = decide (X / 65536 % 2 ^ N2 = 0)) := by rw [Hid, stopB, if_neg hkb, Int.toNat_natCast]
        by_cases hz : X / 65536 % 2 ^ N2 = 0
        · have hz2 : (X / 65536 % 2 ^ N2 == 0) = true := by simpa using hz
          have HS2 : Hid (stopB b N1 N2 k X = true) := HS.out.trans (decide_eq_true hz)
          clear hz
          go_wp2_with (go_at_call 42; refine (refGear_calls _ _ (by omega) hx2).mono ?_; rintro e w' ⟨rfl, rfl⟩)
          go_ret
          refine ⟨ret_int ?_, below_trans' HB.out HW.out⟩
          rw [HC2.out, HD.out, firstGo, HX2.out, if_pos HS2.out]; rfl
        · have hz2 : (X / 65536 % 2 ^ N2 == 0) = false := by simpa using hz
          have HS2 : Hid (stopB b N1 N2 k X = false) := HS.out.trans (decide_eq_false hz)
          clear hz
          go_wp2_with (go_at_call 42; refine (refGear_calls _ _ (by omega) hx2).mono ?_; rintro e w' ⟨rfl, rfl⟩)
          go_roundw
          case rel => exact ⟨k + 1, X, by omega, hX0, hX1, by go_num, rfl, by rw [Hid, HC2.out, HD.out, firstGo, HX2.out, HS2.out, if_neg (by simp)], HW.out⟩
          case measure => simp [intOf]; omega
    · have HZ : Hid (firstGo b N1 N2 k z ((t.data.toList.take E).drop k) = E) := by
        rw [Hid, List.drop_eq_nil_of_le (by rw [List.length_take]; omega), firstGo]; omega
      by_cases hkt : (k : Int) < (t.size : Int)
      · have hkc : ¬ (k : Int) < c := by omega
        go_wp2
        go_ret
        exact ⟨ret_int (by rw [HC2.out, HZ.out]), below_trans' HB.out HW.out⟩
      · go_wp2
        go_ret
        exact ⟨ret_int (by rw [HC2.out, HZ.out]), below_trans' HB.out HW.out⟩

set_option maxHeartbeats 1600000 in
set_option maxRecDepth 100000 in
theorem refCut_calls (a b c h s : Int) (t : ByteArray) (w : World) (hts : t.size ≤ 1000000) :
    Calls Try.prog 25 #[rule a b c h s, .string t] w fun e w' => ∃ v, e = .returned v ∧ Own w' w.heap.size 2 v (cutA (firstN a b c h s) 0 t.data.toList).length (pcells (cutA (firstN a b c h s) 0 t.data.toList)) ∧ Below w.heap.size w w' := by
  obtain ⟨F, hFe⟩ : ∃ F, firstN a b c h s = F := ⟨_, rfl⟩
  have hF : Good F := by rw [← hFe]; exact good_first a b c h s
  have HF1 := Lib.hid (fun (u : ByteArray) (hu : u.size ≤ 1000000) (W : World) => refFirst_calls a b c h s u W (by omega))
  rw [hFe] at HF1 ⊢
  have HF := Lib.hid hF; clear hF
  clear hFe
  have HR := Lib.hid (rowAt_alloc w (icells [a, b, c, h, s]) 66)
  have HB := Lib.hid ((Below.refl w.heap.size w).alloc (Nat.le_refl _) (.cells #[.int .i64 a, .int .i64 b, .int .i64 c, .int .i64 h, .int .i64 s] 66))
  go_enter Try.func25, Try.ntmps25
  go_wp2
  go_loopw [5, 6] (fun v x wr => ∃ k p : Nat, ∃ pre : List (Int × Int), p ≤ t.size ∧ k ≤ p ∧ x = .int .i64 p ∧ Hid (pre.length = k ∧ cutA F 0 t.data.toList = pre ++ cutA F p (t.data.toList.drop p)) ∧ Hid (Own wr (w.heap.size + 1) 2 v k (pcells pre)) ∧ Hid (Below (w.heap.size + 1) (w.alloc (.cells #[.int .i64 a, .int .i64 b, .int .i64 c, .int .i64 h, .int .i64 s] 66)) wr)) (fun _ x _ => t.size - (intOf x).toNat)
  case atStart => exact ⟨0, 0, [], Nat.zero_le _, Nat.zero_le _, rfl, ⟨rfl, rfl⟩, Own.nil _ _ _, Below.refl _ _⟩
  case round =>
    obtain ⟨k, p, pre, hp, hkp, rfl, HK, HO, HW⟩ := hrel
    have hsz : (w.alloc (.cells #[.int .i64 a, .int .i64 b, .int .i64 c, .int .i64 h, .int .i64 s] 66)).heap.size = w.heap.size + 1 := by simp
    have HWs : Hid (w.heap.size + 1 ≤ wr.heap.size) := by have := HW.out.size; rw [hsz] at this; exact this
    have HW' : Hid (Below (w.alloc (.cells #[.int .i64 a, .int .i64 b, .int .i64 c, .int .i64 h, .int .i64 s] 66)).heap.size (w.alloc (.cells #[.int .i64 a, .int .i64 b, .int .i64 c, .int .i64 h, .int .i64 s] 66)) wr) := by rw [hsz]; exact HW.out
    clear hsz
    obtain ⟨q0, q1, q2, q3, q4⟩ := rule_cells (HR.out.below HW'.out)
    by_cases hlt : p < t.size
    · have hne : t.data.toList.drop p ≠ [] := by
        intro e
        have := congrArg List.length e
        rw [List.length_drop, data_length] at this
        simp at this; omega
      have hq0 := HF.out.pos _ hne
      have hq1 := HF.out.le (t.data.toList.drop p)
      rw [List.length_drop, data_length] at hq1
      have hcons := cutA_cons HF.out p hne
      have hcall := HF1.out (t.extract p t.size) (by simp; omega)
      rw [extract_rest] at hcall
      obtain ⟨q, hq⟩ : ∃ q : Nat, F (t.data.toList.drop p) = q := ⟨_, rfl⟩
      rw [hq] at hq0 hq1 hcons hcall
      have HCall := Lib.hid hcall
      have hpq : p + q ≤ t.size := by omega
      have HP : Hid (cutA F 0 t.data.toList = (pre ++ [((p : Int), ((p + q : Nat) : Int))]) ++ cutA F (p + q) (t.data.toList.drop (p + q))) := by
        rw [Hid, HK.out.2, hcons, List.drop_drop, List.append_assoc]; rfl
      clear hne hcons hcall hq
      go_wp2_with fail
      go_region_held3 (fun w' => w'.cell? ⟨w.heap.size, 0, none⟩ = some (.int .i64 a) ∧ w'.cell? ⟨w.heap.size, 1, none⟩ = some (.int .i64 b) ∧ w'.cell? ⟨w.heap.size, 2, none⟩ = some (.int .i64 c) ∧ w'.cell? ⟨w.heap.size, 3, none⟩ = some (.int .i64 h) ∧ w'.cell? ⟨w.heap.size, 4, none⟩ = some (.int .i64 s)) (first | exact ⟨q0, q1, q2, q3, q4⟩ | exact ⟨r0, r1, r2, r3, r4⟩)
        (first | (go_at_call 34; refine Calls.mono (HCall.out _) ?_; rintro e w2 ⟨rfl, hb2⟩; have HV2 := Lib.hid ((below_drew (Below.refl wr.heap.size wr)).trans hb2); have HW2 := Lib.hid (HW.out.trans (HV2.out.mono HWs.out)); have HO2 := Lib.hid (HO.out.below HV2.out); obtain ⟨r0, r1, r2, r3, r4⟩ := rule_cells ((HR.out.below HW'.out).below HV2.out); clear hb2))
      have HS2 : Hid (w.heap.size + 1 ≤ w2.heap.size) := Nat.le_trans HWs.out HV2.out.size
      go_wp2_with (at_builtin; refine appO el_spans (w.heap.size + 1) rfl _ _ rfl rfl (HO2.out.alloc _) (news := [.int .i64 p, .int .i64 (p + q)]) rfl rfl (rowAt_alloc _ [.int .i64 p, .int .i64 (p + q)] _) (one_pair _ _) (by omega) (by have := HS2.out; simp; omega) ?_; intro v1 w3 hown1 hg1 _; have HO3 := Lib.hid hown1; have HB3 : Hid (Below (w.heap.size + 1) (w.alloc (.cells #[.int .i64 a, .int .i64 b, .int .i64 c, .int .i64 h, .int .i64 s] 66)) w3) := (HW2.out.alloc HS2.out _).grown hg1 (by have := HS2.out; simp; omega) (fun j hj => (HO2.out.lt j hj).1); clear hown1 hg1)
      go_roundw
      case rel =>
        refine ⟨k + 1, p + q, pre ++ [((p : Int), ((p + q : Nat) : Int))], hpq, by omega, by go_num, ⟨by rw [List.length_append, HK.out.1]; rfl, HP.out⟩, ?_, HB3⟩
        have e := HO3.out
        rw [Hid, pcells_append]
        simpa [pcells] using e
      case measure => simp [intOf]; omega
    · go_wp2
      go_ret
      refine ⟨_, rfl, ?_, HB.out.trans (HW.out.mono (by omega))⟩
      have e := HK.out.2
      rw [List.drop_eq_nil_of_le (by rw [data_length]; omega), cutA_nil, List.append_nil] at e
      rw [e, HK.out.1]
      exact HO.out.weaken (by omega)
end Go.Proofs.Ytiocealhadlggaa

/- The laws of chapter 13: each returns true at every input; what was handed in is as it was. -/
namespace Go.Proofs.Ytiocealhadlggaa
open Go.RowKit
set_option linter.unusedVariables false

/-- Spans that rise. -/
def Rising (l : List (Int × Int)) : Prop := (∀ (i : Nat) p, l[i]? = some p → p.1 < p.2) ∧ ∀ (i j : Nat) p q, i ≤ j → l[i]? = some p → l[j]? = some q → p.1 ≤ q.1 ∧ p.2 ≤ q.2
structure TouchInv (a b : Int) (l : List (Int × Int)) (k : Nat) (r : Int × Int) : Prop where
  lo : 0 ≤ r.1
  le : r.1 ≤ r.2
  hi : r.2 ≤ k
  mid : r.2 ≠ 0 → r.1 < r.2
  nil : r.2 = 0 → r.1 = 0
  all : ∀ (i : Nat) p, i < k → l[i]? = some p → (hits a b p ↔ r.1 ≤ i ∧ (i : Int) < r.2)
theorem hits_iff {a b : Int} {p : Int × Int} (h : p.1 < p.2) : hits a b p ↔ a < b ∧ p.1 < b ∧ a < p.2 := by
  unfold hits; omega
theorem touch_step {a b : Int} {l : List (Int × Int)} (hl : Rising l) {k : Nat} {p : Int × Int} (hk : l[k]? = some p) {r : Int × Int} (h : TouchInv a b l k r) :
    TouchInv a b l (k + 1) (if hits a b p then (if r.2 = 0 then (k : Int) else r.1, (k : Int) + 1) else r) := by
  obtain ⟨f, g⟩ := r
  obtain ⟨h1, h2, h3, h4, h5, h6⟩ := h
  simp only at *
  have hp := hl.1 k p hk
  by_cases c : hits a b p
  · rw [if_pos c]
    by_cases g0 : g = 0
    · rw [if_pos g0]
      refine ⟨by simp only; omega, by simp only; omega, by simp only; omega, by simp only; omega, by simp only; omega, fun i q hi hq => ?_⟩
      simp only
      rcases Nat.lt_or_ge i k with hik | hik
      · rw [h6 i q hik hq]; omega
      · obtain rfl : i = k := by omega
        rw [hk] at hq; injection hq with hq; subst hq
        exact ⟨fun _ => by omega, fun _ => c⟩
    · rw [if_neg g0]
      have hfg := h4 g0
      refine ⟨by simp only; omega, by simp only; omega, by simp only; omega, by simp only; omega, by simp only; omega, fun i q hi hq => ?_⟩
      simp only
      rcases Nat.lt_or_ge i k with hik | hik
      · rw [h6 i q hik hq]
        constructor
        · intro h; omega
        · intro h
          refine ⟨h.1, ?_⟩
          by_cases hig : (i : Int) < g
          · exact hig
          · exfalso
            have hfk : f.toNat < k := by omega
            have hlen : k < l.length := (List.getElem?_eq_some_iff.1 hk).1
            obtain ⟨pf, hpf⟩ := some_at (l := l) (k := f.toNat) (by omega)
            have hf := (h6 f.toNat pf hfk hpf).2 (by omega)
            have hi' := (h6 i q hik hq)
            have m1 := hl.2 f.toNat i pf q (by omega) hpf hq
            have m2 := hl.2 i k q p (by omega) hq hk
            have := hl.1 i q hq
            have := hl.1 _ pf hpf
            rw [hits_iff (by assumption)] at hf
            rw [hits_iff hp] at c
            have : hits a b q := by rw [hits_iff (by assumption)]; omega
            exact hig (hi'.1 this).2
      · obtain rfl : i = k := by omega
        rw [hk] at hq; injection hq with hq; subst hq
        exact ⟨fun _ => by omega, fun _ => c⟩
  · rw [if_neg c]
    refine ⟨h1, h2, by simp only; omega, h4, h5, fun i q hi hq => ?_⟩
    simp only
    rcases Nat.lt_or_ge i k with hik | hik
    · exact h6 i q hik hq
    · obtain rfl : i = k := by omega
      rw [hk] at hq; injection hq with hq; subst hq
      exact ⟨fun h => absurd h c, fun h => by omega⟩
theorem touch_inv {a b : Int} {l : List (Int × Int)} (hl : Rising l) : ∀ (m : Nat) (k : Nat) (r : Int × Int), l.length - k = m → k ≤ l.length → TouchInv a b l k r → TouchInv a b l l.length (touchGo a b k (l.drop k) r) := by
  intro m
  induction m with
  | zero =>
    intro k r hm hk h
    obtain rfl : k = l.length := by omega
    rw [List.drop_length]; exact h
  | succ m ih =>
    intro k r hm hk h
    obtain ⟨p, hp⟩ := some_at (l := l) (k := k) (by omega)
    rw [drop_of_at hp]
    exact ih (k + 1) _ (by omega) (by omega) (touch_step hl hp h)
theorem touch_ok (a b : Int) {l : List (Int × Int)} (hl : Rising l) : TouchInv a b l l.length (touch a b l) :=
  touch_inv hl l.length 0 (0, 0) (by omega) (by omega) ⟨by simp, by simp, by simp, by simp, by simp, fun i p hi => by omega⟩

def stepN (x : Int) : Int := 1 + (x.tmod 50 + 50) % 50
theorem tmod50 (x : Int) : -49 ≤ x.tmod 50 ∧ x.tmod 50 ≤ 49 := by
  have := Int.tmod_lt_of_pos x (show (0 : Int) < 50 by omega)
  have := Int.lt_tmod_of_pos x (show (0 : Int) < 50 by omega)
  omega
theorem stepN_range (x : Int) : 1 ≤ stepN x ∧ stepN x ≤ 50 := by
  have := tmod50 x; unfold stepN; omega
def offs (l : List Int) : Int := (l.map stepN).sum
theorem offs_snoc (l : List Int) (x : Int) : offs (l ++ [x]) = offs l + stepN x := by simp [offs, List.sum_append]
theorem offs_range (l : List Int) : 0 ≤ offs l ∧ offs l ≤ 50 * l.length := by
  induction l with
  | nil => simp [offs]
  | cons x l ih =>
    have := stepN_range x
    simp only [offs, List.map_cons, List.sum_cons, List.length_cons] at *
    omega
def spansL (l : List Int) : List (Int × Int) := (List.range l.length).map fun i => (offs (l.take i), offs (l.take (i + 1)))
theorem spansL_length (l : List Int) : (spansL l).length = l.length := by simp [spansL]
theorem spansL_at {l : List Int} {k : Nat} (h : k < l.length) : (spansL l)[k]? = some (offs (l.take k), offs (l.take (k + 1))) := by simp [spansL, h]
theorem offs_take_le (l : List Int) {i j : Nat} (h : i ≤ j) : offs (l.take i) ≤ offs (l.take j) := by
  have e : l.take j = l.take i ++ (l.take j).drop i := by
    conv => lhs; rw [← List.take_append_drop i (l.take j)]
    rw [List.take_take, Nat.min_eq_left h]
  rw [e]
  have : offs (l.take i ++ (l.take j).drop i) = offs (l.take i) + offs ((l.take j).drop i) := by simp only [offs, List.map_append, List.sum_append]
  have := (offs_range ((l.take j).drop i)).1
  omega
theorem spansL_rising (l : List Int) : Rising (spansL l) := by
  refine ⟨fun i p hp => ?_, fun i j p q hij hp hq => ?_⟩
  · have hi : i < l.length := by rw [← spansL_length l]; exact (List.getElem?_eq_some_iff.1 hp).1
    rw [spansL_at hi] at hp
    injection hp with hp
    subst hp
    obtain ⟨x, hx⟩ := some_at hi
    simp only
    rw [take_snoc_of hx, offs_snoc]
    have := stepN_range x
    omega
  · have hi : i < l.length := by rw [← spansL_length l]; exact (List.getElem?_eq_some_iff.1 hp).1
    have hj : j < l.length := by rw [← spansL_length l]; exact (List.getElem?_eq_some_iff.1 hq).1
    rw [spansL_at hi] at hp
    rw [spansL_at hj] at hq
    injection hp with hp
    injection hq with hq
    subst hp hq
    exact ⟨offs_take_le l hij, offs_take_le l (by omega)⟩

end Go.Proofs.Ytiocealhadlggaa

/- fixed.Join: the bytes in spans, one behind the other. -/
namespace Go.Proofs.Ytiocealhadlggaa
open Go.RowKit
set_option linter.unusedVariables false

def okSpan (size : Nat) (p : Int × Int) : Prop := 0 ≤ p.1 ∧ p.1 ≤ p.2 ∧ p.2 ≤ size
instance (size : Nat) (p : Int × Int) : Decidable (okSpan size p) := by unfold okSpan; infer_instance
def cutOf (s : List UInt8) (p : Int × Int) : List UInt8 := (s.drop p.1.toNat).take (p.2.toNat - p.1.toNat)
def catSpans (s : List UInt8) (l : List (Int × Int)) : List UInt8 := l.flatMap (cutOf s)
theorem catSpans_snoc (s : List UInt8) (l : List (Int × Int)) (p : Int × Int) : catSpans s (l ++ [p]) = catSpans s l ++ cutOf s p := by simp [catSpans]
theorem cutOf_le (s : List UInt8) (p : Int × Int) : (cutOf s p).length ≤ s.length := by simp [cutOf]; omega
theorem catSpans_le (s : List UInt8) (l : List (Int × Int)) : (catSpans s l).length ≤ l.length * s.length := by
  induction l with
  | nil => simp [catSpans]
  | cons p l ih =>
    have := cutOf_le s p
    simp only [catSpans, List.flatMap_cons, List.length_append, List.length_cons] at *
    rw [Nat.add_mul]; omega
theorem catSpans_take_le (s : List UInt8) (l : List (Int × Int)) (k : Nat) : (catSpans s (l.take k)).length ≤ l.length * s.length := by
  refine Nat.le_trans (catSpans_le s _) (Nat.mul_le_mul_right _ ?_)
  rw [List.length_take]; omega

def okAll (size : Nat) (l : List (Int × Int)) : Prop := ∀ p ∈ l, okSpan size p
instance (size : Nat) (l : List (Int × Int)) : Decidable (okAll size l) := by unfold okAll; infer_instance
def joinR (s : ByteArray) (l : List (Int × Int)) : Value := if okAll s.size l then .tuple #[.string ⟨(catSpans s.data.toList l).toArray⟩, .int .i64 0] else .tuple #[.string ByteArray.empty, .int .i64 15]
theorem joinR_ok {s : ByteArray} {l : List (Int × Int)} (h : okAll s.size l) : joinR s l = .tuple #[.string ⟨(catSpans s.data.toList l).toArray⟩, .int .i64 0] := if_pos h
theorem joinR_bad {s : ByteArray} {l : List (Int × Int)} (h : ¬ okAll s.size l) : joinR s l = .tuple #[.string ByteArray.empty, .int .i64 15] := if_neg h
end Go.Proofs.Ytiocealhadlggaa

/- What spans of one length are: whole, and their bytes are the text; the law FixedWhole. -/
namespace Go.Proofs.Ytiocealhadlggaa
open Go.RowKit
set_option linter.unusedVariables false
attribute [local go_sem] max2_int min2_int max_two min_two

theorem wholeGo_append (l m : List (Int × Int)) : ∀ a, wholeGo a (l ++ m) = (wholeGo a l).bind fun b => wholeGo b m := by
  induction l with
  | nil => intro a; rfl
  | cons p l ih =>
    intro a
    simp only [List.cons_append, wholeGo]
    split
    · exact ih _
    · rfl
theorem fixedL_take {n size : Nat} (hn : 1 ≤ n) : ∀ k, k ≤ (size + n - 1) / n → wholeGo 0 ((fixedL n size).take k) = some ((min (k * n) size : Nat) : Int) := by
  intro k
  induction k with
  | zero => intro _; simp [wholeGo]
  | succ k ih =>
    intro hk
    have h1 := (fixed_lt (size := size) (k := k) hn).1 (by omega)
    rw [take_snoc_of (fixedL_at hn h1), wholeGo_append, ih (by omega)]
    have h2 : k * n < (k + 1) * n := by rw [Nat.add_mul]; omega
    simp only [Option.bind_some, wholeGo]
    rw [if_pos ⟨by omega, by omega⟩]
theorem fixed_all {n size : Nat} (hn : 1 ≤ n) : size ≤ ((size + n - 1) / n) * n := by
  have : ¬ (size + n - 1) / n < (size + n - 1) / n := by omega
  rw [fixed_lt hn] at this
  omega
theorem fixedL_whole {n size : Nat} (hn : 1 ≤ n) : wholeGo 0 (fixedL n size) = some (size : Int) := by
  have h := fixedL_take (n := n) (size := size) hn _ (Nat.le_refl _)
  rw [← fixedL_length n size, List.take_length] at h
  rw [h, fixedL_length]
  have := fixed_all (size := size) hn
  congr 2; omega
theorem fixedL_cat {n : Nat} (s : List UInt8) (hn : 1 ≤ n) : ∀ k, k ≤ (s.length + n - 1) / n → catSpans s ((fixedL n s.length).take k) = s.take (min (k * n) s.length) := by
  intro k
  induction k with
  | zero => intro _; simp [catSpans]
  | succ k ih =>
    intro hk
    have h1 := (fixed_lt (size := s.length) (k := k) hn).1 (by omega)
    rw [take_snoc_of (fixedL_at hn h1), catSpans_snoc, ih (by omega)]
    have h2 : k * n < (k + 1) * n := by rw [Nat.add_mul]; omega
    have e1 : min (k * n) s.length = k * n := by omega
    rw [e1]
    generalize hm : min ((k + 1) * n) s.length = m
    have hkm : k * n ≤ m := by omega
    simp only [cutOf, Int.toNat_natCast]
    conv => rhs; rw [← List.take_append_drop (k * n) (s.take m)]
    rw [List.take_take, Nat.min_eq_left hkm, List.drop_take]
theorem fixedL_join {n : Nat} (s : List UInt8) (hn : 1 ≤ n) : catSpans s (fixedL n s.length) = s := by
  have h := fixedL_cat s hn _ (Nat.le_refl _)
  rw [← fixedL_length n s.length, List.take_length] at h
  rw [h, fixedL_length]
  have := fixed_all (size := s.length) hn
  rw [Nat.min_eq_right this, List.take_length]
theorem fixedL_okAll {n size : Nat} (hn : 1 ≤ n) : okAll size (fixedL n size) := by
  intro p hp
  obtain ⟨k, hk⟩ := List.getElem?_of_mem hp
  have hkl : k < (size + n - 1) / n := by rw [← fixedL_length]; exact (List.getElem?_eq_some_iff.1 hk).1
  have h1 := (fixed_lt (size := size) hn).1 hkl
  rw [fixedL_at hn h1] at hk
  injection hk with hk
  subst hk
  have h2 : k * n < (k + 1) * n := by rw [Nat.add_mul]; omega
  exact ⟨by simp only; omega, by simp only; omega, by simp only; omega⟩
/-- One span grown by a byte: they are whole no more. -/
theorem whole_grown {n size k : Nat} {p : Int × Int} (hn : 1 ≤ n) (hk : (fixedL n size)[k]? = some p) : wholeB size ((fixedL n size).set k (p.1, p.2 + 1)) = false := by
  have hkl : k < (size + n - 1) / n := by rw [← fixedL_length]; exact (List.getElem?_eq_some_iff.1 hk).1
  have h1 := (fixed_lt (size := size) hn).1 hkl
  rw [fixedL_at hn h1] at hk
  injection hk with hk
  subst hk
  have hk2 : k < (fixedL n size).length := by rw [fixedL_length]; exact hkl
  have e : (fixedL n size).set k (((k * n : Nat) : Int), ((min ((k + 1) * n) size : Nat) : Int) + 1) = (fixedL n size).take k ++ (((k * n : Nat) : Int), ((min ((k + 1) * n) size : Nat) : Int) + 1) :: (fixedL n size).drop (k + 1) := by
    rw [List.set_eq_take_append_cons_drop, if_pos hk2]
  have h2 : k * n < (k + 1) * n := by rw [Nat.add_mul]; omega
  simp only [wholeB, decide_eq_false_iff_not]
  rw [e, wholeGo_append, fixedL_take hn k (by omega)]
  simp only [Option.bind_some, wholeGo]
  rw [if_pos ⟨by omega, by omega⟩]
  by_cases hlast : k + 1 < (size + n - 1) / n
  · have h3 := (fixed_lt (size := size) (k := k + 1) hn).1 hlast
    rw [drop_of_at (fixedL_at hn h3)]
    simp only [wholeGo]
    rw [if_neg (by omega)]
    simp
  · rw [List.drop_eq_nil_of_le (by rw [fixedL_length]; omega)]
    simp only [wholeGo]
    intro h
    injection h with h
    have := fixed_all (size := size) hn
    have hm : size ≤ (k + 1) * n := by
      have e2 : (size + n - 1) / n = k + 1 := by omega
      rw [e2] at this
      exact this
    omega
theorem pcells_set {l : List (Int × Int)} {k : Nat} {p : Int × Int} (h : l[k]? = some p) (y : Int) : (pcells l).set (k * 2 + 1) (.int .i64 y) = pcells (l.set k (p.1, y)) := by
  induction l generalizing k with
  | nil => simp at h
  | cons q l ih =>
    cases k with
    | zero => simp at h; subst h; rfl
    | succ k =>
      have := ih (k := k) (by simpa using h)
      rw [pcells_cons, show (k + 1) * 2 + 1 = (k * 2 + 1) + 1 + 1 by omega, List.set_cons_succ, List.set_cons_succ, this, List.set_cons_succ, pcells_cons]

end Go.Proofs.Ytiocealhadlggaa

/- The plain laws of cuts. -/
namespace Go.Proofs.Ytiocealhadlggaa
set_option linter.unusedVariables false

theorem cutA_whole {F : List UInt8 → Nat} (hF : Good F) : ∀ (n k : Nat) (l : List UInt8), l.length ≤ n → wholeGo k (cutA F k l) = some ((k + l.length : Nat) : Int) := by
  intro n
  induction n with
  | zero => intro k l hl; obtain rfl : l = [] := List.eq_nil_of_length_eq_zero (by omega); rfl
  | succ n ih =>
    intro k l hl
    by_cases h0 : l = []
    · subst h0; rfl
    · have h1 := hF.pos l h0
      have h2 := hF.le l
      have h3 := ih (k + F l) (l.drop (F l)) (by rw [List.length_drop]; omega)
      rw [cutA_cons hF k h0, wholeGo, if_pos ⟨rfl, by simp only; omega⟩, h3, List.length_drop]
      congr 2; omega
/-- The piece at place i: where it stands, how long it is, what follows. -/
theorem cutA_at {F : List UInt8 → Nat} (hF : Good F) : ∀ (i k : Nat) (l : List UInt8) (p : Int × Int), (cutA F k l)[i]? = some p →
    ∃ x : Nat, x < l.length ∧ p.1 = ((k + x : Nat) : Int) ∧ p.2 = ((k + x + F (l.drop x) : Nat) : Int) ∧ x + F (l.drop x) ≤ l.length ∧ 1 ≤ F (l.drop x) ∧
      (cutA F k l).drop i = cutA F (k + x) (l.drop x) ∧ (cutA F k l).drop (i + 1) = cutA F (k + x + F (l.drop x)) (l.drop (x + F (l.drop x))) ∧ (x = 0 ↔ i = 0) := by
  intro i
  induction i with
  | zero =>
    intro k l p hp
    by_cases h0 : l = []
    · subst h0; simp [cutA_nil] at hp
    · have h1 := hF.pos l h0
      have h2 := hF.le l
      have h3 := List.length_pos_iff.2 h0
      rw [cutA_cons hF k h0] at hp
      simp at hp
      subst hp
      refine ⟨0, h3, by simp, by simp, by simpa using h2, by simpa using h1, by simp, ?_, by simp⟩
      rw [cutA_cons hF k h0]; simp
  | succ i ih =>
    intro k l p hp
    by_cases h0 : l = []
    · subst h0; simp [cutA_nil] at hp
    · have h1 := hF.pos l h0
      have h2 := hF.le l
      have e := cutA_cons hF k h0
      rw [e, List.getElem?_cons_succ] at hp
      obtain ⟨x, g1, g2, g3, g4, g5, g6, g7, _⟩ := ih _ _ _ hp
      rw [List.length_drop] at g1 g4
      rw [List.drop_drop] at g3 g4 g5 g6 g7
      rw [List.drop_drop] at g7
      refine ⟨F l + x, by omega, ?_, ?_, by omega, g5, ?_, ?_, by omega⟩
      · rw [g2]; congr 1; omega
      · rw [g3]; congr 1; omega
      · rw [e, List.drop_succ_cons, g6]; congr 1; omega
      · rw [e, List.drop_succ_cons, g7]
        congr 1
        · omega
        · congr 1; omega
theorem cutA_ne {F : List UInt8 → Nat} (hF : Good F) (k : Nat) {l : List UInt8} : cutA F k l = [] ↔ l = [] := by
  constructor
  · intro h
    by_cases h0 : l = []
    · exact h0
    · rw [cutA_cons hF k h0] at h; cases h
  · rintro rfl; rfl
theorem cutA_last {F : List UInt8 → Nat} (hF : Good F) {i k x : Nat} {l : List UInt8} (h : (cutA F k l).drop (i + 1) = cutA F (k + x + F (l.drop x)) (l.drop (x + F (l.drop x)))) : i + 1 < (cutA F k l).length ↔ x + F (l.drop x) < l.length := by
  have h1 : (cutA F k l).drop (i + 1) = [] ↔ l.drop (x + F (l.drop x)) = [] := by rw [h, cutA_ne hF]
  rw [List.drop_eq_nil_iff, List.drop_eq_nil_iff] at h1
  omega

theorem firstN_most {a b c h s : Int} (hv : validB a b c h s = true) (l : List UInt8) : (firstN a b c h s l : Int) ≤ c := by
  have hv2 := valid_bounds hv
  unfold firstN
  split
  · have := firstGo_le b h s ((l.take c.toNat).drop a.toNat) a.toNat 0
    rw [List.length_drop, List.length_take] at this
    omega
  · rename_i hc
    have : ¬ a < (l.length : Int) := fun h => hc ⟨hv, h⟩
    omega
theorem firstN_least {a b c h s : Int} {l : List UInt8} (hv : validB a b c h s = true) (hl : firstN a b c h s l < l.length) : a ≤ (firstN a b c h s l : Int) := by
  have hv2 := valid_bounds hv
  unfold firstN at hl ⊢
  split
  · have := firstGo_ge b h s ((l.take c.toNat).drop a.toNat) a.toNat 0
    omega
  · rename_i hc
    rw [if_neg hc] at hl
    omega
end Go.Proofs.Ytiocealhadlggaa
