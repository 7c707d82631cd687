/- Words and contracts that this claim leans on, one text behind the other. -/
import Derived.Test.YtbkankpfkbafdaaDoorProg
import Derived.WalkKit
import Derived.Lib.ConvBytes
import Derived.Lib.Hide
import Derived.WalkSpells
import Derived.WalkLawsBesides
import Derived.KernelRfl
import Derived.Deep.QuietTactic
import Derived.BigQuiet
import Derived.Maps.AppendAt
import Derived.Laws.OwnMore
import Derived.ArgAppend
import Derived.Laws.IdiomCopy
import Derived.Laws.BitsAllLaws
import Derived.Outline
import Derived.Laws.Rows
import Derived.Deep.RegionHeld3
import Derived.BigRegion
import Derived.Deep.MidRow
import Derived.Test.YtbkankpfkbafdaaDoorShelf
import Derived.Deep.OwnRows
import Derived.Deep.RegionLaw
import Derived.RegionTactic
import Derived.Lib.AppendStr
import Derived.Deep.RegionHeldLaw
/- Words used by all texts of this seat: cells that lie in a row, what a fresh block changes. -/
namespace Go.Proofs.YtbkankpfkbafdaaDoor
open Go.RowKit

/-- The cells cs lie one behind the other at A (of no cells nothing is said). -/
def RowAt (w : World) (A : Option Addr) (cs : List Value) : Prop :=
  cs = [] ∨ ∃ ad, A = some ad ∧ ∀ j u, cs[j]? = some u → w.cell? (ad.add j) = some u
theorem RowAt.nil (w : World) (A : Option Addr) : RowAt w A [] := .inl rfl
theorem RowAt.get {w : World} {A : Option Addr} {cs : List Value} (h : RowAt w A cs) {j : Nat} {u : Value} (hj : cs[j]? = some u) : ∃ ad, A = some ad ∧ w.cell? (ad.add j) = some u := by
  rcases h with rfl | ⟨ad, e, h⟩
  · simp at hj
  · exact ⟨ad, e, h j u hj⟩
theorem cell_kept {B : Nat} {w w' : World} (h : Below B w w') {a : Addr} {v : Value} (hB : w.heap.size ≤ B) (hc : w.cell? a = some v) : w'.cell? a = some v :=
  (h.cell (Nat.lt_of_lt_of_le (World.block_lt_of_cell? w a hc) hB)).trans hc
theorem RowAt.below {w w' : World} {A : Option Addr} {cs : List Value} (h : RowAt w A cs) (hb : Below w.heap.size w w') : RowAt w' A cs := by
  rcases h with rfl | ⟨ad, e, h⟩
  · exact .inl rfl
  · exact .inr ⟨ad, e, fun j u hj => cell_kept hb (Nat.le_refl _) (h j u hj)⟩
/-- Both facts of a block that was made behind another world. -/
theorem below_trans' {w w1 w2 : World} (h : Below w.heap.size w w1) (k : Below w1.heap.size w1 w2) : Below w.heap.size w w2 :=
  h.trans (k.mono h.size)

theorem below_drewN {B : Nat} {w W : World} (h : Below B w W) (n : Nat) : Below B w (W.drewN n) := ⟨h.os, h.tape, h.output, h.size, h.block⟩
theorem RowAt.addr {w : World} {A : Option Addr} {cs : List Value} (h : RowAt w A cs) (h0 : cs ≠ []) : ∃ b o, A = some ⟨b, o, none⟩ ∧ b < w.heap.size ∧ ∀ j u, cs[j]? = some u → w.cell? ⟨b, o + j, none⟩ = some u := by
  rcases h with h | ⟨⟨b, o, sp⟩, rfl, h⟩
  · exact absurd h h0
  · obtain ⟨x, r, rfl⟩ := List.exists_cons_of_ne_nil h0
    have h1 := h 0 x rfl
    have hsp : sp = none := by simpa [Addr.add] using World.cell?_spot h1
    subst hsp
    have e : ∀ j, (⟨b, o, none⟩ : Addr).add j = ⟨b, o + j, none⟩ := by intro j; unfold Addr.add; split <;> simp_all
    exact ⟨b, o, rfl, World.block_lt_of_cell? w _ h1, fun j u hj => by rw [← e]; exact h j u hj⟩
theorem quiet_same {P : Program} {f : FuncId} {args : Array Value} {w : World} {n : Nat} {v : Value}
    (h : Calls P f args (w.drewN n) fun e w' => e = .returned v ∧ w.drewN n = w') : Calls P f args (w.drewN n) fun e w'' => e = .returned v ∧ ∃ m, w'' = w.drewN m :=
  h.mono fun _ _ ⟨he, hm⟩ => ⟨he, n, hm.symm⟩
theorem str_inj {a b : ByteArray} (h : a.toList = b.toList) : a = b := by
  rw [ByteArray.toList_eq, ByteArray.toList_eq] at h
  exact ByteArray.ext (Array.toList_inj.mp h)
theorem str_beq (a b : ByteArray) : (a.toList == b.toList) = decide (a = b) := by
  rw [Bool.eq_iff_iff]
  simp only [beq_iff_eq, decide_eq_true_eq]
  exact ⟨str_inj, fun h => by rw [h]⟩
theorem str_ne {a b : ByteArray} (h : a ≠ b) : (a.toList == b.toList) = false := by rw [str_beq]; simpa using h

theorem RowAt.left {w : World} {A : Option Addr} {cs ds : List Value} (h : RowAt w A (cs ++ ds)) : RowAt w A cs := by
  rcases h with h | ⟨ad, e, h⟩
  · exact .inl (List.append_eq_nil_iff.1 h).1
  · refine .inr ⟨ad, e, fun j u hj => h j u ?_⟩
    rw [List.getElem?_append_left (List.getElem?_eq_some_iff.1 hj).1]
    exact hj

def bcells (l : List UInt8) : List Value := l.map fun b => .int .u8 b.toNat
def icells (l : List Int) : List Value := l.map (.int .i64)
def scells (l : List ByteArray) : List Value := l.map .string
def pcells (l : List (Int × Int)) : List Value := l.flatMap fun p => [.int .i64 p.1, .int .i64 p.2]
theorem bcells_at {l : List UInt8} {k : Nat} {x : UInt8} (h : l[k]? = some x) : (bcells l)[k]? = some (.int .u8 x.toNat) := by simp [bcells, h]
theorem icells_at {l : List Int} {k : Nat} {x : Int} (h : l[k]? = some x) : (icells l)[k]? = some (.int .i64 x) := by simp [icells, h]
theorem scells_at {l : List ByteArray} {k : Nat} {x : ByteArray} (h : l[k]? = some x) : (scells l)[k]? = some (.string x) := by simp [scells, h]
theorem rowAt_alloc (w : World) (cs : List Value) (t : TypeId) : RowAt (w.alloc (.cells cs.toArray t)) (some ⟨w.heap.size, 0, none⟩) cs := by
  refine .inr ⟨_, rfl, fun j u hj => ?_⟩
  have e : (⟨w.heap.size, 0, none⟩ : Addr).add j = ⟨w.heap.size, j, none⟩ := by unfold Addr.add; split <;> simp_all
  rw [e, World.cell?_alloc_at _ _ _ _ rfl]
  simpa using hj
theorem RowAt.alloc {w : World} {A : Option Addr} {cs : List Value} (h : RowAt w A cs) (o : Obj) : RowAt (w.alloc o) A cs := h.below ((Below.refl _ _).alloc (Nat.le_refl _) o)
theorem RowAt.take_b {w : World} {A : Option Addr} {l : List UInt8} (h : RowAt w A (bcells l)) (m : Nat) : RowAt w A (bcells (l.take m)) := by
  rw [← List.take_append_drop m l, bcells, List.map_append] at h
  exact h.left
/-- string(b) of a row of bytes. -/
theorem bytes_str (P : Program) (src e_ dst : TypeId) (hs : P.underlying src = some (.slice e_)) (he : P.underlying e_ = some (.int .u8)) (hd : P.underlying dst = some .string) (A : Option Addr) (n c : Nat) (l : List UInt8) (w : World) (hl : l.length = n) (hR : RowAt w A (bcells l)) :
    (convert src dst (.slice A n c)).run P w = .ok (.string ⟨l.toArray⟩) w := by
  subst hl
  have key : ∀ ad : Addr, (∀ j u, (bcells l)[j]? = some u → w.cell? (ad.add j) = some u) → (convert src dst (.slice (some ad) l.length c)).run P w = .ok (.string ⟨l.toArray⟩) w := by
    intro ad hc
    have e : bcells l = (l.map fun b => (b.toNat : Int)).map (Value.int .u8) := by simp [bcells]
    have hl := run_loadCells_list (P := P) w ad (bcells l) hc
    rw [e] at hl
    simp only [List.length_map] at hl
    rw [run_convert_bytes_string w src dst e_ _ l.length c hs he hd, run_bytesToString w ad l.length c _ hl, foldl_push_bytes]
    congr 2
    simp only [List.map_map]
    have e2 : l.map ((fun n : Int => UInt8.ofNat n.toNat) ∘ fun b : UInt8 => (b.toNat : Int)) = l := by
      conv => rhs; rw [← List.map_id l]
      apply List.map_congr_left
      intro b _
      simp
    rw [e2]
    simp [ByteArray.empty, ByteArray.emptyWithCapacity]
    rfl
  rcases hR with h | ⟨ad, rfl, hc⟩
  · rcases A with _ | ad
    · obtain rfl : l = [] := by simpa [bcells] using h
      rw [run_convert_bytes_nil w src e_ hs he _ _ dst hd]
      rfl
    · exact key ad (by rw [h]; simp)
  · exact key ad hc
theorem mk_data (s : ByteArray) : (⟨s.data.toList.toArray⟩ : ByteArray) = s := by cases s; simp
theorem mk_size (l : List UInt8) : (⟨l.toArray⟩ : ByteArray).size = l.length := by simp [ByteArray.size]
theorem all_one {x : ByteArray} {n : Nat} (h : x.size ≤ n) : ∀ s ∈ [x], s.size ≤ n := by intro s hs; rw [List.mem_singleton.1 hs]; exact h
theorem pcells_cons (p : Int × Int) (l : List (Int × Int)) : pcells (p :: l) = .int .i64 p.1 :: .int .i64 p.2 :: pcells l := rfl
theorem pcells_length (l : List (Int × Int)) : (pcells l).length = l.length * 2 := by
  induction l with
  | nil => rfl
  | cons p l ih => rw [pcells_cons]; simp [ih]; omega
theorem pcells_append (l m : List (Int × Int)) : pcells (l ++ m) = pcells l ++ pcells m := by simp [pcells]
theorem pcells_at {l : List (Int × Int)} {k : Nat} {p : Int × Int} (h : l[k]? = some p) : (pcells l)[k * 2]? = some (.int .i64 p.1) ∧ (pcells l)[k * 2 + 1]? = some (.int .i64 p.2) := by
  induction l generalizing k with
  | nil => simp at h
  | cons q l ih =>
    cases k with
    | zero => simp at h; subst h; exact ⟨rfl, rfl⟩
    | succ k =>
      have := ih (k := k) (by simpa using h)
      rw [pcells_cons, show (k + 1) * 2 = k * 2 + 1 + 1 by omega]
      simpa using this
theorem pair_at {w : World} {A : Option Addr} {l : List (Int × Int)} {k : Nat} {p : Int × Int} (h : RowAt w A (pcells l)) (hk : l[k]? = some p) :
    ∃ b o, A = some ⟨b, o, none⟩ ∧ b < w.heap.size ∧ w.cell? ⟨b, o + k * 2, none⟩ = some (.int .i64 p.1) ∧ w.cell? ⟨b, o + k * 2 + 1, none⟩ = some (.int .i64 p.2) := by
  obtain ⟨h1, h2⟩ := pcells_at hk
  obtain ⟨b, o, e, hb, hc⟩ := h.addr (by intro e; rw [e] at h1; simp at h1)
  exact ⟨b, o, e, hb, hc _ _ h1, by rw [Nat.add_assoc]; exact hc _ _ h2⟩
theorem one_bcells (l : List UInt8) : ∀ u ∈ bcells l, u.oneCell' = true := by intro u hu; obtain ⟨b, _, rfl⟩ := List.mem_map.1 hu; rfl
theorem one_icells (l : List Int) : ∀ u ∈ icells l, u.oneCell' = true := by intro u hu; obtain ⟨b, _, rfl⟩ := List.mem_map.1 hu; rfl
theorem one_scells (l : List ByteArray) : ∀ u ∈ scells l, u.oneCell' = true := by intro u hu; obtain ⟨b, _, rfl⟩ := List.mem_map.1 hu; rfl
theorem one_pcells (l : List (Int × Int)) : ∀ u ∈ pcells l, u.oneCell' = true := by
  intro u hu; obtain ⟨b, _, h⟩ := List.mem_flatMap.1 hu
  simp at h
  rcases h with rfl | rfl <;> rfl
/-- []byte(s): the new row, the world behind it. -/
theorem bytes_below (W : World) (e : TypeId) (s : ByteArray) : Below W.heap.size W (Lib.bytesWorld W e s) :=
  ⟨rfl, rfl, rfl, by rw [Lib.bytesWorld_size]; omega, fun i hi => Lib.bytesWorld_at_old W e s i hi⟩
theorem bytes_row (W : World) (e : TypeId) (s : ByteArray) : RowAt (Lib.bytesWorld W e s) (some ⟨W.heap.size, 0, none⟩) (bcells s.data.toList) := by
  refine .inr ⟨_, rfl, fun j u hj => ?_⟩
  have e1 : (⟨W.heap.size, 0, none⟩ : Addr).add j = ⟨W.heap.size, j, none⟩ := by unfold Addr.add; split <;> simp_all
  have hjl : j < (bcells s.data.toList).length := (List.getElem?_eq_some_iff.1 hj).1
  simp only [bcells, List.length_map] at hjl
  rw [e1, Lib.bytesWorld_cell W e s j (by simpa using hjl)]
  simp only [bcells, List.getElem?_map, List.getElem?_eq_getElem hjl, Option.map_some] at hj
  rw [← hj, List.getD_eq_getElem?_getD, List.getElem?_eq_getElem hjl]
  rfl
theorem data_length (s : ByteArray) : s.data.toList.length = s.size := by rw [Array.length_toList]; rfl
theorem take_snoc_str (s : ByteArray) (k : Nat) (h : k < s.size) : s.data.toList.take (k + 1) = s.data.toList.take k ++ [s[k]] := by
  rw [List.take_succ_eq_append_getElem (by simpa using h)]; rfl
theorem take_snoc_of {α : Type} {l : List α} {k : Nat} {x : α} (h : l[k]? = some x) : l.take (k + 1) = l.take k ++ [x] := by
  rw [List.take_add_one, h]; rfl
theorem some_at {α : Type} {l : List α} {k : Nat} (h : k < l.length) : ∃ x, l[k]? = some x := ⟨l[k], List.getElem?_eq_getElem h⟩
theorem max2_int (k k' : IntKind) (x y : Int) : Builtin.max2 (.int k x) (.int k' y) = pure (.int k (max x y)) := by
  simp only [Builtin.max2, gt_iff_lt]
  have e : (if x < y then y else x) = max x y := by rw [Int.max_def]; split <;> split <;> omega
  rw [e]
theorem min2_int (k k' : IntKind) (x y : Int) : Builtin.min2 (.int k x) (.int k' y) = pure (.int k (min x y)) := by
  simp only [Builtin.min2]
  have e : (if y < x then y else x) = min x y := by rw [Int.min_def]; split <;> split <;> omega
  rw [e]
theorem max_two (ats : Array TypeId) (ty : TypeId) (a b : Value) : Builtin.max_ ats ty #[a, b] = (Builtin.max2 a b >>= fun s => pure s) := by simp only [Builtin.max_, List.foldlM_cons, List.foldlM_nil]
theorem min_two (ats : Array TypeId) (ty : TypeId) (a b : Value) : Builtin.min_ ats ty #[a, b] = (Builtin.min2 a b >>= fun s => pure s) := by simp only [Builtin.min_, List.foldlM_cons, List.foldlM_nil]
theorem ret_int {k : IntKind} {a b : Int} (h : a = b) : Ending.returned (.int k a) = .returned (.int k b) := by rw [h]
theorem ret_bool {a b : Bool} (h : a = b) : Ending.returned (.bool a) = .returned (.bool b) := by rw [h]
theorem ret_str {a b : ByteArray} (h : a = b) : Ending.returned (.string a) = .returned (.string b) := by rw [h]
theorem val_int {k : IntKind} {a b : Int} (h : a = b) : Value.int k a = .int k b := by rw [h]

/-- What is known of a slice type t, its elements' type e: how many cells and bytes each has. -/
def El (P : Program) (t e : TypeId) (size bytes : Nat) : Prop :=
  P.underlying t = some (.slice e) ∧ 0 < size ∧ 0 < bytes ∧ ∃ i z, P.info? e = some i ∧ i.zero = some z ∧ i.size = size ∧ i.bytes = bytes ∧ z.cells.size = size
theorem El.mk' {P : Program} {t e : TypeId} {z : Value} {size bytes : Nat} (h : P.underlying t = some (.slice e)) (hi : (P.info? e).map (fun i => (i.zero, i.size, i.bytes)) = some (some z, size, bytes))
    (hz : (z.cells.size == size && decide (0 < size) && decide (0 < bytes)) = true) : El P t e size bytes := by
  obtain ⟨i, h1, h2⟩ := Option.map_eq_some_iff.1 hi
  simp only [Prod.mk.injEq] at h2
  simp at hz
  exact ⟨h, hz.1.2, hz.2, i, z, h1, h2.1, h2.2.1, h2.2.2, hz.1.1⟩

theorem own_base {w : World} {base : Nat} {e : TypeId} {size n : Nat} {v : Value} {xs : List Value} (h : w.ownsRow base e size v n xs) (k : Nat) (hk : v.ownBlock = some k) : base ≤ k := by
  rcases h.2 with ⟨rfl, _⟩ | ⟨g, cap, cur, rfl, hb, _⟩
  · simp [Value.ownBlock] at hk
  · have : g = k := by simpa [Value.ownBlock] using hk
    omega
theorem own_slice {w : World} {base n : Nat} {e : TypeId} {size : Nat} {v : Value} {xs : List Value} (h : w.ownsRow base e size v n xs) : ∃ A c, v = .slice A n c ∧ n ≤ c ∧ RowAt w A xs ∧ (A = none → n = 0 ∧ c = 0) := by
  rcases h.2 with ⟨rfl, rfl⟩ | ⟨g, cap, cur, rfl, _, _, hc, _⟩
  · exact ⟨none, 0, rfl, Nat.le_refl _, .inl (List.eq_nil_of_length_eq_zero (by simpa using h.1)), fun _ => ⟨rfl, rfl⟩⟩
  · exact ⟨_, cap, rfl, hc, .inr ⟨_, rfl, h.cells (g := g) rfl⟩, fun h => by cases h⟩
theorem own_form {w : World} {base n : Nat} {e : TypeId} {size : Nat} {v : Value} {xs : List Value} (h : w.ownsRow base e size v n xs) (h0 : 0 < n) :
    ∃ g cap, v = .slice (some ⟨g, 0, none⟩) n cap ∧ base ≤ g ∧ n ≤ cap ∧ RowAt w (some ⟨g, 0, none⟩) xs := by
  rcases h.2 with ⟨rfl, rfl⟩ | ⟨g, cap, cur, rfl, hb, _, hc, _⟩
  · omega
  · exact ⟨g, cap, rfl, hb, hc, .inr ⟨_, rfl, h.cells (g := g) rfl⟩⟩
theorem own_below {w w1 : World} {base : Nat} {e : TypeId} {size n : Nat} {v : Value} {xs : List Value} (h : w.ownsRow base e size v n xs) (hb : Below w.heap.size w w1) : w1.ownsRow base e size v n xs :=
  h.kept (row := none) ⟨hb.os, hb.tape, hb.output, hb.size, fun i hi _ => hb.block i hi⟩ (by cases v.ownBlock <;> simp)
theorem own_weaken {w : World} {base base' : Nat} {e : TypeId} {size n : Nat} {v : Value} {xs : List Value} (h : w.ownsRow base e size v n xs) (hb : base' ≤ base) : w.ownsRow base' e size v n xs := by
  obtain ⟨h1, h2⟩ := h
  refine ⟨h1, ?_⟩
  rcases h2 with h2 | ⟨g, cap, cur, rfl, hg, r⟩
  · exact .inl h2
  · exact .inr ⟨g, cap, cur, rfl, Nat.le_trans hb hg, r⟩

/-- append(v, x...): v a row of the call's own, x any row. -/
theorem run_app {P : Program} {t e : TypeId} {size bytes : Nat} (E : El P t e size bytes) (W : World) (base : Nat) (ty : TypeId) (v : Value) (n : Nat) (xs : List Value) (hown : W.ownsRow base e size v n xs)
    (A : Option Addr) (m c : Nat) (news : List Value) (hl : news.length = m * size) (hR : RowAt W A news) (h1 : ∀ u ∈ news, u.oneCell' = true)
    (hbytes : (n + m) * bytes ≤ 140737488355328) (hbase : base ≤ W.heap.size) :
    ∃ v' w', (Builtin.append_ #[t, t] ty #[v, .slice A m c]).run P W = .ok v' w' ∧ w'.ownsRow base e size v' (n + m) (xs ++ news) ∧ W.grownBy w' v.ownBlock ∧ (v'.ownBlock = v.ownBlock ∨ v'.ownBlock = some W.heap.size) := by
  obtain ⟨ht, hsz, hb0, i, z, hi, hz, rfl, rfl, hzs⟩ := E
  have hlen : n + m ≤ 140737488355328 := Nat.le_trans (Nat.le_mul_of_pos_right _ hb0) hbytes
  rcases A with _ | ad
  · have hm0 : m = 0 := by
      rcases hR with rfl | ⟨ad, h, _⟩
      · rcases Nat.eq_zero_or_pos m with h0 | h0
        · exact h0
        · have := Nat.mul_pos h0 hsz
          simp at hl; omega
      · cases h
    subst hm0
    obtain rfl : news = [] := List.eq_nil_of_length_eq_zero (by simpa using hl)
    refine ⟨v, W, ?_, by simpa using hown, World.grownBy.refl W _, .inl rfl⟩
    rcases hown.2 with ⟨rfl, hn⟩ | ⟨g, cap, cur, rfl, _, _, hnc, _⟩
    · simp [Builtin.append_, run_underlying ht, sizeOf, typeInfo, hi, Builtin.lenOf, Builtin.firstCells]
    · simp [Builtin.append_, run_underlying ht, sizeOf, typeInfo, hi, Builtin.lenOf, Builtin.firstCells, hnc, storeCells]
  · have hcells : ∀ j u, news[j]? = some u → W.cell? (ad.add j) = some u := by
      intro j u hu
      obtain ⟨ad', h, hc⟩ := hR.get hu
      injection h with h
      subst h
      exact hc
    obtain ⟨v', w', hr, h2, h3, _, h5⟩ := run_append_own_at (P := P) W base t ty e i z i.size i.bytes ht hi hz rfl rfl hzs hsz v n xs hown ad m c news hl hcells h1 (by simp only [maxLen]; omega) hbytes hbase
    exact ⟨v', w', hr, h2, h3, h5⟩

section
variable {P : Program} {ops : Array Oper} {rest : List Oper} {o : Oper} {a : Act} {Q : Exit → Act → World → Prop}
/-- The same as a step of the walk, behind 'at_builtin'. -/
theorem app_row {t e : TypeId} {size bytes : Nat} (E : El P t e size bytes) {W : World} (base : Nat) (hgd : o.guard = none) (s x : Operand)
    (ho : o.op = .call { callee := .builtin .append, args := #[s, x], argTypes := #[t, t] })
    {v : Value} {n : Nat} {xs : List Value} (hs : a.eval s = v) (hown : W.ownsRow base e size v n xs)
    {A : Option Addr} {m c : Nat} {news : List Value} (hx : a.eval x = .slice A m c) (hl : news.length = m * size) (hR : RowAt W A news) (h1 : ∀ u ∈ news, u.oneCell' = true)
    (hbytes : (n + m) * bytes ≤ 140737488355328) (hbase : base ≤ W.heap.size)
    (h : ∀ v' w', w'.ownsRow base e size v' (n + m) (xs ++ news) → W.grownBy w' v.ownBlock → (v'.ownBlock = v.ownBlock ∨ v'.ownBlock = some W.heap.size) → wpList P ops Q rest (a.put o.dst v') w') :
    wpList P ops Q (o :: rest) a W := by
  obtain ⟨v', w', hr, h2, h3, h4⟩ := run_app E W base o.type v n xs hown A m c news hl hR h1 hbytes hbase
  refine wpList_plain hgd fun K hK => ?_
  unfold Oper.wp execOp
  simp only [ho, resolve, invoke, builtin, Sem.run_bind, Sem.run_pure, Result.andThen_ok, List.map_toArray, List.map_cons, List.map_nil, hs, hx, hr]
  exact hK _ _ (h v' w' h2 h3 h4)
end

end Go.Proofs.YtbkankpfkbafdaaDoor

/- A row of memory that the call itself made, told cell by cell: what append, a store, a cut leave of it. -/
namespace Go.Proofs.YtbkankpfkbafdaaDoor
open Go.RowKit

theorem grownBy_setCells (b : Nat) : ∀ (vs : List Value) (o : Nat) (w : World), w.grownBy (w.setCells b o vs) (some b)
  | [], _, w => World.grownBy.refl w _
  | v :: r, o, w => by
    rw [World.setCells]
    refine World.grownBy.trans (b := w.setCell ⟨b, o, none⟩ v) ?_ (grownBy_setCells b r (o + 1) _)
    exact ⟨rfl, rfl, rfl, by simp [World.setCell], fun k _ hk => Below.heap_setCell w _ v k (fun e => hk (by rw [e]))⟩

/-- v is a slice of n elements of sz cells each, in a block of one's own (from 'base' on), all of whose cells up to the capacity are there and may be written; its elements' cells are xs. -/
def Own (w : World) (base sz : Nat) (v : Value) (n : Nat) (xs : List Value) : Prop :=
  xs.length = n * sz ∧ ((v = .slice none 0 0 ∧ n = 0) ∨
    ∃ g cap, v = .slice (some ⟨g, 0, none⟩) n cap ∧ base ≤ g ∧ g < w.heap.size ∧ n ≤ cap ∧ cap ≤ maxLen ∧ (∀ j, j < cap * sz → (w.cell? ⟨g, j, none⟩).isSome = true ∧ w.frozen? ⟨g, j, none⟩ = false) ∧
      ∀ j u, xs[j]? = some u → w.cell? ⟨g, j, none⟩ = some u)

section
variable {w w' : World} {base sz : Nat} {v : Value} {n : Nat} {xs : List Value}
theorem add0 (g j : Nat) : (⟨g, 0, none⟩ : Addr).add j = ⟨g, j, none⟩ := by unfold Addr.add; split <;> simp_all
theorem Own.nil (w : World) (base sz : Nat) : Own w base sz (.slice none 0 0) 0 [] := ⟨by simp, .inl ⟨rfl, rfl⟩⟩
theorem Own.of_row {e : TypeId} (h : w.ownsRow base e sz v n xs) : Own w base sz v n xs := by
  obtain ⟨h1, h2⟩ := h
  refine ⟨h1, ?_⟩
  rcases h2 with h2 | ⟨g, cap, cur, rfl, hb, hg, hn, hm, hs, ht⟩
  · exact .inl h2
  · refine .inr ⟨g, cap, rfl, hb, (Array.getElem?_eq_some_iff.1 hg).1, hn, hm, fun j hj => ⟨?_, frozen_of_row w g j cur e hg⟩, fun j u hu => ?_⟩
    · rw [cell_of_row w g j cur e (0, 0) hg]
      simp [hs, hj]
    · rw [cell_of_row w g j cur e (0, 0) hg]
      rw [← ht, List.getElem?_take] at hu
      split at hu
      · simpa using hu
      · cases hu
theorem Own.slice (h : Own w base sz v n xs) : ∃ A c, v = .slice A n c ∧ n ≤ c ∧ RowAt w A xs ∧ (A = none → n = 0 ∧ c = 0) := by
  rcases h.2 with ⟨rfl, rfl⟩ | ⟨g, cap, rfl, _, _, hc, _, _, hx⟩
  · exact ⟨none, 0, rfl, Nat.le_refl _, .inl (List.eq_nil_of_length_eq_zero (by simpa using h.1)), fun _ => ⟨rfl, rfl⟩⟩
  · exact ⟨_, cap, rfl, hc, .inr ⟨_, rfl, fun j u hu => by rw [add0]; exact hx j u hu⟩, fun h => by cases h⟩
theorem Own.form (h : Own w base sz v n xs) (h0 : 0 < n) : ∃ g cap, v = .slice (some ⟨g, 0, none⟩) n cap ∧ base ≤ g ∧ g < w.heap.size ∧ n ≤ cap ∧ RowAt w (some ⟨g, 0, none⟩) xs := by
  rcases h.2 with ⟨rfl, rfl⟩ | ⟨g, cap, rfl, hb, hg, hc, _, _, hx⟩
  · omega
  · exact ⟨g, cap, rfl, hb, hg, hc, .inr ⟨_, rfl, fun j u hu => by rw [add0]; exact hx j u hu⟩⟩
theorem Own.lt (h : Own w base sz v n xs) (k : Nat) (hk : v.ownBlock = some k) : base ≤ k ∧ k < w.heap.size := by
  rcases h.2 with ⟨rfl, _⟩ | ⟨g, cap, rfl, hb, hg, _⟩
  · simp [Value.ownBlock] at hk
  · have : g = k := by simpa [Value.ownBlock] using hk
    subst this
    exact ⟨hb, hg⟩
theorem Own.kept {row : Option Nat} (h : Own w base sz v n xs) (hg : w.grownBy w' row) (hne : v.ownBlock = none ∨ v.ownBlock ≠ row) : Own w' base sz v n xs := by
  obtain ⟨h1, h2⟩ := h
  refine ⟨h1, ?_⟩
  rcases h2 with h2 | ⟨g, cap, rfl, hb, hl, hn, hm, hc, hx⟩
  · exact .inl h2
  · have hne' : some g ≠ row := by simpa [Value.ownBlock] using hne
    have e : w'.heap[g]? = w.heap[g]? := hg.block g hl hne'
    refine .inr ⟨g, cap, rfl, hb, Nat.lt_of_lt_of_le hl hg.size, hn, hm, fun j hj => ?_, fun j u hu => ?_⟩
    · rw [World.cell?_of_block (w := w) (a := ⟨g, j, none⟩) e, World.frozen?_of_block (w := w) (a := ⟨g, j, none⟩) e]
      exact hc j hj
    · rw [World.cell?_of_block (w := w) (a := ⟨g, j, none⟩) e]
      exact hx j u hu
theorem Own.below (h : Own w base sz v n xs) (hb : Below w.heap.size w w') : Own w' base sz v n xs :=
  h.kept (row := none) ⟨hb.os, hb.tape, hb.output, hb.size, fun i hi _ => hb.block i hi⟩ (by cases v.ownBlock <;> simp)
theorem Own.alloc (h : Own w base sz v n xs) (o : Obj) : Own (w.alloc o) base sz v n xs := h.below ((Below.refl _ _).alloc (Nat.le_refl _) o)
theorem Own.weaken {base' : Nat} (h : Own w base sz v n xs) (hb : base' ≤ base) : Own w base' sz v n xs := by
  obtain ⟨h1, h2⟩ := h
  refine ⟨h1, ?_⟩
  rcases h2 with h2 | ⟨g, cap, rfl, hg, r⟩
  · exact .inl h2
  · exact .inr ⟨g, cap, rfl, Nat.le_trans hb hg, r⟩
/-- The first k elements, of the same capacity. -/
theorem Own.take {A : Option Addr} {c : Nat} (h : Own w base sz (.slice A n c) n xs) (k : Nat) (hk : k ≤ n) : Own w base sz (.slice A k c) k (xs.take (k * sz)) := by
  obtain ⟨h1, h2⟩ := h
  refine ⟨by rw [List.length_take, h1]; exact Nat.min_eq_left (Nat.mul_le_mul_right _ hk), ?_⟩
  rcases h2 with ⟨h2, rfl⟩ | ⟨g, cap, h2, hb, hl, hn, hm, hc, hx⟩
  · simp at h2
    obtain ⟨rfl, rfl⟩ := h2
    obtain rfl : k = 0 := by omega
    exact .inl ⟨rfl, rfl⟩
  · simp at h2
    obtain ⟨rfl, rfl⟩ := h2
    refine .inr ⟨g, c, rfl, hb, hl, by omega, hm, hc, fun j u hu => hx j u ?_⟩
    rw [List.getElem?_take] at hu
    split at hu
    · exact hu
    · cases hu
/-- A store into one cell. -/
theorem Own.set {g cap : Nat} (h : Own w base sz (.slice (some ⟨g, 0, none⟩) n cap) n xs) (j : Nat) (hj : j < xs.length) (u : Value) :
    Own (w.setCell ⟨g, j, none⟩ u) base sz (.slice (some ⟨g, 0, none⟩) n cap) n (xs.set j u) ∧ w.grownBy (w.setCell ⟨g, j, none⟩ u) (some g) := by
  obtain ⟨h1, h2⟩ := h
  have hg : w.grownBy (w.setCell ⟨g, j, none⟩ u) (some g) := ⟨rfl, rfl, rfl, by simp [World.setCell], fun k _ hk => Below.heap_setCell w _ u k (fun e => hk (by rw [e]))⟩
  refine ⟨⟨by simpa using h1, ?_⟩, hg⟩
  rcases h2 with ⟨h2, _⟩ | ⟨g', cap', h2, hb, hl, hn, hm, hc, hx⟩
  · simp at h2
  · simp at h2
    obtain ⟨rfl, rfl⟩ := h2
    have hjc : j < cap * sz := by rw [h1] at hj; exact Nat.lt_of_lt_of_le hj (Nat.mul_le_mul_right _ hn)
    have hsame : (w.setCell ⟨g, j, none⟩ u).cell? ⟨g, j, none⟩ = some u := by
      have := World.cell?_setCells_in g [u] j w (by intro i hi; simp at hi; subst hi; exact (hc j hjc).1) 0 (by simp)
      simpa [World.setCells] using this
    have hoth : ∀ i, i ≠ j → (w.setCell ⟨g, j, none⟩ u).cell? ⟨g, i, none⟩ = w.cell? ⟨g, i, none⟩ := by
      intro i hi
      have := World.cell?_setCells_out g [u] j w ⟨g, i, none⟩ (by intro _ _; simp; omega)
      simpa [World.setCells] using this
    refine .inr ⟨g, cap, rfl, hb, by simpa [World.setCell] using hl, hn, hm, fun i hi => ⟨?_, by rw [World.frozen?_setCell]; exact (hc i hi).2⟩, fun i v' hi => ?_⟩
    · by_cases e : i = j
      · subst e; rw [hsame]; rfl
      · rw [hoth i e]; exact (hc i hi).1
    · by_cases e : i = j
      · subst e
        rw [List.getElem?_set_self hj] at hi
        injection hi with hi
        rw [hsame, hi]
      · rw [List.getElem?_set_ne (Ne.symm e)] at hi
        rw [hoth i e]; exact hx i v' hi
theorem Own.cell {g cap : Nat} (h : Own w base sz (.slice (some ⟨g, 0, none⟩) n cap) n xs) {j : Nat} {u : Value} (hj : xs[j]? = some u) : w.cell? ⟨g, j, none⟩ = some u ∧ w.frozen? ⟨g, j, none⟩ = false := by
  obtain ⟨h1, h2⟩ := h
  rcases h2 with ⟨h2, _⟩ | ⟨g', cap', h2, hb, hl, hn, hm, hc, hx⟩
  · simp at h2
  · simp at h2
    obtain ⟨rfl, rfl⟩ := h2
    have hjl := (List.getElem?_eq_some_iff.1 hj).1
    rw [h1] at hjl
    exact ⟨hx j u hj, (hc j (Nat.lt_of_lt_of_le hjl (Nat.mul_le_mul_right _ hn))).2⟩
end

/-- []byte(s) is a row of one's own. -/
theorem Own.bytes (W : World) (e : TypeId) (s : ByteArray) (hs : s.size ≤ maxLen) :
    Own (Lib.bytesWorld W e s) W.heap.size 1 (.slice (some ⟨W.heap.size, 0, none⟩) s.size (grownCap W s.size 0 e)) s.size (bcells s.data.toList) := by
  refine ⟨by simp [bcells], .inr ⟨_, _, rfl, Nat.le_refl _, by rw [Lib.bytesWorld_size]; omega, grownCap_ge W _ _ _, grownCap_le_maxLen W _ _ _ hs, fun j hj => ?_, fun j u hu => ?_⟩⟩
  · have hcs : (Lib.bytesCells W e s).size = grownCap W s.size 0 e := by
      have := grownCap_ge W s.size 0 e
      simp [Lib.bytesCells]
      omega
    have hb := Lib.bytesWorld_at_new W e s
    rw [Nat.mul_one] at hj
    refine ⟨?_, ?_⟩
    · simp only [World.cell?, hb]
      simp [hcs, hj]
    · simp only [World.frozen?, hb]
      simp
      omega
  · have := bytes_row W e s
    obtain ⟨ad, he, hc⟩ := this.get hu
    simp only [Option.some.injEq] at he
    subst he
    rwa [add0] at hc

/-- append(v, x...): v a row of one's own, x any row. -/
theorem run_appO {P : Program} {t e : TypeId} {size bytes : Nat} (E : El P t e size bytes) (W : World) (base : Nat) (ty : TypeId) (v : Value) (n : Nat) (xs : List Value) (hown : Own W base size v n xs)
    (A : Option Addr) (m c : Nat) (news : List Value) (hl : news.length = m * size) (hR : RowAt W A news) (h1 : ∀ u ∈ news, u.oneCell' = true)
    (hbytes : (n + m) * bytes ≤ 140737488355328) (hbase : base ≤ W.heap.size) :
    ∃ v' w', (Builtin.append_ #[t, t] ty #[v, .slice A m c]).run P W = .ok v' w' ∧ Own w' base size v' (n + m) (xs ++ news) ∧ W.grownBy w' v.ownBlock ∧ (v'.ownBlock = v.ownBlock ∨ ∃ b, v'.ownBlock = some b ∧ W.heap.size ≤ b) := by
  rcases hown.2 with ⟨rfl, rfl⟩ | ⟨g, cap, rfl, hb, hg, hn, hm, hc, hx⟩
  · obtain rfl : xs = [] := List.eq_nil_of_length_eq_zero (by simpa using hown.1)
    obtain ⟨v', w', hr, h2, h3, h4⟩ := run_app E W base ty (.slice none 0 0) 0 [] (World.ownsRow_nil _ _ _ _) A m c news hl hR h1 hbytes hbase
    refine ⟨v', w', hr, Own.of_row h2, h3, ?_⟩
    rcases h4 with h4 | h4
    · exact .inl h4
    · exact .inr ⟨_, h4, Nat.le_refl _⟩
  · obtain ⟨ht, hsz, hb0, i, z, hi, hz, rfl, rfl, hzs⟩ := E
    have hlen : n + m ≤ 140737488355328 := Nat.le_trans (Nat.le_mul_of_pos_right _ hb0) hbytes
    rcases A with _ | ad
    · have hm0 : m = 0 := by
        rcases hR with rfl | ⟨ad, h, _⟩
        · rcases Nat.eq_zero_or_pos m with h0 | h0
          · exact h0
          · have := Nat.mul_pos h0 hsz
            simp at hl; omega
        · cases h
      subst hm0
      obtain rfl : news = [] := List.eq_nil_of_length_eq_zero (by simpa using hl)
      refine ⟨_, W, ?_, by simpa using hown, World.grownBy.refl W _, .inl rfl⟩
      simp [Builtin.append_, run_underlying ht, sizeOf, typeInfo, hi, Builtin.lenOf, Builtin.firstCells, hn, storeCells]
    · have hcells : ∀ j u, news[j]? = some u → W.cell? (ad.add j) = some u := by
        intro j u hu
        obtain ⟨ad', h, hc⟩ := hR.get hu
        injection h with h
        subst h
        exact hc
      by_cases hroom : n + m ≤ cap
      · have hin : ∀ j, j < news.length → n * i.size + j < cap * i.size := by
          intro j hj
          rw [hl] at hj
          have := Nat.mul_le_mul_right i.size hroom
          rw [Nat.add_mul] at this
          omega
        have hr := run_append_room_cells (P := P) W t ty e i ht hi g 0 n cap ad m c news hl hcells h1 hroom (fun j hj => by rw [Nat.zero_add]; exact (hc _ (hin j hj)).1) (fun j hj => by rw [Nat.zero_add]; exact (hc _ (hin j hj)).2)
        rw [Nat.zero_add] at hr
        refine ⟨_, _, hr, ⟨by rw [List.length_append, hown.1, hl, Nat.add_mul], .inr ⟨g, cap, rfl, hb, Nat.lt_of_lt_of_le hg (grownBy_setCells g _ _ W).size, hroom, hm, fun j hj => ?_, fun j u hu => ?_⟩⟩, grownBy_setCells g _ _ W, .inl rfl⟩
        · refine ⟨?_, by rw [World.frozen?_setCells]; exact (hc j hj).2⟩
          by_cases hjn : n * i.size ≤ j ∧ j < n * i.size + news.length
          · have := World.cell?_setCells_in g news (n * i.size) W (fun k hk => (hc _ (hin k hk)).1) (j - n * i.size) (by omega)
            rw [show n * i.size + (j - n * i.size) = j by omega] at this
            rw [this]; rfl
          · rw [World.cell?_setCells_out g news _ W ⟨g, j, none⟩ (by intro _ _; simp only; omega)]
            exact (hc j hj).1
        · have hxl : xs.length = n * i.size := hown.1
          rcases Nat.lt_or_ge j xs.length with hj | hj
          · rw [List.getElem?_append_left hj] at hu
            rw [World.cell?_setCells_out g news _ W ⟨g, j, none⟩ (by intro _ _; simp only; omega)]
            exact hx j u hu
          · rw [List.getElem?_append_right hj] at hu
            have hjl := (List.getElem?_eq_some_iff.1 hu).1
            have := World.cell?_setCells_in g news (n * i.size) W (fun k hk => (hc _ (hin k hk)).1) (j - xs.length) hjl
            rw [show n * i.size + (j - xs.length) = j by omega] at this
            rw [this, ← hu, List.getElem?_eq_getElem hjl]
      · obtain ⟨v', w', hr, h2, h3⟩ := run_append_arg_grows (P := P) W t ty e i z i.size i.bytes ht hi hz rfl rfl hzs hsz ⟨g, 0, none⟩ n cap xs hown.1 (fun j u hu => by rw [add0]; exact hx j u hu) ad m c news hl hcells (by omega) (by simp only [maxLen]; omega) hbytes
        have hO := Own.of_row h2
        have hnm : 0 < n + m := by omega
        obtain ⟨g', cap', rfl, hb', _⟩ := hO.form hnm
        exact ⟨_, w', hr, hO.weaken hbase, ⟨h3.os, h3.tape, h3.output, h3.size, fun k hk _ => h3.block k hk (by simp)⟩, .inr ⟨g', rfl, hb'⟩⟩

section
variable {P : Program} {ops : Array Oper} {rest : List Oper} {o : Oper} {a : Act} {Q : Exit → Act → World → Prop}
/-- The same as a step of the walk, behind 'at_builtin'. -/
theorem appO {t e : TypeId} {size bytes : Nat} (E : El P t e size bytes) {W : World} (base : Nat) (hgd : o.guard = none) (s x : Operand)
    (ho : o.op = .call { callee := .builtin .append, args := #[s, x], argTypes := #[t, t] })
    {v : Value} {n : Nat} {xs : List Value} (hs : a.eval s = v) (hown : Own W base size v n xs)
    {A : Option Addr} {m c : Nat} {news : List Value} (hx : a.eval x = .slice A m c) (hl : news.length = m * size) (hR : RowAt W A news) (h1 : ∀ u ∈ news, u.oneCell' = true)
    (hbytes : (n + m) * bytes ≤ 140737488355328) (hbase : base ≤ W.heap.size)
    (h : ∀ v' w', Own w' base size v' (n + m) (xs ++ news) → W.grownBy w' v.ownBlock → (v'.ownBlock = v.ownBlock ∨ ∃ b, v'.ownBlock = some b ∧ W.heap.size ≤ b) → wpList P ops Q rest (a.put o.dst v') w') :
    wpList P ops Q (o :: rest) a W := by
  obtain ⟨v', w', hr, h2, h3, h4⟩ := run_appO E W base o.type v n xs hown A m c news hl hR h1 hbytes hbase
  refine wpList_plain hgd fun K hK => ?_
  unfold Oper.wp execOp
  simp only [ho, resolve, invoke, builtin, Sem.run_bind, Sem.run_pure, Result.andThen_ok, List.map_toArray, List.map_cons, List.map_nil, hs, hx, hr]
  exact hK _ _ (h v' w' h2 h3 h4)
end
theorem Own.grown_below {w w1 w2 : World} {base sz n : Nat} {v : Value} {xs : List Value} (h : Own w1 base sz v n xs) (hb : Below w.heap.size w w1) (hg : w1.grownBy w2 v.ownBlock) (hbase : w.heap.size ≤ base) : Below w.heap.size w w2 :=
  hb.grown hg hb.size fun k hk => Nat.le_trans hbase (h.lt k hk).1
end Go.Proofs.YtbkankpfkbafdaaDoor

/- Package masonrybook: texts in rows, joined, lent, held against each other. -/
namespace Go.Proofs.YtbkankpfkbafdaaDoor
open Go.RowKit

def roomI : Int → List Int → Int
  | left, [] => left
  | left, x :: r => if left < 0 ∨ left < x then -1 else roomI (left - x) r

set_option maxHeartbeats 400000 in
theorem room_calls (left : Int) (A : Option Addr) (c : Nat) (l : List Int) (w : World) (h0 : -1 ≤ left) (h1 : left ≤ 4000000000000000000) (hn : l.length ≤ 4000000000000000000) (hp : ∀ x ∈ l, 0 ≤ x) (hR : RowAt w A (icells l)) :
    Calls Tryd.prog 40 #[.int .i64 left, .slice A l.length c] w fun e w' => e = .returned (.int .i64 (roomI left l)) ∧ w = w' := by
  have HR := Lib.hid hR; clear hR
  have HP := Lib.hid hp; clear hp
  go_enter Tryd.func40, Tryd.ntmps40
  go_wp2
  go_loop [0, 5] (fun x i => ∃ k : Nat, ∃ cur : Int, k ≤ l.length ∧ -1 ≤ cur ∧ cur ≤ 4000000000000000000 ∧ i = .int .i64 k ∧ x = .int .i64 cur ∧ Hid (roomI left l = roomI cur (l.drop k))) (fun _ i => l.length - (intOf i).toNat)
  case atStart => exact ⟨0, left, Nat.zero_le _, h0, h1, rfl, rfl, rfl⟩
  case round =>
    obtain ⟨k, cur, hk, hc0, hc1, rfl, rfl, HC⟩ := hrel
    by_cases hlt : k < l.length
    · obtain ⟨x, hx⟩ := some_at hlt
      obtain ⟨ad, rfl, hc⟩ := HR.out.get (icells_at hx)
      have hx0 : 0 ≤ x := HP.out x (List.mem_of_getElem? hx)
      have HD : Hid (l.drop k = x :: l.drop (k + 1)) := by
        rw [List.getElem?_eq_some_iff] at hx
        obtain ⟨h, rfl⟩ := hx
        exact List.drop_eq_getElem_cons h
      clear hx
      by_cases c1 : cur < 0
      · go_wp2
        go_ret
        exact ⟨ret_int (by rw [HC.out, HD.out, roomI, if_pos (.inl c1)]), rfl⟩
      by_cases c2 : cur < x
      · go_wp2
        go_ret
        exact ⟨ret_int (by rw [HC.out, HD.out, roomI, if_pos (.inr c2)]), rfl⟩
      go_wp2
      go_round
      case rel => exact ⟨k + 1, cur - x, by omega, by omega, by omega, by go_num, rfl, by rw [Hid, HC.out, HD.out, roomI, if_neg (by omega)]⟩
      case measure => simp [intOf]; omega
    · go_wp2
      go_ret
      exact ⟨ret_int (by rw [HC.out, List.drop_eq_nil_of_le (by omega), roomI]), rfl⟩

theorem roomI_one (left x : Int) (h0 : 0 ≤ left) : roomI left [x] = if left < x then -1 else left - x := by
  rw [roomI, roomI]
  by_cases h : left < x
  · rw [if_pos (.inr h), if_pos h]
  · rw [if_neg (by omega), if_neg h]

/-- How many bytes texts have together. -/
def totalLen (l : List ByteArray) : Int := (l.map fun s => (s.size : Int)).sum
theorem totalLen_snoc (l : List ByteArray) (s : ByteArray) : totalLen (l ++ [s]) = totalLen l + s.size := by simp [totalLen, List.sum_append]
theorem totalLen_nonneg (l : List ByteArray) : 0 ≤ totalLen l := by
  induction l with
  | nil => simp [totalLen]
  | cons a l ih => simp only [totalLen, List.map_cons, List.sum_cons] at *; omega
theorem totalLen_take_le (l : List ByteArray) (k : Nat) : totalLen (l.take k) ≤ totalLen l := by
  conv => rhs; rw [← List.take_append_drop k l]
  have : totalLen (l.take k ++ l.drop k) = totalLen (l.take k) + totalLen (l.drop k) := by simp only [totalLen, List.map_append, List.sum_append]
  have := totalLen_nonneg (l.drop k)
  omega

def shortB (few room : Int) (l : List ByteArray) : Bool := decide ((l.length : Int) ≤ few ∧ totalLen l ≤ room)

set_option maxHeartbeats 800000 in
theorem short_calls (few room : Int) (A : Option Addr) (c : Nat) (l : List ByteArray) (w : World) (h0 : 0 ≤ room) (h1 : room ≤ 4000000000000000000) (hn : l.length ≤ 4000000000000000000)
    (hs : ∀ s ∈ l, s.size ≤ 140737488351232) (hR : RowAt w A (scells l)) :
    Calls Tryd.prog 12 #[.int .i64 few, .int .i64 room, .slice A l.length c] w fun e w' => e = .returned (.bool (shortB few room l)) ∧ Below w.heap.size w w' := by
  have HR := Lib.hid hR; clear hR
  have HS := Lib.hid hs; clear hs
  by_cases hfew : (l.length : Int) ≤ few
  case neg =>
    have hb : shortB few room l = false := by simp [shortB]; omega
    rw [hb]
    go_enter Tryd.func12, Tryd.ntmps12
    go_wp2
    go_ret
    exact ⟨rfl, Below.refl _ _⟩
  have HB : Hid (shortB few room l = decide (totalLen l ≤ room)) := by simp [Hid, shortB, hfew]
  go_enter Tryd.func12, Tryd.ntmps12
  go_wp2
  go_loopw [1, 7] (fun x i wr => ∃ k : Nat, ∃ cur : Int, k ≤ l.length ∧ -1 ≤ cur ∧ cur ≤ room ∧ i = .int .i64 k ∧ x = .int .i64 cur ∧ Hid (cur = room - totalLen (l.take k) ∨ cur = -1 ∧ room < totalLen l) ∧ Hid (Below w.heap.size w wr)) (fun _ i _ => l.length - (intOf i).toNat)
  case atStart => exact ⟨0, room, Nat.zero_le _, by omega, Int.le_refl _, rfl, rfl, .inl (by simp [totalLen]), Below.refl _ _⟩
  case round =>
    obtain ⟨k, cur, hk, hc0, hc1, rfl, rfl, HC, HW⟩ := hrel
    by_cases hneg : cur < 0
    · obtain rfl : cur = -1 := by omega
      have HF : Hid (decide (totalLen l ≤ room) = false) := by
        rcases HC.out with h | h
        · have := totalLen_take_le l k; simp [Hid]; omega
        · simp [Hid]; omega
      by_cases hlt : k < l.length
      all_goals
        go_wp2
        go_ret
        exact ⟨ret_bool (HB.out.trans HF.out).symm, HW.out⟩
    by_cases hlt : k < l.length
    · obtain ⟨x, hx⟩ := some_at hlt
      obtain ⟨ad, rfl, hc⟩ := (HR.out.below HW.out).get (scells_at hx)
      have hxs : x.size ≤ 140737488351232 := HS.out x (List.mem_of_getElem? hx)
      have HX := Lib.hid hx; clear hx
      have hr := room_calls cur (some ⟨wr.heap.size, 0, none⟩) 1 [(x.size : Int)] (wr.alloc (.cells #[.int .i64 x.size] 3)) (by omega) (by omega) (by simp) (by intro y hy; simp at hy; omega) (rowAt_alloc wr [.int .i64 x.size] _)
      have HRo := Lib.hid hr; clear hr
      go_wp2_with (go_at_call 40; refine Calls.mono HRo.out ?_; rintro e w' ⟨rfl, rfl⟩)
      go_roundw
      case rel =>
        refine ⟨k + 1, roomI cur [(x.size : Int)], by omega, ?_, ?_, by go_num, rfl, ?_, HW.out.alloc (HW.out.size) _⟩
        · rw [roomI_one _ _ (by omega)]; split <;> omega
        · rw [roomI_one _ _ (by omega)]; split <;> omega
        · rw [roomI_one _ _ (by omega), Hid, take_snoc_of HX.out, totalLen_snoc]
          have h2 := totalLen_take_le l (k + 1)
          rw [take_snoc_of HX.out, totalLen_snoc] at h2
          rcases HC.out with h | h
          · split
            · right; omega
            · left; omega
          · omega
      case measure => simp [intOf]; omega
    · go_wp2
      go_ret
      refine ⟨ret_bool ?_, HW.out⟩
      rw [HB.out]
      rcases HC.out with h | h
      · rw [List.take_of_length_le (by omega)] at h
        simp; omega
      · omega

/-- All texts, one behind the other. -/
def joinB (l : List ByteArray) : ByteArray := l.foldl (· ++ ·) ByteArray.empty
theorem joinB_snoc (l : List ByteArray) (s : ByteArray) : joinB (l ++ [s]) = joinB l ++ s := by simp [joinB, List.foldl_append]
theorem joinB_size (l : List ByteArray) : ((joinB l).size : Int) = totalLen l := by
  have key : ∀ (l : List ByteArray) (a : ByteArray), ((l.foldl (· ++ ·) a).size : Int) = a.size + totalLen l := by
    intro l
    induction l with
    | nil => intro a; simp [totalLen]
    | cons s l ih => intro a; rw [List.foldl_cons, ih, ByteArray.size_append]; simp [totalLen]; omega
  have := key l ByteArray.empty
  simpa [joinB] using this

set_option maxHeartbeats 400000 in
theorem join_calls (A : Option Addr) (c : Nat) (l : List ByteArray) (w : World) (hn : l.length ≤ 4000000000000000000) (hs : totalLen l ≤ 140737488351232) (hR : RowAt w A (scells l)) :
    Calls Tryd.prog 15 #[.slice A l.length c] w fun e w' => e = .returned (.string (joinB l)) ∧ w = w' := by
  have HR := Lib.hid hR; clear hR
  have HS := Lib.hid hs; clear hs
  go_enter Tryd.func15, Tryd.ntmps15
  go_wp2
  go_loop [3, 4] (fun x i => ∃ k : Nat, k ≤ l.length ∧ i = .int .i64 k ∧ x = .string (joinB (l.take k))) (fun _ i => l.length - (intOf i).toNat)
  case atStart => exact ⟨0, Nat.zero_le _, rfl, rfl⟩
  case round =>
    obtain ⟨k, hk, rfl, rfl⟩ := hrel
    by_cases hlt : k < l.length
    · obtain ⟨x, hx⟩ := some_at hlt
      obtain ⟨ad, rfl, hc⟩ := HR.out.get (scells_at hx)
      have HX : Hid (joinB (l.take (k + 1)) = joinB (l.take k) ++ x) := by rw [Hid, take_snoc_of hx, joinB_snoc]
      have hb : (joinB (l.take k)).size + x.size ≤ 9223372036854775807 := by
        have h1 := totalLen_take_le l (k + 1)
        rw [take_snoc_of hx, totalLen_snoc, ← joinB_size] at h1
        have := HS.out
        omega
      clear hx
      go_wp2
      go_round
      case rel => exact ⟨k + 1, by omega, by go_num, by rw [HX.out]⟩
      case measure => simp [intOf]; omega
    · go_wp2
      go_ret
      exact ⟨ret_str (by rw [List.take_of_length_le (by omega)]), rfl⟩

theorem el_texts : El Tryd.prog 36 9 1 16 := El.mk' Tryd.underlying36 (z := .string ByteArray.empty) (by kernel_rfl) (by decide)

set_option maxHeartbeats 400000 in
theorem copyTexts_calls (A : Option Addr) (c : Nat) (l : List ByteArray) (w : World) (hn : l.length * 16 ≤ 140737488351232) (hR : RowAt w A (scells l)) :
    Calls Tryd.prog 41 #[.slice A l.length c] w fun e w' => ∃ v, e = .returned v ∧ w'.ownsRow w.heap.size 9 1 v l.length (scells l) ∧ Below w.heap.size w w' := by
  go_enter Tryd.func41, Tryd.ntmps41
  go_wp2_with (at_builtin; refine app_row el_texts w.heap.size rfl _ _ rfl (v := .slice none 0 0) (n := 0) (xs := []) rfl (World.ownsRow_nil _ _ _ _) rfl (news := scells l) (by simp [scells]) hR (one_scells l) (by omega) (Nat.le_refl _) ?_; intro v1 w1 hown1 hg1 _)
  go_ret
  exact ⟨_, rfl, by simpa using hown1, (Below.refl _ _).grown hg1 (Nat.le_refl _) (by simp [Value.ownBlock])⟩

theorem eq_of_take {α : Type} {a b : List α} (h : a.take a.length = b.take a.length) (hl : a.length = b.length) : a = b := by
  rw [List.take_length, hl, List.take_length] at h
  exact h
theorem take_eq_snoc {α : Type} {a b : List α} {k : Nat} {x : α} (ha : a[k]? = some x) (hb : b[k]? = some x) (h : a.take k = b.take k) : a.take (k + 1) = b.take (k + 1) := by
  rw [take_snoc_of ha, take_snoc_of hb, h]

set_option maxHeartbeats 800000 in
theorem sameTexts_calls (A B : Option Addr) (c d : Nat) (l m : List ByteArray) (w : World) (hn : l.length ≤ 4000000000000000000) (hR : RowAt w A (scells l)) (hS : RowAt w B (scells m)) :
    Calls Tryd.prog 47 #[.slice A l.length c, .slice B m.length d] w fun e w' => e = .returned (.bool (decide (l = m))) ∧ Below w.heap.size w w' := by
  have HR := Lib.hid hR; clear hR
  have HS := Lib.hid hS; clear hS
  by_cases hlen : l.length = m.length
  case neg =>
    have hb : decide (l = m) = false := by simp; intro h; exact hlen (by rw [h])
    rw [hb]
    go_enter Tryd.func47, Tryd.ntmps47
    go_wp2
    go_ret
    exact ⟨rfl, Below.refl _ _⟩
  have HL := Lib.hid hlen
  rw [← hlen]; clear hlen
  go_enter Tryd.func47, Tryd.ntmps47
  go_wp2
  go_loopw [5] (fun i wr => ∃ k : Nat, k ≤ l.length ∧ i = .int .i64 k ∧ Hid (l.take k = m.take k) ∧ Hid (Below w.heap.size w wr)) (fun i _ => l.length - (intOf i).toNat)
  case atStart => exact ⟨0, Nat.zero_le _, rfl, by simp [Hid], Below.refl _ _⟩
  case round =>
    obtain ⟨k, hk, rfl, HE, HW⟩ := hrel
    by_cases hlt : k < l.length
    · obtain ⟨x, hx⟩ := some_at hlt
      obtain ⟨y, hy⟩ := some_at (show k < m.length by have := HL.out; omega)
      obtain ⟨ad, rfl, hc⟩ := (HR.out.below HW.out).get (scells_at hx)
      obtain ⟨bd, rfl, hd⟩ := (HS.out.below HW.out).get (scells_at hy)
      have HX := Lib.hid hx; clear hx
      have HY := Lib.hid hy; clear hy
      by_cases hxy : x = y
      · subst hxy
        go_wp2_with fail
        go_quiet (fail)
        go_wp2
        go_roundw
        case rel => exact ⟨k + 1, by omega, by go_num, take_eq_snoc HX.out HY.out HE.out, below_drewN HW.out _⟩
        case measure => simp [intOf]; omega
      · have HF : Hid (decide (l = m) = false) := by
          simp only [Hid, decide_eq_false_iff_not]
          intro h
          have h1 := HX.out
          rw [h, HY.out] at h1
          exact hxy (by injection h1 with h1; exact h1.symm)
        have hne := str_ne hxy
        go_wp2_with fail
        go_quiet (fail)
        go_wp2
        go_ret
        exact ⟨ret_bool HF.out.symm, below_drewN HW.out _⟩
    · have HT : Hid (decide (l = m) = true) := by
        simp only [Hid, decide_eq_true_iff]
        exact eq_of_take (by have := HE.out; rwa [show k = l.length by omega] at this) HL.out
      go_wp2
      go_ret
      exact ⟨ret_bool HT.out.symm, HW.out⟩

def markB : ByteArray := ⟨#[109, 97, 114, 107]⟩
set_option maxHeartbeats 800000 in
set_option maxRecDepth 100000 in
theorem lentTexts_calls (A : Option Addr) (c : Nat) (l : List ByteArray) (w : World) (hn : (l.length + 1) * 16 ≤ 140737488351232) (hR : RowAt w A (scells l)) :
    Calls Tryd.prog 13 #[.slice A l.length c] w fun e w' => ∃ g cap, e = .returned (.slice (some ⟨g, 0, none⟩) l.length cap) ∧ l.length + 1 ≤ cap ∧ RowAt w' (some ⟨g, 0, none⟩) (scells l ++ [.string markB]) ∧ Below w.heap.size w w' := by
  go_enter Tryd.func13, Tryd.ntmps13
  go_wp2_with fail
  refine (copyTexts_calls A c l w (by omega) hR).mono ?_
  rintro e w1 ⟨v1, rfl, hown1, hb1⟩
  have HO := Lib.hid hown1; clear hown1
  have HB := Lib.hid hb1; clear hb1
  clear hR
  have hz : w.heap.size ≤ w1.heap.size := HB.out.size
  go_wp2_with (at_builtin; refine app_row el_texts w.heap.size rfl _ _ rfl rfl (HO.out.alloc _) (news := [.string markB]) rfl rfl (rowAt_alloc w1 [.string markB] _) (by intro u hu; simp at hu; subst hu; rfl) (by omega) (by simp; omega) ?_; intro v2 w2 hown2 hg2 _; obtain ⟨g, cap, rfl, hg, hcap, hrow⟩ := own_form hown2 (by omega))
  have HR2 := Lib.hid hrow; clear hrow
  have HG := Lib.hid ((HB.out.alloc hz (.cells #[.string markB] 9)).grown hg2 (by simp; omega) (own_base HO.out)); clear hg2
  clear hown2
  go_ret
  exact ⟨g, cap, rfl, hcap, HR2.out, HG.out⟩

def staysB (l was : List ByteArray) (m : ByteArray) : Bool := decide (l = was) && decide (m = markB)
set_option maxHeartbeats 800000 in
theorem staysTexts_calls (A B : Option Addr) (c d : Nat) (l m : List ByteArray) (x : ByteArray) (w : World) (hn : l.length ≤ 4000000000000000000) (hc : l.length + 1 ≤ c) (hR : RowAt w A (scells l ++ [.string x])) (hS : RowAt w B (scells m)) :
    Calls Tryd.prog 26 #[.slice A l.length c, .slice B m.length d] w fun e w' => e = .returned (.bool (decide (l = m) && decide (x = markB))) ∧ Below w.heap.size w w' := by
  obtain ⟨ad, hA, hcell⟩ := hR.get (j := l.length) (u := .string x) (by simp [scells])
  subst hA
  have HC := sameTexts_calls (some ad) B c d l m w hn hR.left hS
  by_cases hlm : l = m
  · have HCC : Hid _ := HC; clear HC
    have hb : decide (l = m) = true := by simpa using hlm
    rw [hb] at HCC ⊢
    have Hlm := Lib.hid hlm; clear hlm hb
    go_enter Tryd.func26, Tryd.ntmps26
    go_wp2_with fail
    refine Calls.mono HCC.out ?_
    rintro e w1 ⟨rfl, hb1⟩
    replace hcell := cell_kept hb1 (Nat.le_refl _) hcell
    have HB := Lib.hid hb1; clear hb1
    clear hR hS HCC
    go_wp2
    go_ret
    exact ⟨ret_bool (by rw [← str_beq]; simp [markB]), HB.out⟩
  · have hb : decide (l = m) = false := by simpa using hlm
    rw [hb] at HC ⊢
    have HCC : Hid _ := HC; clear HC
    clear hlm hb
    go_enter Tryd.func26, Tryd.ntmps26
    go_wp2_with fail
    refine Calls.mono HCC.out ?_
    rintro e w1 ⟨rfl, hb1⟩
    have HB := Lib.hid hb1; clear hb1
    clear hR hS HCC
    go_wp2
    go_ret
    exact ⟨rfl, HB.out⟩
end Go.Proofs.YtbkankpfkbafdaaDoor

/- Words of 32 bits: what the walk's operations on numbers do to them. -/
namespace Go.Proofs.YtbkankpfkbafdaaDoor
open Go.RowKit

theorem w_lt (x : BitVec 32) : x.toNat < 4294967296 := x.isLt
theorem w_xor (x y : BitVec 32) : bits .xor .u32 (x.toNat : Int) (y.toNat : Int) = ((x ^^^ y).toNat : Int) := by
  rw [u32_xor_nat _ _ (w_lt x) (w_lt y), BitVec.toNat_xor]
theorem w_and (x y : BitVec 32) : bits .and .u32 (x.toNat : Int) (y.toNat : Int) = ((x &&& y).toNat : Int) := by
  rw [u32_and_nat _ _ (w_lt x) (w_lt y), BitVec.toNat_and]
theorem w_or (x y : BitVec 32) : bits .or .u32 (x.toNat : Int) (y.toNat : Int) = ((x ||| y).toNat : Int) := by
  rw [u32_or_nat _ _ (w_lt x) (w_lt y), BitVec.toNat_or]
theorem w_not (x : BitVec 32) : bits .xor .u32 4294967295 (x.toNat : Int) = ((~~~x).toNat : Int) := by
  have h := w_xor (BitVec.allOnes 32) x
  rw [show ((BitVec.allOnes 32).toNat : Int) = 4294967295 by decide] at h
  rw [h, BitVec.allOnes_xor]
theorem w_not' (x : BitVec 32) : bits .xor .u32 IntKind.u32.max (x.toNat : Int) = ((~~~x).toNat : Int) := w_not x
theorem w_add (x y : BitVec 32) : IntKind.u32.wrap ((x.toNat : Int) + (y.toNat : Int)) = ((x + y).toNat : Int) := by
  rw [IntKind.wrap_u32', BitVec.toNat_add]; omega
theorem w_shl (x : BitVec 32) (k : Nat) : IntKind.u32.wrap ((x.toNat : Int) * ((2 ^ k : Nat) : Int)) = ((x <<< k).toNat : Int) := by
  rw [IntKind.wrap_u32', BitVec.toNat_shiftLeft, Nat.shiftLeft_eq]
  have e : (2 : Nat) ^ 32 = 4294967296 := by decide
  rw [e]
  generalize 2 ^ k = m
  rw [← Int.natCast_mul]
  omega
theorem w_shr (x : BitVec 32) (k : Nat) : (x.toNat : Int) / ((2 ^ k : Nat) : Int) = ((x >>> k).toNat : Int) := by
  rw [BitVec.toNat_ushiftRight, Nat.shiftRight_eq_div_pow]
  generalize 2 ^ k = m
  exact (Int.natCast_ediv _ _).symm
theorem t_add (x y : BitVec 32) : ((x.toNat : Int) + (y.toNat : Int)) % 4294967296 = ((x + y).toNat : Int) := by
  rw [← w_add, IntKind.wrap_u32']
theorem t_add5 (a b c d e : BitVec 32) : ((a.toNat : Int) + (b.toNat : Int) + (c.toNat : Int) + (d.toNat : Int) + (e.toNat : Int)) % 4294967296 = ((a + b + c + d + e).toNat : Int) := by
  simp only [BitVec.toNat_add]; omega
theorem t_shl (x : BitVec 32) (k : Nat) : (x.toNat : Int) * 2 ^ k % 4294967296 = ((x <<< k).toNat : Int) := by
  have h := w_shl x k
  rw [IntKind.wrap_u32', Int.natCast_pow] at h
  exact h
theorem t_shr (x : BitVec 32) (k : Nat) : (x.toNat : Int) / 2 ^ k = ((x >>> k).toNat : Int) := by
  have h := w_shr x k
  rw [Int.natCast_pow] at h
  exact h
/-- A byte as a word. -/
def bw (b : UInt8) : BitVec 32 := BitVec.ofNat 32 b.toNat
theorem bw_nat (b : UInt8) : (b.toNat : Int) = ((bw b).toNat : Int) := by
  have := b.toNat_lt
  rw [bw, BitVec.toNat_ofNat]; omega
/-- A word is turned to the left. -/
def turn (x : BitVec 32) (k : Nat) : BitVec 32 := x <<< k ||| x >>> (32 - k)
/-- The bytes of a word, the highest one first. -/
def hi4 (x : BitVec 32) : List UInt8 := [UInt8.ofNat (x.toNat / 16777216), UInt8.ofNat (x.toNat / 65536), UInt8.ofNat (x.toNat / 256), UInt8.ofNat x.toNat]
/-- Four bytes as a word, the highest one first. -/
def word4 (a b c d : UInt8) : BitVec 32 := (((bw a <<< 8 ||| bw b) <<< 8 ||| bw c) <<< 8 ||| bw d)
theorem word4_ref (a b c d : UInt8) : bw a <<< 24 ||| bw b <<< 16 ||| bw c <<< 8 ||| bw d = word4 a b c d := by
  simp only [word4, BitVec.shiftLeft_or_distrib, ← BitVec.shiftLeft_add]
def wcells (l : List (BitVec 32)) : List Value := l.map fun x => .int .u32 (x.toNat : Int)
theorem wcells_at {l : List (BitVec 32)} {k : Nat} {x : BitVec 32} (h : l[k]? = some x) : (wcells l)[k]? = some (.int .u32 (x.toNat : Int)) := by simp [wcells, h]
theorem one_wcells (l : List (BitVec 32)) : ∀ u ∈ wcells l, u.oneCell' = true := by intro u hu; obtain ⟨b, _, rfl⟩ := List.mem_map.1 hu; rfl

/-- SHA-1: the words of a block of 64 bytes: sixteen that stand there, then each from those before it. -/
def firstWords (s : List UInt8) : List (BitVec 32) := (List.range 16).map fun t => word4 (s.getD (4 * t) 0) (s.getD (4 * t + 1) 0) (s.getD (4 * t + 2) 0) (s.getD (4 * t + 3) 0)
def oneNext (w : List (BitVec 32)) : BitVec 32 := turn (w.getD (w.length - 3) 0 ^^^ w.getD (w.length - 8) 0 ^^^ w.getD (w.length - 14) 0 ^^^ w.getD (w.length - 16) 0) 1
def oneWords (s : List UInt8) : Nat → List (BitVec 32)
  | 0 => firstWords s
  | n + 1 => oneWords s n ++ [oneNext (oneWords s n)]
structure Five where
  a : BitVec 32
  b : BitVec 32
  c : BitVec 32
  d : BitVec 32
  e : BitVec 32
  deriving DecidableEq
def oneF (t : Nat) (b c d : BitVec 32) : BitVec 32 :=
  if t < 20 then b &&& c ||| ~~~b &&& d else if t < 40 then b ^^^ c ^^^ d else if t < 60 then b &&& c ||| b &&& d ||| c &&& d else b ^^^ c ^^^ d
def oneK (t : Nat) : BitVec 32 := if t < 20 then 0x5a827999 else if t < 40 then 0x6ed9eba1 else if t < 60 then 0x8f1bbcdc else 0xca62c1d6
def oneStep (t : Nat) (w : BitVec 32) (h : Five) : Five :=
  ⟨turn h.a 5 + oneF t h.b h.c h.d + h.e + oneK t + w, h.a, turn h.b 30, h.c, h.d⟩
def oneRounds (w : List (BitVec 32)) (h : Five) : Nat → Five
  | 0 => h
  | n + 1 => oneStep n (w.getD n 0) (oneRounds w h n)
def Five.add (x y : Five) : Five := ⟨x.a + y.a, x.b + y.b, x.c + y.c, x.d + y.d, x.e + y.e⟩
def oneMix (h : Five) (s : List UInt8) : Five := h.add (oneRounds (oneWords s 64) h 80)
def oneBlocks (s : List UInt8) (h : Five) : Nat → Five
  | 0 => h
  | n + 1 => oneMix (oneBlocks s h n) ((s.drop (64 * n)).take 64)
def Five.cells (h : Five) : List (BitVec 32) := [h.a, h.b, h.c, h.d, h.e]
def oneStart : Five := ⟨0x67452301, 0xefcdab89, 0x98badcfe, 0x10325476, 0xc3d2e1f0⟩
/-- The bytes of a number of 64 bits, the highest one first. -/
def hi8 (n : Nat) : List UInt8 := [UInt8.ofNat (n / 72057594037927936), UInt8.ofNat (n / 281474976710656), UInt8.ofNat (n / 1099511627776), UInt8.ofNat (n / 4294967296), UInt8.ofNat (n / 16777216), UInt8.ofNat (n / 65536), UInt8.ofNat (n / 256), UInt8.ofNat n]
def padL (n : Nat) : List UInt8 := 128 :: (List.replicate ((119 - n % 64) % 64) 0 ++ hi8 (8 * n))
def oneSum (s : List UInt8) : List UInt8 :=
  let p := s ++ padL s.length
  (oneBlocks p oneStart (p.length / 64)).cells.flatMap hi4

/-- SHA-256. -/
structure Eight where
  a : BitVec 32
  b : BitVec 32
  c : BitVec 32
  d : BitVec 32
  e : BitVec 32
  f : BitVec 32
  g : BitVec 32
  i : BitVec 32
  deriving DecidableEq
def twoKeys : List (BitVec 32) := [
  0x428a2f98, 0x71374491, 0xb5c0fbcf, 0xe9b5dba5, 0x3956c25b, 0x59f111f1, 0x923f82a4, 0xab1c5ed5,
  0xd807aa98, 0x12835b01, 0x243185be, 0x550c7dc3, 0x72be5d74, 0x80deb1fe, 0x9bdc06a7, 0xc19bf174,
  0xe49b69c1, 0xefbe4786, 0x0fc19dc6, 0x240ca1cc, 0x2de92c6f, 0x4a7484aa, 0x5cb0a9dc, 0x76f988da,
  0x983e5152, 0xa831c66d, 0xb00327c8, 0xbf597fc7, 0xc6e00bf3, 0xd5a79147, 0x06ca6351, 0x14292967,
  0x27b70a85, 0x2e1b2138, 0x4d2c6dfc, 0x53380d13, 0x650a7354, 0x766a0abb, 0x81c2c92e, 0x92722c85,
  0xa2bfe8a1, 0xa81a664b, 0xc24b8b70, 0xc76c51a3, 0xd192e819, 0xd6990624, 0xf40e3585, 0x106aa070,
  0x19a4c116, 0x1e376c08, 0x2748774c, 0x34b0bcb5, 0x391c0cb3, 0x4ed8aa4a, 0x5b9cca4f, 0x682e6ff3,
  0x748f82ee, 0x78a5636f, 0x84c87814, 0x8cc70208, 0x90befffa, 0xa4506ceb, 0xbef9a3f7, 0xc67178f2]
def twoNext (w : List (BitVec 32)) : BitVec 32 :=
  w.getD (w.length - 16) 0 + w.getD (w.length - 7) 0 + (turn (w.getD (w.length - 15) 0) 25 ^^^ turn (w.getD (w.length - 15) 0) 14 ^^^ w.getD (w.length - 15) 0 >>> 3) + (turn (w.getD (w.length - 2) 0) 15 ^^^ turn (w.getD (w.length - 2) 0) 13 ^^^ w.getD (w.length - 2) 0 >>> 10)
def twoWords (s : List UInt8) : Nat → List (BitVec 32)
  | 0 => firstWords s
  | n + 1 => twoWords s n ++ [twoNext (twoWords s n)]
def twoX (h : Eight) (k w : BitVec 32) : BitVec 32 := h.i + (turn h.e 26 ^^^ turn h.e 21 ^^^ turn h.e 7) + (h.e &&& h.f ^^^ ~~~h.e &&& h.g) + k + w
def twoY (h : Eight) : BitVec 32 := turn h.a 30 ^^^ turn h.a 19 ^^^ turn h.a 10
def twoZ (h : Eight) : BitVec 32 := h.a &&& h.b ^^^ h.a &&& h.c ^^^ h.b &&& h.c
def twoStep (k w : BitVec 32) (h : Eight) : Eight :=
  ⟨twoX h k w + (twoY h + twoZ h), h.a, h.b, h.c, h.d + twoX h k w, h.e, h.f, h.g⟩
def twoRounds (w : List (BitVec 32)) (h : Eight) : Nat → Eight
  | 0 => h
  | n + 1 => twoStep (twoKeys.getD n 0) (w.getD n 0) (twoRounds w h n)
def Eight.add (x y : Eight) : Eight := ⟨x.a + y.a, x.b + y.b, x.c + y.c, x.d + y.d, x.e + y.e, x.f + y.f, x.g + y.g, x.i + y.i⟩
def twoMix (h : Eight) (s : List UInt8) : Eight := h.add (twoRounds (twoWords s 48) h 64)
def twoBlocks (s : List UInt8) (h : Eight) : Nat → Eight
  | 0 => h
  | n + 1 => twoMix (twoBlocks s h n) ((s.drop (64 * n)).take 64)
def Eight.cells (h : Eight) : List (BitVec 32) := [h.a, h.b, h.c, h.d, h.e, h.f, h.g, h.i]
def twoStart : Eight := ⟨0x6a09e667, 0xbb67ae85, 0x3c6ef372, 0xa54ff53a, 0x510e527f, 0x9b05688c, 0x1f83d9ab, 0x5be0cd19⟩
def twoSum (s : List UInt8) : List UInt8 :=
  let p := s ++ padL s.length
  (twoBlocks p twoStart (p.length / 64)).cells.flatMap hi4
end Go.Proofs.YtbkankpfkbafdaaDoor

/- Package shaone: what each function computes. -/
namespace Go.Proofs.YtbkankpfkbafdaaDoor
open Go.RowKit

set_option maxHeartbeats 400000 in
theorem rot_calls (x : BitVec 32) (k : Int) (m : Nat) (hk : bits BinOp.and IntKind.u64 (IntKind.u64.wrap k) 31 = (m : Int)) (hm : m < 32) (w : World) : Calls Tryd.prog 68 #[.int .u32 (x.toNat : Int), .int .i64 k] w fun e w' => e = .returned (.int .u32 ((turn x m).toNat : Int)) ∧ w = w' := by
  go_enter Tryd.func68, Tryd.ntmps68
  go_wp2
  go_ret
  exact ⟨ret_int (by rw [t_shl, t_shr, w_or]; rfl), rfl⟩
theorem rot1_calls (x : BitVec 32) (w : World) : Calls Tryd.prog 68 #[.int .u32 (x.toNat : Int), .int .i64 1] w fun e w' => e = .returned (.int .u32 ((turn x 1).toNat : Int)) ∧ w = w' := rot_calls x 1 1 (by decide) (by omega) w
theorem rot5_calls (x : BitVec 32) (w : World) : Calls Tryd.prog 68 #[.int .u32 (x.toNat : Int), .int .i64 5] w fun e w' => e = .returned (.int .u32 ((turn x 5).toNat : Int)) ∧ w = w' := rot_calls x 5 5 (by decide) (by omega) w
theorem rot30_calls (x : BitVec 32) (w : World) : Calls Tryd.prog 68 #[.int .u32 (x.toNat : Int), .int .i64 30] w fun e w' => e = .returned (.int .u32 ((turn x 30).toNat : Int)) ∧ w = w' := rot_calls x 30 30 (by decide) (by omega) w

set_option maxHeartbeats 800000 in
theorem round_calls (t : Nat) (b c d : BitVec 32) (w : World) (ht : t < 80) : Calls Tryd.prog 69 #[.int .i64 t, .int .u32 (b.toNat : Int), .int .u32 (c.toNat : Int), .int .u32 (d.toNat : Int)] w fun e w' => e = .returned (.tuple #[.int .u32 ((oneF t b c d).toNat : Int), .int .u32 ((oneK t).toNat : Int)]) ∧ w = w' := by
  have key : ∀ q : Int, (t : Int) / 20 = q → Calls Tryd.prog 69 #[.int .i64 t, .int .u32 (b.toNat : Int), .int .u32 (c.toNat : Int), .int .u32 (d.toNat : Int)] w fun e w' => e = .returned (.tuple #[.int .u32 ((oneF t b c d).toNat : Int), .int .u32 ((oneK t).toNat : Int)]) ∧ w = w' := by
    intro q hq
    by_cases h1 : q = 0
    · subst h1
      have HF : Hid (oneF t b c d = (b &&& c ||| ~~~b &&& d)) := by rw [Hid, oneF, if_pos (by omega)]
      have HK : Hid (oneK t = 0x5a827999) := by rw [Hid, oneK, if_pos (by omega)]
      go_enter Tryd.func69, Tryd.ntmps69
      go_wp2
      go_ret2
      rw [HF.out, HK.out, w_and, w_not', w_and, w_or]
      exact ⟨rfl, rfl⟩
    · have b1 : (q == 0) = false := by simpa using h1
      by_cases h2 : q = 1
      · subst h2
        have HF : Hid (oneF t b c d = (b ^^^ c ^^^ d)) := by rw [Hid, oneF, if_neg (by omega), if_pos (by omega)]
        have HK : Hid (oneK t = 0x6ed9eba1) := by rw [Hid, oneK, if_neg (by omega), if_pos (by omega)]
        clear h1 b1
        go_enter Tryd.func69, Tryd.ntmps69
        go_wp2
        go_ret2
        rw [HF.out, HK.out, w_xor, w_xor]
        exact ⟨rfl, rfl⟩
      · have b2 : (q == 1) = false := by simpa using h2
        by_cases h3 : q = 2
        · subst h3
          have HF : Hid (oneF t b c d = (b &&& c ||| b &&& d ||| c &&& d)) := by rw [Hid, oneF, if_neg (by omega), if_neg (by omega), if_pos (by omega)]
          have HK : Hid (oneK t = 0x8f1bbcdc) := by rw [Hid, oneK, if_neg (by omega), if_neg (by omega), if_pos (by omega)]
          clear h1 b1 h2 b2
          go_enter Tryd.func69, Tryd.ntmps69
          go_wp2
          go_ret2
          rw [HF.out, HK.out, w_and, w_and, w_and, w_or, w_or]
          exact ⟨rfl, rfl⟩
        · have b3 : (q == 2) = false := by simpa using h3
          have HF : Hid (oneF t b c d = (b ^^^ c ^^^ d)) := by rw [Hid, oneF, if_neg (by omega), if_neg (by omega), if_neg (by omega)]
          have HK : Hid (oneK t = 0xca62c1d6) := by rw [Hid, oneK, if_neg (by omega), if_neg (by omega), if_neg (by omega)]
          clear h1 h2 h3
          go_enter Tryd.func69, Tryd.ntmps69
          go_wp2
          go_ret2
          rw [HF.out, HK.out, w_xor, w_xor]
          exact ⟨rfl, rfl⟩
  exact key _ rfl
end Go.Proofs.YtbkankpfkbafdaaDoor

/- shaone.mix. -/
namespace Go.Proofs.YtbkankpfkbafdaaDoor
open Go.RowKit

theorem Own.fresh (w : World) (cs : Array Value) (t : TypeId) (hc : cs.size ≤ maxLen) : Own (w.alloc (.cells cs t)) w.heap.size 1 (.slice (some ⟨w.heap.size, 0, none⟩) cs.size cs.size) cs.size cs.toList := by
  have hb : (w.alloc (.cells cs t)).heap[w.heap.size]? = some (.cells cs t (0, 0)) := heap_alloc_new w _
  refine ⟨by simp, .inr ⟨_, _, rfl, Nat.le_refl _, by simp, Nat.le_refl _, hc, fun j hj => ⟨?_, frozen_of_row _ _ j cs t hb⟩, fun j u hu => ?_⟩⟩
  · rw [cell_of_row _ _ j cs t (0, 0) hb]
    simpa using hj
  · rw [cell_of_row _ _ j cs t (0, 0) hb]
    simpa using hu
theorem Own.drew {w : World} {base sz n : Nat} {v : Value} {xs : List Value} (h : Own w base sz v n xs) : Own w.drew base sz v n xs := h
theorem Own.drewN {w : World} {base sz n : Nat} {v : Value} {xs : List Value} (h : Own w base sz v n xs) (k : Nat) : Own (w.drewN k) base sz v n xs := h

theorem results_cell_mid {P : Program} {fn : Func} {p : Tmp} {ty : TypeId} (h : fn.results = #[.cell p ty]) (tmps : Array Value) (w : World) (g : Nat) (cs : List Value) (d : TypeDesc)
    (hp : tmps.getD p undef = .pointer (some ⟨g, 0, none⟩)) (hc : w.rangeAt g 0 cs)
    (hu : P.underlying ty = some d) (hd : d.isRow = true) (hi : (P.info? ty).map (·.size) = some cs.length) :
    (results fn tmps).run P w = .ok (.agg cs.toArray) w := by
  have hp' : tmps[p]?.getD undef = .pointer (some ⟨g, 0, none⟩) := by simpa using hp
  simp [results, h, hp', asAddr, run_loadVar_mid w g 0 ty cs d hc hu hd hi]
/-- The words of an array, told by a function. -/
def fw (f : Nat → BitVec 32) (n : Nat) : List Value := wcells ((List.range n).map f)
theorem fw_at (f : Nat → BitVec 32) {n k : Nat} (h : k < n) : (fw f n)[k]? = some (.int .u32 ((f k).toNat : Int)) := by simp [fw, wcells, h]
theorem fw_set (f : Nat → BitVec 32) (n k : Nat) (x : BitVec 32) : (fw f n).set k (.int .u32 (x.toNat : Int)) = fw (fun j => if j = k then x else f j) n := by
  apply List.ext_getElem?
  intro i
  rw [List.getElem?_set]
  by_cases hi : i < n
  · rw [fw_at _ hi]
    by_cases e : k = i
    · subst e; simp [fw, wcells, hi]
    · rw [if_neg e, fw_at _ hi]; simp only [if_neg (show ¬ i = k from fun h => e h.symm)]
  · have h1 : ∀ g : Nat → BitVec 32, (fw g n)[i]? = none := by intro g; simp [fw, wcells]; omega
    rw [h1, h1]
    split
    · split
      · rename_i h; simp [fw, wcells] at h; omega
      · rfl
    · rfl
theorem fw_congr {f g : Nat → BitVec 32} {n : Nat} (h : ∀ j, j < n → f j = g j) : fw f n = fw g n := by
  unfold fw
  congr 1
  apply List.map_congr_left
  intro j hj
  exact h j (List.mem_range.1 hj)
theorem fw_length (f : Nat → BitVec 32) (n : Nat) : (fw f n).length = n := by simp [fw, wcells]

structure MixAt (w wr : World) (h : List Value) (m n : Nat) (f : Nat → BitVec 32) : Prop where
  bel : Below w.heap.size w wr
  oh : Own wr w.heap.size 1 (.slice (some ⟨w.heap.size, 0, none⟩) m m) m h
  or : Own wr w.heap.size 1 (.slice (some ⟨w.heap.size + 1, 0, none⟩) m m) m (List.replicate m (.int .u32 0))
  ow : Own wr w.heap.size 1 (.slice (some ⟨w.heap.size + 1 + 1, 0, none⟩) n n) n (fw f n)
theorem MixAt.drew {w wr : World} {h : List Value} {m n : Nat} {f : Nat → BitVec 32} (a : MixAt w wr h m n f) : MixAt w wr.drew h m n f := ⟨⟨a.bel.os, a.bel.tape, a.bel.output, a.bel.size, a.bel.block⟩, a.oh, a.or, a.ow⟩
theorem MixAt.drewN {w wr : World} {h : List Value} {m n : Nat} {f : Nat → BitVec 32} (a : MixAt w wr h m n f) (k : Nat) : MixAt w (wr.drewN k) h m n f := ⟨⟨a.bel.os, a.bel.tape, a.bel.output, a.bel.size, a.bel.block⟩, a.oh, a.or, a.ow⟩
theorem MixAt.congr {w wr : World} {h : List Value} {m n : Nat} {f g : Nat → BitVec 32} (a : MixAt w wr h m n f) (e : ∀ j, j < n → f j = g j) : MixAt w wr h m n g := ⟨a.bel, a.oh, a.or, by rw [← fw_congr e]; exact a.ow⟩
theorem MixAt.set {w wr : World} {h : List Value} {m n : Nat} {f : Nat → BitVec 32} (a : MixAt w wr h m n f) (k : Nat) (hk : k < n) (x : BitVec 32) : MixAt w (wr.setCell ⟨w.heap.size + 1 + 1, k, none⟩ (.int .u32 (x.toNat : Int))) h m n (fun j => if j = k then x else f j) := by
  obtain ⟨h1, h2⟩ := a.ow.set k (by rw [fw_length]; exact hk) (.int .u32 (x.toNat : Int))
  rw [fw_set] at h1
  exact ⟨a.bel.setCell (by simp only; omega) _, a.oh.kept h2 (.inr (by simp [Value.ownBlock]; omega)), a.or.kept h2 (.inr (by simp [Value.ownBlock])), h1⟩

/-- So many bytes of a word. -/
def pw (s : List UInt8) (k : Nat) : Nat → BitVec 32
  | 0 => 0
  | i + 1 => pw s k i <<< 8 ||| bw (s.getD (4 * k + i) 0)
theorem pw4 (s : List UInt8) (k : Nat) : pw s k 4 = word4 (s.getD (4 * k) 0) (s.getD (4 * k + 1) 0) (s.getD (4 * k + 2) 0) (s.getD (4 * k + 3) 0) := by
  simp [pw, word4]
theorem getD_str (s : ByteArray) (i : Nat) (h : i < s.size) : s.data.toList.getD i 0 = s[i] := by
  rw [List.getD_eq_getElem?_getD, List.getElem?_eq_getElem (by simpa using h)]; rfl

theorem oneWords_length (s : List UInt8) (n : Nat) : (oneWords s n).length = 16 + n := by
  induction n with
  | zero => simp [oneWords, firstWords]
  | succ n ih => rw [oneWords, List.length_append, ih]; rfl
theorem oneWords_pre (s : List UInt8) (n m j : Nat) (h : j < 16 + n) : (oneWords s (n + m)).getD j 0 = (oneWords s n).getD j 0 := by
  induction m with
  | zero => rfl
  | succ m ih =>
    rw [show n + (m + 1) = (n + m) + 1 by omega, oneWords, List.getD_eq_getElem?_getD, List.getElem?_append_left (by rw [oneWords_length]; omega), ← List.getD_eq_getElem?_getD]
    exact ih
theorem oneW_low (s : List UInt8) {k : Nat} (h : k < 16) : (oneWords s 64).getD k 0 = word4 (s.getD (4 * k) 0) (s.getD (4 * k + 1) 0) (s.getD (4 * k + 2) 0) (s.getD (4 * k + 3) 0) := by
  rw [show (64 : Nat) = 0 + 64 from rfl, oneWords_pre s 0 64 k (by omega)]
  simp [oneWords, firstWords, h]
theorem oneW_high (s : List UInt8) {k : Nat} (h0 : 16 ≤ k) (h : k < 80) : (oneWords s 64).getD k 0 = turn ((oneWords s 64).getD (k - 3) 0 ^^^ (oneWords s 64).getD (k - 8) 0 ^^^ (oneWords s 64).getD (k - 14) 0 ^^^ (oneWords s 64).getD (k - 16) 0) 1 := by
  obtain ⟨n, rfl⟩ : ∃ n, k = 16 + n := ⟨k - 16, by omega⟩
  have e (j : Nat) (hj : j < 16 + n) : (oneWords s 64).getD j 0 = (oneWords s n).getD j 0 := by
    have := oneWords_pre s n (64 - n) j hj
    rwa [show n + (64 - n) = 64 by omega] at this
  rw [e (16 + n - 3) (by omega), e (16 + n - 8) (by omega), e (16 + n - 14) (by omega), e (16 + n - 16) (by omega)]
  have h1 := oneWords_pre s (n + 1) (64 - (n + 1)) (16 + n) (by omega)
  rw [show n + 1 + (64 - (n + 1)) = 64 by omega] at h1
  rw [h1, oneWords, List.getD_eq_getElem?_getD, List.getElem?_append_right (by rw [oneWords_length]; omega), oneWords_length]
  simp [oneNext, oneWords_length]

set_option maxHeartbeats 3200000 in
set_option maxRecDepth 100000 in
theorem mix_calls (h : Five) (s : ByteArray) (w : World) (hs : s.size = 64) : Calls Tryd.prog 50 #[.agg #[.int .u32 (h.a.toNat : Int), .int .u32 (h.b.toNat : Int), .int .u32 (h.c.toNat : Int), .int .u32 (h.d.toNat : Int), .int .u32 (h.e.toNat : Int)], .string s] w
    fun e w' => e = .returned (.agg (wcells (oneMix h s.data.toList).cells).toArray) ∧ Below w.heap.size w w' := by
  have hs1 : s.size ≥ 64 := by omega
  clear hs
  have HI : Hid (MixAt w (((w.alloc (.cells #[.int .u32 (h.a.toNat : Int), .int .u32 (h.b.toNat : Int), .int .u32 (h.c.toNat : Int), .int .u32 (h.d.toNat : Int), .int .u32 (h.e.toNat : Int)] 68)).alloc (.cells #[.int .u32 0, .int .u32 0, .int .u32 0, .int .u32 0, .int .u32 0] 68)).alloc (.cells Tryd.zeroCells93 93)) (wcells h.cells) 5 80 (fun j => if j < 0 then (oneWords s.data.toList 64).getD j 0 else 0)) := by
    have z : Tryd.zeroCells93 = (fw (fun j => if j < 0 then (oneWords s.data.toList 64).getD j 0 else 0) 80).toArray := by
      rw [fw_congr (g := fun _ => 0) (fun j _ => by simp)]; kernel_rfl
    refine ⟨(((Below.refl _ _).alloc (Nat.le_refl _) _).alloc (by simp) _).alloc (by simp; omega) _, ?_, ?_, ?_⟩
    · exact ((Own.fresh w _ _ (by simp [maxLen])).alloc _).alloc _
    · have h1 := Own.fresh (w.alloc (.cells #[.int .u32 (h.a.toNat : Int), .int .u32 (h.b.toNat : Int), .int .u32 (h.c.toNat : Int), .int .u32 (h.d.toNat : Int), .int .u32 (h.e.toNat : Int)] 68)) #[.int .u32 0, .int .u32 0, .int .u32 0, .int .u32 0, .int .u32 0] 68 (by decide)
      have h2 := (h1.weaken (base' := w.heap.size) (by simp)).alloc (.cells Tryd.zeroCells93 93)
      simpa using h2
    · rw [z]
      have h1 := Own.fresh ((w.alloc (.cells #[.int .u32 (h.a.toNat : Int), .int .u32 (h.b.toNat : Int), .int .u32 (h.c.toNat : Int), .int .u32 (h.d.toNat : Int), .int .u32 (h.e.toNat : Int)] 68)).alloc (.cells #[.int .u32 0, .int .u32 0, .int .u32 0, .int .u32 0, .int .u32 0] 68)) (fw (fun j => if j < 0 then (oneWords s.data.toList 64).getD j 0 else 0) 80).toArray 93 (by simp [fw_length, maxLen])
      have h2 := h1.weaken (base' := w.heap.size) (by simp; omega)
      simpa [fw_length] using h2
  go_enter Tryd.func50, Tryd.ntmps50
  go_wp2
  go_loopw [18] (fun i wr => ∃ k : Nat, k ≤ 16 ∧ i = .int .i64 k ∧ Hid (MixAt w wr (wcells h.cells) 5 80 (fun j => if j < k then (oneWords s.data.toList 64).getD j 0 else 0))) (fun i _ => 16 - (intOf i).toNat)
  case atStart => exact ⟨0, by omega, rfl, HI.out⟩
  case round =>
    obtain ⟨k, hk, rfl, HM⟩ := hrel
    by_cases hlt : k < 16
    · go_wp2
      go_loopw [21] (fun i wr => ∃ n : Nat, n ≤ 4 ∧ i = .int .i64 n ∧ Hid (MixAt w wr (wcells h.cells) 5 80 (fun j => if j < k then (oneWords s.data.toList 64).getD j 0 else if j = k then pw s.data.toList k n else 0))) (fun i _ => 4 - (intOf i).toNat)
      case atStart => exact ⟨0, by omega, rfl, HM.out.congr (fun j _ => by by_cases e : j = k <;> simp [e, pw])⟩
      case round =>
        obtain ⟨n, hn, rfl, HN⟩ := hrel
        by_cases hlt2 : n < 4
        · obtain ⟨hc, hf⟩ := HN.out.ow.cell (j := k) (fw_at _ (by omega))
          simp only [Nat.lt_irrefl, if_false, if_true] at hc
          have hb : 4 * k + n < s.size := by omega
          have HP : Hid (pw s.data.toList k (n + 1) = pw s.data.toList k n <<< 8 ||| bw s[4 * k + n]) := by rw [Hid, pw, getD_str _ _ hb]
          have j1 : (0 : Int) ≤ (k : Int) := by omega
          have j2 : (k : Int) < 80 := by omega
          have j3 : (0 : Int) ≤ 4 * (k : Int) + (n : Int) := by omega
          have j4 : 4 * (k : Int) + (n : Int) < (s.size : Int) := by omega
          have y1 := IntWalk.i64_in (4 * (k : Int)) (by omega)
          have y2 := IntWalk.i64_in (4 * (k : Int) + (n : Int)) (by omega)
          have y3 : (4 * (k : Int) + (n : Int)).toNat = 4 * k + n := by omega
          have HV : Hid (bits BinOp.or IntKind.u32 (((pw s.data.toList k n).toNat : Int) * 256 % 4294967296) ((s[4 * k + n].toNat : Int) % 4294967296) = ((pw s.data.toList k (n + 1)).toNat : Int)) := by
            rw [Hid, HP.out, bw_nat, show (256 : Int) = 2 ^ 8 by decide, t_shl, Int.emod_eq_of_lt (by omega) (by have := w_lt (bw s[4 * k + n]); omega), w_or]
          go_wp2
          go_region
          go_wp2
          go_roundw
          case rel =>
            refine ⟨n + 1, by omega, by go_num, ?_⟩
            rw [Hid, HV.out]
            refine (HN.out.set k (by omega) (pw s.data.toList k (n + 1))).drew.congr (fun j _ => ?_)
            by_cases e : j = k
            · subst e; simp
            · simp [e]
          case measure => simp [intOf]; omega
        · obtain rfl : n = 4 := by omega
          go_wp2
          go_roundw
          case rel =>
            refine ⟨k + 1, by omega, by go_num, HN.out.congr (fun j _ => ?_)⟩
            rw [pw4, ← oneW_low _ hlt]
            by_cases e : j = k
            · subst e; simp
            · by_cases e2 : j < k
              · rw [if_pos e2, if_pos (by omega)]
              · rw [if_neg e2, if_neg e, if_neg (by omega)]
          case measure => simp [intOf]; omega
    · obtain rfl : k = 16 := by omega
      clear hlt hk
      go_wp2
      go_loopw [8] (fun i wr => ∃ k : Nat, 16 ≤ k ∧ k ≤ 80 ∧ i = .int .i64 k ∧ Hid (MixAt w wr (wcells h.cells) 5 80 (fun j => if j < k then (oneWords s.data.toList 64).getD j 0 else 0))) (fun i _ => 80 - (intOf i).toNat)
      case atStart => exact ⟨16, by omega, by omega, rfl, HM.out⟩
      case round =>
        obtain ⟨k, hk0, hk, rfl, HN⟩ := hrel
        by_cases hlt2 : k < 80
        · obtain ⟨c3, _⟩ := HN.out.ow.cell (j := k - 3) (fw_at _ (by omega))
          obtain ⟨c8, _⟩ := HN.out.ow.cell (j := k - 8) (fw_at _ (by omega))
          obtain ⟨c14, _⟩ := HN.out.ow.cell (j := k - 14) (fw_at _ (by omega))
          obtain ⟨c16, _⟩ := HN.out.ow.cell (j := k - 16) (fw_at _ (by omega))
          obtain ⟨c0, f0⟩ := HN.out.ow.cell (j := k) (fw_at _ (by omega))
          simp only [show k - 3 < k by omega, show k - 8 < k by omega, show k - 14 < k by omega, show k - 16 < k by omega, if_true] at c3 c8 c14 c16
          obtain ⟨p, hp⟩ : ∃ p, (oneWords s.data.toList 64).getD (k - 3) 0 = p := ⟨_, rfl⟩
          obtain ⟨q, hq⟩ : ∃ q, (oneWords s.data.toList 64).getD (k - 8) 0 = q := ⟨_, rfl⟩
          obtain ⟨r, hr⟩ : ∃ r, (oneWords s.data.toList 64).getD (k - 14) 0 = r := ⟨_, rfl⟩
          obtain ⟨t, ht⟩ : ∃ t, (oneWords s.data.toList 64).getD (k - 16) 0 = t := ⟨_, rfl⟩
          rw [hp] at c3
          rw [hq] at c8
          rw [hr] at c14
          rw [ht] at c16
          have HE : Hid ((oneWords s.data.toList 64).getD k 0 = turn (p ^^^ q ^^^ r ^^^ t) 1) := by rw [Hid, oneW_high _ hk0 hlt2, hp, hq, hr, ht]
          clear hp hq hr ht
          have HC : Hid (∀ W : World, Calls Tryd.prog 68 #[.int .u32 (bits .xor .u32 (bits .xor .u32 (bits .xor .u32 (p.toNat : Int) (q.toNat : Int)) (r.toNat : Int)) (t.toNat : Int)), .int .i64 1] W fun e w' => e = .returned (.int .u32 ((turn (p ^^^ q ^^^ r ^^^ t) 1).toNat : Int)) ∧ W = w') := by
            intro W; rw [w_xor, w_xor, w_xor]; exact rot1_calls _ W
          have y1 := IntWalk.i64_in ((k : Int) - 3) (by omega)
          have y2 := IntWalk.i64_in ((k : Int) - 8) (by omega)
          have y3 := IntWalk.i64_in ((k : Int) - 14) (by omega)
          have y4 := IntWalk.i64_in ((k : Int) - 16) (by omega)
          have z1 : ((k : Int) - 3).toNat = k - 3 := by omega
          have z2 : ((k : Int) - 8).toNat = k - 8 := by omega
          have z3 : ((k : Int) - 14).toNat = k - 14 := by omega
          have z4 : ((k : Int) - 16).toNat = k - 16 := by omega
          have b1 : (0 : Int) ≤ (k : Int) - 3 := by omega
          have b2 : (0 : Int) ≤ (k : Int) - 8 := by omega
          have b3 : (0 : Int) ≤ (k : Int) - 14 := by omega
          have b4 : (0 : Int) ≤ (k : Int) - 16 := by omega
          have b5 : (k : Int) - 3 < 80 := by omega
          have b6 : (k : Int) - 8 < 80 := by omega
          have b7 : (k : Int) - 14 < 80 := by omega
          have b8 : (k : Int) - 16 < 80 := by omega
          have b9 : (0 : Int) ≤ (k : Int) := by omega
          have a1 : (3 : Int) ≤ (k : Int) := by omega
          have a2 : (8 : Int) ≤ (k : Int) := by omega
          have a3 : (14 : Int) ≤ (k : Int) := by omega
          have a4 : (16 : Int) ≤ (k : Int) := by omega
          have b10 : (k : Int) < 80 := by omega
          go_wp2
          go_region_held3 (fun w' => w'.cell? ⟨w.heap.size + 1 + 1, k - 3, none⟩ = some (.int .u32 (p.toNat : Int)) ∧ w'.cell? ⟨w.heap.size + 1 + 1, k - 8, none⟩ = some (.int .u32 (q.toNat : Int)) ∧ w'.cell? ⟨w.heap.size + 1 + 1, k - 14, none⟩ = some (.int .u32 (r.toNat : Int)) ∧ w'.cell? ⟨w.heap.size + 1 + 1, k - 16, none⟩ = some (.int .u32 (t.toNat : Int)))
            (first | exact ⟨c3, c8, c14, c16⟩ | exact ⟨(World.cell?_setCell_other _ _ _ _ (by simp)).trans c3, (World.cell?_setCell_other _ _ _ _ (by simp)).trans c8, (World.cell?_setCell_other _ _ _ _ (by simp)).trans c14, (World.cell?_setCell_other _ _ _ _ (by simp)).trans c16⟩)
            (first | (go_at_call 68; refine Calls.mono (HC.out _) ?_; rintro e w' ⟨rfl, rfl⟩))
          clear y1 y2 y3 y4 z1 z2 z3 z4
          go_wp2
          go_roundw
          case rel =>
            (repeat apply Exists.intro)
            refine ⟨?_, rfl⟩
            refine ⟨k + 1, by omega, by omega, by go_num, ?_⟩
            refine (HN.out.set k (by omega) (turn (p ^^^ q ^^^ r ^^^ t) 1)).drew.congr (fun j _ => ?_)
            rw [← HE.out]
            by_cases e : j = k
            · subst e; simp
            · by_cases e2 : j < k
              · rw [if_neg e, if_pos e2, if_pos (by omega)]
              · rw [if_neg e, if_neg e2, if_neg (by omega)]
          case measure => simp [intOf]; omega
        · obtain rfl : k = 80 := by omega
          clear hlt2 hk hk0
          obtain ⟨c0, _⟩ := HN.out.oh.cell (j := 0) (u := .int .u32 (h.a.toNat : Int)) rfl
          obtain ⟨c1, _⟩ := HN.out.oh.cell (j := 1) (u := .int .u32 (h.b.toNat : Int)) rfl
          obtain ⟨c2, _⟩ := HN.out.oh.cell (j := 2) (u := .int .u32 (h.c.toNat : Int)) rfl
          obtain ⟨c3, _⟩ := HN.out.oh.cell (j := 3) (u := .int .u32 (h.d.toNat : Int)) rfl
          obtain ⟨c4, _⟩ := HN.out.oh.cell (j := 4) (u := .int .u32 (h.e.toNat : Int)) rfl
          go_wp2
          go_big_quiet (fail)
          go_wp2
          go_loopw [9, 10, 11, 12, 13, 76] (fun va vb vc vd ve i wr => ∃ (k : Nat) (x : Five), k ≤ 80 ∧ i = .int .i64 k ∧ va = .int .u32 (x.a.toNat : Int) ∧ vb = .int .u32 (x.b.toNat : Int) ∧ vc = .int .u32 (x.c.toNat : Int) ∧ vd = .int .u32 (x.d.toNat : Int) ∧ ve = .int .u32 (x.e.toNat : Int) ∧ Hid (x = oneRounds (oneWords s.data.toList 64) h k) ∧ Hid (MixAt w wr (wcells h.cells) 5 80 (fun j => if j < 80 then (oneWords s.data.toList 64).getD j 0 else 0))) (fun _ _ _ _ _ i _ => 80 - (intOf i).toNat)
          case atStart => exact ⟨0, h, by omega, rfl, rfl, rfl, rfl, rfl, rfl, rfl, HN.out.drewN _⟩
          case round =>
            obtain ⟨k, x, hk, rfl, rfl, rfl, rfl, rfl, rfl, HX, HN⟩ := hrel
            clear c0 c1 c2 c3 c4
            by_cases hlt3 : k < 80
            · obtain ⟨c0, _⟩ := HN.out.ow.cell (j := k) (fw_at _ (by omega))
              simp only [hlt3, if_true] at c0
              obtain ⟨p, hp⟩ : ∃ p, (oneWords s.data.toList 64).getD k 0 = p := ⟨_, rfl⟩
              rw [hp] at c0
              have HE : Hid (oneRounds (oneWords s.data.toList 64) h (k + 1) = oneStep k p x) := by rw [Hid, oneRounds, hp, HX.out]
              clear hp
              have b9 : (0 : Int) ≤ (k : Int) := by omega
              have b10 : (k : Int) < 80 := by omega
              go_wp2_with (go_at_call 69; refine (round_calls k _ _ _ _ hlt3).mono ?_; rintro e w' ⟨rfl, rfl⟩)
              go_quiet ((go_at_call 68; exact quiet_same (rot5_calls _ _)))
              go_wp2_with (go_at_call 68; refine (rot30_calls _ _).mono ?_; rintro e w' ⟨rfl, rfl⟩)
              go_roundw
              case rel =>
                (repeat apply Exists.intro)
                refine ⟨?_, rfl⟩
                exact ⟨k + 1, oneStep k p x, by omega, by go_num, val_int (t_add5 _ _ _ _ _), rfl, rfl, rfl, rfl, HE.out.symm, HN.out.drewN _⟩
              case measure => simp [intOf]; omega
            · obtain rfl : k = 80 := by omega
              clear hlt3 hk
              obtain ⟨c0, _⟩ := HN.out.oh.cell (j := 0) (u := .int .u32 (h.a.toNat : Int)) rfl
              obtain ⟨c1, _⟩ := HN.out.oh.cell (j := 1) (u := .int .u32 (h.b.toNat : Int)) rfl
              obtain ⟨c2, _⟩ := HN.out.oh.cell (j := 2) (u := .int .u32 (h.c.toNat : Int)) rfl
              obtain ⟨c3, _⟩ := HN.out.oh.cell (j := 3) (u := .int .u32 (h.d.toNat : Int)) rfl
              obtain ⟨c4, _⟩ := HN.out.oh.cell (j := 4) (u := .int .u32 (h.e.toNat : Int)) rfl
              obtain ⟨d0, f0⟩ := HN.out.or.cell (j := 0) (u := .int .u32 0) rfl
              obtain ⟨d1, f1⟩ := HN.out.or.cell (j := 1) (u := .int .u32 0) rfl
              obtain ⟨d2, f2⟩ := HN.out.or.cell (j := 2) (u := .int .u32 0) rfl
              obtain ⟨d3, f3⟩ := HN.out.or.cell (j := 3) (u := .int .u32 0) rfl
              obtain ⟨d4, f4⟩ := HN.out.or.cell (j := 4) (u := .int .u32 0) rfl
              go_wp2
              rw [t_add h.a x.a, t_add h.b x.b, t_add h.c x.c, t_add h.d x.d, t_add h.e x.e]
              have g1 := HN.out.or.set 0 (by simp) (.int .u32 ((h.a + x.a).toNat : Int))
              have g2 := g1.1.set 1 (by simp) (.int .u32 ((h.b + x.b).toNat : Int))
              have g3 := g2.1.set 2 (by simp) (.int .u32 ((h.c + x.c).toNat : Int))
              have g4 := g3.1.set 3 (by simp) (.int .u32 ((h.d + x.d).toNat : Int))
              have g5 := g4.1.set 4 (by simp) (.int .u32 ((h.e + x.e).toNat : Int))
              have HB : Hid (Below w.heap.size w _) := ((((HN.out.bel.setCell (p := ⟨w.heap.size + 1, 0, none⟩) (by simp) (.int .u32 ((h.a + x.a).toNat : Int))).setCell (p := ⟨w.heap.size + 1, 1, none⟩) (by simp) (.int .u32 ((h.b + x.b).toNat : Int))).setCell (p := ⟨w.heap.size + 1, 2, none⟩) (by simp) (.int .u32 ((h.c + x.c).toNat : Int))).setCell (p := ⟨w.heap.size + 1, 3, none⟩) (by simp) (.int .u32 ((h.d + x.d).toNat : Int))).setCell (p := ⟨w.heap.size + 1, 4, none⟩) (by simp) (.int .u32 ((h.e + x.e).toNat : Int))
              have e : (oneMix h s.data.toList) = h.add x := by rw [oneMix, HX.out]
              refine bodyPost_ret (results_cell_mid rfl _ _ (w.heap.size + 1) (wcells (h.add x).cells) _ rfl (fun j v hv => ?_) Tryd.underlying68 rfl (by kernel_rfl)) rfl ?_
              · rw [Nat.zero_add]
                exact (g5.1.cell hv).1
              · exact ⟨by rw [e], HB.out⟩
theorem mix_calls' (h : Five) (s : ByteArray) (w : World) (hs : s.size = 64) : Calls Tryd.prog 50 #[.agg #[.int .u32 (h.a.toNat : Int), .int .u32 (h.b.toNat : Int), .int .u32 (h.c.toNat : Int), .int .u32 (h.d.toNat : Int), .int .u32 (h.e.toNat : Int)], .string s] w
    fun e w' => ∃ y : Five, Hid (y = oneMix h s.data.toList) ∧ e = .returned (.agg #[.int .u32 (y.a.toNat : Int), .int .u32 (y.b.toNat : Int), .int .u32 (y.c.toNat : Int), .int .u32 (y.d.toNat : Int), .int .u32 (y.e.toNat : Int)]) ∧ Below w.heap.size w w' :=
  (mix_calls h s w hs).mono fun _ _ ⟨he, hb⟩ => ⟨_, rfl, he, hb⟩
end Go.Proofs.YtbkankpfkbafdaaDoor

/- What the library's strings.Builder and strings.Join do, over rows and lists of texts. -/
namespace Go.Proofs.YtbkankpfkbafdaaDoor
open Go.RowKit

/-- A builder of the call's own that holds these bytes. -/
def Bld (w : World) (B b : Nat) (l : List UInt8) : Prop := Lib.IsBuilder 85 5 B b (bcells l) w
theorem Bld.below {w w' : World} {B b : Nat} {l : List UInt8} (h : Bld w B b l) (hb : Below w.heap.size w w') : Bld w' B b l := by
  have key : ∀ p, Lib.BuilderAt 85 5 B b p (bcells l) w → Lib.BuilderAt 85 5 B b p (bcells l) w' := by
    rintro p ⟨h1, v, h2, h3, h4⟩
    exact ⟨h1, v, (hb.block b (Array.getElem?_eq_some_iff.1 h2).1).trans h2, own_below h3 hb, h4⟩
  rcases h with h | h
  · exact .inl (key _ h)
  · exact .inr (key _ h)
theorem Bld.fresh (w : World) : Bld (w.alloc (.cells #[.pointer none, .slice none 0 0] 85)) w.heap.size w.heap.size [] := Lib.fresh_isBuilder _ _ w

theorem builderWrite_calls (B b : Nat) (l : List UInt8) (s : ByteArray) (w : World) (h : Bld w B b l) (hlen : l.length + s.size ≤ 140737488355328) (hB : B ≤ w.heap.size) :
    Calls Tryd.prog 65 #[.pointer (some ⟨b, 0, none⟩), .string s] w fun e w' => e = .returned (.tuple #[.int .i64 s.size, .nilIface]) ∧ Bld w' B b (l ++ s.data.toList) ∧ Below B w w' := by
  refine (Any.Builder_WriteString { Tryd.lays156 with } Tryd.Builder_Extra_156 B b (bcells l) s w h (by simpa [bcells] using hlen) hB).mono ?_
  rintro e w' ⟨rfl, h1, h2⟩
  refine ⟨rfl, .inr ?_, h2⟩
  rw [bcells, List.map_append]
  exact h1
theorem builderString_calls (B b : Nat) (l : List UInt8) (w : World) (h : Bld w B b l) (hB : B ≤ w.heap.size) :
    Calls Tryd.prog 66 #[.pointer (some ⟨b, 0, none⟩)] w fun e w' => e = .returned (.string ⟨l.toArray⟩) ∧ Below B w w' :=
  Any.Builder_String_any { Tryd.lays156 with } Tryd.Builder_Extra_156 B b l w h hB

theorem join_nosep (l : List (List UInt8)) : Lib.join l [] = l.flatten := by
  cases l with
  | nil => rfl
  | cons x r => rw [Lib.join_cons]; simp [Lib.joinTail]

/-- strings.Join(l, ""). -/
theorem stringsJoin_calls (A : Option Addr) (n c : Nat) (l : List ByteArray) (w : World) (hl : l.length = n) (hc : n ≤ c) (hn : n ≤ 140737488355328) (hs : totalLen l ≤ 140737488351232) (hR : RowAt w A (scells l)) :
    Calls Tryd.prog 48 #[.slice A n c, .string ⟨#[]⟩] w fun e w' => e = .returned (.string (joinB l)) ∧ Below w.heap.size w w' := by
  subst hl
  by_cases h0 : l = []
  · subst h0
    refine (Tryd.strings_Join_none A c ⟨#[]⟩ w).mono ?_
    rintro e w' ⟨rfl, rfl⟩
    exact ⟨rfl, Below.refl _ _⟩
  · obtain ⟨b, o, rfl, hb, hcell⟩ := hR.addr (by simpa [scells] using h0)
    have e1 : Lib.join (l.map (·.data.toList)) [] = (joinB l).data.toList := by
      rw [join_nosep]
      have key : ∀ (l : List ByteArray) (a : ByteArray), (l.foldl (· ++ ·) a).data.toList = a.data.toList ++ (l.map (·.data.toList)).flatten := by
        intro l
        induction l with
        | nil => intro a; simp
        | cons s l ih => intro a; rw [List.foldl_cons, ih]; simp [ByteArray.data_append]
      have := key l ByteArray.empty
      simpa [joinB] using this.symm
    refine (Tryd.strings_Join b o c l ⟨#[]⟩ w (fun j x hx => hcell j _ (scells_at hx)) hb hn hc ?_).mono ?_
    · rw [show (⟨#[]⟩ : ByteArray).data.toList = [] from rfl, e1, data_length]
      have := joinB_size l
      omega
    · rintro e w' ⟨rfl, h⟩
      refine ⟨ret_str ?_, h⟩
      rw [show (⟨#[]⟩ : ByteArray).data.toList = [] from rfl, e1, mk_data]

end Go.Proofs.YtbkankpfkbafdaaDoor

/- shaone: bytes of a number, what stands behind bytes; and the reference's. -/
namespace Go.Proofs.YtbkankpfkbafdaaDoor
open Go.RowKit

theorem el_u8 : El Tryd.prog 31 5 1 1 := El.mk' Tryd.underlying31 (z := .int .u8 0) (by kernel_rfl) (by decide)
/-- make([]byte, n). -/
theorem make_u8 (n : Nat) (hn : n ≤ 281474976710656) (W : World) : (Instr.makeSlice 31 (.int .i64 (n : Int)) (.int .i64 (n : Int))).run Tryd.prog W = .ok (.slice (some ⟨W.heap.size, 0, none⟩) n n) (W.alloc (.cells (bcells (List.replicate n 0)).toArray 5)) := by
  have h := run_make_row' (P := Tryd.prog) 31 5 (.int .u8 0) 1 Tryd.underlying31 (by kernel_rfl) rfl .i64 .i64 n (by omega) (by omega) W
  have e : madeCells #[.int .u8 0] n = (bcells (List.replicate n 0)).toArray := by
    apply Array.toList_inj.mp
    rw [toList_madeCells_one]
    simp [bcells]
  rw [e] at h
  exact h
theorem zeros_own (W : World) (n : Nat) (hn : n ≤ maxLen) : Own (W.alloc (.cells (bcells (List.replicate n 0)).toArray 5)) W.heap.size 1 (.slice (some ⟨W.heap.size, 0, none⟩) n n) n (bcells (List.replicate n 0)) := by
  have h := Own.fresh W (bcells (List.replicate n 0)).toArray 5 (by simpa [bcells] using hn)
  simpa [bcells] using h

/-- The bytes of a number, the highest one first. -/
def hiB (v n i : Nat) : UInt8 := UInt8.ofNat (v / 2 ^ (8 * (n - 1 - i)))
def hiL (v n : Nat) : List UInt8 := (List.range n).map (hiB v n)
def hiG (v n k : Nat) : List UInt8 := (List.range n).map fun i => if i < k then hiB v n i else 0
theorem hiG_zero (v n : Nat) : hiG v n 0 = List.replicate n 0 := by
  apply List.ext_getElem?; intro i; by_cases h : i < n <;> simp [hiG, h]
theorem hiG_full (v n : Nat) : hiG v n n = hiL v n := by
  unfold hiG hiL; apply List.map_congr_left; intro i hi; rw [if_pos (List.mem_range.1 hi)]
theorem hiG_set (v n k : Nat) (h : k < n) : (bcells (hiG v n k)).set k (.int .u8 ((hiB v n k).toNat : Int)) = bcells (hiG v n (k + 1)) := by
  apply List.ext_getElem?
  intro i
  rw [List.getElem?_set]
  by_cases hi : i < n
  · by_cases e : k = i
    · subst e; simp [bcells, hiG, hi]
    · rw [if_neg e]
      have : (i < k) ↔ (i < k + 1) := by omega
      simp [bcells, hiG, hi, this]
  · have e : ¬ k = i := by omega
    rw [if_neg e]
    simp [bcells, hiG, hi]
theorem hiG_length (v n k : Nat) : (hiG v n k).length = n := by simp [hiG]
theorem hiL_length (v n : Nat) : (hiL v n).length = n := by simp [hiL]
theorem hiB_val (v n i : Nat) : ((v : Int) / 2 ^ (8 * (n - 1 - i))) % 256 = ((hiB v n i).toNat : Int) := by
  have e : ((2 : Int) ^ (8 * (n - 1 - i))) = ((2 ^ (8 * (n - 1 - i)) : Nat) : Int) := (Int.natCast_pow 2 _).symm
  rw [hiB, e, ← Int.natCast_ediv]
  generalize v / 2 ^ (8 * (n - 1 - i)) = q
  simp

set_option maxHeartbeats 800000 in
theorem high_calls (v n : Nat) (w : World) (hn : n ≤ 8) (_hv : v < 18446744073709551616) : Calls Tryd.prog 51 #[.int .u64 (v : Int), .int .i64 (n : Int)] w fun e w' => e = .returned (.string ⟨(hiL v n).toArray⟩) ∧ Below w.heap.size w w' := by
  have hmk := fun W => make_u8 n (by omega) W
  have HO := Lib.hid (zeros_own w n (by unfold maxLen; omega))
  rw [← hiG_zero v n] at HO
  go_enter Tryd.func51, Tryd.ntmps51
  go_wp2
  go_loopw [11] (fun i wr => ∃ k : Nat, k ≤ n ∧ i = .int .i64 k ∧ Hid (Own wr w.heap.size 1 (.slice (some ⟨w.heap.size, 0, none⟩) n n) n (bcells (hiG v n k))) ∧ Hid (Below w.heap.size w wr)) (fun i _ => n - (intOf i).toNat)
  case atStart => exact ⟨0, by omega, rfl, by rw [hiG_zero] at *; exact HO.out, (Below.refl _ _).alloc (Nat.le_refl _) _⟩
  case round =>
    obtain ⟨k, hk, rfl, HN, HW⟩ := hrel
    by_cases hlt : k < n
    · obtain ⟨u, hu⟩ := some_at (l := hiG v n k) (k := k) (by rw [hiG_length]; exact hlt)
      obtain ⟨c0, f0⟩ := HN.out.cell (bcells_at hu)
      clear hu
      have y1 := IntWalk.i64_in ((n : Int) - 1) (by omega)
      have y2 := IntWalk.i64_in ((n : Int) - 1 - (k : Int)) (by omega)
      have y3 := IntWalk.i64_in (8 * ((n : Int) - 1 - (k : Int))) (by omega)
      have y4 : (8 * ((n : Int) - 1 - (k : Int))).toNat = 8 * (n - 1 - k) := by omega
      have y5 : (0 : Int) ≤ 8 * ((n : Int) - 1 - (k : Int)) := by omega
      go_wp2
      go_roundw
      case rel =>
        have g := HN.out.set k (by rw [bcells, List.length_map, hiG_length]; exact hlt) (.int .u8 ((hiB v n k).toNat : Int))
        rw [hiG_set v n k hlt] at g
        refine ⟨k + 1, by omega, by go_num, ?_, ?_⟩
        · rw [hiB_val]; exact g.1
        · rw [hiB_val]; exact HW.out.setCell (by simp) _
      case measure => simp [intOf]; omega
    · obtain rfl : k = n := by omega
      have hcv := bytes_str Tryd.prog 31 5 9 Tryd.underlying31 Tryd.underlying5 Tryd.underlying9 (some ⟨w.heap.size, 0, none⟩) k k (hiG v k k) wr (hiG_length _ _ _) (by
        obtain ⟨A, c, e, _, hr, _⟩ := HN.out.slice
        injection e with e1 e2 e3
        subst e1
        exact hr)
      go_wp2
      go_ret
      exact ⟨ret_str (by rw [hiG_full]), HW.out⟩

set_option maxHeartbeats 800000 in
theorem refHigh_calls (v n : Nat) (w : World) (hn : n ≤ 8) (_hv : v < 18446744073709551616) : Calls Tryd.prog 62 #[.int .u64 (v : Int), .int .i64 (n : Int)] w fun e w' => e = .returned (.string ⟨(hiL v n).toArray⟩) ∧ Below w.heap.size w w' := by
  go_enter Tryd.func62, Tryd.ntmps62
  go_wp2
  go_loopw [5, 6] (fun x i wr => ∃ (k : Nat) (c : Int), k ≤ n ∧ i = .int .i64 c ∧ Hid (c = (n : Int) - 1 - (k : Int)) ∧ Hid (Own wr w.heap.size 1 x k (bcells ((hiL v n).take k))) ∧ Hid (Below w.heap.size w wr)) (fun _ i _ => (intOf i + 1).toNat)
  case atStart => exact ⟨0, (n : Int) - 1, by omega, rfl, by simp [Hid], by rw [Hid]; simpa [bcells] using Own.nil _ _ _, Below.refl _ _⟩
  case round =>
    obtain ⟨k, c, hk, rfl, HC, HN, HW⟩ := hrel
    by_cases hlt : k < n
    · obtain rfl := HC.out
      have HX : Hid ((hiL v n).take (k + 1) = (hiL v n).take k ++ [hiB v n k]) := take_snoc_of (by simp [hiL, hlt])
      have y3 := IntWalk.i64_in (8 * ((n : Int) - 1 - (k : Int))) (by omega)
      have y4 : (8 * ((n : Int) - 1 - (k : Int))).toNat = 8 * (n - 1 - k) := by omega
      have y5 : (0 : Int) ≤ 8 * ((n : Int) - 1 - (k : Int)) := by omega
      have y6 : (0 : Int) ≤ (n : Int) - 1 - (k : Int) := by omega
      have HV := hiB_val v n k
      go_wp2_with (at_builtin; refine appO el_u8 w.heap.size rfl _ _ rfl rfl (HN.out.alloc _) (news := bcells [hiB v n k]) rfl rfl (by rw [← HV] ; exact rowAt_alloc _ _ _) (one_bcells _) (by omega) (by have := HW.out.size; simp; omega) ?_; intro v1 w3 hown1 hg1 _; have HO3 : Hid (Own w3 w.heap.size 1 v1 (k + 1) (bcells ((hiL v n).take (k + 1)))) := (by rw [HX.out, bcells, List.map_append]; exact hown1); have HB3 : Hid (Below w.heap.size w w3) := Own.grown_below (HN.out.alloc _) (HW.out.alloc HW.out.size _) hg1 (Nat.le_refl _); clear hown1 hg1)
      go_roundw
      case rel => exact ⟨k + 1, (n : Int) - 1 - (k : Int) - 1, by omega, rfl, by rw [Hid]; omega, HO3, HB3⟩
      case measure => simp [intOf]; omega
    · obtain rfl : k = n := by omega
      obtain rfl : c = -1 := by have := HC.out; omega
      obtain ⟨A, c, rfl, _, hr, _⟩ := HN.out.slice
      rw [List.take_of_length_le (by rw [hiL_length]; omega)] at hr
      have hcv := bytes_str Tryd.prog 31 5 9 Tryd.underlying31 Tryd.underlying5 Tryd.underlying9 A k c (hiL v k) wr (hiL_length _ _) hr
      clear hr
      go_wp2
      go_ret
      exact ⟨rfl, HW.out⟩

/-- So many zero bytes. -/
def zerosB (n : Nat) : ByteArray := ⟨(List.replicate n (0 : UInt8)).toArray⟩
theorem zerosB_size (n : Nat) : (zerosB n).size = n := by simp [zerosB, ByteArray.size]
theorem zeros_calls (n : Nat) (w : World) (hn : n ≤ 140737488355328) : Calls Tryd.prog 45 #[.int .i64 (n : Int)] w fun e w' => e = .returned (.string (zerosB n)) ∧ Below w.heap.size w w' := by
  have hmk := fun W => make_u8 n (by omega) W
  have hO := zeros_own w n (by unfold maxLen; omega)
  have hcv := bytes_str Tryd.prog 31 5 9 Tryd.underlying31 Tryd.underlying5 Tryd.underlying9 (some ⟨w.heap.size, 0, none⟩) n n (List.replicate n 0) _ (by simp) (by
        obtain ⟨A, c, e, _, hr, _⟩ := hO.slice
        injection e with e1 e2 e3
        subst e1
        exact hr)
  clear hO
  go_enter Tryd.func45, Tryd.ntmps45
  go_wp2
  go_ret
  exact ⟨rfl, (Below.refl _ _).alloc (Nat.le_refl _) _⟩

theorem hiL8 (n : Nat) : hiL n 8 = hi8 n := by
  simp [hiL, hi8, hiB, List.range_succ]
theorem hiL4 (x : BitVec 32) : hiL x.toNat 4 = hi4 x := by
  simp [hiL, hi4, hiB, List.range_succ]
/-- What stands behind so many bytes. -/
def padB (n : Int) : ByteArray := if n < 0 ∨ 1099511627776 < n then ByteArray.empty else ⟨(padL n.toNat).toArray⟩
theorem app_mk (a b : List UInt8) : (⟨a.toArray⟩ : ByteArray) ++ ⟨b.toArray⟩ = ⟨(a ++ b).toArray⟩ := by
  apply ByteArray.ext
  rw [ByteArray.data_append]
  simp
theorem repeatL_one (b : UInt8) (n : Nat) : Lib.repeatL [b] n = List.replicate n b := by
  induction n with
  | zero => rfl
  | succ n ih => rw [List.replicate_succ, ← ih]; rfl

set_option maxHeartbeats 1600000 in
theorem pad_calls (n : Int) (w : World) : Calls Tryd.prog 49 #[.int .i64 n] w fun e w' => e = .returned (.string (padB n)) ∧ Below w.heap.size w w' := by
  by_cases h0 : n < 0
  · have e : padB n = ByteArray.empty := by rw [padB, if_pos (.inl h0)]
    rw [e]
    go_enter Tryd.func49, Tryd.ntmps49
    go_wp2
    go_ret
    exact ⟨rfl, Below.refl _ _⟩
  by_cases h1 : 1099511627776 < n
  · have e : padB n = ByteArray.empty := by rw [padB, if_pos (.inr h1)]
    rw [e]
    go_enter Tryd.func49, Tryd.ntmps49
    go_wp2
    go_ret
    exact ⟨rfl, Below.refl _ _⟩
  obtain ⟨m, rfl⟩ : ∃ m : Nat, n = (m : Int) := ⟨n.toNat, by omega⟩
  have e : padB (m : Int) = ⟨(padL m).toArray⟩ := by rw [padB, if_neg (by omega)]; rfl
  rw [e]
  clear e
  have hm : m ≤ 1099511627776 := by omega
  clear h0 h1
  obtain ⟨z, hz⟩ : ∃ z, (119 - m % 64) % 64 = z := ⟨_, rfl⟩
  have hz1 : (119 - (m : Int) % 64) % 64 = (z : Int) := by omega
  have hz2 : z < 64 := by omega
  have HZ := Lib.hid hz
  clear hz
  go_enter Tryd.func49, Tryd.ntmps49
  go_wp2_with fail
  refine (Tryd.strings_Repeat ⟨#[0]⟩ z _ (by omega) (by simp [ByteArray.size]; omega)).mono ?_
  rintro e w1 ⟨rfl, hb1⟩
  have HB1 := Lib.hid hb1; clear hb1
  have hr1 : (⟨(Lib.repeatL (⟨#[0]⟩ : ByteArray).data.toList z).toArray⟩ : ByteArray).size = z := by
    show (⟨(Lib.repeatL [0] z).toArray⟩ : ByteArray).size = z
    rw [repeatL_one]; simp [ByteArray.size]
  obtain ⟨r, hr⟩ : ∃ r, (⟨(Lib.repeatL (⟨#[0]⟩ : ByteArray).data.toList z).toArray⟩ : ByteArray) = r := ⟨_, rfl⟩
  rw [hr] at hr1 ⊢
  have HR := Lib.hid hr; clear hr
  have hr2 : r.size < 64 := by omega
  clear hr1
  go_wp2_with fail
  refine (high_calls (8 * m) 8 _ (by omega) (by omega)).mono ?_
  rintro e w2 ⟨rfl, hb2⟩
  have HB2 := Lib.hid (below_trans' HB1.out hb2); clear hb2
  have hq1 : (⟨(hiL (8 * m) 8).toArray⟩ : ByteArray).size = 8 := by simp [ByteArray.size, hiL_length]
  obtain ⟨q, hq⟩ : ∃ q, (⟨(hiL (8 * m) 8).toArray⟩ : ByteArray) = q := ⟨_, rfl⟩
  rw [hq] at hq1 ⊢
  have HQ := Lib.hid hq; clear hq
  have hq2 : q.size ≤ 8 := by omega
  clear hq1
  go_wp2
  go_ret
  refine ⟨ret_str ?_, HB2.out⟩
  rw [← HR.out, ← HQ.out, repeatL_one, show (⟨#[128]⟩ : ByteArray) = ⟨([128] : List UInt8).toArray⟩ from rfl, app_mk, app_mk, hiL8, padL, HZ.out]
  rfl

set_option maxHeartbeats 1600000 in
theorem refPad_calls (n : Int) (w : World) : Calls Tryd.prog 59 #[.int .i64 n] w fun e w' => e = .returned (.string (padB n)) ∧ Below w.heap.size w w' := by
  by_cases h0 : n < 0
  · have e : padB n = ByteArray.empty := by rw [padB, if_pos (.inl h0)]
    rw [e]
    go_enter Tryd.func59, Tryd.ntmps59
    go_wp2
    go_ret
    exact ⟨rfl, Below.refl _ _⟩
  by_cases h1 : 1099511627776 < n
  · have e : padB n = ByteArray.empty := by rw [padB, if_pos (.inr h1)]
    rw [e]
    go_enter Tryd.func59, Tryd.ntmps59
    go_wp2
    go_ret
    exact ⟨rfl, Below.refl _ _⟩
  obtain ⟨m, rfl⟩ : ∃ m : Nat, n = (m : Int) := ⟨n.toNat, by omega⟩
  have e : padB (m : Int) = ⟨(padL m).toArray⟩ := by rw [padB, if_neg (by omega)]; rfl
  rw [e]
  clear e
  have hm : m ≤ 1099511627776 := by omega
  clear h0 h1
  obtain ⟨z, hz⟩ : ∃ z, (119 - m % 64) % 64 = z := ⟨_, rfl⟩
  have hz1 : (119 - (m : Int) % 64) % 64 = (z : Int) := by omega
  have hz2 : z < 64 := by omega
  have HZ := Lib.hid hz
  clear hz
  go_enter Tryd.func59, Tryd.ntmps59
  go_wp2_with fail
  refine (zeros_calls z _ (by omega)).mono ?_
  rintro e w1 ⟨rfl, hb1⟩
  have HB1 := Lib.hid hb1; clear hb1
  have hr1 := zerosB_size z
  obtain ⟨r, hr⟩ : ∃ r, zerosB z = r := ⟨_, rfl⟩
  rw [hr] at hr1 ⊢
  have HR := Lib.hid hr; clear hr
  have hr2 : r.size < 64 := by omega
  clear hr1
  go_wp2_with fail
  refine (refHigh_calls (8 * m) 8 _ (by omega) (by omega)).mono ?_
  rintro e w2 ⟨rfl, hb2⟩
  have HB2 := Lib.hid (below_trans' HB1.out hb2); clear hb2
  have hq1 : (⟨(hiL (8 * m) 8).toArray⟩ : ByteArray).size = 8 := by simp [ByteArray.size, hiL_length]
  obtain ⟨q, hq⟩ : ∃ q, (⟨(hiL (8 * m) 8).toArray⟩ : ByteArray) = q := ⟨_, rfl⟩
  rw [hq] at hq1 ⊢
  have HQ := Lib.hid hq; clear hq
  have hq2 : q.size ≤ 8 := by omega
  clear hq1
  go_wp2
  go_ret
  refine ⟨ret_str ?_, HB2.out⟩
  rw [← HR.out, ← HQ.out, zerosB, show (⟨#[128]⟩ : ByteArray) = ⟨([128] : List UInt8).toArray⟩ from rfl, app_mk, app_mk, hiL8, padL, HZ.out]
  rfl

/-- An append as a step of a region that draws its order. -/
theorem step_appO {P : Program} {ops : Array Oper} {o : Oper} {a : Act} {K : Act → World → Prop} {Q : Exit → Act → World → Prop} {E' : Prop} {t e : TypeId} {size bytes : Nat} (E : El P t e size bytes) {W : World} (base : Nat) (hgd : o.guard = none) (s x : Operand)
    (ho : o.op = .call { callee := .builtin .append, args := #[s, x], argTypes := #[t, t] })
    {v : Value} {n : Nat} {xs : List Value} (hs : a.eval s = v) (hown : Own W base size v n xs)
    {A : Option Addr} {m c : Nat} {news : List Value} (hx : a.eval x = .slice A m c) (hl : news.length = m * size) (hR : RowAt W A news) (h1 : ∀ u ∈ news, u.oneCell' = true)
    (hbytes : (n + m) * bytes ≤ 140737488355328) (hbase : base ≤ W.heap.size)
    (h : ∀ v' w', Own w' base size v' (n + m) (xs ++ news) → W.grownBy w' v.ownBlock → (v'.ownBlock = v.ownBlock ∨ ∃ b, v'.ownBlock = some b ∧ W.heap.size ≤ b) → K (a.put o.dst v') w') :
    if Region.wanted o (yielded ops a.tmps) = true then Oper.wp P o a W K Q else E' := by
  have hw : Region.wanted o (yielded ops a.tmps) = true := by simp [Region.wanted, hgd]
  rw [if_pos hw]
  obtain ⟨v', w', hr, h2, h3, h4⟩ := run_appO E W base o.type v n xs hown A m c news hl hR h1 hbytes hbase
  unfold Oper.wp execOp
  simp only [ho, resolve, invoke, builtin, Sem.run_bind, Sem.run_pure, Result.andThen_ok, List.map_toArray, List.map_cons, List.map_nil, hs, hx, hr]
  exact h v' w' h2 h3 h4

theorem RowAt.drew {w : World} {A : Option Addr} {cs : List Value} (h : RowAt w A cs) : RowAt w.drew A cs := h
/-- Bytes in digits. -/
def hexD (n : Nat) : UInt8 := if n < 10 then UInt8.ofNat (48 + n) else UInt8.ofNat (87 + n)
def hexL (l : List UInt8) : List UInt8 := l.flatMap fun b => [hexD (b.toNat / 16), hexD (b.toNat % 16)]
theorem hexL_snoc (l : List UInt8) (b : UInt8) : hexL (l ++ [b]) = hexL l ++ [hexD (b.toNat / 16), hexD (b.toNat % 16)] := by simp [hexL]
theorem hexL_length (l : List UInt8) : (hexL l).length = 2 * l.length := by
  induction l with
  | nil => rfl
  | cons b l ih => simp only [hexL, List.flatMap_cons, List.length_append, List.length_cons, List.length_nil] at *; omega
def hexDigits : ByteArray := ⟨#[48, 49, 50, 51, 52, 53, 54, 55, 56, 57, 97, 98, 99, 100, 101, 102]⟩
theorem hexD_at (n : Nat) (h : n < hexDigits.size) : hexDigits[n] = hexD n := by
  have h' : n < 16 := h
  revert h
  have : ∀ m : Fin 16, ∀ h : m.val < hexDigits.size, hexDigits[m.val] = hexD m.val := by decide
  intro h
  exact this ⟨n, h'⟩ h
theorem hexD_lit (q : Nat) (h : q < (⟨#[48, 49, 50, 51, 52, 53, 54, 55, 56, 57, 97, 98, 99, 100, 101, 102]⟩ : ByteArray).size) : (⟨#[48, 49, 50, 51, 52, 53, 54, 55, 56, 57, 97, 98, 99, 100, 101, 102]⟩ : ByteArray)[q] = hexD q := hexD_at q h

set_option maxHeartbeats 1600000 in
set_option maxRecDepth 100000 in
theorem hex_calls (s : ByteArray) (w : World) (hs : s.size ≤ 1000000) : Calls Tryd.prog 25 #[.string s] w fun e w' => e = .returned (.string ⟨(hexL s.data.toList).toArray⟩) ∧ Below w.heap.size w w' := by
  go_enter Tryd.func25, Tryd.ntmps25
  go_wp2
  go_loopw [3, 4] (fun x i wr => ∃ k : Nat, k ≤ s.size ∧ i = .int .i64 k ∧ Hid (Own wr w.heap.size 1 x (k * 2) (bcells (hexL (s.data.toList.take k)))) ∧ Hid (Below w.heap.size w wr)) (fun _ i _ => s.size - (intOf i).toNat)
  case atStart => exact ⟨0, by omega, rfl, by rw [Hid]; simpa [bcells, hexL] using Own.nil _ _ _, Below.refl _ _⟩
  case round =>
    obtain ⟨k, hk, rfl, HN, HW⟩ := hrel
    by_cases hlt : k < s.size
    · have HX : Hid (hexL (s.data.toList.take (k + 1)) = hexL (s.data.toList.take k) ++ [hexD (s[k].toNat / 16), hexD (s[k].toNat % 16)]) := by rw [Hid, take_snoc_str s k hlt, hexL_snoc]
      have hx2 : s[k].toNat < 256 := s[k].toNat_lt
      obtain ⟨q, hq⟩ : ∃ q, s[k].toNat / 16 = q := ⟨_, rfl⟩
      obtain ⟨r, hr⟩ : ∃ r, s[k].toNat % 16 = r := ⟨_, rfl⟩
      rw [hq, hr] at HX
      have e1 : (s[k].toNat : Int) / 16 = (q : Int) := by omega
      have e2 : (s[k].toNat : Int).tmod 16 = (r : Int) := by rw [Int.tmod_eq_emod_of_nonneg (by omega)]; omega
      have e3 : IntKind.u8.wrap (q : Int) = (q : Int) := by rw [IntKind.wrap_u8']; omega
      have e4 : IntKind.u8.wrap (r : Int) = (r : Int) := by rw [IntKind.wrap_u8']; omega
      have q1 : (q : Int) < 16 := by omega
      have r1 : (r : Int) < 16 := by omega
      have q2 : q < 16 := by omega
      have r2 : r < 16 := by omega
      have v1 := hexD_lit q
      have v2 := hexD_lit r
      clear hq hr hx2
      have j1 : (0 : Int) ≤ (k : Int) := by omega
      have j2 : (k : Int) < (s.size : Int) := by omega
      go_wp2
      go_region_law
        ((refine step_appO el_u8 w.heap.size rfl _ _ rfl rfl (HN.out.alloc _).drew (news := bcells [hexD q, hexD r]) rfl rfl (rowAt_alloc _ _ _).drew (one_bcells _) (by omega) (by have := HW.out.size; simp; omega) ?_; intro v1 w3 hown1 hg1 _; have HO3 : Hid (Own w3 w.heap.size 1 v1 ((k + 1) * 2) (bcells (hexL (s.data.toList.take (k + 1))))) := (by rw [HX.out, bcells, List.map_append, show (k + 1) * 2 = k * 2 + 2 by omega]; exact hown1); have HB3 : Hid (Below w.heap.size w w3) := Own.grown_below (HN.out.alloc _).drew (below_drewN (HW.out.alloc HW.out.size _) 1) hg1 (Nat.le_refl _); clear hown1 hg1))
      all_goals
        go_wp2
        go_roundw
        case rel => exact ⟨k + 1, by omega, by go_num, HO3, HB3⟩
        case measure => simp [intOf]; omega
    · obtain rfl : k = s.size := by omega
      obtain ⟨A, c, rfl, _, hr, _⟩ := HN.out.slice
      rw [List.take_of_length_le (by rw [data_length]; omega)] at hr
      have hcv := bytes_str Tryd.prog 31 5 9 Tryd.underlying31 Tryd.underlying5 Tryd.underlying9 A _ c (hexL s.data.toList) wr (by rw [hexL_length, data_length, Nat.mul_comm]) hr
      clear hr
      go_wp2
      go_ret
      exact ⟨rfl, HW.out⟩
end Go.Proofs.YtbkankpfkbafdaaDoor

/- append onto a row of the call's own: that the old cells stay where they were is told too. -/
namespace Go.Proofs.YtbkankpfkbafdaaDoor
open Go.RowKit

/-- A fact that no tactic looks into. -/
structure Box (p : Prop) : Prop where
  out : p

theorem row_cell {w : World} {g j : Nat} {xs : List Value} {u : Value} (h : RowAt w (some ⟨g, 0, none⟩) xs) (hj : xs[j]? = some u) : w.cell? ⟨g, j, none⟩ = some u := by
  obtain ⟨ad, e, hc⟩ := h.get hj
  injection e with e
  subst e
  rwa [add0] at hc
/-- append(v, x...): v a row of one's own, x any row. -/
theorem run_appO2 {P : Program} {t e : TypeId} {size bytes : Nat} (E : El P t e size bytes) (W : World) (base : Nat) (ty : TypeId) (v : Value) (n : Nat) (xs : List Value) (hown : Own W base size v n xs)
    (A : Option Addr) (m c : Nat) (news : List Value) (hl : news.length = m * size) (hR : RowAt W A news) (h1 : ∀ u ∈ news, u.oneCell' = true)
    (hbytes : (n + m) * bytes ≤ 140737488355328) (hbase : base ≤ W.heap.size) :
    ∃ v' w', (Builtin.append_ #[t, t] ty #[v, .slice A m c]).run P W = .ok v' w' ∧ Own w' base size v' (n + m) (xs ++ news) ∧ W.grownBy w' v.ownBlock ∧ (v'.ownBlock = v.ownBlock ∨ ∃ b, v'.ownBlock = some b ∧ W.heap.size ≤ b) ∧ (∀ A c, v = .slice A n c → RowAt w' A xs) ∧ (v'.ownBlock ≠ v.ownBlock → Below W.heap.size W w') := by
  rcases hown.2 with ⟨rfl, rfl⟩ | ⟨g, cap, rfl, hb, hg, hn, hm, hc, hx⟩
  · obtain rfl : xs = [] := List.eq_nil_of_length_eq_zero (by simpa using hown.1)
    obtain ⟨v', w', hr, h2, h3, h4⟩ := run_app E W base ty (.slice none 0 0) 0 [] (World.ownsRow_nil _ _ _ _) A m c news hl hR h1 hbytes hbase
    refine ⟨v', w', hr, Own.of_row h2, h3, ?_, fun _ _ _ => .nil _ _, fun _ => ⟨h3.os, h3.tape, h3.output, h3.size, fun k hk => h3.block k hk (by simp [Value.ownBlock])⟩⟩
    rcases h4 with h4 | h4
    · exact .inl h4
    · exact .inr ⟨_, h4, Nat.le_refl _⟩
  · obtain ⟨ht, hsz, hb0, i, z, hi, hz, rfl, rfl, hzs⟩ := E
    have hlen : n + m ≤ 140737488355328 := Nat.le_trans (Nat.le_mul_of_pos_right _ hb0) hbytes
    rcases A with _ | ad
    · have hm0 : m = 0 := by
        rcases hR with rfl | ⟨ad, h, _⟩
        · rcases Nat.eq_zero_or_pos m with h0 | h0
          · exact h0
          · have := Nat.mul_pos h0 hsz
            simp at hl; omega
        · cases h
      subst hm0
      obtain rfl : news = [] := List.eq_nil_of_length_eq_zero (by simpa using hl)
      refine ⟨_, W, ?_, by simpa using hown, World.grownBy.refl W _, .inl rfl, fun A c he => ?_, fun _ => Below.refl _ _⟩
      rotate_left
      · obtain ⟨A', c', e', _, hr', _⟩ := hown.slice
        rw [he] at e'
        injection e' with e1 e2 e3
        subst e1
        exact hr'
      simp [Builtin.append_, run_underlying ht, sizeOf, typeInfo, hi, Builtin.lenOf, Builtin.firstCells, hn, storeCells]
    · have hcells : ∀ j u, news[j]? = some u → W.cell? (ad.add j) = some u := by
        intro j u hu
        obtain ⟨ad', h, hc⟩ := hR.get hu
        injection h with h
        subst h
        exact hc
      by_cases hroom : n + m ≤ cap
      · have hin : ∀ j, j < news.length → n * i.size + j < cap * i.size := by
          intro j hj
          rw [hl] at hj
          have := Nat.mul_le_mul_right i.size hroom
          rw [Nat.add_mul] at this
          omega
        have hr := run_append_room_cells (P := P) W t ty e i ht hi g 0 n cap ad m c news hl hcells h1 hroom (fun j hj => by rw [Nat.zero_add]; exact (hc _ (hin j hj)).1) (fun j hj => by rw [Nat.zero_add]; exact (hc _ (hin j hj)).2)
        rw [Nat.zero_add] at hr
        refine ⟨_, _, hr, ⟨by rw [List.length_append, hown.1, hl, Nat.add_mul], .inr ⟨g, cap, rfl, hb, Nat.lt_of_lt_of_le hg (grownBy_setCells g _ _ W).size, hroom, hm, fun j hj => ?_, fun j u hu => ?_⟩⟩, grownBy_setCells g _ _ W, .inl rfl, fun A' c' he => ?_, fun h => absurd rfl h⟩
        rotate_right
        · injection he with e1 e2 e3
          subst e1
          refine .inr ⟨_, rfl, fun j u hu => ?_⟩
          rw [add0, World.cell?_setCells_out g news _ W ⟨g, j, none⟩ (by intro _ _; have := (List.getElem?_eq_some_iff.1 hu).1; rw [hown.1] at this; simp only; omega)]
          exact hx j u hu
        · refine ⟨?_, by rw [World.frozen?_setCells]; exact (hc j hj).2⟩
          by_cases hjn : n * i.size ≤ j ∧ j < n * i.size + news.length
          · have := World.cell?_setCells_in g news (n * i.size) W (fun k hk => (hc _ (hin k hk)).1) (j - n * i.size) (by omega)
            rw [show n * i.size + (j - n * i.size) = j by omega] at this
            rw [this]; rfl
          · rw [World.cell?_setCells_out g news _ W ⟨g, j, none⟩ (by intro _ _; simp only; omega)]
            exact (hc j hj).1
        · have hxl : xs.length = n * i.size := hown.1
          rcases Nat.lt_or_ge j xs.length with hj | hj
          · rw [List.getElem?_append_left hj] at hu
            rw [World.cell?_setCells_out g news _ W ⟨g, j, none⟩ (by intro _ _; simp only; omega)]
            exact hx j u hu
          · rw [List.getElem?_append_right hj] at hu
            have hjl := (List.getElem?_eq_some_iff.1 hu).1
            have := World.cell?_setCells_in g news (n * i.size) W (fun k hk => (hc _ (hin k hk)).1) (j - xs.length) hjl
            rw [show n * i.size + (j - xs.length) = j by omega] at this
            rw [this, ← hu, List.getElem?_eq_getElem hjl]
      · obtain ⟨v', w', hr, h2, h3⟩ := run_append_arg_grows (P := P) W t ty e i z i.size i.bytes ht hi hz rfl rfl hzs hsz ⟨g, 0, none⟩ n cap xs hown.1 (fun j u hu => by rw [add0]; exact hx j u hu) ad m c news hl hcells (by omega) (by simp only [maxLen]; omega) hbytes
        have hO := Own.of_row h2
        have hnm : 0 < n + m := by omega
        obtain ⟨g', cap', rfl, hb', _⟩ := hO.form hnm
        have hbl : Below W.heap.size W w' := ⟨h3.os, h3.tape, h3.output, h3.size, fun k hk => h3.block k hk (by simp)⟩
        refine ⟨_, w', hr, hO.weaken hbase, ⟨h3.os, h3.tape, h3.output, h3.size, fun k hk _ => h3.block k hk (by simp)⟩, .inr ⟨g', rfl, hb'⟩, fun A' c' he => ?_, fun _ => hbl⟩
        injection he with e1 e2 e3
        subst e1
        exact .inr ⟨_, rfl, fun j u hu => by rw [add0]; exact cell_kept hbl (Nat.le_refl _) (hx j u hu)⟩

section
variable {P : Program} {ops : Array Oper} {rest : List Oper} {o : Oper} {a : Act} {Q : Exit → Act → World → Prop}
/-- The same as a step of the walk, behind 'at_builtin'. -/
theorem appO2 {t e : TypeId} {size bytes : Nat} (E : El P t e size bytes) {W : World} (base : Nat) (hgd : o.guard = none) (s x : Operand)
    (ho : o.op = .call { callee := .builtin .append, args := #[s, x], argTypes := #[t, t] })
    {v : Value} {n : Nat} {xs : List Value} (hs : a.eval s = v) (hown : Own W base size v n xs)
    {A : Option Addr} {m c : Nat} {news : List Value} (hx : a.eval x = .slice A m c) (hl : news.length = m * size) (hR : RowAt W A news) (h1 : ∀ u ∈ news, u.oneCell' = true)
    (hbytes : (n + m) * bytes ≤ 140737488355328) (hbase : base ≤ W.heap.size)
    (h : ∀ v' w', Own w' base size v' (n + m) (xs ++ news) → W.grownBy w' v.ownBlock → (v'.ownBlock = v.ownBlock ∨ ∃ b, v'.ownBlock = some b ∧ W.heap.size ≤ b) → (∀ A c, v = .slice A n c → RowAt w' A xs) → (v'.ownBlock ≠ v.ownBlock → Below W.heap.size W w') → wpList P ops Q rest (a.put o.dst v') w') :
    wpList P ops Q (o :: rest) a W := by
  obtain ⟨v', w', hr, h2, h3, h4, h5, h6⟩ := run_appO2 E W base o.type v n xs hown A m c news hl hR h1 hbytes hbase
  refine wpList_plain hgd fun K hK => ?_
  unfold Oper.wp execOp
  simp only [ho, resolve, invoke, builtin, Sem.run_bind, Sem.run_pure, Result.andThen_ok, List.map_toArray, List.map_cons, List.map_nil, hs, hx, hr]
  exact hK _ _ (h v' w' h2 h3 h4 h5 h6)
end
/-- An append as a step of a region that draws its order. -/
theorem step_appO2 {P : Program} {ops : Array Oper} {o : Oper} {a : Act} {K : Act → World → Prop} {Q : Exit → Act → World → Prop} {E' : Prop} {t e : TypeId} {size bytes : Nat} (E : El P t e size bytes) {W : World} (base : Nat) (hgd : o.guard = none) (s x : Operand)
    (ho : o.op = .call { callee := .builtin .append, args := #[s, x], argTypes := #[t, t] })
    {v : Value} {n : Nat} {xs : List Value} (hs : a.eval s = v) (hown : Own W base size v n xs)
    {A : Option Addr} {m c : Nat} {news : List Value} (hx : a.eval x = .slice A m c) (hl : news.length = m * size) (hR : RowAt W A news) (h1 : ∀ u ∈ news, u.oneCell' = true)
    (hbytes : (n + m) * bytes ≤ 140737488355328) (hbase : base ≤ W.heap.size)
    (h : ∀ v' w', Own w' base size v' (n + m) (xs ++ news) → W.grownBy w' v.ownBlock → (v'.ownBlock = v.ownBlock ∨ ∃ b, v'.ownBlock = some b ∧ W.heap.size ≤ b) → (∀ A c, v = .slice A n c → RowAt w' A xs) → (v'.ownBlock ≠ v.ownBlock → Below W.heap.size W w') → K (a.put o.dst v') w') :
    if Region.wanted o (yielded ops a.tmps) = true then Oper.wp P o a W K Q else E' := by
  have hw : Region.wanted o (yielded ops a.tmps) = true := by simp [Region.wanted, hgd]
  rw [if_pos hw]
  obtain ⟨v', w', hr, h2, h3, h4, h5, h6⟩ := run_appO2 E W base o.type v n xs hown A m c news hl hR h1 hbytes hbase
  unfold Oper.wp execOp
  simp only [ho, resolve, invoke, builtin, Sem.run_bind, Sem.run_pure, Result.andThen_ok, List.map_toArray, List.map_cons, List.map_nil, hs, hx, hr]
  exact h v' w' h2 h3 h4 h5 h6
end Go.Proofs.YtbkankpfkbafdaaDoor

/- What a call changes when it writes into a few blocks that are known: everything else stays. -/
namespace Go.Proofs.YtbkankpfkbafdaaDoor
open Go.RowKit

/-- Of the blocks that were there only those of bs may have changed. -/
structure Touched (w w' : World) (bs : List Nat) : Prop where
  os : w'.os = w.os
  tape : w'.tape = w.tape
  output : w'.output = w.output
  size : w.heap.size ≤ w'.heap.size
  block : ∀ k, k < w.heap.size → k ∉ bs → w'.heap[k]? = w.heap[k]?

theorem Touched.refl (w : World) (bs : List Nat) : Touched w w bs := ⟨rfl, rfl, rfl, Nat.le_refl _, fun _ _ _ => rfl⟩
theorem Touched.mono {w w' : World} {bs cs : List Nat} (h : Touched w w' bs) (hs : ∀ k ∈ bs, k < w.heap.size → k ∈ cs) : Touched w w' cs :=
  ⟨h.os, h.tape, h.output, h.size, fun k hk hn => h.block k hk fun hb => hn (hs k hb hk)⟩
theorem Touched.trans {w w1 w2 : World} {bs : List Nat} (h : Touched w w1 bs) (k : Touched w1 w2 bs) : Touched w w2 bs :=
  ⟨k.os.trans h.os, k.tape.trans h.tape, k.output.trans h.output, Nat.le_trans h.size k.size, fun j hj hn => (k.block j (Nat.lt_of_lt_of_le hj h.size) hn).trans (h.block j hj hn)⟩
/-- .. where the second step may also change what the first one has made. -/
theorem Touched.trans' {w w1 w2 : World} {bs cs : List Nat} (h : Touched w w1 bs) (k : Touched w1 w2 cs) (hc : ∀ j ∈ cs, j ∈ bs ∨ w.heap.size ≤ j) : Touched w w2 bs :=
  ⟨k.os.trans h.os, k.tape.trans h.tape, k.output.trans h.output, Nat.le_trans h.size k.size, fun j hj hn => (k.block j (Nat.lt_of_lt_of_le hj h.size) (fun hm => (hc j hm).elim hn (fun h1 => by omega))).trans (h.block j hj hn)⟩
theorem Touched.of_below {w w' : World} (h : Below w.heap.size w w') (bs : List Nat) : Touched w w' bs := ⟨h.os, h.tape, h.output, h.size, fun k hk _ => h.block k hk⟩
theorem Touched.of_grown {w w' : World} {row : Option Nat} (h : w.grownBy w' row) : Touched w w' row.toList := by
  refine ⟨h.os, h.tape, h.output, h.size, fun k hk hn => h.block k hk fun e => hn ?_⟩
  rw [← e]; simp
theorem Touched.alloc {w w' : World} {bs : List Nat} (h : Touched w w' bs) (o : Obj) : Touched w (w'.alloc o) bs :=
  h.trans (Touched.of_below ((Below.refl _ _).alloc (Nat.le_refl _) o) bs)
theorem Touched.drewN {w w' : World} {bs : List Nat} (h : Touched w w' bs) (n : Nat) : Touched w (w'.drewN n) bs := ⟨h.os, h.tape, h.output, h.size, h.block⟩
theorem Touched.drew {w w' : World} {bs : List Nat} (h : Touched w w' bs) : Touched w w'.drew bs := ⟨h.os, h.tape, h.output, h.size, h.block⟩
theorem Touched.setCell {w w' : World} {bs : List Nat} (h : Touched w w' bs) {a : Addr} (ha : a.block ∈ bs ∨ w.heap.size ≤ a.block) (v : Value) : Touched w (w'.setCell a v) bs := by
  refine ⟨h.os, h.tape, h.output, Nat.le_trans h.size (by simp [World.setCell]), fun k hk hn => ?_⟩
  rw [Below.heap_setCell w' a v k (fun e => by
    rcases ha with ha | ha
    · exact hn (by rw [e]; exact ha)
    · omega)]
  exact h.block k hk hn
theorem Touched.below {B : Nat} {a w w' : World} {bs : List Nat} (h : Touched w w' bs) (hb : Below B a w) (hB : B ≤ w.heap.size) (hs : ∀ k ∈ bs, B ≤ k) : Below B a w' :=
  ⟨h.os.trans hb.os, h.tape.trans hb.tape, h.output.trans hb.output, Nat.le_trans hb.size h.size, fun k hk => (h.block k (by omega) (fun hm => by have := hs k hm; omega)).trans (hb.block k hk)⟩
theorem Touched.own {w w' : World} {base sz n : Nat} {v : Value} {xs : List Value} {bs : List Nat} (h : Touched w w' bs) (ho : Own w base sz v n xs) (hv : ∀ k, v.ownBlock = some k → k ∉ bs) : Own w' base sz v n xs := by
  obtain ⟨h1, h2⟩ := ho
  refine ⟨h1, ?_⟩
  rcases h2 with h2 | ⟨g, cap, rfl, hb, hl, hn, hm, hc, hx⟩
  · exact .inl h2
  · have e : w'.heap[g]? = w.heap[g]? := h.block g hl (hv g (by simp [Value.ownBlock]))
    refine .inr ⟨g, cap, rfl, hb, Nat.lt_of_lt_of_le hl h.size, hn, hm, fun j hj => ?_, fun j u hu => ?_⟩
    · rw [World.cell?_of_block (w := w) (a := ⟨g, j, none⟩) e, World.frozen?_of_block (w := w) (a := ⟨g, j, none⟩) e]
      exact hc j hj
    · rw [World.cell?_of_block (w := w) (a := ⟨g, j, none⟩) e]
      exact hx j u hu
theorem Touched.cell {w w' : World} {bs : List Nat} (h : Touched w w' bs) {g j : Nat} (hg : g < w.heap.size) (hn : g ∉ bs) : w'.cell? ⟨g, j, none⟩ = w.cell? ⟨g, j, none⟩ :=
  World.cell?_of_block (w := w) (a := ⟨g, j, none⟩) (h.block g hg hn)
theorem Touched.free {w w' : World} {bs : List Nat} (h : Touched w w' bs) {g j : Nat} (hg : g < w.heap.size) (hn : g ∉ bs) : w'.frozen? ⟨g, j, none⟩ = w.frozen? ⟨g, j, none⟩ :=
  World.frozen?_of_block (w := w) (a := ⟨g, j, none⟩) (h.block g hg hn)

theorem ownBlock_lt {w : World} {base sz n : Nat} {v : Value} {xs : List Value} (h : Own w base sz v n xs) {k : Nat} (hk : v.ownBlock = some k) : base ≤ k ∧ k < w.heap.size := h.lt k hk
end Go.Proofs.YtbkankpfkbafdaaDoor

/- Words for regions that draw their order, and for rows behind what a call changed (of no one seat's functions). -/
namespace Go.Proofs.YtbkankpfkbafdaaDoor
open Go.RowKit

theorem rowAt_alloc_k (w : World) (cs : List Value) (t : TypeId) {k : Nat} (hk : k = w.heap.size) : RowAt (w.alloc (.cells cs.toArray t)) (some ⟨k, 0, none⟩) cs := by
  subst hk
  exact rowAt_alloc w cs t
theorem bel_alloc {w W : World} (h : Below w.heap.size w W) (o : Obj) : Below w.heap.size w (W.alloc o) := h.alloc h.size o
theorem bel_drew {w W : World} (h : Below w.heap.size w W) : Below w.heap.size w W.drew := ⟨h.os, h.tape, h.output, h.size, h.block⟩
theorem bel_calls {w W w' : World} (h : Below w.heap.size w W) (k : Below W.heap.size W w') : Below w.heap.size w w' := below_trans' h k
theorem row_drew {w : World} {A : Option Addr} {cs : List Value} (h : RowAt w A cs) : RowAt w.drew A cs := h
theorem grown_nil {W w' : World} {n c : Nat} (h : W.grownBy w' (Value.slice none n c).ownBlock) : Below W.heap.size W w' := ⟨h.os, h.tape, h.output, h.size, fun k hk => h.block k hk (by simp [Value.ownBlock])⟩
theorem row_touched {w w' : World} {A : Option Addr} {xs : List Value} {bs : List Nat} (h : RowAt w A xs) (hT : Touched w w' bs) (hA : A = none ∨ ∃ g, A = some ⟨g, 0, none⟩ ∧ g ∉ bs) : RowAt w' A xs := by
  rcases hA with rfl | ⟨g, rfl, hg⟩
  · rcases h with h | ⟨ad, e, _⟩
    · exact .inl h
    · cases e
  · rcases h with h | ⟨ad, e, hc⟩
    · exact .inl h
    · refine .inr ⟨ad, e, fun j u hu => ?_⟩
      injection e with e
      subst e
      have := hc j u hu
      rw [add0] at this ⊢
      exact (hT.cell (World.block_lt_of_cell? w _ this) hg).trans this

end Go.Proofs.YtbkankpfkbafdaaDoor

/- mark.Compare: two fingerprints held against each other; the document's Compare; cmp.Compare, cmp.Or. -/
namespace Go.Proofs.YtbkankpfkbafdaaDoor
open Go.RowKit

theorem less_cons (x y : UInt8) (a b : List UInt8) : Op.bytesLess (x :: a) (y :: b) = true ↔ x.toNat < y.toNat ∨ (x = y ∧ Op.bytesLess a b = true) := by
  simp [Op.bytesLess, UInt8.lt_iff_toNat_lt]
theorem less_irrefl (l : List UInt8) : Op.bytesLess l l = false := by
  induction l with
  | nil => rfl
  | cons x l ih =>
    rw [Bool.eq_false_iff, Ne, less_cons]
    rintro (h | ⟨_, h⟩)
    · omega
    · rw [ih] at h; cases h
theorem less_trans {a b c : List UInt8} (h : Op.bytesLess a b = true) (k : Op.bytesLess b c = true) : Op.bytesLess a c = true := by
  induction a generalizing b c with
  | nil =>
    cases c with
    | nil => cases b <;> simp [Op.bytesLess] at k
    | cons z c => rfl
  | cons x a ih =>
    cases b with
    | nil => simp [Op.bytesLess] at h
    | cons y b =>
      cases c with
      | nil => simp [Op.bytesLess] at k
      | cons z c =>
        rw [less_cons] at h k ⊢
        rcases h with h | ⟨rfl, h⟩
        · rcases k with k | ⟨rfl, k⟩
          · left; omega
          · left; exact h
        · rcases k with k | ⟨rfl, k⟩
          · left; exact k
          · right; exact ⟨rfl, ih h k⟩
theorem less_asymm {a b : List UInt8} (h : Op.bytesLess a b = true) : Op.bytesLess b a = false := by
  cases k : Op.bytesLess b a
  · rfl
  · have := less_trans h k; rw [less_irrefl] at this; cases this
theorem less_total {a b : List UInt8} (h : Op.bytesLess a b = false) (hne : a ≠ b) : Op.bytesLess b a = true := by
  induction a generalizing b with
  | nil =>
    cases b with
    | nil => exact absurd rfl hne
    | cons y b => simp [Op.bytesLess] at h
  | cons x a ih =>
    cases b with
    | nil => rfl
    | cons y b =>
      rw [Bool.eq_false_iff, Ne, less_cons] at h
      rw [less_cons]
      by_cases e : x = y
      · subst e
        right
        refine ⟨rfl, ih ?_ (fun e => hne (by rw [e]))⟩
        rw [Bool.eq_false_iff]
        intro k; exact h (.inr ⟨rfl, k⟩)
      · left
        have : x.toNat ≠ y.toNat := fun k => e (UInt8.toNat_inj.1 k)
        omega

def cmpI (x y : Int) : Int := if x < y then -1 else if y < x then 1 else 0
def cmpS (a b : ByteArray) : Int := if Op.bytesLess a.toList b.toList = true then -1 else if a = b then 0 else 1
def cmpM (k1 : Int) (s1 : ByteArray) (k2 : Int) (s2 : ByteArray) : Int := if cmpI k1 k2 ≠ 0 then cmpI k1 k2 else cmpS s1 s2
theorem cmpS_lt {a b : ByteArray} (h : Op.bytesLess a.toList b.toList = true) : cmpS a b = -1 := by rw [cmpS, if_pos h]
theorem cmpS_gt {a b : ByteArray} (h : Op.bytesLess a.toList b.toList = false) (hne : a ≠ b) : cmpS a b = 1 := by rw [cmpS, if_neg (by simp [h]), if_neg hne]
theorem cmpS_self (a : ByteArray) : cmpS a a = 0 := by rw [cmpS, if_neg (by simp [less_irrefl]), if_pos rfl]
theorem cmpS_zero {a b : ByteArray} (h : cmpS a b = 0) : a = b := by
  unfold cmpS at h
  split at h
  · cases h
  · split at h
    · assumption
    · cases h
theorem cmpS_neg (a b : ByteArray) : cmpS b a = - cmpS a b := by
  by_cases e : a = b
  · subst e; rw [cmpS_self]; rfl
  · have hne : a.toList ≠ b.toList := fun h => e (str_inj h)
    cases h : Op.bytesLess a.toList b.toList
    · rw [cmpS_gt h e, cmpS_lt (less_total h hne)]
    · rw [cmpS_lt h, cmpS_gt (less_asymm h) (Ne.symm e)]; rfl
theorem cmpS_vals (a b : ByteArray) : cmpS a b = -1 ∨ cmpS a b = 0 ∨ cmpS a b = 1 := by
  unfold cmpS; split
  · exact .inl rfl
  · split
    · exact .inr (.inl rfl)
    · exact .inr (.inr rfl)
theorem cmpS_trans {a b c : ByteArray} (h : cmpS a b ≤ 0) (k : cmpS b c ≤ 0) : cmpS a c ≤ 0 := by
  by_cases e : a = b
  · subst e; exact k
  by_cases f : b = c
  · subst f; exact h
  have h1 : Op.bytesLess a.toList b.toList = true := by
    cases hh : Op.bytesLess a.toList b.toList
    · rw [cmpS_gt hh e] at h; omega
    · rfl
  have h2 : Op.bytesLess b.toList c.toList = true := by
    cases hh : Op.bytesLess b.toList c.toList
    · rw [cmpS_gt hh f] at k; omega
    · rfl
  rw [cmpS_lt (less_trans h1 h2)]; omega
theorem cmpM_self (k : Int) (s : ByteArray) : cmpM k s k s = 0 := by
  have : cmpI k k = 0 := by simp [cmpI]
  rw [cmpM, if_neg (by simp [this]), cmpS_self]
theorem cmpI_cases (x y : Int) : (x < y ∧ cmpI x y = -1) ∨ (x = y ∧ cmpI x y = 0) ∨ (y < x ∧ cmpI x y = 1) := by
  unfold cmpI
  split
  · exact .inl ⟨by assumption, rfl⟩
  · split
    · exact .inr (.inr ⟨by assumption, rfl⟩)
    · exact .inr (.inl ⟨by omega, rfl⟩)
theorem cmpM_cases (k1 : Int) (s1 : ByteArray) (k2 : Int) (s2 : ByteArray) : (k1 < k2 ∧ cmpM k1 s1 k2 s2 = -1) ∨ (k1 = k2 ∧ cmpM k1 s1 k2 s2 = cmpS s1 s2) ∨ (k2 < k1 ∧ cmpM k1 s1 k2 s2 = 1) := by
  unfold cmpM
  rcases cmpI_cases k1 k2 with ⟨h, e⟩ | ⟨h, e⟩ | ⟨h, e⟩
  · exact .inl ⟨h, by rw [e]; rfl⟩
  · exact .inr (.inl ⟨h, by rw [e]; rfl⟩)
  · exact .inr (.inr ⟨h, by rw [e]; rfl⟩)
theorem cmpM_neg (k1 : Int) (s1 : ByteArray) (k2 : Int) (s2 : ByteArray) : cmpM k2 s2 k1 s1 = - cmpM k1 s1 k2 s2 := by
  rcases cmpM_cases k1 s1 k2 s2 with ⟨h, e⟩ | ⟨h, e⟩ | ⟨h, e⟩
  · rcases cmpM_cases k2 s2 k1 s1 with ⟨h2, e2⟩ | ⟨h2, e2⟩ | ⟨h2, e2⟩ <;> omega
  · subst h
    rcases cmpM_cases k1 s2 k1 s1 with ⟨h2, e2⟩ | ⟨_, e2⟩ | ⟨h2, e2⟩
    · omega
    · rw [e, e2, cmpS_neg]
    · omega
  · rcases cmpM_cases k2 s2 k1 s1 with ⟨h2, e2⟩ | ⟨h2, e2⟩ | ⟨h2, e2⟩ <;> omega
theorem cmpM_vals (k1 : Int) (s1 : ByteArray) (k2 : Int) (s2 : ByteArray) : cmpM k1 s1 k2 s2 = -1 ∨ cmpM k1 s1 k2 s2 = 0 ∨ cmpM k1 s1 k2 s2 = 1 := by
  have := cmpS_vals s1 s2
  rcases cmpM_cases k1 s1 k2 s2 with ⟨h, e⟩ | ⟨h, e⟩ | ⟨h, e⟩ <;> omega
theorem cmpM_zero {k1 : Int} {s1 : ByteArray} {k2 : Int} {s2 : ByteArray} : cmpM k1 s1 k2 s2 = 0 ↔ k1 = k2 ∧ s1 = s2 := by
  constructor
  · intro h0
    rcases cmpM_cases k1 s1 k2 s2 with ⟨h, e⟩ | ⟨h, e⟩ | ⟨h, e⟩
    · omega
    · exact ⟨h, cmpS_zero (by rw [← e]; exact h0)⟩
    · omega
  · rintro ⟨rfl, rfl⟩; exact cmpM_self _ _
theorem cmpM_trans {k1 k2 k3 : Int} {s1 s2 s3 : ByteArray} (h : cmpM k1 s1 k2 s2 ≤ 0) (k : cmpM k2 s2 k3 s3 ≤ 0) : cmpM k1 s1 k3 s3 ≤ 0 := by
  rcases cmpM_cases k1 s1 k3 s3 with ⟨h3, e3⟩ | ⟨h3, e3⟩ | ⟨h3, e3⟩
  · omega
  · rcases cmpM_cases k1 s1 k2 s2 with ⟨h1, e1⟩ | ⟨h1, e1⟩ | ⟨h1, e1⟩
    · rcases cmpM_cases k2 s2 k3 s3 with ⟨h2, e2⟩ | ⟨h2, e2⟩ | ⟨h2, e2⟩ <;> omega
    · rcases cmpM_cases k2 s2 k3 s3 with ⟨h2, e2⟩ | ⟨h2, e2⟩ | ⟨h2, e2⟩
      · omega
      · rw [e3]; exact cmpS_trans (b := s2) (by omega) (by omega)
      · omega
    · omega
  · rcases cmpM_cases k1 s1 k2 s2 with ⟨h1, e1⟩ | ⟨h1, e1⟩ | ⟨h1, e1⟩
    · rcases cmpM_cases k2 s2 k3 s3 with ⟨h2, e2⟩ | ⟨h2, e2⟩ | ⟨h2, e2⟩ <;> omega
    · rcases cmpM_cases k2 s2 k3 s3 with ⟨h2, e2⟩ | ⟨h2, e2⟩ | ⟨h2, e2⟩ <;> omega
    · omega

theorem nanI_calls (x : Int) (w : World) : Calls Tryd.prog 57 #[.int .i64 x] w fun e w' => e = .returned (.bool false) ∧ w = w' := by
  go_enter Tryd.func57, Tryd.ntmps57
  go_wp2_with fail
  go_ret
  exact ⟨rfl, rfl⟩
theorem nanS_calls (s : ByteArray) (w : World) : Calls Tryd.prog 58 #[.string s] w fun e w' => e = .returned (.bool false) ∧ w = w' := by
  go_enter Tryd.func58, Tryd.ntmps58
  go_wp2_with fail
  go_ret
  exact ⟨rfl, rfl⟩
theorem cmpI_calls (x y : Int) (w : World) : Calls Tryd.prog 38 #[.int .i64 x, .int .i64 y] w fun e w' => e = .returned (.int .i64 (cmpI x y)) ∧ w = w' := by
  have N1 : Box _ := ⟨nanI_calls x⟩
  have N2 : Box _ := ⟨nanI_calls y⟩
  rcases cmpI_cases x y with ⟨h, e⟩ | ⟨h, e⟩ | ⟨h, e⟩
  · rw [e]
    clear e
    go_enter Tryd.func38, Tryd.ntmps38
    go_wp2_with fail
    refine (N1.out _).mono ?_
    rintro e w1 ⟨rfl, rfl⟩
    go_wp2_with fail
    refine (N2.out _).mono ?_
    rintro e w1 ⟨rfl, rfl⟩
    go_wp2_with fail
    go_ret
    exact ⟨rfl, rfl⟩
  · rw [e]
    clear e
    subst h
    go_enter Tryd.func38, Tryd.ntmps38
    go_wp2_with fail
    refine (N1.out _).mono ?_
    rintro e w1 ⟨rfl, rfl⟩
    go_wp2_with fail
    refine (N2.out _).mono ?_
    rintro e w1 ⟨rfl, rfl⟩
    go_wp2_with fail
    go_ret
    exact ⟨rfl, rfl⟩
  · rw [e]
    clear e
    have h2 : ¬ x < y := by omega
    go_enter Tryd.func38, Tryd.ntmps38
    go_wp2_with fail
    refine (N1.out _).mono ?_
    rintro e w1 ⟨rfl, rfl⟩
    go_wp2_with fail
    refine (N2.out _).mono ?_
    rintro e w1 ⟨rfl, rfl⟩
    go_wp2_with fail
    go_ret
    exact ⟨rfl, rfl⟩
theorem cmpS_calls (x y : ByteArray) (w : World) : Calls Tryd.prog 39 #[.string x, .string y] w fun e w' => e = .returned (.int .i64 (cmpS x y)) ∧ w = w' := by
  have N1 : Box _ := ⟨nanS_calls x⟩
  have N2 : Box _ := ⟨nanS_calls y⟩
  by_cases he : x = y
  · subst he
    have hl := less_irrefl x.toList
    rw [cmpS_self]
    go_enter Tryd.func39, Tryd.ntmps39
    go_wp2_with fail
    refine (N1.out _).mono ?_
    rintro e w1 ⟨rfl, rfl⟩
    go_wp2_with fail
    refine (N2.out _).mono ?_
    rintro e w1 ⟨rfl, rfl⟩
    go_wp2_with fail
    go_ret
    exact ⟨rfl, rfl⟩
  · have hq := str_ne he
    cases hl : Op.bytesLess x.toList y.toList
    · rw [cmpS_gt hl he]
      clear he
      go_enter Tryd.func39, Tryd.ntmps39
      go_wp2_with fail
      refine (N1.out _).mono ?_
      rintro e w1 ⟨rfl, rfl⟩
      go_wp2_with fail
      refine (N2.out _).mono ?_
      rintro e w1 ⟨rfl, rfl⟩
      go_wp2_with fail
      go_ret
      exact ⟨rfl, rfl⟩
    · rw [cmpS_lt hl]
      clear he
      go_enter Tryd.func39, Tryd.ntmps39
      go_wp2_with fail
      refine (N1.out _).mono ?_
      rintro e w1 ⟨rfl, rfl⟩
      go_wp2_with fail
      refine (N2.out _).mono ?_
      rintro e w1 ⟨rfl, rfl⟩
      go_wp2_with fail
      go_ret
      exact ⟨rfl, rfl⟩
theorem or2_calls (A : Option Addr) (c : Nat) (x y : Int) (w : World) (hR : RowAt w A (icells [x, y])) : Calls Tryd.prog 37 #[.slice A 2 c] w fun e w' => e = .returned (.int .i64 (if x ≠ 0 then x else y)) ∧ w = w' := by
  obtain ⟨b, o, rfl, hb, hc⟩ := hR.addr (by simp [icells])
  have c0 : w.cell? ⟨b, o, none⟩ = some (.int .i64 x) := hc 0 _ rfl
  have c1 : w.cell? ⟨b, o + 1, none⟩ = some (.int .i64 y) := hc 1 _ rfl
  clear hc hR
  by_cases hx : x = 0
  · subst hx
    rw [if_neg (by simp)]
    by_cases hy : y = 0
    · subst hy
      go_enter Tryd.func37, Tryd.ntmps37
      go_wp2_with fail
      refine wp_loop_rounds 3 ?_
      rw [rounds_succ]
      go_wp2_with fail
      rw [rounds_succ]
      go_wp2_with fail
      rw [rounds_succ]
      go_wp2_with fail
      go_ret
      exact ⟨rfl, rfl⟩
    · have hy1 : (y != 0) = true := by simpa using hy
      go_enter Tryd.func37, Tryd.ntmps37
      go_wp2_with fail
      refine wp_loop_rounds 2 ?_
      rw [rounds_succ]
      go_wp2_with fail
      rw [rounds_succ]
      go_wp2_with fail
      go_ret
      exact ⟨rfl, rfl⟩
  · rw [if_pos hx]
    have hx1 : (x != 0) = true := by simpa using hx
    go_enter Tryd.func37, Tryd.ntmps37
    go_wp2_with fail
    refine wp_loop_rounds 1 ?_
    rw [rounds_succ]
    go_wp2_with fail
    go_ret
    exact ⟨rfl, rfl⟩
set_option maxHeartbeats 1600000 in
theorem compare_calls (k1 : Int) (s1 : ByteArray) (k2 : Int) (s2 : ByteArray) (w : World) :
    Calls Tryd.prog 11 #[.agg #[.int .i64 k1, .string s1], .agg #[.int .i64 k2, .string s2]] w fun e w' => e = .returned (.int .i64 (cmpM k1 s1 k2 s2)) ∧ Below w.heap.size w w' := by
  have N1 : Box _ := ⟨cmpI_calls k1 k2⟩
  have N2 : Box _ := ⟨cmpS_calls s1 s2⟩
  have HM : Box (cmpM k1 s1 k2 s2 = if cmpI k1 k2 ≠ 0 then cmpI k1 k2 else cmpS s1 s2) := ⟨rfl⟩
  obtain ⟨p, hp⟩ : ∃ p, cmpI k1 k2 = p := ⟨_, rfl⟩
  obtain ⟨q, hq⟩ : ∃ q, cmpS s1 s2 = q := ⟨_, rfl⟩
  obtain ⟨r, hr⟩ : ∃ r, cmpM k1 s1 k2 s2 = r := ⟨_, rfl⟩
  rw [hp] at HM N1
  rw [hq] at HM N2
  rw [hr] at HM ⊢
  clear hp hq hr
  have N3 : Box (∀ W A c, RowAt W A (icells [p, q]) → _) := ⟨fun W A c h => or2_calls A c p q W h⟩
  rw [← HM.out] at N3
  go_enter Tryd.func11, Tryd.ntmps11
  go_wp2_with fail
  have hz1 : (w.alloc (.cells #[.int .i64 k1, .string s1] 24)).heap.size = w.heap.size + 1 := by simp
  go_region_held3 (fun w' => w'.cell? ⟨w.heap.size, 0, none⟩ = some (.int .i64 k1) ∧ w'.cell? ⟨w.heap.size, 1, none⟩ = some (.string s1) ∧ w'.cell? ⟨w.heap.size + 1, 0, none⟩ = some (.int .i64 k2) ∧ w'.cell? ⟨w.heap.size + 1, 1, none⟩ = some (.string s2)) (go_keep)
    (first
      | (go_at_call 38; refine (N1.out _).mono ?_; rintro e w5 ⟨rfl, rfl⟩)
      | (go_at_call 39; refine (N2.out _).mono ?_; rintro e w5 ⟨rfl, rfl⟩)
      | (go_at_call 37; refine (N3.out _ _ _ (row_drew (rowAt_alloc_k _ (icells [p, q]) _ (by simp)))).mono ?_; rintro e w5 ⟨rfl, rfl⟩))
  all_goals
    go_wp2_with fail
    go_ret
    exact ⟨rfl, bel_drew (bel_alloc (bel_alloc (bel_alloc (Below.refl _ _) _) _) _)⟩
end Go.Proofs.YtbkankpfkbafdaaDoor

/- Bytes as a number, and texts one behind the other: plain (as in CrcPure and Book, of no seat's functions; not together with those). -/
namespace Go.Proofs.YtbkankpfkbafdaaDoor
open Go.RowKit

/-- Bytes as a number, the lowest one first. -/
def numL : List UInt8 → Nat
  | [] => 0
  | b :: r => b.toNat + 256 * numL r
def lowL (v : Nat) : Nat → List UInt8
  | 0 => []
  | n + 1 => UInt8.ofNat v :: lowL (v / 256) n
theorem lowL_length (v n : Nat) : (lowL v n).length = n := by
  induction n generalizing v with
  | zero => rfl
  | succ n ih => rw [lowL, List.length_cons, ih]
theorem numL_lt (l : List UInt8) : numL l < 256 ^ l.length := by
  induction l with
  | nil => simp [numL]
  | cons b r ih =>
    have := b.toNat_lt
    rw [numL, List.length_cons, Nat.pow_succ]
    omega
theorem numL_lowL (v n : Nat) : numL (lowL v n) = v % 256 ^ n := by
  induction n generalizing v with
  | zero => simp [lowL, numL, Nat.mod_one]
  | succ n ih =>
    rw [lowL, numL, ih, Nat.pow_succ, Nat.mul_comm (256 ^ n) 256, Nat.mod_mul]
    have : (UInt8.ofNat v).toNat = v % 256 := by simp
    rw [this]
theorem lowL_numL (l : List UInt8) : lowL (numL l) l.length = l := by
  induction l with
  | nil => rfl
  | cons b r ih =>
    have hb := b.toNat_lt
    rw [List.length_cons, lowL, numL]
    have e1 : (b.toNat + 256 * numL r) / 256 = numL r := by omega
    have e2 : UInt8.ofNat (b.toNat + 256 * numL r) = b := by
      apply UInt8.toNat_inj.1
      simp
    rw [e1, e2, ih]
end Go.Proofs.YtbkankpfkbafdaaDoor

/- Where a row lies that text was appended to: where it lay, or in a new block. -/
namespace Go.Proofs.YtbkankpfkbafdaaDoor
open Go.RowKit Go.Lib

theorem str_where {P : Program} {w : World} (base : Nat) (t u ty e : TypeId) (i : TypeInfo) (ht : P.underlying t = some (.slice e)) (hu : P.underlying u = some .string) (hi : P.info? e = some i) (hz : i.zero = some (.int .u8 0))
    (hsize : i.size = 1) (hby : i.bytes = 1) (v : Value) (n : Nat) (xs : List Value) (hown : w.ownsRow base e 1 v n xs) (s : ByteArray)
    (hbytes : n + s.size ≤ 140737488355328) (v' : Value) (w' : World) (hr0 : (Builtin.append_ #[t, u] ty #[v, .string s]).run P w = .ok v' w') :
    v'.ownBlock = v.ownBlock ∨ v'.ownBlock = some w.heap.size := by
  have hxl : xs.length = n := by simpa using hown.1
  rcases hown.2 with ⟨rfl, rfl⟩ | ⟨g, cap, cur, rfl, hbg, hg, hnc, hcm, hcs, htake⟩
  · by_cases hm : s.size = 0
    · have hf := run_firstCells_string (P := P) w 1 s
      rw [hm] at hf
      have hr : (Builtin.append_ #[t, u] ty #[.slice none 0 0, .string s]).run P w = .ok (.slice none 0 0) w := by
        simp [Builtin.append_, run_underlying ht, run_underlying hu, sizeOf, typeInfo, hi, hsize, Builtin.lenOf, hm, hf]
      rw [hr] at hr0
      injection hr0 with e1 e2
      subst e1
      exact .inl rfl
    · have hr := run_append_nil_string (P := P) w t u ty e i (.int .u8 0) ht hu hi hz s (by omega) (by omega) (by rw [hby]; omega)
      rw [hr] at hr0
      injection hr0 with e1 e2
      subst e1
      exact .inr rfl
  · by_cases hroom : n + s.size ≤ cap
    · have hr := run_append_room_string (P := P) w t u ty e i ht hu hi hsize g n cap cur hg s hroom (by omega)
      rw [hr] at hr0
      injection hr0 with e1 e2
      subst e1
      exact .inl rfl
    · have holds : ∀ j u, xs[j]? = some u → w.cell? ((⟨g, 0, none⟩ : Addr).add j) = some u := hown.cells (g := g) rfl
      have hr := run_append_grow_string (P := P) w t u ty e i (.int .u8 0) ht hu hi hz ⟨g, 0, none⟩ n cap xs (by rw [hsize]; simpa using hxl) holds s (by omega) (by omega) (by rw [hby]; exact growslice_fits (by omega) (by omega))
      rw [hr] at hr0
      injection hr0 with e1 e2
      subst e1
      exact .inr rfl
/-- Text behind bytes, as a step of a walk. -/
theorem appS {P : Program} {ops : Array Oper} {rest : List Oper} {o : Oper} {a : Act} {w : World} {Q : Exit → Act → World → Prop} (hgd : o.guard = none) (sl x : Operand) (t u : TypeId)
    (ho : o.op = .call { callee := .builtin .append, args := #[sl, x], argTypes := #[t, u] })
    (base : Nat) (e : TypeId) (i : TypeInfo) (ht : P.underlying t = some (.slice e)) (hu : P.underlying u = some .string) (hi : P.info? e = some i) (hz : i.zero = some (.int .u8 0))
    (hsize : i.size = 1) (hby : i.bytes = 1)
    (v : Value) (n : Nat) (xs : List Value) (hs : a.eval sl = v) (hown : w.ownsRow base e 1 v n xs) (s : ByteArray) (hx : a.eval x = .string s)
    (hbytes : n + s.size ≤ 140737488355328) (hbase : base ≤ w.heap.size)
    (h : ∀ v' w', w'.ownsRow base e 1 v' (n + s.size) (xs ++ strCells s) → w.grownBy w' v.ownBlock → (v'.ownBlock = v.ownBlock ∨ v'.ownBlock = some w.heap.size) → wpList P ops Q rest (a.put o.dst v') w') :
    wpList P ops Q (o :: rest) a w := by
  refine wpList_plain hgd fun K hK => ?_
  obtain ⟨v', w', hr, h2, h3, _⟩ := run_append_own_string (P := P) w base t u o.type e i ht hu hi hz hsize hby v n xs hown s (by unfold maxLen; omega) hbytes hbase
  have h4 := str_where base t u o.type e i ht hu hi hz hsize hby v n xs hown s hbytes v' w' hr
  unfold Oper.wp execOp
  simp only [ho, resolve, invoke, builtin, Sem.run_bind, Sem.run_pure, Result.andThen_ok, List.map_toArray, List.map_cons, List.map_nil, hs, hx, hr]
  exact hK _ _ (h v' w' h2 h3 h4)
end Go.Proofs.YtbkankpfkbafdaaDoor

/- bits.Out: what it holds, with its error; Raw. -/
namespace Go.Proofs.YtbkankpfkbafdaaDoor
open Go.RowKit

theorem u8_info : ∃ i, Tryd.prog.info? 5 = some i ∧ i.zero = some (.int .u8 0) ∧ i.size = 1 ∧ i.bytes = 1 := by
  have h : (Tryd.prog.info? 5).map (fun i => (i.zero, i.size, i.bytes)) = some (some (.int .u8 0), 1, 1) := by kernel_rfl
  obtain ⟨i, h1, h2⟩ := Option.map_eq_some_iff.1 h
  injection h2 with e1 e2
  injection e2 with e2 e3
  exact ⟨i, h1, e1, e2, e3⟩

/-- An append as a step of a region that draws its order (rows of the library). -/
theorem step_appR {P : Program} {ops : Array Oper} {o : Oper} {a : Act} {K : Act → World → Prop} {Q : Exit → Act → World → Prop} {E' : Prop} {t e : TypeId} {size bytes : Nat} (E : El P t e size bytes) {W : World} (base : Nat) (hgd : o.guard = none) (s x : Operand)
    (ho : o.op = .call { callee := .builtin .append, args := #[s, x], argTypes := #[t, t] })
    {v : Value} {n : Nat} {xs : List Value} (hs : a.eval s = v) (hown : W.ownsRow base e size v n xs)
    {A : Option Addr} {m c : Nat} {news : List Value} (hx : a.eval x = .slice A m c) (hl : news.length = m * size) (hR : RowAt W A news) (h1 : ∀ u ∈ news, u.oneCell' = true)
    (hbytes : (n + m) * bytes ≤ 140737488355328) (hbase : base ≤ W.heap.size)
    (h : ∀ v' w', w'.ownsRow base e size v' (n + m) (xs ++ news) → W.grownBy w' v.ownBlock → (v'.ownBlock = v.ownBlock ∨ v'.ownBlock = some W.heap.size) → K (a.put o.dst v') w') :
    if Region.wanted o (yielded ops a.tmps) = true then Oper.wp P o a W K Q else E' := by
  have hw : Region.wanted o (yielded ops a.tmps) = true := by simp [Region.wanted, hgd]
  rw [if_pos hw]
  obtain ⟨v', w', hr, h2, h3, h4⟩ := run_app E W base o.type v n xs hown A m c news hl hR h1 hbytes hbase
  unfold Oper.wp execOp
  simp only [ho, resolve, invoke, builtin, Sem.run_bind, Sem.run_pure, Result.andThen_ok, List.map_toArray, List.map_cons, List.map_nil, hs, hx, hr]
  exact h v' w' h2 h3 h4
theorem low_byte (x n : Nat) : ((x : Int) / 2 ^ (8 * n)) % 256 = ((UInt8.ofNat (x / 256 ^ n)).toNat : Int) := by
  have e : (2 : Int) ^ (8 * n) = ((256 ^ n : Nat) : Int) := by
    rw [Int.pow_mul]; simp
  rw [e, UInt8.toNat_ofNat']
  simp

/-- An Out at a block: its error, its bytes. -/
structure OutS (w : World) (g : Nat) (v : Value) (e : Int) (l : List UInt8) : Prop where
  own : w.ownsRow (g + 1) 5 1 v l.length (bcells l)
  c0 : w.cell? ⟨g, 0, none⟩ = some v
  c1 : w.cell? ⟨g, 1, none⟩ = some (.int .i64 e)
  f0 : w.frozen? ⟨g, 0, none⟩ = false
  f1 : w.frozen? ⟨g, 1, none⟩ = false
section
variable {w w1 : World} {g : Nat} {v v1 : Value} {e : Int} {l m : List UInt8}
theorem OutS.lt (h : OutS w g v e l) : g < w.heap.size := World.block_lt_of_cell? w _ h.c0
theorem OutS.vlt (h : OutS w g v e l) {b : Nat} (hb : v.ownBlock = some b) : b < w.heap.size := (h.own.lt b hb).2
theorem OutS.apart (h : OutS w g v e l) : g ∉ v.ownBlock.toList := by
  intro hm
  have := (h.own.lt g (by simpa using hm)).1
  omega
theorem row_kept' {w w' : World} {base sz n : Nat} {t : TypeId} {v : Value} {xs : List Value} {bs : List Nat} (hT : Touched w w' bs) (h : w.ownsRow base t sz v n xs) (hv : ∀ b, v.ownBlock = some b → b ∉ bs) : w'.ownsRow base t sz v n xs := by
  obtain ⟨h1, h2⟩ := h
  refine ⟨h1, ?_⟩
  rcases h2 with h2 | ⟨g, cap, cur, rfl, hb, hg, r⟩
  · exact .inl h2
  · exact .inr ⟨g, cap, cur, rfl, hb, (hT.block g (Array.getElem?_eq_some_iff.1 hg).1 (hv g (by simp [Value.ownBlock]))).trans hg, r⟩
theorem OutS.touched {bs : List Nat} (h : OutS w g v e l) (hT : Touched w w1 bs) (h1 : g ∉ bs) (h2 : ∀ b, v.ownBlock = some b → b ∉ bs) : OutS w1 g v e l :=
  ⟨row_kept' hT h.own h2, (hT.cell h.lt h1).trans h.c0, (hT.cell h.lt h1).trans h.c1, (hT.free h.lt h1).trans h.f0, (hT.free h.lt h1).trans h.f1⟩
theorem OutS.below (h : OutS w g v e l) (hb : Below w.heap.size w w1) : OutS w1 g v e l := h.touched (Touched.of_below hb []) (by simp) (by simp)
theorem OutS.drew (h : OutS w g v e l) : OutS w.drew g v e l := ⟨h.own.drew, h.c0, h.c1, h.f0, h.f1⟩
theorem OutS.drewN (h : OutS w g v e l) (n : Nat) : OutS (w.drewN n) g v e l := h.below (below_drewN (Below.refl _ _) n)
theorem OutS.grownT (h : OutS w g v e l) (ho : w1.ownsRow (g + 1) 5 1 v1 m.length (bcells m)) (hT : Touched w w1 v.ownBlock.toList) :
    OutS (w1.setCell ⟨g, 0, none⟩ v1) g v1 e m := by
  have hc0 : w1.cell? ⟨g, 0, none⟩ = some v := (hT.cell h.lt h.apart).trans h.c0
  have hc1 : w1.cell? ⟨g, 1, none⟩ = some (.int .i64 e) := (hT.cell h.lt h.apart).trans h.c1
  have hf0 : w1.frozen? ⟨g, 0, none⟩ = false := (hT.free h.lt h.apart).trans h.f0
  have hf1 : w1.frozen? ⟨g, 1, none⟩ = false := (hT.free h.lt h.apart).trans h.f1
  refine ⟨ownsRow_setCell_below ho (by simp) _, ?_, ?_, ?_, ?_⟩
  · exact World.cell?_setCell_same' w1 _ _ (by rw [hc0]; simp)
  · exact (World.cell?_setCell_other w1 ⟨g, 0, none⟩ ⟨g, 1, none⟩ _ (by simp)).trans hc1
  · rw [World.frozen?_setCell]; exact hf0
  · rw [World.frozen?_setCell]; exact hf1
theorem OutS.grown (h : OutS w g v e l) (ho : w1.ownsRow (g + 1) 5 1 v1 m.length (bcells m)) (hg : w.grownBy w1 v.ownBlock) : OutS (w1.setCell ⟨g, 0, none⟩ v1) g v1 e m := h.grownT ho (Touched.of_grown hg)
theorem OutS.fail (h : OutS w g v e l) (x : Int) : OutS (w.setCell ⟨g, 1, none⟩ (.int .i64 x)) g v x l := by
  refine ⟨ownsRow_setCell_below h.own (by simp) _, ?_, ?_, ?_, ?_⟩
  · exact (World.cell?_setCell_other w ⟨g, 1, none⟩ ⟨g, 0, none⟩ _ (by simp)).trans h.c0
  · exact World.cell?_setCell_same' w _ _ (by rw [h.c1]; simp)
  · rw [World.frozen?_setCell]; exact h.f0
  · rw [World.frozen?_setCell]; exact h.f1
end
/-- An Out that a call has changed. -/
structure OutTo (w w' : World) (g : Nat) (v : Value) (d : Int × List UInt8) : Prop where
  ex : ∃ v', OutS w' g v' d.1 d.2 ∧ ∀ b, v'.ownBlock = some b → v.ownBlock = some b ∨ w.heap.size ≤ b
  touched : Touched w w' (g :: v.ownBlock.toList)
theorem OutTo.refl {w : World} {g : Nat} {v : Value} {e : Int} {l : List UInt8} (h : OutS w g v e l) : OutTo w w g v (e, l) := ⟨⟨v, h, fun b hb => .inl hb⟩, Touched.refl _ _⟩
theorem OutTo.fail {w : World} {g : Nat} {v : Value} {e : Int} {l : List UInt8} (h : OutS w g v e l) (x : Int) : OutTo w (w.setCell ⟨g, 1, none⟩ (.int .i64 x)) g v (x, l) :=
  ⟨⟨v, h.fail x, fun b hb => .inl hb⟩, (Touched.refl _ _).setCell (.inl (by simp)) _⟩
theorem OutTo.trans {w w1 w2 : World} {g : Nat} {v v1 : Value} {d : Int × List UInt8} (hT : Touched w w1 (g :: v.ownBlock.toList)) (hV : ∀ b, v1.ownBlock = some b → v.ownBlock = some b ∨ w.heap.size ≤ b) (h : OutTo w1 w2 g v1 d) : OutTo w w2 g v d := by
  obtain ⟨⟨v', h1, h2⟩, h3⟩ := h
  refine ⟨⟨v', h1, fun b hb => ?_⟩, hT.trans' h3 ?_⟩
  · rcases h2 b hb with h | h
    · exact hV b h
    · exact .inr (Nat.le_trans hT.size h)
  · intro j hj
    rcases List.mem_cons.1 hj with rfl | hj
    · exact .inl (by simp)
    · rcases hV j (by simpa using hj) with h | h
      · exact .inl (by simp [h])
      · exact .inr h

def rawO (d : Int × List UInt8) (ts : List ByteArray) : Int × List UInt8 := if d.1 ≠ 0 then d else (0, d.2 ++ (joinB ts).data.toList)
end Go.Proofs.YtbkankpfkbafdaaDoor

/- bits.Out: Raw. -/
namespace Go.Proofs.YtbkankpfkbafdaaDoor
open Go.RowKit

theorem addr_add0 (a : Addr) : a.add 0 = a := by obtain ⟨b, o, c⟩ := a; cases c <;> simp [Addr.add]
set_option maxHeartbeats 1600000 in
theorem outRaw_ok (g : Nat) (v : Value) (l : List UInt8) (A : Option Addr) (c : Nat) (ts : List ByteArray) (w : World) (hO : OutS w g v 0 l) (hn : ts.length ≤ 4000000000000000000) (hsz : l.length + totalLen ts ≤ 140737488355328)
    (hR : ∀ w', Touched w w' (g :: v.ownBlock.toList) → RowAt w' A (scells ts)) :
    Calls Tryd.prog 30 #[.pointer (some ⟨g, 0, none⟩), .slice A ts.length c] w fun e w' => ∃ v', e = .returned (.pointer (some ⟨g, 0, none⟩)) ∧ OutS w' g v' 0 (l ++ (joinB ts).data.toList) ∧ Touched w w' (g :: v.ownBlock.toList) ∧ (∀ b, v'.ownBlock = some b → v.ownBlock = some b ∨ w.heap.size ≤ b) := by
  have HO0 : Box (OutS w g v 0 l) := ⟨hO⟩
  have HS := Lib.hid hsz; clear hsz
  have HR : Box _ := ⟨hR⟩
  clear hR hO
  obtain ⟨i0, hi0, hi1, hi2, hi3⟩ := u8_info
  have HI : Box (Tryd.prog.info? 5 = some i0 ∧ i0.zero = some (.int .u8 0) ∧ i0.size = 1 ∧ i0.bytes = 1) := ⟨hi0, hi1, hi2, hi3⟩
  clear hi0 hi1 hi2 hi3
  go_enter Tryd.func30, Tryd.ntmps30
  go_wp2
  go_loopw [9] (fun i wr => ∃ (k : Nat) (u : Value), k ≤ ts.length ∧ i = .int .i64 (k : Int) ∧ Box (OutS wr g u 0 (l ++ (joinB (ts.take k)).data.toList)) ∧ Hid (Touched w wr (g :: v.ownBlock.toList)) ∧ Box (∀ b, u.ownBlock = some b → v.ownBlock = some b ∨ w.heap.size ≤ b)) (fun i _ => ts.length - (intOf i).toNat)
  case atStart => exact ⟨0, v, by omega, rfl, ⟨by have := HO0.out; simpa [joinB] using this⟩, Touched.refl _ _, ⟨fun b hb => .inl hb⟩⟩
  case round =>
    obtain ⟨k, u, hk, rfl, HO, HT, HF⟩ := hrel
    by_cases hlt : k < ts.length
    · obtain ⟨s, hs⟩ := some_at hlt
      obtain ⟨ad, rfl, hc⟩ := (HR.out _ HT.out).get (scells_at hs)
      have HX : Box (l ++ (joinB (ts.take (k + 1))).data.toList = (l ++ (joinB (ts.take k)).data.toList) ++ s.data.toList) := ⟨by rw [take_snoc_of hs, joinB_snoc, show (joinB (ts.take k) ++ s).data.toList = (joinB (ts.take k)).data.toList ++ s.data.toList by simp, List.append_assoc]⟩
      have HL : Hid ((l ++ (joinB (ts.take k)).data.toList).length + s.size ≤ 140737488355328) := by
        have h1 := totalLen_take_le ts (k + 1)
        rw [take_snoc_of hs, totalLen_snoc, ← joinB_size] at h1
        have h2 := HS.out
        rw [Hid, List.length_append, data_length]
        omega
      clear hs
      obtain ⟨m, hm⟩ : ∃ m, l ++ (joinB (ts.take k)).data.toList = m := ⟨_, rfl⟩
      rw [hm] at HX HL HO
      clear hm
      obtain ⟨a0, ca, rfl, _, _, _⟩ := (Own.of_row HO.out.own).slice
      have k0 := HO.out.c0
      have k1 := HO.out.c1
      have e0 := HO.out.f0
      go_wp2_with (at_builtin; refine appS rfl _ _ 31 9 rfl (g + 1) 5 i0 Tryd.underlying31 Tryd.underlying9 HI.out.1 HI.out.2.1 HI.out.2.2.1 HI.out.2.2.2 (.slice a0 m.length ca) _ _ rfl HO.out.own s rfl HL.out HO.out.lt ?_; intro v1 w1 hown1 hg1 hp1; obtain ⟨a1, c1, rfl, _, _, _⟩ := (Own.of_row hown1).slice; have hT := Touched.of_grown hg1; have k4 := (hT.cell HO.out.lt HO.out.apart).trans HO.out.c0; have e4 := (hT.free HO.out.lt HO.out.apart).trans HO.out.f0; have HG1 : Box _ := ⟨hg1⟩; have HW1 : Box _ := ⟨hown1⟩; have HP1 : Box _ := ⟨hp1⟩; clear hown1 hg1 hT k0 k1 e0 hp1)
      go_roundw
      case rel =>
        have hO2 : OutS (w1.setCell ⟨g, 0, none⟩ (.slice a1 (m.length + s.size) c1)) g (.slice a1 (m.length + s.size) c1) 0 (m ++ s.data.toList) := HO.out.grown (by
          have h := HW1.out
          rw [show Lib.strCells s = bcells s.data.toList from rfl] at h
          rw [bcells, List.map_append, List.length_append, data_length]
          exact h) HG1.out
        refine ⟨k + 1, _, by omega, by go_num, ⟨by rw [HX.out]; exact hO2⟩, (HT.out.trans' (Touched.of_grown HG1.out) ?_).setCell (.inl (by simp)) _, ⟨fun b hb => ?_⟩⟩
        · intro j hj
          rcases HF.out j (by simpa using hj) with h | h
          · exact .inl (by simp [h])
          · exact .inr h
        · rcases HP1.out with h | h
          · exact HF.out b (by rw [← h]; exact hb)
          · rw [h] at hb
            injection hb with hb
            exact .inr (by rw [← hb]; exact HT.out.size)
      case measure => simp [intOf]; omega
    · obtain rfl : k = ts.length := by omega
      go_wp2
      go_ret
      exact ⟨u, rfl, by have := HO.out; rwa [List.take_of_length_le (Nat.le_refl _)] at this, HT.out, HF.out⟩

theorem outRaw_err (g : Nat) (v : Value) (e : Int) (l : List UInt8) (A : Option Addr) (c : Nat) (ts : List ByteArray) (w : World) (he : e ≠ 0) (hO : OutS w g v e l) (hn : ts.length ≤ 4000000000000000000) (hR : RowAt w A (scells ts)) :
    Calls Tryd.prog 30 #[.pointer (some ⟨g, 0, none⟩), .slice A ts.length c] w fun r w' => r = .returned (.pointer (some ⟨g, 0, none⟩)) ∧ w = w' := by
  have k1 := hO.c1
  have HR : Box _ := ⟨hR⟩
  clear hO hR
  by_cases hlt : 0 < ts.length
  · obtain ⟨s, hs⟩ := some_at hlt
    obtain ⟨ad, rfl, hc0⟩ := HR.out.get (scells_at hs)
    have hc : w.cell? ad = some (.string s) := by rwa [addr_add0] at hc0
    clear hs hc0
    go_enter Tryd.func30, Tryd.ntmps30
    go_wp2
    go_loopw [9] (fun i wr => i = .int .i64 0 ∧ w = wr) (fun i _ => 1)
    case atStart => exact ⟨rfl, rfl⟩
    case round =>
      obtain ⟨rfl, rfl⟩ := hrel
      go_wp2
      go_ret
      exact ⟨rfl, rfl⟩
  · obtain rfl : ts = [] := List.eq_nil_of_length_eq_zero (by omega)
    go_enter Tryd.func30, Tryd.ntmps30
    go_wp2
    go_loopw [9] (fun i wr => i = .int .i64 0 ∧ w = wr) (fun i _ => 1)
    case atStart => exact ⟨rfl, rfl⟩
    case round =>
      obtain ⟨rfl, rfl⟩ := hrel
      go_wp2
      go_ret
      exact ⟨rfl, rfl⟩
theorem outRaw_nil (A : Option Addr) (c : Nat) (s : ByteArray) (w : World) (hR : RowAt w A (scells [s])) :
    Calls Tryd.prog 30 #[.pointer none, .slice A 1 c] w fun r w' => r = .returned (.pointer none) ∧ w = w' := by
  obtain ⟨ad, rfl, hc0⟩ := hR.get (j := 0) (u := .string s) rfl
  have hc : w.cell? ad = some (.string s) := by rwa [addr_add0] at hc0
  clear hR hc0
  go_enter Tryd.func30, Tryd.ntmps30
  go_wp2
  go_loopw [9] (fun i wr => i = .int .i64 0 ∧ w = wr) (fun i _ => 1)
  case atStart => exact ⟨rfl, rfl⟩
  case round =>
    obtain ⟨rfl, rfl⟩ := hrel
    go_wp2
    go_ret
    exact ⟨rfl, rfl⟩
theorem outRaw_calls (g : Nat) (v : Value) (e : Int) (l : List UInt8) (A : Option Addr) (c : Nat) (ts : List ByteArray) (w : World) (hO : OutS w g v e l) (hn : ts.length ≤ 4000000000000000000) (hsz : l.length + totalLen ts ≤ 140737488355328)
    (hR : ∀ w', Touched w w' (g :: v.ownBlock.toList) → RowAt w' A (scells ts)) :
    Calls Tryd.prog 30 #[.pointer (some ⟨g, 0, none⟩), .slice A ts.length c] w fun r w' => r = .returned (.pointer (some ⟨g, 0, none⟩)) ∧ OutTo w w' g v (rawO (e, l) ts) := by
  by_cases he : e = 0
  · subst he
    exact (outRaw_ok g v l A c ts w hO hn hsz hR).mono fun r w' ⟨v', h1, h2, h3, h4⟩ => ⟨h1, ⟨v', h2, h4⟩, h3⟩
  · refine (outRaw_err g v e l A c ts w he hO hn (hR w (Touched.refl _ _))).mono fun r w' ⟨h1, h2⟩ => ⟨h1, ?_⟩
    subst h2
    rw [rawO, if_pos he]
    exact OutTo.refl hO
end Go.Proofs.YtbkankpfkbafdaaDoor

/- bits.Out: numbers in so many bytes. -/
namespace Go.Proofs.YtbkankpfkbafdaaDoor
open Go.RowKit

/-- One number in so many bytes. -/
def layB (size : Nat) (x : Int) : Bool := decide (x < 0 ∨ (size < 8 ∧ x / 2 ^ (8 * size) ≠ 0))
def layOne (size : Nat) (d : Int × List UInt8) (x : Int) : Int × List UInt8 := if d.1 ≠ 0 then d else if layB size x = true then (1, d.2) else (0, d.2 ++ lowL x.toNat size)
def layO (size : Nat) (d : Int × List UInt8) (xs : List Int) : Int × List UInt8 := xs.foldl (layOne size) d
theorem layO_snoc (size : Nat) (d : Int × List UInt8) (xs : List Int) (x : Int) : layO size d (xs ++ [x]) = layOne size (layO size d xs) x := by simp [layO, List.foldl_append]
theorem layO_err (size : Nat) (d : Int × List UInt8) (xs : List Int) (h : d.1 ≠ 0) : layO size d xs = d := by
  induction xs with
  | nil => rfl
  | cons x xs ih => rw [layO, List.foldl_cons, layOne, if_pos h]; exact ih
theorem layO_stop (size : Nat) (d : Int × List UInt8) (xs : List Int) (k : Nat) (h : (layO size d (xs.take k)).1 ≠ 0) : layO size d xs = layO size d (xs.take k) := by
  conv => lhs; rw [← List.take_append_drop k xs]
  rw [layO, List.foldl_append]
  exact layO_err size _ _ h
theorem layO_len (size : Nat) (d : Int × List UInt8) (xs : List Int) : (layO size d xs).2.length ≤ d.2.length + size * xs.length := by
  induction xs generalizing d with
  | nil => simp [layO]
  | cons x xs ih =>
    have h := ih (layOne size d x)
    have h2 : (layOne size d x).2.length ≤ d.2.length + size := by
      unfold layOne
      split
      · omega
      · split
        · simp
        · simp [lowL_length]
    rw [layO, List.foldl_cons]
    rw [layO] at h
    rw [List.length_cons, Nat.mul_add]
    omega
theorem lowL_at (x n k : Nat) (h : k < n) : (lowL x n)[k]? = some (UInt8.ofNat (x / 256 ^ k)) := by
  induction n generalizing x k with
  | zero => omega
  | succ n ih =>
    cases k with
    | zero => simp [lowL]
    | succ k =>
      rw [lowL, List.getElem?_cons_succ, ih _ _ (by omega), Nat.div_div_eq_div_mul, Nat.pow_succ, Nat.mul_comm 256]
theorem outLay_err (size : Nat) (g : Nat) (v : Value) (e : Int) (l : List UInt8) (A : Option Addr) (c : Nat) (xs : List Int) (w : World) (he : e ≠ 0) (hO : OutS w g v e l) (hn : xs.length ≤ 4000000000000000000) (hR : RowAt w A (icells xs)) :
    Calls Tryd.prog 53 #[.pointer (some ⟨g, 0, none⟩), .int .i64 (size : Int), .slice A xs.length c] w fun r w' => r = .returned (.pointer (some ⟨g, 0, none⟩)) ∧ w = w' := by
  have k1 := hO.c1
  have HR : Box _ := ⟨hR⟩
  clear hO hR
  by_cases hlt : 0 < xs.length
  · obtain ⟨s, hs⟩ := some_at hlt
    obtain ⟨ad, rfl, hc0⟩ := HR.out.get (icells_at hs)
    have hc : w.cell? ad = some (.int .i64 s) := by rwa [addr_add0] at hc0
    clear hs hc0
    go_enter Tryd.func53, Tryd.ntmps53
    go_wp2
    go_loopw [12] (fun i wr => i = .int .i64 0 ∧ w = wr) (fun i _ => 1)
    case atStart => exact ⟨rfl, rfl⟩
    case round =>
      obtain ⟨rfl, rfl⟩ := hrel
      go_wp2
      go_ret
      exact ⟨rfl, rfl⟩
  · obtain rfl : xs = [] := List.eq_nil_of_length_eq_zero (by omega)
    go_enter Tryd.func53, Tryd.ntmps53
    go_wp2
    go_loopw [12] (fun i wr => i = .int .i64 0 ∧ w = wr) (fun i _ => 1)
    case atStart => exact ⟨rfl, rfl⟩
    case round =>
      obtain ⟨rfl, rfl⟩ := hrel
      go_wp2
      go_ret
      exact ⟨rfl, rfl⟩
theorem outLay_nil (size : Nat) (A : Option Addr) (c : Nat) (x : Int) (w : World) (hR : RowAt w A (icells [x])) :
    Calls Tryd.prog 53 #[.pointer none, .int .i64 (size : Int), .slice A 1 c] w fun r w' => r = .returned (.pointer none) ∧ w = w' := by
  obtain ⟨ad, rfl, hc0⟩ := hR.get (j := 0) (u := .int .i64 x) rfl
  have hc : w.cell? ad = some (.int .i64 x) := by rwa [addr_add0] at hc0
  clear hR hc0
  go_enter Tryd.func53, Tryd.ntmps53
  go_wp2
  go_loopw [12] (fun i wr => i = .int .i64 0 ∧ w = wr) (fun i _ => 1)
  case atStart => exact ⟨rfl, rfl⟩
  case round =>
    obtain ⟨rfl, rfl⟩ := hrel
    go_wp2
    go_ret
    exact ⟨rfl, rfl⟩
set_option maxHeartbeats 6400000 in
set_option maxRecDepth 100000 in
theorem outLay_ok (size : Nat) (h1 : 1 ≤ size) (h8 : size ≤ 8) (g : Nat) (v : Value) (l : List UInt8) (A : Option Addr) (c : Nat) (xs : List Int) (w : World) (hO : OutS w g v 0 l) (hn : xs.length ≤ 1000000) (hsz : l.length ≤ 1000000000) (hx : ∀ z ∈ xs, -9223372036854775808 ≤ z ∧ z ≤ 9223372036854775807)
    (hR : ∀ w', Touched w w' (g :: v.ownBlock.toList) → RowAt w' A (icells xs)) :
    Calls Tryd.prog 53 #[.pointer (some ⟨g, 0, none⟩), .int .i64 (size : Int), .slice A xs.length c] w fun r w' => r = .returned (.pointer (some ⟨g, 0, none⟩)) ∧ OutTo w w' g v (layO size (0, l) xs) := by
  have HO0 : Box (OutS w g v 0 l) := ⟨hO⟩
  have HR : Box _ := ⟨hR⟩
  have HX0 : Box _ := ⟨hx⟩
  clear hR hO hx
  have z3 := IntWalk.i64_in (8 * (size : Int)) (by omega)
  have z4 : (8 * (size : Int)).toNat = 8 * size := by omega
  have z5 : (0 : Int) ≤ 8 * (size : Int) := by omega
  go_enter Tryd.func53, Tryd.ntmps53
  go_wp2
  go_loopw [12] (fun i wr => ∃ (k : Nat) (u : Value) (l' : List UInt8), k ≤ xs.length ∧ i = .int .i64 (k : Int) ∧ Box (layO size (0, l) (xs.take k) = (0, l')) ∧ Box (OutS wr g u 0 l') ∧ Hid (Touched w wr (g :: v.ownBlock.toList)) ∧ Box (∀ b, u.ownBlock = some b → v.ownBlock = some b ∨ w.heap.size ≤ b)) (fun i _ => xs.length - (intOf i).toNat)
  case atStart => exact ⟨0, v, l, by omega, rfl, ⟨rfl⟩, HO0, Touched.refl _ _, ⟨fun b hb => .inl hb⟩⟩
  case round =>
    obtain ⟨k, u, l', hk, rfl, HD, HO, HT, HF⟩ := hrel
    by_cases hlt : k < xs.length
    · obtain ⟨x, hxk⟩ := some_at hlt
      obtain ⟨ad, rfl, hc⟩ := (HR.out _ HT.out).get (icells_at hxk)
      have hb := HX0.out x (List.mem_of_getElem? hxk)
      have hD1 : layO size (0, l) (xs.take (k + 1)) = if layB size x = true then (1, l') else (0, l' ++ lowL x.toNat size) := by
        rw [take_snoc_of hxk, layO_snoc, HD.out, layOne, if_neg (by simp)]
      have k1 := HO.out.c1
      have f1 := HO.out.f1
      clear hxk
      by_cases hbad : layB size x = true
      · rw [if_pos hbad] at hD1
        have hAll : layO size (0, l) xs = (1, l') := by rw [layO_stop size (0, l) xs (k + 1) (by rw [hD1]; simp), hD1]
        have HAll : Box _ := ⟨hAll⟩
        clear hD1 hAll
        have hcs : x < 0 ∨ (0 ≤ x ∧ size < 8 ∧ ¬ x / 2 ^ (8 * size) = 0) := by
          have := of_decide_eq_true hbad
          omega
        clear hbad
        rcases hcs with hc1 | ⟨hc1, hc2, hc3⟩
        · go_wp2_with fail
          go_ret
          exact ⟨rfl, by rw [HAll.out]; exact OutTo.trans HT.out HF.out (OutTo.fail HO.out 1)⟩
        · obtain ⟨y, rfl⟩ : ∃ y : Nat, x = (y : Int) := ⟨x.toNat, by omega⟩
          have hc4 : (size : Int) < 8 := by omega
          have hc5 : (((y : Int) / 2 ^ (8 * size)) != 0) = true := by simpa using hc3
          clear hc3
          go_wp2_with fail
          go_ret
          exact ⟨rfl, by rw [HAll.out]; exact OutTo.trans HT.out HF.out (OutTo.fail HO.out 1)⟩
      · rw [if_neg hbad] at hD1
        have hcs : 0 ≤ x ∧ (8 ≤ size ∨ (size < 8 ∧ x / 2 ^ (8 * size) = 0)) := by
          have h := of_decide_eq_false (by simpa using hbad : layB size x = false)
          omega
        clear hbad
        obtain ⟨y, rfl⟩ : ∃ y : Nat, x = (y : Int) := ⟨x.toNat, by omega⟩
        rw [Int.toNat_natCast] at hD1
        have HD1 : Box _ := ⟨hD1⟩
        have hLen := layO_len size (0, l) (xs.take k)
        rw [HD.out] at hLen
        have hLen2 : l'.length ≤ 1008000000 := by
          rw [List.length_take] at hLen
          have h3 : size * min k xs.length ≤ 8 * 1000000 := Nat.mul_le_mul h8 (by omega)
          have h4 : l'.length ≤ l.length + size * min k xs.length := hLen
          omega
        have HO4 : Box (OutS wr g u 0 (l' ++ (lowL y size).take 0)) := ⟨by simpa using HO.out⟩
        have hy0 : (0 : Int) ≤ (y : Int) := by omega
        have HLn : Box _ := ⟨hLen2⟩
        clear hD1 hLen hLen2
        obtain ⟨hx0, hcs⟩ := hcs
        have hcs2 : (¬ (size : Int) < 8) ∨ ((size : Int) < 8 ∧ (((y : Int) / 2 ^ (8 * size)) != 0) = false) := by
          rcases hcs with h | ⟨h, h2⟩
          · exact .inl (by omega)
          · exact .inr ⟨by omega, by rw [h2]; rfl⟩
        clear hcs
        obtain ⟨wo, rfl⟩ : ∃ wo : World, wo = wr := ⟨_, rfl⟩
        rcases hcs2 with hq | ⟨hq, hq2⟩
        all_goals
          go_wp2_with fail
          go_loopw [46] (fun i wi => ∃ (n : Nat) (u : Value), n ≤ size ∧ i = .int .i64 (n : Int) ∧ Box (OutS wi g u 0 (l' ++ (lowL y size).take n)) ∧ Hid (Touched w wi (g :: v.ownBlock.toList)) ∧ Box (∀ b, u.ownBlock = some b → v.ownBlock = some b ∨ w.heap.size ≤ b)) (fun i _ => size - (intOf i).toNat)
          case atStart => exact ⟨0, u, by omega, rfl, HO4, HT, HF⟩
          case round =>
            obtain ⟨n, u, hnn, rfl, HO, HT, HF⟩ := hrel
            by_cases hlt2 : n < size
            · obtain ⟨b, hb⟩ : ∃ b, UInt8.ofNat (y / 256 ^ n) = b := ⟨_, rfl⟩
              have HX : Box (l' ++ (lowL y size).take (n + 1) = (l' ++ (lowL y size).take n) ++ [b]) := ⟨by rw [List.append_assoc, ← hb, ← take_snoc_of (lowL_at y size n hlt2)]⟩
              have HL : Hid ((l' ++ (lowL y size).take n).length ≤ 1008000008) := by rw [Hid, List.length_append, List.length_take, lowL_length]; have := HLn.out; omega
              have HV := low_byte y n
              rw [hb] at HV
              have HW8 : IntKind.u8.wrap ((y : Int) / 2 ^ (8 * n)) = (b.toNat : Int) := by rw [IntKind.wrap_u8']; exact HV
              clear hb HV
              obtain ⟨m, hm⟩ : ∃ m, l' ++ (lowL y size).take n = m := ⟨_, rfl⟩
              rw [hm] at HX HL HO
              clear hm
              obtain ⟨a0, ca, rfl, _, _, _⟩ := (Own.of_row HO.out.own).slice
              have hlt3 := HO.out.lt
              have k0 := HO.out.c0
              have k0a : ∀ o : Obj, (wr.alloc o).cell? ⟨g, 0, none⟩ = some (.slice a0 m.length ca) := fun o => (World.cell?_alloc_lt _ _ _ hlt3).trans k0
              have k0b : ∀ o : Obj, (wr.drew.alloc o).cell? ⟨g, 0, none⟩ = some (.slice a0 m.length ca) := fun o => (World.cell?_alloc_lt _ _ _ hlt3).trans k0
              have y3 := IntWalk.i64_in (8 * (n : Int)) (by omega)
              have y4 : (8 * (n : Int)).toNat = 8 * n := by omega
              have y5 : (0 : Int) ≤ 8 * (n : Int) := by omega
              obtain ⟨wp, rfl⟩ : ∃ wp : World, wp = wr := ⟨_, rfl⟩
              go_wp2_with fail
              go_region_law
                (first
                  | (refine step_appR el_u8 (g + 1) rfl _ _ rfl (v := .slice a0 m.length ca) rfl (by first | exact (HO.out.own.alloc _).drew | exact HO.out.own.drew.alloc _) (news := bcells [b]) rfl rfl (by first | exact rowAt_alloc wp [.int .u8 (b.toNat : Int)] _ | exact rowAt_alloc wp.drew [.int .u8 (b.toNat : Int)] _) (one_bcells _) (by have := HL.out; omega) (by have := HO.out.lt; simp; omega) ?_; intro v1 w1 hown1 hg1 hp1; obtain ⟨a1, c1, rfl, _, _, _⟩ := (Own.of_row hown1).slice; have hT : Touched wp w1 (Value.slice a0 m.length ca).ownBlock.toList := (by first | exact ((Touched.refl wp _).alloc _).drew.trans (Touched.of_grown hg1) | exact ((Touched.refl wp _).drew.alloc _).trans (Touched.of_grown hg1)); have k4 := (hT.cell HO.out.lt HO.out.apart).trans HO.out.c0; have e4 := (hT.free HO.out.lt HO.out.apart).trans HO.out.f0; have HT1 : Box _ := ⟨hT⟩; have HW1 : Box _ := ⟨hown1⟩; have HP1 : Box _ := ⟨hp1⟩; clear hown1 hg1 hT hp1))
              all_goals
                go_wp2_with fail
                go_roundw
                case rel =>
                  have hO2 : OutS (w1.setCell ⟨g, 0, none⟩ (.slice a1 (m.length + 1) c1)) g (.slice a1 (m.length + 1) c1) 0 (m ++ [b]) := HO.out.grownT (by
                    have h := HW1.out
                    rw [bcells, List.map_append, List.length_append]
                    exact h) HT1.out
                  have hT2 : Touched w (w1.setCell ⟨g, 0, none⟩ (.slice a1 (m.length + 1) c1)) (g :: v.ownBlock.toList) := (HT.out.trans' HT1.out (by
                    intro j hj
                    rcases HF.out j (by simpa using hj) with h | h
                    · exact .inl (by simp [h])
                    · exact .inr h)).setCell (.inl (by simp)) _
                  have hF2 : ∀ b, (Value.slice a1 (m.length + 1) c1).ownBlock = some b → v.ownBlock = some b ∨ w.heap.size ≤ b := by
                    intro b hb
                    rcases HP1.out with h | h
                    · exact HF.out b (by rw [← h]; exact hb)
                    · rw [h] at hb
                      injection hb with hb
                      have := HT.out.size
                      simp at hb
                      exact .inr (by omega)
                  first
                    | exact ⟨n + 1, _, by omega, by go_num, ⟨by rw [HX.out]; exact hO2⟩, hT2, ⟨hF2⟩⟩
                    | exact ⟨n + 1, _, by omega, by go_num, ⟨by rw [HX.out]; exact hO2.drew⟩, hT2.drew, ⟨hF2⟩⟩
                    | ((repeat apply Exists.intro); exact ⟨⟨n + 1, _, by omega, by go_num, ⟨by rw [HX.out]; exact hO2⟩, hT2, ⟨hF2⟩⟩, rfl⟩)
                case measure => simp [intOf]; omega
            · obtain rfl : n = size := by omega
              go_wp2
              go_roundw
              case rel =>
                rw [List.take_of_length_le (by rw [lowL_length]; exact Nat.le_refl _)] at HO
                first | exact ⟨k + 1, u, _, by omega, by go_num, HD1, HO, HT, HF⟩ | ((repeat apply Exists.intro); exact ⟨⟨k + 1, u, _, by omega, by go_num, HD1, HO, HT, HF⟩, rfl⟩)
              case measure => simp [intOf]; omega
    · obtain rfl : k = xs.length := by omega
      rw [List.take_of_length_le (Nat.le_refl _)] at HD
      go_wp2
      go_ret
      exact ⟨rfl, by rw [HD.out]; exact ⟨⟨u, HO.out, HF.out⟩, HT.out⟩⟩
theorem outLay_calls (size : Nat) (h1 : 1 ≤ size) (h8 : size ≤ 8) (g : Nat) (v : Value) (e : Int) (l : List UInt8) (A : Option Addr) (c : Nat) (xs : List Int) (w : World) (hO : OutS w g v e l) (hn : xs.length ≤ 1000000) (hsz : l.length ≤ 1000000000) (hx : ∀ z ∈ xs, -9223372036854775808 ≤ z ∧ z ≤ 9223372036854775807)
    (hR : ∀ w', Touched w w' (g :: v.ownBlock.toList) → RowAt w' A (icells xs)) :
    Calls Tryd.prog 53 #[.pointer (some ⟨g, 0, none⟩), .int .i64 (size : Int), .slice A xs.length c] w fun r w' => r = .returned (.pointer (some ⟨g, 0, none⟩)) ∧ OutTo w w' g v (layO size (e, l) xs) := by
  by_cases he : e = 0
  · subst he
    exact outLay_ok size h1 h8 g v l A c xs w hO hn hsz hx hR
  · refine (outLay_err size g v e l A c xs w he hO (by omega) (hR w (Touched.refl _ _))).mono fun r w' ⟨h1, h2⟩ => ⟨h1, ?_⟩
    subst h2
    rw [layO_err size _ _ he]
    exact OutTo.refl hO
end Go.Proofs.YtbkankpfkbafdaaDoor

/- bits.Out: Byte, Half, Word, Long; lists that were just built; Text; End. (The four are printed by a program: alike.) -/
namespace Go.Proofs.YtbkankpfkbafdaaDoor
open Go.RowKit

theorem OutS.newRow {w : World} {g : Nat} {v : Value} {e : Int} {l : List UInt8} (h : OutS w g v e l) (xs : List Value) (t : TypeId) : ∀ w', Touched (w.alloc (.cells xs.toArray t)) w' (g :: v.ownBlock.toList) → RowAt w' (some ⟨w.heap.size, 0, none⟩) xs := by
  intro w' hT
  refine row_touched (rowAt_alloc w xs t) hT (.inr ⟨_, rfl, ?_⟩)
  intro hm
  have h1 := h.lt
  simp only [List.mem_cons, Option.mem_toList] at hm
  rcases hm with hm | hm
  · omega
  · have := h.vlt hm; omega
theorem OutS.alloc {w : World} {g : Nat} {v : Value} {e : Int} {l : List UInt8} (h : OutS w g v e l) (o : Obj) : OutS (w.alloc o) g v e l := h.below ((Below.refl _ _).alloc (Nat.le_refl _) o)
theorem OutTo.alloc {w w' : World} {g : Nat} {v : Value} {d : Int × List UInt8} {o : Obj} (h : OutTo (w.alloc o) w' g v d) : OutTo w w' g v d := OutTo.trans ((Touched.refl w _).alloc o) (fun _ h => .inl h) h
theorem OutTo.below {w w' w2 : World} {g : Nat} {v : Value} {d : Int × List UInt8} (h : OutTo w w' g v d) (hb : Below w'.heap.size w' w2) : OutTo w w2 g v d := by
  obtain ⟨⟨v', h1, h2⟩, h3⟩ := h
  exact ⟨⟨v', h1.below hb, h2⟩, h3.trans (Touched.of_below hb _)⟩

theorem outByte_calls (g : Nat) (v : Value) (e : Int) (l : List UInt8) (A : Option Addr) (n c : Nat) (xs : List Int) (w : World) (hxn : xs.length = n) (hO : OutS w g v e l) (hn : n ≤ 1000000) (hsz : l.length ≤ 1000000000) (hx : ∀ z ∈ xs, -9223372036854775808 ≤ z ∧ z ≤ 9223372036854775807)
    (hR : ∀ w', Touched w w' (g :: v.ownBlock.toList) → RowAt w' A (icells xs)) :
    Calls Tryd.prog 29 #[.pointer (some ⟨g, 0, none⟩), .slice A n c] w fun r w' => r = .returned (.pointer (some ⟨g, 0, none⟩)) ∧ OutTo w w' g v (layO 1 (e, l) xs) := by
  subst hxn
  have H : Box _ := ⟨outLay_calls 1 (by omega) (by omega) g v e l A c xs w hO hn hsz hx hR⟩
  clear hO hR hx
  obtain ⟨d, hd⟩ : ∃ d, layO 1 (e, l) xs = d := ⟨_, rfl⟩
  rw [hd] at H ⊢
  clear hd
  go_enter Tryd.func29, Tryd.ntmps29
  go_wp2_with fail
  refine Calls.mono H.out ?_
  rintro r w1 ⟨rfl, h1⟩
  go_wp2_with fail
  go_ret
  exact ⟨rfl, h1⟩
theorem outByte_new (g : Nat) (v : Value) (e : Int) (l : List UInt8) (n : Nat) (xs : List Int) (w : World) (hxn : xs.length = n) (hO : OutS w g v e l) (hn : n ≤ 1000000) (hsz : l.length ≤ 1000000000) (hx : ∀ z ∈ xs, -9223372036854775808 ≤ z ∧ z ≤ 9223372036854775807) :
    Calls Tryd.prog 29 #[.pointer (some ⟨g, 0, none⟩), .slice (some ⟨w.heap.size, 0, none⟩) n n] (w.alloc (.cells (icells xs).toArray 3)) fun r w' => r = .returned (.pointer (some ⟨g, 0, none⟩)) ∧ OutTo w w' g v (layO 1 (e, l) xs) :=
  (outByte_calls g v e l _ n n xs _ hxn (hO.alloc _) hn hsz hx (hO.newRow (icells xs) _)).mono fun r w' ⟨h1, h2⟩ => ⟨h1, h2.alloc⟩
theorem outByte_nil (x : Int) (w : World) :
    Calls Tryd.prog 29 #[.pointer none, .slice (some ⟨w.heap.size, 0, none⟩) 1 1] (w.alloc (.cells #[.int .i64 x] 3)) fun r w' => r = .returned (.pointer none) ∧ w' = w.alloc (.cells #[.int .i64 x] 3) := by
  have H : Box _ := ⟨outLay_nil 1 (some ⟨w.heap.size, 0, none⟩) 1 x (w.alloc (.cells #[.int .i64 x] 3)) (rowAt_alloc w (icells [x]) _)⟩
  go_enter Tryd.func29, Tryd.ntmps29
  go_wp2_with fail
  refine Calls.mono H.out ?_
  rintro r w1 ⟨rfl, rfl⟩
  go_wp2_with fail
  go_ret
  exact ⟨rfl, rfl⟩

theorem outRaw_new (g : Nat) (v : Value) (e : Int) (l : List UInt8) (n : Nat) (ts : List ByteArray) (w : World) (hts : ts.length = n) (hO : OutS w g v e l) (hn : n ≤ 1000000) (hsz : l.length + totalLen ts ≤ 140737488355328) :
    Calls Tryd.prog 30 #[.pointer (some ⟨g, 0, none⟩), .slice (some ⟨w.heap.size, 0, none⟩) n n] (w.alloc (.cells (scells ts).toArray 9)) fun r w' => r = .returned (.pointer (some ⟨g, 0, none⟩)) ∧ OutTo w w' g v (rawO (e, l) ts) := by
  subst hts
  exact (outRaw_calls g v e l _ ts.length ts _ (hO.alloc _) (by omega) hsz (hO.newRow (scells ts) _)).mono fun r w' ⟨h1, h2⟩ => ⟨h1, h2.alloc⟩

/-- End. -/
def endO (d : Int × List UInt8) : ByteArray × Int := if d.1 ≠ 0 then (ByteArray.empty, d.1) else (⟨d.2.toArray⟩, 0)
theorem outEnd_calls (g : Nat) (v : Value) (e : Int) (l : List UInt8) (w : World) (hO : OutS w g v e l) :
    Calls Tryd.prog 32 #[.pointer (some ⟨g, 0, none⟩)] w fun r w' => r = .returned (.tuple #[.string (endO (e, l)).1, .int .i64 (endO (e, l)).2]) ∧ Below w.heap.size w w' := by
  by_cases he : e = 0
  · subst he
    obtain ⟨a0, ca, rfl, _, hr, _⟩ := (Own.of_row hO.own).slice
    have k0 := hO.c0
    have k1 := hO.c1
    have hcv := bytes_str Tryd.prog 31 5 9 Tryd.underlying31 Tryd.underlying5 Tryd.underlying9 a0 l.length ca l w rfl hr
    have e1 : endO (0, l) = (⟨l.toArray⟩, 0) := by rw [endO, if_neg (by simp)]
    rw [e1]
    clear hr hO e1
    go_enter Tryd.func32, Tryd.ntmps32
    go_wp2
    go_ret2
    exact ⟨rfl, Below.refl _ _⟩
  · have k1 := hO.c1
    have e1 : endO (e, l) = (ByteArray.empty, e) := by rw [endO, if_pos he]
    rw [e1]
    clear hO e1
    go_enter Tryd.func32, Tryd.ntmps32
    go_wp2
    go_quiet (fail)
    go_wp2
    go_ret2
    exact ⟨rfl, below_drewN (Below.refl _ _) _⟩
theorem outEnd_nil (w : World) : Calls Tryd.prog 32 #[.pointer none] w fun r w' => r = .returned (.tuple #[.string ByteArray.empty, .int .i64 1]) ∧ w = w' := by
  go_enter Tryd.func32, Tryd.ntmps32
  go_wp2
  go_ret2
  exact ⟨rfl, rfl⟩
end Go.Proofs.YtbkankpfkbafdaaDoor
