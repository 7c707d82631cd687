/- Words and contracts that this claim leans on, one text behind the other. -/
import Derived.Test.YtiocealhadlggaaProg
import Derived.WalkKit
import Derived.Lib.ConvBytes
import Derived.Lib.Hide
import Derived.WalkSpells
import Derived.WalkLawsBesides
import Derived.KernelRfl
import Derived.Deep.QuietTactic
import Derived.BigQuiet
import Derived.Maps.AppendAt
import Derived.Laws.OwnMore
import Derived.ArgAppend
import Derived.Laws.IdiomCopy
import Derived.Laws.BitsAllLaws
import Derived.Outline
import Derived.Laws.Rows
import Derived.Deep.RegionHeld3
/- Words used by all texts of this seat: cells that lie in a row, what a fresh block changes. -/
namespace Go.Proofs.Ytiocealhadlggaa
open Go.RowKit
set_option linter.unusedVariables false

/-- The cells cs lie one behind the other at A (of no cells nothing is said). -/
def RowAt (w : World) (A : Option Addr) (cs : List Value) : Prop :=
  cs = [] ∨ ∃ ad, A = some ad ∧ ∀ j u, cs[j]? = some u → w.cell? (ad.add j) = some u
theorem RowAt.nil (w : World) (A : Option Addr) : RowAt w A [] := .inl rfl
theorem RowAt.get {w : World} {A : Option Addr} {cs : List Value} (h : RowAt w A cs) {j : Nat} {u : Value} (hj : cs[j]? = some u) : ∃ ad, A = some ad ∧ w.cell? (ad.add j) = some u := by
  rcases h with rfl | ⟨ad, e, h⟩
  · simp at hj
  · exact ⟨ad, e, h j u hj⟩
theorem cell_kept {B : Nat} {w w' : World} (h : Below B w w') {a : Addr} {v : Value} (hB : w.heap.size ≤ B) (hc : w.cell? a = some v) : w'.cell? a = some v :=
  (h.cell (Nat.lt_of_lt_of_le (World.block_lt_of_cell? w a hc) hB)).trans hc
theorem RowAt.below {w w' : World} {A : Option Addr} {cs : List Value} (h : RowAt w A cs) (hb : Below w.heap.size w w') : RowAt w' A cs := by
  rcases h with rfl | ⟨ad, e, h⟩
  · exact .inl rfl
  · exact .inr ⟨ad, e, fun j u hj => cell_kept hb (Nat.le_refl _) (h j u hj)⟩
/-- Both facts of a block that was made behind another world. -/
theorem below_trans' {w w1 w2 : World} (h : Below w.heap.size w w1) (k : Below w1.heap.size w1 w2) : Below w.heap.size w w2 :=
  h.trans (k.mono h.size)

theorem below_drewN {B : Nat} {w W : World} (h : Below B w W) (n : Nat) : Below B w (W.drewN n) := ⟨h.os, h.tape, h.output, h.size, h.block⟩
theorem RowAt.addr {w : World} {A : Option Addr} {cs : List Value} (h : RowAt w A cs) (h0 : cs ≠ []) : ∃ b o, A = some ⟨b, o, none⟩ ∧ b < w.heap.size ∧ ∀ j u, cs[j]? = some u → w.cell? ⟨b, o + j, none⟩ = some u := by
  rcases h with h | ⟨⟨b, o, sp⟩, rfl, h⟩
  · exact absurd h h0
  · obtain ⟨x, r, rfl⟩ := List.exists_cons_of_ne_nil h0
    have h1 := h 0 x rfl
    have hsp : sp = none := by simpa [Addr.add] using World.cell?_spot h1
    subst hsp
    have e : ∀ j, (⟨b, o, none⟩ : Addr).add j = ⟨b, o + j, none⟩ := by intro j; unfold Addr.add; split <;> simp_all
    exact ⟨b, o, rfl, World.block_lt_of_cell? w _ h1, fun j u hj => by rw [← e]; exact h j u hj⟩
theorem quiet_same {P : Program} {f : FuncId} {args : Array Value} {w : World} {n : Nat} {v : Value}
    (h : Calls P f args (w.drewN n) fun e w' => e = .returned v ∧ w.drewN n = w') : Calls P f args (w.drewN n) fun e w'' => e = .returned v ∧ ∃ m, w'' = w.drewN m :=
  h.mono fun _ _ ⟨he, hm⟩ => ⟨he, n, hm.symm⟩
theorem str_inj {a b : ByteArray} (h : a.toList = b.toList) : a = b := by
  rw [ByteArray.toList_eq, ByteArray.toList_eq] at h
  exact ByteArray.ext (Array.toList_inj.mp h)
theorem str_beq (a b : ByteArray) : (a.toList == b.toList) = decide (a = b) := by
  rw [Bool.eq_iff_iff]
  simp only [beq_iff_eq, decide_eq_true_eq]
  exact ⟨str_inj, fun h => by rw [h]⟩
theorem str_ne {a b : ByteArray} (h : a ≠ b) : (a.toList == b.toList) = false := by rw [str_beq]; simpa using h

theorem RowAt.left {w : World} {A : Option Addr} {cs ds : List Value} (h : RowAt w A (cs ++ ds)) : RowAt w A cs := by
  rcases h with h | ⟨ad, e, h⟩
  · exact .inl (List.append_eq_nil_iff.1 h).1
  · refine .inr ⟨ad, e, fun j u hj => h j u ?_⟩
    rw [List.getElem?_append_left (List.getElem?_eq_some_iff.1 hj).1]
    exact hj

def bcells (l : List UInt8) : List Value := l.map fun b => .int .u8 b.toNat
def icells (l : List Int) : List Value := l.map (.int .i64)
def scells (l : List ByteArray) : List Value := l.map .string
def pcells (l : List (Int × Int)) : List Value := l.flatMap fun p => [.int .i64 p.1, .int .i64 p.2]
theorem bcells_at {l : List UInt8} {k : Nat} {x : UInt8} (h : l[k]? = some x) : (bcells l)[k]? = some (.int .u8 x.toNat) := by simp [bcells, h]
theorem icells_at {l : List Int} {k : Nat} {x : Int} (h : l[k]? = some x) : (icells l)[k]? = some (.int .i64 x) := by simp [icells, h]
theorem scells_at {l : List ByteArray} {k : Nat} {x : ByteArray} (h : l[k]? = some x) : (scells l)[k]? = some (.string x) := by simp [scells, h]
theorem rowAt_alloc (w : World) (cs : List Value) (t : TypeId) : RowAt (w.alloc (.cells cs.toArray t)) (some ⟨w.heap.size, 0, none⟩) cs := by
  refine .inr ⟨_, rfl, fun j u hj => ?_⟩
  have e : (⟨w.heap.size, 0, none⟩ : Addr).add j = ⟨w.heap.size, j, none⟩ := by unfold Addr.add; split <;> simp_all
  rw [e, World.cell?_alloc_at _ _ _ _ rfl]
  simpa using hj
theorem RowAt.alloc {w : World} {A : Option Addr} {cs : List Value} (h : RowAt w A cs) (o : Obj) : RowAt (w.alloc o) A cs := h.below ((Below.refl _ _).alloc (Nat.le_refl _) o)
theorem RowAt.take_b {w : World} {A : Option Addr} {l : List UInt8} (h : RowAt w A (bcells l)) (m : Nat) : RowAt w A (bcells (l.take m)) := by
  rw [← List.take_append_drop m l, bcells, List.map_append] at h
  exact h.left
/-- string(b) of a row of bytes. -/
theorem bytes_str (P : Program) (src e_ dst : TypeId) (hs : P.underlying src = some (.slice e_)) (he : P.underlying e_ = some (.int .u8)) (hd : P.underlying dst = some .string) (A : Option Addr) (n c : Nat) (l : List UInt8) (w : World) (hl : l.length = n) (hR : RowAt w A (bcells l)) :
    (convert src dst (.slice A n c)).run P w = .ok (.string ⟨l.toArray⟩) w := by
  subst hl
  have key : ∀ ad : Addr, (∀ j u, (bcells l)[j]? = some u → w.cell? (ad.add j) = some u) → (convert src dst (.slice (some ad) l.length c)).run P w = .ok (.string ⟨l.toArray⟩) w := by
    intro ad hc
    have e : bcells l = (l.map fun b => (b.toNat : Int)).map (Value.int .u8) := by simp [bcells]
    have hl := run_loadCells_list (P := P) w ad (bcells l) hc
    rw [e] at hl
    simp only [List.length_map] at hl
    rw [run_convert_bytes_string w src dst e_ _ l.length c hs he hd, run_bytesToString w ad l.length c _ hl, foldl_push_bytes]
    congr 2
    simp only [List.map_map]
    have e2 : l.map ((fun n : Int => UInt8.ofNat n.toNat) ∘ fun b : UInt8 => (b.toNat : Int)) = l := by
      conv => rhs; rw [← List.map_id l]
      apply List.map_congr_left
      intro b _
      simp
    rw [e2]
    simp [ByteArray.empty, ByteArray.emptyWithCapacity]
    rfl
  rcases hR with h | ⟨ad, rfl, hc⟩
  · rcases A with _ | ad
    · obtain rfl : l = [] := by simpa [bcells] using h
      rw [run_convert_bytes_nil w src e_ hs he _ _ dst hd]
      rfl
    · exact key ad (by rw [h]; simp)
  · exact key ad hc
theorem mk_data (s : ByteArray) : (⟨s.data.toList.toArray⟩ : ByteArray) = s := by cases s; simp
theorem mk_size (l : List UInt8) : (⟨l.toArray⟩ : ByteArray).size = l.length := by simp [ByteArray.size]
theorem all_one {x : ByteArray} {n : Nat} (h : x.size ≤ n) : ∀ s ∈ [x], s.size ≤ n := by intro s hs; rw [List.mem_singleton.1 hs]; exact h
theorem pcells_cons (p : Int × Int) (l : List (Int × Int)) : pcells (p :: l) = .int .i64 p.1 :: .int .i64 p.2 :: pcells l := rfl
theorem pcells_length (l : List (Int × Int)) : (pcells l).length = l.length * 2 := by
  induction l with
  | nil => rfl
  | cons p l ih => rw [pcells_cons]; simp [ih]; omega
theorem pcells_append (l m : List (Int × Int)) : pcells (l ++ m) = pcells l ++ pcells m := by simp [pcells]
theorem pcells_at {l : List (Int × Int)} {k : Nat} {p : Int × Int} (h : l[k]? = some p) : (pcells l)[k * 2]? = some (.int .i64 p.1) ∧ (pcells l)[k * 2 + 1]? = some (.int .i64 p.2) := by
  induction l generalizing k with
  | nil => simp at h
  | cons q l ih =>
    cases k with
    | zero => simp at h; subst h; exact ⟨rfl, rfl⟩
    | succ k =>
      have := ih (k := k) (by simpa using h)
      rw [pcells_cons, show (k + 1) * 2 = k * 2 + 1 + 1 by omega]
      simpa using this
theorem pair_at {w : World} {A : Option Addr} {l : List (Int × Int)} {k : Nat} {p : Int × Int} (h : RowAt w A (pcells l)) (hk : l[k]? = some p) :
    ∃ b o, A = some ⟨b, o, none⟩ ∧ b < w.heap.size ∧ w.cell? ⟨b, o + k * 2, none⟩ = some (.int .i64 p.1) ∧ w.cell? ⟨b, o + k * 2 + 1, none⟩ = some (.int .i64 p.2) := by
  obtain ⟨h1, h2⟩ := pcells_at hk
  obtain ⟨b, o, e, hb, hc⟩ := h.addr (by intro e; rw [e] at h1; simp at h1)
  exact ⟨b, o, e, hb, hc _ _ h1, by rw [Nat.add_assoc]; exact hc _ _ h2⟩
theorem one_bcells (l : List UInt8) : ∀ u ∈ bcells l, u.oneCell' = true := by intro u hu; obtain ⟨b, _, rfl⟩ := List.mem_map.1 hu; rfl
theorem one_icells (l : List Int) : ∀ u ∈ icells l, u.oneCell' = true := by intro u hu; obtain ⟨b, _, rfl⟩ := List.mem_map.1 hu; rfl
theorem one_scells (l : List ByteArray) : ∀ u ∈ scells l, u.oneCell' = true := by intro u hu; obtain ⟨b, _, rfl⟩ := List.mem_map.1 hu; rfl
theorem one_pcells (l : List (Int × Int)) : ∀ u ∈ pcells l, u.oneCell' = true := by
  intro u hu; obtain ⟨b, _, h⟩ := List.mem_flatMap.1 hu
  simp at h
  rcases h with rfl | rfl <;> rfl
/-- []byte(s): the new row, the world behind it. -/
theorem bytes_below (W : World) (e : TypeId) (s : ByteArray) : Below W.heap.size W (Lib.bytesWorld W e s) :=
  ⟨rfl, rfl, rfl, by rw [Lib.bytesWorld_size]; omega, fun i hi => Lib.bytesWorld_at_old W e s i hi⟩
theorem bytes_row (W : World) (e : TypeId) (s : ByteArray) : RowAt (Lib.bytesWorld W e s) (some ⟨W.heap.size, 0, none⟩) (bcells s.data.toList) := by
  refine .inr ⟨_, rfl, fun j u hj => ?_⟩
  have e1 : (⟨W.heap.size, 0, none⟩ : Addr).add j = ⟨W.heap.size, j, none⟩ := by unfold Addr.add; split <;> simp_all
  have hjl : j < (bcells s.data.toList).length := (List.getElem?_eq_some_iff.1 hj).1
  simp only [bcells, List.length_map] at hjl
  rw [e1, Lib.bytesWorld_cell W e s j (by simpa using hjl)]
  simp only [bcells, List.getElem?_map, List.getElem?_eq_getElem hjl, Option.map_some] at hj
  rw [← hj, List.getD_eq_getElem?_getD, List.getElem?_eq_getElem hjl]
  rfl
theorem data_length (s : ByteArray) : s.data.toList.length = s.size := by rw [Array.length_toList]; rfl
theorem take_snoc_str (s : ByteArray) (k : Nat) (h : k < s.size) : s.data.toList.take (k + 1) = s.data.toList.take k ++ [s[k]] := by
  rw [List.take_succ_eq_append_getElem (by simpa using h)]; rfl
theorem take_snoc_of {α : Type} {l : List α} {k : Nat} {x : α} (h : l[k]? = some x) : l.take (k + 1) = l.take k ++ [x] := by
  rw [List.take_add_one, h]; rfl
theorem some_at {α : Type} {l : List α} {k : Nat} (h : k < l.length) : ∃ x, l[k]? = some x := ⟨l[k], List.getElem?_eq_getElem h⟩
theorem max2_int (k k' : IntKind) (x y : Int) : Builtin.max2 (.int k x) (.int k' y) = pure (.int k (max x y)) := by
  simp only [Builtin.max2, gt_iff_lt]
  have e : (if x < y then y else x) = max x y := by rw [Int.max_def]; split <;> split <;> omega
  rw [e]
theorem min2_int (k k' : IntKind) (x y : Int) : Builtin.min2 (.int k x) (.int k' y) = pure (.int k (min x y)) := by
  simp only [Builtin.min2]
  have e : (if y < x then y else x) = min x y := by rw [Int.min_def]; split <;> split <;> omega
  rw [e]
theorem max_two (ats : Array TypeId) (ty : TypeId) (a b : Value) : Builtin.max_ ats ty #[a, b] = (Builtin.max2 a b >>= fun s => pure s) := by simp only [Builtin.max_, List.foldlM_cons, List.foldlM_nil]
theorem min_two (ats : Array TypeId) (ty : TypeId) (a b : Value) : Builtin.min_ ats ty #[a, b] = (Builtin.min2 a b >>= fun s => pure s) := by simp only [Builtin.min_, List.foldlM_cons, List.foldlM_nil]
theorem ret_int {k : IntKind} {a b : Int} (h : a = b) : Ending.returned (.int k a) = .returned (.int k b) := by rw [h]
theorem ret_bool {a b : Bool} (h : a = b) : Ending.returned (.bool a) = .returned (.bool b) := by rw [h]
theorem ret_str {a b : ByteArray} (h : a = b) : Ending.returned (.string a) = .returned (.string b) := by rw [h]
theorem val_int {k : IntKind} {a b : Int} (h : a = b) : Value.int k a = .int k b := by rw [h]

/-- What is known of a slice type t, its elements' type e: how many cells and bytes each has. -/
def El (P : Program) (t e : TypeId) (size bytes : Nat) : Prop :=
  P.underlying t = some (.slice e) ∧ 0 < size ∧ 0 < bytes ∧ ∃ i z, P.info? e = some i ∧ i.zero = some z ∧ i.size = size ∧ i.bytes = bytes ∧ z.cells.size = size
theorem El.mk' {P : Program} {t e : TypeId} {z : Value} {size bytes : Nat} (h : P.underlying t = some (.slice e)) (hi : (P.info? e).map (fun i => (i.zero, i.size, i.bytes)) = some (some z, size, bytes))
    (hz : (z.cells.size == size && decide (0 < size) && decide (0 < bytes)) = true) : El P t e size bytes := by
  obtain ⟨i, h1, h2⟩ := Option.map_eq_some_iff.1 hi
  simp only [Prod.mk.injEq] at h2
  simp at hz
  exact ⟨h, hz.1.2, hz.2, i, z, h1, h2.1, h2.2.1, h2.2.2, hz.1.1⟩

theorem own_base {w : World} {base : Nat} {e : TypeId} {size n : Nat} {v : Value} {xs : List Value} (h : w.ownsRow base e size v n xs) (k : Nat) (hk : v.ownBlock = some k) : base ≤ k := by
  rcases h.2 with ⟨rfl, _⟩ | ⟨g, cap, cur, rfl, hb, _⟩
  · simp [Value.ownBlock] at hk
  · have : g = k := by simpa [Value.ownBlock] using hk
    omega
theorem own_slice {w : World} {base n : Nat} {e : TypeId} {size : Nat} {v : Value} {xs : List Value} (h : w.ownsRow base e size v n xs) : ∃ A c, v = .slice A n c ∧ n ≤ c ∧ RowAt w A xs ∧ (A = none → n = 0 ∧ c = 0) := by
  rcases h.2 with ⟨rfl, rfl⟩ | ⟨g, cap, cur, rfl, _, _, hc, _⟩
  · exact ⟨none, 0, rfl, Nat.le_refl _, .inl (List.eq_nil_of_length_eq_zero (by simpa using h.1)), fun _ => ⟨rfl, rfl⟩⟩
  · exact ⟨_, cap, rfl, hc, .inr ⟨_, rfl, h.cells (g := g) rfl⟩, fun h => by cases h⟩
theorem own_form {w : World} {base n : Nat} {e : TypeId} {size : Nat} {v : Value} {xs : List Value} (h : w.ownsRow base e size v n xs) (h0 : 0 < n) :
    ∃ g cap, v = .slice (some ⟨g, 0, none⟩) n cap ∧ base ≤ g ∧ n ≤ cap ∧ RowAt w (some ⟨g, 0, none⟩) xs := by
  rcases h.2 with ⟨rfl, rfl⟩ | ⟨g, cap, cur, rfl, hb, _, hc, _⟩
  · omega
  · exact ⟨g, cap, rfl, hb, hc, .inr ⟨_, rfl, h.cells (g := g) rfl⟩⟩
theorem own_below {w w1 : World} {base : Nat} {e : TypeId} {size n : Nat} {v : Value} {xs : List Value} (h : w.ownsRow base e size v n xs) (hb : Below w.heap.size w w1) : w1.ownsRow base e size v n xs :=
  h.kept (row := none) ⟨hb.os, hb.tape, hb.output, hb.size, fun i hi _ => hb.block i hi⟩ (by cases v.ownBlock <;> simp)
theorem own_weaken {w : World} {base base' : Nat} {e : TypeId} {size n : Nat} {v : Value} {xs : List Value} (h : w.ownsRow base e size v n xs) (hb : base' ≤ base) : w.ownsRow base' e size v n xs := by
  obtain ⟨h1, h2⟩ := h
  refine ⟨h1, ?_⟩
  rcases h2 with h2 | ⟨g, cap, cur, rfl, hg, r⟩
  · exact .inl h2
  · exact .inr ⟨g, cap, cur, rfl, Nat.le_trans hb hg, r⟩

/-- append(v, x...): v a row of the call's own, x any row. -/
theorem run_app {P : Program} {t e : TypeId} {size bytes : Nat} (E : El P t e size bytes) (W : World) (base : Nat) (ty : TypeId) (v : Value) (n : Nat) (xs : List Value) (hown : W.ownsRow base e size v n xs)
    (A : Option Addr) (m c : Nat) (news : List Value) (hl : news.length = m * size) (hR : RowAt W A news) (h1 : ∀ u ∈ news, u.oneCell' = true)
    (hbytes : (n + m) * bytes ≤ 140737488355328) (hbase : base ≤ W.heap.size) :
    ∃ v' w', (Builtin.append_ #[t, t] ty #[v, .slice A m c]).run P W = .ok v' w' ∧ w'.ownsRow base e size v' (n + m) (xs ++ news) ∧ W.grownBy w' v.ownBlock ∧ (v'.ownBlock = v.ownBlock ∨ v'.ownBlock = some W.heap.size) := by
  obtain ⟨ht, hsz, hb0, i, z, hi, hz, rfl, rfl, hzs⟩ := E
  have hlen : n + m ≤ 140737488355328 := Nat.le_trans (Nat.le_mul_of_pos_right _ hb0) hbytes
  rcases A with _ | ad
  · have hm0 : m = 0 := by
      rcases hR with rfl | ⟨ad, h, _⟩
      · rcases Nat.eq_zero_or_pos m with h0 | h0
        · exact h0
        · have := Nat.mul_pos h0 hsz
          simp at hl; omega
      · cases h
    subst hm0
    obtain rfl : news = [] := List.eq_nil_of_length_eq_zero (by simpa using hl)
    refine ⟨v, W, ?_, by simpa using hown, World.grownBy.refl W _, .inl rfl⟩
    rcases hown.2 with ⟨rfl, hn⟩ | ⟨g, cap, cur, rfl, _, _, hnc, _⟩
    · simp [Builtin.append_, run_underlying ht, sizeOf, typeInfo, hi, Builtin.lenOf, Builtin.firstCells]
    · simp [Builtin.append_, run_underlying ht, sizeOf, typeInfo, hi, Builtin.lenOf, Builtin.firstCells, hnc, storeCells]
  · have hcells : ∀ j u, news[j]? = some u → W.cell? (ad.add j) = some u := by
      intro j u hu
      obtain ⟨ad', h, hc⟩ := hR.get hu
      injection h with h
      subst h
      exact hc
    obtain ⟨v', w', hr, h2, h3, _, h5⟩ := run_append_own_at (P := P) W base t ty e i z i.size i.bytes ht hi hz rfl rfl hzs hsz v n xs hown ad m c news hl hcells h1 (by simp only [maxLen]; omega) hbytes hbase
    exact ⟨v', w', hr, h2, h3, h5⟩

section
variable {P : Program} {ops : Array Oper} {rest : List Oper} {o : Oper} {a : Act} {Q : Exit → Act → World → Prop}
/-- The same as a step of the walk, behind 'at_builtin'. -/
theorem app_row {t e : TypeId} {size bytes : Nat} (E : El P t e size bytes) {W : World} (base : Nat) (hgd : o.guard = none) (s x : Operand)
    (ho : o.op = .call { callee := .builtin .append, args := #[s, x], argTypes := #[t, t] })
    {v : Value} {n : Nat} {xs : List Value} (hs : a.eval s = v) (hown : W.ownsRow base e size v n xs)
    {A : Option Addr} {m c : Nat} {news : List Value} (hx : a.eval x = .slice A m c) (hl : news.length = m * size) (hR : RowAt W A news) (h1 : ∀ u ∈ news, u.oneCell' = true)
    (hbytes : (n + m) * bytes ≤ 140737488355328) (hbase : base ≤ W.heap.size)
    (h : ∀ v' w', w'.ownsRow base e size v' (n + m) (xs ++ news) → W.grownBy w' v.ownBlock → (v'.ownBlock = v.ownBlock ∨ v'.ownBlock = some W.heap.size) → wpList P ops Q rest (a.put o.dst v') w') :
    wpList P ops Q (o :: rest) a W := by
  obtain ⟨v', w', hr, h2, h3, h4⟩ := run_app E W base o.type v n xs hown A m c news hl hR h1 hbytes hbase
  refine wpList_plain hgd fun K hK => ?_
  unfold Oper.wp execOp
  simp only [ho, resolve, invoke, builtin, Sem.run_bind, Sem.run_pure, Result.andThen_ok, List.map_toArray, List.map_cons, List.map_nil, hs, hx, hr]
  exact hK _ _ (h v' w' h2 h3 h4)
end

end Go.Proofs.Ytiocealhadlggaa

/- A row of memory that the call itself made, told cell by cell: what append, a store, a cut leave of it. -/
namespace Go.Proofs.Ytiocealhadlggaa
open Go.RowKit
set_option linter.unusedVariables false

theorem grownBy_setCells (b : Nat) : ∀ (vs : List Value) (o : Nat) (w : World), w.grownBy (w.setCells b o vs) (some b)
  | [], _, w => World.grownBy.refl w _
  | v :: r, o, w => by
    rw [World.setCells]
    refine World.grownBy.trans (b := w.setCell ⟨b, o, none⟩ v) ?_ (grownBy_setCells b r (o + 1) _)
    exact ⟨rfl, rfl, rfl, by simp [World.setCell], fun k _ hk => Below.heap_setCell w _ v k (fun e => hk (by rw [e]))⟩

/-- v is a slice of n elements of sz cells each, in a block of one's own (from 'base' on), all of whose cells up to the capacity are there and may be written; its elements' cells are xs. -/
def Own (w : World) (base sz : Nat) (v : Value) (n : Nat) (xs : List Value) : Prop :=
  xs.length = n * sz ∧ ((v = .slice none 0 0 ∧ n = 0) ∨
    ∃ g cap, v = .slice (some ⟨g, 0, none⟩) n cap ∧ base ≤ g ∧ g < w.heap.size ∧ n ≤ cap ∧ cap ≤ maxLen ∧ (∀ j, j < cap * sz → (w.cell? ⟨g, j, none⟩).isSome = true ∧ w.frozen? ⟨g, j, none⟩ = false) ∧
      ∀ j u, xs[j]? = some u → w.cell? ⟨g, j, none⟩ = some u)

section
variable {w w' : World} {base sz : Nat} {v : Value} {n : Nat} {xs : List Value}
theorem add0 (g j : Nat) : (⟨g, 0, none⟩ : Addr).add j = ⟨g, j, none⟩ := by unfold Addr.add; split <;> simp_all
theorem Own.nil (w : World) (base sz : Nat) : Own w base sz (.slice none 0 0) 0 [] := ⟨by simp, .inl ⟨rfl, rfl⟩⟩
theorem Own.of_row {e : TypeId} (h : w.ownsRow base e sz v n xs) : Own w base sz v n xs := by
  obtain ⟨h1, h2⟩ := h
  refine ⟨h1, ?_⟩
  rcases h2 with h2 | ⟨g, cap, cur, rfl, hb, hg, hn, hm, hs, ht⟩
  · exact .inl h2
  · refine .inr ⟨g, cap, rfl, hb, (Array.getElem?_eq_some_iff.1 hg).1, hn, hm, fun j hj => ⟨?_, frozen_of_row w g j cur e hg⟩, fun j u hu => ?_⟩
    · rw [cell_of_row w g j cur e (0, 0) hg]
      simp [hs, hj]
    · rw [cell_of_row w g j cur e (0, 0) hg]
      rw [← ht, List.getElem?_take] at hu
      split at hu
      · simpa using hu
      · cases hu
theorem Own.slice (h : Own w base sz v n xs) : ∃ A c, v = .slice A n c ∧ n ≤ c ∧ RowAt w A xs ∧ (A = none → n = 0 ∧ c = 0) := by
  rcases h.2 with ⟨rfl, rfl⟩ | ⟨g, cap, rfl, _, _, hc, _, _, hx⟩
  · exact ⟨none, 0, rfl, Nat.le_refl _, .inl (List.eq_nil_of_length_eq_zero (by simpa using h.1)), fun _ => ⟨rfl, rfl⟩⟩
  · exact ⟨_, cap, rfl, hc, .inr ⟨_, rfl, fun j u hu => by rw [add0]; exact hx j u hu⟩, fun h => by cases h⟩
theorem Own.form (h : Own w base sz v n xs) (h0 : 0 < n) : ∃ g cap, v = .slice (some ⟨g, 0, none⟩) n cap ∧ base ≤ g ∧ g < w.heap.size ∧ n ≤ cap ∧ RowAt w (some ⟨g, 0, none⟩) xs := by
  rcases h.2 with ⟨rfl, rfl⟩ | ⟨g, cap, rfl, hb, hg, hc, _, _, hx⟩
  · omega
  · exact ⟨g, cap, rfl, hb, hg, hc, .inr ⟨_, rfl, fun j u hu => by rw [add0]; exact hx j u hu⟩⟩
theorem Own.lt (h : Own w base sz v n xs) (k : Nat) (hk : v.ownBlock = some k) : base ≤ k ∧ k < w.heap.size := by
  rcases h.2 with ⟨rfl, _⟩ | ⟨g, cap, rfl, hb, hg, _⟩
  · simp [Value.ownBlock] at hk
  · have : g = k := by simpa [Value.ownBlock] using hk
    subst this
    exact ⟨hb, hg⟩
theorem Own.kept {row : Option Nat} (h : Own w base sz v n xs) (hg : w.grownBy w' row) (hne : v.ownBlock = none ∨ v.ownBlock ≠ row) : Own w' base sz v n xs := by
  obtain ⟨h1, h2⟩ := h
  refine ⟨h1, ?_⟩
  rcases h2 with h2 | ⟨g, cap, rfl, hb, hl, hn, hm, hc, hx⟩
  · exact .inl h2
  · have hne' : some g ≠ row := by simpa [Value.ownBlock] using hne
    have e : w'.heap[g]? = w.heap[g]? := hg.block g hl hne'
    refine .inr ⟨g, cap, rfl, hb, Nat.lt_of_lt_of_le hl hg.size, hn, hm, fun j hj => ?_, fun j u hu => ?_⟩
    · rw [World.cell?_of_block (w := w) (a := ⟨g, j, none⟩) e, World.frozen?_of_block (w := w) (a := ⟨g, j, none⟩) e]
      exact hc j hj
    · rw [World.cell?_of_block (w := w) (a := ⟨g, j, none⟩) e]
      exact hx j u hu
theorem Own.below (h : Own w base sz v n xs) (hb : Below w.heap.size w w') : Own w' base sz v n xs :=
  h.kept (row := none) ⟨hb.os, hb.tape, hb.output, hb.size, fun i hi _ => hb.block i hi⟩ (by cases v.ownBlock <;> simp)
theorem Own.alloc (h : Own w base sz v n xs) (o : Obj) : Own (w.alloc o) base sz v n xs := h.below ((Below.refl _ _).alloc (Nat.le_refl _) o)
theorem Own.weaken {base' : Nat} (h : Own w base sz v n xs) (hb : base' ≤ base) : Own w base' sz v n xs := by
  obtain ⟨h1, h2⟩ := h
  refine ⟨h1, ?_⟩
  rcases h2 with h2 | ⟨g, cap, rfl, hg, r⟩
  · exact .inl h2
  · exact .inr ⟨g, cap, rfl, Nat.le_trans hb hg, r⟩
/-- The first k elements, of the same capacity. -/
theorem Own.take {A : Option Addr} {c : Nat} (h : Own w base sz (.slice A n c) n xs) (k : Nat) (hk : k ≤ n) : Own w base sz (.slice A k c) k (xs.take (k * sz)) := by
  obtain ⟨h1, h2⟩ := h
  refine ⟨by rw [List.length_take, h1]; exact Nat.min_eq_left (Nat.mul_le_mul_right _ hk), ?_⟩
  rcases h2 with ⟨h2, rfl⟩ | ⟨g, cap, h2, hb, hl, hn, hm, hc, hx⟩
  · simp at h2
    obtain ⟨rfl, rfl⟩ := h2
    obtain rfl : k = 0 := by omega
    exact .inl ⟨rfl, rfl⟩
  · simp at h2
    obtain ⟨rfl, rfl⟩ := h2
    refine .inr ⟨g, c, rfl, hb, hl, by omega, hm, hc, fun j u hu => hx j u ?_⟩
    rw [List.getElem?_take] at hu
    split at hu
    · exact hu
    · cases hu
/-- A store into one cell. -/
theorem Own.set {g cap : Nat} (h : Own w base sz (.slice (some ⟨g, 0, none⟩) n cap) n xs) (j : Nat) (hj : j < xs.length) (u : Value) :
    Own (w.setCell ⟨g, j, none⟩ u) base sz (.slice (some ⟨g, 0, none⟩) n cap) n (xs.set j u) ∧ w.grownBy (w.setCell ⟨g, j, none⟩ u) (some g) := by
  obtain ⟨h1, h2⟩ := h
  have hg : w.grownBy (w.setCell ⟨g, j, none⟩ u) (some g) := ⟨rfl, rfl, rfl, by simp [World.setCell], fun k _ hk => Below.heap_setCell w _ u k (fun e => hk (by rw [e]))⟩
  refine ⟨⟨by simpa using h1, ?_⟩, hg⟩
  rcases h2 with ⟨h2, _⟩ | ⟨g', cap', h2, hb, hl, hn, hm, hc, hx⟩
  · simp at h2
  · simp at h2
    obtain ⟨rfl, rfl⟩ := h2
    have hjc : j < cap * sz := by rw [h1] at hj; exact Nat.lt_of_lt_of_le hj (Nat.mul_le_mul_right _ hn)
    have hsame : (w.setCell ⟨g, j, none⟩ u).cell? ⟨g, j, none⟩ = some u := by
      have := World.cell?_setCells_in g [u] j w (by intro i hi; simp at hi; subst hi; exact (hc j hjc).1) 0 (by simp)
      simpa [World.setCells] using this
    have hoth : ∀ i, i ≠ j → (w.setCell ⟨g, j, none⟩ u).cell? ⟨g, i, none⟩ = w.cell? ⟨g, i, none⟩ := by
      intro i hi
      have := World.cell?_setCells_out g [u] j w ⟨g, i, none⟩ (by intro _ _; simp; omega)
      simpa [World.setCells] using this
    refine .inr ⟨g, cap, rfl, hb, by simpa [World.setCell] using hl, hn, hm, fun i hi => ⟨?_, by rw [World.frozen?_setCell]; exact (hc i hi).2⟩, fun i v' hi => ?_⟩
    · by_cases e : i = j
      · subst e; rw [hsame]; rfl
      · rw [hoth i e]; exact (hc i hi).1
    · by_cases e : i = j
      · subst e
        rw [List.getElem?_set_self hj] at hi
        injection hi with hi
        rw [hsame, hi]
      · rw [List.getElem?_set_ne (Ne.symm e)] at hi
        rw [hoth i e]; exact hx i v' hi
theorem Own.cell {g cap : Nat} (h : Own w base sz (.slice (some ⟨g, 0, none⟩) n cap) n xs) {j : Nat} {u : Value} (hj : xs[j]? = some u) : w.cell? ⟨g, j, none⟩ = some u ∧ w.frozen? ⟨g, j, none⟩ = false := by
  obtain ⟨h1, h2⟩ := h
  rcases h2 with ⟨h2, _⟩ | ⟨g', cap', h2, hb, hl, hn, hm, hc, hx⟩
  · simp at h2
  · simp at h2
    obtain ⟨rfl, rfl⟩ := h2
    have hjl := (List.getElem?_eq_some_iff.1 hj).1
    rw [h1] at hjl
    exact ⟨hx j u hj, (hc j (Nat.lt_of_lt_of_le hjl (Nat.mul_le_mul_right _ hn))).2⟩
end

/-- []byte(s) is a row of one's own. -/
theorem Own.bytes (W : World) (e : TypeId) (s : ByteArray) (hs : s.size ≤ maxLen) :
    Own (Lib.bytesWorld W e s) W.heap.size 1 (.slice (some ⟨W.heap.size, 0, none⟩) s.size (grownCap W s.size 0 e)) s.size (bcells s.data.toList) := by
  refine ⟨by simp [bcells], .inr ⟨_, _, rfl, Nat.le_refl _, by rw [Lib.bytesWorld_size]; omega, grownCap_ge W _ _ _, grownCap_le_maxLen W _ _ _ hs, fun j hj => ?_, fun j u hu => ?_⟩⟩
  · have hcs : (Lib.bytesCells W e s).size = grownCap W s.size 0 e := by
      have := grownCap_ge W s.size 0 e
      simp [Lib.bytesCells]
      omega
    have hb := Lib.bytesWorld_at_new W e s
    rw [Nat.mul_one] at hj
    refine ⟨?_, ?_⟩
    · simp only [World.cell?, hb]
      simp [hcs, hj]
    · simp only [World.frozen?, hb]
      simp
      omega
  · have := bytes_row W e s
    obtain ⟨ad, he, hc⟩ := this.get hu
    simp only [Option.some.injEq] at he
    subst he
    rwa [add0] at hc

/-- append(v, x...): v a row of one's own, x any row. -/
theorem run_appO {P : Program} {t e : TypeId} {size bytes : Nat} (E : El P t e size bytes) (W : World) (base : Nat) (ty : TypeId) (v : Value) (n : Nat) (xs : List Value) (hown : Own W base size v n xs)
    (A : Option Addr) (m c : Nat) (news : List Value) (hl : news.length = m * size) (hR : RowAt W A news) (h1 : ∀ u ∈ news, u.oneCell' = true)
    (hbytes : (n + m) * bytes ≤ 140737488355328) (hbase : base ≤ W.heap.size) :
    ∃ v' w', (Builtin.append_ #[t, t] ty #[v, .slice A m c]).run P W = .ok v' w' ∧ Own w' base size v' (n + m) (xs ++ news) ∧ W.grownBy w' v.ownBlock ∧ (v'.ownBlock = v.ownBlock ∨ ∃ b, v'.ownBlock = some b ∧ W.heap.size ≤ b) := by
  rcases hown.2 with ⟨rfl, rfl⟩ | ⟨g, cap, rfl, hb, hg, hn, hm, hc, hx⟩
  · obtain rfl : xs = [] := List.eq_nil_of_length_eq_zero (by simpa using hown.1)
    obtain ⟨v', w', hr, h2, h3, h4⟩ := run_app E W base ty (.slice none 0 0) 0 [] (World.ownsRow_nil _ _ _ _) A m c news hl hR h1 hbytes hbase
    refine ⟨v', w', hr, Own.of_row h2, h3, ?_⟩
    rcases h4 with h4 | h4
    · exact .inl h4
    · exact .inr ⟨_, h4, Nat.le_refl _⟩
  · obtain ⟨ht, hsz, hb0, i, z, hi, hz, rfl, rfl, hzs⟩ := E
    have hlen : n + m ≤ 140737488355328 := Nat.le_trans (Nat.le_mul_of_pos_right _ hb0) hbytes
    rcases A with _ | ad
    · have hm0 : m = 0 := by
        rcases hR with rfl | ⟨ad, h, _⟩
        · rcases Nat.eq_zero_or_pos m with h0 | h0
          · exact h0
          · have := Nat.mul_pos h0 hsz
            simp at hl; omega
        · cases h
      subst hm0
      obtain rfl : news = [] := List.eq_nil_of_length_eq_zero (by simpa using hl)
      refine ⟨_, W, ?_, by simpa using hown, World.grownBy.refl W _, .inl rfl⟩
      simp [Builtin.append_, run_underlying ht, sizeOf, typeInfo, hi, Builtin.lenOf, Builtin.firstCells, hn, storeCells]
    · have hcells : ∀ j u, news[j]? = some u → W.cell? (ad.add j) = some u := by
        intro j u hu
        obtain ⟨ad', h, hc⟩ := hR.get hu
        injection h with h
        subst h
        exact hc
      by_cases hroom : n + m ≤ cap
      · have hin : ∀ j, j < news.length → n * i.size + j < cap * i.size := by
          intro j hj
          rw [hl] at hj
          have := Nat.mul_le_mul_right i.size hroom
          rw [Nat.add_mul] at this
          omega
        have hr := run_append_room_cells (P := P) W t ty e i ht hi g 0 n cap ad m c news hl hcells h1 hroom (fun j hj => by rw [Nat.zero_add]; exact (hc _ (hin j hj)).1) (fun j hj => by rw [Nat.zero_add]; exact (hc _ (hin j hj)).2)
        rw [Nat.zero_add] at hr
        refine ⟨_, _, hr, ⟨by rw [List.length_append, hown.1, hl, Nat.add_mul], .inr ⟨g, cap, rfl, hb, Nat.lt_of_lt_of_le hg (grownBy_setCells g _ _ W).size, hroom, hm, fun j hj => ?_, fun j u hu => ?_⟩⟩, grownBy_setCells g _ _ W, .inl rfl⟩
        · refine ⟨?_, by rw [World.frozen?_setCells]; exact (hc j hj).2⟩
          by_cases hjn : n * i.size ≤ j ∧ j < n * i.size + news.length
          · have := World.cell?_setCells_in g news (n * i.size) W (fun k hk => (hc _ (hin k hk)).1) (j - n * i.size) (by omega)
            rw [show n * i.size + (j - n * i.size) = j by omega] at this
            rw [this]; rfl
          · rw [World.cell?_setCells_out g news _ W ⟨g, j, none⟩ (by intro _ _; simp only; omega)]
            exact (hc j hj).1
        · have hxl : xs.length = n * i.size := hown.1
          rcases Nat.lt_or_ge j xs.length with hj | hj
          · rw [List.getElem?_append_left hj] at hu
            rw [World.cell?_setCells_out g news _ W ⟨g, j, none⟩ (by intro _ _; simp only; omega)]
            exact hx j u hu
          · rw [List.getElem?_append_right hj] at hu
            have hjl := (List.getElem?_eq_some_iff.1 hu).1
            have := World.cell?_setCells_in g news (n * i.size) W (fun k hk => (hc _ (hin k hk)).1) (j - xs.length) hjl
            rw [show n * i.size + (j - xs.length) = j by omega] at this
            rw [this, ← hu, List.getElem?_eq_getElem hjl]
      · obtain ⟨v', w', hr, h2, h3⟩ := run_append_arg_grows (P := P) W t ty e i z i.size i.bytes ht hi hz rfl rfl hzs hsz ⟨g, 0, none⟩ n cap xs hown.1 (fun j u hu => by rw [add0]; exact hx j u hu) ad m c news hl hcells (by omega) (by simp only [maxLen]; omega) hbytes
        have hO := Own.of_row h2
        have hnm : 0 < n + m := by omega
        obtain ⟨g', cap', rfl, hb', _⟩ := hO.form hnm
        exact ⟨_, w', hr, hO.weaken hbase, ⟨h3.os, h3.tape, h3.output, h3.size, fun k hk _ => h3.block k hk (by simp)⟩, .inr ⟨g', rfl, hb'⟩⟩

section
variable {P : Program} {ops : Array Oper} {rest : List Oper} {o : Oper} {a : Act} {Q : Exit → Act → World → Prop}
/-- The same as a step of the walk, behind 'at_builtin'. -/
theorem appO {t e : TypeId} {size bytes : Nat} (E : El P t e size bytes) {W : World} (base : Nat) (hgd : o.guard = none) (s x : Operand)
    (ho : o.op = .call { callee := .builtin .append, args := #[s, x], argTypes := #[t, t] })
    {v : Value} {n : Nat} {xs : List Value} (hs : a.eval s = v) (hown : Own W base size v n xs)
    {A : Option Addr} {m c : Nat} {news : List Value} (hx : a.eval x = .slice A m c) (hl : news.length = m * size) (hR : RowAt W A news) (h1 : ∀ u ∈ news, u.oneCell' = true)
    (hbytes : (n + m) * bytes ≤ 140737488355328) (hbase : base ≤ W.heap.size)
    (h : ∀ v' w', Own w' base size v' (n + m) (xs ++ news) → W.grownBy w' v.ownBlock → (v'.ownBlock = v.ownBlock ∨ ∃ b, v'.ownBlock = some b ∧ W.heap.size ≤ b) → wpList P ops Q rest (a.put o.dst v') w') :
    wpList P ops Q (o :: rest) a W := by
  obtain ⟨v', w', hr, h2, h3, h4⟩ := run_appO E W base o.type v n xs hown A m c news hl hR h1 hbytes hbase
  refine wpList_plain hgd fun K hK => ?_
  unfold Oper.wp execOp
  simp only [ho, resolve, invoke, builtin, Sem.run_bind, Sem.run_pure, Result.andThen_ok, List.map_toArray, List.map_cons, List.map_nil, hs, hx, hr]
  exact hK _ _ (h v' w' h2 h3 h4)
end
theorem Own.grown_below {w w1 w2 : World} {base sz n : Nat} {v : Value} {xs : List Value} (h : Own w1 base sz v n xs) (hb : Below w.heap.size w w1) (hg : w1.grownBy w2 v.ownBlock) (hbase : w.heap.size ≤ base) : Below w.heap.size w w2 :=
  hb.grown hg hb.size fun k hk => Nat.le_trans hbase (h.lt k hk).1
end Go.Proofs.Ytiocealhadlggaa

/- Package masonrybook: texts in rows, joined, lent, held against each other. -/
namespace Go.Proofs.Ytiocealhadlggaa
open Go.RowKit
set_option linter.unusedVariables false

def roomI : Int → List Int → Int
  | left, [] => left
  | left, x :: r => if left < 0 ∨ left < x then -1 else roomI (left - x) r

theorem roomI_one (left x : Int) (h0 : 0 ≤ left) : roomI left [x] = if left < x then -1 else left - x := by
  rw [roomI, roomI]
  by_cases h : left < x
  · rw [if_pos (.inr h), if_pos h]
  · rw [if_neg (by omega), if_neg h]

/-- How many bytes texts have together. -/
def totalLen (l : List ByteArray) : Int := (l.map fun s => (s.size : Int)).sum
theorem totalLen_snoc (l : List ByteArray) (s : ByteArray) : totalLen (l ++ [s]) = totalLen l + s.size := by simp [totalLen, List.sum_append]
theorem totalLen_nonneg (l : List ByteArray) : 0 ≤ totalLen l := by
  induction l with
  | nil => simp [totalLen]
  | cons a l ih => simp only [totalLen, List.map_cons, List.sum_cons] at *; omega
theorem totalLen_take_le (l : List ByteArray) (k : Nat) : totalLen (l.take k) ≤ totalLen l := by
  conv => rhs; rw [← List.take_append_drop k l]
  have : totalLen (l.take k ++ l.drop k) = totalLen (l.take k) + totalLen (l.drop k) := by simp only [totalLen, List.map_append, List.sum_append]
  have := totalLen_nonneg (l.drop k)
  omega

def shortB (few room : Int) (l : List ByteArray) : Bool := decide ((l.length : Int) ≤ few ∧ totalLen l ≤ room)

/-- All texts, one behind the other. -/
def joinB (l : List ByteArray) : ByteArray := l.foldl (· ++ ·) ByteArray.empty
theorem joinB_snoc (l : List ByteArray) (s : ByteArray) : joinB (l ++ [s]) = joinB l ++ s := by simp [joinB, List.foldl_append]
theorem joinB_size (l : List ByteArray) : ((joinB l).size : Int) = totalLen l := by
  have key : ∀ (l : List ByteArray) (a : ByteArray), ((l.foldl (· ++ ·) a).size : Int) = a.size + totalLen l := by
    intro l
    induction l with
    | nil => intro a; simp [totalLen]
    | cons s l ih => intro a; rw [List.foldl_cons, ih, ByteArray.size_append]; simp [totalLen]; omega
  have := key l ByteArray.empty
  simpa [joinB] using this

theorem el_texts : El Try.prog 57 9 1 16 := El.mk' Try.underlying57 (z := .string ByteArray.empty) (by kernel_rfl) (by decide)

theorem eq_of_take {α : Type} {a b : List α} (h : a.take a.length = b.take a.length) (hl : a.length = b.length) : a = b := by
  rw [List.take_length, hl, List.take_length] at h
  exact h
theorem take_eq_snoc {α : Type} {a b : List α} {k : Nat} {x : α} (ha : a[k]? = some x) (hb : b[k]? = some x) (h : a.take k = b.take k) : a.take (k + 1) = b.take (k + 1) := by
  rw [take_snoc_of ha, take_snoc_of hb, h]

def markB : ByteArray := ⟨#[109, 97, 114, 107]⟩
def staysB (l was : List ByteArray) (m : ByteArray) : Bool := decide (l = was) && decide (m = markB)
end Go.Proofs.Ytiocealhadlggaa

/- Words of 32 bits: what the walk's operations on numbers do to them. -/
namespace Go.Proofs.Ytiocealhadlggaa
open Go.RowKit
set_option linter.unusedVariables false

theorem w_lt (x : BitVec 32) : x.toNat < 4294967296 := x.isLt
theorem w_xor (x y : BitVec 32) : bits .xor .u32 (x.toNat : Int) (y.toNat : Int) = ((x ^^^ y).toNat : Int) := by
  rw [u32_xor_nat _ _ (w_lt x) (w_lt y), BitVec.toNat_xor]
theorem w_and (x y : BitVec 32) : bits .and .u32 (x.toNat : Int) (y.toNat : Int) = ((x &&& y).toNat : Int) := by
  rw [u32_and_nat _ _ (w_lt x) (w_lt y), BitVec.toNat_and]
theorem w_or (x y : BitVec 32) : bits .or .u32 (x.toNat : Int) (y.toNat : Int) = ((x ||| y).toNat : Int) := by
  rw [u32_or_nat _ _ (w_lt x) (w_lt y), BitVec.toNat_or]
theorem w_not (x : BitVec 32) : bits .xor .u32 4294967295 (x.toNat : Int) = ((~~~x).toNat : Int) := by
  have h := w_xor (BitVec.allOnes 32) x
  rw [show ((BitVec.allOnes 32).toNat : Int) = 4294967295 by decide] at h
  rw [h, BitVec.allOnes_xor]
theorem w_not' (x : BitVec 32) : bits .xor .u32 IntKind.u32.max (x.toNat : Int) = ((~~~x).toNat : Int) := w_not x
theorem w_add (x y : BitVec 32) : IntKind.u32.wrap ((x.toNat : Int) + (y.toNat : Int)) = ((x + y).toNat : Int) := by
  rw [IntKind.wrap_u32', BitVec.toNat_add]; omega
theorem w_shl (x : BitVec 32) (k : Nat) : IntKind.u32.wrap ((x.toNat : Int) * ((2 ^ k : Nat) : Int)) = ((x <<< k).toNat : Int) := by
  rw [IntKind.wrap_u32', BitVec.toNat_shiftLeft, Nat.shiftLeft_eq]
  have e : (2 : Nat) ^ 32 = 4294967296 := by decide
  rw [e]
  generalize 2 ^ k = m
  rw [← Int.natCast_mul]
  omega
theorem w_shr (x : BitVec 32) (k : Nat) : (x.toNat : Int) / ((2 ^ k : Nat) : Int) = ((x >>> k).toNat : Int) := by
  rw [BitVec.toNat_ushiftRight, Nat.shiftRight_eq_div_pow]
  generalize 2 ^ k = m
  exact (Int.natCast_ediv _ _).symm
theorem t_add (x y : BitVec 32) : ((x.toNat : Int) + (y.toNat : Int)) % 4294967296 = ((x + y).toNat : Int) := by
  rw [← w_add, IntKind.wrap_u32']
theorem t_add5 (a b c d e : BitVec 32) : ((a.toNat : Int) + (b.toNat : Int) + (c.toNat : Int) + (d.toNat : Int) + (e.toNat : Int)) % 4294967296 = ((a + b + c + d + e).toNat : Int) := by
  simp only [BitVec.toNat_add]; omega
theorem t_shl (x : BitVec 32) (k : Nat) : (x.toNat : Int) * 2 ^ k % 4294967296 = ((x <<< k).toNat : Int) := by
  have h := w_shl x k
  rw [IntKind.wrap_u32', Int.natCast_pow] at h
  exact h
theorem t_shr (x : BitVec 32) (k : Nat) : (x.toNat : Int) / 2 ^ k = ((x >>> k).toNat : Int) := by
  have h := w_shr x k
  rw [Int.natCast_pow] at h
  exact h
/-- A byte as a word. -/
def bw (b : UInt8) : BitVec 32 := BitVec.ofNat 32 b.toNat
theorem bw_nat (b : UInt8) : (b.toNat : Int) = ((bw b).toNat : Int) := by
  have := b.toNat_lt
  rw [bw, BitVec.toNat_ofNat]; omega
/-- A word is turned to the left. -/
def turn (x : BitVec 32) (k : Nat) : BitVec 32 := x <<< k ||| x >>> (32 - k)
/-- The bytes of a word, the highest one first. -/
def hi4 (x : BitVec 32) : List UInt8 := [UInt8.ofNat (x.toNat / 16777216), UInt8.ofNat (x.toNat / 65536), UInt8.ofNat (x.toNat / 256), UInt8.ofNat x.toNat]
/-- Four bytes as a word, the highest one first. -/
def word4 (a b c d : UInt8) : BitVec 32 := (((bw a <<< 8 ||| bw b) <<< 8 ||| bw c) <<< 8 ||| bw d)
theorem word4_ref (a b c d : UInt8) : bw a <<< 24 ||| bw b <<< 16 ||| bw c <<< 8 ||| bw d = word4 a b c d := by
  simp only [word4, BitVec.shiftLeft_or_distrib, ← BitVec.shiftLeft_add]
def wcells (l : List (BitVec 32)) : List Value := l.map fun x => .int .u32 (x.toNat : Int)
theorem wcells_at {l : List (BitVec 32)} {k : Nat} {x : BitVec 32} (h : l[k]? = some x) : (wcells l)[k]? = some (.int .u32 (x.toNat : Int)) := by simp [wcells, h]
theorem one_wcells (l : List (BitVec 32)) : ∀ u ∈ wcells l, u.oneCell' = true := by intro u hu; obtain ⟨b, _, rfl⟩ := List.mem_map.1 hu; rfl

/-- SHA-1: the words of a block of 64 bytes: sixteen that stand there, then each from those before it. -/
def firstWords (s : List UInt8) : List (BitVec 32) := (List.range 16).map fun t => word4 (s.getD (4 * t) 0) (s.getD (4 * t + 1) 0) (s.getD (4 * t + 2) 0) (s.getD (4 * t + 3) 0)
def oneNext (w : List (BitVec 32)) : BitVec 32 := turn (w.getD (w.length - 3) 0 ^^^ w.getD (w.length - 8) 0 ^^^ w.getD (w.length - 14) 0 ^^^ w.getD (w.length - 16) 0) 1
def oneWords (s : List UInt8) : Nat → List (BitVec 32)
  | 0 => firstWords s
  | n + 1 => oneWords s n ++ [oneNext (oneWords s n)]
structure Five where
  a : BitVec 32
  b : BitVec 32
  c : BitVec 32
  d : BitVec 32
  e : BitVec 32
  deriving DecidableEq
def oneF (t : Nat) (b c d : BitVec 32) : BitVec 32 :=
  if t < 20 then b &&& c ||| ~~~b &&& d else if t < 40 then b ^^^ c ^^^ d else if t < 60 then b &&& c ||| b &&& d ||| c &&& d else b ^^^ c ^^^ d
def oneK (t : Nat) : BitVec 32 := if t < 20 then 0x5a827999 else if t < 40 then 0x6ed9eba1 else if t < 60 then 0x8f1bbcdc else 0xca62c1d6
def oneStep (t : Nat) (w : BitVec 32) (h : Five) : Five :=
  ⟨turn h.a 5 + oneF t h.b h.c h.d + h.e + oneK t + w, h.a, turn h.b 30, h.c, h.d⟩
def oneRounds (w : List (BitVec 32)) (h : Five) : Nat → Five
  | 0 => h
  | n + 1 => oneStep n (w.getD n 0) (oneRounds w h n)
def Five.add (x y : Five) : Five := ⟨x.a + y.a, x.b + y.b, x.c + y.c, x.d + y.d, x.e + y.e⟩
def oneMix (h : Five) (s : List UInt8) : Five := h.add (oneRounds (oneWords s 64) h 80)
def oneBlocks (s : List UInt8) (h : Five) : Nat → Five
  | 0 => h
  | n + 1 => oneMix (oneBlocks s h n) ((s.drop (64 * n)).take 64)
def Five.cells (h : Five) : List (BitVec 32) := [h.a, h.b, h.c, h.d, h.e]
def oneStart : Five := ⟨0x67452301, 0xefcdab89, 0x98badcfe, 0x10325476, 0xc3d2e1f0⟩
/-- The bytes of a number of 64 bits, the highest one first. -/
def hi8 (n : Nat) : List UInt8 := [UInt8.ofNat (n / 72057594037927936), UInt8.ofNat (n / 281474976710656), UInt8.ofNat (n / 1099511627776), UInt8.ofNat (n / 4294967296), UInt8.ofNat (n / 16777216), UInt8.ofNat (n / 65536), UInt8.ofNat (n / 256), UInt8.ofNat n]
def padL (n : Nat) : List UInt8 := 128 :: (List.replicate ((119 - n % 64) % 64) 0 ++ hi8 (8 * n))
def oneSum (s : List UInt8) : List UInt8 :=
  let p := s ++ padL s.length
  (oneBlocks p oneStart (p.length / 64)).cells.flatMap hi4

/-- SHA-256. -/
structure Eight where
  a : BitVec 32
  b : BitVec 32
  c : BitVec 32
  d : BitVec 32
  e : BitVec 32
  f : BitVec 32
  g : BitVec 32
  i : BitVec 32
  deriving DecidableEq
def twoKeys : List (BitVec 32) := [
  0x428a2f98, 0x71374491, 0xb5c0fbcf, 0xe9b5dba5, 0x3956c25b, 0x59f111f1, 0x923f82a4, 0xab1c5ed5,
  0xd807aa98, 0x12835b01, 0x243185be, 0x550c7dc3, 0x72be5d74, 0x80deb1fe, 0x9bdc06a7, 0xc19bf174,
  0xe49b69c1, 0xefbe4786, 0x0fc19dc6, 0x240ca1cc, 0x2de92c6f, 0x4a7484aa, 0x5cb0a9dc, 0x76f988da,
  0x983e5152, 0xa831c66d, 0xb00327c8, 0xbf597fc7, 0xc6e00bf3, 0xd5a79147, 0x06ca6351, 0x14292967,
  0x27b70a85, 0x2e1b2138, 0x4d2c6dfc, 0x53380d13, 0x650a7354, 0x766a0abb, 0x81c2c92e, 0x92722c85,
  0xa2bfe8a1, 0xa81a664b, 0xc24b8b70, 0xc76c51a3, 0xd192e819, 0xd6990624, 0xf40e3585, 0x106aa070,
  0x19a4c116, 0x1e376c08, 0x2748774c, 0x34b0bcb5, 0x391c0cb3, 0x4ed8aa4a, 0x5b9cca4f, 0x682e6ff3,
  0x748f82ee, 0x78a5636f, 0x84c87814, 0x8cc70208, 0x90befffa, 0xa4506ceb, 0xbef9a3f7, 0xc67178f2]
def twoNext (w : List (BitVec 32)) : BitVec 32 :=
  w.getD (w.length - 16) 0 + w.getD (w.length - 7) 0 + (turn (w.getD (w.length - 15) 0) 25 ^^^ turn (w.getD (w.length - 15) 0) 14 ^^^ w.getD (w.length - 15) 0 >>> 3) + (turn (w.getD (w.length - 2) 0) 15 ^^^ turn (w.getD (w.length - 2) 0) 13 ^^^ w.getD (w.length - 2) 0 >>> 10)
def twoWords (s : List UInt8) : Nat → List (BitVec 32)
  | 0 => firstWords s
  | n + 1 => twoWords s n ++ [twoNext (twoWords s n)]
def twoX (h : Eight) (k w : BitVec 32) : BitVec 32 := h.i + (turn h.e 26 ^^^ turn h.e 21 ^^^ turn h.e 7) + (h.e &&& h.f ^^^ ~~~h.e &&& h.g) + k + w
def twoY (h : Eight) : BitVec 32 := turn h.a 30 ^^^ turn h.a 19 ^^^ turn h.a 10
def twoZ (h : Eight) : BitVec 32 := h.a &&& h.b ^^^ h.a &&& h.c ^^^ h.b &&& h.c
def twoStep (k w : BitVec 32) (h : Eight) : Eight :=
  ⟨twoX h k w + (twoY h + twoZ h), h.a, h.b, h.c, h.d + twoX h k w, h.e, h.f, h.g⟩
def twoRounds (w : List (BitVec 32)) (h : Eight) : Nat → Eight
  | 0 => h
  | n + 1 => twoStep (twoKeys.getD n 0) (w.getD n 0) (twoRounds w h n)
def Eight.add (x y : Eight) : Eight := ⟨x.a + y.a, x.b + y.b, x.c + y.c, x.d + y.d, x.e + y.e, x.f + y.f, x.g + y.g, x.i + y.i⟩
def twoMix (h : Eight) (s : List UInt8) : Eight := h.add (twoRounds (twoWords s 48) h 64)
def twoBlocks (s : List UInt8) (h : Eight) : Nat → Eight
  | 0 => h
  | n + 1 => twoMix (twoBlocks s h n) ((s.drop (64 * n)).take 64)
def Eight.cells (h : Eight) : List (BitVec 32) := [h.a, h.b, h.c, h.d, h.e, h.f, h.g, h.i]
def twoStart : Eight := ⟨0x6a09e667, 0xbb67ae85, 0x3c6ef372, 0xa54ff53a, 0x510e527f, 0x9b05688c, 0x1f83d9ab, 0x5be0cd19⟩
def twoSum (s : List UInt8) : List UInt8 :=
  let p := s ++ padL s.length
  (twoBlocks p twoStart (p.length / 64)).cells.flatMap hi4
end Go.Proofs.Ytiocealhadlggaa

/- Package shaone: what each function computes. -/
namespace Go.Proofs.Ytiocealhadlggaa
open Go.RowKit
set_option linter.unusedVariables false

set_option maxHeartbeats 400000 in
theorem rot_calls (x : BitVec 32) (k : Int) (m : Nat) (hk : bits BinOp.and IntKind.u64 (IntKind.u64.wrap k) 31 = (m : Int)) (hm : m < 32) (w : World) : Calls Try.prog 47 #[.int .u32 (x.toNat : Int), .int .i64 k] w fun e w' => e = .returned (.int .u32 ((turn x m).toNat : Int)) ∧ w = w' := by
  go_enter Try.func47, Try.ntmps47
  go_wp2
  go_ret
  exact ⟨ret_int (by rw [t_shl, t_shr, w_or]; rfl), rfl⟩
theorem rot1_calls (x : BitVec 32) (w : World) : Calls Try.prog 47 #[.int .u32 (x.toNat : Int), .int .i64 1] w fun e w' => e = .returned (.int .u32 ((turn x 1).toNat : Int)) ∧ w = w' := rot_calls x 1 1 (by decide) (by omega) w
theorem rot5_calls (x : BitVec 32) (w : World) : Calls Try.prog 47 #[.int .u32 (x.toNat : Int), .int .i64 5] w fun e w' => e = .returned (.int .u32 ((turn x 5).toNat : Int)) ∧ w = w' := rot_calls x 5 5 (by decide) (by omega) w
theorem rot30_calls (x : BitVec 32) (w : World) : Calls Try.prog 47 #[.int .u32 (x.toNat : Int), .int .i64 30] w fun e w' => e = .returned (.int .u32 ((turn x 30).toNat : Int)) ∧ w = w' := rot_calls x 30 30 (by decide) (by omega) w

set_option maxHeartbeats 800000 in
theorem round_calls (t : Nat) (b c d : BitVec 32) (w : World) (ht : t < 80) : Calls Try.prog 48 #[.int .i64 t, .int .u32 (b.toNat : Int), .int .u32 (c.toNat : Int), .int .u32 (d.toNat : Int)] w fun e w' => e = .returned (.tuple #[.int .u32 ((oneF t b c d).toNat : Int), .int .u32 ((oneK t).toNat : Int)]) ∧ w = w' := by
  have key : ∀ q : Int, (t : Int) / 20 = q → Calls Try.prog 48 #[.int .i64 t, .int .u32 (b.toNat : Int), .int .u32 (c.toNat : Int), .int .u32 (d.toNat : Int)] w fun e w' => e = .returned (.tuple #[.int .u32 ((oneF t b c d).toNat : Int), .int .u32 ((oneK t).toNat : Int)]) ∧ w = w' := by
    intro q hq
    by_cases h1 : q = 0
    · subst h1
      have HF : Hid (oneF t b c d = (b &&& c ||| ~~~b &&& d)) := by rw [Hid, oneF, if_pos (by omega)]
      have HK : Hid (oneK t = 0x5a827999) := by rw [Hid, oneK, if_pos (by omega)]
      go_enter Try.func48, Try.ntmps48
      go_wp2
      go_ret2
      rw [HF.out, HK.out, w_and, w_not', w_and, w_or]
      exact ⟨rfl, rfl⟩
    · have b1 : (q == 0) = false := by simpa using h1
      by_cases h2 : q = 1
      · subst h2
        have HF : Hid (oneF t b c d = (b ^^^ c ^^^ d)) := by rw [Hid, oneF, if_neg (by omega), if_pos (by omega)]
        have HK : Hid (oneK t = 0x6ed9eba1) := by rw [Hid, oneK, if_neg (by omega), if_pos (by omega)]
        clear h1 b1
        go_enter Try.func48, Try.ntmps48
        go_wp2
        go_ret2
        rw [HF.out, HK.out, w_xor, w_xor]
        exact ⟨rfl, rfl⟩
      · have b2 : (q == 1) = false := by simpa using h2
        by_cases h3 : q = 2
        · subst h3
          have HF : Hid (oneF t b c d = (b &&& c ||| b &&& d ||| c &&& d)) := by rw [Hid, oneF, if_neg (by omega), if_neg (by omega), if_pos (by omega)]
          have HK : Hid (oneK t = 0x8f1bbcdc) := by rw [Hid, oneK, if_neg (by omega), if_neg (by omega), if_pos (by omega)]
          clear h1 b1 h2 b2
          go_enter Try.func48, Try.ntmps48
          go_wp2
          go_ret2
          rw [HF.out, HK.out, w_and, w_and, w_and, w_or, w_or]
          exact ⟨rfl, rfl⟩
        · have b3 : (q == 2) = false := by simpa using h3
          have HF : Hid (oneF t b c d = (b ^^^ c ^^^ d)) := by rw [Hid, oneF, if_neg (by omega), if_neg (by omega), if_neg (by omega)]
          have HK : Hid (oneK t = 0xca62c1d6) := by rw [Hid, oneK, if_neg (by omega), if_neg (by omega), if_neg (by omega)]
          clear h1 h2 h3
          go_enter Try.func48, Try.ntmps48
          go_wp2
          go_ret2
          rw [HF.out, HK.out, w_xor, w_xor]
          exact ⟨rfl, rfl⟩
  exact key _ rfl
end Go.Proofs.Ytiocealhadlggaa
