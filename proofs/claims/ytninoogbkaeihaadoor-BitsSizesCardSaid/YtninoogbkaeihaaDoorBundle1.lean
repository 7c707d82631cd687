/- Words and contracts that this claim leans on, one text behind the other. -/
import Derived.Test.YtninoogbkaeihaaDoorProg
import Derived.WalkKit
import Derived.Lib.ConvBytes
import Derived.Lib.Hide
import Derived.WalkSpells
import Derived.WalkLawsBesides
import Derived.KernelRfl
import Derived.Deep.QuietTactic
import Derived.BigQuiet
import Derived.Maps.AppendAt
import Derived.Laws.OwnMore
import Derived.ArgAppend
import Derived.Laws.IdiomCopy
import Derived.RegionTactic
import Derived.Lib.AppendStr
import Derived.Deep.RegionHeldLaw
import Derived.Deep.RegionLaw
/- Words used by all texts of this seat: cells that lie in a row, what a fresh block changes. -/
namespace Go.Proofs.YtninoogbkaeihaaDoor
open Go.RowKit
set_option linter.unusedVariables false

/-- The cells cs lie one behind the other at A (of no cells nothing is said). -/
def RowAt (w : World) (A : Option Addr) (cs : List Value) : Prop :=
  cs = [] ∨ ∃ ad, A = some ad ∧ ∀ j u, cs[j]? = some u → w.cell? (ad.add j) = some u
theorem RowAt.nil (w : World) (A : Option Addr) : RowAt w A [] := .inl rfl
theorem RowAt.get {w : World} {A : Option Addr} {cs : List Value} (h : RowAt w A cs) {j : Nat} {u : Value} (hj : cs[j]? = some u) : ∃ ad, A = some ad ∧ w.cell? (ad.add j) = some u := by
  rcases h with rfl | ⟨ad, e, h⟩
  · simp at hj
  · exact ⟨ad, e, h j u hj⟩
theorem cell_kept {B : Nat} {w w' : World} (h : Below B w w') {a : Addr} {v : Value} (hB : w.heap.size ≤ B) (hc : w.cell? a = some v) : w'.cell? a = some v :=
  (h.cell (Nat.lt_of_lt_of_le (World.block_lt_of_cell? w a hc) hB)).trans hc
theorem RowAt.below {w w' : World} {A : Option Addr} {cs : List Value} (h : RowAt w A cs) (hb : Below w.heap.size w w') : RowAt w' A cs := by
  rcases h with rfl | ⟨ad, e, h⟩
  · exact .inl rfl
  · exact .inr ⟨ad, e, fun j u hj => cell_kept hb (Nat.le_refl _) (h j u hj)⟩
/-- Both facts of a block that was made behind another world. -/
theorem below_trans' {w w1 w2 : World} (h : Below w.heap.size w w1) (k : Below w1.heap.size w1 w2) : Below w.heap.size w w2 :=
  h.trans (k.mono h.size)

theorem below_drewN {B : Nat} {w W : World} (h : Below B w W) (n : Nat) : Below B w (W.drewN n) := ⟨h.os, h.tape, h.output, h.size, h.block⟩
theorem RowAt.addr {w : World} {A : Option Addr} {cs : List Value} (h : RowAt w A cs) (h0 : cs ≠ []) : ∃ b o, A = some ⟨b, o, none⟩ ∧ b < w.heap.size ∧ ∀ j u, cs[j]? = some u → w.cell? ⟨b, o + j, none⟩ = some u := by
  rcases h with h | ⟨⟨b, o, sp⟩, rfl, h⟩
  · exact absurd h h0
  · obtain ⟨x, r, rfl⟩ := List.exists_cons_of_ne_nil h0
    have h1 := h 0 x rfl
    have hsp : sp = none := by simpa [Addr.add] using World.cell?_spot h1
    subst hsp
    have e : ∀ j, (⟨b, o, none⟩ : Addr).add j = ⟨b, o + j, none⟩ := by intro j; unfold Addr.add; split <;> simp_all
    exact ⟨b, o, rfl, World.block_lt_of_cell? w _ h1, fun j u hj => by rw [← e]; exact h j u hj⟩
theorem quiet_same {P : Program} {f : FuncId} {args : Array Value} {w : World} {n : Nat} {v : Value}
    (h : Calls P f args (w.drewN n) fun e w' => e = .returned v ∧ w.drewN n = w') : Calls P f args (w.drewN n) fun e w'' => e = .returned v ∧ ∃ m, w'' = w.drewN m :=
  h.mono fun _ _ ⟨he, hm⟩ => ⟨he, n, hm.symm⟩
theorem str_inj {a b : ByteArray} (h : a.toList = b.toList) : a = b := by
  rw [ByteArray.toList_eq, ByteArray.toList_eq] at h
  exact ByteArray.ext (Array.toList_inj.mp h)
theorem str_beq (a b : ByteArray) : (a.toList == b.toList) = decide (a = b) := by
  rw [Bool.eq_iff_iff]
  simp only [beq_iff_eq, decide_eq_true_eq]
  exact ⟨str_inj, fun h => by rw [h]⟩
theorem str_ne {a b : ByteArray} (h : a ≠ b) : (a.toList == b.toList) = false := by rw [str_beq]; simpa using h

theorem RowAt.left {w : World} {A : Option Addr} {cs ds : List Value} (h : RowAt w A (cs ++ ds)) : RowAt w A cs := by
  rcases h with h | ⟨ad, e, h⟩
  · exact .inl (List.append_eq_nil_iff.1 h).1
  · refine .inr ⟨ad, e, fun j u hj => h j u ?_⟩
    rw [List.getElem?_append_left (List.getElem?_eq_some_iff.1 hj).1]
    exact hj

def bcells (l : List UInt8) : List Value := l.map fun b => .int .u8 b.toNat
def icells (l : List Int) : List Value := l.map (.int .i64)
def scells (l : List ByteArray) : List Value := l.map .string
def pcells (l : List (Int × Int)) : List Value := l.flatMap fun p => [.int .i64 p.1, .int .i64 p.2]
theorem bcells_at {l : List UInt8} {k : Nat} {x : UInt8} (h : l[k]? = some x) : (bcells l)[k]? = some (.int .u8 x.toNat) := by simp [bcells, h]
theorem icells_at {l : List Int} {k : Nat} {x : Int} (h : l[k]? = some x) : (icells l)[k]? = some (.int .i64 x) := by simp [icells, h]
theorem scells_at {l : List ByteArray} {k : Nat} {x : ByteArray} (h : l[k]? = some x) : (scells l)[k]? = some (.string x) := by simp [scells, h]
theorem rowAt_alloc (w : World) (cs : List Value) (t : TypeId) : RowAt (w.alloc (.cells cs.toArray t)) (some ⟨w.heap.size, 0, none⟩) cs := by
  refine .inr ⟨_, rfl, fun j u hj => ?_⟩
  have e : (⟨w.heap.size, 0, none⟩ : Addr).add j = ⟨w.heap.size, j, none⟩ := by unfold Addr.add; split <;> simp_all
  rw [e, World.cell?_alloc_at _ _ _ _ rfl]
  simpa using hj
theorem RowAt.alloc {w : World} {A : Option Addr} {cs : List Value} (h : RowAt w A cs) (o : Obj) : RowAt (w.alloc o) A cs := h.below ((Below.refl _ _).alloc (Nat.le_refl _) o)
theorem RowAt.take_b {w : World} {A : Option Addr} {l : List UInt8} (h : RowAt w A (bcells l)) (m : Nat) : RowAt w A (bcells (l.take m)) := by
  rw [← List.take_append_drop m l, bcells, List.map_append] at h
  exact h.left
/-- string(b) of a row of bytes. -/
theorem bytes_str (P : Program) (src e_ dst : TypeId) (hs : P.underlying src = some (.slice e_)) (he : P.underlying e_ = some (.int .u8)) (hd : P.underlying dst = some .string) (A : Option Addr) (n c : Nat) (l : List UInt8) (w : World) (hl : l.length = n) (hR : RowAt w A (bcells l)) :
    (convert src dst (.slice A n c)).run P w = .ok (.string ⟨l.toArray⟩) w := by
  subst hl
  have key : ∀ ad : Addr, (∀ j u, (bcells l)[j]? = some u → w.cell? (ad.add j) = some u) → (convert src dst (.slice (some ad) l.length c)).run P w = .ok (.string ⟨l.toArray⟩) w := by
    intro ad hc
    have e : bcells l = (l.map fun b => (b.toNat : Int)).map (Value.int .u8) := by simp [bcells]
    have hl := run_loadCells_list (P := P) w ad (bcells l) hc
    rw [e] at hl
    simp only [List.length_map] at hl
    rw [run_convert_bytes_string w src dst e_ _ l.length c hs he hd, run_bytesToString w ad l.length c _ hl, foldl_push_bytes]
    congr 2
    simp only [List.map_map]
    have e2 : l.map ((fun n : Int => UInt8.ofNat n.toNat) ∘ fun b : UInt8 => (b.toNat : Int)) = l := by
      conv => rhs; rw [← List.map_id l]
      apply List.map_congr_left
      intro b _
      simp
    rw [e2]
    simp [ByteArray.empty, ByteArray.emptyWithCapacity]
    rfl
  rcases hR with h | ⟨ad, rfl, hc⟩
  · rcases A with _ | ad
    · obtain rfl : l = [] := by simpa [bcells] using h
      rw [run_convert_bytes_nil w src e_ hs he _ _ dst hd]
      rfl
    · exact key ad (by rw [h]; simp)
  · exact key ad hc
theorem mk_data (s : ByteArray) : (⟨s.data.toList.toArray⟩ : ByteArray) = s := by cases s; simp
theorem mk_size (l : List UInt8) : (⟨l.toArray⟩ : ByteArray).size = l.length := by simp [ByteArray.size]
theorem all_one {x : ByteArray} {n : Nat} (h : x.size ≤ n) : ∀ s ∈ [x], s.size ≤ n := by intro s hs; rw [List.mem_singleton.1 hs]; exact h
theorem pcells_cons (p : Int × Int) (l : List (Int × Int)) : pcells (p :: l) = .int .i64 p.1 :: .int .i64 p.2 :: pcells l := rfl
theorem pcells_length (l : List (Int × Int)) : (pcells l).length = l.length * 2 := by
  induction l with
  | nil => rfl
  | cons p l ih => rw [pcells_cons]; simp [ih]; omega
theorem pcells_append (l m : List (Int × Int)) : pcells (l ++ m) = pcells l ++ pcells m := by simp [pcells]
theorem pcells_at {l : List (Int × Int)} {k : Nat} {p : Int × Int} (h : l[k]? = some p) : (pcells l)[k * 2]? = some (.int .i64 p.1) ∧ (pcells l)[k * 2 + 1]? = some (.int .i64 p.2) := by
  induction l generalizing k with
  | nil => simp at h
  | cons q l ih =>
    cases k with
    | zero => simp at h; subst h; exact ⟨rfl, rfl⟩
    | succ k =>
      have := ih (k := k) (by simpa using h)
      rw [pcells_cons, show (k + 1) * 2 = k * 2 + 1 + 1 by omega]
      simpa using this
theorem pair_at {w : World} {A : Option Addr} {l : List (Int × Int)} {k : Nat} {p : Int × Int} (h : RowAt w A (pcells l)) (hk : l[k]? = some p) :
    ∃ b o, A = some ⟨b, o, none⟩ ∧ b < w.heap.size ∧ w.cell? ⟨b, o + k * 2, none⟩ = some (.int .i64 p.1) ∧ w.cell? ⟨b, o + k * 2 + 1, none⟩ = some (.int .i64 p.2) := by
  obtain ⟨h1, h2⟩ := pcells_at hk
  obtain ⟨b, o, e, hb, hc⟩ := h.addr (by intro e; rw [e] at h1; simp at h1)
  exact ⟨b, o, e, hb, hc _ _ h1, by rw [Nat.add_assoc]; exact hc _ _ h2⟩
theorem one_bcells (l : List UInt8) : ∀ u ∈ bcells l, u.oneCell' = true := by intro u hu; obtain ⟨b, _, rfl⟩ := List.mem_map.1 hu; rfl
theorem one_icells (l : List Int) : ∀ u ∈ icells l, u.oneCell' = true := by intro u hu; obtain ⟨b, _, rfl⟩ := List.mem_map.1 hu; rfl
theorem one_scells (l : List ByteArray) : ∀ u ∈ scells l, u.oneCell' = true := by intro u hu; obtain ⟨b, _, rfl⟩ := List.mem_map.1 hu; rfl
theorem one_pcells (l : List (Int × Int)) : ∀ u ∈ pcells l, u.oneCell' = true := by
  intro u hu; obtain ⟨b, _, h⟩ := List.mem_flatMap.1 hu
  simp at h
  rcases h with rfl | rfl <;> rfl
/-- []byte(s): the new row, the world behind it. -/
theorem bytes_below (W : World) (e : TypeId) (s : ByteArray) : Below W.heap.size W (Lib.bytesWorld W e s) :=
  ⟨rfl, rfl, rfl, by rw [Lib.bytesWorld_size]; omega, fun i hi => Lib.bytesWorld_at_old W e s i hi⟩
theorem bytes_row (W : World) (e : TypeId) (s : ByteArray) : RowAt (Lib.bytesWorld W e s) (some ⟨W.heap.size, 0, none⟩) (bcells s.data.toList) := by
  refine .inr ⟨_, rfl, fun j u hj => ?_⟩
  have e1 : (⟨W.heap.size, 0, none⟩ : Addr).add j = ⟨W.heap.size, j, none⟩ := by unfold Addr.add; split <;> simp_all
  have hjl : j < (bcells s.data.toList).length := (List.getElem?_eq_some_iff.1 hj).1
  simp only [bcells, List.length_map] at hjl
  rw [e1, Lib.bytesWorld_cell W e s j (by simpa using hjl)]
  simp only [bcells, List.getElem?_map, List.getElem?_eq_getElem hjl, Option.map_some] at hj
  rw [← hj, List.getD_eq_getElem?_getD, List.getElem?_eq_getElem hjl]
  rfl
theorem data_length (s : ByteArray) : s.data.toList.length = s.size := by rw [Array.length_toList]; rfl
theorem take_snoc_str (s : ByteArray) (k : Nat) (h : k < s.size) : s.data.toList.take (k + 1) = s.data.toList.take k ++ [s[k]] := by
  rw [List.take_succ_eq_append_getElem (by simpa using h)]; rfl
theorem take_snoc_of {α : Type} {l : List α} {k : Nat} {x : α} (h : l[k]? = some x) : l.take (k + 1) = l.take k ++ [x] := by
  rw [List.take_add_one, h]; rfl
theorem some_at {α : Type} {l : List α} {k : Nat} (h : k < l.length) : ∃ x, l[k]? = some x := ⟨l[k], List.getElem?_eq_getElem h⟩
theorem max2_int (k k' : IntKind) (x y : Int) : Builtin.max2 (.int k x) (.int k' y) = pure (.int k (max x y)) := by
  simp only [Builtin.max2, gt_iff_lt]
  have e : (if x < y then y else x) = max x y := by rw [Int.max_def]; split <;> split <;> omega
  rw [e]
theorem min2_int (k k' : IntKind) (x y : Int) : Builtin.min2 (.int k x) (.int k' y) = pure (.int k (min x y)) := by
  simp only [Builtin.min2]
  have e : (if y < x then y else x) = min x y := by rw [Int.min_def]; split <;> split <;> omega
  rw [e]
theorem max_two (ats : Array TypeId) (ty : TypeId) (a b : Value) : Builtin.max_ ats ty #[a, b] = (Builtin.max2 a b >>= fun s => pure s) := by simp only [Builtin.max_, List.foldlM_cons, List.foldlM_nil]
theorem min_two (ats : Array TypeId) (ty : TypeId) (a b : Value) : Builtin.min_ ats ty #[a, b] = (Builtin.min2 a b >>= fun s => pure s) := by simp only [Builtin.min_, List.foldlM_cons, List.foldlM_nil]
theorem ret_int {k : IntKind} {a b : Int} (h : a = b) : Ending.returned (.int k a) = .returned (.int k b) := by rw [h]
theorem ret_bool {a b : Bool} (h : a = b) : Ending.returned (.bool a) = .returned (.bool b) := by rw [h]
theorem ret_str {a b : ByteArray} (h : a = b) : Ending.returned (.string a) = .returned (.string b) := by rw [h]
theorem val_int {k : IntKind} {a b : Int} (h : a = b) : Value.int k a = .int k b := by rw [h]

/-- What is known of a slice type t, its elements' type e: how many cells and bytes each has. -/
def El (P : Program) (t e : TypeId) (size bytes : Nat) : Prop :=
  P.underlying t = some (.slice e) ∧ 0 < size ∧ 0 < bytes ∧ ∃ i z, P.info? e = some i ∧ i.zero = some z ∧ i.size = size ∧ i.bytes = bytes ∧ z.cells.size = size
theorem El.mk' {P : Program} {t e : TypeId} {z : Value} {size bytes : Nat} (h : P.underlying t = some (.slice e)) (hi : (P.info? e).map (fun i => (i.zero, i.size, i.bytes)) = some (some z, size, bytes))
    (hz : (z.cells.size == size && decide (0 < size) && decide (0 < bytes)) = true) : El P t e size bytes := by
  obtain ⟨i, h1, h2⟩ := Option.map_eq_some_iff.1 hi
  simp only [Prod.mk.injEq] at h2
  simp at hz
  exact ⟨h, hz.1.2, hz.2, i, z, h1, h2.1, h2.2.1, h2.2.2, hz.1.1⟩

theorem own_base {w : World} {base : Nat} {e : TypeId} {size n : Nat} {v : Value} {xs : List Value} (h : w.ownsRow base e size v n xs) (k : Nat) (hk : v.ownBlock = some k) : base ≤ k := by
  rcases h.2 with ⟨rfl, _⟩ | ⟨g, cap, cur, rfl, hb, _⟩
  · simp [Value.ownBlock] at hk
  · have : g = k := by simpa [Value.ownBlock] using hk
    omega
theorem own_slice {w : World} {base n : Nat} {e : TypeId} {size : Nat} {v : Value} {xs : List Value} (h : w.ownsRow base e size v n xs) : ∃ A c, v = .slice A n c ∧ n ≤ c ∧ RowAt w A xs ∧ (A = none → n = 0 ∧ c = 0) := by
  rcases h.2 with ⟨rfl, rfl⟩ | ⟨g, cap, cur, rfl, _, _, hc, _⟩
  · exact ⟨none, 0, rfl, Nat.le_refl _, .inl (List.eq_nil_of_length_eq_zero (by simpa using h.1)), fun _ => ⟨rfl, rfl⟩⟩
  · exact ⟨_, cap, rfl, hc, .inr ⟨_, rfl, h.cells (g := g) rfl⟩, fun h => by cases h⟩
theorem own_form {w : World} {base n : Nat} {e : TypeId} {size : Nat} {v : Value} {xs : List Value} (h : w.ownsRow base e size v n xs) (h0 : 0 < n) :
    ∃ g cap, v = .slice (some ⟨g, 0, none⟩) n cap ∧ base ≤ g ∧ n ≤ cap ∧ RowAt w (some ⟨g, 0, none⟩) xs := by
  rcases h.2 with ⟨rfl, rfl⟩ | ⟨g, cap, cur, rfl, hb, _, hc, _⟩
  · omega
  · exact ⟨g, cap, rfl, hb, hc, .inr ⟨_, rfl, h.cells (g := g) rfl⟩⟩
theorem own_below {w w1 : World} {base : Nat} {e : TypeId} {size n : Nat} {v : Value} {xs : List Value} (h : w.ownsRow base e size v n xs) (hb : Below w.heap.size w w1) : w1.ownsRow base e size v n xs :=
  h.kept (row := none) ⟨hb.os, hb.tape, hb.output, hb.size, fun i hi _ => hb.block i hi⟩ (by cases v.ownBlock <;> simp)
theorem own_weaken {w : World} {base base' : Nat} {e : TypeId} {size n : Nat} {v : Value} {xs : List Value} (h : w.ownsRow base e size v n xs) (hb : base' ≤ base) : w.ownsRow base' e size v n xs := by
  obtain ⟨h1, h2⟩ := h
  refine ⟨h1, ?_⟩
  rcases h2 with h2 | ⟨g, cap, cur, rfl, hg, r⟩
  · exact .inl h2
  · exact .inr ⟨g, cap, cur, rfl, Nat.le_trans hb hg, r⟩

/-- append(v, x...): v a row of the call's own, x any row. -/
theorem run_app {P : Program} {t e : TypeId} {size bytes : Nat} (E : El P t e size bytes) (W : World) (base : Nat) (ty : TypeId) (v : Value) (n : Nat) (xs : List Value) (hown : W.ownsRow base e size v n xs)
    (A : Option Addr) (m c : Nat) (news : List Value) (hl : news.length = m * size) (hR : RowAt W A news) (h1 : ∀ u ∈ news, u.oneCell' = true)
    (hbytes : (n + m) * bytes ≤ 140737488355328) (hbase : base ≤ W.heap.size) :
    ∃ v' w', (Builtin.append_ #[t, t] ty #[v, .slice A m c]).run P W = .ok v' w' ∧ w'.ownsRow base e size v' (n + m) (xs ++ news) ∧ W.grownBy w' v.ownBlock ∧ (v'.ownBlock = v.ownBlock ∨ v'.ownBlock = some W.heap.size) := by
  obtain ⟨ht, hsz, hb0, i, z, hi, hz, rfl, rfl, hzs⟩ := E
  have hlen : n + m ≤ 140737488355328 := Nat.le_trans (Nat.le_mul_of_pos_right _ hb0) hbytes
  rcases A with _ | ad
  · have hm0 : m = 0 := by
      rcases hR with rfl | ⟨ad, h, _⟩
      · rcases Nat.eq_zero_or_pos m with h0 | h0
        · exact h0
        · have := Nat.mul_pos h0 hsz
          simp at hl; omega
      · cases h
    subst hm0
    obtain rfl : news = [] := List.eq_nil_of_length_eq_zero (by simpa using hl)
    refine ⟨v, W, ?_, by simpa using hown, World.grownBy.refl W _, .inl rfl⟩
    rcases hown.2 with ⟨rfl, hn⟩ | ⟨g, cap, cur, rfl, _, _, hnc, _⟩
    · simp [Builtin.append_, run_underlying ht, sizeOf, typeInfo, hi, Builtin.lenOf, Builtin.firstCells]
    · simp [Builtin.append_, run_underlying ht, sizeOf, typeInfo, hi, Builtin.lenOf, Builtin.firstCells, hnc, storeCells]
  · have hcells : ∀ j u, news[j]? = some u → W.cell? (ad.add j) = some u := by
      intro j u hu
      obtain ⟨ad', h, hc⟩ := hR.get hu
      injection h with h
      subst h
      exact hc
    obtain ⟨v', w', hr, h2, h3, _, h5⟩ := run_append_own_at (P := P) W base t ty e i z i.size i.bytes ht hi hz rfl rfl hzs hsz v n xs hown ad m c news hl hcells h1 (by simp only [maxLen]; omega) hbytes hbase
    exact ⟨v', w', hr, h2, h3, h5⟩

section
variable {P : Program} {ops : Array Oper} {rest : List Oper} {o : Oper} {a : Act} {Q : Exit → Act → World → Prop}
/-- The same as a step of the walk, behind 'at_builtin'. -/
theorem app_row {t e : TypeId} {size bytes : Nat} (E : El P t e size bytes) {W : World} (base : Nat) (hgd : o.guard = none) (s x : Operand)
    (ho : o.op = .call { callee := .builtin .append, args := #[s, x], argTypes := #[t, t] })
    {v : Value} {n : Nat} {xs : List Value} (hs : a.eval s = v) (hown : W.ownsRow base e size v n xs)
    {A : Option Addr} {m c : Nat} {news : List Value} (hx : a.eval x = .slice A m c) (hl : news.length = m * size) (hR : RowAt W A news) (h1 : ∀ u ∈ news, u.oneCell' = true)
    (hbytes : (n + m) * bytes ≤ 140737488355328) (hbase : base ≤ W.heap.size)
    (h : ∀ v' w', w'.ownsRow base e size v' (n + m) (xs ++ news) → W.grownBy w' v.ownBlock → (v'.ownBlock = v.ownBlock ∨ v'.ownBlock = some W.heap.size) → wpList P ops Q rest (a.put o.dst v') w') :
    wpList P ops Q (o :: rest) a W := by
  obtain ⟨v', w', hr, h2, h3, h4⟩ := run_app E W base o.type v n xs hown A m c news hl hR h1 hbytes hbase
  refine wpList_plain hgd fun K hK => ?_
  unfold Oper.wp execOp
  simp only [ho, resolve, invoke, builtin, Sem.run_bind, Sem.run_pure, Result.andThen_ok, List.map_toArray, List.map_cons, List.map_nil, hs, hx, hr]
  exact hK _ _ (h v' w' h2 h3 h4)
end

end Go.Proofs.YtninoogbkaeihaaDoor

/- A row of memory that the call itself made, told cell by cell: what append, a store, a cut leave of it. -/
namespace Go.Proofs.YtninoogbkaeihaaDoor
open Go.RowKit
set_option linter.unusedVariables false

theorem grownBy_setCells (b : Nat) : ∀ (vs : List Value) (o : Nat) (w : World), w.grownBy (w.setCells b o vs) (some b)
  | [], _, w => World.grownBy.refl w _
  | v :: r, o, w => by
    rw [World.setCells]
    refine World.grownBy.trans (b := w.setCell ⟨b, o, none⟩ v) ?_ (grownBy_setCells b r (o + 1) _)
    exact ⟨rfl, rfl, rfl, by simp [World.setCell], fun k _ hk => Below.heap_setCell w _ v k (fun e => hk (by rw [e]))⟩

/-- v is a slice of n elements of sz cells each, in a block of one's own (from 'base' on), all of whose cells up to the capacity are there and may be written; its elements' cells are xs. -/
def Own (w : World) (base sz : Nat) (v : Value) (n : Nat) (xs : List Value) : Prop :=
  xs.length = n * sz ∧ ((v = .slice none 0 0 ∧ n = 0) ∨
    ∃ g cap, v = .slice (some ⟨g, 0, none⟩) n cap ∧ base ≤ g ∧ g < w.heap.size ∧ n ≤ cap ∧ cap ≤ maxLen ∧ (∀ j, j < cap * sz → (w.cell? ⟨g, j, none⟩).isSome = true ∧ w.frozen? ⟨g, j, none⟩ = false) ∧
      ∀ j u, xs[j]? = some u → w.cell? ⟨g, j, none⟩ = some u)

section
variable {w w' : World} {base sz : Nat} {v : Value} {n : Nat} {xs : List Value}
theorem add0 (g j : Nat) : (⟨g, 0, none⟩ : Addr).add j = ⟨g, j, none⟩ := by unfold Addr.add; split <;> simp_all
theorem Own.nil (w : World) (base sz : Nat) : Own w base sz (.slice none 0 0) 0 [] := ⟨by simp, .inl ⟨rfl, rfl⟩⟩
theorem Own.of_row {e : TypeId} (h : w.ownsRow base e sz v n xs) : Own w base sz v n xs := by
  obtain ⟨h1, h2⟩ := h
  refine ⟨h1, ?_⟩
  rcases h2 with h2 | ⟨g, cap, cur, rfl, hb, hg, hn, hm, hs, ht⟩
  · exact .inl h2
  · refine .inr ⟨g, cap, rfl, hb, (Array.getElem?_eq_some_iff.1 hg).1, hn, hm, fun j hj => ⟨?_, frozen_of_row w g j cur e hg⟩, fun j u hu => ?_⟩
    · rw [cell_of_row w g j cur e (0, 0) hg]
      simp [hs, hj]
    · rw [cell_of_row w g j cur e (0, 0) hg]
      rw [← ht, List.getElem?_take] at hu
      split at hu
      · simpa using hu
      · cases hu
theorem Own.slice (h : Own w base sz v n xs) : ∃ A c, v = .slice A n c ∧ n ≤ c ∧ RowAt w A xs ∧ (A = none → n = 0 ∧ c = 0) := by
  rcases h.2 with ⟨rfl, rfl⟩ | ⟨g, cap, rfl, _, _, hc, _, _, hx⟩
  · exact ⟨none, 0, rfl, Nat.le_refl _, .inl (List.eq_nil_of_length_eq_zero (by simpa using h.1)), fun _ => ⟨rfl, rfl⟩⟩
  · exact ⟨_, cap, rfl, hc, .inr ⟨_, rfl, fun j u hu => by rw [add0]; exact hx j u hu⟩, fun h => by cases h⟩
theorem Own.form (h : Own w base sz v n xs) (h0 : 0 < n) : ∃ g cap, v = .slice (some ⟨g, 0, none⟩) n cap ∧ base ≤ g ∧ g < w.heap.size ∧ n ≤ cap ∧ RowAt w (some ⟨g, 0, none⟩) xs := by
  rcases h.2 with ⟨rfl, rfl⟩ | ⟨g, cap, rfl, hb, hg, hc, _, _, hx⟩
  · omega
  · exact ⟨g, cap, rfl, hb, hg, hc, .inr ⟨_, rfl, fun j u hu => by rw [add0]; exact hx j u hu⟩⟩
theorem Own.lt (h : Own w base sz v n xs) (k : Nat) (hk : v.ownBlock = some k) : base ≤ k ∧ k < w.heap.size := by
  rcases h.2 with ⟨rfl, _⟩ | ⟨g, cap, rfl, hb, hg, _⟩
  · simp [Value.ownBlock] at hk
  · have : g = k := by simpa [Value.ownBlock] using hk
    subst this
    exact ⟨hb, hg⟩
theorem Own.kept {row : Option Nat} (h : Own w base sz v n xs) (hg : w.grownBy w' row) (hne : v.ownBlock = none ∨ v.ownBlock ≠ row) : Own w' base sz v n xs := by
  obtain ⟨h1, h2⟩ := h
  refine ⟨h1, ?_⟩
  rcases h2 with h2 | ⟨g, cap, rfl, hb, hl, hn, hm, hc, hx⟩
  · exact .inl h2
  · have hne' : some g ≠ row := by simpa [Value.ownBlock] using hne
    have e : w'.heap[g]? = w.heap[g]? := hg.block g hl hne'
    refine .inr ⟨g, cap, rfl, hb, Nat.lt_of_lt_of_le hl hg.size, hn, hm, fun j hj => ?_, fun j u hu => ?_⟩
    · rw [World.cell?_of_block (w := w) (a := ⟨g, j, none⟩) e, World.frozen?_of_block (w := w) (a := ⟨g, j, none⟩) e]
      exact hc j hj
    · rw [World.cell?_of_block (w := w) (a := ⟨g, j, none⟩) e]
      exact hx j u hu
theorem Own.below (h : Own w base sz v n xs) (hb : Below w.heap.size w w') : Own w' base sz v n xs :=
  h.kept (row := none) ⟨hb.os, hb.tape, hb.output, hb.size, fun i hi _ => hb.block i hi⟩ (by cases v.ownBlock <;> simp)
theorem Own.alloc (h : Own w base sz v n xs) (o : Obj) : Own (w.alloc o) base sz v n xs := h.below ((Below.refl _ _).alloc (Nat.le_refl _) o)
theorem Own.weaken {base' : Nat} (h : Own w base sz v n xs) (hb : base' ≤ base) : Own w base' sz v n xs := by
  obtain ⟨h1, h2⟩ := h
  refine ⟨h1, ?_⟩
  rcases h2 with h2 | ⟨g, cap, rfl, hg, r⟩
  · exact .inl h2
  · exact .inr ⟨g, cap, rfl, Nat.le_trans hb hg, r⟩
/-- The first k elements, of the same capacity. -/
theorem Own.take {A : Option Addr} {c : Nat} (h : Own w base sz (.slice A n c) n xs) (k : Nat) (hk : k ≤ n) : Own w base sz (.slice A k c) k (xs.take (k * sz)) := by
  obtain ⟨h1, h2⟩ := h
  refine ⟨by rw [List.length_take, h1]; exact Nat.min_eq_left (Nat.mul_le_mul_right _ hk), ?_⟩
  rcases h2 with ⟨h2, rfl⟩ | ⟨g, cap, h2, hb, hl, hn, hm, hc, hx⟩
  · simp at h2
    obtain ⟨rfl, rfl⟩ := h2
    obtain rfl : k = 0 := by omega
    exact .inl ⟨rfl, rfl⟩
  · simp at h2
    obtain ⟨rfl, rfl⟩ := h2
    refine .inr ⟨g, c, rfl, hb, hl, by omega, hm, hc, fun j u hu => hx j u ?_⟩
    rw [List.getElem?_take] at hu
    split at hu
    · exact hu
    · cases hu
/-- A store into one cell. -/
theorem Own.set {g cap : Nat} (h : Own w base sz (.slice (some ⟨g, 0, none⟩) n cap) n xs) (j : Nat) (hj : j < xs.length) (u : Value) :
    Own (w.setCell ⟨g, j, none⟩ u) base sz (.slice (some ⟨g, 0, none⟩) n cap) n (xs.set j u) ∧ w.grownBy (w.setCell ⟨g, j, none⟩ u) (some g) := by
  obtain ⟨h1, h2⟩ := h
  have hg : w.grownBy (w.setCell ⟨g, j, none⟩ u) (some g) := ⟨rfl, rfl, rfl, by simp [World.setCell], fun k _ hk => Below.heap_setCell w _ u k (fun e => hk (by rw [e]))⟩
  refine ⟨⟨by simpa using h1, ?_⟩, hg⟩
  rcases h2 with ⟨h2, _⟩ | ⟨g', cap', h2, hb, hl, hn, hm, hc, hx⟩
  · simp at h2
  · simp at h2
    obtain ⟨rfl, rfl⟩ := h2
    have hjc : j < cap * sz := by rw [h1] at hj; exact Nat.lt_of_lt_of_le hj (Nat.mul_le_mul_right _ hn)
    have hsame : (w.setCell ⟨g, j, none⟩ u).cell? ⟨g, j, none⟩ = some u := by
      have := World.cell?_setCells_in g [u] j w (by intro i hi; simp at hi; subst hi; exact (hc j hjc).1) 0 (by simp)
      simpa [World.setCells] using this
    have hoth : ∀ i, i ≠ j → (w.setCell ⟨g, j, none⟩ u).cell? ⟨g, i, none⟩ = w.cell? ⟨g, i, none⟩ := by
      intro i hi
      have := World.cell?_setCells_out g [u] j w ⟨g, i, none⟩ (by intro _ _; simp; omega)
      simpa [World.setCells] using this
    refine .inr ⟨g, cap, rfl, hb, by simpa [World.setCell] using hl, hn, hm, fun i hi => ⟨?_, by rw [World.frozen?_setCell]; exact (hc i hi).2⟩, fun i v' hi => ?_⟩
    · by_cases e : i = j
      · subst e; rw [hsame]; rfl
      · rw [hoth i e]; exact (hc i hi).1
    · by_cases e : i = j
      · subst e
        rw [List.getElem?_set_self hj] at hi
        injection hi with hi
        rw [hsame, hi]
      · rw [List.getElem?_set_ne (Ne.symm e)] at hi
        rw [hoth i e]; exact hx i v' hi
theorem Own.cell {g cap : Nat} (h : Own w base sz (.slice (some ⟨g, 0, none⟩) n cap) n xs) {j : Nat} {u : Value} (hj : xs[j]? = some u) : w.cell? ⟨g, j, none⟩ = some u ∧ w.frozen? ⟨g, j, none⟩ = false := by
  obtain ⟨h1, h2⟩ := h
  rcases h2 with ⟨h2, _⟩ | ⟨g', cap', h2, hb, hl, hn, hm, hc, hx⟩
  · simp at h2
  · simp at h2
    obtain ⟨rfl, rfl⟩ := h2
    have hjl := (List.getElem?_eq_some_iff.1 hj).1
    rw [h1] at hjl
    exact ⟨hx j u hj, (hc j (Nat.lt_of_lt_of_le hjl (Nat.mul_le_mul_right _ hn))).2⟩
end

/-- []byte(s) is a row of one's own. -/
theorem Own.bytes (W : World) (e : TypeId) (s : ByteArray) (hs : s.size ≤ maxLen) :
    Own (Lib.bytesWorld W e s) W.heap.size 1 (.slice (some ⟨W.heap.size, 0, none⟩) s.size (grownCap W s.size 0 e)) s.size (bcells s.data.toList) := by
  refine ⟨by simp [bcells], .inr ⟨_, _, rfl, Nat.le_refl _, by rw [Lib.bytesWorld_size]; omega, grownCap_ge W _ _ _, grownCap_le_maxLen W _ _ _ hs, fun j hj => ?_, fun j u hu => ?_⟩⟩
  · have hcs : (Lib.bytesCells W e s).size = grownCap W s.size 0 e := by
      have := grownCap_ge W s.size 0 e
      simp [Lib.bytesCells]
      omega
    have hb := Lib.bytesWorld_at_new W e s
    rw [Nat.mul_one] at hj
    refine ⟨?_, ?_⟩
    · simp only [World.cell?, hb]
      simp [hcs, hj]
    · simp only [World.frozen?, hb]
      simp
      omega
  · have := bytes_row W e s
    obtain ⟨ad, he, hc⟩ := this.get hu
    simp only [Option.some.injEq] at he
    subst he
    rwa [add0] at hc

/-- append(v, x...): v a row of one's own, x any row. -/
theorem run_appO {P : Program} {t e : TypeId} {size bytes : Nat} (E : El P t e size bytes) (W : World) (base : Nat) (ty : TypeId) (v : Value) (n : Nat) (xs : List Value) (hown : Own W base size v n xs)
    (A : Option Addr) (m c : Nat) (news : List Value) (hl : news.length = m * size) (hR : RowAt W A news) (h1 : ∀ u ∈ news, u.oneCell' = true)
    (hbytes : (n + m) * bytes ≤ 140737488355328) (hbase : base ≤ W.heap.size) :
    ∃ v' w', (Builtin.append_ #[t, t] ty #[v, .slice A m c]).run P W = .ok v' w' ∧ Own w' base size v' (n + m) (xs ++ news) ∧ W.grownBy w' v.ownBlock ∧ (v'.ownBlock = v.ownBlock ∨ ∃ b, v'.ownBlock = some b ∧ W.heap.size ≤ b) := by
  rcases hown.2 with ⟨rfl, rfl⟩ | ⟨g, cap, rfl, hb, hg, hn, hm, hc, hx⟩
  · obtain rfl : xs = [] := List.eq_nil_of_length_eq_zero (by simpa using hown.1)
    obtain ⟨v', w', hr, h2, h3, h4⟩ := run_app E W base ty (.slice none 0 0) 0 [] (World.ownsRow_nil _ _ _ _) A m c news hl hR h1 hbytes hbase
    refine ⟨v', w', hr, Own.of_row h2, h3, ?_⟩
    rcases h4 with h4 | h4
    · exact .inl h4
    · exact .inr ⟨_, h4, Nat.le_refl _⟩
  · obtain ⟨ht, hsz, hb0, i, z, hi, hz, rfl, rfl, hzs⟩ := E
    have hlen : n + m ≤ 140737488355328 := Nat.le_trans (Nat.le_mul_of_pos_right _ hb0) hbytes
    rcases A with _ | ad
    · have hm0 : m = 0 := by
        rcases hR with rfl | ⟨ad, h, _⟩
        · rcases Nat.eq_zero_or_pos m with h0 | h0
          · exact h0
          · have := Nat.mul_pos h0 hsz
            simp at hl; omega
        · cases h
      subst hm0
      obtain rfl : news = [] := List.eq_nil_of_length_eq_zero (by simpa using hl)
      refine ⟨_, W, ?_, by simpa using hown, World.grownBy.refl W _, .inl rfl⟩
      simp [Builtin.append_, run_underlying ht, sizeOf, typeInfo, hi, Builtin.lenOf, Builtin.firstCells, hn, storeCells]
    · have hcells : ∀ j u, news[j]? = some u → W.cell? (ad.add j) = some u := by
        intro j u hu
        obtain ⟨ad', h, hc⟩ := hR.get hu
        injection h with h
        subst h
        exact hc
      by_cases hroom : n + m ≤ cap
      · have hin : ∀ j, j < news.length → n * i.size + j < cap * i.size := by
          intro j hj
          rw [hl] at hj
          have := Nat.mul_le_mul_right i.size hroom
          rw [Nat.add_mul] at this
          omega
        have hr := run_append_room_cells (P := P) W t ty e i ht hi g 0 n cap ad m c news hl hcells h1 hroom (fun j hj => by rw [Nat.zero_add]; exact (hc _ (hin j hj)).1) (fun j hj => by rw [Nat.zero_add]; exact (hc _ (hin j hj)).2)
        rw [Nat.zero_add] at hr
        refine ⟨_, _, hr, ⟨by rw [List.length_append, hown.1, hl, Nat.add_mul], .inr ⟨g, cap, rfl, hb, Nat.lt_of_lt_of_le hg (grownBy_setCells g _ _ W).size, hroom, hm, fun j hj => ?_, fun j u hu => ?_⟩⟩, grownBy_setCells g _ _ W, .inl rfl⟩
        · refine ⟨?_, by rw [World.frozen?_setCells]; exact (hc j hj).2⟩
          by_cases hjn : n * i.size ≤ j ∧ j < n * i.size + news.length
          · have := World.cell?_setCells_in g news (n * i.size) W (fun k hk => (hc _ (hin k hk)).1) (j - n * i.size) (by omega)
            rw [show n * i.size + (j - n * i.size) = j by omega] at this
            rw [this]; rfl
          · rw [World.cell?_setCells_out g news _ W ⟨g, j, none⟩ (by intro _ _; simp only; omega)]
            exact (hc j hj).1
        · have hxl : xs.length = n * i.size := hown.1
          rcases Nat.lt_or_ge j xs.length with hj | hj
          · rw [List.getElem?_append_left hj] at hu
            rw [World.cell?_setCells_out g news _ W ⟨g, j, none⟩ (by intro _ _; simp only; omega)]
            exact hx j u hu
          · rw [List.getElem?_append_right hj] at hu
            have hjl := (List.getElem?_eq_some_iff.1 hu).1
            have := World.cell?_setCells_in g news (n * i.size) W (fun k hk => (hc _ (hin k hk)).1) (j - xs.length) hjl
            rw [show n * i.size + (j - xs.length) = j by omega] at this
            rw [this, ← hu, List.getElem?_eq_getElem hjl]
      · obtain ⟨v', w', hr, h2, h3⟩ := run_append_arg_grows (P := P) W t ty e i z i.size i.bytes ht hi hz rfl rfl hzs hsz ⟨g, 0, none⟩ n cap xs hown.1 (fun j u hu => by rw [add0]; exact hx j u hu) ad m c news hl hcells (by omega) (by simp only [maxLen]; omega) hbytes
        have hO := Own.of_row h2
        have hnm : 0 < n + m := by omega
        obtain ⟨g', cap', rfl, hb', _⟩ := hO.form hnm
        exact ⟨_, w', hr, hO.weaken hbase, ⟨h3.os, h3.tape, h3.output, h3.size, fun k hk _ => h3.block k hk (by simp)⟩, .inr ⟨g', rfl, hb'⟩⟩

section
variable {P : Program} {ops : Array Oper} {rest : List Oper} {o : Oper} {a : Act} {Q : Exit → Act → World → Prop}
/-- The same as a step of the walk, behind 'at_builtin'. -/
theorem appO {t e : TypeId} {size bytes : Nat} (E : El P t e size bytes) {W : World} (base : Nat) (hgd : o.guard = none) (s x : Operand)
    (ho : o.op = .call { callee := .builtin .append, args := #[s, x], argTypes := #[t, t] })
    {v : Value} {n : Nat} {xs : List Value} (hs : a.eval s = v) (hown : Own W base size v n xs)
    {A : Option Addr} {m c : Nat} {news : List Value} (hx : a.eval x = .slice A m c) (hl : news.length = m * size) (hR : RowAt W A news) (h1 : ∀ u ∈ news, u.oneCell' = true)
    (hbytes : (n + m) * bytes ≤ 140737488355328) (hbase : base ≤ W.heap.size)
    (h : ∀ v' w', Own w' base size v' (n + m) (xs ++ news) → W.grownBy w' v.ownBlock → (v'.ownBlock = v.ownBlock ∨ ∃ b, v'.ownBlock = some b ∧ W.heap.size ≤ b) → wpList P ops Q rest (a.put o.dst v') w') :
    wpList P ops Q (o :: rest) a W := by
  obtain ⟨v', w', hr, h2, h3, h4⟩ := run_appO E W base o.type v n xs hown A m c news hl hR h1 hbytes hbase
  refine wpList_plain hgd fun K hK => ?_
  unfold Oper.wp execOp
  simp only [ho, resolve, invoke, builtin, Sem.run_bind, Sem.run_pure, Result.andThen_ok, List.map_toArray, List.map_cons, List.map_nil, hs, hx, hr]
  exact hK _ _ (h v' w' h2 h3 h4)
end
theorem Own.grown_below {w w1 w2 : World} {base sz n : Nat} {v : Value} {xs : List Value} (h : Own w1 base sz v n xs) (hb : Below w.heap.size w w1) (hg : w1.grownBy w2 v.ownBlock) (hbase : w.heap.size ≤ base) : Below w.heap.size w w2 :=
  hb.grown hg hb.size fun k hk => Nat.le_trans hbase (h.lt k hk).1
end Go.Proofs.YtninoogbkaeihaaDoor

/- append onto a row of the call's own: that the old cells stay where they were is told too. -/
namespace Go.Proofs.YtninoogbkaeihaaDoor
open Go.RowKit
set_option linter.unusedVariables false

/-- A fact that no tactic looks into. -/
structure Box (p : Prop) : Prop where
  out : p

theorem row_cell {w : World} {g j : Nat} {xs : List Value} {u : Value} (h : RowAt w (some ⟨g, 0, none⟩) xs) (hj : xs[j]? = some u) : w.cell? ⟨g, j, none⟩ = some u := by
  obtain ⟨ad, e, hc⟩ := h.get hj
  injection e with e
  subst e
  rwa [add0] at hc
/-- append(v, x...): v a row of one's own, x any row. -/
theorem run_appO2 {P : Program} {t e : TypeId} {size bytes : Nat} (E : El P t e size bytes) (W : World) (base : Nat) (ty : TypeId) (v : Value) (n : Nat) (xs : List Value) (hown : Own W base size v n xs)
    (A : Option Addr) (m c : Nat) (news : List Value) (hl : news.length = m * size) (hR : RowAt W A news) (h1 : ∀ u ∈ news, u.oneCell' = true)
    (hbytes : (n + m) * bytes ≤ 140737488355328) (hbase : base ≤ W.heap.size) :
    ∃ v' w', (Builtin.append_ #[t, t] ty #[v, .slice A m c]).run P W = .ok v' w' ∧ Own w' base size v' (n + m) (xs ++ news) ∧ W.grownBy w' v.ownBlock ∧ (v'.ownBlock = v.ownBlock ∨ ∃ b, v'.ownBlock = some b ∧ W.heap.size ≤ b) ∧ (∀ A c, v = .slice A n c → RowAt w' A xs) ∧ (v'.ownBlock ≠ v.ownBlock → Below W.heap.size W w') := by
  rcases hown.2 with ⟨rfl, rfl⟩ | ⟨g, cap, rfl, hb, hg, hn, hm, hc, hx⟩
  · obtain rfl : xs = [] := List.eq_nil_of_length_eq_zero (by simpa using hown.1)
    obtain ⟨v', w', hr, h2, h3, h4⟩ := run_app E W base ty (.slice none 0 0) 0 [] (World.ownsRow_nil _ _ _ _) A m c news hl hR h1 hbytes hbase
    refine ⟨v', w', hr, Own.of_row h2, h3, ?_, fun _ _ _ => .nil _ _, fun _ => ⟨h3.os, h3.tape, h3.output, h3.size, fun k hk => h3.block k hk (by simp [Value.ownBlock])⟩⟩
    rcases h4 with h4 | h4
    · exact .inl h4
    · exact .inr ⟨_, h4, Nat.le_refl _⟩
  · obtain ⟨ht, hsz, hb0, i, z, hi, hz, rfl, rfl, hzs⟩ := E
    have hlen : n + m ≤ 140737488355328 := Nat.le_trans (Nat.le_mul_of_pos_right _ hb0) hbytes
    rcases A with _ | ad
    · have hm0 : m = 0 := by
        rcases hR with rfl | ⟨ad, h, _⟩
        · rcases Nat.eq_zero_or_pos m with h0 | h0
          · exact h0
          · have := Nat.mul_pos h0 hsz
            simp at hl; omega
        · cases h
      subst hm0
      obtain rfl : news = [] := List.eq_nil_of_length_eq_zero (by simpa using hl)
      refine ⟨_, W, ?_, by simpa using hown, World.grownBy.refl W _, .inl rfl, fun A c he => ?_, fun _ => Below.refl _ _⟩
      rotate_left
      · obtain ⟨A', c', e', _, hr', _⟩ := hown.slice
        rw [he] at e'
        injection e' with e1 e2 e3
        subst e1
        exact hr'
      simp [Builtin.append_, run_underlying ht, sizeOf, typeInfo, hi, Builtin.lenOf, Builtin.firstCells, hn, storeCells]
    · have hcells : ∀ j u, news[j]? = some u → W.cell? (ad.add j) = some u := by
        intro j u hu
        obtain ⟨ad', h, hc⟩ := hR.get hu
        injection h with h
        subst h
        exact hc
      by_cases hroom : n + m ≤ cap
      · have hin : ∀ j, j < news.length → n * i.size + j < cap * i.size := by
          intro j hj
          rw [hl] at hj
          have := Nat.mul_le_mul_right i.size hroom
          rw [Nat.add_mul] at this
          omega
        have hr := run_append_room_cells (P := P) W t ty e i ht hi g 0 n cap ad m c news hl hcells h1 hroom (fun j hj => by rw [Nat.zero_add]; exact (hc _ (hin j hj)).1) (fun j hj => by rw [Nat.zero_add]; exact (hc _ (hin j hj)).2)
        rw [Nat.zero_add] at hr
        refine ⟨_, _, hr, ⟨by rw [List.length_append, hown.1, hl, Nat.add_mul], .inr ⟨g, cap, rfl, hb, Nat.lt_of_lt_of_le hg (grownBy_setCells g _ _ W).size, hroom, hm, fun j hj => ?_, fun j u hu => ?_⟩⟩, grownBy_setCells g _ _ W, .inl rfl, fun A' c' he => ?_, fun h => absurd rfl h⟩
        rotate_right
        · injection he with e1 e2 e3
          subst e1
          refine .inr ⟨_, rfl, fun j u hu => ?_⟩
          rw [add0, World.cell?_setCells_out g news _ W ⟨g, j, none⟩ (by intro _ _; have := (List.getElem?_eq_some_iff.1 hu).1; rw [hown.1] at this; simp only; omega)]
          exact hx j u hu
        · refine ⟨?_, by rw [World.frozen?_setCells]; exact (hc j hj).2⟩
          by_cases hjn : n * i.size ≤ j ∧ j < n * i.size + news.length
          · have := World.cell?_setCells_in g news (n * i.size) W (fun k hk => (hc _ (hin k hk)).1) (j - n * i.size) (by omega)
            rw [show n * i.size + (j - n * i.size) = j by omega] at this
            rw [this]; rfl
          · rw [World.cell?_setCells_out g news _ W ⟨g, j, none⟩ (by intro _ _; simp only; omega)]
            exact (hc j hj).1
        · have hxl : xs.length = n * i.size := hown.1
          rcases Nat.lt_or_ge j xs.length with hj | hj
          · rw [List.getElem?_append_left hj] at hu
            rw [World.cell?_setCells_out g news _ W ⟨g, j, none⟩ (by intro _ _; simp only; omega)]
            exact hx j u hu
          · rw [List.getElem?_append_right hj] at hu
            have hjl := (List.getElem?_eq_some_iff.1 hu).1
            have := World.cell?_setCells_in g news (n * i.size) W (fun k hk => (hc _ (hin k hk)).1) (j - xs.length) hjl
            rw [show n * i.size + (j - xs.length) = j by omega] at this
            rw [this, ← hu, List.getElem?_eq_getElem hjl]
      · obtain ⟨v', w', hr, h2, h3⟩ := run_append_arg_grows (P := P) W t ty e i z i.size i.bytes ht hi hz rfl rfl hzs hsz ⟨g, 0, none⟩ n cap xs hown.1 (fun j u hu => by rw [add0]; exact hx j u hu) ad m c news hl hcells (by omega) (by simp only [maxLen]; omega) hbytes
        have hO := Own.of_row h2
        have hnm : 0 < n + m := by omega
        obtain ⟨g', cap', rfl, hb', _⟩ := hO.form hnm
        have hbl : Below W.heap.size W w' := ⟨h3.os, h3.tape, h3.output, h3.size, fun k hk => h3.block k hk (by simp)⟩
        refine ⟨_, w', hr, hO.weaken hbase, ⟨h3.os, h3.tape, h3.output, h3.size, fun k hk _ => h3.block k hk (by simp)⟩, .inr ⟨g', rfl, hb'⟩, fun A' c' he => ?_, fun _ => hbl⟩
        injection he with e1 e2 e3
        subst e1
        exact .inr ⟨_, rfl, fun j u hu => by rw [add0]; exact cell_kept hbl (Nat.le_refl _) (hx j u hu)⟩

section
variable {P : Program} {ops : Array Oper} {rest : List Oper} {o : Oper} {a : Act} {Q : Exit → Act → World → Prop}
/-- The same as a step of the walk, behind 'at_builtin'. -/
theorem appO2 {t e : TypeId} {size bytes : Nat} (E : El P t e size bytes) {W : World} (base : Nat) (hgd : o.guard = none) (s x : Operand)
    (ho : o.op = .call { callee := .builtin .append, args := #[s, x], argTypes := #[t, t] })
    {v : Value} {n : Nat} {xs : List Value} (hs : a.eval s = v) (hown : Own W base size v n xs)
    {A : Option Addr} {m c : Nat} {news : List Value} (hx : a.eval x = .slice A m c) (hl : news.length = m * size) (hR : RowAt W A news) (h1 : ∀ u ∈ news, u.oneCell' = true)
    (hbytes : (n + m) * bytes ≤ 140737488355328) (hbase : base ≤ W.heap.size)
    (h : ∀ v' w', Own w' base size v' (n + m) (xs ++ news) → W.grownBy w' v.ownBlock → (v'.ownBlock = v.ownBlock ∨ ∃ b, v'.ownBlock = some b ∧ W.heap.size ≤ b) → (∀ A c, v = .slice A n c → RowAt w' A xs) → (v'.ownBlock ≠ v.ownBlock → Below W.heap.size W w') → wpList P ops Q rest (a.put o.dst v') w') :
    wpList P ops Q (o :: rest) a W := by
  obtain ⟨v', w', hr, h2, h3, h4, h5, h6⟩ := run_appO2 E W base o.type v n xs hown A m c news hl hR h1 hbytes hbase
  refine wpList_plain hgd fun K hK => ?_
  unfold Oper.wp execOp
  simp only [ho, resolve, invoke, builtin, Sem.run_bind, Sem.run_pure, Result.andThen_ok, List.map_toArray, List.map_cons, List.map_nil, hs, hx, hr]
  exact hK _ _ (h v' w' h2 h3 h4 h5 h6)
end
/-- An append as a step of a region that draws its order. -/
theorem step_appO2 {P : Program} {ops : Array Oper} {o : Oper} {a : Act} {K : Act → World → Prop} {Q : Exit → Act → World → Prop} {E' : Prop} {t e : TypeId} {size bytes : Nat} (E : El P t e size bytes) {W : World} (base : Nat) (hgd : o.guard = none) (s x : Operand)
    (ho : o.op = .call { callee := .builtin .append, args := #[s, x], argTypes := #[t, t] })
    {v : Value} {n : Nat} {xs : List Value} (hs : a.eval s = v) (hown : Own W base size v n xs)
    {A : Option Addr} {m c : Nat} {news : List Value} (hx : a.eval x = .slice A m c) (hl : news.length = m * size) (hR : RowAt W A news) (h1 : ∀ u ∈ news, u.oneCell' = true)
    (hbytes : (n + m) * bytes ≤ 140737488355328) (hbase : base ≤ W.heap.size)
    (h : ∀ v' w', Own w' base size v' (n + m) (xs ++ news) → W.grownBy w' v.ownBlock → (v'.ownBlock = v.ownBlock ∨ ∃ b, v'.ownBlock = some b ∧ W.heap.size ≤ b) → (∀ A c, v = .slice A n c → RowAt w' A xs) → (v'.ownBlock ≠ v.ownBlock → Below W.heap.size W w') → K (a.put o.dst v') w') :
    if Region.wanted o (yielded ops a.tmps) = true then Oper.wp P o a W K Q else E' := by
  have hw : Region.wanted o (yielded ops a.tmps) = true := by simp [Region.wanted, hgd]
  rw [if_pos hw]
  obtain ⟨v', w', hr, h2, h3, h4, h5, h6⟩ := run_appO2 E W base o.type v n xs hown A m c news hl hR h1 hbytes hbase
  unfold Oper.wp execOp
  simp only [ho, resolve, invoke, builtin, Sem.run_bind, Sem.run_pure, Result.andThen_ok, List.map_toArray, List.map_cons, List.map_nil, hs, hx, hr]
  exact h v' w' h2 h3 h4 h5 h6
end Go.Proofs.YtninoogbkaeihaaDoor

/- What a call changes when it writes into a few blocks that are known: everything else stays. -/
namespace Go.Proofs.YtninoogbkaeihaaDoor
open Go.RowKit
set_option linter.unusedVariables false

/-- Of the blocks that were there only those of bs may have changed. -/
structure Touched (w w' : World) (bs : List Nat) : Prop where
  os : w'.os = w.os
  tape : w'.tape = w.tape
  output : w'.output = w.output
  size : w.heap.size ≤ w'.heap.size
  block : ∀ k, k < w.heap.size → k ∉ bs → w'.heap[k]? = w.heap[k]?

theorem Touched.refl (w : World) (bs : List Nat) : Touched w w bs := ⟨rfl, rfl, rfl, Nat.le_refl _, fun _ _ _ => rfl⟩
theorem Touched.mono {w w' : World} {bs cs : List Nat} (h : Touched w w' bs) (hs : ∀ k ∈ bs, k < w.heap.size → k ∈ cs) : Touched w w' cs :=
  ⟨h.os, h.tape, h.output, h.size, fun k hk hn => h.block k hk fun hb => hn (hs k hb hk)⟩
theorem Touched.trans {w w1 w2 : World} {bs : List Nat} (h : Touched w w1 bs) (k : Touched w1 w2 bs) : Touched w w2 bs :=
  ⟨k.os.trans h.os, k.tape.trans h.tape, k.output.trans h.output, Nat.le_trans h.size k.size, fun j hj hn => (k.block j (Nat.lt_of_lt_of_le hj h.size) hn).trans (h.block j hj hn)⟩
/-- .. where the second step may also change what the first one has made. -/
theorem Touched.trans' {w w1 w2 : World} {bs cs : List Nat} (h : Touched w w1 bs) (k : Touched w1 w2 cs) (hc : ∀ j ∈ cs, j ∈ bs ∨ w.heap.size ≤ j) : Touched w w2 bs :=
  ⟨k.os.trans h.os, k.tape.trans h.tape, k.output.trans h.output, Nat.le_trans h.size k.size, fun j hj hn => (k.block j (Nat.lt_of_lt_of_le hj h.size) (fun hm => (hc j hm).elim hn (fun h1 => by omega))).trans (h.block j hj hn)⟩
theorem Touched.of_below {w w' : World} (h : Below w.heap.size w w') (bs : List Nat) : Touched w w' bs := ⟨h.os, h.tape, h.output, h.size, fun k hk _ => h.block k hk⟩
theorem Touched.of_grown {w w' : World} {row : Option Nat} (h : w.grownBy w' row) : Touched w w' row.toList := by
  refine ⟨h.os, h.tape, h.output, h.size, fun k hk hn => h.block k hk fun e => hn ?_⟩
  rw [← e]; simp
theorem Touched.alloc {w w' : World} {bs : List Nat} (h : Touched w w' bs) (o : Obj) : Touched w (w'.alloc o) bs :=
  h.trans (Touched.of_below ((Below.refl _ _).alloc (Nat.le_refl _) o) bs)
theorem Touched.drewN {w w' : World} {bs : List Nat} (h : Touched w w' bs) (n : Nat) : Touched w (w'.drewN n) bs := ⟨h.os, h.tape, h.output, h.size, h.block⟩
theorem Touched.drew {w w' : World} {bs : List Nat} (h : Touched w w' bs) : Touched w w'.drew bs := ⟨h.os, h.tape, h.output, h.size, h.block⟩
theorem Touched.setCell {w w' : World} {bs : List Nat} (h : Touched w w' bs) {a : Addr} (ha : a.block ∈ bs ∨ w.heap.size ≤ a.block) (v : Value) : Touched w (w'.setCell a v) bs := by
  refine ⟨h.os, h.tape, h.output, Nat.le_trans h.size (by simp [World.setCell]), fun k hk hn => ?_⟩
  rw [Below.heap_setCell w' a v k (fun e => by
    rcases ha with ha | ha
    · exact hn (by rw [e]; exact ha)
    · omega)]
  exact h.block k hk hn
theorem Touched.below {B : Nat} {a w w' : World} {bs : List Nat} (h : Touched w w' bs) (hb : Below B a w) (hB : B ≤ w.heap.size) (hs : ∀ k ∈ bs, B ≤ k) : Below B a w' :=
  ⟨h.os.trans hb.os, h.tape.trans hb.tape, h.output.trans hb.output, Nat.le_trans hb.size h.size, fun k hk => (h.block k (by omega) (fun hm => by have := hs k hm; omega)).trans (hb.block k hk)⟩
theorem Touched.own {w w' : World} {base sz n : Nat} {v : Value} {xs : List Value} {bs : List Nat} (h : Touched w w' bs) (ho : Own w base sz v n xs) (hv : ∀ k, v.ownBlock = some k → k ∉ bs) : Own w' base sz v n xs := by
  obtain ⟨h1, h2⟩ := ho
  refine ⟨h1, ?_⟩
  rcases h2 with h2 | ⟨g, cap, rfl, hb, hl, hn, hm, hc, hx⟩
  · exact .inl h2
  · have e : w'.heap[g]? = w.heap[g]? := h.block g hl (hv g (by simp [Value.ownBlock]))
    refine .inr ⟨g, cap, rfl, hb, Nat.lt_of_lt_of_le hl h.size, hn, hm, fun j hj => ?_, fun j u hu => ?_⟩
    · rw [World.cell?_of_block (w := w) (a := ⟨g, j, none⟩) e, World.frozen?_of_block (w := w) (a := ⟨g, j, none⟩) e]
      exact hc j hj
    · rw [World.cell?_of_block (w := w) (a := ⟨g, j, none⟩) e]
      exact hx j u hu
theorem Touched.cell {w w' : World} {bs : List Nat} (h : Touched w w' bs) {g j : Nat} (hg : g < w.heap.size) (hn : g ∉ bs) : w'.cell? ⟨g, j, none⟩ = w.cell? ⟨g, j, none⟩ :=
  World.cell?_of_block (w := w) (a := ⟨g, j, none⟩) (h.block g hg hn)
theorem Touched.free {w w' : World} {bs : List Nat} (h : Touched w w' bs) {g j : Nat} (hg : g < w.heap.size) (hn : g ∉ bs) : w'.frozen? ⟨g, j, none⟩ = w.frozen? ⟨g, j, none⟩ :=
  World.frozen?_of_block (w := w) (a := ⟨g, j, none⟩) (h.block g hg hn)

theorem ownBlock_lt {w : World} {base sz n : Nat} {v : Value} {xs : List Value} (h : Own w base sz v n xs) {k : Nat} (hk : v.ownBlock = some k) : base ≤ k ∧ k < w.heap.size := h.lt k hk
end Go.Proofs.YtninoogbkaeihaaDoor

/- Bytes as a number, and texts one behind the other: plain (as in CrcPure and Book, of no seat's functions; not together with those). -/
namespace Go.Proofs.YtninoogbkaeihaaDoor
open Go.RowKit
set_option linter.unusedVariables false

/-- Bytes as a number, the lowest one first. -/
def numL : List UInt8 → Nat
  | [] => 0
  | b :: r => b.toNat + 256 * numL r
def lowL (v : Nat) : Nat → List UInt8
  | 0 => []
  | n + 1 => UInt8.ofNat v :: lowL (v / 256) n
theorem lowL_length (v n : Nat) : (lowL v n).length = n := by
  induction n generalizing v with
  | zero => rfl
  | succ n ih => rw [lowL, List.length_cons, ih]
theorem numL_lt (l : List UInt8) : numL l < 256 ^ l.length := by
  induction l with
  | nil => simp [numL]
  | cons b r ih =>
    have := b.toNat_lt
    rw [numL, List.length_cons, Nat.pow_succ]
    omega
theorem numL_lowL (v n : Nat) : numL (lowL v n) = v % 256 ^ n := by
  induction n generalizing v with
  | zero => simp [lowL, numL, Nat.mod_one]
  | succ n ih =>
    rw [lowL, numL, ih, Nat.pow_succ, Nat.mul_comm (256 ^ n) 256, Nat.mod_mul]
    have : (UInt8.ofNat v).toNat = v % 256 := by simp
    rw [this]
theorem lowL_numL (l : List UInt8) : lowL (numL l) l.length = l := by
  induction l with
  | nil => rfl
  | cons b r ih =>
    have hb := b.toNat_lt
    rw [List.length_cons, lowL, numL]
    have e1 : (b.toNat + 256 * numL r) / 256 = numL r := by omega
    have e2 : UInt8.ofNat (b.toNat + 256 * numL r) = b := by
      apply UInt8.toNat_inj.1
      simp
    rw [e1, e2, ih]
/-- How many bytes texts have together. -/
def totalLen (l : List ByteArray) : Int := (l.map fun s => (s.size : Int)).sum
theorem totalLen_snoc (l : List ByteArray) (s : ByteArray) : totalLen (l ++ [s]) = totalLen l + s.size := by simp [totalLen, List.sum_append]
theorem totalLen_nonneg (l : List ByteArray) : 0 ≤ totalLen l := by
  induction l with
  | nil => simp [totalLen]
  | cons a l ih => simp only [totalLen, List.map_cons, List.sum_cons] at *; omega
theorem totalLen_take_le (l : List ByteArray) (k : Nat) : totalLen (l.take k) ≤ totalLen l := by
  conv => rhs; rw [← List.take_append_drop k l]
  have : totalLen (l.take k ++ l.drop k) = totalLen (l.take k) + totalLen (l.drop k) := by simp only [totalLen, List.map_append, List.sum_append]
  have := totalLen_nonneg (l.drop k)
  omega

/-- All texts, one behind the other. -/
def joinB (l : List ByteArray) : ByteArray := l.foldl (· ++ ·) ByteArray.empty
theorem joinB_snoc (l : List ByteArray) (s : ByteArray) : joinB (l ++ [s]) = joinB l ++ s := by simp [joinB, List.foldl_append]
theorem joinB_size (l : List ByteArray) : ((joinB l).size : Int) = totalLen l := by
  have key : ∀ (l : List ByteArray) (a : ByteArray), ((l.foldl (· ++ ·) a).size : Int) = a.size + totalLen l := by
    intro l
    induction l with
    | nil => intro a; simp [totalLen]
    | cons s l ih => intro a; rw [List.foldl_cons, ih, ByteArray.size_append]; simp [totalLen]; omega
  have := key l ByteArray.empty
  simpa [joinB] using this
end Go.Proofs.YtninoogbkaeihaaDoor

/- Where a row lies that text was appended to: where it lay, or in a new block. -/
namespace Go.Proofs.YtninoogbkaeihaaDoor
open Go.RowKit Go.Lib
set_option linter.unusedVariables false

theorem str_where {P : Program} {w : World} (base : Nat) (t u ty e : TypeId) (i : TypeInfo) (ht : P.underlying t = some (.slice e)) (hu : P.underlying u = some .string) (hi : P.info? e = some i) (hz : i.zero = some (.int .u8 0))
    (hsize : i.size = 1) (hby : i.bytes = 1) (v : Value) (n : Nat) (xs : List Value) (hown : w.ownsRow base e 1 v n xs) (s : ByteArray)
    (hbytes : n + s.size ≤ 140737488355328) (v' : Value) (w' : World) (hr0 : (Builtin.append_ #[t, u] ty #[v, .string s]).run P w = .ok v' w') :
    v'.ownBlock = v.ownBlock ∨ v'.ownBlock = some w.heap.size := by
  have hxl : xs.length = n := by simpa using hown.1
  rcases hown.2 with ⟨rfl, rfl⟩ | ⟨g, cap, cur, rfl, hbg, hg, hnc, hcm, hcs, htake⟩
  · by_cases hm : s.size = 0
    · have hf := run_firstCells_string (P := P) w 1 s
      rw [hm] at hf
      have hr : (Builtin.append_ #[t, u] ty #[.slice none 0 0, .string s]).run P w = .ok (.slice none 0 0) w := by
        simp [Builtin.append_, run_underlying ht, run_underlying hu, sizeOf, typeInfo, hi, hsize, Builtin.lenOf, hm, hf]
      rw [hr] at hr0
      injection hr0 with e1 e2
      subst e1
      exact .inl rfl
    · have hr := run_append_nil_string (P := P) w t u ty e i (.int .u8 0) ht hu hi hz s (by omega) (by omega) (by rw [hby]; omega)
      rw [hr] at hr0
      injection hr0 with e1 e2
      subst e1
      exact .inr rfl
  · by_cases hroom : n + s.size ≤ cap
    · have hr := run_append_room_string (P := P) w t u ty e i ht hu hi hsize g n cap cur hg s hroom (by omega)
      rw [hr] at hr0
      injection hr0 with e1 e2
      subst e1
      exact .inl rfl
    · have holds : ∀ j u, xs[j]? = some u → w.cell? ((⟨g, 0, none⟩ : Addr).add j) = some u := hown.cells (g := g) rfl
      have hr := run_append_grow_string (P := P) w t u ty e i (.int .u8 0) ht hu hi hz ⟨g, 0, none⟩ n cap xs (by rw [hsize]; simpa using hxl) holds s (by omega) (by omega) (by rw [hby]; exact growslice_fits (by omega) (by omega))
      rw [hr] at hr0
      injection hr0 with e1 e2
      subst e1
      exact .inr rfl
/-- Text behind bytes, as a step of a walk. -/
theorem appS {P : Program} {ops : Array Oper} {rest : List Oper} {o : Oper} {a : Act} {w : World} {Q : Exit → Act → World → Prop} (hgd : o.guard = none) (sl x : Operand) (t u : TypeId)
    (ho : o.op = .call { callee := .builtin .append, args := #[sl, x], argTypes := #[t, u] })
    (base : Nat) (e : TypeId) (i : TypeInfo) (ht : P.underlying t = some (.slice e)) (hu : P.underlying u = some .string) (hi : P.info? e = some i) (hz : i.zero = some (.int .u8 0))
    (hsize : i.size = 1) (hby : i.bytes = 1)
    (v : Value) (n : Nat) (xs : List Value) (hs : a.eval sl = v) (hown : w.ownsRow base e 1 v n xs) (s : ByteArray) (hx : a.eval x = .string s)
    (hbytes : n + s.size ≤ 140737488355328) (hbase : base ≤ w.heap.size)
    (h : ∀ v' w', w'.ownsRow base e 1 v' (n + s.size) (xs ++ strCells s) → w.grownBy w' v.ownBlock → (v'.ownBlock = v.ownBlock ∨ v'.ownBlock = some w.heap.size) → wpList P ops Q rest (a.put o.dst v') w') :
    wpList P ops Q (o :: rest) a w := by
  refine wpList_plain hgd fun K hK => ?_
  obtain ⟨v', w', hr, h2, h3, _⟩ := run_append_own_string (P := P) w base t u o.type e i ht hu hi hz hsize hby v n xs hown s (by unfold maxLen; omega) hbytes hbase
  have h4 := str_where base t u o.type e i ht hu hi hz hsize hby v n xs hown s hbytes v' w' hr
  unfold Oper.wp execOp
  simp only [ho, resolve, invoke, builtin, Sem.run_bind, Sem.run_pure, Result.andThen_ok, List.map_toArray, List.map_cons, List.map_nil, hs, hx, hr]
  exact hK _ _ (h v' w' h2 h3 h4)
end Go.Proofs.YtninoogbkaeihaaDoor

/- bits.Out: what it holds, with its error; Raw. -/
namespace Go.Proofs.YtninoogbkaeihaaDoor
open Go.RowKit
set_option linter.unusedVariables false

theorem el_u8 : El Tryd.prog 24 5 1 1 := El.mk' Tryd.underlying24 (z := .int .u8 0) (by kernel_rfl) (by decide)
theorem u8_info : ∃ i, Tryd.prog.info? 5 = some i ∧ i.zero = some (.int .u8 0) ∧ i.size = 1 ∧ i.bytes = 1 := by
  have h : (Tryd.prog.info? 5).map (fun i => (i.zero, i.size, i.bytes)) = some (some (.int .u8 0), 1, 1) := by kernel_rfl
  obtain ⟨i, h1, h2⟩ := Option.map_eq_some_iff.1 h
  injection h2 with e1 e2
  injection e2 with e2 e3
  exact ⟨i, h1, e1, e2, e3⟩

/-- An append as a step of a region that draws its order (rows of the library). -/
theorem step_appR {P : Program} {ops : Array Oper} {o : Oper} {a : Act} {K : Act → World → Prop} {Q : Exit → Act → World → Prop} {E' : Prop} {t e : TypeId} {size bytes : Nat} (E : El P t e size bytes) {W : World} (base : Nat) (hgd : o.guard = none) (s x : Operand)
    (ho : o.op = .call { callee := .builtin .append, args := #[s, x], argTypes := #[t, t] })
    {v : Value} {n : Nat} {xs : List Value} (hs : a.eval s = v) (hown : W.ownsRow base e size v n xs)
    {A : Option Addr} {m c : Nat} {news : List Value} (hx : a.eval x = .slice A m c) (hl : news.length = m * size) (hR : RowAt W A news) (h1 : ∀ u ∈ news, u.oneCell' = true)
    (hbytes : (n + m) * bytes ≤ 140737488355328) (hbase : base ≤ W.heap.size)
    (h : ∀ v' w', w'.ownsRow base e size v' (n + m) (xs ++ news) → W.grownBy w' v.ownBlock → (v'.ownBlock = v.ownBlock ∨ v'.ownBlock = some W.heap.size) → K (a.put o.dst v') w') :
    if Region.wanted o (yielded ops a.tmps) = true then Oper.wp P o a W K Q else E' := by
  have hw : Region.wanted o (yielded ops a.tmps) = true := by simp [Region.wanted, hgd]
  rw [if_pos hw]
  obtain ⟨v', w', hr, h2, h3, h4⟩ := run_app E W base o.type v n xs hown A m c news hl hR h1 hbytes hbase
  unfold Oper.wp execOp
  simp only [ho, resolve, invoke, builtin, Sem.run_bind, Sem.run_pure, Result.andThen_ok, List.map_toArray, List.map_cons, List.map_nil, hs, hx, hr]
  exact h v' w' h2 h3 h4
theorem low_byte (x n : Nat) : ((x : Int) / 2 ^ (8 * n)) % 256 = ((UInt8.ofNat (x / 256 ^ n)).toNat : Int) := by
  have e : (2 : Int) ^ (8 * n) = ((256 ^ n : Nat) : Int) := by
    rw [Int.pow_mul]; simp
  rw [e, UInt8.toNat_ofNat']
  simp

/-- An Out at a block: its error, its bytes. -/
structure OutS (w : World) (g : Nat) (v : Value) (e : Int) (l : List UInt8) : Prop where
  own : w.ownsRow (g + 1) 5 1 v l.length (bcells l)
  c0 : w.cell? ⟨g, 0, none⟩ = some v
  c1 : w.cell? ⟨g, 1, none⟩ = some (.int .i64 e)
  f0 : w.frozen? ⟨g, 0, none⟩ = false
  f1 : w.frozen? ⟨g, 1, none⟩ = false
section
variable {w w1 : World} {g : Nat} {v v1 : Value} {e : Int} {l m : List UInt8}
theorem OutS.lt (h : OutS w g v e l) : g < w.heap.size := World.block_lt_of_cell? w _ h.c0
theorem OutS.vlt (h : OutS w g v e l) {b : Nat} (hb : v.ownBlock = some b) : b < w.heap.size := (h.own.lt b hb).2
theorem OutS.apart (h : OutS w g v e l) : g ∉ v.ownBlock.toList := by
  intro hm
  have := (h.own.lt g (by simpa using hm)).1
  omega
theorem row_kept' {w w' : World} {base sz n : Nat} {t : TypeId} {v : Value} {xs : List Value} {bs : List Nat} (hT : Touched w w' bs) (h : w.ownsRow base t sz v n xs) (hv : ∀ b, v.ownBlock = some b → b ∉ bs) : w'.ownsRow base t sz v n xs := by
  obtain ⟨h1, h2⟩ := h
  refine ⟨h1, ?_⟩
  rcases h2 with h2 | ⟨g, cap, cur, rfl, hb, hg, r⟩
  · exact .inl h2
  · exact .inr ⟨g, cap, cur, rfl, hb, (hT.block g (Array.getElem?_eq_some_iff.1 hg).1 (hv g (by simp [Value.ownBlock]))).trans hg, r⟩
theorem OutS.touched {bs : List Nat} (h : OutS w g v e l) (hT : Touched w w1 bs) (h1 : g ∉ bs) (h2 : ∀ b, v.ownBlock = some b → b ∉ bs) : OutS w1 g v e l :=
  ⟨row_kept' hT h.own h2, (hT.cell h.lt h1).trans h.c0, (hT.cell h.lt h1).trans h.c1, (hT.free h.lt h1).trans h.f0, (hT.free h.lt h1).trans h.f1⟩
theorem OutS.below (h : OutS w g v e l) (hb : Below w.heap.size w w1) : OutS w1 g v e l := h.touched (Touched.of_below hb []) (by simp) (by simp)
theorem OutS.drew (h : OutS w g v e l) : OutS w.drew g v e l := ⟨h.own.drew, h.c0, h.c1, h.f0, h.f1⟩
theorem OutS.drewN (h : OutS w g v e l) (n : Nat) : OutS (w.drewN n) g v e l := h.below (below_drewN (Below.refl _ _) n)
theorem OutS.grownT (h : OutS w g v e l) (ho : w1.ownsRow (g + 1) 5 1 v1 m.length (bcells m)) (hT : Touched w w1 v.ownBlock.toList) :
    OutS (w1.setCell ⟨g, 0, none⟩ v1) g v1 e m := by
  have hc0 : w1.cell? ⟨g, 0, none⟩ = some v := (hT.cell h.lt h.apart).trans h.c0
  have hc1 : w1.cell? ⟨g, 1, none⟩ = some (.int .i64 e) := (hT.cell h.lt h.apart).trans h.c1
  have hf0 : w1.frozen? ⟨g, 0, none⟩ = false := (hT.free h.lt h.apart).trans h.f0
  have hf1 : w1.frozen? ⟨g, 1, none⟩ = false := (hT.free h.lt h.apart).trans h.f1
  refine ⟨ownsRow_setCell_below ho (by simp) _, ?_, ?_, ?_, ?_⟩
  · exact World.cell?_setCell_same' w1 _ _ (by rw [hc0]; simp)
  · exact (World.cell?_setCell_other w1 ⟨g, 0, none⟩ ⟨g, 1, none⟩ _ (by simp)).trans hc1
  · rw [World.frozen?_setCell]; exact hf0
  · rw [World.frozen?_setCell]; exact hf1
theorem OutS.grown (h : OutS w g v e l) (ho : w1.ownsRow (g + 1) 5 1 v1 m.length (bcells m)) (hg : w.grownBy w1 v.ownBlock) : OutS (w1.setCell ⟨g, 0, none⟩ v1) g v1 e m := h.grownT ho (Touched.of_grown hg)
theorem OutS.fail (h : OutS w g v e l) (x : Int) : OutS (w.setCell ⟨g, 1, none⟩ (.int .i64 x)) g v x l := by
  refine ⟨ownsRow_setCell_below h.own (by simp) _, ?_, ?_, ?_, ?_⟩
  · exact (World.cell?_setCell_other w ⟨g, 1, none⟩ ⟨g, 0, none⟩ _ (by simp)).trans h.c0
  · exact World.cell?_setCell_same' w _ _ (by rw [h.c1]; simp)
  · rw [World.frozen?_setCell]; exact h.f0
  · rw [World.frozen?_setCell]; exact h.f1
end
/-- An Out that a call has changed. -/
structure OutTo (w w' : World) (g : Nat) (v : Value) (d : Int × List UInt8) : Prop where
  ex : ∃ v', OutS w' g v' d.1 d.2 ∧ ∀ b, v'.ownBlock = some b → v.ownBlock = some b ∨ w.heap.size ≤ b
  touched : Touched w w' (g :: v.ownBlock.toList)
theorem OutTo.refl {w : World} {g : Nat} {v : Value} {e : Int} {l : List UInt8} (h : OutS w g v e l) : OutTo w w g v (e, l) := ⟨⟨v, h, fun b hb => .inl hb⟩, Touched.refl _ _⟩
theorem OutTo.fail {w : World} {g : Nat} {v : Value} {e : Int} {l : List UInt8} (h : OutS w g v e l) (x : Int) : OutTo w (w.setCell ⟨g, 1, none⟩ (.int .i64 x)) g v (x, l) :=
  ⟨⟨v, h.fail x, fun b hb => .inl hb⟩, (Touched.refl _ _).setCell (.inl (by simp)) _⟩
theorem OutTo.trans {w w1 w2 : World} {g : Nat} {v v1 : Value} {d : Int × List UInt8} (hT : Touched w w1 (g :: v.ownBlock.toList)) (hV : ∀ b, v1.ownBlock = some b → v.ownBlock = some b ∨ w.heap.size ≤ b) (h : OutTo w1 w2 g v1 d) : OutTo w w2 g v d := by
  obtain ⟨⟨v', h1, h2⟩, h3⟩ := h
  refine ⟨⟨v', h1, fun b hb => ?_⟩, hT.trans' h3 ?_⟩
  · rcases h2 b hb with h | h
    · exact hV b h
    · exact .inr (Nat.le_trans hT.size h)
  · intro j hj
    rcases List.mem_cons.1 hj with rfl | hj
    · exact .inl (by simp)
    · rcases hV j (by simpa using hj) with h | h
      · exact .inl (by simp [h])
      · exact .inr h

def rawO (d : Int × List UInt8) (ts : List ByteArray) : Int × List UInt8 := if d.1 ≠ 0 then d else (0, d.2 ++ (joinB ts).data.toList)
end Go.Proofs.YtninoogbkaeihaaDoor

/- bits.Out: Raw. -/
namespace Go.Proofs.YtninoogbkaeihaaDoor
open Go.RowKit
set_option linter.unusedVariables false

theorem addr_add0 (a : Addr) : a.add 0 = a := by obtain ⟨b, o, c⟩ := a; cases c <;> simp [Addr.add]
set_option maxHeartbeats 1600000 in
theorem outRaw_ok (g : Nat) (v : Value) (l : List UInt8) (A : Option Addr) (c : Nat) (ts : List ByteArray) (w : World) (hO : OutS w g v 0 l) (hn : ts.length ≤ 4000000000000000000) (hsz : l.length + totalLen ts ≤ 140737488355328)
    (hR : ∀ w', Touched w w' (g :: v.ownBlock.toList) → RowAt w' A (scells ts)) :
    Calls Tryd.prog 16 #[.pointer (some ⟨g, 0, none⟩), .slice A ts.length c] w fun e w' => ∃ v', e = .returned (.pointer (some ⟨g, 0, none⟩)) ∧ OutS w' g v' 0 (l ++ (joinB ts).data.toList) ∧ Touched w w' (g :: v.ownBlock.toList) ∧ (∀ b, v'.ownBlock = some b → v.ownBlock = some b ∨ w.heap.size ≤ b) := by
  have HO0 : Box (OutS w g v 0 l) := ⟨hO⟩
  have HS := Lib.hid hsz; clear hsz
  have HR : Box _ := ⟨hR⟩
  clear hR hO
  obtain ⟨i0, hi0, hi1, hi2, hi3⟩ := u8_info
  have HI : Box (Tryd.prog.info? 5 = some i0 ∧ i0.zero = some (.int .u8 0) ∧ i0.size = 1 ∧ i0.bytes = 1) := ⟨hi0, hi1, hi2, hi3⟩
  clear hi0 hi1 hi2 hi3
  go_enter Tryd.func16, Tryd.ntmps16
  go_wp2
  go_loopw [9] (fun i wr => ∃ (k : Nat) (u : Value), k ≤ ts.length ∧ i = .int .i64 (k : Int) ∧ Box (OutS wr g u 0 (l ++ (joinB (ts.take k)).data.toList)) ∧ Hid (Touched w wr (g :: v.ownBlock.toList)) ∧ Box (∀ b, u.ownBlock = some b → v.ownBlock = some b ∨ w.heap.size ≤ b)) (fun i _ => ts.length - (intOf i).toNat)
  case atStart => exact ⟨0, v, by omega, rfl, ⟨by have := HO0.out; simpa [joinB] using this⟩, Touched.refl _ _, ⟨fun b hb => .inl hb⟩⟩
  case round =>
    obtain ⟨k, u, hk, rfl, HO, HT, HF⟩ := hrel
    by_cases hlt : k < ts.length
    · obtain ⟨s, hs⟩ := some_at hlt
      obtain ⟨ad, rfl, hc⟩ := (HR.out _ HT.out).get (scells_at hs)
      have HX : Box (l ++ (joinB (ts.take (k + 1))).data.toList = (l ++ (joinB (ts.take k)).data.toList) ++ s.data.toList) := ⟨by rw [take_snoc_of hs, joinB_snoc, show (joinB (ts.take k) ++ s).data.toList = (joinB (ts.take k)).data.toList ++ s.data.toList by simp, List.append_assoc]⟩
      have HL : Hid ((l ++ (joinB (ts.take k)).data.toList).length + s.size ≤ 140737488355328) := by
        have h1 := totalLen_take_le ts (k + 1)
        rw [take_snoc_of hs, totalLen_snoc, ← joinB_size] at h1
        have h2 := HS.out
        rw [Hid, List.length_append, data_length]
        omega
      clear hs
      obtain ⟨m, hm⟩ : ∃ m, l ++ (joinB (ts.take k)).data.toList = m := ⟨_, rfl⟩
      rw [hm] at HX HL HO
      clear hm
      obtain ⟨a0, ca, rfl, _, _, _⟩ := (Own.of_row HO.out.own).slice
      have k0 := HO.out.c0
      have k1 := HO.out.c1
      have e0 := HO.out.f0
      go_wp2_with (at_builtin; refine appS rfl _ _ 24 9 rfl (g + 1) 5 i0 Tryd.underlying24 Tryd.underlying9 HI.out.1 HI.out.2.1 HI.out.2.2.1 HI.out.2.2.2 (.slice a0 m.length ca) _ _ rfl HO.out.own s rfl HL.out HO.out.lt ?_; intro v1 w1 hown1 hg1 hp1; obtain ⟨a1, c1, rfl, _, _, _⟩ := (Own.of_row hown1).slice; have hT := Touched.of_grown hg1; have k4 := (hT.cell HO.out.lt HO.out.apart).trans HO.out.c0; have e4 := (hT.free HO.out.lt HO.out.apart).trans HO.out.f0; have HG1 : Box _ := ⟨hg1⟩; have HW1 : Box _ := ⟨hown1⟩; have HP1 : Box _ := ⟨hp1⟩; clear hown1 hg1 hT k0 k1 e0 hp1)
      go_roundw
      case rel =>
        have hO2 : OutS (w1.setCell ⟨g, 0, none⟩ (.slice a1 (m.length + s.size) c1)) g (.slice a1 (m.length + s.size) c1) 0 (m ++ s.data.toList) := HO.out.grown (by
          have h := HW1.out
          rw [show Lib.strCells s = bcells s.data.toList from rfl] at h
          rw [bcells, List.map_append, List.length_append, data_length]
          exact h) HG1.out
        refine ⟨k + 1, _, by omega, by go_num, ⟨by rw [HX.out]; exact hO2⟩, (HT.out.trans' (Touched.of_grown HG1.out) ?_).setCell (.inl (by simp)) _, ⟨fun b hb => ?_⟩⟩
        · intro j hj
          rcases HF.out j (by simpa using hj) with h | h
          · exact .inl (by simp [h])
          · exact .inr h
        · rcases HP1.out with h | h
          · exact HF.out b (by rw [← h]; exact hb)
          · rw [h] at hb
            injection hb with hb
            exact .inr (by rw [← hb]; exact HT.out.size)
      case measure => simp [intOf]; omega
    · obtain rfl : k = ts.length := by omega
      go_wp2
      go_ret
      exact ⟨u, rfl, by have := HO.out; rwa [List.take_of_length_le (Nat.le_refl _)] at this, HT.out, HF.out⟩

theorem outRaw_err (g : Nat) (v : Value) (e : Int) (l : List UInt8) (A : Option Addr) (c : Nat) (ts : List ByteArray) (w : World) (he : e ≠ 0) (hO : OutS w g v e l) (hn : ts.length ≤ 4000000000000000000) (hR : RowAt w A (scells ts)) :
    Calls Tryd.prog 16 #[.pointer (some ⟨g, 0, none⟩), .slice A ts.length c] w fun r w' => r = .returned (.pointer (some ⟨g, 0, none⟩)) ∧ w = w' := by
  have k1 := hO.c1
  have HR : Box _ := ⟨hR⟩
  clear hO hR
  by_cases hlt : 0 < ts.length
  · obtain ⟨s, hs⟩ := some_at hlt
    obtain ⟨ad, rfl, hc0⟩ := HR.out.get (scells_at hs)
    have hc : w.cell? ad = some (.string s) := by rwa [addr_add0] at hc0
    clear hs hc0
    go_enter Tryd.func16, Tryd.ntmps16
    go_wp2
    go_loopw [9] (fun i wr => i = .int .i64 0 ∧ w = wr) (fun i _ => 1)
    case atStart => exact ⟨rfl, rfl⟩
    case round =>
      obtain ⟨rfl, rfl⟩ := hrel
      go_wp2
      go_ret
      exact ⟨rfl, rfl⟩
  · obtain rfl : ts = [] := List.eq_nil_of_length_eq_zero (by omega)
    go_enter Tryd.func16, Tryd.ntmps16
    go_wp2
    go_loopw [9] (fun i wr => i = .int .i64 0 ∧ w = wr) (fun i _ => 1)
    case atStart => exact ⟨rfl, rfl⟩
    case round =>
      obtain ⟨rfl, rfl⟩ := hrel
      go_wp2
      go_ret
      exact ⟨rfl, rfl⟩
theorem outRaw_nil (A : Option Addr) (c : Nat) (s : ByteArray) (w : World) (hR : RowAt w A (scells [s])) :
    Calls Tryd.prog 16 #[.pointer none, .slice A 1 c] w fun r w' => r = .returned (.pointer none) ∧ w = w' := by
  obtain ⟨ad, rfl, hc0⟩ := hR.get (j := 0) (u := .string s) rfl
  have hc : w.cell? ad = some (.string s) := by rwa [addr_add0] at hc0
  clear hR hc0
  go_enter Tryd.func16, Tryd.ntmps16
  go_wp2
  go_loopw [9] (fun i wr => i = .int .i64 0 ∧ w = wr) (fun i _ => 1)
  case atStart => exact ⟨rfl, rfl⟩
  case round =>
    obtain ⟨rfl, rfl⟩ := hrel
    go_wp2
    go_ret
    exact ⟨rfl, rfl⟩
theorem outRaw_calls (g : Nat) (v : Value) (e : Int) (l : List UInt8) (A : Option Addr) (c : Nat) (ts : List ByteArray) (w : World) (hO : OutS w g v e l) (hn : ts.length ≤ 4000000000000000000) (hsz : l.length + totalLen ts ≤ 140737488355328)
    (hR : ∀ w', Touched w w' (g :: v.ownBlock.toList) → RowAt w' A (scells ts)) :
    Calls Tryd.prog 16 #[.pointer (some ⟨g, 0, none⟩), .slice A ts.length c] w fun r w' => r = .returned (.pointer (some ⟨g, 0, none⟩)) ∧ OutTo w w' g v (rawO (e, l) ts) := by
  by_cases he : e = 0
  · subst he
    exact (outRaw_ok g v l A c ts w hO hn hsz hR).mono fun r w' ⟨v', h1, h2, h3, h4⟩ => ⟨h1, ⟨v', h2, h4⟩, h3⟩
  · refine (outRaw_err g v e l A c ts w he hO hn (hR w (Touched.refl _ _))).mono fun r w' ⟨h1, h2⟩ => ⟨h1, ?_⟩
    subst h2
    rw [rawO, if_pos he]
    exact OutTo.refl hO
end Go.Proofs.YtninoogbkaeihaaDoor
