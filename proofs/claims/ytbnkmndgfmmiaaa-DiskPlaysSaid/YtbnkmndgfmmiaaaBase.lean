/- Words used by all texts of this seat: cells that lie in a row, what a fresh block changes. -/
import Derived.Test.YtbnkmndgfmmiaaaProg
import Derived.WalkKit
import Derived.Lib.ConvBytes
import Derived.Lib.Hide
import Derived.WalkSpells
import Derived.WalkLawsBesides
import Derived.KernelRfl
import Derived.Deep.QuietTactic
import Derived.BigQuiet
import Derived.Maps.AppendAt
import Derived.Laws.OwnMore
namespace Go.Proofs.Ytbnkmndgfmmiaaa
open Go.RowKit
set_option linter.unusedVariables false

/-- The cells cs lie one behind the other at A (of no cells nothing is said). -/
def RowAt (w : World) (A : Option Addr) (cs : List Value) : Prop :=
  cs = [] ∨ ∃ ad, A = some ad ∧ ∀ j u, cs[j]? = some u → w.cell? (ad.add j) = some u
theorem RowAt.nil (w : World) (A : Option Addr) : RowAt w A [] := .inl rfl
theorem RowAt.get {w : World} {A : Option Addr} {cs : List Value} (h : RowAt w A cs) {j : Nat} {u : Value} (hj : cs[j]? = some u) : ∃ ad, A = some ad ∧ w.cell? (ad.add j) = some u := by
  rcases h with rfl | ⟨ad, e, h⟩
  · simp at hj
  · exact ⟨ad, e, h j u hj⟩
theorem cell_kept {B : Nat} {w w' : World} (h : Below B w w') {a : Addr} {v : Value} (hB : w.heap.size ≤ B) (hc : w.cell? a = some v) : w'.cell? a = some v :=
  (h.cell (Nat.lt_of_lt_of_le (World.block_lt_of_cell? w a hc) hB)).trans hc
theorem RowAt.below {w w' : World} {A : Option Addr} {cs : List Value} (h : RowAt w A cs) (hb : Below w.heap.size w w') : RowAt w' A cs := by
  rcases h with rfl | ⟨ad, e, h⟩
  · exact .inl rfl
  · exact .inr ⟨ad, e, fun j u hj => cell_kept hb (Nat.le_refl _) (h j u hj)⟩
/-- Both facts of a block that was made behind another world. -/
theorem below_trans' {w w1 w2 : World} (h : Below w.heap.size w w1) (k : Below w1.heap.size w1 w2) : Below w.heap.size w w2 :=
  h.trans (k.mono h.size)

theorem below_drewN {B : Nat} {w W : World} (h : Below B w W) (n : Nat) : Below B w (W.drewN n) := ⟨h.os, h.tape, h.output, h.size, h.block⟩
theorem RowAt.addr {w : World} {A : Option Addr} {cs : List Value} (h : RowAt w A cs) (h0 : cs ≠ []) : ∃ b o, A = some ⟨b, o, none⟩ ∧ b < w.heap.size ∧ ∀ j u, cs[j]? = some u → w.cell? ⟨b, o + j, none⟩ = some u := by
  rcases h with h | ⟨⟨b, o, sp⟩, rfl, h⟩
  · exact absurd h h0
  · obtain ⟨x, r, rfl⟩ := List.exists_cons_of_ne_nil h0
    have h1 := h 0 x rfl
    have hsp : sp = none := by simpa [Addr.add] using World.cell?_spot h1
    subst hsp
    have e : ∀ j, (⟨b, o, none⟩ : Addr).add j = ⟨b, o + j, none⟩ := by intro j; unfold Addr.add; split <;> simp_all
    exact ⟨b, o, rfl, World.block_lt_of_cell? w _ h1, fun j u hj => by rw [← e]; exact h j u hj⟩
theorem quiet_same {P : Program} {f : FuncId} {args : Array Value} {w : World} {n : Nat} {v : Value}
    (h : Calls P f args (w.drewN n) fun e w' => e = .returned v ∧ w.drewN n = w') : Calls P f args (w.drewN n) fun e w'' => e = .returned v ∧ ∃ m, w'' = w.drewN m :=
  h.mono fun _ _ ⟨he, hm⟩ => ⟨he, n, hm.symm⟩
theorem str_inj {a b : ByteArray} (h : a.toList = b.toList) : a = b := by
  rw [ByteArray.toList_eq, ByteArray.toList_eq] at h
  exact ByteArray.ext (Array.toList_inj.mp h)
theorem str_beq (a b : ByteArray) : (a.toList == b.toList) = decide (a = b) := by
  rw [Bool.eq_iff_iff]
  simp only [beq_iff_eq, decide_eq_true_eq]
  exact ⟨str_inj, fun h => by rw [h]⟩
theorem str_ne {a b : ByteArray} (h : a ≠ b) : (a.toList == b.toList) = false := by rw [str_beq]; simpa using h

theorem RowAt.left {w : World} {A : Option Addr} {cs ds : List Value} (h : RowAt w A (cs ++ ds)) : RowAt w A cs := by
  rcases h with h | ⟨ad, e, h⟩
  · exact .inl (List.append_eq_nil_iff.1 h).1
  · refine .inr ⟨ad, e, fun j u hj => h j u ?_⟩
    rw [List.getElem?_append_left (List.getElem?_eq_some_iff.1 hj).1]
    exact hj

def bcells (l : List UInt8) : List Value := l.map fun b => .int .u8 b.toNat
def icells (l : List Int) : List Value := l.map (.int .i64)
def scells (l : List ByteArray) : List Value := l.map .string
def pcells (l : List (Int × Int)) : List Value := l.flatMap fun p => [.int .i64 p.1, .int .i64 p.2]
theorem bcells_at {l : List UInt8} {k : Nat} {x : UInt8} (h : l[k]? = some x) : (bcells l)[k]? = some (.int .u8 x.toNat) := by simp [bcells, h]
theorem icells_at {l : List Int} {k : Nat} {x : Int} (h : l[k]? = some x) : (icells l)[k]? = some (.int .i64 x) := by simp [icells, h]
theorem scells_at {l : List ByteArray} {k : Nat} {x : ByteArray} (h : l[k]? = some x) : (scells l)[k]? = some (.string x) := by simp [scells, h]
theorem rowAt_alloc (w : World) (cs : List Value) (t : TypeId) : RowAt (w.alloc (.cells cs.toArray t)) (some ⟨w.heap.size, 0, none⟩) cs := by
  refine .inr ⟨_, rfl, fun j u hj => ?_⟩
  have e : (⟨w.heap.size, 0, none⟩ : Addr).add j = ⟨w.heap.size, j, none⟩ := by unfold Addr.add; split <;> simp_all
  rw [e, World.cell?_alloc_at _ _ _ _ rfl]
  simpa using hj
theorem RowAt.alloc {w : World} {A : Option Addr} {cs : List Value} (h : RowAt w A cs) (o : Obj) : RowAt (w.alloc o) A cs := h.below ((Below.refl _ _).alloc (Nat.le_refl _) o)
theorem RowAt.take_b {w : World} {A : Option Addr} {l : List UInt8} (h : RowAt w A (bcells l)) (m : Nat) : RowAt w A (bcells (l.take m)) := by
  rw [← List.take_append_drop m l, bcells, List.map_append] at h
  exact h.left
/-- string(b) of a row of bytes. -/
theorem bytes_str (P : Program) (src e_ dst : TypeId) (hs : P.underlying src = some (.slice e_)) (he : P.underlying e_ = some (.int .u8)) (hd : P.underlying dst = some .string) (A : Option Addr) (n c : Nat) (l : List UInt8) (w : World) (hl : l.length = n) (hR : RowAt w A (bcells l)) :
    (convert src dst (.slice A n c)).run P w = .ok (.string ⟨l.toArray⟩) w := by
  subst hl
  have key : ∀ ad : Addr, (∀ j u, (bcells l)[j]? = some u → w.cell? (ad.add j) = some u) → (convert src dst (.slice (some ad) l.length c)).run P w = .ok (.string ⟨l.toArray⟩) w := by
    intro ad hc
    have e : bcells l = (l.map fun b => (b.toNat : Int)).map (Value.int .u8) := by simp [bcells]
    have hl := run_loadCells_list (P := P) w ad (bcells l) hc
    rw [e] at hl
    simp only [List.length_map] at hl
    rw [run_convert_bytes_string w src dst e_ _ l.length c hs he hd, run_bytesToString w ad l.length c _ hl, foldl_push_bytes]
    congr 2
    simp only [List.map_map]
    have e2 : l.map ((fun n : Int => UInt8.ofNat n.toNat) ∘ fun b : UInt8 => (b.toNat : Int)) = l := by
      conv => rhs; rw [← List.map_id l]
      apply List.map_congr_left
      intro b _
      simp
    rw [e2]
    simp [ByteArray.empty, ByteArray.emptyWithCapacity]
    rfl
  rcases hR with h | ⟨ad, rfl, hc⟩
  · rcases A with _ | ad
    · obtain rfl : l = [] := by simpa [bcells] using h
      rw [run_convert_bytes_nil w src e_ hs he _ _ dst hd]
      rfl
    · exact key ad (by rw [h]; simp)
  · exact key ad hc
theorem mk_data (s : ByteArray) : (⟨s.data.toList.toArray⟩ : ByteArray) = s := by cases s; simp
theorem mk_size (l : List UInt8) : (⟨l.toArray⟩ : ByteArray).size = l.length := by simp [ByteArray.size]
theorem all_one {x : ByteArray} {n : Nat} (h : x.size ≤ n) : ∀ s ∈ [x], s.size ≤ n := by intro s hs; rw [List.mem_singleton.1 hs]; exact h
theorem pcells_cons (p : Int × Int) (l : List (Int × Int)) : pcells (p :: l) = .int .i64 p.1 :: .int .i64 p.2 :: pcells l := rfl
theorem pcells_length (l : List (Int × Int)) : (pcells l).length = l.length * 2 := by
  induction l with
  | nil => rfl
  | cons p l ih => rw [pcells_cons]; simp [ih]; omega
theorem pcells_append (l m : List (Int × Int)) : pcells (l ++ m) = pcells l ++ pcells m := by simp [pcells]
theorem pcells_at {l : List (Int × Int)} {k : Nat} {p : Int × Int} (h : l[k]? = some p) : (pcells l)[k * 2]? = some (.int .i64 p.1) ∧ (pcells l)[k * 2 + 1]? = some (.int .i64 p.2) := by
  induction l generalizing k with
  | nil => simp at h
  | cons q l ih =>
    cases k with
    | zero => simp at h; subst h; exact ⟨rfl, rfl⟩
    | succ k =>
      have := ih (k := k) (by simpa using h)
      rw [pcells_cons, show (k + 1) * 2 = k * 2 + 1 + 1 by omega]
      simpa using this
theorem pair_at {w : World} {A : Option Addr} {l : List (Int × Int)} {k : Nat} {p : Int × Int} (h : RowAt w A (pcells l)) (hk : l[k]? = some p) :
    ∃ b o, A = some ⟨b, o, none⟩ ∧ b < w.heap.size ∧ w.cell? ⟨b, o + k * 2, none⟩ = some (.int .i64 p.1) ∧ w.cell? ⟨b, o + k * 2 + 1, none⟩ = some (.int .i64 p.2) := by
  obtain ⟨h1, h2⟩ := pcells_at hk
  obtain ⟨b, o, e, hb, hc⟩ := h.addr (by intro e; rw [e] at h1; simp at h1)
  exact ⟨b, o, e, hb, hc _ _ h1, by rw [Nat.add_assoc]; exact hc _ _ h2⟩
theorem one_bcells (l : List UInt8) : ∀ u ∈ bcells l, u.oneCell' = true := by intro u hu; obtain ⟨b, _, rfl⟩ := List.mem_map.1 hu; rfl
theorem one_icells (l : List Int) : ∀ u ∈ icells l, u.oneCell' = true := by intro u hu; obtain ⟨b, _, rfl⟩ := List.mem_map.1 hu; rfl
theorem one_scells (l : List ByteArray) : ∀ u ∈ scells l, u.oneCell' = true := by intro u hu; obtain ⟨b, _, rfl⟩ := List.mem_map.1 hu; rfl
theorem one_pcells (l : List (Int × Int)) : ∀ u ∈ pcells l, u.oneCell' = true := by
  intro u hu; obtain ⟨b, _, h⟩ := List.mem_flatMap.1 hu
  simp at h
  rcases h with rfl | rfl <;> rfl
/-- []byte(s): the new row, the world behind it. -/
theorem bytes_below (W : World) (e : TypeId) (s : ByteArray) : Below W.heap.size W (Lib.bytesWorld W e s) :=
  ⟨rfl, rfl, rfl, by rw [Lib.bytesWorld_size]; omega, fun i hi => Lib.bytesWorld_at_old W e s i hi⟩
theorem bytes_row (W : World) (e : TypeId) (s : ByteArray) : RowAt (Lib.bytesWorld W e s) (some ⟨W.heap.size, 0, none⟩) (bcells s.data.toList) := by
  refine .inr ⟨_, rfl, fun j u hj => ?_⟩
  have e1 : (⟨W.heap.size, 0, none⟩ : Addr).add j = ⟨W.heap.size, j, none⟩ := by unfold Addr.add; split <;> simp_all
  have hjl : j < (bcells s.data.toList).length := (List.getElem?_eq_some_iff.1 hj).1
  simp only [bcells, List.length_map] at hjl
  rw [e1, Lib.bytesWorld_cell W e s j (by simpa using hjl)]
  simp only [bcells, List.getElem?_map, List.getElem?_eq_getElem hjl, Option.map_some] at hj
  rw [← hj, List.getD_eq_getElem?_getD, List.getElem?_eq_getElem hjl]
  rfl
theorem data_length (s : ByteArray) : s.data.toList.length = s.size := by rw [Array.length_toList]; rfl
theorem take_snoc_str (s : ByteArray) (k : Nat) (h : k < s.size) : s.data.toList.take (k + 1) = s.data.toList.take k ++ [s[k]] := by
  rw [List.take_succ_eq_append_getElem (by simpa using h)]; rfl
theorem take_snoc_of {α : Type} {l : List α} {k : Nat} {x : α} (h : l[k]? = some x) : l.take (k + 1) = l.take k ++ [x] := by
  rw [List.take_add_one, h]; rfl
theorem some_at {α : Type} {l : List α} {k : Nat} (h : k < l.length) : ∃ x, l[k]? = some x := ⟨l[k], List.getElem?_eq_getElem h⟩
theorem max2_int (k k' : IntKind) (x y : Int) : Builtin.max2 (.int k x) (.int k' y) = pure (.int k (max x y)) := by
  simp only [Builtin.max2, gt_iff_lt]
  have e : (if x < y then y else x) = max x y := by rw [Int.max_def]; split <;> split <;> omega
  rw [e]
theorem min2_int (k k' : IntKind) (x y : Int) : Builtin.min2 (.int k x) (.int k' y) = pure (.int k (min x y)) := by
  simp only [Builtin.min2]
  have e : (if y < x then y else x) = min x y := by rw [Int.min_def]; split <;> split <;> omega
  rw [e]
theorem max_two (ats : Array TypeId) (ty : TypeId) (a b : Value) : Builtin.max_ ats ty #[a, b] = (Builtin.max2 a b >>= fun s => pure s) := by simp only [Builtin.max_, List.foldlM_cons, List.foldlM_nil]
theorem min_two (ats : Array TypeId) (ty : TypeId) (a b : Value) : Builtin.min_ ats ty #[a, b] = (Builtin.min2 a b >>= fun s => pure s) := by simp only [Builtin.min_, List.foldlM_cons, List.foldlM_nil]
theorem ret_int {k : IntKind} {a b : Int} (h : a = b) : Ending.returned (.int k a) = .returned (.int k b) := by rw [h]
theorem ret_bool {a b : Bool} (h : a = b) : Ending.returned (.bool a) = .returned (.bool b) := by rw [h]
theorem ret_str {a b : ByteArray} (h : a = b) : Ending.returned (.string a) = .returned (.string b) := by rw [h]
theorem val_int {k : IntKind} {a b : Int} (h : a = b) : Value.int k a = .int k b := by rw [h]

/-- What is known of a slice type t, its elements' type e: how many cells and bytes each has. -/
def El (P : Program) (t e : TypeId) (size bytes : Nat) : Prop :=
  P.underlying t = some (.slice e) ∧ 0 < size ∧ 0 < bytes ∧ ∃ i z, P.info? e = some i ∧ i.zero = some z ∧ i.size = size ∧ i.bytes = bytes ∧ z.cells.size = size
theorem El.mk' {P : Program} {t e : TypeId} {z : Value} {size bytes : Nat} (h : P.underlying t = some (.slice e)) (hi : (P.info? e).map (fun i => (i.zero, i.size, i.bytes)) = some (some z, size, bytes))
    (hz : (z.cells.size == size && decide (0 < size) && decide (0 < bytes)) = true) : El P t e size bytes := by
  obtain ⟨i, h1, h2⟩ := Option.map_eq_some_iff.1 hi
  simp only [Prod.mk.injEq] at h2
  simp at hz
  exact ⟨h, hz.1.2, hz.2, i, z, h1, h2.1, h2.2.1, h2.2.2, hz.1.1⟩

theorem own_base {w : World} {base : Nat} {e : TypeId} {size n : Nat} {v : Value} {xs : List Value} (h : w.ownsRow base e size v n xs) (k : Nat) (hk : v.ownBlock = some k) : base ≤ k := by
  rcases h.2 with ⟨rfl, _⟩ | ⟨g, cap, cur, rfl, hb, _⟩
  · simp [Value.ownBlock] at hk
  · have : g = k := by simpa [Value.ownBlock] using hk
    omega
theorem own_slice {w : World} {base n : Nat} {e : TypeId} {size : Nat} {v : Value} {xs : List Value} (h : w.ownsRow base e size v n xs) : ∃ A c, v = .slice A n c ∧ n ≤ c ∧ RowAt w A xs ∧ (A = none → n = 0 ∧ c = 0) := by
  rcases h.2 with ⟨rfl, rfl⟩ | ⟨g, cap, cur, rfl, _, _, hc, _⟩
  · exact ⟨none, 0, rfl, Nat.le_refl _, .inl (List.eq_nil_of_length_eq_zero (by simpa using h.1)), fun _ => ⟨rfl, rfl⟩⟩
  · exact ⟨_, cap, rfl, hc, .inr ⟨_, rfl, h.cells (g := g) rfl⟩, fun h => by cases h⟩
theorem own_form {w : World} {base n : Nat} {e : TypeId} {size : Nat} {v : Value} {xs : List Value} (h : w.ownsRow base e size v n xs) (h0 : 0 < n) :
    ∃ g cap, v = .slice (some ⟨g, 0, none⟩) n cap ∧ base ≤ g ∧ n ≤ cap ∧ RowAt w (some ⟨g, 0, none⟩) xs := by
  rcases h.2 with ⟨rfl, rfl⟩ | ⟨g, cap, cur, rfl, hb, _, hc, _⟩
  · omega
  · exact ⟨g, cap, rfl, hb, hc, .inr ⟨_, rfl, h.cells (g := g) rfl⟩⟩
theorem own_below {w w1 : World} {base : Nat} {e : TypeId} {size n : Nat} {v : Value} {xs : List Value} (h : w.ownsRow base e size v n xs) (hb : Below w.heap.size w w1) : w1.ownsRow base e size v n xs :=
  h.kept (row := none) ⟨hb.os, hb.tape, hb.output, hb.size, fun i hi _ => hb.block i hi⟩ (by cases v.ownBlock <;> simp)
theorem own_weaken {w : World} {base base' : Nat} {e : TypeId} {size n : Nat} {v : Value} {xs : List Value} (h : w.ownsRow base e size v n xs) (hb : base' ≤ base) : w.ownsRow base' e size v n xs := by
  obtain ⟨h1, h2⟩ := h
  refine ⟨h1, ?_⟩
  rcases h2 with h2 | ⟨g, cap, cur, rfl, hg, r⟩
  · exact .inl h2
  · exact .inr ⟨g, cap, cur, rfl, Nat.le_trans hb hg, r⟩

/-- append(v, x...): v a row of the call's own, x any row. -/
theorem run_app {P : Program} {t e : TypeId} {size bytes : Nat} (E : El P t e size bytes) (W : World) (base : Nat) (ty : TypeId) (v : Value) (n : Nat) (xs : List Value) (hown : W.ownsRow base e size v n xs)
    (A : Option Addr) (m c : Nat) (news : List Value) (hl : news.length = m * size) (hR : RowAt W A news) (h1 : ∀ u ∈ news, u.oneCell' = true)
    (hbytes : (n + m) * bytes ≤ 140737488355328) (hbase : base ≤ W.heap.size) :
    ∃ v' w', (Builtin.append_ #[t, t] ty #[v, .slice A m c]).run P W = .ok v' w' ∧ w'.ownsRow base e size v' (n + m) (xs ++ news) ∧ W.grownBy w' v.ownBlock ∧ (v'.ownBlock = v.ownBlock ∨ v'.ownBlock = some W.heap.size) := by
  obtain ⟨ht, hsz, hb0, i, z, hi, hz, rfl, rfl, hzs⟩ := E
  have hlen : n + m ≤ 140737488355328 := Nat.le_trans (Nat.le_mul_of_pos_right _ hb0) hbytes
  rcases A with _ | ad
  · have hm0 : m = 0 := by
      rcases hR with rfl | ⟨ad, h, _⟩
      · rcases Nat.eq_zero_or_pos m with h0 | h0
        · exact h0
        · have := Nat.mul_pos h0 hsz
          simp at hl; omega
      · cases h
    subst hm0
    obtain rfl : news = [] := List.eq_nil_of_length_eq_zero (by simpa using hl)
    refine ⟨v, W, ?_, by simpa using hown, World.grownBy.refl W _, .inl rfl⟩
    rcases hown.2 with ⟨rfl, hn⟩ | ⟨g, cap, cur, rfl, _, _, hnc, _⟩
    · simp [Builtin.append_, run_underlying ht, sizeOf, typeInfo, hi, Builtin.lenOf, Builtin.firstCells]
    · simp [Builtin.append_, run_underlying ht, sizeOf, typeInfo, hi, Builtin.lenOf, Builtin.firstCells, hnc, storeCells]
  · have hcells : ∀ j u, news[j]? = some u → W.cell? (ad.add j) = some u := by
      intro j u hu
      obtain ⟨ad', h, hc⟩ := hR.get hu
      injection h with h
      subst h
      exact hc
    obtain ⟨v', w', hr, h2, h3, _, h5⟩ := run_append_own_at (P := P) W base t ty e i z i.size i.bytes ht hi hz rfl rfl hzs hsz v n xs hown ad m c news hl hcells h1 (by simp only [maxLen]; omega) hbytes hbase
    exact ⟨v', w', hr, h2, h3, h5⟩

section
variable {P : Program} {ops : Array Oper} {rest : List Oper} {o : Oper} {a : Act} {Q : Exit → Act → World → Prop}
/-- The same as a step of the walk, behind 'at_builtin'. -/
theorem app_row {t e : TypeId} {size bytes : Nat} (E : El P t e size bytes) {W : World} (base : Nat) (hgd : o.guard = none) (s x : Operand)
    (ho : o.op = .call { callee := .builtin .append, args := #[s, x], argTypes := #[t, t] })
    {v : Value} {n : Nat} {xs : List Value} (hs : a.eval s = v) (hown : W.ownsRow base e size v n xs)
    {A : Option Addr} {m c : Nat} {news : List Value} (hx : a.eval x = .slice A m c) (hl : news.length = m * size) (hR : RowAt W A news) (h1 : ∀ u ∈ news, u.oneCell' = true)
    (hbytes : (n + m) * bytes ≤ 140737488355328) (hbase : base ≤ W.heap.size)
    (h : ∀ v' w', w'.ownsRow base e size v' (n + m) (xs ++ news) → W.grownBy w' v.ownBlock → (v'.ownBlock = v.ownBlock ∨ v'.ownBlock = some W.heap.size) → wpList P ops Q rest (a.put o.dst v') w') :
    wpList P ops Q (o :: rest) a W := by
  obtain ⟨v', w', hr, h2, h3, h4⟩ := run_app E W base o.type v n xs hown A m c news hl hR h1 hbytes hbase
  refine wpList_plain hgd fun K hK => ?_
  unfold Oper.wp execOp
  simp only [ho, resolve, invoke, builtin, Sem.run_bind, Sem.run_pure, Result.andThen_ok, List.map_toArray, List.map_cons, List.map_nil, hs, hx, hr]
  exact hK _ _ (h v' w' h2 h3 h4)
end

end Go.Proofs.Ytbnkmndgfmmiaaa
