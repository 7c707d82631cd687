/- What a row's arguments are: each reading of the form, told as a list of plain data and cells that lie in a row. -/
import Derived.Test.YtbnkmndgfmmiaaaBase
import Derived.ProofKit
import Derived.OpenShut
import Derived.ShutString
import Derived.ChangeOld
import Derived.SizedLaws
import Derived.Deep.Slices
import Derived.KernelRfl
namespace Go.Proofs.Ytbnkmndgfmmiaaa
open Go.ChangeShapes Go.WideShapes Go.ChangeAt Go.RowKit
open Go.Deep (open_slice choose_lt add_add)
set_option linter.unusedVariables false

section
variable {H : Type} {enc : TypeId × Value → H} {P : Program} {W : World}

theorem row_weight {ts : List TypeId} {ds : List (DataW H)} (hsz : (DataW.weightsEach P ts ds).all (· ≤ reachBytes) = true) {j : Nat} {t : TypeId} {d : DataW H} (ht : ts[j]? = some t) (hd : ds[j]? = some d) :
    ∀ n ∈ d.weights P t, n ≤ 140737488351232 := by
  intro n hn
  have := List.all_eq_true.1 hsz _ (DataW.weights_mem_each ht hd n hn)
  exact of_decide_eq_true this

theorem mem_weightsAll {e : TypeId} {ds : List (DataW H)} {d : DataW H} (hd : d ∈ ds) {n : Nat} (hn : n ∈ d.weights P e) : n ∈ DataW.weightsAll P e ds := by
  induction ds with
  | nil => cases hd
  | cons x r ih =>
    simp only [DataW.weightsAll, List.mem_append]
    rcases List.mem_cons.1 hd with rfl | h
    · exact .inl hn
    · exact .inr (ih h)

theorem flatMap_cell {α : Type} {cells : α → List Value} {sz : Nat} (hsz : ∀ x, (cells x).length = sz) (l : List α) : ∀ (j : Nat) (u : Value), (l.flatMap cells)[j]? = some u →
    ∃ i r x, j = i * sz + r ∧ r < sz ∧ l[i]? = some x ∧ (cells x)[r]? = some u := by
  induction l with
  | nil => intro j u h; simp at h
  | cons a l ih =>
    intro j u h
    rw [List.flatMap_cons] at h
    rcases Nat.lt_or_ge j (cells a).length with hj | hj
    · rw [List.getElem?_append_left hj] at h
      exact ⟨0, j, a, by omega, by rw [← hsz a]; exact hj, rfl, h⟩
    · rw [List.getElem?_append_right hj] at h
      obtain ⟨i, r, x, e, hr, hx, hu⟩ := ih _ _ h
      refine ⟨i + 1, r, x, ?_, hr, by simpa using hx, hu⟩
      rw [hsz a] at e hj
      rw [Nat.add_mul]; omega

/-- A slice that came in, element by element. -/
theorem arg_slice {α : Type} [Inhabited α] {t e : TypeId} {sz : Nat} (cells : α → List Value) (good : α → Prop) (ht : P.underlying t = some (.slice e)) (hc : P.cellsOf e = sz) (hlen : ∀ x, (cells x).length = sz)
    (hdec : ∀ fuel cs (y : DataW H × List MemPlace), DataW.trod enc P W 0 (fun _ => true) true fuel e cs = some y → (∀ n ∈ y.1.weights P e, n ≤ 140737488351232) → ∃ x, cs = cells x ∧ good x)
    {a : Option Addr} {len cap : Nat} {d : DataW H} {ps : List MemPlace} (h : DataW.Trod enc P W 0 (fun _ => true) true t (.slice a len cap) d ps) (hw : ∀ n ∈ d.weights P t, n ≤ 140737488351232) :
    ∃ l : List α, l.length = len ∧ len ≤ cap ∧ len * P.bytesOf e ≤ 140737488351232 ∧ (∀ x ∈ l, good x) ∧ RowAt W a (l.flatMap cells) := by
  obtain ⟨fuel, hf⟩ := h
  rcases open_slice ht hf with ⟨hcs, _⟩ | ⟨ad, len', cap', m, n, D, Pl, hcs, _, hl, _, hm, hx, hel⟩
  · simp [Value.cells] at hcs
    obtain ⟨rfl, rfl, rfl⟩ := hcs
    exact ⟨[], rfl, Nat.le_refl _, by simp, by simp, .inl rfl⟩
  · simp [Value.cells] at hcs
    obtain ⟨rfl, rfl, rfl⟩ := hcs
    simp only [Prod.mk.injEq] at hx
    obtain ⟨rfl, _⟩ := hx
    have hm' : m = cap := by simpa using hm
    subst hm'
    have hW : ∀ n ∈ DataW.weights P t (.slice ((List.range len).map D) ((List.range (m - len)).map fun j => D (len + j))), n ≤ 140737488351232 := hw
    simp only [DataW.weights, ht] at hW
    have each : ∀ i, i < len → ∃ x : α, good x ∧ ∀ r u, (cells x)[r]? = some u → W.cell? (ad.add (i * sz + r)) = some u := by
      intro i hi
      obtain ⟨cs', h1, h2⟩ := hel i (by omega)
      obtain ⟨x, rfl, hg⟩ := hdec n cs' _ h2 (fun k hk => hW k (by
        simp only [List.mem_cons, List.mem_append]
        exact .inr (.inl (mem_weightsAll (List.mem_map.2 ⟨i, List.mem_range.2 hi, rfl⟩) hk))))
      refine ⟨x, hg, fun r u hr => ?_⟩
      obtain ⟨_, hln, hcell⟩ := World.cells?_some h1
      have hrl : r < P.cellsOf e := by rw [← hln]; exact (List.getElem?_eq_some_iff.1 hr).1
      have := hcell r hrl
      rw [add_add, hc] at this
      rw [this, hr]
    obtain ⟨f, hf⟩ := choose_lt each
    refine ⟨(List.range len).map f, by simp, hl, ?_, ?_, .inr ⟨ad, rfl, ?_⟩⟩
    · have := hW _ (List.mem_cons_self ..)
      simp at this
      exact Nat.le_trans (Nat.mul_le_mul_right _ (by omega)) this
    · intro x hx
      obtain ⟨i, hi, rfl⟩ := List.mem_map.1 hx
      exact (hf i (List.mem_range.1 hi)).1
    · intro j u hj
      obtain ⟨i, r, x, rfl, hr, hxi, hu⟩ := flatMap_cell hlen _ j u hj
      have hi : i < len := by have := (List.getElem?_eq_some_iff.1 hxi).1; simpa using this
      simp [hi] at hxi
      subst hxi
      exact (hf i hi).2 r u hu

theorem flatMap_one {α β : Type} (f : α → β) (l : List α) : (l.flatMap fun x => [f x]) = l.map f := by
  induction l with
  | nil => rfl
  | cons a l ih => simp [ih]

theorem arg_strs {t e : TypeId} (ht : P.underlying t = some (.slice e)) (he : P.underlying e = some .string) (hc : P.cellsOf e = 1) {B : Nat} (hB : P.bytesOf e = B)
    {a : Option Addr} {len cap : Nat} {d : DataW H} {ps : List MemPlace} (h : DataW.Trod enc P W 0 (fun _ => true) true t (.slice a len cap) d ps) (hw : ∀ n ∈ d.weights P t, n ≤ 140737488351232) :
    ∃ l : List ByteArray, l.length = len ∧ len ≤ cap ∧ len * B ≤ 140737488351232 ∧ (∀ x ∈ l, x.size ≤ 140737488351232) ∧ RowAt W a (scells l) := by
  obtain ⟨l, h1, h2, h3, h4, h5⟩ := arg_slice (fun s : ByteArray => [.string s]) (fun s => s.size ≤ 140737488351232) ht hc (fun _ => rfl) (fun fuel cs y hy hwy => by
    obtain ⟨s, rfl, rfl, _⟩ := DataW.trod_string he hy
    exact ⟨s, rfl, by have := hwy s.data.toList.length (by simp [DataW.weights]); simpa using this⟩) h hw
  rw [hB] at h3
  exact ⟨l, h1, h2, h3, h4, by rwa [flatMap_one] at h5⟩

theorem lit_i64 {a : Int} (h : (Lit.int .i64 a).wf = true) : -9223372036854775808 ≤ a ∧ a ≤ 9223372036854775807 := by
  simp [Lit.wf, IntKind.min, IntKind.max, IntKind.signed, IntKind.bits] at h; omega
theorem lit_u64 {a : Int} (h : (Lit.int .u64 a).wf = true) : 0 ≤ a ∧ a < 18446744073709551616 := by
  simp [Lit.wf, IntKind.min, IntKind.max, IntKind.signed, IntKind.bits] at h; omega
theorem lit_u8 {a : Int} (h : (Lit.int .u8 a).wf = true) : 0 ≤ a ∧ a ≤ 255 := by
  simp [Lit.wf, IntKind.min, IntKind.max, IntKind.signed, IntKind.bits] at h; omega

theorem arg_ints {t e : TypeId} (ht : P.underlying t = some (.slice e)) (he : P.underlying e = some (.int .i64)) (hc : P.cellsOf e = 1) {B : Nat} (hB : P.bytesOf e = B)
    {a : Option Addr} {len cap : Nat} {d : DataW H} {ps : List MemPlace} (h : DataW.Trod enc P W 0 (fun _ => true) true t (.slice a len cap) d ps) (hw : ∀ n ∈ d.weights P t, n ≤ 140737488351232) :
    ∃ l : List Int, l.length = len ∧ len ≤ cap ∧ len * B ≤ 140737488351232 ∧ (∀ x ∈ l, -9223372036854775808 ≤ x ∧ x ≤ 9223372036854775807) ∧ RowAt W a (icells l) := by
  obtain ⟨l, h1, h2, h3, h4, h5⟩ := arg_slice (fun n : Int => [.int .i64 n]) (fun n => -9223372036854775808 ≤ n ∧ n ≤ 9223372036854775807) ht hc (fun _ => rfl) (fun fuel cs y hy hwy => by
    obtain ⟨s, rfl, rfl, hwf⟩ := DataW.trod_int he hy
    exact ⟨s, rfl, lit_i64 hwf⟩) h hw
  rw [hB] at h3
  exact ⟨l, h1, h2, h3, h4, by rwa [flatMap_one] at h5⟩

theorem arg_bytes {t e : TypeId} (ht : P.underlying t = some (.slice e)) (he : P.underlying e = some (.int .u8)) (hc : P.cellsOf e = 1) {B : Nat} (hB : P.bytesOf e = B)
    {a : Option Addr} {len cap : Nat} {d : DataW H} {ps : List MemPlace} (h : DataW.Trod enc P W 0 (fun _ => true) true t (.slice a len cap) d ps) (hw : ∀ n ∈ d.weights P t, n ≤ 140737488351232) :
    ∃ l : List UInt8, l.length = len ∧ len ≤ cap ∧ len * B ≤ 140737488351232 ∧ RowAt W a (bcells l) := by
  obtain ⟨l, h1, h2, h3, h4, h5⟩ := arg_slice (fun n : UInt8 => [.int .u8 n.toNat]) (fun _ => True) ht hc (fun _ => rfl) (fun fuel cs y hy hwy => by
    obtain ⟨s, rfl, rfl, hwf⟩ := DataW.trod_int he hy
    have := lit_u8 hwf
    refine ⟨UInt8.ofNat s.toNat, ?_, trivial⟩
    have e : ((UInt8.ofNat s.toNat).toNat : Int) = s := by
      rw [UInt8.toNat_ofNat_of_lt' (by simp [UInt8.size]; omega)]; omega
    rw [e]) h hw
  rw [hB] at h3
  exact ⟨l, h1, h2, h3, by rwa [flatMap_one] at h5⟩
end
end Go.Proofs.Ytbnkmndgfmmiaaa
