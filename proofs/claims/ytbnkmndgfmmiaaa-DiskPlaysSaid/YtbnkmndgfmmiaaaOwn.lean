/- A row of memory that the call itself made, told cell by cell: what append, a store, a cut leave of it. -/
import Derived.Test.YtbnkmndgfmmiaaaBase
import Derived.ArgAppend
import Derived.Laws.IdiomCopy
namespace Go.Proofs.Ytbnkmndgfmmiaaa
open Go.RowKit
set_option linter.unusedVariables false

theorem grownBy_setCells (b : Nat) : ∀ (vs : List Value) (o : Nat) (w : World), w.grownBy (w.setCells b o vs) (some b)
  | [], _, w => World.grownBy.refl w _
  | v :: r, o, w => by
    rw [World.setCells]
    refine World.grownBy.trans (b := w.setCell ⟨b, o, none⟩ v) ?_ (grownBy_setCells b r (o + 1) _)
    exact ⟨rfl, rfl, rfl, by simp [World.setCell], fun k _ hk => Below.heap_setCell w _ v k (fun e => hk (by rw [e]))⟩

/-- v is a slice of n elements of sz cells each, in a block of one's own (from 'base' on), all of whose cells up to the capacity are there and may be written; its elements' cells are xs. -/
def Own (w : World) (base sz : Nat) (v : Value) (n : Nat) (xs : List Value) : Prop :=
  xs.length = n * sz ∧ ((v = .slice none 0 0 ∧ n = 0) ∨
    ∃ g cap, v = .slice (some ⟨g, 0, none⟩) n cap ∧ base ≤ g ∧ g < w.heap.size ∧ n ≤ cap ∧ cap ≤ maxLen ∧ (∀ j, j < cap * sz → (w.cell? ⟨g, j, none⟩).isSome = true ∧ w.frozen? ⟨g, j, none⟩ = false) ∧
      ∀ j u, xs[j]? = some u → w.cell? ⟨g, j, none⟩ = some u)

section
variable {w w' : World} {base sz : Nat} {v : Value} {n : Nat} {xs : List Value}
theorem add0 (g j : Nat) : (⟨g, 0, none⟩ : Addr).add j = ⟨g, j, none⟩ := by unfold Addr.add; split <;> simp_all
theorem Own.nil (w : World) (base sz : Nat) : Own w base sz (.slice none 0 0) 0 [] := ⟨by simp, .inl ⟨rfl, rfl⟩⟩
theorem Own.of_row {e : TypeId} (h : w.ownsRow base e sz v n xs) : Own w base sz v n xs := by
  obtain ⟨h1, h2⟩ := h
  refine ⟨h1, ?_⟩
  rcases h2 with h2 | ⟨g, cap, cur, rfl, hb, hg, hn, hm, hs, ht⟩
  · exact .inl h2
  · refine .inr ⟨g, cap, rfl, hb, (Array.getElem?_eq_some_iff.1 hg).1, hn, hm, fun j hj => ⟨?_, frozen_of_row w g j cur e hg⟩, fun j u hu => ?_⟩
    · rw [cell_of_row w g j cur e (0, 0) hg]
      simp [hs, hj]
    · rw [cell_of_row w g j cur e (0, 0) hg]
      rw [← ht, List.getElem?_take] at hu
      split at hu
      · simpa using hu
      · cases hu
theorem Own.slice (h : Own w base sz v n xs) : ∃ A c, v = .slice A n c ∧ n ≤ c ∧ RowAt w A xs ∧ (A = none → n = 0 ∧ c = 0) := by
  rcases h.2 with ⟨rfl, rfl⟩ | ⟨g, cap, rfl, _, _, hc, _, _, hx⟩
  · exact ⟨none, 0, rfl, Nat.le_refl _, .inl (List.eq_nil_of_length_eq_zero (by simpa using h.1)), fun _ => ⟨rfl, rfl⟩⟩
  · exact ⟨_, cap, rfl, hc, .inr ⟨_, rfl, fun j u hu => by rw [add0]; exact hx j u hu⟩, fun h => by cases h⟩
theorem Own.form (h : Own w base sz v n xs) (h0 : 0 < n) : ∃ g cap, v = .slice (some ⟨g, 0, none⟩) n cap ∧ base ≤ g ∧ g < w.heap.size ∧ n ≤ cap ∧ RowAt w (some ⟨g, 0, none⟩) xs := by
  rcases h.2 with ⟨rfl, rfl⟩ | ⟨g, cap, rfl, hb, hg, hc, _, _, hx⟩
  · omega
  · exact ⟨g, cap, rfl, hb, hg, hc, .inr ⟨_, rfl, fun j u hu => by rw [add0]; exact hx j u hu⟩⟩
theorem Own.lt (h : Own w base sz v n xs) (k : Nat) (hk : v.ownBlock = some k) : base ≤ k ∧ k < w.heap.size := by
  rcases h.2 with ⟨rfl, _⟩ | ⟨g, cap, rfl, hb, hg, _⟩
  · simp [Value.ownBlock] at hk
  · have : g = k := by simpa [Value.ownBlock] using hk
    subst this
    exact ⟨hb, hg⟩
theorem Own.kept {row : Option Nat} (h : Own w base sz v n xs) (hg : w.grownBy w' row) (hne : v.ownBlock = none ∨ v.ownBlock ≠ row) : Own w' base sz v n xs := by
  obtain ⟨h1, h2⟩ := h
  refine ⟨h1, ?_⟩
  rcases h2 with h2 | ⟨g, cap, rfl, hb, hl, hn, hm, hc, hx⟩
  · exact .inl h2
  · have hne' : some g ≠ row := by simpa [Value.ownBlock] using hne
    have e : w'.heap[g]? = w.heap[g]? := hg.block g hl hne'
    refine .inr ⟨g, cap, rfl, hb, Nat.lt_of_lt_of_le hl hg.size, hn, hm, fun j hj => ?_, fun j u hu => ?_⟩
    · rw [World.cell?_of_block (w := w) (a := ⟨g, j, none⟩) e, World.frozen?_of_block (w := w) (a := ⟨g, j, none⟩) e]
      exact hc j hj
    · rw [World.cell?_of_block (w := w) (a := ⟨g, j, none⟩) e]
      exact hx j u hu
theorem Own.below (h : Own w base sz v n xs) (hb : Below w.heap.size w w') : Own w' base sz v n xs :=
  h.kept (row := none) ⟨hb.os, hb.tape, hb.output, hb.size, fun i hi _ => hb.block i hi⟩ (by cases v.ownBlock <;> simp)
theorem Own.alloc (h : Own w base sz v n xs) (o : Obj) : Own (w.alloc o) base sz v n xs := h.below ((Below.refl _ _).alloc (Nat.le_refl _) o)
theorem Own.weaken {base' : Nat} (h : Own w base sz v n xs) (hb : base' ≤ base) : Own w base' sz v n xs := by
  obtain ⟨h1, h2⟩ := h
  refine ⟨h1, ?_⟩
  rcases h2 with h2 | ⟨g, cap, rfl, hg, r⟩
  · exact .inl h2
  · exact .inr ⟨g, cap, rfl, Nat.le_trans hb hg, r⟩
/-- The first k elements, of the same capacity. -/
theorem Own.take {A : Option Addr} {c : Nat} (h : Own w base sz (.slice A n c) n xs) (k : Nat) (hk : k ≤ n) : Own w base sz (.slice A k c) k (xs.take (k * sz)) := by
  obtain ⟨h1, h2⟩ := h
  refine ⟨by rw [List.length_take, h1]; exact Nat.min_eq_left (Nat.mul_le_mul_right _ hk), ?_⟩
  rcases h2 with ⟨h2, rfl⟩ | ⟨g, cap, h2, hb, hl, hn, hm, hc, hx⟩
  · simp at h2
    obtain ⟨rfl, rfl⟩ := h2
    obtain rfl : k = 0 := by omega
    exact .inl ⟨rfl, rfl⟩
  · simp at h2
    obtain ⟨rfl, rfl⟩ := h2
    refine .inr ⟨g, c, rfl, hb, hl, by omega, hm, hc, fun j u hu => hx j u ?_⟩
    rw [List.getElem?_take] at hu
    split at hu
    · exact hu
    · cases hu
/-- A store into one cell. -/
theorem Own.set {g cap : Nat} (h : Own w base sz (.slice (some ⟨g, 0, none⟩) n cap) n xs) (j : Nat) (hj : j < xs.length) (u : Value) :
    Own (w.setCell ⟨g, j, none⟩ u) base sz (.slice (some ⟨g, 0, none⟩) n cap) n (xs.set j u) ∧ w.grownBy (w.setCell ⟨g, j, none⟩ u) (some g) := by
  obtain ⟨h1, h2⟩ := h
  have hg : w.grownBy (w.setCell ⟨g, j, none⟩ u) (some g) := ⟨rfl, rfl, rfl, by simp [World.setCell], fun k _ hk => Below.heap_setCell w _ u k (fun e => hk (by rw [e]))⟩
  refine ⟨⟨by simpa using h1, ?_⟩, hg⟩
  rcases h2 with ⟨h2, _⟩ | ⟨g', cap', h2, hb, hl, hn, hm, hc, hx⟩
  · simp at h2
  · simp at h2
    obtain ⟨rfl, rfl⟩ := h2
    have hjc : j < cap * sz := by rw [h1] at hj; exact Nat.lt_of_lt_of_le hj (Nat.mul_le_mul_right _ hn)
    have hsame : (w.setCell ⟨g, j, none⟩ u).cell? ⟨g, j, none⟩ = some u := by
      have := World.cell?_setCells_in g [u] j w (by intro i hi; simp at hi; subst hi; exact (hc j hjc).1) 0 (by simp)
      simpa [World.setCells] using this
    have hoth : ∀ i, i ≠ j → (w.setCell ⟨g, j, none⟩ u).cell? ⟨g, i, none⟩ = w.cell? ⟨g, i, none⟩ := by
      intro i hi
      have := World.cell?_setCells_out g [u] j w ⟨g, i, none⟩ (by intro _ _; simp; omega)
      simpa [World.setCells] using this
    refine .inr ⟨g, cap, rfl, hb, by simpa [World.setCell] using hl, hn, hm, fun i hi => ⟨?_, by rw [World.frozen?_setCell]; exact (hc i hi).2⟩, fun i v' hi => ?_⟩
    · by_cases e : i = j
      · subst e; rw [hsame]; rfl
      · rw [hoth i e]; exact (hc i hi).1
    · by_cases e : i = j
      · subst e
        rw [List.getElem?_set_self hj] at hi
        injection hi with hi
        rw [hsame, hi]
      · rw [List.getElem?_set_ne (Ne.symm e)] at hi
        rw [hoth i e]; exact hx i v' hi
theorem Own.cell {g cap : Nat} (h : Own w base sz (.slice (some ⟨g, 0, none⟩) n cap) n xs) {j : Nat} {u : Value} (hj : xs[j]? = some u) : w.cell? ⟨g, j, none⟩ = some u ∧ w.frozen? ⟨g, j, none⟩ = false := by
  obtain ⟨h1, h2⟩ := h
  rcases h2 with ⟨h2, _⟩ | ⟨g', cap', h2, hb, hl, hn, hm, hc, hx⟩
  · simp at h2
  · simp at h2
    obtain ⟨rfl, rfl⟩ := h2
    have hjl := (List.getElem?_eq_some_iff.1 hj).1
    rw [h1] at hjl
    exact ⟨hx j u hj, (hc j (Nat.lt_of_lt_of_le hjl (Nat.mul_le_mul_right _ hn))).2⟩
end

/-- []byte(s) is a row of one's own. -/
theorem Own.bytes (W : World) (e : TypeId) (s : ByteArray) (hs : s.size ≤ maxLen) :
    Own (Lib.bytesWorld W e s) W.heap.size 1 (.slice (some ⟨W.heap.size, 0, none⟩) s.size (grownCap W s.size 0 e)) s.size (bcells s.data.toList) := by
  refine ⟨by simp [bcells], .inr ⟨_, _, rfl, Nat.le_refl _, by rw [Lib.bytesWorld_size]; omega, grownCap_ge W _ _ _, grownCap_le_maxLen W _ _ _ hs, fun j hj => ?_, fun j u hu => ?_⟩⟩
  · have hcs : (Lib.bytesCells W e s).size = grownCap W s.size 0 e := by
      have := grownCap_ge W s.size 0 e
      simp [Lib.bytesCells]
      omega
    have hb := Lib.bytesWorld_at_new W e s
    rw [Nat.mul_one] at hj
    refine ⟨?_, ?_⟩
    · simp only [World.cell?, hb]
      simp [hcs, hj]
    · simp only [World.frozen?, hb]
      simp
      omega
  · have := bytes_row W e s
    obtain ⟨ad, he, hc⟩ := this.get hu
    simp only [Option.some.injEq] at he
    subst he
    rwa [add0] at hc

/-- append(v, x...): v a row of one's own, x any row. -/
theorem run_appO {P : Program} {t e : TypeId} {size bytes : Nat} (E : El P t e size bytes) (W : World) (base : Nat) (ty : TypeId) (v : Value) (n : Nat) (xs : List Value) (hown : Own W base size v n xs)
    (A : Option Addr) (m c : Nat) (news : List Value) (hl : news.length = m * size) (hR : RowAt W A news) (h1 : ∀ u ∈ news, u.oneCell' = true)
    (hbytes : (n + m) * bytes ≤ 140737488355328) (hbase : base ≤ W.heap.size) :
    ∃ v' w', (Builtin.append_ #[t, t] ty #[v, .slice A m c]).run P W = .ok v' w' ∧ Own w' base size v' (n + m) (xs ++ news) ∧ W.grownBy w' v.ownBlock ∧ (v'.ownBlock = v.ownBlock ∨ ∃ b, v'.ownBlock = some b ∧ W.heap.size ≤ b) := by
  rcases hown.2 with ⟨rfl, rfl⟩ | ⟨g, cap, rfl, hb, hg, hn, hm, hc, hx⟩
  · obtain rfl : xs = [] := List.eq_nil_of_length_eq_zero (by simpa using hown.1)
    obtain ⟨v', w', hr, h2, h3, h4⟩ := run_app E W base ty (.slice none 0 0) 0 [] (World.ownsRow_nil _ _ _ _) A m c news hl hR h1 hbytes hbase
    refine ⟨v', w', hr, Own.of_row h2, h3, ?_⟩
    rcases h4 with h4 | h4
    · exact .inl h4
    · exact .inr ⟨_, h4, Nat.le_refl _⟩
  · obtain ⟨ht, hsz, hb0, i, z, hi, hz, rfl, rfl, hzs⟩ := E
    have hlen : n + m ≤ 140737488355328 := Nat.le_trans (Nat.le_mul_of_pos_right _ hb0) hbytes
    rcases A with _ | ad
    · have hm0 : m = 0 := by
        rcases hR with rfl | ⟨ad, h, _⟩
        · rcases Nat.eq_zero_or_pos m with h0 | h0
          · exact h0
          · have := Nat.mul_pos h0 hsz
            simp at hl; omega
        · cases h
      subst hm0
      obtain rfl : news = [] := List.eq_nil_of_length_eq_zero (by simpa using hl)
      refine ⟨_, W, ?_, by simpa using hown, World.grownBy.refl W _, .inl rfl⟩
      simp [Builtin.append_, run_underlying ht, sizeOf, typeInfo, hi, Builtin.lenOf, Builtin.firstCells, hn, storeCells]
    · have hcells : ∀ j u, news[j]? = some u → W.cell? (ad.add j) = some u := by
        intro j u hu
        obtain ⟨ad', h, hc⟩ := hR.get hu
        injection h with h
        subst h
        exact hc
      by_cases hroom : n + m ≤ cap
      · have hin : ∀ j, j < news.length → n * i.size + j < cap * i.size := by
          intro j hj
          rw [hl] at hj
          have := Nat.mul_le_mul_right i.size hroom
          rw [Nat.add_mul] at this
          omega
        have hr := run_append_room_cells (P := P) W t ty e i ht hi g 0 n cap ad m c news hl hcells h1 hroom (fun j hj => by rw [Nat.zero_add]; exact (hc _ (hin j hj)).1) (fun j hj => by rw [Nat.zero_add]; exact (hc _ (hin j hj)).2)
        rw [Nat.zero_add] at hr
        refine ⟨_, _, hr, ⟨by rw [List.length_append, hown.1, hl, Nat.add_mul], .inr ⟨g, cap, rfl, hb, Nat.lt_of_lt_of_le hg (grownBy_setCells g _ _ W).size, hroom, hm, fun j hj => ?_, fun j u hu => ?_⟩⟩, grownBy_setCells g _ _ W, .inl rfl⟩
        · refine ⟨?_, by rw [World.frozen?_setCells]; exact (hc j hj).2⟩
          by_cases hjn : n * i.size ≤ j ∧ j < n * i.size + news.length
          · have := World.cell?_setCells_in g news (n * i.size) W (fun k hk => (hc _ (hin k hk)).1) (j - n * i.size) (by omega)
            rw [show n * i.size + (j - n * i.size) = j by omega] at this
            rw [this]; rfl
          · rw [World.cell?_setCells_out g news _ W ⟨g, j, none⟩ (by intro _ _; simp only; omega)]
            exact (hc j hj).1
        · have hxl : xs.length = n * i.size := hown.1
          rcases Nat.lt_or_ge j xs.length with hj | hj
          · rw [List.getElem?_append_left hj] at hu
            rw [World.cell?_setCells_out g news _ W ⟨g, j, none⟩ (by intro _ _; simp only; omega)]
            exact hx j u hu
          · rw [List.getElem?_append_right hj] at hu
            have hjl := (List.getElem?_eq_some_iff.1 hu).1
            have := World.cell?_setCells_in g news (n * i.size) W (fun k hk => (hc _ (hin k hk)).1) (j - xs.length) hjl
            rw [show n * i.size + (j - xs.length) = j by omega] at this
            rw [this, ← hu, List.getElem?_eq_getElem hjl]
      · obtain ⟨v', w', hr, h2, h3⟩ := run_append_arg_grows (P := P) W t ty e i z i.size i.bytes ht hi hz rfl rfl hzs hsz ⟨g, 0, none⟩ n cap xs hown.1 (fun j u hu => by rw [add0]; exact hx j u hu) ad m c news hl hcells (by omega) (by simp only [maxLen]; omega) hbytes
        have hO := Own.of_row h2
        have hnm : 0 < n + m := by omega
        obtain ⟨g', cap', rfl, hb', _⟩ := hO.form hnm
        exact ⟨_, w', hr, hO.weaken hbase, ⟨h3.os, h3.tape, h3.output, h3.size, fun k hk _ => h3.block k hk (by simp)⟩, .inr ⟨g', rfl, hb'⟩⟩

section
variable {P : Program} {ops : Array Oper} {rest : List Oper} {o : Oper} {a : Act} {Q : Exit → Act → World → Prop}
/-- The same as a step of the walk, behind 'at_builtin'. -/
theorem appO {t e : TypeId} {size bytes : Nat} (E : El P t e size bytes) {W : World} (base : Nat) (hgd : o.guard = none) (s x : Operand)
    (ho : o.op = .call { callee := .builtin .append, args := #[s, x], argTypes := #[t, t] })
    {v : Value} {n : Nat} {xs : List Value} (hs : a.eval s = v) (hown : Own W base size v n xs)
    {A : Option Addr} {m c : Nat} {news : List Value} (hx : a.eval x = .slice A m c) (hl : news.length = m * size) (hR : RowAt W A news) (h1 : ∀ u ∈ news, u.oneCell' = true)
    (hbytes : (n + m) * bytes ≤ 140737488355328) (hbase : base ≤ W.heap.size)
    (h : ∀ v' w', Own w' base size v' (n + m) (xs ++ news) → W.grownBy w' v.ownBlock → (v'.ownBlock = v.ownBlock ∨ ∃ b, v'.ownBlock = some b ∧ W.heap.size ≤ b) → wpList P ops Q rest (a.put o.dst v') w') :
    wpList P ops Q (o :: rest) a W := by
  obtain ⟨v', w', hr, h2, h3, h4⟩ := run_appO E W base o.type v n xs hown A m c news hl hR h1 hbytes hbase
  refine wpList_plain hgd fun K hK => ?_
  unfold Oper.wp execOp
  simp only [ho, resolve, invoke, builtin, Sem.run_bind, Sem.run_pure, Result.andThen_ok, List.map_toArray, List.map_cons, List.map_nil, hs, hx, hr]
  exact hK _ _ (h v' w' h2 h3 h4)
end
theorem Own.grown_below {w w1 w2 : World} {base sz n : Nat} {v : Value} {xs : List Value} (h : Own w1 base sz v n xs) (hb : Below w.heap.size w w1) (hg : w1.grownBy w2 v.ownBlock) (hbase : w.heap.size ≤ base) : Below w.heap.size w w2 :=
  hb.grown hg hb.size fun k hk => Nat.le_trans hbase (h.lt k hk).1
end Go.Proofs.Ytbnkmndgfmmiaaa
