/- append onto a row of the call's own: that the old cells stay where they were is told too. -/
import Derived.Test.YtbnkmndgfmmiaaaOwn
import Derived.RegionTactic
namespace Go.Proofs.Ytbnkmndgfmmiaaa
open Go.RowKit
set_option linter.unusedVariables false

/-- A fact that no tactic looks into. -/
structure Box (p : Prop) : Prop where
  out : p

theorem row_cell {w : World} {g j : Nat} {xs : List Value} {u : Value} (h : RowAt w (some ⟨g, 0, none⟩) xs) (hj : xs[j]? = some u) : w.cell? ⟨g, j, none⟩ = some u := by
  obtain ⟨ad, e, hc⟩ := h.get hj
  injection e with e
  subst e
  rwa [add0] at hc
/-- append(v, x...): v a row of one's own, x any row. -/
theorem run_appO2 {P : Program} {t e : TypeId} {size bytes : Nat} (E : El P t e size bytes) (W : World) (base : Nat) (ty : TypeId) (v : Value) (n : Nat) (xs : List Value) (hown : Own W base size v n xs)
    (A : Option Addr) (m c : Nat) (news : List Value) (hl : news.length = m * size) (hR : RowAt W A news) (h1 : ∀ u ∈ news, u.oneCell' = true)
    (hbytes : (n + m) * bytes ≤ 140737488355328) (hbase : base ≤ W.heap.size) :
    ∃ v' w', (Builtin.append_ #[t, t] ty #[v, .slice A m c]).run P W = .ok v' w' ∧ Own w' base size v' (n + m) (xs ++ news) ∧ W.grownBy w' v.ownBlock ∧ (v'.ownBlock = v.ownBlock ∨ ∃ b, v'.ownBlock = some b ∧ W.heap.size ≤ b) ∧ (∀ A c, v = .slice A n c → RowAt w' A xs) ∧ (v'.ownBlock ≠ v.ownBlock → Below W.heap.size W w') := by
  rcases hown.2 with ⟨rfl, rfl⟩ | ⟨g, cap, rfl, hb, hg, hn, hm, hc, hx⟩
  · obtain rfl : xs = [] := List.eq_nil_of_length_eq_zero (by simpa using hown.1)
    obtain ⟨v', w', hr, h2, h3, h4⟩ := run_app E W base ty (.slice none 0 0) 0 [] (World.ownsRow_nil _ _ _ _) A m c news hl hR h1 hbytes hbase
    refine ⟨v', w', hr, Own.of_row h2, h3, ?_, fun _ _ _ => .nil _ _, fun _ => ⟨h3.os, h3.tape, h3.output, h3.size, fun k hk => h3.block k hk (by simp [Value.ownBlock])⟩⟩
    rcases h4 with h4 | h4
    · exact .inl h4
    · exact .inr ⟨_, h4, Nat.le_refl _⟩
  · obtain ⟨ht, hsz, hb0, i, z, hi, hz, rfl, rfl, hzs⟩ := E
    have hlen : n + m ≤ 140737488355328 := Nat.le_trans (Nat.le_mul_of_pos_right _ hb0) hbytes
    rcases A with _ | ad
    · have hm0 : m = 0 := by
        rcases hR with rfl | ⟨ad, h, _⟩
        · rcases Nat.eq_zero_or_pos m with h0 | h0
          · exact h0
          · have := Nat.mul_pos h0 hsz
            simp at hl; omega
        · cases h
      subst hm0
      obtain rfl : news = [] := List.eq_nil_of_length_eq_zero (by simpa using hl)
      refine ⟨_, W, ?_, by simpa using hown, World.grownBy.refl W _, .inl rfl, fun A c he => ?_, fun _ => Below.refl _ _⟩
      rotate_left
      · obtain ⟨A', c', e', _, hr', _⟩ := hown.slice
        rw [he] at e'
        injection e' with e1 e2 e3
        subst e1
        exact hr'
      simp [Builtin.append_, run_underlying ht, sizeOf, typeInfo, hi, Builtin.lenOf, Builtin.firstCells, hn, storeCells]
    · have hcells : ∀ j u, news[j]? = some u → W.cell? (ad.add j) = some u := by
        intro j u hu
        obtain ⟨ad', h, hc⟩ := hR.get hu
        injection h with h
        subst h
        exact hc
      by_cases hroom : n + m ≤ cap
      · have hin : ∀ j, j < news.length → n * i.size + j < cap * i.size := by
          intro j hj
          rw [hl] at hj
          have := Nat.mul_le_mul_right i.size hroom
          rw [Nat.add_mul] at this
          omega
        have hr := run_append_room_cells (P := P) W t ty e i ht hi g 0 n cap ad m c news hl hcells h1 hroom (fun j hj => by rw [Nat.zero_add]; exact (hc _ (hin j hj)).1) (fun j hj => by rw [Nat.zero_add]; exact (hc _ (hin j hj)).2)
        rw [Nat.zero_add] at hr
        refine ⟨_, _, hr, ⟨by rw [List.length_append, hown.1, hl, Nat.add_mul], .inr ⟨g, cap, rfl, hb, Nat.lt_of_lt_of_le hg (grownBy_setCells g _ _ W).size, hroom, hm, fun j hj => ?_, fun j u hu => ?_⟩⟩, grownBy_setCells g _ _ W, .inl rfl, fun A' c' he => ?_, fun h => absurd rfl h⟩
        rotate_right
        · injection he with e1 e2 e3
          subst e1
          refine .inr ⟨_, rfl, fun j u hu => ?_⟩
          rw [add0, World.cell?_setCells_out g news _ W ⟨g, j, none⟩ (by intro _ _; have := (List.getElem?_eq_some_iff.1 hu).1; rw [hown.1] at this; simp only; omega)]
          exact hx j u hu
        · refine ⟨?_, by rw [World.frozen?_setCells]; exact (hc j hj).2⟩
          by_cases hjn : n * i.size ≤ j ∧ j < n * i.size + news.length
          · have := World.cell?_setCells_in g news (n * i.size) W (fun k hk => (hc _ (hin k hk)).1) (j - n * i.size) (by omega)
            rw [show n * i.size + (j - n * i.size) = j by omega] at this
            rw [this]; rfl
          · rw [World.cell?_setCells_out g news _ W ⟨g, j, none⟩ (by intro _ _; simp only; omega)]
            exact (hc j hj).1
        · have hxl : xs.length = n * i.size := hown.1
          rcases Nat.lt_or_ge j xs.length with hj | hj
          · rw [List.getElem?_append_left hj] at hu
            rw [World.cell?_setCells_out g news _ W ⟨g, j, none⟩ (by intro _ _; simp only; omega)]
            exact hx j u hu
          · rw [List.getElem?_append_right hj] at hu
            have hjl := (List.getElem?_eq_some_iff.1 hu).1
            have := World.cell?_setCells_in g news (n * i.size) W (fun k hk => (hc _ (hin k hk)).1) (j - xs.length) hjl
            rw [show n * i.size + (j - xs.length) = j by omega] at this
            rw [this, ← hu, List.getElem?_eq_getElem hjl]
      · obtain ⟨v', w', hr, h2, h3⟩ := run_append_arg_grows (P := P) W t ty e i z i.size i.bytes ht hi hz rfl rfl hzs hsz ⟨g, 0, none⟩ n cap xs hown.1 (fun j u hu => by rw [add0]; exact hx j u hu) ad m c news hl hcells (by omega) (by simp only [maxLen]; omega) hbytes
        have hO := Own.of_row h2
        have hnm : 0 < n + m := by omega
        obtain ⟨g', cap', rfl, hb', _⟩ := hO.form hnm
        have hbl : Below W.heap.size W w' := ⟨h3.os, h3.tape, h3.output, h3.size, fun k hk => h3.block k hk (by simp)⟩
        refine ⟨_, w', hr, hO.weaken hbase, ⟨h3.os, h3.tape, h3.output, h3.size, fun k hk _ => h3.block k hk (by simp)⟩, .inr ⟨g', rfl, hb'⟩, fun A' c' he => ?_, fun _ => hbl⟩
        injection he with e1 e2 e3
        subst e1
        exact .inr ⟨_, rfl, fun j u hu => by rw [add0]; exact cell_kept hbl (Nat.le_refl _) (hx j u hu)⟩

section
variable {P : Program} {ops : Array Oper} {rest : List Oper} {o : Oper} {a : Act} {Q : Exit → Act → World → Prop}
/-- The same as a step of the walk, behind 'at_builtin'. -/
theorem appO2 {t e : TypeId} {size bytes : Nat} (E : El P t e size bytes) {W : World} (base : Nat) (hgd : o.guard = none) (s x : Operand)
    (ho : o.op = .call { callee := .builtin .append, args := #[s, x], argTypes := #[t, t] })
    {v : Value} {n : Nat} {xs : List Value} (hs : a.eval s = v) (hown : Own W base size v n xs)
    {A : Option Addr} {m c : Nat} {news : List Value} (hx : a.eval x = .slice A m c) (hl : news.length = m * size) (hR : RowAt W A news) (h1 : ∀ u ∈ news, u.oneCell' = true)
    (hbytes : (n + m) * bytes ≤ 140737488355328) (hbase : base ≤ W.heap.size)
    (h : ∀ v' w', Own w' base size v' (n + m) (xs ++ news) → W.grownBy w' v.ownBlock → (v'.ownBlock = v.ownBlock ∨ ∃ b, v'.ownBlock = some b ∧ W.heap.size ≤ b) → (∀ A c, v = .slice A n c → RowAt w' A xs) → (v'.ownBlock ≠ v.ownBlock → Below W.heap.size W w') → wpList P ops Q rest (a.put o.dst v') w') :
    wpList P ops Q (o :: rest) a W := by
  obtain ⟨v', w', hr, h2, h3, h4, h5, h6⟩ := run_appO2 E W base o.type v n xs hown A m c news hl hR h1 hbytes hbase
  refine wpList_plain hgd fun K hK => ?_
  unfold Oper.wp execOp
  simp only [ho, resolve, invoke, builtin, Sem.run_bind, Sem.run_pure, Result.andThen_ok, List.map_toArray, List.map_cons, List.map_nil, hs, hx, hr]
  exact hK _ _ (h v' w' h2 h3 h4 h5 h6)
end
/-- An append as a step of a region that draws its order. -/
theorem step_appO2 {P : Program} {ops : Array Oper} {o : Oper} {a : Act} {K : Act → World → Prop} {Q : Exit → Act → World → Prop} {E' : Prop} {t e : TypeId} {size bytes : Nat} (E : El P t e size bytes) {W : World} (base : Nat) (hgd : o.guard = none) (s x : Operand)
    (ho : o.op = .call { callee := .builtin .append, args := #[s, x], argTypes := #[t, t] })
    {v : Value} {n : Nat} {xs : List Value} (hs : a.eval s = v) (hown : Own W base size v n xs)
    {A : Option Addr} {m c : Nat} {news : List Value} (hx : a.eval x = .slice A m c) (hl : news.length = m * size) (hR : RowAt W A news) (h1 : ∀ u ∈ news, u.oneCell' = true)
    (hbytes : (n + m) * bytes ≤ 140737488355328) (hbase : base ≤ W.heap.size)
    (h : ∀ v' w', Own w' base size v' (n + m) (xs ++ news) → W.grownBy w' v.ownBlock → (v'.ownBlock = v.ownBlock ∨ ∃ b, v'.ownBlock = some b ∧ W.heap.size ≤ b) → (∀ A c, v = .slice A n c → RowAt w' A xs) → (v'.ownBlock ≠ v.ownBlock → Below W.heap.size W w') → K (a.put o.dst v') w') :
    if Region.wanted o (yielded ops a.tmps) = true then Oper.wp P o a W K Q else E' := by
  have hw : Region.wanted o (yielded ops a.tmps) = true := by simp [Region.wanted, hgd]
  rw [if_pos hw]
  obtain ⟨v', w', hr, h2, h3, h4, h5, h6⟩ := run_appO2 E W base o.type v n xs hown A m c news hl hR h1 hbytes hbase
  unfold Oper.wp execOp
  simp only [ho, resolve, invoke, builtin, Sem.run_bind, Sem.run_pure, Result.andThen_ok, List.map_toArray, List.map_cons, List.map_nil, hs, hx, hr]
  exact h v' w' h2 h3 h4 h5 h6
end Go.Proofs.Ytbnkmndgfmmiaaa
