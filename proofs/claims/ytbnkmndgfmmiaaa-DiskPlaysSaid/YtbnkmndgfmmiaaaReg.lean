/- Words for regions that draw their order, and for rows behind what a call changed (of no one seat's functions). -/
import Derived.Test.YtbnkmndgfmmiaaaOwn2
import Derived.Test.YtbnkmndgfmmiaaaTouch
import Derived.Deep.OwnRows
import Derived.Deep.MidRow
import Derived.Deep.RegionLaw
import Derived.Deep.RegionHeld3
namespace Go.Proofs.Ytbnkmndgfmmiaaa
open Go.RowKit
set_option linter.unusedVariables false

theorem Own.fresh (w : World) (cs : Array Value) (t : TypeId) (hc : cs.size ≤ maxLen) : Own (w.alloc (.cells cs t)) w.heap.size 1 (.slice (some ⟨w.heap.size, 0, none⟩) cs.size cs.size) cs.size cs.toList := by
  have hb : (w.alloc (.cells cs t)).heap[w.heap.size]? = some (.cells cs t (0, 0)) := heap_alloc_new w _
  refine ⟨by simp, .inr ⟨_, _, rfl, Nat.le_refl _, by simp, Nat.le_refl _, hc, fun j hj => ⟨?_, frozen_of_row _ _ j cs t hb⟩, fun j u hu => ?_⟩⟩
  · rw [cell_of_row _ _ j cs t (0, 0) hb]
    simpa using hj
  · rw [cell_of_row _ _ j cs t (0, 0) hb]
    simpa using hu
theorem Own.drew {w : World} {base sz n : Nat} {v : Value} {xs : List Value} (h : Own w base sz v n xs) : Own w.drew base sz v n xs := h
theorem Own.drewN {w : World} {base sz n : Nat} {v : Value} {xs : List Value} (h : Own w base sz v n xs) (k : Nat) : Own (w.drewN k) base sz v n xs := h

/-- An append as a step of a region that draws its order. -/
theorem step_appO {P : Program} {ops : Array Oper} {o : Oper} {a : Act} {K : Act → World → Prop} {Q : Exit → Act → World → Prop} {E' : Prop} {t e : TypeId} {size bytes : Nat} (E : El P t e size bytes) {W : World} (base : Nat) (hgd : o.guard = none) (s x : Operand)
    (ho : o.op = .call { callee := .builtin .append, args := #[s, x], argTypes := #[t, t] })
    {v : Value} {n : Nat} {xs : List Value} (hs : a.eval s = v) (hown : Own W base size v n xs)
    {A : Option Addr} {m c : Nat} {news : List Value} (hx : a.eval x = .slice A m c) (hl : news.length = m * size) (hR : RowAt W A news) (h1 : ∀ u ∈ news, u.oneCell' = true)
    (hbytes : (n + m) * bytes ≤ 140737488355328) (hbase : base ≤ W.heap.size)
    (h : ∀ v' w', Own w' base size v' (n + m) (xs ++ news) → W.grownBy w' v.ownBlock → (v'.ownBlock = v.ownBlock ∨ ∃ b, v'.ownBlock = some b ∧ W.heap.size ≤ b) → K (a.put o.dst v') w') :
    if Region.wanted o (yielded ops a.tmps) = true then Oper.wp P o a W K Q else E' := by
  have hw : Region.wanted o (yielded ops a.tmps) = true := by simp [Region.wanted, hgd]
  rw [if_pos hw]
  obtain ⟨v', w', hr, h2, h3, h4⟩ := run_appO E W base o.type v n xs hown A m c news hl hR h1 hbytes hbase
  unfold Oper.wp execOp
  simp only [ho, resolve, invoke, builtin, Sem.run_bind, Sem.run_pure, Result.andThen_ok, List.map_toArray, List.map_cons, List.map_nil, hs, hx, hr]
  exact h v' w' h2 h3 h4

theorem rowAt_alloc_k (w : World) (cs : List Value) (t : TypeId) {k : Nat} (hk : k = w.heap.size) : RowAt (w.alloc (.cells cs.toArray t)) (some ⟨k, 0, none⟩) cs := by
  subst hk
  exact rowAt_alloc w cs t
theorem bel_alloc {w W : World} (h : Below w.heap.size w W) (o : Obj) : Below w.heap.size w (W.alloc o) := h.alloc h.size o
theorem bel_drew {w W : World} (h : Below w.heap.size w W) : Below w.heap.size w W.drew := ⟨h.os, h.tape, h.output, h.size, h.block⟩
theorem bel_calls {w W w' : World} (h : Below w.heap.size w W) (k : Below W.heap.size W w') : Below w.heap.size w w' := below_trans' h k
theorem row_drew {w : World} {A : Option Addr} {cs : List Value} (h : RowAt w A cs) : RowAt w.drew A cs := h
theorem grown_nil {W w' : World} {n c : Nat} (h : W.grownBy w' (Value.slice none n c).ownBlock) : Below W.heap.size W w' := ⟨h.os, h.tape, h.output, h.size, fun k hk => h.block k hk (by simp [Value.ownBlock])⟩
theorem row_touched {w w' : World} {A : Option Addr} {xs : List Value} {bs : List Nat} (h : RowAt w A xs) (hT : Touched w w' bs) (hA : A = none ∨ ∃ g, A = some ⟨g, 0, none⟩ ∧ g ∉ bs) : RowAt w' A xs := by
  rcases hA with rfl | ⟨g, rfl, hg⟩
  · rcases h with h | ⟨ad, e, _⟩
    · exact .inl h
    · cases e
  · rcases h with h | ⟨ad, e, hc⟩
    · exact .inl h
    · refine .inr ⟨ad, e, fun j u hu => ?_⟩
      injection e with e
      subst e
      have := hc j u hu
      rw [add0] at this ⊢
      exact (hT.cell (World.block_lt_of_cell? w _ this) hg).trans this

end Go.Proofs.Ytbnkmndgfmmiaaa
