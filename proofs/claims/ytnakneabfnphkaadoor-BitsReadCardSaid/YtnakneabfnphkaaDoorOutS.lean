/- bits.Out: what it holds, with its error; Raw. -/
import Derived.Test.YtnakneabfnphkaaDoorNumP
import Derived.Test.YtnakneabfnphkaaDoorStrWhere
import Derived.Deep.RegionHeldLaw
import Derived.Deep.RegionLaw
namespace Go.Proofs.YtnakneabfnphkaaDoor
open Go.RowKit

theorem el_u8 : El Tryd.prog 26 5 1 1 := El.mk' Tryd.underlying26 (z := .int .u8 0) (by kernel_rfl) (by decide)
theorem u8_info : ∃ i, Tryd.prog.info? 5 = some i ∧ i.zero = some (.int .u8 0) ∧ i.size = 1 ∧ i.bytes = 1 := by
  have h : (Tryd.prog.info? 5).map (fun i => (i.zero, i.size, i.bytes)) = some (some (.int .u8 0), 1, 1) := by kernel_rfl
  obtain ⟨i, h1, h2⟩ := Option.map_eq_some_iff.1 h
  injection h2 with e1 e2
  injection e2 with e2 e3
  exact ⟨i, h1, e1, e2, e3⟩

/-- An append as a step of a region that draws its order (rows of the library). -/
theorem step_appR {P : Program} {ops : Array Oper} {o : Oper} {a : Act} {K : Act → World → Prop} {Q : Exit → Act → World → Prop} {E' : Prop} {t e : TypeId} {size bytes : Nat} (E : El P t e size bytes) {W : World} (base : Nat) (hgd : o.guard = none) (s x : Operand)
    (ho : o.op = .call { callee := .builtin .append, args := #[s, x], argTypes := #[t, t] })
    {v : Value} {n : Nat} {xs : List Value} (hs : a.eval s = v) (hown : W.ownsRow base e size v n xs)
    {A : Option Addr} {m c : Nat} {news : List Value} (hx : a.eval x = .slice A m c) (hl : news.length = m * size) (hR : RowAt W A news) (h1 : ∀ u ∈ news, u.oneCell' = true)
    (hbytes : (n + m) * bytes ≤ 140737488355328) (hbase : base ≤ W.heap.size)
    (h : ∀ v' w', w'.ownsRow base e size v' (n + m) (xs ++ news) → W.grownBy w' v.ownBlock → (v'.ownBlock = v.ownBlock ∨ v'.ownBlock = some W.heap.size) → K (a.put o.dst v') w') :
    if Region.wanted o (yielded ops a.tmps) = true then Oper.wp P o a W K Q else E' := by
  have hw : Region.wanted o (yielded ops a.tmps) = true := by simp [Region.wanted, hgd]
  rw [if_pos hw]
  obtain ⟨v', w', hr, h2, h3, h4⟩ := run_app E W base o.type v n xs hown A m c news hl hR h1 hbytes hbase
  unfold Oper.wp execOp
  simp only [ho, resolve, invoke, builtin, Sem.run_bind, Sem.run_pure, Result.andThen_ok, List.map_toArray, List.map_cons, List.map_nil, hs, hx, hr]
  exact h v' w' h2 h3 h4
theorem low_byte (x n : Nat) : ((x : Int) / 2 ^ (8 * n)) % 256 = ((UInt8.ofNat (x / 256 ^ n)).toNat : Int) := by
  have e : (2 : Int) ^ (8 * n) = ((256 ^ n : Nat) : Int) := by
    rw [Int.pow_mul]; simp
  rw [e, UInt8.toNat_ofNat']
  simp

/-- An Out at a block: its error, its bytes. -/
structure OutS (w : World) (g : Nat) (v : Value) (e : Int) (l : List UInt8) : Prop where
  own : w.ownsRow (g + 1) 5 1 v l.length (bcells l)
  c0 : w.cell? ⟨g, 0, none⟩ = some v
  c1 : w.cell? ⟨g, 1, none⟩ = some (.int .i64 e)
  f0 : w.frozen? ⟨g, 0, none⟩ = false
  f1 : w.frozen? ⟨g, 1, none⟩ = false
section
variable {w w1 : World} {g : Nat} {v v1 : Value} {e : Int} {l m : List UInt8}
theorem OutS.lt (h : OutS w g v e l) : g < w.heap.size := World.block_lt_of_cell? w _ h.c0
theorem OutS.vlt (h : OutS w g v e l) {b : Nat} (hb : v.ownBlock = some b) : b < w.heap.size := (h.own.lt b hb).2
theorem OutS.apart (h : OutS w g v e l) : g ∉ v.ownBlock.toList := by
  intro hm
  have := (h.own.lt g (by simpa using hm)).1
  omega
theorem row_kept' {w w' : World} {base sz n : Nat} {t : TypeId} {v : Value} {xs : List Value} {bs : List Nat} (hT : Touched w w' bs) (h : w.ownsRow base t sz v n xs) (hv : ∀ b, v.ownBlock = some b → b ∉ bs) : w'.ownsRow base t sz v n xs := by
  obtain ⟨h1, h2⟩ := h
  refine ⟨h1, ?_⟩
  rcases h2 with h2 | ⟨g, cap, cur, rfl, hb, hg, r⟩
  · exact .inl h2
  · exact .inr ⟨g, cap, cur, rfl, hb, (hT.block g (Array.getElem?_eq_some_iff.1 hg).1 (hv g (by simp [Value.ownBlock]))).trans hg, r⟩
theorem OutS.touched {bs : List Nat} (h : OutS w g v e l) (hT : Touched w w1 bs) (h1 : g ∉ bs) (h2 : ∀ b, v.ownBlock = some b → b ∉ bs) : OutS w1 g v e l :=
  ⟨row_kept' hT h.own h2, (hT.cell h.lt h1).trans h.c0, (hT.cell h.lt h1).trans h.c1, (hT.free h.lt h1).trans h.f0, (hT.free h.lt h1).trans h.f1⟩
theorem OutS.below (h : OutS w g v e l) (hb : Below w.heap.size w w1) : OutS w1 g v e l := h.touched (Touched.of_below hb []) (by simp) (by simp)
theorem OutS.drew (h : OutS w g v e l) : OutS w.drew g v e l := ⟨h.own.drew, h.c0, h.c1, h.f0, h.f1⟩
theorem OutS.drewN (h : OutS w g v e l) (n : Nat) : OutS (w.drewN n) g v e l := h.below (below_drewN (Below.refl _ _) n)
theorem OutS.grownT (h : OutS w g v e l) (ho : w1.ownsRow (g + 1) 5 1 v1 m.length (bcells m)) (hT : Touched w w1 v.ownBlock.toList) :
    OutS (w1.setCell ⟨g, 0, none⟩ v1) g v1 e m := by
  have hc0 : w1.cell? ⟨g, 0, none⟩ = some v := (hT.cell h.lt h.apart).trans h.c0
  have hc1 : w1.cell? ⟨g, 1, none⟩ = some (.int .i64 e) := (hT.cell h.lt h.apart).trans h.c1
  have hf0 : w1.frozen? ⟨g, 0, none⟩ = false := (hT.free h.lt h.apart).trans h.f0
  have hf1 : w1.frozen? ⟨g, 1, none⟩ = false := (hT.free h.lt h.apart).trans h.f1
  refine ⟨ownsRow_setCell_below ho (by simp) _, ?_, ?_, ?_, ?_⟩
  · exact World.cell?_setCell_same' w1 _ _ (by rw [hc0]; simp)
  · exact (World.cell?_setCell_other w1 ⟨g, 0, none⟩ ⟨g, 1, none⟩ _ (by simp)).trans hc1
  · rw [World.frozen?_setCell]; exact hf0
  · rw [World.frozen?_setCell]; exact hf1
theorem OutS.grown (h : OutS w g v e l) (ho : w1.ownsRow (g + 1) 5 1 v1 m.length (bcells m)) (hg : w.grownBy w1 v.ownBlock) : OutS (w1.setCell ⟨g, 0, none⟩ v1) g v1 e m := h.grownT ho (Touched.of_grown hg)
theorem OutS.fail (h : OutS w g v e l) (x : Int) : OutS (w.setCell ⟨g, 1, none⟩ (.int .i64 x)) g v x l := by
  refine ⟨ownsRow_setCell_below h.own (by simp) _, ?_, ?_, ?_, ?_⟩
  · exact (World.cell?_setCell_other w ⟨g, 1, none⟩ ⟨g, 0, none⟩ _ (by simp)).trans h.c0
  · exact World.cell?_setCell_same' w _ _ (by rw [h.c1]; simp)
  · rw [World.frozen?_setCell]; exact h.f0
  · rw [World.frozen?_setCell]; exact h.f1
end
/-- An Out that a call has changed. -/
structure OutTo (w w' : World) (g : Nat) (v : Value) (d : Int × List UInt8) : Prop where
  ex : ∃ v', OutS w' g v' d.1 d.2 ∧ ∀ b, v'.ownBlock = some b → v.ownBlock = some b ∨ w.heap.size ≤ b
  touched : Touched w w' (g :: v.ownBlock.toList)
theorem OutTo.refl {w : World} {g : Nat} {v : Value} {e : Int} {l : List UInt8} (h : OutS w g v e l) : OutTo w w g v (e, l) := ⟨⟨v, h, fun b hb => .inl hb⟩, Touched.refl _ _⟩
theorem OutTo.fail {w : World} {g : Nat} {v : Value} {e : Int} {l : List UInt8} (h : OutS w g v e l) (x : Int) : OutTo w (w.setCell ⟨g, 1, none⟩ (.int .i64 x)) g v (x, l) :=
  ⟨⟨v, h.fail x, fun b hb => .inl hb⟩, (Touched.refl _ _).setCell (.inl (by simp)) _⟩
theorem OutTo.trans {w w1 w2 : World} {g : Nat} {v v1 : Value} {d : Int × List UInt8} (hT : Touched w w1 (g :: v.ownBlock.toList)) (hV : ∀ b, v1.ownBlock = some b → v.ownBlock = some b ∨ w.heap.size ≤ b) (h : OutTo w1 w2 g v1 d) : OutTo w w2 g v d := by
  obtain ⟨⟨v', h1, h2⟩, h3⟩ := h
  refine ⟨⟨v', h1, fun b hb => ?_⟩, hT.trans' h3 ?_⟩
  · rcases h2 b hb with h | h
    · exact hV b h
    · exact .inr (Nat.le_trans hT.size h)
  · intro j hj
    rcases List.mem_cons.1 hj with rfl | hj
    · exact .inl (by simp)
    · rcases hV j (by simpa using hj) with h | h
      · exact .inl (by simp [h])
      · exact .inr h

def rawO (d : Int × List UInt8) (ts : List ByteArray) : Int × List UInt8 := if d.1 ≠ 0 then d else (0, d.2 ++ (joinB ts).data.toList)
end Go.Proofs.YtnakneabfnphkaaDoor
