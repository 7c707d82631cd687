/- Words and contracts that this claim leans on, one text behind the other. -/
import Derived.Test.YtninoogbkaeihaaDoorBundle1
import Derived.Deep.OwnRows
import Derived.Deep.MidRow
import Derived.Deep.RegionLaw
import Derived.Deep.RegionHeld3
import Derived.Test.YtninoogbkaeihaaDoorOutLay
import Derived.Test.YtninoogbkaeihaaDoorShelf
import Derived.Laws.BitsAllLaws
/- Words for regions that draw their order, and for rows behind what a call changed (of no one seat's functions). -/
namespace Go.Proofs.YtninoogbkaeihaaDoor
open Go.RowKit
set_option linter.unusedVariables false

theorem Own.fresh (w : World) (cs : Array Value) (t : TypeId) (hc : cs.size ≤ maxLen) : Own (w.alloc (.cells cs t)) w.heap.size 1 (.slice (some ⟨w.heap.size, 0, none⟩) cs.size cs.size) cs.size cs.toList := by
  have hb : (w.alloc (.cells cs t)).heap[w.heap.size]? = some (.cells cs t (0, 0)) := heap_alloc_new w _
  refine ⟨by simp, .inr ⟨_, _, rfl, Nat.le_refl _, by simp, Nat.le_refl _, hc, fun j hj => ⟨?_, frozen_of_row _ _ j cs t hb⟩, fun j u hu => ?_⟩⟩
  · rw [cell_of_row _ _ j cs t (0, 0) hb]
    simpa using hj
  · rw [cell_of_row _ _ j cs t (0, 0) hb]
    simpa using hu
theorem Own.drew {w : World} {base sz n : Nat} {v : Value} {xs : List Value} (h : Own w base sz v n xs) : Own w.drew base sz v n xs := h
theorem Own.drewN {w : World} {base sz n : Nat} {v : Value} {xs : List Value} (h : Own w base sz v n xs) (k : Nat) : Own (w.drewN k) base sz v n xs := h

/-- An append as a step of a region that draws its order. -/
theorem step_appO {P : Program} {ops : Array Oper} {o : Oper} {a : Act} {K : Act → World → Prop} {Q : Exit → Act → World → Prop} {E' : Prop} {t e : TypeId} {size bytes : Nat} (E : El P t e size bytes) {W : World} (base : Nat) (hgd : o.guard = none) (s x : Operand)
    (ho : o.op = .call { callee := .builtin .append, args := #[s, x], argTypes := #[t, t] })
    {v : Value} {n : Nat} {xs : List Value} (hs : a.eval s = v) (hown : Own W base size v n xs)
    {A : Option Addr} {m c : Nat} {news : List Value} (hx : a.eval x = .slice A m c) (hl : news.length = m * size) (hR : RowAt W A news) (h1 : ∀ u ∈ news, u.oneCell' = true)
    (hbytes : (n + m) * bytes ≤ 140737488355328) (hbase : base ≤ W.heap.size)
    (h : ∀ v' w', Own w' base size v' (n + m) (xs ++ news) → W.grownBy w' v.ownBlock → (v'.ownBlock = v.ownBlock ∨ ∃ b, v'.ownBlock = some b ∧ W.heap.size ≤ b) → K (a.put o.dst v') w') :
    if Region.wanted o (yielded ops a.tmps) = true then Oper.wp P o a W K Q else E' := by
  have hw : Region.wanted o (yielded ops a.tmps) = true := by simp [Region.wanted, hgd]
  rw [if_pos hw]
  obtain ⟨v', w', hr, h2, h3, h4⟩ := run_appO E W base o.type v n xs hown A m c news hl hR h1 hbytes hbase
  unfold Oper.wp execOp
  simp only [ho, resolve, invoke, builtin, Sem.run_bind, Sem.run_pure, Result.andThen_ok, List.map_toArray, List.map_cons, List.map_nil, hs, hx, hr]
  exact h v' w' h2 h3 h4

theorem rowAt_alloc_k (w : World) (cs : List Value) (t : TypeId) {k : Nat} (hk : k = w.heap.size) : RowAt (w.alloc (.cells cs.toArray t)) (some ⟨k, 0, none⟩) cs := by
  subst hk
  exact rowAt_alloc w cs t
theorem bel_alloc {w W : World} (h : Below w.heap.size w W) (o : Obj) : Below w.heap.size w (W.alloc o) := h.alloc h.size o
theorem bel_drew {w W : World} (h : Below w.heap.size w W) : Below w.heap.size w W.drew := ⟨h.os, h.tape, h.output, h.size, h.block⟩
theorem bel_calls {w W w' : World} (h : Below w.heap.size w W) (k : Below W.heap.size W w') : Below w.heap.size w w' := below_trans' h k
theorem row_drew {w : World} {A : Option Addr} {cs : List Value} (h : RowAt w A cs) : RowAt w.drew A cs := h
theorem grown_nil {W w' : World} {n c : Nat} (h : W.grownBy w' (Value.slice none n c).ownBlock) : Below W.heap.size W w' := ⟨h.os, h.tape, h.output, h.size, fun k hk => h.block k hk (by simp [Value.ownBlock])⟩
theorem row_touched {w w' : World} {A : Option Addr} {xs : List Value} {bs : List Nat} (h : RowAt w A xs) (hT : Touched w w' bs) (hA : A = none ∨ ∃ g, A = some ⟨g, 0, none⟩ ∧ g ∉ bs) : RowAt w' A xs := by
  rcases hA with rfl | ⟨g, rfl, hg⟩
  · rcases h with h | ⟨ad, e, _⟩
    · exact .inl h
    · cases e
  · rcases h with h | ⟨ad, e, hc⟩
    · exact .inl h
    · refine .inr ⟨ad, e, fun j u hu => ?_⟩
      injection e with e
      subst e
      have := hc j u hu
      rw [add0] at this ⊢
      exact (hT.cell (World.block_lt_of_cell? w _ this) hg).trans this

end Go.Proofs.YtninoogbkaeihaaDoor

/- bits.Out: Byte, Half, Word, Long; lists that were just built; Text; End. (The four are printed by a program: alike.) -/
namespace Go.Proofs.YtninoogbkaeihaaDoor
open Go.RowKit
set_option linter.unusedVariables false

theorem OutS.newRow {w : World} {g : Nat} {v : Value} {e : Int} {l : List UInt8} (h : OutS w g v e l) (xs : List Value) (t : TypeId) : ∀ w', Touched (w.alloc (.cells xs.toArray t)) w' (g :: v.ownBlock.toList) → RowAt w' (some ⟨w.heap.size, 0, none⟩) xs := by
  intro w' hT
  refine row_touched (rowAt_alloc w xs t) hT (.inr ⟨_, rfl, ?_⟩)
  intro hm
  have h1 := h.lt
  simp only [List.mem_cons, Option.mem_toList] at hm
  rcases hm with hm | hm
  · omega
  · have := h.vlt hm; omega
theorem OutS.alloc {w : World} {g : Nat} {v : Value} {e : Int} {l : List UInt8} (h : OutS w g v e l) (o : Obj) : OutS (w.alloc o) g v e l := h.below ((Below.refl _ _).alloc (Nat.le_refl _) o)
theorem OutTo.alloc {w w' : World} {g : Nat} {v : Value} {d : Int × List UInt8} {o : Obj} (h : OutTo (w.alloc o) w' g v d) : OutTo w w' g v d := OutTo.trans ((Touched.refl w _).alloc o) (fun _ h => .inl h) h
theorem OutTo.below {w w' w2 : World} {g : Nat} {v : Value} {d : Int × List UInt8} (h : OutTo w w' g v d) (hb : Below w'.heap.size w' w2) : OutTo w w2 g v d := by
  obtain ⟨⟨v', h1, h2⟩, h3⟩ := h
  exact ⟨⟨v', h1.below hb, h2⟩, h3.trans (Touched.of_below hb _)⟩

theorem outByte_calls (g : Nat) (v : Value) (e : Int) (l : List UInt8) (A : Option Addr) (n c : Nat) (xs : List Int) (w : World) (hxn : xs.length = n) (hO : OutS w g v e l) (hn : n ≤ 1000000) (hsz : l.length ≤ 1000000000) (hx : ∀ z ∈ xs, -9223372036854775808 ≤ z ∧ z ≤ 9223372036854775807)
    (hR : ∀ w', Touched w w' (g :: v.ownBlock.toList) → RowAt w' A (icells xs)) :
    Calls Tryd.prog 5 #[.pointer (some ⟨g, 0, none⟩), .slice A n c] w fun r w' => r = .returned (.pointer (some ⟨g, 0, none⟩)) ∧ OutTo w w' g v (layO 1 (e, l) xs) := by
  subst hxn
  have H : Box _ := ⟨outLay_calls 1 (by omega) (by omega) g v e l A c xs w hO hn hsz hx hR⟩
  clear hO hR hx
  obtain ⟨d, hd⟩ : ∃ d, layO 1 (e, l) xs = d := ⟨_, rfl⟩
  rw [hd] at H ⊢
  clear hd
  go_enter Tryd.func5, Tryd.ntmps5
  go_wp2_with fail
  refine Calls.mono H.out ?_
  rintro r w1 ⟨rfl, h1⟩
  go_wp2_with fail
  go_ret
  exact ⟨rfl, h1⟩
theorem outByte_new (g : Nat) (v : Value) (e : Int) (l : List UInt8) (n : Nat) (xs : List Int) (w : World) (hxn : xs.length = n) (hO : OutS w g v e l) (hn : n ≤ 1000000) (hsz : l.length ≤ 1000000000) (hx : ∀ z ∈ xs, -9223372036854775808 ≤ z ∧ z ≤ 9223372036854775807) :
    Calls Tryd.prog 5 #[.pointer (some ⟨g, 0, none⟩), .slice (some ⟨w.heap.size, 0, none⟩) n n] (w.alloc (.cells (icells xs).toArray 3)) fun r w' => r = .returned (.pointer (some ⟨g, 0, none⟩)) ∧ OutTo w w' g v (layO 1 (e, l) xs) :=
  (outByte_calls g v e l _ n n xs _ hxn (hO.alloc _) hn hsz hx (hO.newRow (icells xs) _)).mono fun r w' ⟨h1, h2⟩ => ⟨h1, h2.alloc⟩
theorem outByte_nil (x : Int) (w : World) :
    Calls Tryd.prog 5 #[.pointer none, .slice (some ⟨w.heap.size, 0, none⟩) 1 1] (w.alloc (.cells #[.int .i64 x] 3)) fun r w' => r = .returned (.pointer none) ∧ w' = w.alloc (.cells #[.int .i64 x] 3) := by
  have H : Box _ := ⟨outLay_nil 1 (some ⟨w.heap.size, 0, none⟩) 1 x (w.alloc (.cells #[.int .i64 x] 3)) (rowAt_alloc w (icells [x]) _)⟩
  go_enter Tryd.func5, Tryd.ntmps5
  go_wp2_with fail
  refine Calls.mono H.out ?_
  rintro r w1 ⟨rfl, rfl⟩
  go_wp2_with fail
  go_ret
  exact ⟨rfl, rfl⟩

theorem outHalf_calls (g : Nat) (v : Value) (e : Int) (l : List UInt8) (A : Option Addr) (n c : Nat) (xs : List Int) (w : World) (hxn : xs.length = n) (hO : OutS w g v e l) (hn : n ≤ 1000000) (hsz : l.length ≤ 1000000000) (hx : ∀ z ∈ xs, -9223372036854775808 ≤ z ∧ z ≤ 9223372036854775807)
    (hR : ∀ w', Touched w w' (g :: v.ownBlock.toList) → RowAt w' A (icells xs)) :
    Calls Tryd.prog 6 #[.pointer (some ⟨g, 0, none⟩), .slice A n c] w fun r w' => r = .returned (.pointer (some ⟨g, 0, none⟩)) ∧ OutTo w w' g v (layO 2 (e, l) xs) := by
  subst hxn
  have H : Box _ := ⟨outLay_calls 2 (by omega) (by omega) g v e l A c xs w hO hn hsz hx hR⟩
  clear hO hR hx
  obtain ⟨d, hd⟩ : ∃ d, layO 2 (e, l) xs = d := ⟨_, rfl⟩
  rw [hd] at H ⊢
  clear hd
  go_enter Tryd.func6, Tryd.ntmps6
  go_wp2_with fail
  refine Calls.mono H.out ?_
  rintro r w1 ⟨rfl, h1⟩
  go_wp2_with fail
  go_ret
  exact ⟨rfl, h1⟩
theorem outHalf_new (g : Nat) (v : Value) (e : Int) (l : List UInt8) (n : Nat) (xs : List Int) (w : World) (hxn : xs.length = n) (hO : OutS w g v e l) (hn : n ≤ 1000000) (hsz : l.length ≤ 1000000000) (hx : ∀ z ∈ xs, -9223372036854775808 ≤ z ∧ z ≤ 9223372036854775807) :
    Calls Tryd.prog 6 #[.pointer (some ⟨g, 0, none⟩), .slice (some ⟨w.heap.size, 0, none⟩) n n] (w.alloc (.cells (icells xs).toArray 3)) fun r w' => r = .returned (.pointer (some ⟨g, 0, none⟩)) ∧ OutTo w w' g v (layO 2 (e, l) xs) :=
  (outHalf_calls g v e l _ n n xs _ hxn (hO.alloc _) hn hsz hx (hO.newRow (icells xs) _)).mono fun r w' ⟨h1, h2⟩ => ⟨h1, h2.alloc⟩
theorem outHalf_nil (x : Int) (w : World) :
    Calls Tryd.prog 6 #[.pointer none, .slice (some ⟨w.heap.size, 0, none⟩) 1 1] (w.alloc (.cells #[.int .i64 x] 3)) fun r w' => r = .returned (.pointer none) ∧ w' = w.alloc (.cells #[.int .i64 x] 3) := by
  have H : Box _ := ⟨outLay_nil 2 (some ⟨w.heap.size, 0, none⟩) 1 x (w.alloc (.cells #[.int .i64 x] 3)) (rowAt_alloc w (icells [x]) _)⟩
  go_enter Tryd.func6, Tryd.ntmps6
  go_wp2_with fail
  refine Calls.mono H.out ?_
  rintro r w1 ⟨rfl, rfl⟩
  go_wp2_with fail
  go_ret
  exact ⟨rfl, rfl⟩

theorem outWord_calls (g : Nat) (v : Value) (e : Int) (l : List UInt8) (A : Option Addr) (n c : Nat) (xs : List Int) (w : World) (hxn : xs.length = n) (hO : OutS w g v e l) (hn : n ≤ 1000000) (hsz : l.length ≤ 1000000000) (hx : ∀ z ∈ xs, -9223372036854775808 ≤ z ∧ z ≤ 9223372036854775807)
    (hR : ∀ w', Touched w w' (g :: v.ownBlock.toList) → RowAt w' A (icells xs)) :
    Calls Tryd.prog 7 #[.pointer (some ⟨g, 0, none⟩), .slice A n c] w fun r w' => r = .returned (.pointer (some ⟨g, 0, none⟩)) ∧ OutTo w w' g v (layO 4 (e, l) xs) := by
  subst hxn
  have H : Box _ := ⟨outLay_calls 4 (by omega) (by omega) g v e l A c xs w hO hn hsz hx hR⟩
  clear hO hR hx
  obtain ⟨d, hd⟩ : ∃ d, layO 4 (e, l) xs = d := ⟨_, rfl⟩
  rw [hd] at H ⊢
  clear hd
  go_enter Tryd.func7, Tryd.ntmps7
  go_wp2_with fail
  refine Calls.mono H.out ?_
  rintro r w1 ⟨rfl, h1⟩
  go_wp2_with fail
  go_ret
  exact ⟨rfl, h1⟩
theorem outWord_new (g : Nat) (v : Value) (e : Int) (l : List UInt8) (n : Nat) (xs : List Int) (w : World) (hxn : xs.length = n) (hO : OutS w g v e l) (hn : n ≤ 1000000) (hsz : l.length ≤ 1000000000) (hx : ∀ z ∈ xs, -9223372036854775808 ≤ z ∧ z ≤ 9223372036854775807) :
    Calls Tryd.prog 7 #[.pointer (some ⟨g, 0, none⟩), .slice (some ⟨w.heap.size, 0, none⟩) n n] (w.alloc (.cells (icells xs).toArray 3)) fun r w' => r = .returned (.pointer (some ⟨g, 0, none⟩)) ∧ OutTo w w' g v (layO 4 (e, l) xs) :=
  (outWord_calls g v e l _ n n xs _ hxn (hO.alloc _) hn hsz hx (hO.newRow (icells xs) _)).mono fun r w' ⟨h1, h2⟩ => ⟨h1, h2.alloc⟩
theorem outWord_nil (x : Int) (w : World) :
    Calls Tryd.prog 7 #[.pointer none, .slice (some ⟨w.heap.size, 0, none⟩) 1 1] (w.alloc (.cells #[.int .i64 x] 3)) fun r w' => r = .returned (.pointer none) ∧ w' = w.alloc (.cells #[.int .i64 x] 3) := by
  have H : Box _ := ⟨outLay_nil 4 (some ⟨w.heap.size, 0, none⟩) 1 x (w.alloc (.cells #[.int .i64 x] 3)) (rowAt_alloc w (icells [x]) _)⟩
  go_enter Tryd.func7, Tryd.ntmps7
  go_wp2_with fail
  refine Calls.mono H.out ?_
  rintro r w1 ⟨rfl, rfl⟩
  go_wp2_with fail
  go_ret
  exact ⟨rfl, rfl⟩

theorem outLong_calls (g : Nat) (v : Value) (e : Int) (l : List UInt8) (A : Option Addr) (n c : Nat) (xs : List Int) (w : World) (hxn : xs.length = n) (hO : OutS w g v e l) (hn : n ≤ 1000000) (hsz : l.length ≤ 1000000000) (hx : ∀ z ∈ xs, -9223372036854775808 ≤ z ∧ z ≤ 9223372036854775807)
    (hR : ∀ w', Touched w w' (g :: v.ownBlock.toList) → RowAt w' A (icells xs)) :
    Calls Tryd.prog 8 #[.pointer (some ⟨g, 0, none⟩), .slice A n c] w fun r w' => r = .returned (.pointer (some ⟨g, 0, none⟩)) ∧ OutTo w w' g v (layO 8 (e, l) xs) := by
  subst hxn
  have H : Box _ := ⟨outLay_calls 8 (by omega) (by omega) g v e l A c xs w hO hn hsz hx hR⟩
  clear hO hR hx
  obtain ⟨d, hd⟩ : ∃ d, layO 8 (e, l) xs = d := ⟨_, rfl⟩
  rw [hd] at H ⊢
  clear hd
  go_enter Tryd.func8, Tryd.ntmps8
  go_wp2_with fail
  refine Calls.mono H.out ?_
  rintro r w1 ⟨rfl, h1⟩
  go_wp2_with fail
  go_ret
  exact ⟨rfl, h1⟩
theorem outLong_new (g : Nat) (v : Value) (e : Int) (l : List UInt8) (n : Nat) (xs : List Int) (w : World) (hxn : xs.length = n) (hO : OutS w g v e l) (hn : n ≤ 1000000) (hsz : l.length ≤ 1000000000) (hx : ∀ z ∈ xs, -9223372036854775808 ≤ z ∧ z ≤ 9223372036854775807) :
    Calls Tryd.prog 8 #[.pointer (some ⟨g, 0, none⟩), .slice (some ⟨w.heap.size, 0, none⟩) n n] (w.alloc (.cells (icells xs).toArray 3)) fun r w' => r = .returned (.pointer (some ⟨g, 0, none⟩)) ∧ OutTo w w' g v (layO 8 (e, l) xs) :=
  (outLong_calls g v e l _ n n xs _ hxn (hO.alloc _) hn hsz hx (hO.newRow (icells xs) _)).mono fun r w' ⟨h1, h2⟩ => ⟨h1, h2.alloc⟩
theorem outLong_nil (x : Int) (w : World) :
    Calls Tryd.prog 8 #[.pointer none, .slice (some ⟨w.heap.size, 0, none⟩) 1 1] (w.alloc (.cells #[.int .i64 x] 3)) fun r w' => r = .returned (.pointer none) ∧ w' = w.alloc (.cells #[.int .i64 x] 3) := by
  have H : Box _ := ⟨outLay_nil 8 (some ⟨w.heap.size, 0, none⟩) 1 x (w.alloc (.cells #[.int .i64 x] 3)) (rowAt_alloc w (icells [x]) _)⟩
  go_enter Tryd.func8, Tryd.ntmps8
  go_wp2_with fail
  refine Calls.mono H.out ?_
  rintro r w1 ⟨rfl, rfl⟩
  go_wp2_with fail
  go_ret
  exact ⟨rfl, rfl⟩

theorem outRaw_new (g : Nat) (v : Value) (e : Int) (l : List UInt8) (n : Nat) (ts : List ByteArray) (w : World) (hts : ts.length = n) (hO : OutS w g v e l) (hn : n ≤ 1000000) (hsz : l.length + totalLen ts ≤ 140737488355328) :
    Calls Tryd.prog 16 #[.pointer (some ⟨g, 0, none⟩), .slice (some ⟨w.heap.size, 0, none⟩) n n] (w.alloc (.cells (scells ts).toArray 9)) fun r w' => r = .returned (.pointer (some ⟨g, 0, none⟩)) ∧ OutTo w w' g v (rawO (e, l) ts) := by
  subst hts
  exact (outRaw_calls g v e l _ ts.length ts _ (hO.alloc _) (by omega) hsz (hO.newRow (scells ts) _)).mono fun r w' ⟨h1, h2⟩ => ⟨h1, h2.alloc⟩

/-- End. -/
def endO (d : Int × List UInt8) : ByteArray × Int := if d.1 ≠ 0 then (ByteArray.empty, d.1) else (⟨d.2.toArray⟩, 0)
theorem outEnd_calls (g : Nat) (v : Value) (e : Int) (l : List UInt8) (w : World) (hO : OutS w g v e l) :
    Calls Tryd.prog 10 #[.pointer (some ⟨g, 0, none⟩)] w fun r w' => r = .returned (.tuple #[.string (endO (e, l)).1, .int .i64 (endO (e, l)).2]) ∧ Below w.heap.size w w' := by
  by_cases he : e = 0
  · subst he
    obtain ⟨a0, ca, rfl, _, hr, _⟩ := (Own.of_row hO.own).slice
    have k0 := hO.c0
    have k1 := hO.c1
    have hcv := bytes_str Tryd.prog 24 5 9 Tryd.underlying24 Tryd.underlying5 Tryd.underlying9 a0 l.length ca l w rfl hr
    have e1 : endO (0, l) = (⟨l.toArray⟩, 0) := by rw [endO, if_neg (by simp)]
    rw [e1]
    clear hr hO e1
    go_enter Tryd.func10, Tryd.ntmps10
    go_wp2
    go_ret2
    exact ⟨rfl, Below.refl _ _⟩
  · have k1 := hO.c1
    have e1 : endO (e, l) = (ByteArray.empty, e) := by rw [endO, if_pos he]
    rw [e1]
    clear hO e1
    go_enter Tryd.func10, Tryd.ntmps10
    go_wp2
    go_quiet (fail)
    go_wp2
    go_ret2
    exact ⟨rfl, below_drewN (Below.refl _ _) _⟩
theorem outEnd_nil (w : World) : Calls Tryd.prog 10 #[.pointer none] w fun r w' => r = .returned (.tuple #[.string ByteArray.empty, .int .i64 1]) ∧ w = w' := by
  go_enter Tryd.func10, Tryd.ntmps10
  go_wp2
  go_ret2
  exact ⟨rfl, rfl⟩
end Go.Proofs.YtninoogbkaeihaaDoor

/- bits.Out: Text. -/
namespace Go.Proofs.YtninoogbkaeihaaDoor
open Go.RowKit
set_option linter.unusedVariables false

def textOne (d : Int × List UInt8) (s : ByteArray) : Int × List UInt8 := if d.1 ≠ 0 then d else if 65535 < s.size then (2, d.2) else (0, d.2 ++ lowL s.size 2 ++ s.data.toList)
def textO (d : Int × List UInt8) (ts : List ByteArray) : Int × List UInt8 := ts.foldl textOne d
theorem textO_snoc (d : Int × List UInt8) (ts : List ByteArray) (s : ByteArray) : textO d (ts ++ [s]) = textOne (textO d ts) s := by simp [textO, List.foldl_append]
theorem textO_err (d : Int × List UInt8) (ts : List ByteArray) (h : d.1 ≠ 0) : textO d ts = d := by
  induction ts with
  | nil => rfl
  | cons x xs ih => rw [textO, List.foldl_cons, textOne, if_pos h]; exact ih
theorem textO_stop (d : Int × List UInt8) (ts : List ByteArray) (k : Nat) (h : (textO d (ts.take k)).1 ≠ 0) : textO d ts = textO d (ts.take k) := by
  conv => lhs; rw [← List.take_append_drop k ts]
  rw [textO, List.foldl_append]
  exact textO_err _ _ h
theorem textO_len (d : Int × List UInt8) (ts : List ByteArray) : ((textO d ts).2.length : Int) ≤ d.2.length + totalLen ts + 2 * ts.length := by
  induction ts generalizing d with
  | nil => simp [textO, totalLen]
  | cons x xs ih =>
    have h := ih (textOne d x)
    have h2 : ((textOne d x).2.length : Int) ≤ d.2.length + 2 + x.size := by
      unfold textOne
      split
      · omega
      · split
        · show (d.2.length : Int) ≤ _; omega
        · simp only [List.length_append, lowL_length, data_length]; omega
    have h3 : totalLen (x :: xs) = x.size + totalLen xs := by simp [totalLen]
    rw [textO, List.foldl_cons]
    rw [textO] at h
    rw [List.length_cons, h3]
    omega
theorem text_parts (l : List UInt8) (s : ByteArray) (h : s.size ≤ 65535) : layO 2 (0, l) [(s.size : Int)] = (0, l ++ lowL s.size 2) ∧ rawO (0, l ++ lowL s.size 2) [s] = (0, l ++ lowL s.size 2 ++ s.data.toList) := by
  constructor
  · have hb : layB 2 (s.size : Int) = false := decide_eq_false (by
      intro hh
      have e1 : (s.size : Int) / 2 ^ (8 * 2) = 0 := by show (s.size : Int) / 65536 = 0; omega
      omega)
    rw [layO, List.foldl_cons, List.foldl_nil, layOne, if_neg (by simp), if_neg (by simp [hb])]
    simp
  · rw [rawO, if_neg (by simp)]
    simp [joinB]
theorem outText_err (g : Nat) (v : Value) (e : Int) (l : List UInt8) (A : Option Addr) (c : Nat) (ts : List ByteArray) (w : World) (he : e ≠ 0) (hO : OutS w g v e l) (hn : ts.length ≤ 4000000000000000000) (hR : RowAt w A (scells ts)) :
    Calls Tryd.prog 9 #[.pointer (some ⟨g, 0, none⟩), .slice A ts.length c] w fun r w' => r = .returned (.pointer (some ⟨g, 0, none⟩)) ∧ w = w' := by
  have k1 := hO.c1
  have HR : Box _ := ⟨hR⟩
  clear hO hR
  by_cases hlt : 0 < ts.length
  · obtain ⟨s, hs⟩ := some_at hlt
    obtain ⟨ad, rfl, hc0⟩ := HR.out.get (scells_at hs)
    have hc : w.cell? ad = some (.string s) := by rwa [addr_add0] at hc0
    clear hs hc0
    go_enter Tryd.func9, Tryd.ntmps9
    go_wp2
    go_loopw [9] (fun i wr => i = .int .i64 0 ∧ w = wr) (fun i _ => 1)
    case atStart => exact ⟨rfl, rfl⟩
    case round =>
      obtain ⟨rfl, rfl⟩ := hrel
      go_wp2
      go_ret
      exact ⟨rfl, rfl⟩
  · obtain rfl : ts = [] := List.eq_nil_of_length_eq_zero (by omega)
    go_enter Tryd.func9, Tryd.ntmps9
    go_wp2
    go_loopw [9] (fun i wr => i = .int .i64 0 ∧ w = wr) (fun i _ => 1)
    case atStart => exact ⟨rfl, rfl⟩
    case round =>
      obtain ⟨rfl, rfl⟩ := hrel
      go_wp2
      go_ret
      exact ⟨rfl, rfl⟩
theorem outText_nil (A : Option Addr) (c : Nat) (s : ByteArray) (w : World) (hR : RowAt w A (scells [s])) :
    Calls Tryd.prog 9 #[.pointer none, .slice A 1 c] w fun r w' => r = .returned (.pointer none) ∧ w = w' := by
  obtain ⟨ad, rfl, hc0⟩ := hR.get (j := 0) (u := .string s) rfl
  have hc : w.cell? ad = some (.string s) := by rwa [addr_add0] at hc0
  clear hR hc0
  go_enter Tryd.func9, Tryd.ntmps9
  go_wp2
  go_loopw [9] (fun i wr => i = .int .i64 0 ∧ w = wr) (fun i _ => 1)
  case atStart => exact ⟨rfl, rfl⟩
  case round =>
    obtain ⟨rfl, rfl⟩ := hrel
    go_wp2
    go_ret
    exact ⟨rfl, rfl⟩
set_option maxHeartbeats 6400000 in
set_option maxRecDepth 100000 in
theorem outText_ok (g : Nat) (v : Value) (l : List UInt8) (A : Option Addr) (c : Nat) (ts : List ByteArray) (w : World) (hO : OutS w g v 0 l) (hn : ts.length ≤ 1000000) (hsz : l.length + totalLen ts + 2 * ts.length ≤ 1000000000)
    (hR : ∀ w', Touched w w' (g :: v.ownBlock.toList) → RowAt w' A (scells ts)) :
    Calls Tryd.prog 9 #[.pointer (some ⟨g, 0, none⟩), .slice A ts.length c] w fun r w' => r = .returned (.pointer (some ⟨g, 0, none⟩)) ∧ OutTo w w' g v (textO (0, l) ts) := by
  have HO0 : Box (OutS w g v 0 l) := ⟨hO⟩
  have HR : Box _ := ⟨hR⟩
  have HZ : Box _ := ⟨hsz⟩
  clear hR hO hsz
  go_enter Tryd.func9, Tryd.ntmps9
  go_wp2
  go_loopw [9] (fun i wr => ∃ (k : Nat) (u : Value) (l' : List UInt8), k ≤ ts.length ∧ i = .int .i64 (k : Int) ∧ Box (textO (0, l) (ts.take k) = (0, l')) ∧ Box (OutS wr g u 0 l') ∧ Hid (Touched w wr (g :: v.ownBlock.toList)) ∧ Box (∀ b, u.ownBlock = some b → v.ownBlock = some b ∨ w.heap.size ≤ b)) (fun i _ => ts.length - (intOf i).toNat)
  case atStart => exact ⟨0, v, l, by omega, rfl, ⟨rfl⟩, HO0, Touched.refl _ _, ⟨fun b hb => .inl hb⟩⟩
  case round =>
    obtain ⟨k, u, l', hk, rfl, HD, HO, HT, HF⟩ := hrel
    by_cases hlt : k < ts.length
    · obtain ⟨x, hxk⟩ := some_at hlt
      obtain ⟨ad, rfl, hc⟩ := (HR.out _ HT.out).get (scells_at hxk)
      have hD1 : textO (0, l) (ts.take (k + 1)) = if 65535 < x.size then (2, l') else (0, l' ++ lowL x.size 2 ++ x.data.toList) := by
        rw [take_snoc_of hxk, textO_snoc, HD.out, textOne, if_neg (by simp)]
      have hLen := textO_len (0, l) (ts.take (k + 1))
      have hTl := totalLen_take_le ts (k + 1)
      have k1 := HO.out.c1
      have f1 := HO.out.f1
      clear hxk
      by_cases hbad : 65535 < x.size
      · rw [if_pos hbad] at hD1
        have HAll : Box (textO (0, l) ts = (2, l')) := ⟨by rw [textO_stop (0, l) ts (k + 1) (by rw [hD1]; simp), hD1]⟩
        have hb2 : (65535 : Int) < (x.size : Int) := by omega
        clear hD1 hLen hTl hbad
        go_wp2_with fail
        go_ret
        exact ⟨rfl, by rw [HAll.out]; exact OutTo.trans HT.out HF.out (OutTo.fail HO.out 2)⟩
      · rw [if_neg hbad] at hD1
        have hsz : l'.length + x.size ≤ 1000000000 := by
          have h0 := HZ.out
          rw [hD1] at hLen
          simp only [List.length_append, lowL_length, data_length, List.length_take] at hLen
          omega
        have HD1 : Box _ := ⟨hD1⟩
        obtain ⟨hp1, hp2⟩ := text_parts l' x (by omega)
        have hb2 : ¬ (65535 : Int) < (x.size : Int) := by omega
        have H1 : Box _ := ⟨outHalf_new g u 0 l' 1 [(x.size : Int)] wr rfl HO.out (by omega) (by omega) (by intro z hz; simp at hz; omega)⟩
        rw [hp1] at H1
        have HP2 : Box _ := ⟨hp2⟩
        have HSz : Box _ := ⟨hsz⟩
        clear hD1 hLen hTl hbad hp1 hp2 hsz
        obtain ⟨wo, rfl⟩ : ∃ wo : World, wo = wr := ⟨_, rfl⟩
        go_wp2_with fail
        refine Calls.mono H1.out ?_
        rintro r w1 ⟨rfl, ⟨u1, h1, h2⟩, h3⟩
        have HT1 : Box _ := ⟨h3⟩
        have HF1 : Box _ := ⟨h2⟩
        have H2 : Box _ := ⟨outRaw_new g u1 0 (l' ++ lowL x.size 2) 1 [x] w1 rfl h1 (by omega) (by have := HSz.out; simp only [List.length_append, lowL_length, totalLen, List.map_cons, List.map_nil, List.sum_cons, List.sum_nil]; omega)⟩
        rw [HP2.out] at H2
        clear h1 h2 h3
        go_wp2_with fail
        refine Calls.mono H2.out ?_
        rintro r w2 ⟨rfl, h4⟩
        have h5 := OutTo.trans HT.out HF.out (OutTo.trans HT1.out HF1.out h4)
        obtain ⟨⟨u2, h6, h7⟩, h8⟩ := h5
        have HA : Box _ := ⟨h6⟩
        have HB : Box _ := ⟨h7⟩
        have HC : Hid _ := h8
        clear h4 h6 h7 h8
        go_wp2_with fail
        go_roundw
        case rel => exact ⟨k + 1, u2, _, by omega, by go_num, HD1, HA, HC, HB⟩
        case measure => simp [intOf]; omega
    · obtain rfl : k = ts.length := by omega
      rw [List.take_of_length_le (Nat.le_refl _)] at HD
      go_wp2
      go_ret
      exact ⟨rfl, by rw [HD.out]; exact ⟨⟨u, HO.out, HF.out⟩, HT.out⟩⟩
theorem outText_calls (g : Nat) (v : Value) (e : Int) (l : List UInt8) (A : Option Addr) (c n : Nat) (ts : List ByteArray) (w : World) (hts : ts.length = n) (hO : OutS w g v e l) (hn : n ≤ 1000000) (hsz : l.length + totalLen ts + 2 * n ≤ 1000000000)
    (hR : ∀ w', Touched w w' (g :: v.ownBlock.toList) → RowAt w' A (scells ts)) :
    Calls Tryd.prog 9 #[.pointer (some ⟨g, 0, none⟩), .slice A n c] w fun r w' => r = .returned (.pointer (some ⟨g, 0, none⟩)) ∧ OutTo w w' g v (textO (e, l) ts) := by
  subst hts
  by_cases he : e = 0
  · subst he
    exact outText_ok g v l A c ts w hO hn hsz hR
  · refine (outText_err g v e l A c ts w he hO (by omega) (hR w (Touched.refl _ _))).mono fun r w' ⟨h1, h2⟩ => ⟨h1, ?_⟩
    subst h2
    rw [textO_err _ _ he]
    exact OutTo.refl hO
theorem outText_new (g : Nat) (v : Value) (e : Int) (l : List UInt8) (n : Nat) (ts : List ByteArray) (w : World) (hts : ts.length = n) (hO : OutS w g v e l) (hn : n ≤ 1000000) (hsz : l.length + totalLen ts + 2 * n ≤ 1000000000) :
    Calls Tryd.prog 9 #[.pointer (some ⟨g, 0, none⟩), .slice (some ⟨w.heap.size, 0, none⟩) n n] (w.alloc (.cells (scells ts).toArray 9)) fun r w' => r = .returned (.pointer (some ⟨g, 0, none⟩)) ∧ OutTo w w' g v (textO (e, l) ts) :=
  (outText_calls g v e l _ n n ts _ hts (hO.alloc _) hn hsz (hO.newRow (scells ts) _)).mono fun r w' ⟨h1, h2⟩ => ⟨h1, h2.alloc⟩
end Go.Proofs.YtninoogbkaeihaaDoor

/- bits.In: what is left, with its error; Raw, numbers, texts, Left, Rest, End. -/
namespace Go.Proofs.YtninoogbkaeihaaDoor
open Go.RowKit
set_option linter.unusedVariables false

theorem clone_calls (s : ByteArray) (w : World) (hs : s.size ≤ 1000000000) : Calls Tryd.prog 20 #[.string s] w fun e w' => e = .returned (.string s) ∧ Below w.heap.size w w' := by
  go_enter Tryd.func20, Tryd.ntmps20
  go_wp2_with fail
  refine (Tryd.stringslite_Clone s _ (by omega)).mono ?_
  rintro e w1 ⟨rfl, hb⟩
  go_wp2
  go_ret
  exact ⟨rfl, hb⟩

/-- An In at a block: its error, what is left. -/
structure InS (w : World) (g : Nat) (e : Int) (s : ByteArray) : Prop where
  c0 : w.cell? ⟨g, 0, none⟩ = some (.string s)
  c1 : w.cell? ⟨g, 1, none⟩ = some (.int .i64 e)
  f0 : w.frozen? ⟨g, 0, none⟩ = false
  f1 : w.frozen? ⟨g, 1, none⟩ = false
section
variable {w w1 : World} {g : Nat} {e : Int} {s : ByteArray}
theorem InS.lt (h : InS w g e s) : g < w.heap.size := World.block_lt_of_cell? w _ h.c0
theorem InS.touched {bs : List Nat} (h : InS w g e s) (hT : Touched w w1 bs) (hn : g ∉ bs) : InS w1 g e s :=
  ⟨(hT.cell h.lt hn).trans h.c0, (hT.cell h.lt hn).trans h.c1, (hT.free h.lt hn).trans h.f0, (hT.free h.lt hn).trans h.f1⟩
theorem InS.below (h : InS w g e s) (hb : Below w.heap.size w w1) : InS w1 g e s := h.touched (Touched.of_below hb []) (by simp)
theorem InS.set (h : InS w g e s) (t : ByteArray) : InS (w.setCell ⟨g, 0, none⟩ (.string t)) g e t :=
  ⟨World.cell?_setCell_same' w _ _ (by rw [h.c0]; simp), (World.cell?_setCell_other w ⟨g, 0, none⟩ ⟨g, 1, none⟩ _ (by simp)).trans h.c1, by rw [World.frozen?_setCell]; exact h.f0, by rw [World.frozen?_setCell]; exact h.f1⟩
theorem InS.fail (h : InS w g e s) (x : Int) : InS (w.setCell ⟨g, 1, none⟩ (.int .i64 x)) g x s :=
  ⟨(World.cell?_setCell_other w ⟨g, 1, none⟩ ⟨g, 0, none⟩ _ (by simp)).trans h.c0, World.cell?_setCell_same' w _ _ (by rw [h.c1]; simp), by rw [World.frozen?_setCell]; exact h.f0, by rw [World.frozen?_setCell]; exact h.f1⟩
end
theorem on_calls (s : ByteArray) (w : World) : Calls Tryd.prog 11 #[.string s] w fun e w' => e = .returned (.pointer (some ⟨w.heap.size, 0, none⟩)) ∧ InS w' w.heap.size 0 s ∧ Below w.heap.size w w' := by
  go_enter Tryd.func11, Tryd.ntmps11
  go_wp2
  go_ret
  refine ⟨rfl, ?_, (Below.refl _ _).alloc (Nat.le_refl _) _⟩
  have hb := heap_alloc_new w (.cells #[.string s, .int .i64 0] 42)
  exact ⟨cell_of_row _ _ 0 _ _ (0, 0) hb, cell_of_row _ _ 1 _ _ (0, 0) hb, frozen_of_row _ _ 0 _ _ hb, frozen_of_row _ _ 1 _ _ hb⟩

/-- Raw. -/
def rawI (e : Int) (s : ByteArray) (n : Int) : ByteArray × Int × ByteArray :=
  if e ≠ 0 then (ByteArray.empty, e, s) else if n < 0 then (ByteArray.empty, 1, s) else if (s.size : Int) < n then (ByteArray.empty, 5, s) else (s.extract 0 n.toNat, 0, s.extract n.toNat s.size)
theorem inRaw_calls (g : Nat) (n e : Int) (s : ByteArray) (w : World) (h : InS w g e s) (hs : s.size ≤ 1000000000) :
    Calls Tryd.prog 18 #[.pointer (some ⟨g, 0, none⟩), .int .i64 n] w fun r w' => r = .returned (.string (rawI e s n).1) ∧ InS w' g (rawI e s n).2.1 (rawI e s n).2.2 ∧ Touched w w' [g] := by
  have H : Box _ := ⟨h⟩
  have k0 := h.c0
  have k1 := h.c1
  have e0 := h.f0
  have e1 := h.f1
  clear h
  by_cases he : e = 0
  case neg =>
    rw [rawI, if_pos he]
    go_enter Tryd.func18, Tryd.ntmps18
    go_wp2_with fail
    go_ret
    exact ⟨rfl, H.out, Touched.refl _ _⟩
  subst he
  by_cases hn : n < 0
  · rw [rawI, if_neg (by simp), if_pos hn]
    go_enter Tryd.func18, Tryd.ntmps18
    go_wp2_with fail
    go_ret
    exact ⟨rfl, H.out.fail 1, (Touched.refl w _).setCell (.inl (by simp)) _⟩
  by_cases hl : (s.size : Int) < n
  · rw [rawI, if_neg (by simp), if_neg hn, if_pos hl]
    go_enter Tryd.func18, Tryd.ntmps18
    go_wp2_with fail
    go_ret
    exact ⟨rfl, H.out.fail 5, (Touched.refl w _).setCell (.inl (by simp)) _⟩
  obtain ⟨m, rfl⟩ : ∃ m : Nat, n = (m : Int) := ⟨n.toNat, by omega⟩
  rw [rawI, if_neg (by simp), if_neg hn, if_neg hl, Int.toNat_natCast]
  have H2 : Box _ := ⟨H.out.set (s.extract m s.size)⟩
  have HT : Box (Touched w (w.setCell ⟨g, 0, none⟩ (.string (s.extract m s.size))) [g]) := ⟨(Touched.refl w _).setCell (.inl (by simp)) _⟩
  have hes : (s.extract 0 m).size ≤ 1000000000 := by rw [ByteArray.size_extract]; omega
  have b1 : (0 : Int) ≤ (m : Int) := by omega
  have b2 : (m : Int) ≤ (s.size : Int) := by omega
  go_enter Tryd.func18, Tryd.ntmps18
  go_wp2_with fail
  refine (clone_calls _ _ hes).mono ?_
  rintro e w1 ⟨rfl, hb⟩
  have HB : Box _ := ⟨hb⟩
  clear hb
  go_wp2_with fail
  go_ret
  have hT2 := Touched.of_below HB.out []
  exact ⟨rfl, H2.out.touched hT2 (by simp), HT.out.trans (hT2.mono (by simp))⟩
theorem rawI_size (e : Int) (s : ByteArray) (n : Int) : (rawI e s n).1.size ≤ s.size ∧ (rawI e s n).2.2.size ≤ s.size ∧ (0 ≤ n → ((rawI e s n).1.size : Int) ≤ n) := by
  unfold rawI
  split
  · exact ⟨by show 0 ≤ s.size; omega, Nat.le_refl _, fun h => h⟩
  · split
    · exact ⟨by show 0 ≤ s.size; omega, Nat.le_refl _, fun h => h⟩
    · split
      · exact ⟨by show 0 ≤ s.size; omega, Nat.le_refl _, fun h => h⟩
      · simp only [ByteArray.size_extract]
        omega

/-- Left. -/
def leftI (e : Int) (s : ByteArray) : Int := if e ≠ 0 then 0 else (s.size : Int)
end Go.Proofs.YtninoogbkaeihaaDoor

/- bits.In: numbers, texts. -/
namespace Go.Proofs.YtninoogbkaeihaaDoor
open Go.RowKit
set_option linter.unusedVariables false

theorem numL_snoc (l : List UInt8) (b : UInt8) : numL (l ++ [b]) = numL l + 256 ^ l.length * b.toNat := by
  induction l with
  | nil => simp [numL]
  | cons c r ih =>
    rw [List.cons_append, numL, ih, numL, List.length_cons, Nat.pow_succ, Nat.mul_add, ← Nat.mul_assoc, Nat.mul_comm 256 (256 ^ r.length)]
    omega
theorem numL_or (l : List UInt8) (b : UInt8) (hl : l.length < 8) : bits BinOp.or IntKind.u64 (numL l : Int) ((b.toNat : Int) * 2 ^ (8 * l.length) % 18446744073709551616) = (numL (l ++ [b]) : Int) := by
  have h1 := numL_lt l
  have hb := b.toNat_lt
  have hp : (256 : Nat) ^ l.length = 2 ^ (8 * l.length) := by rw [Nat.pow_mul]
  have hle : (256 : Nat) ^ l.length ≤ 256 ^ 7 := Nat.pow_le_pow_right (by decide) (by omega)
  have h3 : (256 : Nat) ^ 7 = 72057594037927936 := by decide
  have hm : 256 ^ l.length * b.toNat ≤ 72057594037927936 * 255 := Nat.mul_le_mul (by omega) (by omega)
  have e : ((b.toNat : Int) * 2 ^ (8 * l.length) % 18446744073709551616) = ((256 ^ l.length * b.toNat : Nat) : Int) := by
    have e2 : (b.toNat : Int) * 2 ^ (8 * l.length) = ((256 ^ l.length * b.toNat : Nat) : Int) := by
      rw [hp, Int.natCast_mul, Int.natCast_pow, Int.mul_comm]; rfl
    rw [e2]
    omega
  rw [e, u64_or_nat _ _ (by omega) (by omega), numL_snoc, Nat.or_comm]
  rw [hp] at h1 ⊢
  rw [← Nat.two_pow_add_eq_or_of_lt h1, Nat.add_comm]

/-- A number of so many bytes. -/
def lowI (e : Int) (s : ByteArray) (size : Nat) : Int × Int × ByteArray :=
  if 9223372036854775808 ≤ numL (rawI e s size).1.data.toList then (0, 6, (rawI e s size).2.2) else ((numL (rawI e s size).1.data.toList : Int), (rawI e s size).2.1, (rawI e s size).2.2)
theorem lowI_size (e : Int) (s : ByteArray) (size : Nat) : (lowI e s size).2.2.size ≤ s.size := by
  have := (rawI_size e s size).2.1
  unfold lowI
  split <;> exact this
set_option maxHeartbeats 1600000 in
set_option maxRecDepth 20000 in
theorem inLow_calls (size : Nat) (h8 : size ≤ 8) (g : Nat) (e : Int) (s0 : ByteArray) (w : World) (h : InS w g e s0) (hs0 : s0.size ≤ 1000000000) :
    Calls Tryd.prog 17 #[.pointer (some ⟨g, 0, none⟩), .int .i64 (size : Int)] w fun r w' => r = .returned (.int .i64 (lowI e s0 size).1) ∧ InS w' g (lowI e s0 size).2.1 (lowI e s0 size).2.2 ∧ Touched w w' [g] := by
  have HRo : Box _ := ⟨inRaw_calls g (size : Int) e s0 w h hs0⟩
  have hz := (rawI_size e s0 (size : Int)).2.2 (by omega)
  have hlow : ∀ t : ByteArray, ∀ x : Int, ∀ u : ByteArray, rawI e s0 (size : Int) = (t, x, u) → lowI e s0 size = if 9223372036854775808 ≤ numL t.data.toList then (0, 6, u) else ((numL t.data.toList : Int), x, u) := by
    intro t x u hh
    rw [lowI, hh]
  obtain ⟨⟨s, x, u⟩, hd⟩ : ∃ d, rawI e s0 (size : Int) = d := ⟨_, rfl⟩
  rw [hd] at HRo hz
  have HLo : Box _ := ⟨hlow s x u hd⟩
  clear h hlow hd
  obtain ⟨r0, hr0⟩ : ∃ r0, lowI e s0 size = r0 := ⟨_, rfl⟩
  rw [hr0] at HLo ⊢
  clear hr0
  have hs1 : s.size ≤ 8 := by
    have h1 : ((s.size : Nat) : Int) ≤ (size : Int) := hz
    omega
  have kb := fun (W : World) (s : ByteArray) => Lib.run_convert_string_bytes (P := Tryd.prog) W 9 24 5 s Tryd.underlying9 Tryd.underlying24 Tryd.underlying5
  clear hz
  go_enter Tryd.func17, Tryd.ntmps17
  go_wp2_with fail
  refine HRo.out.mono ?_
  rintro e w1 ⟨rfl, hI, hT⟩
  have HT : Box _ := ⟨hT⟩
  have HI : Box _ := ⟨hI⟩
  clear hT hI HRo
  go_wp2_with fail
  have HOB : Box _ := ⟨Own.bytes w1 5 s (by simp only [maxLen]; omega)⟩
  have HTB : Box (Touched w (Lib.bytesWorld w1 5 s) [g]) := ⟨HT.out.trans (Touched.of_below (bytes_below w1 5 s) [] |>.mono (by simp))⟩
  have HIB : Box (InS (Lib.bytesWorld w1 5 s) g x u) := ⟨HI.out.below (bytes_below w1 5 s)⟩
  have hn0 : numL s.data.toList < 18446744073709551616 := by
    have h1 := numL_lt s.data.toList
    rw [data_length] at h1
    have h2 : 256 ^ s.size ≤ 256 ^ 8 := Nat.pow_le_pow_right (by decide) hs1
    have h3 : (256 : Nat) ^ 8 = 18446744073709551616 := by decide
    omega
  go_loop [5, 13] (fun x i => ∃ k : Nat, k ≤ s.size ∧ i = .int .i64 (k : Int) ∧ x = .int .u64 (numL (s.data.toList.take k) : Int)) (fun _ i => s.size - (intOf i).toNat)
  case atStart => exact ⟨0, by omega, rfl, rfl⟩
  case round =>
    obtain ⟨k, hk, rfl, rfl⟩ := hrel
    by_cases hlt : k < s.size
    · have hlen : (s.data.toList.take k).length = k := by rw [List.length_take, data_length]; omega
      have hor := numL_or (s.data.toList.take k) s[k] (by omega)
      rw [hlen, ← take_snoc_str s k hlt] at hor
      obtain ⟨p, hp⟩ : ∃ p, numL (s.data.toList.take k) = p := ⟨_, rfl⟩
      obtain ⟨q, hq⟩ : ∃ q, numL (s.data.toList.take (k + 1)) = q := ⟨_, rfl⟩
      rw [hp, hq] at hor
      rw [hp]
      obtain ⟨c0, f0⟩ := HOB.out.cell (j := k) (u := .int .u8 (s[k].toNat : Int)) (bcells_at (by rw [Array.getElem?_toList, Array.getElem?_eq_getElem (show k < s.data.size from hlt)]; rfl))
      have y3 := IntWalk.i64_in (8 * (k : Int)) (by omega)
      have y4 : (8 * (k : Int)).toNat = 8 * k := by omega
      have y5 : (0 : Int) ≤ 8 * (k : Int) := by omega
      have HQ := Lib.hid hq
      have hw1 : IntKind.u64.wrap (s[k].toNat : Int) = (s[k].toNat : Int) := by rw [IntKind.wrap_u64]; have := s[k].toNat_lt; omega
      have HOR : Box (bits BinOp.or IntKind.u64 (p : Int) (IntKind.u64.wrap ((s[k].toNat : Int) * 2 ^ (8 * k))) = (q : Int)) := ⟨by rw [IntKind.wrap_u64]; exact hor⟩
      clear hor
      clear hlen hp hq
      go_wp2_with fail
      go_round
      case rel => exact ⟨k + 1, by omega, by go_num, by first | rw [HOR.out, HQ.out] | rw [hw1, HOR.out, HQ.out]⟩
      case measure => simp [intOf]; omega
    · obtain rfl : k = s.size := by omega
      have ht : s.data.toList.take s.size = s.data.toList := List.take_of_length_le (by rw [data_length]; omega)
      rw [ht]
      obtain ⟨p, hp⟩ : ∃ p, numL s.data.toList = p := ⟨_, rfl⟩
      rw [hp] at hn0 HLo ⊢
      clear ht hp
      by_cases hbig : 9223372036854775808 ≤ p
      · have HL1 : Box (r0 = (0, 6, u)) := ⟨by rw [HLo.out, if_pos hbig]⟩
        have y6 : IntKind.i64.wrap (p : Int) = (p : Int) - 18446744073709551616 := by rw [IntKind.wrap_i64]; omega
        have y7 : (p : Int) - 18446744073709551616 < 0 := by omega
        have f1 := HIB.out.f1
        have k1 := HIB.out.c1
        go_wp2_with fail
        go_ret
        exact ⟨by rw [HL1.out]; rfl, by rw [HL1.out]; exact HIB.out.fail 6, HTB.out.setCell (.inl (by simp)) _⟩
      · have HL1 : Box (r0 = ((p : Int), x, u)) := ⟨by rw [HLo.out, if_neg hbig]⟩
        have y6 := IntWalk.i64_in (p : Int) (by omega)
        have y7 : (0 : Int) ≤ (p : Int) := by omega
        go_wp2_with fail
        go_ret
        exact ⟨by rw [HL1.out]; rfl, by rw [HL1.out]; exact HIB.out, HTB.out⟩
end Go.Proofs.YtninoogbkaeihaaDoor

/- bits.In: Byte, Half, Word, Long (printed: alike), Text, Rest, End; of a nil reader. -/
namespace Go.Proofs.YtninoogbkaeihaaDoor
open Go.RowKit
set_option linter.unusedVariables false

theorem inRaw_nil (n : Int) (w : World) : Calls Tryd.prog 18 #[.pointer none, .int .i64 n] w fun r w' => r = .returned (.string ByteArray.empty) ∧ w = w' := by
  go_enter Tryd.func18, Tryd.ntmps18
  go_wp2_with fail
  go_ret
  exact ⟨rfl, rfl⟩
theorem inLow_nil (size : Nat) (w : World) : Calls Tryd.prog 17 #[.pointer none, .int .i64 (size : Int)] w fun r w' => r = .returned (.int .i64 0) ∧ Below w.heap.size w w' := by
  have H : Box _ := ⟨fun W => inRaw_nil (size : Int) W⟩
  have kb := fun (W : World) (s : ByteArray) => Lib.run_convert_string_bytes (P := Tryd.prog) W 9 24 5 s Tryd.underlying9 Tryd.underlying24 Tryd.underlying5
  have HB : Box _ := ⟨bytes_below w 5 ByteArray.empty⟩
  have hz : ByteArray.empty.size = 0 := rfl
  go_enter Tryd.func17, Tryd.ntmps17
  go_wp2_with fail
  refine Calls.mono (H.out _) ?_
  rintro r w1 ⟨rfl, rfl⟩
  go_wp2_with fail
  go_loop [5, 13] (fun x i => i = .int .i64 0 ∧ x = .int .u64 0) (fun _ i => 1)
  case atStart => exact ⟨rfl, rfl⟩
  case round =>
    obtain ⟨rfl, rfl⟩ := hrel
    go_wp2_with fail
    go_ret
    exact ⟨rfl, HB.out⟩

theorem inHalf_calls (g : Nat) (e : Int) (s : ByteArray) (w : World) (h : InS w g e s) (hs : s.size ≤ 1000000000) :
    Calls Tryd.prog 12 #[.pointer (some ⟨g, 0, none⟩)] w fun r w' => r = .returned (.int .i64 (lowI e s 2).1) ∧ InS w' g (lowI e s 2).2.1 (lowI e s 2).2.2 ∧ Touched w w' [g] := by
  have H : Box _ := ⟨inLow_calls 2 (by omega) g e s w h hs⟩
  clear h
  obtain ⟨d, hd⟩ : ∃ d, lowI e s 2 = d := ⟨_, rfl⟩
  rw [hd] at H ⊢
  clear hd
  go_enter Tryd.func12, Tryd.ntmps12
  go_wp2_with fail
  refine Calls.mono H.out ?_
  rintro r w1 ⟨rfl, h1, h2⟩
  go_wp2_with fail
  go_ret
  exact ⟨rfl, h1, h2⟩
theorem inHalf_nil (w : World) : Calls Tryd.prog 12 #[.pointer none] w fun r w' => r = .returned (.int .i64 0) ∧ Below w.heap.size w w' := by
  have H : Box _ := ⟨fun W => inLow_nil 2 W⟩
  go_enter Tryd.func12, Tryd.ntmps12
  go_wp2_with fail
  refine Calls.mono (H.out _) ?_
  rintro r w1 ⟨rfl, h1⟩
  go_wp2_with fail
  go_ret
  exact ⟨rfl, h1⟩

/-- Text. -/
def textI (e : Int) (s : ByteArray) : ByteArray × Int × ByteArray := rawI (lowI e s 2).2.1 (lowI e s 2).2.2 (lowI e s 2).1
theorem inText_calls (g : Nat) (e : Int) (s : ByteArray) (w : World) (h : InS w g e s) (hs : s.size ≤ 1000000000) :
    Calls Tryd.prog 13 #[.pointer (some ⟨g, 0, none⟩)] w fun r w' => r = .returned (.string (textI e s).1) ∧ InS w' g (textI e s).2.1 (textI e s).2.2 ∧ Touched w w' [g] := by
  have H : Box _ := ⟨inHalf_calls g e s w h hs⟩
  have hz := lowI_size e s 2
  clear h
  rw [textI]
  obtain ⟨⟨x, y, t⟩, hd⟩ : ∃ d, lowI e s 2 = d := ⟨_, rfl⟩
  rw [hd] at H hz ⊢
  have HZ : Box (t.size ≤ 1000000000) := ⟨Nat.le_trans hz hs⟩
  obtain ⟨d2, hd2⟩ : ∃ d2, rawI (x, y, t).2.1 (x, y, t).2.2 (x, y, t).1 = d2 := ⟨_, rfl⟩
  rw [hd2]
  have HD2 : Box (rawI y t x = d2) := ⟨hd2⟩
  clear hd hz hd2
  go_enter Tryd.func13, Tryd.ntmps13
  go_wp2_with fail
  refine Calls.mono H.out ?_
  rintro r w1 ⟨rfl, h1, h2⟩
  have H2 : Box _ := ⟨inRaw_calls g x y t w1 h1 HZ.out⟩
  have HT : Box _ := ⟨h2⟩
  clear h1 h2
  rw [HD2.out] at H2
  go_wp2_with fail
  refine Calls.mono H2.out ?_
  rintro r w2 ⟨rfl, h3, h4⟩
  go_wp2_with fail
  go_ret
  exact ⟨rfl, h3, HT.out.trans h4⟩
end Go.Proofs.YtninoogbkaeihaaDoor

/- bits.In: Rest, End. -/
namespace Go.Proofs.YtninoogbkaeihaaDoor
open Go.RowKit
set_option linter.unusedVariables false

/-- All that is left are zero bytes. -/
def zeroB (s : ByteArray) : Bool := s.data.toList.all (· == 0)
theorem dropAll_nil (p : UInt8 → Bool) (l : List UInt8) : l.dropWhile p = [] ↔ ∀ x ∈ l, p x = true := by
  induction l with
  | nil => simp
  | cons y ys ih =>
    rw [List.dropWhile_cons]
    by_cases h : p y = true
    · rw [if_pos h, ih]; simp [h]
    · rw [if_neg h]; simp [h]
theorem dropAll_head (p : UInt8 → Bool) (l : List UInt8) (y : UInt8) (ys : List UInt8) (h : l.dropWhile p = y :: ys) : ¬ p y = true := by
  induction l with
  | nil => simp at h
  | cons z zs ih =>
    rw [List.dropWhile_cons] at h
    by_cases hz : p z = true
    · rw [if_pos hz] at h; exact ih h
    · rw [if_neg hz] at h; injection h with h1 h2; rw [← h1]; exact hz
theorem trimB_nil (l : List UInt8) : Lib.trimB l 0 = [] ↔ l.all (· == 0) = true := by
  unfold Lib.trimB Lib.trimLeftB Lib.trimRightB
  rw [dropAll_nil, List.all_eq_true]
  constructor
  · intro h
    have h2 : l.reverse.dropWhile (· == (0 : UInt8)) = [] := by
      cases hd : l.reverse.dropWhile (· == (0 : UInt8)) with
      | nil => rfl
      | cons y ys =>
        have hy := h y (by rw [hd]; simp)
        exact absurd hy (dropAll_head (· == (0 : UInt8)) _ _ _ hd)
    rw [dropAll_nil] at h2
    exact fun x hx => h2 x (by simpa using hx)
  · intro h x hx
    have h2 : l.reverse.dropWhile (· == (0 : UInt8)) = [] := (dropAll_nil _ _).2 (fun x hx => h x (by simpa using hx))
    rw [h2] at hx
    simp at hx
theorem empty_toList : ByteArray.empty.toList = [] := by
  have h := str_beq ByteArray.empty ByteArray.empty
  cases hh : ByteArray.empty.toList with
  | nil => rfl
  | cons x xs => have := congrArg List.length hh; simp [ByteArray.toList, ByteArray.toList.loop] at this
theorem trim_zero (s : ByteArray) : (⟨(Lib.trimB s.data.toList 0).toArray⟩ : ByteArray).toList.isEmpty = zeroB s := by
  have e0 : ∀ t : ByteArray, t.toList.isEmpty = (t.toList == ByteArray.empty.toList) := by
    intro t; rw [empty_toList]; cases t.toList <;> rfl
  rw [e0, str_beq]
  have e1 : ((⟨(Lib.trimB s.data.toList 0).toArray⟩ : ByteArray) = ByteArray.empty) ↔ Lib.trimB s.data.toList 0 = [] := by
    constructor
    · intro h
      have := congrArg (fun b : ByteArray => b.data.toList) h
      simpa using this
    · intro h; rw [h]; rfl
  have e2 := e1.trans (trimB_nil s.data.toList)
  cases h : zeroB s
  · exact decide_eq_false (fun hh => by have := e2.1 hh; rw [zeroB] at h; rw [h] at this; cases this)
  · exact decide_eq_true (e2.2 h)
def restI (e : Int) (s : ByteArray) : Bool := decide (e = 0) && zeroB s
theorem inRest_calls (g : Nat) (e : Int) (s : ByteArray) (w : World) (h : InS w g e s) (hs : s.size ≤ 1000000000) :
    Calls Tryd.prog 19 #[.pointer (some ⟨g, 0, none⟩)] w fun r w' => r = .returned (.bool (restI e s)) ∧ Below w.heap.size w w' := by
  have k0 := h.c0
  have k1 := h.c1
  clear h
  by_cases he : e = 0
  · subst he
    have hr : restI 0 s = zeroB s := by simp [restI]
    rw [hr]
    have HT : Box _ := ⟨Tryd.strings_Trim_one s 0 (by decide) w (by omega)⟩
    have hz := trim_zero s
    clear hr
    obtain ⟨t, ht⟩ : ∃ t : ByteArray, ⟨(Lib.trimB s.data.toList 0).toArray⟩ = t := ⟨_, rfl⟩
    rw [ht] at HT hz
    clear ht
    obtain ⟨z, hz2⟩ : ∃ z, zeroB s = z := ⟨_, rfl⟩
    rw [hz2] at hz ⊢
    clear hz2
    go_enter Tryd.func19, Tryd.ntmps19
    go_wp2_with fail
    refine Calls.mono HT.out ?_
    rintro r w1 ⟨rfl, hw⟩
    have HB : Box (Below w.heap.size w w1) := ⟨by
      rcases hw with rfl | rfl
      · exact Below.refl _ _
      · exact below_drewN (Below.refl _ _) 1⟩
    clear hw
    go_wp2_with fail
    go_ret
    exact ⟨ret_bool (by first | rfl | exact hz), HB.out⟩
  · have hr : restI e s = false := by simp [restI, he]
    rw [hr]
    clear hr
    go_enter Tryd.func19, Tryd.ntmps19
    go_wp2_with fail
    go_ret
    exact ⟨rfl, Below.refl _ _⟩
theorem inRest_nil (w : World) : Calls Tryd.prog 19 #[.pointer none] w fun r w' => r = .returned (.bool false) ∧ w = w' := by
  go_enter Tryd.func19, Tryd.ntmps19
  go_wp2_with fail
  go_ret
  exact ⟨rfl, rfl⟩
/-- End. -/
def endI (e : Int) (s : ByteArray) : Int := if e = 0 ∧ zeroB s = false then 6 else e
theorem inEnd_calls (g : Nat) (e : Int) (s : ByteArray) (w : World) (h : InS w g e s) (hs : s.size ≤ 1000000000) :
    Calls Tryd.prog 14 #[.pointer (some ⟨g, 0, none⟩)] w fun r w' => r = .returned (.int .i64 (endI e s)) ∧ InS w' g (endI e s) s ∧ Touched w w' [g] := by
  have HI : Box _ := ⟨h⟩
  have HR : Box _ := ⟨inRest_calls g e s w h hs⟩
  have k1 := h.c1
  clear h
  by_cases he : e = 0
  · subst he
    by_cases hz : zeroB s = true
    · have hr : restI 0 s = true := by simp [restI, hz]
      have hd : endI 0 s = 0 := by rw [endI, if_neg (by simp [hz])]
      rw [hr] at HR
      rw [hd]
      clear hr hd hz
      go_enter Tryd.func14, Tryd.ntmps14
      go_wp2_with fail
      refine Calls.mono HR.out ?_
      rintro r w1 ⟨rfl, hb⟩
      have HI1 : Box _ := ⟨HI.out.below hb⟩
      have HT1 : Box _ := ⟨Touched.of_below hb [g]⟩
      clear hb k1
      have k1 := HI1.out.c1
      go_wp2_with fail
      go_ret
      exact ⟨rfl, HI1.out, HT1.out⟩
    · have hr : restI 0 s = false := by simp [restI, hz]
      have hd : endI 0 s = 6 := by rw [endI, if_pos ⟨rfl, by simpa using hz⟩]
      rw [hr] at HR
      rw [hd]
      clear hr hd hz
      go_enter Tryd.func14, Tryd.ntmps14
      go_wp2_with fail
      refine Calls.mono HR.out ?_
      rintro r w1 ⟨rfl, hb⟩
      have HI1 : Box _ := ⟨HI.out.below hb⟩
      have HT1 : Box _ := ⟨Touched.of_below hb [g]⟩
      clear hb k1
      have k1 := HI1.out.c1
      have f1 := HI1.out.f1
      have k2 := (HI1.out.fail 6).c1
      go_wp2_with fail
      go_ret
      exact ⟨rfl, HI1.out.fail 6, HT1.out.setCell (.inl (by simp)) _⟩
  · have hd : endI e s = e := by rw [endI, if_neg (fun h => he h.1)]
    rw [hd]
    clear hd
    go_enter Tryd.func14, Tryd.ntmps14
    go_wp2_with fail
    go_ret
    exact ⟨rfl, HI.out, Touched.refl _ _⟩
theorem inEnd_nil (w : World) : Calls Tryd.prog 14 #[.pointer none] w fun r w' => r = .returned (.int .i64 1) ∧ w = w' := by
  go_enter Tryd.func14, Tryd.ntmps14
  go_wp2_with fail
  go_ret
  exact ⟨rfl, rfl⟩
end Go.Proofs.YtninoogbkaeihaaDoor

/- masonrylaw1.alive: a first call; a new Out. -/
namespace Go.Proofs.YtninoogbkaeihaaDoor
open Go.RowKit
set_option linter.unusedVariables false

theorem outNew (w : World) : OutS (w.alloc (.cells #[.slice none 0 0, .int .i64 0] 27)) w.heap.size (.slice none 0 0) 0 [] := by
  have hb := heap_alloc_new w (.cells #[.slice none 0 0, .int .i64 0] 27)
  exact ⟨⟨rfl, .inl ⟨rfl, rfl⟩⟩, cell_of_row _ _ 0 _ _ (0, 0) hb, cell_of_row _ _ 1 _ _ (0, 0) hb, frozen_of_row _ _ 0 _ _ hb, frozen_of_row _ _ 1 _ _ hb⟩
def aliveS : ByteArray := ⟨#[2, 1, 1, 0, 1, 0, 97]⟩
theorem alive_lay : layO 2 (0, []) [258, 1] = (0, [2, 1, 1, 0]) := by decide +kernel
theorem alive_text : textO (0, [2, 1, 1, 0]) [⟨#[97]⟩] = (0, [2, 1, 1, 0, 1, 0, 97]) := by decide +kernel
theorem alive_end : endO (0, [2, 1, 1, 0, 1, 0, 97]) = (aliveS, 0) := by decide +kernel
theorem alive_r1 : lowI 0 aliveS 2 = (258, 0, ⟨#[1, 0, 1, 0, 97]⟩) := by decide +kernel
theorem alive_r2 : lowI 0 ⟨#[1, 0, 1, 0, 97]⟩ 2 = (1, 0, ⟨#[1, 0, 97]⟩) := by decide +kernel
theorem alive_r3 : textI 0 ⟨#[1, 0, 97]⟩ = (⟨#[97]⟩, 0, ByteArray.empty) := by decide +kernel
theorem alive_r4 : endI 0 ByteArray.empty = 0 := by decide +kernel

set_option maxHeartbeats 1600000 in
theorem bitsAlive_calls (w : World) : Calls Tryd.prog 4 #[] w fun e w' => e = .returned (.bool true) ∧ Below w.heap.size w w' := by
  have HO1 : Box _ := ⟨outNew w⟩
  have HB1 : Box (Below w.heap.size w (w.alloc (.cells #[.slice none 0 0, .int .i64 0] 27))) := ⟨(Below.refl _ _).alloc (Nat.le_refl _) _⟩
  have H1 : Box _ := ⟨outHalf_new w.heap.size (.slice none 0 0) 0 [] 2 [258, 1] _ rfl HO1.out (by omega) (by decide) (by decide)⟩
  rw [alive_lay] at H1
  have hsz1 : (w.alloc (.cells #[.slice none 0 0, .int .i64 0] 27)).heap.size = w.heap.size + 1 := by simp
  rw [hsz1] at H1
  clear hsz1
  go_enter Tryd.func4, Tryd.ntmps4
  go_wp2_with fail
  refine Calls.mono H1.out ?_
  rintro r w1 ⟨rfl, ⟨v1, h1, h2⟩, h3⟩
  have HB2 : Box (Below w.heap.size w w1) := ⟨h3.below HB1.out HB1.out.size (by simp [Value.ownBlock])⟩
  have HV : Box (∀ b, v1.ownBlock = some b → w.heap.size ≤ b) := ⟨fun b hb => (h2 b hb).elim (fun h => by simp [Value.ownBlock] at h) (fun h => by simp at h; omega)⟩
  have H2 : Box _ := ⟨outText_new w.heap.size v1 0 [2, 1, 1, 0] 1 [⟨#[97]⟩] w1 rfl h1 (by omega) (by decide)⟩
  rw [alive_text] at H2
  clear h1 h2 h3
  go_wp2_with fail
  refine Calls.mono H2.out ?_
  rintro r w2 ⟨rfl, ⟨v2, h1, h2⟩, h3⟩
  have HB3 : Box (Below w.heap.size w w2) := ⟨h3.below HB2.out HB2.out.size (by
    intro k hk
    simp only [List.mem_cons, Option.mem_toList] at hk
    rcases hk with rfl | hk
    · omega
    · exact HV.out k hk)⟩
  have H3 : Box _ := ⟨outEnd_calls w.heap.size v2 0 _ w2 h1⟩
  rw [alive_end, aliveS] at H3
  clear h1 h2 h3
  go_wp2_with fail
  refine Calls.mono H3.out ?_
  rintro r w3 ⟨rfl, hb⟩
  have HB4 : Box _ := ⟨below_trans' HB3.out hb⟩
  clear hb
  go_wp2_with fail
  refine (on_calls ⟨#[2, 1, 1, 0, 1, 0, 97]⟩ w3).mono ?_
  rintro r w4 ⟨rfl, h1, hb⟩
  have HB5 : Box _ := ⟨below_trans' HB4.out hb⟩
  have HI : Box _ := ⟨h1⟩
  obtain ⟨g, hg⟩ : ∃ g, w3.heap.size = g := ⟨_, rfl⟩
  have HG : Box (w.heap.size ≤ g) := ⟨by rw [← hg]; exact HB4.out.size⟩
  rw [hg] at HI ⊢
  clear hb h1 hg
  have H4 : Box _ := ⟨inHalf_calls g 0 aliveS w4 HI.out (by decide)⟩
  rw [alive_r1] at H4
  go_wp2_with fail
  refine Calls.mono H4.out ?_
  rintro r w5 ⟨rfl, h1, hT⟩
  have H5 : Box _ := ⟨inHalf_calls g 0 _ w5 h1 (by decide)⟩
  rw [alive_r2] at H5
  have HB6 : Box (Below w.heap.size w w5) := ⟨hT.below HB5.out HB5.out.size (by have := HG.out; simpa using this)⟩
  clear h1 hT
  go_wp2_with fail
  refine Calls.mono H5.out ?_
  rintro r w6 ⟨rfl, h1, hT⟩
  have H6 : Box _ := ⟨inText_calls g 0 _ w6 h1 (by decide)⟩
  rw [alive_r3] at H6
  have HB7 : Box (Below w.heap.size w w6) := ⟨hT.below HB6.out HB6.out.size (by have := HG.out; simpa using this)⟩
  clear h1 hT
  go_wp2_with fail
  refine Calls.mono H6.out ?_
  rintro r w7 ⟨rfl, h1, hT⟩
  have H7 : Box _ := ⟨inEnd_calls g 0 _ w7 h1 (by decide)⟩
  rw [alive_r4] at H7
  have HB8 : Box (Below w.heap.size w w7) := ⟨hT.below HB7.out HB7.out.size (by have := HG.out; simpa using this)⟩
  clear h1 hT
  go_wp2_with fail
  refine Calls.mono H7.out ?_
  rintro r w8 ⟨rfl, h1, hT⟩
  have HB9 : Box (Below w.heap.size w w8) := ⟨hT.below HB8.out HB8.out.size (by have := HG.out; simpa using this)⟩
  clear h1 hT
  go_wp2_with fail
  go_ret
  exact ⟨rfl, HB9.out⟩
end Go.Proofs.YtninoogbkaeihaaDoor
