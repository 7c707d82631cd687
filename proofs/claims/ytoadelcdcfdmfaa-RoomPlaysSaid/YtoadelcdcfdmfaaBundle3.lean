/- Words and contracts that this claim leans on, one text behind the other. -/
import Derived.Test.YtoadelcdcfdmfaaBundle1
import Derived.Test.YtoadelcdcfdmfaaBundle2
import Derived.Test.YtoadelcdcfdmfaaShelf
import Derived.Test.YtoadelcdcfdmfaaMix
import Derived.Deep.OwnRows
import Derived.Deep.RegionLaw
import Derived.Deep.MidRow
import Derived.Deep.RegionHeld3
import Derived.Test.YtoadelcdcfdmfaaOutLay
import Derived.Laws.BitsAllLaws
/- What the library's strings.Builder and strings.Join do, over rows and lists of texts. -/
namespace Go.Proofs.Ytoadelcdcfdmfaa
open Go.RowKit
set_option linter.unusedVariables false

end Go.Proofs.Ytoadelcdcfdmfaa

/- shaone: bytes of a number, what stands behind bytes; and the reference's. -/
namespace Go.Proofs.Ytoadelcdcfdmfaa
open Go.RowKit
set_option linter.unusedVariables false

theorem el_u8 : El Try.prog 67 5 1 1 := El.mk' Try.underlying67 (z := .int .u8 0) (by kernel_rfl) (by decide)
/-- make([]byte, n). -/
theorem make_u8 (n : Nat) (hn : n ≤ 281474976710656) (W : World) : (Instr.makeSlice 67 (.int .i64 (n : Int)) (.int .i64 (n : Int))).run Try.prog W = .ok (.slice (some ⟨W.heap.size, 0, none⟩) n n) (W.alloc (.cells (bcells (List.replicate n 0)).toArray 5)) := by
  have h := run_make_row' (P := Try.prog) 67 5 (.int .u8 0) 1 Try.underlying67 (by kernel_rfl) rfl .i64 .i64 n (by omega) (by omega) W
  have e : madeCells #[.int .u8 0] n = (bcells (List.replicate n 0)).toArray := by
    apply Array.toList_inj.mp
    rw [toList_madeCells_one]
    simp [bcells]
  rw [e] at h
  exact h
theorem zeros_own (W : World) (n : Nat) (hn : n ≤ maxLen) : Own (W.alloc (.cells (bcells (List.replicate n 0)).toArray 5)) W.heap.size 1 (.slice (some ⟨W.heap.size, 0, none⟩) n n) n (bcells (List.replicate n 0)) := by
  have h := Own.fresh W (bcells (List.replicate n 0)).toArray 5 (by simpa [bcells] using hn)
  simpa [bcells] using h

/-- The bytes of a number, the highest one first. -/
def hiB (v n i : Nat) : UInt8 := UInt8.ofNat (v / 2 ^ (8 * (n - 1 - i)))
def hiL (v n : Nat) : List UInt8 := (List.range n).map (hiB v n)
def hiG (v n k : Nat) : List UInt8 := (List.range n).map fun i => if i < k then hiB v n i else 0
theorem hiG_zero (v n : Nat) : hiG v n 0 = List.replicate n 0 := by
  apply List.ext_getElem?; intro i; by_cases h : i < n <;> simp [hiG, h]
theorem hiG_full (v n : Nat) : hiG v n n = hiL v n := by
  unfold hiG hiL; apply List.map_congr_left; intro i hi; rw [if_pos (List.mem_range.1 hi)]
theorem hiG_set (v n k : Nat) (h : k < n) : (bcells (hiG v n k)).set k (.int .u8 ((hiB v n k).toNat : Int)) = bcells (hiG v n (k + 1)) := by
  apply List.ext_getElem?
  intro i
  rw [List.getElem?_set]
  by_cases hi : i < n
  · by_cases e : k = i
    · subst e; simp [bcells, hiG, hi]
    · rw [if_neg e]
      have : (i < k) ↔ (i < k + 1) := by omega
      simp [bcells, hiG, hi, this]
  · have e : ¬ k = i := by omega
    rw [if_neg e]
    simp [bcells, hiG, hi]
theorem hiG_length (v n k : Nat) : (hiG v n k).length = n := by simp [hiG]
theorem hiL_length (v n : Nat) : (hiL v n).length = n := by simp [hiL]
theorem hiB_val (v n i : Nat) : ((v : Int) / 2 ^ (8 * (n - 1 - i))) % 256 = ((hiB v n i).toNat : Int) := by
  have e : ((2 : Int) ^ (8 * (n - 1 - i))) = ((2 ^ (8 * (n - 1 - i)) : Nat) : Int) := (Int.natCast_pow 2 _).symm
  rw [hiB, e, ← Int.natCast_ediv]
  generalize v / 2 ^ (8 * (n - 1 - i)) = q
  simp

/-- So many zero bytes. -/
def zerosB (n : Nat) : ByteArray := ⟨(List.replicate n (0 : UInt8)).toArray⟩
theorem zerosB_size (n : Nat) : (zerosB n).size = n := by simp [zerosB, ByteArray.size]
theorem zeros_calls (n : Nat) (w : World) (hn : n ≤ 140737488355328) : Calls Try.prog 40 #[.int .i64 (n : Int)] w fun e w' => e = .returned (.string (zerosB n)) ∧ Below w.heap.size w w' := by
  have hmk := fun W => make_u8 n (by omega) W
  have hO := zeros_own w n (by unfold maxLen; omega)
  have hcv := bytes_str Try.prog 67 5 9 Try.underlying67 Try.underlying5 Try.underlying9 (some ⟨w.heap.size, 0, none⟩) n n (List.replicate n 0) _ (by simp) (by
        obtain ⟨A, c, e, _, hr, _⟩ := hO.slice
        injection e with e1 e2 e3
        subst e1
        exact hr)
  clear hO
  go_enter Try.func40, Try.ntmps40
  go_wp2
  go_ret
  exact ⟨rfl, (Below.refl _ _).alloc (Nat.le_refl _) _⟩

theorem hiL8 (n : Nat) : hiL n 8 = hi8 n := by
  simp [hiL, hi8, hiB, List.range_succ]
theorem hiL4 (x : BitVec 32) : hiL x.toNat 4 = hi4 x := by
  simp [hiL, hi4, hiB, List.range_succ]
/-- What stands behind so many bytes. -/
def padB (n : Int) : ByteArray := if n < 0 ∨ 1099511627776 < n then ByteArray.empty else ⟨(padL n.toNat).toArray⟩
theorem app_mk (a b : List UInt8) : (⟨a.toArray⟩ : ByteArray) ++ ⟨b.toArray⟩ = ⟨(a ++ b).toArray⟩ := by
  apply ByteArray.ext
  rw [ByteArray.data_append]
  simp
/-- An append as a step of a region that draws its order. -/
theorem step_appO {P : Program} {ops : Array Oper} {o : Oper} {a : Act} {K : Act → World → Prop} {Q : Exit → Act → World → Prop} {E' : Prop} {t e : TypeId} {size bytes : Nat} (E : El P t e size bytes) {W : World} (base : Nat) (hgd : o.guard = none) (s x : Operand)
    (ho : o.op = .call { callee := .builtin .append, args := #[s, x], argTypes := #[t, t] })
    {v : Value} {n : Nat} {xs : List Value} (hs : a.eval s = v) (hown : Own W base size v n xs)
    {A : Option Addr} {m c : Nat} {news : List Value} (hx : a.eval x = .slice A m c) (hl : news.length = m * size) (hR : RowAt W A news) (h1 : ∀ u ∈ news, u.oneCell' = true)
    (hbytes : (n + m) * bytes ≤ 140737488355328) (hbase : base ≤ W.heap.size)
    (h : ∀ v' w', Own w' base size v' (n + m) (xs ++ news) → W.grownBy w' v.ownBlock → (v'.ownBlock = v.ownBlock ∨ ∃ b, v'.ownBlock = some b ∧ W.heap.size ≤ b) → K (a.put o.dst v') w') :
    if Region.wanted o (yielded ops a.tmps) = true then Oper.wp P o a W K Q else E' := by
  have hw : Region.wanted o (yielded ops a.tmps) = true := by simp [Region.wanted, hgd]
  rw [if_pos hw]
  obtain ⟨v', w', hr, h2, h3, h4⟩ := run_appO E W base o.type v n xs hown A m c news hl hR h1 hbytes hbase
  unfold Oper.wp execOp
  simp only [ho, resolve, invoke, builtin, Sem.run_bind, Sem.run_pure, Result.andThen_ok, List.map_toArray, List.map_cons, List.map_nil, hs, hx, hr]
  exact h v' w' h2 h3 h4

theorem RowAt.drew {w : World} {A : Option Addr} {cs : List Value} (h : RowAt w A cs) : RowAt w.drew A cs := h
/-- Bytes in digits. -/
def hexD (n : Nat) : UInt8 := if n < 10 then UInt8.ofNat (48 + n) else UInt8.ofNat (87 + n)
def hexL (l : List UInt8) : List UInt8 := l.flatMap fun b => [hexD (b.toNat / 16), hexD (b.toNat % 16)]
theorem hexL_snoc (l : List UInt8) (b : UInt8) : hexL (l ++ [b]) = hexL l ++ [hexD (b.toNat / 16), hexD (b.toNat % 16)] := by simp [hexL]
theorem hexL_length (l : List UInt8) : (hexL l).length = 2 * l.length := by
  induction l with
  | nil => rfl
  | cons b l ih => simp only [hexL, List.flatMap_cons, List.length_append, List.length_cons, List.length_nil] at *; omega
def hexDigits : ByteArray := ⟨#[48, 49, 50, 51, 52, 53, 54, 55, 56, 57, 97, 98, 99, 100, 101, 102]⟩
theorem hexD_at (n : Nat) (h : n < hexDigits.size) : hexDigits[n] = hexD n := by
  have h' : n < 16 := h
  revert h
  have : ∀ m : Fin 16, ∀ h : m.val < hexDigits.size, hexDigits[m.val] = hexD m.val := by decide
  intro h
  exact this ⟨n, h'⟩ h
theorem hexD_lit (q : Nat) (h : q < (⟨#[48, 49, 50, 51, 52, 53, 54, 55, 56, 57, 97, 98, 99, 100, 101, 102]⟩ : ByteArray).size) : (⟨#[48, 49, 50, 51, 52, 53, 54, 55, 56, 57, 97, 98, 99, 100, 101, 102]⟩ : ByteArray)[q] = hexD q := hexD_at q h

end Go.Proofs.Ytoadelcdcfdmfaa

/- Words for regions that draw their order, and for rows behind what a call changed (of no one seat's functions). -/
namespace Go.Proofs.Ytoadelcdcfdmfaa
open Go.RowKit
set_option linter.unusedVariables false

theorem rowAt_alloc_k (w : World) (cs : List Value) (t : TypeId) {k : Nat} (hk : k = w.heap.size) : RowAt (w.alloc (.cells cs.toArray t)) (some ⟨k, 0, none⟩) cs := by
  subst hk
  exact rowAt_alloc w cs t
theorem bel_alloc {w W : World} (h : Below w.heap.size w W) (o : Obj) : Below w.heap.size w (W.alloc o) := h.alloc h.size o
theorem bel_drew {w W : World} (h : Below w.heap.size w W) : Below w.heap.size w W.drew := ⟨h.os, h.tape, h.output, h.size, h.block⟩
theorem bel_calls {w W w' : World} (h : Below w.heap.size w W) (k : Below W.heap.size W w') : Below w.heap.size w w' := below_trans' h k
theorem row_drew {w : World} {A : Option Addr} {cs : List Value} (h : RowAt w A cs) : RowAt w.drew A cs := h
theorem grown_nil {W w' : World} {n c : Nat} (h : W.grownBy w' (Value.slice none n c).ownBlock) : Below W.heap.size W w' := ⟨h.os, h.tape, h.output, h.size, fun k hk => h.block k hk (by simp [Value.ownBlock])⟩
theorem row_touched {w w' : World} {A : Option Addr} {xs : List Value} {bs : List Nat} (h : RowAt w A xs) (hT : Touched w w' bs) (hA : A = none ∨ ∃ g, A = some ⟨g, 0, none⟩ ∧ g ∉ bs) : RowAt w' A xs := by
  rcases hA with rfl | ⟨g, rfl, hg⟩
  · rcases h with h | ⟨ad, e, _⟩
    · exact .inl h
    · cases e
  · rcases h with h | ⟨ad, e, hc⟩
    · exact .inl h
    · refine .inr ⟨ad, e, fun j u hu => ?_⟩
      injection e with e
      subst e
      have := hc j u hu
      rw [add0] at this ⊢
      exact (hT.cell (World.block_lt_of_cell? w _ this) hg).trans this

end Go.Proofs.Ytoadelcdcfdmfaa

/- bits.Out: Byte, Half, Word, Long; lists that were just built; Text; End. (The four are printed by a program: alike.) -/
namespace Go.Proofs.Ytoadelcdcfdmfaa.B
open Go.RowKit
set_option linter.unusedVariables false

theorem OutS.newRow {w : World} {g : Nat} {v : Value} {e : Int} {l : List UInt8} (h : OutS w g v e l) (xs : List Value) (t : TypeId) : ∀ w', Touched (w.alloc (.cells xs.toArray t)) w' (g :: v.ownBlock.toList) → RowAt w' (some ⟨w.heap.size, 0, none⟩) xs := by
  intro w' hT
  refine row_touched (rowAt_alloc w xs t) hT (.inr ⟨_, rfl, ?_⟩)
  intro hm
  have h1 := h.lt
  simp only [List.mem_cons, Option.mem_toList] at hm
  rcases hm with hm | hm
  · omega
  · have := h.vlt hm; omega
theorem OutS.alloc {w : World} {g : Nat} {v : Value} {e : Int} {l : List UInt8} (h : OutS w g v e l) (o : Obj) : OutS (w.alloc o) g v e l := h.below ((Below.refl _ _).alloc (Nat.le_refl _) o)
theorem OutTo.alloc {w w' : World} {g : Nat} {v : Value} {d : Int × List UInt8} {o : Obj} (h : OutTo (w.alloc o) w' g v d) : OutTo w w' g v d := OutTo.trans ((Touched.refl w _).alloc o) (fun _ h => .inl h) h
theorem OutTo.below {w w' w2 : World} {g : Nat} {v : Value} {d : Int × List UInt8} (h : OutTo w w' g v d) (hb : Below w'.heap.size w' w2) : OutTo w w2 g v d := by
  obtain ⟨⟨v', h1, h2⟩, h3⟩ := h
  exact ⟨⟨v', h1.below hb, h2⟩, h3.trans (Touched.of_below hb _)⟩

theorem outByte_calls (g : Nat) (v : Value) (e : Int) (l : List UInt8) (A : Option Addr) (n c : Nat) (xs : List Int) (w : World) (hxn : xs.length = n) (hO : OutS w g v e l) (hn : n ≤ 1000000) (hsz : l.length ≤ 1000000000) (hx : ∀ z ∈ xs, -9223372036854775808 ≤ z ∧ z ≤ 9223372036854775807)
    (hR : ∀ w', Touched w w' (g :: v.ownBlock.toList) → RowAt w' A (icells xs)) :
    Calls Try.prog 29 #[.pointer (some ⟨g, 0, none⟩), .slice A n c] w fun r w' => r = .returned (.pointer (some ⟨g, 0, none⟩)) ∧ OutTo w w' g v (layO 1 (e, l) xs) := by
  subst hxn
  have H : Box _ := ⟨outLay_calls 1 (by omega) (by omega) g v e l A c xs w hO hn hsz hx hR⟩
  clear hO hR hx
  obtain ⟨d, hd⟩ : ∃ d, layO 1 (e, l) xs = d := ⟨_, rfl⟩
  rw [hd] at H ⊢
  clear hd
  go_enter Try.func29, Try.ntmps29
  go_wp2_with fail
  refine Calls.mono H.out ?_
  rintro r w1 ⟨rfl, h1⟩
  go_wp2_with fail
  go_ret
  exact ⟨rfl, h1⟩
theorem outByte_new (g : Nat) (v : Value) (e : Int) (l : List UInt8) (n : Nat) (xs : List Int) (w : World) (hxn : xs.length = n) (hO : OutS w g v e l) (hn : n ≤ 1000000) (hsz : l.length ≤ 1000000000) (hx : ∀ z ∈ xs, -9223372036854775808 ≤ z ∧ z ≤ 9223372036854775807) :
    Calls Try.prog 29 #[.pointer (some ⟨g, 0, none⟩), .slice (some ⟨w.heap.size, 0, none⟩) n n] (w.alloc (.cells (icells xs).toArray 3)) fun r w' => r = .returned (.pointer (some ⟨g, 0, none⟩)) ∧ OutTo w w' g v (layO 1 (e, l) xs) :=
  (outByte_calls g v e l _ n n xs _ hxn (hO.alloc _) hn hsz hx (hO.newRow (icells xs) _)).mono fun r w' ⟨h1, h2⟩ => ⟨h1, h2.alloc⟩
theorem outByte_nil (x : Int) (w : World) :
    Calls Try.prog 29 #[.pointer none, .slice (some ⟨w.heap.size, 0, none⟩) 1 1] (w.alloc (.cells #[.int .i64 x] 3)) fun r w' => r = .returned (.pointer none) ∧ w' = w.alloc (.cells #[.int .i64 x] 3) := by
  have H : Box _ := ⟨outLay_nil 1 (some ⟨w.heap.size, 0, none⟩) 1 x (w.alloc (.cells #[.int .i64 x] 3)) (rowAt_alloc w (icells [x]) _)⟩
  go_enter Try.func29, Try.ntmps29
  go_wp2_with fail
  refine Calls.mono H.out ?_
  rintro r w1 ⟨rfl, rfl⟩
  go_wp2_with fail
  go_ret
  exact ⟨rfl, rfl⟩

theorem outHalf_calls (g : Nat) (v : Value) (e : Int) (l : List UInt8) (A : Option Addr) (n c : Nat) (xs : List Int) (w : World) (hxn : xs.length = n) (hO : OutS w g v e l) (hn : n ≤ 1000000) (hsz : l.length ≤ 1000000000) (hx : ∀ z ∈ xs, -9223372036854775808 ≤ z ∧ z ≤ 9223372036854775807)
    (hR : ∀ w', Touched w w' (g :: v.ownBlock.toList) → RowAt w' A (icells xs)) :
    Calls Try.prog 30 #[.pointer (some ⟨g, 0, none⟩), .slice A n c] w fun r w' => r = .returned (.pointer (some ⟨g, 0, none⟩)) ∧ OutTo w w' g v (layO 2 (e, l) xs) := by
  subst hxn
  have H : Box _ := ⟨outLay_calls 2 (by omega) (by omega) g v e l A c xs w hO hn hsz hx hR⟩
  clear hO hR hx
  obtain ⟨d, hd⟩ : ∃ d, layO 2 (e, l) xs = d := ⟨_, rfl⟩
  rw [hd] at H ⊢
  clear hd
  go_enter Try.func30, Try.ntmps30
  go_wp2_with fail
  refine Calls.mono H.out ?_
  rintro r w1 ⟨rfl, h1⟩
  go_wp2_with fail
  go_ret
  exact ⟨rfl, h1⟩
theorem outHalf_new (g : Nat) (v : Value) (e : Int) (l : List UInt8) (n : Nat) (xs : List Int) (w : World) (hxn : xs.length = n) (hO : OutS w g v e l) (hn : n ≤ 1000000) (hsz : l.length ≤ 1000000000) (hx : ∀ z ∈ xs, -9223372036854775808 ≤ z ∧ z ≤ 9223372036854775807) :
    Calls Try.prog 30 #[.pointer (some ⟨g, 0, none⟩), .slice (some ⟨w.heap.size, 0, none⟩) n n] (w.alloc (.cells (icells xs).toArray 3)) fun r w' => r = .returned (.pointer (some ⟨g, 0, none⟩)) ∧ OutTo w w' g v (layO 2 (e, l) xs) :=
  (outHalf_calls g v e l _ n n xs _ hxn (hO.alloc _) hn hsz hx (hO.newRow (icells xs) _)).mono fun r w' ⟨h1, h2⟩ => ⟨h1, h2.alloc⟩
theorem outHalf_nil (x : Int) (w : World) :
    Calls Try.prog 30 #[.pointer none, .slice (some ⟨w.heap.size, 0, none⟩) 1 1] (w.alloc (.cells #[.int .i64 x] 3)) fun r w' => r = .returned (.pointer none) ∧ w' = w.alloc (.cells #[.int .i64 x] 3) := by
  have H : Box _ := ⟨outLay_nil 2 (some ⟨w.heap.size, 0, none⟩) 1 x (w.alloc (.cells #[.int .i64 x] 3)) (rowAt_alloc w (icells [x]) _)⟩
  go_enter Try.func30, Try.ntmps30
  go_wp2_with fail
  refine Calls.mono H.out ?_
  rintro r w1 ⟨rfl, rfl⟩
  go_wp2_with fail
  go_ret
  exact ⟨rfl, rfl⟩

theorem outWord_calls (g : Nat) (v : Value) (e : Int) (l : List UInt8) (A : Option Addr) (n c : Nat) (xs : List Int) (w : World) (hxn : xs.length = n) (hO : OutS w g v e l) (hn : n ≤ 1000000) (hsz : l.length ≤ 1000000000) (hx : ∀ z ∈ xs, -9223372036854775808 ≤ z ∧ z ≤ 9223372036854775807)
    (hR : ∀ w', Touched w w' (g :: v.ownBlock.toList) → RowAt w' A (icells xs)) :
    Calls Try.prog 78 #[.pointer (some ⟨g, 0, none⟩), .slice A n c] w fun r w' => r = .returned (.pointer (some ⟨g, 0, none⟩)) ∧ OutTo w w' g v (layO 4 (e, l) xs) := by
  subst hxn
  have H : Box _ := ⟨outLay_calls 4 (by omega) (by omega) g v e l A c xs w hO hn hsz hx hR⟩
  clear hO hR hx
  obtain ⟨d, hd⟩ : ∃ d, layO 4 (e, l) xs = d := ⟨_, rfl⟩
  rw [hd] at H ⊢
  clear hd
  go_enter Try.func78, Try.ntmps78
  go_wp2_with fail
  refine Calls.mono H.out ?_
  rintro r w1 ⟨rfl, h1⟩
  go_wp2_with fail
  go_ret
  exact ⟨rfl, h1⟩
theorem outWord_new (g : Nat) (v : Value) (e : Int) (l : List UInt8) (n : Nat) (xs : List Int) (w : World) (hxn : xs.length = n) (hO : OutS w g v e l) (hn : n ≤ 1000000) (hsz : l.length ≤ 1000000000) (hx : ∀ z ∈ xs, -9223372036854775808 ≤ z ∧ z ≤ 9223372036854775807) :
    Calls Try.prog 78 #[.pointer (some ⟨g, 0, none⟩), .slice (some ⟨w.heap.size, 0, none⟩) n n] (w.alloc (.cells (icells xs).toArray 3)) fun r w' => r = .returned (.pointer (some ⟨g, 0, none⟩)) ∧ OutTo w w' g v (layO 4 (e, l) xs) :=
  (outWord_calls g v e l _ n n xs _ hxn (hO.alloc _) hn hsz hx (hO.newRow (icells xs) _)).mono fun r w' ⟨h1, h2⟩ => ⟨h1, h2.alloc⟩
theorem outWord_nil (x : Int) (w : World) :
    Calls Try.prog 78 #[.pointer none, .slice (some ⟨w.heap.size, 0, none⟩) 1 1] (w.alloc (.cells #[.int .i64 x] 3)) fun r w' => r = .returned (.pointer none) ∧ w' = w.alloc (.cells #[.int .i64 x] 3) := by
  have H : Box _ := ⟨outLay_nil 4 (some ⟨w.heap.size, 0, none⟩) 1 x (w.alloc (.cells #[.int .i64 x] 3)) (rowAt_alloc w (icells [x]) _)⟩
  go_enter Try.func78, Try.ntmps78
  go_wp2_with fail
  refine Calls.mono H.out ?_
  rintro r w1 ⟨rfl, rfl⟩
  go_wp2_with fail
  go_ret
  exact ⟨rfl, rfl⟩

theorem outRaw_new (g : Nat) (v : Value) (e : Int) (l : List UInt8) (n : Nat) (ts : List ByteArray) (w : World) (hts : ts.length = n) (hO : OutS w g v e l) (hn : n ≤ 1000000) (hsz : l.length + totalLen ts ≤ 140737488355328) :
    Calls Try.prog 31 #[.pointer (some ⟨g, 0, none⟩), .slice (some ⟨w.heap.size, 0, none⟩) n n] (w.alloc (.cells (scells ts).toArray 9)) fun r w' => r = .returned (.pointer (some ⟨g, 0, none⟩)) ∧ OutTo w w' g v (rawO (e, l) ts) := by
  subst hts
  exact (outRaw_calls g v e l _ ts.length ts _ (hO.alloc _) (by omega) hsz (hO.newRow (scells ts) _)).mono fun r w' ⟨h1, h2⟩ => ⟨h1, h2.alloc⟩

/-- End. -/
def endO (d : Int × List UInt8) : ByteArray × Int := if d.1 ≠ 0 then (ByteArray.empty, d.1) else (⟨d.2.toArray⟩, 0)
theorem outEnd_calls (g : Nat) (v : Value) (e : Int) (l : List UInt8) (w : World) (hO : OutS w g v e l) :
    Calls Try.prog 32 #[.pointer (some ⟨g, 0, none⟩)] w fun r w' => r = .returned (.tuple #[.string (endO (e, l)).1, .int .i64 (endO (e, l)).2]) ∧ Below w.heap.size w w' := by
  by_cases he : e = 0
  · subst he
    obtain ⟨a0, ca, rfl, _, hr, _⟩ := (Own.of_row hO.own).slice
    have k0 := hO.c0
    have k1 := hO.c1
    have hcv := bytes_str Try.prog 67 5 9 Try.underlying67 Try.underlying5 Try.underlying9 a0 l.length ca l w rfl hr
    have e1 : endO (0, l) = (⟨l.toArray⟩, 0) := by rw [endO, if_neg (by simp)]
    rw [e1]
    clear hr hO e1
    go_enter Try.func32, Try.ntmps32
    go_wp2
    go_ret2
    exact ⟨rfl, Below.refl _ _⟩
  · have k1 := hO.c1
    have e1 : endO (e, l) = (ByteArray.empty, e) := by rw [endO, if_pos he]
    rw [e1]
    clear hO e1
    go_enter Try.func32, Try.ntmps32
    go_wp2
    go_quiet (fail)
    go_wp2
    go_ret2
    exact ⟨rfl, below_drewN (Below.refl _ _) _⟩
theorem outEnd_nil (w : World) : Calls Try.prog 32 #[.pointer none] w fun r w' => r = .returned (.tuple #[.string ByteArray.empty, .int .i64 1]) ∧ w = w' := by
  go_enter Try.func32, Try.ntmps32
  go_wp2
  go_ret2
  exact ⟨rfl, rfl⟩
end Go.Proofs.Ytoadelcdcfdmfaa.B

/- bits.Out: Text. -/
namespace Go.Proofs.Ytoadelcdcfdmfaa.B
open Go.RowKit
set_option linter.unusedVariables false

def textOne (d : Int × List UInt8) (s : ByteArray) : Int × List UInt8 := if d.1 ≠ 0 then d else if 65535 < s.size then (2, d.2) else (0, d.2 ++ lowL s.size 2 ++ s.data.toList)
def textO (d : Int × List UInt8) (ts : List ByteArray) : Int × List UInt8 := ts.foldl textOne d
theorem textO_snoc (d : Int × List UInt8) (ts : List ByteArray) (s : ByteArray) : textO d (ts ++ [s]) = textOne (textO d ts) s := by simp [textO, List.foldl_append]
theorem textO_err (d : Int × List UInt8) (ts : List ByteArray) (h : d.1 ≠ 0) : textO d ts = d := by
  induction ts with
  | nil => rfl
  | cons x xs ih => rw [textO, List.foldl_cons, textOne, if_pos h]; exact ih
theorem textO_stop (d : Int × List UInt8) (ts : List ByteArray) (k : Nat) (h : (textO d (ts.take k)).1 ≠ 0) : textO d ts = textO d (ts.take k) := by
  conv => lhs; rw [← List.take_append_drop k ts]
  rw [textO, List.foldl_append]
  exact textO_err _ _ h
theorem textO_len (d : Int × List UInt8) (ts : List ByteArray) : ((textO d ts).2.length : Int) ≤ d.2.length + totalLen ts + 2 * ts.length := by
  induction ts generalizing d with
  | nil => simp [textO, totalLen]
  | cons x xs ih =>
    have h := ih (textOne d x)
    have h2 : ((textOne d x).2.length : Int) ≤ d.2.length + 2 + x.size := by
      unfold textOne
      split
      · omega
      · split
        · show (d.2.length : Int) ≤ _; omega
        · simp only [List.length_append, lowL_length, data_length]; omega
    have h3 : totalLen (x :: xs) = x.size + totalLen xs := by simp [totalLen]
    rw [textO, List.foldl_cons]
    rw [textO] at h
    rw [List.length_cons, h3]
    omega
theorem text_parts (l : List UInt8) (s : ByteArray) (h : s.size ≤ 65535) : layO 2 (0, l) [(s.size : Int)] = (0, l ++ lowL s.size 2) ∧ rawO (0, l ++ lowL s.size 2) [s] = (0, l ++ lowL s.size 2 ++ s.data.toList) := by
  constructor
  · have hb : layB 2 (s.size : Int) = false := decide_eq_false (by
      intro hh
      have e1 : (s.size : Int) / 2 ^ (8 * 2) = 0 := by show (s.size : Int) / 65536 = 0; omega
      omega)
    rw [layO, List.foldl_cons, List.foldl_nil, layOne, if_neg (by simp), if_neg (by simp [hb])]
    simp
  · rw [rawO, if_neg (by simp)]
    simp [joinB]
end Go.Proofs.Ytoadelcdcfdmfaa.B

/- bits.In: what is left, with its error; Raw, numbers, texts, Left, Rest, End. -/
namespace Go.Proofs.Ytoadelcdcfdmfaa.B
open Go.RowKit
set_option linter.unusedVariables false

theorem clone_calls (s : ByteArray) (w : World) (hs : s.size ≤ 1000000000) : Calls Try.prog 82 #[.string s] w fun e w' => e = .returned (.string s) ∧ Below w.heap.size w w' := by
  go_enter Try.func82, Try.ntmps82
  go_wp2_with fail
  refine (Try.stringslite_Clone s _ (by omega)).mono ?_
  rintro e w1 ⟨rfl, hb⟩
  go_wp2
  go_ret
  exact ⟨rfl, hb⟩

/-- An In at a block: its error, what is left. -/
structure InS (w : World) (g : Nat) (e : Int) (s : ByteArray) : Prop where
  c0 : w.cell? ⟨g, 0, none⟩ = some (.string s)
  c1 : w.cell? ⟨g, 1, none⟩ = some (.int .i64 e)
  f0 : w.frozen? ⟨g, 0, none⟩ = false
  f1 : w.frozen? ⟨g, 1, none⟩ = false
section
variable {w w1 : World} {g : Nat} {e : Int} {s : ByteArray}
theorem InS.lt (h : InS w g e s) : g < w.heap.size := World.block_lt_of_cell? w _ h.c0
theorem InS.touched {bs : List Nat} (h : InS w g e s) (hT : Touched w w1 bs) (hn : g ∉ bs) : InS w1 g e s :=
  ⟨(hT.cell h.lt hn).trans h.c0, (hT.cell h.lt hn).trans h.c1, (hT.free h.lt hn).trans h.f0, (hT.free h.lt hn).trans h.f1⟩
theorem InS.below (h : InS w g e s) (hb : Below w.heap.size w w1) : InS w1 g e s := h.touched (Touched.of_below hb []) (by simp)
theorem InS.set (h : InS w g e s) (t : ByteArray) : InS (w.setCell ⟨g, 0, none⟩ (.string t)) g e t :=
  ⟨World.cell?_setCell_same' w _ _ (by rw [h.c0]; simp), (World.cell?_setCell_other w ⟨g, 0, none⟩ ⟨g, 1, none⟩ _ (by simp)).trans h.c1, by rw [World.frozen?_setCell]; exact h.f0, by rw [World.frozen?_setCell]; exact h.f1⟩
theorem InS.fail (h : InS w g e s) (x : Int) : InS (w.setCell ⟨g, 1, none⟩ (.int .i64 x)) g x s :=
  ⟨(World.cell?_setCell_other w ⟨g, 1, none⟩ ⟨g, 0, none⟩ _ (by simp)).trans h.c0, World.cell?_setCell_same' w _ _ (by rw [h.c1]; simp), by rw [World.frozen?_setCell]; exact h.f0, by rw [World.frozen?_setCell]; exact h.f1⟩
end
theorem on_calls (s : ByteArray) (w : World) : Calls Try.prog 35 #[.string s] w fun e w' => e = .returned (.pointer (some ⟨w.heap.size, 0, none⟩)) ∧ InS w' w.heap.size 0 s ∧ Below w.heap.size w w' := by
  go_enter Try.func35, Try.ntmps35
  go_wp2
  go_ret
  refine ⟨rfl, ?_, (Below.refl _ _).alloc (Nat.le_refl _) _⟩
  have hb := heap_alloc_new w (.cells #[.string s, .int .i64 0] 104)
  exact ⟨cell_of_row _ _ 0 _ _ (0, 0) hb, cell_of_row _ _ 1 _ _ (0, 0) hb, frozen_of_row _ _ 0 _ _ hb, frozen_of_row _ _ 1 _ _ hb⟩

/-- Raw. -/
def rawI (e : Int) (s : ByteArray) (n : Int) : ByteArray × Int × ByteArray :=
  if e ≠ 0 then (ByteArray.empty, e, s) else if n < 0 then (ByteArray.empty, 1, s) else if (s.size : Int) < n then (ByteArray.empty, 5, s) else (s.extract 0 n.toNat, 0, s.extract n.toNat s.size)
theorem inRaw_calls (g : Nat) (n e : Int) (s : ByteArray) (w : World) (h : InS w g e s) (hs : s.size ≤ 1000000000) :
    Calls Try.prog 38 #[.pointer (some ⟨g, 0, none⟩), .int .i64 n] w fun r w' => r = .returned (.string (rawI e s n).1) ∧ InS w' g (rawI e s n).2.1 (rawI e s n).2.2 ∧ Touched w w' [g] := by
  have H : Box _ := ⟨h⟩
  have k0 := h.c0
  have k1 := h.c1
  have e0 := h.f0
  have e1 := h.f1
  clear h
  by_cases he : e = 0
  case neg =>
    rw [rawI, if_pos he]
    go_enter Try.func38, Try.ntmps38
    go_wp2_with fail
    go_ret
    exact ⟨rfl, H.out, Touched.refl _ _⟩
  subst he
  by_cases hn : n < 0
  · rw [rawI, if_neg (by simp), if_pos hn]
    go_enter Try.func38, Try.ntmps38
    go_wp2_with fail
    go_ret
    exact ⟨rfl, H.out.fail 1, (Touched.refl w _).setCell (.inl (by simp)) _⟩
  by_cases hl : (s.size : Int) < n
  · rw [rawI, if_neg (by simp), if_neg hn, if_pos hl]
    go_enter Try.func38, Try.ntmps38
    go_wp2_with fail
    go_ret
    exact ⟨rfl, H.out.fail 5, (Touched.refl w _).setCell (.inl (by simp)) _⟩
  obtain ⟨m, rfl⟩ : ∃ m : Nat, n = (m : Int) := ⟨n.toNat, by omega⟩
  rw [rawI, if_neg (by simp), if_neg hn, if_neg hl, Int.toNat_natCast]
  have H2 : Box _ := ⟨H.out.set (s.extract m s.size)⟩
  have HT : Box (Touched w (w.setCell ⟨g, 0, none⟩ (.string (s.extract m s.size))) [g]) := ⟨(Touched.refl w _).setCell (.inl (by simp)) _⟩
  have hes : (s.extract 0 m).size ≤ 1000000000 := by rw [ByteArray.size_extract]; omega
  have b1 : (0 : Int) ≤ (m : Int) := by omega
  have b2 : (m : Int) ≤ (s.size : Int) := by omega
  go_enter Try.func38, Try.ntmps38
  go_wp2_with fail
  refine (clone_calls _ _ hes).mono ?_
  rintro e w1 ⟨rfl, hb⟩
  have HB : Box _ := ⟨hb⟩
  clear hb
  go_wp2_with fail
  go_ret
  have hT2 := Touched.of_below HB.out []
  exact ⟨rfl, H2.out.touched hT2 (by simp), HT.out.trans (hT2.mono (by simp))⟩
theorem rawI_size (e : Int) (s : ByteArray) (n : Int) : (rawI e s n).1.size ≤ s.size ∧ (rawI e s n).2.2.size ≤ s.size ∧ (0 ≤ n → ((rawI e s n).1.size : Int) ≤ n) := by
  unfold rawI
  split
  · exact ⟨by show 0 ≤ s.size; omega, Nat.le_refl _, fun h => h⟩
  · split
    · exact ⟨by show 0 ≤ s.size; omega, Nat.le_refl _, fun h => h⟩
    · split
      · exact ⟨by show 0 ≤ s.size; omega, Nat.le_refl _, fun h => h⟩
      · simp only [ByteArray.size_extract]
        omega

/-- Left. -/
def leftI (e : Int) (s : ByteArray) : Int := if e ≠ 0 then 0 else (s.size : Int)
end Go.Proofs.Ytoadelcdcfdmfaa.B

/- bits.In: numbers, texts. -/
namespace Go.Proofs.Ytoadelcdcfdmfaa.B
open Go.RowKit
set_option linter.unusedVariables false

theorem numL_snoc (l : List UInt8) (b : UInt8) : numL (l ++ [b]) = numL l + 256 ^ l.length * b.toNat := by
  induction l with
  | nil => simp [numL]
  | cons c r ih =>
    rw [List.cons_append, numL, ih, numL, List.length_cons, Nat.pow_succ, Nat.mul_add, ← Nat.mul_assoc, Nat.mul_comm 256 (256 ^ r.length)]
    omega
theorem numL_or (l : List UInt8) (b : UInt8) (hl : l.length < 8) : bits BinOp.or IntKind.u64 (numL l : Int) ((b.toNat : Int) * 2 ^ (8 * l.length) % 18446744073709551616) = (numL (l ++ [b]) : Int) := by
  have h1 := numL_lt l
  have hb := b.toNat_lt
  have hp : (256 : Nat) ^ l.length = 2 ^ (8 * l.length) := by rw [Nat.pow_mul]
  have hle : (256 : Nat) ^ l.length ≤ 256 ^ 7 := Nat.pow_le_pow_right (by decide) (by omega)
  have h3 : (256 : Nat) ^ 7 = 72057594037927936 := by decide
  have hm : 256 ^ l.length * b.toNat ≤ 72057594037927936 * 255 := Nat.mul_le_mul (by omega) (by omega)
  have e : ((b.toNat : Int) * 2 ^ (8 * l.length) % 18446744073709551616) = ((256 ^ l.length * b.toNat : Nat) : Int) := by
    have e2 : (b.toNat : Int) * 2 ^ (8 * l.length) = ((256 ^ l.length * b.toNat : Nat) : Int) := by
      rw [hp, Int.natCast_mul, Int.natCast_pow, Int.mul_comm]; rfl
    rw [e2]
    omega
  rw [e, u64_or_nat _ _ (by omega) (by omega), numL_snoc, Nat.or_comm]
  rw [hp] at h1 ⊢
  rw [← Nat.two_pow_add_eq_or_of_lt h1, Nat.add_comm]

/-- A number of so many bytes. -/
def lowI (e : Int) (s : ByteArray) (size : Nat) : Int × Int × ByteArray :=
  if 9223372036854775808 ≤ numL (rawI e s size).1.data.toList then (0, 6, (rawI e s size).2.2) else ((numL (rawI e s size).1.data.toList : Int), (rawI e s size).2.1, (rawI e s size).2.2)
theorem lowI_size (e : Int) (s : ByteArray) (size : Nat) : (lowI e s size).2.2.size ≤ s.size := by
  have := (rawI_size e s size).2.1
  unfold lowI
  split <;> exact this
set_option maxHeartbeats 1600000 in
set_option maxRecDepth 20000 in
theorem inLow_calls (size : Nat) (h8 : size ≤ 8) (g : Nat) (e : Int) (s0 : ByteArray) (w : World) (h : InS w g e s0) (hs0 : s0.size ≤ 1000000000) :
    Calls Try.prog 81 #[.pointer (some ⟨g, 0, none⟩), .int .i64 (size : Int)] w fun r w' => r = .returned (.int .i64 (lowI e s0 size).1) ∧ InS w' g (lowI e s0 size).2.1 (lowI e s0 size).2.2 ∧ Touched w w' [g] := by
  have HRo : Box _ := ⟨inRaw_calls g (size : Int) e s0 w h hs0⟩
  have hz := (rawI_size e s0 (size : Int)).2.2 (by omega)
  have hlow : ∀ t : ByteArray, ∀ x : Int, ∀ u : ByteArray, rawI e s0 (size : Int) = (t, x, u) → lowI e s0 size = if 9223372036854775808 ≤ numL t.data.toList then (0, 6, u) else ((numL t.data.toList : Int), x, u) := by
    intro t x u hh
    rw [lowI, hh]
  obtain ⟨⟨s, x, u⟩, hd⟩ : ∃ d, rawI e s0 (size : Int) = d := ⟨_, rfl⟩
  rw [hd] at HRo hz
  have HLo : Box _ := ⟨hlow s x u hd⟩
  clear h hlow hd
  obtain ⟨r0, hr0⟩ : ∃ r0, lowI e s0 size = r0 := ⟨_, rfl⟩
  rw [hr0] at HLo ⊢
  clear hr0
  have hs1 : s.size ≤ 8 := by
    have h1 : ((s.size : Nat) : Int) ≤ (size : Int) := hz
    omega
  have kb := fun (W : World) (s : ByteArray) => Lib.run_convert_string_bytes (P := Try.prog) W 9 67 5 s Try.underlying9 Try.underlying67 Try.underlying5
  clear hz
  go_enter Try.func81, Try.ntmps81
  go_wp2_with fail
  refine HRo.out.mono ?_
  rintro e w1 ⟨rfl, hI, hT⟩
  have HT : Box _ := ⟨hT⟩
  have HI : Box _ := ⟨hI⟩
  clear hT hI HRo
  go_wp2_with fail
  have HOB : Box _ := ⟨Own.bytes w1 5 s (by simp only [maxLen]; omega)⟩
  have HTB : Box (Touched w (Lib.bytesWorld w1 5 s) [g]) := ⟨HT.out.trans (Touched.of_below (bytes_below w1 5 s) [] |>.mono (by simp))⟩
  have HIB : Box (InS (Lib.bytesWorld w1 5 s) g x u) := ⟨HI.out.below (bytes_below w1 5 s)⟩
  have hn0 : numL s.data.toList < 18446744073709551616 := by
    have h1 := numL_lt s.data.toList
    rw [data_length] at h1
    have h2 : 256 ^ s.size ≤ 256 ^ 8 := Nat.pow_le_pow_right (by decide) hs1
    have h3 : (256 : Nat) ^ 8 = 18446744073709551616 := by decide
    omega
  go_loop [5, 13] (fun x i => ∃ k : Nat, k ≤ s.size ∧ i = .int .i64 (k : Int) ∧ x = .int .u64 (numL (s.data.toList.take k) : Int)) (fun _ i => s.size - (intOf i).toNat)
  case atStart => exact ⟨0, by omega, rfl, rfl⟩
  case round =>
    obtain ⟨k, hk, rfl, rfl⟩ := hrel
    by_cases hlt : k < s.size
    · have hlen : (s.data.toList.take k).length = k := by rw [List.length_take, data_length]; omega
      have hor := numL_or (s.data.toList.take k) s[k] (by omega)
      rw [hlen, ← take_snoc_str s k hlt] at hor
      obtain ⟨p, hp⟩ : ∃ p, numL (s.data.toList.take k) = p := ⟨_, rfl⟩
      obtain ⟨q, hq⟩ : ∃ q, numL (s.data.toList.take (k + 1)) = q := ⟨_, rfl⟩
      rw [hp, hq] at hor
      rw [hp]
      obtain ⟨c0, f0⟩ := HOB.out.cell (j := k) (u := .int .u8 (s[k].toNat : Int)) (bcells_at (by rw [Array.getElem?_toList, Array.getElem?_eq_getElem (show k < s.data.size from hlt)]; rfl))
      have y3 := IntWalk.i64_in (8 * (k : Int)) (by omega)
      have y4 : (8 * (k : Int)).toNat = 8 * k := by omega
      have y5 : (0 : Int) ≤ 8 * (k : Int) := by omega
      have HQ := Lib.hid hq
      have hw1 : IntKind.u64.wrap (s[k].toNat : Int) = (s[k].toNat : Int) := by rw [IntKind.wrap_u64]; have := s[k].toNat_lt; omega
      have HOR : Box (bits BinOp.or IntKind.u64 (p : Int) (IntKind.u64.wrap ((s[k].toNat : Int) * 2 ^ (8 * k))) = (q : Int)) := ⟨by rw [IntKind.wrap_u64]; exact hor⟩
      clear hor
      clear hlen hp hq
      go_wp2_with fail
      go_round
      case rel => exact ⟨k + 1, by omega, by go_num, by first | rw [HOR.out, HQ.out] | rw [hw1, HOR.out, HQ.out]⟩
      case measure => simp [intOf]; omega
    · obtain rfl : k = s.size := by omega
      have ht : s.data.toList.take s.size = s.data.toList := List.take_of_length_le (by rw [data_length]; omega)
      rw [ht]
      obtain ⟨p, hp⟩ : ∃ p, numL s.data.toList = p := ⟨_, rfl⟩
      rw [hp] at hn0 HLo ⊢
      clear ht hp
      by_cases hbig : 9223372036854775808 ≤ p
      · have HL1 : Box (r0 = (0, 6, u)) := ⟨by rw [HLo.out, if_pos hbig]⟩
        have y6 : IntKind.i64.wrap (p : Int) = (p : Int) - 18446744073709551616 := by rw [IntKind.wrap_i64]; omega
        have y7 : (p : Int) - 18446744073709551616 < 0 := by omega
        have f1 := HIB.out.f1
        have k1 := HIB.out.c1
        go_wp2_with fail
        go_ret
        exact ⟨by rw [HL1.out]; rfl, by rw [HL1.out]; exact HIB.out.fail 6, HTB.out.setCell (.inl (by simp)) _⟩
      · have HL1 : Box (r0 = ((p : Int), x, u)) := ⟨by rw [HLo.out, if_neg hbig]⟩
        have y6 := IntWalk.i64_in (p : Int) (by omega)
        have y7 : (0 : Int) ≤ (p : Int) := by omega
        go_wp2_with fail
        go_ret
        exact ⟨by rw [HL1.out]; rfl, by rw [HL1.out]; exact HIB.out, HTB.out⟩
end Go.Proofs.Ytoadelcdcfdmfaa.B

/- bits.In: Byte, Half, Word, Long (printed: alike), Text, Rest, End; of a nil reader. -/
namespace Go.Proofs.Ytoadelcdcfdmfaa.B
open Go.RowKit
set_option linter.unusedVariables false

theorem inRaw_nil (n : Int) (w : World) : Calls Try.prog 38 #[.pointer none, .int .i64 n] w fun r w' => r = .returned (.string ByteArray.empty) ∧ w = w' := by
  go_enter Try.func38, Try.ntmps38
  go_wp2_with fail
  go_ret
  exact ⟨rfl, rfl⟩
theorem inLow_nil (size : Nat) (w : World) : Calls Try.prog 81 #[.pointer none, .int .i64 (size : Int)] w fun r w' => r = .returned (.int .i64 0) ∧ Below w.heap.size w w' := by
  have H : Box _ := ⟨fun W => inRaw_nil (size : Int) W⟩
  have kb := fun (W : World) (s : ByteArray) => Lib.run_convert_string_bytes (P := Try.prog) W 9 67 5 s Try.underlying9 Try.underlying67 Try.underlying5
  have HB : Box _ := ⟨bytes_below w 5 ByteArray.empty⟩
  have hz : ByteArray.empty.size = 0 := rfl
  go_enter Try.func81, Try.ntmps81
  go_wp2_with fail
  refine Calls.mono (H.out _) ?_
  rintro r w1 ⟨rfl, rfl⟩
  go_wp2_with fail
  go_loop [5, 13] (fun x i => i = .int .i64 0 ∧ x = .int .u64 0) (fun _ i => 1)
  case atStart => exact ⟨rfl, rfl⟩
  case round =>
    obtain ⟨rfl, rfl⟩ := hrel
    go_wp2_with fail
    go_ret
    exact ⟨rfl, HB.out⟩

theorem inByte_calls (g : Nat) (e : Int) (s : ByteArray) (w : World) (h : InS w g e s) (hs : s.size ≤ 1000000000) :
    Calls Try.prog 36 #[.pointer (some ⟨g, 0, none⟩)] w fun r w' => r = .returned (.int .i64 (lowI e s 1).1) ∧ InS w' g (lowI e s 1).2.1 (lowI e s 1).2.2 ∧ Touched w w' [g] := by
  have H : Box _ := ⟨inLow_calls 1 (by omega) g e s w h hs⟩
  clear h
  obtain ⟨d, hd⟩ : ∃ d, lowI e s 1 = d := ⟨_, rfl⟩
  rw [hd] at H ⊢
  clear hd
  go_enter Try.func36, Try.ntmps36
  go_wp2_with fail
  refine Calls.mono H.out ?_
  rintro r w1 ⟨rfl, h1, h2⟩
  go_wp2_with fail
  go_ret
  exact ⟨rfl, h1, h2⟩
theorem inByte_nil (w : World) : Calls Try.prog 36 #[.pointer none] w fun r w' => r = .returned (.int .i64 0) ∧ Below w.heap.size w w' := by
  have H : Box _ := ⟨fun W => inLow_nil 1 W⟩
  go_enter Try.func36, Try.ntmps36
  go_wp2_with fail
  refine Calls.mono (H.out _) ?_
  rintro r w1 ⟨rfl, h1⟩
  go_wp2_with fail
  go_ret
  exact ⟨rfl, h1⟩

theorem inHalf_calls (g : Nat) (e : Int) (s : ByteArray) (w : World) (h : InS w g e s) (hs : s.size ≤ 1000000000) :
    Calls Try.prog 37 #[.pointer (some ⟨g, 0, none⟩)] w fun r w' => r = .returned (.int .i64 (lowI e s 2).1) ∧ InS w' g (lowI e s 2).2.1 (lowI e s 2).2.2 ∧ Touched w w' [g] := by
  have H : Box _ := ⟨inLow_calls 2 (by omega) g e s w h hs⟩
  clear h
  obtain ⟨d, hd⟩ : ∃ d, lowI e s 2 = d := ⟨_, rfl⟩
  rw [hd] at H ⊢
  clear hd
  go_enter Try.func37, Try.ntmps37
  go_wp2_with fail
  refine Calls.mono H.out ?_
  rintro r w1 ⟨rfl, h1, h2⟩
  go_wp2_with fail
  go_ret
  exact ⟨rfl, h1, h2⟩
theorem inHalf_nil (w : World) : Calls Try.prog 37 #[.pointer none] w fun r w' => r = .returned (.int .i64 0) ∧ Below w.heap.size w w' := by
  have H : Box _ := ⟨fun W => inLow_nil 2 W⟩
  go_enter Try.func37, Try.ntmps37
  go_wp2_with fail
  refine Calls.mono (H.out _) ?_
  rintro r w1 ⟨rfl, h1⟩
  go_wp2_with fail
  go_ret
  exact ⟨rfl, h1⟩

theorem inWord_calls (g : Nat) (e : Int) (s : ByteArray) (w : World) (h : InS w g e s) (hs : s.size ≤ 1000000000) :
    Calls Try.prog 80 #[.pointer (some ⟨g, 0, none⟩)] w fun r w' => r = .returned (.int .i64 (lowI e s 4).1) ∧ InS w' g (lowI e s 4).2.1 (lowI e s 4).2.2 ∧ Touched w w' [g] := by
  have H : Box _ := ⟨inLow_calls 4 (by omega) g e s w h hs⟩
  clear h
  obtain ⟨d, hd⟩ : ∃ d, lowI e s 4 = d := ⟨_, rfl⟩
  rw [hd] at H ⊢
  clear hd
  go_enter Try.func80, Try.ntmps80
  go_wp2_with fail
  refine Calls.mono H.out ?_
  rintro r w1 ⟨rfl, h1, h2⟩
  go_wp2_with fail
  go_ret
  exact ⟨rfl, h1, h2⟩
theorem inWord_nil (w : World) : Calls Try.prog 80 #[.pointer none] w fun r w' => r = .returned (.int .i64 0) ∧ Below w.heap.size w w' := by
  have H : Box _ := ⟨fun W => inLow_nil 4 W⟩
  go_enter Try.func80, Try.ntmps80
  go_wp2_with fail
  refine Calls.mono (H.out _) ?_
  rintro r w1 ⟨rfl, h1⟩
  go_wp2_with fail
  go_ret
  exact ⟨rfl, h1⟩

/-- Text. -/
def textI (e : Int) (s : ByteArray) : ByteArray × Int × ByteArray := rawI (lowI e s 2).2.1 (lowI e s 2).2.2 (lowI e s 2).1
end Go.Proofs.Ytoadelcdcfdmfaa.B

/- masonrylaw1.alive: a first call; a new Out. -/
namespace Go.Proofs.Ytoadelcdcfdmfaa.B
open Go.RowKit
set_option linter.unusedVariables false

theorem outNew (w : World) : OutS (w.alloc (.cells #[.slice none 0 0, .int .i64 0] 70)) w.heap.size (.slice none 0 0) 0 [] := by
  have hb := heap_alloc_new w (.cells #[.slice none 0 0, .int .i64 0] 70)
  exact ⟨⟨rfl, .inl ⟨rfl, rfl⟩⟩, cell_of_row _ _ 0 _ _ (0, 0) hb, cell_of_row _ _ 1 _ _ (0, 0) hb, frozen_of_row _ _ 0 _ _ hb, frozen_of_row _ _ 1 _ _ hb⟩
def aliveS : ByteArray := ⟨#[2, 1, 1, 0, 1, 0, 97]⟩
theorem alive_lay : layO 2 (0, []) [258, 1] = (0, [2, 1, 1, 0]) := by decide +kernel
theorem alive_text : textO (0, [2, 1, 1, 0]) [⟨#[97]⟩] = (0, [2, 1, 1, 0, 1, 0, 97]) := by decide +kernel
theorem alive_end : endO (0, [2, 1, 1, 0, 1, 0, 97]) = (aliveS, 0) := by decide +kernel
theorem alive_r1 : lowI 0 aliveS 2 = (258, 0, ⟨#[1, 0, 1, 0, 97]⟩) := by decide +kernel
theorem alive_r2 : lowI 0 ⟨#[1, 0, 1, 0, 97]⟩ 2 = (1, 0, ⟨#[1, 0, 97]⟩) := by decide +kernel
theorem alive_r3 : textI 0 ⟨#[1, 0, 97]⟩ = (⟨#[97]⟩, 0, ByteArray.empty) := by decide +kernel
end Go.Proofs.Ytoadelcdcfdmfaa.B
