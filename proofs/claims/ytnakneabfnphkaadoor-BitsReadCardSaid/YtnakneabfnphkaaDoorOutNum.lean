/- bits.Out: Byte, Half, Word, Long; lists that were just built; Text; End. (The four are printed by a program: alike.) -/
import Derived.Test.YtnakneabfnphkaaDoorOutLay
import Derived.Test.YtnakneabfnphkaaDoorReg
namespace Go.Proofs.YtnakneabfnphkaaDoor
open Go.RowKit

theorem OutS.newRow {w : World} {g : Nat} {v : Value} {e : Int} {l : List UInt8} (h : OutS w g v e l) (xs : List Value) (t : TypeId) : ∀ w', Touched (w.alloc (.cells xs.toArray t)) w' (g :: v.ownBlock.toList) → RowAt w' (some ⟨w.heap.size, 0, none⟩) xs := by
  intro w' hT
  refine row_touched (rowAt_alloc w xs t) hT (.inr ⟨_, rfl, ?_⟩)
  intro hm
  have h1 := h.lt
  simp only [List.mem_cons, Option.mem_toList] at hm
  rcases hm with hm | hm
  · omega
  · have := h.vlt hm; omega
theorem OutS.alloc {w : World} {g : Nat} {v : Value} {e : Int} {l : List UInt8} (h : OutS w g v e l) (o : Obj) : OutS (w.alloc o) g v e l := h.below ((Below.refl _ _).alloc (Nat.le_refl _) o)
theorem OutTo.alloc {w w' : World} {g : Nat} {v : Value} {d : Int × List UInt8} {o : Obj} (h : OutTo (w.alloc o) w' g v d) : OutTo w w' g v d := OutTo.trans ((Touched.refl w _).alloc o) (fun _ h => .inl h) h
theorem OutTo.below {w w' w2 : World} {g : Nat} {v : Value} {d : Int × List UInt8} (h : OutTo w w' g v d) (hb : Below w'.heap.size w' w2) : OutTo w w2 g v d := by
  obtain ⟨⟨v', h1, h2⟩, h3⟩ := h
  exact ⟨⟨v', h1.below hb, h2⟩, h3.trans (Touched.of_below hb _)⟩

theorem outByte_calls (g : Nat) (v : Value) (e : Int) (l : List UInt8) (A : Option Addr) (n c : Nat) (xs : List Int) (w : World) (hxn : xs.length = n) (hO : OutS w g v e l) (hn : n ≤ 1000000) (hsz : l.length ≤ 1000000000) (hx : ∀ z ∈ xs, -9223372036854775808 ≤ z ∧ z ≤ 9223372036854775807)
    (hR : ∀ w', Touched w w' (g :: v.ownBlock.toList) → RowAt w' A (icells xs)) :
    Calls Tryd.prog 12 #[.pointer (some ⟨g, 0, none⟩), .slice A n c] w fun r w' => r = .returned (.pointer (some ⟨g, 0, none⟩)) ∧ OutTo w w' g v (layO 1 (e, l) xs) := by
  subst hxn
  have H : Box _ := ⟨outLay_calls 1 (by omega) (by omega) g v e l A c xs w hO hn hsz hx hR⟩
  clear hO hR hx
  obtain ⟨d, hd⟩ : ∃ d, layO 1 (e, l) xs = d := ⟨_, rfl⟩
  rw [hd] at H ⊢
  clear hd
  go_enter Tryd.func12, Tryd.ntmps12
  go_wp2_with fail
  refine Calls.mono H.out ?_
  rintro r w1 ⟨rfl, h1⟩
  go_wp2_with fail
  go_ret
  exact ⟨rfl, h1⟩
theorem outByte_new (g : Nat) (v : Value) (e : Int) (l : List UInt8) (n : Nat) (xs : List Int) (w : World) (hxn : xs.length = n) (hO : OutS w g v e l) (hn : n ≤ 1000000) (hsz : l.length ≤ 1000000000) (hx : ∀ z ∈ xs, -9223372036854775808 ≤ z ∧ z ≤ 9223372036854775807) :
    Calls Tryd.prog 12 #[.pointer (some ⟨g, 0, none⟩), .slice (some ⟨w.heap.size, 0, none⟩) n n] (w.alloc (.cells (icells xs).toArray 3)) fun r w' => r = .returned (.pointer (some ⟨g, 0, none⟩)) ∧ OutTo w w' g v (layO 1 (e, l) xs) :=
  (outByte_calls g v e l _ n n xs _ hxn (hO.alloc _) hn hsz hx (hO.newRow (icells xs) _)).mono fun r w' ⟨h1, h2⟩ => ⟨h1, h2.alloc⟩
theorem outByte_nil (x : Int) (w : World) :
    Calls Tryd.prog 12 #[.pointer none, .slice (some ⟨w.heap.size, 0, none⟩) 1 1] (w.alloc (.cells #[.int .i64 x] 3)) fun r w' => r = .returned (.pointer none) ∧ w' = w.alloc (.cells #[.int .i64 x] 3) := by
  have H : Box _ := ⟨outLay_nil 1 (some ⟨w.heap.size, 0, none⟩) 1 x (w.alloc (.cells #[.int .i64 x] 3)) (rowAt_alloc w (icells [x]) _)⟩
  go_enter Tryd.func12, Tryd.ntmps12
  go_wp2_with fail
  refine Calls.mono H.out ?_
  rintro r w1 ⟨rfl, rfl⟩
  go_wp2_with fail
  go_ret
  exact ⟨rfl, rfl⟩

theorem outHalf_calls (g : Nat) (v : Value) (e : Int) (l : List UInt8) (A : Option Addr) (n c : Nat) (xs : List Int) (w : World) (hxn : xs.length = n) (hO : OutS w g v e l) (hn : n ≤ 1000000) (hsz : l.length ≤ 1000000000) (hx : ∀ z ∈ xs, -9223372036854775808 ≤ z ∧ z ≤ 9223372036854775807)
    (hR : ∀ w', Touched w w' (g :: v.ownBlock.toList) → RowAt w' A (icells xs)) :
    Calls Tryd.prog 10 #[.pointer (some ⟨g, 0, none⟩), .slice A n c] w fun r w' => r = .returned (.pointer (some ⟨g, 0, none⟩)) ∧ OutTo w w' g v (layO 2 (e, l) xs) := by
  subst hxn
  have H : Box _ := ⟨outLay_calls 2 (by omega) (by omega) g v e l A c xs w hO hn hsz hx hR⟩
  clear hO hR hx
  obtain ⟨d, hd⟩ : ∃ d, layO 2 (e, l) xs = d := ⟨_, rfl⟩
  rw [hd] at H ⊢
  clear hd
  go_enter Tryd.func10, Tryd.ntmps10
  go_wp2_with fail
  refine Calls.mono H.out ?_
  rintro r w1 ⟨rfl, h1⟩
  go_wp2_with fail
  go_ret
  exact ⟨rfl, h1⟩
theorem outHalf_new (g : Nat) (v : Value) (e : Int) (l : List UInt8) (n : Nat) (xs : List Int) (w : World) (hxn : xs.length = n) (hO : OutS w g v e l) (hn : n ≤ 1000000) (hsz : l.length ≤ 1000000000) (hx : ∀ z ∈ xs, -9223372036854775808 ≤ z ∧ z ≤ 9223372036854775807) :
    Calls Tryd.prog 10 #[.pointer (some ⟨g, 0, none⟩), .slice (some ⟨w.heap.size, 0, none⟩) n n] (w.alloc (.cells (icells xs).toArray 3)) fun r w' => r = .returned (.pointer (some ⟨g, 0, none⟩)) ∧ OutTo w w' g v (layO 2 (e, l) xs) :=
  (outHalf_calls g v e l _ n n xs _ hxn (hO.alloc _) hn hsz hx (hO.newRow (icells xs) _)).mono fun r w' ⟨h1, h2⟩ => ⟨h1, h2.alloc⟩
theorem outHalf_nil (x : Int) (w : World) :
    Calls Tryd.prog 10 #[.pointer none, .slice (some ⟨w.heap.size, 0, none⟩) 1 1] (w.alloc (.cells #[.int .i64 x] 3)) fun r w' => r = .returned (.pointer none) ∧ w' = w.alloc (.cells #[.int .i64 x] 3) := by
  have H : Box _ := ⟨outLay_nil 2 (some ⟨w.heap.size, 0, none⟩) 1 x (w.alloc (.cells #[.int .i64 x] 3)) (rowAt_alloc w (icells [x]) _)⟩
  go_enter Tryd.func10, Tryd.ntmps10
  go_wp2_with fail
  refine Calls.mono H.out ?_
  rintro r w1 ⟨rfl, rfl⟩
  go_wp2_with fail
  go_ret
  exact ⟨rfl, rfl⟩

theorem outWord_calls (g : Nat) (v : Value) (e : Int) (l : List UInt8) (A : Option Addr) (n c : Nat) (xs : List Int) (w : World) (hxn : xs.length = n) (hO : OutS w g v e l) (hn : n ≤ 1000000) (hsz : l.length ≤ 1000000000) (hx : ∀ z ∈ xs, -9223372036854775808 ≤ z ∧ z ≤ 9223372036854775807)
    (hR : ∀ w', Touched w w' (g :: v.ownBlock.toList) → RowAt w' A (icells xs)) :
    Calls Tryd.prog 16 #[.pointer (some ⟨g, 0, none⟩), .slice A n c] w fun r w' => r = .returned (.pointer (some ⟨g, 0, none⟩)) ∧ OutTo w w' g v (layO 4 (e, l) xs) := by
  subst hxn
  have H : Box _ := ⟨outLay_calls 4 (by omega) (by omega) g v e l A c xs w hO hn hsz hx hR⟩
  clear hO hR hx
  obtain ⟨d, hd⟩ : ∃ d, layO 4 (e, l) xs = d := ⟨_, rfl⟩
  rw [hd] at H ⊢
  clear hd
  go_enter Tryd.func16, Tryd.ntmps16
  go_wp2_with fail
  refine Calls.mono H.out ?_
  rintro r w1 ⟨rfl, h1⟩
  go_wp2_with fail
  go_ret
  exact ⟨rfl, h1⟩
theorem outWord_new (g : Nat) (v : Value) (e : Int) (l : List UInt8) (n : Nat) (xs : List Int) (w : World) (hxn : xs.length = n) (hO : OutS w g v e l) (hn : n ≤ 1000000) (hsz : l.length ≤ 1000000000) (hx : ∀ z ∈ xs, -9223372036854775808 ≤ z ∧ z ≤ 9223372036854775807) :
    Calls Tryd.prog 16 #[.pointer (some ⟨g, 0, none⟩), .slice (some ⟨w.heap.size, 0, none⟩) n n] (w.alloc (.cells (icells xs).toArray 3)) fun r w' => r = .returned (.pointer (some ⟨g, 0, none⟩)) ∧ OutTo w w' g v (layO 4 (e, l) xs) :=
  (outWord_calls g v e l _ n n xs _ hxn (hO.alloc _) hn hsz hx (hO.newRow (icells xs) _)).mono fun r w' ⟨h1, h2⟩ => ⟨h1, h2.alloc⟩
theorem outWord_nil (x : Int) (w : World) :
    Calls Tryd.prog 16 #[.pointer none, .slice (some ⟨w.heap.size, 0, none⟩) 1 1] (w.alloc (.cells #[.int .i64 x] 3)) fun r w' => r = .returned (.pointer none) ∧ w' = w.alloc (.cells #[.int .i64 x] 3) := by
  have H : Box _ := ⟨outLay_nil 4 (some ⟨w.heap.size, 0, none⟩) 1 x (w.alloc (.cells #[.int .i64 x] 3)) (rowAt_alloc w (icells [x]) _)⟩
  go_enter Tryd.func16, Tryd.ntmps16
  go_wp2_with fail
  refine Calls.mono H.out ?_
  rintro r w1 ⟨rfl, rfl⟩
  go_wp2_with fail
  go_ret
  exact ⟨rfl, rfl⟩

theorem outLong_calls (g : Nat) (v : Value) (e : Int) (l : List UInt8) (A : Option Addr) (n c : Nat) (xs : List Int) (w : World) (hxn : xs.length = n) (hO : OutS w g v e l) (hn : n ≤ 1000000) (hsz : l.length ≤ 1000000000) (hx : ∀ z ∈ xs, -9223372036854775808 ≤ z ∧ z ≤ 9223372036854775807)
    (hR : ∀ w', Touched w w' (g :: v.ownBlock.toList) → RowAt w' A (icells xs)) :
    Calls Tryd.prog 14 #[.pointer (some ⟨g, 0, none⟩), .slice A n c] w fun r w' => r = .returned (.pointer (some ⟨g, 0, none⟩)) ∧ OutTo w w' g v (layO 8 (e, l) xs) := by
  subst hxn
  have H : Box _ := ⟨outLay_calls 8 (by omega) (by omega) g v e l A c xs w hO hn hsz hx hR⟩
  clear hO hR hx
  obtain ⟨d, hd⟩ : ∃ d, layO 8 (e, l) xs = d := ⟨_, rfl⟩
  rw [hd] at H ⊢
  clear hd
  go_enter Tryd.func14, Tryd.ntmps14
  go_wp2_with fail
  refine Calls.mono H.out ?_
  rintro r w1 ⟨rfl, h1⟩
  go_wp2_with fail
  go_ret
  exact ⟨rfl, h1⟩
theorem outLong_new (g : Nat) (v : Value) (e : Int) (l : List UInt8) (n : Nat) (xs : List Int) (w : World) (hxn : xs.length = n) (hO : OutS w g v e l) (hn : n ≤ 1000000) (hsz : l.length ≤ 1000000000) (hx : ∀ z ∈ xs, -9223372036854775808 ≤ z ∧ z ≤ 9223372036854775807) :
    Calls Tryd.prog 14 #[.pointer (some ⟨g, 0, none⟩), .slice (some ⟨w.heap.size, 0, none⟩) n n] (w.alloc (.cells (icells xs).toArray 3)) fun r w' => r = .returned (.pointer (some ⟨g, 0, none⟩)) ∧ OutTo w w' g v (layO 8 (e, l) xs) :=
  (outLong_calls g v e l _ n n xs _ hxn (hO.alloc _) hn hsz hx (hO.newRow (icells xs) _)).mono fun r w' ⟨h1, h2⟩ => ⟨h1, h2.alloc⟩
theorem outLong_nil (x : Int) (w : World) :
    Calls Tryd.prog 14 #[.pointer none, .slice (some ⟨w.heap.size, 0, none⟩) 1 1] (w.alloc (.cells #[.int .i64 x] 3)) fun r w' => r = .returned (.pointer none) ∧ w' = w.alloc (.cells #[.int .i64 x] 3) := by
  have H : Box _ := ⟨outLay_nil 8 (some ⟨w.heap.size, 0, none⟩) 1 x (w.alloc (.cells #[.int .i64 x] 3)) (rowAt_alloc w (icells [x]) _)⟩
  go_enter Tryd.func14, Tryd.ntmps14
  go_wp2_with fail
  refine Calls.mono H.out ?_
  rintro r w1 ⟨rfl, rfl⟩
  go_wp2_with fail
  go_ret
  exact ⟨rfl, rfl⟩

theorem outRaw_new (g : Nat) (v : Value) (e : Int) (l : List UInt8) (n : Nat) (ts : List ByteArray) (w : World) (hts : ts.length = n) (hO : OutS w g v e l) (hn : n ≤ 1000000) (hsz : l.length + totalLen ts ≤ 140737488355328) :
    Calls Tryd.prog 13 #[.pointer (some ⟨g, 0, none⟩), .slice (some ⟨w.heap.size, 0, none⟩) n n] (w.alloc (.cells (scells ts).toArray 9)) fun r w' => r = .returned (.pointer (some ⟨g, 0, none⟩)) ∧ OutTo w w' g v (rawO (e, l) ts) := by
  subst hts
  exact (outRaw_calls g v e l _ ts.length ts _ (hO.alloc _) (by omega) hsz (hO.newRow (scells ts) _)).mono fun r w' ⟨h1, h2⟩ => ⟨h1, h2.alloc⟩

/-- End. -/
def endO (d : Int × List UInt8) : ByteArray × Int := if d.1 ≠ 0 then (ByteArray.empty, d.1) else (⟨d.2.toArray⟩, 0)
theorem outEnd_calls (g : Nat) (v : Value) (e : Int) (l : List UInt8) (w : World) (hO : OutS w g v e l) :
    Calls Tryd.prog 15 #[.pointer (some ⟨g, 0, none⟩)] w fun r w' => r = .returned (.tuple #[.string (endO (e, l)).1, .int .i64 (endO (e, l)).2]) ∧ Below w.heap.size w w' := by
  by_cases he : e = 0
  · subst he
    obtain ⟨a0, ca, rfl, _, hr, _⟩ := (Own.of_row hO.own).slice
    have k0 := hO.c0
    have k1 := hO.c1
    have hcv := bytes_str Tryd.prog 26 5 9 Tryd.underlying26 Tryd.underlying5 Tryd.underlying9 a0 l.length ca l w rfl hr
    have e1 : endO (0, l) = (⟨l.toArray⟩, 0) := by rw [endO, if_neg (by simp)]
    rw [e1]
    clear hr hO e1
    go_enter Tryd.func15, Tryd.ntmps15
    go_wp2
    go_ret2
    exact ⟨rfl, Below.refl _ _⟩
  · have k1 := hO.c1
    have e1 : endO (e, l) = (ByteArray.empty, e) := by rw [endO, if_pos he]
    rw [e1]
    clear hO e1
    go_enter Tryd.func15, Tryd.ntmps15
    go_wp2
    go_quiet (fail)
    go_wp2
    go_ret2
    exact ⟨rfl, below_drewN (Below.refl _ _) _⟩
theorem outEnd_nil (w : World) : Calls Tryd.prog 15 #[.pointer none] w fun r w' => r = .returned (.tuple #[.string ByteArray.empty, .int .i64 1]) ∧ w = w' := by
  go_enter Tryd.func15, Tryd.ntmps15
  go_wp2
  go_ret2
  exact ⟨rfl, rfl⟩
end Go.Proofs.YtnakneabfnphkaaDoor
