/- Rooms: what is made, taken, given, told. -/
import Derived.Test.YtoadelcdcfdmfaaIntsPut
import Derived.Test.YtoadelcdcfdmfaaBundle1
namespace Go.Proofs.Ytoadelcdcfdmfaa
open Go.RowKit
set_option linter.unusedVariables false

/-- Flags, told by a function. -/
def bf (f : Nat → Bool) (n : Nat) : List Value := (List.range n).map fun j => Value.bool (f j)
theorem bf_length (f : Nat → Bool) (n : Nat) : (bf f n).length = n := by simp [bf]
theorem bf_at (f : Nat → Bool) {n k : Nat} (h : k < n) : (bf f n)[k]? = some (.bool (f k)) := by simp [bf, h]
def upd (f : Nat → Bool) (k : Nat) (b : Bool) : Nat → Bool := fun j => if j = k then b else f j
theorem bf_set (f : Nat → Bool) (n k : Nat) (b : Bool) : (bf f n).set k (.bool b) = bf (upd f k b) n := by
  apply List.ext_getElem?
  intro i
  rw [List.getElem?_set]
  by_cases hi : i < n
  · rw [bf_at _ hi, bf_at _ hi]
    by_cases e : k = i
    · subst e; rw [if_pos rfl, if_pos (by rw [bf_length]; exact hi)]; simp [upd]
    · rw [if_neg e]; simp only [upd]; rw [if_neg (fun h => e h.symm)]
  · have h1 : ∀ g, (bf g n)[i]? = none := by intro g; simp [bf]; omega
    rw [h1, h1]
    split
    · rw [if_neg (by rw [bf_length]; omega)]
    · rfl
theorem bf_congr {f g : Nat → Bool} {n : Nat} (h : ∀ j, j < n → f j = g j) : bf f n = bf g n := by
  unfold bf
  apply List.map_congr_left
  intro j hj
  rw [h j (List.mem_range.1 hj)]
theorem one_bf (f : Nat → Bool) (n : Nat) : ∀ u ∈ bf f n, u.oneCell' = true := by intro u hu; obtain ⟨b, _, rfl⟩ := List.mem_map.1 hu; rfl

/-- A room at a block: its flags lie in block h. -/
structure RoomAt (w : World) (g h c n : Nat) (f : Nat → Bool) : Prop where
  own : Own w 0 1 (.slice (some ⟨h, 0, none⟩) n c) n (bf f n)
  c0 : w.cell? ⟨g, 0, none⟩ = some (.slice (some ⟨h, 0, none⟩) n c)
  ne : g ≠ h
section
variable {w w' : World} {g h c n : Nat} {f : Nat → Bool}
theorem RoomAt.glt (a : RoomAt w g h c n f) : g < w.heap.size := World.block_lt_of_cell? w _ a.c0
theorem RoomAt.hlt (a : RoomAt w g h c n f) : h < w.heap.size := (a.own.lt h (by simp [Value.ownBlock])).2
theorem RoomAt.row (a : RoomAt w g h c n f) : RowAt w (some ⟨h, 0, none⟩) (bf f n) := by
  obtain ⟨A, k, e, _, hr, _⟩ := a.own.slice
  injection e with e1 e2 e3
  subst e1
  exact hr
theorem RoomAt.cell (a : RoomAt w g h c n f) {k : Nat} (hk : k < n) : w.cell? ⟨h, k, none⟩ = some (.bool (f k)) ∧ w.frozen? ⟨h, k, none⟩ = false := a.own.cell (bf_at f hk)
theorem RoomAt.touched {bs : List Nat} (a : RoomAt w g h c n f) (hT : Touched w w' bs) (hg : g ∉ bs) (hh : h ∉ bs) : RoomAt w' g h c n f :=
  ⟨hT.own a.own (fun k hk => by simp [Value.ownBlock] at hk; subst hk; exact hh), (hT.cell a.glt hg).trans a.c0, a.ne⟩
theorem RoomAt.below (a : RoomAt w g h c n f) (hb : Below w.heap.size w w') : RoomAt w' g h c n f := a.touched (Touched.of_below hb []) (by simp) (by simp)
theorem RoomAt.set (a : RoomAt w g h c n f) {k : Nat} (hk : k < n) (b : Bool) : RoomAt (w.setCell ⟨h, k, none⟩ (.bool b)) g h c n (upd f k b) := by
  have h1 := (a.own.set k (by rw [bf_length]; exact hk) (.bool b)).1
  rw [bf_set] at h1
  exact ⟨h1, (World.cell?_setCell_other w ⟨h, k, none⟩ ⟨g, 0, none⟩ _ (by have := a.ne; simp [this.symm])).trans a.c0, a.ne⟩
theorem RoomAt.congr (a : RoomAt w g h c n f) {f' : Nat → Bool} (e : ∀ j, j < n → f j = f' j) : RoomAt w g h c n f' := ⟨by rw [← bf_congr e]; exact a.own, a.c0, a.ne⟩
end

theorem make_bool (n : Nat) (hn : n ≤ 281474976710656) (W : World) : (Instr.makeSlice 62 (.int .i64 (n : Int)) (.int .i64 (n : Int))).run Try.prog W = .ok (.slice (some ⟨W.heap.size, 0, none⟩) n n) (W.alloc (.cells (bf (fun _ => false) n).toArray 4)) := by
  have h := run_make_row' (P := Try.prog) 62 4 (.bool false) 1 Try.underlying62 (by kernel_rfl) rfl .i64 .i64 n (by omega) (by omega) W
  have e : madeCells #[.bool false] n = (bf (fun _ => false) n).toArray := by
    apply Array.toList_inj.mp
    rw [toList_madeCells_one]
    apply List.ext_getElem?
    intro i
    by_cases hi : i < n <;> simp [bf, hi]
  rw [e] at h
  exact h

theorem roomNew_at (w : World) (n : Nat) (hn : n ≤ 1900) : RoomAt ((w.alloc (.cells (bf (fun _ => false) n).toArray 4)).alloc (.cells #[.slice (some ⟨w.heap.size, 0, none⟩) n n] 64)) (w.heap.size + 1) w.heap.size n n (fun _ => false) := by
  have h1 := Own.fresh w (bf (fun _ => false) n).toArray 4 (by rw [List.size_toArray, bf_length]; exact Nat.le_trans hn (by decide))
  have h2 := (h1.alloc (.cells #[.slice (some ⟨w.heap.size, 0, none⟩) n n] 64)).weaken (Nat.zero_le _)
  have hb := heap_alloc_new (w.alloc (.cells (bf (fun _ => false) n).toArray 4)) (.cells #[.slice (some ⟨w.heap.size, 0, none⟩) n n] 64)
  refine ⟨by simpa [bf_length] using h2, ?_, by omega⟩
  simp

set_option maxHeartbeats 3200000 in
theorem roomNew_calls (n : Nat) (A : Option Addr) (c m : Nat) (l : List Int) (w : World) (hl : l.length = m) (h1 : 1 ≤ n) (h2 : n ≤ 1900) (hm : m ≤ 4000000000000000000) (hR : RowAt w A (icells l)) (hin : ∀ x ∈ l, 0 ≤ x ∧ x < (n : Int)) :
    Calls Try.prog 6 #[.int .i64 (n : Int), .slice A m c] w fun e w' => e = .returned (.tuple #[.pointer (some ⟨w.heap.size + 1, 0, none⟩), .int .i64 0]) ∧ RoomAt w' (w.heap.size + 1) w.heap.size n n (fun j => decide ((j : Int) ∈ l)) ∧ Below w.heap.size w w' := by
  subst hl
  have HR : Box _ := ⟨hR⟩; clear hR
  have HIN : Box _ := ⟨hin⟩; clear hin
  have HO : Box _ := ⟨roomNew_at w n h2⟩
  have HB : Box (Below w.heap.size w ((w.alloc (.cells (bf (fun _ => false) n).toArray 4)).alloc (.cells #[.slice (some ⟨w.heap.size, 0, none⟩) n n] 64))) := ⟨((Below.refl _ _).alloc (Nat.le_refl _) _).alloc (by simp) _⟩
  have hmk := fun W => make_bool n (by omega) W
  go_enter Try.func6, Try.ntmps6
  go_wp2
  go_loopw [21] (fun i wr => ∃ k : Nat, k ≤ l.length ∧ i = .int .i64 (k : Int) ∧ Box (RoomAt wr (w.heap.size + 1) w.heap.size n n (fun j => decide ((j : Int) ∈ l.take k))) ∧ Box (Below w.heap.size w wr)) (fun i _ => l.length - (intOf i).toNat)
  case atStart => exact ⟨0, Nat.zero_le _, rfl, ⟨by simpa using HO.out⟩, HB⟩
  case round =>
    obtain ⟨k, hk, rfl, HA, HW⟩ := hrel
    by_cases hlt : k < l.length
    · obtain ⟨x, hx⟩ := some_at hlt
      obtain ⟨ad, rfl, hcell⟩ := (HR.out.below HW.out).get (icells_at hx)
      obtain ⟨x0, x1⟩ := HIN.out x (List.mem_of_getElem? hx)
      obtain ⟨y, rfl⟩ : ∃ y : Nat, x = (y : Int) := ⟨x.toNat, by omega⟩
      have hy : y < n := by omega
      have HX : Box (l.take (k + 1) = l.take k ++ [(y : Int)]) := ⟨take_snoc_of hx⟩
      have k0 := HA.out.c0
      obtain ⟨k1, f1⟩ := HA.out.cell hy
      clear hx
      go_wp2
      go_roundw
      case rel =>
        refine ⟨k + 1, by omega, by go_num, ⟨(HA.out.set hy true).congr fun j hj => ?_⟩, ⟨HW.out.setCell (by simp) _⟩⟩
        rw [HX.out]
        by_cases e : j = y
        · subst e; simp [upd]
        · have e' : ¬ ((j : Int) = (y : Int)) := by omega
          simp [upd, e, e']
      case measure => simp [intOf]; omega
    · obtain rfl : k = l.length := by omega
      go_wp2
      go_ret2
      exact ⟨rfl, by have := HA.out; rwa [List.take_of_length_le (Nat.le_refl _)] at this, HW.out⟩
/-- .. of a number that may not be. -/
theorem roomNew_bad (n : Int) (v : Value) (w : World) (h : n < 1 ∨ 1900 < n) :
    Calls Try.prog 6 #[.int .i64 n, v] w fun e w' => e = .returned (.tuple #[.pointer none, .int .i64 1]) ∧ w = w' := by
  rcases h with h | h
  · go_enter Try.func6, Try.ntmps6
    go_wp2
    go_ret2
    exact ⟨rfl, rfl⟩
  · have h' : ¬ n < 1 := by omega
    go_enter Try.func6, Try.ntmps6
    go_wp2
    go_ret2
    exact ⟨rfl, rfl⟩

theorem roomUsed_calls (g h c n : Nat) (f : Nat → Bool) (x : Int) (w : World) (hA : RoomAt w g h c n f) (hn : n ≤ 1900) :
    Calls Try.prog 19 #[.pointer (some ⟨g, 0, none⟩), .int .i64 x] w fun e w' => e = .returned (.bool (decide (0 ≤ x ∧ x < (n : Int)) && f x.toNat)) ∧ w = w' := by
  have k0 := hA.c0
  by_cases h0 : 0 ≤ x
  · by_cases h1 : x < (n : Int)
    · obtain ⟨y, rfl⟩ : ∃ y : Nat, x = (y : Int) := ⟨x.toNat, by omega⟩
      obtain ⟨k1, _⟩ := hA.cell (k := y) (by omega)
      have e : (decide (0 ≤ (y : Int) ∧ (y : Int) < (n : Int)) && f (y : Int).toNat) = f y := by rw [decide_eq_true ⟨h0, h1⟩]; simp
      obtain ⟨b, hb⟩ : ∃ b, f y = b := ⟨_, rfl⟩
      rw [hb] at k1 e
      rw [e]
      clear hA hb e
      go_enter Try.func19, Try.ntmps19
      go_wp2
      go_ret
      exact ⟨rfl, rfl⟩
    · rw [show (decide (0 ≤ x ∧ x < (n : Int)) && f x.toNat) = false by rw [decide_eq_false (by omega)]; rfl]
      clear hA
      go_enter Try.func19, Try.ntmps19
      go_wp2
      go_ret
      exact ⟨rfl, rfl⟩
  · rw [show (decide (0 ≤ x ∧ x < (n : Int)) && f x.toNat) = false by rw [decide_eq_false (by omega)]; rfl]
    clear hA
    go_enter Try.func19, Try.ntmps19
    go_wp2
    go_ret
    exact ⟨rfl, rfl⟩
theorem roomSize_calls (g h c n : Nat) (f : Nat → Bool) (w : World) (hA : RoomAt w g h c n f) :
    Calls Try.prog 18 #[.pointer (some ⟨g, 0, none⟩)] w fun e w' => e = .returned (.int .i64 (n : Int)) ∧ w = w' := by
  have k0 := hA.c0
  clear hA
  go_enter Try.func18, Try.ntmps18
  go_wp2
  go_ret
  exact ⟨rfl, rfl⟩

set_option maxHeartbeats 1600000 in
theorem indexBool_calls (A : Option Addr) (n c : Nat) (f : Nat → Bool) (w : World) (hn : n ≤ 4000000000000000000) (hR : RowAt w A (bf f n)) (k : Nat) (hk : k ≤ n) (h1 : ∀ j, j < k → f j = true) (h2 : k < n → f k = false) :
    Calls Try.prog 27 #[.slice A n c, .bool false] w fun e w' => e = .returned (.int .i64 (if k < n then (k : Int) else -1)) ∧ w = w' := by
  have HR : Box _ := ⟨hR⟩; clear hR
  have H1 : Box _ := ⟨h1⟩
  have H2 : Box _ := ⟨h2⟩
  obtain ⟨r, hr⟩ : ∃ r : Int, (if k < n then (k : Int) else -1) = r := ⟨_, rfl⟩
  have HV : Box _ := ⟨hr⟩
  rw [hr]
  clear h1 h2 hr
  go_enter Try.func27, Try.ntmps27
  go_wp2
  go_loop [8] (fun i => ∃ j : Nat, j ≤ k ∧ i = .int .i64 (j : Int)) (fun i => n - (intOf i).toNat)
  case atStart => exact ⟨0, by omega, rfl⟩
  case round =>
    obtain ⟨j, hj, rfl⟩ := hrel
    by_cases hlt : j < n
    · obtain ⟨ad, rfl, hcell⟩ := HR.out.get (bf_at f hlt)
      by_cases hjk : j < k
      · rw [H1.out j hjk] at hcell
        go_wp2
        go_round
        case rel => exact ⟨j + 1, by omega, by go_num⟩
        case measure => simp [intOf]; omega
      · obtain rfl : j = k := by omega
        rw [H2.out hlt] at hcell
        go_wp2
        go_ret
        exact ⟨ret_int (by rw [← HV.out, if_pos hlt]), rfl⟩
    · have hkn : ¬ k < n := by omega
      go_wp2
      go_ret
      exact ⟨ret_int (by rw [← HV.out, if_neg hkn]), rfl⟩

theorem roomTake_calls (g h c n : Nat) (f : Nat → Bool) (w : World) (hA : RoomAt w g h c n f) (hn : n ≤ 1900) (k : Nat) (hk : k < n) (h1 : ∀ j, j < k → f j = true) (h2 : f k = false) :
    Calls Try.prog 9 #[.pointer (some ⟨g, 0, none⟩)] w fun e w' => e = .returned (.tuple #[.int .i64 (k : Int), .int .i64 0]) ∧ RoomAt w' g h c n (upd f k true) ∧ Touched w w' [h] := by
  have k0 := hA.c0
  obtain ⟨k1, f1⟩ := hA.cell hk
  have HI : Box _ := ⟨indexBool_calls (some ⟨h, 0, none⟩) n c f w (by omega) hA.row k (by omega) h1 (fun _ => h2)⟩
  rw [if_pos hk] at HI
  have HS : Box _ := ⟨hA.set hk true⟩
  have HT : Box (Touched w (w.setCell ⟨h, k, none⟩ (.bool true)) [h]) := ⟨(Touched.refl w _).setCell (.inl (by simp)) _⟩
  have b1 : (0 : Int) ≤ (k : Int) := by omega
  have b2 : (k : Int) < (n : Int) := by omega
  clear hA h1 h2
  go_enter Try.func9, Try.ntmps9
  go_wp2_with fail
  refine HI.out.mono ?_
  rintro e w1 ⟨rfl, rfl⟩
  go_wp2_with fail
  go_ret2
  exact ⟨rfl, HS.out, HT.out⟩
theorem roomTake_full (g h c n : Nat) (f : Nat → Bool) (w : World) (hA : RoomAt w g h c n f) (hn : n ≤ 1900) (h1 : ∀ j, j < n → f j = true) :
    Calls Try.prog 9 #[.pointer (some ⟨g, 0, none⟩)] w fun e w' => e = .returned (.tuple #[.int .i64 0, .int .i64 20]) ∧ w = w' := by
  have k0 := hA.c0
  have HI : Box _ := ⟨indexBool_calls (some ⟨h, 0, none⟩) n c f w (by omega) hA.row n (by omega) h1 (fun h => by omega)⟩
  rw [if_neg (by omega)] at HI
  clear hA h1
  go_enter Try.func9, Try.ntmps9
  go_wp2_with fail
  refine HI.out.mono ?_
  rintro e w1 ⟨rfl, rfl⟩
  go_wp2_with fail
  go_ret2
  exact ⟨rfl, rfl⟩

/-- Those that are in use, rising. -/
def idsL (f : Nat → Bool) (n : Nat) : List Int := ((List.range n).filter f).map (fun j : Nat => (j : Int))
theorem idsL_succ (f : Nat → Bool) (n : Nat) : idsL f (n + 1) = if f n then idsL f n ++ [(n : Int)] else idsL f n := by
  unfold idsL
  rw [List.range_succ, List.filter_append]
  by_cases h : f n = true <;> simp [h, List.filter_cons]
theorem idsL_le (f : Nat → Bool) (n : Nat) : (idsL f n).length ≤ n := by
  unfold idsL
  rw [List.length_map]
  have := List.length_filter_le f (List.range n)
  simpa using this

set_option maxHeartbeats 1600000 in
theorem roomAll_calls (g h c n : Nat) (f : Nat → Bool) (w : World) (hA : RoomAt w g h c n f) (hn : n ≤ 1900) :
    Calls Try.prog 14 #[.pointer (some ⟨g, 0, none⟩)] w fun e w' => ∃ v, e = .returned v ∧ Own w' w.heap.size 1 v (idsL f n).length (icells (idsL f n)) ∧ Below w.heap.size w w' := by
  have k0 := hA.c0
  have HR : Box _ := ⟨hA.row⟩
  clear hA
  go_enter Try.func14, Try.ntmps14
  go_wp2
  go_loopw [3, 13] (fun v i wr => ∃ k : Nat, k ≤ n ∧ i = .int .i64 (k : Int) ∧ Box (Own wr w.heap.size 1 v (idsL f k).length (icells (idsL f k))) ∧ Box (Below w.heap.size w wr)) (fun _ i _ => n - (intOf i).toNat)
  case atStart => exact ⟨0, Nat.zero_le _, rfl, ⟨Own.nil _ _ _⟩, ⟨Below.refl _ _⟩⟩
  case round =>
    obtain ⟨k, hk, rfl, HN, HW⟩ := hrel
    by_cases hlt : k < n
    · have HS : Box _ := ⟨idsL_succ f k⟩
      have hle := idsL_le f k
      have hcell := row_cell (HR.out.below HW.out) (bf_at f hlt)
      obtain ⟨b, hb⟩ : ∃ b, f k = b := ⟨_, rfl⟩
      rw [hb] at hcell HS
      clear hb
      cases b
      · have HE : Box (idsL f (k + 1) = idsL f k) := ⟨by rw [HS.out]; rfl⟩
        go_wp2
        go_roundw
        case rel => exact ⟨k + 1, by omega, by go_num, by rw [HE.out]; exact HN, HW⟩
        case measure => simp [intOf]; omega
      · have HE : Box (idsL f (k + 1) = idsL f k ++ [(k : Int)]) := ⟨by rw [HS.out]; rfl⟩
        go_wp2_with (at_builtin; refine appO el_int w.heap.size rfl _ _ rfl rfl (HN.out.alloc _) (news := icells [(k : Int)]) rfl rfl (rowAt_alloc _ _ _) (one_icells _) (by omega) (Nat.le_trans HW.out.size (by simp)) ?_; intro v1 w3 hown1 hg1 _; have HO3 : Box (Own w3 w.heap.size 1 v1 (idsL f (k + 1)).length (icells (idsL f (k + 1)))) := ⟨(by rw [HE.out, icells, List.map_append, List.length_append]; exact hown1)⟩; have HB3 : Box (Below w.heap.size w w3) := ⟨Own.grown_below (HN.out.alloc _) (HW.out.alloc HW.out.size _) hg1 (Nat.le_refl _)⟩; clear hown1 hg1)
        go_roundw
        case rel => exact ⟨k + 1, by omega, by go_num, HO3, HB3⟩
        case measure => simp [intOf]; omega
    · obtain rfl : k = n := by omega
      go_wp2
      go_ret
      exact ⟨_, rfl, HN.out, HW.out⟩
theorem roomFree_calls (g h c n : Nat) (f : Nat → Bool) (w : World) (hA : RoomAt w g h c n f) (hn : n ≤ 1900) :
    Calls Try.prog 17 #[.pointer (some ⟨g, 0, none⟩)] w fun e w' => e = .returned (.int .i64 ((n - (idsL f n).length : Nat) : Int)) ∧ Below w.heap.size w w' := by
  have HZ : Box _ := ⟨roomSize_calls g h c n f w hA⟩
  have HL : Box _ := ⟨roomAll_calls g h c n f w hA hn⟩
  have hle := idsL_le f n
  clear hA
  obtain ⟨m, hm⟩ : ∃ m, (idsL f n).length = m := ⟨_, rfl⟩
  rw [hm] at hle HL
  rw [hm, show ((n - m : Nat) : Int) = (n : Int) - (m : Int) by omega]
  clear hm
  go_enter Try.func17, Try.ntmps17
  go_wp2_with fail
  refine HZ.out.mono ?_
  rintro e w1 ⟨rfl, rfl⟩
  go_wp2_with fail
  refine HL.out.mono ?_
  rintro e w2 ⟨v, rfl, ho, hb⟩
  obtain ⟨A, c2, rfl, _, _, _⟩ := ho.slice
  have HB : Box _ := ⟨hb⟩
  clear ho hb
  go_wp2_with fail
  go_ret
  exact ⟨rfl, HB.out⟩

/-- Numbers are given back, one behind another: what is left in use, and how many they were. -/
def giveL (n : Nat) : List Int → (Nat → Bool) × Nat → (Nat → Bool) × Nat
  | [], s => s
  | x :: l, s => giveL n l (if (decide (0 ≤ x ∧ x < (n : Int)) && s.1 x.toNat) = true then (upd s.1 x.toNat false, s.2 + 1) else s)
theorem giveL_snoc (n : Nat) (l : List Int) (x : Int) (s : (Nat → Bool) × Nat) : giveL n (l ++ [x]) s = (if (decide (0 ≤ x ∧ x < (n : Int)) && (giveL n l s).1 x.toNat) = true then (upd (giveL n l s).1 x.toNat false, (giveL n l s).2 + 1) else giveL n l s) := by
  induction l generalizing s with
  | nil => rfl
  | cons y l ih => rw [List.cons_append, giveL, ih]; rfl
theorem giveL_le (n : Nat) (l : List Int) (s : (Nat → Bool) × Nat) : (giveL n l s).2 ≤ s.2 + l.length := by
  induction l generalizing s with
  | nil => simp [giveL]
  | cons y l ih =>
    rw [giveL]
    refine Nat.le_trans (ih _) ?_
    split <;> simp <;> omega

set_option maxHeartbeats 1600000 in
theorem roomGive_calls (g h c n : Nat) (f : Nat → Bool) (A : Option Addr) (m cc : Nat) (l : List Int) (w : World) (hl : l.length = m) (hm : m ≤ 4000000000000000000) (hA : RoomAt w g h c n f) (hn : n ≤ 1900)
    (hR : ∀ w', Touched w w' [h] → RowAt w' A (icells l)) :
    Calls Try.prog 12 #[.pointer (some ⟨g, 0, none⟩), .slice A m cc] w fun e w' => e = .returned (.int .i64 ((giveL n l (f, 0)).2 : Int)) ∧ RoomAt w' g h c n (giveL n l (f, 0)).1 ∧ Touched w w' [h] := by
  subst hl
  have HR : Box _ := ⟨hR⟩; clear hR
  have HA : Box _ := ⟨hA⟩; clear hA
  go_enter Try.func12, Try.ntmps12
  go_wp2
  go_loopw [5, 10] (fun q i wr => ∃ k : Nat, k ≤ l.length ∧ i = .int .i64 (k : Int) ∧ q = .int .i64 ((giveL n (l.take k) (f, 0)).2 : Int) ∧ Box (RoomAt wr g h c n (giveL n (l.take k) (f, 0)).1) ∧ Box (Touched w wr [h])) (fun _ i _ => l.length - (intOf i).toNat)
  case atStart => exact ⟨0, Nat.zero_le _, rfl, rfl, HA, ⟨Touched.refl _ _⟩⟩
  case round =>
    obtain ⟨k, hk, rfl, rfl, HN, HW⟩ := hrel
    by_cases hlt : k < l.length
    · obtain ⟨x, hx⟩ := some_at hlt
      obtain ⟨ad, rfl, hcell⟩ := (HR.out _ HW.out).get (icells_at hx)
      have HS : Box _ := ⟨giveL_snoc n (l.take k) x (f, 0)⟩
      rw [← take_snoc_of hx] at HS
      have hle := giveL_le n (l.take k) (f, 0)
      rw [List.length_take] at hle
      obtain ⟨s, hs⟩ : ∃ s, giveL n (l.take k) (f, 0) = s := ⟨_, rfl⟩
      rw [hs] at HS HN hle
      rw [hs]
      have hle2 : s.2 ≤ 4000000000000000000 := by simp at hle; omega
      clear hs hx hle
      have HU : Box _ := ⟨roomUsed_calls g h c n s.1 x _ HN.out hn⟩
      have k0 := HN.out.c0
      obtain ⟨b, hb⟩ : ∃ b, (decide (0 ≤ x ∧ x < (n : Int)) && s.1 x.toNat) = b := ⟨_, rfl⟩
      rw [hb] at HU HS
      cases b
      · rw [if_neg (by simp)] at HS
        go_wp2_with fail
        refine HU.out.mono ?_
        rintro e w1 ⟨rfl, rfl⟩
        go_wp2_with fail
        go_roundw
        case rel => exact ⟨k + 1, by omega, by go_num, by rw [HS.out], by rw [HS.out]; exact HN, HW⟩
        case measure => simp [intOf]; omega
      · rw [if_pos rfl] at HS
        have hx2 : 0 ≤ x ∧ x < (n : Int) := by
          rw [Bool.and_eq_true, decide_eq_true_eq] at hb
          exact hb.1
        obtain ⟨y, rfl⟩ : ∃ y : Nat, x = (y : Int) := ⟨x.toNat, by omega⟩
        have hy : y < n := by omega
        rw [Int.toNat_natCast] at HS
        obtain ⟨k1, f1⟩ := HN.out.cell hy
        have b1 := hx2.1
        have b2 := hx2.2
        clear hb hx2
        go_wp2_with fail
        refine HU.out.mono ?_
        rintro e w1 ⟨rfl, rfl⟩
        go_wp2_with fail
        go_roundw
        case rel => exact ⟨k + 1, by omega, by go_num, by rw [HS.out]; go_num, by rw [HS.out]; exact ⟨HN.out.set hy false⟩, ⟨HW.out.setCell (.inl (by simp)) _⟩⟩
        case measure => simp [intOf]; omega
    · obtain rfl : k = l.length := by omega
      go_wp2
      go_ret
      rw [List.take_of_length_le (Nat.le_refl _)] at HN
      exact ⟨by rw [List.take_of_length_le (Nat.le_refl _)]; rfl, HN.out, HW.out⟩
end Go.Proofs.Ytoadelcdcfdmfaa
