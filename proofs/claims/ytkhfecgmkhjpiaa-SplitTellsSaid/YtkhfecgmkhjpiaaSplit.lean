/- Package split: what each function computes. -/
import Derived.Test.YtkhfecgmkhjpiaaCdcRef
import Derived.Test.YtkhfecgmkhjpiaaCdcUse
import Derived.Test.YtkhfecgmkhjpiaaSplitPure
namespace Go.Proofs.Ytkhfecgmkhjpiaa
open Go.RowKit
set_option linter.unusedVariables false
attribute [local go_sem] max2_int min2_int max_two min_two

set_option maxHeartbeats 1600000 in
set_option maxRecDepth 100000 in
theorem kept_calls (A : Option Addr) (n c : Nat) (l : List (Int × Int)) (a : Int) (same : Bool) (w : World) (hn : n ≤ 1000000) (hl : l.length = n) (hR : RowAt w A (pcells l)) :
    Calls Try.prog 86 #[.slice A n c, .int .i64 a, .bool same] w fun e w' => ∃ v, e = .returned v ∧ Own w' w.heap.size 2 v (keptGo a same l) (pcells (l.take (keptGo a same l))) ∧ Below w.heap.size w w' := by
  subst hl
  have HR := Lib.hid hR; clear hR
  obtain ⟨K, hK⟩ : ∃ K, keptGo a same l = K := ⟨_, rfl⟩
  have HK := Lib.hid hK
  rw [hK]
  clear hK
  go_enter Try.func86, Try.ntmps86
  go_wp2
  go_loopw [7, 12] (fun v i wr => ∃ k : Nat, k ≤ l.length ∧ i = .int .i64 k ∧ Hid (K = k + keptGo a same (l.drop k)) ∧ Hid (Own wr w.heap.size 2 v k (pcells (l.take k))) ∧ Hid (Below w.heap.size w wr)) (fun _ i _ => l.length - (intOf i).toNat)
  case atStart => exact ⟨0, Nat.zero_le _, rfl, by rw [Hid, ← HK.out]; simp, Own.nil _ _ _, Below.refl _ _⟩
  case round =>
    obtain ⟨k, hk, rfl, HC, HO, HW⟩ := hrel
    by_cases hlt : k < l.length
    · obtain ⟨⟨x, y⟩, hx⟩ := some_at hlt
      obtain ⟨b, o, rfl, hb, h1, h2⟩ := pair_at (HR.out.below HW.out) hx
      have HD : Hid (K = k + if a < y ∨ (k + 1 = l.length ∧ same = false) then 0 else keptGo a same (l.drop (k + 1)) + 1) := by
        rw [Hid, HC.out, drop_of_at hx, keptGo]
        have : (l.drop (k + 1) = []) ↔ k + 1 = l.length := by rw [List.drop_eq_nil_iff]; omega
        simp only [this]
      have HT : Hid (pcells (l.take (k + 1)) = pcells (l.take k) ++ [.int .i64 x, .int .i64 y]) := by rw [Hid, take_snoc_of hx, pcells_append]; rfl
      clear hx HC
      by_cases c1 : a < y
      · have HE : Hid (K = k) := by rw [Hid, HD.out, if_pos (.inl c1)]; omega
        clear HD
        go_wp2
        go_ret
        rw [HE.out]
        exact ⟨_, rfl, HO.out.alloc _, HW.out.alloc HW.out.size _⟩
      by_cases c2 : k + 1 = l.length
      · have c3 : ((k : Int) == (l.length : Int) - 1) = true := by simp; omega
        replace c2 := Lib.hid c2
        cases same
        · have HE : Hid (K = k) := by rw [Hid, HD.out, if_pos (.inr ⟨c2.out, rfl⟩)]; omega
          clear HD
          go_wp2
          go_ret
          rw [HE.out]
          exact ⟨_, rfl, HO.out.alloc _, HW.out.alloc HW.out.size _⟩
        · have HE : Hid (K = k + 1 + keptGo a true (l.drop (k + 1))) := by rw [Hid, HD.out, if_neg (by rintro (h | h); exact c1 h; cases h.2)]; omega
          clear HD
          go_wp2_with (at_builtin; refine appO el_spans w.heap.size rfl _ _ rfl rfl ((HO.out.alloc _).alloc _) (news := [.int .i64 x, .int .i64 y]) rfl rfl (row_alloc2 _ _ [.int .i64 x, .int .i64 y] _) (one_pair _ _) (by omega) (by have := HW.out.size; simp; omega) ?_; intro v1 w1 hown1 hg1 _; have HO1 : Hid (Own w1 w.heap.size 2 v1 (k + 1) (pcells (l.take (k + 1)))) := (by rw [HT.out]; exact hown1); have HB1 : Hid (Below w.heap.size w w1) := Own.grown_below ((HO.out.alloc _).alloc _) ((HW.out.alloc HW.out.size _).alloc (by have := HW.out.size; simp; omega) _) hg1 (Nat.le_refl _); clear hown1 hg1)
          go_roundw
          case rel => exact ⟨k + 1, by omega, by go_num, HE, HO1, HB1⟩
          case measure => simp [intOf]; omega
      · have c3 : ((k : Int) == (l.length : Int) - 1) = false := by simp; omega
        have c4 : ¬ (k : Int) = (l.length : Int) - 1 := by omega
        have HE : Hid (K = k + 1 + keptGo a same (l.drop (k + 1))) := by rw [Hid, HD.out, if_neg (by rintro (h | h); exact c1 h; exact c2 h.1)]; omega
        clear HD
        go_wp2_with (at_builtin; refine appO el_spans w.heap.size rfl _ _ rfl rfl ((HO.out.alloc _).alloc _) (news := [.int .i64 x, .int .i64 y]) rfl rfl (row_alloc2 _ _ [.int .i64 x, .int .i64 y] _) (one_pair _ _) (by omega) (by have := HW.out.size; simp; omega) ?_; intro v1 w1 hown1 hg1 _; have HO1 : Hid (Own w1 w.heap.size 2 v1 (k + 1) (pcells (l.take (k + 1)))) := (by rw [HT.out]; exact hown1); have HB1 : Hid (Below w.heap.size w w1) := Own.grown_below ((HO.out.alloc _).alloc _) ((HW.out.alloc HW.out.size _).alloc (by have := HW.out.size; simp; omega) _) hg1 (Nat.le_refl _); clear hown1 hg1)
        go_roundw
        case rel => exact ⟨k + 1, by omega, by go_num, HE, HO1, HB1⟩
        case measure => simp [intOf]; omega
    · have HE : Hid (K = k) := by rw [Hid, HC.out, List.drop_eq_nil_of_le (by omega)]; rfl
      go_wp2
      go_ret
      rw [HE.out]
      exact ⟨_, rfl, HO.out, HW.out⟩

set_option maxHeartbeats 400000 in
theorem behind1_calls (x y a g : Int) (b1 b2 : Nat) (w : World) (h1 : w.cell? ⟨b1, 0, none⟩ = some (.int .i64 a)) (h2 : w.cell? ⟨b2, 0, none⟩ = some (.int .i64 g)) (hr : -9223372036854775808 ≤ a - g ∧ a - g ≤ 9223372036854775807) :
    Calls Try.prog 106 #[.agg #[.int .i64 x, .int .i64 y], .pointer (some ⟨b1, 0, none⟩), .pointer (some ⟨b2, 0, none⟩)] w fun e w' => e = .returned (.bool (decide (x = a - g))) ∧ Below w.heap.size w w' := by
  have hw := IntWalk.i64_in (a - g) (by omega)
  have k1 : ∀ o, (w.alloc o).cell? ⟨b1, 0, none⟩ = some (.int .i64 a) := fun o => cell_kept ((Below.refl w.heap.size w).alloc (Nat.le_refl _) o) (Nat.le_refl _) h1
  have k2 : ∀ o, (w.alloc o).cell? ⟨b2, 0, none⟩ = some (.int .i64 g) := fun o => cell_kept ((Below.refl w.heap.size w).alloc (Nat.le_refl _) o) (Nat.le_refl _) h2
  go_enter Try.func106, Try.ntmps106
  go_wp2
  go_ret
  exact ⟨ret_bool (by rw [Bool.eq_iff_iff]; simp), (Below.refl _ _).alloc (Nat.le_refl _) _⟩
set_option maxHeartbeats 1600000 in
set_option maxRecDepth 100000 in
theorem indexFunc_calls (A : Option Addr) (n c : Nat) (l : List (Int × Int)) (a g : Int) (b1 b2 : Nat) (w : World) (hn : n ≤ 1000000) (hl : l.length = n) (hR : RowAt w A (pcells l)) (h1 : w.cell? ⟨b1, 0, none⟩ = some (.int .i64 a)) (h2 : w.cell? ⟨b2, 0, none⟩ = some (.int .i64 g)) (hr : -9223372036854775808 ≤ a - g ∧ a - g ≤ 9223372036854775807) :
    Calls Try.prog 105 #[.slice A n c, .func (.func 106) #[] #[.pointer (some ⟨b1, 0, none⟩), .pointer (some ⟨b2, 0, none⟩)]] w fun e w' => e = .returned (.int .i64 (idxZ (a - g) l)) ∧ Below w.heap.size w w' := by
  subst hl
  have HR := Lib.hid hR; clear hR
  have HF := Lib.hid (fun (x y : Int) (W : World) (hb : Below w.heap.size w W) => behind1_calls x y a g b1 b2 W (cell_kept hb (Nat.le_refl _) h1) (cell_kept hb (Nat.le_refl _) h2) hr)
  clear h1 h2 hr
  obtain ⟨Z, hZ⟩ : ∃ Z, idxI (a - g) l = Z := ⟨_, rfl⟩
  have HZ := Lib.hid hZ
  obtain ⟨z, hz⟩ : ∃ z, idxZ (a - g) l = z := ⟨_, rfl⟩
  have HZ1 : Hid (∀ i, Z = some i → z = i) := fun i e => by rw [← hz, idxZ, hZ, e]
  have HZ2 : Hid (Z = none → z = -1) := fun e => by rw [← hz, idxZ, hZ, e]
  rw [hz]
  clear hZ hz
  go_enter Try.func105, Try.ntmps105
  go_wp2
  go_loopw [8] (fun i wr => ∃ k : Nat, k ≤ l.length ∧ i = .int .i64 k ∧ Hid (Z = (idxI (a - g) (l.drop k)).map (· + k)) ∧ Hid (Below w.heap.size w wr)) (fun i _ => l.length - (intOf i).toNat)
  case atStart => exact ⟨0, Nat.zero_le _, rfl, by rw [Hid, ← HZ.out]; simp, Below.refl _ _⟩
  case round =>
    obtain ⟨k, hk, rfl, HC, HW⟩ := hrel
    by_cases hlt : k < l.length
    · obtain ⟨⟨x, y⟩, hx⟩ := some_at hlt
      obtain ⟨b, o, rfl, hb, h1, h2⟩ := pair_at (HR.out.below HW.out) hx
      have HD : Hid (Z = if x = a - g then some k else (idxI (a - g) (l.drop (k + 1))).map (· + (k + 1))) := by
        rw [Hid, HC.out, drop_of_at hx, idxI_cons]
        split
        · simp
        · rw [Option.map_map]
          congr 1
          funext z
          show z + 1 + k = z + (k + 1)
          omega
      have HF1 := Lib.hid (HF.out x y wr HW.out)
      clear hx HC
      by_cases c1 : x = a - g
      · have hd : decide (x = a - g) = true := decide_eq_true c1
        have HE : Hid (z = k) := HZ1.out _ (by rw [HD.out, if_pos c1])
        rw [hd] at HF1
        clear HD c1 hd
        go_wp2_with (go_at_call 106; refine Calls.mono HF1.out ?_; rintro e w2 ⟨rfl, hb2⟩; have HB2 := Lib.hid (below_trans' HW.out hb2); clear hb2)
        go_ret
        exact ⟨ret_int (by rw [HE.out]), HB2.out⟩
      · have hd : decide (x = a - g) = false := decide_eq_false c1
        have HE : Hid (Z = (idxI (a - g) (l.drop (k + 1))).map (· + (k + 1))) := by rw [Hid, HD.out, if_neg c1]
        rw [hd] at HF1
        clear HD c1 hd
        go_wp2_with (go_at_call 106; refine Calls.mono HF1.out ?_; rintro e w2 ⟨rfl, hb2⟩; have HB2 := Lib.hid (below_trans' HW.out hb2); clear hb2)
        go_roundw
        case rel => exact ⟨k + 1, by omega, by go_num, HE, HB2⟩
        case measure => simp [intOf]; omega
    · have HE : Hid (z = -1) := HZ2.out (by rw [HC.out, List.drop_eq_nil_of_le (by omega)]; rfl)
      go_wp2
      go_ret
      exact ⟨ret_int (by rw [HE.out]), HW.out⟩
set_option maxHeartbeats 1600000 in
set_option maxRecDepth 100000 in
theorem behind_calls (A : Option Addr) (n c : Nat) (l : List (Int × Int)) (a size g : Int) (w : World) (hn : n ≤ 1000000) (hl : l.length = n) (hc : n ≤ c) (hR : RowAt w A (pcells l)) (hr : -9223372036854775808 ≤ a - g ∧ a - g ≤ 9223372036854775807)
    (hg : ∀ p ∈ l, (-9223372036854775808 ≤ p.1 + g ∧ p.1 + g ≤ 9223372036854775807) ∧ -9223372036854775808 ≤ p.2 + g ∧ p.2 + g ≤ 9223372036854775807) :
    Calls Try.prog 87 #[.slice A n c, .int .i64 a, .int .i64 size, .int .i64 g] w fun e w' =>
      (a = size ∧ e = .returned (.tuple #[.slice none 0 0, .bool true]) ∨ a ≠ size ∧ idxI (a - g) l = none ∧ e = .returned (.tuple #[.slice none 0 0, .bool false]) ∨
        a ≠ size ∧ ∃ i v, idxI (a - g) l = some i ∧ e = .returned (.tuple #[v, .bool true]) ∧ Own w' w.heap.size 2 v (l.length - i) (pcells (moved g (l.drop i)))) ∧ Below w.heap.size w w' := by
  subst hl
  have HR := Lib.hid hR; clear hR
  have HG := Lib.hid hg; clear hg
  have hmf : ∀ (fn : Fn) (first cap : Array Value) (w : World), (Instr.makeFunc fn first cap).run Try.prog w = .ok (.func fn first cap) w := fun _ _ _ _ => rfl
  by_cases c0 : a = size
  · subst c0
    go_enter Try.func87, Try.ntmps87
    go_wp2
    go_ret2
    exact ⟨.inl ⟨by trivial, rfl⟩, (((Below.refl _ _).alloc (Nat.le_refl _) _).alloc (by simp) _)⟩
  · have hne : (a == size) = false := by simpa using c0
    have HN : Hid (a ≠ size) := c0
    clear c0
    obtain ⟨Z, hZ⟩ : ∃ Z, idxI (a - g) l = Z := ⟨_, rfl⟩
    obtain ⟨wq, hwq⟩ : ∃ wq, (w.alloc (.cells #[.int .i64 a] 3)).alloc (.cells #[.int .i64 g] 3) = wq := ⟨_, rfl⟩
    have hb0 : Below w.heap.size w wq := by rw [← hwq]; exact (((Below.refl _ _).alloc (Nat.le_refl _) _).alloc (by simp) _)
    have k1 : wq.cell? ⟨w.heap.size, 0, none⟩ = some (.int .i64 a) := by rw [← hwq]; simp [go_sem]
    have k2 : wq.cell? ⟨w.heap.size + 1, 0, none⟩ = some (.int .i64 g) := by rw [← hwq]; simp [go_sem]
    have hwz : wq.heap.size = w.heap.size + 2 := by rw [← hwq]; simp
    have HI := indexFunc_calls A l.length c l a g w.heap.size (w.heap.size + 1) wq hn rfl (HR.out.below hb0) k1 k2 hr
    have HB0 := Lib.hid hb0
    have HK := Lib.hid (And.intro k1 k2)
    have HZ := Lib.hid hZ
    have HWZ := Lib.hid hwz
    clear hb0 hwz
    cases Z with
    | none =>
      rw [idxZ, hZ] at HI
      have HI2 := Lib.hid HI
      clear HI hZ hr
      go_enter Try.func87, Try.ntmps87
      go_wp2_with fail
      refine Calls.mono HI2.out ?_
      rintro e w2 ⟨rfl, hb2⟩
      have HB2 := Lib.hid (HB0.out.trans (hb2.mono HB0.out.size))
      clear hb2 hwq k1 k2
      go_wp2
      go_ret2
      exact ⟨.inr (.inl ⟨HN.out, HZ.out, rfl⟩), HB2.out⟩
    | some i =>
      rw [idxZ, hZ] at HI
      simp only at HI
      have HI2 := Lib.hid HI
      obtain ⟨p, hp, _⟩ := idxI_at hZ
      have hil := (List.getElem?_eq_some_iff.1 hp).1
      obtain ⟨b, o, rfl, _, _⟩ := pair_at HR.out hp
      clear HI hZ hr hp
      go_enter Try.func87, Try.ntmps87
      go_wp2_with fail
      refine Calls.mono HI2.out ?_
      rintro e w2 ⟨rfl, hb2⟩
      have HB2 := Lib.hid (HB0.out.trans (hb2.mono HB0.out.size))
      have HK2 := Lib.hid (cell_kept hb2 (Nat.le_refl _) HK.out.2)
      clear hb2 hwq k1 k2
      obtain ⟨m, hm⟩ : ∃ m, l.length - i = m := ⟨_, rfl⟩
      have HM := Lib.hid hm
      have HBl : Hid (i + m = l.length) := by rw [Hid]; omega
      go_wp2
      clear hm
      have HRow2 := Lib.hid (HR.out.below HB2.out)
      go_loopw [11, 26] (fun v j wr => ∃ k : Nat, k ≤ m ∧ j = .int .i64 k ∧ Hid (Own wr w2.heap.size 2 v k (pcells (moved g ((l.drop i).take k)))) ∧ Hid (Below w2.heap.size w2 wr)) (fun _ j _ => m - (intOf j).toNat)
      case atStart => exact ⟨0, Nat.zero_le _, rfl, Own.nil _ _ _, Below.refl _ _⟩
      case round =>
        obtain ⟨k, hk, rfl, HO, HW⟩ := hrel
        by_cases hlt : k < m
        · obtain ⟨⟨x, y⟩, hx⟩ := some_at (show i + k < l.length by have := HBl.out; omega)
          obtain ⟨b', o', e, hb, h1, h2⟩ := pair_at (HRow2.out.below HW.out) hx
          injection e with e
          injection e with e1 e2
          subst e1 e2
          rw [show o + (i + k) * 2 = o + i * 2 + k * 2 by omega] at h1 h2
          have hgx := HG.out _ (List.mem_of_getElem? hx)
          simp only at hgx h1 h2
          have hw1 := IntWalk.i64_in (x + g) (by omega)
          have hw2 := IntWalk.i64_in (y + g) (by omega)
          have HT : Hid (pcells (moved g ((l.drop i).take (k + 1))) = pcells (moved g ((l.drop i).take k)) ++ [.int .i64 (x + g), .int .i64 (y + g)]) := by
            rw [Hid, take_snoc_of (show (l.drop i)[k]? = some (x, y) by rw [List.getElem?_drop]; exact hx), moved, List.map_append, pcells_append]; rfl
          clear hx hgx
          have kg : ∀ o, (wr.alloc o).cell? ⟨w.heap.size + 1, 0, none⟩ = some (.int .i64 g) := fun o => cell_kept (HW.out.alloc HW.out.size o) (Nat.le_refl _) HK2.out
          have hkm : k ≤ 1000000 := by have := HBl.out; omega
          go_wp2_with (at_builtin; refine appO el_spans w2.heap.size rfl _ _ rfl rfl ((HO.out.alloc _).alloc _) (news := [.int .i64 (x + g), .int .i64 (y + g)]) rfl rfl (row_alloc2 _ _ [.int .i64 (x + g), .int .i64 (y + g)] _) (one_pair _ _) (by omega) (by have := HW.out.size; simp; omega) ?_; intro v1 w3 hown1 hg1 _; have HO1 : Hid (Own w3 w2.heap.size 2 v1 (k + 1) (pcells (moved g ((l.drop i).take (k + 1))))) := (by rw [HT.out]; exact hown1); have HB1 : Hid (Below w2.heap.size w2 w3) := Own.grown_below ((HO.out.alloc _).alloc _) ((HW.out.alloc HW.out.size _).alloc (by have := HW.out.size; simp; omega) _) hg1 (Nat.le_refl _); clear hown1 hg1)
          go_roundw
          case rel => exact ⟨k + 1, by omega, by go_num, HO1, HB1⟩
          case measure => simp [intOf]; omega
        · have HE : Hid (k = m) := by rw [Hid]; omega
          go_wp2
          go_ret2
          refine ⟨.inr (.inr ⟨HN.out, i, _, HZ.out, rfl, ?_⟩), HB2.out.trans (HW.out.mono HB2.out.size)⟩
          have := HO.out.weaken HB2.out.size
          rw [List.take_of_length_le (by rw [List.length_drop]; have := HBl.out; have := HE.out; omega), HE.out, ← HM.out] at this
          exact this
end Go.Proofs.Ytkhfecgmkhjpiaa
