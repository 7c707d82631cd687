/- Package fixed and its reference: what each function computes. -/
import Derived.Test.YtkhfecgmkhjpiaaOwn
import Derived.Test.YtkhfecgmkhjpiaaBook
namespace Go.Proofs.Ytkhfecgmkhjpiaa
open Go.RowKit
set_option linter.unusedVariables false
attribute [local go_sem] max2_int min2_int max_two min_two

theorem el_spans : El Try.prog 23 47 2 16 := El.mk' Try.underlying23 (z := .agg #[.int .i64 0, .int .i64 0]) (by kernel_rfl) (by decide)

def wholeGo : Int → List (Int × Int) → Option Int
  | at_, [] => some at_
  | at_, p :: r => if p.1 = at_ ∧ at_ < p.2 then wholeGo p.2 r else none
def wholeB (n : Int) (l : List (Int × Int)) : Bool := decide (wholeGo 0 l = some n)

theorem drop_of_at {α : Type} {l : List α} {k : Nat} {x : α} (h : l[k]? = some x) : l.drop k = x :: l.drop (k + 1) := by
  rw [List.getElem?_eq_some_iff] at h
  obtain ⟨h, rfl⟩ := h
  exact List.drop_eq_getElem_cons h

set_option maxHeartbeats 800000 in
theorem whole_calls (m : Int) (A : Option Addr) (n c : Nat) (l : List (Int × Int)) (w : World) (hn : n ≤ 4000000000000000000) (hl : l.length = n) (hR : RowAt w A (pcells l)) :
    Calls Try.prog 20 #[.int .i64 m, .slice A n c] w fun e w' => e = .returned (.bool (wholeB m l)) ∧ Below w.heap.size w w' := by
  subst hl
  have HR := Lib.hid hR; clear hR
  go_enter Try.func20, Try.ntmps20
  go_wp2
  go_loopw [5, 10] (fun x i wr => ∃ k : Nat, ∃ cur : Int, k ≤ l.length ∧ i = .int .i64 k ∧ x = .int .i64 cur ∧ Hid (wholeGo 0 l = wholeGo cur (l.drop k)) ∧ Hid (Below w.heap.size w wr)) (fun _ i _ => l.length - (intOf i).toNat)
  case atStart => exact ⟨0, 0, Nat.zero_le _, rfl, rfl, rfl, Below.refl _ _⟩
  case round =>
    obtain ⟨k, cur, hk, rfl, rfl, HC, HW⟩ := hrel
    by_cases hlt : k < l.length
    · obtain ⟨⟨x, y⟩, hx⟩ := some_at hlt
      obtain ⟨b, o, rfl, hb, h1, h2⟩ := pair_at (HR.out.below HW.out) hx
      have HD : Hid (wholeGo 0 l = if x = cur ∧ cur < y then wholeGo y (l.drop (k + 1)) else none) := by rw [Hid, HC.out, drop_of_at hx]; rfl
      clear hx
      by_cases c1 : x = cur
      · subst c1
        by_cases c2 : x < y
        · have c3 : ¬ y ≤ x := by omega
          go_wp2
          go_roundw
          case rel => exact ⟨k + 1, y, by omega, by go_num, rfl, by rw [Hid, HD.out, if_pos ⟨rfl, c2⟩], (HW.out.alloc HW.out.size _)⟩
          case measure => simp [intOf]; omega
        · have c3 : y ≤ x := by omega
          go_wp2
          go_ret
          refine ⟨ret_bool ?_, (HW.out.alloc HW.out.size _)⟩
          rw [wholeB, HD.out, if_neg (by omega)]; rfl
      · have c3 : (x != cur) = true := by simpa using c1
        have c4 : (x == cur) = false := by simpa using c1
        go_wp2
        go_ret
        refine ⟨ret_bool ?_, (HW.out.alloc HW.out.size _)⟩
        rw [wholeB, HD.out, if_neg (by intro h; exact c1 h.1)]; rfl
    · go_wp2
      go_ret
      refine ⟨ret_bool ?_, HW.out⟩
      rw [wholeB, HC.out, List.drop_eq_nil_of_le (by omega)]
      simp [wholeGo]
      rw [Bool.eq_iff_iff]; simp

set_option maxHeartbeats 800000 in
theorem refWhole_calls (m : Int) (A : Option Addr) (n c : Nat) (l : List (Int × Int)) (w : World) (hn : n ≤ 4000000000000000000) (hl : l.length = n) (hR : RowAt w A (pcells l)) :
    Calls Try.prog 21 #[.int .i64 m, .slice A n c] w fun e w' => e = .returned (.bool (wholeB m l)) ∧ w = w' := by
  subst hl
  have HR := Lib.hid hR; clear hR
  go_enter Try.func21, Try.ntmps21
  go_wp2
  go_loop [5, 6] (fun x i => ∃ k : Nat, ∃ cur : Int, k ≤ l.length ∧ i = .int .i64 k ∧ x = .int .i64 cur ∧ Hid (wholeGo 0 l = wholeGo cur (l.drop k))) (fun _ i => l.length - (intOf i).toNat)
  case atStart => exact ⟨0, 0, Nat.zero_le _, rfl, rfl, rfl⟩
  case round =>
    obtain ⟨k, cur, hk, rfl, rfl, HC⟩ := hrel
    by_cases hlt : k < l.length
    · obtain ⟨⟨x, y⟩, hx⟩ := some_at hlt
      obtain ⟨b, o, rfl, hb, h1, h2⟩ := pair_at HR.out hx
      have HD : Hid (wholeGo 0 l = if x = cur ∧ cur < y then wholeGo y (l.drop (k + 1)) else none) := by rw [Hid, HC.out, drop_of_at hx]; rfl
      clear hx
      by_cases c1 : x = cur
      · subst c1
        by_cases c2 : x < y
        · have c3 : ¬ y ≤ x := by omega
          go_wp2
          go_round
          case rel => exact ⟨k + 1, y, by omega, by go_num, rfl, by rw [Hid, HD.out, if_pos ⟨by trivial, c2⟩]⟩
          case measure => simp [intOf]; omega
        · have c3 : y ≤ x := by omega
          go_wp2
          go_ret
          refine ⟨ret_bool ?_, rfl⟩
          rw [wholeB, HD.out, if_neg (by omega)]; rfl
      · have c3 : (x != cur) = true := by simpa using c1
        have c4 : (x == cur) = false := by simpa using c1
        go_wp2
        go_ret
        refine ⟨ret_bool ?_, rfl⟩
        rw [wholeB, HD.out, if_neg (by intro h; exact c1 h.1)]; rfl
    · go_wp2
      go_ret
      refine ⟨ret_bool ?_, rfl⟩
      rw [wholeB, HC.out, List.drop_eq_nil_of_le (by omega)]
      simp [wholeGo]
      rw [Bool.eq_iff_iff]; simp

/-- Whether a span has a byte of a part. -/
def hits (a b : Int) (p : Int × Int) : Prop := max p.1 a < min p.2 b
instance (a b : Int) (p : Int × Int) : Decidable (hits a b p) := by unfold hits; infer_instance
def touchGo (a b : Int) : Nat → List (Int × Int) → Int × Int → Int × Int
  | _, [], r => r
  | i, p :: l, r => touchGo a b (i + 1) l (if hits a b p then (if r.2 = 0 then (i : Int) else r.1, (i : Int) + 1) else r)
def touch (a b : Int) (l : List (Int × Int)) : Int × Int := touchGo a b 0 l (0, 0)

set_option maxHeartbeats 1600000 in
theorem touch_calls (A : Option Addr) (n c : Nat) (l : List (Int × Int)) (a b : Int) (w : World) (hn : n ≤ 4000000000000000000) (hl : l.length = n) (hR : RowAt w A (pcells l)) :
    Calls Try.prog 23 #[.slice A n c, .int .i64 a, .int .i64 b] w fun e w' => e = .returned (.tuple #[.int .i64 (touch a b l).1, .int .i64 (touch a b l).2]) ∧ Below w.heap.size w w' := by
  subst hl
  have HR := Lib.hid hR; clear hR
  go_enter Try.func23, Try.ntmps23
  go_wp2
  go_loopw [8, 9, 14] (fun x y i wr => ∃ k : Nat, ∃ f g : Int, k ≤ l.length ∧ 0 ≤ f ∧ f ≤ k ∧ 0 ≤ g ∧ g ≤ k ∧ i = .int .i64 k ∧ x = .int .i64 f ∧ y = .int .i64 g ∧ Hid (touch a b l = touchGo a b k (l.drop k) (f, g)) ∧ Hid (Below w.heap.size w wr)) (fun _ _ i _ => l.length - (intOf i).toNat)
  case atStart => exact ⟨0, 0, 0, Nat.zero_le _, by omega, by omega, by omega, by omega, rfl, rfl, rfl, rfl, Below.refl _ _⟩
  case round =>
    obtain ⟨k, f, g, hk, hf0, hf1, hg0, hg1, rfl, rfl, rfl, HC, HW⟩ := hrel
    by_cases hlt : k < l.length
    · obtain ⟨⟨x, y⟩, hx⟩ := some_at hlt
      obtain ⟨bk, o, rfl, hb, h1, h2⟩ := pair_at (HR.out.below HW.out) hx
      have HD : Hid (touch a b l = touchGo a b (k + 1) (l.drop (k + 1)) (if hits a b (x, y) then (if g = 0 then (k : Int) else f, (k : Int) + 1) else (f, g))) := by rw [Hid, HC.out, drop_of_at hx]; rfl
      clear hx
      by_cases ch : max x a < min y b
      · have hd := decide_eq_true ch
        have HE : Hid (touch a b l = touchGo a b (k + 1) (l.drop (k + 1)) (if g = 0 then (k : Int) else f, (k : Int) + 1)) := by rw [Hid, HD.out, if_pos (show hits a b (x, y) from ch)]
        by_cases cg : g = 0
        · subst cg
          go_wp2
          go_roundw
          case rel => exact ⟨k + 1, k, k + 1, by omega, by omega, by omega, by omega, by omega, by go_num, rfl, rfl, by rw [Hid, HE.out]; rfl, (HW.out.alloc HW.out.size _)⟩
          case measure => simp [intOf]; omega
        · have hgb : (g == 0) = false := by simpa using cg
          go_wp2
          go_roundw
          case rel => exact ⟨k + 1, f, k + 1, by omega, by omega, by omega, by omega, by omega, by go_num, rfl, rfl, by rw [Hid, HE.out, if_neg cg], (HW.out.alloc HW.out.size _)⟩
          case measure => simp [intOf]; omega
      · have hd := decide_eq_false ch
        have HE : Hid (touch a b l = touchGo a b (k + 1) (l.drop (k + 1)) (f, g)) := by rw [Hid, HD.out, if_neg (show ¬ hits a b (x, y) from ch)]
        go_wp2
        go_roundw
        case rel => exact ⟨k + 1, f, g, by omega, by omega, by omega, by omega, by omega, by go_num, rfl, rfl, HE, (HW.out.alloc HW.out.size _)⟩
        case measure => simp [intOf]; omega
    · go_wp2
      go_ret2
      refine ⟨?_, HW.out⟩
      rw [HC.out, List.drop_eq_nil_of_le (by omega)]; rfl

/-- Spans of n bytes of so many. -/
def fixedL (n size : Nat) : List (Int × Int) := (List.range ((size + n - 1) / n)).map fun i => (((i * n : Nat) : Int), ((min ((i + 1) * n) size : Nat) : Int))
def fixedZ (n size : Int) : List (Int × Int) := if n < 1 then [] else fixedL n.toNat size.toNat
theorem fixedL_length (n size : Nat) : (fixedL n size).length = (size + n - 1) / n := by simp [fixedL]
theorem fixed_lt {n size k : Nat} (hn : 1 ≤ n) : k < (size + n - 1) / n ↔ k * n < size := by
  rw [Nat.lt_div_iff_mul_lt (by omega)]
  omega
theorem fixedL_at {n size k : Nat} (hn : 1 ≤ n) (h : k * n < size) : (fixedL n size)[k]? = some (((k * n : Nat) : Int), ((min ((k + 1) * n) size : Nat) : Int)) := by
  simp [fixedL, (fixed_lt hn).2 h]
theorem fixed_le {n size k : Nat} (hn : 1 ≤ n) (h : k ≤ (size + n - 1) / n) : k ≤ size := by
  rcases Nat.eq_zero_or_pos k with h0 | h0
  · omega
  · have := (fixed_lt (n := n) (size := size) (k := k - 1) hn).1 (by omega)
    have h2 : (k - 1) * 1 ≤ (k - 1) * n := Nat.mul_le_mul_left _ hn
    omega
theorem one_pair (x y : Int) : ∀ u ∈ ([.int .i64 x, .int .i64 y] : List Value), u.oneCell' = true := by intro u hu; simp at hu; rcases hu with rfl | rfl <;> rfl

set_option maxHeartbeats 1600000 in
theorem refFixed_calls (n : Nat) (size : Nat) (w : World) (hn : 1 ≤ n) (hn2 : n ≤ 9223372036854775807) (hs : size ≤ 1000000) :
    Calls Try.prog 19 #[.int .i64 n, .int .i64 size] w fun e w' => ∃ v, e = .returned v ∧ Own w' w.heap.size 2 v (fixedL n size).length (pcells (fixedL n size)) ∧ Below w.heap.size w w' := by
  go_enter Try.func19, Try.ntmps19
  go_wp2
  go_loopw [5, 6] (fun v x wr => ∃ k p : Nat, p ≤ size ∧ x = .int .i64 p ∧ Hid (k ≤ (size + n - 1) / n ∧ p = min (k * n) size) ∧ Hid (Own wr w.heap.size 2 v k (pcells ((fixedL n size).take k))) ∧ Hid (Below w.heap.size w wr)) (fun _ x _ => size - (intOf x).toNat)
  case atStart => exact ⟨0, 0, Nat.zero_le _, rfl, ⟨Nat.zero_le _, by simp⟩, Own.nil _ _ _, Below.refl _ _⟩
  case round =>
    obtain ⟨k, p, hp, rfl, HK, HO, HW⟩ := hrel
    by_cases hlt : p < size
    · have hkn : k * n = p := by have := HK.out.2; omega
      have hkb : k ≤ size := fixed_le hn HK.out.1
      have hat := fixedL_at (n := n) (size := size) (k := k) hn (by omega)
      obtain ⟨q, hq⟩ : ∃ q : Int, min (n : Int) ((size : Int) - (p : Int)) = q := ⟨_, rfl⟩
      have hq0 : 1 ≤ q := by omega
      have hq1 : q ≤ 1000000 := by omega
      have HQ : Hid (((min ((k + 1) * n) size : Nat) : Int) = p + q) := by rw [Hid, Nat.add_mul, hkn]; omega
      have HT : Hid (pcells ((fixedL n size).take (k + 1)) = pcells ((fixedL n size).take k) ++ [.int .i64 p, .int .i64 (p + q)]) := by
        rw [Hid, take_snoc_of hat, pcells_append, HQ.out, hkn]; rfl
      have HP : Hid (((min ((k + 1) * n) size : Nat) : Int) = p + q ∧ k + 1 ≤ (size + n - 1) / n) := ⟨HQ.out, (fixed_lt hn).2 (by omega)⟩
      clear hat HQ
      have HKN := Lib.hid hkn; clear hkn
      have HKB := Lib.hid hkb; clear hkb
      go_wp2_with (at_builtin; refine appO el_spans w.heap.size rfl _ _ rfl rfl (HO.out.alloc _) (news := [.int .i64 p, .int .i64 (p + q)]) rfl rfl (rowAt_alloc wr [.int .i64 p, .int .i64 (p + q)] _) (one_pair _ _) (by have := HKB.out; omega) (by have := HW.out.size; simp; omega) ?_; intro v1 w1 hown1 hg1 _; have HO1 : Hid (Own w1 w.heap.size 2 v1 (k + 1) (pcells ((fixedL n size).take (k + 1)))) := (by rw [HT.out]; exact hown1); have HB1 : Hid (Below w.heap.size w w1) := Own.grown_below (HO.out.alloc _) (HW.out.alloc HW.out.size _) hg1 (Nat.le_refl _); clear hown1 hg1)
      go_roundw
      case rel =>
        refine ⟨k + 1, (p + q).toNat, by omega, ?_, ⟨HP.out.2, ?_⟩, HO1, HB1⟩
        · congr 1; omega
        · have := HP.out.1; omega
      case measure => simp [intOf]; omega
    · have HF : Hid (k = (fixedL n size).length) := by
        rw [Hid, fixedL_length]
        have h1 := HK.out
        have : ¬ k < (size + n - 1) / n := by rw [fixed_lt hn]; omega
        omega
      go_wp2
      go_ret
      refine ⟨_, rfl, ?_, HW.out⟩
      have := HO.out
      rw [HF.out, List.take_length] at this
      exact this

set_option maxHeartbeats 400000 in
theorem refFixed_none (n : Int) (size : Int) (w : World) (hn : n < 1) :
    Calls Try.prog 19 #[.int .i64 n, .int .i64 size] w fun e w' => e = .returned (.slice none 0 0) ∧ w = w' := by
  have hb : decide (0 < n) = false := by simp; omega
  have hb2 : n ≤ 0 := by omega
  by_cases hs : 0 < size
  all_goals
    go_enter Try.func19, Try.ntmps19
    go_wp2
    refine wp_loop_rounds 1 ?_
    rw [rounds_succ]
    go_wp2
    go_ret
    exact ⟨rfl, rfl⟩

theorem fixedZ_pos {n : Int} {size : Nat} (hn : 1 ≤ n) : fixedZ n size = fixedL n.toNat size := by simp [fixedZ]; omega
theorem fixedZ_none {n : Int} {size : Int} (hn : n < 1) : fixedZ n size = [] := by simp [fixedZ, hn]

theorem refFixedZ_calls (n : Int) (size : Nat) (w : World) (hn2 : n ≤ 9223372036854775807) (hs : size ≤ 1000000) :
    Calls Try.prog 19 #[.int .i64 n, .int .i64 size] w fun e w' => ∃ v, e = .returned v ∧ Own w' w.heap.size 2 v (fixedZ n size).length (pcells (fixedZ n size)) ∧ Below w.heap.size w w' := by
  by_cases hn : n < 1
  · refine (refFixed_none n size w hn).mono ?_
    rintro e w' ⟨rfl, rfl⟩
    rw [fixedZ_none hn]
    exact ⟨_, rfl, Own.nil _ _ _, Below.refl _ _⟩
  · rw [fixedZ_pos (by omega)]
    obtain ⟨m, rfl⟩ := Int.eq_ofNat_of_zero_le (show 0 ≤ n by omega)
    exact refFixed_calls m size w (by omega) (by omega) hs

set_option maxHeartbeats 1600000 in
theorem cut_calls (n : Int) (A : Option Addr) (len c : Nat) (l : List ByteArray) (w : World) (hn2 : n ≤ 9223372036854775807) (hl : l.length = len) (hlen : len ≤ 4000000000000000000) (hs : totalLen l ≤ 1000000) (hR : RowAt w A (scells l)) :
    Calls Try.prog 16 #[.int .i64 n, .slice A len c] w fun e w' => ∃ v, e = .returned v ∧ Own w' w.heap.size 2 v (fixedZ n (totalLen l)).length (pcells (fixedZ n (totalLen l))) ∧ Below w.heap.size w w' := by
  subst hl
  have HR := Lib.hid hR; clear hR
  have HS := Lib.hid hs; clear hs
  go_enter Try.func16, Try.ntmps16
  go_wp2
  go_loop [5, 13] (fun x i => ∃ k : Nat, k ≤ l.length ∧ i = .int .i64 k ∧ ∃ t : Nat, t ≤ 1000000 ∧ x = .int .i64 t ∧ Hid ((t : Int) = totalLen (l.take k))) (fun _ i => l.length - (intOf i).toNat)
  case atStart => exact ⟨0, Nat.zero_le _, rfl, 0, by omega, rfl, rfl⟩
  case round =>
    obtain ⟨k, hk, rfl, t, ht, rfl, HC⟩ := hrel
    by_cases hlt : k < l.length
    · obtain ⟨x, hx⟩ := some_at hlt
      obtain ⟨ad, rfl, hc⟩ := HR.out.get (scells_at hx)
      have hb : totalLen (l.take (k + 1)) = t + x.size := by rw [take_snoc_of hx, totalLen_snoc, HC.out]
      have hb2 : t + x.size ≤ 1000000 := by
        have h1 := totalLen_take_le l (k + 1)
        have := HS.out
        omega
      have HB : Hid ((t + x.size : Nat) = totalLen (l.take (k + 1))) := by rw [Hid, hb]; omega
      clear hx hb
      go_wp2
      go_round
      case rel => exact ⟨k + 1, by omega, by go_num, t + x.size, hb2, by go_num, HB⟩
      case measure => simp [intOf]; omega
    · have HT : Hid (totalLen l = t) := by rw [Hid, HC.out, List.take_of_length_le (by omega)]
      clear HC
      by_cases hn : n < 1
      · go_wp2
        go_ret
        rw [HT.out, fixedZ_none hn]
        exact ⟨_, rfl, Own.nil _ _ _, Below.refl _ _⟩
      obtain ⟨m, rfl⟩ := Int.eq_ofNat_of_zero_le (show 0 ≤ n by omega)
      have hm1 : 1 ≤ m := by omega
      go_wp2
      go_loopw [8, 9] (fun v x wr => ∃ k p : Nat, p ≤ t ∧ x = .int .i64 p ∧ Hid (k ≤ (t + m - 1) / m ∧ p = min (k * m) t) ∧ Hid (Own wr w.heap.size 2 v k (pcells ((fixedL m t).take k))) ∧ Hid (Below w.heap.size w wr)) (fun _ x _ => t - (intOf x).toNat)
      case atStart => exact ⟨0, 0, Nat.zero_le _, rfl, ⟨Nat.zero_le _, by simp⟩, Own.nil _ _ _, Below.refl _ _⟩
      case round =>
        obtain ⟨k, p, hp, rfl, HK, HO, HW⟩ := hrel
        by_cases hlt : p < t
        · have hkn : k * m = p := by have := HK.out.2; omega
          have hkb : k ≤ t := fixed_le hm1 HK.out.1
          have hat := fixedL_at (n := m) (size := t) (k := k) hm1 (by omega)
          obtain ⟨q, hq⟩ : ∃ q : Int, min (m : Int) ((t : Int) - (p : Int)) = q := ⟨_, rfl⟩
          have hq0 : 1 ≤ q := by omega
          have hq1 : q ≤ 1000000 := by omega
          have HQ : Hid (((min ((k + 1) * m) t : Nat) : Int) = p + q) := by rw [Hid, Nat.add_mul, hkn]; omega
          have HT : Hid (pcells ((fixedL m t).take (k + 1)) = pcells ((fixedL m t).take k) ++ [.int .i64 p, .int .i64 (p + q)]) := by
            rw [Hid, take_snoc_of hat, pcells_append, HQ.out, hkn]; rfl
          have HP : Hid (((min ((k + 1) * m) t : Nat) : Int) = p + q ∧ k + 1 ≤ (t + m - 1) / m) := ⟨HQ.out, (fixed_lt hm1).2 (by omega)⟩
          clear hat HQ
          have HKN := Lib.hid hkn; clear hkn
          have HKB := Lib.hid hkb; clear hkb
          go_wp2_with (at_builtin; refine appO el_spans w.heap.size rfl _ _ rfl rfl (HO.out.alloc _) (news := [.int .i64 p, .int .i64 (p + q)]) rfl rfl (rowAt_alloc _ [.int .i64 p, .int .i64 (p + q)] _) (one_pair _ _) (by have := HKB.out; omega) (by have := HW.out.size; simp; omega) ?_; intro v1 w1 hown1 hg1 _; have HO1 : Hid (Own w1 w.heap.size 2 v1 (k + 1) (pcells ((fixedL m t).take (k + 1)))) := (by rw [HT.out]; exact hown1); have HB1 : Hid (Below w.heap.size w w1) := Own.grown_below (HO.out.alloc _) (HW.out.alloc HW.out.size _) hg1 (Nat.le_refl _); clear hown1 hg1)
          go_roundw
          case rel =>
            refine ⟨k + 1, (p + q).toNat, by omega, ?_, ⟨HP.out.2, ?_⟩, HO1, HB1⟩
            · congr 1; omega
            · have := HP.out.1; omega
          case measure => simp [intOf]; omega
        · have HF : Hid (k = (fixedL m t).length) := by
            rw [Hid, fixedL_length]
            have h1 := HK.out
            have : ¬ k < (t + m - 1) / m := by rw [fixed_lt hm1]; omega
            omega
          go_wp2
          go_ret
          refine ⟨_, rfl, ?_, HW.out⟩
          have := HO.out
          rw [HF.out, List.take_length] at this
          rw [HT.out, fixedZ_pos (by omega)]
          exact this
end Go.Proofs.Ytkhfecgmkhjpiaa
