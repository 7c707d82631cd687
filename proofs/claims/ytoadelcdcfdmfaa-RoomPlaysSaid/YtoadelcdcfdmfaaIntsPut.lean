/- Lists of numbers in the reference: one is put at its place. -/
import Derived.Test.YtoadelcdcfdmfaaBundle3
import Derived.Test.YtoadelcdcfdmfaaBundle1
import Derived.Deep.RegionHeld3
namespace Go.Proofs.Ytoadelcdcfdmfaa
open Go.RowKit
set_option linter.unusedVariables false

theorem el_int : El Try.prog 22 3 1 8 := El.mk' Try.underlying22 (z := .int .i64 0) (by kernel_rfl) (by decide)
def putL (l : List Int) (id : Int) : List Int := if (l.dropWhile (· < id)).head? = some id then l else l.takeWhile (· < id) ++ id :: l.dropWhile (· < id)
theorem take_while_at (p : Int → Bool) (l : List Int) (k : Nat) (hk : k ≤ l.length) (h1 : ∀ j, j < k → ∀ y, l[j]? = some y → p y = true) (h2 : ∀ y, l[k]? = some y → p y = false) : l.takeWhile p = l.take k ∧ l.dropWhile p = l.drop k := by
  induction l generalizing k with
  | nil => simp
  | cons a r ih =>
    cases k with
    | zero =>
      have := h2 a rfl
      simp [List.takeWhile_cons, List.dropWhile_cons, this]
    | succ k =>
      have ha := h1 0 (by omega) a rfl
      obtain ⟨e1, e2⟩ := ih k (by simpa using hk) (fun j hj y hy => h1 (j + 1) (by omega) y (by simpa using hy)) (fun y hy => h2 y (by simpa using hy))
      simp [List.takeWhile_cons, List.dropWhile_cons, ha, e1, e2]

theorem add_add (a : Addr) (k j : Nat) : (a.add k).add j = a.add (k + j) := by
  by_cases hk : k = 0
  · subst hk; simp [Addr.add]
  · by_cases hj : j = 0
    · subst hj; simp [Addr.add]
    · simp [Addr.add, hk, hj, Nat.add_assoc]
theorem row_sub {w : World} {A : Option Addr} {cs : List Value} (h : RowAt w A cs) (k c : Nat) : RowAt w (if c = k then A else A.map (·.add (k * 1))) (if c = k then [] else cs.drop k) := by
  by_cases e : c = k
  · rw [if_pos e, if_pos e]; exact .nil _ _
  · rw [if_neg e, if_neg e]
    rcases h with rfl | ⟨ad, rfl, hc⟩
    · simp; exact .nil _ _
    · refine .inr ⟨ad.add (k * 1), rfl, fun j u hu => ?_⟩
      rw [List.getElem?_drop] at hu
      have := hc (k + j) u hu
      have e2 : (ad.add (k * 1)).add j = ad.add (k + j) := by
        rw [Nat.mul_one]
        exact add_add ad k j
      rw [e2]; exact this

set_option maxHeartbeats 3200000 in
set_option maxRecDepth 100000 in
theorem put_calls (A : Option Addr) (n c : Nat) (l : List Int) (id : Int) (w : World) (hl : l.length = n) (hc : n ≤ c) (hn : (n + 1) * 8 ≤ 140737488351232) (hR : RowAt w A (icells l)) :
    Calls Try.prog 7 #[.slice A n c, .int .i64 id] w fun e w' => ∃ A' m c', e = .returned (.slice A' m c') ∧ m = (putL l id).length ∧ m ≤ c' ∧ RowAt w' A' (icells (putL l id)) ∧ (A' = A ∨ ∃ g, A' = some ⟨g, 0, none⟩ ∧ w.heap.size ≤ g) ∧ Below w.heap.size w w' := by
  subst hl
  have HR : Box _ := ⟨hR⟩; clear hR
  go_enter Try.func7, Try.ntmps7
  go_wp2
  go_loop [5] (fun i => ∃ k : Nat, k ≤ l.length ∧ i = .int .i64 (k : Int) ∧ Box (∀ j, j < k → ∀ y, l[j]? = some y → y < id)) (fun i => l.length - (intOf i).toNat)
  case atStart => exact ⟨0, Nat.zero_le _, rfl, ⟨by simp⟩⟩
  case round =>
    obtain ⟨k, hk, rfl, HK⟩ := hrel
    have hs := row_sub HR.out k c
    have key : ∀ (hstop : ∀ y, l[k]? = some y → id < y), putL l id = l.take k ++ id :: l.drop k := by
      intro hstop
      obtain ⟨e1, e2⟩ := take_while_at (fun y => decide (y < id)) l k hk (fun j hj y hy => decide_eq_true (HK.out j hj y hy)) (fun y hy => by have := hstop y hy; simp; omega)
      have e3 : (l.drop k).head? ≠ some id := by
        rw [List.head?_drop]
        intro h
        have := hstop id h
        omega
      rw [putL, e2, if_neg e3, e1]
    have HKEY : Box _ := ⟨key⟩
    have HSub : Box _ := ⟨hs⟩
    clear key hs
    by_cases hlt : k < l.length
    · obtain ⟨y, hy⟩ := some_at hlt
      obtain ⟨ad, rfl, hcell⟩ := HR.out.get (icells_at hy)
      have HY : Box _ := ⟨hy⟩; clear hy
      by_cases hyi : y < id
      · have HN : Box (∀ j, j < k + 1 → ∀ y, l[j]? = some y → y < id) := ⟨fun j hj z hz => by
          by_cases e : j = k
          · subst e
            rw [HY.out] at hz
            injection hz with hz
            omega
          · exact HK.out j (by omega) z hz⟩
        go_wp2
        go_round
        case rel => exact ⟨k + 1, by omega, by go_num, HN⟩
        case measure => simp [intOf]; omega
      · by_cases hye : y = id
        · subst hye
          have HP : Box (putL l y = l) := ⟨by
            obtain ⟨e1, e2⟩ := take_while_at (fun z => decide (z < y)) l k hk (fun j hj z hz => decide_eq_true (HK.out j hj z hz)) (fun z hz => by rw [HY.out] at hz; injection hz with hz; simp; omega)
            rw [putL, e2, if_pos (by rw [List.head?_drop]; exact HY.out)]⟩
          go_wp2
          go_ret
          exact ⟨_, _, c, rfl, by rw [HP.out], hc, by rw [HP.out]; exact HR.out, .inl rfl, Below.refl _ _⟩
        · have hne : (y == id) = false := by simpa using hye
          have HPut : Box _ := ⟨HKEY.out (fun z hz => by rw [HY.out] at hz; injection hz with hz; omega)⟩
          go_wp2
          have b1 : (0 : Int) ≤ (k : Int) := by omega
          have b2 : (k : Int) ≤ (l.length : Int) := by omega
          have b3 : (k : Int) ≤ (c : Int) := by omega
          have HR1 : Box (RowAt w (some ad) (icells (l.take k))) := ⟨by
            have h := HR.out
            rw [← List.take_append_drop k l, icells, List.map_append] at h
            exact h.left⟩
          have HR2 : Box (RowAt w (if c = k then some ad else some (ad.add k)) (icells (l.drop k))) := ⟨by
            have h := HSub.out
            simp only [Option.map_some, Nat.mul_one] at h
            split at h
            · rename_i e
              rw [if_pos e, List.drop_eq_nil_of_le (by omega)]; exact .nil _ _
            · rename_i e
              rw [if_neg e, icells, List.map_drop]; exact h⟩
          have L1 : Box ((icells (l.take k)).length = k * 1) := ⟨by simp [icells]; omega⟩
          have L2 : Box ((icells (l.drop k)).length = (l.length - k) * 1) := ⟨by simp [icells]⟩
          have HF : Box (icells (l.take k) ++ [.int .i64 id] ++ icells (l.drop k) = icells (putL l id)) := ⟨by rw [HPut.out]; simp [icells]⟩
          have HFl : Box (k + 1 + (l.length - k) = (putL l id).length) := ⟨by rw [HPut.out, List.length_append, List.length_cons, List.length_take, List.length_drop]; omega⟩
          go_region_held3 (fun _ => True) (trivial)
            (first
              | (revert HO2; intro HO2; refine step_appO el_int w.heap.size rfl _ _ rfl rfl HO2.out (news := icells (l.drop k)) rfl L2.out (HR2.out.below T2.out) (one_icells _) (by omega) T2.out.size ?_; intro v3 w3 ho3 hg3 _; have HO3 : Box _ := ⟨ho3⟩; have T3 : Box (Below w.heap.size w w3) := ⟨Own.grown_below HO2.out T2.out hg3 (Nat.le_refl _)⟩; clear ho3 hg3)
              | (revert HO1; intro HO1; refine step_appO el_int w.heap.size rfl _ _ rfl rfl (by first | exact HO1.out.alloc _ | exact HO1.out) (m := 1) (news := [.int .i64 id]) rfl rfl (by first | exact rowAt_alloc_k _ _ _ rfl | exact RowAt.below (row_drew (rowAt_alloc_k _ _ _ rfl)) HG1.out) (by intro u hu; simp at hu; subst hu; rfl) (by omega) (by first | exact (bel_alloc T1.out _).size | exact T1.out.size) ?_; intro v2 w2 ho2 hg2 _; have HO2 : Box _ := ⟨ho2⟩; have T2 : Box (Below w.heap.size w w2) := ⟨by first | exact Own.grown_below HO1.out T1.out hg2 (Nat.le_refl _) | exact Own.grown_below (HO1.out.alloc _) (bel_alloc T1.out _) hg2 (Nat.le_refl _)⟩; clear ho2 hg2)
              | (refine step_appO el_int w.heap.size rfl _ _ rfl (v := .slice none 0 0) (n := 0) (xs := []) rfl (Own.nil _ _ _) (A := some ad) (m := k) (c := c) (news := icells (l.take k)) rfl L1.out (by first | exact HR1.out | exact HR1.out.alloc _) (one_icells _) (by omega) (by simp) ?_; intro v1 w1 ho1 hg1 _; have HO1 : Box _ := ⟨ho1⟩; have HG1 : Box _ := ⟨grown_nil hg1⟩; have T1 : Box (Below w.heap.size w w1) := ⟨bel_calls (by with_reducible repeat' (first | apply bel_drew | apply bel_alloc | exact Below.refl _ _)) HG1.out⟩; clear ho1 hg1))
          all_goals
            go_wp2_with fail
            all_goals
              obtain ⟨A3, c3, rfl, hg3, _, hc3, hr3⟩ := HO3.out.form (by omega)
              go_ret
              rw [List.nil_append, HF.out] at hr3
              exact ⟨_, _, c3, rfl, (by have := HFl.out; omega), hc3, hr3, .inr ⟨_, rfl, hg3⟩, T3.out⟩
    · have HPut : Box _ := ⟨HKEY.out (fun z hz => by have := (List.getElem?_eq_some_iff.1 hz).1; omega)⟩
      have hd : decide (k < l.length) = false := by simpa using hlt
      have hge : (l.length : Int) ≤ (k : Int) := by omega
      go_wp2
      have b1 : (0 : Int) ≤ (k : Int) := by omega
      have b2 : (k : Int) ≤ (l.length : Int) := by omega
      have b3 : (k : Int) ≤ (c : Int) := by omega
      have HR1 : Box (RowAt w A (icells (l.take k))) := ⟨by
        have h := HR.out
        rw [← List.take_append_drop k l, icells, List.map_append] at h
        exact h.left⟩
      have HR2 : Box (RowAt w (if c = k then A else Option.map (fun x => x.add k) A) (icells (l.drop k))) := ⟨by
        have h := HSub.out
        simp only [Nat.mul_one] at h
        split at h
        · rename_i e
          rw [if_pos e, List.drop_eq_nil_of_le (by omega)]; exact .nil _ _
        · rename_i e
          rw [if_neg e, icells, List.map_drop]; exact h⟩
      have L1 : Box ((icells (l.take k)).length = k * 1) := ⟨by simp [icells]; omega⟩
      have L2 : Box ((icells (l.drop k)).length = (l.length - k) * 1) := ⟨by simp [icells]⟩
      have HF : Box (icells (l.take k) ++ [.int .i64 id] ++ icells (l.drop k) = icells (putL l id)) := ⟨by rw [HPut.out]; simp [icells]⟩
      have HFl : Box (k + 1 + (l.length - k) = (putL l id).length) := ⟨by rw [HPut.out, List.length_append, List.length_cons, List.length_take, List.length_drop]; omega⟩
      go_region_held3 (fun _ => True) (trivial)
        (first
          | (revert HO2; intro HO2; refine step_appO el_int w.heap.size rfl _ _ rfl rfl HO2.out (news := icells (l.drop k)) rfl L2.out (HR2.out.below T2.out) (one_icells _) (by omega) T2.out.size ?_; intro v3 w3 ho3 hg3 _; have HO3 : Box _ := ⟨ho3⟩; have T3 : Box (Below w.heap.size w w3) := ⟨Own.grown_below HO2.out T2.out hg3 (Nat.le_refl _)⟩; clear ho3 hg3)
          | (revert HO1; intro HO1; refine step_appO el_int w.heap.size rfl _ _ rfl rfl (by first | exact HO1.out.alloc _ | exact HO1.out) (m := 1) (news := [.int .i64 id]) rfl rfl (by first | exact rowAt_alloc_k _ _ _ rfl | exact RowAt.below (row_drew (rowAt_alloc_k _ _ _ rfl)) HG1.out) (by intro u hu; simp at hu; subst hu; rfl) (by omega) (by first | exact (bel_alloc T1.out _).size | exact T1.out.size) ?_; intro v2 w2 ho2 hg2 _; have HO2 : Box _ := ⟨ho2⟩; have T2 : Box (Below w.heap.size w w2) := ⟨by first | exact Own.grown_below HO1.out T1.out hg2 (Nat.le_refl _) | exact Own.grown_below (HO1.out.alloc _) (bel_alloc T1.out _) hg2 (Nat.le_refl _)⟩; clear ho2 hg2)
          | (refine step_appO el_int w.heap.size rfl _ _ rfl (v := .slice none 0 0) (n := 0) (xs := []) rfl (Own.nil _ _ _) (A := A) (m := k) (c := c) (news := icells (l.take k)) rfl L1.out (by first | exact HR1.out | exact HR1.out.alloc _) (one_icells _) (by omega) (by simp) ?_; intro v1 w1 ho1 hg1 _; have HO1 : Box _ := ⟨ho1⟩; have HG1 : Box _ := ⟨grown_nil hg1⟩; have T1 : Box (Below w.heap.size w w1) := ⟨bel_calls (by with_reducible repeat' (first | apply bel_drew | apply bel_alloc | exact Below.refl _ _)) HG1.out⟩; clear ho1 hg1))
      all_goals
        go_wp2_with fail
        all_goals
          obtain ⟨A3, c3, rfl, hg3, _, hc3, hr3⟩ := HO3.out.form (by omega)
          go_ret
          rw [List.nil_append, HF.out] at hr3
          exact ⟨_, _, c3, rfl, (by have := HFl.out; omega), hc3, hr3, .inr ⟨_, rfl, hg3⟩, T3.out⟩
end Go.Proofs.Ytoadelcdcfdmfaa
