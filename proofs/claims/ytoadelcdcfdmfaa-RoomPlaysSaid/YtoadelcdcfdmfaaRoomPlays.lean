/- RoomPlays. -/
import Derived.Test.YtoadelcdcfdmfaaRoomBack
import Derived.Deep.DeepCutAuto
namespace Go.Proofs.Ytoadelcdcfdmfaa
open Go.RowKit
set_option linter.unusedVariables false
attribute [local go_sem] max2_int min2_int

/-- Ahead of the play: what is too much, or a room that may not be. -/
def badN (n : Int) (l : List Int) : Prop := ¬ (1 ≤ n ∧ n ≤ 1900) ∨ ∃ x ∈ l, ¬ (0 ≤ x ∧ x < n)
theorem first_bad (n : Int) : ∀ l : List Int, (∃ x ∈ l, ¬ (0 ≤ x ∧ x < n)) → ∃ (k : Nat) (x : Int), l[k]? = some x ∧ ¬ (0 ≤ x ∧ x < n) ∧ ∀ (j : Nat) (y : Int), j < k → l[j]? = some y → 0 ≤ y ∧ y < n := by
  intro l
  induction l with
  | nil => rintro ⟨x, hx, _⟩; cases hx
  | cons a l ih =>
    intro h
    by_cases ha : 0 ≤ a ∧ a < n
    · obtain ⟨x, hx, hb⟩ := h
      rcases List.mem_cons.1 hx with rfl | hx
      · exact absurd ha hb
      · obtain ⟨k, y, h1, h2, h3⟩ := ih ⟨x, hx, hb⟩
        refine ⟨k + 1, y, by simpa using h1, h2, fun j z hj hz => ?_⟩
        cases j with
        | zero => simp at hz; subst hz; exact ha
        | succ j => exact h3 j z (by omega) (by simpa using hz)
    · exact ⟨0, a, rfl, ha, by intro j y hj; omega⟩

set_option maxHeartbeats 8000000 in
set_option maxRecDepth 100000 in
theorem roomPlays_much (n : Int) (A : Option Addr) (nu cu : Nat) (lu : List Int) (B : Option Addr) (nl cl : Nat) (at_ : Int) (b : ByteArray) (own : Bool) (w : World)
    (h : 300 < nu ∨ 60 < nl ∨ 300 < b.size) :
    Calls Try.prog 3 #[.int .i64 n, .slice A nu cu, .slice B nl cl, .int .i64 at_, .string b, .bool own] w fun e w' => e = .returned (.bool true) ∧ Below w.heap.size w w' := by
  have key : 300 < nu ∨ (nu ≤ 300 ∧ 60 < nl) ∨ (nu ≤ 300 ∧ nl ≤ 60 ∧ 300 < b.size) := by omega
  clear h
  rcases key with h1 | ⟨h1, h2⟩ | ⟨h1, h2, h3⟩
  all_goals
    go_enter Try.func3, Try.ntmps3
    go_wp2_with fail
    refine (roomAlive_calls _).mono ?_
    rintro e w1 ⟨rfl, hb1⟩
    go_wp2
    go_ret
    exact ⟨rfl, hb1⟩

set_option maxHeartbeats 8000000 in
set_option maxRecDepth 100000 in
theorem roomPlays_bad (n : Int) (A : Option Addr) (nu cu : Nat) (lu : List Int) (B : Option Addr) (nl cl : Nat) (at_ : Int) (b : ByteArray) (own : Bool) (w : World)
    (hn : -9223372036854775808 ≤ n ∧ n ≤ 9223372036854775807) (hlu : lu.length = nu) (hcu : nu ≤ cu) (hR : RowAt w A (icells lu)) (hs : ∀ x ∈ lu, -9223372036854775808 ≤ x ∧ x ≤ 9223372036854775807)
    (h1 : nu ≤ 300) (h2 : nl ≤ 60) (h3 : b.size ≤ 300) (hbad : badN n lu) :
    Calls Try.prog 3 #[.int .i64 n, .slice A nu cu, .slice B nl cl, .int .i64 at_, .string b, .bool own] w fun e w' => e = .returned (.bool true) ∧ Below w.heap.size w w' := by
  subst hlu
  have HR : Box _ := ⟨hR⟩
  have HS : Box _ := ⟨hs⟩
  clear hR hs
  have h3' : (b.size : Int) ≤ 300 := by omega
  by_cases hnn : 1 ≤ n ∧ n ≤ 1900
  case neg =>
    have hbn : n < 1 ∨ 1900 < n := by omega
    have HNb : Box _ := ⟨fun v W => roomNew_bad n v W hbn⟩
    have key : n < 1 ∨ (1 ≤ n ∧ 1900 < n) := by omega
    clear hbad hnn hbn
    rcases key with q1 | ⟨q1, q2⟩
    all_goals
      go_enter Try.func3, Try.ntmps3
      go_wp2_with fail
      refine (roomAlive_calls _).mono ?_
      rintro e w1 ⟨rfl, hb1⟩
      have HB1 : Box _ := ⟨hb1⟩
      clear hb1
      go_wp2_with fail
      refine (lentInts_calls A lu.length cu lu _ rfl (by omega) (HR.out.below HB1.out)).mono ?_
      rintro e w2 ⟨gm, cm, rfl, hcm, hrm, hb2, _⟩
      have HB2 : Box _ := ⟨bel_calls HB1.out hb2⟩
      have HM : Box _ := ⟨hrm⟩
      clear hb2 hrm
      go_wp2_with fail
      refine (HNb.out _ _).mono ?_
      rintro e w3 ⟨rfl, rfl⟩
      go_wp2_with fail
      go_loopw [16, 18] (fun g i wr => g = .bool false ∧ i = .int .i64 0 ∧ w2 = wr) (fun _ i _ => 1)
      case atStart => exact ⟨by first | rfl | rw [decide_eq_false (by omega)], rfl, rfl⟩
      case round =>
        obtain ⟨rfl, rfl, rfl⟩ := hrel
        have hz : (0 : Int) < (lu.length : Int) ∨ ¬ (0 : Int) < (lu.length : Int) := Classical.em _
        rcases hz with hz | hz
        all_goals
          go_wp2_with fail
          refine (staysInts_calls gm A lu.length cm cu lu _ rfl (by omega) (by omega) HM.out (HR.out.below HB2.out)).mono ?_
          rintro e w4 ⟨rfl, hb4⟩
          go_wp2_with fail
          go_ret
          exact ⟨rfl, bel_calls HB2.out hb4⟩
  obtain ⟨n1, n2⟩ := hnn
  obtain ⟨k0, x0, hk0, hx0, hbef⟩ := first_bad n lu (by
    rcases hbad with hb | hb
    · exact absurd ⟨n1, n2⟩ hb
    · exact hb)
  obtain ⟨N, rfl⟩ : ∃ N : Nat, n = (N : Int) := ⟨n.toNat, by omega⟩
  have HNo : Box _ := ⟨fun A c W hR => roomNew_out N A c lu.length lu W rfl (by omega) (by omega) (by omega) hR k0 x0 hk0 hx0⟩
  have HBef : Box _ := ⟨hbef⟩
  have HX0 : Box _ := ⟨hk0⟩
  have hx0' : x0 < 0 ∨ (0 ≤ x0 ∧ (N : Int) ≤ x0) := by omega
  have hk0l : k0 < lu.length := (List.getElem?_eq_some_iff.1 hk0).1
  clear hbef hk0 hx0 hbad
  go_enter Try.func3, Try.ntmps3
  go_wp2_with fail
  refine (roomAlive_calls _).mono ?_
  rintro e w1 ⟨rfl, hb1⟩
  have HB1 : Box _ := ⟨hb1⟩
  clear hb1
  go_wp2_with fail
  refine (lentInts_calls A lu.length cu lu _ rfl (by omega) (HR.out.below HB1.out)).mono ?_
  rintro e w2 ⟨gm, cm, rfl, hcm, hrm, hb2, _⟩
  have HB2 : Box _ := ⟨bel_calls HB1.out hb2⟩
  have HM : Box _ := ⟨hrm⟩
  clear hb2 hrm
  go_wp2_with fail
  refine (HNo.out _ _ _ HM.out.left).mono ?_
  rintro e w3 ⟨rfl, hb3⟩
  have HB3 : Box _ := ⟨bel_calls HB2.out hb3⟩
  have HM3 : Box _ := ⟨HM.out.below hb3⟩
  clear hb3
  go_wp2_with fail
  go_loopw [16, 17, 18] (fun g v i wr => ∃ (k : Nat) (A : Option Addr) (m c : Nat), k ≤ k0 + 1 ∧ i = .int .i64 (k : Int) ∧ g = .bool (decide (k ≤ k0)) ∧ v = .slice A m c ∧ m ≤ c ∧ Box (m = (putN (lu.take k)).length) ∧ Box (RowAt wr A (icells (putN (lu.take k)))) ∧ Box (Below w3.heap.size w3 wr)) (fun _ _ i _ => k0 + 1 - (intOf i).toNat)
  case atStart => exact ⟨0, none, 0, 0, by omega, rfl, by simp, rfl, by omega, ⟨rfl⟩, ⟨.nil _ _⟩, ⟨Below.refl _ _⟩⟩
  case round =>
    obtain ⟨k, A', m, c, hk, rfl, rfl, rfl, hmc, HMl, HA, HW⟩ := hrel
    by_cases hlt : k ≤ k0
    · obtain ⟨x, hx⟩ := some_at (l := lu) (k := k) (by omega)
      obtain ⟨ad, rfl, hcell⟩ := ((HR.out.below HB3.out).below HW.out).get (icells_at hx)
      have hle := putN_le (lu.take k)
      rw [List.length_take, ← HMl.out] at hle
      have hm3 : m ≤ 300 := by omega
      have HX : Box (putN (lu.take (k + 1)) = putL (putN (lu.take k)) x) := ⟨by rw [take_snoc_of hx, putN_snoc]⟩
      have hg : decide (k ≤ k0) = true := decide_eq_true hlt
      have hkl : (k : Int) < (lu.length : Int) := by omega
      have HP : Box _ := ⟨fun W hR => put_calls A' m c (putN (lu.take k)) x W HMl.out.symm hmc (by omega) hR⟩
      by_cases hlt2 : k < k0
      · obtain ⟨y0, y1⟩ := HBef.out k x hlt2 hx
        have hg2 : decide (k + 1 ≤ k0) = true := decide_eq_true hlt2
        clear hx hle
        go_wp2_with fail
        refine (HP.out _ HA.out).mono ?_
        rintro e w4 ⟨A2, m2, c2, rfl, hm2, hc2, hr2, _, hb2⟩
        have HM2 : Box _ := ⟨hm2⟩
        have HR2 : Box _ := ⟨hr2⟩
        have HB4 : Box _ := ⟨bel_calls HW.out hb2⟩
        clear hm2 hr2 hb2
        go_wp2_with fail
        go_roundw
        case rel => exact ⟨k + 1, A2, m2, c2, by omega, by go_num, by rw [hg2], rfl, hc2, by rw [HX.out]; exact HM2, by rw [HX.out]; exact HR2, HB4⟩
        case measure => simp [intOf]; omega
      · obtain rfl : k = k0 := by omega
        have hxx : x = x0 := by have h := HX0.out; rw [hx] at h; injection h
        have hg2 : decide (k + 1 ≤ k) = false := decide_eq_false (by omega)
        subst hxx
        clear hx hle
        rcases hx0' with q1 | ⟨q1, q2⟩
        all_goals
          go_wp2_with fail
          refine (HP.out _ HA.out).mono ?_
          rintro e w4 ⟨A2, m2, c2, rfl, hm2, hc2, hr2, _, hb2⟩
          have HM2 : Box _ := ⟨hm2⟩
          have HR2 : Box _ := ⟨hr2⟩
          have HB4 : Box _ := ⟨bel_calls HW.out hb2⟩
          clear hm2 hr2 hb2
          go_wp2_with fail
          go_roundw
          case rel => exact ⟨k + 1, A2, m2, c2, by omega, by go_num, by rw [hg2]; try (rw [decide_eq_false (by omega)]), rfl, hc2, by rw [HX.out]; exact HM2, by rw [HX.out]; exact HR2, HB4⟩
          case measure => (simp [intOf]; try omega)
    · obtain rfl : k = k0 + 1 := by omega
      have hg : decide (k0 + 1 ≤ k0) = false := decide_eq_false hlt
      rw [hg]
      have hz : (k0 : Int) + 1 < (lu.length : Int) ∨ ¬ (k0 : Int) + 1 < (lu.length : Int) := Classical.em _
      rcases hz with hz | hz
      all_goals
        go_wp2_with fail
        refine (staysInts_calls gm A lu.length cm cu lu _ rfl (by omega) (by omega) (HM3.out.below HW.out) ((HR.out.below HB3.out).below HW.out)).mono ?_
        rintro e w5 ⟨rfl, hb5⟩
        go_wp2_with fail
        go_ret
        exact ⟨rfl, bel_calls (bel_calls HB3.out HW.out) hb5⟩
end Go.Proofs.Ytoadelcdcfdmfaa
