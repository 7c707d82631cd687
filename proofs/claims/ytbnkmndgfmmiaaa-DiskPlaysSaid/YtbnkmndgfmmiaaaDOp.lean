/- masonrylaw7.Op as it comes in: a list of acts; Light. -/
import Derived.Test.YtbnkmndgfmmiaaaLentW
import Derived.Test.YtbnkmndgfmmiaaaElem
namespace Go.Proofs.Ytbnkmndgfmmiaaa
open Go.RowKit
set_option linter.unusedVariables false

structure DOpV where
  kind : Int
  n : Int
  a1 : Option Addr
  n1 : Nat
  c1 : Nat
  own : Bool
  a2 : Option Addr
  n2 : Nat
  c2 : Nat
  ws : List (Int × ByteArray)
  l : List Int
deriving Inhabited
def DOpV.cells (o : DOpV) : List Value := [.int .i64 o.kind, .int .i64 o.n, .slice o.a1 o.n1 o.c1, .bool o.own, .slice o.a2 o.n2 o.c2]
structure DOpV.Good (w : World) (o : DOpV) : Prop where
  h1 : o.ws.length = o.n1
  h2 : o.l.length = o.n2
  b1 : o.n1 ≤ 140737488351232
  b2 : o.n2 ≤ 140737488351232
  s1 : ∀ p ∈ o.ws, (-9223372036854775808 ≤ p.1 ∧ p.1 ≤ 9223372036854775807) ∧ p.2.size ≤ 140737488351232
  s2 : ∀ x ∈ o.l, -9223372036854775808 ≤ x ∧ x ≤ 9223372036854775807
  r1 : RowAt w o.a1 (dcells o.ws)
  r2 : RowAt w o.a2 (icells o.l)
  kd : -9223372036854775808 ≤ o.kind ∧ o.kind ≤ 9223372036854775807
  nn : -9223372036854775808 ≤ o.n ∧ o.n ≤ 9223372036854775807
theorem DOpV.five (o : DOpV) : o.cells.length = 5 := rfl
theorem dop_at {w : World} {A : Option Addr} {l : List DOpV} (h : RowAt w A (l.flatMap DOpV.cells)) {k : Nat} {x : DOpV} (hk : l[k]? = some x) :
    ∃ b o, A = some ⟨b, o, none⟩ ∧ b < w.heap.size ∧ w.cell? ⟨b, o + k * 5, none⟩ = some (.int .i64 x.kind) ∧ w.cell? ⟨b, o + k * 5 + 1, none⟩ = some (.int .i64 x.n) ∧ w.cell? ⟨b, o + k * 5 + 2, none⟩ = some (.slice x.a1 x.n1 x.c1) ∧ w.cell? ⟨b, o + k * 5 + 3, none⟩ = some (.bool x.own) ∧ w.cell? ⟨b, o + k * 5 + 4, none⟩ = some (.slice x.a2 x.n2 x.c2) := by
  obtain ⟨b, o, e, hb, hc⟩ := elem_at DOpV.five (by decide) h hk
  exact ⟨b, o, e, hb, hc 0 _ rfl, hc 1 _ rfl, hc 2 _ rfl, hc 3 _ rfl, hc 4 _ rfl⟩
theorem roomI_le (left : Int) (l : List Int) (h : -1 ≤ left) (hp : ∀ x ∈ l, 0 ≤ x) : -1 ≤ roomI left l ∧ roomI left l ≤ left := by
  induction l generalizing left with
  | nil => exact ⟨h, Int.le_refl _⟩
  | cons x r ih =>
    rw [roomI]
    split
    · exact ⟨Int.le_refl _, h⟩
    · have hx := hp x (by simp)
      have := ih (left - x) (by omega) (fun y hy => hp y (by simp [hy]))
      omega
theorem roomI_two (left a b : Int) (ha : 0 ≤ a) (hb : 0 ≤ b) (h : 0 ≤ roomI left [a, b]) : a ≤ left ∧ b ≤ left := by
  rw [roomI, roomI, roomI] at h
  split at h
  · omega
  · split at h
    · omega
    · omega
/-- What Light says, and what is so when it says yes. -/
def LightE (l : List DOpV) (e : Ending) : Prop := ∃ b : Bool, e = .returned (.bool b) ∧ (b = true → l.length ≤ 40 ∧ ∀ x ∈ l, x.n1 ≤ 6000 ∧ x.n2 ≤ 6000)
theorem lightE_no (l : List DOpV) : LightE l (.returned (.bool false)) := ⟨false, rfl, by simp⟩
theorem lightE_yes {l : List DOpV} (h : l.length ≤ 40 ∧ ∀ x ∈ l, x.n1 ≤ 6000 ∧ x.n2 ≤ 6000) : LightE l (.returned (.bool true)) := ⟨true, rfl, fun _ => h⟩
set_option maxHeartbeats 3200000 in
set_option maxRecDepth 20000 in
theorem light7_calls (A : Option Addr) (c : Nat) (l : List DOpV) (w : World) (hn : l.length ≤ 140737488351232) (hg : ∀ o ∈ l, o.Good w) (hR : RowAt w A (l.flatMap DOpV.cells)) :
    Calls Try.prog 4 #[.slice A l.length c] w fun e w' => LightE l e ∧ Below w.heap.size w w' := by
  have HR : Box _ := ⟨hR⟩
  have HG : Box _ := ⟨hg⟩
  clear hR hg
  go_enter Try.func4, Try.ntmps4
  go_wp2_with fail
  go_loopw [3, 4] (fun x i wr => ∃ (k : Nat) (r : Int), k ≤ l.length ∧ -1 ≤ r ∧ r ≤ 6000 ∧ i = .int .i64 (k : Int) ∧ x = .int .i64 r ∧ Box (0 ≤ r → ∀ j x, j < k → l[j]? = some x → x.n1 ≤ 6000 ∧ x.n2 ≤ 6000) ∧ Box (Below w.heap.size w wr)) (fun _ i _ => l.length - (intOf i).toNat)
  case atStart => exact ⟨0, 6000, by omega, by omega, by omega, rfl, rfl, ⟨fun _ j x h => by omega⟩, ⟨Below.refl _ _⟩⟩
  case round =>
    obtain ⟨k, r, hk, hr0, hr1, rfl, rfl, HS, HB⟩ := hrel
    by_cases hgo : k < l.length ∧ k < 200 ∧ 0 ≤ r
    case neg =>
      by_cases h1 : k < l.length
      · by_cases h2 : k < 200
        · have h3 : r < 0 := by omega
          have h3b : ¬ 0 ≤ r := by omega
          clear hgo HS
          by_cases h4 : (l.length : Int) ≤ 40
          all_goals
            go_wp2_with fail
            go_ret
            exact ⟨lightE_no l, HB.out⟩
        · have h3 : (200 : Int) ≤ (k : Int) := by omega
          have h4 : ¬ (l.length : Int) ≤ 40 := by omega
          have h5 : (40 : Int) < (l.length : Int) := by omega
          clear hgo h2 HS
          go_wp2_with fail
          all_goals
            go_ret
            exact ⟨lightE_no l, HB.out⟩
      · obtain rfl : k = l.length := by omega
        clear hgo h1
        by_cases h4 : (l.length : Int) ≤ 40
        · by_cases h5 : 0 ≤ r
          · have HX : Box (l.length ≤ 40 ∧ ∀ x ∈ l, x.n1 ≤ 6000 ∧ x.n2 ≤ 6000) := ⟨by omega, fun x hx => by
              obtain ⟨j, hj, rfl⟩ := List.getElem_of_mem hx
              exact HS.out h5 j _ hj (List.getElem?_eq_getElem hj)⟩
            clear HS
            go_wp2_with fail
            go_ret
            exact ⟨lightE_yes HX.out, HB.out⟩
          · clear HS
            go_wp2_with fail
            go_ret
            exact ⟨lightE_no l, HB.out⟩
        · clear HS
          go_wp2_with fail
          all_goals
            go_ret
            exact ⟨lightE_no l, HB.out⟩
    · obtain ⟨h1, h2, h3⟩ := hgo
      have h2i : (k : Int) < 200 := by omega
      obtain ⟨x, hx⟩ := some_at h1
      have HX : Box _ := ⟨HG.out x (List.mem_of_getElem? hx)⟩
      have HXX : Box _ := ⟨hx⟩
      obtain ⟨b, o, rfl, hb, Q0, Q1, Q2, Q3, Q4⟩ := dop_at HR.out hx
      have HQ2 : Box _ := ⟨Q2⟩
      have q2 := cell_kept HB.out (Nat.le_refl _) Q2
      have q4 := cell_kept HB.out (Nat.le_refl _) Q4
      clear Q0 Q1 Q2 Q3 Q4
      have hz1 := HX.out.b1
      have hz2 := HX.out.b2
      have K1 : Box (∀ (W : World) (A : Option Addr), RowAt W A (icells [(x.n1 : Int), (x.n2 : Int)]) → Calls Try.prog 12 #[.int .i64 r, .slice A 2 2] W fun e w' => ∃ r', -1 ≤ r' ∧ r' ≤ 6000 ∧ Box (0 ≤ r' → x.n1 ≤ 6000 ∧ x.n2 ≤ 6000) ∧ e = .returned (.int .i64 r') ∧ W = w') := ⟨fun W A hA =>
        (room_calls r A 2 [(x.n1 : Int), (x.n2 : Int)] W (by omega) (by omega) (by simp) (by intro y hy; simp at hy; omega) hA).mono fun e w' ⟨h1, h2⟩ => ⟨_, (roomI_le r _ hr0 (by intro y hy; simp at hy; omega)).1, Int.le_trans (roomI_le r _ hr0 (by intro y hy; simp at hy; omega)).2 hr1, ⟨fun h => by
          have := roomI_two r (x.n1 : Int) (x.n2 : Int) (by omega) (by omega) h
          omega⟩, h1, h2⟩⟩
      have R1 : Box (∀ W : World, RowAt (W.alloc (.cells #[.int .i64 (x.n1 : Int), .int .i64 (x.n2 : Int)] 3)).drew (some ⟨W.heap.size, 0, none⟩) (icells [(x.n1 : Int), (x.n2 : Int)])) := ⟨fun W => row_drew (rowAt_alloc W (icells [(x.n1 : Int), (x.n2 : Int)]) _)⟩
      clear hx hr0 hz1 hz2 h2
      have hbk : (0 : Int) ≤ (k : Int) := by omega
      have hkl : (k : Int) < (l.length : Int) := by omega
      obtain ⟨wo, rfl⟩ : ∃ wo : World, wo = wr := ⟨_, rfl⟩
      go_wp2_with fail
      go_region_held3 (fun w' => w'.cell? ⟨b, o + k * 5 + 2, none⟩ = some (.slice x.a1 x.n1 x.c1) ∧ w'.cell? ⟨b, o + k * 5 + 4, none⟩ = some (.slice x.a2 x.n2 x.c2)) (go_keep)
        ((go_at_call 12; refine Calls.mono (K1.out _ _ (R1.out _)) ?_; rintro e w5 ⟨r', hr0, hr3, HK, rfl, rfl⟩))
      all_goals
        have HB5 : Box (Below w.heap.size w (wo.alloc (.cells #[.int .i64 (x.n1 : Int), .int .i64 (x.n2 : Int)] 3)).drew) := ⟨bel_drew (bel_alloc HB.out _)⟩
        have HS5 : Box (0 ≤ r' → ∀ j x, j < k + 1 → l[j]? = some x → x.n1 ≤ 6000 ∧ x.n2 ≤ 6000) := ⟨fun h j y hj hy => by
          rcases Nat.lt_or_ge j k with hjk | hjk
          · exact HS.out h3 j y hjk hy
          · obtain rfl : j = k := by omega
            rw [HXX.out] at hy
            injection hy with hy
            subst hy
            exact HK.out h⟩
        clear q2 q4
        go_wp2_with fail
        go_loopw [3, 5] (fun y i wi => ∃ (m : Nat) (r2 : Int), m ≤ x.n1 ∧ -1 ≤ r2 ∧ r2 ≤ 6000 ∧ i = .int .i64 (m : Int) ∧ y = .int .i64 r2 ∧ Box (0 ≤ r2 → 0 ≤ r') ∧ Box (Below w.heap.size w wi)) (fun _ i _ => x.n1 - (intOf i).toNat)
        case atStart => exact ⟨0, r', by omega, by omega, by omega, rfl, rfl, ⟨fun h => h⟩, HB5⟩
        case round =>
          obtain ⟨m, r2, hm, hr4, hr5, rfl, rfl, HRR, HBi⟩ := hrel
          have q2 := cell_kept HBi.out (Nat.le_refl _) HQ2.out
          have hz1 := HX.out.b1
          by_cases hgo : m < x.n1 ∧ 0 ≤ r2
          · obtain ⟨j1, j2⟩ := hgo
            obtain ⟨⟨s1, s⟩, hs⟩ := some_at (show m < x.ws.length by rw [HX.out.h1]; exact j1)
            obtain ⟨b2, o2, hA2, _, _, hc⟩ := write_at (HX.out.r1.below HBi.out) hs
            rw [hA2] at q2
            have hs3 := (HX.out.s1 (s1, s) (List.mem_of_getElem? hs)).2
            have hs3 : s.size ≤ 140737488351232 := hs3
            have K2 : Box _ := ⟨room_calls r2 (some ⟨wr.heap.size, 0, none⟩) 1 [(s.size : Int)] _ (by omega) (by omega) (by simp) (by intro y hy; simp at hy; omega) (rowAt_alloc wr (icells [(s.size : Int)]) 3)⟩
            have hrl := roomI_le r2 [(s.size : Int)] hr4 (by intro y hy; simp at hy; omega)
            obtain ⟨r3, hr3⟩ : ∃ r3, roomI r2 [(s.size : Int)] = r3 := ⟨_, rfl⟩
            simp only [hr3] at K2
            rw [hr3] at hrl
            have HB6 : Box (Below w.heap.size w (wr.alloc (.cells #[.int .i64 (s.size : Int)] 3))) := ⟨bel_alloc HBi.out _⟩
            have hr0' : (0 : Int) ≤ (m : Int) := by omega
            have hr1' : (m : Int) < (x.n1 : Int) := by omega
            clear hs hA2 hr3
            obtain ⟨wp, rfl⟩ : ∃ wp : World, wp = wr := ⟨_, rfl⟩
            go_wp2_with fail
            refine Calls.mono K2.out ?_
            rintro e w6 ⟨rfl, rfl⟩
            go_wp2_with fail
            go_roundw
            case rel => exact ⟨m + 1, r3, by omega, by omega, by omega, by go_num, rfl, ⟨fun h => HRR.out (by omega)⟩, HB6⟩
            case measure => simp [intOf]; omega
          · have hgo2 : ¬ m < x.n1 ∨ (m < x.n1 ∧ r2 < 0) := by omega
            clear hgo
            rcases hgo2 with j1 | ⟨j1, j2⟩
            all_goals
              go_wp2_with fail
              go_roundw
              case rel => exact ⟨k + 1, r2, by omega, by omega, by omega, by go_num, rfl, ⟨fun h => HS5.out (HRR.out h)⟩, HBi⟩
              case measure => simp [intOf]; omega
end Go.Proofs.Ytbnkmndgfmmiaaa
