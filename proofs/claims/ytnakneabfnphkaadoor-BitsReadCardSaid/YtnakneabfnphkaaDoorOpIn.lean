/- masonrylaw1.Op as it comes in: a list of acts, each with its numbers and its texts; Light. -/
import Derived.Test.YtnakneabfnphkaaDoorBitsAlive
import Derived.Test.YtnakneabfnphkaaDoorBookRoom
import Derived.Test.YtnakneabfnphkaaDoorElem
import Derived.Outline
namespace Go.Proofs.YtnakneabfnphkaaDoor
open Go.RowKit

structure OpV where
  kind : Int
  n : Int
  a1 : Option Addr
  n1 : Nat
  c1 : Nat
  a2 : Option Addr
  n2 : Nat
  c2 : Nat
  l : List Int
  ts : List ByteArray
deriving Inhabited
def OpV.cells (o : OpV) : List Value := [.int .i64 o.kind, .int .i64 o.n, .slice o.a1 o.n1 o.c1, .slice o.a2 o.n2 o.c2]
structure OpV.Good (w : World) (o : OpV) : Prop where
  h1 : o.l.length = o.n1
  h2 : o.ts.length = o.n2
  b1 : o.n1 ≤ 140737488351232
  b2 : o.n2 ≤ 140737488351232
  s2 : ∀ s ∈ o.ts, s.size ≤ 140737488351232
  r1 : RowAt w o.a1 (icells o.l)
  r2 : RowAt w o.a2 (scells o.ts)
  kd : -9223372036854775808 ≤ o.kind ∧ o.kind ≤ 9223372036854775807
  nn : -9223372036854775808 ≤ o.n ∧ o.n ≤ 9223372036854775807
theorem OpV.four (o : OpV) : o.cells.length = 4 := rfl
theorem op_at {w : World} {A : Option Addr} {l : List OpV} (h : RowAt w A (l.flatMap OpV.cells)) {k : Nat} {x : OpV} (hk : l[k]? = some x) :
    ∃ b o, A = some ⟨b, o, none⟩ ∧ b < w.heap.size ∧ w.cell? ⟨b, o + k * 4, none⟩ = some (.int .i64 x.kind) ∧ w.cell? ⟨b, o + k * 4 + 1, none⟩ = some (.int .i64 x.n) ∧ w.cell? ⟨b, o + k * 4 + 2, none⟩ = some (.slice x.a1 x.n1 x.c1) ∧ w.cell? ⟨b, o + k * 4 + 3, none⟩ = some (.slice x.a2 x.n2 x.c2) := by
  obtain ⟨b, o, e, hb, hc⟩ := elem_at OpV.four (by decide) h hk
  exact ⟨b, o, e, hb, hc 0 _ rfl, hc 1 _ rfl, hc 2 _ rfl, hc 3 _ rfl⟩
theorem roomI_le (left : Int) (l : List Int) (h : -1 ≤ left) (hp : ∀ x ∈ l, 0 ≤ x) : -1 ≤ roomI left l ∧ roomI left l ≤ left := by
  induction l generalizing left with
  | nil => exact ⟨h, Int.le_refl _⟩
  | cons x r ih =>
    rw [roomI]
    split
    · exact ⟨Int.le_refl _, h⟩
    · have hx := hp x (by simp)
      have := ih (left - x) (by omega) (fun y hy => hp y (by simp [hy]))
      omega
def SomeB (e : Ending) : Prop := ∃ b : Bool, e = .returned (.bool b)
theorem someB (b : Bool) : SomeB (.returned (.bool b)) := ⟨b, rfl⟩
set_option maxHeartbeats 3200000 in
set_option maxRecDepth 20000 in
theorem light_calls (A : Option Addr) (c : Nat) (l : List OpV) (w : World) (hn : l.length ≤ 140737488351232) (hg : ∀ o ∈ l, o.Good w) (hR : RowAt w A (l.flatMap OpV.cells)) :
    Calls Tryd.prog 17 #[.slice A l.length c] w fun e w' => SomeB e ∧ Below w.heap.size w w' := by
  have HR : Box _ := ⟨hR⟩
  have HG : Box _ := ⟨hg⟩
  clear hR hg
  go_enter Tryd.func17, Tryd.ntmps17
  go_wp2_with fail
  go_loopw [3, 4] (fun x i wr => ∃ (k : Nat) (r : Int), k ≤ l.length ∧ -1 ≤ r ∧ r ≤ 20000 ∧ i = .int .i64 (k : Int) ∧ x = .int .i64 r ∧ Box (Below w.heap.size w wr)) (fun _ i _ => l.length - (intOf i).toNat)
  case atStart => exact ⟨0, 20000, by omega, by omega, by omega, rfl, rfl, ⟨Below.refl _ _⟩⟩
  case round =>
    obtain ⟨k, r, hk, hr0, hr1, rfl, rfl, HB⟩ := hrel
    by_cases hgo : k < l.length ∧ k < 100 ∧ 0 ≤ r
    case neg =>
      by_cases h1 : k < l.length
      · by_cases h2 : k < 100
        · have h3 : r < 0 := by omega
          clear hgo
          go_wp2_with fail
          all_goals
            go_ret
            exact ⟨someB _, HB.out⟩
        · have h3 : (100 : Int) ≤ (k : Int) := by omega
          clear hgo h2
          go_wp2_with fail
          all_goals
            go_ret
            exact ⟨someB _, HB.out⟩
      · clear hgo
        go_wp2_with fail
        all_goals
          go_ret
          exact ⟨someB _, HB.out⟩
    · obtain ⟨h1, h2, h3⟩ := hgo
      have h2i : (k : Int) < 100 := by omega
      obtain ⟨x, hx⟩ := some_at h1
      have HX : Box _ := ⟨HG.out x (List.mem_of_getElem? hx)⟩
      obtain ⟨b, o, rfl, hb, Q0, Q1, Q2, Q3⟩ := op_at HR.out hx
      have HQ3 : Box _ := ⟨Q3⟩
      have q2 := cell_kept HB.out (Nat.le_refl _) Q2
      have q3 := cell_kept HB.out (Nat.le_refl _) Q3
      clear Q0 Q1 Q2 Q3
      have hz1 := HX.out.b1
      have hz2 := HX.out.b2
      have K1 : Box (∀ (W : World) (A : Option Addr), RowAt W A (icells [(x.n1 : Int), (x.n2 : Int)]) → Calls Tryd.prog 36 #[.int .i64 r, .slice A 2 2] W fun e w' => ∃ r', -1 ≤ r' ∧ r' ≤ 20000 ∧ e = .returned (.int .i64 r') ∧ W = w') := ⟨fun W A hA =>
        (room_calls r A 2 [(x.n1 : Int), (x.n2 : Int)] W (by omega) (by omega) (by simp) (by intro y hy; simp at hy; omega) hA).mono fun e w' ⟨h1, h2⟩ => ⟨_, (roomI_le r _ hr0 (by intro y hy; simp at hy; omega)).1, Int.le_trans (roomI_le r _ hr0 (by intro y hy; simp at hy; omega)).2 hr1, h1, h2⟩⟩
      have R1 : Box (∀ W : World, RowAt (W.alloc (.cells #[.int .i64 (x.n1 : Int), .int .i64 (x.n2 : Int)] 3)).drew (some ⟨W.heap.size, 0, none⟩) (icells [(x.n1 : Int), (x.n2 : Int)])) := ⟨fun W => row_drew (rowAt_alloc W (icells [(x.n1 : Int), (x.n2 : Int)]) _)⟩
      clear hx hr0 hz1 hz2 h2
      have hbk : (0 : Int) ≤ (k : Int) := by omega
      have hkl : (k : Int) < (l.length : Int) := by omega
      obtain ⟨wo, rfl⟩ : ∃ wo : World, wo = wr := ⟨_, rfl⟩
      go_wp2_with fail
      go_region_held3 (fun w' => w'.cell? ⟨b, o + k * 4 + 2, none⟩ = some (.slice x.a1 x.n1 x.c1) ∧ w'.cell? ⟨b, o + k * 4 + 3, none⟩ = some (.slice x.a2 x.n2 x.c2)) (go_keep)
        ((go_at_call 36; refine Calls.mono (K1.out _ _ (R1.out _)) ?_; rintro e w5 ⟨r', hr0, hr3, rfl, rfl⟩))
      all_goals
        have HB5 : Box (Below w.heap.size w (wo.alloc (.cells #[.int .i64 (x.n1 : Int), .int .i64 (x.n2 : Int)] 3)).drew) := ⟨bel_drew (bel_alloc HB.out _)⟩
        clear q2 q3
        go_wp2_with fail
        go_loopw [3, 5] (fun y i wi => ∃ (m : Nat) (r2 : Int), m ≤ x.n2 ∧ -1 ≤ r2 ∧ r2 ≤ 20000 ∧ i = .int .i64 (m : Int) ∧ y = .int .i64 r2 ∧ Box (Below w.heap.size w wi)) (fun _ i _ => x.n2 - (intOf i).toNat)
        case atStart => exact ⟨0, r', by omega, by omega, by omega, rfl, rfl, HB5⟩
        case round =>
          obtain ⟨m, r2, hm, hr4, hr5, rfl, rfl, HBi⟩ := hrel
          have q3 := cell_kept HBi.out (Nat.le_refl _) HQ3.out
          have hz2 := HX.out.b2
          by_cases hgo : m < x.n2 ∧ 0 ≤ r2
          · obtain ⟨j1, j2⟩ := hgo
            obtain ⟨s, hs⟩ := some_at (show m < x.ts.length by rw [HX.out.h2]; exact j1)
            obtain ⟨ad, hA2, hc⟩ := (HX.out.r2.below HBi.out).get (scells_at hs)
            rw [hA2] at q3
            have hs3 := HX.out.s2 s (List.mem_of_getElem? hs)
            have K2 : Box _ := ⟨room_calls r2 (some ⟨wr.heap.size, 0, none⟩) 1 [(s.size : Int)] _ (by omega) (by omega) (by simp) (by intro y hy; simp at hy; omega) (rowAt_alloc wr (icells [(s.size : Int)]) 3)⟩
            have hrl := roomI_le r2 [(s.size : Int)] hr4 (by intro y hy; simp at hy; omega)
            obtain ⟨r3, hr3⟩ : ∃ r3, roomI r2 [(s.size : Int)] = r3 := ⟨_, rfl⟩
            simp only [hr3] at K2
            rw [hr3] at hrl
            have HB6 : Box (Below w.heap.size w (wr.alloc (.cells #[.int .i64 (s.size : Int)] 3))) := ⟨bel_alloc HBi.out _⟩
            clear hs hA2 hr3
            obtain ⟨wp, rfl⟩ : ∃ wp : World, wp = wr := ⟨_, rfl⟩
            go_wp2_with fail
            refine Calls.mono K2.out ?_
            rintro e w6 ⟨rfl, rfl⟩
            go_wp2_with fail
            go_roundw
            case rel => exact ⟨m + 1, r3, by omega, by omega, by omega, by go_num, rfl, HB6⟩
            case measure => simp [intOf]; omega
          · have hgo2 : ¬ m < x.n2 ∨ (m < x.n2 ∧ r2 < 0) := by omega
            clear hgo
            rcases hgo2 with j1 | ⟨j1, j2⟩
            all_goals
              go_wp2_with fail
              go_roundw
              case rel => exact ⟨k + 1, r2, by omega, by omega, by omega, by go_num, rfl, HBi⟩
              case measure => simp [intOf]; omega
end Go.Proofs.YtnakneabfnphkaaDoor
