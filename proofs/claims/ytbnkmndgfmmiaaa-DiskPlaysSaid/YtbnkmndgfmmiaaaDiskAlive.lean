/- A first call; of a nil disk. -/
import Derived.Test.YtbnkmndgfmmiaaaDiskIn
namespace Go.Proofs.Ytbnkmndgfmmiaaa
open Go.RowKit
set_option linter.unusedVariables false

def aliveD1 (n : Nat) (x : ByteArray) : DSt := ⟨((List.replicate n zeroS).set 3 x).set 4 x, List.replicate n zeroS, [(((3 : Nat) : Int), x), (((4 : Nat) : Int), x)], 2, false, false, 0, []⟩
theorem alive_write (n : Nat) (x : ByteArray) (hn : 140 ≤ n) (hx : x.size = 256) : writesD (newD n) [(3, x), (4, x)] = (aliveD1 n x, 0) := by
  have e1 := writeD_ok (newD n) 3 x rfl rfl (by simp [newD]; omega) hx
  have e2 := writeD_ok ({ newD n with l := (newD n).l.set 3 x, ws := (newD n).ws ++ [(((3 : Nat) : Int), x)], many := (newD n).many + 1 }) 4 x rfl rfl (by simp [newD]; omega) hx
  rw [writesD, if_neg (by simp [newD]), writesL, show ((3 : Int), x).1 = ((3 : Nat) : Int) from rfl, e1, if_neg (by simp), writesL, show ((4 : Int), x).1 = ((4 : Nat) : Int) from rfl, e2, if_neg (by simp), writesL]
  rfl
def aliveD2 (n : Nat) (x : ByteArray) : DSt := ⟨(List.replicate n zeroS).set 3 x, (List.replicate n zeroS).set 3 x, [], 2, true, false, 0, []⟩
theorem alive_crash (n : Nat) (x : ByteArray) : crashD (aliveD1 n x) [1] = (aliveD2 n x, 1) := by
  rw [crashD, if_neg (by simp [aliveD1])]
  simp [aliveD1, aliveD2, crashK, keptB]
theorem getD_set_rep (n : Nat) (x z : ByteArray) (i j : Nat) (hi : i < n) (hj : j < n) : ((List.replicate n z).set i x).getD j ByteArray.empty = if i = j then x else z := by
  rw [List.getD_eq_getElem?_getD, List.getElem?_set]
  by_cases e : i = j
  · subst e; simp [hi]
  · rw [if_neg e, if_neg e, List.getElem?_replicate, if_pos hj]; rfl

set_option maxHeartbeats 1600000 in
theorem diskAlive_calls (w : World) : Calls Try.prog 5 #[] w fun e w' => e = .returned (.bool true) ∧ Below w.heap.size w w' := by
  obtain ⟨n, hn⟩ : ∃ n, n = 150 := ⟨_, rfl⟩
  have HN : Box (∀ W, Below w.heap.size w W → Calls Try.prog 6 #[.int .i64 150] W fun e w' => ∃ g, e = .returned (.tuple #[.pointer (some ⟨g, 0, none⟩), .int .i64 0]) ∧ DiskIn w w' g (newD n)) := ⟨fun W h => by subst hn; exact diskNew_in w W 150 h (by omega) (by omega)⟩
  have HF : Box _ := ⟨fun W => fill_calls ⟨#[120]⟩ W (by decide)⟩
  have HZ : Box (∀ W, Calls Try.prog 18 #[.int .i64 256] W fun e w' => e = .returned (.string zeroS) ∧ Below W.heap.size W w') := ⟨fun W => zeros_calls 256 W (by omega)⟩
  have hxs := fillB_size ⟨#[120]⟩
  obtain ⟨x, hx⟩ : ∃ x, fillB ⟨#[120]⟩ = x := ⟨_, rfl⟩
  rw [hx] at HF hxs
  have H1 : Box _ := ⟨alive_write n x (by omega) hxs⟩
  have H2 : Box _ := ⟨alive_crash n x⟩
  have HR3 : Box (readD { aliveD2 n x with off := false } 3 = (x, 0)) := ⟨by
    have h := readD_ok { aliveD2 n x with off := false } 3 rfl (by simp [aliveD2]; omega)
    have h2 := getD_set_rep n x zeroS 3 3 (by omega) (by omega)
    rw [if_pos rfl] at h2
    rw [show ({ aliveD2 n x with off := false } : DSt).l = (List.replicate n zeroS).set 3 x from rfl, h2] at h
    exact h⟩
  have HR4 : Box (readD { aliveD2 n x with off := false } 4 = (zeroS, 0)) := ⟨by
    have h := readD_ok { aliveD2 n x with off := false } 4 rfl (by simp [aliveD2]; omega)
    have h2 := getD_set_rep n x zeroS 3 4 (by omega) (by omega)
    rw [if_neg (by omega)] at h2
    rw [show ({ aliveD2 n x with off := false } : DSt).l = (List.replicate n zeroS).set 3 x from rfl, h2] at h
    exact h⟩
  have HLn : Box (({ aliveD2 n x with off := false } : DSt).l.length = n) := ⟨by simp [aliveD2]⟩
  obtain ⟨z, hz⟩ : ∃ z, zeroS = z := ⟨_, rfl⟩
  have hni : (n : Int) = 150 := by omega
  have HNI : Box _ := ⟨hni⟩
  rw [hz] at HR4 HZ
  have HN9 : Box (n = 150) := ⟨hn⟩
  clear hz hx hxs hn hni
  go_enter Try.func5, Try.ntmps5
  go_wp2_with fail
  refine (HN.out _ (Below.refl _ _)).mono ?_
  rintro e w1 ⟨g, rfl, hi1⟩
  have HI1 : Box _ := ⟨hi1⟩
  clear hi1
  go_wp2_with fail
  refine (HF.out _).mono ?_
  rintro e w2 ⟨rfl, hb2⟩
  have HI2 : Box _ := ⟨HI1.out.below hb2⟩
  clear hb2
  have HWr : Box _ := ⟨diskWrite_new HI2.out (by simp [newD]) [(3, x), (4, x)] 2 rfl (by simp [newD])⟩
  rw [H1.out] at HWr
  go_wp2_with fail
  refine Calls.mono HWr.out ?_
  rintro e w3 ⟨rfl, hi3⟩
  have HI3 : Box _ := ⟨hi3⟩
  clear hi3
  have HCr : Box _ := ⟨diskCrash_new HI3.out [1] 1 rfl (by omega)⟩
  rw [H2.out] at HCr
  go_wp2_with fail
  refine Calls.mono HCr.out ?_
  rintro e w4 ⟨rfl, hi4⟩
  have HI4 : Box _ := ⟨hi4⟩
  clear hi4
  go_wp2_with fail
  refine (diskRestore_in HI4.out).mono ?_
  rintro e w5 ⟨rfl, hi5⟩
  have HI5 : Box _ := ⟨hi5⟩
  clear hi5
  have HRd3 : Box _ := ⟨diskRead_in HI5.out 3⟩
  have HRd4 : Box _ := ⟨diskRead_in HI5.out 4⟩
  rw [HR3.out] at HRd3
  rw [HR4.out] at HRd4
  go_wp2_with fail
  refine Calls.mono HRd3.out ?_
  rintro e w6 ⟨rfl, rfl⟩
  go_wp2_with fail
  refine Calls.mono HRd4.out ?_
  rintro e w6 ⟨rfl, rfl⟩
  go_wp2_with fail
  refine (HZ.out _).mono ?_
  rintro e w6 ⟨rfl, hb6⟩
  have HI6 : Box _ := ⟨HI5.out.below hb6⟩
  clear hb6
  go_wp2_with fail
  refine (diskOn_in HI6.out).mono ?_
  rintro e w7 ⟨rfl, rfl⟩
  go_wp2_with fail
  refine (diskSize_in HI6.out).mono ?_
  rintro e w7 ⟨rfl, rfl⟩
  rw [HLn.out, HNI.out]
  go_wp2_with fail
  go_ret
  exact ⟨rfl, HI6.out.bel⟩

end Go.Proofs.Ytbnkmndgfmmiaaa
