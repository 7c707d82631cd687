/- The law's own words: a sector of some bytes; zero bytes; a first call. -/
import Derived.Test.YtbnkmndgfmmiaaaDisk6
namespace Go.Proofs.Ytbnkmndgfmmiaaa
open Go.RowKit
set_option linter.unusedVariables false

theorem el_u8 : El Try.prog 67 5 1 1 := El.mk' Try.underlying67 (z := .int .u8 0) (by kernel_rfl) (by decide)
/-- make([]byte, n). -/
theorem make_u8 (n : Nat) (hn : n ≤ 281474976710656) (W : World) : (Instr.makeSlice 67 (.int .i64 (n : Int)) (.int .i64 (n : Int))).run Try.prog W = .ok (.slice (some ⟨W.heap.size, 0, none⟩) n n) (W.alloc (.cells (bcells (List.replicate n 0)).toArray 5)) := by
  have h := run_make_row' (P := Try.prog) 67 5 (.int .u8 0) 1 Try.underlying67 (by kernel_rfl) rfl .i64 .i64 n (by omega) (by omega) W
  have e : madeCells #[.int .u8 0] n = (bcells (List.replicate n 0)).toArray := by
    apply Array.toList_inj.mp
    rw [toList_madeCells_one]
    simp [bcells]
  rw [e] at h
  exact h
theorem zeros_own (W : World) (n : Nat) (hn : n ≤ maxLen) : Own (W.alloc (.cells (bcells (List.replicate n 0)).toArray 5)) W.heap.size 1 (.slice (some ⟨W.heap.size, 0, none⟩) n n) n (bcells (List.replicate n 0)) := by
  have h := Own.fresh W (bcells (List.replicate n 0)).toArray 5 (by simpa [bcells] using hn)
  simpa [bcells] using h

theorem zeros_calls (n : Nat) (w : World) (hn : n ≤ 140737488355328) : Calls Try.prog 18 #[.int .i64 (n : Int)] w fun e w' => e = .returned (.string (zerosB n)) ∧ Below w.heap.size w w' := by
  have hmk := fun W => make_u8 n (by omega) W
  have hO := zeros_own w n (by unfold maxLen; omega)
  have hcv := bytes_str Try.prog 67 5 9 Try.underlying67 Try.underlying5 Try.underlying9 (some ⟨w.heap.size, 0, none⟩) n n (List.replicate n 0) _ (by simp) (by
        obtain ⟨A, c, e, _, hr, _⟩ := hO.slice
        injection e with e1 e2 e3
        subst e1
        exact hr)
  clear hO
  go_enter Try.func18, Try.ntmps18
  go_wp2
  go_ret
  exact ⟨rfl, (Below.refl _ _).alloc (Nat.le_refl _) _⟩


def fillF (s : ByteArray) (i : Nat) : UInt8 := if s.size = 0 then 0 else s.data.toList.getD (i % s.size) 0
def fillB (s : ByteArray) : ByteArray := ⟨((List.range 256).map (fillF s)).toArray⟩
theorem fillB_size (s : ByteArray) : (fillB s).size = 256 := by simp [fillB, ByteArray.size]
def fillG (s : ByteArray) (n k : Nat) : List UInt8 := (List.range n).map fun i => if i < k then fillF s i else 0
theorem fillG_length (s : ByteArray) (n k : Nat) : (fillG s n k).length = n := by simp [fillG]
theorem fillG_zero (s : ByteArray) (n : Nat) : fillG s n 0 = List.replicate n 0 := by
  apply List.ext_getElem?; intro i; by_cases h : i < n <;> simp [fillG, h]
theorem fillG_full (s : ByteArray) (n : Nat) : fillG s n n = (List.range n).map (fillF s) := by
  unfold fillG; apply List.map_congr_left; intro i hi; rw [if_pos (List.mem_range.1 hi)]
theorem fillG_set (s : ByteArray) (n k : Nat) (h : k < n) : (bcells (fillG s n k)).set k (.int .u8 ((fillF s k).toNat : Int)) = bcells (fillG s n (k + 1)) := by
  apply List.ext_getElem?
  intro i
  rw [List.getElem?_set]
  by_cases hi : i < n
  · by_cases e : k = i
    · subst e; simp [bcells, fillG, hi]
    · rw [if_neg e]
      have : (i < k) ↔ (i < k + 1) := by omega
      simp [bcells, fillG, hi, this]
  · have e : ¬ k = i := by omega
    rw [if_neg e]
    simp [bcells, fillG, hi]
theorem fillG_empty (s : ByteArray) (n k : Nat) (h : s.size = 0) : fillG s n (k + 1) = fillG s n k := by
  unfold fillG
  apply List.map_congr_left
  intro i _
  have : fillF s i = 0 := by unfold fillF; rw [if_pos h]
  rw [this]; simp

set_option maxHeartbeats 1600000 in
set_option maxRecDepth 20000 in
theorem fill_calls (s : ByteArray) (w : World) (hs : s.size ≤ 140737488355328) : Calls Try.prog 13 #[.string s] w fun e w' => e = .returned (.string (fillB s)) ∧ Below w.heap.size w w' := by
  obtain ⟨n, hn⟩ : ∃ n, n = 256 := ⟨_, rfl⟩
  have HN : Box _ := ⟨hn⟩
  have hmk : ∀ W : World, (Instr.makeSlice 67 (.int .i64 256) (.int .i64 256)).run Try.prog W = .ok (.slice (some ⟨W.heap.size, 0, none⟩) n n) (W.alloc (.cells (bcells (List.replicate n 0)).toArray 5)) := fun W => by subst hn; exact make_u8 256 (by omega) W
  have HO : Box _ := ⟨zeros_own w n (by unfold maxLen; omega)⟩
  rw [← fillG_zero s n] at HO
  have hn2 : n ≤ 256 := by omega
  clear hn
  go_enter Try.func13, Try.ntmps13
  go_wp2_with fail
  go_loopw [8] (fun i wr => ∃ k : Nat, k ≤ n ∧ i = .int .i64 (k : Int) ∧ Box (Own wr w.heap.size 1 (.slice (some ⟨w.heap.size, 0, none⟩) n n) n (bcells (fillG s n k))) ∧ Box (Below w.heap.size w wr)) (fun i _ => n - (intOf i).toNat)
  case atStart => exact ⟨0, by omega, rfl, by rw [fillG_zero] at *; exact HO, ⟨(Below.refl _ _).alloc (Nat.le_refl _) _⟩⟩
  case round =>
    obtain ⟨k, hk, rfl, HS, HW⟩ := hrel
    by_cases hlt : k < n
    · by_cases hz : s.size = 0
      · have HE : Box _ := ⟨fillG_empty s n k hz⟩
        have hz2 : (s.size : Int) ≤ 0 := by omega
        clear hz
        go_wp2_with fail
        go_roundw
        case rel => exact ⟨k + 1, by omega, by go_num, by rw [HE.out]; exact HS, HW⟩
        case measure => simp [intOf]; omega
      · obtain ⟨j, hj⟩ : ∃ j, k % s.size = j := ⟨_, rfl⟩
        have hjl : j < s.size := by rw [← hj]; exact Nat.mod_lt _ (by omega)
        have hji : (k : Int) % (s.size : Int) = (j : Int) := by rw [← hj]; simp
        have hff : fillF s k = s[j] := by
          unfold fillF
          rw [if_neg hz, hj, List.getD_eq_getElem?_getD, List.getElem?_eq_getElem (by simpa using hjl)]; rfl
        have HSet : Box _ := ⟨fillG_set s n k hlt⟩
        rw [hff] at HSet
        obtain ⟨x, hx⟩ := some_at (l := fillG s n k) (k := k) (by rw [fillG_length]; exact hlt)
        obtain ⟨c0, f0⟩ := HS.out.cell (bcells_at hx)
        have z1 : (0 : Int) < (s.size : Int) := by omega
        have z2 : (0 : Int) ≤ (j : Int) := by omega
        have z3 : (j : Int) < (s.size : Int) := by omega
        clear hj hff hx hz
        go_wp2_with fail
        go_roundw
        case rel =>
          have g := HS.out.set k (by rw [bcells, List.length_map, fillG_length]; exact hlt) (.int .u8 (s[j].toNat : Int))
          rw [HSet.out] at g
          exact ⟨k + 1, by omega, by go_num, ⟨g.1⟩, ⟨HW.out.setCell (by simp) _⟩⟩
        case measure => simp [intOf]; omega
    · obtain rfl : k = n := by omega
      have hcv := bytes_str Try.prog 67 5 9 Try.underlying67 Try.underlying5 Try.underlying9 (some ⟨w.heap.size, 0, none⟩) k k (fillG s k k) wr (fillG_length _ _ _) (by
        obtain ⟨A, c, e, _, hr, _⟩ := HS.out.slice
        injection e with e1 e2 e3
        subst e1
        exact hr)
      go_wp2_with fail
      go_ret
      exact ⟨ret_str (by rw [fillG_full, HN.out]; rfl), HW.out⟩
end Go.Proofs.Ytbnkmndgfmmiaaa
