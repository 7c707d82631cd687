/- mark.Text: a fingerprint in digits. -/
import Derived.Test.YtbkankpfkbafdaaDoorBundle7
namespace Go.Proofs.YtbkankpfkbafdaaDoor
open Go.RowKit
set_option linter.unusedVariables false

theorem u8_low4 (b : UInt8) : bits BinOp.and IntKind.u8 (b.toNat : Int) 15 = ((b.toNat % 16 : Nat) : Int) := by
  have h : ∀ n : Fin 256, bits BinOp.and IntKind.u8 (n.val : Int) 15 = ((n.val % 16 : Nat) : Int) := by decide +kernel
  exact h ⟨b.toNat, b.toNat_lt⟩
theorem make_cap (c : Nat) (hc : c ≤ 281474976710656) (W : World) : (Instr.makeSlice 31 (.int .i64 0) (.int .i64 (c : Int))).run Tryd.prog W = .ok (.slice (some ⟨W.heap.size, 0, none⟩) 0 c) (W.alloc (.cells (madeCells #[.int .u8 0] c) 5)) := by
  obtain ⟨i, h1, h2, h3, h4⟩ := u8_info
  have h := run_make (P := Tryd.prog) W 31 5 i (.int .u8 0) Tryd.underlying31 h1 h2 .i64 .i64 0 c (Int.le_refl _) (by omega) (by rw [h4]; omega) (by omega)
  simp only [Int.toNat_zero, Int.toNat_natCast, h3, Nat.mul_one] at h
  exact h
theorem cap_own (c : Nat) (hc : c ≤ maxLen) (W : World) : Own (W.alloc (.cells (madeCells #[.int .u8 0] c) 5)) W.heap.size 1 (.slice (some ⟨W.heap.size, 0, none⟩) 0 c) 0 [] :=
  Own.of_row (World.ownsRow_made W _ c (Nat.le_refl _) hc (by simp [size_madeCells]))
set_option maxHeartbeats 1600000 in
set_option maxRecDepth 100000 in
theorem text_calls (kd : Int) (s : ByteArray) (w : World) (hs : s.size ≤ 1000000) : Calls Tryd.prog 24 #[.agg #[.int .i64 kd, .string s]] w fun e w' => e = .returned (.string (hexB s)) ∧ Below w.heap.size w w' := by
  have HP : Box _ := ⟨PrintAt.new w kd s⟩
  have HB0 : Box _ := ⟨bel_alloc (Below.refl w.heap.size w) (.cells #[.int .i64 kd, .string s] 24)⟩
  obtain ⟨c, hc⟩ : ∃ c : Nat, 2 * (s.size : Int) = (c : Int) := ⟨2 * s.size, by omega⟩
  have hmk := fun W => make_cap c (by omega) W
  have HO : Box _ := ⟨fun W => cap_own c (by simp only [maxLen]; omega) W⟩
  rw [hexB]
  go_enter Tryd.func24, Tryd.ntmps24
  go_wp2_with fail
  go_loopw [3, 13] (fun x i wr => ∃ k : Nat, k ≤ s.size ∧ i = .int .i64 k ∧ Hid (Own wr (w.heap.size + 1) 1 x (k * 2) (bcells (hexL (s.data.toList.take k)))) ∧ Hid (Below w.heap.size w wr) ∧ Box (PrintAt wr w.heap.size kd s)) (fun _ i _ => s.size - (intOf i).toNat)
  case atStart =>
    refine ⟨0, by omega, rfl, ?_, bel_alloc HB0.out _, ⟨HP.out.below ((Below.refl _ _).alloc (Nat.le_refl _) _)⟩⟩
    rw [Hid]
    have h := HO.out (w.alloc (.cells #[.int .i64 kd, .string s] 24))
    simpa [bcells, hexL] using h.weaken (base' := w.heap.size + 1) (by simp)
  case round =>
    obtain ⟨k, hk, rfl, HN, HW, HP1⟩ := hrel
    have c1 := HP1.out.c1
    by_cases hlt : k < s.size
    · have HX : Hid (hexL (s.data.toList.take (k + 1)) = hexL (s.data.toList.take k) ++ [hexD (s[k].toNat / 16), hexD (s[k].toNat % 16)]) := by rw [Hid, take_snoc_str s k hlt, hexL_snoc]
      have hx2 : s[k].toNat < 256 := s[k].toNat_lt
      have e2 := u8_low4 s[k]
      obtain ⟨q, hq⟩ : ∃ q, s[k].toNat / 16 = q := ⟨_, rfl⟩
      obtain ⟨r, hr⟩ : ∃ r, s[k].toNat % 16 = r := ⟨_, rfl⟩
      rw [hq, hr] at HX
      rw [hr] at e2
      have e1 : (s[k].toNat : Int) / 16 = (q : Int) := by omega
      have e1b : (s[k].toNat : Int) / 2 ^ 4 = (q : Int) := by omega
      have e3 : IntKind.u8.wrap (q : Int) = (q : Int) := by rw [IntKind.wrap_u8']; omega
      have e4 : IntKind.u8.wrap (r : Int) = (r : Int) := by rw [IntKind.wrap_u8']; omega
      have q1 : (q : Int) < 16 := by omega
      have r1 : (r : Int) < 16 := by omega
      have q2 : q < 16 := by omega
      have r2 : r < 16 := by omega
      have v1 := hexD_lit q
      have v2 := hexD_lit r
      clear hq hr hx2
      have j1 : (0 : Int) ≤ (k : Int) := by omega
      have j2 : (k : Int) < (s.size : Int) := by omega
      have hpl := HP1.out.lt
      obtain ⟨wo, rfl⟩ : ∃ wo : World, wo = wr := ⟨_, rfl⟩
      go_wp2
      go_region_law
        ((refine step_appO el_u8 (w.heap.size + 1) rfl _ _ rfl rfl (HN.out.alloc _).drew (news := bcells [hexD q, hexD r]) rfl rfl (rowAt_alloc _ _ _).drew (one_bcells _) (by omega) (by have := HP1.out.lt; simp; omega) ?_; intro v1 w3 hown1 hg1 _; have HO3 : Hid (Own w3 (w.heap.size + 1) 1 v1 ((k + 1) * 2) (bcells (hexL (s.data.toList.take (k + 1))))) := (by rw [HX.out, bcells, List.map_append, show (k + 1) * 2 = k * 2 + 2 by omega]; exact hown1); have HB3 : Hid (Below w.heap.size w w3) := Own.grown_below (HN.out.alloc _).drew (below_drewN (HW.out.alloc HW.out.size _) 1) hg1 (by omega); have HP3 : Box (PrintAt w3 w.heap.size kd s) := ⟨((HP1.out.below ((Below.refl _ _).alloc (Nat.le_refl _) _)).drew).touched (Touched.of_grown hg1) (by intro hm; have := (HN.out.lt _ (Option.mem_toList.1 hm)).1; omega)⟩; clear hown1 hg1))
      all_goals
        go_wp2
        go_roundw
        case rel => exact ⟨k + 1, by omega, by go_num, HO3, HB3, HP3⟩
        case measure => simp [intOf]; omega
    · obtain rfl : k = s.size := by omega
      obtain ⟨A, cc, rfl, _, hr, _⟩ := HN.out.slice
      rw [List.take_of_length_le (by rw [data_length]; omega)] at hr
      have hcv := bytes_str Tryd.prog 31 5 9 Tryd.underlying31 Tryd.underlying5 Tryd.underlying9 A _ cc (hexL s.data.toList) wr (by rw [hexL_length, data_length, Nat.mul_comm]) hr
      clear hr
      go_wp2
      go_ret
      exact ⟨rfl, HW.out⟩
end Go.Proofs.YtbkankpfkbafdaaDoor
