/- room.Lay. -/
import Derived.Test.YtoadelcdcfdmfaaRoomMore
import Derived.Test.YtoadelcdcfdmfaaRoomFlag
import Derived.Test.YtoadelcdcfdmfaaBundle4
import Derived.Test.YtoadelcdcfdmfaaBundle6
import Derived.Deep.DeepCutAuto
import Derived.Deep.RegionHeld3
namespace Go.Proofs.Ytoadelcdcfdmfaa
open Go.RowKit
set_option linter.unusedVariables false

theorem lowL_B (v n : Nat) : B.lowL v n = lowL v n := by
  induction n generalizing v with
  | zero => rfl
  | succ n ih => rw [B.lowL, lowL, ih]
/-- A room's bytes, and what it is laid as. -/
def roomRaw (n : Nat) (f : Nat → Bool) : ByteArray := ⟨(6 :: (lowL n 2 ++ flagL f n)).toArray⟩
def roomB (n : Nat) (f : Nat → Bool) : ByteArray := (sealB 256 (roomRaw n f)).1
theorem roomRaw_size (n : Nat) (f : Nat → Bool) : (roomRaw n f).size = 3 + (n + 7) / 8 := by
  simp [roomRaw, ByteArray.size, lowL_length, flagL_length]; omega
theorem room_sealed (n : Nat) (f : Nat → Bool) (hn : n ≤ 1900) : sealB 256 (roomRaw n f) = (roomB n f, 0) := by
  have h := roomRaw_size n f
  have e : (sealB 256 (roomRaw n f)).2 = 0 := by
    rw [sealB, if_neg (by omega), if_neg (by omega)]
  rw [← e]; rfl

theorem room_laid (n : Nat) (f : Nat → Bool) (hn : n ≤ 1900) (z : ByteArray) (hz : ⟨(flagL f n).toArray⟩ = z) : ∃ m1 m2 m3, B.layO 1 (0, []) [6] = (0, m1) ∧ B.layO 2 (0, m1) [(n : Int)] = (0, m2) ∧ B.rawO (0, m2) [z] = (0, m3) ∧ B.endO (0, m3) = (roomRaw n f, 0) ∧ m1.length = 1 ∧ m2.length = 3 ∧ z.size = (n + 7) / 8 := by
  subst hz
  refine ⟨_, _, _, B.layO_fine 1 [] [6] (by intro x hx; simp at hx; subst hx; exact B.layB_fine (by omega) (.inr (by simp))), B.layO_fine 2 _ [(n : Int)] (by intro x hx; simp at hx; subst hx; exact B.layB_fine (by omega) (.inr (by simp; omega))), by rw [B.rawO, if_neg (by simp)], ?_, ?_, ?_, ?_⟩
  · rw [B.endO, if_neg (by simp)]
    simp [roomRaw, B.joinB, lowL_B]
    rfl
  · simp [B.lowL_length]
  · simp [B.lowL_length]
  · simp [ByteArray.size, flagL_length]
set_option maxHeartbeats 3200000 in
set_option maxRecDepth 100000 in
theorem roomLay_calls (g h c n : Nat) (f : Nat → Bool) (w : World) (hA : RoomAt w g h c n f) (hn : n ≤ 1900) :
    Calls Try.prog 20 #[.pointer (some ⟨g, 0, none⟩)] w fun e w' => e = .returned (.tuple #[.string (roomB n f), .int .i64 0]) ∧ Below w.heap.size w w' := by
  have k0 := hA.c0
  have HR : Box _ := ⟨hA.row⟩
  have HA : Box _ := ⟨hA⟩
  clear hA
  obtain ⟨m, hm⟩ : ∃ m, (n + 7) / 8 = m := ⟨_, rfl⟩
  have hm1 : m ≤ 240 := by omega
  have HM : Box _ := ⟨hm⟩
  have y1 : (((n : Int) + 7).tdiv 8) = (m : Int) := by rw [Int.tdiv_eq_ediv_of_nonneg (by omega)]; omega
  have y2 : ((n : Int) + 7) / 8 = (m : Int) := by omega
  have hmk := fun W => make_u8 m (by omega) W
  have HO := Lib.hid (zeros_own w m (Nat.le_trans hm1 (by decide)))
  have HB : Box (Below w.heap.size w (w.alloc (.cells (bcells (List.replicate m 0)).toArray 5))) := ⟨(Below.refl _ _).alloc (Nat.le_refl _) _⟩
  have k1 := (HA.out.below HB.out).c0
  clear hm
  go_enter Try.func20, Try.ntmps20
  go_wp2
  clear y1 y2
  go_loopw [24] (fun i wr => ∃ k : Nat, k ≤ n ∧ i = .int .i64 (k : Int) ∧ Box (Own wr w.heap.size 1 (.slice (some ⟨w.heap.size, 0, none⟩) m m) m (bcells (flagL (preF f k) n))) ∧ Box (Below w.heap.size w wr)) (fun i _ => n - (intOf i).toNat)
  case atStart => exact ⟨0, Nat.zero_le _, rfl, ⟨by rw [flagL_pre0, HM.out]; exact HO.out⟩, HB⟩
  case round =>
    obtain ⟨k, hk, rfl, HN, HW⟩ := hrel
    by_cases hlt : k < n
    · have hcell := row_cell (HR.out.below HW.out) (bf_at f hlt)
      obtain ⟨b, hb⟩ : ∃ b, f k = b := ⟨_, rfl⟩
      rw [hb] at hcell
      have HF : Box _ := ⟨hb⟩
      clear hb
      cases b
      · go_wp2
        go_roundw
        case rel => exact ⟨k + 1, by omega, by go_num, ⟨by rw [preF_skip HF.out]; exact HN.out⟩, HW⟩
        case measure => simp [intOf]; omega
      · obtain ⟨q, hq⟩ : ∃ q, k / 8 = q := ⟨_, rfl⟩
        obtain ⟨r, hr⟩ : ∃ r, k % 8 = r := ⟨_, rfl⟩
        have hk8 : q < m := by have := HM.out; omega
        obtain ⟨c1, f1⟩ := HN.out.cell (j := q) (u := .int .u8 ((flagB (preF f k) n q).toNat : Int)) (by
          rw [bcells, List.getElem?_map, flagL_at _ (by rw [HM.out]; exact hk8)]; rfl)
        have z1 : ((k : Int)).tdiv 8 = (q : Int) := by rw [Int.tdiv_eq_ediv_of_nonneg (by omega)]; omega
        have z2 : ((k : Int)).tmod 8 = (r : Int) := by rw [Int.tmod_eq_emod_of_nonneg (by omega)]; omega
        have z3 : (k : Int) / 8 = (q : Int) := by omega
        have z4 : (k : Int) % 8 = (r : Int) := by omega
        have Z5 : Box _ := ⟨flag_or (flagB (preF f k) n q) k⟩
        rw [hr] at Z5
        have z6 : (r : Int) < 8 := by omega
        have HQ : Box _ := ⟨hq⟩
        have HRr : Box _ := ⟨hr⟩
        clear hq hr
        go_wp2
        go_region
        go_wp2
        go_roundw
        case rel =>
          refine ⟨k + 1, by omega, by go_num, ⟨?_⟩, ⟨bel_drew (HW.out.setCell (by simp) _)⟩⟩
          have h1 := (HN.out.set q (by rw [bcells, List.length_map, flagL_length, HM.out]; exact hk8) (.int .u8 (bits BinOp.or IntKind.u8 ((flagB (preF f k) n q).toNat : Int) (2 ^ r % 256)))).1
          have h2 := flagL_upd (preF f k) hlt
          rw [← preF_succ HF.out, HQ.out, HRr.out] at h2
          rw [← h2]
          rw [Z5.out] at h1 ⊢
          rw [bcells_set] at h1
          exact h1.drew
        case measure => simp [intOf]; omega
    · obtain rfl : k = n := by omega
      have HRow : Box (RowAt wr (some ⟨w.heap.size, 0, none⟩) (bcells (flagL f k))) := ⟨by
        obtain ⟨A, c, e, _, hr, _⟩ := HN.out.slice
        injection e with e1 e2 e3
        subst e1
        rw [flagL_preN] at hr
        exact hr⟩
      have KK : Box (∀ W, Below wr.heap.size wr W → W.cell? ⟨g, 0, none⟩ = some (.slice (some ⟨h, 0, none⟩) k c) ∧ (convert 67 9 (.slice (some ⟨w.heap.size, 0, none⟩) m m)).run Try.prog W = .ok (.string ⟨(flagL f k).toArray⟩) W) := ⟨fun W hW => ⟨((HA.out.below HW.out).below hW).c0, bytes_str Try.prog 67 5 9 Try.underlying67 Try.underlying5 Try.underlying9 (some ⟨w.heap.size, 0, none⟩) m m (flagL f k) W (by rw [flagL_length, HM.out]) (HRow.out.below hW)⟩⟩
      obtain ⟨z, hz⟩ : ∃ z : ByteArray, ⟨(flagL f k).toArray⟩ = z := ⟨_, rfl⟩
      rw [hz] at KK
      obtain ⟨m1, m2, m3, e1, e2, e3, e4, z1, z2, z3⟩ := room_laid k f hn z hz
      obtain ⟨S, hS⟩ : ∃ S, roomRaw k f = S := ⟨_, rfl⟩
      have hSe := room_sealed k f hn
      have hSz := roomRaw_size k f
      rw [hS] at e4 hSe hSz
      have HE : Box (B.layO 1 (0, []) [6] = (0, m1) ∧ B.layO 2 (0, m1) [(k : Int)] = (0, m2) ∧ B.rawO (0, m2) [z] = (0, m3) ∧ B.endO (0, m3) = (S, 0)) := ⟨e1, e2, e3, e4⟩
      have HZ : Box (m1.length = 1 ∧ m2.length = 3 ∧ z.size ≤ 240) := ⟨z1, z2, by omega⟩
      have HSe : Box _ := ⟨hSe⟩
      have HSz : Box (S.size ≤ 1000) := ⟨by omega⟩
      clear e1 e2 e3 e4 z1 z2 z3 hz hS hSe hSz
      have C1 : Box (∀ W g b L, B.OutR wr W g (0, []) L → (b, icells [6]) ∈ L → _) := ⟨fun W g b L h hm => B.outByte_row (b := b) h 1 1 [6] hm rfl (by omega) (by simp) (by intro z hz; simp at hz; omega)⟩
      have C2 : Box (∀ W g b L, B.OutR wr W g (0, m1) L → (b, icells [(k : Int)]) ∈ L → _) := ⟨fun W g b L h hm => B.outHalf_row (b := b) h 1 1 [(k : Int)] hm rfl (by omega) (by have := HZ.out; simp only; omega) (by intro z hz; simp at hz; omega)⟩
      have C3 : Box (∀ W g b L, B.OutR wr W g (0, m2) L → (b, scells [z]) ∈ L → _) := ⟨fun W g b L h hm => B.outRaw_row (b := b) h 1 1 [z] hm rfl (by omega) (by have := HZ.out; simp only [B.totalLen, List.map_cons, List.map_nil, List.sum_cons, List.sum_nil]; omega)⟩
      have C4 : Box (∀ W g L, B.OutR wr W g (0, m3) L → _) := ⟨fun W g L h => B.outEnd_row h⟩
      rw [HE.out.1] at C1
      rw [HE.out.2.1] at C2
      rw [HE.out.2.2.1] at C3
      rw [HE.out.2.2.2] at C4
      have R0 : Box (B.RowsR wr wr []) := ⟨B.RowsR.nil (Below.refl _ _)⟩
      obtain ⟨p0, p1⟩ := KK.out wr (Below.refl _ _)
      go_upto_region 10 with fail
      go_cut [7, 8] (fun v1 v2 wx => v1 = .string S ∧ v2 = .int .i64 0 ∧ Box (Below wr.heap.size wr wx))
      case first =>
        go_region_held3 (fun w' => w'.cell? ⟨g, 0, none⟩ = some (.slice (some ⟨h, 0, none⟩) k c) ∧ (convert 67 9 (.slice (some ⟨w.heap.size, 0, none⟩) m m)).run Try.prog w' = .ok (.string z) w') (first | (refine KK.out _ ?_; repeat (first | exact H7.out.bel | exact H6.out.bel | exact H5.out.bel | exact H4.out.bel | exact Below.refl _ _ | apply bel_drew | apply bel_alloc)) | fail)
          (first
            | (go_at_call 29; refine Calls.mono (C1.out _ _ _ _ (by repeat (first | exact R0.out | apply B.OutR.drew | apply B.RowsR.newOut (hg := by first | rfl | simp) | apply B.OutR.allocRow | apply B.RowsR.allocRow)) (by simp [icells])) ?_; rintro e w4 ⟨rfl, h4⟩; have H4 : Box _ := ⟨h4⟩; have p2 := KK.out _ h4.bel; clear h4)
            | (go_at_call 30; refine Calls.mono (C2.out _ _ _ _ (by repeat (first | exact H4.out | apply B.OutR.drew | apply B.OutR.allocRow)) (by simp [icells])) ?_; rintro e w5 ⟨rfl, h5⟩; have H5 : Box _ := ⟨h5⟩; have p4 := KK.out _ h5.bel; clear h5)
            | (go_at_call 31; refine Calls.mono (C3.out _ _ _ _ (by repeat (first | exact H5.out | apply B.OutR.drew | apply B.OutR.allocRow)) (by simp [scells])) ?_; rintro e w6 ⟨rfl, h6⟩; have H6 : Box _ := ⟨h6⟩; have p6 := KK.out _ h6.bel; clear h6)
            | (go_at_call 32; refine Calls.mono (C4.out _ _ _ H6.out) ?_; rintro e w7 ⟨rfl, h7⟩; have H7 : Box _ := ⟨h7⟩; have p8 := KK.out _ h7.bel; clear h7))
        all_goals
          go_wp2_with fail
          go_meet
          exact ⟨rfl, rfl, ⟨H7.out.bel⟩⟩
      case rest =>
        obtain ⟨rfl, rfl, HWc⟩ := hcut
        have HS := fun (A : Option Addr) (W : World) (hR : RowAt W A (scells [S])) => crcSeal_calls A 256 1 [S] W (by omega) (by simp) (by have := HSz.out; simp [totalLen]; omega) hR
        have HJ : joinB [S] = S := by simp [joinB]
        rw [HJ, HSe.out] at HS
        have HS2 : Box _ := ⟨HS⟩
        clear HS HJ
        go_wp2_with fail
        refine (HS2.out _ _ (rowAt_alloc _ (scells [S]) _)).mono ?_
        rintro e w9 ⟨rfl, hb9⟩
        have HB9 : Box (Below w.heap.size w w9) := ⟨below_trans' HW.out (bel_calls (bel_alloc HWc.out _) hb9)⟩
        clear hb9
        go_wp2_with fail
        go_ret2
        exact ⟨rfl, HB9.out⟩
end Go.Proofs.Ytoadelcdcfdmfaa
