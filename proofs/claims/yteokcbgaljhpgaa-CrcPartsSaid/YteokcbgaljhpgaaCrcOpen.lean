/- crc.Open. -/
import Derived.Test.YteokcbgaljhpgaaBitsOn
import Derived.Test.YteokcbgaljhpgaaOpenPure
import Derived.Test.YteokcbgaljhpgaaCrcOf
namespace Go.Proofs.Yteokcbgaljhpgaa
open Go.RowKit

theorem rowAt_touched {w w' : World} {k : Nat} {xs : List Value} {bs : List Nat} (h : RowAt w (some ⟨k, 0, none⟩) xs) (hT : Touched w w' bs) (hk : k < w.heap.size) (hn : k ∉ bs) : RowAt w' (some ⟨k, 0, none⟩) xs := by
  rcases h with h | ⟨ad, e, hc⟩
  · exact .inl h
  · refine .inr ⟨ad, e, fun j u hu => ?_⟩
    injection e with e
    subst e
    have := hc j u hu
    rw [add0] at this ⊢
    exact (hT.cell hk hn).trans this
set_option maxHeartbeats 1600000 in
theorem crcOpen_calls (b : ByteArray) (w : World) (hs : b.size ≤ 1000000000) : Calls Try.prog 24 #[.string b] w fun e w' => e = .returned (.tuple #[.string (openB b).1, .int .i64 (openB b).2]) ∧ Below w.heap.size w w' := by
  have y1 := IntWalk.i64_in ((b.size : Int) - 4) (by omega)
  by_cases h1 : b.size < 4
  · have e : Box (openB b = (ByteArray.empty, 5)) := ⟨by rw [openB, if_pos h1]⟩
    have y3 : (b.size : Int) - 4 < 0 := by omega
    go_enter Try.func24, Try.ntmps24
    go_wp2
    go_ret2
    exact ⟨by rw [e.out]; rfl, Below.refl _ _⟩
  have y2 : ((b.size : Int) - 4).toNat = b.size - 4 := by omega
  have y3 : (0 : Int) ≤ (b.size : Int) - 4 := by omega
  have y4 : (b.size : Int) - 4 ≤ (b.size : Int) := by omega
  have y5 : (4 : Int) ≤ (b.size : Int) := by omega
  have HI := fun c => open_iff b (by omega) c
  have hFs : (b.extract 0 (b.size - 4)).size ≤ 1000000000 := by rw [ByteArray.size_extract]; omega
  have hTs : (b.extract (b.size - 4) b.size).size = 4 := by rw [ByteArray.size_extract]; omega
  obtain ⟨F, hF⟩ : ∃ F, b.extract 0 (b.size - 4) = F := ⟨_, rfl⟩
  obtain ⟨T, hT⟩ : ∃ T, b.extract (b.size - 4) b.size = T := ⟨_, rfl⟩
  have HE : Box (openB b = if F ++ lowS (crcSum F.data.toList).toNat 4 = b then (F, 0) else (ByteArray.empty, 7)) := ⟨by rw [openB, if_neg h1, hF]⟩
  rw [hF] at HI hFs
  rw [hT] at HI hTs
  have HIb : Box _ := ⟨HI⟩
  have HTs := Lib.hid hTs
  clear HI hTs
  go_enter Try.func24, Try.ntmps24
  go_wp2_with fail
  go_region_law
    (first
      | (go_simp; go_at_call 69; (try rw [hT]); refine (on_calls T _).mono ?_; rintro e w2 ⟨rfl, hin, hb2⟩; have HIn : Box _ := ⟨hin⟩; have HB2 : Box _ := ⟨hb2⟩; clear hin hb2)
      | (go_simp; go_at_call 70; refine (inWord_calls _ T _ (by first | exact HIn.out | (have h := HIn.out; simp at h; exact h) | exact HIn.out.touched ((Touched.refl _ []).alloc _) (by simp)) HTs.out).mono ?_; rintro e w3 ⟨rfl, ht3⟩; have HT3 : Box _ := ⟨ht3⟩; clear ht3)
      | (go_simp; go_at_call 19; refine (crcOf_calls _ 1 1 [F] _ rfl (by omega) (by intro s hs; simp at hs; subst hs; omega) (by first | exact rowAt_alloc _ (scells [F]) _ | exact rowAt_touched (rowAt_alloc _ (scells [F]) _) HT3.out (by simp) (by have h := HIn.out.lt; simp at h ⊢; omega) | exact rowAt_touched ((show RowAt (w.alloc (.cells #[.string F] 9)).drew (some ⟨w.heap.size, 0, none⟩) (scells [F]) from rowAt_alloc w (scells [F]) _).below HB2.out) HT3.out (by have h := HB2.out.size; simp at h; omega) (by simp))).mono ?_; rintro e w4 ⟨rfl, hb4⟩; have HB4 : Box _ := ⟨hb4⟩; clear hb4))
  all_goals
    have hj : joinB [F] = F := by simp [joinB]
    rw [hj]
    have HBw : Box (Below w.heap.size w w4) := ⟨by
      have h := HB2.out.size
      have h2 := HT3.out.size
      simp at h
      have q0 : Below w.heap.size w w2 := by
        first
          | exact ⟨HB2.out.os, HB2.out.tape, HB2.out.output, by omega, fun k hk => HB2.out.block k (by simpa using hk)⟩
          | exact Below.trans ((Below.refl w.heap.size w).alloc (Nat.le_refl _) (.cells #[.string F] 9)) (show Below w.heap.size (w.alloc (.cells #[.string F] 9)) w2 from ⟨HB2.out.os, HB2.out.tape, HB2.out.output, HB2.out.size, fun k hk => HB2.out.block k (by simp; omega)⟩)
      have q1 : Below w.heap.size w w3 := by
        first
          | exact HT3.out.below q0 q0.size (by intro k hk; simp at hk; omega)
          | exact HT3.out.below (q0.alloc q0.size _) (by have := q0.size; simp; omega) (by intro k hk; simp at hk; omega)
      first
        | exact (q1.alloc q1.size _).trans (HB4.out.mono (by have := q1.size; simp; omega))
        | exact q1.trans (HB4.out.mono q1.size)⟩
    have hcc := w_lt (crcSum F.data.toList)
    have HIc := HIb.out (crcSum F.data.toList)
    obtain ⟨c, hc⟩ : ∃ c, crcSum F.data.toList = c := ⟨_, rfl⟩
    rw [hc] at HE HIc hcc ⊢
    have y9 := IntWalk.i64_in (c.toNat : Int) (by omega)
    clear hc hj
    by_cases hq : numL T.data.toList = c.toNat
    · have HR : Box (openB b = (F, 0)) := ⟨by rw [HE.out, if_pos (HIc.2 hq)]⟩
      rw [hq]
      go_wp2_with fail
      go_ret2
      exact ⟨by rw [HR.out]; rfl, HBw.out⟩
    · have HR : Box (openB b = (ByteArray.empty, 7)) := ⟨by rw [HE.out, if_neg (fun e => hq (HIc.1 e))]⟩
      have hqi : ¬ ((numL T.data.toList : Int) = (c.toNat : Int)) := by omega
      go_wp2_with fail
      go_ret2
      exact ⟨by rw [HR.out]; rfl, HBw.out⟩
end Go.Proofs.Yteokcbgaljhpgaa
