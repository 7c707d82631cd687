/- shatwo.mix. -/
import Derived.Test.YtiocealhadlggaaTwoKeys
namespace Go.Proofs.Ytiocealhadlggaa
open Go.RowKit
set_option linter.unusedVariables false

theorem words_calls' (s : ByteArray) (w : World) (hs : s.size = 64) : Calls Try.prog 49 #[.string s] w
    fun e w' => ∃ F : List Value, Box (F = wcells (twoWords s.data.toList 48)) ∧ e = .returned (.agg F.toArray) ∧ Below w.heap.size w w' :=
  (words_calls s w hs).mono fun _ _ ⟨he, hb⟩ => ⟨_, ⟨rfl⟩, he, hb⟩
theorem keys_calls' (w : World) : Calls Try.prog 50 #[] w
    fun e w' => ∃ F : List Value, Box (F = wcells twoKeys) ∧ e = .returned (.agg F.toArray) ∧ Below w.heap.size w w' :=
  (keys_calls w).mono fun _ _ ⟨he, hb⟩ => ⟨_, ⟨rfl⟩, he, hb⟩
theorem wlist_at {L : List (BitVec 32)} {k : Nat} (h : k < L.length) : (wcells L)[k]? = some (.int .u32 ((L.getD k 0).toNat : Int)) := by
  rw [wcells_at (List.getElem?_eq_getElem h), List.getD_eq_getElem?_getD, List.getElem?_eq_getElem h]; rfl
def eightV (h : Eight) : Value := .agg #[.int .u32 (h.a.toNat : Int), .int .u32 (h.b.toNat : Int), .int .u32 (h.c.toNat : Int), .int .u32 (h.d.toNat : Int), .int .u32 (h.e.toNat : Int), .int .u32 (h.f.toNat : Int), .int .u32 (h.g.toNat : Int), .int .u32 (h.i.toNat : Int)]

set_option maxHeartbeats 3200000 in
set_option maxRecDepth 100000 in
theorem twoMix_calls (h : Eight) (s : ByteArray) (w : World) (hs : s.size = 64) : Calls Try.prog 39 #[.agg #[.int .u32 (h.a.toNat : Int), .int .u32 (h.b.toNat : Int), .int .u32 (h.c.toNat : Int), .int .u32 (h.d.toNat : Int), .int .u32 (h.e.toNat : Int), .int .u32 (h.f.toNat : Int), .int .u32 (h.g.toNat : Int), .int .u32 (h.i.toNat : Int)], .string s] w
    fun e w' => ∃ y : Eight, Box (y = twoMix h s.data.toList) ∧ e = .returned (eightV y) ∧ Below w.heap.size w w' := by
  have HWd := Lib.hid (fun W => words_calls' s W hs)
  clear hs
  go_enter Try.func39, Try.ntmps39
  go_wp2_with fail
  refine Calls.mono (HWd.out _) ?_
  rintro e w1 ⟨F, HF, rfl, hb1⟩
  have HB0 := Lib.hid (((Below.refl w.heap.size w).alloc (Nat.le_refl _) (.cells #[.int .u32 (h.a.toNat : Int), .int .u32 (h.b.toNat : Int), .int .u32 (h.c.toNat : Int), .int .u32 (h.d.toNat : Int), .int .u32 (h.e.toNat : Int), .int .u32 (h.f.toNat : Int), .int .u32 (h.g.toNat : Int), .int .u32 (h.i.toNat : Int)] 89)).alloc (by simp) (.cells #[.int .u32 0, .int .u32 0, .int .u32 0, .int .u32 0, .int .u32 0, .int .u32 0, .int .u32 0, .int .u32 0] 89))
  have HB1 := Lib.hid (HB0.out.trans (hb1.mono HB0.out.size))
  have HH1 : Box (Own w1 w.heap.size 1 (.slice (some ⟨w.heap.size, 0, none⟩) 8 8) 8 (wcells h.cells)) := ⟨((Own.fresh w #[.int .u32 (h.a.toNat : Int), .int .u32 (h.b.toNat : Int), .int .u32 (h.c.toNat : Int), .int .u32 (h.d.toNat : Int), .int .u32 (h.e.toNat : Int), .int .u32 (h.f.toNat : Int), .int .u32 (h.g.toNat : Int), .int .u32 (h.i.toNat : Int)] 89 (by simp [maxLen])).alloc (.cells #[.int .u32 0, .int .u32 0, .int .u32 0, .int .u32 0, .int .u32 0, .int .u32 0, .int .u32 0, .int .u32 0] 89)).below hb1⟩
  have HR1 : Box (Own w1 w.heap.size 1 (.slice (some ⟨w.heap.size + 1, 0, none⟩) 8 8) 8 (List.replicate 8 (.int .u32 0))) := ⟨by
    have h1 := Own.fresh (w.alloc (.cells #[.int .u32 (h.a.toNat : Int), .int .u32 (h.b.toNat : Int), .int .u32 (h.c.toNat : Int), .int .u32 (h.d.toNat : Int), .int .u32 (h.e.toNat : Int), .int .u32 (h.f.toNat : Int), .int .u32 (h.g.toNat : Int), .int .u32 (h.i.toNat : Int)] 89)) #[.int .u32 0, .int .u32 0, .int .u32 0, .int .u32 0, .int .u32 0, .int .u32 0, .int .u32 0, .int .u32 0] 89 (by simp [maxLen])
    have h2 := (h1.weaken (base' := w.heap.size) (by simp)).below hb1
    simpa using h2⟩
  clear hb1
  go_wp2_with fail
  refine (keys_calls' _).mono ?_
  rintro e w2 ⟨K, HK, rfl, hb2⟩
  have HB2 := Lib.hid (below_trans' HB1.out hb2)
  have HH2 : Box _ := ⟨HH1.out.below hb2⟩
  have HR2 : Box _ := ⟨HR1.out.below hb2⟩
  clear hb2
  have hlF : F.length = 64 := by rw [HF.out, wcells_length, twoWords_length]
  have hlK : K.length = 64 := by rw [HK.out]; rfl
  have hoF : F.toArray.all (·.oneCell') = true := by rw [HF.out]; exact all_wcells _
  have hoK : K.toArray.all (·.oneCell') = true := by rw [HK.out]; exact all_wcells _
  have hsF : F.toArray.size = 64 := by rw [List.size_toArray, hlF]
  have hsK : K.toArray.size = 64 := by rw [List.size_toArray, hlK]
  obtain ⟨g5, hg5⟩ : ∃ g, w2.heap.size = g := ⟨_, rfl⟩
  have hwg : w.heap.size + 2 ≤ g5 := by have := HB1.out.size; have := HB2.out.size; have := HR2.out.lt (w.heap.size + 1) rfl; omega
  have h5 : Own ((w2.alloc (.cells (fw (fun _ => 0) 64).toArray 105)).alloc (.cells (fw (fun _ => 0) 64).toArray 105)) w.heap.size 1 (.slice (some ⟨g5, 0, none⟩) 64 64) 64 (fw (fun _ => 0) 64) := by
    have h1 := ((Own.fresh w2 (fw (fun _ => 0) 64).toArray 105 (by simp [fw_length, maxLen])).weaken (base' := w.heap.size) (by omega)).alloc (.cells (fw (fun _ => 0) 64).toArray 105)
    rw [hg5] at h1
    simpa [fw_length] using h1
  have h6 : Own ((w2.alloc (.cells (fw (fun _ => 0) 64).toArray 105)).alloc (.cells (fw (fun _ => 0) 64).toArray 105)) w.heap.size 1 (.slice (some ⟨g5 + 1, 0, none⟩) 64 64) 64 (fw (fun _ => 0) 64) := by
    have h1 := ((Own.fresh (w2.alloc (.cells (fw (fun _ => 0) 64).toArray 105)) (fw (fun _ => 0) 64).toArray 105 (by simp [fw_length, maxLen])).weaken (base' := w.heap.size) (by simp; omega))
    have e : (w2.alloc (.cells (fw (fun _ => 0) 64).toArray 105)).heap.size = g5 + 1 := by simp [hg5]
    rw [e] at h1
    simpa [fw_length] using h1
  obtain ⟨W3, hW3⟩ : ∃ W, (w2.alloc (.cells (fw (fun _ => 0) 64).toArray 105)).alloc (.cells (fw (fun _ => 0) 64).toArray 105) = W := ⟨_, rfl⟩
  have HB3 : Hid (Below w.heap.size w W3) := by rw [← hW3]; exact (HB2.out.alloc HB2.out.size _).alloc (by have := HB2.out.size; simp; omega) _
  have HH3 : Box (Own W3 _ _ _ _ _) := ⟨by rw [← hW3]; exact (HH2.out.alloc _).alloc _⟩
  have HR3 : Box (Own W3 _ _ _ _ _) := ⟨by rw [← hW3]; exact (HR2.out.alloc _).alloc _⟩
  rw [hW3] at h5 h6
  have k5 := h5.all F hlF
  have p5 := grownBy_setCells g5 F 0 W3
  have k6 := h6.kept p5 (.inr (by simp [Value.ownBlock]))
  have k6' := k6.all K hlK
  have p6 := grownBy_setCells (g5 + 1) K 0 (W3.setCells g5 0 F)
  have HT5 : Box (W3.there g5 0 F.toArray.size) := ⟨by rw [hsF]; exact h5.there0⟩
  have HT6 : Box ((W3.setCells g5 0 F).there (g5 + 1) 0 K.toArray.size) := ⟨by rw [hsK]; exact k6.there0⟩
  have H5 : Box (Own ((W3.setCells g5 0 F).setCells (g5 + 1) 0 K) _ _ _ _ _) := ⟨k5.kept p6 (.inr (by simp [Value.ownBlock]))⟩
  have H6 : Box _ := ⟨k6'⟩
  have HH5 : Box (Own ((W3.setCells g5 0 F).setCells (g5 + 1) 0 K) _ _ _ _ _) := ⟨(HH3.out.kept p5 (.inr (by simp [Value.ownBlock]; omega))).kept p6 (.inr (by simp [Value.ownBlock]; omega))⟩
  have HR5 : Box (Own ((W3.setCells g5 0 F).setCells (g5 + 1) 0 K) _ _ _ _ _) := ⟨(HR3.out.kept p5 (.inr (by simp [Value.ownBlock]; omega))).kept p6 (.inr (by simp [Value.ownBlock]; omega))⟩
  have HB5 : Hid (Below w.heap.size w ((W3.setCells g5 0 F).setCells (g5 + 1) 0 K)) := (HB3.out.grown p5 HB3.out.size (by simp; omega)).grown p6 (by have := p5.size; have := HB3.out.size; omega) (by simp; omega)
  have HI5 : Box ((Try.prog.info? 105).map (·.size) = some F.toArray.size) := ⟨by rw [hsF]; kernel_rfl⟩
  have HI6 : Box ((Try.prog.info? 105).map (·.size) = some K.toArray.size) := ⟨by rw [hsK]; kernel_rfl⟩
  have HoF : Box _ := ⟨hoF⟩
  have HoK : Box _ := ⟨hoK⟩
  have HG5 : Box _ := ⟨hg5⟩
  have HW3 : Box _ := ⟨hW3⟩
  clear hlF hlK hoF hoK hsF hsK h5 h6 k5 p5 k6 k6' p6 hg5 hW3
  go_wp2_with (first
    | (refine wpList_store_mid rfl 105 _ _ rfl w2.heap.size 0 F.toArray rfl rfl (by have := HT5.out; rw [← HG5.out, ← HW3.out] at this; exact this) HI5.out HoF.out ?_)
    | (refine wpList_store_mid rfl 105 _ _ rfl (w2.heap.size + 1) 0 K.toArray rfl rfl (by have := HT6.out; rw [← HG5.out, ← HW3.out] at this; exact this) HI6.out HoK.out ?_))
  change Code.wp _ _ _ _ (World.setCells (World.setCells ((w2.alloc (.cells (fw (fun _ => 0) 64).toArray 105)).alloc (.cells (fw (fun _ => 0) 64).toArray 105)) w2.heap.size 0 F) (w2.heap.size + 1) 0 K)
  rw [HW3.out, HG5.out]
  obtain ⟨W5, hW5⟩ : ∃ W, ((W3.setCells g5 0 F).setCells (g5 + 1) 0 K) = W := ⟨_, rfl⟩
  rw [hW5] at H5 H6 HH5 HR5 HB5 ⊢
  rw [HF.out] at H5
  rw [HK.out] at H6
  clear hW5
  obtain ⟨c0, _⟩ := HH5.out.cell (j := 0) (u := .int .u32 (h.a.toNat : Int)) rfl
  obtain ⟨c1, _⟩ := HH5.out.cell (j := 1) (u := .int .u32 (h.b.toNat : Int)) rfl
  obtain ⟨c2, _⟩ := HH5.out.cell (j := 2) (u := .int .u32 (h.c.toNat : Int)) rfl
  obtain ⟨c3, _⟩ := HH5.out.cell (j := 3) (u := .int .u32 (h.d.toNat : Int)) rfl
  obtain ⟨c4, _⟩ := HH5.out.cell (j := 4) (u := .int .u32 (h.e.toNat : Int)) rfl
  obtain ⟨c5, _⟩ := HH5.out.cell (j := 5) (u := .int .u32 (h.f.toNat : Int)) rfl
  obtain ⟨c6, _⟩ := HH5.out.cell (j := 6) (u := .int .u32 (h.g.toNat : Int)) rfl
  obtain ⟨c7, _⟩ := HH5.out.cell (j := 7) (u := .int .u32 (h.i.toNat : Int)) rfl
  have HM0 : Box (Own W5 w.heap.size 1 (.slice (some ⟨w.heap.size, 0, none⟩) 8 8) 8 (wcells h.cells) ∧ Own W5 w.heap.size 1 (.slice (some ⟨w.heap.size + 1, 0, none⟩) 8 8) 8 (List.replicate 8 (.int .u32 0)) ∧ Own W5 w.heap.size 1 (.slice (some ⟨g5, 0, none⟩) 64 64) 64 (wcells (twoWords s.data.toList 48)) ∧ Own W5 w.heap.size 1 (.slice (some ⟨g5 + 1, 0, none⟩) 64 64) 64 (wcells twoKeys) ∧ Below w.heap.size w W5) := ⟨HH5.out, HR5.out, H5.out, H6.out, HB5.out⟩
  go_simp
  clear H5 H6 HH5 HR5 HB5 HT5 HT6 HI5 HI6 HoF HoK HH3 HR3 HB3
  go_wp2_with fail
  go_big_quiet (fail)
  go_wp2_with fail
  go_loopw [7, 8, 9, 10, 11, 12, 13, 14, 37] (fun va vb vc vd ve vf vg vi i wr => ∃ (k : Nat) (x : Eight), k ≤ 64 ∧ i = .int .i64 (k : Int) ∧ va = .int .u32 (x.a.toNat : Int) ∧ vb = .int .u32 (x.b.toNat : Int) ∧ vc = .int .u32 (x.c.toNat : Int) ∧ vd = .int .u32 (x.d.toNat : Int) ∧ ve = .int .u32 (x.e.toNat : Int) ∧ vf = .int .u32 (x.f.toNat : Int) ∧ vg = .int .u32 (x.g.toNat : Int) ∧ vi = .int .u32 (x.i.toNat : Int) ∧ Box (x = twoRounds (twoWords s.data.toList 48) h k) ∧ Box (Own wr w.heap.size 1 (.slice (some ⟨w.heap.size, 0, none⟩) 8 8) 8 (wcells h.cells) ∧ Own wr w.heap.size 1 (.slice (some ⟨w.heap.size + 1, 0, none⟩) 8 8) 8 (List.replicate 8 (.int .u32 0)) ∧ Own wr w.heap.size 1 (.slice (some ⟨g5, 0, none⟩) 64 64) 64 (wcells (twoWords s.data.toList 48)) ∧ Own wr w.heap.size 1 (.slice (some ⟨g5 + 1, 0, none⟩) 64 64) 64 (wcells twoKeys) ∧ Below w.heap.size w wr)) (fun _ _ _ _ _ _ _ _ i _ => 64 - (intOf i).toNat)
  case atStart => exact ⟨0, h, by omega, rfl, rfl, rfl, rfl, rfl, rfl, rfl, rfl, rfl, ⟨rfl⟩, ⟨⟨HM0.out.1.drewN _, HM0.out.2.1.drewN _, HM0.out.2.2.1.drewN _, HM0.out.2.2.2.1.drewN _, below_drewN HM0.out.2.2.2.2 _⟩⟩⟩
  case round =>
    obtain ⟨k, x, hk, rfl, rfl, rfl, rfl, rfl, rfl, rfl, rfl, rfl, HX, HM⟩ := hrel
    clear c0 c1 c2 c3 c4 c5 c6 c7
    by_cases hlt : k < 64
    · obtain ⟨p, hp⟩ : ∃ p, (twoWords s.data.toList 48).getD k 0 = p := ⟨_, rfl⟩
      obtain ⟨q, hq⟩ : ∃ q, twoKeys.getD k 0 = q := ⟨_, rfl⟩
      have m1 := wlist_at (L := twoWords s.data.toList 48) (k := k) (by rw [twoWords_length]; omega)
      have m2 := wlist_at (L := twoKeys) (k := k) hlt
      rw [hp] at m1
      rw [hq] at m2
      obtain ⟨c5, _⟩ := HM.out.2.2.1.cell m1
      obtain ⟨c6, _⟩ := HM.out.2.2.2.1.cell m2
      have HE : Box (twoRounds (twoWords s.data.toList 48) h (k + 1) = twoStep q p x) := ⟨by rw [twoRounds, hp, hq, HX.out]⟩
      clear hp hq m1 m2
      have b9 : (0 : Int) ≤ (k : Int) := by omega
      have b10 : (k : Int) < 64 := by omega
      go_wp2_with fail
      go_quiet ((first
        | (go_at_call_of 51 (Value.int .i64 6); exact quiet_same (right6 _ _))
        | (go_at_call_of 51 (Value.int .i64 11); exact quiet_same (right11 _ _))
        | (go_at_call_of 51 (Value.int .i64 25); exact quiet_same (right25 _ _))))
      go_wp2_with (first
        | (go_at_call_of 51 (Value.int .i64 2); refine (right2 _ _).mono ?_; rintro e w' ⟨rfl, rfl⟩)
        | (go_at_call_of 51 (Value.int .i64 13); refine (right13 _ _).mono ?_; rintro e w' ⟨rfl, rfl⟩)
        | (go_at_call_of 51 (Value.int .i64 22); refine (right22 _ _).mono ?_; rintro e w' ⟨rfl, rfl⟩))
      go_roundw
      case rel =>
        have hmax : (if IntKind.u32.signed = true then (-1 : Int) else IntKind.u32.max) = IntKind.u32.max := rfl
        exact ⟨k + 1, twoStep q p x, by omega, by go_num, val_int (by simp only [hmax, w_xor, w_and, w_not', t_add5, t_add]; rfl), rfl, rfl, rfl, val_int (by simp only [hmax, w_xor, w_and, w_not', t_add5, t_add]; rfl), rfl, rfl, rfl, ⟨HE.out.symm⟩, ⟨⟨HM.out.1.drewN _, HM.out.2.1.drewN _, HM.out.2.2.1.drewN _, HM.out.2.2.2.1.drewN _, below_drewN HM.out.2.2.2.2 _⟩⟩⟩
      case measure => simp [intOf]; omega
    · obtain rfl : k = 64 := by omega
      obtain ⟨c0, _⟩ := HM.out.1.cell (j := 0) (u := .int .u32 (h.a.toNat : Int)) rfl
      obtain ⟨d0, f0⟩ := HM.out.2.1.cell (j := 0) (u := .int .u32 0) rfl
      obtain ⟨c1, _⟩ := HM.out.1.cell (j := 1) (u := .int .u32 (h.b.toNat : Int)) rfl
      obtain ⟨d1, f1⟩ := HM.out.2.1.cell (j := 1) (u := .int .u32 0) rfl
      obtain ⟨c2, _⟩ := HM.out.1.cell (j := 2) (u := .int .u32 (h.c.toNat : Int)) rfl
      obtain ⟨d2, f2⟩ := HM.out.2.1.cell (j := 2) (u := .int .u32 0) rfl
      obtain ⟨c3, _⟩ := HM.out.1.cell (j := 3) (u := .int .u32 (h.d.toNat : Int)) rfl
      obtain ⟨d3, f3⟩ := HM.out.2.1.cell (j := 3) (u := .int .u32 0) rfl
      obtain ⟨c4, _⟩ := HM.out.1.cell (j := 4) (u := .int .u32 (h.e.toNat : Int)) rfl
      obtain ⟨d4, f4⟩ := HM.out.2.1.cell (j := 4) (u := .int .u32 0) rfl
      obtain ⟨c5, _⟩ := HM.out.1.cell (j := 5) (u := .int .u32 (h.f.toNat : Int)) rfl
      obtain ⟨d5, f5⟩ := HM.out.2.1.cell (j := 5) (u := .int .u32 0) rfl
      obtain ⟨c6, _⟩ := HM.out.1.cell (j := 6) (u := .int .u32 (h.g.toNat : Int)) rfl
      obtain ⟨d6, f6⟩ := HM.out.2.1.cell (j := 6) (u := .int .u32 0) rfl
      obtain ⟨c7, _⟩ := HM.out.1.cell (j := 7) (u := .int .u32 (h.i.toNat : Int)) rfl
      obtain ⟨d7, f7⟩ := HM.out.2.1.cell (j := 7) (u := .int .u32 0) rfl
      go_wp2
      rw [t_add h.a x.a, t_add h.b x.b, t_add h.c x.c, t_add h.d x.d, t_add h.e x.e, t_add h.f x.f, t_add h.g x.g, t_add h.i x.i]
      have q1 := HM.out.2.1.set 0 (by simp) (.int .u32 ((h.a + x.a).toNat : Int))
      have q2 := q1.1.set 1 (by simp) (.int .u32 ((h.b + x.b).toNat : Int))
      have q3 := q2.1.set 2 (by simp) (.int .u32 ((h.c + x.c).toNat : Int))
      have q4 := q3.1.set 3 (by simp) (.int .u32 ((h.d + x.d).toNat : Int))
      have q5 := q4.1.set 4 (by simp) (.int .u32 ((h.e + x.e).toNat : Int))
      have q6 := q5.1.set 5 (by simp) (.int .u32 ((h.f + x.f).toNat : Int))
      have q7 := q6.1.set 6 (by simp) (.int .u32 ((h.g + x.g).toNat : Int))
      have q8 := q7.1.set 7 (by simp) (.int .u32 ((h.i + x.i).toNat : Int))
      have HB : Box _ := ⟨((((((((HM.out.2.2.2.2.setCell (p := ⟨w.heap.size + 1, 0, none⟩) (by simp) (.int .u32 ((h.a + x.a).toNat : Int))).setCell (p := ⟨w.heap.size + 1, 1, none⟩) (by simp) (.int .u32 ((h.b + x.b).toNat : Int))).setCell (p := ⟨w.heap.size + 1, 2, none⟩) (by simp) (.int .u32 ((h.c + x.c).toNat : Int))).setCell (p := ⟨w.heap.size + 1, 3, none⟩) (by simp) (.int .u32 ((h.d + x.d).toNat : Int))).setCell (p := ⟨w.heap.size + 1, 4, none⟩) (by simp) (.int .u32 ((h.e + x.e).toNat : Int))).setCell (p := ⟨w.heap.size + 1, 5, none⟩) (by simp) (.int .u32 ((h.f + x.f).toNat : Int))).setCell (p := ⟨w.heap.size + 1, 6, none⟩) (by simp) (.int .u32 ((h.g + x.g).toNat : Int))).setCell (p := ⟨w.heap.size + 1, 7, none⟩) (by simp) (.int .u32 ((h.i + x.i).toNat : Int)))⟩
      refine bodyPost_ret (results_cell_mid rfl _ _ (w.heap.size + 1) (wcells (h.add x).cells) _ rfl (fun j v hv => ?_) Try.underlying89 rfl (by kernel_rfl)) rfl ?_
      · rw [Nat.zero_add]
        exact (q8.1.cell hv).1
      · exact ⟨h.add x, ⟨by rw [twoMix, HX.out]⟩, rfl, HB.out⟩
end Go.Proofs.Ytiocealhadlggaa
