/- Words and contracts that this claim leans on, one text behind the other. -/
import Derived.Test.YtbkankpfkbafdaaDoorMarkLay
import Derived.Test.YtbkankpfkbafdaaDoorBundle7
import Derived.RegionTactic
/- mark.Read: bytes as a fingerprint. -/
namespace Go.Proofs.YtbkankpfkbafdaaDoor
open Go.RowKit
set_option linter.unusedVariables false

def readL : List UInt8 → Int × ByteArray × Int
  | x :: r => if r.length = 32 then (if 0 < sizeM x.toNat ∧ (r.drop (sizeM x.toNat).toNat).all (· == 0) = true then ((x.toNat : Int), ⟨(r.take (sizeM x.toNat).toNat).toArray⟩, 0) else (0, ByteArray.empty, 6)) else (0, ByteArray.empty, 5)
  | [] => (0, ByteArray.empty, 5)
def readM (b : ByteArray) : Int × ByteArray × Int := readL b.data.toList
theorem readM_short {b : ByteArray} (h : b.size ≠ 33) : readM b = (0, ByteArray.empty, 5) := by
  have hl := data_length b
  rw [readM]
  match hh : b.data.toList with
  | [] => rfl
  | x :: r =>
    rw [hh] at hl
    simp at hl
    rw [readL, if_neg (by omega)]
theorem read_parts {b : ByteArray} (h : b.size = 33) : ∃ (x : UInt8) (r : List UInt8), b = ⟨(x :: r).toArray⟩ ∧ r.length = 32 := by
  have hl := data_length b
  match hh : b.data.toList with
  | [] => rw [hh] at hl; simp at hl; omega
  | x :: r =>
    rw [hh] at hl
    simp at hl
    exact ⟨x, r, by rw [← hh, mk_data], by omega⟩
theorem sizeM_le (k : Int) : 0 ≤ sizeM k ∧ sizeM k ≤ 32 := by rcases sizeM_vals k with ⟨_, h⟩ | ⟨_, h⟩ | ⟨_, _, h⟩ <;> omega
/-- What the reader meets in 33 bytes. -/
theorem read_walk (x : UInt8) (r : List UInt8) (hr : r.length = 32) :
    ∃ t u v : ByteArray, lowI 0 ⟨(x :: r).toArray⟩ 1 = ((x.toNat : Int), 0, t) ∧ rawI 0 t (sizeM x.toNat) = (u, 0, v) ∧ t.size ≤ 33 ∧ v.size ≤ 33 ∧
      ((validM x.toNat u = true ∧ restI 0 v = true ∧ readM ⟨(x :: r).toArray⟩ = ((x.toNat : Int), u, 0)) ∨ (validM x.toNat u = true ∧ restI 0 v = false ∧ readM ⟨(x :: r).toArray⟩ = (0, ByteArray.empty, 6)) ∨ (validM x.toNat u = false ∧ readM ⟨(x :: r).toArray⟩ = (0, ByteArray.empty, 6))) := by
  have hx := x.toNat_lt
  have e1 := lowI_ok x.toNat 1 r (by omega) (by omega)
  have e0 : lowL x.toNat 1 ++ r = x :: r := by simp [lowL]
  rw [e0] at e1
  have hn := sizeM_le (x.toNat : Int)
  obtain ⟨n, hnn⟩ : ∃ n : Nat, sizeM (x.toNat : Int) = (n : Int) := ⟨(sizeM (x.toNat : Int)).toNat, by omega⟩
  have e2 := rawI_ok (r.take n) (r.drop n) n (by rw [List.length_take]; omega)
  rw [List.take_append_drop] at e2
  have hM : readM ⟨(x :: r).toArray⟩ = if 0 < sizeM x.toNat ∧ (r.drop n).all (· == 0) = true then ((x.toNat : Int), ⟨(r.take n).toArray⟩, 0) else (0, ByteArray.empty, 6) := by
    rw [readM, mkS_toList, readL, if_pos hr, hnn, Int.toNat_natCast]
  have hz : restI 0 ⟨(r.drop n).toArray⟩ = (r.drop n).all (· == 0) := by rw [restI, zeroB, mkS_toList]; rfl
  have hv : validM x.toNat ⟨(r.take n).toArray⟩ = decide (0 < sizeM (x.toNat : Int)) := by
    rw [validM, hnn, mk_size, List.length_take, show min n r.length = n by omega]; simp
  refine ⟨_, _, _, e1, by rw [hnn]; exact e2, by rw [mk_size]; omega, by rw [mk_size, List.length_drop]; omega, ?_⟩
  rw [hz, hM, hv]
  by_cases h1 : 0 < sizeM (x.toNat : Int)
  · cases h2 : (r.drop n).all (· == 0)
    · exact .inr (.inl ⟨decide_eq_true h1, rfl, if_neg (fun h => by cases h.2)⟩)
    · exact .inl ⟨decide_eq_true h1, rfl, if_pos ⟨h1, rfl⟩⟩
  · exact .inr (.inr ⟨decide_eq_false h1, if_neg (fun h => h1 h.1)⟩)
set_option maxHeartbeats 3200000 in
set_option maxRecDepth 100000 in
theorem read_calls (b : ByteArray) (w : World) (hb : b.size ≤ 1000000) : Calls Tryd.prog 9 #[.string b] w fun e w' => e = .returned (.tuple #[.agg #[.int .i64 (readM b).1, .string (readM b).2.1], .int .i64 (readM b).2.2]) ∧ Below w.heap.size w w' := by
  have HP : Box _ := ⟨PrintAt.new w 0 ⟨#[]⟩⟩
  have HB0 : Box _ := ⟨bel_alloc (Below.refl w.heap.size w) (.cells #[.int .i64 0, .string ⟨#[]⟩] 24)⟩
  by_cases h33 : b.size = 33
  case neg =>
    rw [readM_short h33]
    have e1 : ((b.size : Int) != 33) = true := by simp; omega
    clear h33
    go_enter Tryd.func9, Tryd.ntmps9
    go_wp2_with fail
    refine bodyPost_ret (results_cell_tmp rfl _ _ w.heap.size [.int .i64 0, .string ⟨#[]⟩] _ rfl (range_two HP.out.c0 HP.out.c1) Tryd.underlying24 rfl (by kernel_rfl)) rfl ?_
    exact ⟨rfl, HB0.out⟩
  obtain ⟨x, r, rfl, hr⟩ := read_parts h33
  have e1 : (((⟨(x :: r).toArray⟩ : ByteArray).size : Int) != 33) = false := by rw [h33]; rfl
  obtain ⟨t, u, v, f1, f2, z1, z2, hc⟩ := read_walk x r hr
  obtain ⟨B, hB⟩ : ∃ B : ByteArray, ⟨(x :: r).toArray⟩ = B := ⟨_, rfl⟩
  rw [hB] at f1 hc hb e1 ⊢
  obtain ⟨k, hk⟩ : ∃ k : Int, (x.toNat : Int) = k := ⟨_, rfl⟩
  rw [hk] at f1 f2 hc
  obtain ⟨n, hn⟩ : ∃ n, sizeM k = n := ⟨_, rfl⟩
  have HN : Box _ := ⟨size_calls k⟩
  rw [hn] at HN f2
  have HF1 : Box _ := ⟨f1⟩
  have HF2 : Box _ := ⟨f2⟩
  have HC : Box _ := ⟨hc⟩
  have HZ : Box (B.size ≤ 1000000 ∧ t.size ≤ 33 ∧ v.size ≤ 33) := ⟨hb, z1, z2⟩
  have HV : Box _ := ⟨valid_calls k u⟩
  clear h33 hr f1 f2 hc hb z1 z2 hB hk hn
  obtain ⟨⟨rk, rs, re⟩, hM⟩ : ∃ m, readM B = m := ⟨_, rfl⟩
  rw [hM] at HC ⊢
  clear hM
  go_enter Tryd.func9, Tryd.ntmps9
  go_wp2_with fail
  refine (on_calls B _).mono ?_
  rintro e w1 ⟨rfl, h1, hb1⟩
  have hz : (w.alloc (.cells #[.int .i64 0, .string ⟨#[]⟩] 24)).heap.size = w.heap.size + 1 := by simp
  rw [hz] at h1 ⊢
  clear hz
  have HP1 : Box _ := ⟨HP.out.below hb1⟩
  have HB1 : Box _ := ⟨bel_calls HB0.out hb1⟩
  have I1 : Box _ := ⟨inByte_calls _ 0 B w1 h1 (by have := HZ.out; omega)⟩
  rw [HF1.out] at I1
  clear h1 hb1
  go_wp2_with fail
  refine I1.out.mono ?_
  rintro e w2 ⟨rfl, h2, hT2⟩
  have HP2 : Box _ := ⟨HP1.out.touched hT2 (by simp)⟩
  have HB2 : Box (Below w.heap.size w w2) := ⟨hT2.below HB1.out HB1.out.size (by simp)⟩
  have HP5 : Box _ := ⟨PrintAt.new w2 k ⟨#[]⟩⟩
  have hbb : Below w2.heap.size w2 (w2.alloc (.cells #[.int .i64 k, .string ⟨#[]⟩] 24)) := bel_alloc (Below.refl _ _) _
  have HP3 : Box _ := ⟨HP2.out.below hbb⟩
  have HI3 : Box _ := ⟨h2.below hbb⟩
  have HB3 : Box _ := ⟨bel_calls HB2.out hbb⟩
  obtain ⟨g5, hg5⟩ : ∃ g5, w2.heap.size = g5 := ⟨_, rfl⟩
  have HL : Box (w.heap.size + 1 < g5) := ⟨by rw [← hg5]; exact h2.lt⟩
  clear h2 hT2 hbb
  have HW3 : Box (PrintAt (w2.alloc (.cells #[.int .i64 k, .string ⟨#[]⟩] 24)) g5 k ⟨#[]⟩) := ⟨by rw [← hg5]; exact HP5.out⟩
  clear HP5
  have I3 : Box _ := ⟨inRaw_calls _ n 0 t _ HI3.out (by have := HZ.out; omega)⟩
  rw [HF2.out] at I3
  go_wp2_with fail
  refine (HN.out _).mono ?_
  rintro e w3 ⟨rfl, rfl⟩
  go_wp2_with fail
  refine I3.out.mono ?_
  rintro e w4 ⟨rfl, h4, hT4⟩
  have HP4 : Box _ := ⟨HP3.out.touched hT4 (by simp)⟩
  have HW4 : Box _ := ⟨HW3.out.touched hT4 (by have := HL.out; simp; omega)⟩
  have HB4 : Box (Below w.heap.size w w4) := ⟨hT4.below HB3.out HB3.out.size (by simp)⟩
  have HI4 : Box _ := ⟨h4⟩
  clear h4 hT4
  have c1 := HW4.out.c1
  have f1 := HW4.out.f1
  have hT : Touched w4 (w4.setCell ⟨g5, 1, none⟩ (.string u)) [g5] := (Touched.refl _ _).setCell (.inl (by simp)) _
  have HP6 : Box _ := ⟨HP4.out.touched hT (by have := HL.out; simp; omega)⟩
  have HI6 : Box _ := ⟨HI4.out.touched hT (by have := HL.out; simp; omega)⟩
  have HB6 : Box (Below w.heap.size w (w4.setCell ⟨g5, 1, none⟩ (.string u))) := ⟨hT.below HB4.out HB4.out.size (by have := HL.out; simp; omega)⟩
  have HW6 : Box _ := ⟨HW4.out.setSum u⟩
  clear hT
  obtain ⟨w6, hw6⟩ : ∃ w6, w4.setCell ⟨g5, 1, none⟩ (.string u) = w6 := ⟨_, rfl⟩
  rw [hw6] at HP6 HI6 HB6 HW6
  have d0 := HW6.out.c0
  have d1 := HW6.out.c1
  go_wp2_with fail
  rcases HC.out with ⟨v1, v2, hm⟩ | ⟨v1, v2, hm⟩ | ⟨v1, hm⟩
  · injection hm with hm1 hm
    injection hm with hm2 hm3
    subst hm1 hm2 hm3
    rw [v1] at HV
    refine (HV.out _).mono ?_
    rintro e w7 ⟨rfl, hb7⟩
    have HP7 : Box _ := ⟨HP6.out.below hb7⟩
    have HW7 : Box _ := ⟨HW6.out.below hb7⟩
    have HB7 : Box _ := ⟨bel_calls HB6.out hb7⟩
    have R7 : Box _ := ⟨inRest_calls _ 0 v w7 (HI6.out.below hb7) (by have := HZ.out; omega)⟩
    rw [v2] at R7
    clear hb7 v1 v2
    go_wp2_with fail
    refine R7.out.mono ?_
    rintro e w8 ⟨rfl, hb8⟩
    have HP8 : Box _ := ⟨HP7.out.below hb8⟩
    have HW8 : Box _ := ⟨HW7.out.below hb8⟩
    have HB8 : Box _ := ⟨bel_calls HB7.out hb8⟩
    clear hb8
    have c0 := HP8.out.c0
    have c1 := HP8.out.c1
    have f0 := HP8.out.f0
    have f1 := HP8.out.f1
    have d0 := HW8.out.c0
    have d1 := HW8.out.c1
    go_wp2_with fail
    have HQ := HP8.out.set rk rs
    refine bodyPost_ret (results_cell_tmp rfl _ _ w.heap.size [.int .i64 rk, .string rs] _ rfl (range_two HQ.c0 HQ.c1) Tryd.underlying24 rfl (by kernel_rfl)) rfl ?_
    exact ⟨rfl, (HB8.out.setCell (by simp) _).setCell (by simp) _⟩
  · injection hm with hm1 hm
    injection hm with hm2 hm3
    subst hm1 hm2 hm3
    rw [v1] at HV
    refine (HV.out _).mono ?_
    rintro e w7 ⟨rfl, hb7⟩
    have HP7 : Box _ := ⟨HP6.out.below hb7⟩
    have HB7 : Box _ := ⟨bel_calls HB6.out hb7⟩
    have R7 : Box _ := ⟨inRest_calls _ 0 v w7 (HI6.out.below hb7) (by have := HZ.out; omega)⟩
    rw [v2] at R7
    clear hb7 v1 v2
    go_wp2_with fail
    refine R7.out.mono ?_
    rintro e w8 ⟨rfl, hb8⟩
    have HP8 : Box _ := ⟨HP7.out.below hb8⟩
    have HB8 : Box _ := ⟨bel_calls HB7.out hb8⟩
    clear hb8
    have c0 := HP8.out.c0
    have c1 := HP8.out.c1
    have f0 := HP8.out.f0
    have f1 := HP8.out.f1
    go_wp2_with fail
    have HQ := HP8.out.set 0 ⟨#[]⟩
    refine bodyPost_ret (results_cell_tmp rfl _ _ w.heap.size [.int .i64 0, .string ⟨#[]⟩] _ rfl (range_two HQ.c0 HQ.c1) Tryd.underlying24 rfl (by kernel_rfl)) rfl ?_
    exact ⟨rfl, (HB8.out.setCell (by simp) _).setCell (by simp) _⟩
  · injection hm with hm1 hm
    injection hm with hm2 hm3
    subst hm1 hm2 hm3
    rw [v1] at HV
    refine (HV.out _).mono ?_
    rintro e w7 ⟨rfl, hb7⟩
    have HP7 : Box _ := ⟨HP6.out.below hb7⟩
    have HB7 : Box _ := ⟨bel_calls HB6.out hb7⟩
    clear hb7 v1
    have c0 := HP7.out.c0
    have c1 := HP7.out.c1
    have f0 := HP7.out.f0
    have f1 := HP7.out.f1
    go_wp2_with fail
    have HQ := HP7.out.set 0 ⟨#[]⟩
    refine bodyPost_ret (results_cell_tmp rfl _ _ w.heap.size [.int .i64 0, .string ⟨#[]⟩] _ rfl (range_two HQ.c0 HQ.c1) Tryd.underlying24 rfl (by kernel_rfl)) rfl ?_
    exact ⟨rfl, (HB7.out.setCell (by simp) _).setCell (by simp) _⟩
end Go.Proofs.YtbkankpfkbafdaaDoor

/- The document's Low (as in SealRef, beside the bits' own texts). -/
namespace Go.Proofs.YtbkankpfkbafdaaDoor
open Go.RowKit
set_option linter.unusedVariables false

def lowS (v n : Nat) : ByteArray := ⟨(lowL v n).toArray⟩
theorem lowS_size (v n : Nat) : (lowS v n).size = n := by simp [lowS, ByteArray.size, lowL_length]

set_option maxHeartbeats 800000 in
set_option maxRecDepth 10000 in
theorem refLow_calls (v n : Nat) (w : World) (hn : n ≤ 8) (hv : v < 18446744073709551616) : Calls Tryd.prog 44 #[.int .u64 (v : Int), .int .i64 (n : Int)] w fun e w' => e = .returned (.string (lowS v n)) ∧ Below w.heap.size w w' := by
  go_enter Tryd.func44, Tryd.ntmps44
  go_wp2
  go_loopw [0, 5, 6] (fun u x i wr => ∃ k y : Nat, k ≤ n ∧ y < 18446744073709551616 ∧ u = .int .u64 (y : Int) ∧ i = .int .i64 (k : Int) ∧ Hid (y = v / 256 ^ k) ∧ Hid (Own wr w.heap.size 1 x k (bcells ((lowL v n).take k))) ∧ Hid (Below w.heap.size w wr)) (fun _ _ i _ => n - (intOf i).toNat)
  case atStart => exact ⟨0, v, by omega, hv, rfl, rfl, by simp [Hid], by rw [Hid]; simpa [bcells] using Own.nil _ _ _, Below.refl _ _⟩
  case round =>
    obtain ⟨k, y, hk, hy, rfl, rfl, HY, HN, HW⟩ := hrel
    by_cases hlt : k < n
    · obtain ⟨b, hb⟩ : ∃ b, UInt8.ofNat y = b := ⟨_, rfl⟩
      obtain ⟨z, hz⟩ : ∃ z, y / 256 = z := ⟨_, rfl⟩
      have HX : Hid ((lowL v n).take (k + 1) = (lowL v n).take k ++ [b]) := by rw [Hid, ← hb, HY.out]; exact take_snoc_of (lowL_at v n k hlt)
      have HQ : Hid (z = v / 256 ^ (k + 1)) := by rw [Hid, ← hz, HY.out, Nat.div_div_eq_div_mul, Nat.pow_succ]
      have HV : (y : Int) % 256 = (b.toNat : Int) := by rw [← hb]; simp
      have HD : (y : Int) / 256 = (z : Int) := by omega
      have hzl : z < 18446744073709551616 := by omega
      clear hb hz
      go_wp2_with (at_builtin; refine appO el_u8 w.heap.size rfl _ _ rfl rfl (HN.out.alloc _) (news := bcells [b]) rfl rfl (rowAt_alloc _ _ _) (one_bcells _) (by omega) (Nat.le_trans HW.out.size (by simp)) ?_; intro v1 w3 hown1 hg1 _; have HO3 : Hid (Own w3 w.heap.size 1 v1 (k + 1) (bcells ((lowL v n).take (k + 1)))) := (by have e9 : bcells ((lowL v n).take (k + 1)) = bcells ((lowL v n).take k) ++ bcells [b] := (congrArg bcells HX.out).trans (by simp [bcells]); rw [Hid, e9]; exact hown1); have HB3 : Hid (Below w.heap.size w w3) := Own.grown_below (HN.out.alloc _) (HW.out.alloc HW.out.size _) hg1 (Nat.le_refl _); clear hown1 hg1)
      go_roundw
      case rel => exact ⟨k + 1, z, by omega, hzl, rfl, by go_num, HQ, HO3, HB3⟩
      case measure => simp [intOf]; omega
    · obtain rfl : k = n := by omega
      obtain ⟨A, c, rfl, _, hr, _⟩ := HN.out.slice
      rw [List.take_of_length_le (by rw [lowL_length]; omega)] at hr
      have hcv := bytes_str Tryd.prog 31 5 9 Tryd.underlying31 Tryd.underlying5 Tryd.underlying9 A k c (lowL v k) wr (lowL_length _ _) hr
      clear hr
      go_wp2_with fail
      go_ret
      exact ⟨rfl, HW.out⟩
end Go.Proofs.YtbkankpfkbafdaaDoor

/- The document's LayPrint and ReadPrint. -/
namespace Go.Proofs.YtbkankpfkbafdaaDoor
open Go.RowKit
set_option linter.unusedVariables false

theorem lay_text (k : Nat) (s : ByteArray) : lowS k 1 ++ s ++ zerosB (32 - s.size) = ⟨(layL (k : Int) s).toArray⟩ := by
  apply str_inj
  rw [ByteArray.toList_eq, ByteArray.toList_eq]
  simp [layL, lowS, zerosB, ByteArray.data_append]
set_option maxHeartbeats 1600000 in
theorem refLay_calls (k : Nat) (s : ByteArray) (w : World) (hk : k < 256) (hs : s.size ≤ 32) : Calls Tryd.prog 18 #[.agg #[.int .i64 (k : Int), .string s]] w fun e w' => e = .returned (.string ⟨(layL (k : Int) s).toArray⟩) ∧ Below w.heap.size w w' := by
  have HP : Box _ := ⟨PrintAt.new w (k : Int) s⟩
  have HB0 : Box _ := ⟨bel_alloc (Below.refl w.heap.size w) (.cells #[.int .i64 (k : Int), .string s] 24)⟩
  have N1 : Box _ := ⟨fun W => refLow_calls k 1 W (by omega) (by omega)⟩
  have N2 : Box _ := ⟨fun W => zeros_calls (32 - s.size) W (by omega)⟩
  have HT : Box _ := ⟨lay_text k s⟩
  have u1 : ((lowS k 1).size : Int) ≤ 1 := by rw [lowS_size]; omega
  have u2 : ((zerosB (32 - s.size)).size : Int) ≤ 32 := by rw [zerosB_size]; omega
  have u3 : (s.size : Int) ≤ 32 := by omega
  obtain ⟨p, hp⟩ : ∃ p, lowS k 1 = p := ⟨_, rfl⟩
  obtain ⟨q, hq⟩ : ∃ q, zerosB (32 - s.size) = q := ⟨_, rfl⟩
  rw [hp, hq] at HT
  rw [hp] at u1
  rw [hq] at u2
  have u4 : ((p ++ s).size : Int) ≤ 33 := by rw [ByteArray.size_append]; omega
  simp only [hp] at N1
  simp only [hq] at N2
  clear hp hq
  rw [← HT.out]
  have y1 : (32 : Int) - (s.size : Int) = ((32 - s.size : Nat) : Int) := by omega
  have y2 := IntWalk.i64_in ((32 - s.size : Nat) : Int) (by omega)
  have y3 := IntWalk.i64_in ((32 : Int) - (s.size : Int)) (by omega)
  have y4 : IntKind.u64.wrap (k : Int) = (k : Int) := by rw [IntKind.wrap_u64]; omega
  obtain ⟨m, hm⟩ : ∃ m, 32 - s.size = m := ⟨_, rfl⟩
  rw [hm] at y1 y2 N2
  clear hm
  have KK : Box (∀ W, Below (w.alloc (.cells #[.int .i64 (k : Int), .string s] 24)).heap.size (w.alloc (.cells #[.int .i64 (k : Int), .string s] 24)) W → W.cell? ⟨w.heap.size, 0, none⟩ = some (.int .i64 (k : Int)) ∧ W.cell? ⟨w.heap.size, 1, none⟩ = some (.string s)) := ⟨fun W h => ⟨(HP.out.below h).c0, (HP.out.below h).c1⟩⟩
  have v1 := fun W : World => run_string_add (P := Tryd.prog) W p s (by omega) (by omega)
  have v2 := fun W : World => run_string_add (P := Tryd.prog) W (p ++ s) q (by omega) (by omega)
  go_enter Tryd.func18, Tryd.ntmps18
  go_wp2_with fail
  go_region_held3 (fun w' => w'.cell? ⟨w.heap.size, 0, none⟩ = some (.int .i64 (k : Int)) ∧ w'.cell? ⟨w.heap.size, 1, none⟩ = some (.string s)) (first | exact KK.out _ HB2.out | exact KK.out _ HB1.out | exact KK.out _ (bel_drew (Below.refl _ _)))
    (first
      | (go_at_call 44; refine (N1.out _).mono ?_; rintro e w5 ⟨rfl, hb⟩; have HB1 : Box _ := ⟨bel_calls (bel_drew (Below.refl _ _)) hb⟩; clear hb)
      | (go_at_call 45; refine (N2.out _).mono ?_; rintro e w6 ⟨rfl, hb⟩; have HB2 : Box _ := ⟨bel_calls HB1.out hb⟩; clear hb))
  all_goals
    go_wp2_with fail
    go_ret
    exact ⟨rfl, bel_calls HB0.out HB2.out⟩
end Go.Proofs.YtbkankpfkbafdaaDoor

/- The document's ReadPrint. -/
namespace Go.Proofs.YtbkankpfkbafdaaDoor
open Go.RowKit
set_option linter.unusedVariables false

theorem zeros_iff (l : List UInt8) (n : Nat) (h : l.length = n) : (List.replicate n 0 = l) ↔ l.all (· == 0) = true := by
  subst h
  induction l with
  | nil => simp
  | cons x l ih =>
    rw [List.length_cons, List.replicate_succ, List.cons.injEq, ih, List.all_cons, Bool.and_eq_true]
    constructor
    · rintro ⟨rfl, h⟩; exact ⟨rfl, h⟩
    · rintro ⟨h1, h2⟩; exact ⟨(by simpa using h1 : x = 0).symm, h2⟩
theorem lay_same (x : UInt8) (r : List UInt8) (n : Nat) (hr : r.length = 32) (hn : n ≤ 32) : ((⟨(layL (x.toNat : Int) ⟨(r.take n).toArray⟩).toArray⟩ : ByteArray) = ⟨(x :: r).toArray⟩) ↔ (r.drop n).all (· == 0) = true := by
  rw [← zeros_iff (r.drop n) (32 - n) (by rw [List.length_drop, hr])]
  have e : layL (x.toNat : Int) ⟨(r.take n).toArray⟩ = x :: (r.take n ++ List.replicate (32 - n) 0) := by
    rw [layL, mkS_toList, mk_size, List.length_take, show min n r.length = n by omega]
    simp [lowL]
  rw [e]
  constructor
  · intro h
    have h2 : x :: (r.take n ++ List.replicate (32 - n) 0) = x :: r := by
      have := congrArg (fun b : ByteArray => b.data.toList) h
      simpa using this
    have h3 : r.take n ++ List.replicate (32 - n) 0 = r := by simpa using h2
    conv at h3 => rhs; rw [← List.take_append_drop n r]
    exact List.append_cancel_left h3
  · intro h
    rw [h, List.take_append_drop]
set_option maxHeartbeats 3200000 in
set_option maxRecDepth 100000 in
theorem refRead_calls (b : ByteArray) (w : World) : Calls Tryd.prog 17 #[.string b] w fun e w' => e = .returned (.tuple #[.agg #[.int .i64 (readM b).1, .string (readM b).2.1], .int .i64 (readM b).2.2]) ∧ Below w.heap.size w w' := by
  have HP : Box _ := ⟨PrintAt.new w 0 ⟨#[]⟩⟩
  have HB0 : Box _ := ⟨bel_alloc (Below.refl w.heap.size w) (.cells #[.int .i64 0, .string ⟨#[]⟩] 24)⟩
  by_cases h33 : b.size = 33
  case neg =>
    rw [readM_short h33]
    have e1 : ((b.size : Int) != 33) = true := by simp; omega
    clear h33
    go_enter Tryd.func17, Tryd.ntmps17
    go_wp2_with fail
    refine bodyPost_ret (results_cell_tmp rfl _ _ w.heap.size [.int .i64 0, .string ⟨#[]⟩] _ rfl (range_two HP.out.c0 HP.out.c1) Tryd.underlying24 rfl (by kernel_rfl)) rfl ?_
    exact ⟨rfl, HB0.out⟩
  obtain ⟨x, r, rfl, hr⟩ := read_parts h33
  have e1 : (((⟨(x :: r).toArray⟩ : ByteArray).size : Int) != 33) = false := by rw [h33]; rfl
  have h0 : 0 < (⟨(x :: r).toArray⟩ : ByteArray).size := by omega
  have h0i : (0 : Int) < ((⟨(x :: r).toArray⟩ : ByteArray).size : Int) := by omega
  have hsz : ((⟨(x :: r).toArray⟩ : ByteArray).size : Int) = 33 := by omega
  have hx : (((⟨(x :: r).toArray⟩ : ByteArray)[0]).toNat : Int) = (x.toNat : Int) := rfl
  have hM : readM ⟨(x :: r).toArray⟩ = if 0 < sizeM x.toNat ∧ (r.drop (sizeM x.toNat).toNat).all (· == 0) = true then ((x.toNat : Int), ⟨(r.take (sizeM x.toNat).toNat).toArray⟩, 0) else (0, ByteArray.empty, 6) := by
    rw [readM, mkS_toList, readL, if_pos hr]
  have hE : ∀ n, n ≤ 32 → (⟨(x :: r).toArray⟩ : ByteArray).extract 1 (1 + n) = ⟨(r.take n).toArray⟩ := by
    intro n hn
    rw [ext_mk _ _ _ (by simp; omega)]
    rw [show 1 + n = n + 1 by omega, List.take_succ_cons, List.drop_succ_cons, List.drop_zero]
  have hS := fun n (hn : n ≤ 32) => lay_same x r n hr hn
  have hxl : (x.toNat : Int) < 256 := by have := x.toNat_lt; omega
  obtain ⟨n, hn⟩ : ∃ n : Nat, sizeM (x.toNat : Int) = (n : Int) := ⟨(sizeM (x.toNat : Int)).toNat, by have := sizeM_le (x.toNat : Int); omega⟩
  have hn32 : n ≤ 32 := by have := sizeM_le (x.toNat : Int); omega
  have HN : Box _ := ⟨refSize_calls (x.toNat : Int)⟩
  rw [hn, Int.toNat_natCast] at hM
  rw [hn] at HN
  have hE1 := hE n hn32
  have hS1 := hS n hn32
  have HL : Box _ := ⟨fun W => refLay_calls x.toNat ⟨(r.take n).toArray⟩ W (by have := x.toNat_lt; omega) (by rw [mk_size, List.length_take]; omega)⟩
  obtain ⟨u, hu⟩ : ∃ u : ByteArray, ⟨(r.take n).toArray⟩ = u := ⟨_, rfl⟩
  simp only [hu] at hE1 hS1 hM HL
  obtain ⟨V, hV⟩ : ∃ V : ByteArray, ⟨(layL (x.toNat : Int) u).toArray⟩ = V := ⟨_, rfl⟩
  simp only [hV] at HL hS1
  obtain ⟨z, hz⟩ : ∃ z, (r.drop n).all (· == 0) = z := ⟨_, rfl⟩
  rw [hz] at hM hS1
  have hS2 : ((V.toList == (⟨(x :: r).toArray⟩ : ByteArray).toList) = z) := by
    rw [str_beq]
    cases z
    · exact decide_eq_false (fun h => by have := hS1.1 h; cases this)
    · exact decide_eq_true (hS1.2 rfl)
  clear hE hS hS1 hz hV hu hn hr h33
  generalize (⟨(x :: r).toArray⟩ : ByteArray) = B at *
  obtain ⟨k, hk⟩ : ∃ k : Int, (x.toNat : Int) = k := ⟨_, rfl⟩
  have hk0 : 0 ≤ k := by omega
  rw [hk] at hx hM HN HL hxl
  clear hk
  rcases Nat.eq_zero_or_pos n with rfl | hn0
  · have HM : Box (readM B = (0, ByteArray.empty, 6)) := ⟨by rw [hM, if_neg (fun h => by have := h.1; simp at this)]⟩
    rw [HM.out]
    clear hM hS2 HL
    have y1 : (1 : Int) ≤ (B.size : Int) := by omega
    have hE1 : B.extract 1 1 = u := hE1
    go_enter Tryd.func17, Tryd.ntmps17
    go_wp2_with fail
    refine (HN.out _).mono ?_
    rintro e w1 ⟨rfl, rfl⟩
    go_wp2_with fail
    go_region
    all_goals
      go_wp2_with fail
      refine bodyPost_ret (results_cell_tmp rfl _ _ w.heap.size [.int .i64 0, .string ⟨#[]⟩] _ rfl (range_two (HP.out.below (by repeat (first | exact Below.refl _ _ | apply bel_drew | apply bel_alloc))).c0 (HP.out.below (by repeat (first | exact Below.refl _ _ | apply bel_drew | apply bel_alloc))).c1) Tryd.underlying24 rfl (by kernel_rfl)) rfl ?_
      exact ⟨rfl, by repeat (first | exact Below.refl _ _ | apply bel_drew | apply bel_alloc)⟩
  · have y0 : ((n : Int) == 0) = false := by simp; omega
    have y1 : (1 : Int) + (n : Int) ≤ (B.size : Int) := by omega
    have y2 : (n : Int) ≤ 32 := by omega
    have y3 : ((1 : Int) + (n : Int)).toNat = 1 + n := by omega
    have y4 := IntWalk.i64_in ((1 : Int) + (n : Int)) (by omega)
    have y5 : (1 : Int) ≤ (1 : Int) + (n : Int) := by omega
    have HK : Box _ := ⟨fun W => PrintAt.new W k u⟩
    cases z
    · have HM : Box (readM B = (0, ByteArray.empty, 6)) := ⟨by rw [hM, if_neg (fun h => by cases h.2)]⟩
      rw [HM.out]
      have hS3 : ((V.toList != B.toList) = true) := by simp only [bne, hS2]; rfl
      clear hM
      go_enter Tryd.func17, Tryd.ntmps17
      go_wp2_with fail
      refine (HN.out _).mono ?_
      rintro e w1 ⟨rfl, rfl⟩
      go_wp2_with fail
      go_region
      all_goals
        go_wp2_with fail
        refine (HL.out _).mono ?_
        rintro e w2 ⟨rfl, hb2⟩
        have HB2 : Box (Below (w.alloc (.cells #[.int .i64 0, .string ⟨#[]⟩] 24)).heap.size (w.alloc (.cells #[.int .i64 0, .string ⟨#[]⟩] 24)) w2) := ⟨bel_calls (by repeat (first | exact Below.refl _ _ | apply bel_drew | apply bel_alloc)) hb2⟩
        have HP2 : Box _ := ⟨HP.out.below HB2.out⟩
        have HB3 : Box _ := ⟨bel_calls HB0.out HB2.out⟩
        have c0 := HP2.out.c0
        have c1 := HP2.out.c1
        have f0 := HP2.out.f0
        have f1 := HP2.out.f1
        clear hb2
        go_wp2_with fail
        have HQ := HP2.out.set 0 ⟨#[]⟩
        refine bodyPost_ret (results_cell_tmp rfl _ _ w.heap.size [.int .i64 0, .string ⟨#[]⟩] _ rfl (range_two HQ.c0 HQ.c1) Tryd.underlying24 rfl (by kernel_rfl)) rfl ?_
        exact ⟨rfl, (HB3.out.setCell (by simp) _).setCell (by simp) _⟩
    · have HM : Box (readM B = (k, u, 0)) := ⟨by rw [hM, if_pos ⟨by omega, rfl⟩]⟩
      rw [HM.out]
      have hS3 : ((V.toList != B.toList) = false) := by simp only [bne, hS2]; rfl
      clear hM
      go_enter Tryd.func17, Tryd.ntmps17
      go_wp2_with fail
      refine (HN.out _).mono ?_
      rintro e w1 ⟨rfl, rfl⟩
      go_wp2_with fail
      go_region
      all_goals
        go_wp2_with fail
        refine (HL.out _).mono ?_
        rintro e w2 ⟨rfl, hb2⟩
        have hK := (HK.out (w.alloc (.cells #[.int .i64 0, .string ⟨#[]⟩] 24))).drew
        have hz : (w.alloc (.cells #[.int .i64 0, .string ⟨#[]⟩] 24)).heap.size = w.heap.size + 1 := by simp
        rw [hz] at hK
        have HK2 : Box _ := ⟨hK.below hb2⟩
        have HB2 : Box (Below (w.alloc (.cells #[.int .i64 0, .string ⟨#[]⟩] 24)).heap.size (w.alloc (.cells #[.int .i64 0, .string ⟨#[]⟩] 24)) w2) := ⟨bel_calls (by repeat (first | exact Below.refl _ _ | apply bel_drew | apply bel_alloc)) hb2⟩
        have HP2 : Box _ := ⟨HP.out.below HB2.out⟩
        have HB3 : Box _ := ⟨bel_calls HB0.out HB2.out⟩
        have c0 := HP2.out.c0
        have c1 := HP2.out.c1
        have f0 := HP2.out.f0
        have f1 := HP2.out.f1
        have d0 := HK2.out.c0
        have d1 := HK2.out.c1
        clear hb2 hK hz
        go_wp2_with fail
        have HQ := HP2.out.set k u
        refine bodyPost_ret (results_cell_tmp rfl _ _ w.heap.size [.int .i64 k, .string u] _ rfl (range_two HQ.c0 HQ.c1) Tryd.underlying24 rfl (by kernel_rfl)) rfl ?_
        exact ⟨rfl, (HB3.out.setCell (by simp) _).setCell (by simp) _⟩
end Go.Proofs.YtbkankpfkbafdaaDoor
