/- The document's reader (masonryref1.In): it tells what the program's reader tells. -/
import Derived.Test.YtnakneabfnphkaaDoorOutI
namespace Go.Proofs.YtnakneabfnphkaaDoor
open Go.RowKit

set_option maxHeartbeats 800000 in
theorem refNum_calls (s : ByteArray) (w : World) (hs : s.size ≤ 8) : Calls Tryd.prog 38 #[.string s] w fun e w' => e = .returned (.int .u64 (numL s.data.toList : Int)) ∧ w = w' := by
  go_enter Tryd.func38, Tryd.ntmps38
  go_wp2_with fail
  go_loop [3, 4] (fun v i => ∃ k : Nat, k ≤ s.size ∧ i = .int .i64 ((k : Int) - 1) ∧ v = .int .u64 (numL (s.data.toList.drop k) : Int)) (fun _ i => (intOf i + 1).toNat)
  case atStart => exact ⟨s.size, by omega, rfl, by rw [List.drop_of_length_le (by rw [data_length]; omega)]; rfl⟩
  case round =>
    obtain ⟨k, hk, rfl, rfl⟩ := hrel
    rcases Nat.eq_zero_or_pos k with rfl | hk0
    · have e1 : ((0 : Nat) : Int) - 1 = -1 := rfl
      rw [e1, List.drop_zero]
      clear e1
      go_wp2_with fail
      go_ret
      exact ⟨rfl, rfl⟩
    · obtain ⟨j, rfl⟩ : ∃ j, k = j + 1 := ⟨k - 1, by omega⟩
      have e1 : ((j + 1 : Nat) : Int) - 1 = (j : Int) := by omega
      rw [e1]
      have hlt : j < s.size := by omega
      have hd : s.data.toList.drop j = s[j] :: s.data.toList.drop (j + 1) := by
        rw [List.drop_eq_getElem_cons (by rw [data_length]; exact hlt)]; rfl
      have hn : numL (s.data.toList.drop j) = s[j].toNat + 256 * numL (s.data.toList.drop (j + 1)) := by rw [hd]; rfl
      have hb := numL_lt (s.data.toList.drop (j + 1))
      have hb2 : 256 ^ (s.data.toList.drop (j + 1)).length ≤ 256 ^ 7 := Nat.pow_le_pow_right (by decide) (by rw [List.length_drop, data_length]; omega)
      have hb3 : (256 : Nat) ^ 7 = 72057594037927936 := by decide
      obtain ⟨p, hp⟩ : ∃ p, numL (s.data.toList.drop (j + 1)) = p := ⟨_, rfl⟩
      obtain ⟨q, hq⟩ : ∃ q, numL (s.data.toList.drop j) = q := ⟨_, rfl⟩
      rw [hp] at hn hb ⊢
      rw [hq] at hn
      have hp2 : (p : Int) ≤ 72057594037927935 := by omega
      have hp0 : (0 : Int) ≤ (p : Int) := by omega
      have hu := s[j].toNat_lt
      have HN : Box (q = s[j].toNat + 256 * p) := ⟨hn⟩
      have HQ : Box (numL (s.data.toList.drop j) = q) := ⟨hq⟩
      clear hn hb hb2 hb3 hp hq hd e1 hk0
      go_wp2_with fail
      go_round
      case rel => exact ⟨j, by omega, by go_num, by rw [HQ.out, HN.out]; exact val_int (by omega)⟩
      case measure => simp [intOf]

theorem refRaw_calls (g : Nat) (n e : Int) (s : ByteArray) (w : World) (h : InS w g e s) (hs : s.size ≤ 1000000000) :
    Calls Tryd.prog 27 #[.pointer (some ⟨g, 0, none⟩), .int .i64 n] w fun r w' => r = .returned (.string (rawI e s n).1) ∧ InS w' g (rawI e s n).2.1 (rawI e s n).2.2 ∧ Touched w w' [g] := by
  have H : Box _ := ⟨h⟩
  have k0 := h.c0
  have k1 := h.c1
  have e0 := h.f0
  have e1 := h.f1
  clear h
  by_cases he : e = 0
  case neg =>
    rw [rawI, if_pos he]
    go_enter Tryd.func27, Tryd.ntmps27
    go_wp2_with fail
    go_ret
    exact ⟨rfl, H.out, Touched.refl _ _⟩
  subst he
  by_cases hn : n < 0
  · rw [rawI, if_neg (by simp), if_pos hn]
    go_enter Tryd.func27, Tryd.ntmps27
    go_wp2_with fail
    go_ret
    exact ⟨rfl, H.out.fail 1, (Touched.refl w _).setCell (.inl (by simp)) _⟩
  by_cases hl : (s.size : Int) < n
  · rw [rawI, if_neg (by simp), if_neg hn, if_pos hl]
    go_enter Tryd.func27, Tryd.ntmps27
    go_wp2_with fail
    go_ret
    exact ⟨rfl, H.out.fail 5, (Touched.refl w _).setCell (.inl (by simp)) _⟩
  obtain ⟨m, rfl⟩ : ∃ m : Nat, n = (m : Int) := ⟨n.toNat, by omega⟩
  rw [rawI, if_neg (by simp), if_neg hn, if_neg hl, Int.toNat_natCast]
  have b1 : (0 : Int) ≤ (m : Int) := by omega
  have b2 : (m : Int) ≤ (s.size : Int) := by omega
  go_enter Tryd.func27, Tryd.ntmps27
  go_wp2_with fail
  go_ret
  exact ⟨rfl, H.out.set _, (Touched.refl w _).setCell (.inl (by simp)) _⟩
set_option maxRecDepth 20000 in
theorem refInNum_calls (size : Nat) (h8 : size ≤ 8) (g : Nat) (e : Int) (s0 : ByteArray) (w : World) (h : InS w g e s0) (hs0 : s0.size ≤ 1000000000) :
    Calls Tryd.prog 20 #[.pointer (some ⟨g, 0, none⟩), .int .i64 (size : Int)] w fun r w' => r = .returned (.int .i64 (lowI e s0 size).1) ∧ InS w' g (lowI e s0 size).2.1 (lowI e s0 size).2.2 ∧ Touched w w' [g] := by
  have HRo : Box _ := ⟨refRaw_calls g (size : Int) e s0 w h hs0⟩
  have hz := (rawI_size e s0 (size : Int)).2.2 (by omega)
  have hlow : ∀ t : ByteArray, ∀ x : Int, ∀ u : ByteArray, rawI e s0 (size : Int) = (t, x, u) → lowI e s0 size = if 9223372036854775808 ≤ numL t.data.toList then (0, 6, u) else ((numL t.data.toList : Int), x, u) := by
    intro t x u hh
    rw [lowI, hh]
  obtain ⟨⟨s, x, u⟩, hd⟩ : ∃ d, rawI e s0 (size : Int) = d := ⟨_, rfl⟩
  rw [hd] at HRo hz
  have HLo : Box _ := ⟨hlow s x u hd⟩
  clear h hlow hd
  obtain ⟨r0, hr0⟩ : ∃ r0, lowI e s0 size = r0 := ⟨_, rfl⟩
  rw [hr0] at HLo ⊢
  clear hr0
  have hs1 : s.size ≤ 8 := by
    have h1 : ((s.size : Nat) : Int) ≤ (size : Int) := hz
    omega
  have hn0 : numL s.data.toList < 18446744073709551616 := by
    have h1 := numL_lt s.data.toList
    rw [data_length] at h1
    have h2 : 256 ^ s.size ≤ 256 ^ 8 := Nat.pow_le_pow_right (by decide) hs1
    have h3 : (256 : Nat) ^ 8 = 18446744073709551616 := by decide
    omega
  have HN : Box _ := ⟨fun W => refNum_calls s W hs1⟩
  obtain ⟨p, hp⟩ : ∃ p, numL s.data.toList = p := ⟨_, rfl⟩
  rw [hp] at hn0 HLo HN
  clear hz hp hs1
  by_cases hbig : 9223372036854775808 ≤ p
  · have HL1 : Box (r0 = (0, 6, u)) := ⟨by rw [HLo.out, if_pos hbig]⟩
    have y6 : (9223372036854775808 : Int) ≤ (p : Int) := by omega
    clear hbig
    go_enter Tryd.func20, Tryd.ntmps20
    go_wp2_with fail
    refine HRo.out.mono ?_
    rintro e w1 ⟨rfl, hI, hT⟩
    have HT : Box _ := ⟨hT⟩
    have HI : Box _ := ⟨hI⟩
    have k1 := hI.c1
    have f1 := hI.f1
    clear hT hI HRo
    go_wp2_with fail
    refine (HN.out _).mono ?_
    rintro e w2 ⟨rfl, rfl⟩
    go_wp2_with fail
    go_ret
    exact ⟨by rw [HL1.out]; rfl, by rw [HL1.out]; exact HI.out.fail 6, HT.out.setCell (.inl (by simp)) _⟩
  · have HL1 : Box (r0 = ((p : Int), x, u)) := ⟨by rw [HLo.out, if_neg hbig]⟩
    have y6 : decide ((9223372036854775808 : Int) ≤ (p : Int)) = false := decide_eq_false (by omega)
    have y7 := IntWalk.i64_in (p : Int) (by omega)
    clear hbig hn0
    go_enter Tryd.func20, Tryd.ntmps20
    go_wp2_with fail
    refine HRo.out.mono ?_
    rintro e w1 ⟨rfl, hI, hT⟩
    have HT : Box _ := ⟨hT⟩
    have HI : Box _ := ⟨hI⟩
    clear hT hI HRo
    go_wp2_with fail
    refine (HN.out _).mono ?_
    rintro e w2 ⟨rfl, rfl⟩
    go_wp2_with fail
    go_ret
    exact ⟨by rw [HL1.out]; rfl, by rw [HL1.out]; exact HI.out, HT.out⟩
theorem refText_calls (g : Nat) (e : Int) (s : ByteArray) (w : World) (h : InS w g e s) (hs : s.size ≤ 1000000000) :
    Calls Tryd.prog 25 #[.pointer (some ⟨g, 0, none⟩)] w fun r w' => r = .returned (.string (textI e s).1) ∧ InS w' g (textI e s).2.1 (textI e s).2.2 ∧ Touched w w' [g] := by
  have H : Box _ := ⟨refInNum_calls 2 (by omega) g e s w h hs⟩
  have hz := lowI_size e s 2
  clear h
  rw [textI]
  obtain ⟨⟨x, y, t⟩, hd⟩ : ∃ d, lowI e s 2 = d := ⟨_, rfl⟩
  rw [hd] at H hz ⊢
  have HZ : Box (t.size ≤ 1000000000) := ⟨Nat.le_trans hz hs⟩
  obtain ⟨d2, hd2⟩ : ∃ d2, rawI (x, y, t).2.1 (x, y, t).2.2 (x, y, t).1 = d2 := ⟨_, rfl⟩
  rw [hd2]
  have HD2 : Box (rawI y t x = d2) := ⟨hd2⟩
  clear hd hz hd2
  go_enter Tryd.func25, Tryd.ntmps25
  go_wp2_with fail
  refine Calls.mono H.out ?_
  rintro r w1 ⟨rfl, h1, h2⟩
  have H2 : Box _ := ⟨refRaw_calls g x y t w1 h1 HZ.out⟩
  have HT : Box _ := ⟨h2⟩
  clear h1 h2
  rw [HD2.out] at H2
  go_wp2_with fail
  refine Calls.mono H2.out ?_
  rintro r w2 ⟨rfl, h3, h4⟩
  go_wp2_with fail
  go_ret
  exact ⟨rfl, h3, HT.out.trans h4⟩
theorem refLeft_calls (g : Nat) (e : Int) (s : ByteArray) (w : World) (h : InS w g e s) :
    Calls Tryd.prog 29 #[.pointer (some ⟨g, 0, none⟩)] w fun r w' => r = .returned (.int .i64 (leftI e s)) ∧ w = w' := by
  have k0 := h.c0
  have k1 := h.c1
  clear h
  by_cases he : e = 0
  · subst he
    rw [leftI, if_neg (by simp)]
    go_enter Tryd.func29, Tryd.ntmps29
    go_wp2_with fail
    go_ret
    exact ⟨rfl, rfl⟩
  · rw [leftI, if_pos he]
    go_enter Tryd.func29, Tryd.ntmps29
    go_wp2_with fail
    go_ret
    exact ⟨rfl, rfl⟩
theorem zero_all (s : ByteArray) (h : ∀ x ∈ s.data.toList, x = 0) : zeroB s = true := by
  rw [zeroB, List.all_eq_true]
  intro x hx
  simpa using h x hx
theorem zero_not (s : ByteArray) (k : Nat) (h : k < s.size) (hx : s[k] ≠ 0) : zeroB s = false := by
  cases hz : zeroB s
  · rfl
  · rw [zeroB, List.all_eq_true] at hz
    have := hz s[k] (by show s.data[k] ∈ _; exact Array.mem_toList_iff.2 (Array.getElem_mem h))
    exact absurd (by simpa using this) hx
theorem refRest_calls (g : Nat) (e : Int) (s : ByteArray) (w : World) (h : InS w g e s) (hs : s.size ≤ 1000000000) :
    Calls Tryd.prog 31 #[.pointer (some ⟨g, 0, none⟩)] w fun r w' => r = .returned (.bool (restI e s)) ∧ w = w' := by
  have k0 := h.c0
  have k1 := h.c1
  clear h
  go_enter Tryd.func31, Tryd.ntmps31
  go_wp2_with fail
  go_loop [3] (fun i => ∃ k : Nat, k ≤ s.size ∧ i = .int .i64 (k : Int) ∧ Box (∀ x ∈ s.data.toList.take k, x = 0)) (fun i => s.size - (intOf i).toNat)
  case atStart => exact ⟨0, by omega, rfl, ⟨by simp⟩⟩
  case round =>
    obtain ⟨k, hk, rfl, HA⟩ := hrel
    by_cases hlt : k < s.size
    · have hts := take_snoc_str s k hlt
      by_cases hx : s[k] = 0
      · have HA1 : Box (∀ x ∈ s.data.toList.take (k + 1), x = 0) := ⟨by
          rw [hts]
          intro x hm
          rcases List.mem_append.1 hm with h | h
          · exact HA.out x h
          · simp at h; rw [h, hx]⟩
        have y1 : (((s[k]).toNat : Int) != 0) = false := by rw [hx]; rfl
        clear hts hx
        go_wp2_with fail
        go_round
        case rel => exact ⟨k + 1, by omega, by go_num, HA1⟩
        case measure => simp [intOf]; omega
      · have y1 : (((s[k]).toNat : Int) != 0) = true := by
          have : s[k].toNat ≠ 0 := fun h => hx (UInt8.toNat_inj.1 h)
          simp; omega
        have HR : Box (restI e s = false) := ⟨by rw [restI, zero_not s k hlt hx, Bool.and_false]⟩
        clear hts hx
        go_wp2_with fail
        go_ret
        exact ⟨by rw [HR.out]; rfl, rfl⟩
    · obtain rfl : k = s.size := by omega
      rw [List.take_of_length_le (by rw [data_length]; omega)] at HA
      by_cases he : e = 0
      · subst he
        have HR : Box (restI 0 s = true) := ⟨by rw [restI, zero_all s HA.out]; rfl⟩
        go_wp2_with fail
        go_ret
        exact ⟨by rw [HR.out]; rfl, rfl⟩
      · have HR : Box (restI e s = false) := ⟨by rw [restI, decide_eq_false he]; rfl⟩
        have y1 : (e == 0) = false := by simpa using he
        go_wp2_with fail
        go_ret
        exact ⟨by rw [HR.out]; rfl, rfl⟩
theorem refEnd_calls (g : Nat) (e : Int) (s : ByteArray) (w : World) (h : InS w g e s) (hs : s.size ≤ 1000000000) :
    Calls Tryd.prog 33 #[.pointer (some ⟨g, 0, none⟩)] w fun r w' => r = .returned (.int .i64 (endI e s)) ∧ InS w' g (endI e s) s ∧ Touched w w' [g] := by
  have HI : Box _ := ⟨h⟩
  have HR : Box _ := ⟨refRest_calls g e s w h hs⟩
  have k1 := h.c1
  have f1 := h.f1
  clear h
  by_cases he : e = 0
  · subst he
    by_cases hz : zeroB s = true
    · have hr : restI 0 s = true := by simp [restI, hz]
      have hd : endI 0 s = 0 := by rw [endI, if_neg (by simp [hz])]
      rw [hr] at HR
      rw [hd]
      clear hr hd hz
      go_enter Tryd.func33, Tryd.ntmps33
      go_wp2_with fail
      refine Calls.mono HR.out ?_
      rintro r w1 ⟨rfl, rfl⟩
      go_wp2_with fail
      go_ret
      exact ⟨rfl, HI.out, Touched.refl _ _⟩
    · have hr : restI 0 s = false := by simp [restI, hz]
      have hd : endI 0 s = 6 := by rw [endI, if_pos ⟨rfl, by simpa using hz⟩]
      rw [hr] at HR
      rw [hd]
      have k2 := (HI.out.fail 6).c1
      clear hr hd hz
      go_enter Tryd.func33, Tryd.ntmps33
      go_wp2_with fail
      refine Calls.mono HR.out ?_
      rintro r w1 ⟨rfl, rfl⟩
      go_wp2_with fail
      go_ret
      exact ⟨rfl, HI.out.fail 6, (Touched.refl w _).setCell (.inl (by simp)) _⟩
  · have hd : endI e s = e := by rw [endI, if_neg (fun h => he h.1)]
    rw [hd]
    clear hd
    go_enter Tryd.func33, Tryd.ntmps33
    go_wp2_with fail
    go_ret
    exact ⟨rfl, HI.out, Touched.refl _ _⟩
end Go.Proofs.YtnakneabfnphkaaDoor
