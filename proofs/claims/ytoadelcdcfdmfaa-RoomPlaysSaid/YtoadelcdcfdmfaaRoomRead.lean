/- room.Read: what a sector tells of a room. -/
import Derived.Test.YtoadelcdcfdmfaaRoomRef
import Derived.Test.YtoadelcdcfdmfaaBundle6
import Derived.Test.YtoadelcdcfdmfaaSealPure
import Derived.Test.YtoadelcdcfdmfaaBundle3
import Derived.Test.YtoadelcdcfdmfaaBundle4
namespace Go.Proofs.Ytoadelcdcfdmfaa
open Go.RowKit
set_option linter.unusedVariables false

theorem numL_B (l : List UInt8) : B.numL l = numL l := by
  induction l with
  | nil => rfl
  | cons b r ih => rw [B.numL, numL, ih]
/-- What stands in a sealed sector: so many sectors, and which ones are in use. -/
def rdS (b : ByteArray) : ByteArray := (openB b).1
def rdN (b : ByteArray) : Nat := numL ((rdS b).extract 1 3).data.toList
def rdF (b : ByteArray) (j : Nat) : Bool := ((rdS b).data.toList.getD (3 + j / 8) 0).toNat.testBit (j % 8)
/-- The error of reading it. -/
def rdE (b : ByteArray) : Int := if b.size ≠ 256 then 5 else if (openB b).2 ≠ 0 then (openB b).2 else if rdN b < 1 ∨ 1900 < rdN b then 6 else if roomB (rdN b) (rdF b) = b then 0 else 6
theorem rdS_size {b : ByteArray} (h : b.size = 256) (h2 : (openB b).2 = 0) : (rdS b).size = 252 := by
  unfold rdS
  unfold openB at h2 ⊢
  rw [if_neg (by omega)] at h2 ⊢
  split at h2
  · rename_i hh
    rw [if_pos hh, ByteArray.size_extract]
    omega
  · simp at h2
theorem rdN_lt {b : ByteArray} (h : b.size = 256) (h2 : (openB b).2 = 0) : rdN b < 65536 := by
  have h3 := numL_lt ((rdS b).extract 1 3).data.toList
  have h4 := rdS_size h h2
  have h5 : ((rdS b).extract 1 3).data.toList.length = 2 := by rw [data_length, ByteArray.size_extract]; omega
  rw [h5] at h3
  exact h3
theorem flag_bit (x r : Nat) : (decide (x / 2 ^ r % 2 = 1)) = x.testBit r := by
  rw [Nat.testBit_eq_decide_div_mod_eq]
theorem bit_walk (x : UInt8) (r : Nat) : bits BinOp.and IntKind.u8 ((x.toNat : Int) / 2 ^ r) 1 = if x.toNat.testBit r = true then 1 else 0 := by
  have e : ((x.toNat : Int) / 2 ^ r) = ((x.toNat / 2 ^ r : Nat) : Int) := by
    rw [Int.natCast_ediv, Int.natCast_pow]; rfl
  have h := x.toNat_lt
  have h2 : x.toNat / 2 ^ r < 256 := Nat.lt_of_le_of_lt (Nat.div_le_self _ _) h
  rw [e, show (1 : Int) = ((1 : Nat) : Int) from rfl, u8_and_nat _ _ h2 (by omega), nat_mask1, ← flag_bit]
  by_cases h3 : x.toNat / 2 ^ r % 2 = 1
  · rw [if_pos (by simpa using h3), h3]
  · rw [if_neg (by simpa using h3)]
    omega
theorem rd_at {b : ByteArray} {q r k : Nat} (hq : k / 8 = q) (hr : k % 8 = r) (h : 3 + q < (rdS b).size) : rdF b k = ((rdS b)[3 + q]'h).toNat.testBit r := by
  unfold rdF
  rw [hq, hr, List.getD_eq_getElem?_getD, List.getElem?_eq_getElem (by rw [data_length]; exact h)]
  rfl
theorem roomB_congr {n : Nat} {f g : Nat → Bool} (h : ∀ j, j < n → f j = g j) : roomB n f = roomB n g := by
  unfold roomB roomRaw
  rw [flagL_congr h]
theorem ids_flag (f : Nat → Bool) (n : Nat) : ∀ j, j < n → (fun j : Nat => decide ((j : Int) ∈ idsL f n)) j = f j := by
  intro j hj
  by_cases h : f j = true
  · rw [h]
    exact decide_eq_true ((idsL_mem f n j).2 ⟨j, hj, rfl, h⟩)
  · have h2 : f j = false := by simpa using h
    rw [h2]
    refine decide_eq_false fun hm => ?_
    obtain ⟨i, _, e, hi⟩ := (idsL_mem f n j).1 hm
    have : i = j := by omega
    subst this
    exact h hi
def rdM (b : ByteArray) : Nat := if rdE b = 0 then rdN b else 0
def rdL (b : ByteArray) : List Int := if rdE b = 0 then idsL (rdF b) (rdN b) else []
set_option maxHeartbeats 3200000 in
set_option maxRecDepth 100000 in
theorem readRoom_calls (b : ByteArray) (w : World) (hs : b.size ≤ 1000000000) :
    Calls Try.prog 24 #[.string b] w fun e w' => ∃ v, e = .returned (.tuple #[.int .i64 (rdM b : Int), v, .int .i64 (rdE b)]) ∧ Own w' w.heap.size 1 v (rdL b).length (icells (rdL b)) ∧ Below w.heap.size w w' := by
  have key : ∀ x, x ≠ 0 → rdE b = x → Box (rdM b = 0 ∧ rdL b = [] ∧ rdE b = x) := fun x hx e => ⟨by rw [rdM, e, if_neg hx], by rw [rdL, e, if_neg hx], e⟩
  by_cases h1 : b.size = 256
  case neg =>
    have HE := key 5 (by omega) (by rw [rdE, if_pos h1])
    have h1' : ((b.size : Int) != 256) = true := by rw [bne_iff_ne]; omega
    clear key h1
    go_enter Try.func24, Try.ntmps24
    go_wp2
    go_ret3
    refine ⟨_, by rw [HE.out.1, HE.out.2.2]; rfl, by rw [HE.out.2.1]; exact Own.nil _ _ _, Below.refl _ _⟩
  have HO := fun W => refOpen_calls b W hs
  by_cases h2 : (openB b).2 = 0
  case neg =>
    have HE := key (openB b).2 h2 (by rw [rdE, if_neg (by omega), if_pos h2])
    obtain ⟨y, hy⟩ : ∃ y, (openB b).2 = y := ⟨_, rfl⟩
    have h2' : (y != 0) = true := by rw [bne_iff_ne, ← hy]; exact h2
    rw [hy] at HO HE
    have HO2 : Box _ := ⟨HO⟩
    clear key h2 hy HO
    go_enter Try.func24, Try.ntmps24
    go_wp2_with fail
    refine (HO2.out _).mono ?_
    rintro e w1 ⟨rfl, hb1⟩
    go_wp2
    go_ret3
    refine ⟨_, by rw [HE.out.1, HE.out.2.2]; rfl, by rw [HE.out.2.1]; exact Own.nil _ _ _, hb1⟩
  have h1' : (b.size : Int) = 256 := by omega
  have hsz := rdS_size h1 h2
  have hnl := rdN_lt h1 h2
  obtain ⟨s, hs0⟩ : ∃ s, rdS b = s := ⟨_, rfl⟩
  have hop : openB b = (s, 0) := by rw [← hs0, ← h2]; rfl
  simp only [hop] at HO
  have HO2 : Box _ := ⟨HO⟩
  have HN := fun W => B.refNum_calls (s.extract 1 3) W (by rw [ByteArray.size_extract]; omega)
  have hnn : numL (s.extract 1 3).data.toList = rdN b := by rw [← hs0]; rfl
  rw [numL_B, hnn] at HN
  obtain ⟨n, hn⟩ : ∃ n, rdN b = n := ⟨_, rfl⟩
  rw [hn] at HN hnl
  have HN2 : Box _ := ⟨HN⟩
  have HNn : Box _ := ⟨hn⟩
  have hw : IntKind.i64.wrap (n : Int) = (n : Int) := IntWalk.i64_in _ (by omega)
  have hat := fun (k q r : Nat) (hq : k / 8 = q) (hr : k % 8 = r) => rd_at (b := b) hq hr
  rw [hs0] at hat
  rw [hs0] at hsz
  have HAT : Box _ := ⟨hat⟩
  have hsz' : (s.size : Int) = 252 := by omega
  have b1 : (0 : Int) ≤ 1 := by omega
  clear HO HN hop hnn hat
  by_cases h3 : n < 1 ∨ 1900 < n
  case pos =>
    have HE := key 6 (by omega) (by rw [rdE, if_neg (by omega), if_neg (by omega), hn, if_pos h3])
    clear key h1 h2 hs0 hn
    rcases h3 with h3 | h3
    all_goals
      go_enter Try.func24, Try.ntmps24
      go_wp2_with fail
      refine (HO2.out _).mono ?_
      rintro e w1 ⟨rfl, hb1⟩
      go_wp2_with fail
      refine (HN2.out _).mono ?_
      rintro e w2 ⟨rfl, rfl⟩
      go_wp2
      go_ret3
      refine ⟨_, by rw [HE.out.1, HE.out.2.2]; rfl, by rw [HE.out.2.1]; exact Own.nil _ _ _, hb1⟩
  have hr4 : rdE b = if roomB n (rdF b) = b then 0 else 6 := by rw [rdE, if_neg (by omega), if_neg (by omega), hn, if_neg h3]
  have n1 : 1 ≤ n := by omega
  have n2 : n ≤ 1900 := by omega
  have n3 : (1 : Int) ≤ (n : Int) := by omega
  have n4 : (n : Int) ≤ 1900 := by omega
  have HR4 : Box _ := ⟨hr4⟩
  have KEY : Box _ := ⟨key⟩
  clear key h1 h2 hs0 hn h3 hr4
  go_enter Try.func24, Try.ntmps24
  go_wp2_with fail
  refine (HO2.out _).mono ?_
  rintro e w1 ⟨rfl, hb1⟩
  have HB1 : Box _ := ⟨hb1⟩
  clear hb1
  go_wp2_with fail
  refine (HN2.out _).mono ?_
  rintro e w2 ⟨rfl, rfl⟩
  go_wp2
  go_loopw [8, 9] (fun v i wr => ∃ k : Nat, k ≤ n ∧ i = .int .i64 (k : Int) ∧ Box (Own wr w.heap.size 1 v (idsL (rdF b) k).length (icells (idsL (rdF b) k))) ∧ Box (Below w.heap.size w wr)) (fun _ i _ => n - (intOf i).toNat)
  case atStart => exact ⟨0, Nat.zero_le _, rfl, ⟨Own.nil _ _ _⟩, HB1⟩
  case round =>
    obtain ⟨k, hk, rfl, HN, HW⟩ := hrel
    by_cases hlt : k < n
    · obtain ⟨q, hq⟩ : ∃ q, k / 8 = q := ⟨_, rfl⟩
      obtain ⟨r, hr⟩ : ∃ r, k % 8 = r := ⟨_, rfl⟩
      have hq2 : 3 + q < s.size := by omega
      have HBit : Box _ := ⟨HAT.out k q r hq hr hq2⟩
      have z1 : ((k : Int)).tdiv 8 = (q : Int) := by rw [Int.tdiv_eq_ediv_of_nonneg (by omega)]; omega
      have z2 : ((k : Int)).tmod 8 = (r : Int) := by rw [Int.tmod_eq_emod_of_nonneg (by omega)]; omega
      have z3 : (k : Int) / 8 = (q : Int) := by omega
      have z4 : (k : Int) % 8 = (r : Int) := by omega
      have z5 : (3 : Int) + (q : Int) < (s.size : Int) := by omega
      have z6 : (0 : Int) ≤ 3 + (q : Int) := by omega
      have z7 : ((3 : Int) + (q : Int)).toNat = 3 + q := by omega
      have z8 : (r : Int) < 8 := by omega
      have z9 : (q : Int) < 249 := by omega
      have HS : Box _ := ⟨idsL_succ (rdF b) k⟩
      have hle := idsL_le (rdF b) k
      obtain ⟨x, hx⟩ : ∃ x : UInt8, s[3 + q]'hq2 = x := ⟨_, rfl⟩
      rw [hx] at HBit
      have hbw := bit_walk x r
      rw [← HBit.out] at hbw
      obtain ⟨f, hf⟩ : ∃ f, rdF b k = f := ⟨_, rfl⟩
      rw [hf] at hbw HS
      clear hq hr hf HBit
      cases f
      · rw [if_neg (by simp)] at hbw
        have HE : Box (idsL (rdF b) (k + 1) = idsL (rdF b) k) := ⟨by rw [HS.out]; rfl⟩
        go_wp2_with fail
        go_roundw
        case rel => exact ⟨k + 1, by omega, by go_num, by rw [HE.out]; exact HN, HW⟩
        case measure => simp [intOf]; omega
      · rw [if_pos rfl] at hbw
        have HE : Box (idsL (rdF b) (k + 1) = idsL (rdF b) k ++ [(k : Int)]) := ⟨by rw [HS.out]; rfl⟩
        go_wp2_with (at_builtin; refine appO el_int w.heap.size rfl _ _ rfl rfl (HN.out.alloc _) (news := icells [(k : Int)]) rfl rfl (rowAt_alloc _ _ _) (one_icells _) (by omega) (Nat.le_trans HW.out.size (by simp)) ?_; intro v1 w3 hown1 hg1 _; have HO3 : Box (Own w3 w.heap.size 1 v1 (idsL (rdF b) (k + 1)).length (icells (idsL (rdF b) (k + 1)))) := ⟨(by rw [HE.out, icells, List.map_append, List.length_append]; exact hown1)⟩; have HB3 : Box (Below w.heap.size w w3) := ⟨Own.grown_below (HN.out.alloc _) (HW.out.alloc HW.out.size _) hg1 (Nat.le_refl _)⟩; clear hown1 hg1)
        go_roundw
        case rel => exact ⟨k + 1, by omega, by go_num, HO3, HB3⟩
        case measure => simp [intOf]; omega
    · obtain rfl : k = n := by omega
      obtain ⟨A, c, hv, hc, hr, _⟩ := HN.out.slice
      have HRow : Box _ := ⟨hr⟩
      have hle := idsL_le (rdF b) k
      have HLR : Box _ := ⟨fun W hb => layRoom_calls k A (idsL (rdF b) k).length c (idsL (rdF b) k) W rfl n2 (by omega) (HRow.out.below hb) (by
        intro x hx
        obtain ⟨j, hj, rfl, _⟩ := (idsL_mem _ _ _).1 hx
        omega)⟩
      rw [roomB_congr (ids_flag (rdF b) k)] at HLR
      obtain ⟨z, hz⟩ : ∃ z, roomB k (rdF b) = z := ⟨_, rfl⟩
      rw [hz] at HLR HR4
      subst hv
      clear hr hz
      by_cases hzb : z = b
      · subst hzb
        have hE : rdE z = 0 := by rw [HR4.out, if_pos rfl]
        have HE : Box (rdM z = k ∧ rdL z = idsL (rdF z) k ∧ rdE z = 0) := ⟨by rw [rdM, if_pos hE, HNn.out], by rw [rdL, if_pos hE, HNn.out], hE⟩
        clear hE
        go_wp2_with fail
        refine (HLR.out _ (Below.refl _ _)).mono ?_
        rintro e w3 ⟨rfl, hb3⟩
        have HB3 : Box _ := ⟨hb3⟩
        clear hb3
        go_wp2_with fail
        go_ret3
        exact ⟨_, by rw [HE.out.1, HE.out.2.2]; rfl, by rw [HE.out.2.1]; exact HN.out.below HB3.out, below_trans' HW.out HB3.out⟩
      · have HE := KEY.out 6 (by omega) (by rw [HR4.out, if_neg hzb])
        have hsb : (z.toList == b.toList) = false := by rw [str_beq, decide_eq_false hzb]
        clear hzb
        go_wp2_with fail
        refine (HLR.out _ (Below.refl _ _)).mono ?_
        rintro e w3 ⟨rfl, hb3⟩
        have HB3 : Box _ := ⟨hb3⟩
        clear hb3
        go_wp2_with fail
        go_ret3
        exact ⟨_, by rw [HE.out.1, HE.out.2.2]; rfl, by rw [HE.out.2.1]; exact Own.nil _ _ _, below_trans' HW.out HB3.out⟩

theorem preF_next (f : Nat → Bool) (k : Nat) {b : Bool} (h : f k = b) : upd (preF f k) k b = preF f (k + 1) := by
  cases b
  · rw [preF_skip h]
    funext j
    unfold upd preF
    by_cases e : j = k
    · subst e; simp
    · rw [if_neg e]
  · exact (preF_succ h).symm
theorem rawI_ok (s : ByteArray) (n : Nat) (h : n ≤ s.size) : B.rawI 0 s (n : Int) = (s.extract 0 n, 0, s.extract n s.size) := by
  rw [B.rawI, if_neg (by simp), if_neg (by omega), if_neg (by omega)]
  simp
theorem lowI_ok (s : ByteArray) (n : Nat) (h : n ≤ s.size) (h7 : n ≤ 7) : B.lowI 0 s n = ((numL (s.extract 0 n).data.toList : Int), 0, s.extract n s.size) := by
  have h1 := numL_lt (s.extract 0 n).data.toList
  have h2 : (s.extract 0 n).data.toList.length = n := by rw [data_length, ByteArray.size_extract]; omega
  have h3 : (256 : Nat) ^ n ≤ 256 ^ 7 := Nat.pow_le_pow_right (by decide) h7
  have h4 : (256 : Nat) ^ 7 = 72057594037927936 := by decide
  rw [h2] at h1
  rw [B.lowI, rawI_ok s n h]
  simp only [numL_B]
  rw [if_neg (by omega)]
theorem byteArray_ext_get {a b : ByteArray} (h : a.size = b.size) (h2 : ∀ i (h1 : i < a.size) (h2 : i < b.size), a[i] = b[i]) : a = b := by
  apply ByteArray.ext
  apply Array.ext
  · exact h
  · intro i h3 h4; exact h2 i h3 h4
theorem extract_twice (s : ByteArray) (a b c : Nat) (h : a + c ≤ s.size) : (s.extract a s.size).extract b c = s.extract (a + b) (a + c) := by
  rw [ByteArray.extract_extract]
  congr 1
  omega
set_option maxHeartbeats 3200000 in
set_option maxRecDepth 100000 in
/-- room.Read: the error, or a room that holds what stands there. -/
theorem roomRead_calls (b : ByteArray) (w : World) (hs : b.size ≤ 1000000000) :
    Calls Try.prog 21 #[.string b] w fun e w' => Below w.heap.size w w' ∧ ((rdE b ≠ 0 ∧ e = .returned (.tuple #[.pointer none, .int .i64 (rdE b)])) ∨
      (rdE b = 0 ∧ ∃ g h c, e = .returned (.tuple #[.pointer (some ⟨g, 0, none⟩), .int .i64 0]) ∧ RoomAt w' g h c (rdN b) (rdF b) ∧ w.heap.size ≤ g ∧ w.heap.size ≤ h ∧ 1 ≤ rdN b ∧ rdN b ≤ 1900)) := by
  have key : ∀ x, x ≠ 0 → rdE b = x → Box (rdE b ≠ 0 ∧ rdE b = x) := fun x hx e => ⟨by rw [e]; exact hx, e⟩
  by_cases h1 : b.size = 256
  case neg =>
    have HE := key 5 (by omega) (by rw [rdE, if_pos h1])
    have h1' : ((b.size : Int) != 256) = true := by rw [bne_iff_ne]; omega
    clear key h1
    go_enter Try.func21, Try.ntmps21
    go_wp2
    go_ret2
    exact ⟨Below.refl _ _, .inl ⟨HE.out.1, by rw [HE.out.2]; rfl⟩⟩
  have HO := fun W => crcOpen_calls b W hs
  by_cases h2 : (openB b).2 = 0
  case neg =>
    have HE := key (openB b).2 h2 (by rw [rdE, if_neg (by omega), if_pos h2])
    obtain ⟨y, hy⟩ : ∃ y, (openB b).2 = y := ⟨_, rfl⟩
    have h2' : (y != 0) = true := by rw [bne_iff_ne, ← hy]; exact h2
    rw [hy] at HO HE
    have h1' : (b.size : Int) = 256 := by omega
    have HO2 : Box _ := ⟨HO⟩
    clear key h2 hy HO
    go_enter Try.func21, Try.ntmps21
    go_wp2_with fail
    refine (HO2.out _).mono ?_
    rintro e w1 ⟨rfl, hb1⟩
    go_wp2
    go_ret2
    exact ⟨hb1, .inl ⟨HE.out.1, by rw [HE.out.2]; rfl⟩⟩
  have h1' : (b.size : Int) = 256 := by omega
  have hsz := rdS_size h1 h2
  have hnl := rdN_lt h1 h2
  obtain ⟨s, hs0⟩ : ∃ s, rdS b = s := ⟨_, rfl⟩
  have hop : openB b = (s, 0) := by rw [← hs0, ← h2]; rfl
  simp only [hop] at HO
  have HO2 : Box _ := ⟨HO⟩
  rw [hs0] at hsz
  have hl1 := lowI_ok s 1 (by omega) (by omega)
  obtain ⟨x1, hx1⟩ : ∃ x : Int, (numL (s.extract 0 1).data.toList : Int) = x := ⟨_, rfl⟩
  obtain ⟨t1, ht1⟩ : ∃ t, s.extract 1 s.size = t := ⟨_, rfl⟩
  rw [hx1, ht1] at hl1
  replace ht1 := ht1.symm
  have hl2 := lowI_ok t1 2 (by rw [ht1, ByteArray.size_extract]; omega) (by omega)
  have he1 : t1.extract 0 2 = s.extract 1 3 := by rw [ht1, extract_twice _ _ _ _ (by omega)]
  have he2 : t1.extract 2 t1.size = s.extract 3 s.size := by
    have : t1.size = 251 := by rw [ht1, ByteArray.size_extract]; omega
    rw [this, ht1, extract_twice _ _ _ _ (by omega), hsz]
  have he3 : numL (s.extract 1 3).data.toList = rdN b := by rw [← hs0]; rfl
  obtain ⟨t2, ht2⟩ : ∃ t, s.extract 3 s.size = t := ⟨_, rfl⟩
  rw [he1, he2, ht2, he3] at hl2
  replace ht2 := ht2.symm
  have hz1 : t1.size = 251 := by rw [ht1, ByteArray.size_extract]; omega
  have hz2 : t2.size = 249 := by rw [ht2, ByteArray.size_extract]; omega
  obtain ⟨n, hn⟩ : ∃ n, rdN b = n := ⟨_, rfl⟩
  rw [hn] at hnl hl2 ⊢
  have C1 := fun (g : Nat) (W : World) (hI : B.InS W g 0 s) => B.inByte_calls g 0 s W hI (by omega)
  have C2 := fun (g : Nat) (W : World) (hI : B.InS W g 0 t1) => B.inHalf_calls g 0 t1 W hI (by omega)
  rw [hl1] at C1
  rw [hl2] at C2
  have HC1 : Box _ := ⟨C1⟩
  have HC2 : Box _ := ⟨C2⟩
  clear HO C1 C2 hl1 hl2 ht1 hop he1 he2 he3 hx1
  by_cases h3 : n < 1 ∨ 1900 < n
  case pos =>
    have HE := key 6 (by omega) (by rw [rdE, if_neg (by omega), if_neg (by omega), hn, if_pos h3])
    have HNb := roomNew_bad (n : Int) (.slice none 0 0)
    have h3' : (n : Int) < 1 ∨ 1900 < (n : Int) := by omega
    have HN : Box _ := ⟨fun W => HNb W h3'⟩
    clear key h1 h2 hs0 hn h3 h3' HNb
    go_enter Try.func21, Try.ntmps21
    go_wp2_with fail
    refine (HO2.out _).mono ?_
    rintro e w1 ⟨rfl, hb1⟩
    have HB1 : Box _ := ⟨hb1⟩
    clear hb1
    go_wp2_with fail
    refine (B.on_calls s _).mono ?_
    rintro e w2 ⟨rfl, hi2, hb2⟩
    have HB2 : Box _ := ⟨bel_calls HB1.out hb2⟩
    have HI2 : Box _ := ⟨hi2⟩
    clear hb2 hi2
    go_wp2_with fail
    refine (HC1.out _ _ HI2.out).mono ?_
    rintro e w3 ⟨rfl, hi3, hb3⟩
    have HB3 : Box (Below w.heap.size w w3) := ⟨hb3.below HB2.out HB2.out.size (by intro k hk; simp at hk; subst hk; exact HB1.out.size)⟩
    have HI3 : Box _ := ⟨hi3⟩
    clear hb3 hi3
    go_wp2_with fail
    refine (HC2.out _ _ HI3.out).mono ?_
    rintro e w4 ⟨rfl, hi4, hb4⟩
    have HB4 : Box (Below w.heap.size w w4) := ⟨hb4.below HB3.out HB3.out.size (by intro k hk; simp at hk; subst hk; exact HB1.out.size)⟩
    clear hb4 hi4
    go_wp2_with fail
    refine (HN.out _).mono ?_
    rintro e w5 ⟨rfl, rfl⟩
    go_wp2_with fail
    go_ret2
    exact ⟨HB4.out, .inl ⟨HE.out.1, by rw [HE.out.2]; rfl⟩⟩
  have hr4 : rdE b = if roomB n (rdF b) = b then 0 else 6 := by rw [rdE, if_neg (by omega), if_neg (by omega), hn, if_neg h3]
  have n1 : 1 ≤ n := by omega
  have n2 : n ≤ 1900 := by omega
  obtain ⟨m, hm⟩ : ∃ m, (n + 7) / 8 = m := ⟨_, rfl⟩
  have HM : Box _ := ⟨hm⟩
  have hm1 : m ≤ 240 := by omega
  have y1 : (((n : Int) + 7).tdiv 8) = (m : Int) := by rw [Int.tdiv_eq_ediv_of_nonneg (by omega)]; omega
  have y2 : ((n : Int) + 7) / 8 = (m : Int) := by omega
  have y3 : min (n : Int) (8 * (m : Int)) = (n : Int) := by omega
  have hrw := rawI_ok t2 m (by omega)
  obtain ⟨M, hMd⟩ : ∃ M, t2.extract 0 m = M := ⟨_, rfl⟩
  obtain ⟨t3, ht3⟩ : ∃ t, t2.extract m t2.size = t := ⟨_, rfl⟩
  have hMs : M.size = m := by rw [← hMd, ByteArray.size_extract]; omega
  rw [hMd, ht3] at hrw
  have C3 := fun (g : Nat) (W : World) (hI : B.InS W g 0 t2) => B.inRaw_calls g (m : Int) 0 t2 W hI (by omega)
  rw [hrw] at C3
  have HC3 : Box _ := ⟨C3⟩
  have hat : ∀ (k q r : Nat), k / 8 = q → k % 8 = r → (h : q < M.size) → rdF b k = (M[q]'h).toNat.testBit r := by
    intro k q r hq hr h
    have h2 : 3 + q < (rdS b).size := by rw [hs0]; omega
    rw [rd_at (b := b) hq hr h2]
    congr 2
    have e1 : ∀ (u : ByteArray) (hu : rdS b = u) (h3 : 3 + q < u.size), (rdS b)[3 + q]'h2 = u[3 + q]'h3 := by intro u hu h3; subst hu; rfl
    rw [e1 s hs0 (by omega)]
    have e2 : ∀ (u : ByteArray) (hu : t2.extract 0 m = u) (h3 : q < u.size), u[q]'h3 = s[3 + q]'(by omega) := by
      intro u hu h3
      subst hu
      rw [ByteArray.getElem_extract]
      have e3 : ∀ (v : ByteArray) (hv : v = s.extract 3 s.size) (h4 : 0 + q < v.size), v[0 + q]'h4 = s[3 + q]'(by omega) := by
        intro v hv h4
        subst hv
        rw [ByteArray.getElem_extract]
        congr 1
        omega
      exact e3 t2 ht2 _
    exact (e2 M hMd h).symm
  have HAT : Box _ := ⟨hat⟩
  have HR4 : Box _ := ⟨hr4⟩
  have HNew : Box _ := ⟨fun W => roomNew_calls n none 0 0 [] W rfl n1 n2 (by omega) (.inl rfl) (by simp)⟩
  have KEY : Box _ := ⟨key⟩
  have hMs' : (M.size : Int) = (m : Int) := by omega
  have y4 : (1 : Int) ≤ (n : Int) := by omega
  have y5 : (n : Int) ≤ 1900 := by omega
  have y6 : (m : Int) ≤ 240 := by omega
  have HNn : Box _ := ⟨hn⟩
  clear key h1 h2 hs0 hn h3 hr4 hm hrw hMd ht3 C3 hat
  go_enter Try.func21, Try.ntmps21
  go_wp2_with fail
  refine (HO2.out _).mono ?_
  rintro e w1 ⟨rfl, hb1⟩
  have HB1 : Box _ := ⟨hb1⟩
  clear hb1
  go_wp2_with fail
  refine (B.on_calls s _).mono ?_
  rintro e w2 ⟨rfl, hi2, hb2⟩
  have HB2 : Box _ := ⟨bel_calls HB1.out hb2⟩
  have HI2 : Box _ := ⟨hi2⟩
  clear hb2 hi2
  go_wp2_with fail
  refine (HC1.out _ _ HI2.out).mono ?_
  rintro e w3 ⟨rfl, hi3, hb3⟩
  have HB3 : Box (Below w.heap.size w w3) := ⟨hb3.below HB2.out HB2.out.size (by intro k hk; simp at hk; subst hk; exact HB1.out.size)⟩
  have HI3 : Box _ := ⟨hi3⟩
  clear hb3 hi3
  go_wp2_with fail
  refine (HC2.out _ _ HI3.out).mono ?_
  rintro e w4 ⟨rfl, hi4, hb4⟩
  have HB4 : Box (Below w.heap.size w w4) := ⟨hb4.below HB3.out HB3.out.size (by intro k hk; simp at hk; subst hk; exact HB1.out.size)⟩
  have HI4 : Box _ := ⟨hi4⟩
  clear hb4 hi4
  go_wp2_with fail
  refine (HNew.out _).mono ?_
  rintro e w5 ⟨rfl, hr5, hb5⟩
  have HB5 : Box (Below w.heap.size w w5) := ⟨bel_calls HB4.out hb5⟩
  have HI5 : Box _ := ⟨HI4.out.below hb5⟩
  have HR5 : Box _ := ⟨hr5⟩
  have k5 := hr5.c0
  clear hb5 hr5
  obtain ⟨g, hg⟩ : ∃ g, w4.heap.size = g := ⟨_, rfl⟩
  rw [hg] at HR5 k5 ⊢
  have HG : Box (w.heap.size ≤ g ∧ w1.heap.size < g) := ⟨by have := HB4.out.size; omega, by have h := World.block_lt_of_cell? _ _ HI4.out.c0; simp only at h; omega⟩
  go_wp2_with fail
  refine (HC3.out _ _ HI5.out).mono ?_
  rintro e w6 ⟨rfl, hi6, hb6⟩
  have HB6 : Box (Below w.heap.size w w6) := ⟨hb6.below HB5.out HB5.out.size (by intro k hk; simp at hk; subst hk; exact HB1.out.size)⟩
  have HR6 : Box _ := ⟨HR5.out.touched hb6 (by simp; have := HG.out; omega) (by simp; have := HG.out; omega)⟩
  have k6 := HR6.out.c0
  clear hb6 hi6 k5
  go_wp2
  go_loopw [53] (fun i wr => ∃ k : Nat, k ≤ n ∧ i = .int .i64 (k : Int) ∧ Box (RoomAt wr (g + 1) g n n (preF (rdF b) k)) ∧ Box (Below w.heap.size w wr)) (fun i _ => n - (intOf i).toNat)
  case atStart => exact ⟨0, Nat.zero_le _, rfl, ⟨HR6.out.congr fun j _ => by simp [preF]⟩, HB6⟩
  case round =>
    obtain ⟨k, hk, rfl, HA, HW⟩ := hrel
    by_cases hlt : k < n
    · obtain ⟨q, hq⟩ : ∃ q, k / 8 = q := ⟨_, rfl⟩
      obtain ⟨r, hr⟩ : ∃ r, k % 8 = r := ⟨_, rfl⟩
      have hq2 : q < M.size := by have := HM.out; omega
      have HBit : Box _ := ⟨HAT.out k q r hq hr hq2⟩
      have z1 : ((k : Int)).tdiv 8 = (q : Int) := by rw [Int.tdiv_eq_ediv_of_nonneg (by omega)]; omega
      have z2 : ((k : Int)).tmod 8 = (r : Int) := by rw [Int.tmod_eq_emod_of_nonneg (by omega)]; omega
      have z3 : (k : Int) / 8 = (q : Int) := by omega
      have z4 : (k : Int) % 8 = (r : Int) := by omega
      have z5 : (q : Int) < (M.size : Int) := by omega
      have z8 : (r : Int) < 8 := by omega
      obtain ⟨x, hx⟩ : ∃ x : UInt8, M[q]'hq2 = x := ⟨_, rfl⟩
      rw [hx] at HBit
      have hbw := bit_walk x r
      rw [← HBit.out] at hbw
      have k0 := HA.out.c0
      obtain ⟨k1, f1⟩ := HA.out.cell hlt
      obtain ⟨f, hf⟩ : ∃ f, rdF b k = f := ⟨_, rfl⟩
      have HPN : Box _ := ⟨preF_next (rdF b) k hf⟩
      have HSt : Box _ := ⟨HA.out.set hlt f⟩
      have HBt : Box (Below w.heap.size w (wr.setCell ⟨g, k, none⟩ (.bool f))) := ⟨HW.out.setCell HG.out.1 _⟩
      rw [HPN.out] at HSt
      rw [hf] at hbw
      clear hq hr hf HBit k6
      cases f
      · rw [if_neg (by simp)] at hbw
        go_wp2
        go_region
        go_wp2
        go_roundw
        case rel => exact ⟨k + 1, by omega, by go_num, ⟨HSt.out.below (bel_drew (Below.refl _ _))⟩, ⟨bel_drew HBt.out⟩⟩
        case measure => simp [intOf]; omega
      · rw [if_pos rfl] at hbw
        go_wp2
        go_region
        go_wp2
        go_roundw
        case rel => exact ⟨k + 1, by omega, by go_num, ⟨HSt.out.below (bel_drew (Below.refl _ _))⟩, ⟨bel_drew HBt.out⟩⟩
        case measure => simp [intOf]; omega
    · obtain rfl : k = n := by omega
      have HLR : Box _ := ⟨roomLay_calls (g + 1) g k k (preF (rdF b) k) wr HA.out n2⟩
      rw [roomB_congr (f := preF (rdF b) k) (g := rdF b) (fun j hj => by simp [preF, hj])] at HLR
      obtain ⟨z, hz⟩ : ∃ z, roomB k (rdF b) = z := ⟨_, rfl⟩
      rw [hz] at HLR HR4
      clear hz
      by_cases hzb : z = b
      · subst hzb
        have hE : rdE z = 0 := by rw [HR4.out, if_pos rfl]
        have HE : Box (rdE z = 0) := ⟨hE⟩
        clear hE
        go_wp2_with fail
        refine (HLR.out).mono ?_
        rintro e w7 ⟨rfl, hb7⟩
        have HB7 : Box _ := ⟨hb7⟩
        clear hb7
        go_wp2_with fail
        go_ret2
        exact ⟨below_trans' HW.out HB7.out, .inr ⟨HE.out, g + 1, g, k, rfl, (HA.out.congr fun j hj => by simp [preF, hj]).below HB7.out, by have := HG.out; omega, HG.out.1, n1, n2⟩⟩
      · have HE := KEY.out 6 (by omega) (by rw [HR4.out, if_neg hzb])
        have hsb : (z.toList == b.toList) = false := by rw [str_beq, decide_eq_false hzb]
        clear hzb
        go_wp2_with fail
        refine (HLR.out).mono ?_
        rintro e w7 ⟨rfl, hb7⟩
        have HB7 : Box _ := ⟨hb7⟩
        clear hb7
        go_wp2_with fail
        go_ret2
        exact ⟨below_trans' HW.out HB7.out, .inl ⟨HE.out.1, by rw [HE.out.2]; rfl⟩⟩
end Go.Proofs.Ytoadelcdcfdmfaa
