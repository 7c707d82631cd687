/- crc.Seal. -/
import Derived.Test.YteokcbgaljhpgaaBitsPad
import Derived.Test.YteokcbgaljhpgaaCrcOpen
namespace Go.Proofs.Yteokcbgaljhpgaa
open Go.RowKit

theorem OutAt.touched {w w1 : World} {g : Nat} {v : Value} {l : List UInt8} {bs : List Nat} (h : OutAt w g v l) (hT : Touched w w1 bs) (hg : g ∉ bs) (hv : ∀ k, v.ownBlock = some k → k ∉ bs) : OutAt w1 g v l := by
  refine ⟨?_, (hT.cell h.lt hg).trans h.c0, (hT.cell h.lt hg).trans h.c1, (hT.free h.lt hg).trans h.f0, (hT.free h.lt hg).trans h.f1⟩
  obtain ⟨h1, h2⟩ := h.own
  refine ⟨h1, ?_⟩
  rcases h2 with hn | ⟨b, cap, cur, rfl, hb, hgg, rest⟩
  · exact .inl hn
  · exact .inr ⟨b, cap, cur, rfl, hb, by rw [hT.block b (Array.getElem?_eq_some_iff.1 hgg).1 (hv b (by simp [Value.ownBlock]))]; exact hgg, rest⟩
theorem OutAt.below {w w1 : World} {g : Nat} {v : Value} {l : List UInt8} (h : OutAt w g v l) (hb : Below w.heap.size w w1) : OutAt w1 g v l :=
  h.touched (Touched.of_below hb []) (by simp) (by simp)
theorem OutAt.alloc {w : World} {g : Nat} {v : Value} {l : List UInt8} (h : OutAt w g v l) (o : Obj) : OutAt (w.alloc o) g v l := h.below ((Below.refl _ _).alloc (Nat.le_refl _) o)
theorem outNew (w : World) : OutAt (w.alloc (.cells #[.slice none 0 0, .int .i64 0] 88)) w.heap.size (.slice none 0 0) [] := by
  have hb := heap_alloc_new w (.cells #[.slice none 0 0, .int .i64 0] 88)
  exact ⟨World.ownsRow_nil _ _ _ _, cell_of_row _ _ 0 _ _ (0, 0) hb, cell_of_row _ _ 1 _ _ (0, 0) hb, frozen_of_row _ _ 0 _ _ hb, frozen_of_row _ _ 1 _ _ hb⟩
theorem RowAt.kept_new {w w1 w2 : World} {A : Option Addr} {cs : List Value} {bs : List Nat} (h : RowAt w A cs) (hb : Below w.heap.size w w1) (hT : Touched w1 w2 bs) (hs : ∀ k ∈ bs, w.heap.size ≤ k) : RowAt w2 A cs :=
  h.below (hT.below hb hb.size hs)

theorem rowAt_alloc_at (w : World) (cs : List Value) (t : TypeId) {k : Nat} (hk : k = w.heap.size) : RowAt (w.alloc (.cells cs.toArray t)) (some ⟨k, 0, none⟩) cs := by
  subst hk
  exact rowAt_alloc w cs t
theorem mk_toList (l : List UInt8) : (⟨l.toArray⟩ : ByteArray).data.toList = l := by simp

set_option maxHeartbeats 1600000 in
theorem crcSeal_calls (A : Option Addr) (n : Int) (c : Nat) (ts : List ByteArray) (w : World) (hn : -9223372036854775808 ≤ n ∧ n ≤ 9223372036854775807) (hts : ts.length ≤ 4000000000000000000) (hsz : totalLen ts ≤ 1000000000) (hR : RowAt w A (scells ts)) :
    Calls Try.prog 18 #[.int .i64 n, .slice A ts.length c] w fun e w' => e = .returned (.tuple #[.string (sealB n (joinB ts)).1, .int .i64 (sealB n (joinB ts)).2]) ∧ Below w.heap.size w w' := by
  have HR : Box _ := ⟨hR⟩
  clear hR
  by_cases h1 : n < 4
  · have e : Box (sealB n (joinB ts) = (ByteArray.empty, 1)) := ⟨by rw [sealB, if_pos (Or.inl h1)]⟩
    go_enter Try.func18, Try.ntmps18
    go_wp2
    go_ret2
    exact ⟨by rw [e.out]; rfl, Below.refl _ _⟩
  by_cases h2 : 65536 < n
  · have e : Box (sealB n (joinB ts) = (ByteArray.empty, 1)) := ⟨by rw [sealB, if_pos (Or.inr h2)]⟩
    go_enter Try.func18, Try.ntmps18
    go_wp2
    go_ret2
    exact ⟨by rw [e.out]; rfl, Below.refl _ _⟩
  obtain ⟨m, rfl⟩ : ∃ m : Nat, n = (m : Int) + 4 := ⟨(n - 4).toNat, by omega⟩
  have hm : m ≤ 65532 := by omega
  clear hn
  have hJ := joinB_size ts
  obtain ⟨J, hJJ⟩ : ∃ J, joinB ts = J := ⟨_, rfl⟩
  have HJ : Box (joinB ts = J) := ⟨hJJ⟩
  rw [hJJ] at hJ
  have hJs : J.size ≤ 1000000000 := by omega
  rw [hJJ]
  clear hJJ hJ
  have HS := Lib.hid hsz
  clear hsz
  have y1 : (m : Int) + 4 - 4 = (m : Int) := by omega
  have H0 : Box (OutAt (w.alloc (.cells #[.slice none 0 0, .int .i64 0] 88)) w.heap.size (.slice none 0 0) []) := ⟨outNew w⟩
  have B0 : Box (Below w.heap.size w (w.alloc (.cells #[.slice none 0 0, .int .i64 0] 88))) := ⟨(Below.refl _ _).alloc (Nat.le_refl _) _⟩
  go_enter Try.func18, Try.ntmps18
  go_wp2_with fail
  refine (outRaw_calls w.heap.size (.slice none 0 0) [] A c ts _ H0.out hts (by have := HS.out; simp; omega) (fun w' hT => HR.out.kept_new B0.out hT (by intro k hk; simp [Value.ownBlock] at hk; omega))).mono ?_
  rintro e w1 ⟨v1, rfl, hO1, hT1, hF1⟩
  rw [List.nil_append, HJ.out] at hO1
  have HO1 : Box _ := ⟨hO1⟩
  have hB1 : Below w.heap.size w w1 := hT1.below B0.out B0.out.size (by intro k hk; simp [Value.ownBlock] at hk; omega)
  have HV1 : Box (∀ b, v1.ownBlock = some b → w.heap.size ≤ b) := ⟨fun b hb => by
    rcases hF1 b hb with h | h
    · simp [Value.ownBlock] at h
    · simp at h; omega⟩
  have HB1 : Box _ := ⟨hB1⟩
  clear hO1 hT1 hF1 hB1 H0 B0
  by_cases h3 : m < J.size
  · have e : Box (sealB ((m : Int) + 4) J = (ByteArray.empty, 2)) := ⟨by rw [sealB, if_neg (by omega), if_pos (by omega)]⟩
    go_wp2_with fail
    refine (outPad_long w.heap.size v1 _ m _ HO1.out (by rw [data_length]; omega) (by omega)).mono ?_
    rintro e w2 ⟨rfl, hE, hT2⟩
    have HE : Box _ := ⟨hE⟩
    have HB2 : Box (Below w.heap.size w w2) := ⟨hT2.below HB1.out HB1.out.size (by intro k hk; simp at hk; omega)⟩
    clear hE hT2
    go_wp2_with fail
    refine (outEnd_err w.heap.size 2 (by decide) _ HE.out.c1).mono ?_
    rintro e w3 ⟨rfl, hb3⟩
    have HB3 : Box (Below w.heap.size w w3) := ⟨below_trans' HB2.out hb3⟩
    clear hb3
    go_wp2_with fail
    go_ret2
    exact ⟨by rw [e.out]; rfl, HB3.out⟩
  have hle : J.size ≤ m := by omega
  have e : Box (sealB ((m : Int) + 4) J = (sealOk J (m - J.size), 0)) := ⟨by
    rw [sealB, if_neg (by omega), if_neg (by omega)]
    have e4 : ((m : Int) + 4).toNat - 4 - J.size = m - J.size := by omega
    rw [e4]⟩
  go_wp2_with fail
  refine (outPad_ok w.heap.size v1 _ m _ HO1.out (by rw [data_length]; omega) (by omega)).mono ?_
  rintro e w2 ⟨v2, rfl, hO2, hT2, hF2⟩
  have HO2 : Box _ := ⟨hO2⟩
  have HB2 : Box (Below w.heap.size w w2) := ⟨hT2.below HB1.out HB1.out.size (by intro k hk; simp at hk; exact hk.elim (fun h => by omega) (fun h => HV1.out k h))⟩
  clear hO2 hT2 hF2
  go_wp2_with fail
  refine (outEnd_calls w.heap.size v2 _ _ HO2.out).mono ?_
  rintro e w3 ⟨rfl, hb3⟩
  have HB3 : Box (Below w.heap.size w w3) := ⟨below_trans' HB2.out hb3⟩
  clear hb3 HO2 HO1
  have hz : (⟨(J.data.toList ++ List.replicate (m - J.data.toList.length) 0).toArray⟩ : ByteArray) = J ++ zerosB (m - J.size) := by
    apply ByteArray.ext
    rw [ByteArray.data_append, data_length]
    apply Array.toList_inj.mp
    simp [zerosB]
  rw [hz]
  have hqs : (J ++ zerosB (m - J.size)).size ≤ 65536 := by rw [ByteArray.size_append, zerosB_size]; omega
  have HE : Box (sealOk J (m - J.size) = (J ++ zerosB (m - J.size)) ++ lowS (crcSum (J ++ zerosB (m - J.size)).data.toList).toNat 4) := ⟨rfl⟩
  clear hz
  obtain ⟨q, hq⟩ : ∃ q, J ++ zerosB (m - J.size) = q := ⟨_, rfl⟩
  rw [hq] at hqs HE ⊢
  clear hq
  have HZ : Box (OutAt (w3.alloc (.cells #[.slice none 0 0, .int .i64 0] 88)) w3.heap.size (.slice none 0 0) []) := ⟨outNew w3⟩
  go_wp2_with fail
  have HT1 : Hid ((([] : List UInt8).length : Int) + totalLen [q] ≤ 140737488355328) := by rw [Hid]; simp [totalLen]; omega
  refine (outRaw_calls w3.heap.size (.slice none 0 0) [] _ 1 [q] _ ?_ ?_ HT1.out ?_).mono ?_
  · exact HZ.out.alloc _
  · simp
  · exact fun w' hT => rowAt_touched (rowAt_alloc_at (w3.alloc _) (scells [q]) _ (by simp)) hT (by simp) (by simp [Value.ownBlock])
  rintro e w4 ⟨v4, rfl, hO4, hT4, hF4⟩
  rw [List.nil_append] at hO4
  have hj : joinB [q] = q := by simp [joinB]
  rw [hj] at hO4
  have HO4 : Box _ := ⟨hO4⟩
  have HS3 := HB3.out.size
  have HB4 : Box (Below w.heap.size w w4) := ⟨hT4.below ((HB3.out.alloc HS3 _).alloc (by simp; omega) _) (by simp; omega) (by intro k hk; simp [Value.ownBlock] at hk; omega)⟩
  have HV4 : Box (∀ b, v4.ownBlock = some b → w.heap.size ≤ b) := ⟨fun b hb => by
    rcases hF4 b hb with h | h
    · simp [Value.ownBlock] at h
    · simp at h; omega⟩
  have HG : w3.heap.size < w4.heap.size := HO4.out.lt
  clear hO4 hT4 hF4 HZ hj
  go_wp2_with fail
  refine (crcOf_calls _ 1 1 [q] _ rfl (by omega) (all_one (by omega)) (rowAt_alloc _ (scells [q]) _)).mono ?_
  rintro e w5 ⟨rfl, hb5⟩
  have hj : joinB [q] = q := by simp [joinB]
  rw [hj]
  have HO5 : Box _ := ⟨(HO4.out.alloc _).below hb5⟩
  have hb5' : Below w4.heap.size w4 w5 := Below.trans ((Below.refl _ _).alloc (Nat.le_refl _) _) (hb5.mono (by simp))
  have HB5 : Box (Below w.heap.size w w5) := ⟨HB4.out.trans (hb5'.mono HB4.out.size)⟩
  have HG5 : w3.heap.size < w5.heap.size := Nat.lt_of_lt_of_le HG hb5'.size
  clear hb5 hb5' hj HO4
  have hcc := w_lt (crcSum q.data.toList)
  obtain ⟨x, hx⟩ : ∃ x, crcSum q.data.toList = x := ⟨_, rfl⟩
  rw [hx] at HE hcc ⊢
  clear hx
  have y9 := IntWalk.i64_in (x.toNat : Int) (by omega)
  go_wp2_with fail
  refine (outWord_calls w3.heap.size v4 _ _ 1 x.toNat _ (HO5.out.alloc _) (by omega) (by rw [data_length]; omega) (fun w' hT => rowAt_touched (rowAt_alloc _ [.int .i64 (x.toNat : Int)] _) hT (by simp) (by
    intro hm
    rcases List.mem_cons.1 hm with h | h
    · omega
    · have := (HO5.out.own.lt _ (by simpa using h)).2
      omega))).mono ?_
  rintro e w6 ⟨v6, rfl, hO6, hT6, hF6⟩
  have HO6 : Box _ := ⟨hO6⟩
  have HB6 : Box (Below w.heap.size w w6) := ⟨hT6.below (HB5.out.alloc HB5.out.size _) (by have := HB5.out.size; simp; omega) (by intro k hk; simp at hk; exact hk.elim (fun h => by omega) (fun h => HV4.out k h))⟩
  clear hO6 hT6 hF6
  go_wp2_with fail
  refine (outEnd_calls w3.heap.size v6 _ _ HO6.out).mono ?_
  rintro e w7 ⟨rfl, hb7⟩
  have HB7 : Box (Below w.heap.size w w7) := ⟨below_trans' HB6.out hb7⟩
  have HF : ((⟨(q.data.toList ++ lowL x.toNat 4).toArray⟩ : ByteArray) = q ++ lowS x.toNat 4) := by
    apply ByteArray.ext
    rw [ByteArray.data_append]
    apply Array.toList_inj.mp
    simp [lowS]
  rw [HF]
  clear hb7 HF
  go_wp2_with fail
  go_ret2
  exact ⟨by rw [e.out, HE.out]; rfl, HB7.out⟩
end Go.Proofs.Yteokcbgaljhpgaa
