/- The law SplitFew. -/
import Derived.Test.YtkhfecgmkhjpiaaSplitEdit
import Derived.Laws.BitsAllLaws
namespace Go.Proofs.Ytkhfecgmkhjpiaa
open Go.RowKit
set_option linter.unusedVariables false

theorem xor_num (x y : UInt8) : ((x ^^^ y).toNat : Int) = ((x.toNat ^^^ y.toNat : Nat) : Int) := by simp
theorem set_parts {l : List UInt8} {k : Nat} (hk : k < l.length) (u : UInt8) : (l.set k u).take k = l.take k ∧ (l.set k u).drop (k + 1) = l.drop (k + 1) := by
  refine ⟨?_, ?_⟩
  · rw [List.take_set_of_le (Nat.le_refl _)]
  · rw [List.drop_set_of_lt (by omega)]
theorem few_pure (s t : List UInt8) (k : Nat) (hk : k < s.length) (u : UInt8) (ht : t = s.set k u) :
    (againR (minF 64) t (cutA (minF 64) 0 s) k ((k : Int) + 1) 0).1 = cutA (minF 64) 0 t ∧ (againR (minF 64) t (cutA (minF 64) 0 s) k ((k : Int) + 1) 0).2 ≤ 1 := by
  have hB : Best (minF 64) := best_min (by omega)
  obtain ⟨h1, h2⟩ := set_parts hk u
  rw [← ht] at h1 h2
  have hl : t.length = s.length := by rw [ht, List.length_set]
  have a1 := again_ok hB (s := s) (t := t) (a := k) (b := k + 1) (g := 0) h1 (by rw [h2]; congr 1) (by omega) (by omega) (by omega) (by omega)
  have a2 := again_few hB (s := s) (t := t) (a := k) (b := k + 1) h1 h2 (by omega) (by omega) (by omega) hl (fun x _ => by unfold minF; rw [List.length_drop, List.length_drop, hl])
  exact ⟨by simpa using a1.1, by simpa using a2⟩
set_option maxHeartbeats 4000000 in
set_option maxRecDepth 100000 in
theorem splitFew_calls (s : ByteArray) (at_ by_ : Int) (w : World) (_hss : s.size ≤ 140737488351232) (_ha : -9223372036854775808 ≤ at_ ∧ at_ ≤ 9223372036854775807) (_hb : -9223372036854775808 ≤ by_ ∧ by_ ≤ 9223372036854775807) :
    Calls Try.prog 8 #[.string s, .int .i64 at_, .int .i64 by_] w fun e w' => e = .returned (.bool true) ∧ Below w.heap.size w w' := by
  by_cases hin : s.size ≤ 1200 ∧ 1 ≤ s.size ∧ 0 ≤ at_
  case neg =>
    by_cases h1 : s.size ≤ 1200
    all_goals by_cases h2 : 1 ≤ s.size
    all_goals by_cases h3 : 0 ≤ at_
    all_goals first | (exfalso; exact hin ⟨h1, h2, h3⟩) | (exfalso; omega) | skip
    all_goals
      clear hin
      have i2 : ((s.size : Int) < 1) ↔ ¬ 1 ≤ s.size := by omega
      go_enter Try.func8, Try.ntmps8
      go_wp2_with fail
      refine (splitAlive_calls _).mono ?_
      rintro e w1 ⟨rfl, hb1⟩
      have HB1 := Lib.hid hb1
      clear hb1
      go_wp2
      go_ret
      exact ⟨rfl, HB1.out⟩
  obtain ⟨h1, h2, h3⟩ := hin
  obtain ⟨a, rfl⟩ := Int.eq_ofNat_of_zero_le h3
  obtain ⟨y, hy⟩ : ∃ y : UInt8, by_ % 256 = (y.toNat : Int) := ⟨UInt8.ofNat (by_ % 256).toNat, by simp; omega⟩
  have hyw : IntKind.u8.wrap by_ = (y.toNat : Int) := by rw [IntKind.wrap_u8']; exact hy
  have hsl := data_length s
  obtain ⟨j, hj⟩ : ∃ j, a % s.size = j := ⟨_, rfl⟩
  have hjq : j < s.size := by rw [← hj]; exact Nat.mod_lt _ (by omega)
  have hji : (a : Int) % (s.size : Int) = (j : Int) := by rw [← hj]; simp
  have hjl : j < s.data.toList.length := by rw [hsl]; exact hjq
  obtain ⟨x, hxx⟩ : ∃ x, s.data.toList[j] = x := ⟨_, rfl⟩
  have hxa : s.data.toList[j]? = some x := by rw [List.getElem?_eq_getElem hjl, hxx]
  have hxor : bits BinOp.xor IntKind.u8 (x.toNat : Int) (y.toNat : Int) = ((x ^^^ y).toNat : Int) := by rw [u8_xor_nat _ _ x.toNat_lt y.toNat_lt, xor_num]
  obtain ⟨u, hu⟩ : ∃ u, x ^^^ y = u := ⟨_, rfl⟩
  rw [hu] at hxor
  obtain ⟨t, ht⟩ : ∃ t : ByteArray, (⟨(s.data.toList.set j u).toArray⟩ : ByteArray) = t := ⟨_, rfl⟩
  have htd : t.data.toList = s.data.toList.set j u := by rw [← ht]
  have hts : t.size = s.size := by rw [← ht, mk_size, List.length_set, hsl]
  have hfew := few_pure s.data.toList t.data.toList j hjl u htd
  obtain ⟨L0, hL0⟩ : ∃ L0, cutA (minF 64) 0 s.data.toList = L0 := ⟨_, rfl⟩
  obtain ⟨L, hL⟩ : ∃ L, cutA (minF 64) 0 t.data.toList = L := ⟨_, rfl⟩
  have hor : ∀ p ∈ L0, p.2 ≤ 9223372036854775807 := fun p hp => by rw [← hL0] at hp; have := cut_range (best_min (n := 64) (by omega)).toGood hp; omega
  have hRf0 := fun W => Form.one.ref s W (by omega)
  have hRf := fun W => Form.one.ref t W (by omega)
  rw [hL0] at hfew hRf0
  rw [hL] at hfew hRf
  have hn0 := cutA_length (best_min (n := 64) (by omega)).toGood s.data.toList.length 0 s.data.toList (Nat.le_refl _)
  rw [hL0, hsl] at hn0
  have hn := cutA_length (best_min (n := 64) (by omega)).toGood t.data.toList.length 0 t.data.toList (Nat.le_refl _)
  rw [hL, data_length, hts] at hn
  obtain ⟨N0, hN0⟩ : ∃ N0, L0.length = N0 := ⟨_, rfl⟩
  obtain ⟨N, hN⟩ : ∃ N, L.length = N := ⟨_, rfl⟩
  have hAg := fun B sc W hsc hR => again_calls Cutter.even B N0 sc L0 t (j : Int) ((j : Int) + 1) 0 W (by omega) (by omega) hsc hN0 (by omega) (by omega) (by omega) hor hR
  obtain ⟨R, hRR⟩ : ∃ R, againR (minF 64) t.data.toList L0 j ((j : Int) + 1) 0 = R := ⟨_, rfl⟩
  rw [hRR] at hAg hfew
  obtain ⟨R1, R2⟩ := R
  obtain ⟨e1, hR2⟩ := hfew
  simp only at e1 hR2
  subst e1
  simp only at hAg
  rw [hN] at hAg hRf hn
  rw [hN0] at hRf0 hn0
  have HAg := Lib.hid hAg
  have HRf := Lib.hid hRf
  have HRf0 := Lib.hid hRf0
  have HN := Lib.hid hN
  have HN0 := Lib.hid hN0
  have HXA := Lib.hid hxa
  have HT := Lib.hid ht
  have HSl := Lib.hid hsl
  have kb := fun (W : World) (s : ByteArray) => Lib.run_convert_string_bytes (P := Try.prog) W 9 77 5 s Try.underlying9 Try.underlying77 Try.underlying5
  have b1 : (0 : Int) < (s.size : Int) := by omega
  have b0 : ¬ (s.size : Int) < 1 := by omega
  have b2 : (0 : Int) ≤ (j : Int) := by omega
  have b3 : (j : Int) < (s.size : Int) := by omega
  have w1 := IntWalk.i64_in ((j : Int) + 1) (by omega)
  clear hAg hRf hRf0 hL0 hL hN hN0 hRR hor htd hts ht hu hxa hxx hjl hj hsl hy
  go_enter Try.func8, Try.ntmps8
  go_wp2_with fail
  refine (splitAlive_calls _).mono ?_
  rintro e u1 ⟨rfl, hb1⟩
  have HB1 := Lib.hid hb1
  clear hb1
  go_wp2_with fail
  refine (of1_calls _).mono ?_
  rintro e u2 ⟨rfl, hb2⟩
  have HB2 := Lib.hid (below_trans' HB1.out hb2)
  clear hb2
  have hO := Own.bytes u2 5 s (by simp only [maxLen]; omega)
  obtain ⟨c0, f0⟩ := hO.cell (bcells_at HXA.out)
  have hO2 := (hO.set j (by simp [bcells]; have := HSl.out; omega) (.int .u8 (u.toNat : Int))).1
  have e9 : (bcells s.data.toList).set j (.int .u8 (u.toNat : Int)) = bcells (s.data.toList.set j u) := by simp [bcells, List.map_set]
  rw [e9] at hO2
  obtain ⟨A, c, eA, _, hr, _⟩ := hO2.slice
  injection eA with eA1 eA2 eA3
  subst eA1 eA3
  have HB3 : Hid (Below w.heap.size w ((Lib.bytesWorld u2 5 s).setCell ⟨u2.heap.size, j, none⟩ (.int .u8 (u.toNat : Int)))) := (below_trans' HB2.out (bytes_below u2 5 s)).setCell HB2.out.size _
  have HCv : Hid (∀ W, Below ((Lib.bytesWorld u2 5 s).setCell ⟨u2.heap.size, j, none⟩ (.int .u8 (u.toNat : Int))).heap.size ((Lib.bytesWorld u2 5 s).setCell ⟨u2.heap.size, j, none⟩ (.int .u8 (u.toNat : Int))) W → (convert 77 9 (.slice (some ⟨u2.heap.size, 0, none⟩) s.size (grownCap u2 s.size 0 5))).run Try.prog W = .ok (.string t) W) := fun W hb => by
    have hcv := bytes_str Try.prog 77 5 9 Try.underlying77 Try.underlying5 Try.underlying9 _ s.size (grownCap u2 s.size 0 5) (s.data.toList.set j u) W (by rw [List.length_set]; exact HSl.out) (hr.below hb)
    rw [HT.out] at hcv
    exact hcv
  clear hO hO2 e9 eA2 hr
  go_upto_region 9 with fail
  obtain ⟨u3, hu3⟩ : ∃ u3, (Lib.bytesWorld u2 5 s).setCell ⟨u2.heap.size, j, none⟩ (.int .u8 (u.toNat : Int)) = u3 := ⟨_, rfl⟩
  rw [hu3] at HB3 HCv ⊢
  rw [hji]
  clear hu3 kb c0 f0 hxor hyw hji b0 b1 b2 b3
  have P3 := Lib.hid (below_drew' (Below.refl u3.heap.size u3))
  obtain ⟨bv, hbv⟩ : ∃ bv, Value.slice (some ⟨u2.heap.size, 0, none⟩) s.size (grownCap u2 s.size 0 5) = bv := ⟨_, rfl⟩
  rw [hbv] at HCv ⊢
  clear hbv
  go_region_held3 (fun w' => (convert 77 9 bv).run Try.prog w' = .ok (.string t) w') (first | exact HCv.out _ (Below.refl _ _) | exact HCv.out _ P3.out | exact HCv.out _ H4.out | exact HCv.out _ (below_drew' H4.out) | exact HCv.out _ H5.out | exact HCv.out _ (below_drew' H5.out))
    (first
      | (go_at_call 41; have G := H4.out; clear G; refine Calls.mono (HAg.out A4 c4 _ hc4 (by first | exact HR4.out | exact HR4.out.below (below_drew' (Below.refl _ _)))) ?_; rintro e u5 ⟨v, rfl, ho5, hb5⟩; obtain ⟨A5, c5, rfl, _, hr5, _⟩ := ho5.slice; have HR5 := Lib.hid hr5; have H5 : Hid (Below u3.heap.size u3 u5) := (by first | exact below_trans' H4.out hb5 | exact below_trans' (below_drew' H4.out) hb5); clear ho5 hb5 hr5)
      | (go_at_call 37; refine Calls.mono (HRf0.out _) ?_; rintro e u4 ⟨v, rfl, ho, hb4⟩; obtain ⟨A4, c4, rfl, hc4, hr4, _⟩ := ho.slice; have HR4 := Lib.hid hr4; have H4 : Hid (Below u3.heap.size u3 u4) := (by first | exact hb4 | exact below_trans' P3.out hb4); clear ho hb4 hr4))
  all_goals
    have hcv5 := HCv.out _ H5.out
    have hR2i : (R2 : Int) ≤ 2 := by omega
    go_wp2_with fail
    refine Calls.mono (HRf.out _) ?_
    rintro e u6 ⟨v, rfl, ho, hb6⟩
    obtain ⟨A6, c6, rfl, _, hr6, _⟩ := ho.slice
    have HR6 := Lib.hid hr6
    have HR5b := Lib.hid (HR5.out.below hb6)
    have H6 := Lib.hid (below_trans' H5.out hb6)
    clear ho hb6 hr6 hcv5
    have HS := sameSpans_calls A5 A6 N N c5 c6 R1 R1 u6 HN.out HN.out (by omega) HR5b.out HR6.out
    rw [decide_eq_true (rfl : R1 = R1)] at HS
    have HSS := Lib.hid HS
    clear HS
    go_wp2_with fail
    refine Calls.mono HSS.out ?_
    rintro e u7 ⟨rfl, hb7⟩
    have H7 := Lib.hid (below_trans' H6.out hb7)
    clear hb7
    go_wp2
    go_ret
    exact ⟨rfl, below_trans' HB3.out H7.out⟩
end Go.Proofs.Ytkhfecgmkhjpiaa
