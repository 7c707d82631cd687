/- RoomPlays: the play. -/
import Derived.Test.YtoadelcdcfdmfaaRoomPlays
import Derived.Deep.CutBlock
namespace Go.Proofs.Ytoadelcdcfdmfaa
open Go.RowKit
set_option linter.unusedVariables false
attribute [local go_sem] max2_int min2_int

theorem put_all (lu : List Int) (N : Nat) (hin : ∀ x ∈ lu, 0 ≤ x ∧ x < (N : Int)) : putN lu = idsL (fun j => decide ((j : Int) ∈ lu)) N := by
  have h := idsL_of (putN lu) N (putN_sorted lu) (fun x hx => hin x ((putN_mem lu x).1 hx))
  rw [← h]
  exact idsL_congr fun j _ => by rw [decide_eq_decide]; exact putN_mem lu j

theorem vs_ge {wx : World} {base gb : Nat} {S T : Value} {vs us : List Value} {ls : List (List Int)} (hB : BookAt wx base gb S T vs us ls) (v : Value) (hv : v ∈ vs) (k : Nat) (hk : v.ownBlock = some k) : base ≤ k := by
  obtain ⟨j, hj, rfl⟩ := List.getElem_of_mem hv
  have hl : j < ls.length := by rw [← hB.vlen]; exact hj
  obtain ⟨_, v', e, ho, _⟩ := hB.hv j ls[j] (List.getElem?_eq_getElem hl)
  rw [List.getElem?_eq_getElem hj] at e
  injection e with e
  subst e
  exact (ho.lt k hk).1
theorem giveL_count (n : Nat) : ∀ (l : List Int) (f : Nat → Bool) (c : Nat), (giveL n l (f, c)).2 ≤ c + l.length
  | [], f, c => by simp [giveL]
  | x :: l, f, c => by
    rw [giveL]
    split
    · have := giveL_count n l (upd f x.toNat false) (c + 1)
      simp only [List.length_cons]
      omega
    · have := giveL_count n l f c
      simp only [List.length_cons]
      omega
theorem put_lt {w : World} {b o : Nat} {l : List Int} {x : Int} (h : RowAt w (some ⟨b, o, none⟩) (icells (putL l x))) : b < w.heap.size := by
  have hm := (putL_mem l x x).2 (.inl rfl)
  obtain ⟨b', o', e, hb, _⟩ := h.addr (by
    intro e
    have : putL l x = [] := by simpa [icells] using e
    rw [this] at hm; cases hm)
  injection e with e
  injection e with e1
  omega
set_option maxHeartbeats 16000000 in
set_option maxRecDepth 100000 in
theorem roomPlays_good (N : Nat) (A : Option Addr) (nu cu : Nat) (lu : List Int) (B : Option Addr) (nl cl : Nat) (lo : List ActV) (at_ : Int) (b : ByteArray) (own : Bool) (w : World)
    (n1 : 1 ≤ N) (n2 : N ≤ 1900) (hlu : lu.length = nu) (hcu : nu ≤ cu) (hR : RowAt w A (icells lu)) (hin : ∀ x ∈ lu, 0 ≤ x ∧ x < (N : Int))
    (hlo : lo.length = nl) (hG : ∀ o ∈ lo, o.Good w) (hL : RowAt w B (lo.flatMap ActV.cells)) (hat : -9223372036854775808 ≤ at_ ∧ at_ ≤ 9223372036854775807)
    (h1 : nu ≤ 300) (h2 : nl ≤ 60) (h3 : b.size ≤ 300) :
    Calls Try.prog 3 #[.int .i64 (N : Int), .slice A nu cu, .slice B nl cl, .int .i64 at_, .string b, .bool own] w fun e w' => e = .returned (.bool true) ∧ Below w.heap.size w w' := by
  subst hlu hlo
  have HR : Box _ := ⟨hR⟩
  have HG : Box _ := ⟨hG⟩
  have HL : Box _ := ⟨hL⟩
  have HIN : Box _ := ⟨hin⟩
  clear hR hG hL hin
  have h3' : (b.size : Int) ≤ 300 := by omega
  have y1 : (1 : Int) ≤ (N : Int) := by omega
  have y2 : (N : Int) ≤ 1900 := by omega
  go_enter Try.func3, Try.ntmps3
  go_wp2_with fail
  refine (roomAlive_calls _).mono ?_
  rintro e w1 ⟨rfl, hb1⟩
  have HB1 : Box _ := ⟨hb1⟩
  clear hb1
  go_wp2_with fail
  refine (lentInts_calls A lu.length cu lu _ rfl (by omega) (HR.out.below HB1.out)).mono ?_
  rintro e w2 ⟨gm, cm, rfl, hcm, hrm, hb2, _⟩
  have HB2 : Box _ := ⟨bel_calls HB1.out hb2⟩
  have HM : Box _ := ⟨hrm⟩
  clear hb2 hrm
  go_wp2_with fail
  refine (roomNew_calls N _ _ lu.length lu _ rfl n1 n2 (by omega) HM.out.left HIN.out).mono ?_
  rintro e w3 ⟨rfl, hroom, hb3⟩
  have HB3 : Box _ := ⟨bel_calls HB2.out hb3⟩
  obtain ⟨h0, hh0⟩ : ∃ h0, w2.heap.size = h0 := ⟨_, rfl⟩
  have HH0 : Box (w.heap.size ≤ h0) := ⟨by rw [← hh0]; exact HB2.out.size⟩
  rw [hh0] at hroom ⊢
  have HRm : Box _ := ⟨hroom⟩
  clear hb3 hroom hh0 HM hcm
  go_wp2_with fail
  go_loopw [16, 17, 18] (fun g v i wr => ∃ (k : Nat) (A : Option Addr) (m c : Nat), k ≤ lu.length ∧ i = .int .i64 (k : Int) ∧ g = .bool true ∧ v = .slice A m c ∧ m ≤ c ∧ Box (m = (putN (lu.take k)).length) ∧ Box (RowAt wr A (icells (putN (lu.take k)))) ∧ Box (A = none ∨ ∃ b, A = some ⟨b, 0, none⟩ ∧ w3.heap.size ≤ b ∧ b < wr.heap.size) ∧ Box (Below w3.heap.size w3 wr)) (fun _ _ i _ => lu.length - (intOf i).toNat)
  case atStart => exact ⟨0, none, 0, 0, by omega, rfl, rfl, rfl, by omega, ⟨rfl⟩, ⟨.nil _ _⟩, ⟨.inl rfl⟩, ⟨Below.refl _ _⟩⟩
  case round =>
    obtain ⟨k, A', m, c, hk, rfl, rfl, rfl, hmc, HMl, HA, HO, HW⟩ := hrel
    have hle := putN_le (lu.take k)
    rw [List.length_take, ← HMl.out] at hle
    have hm3 : m ≤ 300 := by omega
    by_cases hlt : k < lu.length
    · obtain ⟨x, hx⟩ := some_at (l := lu) (k := k) (by omega)
      obtain ⟨ad, rfl, hcell⟩ := ((HR.out.below HB3.out).below HW.out).get (icells_at hx)
      have HX : Box (putN (lu.take (k + 1)) = putL (putN (lu.take k)) x) := ⟨by rw [take_snoc_of hx, putN_snoc]⟩
      have hkl : (k : Int) < (lu.length : Int) := by omega
      have HP : Box _ := ⟨fun W hR => put_calls A' m c (putN (lu.take k)) x W HMl.out.symm hmc (by omega) hR⟩
      obtain ⟨y0, y1⟩ := HIN.out x (List.mem_of_getElem? hx)
      clear hx hle
      go_wp2_with fail
      refine (HP.out _ HA.out).mono ?_
      rintro e w4 ⟨A2, m2, c2, rfl, hm2, hc2, hr2, ho2, hb2⟩
      have HM2 : Box _ := ⟨hm2⟩
      have HR2 : Box _ := ⟨hr2⟩
      have HO2 : Box (A2 = none ∨ ∃ b, A2 = some ⟨b, 0, none⟩ ∧ w3.heap.size ≤ b ∧ b < w4.heap.size) := ⟨by
        rcases ho2 with rfl | ⟨b, e, h⟩
        · rcases HO.out with e | ⟨b, e, q1, q2⟩
          · exact .inl e
          · exact .inr ⟨b, e, q1, Nat.lt_of_lt_of_le q2 hb2.size⟩
        · subst e
          exact .inr ⟨b, rfl, Nat.le_trans HW.out.size h, put_lt hr2⟩⟩
      have HB4 : Box _ := ⟨bel_calls HW.out hb2⟩
      clear hm2 hr2 hb2 ho2
      go_wp2_with fail
      go_roundw
      case rel => exact ⟨k + 1, A2, m2, c2, by omega, by go_num, rfl, rfl, hc2, by rw [HX.out]; exact HM2, by rw [HX.out]; exact HR2, HO2, HB4⟩
      case measure => simp [intOf]; omega
    · obtain rfl : k = lu.length := by omega
      rw [List.take_of_length_le (Nat.le_refl _), put_all lu N HIN.out] at HMl HA
      have HB4 : Box _ := ⟨bel_calls HB3.out HW.out⟩
      have HR4 : Box _ := ⟨HRm.out.below HW.out⟩
      obtain ⟨f0, hf0⟩ : ∃ f : Nat → Bool, (fun j : Nat => decide ((j : Int) ∈ lu)) = f := ⟨_, rfl⟩
      rw [hf0] at HMl HA HR4
      have hwr : h0 + 1 < w3.heap.size := HRm.out.glt
      clear hf0 hle HRm
      obtain ⟨w5, hw5⟩ : ∃ w5, wr = w5 := ⟨_, rfl⟩
      rw [hw5] at HA HW HB4 HR4 HO ⊢
      clear hw5
      go_upto_region 16 with fail
      have hrep : (Array.replicate 16 (Value.slice none 0 0)) = #[.slice none 0 0, .slice none 0 0, .slice none 0 0, .slice none 0 0, .slice none 0 0, .slice none 0 0, .slice none 0 0, .slice none 0 0, .slice none 0 0, .slice none 0 0, .slice none 0 0, .slice none 0 0, .slice none 0 0, .slice none 0 0, .slice none 0 0, .slice none 0 0] := rfl
      have HBk : Box _ := ⟨bookNew w5 w5.heap.size (Nat.le_refl _) 42⟩
      have HB0 : Box _ := ⟨bel_alloc (Below.refl w5.heap.size w5) (.cells (Array.replicate 16 (.slice none 0 0)) 42)⟩
      rw [hrep] at HBk HB0
      have HP0 : Box (PlayAt w (w5.alloc (.cells #[.slice none 0 0, .slice none 0 0, .slice none 0 0, .slice none 0 0, .slice none 0 0, .slice none 0 0, .slice none 0 0, .slice none 0 0, .slice none 0 0, .slice none 0 0, .slice none 0 0, .slice none 0 0, .slice none 0 0, .slice none 0 0, .slice none 0 0, .slice none 0 0] 42)) w5.heap.size N 0 (h0 + 1) h0 N f0 A' (.slice none 0 0) (.slice none 0 0) [] [] []) := ⟨by
        have hsz := HW.out.size
        refine ⟨HR4.out.below HB0.out, HA.out.below HB0.out, HBk.out, rfl, by simp, ?_, ?_, HB4.out.size, HH0.out, below_trans' HB4.out HB0.out⟩
        · intro k hk
          rcases hk with rfl | hk | hk | ⟨v, hv, _⟩ | ⟨v, hv, _⟩
          · refine ⟨by omega, by omega, fun b o e => ?_⟩
            rcases HO.out with e2 | ⟨b', e2, q1, q2⟩
            · rw [e2] at e; cases e
            · rw [e2] at e; injection e with e; injection e with e1 e3
              omega
          · simp [Value.ownBlock] at hk
          · simp [Value.ownBlock] at hk
          · cases hv
          · cases hv
        · rcases HO.out with e2 | ⟨b', e2, q1, q2⟩
          · exact .inl e2
          · exact .inr ⟨b', e2, by omega, Nat.lt_of_lt_of_le q2 HB0.out.size⟩⟩
      have hm0 : m = (idsL f0 N).length := HMl.out
      have HMm : Box (m = (idsL f0 N).length ∧ m ≤ c) := ⟨hm0, hmc⟩
      clear HBk HR4 HA HO HMl hm3 hmc hm0
      obtain ⟨gb, hgb⟩ : ∃ gb, w5.heap.size = gb := ⟨_, rfl⟩
      rw [hgb] at HP0
      have HGB : Box _ := ⟨hgb⟩
      clear hgb
      go_wp2_with fail
      rw [HGB.out]
      go_loopw [14, 17, 20] (fun R H i wx => ∃ (j g h cr : Nat) (f : Nat → Bool) (A : Option Addr) (m cap : Nat) (S T : Value) (vs us : List Value) (ls : List (List Int)), j ≤ lo.length ∧ i = .int .i64 (j : Int) ∧ R = .pointer (some ⟨g, 0, none⟩) ∧ H = .slice A m cap ∧ Box (m = (idsL f N).length ∧ m ≤ cap) ∧ Box (PlayAt w wx gb N j g h cr f A S T vs us ls)) (fun _ _ i _ => lo.length - (intOf i).toNat)
      case atStart => exact ⟨0, h0 + 1, h0, N, f0, A', m, c, _, _, _, _, _, by omega, rfl, rfl, rfl, HMm, HP0⟩
      case round =>
        obtain ⟨j, g, h, cr, f, Ah, mh, ch, S, T, vs, us, ls, hj, rfl, rfl, rfl, HMh, HP⟩ := hrel
        clear HP0 HMm hwr
        have hmN : mh ≤ 1900 := by have := HMh.out.1; have := idsL_le f N; omega
        by_cases hlt : j < lo.length
        · obtain ⟨o, ho⟩ := some_at hlt
          obtain ⟨bo, oo, rfl, _, q1, q2⟩ := act_at (HL.out.below HP.out.bel) ho
          have HGo : Box _ := ⟨HG.out o (List.mem_of_getElem? ho)⟩
          have hjl : (j : Int) < (lo.length : Int) := by omega
          obtain ⟨kind, ao, no, co, xl⟩ := o
          simp only at q1 q2
          clear ho
          go_upto_block 4 with fail
          have HBa : Box (Below wr.heap.size wr (wr.alloc (.cells #[.int .i64 kind, .slice ao no co] 44))) := ⟨bel_alloc (Below.refl _ _) _⟩
          have HPa : Box _ := ⟨HP.out.below HBa.out⟩
          have hblk := heap_alloc_new wr (.cells #[.int .i64 kind, .slice ao no co] 44)
          have p0 := cell_of_row _ _ 0 _ _ (0, 0) hblk
          have p1 := cell_of_row _ _ 1 _ _ (0, 0) hblk
          have hlt2 := HP.out.room.hlt
          obtain ⟨po, hpo⟩ : ∃ po, wr.heap.size = po := ⟨_, rfl⟩
          obtain ⟨wA, hwA⟩ : ∃ wA, wr.alloc (.cells #[.int .i64 kind, .slice ao no co] 44) = wA := ⟨_, rfl⟩
          rw [hwA] at HPa p0 p1 ⊢
          rw [hpo] at p0 p1 hlt2 ⊢
          have HPO : Box (h < po) := ⟨hlt2⟩
          have P0 : Box (wA.cell? ⟨po, 0, none⟩ = some (.int .i64 kind)) := ⟨by simpa using p0⟩
          have P1 : Box (wA.cell? ⟨po, 1, none⟩ = some (.slice ao no co)) := ⟨by simpa using p1⟩
          clear q1 q2 p0 p1 hpo hwA hblk hlt2 HBa
          have r0 := P0.out
          have r1 := P1.out
          go_cut [14, 17] (fun R H wx => ∃ (g h cr : Nat) (f : Nat → Bool) (A : Option Addr) (m cap : Nat), R = .pointer (some ⟨g, 0, none⟩) ∧ H = .slice A m cap ∧ Box (m = (idsL f N).length ∧ m ≤ cap) ∧ Box (PlayAt w wx gb N j g h cr f A S T vs us ls))
          case first =>
            have HC : Box (∀ W, Below wA.heap.size wA W → W.cell? ⟨po, 1, none⟩ = some (.slice ao no co)) := ⟨fun W hb => cell_kept hb (Nat.le_refl _) r1⟩
            by_cases hk1 : kind = 1
            case pos =>
              as_aux_lemma =>
                subst hk1
                obtain ⟨K, hK1, hK2, hK3⟩ := least_free f N
                have HK2 : Box _ := ⟨hK2⟩
                have HK3 : Box _ := ⟨hK3⟩
                have hRh := HPa.out.row
                have HRh : Box _ := ⟨hRh⟩
                have HAt : Box _ := ⟨fun k hk => idsL_at hK2 N hK1 k hk⟩
                have hstop : K < mh → ∃ y, (idsL f N)[K]? = some y ∧ ¬ y = (K : Int) := by
                  intro h
                  have h2 : K < (idsL f N).length := by rw [← HMh.out.1]; exact h
                  refine ⟨_, List.getElem?_eq_getElem h2, fun e => ?_⟩
                  have h3 := idsL_le f N
                  exact idsL_stop (n := N) hK2 (by omega) (hK3 (by omega)) (by rw [List.getElem?_eq_getElem h2, e])
                have HSt : Box _ := ⟨hstop⟩
                clear hK2 hK3 hstop hRh
                go_wp2_with fail
                go_loopw [22] (fun k wx => ∃ k' : Nat, k' ≤ K ∧ k = .int .i64 (k' : Int) ∧ wA = wx) (fun k _ => K - (intOf k).toNat)
                case atStart => exact ⟨0, by omega, rfl, rfl⟩
                case round =>
                  obtain ⟨k, hk, rfl, rfl⟩ := hrel
                  by_cases hkK : k < K
                  · have hx := HAt.out k hkK
                    have hkm : k < mh := by rw [HMh.out.1]; exact (List.getElem?_eq_some_iff.1 hx).1
                    have hkm2 : (k : Int) < (mh : Int) := by omega
                    obtain ⟨ad, rfl, hcell⟩ := HRh.out.get (icells_at hx)
                    clear hx
                    go_wp2_with fail
                    go_roundw
                    case rel => exact ⟨k + 1, by omega, by go_num, by trivial⟩
                    case measure => simp [intOf]; omega
                  · obtain rfl : k = K := by omega
                    have hend : (∃ (ad : Addr) (y : Int), Ah = some ad ∧ wA.cell? (ad.add k) = some (.int .i64 y) ∧ (y == (k : Int)) = false ∧ (k : Int) < (mh : Int)) ∨ ¬ (k : Int) < (mh : Int) := by
                      by_cases h : k < mh
                      · obtain ⟨y, hy1, hy2⟩ := HSt.out h
                        obtain ⟨ad, e, hc⟩ := HRh.out.get (icells_at hy1)
                        exact .inl ⟨ad, y, e, hc, by simpa using hy2, by omega⟩
                      · exact .inr (by omega)
                    have hKc : k < N ∨ k = N := by omega
                    rcases hKc with hKN | hKN
                    · have HT : Box _ := ⟨roomTake_calls g h cr N f wA HPa.out.room n2 k hKN HK2.out (HK3.out hKN)⟩
                      have HPid : Box _ := ⟨putL_ids f hKN⟩
                      have hKN2 : ((k : Int) == (N : Int)) = false := by simp; omega
                      have hKN3 : ¬ (k : Int) = (N : Int) := by omega
                      rcases hend with ⟨ad, y, rfl, hy1, hy2, hy3⟩ | hend
                      all_goals
                        go_wp2_with fail
                        refine (HT.out).mono ?_
                        rintro e w6 ⟨rfl, hr6, ht6⟩
                        have HR6 : Box _ := ⟨hr6⟩
                        have HT6 : Box _ := ⟨ht6⟩
                        have HA6 : Box _ := ⟨row_touched HRh.out ht6 (by
                          rcases HPa.out.oA with e | ⟨b, e, hb, _⟩
                          · exact .inl e
                          · exact .inr ⟨b, e, by simpa using hb⟩)⟩
                        clear hr6 ht6
                        go_wp2_with fail
                        refine (put_calls _ mh ch _ (k : Int) _ HMh.out.1.symm HMh.out.2 (by omega) HA6.out).mono ?_
                        rintro e w7 ⟨A2, m2, c2, rfl, hm2, hc2, hr2, ho2, hb7⟩
                        have HPn : Box (PlayAt w w7 gb N j g h cr (upd f k true) A2 S T vs us ls) := ⟨by
                          refine HPa.out.move (HT6.out.trans (Touched.of_below hb7 _)) (HR6.out.below hb7) (.inl rfl) (.inl rfl) (by rw [← HPid.out]; exact hr2) ?_
                          rcases ho2 with rfl | ⟨b, rfl, hb⟩
                          · exact .inl (.inl rfl)
                          · exact .inr ⟨rfl, b, rfl, Nat.le_trans HT6.out.size hb, put_lt hr2⟩⟩
                        rw [HPid.out] at hm2
                        have HM2 : Box (m2 = (idsL (upd f k true) N).length ∧ m2 ≤ c2) := ⟨hm2, hc2⟩
                        clear hr2 ho2 hb7 hm2 hc2
                        go_wp2_with fail
                        go_meet
                        exact ⟨g, h, cr, _, A2, m2, c2, rfl, rfl, HM2, HPn⟩
                    · subst hKN
                      have HT : Box _ := ⟨roomTake_full g h cr k f wA HPa.out.room n2 HK2.out⟩
                      rcases hend with ⟨ad, y, rfl, hy1, hy2, hy3⟩ | hend
                      all_goals
                        go_wp2_with fail
                        refine (HT.out).mono ?_
                        rintro e w6 ⟨rfl, rfl⟩
                        go_wp2_with fail
                        go_meet
                        exact ⟨g, h, cr, f, _, mh, ch, rfl, rfl, HMh, HPa⟩
            case neg =>
              by_cases hk2 : kind = 2
              case pos =>
                as_aux_lemma =>
                  subst hk2
                  by_cases hno : no ≤ 60
                  case neg =>
                    have hno2 : (60 : Int) < (no : Int) := by omega
                    have HBe : Box _ := ⟨HPa.out.bel⟩
                    go_wp2_with fail
                    go_ret
                    exact ⟨rfl, HBe.out⟩
                  have hno2 : (no : Int) ≤ 60 := by omega
                  have HXl : Box (xl.length = no) := ⟨HGo.out.h1⟩
                  have HXr : Box (RowAt w ao (icells xl)) := ⟨HGo.out.r1⟩
                  go_wp2_with fail
                  refine (lentInts_calls ao no co xl _ HXl.out (by omega) (HXr.out.below HPa.out.bel)).mono ?_
                  rintro e w6 ⟨g6, c6, rfl, hc6, hr6, hb6, hg6⟩
                  have HB6 : Box _ := ⟨hb6⟩
                  have HR6 : Box _ := ⟨hr6⟩
                  have HG6 : Box (wA.heap.size ≤ g6) := ⟨hg6⟩
                  have HC6 : Box (no + 1 ≤ c6) := ⟨hc6⟩
                  clear hb6 hr6 hg6 hc6
                  go_wp2_with fail
                  go_loopw [17, 26, 27] (fun H k i wx => ∃ (q : Nat) (A : Option Addr) (m cap : Nat), q ≤ no ∧ i = .int .i64 (q : Int) ∧ k = .int .i64 ((giveL N (xl.take q) (f, 0)).2 : Int) ∧ H = .slice A m cap ∧ Box (m = (idsL (giveL N (xl.take q) (f, 0)).1 N).length ∧ m ≤ cap) ∧ Box (RowAt wx A (icells (idsL (giveL N (xl.take q) (f, 0)).1 N))) ∧ Box ((A = Ah ∨ A = none) ∨ ∃ b, A = some ⟨b, 0, none⟩ ∧ w6.heap.size ≤ b ∧ b < wx.heap.size) ∧ Box (Below w6.heap.size w6 wx)) (fun _ _ i _ => no - (intOf i).toNat)
                  case atStart => exact ⟨0, Ah, mh, ch, by omega, rfl, rfl, rfl, HMh, ⟨HPa.out.row.below HB6.out⟩, ⟨.inl (.inl rfl)⟩, ⟨Below.refl _ _⟩⟩
                  case round =>
                    obtain ⟨q, Aq, mq, cq, hq, rfl, rfl, rfl, HMq, HRq, HOq, HWq⟩ := hrel
                    have hB6q : Below wA.heap.size wA wr := bel_calls HB6.out HWq.out
                    have r1q := HC.out _ hB6q
                    by_cases hqn : q < no
                    · obtain ⟨x, hx⟩ := some_at (l := xl) (k := q) (by rw [HXl.out]; exact hqn)
                      obtain ⟨ad, rfl, hcell⟩ := ((HXr.out.below HPa.out.bel).below hB6q).get (icells_at hx)
                      have hgs := giveL_snoc N (xl.take q) x (f, 0)
                      rw [← take_snoc_of hx] at hgs
                      obtain ⟨fq, hfq⟩ : ∃ fq, (giveL N (xl.take q) (f, 0)).1 = fq := ⟨_, rfl⟩
                      obtain ⟨kq, hkq⟩ : ∃ kq, (giveL N (xl.take q) (f, 0)).2 = kq := ⟨_, rfl⟩
                      have hgq : giveL N (xl.take q) (f, 0) = (fq, kq) := by rw [← hfq, ← hkq]
                      rw [hgq] at hgs HMq HRq ⊢
                      have hlq := idsL_le fq N
                      have hmq : mq ≤ 1900 := by have := HMq.out.1; simp only at this; omega
                      have HAm : Box _ := ⟨fun W hR => among_calls Aq mq cq (idsL fq N) x W HMq.out.1.symm (by omega) hR⟩
                      rw [among_ids] at HAm
                      have hqn2 : (q : Int) < (no : Int) := by omega
                      have hkq2 : (kq : Int) ≤ 60 := by have := giveL_count N (xl.take q) f 0; rw [hkq, List.length_take] at this; omega
                      simp only at hgs
                      by_cases hv : (decide (0 ≤ x ∧ x < (N : Int)) && fq x.toNat) = true
                      · rw [if_pos hv] at hgs
                        rw [hv] at HAm
                        have hx0 : 0 ≤ x ∧ x < (N : Int) := by simp at hv; exact hv.1
                        have hdr : dropL (idsL fq N) x = idsL (upd fq x.toNat false) N := by
                          have := dropL_ids fq N x.toNat
                          rwa [Int.toNat_of_nonneg hx0.1] at this
                        have HD : Box _ := ⟨fun W hR => refDrop_calls Aq mq cq (idsL fq N) x W HMq.out.1.symm (by omega) hR⟩
                        rw [hdr] at HD
                        have HGS : Box _ := ⟨hgs⟩
                        have y3 : IntKind.i64.wrap ((kq : Int) + 1) = (kq : Int) + 1 := IntWalk.i64_in _ (by omega)
                        clear hx hgs hfq hkq hgq hv hdr
                        go_wp2_with fail
                        refine (HAm.out _ HRq.out).mono ?_
                        rintro e w7 ⟨rfl, rfl⟩
                        go_wp2_with fail
                        refine (HD.out _ HRq.out).mono ?_
                        rintro e w7 ⟨v7, rfl, ho7, hb7⟩
                        obtain ⟨A7, c7, rfl, hc7, hr7, hn7⟩ := ho7.slice
                        have HO7 : Box ((A7 = Ah ∨ A7 = none) ∨ ∃ b, A7 = some ⟨b, 0, none⟩ ∧ w6.heap.size ≤ b ∧ b < w7.heap.size) := ⟨by
                          rcases ho7.2 with ⟨e, _⟩ | ⟨g7, cap7, e, hgb, hgl, _⟩
                          · injection e with e1; exact .inl (.inr e1)
                          · injection e with e1; exact .inr ⟨g7, e1, Nat.le_trans HWq.out.size hgb, hgl⟩⟩
                        have HR7 : Box _ := ⟨hr7⟩
                        have HB7 : Box _ := ⟨bel_calls HWq.out hb7⟩
                        have HC7 : Box ((idsL (upd fq x.toNat false) N).length ≤ c7) := ⟨hc7⟩
                        clear ho7 hc7 hr7 hn7 hb7
                        go_wp2_with fail
                        go_roundw
                        case rel => exact ⟨q + 1, A7, _, c7, by omega, by go_num, by rw [HGS.out]; go_num, rfl, by rw [HGS.out]; exact ⟨rfl, HC7.out⟩, by rw [HGS.out]; exact HR7, HO7, HB7⟩
                        case measure => simp [intOf]; omega
                      · rw [if_neg hv] at hgs
                        have hv2 : (decide (0 ≤ x ∧ x < (N : Int)) && fq x.toNat) = false := by simpa using hv
                        rw [hv2] at HAm
                        have HGS : Box _ := ⟨hgs⟩
                        clear hx hgs hfq hkq hgq hv hv2
                        go_wp2_with fail
                        refine (HAm.out _ HRq.out).mono ?_
                        rintro e w7 ⟨rfl, rfl⟩
                        go_wp2_with fail
                        go_roundw
                        case rel => exact ⟨q + 1, Aq, mq, cq, by omega, by go_num, by rw [HGS.out], rfl, by rw [HGS.out]; exact HMq, by rw [HGS.out]; exact HRq, HOq, HWq⟩
                        case measure => simp [intOf]; omega
                    · obtain rfl : q = no := by omega
                      have e2 : xl.take q = xl := List.take_of_length_le (by rw [HXl.out]; omega)
                      rw [e2] at HMq HRq ⊢
                      have HGv : Box _ := ⟨roomGive_calls g h cr N f (some ⟨g6, 0, none⟩) q c6 xl wr HXl.out (by omega) (HPa.out.room.below hB6q) n2 (fun w' hT => row_touched (HR6.out.below HWq.out).left hT (.inr ⟨_, rfl, by have := HG6.out; have := HPa.out.room.hlt; simp; omega⟩))⟩
                      obtain ⟨ff, hff⟩ : ∃ ff, (giveL N xl (f, 0)).1 = ff := ⟨_, rfl⟩
                      obtain ⟨kk, hkk⟩ : ∃ kk, (giveL N xl (f, 0)).2 = kk := ⟨_, rfl⟩
                      rw [hff] at HMq HRq HGv
                      rw [hkk] at HGv ⊢
                      have HBq : Box _ := ⟨hB6q⟩
                      clear hff hkk e2 hB6q
                      go_wp2_with fail
                      refine (HGv.out).mono ?_
                      rintro e w8 ⟨rfl, hr8, ht8⟩
                      have HR8 : Box _ := ⟨hr8⟩
                      have HT8 : Box (Touched wA w8 [h]) := ⟨(Touched.of_below HBq.out _).trans ht8⟩
                      have HB8 : Box (Below w.heap.size w w8) := ⟨HT8.out.below HPa.out.bel HPa.out.bel.size (by intro k hk; simp at hk; subst hk; exact HPa.out.hw)⟩
                      have r18 : w8.cell? ⟨po, 1, none⟩ = some (.slice ao q co) := (ht8.cell (World.block_lt_of_cell? _ _ r1q) (by have := HPO.out; simp; omega)).trans r1q
                      have HM8 : Box _ := ⟨row_touched (HR6.out.below HWq.out) ht8 (.inr ⟨_, rfl, by have := HG6.out; have := HPa.out.room.hlt; simp; omega⟩)⟩
                      have HA8 : Box (RowAt w8 Aq (icells (idsL ff N))) := ⟨row_touched HRq.out ht8 (by
                        rcases HOq.out with (rfl | rfl) | ⟨b, e, hb, _⟩
                        · rcases HPa.out.oA with e | ⟨b, e, hb, _⟩
                          · exact .inl e
                          · exact .inr ⟨b, e, by simpa using hb⟩
                        · exact .inl rfl
                        · have := HB6.out.size; have := HPa.out.room.hlt
                          exact .inr ⟨b, e, by simp; omega⟩)⟩
                      have hs8 := ht8.size
                      have HO8 : Box ((Aq = Ah ∨ Aq = none) ∨ ∃ b, Aq = some ⟨b, 0, none⟩ ∧ wA.heap.size ≤ b ∧ b < w8.heap.size) := ⟨by
                        rcases HOq.out with e | ⟨b, e, hb, hb2⟩
                        · exact .inl e
                        · have := HB6.out.size
                          exact .inr ⟨b, e, by omega, by omega⟩⟩
                      clear hr8 ht8 hs8 HGv
                      go_wp2_with fail
                      refine (staysInts_calls g6 ao q c6 co xl _ HXl.out (by omega) HC6.out HM8.out (HXr.out.below HB8.out)).mono ?_
                      rintro e w9 ⟨rfl, hb9⟩
                      have HPn : Box (PlayAt w w9 gb N j g h cr ff Aq S T vs us ls) := ⟨(HPa.out.move HT8.out HR8.out (.inl rfl) (.inl rfl) HA8.out (HO8.out.imp id fun h => ⟨rfl, h⟩)).below hb9⟩
                      clear hb9
                      go_wp2_with fail
                      go_meet
                      exact ⟨g, h, cr, ff, Aq, mq, cq, rfl, rfl, HMq, HPn⟩
              case neg =>
                as_aux_lemma =>
                  have HC6 : Box _ := ⟨roomCopy_calls g h cr N f wA HPa.out.room n2⟩
                  go_wp2_with fail
                  refine (HC6.out).mono ?_
                  rintro e w6 ⟨g2, h2', c2, rfl, hr6, hg6, hh6, hb6⟩
                  have HB6 : Box _ := ⟨hb6⟩
                  have HR6 : Box _ := ⟨hr6⟩
                  have HG6 : Box (wA.heap.size ≤ g2 ∧ wA.heap.size ≤ h2') := ⟨hg6, hh6⟩
                  have HT7 : Box _ := ⟨roomTake_any g h cr N f w6 (HPa.out.room.below hb6) n2⟩
                  clear hb6 hr6 hg6 hh6 HC6
                  go_wp2_with fail
                  refine (HT7.out).mono ?_
                  rintro e w7 ⟨v7, f7, rfl, hr7, ht7⟩
                  have HT7b : Box _ := ⟨ht7⟩
                  have HT8 : Box _ := ⟨roomGive_any g h cr N f7 [0, 1, 2, 3] 4 w7 rfl hr7 n2 (by omega)⟩
                  clear hr7 ht7 HT7
                  go_wp2_with fail
                  refine (HT8.out).mono ?_
                  rintro e w8 ⟨v8, f8, rfl, hr8, ht8⟩
                  have HPn : Box (PlayAt w w8 gb N j g2 h2' c2 f Ah S T vs us ls) := ⟨by
                    have hz := HPa.out.room.hlt
                    have hz2 := HPa.out.room.glt
                    have h67 := HT7b.out.trans ht8
                    refine HPa.out.move ((Touched.of_below HB6.out _).trans h67) (HR6.out.touched h67 (by simp; have := HG6.out; omega) (by simp; have := HG6.out; omega)) (.inr HG6.out.1) (.inr HG6.out.2) (row_touched (HPa.out.row.below HB6.out) h67 ?_) (.inl (.inl rfl))
                    rcases HPa.out.oA with e | ⟨b, e, hb, _⟩
                    · exact .inl e
                    · exact .inr ⟨b, e, by simpa using hb⟩⟩
                  clear hr8 ht8 HT8
                  go_wp2_with fail
                  go_meet
                  exact ⟨g2, h2', c2, f, Ah, mh, ch, rfl, rfl, HMh, HPn⟩
          case rest =>
            as_aux_lemma =>
              obtain ⟨g, h, cr, f, Ah, mh, ch, rfl, rfl, HMh, HP⟩ := hcut
              clear HPa r0 r1 P0 P1 HPO HGo
              have HAll : Box _ := ⟨roomAll_calls g h cr N f wc HP.out.room n2⟩
              obtain ⟨L, hL⟩ : ∃ L, idsL f N = L := ⟨_, rfl⟩
              have HLe : Box (idsL f N = L) := ⟨hL⟩
              have hLN := idsL_le f N
              rw [hL] at HAll HMh hLN
              go_wp2_with fail
              refine (HAll.out).mono ?_
              rintro e w6 ⟨v6, rfl, ho6, hb6⟩
              obtain ⟨Aa, ca, rfl, hca, hra, _⟩ := ho6.slice
              have HB6 : Box _ := ⟨hb6⟩
              have HO6 : Box _ := ⟨ho6⟩
              clear hb6 ho6 hra HAll hL
              have hdis : ∀ b, (Value.slice Aa L.length ca).ownBlock = some b → b ≠ gb ∧ S.ownBlock ≠ some b ∧ T.ownBlock ≠ some b ∧ ∀ v ∈ vs, v.ownBlock ≠ some b := by
                intro b hb
                have h1 := (HO6.out.lt b hb).1
                have h2 := HP.out.book.blk
                refine ⟨fun e => ?_, fun e => ?_, fun e => ?_, fun v hv e => ?_⟩
                · have := h2 b (.inl e); omega
                · have := h2 b (.inr (.inl e)); omega
                · have := h2 b (.inr (.inr (.inl e))); omega
                · have := h2 b (.inr (.inr (.inr (.inl ⟨v, hv, e⟩)))); omega
              have HBI : Box _ := ⟨bookInts_calls gb gb S T vs us ls Aa L.length ca L w6 (by have := HP.out.len; omega) (by omega) (HP.out.book.below HB6.out) (HO6.out.weaken (by have := HP.out.book.gl; omega)) hdis⟩
              clear hdis
              go_wp2_with fail
              refine (HBI.out).mono ?_
              rintro e w7 ⟨rfl, hto⟩
              obtain ⟨S2, T2, u2, hp7⟩ := HP.out.keep HB6.out (by omega) (fun k hk => (HO6.out.lt k hk).1) hto
              have HP7 : Box _ := ⟨hp7⟩
              have HA7 : Box (RowAt w7 Aa (icells L)) := ⟨by
                obtain ⟨_, v, hv, ho, _⟩ := hp7.book.hv ls.length L (append_new ls L)
                have hvl : vs.length = ls.length := HP.out.book.vlen
                rw [← hvl, append_new] at hv
                injection hv with hv
                subst hv
                obtain ⟨_, _, e, _, hr, _⟩ := ho.slice
                injection e with e
                rw [e]; exact hr⟩
              have HH7 : Box (RowAt w7 Ah (icells L)) := ⟨by have := hp7.row; rwa [HLe.out] at this⟩
              clear hto hp7 HBI
              have hmm := HMh.out.1
              subst hmm
              go_wp2_with fail
              refine (sameInts_calls Aa Ah L.length L.length ca ch L L w7 rfl rfl (by omega) HA7.out HH7.out).mono ?_
              rintro e w8 ⟨rfl, hb8⟩
              rw [decide_eq_true (rfl : L = L)]
              have HP8 : Box _ := ⟨HP7.out.below hb8⟩
              have HH8 : Box _ := ⟨HH7.out.below hb8⟩
              have HFr : Box _ := ⟨roomFree_calls g h cr N f w8 HP8.out.room n2⟩
              rw [HLe.out] at HFr
              have hfr : ((N - L.length : Nat) : Int) = (N : Int) - (L.length : Int) := by omega
              rw [hfr] at HFr
              have y5 : IntKind.i64.wrap ((N : Int) - (L.length : Int)) = (N : Int) - (L.length : Int) := IntWalk.i64_in _ (by omega)
              clear hb8 HP7 HA7 HH7 hfr
              go_wp2_with fail
              refine (HFr.out).mono ?_
              rintro e w9 ⟨rfl, hb9⟩
              have HP9 : Box _ := ⟨HP8.out.below hb9⟩
              have HH9 : Box _ := ⟨HH8.out.below hb9⟩
              clear hb9 HP8 HH8 HFr
              go_wp2_with fail
              refine (roomSize_calls g h cr N f w9 HP9.out.room).mono ?_
              rintro e w10 ⟨rfl, rfl⟩
              go_wp2_with fail
              refine (roomUsed_calls g h cr N f at_ _ HP9.out.room n2).mono ?_
              rintro e w11 ⟨rfl, rfl⟩
              have HAm : Box _ := ⟨among_calls Ah L.length ch L at_ _ rfl (by omega) HH9.out⟩
              have ham := among_ids f N at_
              rw [HLe.out] at ham
              rw [ham] at HAm
              obtain ⟨bu, hbu⟩ : ∃ bu, (decide (0 ≤ at_ ∧ at_ < (N : Int)) && f at_.toNat) = bu := ⟨_, rfl⟩
              rw [hbu] at HAm ⊢
              clear ham hbu
              go_wp2_with fail
              refine (HAm.out).mono ?_
              rintro e w12 ⟨rfl, rfl⟩
              have HMf : Box (L.length = (idsL f N).length ∧ L.length ≤ ch) := ⟨by rw [HLe.out], HMh.out.2⟩
              go_wp2_with fail
              go_roundw
              case rel => exact ⟨j + 1, g, h, cr, f, Ah, _, ch, S2, T2, _, _, _, by omega, by go_num, rfl, rfl, HMf, HP9⟩
              case measure => simp [intOf]; omega
        · obtain rfl : j = lo.length := by omega
          as_aux_lemma =>
            have HRB : Box _ := ⟨roomB_read N f n1 n2⟩
            have HBk : Box _ := ⟨room_back N f n1 n2⟩
            obtain ⟨mz, _, hsz, _⟩ := roomB_open N f n2
            have HLay : Box _ := ⟨roomLay_calls g h cr N f wr HP.out.room n2⟩
            have HLR : Box _ := ⟨fun A c W hR => layRoom_calls N A (idsL f N).length c (idsL f N) W rfl n2 (by have := idsL_le f N; omega) hR (by
              intro x hx
              obtain ⟨j, hj, rfl, _⟩ := (idsL_mem _ _ _).1 hx
              omega)⟩
            rw [roomB_congr (ids_flag f N)] at HLR
            obtain ⟨s, hs⟩ : ∃ s, roomB N f = s := ⟨_, rfl⟩
            rw [hs] at HRB HBk HLay HLR hsz
            obtain ⟨L, hL⟩ : ∃ L, idsL f N = L := ⟨_, rfl⟩
            have hLN := idsL_le f N
            have HRow : Box _ := ⟨HP.out.row⟩
            rw [hL] at HRow HBk HLR hLN HMh
            have HRd : Box _ := ⟨fun W => roomRead_calls s W (by omega)⟩
            clear hs hsz hL
            have hmm := HMh.out.1
            subst hmm
            clear HMh
            go_wp2_with fail
            refine (HLay.out).mono ?_
            rintro e w6 ⟨rfl, hb6⟩
            have HP6 : Box _ := ⟨HP.out.below hb6⟩
            have HR6 : Box _ := ⟨HRow.out.below hb6⟩
            clear hb6 HLay HRow HP
            go_wp2_with fail
            refine (HRd.out _).mono ?_
            rintro e w7 ⟨hb7, hdj⟩
            obtain ⟨g7, h7, c7, rfl, hr7⟩ : ∃ g7 h7 c7, e = .returned (.tuple #[.pointer (some ⟨g7, 0, none⟩), .int .i64 0]) ∧ RoomAt w7 g7 h7 c7 N (rdF s) := by
              rcases hdj with ⟨q, _⟩ | ⟨_, g7, h7, c7, q1, q2, _⟩
              · exact absurd HRB.out.1 q
              · rw [HRB.out.2.1] at q2; exact ⟨g7, h7, c7, q1, q2⟩
            have HP7 : Box _ := ⟨HP6.out.below hb7⟩
            have HR7 : Box _ := ⟨HR6.out.below hb7⟩
            have HT7 : Box _ := ⟨hr7⟩
            clear hb7 hr7 hdj HP6 HR6 HRd
            as_aux_lemma =>
              go_wp2_with fail
              refine (HLR.out _ _ _ HR7.out).mono ?_
              rintro e w8 ⟨rfl, hb8⟩
              have HP8 : Box _ := ⟨HP7.out.below hb8⟩
              have HR8 : Box _ := ⟨HR7.out.below hb8⟩
              have HT8 : Box _ := ⟨HT7.out.below hb8⟩
              clear hb8 HP7 HR7 HT7 HLR
              go_wp2_with fail
              refine (roomSize_calls g7 h7 c7 N _ w8 HT8.out).mono ?_
              rintro e w9 ⟨rfl, rfl⟩
              have HAll : Box _ := ⟨roomAll_calls g7 h7 c7 N _ w8 HT8.out n2⟩
              rw [HBk.out] at HAll
              go_wp2_with fail
              refine (HAll.out).mono ?_
              rintro e w10 ⟨v10, rfl, ho10, hb10⟩
              obtain ⟨Aa, ca, rfl, _, hra, _⟩ := ho10.slice
              have HP10 : Box _ := ⟨HP8.out.below hb10⟩
              have HR10 : Box _ := ⟨HR8.out.below hb10⟩
              have HA10 : Box _ := ⟨hra⟩
              clear hb10 ho10 hra HP8 HR8 HT8 HAll
              as_aux_lemma =>
                go_wp2_with fail
                refine (sameInts_calls Aa Ah L.length L.length ca ch L L w10 rfl rfl (by omega) HA10.out HR10.out).mono ?_
                rintro e w11 ⟨rfl, hb11⟩
                rw [decide_eq_true (rfl : L = L)]
                have HP11 : Box _ := ⟨HP10.out.below hb11⟩
                clear hb11 HP10 HR10 HA10
                go_upto_if 304 with fail
                as_aux_lemma =>
                  go_cut [4] (fun v wx => ∃ b2 : ByteArray, v = .string b2 ∧ b2.size ≤ 300 ∧ Box (Below w11.heap.size w11 wx))
                  case first =>
                    as_aux_lemma =>
                      cases own
                      case false =>
                        go_wp2_with fail
                        go_meet
                        exact ⟨b, rfl, h3, ⟨Below.refl _ _⟩⟩
                      case true =>
                        by_cases hb252 : b.size ≤ 252
                        case pos =>
                          have hmin : min (b.size : Int) 252 = (b.size : Int) := by omega
                          have hex : b.extract 0 b.size = b := by
                            apply ByteArray.ext
                            rw [ByteArray.data_extract]
                            exact Array.extract_size
                          have HSe : Box _ := ⟨fun W => refSeal_calls 256 b W (by omega) (by omega)⟩
                          have HSs : Box _ := ⟨sealB_size b hb252⟩
                          obtain ⟨q1, hq1⟩ : ∃ q, (sealB 256 b).1 = q := ⟨_, rfl⟩
                          obtain ⟨q2, hq2⟩ : ∃ q, (sealB 256 b).2 = q := ⟨_, rfl⟩
                          rw [hq1] at HSe HSs
                          rw [hq2] at HSe
                          clear hq1 hq2
                          go_wp2_with fail
                          refine (HSe.out _).mono ?_
                          rintro e w12 ⟨rfl, hb12⟩
                          go_wp2_with fail
                          go_meet
                          exact ⟨q1, rfl, by have := HSs.out; omega, ⟨hb12⟩⟩
                        case neg =>
                          have hmin : min (b.size : Int) 252 = 252 := by omega
                          have hb3 : (252 : Int) ≤ (b.size : Int) := by omega
                          have HSe : Box _ := ⟨fun W => refSeal_calls 256 (b.extract 0 252) W (by omega) (by rw [ByteArray.size_extract]; omega)⟩
                          have HSs : Box _ := ⟨sealB_size (b.extract 0 252) (by rw [ByteArray.size_extract]; omega)⟩
                          obtain ⟨q1, hq1⟩ : ∃ q, (sealB 256 (b.extract 0 252)).1 = q := ⟨_, rfl⟩
                          obtain ⟨q2, hq2⟩ : ∃ q, (sealB 256 (b.extract 0 252)).2 = q := ⟨_, rfl⟩
                          rw [hq1] at HSe HSs
                          rw [hq2] at HSe
                          clear hq1 hq2
                          go_wp2_with fail
                          refine (HSe.out _).mono ?_
                          rintro e w12 ⟨rfl, hb12⟩
                          go_wp2_with fail
                          go_meet
                          exact ⟨q1, rfl, by have := HSs.out; omega, ⟨hb12⟩⟩
                  case rest =>
                    as_aux_lemma =>
                      obtain ⟨b2, rfl, hb2s, HBc⟩ := hcut
                      have HPc : Box _ := ⟨HP11.out.below HBc.out⟩
                      have HRd : Box _ := ⟨fun W => roomRead_calls b2 W (by omega)⟩
                      have HRr : Box _ := ⟨fun W => readRoom_calls b2 W (by omega)⟩
                      have HLM : Box (∀ l ∈ ls, l.length ≤ 100000) := ⟨fun l hl => by have := HPc.out.small l hl; omega⟩
                      clear HP11 HBc
                      go_wp2_with fail
                      refine (HRd.out _).mono ?_
                      rintro e w13 ⟨hb13, hdj⟩
                      have HP13 : Box _ := ⟨HPc.out.below hb13⟩
                      clear HPc HRd
                      as_aux_lemma =>
                        rcases hdj with ⟨hE, rfl⟩ | ⟨hE, g13, h13, c13, rfl, hr13, _, _, _, n13⟩
                        · --AUX
                          have hrm : rdM b2 = 0 := by rw [rdM, if_neg hE]
                          have hE2 : (rdE b2 == 0) = false := by simpa using hE
                          obtain ⟨x, hx⟩ : ∃ x, rdE b2 = x := ⟨_, rfl⟩
                          rw [hx] at HRr hE2 ⊢
                          clear hE hx
                          go_wp2_with fail
                          refine (HRr.out _).mono ?_
                          rintro e w14 ⟨v14, rfl, _, hb14⟩
                          have HP14 : Box _ := ⟨HP13.out.below hb14⟩
                          clear hb14 HRr HP13
                          as_aux_lemma =>
                            go_wp2_with fail
                            refine (roomTake_nil _).mono ?_
                            rintro e _ ⟨rfl, rfl⟩
                            go_wp2_with fail
                            refine (roomLay_nil _).mono ?_
                            rintro e _ ⟨rfl, rfl⟩
                            go_wp2_with fail
                            refine (roomGive_nil _ _ 1 1 (rowAt_alloc _ (icells [1]) _)).mono ?_
                            rintro e y ⟨rfl, rfl⟩
                            have HPx : Box _ := ⟨HP14.out.below (bel_alloc (Below.refl w14.heap.size w14) (.cells (icells [1]).toArray 3))⟩
                            obtain ⟨wy, hwy⟩ : ∃ wy, w14.alloc (.cells (icells [1]).toArray 3) = wy := ⟨_, rfl⟩
                            rw [hwy] at HPx
                            have HWy : Box _ := ⟨hwy⟩
                            clear hwy HP14
                            as_aux_lemma =>
                              go_wp2_with fail
                              refine (roomFree_nil _).mono ?_
                              rintro e _ ⟨rfl, rfl⟩
                              go_wp2_with fail
                              refine (roomSize_nil _).mono ?_
                              rintro e _ ⟨rfl, rfl⟩
                              go_wp2_with fail
                              refine (roomAll_nil _).mono ?_
                              rintro e _ ⟨rfl, rfl⟩
                              go_wp2_with fail
                              refine (roomUsed_nil _ at_).mono ?_
                              rintro e _ ⟨rfl, rfl⟩
                              go_wp2_with fail
                              refine (roomCopy_nil _).mono ?_
                              rintro e _ ⟨rfl, rfl⟩
                              as_aux_lemma =>
                                go_wp2_with fail
                                rw [HWy.out]
                                refine (apart_calls gb gb S T vs us ls _ (by have := HPx.out.len; omega) HLM.out HPx.out.book).mono ?_
                                rintro e z ⟨rfl, ht⟩
                                have HBz : Box (Below w.heap.size w z) := ⟨ht.below HPx.out.bel HPx.out.bel.size (by
                                  intro k hk
                                  obtain ⟨v, hv, e⟩ := mem_vblocks.1 hk
                                  have h1 := vs_ge HPx.out.book v hv k e
                                  have h2 := HPx.out.gbw
                                  omega)⟩
                                clear ht
                                go_wp2_with fail
                                go_ret
                                exact ⟨rfl, HBz.out⟩
                        · --AUX
                          have hrm : rdM b2 = rdN b2 := by rw [rdM, if_pos hE]
                          have hrl : rdL b2 = idsL (rdF b2) (rdN b2) := by rw [rdL, if_pos hE]
                          rw [hE, hrm, hrl] at HRr
                          obtain ⟨n', hn'⟩ : ∃ n', rdN b2 = n' := ⟨_, rfl⟩
                          obtain ⟨f', hf'⟩ : ∃ f', rdF b2 = f' := ⟨_, rfl⟩
                          rw [hn'] at HRr hr13 n13
                          rw [hf'] at HRr hr13
                          have HR13 : Box _ := ⟨hr13⟩
                          clear hE hrm hrl hn' hf' hr13
                          go_wp2_with fail
                          refine (HRr.out _).mono ?_
                          rintro e w14 ⟨v14, rfl, ho14, hb14⟩
                          obtain ⟨A14, c14, rfl, _, hr14, _⟩ := ho14.slice
                          have HP14 : Box _ := ⟨HP13.out.below hb14⟩
                          have HT14 : Box _ := ⟨HR13.out.below hb14⟩
                          have HA14 : Box _ := ⟨hr14⟩
                          have hl14 := idsL_le f' n'
                          obtain ⟨L', hL'⟩ : ∃ L', idsL f' n' = L' := ⟨_, rfl⟩
                          have HAll : Box _ := ⟨fun W hA => roomAll_calls g13 h13 c13 n' f' W hA n13⟩
                          rw [hL'] at HA14 hl14 HAll ⊢
                          clear hb14 ho14 hr14 hL' HP13 HR13 HRr
                          as_aux_lemma =>
                            go_wp2_with fail
                            refine (roomSize_calls g13 h13 c13 n' f' _ HT14.out).mono ?_
                            rintro e w15 ⟨rfl, rfl⟩
                            go_wp2_with fail
                            refine (HAll.out _ HT14.out).mono ?_
                            rintro e w16 ⟨v16, rfl, ho16, hb16⟩
                            obtain ⟨A16, c16, rfl, _, hr16, _⟩ := ho16.slice
                            have HP16 : Box _ := ⟨HP14.out.below hb16⟩
                            have HA16 : Box _ := ⟨HA14.out.below hb16⟩
                            have HB16 : Box _ := ⟨hr16⟩
                            clear ho16 hb16 hr16 HP14 HA14 HT14 HAll
                            as_aux_lemma =>
                              go_wp2_with fail
                              refine (sameInts_calls A16 A14 L'.length L'.length c16 c14 L' L' w16 rfl rfl (by omega) HB16.out HA16.out).mono ?_
                              rintro e w17 ⟨rfl, hb17⟩
                              rw [decide_eq_true (rfl : L' = L')]
                              have HP17 : Box _ := ⟨HP16.out.below hb17⟩
                              clear hb17 HP16 HA16 HB16
                              as_aux_lemma =>
                                go_wp2_with fail
                                refine (roomTake_nil _).mono ?_
                                rintro e _ ⟨rfl, rfl⟩
                                go_wp2_with fail
                                refine (roomLay_nil _).mono ?_
                                rintro e _ ⟨rfl, rfl⟩
                                go_wp2_with fail
                                refine (roomGive_nil _ _ 1 1 (rowAt_alloc _ (icells [1]) _)).mono ?_
                                rintro e y ⟨rfl, rfl⟩
                                have HPx : Box _ := ⟨HP17.out.below (bel_alloc (Below.refl w17.heap.size w17) (.cells (icells [1]).toArray 3))⟩
                                obtain ⟨wy, hwy⟩ : ∃ wy, w17.alloc (.cells (icells [1]).toArray 3) = wy := ⟨_, rfl⟩
                                rw [hwy] at HPx
                                have HWy : Box _ := ⟨hwy⟩
                                clear hwy HP17
                                as_aux_lemma =>
                                  go_wp2_with fail
                                  refine (roomFree_nil _).mono ?_
                                  rintro e _ ⟨rfl, rfl⟩
                                  go_wp2_with fail
                                  refine (roomSize_nil _).mono ?_
                                  rintro e _ ⟨rfl, rfl⟩
                                  go_wp2_with fail
                                  refine (roomAll_nil _).mono ?_
                                  rintro e _ ⟨rfl, rfl⟩
                                  go_wp2_with fail
                                  refine (roomUsed_nil _ at_).mono ?_
                                  rintro e _ ⟨rfl, rfl⟩
                                  go_wp2_with fail
                                  refine (roomCopy_nil _).mono ?_
                                  rintro e _ ⟨rfl, rfl⟩
                                  as_aux_lemma =>
                                    go_wp2_with fail
                                    rw [HWy.out]
                                    refine (apart_calls gb gb S T vs us ls _ (by have := HPx.out.len; omega) HLM.out HPx.out.book).mono ?_
                                    rintro e z ⟨rfl, ht⟩
                                    have HBz : Box (Below w.heap.size w z) := ⟨ht.below HPx.out.bel HPx.out.bel.size (by
                                      intro k hk
                                      obtain ⟨v, hv, e⟩ := mem_vblocks.1 hk
                                      have h1 := vs_ge HPx.out.book v hv k e
                                      have h2 := HPx.out.gbw
                                      omega)⟩
                                    clear ht
                                    go_wp2_with fail
                                    go_ret
                                    exact ⟨rfl, HBz.out⟩
end Go.Proofs.Ytoadelcdcfdmfaa
