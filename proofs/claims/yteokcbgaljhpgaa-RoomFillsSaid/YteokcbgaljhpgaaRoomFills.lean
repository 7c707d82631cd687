/- RoomFills. -/
import Derived.Test.YteokcbgaljhpgaaRoomLaw
namespace Go.Proofs.Yteokcbgaljhpgaa
open Go.RowKit

def lastV (F : List Int) : Nat → Int
  | 0 => -1
  | k + 1 => F.getD k 0
theorem lastV_lt (F : List Int) (hs : F.Pairwise (· < ·)) (hp : ∀ x ∈ F, 0 ≤ x) (k : Nat) (y : Int) (hk : F[k]? = some y) : lastV F k < y := by
  cases k with
  | zero => have := hp y (List.mem_of_getElem? hk); show (-1 : Int) < y; omega
  | succ k =>
    obtain ⟨h1, h2⟩ := List.getElem?_eq_some_iff.1 hk
    have := (List.pairwise_iff_getElem.1 hs) k (k + 1) (by omega) h1 (by omega)
    rw [h2] at this
    show F.getD k 0 < y
    rw [List.getD_eq_getElem?_getD, List.getElem?_eq_getElem (by omega)]
    exact this
theorem idsL_full {f : Nat → Bool} {n : Nat} (h : ∀ j, j < n → f j = true) : (idsL f n).length = n := by
  rw [idsL_congr (g := fun _ => true) h]
  unfold idsL
  rw [List.length_map, List.filter_eq_self.2 (by simp), List.length_range]

set_option maxHeartbeats 8000000 in
set_option maxRecDepth 100000 in
theorem roomFills_calls (a : Int) (A1 : Option Addr) (n1 c1 : Nat) (l1 : List Int) (A2 : Option Addr) (n2 c2 : Nat) (l2 : List Int) (w : World) (_ha : -9223372036854775808 ≤ a ∧ a ≤ 9223372036854775807)
    (hl1 : l1.length = n1) (_hc1 : n1 ≤ c1) (hn1 : n1 * 8 ≤ 140737488351232) (hs1 : ∀ x ∈ l1, -9223372036854775808 ≤ x ∧ x ≤ 9223372036854775807) (hR1 : RowAt w A1 (icells l1))
    (hl2 : l2.length = n2) (_hc2 : n2 ≤ c2) (hn2 : n2 * 8 ≤ 140737488351232) (hs2 : ∀ x ∈ l2, -9223372036854775808 ≤ x ∧ x ≤ 9223372036854775807) (hR2 : RowAt w A2 (icells l2)) :
    Calls Try.prog 15 #[.int .i64 a, .slice A1 n1 c1, .slice A2 n2 c2] w fun e w' => e = .returned (.bool true) ∧ Below w.heap.size w w' := by
  subst hl1 hl2
  by_cases hg : 1 ≤ a ∧ a ≤ 300 ∧ l1.length ≤ 100 ∧ l2.length ≤ 100
  case neg =>
    have key : a < 1 ∨ (1 ≤ a ∧ 300 < a) ∨ (1 ≤ a ∧ a ≤ 300 ∧ 100 < l1.length) ∨ (1 ≤ a ∧ a ≤ 300 ∧ l1.length ≤ 100 ∧ 100 < l2.length) := by omega
    clear hg hR1 hR2 hs1 hs2
    rcases key with h1 | ⟨h1, h2⟩ | ⟨h1, h2, h3⟩ | ⟨h1, h2, h3, h4⟩
    all_goals
      go_enter Try.func15, Try.ntmps15
      go_wp2_with fail
      refine (roomAlive_calls _).mono ?_
      rintro e w1 ⟨rfl, hb1⟩
      go_wp2
      go_ret
      exact ⟨rfl, hb1⟩
  obtain ⟨g1, g2, g3, g4⟩ := hg
  obtain ⟨n, rfl⟩ : ∃ n : Nat, a = (n : Int) := ⟨a.toNat, by omega⟩
  have gn1 : 1 ≤ n := by omega
  have gn2 : n ≤ 300 := by omega
  clear _ha _hc1 _hc2 hn1 hn2
  have HR1 : Box _ := ⟨hR1⟩
  have HR2 : Box _ := ⟨hR2⟩
  have HS1 : Box _ := ⟨hs1⟩
  have HS2 : Box _ := ⟨hs2⟩
  clear hR1 hR2 hs1 hs2
  go_enter Try.func15, Try.ntmps15
  go_wp2_with fail
  refine (roomAlive_calls _).mono ?_
  rintro e w0 ⟨rfl, hb0⟩
  have B0 : Box _ := ⟨hb0⟩
  clear hb0
  go_wp2_with fail
  go_loopw [7, 8] (fun v i wr => ∃ (k : Nat) (A : Option Addr) (m c : Nat), k ≤ l1.length ∧ i = .int .i64 (k : Int) ∧ v = .slice A m c ∧ m ≤ c ∧ Box (m = (putN ((l1.take k).map (modL n))).length) ∧ Box (RowAt wr A (icells (putN ((l1.take k).map (modL n))))) ∧ Box (Below w.heap.size w wr)) (fun _ i _ => l1.length - (intOf i).toNat)
  case atStart => exact ⟨0, none, 0, 0, by omega, rfl, rfl, by omega, ⟨rfl⟩, ⟨.nil _ _⟩, B0⟩
  case round =>
    obtain ⟨k, A, m, c, hk, rfl, rfl, hmc, HM, HA, HW⟩ := hrel
    by_cases hlt : k < l1.length
    · obtain ⟨x, hx⟩ := some_at hlt
      obtain ⟨ad, rfl, hcell⟩ := (HR1.out.below HW.out).get (icells_at hx)
      obtain ⟨x0, x1⟩ := HS1.out x (List.mem_of_getElem? hx)
      have HX : Box (putN ((l1.take (k + 1)).map (modL n)) = putL (putN ((l1.take k).map (modL n))) (modL n x)) := ⟨by rw [take_snoc_of hx, List.map_append, List.map_singleton, putN_snoc]⟩
      have hle := putN_le ((l1.take k).map (modL n))
      rw [List.length_map, List.length_take, ← HM.out] at hle
      have t1 := Int.tmod_lt_of_pos x (show (0 : Int) < (n : Int) by omega)
      have t2 := Int.lt_tmod_of_pos x (show (0 : Int) < (n : Int) by omega)
      have hm100 : m ≤ 100 := by omega
      obtain ⟨y, hy⟩ : ∃ y, modL n x = y := ⟨_, rfl⟩
      have hy2 : (x.tmod (n : Int) + (n : Int)) % (n : Int) = y := hy
      rw [hy] at HX
      clear hx hle hy
      go_wp2_with fail
      refine (put_calls A m c _ y _ HM.out.symm hmc (by omega) HA.out).mono ?_
      rintro e w1 ⟨A', m', c', rfl, hm', hc', hr', _, hb'⟩
      have HM' : Box _ := ⟨hm'⟩
      have HR' : Box _ := ⟨hr'⟩
      have HB' : Box _ := ⟨below_trans' HW.out hb'⟩
      clear hm' hr' hb'
      go_wp2_with fail
      go_roundw
      case rel => exact ⟨k + 1, A', m', c', by omega, by go_num, rfl, hc', by rw [HX.out]; exact HM', by rw [HX.out]; exact HR', HB'⟩
      case measure => simp [intOf]; omega
    · obtain rfl : k = l1.length := by omega
      obtain ⟨wo, rfl⟩ : ∃ wo : World, wo = wr := ⟨_, rfl⟩
      rw [List.take_of_length_le (Nat.le_refl _)] at HM HA
      have hsort := putN_sorted (l1.map (modL n))
      have hle := putN_le (l1.map (modL n))
      have hin : ∀ x ∈ putN (l1.map (modL n)), 0 ≤ x ∧ x < (n : Int) := by
        intro x hx
        rw [putN_mem] at hx
        obtain ⟨z, _, rfl⟩ := List.mem_map.1 hx
        exact modL_in n z gn1
      rw [List.length_map] at hle
      obtain ⟨S, hS⟩ : ∃ S, putN (l1.map (modL n)) = S := ⟨_, rfl⟩
      rw [hS] at HM HA hsort hin hle
      clear hS
      have hm : m ≤ 100 := by rw [HM.out]; omega
      have HN : Box _ := ⟨roomNew_calls n A c m S wo HM.out.symm gn1 (by omega) (by omega) HA.out hin⟩
      -- those that are free, rising
      have hF : (idsL (fun j => !decide ((j : Int) ∈ S)) n).length = n - m := by
        have h1 := idsL_compl (fun j => decide ((j : Int) ∈ S)) n
        rw [idsL_of S n hsort hin, ← HM.out] at h1
        omega
      have hFs := idsL_sorted (fun j => !decide ((j : Int) ∈ S)) n
      have hFm := idsL_mem (fun j => !decide ((j : Int) ∈ S)) n
      obtain ⟨F, hFF⟩ : ∃ F, idsL (fun j => !decide ((j : Int) ∈ S)) n = F := ⟨_, rfl⟩
      rw [hFF] at hF hFs hFm
      have HF : Box _ := ⟨hF⟩
      have HFs : Box _ := ⟨hFs⟩
      have HFm : Box _ := ⟨hFm⟩
      have hmn : m ≤ n := by
        have h1 := idsL_le (fun j => decide ((j : Int) ∈ S)) n
        rw [idsL_of S n hsort hin, ← HM.out] at h1
        exact h1
      have HS : Box (RowAt wo A (icells S)) := HA
      clear hsort hin hle hFF hF hFs hFm HA
      go_wp2_with fail
      refine Calls.mono HN.out ?_
      rintro e w2 ⟨rfl, ha2, hb2⟩
      obtain ⟨h, hh⟩ : ∃ h, wo.heap.size = h := ⟨_, rfl⟩
      have hwh : w.heap.size ≤ h := by rw [← hh]; exact HW.out.size
      rw [hh] at ha2 hb2 ⊢
      have HA2 : Box _ := ⟨ha2⟩
      have HB2 : Box (Below h wo w2) := ⟨hb2⟩
      have HH : Box _ := ⟨hh⟩
      clear ha2 hb2 hh HN
      go_wp2_with fail
      go_loopw [11, 12] (fun v i wx => ∃ k : Nat, k ≤ n - m ∧ i = .int .i64 (k : Int) ∧ v = .int .i64 (lastV F k) ∧ Box (RoomAt wx (h + 1) h n n (fun j => decide ((j : Int) ∈ S) || decide ((j : Int) ∈ F.take k))) ∧ Box (Below h wo wx)) (fun _ i _ => n - m - (intOf i).toNat)
      case atStart => exact ⟨0, by omega, rfl, rfl, ⟨by simpa using HA2.out⟩, HB2⟩
      case round =>
        obtain ⟨k, hk, rfl, rfl, HN, HX⟩ := hrel
        by_cases hlt : k < n - m
        · obtain ⟨y, hy⟩ := some_at (l := F) (k := k) (by rw [HF.out]; exact hlt)
          obtain ⟨j, hj, rfl, hjS⟩ := (HFm.out y).1 (List.mem_of_getElem? hy)
          have hjS2 : ¬ (j : Int) ∈ S := by simpa using hjS
          have hll := lastV_lt F HFs.out (fun x hx => by obtain ⟨z, _, rfl, _⟩ := (HFm.out x).1 hx; omega) k _ hy
          have hup : ∀ j', j' < j → (decide ((j' : Int) ∈ S) || decide ((j' : Int) ∈ F.take k)) = true := by
            intro j' hj'
            by_cases e : (j' : Int) ∈ S
            · simp [e]
            · have h1 : (j' : Int) ∈ F := (HFm.out j').2 ⟨j', by omega, rfl, by simp [e]⟩
              have h2 := (take_of_sorted F HFs.out k _ hy (j' : Int)).2 ⟨h1, by omega⟩
              simp [h2]
          have hat : (decide ((j : Int) ∈ S) || decide ((j : Int) ∈ F.take k)) = false := by
            have h2 : ¬ (j : Int) ∈ F.take k := fun h => by have := ((take_of_sorted F HFs.out k _ hy (j : Int)).1 h).2; omega
            simp [hjS2, h2]
          have HT : Box _ := ⟨roomTake_calls _ _ _ _ _ wr HN.out (by omega) j hj hup hat⟩
          have HC : Box (∀ i, i < n → upd (fun j => decide ((j : Int) ∈ S) || decide ((j : Int) ∈ F.take k)) j true i = (decide ((i : Int) ∈ S) || decide ((i : Int) ∈ F.take (k + 1)))) := ⟨fun i _ => by
            rw [take_snoc_of hy]
            by_cases e : i = j
            · subst e; simp [upd]
            · have e2 : ¬ (i : Int) = (j : Int) := by omega
              simp [upd, e, e2]⟩
          have HL : Box (lastV F (k + 1) = (j : Int)) := ⟨by show F.getD k 0 = _; rw [List.getD_eq_getElem?_getD, hy]; rfl⟩
          have hdS : decide ((j : Int) ∈ S) = false := by simpa using hjS2
          obtain ⟨u, hu⟩ : ∃ u, lastV F k = u := ⟨_, rfl⟩
          rw [hu] at hll ⊢
          clear hy hjS hjS2 hup hat hu
          have j0 : (0 : Int) ≤ (j : Int) := by omega
          go_wp2_with fail
          refine Calls.mono HT.out ?_
          rintro e w3 ⟨rfl, ha3, ht3⟩
          have HA3 : Box _ := ⟨ha3.congr HC.out⟩
          have HB3 : Box (Below h wo w3) := ⟨ht3.below HX.out (by have := HX.out.size; rw [HH.out] at this; exact this) (by intro q hq; simp at hq; omega)⟩
          clear ha3 ht3
          have HSr : Box (RowAt w3 A (icells S)) := ⟨HS.out.below (by rw [HH.out]; exact HB3.out)⟩
          go_wp2_with fail
          refine (among_calls A m c S (j : Int) _ HM.out.symm (by omega) HSr.out).mono ?_
          rintro e w4 ⟨rfl, rfl⟩
          rw [hdS]
          go_wp2_with fail
          go_roundw
          case rel => exact ⟨k + 1, by omega, by go_num, by rw [HL.out], HA3, HB3⟩
          case measure => simp [intOf]; omega
        · have hfull : ∀ j, j < n → (decide ((j : Int) ∈ S) || decide ((j : Int) ∈ F.take k)) = true := by
            intro j hj
            rw [List.take_of_length_le (by rw [HF.out]; omega)]
            by_cases e : (j : Int) ∈ S
            · simp [e]
            · have h1 : (j : Int) ∈ F := (HFm.out j).2 ⟨j, hj, rfl, by simp [e]⟩
              simp [h1]
          obtain ⟨w5, rfl⟩ : ∃ w5 : World, w5 = wr := ⟨_, rfl⟩
          have HA5 : Box (RoomAt w5 (h + 1) h n n (fun _ => true)) := ⟨HN.out.congr hfull⟩
          have HB5 : Box (Below w.heap.size w w5) := ⟨below_trans' HW.out (by rw [HH.out]; exact HX.out)⟩
          have HL5 : h < w5.heap.size := HA5.out.hlt
          have hge : ¬ k < n - m := hlt
          have hge2 : (n : Int) - (m : Int) ≤ (k : Int) := by omega
          clear hfull HN
          go_wp2_with fail
          refine (roomTake_full _ _ _ _ _ _ HA5.out (by omega) (fun _ _ => rfl)).mono ?_
          rintro e w6 ⟨rfl, rfl⟩
          have e0 : ((n - (idsL (fun _ => true) n).length : Nat) : Int) = 0 := by rw [idsL_full (fun _ _ => rfl)]; simp
          go_wp2_with fail
          refine (roomFree_calls _ _ _ _ _ _ HA5.out (by omega)).mono ?_
          rintro e w6 ⟨rfl, hb6⟩
          rw [e0]
          have HA6 : Box _ := ⟨HA5.out.below hb6⟩
          have HB6 : Box _ := ⟨below_trans' HB5.out hb6⟩
          have HL6 : h < w6.heap.size := Nat.lt_of_lt_of_le HL5 hb6.size
          clear hb6 e0 HA5
          go_wp2_with fail
          go_loopw [17, 18] (fun v i wx => ∃ (k : Nat) (A : Option Addr) (m c : Nat), k ≤ l2.length ∧ i = .int .i64 (k : Int) ∧ v = .slice A m c ∧ m ≤ c ∧ Box (m = (putN ((l2.take k).map (modL n))).length) ∧ Box (RowAt wx A (icells (putN ((l2.take k).map (modL n))))) ∧ Box (A = none ∨ ∃ g, A = some ⟨g, 0, none⟩ ∧ w6.heap.size ≤ g) ∧ Box (Below w6.heap.size w6 wx)) (fun _ i _ => l2.length - (intOf i).toNat)
          case atStart => exact ⟨0, none, 0, 0, by omega, rfl, rfl, by omega, ⟨rfl⟩, ⟨.nil _ _⟩, ⟨.inl rfl⟩, ⟨Below.refl _ _⟩⟩
          case round =>
            obtain ⟨k, A, m, c, hk, rfl, rfl, hmc, HM, HA, HG, HW⟩ := hrel
            by_cases hlt : k < l2.length
            · obtain ⟨x, hx⟩ := some_at hlt
              obtain ⟨ad, rfl, hcell⟩ := ((HR2.out.below HB6.out).below HW.out).get (icells_at hx)
              obtain ⟨x0, x1⟩ := HS2.out x (List.mem_of_getElem? hx)
              have HX : Box (putN ((l2.take (k + 1)).map (modL n)) = putL (putN ((l2.take k).map (modL n))) (modL n x)) := ⟨by rw [take_snoc_of hx, List.map_append, List.map_singleton, putN_snoc]⟩
              have hle := putN_le ((l2.take k).map (modL n))
              rw [List.length_map, List.length_take, ← HM.out] at hle
              have t1 := Int.tmod_lt_of_pos x (show (0 : Int) < (n : Int) by omega)
              have t2 := Int.lt_tmod_of_pos x (show (0 : Int) < (n : Int) by omega)
              have hm100 : m ≤ 100 := by omega
              obtain ⟨y, hy⟩ : ∃ y, modL n x = y := ⟨_, rfl⟩
              have hy2 : (x.tmod (n : Int) + (n : Int)) % (n : Int) = y := hy
              rw [hy] at HX
              clear hx hle hy
              go_wp2_with fail
              refine (put_calls A m c _ y _ HM.out.symm hmc (by omega) HA.out).mono ?_
              rintro e w1 ⟨A', m', c', rfl, hm', hc', hr', hg', hb'⟩
              have HM' : Box _ := ⟨hm'⟩
              have HR' : Box _ := ⟨hr'⟩
              have HG' : Box (A' = none ∨ ∃ g, A' = some ⟨g, 0, none⟩ ∧ w6.heap.size ≤ g) := ⟨by
                rcases hg' with h1 | ⟨g, h1, h2⟩
                · rw [h1]; exact HG.out
                · exact .inr ⟨g, h1, Nat.le_trans HW.out.size h2⟩⟩
              have HB' : Box _ := ⟨below_trans' HW.out hb'⟩
              clear hm' hr' hb' hg'
              go_wp2_with fail
              go_roundw
              case rel => exact ⟨k + 1, A', m', c', by omega, by go_num, rfl, hc', by rw [HX.out]; exact HM', by rw [HX.out]; exact HR', HG', HB'⟩
              case measure => simp [intOf]; omega
            · obtain rfl : k = l2.length := by omega
              rw [List.take_of_length_le (Nat.le_refl _)] at HM HA
              obtain ⟨w7, rfl⟩ : ∃ w7 : World, w7 = wr := ⟨_, rfl⟩
              have hsort := putN_sorted (l2.map (modL n))
              have hle := putN_le (l2.map (modL n))
              have hin : ∀ x ∈ putN (l2.map (modL n)), 0 ≤ x ∧ x < (n : Int) := by
                intro x hx
                rw [putN_mem] at hx
                obtain ⟨z, _, rfl⟩ := List.mem_map.1 hx
                exact modL_in n z gn1
              rw [List.length_map] at hle
              obtain ⟨O, hO⟩ : ∃ O, putN (l2.map (modL n)) = O := ⟨_, rfl⟩
              rw [hO] at HM HA hsort hin hle
              clear hO
              have hm : m ≤ 100 := by rw [HM.out]; omega
              have HA7 : Box _ := ⟨HA6.out.below HW.out⟩
              have HB7 : Box (Below w.heap.size w w7) := ⟨below_trans' HB6.out HW.out⟩
              have HGV : Box _ := ⟨roomGive_calls (h + 1) h n n (fun _ => true) A m c O w7 HM.out.symm (by omega) HA7.out (by omega) (fun w' hT => row_touched HA.out hT (by
                rcases HG.out with h1 | ⟨g, h1, h2⟩
                · exact .inl h1
                · exact .inr ⟨g, h1, by simp; omega⟩))⟩
              obtain ⟨gv1, gv2⟩ := giveL_all n O (fun _ => true) 0 hsort (fun x hx => ⟨(hin x hx).1, (hin x hx).2, rfl⟩)
              rw [gv1, Nat.zero_add, ← HM.out] at HGV
              have HC8 : Box (∀ j, j < n → (giveL n O (fun _ => true, 0)).1 j = !decide ((j : Int) ∈ O)) := ⟨fun j _ => by rw [gv2]; simp⟩
              have hfr : n - (idsL (fun j => !decide ((j : Int) ∈ O)) n).length = m := by
                have h1 := idsL_compl (fun j => decide ((j : Int) ∈ O)) n
                rw [idsL_of O n hsort hin, ← HM.out] at h1
                omega
              have HFR : Box _ := ⟨hfr⟩
              have HSO : Box _ := ⟨hsort⟩
              have HIN : Box _ := ⟨hin⟩
              have HSz : Box _ := ⟨hle⟩
              clear gv1 gv2 hsort hin hle hfr
              go_wp2_with fail
              refine Calls.mono HGV.out ?_
              rintro e w8 ⟨rfl, ha8, ht8⟩
              have HA8 : Box _ := ⟨ha8.congr HC8.out⟩
              have HB8 : Box (Below w.heap.size w w8) := ⟨ht8.below HB7.out HB7.out.size (by intro q hq; simp at hq; omega)⟩
              have HR8 : Box (RowAt w8 A (icells O)) := ⟨row_touched HA.out ht8 (by
                rcases HG.out with h1 | ⟨g, h1, h2⟩
                · exact .inl h1
                · exact .inr ⟨g, h1, by simp; omega⟩)⟩
              clear ha8 ht8 HGV HA7
              go_wp2_with fail
              refine (roomFree_calls _ _ _ _ _ _ HA8.out (by omega)).mono ?_
              rintro e w9 ⟨rfl, hb9⟩
              rw [HFR.out]
              have HA9 : Box _ := ⟨HA8.out.below hb9⟩
              have HB9 : Box _ := ⟨below_trans' HB8.out hb9⟩
              have HR9 : Box _ := ⟨HR8.out.below hb9⟩
              clear hb9
              go_wp2_with fail
              go_loopw [19] (fun i wx => ∃ k : Nat, k ≤ m ∧ i = .int .i64 (k : Int) ∧ Box (RoomAt wx (h + 1) h n n (fun j => !decide ((j : Int) ∈ O.drop k))) ∧ Box (Touched w9 wx [h])) (fun i _ => m - (intOf i).toNat)
              case atStart => exact ⟨0, by omega, rfl, ⟨by simpa using HA9.out⟩, ⟨Touched.refl _ _⟩⟩
              case round =>
                obtain ⟨k, hk, rfl, HN, HX⟩ := hrel
                have HRx : Box (RowAt wr A (icells O)) := ⟨row_touched HR9.out HX.out (by
                  rcases HG.out with h1 | ⟨g, h1, h2⟩
                  · exact .inl h1
                  · exact .inr ⟨g, h1, by simp; omega⟩)⟩
                by_cases hlt : k < m
                · obtain ⟨y, hy⟩ := some_at (l := O) (k := k) (by rw [← HM.out]; exact hlt)
                  obtain ⟨ad, rfl, hcell⟩ := HRx.out.get (icells_at hy)
                  obtain ⟨y0, y1⟩ := HIN.out y (List.mem_of_getElem? hy)
                  obtain ⟨j, rfl⟩ : ∃ j : Nat, y = (j : Int) := ⟨y.toNat, by omega⟩
                  have hd : O.drop k = (j : Int) :: O.drop (k + 1) := by
                    have h1 := (List.getElem?_eq_some_iff.1 hy).1
                    have h2 := (List.getElem?_eq_some_iff.1 hy).2
                    rw [List.drop_eq_getElem_cons h1, h2]
                  have hps : ((j : Int) :: O.drop (k + 1)).Pairwise (· < ·) := by
                    rw [← hd]; exact List.Pairwise.sublist (List.drop_sublist k O) HSO.out
                  have hps2 := (List.pairwise_cons.1 hps).1
                  have hup : ∀ j', j' < j → (!decide ((j' : Int) ∈ O.drop k)) = true := by
                    intro j' hj'
                    rw [hd]
                    have h1 : ¬ (j' : Int) ∈ (j : Int) :: O.drop (k + 1) := by
                      intro hm
                      rcases List.mem_cons.1 hm with e | e
                      · omega
                      · have := hps2 _ e; omega
                    simp [h1] 
                  have hat : (!decide ((j : Int) ∈ O.drop k)) = false := by rw [hd]; simp
                  have HT : Box _ := ⟨roomTake_calls _ _ _ _ _ wr HN.out (by omega) j (by omega) hup hat⟩
                  have HC : Box (∀ i, i < n → upd (fun j => !decide ((j : Int) ∈ O.drop k)) j true i = (!decide ((i : Int) ∈ O.drop (k + 1)))) := ⟨fun i _ => by
                    rw [hd]
                    by_cases e : i = j
                    · subst e
                      have h1 : ¬ (i : Int) ∈ O.drop (k + 1) := fun hm => by have := hps2 _ hm; omega
                      simp [upd, h1]
                    · have e2 : ¬ (i : Int) = (j : Int) := by omega
                      simp [upd, e, e2]⟩
                  clear hy hd hps hps2 hup hat
                  go_wp2_with fail
                  refine Calls.mono HT.out ?_
                  rintro e w10 ⟨rfl, ha10, ht10⟩
                  have HA10 : Box _ := ⟨ha10.congr HC.out⟩
                  have HB10 : Box (Touched w9 w10 [h]) := ⟨HX.out.trans ht10⟩
                  have hcell2 : w10.cell? (ad.add k) = some (.int .i64 (j : Int)) := by
                    rcases HG.out with h1 | ⟨g, h1, h2⟩
                    · cases h1
                    · injection h1 with h1
                      subst h1
                      rw [add0] at hcell ⊢
                      exact (ht10.cell (World.block_lt_of_cell? wr _ hcell) (by simp; omega)).trans hcell
                  clear ha10 ht10
                  go_wp2_with fail
                  go_roundw
                  case rel => exact ⟨k + 1, by omega, by go_num, HA10, HB10⟩
                  case measure => simp [intOf]; omega
                · obtain rfl : k = m := by omega
                  have HB10 : Box (Below w.heap.size w wr) := ⟨HX.out.below HB9.out HB9.out.size (by intro q hq; simp at hq; omega)⟩
                  have hlr : h < wr.heap.size := HN.out.hlt
                  have HGL : Box _ := ⟨giveL_out n (fun j => !decide ((j : Int) ∈ O.drop k)) 0⟩
                  have HGV : Box _ := ⟨roomGive_calls (h + 1) h n n _ (some ⟨wr.heap.size, 0, none⟩) 2 2 [-1, (n : Int)] (wr.alloc (.cells (icells [-1, (n : Int)]).toArray 3)) rfl (by omega) (HN.out.below ((Below.refl _ _).alloc (Nat.le_refl _) _)) (by omega) (fun w' hT => row_touched (rowAt_alloc wr (icells [-1, (n : Int)]) _) hT (.inr ⟨_, rfl, by simp; omega⟩))⟩
                  rw [HGL.out] at HGV
                  go_wp2_with fail
                  refine Calls.mono HGV.out ?_
                  rintro e w11 ⟨rfl, _, ht11⟩
                  have HB11 : Box (Below w.heap.size w w11) := ⟨ht11.below (HB10.out.alloc HB10.out.size _) (by have := HB10.out.size; simp; omega) (by intro q hq; simp at hq; omega)⟩
                  clear ht11
                  go_wp2_with fail
                  go_ret
                  exact ⟨rfl, HB11.out⟩
end Go.Proofs.Yteokcbgaljhpgaa
