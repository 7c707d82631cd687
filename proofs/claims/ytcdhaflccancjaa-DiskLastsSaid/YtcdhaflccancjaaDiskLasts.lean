/- DiskLasts: what was flushed lasts, and of what was not flushed what was kept. -/
import Derived.Test.YtcdhaflccancjaaDiskAlive
import Derived.Test.YtcdhaflccancjaaDiskMap
namespace Go.Proofs.Ytcdhaflccancjaa
open Go.RowKit

def secY (x : Int) : Nat := ((Int.tmod x 20 + 20).tmod 20).toNat
theorem secY_eq (x : Int) : (Int.tmod x 20 + 20).tmod 20 = (secY x : Int) ∧ secY x < 20 ∧ -20 < Int.tmod x 20 ∧ Int.tmod x 20 < 20 := by
  have h1 : -20 < Int.tmod x 20 := by have := Int.lt_tmod_of_pos x (b := 20) (by omega); omega
  have h2 : Int.tmod x 20 < 20 := Int.tmod_lt_of_pos x (by omega)
  have h3 : 0 ≤ (Int.tmod x 20 + 20).tmod 20 := Int.tmod_nonneg _ (by omega)
  have h4 : (Int.tmod x 20 + 20).tmod 20 < 20 := Int.tmod_lt_of_pos _ (by omega)
  unfold secY
  omega
theorem one_byte (v : Nat) (hv : v < 256) : bcells [UInt8.ofNat v] = [.int .u8 (v : Int)] := by
  simp only [bcells, List.map_cons, List.map_nil]
  rw [show (UInt8.ofNat v).toNat = v by rw [UInt8.toNat_ofNat']; omega]
theorem byte_str (v : Nat) (x : Int) (hx : x = (v : Int)) (hv : v < 256) (W : World) : (convert 29 9 (.slice (some ⟨W.heap.size, 0, none⟩) 1 1)).run Try.prog (W.alloc (.cells #[.int .u8 x] 5)) = .ok (.string ⟨#[UInt8.ofNat v]⟩) (W.alloc (.cells #[.int .u8 x] 5)) := by
  subst hx
  have h := bytes_str Try.prog 29 5 9 Try.underlying29 Try.underlying5 Try.underlying9 (some ⟨W.heap.size, 0, none⟩) 1 1 [UInt8.ofNat v] (W.alloc (.cells #[.int .u8 (v : Int)] 5)) rfl (by
    rw [one_byte v hv]
    exact rowAt_alloc W [.int .u8 (v : Int)] _)
  rw [h]

set_option maxHeartbeats 6400000 in
set_option maxRecDepth 100000 in
theorem diskLasts_calls (A1 : Option Addr) (n1 c1 : Nat) (la : List Int) (A2 : Option Addr) (n2 c2 : Nat) (lb : List Int) (A3 : Option Addr) (n3 c3 : Nat) (keep : List Int) (w : World)
    (hl1 : la.length = n1) (_hc1 : n1 ≤ c1) (hn1 : n1 * 8 ≤ 140737488351232) (_hs1 : ∀ z ∈ la, -9223372036854775808 ≤ z ∧ z ≤ 9223372036854775807) (hR1 : RowAt w A1 (icells la))
    (hl2 : lb.length = n2) (_hc2 : n2 ≤ c2) (hn2 : n2 * 8 ≤ 140737488351232) (_hs2 : ∀ z ∈ lb, -9223372036854775808 ≤ z ∧ z ≤ 9223372036854775807) (hR2 : RowAt w A2 (icells lb))
    (hl3 : keep.length = n3) (_hc3 : n3 ≤ c3) (hn3 : n3 * 8 ≤ 140737488351232) (_hs3 : ∀ z ∈ keep, -9223372036854775808 ≤ z ∧ z ≤ 9223372036854775807) (hR3 : RowAt w A3 (icells keep)) :
    Calls Try.prog 4 #[.slice A1 n1 c1, .slice A2 n2 c2, .slice A3 n3 c3] w fun e w' => e = .returned (.bool true) ∧ Below w.heap.size w w' := by
  subst hl1 hl2 hl3
  by_cases hg : la.length ≤ 40 ∧ lb.length ≤ 40 ∧ keep.length ≤ 60
  case neg =>
    have key : 40 < la.length ∨ (la.length ≤ 40 ∧ 40 < lb.length) ∨ (la.length ≤ 40 ∧ lb.length ≤ 40 ∧ 60 < keep.length) := by omega
    clear hg hR1 hR2 hR3 _hs1 _hs2 _hs3
    rcases key with h1 | ⟨h1, h2⟩ | ⟨h1, h2, h3⟩
    all_goals
      go_enter Try.func4, Try.ntmps4
      go_wp2_with fail
      refine (diskAlive_calls _).mono ?_
      rintro e w1 ⟨rfl, hb1⟩
      go_wp2
      go_ret
      exact ⟨rfl, hb1⟩
  obtain ⟨g1, g2, g3⟩ := hg
  have HR1 : Box _ := ⟨hR1⟩
  have HR2 : Box _ := ⟨hR2⟩
  have HR3 : Box _ := ⟨hR3⟩
  have HS1 : Box _ := ⟨_hs1⟩
  have HS2 : Box _ := ⟨_hs2⟩
  clear hR1 hR2 hR3 _hs1 _hs2 _hs3 hn1 hn2 hn3 _hc1 _hc2 _hc3
  have HN : Box (∀ W, Below w.heap.size w W → Calls Try.prog 9 #[.int .i64 140] W fun e w' => ∃ g, e = .returned (.tuple #[.pointer (some ⟨g, 0, none⟩), .int .i64 0]) ∧ DiskIn w w' g (newD 140)) := ⟨fun W h => diskNew_in w W 140 h (by omega) (by omega)⟩
  have HL0 : Box (Last1 0 (newD 140) (fun _ => none)) := ⟨⟨rfl, rfl, by simp [newD], rfl, rfl, fun y hy => by
    show (List.replicate 140 zeroS).getD y ByteArray.empty = _
    rw [List.getD_eq_getElem?_getD, List.getElem?_replicate, if_pos (by omega)]; rfl⟩⟩
  have hmm := @run_makeMap Try.prog
  obtain ⟨D0, hD0⟩ : ∃ D0, newD 140 = D0 := ⟨_, rfl⟩
  rw [hD0] at HN HL0
  clear hD0
  go_enter Try.func4, Try.ntmps4
  go_wp2_with fail
  refine (diskAlive_calls _).mono ?_
  rintro e w1 ⟨rfl, hb1⟩
  have HB1 : Box _ := ⟨hb1⟩
  clear hb1
  go_wp2_with fail
  refine (HN.out _ HB1.out).mono ?_
  rintro e w2 ⟨g, rfl, hi2⟩
  have HI2 : Box _ := ⟨DiskMap.made hi2⟩
  clear hi2 HB1
  go_wp2_with fail
  clear hmm
  obtain ⟨b, hb⟩ : ∃ b, w2.heap.size = b := ⟨_, rfl⟩
  rw [hb] at HI2
  rw [hb]
  clear hb
  go_loopw [10] (fun i wr => ∃ (k : Nat) (D : DSt) (f : Nat → Option ByteArray), k ≤ la.length ∧ i = .int .i64 (k : Int) ∧ Box (Last1 k D f) ∧ Box (DiskMap w wr g D b k f)) (fun i _ => la.length - (intOf i).toNat)
  case atStart => exact ⟨0, D0, _, by omega, rfl, HL0, HI2⟩
  case round =>
    obtain ⟨k, D, f, hk, rfl, HD, HI⟩ := hrel
    by_cases hlt : k < la.length
    · obtain ⟨z, hz⟩ := some_at hlt
      obtain ⟨ad, rfl, hcell⟩ := (HR1.out.below HI.out.bel).get (icells_at hz)
      have hzb := HS1.out z (List.mem_of_getElem? hz)
      obtain ⟨hy1, hy2, hy3, hy4⟩ := secY_eq z
      obtain ⟨y, hy⟩ : ∃ y, secY z = y := ⟨_, rfl⟩
      rw [hy] at hy1 hy2
      have hw1 : IntKind.i64.wrap (Int.tmod z 20 + 20) = Int.tmod z 20 + 20 := IntWalk.i64_in _ (by omega)
      have HF : Box _ := ⟨fun W => fill_calls ⟨#[UInt8.ofNat (k + 1)]⟩ W (by show 1 ≤ _; omega)⟩
      have hcv := fun W => byte_str (k + 1) ((k : Int) + 1) (by omega) (by omega) W
      obtain ⟨q, hq⟩ : ∃ q, UInt8.ofNat (k + 1) = q := ⟨_, rfl⟩
      rw [hq] at HF
      have hsz := fillB_size ⟨#[q]⟩
      obtain ⟨x, hx⟩ : ∃ x, fillB ⟨#[q]⟩ = x := ⟨_, rfl⟩
      rw [hx] at HF hsz
      have HWo := HD.out.write y hy2 x hsz
      have HAr : Box (D.armed = true → 0 ≤ D.left) := ⟨by rw [HD.out.armed]; simp⟩
      have HBig : Box (D.ws.length + D.many + 2 * 1 ≤ 1000000000) := ⟨by rw [HD.out.ws, HD.out.many]; omega⟩
      obtain ⟨E, hE⟩ : ∃ E, writesD D [((y : Int), x)] = E := ⟨_, rfl⟩
      rw [hE] at HWo
      have HE : Box _ := ⟨hE⟩
      have HWa : Box _ := ⟨HWo.1⟩
      have HWb : Box _ := ⟨HWo.2⟩
      have HSz : Box _ := ⟨hsz⟩
      clear hy hz hE HWo hsz hx
      go_wp2_with fail
      clear hq hcv
      refine (HF.out _).mono ?_
      rintro e w3 ⟨rfl, hb3⟩
      have HI3 : Box _ := ⟨(HI.out.below ((Below.refl _ _).alloc (Nat.le_refl _) (.cells #[.int .u8 ((k : Int) + 1)] 5))).below hb3⟩
      clear hb3
      have HWr : Box _ := ⟨mapWrite_new HI3.out HAr.out [((y : Int), x)] 1 rfl HBig.out⟩
      rw [HE.out, HWa.out] at HWr
      go_wp2_with fail
      refine Calls.mono HWr.out ?_
      rintro e w4 ⟨rfl, hi4⟩
      obtain ⟨w5, hrun, hi5⟩ := hi4.put (by unfold maxLen; omega) y (by omega) x (by rw [HSz.out]; unfold maxLen; omega)
      have HI5 : Box _ := ⟨hi5⟩
      clear hi4 hi5
      go_wp2_with fail
      go_roundw
      case rel => exact ⟨k + 1, E.1, _, by omega, by go_num, HWb, HI5⟩
      case measure => simp [intOf]; omega
    · obtain rfl : k = la.length := by omega
      obtain ⟨wo, rfl⟩ : ∃ wo : World, wo = wr := ⟨_, rfl⟩
      have HFl : Box _ := ⟨mapFlush_in HI.out (by rw [HD.out.armed]; simp)⟩
      have hfl := HD.out.flush g1 keep
      obtain ⟨E, hE⟩ : ∃ E, flushD D = E := ⟨_, rfl⟩
      rw [hE] at HFl hfl
      rw [hfl.1] at HFl
      have HL2 : Box _ := ⟨hfl.2⟩
      clear hE hfl
      go_wp2_with fail
      refine Calls.mono HFl.out ?_
      rintro e w3 ⟨rfl, hi3⟩
      have HI3 : Box _ := ⟨hi3⟩
      clear hi3
      obtain ⟨N, hN⟩ : ∃ N : Nat, la.length = N := ⟨_, rfl⟩
      have hN9 : N ≤ 40 := by omega
      have HI4 : Box (DiskMap w w3 g E.1 b N f) := ⟨by rw [← hN]; exact HI3.out⟩
      clear hN HI3
      go_wp2_with fail
      go_loopw [13, 14] (fun q i wr => ∃ (k : Nat) (D : DSt) (f : Nat → Option ByteArray) (lost n : Nat), k ≤ lb.length ∧ lost ≤ k ∧ n ≤ N + k ∧ i = .int .i64 (k : Int) ∧ q = .int .i64 (lost : Int) ∧ Box (Last2 keep k D f lost) ∧ Box (DiskMap w wr g D b n f)) (fun _ i _ => lb.length - (intOf i).toNat)
      case atStart => exact ⟨0, E.1, f, 0, N, by omega, by omega, by omega, rfl, rfl, HL2, HI4⟩
      case round =>
        obtain ⟨k, D, f, lost, n, hk, hlk, hnn, rfl, rfl, HD, HI⟩ := hrel
        by_cases hlt : k < lb.length
        · obtain ⟨z, hz⟩ := some_at hlt
          obtain ⟨ad, rfl, hcell⟩ := (HR2.out.below HI.out.bel).get (icells_at hz)
          have hzb := HS2.out z (List.mem_of_getElem? hz)
          obtain ⟨hy1, hy2, hy3, hy4⟩ := secY_eq z
          obtain ⟨y, hy⟩ : ∃ y, secY z = y := ⟨_, rfl⟩
          rw [hy] at hy1 hy2
          have hw1 : IntKind.i64.wrap (Int.tmod z 20 + 20) = Int.tmod z 20 + 20 := IntWalk.i64_in _ (by omega)
          have HF : Box _ := ⟨fun W => fill_calls ⟨#[UInt8.ofNat (k + 100)]⟩ W (by show 1 ≤ _; omega)⟩
          have hcv := fun W => byte_str (k + 100) ((k : Int) + 100) (by omega) (by omega) W
          obtain ⟨q, hq⟩ : ∃ q, UInt8.ofNat (k + 100) = q := ⟨_, rfl⟩
          rw [hq] at HF
          have hsz := fillB_size ⟨#[q]⟩
          obtain ⟨x, hx⟩ : ∃ x, fillB ⟨#[q]⟩ = x := ⟨_, rfl⟩
          rw [hx] at HF hsz
          have HWo := HD.out.write y hy2 x hsz
          have HAr : Box (D.armed = true → 0 ≤ D.left) := ⟨by rw [HD.out.armed]; simp⟩
          have HBig : Box (D.ws.length + D.many + 2 * 1 ≤ 1000000000) := ⟨by have := HD.out.many; rw [HD.out.ws]; omega⟩
          obtain ⟨E, hE⟩ : ∃ E, writesD D [((y : Int), x)] = E := ⟨_, rfl⟩
          rw [hE] at HWo
          have HE : Box _ := ⟨hE⟩
          have HWa : Box _ := ⟨HWo.1⟩
          have HWb : Box _ := ⟨HWo.2⟩
          have HSz : Box _ := ⟨hsz⟩
          clear hy hz hE HWo hsz hx
          go_wp2_with fail
          clear hq hcv
          refine (HF.out _).mono ?_
          rintro e w4 ⟨rfl, hb4⟩
          have HI5 : Box _ := ⟨(HI.out.below ((Below.refl _ _).alloc (Nat.le_refl _) (.cells #[.int .u8 ((k : Int) + 100)] 5))).below hb4⟩
          clear hb4
          have HWr : Box _ := ⟨mapWrite_new HI5.out HAr.out [((y : Int), x)] 1 rfl HBig.out⟩
          rw [HE.out, HWa.out] at HWr
          go_wp2_with fail
          refine Calls.mono HWr.out ?_
          rintro e w5 ⟨rfl, hi5⟩
          have HI6 : Box _ := ⟨hi5⟩
          clear hi5
          by_cases hkl : k < keep.length
          · obtain ⟨r, hr⟩ := some_at hkl
            obtain ⟨ad2, rfl, hcell5⟩ := (HR3.out.below HI6.out.bel).get (icells_at hr)
            by_cases hr1 : r % 2 = 1
            · have hkb : keptB keep k = true := by rw [keptB, hr]; simpa using hr1
              have hb : bits BinOp.and IntKind.i64 r 1 = 1 := (i64_and1 r).trans hr1
              have HL3 : Box _ := ⟨HWb.out.1 hkb⟩
              obtain ⟨w6, hrun, hi6⟩ := HI6.out.put (by unfold maxLen; omega) y (by omega) x (by rw [HSz.out]; unfold maxLen; omega)
              have HI7 : Box _ := ⟨hi6⟩
              clear hr hkb hr1 hi6
              go_wp2_with fail
              go_roundw
              case rel => exact ⟨k + 1, E.1, _, lost, n + 1, by omega, by omega, by omega, by go_num, rfl, HL3, HI7⟩
              case measure => simp [intOf]; omega
            · have hr0 : r % 2 = 0 := by omega
              have hkb : keptB keep k = false := by rw [keptB, hr]; simp [hr0]
              have hb : bits BinOp.and IntKind.i64 r 1 = 0 := (i64_and1 r).trans hr0
              have HL3 : Box _ := ⟨HWb.out.2 hkb⟩
              clear hr hkb hr1 hr0
              go_wp2_with fail
              go_roundw
              case rel => exact ⟨k + 1, E.1, _, lost + 1, n, by omega, by omega, by omega, by go_num, by go_num, HL3, HI6⟩
              case measure => simp [intOf]; omega
          · have hkb : keptB keep k = false := by rw [keptB, List.getElem?_eq_none (by omega)]
            have HL3 : Box _ := ⟨HWb.out.2 hkb⟩
            clear hkb
            go_wp2_with fail
            go_roundw
            case rel => exact ⟨k + 1, E.1, _, lost + 1, n, by omega, by omega, by omega, by go_num, by go_num, HL3, HI6⟩
            case measure => simp [intOf]; omega
        · obtain rfl : k = lb.length := by omega
          obtain ⟨wp, rfl⟩ : ∃ wp : World, wp = wr := ⟨_, rfl⟩
          have HCr : Box _ := ⟨mapCrash_arg HI.out A3 keep.length c3 keep rfl (by omega) HR3.out⟩
          have hcr := HD.out.crash
          obtain ⟨E, hE⟩ : ∃ E, crashD D keep = E := ⟨_, rfl⟩
          rw [hE] at HCr hcr
          rw [hcr.1] at HCr
          have HW0 : Box _ := ⟨hcr.2.1⟩
          have HRd : Box _ := ⟨hcr.2.2⟩
          clear hE hcr
          go_wp2_with fail
          refine Calls.mono HCr.out ?_
          rintro e w4 ⟨rfl, hi4⟩
          have HI5 : Box _ := ⟨hi4⟩
          clear hi4
          have HDi : Box _ := ⟨diskDirty_in HI5.out.toIn⟩
          rw [HW0.out] at HDi
          go_wp2_with fail
          refine Calls.mono HDi.out ?_
          rintro e w5 ⟨rfl, rfl⟩
          go_wp2_with fail
          refine (mapRestore_in HI5.out).mono ?_
          rintro e w6 ⟨rfl, hi6⟩
          have HI6 : Box _ := ⟨hi6⟩
          clear hi6
          have HZ : Box (∀ W, Calls Try.prog 17 #[.int .i64 256] W fun e w' => e = .returned (.string zeroS) ∧ Below W.heap.size W w') := ⟨fun W => zeros_calls 256 W (by omega)⟩
          obtain ⟨F, hF⟩ : ∃ F, ({ E.1 with off := false } : DSt) = F := ⟨_, rfl⟩
          rw [hF] at HI6 HRd
          obtain ⟨zs, hzs⟩ : ∃ z, zeroS = z := ⟨_, rfl⟩
          rw [hzs] at HZ HRd
          clear hF hzs
          go_wp2_with fail
          go_loopw [17] (fun i wr => ∃ (j : Nat), j ≤ 20 ∧ i = .int .i64 (j : Int) ∧ Box (DiskMap w wr g F b n f)) (fun i _ => 20 - (intOf i).toNat)
          case atStart => exact ⟨0, by omega, rfl, HI6⟩
          case round =>
            obtain ⟨j, hj, rfl, HI⟩ := hrel
            by_cases hjk : j < 20
            · have HRr : Box _ := ⟨diskRead_in HI.out.toIn (j : Int)⟩
              rw [HRd.out j hjk] at HRr
              have hlook := HI.out.look j (by omega)
              obtain ⟨fj, hfj⟩ : ∃ fj, f j = fj := ⟨_, rfl⟩
              rw [hfj] at HRr hlook
              clear hfj
              cases fj with
              | none =>
                simp only [Option.getD_none, Option.isSome_none] at HRr hlook
                go_wp2_with fail
                refine Calls.mono HRr.out ?_
                rintro e w7 ⟨rfl, rfl⟩
                go_wp2_with fail
                refine (HZ.out _).mono ?_
                rintro e w8 ⟨rfl, hb8⟩
                have HI8 : Box _ := ⟨HI.out.below hb8⟩
                clear hb8
                go_wp2_with fail
                go_roundw
                case rel => exact ⟨j + 1, by omega, by go_num, HI8⟩
                case measure => simp [intOf]; omega
              | some s =>
                simp only [Option.getD_some, Option.isSome_some] at HRr hlook
                go_wp2_with fail
                refine Calls.mono HRr.out ?_
                rintro e w7 ⟨rfl, rfl⟩
                go_wp2_with fail
                go_roundw
                case rel => exact ⟨j + 1, by omega, by go_num, HI⟩
                case measure => simp [intOf]; omega
            · go_wp2_with fail
              go_ret
              exact ⟨rfl, HI.out.bel⟩
end Go.Proofs.Ytcdhaflccancjaa
