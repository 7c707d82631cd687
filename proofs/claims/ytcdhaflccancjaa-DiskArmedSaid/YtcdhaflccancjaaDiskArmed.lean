/- DiskArmed: the power goes at just the call that was asked for. -/
import Derived.Test.YtcdhaflccancjaaDiskAlive
namespace Go.Proofs.Ytcdhaflccancjaa
open Go.RowKit

def rangeW (x : ByteArray) (m : Nat) : List (Int × ByteArray) := (List.range m).map fun (j : Nat) => ((j : Int), x)
theorem rangeW_succ (x : ByteArray) (m : Nat) : rangeW x (m + 1) = rangeW x m ++ [((m : Int), x)] := by simp [rangeW, List.range_succ]
theorem rangeW_length (x : ByteArray) (m : Nat) : (rangeW x m).length = m := by simp [rangeW]
theorem crash_range (keep : List Int) (x : ByteArray) (m : Nat) (hm : m ≤ 140) (i : Nat) (hi : i < 140) (k : Nat) (hk : k ≤ m) :
    (crashK keep (rangeW x m) (List.replicate 140 zeroS) k).1.getD i ByteArray.empty = if i < k ∧ keptB keep i = true then x else zeroS := by
  induction k with
  | zero =>
    show (List.replicate 140 zeroS).getD i ByteArray.empty = _
    rw [if_neg (by omega), List.getD_eq_getElem?_getD, List.getElem?_replicate, if_pos hi]; rfl
  | succ k ih =>
    have h1 : (rangeW x m)[k]? = some ((k : Int), x) := by rw [rangeW, List.getElem?_map, List.getElem?_range (by omega)]; rfl
    have hl := crashK_length keep (rangeW x m) (List.replicate 140 zeroS) k
    rw [List.length_replicate] at hl
    rw [crashK, h1]
    dsimp only
    have ih' := ih (by omega)
    by_cases hkb : keptB keep k = true
    · rw [if_pos hkb]
      simp only [Int.toNat_natCast]
      rw [List.getD_eq_getElem?_getD, List.getElem?_set]
      by_cases e : k = i
      · subst e
        rw [if_pos rfl, if_pos (by omega), if_pos ⟨by omega, hkb⟩]; rfl
      · rw [if_neg e, ← List.getD_eq_getElem?_getD, ih']
        by_cases h : i < k ∧ keptB keep i = true
        · rw [if_pos h, if_pos ⟨by omega, h.2⟩]
        · rw [if_neg h, if_neg (fun h2 => h ⟨by omega, h2.2⟩)]
    · rw [if_neg hkb]
      show (crashK keep (rangeW x m) (List.replicate 140 zeroS) k).1.getD i ByteArray.empty = _
      rw [ih']
      by_cases h : i < k ∧ keptB keep i = true
      · rw [if_pos h, if_pos ⟨by omega, h.2⟩]
      · rw [if_neg h, if_neg (fun h2 => h ⟨by
          have : ¬ i = k := fun e => hkb (by rw [← e]; exact h2.2)
          omega, h2.2⟩)]
structure RunD (n : Nat) (keep : List Int) (x : ByteArray) (i : Nat) (D : DSt) : Prop where
  off : D.off = false
  armed : D.armed = true
  left : D.left = (n : Int) - (i : Int)
  keep : D.keep = keep
  safe : D.safe = List.replicate 140 zeroS
  len : D.l.length = 140
  ws : D.ws = rangeW x i
  many : D.many = i
structure GoneD (keep : List Int) (x : ByteArray) (m : Nat) (D : DSt) : Prop where
  off : D.off = true
  armed : D.armed = false
  len : D.l.length = 140
  ws : D.ws = []
  many : D.many ≤ 100
  at_ : ∀ i, i < 140 → D.l.getD i ByteArray.empty = if i < m ∧ keptB keep i = true then x else zeroS
theorem gone_crash (keep : List Int) (x : ByteArray) (m : Nat) (D : DSt) (hm : m ≤ 100) (h1 : D.off = false) (h2 : D.safe = List.replicate 140 zeroS) (h3 : D.ws = rangeW x m) (h4 : D.many = m) : GoneD keep x m (crashD D keep).1 := by
  rw [crashD, if_neg (by simp [h1])]
  refine ⟨rfl, rfl, ?_, rfl, by show D.many ≤ 100; omega, fun i hi => ?_⟩
  · show (crashK keep D.ws D.safe D.ws.length).1.length = 140
    rw [crashK_length, h2, List.length_replicate]
  · show (crashK keep D.ws D.safe D.ws.length).1.getD i _ = _
    rw [h3, h2, rangeW_length]
    exact crash_range keep x m (by omega) i hi m (Nat.le_refl _)
def ArmRel (n : Nat) (keep : List Int) (x : ByteArray) (i : Nat) (D : DSt) : Prop := (i ≤ n ∧ RunD n keep x i D) ∨ (n < i ∧ GoneD keep x (n + 1) D)
theorem ArmRel.arm {n : Nat} {keep : List Int} {x : ByteArray} {i : Nat} {D : DSt} (h : ArmRel n keep x i D) : D.armed = true → 0 ≤ D.left := by
  rcases h with ⟨h1, h⟩ | ⟨h1, h⟩
  · intro _; rw [h.left]; omega
  · rw [h.armed]; simp
theorem ArmRel.room {n : Nat} {keep : List Int} {x : ByteArray} {i : Nat} {D : DSt} (h : ArmRel n keep x i D) (hi : i ≤ 60) : D.ws.length + D.many ≤ 200 := by
  rcases h with ⟨h1, h⟩ | ⟨h1, h⟩
  · rw [h.ws, rangeW_length, h.many]; omega
  · rw [h.ws]; have := h.many; simp; omega
theorem ArmRel.step {n : Nat} {keep : List Int} {x : ByteArray} {i : Nat} {D : DSt} (h : ArmRel n keep x i D) (hi : i < 60) (hn : n ≤ 60) (hx : x.size = 256) :
    (writesD D [((i : Int), x)]).2 = (if i < n then 0 else 14) ∧ ArmRel n keep x (i + 1) (writesD D [((i : Int), x)]).1 := by
  rcases h with ⟨h1, h⟩ | ⟨h1, h⟩
  · have hm : mayE D (i : Int) = 0 := by unfold mayE; rw [if_neg (by simp [h.off]), if_neg (by rw [h.len]; omega)]
    have hw : writeD D (i : Int) x = if ((n : Int) - (i : Int) - 1 < 0) then ((crashD { D with l := D.l.set i x, ws := D.ws ++ [((i : Int), x)], many := D.many + 1, left := (n : Int) - (i : Int) - 1 } keep).1, 14) else ({ D with l := D.l.set i x, ws := D.ws ++ [((i : Int), x)], many := D.many + 1, left := (n : Int) - (i : Int) - 1 }, 0) := by
      rw [writeD, if_neg (by simp [hm]), if_neg (by simp [hx])]
      simp only [goesD, h.armed, if_true, h.left, Int.toNat_natCast, h.keep, decide_eq_true_eq]
    have hws : D.ws ++ [((i : Int), x)] = rangeW x (i + 1) := by rw [h.ws, rangeW_succ]
    by_cases hlt : i < n
    · rw [if_neg (show ¬ ((n : Int) - (i : Int) - 1 < 0) by omega)] at hw
      rw [writesD, if_neg (by simp [h.off]), writesL, hw, if_neg (by simp), writesL, if_pos hlt]
      exact ⟨rfl, .inl ⟨by omega, h.off, h.armed, by show (n : Int) - (i : Int) - 1 = _; omega, h.keep, h.safe, by simp [h.len], hws, by show D.many + 1 = _; rw [h.many]⟩⟩
    · rw [if_pos (show (n : Int) - (i : Int) - 1 < 0 by omega)] at hw
      rw [writesD, if_neg (by simp [h.off]), writesL, hw, if_pos (by simp), if_neg hlt]
      obtain rfl : i = n := by omega
      exact ⟨rfl, .inr ⟨by omega, gone_crash keep x (i + 1) _ (by omega) h.off h.safe hws (by show D.many + 1 = _; rw [h.many])⟩⟩
  · rw [writesD, if_pos h.off, if_neg (by omega)]
    exact ⟨rfl, .inr ⟨by omega, h⟩⟩
theorem ArmRel.flush {n : Nat} {keep : List Int} {x : ByteArray} {m : Nat} {D : DSt} (h : ArmRel n keep x m D) (hm : m ≤ 60) :
    (m < n ∧ (flushD D).2 = 0 ∧ (flushD D).1.off = false ∧ (flushD D).1.ws = []) ∨ (n ≤ m ∧ (flushD D).2 = 14 ∧ ∃ M, GoneD keep x M (flushD D).1 ∧ ∀ i, i < m → (i < M ↔ i ≤ n)) := by
  rcases h with ⟨h1, h⟩ | ⟨h1, h⟩
  · have hg : goesD D = ({ D with left := (n : Int) - (m : Int) - 1 }, decide ((n : Int) - (m : Int) - 1 < 0)) := by rw [goesD, if_pos h.armed, h.left]
    rw [flushD, if_neg (by simp [h.off]), hg]
    by_cases hlt : m < n
    · refine .inl ⟨hlt, ?_⟩
      rw [if_neg (by simp; omega)]
      exact ⟨rfl, h.off, rfl⟩
    · refine .inr ⟨by omega, ?_⟩
      rw [if_pos (by simp; omega)]
      refine ⟨rfl, m, ?_, fun i hi => by omega⟩
      show GoneD keep x m (crashD { D with left := (n : Int) - (m : Int) - 1 } D.keep).1
      rw [h.keep]
      exact gone_crash keep x m _ (by omega) h.off h.safe h.ws h.many
  · refine .inr ⟨by omega, ?_⟩
    rw [flushD, if_pos h.off]
    exact ⟨rfl, n + 1, h, fun i _ => by omega⟩
theorem fill_x_ne : fillB ⟨#[120]⟩ ≠ zeroS := by
  decide +kernel

set_option maxHeartbeats 6400000 in
set_option maxRecDepth 100000 in
theorem diskArmed_calls (x1 : Int) (x2 : Int) (A : Option Addr) (n3 c3 : Nat) (keep : List Int) (w : World) (_hx : -9223372036854775808 ≤ x1 ∧ x1 ≤ 9223372036854775807) (_hx2 : -9223372036854775808 ≤ x2 ∧ x2 ≤ 9223372036854775807)
    (hl : keep.length = n3) (hc : n3 ≤ c3) (hn3 : n3 * 8 ≤ 140737488351232) (hs : ∀ z ∈ keep, -9223372036854775808 ≤ z ∧ z ≤ 9223372036854775807) (hR : RowAt w A (icells keep)) (hA : NilOk A n3 c3) :
    Calls Try.prog 5 #[.int .i64 x1, .int .i64 x2, .slice A n3 c3] w fun e w' => e = .returned (.bool true) ∧ Below w.heap.size w w' := by
  subst hl
  by_cases hg : 0 ≤ x1 ∧ x1 ≤ 60 ∧ 0 ≤ x2 ∧ x2 ≤ 60 ∧ keep.length ≤ 60
  case neg =>
    have key : x1 < 0 ∨ (0 ≤ x1 ∧ 60 < x1) ∨ (0 ≤ x1 ∧ x1 ≤ 60 ∧ x2 < 0) ∨ (0 ≤ x1 ∧ x1 ≤ 60 ∧ 0 ≤ x2 ∧ 60 < x2) ∨ (0 ≤ x1 ∧ x1 ≤ 60 ∧ 0 ≤ x2 ∧ x2 ≤ 60 ∧ 60 < keep.length) := by omega
    clear hg hR hs hA
    rcases key with h1 | ⟨h1, h2⟩ | ⟨h1, h2, h3⟩ | ⟨h1, h2, h3, h4⟩ | ⟨h1, h2, h3, h4, h5⟩
    all_goals
      go_enter Try.func5, Try.ntmps5
      go_wp2_with fail
      refine (diskAlive_calls _).mono ?_
      rintro e w1 ⟨rfl, hb1⟩
      go_wp2
      go_ret
      exact ⟨rfl, hb1⟩
  obtain ⟨g1, g2, g3, g4, g5⟩ := hg
  obtain ⟨n, rfl⟩ : ∃ n : Nat, x1 = (n : Int) := ⟨x1.toNat, by omega⟩
  obtain ⟨m, rfl⟩ : ∃ m : Nat, x2 = (m : Int) := ⟨x2.toNat, by omega⟩
  have hn : n ≤ 60 := by omega
  have hm : m ≤ 60 := by omega
  have HR : Box _ := ⟨hR⟩
  have HN : Box (∀ W, Below w.heap.size w W → Calls Try.prog 9 #[.int .i64 140] W fun e w' => ∃ g, e = .returned (.tuple #[.pointer (some ⟨g, 0, none⟩), .int .i64 0]) ∧ DiskIn w w' g (newD 140)) := ⟨fun W h => diskNew_in w W 140 h (by omega) (by omega)⟩
  have HArm : Box (∀ W g, DiskIn w W g (newD 140) → Calls Try.prog 18 #[.pointer (some ⟨g, 0, none⟩), .int .i64 (n : Int), .slice A keep.length c3] W fun e w' => e = .returned (.tuple #[]) ∧ DiskIn w w' g (armD (newD 140) (n : Int) keep)) := ⟨fun W g h => diskArm_arg h (n : Int) A keep.length c3 keep rfl hc hA (by omega) (by omega) hs hR⟩
  have HFx : Box _ := ⟨fun W => fill_calls ⟨#[120]⟩ W (by decide)⟩
  have HFy : Box _ := ⟨fun W => fill_calls ⟨#[121]⟩ W (by decide)⟩
  have HSx : Box _ := ⟨fillB_size ⟨#[120]⟩⟩
  have HSy : Box _ := ⟨fillB_size ⟨#[121]⟩⟩
  have HNe : Box _ := ⟨str_ne (Ne.symm fill_x_ne)⟩
  obtain ⟨x, hx⟩ : ∃ x, fillB ⟨#[120]⟩ = x := ⟨_, rfl⟩
  obtain ⟨y, hy⟩ : ∃ y, fillB ⟨#[121]⟩ = y := ⟨_, rfl⟩
  rw [hx] at HFx HSx HNe
  rw [hy] at HFy HSy
  obtain ⟨D0, hD0⟩ : ∃ D0, armD (newD 140) (n : Int) keep = D0 := ⟨_, rfl⟩
  have HD0 : Box (ArmRel n keep x 0 D0) := ⟨.inl ⟨by omega, by
    rw [← hD0]
    exact ⟨rfl, by show decide (0 ≤ (n : Int)) = true; simp, by show (n : Int) = _; omega, rfl, rfl, by simp [armD, newD], rfl, rfl⟩⟩⟩
  rw [hD0] at HArm
  clear hx hy hD0 hR hs hA _hx _hx2 hn3 hc
  go_enter Try.func5, Try.ntmps5
  go_wp2_with fail
  refine (diskAlive_calls _).mono ?_
  rintro e w1 ⟨rfl, hb1⟩
  have HB1 : Box _ := ⟨hb1⟩
  clear hb1
  go_wp2_with fail
  refine (HN.out _ HB1.out).mono ?_
  rintro e w2 ⟨g, rfl, hi2⟩
  have HI2 : Box _ := ⟨hi2⟩
  clear hi2 HB1
  go_wp2_with fail
  refine (HArm.out _ _ HI2.out).mono ?_
  rintro e w3 ⟨rfl, hi3⟩
  have HI3 : Box _ := ⟨hi3⟩
  clear hi3 HI2
  go_wp2_with fail
  go_loopw [9] (fun i wr => ∃ (k : Nat) (D : DSt), k ≤ m ∧ i = .int .i64 (k : Int) ∧ Box (ArmRel n keep x k D) ∧ Box (DiskIn w wr g D)) (fun i _ => m - (intOf i).toNat)
  case atStart => exact ⟨0, D0, by omega, rfl, HD0, HI3⟩
  case round =>
    obtain ⟨k, D, hk, rfl, HD, HI⟩ := hrel
    by_cases hlt : k < m
    · have HSt : Box _ := ⟨HD.out.step (by omega) hn HSx.out⟩
      have hbig : D.ws.length + D.many + 2 * 1 ≤ 1000000000 := by have := HD.out.room (by omega); omega
      have HAr : Box _ := ⟨HD.out.arm⟩
      have HBig : Box _ := ⟨hbig⟩
      clear hbig
      obtain ⟨E, hE⟩ : ∃ E, writesD D [((k : Int), x)] = E := ⟨_, rfl⟩
      rw [hE] at HSt
      have HE : Box _ := ⟨hE⟩
      clear hE
      by_cases hkn : k < n
      all_goals
        have HE2 := HSt.out.1
        first | rw [if_pos hkn] at HE2 | rw [if_neg hkn] at HE2
        have HEb : Box _ := ⟨HE2⟩
        clear HE2
        go_wp2_with fail
        refine (HFx.out _).mono ?_
        rintro e w4 ⟨rfl, hb4⟩
        have HI4 : Box _ := ⟨HI.out.below hb4⟩
        clear hb4
        have HWr : Box _ := ⟨diskWrite_new HI4.out HAr.out [((k : Int), x)] 1 rfl HBig.out⟩
        rw [HE.out, HEb.out] at HWr
        go_wp2_with fail
        refine Calls.mono HWr.out ?_
        rintro e w5 ⟨rfl, hi5⟩
        have HI5 : Box _ := ⟨hi5⟩
        clear hi5
        go_wp2_with fail
        go_roundw
        case rel => exact ⟨k + 1, E.1, by omega, by go_num, ⟨HSt.out.2⟩, HI5⟩
        case measure => simp [intOf]; omega
    · obtain rfl : k = m := by omega
      obtain ⟨wo, rfl⟩ : ∃ wo : World, wo = wr := ⟨_, rfl⟩
      have HFl : Box _ := ⟨diskFlush_in HI.out HD.out.arm⟩
      have hfl := HD.out.flush hm
      obtain ⟨E, hE⟩ : ∃ E, flushD D = E := ⟨_, rfl⟩
      rw [hE] at HFl hfl
      clear hE
      rcases hfl with ⟨h1, h2, h3, h4⟩ | ⟨h1, h2, M, hG, hM⟩
      · rw [h2] at HFl
        have HQ : Box _ := ⟨h3⟩
        have HQ2 : Box _ := ⟨h4⟩
        clear h2 h3 h4
        go_wp2_with fail
        refine Calls.mono HFl.out ?_
        rintro e w4 ⟨rfl, hi4⟩
        have HI4 : Box _ := ⟨hi4⟩
        clear hi4
        have HOn : Box _ := ⟨diskOn_in HI4.out⟩
        have HDi : Box _ := ⟨diskDirty_in HI4.out⟩
        rw [HQ.out] at HOn
        rw [HQ2.out] at HDi
        go_wp2_with fail
        refine Calls.mono HOn.out ?_
        rintro e w5 ⟨rfl, rfl⟩
        go_wp2_with fail
        refine Calls.mono HDi.out ?_
        rintro e w5 ⟨rfl, rfl⟩
        go_wp2_with fail
        go_ret
        exact ⟨rfl, HI4.out.bel⟩
      · rw [h2] at HFl
        have HG : Box _ := ⟨hG⟩
        have HM : Box _ := ⟨hM⟩
        clear h2 hG hM
        go_wp2_with fail
        refine Calls.mono HFl.out ?_
        rintro e w4 ⟨rfl, hi4⟩
        have HI4 : Box _ := ⟨hi4⟩
        clear hi4
        have HOn : Box _ := ⟨diskOn_in HI4.out⟩
        have HDi : Box _ := ⟨diskDirty_in HI4.out⟩
        rw [HG.out.off] at HOn
        rw [HG.out.ws] at HDi
        go_wp2_with fail
        refine Calls.mono HOn.out ?_
        rintro e w5 ⟨rfl, rfl⟩
        go_wp2_with fail
        refine Calls.mono HDi.out ?_
        rintro e w5 ⟨rfl, rfl⟩
        go_wp2_with fail
        refine (HFy.out _).mono ?_
        rintro e w6 ⟨rfl, hb6⟩
        have HI6 : Box _ := ⟨HI4.out.below hb6⟩
        clear hb6
        have HWr : Box _ := ⟨diskWrite_new HI6.out (by rw [HG.out.armed]; simp) [((0 : Int), y)] 1 rfl (by rw [HG.out.ws]; have := HG.out.many; simp; omega)⟩
        rw [show writesD E.1 [((0 : Int), y)] = (E.1, 14) by rw [writesD, if_pos HG.out.off]] at HWr
        go_wp2_with fail
        refine Calls.mono HWr.out ?_
        rintro e w7 ⟨rfl, hi7⟩
        have HI7 : Box _ := ⟨hi7⟩
        clear hi7
        go_wp2_with fail
        refine (diskRestore_in HI7.out).mono ?_
        rintro e w8 ⟨rfl, hi8⟩
        have HI8 : Box _ := ⟨hi8⟩
        clear hi8
        have HRd : Box (∀ i, i < k → readD { E.1 with off := false } (i : Int) = (if i ≤ n ∧ keptB keep i = true then x else zeroS, 0)) := ⟨fun i hi => by
          rw [readD_ok { E.1 with off := false } i rfl (by show i < E.1.l.length; rw [HG.out.len]; omega)]
          show (E.1.l.getD i ByteArray.empty, (0 : Int)) = _
          rw [HG.out.at_ i (by omega)]
          simp only [HM.out i hi]⟩
        have HLast : Box ((writesD { E.1 with off := false } [((0 : Int), y)]).2 = 0) := ⟨by
          have h := writesD_one { E.1 with off := false } 0 y rfl HG.out.armed (by show 0 < E.1.l.length; rw [HG.out.len]; omega) HSy.out
          exact congrArg Prod.snd h⟩
        have HLa : Box _ := ⟨(show E.1.armed = true → (0 : Int) ≤ E.1.left by rw [HG.out.armed]; simp)⟩
        have HLb : Box (E.1.ws.length + E.1.many + 2 * 1 ≤ 1000000000) := ⟨by rw [HG.out.ws]; have := HG.out.many; simp; omega⟩
        obtain ⟨F, hF⟩ : ∃ F, ({ E.1 with off := false } : DSt) = F := ⟨_, rfl⟩
        have HLa2 : Box (F.armed = true → 0 ≤ F.left) := ⟨by rw [← hF]; exact HLa.out⟩
        have HLb2 : Box (F.ws.length + F.many + 2 * 1 ≤ 1000000000) := ⟨by rw [← hF]; exact HLb.out⟩
        rw [hF] at HI8 HRd HLast
        obtain ⟨z, hz⟩ : ∃ z, zeroS = z := ⟨_, rfl⟩
        rw [hz] at HRd HNe
        clear hF hz
        go_wp2_with fail
        go_loopw [12] (fun i wr => ∃ (j : Nat), j ≤ k ∧ i = .int .i64 (j : Int) ∧ Box (DiskIn w wr g F)) (fun i _ => k - (intOf i).toNat)
        case atStart => exact ⟨0, by omega, rfl, HI8⟩
        case round =>
          obtain ⟨j, hj, rfl, HI⟩ := hrel
          by_cases hjk : j < k
          · have HRr : Box _ := ⟨diskRead_in HI.out (j : Int)⟩
            rw [HRd.out j hjk] at HRr
            by_cases hjl : j < keep.length
            · obtain ⟨q, hq⟩ := some_at hjl
              obtain ⟨ad, rfl, hcell⟩ := (HR.out.below HI.out.bel).get (icells_at hq)
              by_cases hq1 : q % 2 = 1
              · have hkb : keptB keep j = true := by rw [keptB, hq]; simpa using hq1
                have hb : bits BinOp.and IntKind.i64 q 1 = 1 := (i64_and1 q).trans hq1
                by_cases hjn : j ≤ n
                · rw [if_pos ⟨hjn, hkb⟩] at HRr
                  clear hq hkb hq1
                  go_wp2_with fail
                  refine Calls.mono HRr.out ?_
                  rintro e w9 ⟨rfl, rfl⟩
                  go_wp2_with fail
                  refine (HFx.out _).mono ?_
                  rintro e w10 ⟨rfl, hb10⟩
                  have HI10 : Box _ := ⟨HI.out.below hb10⟩
                  clear hb10
                  go_wp2_with fail
                  go_roundw
                  case rel => exact ⟨j + 1, by omega, by go_num, HI10⟩
                  case measure => simp [intOf]; omega
                · rw [if_neg (fun h => hjn h.1)] at HRr
                  clear hq hkb hq1
                  go_wp2_with fail
                  refine Calls.mono HRr.out ?_
                  rintro e w9 ⟨rfl, rfl⟩
                  go_wp2_with fail
                  refine (HFx.out _).mono ?_
                  rintro e w10 ⟨rfl, hb10⟩
                  have HI10 : Box _ := ⟨HI.out.below hb10⟩
                  clear hb10
                  have hne := HNe.out
                  go_wp2_with fail
                  go_roundw
                  case rel => exact ⟨j + 1, by omega, by go_num, HI10⟩
                  case measure => simp [intOf]; omega
              · have hq0 : q % 2 = 0 := by omega
                have hkb : keptB keep j = false := by rw [keptB, hq]; simp [hq0]
                have hb : bits BinOp.and IntKind.i64 q 1 = 0 := (i64_and1 q).trans hq0
                rw [if_neg (by simp [hkb])] at HRr
                clear hq hkb hq1 hq0
                go_wp2_with fail
                refine Calls.mono HRr.out ?_
                rintro e w9 ⟨rfl, rfl⟩
                go_wp2_with fail
                refine (HFx.out _).mono ?_
                rintro e w10 ⟨rfl, hb10⟩
                have HI10 : Box _ := ⟨HI.out.below hb10⟩
                clear hb10
                have hne := HNe.out
                go_wp2_with fail
                go_roundw
                case rel => exact ⟨j + 1, by omega, by go_num, HI10⟩
                case measure => simp [intOf]; omega
            · have hkb : keptB keep j = false := by rw [keptB, List.getElem?_eq_none (by omega)]
              rw [if_neg (by simp [hkb])] at HRr
              clear hkb
              go_wp2_with fail
              refine Calls.mono HRr.out ?_
              rintro e w9 ⟨rfl, rfl⟩
              go_wp2_with fail
              refine (HFx.out _).mono ?_
              rintro e w10 ⟨rfl, hb10⟩
              have HI10 : Box _ := ⟨HI.out.below hb10⟩
              clear hb10
              have hne := HNe.out
              go_wp2_with fail
              go_roundw
              case rel => exact ⟨j + 1, by omega, by go_num, HI10⟩
              case measure => simp [intOf]; omega
          · obtain rfl : j = k := by omega
            obtain ⟨wp, rfl⟩ : ∃ wp : World, wp = wr := ⟨_, rfl⟩
            go_wp2_with fail
            refine (HFy.out _).mono ?_
            rintro e w9 ⟨rfl, hb9⟩
            have HI9 : Box _ := ⟨HI.out.below hb9⟩
            clear hb9
            have HWq : Box _ := ⟨diskWrite_new HI9.out HLa2.out [((0 : Int), y)] 1 rfl HLb2.out⟩
            rw [HLast.out] at HWq
            go_wp2_with fail
            refine Calls.mono HWq.out ?_
            rintro e w10 ⟨rfl, hi10⟩
            have HI10 : Box _ := ⟨hi10⟩
            clear hi10
            go_wp2_with fail
            go_ret
            exact ⟨rfl, HI10.out.bel⟩
end Go.Proofs.Ytcdhaflccancjaa
