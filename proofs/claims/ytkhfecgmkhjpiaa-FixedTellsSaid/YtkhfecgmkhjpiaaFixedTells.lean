/- The law FixedTells. -/
import Derived.Test.YtkhfecgmkhjpiaaFixedLaw
import Derived.Test.YtkhfecgmkhjpiaaFixedJoin
import Derived.Test.YtkhfecgmkhjpiaaBookApart
import Derived.Test.YtkhfecgmkhjpiaaLentSpans
import Derived.Deep.RegionHeld3
import Derived.Deep.DeepCutAuto
import Derived.Deep.CutBlock
namespace Go.Proofs.Ytkhfecgmkhjpiaa
open Go.RowKit
set_option linter.unusedVariables false

theorem fixedZ_len {n size : Int} (h0 : 0 ≤ size) : ((fixedZ n size).length : Int) ≤ size := by
  by_cases hn : n < 1
  · rw [fixedZ_none hn]; simpa using h0
  · obtain ⟨m, rfl⟩ := Int.eq_ofNat_of_zero_le h0
    rw [fixedZ_pos (by omega), fixedL_length]
    have h1 : 1 ≤ n.toNat := by omega
    have : (m + n.toNat - 1) / n.toNat ≤ m := by
      rw [Nat.div_le_iff_le_mul_add_pred (by omega)]
      have := Nat.le_mul_of_pos_left m (show 0 < n.toNat by omega)
      omega
    omega
theorem texts_ne {w : World} {g h : Nat} {l : List ByteArray} {x : ByteArray} (hR : RowAt w (some ⟨g, 0, none⟩) (scells l ++ [.string x])) (hc : w.cell? ⟨h, 0, none⟩ = some (.slice none 0 0)) : g ≠ h := by
  intro e
  subst e
  cases l with
  | nil => have := row_cell hR (j := 0) (u := .string x) rfl; rw [hc] at this; simp at this
  | cons y l => have := row_cell hR (j := 0) (u := .string y) rfl; rw [hc] at this; simp at this
theorem spans_ne {w : World} {g h : Nat} {l : List (Int × Int)} {x y : Int} (hR : RowAt w (some ⟨g, 0, none⟩) (pcells l ++ [.int .i64 x, .int .i64 y])) (hc : w.cell? ⟨h, 0, none⟩ = some (.slice none 0 0)) : g ≠ h := by
  intro e
  subst e
  cases l with
  | nil => have := row_cell hR (j := 0) (u := .int .i64 x) rfl; rw [hc] at this; simp at this
  | cons y l => have := row_cell hR (j := 0) (u := .int .i64 y.1) rfl; rw [hc] at this; simp at this
theorem fixedZ_lt {n size : Int} (h0 : 0 ≤ size) {k : Nat} {p : Int × Int} (h : (fixedZ n size)[k]? = some p) : p.1 < p.2 := by
  obtain ⟨m, rfl⟩ := Int.eq_ofNat_of_zero_le h0
  by_cases hn : n < 1
  · rw [fixedZ_none hn] at h; simp at h
  · rw [fixedZ_pos (by omega)] at h
    have hk : k < (m + n.toNat - 1) / n.toNat := by
      rw [← fixedL_length]; exact (List.getElem?_eq_some_iff.1 h).1
    have hk2 := (fixed_lt (n := n.toNat) (size := m) (by omega)).1 hk
    rw [fixedL_at (by omega) hk2] at h
    injection h with h
    subst h
    have : k * n.toNat < (k + 1) * n.toNat := by rw [Nat.add_mul]; omega
    show ((k * n.toNat : Nat) : Int) < ((min ((k + 1) * n.toNat) m : Nat) : Int)
    omega
/-- What the law has gathered of the first k spans. -/
def ScanP (s : ByteArray) (sp : List (Int × Int)) (k : Nat) (gd : Bool) (wt : ByteArray) : Prop :=
  wt.size ≤ 21000 ∧ if gd = true then okAll s.size (sp.take k) ∧ wt.data.toList = catSpans s.data.toList (sp.take k) ∧ wt.size ≤ 20000 else (¬ okAll s.size sp ∧ wt.size ≤ 20000) ∨ 20000 < wt.size
theorem scan_zero (s : ByteArray) (sp : List (Int × Int)) : ScanP s sp 0 true ByteArray.empty := by
  refine ⟨by simp, ?_⟩
  rw [if_pos rfl]
  exact ⟨by intro p hp; simp at hp, by simp [catSpans], by simp⟩
theorem scan_next {s : ByteArray} {sp : List (Int × Int)} {k : Nat} {wt : ByteArray} {p : Int × Int} (h : ScanP s sp k true wt) (hs : s.size ≤ 1000) (hp : sp[k]? = some p) (hok : okSpan s.size p) (gd : Bool) (hg : gd = decide ((wt ++ s.extract p.1.toNat p.2.toNat).size ≤ 20000)) : ScanP s sp (k + 1) gd (wt ++ s.extract p.1.toNat p.2.toNat) := by
  obtain ⟨h1, h2⟩ := h
  rw [if_pos rfl] at h2
  obtain ⟨h2, h3, h4⟩ := h2
  have hx : (s.extract p.1.toNat p.2.toNat).size ≤ s.size := by rw [ByteArray.size_extract]; omega
  refine ⟨by rw [ByteArray.size_append]; omega, ?_⟩
  by_cases hb : (wt ++ s.extract p.1.toNat p.2.toNat).size ≤ 20000
  · rw [hg, decide_eq_true hb, if_pos rfl]
    refine ⟨?_, ?_, hb⟩
    · rw [take_snoc_of hp]
      intro q hq
      rcases List.mem_append.1 hq with hq | hq
      · exact h2 q hq
      · rw [List.mem_singleton.1 hq]; exact hok
    · rw [take_snoc_of hp, catSpans_snoc, ← h3, cutOf, ← Lib.extract_data]
      simp
  · rw [hg, decide_eq_false hb, if_neg (by simp)]
    exact .inr (by omega)
theorem scan_bad {s : ByteArray} {sp : List (Int × Int)} {k : Nat} {wt : ByteArray} {p : Int × Int} (h : ScanP s sp k true wt) (hp : sp[k]? = some p) (hok : ¬ okSpan s.size p) : ScanP s sp (k + 1) false wt := by
  obtain ⟨h1, h2⟩ := h
  rw [if_pos rfl] at h2
  refine ⟨h1, ?_⟩
  rw [if_neg (by simp)]
  exact .inl ⟨fun h => hok (h _ (List.mem_of_getElem? hp)), h2.2.2⟩
set_option maxHeartbeats 8000000 in
set_option maxRecDepth 100000 in
theorem fixedTells_calls (n : Int) (A : Option Addr) (ln cp : Nat) (l : List ByteArray) (s : ByteArray) (B : Option Addr) (sn sc : Nat) (sp : List (Int × Int)) (size from_ to_ : Int) (w : World)
    (hnr : -9223372036854775808 ≤ n ∧ n ≤ 9223372036854775807) (hl : l.length = ln) (_hc : ln ≤ cp) (hn : ln * 16 ≤ 140737488351232) (hs : ∀ s ∈ l, s.size ≤ 140737488351232) (hR : RowAt w A (scells l)) (_hss : s.size ≤ 140737488351232)
    (hsl : sp.length = sn) (_hsc : sn ≤ sc) (_hsn : sn * 16 ≤ 140737488351232) (_hsr : ∀ p ∈ sp, (-9223372036854775808 ≤ p.1 ∧ p.1 ≤ 9223372036854775807) ∧ -9223372036854775808 ≤ p.2 ∧ p.2 ≤ 9223372036854775807) (hSR : RowAt w B (pcells sp))
    (_hz : -9223372036854775808 ≤ size ∧ size ≤ 9223372036854775807) (_hf : -9223372036854775808 ≤ from_ ∧ from_ ≤ 9223372036854775807) (_ht : -9223372036854775808 ≤ to_ ∧ to_ ≤ 9223372036854775807) :
    Calls Try.prog 3 #[.int .i64 n, .slice A ln cp, .string s, .slice B sn sc, .int .i64 size, .int .i64 from_, .int .i64 to_] w fun e w' => e = .returned (.bool true) ∧ Below w.heap.size w w' := by
  subst hl
  have HSh := Lib.hid (short_calls 12 2000 A cp l w (by omega) (by omega) (by omega) hs hR)
  by_cases hbig : shortB 12 2000 l = true ∧ s.size ≤ 1000 ∧ sn ≤ 60
  case neg =>
    by_cases h1 : shortB 12 2000 l = true
    all_goals by_cases h2 : s.size ≤ 1000
    all_goals by_cases h3 : sn ≤ 60
    all_goals first | (exfalso; exact hbig ⟨h1, h2, h3⟩) | skip
    all_goals
      clear hbig
      obtain ⟨V, hV⟩ : ∃ V, shortB 12 2000 l = V := ⟨_, rfl⟩
      rw [hV] at HSh h1
      try simp only [Bool.not_eq_true] at h1
      subst h1
      clear hV hR hSR
      go_enter Try.func3, Try.ntmps3
      go_wp2_with fail
      refine Calls.mono HSh.out ?_
      rintro e w1 ⟨rfl, hb1⟩
      have HB1 := Lib.hid hb1; clear hb1
      go_wp2_with fail
      refine (fixedAlive_calls _).mono ?_
      rintro e w2 ⟨rfl, hb2⟩
      have HB := Lib.hid (below_trans' HB1.out hb2); clear hb2
      go_wp2
      go_ret
      exact ⟨rfl, HB.out⟩
  obtain ⟨hsh, hs1, hs2⟩ := hbig
  rw [hsh] at HSh
  have hsb : (l.length : Int) ≤ 12 ∧ totalLen l ≤ 2000 := of_decide_eq_true hsh
  obtain ⟨hl1, hl2⟩ := hsb
  clear hsh
  have HRl := Lib.hid hR
  have HRs := Lib.hid hSR
  have HSl := Lib.hid hsl
  clear hR hSR hsl
  obtain ⟨cl, hcl⟩ : ∃ cl, fixedZ n (totalLen l) = cl := ⟨_, rfl⟩
  have HCL := Lib.hid hcl
  go_enter Try.func3, Try.ntmps3
  go_wp2_with fail
  refine Calls.mono HSh.out ?_
  rintro e w1 ⟨rfl, hb1⟩
  have HB1 := Lib.hid hb1; clear hb1
  go_wp2_with fail
  refine (fixedAlive_calls _).mono ?_
  rintro e w5 ⟨rfl, hb2⟩
  have HB5 := Lib.hid (below_trans' HB1.out hb2)
  have HRl5 := Lib.hid (HRl.out.below HB5.out)
  have HRs5 := Lib.hid (HRs.out.below HB5.out)
  clear hb2
  go_wp2_with fail
  have HBk := Lib.hid (bookNew w5 w5.heap.size (Nat.le_refl _) 36)
  have HB0 := Lib.hid ((Below.refl w5.heap.size w5).alloc (Nat.le_refl _) (.cells (Array.replicate 16 (.slice none 0 0)) 36))
  have hbs : (w5.alloc (.cells (Array.replicate 16 (.slice none 0 0)) 36)).heap.size = w5.heap.size + 1 := World.size_alloc _ _
  have hrep : (Array.replicate 16 (Value.slice none 0 0)) = #[.slice none 0 0, .slice none 0 0, .slice none 0 0, .slice none 0 0, .slice none 0 0, .slice none 0 0, .slice none 0 0, .slice none 0 0, .slice none 0 0, .slice none 0 0, .slice none 0 0, .slice none 0 0, .slice none 0 0, .slice none 0 0, .slice none 0 0, .slice none 0 0] := rfl
  rw [hrep] at HBk HB0 hbs
  obtain ⟨wb, hwb⟩ : ∃ wb, w5.alloc (.cells #[.slice none 0 0, .slice none 0 0, .slice none 0 0, .slice none 0 0, .slice none 0 0, .slice none 0 0, .slice none 0 0, .slice none 0 0, .slice none 0 0, .slice none 0 0, .slice none 0 0, .slice none 0 0, .slice none 0 0, .slice none 0 0, .slice none 0 0, .slice none 0 0] 36) = wb := ⟨_, rfl⟩
  rw [hwb] at HBk HB0 hbs ⊢
  have HBs := Lib.hid hbs
  clear hrep hbs hwb
  refine (lentTexts_calls A cp l _ (by omega) (HRl5.out.below HB0.out)).mono ?_
  rintro e w6 ⟨gm, cpm, rfl, hcpm, hrm, hb6⟩
  have HM6 := Lib.hid hrm
  have HB6 := Lib.hid (HB0.out.trans (hb6.mono HB0.out.size))
  have HBk6 := Lib.hid (HBk.out.below hb6)
  clear hrm hb6
  go_wp2_with fail
  refine (lentSpans_calls B sn sc sp _ HSl.out (by omega) (HRs5.out.below HB6.out)).mono ?_
  rintro e w7 ⟨gk, cpk, rfl, hcpk, hrk, hb7⟩
  have HK7 := Lib.hid hrk
  have HM7 := Lib.hid (HM6.out.below hb7)
  have HB7 := Lib.hid (HB6.out.trans (hb7.mono HB6.out.size))
  have HBk7 := Lib.hid (HBk6.out.below hb7)
  clear hrk hb7
  go_wp2_with fail
  refine (join_calls A cp l _ (by omega) (by omega) (HRl5.out.below HB7.out)).mono ?_
  rintro e _ ⟨rfl, rfl⟩
  have HJs : Hid (((joinB l).size : Int) = totalLen l) := joinB_size l
  obtain ⟨t, ht⟩ : ∃ t, joinB l = t := ⟨_, rfl⟩
  rw [ht] at HJs ⊢
  clear ht
  go_wp2_with fail
  refine (cut_calls n _ l.length cpm l _ (by omega) rfl (by omega) (by omega) HM7.out.left).mono ?_
  rintro e w8 ⟨vc, rfl, hown8, hb8⟩
  have hclN : (cl.length : Int) ≤ 2000 := by have := fixedZ_len (n := n) (size := totalLen l) (by have := HJs.out; omega); rw [HCL.out] at this; omega
  rw [HCL.out] at hown8
  have HPos : Hid (∀ (k : Nat) p, cl[k]? = some p → p.1 < p.2) := fun k p h => fixedZ_lt (n := n) (size := totalLen l) (k := k) (by have := HJs.out; omega) (by rw [HCL.out]; exact h)
  have HTC : Hid (∃ ta tb : Int, touch from_ to_ cl = (ta, tb)) := ⟨_, _, rfl⟩
  obtain ⟨ta, tb, hta⟩ := HTC.out
  have HTe := Lib.hid hta
  clear HTC hta
  obtain ⟨N, hN⟩ : ∃ N, cl.length = N := ⟨_, rfl⟩
  rw [hN] at hown8 hclN
  have HNl := Lib.hid hN
  clear hN
  obtain ⟨Ac, cc, rfl, _, _, _⟩ := hown8.slice
  have HO8 := Lib.hid hown8
  have HB8 := Lib.hid (HB7.out.trans (hb8.mono HB7.out.size))
  have HBk8 := Lib.hid (HBk7.out.below hb8)
  have H78 := Lib.hid hb8
  have HZ7 : Hid (w5.heap.size + 1 ≤ w7.heap.size ∧ w7.heap.size ≤ w8.heap.size) := ⟨cell_lt2 HBk7.out.c4, hb8.size⟩
  clear hown8 hb8
  go_wp2_with fail
  refine (bookSpans_calls w5.heap.size w5.heap.size _ _ [] [] [] Ac N cc cl w8 (by simp) (by omega) HBk8.out (HO8.out.weaken (by have := HZ7.out; omega)) (fun b hb => ⟨by have := (HO8.out.lt b hb).1; have := HZ7.out; omega, by simp [Value.ownBlock], by simp [Value.ownBlock], by simp⟩)).mono ?_
  rintro e w9 ⟨rfl, hto⟩
  obtain ⟨S1, T1, u1, hbk1, _, _, _⟩ := hto.ex
  have HTc : Hid (Touched w8 w9 [w5.heap.size]) := by rw [Hid]; have := hto.touched; simpa [Value.ownBlock] using this
  have HBk9 := Lib.hid hbk1
  have HB9 : Hid (Below w5.heap.size w5 w9) := HTc.out.below HB8.out (by have := HB8.out.size; omega) (by simp)
  have HCr : Hid (RowAt w9 Ac (pcells cl)) := by
    have := HTc.out.own HO8.out (fun b hb hm => by simp at hm; have := (HO8.out.lt b hb).1; have := HZ7.out; omega)
    obtain ⟨_, _, e, _, hr, _⟩ := this.slice
    injection e with e
    rw [Hid, e]; exact hr
  have HMK : Hid (RowAt w9 (some ⟨gm, 0, none⟩) (scells l ++ [.string markB]) ∧ RowAt w9 (some ⟨gk, 0, none⟩) (pcells sp ++ [.int .i64 (-77), .int .i64 0])) := by
    have a1 := HM7.out.below H78.out
    have a2 := HK7.out.below H78.out
    have c0 := HBk8.out.nil 0 (by omega) (by omega) (by omega)
    have n1 := texts_ne a1 c0
    have n2 := spans_ne a2 c0
    exact ⟨row_touched a1 HTc.out (.inr ⟨gm, rfl, by simpa using n1⟩), row_touched a2 HTc.out (.inr ⟨gk, rfl, by simpa using n2⟩)⟩
  clear hto hbk1
  go_wp2_with fail
  have hss : Hid (fixedZ n (t.size : Int) = cl) := by rw [Hid, HJs.out]; exact HCL.out
  refine (refFixedZ_calls n t.size _ (by omega) (by have := HJs.out; omega)).mono ?_
  rw [hss.out]
  rintro e w10 ⟨vr, rfl, hownr, hb10⟩
  obtain ⟨Ar, cr, e, _, hr10, _⟩ := hownr.slice
  rw [HNl.out] at e
  subst e
  have H10 := Lib.hid hb10
  have HS := sameSpans_calls Ac Ar N N cc cr cl cl w10 HNl.out HNl.out (by omega) (HCr.out.below hb10) hr10
  have hdd : decide (cl = cl) = true := decide_eq_true rfl
  rw [hdd] at HS
  have HSS := Lib.hid HS
  clear hownr hr10 hb10 hdd HS
  go_wp2_with fail
  refine Calls.mono HSS.out ?_
  rintro e w11 ⟨rfl, hb11⟩
  have H11 := Lib.hid (H10.out.trans (hb11.mono H10.out.size))
  clear hb11
  obtain ⟨V, hV⟩ : ∃ V, wholeB size sp = V := ⟨_, rfl⟩
  have HW1 := whole_calls size (some ⟨gk, 0, none⟩) sn cpk sp w11 (by omega) HSl.out (HMK.out.2.below H11.out).left
  have HW2 := fun W hR => refWhole_calls size B sn sc sp W (by omega) HSl.out hR
  rw [hV] at HW1 HW2
  have HWa := Lib.hid HW1
  have HWb := Lib.hid HW2
  clear HW1 HW2 hV
  go_wp2_with fail
  refine Calls.mono HWa.out ?_
  rintro e w12 ⟨rfl, hb12⟩
  have H12 := Lib.hid (H11.out.trans (hb12.mono H11.out.size))
  clear hb12
  have HB12 := Lib.hid (HB9.out.trans (H12.out.mono HB9.out.size))
  go_wp2_with fail
  refine Calls.mono (HWb.out _ (HRs5.out.below HB12.out)) ?_
  rintro e _ ⟨rfl, rfl⟩
  clear HWa HWb HSS HSh HBk HBk6 HBk7 HBk8 HM6 HM7 HK7 HCL HJs hss
  go_upto_block 0 with fail
  go_cut [20, 21] (fun wt gd wx => ∃ (k : Nat) (g : Bool) (u : ByteArray), wt = .string u ∧ gd = .bool g ∧ Hid (ScanP s sp k g u ∧ (g = true → k = sn)) ∧ Hid (Below w12.heap.size w12 wx))
  case first =>
    go_wp2_with fail
    go_loopw [20, 21, 22] (fun wt gd i wr => ∃ (k : Nat) (g : Bool) (u : ByteArray), k ≤ sn ∧ i = .int .i64 k ∧ gd = .bool g ∧ wt = .string u ∧ Hid (ScanP s sp k g u) ∧ Hid (Below w12.heap.size w12 wr)) (fun _ _ i _ => sn - (intOf i).toNat)
    case atStart => exact ⟨0, true, ByteArray.empty, Nat.zero_le _, rfl, rfl, rfl, scan_zero s sp, Below.refl _ _⟩
    case round =>
      obtain ⟨k, gd, u, hk, rfl, rfl, rfl, HSc, HW⟩ := hrel
      by_cases hgo : k < sn ∧ gd = true
      · obtain ⟨hlt, rfl⟩ := hgo
        obtain ⟨⟨x, y⟩, hx⟩ := some_at (show k < sp.length by have := HSl.out; omega)
        obtain ⟨bk, o, rfl, hbk, h1, h2⟩ := pair_at (HRs5.out.below (HB12.out.trans (HW.out.mono HB12.out.size))) hx
        simp only at h1 h2
        have HX := Lib.hid hx
        clear hx
        have j1 : (0 : Int) ≤ (k : Int) := by omega
        have j2 : (k : Int) < (sn : Int) := by omega
        by_cases hok : okSpan s.size (x, y)
        · obtain ⟨z, hz⟩ : ∃ z, s.extract x.toNat y.toNat = z := ⟨_, rfl⟩
          have HNx := fun gd hg => scan_next HSc.out hs1 HX.out hok gd hg
          simp only [hz] at HNx
          have hzs : z.size ≤ 1000 := by rw [← hz, ByteArray.size_extract]; omega
          have hus := HSc.out.1
          obtain ⟨c1, c2, c3⟩ := hok
          simp only at c1 c2 c3
          have r1 := fun W : World => run_string_add (P := Try.prog) W u z (by omega) (by omega)
          by_cases hb : (u ++ z).size ≤ 20000
          · have HN := Lib.hid (HNx true (decide_eq_true hb).symm)
            have hbi : (u.size : Int) + (z.size : Int) ≤ 20000 := by rw [ByteArray.size_append] at hb; omega
            clear HNx
            go_wp2_with fail
            go_big_quiet (fail)
            go_wp2_with fail
            go_big_quiet (fail)
            go_wp2
            go_roundw
            case rel => exact ⟨k + 1, true, u ++ z, by omega, by go_num, rfl, rfl, HN, below_drewN HW.out _⟩
            case measure => simp [intOf]; omega
          · have HN := Lib.hid (HNx false (decide_eq_false hb).symm)
            have hbi : ¬ (u.size : Int) + (z.size : Int) ≤ 20000 := by rw [ByteArray.size_append] at hb; omega
            have hdb := decide_eq_false hbi
            clear HNx
            go_wp2_with fail
            go_big_quiet (fail)
            go_wp2_with fail
            go_big_quiet (fail)
            go_wp2
            go_roundw
            case rel => exact ⟨k + 1, false, u ++ z, by omega, by go_num, rfl, rfl, HN, below_drewN HW.out _⟩
            case measure => simp [intOf]; omega
        · have HN := Lib.hid (scan_bad HSc.out HX.out hok)
          by_cases d1 : 0 ≤ x
          case neg =>
            have e1 := decide_eq_false d1
            clear hok
            go_wp2_with fail
            go_big_quiet (fail)
            go_wp2
            go_roundw
            case rel => exact ⟨k + 1, false, u, by omega, by go_num, rfl, rfl, HN, below_drewN HW.out _⟩
            case measure => simp [intOf]; omega
          by_cases d2 : x ≤ y
          case neg =>
            have e2 := decide_eq_false d2
            clear hok
            go_wp2_with fail
            go_big_quiet (fail)
            go_wp2
            go_roundw
            case rel => exact ⟨k + 1, false, u, by omega, by go_num, rfl, rfl, HN, below_drewN HW.out _⟩
            case measure => simp [intOf]; omega
          have d3 : ¬ y ≤ (s.size : Int) := fun h => hok ⟨d1, d2, h⟩
          have e3 := decide_eq_false d3
          clear hok
          go_wp2_with fail
          go_big_quiet (fail)
          go_wp2
          go_roundw
          case rel => exact ⟨k + 1, false, u, by omega, by go_num, rfl, rfl, HN, below_drewN HW.out _⟩
          case measure => simp [intOf]; omega
      · by_cases hg : gd = true
        · subst hg
          have hk2 : k = sn := by
            by_cases h : k < sn
            · exact absurd ⟨h, rfl⟩ hgo
            · omega
          have hk3 : ¬ k < sn := by omega
          go_wp2_with fail
          go_meet
          exact ⟨k, true, u, rfl, rfl, ⟨HSc, fun _ => hk2⟩, HW⟩
        · have hgf : gd = false := by simpa using hg
          subst hgf
          clear hg hgo
          by_cases hks : k < sn
          all_goals
            go_wp2_with fail
            go_meet
            exact ⟨k, false, u, rfl, rfl, ⟨HSc, fun h => by cases h⟩, HW⟩
  obtain ⟨k, gd, u, rfl, rfl, HSc, HW⟩ := hcut
  have HMK12 := Lib.hid (And.intro (HMK.out.1.below (H12.out.trans (HW.out.mono H12.out.size))) (HMK.out.2.below (H12.out.trans (HW.out.mono H12.out.size))))
  have HJn := Lib.hid (fun W hR => fixedJoin_calls s (some ⟨gk, 0, none⟩) sn cpk sp W (by omega) HSl.out (by omega) hR)
  go_upto_if 139 with fail
  go_cut [20] (fun _ wx => Hid (Below w12.heap.size w12 wx))
  case first =>
    by_cases hg : gd = true
    · subst hg
      obtain rfl := HSc.out.2 rfl
      have hu : okAll s.size sp ∧ u.data.toList = catSpans s.data.toList sp ∧ u.size ≤ 20000 := by
        have := HSc.out.1.2
        rw [if_pos rfl, List.take_of_length_le (by have := HSl.out; omega)] at this
        exact this
      have hj : joinR s sp = .tuple #[.string u, .int .i64 0] := by
        rw [joinR_ok hu.1, ← hu.2.1]
      rw [hj] at HJn
      clear hj hu
      go_wp2_with fail
      refine Calls.mono (HJn.out _ HMK12.out.2.left) ?_
      rintro e wj ⟨rfl, hbj⟩
      have HWj := Lib.hid (below_trans' HW.out hbj)
      clear hbj
      go_wp2_with fail
      go_meet
      exact HWj
    · have hgf : gd = false := by simpa using hg
      subst hgf
      have hu := HSc.out.1.2
      rw [if_neg (by simp)] at hu
      by_cases hbig : u.size ≤ 20000
      · have hbad : ¬ okAll s.size sp := by
          rcases hu with h | h
          · exact h.1
          · omega
        rw [joinR_bad hbad] at HJn
        have hbi : (u.size : Int) ≤ 20000 := by omega
        clear hu hg hbad
        go_wp2_with fail
        refine Calls.mono (HJn.out _ HMK12.out.2.left) ?_
        rintro e wj ⟨rfl, hbj⟩
        have HWj := Lib.hid (below_trans' HW.out hbj)
        clear hbj
        go_wp2_with fail
        go_meet
        exact HWj
      · have hbi : ¬ (u.size : Int) ≤ 20000 := by omega
        clear hu hg
        go_wp2_with fail
        go_meet
        exact HW
  clear HJn HMK12 HW HSc
  have H13 := Lib.hid (H12.out.trans (hcut.out.mono H12.out.size))
  clear hcut
  go_wp2_with fail
  have HTk := touch_calls Ac N cc cl from_ to_ _ (by omega) HNl.out (HCr.out.below H13.out)
  rw [HTe.out] at HTk
  refine HTk.mono ?_
  clear HTk
  rintro e wt ⟨rfl, hbt⟩
  have H14 := Lib.hid (H13.out.trans (hbt.mono H13.out.size))
  clear hbt
  go_wp2
  clear H13
  go_loopw [29, 30, 31] (fun x y i wz => ∃ (j : Nat) (f g : Int), j ≤ N ∧ 0 ≤ f ∧ f ≤ j ∧ 0 ≤ g ∧ g ≤ j ∧ i = .int .i64 j ∧ x = .int .i64 f ∧ y = .int .i64 g ∧ Hid (touch from_ to_ cl = touchGo from_ to_ j (cl.drop j) (f, g)) ∧ Hid (Below w9.heap.size w9 wz)) (fun _ _ i _ => N - (intOf i).toNat)
  case atStart => exact ⟨0, 0, 0, Nat.zero_le _, by omega, by omega, by omega, by omega, rfl, rfl, rfl, rfl, H14.out⟩
  case round =>
    obtain ⟨j, f, g, hj, hf0, hf1, hg0, hg1, rfl, rfl, rfl, HC, HZ⟩ := hrel
    by_cases hlt : j < N
    · obtain ⟨⟨x, y⟩, hx⟩ := some_at (show j < cl.length by have := HNl.out; omega)
      obtain ⟨bk, o, rfl, hb, h1, h2⟩ := pair_at (HCr.out.below HZ.out) hx
      simp only at h1 h2
      have hxy : x < y := HPos.out j _ hx
      have HD : Hid (touch from_ to_ cl = touchGo from_ to_ (j + 1) (cl.drop (j + 1)) (if hits from_ to_ (x, y) then (if g = 0 then (j : Int) else f, (j : Int) + 1) else (f, g))) := by rw [Hid, HC.out, drop_of_at hx]; rfl
      clear hx
      have j1 : (0 : Int) ≤ (j : Int) := by omega
      have j2 : (j : Int) < (N : Int) := by omega
      by_cases ch : from_ < to_ ∧ x < to_ ∧ from_ < y
      focus
        obtain ⟨d1, d2, d3⟩ := ch
        have HE : Hid (touch from_ to_ cl = touchGo from_ to_ (j + 1) (cl.drop (j + 1)) (if g = 0 then (j : Int) else f, (j : Int) + 1)) := by rw [Hid, HD.out, if_pos ((hits_iff hxy).2 ⟨d1, d2, d3⟩)]
        clear hxy
        have e1 := decide_eq_true d1
        have e2 := decide_eq_true d2
        have e3 := decide_eq_true d3
        by_cases cg : g = 0
        · subst cg
          go_wp2
          go_roundw
          case rel => exact ⟨j + 1, j, j + 1, by omega, by omega, by omega, by omega, by omega, by go_num, rfl, rfl, by rw [Hid, HE.out]; rfl, HZ⟩
          case measure => simp [intOf]; omega
        · have hgb : (g == 0) = false := by simpa using cg
          go_wp2
          go_roundw
          case rel => exact ⟨j + 1, f, j + 1, by omega, by omega, by omega, by omega, by omega, by go_num, rfl, rfl, by rw [Hid, HE.out, if_neg cg], HZ⟩
          case measure => simp [intOf]; omega
      have HE : Hid (touch from_ to_ cl = touchGo from_ to_ (j + 1) (cl.drop (j + 1)) (f, g)) := by rw [Hid, HD.out, if_neg (fun h => ch ((hits_iff hxy).1 h))]
      clear hxy
      by_cases d2 : x < to_
      · by_cases d3 : from_ < y
        · have d1 : ¬ from_ < to_ := fun h => ch ⟨h, d2, d3⟩
          have e1 := decide_eq_false d1
          have e2 := decide_eq_true d2
          have e3 := decide_eq_true d3
          clear ch
          go_wp2
          go_roundw
          case rel => exact ⟨j + 1, f, g, by omega, by omega, by omega, by omega, by omega, by go_num, rfl, rfl, HE, HZ⟩
          case measure => simp [intOf]; omega
        · have e2 := decide_eq_true d2
          have e3 := decide_eq_false d3
          clear ch
          go_wp2
          go_roundw
          case rel => exact ⟨j + 1, f, g, by omega, by omega, by omega, by omega, by omega, by go_num, rfl, rfl, HE, HZ⟩
          case measure => simp [intOf]; omega
      · have e2 := decide_eq_false d2
        clear ch
        go_wp2
        go_roundw
        case rel => exact ⟨j + 1, f, g, by omega, by omega, by omega, by omega, by omega, by go_num, rfl, rfl, HE, HZ⟩
        case measure => simp [intOf]; omega
    · have he : (ta, tb) = (f, g) := by
        have := HC.out
        rw [List.drop_eq_nil_of_le (by have := HNl.out; omega), HTe.out] at this
        exact this
      injection he with ea eb
      subst ea eb
      clear HC
      have HSt : Hid (∀ W, Below w9.heap.size w9 W → Calls Try.prog 24 #[.slice (some ⟨gm, 0, none⟩) l.length cpm, .slice A l.length cp] W fun e w' => e = .returned (.bool true) ∧ Below W.heap.size W w') := fun W hb => by
        have hh := staysTexts_calls (some ⟨gm, 0, none⟩) A cpm cp l l markB W (by omega) (by omega) (HMK.out.1.below hb) (HRl5.out.below (HB9.out.trans (hb.mono HB9.out.size)))
        simpa using hh
      have HLM : Hid (∀ l ∈ ([] ++ [cl] : List (List (Int × Int))), l.length ≤ 100000) := by intro l hl; simp at hl; subst hl; have := HNl.out; omega
      go_wp2_with fail
      refine Calls.mono (HSt.out _ HZ.out) ?_
      rintro e wu ⟨rfl, hbu⟩
      have HU := Lib.hid (HZ.out.trans (hbu.mono HZ.out.size))
      clear hbu
      go_wp2_with fail
      refine (staysSpans_calls gk B sn cpk sc sp _ HSl.out (by omega) (by omega) (HMK.out.2.below HU.out) (HRs5.out.below (HB9.out.trans (HU.out.mono HB9.out.size)))).mono ?_
      rintro e wv ⟨rfl, hbv⟩
      have HV := Lib.hid (HU.out.trans (hbv.mono HU.out.size))
      clear hbv
      go_wp2_with fail
      refine (apart_calls w5.heap.size w5.heap.size S1 T1 _ _ _ _ (by simp) HLM.out (HBk9.out.below HV.out)).mono ?_
      rintro e wy ⟨rfl, hq⟩
      have HY : Hid (Below w5.heap.size w5 wy) := hq.below (HB9.out.trans (HV.out.mono HB9.out.size)) (by have := HB9.out.size; have := HV.out.size; omega) (by intro k hk; obtain ⟨v, hv, e⟩ := mem_vblocks.1 hk; simp at hv; subst hv; have := (HO8.out.lt k e).1; have := HZ7.out; omega)
      clear hq
      go_wp2
      go_ret
      exact ⟨rfl, HB5.out.trans (HY.out.mono HB5.out.size)⟩
end Go.Proofs.Ytkhfecgmkhjpiaa
