/- The law GenTells at the form 2. -/
import Derived.Test.YtiocealhadlggaaGreatGenTells0
namespace Go.Proofs.YtiocealhadlggaaGreat
open Go.RowKit
set_option linter.unusedVariables false

set_option maxHeartbeats 4000000 in
set_option maxRecDepth 100000 in
theorem genT2_calls (A : Option Addr) (cp : Nat) (l : List ByteArray) (wi : ByteArray) (a c : Int) (w : World)
    (hc : l.length ≤ cp) (hn : l.length * 16 ≤ 140737488351232) (hs : ∀ s ∈ l, s.size ≤ 140737488351232) (hR : RowAt w A (scells l)) (h2 : wi.size ≤ 300)
    (ha : -9223372036854775808 ≤ a ∧ a ≤ 9223372036854775807) (hcr : -9223372036854775808 ≤ c ∧ c ≤ 9223372036854775807) (hbig : shortB 12 900 l = true) :
    Calls Tryz.prog 3 #[.int .i64 2, .slice A l.length cp, .string wi, .int .i64 a, .int .i64 c] w fun e w' => e = .returned (.bool true) ∧ Below w.heap.size w w' := by
  have HSh := Lib.hid (short_calls 12 900 A cp l w (by omega) (by omega) (by omega) hs hR)
  rw [hbig] at HSh
  have hsb : (l.length : Int) ≤ 12 ∧ totalLen l ≤ 900 := of_decide_eq_true hbig
  obtain ⟨hl1, hl2⟩ := hsb
  have hJs := joinB_size l
  obtain ⟨t, ht⟩ : ∃ t, joinB l = t := ⟨_, rfl⟩
  rw [ht] at hJs
  have hts : t.size ≤ 900 := by omega
  have HJ := Lib.hid ht
  have HRl := Lib.hid hR
  have hm1 : ∀ w : World, (method 315 67 (commonV (.iface 101 (rule 32 64 128 7 5)) 2) "Gen").run Tryz.prog w = .ok (99, (commonV (.iface 101 (rule 32 64 128 7 5)) 2)) w := fun _ => by kernel_rfl
  have hm2 : ∀ w : World, (method 315 67 (commonV (.iface 101 (rule 32 64 128 7 5)) 2) "Kind").run Tryz.prog w = .ok (100, (commonV (.iface 101 (rule 32 64 128 7 5)) 2)) w := fun _ => by kernel_rfl
  have hm3 : ∀ w : World, (method 315 67 (commonV (.iface 101 (rule 32 64 128 7 5)) 2) "Next").run Tryz.prog w = .ok (102, (commonV (.iface 101 (rule 32 64 128 7 5)) 2)) w := fun _ => by kernel_rfl
  have hm4 : ∀ w : World, (method 315 67 (commonV (.iface 101 (rule 32 64 128 7 5)) 2) "Name").run Tryz.prog w = .ok (101, (commonV (.iface 101 (rule 32 64 128 7 5)) 2)) w := fun _ => by kernel_rfl
  have hm5 : ∀ w : World, (method 315 67 (commonV (.iface 101 (rule 32 64 128 7 5)) 2) "Print").run Tryz.prog w = .ok (103, (commonV (.iface 101 (rule 32 64 128 7 5)) 2)) w := fun _ => by kernel_rfl
  have hm6 : ∀ w : World, (method 315 67 (commonV (.iface 101 (rule 32 64 128 7 5)) 2) "Again").run Tryz.prog w = .ok (98, (commonV (.iface 101 (rule 32 64 128 7 5)) 2)) w := fun _ => by kernel_rfl
  have hm7 : ∀ w : World, (method 315 67 (commonV (.iface 101 (rule 32 64 128 7 5)) 2) "Cut").run Tryz.prog w = .ok (158, (rule 32 64 128 7 5)) w := fun _ => by kernel_rfl
  have hCt : ∀ (A : Option Addr) (cp : Nat) (W : World), l.length ≤ cp → RowAt W A (scells l) → Calls Tryz.prog 158 #[(rule 32 64 128 7 5), .slice A l.length cp] W fun e w' => ∃ v, e = .returned v ∧ Own w' W.heap.size 2 v (cutA (firstN 32 64 128 7 5) 0 t.data.toList).length (pcells (cutA (firstN 32 64 128 7 5) 0 t.data.toList)) ∧ Below W.heap.size W w' := fun A cp W hcp hR => by
    rw [← ht]
    exact cutG2 A cp l W hcp (by omega) (by omega) hR
  have hRf := fun W => Form.two.ref t W (by omega)
  have hnn := cutA_length Form.two.cutter.best.toGood t.data.toList.length 0 t.data.toList (Nat.le_refl _)
  rw [data_length] at hnn
  obtain ⟨L, hL⟩ : ∃ L, cutA (firstN 32 64 128 7 5) 0 t.data.toList = L := ⟨_, rfl⟩
  rw [hL] at hCt hRf hnn
  have HLe := Lib.hid hL
  obtain ⟨N, hN⟩ : ∃ N, L.length = N := ⟨_, rfl⟩
  rw [hN] at hCt hRf hnn
  have HN := Lib.hid hN
  have HCt := Lib.hid hCt
  have HRf := Lib.hid hRf
  have hP := fun A cp W hcp hR => commonPrint_calls 101 (rule 32 64 128 7 5) 2 A l.length cp l W (by omega) rfl hcp (by omega) (by omega) hR
  rw [show kindG 2 = 2 from rfl, ht] at hP
  have hRp := fun W => refPrint_calls 2 t W (by omega)
  obtain ⟨p, hp⟩ : ∃ p, refPrintM 2 t = p := ⟨_, rfl⟩
  rw [hp] at hP hRp
  have HP := Lib.hid hP
  have HRp := Lib.hid hRp
  clear hCt hRf hL hN hP hRp hp ht hbig hR
  go_enter Tryz.func3, Tryz.ntmps3
  go_wp2_with fail
  refine Calls.mono HSh.out ?_
  rintro e w1 ⟨rfl, hb1⟩
  have HB1 := Lib.hid hb1; clear hb1
  go_wp2_with fail
  refine (genAlive_calls _).mono ?_
  rintro e w2 ⟨rfl, hb2⟩
  have HB2 := Lib.hid (below_trans' HB1.out hb2); clear hb2
  go_wp2_with fail
  refine (GForm.two.of _).mono ?_
  rintro e w3 ⟨rfl, hb3⟩
  have HB3 := Lib.hid (below_trans' HB2.out hb3); clear hb3
  go_wp2_with fail
  refine (join_calls A cp l _ (by omega) (by omega) (HRl.out.below HB3.out)).mono ?_
  rintro e _ ⟨rfl, rfl⟩
  rw [HJ.out]
  go_wp2_with fail
  refine (lentTexts_calls A cp l _ (by omega) (HRl.out.below HB3.out)).mono ?_
  rintro e w4 ⟨gm, cpm, rfl, hcpm, hrm, hb4⟩
  have HM4 := Lib.hid hrm
  have HB4 := Lib.hid (below_trans' HB3.out hb4)
  clear hrm hb4
  go_wp2_with fail
  refine Calls.mono (HRf.out _) ?_
  rintro e w5 ⟨v, rfl, ho, hb5⟩
  obtain ⟨A5, c5, rfl, hc5, hr5, _⟩ := ho.slice
  have HR5 := Lib.hid hr5
  have HM5 := Lib.hid (HM4.out.below hb5)
  have HB5 := Lib.hid (below_trans' HB4.out hb5)
  clear ho hb5 hr5
  go_wp2_with fail
  have HBk := Lib.hid (bookNew w5 w5.heap.size (Nat.le_refl _) 44)
  have HB0 := Lib.hid ((Below.refl w5.heap.size w5).alloc (Nat.le_refl _) (.cells (Array.replicate 16 (.slice none 0 0)) 44))
  have hbs : (w5.alloc (.cells (Array.replicate 16 (.slice none 0 0)) 44)).heap.size = w5.heap.size + 1 := World.size_alloc _ _
  have hrep : (Array.replicate 16 (Value.slice none 0 0)) = #[.slice none 0 0, .slice none 0 0, .slice none 0 0, .slice none 0 0, .slice none 0 0, .slice none 0 0, .slice none 0 0, .slice none 0 0, .slice none 0 0, .slice none 0 0, .slice none 0 0, .slice none 0 0, .slice none 0 0, .slice none 0 0, .slice none 0 0, .slice none 0 0] := rfl
  rw [hrep] at HBk HB0 hbs
  obtain ⟨wb, hwb⟩ : ∃ wb, w5.alloc (.cells #[.slice none 0 0, .slice none 0 0, .slice none 0 0, .slice none 0 0, .slice none 0 0, .slice none 0 0, .slice none 0 0, .slice none 0 0, .slice none 0 0, .slice none 0 0, .slice none 0 0, .slice none 0 0, .slice none 0 0, .slice none 0 0, .slice none 0 0, .slice none 0 0] 44) = wb := ⟨_, rfl⟩
  rw [hwb] at HBk HB0 hbs ⊢
  have HBs := Lib.hid hbs
  clear hrep hbs hwb
  refine Calls.mono (HCt.out _ _ _ (by omega) (HM5.out.left.below HB0.out)) ?_
  rintro e w6 ⟨v, rfl, ho, hb6⟩
  obtain ⟨A6, c6, rfl, hc6, _, _⟩ := ho.slice
  have HO6 := Lib.hid ho
  have HBk6 := Lib.hid (HBk.out.below hb6)
  have HB6 := Lib.hid (HB0.out.trans (hb6.mono HB0.out.size))
  clear ho hb6
  go_wp2_with fail
  refine (bookSpans_calls w5.heap.size w5.heap.size _ _ [] [] [] A6 N c6 L w6 (by simp) (by omega) HBk6.out (HO6.out.weaken (by have := HBs.out; omega)) (fun b hb => ⟨by have := (HO6.out.lt b hb).1; have := HBs.out; omega, by simp [Value.ownBlock], by simp [Value.ownBlock], by simp⟩)).mono ?_
  rintro e w7 ⟨rfl, hto⟩
  obtain ⟨S1, T1, u1, hbk1, hS1, hT1, hu1⟩ := hto.ex
  have HTc : Hid (Touched w6 w7 [w5.heap.size]) := by rw [Hid]; have := hto.touched; simpa [Value.ownBlock] using this
  have HBk7 := Lib.hid hbk1
  have HB7 : Hid (Below w5.heap.size w5 w7) := HTc.out.below HB6.out (by have := HB6.out.size; omega) (by simp)
  have HSc : Hid ((∀ b, S1.ownBlock = some b → w6.heap.size ≤ b) ∧ ∀ b, T1.ownBlock = some b → w6.heap.size ≤ b) := ⟨fun b hb => (hS1 b hb).resolve_left (by simp [Value.ownBlock]), fun b hb => (hT1 b hb).resolve_left (by simp [Value.ownBlock])⟩
  have HL7 : Hid (RowAt w7 A6 (pcells L)) := by
    have := HTc.out.own HO6.out (fun b hb hm => by simp at hm; have := (HO6.out.lt b hb).1; have := HBs.out; omega)
    obtain ⟨_, _, e, _, hr, _⟩ := this.slice
    injection e with e
    rw [Hid, e]; exact hr
  clear hto hbk1 hS1 hT1 hu1
  obtain ⟨wS, hwS⟩ : ∃ wS, w7 = wS := ⟨_, rfl⟩
  rw [hwS] at HTc HBk7 HB7 HL7 ⊢
  clear hwS w7
  have HS1 : Hid (∀ W, Below wS.heap.size wS W → Calls Tryz.prog 11 #[.slice A6 N c6, .slice A5 N c5] W fun e w' => e = .returned (.bool true) ∧ Below W.heap.size W w') := fun W hb => by
    have h := sameSpans_calls A6 A5 N N c6 c5 L L W HN.out HN.out (by omega) (HL7.out.below hb) (HR5.out.below (HB7.out.trans (hb.mono HB7.out.size)))
    rw [decide_eq_true (rfl : L = L)] at h
    exact h
  have HPr : Hid (∀ W, Below wS.heap.size wS W → Calls Tryz.prog 103 #[(commonV (.iface 101 (rule 32 64 128 7 5)) 2), .slice (some ⟨gm, 0, none⟩) l.length cpm] W fun e w' => e = .returned (.agg #[.int .i64 2, .string p]) ∧ Below W.heap.size W w') := fun W hb =>
    HP.out _ _ _ (by omega) (HM5.out.left.below (HB7.out.trans (hb.mono HB7.out.size)))
  have HSt : Hid (∀ W, Below wS.heap.size wS W → Calls Tryz.prog 13 #[.slice (some ⟨gm, 0, none⟩) l.length cpm, .slice A l.length cp] W fun e w' => e = .returned (.bool true) ∧ Below W.heap.size W w') := fun W hb => by
    have hw5 := HB7.out.trans (hb.mono HB7.out.size)
    have hh := staysTexts_calls (some ⟨gm, 0, none⟩) A cpm cp l l markB W (by omega) (by omega) (HM5.out.below hw5) ((HRl.out.below HB5.out).below hw5)
    simpa using hh
  have hcv := byte_str 50
  have e48 : ((50 : UInt8).toNat : Int) = 50 := by decide
  rw [e48] at hcv
  have e49 : IntKind.u8.wrap (IntKind.i64.wrap 50) = 50 := by decide
  have r1 := fun W : World => run_string_add (P := Tryz.prog) W ⟨#[103]⟩ ⟨#[50]⟩ (by decide) (by decide)
  have e1 : (⟨#[103]⟩ : ByteArray) ++ ⟨#[50]⟩ = ⟨#[103, 50]⟩ := by decide
  rw [e1] at r1
  have HW := Lib.hid (Below.refl wS.heap.size wS)
  clear e1
  go_upto_region 19 with fail
  go_cut [126] (fun v wx => v = .bool false ∧ Hid (Below wS.heap.size wS wx))
  case first =>
    go_region_held_law (fun _ => True) (trivial)
      (first
        | (go_at_call 99; refine Calls.mono (gen_calls _ _ _ _) ?_; rintro e y1 ⟨rfl, hq⟩; replace HW : Hid (Below wS.heap.size wS y1) := (by first | exact below_trans' HW.out hq | exact below_trans' (below_drew' HW.out) hq | exact below_trans' (HW.out.alloc HW.out.size _) hq | exact below_trans' (below_drew' (HW.out.alloc HW.out.size _)) hq | exact below_trans' ((below_drew' HW.out).alloc (below_drew' HW.out).size _) hq | exact below_trans' (below_drew' (below_drew' HW.out)) hq); clear hq)
        | (go_at_call 100; refine Calls.mono (kind_calls _ _ _ _) ?_; rintro e y1 ⟨rfl, hq⟩; replace HW : Hid (Below wS.heap.size wS y1) := (by first | exact below_trans' HW.out hq | exact below_trans' (below_drew' HW.out) hq | exact below_trans' (HW.out.alloc HW.out.size _) hq | exact below_trans' (below_drew' (HW.out.alloc HW.out.size _)) hq | exact below_trans' ((below_drew' HW.out).alloc (below_drew' HW.out).size _) hq | exact below_trans' (below_drew' (below_drew' HW.out)) hq); clear hq)
        | (go_at_call 102; refine Calls.mono (next_calls _ _ _ _ (by omega)) ?_; rintro e y1 ⟨rfl, hq⟩; replace HW : Hid (Below wS.heap.size wS y1) := (by first | exact below_trans' HW.out hq | exact below_trans' (below_drew' HW.out) hq | exact below_trans' (HW.out.alloc HW.out.size _) hq | exact below_trans' (below_drew' (HW.out.alloc HW.out.size _)) hq | exact below_trans' ((below_drew' HW.out).alloc (below_drew' HW.out).size _) hq | exact below_trans' (below_drew' (below_drew' HW.out)) hq); clear hq)
        | (go_at_call 101; have hz := fun W hb => byte_str2 50 y1 W hb; rw [e48] at hz; refine Calls.mono (nameTwo_calls _ _ _) ?_; rintro e y1 ⟨rfl, hq⟩; (first | (have hzz := hz _ hq) | skip); replace HW : Hid (Below wS.heap.size wS y1) := (by first | exact below_trans' HW.out hq | exact below_trans' (below_drew' HW.out) hq | exact below_trans' (HW.out.alloc HW.out.size _) hq | exact below_trans' (below_drew' (HW.out.alloc HW.out.size _)) hq | exact below_trans' ((below_drew' HW.out).alloc (below_drew' HW.out).size _) hq | exact below_trans' (below_drew' (below_drew' HW.out)) hq); clear hz hq)
        | (go_at_call 11; refine Calls.mono (HS1.out _ (by first | exact HW.out | exact (below_drew' HW.out) | exact (HW.out.alloc HW.out.size _) | exact (below_drew' (HW.out.alloc HW.out.size _)) | exact ((below_drew' HW.out).alloc (below_drew' HW.out).size _) | exact (below_drew' (below_drew' HW.out)))) ?_; rintro e y1 ⟨rfl, hq⟩; replace HW : Hid (Below wS.heap.size wS y1) := (by first | exact below_trans' HW.out hq | exact below_trans' (below_drew' HW.out) hq | exact below_trans' (HW.out.alloc HW.out.size _) hq | exact below_trans' (below_drew' (HW.out.alloc HW.out.size _)) hq | exact below_trans' ((below_drew' HW.out).alloc (below_drew' HW.out).size _) hq | exact below_trans' (below_drew' (below_drew' HW.out)) hq); clear hq)
        | (go_at_call 103; refine Calls.mono (HPr.out _ (by first | exact HW.out | exact (below_drew' HW.out) | exact (HW.out.alloc HW.out.size _) | exact (below_drew' (HW.out.alloc HW.out.size _)) | exact ((below_drew' HW.out).alloc (below_drew' HW.out).size _) | exact (below_drew' (below_drew' HW.out)))) ?_; rintro e y1 ⟨rfl, hq⟩; replace HW : Hid (Below wS.heap.size wS y1) := (by first | exact below_trans' HW.out hq | exact below_trans' (below_drew' HW.out) hq | exact below_trans' (HW.out.alloc HW.out.size _) hq | exact below_trans' (below_drew' (HW.out.alloc HW.out.size _)) hq | exact below_trans' ((below_drew' HW.out).alloc (below_drew' HW.out).size _) hq | exact below_trans' (below_drew' (below_drew' HW.out)) hq); clear hq)
        | (go_at_call 12; refine Calls.mono (HRp.out _) ?_; rintro e y1 ⟨rfl, hq⟩; replace HW : Hid (Below wS.heap.size wS y1) := (by first | exact below_trans' HW.out hq | exact below_trans' (below_drew' HW.out) hq | exact below_trans' (HW.out.alloc HW.out.size _) hq | exact below_trans' (below_drew' (HW.out.alloc HW.out.size _)) hq | exact below_trans' ((below_drew' HW.out).alloc (below_drew' HW.out).size _) hq | exact below_trans' (below_drew' (below_drew' HW.out)) hq); clear hq)
        | (go_at_call 13; refine Calls.mono (HSt.out _ (by first | exact HW.out | exact (below_drew' HW.out) | exact (HW.out.alloc HW.out.size _) | exact (below_drew' (HW.out.alloc HW.out.size _)) | exact ((below_drew' HW.out).alloc (below_drew' HW.out).size _) | exact (below_drew' (below_drew' HW.out)))) ?_; rintro e y1 ⟨rfl, hq⟩; replace HW : Hid (Below wS.heap.size wS y1) := (by first | exact below_trans' HW.out hq | exact below_trans' (below_drew' HW.out) hq | exact below_trans' (HW.out.alloc HW.out.size _) hq | exact below_trans' (below_drew' (HW.out.alloc HW.out.size _)) hq | exact below_trans' ((below_drew' HW.out).alloc (below_drew' HW.out).size _) hq | exact below_trans' (below_drew' (below_drew' HW.out)) hq); clear hq))
    all_goals
      go_wp2_with fail
      go_meet
      exact ⟨rfl, HW⟩
  clear r1 hcv e49 e48 HW HSt HPr HS1 hm1 hm2 hm3 hm4 hm5
  obtain ⟨rfl, HWc⟩ := hcut
  obtain ⟨wd, hwd⟩ : ∃ wd, wc = wd := ⟨_, rfl⟩
  rw [hwd] at HWc ⊢
  clear hwd wc
  have HBd := Lib.hid (HBk7.out.below HWc.out)
  have HB8 := Lib.hid (HB7.out.trans (HWc.out.mono HB7.out.size))
  have HO8 : Hid (Own wd wb.heap.size 2 (.slice A6 N c6) N (pcells L)) := (HTc.out.own HO6.out (fun b hb hm => by simp at hm; have := (HO6.out.lt b hb).1; have := HBs.out; omega)).below HWc.out
  by_cases hin : 0 ≤ a ∧ a ≤ (t.size : Int) ∧ 0 ≤ c ∧ c ≤ (t.size : Int) - a
  case neg =>
    have HLM : Hid (∀ l ∈ ([] ++ [L] : List (List (Int × Int))), l.length ≤ 100000) := by intro l hl; simp at hl; subst hl; have := HN.out; omega
    have key : ¬ 0 ≤ a ∨ (0 ≤ a ∧ ¬ a ≤ (t.size : Int)) ∨ (0 ≤ a ∧ a ≤ (t.size : Int) ∧ ¬ 0 ≤ c) ∨ (0 ≤ a ∧ a ≤ (t.size : Int) ∧ 0 ≤ c ∧ ¬ c ≤ (t.size : Int) - a) := by omega
    clear hin
    rcases key with k1 | ⟨k1, k2⟩ | ⟨k1, k2, k3⟩ | ⟨k1, k2, k3, k4⟩
    all_goals
      have w4 := fun (h : 0 ≤ a) (h' : a ≤ (t.size : Int)) => IntWalk.i64_in ((t.size : Int) - a) (by omega)
      go_wp2_with fail
      refine (apart_calls w5.heap.size w5.heap.size S1 T1 _ _ _ _ (by simp) HLM.out HBd.out).mono ?_
      rintro e y ⟨rfl, hq⟩
      have HY : Hid (Below w5.heap.size w5 y) := hq.below HB8.out HB8.out.size (by intro k hk; obtain ⟨v, hv, e⟩ := mem_vblocks.1 hk; simp at hv; subst hv; have := (HO6.out.lt k e).1; have := HBs.out; omega)
      clear hq
      go_wp2
      go_ret
      exact ⟨rfl, HB5.out.trans (HY.out.mono HB5.out.size)⟩
  obtain ⟨k1, k2, k3, k4⟩ := hin
  obtain ⟨a, rfl⟩ := Int.eq_ofNat_of_zero_le k1
  obtain ⟨c, rfl⟩ := Int.eq_ofNat_of_zero_le k3
  have hac : a ≤ t.size ∧ c ≤ t.size - a := by omega
  have hes := edit_size (s := t) (wi := wi) hac.1 hac.2
  have hL := HLe.out
  have hAg := fun B sc W hsc hR => commonEdit_calls Form.two.cutter 2 B N sc t wi a c W (by omega) (by omega) hac.1 hac.2 hsc (by rw [hL]; exact HN.out) hR
  obtain ⟨z, hz⟩ : ∃ z, edit t wi a c = z := ⟨_, rfl⟩
  rw [hz] at hes
  rw [hz, hL] at hAg
  have hRf2 := fun W => Form.two.ref z W (by omega)
  have hn2 := cutA_length Form.two.cutter.best.toGood z.data.toList.length 0 z.data.toList (Nat.le_refl _)
  rw [data_length] at hn2
  obtain ⟨L2, hL2⟩ : ∃ L, cutA (firstN 32 64 128 7 5) 0 z.data.toList = L := ⟨_, rfl⟩
  rw [hL2] at hAg hRf2 hn2
  obtain ⟨N2, hN2⟩ : ∃ N, L2.length = N := ⟨_, rfl⟩
  rw [hN2] at hAg hRf2 hn2
  have HN2 := Lib.hid hN2
  have HAg := Lib.hid hAg
  have HRf2 := Lib.hid hRf2
  have HT : Hid (t.extract 0 a ++ wi ++ t.extract (a + c) t.size = z) := hz
  have b2 : N2 ≤ 1400 := by omega
  have z1 : (t.extract 0 a).size ≤ 1000 := by rw [ByteArray.size_extract]; omega
  have z2 : (t.extract (a + c) t.size).size ≤ 1000 := by rw [ByteArray.size_extract]; omega
  have r1 := fun W : World => run_string_add (P := Tryz.prog) W (t.extract 0 a) wi (by omega) (by omega)
  have r2 := fun W : World => run_string_add (P := Tryz.prog) W (t.extract 0 a ++ wi) (t.extract (a + c) t.size) (by rw [ByteArray.size_append]; omega) (by omega)
  have w1 := IntWalk.i64_in ((t.size : Int) - a) (by omega)
  have w2 := IntWalk.i64_in ((a : Int) + c) (by omega)
  have w3 := IntWalk.i64_in ((a : Int) + wi.size) (by omega)
  have w4 := IntWalk.i64_in ((wi.size : Int) - c) (by omega)
  have w5' : ((a : Int) + (c : Int)).toNat = a + c := by omega
  have j1 : ((a : Int) + c) ≤ t.size := by omega
  clear hAg hRf2 hn2 hL2 hN2 hz hes hac z1 z2 hL
  go_wp2_with fail
  go_big_quiet (fail)
  rw [HT.out]
  clear r1 r2 w1 w2 w5' j1
  go_wp2_with fail
  refine Calls.mono (HAg.out _ _ _ (by omega) ((HR5.out.below HB8.out).below (below_drewN (Below.refl _ _) _))) ?_
  rintro e y1 ⟨v, rfl, ho, hq⟩
  obtain ⟨A9, c9, rfl, hc9, _, _⟩ := ho.slice
  have HO9 : Hid (Own y1 wd.heap.size 2 (.slice A9 N2 c9) N2 (pcells L2)) := ho
  have H9 := Lib.hid (below_trans' (below_drewN (Below.refl wd.heap.size wd) _) hq)
  have HZ9 := Lib.hid hq.size
  clear ho hq
  have HB9 := Lib.hid (HB8.out.trans (H9.out.mono HB8.out.size))
  have HBk9 := Lib.hid (HBd.out.below H9.out)
  have HSz : Hid (w5.heap.size + 1 ≤ wd.heap.size ∧ w6.heap.size ≤ wd.heap.size ∧ wd.heap.size ≤ y1.heap.size) := by
    refine ⟨?_, ?_, H9.out.size⟩
    · have := HBs.out; have := HBk6.out.gl; have := HTc.out.size; have := HWc.out.size; omega
    · have := HTc.out.size; have := HWc.out.size; omega
  have HLM2 : Hid (∀ l ∈ (([] ++ [L]) ++ [L2] : List (List (Int × Int))), l.length ≤ 100000) := by
    intro l hl
    simp at hl
    rcases hl with rfl | rfl
    · have := HN.out; omega
    · have := HN2.out; omega
  go_wp2_with fail
  refine (bookSpans_calls w5.heap.size w5.heap.size S1 T1 _ _ _ A9 N2 c9 L2 y1 (by simp) (by omega) HBk9.out (HO9.out.weaken (by have := HSz.out; omega)) (fun b hb => ⟨by have := (HO9.out.lt b hb).1; have := HSz.out; omega, fun e => by have := (HBd.out.hS.lt b e).2; have := (HO9.out.lt b hb).1; omega, fun e => by have := (HBd.out.hT.lt b e).2; have := (HO9.out.lt b hb).1; omega, by intro v hv e; simp at hv; subst hv; have := (HO8.out.lt b e).2; have := (HO9.out.lt b hb).1; omega⟩)).mono ?_
  rintro e y2 ⟨rfl, hto⟩
  obtain ⟨S2, T2, u2, hbk2, _, _, _⟩ := hto.ex
  have HB10 : Hid (Below w5.heap.size w5 y2) := hto.touched.below HB9.out HB9.out.size (by
    intro k hk
    simp at hk
    rcases hk with rfl | hk | hk
    · exact Nat.le_refl _
    · exact (HBd.out.hS.lt k hk).1
    · exact (HBd.out.hT.lt k hk).1)
  have HL2 : Hid (RowAt y2 A9 (pcells L2)) := by
    obtain ⟨_, v, hv, ho, _⟩ := hbk2.hv 1 L2 (by simp)
    simp at hv
    subst hv
    obtain ⟨_, _, e, _, hr, _⟩ := ho.slice
    injection e with e
    rw [Hid, e]; exact hr
  have HBk10 := Lib.hid hbk2
  clear hto hbk2
  go_wp2_with fail
  refine Calls.mono (HRf2.out _) ?_
  rintro e y3 ⟨v, rfl, ho, hq⟩
  obtain ⟨A11, c11, rfl, _, hr11, _⟩ := ho.slice
  have HS2 := sameSpans_calls A9 A11 N2 N2 c9 c11 L2 L2 y3 HN2.out HN2.out (by omega) (HL2.out.below hq) hr11
  rw [decide_eq_true (rfl : L2 = L2)] at HS2
  have HSS2 := Lib.hid HS2
  have H11 := Lib.hid hq
  clear ho hr11 hq HS2
  go_wp2_with fail
  refine Calls.mono HSS2.out ?_
  rintro e y4 ⟨rfl, hq⟩
  have H12 := Lib.hid (below_trans' H11.out hq)
  clear hq
  go_wp2_with fail
  refine (apart_calls w5.heap.size w5.heap.size S2 T2 _ _ _ _ (by simp) HLM2.out (HBk10.out.below H12.out)).mono ?_
  rintro e y5 ⟨rfl, hq⟩
  have HY : Hid (Below w5.heap.size w5 y5) := hq.below (HB10.out.trans (H12.out.mono HB10.out.size)) (HB10.out.trans (H12.out.mono HB10.out.size)).size (by
    intro k hk
    obtain ⟨v, hv, e⟩ := mem_vblocks.1 hk
    simp at hv
    rcases hv with rfl | rfl
    · have := (HO6.out.lt k e).1; have := HBs.out; omega
    · have := (HO9.out.lt k e).1; have := HSz.out; omega)
  clear hq
  go_wp2
  go_ret
  exact ⟨rfl, HB5.out.trans (HY.out.mono HB5.out.size)⟩
end Go.Proofs.YtiocealhadlggaaGreat
