/- The law CdcTells. -/
import Derived.Test.YtkhfecgmkhjpiaaCdcUse
import Derived.Test.YtkhfecgmkhjpiaaCdcRef
import Derived.Test.YtkhfecgmkhjpiaaBookApart
import Derived.Deep.RegionHeld3
import Derived.Deep.DeepCutAuto
namespace Go.Proofs.Ytkhfecgmkhjpiaa
open Go.RowKit
set_option linter.unusedVariables false
attribute [local go_sem] max2_int min2_int max_two min_two

theorem rule_rows5 {w : World} {g : Nat} {a b c h s : Int} (h0 : w.cell? ⟨g, 0, none⟩ = some (.int .i64 a)) (h1 : w.cell? ⟨g, 1, none⟩ = some (.int .i64 b)) (h2 : w.cell? ⟨g, 2, none⟩ = some (.int .i64 c)) (h3 : w.cell? ⟨g, 3, none⟩ = some (.int .i64 h)) (h4 : w.cell? ⟨g, 4, none⟩ = some (.int .i64 s)) :
    RowAt w (some ⟨g, 0, none⟩) (icells [a, b, c, h, s]) := by
  refine .inr ⟨_, rfl, fun j u hj => ?_⟩
  rw [add0]
  match j, hj with
  | 0, hj => simpa [icells] using h0.trans hj
  | 1, hj => simpa [icells] using h1.trans hj
  | 2, hj => simpa [icells] using h2.trans hj
  | 3, hj => simpa [icells] using h3.trans hj
  | 4, hj => simpa [icells] using h4.trans hj
  | j + 5, hj => simp [icells] at hj
theorem row_last' (W : World) (cs : List Value) (t : TypeId) (g : Nat) (hg : g = W.heap.size) : RowAt (W.alloc (.cells cs.toArray t)) (some ⟨g, 0, none⟩) cs := by
  subst hg; exact rowAt_alloc W cs t
theorem row_drew2 {W : World} {A : Option Addr} {cs : List Value} (h : RowAt W A cs) : RowAt W.drew A cs := h
theorem joinB_one2 (t : ByteArray) : joinB [t] = t := by simp [joinB]
set_option maxHeartbeats 8000000 in
set_option maxRecDepth 100000 in
theorem cdcTells_calls (a b c h s : Int) (own : Bool) (A : Option Addr) (n cp : Nat) (l : List ByteArray) (w : World)
    (hl : l.length = n) (_hc : n ≤ cp) (hn : n * 16 ≤ 140737488351232) (hs : ∀ s ∈ l, s.size ≤ 140737488351232) (hR : RowAt w A (scells l)) :
    Calls Try.prog 4 #[rule a b c h s, .bool own, .slice A n cp] w fun e w' => e = .returned (.bool true) ∧ Below w.heap.size w w' := by
  subst hl
  have HSh := Lib.hid (fun W hR => short_calls 12 1500 A cp l W (by omega) (by omega) (by omega) hs hR)
  by_cases hsh : shortB 12 1500 l = true
  case neg =>
    have hsf : shortB 12 1500 l = false := by simpa using hsh
    rw [hsf] at HSh
    clear hsh hsf
    have HR := Lib.hid (hR.alloc (.cells #[.int .i64 a, .int .i64 b, .int .i64 c, .int .i64 h, .int .i64 s] 56))
    clear hR
    go_enter Try.func4, Try.ntmps4
    go_wp2_with fail
    refine (HSh.out _ HR.out).mono ?_
    rintro e w1 ⟨rfl, hb1⟩
    have HB1 := Lib.hid (below_trans' ((Below.refl _ _).alloc (Nat.le_refl _) _) hb1); clear hb1
    go_wp2_with fail
    refine (cdcAlive_calls _).mono ?_
    rintro e w2 ⟨rfl, hb2⟩
    have HB := Lib.hid (below_trans' HB1.out hb2); clear hb2
    go_wp2
    go_ret
    exact ⟨rfl, HB.out⟩
  rw [hsh] at HSh
  have hsb : (l.length : Int) ≤ 12 ∧ totalLen l ≤ 1500 := of_decide_eq_true hsh
  obtain ⟨hs1, hs2⟩ := hsb
  have hsz : (joinB l).size ≤ 1500 := by have := joinB_size l; omega
  clear hsh
  have hRw := Lib.hid hR
  have HR := Lib.hid (hR.alloc (.cells #[.int .i64 a, .int .i64 b, .int .i64 c, .int .i64 h, .int .i64 s] 56))
  have HX := Lib.hid (rowAt_alloc w (icells [a, b, c, h, s]) 56)
  clear hR
  obtain ⟨a', b', c', h', s', hv⟩ : ∃ a' b' c' h' s' : Int, (own = true → a' = 32 ∧ b' = 64 ∧ c' = 128 ∧ h' = 7 ∧ s' = 5) ∧ (own = false → a' = a ∧ b' = b ∧ c' = c ∧ h' = h ∧ s' = s) := by
    cases own
    · exact ⟨a, b, c, h, s, by simp, by simp⟩
    · exact ⟨32, 64, 128, 7, 5, by simp, by simp⟩
  have HD : Hid (own = true → ∀ W, Calls Try.prog 28 #[] W fun e w' => e = .returned (rule a' b' c' h' s') ∧ Below W.heap.size W w') := by
    intro ho W
    obtain ⟨rfl, rfl, rfl, rfl, rfl⟩ := hv.1 ho
    exact default_calls W
  obtain ⟨V, hV⟩ : ∃ V, validB a' b' c' h' s' = V := ⟨_, rfl⟩
  have HV1 := Lib.hid (fun W => valid_calls a' b' c' h' s' W)
  have HV2 := Lib.hid (fun W => refValid_calls a' b' c' h' s' W)
  rw [hV] at HV1 HV2
  obtain ⟨t, ht⟩ : ∃ t, joinB l = t := ⟨_, rfl⟩
  have HJ := Lib.hid ht
  rw [ht] at hsz
  have HFi1 := Lib.hid (fun W => first_calls a' b' c' h' s' t W (by omega))
  have HFi2 := Lib.hid (fun W => refFirst_calls a' b' c' h' s' t W (by omega))
  have hF := good_first a' b' c' h' s'
  have HC1 := Lib.hid (fun (A : Option Addr) (cp : Nat) (W : World) (hcp : l.length ≤ cp) (hR : RowAt W A (scells l)) => cdcCut_calls a' b' c' h' s' A l.length cp l W rfl hcp (by omega) (by omega) hR)
  have HC2 := Lib.hid (fun (A : Option Addr) (W : World) (hR : RowAt W A [.string t]) => cdcCut_calls a' b' c' h' s' A 1 1 [t] W rfl (by omega) (by omega) (by simp [totalLen]; omega) hR)
  have HC3 := Lib.hid (fun (W : World) => refCut_calls a' b' c' h' s' t W (by omega))
  rw [joinB_one2] at HC2
  rw [ht] at HC1
  obtain ⟨F, hFe⟩ : ∃ F, firstN a' b' c' h' s' = F := ⟨_, rfl⟩
  rw [hFe] at HC1 HC2 HC3 HFi1 HFi2 hF
  obtain ⟨cl, hcl⟩ : ∃ cl, cutA F 0 t.data.toList = cl := ⟨_, rfl⟩
  have hcln : cl.length ≤ 1500 := by
    have := cutA_length hF _ 0 t.data.toList (Nat.le_refl _)
    rw [hcl, data_length] at this
    omega
  rw [hcl] at HC1 HC2 HC3
  obtain ⟨z, hz⟩ : ∃ z, F t.data.toList = z := ⟨_, rfl⟩
  rw [hz] at HFi1 HFi2
  obtain ⟨N, hN⟩ : ∃ N, cl.length = N := ⟨_, rfl⟩
  rw [hN] at HC1 HC2 HC3 hcln
  have HNl := Lib.hid hN
  have HS := fun (B D : Option Addr) (c d : Nat) (W : World) (hR : RowAt W B (pcells cl)) (hS : RowAt W D (pcells cl)) => sameSpans_calls B D N N c d cl cl W hN hN (by omega) hR hS
  have hdd : decide (cl = cl) = true := decide_eq_true rfl
  rw [hdd] at HS
  have HSS := Lib.hid HS
  clear hV ht hF hFe hcl hz hN HS hdd
  rcases own with _ | _
  all_goals
    go_enter Try.func4, Try.ntmps4
    go_wp2_with fail
    refine (HSh.out _ HR.out).mono ?_
    rintro e w1 ⟨rfl, hb1⟩
    have HB1 := Lib.hid (below_trans' ((Below.refl _ _).alloc (Nat.le_refl _) _) hb1)
    have HR1 := Lib.hid (HR.out.below hb1)
    have HX1 := Lib.hid (HX.out.below hb1)
    have HF1 := Lib.hid (hb1.block w.heap.size (by simp))
    clear hb1
    go_wp2_with fail
    refine (cdcAlive_calls _).mono ?_
    rintro e w2 ⟨rfl, hb2⟩
    have HB2 := Lib.hid (below_trans' HB1.out hb2)
    have HR2 := Lib.hid (HR1.out.below hb2)
    have HX2 := Lib.hid (HX1.out.below hb2)
    have HF2 := Lib.hid ((hb2.block w.heap.size (by have := HF1.out; have := HX1.out.addr (by simp [icells]); obtain ⟨_, _, e, h, _⟩ := this; injection e with e; injection e with e; omega)).trans HF1.out)
    clear hb2
  focus
    obtain ⟨rfl, rfl, rfl, rfl, rfl⟩ := hv.2 (by trivial)
    obtain ⟨q0, q1, q2, q3, q4⟩ := rule_cells HX2.out
    have HXr := HX2
    have HRr := HR2
    have HBr := HB2
    clear hv
    go_wp2_with fail
    clear q0 q1 q2 q3 q4 HX1 HX2 HR1 HR2 HB1 HB2 HF1 HF2 HSh HD HX HR
    obtain ⟨wr, hwr⟩ : ∃ wr, w2 = wr := ⟨_, rfl⟩
    rw [hwr] at HBr HXr HRr ⊢
    clear hwr
  rotate_left
  focus
    clear hv
    have f := fun j => frozen_of_row w2 w.heap.size j _ _ (HF2.out.trans (heap_alloc_new w _))
    have HDD := HD.out (by trivial)
    go_wp2_with fail
    refine Calls.mono (HDD _) ?_
    rintro e w3 ⟨rfl, hb3⟩
    have HB3 := Lib.hid (below_trans' HB2.out hb3)
    have HR3 := Lib.hid (HR2.out.below hb3)
    have HX3 := Lib.hid (HX2.out.below hb3)
    have HF3 : Hid (∀ j, w3.frozen? ⟨w.heap.size, j, none⟩ = false) := fun j => (World.frozen?_of_block (w := w2) (a := ⟨w.heap.size, j, none⟩) (hb3.block w.heap.size (cell_lt2 (rule_cells HX2.out).1))).trans (f j)
    clear hb3 f HDD
    obtain ⟨k0, k1, k2, k3, k4⟩ := rule_cells HX3.out
    have f0 := HF3.out 0
    have f1 := HF3.out 1
    have f2 := HF3.out 2
    have f3 := HF3.out 3
    have f4 := HF3.out 4
    have HBr : Hid (Below w.heap.size w (((((w3.setCell ⟨w.heap.size, 0, none⟩ (.int .i64 a')).setCell ⟨w.heap.size, 1, none⟩ (.int .i64 b')).setCell ⟨w.heap.size, 2, none⟩ (.int .i64 c')).setCell ⟨w.heap.size, 3, none⟩ (.int .i64 h')).setCell ⟨w.heap.size, 4, none⟩ (.int .i64 s'))) :=
      ((((HB3.out.setCell (Nat.le_refl _) _).setCell (Nat.le_refl _) _).setCell (Nat.le_refl _) _).setCell (Nat.le_refl _) _).setCell (Nat.le_refl _) _
    have HXr : Hid (RowAt (((((w3.setCell ⟨w.heap.size, 0, none⟩ (.int .i64 a')).setCell ⟨w.heap.size, 1, none⟩ (.int .i64 b')).setCell ⟨w.heap.size, 2, none⟩ (.int .i64 c')).setCell ⟨w.heap.size, 3, none⟩ (.int .i64 h')).setCell ⟨w.heap.size, 4, none⟩ (.int .i64 s')) (some ⟨w.heap.size, 0, none⟩) (icells [a', b', c', h', s'])) := by
      refine rule_rows5 ?_ ?_ ?_ ?_ ?_
      all_goals (go_simp)
    have HRr := Lib.hid (hRw.out.below HBr.out)
    obtain ⟨q0, q1, q2, q3, q4⟩ := rule_cells HXr.out
    go_wp2_with fail
    clear q0 q1 q2 q3 q4 k0 k1 k2 k3 k4 f0 f1 f2 f3 f4 HX1 HX2 HX3 HR1 HR2 HR3 HB1 HB2 HB3 HF1 HF2 HF3 HSh HD HX HR
    obtain ⟨wr, hwr⟩ : ∃ wr, ((((w3.setCell ⟨w.heap.size, 0, none⟩ (.int .i64 a')).setCell ⟨w.heap.size, 1, none⟩ (.int .i64 b')).setCell ⟨w.heap.size, 2, none⟩ (.int .i64 c')).setCell ⟨w.heap.size, 3, none⟩ (.int .i64 h')).setCell ⟨w.heap.size, 4, none⟩ (.int .i64 s') = wr := ⟨_, rfl⟩
    have hsz3 : w3.heap.size = wr.heap.size := by rw [← hwr]; simp [World.setCell]
    rw [hwr] at HBr HXr HRr ⊢
    rw [hsz3]
    clear hsz3
    clear hwr
  all_goals
    have HX5 := Lib.hid (HXr.out.alloc (.cells #[.int .i64 a', .int .i64 b', .int .i64 c', .int .i64 h', .int .i64 s'] 58))
    have HY5 := Lib.hid (rowAt_alloc wr (icells [a', b', c', h', s']) 58)
    have HR5 := Lib.hid (HRr.out.alloc (.cells #[.int .i64 a', .int .i64 b', .int .i64 c', .int .i64 h', .int .i64 s'] 58))
    have HB5 := Lib.hid (HBr.out.alloc HBr.out.size (.cells #[.int .i64 a', .int .i64 b', .int .i64 c', .int .i64 h', .int .i64 s'] 58))
    refine (lentTexts_calls A cp l _ (by omega) HR5.out).mono ?_
    rintro e w5 ⟨gm, cpm, rfl, hcpm, hrm, hb5⟩
    have HX6 := Lib.hid (HX5.out.below hb5)
    have HY6 := Lib.hid (HY5.out.below hb5)
    have HR6 := Lib.hid (HR5.out.below hb5)
    have HB6 := Lib.hid (below_trans' HB5.out hb5)
    have HM6 := Lib.hid hrm
    have hz6 : w.heap.size < wr.heap.size := by obtain ⟨_, _, e, hh, _⟩ := HXr.out.addr (by simp [icells]); injection e with e; injection e with e; omega
    clear hb5 hrm HX5 HY5 HR5 HB5 HXr HRr HBr
    go_wp2_with fail
    refine (join_calls A cp l _ (by omega) (by omega) HR6.out).mono ?_
    rintro e _ ⟨rfl, rfl⟩
    rw [HJ.out]
    go_upto_region 4 with fail
    have hrep : (Array.replicate 16 (Value.slice none 0 0)) = #[.slice none 0 0, .slice none 0 0, .slice none 0 0, .slice none 0 0, .slice none 0 0, .slice none 0 0, .slice none 0 0, .slice none 0 0, .slice none 0 0, .slice none 0 0, .slice none 0 0, .slice none 0 0, .slice none 0 0, .slice none 0 0, .slice none 0 0, .slice none 0 0] := rfl
    have HBk := Lib.hid (bookNew w5 w5.heap.size (Nat.le_refl _) 36)
    have HB0 := Lib.hid ((Below.refl w5.heap.size w5).alloc (Nat.le_refl _) (.cells (Array.replicate 16 (.slice none 0 0)) 36))
    have hbs : (w5.alloc (.cells (Array.replicate 16 (.slice none 0 0)) 36)).heap.size = w5.heap.size + 1 := World.size_alloc _ _
    rw [hrep] at HBk HB0 hbs
    obtain ⟨wb, hwb⟩ : ∃ wb, w5.alloc (.cells #[.slice none 0 0, .slice none 0 0, .slice none 0 0, .slice none 0 0, .slice none 0 0, .slice none 0 0, .slice none 0 0, .slice none 0 0, .slice none 0 0, .slice none 0 0, .slice none 0 0, .slice none 0 0, .slice none 0 0, .slice none 0 0, .slice none 0 0, .slice none 0 0] 36) = wb := ⟨_, rfl⟩
    rw [hwb] at HBk HB0 hbs
    have HBs := Lib.hid hbs
    clear hrep hbs
    have HK5 : Hid (∀ w', Below w5.heap.size w5 w' → (w'.cell? ⟨w.heap.size, 0, none⟩ = some (.int .i64 a') ∧ w'.cell? ⟨w.heap.size, 1, none⟩ = some (.int .i64 b') ∧ w'.cell? ⟨w.heap.size, 2, none⟩ = some (.int .i64 c') ∧ w'.cell? ⟨w.heap.size, 3, none⟩ = some (.int .i64 h') ∧ w'.cell? ⟨w.heap.size, 4, none⟩ = some (.int .i64 s'))) := fun W hb => rule_cells (HX6.out.below hb)
    have HK10 : Hid (∀ w', Below w5.heap.size w5 w' → (w'.cell? ⟨w.heap.size, 0, none⟩ = some (.int .i64 a') ∧ w'.cell? ⟨w.heap.size, 1, none⟩ = some (.int .i64 b') ∧ w'.cell? ⟨w.heap.size, 2, none⟩ = some (.int .i64 c') ∧ w'.cell? ⟨w.heap.size, 3, none⟩ = some (.int .i64 h') ∧ w'.cell? ⟨w.heap.size, 4, none⟩ = some (.int .i64 s') ∧ w'.cell? ⟨wr.heap.size, 0, none⟩ = some (.int .i64 a') ∧ w'.cell? ⟨wr.heap.size, 1, none⟩ = some (.int .i64 b') ∧ w'.cell? ⟨wr.heap.size, 2, none⟩ = some (.int .i64 c') ∧ w'.cell? ⟨wr.heap.size, 3, none⟩ = some (.int .i64 h') ∧ w'.cell? ⟨wr.heap.size, 4, none⟩ = some (.int .i64 s'))) := fun W hb => by
      obtain ⟨x0, x1, x2, x3, x4⟩ := rule_cells (HX6.out.below hb)
      obtain ⟨y0, y1, y2, y3, y4⟩ := rule_cells (HY6.out.below hb)
      exact ⟨x0, x1, x2, x3, x4, y0, y1, y2, y3, y4⟩
    trace_state
    go_cut [11, 12] (fun v1 v2 wx => ∃ A1 c1 A2 c2, v1 = .slice A1 N c1 ∧ v2 = .slice A2 N c2 ∧ Hid (Own wx wb.heap.size 2 (.slice A1 N c1) N (pcells cl)) ∧ Hid (Own wx wb.heap.size 2 (.slice A2 N c2) N (pcells cl)) ∧ Hid (∀ b, (Value.slice A1 N c1).ownBlock = some b → (Value.slice A2 N c2).ownBlock ≠ some b) ∧ Hid (Below wb.heap.size wb wx))
    case first =>
      rw [hwb]
      have HPz := Lib.hid (below_drew' (Below.refl wb.heap.size wb))
      go_region_held3 (fun w' => w'.cell? ⟨w.heap.size, 0, none⟩ = some (.int .i64 a') ∧ w'.cell? ⟨w.heap.size, 1, none⟩ = some (.int .i64 b') ∧ w'.cell? ⟨w.heap.size, 2, none⟩ = some (.int .i64 c') ∧ w'.cell? ⟨w.heap.size, 3, none⟩ = some (.int .i64 h') ∧ w'.cell? ⟨w.heap.size, 4, none⟩ = some (.int .i64 s')) (first | exact HK5.out _ HB0.out | exact HK5.out _ (below_drew' HB0.out) | exact HK5.out _ (bel_alloc HB0.out _) | exact HK5.out _ (below_drew' (bel_alloc HB0.out _)) | exact HK5.out _ (bel_alloc (below_drew' HB0.out) _) | exact HK5.out _ (HB0.out.trans (HW5.out.mono HB0.out.size)) | exact HK5.out _ (HB0.out.trans (HW4.out.mono HB0.out.size)) | exact HK5.out _ (bel_alloc (HB0.out.trans (HW4.out.mono HB0.out.size)) _))
        (first
          | (go_at_call 29; have HGate := HW4.out; clear HGate; refine Calls.mono (HC2.out _ _ (by first | exact (row_last' _ _ _ _ rfl).below HPre.out | exact (row_drew2 (row_last' _ _ _ _ (by rfl))).below HPre.out | exact (row_last' _ _ _ _ (by rfl)).below HPre.out | exact row_last' _ _ _ _ rfl | exact (row_drew2 (row_last' _ _ _ _ rfl)).below HPre.out | exact row_last' _ _ _ _ (by simp))) ?_; rintro e wy ⟨v2, rfl, hown2, hb7⟩; obtain ⟨A2, c2, rfl, _, _, _⟩ := hown2.slice; have HW5 : Hid (Below wb.heap.size wb wy) := (by first | exact below_trans' HW4.out hb7 | exact below_trans' (HW4.out.alloc HW4.out.size _) hb7); have HO2 : Hid (Own wy wb.heap.size 2 (.slice A2 N c2) N (pcells cl)) := hown2.weaken (by have := HW4.out.size; (try simp); omega); have HO3 : Hid (Own wy wb.heap.size 2 (.slice A1 N c1) N (pcells cl)) := (by first | exact HO1.out.below hb7 | exact (HO1.out.alloc _).below hb7); have HDJ : Hid (∀ b, (Value.slice A1 N c1).ownBlock = some b → (Value.slice A2 N c2).ownBlock ≠ some b) := (fun b hb e => by have := (HO1.out.lt b hb).2; have := (hown2.lt b e).1; (try simp at this); omega); clear hown2 hb7)
          | (go_at_call 29; have HGb := HPz.out; refine Calls.mono (HC1.out _ _ _ (by omega) (by first | exact ((HM6.out.left.below HB0.out)) | exact row_drew2 ((HM6.out.left.below HB0.out)) | exact row_drew2 ((HM6.out.left.below HB0.out).alloc _))) ?_; rintro e wy ⟨v1, rfl, hown1, hb7⟩; obtain ⟨A1, c1, rfl, _, _, _⟩ := hown1.slice; have HPre := Lib.hid hb7; have HW4 : Hid (Below wb.heap.size wb wy) := (by first | exact hb7 | exact below_trans' HPz.out hb7 | exact below_trans' (below_drew' ((Below.refl wb.heap.size wb).alloc (Nat.le_refl _) _)) hb7); have HO1 : Hid (Own wy wb.heap.size 2 (.slice A1 N c1) N (pcells cl)) := hown1.weaken (by first | exact Nat.le_refl _ | (simp; done) | (simp; omega)); clear hown1 hb7 HPz HGb))
      all_goals
        go_wp2_with fail
        go_meet
        exact ⟨A1, c1, A2, c2, rfl, rfl, HO3.out, HO2.out, HDJ.out, HW5.out⟩
    case rest =>
      obtain ⟨A1, c1, A2, c2, rfl, rfl, HO1, HO2, HDJ, HW0⟩ := hcut
      have HBk1 := Lib.hid (HBk.out.below HW0.out)
      have HBc := Lib.hid (HB0.out.trans (HW0.out.mono HB0.out.size))
      go_wp2_with fail
      refine (bookSpans_calls w5.heap.size w5.heap.size _ _ [] [] [] A1 N c1 cl wc (by simp) (by omega) HBk1.out (HO1.out.weaken (by have := HBs.out; omega)) (fun b hb => ⟨by have := (HO1.out.lt b hb).1; have := HBs.out; omega, by simp [Value.ownBlock], by simp [Value.ownBlock], by simp⟩)).mono ?_
      rintro e w11 ⟨rfl, hto⟩
      obtain ⟨S1, T1, u1, hbk1, hS1, hT1, hu1⟩ := hto.ex
      have HTc : Hid (Touched wc w11 [w5.heap.size]) := by rw [Hid]; have := hto.touched; simpa [Value.ownBlock] using this
      have HO2b : Hid (Own w11 wb.heap.size 2 (.slice A2 N c2) N (pcells cl)) := HTc.out.own HO2.out (fun b hb hm => by simp at hm; have := (HO2.out.lt b hb).1; have := HBs.out; omega)
      have HBk11 := Lib.hid hbk1
      have HB11 : Hid (Below w5.heap.size w5 w11) := HTc.out.below HBc.out (by have := HBc.out.size; omega) (by simp)
      have HSc : Hid ((∀ b, S1.ownBlock = some b → wc.heap.size ≤ b) ∧ ∀ b, T1.ownBlock = some b → wc.heap.size ≤ b) := ⟨fun b hb => (hS1 b hb).resolve_left (by simp [Value.ownBlock]), fun b hb => (hT1 b hb).resolve_left (by simp [Value.ownBlock])⟩
      clear hto hbk1 hS1 hT1 hu1
      go_wp2_with fail
      refine (bookSpans_calls w5.heap.size w5.heap.size S1 T1 _ _ _ A2 N c2 cl w11 (by simp) (by omega) HBk11.out (HO2b.out.weaken (by have := HBs.out; omega)) (fun b hb => ⟨by have := (HO2.out.lt b hb).1; have := HBs.out; omega, fun e => by have := HSc.out.1 b e; have := (HO2.out.lt b hb).2; omega, fun e => by have := HSc.out.2 b e; have := (HO2.out.lt b hb).2; omega, by intro v hv e; simp at hv; subst hv; exact HDJ.out b e hb⟩)).mono ?_
      rintro e w13 ⟨rfl, hto⟩
      obtain ⟨S2, T2, u2, hbk2, _, _, _⟩ := hto.ex
      have HB13 : Hid (Below w5.heap.size w5 w13) := hto.touched.below HB11.out (by have := HB11.out.size; omega) (by
        have := HBc.out.size
        intro k hk
        simp at hk
        rcases hk with rfl | hk | hk
        · exact Nat.le_refl _
        · have := HSc.out.1 k hk; omega
        · have := HSc.out.2 k hk; omega)
      have HA1 : Hid (RowAt w13 A1 (pcells cl)) := by
        obtain ⟨_, v, hv, ho, _⟩ := hbk2.hv 0 cl (by simp)
        simp at hv
        subst hv
        obtain ⟨_, _, e, _, hr, _⟩ := ho.slice
        injection e with e
        rw [Hid, e]; exact hr
      have HA2 : Hid (RowAt w13 A2 (pcells cl)) := by
        obtain ⟨_, v, hv, ho, _⟩ := hbk2.hv 1 cl (by simp)
        simp at hv
        subst hv
        obtain ⟨_, _, e, _, hr, _⟩ := ho.slice
        injection e with e
        rw [Hid, e]; exact hr
      have HBk13 := Lib.hid hbk2
      clear hto hbk2
      obtain ⟨x0, x1, x2, x3, x4, y0, y1, y2, y3, y4⟩ := HK10.out _ HB13.out
      go_wp2_with fail
      refine Calls.mono (HC3.out _) ?_
      rintro e w14 ⟨v3, rfl, hown3, hb14⟩
      obtain ⟨A3, c3, rfl, _, hr3, _⟩ := hown3.slice
      have HA3 := Lib.hid hr3
      replace HA1 := Lib.hid (HA1.out.below hb14)
      replace HA2 := Lib.hid (HA2.out.below hb14)
      have HBk14 := Lib.hid (HBk13.out.below hb14)
      have HB14 := Lib.hid (HB13.out.trans (hb14.mono HB13.out.size))
      have P14 := Lib.hid (below_drew' (Below.refl w14.heap.size w14))
      have HLM : Hid (∀ l ∈ (([] ++ [cl]) ++ [cl] : List (List (Int × Int))), l.length ≤ 100000) := by intro l hl; simp at hl; subst hl; have := HNl.out; omega
      have HSt : Hid (∀ W, Below w5.heap.size w5 W → Calls Try.prog 24 #[.slice (some ⟨gm, 0, none⟩) l.length cpm, .slice A l.length cp] W fun e w' => e = .returned (.bool true) ∧ Below W.heap.size W w') := fun W hb => by
        have hh := staysTexts_calls (some ⟨gm, 0, none⟩) A cpm cp l l markB W (by omega) (by omega) (HM6.out.below hb) (HR6.out.below hb)
        simpa using hh
      clear hown3 hr3 hb14 x0 x1 x2 x3 x4 y0 y1 y2 y3 y4
      go_wp2_with fail
      go_region_held3 (fun w' => w'.cell? ⟨w.heap.size, 0, none⟩ = some (.int .i64 a') ∧ w'.cell? ⟨w.heap.size, 1, none⟩ = some (.int .i64 b') ∧ w'.cell? ⟨w.heap.size, 2, none⟩ = some (.int .i64 c') ∧ w'.cell? ⟨w.heap.size, 3, none⟩ = some (.int .i64 h') ∧ w'.cell? ⟨w.heap.size, 4, none⟩ = some (.int .i64 s') ∧ w'.cell? ⟨wr.heap.size, 0, none⟩ = some (.int .i64 a') ∧ w'.cell? ⟨wr.heap.size, 1, none⟩ = some (.int .i64 b') ∧ w'.cell? ⟨wr.heap.size, 2, none⟩ = some (.int .i64 c') ∧ w'.cell? ⟨wr.heap.size, 3, none⟩ = some (.int .i64 h') ∧ w'.cell? ⟨wr.heap.size, 4, none⟩ = some (.int .i64 s')) (first | exact HK10.out _ HB22.out | exact HK10.out _ (HB14.out.trans (P21.out.mono HB14.out.size)) | exact HK10.out _ (below_drew' (HB14.out.trans (P21.out.mono HB14.out.size))) | exact HK10.out _ (HB14.out.trans (P20.out.mono HB14.out.size)) | exact HK10.out _ (below_drew' (HB14.out.trans (P20.out.mono HB14.out.size))) | exact HK10.out _ (HB14.out.trans (P19.out.mono HB14.out.size)) | exact HK10.out _ (below_drew' (HB14.out.trans (P19.out.mono HB14.out.size))) | exact HK10.out _ (HB14.out.trans (P18.out.mono HB14.out.size)) | exact HK10.out _ (below_drew' (HB14.out.trans (P18.out.mono HB14.out.size))) | exact HK10.out _ (HB14.out.trans (P17.out.mono HB14.out.size)) | exact HK10.out _ (below_drew' (HB14.out.trans (P17.out.mono HB14.out.size))) | exact HK10.out _ (HB14.out.trans (P16.out.mono HB14.out.size)) | exact HK10.out _ (below_drew' (HB14.out.trans (P16.out.mono HB14.out.size))) | exact HK10.out _ (HB14.out.trans (P15.out.mono HB14.out.size)) | exact HK10.out _ (below_drew' (HB14.out.trans (P15.out.mono HB14.out.size))) | exact HK10.out _ HB14.out | exact HK10.out _ (below_drew' HB14.out))
        (first
          | (go_at_call 31; refine Calls.mono (HV1.out _) ?_; rintro e w15 ⟨rfl, hq⟩; have P15 : Hid (Below w14.heap.size w14 w15) := below_trans' P14.out hq; clear hq)
          | (go_at_call 32; refine Calls.mono (HV2.out _) ?_; rintro e w16 ⟨rfl, hq⟩; have P16 : Hid (Below w14.heap.size w14 w16) := below_trans' P15.out hq; clear hq)
          | (go_at_call 33; refine Calls.mono (HFi1.out _) ?_; rintro e w17 ⟨rfl, hq⟩; have P17 : Hid (Below w14.heap.size w14 w17) := below_trans' P16.out hq; clear hq)
          | (go_at_call 34; refine Calls.mono (HFi2.out _) ?_; rintro e w18 ⟨rfl, hq⟩; have P18 : Hid (Below w14.heap.size w14 w18) := below_trans' P17.out hq; clear hq)
          | (go_at_call 18; have HGate := P19.out; clear HGate; refine Calls.mono (HSS.out A2 A3 _ _ _ (HA2.out.below P19.out) (HA3.out.below P19.out)) ?_; rintro e w20 ⟨rfl, hq⟩; have P20 : Hid (Below w14.heap.size w14 w20) := below_trans' P19.out hq; clear hq)
          | (go_at_call 18; have HGate := P18.out; clear HGate; refine Calls.mono (HSS.out A1 A3 _ _ _ (HA1.out.below P18.out) (HA3.out.below P18.out)) ?_; rintro e w19 ⟨rfl, hq⟩; have P19 : Hid (Below w14.heap.size w14 w19) := below_trans' P18.out hq; clear hq)
          | (go_at_call 24; refine Calls.mono (HSt.out _ (HB14.out.trans (P20.out.mono HB14.out.size))) ?_; rintro e w21 ⟨rfl, hq⟩; have P21 : Hid (Below w14.heap.size w14 w21) := below_trans' P20.out hq; clear hq)
          | (go_at_call 26; refine Calls.mono (apart_calls w5.heap.size w5.heap.size S2 T2 _ _ _ _ (by simp) HLM.out (HBk14.out.below P21.out)) ?_; rintro e w22 ⟨rfl, hq⟩; have HB22 : Hid (Below w5.heap.size w5 w22) := hq.below (HB14.out.trans (P21.out.mono HB14.out.size)) (by have := HB14.out.size; have := P21.out.size; omega) (by intro k hk; obtain ⟨v, hv, e⟩ := mem_vblocks.1 hk; have := HBs.out; simp at hv; rcases hv with rfl | rfl; exact (by have := (HO1.out.lt k e).1; omega); exact (by have := (HO2.out.lt k e).1; omega)); clear hq))
      all_goals
        go_wp2
        go_ret
        exact ⟨rfl, HB6.out.trans (HB22.out.mono HB6.out.size)⟩
end Go.Proofs.Ytkhfecgmkhjpiaa
