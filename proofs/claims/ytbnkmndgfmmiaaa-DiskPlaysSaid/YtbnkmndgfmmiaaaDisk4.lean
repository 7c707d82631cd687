/- The disk: sectors are written, one is read; all is made safe; the power comes again; the power is to go. -/
import Derived.Test.YtbnkmndgfmmiaaaDisk3
namespace Go.Proofs.Ytbnkmndgfmmiaaa
open Go.RowKit
set_option linter.unusedVariables false

theorem DiskStep.trans {w w1 w2 : World} {g bl bs bl1 bs1 : Nat} {V V1 : Value} {K K1 : Option Addr} {D' : DSt}
    (e1 : bl1 = bl ∨ bl1 = bs ∨ w.heap.size ≤ bl1) (e2 : bs1 = bs ∨ bs1 = bl ∨ w.heap.size ≤ bs1) (e3 : ∀ b, V1.ownBlock = some b → V.ownBlock = some b ∨ w.heap.size ≤ b) (e4 : ∀ b, K1 = some ⟨b, 0, none⟩ → K = some ⟨b, 0, none⟩ ∨ w.heap.size ≤ b)
    (hT : Touched w w1 (g :: bl :: bs :: V.ownBlock.toList)) (h : DiskStep w1 w2 g bl1 bs1 V1 K1 D') : DiskStep w w2 g bl bs V K D' := by
  obtain ⟨⟨bl', cl', bs', cs', V', K', kc', h1, h2, h3, h4, h5⟩, h6⟩ := h
  have hsz := hT.size
  refine ⟨⟨bl', cl', bs', cs', V', K', kc', h1, ?_, ?_, ?_, ?_⟩, hT.trans' h6 ?_⟩
  · omega
  · omega
  · intro b hb
    rcases h4 b hb with h | h
    · exact e3 b h
    · exact .inr (Nat.le_trans hsz h)
  · intro b hb
    rcases h5 b hb with h | h
    · exact e4 b h
    · exact .inr (Nat.le_trans hsz h)
  · intro j hj
    simp only [List.mem_cons] at hj ⊢
    rcases hj with h | h | h | h
    · exact .inl (.inl h)
    · omega
    · omega
    · rcases e3 j (by simpa using h) with h | h
      · exact .inl (.inr (.inr (.inr (by simp [h]))))
      · exact .inr h

theorem crashD_room (D : DSt) (k : List Int) : (crashD D k).1.ws.length + (crashD D k).1.many ≤ D.ws.length + D.many := by
  unfold crashD; split <;> simp
theorem crashD_arm (D : DSt) (k : List Int) (h : D.off = false) : (crashD D k).1.armed = false := by
  unfold crashD; rw [if_neg (by simp [h])]
theorem goesD_off (D : DSt) : (goesD D).1.off = D.off := by unfold goesD; split <;> rfl
theorem writeD_room (D : DSt) (x : Int) (d : ByteArray) : (writeD D x d).1.ws.length + (writeD D x d).1.many ≤ D.ws.length + D.many + 2 := by
  unfold writeD
  split
  · simp
  · split
    · simp
    · have key : ∀ E : DSt, (goesD E).1.ws.length + (goesD E).1.many = E.ws.length + E.many := by intro E; unfold goesD; split <;> rfl
      have h1 := key { D with l := D.l.set x.toNat d, ws := D.ws ++ [(x, d)], many := D.many + 1 }
      have h2 := crashD_room (goesD { D with l := D.l.set x.toNat d, ws := D.ws ++ [(x, d)], many := D.many + 1 }).1 (goesD { D with l := D.l.set x.toNat d, ws := D.ws ++ [(x, d)], many := D.many + 1 }).1.keep
      simp only [List.length_append, List.length_singleton] at h1
      dsimp only
      split <;> dsimp only <;> omega
theorem writeD_arm (D : DSt) (x : Int) (d : ByteArray) (h : D.armed = true → 0 ≤ D.left) : (writeD D x d).1.armed = true → 0 ≤ (writeD D x d).1.left := by
  unfold writeD
  split
  · exact h
  · rename_i hm
    split
    · exact h
    · have hoff : D.off = false := by
        have hm' : mayE D x = 0 := by simpa using hm
        unfold mayE at hm'
        split at hm'
        · cases hm'
        · rename_i h; simpa using h
      dsimp only
      split
      · intro ha
        rw [crashD_arm _ _ (by rw [goesD_off]; exact hoff)] at ha
        cases ha
      · rename_i hg
        intro ha
        unfold goesD at ha hg ⊢
        split at hg
        · rename_i h5
          rw [if_pos h5]
          simp at hg
          simpa using hg
        · rename_i h5
          rw [if_neg h5] at ha
          exact absurd ha h5

def writesL : List (Int × ByteArray) → DSt → DSt × Int
  | [], D => (D, 0)
  | p :: r, D => if (writeD D p.1 p.2).2 ≠ 0 then writeD D p.1 p.2 else writesL r (writeD D p.1 p.2).1
def writesD (D : DSt) (l : List (Int × ByteArray)) : DSt × Int := if D.off = true then (D, 14) else writesL l D

section
variable {w : World} {g bl cl bs cs : Nat} {V : Value} {K : Option Addr} {kc : Nat} {D : DSt}
set_option maxHeartbeats 3200000 in
set_option maxRecDepth 100000 in
theorem diskWrite_calls (a : DiskAt w g bl cl bs cs V K kc D) (harm : D.armed = true → 0 ≤ D.left) (A : Option Addr) (n c : Nat) (l : List (Int × ByteArray)) (hl : l.length = n) (hroom : D.ws.length + D.many + 2 * n ≤ 1000000000)
    (hR : ∀ w', Touched w w' (g :: bl :: bs :: V.ownBlock.toList) → RowAt w' A (dcells l)) :
    Calls Try.prog 14 #[.pointer (some ⟨g, 0, none⟩), .slice A n c] w fun e w' => e = .returned (.int .i64 (writesD D l).2) ∧ DiskStep w w' g bl bs V K (writesD D l).1 := by
  subst hl
  have HO : Box _ := ⟨diskOn_calls a⟩
  have HA : Box _ := ⟨a⟩
  have HR : Box _ := ⟨hR⟩
  clear hR
  by_cases h1 : D.off = true
  · have e : writesD D l = (D, 14) := by rw [writesD, if_pos h1]
    rw [e]
    rw [h1] at HO
    clear a h1 e
    go_enter Try.func14, Try.ntmps14
    go_wp2_with fail
    refine HO.out.mono ?_
    rintro e w1 ⟨rfl, rfl⟩
    go_wp2
    go_ret
    exact ⟨rfl, DiskStep.of HA.out (Touched.refl _ _) (fun _ h => .inl h)⟩
  have h1' : D.off = false := by simpa using h1
  have e : writesD D l = writesL l D := by rw [writesD, if_neg h1]
  rw [h1'] at HO
  rw [e]
  have HH : Box _ := ⟨harm⟩
  have hll : l.length ≤ 1000000000 := by omega
  have HRM : Box _ := ⟨hroom⟩
  clear a h1 h1' e harm hroom
  go_enter Try.func14, Try.ntmps14
  go_wp2_with fail
  refine HO.out.mono ?_
  rintro e w1 ⟨rfl, rfl⟩
  go_wp2_with fail
  go_loopw [13] (fun i wr => ∃ (k : Nat) (E : DSt), k ≤ l.length ∧ i = .int .i64 (k : Int) ∧ Box (writesL l D = writesL (l.drop k) E) ∧ Box (DiskStep w wr g bl bs V K E) ∧ Box (E.armed = true → 0 ≤ E.left) ∧ Box (E.ws.length + E.many + 2 * (l.length - k) ≤ 1000000000)) (fun i _ => l.length - (intOf i).toNat)
  case atStart => exact ⟨0, D, by omega, rfl, ⟨rfl⟩, ⟨DiskStep.of HA.out (Touched.refl _ _) (fun _ h => .inl h)⟩, HH, HRM⟩
  case round =>
    obtain ⟨k, E, hk, rfl, HE, HS, HH, HRM⟩ := hrel
    by_cases hlt : k < l.length
    · obtain ⟨p, hp⟩ := some_at hlt
      obtain ⟨⟨bl1, cl1, bs1, cs1, V1, K1, kc1, a1, s1, s2, s3, s4⟩, hT1⟩ := HS.out
      obtain ⟨b, o, rfl, hb, hrow⟩ := (HR.out _ hT1).addr (by intro e; have := (dcells_at hp).1; rw [e] at this; simp at this)
      have d1 := hrow _ _ (dcells_at hp).1
      have d2 := hrow _ _ (dcells_at hp).2
      rw [← Nat.add_assoc] at d2
      obtain ⟨p1, p2⟩ := p
      have HD : Box (writesL (l.drop k) E = if (writeD E p1 p2).2 ≠ 0 then writeD E p1 p2 else writesL (l.drop (k + 1)) (writeD E p1 p2).1) := ⟨by
        have h2 := (List.getElem?_eq_some_iff.1 hp).2
        rw [List.drop_eq_getElem_cons hlt, h2, writesL]⟩
      have hr2 := writeD_room E p1 p2
      have ha2 := writeD_arm E p1 p2 HH.out
      have hrm := HRM.out
      have HW : Box (∀ o1 o2, Calls Try.prog 37 #[.pointer (some ⟨g, 0, none⟩), .agg #[.int .i64 p1, .string p2]] ((wr.alloc o1).alloc o2) fun e w' => e = .returned (.int .i64 (writeD E p1 p2).2) ∧ DiskStep ((wr.alloc o1).alloc o2) w' g bl1 bs1 V1 K1 (writeD E p1 p2).1) := ⟨fun o1 o2 => diskWrite1_calls ((a1.below ((Below.refl _ _).alloc (Nat.le_refl _) o1)).below ((Below.refl _ _).alloc (Nat.le_refl _) o2)) HH.out p1 p2 (by omega)⟩
      have HW1 : Box (∀ o1, Calls Try.prog 37 #[.pointer (some ⟨g, 0, none⟩), .agg #[.int .i64 p1, .string p2]] (wr.alloc o1) fun e w' => e = .returned (.int .i64 (writeD E p1 p2).2) ∧ DiskStep (wr.alloc o1) w' g bl1 bs1 V1 K1 (writeD E p1 p2).1) := ⟨fun o1 => diskWrite1_calls (a1.below ((Below.refl _ _).alloc (Nat.le_refl _) o1)) HH.out p1 p2 (by omega)⟩
      have HX : Box _ := ⟨And.intro s1 (And.intro s2 (And.intro s3 (And.intro s4 hT1)))⟩
      clear hp s1 s2 s3 s4 hT1 hrow a1
      obtain ⟨F, hF⟩ : ∃ F, writeD E p1 p2 = F := ⟨_, rfl⟩
      rw [hF] at HD HW1 hr2 ha2
      have HH2 : Box _ := ⟨ha2⟩
      clear hF HW ha2
      by_cases hz : F.2 = 0
      · rw [if_neg (by simp [hz])] at HD
        rw [hz] at HW1
        clear hz
        go_wp2_with fail
        refine (HW1.out _).mono ?_
        rintro e w2 ⟨rfl, hs2⟩
        have HS2 : Box (DiskStep w w2 g bl bs V K F.1) := ⟨DiskStep.trans HX.out.1 HX.out.2.1 HX.out.2.2.1 HX.out.2.2.2.1 HX.out.2.2.2.2 (DiskStep.after ((Touched.refl wr _).alloc _) (fun _ h => .inl h) hs2)⟩
        clear hs2
        go_wp2_with fail
        go_roundw
        case rel => exact ⟨k + 1, F.1, by omega, by go_num, ⟨HE.out.trans HD.out⟩, HS2, HH2, ⟨by omega⟩⟩
        case measure => simp [intOf]; omega
      · rw [if_pos hz] at HD
        obtain ⟨r, hr⟩ : ∃ r, F.2 = r := ⟨_, rfl⟩
        have HRR : Box _ := ⟨hr⟩
        rw [hr] at hz HW1
        have hz' : (r == 0) = false := by simpa using hz
        clear hz hr
        go_wp2_with fail
        refine (HW1.out _).mono ?_
        rintro e w2 ⟨rfl, hs2⟩
        have HS2 : Box (DiskStep w w2 g bl bs V K F.1) := ⟨DiskStep.trans HX.out.1 HX.out.2.1 HX.out.2.2.1 HX.out.2.2.2.1 HX.out.2.2.2.2 (DiskStep.after ((Touched.refl wr _).alloc _) (fun _ h => .inl h) hs2)⟩
        clear hs2
        go_wp2_with fail
        go_ret
        rw [HE.out, HD.out, HRR.out]
        exact ⟨rfl, HS2.out⟩
    · obtain rfl : k = l.length := by omega
      rw [List.drop_eq_nil_of_le (Nat.le_refl _), writesL] at HE
      go_wp2
      go_ret
      rw [HE.out]
      exact ⟨rfl, HS.out⟩
end
end Go.Proofs.Ytbnkmndgfmmiaaa
