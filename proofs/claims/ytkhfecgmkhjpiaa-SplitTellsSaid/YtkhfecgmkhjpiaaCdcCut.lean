/- Cuts: the list of spans; what Cut computes. -/
import Derived.Test.YtkhfecgmkhjpiaaCdc
import Derived.Deep.RegionHeld3
namespace Go.Proofs.Ytkhfecgmkhjpiaa
open Go.RowKit
set_option linter.unusedVariables false
attribute [local go_sem] max2_int min2_int max_two min_two

theorem firstGo_le (b h s : Int) (r : List UInt8) : ∀ (k : Nat) (x : Int), firstGo b h s k x r ≤ k + r.length := by
  induction r with
  | nil => intro k x; simp [firstGo]
  | cons y r ih =>
    intro k x
    rw [firstGo]
    split
    · simp
    · have := ih (k + 1) (roll1 x y); simp; omega
theorem firstGo_ge (b h s : Int) (r : List UInt8) : ∀ (k : Nat) (x : Int), k ≤ firstGo b h s k x r := by
  induction r with
  | nil => intro k x; simp [firstGo]
  | cons y r ih =>
    intro k x
    rw [firstGo]
    split
    · omega
    · have := ih (k + 1) (roll1 x y); omega
theorem valid_bounds {a b c h s : Int} (hv : validB a b c h s = true) : 1 ≤ a ∧ a ≤ b ∧ b ≤ c ∧ c ≤ 4096 := by
  simp [validB] at hv; omega
theorem firstN_le (a b c h s : Int) (l : List UInt8) : firstN a b c h s l ≤ l.length := by
  unfold firstN
  split
  · rename_i hc
    have hv := valid_bounds hc.1
    have := firstGo_le b h s ((l.take c.toNat).drop a.toNat) a.toNat 0
    rw [List.length_drop, List.length_take] at this
    omega
  · omega
theorem firstN_pos (a b c h s : Int) {l : List UInt8} (h0 : l ≠ []) : 1 ≤ firstN a b c h s l := by
  unfold firstN
  have := List.length_pos_iff.2 h0
  split
  · rename_i hc
    have hv := valid_bounds hc.1
    have := firstGo_ge b h s ((l.take c.toNat).drop a.toNat) a.toNat 0
    omega
  · omega

/-- A way to tell first pieces: at least one byte, and no more than there are. -/
structure Good (F : List UInt8 → Nat) : Prop where
  pos : ∀ l, l ≠ [] → 1 ≤ F l
  le : ∀ l, F l ≤ l.length
theorem good_first (a b c h s : Int) : Good (firstN a b c h s) := ⟨fun _ h0 => firstN_pos a b c h s h0, firstN_le a b c h s⟩

def cutGo (F : List UInt8 → Nat) : Nat → Nat → List UInt8 → List (Int × Int)
  | 0, _, _ => []
  | f + 1, k, l => if l = [] then [] else ((k : Int), ((k + F l : Nat) : Int)) :: cutGo F f (k + F l) (l.drop (F l))
/-- The pieces of a text, of which k bytes stand ahead. -/
def cutA (F : List UInt8 → Nat) (k : Nat) (l : List UInt8) : List (Int × Int) := cutGo F l.length k l
theorem cutGo_fuel {F : List UInt8 → Nat} (hF : Good F) : ∀ (f : Nat) (k : Nat) (l : List UInt8), l.length ≤ f → cutGo F f k l = cutGo F l.length k l := by
  intro f
  induction f using Nat.strongRecOn with
  | _ f ih =>
    intro k l hl
    cases f with
    | zero => obtain rfl : l = [] := List.eq_nil_of_length_eq_zero (by omega)
              rfl
    | succ f =>
      rcases Nat.lt_or_ge l.length (f + 1) with h | h
      · by_cases h0 : l = []
        · subst h0; simp [cutGo]
        · obtain ⟨m, hm⟩ : ∃ m, l.length = m + 1 := ⟨l.length - 1, by have := List.length_pos_iff.2 h0; omega⟩
          rw [hm, cutGo, cutGo, if_neg h0, if_neg h0]
          have h1 := hF.pos l h0
          have e1 := ih f (by omega) (k + F l) (l.drop (F l)) (by rw [List.length_drop]; omega)
          have e2 := ih m (by omega) (k + F l) (l.drop (F l)) (by rw [List.length_drop]; omega)
          rw [e1, e2]
      · rw [show l.length = f + 1 by omega]
theorem cutA_nil (F : List UInt8 → Nat) (k : Nat) : cutA F k [] = [] := rfl
theorem cutA_cons {F : List UInt8 → Nat} (hF : Good F) (k : Nat) {l : List UInt8} (h0 : l ≠ []) : cutA F k l = ((k : Int), ((k + F l : Nat) : Int)) :: cutA F (k + F l) (l.drop (F l)) := by
  obtain ⟨m, hm⟩ : ∃ m, l.length = m + 1 := ⟨l.length - 1, by have := List.length_pos_iff.2 h0; omega⟩
  have h1 := hF.pos l h0
  have h2 := hF.le l
  unfold cutA
  rw [hm, cutGo, if_neg h0, cutGo_fuel hF m _ _ (by rw [List.length_drop]; omega)]
theorem cutA_length {F : List UInt8 → Nat} (hF : Good F) : ∀ (n k : Nat) (l : List UInt8), l.length ≤ n → (cutA F k l).length ≤ l.length := by
  intro n
  induction n with
  | zero => intro k l hl; obtain rfl : l = [] := List.eq_nil_of_length_eq_zero (by omega); simp [cutA_nil]
  | succ n ih =>
    intro k l hl
    by_cases h0 : l = []
    · subst h0; simp [cutA_nil]
    · have h1 := hF.pos l h0
      have h2 := hF.le l
      have h3 := ih (k + F l) (l.drop (F l)) (by rw [List.length_drop]; omega)
      rw [List.length_drop] at h3
      rw [cutA_cons hF k h0, List.length_cons]
      omega

theorem extract_list (t : ByteArray) (p : Nat) : (t.extract p t.size).data.toList = t.data.toList.drop p := by
  rw [ByteArray.data_extract, Array.toList_extract, List.extract_eq_take_drop, List.take_of_length_le]
  rw [List.length_drop, data_length]; omega
theorem below_drew {B : Nat} {w W : World} (h : Below B w W) : Below B w W.drew := ⟨h.os, h.tape, h.output, h.size, h.block⟩

set_option maxHeartbeats 1600000 in
set_option maxRecDepth 100000 in
theorem cdcCut_calls (a b c h s : Int) (A : Option Addr) (n cp : Nat) (l : List ByteArray) (w : World) (hl : l.length = n) (hc : n ≤ cp) (hn : n ≤ 140737488355328) (hs : totalLen l ≤ 1000000) (hR : RowAt w A (scells l)) :
    Calls Try.prog 29 #[rule a b c h s, .slice A n cp] w fun e w' => ∃ v, e = .returned v ∧ Own w' w.heap.size 2 v (cutA (firstN a b c h s) 0 (joinB l).data.toList).length (pcells (cutA (firstN a b c h s) 0 (joinB l).data.toList)) ∧ Below w.heap.size w w' := by
  obtain ⟨t, ht⟩ : ∃ t, joinB l = t := ⟨_, rfl⟩
  have hts : t.size ≤ 1000000 := by have := joinB_size l; rw [ht] at this; omega
  obtain ⟨F, hFe⟩ : ∃ F, firstN a b c h s = F := ⟨_, rfl⟩
  have hF : Good F := by rw [← hFe]; exact good_first a b c h s
  rw [ht]
  have HC := Lib.hid (stringsJoin_calls A n cp l (w.alloc (.cells #[.int .i64 a, .int .i64 b, .int .i64 c, .int .i64 h, .int .i64 s] 56)) hl hc hn (by omega) (hR.alloc _))
  rw [ht] at HC
  have HF1 := Lib.hid (fun (u : ByteArray) (hu : u.size ≤ 1000000) (W : World) => first_calls a b c h s u W (by omega))
  rw [hFe] at HF1 ⊢
  have HF := Lib.hid hF; clear hF
  clear ht hR hFe
  go_enter Try.func29, Try.ntmps29
  go_wp2_with (go_at_call 81; refine Calls.mono HC.out ?_; rintro e w1 ⟨rfl, hb1⟩; have HB := Lib.hid (below_trans' ((Below.refl _ _).alloc (Nat.le_refl _) _) hb1); have HR := Lib.hid ((rowAt_alloc w (icells [a, b, c, h, s]) 56).below hb1); have hlt : w.heap.size < w1.heap.size := (by have := hb1.size; simp at this; omega); clear hb1)
  go_loopw [6, 7] (fun v x wr => ∃ k p : Nat, ∃ pre : List (Int × Int), p ≤ t.size ∧ k ≤ p ∧ x = .int .i64 p ∧ Hid (pre.length = k ∧ cutA F 0 t.data.toList = pre ++ cutA F p (t.data.toList.drop p)) ∧ Hid (Own wr w1.heap.size 2 v k (pcells pre)) ∧ Hid (Below w1.heap.size w1 wr)) (fun _ x _ => t.size - (intOf x).toNat)
  case atStart => exact ⟨0, 0, [], Nat.zero_le _, Nat.zero_le _, rfl, ⟨rfl, rfl⟩, Own.nil _ _ _, Below.refl _ _⟩
  case round =>
    obtain ⟨k, p, pre, hp, hkp, rfl, HK, HO, HW⟩ := hrel
    obtain ⟨q0, q1, q2, q3, q4⟩ := rule_cells (HR.out.below HW.out)
    by_cases hlt : p < t.size
    · have hne : t.data.toList.drop p ≠ [] := by
        intro e
        have := congrArg List.length e
        rw [List.length_drop, data_length] at this
        simp at this; omega
      have hq0 := HF.out.pos _ hne
      have hq1 := HF.out.le (t.data.toList.drop p)
      rw [List.length_drop, data_length] at hq1
      have hcons := cutA_cons HF.out p hne
      have hcall := HF1.out (t.extract p t.size) (by simp; omega)
      rw [extract_list] at hcall
      obtain ⟨q, hq⟩ : ∃ q : Nat, F (t.data.toList.drop p) = q := ⟨_, rfl⟩
      rw [hq] at hq0 hq1 hcons hcall
      have HCall := Lib.hid hcall
      have hpq : p + q ≤ t.size := by omega
      have HP : Hid (cutA F 0 t.data.toList = (pre ++ [((p : Int), ((p + q : Nat) : Int))]) ++ cutA F (p + q) (t.data.toList.drop (p + q))) := by
        rw [Hid, HK.out.2, hcons, List.drop_drop, List.append_assoc]; rfl
      clear hne hcons hcall hq
      have hw := IntWalk.i64_in ((p : Int) + q) (by omega)
      go_wp2_with fail
      go_region_held3 (fun w' => w'.cell? ⟨w.heap.size, 0, none⟩ = some (.int .i64 a) ∧ w'.cell? ⟨w.heap.size, 1, none⟩ = some (.int .i64 b) ∧ w'.cell? ⟨w.heap.size, 2, none⟩ = some (.int .i64 c) ∧ w'.cell? ⟨w.heap.size, 3, none⟩ = some (.int .i64 h) ∧ w'.cell? ⟨w.heap.size, 4, none⟩ = some (.int .i64 s)) (first | exact ⟨q0, q1, q2, q3, q4⟩ | exact ⟨r0, r1, r2, r3, r4⟩)
        (first | (go_at_call 33; refine Calls.mono (HCall.out _) ?_; rintro e w2 ⟨rfl, hb2⟩; have HW2 := Lib.hid (below_trans' (below_drew HW.out) hb2); have HO2 := Lib.hid (HO.out.below ((below_drew (Below.refl wr.heap.size wr)).trans hb2)); obtain ⟨r0, r1, r2, r3, r4⟩ := rule_cells (HR.out.below HW2.out); clear hb2))
      go_wp2_with (at_builtin; refine appO el_spans w1.heap.size rfl _ _ rfl rfl (HO2.out.alloc _) (news := [.int .i64 p, .int .i64 (p + q)]) rfl rfl (rowAt_alloc _ [.int .i64 p, .int .i64 (p + q)] _) (one_pair _ _) (by omega) (by have := HW2.out.size; simp; omega) ?_; intro v1 w3 hown1 hg1 _; have HO3 := Lib.hid hown1; have HB3 : Hid (Below w1.heap.size w1 w3) := Own.grown_below (HO2.out.alloc _) (HW2.out.alloc HW2.out.size _) hg1 (Nat.le_refl _); clear hown1 hg1)
      go_roundw
      case rel =>
        refine ⟨k + 1, p + q, pre ++ [((p : Int), ((p + q : Nat) : Int))], hpq, by omega, by go_num, ⟨by rw [List.length_append, HK.out.1]; rfl, HP.out⟩, ?_, HB3⟩
        have e := HO3.out
        rw [Hid, pcells_append]
        simpa [pcells] using e
      case measure => simp [intOf]; omega
    · go_wp2
      go_ret
      refine ⟨_, rfl, ?_, below_trans' HB.out HW.out⟩
      have e := HK.out.2
      rw [List.drop_eq_nil_of_le (by rw [data_length]; omega), cutA_nil, List.append_nil] at e
      rw [e, HK.out.1]
      exact HO.out.weaken (by omega)
end Go.Proofs.Ytkhfecgmkhjpiaa
