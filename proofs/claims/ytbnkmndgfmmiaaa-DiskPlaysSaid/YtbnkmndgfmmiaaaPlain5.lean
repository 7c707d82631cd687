/- The document's disk: a fresh one; a twin. -/
import Derived.Test.YtbnkmndgfmmiaaaPlain4
import Derived.Test.YtbnkmndgfmmiaaaDiskLaw0
namespace Go.Proofs.Ytbnkmndgfmmiaaa
open Go.RowKit
set_option linter.unusedVariables false

theorem repS_set (x : ByteArray) {k n : Nat} (h : k < n) : (scells (repS x k n)).set k (.string x) = scells (repS x (k + 1) n) := by
  apply List.ext_getElem?
  intro i
  have hl : ∀ k, k ≤ n → (scells (repS x k n)).length = n := by intro k hk; simp [scells, repS]; omega
  have at1 : ∀ k i, k ≤ n → i < n → (scells (repS x k n))[i]? = some (.string (if i < k then x else ByteArray.empty)) := by
    intro k i hk hi
    rw [scells, List.getElem?_map, repS]
    by_cases h : i < k
    · rw [List.getElem?_append_left (by simpa using h), List.getElem?_replicate, if_pos h, if_pos h]; rfl
    · rw [List.getElem?_append_right (by simp; omega), List.getElem?_replicate, if_pos (by simp; omega), if_neg h]; rfl
  by_cases hi : i < n
  · rw [List.getElem?_set, at1 (k + 1) i (by omega) hi]
    by_cases e : k = i
    · subst e
      rw [if_pos rfl, if_pos (by rw [hl k (by omega)]; exact h), if_pos (by omega)]
    · rw [if_neg e, at1 k i (by omega) hi]
      have : (i < k) ↔ (i < k + 1) := by omega
      simp [this]
  · rw [List.getElem?_eq_none (by rw [List.length_set, hl k (by omega)]; omega), List.getElem?_eq_none (by rw [hl (k + 1) (by omega)]; omega)]
theorem repS_zero (x : ByteArray) (n : Nat) : repS x 0 n = List.replicate n ByteArray.empty := by simp [repS]
theorem repS_full (x : ByteArray) (n : Nat) : repS x n n = List.replicate n x := by simp [repS]
theorem repS_own (W : World) (n : Nat) (hn : n ≤ maxLen) : Own (W.alloc (.cells (scells (List.replicate n ByteArray.empty)).toArray 9)) W.heap.size 1 (.slice (some ⟨W.heap.size, 0, none⟩) n n) n (scells (List.replicate n ByteArray.empty)) := by
  have h := Own.fresh W (scells (List.replicate n ByteArray.empty)).toArray 9 (by simpa [scells] using hn)
  simpa [scells] using h

set_option maxHeartbeats 1600000 in
set_option maxRecDepth 100000 in
theorem fresh_calls (w0 w : World) (n : Nat) (h0 : w0.heap.size ≤ w.heap.size) (h1 : 140 ≤ n) (h2 : n ≤ 2000) :
    Calls Try.prog 7 #[.int .i64 (n : Int)] w fun e w' => ∃ g F, e = .returned (.pointer (some ⟨g, 0, none⟩)) ∧ PlainO w0 w' g F (newD n) ∧ (∀ k ∈ F, w.heap.size ≤ k) ∧ Below w.heap.size w w' := by
  have hmk := make_str n (by omega) w
  have HI : Box _ := ⟨repS_own w n (by unfold maxLen; omega)⟩
  have HZ : Box (∀ W, Calls Try.prog 18 #[.int .i64 256] W fun e w' => e = .returned (.string zeroS) ∧ Below W.heap.size W w') := ⟨fun W => zeros_calls 256 W (by omega)⟩
  obtain ⟨z, hz⟩ : ∃ z, zeroS = z := ⟨_, rfl⟩
  have HZZ : Box _ := ⟨hz⟩
  rw [hz] at HZ
  clear hz
  go_enter Try.func7, Try.ntmps7
  go_wp2_with fail
  go_loopw [9] (fun i wr => ∃ k : Nat, k ≤ n ∧ i = .int .i64 (k : Int) ∧ Box (Own wr w.heap.size 1 (.slice (some ⟨w.heap.size, 0, none⟩) n n) n (scells (repS z k n))) ∧ Box (Below w.heap.size w wr)) (fun i _ => n - (intOf i).toNat)
  case atStart => exact ⟨0, by omega, rfl, by rw [repS_zero]; exact HI, ⟨(Below.refl _ _).alloc (Nat.le_refl _) _⟩⟩
  case round =>
    obtain ⟨k, hk, rfl, HS, HB⟩ := hrel
    have hwz : w.heap.size ≤ wr.heap.size := HB.out.size
    by_cases hlt : k < n
    · go_wp2_with fail
      refine (HZ.out _).mono ?_
      rintro e w1 ⟨rfl, hb1⟩
      have HS1 := HS.out.below hb1
      have hl : k < (scells (repS z k n)).length := by rw [HS.out.1]; omega
      obtain ⟨c1, f1⟩ := HS1.cell (j := k) (List.getElem?_eq_getElem hl)
      obtain ⟨u, hu⟩ : ∃ u, (scells (repS z k n))[k] = u := ⟨_, rfl⟩
      rw [hu] at c1
      have HS2 := (HS1.set k (by omega) (.string z)).1
      rw [repS_set z hlt] at HS2
      have HS3 : Box _ := ⟨HS2⟩
      have HT3 : Box (Below w.heap.size w (w1.setCell ⟨w.heap.size, k, none⟩ (.string z))) := ⟨((Touched.refl w1 [w.heap.size]).setCell (.inl (by simp)) _).below (HB.out.trans (hb1.mono hwz)) (Nat.le_trans hwz hb1.size) (by simp)⟩
      have j1 : (k : Int) < (n : Int) := by omega
      have j0 : (0 : Int) ≤ (k : Int) := by omega
      clear HS1 HS2 hb1 hl hu
      go_wp2_with fail
      go_roundw
      case rel => exact ⟨k + 1, by omega, by go_num, HS3, HT3⟩
      case measure => simp [intOf]; omega
    · obtain rfl : k = n := by omega
      rw [repS_full] at HS
      have HR : Box (RowAt wr (some ⟨w.heap.size, 0, none⟩) (scells (List.replicate k z))) := ⟨by
        obtain ⟨A9, c9, e9, _, hr9, _⟩ := HS.out.slice
        injection e9 with e91
        subst e91
        exact hr9⟩
      have hg0 : w.heap.size < wr.heap.size := (HS.out.lt w.heap.size (by simp [Value.ownBlock])).2
      go_wp2_with (at_builtin; refine appO el_texts wr.heap.size rfl _ _ rfl (v := .slice none 0 0) (n := 0) (xs := []) rfl (Own.nil _ _ _) rfl (news := scells (List.replicate k z)) (by simp [scells]) HR.out (one_scells _) (by omega) (Nat.le_refl _) ?_; intro v2 w2 ho2 hg2 _; have hb2 : Below wr.heap.size wr w2 := grown_nil hg2; rw [Nat.zero_add, List.nil_append] at ho2; obtain ⟨b2, c2, rfl, hb2l, hb2s, hc2, hr2⟩ := ho2.form (by omega); have HS2 : Box _ := ⟨HS.out.below hb2⟩; have HO2 : Box _ := ⟨ho2⟩; have HB2 : Box (Below w.heap.size w w2) := ⟨HB.out.trans (hb2.mono hwz)⟩; clear ho2 hb2 hr2 hg2)
      go_ret
      obtain ⟨cells, hcells⟩ : ∃ cells, (#[.slice (some ⟨w.heap.size, 0, none⟩) k k, .slice (some ⟨b2, 0, none⟩) k c2, .slice none 0 0, .bool false, .bool false, .int .i64 0, .slice none 0 0, .int .i64 0] : Array Value) = cells := ⟨_, rfl⟩
      have hf := (Own.fresh w2 cells 58 (by rw [← hcells]; show 8 ≤ maxLen; decide)).weaken (base' := 0) (Nat.zero_le _)
      have hw2 := HB2.out.size
      subst hcells
      have hlen : (newD k).l.length = k := by simp [newD]
      have hF : PlainAt w0 (w2.alloc (.cells #[.slice (some ⟨w.heap.size, 0, none⟩) k k, .slice (some ⟨b2, 0, none⟩) k c2, .slice none 0 0, .bool false, .bool false, .int .i64 0, .slice none 0 0, .int .i64 0] 58)) w2.heap.size w.heap.size k b2 c2 (.slice none 0 0) none 0 (newD k) := by
        refine ⟨?_, ?_, ?_, by simp [newD], Own.nil _ _ _, .nil _ _, by omega, by omega, by omega, (fun b hb => by simp [Value.ownBlock] at hb), by rw [hlen]; omega, ⟨by rw [hlen]; exact h2, by simp [newD], by simp [newD], by simp [newD], by simp [newD]⟩, by simp [newD], ⟨by omega, h0, by omega, fun b hb => by simp [Value.ownBlock] at hb⟩⟩
        · simp only [pflds, hlen]
          exact hf
        · rw [hlen]
          have := (HS2.out.weaken (base' := 0) (Nat.zero_le _)).alloc (.cells #[.slice (some ⟨w.heap.size, 0, none⟩) k k, .slice (some ⟨b2, 0, none⟩) k c2, .slice none 0 0, .bool false, .bool false, .int .i64 0, .slice none 0 0, .int .i64 0] 58)
          rw [← HZZ.out] at this; exact this
        · rw [hlen]
          have := (HO2.out.weaken (base' := 0) (Nat.zero_le _)).alloc (.cells #[.slice (some ⟨w.heap.size, 0, none⟩) k k, .slice (some ⟨b2, 0, none⟩) k c2, .slice none 0 0, .bool false, .bool false, .int .i64 0, .slice none 0 0, .int .i64 0] 58)
          rw [← HZZ.out] at this; exact this
      refine ⟨w2.heap.size, [w2.heap.size, w.heap.size, b2], rfl, ⟨⟨w.heap.size, k, b2, c2, _, _, _, hF, by simp [Value.ownBlock]⟩, ?_⟩, ?_, HB2.out.alloc hw2 _⟩
      · obtain ⟨l1, l2, l3, _⟩ := hF.lt
        intro q hq
        simp at hq
        omega
      · intro q hq
        simp at hq
        omega
end Go.Proofs.Ytbnkmndgfmmiaaa
