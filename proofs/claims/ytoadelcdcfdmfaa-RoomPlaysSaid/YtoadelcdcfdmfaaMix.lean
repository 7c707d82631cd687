/- shaone.mix. -/
import Derived.Test.YtoadelcdcfdmfaaBundle2
import Derived.BigRegion
import Derived.Deep.MidRow
namespace Go.Proofs.Ytoadelcdcfdmfaa
open Go.RowKit
set_option linter.unusedVariables false

theorem Own.fresh (w : World) (cs : Array Value) (t : TypeId) (hc : cs.size ≤ maxLen) : Own (w.alloc (.cells cs t)) w.heap.size 1 (.slice (some ⟨w.heap.size, 0, none⟩) cs.size cs.size) cs.size cs.toList := by
  have hb : (w.alloc (.cells cs t)).heap[w.heap.size]? = some (.cells cs t (0, 0)) := heap_alloc_new w _
  refine ⟨by simp, .inr ⟨_, _, rfl, Nat.le_refl _, by simp, Nat.le_refl _, hc, fun j hj => ⟨?_, frozen_of_row _ _ j cs t hb⟩, fun j u hu => ?_⟩⟩
  · rw [cell_of_row _ _ j cs t (0, 0) hb]
    simpa using hj
  · rw [cell_of_row _ _ j cs t (0, 0) hb]
    simpa using hu
theorem Own.drew {w : World} {base sz n : Nat} {v : Value} {xs : List Value} (h : Own w base sz v n xs) : Own w.drew base sz v n xs := h
theorem Own.drewN {w : World} {base sz n : Nat} {v : Value} {xs : List Value} (h : Own w base sz v n xs) (k : Nat) : Own (w.drewN k) base sz v n xs := h

theorem results_cell_mid {P : Program} {fn : Func} {p : Tmp} {ty : TypeId} (h : fn.results = #[.cell p ty]) (tmps : Array Value) (w : World) (g : Nat) (cs : List Value) (d : TypeDesc)
    (hp : tmps.getD p undef = .pointer (some ⟨g, 0, none⟩)) (hc : w.rangeAt g 0 cs)
    (hu : P.underlying ty = some d) (hd : d.isRow = true) (hi : (P.info? ty).map (·.size) = some cs.length) :
    (results fn tmps).run P w = .ok (.agg cs.toArray) w := by
  have hp' : tmps[p]?.getD undef = .pointer (some ⟨g, 0, none⟩) := by simpa using hp
  simp [results, h, hp', asAddr, run_loadVar_mid w g 0 ty cs d hc hu hd hi]
/-- The words of an array, told by a function. -/
def fw (f : Nat → BitVec 32) (n : Nat) : List Value := wcells ((List.range n).map f)
theorem fw_at (f : Nat → BitVec 32) {n k : Nat} (h : k < n) : (fw f n)[k]? = some (.int .u32 ((f k).toNat : Int)) := by simp [fw, wcells, h]
theorem fw_set (f : Nat → BitVec 32) (n k : Nat) (x : BitVec 32) : (fw f n).set k (.int .u32 (x.toNat : Int)) = fw (fun j => if j = k then x else f j) n := by
  apply List.ext_getElem?
  intro i
  rw [List.getElem?_set]
  by_cases hi : i < n
  · rw [fw_at _ hi]
    by_cases e : k = i
    · subst e; simp [fw, wcells, hi]
    · rw [if_neg e, fw_at _ hi]; simp only [if_neg (show ¬ i = k from fun h => e h.symm)]
  · have h1 : ∀ g : Nat → BitVec 32, (fw g n)[i]? = none := by intro g; simp [fw, wcells]; omega
    rw [h1, h1]
    split
    · split
      · rename_i h; simp [fw, wcells] at h; omega
      · rfl
    · rfl
theorem fw_congr {f g : Nat → BitVec 32} {n : Nat} (h : ∀ j, j < n → f j = g j) : fw f n = fw g n := by
  unfold fw
  congr 1
  apply List.map_congr_left
  intro j hj
  exact h j (List.mem_range.1 hj)
theorem fw_length (f : Nat → BitVec 32) (n : Nat) : (fw f n).length = n := by simp [fw, wcells]

structure MixAt (w wr : World) (h : List Value) (m n : Nat) (f : Nat → BitVec 32) : Prop where
  bel : Below w.heap.size w wr
  oh : Own wr w.heap.size 1 (.slice (some ⟨w.heap.size, 0, none⟩) m m) m h
  or : Own wr w.heap.size 1 (.slice (some ⟨w.heap.size + 1, 0, none⟩) m m) m (List.replicate m (.int .u32 0))
  ow : Own wr w.heap.size 1 (.slice (some ⟨w.heap.size + 1 + 1, 0, none⟩) n n) n (fw f n)
theorem MixAt.drew {w wr : World} {h : List Value} {m n : Nat} {f : Nat → BitVec 32} (a : MixAt w wr h m n f) : MixAt w wr.drew h m n f := ⟨⟨a.bel.os, a.bel.tape, a.bel.output, a.bel.size, a.bel.block⟩, a.oh, a.or, a.ow⟩
theorem MixAt.drewN {w wr : World} {h : List Value} {m n : Nat} {f : Nat → BitVec 32} (a : MixAt w wr h m n f) (k : Nat) : MixAt w (wr.drewN k) h m n f := ⟨⟨a.bel.os, a.bel.tape, a.bel.output, a.bel.size, a.bel.block⟩, a.oh, a.or, a.ow⟩
theorem MixAt.congr {w wr : World} {h : List Value} {m n : Nat} {f g : Nat → BitVec 32} (a : MixAt w wr h m n f) (e : ∀ j, j < n → f j = g j) : MixAt w wr h m n g := ⟨a.bel, a.oh, a.or, by rw [← fw_congr e]; exact a.ow⟩
theorem MixAt.set {w wr : World} {h : List Value} {m n : Nat} {f : Nat → BitVec 32} (a : MixAt w wr h m n f) (k : Nat) (hk : k < n) (x : BitVec 32) : MixAt w (wr.setCell ⟨w.heap.size + 1 + 1, k, none⟩ (.int .u32 (x.toNat : Int))) h m n (fun j => if j = k then x else f j) := by
  obtain ⟨h1, h2⟩ := a.ow.set k (by rw [fw_length]; exact hk) (.int .u32 (x.toNat : Int))
  rw [fw_set] at h1
  exact ⟨a.bel.setCell (by simp only; omega) _, a.oh.kept h2 (.inr (by simp [Value.ownBlock]; omega)), a.or.kept h2 (.inr (by simp [Value.ownBlock])), h1⟩

/-- So many bytes of a word. -/
def pw (s : List UInt8) (k : Nat) : Nat → BitVec 32
  | 0 => 0
  | i + 1 => pw s k i <<< 8 ||| bw (s.getD (4 * k + i) 0)
theorem pw4 (s : List UInt8) (k : Nat) : pw s k 4 = word4 (s.getD (4 * k) 0) (s.getD (4 * k + 1) 0) (s.getD (4 * k + 2) 0) (s.getD (4 * k + 3) 0) := by
  simp [pw, word4]
theorem getD_str (s : ByteArray) (i : Nat) (h : i < s.size) : s.data.toList.getD i 0 = s[i] := by
  rw [List.getD_eq_getElem?_getD, List.getElem?_eq_getElem (by simpa using h)]; rfl

theorem oneWords_length (s : List UInt8) (n : Nat) : (oneWords s n).length = 16 + n := by
  induction n with
  | zero => simp [oneWords, firstWords]
  | succ n ih => rw [oneWords, List.length_append, ih]; rfl
theorem oneWords_pre (s : List UInt8) (n m j : Nat) (h : j < 16 + n) : (oneWords s (n + m)).getD j 0 = (oneWords s n).getD j 0 := by
  induction m with
  | zero => rfl
  | succ m ih =>
    rw [show n + (m + 1) = (n + m) + 1 by omega, oneWords, List.getD_eq_getElem?_getD, List.getElem?_append_left (by rw [oneWords_length]; omega), ← List.getD_eq_getElem?_getD]
    exact ih
theorem oneW_low (s : List UInt8) {k : Nat} (h : k < 16) : (oneWords s 64).getD k 0 = word4 (s.getD (4 * k) 0) (s.getD (4 * k + 1) 0) (s.getD (4 * k + 2) 0) (s.getD (4 * k + 3) 0) := by
  rw [show (64 : Nat) = 0 + 64 from rfl, oneWords_pre s 0 64 k (by omega)]
  simp [oneWords, firstWords, h]
theorem oneW_high (s : List UInt8) {k : Nat} (h0 : 16 ≤ k) (h : k < 80) : (oneWords s 64).getD k 0 = turn ((oneWords s 64).getD (k - 3) 0 ^^^ (oneWords s 64).getD (k - 8) 0 ^^^ (oneWords s 64).getD (k - 14) 0 ^^^ (oneWords s 64).getD (k - 16) 0) 1 := by
  obtain ⟨n, rfl⟩ : ∃ n, k = 16 + n := ⟨k - 16, by omega⟩
  have e (j : Nat) (hj : j < 16 + n) : (oneWords s 64).getD j 0 = (oneWords s n).getD j 0 := by
    have := oneWords_pre s n (64 - n) j hj
    rwa [show n + (64 - n) = 64 by omega] at this
  rw [e (16 + n - 3) (by omega), e (16 + n - 8) (by omega), e (16 + n - 14) (by omega), e (16 + n - 16) (by omega)]
  have h1 := oneWords_pre s (n + 1) (64 - (n + 1)) (16 + n) (by omega)
  rw [show n + 1 + (64 - (n + 1)) = 64 by omega] at h1
  rw [h1, oneWords, List.getD_eq_getElem?_getD, List.getElem?_append_right (by rw [oneWords_length]; omega), oneWords_length]
  simp [oneNext, oneWords_length]

end Go.Proofs.Ytoadelcdcfdmfaa
