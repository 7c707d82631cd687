/- A disk of a law's own beside a map of the law's own. -/
import Derived.Test.YtcdhaflccancjaaDiskIn
import Derived.Test.YtcdhaflccancjaaMapText
namespace Go.Proofs.Ytcdhaflccancjaa
open Go.RowKit

structure DMAt (w0 w : World) (g bl cl bs cs : Nat) (V : Value) (K : Option Addr) (kc : Nat) (D : DSt) (b n : Nat) (f : Nat → Option ByteArray) : Prop where
  bel : Below w0.heap.size w0 w
  at_ : DiskAt w g bl cl bs cs V K kc D
  h1 : w0.heap.size ≤ g
  h2 : w0.heap.size ≤ bl
  h3 : w0.heap.size ≤ bs
  h4 : ∀ b, V.ownBlock = some b → w0.heap.size ≤ b
  nb : b ∉ g :: bl :: bs :: V.ownBlock.toList
  nk : ∀ c, K = some ⟨c, 0, none⟩ → c ≠ b
  low : w0.heap.size ≤ b
  map : MapIs Try.prog 3 9 w b n f
def DiskMap (w0 w : World) (g : Nat) (D : DSt) (b n : Nat) (f : Nat → Option ByteArray) : Prop := ∃ bl cl bs cs V K kc, DMAt w0 w g bl cl bs cs V K kc D b n f
section
variable {w0 w w' : World} {g bl cl bs cs : Nat} {V : Value} {K : Option Addr} {kc : Nat} {D D' : DSt} {b n : Nat} {f : Nat → Option ByteArray}
theorem DMAt.step (h : DMAt w0 w g bl cl bs cs V K kc D b n f) (s : DiskStep w w' g bl bs V K D') : DiskMap w0 w' g D' b n f := by
  obtain ⟨⟨bl', cl', bs', cs', V', K', kc', e1, e2, e3, e4, e5⟩, hT⟩ := s
  have hs := h.bel.size
  have hlt := h.map.lt
  have nb := h.nb
  simp only [List.mem_cons, Option.mem_toList, not_or] at nb
  have h2 := h.h2
  have h3 := h.h3
  refine ⟨bl', cl', bs', cs', V', K', kc', ?_, e1, h.h1, by omega, by omega, fun b hb => (e4 b hb).elim (h.h4 b) (fun h => Nat.le_trans hs h), ?_, fun c hc => (e5 c hc).elim (h.nk c) (fun h => by omega), h.low, h.map.touched hT h.nb⟩
  · refine hT.below h.bel hs fun k hk => ?_
    simp only [List.mem_cons, Option.mem_toList] at hk
    rcases hk with rfl | rfl | rfl | hk
    · exact h.h1
    · exact h.h2
    · exact h.h3
    · exact h.h4 k hk
  · simp only [List.mem_cons, Option.mem_toList, not_or]
    refine ⟨nb.1, by omega, by omega, fun hb => (e4 b hb).elim nb.2.2.2 (fun h => by omega)⟩
theorem DiskMap.toIn (h : DiskMap w0 w g D b n f) : DiskIn w0 w g D := by
  obtain ⟨bl, cl, bs, cs, V, K, kc, h⟩ := h
  exact ⟨h.bel, bl, cl, bs, cs, V, K, kc, h.at_, h.h1, h.h2, h.h3, h.h4⟩
theorem DiskMap.bel (h : DiskMap w0 w g D b n f) : Below w0.heap.size w0 w := h.toIn.bel
theorem DiskMap.map (h : DiskMap w0 w g D b n f) : MapIs Try.prog 3 9 w b n f := by
  obtain ⟨bl, cl, bs, cs, V, K, kc, h⟩ := h
  exact h.map
theorem DiskMap.below (h : DiskMap w0 w g D b n f) (hb : Below w.heap.size w w') : DiskMap w0 w' g D b n f := by
  obtain ⟨bl, cl, bs, cs, V, K, kc, h⟩ := h
  exact ⟨bl, cl, bs, cs, V, K, kc, { h with bel := below_trans' h.bel hb, at_ := h.at_.below hb, map := h.map.touched (Touched.of_below hb []) (by simp) }⟩
theorem DiskMap.made (h : DiskIn w0 w g D) : DiskMap w0 (w.alloc (.map #[] 0)) g D w.heap.size 0 (fun _ => none) := by
  obtain ⟨hb, bl, cl, bs, cs, V, K, kc, a, h1, h2, h3, h4⟩ := h
  have hbb : Below w.heap.size w (w.alloc (.map #[] 0)) := (Below.refl _ _).alloc (Nat.le_refl _) _
  have hlt := a.lt
  refine ⟨bl, cl, bs, cs, V, K, kc, below_trans' hb hbb, a.below hbb, h1, h2, h3, h4, ?_, fun c hc => by have := a.kb c hc; omega, hb.size, MapIs.made w⟩
  simp only [List.mem_cons, Option.mem_toList, not_or]
  exact ⟨by omega, by omega, by omega, fun h => by have := hlt.2.2.2 _ h; omega⟩
theorem DiskMap.put (h : DiskMap w0 w g D b n f) (hn : n < maxLen) (y : Nat) (hy : y < 9223372036854775808) (s : ByteArray) (hs : s.size ≤ maxLen) :
    ∃ w', (Instr.mapUpdate 38 (.map (some b)) (.int .i64 (y : Int)) (.string s)).run Try.prog w = .ok () w' ∧ DiskMap w0 w' g D b (n + 1) (fun i => if i = y then some s else f i) := by
  obtain ⟨bl, cl, bs, cs, V, K, kc, h⟩ := h
  obtain ⟨w', r1, r2, r3⟩ := h.map.put Try.underlying38 Try.underlying3 Try.underlying9 hn y hy s hs
  have nb := h.nb
  simp only [List.mem_cons, Option.mem_toList, not_or] at nb
  refine ⟨w', r1, bl, cl, bs, cs, V, K, kc, r3.below h.bel h.bel.size (fun k hk => by simp at hk; subst hk; exact h.low), h.at_.touched r3 (by simpa using fun e => nb.1 e.symm) (by simpa using fun e => nb.2.1 e.symm) (by simpa using fun e => nb.2.2.1 e.symm) (fun c hc => by simp; rintro rfl; exact nb.2.2.2 hc) (fun c hc => by simpa using h.nk c hc), h.h1, h.h2, h.h3, h.h4, h.nb, h.nk, h.low, r2⟩
theorem DiskMap.look (h : DiskMap w0 w g D b n f) (y : Nat) (hy : y < 9223372036854775808) :
    (Instr.lookup 38 (.map (some b)) (.int .i64 (y : Int)) true).run Try.prog w = .ok (.tuple #[.string ((f y).getD ByteArray.empty), .bool (f y).isSome]) w :=
  h.map.look Try.underlying38 Try.underlying3 Try.underlying9 rfl y hy
theorem mapWrite_new (h : DiskMap w0 w g D b n f) (harm : D.armed = true → 0 ≤ D.left) (l : List (Int × ByteArray)) (m : Nat) (hl : l.length = m) (hroom : D.ws.length + D.many + 2 * m ≤ 1000000000) :
    Calls Try.prog 10 #[.pointer (some ⟨g, 0, none⟩), .slice (some ⟨w.heap.size, 0, none⟩) m m] (w.alloc (.cells (dcells l).toArray 33)) fun e w' => e = .returned (.int .i64 (writesD D l).2) ∧ DiskMap w0 w' g (writesD D l).1 b n f := by
  obtain ⟨bl, cl, bs, cs, V, K, kc, h⟩ := h
  have hlt := h.at_.lt
  refine (diskWrite_calls (h.at_.below ((Below.refl _ _).alloc (Nat.le_refl _) _)) harm _ m m l hl hroom (fun w' hT => row_touched (rowAt_alloc w (dcells l) _) hT (.inr ⟨_, rfl, ?_⟩))).mono fun e w' ⟨he, hs⟩ => ⟨he, h.step (DiskStep.after ((Touched.refl w _).alloc _) (fun _ h => .inl h) hs)⟩
  intro hm
  simp only [List.mem_cons] at hm
  rcases hm with h | h | h | h
  · omega
  · omega
  · omega
  · have := hlt.2.2.2 _ (by simpa using h); omega
theorem mapFlush_in (h : DiskMap w0 w g D b n f) (harm : D.armed = true → 0 ≤ D.left) : Calls Try.prog 15 #[.pointer (some ⟨g, 0, none⟩)] w fun e w' => e = .returned (.int .i64 (flushD D).2) ∧ DiskMap w0 w' g (flushD D).1 b n f := by
  obtain ⟨bl, cl, bs, cs, V, K, kc, h⟩ := h
  exact (diskFlush_calls h.at_ harm).mono fun e w' ⟨he, hs⟩ => ⟨he, h.step hs⟩
theorem mapCrash_arg (h : DiskMap w0 w g D b n f) (A : Option Addr) (m c : Nat) (l : List Int) (hl : l.length = m) (hn : m ≤ 1000000) (hR : RowAt w0 A (icells l)) :
    Calls Try.prog 12 #[.pointer (some ⟨g, 0, none⟩), .slice A m c] w fun e w' => e = .returned (.int .i64 ((crashD D l).2 : Int)) ∧ DiskMap w0 w' g (crashD D l).1 b n f := by
  obtain ⟨bl, cl, bs, cs, V, K, kc, h⟩ := h
  exact (diskCrash_calls h.at_ A m c l hl hn (fun w' hT => hR.below (hT.below h.bel h.bel.size (by have := h.h3; intro k hk; simp at hk; omega)))).mono fun e w' ⟨he, hs⟩ => ⟨he, h.step hs⟩
theorem mapRestore_in (h : DiskMap w0 w g D b n f) : Calls Try.prog 13 #[.pointer (some ⟨g, 0, none⟩)] w fun e w' => e = .returned (.tuple #[]) ∧ DiskMap w0 w' g { D with off := false } b n f := by
  obtain ⟨bl, cl, bs, cs, V, K, kc, h⟩ := h
  exact (diskRestore_calls h.at_).mono fun e w' ⟨he, a', hT⟩ => ⟨he, h.step (DiskStep.of a' (hT.mono (fun q hq _ => by simp at hq; simp [hq])) (fun _ h => .inl h))⟩
end

/-! The plain part: what lasts. -/
theorem crashK_app (keep : List Int) (ws : List (Int × ByteArray)) (p : Int × ByteArray) (s : List ByteArray) (k : Nat) (hk : k ≤ ws.length) : crashK keep (ws ++ [p]) s k = crashK keep ws s k := by
  induction k with
  | zero => rfl
  | succ k ih => rw [crashK, crashK, ih (by omega), List.getElem?_append_left (by omega)]
structure Last1 (i : Nat) (D : DSt) (f : Nat → Option ByteArray) : Prop where
  off : D.off = false
  armed : D.armed = false
  len : D.l.length = 140
  ws : D.ws.length = i
  many : D.many = i
  at_ : ∀ y, y < 20 → D.l.getD y ByteArray.empty = (f y).getD zeroS
def setF (f : Nat → Option ByteArray) (y : Nat) (s : ByteArray) : Nat → Option ByteArray := fun i => if i = y then some s else f i
theorem getD_setF (l : List ByteArray) (f : Nat → Option ByteArray) (y : Nat) (s : ByteArray) (hy : y < l.length) (h : ∀ j, j < 20 → l.getD j ByteArray.empty = (f j).getD zeroS) : ∀ j, j < 20 → (l.set y s).getD j ByteArray.empty = (setF f y s j).getD zeroS := by
  intro j hj
  rw [List.getD_eq_getElem?_getD, List.getElem?_set, setF]
  by_cases e : y = j
  · subst e; rw [if_pos rfl, if_pos hy, if_pos rfl]; rfl
  · rw [if_neg e, if_neg (fun h => e h.symm), ← List.getD_eq_getElem?_getD]; exact h j hj
theorem Last1.write {i : Nat} {D : DSt} {f : Nat → Option ByteArray} (h : Last1 i D f) (y : Nat) (hy : y < 20) (s : ByteArray) (hs : s.size = 256) : (writesD D [((y : Int), s)]).2 = 0 ∧ Last1 (i + 1) (writesD D [((y : Int), s)]).1 (setF f y s) := by
  rw [writesD_one D y s h.off h.armed (by rw [h.len]; omega) hs]
  exact ⟨rfl, h.off, h.armed, by simp [h.len], by simp [h.ws], by simp [h.many], getD_setF D.l f y s (by rw [h.len]; omega) h.at_⟩
structure Last2 (keep : List Int) (k : Nat) (D : DSt) (f : Nat → Option ByteArray) (lost : Nat) : Prop where
  off : D.off = false
  armed : D.armed = false
  len : D.l.length = 140
  slen : D.safe.length = 140
  ws : D.ws.length = k
  many : D.many ≤ 40 + k
  at_ : ∀ y, y < 20 → (crashK keep D.ws D.safe k).1.getD y ByteArray.empty = (f y).getD zeroS
  lost : (crashK keep D.ws D.safe k).2 = lost
theorem Last1.flush {i : Nat} {D : DSt} {f : Nat → Option ByteArray} (h : Last1 i D f) (hi : i ≤ 40) (keep : List Int) : (flushD D).2 = 0 ∧ Last2 keep 0 (flushD D).1 f 0 := by
  have hg : goesD D = (D, false) := by rw [goesD, if_neg (by simp [h.armed])]
  rw [flushD, if_neg (by simp [h.off]), hg, if_neg (by simp)]
  exact ⟨rfl, h.off, h.armed, h.len, h.len, rfl, by show D.many ≤ 40 + 0; rw [h.many]; omega, h.at_, rfl⟩
theorem Last2.write {keep : List Int} {k : Nat} {D : DSt} {f : Nat → Option ByteArray} {lost : Nat} (h : Last2 keep k D f lost) (y : Nat) (hy : y < 20) (s : ByteArray) (hs : s.size = 256) :
    (writesD D [((y : Int), s)]).2 = 0 ∧ (keptB keep k = true → Last2 keep (k + 1) (writesD D [((y : Int), s)]).1 (setF f y s) lost) ∧ (keptB keep k = false → Last2 keep (k + 1) (writesD D [((y : Int), s)]).1 f (lost + 1)) := by
  rw [writesD_one D y s h.off h.armed (by rw [h.len]; omega) hs]
  have hc : crashK keep (D.ws ++ [((y : Int), s)]) D.safe (k + 1) = if keptB keep k then ((crashK keep D.ws D.safe k).1.set y s, (crashK keep D.ws D.safe k).2) else ((crashK keep D.ws D.safe k).1, (crashK keep D.ws D.safe k).2 + 1) := by
    rw [crashK, crashK_app keep D.ws _ D.safe k (by rw [h.ws]; exact Nat.le_refl _), List.getElem?_append_right (by rw [h.ws]; exact Nat.le_refl _), h.ws]
    simp
  refine ⟨rfl, fun hk => ?_, fun hk => ?_⟩
  · rw [if_pos hk] at hc
    refine ⟨h.off, h.armed, by simp [h.len], h.slen, by simp [h.ws], by show D.many + 1 ≤ _; have := h.many; omega, ?_, by rw [hc]; exact h.lost⟩
    rw [hc]
    exact getD_setF _ f y s (by rw [crashK_length, h.slen]; omega) h.at_
  · rw [if_neg (by simp [hk])] at hc
    exact ⟨h.off, h.armed, by simp [h.len], h.slen, by simp [h.ws], by show D.many + 1 ≤ _; have := h.many; omega, by rw [hc]; exact h.at_, by rw [hc]; show _ + 1 = _; rw [h.lost]⟩
theorem Last2.crash {keep : List Int} {k : Nat} {D : DSt} {f : Nat → Option ByteArray} {lost : Nat} (h : Last2 keep k D f lost) :
    (crashD D keep).2 = lost ∧ (crashD D keep).1.ws = [] ∧ ∀ y : Nat, y < 20 → readD { (crashD D keep).1 with off := false } (y : Int) = ((f y).getD zeroS, 0) := by
  rw [crashD, if_neg (by simp [h.off])]
  refine ⟨by show (crashK keep D.ws D.safe D.ws.length).2 = lost; rw [h.ws]; exact h.lost, rfl, fun y hy => ?_⟩
  rw [readD_ok _ y rfl (by show y < (crashK keep D.ws D.safe D.ws.length).1.length; rw [crashK_length, h.slen]; omega)]
  show ((crashK keep D.ws D.safe D.ws.length).1.getD y _, (0 : Int)) = _
  rw [h.ws, h.at_ y hy]
end Go.Proofs.Ytcdhaflccancjaa
