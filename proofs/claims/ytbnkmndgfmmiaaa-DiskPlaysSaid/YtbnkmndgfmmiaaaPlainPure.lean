/- The document's disk (masonrylaw7.Plain) as plain data, and what it shares with the program's. -/
import Derived.Test.YtbnkmndgfmmiaaaDisk6
namespace Go.Proofs.Ytbnkmndgfmmiaaa
open Go.RowKit
set_option linter.unusedVariables false

/-- falls: does the power go at this call? -/
def fallsP (P : DSt) : DSt × Bool := if P.armed = true then (if P.left = 0 then (P, true) else ({ P with left := P.left - 1 }, false)) else (P, false)
/-- The document's Crash: it keeps what it was told to keep. -/
def crashP (P : DSt) (keep : List Int) : DSt × Nat :=
  if P.off = true then (P, 0) else
    ({ P with l := (crashK keep P.ws P.safe P.ws.length).1, safe := (crashK keep P.ws P.safe P.ws.length).1, ws := [], off := true, armed := false }, (crashK keep P.ws P.safe P.ws.length).2)
def writeP (P : DSt) (x : Int) (d : ByteArray) : DSt × Int :=
  if mayE P x ≠ 0 then (P, mayE P x) else if d.size ≠ 256 then (P, 1) else
    if (fallsP P).2 = true then ((crashP { (fallsP P).1 with l := P.l.set x.toNat d, ws := P.ws ++ [(x, d)], many := P.many + 1 } P.keep).1, 14)
    else ({ (fallsP P).1 with l := P.l.set x.toNat d, ws := P.ws ++ [(x, d)], many := P.many + 1 }, 0)
def writesPL : List (Int × ByteArray) → DSt → DSt × Int
  | [], P => (P, 0)
  | p :: r, P => if (writeP P p.1 p.2).2 ≠ 0 then writeP P p.1 p.2 else writesPL r (writeP P p.1 p.2).1
def writesP (P : DSt) (l : List (Int × ByteArray)) : DSt × Int := if P.off = true then (P, 14) else writesPL l P
def flushP (P : DSt) : DSt × Int :=
  if P.off = true then (P, 14) else
    if (fallsP P).2 = true then ((crashP (fallsP P).1 (fallsP P).1.keep).1, 14) else ({ (fallsP P).1 with safe := (fallsP P).1.l, ws := [] }, 0)
/-- The two tell the same. -/
structure Like (D P : DSt) : Prop where
  l : D.l = P.l
  safe : D.safe = P.safe
  ws : D.ws = P.ws
  many : D.many = P.many
  off : D.off = P.off
  armed : D.armed = P.armed
  left : D.armed = true → D.left = P.left ∧ 0 ≤ P.left
  keep : D.armed = true → D.keep = P.keep
theorem like_crash {D P : DSt} (hs : D.safe = P.safe) (hw : D.ws = P.ws) (hm : D.many = P.many) (hD : D.off = false) (hP : P.off = false) (k : List Int) : Like (crashD D k).1 (crashP P k).1 ∧ (crashD D k).2 = (crashP P k).2 := by
  unfold crashD crashP
  rw [if_neg (by simp [hD]), if_neg (by simp [hP]), hs, hw]
  exact ⟨⟨rfl, rfl, rfl, hm, rfl, rfl, by simp, by simp⟩, rfl⟩
theorem Like.crash {D P : DSt} (h : Like D P) (k : List Int) : Like (crashD D k).1 (crashP P k).1 ∧ (crashD D k).2 = (crashP P k).2 := by
  by_cases ho : P.off = true
  · have hD : D.off = true := by rw [h.off]; exact ho
    have e1 : crashD D k = (D, 0) := by rw [crashD, if_pos hD]
    have e2 : crashP P k = (P, 0) := by rw [crashP, if_pos ho]
    rw [e1, e2]
    exact ⟨h, rfl⟩
  · have ho2 : P.off = false := by simpa using ho
    exact like_crash h.safe h.ws h.many (by rw [h.off]; exact ho2) ho2 k
theorem Like.may {D P : DSt} (h : Like D P) (x : Int) : mayE D x = mayE P x := by unfold mayE; rw [h.off, h.l]
/-- One count on: the power goes on both, or on neither. -/
theorem Like.goes {D P : DSt} (h : Like D P) : (goesD D).2 = (fallsP P).2 ∧ ((fallsP P).2 = true → (goesD D).1.keep = P.keep ∧ P.armed = true ∧ (fallsP P).1 = P) ∧ ((fallsP P).2 = false → Like (goesD D).1 (fallsP P).1) := by
  by_cases ha : P.armed = true
  · have hD : D.armed = true := by rw [h.armed]; exact ha
    obtain ⟨hl, h0⟩ := h.left hD
    have hk := h.keep hD
    have e2 : goesD D = ({ D with left := P.left - 1 }, decide (P.left - 1 < 0)) := by rw [goesD, if_pos hD, hl]
    by_cases hz : P.left = 0
    · have e1 : fallsP P = (P, true) := by rw [fallsP, if_pos ha, if_pos hz]
      rw [e1, e2]
      exact ⟨by simp [hz], fun _ => ⟨hk, ha, rfl⟩, by simp⟩
    · have e1 : fallsP P = ({ P with left := P.left - 1 }, false) := by rw [fallsP, if_pos ha, if_neg hz]
      rw [e1, e2]
      exact ⟨by simp; omega, by simp, fun _ => ⟨h.l, h.safe, h.ws, h.many, h.off, h.armed, fun _ => ⟨rfl, by simp only; omega⟩, fun _ => hk⟩⟩
  · have hD : ¬ D.armed = true := by rw [h.armed]; exact ha
    have e1 : fallsP P = (P, false) := by rw [fallsP, if_neg ha]
    have e2 : goesD D = (D, false) := by rw [goesD, if_neg hD]
    rw [e1, e2]
    exact ⟨rfl, by simp, fun _ => h⟩
theorem goesD_with (D : DSt) (l : List ByteArray) (ws : List (Int × ByteArray)) (m : Nat) : goesD { D with l := l, ws := ws, many := m } = ({ (goesD D).1 with l := l, ws := ws, many := m }, (goesD D).2) := by
  unfold goesD
  simp only
  split <;> rfl
theorem goesD_same (D : DSt) : (goesD D).1.safe = D.safe ∧ (goesD D).1.off = D.off ∧ (goesD D).1.l = D.l ∧ (goesD D).1.ws = D.ws ∧ (goesD D).1.many = D.many ∧ (goesD D).1.armed = D.armed ∧ (goesD D).1.keep = D.keep := by
  unfold goesD; split <;> exact ⟨rfl, rfl, rfl, rfl, rfl, rfl, rfl⟩
theorem fallsP_same (P : DSt) : (fallsP P).1.safe = P.safe ∧ (fallsP P).1.off = P.off ∧ (fallsP P).1.l = P.l ∧ (fallsP P).1.ws = P.ws ∧ (fallsP P).1.many = P.many ∧ (fallsP P).1.armed = P.armed ∧ (fallsP P).1.keep = P.keep := by
  unfold fallsP; split
  · split <;> exact ⟨rfl, rfl, rfl, rfl, rfl, rfl, rfl⟩
  · exact ⟨rfl, rfl, rfl, rfl, rfl, rfl, rfl⟩
theorem Like.write {D P : DSt} (h : Like D P) (x : Int) (d : ByteArray) : Like (writeD D x d).1 (writeP P x d).1 ∧ (writeD D x d).2 = (writeP P x d).2 := by
  unfold writeD writeP
  rw [h.may]
  by_cases h1 : mayE P x ≠ 0
  · rw [if_pos h1, if_pos h1]; exact ⟨h, rfl⟩
  rw [if_neg h1, if_neg h1]
  by_cases h2 : d.size ≠ 256
  · rw [if_pos h2, if_pos h2]; exact ⟨h, rfl⟩
  rw [if_neg h2, if_neg h2]
  have hoP : P.off = false := by
    unfold mayE at h1
    by_cases ho : P.off = true
    · rw [if_pos ho] at h1; simp at h1
    · simpa using ho
  have hoD : D.off = false := by rw [h.off]; exact hoP
  obtain ⟨g1, g2, g3⟩ := h.goes
  obtain ⟨s1, s2, s3, s4, s5, s6, s7⟩ := goesD_same D
  obtain ⟨t1, t2, t3, t4, t5, t6, t7⟩ := fallsP_same P
  simp only [goesD_with]
  by_cases hf : (fallsP P).2 = true
  · rw [g1, if_pos hf, if_pos hf]
    obtain ⟨k1, k2, k3⟩ := g2 hf
    rw [k1]
    exact ⟨(like_crash (by simp only [s1, t1, h.safe]) (by simp only [h.ws]) (by simp only [h.many]) (by simp only [s2]; exact hoD) (by simp only [t2]; exact hoP) _).1, rfl⟩
  · have hf2 : (fallsP P).2 = false := by simpa using hf
    rw [g1, if_neg hf, if_neg hf]
    have k := g3 hf2
    exact ⟨⟨by simp only [h.l], k.safe, by simp only [h.ws], by simp only [h.many], k.off, k.armed, k.left, k.keep⟩, rfl⟩
theorem Like.writes : ∀ (l : List (Int × ByteArray)) {D P : DSt}, Like D P → Like (writesL l D).1 (writesPL l P).1 ∧ (writesL l D).2 = (writesPL l P).2
  | [], _, _, h => ⟨h, rfl⟩
  | p :: r, D, P, h => by
    obtain ⟨h1, h2⟩ := h.write p.1 p.2
    rw [writesL, writesPL, h2]
    split
    · exact ⟨h1, h2⟩
    · exact Like.writes r h1
theorem Like.writesAll {D P : DSt} (h : Like D P) (l : List (Int × ByteArray)) : Like (writesD D l).1 (writesP P l).1 ∧ (writesD D l).2 = (writesP P l).2 := by
  unfold writesD writesP
  rw [h.off]
  split
  · exact ⟨h, rfl⟩
  · exact Like.writes l h
theorem Like.flush {D P : DSt} (h : Like D P) : Like (flushD D).1 (flushP P).1 ∧ (flushD D).2 = (flushP P).2 := by
  unfold flushD flushP
  rw [h.off]
  by_cases ho : P.off = true
  · rw [if_pos ho, if_pos ho]; exact ⟨h, rfl⟩
  rw [if_neg ho, if_neg ho]
  have hoP : P.off = false := by simpa using ho
  have hoD : D.off = false := by rw [h.off]; exact hoP
  obtain ⟨g1, g2, g3⟩ := h.goes
  obtain ⟨s1, s2, s3, s4, s5, s6, s7⟩ := goesD_same D
  obtain ⟨t1, t2, t3, t4, t5, t6, t7⟩ := fallsP_same P
  by_cases hf : (fallsP P).2 = true
  · rw [g1, if_pos hf, if_pos hf]
    obtain ⟨k1, k2, k3⟩ := g2 hf
    rw [k1, t7]
    exact ⟨(like_crash (by rw [s1, t1, h.safe]) (by rw [s4, t4, h.ws]) (by rw [s5, t5, h.many]) (by rw [s2]; exact hoD) (by rw [t2]; exact hoP) _).1, rfl⟩
  · have hf2 : (fallsP P).2 = false := by simpa using hf
    rw [g1, if_neg hf, if_neg hf]
    have k := g3 hf2
    exact ⟨⟨k.l, k.l, rfl, k.many, k.off, k.armed, k.left, k.keep⟩, rfl⟩
theorem Like.restore {D P : DSt} (h : Like D P) : Like { D with off := false } { P with off := false } := ⟨h.l, h.safe, h.ws, h.many, rfl, h.armed, h.left, h.keep⟩
theorem Like.arm {D P : DSt} (h : Like D P) (n : Int) (k : List Int) : Like (armD D n k) (armD P n k) := ⟨h.l, h.safe, h.ws, h.many, h.off, rfl, fun ha => ⟨rfl, by simp [armD] at ha; simpa [armD] using ha⟩, fun _ => rfl⟩
theorem like_new (n : Nat) : Like (newD n) (newD n) := ⟨rfl, rfl, rfl, rfl, rfl, rfl, by simp [newD], by simp [newD]⟩
end Go.Proofs.Ytbnkmndgfmmiaaa
