/- act's words: what each act leaves of the sizes; the document's calls by their blocks. -/
import Derived.Test.YtbnkmndgfmmiaaaTwins
import Derived.Test.YtbnkmndgfmmiaaaDOp
namespace Go.Proofs.Ytbnkmndgfmmiaaa
open Go.RowKit
set_option linter.unusedVariables false

theorem writesL_room : ∀ (l : List (Int × ByteArray)) (D : DSt), (writesL l D).1.ws.length + (writesL l D).1.many ≤ D.ws.length + D.many + 2 * l.length
  | [], D => by rw [writesL]; simp
  | p :: r, D => by
    have h1 := writeD_room D p.1 p.2
    have h2 := writesL_room r (writeD D p.1 p.2).1
    rw [writesL]
    split
    · simp only [List.length_cons]; omega
    · simp only [List.length_cons]; omega
theorem writesD_room (l : List (Int × ByteArray)) (D : DSt) : (writesD D l).1.ws.length + (writesD D l).1.many ≤ D.ws.length + D.many + 2 * l.length := by
  unfold writesD
  split
  · simp only; omega
  · exact writesL_room l D
theorem flushD_room (D : DSt) : (flushD D).1.ws.length + (flushD D).1.many ≤ D.ws.length + D.many := by
  obtain ⟨s1, s2, s3, s4, s5, s6, s7⟩ := goesD_same D
  unfold flushD
  split
  · exact Nat.le_refl _
  · split
    · refine Nat.le_trans (crashD_room _ _) ?_
      rw [s4, s5]; exact Nat.le_refl _
    · show 0 + (goesD D).1.many ≤ _
      rw [s5]; omega
/-- How many sectors there are stays. -/
def Len (N : Nat) (P : DSt) : Prop := P.l.length = N ∧ P.safe.length = N
theorem len_crash {N : Nat} {P : DSt} (h : Len N P) (k : List Int) : Len N (crashP P k).1 := by
  unfold crashP
  split
  · exact h
  · exact ⟨by show (crashK _ _ _ _).1.length = N; rw [crashK_length]; exact h.2, by show (crashK _ _ _ _).1.length = N; rw [crashK_length]; exact h.2⟩
theorem len_falls {N : Nat} {P : DSt} (h : Len N P) : Len N (fallsP P).1 := by
  obtain ⟨t1, t2, t3, t4, t5, t6, t7⟩ := fallsP_same P
  exact ⟨by rw [t3]; exact h.1, by rw [t1]; exact h.2⟩
theorem len_write {N : Nat} {P : DSt} (h : Len N P) (x : Int) (d : ByteArray) : Len N (writeP P x d).1 := by
  have h2 : Len N { (fallsP P).1 with l := P.l.set x.toNat d, ws := P.ws ++ [(x, d)], many := P.many + 1 } := ⟨by show (P.l.set _ _).length = N; rw [List.length_set]; exact h.1, (len_falls h).2⟩
  unfold writeP
  split
  · exact h
  · split
    · exact h
    · split
      · exact len_crash h2 _
      · exact h2
theorem len_writesL {N : Nat} : ∀ (l : List (Int × ByteArray)) {P : DSt}, Len N P → Len N (writesPL l P).1
  | [], _, h => h
  | p :: r, P, h => by
    rw [writesPL]
    split
    · exact len_write h _ _
    · exact len_writesL r (len_write h _ _)
theorem len_writes {N : Nat} {P : DSt} (h : Len N P) (l : List (Int × ByteArray)) : Len N (writesP P l).1 := by
  unfold writesP
  split
  · exact h
  · exact len_writesL l h
theorem len_flush {N : Nat} {P : DSt} (h : Len N P) : Len N (flushP P).1 := by
  unfold flushP
  split
  · exact h
  · split
    · exact len_crash (len_falls h) _
    · exact ⟨(len_falls h).1, (len_falls h).1⟩

theorem dcells_set {l : List (Int × ByteArray)} {k : Nat} {p : Int × ByteArray} (h : l[k]? = some p) (d : ByteArray) : (dcells l).set (k * 2 + 1) (.string d) = dcells (l.set k (p.1, d)) := by
  induction l generalizing k with
  | nil => simp at h
  | cons q l ih =>
    cases k with
    | zero => simp at h; subst h; rfl
    | succ k =>
      have := ih (k := k) (by simpa using h)
      rw [show dcells (q :: l) = .int .i64 q.1 :: .string q.2 :: dcells l from rfl, show (k + 1) * 2 + 1 = (k * 2 + 1) + 1 + 1 by omega, List.set_cons_succ, List.set_cons_succ, this]
      rfl
section
variable {w0 w : World} {g : Nat} {F : List Nat} {P : DSt}
theorem plainFlush_o (h : PlainO w0 w g F P) (h0 : Below w0.heap.size w0 w) (harm : P.armed = true → 0 ≤ P.left) :
    Calls Try.prog 30 #[.pointer (some ⟨g, 0, none⟩)] w fun e w' => e = .returned (.int .i64 (flushP P).2) ∧ PlainTo w0 w w' g F (flushP P).1 := by
  obtain ⟨bl, cl, bs, cs, V, K, kc, a, h1⟩ := h.ex
  exact plainFlush_calls a h1 h0 harm
theorem plainCrash_o (h : PlainO w0 w g F P) (A : Option Addr) (m c : Nat) (keep : List Int) (hl : keep.length = m) (hm : m ≤ 1000000) (hR : ∀ w', Touched w w' F → RowAt w' A (icells keep)) :
    Calls Try.prog 32 #[.pointer (some ⟨g, 0, none⟩), .slice A m c] w fun e w' => e = .returned (.int .i64 ((crashP P keep).2 : Int)) ∧ PlainTo w0 w w' g F (crashP P keep).1 := by
  obtain ⟨bl, cl, bs, cs, V, K, kc, a, h1⟩ := h.ex
  exact plainCrash_calls a h1 A m c keep hl hm (fun w' hT => hR w' (hT.mono fun k hk _ => by simp at hk; subst hk; exact h1 _ (by simp)))
theorem plainWrite_o (h : PlainO w0 w g F P) (h0 : Below w0.heap.size w0 w) (harm : P.armed = true → 0 ≤ P.left) (A : Option Addr) (n c : Nat) (l : List (Int × ByteArray)) (hl : l.length = n) (hroom : P.ws.length + P.many + 2 * n ≤ 1000000000) (hR : ∀ w', Touched w w' F → RowAt w' A (dcells l)) :
    Calls Try.prog 27 #[.pointer (some ⟨g, 0, none⟩), .slice A n c] w fun e w' => e = .returned (.int .i64 (writesP P l).2) ∧ PlainTo w0 w w' g F (writesP P l).1 := by
  obtain ⟨bl, cl, bs, cs, V, K, kc, a, h1⟩ := h.ex
  exact plainWrite_calls a h1 h0 (fun k hk => (h.lo k hk).1) harm A n c l hl hroom hR
/-- The power comes again. -/
theorem plain_on (h : PlainO w0 w g F P) : PlainTo w0 w (w.setCell ⟨g, 3, none⟩ (.bool false)) g F { P with off := false } ∧ ∃ v, w.cell? ⟨g, 3, none⟩ = some v ∧ w.frozen? ⟨g, 3, none⟩ = false := by
  obtain ⟨bl, cl, bs, cs, V, K, kc, a, h1⟩ := h.ex
  have hT : Touched w (w.setCell ⟨g, 3, none⟩ (.bool false)) [g] := (Touched.refl w _).setCell (.inl (by simp)) _
  refine ⟨PlainTo.at (bl' := bl) (cl' := cl) (bs' := bs) (cs' := cs) (V' := V) (K' := K) (kc' := kc) ?_ (fun k hk => .inl (h1 k hk)) (hT.mono (fun k hk _ => h1 k (by simp at hk; simp [hk]))), _, a.fld (i := 3) rfl⟩
  exact PlainAt.refield hT (a.of.set 3 (by simp [pflds]) (.bool false)).1 a.ol a.os a.ls a.ow a.rk a.n1 a.n2 a.n3 a.n4 a.pos a.big a.inv a.ge
/-- The power is to go: three stores. -/
theorem plain_arm (h : PlainO w0 w g F P) (x : Int) (ba : Bool) (hba : decide (0 ≤ x) = ba) (A : Option Addr) (n c : Nat) (keep : List Int) (hl : keep.length = n) (hn : n ≤ 1000000) (hx : -9223372036854775808 ≤ x ∧ x ≤ 9223372036854775807) (hk : ∀ z ∈ keep, -9223372036854775808 ≤ z ∧ z ≤ 9223372036854775807) (hR : RowAt w0 A (icells keep)) :
    PlainTo w0 w (((w.setCell ⟨g, 4, none⟩ (.bool ba)).setCell ⟨g, 5, none⟩ (.int .i64 x)).setCell ⟨g, 6, none⟩ (.slice A n c)) g F (armD P x keep) ∧ ∃ v4 v5 v6, (w.cell? ⟨g, 4, none⟩ = some v4 ∧ w.frozen? ⟨g, 4, none⟩ = false) ∧ (w.cell? ⟨g, 5, none⟩ = some v5 ∧ w.frozen? ⟨g, 5, none⟩ = false) ∧ (w.cell? ⟨g, 6, none⟩ = some v6 ∧ w.frozen? ⟨g, 6, none⟩ = false) := by
  obtain ⟨bl, cl, bs, cs, V, K, kc, a, h1⟩ := h.ex
  have hT : Touched w (((w.setCell ⟨g, 4, none⟩ (.bool ba)).setCell ⟨g, 5, none⟩ (.int .i64 x)).setCell ⟨g, 6, none⟩ (.slice A n c)) [g] := (((Touched.refl w _).setCell (.inl (by simp)) _).setCell (.inl (by simp)) _).setCell (.inl (by simp)) _
  refine ⟨PlainTo.at (bl' := bl) (cl' := cl) (bs' := bs) (cs' := cs) (V' := V) (K' := A) (kc' := c) ?_ (fun k hk => .inl (h1 k hk)) (hT.mono (fun k hk _ => h1 k (by simp at hk; simp [hk]))), _, _, _, a.fld (i := 4) rfl, a.fld (i := 5) rfl, a.fld (i := 6) rfl⟩
  have h5 := (((a.of.set 4 (by simp [pflds]) (.bool ba)).1.set 5 (by simp [pflds]) (.int .i64 x)).1.set 6 (by simp [pflds]) (.slice A n c)).1
  simp only [pflds, List.set_cons_zero, List.set_cons_succ] at h5
  refine PlainAt.refield hT ?_ a.ol a.os a.ls a.ow hR a.n1 a.n2 a.n3 a.n4 a.pos ⟨a.big.1, by show keep.length ≤ _; omega, a.big.2.2.1, hk, a.big.2.2.2.2⟩ hx a.ge
  show Own _ _ _ _ _ (pflds bl cl bs cs V A c (armD P x keep))
  simp only [pflds, armD, hba, hl]
  exact h5
theorem DiskTo.after {w1 w2 : World} {D : DSt} (hb : Below w.heap.size w w1) (h : DiskTo w0 w1 w2 g F D) : DiskTo w0 w w2 g F D := by
  obtain ⟨⟨F', h1, h2⟩, h3⟩ := h
  exact ⟨⟨F', h1, fun k hk => (h2 k hk).imp id (fun h => Nat.le_trans hb.size h)⟩, (Touched.of_below hb _).trans h3⟩
theorem PlainTo.after {w1 w2 : World} (hb : Below w.heap.size w w1) (h : PlainTo w0 w1 w2 g F P) : PlainTo w0 w w2 g F P := by
  obtain ⟨⟨F', h1, h2⟩, h3⟩ := h
  exact ⟨⟨F', h1, fun k hk => (h2 k hk).imp id (fun h => Nat.le_trans hb.size h)⟩, (Touched.of_below hb _).trans h3⟩
end
/-- What an act leaves. -/
structure ActTo (w0 w w' : World) (gd gp : Nat) (Fd Fp : List Nat) (D P : DSt) : Prop where
  ex : ∃ D' P', TwoTo w0 w w' gd gp Fd Fp D' P' ∧ D'.ws.length + D'.many ≤ D.ws.length + D.many + 12000 ∧ ∀ N, Len N P → Len N P'
theorem Two.ptr {w0 w w' : World} {gd gp : Nat} {Fd Fp : List Nat} {D P D' : DSt} (T : Two w0 w gd gp Fd Fp D P) (h : DiskTo w0 w w' gd Fd D') : PlainO w0 w' gp Fp P ∧ Below w0.heap.size w0 w' :=
  ⟨T.p.keep h.touched (fun k hk hd => T.ne k hd hk), h.touched.below T.bel T.bel.size (fun k hk => (T.d.lo k hk).1)⟩
end Go.Proofs.Ytbnkmndgfmmiaaa
