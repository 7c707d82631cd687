/- The disk: one sector is read; all is made safe; the power comes again; the power is to go; a new one. -/
import Derived.Test.YtbnkmndgfmmiaaaDisk4
namespace Go.Proofs.Ytbnkmndgfmmiaaa
open Go.RowKit
set_option linter.unusedVariables false

/-- A sector of zero bytes. -/
def zerosB (n : Nat) : ByteArray := ⟨(List.replicate n (0 : UInt8)).toArray⟩
theorem zerosB_size (n : Nat) : (zerosB n).size = n := by simp [zerosB, ByteArray.size]
def zeroS : ByteArray := zerosB 256
theorem zeroS_size : zeroS.size = 256 := zerosB_size 256
theorem repeatL_one (b : UInt8) (n : Nat) : Lib.repeatL [b] n = List.replicate n b := by
  induction n with
  | zero => rfl
  | succ n ih => rw [List.replicate_succ, ← ih]; rfl
def newD (n : Nat) : DSt := ⟨List.replicate n zeroS, List.replicate n zeroS, [], 0, false, false, 0, []⟩
theorem zeroRep_calls (w : World) : Calls Try.prog 22 #[.string ⟨#[0]⟩, .int .i64 256] w fun e w' => e = .returned (.string zeroS) ∧ Below w.heap.size w w' :=
  (Try.strings_Repeat ⟨#[0]⟩ 256 w (by omega) (by show 1 * 256 ≤ _; omega)).mono fun e w' ⟨he, hb⟩ => ⟨by
    rw [he]
    rw [show (⟨#[0]⟩ : ByteArray).data.toList = [0] from rfl, repeatL_one]; rfl, hb⟩

set_option maxHeartbeats 3200000 in
theorem diskNew_calls (n : Nat) (w : World) (h1 : 140 ≤ n) (h2 : n ≤ 2000) :
    Calls Try.prog 6 #[.int .i64 (n : Int)] w fun e w' => ∃ g bl cl bs cs, e = .returned (.tuple #[.pointer (some ⟨g, 0, none⟩), .int .i64 0]) ∧ DiskAt w' g bl cl bs cs (.slice none 0 0) none 0 (newD n) ∧ w.heap.size ≤ g ∧ w.heap.size ≤ bl ∧ w.heap.size ≤ bs ∧ Below w.heap.size w w' := by
  have hb1 : (140 : Int) ≤ (n : Int) := by omega
  have hb2 : (n : Int) ≤ 2000 := by omega
  go_enter Try.func6, Try.ntmps6
  go_wp2_with fail
  refine (zeroRep_calls _).mono ?_
  rintro e w1 ⟨rfl, hb⟩
  have HB1 : Box _ := ⟨hb⟩; clear hb
  have HR : Box _ := ⟨fun k hk => repeatS_calls zeroS k n (w1.alloc (.cells #[.string zeroS] 9)) (by omega) (by omega) (rowAt_alloc_k w1 [.string zeroS] 9 hk)⟩
  obtain ⟨z, hz⟩ : ∃ z, zeroS = z := ⟨_, rfl⟩
  have HZ : Box _ := ⟨hz⟩
  rw [hz] at HR ⊢
  clear hz
  go_wp2_with fail
  refine (HR.out _ rfl).mono ?_
  rintro e w2 ⟨b1, rfl, hg1, ho1, hb2⟩
  have hw12 : w.heap.size ≤ w1.heap.size := HB1.out.size
  have hg1' : w1.heap.size + 1 ≤ b1 := by simpa using hg1
  have HB2 : Box (Below w.heap.size w w2) := ⟨Below.trans (HB1.out.alloc hw12 (.cells #[.string z] 9)) (hb2.mono (by simp; omega))⟩
  have HO1 : Box (Own w2 0 1 (.slice (some ⟨b1, 0, none⟩) n n) n (scells (List.replicate n z))) := ⟨ho1.weaken (Nat.zero_le _)⟩
  have HC : Box _ := ⟨cloneS_calls (some ⟨b1, 0, none⟩) n n (scells (List.replicate n z)) w2 (fun h => by cases h) (by simp [scells]) (by omega) (one_scells _) (by
    obtain ⟨A9, c9, e9, _, hr9, _⟩ := ho1.slice
    injection e9 with e91
    subst e91
    exact hr9)⟩
  clear hb2 ho1 hg1
  go_wp2_with fail
  refine HC.out.mono ?_
  rintro e w3 ⟨v3, rfl, ho3, hb3⟩
  obtain ⟨b2, c2, rfl, hb2l, hb2s, _, _⟩ := ho3.form (by omega)
  have HB3 : Box (Below w.heap.size w w3) := ⟨below_trans' HB2.out hb3⟩
  have hw23 : w2.heap.size ≤ w3.heap.size := hb3.size
  have HO3 : Box (Own w3 0 1 (.slice (some ⟨b2, 0, none⟩) n c2) n (scells (List.replicate n z))) := ⟨ho3.weaken (Nat.zero_le _)⟩
  have HO1' : Box _ := ⟨HO1.out.below hb3⟩
  have hb1l : b1 < w2.heap.size := (HO1.out.lt b1 (by simp [Value.ownBlock])).2
  clear ho3 hb3
  go_wp2_with fail
  go_ret2
  have hbn := heap_alloc_new w3 (.cells #[.slice (some ⟨b1, 0, none⟩) n n, .slice (some ⟨b2, 0, none⟩) n c2, .slice none 0 0, .int .i64 0, .bool false, .bool false, .int .i64 0, .slice none 0 0] 55)
  have hf := Own.fresh w3 #[.slice (some ⟨b1, 0, none⟩) n n, .slice (some ⟨b2, 0, none⟩) n c2, .slice none 0 0, .int .i64 0, .bool false, .bool false, .int .i64 0, .slice none 0 0] 55 (show 8 ≤ maxLen by decide)
  have hw3 := HB3.out.size
  refine ⟨w3.heap.size, b1, n, b2, c2, rfl, ?_, by omega, by omega, by have := HB2.out.size; omega, HB3.out.alloc HB3.out.size _⟩
  have hlen : (newD n).l.length = n := by simp [newD]
  have h4 := hf.weaken (base' := 0) (Nat.zero_le _)
  refine ⟨?_, ?_, ?_, ?_, Own.nil _ _ _, .nil _ _, fun _ => ⟨rfl, rfl⟩, by simp [newD], by omega, by omega, by omega, (fun b hb => by simp [Value.ownBlock] at hb), .inl rfl, (fun b hb => by cases hb), by rw [hlen]; omega, ?_, by simp [newD]⟩
  · simp only [dflds, hlen]
    exact h4
  · rw [hlen]; have := HO1'.out.alloc (.cells #[.slice (some ⟨b1, 0, none⟩) n n, .slice (some ⟨b2, 0, none⟩) n c2, .slice none 0 0, .int .i64 0, .bool false, .bool false, .int .i64 0, .slice none 0 0] 55); rw [← HZ.out] at this; exact this
  · rw [hlen]; have := HO3.out.alloc (.cells #[.slice (some ⟨b1, 0, none⟩) n n, .slice (some ⟨b2, 0, none⟩) n c2, .slice none 0 0, .int .i64 0, .bool false, .bool false, .int .i64 0, .slice none 0 0] 55); rw [← HZ.out] at this; exact this
  · simp [newD]
  · refine ⟨by rw [hlen]; exact h2, by simp [newD], by simp [newD], by simp [newD], by simp [newD]⟩
theorem diskNew_bad (n : Int) (w : World) (h : n < 140 ∨ 2000 < n) :
    Calls Try.prog 6 #[.int .i64 n] w fun e w' => e = .returned (.tuple #[.pointer none, .int .i64 1]) ∧ w = w' := by
  rcases h with h | h
  · go_enter Try.func6, Try.ntmps6
    go_wp2
    go_ret2
    exact ⟨rfl, rfl⟩
  · have h' : ¬ n < 140 := by omega
    go_enter Try.func6, Try.ntmps6
    go_wp2
    go_ret2
    exact ⟨rfl, rfl⟩
section
variable {w : World} {g bl cl bs cs : Nat} {V : Value} {K : Option Addr} {kc : Nat} {D : DSt}
def readD (D : DSt) (x : Int) : ByteArray × Int := if mayE D x ≠ 0 then (ByteArray.empty, mayE D x) else (D.l.getD x.toNat ByteArray.empty, 0)
theorem diskRead_calls (a : DiskAt w g bl cl bs cs V K kc D) (x : Int) : Calls Try.prog 17 #[.pointer (some ⟨g, 0, none⟩), .int .i64 x] w fun e w' => e = .returned (.tuple #[.string (readD D x).1, .int .i64 (readD D x).2]) ∧ w = w' := by
  have HM : Box _ := ⟨diskMay_calls a x⟩
  by_cases h1 : mayE D x = 0
  · have hx : 0 ≤ x ∧ x < (D.l.length : Int) := by
      unfold mayE at h1
      split at h1
      · cases h1
      · split at h1
        · cases h1
        · omega
    obtain ⟨y, rfl⟩ : ∃ y : Nat, x = (y : Int) := ⟨x.toNat, by omega⟩
    have hy : y < D.l.length := by omega
    obtain ⟨k0, _⟩ := a.fld (i := 0) rfl
    obtain ⟨l0, _⟩ := a.ol.cell (j := y) (u := .string D.l[y]) (scells_at (List.getElem?_eq_getElem hy))
    have e : readD D (y : Int) = (D.l[y], 0) := by rw [readD, if_neg (by simp [h1]), Int.toNat_natCast, List.getD_eq_getElem?_getD, List.getElem?_eq_getElem hy]; rfl
    rw [e]
    rw [h1] at HM
    obtain ⟨s, hs⟩ : ∃ s, D.l[y] = s := ⟨_, rfl⟩
    rw [hs] at l0 ⊢
    obtain ⟨n, hn⟩ : ∃ n, D.l.length = n := ⟨_, rfl⟩
    have k0 : w.cell? ⟨g, 0, none⟩ = some (.slice (some ⟨bl, 0, none⟩) n cl) := by rw [← hn]; exact k0
    have j0 : (0 : Int) ≤ (y : Int) := by omega
    have j1 : (y : Int) < (n : Int) := by omega
    clear a h1 hx e hs hn
    go_enter Try.func17, Try.ntmps17
    go_wp2_with fail
    refine HM.out.mono ?_
    rintro e w1 ⟨rfl, rfl⟩
    go_wp2
    go_ret2
    exact ⟨rfl, rfl⟩
  · have e : readD D x = (ByteArray.empty, mayE D x) := by rw [readD, if_pos h1]
    rw [e]
    obtain ⟨r, hr⟩ : ∃ r, mayE D x = r := ⟨_, rfl⟩
    rw [hr] at HM h1 ⊢
    have h1' : (r == 0) = false := by simpa using h1
    clear e hr h1 a
    go_enter Try.func17, Try.ntmps17
    go_wp2_with fail
    refine HM.out.mono ?_
    rintro e w1 ⟨rfl, rfl⟩
    go_wp2
    go_ret2
    exact ⟨rfl, rfl⟩
theorem diskRestore_calls (a : DiskAt w g bl cl bs cs V K kc D) : Calls Try.prog 16 #[.pointer (some ⟨g, 0, none⟩)] w fun e w' => e = .returned (.tuple #[]) ∧ DiskAt w' g bl cl bs cs V K kc { D with off := false } ∧ Touched w w' [g] := by
  have hT : Touched w (w.setCell ⟨g, 4, none⟩ (.bool false)) [g] := (Touched.refl w _).setCell (.inl (by simp)) _
  have H : Box (DiskAt (w.setCell ⟨g, 4, none⟩ (.bool false)) g bl cl bs cs V K kc { D with off := false }) := ⟨DiskAt.refield hT (a.of.set 4 (by simp [dflds]) (.bool false)).1 a.ol a.os a.ls a.ow a.rk a.kn a.kl a.n1 a.n2 a.n3 a.n4 a.n5 a.kb a.pos a.big a.inv⟩
  obtain ⟨_, f4⟩ := a.fld (i := 4) rfl
  have HT : Box _ := ⟨hT⟩
  clear a hT
  go_enter Try.func16, Try.ntmps16
  go_wp2
  go_end0
  exact ⟨rfl, H.out, HT.out⟩
end
end Go.Proofs.Ytbnkmndgfmmiaaa
