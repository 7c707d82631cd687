/- Two disks side by side, the program's and the document's, that tell the same; same. -/
import Derived.Test.YtbnkmndgfmmiaaaDiskTwin
namespace Go.Proofs.Ytbnkmndgfmmiaaa
open Go.RowKit
set_option linter.unusedVariables false

structure Two (w0 w : World) (gd gp : Nat) (Fd Fp : List Nat) (D P : DSt) : Prop where
  d : DiskO w0 w gd Fd D
  p : PlainO w0 w gp Fp P
  ne : ∀ k ∈ Fd, k ∉ Fp
  like : Like D P
  bel : Below w0.heap.size w0 w
structure TwoTo (w0 w w' : World) (gd gp : Nat) (Fd Fp : List Nat) (D' P' : DSt) : Prop where
  ex : ∃ Fd' Fp', Two w0 w' gd gp Fd' Fp' D' P' ∧ (∀ k ∈ Fd' ++ Fp', k ∈ Fd ++ Fp ∨ w.heap.size ≤ k)
  touched : Touched w w' (Fd ++ Fp)
section
variable {w0 w w' w1 w2 : World} {gd gp : Nat} {Fd Fp ts : List Nat} {D P D' P' : DSt}
theorem Two.keep (T : Two w0 w gd gp Fd Fp D P) (hT : Touched w w' ts) (h1 : ∀ k ∈ Fd ++ Fp, k ∉ ts) (h2 : ∀ k ∈ ts, w0.heap.size ≤ k) : Two w0 w' gd gp Fd Fp D P :=
  ⟨T.d.keep hT (fun k hk => h1 k (List.mem_append_left _ hk)), T.p.keep hT (fun k hk => h1 k (List.mem_append_right _ hk)), T.ne, T.like, hT.below T.bel T.bel.size h2⟩
theorem Two.below (T : Two w0 w gd gp Fd Fp D P) (hb : Below w.heap.size w w') : Two w0 w' gd gp Fd Fp D P := T.keep (Touched.of_below hb []) (by simp) (by simp)
theorem Two.drewN (T : Two w0 w gd gp Fd Fp D P) (m : Nat) : Two w0 (w.drewN m) gd gp Fd Fp D P := T.keep ((Touched.refl w []).drewN m) (by simp) (by simp)
theorem Two.lo (T : Two w0 w gd gp Fd Fp D P) : ∀ k ∈ Fd ++ Fp, w0.heap.size ≤ k ∧ k < w.heap.size := fun k hk => (List.mem_append.1 hk).elim (T.d.lo k) (T.p.lo k)
theorem Two.armD (T : Two w0 w gd gp Fd Fp D P) : D.armed = true → 0 ≤ D.left := fun h => by have := T.like.left h; omega
theorem Two.armP (T : Two w0 w gd gp Fd Fp D P) : P.armed = true → 0 ≤ P.left := fun h => (T.like.left (by rw [T.like.armed]; exact h)).2
theorem TwoTo.refl (T : Two w0 w gd gp Fd Fp D P) (hb : Below w.heap.size w w') : TwoTo w0 w w' gd gp Fd Fp D P := ⟨⟨Fd, Fp, T.below hb, fun k hk => .inl hk⟩, Touched.of_below hb _⟩
/-- First the disk, then the document's. -/
theorem TwoTo.of (T : Two w0 w gd gp Fd Fp D P) (h1 : DiskTo w0 w w1 gd Fd D') (h2 : PlainTo w0 w1 w2 gp Fp P') (hl : Like D' P') : TwoTo w0 w w2 gd gp Fd Fp D' P' := by
  obtain ⟨⟨Fd', hd, hdF⟩, hT1⟩ := h1
  obtain ⟨⟨Fp', hp, hpF⟩, hT2⟩ := h2
  have s1 := hT1.size
  have hbw : Below w0.heap.size w0 w1 := hT1.below T.bel T.bel.size (fun k hk => (T.d.lo k hk).1)
  have dis : ∀ k ∈ Fd', k ∉ Fp := by
    intro k hk hkp
    rcases hdF k hk with h | h
    · exact T.ne k h hkp
    · have := (T.p.lo k hkp).2; omega
  refine ⟨⟨Fd', Fp', ⟨hd.keep hT2 dis, hp, ?_, hl, hT2.below hbw hbw.size (fun k hk => (T.p.lo k hk).1)⟩, ?_⟩, ?_⟩
  · intro k hk hkp
    rcases hpF k hkp with h | h
    · exact dis k hk h
    · have := (hd.lo k hk).2; omega
  · intro k hk
    rcases List.mem_append.1 hk with h | h
    · rcases hdF k h with h | h
      · exact .inl (List.mem_append_left _ h)
      · exact .inr h
    · rcases hpF k h with h | h
      · exact .inl (List.mem_append_right _ h)
      · exact .inr (by omega)
  · exact (hT1.mono (fun k hk _ => List.mem_append_left _ hk)).trans (hT2.mono (fun k hk _ => List.mem_append_right _ hk))
/-- One behind another. -/
theorem TwoTo.after (hb : Below w.heap.size w w1) (h : TwoTo w0 w1 w2 gd gp Fd Fp D' P') : TwoTo w0 w w2 gd gp Fd Fp D' P' := by
  obtain ⟨⟨Fd', Fp', hT, hF⟩, h2⟩ := h
  exact ⟨⟨Fd', Fp', hT, fun k hk => (hF k hk).imp id (fun h => Nat.le_trans hb.size h)⟩, (Touched.of_below hb _).trans h2⟩
theorem TwoTo.then (h : TwoTo w0 w w1 gd gp Fd Fp D' P') (hb : Below w1.heap.size w1 w2) : TwoTo w0 w w2 gd gp Fd Fp D' P' := by
  obtain ⟨⟨Fd', Fp', hT, hF⟩, h2⟩ := h
  exact ⟨⟨Fd', Fp', hT.below hb, hF⟩, h2.trans (Touched.of_below hb _)⟩

set_option maxHeartbeats 3200000 in
set_option maxRecDepth 100000 in
theorem same_calls (T : Two w0 w gd gp Fd Fp D P) (x : Int) (hN : 140 ≤ P.l.length) : Calls Try.prog 11 #[.pointer (some ⟨gd, 0, none⟩), .pointer (some ⟨gp, 0, none⟩), .int .i64 x] w fun e w' => e = .returned (.bool true) ∧ Below w.heap.size w w' := by
  have HT : Box _ := ⟨T⟩
  obtain ⟨bl, cl, bs, cs, V, K, kc, a, _⟩ := T.p.ex
  obtain ⟨AV, cV, rfl, _, _, _⟩ := a.ow.slice
  have HA : Box _ := ⟨a⟩
  obtain ⟨N, hNN⟩ : ∃ N, P.l.length = N := ⟨_, rfl⟩
  obtain ⟨n, hn⟩ : ∃ n, P.ws.length = n := ⟨_, rfl⟩
  obtain ⟨q, hq⟩ : ∃ q, P.many = q := ⟨_, rfl⟩
  obtain ⟨b, hb⟩ : ∃ b, P.off = b := ⟨_, rfl⟩
  have HOn : Box (∀ m, Calls Try.prog 19 #[.pointer (some ⟨gd, 0, none⟩)] (w.drewN m) fun e w'' => e = .returned (.bool (!b)) ∧ ∃ k, w'' = w.drewN k) := ⟨fun m => Calls.quiet_of_same ((diskOn_o (T.drewN m).d).mono fun e w' ⟨h1, h2⟩ => ⟨by rw [h1, T.like.off, hb], h2.symm⟩)⟩
  have HSi : Box (∀ m, Calls Try.prog 20 #[.pointer (some ⟨gd, 0, none⟩)] (w.drewN m) fun e w'' => e = .returned (.int .i64 (N : Int)) ∧ ∃ k, w'' = w.drewN k) := ⟨fun m => Calls.quiet_of_same ((diskSize_o (T.drewN m).d).mono fun e w' ⟨h1, h2⟩ => ⟨by rw [h1, T.like.l, hNN], h2.symm⟩)⟩
  have HDi : Box (∀ m, Calls Try.prog 35 #[.pointer (some ⟨gd, 0, none⟩)] (w.drewN m) fun e w'' => e = .returned (.int .i64 (n : Int)) ∧ ∃ k, w'' = w.drewN k) := ⟨fun m => Calls.quiet_of_same ((diskDirty_o (T.drewN m).d).mono fun e w' ⟨h1, h2⟩ => ⟨by rw [h1, T.like.ws, hn], h2.symm⟩)⟩
  have HWr : Box (∀ m, Calls Try.prog 36 #[.pointer (some ⟨gd, 0, none⟩)] (w.drewN m) fun e w'' => e = .returned (.int .i64 (q : Int)) ∧ ∃ k, w'' = w.drewN k) := ⟨fun m => Calls.quiet_of_same ((diskWrites_o (T.drewN m).d).mono fun e w' ⟨h1, h2⟩ => ⟨by rw [h1, T.like.many, hq], h2.symm⟩)⟩
  have HRd : Box (∀ m y, Calls Try.prog 17 #[.pointer (some ⟨gd, 0, none⟩), .int .i64 y] (w.drewN m) fun e w'' => e = .returned (.tuple #[.string (readD P y).1, .int .i64 (readD P y).2]) ∧ w.drewN m = w'') := ⟨fun m y => (diskRead_o (T.drewN m).d y).mono fun e w' ⟨h1, h2⟩ => ⟨by
    have e1 : readD D y = readD P y := by unfold readD mayE; rw [T.like.off, T.like.l]
    rw [h1, e1], h2⟩⟩
  obtain ⟨k0, _⟩ := a.fld (i := 0) rfl
  obtain ⟨k2, _⟩ := a.fld (i := 2) rfl
  obtain ⟨k3, _⟩ := a.fld (i := 3) rfl
  obtain ⟨k7, _⟩ := a.fld (i := 7) rfl
  replace k0 : w.cell? ⟨gp, 0, none⟩ = some (.slice (some ⟨bl, 0, none⟩) N cl) := by rw [← hNN]; exact k0
  replace k2 : w.cell? ⟨gp, 2, none⟩ = some (.slice AV n cV) := by rw [← hn]; exact k2
  replace k3 : w.cell? ⟨gp, 3, none⟩ = some (.bool b) := by rw [← hb]; exact k3
  replace k7 : w.cell? ⟨gp, 7, none⟩ = some (.int .i64 (q : Int)) := by rw [← hq]; exact k7
  have HN : Box _ := ⟨hNN⟩
  have HO : Box _ := ⟨hb⟩
  have hN140 : (140 : Int) ≤ (N : Int) := by omega
  have HL : Box (∀ y : Nat, y < N → ∃ s, P.l[y]? = some s ∧ w.cell? ⟨bl, y, none⟩ = some (.string s)) := ⟨fun y hy => by
    have hy' : y < P.l.length := by omega
    exact ⟨P.l[y], List.getElem?_eq_getElem hy', (a.ol.cell (j := y) (scells_at (List.getElem?_eq_getElem hy'))).1⟩⟩
  clear a T hNN hn hq hb hN
  have key : ∀ m, (w.drewN m).cell? = w.cell? := fun m => rfl
  cases b
  · have HR0 : Box (∀ y : Nat, y < N → ∀ s, P.l[y]? = some s → readD P (y : Int) = (s, 0)) := ⟨fun y hy s hs => by
      have h1 : mayE P (y : Int) = 0 := by
        unfold mayE
        rw [HO.out, HN.out]
        simp; omega
      rw [readD, h1]
      simp [List.getD_eq_getElem?_getD, hs]⟩
    have HR1 : Box (∀ y : Int, (y < 0 ∨ (N : Int) ≤ y) → readD P y = (ByteArray.empty, 15)) := ⟨fun y hy => by
      have h1 : mayE P y = 15 := by
        unfold mayE
        rw [HO.out, HN.out]
        simp [hy]
      rw [readD, h1]; simp⟩
    go_enter Try.func11, Try.ntmps11
    go_wp2_with fail
    go_big_quiet ((first | (go_at_call 19; exact HOn.out _) | (go_at_call 20; exact HSi.out _) | (go_at_call 35; exact HDi.out _) | (go_at_call 36; exact HWr.out _)))
    go_wp2_with fail
    have HRW : Box (∀ y, Calls Try.prog 17 #[.pointer (some ⟨gd, 0, none⟩), .int .i64 y] (w.drewN nq) fun e w'' => e = .returned (.tuple #[.string (readD P y).1, .int .i64 (readD P y).2]) ∧ w.drewN nq = w'') := ⟨HRd.out nq⟩
    have HB : Box (Below w.heap.size w (w.drewN nq)) := ⟨below_drewN (Below.refl _ _) _⟩
    have m0 : (w.drewN nq).cell? ⟨gp, 0, none⟩ = some (.slice (some ⟨bl, 0, none⟩) N cl) := k0
    have m3 : (w.drewN nq).cell? ⟨gp, 3, none⟩ = some (.bool false) := k3
    have HLW : Box (∀ y : Nat, y < N → ∃ s, P.l[y]? = some s ∧ (w.drewN nq).cell? ⟨bl, y, none⟩ = some (.string s)) := ⟨HL.out⟩
    obtain ⟨W, hW⟩ : ∃ W, w.drewN nq = W := ⟨_, rfl⟩
    simp only [hW] at HRW HB m0 m3 HLW ⊢
    clear hW HOn HSi HDi HWr HRd k0 k2 k3 k7 HL HT HA
    go_loopw [7] (fun i wr => ∃ k : Nat, k ≤ 12 ∧ i = .int .i64 (k : Int) ∧ W = wr) (fun i _ => 12 - (intOf i).toNat)
    case atStart => exact ⟨0, by omega, rfl, rfl⟩
    case round =>
      obtain ⟨k, hk, rfl, rfl⟩ := hrel
      by_cases hlt : k < 12
      · obtain ⟨s, hs, hc⟩ := HLW.out k (by omega)
        have HC : Box _ := ⟨HRW.out (k : Int)⟩
        rw [HR0.out k (by omega) s hs] at HC
        have j1 : (k : Int) < (N : Int) := by omega
        have j2 : (k : Int) < 12 := by omega
        clear hs
        go_wp2_with fail
        refine HC.out.mono ?_
        rintro e w1 ⟨rfl, rfl⟩
        go_wp2_with fail
        go_roundw
        case rel => first | exact ⟨k + 1, by omega, by go_num, rfl⟩ | ((repeat apply Exists.intro); exact ⟨⟨k + 1, by omega, by go_num, by first | trivial | rfl⟩, by first | trivial | rfl⟩)
        case measure => simp [intOf]; omega
      · obtain rfl : k = 12 := by omega
        by_cases hx : x < 0 ∨ (N : Int) ≤ x
        · have HC : Box _ := ⟨HRW.out x⟩
          rw [HR1.out x hx] at HC
          rcases hx with hx | hx
          · go_wp2_with fail
            refine HC.out.mono ?_
            rintro e w1 ⟨rfl, rfl⟩
            go_wp2_with fail
            go_ret
            exact ⟨rfl, HB.out⟩
          · have hx0 : ¬ x < 0 := by omega
            go_wp2_with fail
            refine HC.out.mono ?_
            rintro e w1 ⟨rfl, rfl⟩
            go_wp2_with fail
            go_ret
            exact ⟨rfl, HB.out⟩
        · obtain ⟨y, rfl⟩ : ∃ y : Nat, x = (y : Int) := ⟨x.toNat, by omega⟩
          have hy : y < N := by omega
          obtain ⟨s, hs, hc⟩ := HLW.out y hy
          have HC : Box _ := ⟨HRW.out (y : Int)⟩
          rw [HR0.out y hy s hs] at HC
          have j1 : (y : Int) < (N : Int) := by omega
          have j0 : ¬ (y : Int) < 0 := by omega
          have j3 : (0 : Int) ≤ (y : Int) := by omega
          clear hs hx
          go_wp2_with fail
          refine HC.out.mono ?_
          rintro e w1 ⟨rfl, rfl⟩
          go_wp2_with fail
          go_ret
          exact ⟨rfl, HB.out⟩
  · have HR0 : Box (∀ y : Int, readD P y = (ByteArray.empty, 14)) := ⟨fun y => by
      have h1 : mayE P y = 14 := by
        unfold mayE
        rw [HO.out]
        simp
      rw [readD, h1]; simp⟩
    go_enter Try.func11, Try.ntmps11
    go_wp2_with fail
    go_big_quiet ((first | (go_at_call 19; exact HOn.out _) | (go_at_call 20; exact HSi.out _) | (go_at_call 35; exact HDi.out _) | (go_at_call 36; exact HWr.out _)))
    go_wp2_with fail
    have HRW : Box (∀ y, Calls Try.prog 17 #[.pointer (some ⟨gd, 0, none⟩), .int .i64 y] (w.drewN nq) fun e w'' => e = .returned (.tuple #[.string (readD P y).1, .int .i64 (readD P y).2]) ∧ w.drewN nq = w'') := ⟨HRd.out nq⟩
    have HB : Box (Below w.heap.size w (w.drewN nq)) := ⟨below_drewN (Below.refl _ _) _⟩
    have m0 : (w.drewN nq).cell? ⟨gp, 0, none⟩ = some (.slice (some ⟨bl, 0, none⟩) N cl) := k0
    have m3 : (w.drewN nq).cell? ⟨gp, 3, none⟩ = some (.bool true) := k3
    have HLW : Box (∀ y : Nat, y < N → ∃ s, P.l[y]? = some s ∧ (w.drewN nq).cell? ⟨bl, y, none⟩ = some (.string s)) := ⟨HL.out⟩
    obtain ⟨W, hW⟩ : ∃ W, w.drewN nq = W := ⟨_, rfl⟩
    simp only [hW] at HRW HB m0 m3 HLW ⊢
    clear hW HOn HSi HDi HWr HRd k0 k2 k3 k7 HL HT HA
    go_loopw [7] (fun i wr => ∃ k : Nat, k ≤ 12 ∧ i = .int .i64 (k : Int) ∧ W = wr) (fun i _ => 12 - (intOf i).toNat)
    case atStart => exact ⟨0, by omega, rfl, rfl⟩
    case round =>
      obtain ⟨k, hk, rfl, rfl⟩ := hrel
      by_cases hlt : k < 12
      · have HC : Box _ := ⟨HRW.out (k : Int)⟩
        rw [HR0.out] at HC
        have j1 : (k : Int) < (N : Int) := by omega
        have j2 : (k : Int) < 12 := by omega
        go_wp2_with fail
        refine HC.out.mono ?_
        rintro e w1 ⟨rfl, rfl⟩
        go_wp2_with fail
        go_roundw
        case rel => first | exact ⟨k + 1, by omega, by go_num, rfl⟩ | ((repeat apply Exists.intro); exact ⟨⟨k + 1, by omega, by go_num, by first | trivial | rfl⟩, by first | trivial | rfl⟩)
        case measure => simp [intOf]; omega
      · obtain rfl : k = 12 := by omega
        have HC : Box _ := ⟨HRW.out x⟩
        rw [HR0.out] at HC
        go_wp2_with fail
        refine HC.out.mono ?_
        rintro e w1 ⟨rfl, rfl⟩
        go_wp2_with fail
        go_ret
        exact ⟨rfl, HB.out⟩
end
end Go.Proofs.Ytbnkmndgfmmiaaa
