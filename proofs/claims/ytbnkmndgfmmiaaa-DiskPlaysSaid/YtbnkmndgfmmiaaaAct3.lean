/- act: Write. -/
import Derived.Test.YtbnkmndgfmmiaaaAct2
import Derived.Deep.CutBlock
namespace Go.Proofs.Ytbnkmndgfmmiaaa
open Go.RowKit
set_option linter.unusedVariables false

section
variable {w0 w : World} {gd gp : Nat} {Fd Fp : List Nat} {D P : DSt}
set_option maxHeartbeats 6400000 in
set_option maxRecDepth 100000 in
theorem act_write (T : Two w0 w gd gp Fd Fp D P) (o : DOpV) (hg : o.Good w0) (h6 : o.n1 ≤ 6000) (hroom : D.ws.length + D.many + 12000 ≤ 1000000000) (hk : o.kind = 1) :
    Calls Try.prog 10 #[.pointer (some ⟨gd, 0, none⟩), .pointer (some ⟨gp, 0, none⟩), o.val] w fun e w' => e = .returned (.bool true) ∧ ActTo w0 w w' gd gp Fd Fp D P := by
  obtain ⟨q0, q1, q2, q3, q4⟩ := opW_cells w o
  have hbW := opW_below w o
  have hsz := opW_size w o
  have T1 : Box _ := ⟨T.below hbW⟩
  have HB : Box _ := ⟨hbW⟩
  have hlo := T.lo
  have HGD : Box _ := ⟨hg⟩
  have HRM : Box _ := ⟨hroom⟩
  have HPR : Box (P.ws.length + P.many + 12000 ≤ 1000000000) := ⟨by rw [← T.like.ws, ← T.like.many]; exact hroom⟩
  have HL : Box _ := ⟨hg.r1.below T1.out.bel⟩
  have HLL : Box _ := ⟨hg.h1⟩
  have HLO : Box (∀ b, (opW w o).heap.size ≤ b → b ∉ Fd ∧ b ∉ Fp) := ⟨fun b hb => ⟨fun h => by have := (hlo b (List.mem_append_left _ h)).2; omega, fun h => by have := (hlo b (List.mem_append_right _ h)).2; omega⟩⟩
  have HSZ : Box _ := ⟨hsz⟩
  have HQ3 : Box _ := ⟨q3⟩
  rw [hk] at q0
  unfold DOpV.val
  rw [hk]
  clear T hbW hlo q1 q4 hsz hg hroom
  unfold opW at q0 q2 q3 HQ3 T1 HB HL HLO HSZ
  rw [hk] at q0 q2 q3 HQ3 T1 HB HL HLO HSZ
  go_enter Try.func10, Try.ntmps10
  go_upto_block 1 with (at_builtin; refine appO el_writes (w.alloc (.cells #[.int .i64 1, .int .i64 o.n, .slice o.a1 o.n1 o.c1, .bool o.own, .slice o.a2 o.n2 o.c2] 34)).heap.size rfl _ _ rfl (v := .slice none 0 0) (n := 0) (xs := []) rfl (Own.nil _ _ _) rfl (news := dcells o.ws) (by rw [dcells_length, HLL.out]) HL.out (one_dcells _) (by omega) (Nat.le_refl _) ?_; intro v1 w2 ho1 hg1 _; rw [Nat.zero_add, List.nil_append] at ho1; have hb2 : Below (w.alloc (.cells #[.int .i64 1, .int .i64 o.n, .slice o.a1 o.n1 o.c1, .bool o.own, .slice o.a2 o.n2 o.c2] 34)).heap.size (w.alloc (.cells #[.int .i64 1, .int .i64 o.n, .slice o.a1 o.n1 o.c1, .bool o.own, .slice o.a2 o.n2 o.c2] 34)) w2 := grown_nil hg1; have HB2 : Box _ := ⟨hb2⟩; obtain ⟨A1, c1, rfl, _, _, _⟩ := ho1.slice; have HO1 : Box _ := ⟨ho1⟩; clear ho1 hg1 hb2 q0 q2 q3)
  go_cut [8] (fun i wx => ∃ L : List (Int × ByteArray), L.length = o.n1 ∧ Box (Own wx (w.alloc (.cells #[.int .i64 1, .int .i64 o.n, .slice o.a1 o.n1 o.c1, .bool o.own, .slice o.a2 o.n2 o.c2] 34)).heap.size 2 (.slice A1 o.n1 c1) o.n1 (dcells L)) ∧ Box (Below (w.alloc (.cells #[.int .i64 1, .int .i64 o.n, .slice o.a1 o.n1 o.c1, .bool o.own, .slice o.a2 o.n2 o.c2] 34)).heap.size (w.alloc (.cells #[.int .i64 1, .int .i64 o.n, .slice o.a1 o.n1 o.c1, .bool o.own, .slice o.a2 o.n2 o.c2] 34)) wx))
  case first =>
    go_wp2_with fail
    go_loopw [8] (fun i wr => ∃ (k : Nat) (L : List (Int × ByteArray)), k ≤ o.n1 ∧ i = .int .i64 (k : Int) ∧ L.length = o.n1 ∧ Box (∀ p ∈ L, p.2.size ≤ 140737488351232) ∧ Box (Own wr (w.alloc (.cells #[.int .i64 1, .int .i64 o.n, .slice o.a1 o.n1 o.c1, .bool o.own, .slice o.a2 o.n2 o.c2] 34)).heap.size 2 (.slice A1 o.n1 c1) o.n1 (dcells L)) ∧ Box (Below (w.alloc (.cells #[.int .i64 1, .int .i64 o.n, .slice o.a1 o.n1 o.c1, .bool o.own, .slice o.a2 o.n2 o.c2] 34)).heap.size (w.alloc (.cells #[.int .i64 1, .int .i64 o.n, .slice o.a1 o.n1 o.c1, .bool o.own, .slice o.a2 o.n2 o.c2] 34)) wr)) (fun i _ => o.n1 - (intOf i).toNat)
    case atStart => exact ⟨0, o.ws, by omega, rfl, HLL.out, ⟨fun p hp => (HGD.out.s1 p hp).2⟩, HO1, HB2⟩
    case round =>
      obtain ⟨k, L, hk, rfl, hLL, HZ, HO, HBr⟩ := hrel
      have m3 := cell_kept HBr.out (by have := HSZ.out; omega) HQ3.out
      by_cases hgo : k < o.n1 ∧ o.own = true
      · obtain ⟨hlt, how⟩ := hgo
        rw [how] at m3
        obtain ⟨⟨p1, s⟩, hp⟩ := some_at (show k < L.length by omega)
        have hs3 : s.size ≤ 140737488351232 := HZ.out (p1, s) (List.mem_of_getElem? hp)
        obtain ⟨bb, cc, e9, hb9, hl9, hc9, _⟩ := HO.out.form (by omega)
        injection e9 with e91 e92 e93
        subst e91 e93
        obtain ⟨d2, _⟩ := HO.out.cell (dcells_at hp).2
        have j0 : (0 : Int) ≤ (k : Int) := by omega
        have j1 : (k : Int) < (o.n1 : Int) := by omega
        have HFI : Box (∀ W, Calls Try.prog 13 #[.string s] W fun e w' => e = .returned (.string (fillB s)) ∧ Below W.heap.size W w') := ⟨fun W => fill_calls s W (by omega)⟩
        have HFS : Box _ := ⟨fillB_size s⟩
        have HP : Box _ := ⟨hp⟩
        obtain ⟨z, hz⟩ : ∃ z, fillB s = z := ⟨_, rfl⟩
        rw [hz] at HFI HFS
        clear hp hz hs3 how
        go_wp2_with fail
        refine (HFI.out _).mono ?_
        rintro e w3 ⟨rfl, hb3⟩
        have hO3 := HO.out.below hb3
        obtain ⟨d3, f3⟩ := hO3.cell (dcells_at HP.out).2
        have hO4 := (hO3.set (k * 2 + 1) (List.getElem?_eq_some_iff.1 (dcells_at HP.out).2).1 (.string z)).1
        rw [dcells_set HP.out] at hO4
        have HO4 : Box _ := ⟨hO4⟩
        have HB4 : Box (Below (w.alloc (.cells #[.int .i64 1, .int .i64 o.n, .slice o.a1 o.n1 o.c1, .bool o.own, .slice o.a2 o.n2 o.c2] 34)).heap.size (w.alloc (.cells #[.int .i64 1, .int .i64 o.n, .slice o.a1 o.n1 o.c1, .bool o.own, .slice o.a2 o.n2 o.c2] 34)) (w3.setCell ⟨bb, k * 2 + 1, none⟩ (.string z))) := ⟨((Touched.refl w3 [bb]).setCell (.inl (by simp)) _).below (HBr.out.trans (hb3.mono HBr.out.size)) (Nat.le_trans HBr.out.size hb3.size) (by intro q hq; simp at hq; subst hq; exact hb9)⟩
        clear hO3 hO4 hb3
        go_wp2_with fail
        go_roundw
        case rel =>
          have hZ2 : Box (∀ p ∈ L.set k (p1, z), p.2.size ≤ 140737488351232) := ⟨fun q hq => by
            rcases List.mem_or_eq_of_mem_set hq with h | h
            · exact HZ.out q h
            · subst h; have := HFS.out; show z.size ≤ _; omega⟩
          have hS2 : (L.set k (p1, z)).length = o.n1 := by simp [hLL]
          first
            | exact ⟨k + 1, L.set k (p1, z), by omega, by go_num, hS2, hZ2, HO4, HB4⟩
            | ((repeat apply Exists.intro); exact ⟨⟨k + 1, L.set k (p1, z), by omega, by go_num, hS2, hZ2, HO4, HB4⟩, by first | trivial | rfl⟩)
        case measure => simp [intOf]; omega
      · by_cases hlt : k < o.n1
        · have how : o.own = false := by
            cases h : o.own
            · rfl
            · exact absurd ⟨hlt, h⟩ hgo
          rw [how] at m3
          clear hgo how
          go_wp2_with fail
          go_meet
          exact ⟨L, hLL, HO, HBr⟩
        · clear hgo
          go_wp2_with fail
          go_meet
          exact ⟨L, hLL, HO, HBr⟩
  case rest =>
    obtain ⟨L, hLL, HO, HBx⟩ := hcut
    have hbx := HBx.out
    have hrL : Box (RowAt wc A1 (dcells L)) := ⟨by
      obtain ⟨A9, c9, e9, _, hr9, _⟩ := HO.out.slice
      injection e9 with e91
      subst e91
      exact hr9⟩
    have HA1 : Box (A1 = none ∨ ∃ b, A1 = some ⟨b, 0, none⟩ ∧ b ∉ Fd ∧ b ∉ Fp) := ⟨by
      rcases HO.out.2 with ⟨e, _⟩ | ⟨b, cap, e, hb, _⟩
      · injection e with e1
        exact .inl e1
      · injection e with e1
        exact .inr ⟨b, e1, HLO.out b hb⟩⟩
    have Tc : Box _ := ⟨T1.out.below hbx⟩
    have hsx := hbx.size
    have HLE : Box _ := ⟨lentWrites_calls A1 o.n1 c1 L wc hLL (by omega) hrL.out⟩
    have HLK : Box _ := ⟨T1.out.like.writesAll L⟩
    have HRD : Box _ := ⟨writesD_room L D⟩
    have HLN : Box (∀ N, Len N P → Len N (writesP P L).1) := ⟨fun N h => len_writes h L⟩
    obtain ⟨r, hr⟩ : ∃ r, (writesP P L).2 = r := ⟨_, rfl⟩
    have HR : Box _ := ⟨HLK.out.2.trans hr⟩
    have HR2 : Box _ := ⟨hr⟩
    clear hbx hr
    go_wp2_with fail
    refine HLE.out.mono ?_
    rintro e w3 ⟨g5, cap, rfl, hcap, hrow, hb3, hg5⟩
    obtain ⟨hn1, hn2⟩ := HLO.out g5 (Nat.le_trans hsx hg5)
    have HN : Box _ := ⟨And.intro hn1 hn2⟩
    have T3 : Box _ := ⟨Tc.out.below hb3⟩
    have HB3 : Box (Below (w.alloc (.cells #[.int .i64 1, .int .i64 o.n, .slice o.a1 o.n1 o.c1, .bool o.own, .slice o.a2 o.n2 o.c2] 34)).heap.size (w.alloc (.cells #[.int .i64 1, .int .i64 o.n, .slice o.a1 o.n1 o.c1, .bool o.own, .slice o.a2 o.n2 o.c2] 34)) w3) := ⟨HBx.out.trans (hb3.mono hsx)⟩
    have HRow : Box _ := ⟨hrow⟩
    have hrL3 : Box _ := ⟨hrL.out.below hb3⟩
    clear hrow hb3 hn1 hn2 HLE hrL
    by_cases h0 : o.n1 = 0
    · have h0' : ((o.n1 : Int) == 0) = true := by simp [h0]
      have h0i : (o.n1 : Int) = 0 := by omega
      go_wp2_with fail
      go_ret
      exact ⟨rfl, ActTo.of (HB.out.trans (HB3.out.mono HB.out.size)) (TwoTo.refl T3.out (Below.refl _ _)) (by omega) (fun N h => h)⟩
    · have h0' : ((o.n1 : Int) == 0) = false := by simpa using (fun h : (o.n1 : Int) = 0 => h0 (by omega))
      have HC1 : Box _ := ⟨diskWrite_o T3.out.d T3.out.bel.size T3.out.armD (some ⟨g5, 0, none⟩) o.n1 cap L hLL (by have := HRM.out; omega) (fun w' hT => row_off HRow.out.left hT HN.out.1)⟩
      rw [HR.out] at HC1
      go_wp2_with fail
      refine HC1.out.mono ?_
      rintro e w4 ⟨rfl, h4⟩
      obtain ⟨hp4, hb4⟩ := T3.out.ptr h4
      have H4 : Box _ := ⟨h4⟩
      have hrL4 : Box (RowAt w4 A1 (dcells L)) := ⟨row_touched hrL3.out h4.touched (HA1.out.imp id (fun ⟨b, h1, h2, _⟩ => ⟨b, h1, h2⟩))⟩
      have HC2 : Box _ := ⟨plainWrite_o hp4 hb4 T3.out.armP A1 o.n1 c1 L hLL (by have := HPR.out; omega) (fun w' hT => row_touched hrL4.out hT (HA1.out.imp id (fun ⟨b, h1, _, h2⟩ => ⟨b, h1, h2⟩)))⟩
      rw [HR2.out] at HC2
      clear h4 hp4 hb4
      go_wp2_with fail
      refine HC2.out.mono ?_
      rintro e w5 ⟨rfl, h5⟩
      have H5 : Box _ := ⟨h5⟩
      have HC3 : Box _ := ⟨staysWrites_calls g5 A1 o.n1 cap c1 L w5 hLL (by omega) hcap (row_off (row_off HRow.out H4.out.touched HN.out.1) h5.touched HN.out.2) (row_touched hrL4.out h5.touched (HA1.out.imp id (fun ⟨b, h1, _, h2⟩ => ⟨b, h1, h2⟩)))⟩
      clear h5
      go_wp2_with fail
      refine HC3.out.mono ?_
      rintro e w6 ⟨rfl, h6⟩
      have HB6 : Box _ := ⟨h6⟩
      clear h6
      go_wp2_with fail
      go_ret
      exact ⟨rfl, ActTo.of (HB.out.trans (HB3.out.mono HB.out.size)) ((TwoTo.of T3.out H4.out H5.out HLK.out.1).then HB6.out) (by have := HRD.out; omega) HLN.out⟩
end
end Go.Proofs.Ytbnkmndgfmmiaaa
