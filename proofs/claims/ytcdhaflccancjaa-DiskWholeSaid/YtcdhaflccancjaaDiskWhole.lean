/- DiskWhole: behind a crash a sector is one of those that were written there, or as it was. -/
import Derived.Test.YtcdhaflccancjaaDiskAlive
namespace Go.Proofs.Ytcdhaflccancjaa
open Go.RowKit

def wantK (keep : List Int) (data : List ByteArray) : Nat → ByteArray
  | 0 => zeroS
  | k + 1 => if keptB keep k = true then fillB (data.getD k ByteArray.empty) else wantK keep data k
theorem crash_want (keep : List Int) (data : List ByteArray) (y : Nat) (s : List ByteArray) (hy : y < s.length) (hs : s.getD y ByteArray.empty = zeroS) (k : Nat) (hk : k ≤ data.length) :
    (crashK keep (data.map fun d => ((y : Int), fillB d)) s k).1.getD y ByteArray.empty = wantK keep data k := by
  induction k with
  | zero => exact hs
  | succ k ih =>
    have h1 : (data.map fun d => ((y : Int), fillB d))[k]? = some ((y : Int), fillB (data.getD k ByteArray.empty)) := by
      rw [List.getElem?_map, List.getElem?_eq_getElem (by omega), List.getD_eq_getElem?_getD, List.getElem?_eq_getElem (by omega)]; rfl
    rw [crashK, h1, wantK]
    dsimp only
    by_cases hkb : keptB keep k = true
    · rw [if_pos hkb, if_pos hkb]
      have hl := crashK_length keep (data.map fun d => ((y : Int), fillB d)) s k
      simp only [Int.toNat_natCast]
      rw [List.getD_eq_getElem?_getD, List.getElem?_set_self (by omega)]; rfl
    · rw [if_neg hkb, if_neg hkb]
      exact ih (by omega)
/-- So many writes of one sector of a new disk. -/
structure WholeD (y : Nat) (l : List ByteArray) (D : DSt) : Prop where
  off : D.off = false
  armed : D.armed = false
  safe : D.safe = List.replicate 140 zeroS
  len : D.l.length = 140
  ws : D.ws = l.map fun d => ((y : Int), fillB d)
  many : D.many = l.length
theorem WholeD.write {y : Nat} {l : List ByteArray} {D : DSt} (h : WholeD y l D) (hy : y < 140) (d : ByteArray) : (writesD D [((y : Int), fillB d)]).2 = 0 ∧ WholeD y (l ++ [d]) (writesD D [((y : Int), fillB d)]).1 := by
  rw [writesD_one D y (fillB d) h.off h.armed (by rw [h.len]; exact hy) (fillB_size d)]
  exact ⟨rfl, h.off, h.armed, h.safe, by simp [h.len], by simp [h.ws], by simp [h.many]⟩

set_option maxHeartbeats 6400000 in
set_option maxRecDepth 100000 in
theorem diskWhole_calls (x : Int) (A1 : Option Addr) (n1 c1 : Nat) (data : List ByteArray) (A2 : Option Addr) (n2 c2 : Nat) (keep : List Int) (w : World) (_hx : -9223372036854775808 ≤ x ∧ x ≤ 9223372036854775807)
    (hl1 : data.length = n1) (_hc1 : n1 ≤ c1) (hn1 : n1 * 16 ≤ 140737488351232) (_hs1 : ∀ s ∈ data, s.size ≤ 140737488351232) (hR1 : RowAt w A1 (scells data))
    (hl2 : keep.length = n2) (_hc2 : n2 ≤ c2) (hn2 : n2 * 8 ≤ 140737488351232) (_hs2 : ∀ z ∈ keep, -9223372036854775808 ≤ z ∧ z ≤ 9223372036854775807) (hR2 : RowAt w A2 (icells keep)) :
    Calls Try.prog 3 #[.int .i64 x, .slice A1 n1 c1, .slice A2 n2 c2] w fun e w' => e = .returned (.bool true) ∧ Below w.heap.size w w' := by
  subst hl1 hl2
  by_cases hg : 0 ≤ x ∧ x < 140 ∧ data.length ≤ 40 ∧ keep.length ≤ 60
  case neg =>
    have key : x < 0 ∨ (0 ≤ x ∧ 140 ≤ x) ∨ (0 ≤ x ∧ x < 140 ∧ 40 < data.length) ∨ (0 ≤ x ∧ x < 140 ∧ data.length ≤ 40 ∧ 60 < keep.length) := by omega
    clear hg hR1 hR2 _hs1 _hs2
    rcases key with h1 | ⟨h1, h2⟩ | ⟨h1, h2, h3⟩ | ⟨h1, h2, h3, h4⟩
    all_goals
      go_enter Try.func3, Try.ntmps3
      go_wp2_with fail
      refine (diskAlive_calls _).mono ?_
      rintro e w1 ⟨rfl, hb1⟩
      go_wp2
      go_ret
      exact ⟨rfl, hb1⟩
  obtain ⟨g1, g2, g3, g4⟩ := hg
  obtain ⟨y, rfl⟩ : ∃ y : Nat, x = (y : Int) := ⟨x.toNat, by omega⟩
  have hy : y < 140 := by omega
  have HR1 : Box _ := ⟨hR1⟩
  have HR2 : Box _ := ⟨hR2⟩
  have HS1 : Box _ := ⟨_hs1⟩
  clear hR1 hR2 _hs1 _hs2 _hx hn1 hn2 _hc1 _hc2
  have HN : Box (∀ W, Below w.heap.size w W → Calls Try.prog 9 #[.int .i64 140] W fun e w' => ∃ g, e = .returned (.tuple #[.pointer (some ⟨g, 0, none⟩), .int .i64 0]) ∧ DiskIn w w' g (newD 140)) := ⟨fun W h => diskNew_in w W 140 h (by omega) (by omega)⟩
  have HD0 : Box (WholeD y [] (newD 140)) := ⟨⟨rfl, rfl, rfl, by simp [newD], rfl, rfl⟩⟩
  obtain ⟨n, hn⟩ : ∃ n, n = 256 := ⟨_, rfl⟩
  have hn2 : n ≤ 256 := by omega
  have hmk : ∀ W : World, (Instr.makeSlice 29 (.int .i64 256) (.int .i64 256)).run Try.prog W = .ok (.slice (some ⟨W.heap.size, 0, none⟩) n n) (W.alloc (.cells (bcells (List.replicate n 0)).toArray 5)) := fun W => by subst hn; exact make_u8 256 (by omega) W
  have hcv : ∀ W : World, (convert 29 9 (.slice (some ⟨W.heap.size, 0, none⟩) n n)).run Try.prog (W.alloc (.cells (bcells (List.replicate n 0)).toArray 5)) = .ok (.string zeroS) (W.alloc (.cells (bcells (List.replicate n 0)).toArray 5)) := fun W => by
    have h := bytes_str Try.prog 29 5 9 Try.underlying29 Try.underlying5 Try.underlying9 (some ⟨W.heap.size, 0, none⟩) n n (List.replicate n 0) _ (by simp) (by
      obtain ⟨A, c, e, _, hr, _⟩ := (zeros_own W n (by unfold maxLen; omega)).slice
      injection e with e1 e2 e3
      subst e1
      exact hr)
    rw [h, hn]; rfl
  obtain ⟨D0, hD0⟩ : ∃ D0, newD 140 = D0 := ⟨_, rfl⟩
  rw [hD0] at HN HD0
  clear hD0 hn
  go_enter Try.func3, Try.ntmps3
  go_wp2_with fail
  refine (diskAlive_calls _).mono ?_
  rintro e w1 ⟨rfl, hb1⟩
  have HB1 : Box _ := ⟨hb1⟩
  clear hb1
  go_wp2_with fail
  refine (HN.out _ HB1.out).mono ?_
  rintro e w2 ⟨g, rfl, hi2⟩
  have HI2 : Box _ := ⟨hi2.below ((Below.refl _ _).alloc (Nat.le_refl _) (.cells (bcells (List.replicate n 0)).toArray 5))⟩
  clear hi2 HB1
  go_wp2_with fail
  go_loopw [9, 10] (fun q i wr => ∃ (k : Nat) (D : DSt), k ≤ data.length ∧ i = .int .i64 (k : Int) ∧ q = .string (wantK keep data k) ∧ Box (WholeD y (data.take k) D) ∧ Box (DiskIn w wr g D)) (fun _ i _ => data.length - (intOf i).toNat)
  case atStart => exact ⟨0, D0, by omega, rfl, rfl, by simpa using HD0, HI2⟩
  case round =>
    obtain ⟨k, D, hk, rfl, rfl, HD, HI⟩ := hrel
    by_cases hlt : k < data.length
    · obtain ⟨s, hs⟩ := some_at hlt
      obtain ⟨ad, rfl, hcell⟩ := (HR1.out.below HI.out.bel).get (scells_at hs)
      have hss := HS1.out s (List.mem_of_getElem? hs)
      by_cases h60 : 60 < s.size
      · clear hs hss
        go_wp2_with fail
        go_ret
        exact ⟨rfl, HI.out.bel⟩
      · have hs60 : s.size ≤ 60 := by omega
        have HSk : Box _ := ⟨hs⟩
        have HTk : Box (data.take (k + 1) = data.take k ++ [s]) := ⟨take_snoc_of hs⟩
        have HWt : Box (wantK keep data (k + 1) = if keptB keep k = true then fillB s else wantK keep data k) := ⟨by rw [wantK, List.getD_eq_getElem?_getD, hs]; rfl⟩
        obtain ⟨v, hv⟩ : ∃ v, wantK keep data k = v := ⟨_, rfl⟩
        rw [hv] at HWt ⊢
        have HF : Box _ := ⟨fun W => fill_calls s W (by omega)⟩
        have HWo := HD.out.write hy s
        have hbig : D.ws.length + D.many + 2 * 1 ≤ 1000000000 := by rw [HD.out.ws, HD.out.many, List.length_map, List.length_take]; omega
        have hal : D.armed = true → 0 ≤ D.left := by rw [HD.out.armed]; simp
        obtain ⟨f, hf⟩ : ∃ f, fillB s = f := ⟨_, rfl⟩
        rw [hf] at HWt HF HWo
        have hcell2 : ∀ W' : World, Below wr.heap.size wr W' → W'.cell? (ad.add k) = some (.string s) := fun W' h => cell_kept h (Nat.le_refl _) hcell
        have HC2 : Box _ := ⟨hcell2⟩
        clear hs hss hv hf h60 hcell2
        go_wp2_with fail
        refine (HF.out _).mono ?_
        rintro e w3 ⟨rfl, hb3⟩
        have HI3 : Box _ := ⟨HI.out.below hb3⟩
        clear hb3
        have HWr : Box _ := ⟨diskWrite_new HI3.out hal [((y : Int), f)] 1 rfl hbig⟩
        obtain ⟨E, hE⟩ : ∃ E, writesD D [((y : Int), f)] = E := ⟨_, rfl⟩
        rw [hE] at HWr HWo
        have HWo1 : Box _ := ⟨HWo.2⟩
        rw [HWo.1] at HWr
        clear hE HWo
        go_wp2_with fail
        refine Calls.mono HWr.out ?_
        rintro e w4 ⟨rfl, hi4⟩
        have HI4 : Box _ := ⟨hi4⟩
        have hcell4 : RowAt w4 (some ad) (scells data) := HR1.out.below hi4.bel
        clear hi4
        by_cases hkl : k < keep.length
        · obtain ⟨z, hz⟩ := some_at hkl
          obtain ⟨ad2, rfl, hcell5⟩ := (HR2.out.below HI4.out.bel).get (icells_at hz)
          by_cases hz1 : z % 2 = 1
          · have hkb : keptB keep k = true := by rw [keptB, hz]; simpa using hz1
            rw [if_pos hkb] at HWt
            have hb : bits BinOp.and IntKind.i64 z 1 = 1 := (i64_and1 z).trans hz1
            obtain ⟨s2, hs2⟩ := some_at hlt
            have hcs : w4.cell? (ad.add k) = some (.string s) := by
              rcases hcell4 with h | ⟨ad', e', hc'⟩
              · simp [scells] at h; subst h; simp at hlt
              · injection e' with e'
                subst e'
                exact hc' k _ (scells_at HSk.out)
            clear hz hkb hz1 hs2 hcell4
            go_wp2_with fail
            refine (HF.out _).mono ?_
            rintro e w5 ⟨rfl, hb5⟩
            have HI5 : Box _ := ⟨HI4.out.below hb5⟩
            clear hb5
            go_wp2_with fail
            go_roundw
            case rel => exact ⟨k + 1, E.1, by omega, by go_num, by rw [HWt.out], by rw [HTk.out]; exact HWo1, HI5⟩
            case measure => simp [intOf]; omega
          · have hz0 : z % 2 = 0 := by omega
            have hkb : keptB keep k = false := by rw [keptB, hz]; simp [hz0]
            rw [if_neg (by simp [hkb])] at HWt
            have hb : bits BinOp.and IntKind.i64 z 1 = 0 := (i64_and1 z).trans hz0
            clear hz hkb hz1 hz0 hcell4
            go_wp2_with fail
            go_roundw
            case rel => exact ⟨k + 1, E.1, by omega, by go_num, by rw [HWt.out], by rw [HTk.out]; exact HWo1, HI4⟩
            case measure => simp [intOf]; omega
        · have hkb : keptB keep k = false := by rw [keptB, List.getElem?_eq_none (by omega)]
          rw [if_neg (by simp [hkb])] at HWt
          clear hkb hcell4
          go_wp2_with fail
          go_roundw
          case rel => exact ⟨k + 1, E.1, by omega, by go_num, by rw [HWt.out], by rw [HTk.out]; exact HWo1, HI4⟩
          case measure => simp [intOf]; omega
    · obtain rfl : k = data.length := by omega
      rw [List.take_of_length_le (Nat.le_refl _)] at HD
      obtain ⟨wo, rfl⟩ : ∃ wo : World, wo = wr := ⟨_, rfl⟩
      have hcw := crash_want keep data y (List.replicate 140 zeroS) (by simp; exact hy) (by rw [List.getD_eq_getElem?_getD, List.getElem?_replicate, if_pos hy]; rfl) data.length (Nat.le_refl _)
      have hCD : crashD D keep = ({ D with l := (crashK keep D.ws D.safe D.ws.length).1, safe := (crashK keep D.ws D.safe D.ws.length).1, ws := [], off := true, armed := false, keep := [] }, (crashK keep D.ws D.safe D.ws.length).2) := by rw [crashD, if_neg (by simp [HD.out.off])]
      have HCr : Box _ := ⟨diskCrash_arg HI.out A2 keep.length c2 keep rfl (by omega) HR2.out⟩
      obtain ⟨E, hE⟩ : ∃ E, crashD D keep = E := ⟨_, rfl⟩
      have hEl : E.1.l.getD y ByteArray.empty = wantK keep data data.length ∧ E.1.l.length = 140 := by
        rw [← hE, hCD]
        refine ⟨?_, ?_⟩
        · show (crashK keep D.ws D.safe D.ws.length).1.getD y _ = _
          rw [HD.out.ws, HD.out.safe, List.length_map]
          exact hcw
        · show (crashK keep D.ws D.safe D.ws.length).1.length = 140
          rw [crashK_length, HD.out.safe]; simp
      rw [hE] at HCr
      obtain ⟨v, hv⟩ : ∃ v, wantK keep data data.length = v := ⟨_, rfl⟩
      rw [hv] at hEl ⊢
      have hrd := readD_ok { E.1 with off := false } y rfl (by show y < E.1.l.length; rw [hEl.2]; exact hy)
      have hrd2 : readD { E.1 with off := false } (y : Int) = (v, 0) := by rw [hrd]; show (E.1.l.getD y ByteArray.empty, (0 : Int)) = _; rw [hEl.1]
      have HRd : Box _ := ⟨hrd2⟩
      clear hcw hCD hE hv hEl hrd hrd2
      go_wp2_with fail
      refine Calls.mono HCr.out ?_
      rintro e w3 ⟨rfl, hi3⟩
      have HI3 : Box _ := ⟨hi3⟩
      clear hi3
      go_wp2_with fail
      refine (diskRestore_in HI3.out).mono ?_
      rintro e w4 ⟨rfl, hi4⟩
      have HI4 : Box _ := ⟨hi4⟩
      clear hi4
      have HRr : Box _ := ⟨diskRead_in HI4.out (y : Int)⟩
      rw [HRd.out] at HRr
      go_wp2_with fail
      refine Calls.mono HRr.out ?_
      rintro e w5 ⟨rfl, rfl⟩
      go_wp2_with fail
      go_ret
      exact ⟨rfl, HI4.out.bel⟩
end Go.Proofs.Ytcdhaflccancjaa
