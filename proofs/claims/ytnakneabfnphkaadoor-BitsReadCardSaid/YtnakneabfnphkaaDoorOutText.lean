/- bits.Out: Text. -/
import Derived.Test.YtnakneabfnphkaaDoorOutNum
namespace Go.Proofs.YtnakneabfnphkaaDoor
open Go.RowKit

def textOne (d : Int × List UInt8) (s : ByteArray) : Int × List UInt8 := if d.1 ≠ 0 then d else if 65535 < s.size then (2, d.2) else (0, d.2 ++ lowL s.size 2 ++ s.data.toList)
def textO (d : Int × List UInt8) (ts : List ByteArray) : Int × List UInt8 := ts.foldl textOne d
theorem textO_snoc (d : Int × List UInt8) (ts : List ByteArray) (s : ByteArray) : textO d (ts ++ [s]) = textOne (textO d ts) s := by simp [textO, List.foldl_append]
theorem textO_err (d : Int × List UInt8) (ts : List ByteArray) (h : d.1 ≠ 0) : textO d ts = d := by
  induction ts with
  | nil => rfl
  | cons x xs ih => rw [textO, List.foldl_cons, textOne, if_pos h]; exact ih
theorem textO_stop (d : Int × List UInt8) (ts : List ByteArray) (k : Nat) (h : (textO d (ts.take k)).1 ≠ 0) : textO d ts = textO d (ts.take k) := by
  conv => lhs; rw [← List.take_append_drop k ts]
  rw [textO, List.foldl_append]
  exact textO_err _ _ h
theorem textO_len (d : Int × List UInt8) (ts : List ByteArray) : ((textO d ts).2.length : Int) ≤ d.2.length + totalLen ts + 2 * ts.length := by
  induction ts generalizing d with
  | nil => simp [textO, totalLen]
  | cons x xs ih =>
    have h := ih (textOne d x)
    have h2 : ((textOne d x).2.length : Int) ≤ d.2.length + 2 + x.size := by
      unfold textOne
      split
      · omega
      · split
        · show (d.2.length : Int) ≤ _; omega
        · simp only [List.length_append, lowL_length, data_length]; omega
    have h3 : totalLen (x :: xs) = x.size + totalLen xs := by simp [totalLen]
    rw [textO, List.foldl_cons]
    rw [textO] at h
    rw [List.length_cons, h3]
    omega
theorem text_parts (l : List UInt8) (s : ByteArray) (h : s.size ≤ 65535) : layO 2 (0, l) [(s.size : Int)] = (0, l ++ lowL s.size 2) ∧ rawO (0, l ++ lowL s.size 2) [s] = (0, l ++ lowL s.size 2 ++ s.data.toList) := by
  constructor
  · have hb : layB 2 (s.size : Int) = false := decide_eq_false (by
      intro hh
      have e1 : (s.size : Int) / 2 ^ (8 * 2) = 0 := by show (s.size : Int) / 65536 = 0; omega
      omega)
    rw [layO, List.foldl_cons, List.foldl_nil, layOne, if_neg (by simp), if_neg (by simp [hb])]
    simp
  · rw [rawO, if_neg (by simp)]
    simp [joinB]
theorem outText_err (g : Nat) (v : Value) (e : Int) (l : List UInt8) (A : Option Addr) (c : Nat) (ts : List ByteArray) (w : World) (he : e ≠ 0) (hO : OutS w g v e l) (hn : ts.length ≤ 4000000000000000000) (hR : RowAt w A (scells ts)) :
    Calls Tryd.prog 11 #[.pointer (some ⟨g, 0, none⟩), .slice A ts.length c] w fun r w' => r = .returned (.pointer (some ⟨g, 0, none⟩)) ∧ w = w' := by
  have k1 := hO.c1
  have HR : Box _ := ⟨hR⟩
  clear hO hR
  by_cases hlt : 0 < ts.length
  · obtain ⟨s, hs⟩ := some_at hlt
    obtain ⟨ad, rfl, hc0⟩ := HR.out.get (scells_at hs)
    have hc : w.cell? ad = some (.string s) := by rwa [addr_add0] at hc0
    clear hs hc0
    go_enter Tryd.func11, Tryd.ntmps11
    go_wp2
    go_loopw [9] (fun i wr => i = .int .i64 0 ∧ w = wr) (fun i _ => 1)
    case atStart => exact ⟨rfl, rfl⟩
    case round =>
      obtain ⟨rfl, rfl⟩ := hrel
      go_wp2
      go_ret
      exact ⟨rfl, rfl⟩
  · obtain rfl : ts = [] := List.eq_nil_of_length_eq_zero (by omega)
    go_enter Tryd.func11, Tryd.ntmps11
    go_wp2
    go_loopw [9] (fun i wr => i = .int .i64 0 ∧ w = wr) (fun i _ => 1)
    case atStart => exact ⟨rfl, rfl⟩
    case round =>
      obtain ⟨rfl, rfl⟩ := hrel
      go_wp2
      go_ret
      exact ⟨rfl, rfl⟩
theorem outText_nil (A : Option Addr) (c : Nat) (s : ByteArray) (w : World) (hR : RowAt w A (scells [s])) :
    Calls Tryd.prog 11 #[.pointer none, .slice A 1 c] w fun r w' => r = .returned (.pointer none) ∧ w = w' := by
  obtain ⟨ad, rfl, hc0⟩ := hR.get (j := 0) (u := .string s) rfl
  have hc : w.cell? ad = some (.string s) := by rwa [addr_add0] at hc0
  clear hR hc0
  go_enter Tryd.func11, Tryd.ntmps11
  go_wp2
  go_loopw [9] (fun i wr => i = .int .i64 0 ∧ w = wr) (fun i _ => 1)
  case atStart => exact ⟨rfl, rfl⟩
  case round =>
    obtain ⟨rfl, rfl⟩ := hrel
    go_wp2
    go_ret
    exact ⟨rfl, rfl⟩
set_option maxHeartbeats 6400000 in
set_option maxRecDepth 100000 in
theorem outText_ok (g : Nat) (v : Value) (l : List UInt8) (A : Option Addr) (c : Nat) (ts : List ByteArray) (w : World) (hO : OutS w g v 0 l) (hn : ts.length ≤ 1000000) (hsz : l.length + totalLen ts + 2 * ts.length ≤ 1000000000)
    (hR : ∀ w', Touched w w' (g :: v.ownBlock.toList) → RowAt w' A (scells ts)) :
    Calls Tryd.prog 11 #[.pointer (some ⟨g, 0, none⟩), .slice A ts.length c] w fun r w' => r = .returned (.pointer (some ⟨g, 0, none⟩)) ∧ OutTo w w' g v (textO (0, l) ts) := by
  have HO0 : Box (OutS w g v 0 l) := ⟨hO⟩
  have HR : Box _ := ⟨hR⟩
  have HZ : Box _ := ⟨hsz⟩
  clear hR hO hsz
  go_enter Tryd.func11, Tryd.ntmps11
  go_wp2
  go_loopw [9] (fun i wr => ∃ (k : Nat) (u : Value) (l' : List UInt8), k ≤ ts.length ∧ i = .int .i64 (k : Int) ∧ Box (textO (0, l) (ts.take k) = (0, l')) ∧ Box (OutS wr g u 0 l') ∧ Hid (Touched w wr (g :: v.ownBlock.toList)) ∧ Box (∀ b, u.ownBlock = some b → v.ownBlock = some b ∨ w.heap.size ≤ b)) (fun i _ => ts.length - (intOf i).toNat)
  case atStart => exact ⟨0, v, l, by omega, rfl, ⟨rfl⟩, HO0, Touched.refl _ _, ⟨fun b hb => .inl hb⟩⟩
  case round =>
    obtain ⟨k, u, l', hk, rfl, HD, HO, HT, HF⟩ := hrel
    by_cases hlt : k < ts.length
    · obtain ⟨x, hxk⟩ := some_at hlt
      obtain ⟨ad, rfl, hc⟩ := (HR.out _ HT.out).get (scells_at hxk)
      have hD1 : textO (0, l) (ts.take (k + 1)) = if 65535 < x.size then (2, l') else (0, l' ++ lowL x.size 2 ++ x.data.toList) := by
        rw [take_snoc_of hxk, textO_snoc, HD.out, textOne, if_neg (by simp)]
      have hLen := textO_len (0, l) (ts.take (k + 1))
      have hTl := totalLen_take_le ts (k + 1)
      have k1 := HO.out.c1
      have f1 := HO.out.f1
      clear hxk
      by_cases hbad : 65535 < x.size
      · rw [if_pos hbad] at hD1
        have HAll : Box (textO (0, l) ts = (2, l')) := ⟨by rw [textO_stop (0, l) ts (k + 1) (by rw [hD1]; simp), hD1]⟩
        have hb2 : (65535 : Int) < (x.size : Int) := by omega
        clear hD1 hLen hTl hbad
        go_wp2_with fail
        go_ret
        exact ⟨rfl, by rw [HAll.out]; exact OutTo.trans HT.out HF.out (OutTo.fail HO.out 2)⟩
      · rw [if_neg hbad] at hD1
        have hsz : l'.length + x.size ≤ 1000000000 := by
          have h0 := HZ.out
          rw [hD1] at hLen
          simp only [List.length_append, lowL_length, data_length, List.length_take] at hLen
          omega
        have HD1 : Box _ := ⟨hD1⟩
        obtain ⟨hp1, hp2⟩ := text_parts l' x (by omega)
        have hb2 : ¬ (65535 : Int) < (x.size : Int) := by omega
        have H1 : Box _ := ⟨outHalf_new g u 0 l' 1 [(x.size : Int)] wr rfl HO.out (by omega) (by omega) (by intro z hz; simp at hz; omega)⟩
        rw [hp1] at H1
        have HP2 : Box _ := ⟨hp2⟩
        have HSz : Box _ := ⟨hsz⟩
        clear hD1 hLen hTl hbad hp1 hp2 hsz
        obtain ⟨wo, rfl⟩ : ∃ wo : World, wo = wr := ⟨_, rfl⟩
        go_wp2_with fail
        refine Calls.mono H1.out ?_
        rintro r w1 ⟨rfl, ⟨u1, h1, h2⟩, h3⟩
        have HT1 : Box _ := ⟨h3⟩
        have HF1 : Box _ := ⟨h2⟩
        have H2 : Box _ := ⟨outRaw_new g u1 0 (l' ++ lowL x.size 2) 1 [x] w1 rfl h1 (by omega) (by have := HSz.out; simp only [List.length_append, lowL_length, totalLen, List.map_cons, List.map_nil, List.sum_cons, List.sum_nil]; omega)⟩
        rw [HP2.out] at H2
        clear h1 h2 h3
        go_wp2_with fail
        refine Calls.mono H2.out ?_
        rintro r w2 ⟨rfl, h4⟩
        have h5 := OutTo.trans HT.out HF.out (OutTo.trans HT1.out HF1.out h4)
        obtain ⟨⟨u2, h6, h7⟩, h8⟩ := h5
        have HA : Box _ := ⟨h6⟩
        have HB : Box _ := ⟨h7⟩
        have HC : Hid _ := h8
        clear h4 h6 h7 h8
        go_wp2_with fail
        go_roundw
        case rel => exact ⟨k + 1, u2, _, by omega, by go_num, HD1, HA, HC, HB⟩
        case measure => simp [intOf]; omega
    · obtain rfl : k = ts.length := by omega
      rw [List.take_of_length_le (Nat.le_refl _)] at HD
      go_wp2
      go_ret
      exact ⟨rfl, by rw [HD.out]; exact ⟨⟨u, HO.out, HF.out⟩, HT.out⟩⟩
theorem outText_calls (g : Nat) (v : Value) (e : Int) (l : List UInt8) (A : Option Addr) (c n : Nat) (ts : List ByteArray) (w : World) (hts : ts.length = n) (hO : OutS w g v e l) (hn : n ≤ 1000000) (hsz : l.length + totalLen ts + 2 * n ≤ 1000000000)
    (hR : ∀ w', Touched w w' (g :: v.ownBlock.toList) → RowAt w' A (scells ts)) :
    Calls Tryd.prog 11 #[.pointer (some ⟨g, 0, none⟩), .slice A n c] w fun r w' => r = .returned (.pointer (some ⟨g, 0, none⟩)) ∧ OutTo w w' g v (textO (e, l) ts) := by
  subst hts
  by_cases he : e = 0
  · subst he
    exact outText_ok g v l A c ts w hO hn hsz hR
  · refine (outText_err g v e l A c ts w he hO (by omega) (hR w (Touched.refl _ _))).mono fun r w' ⟨h1, h2⟩ => ⟨h1, ?_⟩
    subst h2
    rw [textO_err _ _ he]
    exact OutTo.refl hO
theorem outText_new (g : Nat) (v : Value) (e : Int) (l : List UInt8) (n : Nat) (ts : List ByteArray) (w : World) (hts : ts.length = n) (hO : OutS w g v e l) (hn : n ≤ 1000000) (hsz : l.length + totalLen ts + 2 * n ≤ 1000000000) :
    Calls Tryd.prog 11 #[.pointer (some ⟨g, 0, none⟩), .slice (some ⟨w.heap.size, 0, none⟩) n n] (w.alloc (.cells (scells ts).toArray 9)) fun r w' => r = .returned (.pointer (some ⟨g, 0, none⟩)) ∧ OutTo w w' g v (textO (e, l) ts) :=
  (outText_calls g v e l _ n n ts _ hts (hO.alloc _) hn hsz (hO.newRow (scells ts) _)).mono fun r w' ⟨h1, h2⟩ => ⟨h1, h2.alloc⟩
end Go.Proofs.YtnakneabfnphkaaDoor
