/- bits.Out: Raw. -/
import Derived.Test.YtnakneabfnphkaaDoorOutS
namespace Go.Proofs.YtnakneabfnphkaaDoor
open Go.RowKit

theorem addr_add0 (a : Addr) : a.add 0 = a := by obtain ⟨b, o, c⟩ := a; cases c <;> simp [Addr.add]
set_option maxHeartbeats 1600000 in
theorem outRaw_ok (g : Nat) (v : Value) (l : List UInt8) (A : Option Addr) (c : Nat) (ts : List ByteArray) (w : World) (hO : OutS w g v 0 l) (hn : ts.length ≤ 4000000000000000000) (hsz : l.length + totalLen ts ≤ 140737488355328)
    (hR : ∀ w', Touched w w' (g :: v.ownBlock.toList) → RowAt w' A (scells ts)) :
    Calls Tryd.prog 13 #[.pointer (some ⟨g, 0, none⟩), .slice A ts.length c] w fun e w' => ∃ v', e = .returned (.pointer (some ⟨g, 0, none⟩)) ∧ OutS w' g v' 0 (l ++ (joinB ts).data.toList) ∧ Touched w w' (g :: v.ownBlock.toList) ∧ (∀ b, v'.ownBlock = some b → v.ownBlock = some b ∨ w.heap.size ≤ b) := by
  have HO0 : Box (OutS w g v 0 l) := ⟨hO⟩
  have HS := Lib.hid hsz; clear hsz
  have HR : Box _ := ⟨hR⟩
  clear hR hO
  obtain ⟨i0, hi0, hi1, hi2, hi3⟩ := u8_info
  have HI : Box (Tryd.prog.info? 5 = some i0 ∧ i0.zero = some (.int .u8 0) ∧ i0.size = 1 ∧ i0.bytes = 1) := ⟨hi0, hi1, hi2, hi3⟩
  clear hi0 hi1 hi2 hi3
  go_enter Tryd.func13, Tryd.ntmps13
  go_wp2
  go_loopw [9] (fun i wr => ∃ (k : Nat) (u : Value), k ≤ ts.length ∧ i = .int .i64 (k : Int) ∧ Box (OutS wr g u 0 (l ++ (joinB (ts.take k)).data.toList)) ∧ Hid (Touched w wr (g :: v.ownBlock.toList)) ∧ Box (∀ b, u.ownBlock = some b → v.ownBlock = some b ∨ w.heap.size ≤ b)) (fun i _ => ts.length - (intOf i).toNat)
  case atStart => exact ⟨0, v, by omega, rfl, ⟨by have := HO0.out; simpa [joinB] using this⟩, Touched.refl _ _, ⟨fun b hb => .inl hb⟩⟩
  case round =>
    obtain ⟨k, u, hk, rfl, HO, HT, HF⟩ := hrel
    by_cases hlt : k < ts.length
    · obtain ⟨s, hs⟩ := some_at hlt
      obtain ⟨ad, rfl, hc⟩ := (HR.out _ HT.out).get (scells_at hs)
      have HX : Box (l ++ (joinB (ts.take (k + 1))).data.toList = (l ++ (joinB (ts.take k)).data.toList) ++ s.data.toList) := ⟨by rw [take_snoc_of hs, joinB_snoc, show (joinB (ts.take k) ++ s).data.toList = (joinB (ts.take k)).data.toList ++ s.data.toList by simp, List.append_assoc]⟩
      have HL : Hid ((l ++ (joinB (ts.take k)).data.toList).length + s.size ≤ 140737488355328) := by
        have h1 := totalLen_take_le ts (k + 1)
        rw [take_snoc_of hs, totalLen_snoc, ← joinB_size] at h1
        have h2 := HS.out
        rw [Hid, List.length_append, data_length]
        omega
      clear hs
      obtain ⟨m, hm⟩ : ∃ m, l ++ (joinB (ts.take k)).data.toList = m := ⟨_, rfl⟩
      rw [hm] at HX HL HO
      clear hm
      obtain ⟨a0, ca, rfl, _, _, _⟩ := (Own.of_row HO.out.own).slice
      have k0 := HO.out.c0
      have k1 := HO.out.c1
      have e0 := HO.out.f0
      go_wp2_with (at_builtin; refine appS rfl _ _ 26 9 rfl (g + 1) 5 i0 Tryd.underlying26 Tryd.underlying9 HI.out.1 HI.out.2.1 HI.out.2.2.1 HI.out.2.2.2 (.slice a0 m.length ca) _ _ rfl HO.out.own s rfl HL.out HO.out.lt ?_; intro v1 w1 hown1 hg1 hp1; obtain ⟨a1, c1, rfl, _, _, _⟩ := (Own.of_row hown1).slice; have hT := Touched.of_grown hg1; have k4 := (hT.cell HO.out.lt HO.out.apart).trans HO.out.c0; have e4 := (hT.free HO.out.lt HO.out.apart).trans HO.out.f0; have HG1 : Box _ := ⟨hg1⟩; have HW1 : Box _ := ⟨hown1⟩; have HP1 : Box _ := ⟨hp1⟩; clear hown1 hg1 hT k0 k1 e0 hp1)
      go_roundw
      case rel =>
        have hO2 : OutS (w1.setCell ⟨g, 0, none⟩ (.slice a1 (m.length + s.size) c1)) g (.slice a1 (m.length + s.size) c1) 0 (m ++ s.data.toList) := HO.out.grown (by
          have h := HW1.out
          rw [show Lib.strCells s = bcells s.data.toList from rfl] at h
          rw [bcells, List.map_append, List.length_append, data_length]
          exact h) HG1.out
        refine ⟨k + 1, _, by omega, by go_num, ⟨by rw [HX.out]; exact hO2⟩, (HT.out.trans' (Touched.of_grown HG1.out) ?_).setCell (.inl (by simp)) _, ⟨fun b hb => ?_⟩⟩
        · intro j hj
          rcases HF.out j (by simpa using hj) with h | h
          · exact .inl (by simp [h])
          · exact .inr h
        · rcases HP1.out with h | h
          · exact HF.out b (by rw [← h]; exact hb)
          · rw [h] at hb
            injection hb with hb
            exact .inr (by rw [← hb]; exact HT.out.size)
      case measure => simp [intOf]; omega
    · obtain rfl : k = ts.length := by omega
      go_wp2
      go_ret
      exact ⟨u, rfl, by have := HO.out; rwa [List.take_of_length_le (Nat.le_refl _)] at this, HT.out, HF.out⟩

theorem outRaw_err (g : Nat) (v : Value) (e : Int) (l : List UInt8) (A : Option Addr) (c : Nat) (ts : List ByteArray) (w : World) (he : e ≠ 0) (hO : OutS w g v e l) (hn : ts.length ≤ 4000000000000000000) (hR : RowAt w A (scells ts)) :
    Calls Tryd.prog 13 #[.pointer (some ⟨g, 0, none⟩), .slice A ts.length c] w fun r w' => r = .returned (.pointer (some ⟨g, 0, none⟩)) ∧ w = w' := by
  have k1 := hO.c1
  have HR : Box _ := ⟨hR⟩
  clear hO hR
  by_cases hlt : 0 < ts.length
  · obtain ⟨s, hs⟩ := some_at hlt
    obtain ⟨ad, rfl, hc0⟩ := HR.out.get (scells_at hs)
    have hc : w.cell? ad = some (.string s) := by rwa [addr_add0] at hc0
    clear hs hc0
    go_enter Tryd.func13, Tryd.ntmps13
    go_wp2
    go_loopw [9] (fun i wr => i = .int .i64 0 ∧ w = wr) (fun i _ => 1)
    case atStart => exact ⟨rfl, rfl⟩
    case round =>
      obtain ⟨rfl, rfl⟩ := hrel
      go_wp2
      go_ret
      exact ⟨rfl, rfl⟩
  · obtain rfl : ts = [] := List.eq_nil_of_length_eq_zero (by omega)
    go_enter Tryd.func13, Tryd.ntmps13
    go_wp2
    go_loopw [9] (fun i wr => i = .int .i64 0 ∧ w = wr) (fun i _ => 1)
    case atStart => exact ⟨rfl, rfl⟩
    case round =>
      obtain ⟨rfl, rfl⟩ := hrel
      go_wp2
      go_ret
      exact ⟨rfl, rfl⟩
theorem outRaw_nil (A : Option Addr) (c : Nat) (s : ByteArray) (w : World) (hR : RowAt w A (scells [s])) :
    Calls Tryd.prog 13 #[.pointer none, .slice A 1 c] w fun r w' => r = .returned (.pointer none) ∧ w = w' := by
  obtain ⟨ad, rfl, hc0⟩ := hR.get (j := 0) (u := .string s) rfl
  have hc : w.cell? ad = some (.string s) := by rwa [addr_add0] at hc0
  clear hR hc0
  go_enter Tryd.func13, Tryd.ntmps13
  go_wp2
  go_loopw [9] (fun i wr => i = .int .i64 0 ∧ w = wr) (fun i _ => 1)
  case atStart => exact ⟨rfl, rfl⟩
  case round =>
    obtain ⟨rfl, rfl⟩ := hrel
    go_wp2
    go_ret
    exact ⟨rfl, rfl⟩
theorem outRaw_calls (g : Nat) (v : Value) (e : Int) (l : List UInt8) (A : Option Addr) (c : Nat) (ts : List ByteArray) (w : World) (hO : OutS w g v e l) (hn : ts.length ≤ 4000000000000000000) (hsz : l.length + totalLen ts ≤ 140737488355328)
    (hR : ∀ w', Touched w w' (g :: v.ownBlock.toList) → RowAt w' A (scells ts)) :
    Calls Tryd.prog 13 #[.pointer (some ⟨g, 0, none⟩), .slice A ts.length c] w fun r w' => r = .returned (.pointer (some ⟨g, 0, none⟩)) ∧ OutTo w w' g v (rawO (e, l) ts) := by
  by_cases he : e = 0
  · subst he
    exact (outRaw_ok g v l A c ts w hO hn hsz hR).mono fun r w' ⟨v', h1, h2, h3, h4⟩ => ⟨h1, ⟨v', h2, h4⟩, h3⟩
  · refine (outRaw_err g v e l A c ts w he hO hn (hR w (Touched.refl _ _))).mono fun r w' ⟨h1, h2⟩ => ⟨h1, ?_⟩
    subst h2
    rw [rawO, if_pos he]
    exact OutTo.refl hO
end Go.Proofs.YtnakneabfnphkaaDoor
