/- bits.Out: what it holds; Raw. -/
import Derived.Test.YteokcbgaljhpgaaSealRef
import Derived.Test.YteokcbgaljhpgaaTouch
import Derived.Test.YteokcbgaljhpgaaStrWhere
namespace Go.Proofs.Yteokcbgaljhpgaa
open Go.RowKit

theorem u8_info : ∃ i, Try.prog.info? 5 = some i ∧ i.zero = some (.int .u8 0) ∧ i.size = 1 ∧ i.bytes = 1 := by
  have h : (Try.prog.info? 5).map (fun i => (i.zero, i.size, i.bytes)) = some (some (.int .u8 0), 1, 1) := by kernel_rfl
  obtain ⟨i, h1, h2⟩ := Option.map_eq_some_iff.1 h
  injection h2 with e1 e2
  injection e2 with e2 e3
  exact ⟨i, h1, e1, e2, e3⟩

/-- An Out at a block holds these bytes, and no error. -/
structure OutAt (w : World) (g : Nat) (v : Value) (l : List UInt8) : Prop where
  own : w.ownsRow (g + 1) 5 1 v l.length (bcells l)
  c0 : w.cell? ⟨g, 0, none⟩ = some v
  c1 : w.cell? ⟨g, 1, none⟩ = some (.int .i64 0)
  f0 : w.frozen? ⟨g, 0, none⟩ = false
  f1 : w.frozen? ⟨g, 1, none⟩ = false
theorem OutAt.lt {w : World} {g : Nat} {v : Value} {l : List UInt8} (h : OutAt w g v l) : g < w.heap.size := World.block_lt_of_cell? w _ h.c0
theorem OutAt.apart {w : World} {g : Nat} {v : Value} {l : List UInt8} (h : OutAt w g v l) : g ∉ v.ownBlock.toList := by
  intro hm
  have := (h.own.lt g (by simpa using hm)).1
  omega
/-- More bytes: the row has grown, and the field is set. -/
theorem OutAt.grown {w w1 : World} {g : Nat} {v v1 : Value} {l m : List UInt8} (h : OutAt w g v l) (ho : w1.ownsRow (g + 1) 5 1 v1 m.length (bcells m)) (hg : w.grownBy w1 v.ownBlock) :
    OutAt (w1.setCell ⟨g, 0, none⟩ v1) g v1 m := by
  have hT := Touched.of_grown hg
  have hc0 : w1.cell? ⟨g, 0, none⟩ = some v := (hT.cell h.lt h.apart).trans h.c0
  have hc1 : w1.cell? ⟨g, 1, none⟩ = some (.int .i64 0) := (hT.cell h.lt h.apart).trans h.c1
  have hf0 : w1.frozen? ⟨g, 0, none⟩ = false := (hT.free h.lt h.apart).trans h.f0
  have hf1 : w1.frozen? ⟨g, 1, none⟩ = false := (hT.free h.lt h.apart).trans h.f1
  refine ⟨ownsRow_setCell_below ho (by simp) _, ?_, ?_, ?_, ?_⟩
  · exact World.cell?_setCell_same' w1 _ _ (by rw [hc0]; simp)
  · exact (World.cell?_setCell_other w1 ⟨g, 0, none⟩ ⟨g, 1, none⟩ _ (by simp)).trans hc1
  · rw [World.frozen?_setCell]; exact hf0
  · rw [World.frozen?_setCell]; exact hf1

set_option maxHeartbeats 1600000 in
theorem outRaw_calls (g : Nat) (v : Value) (l : List UInt8) (A : Option Addr) (c : Nat) (ts : List ByteArray) (w : World) (hO : OutAt w g v l) (hn : ts.length ≤ 4000000000000000000) (hsz : l.length + totalLen ts ≤ 140737488355328)
    (hR : ∀ w', Touched w w' (g :: v.ownBlock.toList) → RowAt w' A (scells ts)) :
    Calls Try.prog 61 #[.pointer (some ⟨g, 0, none⟩), .slice A ts.length c] w fun e w' => ∃ v', e = .returned (.pointer (some ⟨g, 0, none⟩)) ∧ OutAt w' g v' (l ++ (joinB ts).data.toList) ∧ Touched w w' (g :: v.ownBlock.toList) ∧ (∀ b, v'.ownBlock = some b → v.ownBlock = some b ∨ w.heap.size ≤ b) := by
  have HO0 : Box (OutAt w g v l) := ⟨hO⟩
  have HS := Lib.hid hsz; clear hsz
  have HR : Box _ := ⟨hR⟩
  clear hR hO
  obtain ⟨i0, hi0, hi1, hi2, hi3⟩ := u8_info
  have HI : Box (Try.prog.info? 5 = some i0 ∧ i0.zero = some (.int .u8 0) ∧ i0.size = 1 ∧ i0.bytes = 1) := ⟨hi0, hi1, hi2, hi3⟩
  clear hi0 hi1 hi2 hi3
  go_enter Try.func61, Try.ntmps61
  go_wp2
  go_loopw [9] (fun i wr => ∃ (k : Nat) (u : Value), k ≤ ts.length ∧ i = .int .i64 (k : Int) ∧ Box (OutAt wr g u (l ++ (joinB (ts.take k)).data.toList)) ∧ Hid (Touched w wr (g :: v.ownBlock.toList)) ∧ Box (∀ b, u.ownBlock = some b → v.ownBlock = some b ∨ w.heap.size ≤ b)) (fun i _ => ts.length - (intOf i).toNat)
  case atStart => exact ⟨0, v, by omega, rfl, ⟨by have := HO0.out; simpa [joinB] using this⟩, Touched.refl _ _, ⟨fun b hb => .inl hb⟩⟩
  case round =>
    obtain ⟨k, u, hk, rfl, HO, HT, HF⟩ := hrel
    by_cases hlt : k < ts.length
    · obtain ⟨s, hs⟩ := some_at hlt
      obtain ⟨ad, rfl, hc⟩ := (HR.out _ HT.out).get (scells_at hs)
      have HX : Box (l ++ (joinB (ts.take (k + 1))).data.toList = (l ++ (joinB (ts.take k)).data.toList) ++ s.data.toList) := ⟨by rw [take_snoc_of hs, joinB_snoc, show (joinB (ts.take k) ++ s).data.toList = (joinB (ts.take k)).data.toList ++ s.data.toList by simp, List.append_assoc]⟩
      have HL : Hid ((l ++ (joinB (ts.take k)).data.toList).length + s.size ≤ 140737488355328) := by
        have h1 := totalLen_take_le ts (k + 1)
        rw [take_snoc_of hs, totalLen_snoc, ← joinB_size] at h1
        have h2 := HS.out
        rw [Hid, List.length_append, data_length]
        omega
      clear hs
      obtain ⟨m, hm⟩ : ∃ m, l ++ (joinB (ts.take k)).data.toList = m := ⟨_, rfl⟩
      rw [hm] at HX HL HO
      clear hm
      obtain ⟨a0, ca, rfl, _, _, _⟩ := (Own.of_row HO.out.own).slice
      have k0 := HO.out.c0
      have k1 := HO.out.c1
      have e0 := HO.out.f0
      go_wp2_with (at_builtin; refine appS rfl _ _ 39 9 rfl (g + 1) 5 i0 Try.underlying39 Try.underlying9 HI.out.1 HI.out.2.1 HI.out.2.2.1 HI.out.2.2.2 (.slice a0 m.length ca) _ _ rfl HO.out.own s rfl HL.out HO.out.lt ?_; intro v1 w1 hown1 hg1 hp1; obtain ⟨a1, c1, rfl, _, _, _⟩ := (Own.of_row hown1).slice; have hT := Touched.of_grown hg1; have k4 := (hT.cell HO.out.lt HO.out.apart).trans HO.out.c0; have e4 := (hT.free HO.out.lt HO.out.apart).trans HO.out.f0; have HG1 : Box _ := ⟨hg1⟩; have HW1 : Box _ := ⟨hown1⟩; have HP1 : Box _ := ⟨hp1⟩; clear hown1 hg1 hT k0 k1 e0 hp1)
      go_roundw
      case rel =>
        have hO2 : OutAt (w1.setCell ⟨g, 0, none⟩ (.slice a1 (m.length + s.size) c1)) g (.slice a1 (m.length + s.size) c1) (m ++ s.data.toList) := HO.out.grown (by
          have h := HW1.out
          rw [show Lib.strCells s = bcells s.data.toList from rfl] at h
          rw [bcells, List.map_append, List.length_append, data_length]
          exact h) HG1.out
        refine ⟨k + 1, _, by omega, by go_num, ⟨by rw [HX.out]; exact hO2⟩, (HT.out.trans' (Touched.of_grown HG1.out) ?_).setCell (.inl (by simp)) _, ⟨fun b hb => ?_⟩⟩
        · intro j hj
          rcases HF.out j (by simpa using hj) with h | h
          · exact .inl (by simp [h])
          · exact .inr h
        · rcases HP1.out with h | h
          · exact HF.out b (by rw [← h]; exact hb)
          · rw [h] at hb
            injection hb with hb
            exact .inr (by rw [← hb]; exact HT.out.size)
      case measure => simp [intOf]; omega
    · obtain rfl : k = ts.length := by omega
      go_wp2
      go_ret
      exact ⟨u, rfl, by have := HO.out; rwa [List.take_of_length_le (Nat.le_refl _)] at this, HT.out, HF.out⟩
end Go.Proofs.Yteokcbgaljhpgaa
