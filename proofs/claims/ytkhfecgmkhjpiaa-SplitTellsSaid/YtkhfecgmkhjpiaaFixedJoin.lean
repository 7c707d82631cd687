/- fixed.Join: the bytes in spans, one behind the other. -/
import Derived.Test.YtkhfecgmkhjpiaaFixed
import Derived.Test.YtkhfecgmkhjpiaaStrs
namespace Go.Proofs.Ytkhfecgmkhjpiaa
open Go.RowKit
set_option linter.unusedVariables false

def okSpan (size : Nat) (p : Int × Int) : Prop := 0 ≤ p.1 ∧ p.1 ≤ p.2 ∧ p.2 ≤ size
instance (size : Nat) (p : Int × Int) : Decidable (okSpan size p) := by unfold okSpan; infer_instance
def cutOf (s : List UInt8) (p : Int × Int) : List UInt8 := (s.drop p.1.toNat).take (p.2.toNat - p.1.toNat)
def catSpans (s : List UInt8) (l : List (Int × Int)) : List UInt8 := l.flatMap (cutOf s)
theorem catSpans_snoc (s : List UInt8) (l : List (Int × Int)) (p : Int × Int) : catSpans s (l ++ [p]) = catSpans s l ++ cutOf s p := by simp [catSpans]
theorem cutOf_le (s : List UInt8) (p : Int × Int) : (cutOf s p).length ≤ s.length := by simp [cutOf]; omega
theorem catSpans_le (s : List UInt8) (l : List (Int × Int)) : (catSpans s l).length ≤ l.length * s.length := by
  induction l with
  | nil => simp [catSpans]
  | cons p l ih =>
    have := cutOf_le s p
    simp only [catSpans, List.flatMap_cons, List.length_append, List.length_cons] at *
    rw [Nat.add_mul]; omega
theorem catSpans_take_le (s : List UInt8) (l : List (Int × Int)) (k : Nat) : (catSpans s (l.take k)).length ≤ l.length * s.length := by
  refine Nat.le_trans (catSpans_le s _) (Nat.mul_le_mul_right _ ?_)
  rw [List.length_take]; omega

def okAll (size : Nat) (l : List (Int × Int)) : Prop := ∀ p ∈ l, okSpan size p
instance (size : Nat) (l : List (Int × Int)) : Decidable (okAll size l) := by unfold okAll; infer_instance
def joinR (s : ByteArray) (l : List (Int × Int)) : Value := if okAll s.size l then .tuple #[.string ⟨(catSpans s.data.toList l).toArray⟩, .int .i64 0] else .tuple #[.string ByteArray.empty, .int .i64 15]
theorem joinR_ok {s : ByteArray} {l : List (Int × Int)} (h : okAll s.size l) : joinR s l = .tuple #[.string ⟨(catSpans s.data.toList l).toArray⟩, .int .i64 0] := if_pos h
theorem joinR_bad {s : ByteArray} {l : List (Int × Int)} (h : ¬ okAll s.size l) : joinR s l = .tuple #[.string ByteArray.empty, .int .i64 15] := if_neg h
set_option maxHeartbeats 4000000 in
theorem fixedJoin_calls (s : ByteArray) (A : Option Addr) (n c : Nat) (l : List (Int × Int)) (w : World) (hs : s.size ≤ 1000000) (hl : l.length = n) (hn : n ≤ 1000000) (hR : RowAt w A (pcells l)) :
    Calls Try.prog 22 #[.string s, .slice A n c] w fun e w' =>
      e = .returned (joinR s l) ∧ Below w.heap.size w w' := by
  subst hl
  have HR := Lib.hid hR; clear hR
  have HX0 : Hid (Bld (w.alloc (.cells #[.pointer none, .slice none 0 0] 85)) w.heap.size w.heap.size []) := Bld.fresh w
  have HB0 : Hid (Below w.heap.size w (w.alloc (.cells #[.pointer none, .slice none 0 0] 85))) := (Below.refl _ _).alloc (Nat.le_refl _) _
  go_enter Try.func22, Try.ntmps22
  go_wp2
  go_loopw [13] (fun i wr => ∃ k : Nat, k ≤ l.length ∧ i = .int .i64 k ∧ Hid (okAll s.size (l.take k)) ∧ Hid (Below w.heap.size w wr) ∧ Hid (Bld wr w.heap.size w.heap.size [])) (fun i _ => l.length - (intOf i).toNat)
  case atStart => exact ⟨0, Nat.zero_le _, rfl, by intro p hp; simp at hp, HB0, HX0⟩
  case round =>
    obtain ⟨k, hk, rfl, HK, HW, HX⟩ := hrel
    by_cases hlt : k < l.length
    · obtain ⟨⟨x, y⟩, hx⟩ := some_at hlt
      obtain ⟨b, o, rfl, hb, h1, h2⟩ := pair_at (HR.out.below HW.out) hx
      simp only at h1 h2
      by_cases hok : okSpan s.size (x, y)
      · have HK1 : Hid (okAll s.size (l.take (k + 1))) := by
          rw [Hid, take_snoc_of hx]
          intro p hp
          rcases List.mem_append.1 hp with hp | hp
          · exact HK.out p hp
          · rw [List.mem_singleton.1 hp]; exact hok
        obtain ⟨c1, c2, c3⟩ := hok
        simp only at c1 c2 c3
        have d1 : ¬ x < 0 := by omega
        have d2 : ¬ y < x := by omega
        have d3 : ¬ (s.size : Int) < y := by omega
        clear hx
        go_wp2
        go_roundw
        case rel => exact ⟨k + 1, by omega, by go_num, HK1, (HW.out.alloc HW.out.size _), HX.out.below ((Below.refl _ _).alloc (Nat.le_refl _) _)⟩
        case measure => simp [intOf]; omega
      · have HF : Hid (joinR s l = .tuple #[.string ByteArray.empty, .int .i64 15]) := joinR_bad fun h => hok (h _ (List.mem_of_getElem? hx))
        clear hx
        clear HK
        by_cases d1 : x < 0
        · go_wp2
          go_ret2
          exact ⟨by rw [HF.out]; rfl, HW.out.alloc HW.out.size _⟩
        · by_cases d2 : y < x
          · go_wp2
            go_ret2
            exact ⟨by rw [HF.out]; rfl, HW.out.alloc HW.out.size _⟩
          · have d3 : (s.size : Int) < y := by
              by_cases d3 : (s.size : Int) < y
              · exact d3
              · exact absurd ⟨by simp only; omega, by simp only; omega, by simp only; omega⟩ hok
            go_wp2
            go_ret2
            exact ⟨by rw [HF.out]; rfl, HW.out.alloc HW.out.size _⟩
    · have HT : Hid (okAll s.size l) := by
        have := HK.out
        rwa [List.take_of_length_le (by omega)] at this
      have HL : Hid (∀ k, (catSpans s.data.toList (l.take k)).length ≤ l.length * s.size) := by
        intro k; rw [← data_length]; exact catSpans_take_le _ _ _
      go_wp2
      go_loopw [37] (fun i wr => ∃ k : Nat, k ≤ l.length ∧ i = .int .i64 k ∧ Hid (Below w.heap.size w wr) ∧ Hid (Bld wr w.heap.size w.heap.size (catSpans s.data.toList (l.take k)))) (fun i _ => l.length - (intOf i).toNat)
      case atStart => exact ⟨0, Nat.zero_le _, rfl, HW, HX⟩
      case round =>
        obtain ⟨k, hk, rfl, HW2, HX2⟩ := hrel
        by_cases hlt : k < l.length
        · obtain ⟨⟨x, y⟩, hx⟩ := some_at hlt
          obtain ⟨b, o, rfl, hb, h1, h2⟩ := pair_at (HR.out.below HW2.out) hx
          have hok := HT.out _ (List.mem_of_getElem? hx)
          obtain ⟨c1, c2, c3⟩ := hok
          simp only at h1 h2 c1 c2 c3
          have HS : Hid (catSpans s.data.toList (l.take (k + 1)) = catSpans s.data.toList (l.take k) ++ (s.extract x.toNat y.toNat).data.toList) := by
            rw [Hid, take_snoc_of hx, catSpans_snoc]
            congr 1
            rw [cutOf, Lib.extract_data]
          clear hx
          have hex : (s.extract x.toNat y.toNat).size ≤ s.size := by rw [ByteArray.size_extract]; omega
          have HEX := Lib.hid hex; clear hex
          have HBW : Hid (Below w.heap.size w (wr.alloc (.cells #[.int .i64 x, .int .i64 y] 47))) := HW2.out.alloc HW2.out.size _
          have HXW : Hid (Bld (wr.alloc (.cells #[.int .i64 x, .int .i64 y] 47)) w.heap.size w.heap.size (catSpans s.data.toList (l.take k))) := HX2.out.below ((Below.refl _ _).alloc (Nat.le_refl _) _)
          have HLK : Hid ((catSpans s.data.toList (l.take k)).length + (s.extract x.toNat y.toNat).size ≤ 140737488355328) := by
            have h1 := HL.out k
            have h2 : l.length * s.size ≤ 1000000 * 1000000 := Nat.mul_le_mul hn hs
            have h3 := HEX.out
            rw [Hid]; omega
          go_wp2_with fail
          refine (builderWrite_calls w.heap.size w.heap.size _ _ _ HXW.out HLK.out HBW.out.size).mono ?_
          rintro e w3 ⟨rfl, hx3, hb3⟩
          have HB3 := Lib.hid (HBW.out.trans hb3); clear hb3
          have HX3 : Hid (Bld w3 w.heap.size w.heap.size (catSpans s.data.toList (l.take (k + 1)))) := by rw [HS.out]; exact hx3
          clear hx3
          go_wp2
          go_roundw
          case rel => exact ⟨k + 1, by omega, by go_num, HB3, HX3⟩
          case measure => simp [intOf]; omega
        · go_wp2_with fail
          refine (builderString_calls w.heap.size w.heap.size _ _ HX2.out HW2.out.size).mono ?_
          rintro e w3 ⟨rfl, hb3⟩
          have HB3 := Lib.hid (HW2.out.trans hb3); clear hb3
          go_wp2
          go_ret2
          refine ⟨?_, HB3.out⟩
          rw [joinR_ok HT.out, List.take_of_length_le (by omega)]
          rfl
end Go.Proofs.Ytkhfecgmkhjpiaa
