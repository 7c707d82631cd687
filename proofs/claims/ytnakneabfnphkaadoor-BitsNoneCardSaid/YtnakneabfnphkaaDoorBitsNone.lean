/- BitsNone: of a nil writer and of a nil reader. -/
import Derived.Test.YtnakneabfnphkaaDoorBitsAlive
namespace Go.Proofs.YtnakneabfnphkaaDoor
open Go.RowKit

theorem outPad_nil (n : Int) (w : World) : Calls Tryd.prog 34 #[.pointer none, .int .i64 n] w fun r w' => r = .returned (.pointer none) ∧ w = w' := by
  go_enter Tryd.func34, Tryd.ntmps34
  go_wp2_with fail
  go_ret
  exact ⟨rfl, rfl⟩
theorem inText_nil (w : World) : Calls Tryd.prog 24 #[.pointer none] w fun r w' => r = .returned (.string ByteArray.empty) ∧ Below w.heap.size w w' := by
  have H : Box _ := ⟨inHalf_nil w⟩
  go_enter Tryd.func24, Tryd.ntmps24
  go_wp2_with fail
  refine Calls.mono H.out ?_
  rintro r w1 ⟨rfl, hb⟩
  have HB : Box _ := ⟨hb⟩
  clear hb
  go_wp2_with fail
  refine (inRaw_nil 0 w1).mono ?_
  rintro r w2 ⟨rfl, rfl⟩
  go_wp2_with fail
  go_ret
  exact ⟨rfl, HB.out⟩
theorem rawNew_nil (s : ByteArray) (w : World) : Calls Tryd.prog 13 #[.pointer none, .slice (some ⟨w.heap.size, 0, none⟩) 1 1] (w.alloc (.cells #[.string s] 9)) fun r w' => r = .returned (.pointer none) ∧ w' = w.alloc (.cells #[.string s] 9) :=
  (outRaw_nil _ 1 s _ (rowAt_alloc w (scells [s]) _)).mono fun r w' ⟨h1, h2⟩ => ⟨h1, h2.symm⟩
theorem textNew_nil (s : ByteArray) (w : World) : Calls Tryd.prog 11 #[.pointer none, .slice (some ⟨w.heap.size, 0, none⟩) 1 1] (w.alloc (.cells #[.string s] 9)) fun r w' => r = .returned (.pointer none) ∧ w' = w.alloc (.cells #[.string s] 9) :=
  (outText_nil _ 1 s _ (rowAt_alloc w (scells [s]) _)).mono fun r w' ⟨h1, h2⟩ => ⟨h1, h2.symm⟩

set_option maxHeartbeats 3200000 in
theorem bitsNone_calls (n : Int) (s : ByteArray) (w : World) : Calls Tryd.prog 8 #[.int .i64 n, .string s] w fun e w' => e = .returned (.bool true) ∧ Below w.heap.size w w' := by
  by_cases hg : s.size ≤ 200
  case neg =>
    have h1 : (200 : Int) < (s.size : Int) := by omega
    clear hg
    go_enter Tryd.func8, Tryd.ntmps8
    go_wp2_with fail
    refine (bitsAlive_calls _).mono ?_
    rintro e w1 ⟨rfl, hb1⟩
    go_wp2
    go_ret
    exact ⟨rfl, hb1⟩
  have h1 : (s.size : Int) ≤ 200 := by omega
  clear hg
  go_enter Tryd.func8, Tryd.ntmps8
  go_wp2_with fail
  refine (bitsAlive_calls _).mono ?_
  rintro e w1 ⟨rfl, hb1⟩
  have HB1 : Box _ := ⟨hb1⟩
  clear hb1
  go_wp2_with fail
  refine (outByte_nil 1 w1).mono ?_
  rintro e w2 ⟨rfl, he⟩
  have HB2 : Box (Below w.heap.size w w2) := ⟨by rw [he]; exact HB1.out.alloc HB1.out.size _⟩
  clear he
  go_wp2_with fail
  refine (outHalf_nil n w2).mono ?_
  rintro e w3 ⟨rfl, he⟩
  have HB3 : Box (Below w.heap.size w w3) := ⟨by rw [he]; exact HB2.out.alloc HB2.out.size _⟩
  clear he
  go_wp2_with fail
  refine (outWord_nil 1 w3).mono ?_
  rintro e w4 ⟨rfl, he⟩
  have HB4 : Box (Below w.heap.size w w4) := ⟨by rw [he]; exact HB3.out.alloc HB3.out.size _⟩
  clear he
  go_wp2_with fail
  refine (outLong_nil n w4).mono ?_
  rintro e w5 ⟨rfl, he⟩
  have HB5 : Box (Below w.heap.size w w5) := ⟨by rw [he]; exact HB4.out.alloc HB4.out.size _⟩
  clear he
  go_wp2_with fail
  refine (textNew_nil s w5).mono ?_
  rintro e w6 ⟨rfl, he⟩
  have HB6 : Box (Below w.heap.size w w6) := ⟨by rw [he]; exact HB5.out.alloc HB5.out.size _⟩
  clear he
  go_wp2_with fail
  refine (rawNew_nil s w6).mono ?_
  rintro e w7 ⟨rfl, he⟩
  have HB7 : Box (Below w.heap.size w w7) := ⟨by rw [he]; exact HB6.out.alloc HB6.out.size _⟩
  clear he
  go_wp2_with fail
  refine (outPad_nil n w7).mono ?_
  rintro e w8 ⟨rfl, rfl⟩
  go_wp2_with fail
  refine (outEnd_nil w7).mono ?_
  rintro e w8 ⟨rfl, rfl⟩
  go_wp2_with fail
  refine (inByte_nil w7).mono ?_
  rintro e w8 ⟨rfl, hb⟩
  have HB8 : Box (Below w.heap.size w w8) := ⟨below_trans' HB7.out hb⟩
  clear hb
  go_wp2_with fail
  refine (inHalf_nil w8).mono ?_
  rintro e w9 ⟨rfl, hb⟩
  have HB9 : Box (Below w.heap.size w w9) := ⟨below_trans' HB8.out hb⟩
  clear hb
  go_wp2_with fail
  refine (inWord_nil w9).mono ?_
  rintro e w10 ⟨rfl, hb⟩
  have HB10 : Box (Below w.heap.size w w10) := ⟨below_trans' HB9.out hb⟩
  clear hb
  go_wp2_with fail
  refine (inLong_nil w10).mono ?_
  rintro e w11 ⟨rfl, hb⟩
  have HB11 : Box (Below w.heap.size w w11) := ⟨below_trans' HB10.out hb⟩
  clear hb
  go_wp2_with fail
  refine (inLeft_nil w11).mono ?_
  rintro e w12 ⟨rfl, rfl⟩
  go_wp2_with fail
  refine (inText_nil w11).mono ?_
  rintro e w12 ⟨rfl, hb⟩
  have HB12 : Box (Below w.heap.size w w12) := ⟨below_trans' HB11.out hb⟩
  clear hb
  go_wp2_with fail
  refine (inRaw_nil n w12).mono ?_
  rintro e w13 ⟨rfl, rfl⟩
  go_wp2_with fail
  refine (inRest_nil w12).mono ?_
  rintro e w13 ⟨rfl, rfl⟩
  go_wp2_with fail
  refine (inEnd_nil w12).mono ?_
  rintro e w13 ⟨rfl, rfl⟩
  go_wp2_with fail
  go_ret
  exact ⟨rfl, HB12.out⟩
end Go.Proofs.YtnakneabfnphkaaDoor
