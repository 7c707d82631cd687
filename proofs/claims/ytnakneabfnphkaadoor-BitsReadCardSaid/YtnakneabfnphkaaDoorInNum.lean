/- bits.In: Byte, Half, Word, Long (printed: alike), Text, Rest, End; of a nil reader. -/
import Derived.Test.YtnakneabfnphkaaDoorInLow
namespace Go.Proofs.YtnakneabfnphkaaDoor
open Go.RowKit

theorem inRaw_nil (n : Int) (w : World) : Calls Tryd.prog 26 #[.pointer none, .int .i64 n] w fun r w' => r = .returned (.string ByteArray.empty) ∧ w = w' := by
  go_enter Tryd.func26, Tryd.ntmps26
  go_wp2_with fail
  go_ret
  exact ⟨rfl, rfl⟩
theorem inLeft_nil (w : World) : Calls Tryd.prog 28 #[.pointer none] w fun r w' => r = .returned (.int .i64 0) ∧ w = w' := by
  go_enter Tryd.func28, Tryd.ntmps28
  go_wp2_with fail
  go_ret
  exact ⟨rfl, rfl⟩
theorem inLow_nil (size : Nat) (w : World) : Calls Tryd.prog 37 #[.pointer none, .int .i64 (size : Int)] w fun r w' => r = .returned (.int .i64 0) ∧ Below w.heap.size w w' := by
  have H : Box _ := ⟨fun W => inRaw_nil (size : Int) W⟩
  have kb := fun (W : World) (s : ByteArray) => Lib.run_convert_string_bytes (P := Tryd.prog) W 9 26 5 s Tryd.underlying9 Tryd.underlying26 Tryd.underlying5
  have HB : Box _ := ⟨bytes_below w 5 ByteArray.empty⟩
  have hz : ByteArray.empty.size = 0 := rfl
  go_enter Tryd.func37, Tryd.ntmps37
  go_wp2_with fail
  refine Calls.mono (H.out _) ?_
  rintro r w1 ⟨rfl, rfl⟩
  go_wp2_with fail
  go_loop [5, 13] (fun x i => i = .int .i64 0 ∧ x = .int .u64 0) (fun _ i => 1)
  case atStart => exact ⟨rfl, rfl⟩
  case round =>
    obtain ⟨rfl, rfl⟩ := hrel
    go_wp2_with fail
    go_ret
    exact ⟨rfl, HB.out⟩

theorem inByte_calls (g : Nat) (e : Int) (s : ByteArray) (w : World) (h : InS w g e s) (hs : s.size ≤ 1000000000) :
    Calls Tryd.prog 19 #[.pointer (some ⟨g, 0, none⟩)] w fun r w' => r = .returned (.int .i64 (lowI e s 1).1) ∧ InS w' g (lowI e s 1).2.1 (lowI e s 1).2.2 ∧ Touched w w' [g] := by
  have H : Box _ := ⟨inLow_calls 1 (by omega) g e s w h hs⟩
  clear h
  obtain ⟨d, hd⟩ : ∃ d, lowI e s 1 = d := ⟨_, rfl⟩
  rw [hd] at H ⊢
  clear hd
  go_enter Tryd.func19, Tryd.ntmps19
  go_wp2_with fail
  refine Calls.mono H.out ?_
  rintro r w1 ⟨rfl, h1, h2⟩
  go_wp2_with fail
  go_ret
  exact ⟨rfl, h1, h2⟩
theorem inByte_nil (w : World) : Calls Tryd.prog 19 #[.pointer none] w fun r w' => r = .returned (.int .i64 0) ∧ Below w.heap.size w w' := by
  have H : Box _ := ⟨fun W => inLow_nil 1 W⟩
  go_enter Tryd.func19, Tryd.ntmps19
  go_wp2_with fail
  refine Calls.mono (H.out _) ?_
  rintro r w1 ⟨rfl, h1⟩
  go_wp2_with fail
  go_ret
  exact ⟨rfl, h1⟩

theorem inHalf_calls (g : Nat) (e : Int) (s : ByteArray) (w : World) (h : InS w g e s) (hs : s.size ≤ 1000000000) :
    Calls Tryd.prog 21 #[.pointer (some ⟨g, 0, none⟩)] w fun r w' => r = .returned (.int .i64 (lowI e s 2).1) ∧ InS w' g (lowI e s 2).2.1 (lowI e s 2).2.2 ∧ Touched w w' [g] := by
  have H : Box _ := ⟨inLow_calls 2 (by omega) g e s w h hs⟩
  clear h
  obtain ⟨d, hd⟩ : ∃ d, lowI e s 2 = d := ⟨_, rfl⟩
  rw [hd] at H ⊢
  clear hd
  go_enter Tryd.func21, Tryd.ntmps21
  go_wp2_with fail
  refine Calls.mono H.out ?_
  rintro r w1 ⟨rfl, h1, h2⟩
  go_wp2_with fail
  go_ret
  exact ⟨rfl, h1, h2⟩
theorem inHalf_nil (w : World) : Calls Tryd.prog 21 #[.pointer none] w fun r w' => r = .returned (.int .i64 0) ∧ Below w.heap.size w w' := by
  have H : Box _ := ⟨fun W => inLow_nil 2 W⟩
  go_enter Tryd.func21, Tryd.ntmps21
  go_wp2_with fail
  refine Calls.mono (H.out _) ?_
  rintro r w1 ⟨rfl, h1⟩
  go_wp2_with fail
  go_ret
  exact ⟨rfl, h1⟩

theorem inWord_calls (g : Nat) (e : Int) (s : ByteArray) (w : World) (h : InS w g e s) (hs : s.size ≤ 1000000000) :
    Calls Tryd.prog 22 #[.pointer (some ⟨g, 0, none⟩)] w fun r w' => r = .returned (.int .i64 (lowI e s 4).1) ∧ InS w' g (lowI e s 4).2.1 (lowI e s 4).2.2 ∧ Touched w w' [g] := by
  have H : Box _ := ⟨inLow_calls 4 (by omega) g e s w h hs⟩
  clear h
  obtain ⟨d, hd⟩ : ∃ d, lowI e s 4 = d := ⟨_, rfl⟩
  rw [hd] at H ⊢
  clear hd
  go_enter Tryd.func22, Tryd.ntmps22
  go_wp2_with fail
  refine Calls.mono H.out ?_
  rintro r w1 ⟨rfl, h1, h2⟩
  go_wp2_with fail
  go_ret
  exact ⟨rfl, h1, h2⟩
theorem inWord_nil (w : World) : Calls Tryd.prog 22 #[.pointer none] w fun r w' => r = .returned (.int .i64 0) ∧ Below w.heap.size w w' := by
  have H : Box _ := ⟨fun W => inLow_nil 4 W⟩
  go_enter Tryd.func22, Tryd.ntmps22
  go_wp2_with fail
  refine Calls.mono (H.out _) ?_
  rintro r w1 ⟨rfl, h1⟩
  go_wp2_with fail
  go_ret
  exact ⟨rfl, h1⟩

theorem inLong_calls (g : Nat) (e : Int) (s : ByteArray) (w : World) (h : InS w g e s) (hs : s.size ≤ 1000000000) :
    Calls Tryd.prog 23 #[.pointer (some ⟨g, 0, none⟩)] w fun r w' => r = .returned (.int .i64 (lowI e s 8).1) ∧ InS w' g (lowI e s 8).2.1 (lowI e s 8).2.2 ∧ Touched w w' [g] := by
  have H : Box _ := ⟨inLow_calls 8 (by omega) g e s w h hs⟩
  clear h
  obtain ⟨d, hd⟩ : ∃ d, lowI e s 8 = d := ⟨_, rfl⟩
  rw [hd] at H ⊢
  clear hd
  go_enter Tryd.func23, Tryd.ntmps23
  go_wp2_with fail
  refine Calls.mono H.out ?_
  rintro r w1 ⟨rfl, h1, h2⟩
  go_wp2_with fail
  go_ret
  exact ⟨rfl, h1, h2⟩
theorem inLong_nil (w : World) : Calls Tryd.prog 23 #[.pointer none] w fun r w' => r = .returned (.int .i64 0) ∧ Below w.heap.size w w' := by
  have H : Box _ := ⟨fun W => inLow_nil 8 W⟩
  go_enter Tryd.func23, Tryd.ntmps23
  go_wp2_with fail
  refine Calls.mono (H.out _) ?_
  rintro r w1 ⟨rfl, h1⟩
  go_wp2_with fail
  go_ret
  exact ⟨rfl, h1⟩

/-- Text. -/
def textI (e : Int) (s : ByteArray) : ByteArray × Int × ByteArray := rawI (lowI e s 2).2.1 (lowI e s 2).2.2 (lowI e s 2).1
theorem inText_calls (g : Nat) (e : Int) (s : ByteArray) (w : World) (h : InS w g e s) (hs : s.size ≤ 1000000000) :
    Calls Tryd.prog 24 #[.pointer (some ⟨g, 0, none⟩)] w fun r w' => r = .returned (.string (textI e s).1) ∧ InS w' g (textI e s).2.1 (textI e s).2.2 ∧ Touched w w' [g] := by
  have H : Box _ := ⟨inHalf_calls g e s w h hs⟩
  have hz := lowI_size e s 2
  clear h
  rw [textI]
  obtain ⟨⟨x, y, t⟩, hd⟩ : ∃ d, lowI e s 2 = d := ⟨_, rfl⟩
  rw [hd] at H hz ⊢
  have HZ : Box (t.size ≤ 1000000000) := ⟨Nat.le_trans hz hs⟩
  obtain ⟨d2, hd2⟩ : ∃ d2, rawI (x, y, t).2.1 (x, y, t).2.2 (x, y, t).1 = d2 := ⟨_, rfl⟩
  rw [hd2]
  have HD2 : Box (rawI y t x = d2) := ⟨hd2⟩
  clear hd hz hd2
  go_enter Tryd.func24, Tryd.ntmps24
  go_wp2_with fail
  refine Calls.mono H.out ?_
  rintro r w1 ⟨rfl, h1, h2⟩
  have H2 : Box _ := ⟨inRaw_calls g x y t w1 h1 HZ.out⟩
  have HT : Box _ := ⟨h2⟩
  clear h1 h2
  rw [HD2.out] at H2
  go_wp2_with fail
  refine Calls.mono H2.out ?_
  rintro r w2 ⟨rfl, h3, h4⟩
  go_wp2_with fail
  go_ret
  exact ⟨rfl, h3, HT.out.trans h4⟩
end Go.Proofs.YtnakneabfnphkaaDoor
