/- Words and contracts that this claim leans on, one text behind the other. -/
import Derived.Test.YtbkankpfkbafdaaMarkText
/- masonrylaw6.alive: a first call. -/
namespace Go.Proofs.Ytbkankpfkbafdaa
open Go.RowKit
set_option linter.unusedVariables false

theorem of_new (k : Int) (l : List ByteArray) (n : Nat) (w : World) (hl : l.length = n) (hn : n ≤ 1000) (hs : totalLen l ≤ 1000000) :
    Calls Try.prog 24 #[.int .i64 k, .slice (some ⟨w.heap.size, 0, none⟩) n n] (w.alloc (.cells (scells l).toArray 9)) fun e w' => e = .returned (.tuple #[.agg #[.int .i64 (ofM k l).1, .string (ofM k l).2.1], .int .i64 (ofM k l).2.2]) ∧ Below w.heap.size w w' :=
  (of_calls k _ n n l _ hl (Nat.le_refl _) (by omega) hs (rowAt_alloc w (scells l) _)).mono fun _ _ ⟨he, hb⟩ => ⟨he, bel_calls (bel_alloc (Below.refl _ _) _) hb⟩
theorem markAlive_calls (w : World) : Calls Try.prog 6 #[] w fun e w' => e = .returned (.bool true) ∧ Below w.heap.size w w' := by
  have H1 : Box _ := ⟨of_new 1 [⟨#[97]⟩, ⟨#[98, 99]⟩] 2 w rfl (by omega) (by decide)⟩
  have hM : ofM 1 [⟨#[97]⟩, ⟨#[98, 99]⟩] = (1, sumB [⟨#[97]⟩, ⟨#[98, 99]⟩], 0) := rfl
  rw [hM] at H1
  have hT := known_abc
  have hz : (sumB [⟨#[97]⟩, ⟨#[98, 99]⟩]).size = 20 := sumB_size _
  obtain ⟨s, hs⟩ : ∃ s, sumB [⟨#[97]⟩, ⟨#[98, 99]⟩] = s := ⟨_, rfl⟩
  rw [hs] at H1 hT hz
  have T1 : Box _ := ⟨fun W => text_calls 1 s W (by omega)⟩
  rw [hT] at T1
  have hv : validM 1 s = true := by rw [validM, hz]; rfl
  have V1 : Box _ := ⟨fun W => valid_calls 1 s W⟩
  rw [hv] at V1
  have S1 : Box _ := ⟨fun W => size_calls 2 W⟩
  clear hM hT hz hs hv
  go_enter Try.func6, Try.ntmps6
  go_wp2_with fail
  refine H1.out.mono ?_
  rintro e w1 ⟨rfl, hb1⟩
  have HB1 : Box _ := ⟨hb1⟩
  clear hb1
  have HP1 : Box _ := ⟨PrintAt.new w1 1 s⟩
  have HB2 : Box _ := ⟨bel_alloc HB1.out (.cells #[.int .i64 1, .string s] 23)⟩
  go_wp2_with fail
  refine (T1.out _).mono ?_
  rintro e w2 ⟨rfl, hb2⟩
  have HP2 : Box _ := ⟨HP1.out.below hb2⟩
  have HB3 : Box _ := ⟨bel_calls HB2.out hb2⟩
  have c0 := HP2.out.c0
  have c1 := HP2.out.c1
  clear hb2
  go_wp2_with fail
  refine (V1.out _).mono ?_
  rintro e w3 ⟨rfl, hb3⟩
  have HB4 : Box _ := ⟨bel_calls HB3.out hb3⟩
  clear hb3 c0 c1
  go_wp2_with fail
  refine (S1.out _).mono ?_
  rintro e w4 ⟨rfl, rfl⟩
  go_wp2_with fail
  go_ret
  exact ⟨rfl, HB4.out⟩
end Go.Proofs.Ytbkankpfkbafdaa
