/- masonrylaw1.alive: a first call; a new Out. -/
import Derived.Test.YtnakneabfnphkaaDoorOutText
import Derived.Test.YtnakneabfnphkaaDoorInEnd
namespace Go.Proofs.YtnakneabfnphkaaDoor
open Go.RowKit

theorem outNew (w : World) : OutS (w.alloc (.cells #[.slice none 0 0, .int .i64 0] 29)) w.heap.size (.slice none 0 0) 0 [] := by
  have hb := heap_alloc_new w (.cells #[.slice none 0 0, .int .i64 0] 29)
  exact ⟨⟨rfl, .inl ⟨rfl, rfl⟩⟩, cell_of_row _ _ 0 _ _ (0, 0) hb, cell_of_row _ _ 1 _ _ (0, 0) hb, frozen_of_row _ _ 0 _ _ hb, frozen_of_row _ _ 1 _ _ hb⟩
def aliveS : ByteArray := ⟨#[2, 1, 1, 0, 1, 0, 97]⟩
theorem alive_lay : layO 2 (0, []) [258, 1] = (0, [2, 1, 1, 0]) := by decide +kernel
theorem alive_text : textO (0, [2, 1, 1, 0]) [⟨#[97]⟩] = (0, [2, 1, 1, 0, 1, 0, 97]) := by decide +kernel
theorem alive_end : endO (0, [2, 1, 1, 0, 1, 0, 97]) = (aliveS, 0) := by decide +kernel
theorem alive_r1 : lowI 0 aliveS 2 = (258, 0, ⟨#[1, 0, 1, 0, 97]⟩) := by decide +kernel
theorem alive_r2 : lowI 0 ⟨#[1, 0, 1, 0, 97]⟩ 2 = (1, 0, ⟨#[1, 0, 97]⟩) := by decide +kernel
theorem alive_r3 : textI 0 ⟨#[1, 0, 97]⟩ = (⟨#[97]⟩, 0, ByteArray.empty) := by decide +kernel
theorem alive_r4 : endI 0 ByteArray.empty = 0 := by decide +kernel

set_option maxHeartbeats 1600000 in
theorem bitsAlive_calls (w : World) : Calls Tryd.prog 9 #[] w fun e w' => e = .returned (.bool true) ∧ Below w.heap.size w w' := by
  have HO1 : Box _ := ⟨outNew w⟩
  have HB1 : Box (Below w.heap.size w (w.alloc (.cells #[.slice none 0 0, .int .i64 0] 29))) := ⟨(Below.refl _ _).alloc (Nat.le_refl _) _⟩
  have H1 : Box _ := ⟨outHalf_new w.heap.size (.slice none 0 0) 0 [] 2 [258, 1] _ rfl HO1.out (by omega) (by decide) (by decide)⟩
  rw [alive_lay] at H1
  have hsz1 : (w.alloc (.cells #[.slice none 0 0, .int .i64 0] 29)).heap.size = w.heap.size + 1 := by simp
  rw [hsz1] at H1
  clear hsz1
  go_enter Tryd.func9, Tryd.ntmps9
  go_wp2_with fail
  refine Calls.mono H1.out ?_
  rintro r w1 ⟨rfl, ⟨v1, h1, h2⟩, h3⟩
  have HB2 : Box (Below w.heap.size w w1) := ⟨h3.below HB1.out HB1.out.size (by simp [Value.ownBlock])⟩
  have HV : Box (∀ b, v1.ownBlock = some b → w.heap.size ≤ b) := ⟨fun b hb => (h2 b hb).elim (fun h => by simp [Value.ownBlock] at h) (fun h => by simp at h; omega)⟩
  have H2 : Box _ := ⟨outText_new w.heap.size v1 0 [2, 1, 1, 0] 1 [⟨#[97]⟩] w1 rfl h1 (by omega) (by decide)⟩
  rw [alive_text] at H2
  clear h1 h2 h3
  go_wp2_with fail
  refine Calls.mono H2.out ?_
  rintro r w2 ⟨rfl, ⟨v2, h1, h2⟩, h3⟩
  have HB3 : Box (Below w.heap.size w w2) := ⟨h3.below HB2.out HB2.out.size (by
    intro k hk
    simp only [List.mem_cons, Option.mem_toList] at hk
    rcases hk with rfl | hk
    · omega
    · exact HV.out k hk)⟩
  have H3 : Box _ := ⟨outEnd_calls w.heap.size v2 0 _ w2 h1⟩
  rw [alive_end, aliveS] at H3
  clear h1 h2 h3
  go_wp2_with fail
  refine Calls.mono H3.out ?_
  rintro r w3 ⟨rfl, hb⟩
  have HB4 : Box _ := ⟨below_trans' HB3.out hb⟩
  clear hb
  go_wp2_with fail
  refine (on_calls ⟨#[2, 1, 1, 0, 1, 0, 97]⟩ w3).mono ?_
  rintro r w4 ⟨rfl, h1, hb⟩
  have HB5 : Box _ := ⟨below_trans' HB4.out hb⟩
  have HI : Box _ := ⟨h1⟩
  obtain ⟨g, hg⟩ : ∃ g, w3.heap.size = g := ⟨_, rfl⟩
  have HG : Box (w.heap.size ≤ g) := ⟨by rw [← hg]; exact HB4.out.size⟩
  rw [hg] at HI ⊢
  clear hb h1 hg
  have H4 : Box _ := ⟨inHalf_calls g 0 aliveS w4 HI.out (by decide)⟩
  rw [alive_r1] at H4
  go_wp2_with fail
  refine Calls.mono H4.out ?_
  rintro r w5 ⟨rfl, h1, hT⟩
  have H5 : Box _ := ⟨inHalf_calls g 0 _ w5 h1 (by decide)⟩
  rw [alive_r2] at H5
  have HB6 : Box (Below w.heap.size w w5) := ⟨hT.below HB5.out HB5.out.size (by have := HG.out; simpa using this)⟩
  clear h1 hT
  go_wp2_with fail
  refine Calls.mono H5.out ?_
  rintro r w6 ⟨rfl, h1, hT⟩
  have H6 : Box _ := ⟨inText_calls g 0 _ w6 h1 (by decide)⟩
  rw [alive_r3] at H6
  have HB7 : Box (Below w.heap.size w w6) := ⟨hT.below HB6.out HB6.out.size (by have := HG.out; simpa using this)⟩
  clear h1 hT
  go_wp2_with fail
  refine Calls.mono H6.out ?_
  rintro r w7 ⟨rfl, h1, hT⟩
  have H7 : Box _ := ⟨inEnd_calls g 0 _ w7 h1 (by decide)⟩
  rw [alive_r4] at H7
  have HB8 : Box (Below w.heap.size w w7) := ⟨hT.below HB7.out HB7.out.size (by have := HG.out; simpa using this)⟩
  clear h1 hT
  go_wp2_with fail
  refine Calls.mono H7.out ?_
  rintro r w8 ⟨rfl, h1, hT⟩
  have HB9 : Box (Below w.heap.size w w8) := ⟨hT.below HB8.out HB8.out.size (by have := HG.out; simpa using this)⟩
  clear h1 hT
  go_wp2_with fail
  go_ret
  exact ⟨rfl, HB9.out⟩
end Go.Proofs.YtnakneabfnphkaaDoor
