/- A disk with the blocks that it leans on. -/
import Derived.Test.YtbnkmndgfmmiaaaDiskIn
namespace Go.Proofs.Ytbnkmndgfmmiaaa
open Go.RowKit
set_option linter.unusedVariables false

/-- The disk at g leans on the blocks F alone, all of them made behind w0. -/
structure DiskO (w0 w : World) (g : Nat) (F : List Nat) (D : DSt) : Prop where
  ex : ∃ bl cl bs cs V K kc, DiskAt w g bl cl bs cs V K kc D ∧ (∀ k, k ∈ g :: bl :: bs :: V.ownBlock.toList → k ∈ F) ∧ (∀ b, K = some ⟨b, 0, none⟩ → b ∈ F)
  lo : ∀ k ∈ F, w0.heap.size ≤ k ∧ k < w.heap.size
/-- What an act on it leaves: blocks that it had, or new ones; nothing else was touched. -/
structure DiskTo (w0 w w' : World) (g : Nat) (F : List Nat) (D' : DSt) : Prop where
  ex : ∃ F', DiskO w0 w' g F' D' ∧ ∀ k ∈ F', k ∈ F ∨ w.heap.size ≤ k
  touched : Touched w w' F
theorem DiskO.keep {w0 w w' : World} {g : Nat} {F ts : List Nat} {D : DSt} (h : DiskO w0 w g F D) (hT : Touched w w' ts) (hF : ∀ k ∈ F, k ∉ ts) : DiskO w0 w' g F D := by
  obtain ⟨bl, cl, bs, cs, V, K, kc, a, h1, h2⟩ := h.ex
  refine ⟨⟨bl, cl, bs, cs, V, K, kc, a.touched hT (hF g (h1 g (by simp))) (hF bl (h1 bl (by simp))) (hF bs (h1 bs (by simp))) (fun b hb => hF b (h1 b (by simp [hb]))) (fun b hb => hF b (h2 b hb)), h1, h2⟩, fun k hk => ⟨(h.lo k hk).1, Nat.lt_of_lt_of_le (h.lo k hk).2 hT.size⟩⟩
theorem DiskO.below {w0 w w' : World} {g : Nat} {F : List Nat} {D : DSt} (h : DiskO w0 w g F D) (hb : Below w.heap.size w w') : DiskO w0 w' g F D := h.keep (Touched.of_below hb []) (by simp)
theorem DiskTo.of {w0 w w' : World} {g : Nat} {F : List Nat} {D D' : DSt} {bl bs : Nat} {V : Value} {K : Option Addr} (h : DiskO w0 w g F D) (h1 : ∀ k, k ∈ g :: bl :: bs :: V.ownBlock.toList → k ∈ F) (h2 : ∀ b, K = some ⟨b, 0, none⟩ → b ∈ F)
    (hw : w0.heap.size ≤ w.heap.size) (s : DiskStep w w' g bl bs V K D') : DiskTo w0 w w' g F D' := by
  obtain ⟨⟨bl', cl', bs', cs', V', K', kc', a', e1, e2, e3, e4⟩, hT⟩ := s
  have hg : g ∈ F := h1 g (by simp)
  have hbl : bl ∈ F := h1 bl (by simp)
  have hbs : bs ∈ F := h1 bs (by simp)
  have hV : ∀ b, V.ownBlock = some b → b ∈ F := fun b hb => h1 b (by simp [hb])
  obtain ⟨l1, l2, l3, l4⟩ := a'.lt
  have key : ∀ k, k ∈ g :: bl' :: bs' :: (V'.ownBlock.toList ++ (K'.map (·.block)).toList) → k ∈ F ∨ w.heap.size ≤ k := by
    intro k hk
    simp only [List.mem_cons, List.mem_append, Option.mem_toList] at hk
    rcases hk with rfl | rfl | rfl | hk | hk
    · exact .inl hg
    · rcases e1 with rfl | rfl | e
      · exact .inl hbl
      · exact .inl hbs
      · exact .inr e
    · rcases e2 with rfl | rfl | e
      · exact .inl hbs
      · exact .inl hbl
      · exact .inr e
    · rcases e3 k hk with e | e
      · exact .inl (hV k e)
      · exact .inr e
    · rcases a'.n5 with e | ⟨b, e, _⟩
      · rw [e] at hk; simp at hk
      · rw [e] at hk; simp at hk; subst hk
        rcases e4 b e with e5 | e5
        · exact .inl (h2 b e5)
        · exact .inr e5
  have lt : ∀ k, k ∈ g :: bl' :: bs' :: (V'.ownBlock.toList ++ (K'.map (·.block)).toList) → k < w'.heap.size := by
    intro k hk
    simp only [List.mem_cons, List.mem_append, Option.mem_toList] at hk
    rcases hk with rfl | rfl | rfl | hk | hk
    · exact l1
    · exact l2
    · exact l3
    · exact l4 k hk
    · rcases a'.n5 with e | ⟨b, e, _⟩
      · rw [e] at hk; simp at hk
      · rw [e] at hk; simp at hk; subst hk
        exact a'.kb b e
  refine ⟨⟨g :: bl' :: bs' :: (V'.ownBlock.toList ++ (K'.map (·.block)).toList), ⟨⟨bl', cl', bs', cs', V', K', kc', a', ?_, ?_⟩, ?_⟩, key⟩, hT.mono fun k hk _ => h1 k hk⟩
  · intro k hk
    simp only [List.mem_cons, List.mem_append, Option.mem_toList] at hk ⊢
    rcases hk with h | h | h | h
    · exact .inl h
    · exact .inr (.inl h)
    · exact .inr (.inr (.inl h))
    · exact .inr (.inr (.inr (.inl h)))
  · intro b hb
    simp only [List.mem_cons, List.mem_append, Option.mem_toList]
    exact .inr (.inr (.inr (.inr (by rw [hb]; rfl))))
  · intro k hk
    refine ⟨?_, lt k hk⟩
    rcases key k hk with e | e
    · exact (h.lo k e).1
    · omega
section
variable {w0 w : World} {g : Nat} {F : List Nat} {D : DSt}
theorem diskWrite_o (h : DiskO w0 w g F D) (hw : w0.heap.size ≤ w.heap.size) (harm : D.armed = true → 0 ≤ D.left) (A : Option Addr) (n c : Nat) (l : List (Int × ByteArray)) (hl : l.length = n) (hroom : D.ws.length + D.many + 2 * n ≤ 1000000000)
    (hR : ∀ w', Touched w w' F → RowAt w' A (dcells l)) :
    Calls Try.prog 14 #[.pointer (some ⟨g, 0, none⟩), .slice A n c] w fun e w' => e = .returned (.int .i64 (writesD D l).2) ∧ DiskTo w0 w w' g F (writesD D l).1 := by
  obtain ⟨bl, cl, bs, cs, V, K, kc, a, h1, h2⟩ := h.ex
  exact (diskWrite_calls a harm A n c l hl hroom (fun w' hT => hR w' (hT.mono fun k hk _ => h1 k hk))).mono fun e w' ⟨he, s⟩ => ⟨he, DiskTo.of h h1 h2 hw s⟩
theorem diskCrash_o (h : DiskO w0 w g F D) (hw : w0.heap.size ≤ w.heap.size) (A : Option Addr) (m c : Nat) (keep : List Int) (hl : keep.length = m) (hm : m ≤ 1000000) (hR : ∀ w', Touched w w' F → RowAt w' A (icells keep)) :
    Calls Try.prog 15 #[.pointer (some ⟨g, 0, none⟩), .slice A m c] w fun e w' => e = .returned (.int .i64 ((crashD D keep).2 : Int)) ∧ DiskTo w0 w w' g F (crashD D keep).1 := by
  obtain ⟨bl, cl, bs, cs, V, K, kc, a, h1, h2⟩ := h.ex
  exact (diskCrash_calls a A m c keep hl hm (fun w' hT => hR w' (hT.mono fun k hk _ => by simp at hk; subst hk; exact h1 _ (by simp)))).mono fun e w' ⟨he, s⟩ => ⟨he, DiskTo.of h h1 h2 hw s⟩
theorem diskFlush_o (h : DiskO w0 w g F D) (hw : w0.heap.size ≤ w.heap.size) (harm : D.armed = true → 0 ≤ D.left) :
    Calls Try.prog 29 #[.pointer (some ⟨g, 0, none⟩)] w fun e w' => e = .returned (.int .i64 (flushD D).2) ∧ DiskTo w0 w w' g F (flushD D).1 := by
  obtain ⟨bl, cl, bs, cs, V, K, kc, a, h1, h2⟩ := h.ex
  exact (diskFlush_calls a harm).mono fun e w' ⟨he, s⟩ => ⟨he, DiskTo.of h h1 h2 hw s⟩
theorem diskArm_o (h : DiskO w0 w g F D) (hw : w0.heap.size ≤ w.heap.size) (x : Int) (A : Option Addr) (n c : Nat) (keep : List Int) (hl : keep.length = n) (hc : n ≤ c) (hA : NilOk A n c) (hn : n ≤ 1000000) (hx : -9223372036854775808 ≤ x ∧ x ≤ 9223372036854775807) (hk : ∀ z ∈ keep, -9223372036854775808 ≤ z ∧ z ≤ 9223372036854775807) (hR : RowAt w A (icells keep)) :
    Calls Try.prog 34 #[.pointer (some ⟨g, 0, none⟩), .int .i64 x, .slice A n c] w fun e w' => e = .returned (.tuple #[]) ∧ DiskTo w0 w w' g F (armD D x keep) := by
  obtain ⟨bl, cl, bs, cs, V, K, kc, a, h1, h2⟩ := h.ex
  exact (diskArm_calls a x A n c keep hl hc hA hn hx hk hR).mono fun e w' ⟨he, s⟩ => ⟨he, DiskTo.of h h1 h2 hw s⟩
theorem diskRestore_o (h : DiskO w0 w g F D) (hw : w0.heap.size ≤ w.heap.size) : Calls Try.prog 16 #[.pointer (some ⟨g, 0, none⟩)] w fun e w' => e = .returned (.tuple #[]) ∧ DiskTo w0 w w' g F { D with off := false } := by
  obtain ⟨bl, cl, bs, cs, V, K, kc, a, h1, h2⟩ := h.ex
  exact (diskRestore_calls a).mono fun e w' ⟨he, a', hT⟩ => ⟨he, DiskTo.of h h1 h2 hw (DiskStep.of (K := K) a' (hT.mono (fun q hq _ => by simp at hq; simp [hq])) (fun _ h => .inl h))⟩
theorem diskRead_o (h : DiskO w0 w g F D) (x : Int) : Calls Try.prog 17 #[.pointer (some ⟨g, 0, none⟩), .int .i64 x] w fun e w' => e = .returned (.tuple #[.string (readD D x).1, .int .i64 (readD D x).2]) ∧ w = w' := by
  obtain ⟨bl, cl, bs, cs, V, K, kc, a, _⟩ := h.ex
  exact diskRead_calls a x
theorem diskOn_o (h : DiskO w0 w g F D) : Calls Try.prog 19 #[.pointer (some ⟨g, 0, none⟩)] w fun e w' => e = .returned (.bool (!D.off)) ∧ w = w' := by
  obtain ⟨bl, cl, bs, cs, V, K, kc, a, _⟩ := h.ex
  exact diskOn_calls a
theorem diskSize_o (h : DiskO w0 w g F D) : Calls Try.prog 20 #[.pointer (some ⟨g, 0, none⟩)] w fun e w' => e = .returned (.int .i64 (D.l.length : Int)) ∧ w = w' := by
  obtain ⟨bl, cl, bs, cs, V, K, kc, a, _⟩ := h.ex
  exact diskSize_calls a
theorem diskDirty_o (h : DiskO w0 w g F D) : Calls Try.prog 35 #[.pointer (some ⟨g, 0, none⟩)] w fun e w' => e = .returned (.int .i64 (D.ws.length : Int)) ∧ w = w' := by
  obtain ⟨bl, cl, bs, cs, V, K, kc, a, _⟩ := h.ex
  exact diskDirty_calls a
theorem diskWrites_o (h : DiskO w0 w g F D) : Calls Try.prog 36 #[.pointer (some ⟨g, 0, none⟩)] w fun e w' => e = .returned (.int .i64 (D.many : Int)) ∧ w = w' := by
  obtain ⟨bl, cl, bs, cs, V, K, kc, a, _⟩ := h.ex
  exact diskWrites_calls a
theorem diskNew_o (w0 w : World) (n : Nat) (h0 : Below w0.heap.size w0 w) (h1 : 140 ≤ n) (h2 : n ≤ 2000) :
    Calls Try.prog 6 #[.int .i64 (n : Int)] w fun e w' => ∃ g F, e = .returned (.tuple #[.pointer (some ⟨g, 0, none⟩), .int .i64 0]) ∧ DiskO w0 w' g F (newD n) ∧ (∀ k ∈ F, w.heap.size ≤ k) ∧ Below w.heap.size w w' := by
  refine (diskNew_calls n w h1 h2).mono fun e w' ⟨g, bl, cl, bs, cs, he, a, e1, e2, e3, hb⟩ => ⟨g, [g, bl, bs], he, ⟨⟨bl, cl, bs, cs, _, _, _, a, by simp [Value.ownBlock], by simp⟩, ?_⟩, ?_, hb⟩
  · have hs := h0.size
    obtain ⟨l1, l2, l3, _⟩ := a.lt
    intro k hk
    simp at hk
    omega
  · intro k hk
    simp at hk
    omega
end
end Go.Proofs.Ytbnkmndgfmmiaaa
