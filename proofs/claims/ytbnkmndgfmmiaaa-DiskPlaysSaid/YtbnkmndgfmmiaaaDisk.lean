/- The disk: what it holds; what its small calls tell. -/
import Derived.Test.YtbnkmndgfmmiaaaDiskLib
import Derived.Laws.BitsAllLaws
namespace Go.Proofs.Ytbnkmndgfmmiaaa
open Go.RowKit
set_option linter.unusedVariables false

structure DSt where
  l : List ByteArray
  safe : List ByteArray
  ws : List (Int × ByteArray)
  many : Nat
  off : Bool
  armed : Bool
  left : Int
  keep : List Int
def dcells (l : List (Int × ByteArray)) : List Value := l.flatMap fun p => [.int .i64 p.1, .string p.2]
theorem dcells_length (l : List (Int × ByteArray)) : (dcells l).length = l.length * 2 := by
  induction l with
  | nil => rfl
  | cons p l ih => show (_ :: _ :: dcells l).length = _; simp [ih]; omega
theorem dcells_append (l m : List (Int × ByteArray)) : dcells (l ++ m) = dcells l ++ dcells m := by simp [dcells]
theorem one_dcells (l : List (Int × ByteArray)) : ∀ u ∈ dcells l, u.oneCell' = true := by
  intro u hu; obtain ⟨b, _, h⟩ := List.mem_flatMap.1 hu
  simp at h
  rcases h with rfl | rfl <;> rfl
theorem dcells_at {l : List (Int × ByteArray)} {k : Nat} {p : Int × ByteArray} (h : l[k]? = some p) : (dcells l)[k * 2]? = some (.int .i64 p.1) ∧ (dcells l)[k * 2 + 1]? = some (.string p.2) := by
  induction l generalizing k with
  | nil => simp at h
  | cons q l ih =>
    cases k with
    | zero => simp at h; subst h; exact ⟨rfl, rfl⟩
    | succ k =>
      have := ih (k := k) (by simpa using h)
      rw [show dcells (q :: l) = .int .i64 q.1 :: .string q.2 :: dcells l from rfl, show (k + 1) * 2 = k * 2 + 1 + 1 by omega]
      simpa using this

def dflds (bl cl bs cs : Nat) (V : Value) (K : Option Addr) (kc : Nat) (D : DSt) : List Value :=
  [.slice (some ⟨bl, 0, none⟩) D.l.length cl, .slice (some ⟨bs, 0, none⟩) D.l.length cs, V, .int .i64 (D.many : Int), .bool D.off, .bool D.armed, .int .i64 D.left, .slice K D.keep.length kc]
structure DiskAt (w : World) (g bl cl bs cs : Nat) (V : Value) (K : Option Addr) (kc : Nat) (D : DSt) : Prop where
  of : Own w 0 1 (.slice (some ⟨g, 0, none⟩) 8 8) 8 (dflds bl cl bs cs V K kc D)
  ol : Own w 0 1 (.slice (some ⟨bl, 0, none⟩) D.l.length cl) D.l.length (scells D.l)
  os : Own w 0 1 (.slice (some ⟨bs, 0, none⟩) D.l.length cs) D.l.length (scells D.safe)
  ls : D.safe.length = D.l.length
  ow : Own w 0 2 V D.ws.length (dcells D.ws)
  rk : RowAt w K (icells D.keep)
  kn : NilOk K D.keep.length kc
  kl : D.keep.length ≤ kc
  n1 : g ≠ bl
  n2 : g ≠ bs
  n3 : bl ≠ bs
  n4 : ∀ b, V.ownBlock = some b → b ≠ g ∧ b ≠ bl ∧ b ≠ bs
  n5 : K = none ∨ ∃ b, K = some ⟨b, 0, none⟩ ∧ b ≠ g ∧ b ≠ bl ∧ b ≠ bs ∧ V.ownBlock ≠ some b
  kb : ∀ b, K = some ⟨b, 0, none⟩ → b < w.heap.size
  pos : 0 < D.l.length
  big : D.l.length ≤ 2000 ∧ D.keep.length ≤ 1000000 ∧ D.ws.length + D.many ≤ 1000000000 ∧ (∀ x ∈ D.keep, -9223372036854775808 ≤ x ∧ x ≤ 9223372036854775807) ∧ (∀ p ∈ D.ws, 0 ≤ p.1 ∧ p.1 < (D.l.length : Int))
  inv : -9223372036854775808 ≤ D.left ∧ D.left ≤ 9223372036854775807
section
variable {w w' : World} {g bl cl bs cs : Nat} {V : Value} {K : Option Addr} {kc : Nat} {D : DSt}
theorem DiskAt.fld (a : DiskAt w g bl cl bs cs V K kc D) {i : Nat} {v : Value} (hv : (dflds bl cl bs cs V K kc D)[i]? = some v) : w.cell? ⟨g, i, none⟩ = some v ∧ w.frozen? ⟨g, i, none⟩ = false := a.of.cell hv
theorem DiskAt.lt (a : DiskAt w g bl cl bs cs V K kc D) : g < w.heap.size ∧ bl < w.heap.size ∧ bs < w.heap.size ∧ ∀ b, V.ownBlock = some b → b < w.heap.size :=
  ⟨(a.of.lt g (by simp [Value.ownBlock])).2, (a.ol.lt bl (by simp [Value.ownBlock])).2, (a.os.lt bs (by simp [Value.ownBlock])).2, fun b hb => (a.ow.lt b hb).2⟩
/-- What lies elsewhere may change. -/
theorem DiskAt.touched {ts : List Nat} (a : DiskAt w g bl cl bs cs V K kc D) (hT : Touched w w' ts) (h1 : g ∉ ts) (h2 : bl ∉ ts) (h3 : bs ∉ ts) (h4 : ∀ b, V.ownBlock = some b → b ∉ ts) (h5 : ∀ b, K = some ⟨b, 0, none⟩ → b ∉ ts) : DiskAt w' g bl cl bs cs V K kc D :=
  { a with
    of := hT.own a.of (fun k hk => by simp [Value.ownBlock] at hk; subst hk; exact h1)
    ol := hT.own a.ol (fun k hk => by simp [Value.ownBlock] at hk; subst hk; exact h2)
    os := hT.own a.os (fun k hk => by simp [Value.ownBlock] at hk; subst hk; exact h3)
    ow := hT.own a.ow h4
    rk := row_touched a.rk hT (a.n5.elim .inl fun ⟨b, hb, _⟩ => .inr ⟨b, hb, h5 b hb⟩)
    kb := fun b hb => Nat.lt_of_lt_of_le (a.kb b hb) hT.size }
theorem DiskAt.below (a : DiskAt w g bl cl bs cs V K kc D) (hb : Below w.heap.size w w') : DiskAt w' g bl cl bs cs V K kc D :=
  a.touched (Touched.of_below hb []) (by simp) (by simp) (by simp) (by simp) (by simp)
theorem DiskAt.drew (a : DiskAt w g bl cl bs cs V K kc D) : DiskAt w.drew g bl cl bs cs V K kc D := a.touched ((Touched.refl w []).drew) (by simp) (by simp) (by simp) (by simp) (by simp)
/-- Stores into the fields. -/
theorem DiskAt.refield {w2 w3 : World} {g bl cl bs cs : Nat} {V : Value} {K : Option Addr} {kc : Nat} {D : DSt} (hT : Touched w2 w3 [g])
    (of : Own w3 0 1 (.slice (some ⟨g, 0, none⟩) 8 8) 8 (dflds bl cl bs cs V K kc D))
    (ol : Own w2 0 1 (.slice (some ⟨bl, 0, none⟩) D.l.length cl) D.l.length (scells D.l)) (os : Own w2 0 1 (.slice (some ⟨bs, 0, none⟩) D.l.length cs) D.l.length (scells D.safe)) (ls : D.safe.length = D.l.length)
    (ow : Own w2 0 2 V D.ws.length (dcells D.ws)) (rk : RowAt w2 K (icells D.keep)) (kn : NilOk K D.keep.length kc) (kl : D.keep.length ≤ kc)
    (n1 : g ≠ bl) (n2 : g ≠ bs) (n3 : bl ≠ bs) (n4 : ∀ b, V.ownBlock = some b → b ≠ g ∧ b ≠ bl ∧ b ≠ bs) (n5 : K = none ∨ ∃ b, K = some ⟨b, 0, none⟩ ∧ b ≠ g ∧ b ≠ bl ∧ b ≠ bs ∧ V.ownBlock ≠ some b) (kb : ∀ b, K = some ⟨b, 0, none⟩ → b < w2.heap.size) (pos : 0 < D.l.length)
    (big : D.l.length ≤ 2000 ∧ D.keep.length ≤ 1000000 ∧ D.ws.length + D.many ≤ 1000000000 ∧ (∀ x ∈ D.keep, -9223372036854775808 ≤ x ∧ x ≤ 9223372036854775807) ∧ (∀ p ∈ D.ws, 0 ≤ p.1 ∧ p.1 < (D.l.length : Int)))
    (inv : -9223372036854775808 ≤ D.left ∧ D.left ≤ 9223372036854775807) : DiskAt w3 g bl cl bs cs V K kc D := by
  refine ⟨of, hT.own ol (fun k hk => ?_), hT.own os (fun k hk => ?_), ls, hT.own ow (fun k hk => ?_), row_touched rk hT (n5.elim .inl fun ⟨b, hb, h, _⟩ => .inr ⟨b, hb, by simpa using h⟩), kn, kl, n1, n2, n3, n4, n5, fun b hb => Nat.lt_of_lt_of_le (kb b hb) hT.size, pos, big, inv⟩
  · simp [Value.ownBlock] at hk; subst hk; simp; exact fun e => n1 e.symm
  · simp [Value.ownBlock] at hk; subst hk; simp; exact fun e => n2 e.symm
  · simp; exact (n4 k hk).1
end

theorem diskOn_nil (w : World) : Calls Try.prog 19 #[.pointer none] w fun e w' => e = .returned (.bool false) ∧ w = w' := by
  go_enter Try.func19, Try.ntmps19
  go_wp2
  go_ret
  exact ⟨rfl, rfl⟩
section
variable {w : World} {g bl cl bs cs : Nat} {V : Value} {K : Option Addr} {kc : Nat} {D : DSt}
theorem diskOn_calls (a : DiskAt w g bl cl bs cs V K kc D) : Calls Try.prog 19 #[.pointer (some ⟨g, 0, none⟩)] w fun e w' => e = .returned (.bool (!D.off)) ∧ w = w' := by
  obtain ⟨k4, _⟩ := a.fld (i := 4) rfl
  clear a
  obtain ⟨b, hb⟩ : ∃ b, D.off = b := ⟨_, rfl⟩
  rw [hb] at k4 ⊢
  clear hb
  go_enter Try.func19, Try.ntmps19
  go_wp2
  go_ret
  exact ⟨rfl, rfl⟩
def mayE (D : DSt) (x : Int) : Int := if D.off = true then 14 else if x < 0 ∨ (D.l.length : Int) ≤ x then 15 else 0
theorem diskMay_calls (a : DiskAt w g bl cl bs cs V K kc D) (x : Int) : Calls Try.prog 38 #[.pointer (some ⟨g, 0, none⟩), .int .i64 x] w fun e w' => e = .returned (.int .i64 (mayE D x)) ∧ w = w' := by
  obtain ⟨k0, _⟩ := a.fld (i := 0) rfl
  have HO : Box _ := ⟨diskOn_calls a⟩
  clear a
  obtain ⟨r, hr⟩ : ∃ r, mayE D x = r := ⟨_, rfl⟩
  have HR : Box _ := ⟨hr⟩
  rw [hr]
  clear hr
  obtain ⟨n, hn⟩ : ∃ n, D.l.length = n := ⟨_, rfl⟩
  have HN : Box _ := ⟨hn⟩
  rw [hn] at k0
  clear hn
  by_cases h1 : D.off = true
  · have e : r = 14 := by rw [← HR.out, mayE, if_pos h1]
    subst e
    rw [h1] at HO
    clear h1
    go_enter Try.func38, Try.ntmps38
    go_wp2_with fail
    refine HO.out.mono ?_
    rintro e w1 ⟨rfl, rfl⟩
    go_wp2
    go_ret
    exact ⟨rfl, rfl⟩
  have h1' : D.off = false := by simpa using h1
  rw [h1'] at HO
  by_cases h2 : x < 0
  · have e : r = 15 := by rw [← HR.out, mayE, if_neg h1, if_pos (.inl h2)]
    subst e
    clear h1 h1'
    go_enter Try.func38, Try.ntmps38
    go_wp2_with fail
    refine HO.out.mono ?_
    rintro e w1 ⟨rfl, rfl⟩
    go_wp2
    go_ret
    exact ⟨rfl, rfl⟩
  by_cases h3 : (n : Int) ≤ x
  · have e : r = 15 := by rw [← HR.out, mayE, if_neg h1, if_pos (.inr (by rw [HN.out]; exact h3))]
    subst e
    clear h1 h1'
    go_enter Try.func38, Try.ntmps38
    go_wp2_with fail
    refine HO.out.mono ?_
    rintro e w1 ⟨rfl, rfl⟩
    go_wp2
    go_ret
    exact ⟨rfl, rfl⟩
  · have e : r = 0 := by rw [← HR.out, mayE, if_neg h1, if_neg (by rw [HN.out]; omega)]
    subst e
    clear h1 h1'
    go_enter Try.func38, Try.ntmps38
    go_wp2_with fail
    refine HO.out.mono ?_
    rintro e w1 ⟨rfl, rfl⟩
    go_wp2
    go_ret
    exact ⟨rfl, rfl⟩
theorem diskSize_calls (a : DiskAt w g bl cl bs cs V K kc D) : Calls Try.prog 20 #[.pointer (some ⟨g, 0, none⟩)] w fun e w' => e = .returned (.int .i64 (D.l.length : Int)) ∧ w = w' := by
  obtain ⟨k0, _⟩ := a.fld (i := 0) rfl
  clear a
  go_enter Try.func20, Try.ntmps20
  go_wp2
  go_ret
  exact ⟨rfl, rfl⟩
theorem diskDirty_calls (a : DiskAt w g bl cl bs cs V K kc D) : Calls Try.prog 35 #[.pointer (some ⟨g, 0, none⟩)] w fun e w' => e = .returned (.int .i64 (D.ws.length : Int)) ∧ w = w' := by
  obtain ⟨k0, _⟩ := a.fld (i := 2) rfl
  obtain ⟨A, c, rfl, _, _, _⟩ := a.ow.slice
  clear a
  go_enter Try.func35, Try.ntmps35
  go_wp2
  go_ret
  exact ⟨rfl, rfl⟩
theorem diskWrites_calls (a : DiskAt w g bl cl bs cs V K kc D) : Calls Try.prog 36 #[.pointer (some ⟨g, 0, none⟩)] w fun e w' => e = .returned (.int .i64 (D.many : Int)) ∧ w = w' := by
  obtain ⟨k0, _⟩ := a.fld (i := 3) rfl
  clear a
  go_enter Try.func36, Try.ntmps36
  go_wp2
  go_ret
  exact ⟨rfl, rfl⟩
end
end Go.Proofs.Ytbnkmndgfmmiaaa
