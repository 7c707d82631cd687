/- Words and contracts that this claim leans on, one text behind the other. -/
import Derived.Test.YtiocealhadlggaaBundle7
import Derived.Test.YtiocealhadlggaaMix
import Derived.Deep.MidRow
import Derived.Deep.OwnRows
import Derived.Deep.DeepCutAuto
import Derived.Deep.CutBlock
/- Where a piece ends hangs on its own bytes; cuts of a text that is cut at a cut. -/
namespace Go.Proofs.Ytiocealhadlggaa
set_option linter.unusedVariables false

theorem firstGo_own (b h s : Int) (r : List UInt8) : ∀ (k : Nat) (x : Int), firstGo b h s k x (r.take (firstGo b h s k x r - k)) = firstGo b h s k x r := by
  induction r with
  | nil => intro k x; simp [firstGo]
  | cons y r ih =>
    intro k x
    by_cases hs : stopB b h s k (roll1 x y) = true
    · simp [firstGo, hs]
    · have hge := firstGo_ge b h s r (k + 1) (roll1 x y)
      have e : firstGo b h s k x (y :: r) = firstGo b h s (k + 1) (roll1 x y) r := by rw [firstGo, if_neg hs]
      rw [e]
      obtain ⟨m, hm⟩ : ∃ m, firstGo b h s (k + 1) (roll1 x y) r - k = m + 1 := ⟨firstGo b h s (k + 1) (roll1 x y) r - k - 1, by omega⟩
      rw [hm, List.take_succ_cons, firstGo, if_neg hs]
      have := ih (k + 1) (roll1 x y)
      rw [show firstGo b h s (k + 1) (roll1 x y) r - (k + 1) = m by omega] at this
      exact this
theorem firstGo_more (b h s : Int) (r r2 : List UInt8) : ∀ (k : Nat) (x : Int), firstGo b h s k x r < k + r.length → firstGo b h s k x (r.take (firstGo b h s k x r - k) ++ r2) = firstGo b h s k x r := by
  induction r with
  | nil => intro k x hl; simp [firstGo] at hl
  | cons y r ih =>
    intro k x hl
    by_cases hs : stopB b h s k (roll1 x y) = true
    · simp [firstGo, hs]
    · have hge := firstGo_ge b h s r (k + 1) (roll1 x y)
      have e : firstGo b h s k x (y :: r) = firstGo b h s (k + 1) (roll1 x y) r := by rw [firstGo, if_neg hs]
      rw [e] at hl ⊢
      obtain ⟨m, hm⟩ : ∃ m, firstGo b h s (k + 1) (roll1 x y) r - k = m + 1 := ⟨firstGo b h s (k + 1) (roll1 x y) r - k - 1, by omega⟩
      rw [hm, List.take_succ_cons, List.cons_append, firstGo, if_neg hs]
      have := ih (k + 1) (roll1 x y) (by rw [List.length_cons] at hl; omega)
      rw [show firstGo b h s (k + 1) (roll1 x y) r - (k + 1) = m by omega] at this
      exact this
theorem firstGo_pos (b h s : Int) {r : List UInt8} (h0 : r ≠ []) (k : Nat) (x : Int) : k + 1 ≤ firstGo b h s k x r := by
  obtain ⟨y, r, rfl⟩ := List.exists_cons_of_ne_nil h0
  rw [firstGo]
  split
  · omega
  · exact firstGo_ge _ _ _ _ _ _

theorem firstN_own (a b c h s : Int) (l : List UInt8) : firstN a b c h s (l.take (firstN a b c h s l)) = firstN a b c h s l := by
  by_cases hc : validB a b c h s = true ∧ a < l.length
  case neg =>
    have e : firstN a b c h s l = l.length := by rw [firstN, if_neg hc]
    rw [e, List.take_length, e]
  have hv := valid_bounds hc.1
  have e : firstN a b c h s l = firstGo b h s a.toNat 0 ((l.take c.toNat).drop a.toNat) := by rw [firstN, if_pos hc]
  have hge := firstGo_ge b h s ((l.take c.toNat).drop a.toNat) a.toNat 0
  have hle := firstGo_le b h s ((l.take c.toNat).drop a.toNat) a.toNat 0
  have hown := firstGo_own b h s ((l.take c.toNat).drop a.toNat) a.toNat 0
  rw [← e] at hge hle hown
  rw [List.length_drop, List.length_take] at hle
  generalize hn : firstN a b c h s l = n at *
  have hl : (l.take n).length = n := by rw [List.length_take]; omega
  by_cases ha : a < (n : Int)
  · rw [firstN, if_pos ⟨hc.1, by rw [hl]; exact ha⟩, List.take_take, Nat.min_eq_right (by omega)]
    rw [← List.drop_take, List.take_take, Nat.min_eq_left (by omega)] at hown
    have : a.toNat + (n - a.toNat) = n := by omega
    first | exact hown | (rw [show n - a.toNat + a.toNat = n by omega] at hown; exact hown) | (rw [this] at hown; exact hown)
  · rw [firstN, if_neg (by rw [hl]; exact fun h => ha h.2), hl]
theorem firstN_more (a b c h s : Int) (l r : List UInt8) (hlt : firstN a b c h s l < l.length) : firstN a b c h s (l.take (firstN a b c h s l) ++ r) = firstN a b c h s l := by
  by_cases hc : validB a b c h s = true ∧ a < l.length
  case neg => rw [firstN, if_neg hc] at hlt; omega
  have hv := valid_bounds hc.1
  have e : firstN a b c h s l = firstGo b h s a.toNat 0 ((l.take c.toNat).drop a.toNat) := by rw [firstN, if_pos hc]
  have hge := firstGo_ge b h s ((l.take c.toNat).drop a.toNat) a.toNat 0
  have hle := firstGo_le b h s ((l.take c.toNat).drop a.toNat) a.toNat 0
  have hown := fun r2 => firstGo_more b h s ((l.take c.toNat).drop a.toNat) r2 a.toNat 0
  have hpos : (l.take c.toNat).drop a.toNat ≠ [] → a.toNat + 1 ≤ firstN a b c h s l := fun h0 => by rw [e]; exact firstGo_pos b h s h0 _ _
  rw [← e] at hge hle hown
  rw [List.length_drop, List.length_take] at hle hown
  generalize hn : firstN a b c h s l = n at *
  have hl : (l.take n).length = n := by rw [List.length_take]; omega
  have hll : (l.take n ++ r).length = n + r.length := by rw [List.length_append, hl]
  by_cases ha : a < ((l.take n ++ r).length : Int)
  · rw [firstN, if_pos ⟨hc.1, ha⟩]
    by_cases hnc : n = c.toNat
    · have e2 : (l.take n ++ r).take c.toNat = l.take c.toNat := by
        rw [List.take_append_of_le_length (by omega), List.take_take, Nat.min_eq_left (by omega)]
      rw [e2]; exact e.symm
    · have h1 := hown (r.take (c.toNat - n)) (by omega)
      have e2 : ((l.take n ++ r).take c.toNat).drop a.toNat = ((l.take c.toNat).drop a.toNat).take (n - a.toNat) ++ r.take (c.toNat - n) := by
        rw [List.take_append, hl, List.take_of_length_le (by omega), List.drop_append, hl, show a.toNat - n = 0 by omega, List.drop_zero]
        congr 1
        rw [← List.drop_take, List.take_take]
        congr 2
        omega
      rw [e2]; exact h1
  · rw [firstN, if_neg (fun h => ha h.2), hll]
    have h3 : r.length = 0 := by
      by_cases h0 : (l.take c.toNat).drop a.toNat = []
      · rw [hll] at ha; omega
      · have := hpos h0; rw [hll] at ha; omega
    rw [h3]; rfl

/-- Two ways to say more of a way to tell first pieces. -/
structure Best (F : List UInt8 → Nat) : Prop extends Good F where
  own : ∀ l, F (l.take (F l)) = F l
  more : ∀ l r, F l < l.length → F (l.take (F l) ++ r) = F l
theorem best_first (a b c h s : Int) : Best (firstN a b c h s) := ⟨good_first a b c h s, firstN_own a b c h s, firstN_more a b c h s⟩

theorem cutA_shift {F : List UInt8 → Nat} (hF : Good F) (y : Nat) : ∀ (n k : Nat) (l : List UInt8), l.length ≤ n → cutA F (k + y) l = (cutA F k l).map fun p => (p.1 + (y : Int), p.2 + (y : Int)) := by
  intro n
  induction n with
  | zero => intro k l hl; obtain rfl : l = [] := List.eq_nil_of_length_eq_zero (by omega); rfl
  | succ n ih =>
    intro k l hl
    by_cases h0 : l = []
    · subst h0; rfl
    · have h1 := hF.pos l h0
      have h2 := hF.le l
      rw [cutA_cons hF _ h0, cutA_cons hF _ h0, List.map_cons]
      have := ih (k + F l) (l.drop (F l)) (by rw [List.length_drop]; omega)
      rw [show k + y + F l = k + F l + y by omega, this]
      congr 1

theorem cut_pre {F : List UInt8 → Nat} (hF : Best F) : ∀ (i k : Nat) (l : List UInt8) (p : Int × Int) (y : Nat), (cutA F k l)[i]? = some p → p.1 = ((k + y : Nat) : Int) → ∀ r, cutA F k (l.take y ++ r) = (cutA F k l).take i ++ cutA F (k + y) r := by
  intro i
  induction i with
  | zero =>
    intro k l p y hp hy r
    obtain ⟨x, _, g2, _, _, _, _, _, g8⟩ := cutA_at hF.toGood 0 k l p hp
    obtain rfl : y = 0 := by have := g8.2 rfl; omega
    simp
  | succ i ih =>
    intro k l p y hp hy r
    have hlen : i + 1 < (cutA F k l).length := (List.getElem?_eq_some_iff.1 hp).1
    by_cases h0 : l = []
    · subst h0; simp [cutA_nil] at hp
    · have h1 := hF.pos l h0
      have h2 := hF.le l
      have e := cutA_cons hF.toGood k h0
      rw [e, List.getElem?_cons_succ] at hp
      rw [e, List.length_cons] at hlen
      have hd : F l < l.length := by
        have : l.drop (F l) ≠ [] := by intro e2; rw [e2, cutA_nil] at hlen; simp at hlen
        have := List.length_pos_iff.2 this
        rw [List.length_drop] at this
        omega
      obtain ⟨x, _, g2, _, _, _, _, _, _⟩ := cutA_at hF.toGood i _ _ p hp
      have hyx : y = F l + x := by omega
      have ih2 := ih (k + F l) (l.drop (F l)) p x hp g2 r
      have e3 : l.take y ++ r = l.take (F l) ++ ((l.drop (F l)).take x ++ r) := by
        rw [hyx, List.take_add, List.append_assoc]
      have hf := hF.more l ((l.drop (F l)).take x ++ r) hd
      have hne : l.take (F l) ++ ((l.drop (F l)).take x ++ r) ≠ [] := by
        intro e4
        have e5 := congrArg List.length (List.append_eq_nil_iff.1 e4).1
        rw [List.length_take, List.length_nil] at e5
        omega
      rw [e3, cutA_cons hF.toGood k hne, hf, e, List.take_succ_cons, List.cons_append]
      congr 1
      have e5 : (l.take (F l) ++ ((l.drop (F l)).take x ++ r)).drop (F l) = (l.drop (F l)).take x ++ r := by
        rw [List.drop_append_of_le_length (by rw [List.length_take]; omega), List.drop_take_self, List.nil_append]
      rw [e5, ih2, show k + F l + x = k + y by omega]
end Go.Proofs.Ytiocealhadlggaa

/- The first call of chapter 14's laws. -/
namespace Go.Proofs.Ytiocealhadlggaa
open Go.RowKit
set_option linter.unusedVariables false
attribute [local go_sem] max2_int min2_int max_two min_two

set_option maxHeartbeats 400000 in
theorem default_calls (w : World) : Calls Try.prog 33 #[] w fun e w' => e = .returned (rule 32 64 128 7 5) ∧ Below w.heap.size w w' := by
  go_enter Try.func33, Try.ntmps33
  go_wp2
  (try simp only [Exit.inBlock, Exit.then])
  refine bodyPost_ret (results_cell_mid rfl _ _ w.heap.size [.int .i64 32, .int .i64 64, .int .i64 128, .int .i64 7, .int .i64 5] _ rfl (fun j v hv => by rw [Nat.zero_add, World.cell?_alloc_at _ _ _ _ rfl]; simpa using hv) Try.underlying81 rfl (by kernel_rfl)) rfl ?_
  exact ⟨rfl, (Below.refl _ _).alloc (Nat.le_refl _) _⟩

def z32 : List Value := bcells (List.replicate 32 0)
def zs32 : ByteArray := ⟨(List.replicate 32 (0 : UInt8)).toArray⟩
theorem make32 (W : World) : (Instr.makeSlice 91 (.int .i64 32) (.int .i64 32)).run Try.prog W = .ok (.slice (some ⟨W.heap.size, 0, none⟩) 32 32) (W.alloc (.cells z32.toArray 5)) := by
  have h := run_make_row' (P := Try.prog) 91 5 (.int .u8 0) 1 Try.underlying91 (by kernel_rfl) rfl .i64 .i64 32 (by omega) (by omega) W
  have e : madeCells #[.int .u8 0] 32 = z32.toArray := by kernel_rfl
  rw [e] at h
  exact h
theorem conv32 (W : World) : (convert 91 9 (.slice (some ⟨W.heap.size, 0, none⟩) 32 32)).run Try.prog (W.alloc (.cells z32.toArray 5)) = .ok (.string zs32) (W.alloc (.cells z32.toArray 5)) :=
  bytes_str Try.prog 91 5 9 Try.underlying91 Try.underlying5 Try.underlying9 _ 32 32 (List.replicate 32 0) _ (by simp) (rowAt_alloc W z32 _)
theorem first32 (W : World) : Calls Try.prog 106 #[rule 32 64 128 7 5, .string zs32] W fun e w' => e = .returned (.int .i64 32) ∧ Below W.heap.size W w' := by
  have h := first_calls 32 64 128 7 5 zs32 W (by decide)
  have e : ((firstN 32 64 128 7 5 zs32.data.toList : Nat) : Int) = 32 := by decide
  rw [e] at h
  exact h
def cutsOne : List (Int × Int) := cutA (firstN 32 64 128 7 5) 0 [97]
theorem cutOne (W : World) : Calls Try.prog 104 #[rule 32 64 128 7 5, .slice (some ⟨W.heap.size, 0, none⟩) 1 1] (W.alloc (.cells #[.string ⟨#[97]⟩] 9)) fun e w' => ∃ A c, e = .returned (.slice A 1 c) ∧ Below (W.alloc (.cells #[.string ⟨#[97]⟩] 9)).heap.size (W.alloc (.cells #[.string ⟨#[97]⟩] 9)) w' := by
  refine (cdcCut_calls 32 64 128 7 5 _ 1 1 [⟨#[97]⟩] _ rfl (by omega) (by omega) (by decide) (rowAt_alloc W [.string ⟨#[97]⟩] _)).mono ?_
  rintro e w' ⟨v, rfl, hown, hb⟩
  have hl : (cutA (firstN 32 64 128 7 5) 0 (joinB [⟨#[97]⟩]).data.toList).length = 1 := by decide
  rw [hl] at hown
  obtain ⟨A, c, rfl, _⟩ := hown.slice
  exact ⟨A, c, rfl, hb⟩

end Go.Proofs.Ytiocealhadlggaa

/- What the laws of chapter 14 ask of Cut. -/
namespace Go.Proofs.Ytiocealhadlggaa
open Go.RowKit
set_option linter.unusedVariables false

theorem row_alloc2 (w : World) (o : Obj) (cs : List Value) (t : TypeId) : RowAt ((w.alloc o).alloc (.cells cs.toArray t)) (some ⟨w.heap.size + 1, 0, none⟩) cs := by
  have h := rowAt_alloc (w.alloc o) cs t
  rwa [World.size_alloc] at h
theorem cut_of (a b c h s : Int) (t : ByteArray) (ht : t.size ≤ 1000000) (A : Option Addr) (W : World) (hR : RowAt W A [.string t]) :
    Calls Try.prog 104 #[rule a b c h s, .slice A 1 1] W fun e w' => ∃ A2 cap, e = .returned (.slice A2 (cutA (firstN a b c h s) 0 t.data.toList).length cap) ∧ (cutA (firstN a b c h s) 0 t.data.toList).length ≤ cap ∧ RowAt w' A2 (pcells (cutA (firstN a b c h s) 0 t.data.toList)) ∧ Below W.heap.size W w' := by
  have ht1 : totalLen [t] = t.size := by simp [totalLen]
  have hj : joinB [t] = t := by simp [joinB]
  have h := cdcCut_calls a b c h s A 1 1 [t] W rfl (by omega) (by omega) (by rw [ht1]; omega) hR
  rw [hj] at h
  refine h.mono ?_
  rintro e w' ⟨v, rfl, hown, hb⟩
  obtain ⟨A2, cap, rfl, h1, h2, _⟩ := hown.slice
  exact ⟨A2, cap, rfl, h1, h2, hb⟩
theorem cut_of2 (a b c h s : Int) (t : ByteArray) (ht : t.size ≤ 500000) (A : Option Addr) (W : World) (hR : RowAt W A [.string t, .string t]) :
    Calls Try.prog 104 #[rule a b c h s, .slice A 2 2] W fun e w' => ∃ A2 cap, e = .returned (.slice A2 (cutA (firstN a b c h s) 0 (t.data.toList ++ t.data.toList)).length cap) ∧ (cutA (firstN a b c h s) 0 (t.data.toList ++ t.data.toList)).length ≤ cap ∧ RowAt w' A2 (pcells (cutA (firstN a b c h s) 0 (t.data.toList ++ t.data.toList))) ∧ Below W.heap.size W w' := by
  have ht1 : totalLen [t, t] = t.size + t.size := by simp [totalLen]
  have hj : (joinB [t, t]).data.toList = t.data.toList ++ t.data.toList := by rw [joinB_data]; simp
  have h := cdcCut_calls a b c h s A 2 2 [t, t] W rfl (by omega) (by omega) (by rw [ht1]; omega) hR
  rw [hj] at h
  refine h.mono ?_
  rintro e w' ⟨v, rfl, hown, hb⟩
  obtain ⟨A2, cap, rfl, h1, h2, _⟩ := hown.slice
  exact ⟨A2, cap, rfl, h1, h2, hb⟩
theorem extract_mid (t : ByteArray) (x f : Nat) : (t.extract x (x + f)).data.toList = (t.data.toList.drop x).take f := by
  rw [ByteArray.data_extract, Array.toList_extract, List.extract_eq_take_drop, show x + f - x = f by omega]
theorem list_size {t : ByteArray} {l : List UInt8} (h : t.data.toList = l) : t.size = l.length := by rw [← h, data_length]

end Go.Proofs.Ytiocealhadlggaa

/- Plain laws of cuts that are made anew. -/
namespace Go.Proofs.Ytiocealhadlggaa
set_option linter.unusedVariables false

/-- Pieces of one length. -/
def minF (n : Nat) (l : List UInt8) : Nat := min n l.length
theorem best_min {n : Nat} (hn : 1 ≤ n) : Best (minF n) where
  pos l h0 := by have := List.length_pos_iff.2 h0; unfold minF; omega
  le l := by unfold minF; omega
  own l := by simp [minF]
  more l r h := by simp [minF] at h ⊢; omega
theorem fixedL_cut {n : Nat} (hn : 1 ≤ n) (l : List UInt8) : ∀ (m j : Nat), (l.length + n - 1) / n - j = m → cutA (minF n) (j * n) (l.drop (j * n)) = (fixedL n l.length).drop j := by
  intro m
  induction m with
  | zero =>
    intro j hj
    have h1 : ¬ j < (l.length + n - 1) / n := by omega
    rw [fixed_lt hn] at h1
    rw [show l.drop (j * n) = [] from List.drop_eq_nil_of_le (by omega), cutA_nil, List.drop_eq_nil_of_le (by rw [fixedL_length]; omega)]
  | succ m ih =>
    intro j hj
    have h1 : j < (l.length + n - 1) / n := by omega
    rw [fixed_lt hn] at h1
    have hne : l.drop (j * n) ≠ [] := by
      intro e
      have := congrArg List.length e
      rw [List.length_drop, List.length_nil] at this
      omega
    have hat := fixedL_at hn h1
    rw [drop_of_at hat, cutA_cons (best_min hn).toGood _ hne, minF, List.length_drop, List.drop_drop]
    have e1 : (j + 1) * n = j * n + n := by rw [Nat.add_mul]; omega
    have e2 : j * n + min n (l.length - j * n) = min ((j + 1) * n) l.length := by omega
    rw [e2]
    congr 1
    rw [← ih (j + 1) (by omega)]
    by_cases h2 : (j + 1) * n ≤ l.length
    · rw [Nat.min_eq_left h2]
    · rw [show l.drop ((j + 1) * n) = [] from List.drop_eq_nil_of_le (by omega), show l.drop (min ((j + 1) * n) l.length) = [] from List.drop_eq_nil_of_le (by omega), cutA_nil, cutA_nil]
theorem fixed_cut {n : Nat} (hn : 1 ≤ n) (l : List UInt8) : cutA (minF n) 0 l = fixedL n l.length := by
  have := fixedL_cut hn l _ 0 rfl
  simpa using this

/-- How many old cuts stay ahead of a change. -/
def keptGo (a : Int) (same : Bool) : List (Int × Int) → Nat
  | [] => 0
  | x :: r => if a < x.2 ∨ (r = [] ∧ same = false) then 0 else keptGo a same r + 1
theorem keptGo_le (a : Int) (same : Bool) (l : List (Int × Int)) : keptGo a same l ≤ l.length := by
  induction l with
  | nil => simp [keptGo]
  | cons x r ih => rw [keptGo]; split <;> simp; omega
theorem keptGo_small {a : Int} {same : Bool} : ∀ {l : List (Int × Int)} {i : Nat} {p : Int × Int}, i < keptGo a same l → l[i]? = some p → p.2 ≤ a := by
  intro l
  induction l with
  | nil => intro i p h; simp [keptGo] at h
  | cons x r ih =>
    intro i p h hp
    rw [keptGo] at h
    split at h
    · omega
    · rename_i hc
      cases i with
      | zero => simp at hp; subst hp; by_cases h : a < x.2; exact absurd (.inl h) hc; omega
      | succ i => exact ih (i := i) (by omega) (by simpa using hp)
theorem keptGo_all {a : Int} {same : Bool} : ∀ {l : List (Int × Int)}, l ≠ [] → keptGo a same l = l.length → same = true := by
  intro l
  induction l with
  | nil => intro h; exact absurd rfl h
  | cons x r ih =>
    intro _ h
    rw [keptGo] at h
    split at h
    · simp at h
    · rename_i hc
      by_cases hr : r = []
      · cases same
        · exact absurd (.inr ⟨hr, rfl⟩) hc
        · rfl
      · exact ih hr (by simpa using h)
theorem keptGo_next {a : Int} {same : Bool} : ∀ {l : List (Int × Int)} {p : Int × Int}, l[keptGo a same l]? = some p → a < p.2 ∨ (keptGo a same l + 1 = l.length ∧ same = false) := by
  intro l
  induction l with
  | nil => intro p h; simp at h
  | cons x r ih =>
    intro p h
    rw [keptGo] at h ⊢
    split at h
    · rename_i hc
      rw [if_pos hc]
      simp at h
      subst h
      rcases hc with hc | ⟨rfl, hc⟩
      · exact .inl hc
      · exact .inr ⟨rfl, hc⟩
    · rename_i hc
      rw [if_neg hc]
      rw [List.getElem?_cons_succ] at h
      rcases ih h with h2 | h2
      · exact .inl h2
      · exact .inr ⟨by simp; exact h2.1, h2.2⟩

/-- Where the first cut from a place on stands. -/
def idxI (a : Int) (l : List (Int × Int)) : Option Nat := l.findIdx? fun p => decide (p.1 = a)
def idxZ (a : Int) (l : List (Int × Int)) : Int := match idxI a l with | some i => i | none => -1
theorem idxI_cons (a : Int) (p : Int × Int) (l : List (Int × Int)) : idxI a (p :: l) = if p.1 = a then some 0 else (idxI a l).map (· + 1) := by
  simp [idxI, List.findIdx?_cons]
theorem idxI_at {a : Int} {l : List (Int × Int)} {i : Nat} (h : idxI a l = some i) : ∃ p, l[i]? = some p ∧ p.1 = a := by
  unfold idxI at h
  rw [List.findIdx?_eq_some_iff_getElem] at h
  obtain ⟨h1, h2, _⟩ := h
  exact ⟨l[i], List.getElem?_eq_getElem h1, by simpa using h2⟩
theorem idxI_is {a : Int} {l : List (Int × Int)} {i : Nat} {p : Int × Int} (h : l[i]? = some p) (e : p.1 = a) : idxI a l ≠ none := by
  unfold idxI
  rw [Ne, List.findIdx?_eq_none_iff]
  intro h2
  have := h2 p (List.mem_of_getElem? h)
  simp [e] at this
def moved (g : Int) (l : List (Int × Int)) : List (Int × Int) := l.map fun p => (p.1 + g, p.2 + g)
def againGo (F : List UInt8 → Nat) (t : List UInt8) (old : List (Int × Int)) (b g : Int) : Nat → Nat → List (Int × Int) → Nat → List (Int × Int) × Nat
  | 0, _, out, n => (out, n)
  | f + 1, x, out, n =>
    if b ≤ (x : Int) ∧ x = t.length then (out, n)
    else match if b ≤ (x : Int) then idxI ((x : Int) - g) old else none with
      | some i => (out ++ moved g (old.drop i), n)
      | none => againGo F t old b g f (x + F (t.drop x)) (out ++ [((x : Int), ((x + F (t.drop x) : Nat) : Int))]) (n + 1)
def endOf (l : List (Int × Int)) : Int := match l.getLast? with | some p => p.2 | none => 0
def badP (t : List UInt8) (old : List (Int × Int)) (a b g : Int) : Prop := a < 0 ∨ b < a ∨ (t.length : Int) < b ∨ b - a < g ∨ wholeGo 0 old ≠ some ((t.length : Int) - g)
instance (t : List UInt8) (old : List (Int × Int)) (a b g : Int) : Decidable (badP t old a b g) := by unfold badP; infer_instance
def sameB (a b g : Int) : Bool := decide (a = b ∧ g = 0)
/-- What Again makes. -/
def againR (F : List UInt8 → Nat) (t : List UInt8) (old : List (Int × Int)) (a b g : Int) : List (Int × Int) × Nat :=
  if badP t old a b g then (cutA F 0 t, (cutA F 0 t).length)
  else
    let k := keptGo a (sameB a b g) old
    let x := (endOf (old.take k)).toNat
    againGo F t old b g (t.length - x + 1) x (old.take k) 0

theorem endOf_snoc (l : List (Int × Int)) (p : Int × Int) : endOf (l ++ [p]) = p.2 := by simp [endOf]
theorem cutA_end {F : List UInt8 → Nat} (hF : Good F) {s : List UInt8} {i : Nat} {p : Int × Int} (h : (cutA F 0 s)[i]? = some p) : endOf ((cutA F 0 s).take i) = p.1 := by
  obtain ⟨x, g1, g2, g3, g4, g5, g6, g7, g8⟩ := cutA_at hF i 0 s p h
  cases i with
  | zero => rw [g2, g8.2 rfl]; rfl
  | succ j =>
    have hlt := (List.getElem?_eq_some_iff.1 h).1
    obtain ⟨q, hq⟩ : ∃ q, (cutA F 0 s)[j]? = some q := ⟨_, List.getElem?_eq_getElem (by omega)⟩
    obtain ⟨y, k1, k2, k3, k4, k5, k6, k7, k8⟩ := cutA_at hF j 0 s q hq
    rw [take_snoc_of hq, endOf_snoc, k3]
    have e1 := drop_of_at h
    rw [k7] at e1
    have hne : s.drop (y + F (s.drop y)) ≠ [] := by
      intro e2
      rw [e2, cutA_nil] at e1
      cases e1
    rw [cutA_cons hF _ hne] at e1
    injection e1 with e1 _
    rw [← e1]
theorem cutA_end_all {F : List UInt8 → Nat} (hF : Good F) (s : List UInt8) : endOf (cutA F 0 s) = s.length := by
  by_cases h0 : s = []
  · subst h0; rfl
  · have hne : cutA F 0 s ≠ [] := fun e => h0 ((cutA_ne hF 0).1 e)
    obtain ⟨j, hj⟩ : ∃ j, (cutA F 0 s).length = j + 1 := ⟨(cutA F 0 s).length - 1, by have := List.length_pos_iff.2 hne; omega⟩
    obtain ⟨q, hq⟩ : ∃ q, (cutA F 0 s)[j]? = some q := ⟨_, List.getElem?_eq_getElem (by omega)⟩
    obtain ⟨y, k1, k2, k3, k4, k5, k6, k7, k8⟩ := cutA_at hF j 0 s q hq
    have e := take_snoc_of hq
    rw [← hj, List.take_length] at e
    rw [e, endOf_snoc, k3]
    have e1 : (cutA F 0 s).drop (j + 1) = [] := List.drop_eq_nil_of_le (by omega)
    rw [k7, cutA_ne hF] at e1
    have := congrArg List.length e1
    rw [List.length_drop, List.length_nil] at this
    omega
/-- The cut behind a cut. -/
theorem cutA_succ {F : List UInt8 → Nat} (hF : Good F) {s : List UInt8} {i : Nat} {p : Int × Int} (h : (cutA F 0 s)[i]? = some p) : p.2 = s.length ∨ ∃ q, (cutA F 0 s)[i + 1]? = some q ∧ q.1 = p.2 := by
  obtain ⟨x, g1, g2, g3, g4, g5, g6, g7, g8⟩ := cutA_at hF i 0 s p h
  by_cases hl : i + 1 < (cutA F 0 s).length
  · obtain ⟨q, hq⟩ : ∃ q, (cutA F 0 s)[i + 1]? = some q := ⟨_, List.getElem?_eq_getElem hl⟩
    refine .inr ⟨q, hq, ?_⟩
    have h1 := cutA_end hF hq
    rw [take_snoc_of h, endOf_snoc] at h1
    exact h1.symm
  · left
    have h1 := cutA_end_all hF s
    have e := take_snoc_of h
    rw [List.take_of_length_le (by omega)] at e
    rw [e, endOf_snoc] at h1
    exact h1
theorem cutA_moved {F : List UInt8 → Nat} (hF : Good F) (x y : Nat) (g : Int) (h : (y : Int) = x + g) (l : List UInt8) : moved g (cutA F x l) = cutA F y l := by
  by_cases hg : 0 ≤ g
  · obtain ⟨m, rfl⟩ := Int.eq_ofNat_of_zero_le hg
    obtain rfl : y = x + m := by omega
    rw [cutA_shift hF m _ x l (Nat.le_refl _)]; rfl
  · obtain ⟨m, hm⟩ := Int.eq_ofNat_of_zero_le (show 0 ≤ -g by omega)
    obtain rfl : x = y + m := by omega
    obtain rfl : g = -(m : Int) := by omega
    rw [cutA_shift hF m _ y l (Nat.le_refl _), moved, List.map_map]
    conv => rhs; rw [← List.map_id (cutA F y l)]
    refine List.map_congr_left fun p _ => Prod.ext ?_ ?_
    · show p.1 + (m : Int) + -(m : Int) = p.1; omega
    · show p.2 + (m : Int) + -(m : Int) = p.2; omega
theorem again_loop {F : List UInt8 → Nat} (hF : Good F) {t : List UInt8} {old : List (Int × Int)} {b g : Int} (hb : b ≤ t.length)
    (hidx : ∀ (x i : Nat), b ≤ (x : Int) → x ≤ t.length → idxI ((x : Int) - g) old = some i → moved g (old.drop i) = cutA F x (t.drop x)) :
    ∀ (f x : Nat) (out : List (Int × Int)) (n : Nat), x ≤ t.length → t.length - x + 1 ≤ f → out ++ cutA F x (t.drop x) = cutA F 0 t → n ≤ out.length →
      (againGo F t old b g f x out n).1 = cutA F 0 t ∧ (againGo F t old b g f x out n).2 ≤ (cutA F 0 t).length := by
  intro f
  induction f with
  | zero => intro x out n _ h; omega
  | succ f ih =>
    intro x out n hx hf ho hn
    have hlen := congrArg List.length ho
    rw [List.length_append] at hlen
    rw [againGo]
    split
    · rename_i hc
      rw [hc.2, List.drop_length, cutA_nil, List.append_nil] at ho
      exact ⟨ho, by rw [← ho]; exact hn⟩
    · rename_i hc
      split
      · rename_i i hi
        by_cases hb2 : b ≤ (x : Int)
        · rw [if_pos hb2] at hi
          rw [hidx x i hb2 hx hi]
          exact ⟨ho, by show n ≤ _; omega⟩
        · rw [if_neg hb2] at hi; cases hi
      · have hlt : x < t.length := by
          rcases Nat.lt_or_ge x t.length with h | h
          · exact h
          · exact absurd ⟨by omega, by omega⟩ hc
        have hne : t.drop x ≠ [] := by
          intro e
          have := congrArg List.length e
          rw [List.length_drop, List.length_nil] at this
          omega
        have h1 := hF.pos _ hne
        have h2 := hF.le (t.drop x)
        rw [List.length_drop] at h2
        refine ih _ _ _ (by omega) (by omega) ?_ (by rw [List.length_append]; simp; exact hn)
        rw [← ho, cutA_cons hF x hne, List.drop_drop, List.append_assoc]
        rfl
theorem kept_start {F : List UInt8 → Nat} (hF : Best F) {s t : List UInt8} {a b : Nat} {g : Int} (ha : t.take a = s.take a) (hd : t.drop b = s.drop ((b : Int) - g).toNat) (hab : a ≤ b) (hb : b ≤ t.length) (hg : g ≤ (b : Int) - a) (hl : (t.length : Int) - g = s.length) :
    ∃ x : Nat, endOf ((cutA F 0 s).take (keptGo a (sameB a b g) (cutA F 0 s))) = x ∧ x ≤ a ∧ x ≤ t.length ∧ (cutA F 0 s).take (keptGo a (sameB a b g) (cutA F 0 s)) ++ cutA F x (t.drop x) = cutA F 0 t ∧
      (keptGo a (sameB a b g) (cutA F 0 s) < (cutA F 0 s).length → ∃ p, (cutA F 0 s)[keptGo a (sameB a b g) (cutA F 0 s)]? = some p ∧ p.1 = x ∧ p.2 = ((x + F (s.drop x) : Nat) : Int)) ∧ (¬ keptGo a (sameB a b g) (cutA F 0 s) < (cutA F 0 s).length → s ≠ [] → x = t.length) := by
  obtain ⟨k, hk⟩ : ∃ k, keptGo a (sameB a b g) (cutA F 0 s) = k := ⟨_, rfl⟩
  have hkl := keptGo_le a (sameB a b g) (cutA F 0 s)
  have hsm : ∀ i p, i < k → (cutA F 0 s)[i]? = some p → p.2 ≤ a := fun i p hi hp => keptGo_small (by rw [hk]; exact hi) hp
  have hall : cutA F 0 s ≠ [] → k = (cutA F 0 s).length → sameB a b g = true := fun h1 h2 => keptGo_all h1 (by rw [hk]; exact h2)
  rw [hk] at hkl ⊢
  have htx : ∀ x, x ≤ a → t = s.take x ++ t.drop x := by
    intro x hx
    have h1 : t.take x = s.take x := by
      have := congrArg (List.take x) ha
      rw [List.take_take, List.take_take, Nat.min_eq_left hx] at this
      exact this
    rw [← h1, List.take_append_drop]
  by_cases hlt : k < (cutA F 0 s).length
  · obtain ⟨p, hp⟩ : ∃ p, (cutA F 0 s)[k]? = some p := ⟨_, List.getElem?_eq_getElem hlt⟩
    obtain ⟨x, g1, g2, g3, g4, g5, g6, g7, g8⟩ := cutA_at hF.toGood k 0 s p hp
    have hxa : x ≤ a := by
      cases k with
      | zero => have := g8.2 rfl; omega
      | succ j =>
        obtain ⟨q, hq⟩ : ∃ q, (cutA F 0 s)[j]? = some q := ⟨_, List.getElem?_eq_getElem (by omega)⟩
        have h1 := hsm j q (by omega) hq
        have h2 := cutA_end hF.toGood hp
        rw [take_snoc_of hq, endOf_snoc] at h2
        omega
    refine ⟨x, by rw [cutA_end hF.toGood hp, g2]; simp, hxa, by omega, ?_, fun _ => ⟨p, hp, by rw [g2]; simp, by rw [g3]; simp⟩, fun h => absurd hlt h⟩
    have h3 := cut_pre hF k 0 s p x hp g2 (t.drop x)
    rw [← htx x hxa, Nat.zero_add] at h3
    exact h3.symm
  · have hke : k = (cutA F 0 s).length := by omega
    by_cases h0 : s = []
    · subst h0
      have e0 : cutA F 0 ([] : List UInt8) = [] := rfl
      rw [e0] at hke
      simp at hke
      subst hke
      refine ⟨0, rfl, by omega, by omega, by simp, fun h => by simp [e0] at h, fun _ h => absurd rfl h⟩
    · have hne : cutA F 0 s ≠ [] := fun e => h0 ((cutA_ne hF.toGood 0).1 e)
      have hs := hall hne hke
      have hsame : a = b ∧ g = 0 := by
        have := of_decide_eq_true hs
        exact ⟨by omega, this.2⟩
      obtain ⟨rfl, rfl⟩ := hsame
      have hts : t = s := by
        have e1 := htx a (Nat.le_refl _)
        rw [hd] at e1
        simpa using e1
      subst hts
      have he := cutA_end_all hF.toGood t
      have hxa : t.length ≤ a := by
        obtain ⟨j, hj⟩ : ∃ j, (cutA F 0 t).length = j + 1 := ⟨(cutA F 0 t).length - 1, by have := List.length_pos_iff.2 hne; omega⟩
        obtain ⟨q, hq⟩ : ∃ q, (cutA F 0 t)[j]? = some q := ⟨_, List.getElem?_eq_getElem (by omega)⟩
        have h1 := hsm j q (by omega) hq
        have e := take_snoc_of hq
        rw [← hj, List.take_length] at e
        rw [e, endOf_snoc] at he
        omega
      refine ⟨t.length, by rw [hke, List.take_length]; exact he, hxa, Nat.le_refl _, ?_, fun h => absurd h hlt, fun _ _ => rfl⟩
      rw [hke, List.take_length, List.drop_length, cutA_nil, List.append_nil]
theorem idx_moved {F : List UInt8 → Nat} (hF : Good F) {s t : List UInt8} {b : Nat} {g : Int} (hd : t.drop b = s.drop ((b : Int) - g).toNat) (hg : g ≤ (b : Int)) {x i : Nat} (hx : b ≤ x) (h : idxI ((x : Int) - g) (cutA F 0 s) = some i) :
    moved g ((cutA F 0 s).drop i) = cutA F x (t.drop x) := by
  obtain ⟨p, hp, e⟩ := idxI_at h
  obtain ⟨y, g1, g2, g3, g4, g5, g6, g7, g8⟩ := cutA_at hF i 0 s p hp
  rw [g6, cutA_moved hF (0 + y) x g (by omega)]
  have e1 : t.drop x = (t.drop b).drop (x - b) := by rw [List.drop_drop]; congr 1; omega
  rw [e1, hd, List.drop_drop]
  congr 2; omega
theorem not_bad {F : List UInt8 → Nat} (hF : Good F) {s t : List UInt8} {a b : Nat} {g : Int} (hab : a ≤ b) (hb : b ≤ t.length) (hg : g ≤ (b : Int) - a) (hl : (t.length : Int) - g = s.length) : ¬ badP t (cutA F 0 s) a b g := by
  have h := cutA_whole hF s.length 0 s (Nat.le_refl _)
  rintro (h1 | h1 | h1 | h1 | h1)
  · omega
  · omega
  · omega
  · omega
  · apply h1
    rw [hl]
    simpa using h
/-- A text that was changed: cut anew it is as it is cut whole. -/
theorem again_ok {F : List UInt8 → Nat} (hF : Best F) {s t : List UInt8} {a b : Nat} {g : Int} (ha : t.take a = s.take a) (hd : t.drop b = s.drop ((b : Int) - g).toNat) (hab : a ≤ b) (hb : b ≤ t.length) (hg : g ≤ (b : Int) - a) (hl : (t.length : Int) - g = s.length) :
    (againR F t (cutA F 0 s) a b g).1 = cutA F 0 t ∧ (againR F t (cutA F 0 s) a b g).2 ≤ (cutA F 0 t).length := by
  rw [againR, if_neg (not_bad hF.toGood hab hb hg hl)]
  obtain ⟨x, h1, h2, h3, h4, _, _⟩ := kept_start hF ha hd hab hb hg hl
  simp only
  rw [h1]
  simp only [Int.toNat_natCast]
  exact again_loop hF.toGood (by omega) (fun y i hy _ hi => idx_moved hF.toGood hd (by omega) (by omega) hi) _ _ _ _ h3 (Nat.le_refl _) h4 (Nat.zero_le _)
theorem again_stop {F : List UInt8 → Nat} {t : List UInt8} {old : List (Int × Int)} {b g : Int} {f x : Nat} {out : List (Int × Int)} {n : Nat} (hb : b ≤ (x : Int)) (h : x = t.length ∨ idxI ((x : Int) - g) old ≠ none) : (againGo F t old b g (f + 1) x out n).2 = n := by
  rw [againGo]
  split
  · rfl
  · rename_i hc
    rcases h with h | h
    · exact absurd ⟨hb, h⟩ hc
    · split
      · rfl
      · rename_i hi; exact absurd hi h
/-- Few pieces are looked for where the lengths of the pieces stay. -/
theorem again_few {F : List UInt8 → Nat} (hF : Best F) {s t : List UInt8} {a b : Nat} (ha : t.take a = s.take a) (hd : t.drop b = s.drop b) (hab : a ≤ b) (hb : b ≤ t.length) (hba : b ≤ a + 1) (hl : t.length = s.length) (hF2 : ∀ x, x ≤ a → F (t.drop x) = F (s.drop x)) :
    (againR F t (cutA F 0 s) a b 0).2 ≤ 1 := by
  have hg : (0 : Int) ≤ (b : Int) - a := by omega
  have hl2 : (t.length : Int) - 0 = s.length := by omega
  rw [againR, if_neg (not_bad hF.toGood hab hb hg hl2)]
  obtain ⟨x, h1, h2, h3, h4, h5, h6⟩ := kept_start hF ha (by simpa using hd) hab hb hg hl2
  simp only
  rw [h1]
  simp only [Int.toNat_natCast]
  obtain ⟨k, hk⟩ : ∃ k, keptGo a (sameB a b 0) (cutA F 0 s) = k := ⟨_, rfl⟩
  have hnx := fun p h => keptGo_next (a := a) (same := sameB a b 0) (l := cutA F 0 s) (p := p) h
  rw [hk] at h4 h5 h6 hnx ⊢
  by_cases h0 : s = []
  · subst h0
    have : t = [] := List.eq_nil_of_length_eq_zero (by simpa using hl)
    subst this
    have hb0 : b = 0 := by simpa using hb
    have hx0 : x = 0 := by simpa using h3
    subst hb0 hx0
    show (againGo F [] _ _ 0 (0 + 1) 0 _ 0).2 ≤ 1
    rw [again_stop (F := F) (t := []) (old := cutA F 0 []) (b := ((0 : Nat) : Int)) (g := 0) (f := 0) (x := 0) (out := (cutA F 0 []).take k) (n := 0) (Int.le_refl _) (.inl rfl)]
    omega
  have hbd : x = t.length ∨ idxI ((x : Int) - 0) (cutA F 0 s) ≠ none := by
    by_cases hlt : k < (cutA F 0 s).length
    · obtain ⟨p, hp, e, _⟩ := h5 hlt
      exact .inr (idxI_is hp (by omega))
    · exact .inl (h6 hlt h0)
  by_cases hbx : b ≤ x
  · rw [again_stop (by omega) hbd]; omega
  · have hlt : k < (cutA F 0 s).length := by
      by_cases hlt : k < (cutA F 0 s).length
      · exact hlt
      · have := h6 hlt h0; omega
    obtain ⟨p, hp, e, e2⟩ := h5 hlt
    have hxt : x < t.length := by omega
    have hne : t.drop x ≠ [] := by
      intro e
      have := congrArg List.length e
      rw [List.length_drop, List.length_nil] at this
      omega
    have q1 := hF.pos _ hne
    obtain ⟨f, hf⟩ : ∃ f, t.length - x + 1 = f + 1 + 1 := ⟨t.length - x - 1, by omega⟩
    rw [hf, againGo, if_neg (by omega)]
    simp only [if_neg (show ¬ (b : Int) ≤ (x : Int) by omega)]
    have hfs := hF2 x h2
    rw [hfs] at q1 ⊢
    have hge : b ≤ x + F (s.drop x) := by
      rcases hnx p hp with h | h
      · omega
      · have := cutA_end_all hF.toGood s
        have e3 := take_snoc_of hp
        rw [h.1, List.take_length] at e3
        rw [e3, endOf_snoc] at this
        omega
    rw [again_stop (by omega)]
    · omega
    · rcases cutA_succ hF.toGood hp with h | ⟨q, hq, e3⟩
      · left; omega
      · exact .inr (idxI_is hq (by omega))
/-- Pieces ahead of a change stay. -/
theorem cut_ahead {F : List UInt8 → Nat} (hF : Best F) {s t : List UInt8} {a : Nat} (ha : t.take a = s.take a) {i : Nat} {p : Int × Int} (hi : i + 1 < (cutA F 0 s).length) (hp : (cutA F 0 s)[i]? = some p) (hpa : p.2 ≤ a) : (cutA F 0 t)[i]? = some p := by
  obtain ⟨q, hq⟩ : ∃ q, (cutA F 0 s)[i + 1]? = some q := ⟨_, List.getElem?_eq_getElem hi⟩
  obtain ⟨x, g1, g2, _⟩ := cutA_at hF.toGood (i + 1) 0 s q hq
  have h1 := cutA_end hF.toGood hq
  rw [take_snoc_of hp, endOf_snoc] at h1
  have hx : x ≤ a := by omega
  have h3 := cut_pre hF (i + 1) 0 s q x hq g2 (t.drop x)
  have h2 : t.take x = s.take x := by
    have := congrArg (List.take x) ha
    rw [List.take_take, List.take_take, Nat.min_eq_left hx] at this
    exact this
  rw [← h2, List.take_append_drop] at h3
  rw [h3, List.getElem?_append_left (by rw [List.length_take]; omega), List.getElem?_take, if_pos (by omega)]
  exact hp
end Go.Proofs.Ytiocealhadlggaa

/- Package split: what each function computes. -/
namespace Go.Proofs.Ytiocealhadlggaa
open Go.RowKit
set_option linter.unusedVariables false
attribute [local go_sem] max2_int min2_int max_two min_two

set_option maxHeartbeats 1600000 in
set_option maxRecDepth 100000 in
theorem kept_calls (A : Option Addr) (n c : Nat) (l : List (Int × Int)) (a : Int) (same : Bool) (w : World) (hn : n ≤ 1000000) (hl : l.length = n) (hR : RowAt w A (pcells l)) :
    Calls Try.prog 84 #[.slice A n c, .int .i64 a, .bool same] w fun e w' => ∃ v, e = .returned v ∧ Own w' w.heap.size 2 v (keptGo a same l) (pcells (l.take (keptGo a same l))) ∧ Below w.heap.size w w' := by
  subst hl
  have HR := Lib.hid hR; clear hR
  obtain ⟨K, hK⟩ : ∃ K, keptGo a same l = K := ⟨_, rfl⟩
  have HK := Lib.hid hK
  rw [hK]
  clear hK
  go_enter Try.func84, Try.ntmps84
  go_wp2
  go_loopw [7, 12] (fun v i wr => ∃ k : Nat, k ≤ l.length ∧ i = .int .i64 k ∧ Hid (K = k + keptGo a same (l.drop k)) ∧ Hid (Own wr w.heap.size 2 v k (pcells (l.take k))) ∧ Hid (Below w.heap.size w wr)) (fun _ i _ => l.length - (intOf i).toNat)
  case atStart => exact ⟨0, Nat.zero_le _, rfl, by rw [Hid, ← HK.out]; simp, Own.nil _ _ _, Below.refl _ _⟩
  case round =>
    obtain ⟨k, hk, rfl, HC, HO, HW⟩ := hrel
    by_cases hlt : k < l.length
    · obtain ⟨⟨x, y⟩, hx⟩ := some_at hlt
      obtain ⟨b, o, rfl, hb, h1, h2⟩ := pair_at (HR.out.below HW.out) hx
      have HD : Hid (K = k + if a < y ∨ (k + 1 = l.length ∧ same = false) then 0 else keptGo a same (l.drop (k + 1)) + 1) := by
        rw [Hid, HC.out, drop_of_at hx, keptGo]
        have : (l.drop (k + 1) = []) ↔ k + 1 = l.length := by rw [List.drop_eq_nil_iff]; omega
        simp only [this]
      have HT : Hid (pcells (l.take (k + 1)) = pcells (l.take k) ++ [.int .i64 x, .int .i64 y]) := by rw [Hid, take_snoc_of hx, pcells_append]; rfl
      clear hx HC
      by_cases c1 : a < y
      · have HE : Hid (K = k) := by rw [Hid, HD.out, if_pos (.inl c1)]; omega
        clear HD
        go_wp2
        go_ret
        rw [HE.out]
        exact ⟨_, rfl, HO.out.alloc _, HW.out.alloc HW.out.size _⟩
      by_cases c2 : k + 1 = l.length
      · have c3 : ((k : Int) == (l.length : Int) - 1) = true := by simp; omega
        replace c2 := Lib.hid c2
        cases same
        · have HE : Hid (K = k) := by rw [Hid, HD.out, if_pos (.inr ⟨c2.out, rfl⟩)]; omega
          clear HD
          go_wp2
          go_ret
          rw [HE.out]
          exact ⟨_, rfl, HO.out.alloc _, HW.out.alloc HW.out.size _⟩
        · have HE : Hid (K = k + 1 + keptGo a true (l.drop (k + 1))) := by rw [Hid, HD.out, if_neg (by rintro (h | h); exact c1 h; cases h.2)]; omega
          clear HD
          go_wp2_with (at_builtin; refine appO el_spans w.heap.size rfl _ _ rfl rfl ((HO.out.alloc _).alloc _) (news := [.int .i64 x, .int .i64 y]) rfl rfl (row_alloc2 _ _ [.int .i64 x, .int .i64 y] _) (one_pair _ _) (by omega) (by have := HW.out.size; simp; omega) ?_; intro v1 w1 hown1 hg1 _; have HO1 : Hid (Own w1 w.heap.size 2 v1 (k + 1) (pcells (l.take (k + 1)))) := (by rw [HT.out]; exact hown1); have HB1 : Hid (Below w.heap.size w w1) := Own.grown_below ((HO.out.alloc _).alloc _) ((HW.out.alloc HW.out.size _).alloc (by have := HW.out.size; simp; omega) _) hg1 (Nat.le_refl _); clear hown1 hg1)
          go_roundw
          case rel => exact ⟨k + 1, by omega, by go_num, HE, HO1, HB1⟩
          case measure => simp [intOf]; omega
      · have c3 : ((k : Int) == (l.length : Int) - 1) = false := by simp; omega
        have c4 : ¬ (k : Int) = (l.length : Int) - 1 := by omega
        have HE : Hid (K = k + 1 + keptGo a same (l.drop (k + 1))) := by rw [Hid, HD.out, if_neg (by rintro (h | h); exact c1 h; exact c2 h.1)]; omega
        clear HD
        go_wp2_with (at_builtin; refine appO el_spans w.heap.size rfl _ _ rfl rfl ((HO.out.alloc _).alloc _) (news := [.int .i64 x, .int .i64 y]) rfl rfl (row_alloc2 _ _ [.int .i64 x, .int .i64 y] _) (one_pair _ _) (by omega) (by have := HW.out.size; simp; omega) ?_; intro v1 w1 hown1 hg1 _; have HO1 : Hid (Own w1 w.heap.size 2 v1 (k + 1) (pcells (l.take (k + 1)))) := (by rw [HT.out]; exact hown1); have HB1 : Hid (Below w.heap.size w w1) := Own.grown_below ((HO.out.alloc _).alloc _) ((HW.out.alloc HW.out.size _).alloc (by have := HW.out.size; simp; omega) _) hg1 (Nat.le_refl _); clear hown1 hg1)
        go_roundw
        case rel => exact ⟨k + 1, by omega, by go_num, HE, HO1, HB1⟩
        case measure => simp [intOf]; omega
    · have HE : Hid (K = k) := by rw [Hid, HC.out, List.drop_eq_nil_of_le (by omega)]; rfl
      go_wp2
      go_ret
      rw [HE.out]
      exact ⟨_, rfl, HO.out, HW.out⟩

set_option maxHeartbeats 400000 in
theorem behind1_calls (x y a g : Int) (b1 b2 : Nat) (w : World) (h1 : w.cell? ⟨b1, 0, none⟩ = some (.int .i64 a)) (h2 : w.cell? ⟨b2, 0, none⟩ = some (.int .i64 g)) (hr : -9223372036854775808 ≤ a - g ∧ a - g ≤ 9223372036854775807) :
    Calls Try.prog 88 #[.agg #[.int .i64 x, .int .i64 y], .pointer (some ⟨b1, 0, none⟩), .pointer (some ⟨b2, 0, none⟩)] w fun e w' => e = .returned (.bool (decide (x = a - g))) ∧ Below w.heap.size w w' := by
  have hw := IntWalk.i64_in (a - g) (by omega)
  have k1 : ∀ o, (w.alloc o).cell? ⟨b1, 0, none⟩ = some (.int .i64 a) := fun o => cell_kept ((Below.refl w.heap.size w).alloc (Nat.le_refl _) o) (Nat.le_refl _) h1
  have k2 : ∀ o, (w.alloc o).cell? ⟨b2, 0, none⟩ = some (.int .i64 g) := fun o => cell_kept ((Below.refl w.heap.size w).alloc (Nat.le_refl _) o) (Nat.le_refl _) h2
  go_enter Try.func88, Try.ntmps88
  go_wp2
  go_ret
  exact ⟨ret_bool (by rw [Bool.eq_iff_iff]; simp), (Below.refl _ _).alloc (Nat.le_refl _) _⟩
set_option maxHeartbeats 1600000 in
set_option maxRecDepth 100000 in
theorem indexFunc_calls (A : Option Addr) (n c : Nat) (l : List (Int × Int)) (a g : Int) (b1 b2 : Nat) (w : World) (hn : n ≤ 1000000) (hl : l.length = n) (hR : RowAt w A (pcells l)) (h1 : w.cell? ⟨b1, 0, none⟩ = some (.int .i64 a)) (h2 : w.cell? ⟨b2, 0, none⟩ = some (.int .i64 g)) (hr : -9223372036854775808 ≤ a - g ∧ a - g ≤ 9223372036854775807) :
    Calls Try.prog 87 #[.slice A n c, .func (.func 88) #[] #[.pointer (some ⟨b1, 0, none⟩), .pointer (some ⟨b2, 0, none⟩)]] w fun e w' => e = .returned (.int .i64 (idxZ (a - g) l)) ∧ Below w.heap.size w w' := by
  subst hl
  have HR := Lib.hid hR; clear hR
  have HF := Lib.hid (fun (x y : Int) (W : World) (hb : Below w.heap.size w W) => behind1_calls x y a g b1 b2 W (cell_kept hb (Nat.le_refl _) h1) (cell_kept hb (Nat.le_refl _) h2) hr)
  clear h1 h2 hr
  obtain ⟨Z, hZ⟩ : ∃ Z, idxI (a - g) l = Z := ⟨_, rfl⟩
  have HZ := Lib.hid hZ
  obtain ⟨z, hz⟩ : ∃ z, idxZ (a - g) l = z := ⟨_, rfl⟩
  have HZ1 : Hid (∀ i, Z = some i → z = i) := fun i e => by rw [← hz, idxZ, hZ, e]
  have HZ2 : Hid (Z = none → z = -1) := fun e => by rw [← hz, idxZ, hZ, e]
  rw [hz]
  clear hZ hz
  go_enter Try.func87, Try.ntmps87
  go_wp2
  go_loopw [8] (fun i wr => ∃ k : Nat, k ≤ l.length ∧ i = .int .i64 k ∧ Hid (Z = (idxI (a - g) (l.drop k)).map (· + k)) ∧ Hid (Below w.heap.size w wr)) (fun i _ => l.length - (intOf i).toNat)
  case atStart => exact ⟨0, Nat.zero_le _, rfl, by rw [Hid, ← HZ.out]; simp, Below.refl _ _⟩
  case round =>
    obtain ⟨k, hk, rfl, HC, HW⟩ := hrel
    by_cases hlt : k < l.length
    · obtain ⟨⟨x, y⟩, hx⟩ := some_at hlt
      obtain ⟨b, o, rfl, hb, h1, h2⟩ := pair_at (HR.out.below HW.out) hx
      have HD : Hid (Z = if x = a - g then some k else (idxI (a - g) (l.drop (k + 1))).map (· + (k + 1))) := by
        rw [Hid, HC.out, drop_of_at hx, idxI_cons]
        split
        · simp
        · rw [Option.map_map]
          congr 1
          funext z
          show z + 1 + k = z + (k + 1)
          omega
      have HF1 := Lib.hid (HF.out x y wr HW.out)
      clear hx HC
      by_cases c1 : x = a - g
      · have hd : decide (x = a - g) = true := decide_eq_true c1
        have HE : Hid (z = k) := HZ1.out _ (by rw [HD.out, if_pos c1])
        rw [hd] at HF1
        clear HD c1 hd
        go_wp2_with (go_at_call 88; refine Calls.mono HF1.out ?_; rintro e w2 ⟨rfl, hb2⟩; have HB2 := Lib.hid (below_trans' HW.out hb2); clear hb2)
        go_ret
        exact ⟨ret_int (by rw [HE.out]), HB2.out⟩
      · have hd : decide (x = a - g) = false := decide_eq_false c1
        have HE : Hid (Z = (idxI (a - g) (l.drop (k + 1))).map (· + (k + 1))) := by rw [Hid, HD.out, if_neg c1]
        rw [hd] at HF1
        clear HD c1 hd
        go_wp2_with (go_at_call 88; refine Calls.mono HF1.out ?_; rintro e w2 ⟨rfl, hb2⟩; have HB2 := Lib.hid (below_trans' HW.out hb2); clear hb2)
        go_roundw
        case rel => exact ⟨k + 1, by omega, by go_num, HE, HB2⟩
        case measure => simp [intOf]; omega
    · have HE : Hid (z = -1) := HZ2.out (by rw [HC.out, List.drop_eq_nil_of_le (by omega)]; rfl)
      go_wp2
      go_ret
      exact ⟨ret_int (by rw [HE.out]), HW.out⟩
set_option maxHeartbeats 1600000 in
set_option maxRecDepth 100000 in
theorem behind_calls (A : Option Addr) (n c : Nat) (l : List (Int × Int)) (a size g : Int) (w : World) (hn : n ≤ 1000000) (hl : l.length = n) (hc : n ≤ c) (hR : RowAt w A (pcells l)) (hr : -9223372036854775808 ≤ a - g ∧ a - g ≤ 9223372036854775807)
    (hg : ∀ p ∈ l, (-9223372036854775808 ≤ p.1 + g ∧ p.1 + g ≤ 9223372036854775807) ∧ -9223372036854775808 ≤ p.2 + g ∧ p.2 + g ≤ 9223372036854775807) :
    Calls Try.prog 85 #[.slice A n c, .int .i64 a, .int .i64 size, .int .i64 g] w fun e w' =>
      (a = size ∧ e = .returned (.tuple #[.slice none 0 0, .bool true]) ∨ a ≠ size ∧ idxI (a - g) l = none ∧ e = .returned (.tuple #[.slice none 0 0, .bool false]) ∨
        a ≠ size ∧ ∃ i v, idxI (a - g) l = some i ∧ e = .returned (.tuple #[v, .bool true]) ∧ Own w' w.heap.size 2 v (l.length - i) (pcells (moved g (l.drop i)))) ∧ Below w.heap.size w w' := by
  subst hl
  have HR := Lib.hid hR; clear hR
  have HG := Lib.hid hg; clear hg
  have hmf : ∀ (fn : Fn) (first cap : Array Value) (w : World), (Instr.makeFunc fn first cap).run Try.prog w = .ok (.func fn first cap) w := fun _ _ _ _ => rfl
  by_cases c0 : a = size
  · subst c0
    go_enter Try.func85, Try.ntmps85
    go_wp2
    go_ret2
    exact ⟨.inl ⟨by trivial, rfl⟩, (((Below.refl _ _).alloc (Nat.le_refl _) _).alloc (by simp) _)⟩
  · have hne : (a == size) = false := by simpa using c0
    have HN : Hid (a ≠ size) := c0
    clear c0
    obtain ⟨Z, hZ⟩ : ∃ Z, idxI (a - g) l = Z := ⟨_, rfl⟩
    obtain ⟨wq, hwq⟩ : ∃ wq, (w.alloc (.cells #[.int .i64 a] 3)).alloc (.cells #[.int .i64 g] 3) = wq := ⟨_, rfl⟩
    have hb0 : Below w.heap.size w wq := by rw [← hwq]; exact (((Below.refl _ _).alloc (Nat.le_refl _) _).alloc (by simp) _)
    have k1 : wq.cell? ⟨w.heap.size, 0, none⟩ = some (.int .i64 a) := by rw [← hwq]; simp [go_sem]
    have k2 : wq.cell? ⟨w.heap.size + 1, 0, none⟩ = some (.int .i64 g) := by rw [← hwq]; simp [go_sem]
    have hwz : wq.heap.size = w.heap.size + 2 := by rw [← hwq]; simp
    have HI := indexFunc_calls A l.length c l a g w.heap.size (w.heap.size + 1) wq hn rfl (HR.out.below hb0) k1 k2 hr
    have HB0 := Lib.hid hb0
    have HK := Lib.hid (And.intro k1 k2)
    have HZ := Lib.hid hZ
    have HWZ := Lib.hid hwz
    clear hb0 hwz
    cases Z with
    | none =>
      rw [idxZ, hZ] at HI
      have HI2 := Lib.hid HI
      clear HI hZ hr
      go_enter Try.func85, Try.ntmps85
      go_wp2_with fail
      refine Calls.mono HI2.out ?_
      rintro e w2 ⟨rfl, hb2⟩
      have HB2 := Lib.hid (HB0.out.trans (hb2.mono HB0.out.size))
      clear hb2 hwq k1 k2
      go_wp2
      go_ret2
      exact ⟨.inr (.inl ⟨HN.out, HZ.out, rfl⟩), HB2.out⟩
    | some i =>
      rw [idxZ, hZ] at HI
      simp only at HI
      have HI2 := Lib.hid HI
      obtain ⟨p, hp, _⟩ := idxI_at hZ
      have hil := (List.getElem?_eq_some_iff.1 hp).1
      obtain ⟨b, o, rfl, _, _⟩ := pair_at HR.out hp
      clear HI hZ hr hp
      go_enter Try.func85, Try.ntmps85
      go_wp2_with fail
      refine Calls.mono HI2.out ?_
      rintro e w2 ⟨rfl, hb2⟩
      have HB2 := Lib.hid (HB0.out.trans (hb2.mono HB0.out.size))
      have HK2 := Lib.hid (cell_kept hb2 (Nat.le_refl _) HK.out.2)
      clear hb2 hwq k1 k2
      obtain ⟨m, hm⟩ : ∃ m, l.length - i = m := ⟨_, rfl⟩
      have HM := Lib.hid hm
      have HBl : Hid (i + m = l.length) := by rw [Hid]; omega
      go_wp2
      clear hm
      have HRow2 := Lib.hid (HR.out.below HB2.out)
      go_loopw [11, 26] (fun v j wr => ∃ k : Nat, k ≤ m ∧ j = .int .i64 k ∧ Hid (Own wr w2.heap.size 2 v k (pcells (moved g ((l.drop i).take k)))) ∧ Hid (Below w2.heap.size w2 wr)) (fun _ j _ => m - (intOf j).toNat)
      case atStart => exact ⟨0, Nat.zero_le _, rfl, Own.nil _ _ _, Below.refl _ _⟩
      case round =>
        obtain ⟨k, hk, rfl, HO, HW⟩ := hrel
        by_cases hlt : k < m
        · obtain ⟨⟨x, y⟩, hx⟩ := some_at (show i + k < l.length by have := HBl.out; omega)
          obtain ⟨b', o', e, hb, h1, h2⟩ := pair_at (HRow2.out.below HW.out) hx
          injection e with e
          injection e with e1 e2
          subst e1 e2
          rw [show o + (i + k) * 2 = o + i * 2 + k * 2 by omega] at h1 h2
          have hgx := HG.out _ (List.mem_of_getElem? hx)
          simp only at hgx h1 h2
          have hw1 := IntWalk.i64_in (x + g) (by omega)
          have hw2 := IntWalk.i64_in (y + g) (by omega)
          have HT : Hid (pcells (moved g ((l.drop i).take (k + 1))) = pcells (moved g ((l.drop i).take k)) ++ [.int .i64 (x + g), .int .i64 (y + g)]) := by
            rw [Hid, take_snoc_of (show (l.drop i)[k]? = some (x, y) by rw [List.getElem?_drop]; exact hx), moved, List.map_append, pcells_append]; rfl
          clear hx hgx
          have kg : ∀ o, (wr.alloc o).cell? ⟨w.heap.size + 1, 0, none⟩ = some (.int .i64 g) := fun o => cell_kept (HW.out.alloc HW.out.size o) (Nat.le_refl _) HK2.out
          have hkm : k ≤ 1000000 := by have := HBl.out; omega
          go_wp2_with (at_builtin; refine appO el_spans w2.heap.size rfl _ _ rfl rfl ((HO.out.alloc _).alloc _) (news := [.int .i64 (x + g), .int .i64 (y + g)]) rfl rfl (row_alloc2 _ _ [.int .i64 (x + g), .int .i64 (y + g)] _) (one_pair _ _) (by omega) (by have := HW.out.size; simp; omega) ?_; intro v1 w3 hown1 hg1 _; have HO1 : Hid (Own w3 w2.heap.size 2 v1 (k + 1) (pcells (moved g ((l.drop i).take (k + 1))))) := (by rw [HT.out]; exact hown1); have HB1 : Hid (Below w2.heap.size w2 w3) := Own.grown_below ((HO.out.alloc _).alloc _) ((HW.out.alloc HW.out.size _).alloc (by have := HW.out.size; simp; omega) _) hg1 (Nat.le_refl _); clear hown1 hg1)
          go_roundw
          case rel => exact ⟨k + 1, by omega, by go_num, HO1, HB1⟩
          case measure => simp [intOf]; omega
        · have HE : Hid (k = m) := by rw [Hid]; omega
          go_wp2
          go_ret2
          refine ⟨.inr (.inr ⟨HN.out, i, _, HZ.out, rfl, ?_⟩), HB2.out.trans (HW.out.mono HB2.out.size)⟩
          have := HO.out.weaken HB2.out.size
          rw [List.take_of_length_le (by rw [List.length_drop]; have := HBl.out; have := HE.out; omega), HE.out, ← HM.out] at this
          exact this
end Go.Proofs.Ytiocealhadlggaa

/- Package split: the cutters, and what is cut anew. -/
namespace Go.Proofs.Ytiocealhadlggaa
open Go.RowKit
set_option linter.unusedVariables false
attribute [local go_sem] max2_int min2_int max_two min_two

/-- The cutters of the forms, and how long their first pieces are. -/
inductive Cutter : Value → (List UInt8 → Nat) → Prop
  | even : Cutter (.iface 80 (.agg #[.int .i64 64])) (minF 64)
  | uneven : Cutter (.iface 84 (rule 32 64 128 7 5)) (firstN 32 64 128 7 5)
theorem Cutter.best {c : Value} {F : List UInt8 → Nat} (h : Cutter c F) : Best F := by
  cases h
  · exact best_min (by omega)
  · exact best_first _ _ _ _ _
theorem Cutter.ne {c : Value} {F : List UInt8 → Nat} (h : Cutter c F) : ∃ t v, c = .iface t v := by cases h <;> exact ⟨_, _, rfl⟩

theorem of1_calls (w : World) : Calls Try.prog 22 #[.int .i64 1] w fun e w' => e = .returned (.tuple #[.iface 80 (.agg #[.int .i64 64]), .int .i64 0]) ∧ Below w.heap.size w w' := by
  go_enter Try.func22, Try.ntmps22
  go_wp2
  go_ret2
  exact ⟨rfl, Below.refl _ _⟩
theorem of2_calls (w : World) : Calls Try.prog 22 #[.int .i64 2] w fun e w' => e = .returned (.tuple #[.iface 84 (rule 32 64 128 7 5), .int .i64 0]) ∧ Below w.heap.size w w' := by
  go_enter Try.func22, Try.ntmps22
  go_wp2_with fail
  refine (default_calls _).mono ?_
  rintro e w1 ⟨rfl, hb1⟩
  go_wp2
  go_ret2
  exact ⟨rfl, hb1⟩
theorem of3_calls (w : World) : Calls Try.prog 22 #[.int .i64 3] w fun e w' => e = .returned (.tuple #[.iface 84 (rule 32 64 128 7 5), .int .i64 0]) ∧ Below w.heap.size w w' := by
  go_enter Try.func22, Try.ntmps22
  go_wp2_with fail
  refine (default_calls _).mono ?_
  rintro e w1 ⟨rfl, hb1⟩
  go_wp2
  go_ret2
  exact ⟨rfl, hb1⟩
theorem ofNone_calls (gen : Int) (w : World) (h : gen < 1 ∨ 3 < gen) : Calls Try.prog 22 #[.int .i64 gen] w fun e w' => e = .returned (.tuple #[.nilIface, .int .i64 1]) ∧ Below w.heap.size w w' := by
  have h1 : (gen == 1) = false := by simp; omega
  have h2 : (gen == 2) = false := by simp; omega
  have h3 : (gen == 3) = false := by simp; omega
  go_enter Try.func22, Try.ntmps22
  go_wp2
  go_ret2
  exact ⟨rfl, Below.refl _ _⟩

theorem evenNext_calls (n : Int) (s : ByteArray) (w : World) (hs : s.size ≤ 1000000) : Calls Try.prog 102 #[.agg #[.int .i64 n], .string s] w fun e w' => e = .returned (.int .i64 (max (min n s.size) 0)) ∧ Below w.heap.size w w' := by
  go_enter Try.func102, Try.ntmps102
  go_wp2
  go_ret
  exact ⟨rfl, (Below.refl _ _).alloc (Nat.le_refl _) _⟩
set_option maxRecDepth 100000 in
theorem evenCut_calls (n : Int) (A : Option Addr) (len c : Nat) (l : List ByteArray) (w : World) (hn2 : n ≤ 9223372036854775807) (hl : l.length = len) (hlen : len ≤ 4000000000000000000) (hs : totalLen l ≤ 1000000) (hR : RowAt w A (scells l)) :
    Calls Try.prog 101 #[.agg #[.int .i64 n], .slice A len c] w fun e w' => ∃ v, e = .returned v ∧ Own w' w.heap.size 2 v (fixedZ n (totalLen l)).length (pcells (fixedZ n (totalLen l))) ∧ Below w.heap.size w w' := by
  have HB := Lib.hid ((Below.refl w.heap.size w).alloc (Nat.le_refl _) (.cells #[.int .i64 n] 80))
  have HC := Lib.hid (cut_calls n A len c l _ hn2 hl hlen hs (hR.alloc (.cells #[.int .i64 n] 80)))
  clear hR hl
  go_enter Try.func101, Try.ntmps101
  go_wp2_with fail
  refine Calls.mono HC.out ?_
  rintro e w1 ⟨v, rfl, ho, hb⟩
  have HO := Lib.hid ho
  have HB1 := Lib.hid (below_trans' HB.out hb)
  have HZ := Lib.hid HB.out.size
  clear ho hb
  go_wp2
  go_ret
  exact ⟨_, rfl, HO.out.weaken HZ.out, HB1.out⟩
set_option maxRecDepth 100000 in
theorem unevenNext_calls (a b c h s : Int) (t : ByteArray) (w : World) (ht : t.size ≤ 1000000) : Calls Try.prog 109 #[rule a b c h s, .string t] w fun e w' => e = .returned (.int .i64 (firstN a b c h s t.data.toList : Nat)) ∧ Below w.heap.size w w' := by
  have HB := Lib.hid ((Below.refl w.heap.size w).alloc (Nat.le_refl _) (.cells #[.int .i64 a, .int .i64 b, .int .i64 c, .int .i64 h, .int .i64 s] 84))
  have HF := Lib.hid (fun W => first_calls a b c h s t W (by omega))
  go_enter Try.func109, Try.ntmps109
  go_wp2_with fail
  refine Calls.mono (HF.out _) ?_
  rintro e w1 ⟨rfl, hb⟩
  have HB1 := Lib.hid (below_trans' HB.out hb)
  clear hb
  go_wp2
  go_ret
  exact ⟨rfl, HB1.out⟩
/-- A whole text, cut by a cutter. -/
theorem all_calls {cv : Value} {F : List UInt8 → Nat} (hc : Cutter cv F) (s : ByteArray) (w : World) (hs : s.size ≤ 1000000) :
    Calls Try.prog 83 #[cv, .string s] w fun e w' => ∃ v, e = .returned (.tuple #[v, .int .i64 (cutA F 0 s.data.toList).length]) ∧ Own w' w.heap.size 2 v (cutA F 0 s.data.toList).length (pcells (cutA F 0 s.data.toList)) ∧ Below w.heap.size w w' := by
  have ht1 : totalLen [s] = s.size := by simp [totalLen]
  have hj : joinB [s] = s := by simp [joinB]
  have HB := Lib.hid ((Below.refl w.heap.size w).alloc (Nat.le_refl _) (.cells #[.string s] 9))
  have hrow := rowAt_alloc w (scells [s]) 9
  cases hc with
  | even =>
    have h1 := evenCut_calls 64 _ 1 1 [s] _ (by omega) rfl (by omega) (by rw [ht1]; omega) hrow
    rw [ht1, fixedZ_pos (by omega), ← data_length s, ← fixed_cut (by decide)] at h1
    have e64 : (64 : Int).toNat = 64 := rfl
    rw [e64] at h1
    obtain ⟨L, hL⟩ : ∃ L, cutA (minF 64) 0 s.data.toList = L := ⟨_, rfl⟩
    rw [hL] at h1 ⊢
    obtain ⟨N, hN⟩ : ∃ N, L.length = N := ⟨_, rfl⟩
    rw [hN] at h1 ⊢
    have HC := Lib.hid h1
    have hm : ∀ w : World, (method 256 80 (.agg #[.int .i64 64]) "Cut").run Try.prog w = .ok (101, .agg #[.int .i64 64]) w := fun _ => by kernel_rfl
    clear h1 hrow hL hj ht1 hN e64
    go_enter Try.func83, Try.ntmps83
    go_wp2_with fail
    refine Calls.mono HC.out ?_
    rintro e w1 ⟨v, rfl, ho, hb⟩
    obtain ⟨A1, c1, rfl, _, _, _⟩ := ho.slice
    have HO := Lib.hid (ho.weaken HB.out.size)
    have HB1 := Lib.hid (below_trans' HB.out hb)
    clear ho hb
    go_wp2
    go_ret2
    exact ⟨_, rfl, HO.out, HB1.out⟩
  | uneven =>
    have h1 := cdcCut_calls 32 64 128 7 5 _ 1 1 [s] _ rfl (by omega) (by omega) (by rw [ht1]; omega) hrow
    rw [hj] at h1
    obtain ⟨L, hL⟩ : ∃ L, cutA (firstN 32 64 128 7 5) 0 s.data.toList = L := ⟨_, rfl⟩
    rw [hL] at h1 ⊢
    obtain ⟨N, hN⟩ : ∃ N, L.length = N := ⟨_, rfl⟩
    rw [hN] at h1 ⊢
    have HC := Lib.hid h1
    have hm : ∀ w : World, (method 256 84 (rule 32 64 128 7 5) "Cut").run Try.prog w = .ok (104, rule 32 64 128 7 5) w := fun _ => by kernel_rfl
    clear h1 hrow hL hj ht1 hN
    go_enter Try.func83, Try.ntmps83
    go_wp2_with fail
    refine Calls.mono HC.out ?_
    rintro e w1 ⟨v, rfl, ho, hb⟩
    obtain ⟨A1, c1, rfl, _, _, _⟩ := ho.slice
    have HO := Lib.hid (ho.weaken HB.out.size)
    have HB1 := Lib.hid (below_trans' HB.out hb)
    clear ho hb
    go_wp2
    go_ret2
    exact ⟨_, rfl, HO.out, HB1.out⟩
end Go.Proofs.Ytiocealhadlggaa
