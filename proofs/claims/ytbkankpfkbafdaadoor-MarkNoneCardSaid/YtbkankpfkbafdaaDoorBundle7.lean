/- Words and contracts that this claim leans on, one text behind the other. -/
import Derived.Test.YtbkankpfkbafdaaDoorBundle2
import Derived.Test.YtbkankpfkbafdaaDoorBundle4
import Derived.Test.YtbkankpfkbafdaaDoorBundle5
import Derived.Test.YtbkankpfkbafdaaDoorBundle6
import Derived.Test.YtbkankpfkbafdaaDoorRefTwo
/- mark: Size, Valid, Of, Hash, Text; the document's own. -/

namespace Go.Proofs.YtbkankpfkbafdaaDoor
open Go.RowKit
set_option linter.unusedVariables false

def sizeM (k : Int) : Int := if k = 1 then 20 else if k = 2 then 32 else 0
theorem size_calls (k : Int) (w : World) : Calls Tryd.prog 19 #[.int .i64 k] w fun e w' => e = .returned (.int .i64 (sizeM k)) ∧ w = w' := by
  by_cases h1 : k = 1
  · subst h1
    go_enter Tryd.func19, Tryd.ntmps19
    go_wp2_with fail
    go_ret
    exact ⟨rfl, rfl⟩
  by_cases h2 : k = 2
  · subst h2
    go_enter Tryd.func19, Tryd.ntmps19
    go_wp2_with fail
    go_ret
    exact ⟨rfl, rfl⟩
  rw [sizeM, if_neg h1, if_neg h2]
  have z1 : (k == 1) = false := by simpa using h1
  have z2 : (k == 2) = false := by simpa using h2
  clear h1 h2
  go_enter Tryd.func19, Tryd.ntmps19
  go_wp2_with fail
  go_ret
  exact ⟨rfl, rfl⟩
theorem refSize_calls (k : Int) (w : World) : Calls Tryd.prog 10 #[.int .i64 k] w fun e w' => e = .returned (.int .i64 (sizeM k)) ∧ w = w' := by
  by_cases h1 : k = 1
  · subst h1
    go_enter Tryd.func10, Tryd.ntmps10
    go_wp2_with fail
    go_ret
    exact ⟨rfl, rfl⟩
  by_cases h2 : k = 2
  · subst h2
    go_enter Tryd.func10, Tryd.ntmps10
    go_wp2_with fail
    go_ret
    exact ⟨rfl, rfl⟩
  rw [sizeM, if_neg h1, if_neg h2]
  have z1 : (k == 1) = false := by simpa using h1
  have z2 : (k == 2) = false := by simpa using h2
  clear h1 h2
  go_enter Tryd.func10, Tryd.ntmps10
  go_wp2_with fail
  go_ret
  exact ⟨rfl, rfl⟩
theorem sizeM_vals (k : Int) : (k = 1 ∧ sizeM k = 20) ∨ (k = 2 ∧ sizeM k = 32) ∨ (k ≠ 1 ∧ k ≠ 2 ∧ sizeM k = 0) := by
  unfold sizeM
  by_cases h1 : k = 1
  · exact .inl ⟨h1, if_pos h1⟩
  · by_cases h2 : k = 2
    · exact .inr (.inl ⟨h2, by rw [if_neg h1, if_pos h2]⟩)
    · exact .inr (.inr ⟨h1, h2, by rw [if_neg h1, if_neg h2]⟩)
def validM (k : Int) (s : ByteArray) : Bool := decide (0 < sizeM k) && decide ((s.size : Int) = sizeM k)
theorem valid_calls (k : Int) (s : ByteArray) (w : World) : Calls Tryd.prog 20 #[.agg #[.int .i64 k, .string s]] w fun e w' => e = .returned (.bool (validM k s)) ∧ Below w.heap.size w w' := by
  have N : Box _ := ⟨size_calls k⟩
  have HV : Box (validM k s = (decide (0 < sizeM k) && decide ((s.size : Int) = sizeM k))) := ⟨rfl⟩
  have hz0 : 0 ≤ sizeM k ∧ sizeM k ≤ 32 := by rcases sizeM_vals k with ⟨_, h⟩ | ⟨_, h⟩ | ⟨_, _, h⟩ <;> omega
  obtain ⟨z, hz⟩ : ∃ z, sizeM k = z := ⟨_, rfl⟩
  obtain ⟨v, hv⟩ : ∃ v, validM k s = v := ⟨_, rfl⟩
  rw [hz] at N HV hz0
  rw [hv] at HV ⊢
  clear hz hv
  by_cases hz1 : 0 < z
  · by_cases hs : (s.size : Int) = z
    · have e1 : ((s.size : Int) == z) = true := by simpa using hs
      have HV2 : Box (v = true) := ⟨by rw [HV.out, decide_eq_true hz1, decide_eq_true hs]; rfl⟩
      clear hs
      go_enter Tryd.func20, Tryd.ntmps20
      go_wp2_with fail
      go_quiet ((go_at_call 19; exact quiet_same (N.out _)))
      go_wp2
      go_ret
      exact ⟨by rw [HV2.out]; rfl, below_drewN (bel_alloc (Below.refl _ _) _) _⟩
    · have e1 : ((s.size : Int) == z) = false := by simpa using hs
      have HV2 : Box (v = false) := ⟨by rw [HV.out, decide_eq_false hs, Bool.and_false]⟩
      clear hs
      go_enter Tryd.func20, Tryd.ntmps20
      go_wp2_with fail
      go_quiet ((go_at_call 19; exact quiet_same (N.out _)))
      go_wp2
      go_ret
      exact ⟨by rw [HV2.out]; rfl, below_drewN (bel_alloc (Below.refl _ _) _) _⟩
  · have HV2 : Box (v = false) := ⟨by rw [HV.out, decide_eq_false hz1, Bool.false_and]⟩
    have e1 : decide (0 < z) = false := decide_eq_false hz1
    go_enter Tryd.func20, Tryd.ntmps20
    go_wp2_with fail
    go_quiet ((go_at_call 19; exact quiet_same (N.out _)))
    go_wp2
    go_ret
    exact ⟨by rw [HV2.out]; rfl, below_drewN (bel_alloc (Below.refl _ _) _) _⟩
theorem refValid_calls (k : Int) (s : ByteArray) (w : World) : Calls Tryd.prog 16 #[.agg #[.int .i64 k, .string s]] w fun e w' => e = .returned (.bool (validM k s)) ∧ Below w.heap.size w w' := by
  have N : Box _ := ⟨refSize_calls k⟩
  have HV : Box (validM k s = (decide (0 < sizeM k) && decide ((s.size : Int) = sizeM k))) := ⟨rfl⟩
  have hz0 : 0 ≤ sizeM k ∧ sizeM k ≤ 32 := by rcases sizeM_vals k with ⟨_, h⟩ | ⟨_, h⟩ | ⟨_, _, h⟩ <;> omega
  obtain ⟨z, hz⟩ : ∃ z, sizeM k = z := ⟨_, rfl⟩
  obtain ⟨v, hv⟩ : ∃ v, validM k s = v := ⟨_, rfl⟩
  rw [hz] at N HV hz0
  rw [hv] at HV ⊢
  clear hz hv
  by_cases hz1 : 0 < z
  · by_cases hs : (s.size : Int) = z
    · have e1 : ((s.size : Int) == z) = true := by simpa using hs
      have HV2 : Box (v = true) := ⟨by rw [HV.out, decide_eq_true hz1, decide_eq_true hs]; rfl⟩
      clear hs
      go_enter Tryd.func16, Tryd.ntmps16
      go_wp2_with fail
      go_quiet ((go_at_call 10; exact quiet_same (N.out _)))
      go_wp2
      go_ret
      exact ⟨by rw [HV2.out]; rfl, below_drewN (bel_alloc (Below.refl _ _) _) _⟩
    · have e1 : ((s.size : Int) == z) = false := by simpa using hs
      have HV2 : Box (v = false) := ⟨by rw [HV.out, decide_eq_false hs, Bool.and_false]⟩
      clear hs
      go_enter Tryd.func16, Tryd.ntmps16
      go_wp2_with fail
      go_quiet ((go_at_call 10; exact quiet_same (N.out _)))
      go_wp2
      go_ret
      exact ⟨by rw [HV2.out]; rfl, below_drewN (bel_alloc (Below.refl _ _) _) _⟩
  · have HV2 : Box (v = false) := ⟨by rw [HV.out, decide_eq_false hz1, Bool.false_and]⟩
    have e1 : decide (0 < z) = false := decide_eq_false hz1
    go_enter Tryd.func16, Tryd.ntmps16
    go_wp2_with fail
    go_quiet ((go_at_call 10; exact quiet_same (N.out _)))
    go_wp2
    go_ret
    exact ⟨by rw [HV2.out]; rfl, below_drewN (bel_alloc (Below.refl _ _) _) _⟩

theorem results_cell_tmp {P : Program} {fn : Func} {p q : Tmp} {ty : TypeId} (h : fn.results = #[.cell p ty, .tmp q]) (tmps : Array Value) (w : World) (g : Nat) (cs : List Value) (d : TypeDesc)
    (hp : tmps.getD p undef = .pointer (some ⟨g, 0, none⟩)) (hc : w.rangeAt g 0 cs)
    (hu : P.underlying ty = some d) (hd : d.isRow = true) (hi : (P.info? ty).map (·.size) = some cs.length) :
    (results fn tmps).run P w = .ok (.tuple #[.agg cs.toArray, tmps.getD q undef]) w := by
  have hp' : tmps[p]?.getD undef = .pointer (some ⟨g, 0, none⟩) := by simpa using hp
  simp [results, h, hp', asAddr, run_loadVar_mid w g 0 ty cs d hc hu hd hi]
theorem range_two {w : World} {g : Nat} {a b : Value} (h0 : w.cell? ⟨g, 0, none⟩ = some a) (h1 : w.cell? ⟨g, 1, none⟩ = some b) : w.rangeAt g 0 [a, b] := by
  intro j v hv
  rcases j with _ | _ | j
  · simp at hv; subst hv; exact h0
  · simp at hv; subst hv; exact h1
  · simp at hv
/-- A variable of a fingerprint: its two cells. -/
structure PrintAt (w : World) (g : Nat) (k : Int) (s : ByteArray) : Prop where
  c0 : w.cell? ⟨g, 0, none⟩ = some (.int .i64 k)
  c1 : w.cell? ⟨g, 1, none⟩ = some (.string s)
  f0 : w.frozen? ⟨g, 0, none⟩ = false
  f1 : w.frozen? ⟨g, 1, none⟩ = false
theorem PrintAt.new (w : World) (k : Int) (s : ByteArray) : PrintAt (w.alloc (.cells #[.int .i64 k, .string s] 24)) w.heap.size k s := by
  have hb := heap_alloc_new w (.cells #[.int .i64 k, .string s] 24)
  exact ⟨cell_of_row _ _ 0 _ _ (0, 0) hb, cell_of_row _ _ 1 _ _ (0, 0) hb, frozen_of_row _ _ 0 _ _ hb, frozen_of_row _ _ 1 _ _ hb⟩
theorem PrintAt.lt {w : World} {g : Nat} {k : Int} {s : ByteArray} (h : PrintAt w g k s) : g < w.heap.size := World.block_lt_of_cell? w _ h.c0
theorem PrintAt.below {w w1 : World} {g : Nat} {k : Int} {s : ByteArray} (h : PrintAt w g k s) (hb : Below w.heap.size w w1) : PrintAt w1 g k s :=
  have hT := Touched.of_below hb []
  ⟨(hT.cell h.lt (by simp)).trans h.c0, (hT.cell h.lt (by simp)).trans h.c1, (hT.free h.lt (by simp)).trans h.f0, (hT.free h.lt (by simp)).trans h.f1⟩
theorem PrintAt.touched {w w1 : World} {g : Nat} {k : Int} {s : ByteArray} {bs : List Nat} (h : PrintAt w g k s) (hT : Touched w w1 bs) (hn : g ∉ bs) : PrintAt w1 g k s :=
  ⟨(hT.cell h.lt hn).trans h.c0, (hT.cell h.lt hn).trans h.c1, (hT.free h.lt hn).trans h.f0, (hT.free h.lt hn).trans h.f1⟩
theorem PrintAt.drew {w : World} {g : Nat} {k : Int} {s : ByteArray} (h : PrintAt w g k s) : PrintAt w.drew g k s := ⟨h.c0, h.c1, h.f0, h.f1⟩
theorem PrintAt.set {w : World} {g : Nat} {k : Int} {s : ByteArray} (h : PrintAt w g k s) (k' : Int) (s' : ByteArray) : PrintAt ((w.setCell ⟨g, 0, none⟩ (.int .i64 k')).setCell ⟨g, 1, none⟩ (.string s')) g k' s' := by
  have h1 : (w.setCell ⟨g, 0, none⟩ (.int .i64 k')).cell? ⟨g, 1, none⟩ = some (.string s) := (World.cell?_setCell_other w ⟨g, 0, none⟩ ⟨g, 1, none⟩ _ (by simp)).trans h.c1
  refine ⟨?_, World.cell?_setCell_same' _ _ _ (by rw [h1]; simp), ?_, ?_⟩
  · refine (World.cell?_setCell_other _ ⟨g, 1, none⟩ ⟨g, 0, none⟩ _ (by simp)).trans ?_
    exact World.cell?_setCell_same' w _ _ (by rw [h.c0]; simp)
  · rw [World.frozen?_setCell, World.frozen?_setCell]; exact h.f0
  · rw [World.frozen?_setCell, World.frozen?_setCell]; exact h.f1
theorem PrintAt.setSum {w : World} {g : Nat} {k : Int} {s : ByteArray} (h : PrintAt w g k s) (s' : ByteArray) : PrintAt (w.setCell ⟨g, 1, none⟩ (.string s')) g k s' :=
  ⟨(World.cell?_setCell_other w ⟨g, 1, none⟩ ⟨g, 0, none⟩ _ (by simp)).trans h.c0, World.cell?_setCell_same' w _ _ (by rw [h.c1]; simp), by rw [World.frozen?_setCell]; exact h.f0, by rw [World.frozen?_setCell]; exact h.f1⟩

def ofM (k : Int) (l : List ByteArray) : Int × ByteArray × Int := if k = 1 then (1, sumB l, 0) else if k = 2 then (2, sum2B l, 0) else (0, ByteArray.empty, 1)
theorem of_calls (k : Int) (A : Option Addr) (n c : Nat) (l : List ByteArray) (w : World) (hl : l.length = n) (hc : n ≤ c) (hn : n ≤ 140737488355328) (hs : totalLen l ≤ 1000000) (hR : RowAt w A (scells l)) :
    Calls Tryd.prog 7 #[.int .i64 k, .slice A n c] w fun e w' => e = .returned (.tuple #[.agg #[.int .i64 (ofM k l).1, .string (ofM k l).2.1], .int .i64 (ofM k l).2.2]) ∧ Below w.heap.size w w' := by
  have HP : Box _ := ⟨PrintAt.new w 0 ByteArray.empty⟩
  have hB0 := bel_alloc (Below.refl w.heap.size w) (.cells #[.int .i64 0, .string ByteArray.empty] 24)
  have HB0 : Box _ := ⟨hB0⟩
  have H1 : Box _ := ⟨oneSum_calls A n c l _ hl hc hn hs (hR.below hB0)⟩
  have H2 : Box _ := ⟨twoSum_calls A n c l _ hl hc hn hs (hR.below hB0)⟩
  clear hB0 hR
  by_cases h1 : k = 1
  · subst h1
    have e : ofM 1 l = (1, sumB l, 0) := by rw [ofM, if_pos rfl]
    rw [e]
    rw [show (⟨(oneSum (joinB l).data.toList).toArray⟩ : ByteArray) = sumB l from rfl] at H1
    clear e H2
    go_enter Tryd.func7, Tryd.ntmps7
    go_wp2_with fail
    refine H1.out.mono ?_
    rintro e w1 ⟨rfl, hb⟩
    have HP1 : Box _ := ⟨HP.out.below hb⟩
    have HB1 : Box _ := ⟨bel_calls HB0.out hb⟩
    have c0 := HP1.out.c0
    have c1 := HP1.out.c1
    have f0 := HP1.out.f0
    have f1 := HP1.out.f1
    clear hb
    go_wp2_with fail
    have HP2 := HP1.out.set 1 (sumB l)
    refine bodyPost_ret (results_cell_tmp rfl _ _ w.heap.size [.int .i64 1, .string (sumB l)] _ rfl (range_two HP2.c0 HP2.c1) Tryd.underlying24 rfl (by kernel_rfl)) rfl ?_
    exact ⟨rfl, (HB1.out.setCell (by simp) _).setCell (by simp) _⟩
  by_cases h2 : k = 2
  · subst h2
    have e : ofM 2 l = (2, sum2B l, 0) := by rw [ofM, if_neg h1, if_pos rfl]
    rw [e]
    rw [show (⟨(twoSum (joinB l).data.toList).toArray⟩ : ByteArray) = sum2B l from rfl] at H2
    clear e H1
    go_enter Tryd.func7, Tryd.ntmps7
    go_wp2_with fail
    refine H2.out.mono ?_
    rintro e w1 ⟨rfl, hb⟩
    have HP1 : Box _ := ⟨HP.out.below hb⟩
    have HB1 : Box _ := ⟨bel_calls HB0.out hb⟩
    have c0 := HP1.out.c0
    have c1 := HP1.out.c1
    have f0 := HP1.out.f0
    have f1 := HP1.out.f1
    clear hb
    go_wp2_with fail
    have HP2 := HP1.out.set 2 (sum2B l)
    refine bodyPost_ret (results_cell_tmp rfl _ _ w.heap.size [.int .i64 2, .string (sum2B l)] _ rfl (range_two HP2.c0 HP2.c1) Tryd.underlying24 rfl (by kernel_rfl)) rfl ?_
    exact ⟨rfl, (HB1.out.setCell (by simp) _).setCell (by simp) _⟩
  have e : ofM k l = (0, ByteArray.empty, 1) := by rw [ofM, if_neg h1, if_neg h2]
  rw [e]
  have z1 : (k == 1) = false := by simpa using h1
  have z2 : (k == 2) = false := by simpa using h2
  clear e h1 h2 H1 H2
  go_enter Tryd.func7, Tryd.ntmps7
  go_wp2_with fail
  refine bodyPost_ret (results_cell_tmp rfl _ _ w.heap.size [.int .i64 0, .string ByteArray.empty] _ rfl (range_two HP.out.c0 HP.out.c1) Tryd.underlying24 rfl (by kernel_rfl)) rfl ?_
  exact ⟨rfl, HB0.out⟩
end Go.Proofs.YtbkankpfkbafdaaDoor

/- mark: Hash, Text; the document's Hash, Compare, Print. -/
namespace Go.Proofs.YtbkankpfkbafdaaDoor
open Go.RowKit
set_option linter.unusedVariables false

def hashM (s : ByteArray) : Int := (lowI 0 s 2).1
theorem hash_calls (k : Int) (s : ByteArray) (w : World) (hs : s.size ≤ 1000000000) : Calls Tryd.prog 22 #[.agg #[.int .i64 k, .string s]] w fun e w' => e = .returned (.int .i64 (hashM s)) ∧ Below w.heap.size w w' := by
  have HO : Box (∀ W, Below w.heap.size w W → _) := ⟨fun W h => on_in (w0 := w) (w := W) s h⟩
  have HI : Box (∀ W g, InI w W g (0, s) → _) := ⟨fun W g h => inHalf_in (w0 := w) h hs⟩
  rw [show (lowI (0, s).1 (0, s).2 2).1 = hashM s from rfl] at HI
  have HB0 := bel_alloc (Below.refl w.heap.size w) (.cells #[.int .i64 k, .string s] 24)
  obtain ⟨x, hx⟩ : ∃ x, hashM s = x := ⟨_, rfl⟩
  rw [hx] at HI ⊢
  clear hx
  have HBB : Box _ := ⟨HB0⟩
  clear HB0
  go_enter Tryd.func22, Tryd.ntmps22
  go_wp2_with fail
  refine (HO.out _ HBB.out).mono ?_
  rintro e w1 ⟨g, rfl, h1⟩
  have H1 : Box _ := ⟨h1⟩
  clear h1
  go_wp2_with fail
  refine (HI.out _ _ H1.out).mono ?_
  rintro e w2 ⟨rfl, h2⟩
  have HB2 : Box _ := ⟨h2.bel⟩
  clear h2
  go_wp2_with fail
  go_ret
  exact ⟨rfl, HB2.out⟩
theorem hash_short (s : ByteArray) (h : s.size < 2) : hashM s = 0 := by rw [hashM, lowI_short s 2 h]
theorem hash_two (s : ByteArray) (h : 2 ≤ s.size) : hashM s = (s[0].toNat : Int) + (256 : Int) * (s[1].toNat : Int) := by
  have hl : s.data.toList.length = s.size := data_length s
  match hh : s.data.toList, hl with
  | [], hl => simp at hl; omega
  | [_], hl => simp at hl; omega
  | a :: b :: r, hl =>
    have e : s = ⟨([a, b] ++ r).toArray⟩ := by rw [← mk_data s, hh]; rfl
    have h2 := rawI_ok [a, b] r 2 rfl
    have e3 : numL [a, b] = a.toNat + 256 * b.toNat := by simp [numL]
    have ha := a.toNat_lt
    have hb := b.toNat_lt
    subst e
    rw [hashM, lowI, h2]
    simp only [e3]
    rw [if_neg (by omega)]
    show ((a.toNat + 256 * b.toNat : Nat) : Int) = (a.toNat : Int) + 256 * (b.toNat : Int)
    omega
theorem refHash_calls (k : Int) (s : ByteArray) (w : World) : Calls Tryd.prog 23 #[.agg #[.int .i64 k, .string s]] w fun e w' => e = .returned (.int .i64 (hashM s)) ∧ Below w.heap.size w w' := by
  by_cases h : s.size < 2
  · rw [hash_short s h]
    have h1 : (s.size : Int) < 2 := by omega
    go_enter Tryd.func23, Tryd.ntmps23
    go_wp2_with fail
    go_ret
    exact ⟨rfl, bel_alloc (Below.refl _ _) _⟩
  · replace h : 2 ≤ s.size := by omega
    have HE : Box _ := ⟨hash_two s h⟩
    have h0 : 0 < s.size := by omega
    have h00 : 1 < s.size := by omega
    have h1 : (2 : Int) ≤ (s.size : Int) := by omega
    have h2 : (1 : Int) < (s.size : Int) := by omega
    have h3 : (0 : Int) < (s.size : Int) := by omega
    have hu0 := s[0].toNat_lt
    have hu1 := s[1].toNat_lt
    have y0 : (s[1].toNat : Int) ≤ 255 := by omega
    have y1 : (s[0].toNat : Int) ≤ 255 := by omega
    have x1 := IntWalk.i64_in ((256 : Int) * (s[1].toNat : Int)) (by omega)
    have x2 := IntWalk.i64_in ((s[0].toNat : Int) + (256 : Int) * (s[1].toNat : Int)) (by omega)
    clear hu0 hu1
    go_enter Tryd.func23, Tryd.ntmps23
    go_wp2_with fail
    go_big_quiet (fail)
    go_wp2
    go_ret
    exact ⟨by rw [HE.out]; rfl, below_drewN (bel_alloc (Below.refl _ _) _) _⟩
theorem refCmp_calls (k1 : Int) (s1 : ByteArray) (k2 : Int) (s2 : ByteArray) (w : World) :
    Calls Tryd.prog 21 #[.agg #[.int .i64 k1, .string s1], .agg #[.int .i64 k2, .string s2]] w fun e w' => e = .returned (.int .i64 (cmpM k1 s1 k2 s2)) ∧ Below w.heap.size w w' := by
  rcases cmpM_cases k1 s1 k2 s2 with ⟨h, e⟩ | ⟨h, e⟩ | ⟨h, e⟩
  · rw [e]
    clear e
    go_enter Tryd.func21, Tryd.ntmps21
    go_wp2_with fail
    go_ret
    exact ⟨rfl, bel_alloc (bel_alloc (Below.refl _ _) _) _⟩
  · subst h
    rw [e]
    clear e
    by_cases he : s1 = s2
    · subst he
      have hl := less_irrefl s1.toList
      rw [cmpS_self]
      go_enter Tryd.func21, Tryd.ntmps21
      go_wp2_with fail
      go_ret
      exact ⟨rfl, bel_alloc (bel_alloc (Below.refl _ _) _) _⟩
    · have hq := str_ne he
      cases hl : Op.bytesLess s1.toList s2.toList
      · rw [cmpS_gt hl he]
        clear he
        go_enter Tryd.func21, Tryd.ntmps21
        go_wp2_with fail
        go_ret
        exact ⟨rfl, bel_alloc (bel_alloc (Below.refl _ _) _) _⟩
      · rw [cmpS_lt hl]
        clear he
        go_enter Tryd.func21, Tryd.ntmps21
        go_wp2_with fail
        go_ret
        exact ⟨rfl, bel_alloc (bel_alloc (Below.refl _ _) _) _⟩
  · rw [e]
    have h2 : ¬ k1 < k2 := by omega
    have h3 : (k1 == k2) = false := by simp; omega
    clear e
    go_enter Tryd.func21, Tryd.ntmps21
    go_wp2_with fail
    go_ret
    exact ⟨rfl, bel_alloc (bel_alloc (Below.refl _ _) _) _⟩
/-- The document's fingerprint of a text: of any other kind it is the second digest. -/
def refPrintM (k : Int) (s : ByteArray) : ByteArray := if k = 1 then sumB [s] else sum2B [s]
theorem joinB_single (s : ByteArray) : joinB [s] = s := by simp [joinB]
theorem refPrint_calls (k : Int) (s : ByteArray) (w : World) (hs : s.size ≤ 1000000) : Calls Tryd.prog 14 #[.int .i64 k, .string s] w fun e w' => e = .returned (.agg #[.int .i64 k, .string (refPrintM k s)]) ∧ Below w.heap.size w w' := by
  have HP : Box _ := ⟨PrintAt.new w 0 ByteArray.empty⟩
  have HB0 : Box _ := ⟨bel_alloc (Below.refl w.heap.size w) (.cells #[.int .i64 0, .string ByteArray.empty] 24)⟩
  have H1 : Box (∀ W, Calls Tryd.prog 42 #[.string s] W fun e w' => e = .returned (.string (sumB [s])) ∧ Below W.heap.size W w') := ⟨fun W => by rw [sumB, joinB_single]; exact refOne_calls s W hs⟩
  have H2 : Box (∀ W, Calls Tryd.prog 43 #[.string s] W fun e w' => e = .returned (.string (sum2B [s])) ∧ Below W.heap.size W w') := ⟨fun W => by rw [sum2B, joinB_single]; exact refTwo_calls s W hs⟩
  obtain ⟨p, hp⟩ : ∃ p, sumB [s] = p := ⟨_, rfl⟩
  obtain ⟨q, hq⟩ : ∃ q, sum2B [s] = q := ⟨_, rfl⟩
  rw [refPrintM, hp, hq]
  rw [hp] at H1
  rw [hq] at H2
  clear hp hq
  by_cases h1 : k = 1
  · subst h1
    rw [if_pos rfl]
    clear H2
    go_enter Tryd.func14, Tryd.ntmps14
    go_wp2_with fail
    refine (H1.out _).mono ?_
    rintro e w1 ⟨rfl, hb⟩
    have HP1 : Box _ := ⟨HP.out.below hb⟩
    have HB1 : Box _ := ⟨bel_calls HB0.out hb⟩
    have c0 := HP1.out.c0
    have c1 := HP1.out.c1
    have f0 := HP1.out.f0
    have f1 := HP1.out.f1
    clear hb
    go_wp2_with fail
    have HP2 := HP1.out.set 1 p
    refine bodyPost_ret (results_cell_mid rfl _ _ w.heap.size [.int .i64 1, .string p] _ rfl (range_two HP2.c0 HP2.c1) Tryd.underlying24 rfl (by kernel_rfl)) rfl ?_
    exact ⟨rfl, (HB1.out.setCell (by simp) _).setCell (by simp) _⟩
  · rw [if_neg h1]
    have z1 : (k == 1) = false := by simpa using h1
    clear H1 h1
    go_enter Tryd.func14, Tryd.ntmps14
    go_wp2_with fail
    refine (H2.out _).mono ?_
    rintro e w1 ⟨rfl, hb⟩
    have HP1 : Box _ := ⟨HP.out.below hb⟩
    have HB1 : Box _ := ⟨bel_calls HB0.out hb⟩
    have c0 := HP1.out.c0
    have c1 := HP1.out.c1
    have f0 := HP1.out.f0
    have f1 := HP1.out.f1
    clear hb
    go_wp2_with fail
    have HP2 := HP1.out.set k q
    refine bodyPost_ret (results_cell_mid rfl _ _ w.heap.size [.int .i64 k, .string q] _ rfl (range_two HP2.c0 HP2.c1) Tryd.underlying24 rfl (by kernel_rfl)) rfl ?_
    exact ⟨rfl, (HB1.out.setCell (by simp) _).setCell (by simp) _⟩
end Go.Proofs.YtbkankpfkbafdaaDoor
