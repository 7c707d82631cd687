/- Words and contracts that this claim leans on, one text behind the other. -/
import Derived.Test.YtiocealhadlggaaBundle1
import Derived.Test.YtiocealhadlggaaShelf
import Derived.Test.YtiocealhadlggaaMix
import Derived.Deep.OwnRows
import Derived.Deep.RegionLaw
import Derived.RegionTactic
import Derived.Deep.MidRow
import Derived.Deep.RegionHeld3
import Derived.Lib.AppendStr
import Derived.Deep.RegionHeldLaw
/- What the library's strings.Builder and strings.Join do, over rows and lists of texts. -/
namespace Go.Proofs.Ytiocealhadlggaa
open Go.RowKit
set_option linter.unusedVariables false

/-- A builder of the call's own that holds these bytes. -/
def Bld (w : World) (B b : Nat) (l : List UInt8) : Prop := Lib.IsBuilder 95 5 B b (bcells l) w
theorem Bld.below {w w' : World} {B b : Nat} {l : List UInt8} (h : Bld w B b l) (hb : Below w.heap.size w w') : Bld w' B b l := by
  have key : ∀ p, Lib.BuilderAt 95 5 B b p (bcells l) w → Lib.BuilderAt 95 5 B b p (bcells l) w' := by
    rintro p ⟨h1, v, h2, h3, h4⟩
    exact ⟨h1, v, (hb.block b (Array.getElem?_eq_some_iff.1 h2).1).trans h2, own_below h3 hb, h4⟩
  rcases h with h | h
  · exact .inl (key _ h)
  · exact .inr (key _ h)
theorem Bld.fresh (w : World) : Bld (w.alloc (.cells #[.pointer none, .slice none 0 0] 95)) w.heap.size w.heap.size [] := Lib.fresh_isBuilder _ _ w

theorem join_nosep (l : List (List UInt8)) : Lib.join l [] = l.flatten := by
  cases l with
  | nil => rfl
  | cons x r => rw [Lib.join_cons]; simp [Lib.joinTail]

/-- strings.Join(l, ""). -/
theorem stringsJoin_calls (A : Option Addr) (n c : Nat) (l : List ByteArray) (w : World) (hl : l.length = n) (hc : n ≤ c) (hn : n ≤ 140737488355328) (hs : totalLen l ≤ 140737488351232) (hR : RowAt w A (scells l)) :
    Calls Try.prog 35 #[.slice A n c, .string ⟨#[]⟩] w fun e w' => e = .returned (.string (joinB l)) ∧ Below w.heap.size w w' := by
  subst hl
  by_cases h0 : l = []
  · subst h0
    refine (Try.strings_Join_none A c ⟨#[]⟩ w).mono ?_
    rintro e w' ⟨rfl, rfl⟩
    exact ⟨rfl, Below.refl _ _⟩
  · obtain ⟨b, o, rfl, hb, hcell⟩ := hR.addr (by simpa [scells] using h0)
    have e1 : Lib.join (l.map (·.data.toList)) [] = (joinB l).data.toList := by
      rw [join_nosep]
      have key : ∀ (l : List ByteArray) (a : ByteArray), (l.foldl (· ++ ·) a).data.toList = a.data.toList ++ (l.map (·.data.toList)).flatten := by
        intro l
        induction l with
        | nil => intro a; simp
        | cons s l ih => intro a; rw [List.foldl_cons, ih]; simp [ByteArray.data_append]
      have := key l ByteArray.empty
      simpa [joinB] using this.symm
    refine (Try.strings_Join b o c l ⟨#[]⟩ w (fun j x hx => hcell j _ (scells_at hx)) hb hn hc ?_).mono ?_
    · rw [show (⟨#[]⟩ : ByteArray).data.toList = [] from rfl, e1, data_length]
      have := joinB_size l
      omega
    · rintro e w' ⟨rfl, h⟩
      refine ⟨ret_str ?_, h⟩
      rw [show (⟨#[]⟩ : ByteArray).data.toList = [] from rfl, e1, mk_data]

end Go.Proofs.Ytiocealhadlggaa

/- shaone: bytes of a number, what stands behind bytes; and the reference's. -/
namespace Go.Proofs.Ytiocealhadlggaa
open Go.RowKit
set_option linter.unusedVariables false

theorem el_u8 : El Try.prog 91 5 1 1 := El.mk' Try.underlying91 (z := .int .u8 0) (by kernel_rfl) (by decide)
/-- make([]byte, n). -/
theorem make_u8 (n : Nat) (hn : n ≤ 281474976710656) (W : World) : (Instr.makeSlice 91 (.int .i64 (n : Int)) (.int .i64 (n : Int))).run Try.prog W = .ok (.slice (some ⟨W.heap.size, 0, none⟩) n n) (W.alloc (.cells (bcells (List.replicate n 0)).toArray 5)) := by
  have h := run_make_row' (P := Try.prog) 91 5 (.int .u8 0) 1 Try.underlying91 (by kernel_rfl) rfl .i64 .i64 n (by omega) (by omega) W
  have e : madeCells #[.int .u8 0] n = (bcells (List.replicate n 0)).toArray := by
    apply Array.toList_inj.mp
    rw [toList_madeCells_one]
    simp [bcells]
  rw [e] at h
  exact h
theorem zeros_own (W : World) (n : Nat) (hn : n ≤ maxLen) : Own (W.alloc (.cells (bcells (List.replicate n 0)).toArray 5)) W.heap.size 1 (.slice (some ⟨W.heap.size, 0, none⟩) n n) n (bcells (List.replicate n 0)) := by
  have h := Own.fresh W (bcells (List.replicate n 0)).toArray 5 (by simpa [bcells] using hn)
  simpa [bcells] using h

/-- The bytes of a number, the highest one first. -/
def hiB (v n i : Nat) : UInt8 := UInt8.ofNat (v / 2 ^ (8 * (n - 1 - i)))
def hiL (v n : Nat) : List UInt8 := (List.range n).map (hiB v n)
def hiG (v n k : Nat) : List UInt8 := (List.range n).map fun i => if i < k then hiB v n i else 0
theorem hiG_zero (v n : Nat) : hiG v n 0 = List.replicate n 0 := by
  apply List.ext_getElem?; intro i; by_cases h : i < n <;> simp [hiG, h]
theorem hiG_full (v n : Nat) : hiG v n n = hiL v n := by
  unfold hiG hiL; apply List.map_congr_left; intro i hi; rw [if_pos (List.mem_range.1 hi)]
theorem hiG_set (v n k : Nat) (h : k < n) : (bcells (hiG v n k)).set k (.int .u8 ((hiB v n k).toNat : Int)) = bcells (hiG v n (k + 1)) := by
  apply List.ext_getElem?
  intro i
  rw [List.getElem?_set]
  by_cases hi : i < n
  · by_cases e : k = i
    · subst e; simp [bcells, hiG, hi]
    · rw [if_neg e]
      have : (i < k) ↔ (i < k + 1) := by omega
      simp [bcells, hiG, hi, this]
  · have e : ¬ k = i := by omega
    rw [if_neg e]
    simp [bcells, hiG, hi]
theorem hiG_length (v n k : Nat) : (hiG v n k).length = n := by simp [hiG]
theorem hiL_length (v n : Nat) : (hiL v n).length = n := by simp [hiL]
theorem hiB_val (v n i : Nat) : ((v : Int) / 2 ^ (8 * (n - 1 - i))) % 256 = ((hiB v n i).toNat : Int) := by
  have e : ((2 : Int) ^ (8 * (n - 1 - i))) = ((2 ^ (8 * (n - 1 - i)) : Nat) : Int) := (Int.natCast_pow 2 _).symm
  rw [hiB, e, ← Int.natCast_ediv]
  generalize v / 2 ^ (8 * (n - 1 - i)) = q
  simp

set_option maxHeartbeats 800000 in
theorem high_calls (v n : Nat) (w : World) (hn : n ≤ 8) (_hv : v < 18446744073709551616) : Calls Try.prog 38 #[.int .u64 (v : Int), .int .i64 (n : Int)] w fun e w' => e = .returned (.string ⟨(hiL v n).toArray⟩) ∧ Below w.heap.size w w' := by
  have hmk := fun W => make_u8 n (by omega) W
  have HO := Lib.hid (zeros_own w n (by unfold maxLen; omega))
  rw [← hiG_zero v n] at HO
  go_enter Try.func38, Try.ntmps38
  go_wp2
  go_loopw [11] (fun i wr => ∃ k : Nat, k ≤ n ∧ i = .int .i64 k ∧ Hid (Own wr w.heap.size 1 (.slice (some ⟨w.heap.size, 0, none⟩) n n) n (bcells (hiG v n k))) ∧ Hid (Below w.heap.size w wr)) (fun i _ => n - (intOf i).toNat)
  case atStart => exact ⟨0, by omega, rfl, by rw [hiG_zero] at *; exact HO.out, (Below.refl _ _).alloc (Nat.le_refl _) _⟩
  case round =>
    obtain ⟨k, hk, rfl, HN, HW⟩ := hrel
    by_cases hlt : k < n
    · obtain ⟨u, hu⟩ := some_at (l := hiG v n k) (k := k) (by rw [hiG_length]; exact hlt)
      obtain ⟨c0, f0⟩ := HN.out.cell (bcells_at hu)
      clear hu
      have y1 := IntWalk.i64_in ((n : Int) - 1) (by omega)
      have y2 := IntWalk.i64_in ((n : Int) - 1 - (k : Int)) (by omega)
      have y3 := IntWalk.i64_in (8 * ((n : Int) - 1 - (k : Int))) (by omega)
      have y4 : (8 * ((n : Int) - 1 - (k : Int))).toNat = 8 * (n - 1 - k) := by omega
      have y5 : (0 : Int) ≤ 8 * ((n : Int) - 1 - (k : Int)) := by omega
      go_wp2
      go_roundw
      case rel =>
        have g := HN.out.set k (by rw [bcells, List.length_map, hiG_length]; exact hlt) (.int .u8 ((hiB v n k).toNat : Int))
        rw [hiG_set v n k hlt] at g
        refine ⟨k + 1, by omega, by go_num, ?_, ?_⟩
        · rw [hiB_val]; exact g.1
        · rw [hiB_val]; exact HW.out.setCell (by simp) _
      case measure => simp [intOf]; omega
    · obtain rfl : k = n := by omega
      have hcv := bytes_str Try.prog 91 5 9 Try.underlying91 Try.underlying5 Try.underlying9 (some ⟨w.heap.size, 0, none⟩) k k (hiG v k k) wr (hiG_length _ _ _) (by
        obtain ⟨A, c, e, _, hr, _⟩ := HN.out.slice
        injection e with e1 e2 e3
        subst e1
        exact hr)
      go_wp2
      go_ret
      exact ⟨ret_str (by rw [hiG_full]), HW.out⟩

set_option maxHeartbeats 800000 in
theorem refHigh_calls (v n : Nat) (w : World) (hn : n ≤ 8) (_hv : v < 18446744073709551616) : Calls Try.prog 31 #[.int .u64 (v : Int), .int .i64 (n : Int)] w fun e w' => e = .returned (.string ⟨(hiL v n).toArray⟩) ∧ Below w.heap.size w w' := by
  go_enter Try.func31, Try.ntmps31
  go_wp2
  go_loopw [5, 6] (fun x i wr => ∃ (k : Nat) (c : Int), k ≤ n ∧ i = .int .i64 c ∧ Hid (c = (n : Int) - 1 - (k : Int)) ∧ Hid (Own wr w.heap.size 1 x k (bcells ((hiL v n).take k))) ∧ Hid (Below w.heap.size w wr)) (fun _ i _ => (intOf i + 1).toNat)
  case atStart => exact ⟨0, (n : Int) - 1, by omega, rfl, by simp [Hid], by rw [Hid]; simpa [bcells] using Own.nil _ _ _, Below.refl _ _⟩
  case round =>
    obtain ⟨k, c, hk, rfl, HC, HN, HW⟩ := hrel
    by_cases hlt : k < n
    · obtain rfl := HC.out
      have HX : Hid ((hiL v n).take (k + 1) = (hiL v n).take k ++ [hiB v n k]) := take_snoc_of (by simp [hiL, hlt])
      have y3 := IntWalk.i64_in (8 * ((n : Int) - 1 - (k : Int))) (by omega)
      have y4 : (8 * ((n : Int) - 1 - (k : Int))).toNat = 8 * (n - 1 - k) := by omega
      have y5 : (0 : Int) ≤ 8 * ((n : Int) - 1 - (k : Int)) := by omega
      have y6 : (0 : Int) ≤ (n : Int) - 1 - (k : Int) := by omega
      have HV := hiB_val v n k
      go_wp2_with (at_builtin; refine appO el_u8 w.heap.size rfl _ _ rfl rfl (HN.out.alloc _) (news := bcells [hiB v n k]) rfl rfl (by rw [← HV] ; exact rowAt_alloc _ _ _) (one_bcells _) (by omega) (by have := HW.out.size; simp; omega) ?_; intro v1 w3 hown1 hg1 _; have HO3 : Hid (Own w3 w.heap.size 1 v1 (k + 1) (bcells ((hiL v n).take (k + 1)))) := (by rw [HX.out, bcells, List.map_append]; exact hown1); have HB3 : Hid (Below w.heap.size w w3) := Own.grown_below (HN.out.alloc _) (HW.out.alloc HW.out.size _) hg1 (Nat.le_refl _); clear hown1 hg1)
      go_roundw
      case rel => exact ⟨k + 1, (n : Int) - 1 - (k : Int) - 1, by omega, rfl, by rw [Hid]; omega, HO3, HB3⟩
      case measure => simp [intOf]; omega
    · obtain rfl : k = n := by omega
      obtain rfl : c = -1 := by have := HC.out; omega
      obtain ⟨A, c, rfl, _, hr, _⟩ := HN.out.slice
      rw [List.take_of_length_le (by rw [hiL_length]; omega)] at hr
      have hcv := bytes_str Try.prog 91 5 9 Try.underlying91 Try.underlying5 Try.underlying9 A k c (hiL v k) wr (hiL_length _ _) hr
      clear hr
      go_wp2
      go_ret
      exact ⟨rfl, HW.out⟩

/-- So many zero bytes. -/
def zerosB (n : Nat) : ByteArray := ⟨(List.replicate n (0 : UInt8)).toArray⟩
theorem zerosB_size (n : Nat) : (zerosB n).size = n := by simp [zerosB, ByteArray.size]
theorem zeros_calls (n : Nat) (w : World) (hn : n ≤ 140737488355328) : Calls Try.prog 40 #[.int .i64 (n : Int)] w fun e w' => e = .returned (.string (zerosB n)) ∧ Below w.heap.size w w' := by
  have hmk := fun W => make_u8 n (by omega) W
  have hO := zeros_own w n (by unfold maxLen; omega)
  have hcv := bytes_str Try.prog 91 5 9 Try.underlying91 Try.underlying5 Try.underlying9 (some ⟨w.heap.size, 0, none⟩) n n (List.replicate n 0) _ (by simp) (by
        obtain ⟨A, c, e, _, hr, _⟩ := hO.slice
        injection e with e1 e2 e3
        subst e1
        exact hr)
  clear hO
  go_enter Try.func40, Try.ntmps40
  go_wp2
  go_ret
  exact ⟨rfl, (Below.refl _ _).alloc (Nat.le_refl _) _⟩

theorem hiL8 (n : Nat) : hiL n 8 = hi8 n := by
  simp [hiL, hi8, hiB, List.range_succ]
theorem hiL4 (x : BitVec 32) : hiL x.toNat 4 = hi4 x := by
  simp [hiL, hi4, hiB, List.range_succ]
/-- What stands behind so many bytes. -/
def padB (n : Int) : ByteArray := if n < 0 ∨ 1099511627776 < n then ByteArray.empty else ⟨(padL n.toNat).toArray⟩
theorem app_mk (a b : List UInt8) : (⟨a.toArray⟩ : ByteArray) ++ ⟨b.toArray⟩ = ⟨(a ++ b).toArray⟩ := by
  apply ByteArray.ext
  rw [ByteArray.data_append]
  simp
theorem repeatL_one (b : UInt8) (n : Nat) : Lib.repeatL [b] n = List.replicate n b := by
  induction n with
  | zero => rfl
  | succ n ih => rw [List.replicate_succ, ← ih]; rfl

set_option maxHeartbeats 1600000 in
theorem pad_calls (n : Int) (w : World) : Calls Try.prog 36 #[.int .i64 n] w fun e w' => e = .returned (.string (padB n)) ∧ Below w.heap.size w w' := by
  by_cases h0 : n < 0
  · have e : padB n = ByteArray.empty := by rw [padB, if_pos (.inl h0)]
    rw [e]
    go_enter Try.func36, Try.ntmps36
    go_wp2
    go_ret
    exact ⟨rfl, Below.refl _ _⟩
  by_cases h1 : 1099511627776 < n
  · have e : padB n = ByteArray.empty := by rw [padB, if_pos (.inr h1)]
    rw [e]
    go_enter Try.func36, Try.ntmps36
    go_wp2
    go_ret
    exact ⟨rfl, Below.refl _ _⟩
  obtain ⟨m, rfl⟩ : ∃ m : Nat, n = (m : Int) := ⟨n.toNat, by omega⟩
  have e : padB (m : Int) = ⟨(padL m).toArray⟩ := by rw [padB, if_neg (by omega)]; rfl
  rw [e]
  clear e
  have hm : m ≤ 1099511627776 := by omega
  clear h0 h1
  obtain ⟨z, hz⟩ : ∃ z, (119 - m % 64) % 64 = z := ⟨_, rfl⟩
  have hz1 : (119 - (m : Int) % 64) % 64 = (z : Int) := by omega
  have hz2 : z < 64 := by omega
  have HZ := Lib.hid hz
  clear hz
  go_enter Try.func36, Try.ntmps36
  go_wp2_with fail
  refine (Try.strings_Repeat ⟨#[0]⟩ z _ (by omega) (by simp [ByteArray.size]; omega)).mono ?_
  rintro e w1 ⟨rfl, hb1⟩
  have HB1 := Lib.hid hb1; clear hb1
  have hr1 : (⟨(Lib.repeatL (⟨#[0]⟩ : ByteArray).data.toList z).toArray⟩ : ByteArray).size = z := by
    show (⟨(Lib.repeatL [0] z).toArray⟩ : ByteArray).size = z
    rw [repeatL_one]; simp [ByteArray.size]
  obtain ⟨r, hr⟩ : ∃ r, (⟨(Lib.repeatL (⟨#[0]⟩ : ByteArray).data.toList z).toArray⟩ : ByteArray) = r := ⟨_, rfl⟩
  rw [hr] at hr1 ⊢
  have HR := Lib.hid hr; clear hr
  have hr2 : r.size < 64 := by omega
  clear hr1
  go_wp2_with fail
  refine (high_calls (8 * m) 8 _ (by omega) (by omega)).mono ?_
  rintro e w2 ⟨rfl, hb2⟩
  have HB2 := Lib.hid (below_trans' HB1.out hb2); clear hb2
  have hq1 : (⟨(hiL (8 * m) 8).toArray⟩ : ByteArray).size = 8 := by simp [ByteArray.size, hiL_length]
  obtain ⟨q, hq⟩ : ∃ q, (⟨(hiL (8 * m) 8).toArray⟩ : ByteArray) = q := ⟨_, rfl⟩
  rw [hq] at hq1 ⊢
  have HQ := Lib.hid hq; clear hq
  have hq2 : q.size ≤ 8 := by omega
  clear hq1
  go_wp2
  go_ret
  refine ⟨ret_str ?_, HB2.out⟩
  rw [← HR.out, ← HQ.out, repeatL_one, show (⟨#[128]⟩ : ByteArray) = ⟨([128] : List UInt8).toArray⟩ from rfl, app_mk, app_mk, hiL8, padL, HZ.out]
  rfl

set_option maxHeartbeats 1600000 in
theorem refPad_calls (n : Int) (w : World) : Calls Try.prog 28 #[.int .i64 n] w fun e w' => e = .returned (.string (padB n)) ∧ Below w.heap.size w w' := by
  by_cases h0 : n < 0
  · have e : padB n = ByteArray.empty := by rw [padB, if_pos (.inl h0)]
    rw [e]
    go_enter Try.func28, Try.ntmps28
    go_wp2
    go_ret
    exact ⟨rfl, Below.refl _ _⟩
  by_cases h1 : 1099511627776 < n
  · have e : padB n = ByteArray.empty := by rw [padB, if_pos (.inr h1)]
    rw [e]
    go_enter Try.func28, Try.ntmps28
    go_wp2
    go_ret
    exact ⟨rfl, Below.refl _ _⟩
  obtain ⟨m, rfl⟩ : ∃ m : Nat, n = (m : Int) := ⟨n.toNat, by omega⟩
  have e : padB (m : Int) = ⟨(padL m).toArray⟩ := by rw [padB, if_neg (by omega)]; rfl
  rw [e]
  clear e
  have hm : m ≤ 1099511627776 := by omega
  clear h0 h1
  obtain ⟨z, hz⟩ : ∃ z, (119 - m % 64) % 64 = z := ⟨_, rfl⟩
  have hz1 : (119 - (m : Int) % 64) % 64 = (z : Int) := by omega
  have hz2 : z < 64 := by omega
  have HZ := Lib.hid hz
  clear hz
  go_enter Try.func28, Try.ntmps28
  go_wp2_with fail
  refine (zeros_calls z _ (by omega)).mono ?_
  rintro e w1 ⟨rfl, hb1⟩
  have HB1 := Lib.hid hb1; clear hb1
  have hr1 := zerosB_size z
  obtain ⟨r, hr⟩ : ∃ r, zerosB z = r := ⟨_, rfl⟩
  rw [hr] at hr1 ⊢
  have HR := Lib.hid hr; clear hr
  have hr2 : r.size < 64 := by omega
  clear hr1
  go_wp2_with fail
  refine (refHigh_calls (8 * m) 8 _ (by omega) (by omega)).mono ?_
  rintro e w2 ⟨rfl, hb2⟩
  have HB2 := Lib.hid (below_trans' HB1.out hb2); clear hb2
  have hq1 : (⟨(hiL (8 * m) 8).toArray⟩ : ByteArray).size = 8 := by simp [ByteArray.size, hiL_length]
  obtain ⟨q, hq⟩ : ∃ q, (⟨(hiL (8 * m) 8).toArray⟩ : ByteArray) = q := ⟨_, rfl⟩
  rw [hq] at hq1 ⊢
  have HQ := Lib.hid hq; clear hq
  have hq2 : q.size ≤ 8 := by omega
  clear hq1
  go_wp2
  go_ret
  refine ⟨ret_str ?_, HB2.out⟩
  rw [← HR.out, ← HQ.out, zerosB, show (⟨#[128]⟩ : ByteArray) = ⟨([128] : List UInt8).toArray⟩ from rfl, app_mk, app_mk, hiL8, padL, HZ.out]
  rfl

/-- An append as a step of a region that draws its order. -/
theorem step_appO {P : Program} {ops : Array Oper} {o : Oper} {a : Act} {K : Act → World → Prop} {Q : Exit → Act → World → Prop} {E' : Prop} {t e : TypeId} {size bytes : Nat} (E : El P t e size bytes) {W : World} (base : Nat) (hgd : o.guard = none) (s x : Operand)
    (ho : o.op = .call { callee := .builtin .append, args := #[s, x], argTypes := #[t, t] })
    {v : Value} {n : Nat} {xs : List Value} (hs : a.eval s = v) (hown : Own W base size v n xs)
    {A : Option Addr} {m c : Nat} {news : List Value} (hx : a.eval x = .slice A m c) (hl : news.length = m * size) (hR : RowAt W A news) (h1 : ∀ u ∈ news, u.oneCell' = true)
    (hbytes : (n + m) * bytes ≤ 140737488355328) (hbase : base ≤ W.heap.size)
    (h : ∀ v' w', Own w' base size v' (n + m) (xs ++ news) → W.grownBy w' v.ownBlock → (v'.ownBlock = v.ownBlock ∨ ∃ b, v'.ownBlock = some b ∧ W.heap.size ≤ b) → K (a.put o.dst v') w') :
    if Region.wanted o (yielded ops a.tmps) = true then Oper.wp P o a W K Q else E' := by
  have hw : Region.wanted o (yielded ops a.tmps) = true := by simp [Region.wanted, hgd]
  rw [if_pos hw]
  obtain ⟨v', w', hr, h2, h3, h4⟩ := run_appO E W base o.type v n xs hown A m c news hl hR h1 hbytes hbase
  unfold Oper.wp execOp
  simp only [ho, resolve, invoke, builtin, Sem.run_bind, Sem.run_pure, Result.andThen_ok, List.map_toArray, List.map_cons, List.map_nil, hs, hx, hr]
  exact h v' w' h2 h3 h4

theorem RowAt.drew {w : World} {A : Option Addr} {cs : List Value} (h : RowAt w A cs) : RowAt w.drew A cs := h
/-- Bytes in digits. -/
def hexD (n : Nat) : UInt8 := if n < 10 then UInt8.ofNat (48 + n) else UInt8.ofNat (87 + n)
def hexL (l : List UInt8) : List UInt8 := l.flatMap fun b => [hexD (b.toNat / 16), hexD (b.toNat % 16)]
theorem hexL_snoc (l : List UInt8) (b : UInt8) : hexL (l ++ [b]) = hexL l ++ [hexD (b.toNat / 16), hexD (b.toNat % 16)] := by simp [hexL]
theorem hexL_length (l : List UInt8) : (hexL l).length = 2 * l.length := by
  induction l with
  | nil => rfl
  | cons b l ih => simp only [hexL, List.flatMap_cons, List.length_append, List.length_cons, List.length_nil] at *; omega
def hexDigits : ByteArray := ⟨#[48, 49, 50, 51, 52, 53, 54, 55, 56, 57, 97, 98, 99, 100, 101, 102]⟩
theorem hexD_at (n : Nat) (h : n < hexDigits.size) : hexDigits[n] = hexD n := by
  have h' : n < 16 := h
  revert h
  have : ∀ m : Fin 16, ∀ h : m.val < hexDigits.size, hexDigits[m.val] = hexD m.val := by decide
  intro h
  exact this ⟨n, h'⟩ h
theorem hexD_lit (q : Nat) (h : q < (⟨#[48, 49, 50, 51, 52, 53, 54, 55, 56, 57, 97, 98, 99, 100, 101, 102]⟩ : ByteArray).size) : (⟨#[48, 49, 50, 51, 52, 53, 54, 55, 56, 57, 97, 98, 99, 100, 101, 102]⟩ : ByteArray)[q] = hexD q := hexD_at q h

end Go.Proofs.Ytiocealhadlggaa

/- append onto a row of the call's own: that the old cells stay where they were is told too. -/
namespace Go.Proofs.Ytiocealhadlggaa
open Go.RowKit
set_option linter.unusedVariables false

/-- A fact that no tactic looks into. -/
structure Box (p : Prop) : Prop where
  out : p

theorem row_cell {w : World} {g j : Nat} {xs : List Value} {u : Value} (h : RowAt w (some ⟨g, 0, none⟩) xs) (hj : xs[j]? = some u) : w.cell? ⟨g, j, none⟩ = some u := by
  obtain ⟨ad, e, hc⟩ := h.get hj
  injection e with e
  subst e
  rwa [add0] at hc
/-- append(v, x...): v a row of one's own, x any row. -/
theorem run_appO2 {P : Program} {t e : TypeId} {size bytes : Nat} (E : El P t e size bytes) (W : World) (base : Nat) (ty : TypeId) (v : Value) (n : Nat) (xs : List Value) (hown : Own W base size v n xs)
    (A : Option Addr) (m c : Nat) (news : List Value) (hl : news.length = m * size) (hR : RowAt W A news) (h1 : ∀ u ∈ news, u.oneCell' = true)
    (hbytes : (n + m) * bytes ≤ 140737488355328) (hbase : base ≤ W.heap.size) :
    ∃ v' w', (Builtin.append_ #[t, t] ty #[v, .slice A m c]).run P W = .ok v' w' ∧ Own w' base size v' (n + m) (xs ++ news) ∧ W.grownBy w' v.ownBlock ∧ (v'.ownBlock = v.ownBlock ∨ ∃ b, v'.ownBlock = some b ∧ W.heap.size ≤ b) ∧ (∀ A c, v = .slice A n c → RowAt w' A xs) ∧ (v'.ownBlock ≠ v.ownBlock → Below W.heap.size W w') := by
  rcases hown.2 with ⟨rfl, rfl⟩ | ⟨g, cap, rfl, hb, hg, hn, hm, hc, hx⟩
  · obtain rfl : xs = [] := List.eq_nil_of_length_eq_zero (by simpa using hown.1)
    obtain ⟨v', w', hr, h2, h3, h4⟩ := run_app E W base ty (.slice none 0 0) 0 [] (World.ownsRow_nil _ _ _ _) A m c news hl hR h1 hbytes hbase
    refine ⟨v', w', hr, Own.of_row h2, h3, ?_, fun _ _ _ => .nil _ _, fun _ => ⟨h3.os, h3.tape, h3.output, h3.size, fun k hk => h3.block k hk (by simp [Value.ownBlock])⟩⟩
    rcases h4 with h4 | h4
    · exact .inl h4
    · exact .inr ⟨_, h4, Nat.le_refl _⟩
  · obtain ⟨ht, hsz, hb0, i, z, hi, hz, rfl, rfl, hzs⟩ := E
    have hlen : n + m ≤ 140737488355328 := Nat.le_trans (Nat.le_mul_of_pos_right _ hb0) hbytes
    rcases A with _ | ad
    · have hm0 : m = 0 := by
        rcases hR with rfl | ⟨ad, h, _⟩
        · rcases Nat.eq_zero_or_pos m with h0 | h0
          · exact h0
          · have := Nat.mul_pos h0 hsz
            simp at hl; omega
        · cases h
      subst hm0
      obtain rfl : news = [] := List.eq_nil_of_length_eq_zero (by simpa using hl)
      refine ⟨_, W, ?_, by simpa using hown, World.grownBy.refl W _, .inl rfl, fun A c he => ?_, fun _ => Below.refl _ _⟩
      rotate_left
      · obtain ⟨A', c', e', _, hr', _⟩ := hown.slice
        rw [he] at e'
        injection e' with e1 e2 e3
        subst e1
        exact hr'
      simp [Builtin.append_, run_underlying ht, sizeOf, typeInfo, hi, Builtin.lenOf, Builtin.firstCells, hn, storeCells]
    · have hcells : ∀ j u, news[j]? = some u → W.cell? (ad.add j) = some u := by
        intro j u hu
        obtain ⟨ad', h, hc⟩ := hR.get hu
        injection h with h
        subst h
        exact hc
      by_cases hroom : n + m ≤ cap
      · have hin : ∀ j, j < news.length → n * i.size + j < cap * i.size := by
          intro j hj
          rw [hl] at hj
          have := Nat.mul_le_mul_right i.size hroom
          rw [Nat.add_mul] at this
          omega
        have hr := run_append_room_cells (P := P) W t ty e i ht hi g 0 n cap ad m c news hl hcells h1 hroom (fun j hj => by rw [Nat.zero_add]; exact (hc _ (hin j hj)).1) (fun j hj => by rw [Nat.zero_add]; exact (hc _ (hin j hj)).2)
        rw [Nat.zero_add] at hr
        refine ⟨_, _, hr, ⟨by rw [List.length_append, hown.1, hl, Nat.add_mul], .inr ⟨g, cap, rfl, hb, Nat.lt_of_lt_of_le hg (grownBy_setCells g _ _ W).size, hroom, hm, fun j hj => ?_, fun j u hu => ?_⟩⟩, grownBy_setCells g _ _ W, .inl rfl, fun A' c' he => ?_, fun h => absurd rfl h⟩
        rotate_right
        · injection he with e1 e2 e3
          subst e1
          refine .inr ⟨_, rfl, fun j u hu => ?_⟩
          rw [add0, World.cell?_setCells_out g news _ W ⟨g, j, none⟩ (by intro _ _; have := (List.getElem?_eq_some_iff.1 hu).1; rw [hown.1] at this; simp only; omega)]
          exact hx j u hu
        · refine ⟨?_, by rw [World.frozen?_setCells]; exact (hc j hj).2⟩
          by_cases hjn : n * i.size ≤ j ∧ j < n * i.size + news.length
          · have := World.cell?_setCells_in g news (n * i.size) W (fun k hk => (hc _ (hin k hk)).1) (j - n * i.size) (by omega)
            rw [show n * i.size + (j - n * i.size) = j by omega] at this
            rw [this]; rfl
          · rw [World.cell?_setCells_out g news _ W ⟨g, j, none⟩ (by intro _ _; simp only; omega)]
            exact (hc j hj).1
        · have hxl : xs.length = n * i.size := hown.1
          rcases Nat.lt_or_ge j xs.length with hj | hj
          · rw [List.getElem?_append_left hj] at hu
            rw [World.cell?_setCells_out g news _ W ⟨g, j, none⟩ (by intro _ _; simp only; omega)]
            exact hx j u hu
          · rw [List.getElem?_append_right hj] at hu
            have hjl := (List.getElem?_eq_some_iff.1 hu).1
            have := World.cell?_setCells_in g news (n * i.size) W (fun k hk => (hc _ (hin k hk)).1) (j - xs.length) hjl
            rw [show n * i.size + (j - xs.length) = j by omega] at this
            rw [this, ← hu, List.getElem?_eq_getElem hjl]
      · obtain ⟨v', w', hr, h2, h3⟩ := run_append_arg_grows (P := P) W t ty e i z i.size i.bytes ht hi hz rfl rfl hzs hsz ⟨g, 0, none⟩ n cap xs hown.1 (fun j u hu => by rw [add0]; exact hx j u hu) ad m c news hl hcells (by omega) (by simp only [maxLen]; omega) hbytes
        have hO := Own.of_row h2
        have hnm : 0 < n + m := by omega
        obtain ⟨g', cap', rfl, hb', _⟩ := hO.form hnm
        have hbl : Below W.heap.size W w' := ⟨h3.os, h3.tape, h3.output, h3.size, fun k hk => h3.block k hk (by simp)⟩
        refine ⟨_, w', hr, hO.weaken hbase, ⟨h3.os, h3.tape, h3.output, h3.size, fun k hk _ => h3.block k hk (by simp)⟩, .inr ⟨g', rfl, hb'⟩, fun A' c' he => ?_, fun _ => hbl⟩
        injection he with e1 e2 e3
        subst e1
        exact .inr ⟨_, rfl, fun j u hu => by rw [add0]; exact cell_kept hbl (Nat.le_refl _) (hx j u hu)⟩

section
variable {P : Program} {ops : Array Oper} {rest : List Oper} {o : Oper} {a : Act} {Q : Exit → Act → World → Prop}
/-- The same as a step of the walk, behind 'at_builtin'. -/
theorem appO2 {t e : TypeId} {size bytes : Nat} (E : El P t e size bytes) {W : World} (base : Nat) (hgd : o.guard = none) (s x : Operand)
    (ho : o.op = .call { callee := .builtin .append, args := #[s, x], argTypes := #[t, t] })
    {v : Value} {n : Nat} {xs : List Value} (hs : a.eval s = v) (hown : Own W base size v n xs)
    {A : Option Addr} {m c : Nat} {news : List Value} (hx : a.eval x = .slice A m c) (hl : news.length = m * size) (hR : RowAt W A news) (h1 : ∀ u ∈ news, u.oneCell' = true)
    (hbytes : (n + m) * bytes ≤ 140737488355328) (hbase : base ≤ W.heap.size)
    (h : ∀ v' w', Own w' base size v' (n + m) (xs ++ news) → W.grownBy w' v.ownBlock → (v'.ownBlock = v.ownBlock ∨ ∃ b, v'.ownBlock = some b ∧ W.heap.size ≤ b) → (∀ A c, v = .slice A n c → RowAt w' A xs) → (v'.ownBlock ≠ v.ownBlock → Below W.heap.size W w') → wpList P ops Q rest (a.put o.dst v') w') :
    wpList P ops Q (o :: rest) a W := by
  obtain ⟨v', w', hr, h2, h3, h4, h5, h6⟩ := run_appO2 E W base o.type v n xs hown A m c news hl hR h1 hbytes hbase
  refine wpList_plain hgd fun K hK => ?_
  unfold Oper.wp execOp
  simp only [ho, resolve, invoke, builtin, Sem.run_bind, Sem.run_pure, Result.andThen_ok, List.map_toArray, List.map_cons, List.map_nil, hs, hx, hr]
  exact hK _ _ (h v' w' h2 h3 h4 h5 h6)
end
/-- An append as a step of a region that draws its order. -/
theorem step_appO2 {P : Program} {ops : Array Oper} {o : Oper} {a : Act} {K : Act → World → Prop} {Q : Exit → Act → World → Prop} {E' : Prop} {t e : TypeId} {size bytes : Nat} (E : El P t e size bytes) {W : World} (base : Nat) (hgd : o.guard = none) (s x : Operand)
    (ho : o.op = .call { callee := .builtin .append, args := #[s, x], argTypes := #[t, t] })
    {v : Value} {n : Nat} {xs : List Value} (hs : a.eval s = v) (hown : Own W base size v n xs)
    {A : Option Addr} {m c : Nat} {news : List Value} (hx : a.eval x = .slice A m c) (hl : news.length = m * size) (hR : RowAt W A news) (h1 : ∀ u ∈ news, u.oneCell' = true)
    (hbytes : (n + m) * bytes ≤ 140737488355328) (hbase : base ≤ W.heap.size)
    (h : ∀ v' w', Own w' base size v' (n + m) (xs ++ news) → W.grownBy w' v.ownBlock → (v'.ownBlock = v.ownBlock ∨ ∃ b, v'.ownBlock = some b ∧ W.heap.size ≤ b) → (∀ A c, v = .slice A n c → RowAt w' A xs) → (v'.ownBlock ≠ v.ownBlock → Below W.heap.size W w') → K (a.put o.dst v') w') :
    if Region.wanted o (yielded ops a.tmps) = true then Oper.wp P o a W K Q else E' := by
  have hw : Region.wanted o (yielded ops a.tmps) = true := by simp [Region.wanted, hgd]
  rw [if_pos hw]
  obtain ⟨v', w', hr, h2, h3, h4, h5, h6⟩ := run_appO2 E W base o.type v n xs hown A m c news hl hR h1 hbytes hbase
  unfold Oper.wp execOp
  simp only [ho, resolve, invoke, builtin, Sem.run_bind, Sem.run_pure, Result.andThen_ok, List.map_toArray, List.map_cons, List.map_nil, hs, hx, hr]
  exact h v' w' h2 h3 h4 h5 h6
end Go.Proofs.Ytiocealhadlggaa

/- What a call changes when it writes into a few blocks that are known: everything else stays. -/
namespace Go.Proofs.Ytiocealhadlggaa
open Go.RowKit
set_option linter.unusedVariables false

/-- Of the blocks that were there only those of bs may have changed. -/
structure Touched (w w' : World) (bs : List Nat) : Prop where
  os : w'.os = w.os
  tape : w'.tape = w.tape
  output : w'.output = w.output
  size : w.heap.size ≤ w'.heap.size
  block : ∀ k, k < w.heap.size → k ∉ bs → w'.heap[k]? = w.heap[k]?

theorem Touched.refl (w : World) (bs : List Nat) : Touched w w bs := ⟨rfl, rfl, rfl, Nat.le_refl _, fun _ _ _ => rfl⟩
theorem Touched.mono {w w' : World} {bs cs : List Nat} (h : Touched w w' bs) (hs : ∀ k ∈ bs, k < w.heap.size → k ∈ cs) : Touched w w' cs :=
  ⟨h.os, h.tape, h.output, h.size, fun k hk hn => h.block k hk fun hb => hn (hs k hb hk)⟩
theorem Touched.trans {w w1 w2 : World} {bs : List Nat} (h : Touched w w1 bs) (k : Touched w1 w2 bs) : Touched w w2 bs :=
  ⟨k.os.trans h.os, k.tape.trans h.tape, k.output.trans h.output, Nat.le_trans h.size k.size, fun j hj hn => (k.block j (Nat.lt_of_lt_of_le hj h.size) hn).trans (h.block j hj hn)⟩
/-- .. where the second step may also change what the first one has made. -/
theorem Touched.trans' {w w1 w2 : World} {bs cs : List Nat} (h : Touched w w1 bs) (k : Touched w1 w2 cs) (hc : ∀ j ∈ cs, j ∈ bs ∨ w.heap.size ≤ j) : Touched w w2 bs :=
  ⟨k.os.trans h.os, k.tape.trans h.tape, k.output.trans h.output, Nat.le_trans h.size k.size, fun j hj hn => (k.block j (Nat.lt_of_lt_of_le hj h.size) (fun hm => (hc j hm).elim hn (fun h1 => by omega))).trans (h.block j hj hn)⟩
theorem Touched.of_below {w w' : World} (h : Below w.heap.size w w') (bs : List Nat) : Touched w w' bs := ⟨h.os, h.tape, h.output, h.size, fun k hk _ => h.block k hk⟩
theorem Touched.of_grown {w w' : World} {row : Option Nat} (h : w.grownBy w' row) : Touched w w' row.toList := by
  refine ⟨h.os, h.tape, h.output, h.size, fun k hk hn => h.block k hk fun e => hn ?_⟩
  rw [← e]; simp
theorem Touched.alloc {w w' : World} {bs : List Nat} (h : Touched w w' bs) (o : Obj) : Touched w (w'.alloc o) bs :=
  h.trans (Touched.of_below ((Below.refl _ _).alloc (Nat.le_refl _) o) bs)
theorem Touched.drewN {w w' : World} {bs : List Nat} (h : Touched w w' bs) (n : Nat) : Touched w (w'.drewN n) bs := ⟨h.os, h.tape, h.output, h.size, h.block⟩
theorem Touched.drew {w w' : World} {bs : List Nat} (h : Touched w w' bs) : Touched w w'.drew bs := ⟨h.os, h.tape, h.output, h.size, h.block⟩
theorem Touched.setCell {w w' : World} {bs : List Nat} (h : Touched w w' bs) {a : Addr} (ha : a.block ∈ bs ∨ w.heap.size ≤ a.block) (v : Value) : Touched w (w'.setCell a v) bs := by
  refine ⟨h.os, h.tape, h.output, Nat.le_trans h.size (by simp [World.setCell]), fun k hk hn => ?_⟩
  rw [Below.heap_setCell w' a v k (fun e => by
    rcases ha with ha | ha
    · exact hn (by rw [e]; exact ha)
    · omega)]
  exact h.block k hk hn
theorem Touched.below {B : Nat} {a w w' : World} {bs : List Nat} (h : Touched w w' bs) (hb : Below B a w) (hB : B ≤ w.heap.size) (hs : ∀ k ∈ bs, B ≤ k) : Below B a w' :=
  ⟨h.os.trans hb.os, h.tape.trans hb.tape, h.output.trans hb.output, Nat.le_trans hb.size h.size, fun k hk => (h.block k (by omega) (fun hm => by have := hs k hm; omega)).trans (hb.block k hk)⟩
theorem Touched.own {w w' : World} {base sz n : Nat} {v : Value} {xs : List Value} {bs : List Nat} (h : Touched w w' bs) (ho : Own w base sz v n xs) (hv : ∀ k, v.ownBlock = some k → k ∉ bs) : Own w' base sz v n xs := by
  obtain ⟨h1, h2⟩ := ho
  refine ⟨h1, ?_⟩
  rcases h2 with h2 | ⟨g, cap, rfl, hb, hl, hn, hm, hc, hx⟩
  · exact .inl h2
  · have e : w'.heap[g]? = w.heap[g]? := h.block g hl (hv g (by simp [Value.ownBlock]))
    refine .inr ⟨g, cap, rfl, hb, Nat.lt_of_lt_of_le hl h.size, hn, hm, fun j hj => ?_, fun j u hu => ?_⟩
    · rw [World.cell?_of_block (w := w) (a := ⟨g, j, none⟩) e, World.frozen?_of_block (w := w) (a := ⟨g, j, none⟩) e]
      exact hc j hj
    · rw [World.cell?_of_block (w := w) (a := ⟨g, j, none⟩) e]
      exact hx j u hu
theorem Touched.cell {w w' : World} {bs : List Nat} (h : Touched w w' bs) {g j : Nat} (hg : g < w.heap.size) (hn : g ∉ bs) : w'.cell? ⟨g, j, none⟩ = w.cell? ⟨g, j, none⟩ :=
  World.cell?_of_block (w := w) (a := ⟨g, j, none⟩) (h.block g hg hn)
theorem Touched.free {w w' : World} {bs : List Nat} (h : Touched w w' bs) {g j : Nat} (hg : g < w.heap.size) (hn : g ∉ bs) : w'.frozen? ⟨g, j, none⟩ = w.frozen? ⟨g, j, none⟩ :=
  World.frozen?_of_block (w := w) (a := ⟨g, j, none⟩) (h.block g hg hn)

theorem ownBlock_lt {w : World} {base sz n : Nat} {v : Value} {xs : List Value} (h : Own w base sz v n xs) {k : Nat} (hk : v.ownBlock = some k) : base ≤ k ∧ k < w.heap.size := h.lt k hk
end Go.Proofs.Ytiocealhadlggaa

/- Words for regions that draw their order, and for rows behind what a call changed (of no one seat's functions). -/
namespace Go.Proofs.Ytiocealhadlggaa
open Go.RowKit
set_option linter.unusedVariables false

theorem rowAt_alloc_k (w : World) (cs : List Value) (t : TypeId) {k : Nat} (hk : k = w.heap.size) : RowAt (w.alloc (.cells cs.toArray t)) (some ⟨k, 0, none⟩) cs := by
  subst hk
  exact rowAt_alloc w cs t
theorem bel_alloc {w W : World} (h : Below w.heap.size w W) (o : Obj) : Below w.heap.size w (W.alloc o) := h.alloc h.size o
theorem bel_drew {w W : World} (h : Below w.heap.size w W) : Below w.heap.size w W.drew := ⟨h.os, h.tape, h.output, h.size, h.block⟩
theorem bel_calls {w W w' : World} (h : Below w.heap.size w W) (k : Below W.heap.size W w') : Below w.heap.size w w' := below_trans' h k
theorem row_drew {w : World} {A : Option Addr} {cs : List Value} (h : RowAt w A cs) : RowAt w.drew A cs := h
theorem grown_nil {W w' : World} {n c : Nat} (h : W.grownBy w' (Value.slice none n c).ownBlock) : Below W.heap.size W w' := ⟨h.os, h.tape, h.output, h.size, fun k hk => h.block k hk (by simp [Value.ownBlock])⟩
theorem row_touched {w w' : World} {A : Option Addr} {xs : List Value} {bs : List Nat} (h : RowAt w A xs) (hT : Touched w w' bs) (hA : A = none ∨ ∃ g, A = some ⟨g, 0, none⟩ ∧ g ∉ bs) : RowAt w' A xs := by
  rcases hA with rfl | ⟨g, rfl, hg⟩
  · rcases h with h | ⟨ad, e, _⟩
    · exact .inl h
    · cases e
  · rcases h with h | ⟨ad, e, hc⟩
    · exact .inl h
    · refine .inr ⟨ad, e, fun j u hu => ?_⟩
      injection e with e
      subst e
      have := hc j u hu
      rw [add0] at this ⊢
      exact (hT.cell (World.block_lt_of_cell? w _ this) hg).trans this

end Go.Proofs.Ytiocealhadlggaa

/- mark.Compare: two fingerprints held against each other; the document's Compare; cmp.Compare, cmp.Or. -/
namespace Go.Proofs.Ytiocealhadlggaa
open Go.RowKit
set_option linter.unusedVariables false

theorem less_cons (x y : UInt8) (a b : List UInt8) : Op.bytesLess (x :: a) (y :: b) = true ↔ x.toNat < y.toNat ∨ (x = y ∧ Op.bytesLess a b = true) := by
  simp [Op.bytesLess, UInt8.lt_iff_toNat_lt]
theorem less_irrefl (l : List UInt8) : Op.bytesLess l l = false := by
  induction l with
  | nil => rfl
  | cons x l ih =>
    rw [Bool.eq_false_iff, Ne, less_cons]
    rintro (h | ⟨_, h⟩)
    · omega
    · rw [ih] at h; cases h
theorem less_trans {a b c : List UInt8} (h : Op.bytesLess a b = true) (k : Op.bytesLess b c = true) : Op.bytesLess a c = true := by
  induction a generalizing b c with
  | nil =>
    cases c with
    | nil => cases b <;> simp [Op.bytesLess] at k
    | cons z c => rfl
  | cons x a ih =>
    cases b with
    | nil => simp [Op.bytesLess] at h
    | cons y b =>
      cases c with
      | nil => simp [Op.bytesLess] at k
      | cons z c =>
        rw [less_cons] at h k ⊢
        rcases h with h | ⟨rfl, h⟩
        · rcases k with k | ⟨rfl, k⟩
          · left; omega
          · left; exact h
        · rcases k with k | ⟨rfl, k⟩
          · left; exact k
          · right; exact ⟨rfl, ih h k⟩
theorem less_asymm {a b : List UInt8} (h : Op.bytesLess a b = true) : Op.bytesLess b a = false := by
  cases k : Op.bytesLess b a
  · rfl
  · have := less_trans h k; rw [less_irrefl] at this; cases this
theorem less_total {a b : List UInt8} (h : Op.bytesLess a b = false) (hne : a ≠ b) : Op.bytesLess b a = true := by
  induction a generalizing b with
  | nil =>
    cases b with
    | nil => exact absurd rfl hne
    | cons y b => simp [Op.bytesLess] at h
  | cons x a ih =>
    cases b with
    | nil => rfl
    | cons y b =>
      rw [Bool.eq_false_iff, Ne, less_cons] at h
      rw [less_cons]
      by_cases e : x = y
      · subst e
        right
        refine ⟨rfl, ih ?_ (fun e => hne (by rw [e]))⟩
        rw [Bool.eq_false_iff]
        intro k; exact h (.inr ⟨rfl, k⟩)
      · left
        have : x.toNat ≠ y.toNat := fun k => e (UInt8.toNat_inj.1 k)
        omega

def cmpI (x y : Int) : Int := if x < y then -1 else if y < x then 1 else 0
def cmpS (a b : ByteArray) : Int := if Op.bytesLess a.toList b.toList = true then -1 else if a = b then 0 else 1
def cmpM (k1 : Int) (s1 : ByteArray) (k2 : Int) (s2 : ByteArray) : Int := if cmpI k1 k2 ≠ 0 then cmpI k1 k2 else cmpS s1 s2
theorem cmpS_lt {a b : ByteArray} (h : Op.bytesLess a.toList b.toList = true) : cmpS a b = -1 := by rw [cmpS, if_pos h]
theorem cmpS_gt {a b : ByteArray} (h : Op.bytesLess a.toList b.toList = false) (hne : a ≠ b) : cmpS a b = 1 := by rw [cmpS, if_neg (by simp [h]), if_neg hne]
theorem cmpS_self (a : ByteArray) : cmpS a a = 0 := by rw [cmpS, if_neg (by simp [less_irrefl]), if_pos rfl]
theorem cmpS_zero {a b : ByteArray} (h : cmpS a b = 0) : a = b := by
  unfold cmpS at h
  split at h
  · cases h
  · split at h
    · assumption
    · cases h
theorem cmpS_neg (a b : ByteArray) : cmpS b a = - cmpS a b := by
  by_cases e : a = b
  · subst e; rw [cmpS_self]; rfl
  · have hne : a.toList ≠ b.toList := fun h => e (str_inj h)
    cases h : Op.bytesLess a.toList b.toList
    · rw [cmpS_gt h e, cmpS_lt (less_total h hne)]
    · rw [cmpS_lt h, cmpS_gt (less_asymm h) (Ne.symm e)]; rfl
theorem cmpS_vals (a b : ByteArray) : cmpS a b = -1 ∨ cmpS a b = 0 ∨ cmpS a b = 1 := by
  unfold cmpS; split
  · exact .inl rfl
  · split
    · exact .inr (.inl rfl)
    · exact .inr (.inr rfl)
theorem cmpS_trans {a b c : ByteArray} (h : cmpS a b ≤ 0) (k : cmpS b c ≤ 0) : cmpS a c ≤ 0 := by
  by_cases e : a = b
  · subst e; exact k
  by_cases f : b = c
  · subst f; exact h
  have h1 : Op.bytesLess a.toList b.toList = true := by
    cases hh : Op.bytesLess a.toList b.toList
    · rw [cmpS_gt hh e] at h; omega
    · rfl
  have h2 : Op.bytesLess b.toList c.toList = true := by
    cases hh : Op.bytesLess b.toList c.toList
    · rw [cmpS_gt hh f] at k; omega
    · rfl
  rw [cmpS_lt (less_trans h1 h2)]; omega
theorem cmpM_self (k : Int) (s : ByteArray) : cmpM k s k s = 0 := by
  have : cmpI k k = 0 := by simp [cmpI]
  rw [cmpM, if_neg (by simp [this]), cmpS_self]
theorem cmpI_cases (x y : Int) : (x < y ∧ cmpI x y = -1) ∨ (x = y ∧ cmpI x y = 0) ∨ (y < x ∧ cmpI x y = 1) := by
  unfold cmpI
  split
  · exact .inl ⟨by assumption, rfl⟩
  · split
    · exact .inr (.inr ⟨by assumption, rfl⟩)
    · exact .inr (.inl ⟨by omega, rfl⟩)
theorem cmpM_cases (k1 : Int) (s1 : ByteArray) (k2 : Int) (s2 : ByteArray) : (k1 < k2 ∧ cmpM k1 s1 k2 s2 = -1) ∨ (k1 = k2 ∧ cmpM k1 s1 k2 s2 = cmpS s1 s2) ∨ (k2 < k1 ∧ cmpM k1 s1 k2 s2 = 1) := by
  unfold cmpM
  rcases cmpI_cases k1 k2 with ⟨h, e⟩ | ⟨h, e⟩ | ⟨h, e⟩
  · exact .inl ⟨h, by rw [e]; rfl⟩
  · exact .inr (.inl ⟨h, by rw [e]; rfl⟩)
  · exact .inr (.inr ⟨h, by rw [e]; rfl⟩)
theorem cmpM_neg (k1 : Int) (s1 : ByteArray) (k2 : Int) (s2 : ByteArray) : cmpM k2 s2 k1 s1 = - cmpM k1 s1 k2 s2 := by
  rcases cmpM_cases k1 s1 k2 s2 with ⟨h, e⟩ | ⟨h, e⟩ | ⟨h, e⟩
  · rcases cmpM_cases k2 s2 k1 s1 with ⟨h2, e2⟩ | ⟨h2, e2⟩ | ⟨h2, e2⟩ <;> omega
  · subst h
    rcases cmpM_cases k1 s2 k1 s1 with ⟨h2, e2⟩ | ⟨_, e2⟩ | ⟨h2, e2⟩
    · omega
    · rw [e, e2, cmpS_neg]
    · omega
  · rcases cmpM_cases k2 s2 k1 s1 with ⟨h2, e2⟩ | ⟨h2, e2⟩ | ⟨h2, e2⟩ <;> omega
theorem cmpM_vals (k1 : Int) (s1 : ByteArray) (k2 : Int) (s2 : ByteArray) : cmpM k1 s1 k2 s2 = -1 ∨ cmpM k1 s1 k2 s2 = 0 ∨ cmpM k1 s1 k2 s2 = 1 := by
  have := cmpS_vals s1 s2
  rcases cmpM_cases k1 s1 k2 s2 with ⟨h, e⟩ | ⟨h, e⟩ | ⟨h, e⟩ <;> omega
theorem cmpM_zero {k1 : Int} {s1 : ByteArray} {k2 : Int} {s2 : ByteArray} : cmpM k1 s1 k2 s2 = 0 ↔ k1 = k2 ∧ s1 = s2 := by
  constructor
  · intro h0
    rcases cmpM_cases k1 s1 k2 s2 with ⟨h, e⟩ | ⟨h, e⟩ | ⟨h, e⟩
    · omega
    · exact ⟨h, cmpS_zero (by rw [← e]; exact h0)⟩
    · omega
  · rintro ⟨rfl, rfl⟩; exact cmpM_self _ _
theorem cmpM_trans {k1 k2 k3 : Int} {s1 s2 s3 : ByteArray} (h : cmpM k1 s1 k2 s2 ≤ 0) (k : cmpM k2 s2 k3 s3 ≤ 0) : cmpM k1 s1 k3 s3 ≤ 0 := by
  rcases cmpM_cases k1 s1 k3 s3 with ⟨h3, e3⟩ | ⟨h3, e3⟩ | ⟨h3, e3⟩
  · omega
  · rcases cmpM_cases k1 s1 k2 s2 with ⟨h1, e1⟩ | ⟨h1, e1⟩ | ⟨h1, e1⟩
    · rcases cmpM_cases k2 s2 k3 s3 with ⟨h2, e2⟩ | ⟨h2, e2⟩ | ⟨h2, e2⟩ <;> omega
    · rcases cmpM_cases k2 s2 k3 s3 with ⟨h2, e2⟩ | ⟨h2, e2⟩ | ⟨h2, e2⟩
      · omega
      · rw [e3]; exact cmpS_trans (b := s2) (by omega) (by omega)
      · omega
    · omega
  · rcases cmpM_cases k1 s1 k2 s2 with ⟨h1, e1⟩ | ⟨h1, e1⟩ | ⟨h1, e1⟩
    · rcases cmpM_cases k2 s2 k3 s3 with ⟨h2, e2⟩ | ⟨h2, e2⟩ | ⟨h2, e2⟩ <;> omega
    · rcases cmpM_cases k2 s2 k3 s3 with ⟨h2, e2⟩ | ⟨h2, e2⟩ | ⟨h2, e2⟩ <;> omega
    · omega

end Go.Proofs.Ytiocealhadlggaa

/- Bytes as a number, and texts one behind the other: plain (as in CrcPure and Book, of no seat's functions; not together with those). -/
namespace Go.Proofs.Ytiocealhadlggaa
open Go.RowKit
set_option linter.unusedVariables false

/-- Bytes as a number, the lowest one first. -/
def numL : List UInt8 → Nat
  | [] => 0
  | b :: r => b.toNat + 256 * numL r
def lowL (v : Nat) : Nat → List UInt8
  | 0 => []
  | n + 1 => UInt8.ofNat v :: lowL (v / 256) n
theorem lowL_length (v n : Nat) : (lowL v n).length = n := by
  induction n generalizing v with
  | zero => rfl
  | succ n ih => rw [lowL, List.length_cons, ih]
theorem numL_lt (l : List UInt8) : numL l < 256 ^ l.length := by
  induction l with
  | nil => simp [numL]
  | cons b r ih =>
    have := b.toNat_lt
    rw [numL, List.length_cons, Nat.pow_succ]
    omega
theorem numL_lowL (v n : Nat) : numL (lowL v n) = v % 256 ^ n := by
  induction n generalizing v with
  | zero => simp [lowL, numL, Nat.mod_one]
  | succ n ih =>
    rw [lowL, numL, ih, Nat.pow_succ, Nat.mul_comm (256 ^ n) 256, Nat.mod_mul]
    have : (UInt8.ofNat v).toNat = v % 256 := by simp
    rw [this]
theorem lowL_numL (l : List UInt8) : lowL (numL l) l.length = l := by
  induction l with
  | nil => rfl
  | cons b r ih =>
    have hb := b.toNat_lt
    rw [List.length_cons, lowL, numL]
    have e1 : (b.toNat + 256 * numL r) / 256 = numL r := by omega
    have e2 : UInt8.ofNat (b.toNat + 256 * numL r) = b := by
      apply UInt8.toNat_inj.1
      simp
    rw [e1, e2, ih]
end Go.Proofs.Ytiocealhadlggaa

/- Where a row lies that text was appended to: where it lay, or in a new block. -/
namespace Go.Proofs.Ytiocealhadlggaa
open Go.RowKit Go.Lib
set_option linter.unusedVariables false

theorem str_where {P : Program} {w : World} (base : Nat) (t u ty e : TypeId) (i : TypeInfo) (ht : P.underlying t = some (.slice e)) (hu : P.underlying u = some .string) (hi : P.info? e = some i) (hz : i.zero = some (.int .u8 0))
    (hsize : i.size = 1) (hby : i.bytes = 1) (v : Value) (n : Nat) (xs : List Value) (hown : w.ownsRow base e 1 v n xs) (s : ByteArray)
    (hbytes : n + s.size ≤ 140737488355328) (v' : Value) (w' : World) (hr0 : (Builtin.append_ #[t, u] ty #[v, .string s]).run P w = .ok v' w') :
    v'.ownBlock = v.ownBlock ∨ v'.ownBlock = some w.heap.size := by
  have hxl : xs.length = n := by simpa using hown.1
  rcases hown.2 with ⟨rfl, rfl⟩ | ⟨g, cap, cur, rfl, hbg, hg, hnc, hcm, hcs, htake⟩
  · by_cases hm : s.size = 0
    · have hf := run_firstCells_string (P := P) w 1 s
      rw [hm] at hf
      have hr : (Builtin.append_ #[t, u] ty #[.slice none 0 0, .string s]).run P w = .ok (.slice none 0 0) w := by
        simp [Builtin.append_, run_underlying ht, run_underlying hu, sizeOf, typeInfo, hi, hsize, Builtin.lenOf, hm, hf]
      rw [hr] at hr0
      injection hr0 with e1 e2
      subst e1
      exact .inl rfl
    · have hr := run_append_nil_string (P := P) w t u ty e i (.int .u8 0) ht hu hi hz s (by omega) (by omega) (by rw [hby]; omega)
      rw [hr] at hr0
      injection hr0 with e1 e2
      subst e1
      exact .inr rfl
  · by_cases hroom : n + s.size ≤ cap
    · have hr := run_append_room_string (P := P) w t u ty e i ht hu hi hsize g n cap cur hg s hroom (by omega)
      rw [hr] at hr0
      injection hr0 with e1 e2
      subst e1
      exact .inl rfl
    · have holds : ∀ j u, xs[j]? = some u → w.cell? ((⟨g, 0, none⟩ : Addr).add j) = some u := hown.cells (g := g) rfl
      have hr := run_append_grow_string (P := P) w t u ty e i (.int .u8 0) ht hu hi hz ⟨g, 0, none⟩ n cap xs (by rw [hsize]; simpa using hxl) holds s (by omega) (by omega) (by rw [hby]; exact growslice_fits (by omega) (by omega))
      rw [hr] at hr0
      injection hr0 with e1 e2
      subst e1
      exact .inr rfl
/-- Text behind bytes, as a step of a walk. -/
theorem appS {P : Program} {ops : Array Oper} {rest : List Oper} {o : Oper} {a : Act} {w : World} {Q : Exit → Act → World → Prop} (hgd : o.guard = none) (sl x : Operand) (t u : TypeId)
    (ho : o.op = .call { callee := .builtin .append, args := #[sl, x], argTypes := #[t, u] })
    (base : Nat) (e : TypeId) (i : TypeInfo) (ht : P.underlying t = some (.slice e)) (hu : P.underlying u = some .string) (hi : P.info? e = some i) (hz : i.zero = some (.int .u8 0))
    (hsize : i.size = 1) (hby : i.bytes = 1)
    (v : Value) (n : Nat) (xs : List Value) (hs : a.eval sl = v) (hown : w.ownsRow base e 1 v n xs) (s : ByteArray) (hx : a.eval x = .string s)
    (hbytes : n + s.size ≤ 140737488355328) (hbase : base ≤ w.heap.size)
    (h : ∀ v' w', w'.ownsRow base e 1 v' (n + s.size) (xs ++ strCells s) → w.grownBy w' v.ownBlock → (v'.ownBlock = v.ownBlock ∨ v'.ownBlock = some w.heap.size) → wpList P ops Q rest (a.put o.dst v') w') :
    wpList P ops Q (o :: rest) a w := by
  refine wpList_plain hgd fun K hK => ?_
  obtain ⟨v', w', hr, h2, h3, _⟩ := run_append_own_string (P := P) w base t u o.type e i ht hu hi hz hsize hby v n xs hown s (by unfold maxLen; omega) hbytes hbase
  have h4 := str_where base t u o.type e i ht hu hi hz hsize hby v n xs hown s hbytes v' w' hr
  unfold Oper.wp execOp
  simp only [ho, resolve, invoke, builtin, Sem.run_bind, Sem.run_pure, Result.andThen_ok, List.map_toArray, List.map_cons, List.map_nil, hs, hx, hr]
  exact hK _ _ (h v' w' h2 h3 h4)
end Go.Proofs.Ytiocealhadlggaa

/- bits.Out: what it holds, with its error; Raw. -/
namespace Go.Proofs.Ytiocealhadlggaa
open Go.RowKit
set_option linter.unusedVariables false

theorem u8_info : ∃ i, Try.prog.info? 5 = some i ∧ i.zero = some (.int .u8 0) ∧ i.size = 1 ∧ i.bytes = 1 := by
  have h : (Try.prog.info? 5).map (fun i => (i.zero, i.size, i.bytes)) = some (some (.int .u8 0), 1, 1) := by kernel_rfl
  obtain ⟨i, h1, h2⟩ := Option.map_eq_some_iff.1 h
  injection h2 with e1 e2
  injection e2 with e2 e3
  exact ⟨i, h1, e1, e2, e3⟩

/-- An append as a step of a region that draws its order (rows of the library). -/
theorem step_appR {P : Program} {ops : Array Oper} {o : Oper} {a : Act} {K : Act → World → Prop} {Q : Exit → Act → World → Prop} {E' : Prop} {t e : TypeId} {size bytes : Nat} (E : El P t e size bytes) {W : World} (base : Nat) (hgd : o.guard = none) (s x : Operand)
    (ho : o.op = .call { callee := .builtin .append, args := #[s, x], argTypes := #[t, t] })
    {v : Value} {n : Nat} {xs : List Value} (hs : a.eval s = v) (hown : W.ownsRow base e size v n xs)
    {A : Option Addr} {m c : Nat} {news : List Value} (hx : a.eval x = .slice A m c) (hl : news.length = m * size) (hR : RowAt W A news) (h1 : ∀ u ∈ news, u.oneCell' = true)
    (hbytes : (n + m) * bytes ≤ 140737488355328) (hbase : base ≤ W.heap.size)
    (h : ∀ v' w', w'.ownsRow base e size v' (n + m) (xs ++ news) → W.grownBy w' v.ownBlock → (v'.ownBlock = v.ownBlock ∨ v'.ownBlock = some W.heap.size) → K (a.put o.dst v') w') :
    if Region.wanted o (yielded ops a.tmps) = true then Oper.wp P o a W K Q else E' := by
  have hw : Region.wanted o (yielded ops a.tmps) = true := by simp [Region.wanted, hgd]
  rw [if_pos hw]
  obtain ⟨v', w', hr, h2, h3, h4⟩ := run_app E W base o.type v n xs hown A m c news hl hR h1 hbytes hbase
  unfold Oper.wp execOp
  simp only [ho, resolve, invoke, builtin, Sem.run_bind, Sem.run_pure, Result.andThen_ok, List.map_toArray, List.map_cons, List.map_nil, hs, hx, hr]
  exact h v' w' h2 h3 h4
theorem low_byte (x n : Nat) : ((x : Int) / 2 ^ (8 * n)) % 256 = ((UInt8.ofNat (x / 256 ^ n)).toNat : Int) := by
  have e : (2 : Int) ^ (8 * n) = ((256 ^ n : Nat) : Int) := by
    rw [Int.pow_mul]; simp
  rw [e, UInt8.toNat_ofNat']
  simp

/-- An Out at a block: its error, its bytes. -/
structure OutS (w : World) (g : Nat) (v : Value) (e : Int) (l : List UInt8) : Prop where
  own : w.ownsRow (g + 1) 5 1 v l.length (bcells l)
  c0 : w.cell? ⟨g, 0, none⟩ = some v
  c1 : w.cell? ⟨g, 1, none⟩ = some (.int .i64 e)
  f0 : w.frozen? ⟨g, 0, none⟩ = false
  f1 : w.frozen? ⟨g, 1, none⟩ = false
section
variable {w w1 : World} {g : Nat} {v v1 : Value} {e : Int} {l m : List UInt8}
theorem OutS.lt (h : OutS w g v e l) : g < w.heap.size := World.block_lt_of_cell? w _ h.c0
theorem OutS.vlt (h : OutS w g v e l) {b : Nat} (hb : v.ownBlock = some b) : b < w.heap.size := (h.own.lt b hb).2
theorem OutS.apart (h : OutS w g v e l) : g ∉ v.ownBlock.toList := by
  intro hm
  have := (h.own.lt g (by simpa using hm)).1
  omega
theorem row_kept' {w w' : World} {base sz n : Nat} {t : TypeId} {v : Value} {xs : List Value} {bs : List Nat} (hT : Touched w w' bs) (h : w.ownsRow base t sz v n xs) (hv : ∀ b, v.ownBlock = some b → b ∉ bs) : w'.ownsRow base t sz v n xs := by
  obtain ⟨h1, h2⟩ := h
  refine ⟨h1, ?_⟩
  rcases h2 with h2 | ⟨g, cap, cur, rfl, hb, hg, r⟩
  · exact .inl h2
  · exact .inr ⟨g, cap, cur, rfl, hb, (hT.block g (Array.getElem?_eq_some_iff.1 hg).1 (hv g (by simp [Value.ownBlock]))).trans hg, r⟩
theorem OutS.touched {bs : List Nat} (h : OutS w g v e l) (hT : Touched w w1 bs) (h1 : g ∉ bs) (h2 : ∀ b, v.ownBlock = some b → b ∉ bs) : OutS w1 g v e l :=
  ⟨row_kept' hT h.own h2, (hT.cell h.lt h1).trans h.c0, (hT.cell h.lt h1).trans h.c1, (hT.free h.lt h1).trans h.f0, (hT.free h.lt h1).trans h.f1⟩
theorem OutS.below (h : OutS w g v e l) (hb : Below w.heap.size w w1) : OutS w1 g v e l := h.touched (Touched.of_below hb []) (by simp) (by simp)
theorem OutS.drew (h : OutS w g v e l) : OutS w.drew g v e l := ⟨h.own.drew, h.c0, h.c1, h.f0, h.f1⟩
theorem OutS.drewN (h : OutS w g v e l) (n : Nat) : OutS (w.drewN n) g v e l := h.below (below_drewN (Below.refl _ _) n)
theorem OutS.grownT (h : OutS w g v e l) (ho : w1.ownsRow (g + 1) 5 1 v1 m.length (bcells m)) (hT : Touched w w1 v.ownBlock.toList) :
    OutS (w1.setCell ⟨g, 0, none⟩ v1) g v1 e m := by
  have hc0 : w1.cell? ⟨g, 0, none⟩ = some v := (hT.cell h.lt h.apart).trans h.c0
  have hc1 : w1.cell? ⟨g, 1, none⟩ = some (.int .i64 e) := (hT.cell h.lt h.apart).trans h.c1
  have hf0 : w1.frozen? ⟨g, 0, none⟩ = false := (hT.free h.lt h.apart).trans h.f0
  have hf1 : w1.frozen? ⟨g, 1, none⟩ = false := (hT.free h.lt h.apart).trans h.f1
  refine ⟨ownsRow_setCell_below ho (by simp) _, ?_, ?_, ?_, ?_⟩
  · exact World.cell?_setCell_same' w1 _ _ (by rw [hc0]; simp)
  · exact (World.cell?_setCell_other w1 ⟨g, 0, none⟩ ⟨g, 1, none⟩ _ (by simp)).trans hc1
  · rw [World.frozen?_setCell]; exact hf0
  · rw [World.frozen?_setCell]; exact hf1
theorem OutS.grown (h : OutS w g v e l) (ho : w1.ownsRow (g + 1) 5 1 v1 m.length (bcells m)) (hg : w.grownBy w1 v.ownBlock) : OutS (w1.setCell ⟨g, 0, none⟩ v1) g v1 e m := h.grownT ho (Touched.of_grown hg)
theorem OutS.fail (h : OutS w g v e l) (x : Int) : OutS (w.setCell ⟨g, 1, none⟩ (.int .i64 x)) g v x l := by
  refine ⟨ownsRow_setCell_below h.own (by simp) _, ?_, ?_, ?_, ?_⟩
  · exact (World.cell?_setCell_other w ⟨g, 1, none⟩ ⟨g, 0, none⟩ _ (by simp)).trans h.c0
  · exact World.cell?_setCell_same' w _ _ (by rw [h.c1]; simp)
  · rw [World.frozen?_setCell]; exact h.f0
  · rw [World.frozen?_setCell]; exact h.f1
end
/-- An Out that a call has changed. -/
structure OutTo (w w' : World) (g : Nat) (v : Value) (d : Int × List UInt8) : Prop where
  ex : ∃ v', OutS w' g v' d.1 d.2 ∧ ∀ b, v'.ownBlock = some b → v.ownBlock = some b ∨ w.heap.size ≤ b
  touched : Touched w w' (g :: v.ownBlock.toList)
theorem OutTo.refl {w : World} {g : Nat} {v : Value} {e : Int} {l : List UInt8} (h : OutS w g v e l) : OutTo w w g v (e, l) := ⟨⟨v, h, fun b hb => .inl hb⟩, Touched.refl _ _⟩
theorem OutTo.fail {w : World} {g : Nat} {v : Value} {e : Int} {l : List UInt8} (h : OutS w g v e l) (x : Int) : OutTo w (w.setCell ⟨g, 1, none⟩ (.int .i64 x)) g v (x, l) :=
  ⟨⟨v, h.fail x, fun b hb => .inl hb⟩, (Touched.refl _ _).setCell (.inl (by simp)) _⟩
theorem OutTo.trans {w w1 w2 : World} {g : Nat} {v v1 : Value} {d : Int × List UInt8} (hT : Touched w w1 (g :: v.ownBlock.toList)) (hV : ∀ b, v1.ownBlock = some b → v.ownBlock = some b ∨ w.heap.size ≤ b) (h : OutTo w1 w2 g v1 d) : OutTo w w2 g v d := by
  obtain ⟨⟨v', h1, h2⟩, h3⟩ := h
  refine ⟨⟨v', h1, fun b hb => ?_⟩, hT.trans' h3 ?_⟩
  · rcases h2 b hb with h | h
    · exact hV b h
    · exact .inr (Nat.le_trans hT.size h)
  · intro j hj
    rcases List.mem_cons.1 hj with rfl | hj
    · exact .inl (by simp)
    · rcases hV j (by simpa using hj) with h | h
      · exact .inl (by simp [h])
      · exact .inr h

def rawO (d : Int × List UInt8) (ts : List ByteArray) : Int × List UInt8 := if d.1 ≠ 0 then d else (0, d.2 ++ (joinB ts).data.toList)
end Go.Proofs.Ytiocealhadlggaa

/- bits.Out: Raw. -/
namespace Go.Proofs.Ytiocealhadlggaa
open Go.RowKit
set_option linter.unusedVariables false

theorem addr_add0 (a : Addr) : a.add 0 = a := by obtain ⟨b, o, c⟩ := a; cases c <;> simp [Addr.add]
end Go.Proofs.Ytiocealhadlggaa
