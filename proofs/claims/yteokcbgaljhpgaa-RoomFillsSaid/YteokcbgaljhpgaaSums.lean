/- shaone: bytes of a number, what stands behind bytes; and the reference's. -/
import Derived.Test.YteokcbgaljhpgaaMix
import Derived.Test.YteokcbgaljhpgaaStrs
import Derived.Deep.OwnRows
import Derived.Deep.RegionLaw
namespace Go.Proofs.Yteokcbgaljhpgaa
open Go.RowKit

theorem el_u8 : El Try.prog 39 5 1 1 := El.mk' Try.underlying39 (z := .int .u8 0) (by kernel_rfl) (by decide)
/-- make([]byte, n). -/
theorem make_u8 (n : Nat) (hn : n ≤ 281474976710656) (W : World) : (Instr.makeSlice 39 (.int .i64 (n : Int)) (.int .i64 (n : Int))).run Try.prog W = .ok (.slice (some ⟨W.heap.size, 0, none⟩) n n) (W.alloc (.cells (bcells (List.replicate n 0)).toArray 5)) := by
  have h := run_make_row' (P := Try.prog) 39 5 (.int .u8 0) 1 Try.underlying39 (by kernel_rfl) rfl .i64 .i64 n (by omega) (by omega) W
  have e : madeCells #[.int .u8 0] n = (bcells (List.replicate n 0)).toArray := by
    apply Array.toList_inj.mp
    rw [toList_madeCells_one]
    simp [bcells]
  rw [e] at h
  exact h
theorem zeros_own (W : World) (n : Nat) (hn : n ≤ maxLen) : Own (W.alloc (.cells (bcells (List.replicate n 0)).toArray 5)) W.heap.size 1 (.slice (some ⟨W.heap.size, 0, none⟩) n n) n (bcells (List.replicate n 0)) := by
  have h := Own.fresh W (bcells (List.replicate n 0)).toArray 5 (by simpa [bcells] using hn)
  simpa [bcells] using h

/-- The bytes of a number, the highest one first. -/
def hiB (v n i : Nat) : UInt8 := UInt8.ofNat (v / 2 ^ (8 * (n - 1 - i)))
def hiL (v n : Nat) : List UInt8 := (List.range n).map (hiB v n)
def hiG (v n k : Nat) : List UInt8 := (List.range n).map fun i => if i < k then hiB v n i else 0
theorem hiG_zero (v n : Nat) : hiG v n 0 = List.replicate n 0 := by
  apply List.ext_getElem?; intro i; by_cases h : i < n <;> simp [hiG, h]
theorem hiG_full (v n : Nat) : hiG v n n = hiL v n := by
  unfold hiG hiL; apply List.map_congr_left; intro i hi; rw [if_pos (List.mem_range.1 hi)]
theorem hiG_set (v n k : Nat) (h : k < n) : (bcells (hiG v n k)).set k (.int .u8 ((hiB v n k).toNat : Int)) = bcells (hiG v n (k + 1)) := by
  apply List.ext_getElem?
  intro i
  rw [List.getElem?_set]
  by_cases hi : i < n
  · by_cases e : k = i
    · subst e; simp [bcells, hiG, hi]
    · rw [if_neg e]
      have : (i < k) ↔ (i < k + 1) := by omega
      simp [bcells, hiG, hi, this]
  · have e : ¬ k = i := by omega
    rw [if_neg e]
    simp [bcells, hiG, hi]
theorem hiG_length (v n k : Nat) : (hiG v n k).length = n := by simp [hiG]
theorem hiL_length (v n : Nat) : (hiL v n).length = n := by simp [hiL]
theorem hiB_val (v n i : Nat) : ((v : Int) / 2 ^ (8 * (n - 1 - i))) % 256 = ((hiB v n i).toNat : Int) := by
  have e : ((2 : Int) ^ (8 * (n - 1 - i))) = ((2 ^ (8 * (n - 1 - i)) : Nat) : Int) := (Int.natCast_pow 2 _).symm
  rw [hiB, e, ← Int.natCast_ediv]
  generalize v / 2 ^ (8 * (n - 1 - i)) = q
  simp

set_option maxHeartbeats 800000 in
theorem high_calls (v n : Nat) (w : World) (hn : n ≤ 8) (_hv : v < 18446744073709551616) : Calls Try.prog 74 #[.int .u64 (v : Int), .int .i64 (n : Int)] w fun e w' => e = .returned (.string ⟨(hiL v n).toArray⟩) ∧ Below w.heap.size w w' := by
  have hmk := fun W => make_u8 n (by omega) W
  have HO := Lib.hid (zeros_own w n (by unfold maxLen; omega))
  rw [← hiG_zero v n] at HO
  go_enter Try.func74, Try.ntmps74
  go_wp2
  go_loopw [11] (fun i wr => ∃ k : Nat, k ≤ n ∧ i = .int .i64 k ∧ Hid (Own wr w.heap.size 1 (.slice (some ⟨w.heap.size, 0, none⟩) n n) n (bcells (hiG v n k))) ∧ Hid (Below w.heap.size w wr)) (fun i _ => n - (intOf i).toNat)
  case atStart => exact ⟨0, by omega, rfl, by rw [hiG_zero] at *; exact HO.out, (Below.refl _ _).alloc (Nat.le_refl _) _⟩
  case round =>
    obtain ⟨k, hk, rfl, HN, HW⟩ := hrel
    by_cases hlt : k < n
    · obtain ⟨u, hu⟩ := some_at (l := hiG v n k) (k := k) (by rw [hiG_length]; exact hlt)
      obtain ⟨c0, f0⟩ := HN.out.cell (bcells_at hu)
      clear hu
      have y1 := IntWalk.i64_in ((n : Int) - 1) (by omega)
      have y2 := IntWalk.i64_in ((n : Int) - 1 - (k : Int)) (by omega)
      have y3 := IntWalk.i64_in (8 * ((n : Int) - 1 - (k : Int))) (by omega)
      have y4 : (8 * ((n : Int) - 1 - (k : Int))).toNat = 8 * (n - 1 - k) := by omega
      have y5 : (0 : Int) ≤ 8 * ((n : Int) - 1 - (k : Int)) := by omega
      go_wp2
      go_roundw
      case rel =>
        have g := HN.out.set k (by rw [bcells, List.length_map, hiG_length]; exact hlt) (.int .u8 ((hiB v n k).toNat : Int))
        rw [hiG_set v n k hlt] at g
        refine ⟨k + 1, by omega, by go_num, ?_, ?_⟩
        · rw [hiB_val]; exact g.1
        · rw [hiB_val]; exact HW.out.setCell (by simp) _
      case measure => simp [intOf]; omega
    · obtain rfl : k = n := by omega
      have hcv := bytes_str Try.prog 39 5 9 Try.underlying39 Try.underlying5 Try.underlying9 (some ⟨w.heap.size, 0, none⟩) k k (hiG v k k) wr (hiG_length _ _ _) (by
        obtain ⟨A, c, e, _, hr, _⟩ := HN.out.slice
        injection e with e1 e2 e3
        subst e1
        exact hr)
      go_wp2
      go_ret
      exact ⟨ret_str (by rw [hiG_full]), HW.out⟩

set_option maxHeartbeats 800000 in
theorem refHigh_calls (v n : Nat) (w : World) (hn : n ≤ 8) (_hv : v < 18446744073709551616) : Calls Try.prog 77 #[.int .u64 (v : Int), .int .i64 (n : Int)] w fun e w' => e = .returned (.string ⟨(hiL v n).toArray⟩) ∧ Below w.heap.size w w' := by
  go_enter Try.func77, Try.ntmps77
  go_wp2
  go_loopw [5, 6] (fun x i wr => ∃ (k : Nat) (c : Int), k ≤ n ∧ i = .int .i64 c ∧ Hid (c = (n : Int) - 1 - (k : Int)) ∧ Hid (Own wr w.heap.size 1 x k (bcells ((hiL v n).take k))) ∧ Hid (Below w.heap.size w wr)) (fun _ i _ => (intOf i + 1).toNat)
  case atStart => exact ⟨0, (n : Int) - 1, by omega, rfl, by simp [Hid], by rw [Hid]; simpa [bcells] using Own.nil _ _ _, Below.refl _ _⟩
  case round =>
    obtain ⟨k, c, hk, rfl, HC, HN, HW⟩ := hrel
    by_cases hlt : k < n
    · obtain rfl := HC.out
      have HX : Hid ((hiL v n).take (k + 1) = (hiL v n).take k ++ [hiB v n k]) := take_snoc_of (by simp [hiL, hlt])
      have y3 := IntWalk.i64_in (8 * ((n : Int) - 1 - (k : Int))) (by omega)
      have y4 : (8 * ((n : Int) - 1 - (k : Int))).toNat = 8 * (n - 1 - k) := by omega
      have y5 : (0 : Int) ≤ 8 * ((n : Int) - 1 - (k : Int)) := by omega
      have y6 : (0 : Int) ≤ (n : Int) - 1 - (k : Int) := by omega
      have HV := hiB_val v n k
      go_wp2_with (at_builtin; refine appO el_u8 w.heap.size rfl _ _ rfl rfl (HN.out.alloc _) (news := bcells [hiB v n k]) rfl rfl (by rw [← HV] ; exact rowAt_alloc _ _ _) (one_bcells _) (by omega) (by have := HW.out.size; simp; omega) ?_; intro v1 w3 hown1 hg1 _; have HO3 : Hid (Own w3 w.heap.size 1 v1 (k + 1) (bcells ((hiL v n).take (k + 1)))) := (by rw [HX.out, bcells, List.map_append]; exact hown1); have HB3 : Hid (Below w.heap.size w w3) := Own.grown_below (HN.out.alloc _) (HW.out.alloc HW.out.size _) hg1 (Nat.le_refl _); clear hown1 hg1)
      go_roundw
      case rel => exact ⟨k + 1, (n : Int) - 1 - (k : Int) - 1, by omega, rfl, by rw [Hid]; omega, HO3, HB3⟩
      case measure => simp [intOf]; omega
    · obtain rfl : k = n := by omega
      obtain rfl : c = -1 := by have := HC.out; omega
      obtain ⟨A, c, rfl, _, hr, _⟩ := HN.out.slice
      rw [List.take_of_length_le (by rw [hiL_length]; omega)] at hr
      have hcv := bytes_str Try.prog 39 5 9 Try.underlying39 Try.underlying5 Try.underlying9 A k c (hiL v k) wr (hiL_length _ _) hr
      clear hr
      go_wp2
      go_ret
      exact ⟨rfl, HW.out⟩

/-- So many zero bytes. -/
def zerosB (n : Nat) : ByteArray := ⟨(List.replicate n (0 : UInt8)).toArray⟩
theorem zerosB_size (n : Nat) : (zerosB n).size = n := by simp [zerosB, ByteArray.size]
theorem zeros_calls (n : Nat) (w : World) (hn : n ≤ 140737488355328) : Calls Try.prog 28 #[.int .i64 (n : Int)] w fun e w' => e = .returned (.string (zerosB n)) ∧ Below w.heap.size w w' := by
  have hmk := fun W => make_u8 n (by omega) W
  have hO := zeros_own w n (by unfold maxLen; omega)
  have hcv := bytes_str Try.prog 39 5 9 Try.underlying39 Try.underlying5 Try.underlying9 (some ⟨w.heap.size, 0, none⟩) n n (List.replicate n 0) _ (by simp) (by
        obtain ⟨A, c, e, _, hr, _⟩ := hO.slice
        injection e with e1 e2 e3
        subst e1
        exact hr)
  clear hO
  go_enter Try.func28, Try.ntmps28
  go_wp2
  go_ret
  exact ⟨rfl, (Below.refl _ _).alloc (Nat.le_refl _) _⟩

theorem hiL8 (n : Nat) : hiL n 8 = hi8 n := by
  simp [hiL, hi8, hiB, List.range_succ]
theorem hiL4 (x : BitVec 32) : hiL x.toNat 4 = hi4 x := by
  simp [hiL, hi4, hiB, List.range_succ]
/-- What stands behind so many bytes. -/
def padB (n : Int) : ByteArray := if n < 0 ∨ 1099511627776 < n then ByteArray.empty else ⟨(padL n.toNat).toArray⟩
theorem app_mk (a b : List UInt8) : (⟨a.toArray⟩ : ByteArray) ++ ⟨b.toArray⟩ = ⟨(a ++ b).toArray⟩ := by
  apply ByteArray.ext
  rw [ByteArray.data_append]
  simp
theorem repeatL_one (b : UInt8) (n : Nat) : Lib.repeatL [b] n = List.replicate n b := by
  induction n with
  | zero => rfl
  | succ n ih => rw [List.replicate_succ, ← ih]; rfl

set_option maxHeartbeats 1600000 in
theorem pad_calls (n : Int) (w : World) : Calls Try.prog 32 #[.int .i64 n] w fun e w' => e = .returned (.string (padB n)) ∧ Below w.heap.size w w' := by
  by_cases h0 : n < 0
  · have e : padB n = ByteArray.empty := by rw [padB, if_pos (.inl h0)]
    rw [e]
    go_enter Try.func32, Try.ntmps32
    go_wp2
    go_ret
    exact ⟨rfl, Below.refl _ _⟩
  by_cases h1 : 1099511627776 < n
  · have e : padB n = ByteArray.empty := by rw [padB, if_pos (.inr h1)]
    rw [e]
    go_enter Try.func32, Try.ntmps32
    go_wp2
    go_ret
    exact ⟨rfl, Below.refl _ _⟩
  obtain ⟨m, rfl⟩ : ∃ m : Nat, n = (m : Int) := ⟨n.toNat, by omega⟩
  have e : padB (m : Int) = ⟨(padL m).toArray⟩ := by rw [padB, if_neg (by omega)]; rfl
  rw [e]
  clear e
  have hm : m ≤ 1099511627776 := by omega
  clear h0 h1
  obtain ⟨z, hz⟩ : ∃ z, (119 - m % 64) % 64 = z := ⟨_, rfl⟩
  have hz1 : (119 - (m : Int) % 64) % 64 = (z : Int) := by omega
  have hz2 : z < 64 := by omega
  have HZ := Lib.hid hz
  clear hz
  go_enter Try.func32, Try.ntmps32
  go_wp2_with fail
  refine (Try.strings_Repeat ⟨#[0]⟩ z _ (by omega) (by simp [ByteArray.size]; omega)).mono ?_
  rintro e w1 ⟨rfl, hb1⟩
  have HB1 := Lib.hid hb1; clear hb1
  have hr1 : (⟨(Lib.repeatL (⟨#[0]⟩ : ByteArray).data.toList z).toArray⟩ : ByteArray).size = z := by
    show (⟨(Lib.repeatL [0] z).toArray⟩ : ByteArray).size = z
    rw [repeatL_one]; simp [ByteArray.size]
  obtain ⟨r, hr⟩ : ∃ r, (⟨(Lib.repeatL (⟨#[0]⟩ : ByteArray).data.toList z).toArray⟩ : ByteArray) = r := ⟨_, rfl⟩
  rw [hr] at hr1 ⊢
  have HR := Lib.hid hr; clear hr
  have hr2 : r.size < 64 := by omega
  clear hr1
  go_wp2_with fail
  refine (high_calls (8 * m) 8 _ (by omega) (by omega)).mono ?_
  rintro e w2 ⟨rfl, hb2⟩
  have HB2 := Lib.hid (below_trans' HB1.out hb2); clear hb2
  have hq1 : (⟨(hiL (8 * m) 8).toArray⟩ : ByteArray).size = 8 := by simp [ByteArray.size, hiL_length]
  obtain ⟨q, hq⟩ : ∃ q, (⟨(hiL (8 * m) 8).toArray⟩ : ByteArray) = q := ⟨_, rfl⟩
  rw [hq] at hq1 ⊢
  have HQ := Lib.hid hq; clear hq
  have hq2 : q.size ≤ 8 := by omega
  clear hq1
  go_wp2
  go_ret
  refine ⟨ret_str ?_, HB2.out⟩
  rw [← HR.out, ← HQ.out, repeatL_one, show (⟨#[128]⟩ : ByteArray) = ⟨([128] : List UInt8).toArray⟩ from rfl, app_mk, app_mk, hiL8, padL, HZ.out]
  rfl

set_option maxHeartbeats 1600000 in
theorem refPad_calls (n : Int) (w : World) : Calls Try.prog 33 #[.int .i64 n] w fun e w' => e = .returned (.string (padB n)) ∧ Below w.heap.size w w' := by
  by_cases h0 : n < 0
  · have e : padB n = ByteArray.empty := by rw [padB, if_pos (.inl h0)]
    rw [e]
    go_enter Try.func33, Try.ntmps33
    go_wp2
    go_ret
    exact ⟨rfl, Below.refl _ _⟩
  by_cases h1 : 1099511627776 < n
  · have e : padB n = ByteArray.empty := by rw [padB, if_pos (.inr h1)]
    rw [e]
    go_enter Try.func33, Try.ntmps33
    go_wp2
    go_ret
    exact ⟨rfl, Below.refl _ _⟩
  obtain ⟨m, rfl⟩ : ∃ m : Nat, n = (m : Int) := ⟨n.toNat, by omega⟩
  have e : padB (m : Int) = ⟨(padL m).toArray⟩ := by rw [padB, if_neg (by omega)]; rfl
  rw [e]
  clear e
  have hm : m ≤ 1099511627776 := by omega
  clear h0 h1
  obtain ⟨z, hz⟩ : ∃ z, (119 - m % 64) % 64 = z := ⟨_, rfl⟩
  have hz1 : (119 - (m : Int) % 64) % 64 = (z : Int) := by omega
  have hz2 : z < 64 := by omega
  have HZ := Lib.hid hz
  clear hz
  go_enter Try.func33, Try.ntmps33
  go_wp2_with fail
  refine (zeros_calls z _ (by omega)).mono ?_
  rintro e w1 ⟨rfl, hb1⟩
  have HB1 := Lib.hid hb1; clear hb1
  have hr1 := zerosB_size z
  obtain ⟨r, hr⟩ : ∃ r, zerosB z = r := ⟨_, rfl⟩
  rw [hr] at hr1 ⊢
  have HR := Lib.hid hr; clear hr
  have hr2 : r.size < 64 := by omega
  clear hr1
  go_wp2_with fail
  refine (refHigh_calls (8 * m) 8 _ (by omega) (by omega)).mono ?_
  rintro e w2 ⟨rfl, hb2⟩
  have HB2 := Lib.hid (below_trans' HB1.out hb2); clear hb2
  have hq1 : (⟨(hiL (8 * m) 8).toArray⟩ : ByteArray).size = 8 := by simp [ByteArray.size, hiL_length]
  obtain ⟨q, hq⟩ : ∃ q, (⟨(hiL (8 * m) 8).toArray⟩ : ByteArray) = q := ⟨_, rfl⟩
  rw [hq] at hq1 ⊢
  have HQ := Lib.hid hq; clear hq
  have hq2 : q.size ≤ 8 := by omega
  clear hq1
  go_wp2
  go_ret
  refine ⟨ret_str ?_, HB2.out⟩
  rw [← HR.out, ← HQ.out, zerosB, show (⟨#[128]⟩ : ByteArray) = ⟨([128] : List UInt8).toArray⟩ from rfl, app_mk, app_mk, hiL8, padL, HZ.out]
  rfl

/-- An append as a step of a region that draws its order. -/
theorem step_appO {P : Program} {ops : Array Oper} {o : Oper} {a : Act} {K : Act → World → Prop} {Q : Exit → Act → World → Prop} {E' : Prop} {t e : TypeId} {size bytes : Nat} (E : El P t e size bytes) {W : World} (base : Nat) (hgd : o.guard = none) (s x : Operand)
    (ho : o.op = .call { callee := .builtin .append, args := #[s, x], argTypes := #[t, t] })
    {v : Value} {n : Nat} {xs : List Value} (hs : a.eval s = v) (hown : Own W base size v n xs)
    {A : Option Addr} {m c : Nat} {news : List Value} (hx : a.eval x = .slice A m c) (hl : news.length = m * size) (hR : RowAt W A news) (h1 : ∀ u ∈ news, u.oneCell' = true)
    (hbytes : (n + m) * bytes ≤ 140737488355328) (hbase : base ≤ W.heap.size)
    (h : ∀ v' w', Own w' base size v' (n + m) (xs ++ news) → W.grownBy w' v.ownBlock → (v'.ownBlock = v.ownBlock ∨ ∃ b, v'.ownBlock = some b ∧ W.heap.size ≤ b) → K (a.put o.dst v') w') :
    if Region.wanted o (yielded ops a.tmps) = true then Oper.wp P o a W K Q else E' := by
  have hw : Region.wanted o (yielded ops a.tmps) = true := by simp [Region.wanted, hgd]
  rw [if_pos hw]
  obtain ⟨v', w', hr, h2, h3, h4⟩ := run_appO E W base o.type v n xs hown A m c news hl hR h1 hbytes hbase
  unfold Oper.wp execOp
  simp only [ho, resolve, invoke, builtin, Sem.run_bind, Sem.run_pure, Result.andThen_ok, List.map_toArray, List.map_cons, List.map_nil, hs, hx, hr]
  exact h v' w' h2 h3 h4

theorem RowAt.drew {w : World} {A : Option Addr} {cs : List Value} (h : RowAt w A cs) : RowAt w.drew A cs := h
/-- Bytes in digits. -/
def hexD (n : Nat) : UInt8 := if n < 10 then UInt8.ofNat (48 + n) else UInt8.ofNat (87 + n)
def hexL (l : List UInt8) : List UInt8 := l.flatMap fun b => [hexD (b.toNat / 16), hexD (b.toNat % 16)]
theorem hexL_snoc (l : List UInt8) (b : UInt8) : hexL (l ++ [b]) = hexL l ++ [hexD (b.toNat / 16), hexD (b.toNat % 16)] := by simp [hexL]
theorem hexL_length (l : List UInt8) : (hexL l).length = 2 * l.length := by
  induction l with
  | nil => rfl
  | cons b l ih => simp only [hexL, List.flatMap_cons, List.length_append, List.length_cons, List.length_nil] at *; omega
def hexDigits : ByteArray := ⟨#[48, 49, 50, 51, 52, 53, 54, 55, 56, 57, 97, 98, 99, 100, 101, 102]⟩
theorem hexD_at (n : Nat) (h : n < hexDigits.size) : hexDigits[n] = hexD n := by
  have h' : n < 16 := h
  revert h
  have : ∀ m : Fin 16, ∀ h : m.val < hexDigits.size, hexDigits[m.val] = hexD m.val := by decide
  intro h
  exact this ⟨n, h'⟩ h
theorem hexD_lit (q : Nat) (h : q < (⟨#[48, 49, 50, 51, 52, 53, 54, 55, 56, 57, 97, 98, 99, 100, 101, 102]⟩ : ByteArray).size) : (⟨#[48, 49, 50, 51, 52, 53, 54, 55, 56, 57, 97, 98, 99, 100, 101, 102]⟩ : ByteArray)[q] = hexD q := hexD_at q h

set_option maxHeartbeats 1600000 in
set_option maxRecDepth 100000 in
theorem hex_calls (s : ByteArray) (w : World) (hs : s.size ≤ 1000000) : Calls Try.prog 34 #[.string s] w fun e w' => e = .returned (.string ⟨(hexL s.data.toList).toArray⟩) ∧ Below w.heap.size w w' := by
  go_enter Try.func34, Try.ntmps34
  go_wp2
  go_loopw [3, 4] (fun x i wr => ∃ k : Nat, k ≤ s.size ∧ i = .int .i64 k ∧ Hid (Own wr w.heap.size 1 x (k * 2) (bcells (hexL (s.data.toList.take k)))) ∧ Hid (Below w.heap.size w wr)) (fun _ i _ => s.size - (intOf i).toNat)
  case atStart => exact ⟨0, by omega, rfl, by rw [Hid]; simpa [bcells, hexL] using Own.nil _ _ _, Below.refl _ _⟩
  case round =>
    obtain ⟨k, hk, rfl, HN, HW⟩ := hrel
    by_cases hlt : k < s.size
    · have HX : Hid (hexL (s.data.toList.take (k + 1)) = hexL (s.data.toList.take k) ++ [hexD (s[k].toNat / 16), hexD (s[k].toNat % 16)]) := by rw [Hid, take_snoc_str s k hlt, hexL_snoc]
      have hx2 : s[k].toNat < 256 := s[k].toNat_lt
      obtain ⟨q, hq⟩ : ∃ q, s[k].toNat / 16 = q := ⟨_, rfl⟩
      obtain ⟨r, hr⟩ : ∃ r, s[k].toNat % 16 = r := ⟨_, rfl⟩
      rw [hq, hr] at HX
      have e1 : (s[k].toNat : Int) / 16 = (q : Int) := by omega
      have e2 : (s[k].toNat : Int).tmod 16 = (r : Int) := by rw [Int.tmod_eq_emod_of_nonneg (by omega)]; omega
      have e3 : IntKind.u8.wrap (q : Int) = (q : Int) := by rw [IntKind.wrap_u8']; omega
      have e4 : IntKind.u8.wrap (r : Int) = (r : Int) := by rw [IntKind.wrap_u8']; omega
      have q1 : (q : Int) < 16 := by omega
      have r1 : (r : Int) < 16 := by omega
      have q2 : q < 16 := by omega
      have r2 : r < 16 := by omega
      have v1 := hexD_lit q
      have v2 := hexD_lit r
      clear hq hr hx2
      have j1 : (0 : Int) ≤ (k : Int) := by omega
      have j2 : (k : Int) < (s.size : Int) := by omega
      go_wp2
      go_region_law
        ((refine step_appO el_u8 w.heap.size rfl _ _ rfl rfl (HN.out.alloc _).drew (news := bcells [hexD q, hexD r]) rfl rfl (rowAt_alloc _ _ _).drew (one_bcells _) (by omega) (by have := HW.out.size; simp; omega) ?_; intro v1 w3 hown1 hg1 _; have HO3 : Hid (Own w3 w.heap.size 1 v1 ((k + 1) * 2) (bcells (hexL (s.data.toList.take (k + 1))))) := (by rw [HX.out, bcells, List.map_append, show (k + 1) * 2 = k * 2 + 2 by omega]; exact hown1); have HB3 : Hid (Below w.heap.size w w3) := Own.grown_below (HN.out.alloc _).drew (below_drewN (HW.out.alloc HW.out.size _) 1) hg1 (Nat.le_refl _); clear hown1 hg1))
      all_goals
        go_wp2
        go_roundw
        case rel => exact ⟨k + 1, by omega, by go_num, HO3, HB3⟩
        case measure => simp [intOf]; omega
    · obtain rfl : k = s.size := by omega
      obtain ⟨A, c, rfl, _, hr, _⟩ := HN.out.slice
      rw [List.take_of_length_le (by rw [data_length]; omega)] at hr
      have hcv := bytes_str Try.prog 39 5 9 Try.underlying39 Try.underlying5 Try.underlying9 A _ c (hexL s.data.toList) wr (by rw [hexL_length, data_length, Nat.mul_comm]) hr
      clear hr
      go_wp2
      go_ret
      exact ⟨rfl, HW.out⟩
end Go.Proofs.Yteokcbgaljhpgaa
