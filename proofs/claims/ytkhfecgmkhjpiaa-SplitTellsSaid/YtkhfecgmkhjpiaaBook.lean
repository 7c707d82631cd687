/- Package masonrybook: texts in rows, joined, lent, held against each other. -/
import Derived.Test.YtkhfecgmkhjpiaaBase
namespace Go.Proofs.Ytkhfecgmkhjpiaa
open Go.RowKit
set_option linter.unusedVariables false

def roomI : Int → List Int → Int
  | left, [] => left
  | left, x :: r => if left < 0 ∨ left < x then -1 else roomI (left - x) r

set_option maxHeartbeats 400000 in
theorem room_calls (left : Int) (A : Option Addr) (c : Nat) (l : List Int) (w : World) (h0 : -1 ≤ left) (h1 : left ≤ 4000000000000000000) (hn : l.length ≤ 4000000000000000000) (hp : ∀ x ∈ l, 0 ≤ x) (hR : RowAt w A (icells l)) :
    Calls Try.prog 43 #[.int .i64 left, .slice A l.length c] w fun e w' => e = .returned (.int .i64 (roomI left l)) ∧ w = w' := by
  have HR := Lib.hid hR; clear hR
  have HP := Lib.hid hp; clear hp
  go_enter Try.func43, Try.ntmps43
  go_wp2
  go_loop [0, 5] (fun x i => ∃ k : Nat, ∃ cur : Int, k ≤ l.length ∧ -1 ≤ cur ∧ cur ≤ 4000000000000000000 ∧ i = .int .i64 k ∧ x = .int .i64 cur ∧ Hid (roomI left l = roomI cur (l.drop k))) (fun _ i => l.length - (intOf i).toNat)
  case atStart => exact ⟨0, left, Nat.zero_le _, h0, h1, rfl, rfl, rfl⟩
  case round =>
    obtain ⟨k, cur, hk, hc0, hc1, rfl, rfl, HC⟩ := hrel
    by_cases hlt : k < l.length
    · obtain ⟨x, hx⟩ := some_at hlt
      obtain ⟨ad, rfl, hc⟩ := HR.out.get (icells_at hx)
      have hx0 : 0 ≤ x := HP.out x (List.mem_of_getElem? hx)
      have HD : Hid (l.drop k = x :: l.drop (k + 1)) := by
        rw [List.getElem?_eq_some_iff] at hx
        obtain ⟨h, rfl⟩ := hx
        exact List.drop_eq_getElem_cons h
      clear hx
      by_cases c1 : cur < 0
      · go_wp2
        go_ret
        exact ⟨ret_int (by rw [HC.out, HD.out, roomI, if_pos (.inl c1)]), rfl⟩
      by_cases c2 : cur < x
      · go_wp2
        go_ret
        exact ⟨ret_int (by rw [HC.out, HD.out, roomI, if_pos (.inr c2)]), rfl⟩
      go_wp2
      go_round
      case rel => exact ⟨k + 1, cur - x, by omega, by omega, by omega, by go_num, rfl, by rw [Hid, HC.out, HD.out, roomI, if_neg (by omega)]⟩
      case measure => simp [intOf]; omega
    · go_wp2
      go_ret
      exact ⟨ret_int (by rw [HC.out, List.drop_eq_nil_of_le (by omega), roomI]), rfl⟩

theorem roomI_one (left x : Int) (h0 : 0 ≤ left) : roomI left [x] = if left < x then -1 else left - x := by
  rw [roomI, roomI]
  by_cases h : left < x
  · rw [if_pos (.inr h), if_pos h]
  · rw [if_neg (by omega), if_neg h]

/-- How many bytes texts have together. -/
def totalLen (l : List ByteArray) : Int := (l.map fun s => (s.size : Int)).sum
theorem totalLen_snoc (l : List ByteArray) (s : ByteArray) : totalLen (l ++ [s]) = totalLen l + s.size := by simp [totalLen, List.sum_append]
theorem totalLen_nonneg (l : List ByteArray) : 0 ≤ totalLen l := by
  induction l with
  | nil => simp [totalLen]
  | cons a l ih => simp only [totalLen, List.map_cons, List.sum_cons] at *; omega
theorem totalLen_take_le (l : List ByteArray) (k : Nat) : totalLen (l.take k) ≤ totalLen l := by
  conv => rhs; rw [← List.take_append_drop k l]
  have : totalLen (l.take k ++ l.drop k) = totalLen (l.take k) + totalLen (l.drop k) := by simp only [totalLen, List.map_append, List.sum_append]
  have := totalLen_nonneg (l.drop k)
  omega

def shortB (few room : Int) (l : List ByteArray) : Bool := decide ((l.length : Int) ≤ few ∧ totalLen l ≤ room)

set_option maxHeartbeats 800000 in
theorem short_calls (few room : Int) (A : Option Addr) (c : Nat) (l : List ByteArray) (w : World) (h0 : 0 ≤ room) (h1 : room ≤ 4000000000000000000) (hn : l.length ≤ 4000000000000000000)
    (hs : ∀ s ∈ l, s.size ≤ 140737488351232) (hR : RowAt w A (scells l)) :
    Calls Try.prog 11 #[.int .i64 few, .int .i64 room, .slice A l.length c] w fun e w' => e = .returned (.bool (shortB few room l)) ∧ Below w.heap.size w w' := by
  have HR := Lib.hid hR; clear hR
  have HS := Lib.hid hs; clear hs
  by_cases hfew : (l.length : Int) ≤ few
  case neg =>
    have hb : shortB few room l = false := by simp [shortB]; omega
    rw [hb]
    go_enter Try.func11, Try.ntmps11
    go_wp2
    go_ret
    exact ⟨rfl, Below.refl _ _⟩
  have HB : Hid (shortB few room l = decide (totalLen l ≤ room)) := by simp [Hid, shortB, hfew]
  go_enter Try.func11, Try.ntmps11
  go_wp2
  go_loopw [1, 7] (fun x i wr => ∃ k : Nat, ∃ cur : Int, k ≤ l.length ∧ -1 ≤ cur ∧ cur ≤ room ∧ i = .int .i64 k ∧ x = .int .i64 cur ∧ Hid (cur = room - totalLen (l.take k) ∨ cur = -1 ∧ room < totalLen l) ∧ Hid (Below w.heap.size w wr)) (fun _ i _ => l.length - (intOf i).toNat)
  case atStart => exact ⟨0, room, Nat.zero_le _, by omega, Int.le_refl _, rfl, rfl, .inl (by simp [totalLen]), Below.refl _ _⟩
  case round =>
    obtain ⟨k, cur, hk, hc0, hc1, rfl, rfl, HC, HW⟩ := hrel
    by_cases hneg : cur < 0
    · obtain rfl : cur = -1 := by omega
      have HF : Hid (decide (totalLen l ≤ room) = false) := by
        rcases HC.out with h | h
        · have := totalLen_take_le l k; simp [Hid]; omega
        · simp [Hid]; omega
      by_cases hlt : k < l.length
      all_goals
        go_wp2
        go_ret
        exact ⟨ret_bool (HB.out.trans HF.out).symm, HW.out⟩
    by_cases hlt : k < l.length
    · obtain ⟨x, hx⟩ := some_at hlt
      obtain ⟨ad, rfl, hc⟩ := (HR.out.below HW.out).get (scells_at hx)
      have hxs : x.size ≤ 140737488351232 := HS.out x (List.mem_of_getElem? hx)
      have HX := Lib.hid hx; clear hx
      have hr := room_calls cur (some ⟨wr.heap.size, 0, none⟩) 1 [(x.size : Int)] (wr.alloc (.cells #[.int .i64 x.size] 3)) (by omega) (by omega) (by simp) (by intro y hy; simp at hy; omega) (rowAt_alloc wr [.int .i64 x.size] _)
      have HRo := Lib.hid hr; clear hr
      go_wp2_with (go_at_call 43; refine Calls.mono HRo.out ?_; rintro e w' ⟨rfl, rfl⟩)
      go_roundw
      case rel =>
        refine ⟨k + 1, roomI cur [(x.size : Int)], by omega, ?_, ?_, by go_num, rfl, ?_, HW.out.alloc (HW.out.size) _⟩
        · rw [roomI_one _ _ (by omega)]; split <;> omega
        · rw [roomI_one _ _ (by omega)]; split <;> omega
        · rw [roomI_one _ _ (by omega), Hid, take_snoc_of HX.out, totalLen_snoc]
          have h2 := totalLen_take_le l (k + 1)
          rw [take_snoc_of HX.out, totalLen_snoc] at h2
          rcases HC.out with h | h
          · split
            · right; omega
            · left; omega
          · omega
      case measure => simp [intOf]; omega
    · go_wp2
      go_ret
      refine ⟨ret_bool ?_, HW.out⟩
      rw [HB.out]
      rcases HC.out with h | h
      · rw [List.take_of_length_le (by omega)] at h
        simp; omega
      · omega

/-- All texts, one behind the other. -/
def joinB (l : List ByteArray) : ByteArray := l.foldl (· ++ ·) ByteArray.empty
theorem joinB_snoc (l : List ByteArray) (s : ByteArray) : joinB (l ++ [s]) = joinB l ++ s := by simp [joinB, List.foldl_append]
theorem joinB_size (l : List ByteArray) : ((joinB l).size : Int) = totalLen l := by
  have key : ∀ (l : List ByteArray) (a : ByteArray), ((l.foldl (· ++ ·) a).size : Int) = a.size + totalLen l := by
    intro l
    induction l with
    | nil => intro a; simp [totalLen]
    | cons s l ih => intro a; rw [List.foldl_cons, ih, ByteArray.size_append]; simp [totalLen]; omega
  have := key l ByteArray.empty
  simpa [joinB] using this

set_option maxHeartbeats 400000 in
theorem join_calls (A : Option Addr) (c : Nat) (l : List ByteArray) (w : World) (hn : l.length ≤ 4000000000000000000) (hs : totalLen l ≤ 140737488351232) (hR : RowAt w A (scells l)) :
    Calls Try.prog 15 #[.slice A l.length c] w fun e w' => e = .returned (.string (joinB l)) ∧ w = w' := by
  have HR := Lib.hid hR; clear hR
  have HS := Lib.hid hs; clear hs
  go_enter Try.func15, Try.ntmps15
  go_wp2
  go_loop [3, 4] (fun x i => ∃ k : Nat, k ≤ l.length ∧ i = .int .i64 k ∧ x = .string (joinB (l.take k))) (fun _ i => l.length - (intOf i).toNat)
  case atStart => exact ⟨0, Nat.zero_le _, rfl, rfl⟩
  case round =>
    obtain ⟨k, hk, rfl, rfl⟩ := hrel
    by_cases hlt : k < l.length
    · obtain ⟨x, hx⟩ := some_at hlt
      obtain ⟨ad, rfl, hc⟩ := HR.out.get (scells_at hx)
      have HX : Hid (joinB (l.take (k + 1)) = joinB (l.take k) ++ x) := by rw [Hid, take_snoc_of hx, joinB_snoc]
      have hb : (joinB (l.take k)).size + x.size ≤ 9223372036854775807 := by
        have h1 := totalLen_take_le l (k + 1)
        rw [take_snoc_of hx, totalLen_snoc, ← joinB_size] at h1
        have := HS.out
        omega
      clear hx
      go_wp2
      go_round
      case rel => exact ⟨k + 1, by omega, by go_num, by rw [HX.out]⟩
      case measure => simp [intOf]; omega
    · go_wp2
      go_ret
      exact ⟨ret_str (by rw [List.take_of_length_le (by omega)]), rfl⟩

theorem el_texts : El Try.prog 22 9 1 16 := El.mk' Try.underlying22 (z := .string ByteArray.empty) (by kernel_rfl) (by decide)

set_option maxHeartbeats 400000 in
theorem copyTexts_calls (A : Option Addr) (c : Nat) (l : List ByteArray) (w : World) (hn : l.length * 16 ≤ 140737488351232) (hR : RowAt w A (scells l)) :
    Calls Try.prog 44 #[.slice A l.length c] w fun e w' => ∃ v, e = .returned v ∧ w'.ownsRow w.heap.size 9 1 v l.length (scells l) ∧ Below w.heap.size w w' := by
  go_enter Try.func44, Try.ntmps44
  go_wp2_with (at_builtin; refine app_row el_texts w.heap.size rfl _ _ rfl (v := .slice none 0 0) (n := 0) (xs := []) rfl (World.ownsRow_nil _ _ _ _) rfl (news := scells l) (by simp [scells]) hR (one_scells l) (by omega) (Nat.le_refl _) ?_; intro v1 w1 hown1 hg1 _)
  go_ret
  exact ⟨_, rfl, by simpa using hown1, (Below.refl _ _).grown hg1 (Nat.le_refl _) (by simp [Value.ownBlock])⟩

theorem eq_of_take {α : Type} {a b : List α} (h : a.take a.length = b.take a.length) (hl : a.length = b.length) : a = b := by
  rw [List.take_length, hl, List.take_length] at h
  exact h
theorem take_eq_snoc {α : Type} {a b : List α} {k : Nat} {x : α} (ha : a[k]? = some x) (hb : b[k]? = some x) (h : a.take k = b.take k) : a.take (k + 1) = b.take (k + 1) := by
  rw [take_snoc_of ha, take_snoc_of hb, h]

set_option maxHeartbeats 800000 in
theorem sameTexts_calls (A B : Option Addr) (c d : Nat) (l m : List ByteArray) (w : World) (hn : l.length ≤ 4000000000000000000) (hR : RowAt w A (scells l)) (hS : RowAt w B (scells m)) :
    Calls Try.prog 48 #[.slice A l.length c, .slice B m.length d] w fun e w' => e = .returned (.bool (decide (l = m))) ∧ Below w.heap.size w w' := by
  have HR := Lib.hid hR; clear hR
  have HS := Lib.hid hS; clear hS
  by_cases hlen : l.length = m.length
  case neg =>
    have hb : decide (l = m) = false := by simp; intro h; exact hlen (by rw [h])
    rw [hb]
    go_enter Try.func48, Try.ntmps48
    go_wp2
    go_ret
    exact ⟨rfl, Below.refl _ _⟩
  have HL := Lib.hid hlen
  rw [← hlen]; clear hlen
  go_enter Try.func48, Try.ntmps48
  go_wp2
  go_loopw [5] (fun i wr => ∃ k : Nat, k ≤ l.length ∧ i = .int .i64 k ∧ Hid (l.take k = m.take k) ∧ Hid (Below w.heap.size w wr)) (fun i _ => l.length - (intOf i).toNat)
  case atStart => exact ⟨0, Nat.zero_le _, rfl, by simp [Hid], Below.refl _ _⟩
  case round =>
    obtain ⟨k, hk, rfl, HE, HW⟩ := hrel
    by_cases hlt : k < l.length
    · obtain ⟨x, hx⟩ := some_at hlt
      obtain ⟨y, hy⟩ := some_at (show k < m.length by have := HL.out; omega)
      obtain ⟨ad, rfl, hc⟩ := (HR.out.below HW.out).get (scells_at hx)
      obtain ⟨bd, rfl, hd⟩ := (HS.out.below HW.out).get (scells_at hy)
      have HX := Lib.hid hx; clear hx
      have HY := Lib.hid hy; clear hy
      by_cases hxy : x = y
      · subst hxy
        go_wp2_with fail
        go_quiet (fail)
        go_wp2
        go_roundw
        case rel => exact ⟨k + 1, by omega, by go_num, take_eq_snoc HX.out HY.out HE.out, below_drewN HW.out _⟩
        case measure => simp [intOf]; omega
      · have HF : Hid (decide (l = m) = false) := by
          simp only [Hid, decide_eq_false_iff_not]
          intro h
          have h1 := HX.out
          rw [h, HY.out] at h1
          exact hxy (by injection h1 with h1; exact h1.symm)
        have hne := str_ne hxy
        go_wp2_with fail
        go_quiet (fail)
        go_wp2
        go_ret
        exact ⟨ret_bool HF.out.symm, below_drewN HW.out _⟩
    · have HT : Hid (decide (l = m) = true) := by
        simp only [Hid, decide_eq_true_iff]
        exact eq_of_take (by have := HE.out; rwa [show k = l.length by omega] at this) HL.out
      go_wp2
      go_ret
      exact ⟨ret_bool HT.out.symm, HW.out⟩

def markB : ByteArray := ⟨#[109, 97, 114, 107]⟩
set_option maxHeartbeats 800000 in
set_option maxRecDepth 100000 in
theorem lentTexts_calls (A : Option Addr) (c : Nat) (l : List ByteArray) (w : World) (hn : (l.length + 1) * 16 ≤ 140737488351232) (hR : RowAt w A (scells l)) :
    Calls Try.prog 13 #[.slice A l.length c] w fun e w' => ∃ g cap, e = .returned (.slice (some ⟨g, 0, none⟩) l.length cap) ∧ l.length + 1 ≤ cap ∧ RowAt w' (some ⟨g, 0, none⟩) (scells l ++ [.string markB]) ∧ Below w.heap.size w w' := by
  go_enter Try.func13, Try.ntmps13
  go_wp2_with fail
  refine (copyTexts_calls A c l w (by omega) hR).mono ?_
  rintro e w1 ⟨v1, rfl, hown1, hb1⟩
  have HO := Lib.hid hown1; clear hown1
  have HB := Lib.hid hb1; clear hb1
  clear hR
  have hz : w.heap.size ≤ w1.heap.size := HB.out.size
  go_wp2_with (at_builtin; refine app_row el_texts w.heap.size rfl _ _ rfl rfl (HO.out.alloc _) (news := [.string markB]) rfl rfl (rowAt_alloc w1 [.string markB] _) (by intro u hu; simp at hu; subst hu; rfl) (by omega) (by simp; omega) ?_; intro v2 w2 hown2 hg2 _; obtain ⟨g, cap, rfl, hg, hcap, hrow⟩ := own_form hown2 (by omega))
  have HR2 := Lib.hid hrow; clear hrow
  have HG := Lib.hid ((HB.out.alloc hz (.cells #[.string markB] 9)).grown hg2 (by simp; omega) (own_base HO.out)); clear hg2
  clear hown2
  go_ret
  exact ⟨g, cap, rfl, hcap, HR2.out, HG.out⟩

def staysB (l was : List ByteArray) (m : ByteArray) : Bool := decide (l = was) && decide (m = markB)
set_option maxHeartbeats 800000 in
theorem staysTexts_calls (A B : Option Addr) (c d : Nat) (l m : List ByteArray) (x : ByteArray) (w : World) (hn : l.length ≤ 4000000000000000000) (hc : l.length + 1 ≤ c) (hR : RowAt w A (scells l ++ [.string x])) (hS : RowAt w B (scells m)) :
    Calls Try.prog 24 #[.slice A l.length c, .slice B m.length d] w fun e w' => e = .returned (.bool (decide (l = m) && decide (x = markB))) ∧ Below w.heap.size w w' := by
  obtain ⟨ad, hA, hcell⟩ := hR.get (j := l.length) (u := .string x) (by simp [scells])
  subst hA
  have HC := sameTexts_calls (some ad) B c d l m w hn hR.left hS
  by_cases hlm : l = m
  · have HCC : Hid _ := HC; clear HC
    have hb : decide (l = m) = true := by simpa using hlm
    rw [hb] at HCC ⊢
    have Hlm := Lib.hid hlm; clear hlm hb
    go_enter Try.func24, Try.ntmps24
    go_wp2_with fail
    refine Calls.mono HCC.out ?_
    rintro e w1 ⟨rfl, hb1⟩
    replace hcell := cell_kept hb1 (Nat.le_refl _) hcell
    have HB := Lib.hid hb1; clear hb1
    clear hR hS HCC
    go_wp2
    go_ret
    exact ⟨ret_bool (by rw [← str_beq]; simp [markB]), HB.out⟩
  · have hb : decide (l = m) = false := by simpa using hlm
    rw [hb] at HC ⊢
    have HCC : Hid _ := HC; clear HC
    clear hlm hb
    go_enter Try.func24, Try.ntmps24
    go_wp2_with fail
    refine Calls.mono HCC.out ?_
    rintro e w1 ⟨rfl, hb1⟩
    have HB := Lib.hid hb1; clear hb1
    clear hR hS HCC
    go_wp2
    go_ret
    exact ⟨rfl, HB.out⟩
end Go.Proofs.Ytkhfecgmkhjpiaa
