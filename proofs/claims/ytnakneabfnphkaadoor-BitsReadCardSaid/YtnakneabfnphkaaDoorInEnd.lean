/- bits.In: Rest, End. -/
import Derived.Test.YtnakneabfnphkaaDoorInNum
namespace Go.Proofs.YtnakneabfnphkaaDoor
open Go.RowKit

/-- All that is left are zero bytes. -/
def zeroB (s : ByteArray) : Bool := s.data.toList.all (· == 0)
theorem dropAll_nil (p : UInt8 → Bool) (l : List UInt8) : l.dropWhile p = [] ↔ ∀ x ∈ l, p x = true := by
  induction l with
  | nil => simp
  | cons y ys ih =>
    rw [List.dropWhile_cons]
    by_cases h : p y = true
    · rw [if_pos h, ih]; simp [h]
    · rw [if_neg h]; simp [h]
theorem dropAll_head (p : UInt8 → Bool) (l : List UInt8) (y : UInt8) (ys : List UInt8) (h : l.dropWhile p = y :: ys) : ¬ p y = true := by
  induction l with
  | nil => simp at h
  | cons z zs ih =>
    rw [List.dropWhile_cons] at h
    by_cases hz : p z = true
    · rw [if_pos hz] at h; exact ih h
    · rw [if_neg hz] at h; injection h with h1 h2; rw [← h1]; exact hz
theorem trimB_nil (l : List UInt8) : Lib.trimB l 0 = [] ↔ l.all (· == 0) = true := by
  unfold Lib.trimB Lib.trimLeftB Lib.trimRightB
  rw [dropAll_nil, List.all_eq_true]
  constructor
  · intro h
    have h2 : l.reverse.dropWhile (· == (0 : UInt8)) = [] := by
      cases hd : l.reverse.dropWhile (· == (0 : UInt8)) with
      | nil => rfl
      | cons y ys =>
        have hy := h y (by rw [hd]; simp)
        exact absurd hy (dropAll_head (· == (0 : UInt8)) _ _ _ hd)
    rw [dropAll_nil] at h2
    exact fun x hx => h2 x (by simpa using hx)
  · intro h x hx
    have h2 : l.reverse.dropWhile (· == (0 : UInt8)) = [] := (dropAll_nil _ _).2 (fun x hx => h x (by simpa using hx))
    rw [h2] at hx
    simp at hx
theorem empty_toList : ByteArray.empty.toList = [] := by
  have h := str_beq ByteArray.empty ByteArray.empty
  cases hh : ByteArray.empty.toList with
  | nil => rfl
  | cons x xs => have := congrArg List.length hh; simp [ByteArray.toList, ByteArray.toList.loop] at this
theorem trim_zero (s : ByteArray) : (⟨(Lib.trimB s.data.toList 0).toArray⟩ : ByteArray).toList.isEmpty = zeroB s := by
  have e0 : ∀ t : ByteArray, t.toList.isEmpty = (t.toList == ByteArray.empty.toList) := by
    intro t; rw [empty_toList]; cases t.toList <;> rfl
  rw [e0, str_beq]
  have e1 : ((⟨(Lib.trimB s.data.toList 0).toArray⟩ : ByteArray) = ByteArray.empty) ↔ Lib.trimB s.data.toList 0 = [] := by
    constructor
    · intro h
      have := congrArg (fun b : ByteArray => b.data.toList) h
      simpa using this
    · intro h; rw [h]; rfl
  have e2 := e1.trans (trimB_nil s.data.toList)
  cases h : zeroB s
  · exact decide_eq_false (fun hh => by have := e2.1 hh; rw [zeroB] at h; rw [h] at this; cases this)
  · exact decide_eq_true (e2.2 h)
def restI (e : Int) (s : ByteArray) : Bool := decide (e = 0) && zeroB s
theorem inRest_calls (g : Nat) (e : Int) (s : ByteArray) (w : World) (h : InS w g e s) (hs : s.size ≤ 1000000000) :
    Calls Tryd.prog 30 #[.pointer (some ⟨g, 0, none⟩)] w fun r w' => r = .returned (.bool (restI e s)) ∧ Below w.heap.size w w' := by
  have k0 := h.c0
  have k1 := h.c1
  clear h
  by_cases he : e = 0
  · subst he
    have hr : restI 0 s = zeroB s := by simp [restI]
    rw [hr]
    have HT : Box _ := ⟨Tryd.strings_Trim_one s 0 (by decide) w (by omega)⟩
    have hz := trim_zero s
    clear hr
    obtain ⟨t, ht⟩ : ∃ t : ByteArray, ⟨(Lib.trimB s.data.toList 0).toArray⟩ = t := ⟨_, rfl⟩
    rw [ht] at HT hz
    clear ht
    obtain ⟨z, hz2⟩ : ∃ z, zeroB s = z := ⟨_, rfl⟩
    rw [hz2] at hz ⊢
    clear hz2
    go_enter Tryd.func30, Tryd.ntmps30
    go_wp2_with fail
    refine Calls.mono HT.out ?_
    rintro r w1 ⟨rfl, hw⟩
    have HB : Box (Below w.heap.size w w1) := ⟨by
      rcases hw with rfl | rfl
      · exact Below.refl _ _
      · exact below_drewN (Below.refl _ _) 1⟩
    clear hw
    go_wp2_with fail
    go_ret
    exact ⟨ret_bool (by first | rfl | exact hz), HB.out⟩
  · have hr : restI e s = false := by simp [restI, he]
    rw [hr]
    clear hr
    go_enter Tryd.func30, Tryd.ntmps30
    go_wp2_with fail
    go_ret
    exact ⟨rfl, Below.refl _ _⟩
theorem inRest_nil (w : World) : Calls Tryd.prog 30 #[.pointer none] w fun r w' => r = .returned (.bool false) ∧ w = w' := by
  go_enter Tryd.func30, Tryd.ntmps30
  go_wp2_with fail
  go_ret
  exact ⟨rfl, rfl⟩
/-- End. -/
def endI (e : Int) (s : ByteArray) : Int := if e = 0 ∧ zeroB s = false then 6 else e
theorem inEnd_calls (g : Nat) (e : Int) (s : ByteArray) (w : World) (h : InS w g e s) (hs : s.size ≤ 1000000000) :
    Calls Tryd.prog 32 #[.pointer (some ⟨g, 0, none⟩)] w fun r w' => r = .returned (.int .i64 (endI e s)) ∧ InS w' g (endI e s) s ∧ Touched w w' [g] := by
  have HI : Box _ := ⟨h⟩
  have HR : Box _ := ⟨inRest_calls g e s w h hs⟩
  have k1 := h.c1
  clear h
  by_cases he : e = 0
  · subst he
    by_cases hz : zeroB s = true
    · have hr : restI 0 s = true := by simp [restI, hz]
      have hd : endI 0 s = 0 := by rw [endI, if_neg (by simp [hz])]
      rw [hr] at HR
      rw [hd]
      clear hr hd hz
      go_enter Tryd.func32, Tryd.ntmps32
      go_wp2_with fail
      refine Calls.mono HR.out ?_
      rintro r w1 ⟨rfl, hb⟩
      have HI1 : Box _ := ⟨HI.out.below hb⟩
      have HT1 : Box _ := ⟨Touched.of_below hb [g]⟩
      clear hb k1
      have k1 := HI1.out.c1
      go_wp2_with fail
      go_ret
      exact ⟨rfl, HI1.out, HT1.out⟩
    · have hr : restI 0 s = false := by simp [restI, hz]
      have hd : endI 0 s = 6 := by rw [endI, if_pos ⟨rfl, by simpa using hz⟩]
      rw [hr] at HR
      rw [hd]
      clear hr hd hz
      go_enter Tryd.func32, Tryd.ntmps32
      go_wp2_with fail
      refine Calls.mono HR.out ?_
      rintro r w1 ⟨rfl, hb⟩
      have HI1 : Box _ := ⟨HI.out.below hb⟩
      have HT1 : Box _ := ⟨Touched.of_below hb [g]⟩
      clear hb k1
      have k1 := HI1.out.c1
      have f1 := HI1.out.f1
      have k2 := (HI1.out.fail 6).c1
      go_wp2_with fail
      go_ret
      exact ⟨rfl, HI1.out.fail 6, HT1.out.setCell (.inl (by simp)) _⟩
  · have hd : endI e s = e := by rw [endI, if_neg (fun h => he h.1)]
    rw [hd]
    clear hd
    go_enter Tryd.func32, Tryd.ntmps32
    go_wp2_with fail
    go_ret
    exact ⟨rfl, HI.out, Touched.refl _ _⟩
theorem inEnd_nil (w : World) : Calls Tryd.prog 32 #[.pointer none] w fun r w' => r = .returned (.int .i64 1) ∧ w = w' := by
  go_enter Tryd.func32, Tryd.ntmps32
  go_wp2_with fail
  go_ret
  exact ⟨rfl, rfl⟩
end Go.Proofs.YtnakneabfnphkaaDoor
