/- Package gen: what each form's methods do, met through the interface. -/
import Derived.Test.YtiocealhadlggaaGen
import Derived.Test.YtiocealhadlggaaSplitSame
namespace Go.Proofs.Ytiocealhadlggaa
open Go.RowKit
set_option linter.unusedVariables false

/-- A form of a store, as a value; its cutter; how long first pieces are; the form behind it. -/
inductive GForm : Int → TypeId → Value → (List UInt8 → Nat) → Int → Prop
  | one : GForm 1 33 (commonV (.iface 80 (.agg #[.int .i64 64])) 1) (minF 64) 2
  | two : GForm 2 35 (commonV (.iface 84 (rule 32 64 128 7 5)) 2) (firstN 32 64 128 7 5) 3
  | three : GForm 3 38 (commonV (.iface 84 (rule 32 64 128 7 5)) 3) (firstN 32 64 128 7 5) 0
theorem gform_of {g : Int} (h1 : 1 ≤ g) (h3 : g ≤ 3) : ∃ t v F nx, GForm g t v F nx := by
  rcases (by omega : g = 1 ∨ g = 2 ∨ g = 3) with rfl | rfl | rfl
  · exact ⟨_, _, _, _, .one⟩
  · exact ⟨_, _, _, _, .two⟩
  · exact ⟨_, _, _, _, .three⟩
section
variable {g nx : Int} {t : TypeId} {v : Value} {F : List UInt8 → Nat} (h : GForm g t v F nx)
include h
theorem GForm.form : ∃ cv, Form g cv F ∧ v = commonV cv g := by
  cases h
  · exact ⟨_, .one, rfl⟩
  · exact ⟨_, .two, rfl⟩
  · exact ⟨_, .three, rfl⟩
set_option maxRecDepth 100000 in
theorem GForm.of (w : World) : Calls Try.prog 15 #[.int .i64 g] w fun e w' => e = .returned (.tuple #[.iface t v, .int .i64 0]) ∧ Below w.heap.size w w' := by
  cases h
  · go_enter Try.func15, Try.ntmps15
    go_wp2_with fail
    refine (of1_calls _).mono ?_
    rintro e w1 ⟨rfl, hb1⟩
    have HB := Lib.hid (hb1.alloc hb1.size (.cells #[.iface 80 (.agg #[.int .i64 64]), .int .i64 1] 31))
    clear hb1
    go_wp2
    go_ret2
    exact ⟨rfl, HB.out⟩
  · go_enter Try.func15, Try.ntmps15
    go_wp2_with fail
    refine (of2_calls _).mono ?_
    rintro e w1 ⟨rfl, hb1⟩
    have HB := Lib.hid (hb1.alloc hb1.size (.cells #[.iface 84 (rule 32 64 128 7 5), .int .i64 2] 31))
    clear hb1
    go_wp2
    go_ret2
    exact ⟨rfl, HB.out⟩
  · go_enter Try.func15, Try.ntmps15
    go_wp2_with fail
    refine (of3_calls _).mono ?_
    rintro e w1 ⟨rfl, hb1⟩
    have HB := Lib.hid (hb1.alloc hb1.size (.cells #[.iface 84 (rule 32 64 128 7 5), .int .i64 3] 31))
    clear hb1
    go_wp2
    go_ret2
    exact ⟨rfl, HB.out⟩
end
theorem genOfNone_calls (g : Int) (w : World) (hg : g < 1 ∨ 3 < g) : Calls Try.prog 15 #[.int .i64 g] w fun e w' => e = .returned (.tuple #[.nilIface, .int .i64 1]) ∧ Below w.heap.size w w' := by
  go_enter Try.func15, Try.ntmps15
  go_wp2_with fail
  refine (ofNone_calls g _ hg).mono ?_
  rintro e w1 ⟨rfl, hb1⟩
  have HB := Lib.hid hb1
  clear hb1
  go_wp2
  go_ret2
  exact ⟨rfl, HB.out⟩
/-- Again by a form, of no old cuts: all is cut anew. -/
theorem commonAgain_calls {cv : Value} {F : List UInt8 → Nat} (hc : Cutter cv F) (n : Int) (s : ByteArray) (w : World) (hs : s.size ≤ 3000) :
    Calls Try.prog 78 #[commonV cv n, .slice none 0 0, .string s, .int .i64 0, .int .i64 s.size, .int .i64 s.size] w fun e w' => ∃ v, e = .returned v ∧ Own w' w.heap.size 2 v (cutA F 0 s.data.toList).length (pcells (cutA F 0 s.data.toList)) ∧ Below w.heap.size w w' := by
  have hk := again_ok hc.best (s := []) (t := s.data.toList) (a := 0) (b := s.data.toList.length) (g := (s.data.toList.length : Int)) rfl (by rw [List.drop_length, List.drop_nil]) (Nat.zero_le _) (Nat.le_refl _) (by omega) (by simp)
  have e0 : cutA F 0 ([] : List UInt8) = [] := rfl
  rw [e0, data_length] at hk
  have hA := fun W => again_calls hc none 0 0 [] s 0 (s.size : Int) (s.size : Int) W (by omega) (by omega) (by omega) rfl (by omega) (by omega) (by omega) (by simp) (.inl rfl)
  obtain ⟨R, hR⟩ : ∃ R, againR F s.data.toList [] 0 (s.size : Int) (s.size : Int) = R := ⟨_, rfl⟩
  have hk1 : R.1 = cutA F 0 s.data.toList := by rw [← hR]; exact hk.1
  rw [hR] at hA
  clear hk hR e0
  rw [← hk1]
  clear hk1
  obtain ⟨tc, vc, rfl⟩ := hc.ne
  have HA := Lib.hid hA
  have HB := Lib.hid ((Below.refl w.heap.size w).alloc (Nat.le_refl _) (.cells #[.iface tc vc, .int .i64 n] 31))
  clear hA
  go_enter Try.func78, Try.ntmps78
  go_wp2_with fail
  refine Calls.mono (HA.out _) ?_
  rintro e w1 ⟨v, rfl, ho, hb1⟩
  have HO := Lib.hid (ho.weaken HB.out.size)
  have HB1 := Lib.hid (below_trans' HB.out hb1)
  clear ho hb1
  go_wp2
  go_ret
  exact ⟨_, rfl, HO.out, HB1.out⟩
/-- A form's print. -/
theorem commonPrint_calls (tc : TypeId) (vc : Value) (n : Int) (A : Option Addr) (ln cp : Nat) (l : List ByteArray) (w : World) (hn : 1 ≤ n ∧ n ≤ 3) (hl : l.length = ln) (hc : ln ≤ cp) (hln : ln ≤ 140737488355328) (hs : totalLen l ≤ 1000000) (hR : RowAt w A (scells l)) :
    Calls Try.prog 13 #[commonV (.iface tc vc) n, .slice A ln cp] w fun e w' => e = .returned (.agg #[.int .i64 (kindG n), .string (refPrintM (kindG n) (joinB l))]) ∧ Below w.heap.size w w' := by
  have hk : kindG n = 1 ∨ kindG n = 2 := by
    rcases (by omega : n = 1 ∨ n = 2 ∨ n = 3) with rfl | rfl | rfl
    · exact .inl rfl
    · exact .inr rfl
    · exact .inr rfl
  have ho : ofM (kindG n) l = (kindG n, refPrintM (kindG n) (joinB l), 0) := by
    rcases hk with h | h
    · rw [h, ofM, if_pos rfl, refPrintM, if_pos rfl, sumB, sumB, joinB_single]
    · rw [h, ofM, if_neg (by omega), if_pos rfl, refPrintM, if_neg (by omega), sum2B, sum2B, joinB_single]
  obtain ⟨k, hkk⟩ : ∃ k, kindG n = k := ⟨_, rfl⟩
  have hB := fun W => brickKind_calls n W
  have hO := fun W hR => of_calls k A ln cp l W hl hc hln hs hR
  rw [hkk] at ho hB ⊢
  rw [ho] at hO
  obtain ⟨p, hp⟩ : ∃ p, refPrintM k (joinB l) = p := ⟨_, rfl⟩
  rw [hp] at hO ⊢
  have HB := Lib.hid hB
  have HO := Lib.hid hO
  have HR := Lib.hid hR
  clear hB hO hR ho hk hkk hp hl
  go_enter Try.func13, Try.ntmps13
  have hp0 := PrintAt.new (w.alloc (.cells #[.iface tc vc, .int .i64 n] 31)) 0 ByteArray.empty
  rw [World.size_alloc] at hp0
  have HP0 : Box _ := ⟨hp0⟩
  have HB0 := Lib.hid (((Below.refl w.heap.size w).alloc (Nat.le_refl _) (.cells #[.iface tc vc, .int .i64 n] 31)).alloc (by simp) (.cells #[.int .i64 0, .string ByteArray.empty] 44))
  have HR0 := Lib.hid ((HR.out.alloc (.cells #[.iface tc vc, .int .i64 n] 31)).alloc (.cells #[.int .i64 0, .string ByteArray.empty] 44))
  clear hp0
  go_wp2_with fail
  refine Calls.mono (HB.out _) ?_
  rintro e w1 ⟨rfl, hb1⟩
  have HP1 : Box _ := ⟨HP0.out.below hb1⟩
  have HB1 := Lib.hid (below_trans' HB0.out hb1)
  have HR1 := Lib.hid (HR0.out.below hb1)
  clear hb1
  go_wp2_with fail
  refine Calls.mono (HO.out _ HR1.out) ?_
  rintro e w2 ⟨rfl, hb2⟩
  have HP2 : Box _ := ⟨(HP1.out.below hb2).below ((Below.refl w2.heap.size w2).alloc (Nat.le_refl _) (.cells #[.int .i64 k, .string p] 44))⟩
  have HB2 := Lib.hid ((below_trans' HB1.out hb2).alloc (below_trans' HB1.out hb2).size (.cells #[.int .i64 k, .string p] 44))
  have c0 := HP2.out.c0
  have c1 := HP2.out.c1
  have f0 := HP2.out.f0
  have f1 := HP2.out.f1
  clear hb2
  go_wp2_with fail
  have HP3 := HP2.out.set k p
  refine bodyPost_ret (results_cell_mid rfl _ _ (w.heap.size + 1) [.int .i64 k, .string p] _ rfl (range_two HP3.c0 HP3.c1) Try.underlying44 rfl (by kernel_rfl)) rfl ?_
  exact ⟨rfl, (HB2.out.setCell (by simp) _).setCell (by simp) _⟩
end Go.Proofs.Ytiocealhadlggaa
