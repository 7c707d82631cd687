/- What the law GenTells asks of the forms' methods. -/
import Derived.Test.YtiocealhadlggaaGreatGenChain
import Derived.Test.YtiocealhadlggaaGreatSplitEdit
import Derived.Test.YtiocealhadlggaaGreatBookApart
import Derived.Deep.RegionHeldLaw
import Derived.Deep.DeepCutAuto
import Derived.Deep.CutBlock
namespace Go.Proofs.YtiocealhadlggaaGreat
open Go.RowKit
set_option linter.unusedVariables false

section
variable (tc : TypeId) (vc : Value) (w : World)
set_option maxRecDepth 100000 in
theorem nameOne_calls : Calls Tryz.prog 101 #[commonV (.iface tc vc) 1] w fun e w' => e = .returned (.string ⟨#[103, 49]⟩) ∧ Below w.heap.size w w' := by
  go_enter Tryz.func101, Tryz.ntmps101
  go_wp2_with fail
  refine (Tryz.strconv_Itoa_small 1 (by omega) _).mono ?_
  rintro e _ ⟨rfl, rfl⟩
  have hd : (⟨(Lib.decDigits 1).toArray⟩ : ByteArray) = ⟨#[49]⟩ := by rw [Lib.decDigits]; rfl
  rw [hd]
  have r1 := fun W : World => run_string_add (P := Tryz.prog) W ⟨#[103]⟩ ⟨#[49]⟩ (by decide) (by decide)
  have e1 : (⟨#[103]⟩ : ByteArray) ++ ⟨#[49]⟩ = ⟨#[103, 49]⟩ := by decide
  rw [e1] at r1
  go_wp2
  go_ret
  exact ⟨rfl, (Below.refl _ _).alloc (Nat.le_refl _) _⟩
set_option maxRecDepth 100000 in
theorem nameTwo_calls : Calls Tryz.prog 101 #[commonV (.iface tc vc) 2] w fun e w' => e = .returned (.string ⟨#[103, 50]⟩) ∧ Below w.heap.size w w' := by
  go_enter Tryz.func101, Tryz.ntmps101
  go_wp2_with fail
  refine (Tryz.strconv_Itoa_small 2 (by omega) _).mono ?_
  rintro e _ ⟨rfl, rfl⟩
  have hd : (⟨(Lib.decDigits 2).toArray⟩ : ByteArray) = ⟨#[50]⟩ := by rw [Lib.decDigits]; rfl
  rw [hd]
  have r1 := fun W : World => run_string_add (P := Tryz.prog) W ⟨#[103]⟩ ⟨#[50]⟩ (by decide) (by decide)
  have e1 : (⟨#[103]⟩ : ByteArray) ++ ⟨#[50]⟩ = ⟨#[103, 50]⟩ := by decide
  rw [e1] at r1
  go_wp2
  go_ret
  exact ⟨rfl, (Below.refl _ _).alloc (Nat.le_refl _) _⟩
end
/-- Again by a form, of a text that was changed. -/
theorem commonEdit_calls {cv : Value} {F : List UInt8 → Nat} (hc : Cutter cv F) (n : Int) (B : Option Addr) (sn sc : Nat) (s wi : ByteArray) (a c : Nat) (w : World) (hs : s.size ≤ 3000) (hw : wi.size ≤ 3000) (ha : a ≤ s.size) (hcc : c ≤ s.size - a) (hsc : sn ≤ sc) (hl : (cutA F 0 s.data.toList).length = sn) (hR : RowAt w B (pcells (cutA F 0 s.data.toList))) :
    Calls Tryz.prog 98 #[commonV cv n, .slice B sn sc, .string (edit s wi a c), .int .i64 a, .int .i64 ((a : Int) + wi.size), .int .i64 ((wi.size : Int) - c)] w fun e w' => ∃ v, e = .returned v ∧ Own w' w.heap.size 2 v (cutA F 0 (edit s wi a c).data.toList).length (pcells (cutA F 0 (edit s wi a c).data.toList)) ∧ Below w.heap.size w w' := by
  have hA := againEdit_calls hc B sn sc s wi a c (w.alloc (.cells #[cv, .int .i64 n] 64)) hs hw ha hcc hsc hl (hR.alloc _)
  obtain ⟨L, hL⟩ : ∃ L, cutA F 0 (edit s wi a c).data.toList = L := ⟨_, rfl⟩
  obtain ⟨t, ht⟩ : ∃ t, edit s wi a c = t := ⟨_, rfl⟩
  rw [hL, ht] at hA
  rw [hL, ht]
  clear hL ht hl
  obtain ⟨x1, hx1⟩ : ∃ x : Int, (a : Int) + wi.size = x := ⟨_, rfl⟩
  obtain ⟨x2, hx2⟩ : ∃ x : Int, (wi.size : Int) - c = x := ⟨_, rfl⟩
  rw [hx1, hx2] at hA ⊢
  clear hx1 hx2
  obtain ⟨tc, vc, rfl⟩ := hc.ne
  have HA := Lib.hid hA
  have HB := Lib.hid ((Below.refl w.heap.size w).alloc (Nat.le_refl _) (.cells #[.iface tc vc, .int .i64 n] 64))
  clear hA
  go_enter Tryz.func98, Tryz.ntmps98
  go_wp2_with fail
  refine Calls.mono HA.out ?_
  rintro e w1 ⟨v, m, rfl, _, ho, hb1⟩
  have HO := Lib.hid (ho.weaken HB.out.size)
  have HB1 := Lib.hid (below_trans' HB.out hb1)
  clear ho hb1
  go_wp2
  go_ret
  exact ⟨_, rfl, HO.out, HB1.out⟩
/-- A text of one byte, made of a list of one. -/
theorem byte_str (x : UInt8) (W : World) : (convert 49 9 (.slice (some ⟨W.heap.size, 0, none⟩) 1 1)).run Tryz.prog (W.alloc (.cells #[.int .u8 (x.toNat : Int)] 5)) = .ok (.string ⟨#[x]⟩) (W.alloc (.cells #[.int .u8 (x.toNat : Int)] 5)) :=
  bytes_str Tryz.prog 49 5 9 Tryz.underlying49 Tryz.underlying5 Tryz.underlying9 _ 1 1 [x] _ rfl (rowAt_alloc W (bcells [x]) _)
theorem byte_str2 (x : UInt8) (W W' : World) (hb : Below (W.alloc (.cells #[.int .u8 (x.toNat : Int)] 5)).heap.size (W.alloc (.cells #[.int .u8 (x.toNat : Int)] 5)) W') :
    (convert 49 9 (.slice (some ⟨W.heap.size, 0, none⟩) 1 1)).run Tryz.prog W' = .ok (.string ⟨#[x]⟩) W' :=
  bytes_str Tryz.prog 49 5 9 Tryz.underlying49 Tryz.underlying5 Tryz.underlying9 _ 1 1 [x] _ rfl ((rowAt_alloc W (bcells [x]) _).below hb)
theorem cutG1 (A : Option Addr) (cp : Nat) (l : List ByteArray) (W : World) (hcp : l.length ≤ cp) (hn : l.length ≤ 1000000) (hs : totalLen l ≤ 1000000) (hR : RowAt W A (scells l)) :
    Calls Tryz.prog 155 #[.agg #[.int .i64 64], .slice A l.length cp] W fun e w' => ∃ v, e = .returned v ∧ Own w' W.heap.size 2 v (cutA (minF 64) 0 (joinB l).data.toList).length (pcells (cutA (minF 64) 0 (joinB l).data.toList)) ∧ Below W.heap.size W w' := by
  have h1 := evenCut_calls 64 A l.length cp l W (by omega) rfl (by omega) hs hR
  have e1 : fixedZ 64 (totalLen l) = cutA (minF 64) 0 (joinB l).data.toList := by
    rw [fixed_cut (by decide), data_length, ← joinB_size, fixedZ_pos (by omega)]; rfl
  rw [e1] at h1
  exact h1
theorem cutG2 (A : Option Addr) (cp : Nat) (l : List ByteArray) (W : World) (hcp : l.length ≤ cp) (hn : l.length ≤ 1000000) (hs : totalLen l ≤ 1000000) (hR : RowAt W A (scells l)) :
    Calls Tryz.prog 158 #[rule 32 64 128 7 5, .slice A l.length cp] W fun e w' => ∃ v, e = .returned v ∧ Own w' W.heap.size 2 v (cutA (firstN 32 64 128 7 5) 0 (joinB l).data.toList).length (pcells (cutA (firstN 32 64 128 7 5) 0 (joinB l).data.toList)) ∧ Below W.heap.size W w' :=
  cdcCut_calls 32 64 128 7 5 A l.length cp l W rfl hcp (by omega) hs hR
theorem cutG3 (A : Option Addr) (cp : Nat) (l : List ByteArray) (W : World) (hcp : l.length ≤ cp) (hn : l.length ≤ 1000000) (hs : totalLen l ≤ 1000000) (hR : RowAt W A (scells l)) :
    Calls Tryz.prog 158 #[rule 32 64 128 7 5, .slice A l.length cp] W fun e w' => ∃ v, e = .returned v ∧ Own w' W.heap.size 2 v (cutA (firstN 32 64 128 7 5) 0 (joinB l).data.toList).length (pcells (cutA (firstN 32 64 128 7 5) 0 (joinB l).data.toList)) ∧ Below W.heap.size W w' :=
  cutG2 A cp l W hcp hn hs hR
end Go.Proofs.YtiocealhadlggaaGreat
