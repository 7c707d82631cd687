/- What the library's strings.Builder and strings.Join do, over rows and lists of texts. -/
import Derived.Test.YtkhfecgmkhjpiaaOwn
import Derived.Test.YtkhfecgmkhjpiaaBook
import Derived.Test.YtkhfecgmkhjpiaaShelf
namespace Go.Proofs.Ytkhfecgmkhjpiaa
open Go.RowKit
set_option linter.unusedVariables false

/-- A builder of the call's own that holds these bytes. -/
def Bld (w : World) (B b : Nat) (l : List UInt8) : Prop := Lib.IsBuilder 85 5 B b (bcells l) w
theorem Bld.below {w w' : World} {B b : Nat} {l : List UInt8} (h : Bld w B b l) (hb : Below w.heap.size w w') : Bld w' B b l := by
  have key : ∀ p, Lib.BuilderAt 85 5 B b p (bcells l) w → Lib.BuilderAt 85 5 B b p (bcells l) w' := by
    rintro p ⟨h1, v, h2, h3, h4⟩
    exact ⟨h1, v, (hb.block b (Array.getElem?_eq_some_iff.1 h2).1).trans h2, own_below h3 hb, h4⟩
  rcases h with h | h
  · exact .inl (key _ h)
  · exact .inr (key _ h)
theorem Bld.fresh (w : World) : Bld (w.alloc (.cells #[.pointer none, .slice none 0 0] 85)) w.heap.size w.heap.size [] := Lib.fresh_isBuilder _ _ w

theorem builderWrite_calls (B b : Nat) (l : List UInt8) (s : ByteArray) (w : World) (h : Bld w B b l) (hlen : l.length + s.size ≤ 140737488355328) (hB : B ≤ w.heap.size) :
    Calls Try.prog 46 #[.pointer (some ⟨b, 0, none⟩), .string s] w fun e w' => e = .returned (.tuple #[.int .i64 s.size, .nilIface]) ∧ Bld w' B b (l ++ s.data.toList) ∧ Below B w w' := by
  refine (Any.Builder_WriteString { Try.lays156 with } Try.Builder_Extra_156 B b (bcells l) s w h (by simpa [bcells] using hlen) hB).mono ?_
  rintro e w' ⟨rfl, h1, h2⟩
  refine ⟨rfl, .inr ?_, h2⟩
  rw [bcells, List.map_append]
  exact h1
theorem builderString_calls (B b : Nat) (l : List UInt8) (w : World) (h : Bld w B b l) (hB : B ≤ w.heap.size) :
    Calls Try.prog 47 #[.pointer (some ⟨b, 0, none⟩)] w fun e w' => e = .returned (.string ⟨l.toArray⟩) ∧ Below B w w' :=
  Any.Builder_String_any { Try.lays156 with } Try.Builder_Extra_156 B b l w h hB

theorem join_nosep (l : List (List UInt8)) : Lib.join l [] = l.flatten := by
  cases l with
  | nil => rfl
  | cons x r => rw [Lib.join_cons]; simp [Lib.joinTail]

/-- strings.Join(l, ""). -/
theorem stringsJoin_calls (A : Option Addr) (n c : Nat) (l : List ByteArray) (w : World) (hl : l.length = n) (hc : n ≤ c) (hn : n ≤ 140737488355328) (hs : totalLen l ≤ 140737488351232) (hR : RowAt w A (scells l)) :
    Calls Try.prog 81 #[.slice A n c, .string ⟨#[]⟩] w fun e w' => e = .returned (.string (joinB l)) ∧ Below w.heap.size w w' := by
  subst hl
  by_cases h0 : l = []
  · subst h0
    refine (Try.strings_Join_none A c ⟨#[]⟩ w).mono ?_
    rintro e w' ⟨rfl, rfl⟩
    exact ⟨rfl, Below.refl _ _⟩
  · obtain ⟨b, o, rfl, hb, hcell⟩ := hR.addr (by simpa [scells] using h0)
    have e1 : Lib.join (l.map (·.data.toList)) [] = (joinB l).data.toList := by
      rw [join_nosep]
      have key : ∀ (l : List ByteArray) (a : ByteArray), (l.foldl (· ++ ·) a).data.toList = a.data.toList ++ (l.map (·.data.toList)).flatten := by
        intro l
        induction l with
        | nil => intro a; simp
        | cons s l ih => intro a; rw [List.foldl_cons, ih]; simp [ByteArray.data_append]
      have := key l ByteArray.empty
      simpa [joinB] using this.symm
    refine (Try.strings_Join b o c l ⟨#[]⟩ w (fun j x hx => hcell j _ (scells_at hx)) hb hn hc ?_).mono ?_
    · rw [show (⟨#[]⟩ : ByteArray).data.toList = [] from rfl, e1, data_length]
      have := joinB_size l
      omega
    · rintro e w' ⟨rfl, h⟩
      refine ⟨ret_str ?_, h⟩
      rw [show (⟨#[]⟩ : ByteArray).data.toList = [] from rfl, e1, mk_data]

end Go.Proofs.Ytkhfecgmkhjpiaa
