/- Words and contracts that this claim leans on, one text behind the other. -/
import Derived.Test.YtoadelcdcfdmfaaBundle5
import Derived.Test.YtoadelcdcfdmfaaShelf
import Derived.Laws.BitsAllLaws
/- bits.Out: Pad. -/
namespace Go.Proofs.Ytoadelcdcfdmfaa
open Go.RowKit
set_option linter.unusedVariables false

theorem zeros_cells (n : Nat) : (zerosB n).data.map (fun b => Value.int .u8 (b.toNat : Int)) = Builtin.zeroCells #[Value.int .u8 0] n := by
  apply Array.ext
  · simp [zerosB, Builtin.zeroCells]
  · intro i h1 h2
    simp [zerosB, Builtin.zeroCells, Nat.mod_one]
theorem zeros_firstCells {P : Program} (w : World) (n : Nat) : (Builtin.firstCells 1 n (.string (zerosB n))).run P w = .ok (Builtin.zeroCells #[Value.int .u8 0] n) w := by
  have h : (zerosB n).extract 0 n = zerosB n := by
    have h2 : (zerosB n).extract 0 (zerosB n).size = zerosB n := by simp
    rwa [zerosB_size] at h2
  simp only [Builtin.firstCells, h, zeros_cells]
  rfl
theorem run_append_zeros {P : Program} {W : World} (t ti tu ty e : TypeId) (i : TypeInfo) (ht : P.underlying t = some (.slice e)) (hti : P.underlying ti = some (.int .i64)) (htu : P.underlying tu = some .string)
    (hi : P.info? e = some i) (hz : i.zero = some (.int .u8 0)) (hsize : i.size = 1) (hby : i.bytes = 1) (A : Option Addr) (m c n : Nat) (h : m + n ≤ 140737488355328) :
    (Builtin.append_ #[t, ti] ty #[.slice A m c, .int .i64 (n : Int)]).run P W = (Builtin.append_ #[t, tu] ty #[.slice A m c, .string (zerosB n)]).run P W := by
  obtain ⟨l, hl⟩ : ∃ l : Int, (n : Int) = l := ⟨_, rfl⟩
  rw [hl]
  have e1 : IntKind.i64.wrap l = l := IntWalk.i64_in _ (by omega)
  have e2 : ¬ (l < 0) := by omega
  have e3 : ¬ ((281474976710656 : Int) < l) := by omega
  have e9 : l.toNat = n := by omega
  have hzs := zerosB_size n
  have hf := fun w => zeros_firstCells (P := P) w n
  have hz1 : (Value.int .u8 0).cells = #[.int .u8 0] := rfl
  have e4 : ∀ w, (asInt (.int .i64 l)).run P w = .ok l w := fun w => rfl
  have e5 : ∀ w, (zeroValue e).run P w = .ok (.int .u8 0) w := by intro w; simp [zeroValue, typeInfo, hi, hz]
  have e7 : ¬ ((9223372036854775807 : Int) < (m : Int) + (n : Int)) := by omega
  have h00 : Builtin.zeroCells #[Value.int .u8 0] 0 = #[] := by simp [Builtin.zeroCells]
  have e8 : ¬ ((9223372036854775807 : Int) < (m : Int) + max l 0) := by omega
  by_cases hr : m + n ≤ c
  · by_cases h0 : n = 0
    · have hr' : m ≤ c := by omega
      rw [h0] at hzs hf e9 ⊢
      simp [Builtin.append_, run_underlying ht, run_underlying hti, run_underlying htu, sizeOf, typeInfo, hi, hsize, hby, Builtin.lenOf, hzs, e4, e1, e2, e3, e9, hf, hr', h00]
    · simp [Builtin.append_, run_underlying ht, run_underlying hti, run_underlying htu, sizeOf, typeInfo, hi, hsize, hby, Builtin.lenOf, hzs, e4, e1, e2, e3, e9, hf, h0, e5, hz1, hr]
  · have e6 : ¬ (281474976710656 < Builtin.nextslicecap (m + n) c) := by
      have := growslice_fits (need := m + n) (old := c) (bytes := 1) (by omega) (by omega)
      omega
    by_cases h0 : n = 0
    · have hr' : ¬ (m ≤ c) := by omega
      have e7' : ¬ ((9223372036854775807 : Int) < (m : Int)) := by omega
      rw [h0] at hzs hf e9 e6 ⊢
      rw [Nat.add_zero] at e6
      simp [Builtin.append_, run_underlying ht, run_underlying hti, run_underlying htu, sizeOf, typeInfo, hi, hsize, hby, Builtin.lenOf, hzs, e4, e1, e2, e3, e6, e7', e8, e9, hf, hr', h00]
    · simp [Builtin.append_, run_underlying ht, run_underlying hti, run_underlying htu, sizeOf, typeInfo, hi, hsize, hby, Builtin.lenOf, hzs, e4, e1, e2, e3, e6, e7, e8, e9, hf, h0, e5, hz1, hr]

/-- append(b, make([]byte, n)...) as a step of a region that draws its order. -/
theorem step_appZ {P : Program} {ops : Array Oper} {o : Oper} {a : Act} {K : Act → World → Prop} {Q : Exit → Act → World → Prop} {E' : Prop} {t ti tu e : TypeId} {i : TypeInfo} (ht : P.underlying t = some (.slice e)) (hti : P.underlying ti = some (.int .i64)) (htu : P.underlying tu = some .string)
    (hi : P.info? e = some i) (hz : i.zero = some (.int .u8 0)) (hsize : i.size = 1) (hby : i.bytes = 1) {W : World} (base : Nat) (hgd : o.guard = none) (s x : Operand)
    (ho : o.op = .call { callee := .builtin .append, args := #[s, x], argTypes := #[t, ti] })
    {v : Value} {n : Nat} {xs : List Value} (hs : a.eval s = v) (hown : W.ownsRow base e 1 v n xs)
    {m : Nat} (hx : a.eval x = .int .i64 (m : Int)) (hbytes : n + m ≤ 140737488355328) (hbase : base ≤ W.heap.size)
    (h : ∀ v' w', w'.ownsRow base e 1 v' (n + m) (xs ++ bcells (List.replicate m 0)) → W.grownBy w' v.ownBlock → (v'.ownBlock = v.ownBlock ∨ v'.ownBlock = some W.heap.size) → K (a.put o.dst v') w') :
    if Region.wanted o (yielded ops a.tmps) = true then Oper.wp P o a W K Q else E' := by
  have hw : Region.wanted o (yielded ops a.tmps) = true := by simp [Region.wanted, hgd]
  rw [if_pos hw]
  have hsz := zerosB_size m
  obtain ⟨v', w', hr, h2, h3, _⟩ := Lib.run_append_own_string (P := P) W base t tu o.type e i ht htu hi hz hsize hby v n xs hown (zerosB m) (by unfold maxLen; omega) (by omega) hbase
  have h4 := str_where base t tu o.type e i ht htu hi hz hsize hby v n xs hown (zerosB m) (by omega) v' w' hr
  obtain ⟨A, c, rfl, _, _, _⟩ := (Own.of_row hown).slice
  rw [← run_append_zeros t ti tu o.type e i ht hti htu hi hz hsize hby A n c m hbytes] at hr
  rw [hsz] at h2
  have h5 : Lib.strCells (zerosB m) = bcells (List.replicate m 0) := by simp [Lib.strCells, bcells, zerosB]
  rw [h5] at h2
  unfold Oper.wp execOp
  simp only [ho, resolve, invoke, builtin, Sem.run_bind, Sem.run_pure, Result.andThen_ok, List.map_toArray, List.map_cons, List.map_nil, hs, hx, hr]
  exact h v' w' h2 h3 h4

/-- An Out that bears an error. -/
structure OutErr (w : World) (g : Nat) (x : Int) : Prop where
  c1 : w.cell? ⟨g, 1, none⟩ = some (.int .i64 x)
  f1 : w.frozen? ⟨g, 1, none⟩ = false
  nz : x ≠ 0
theorem OutAt.fail {w : World} {g : Nat} {v : Value} {l : List UInt8} (h : OutAt w g v l) {x : Int} (hx : x ≠ 0) : OutErr (w.setCell ⟨g, 1, none⟩ (.int .i64 x)) g x :=
  ⟨World.cell?_setCell_same' w _ _ (by rw [h.c1]; simp), by rw [World.frozen?_setCell]; exact h.f1, hx⟩

set_option maxHeartbeats 1600000 in
theorem outPad_ok (g : Nat) (v : Value) (l : List UInt8) (n : Nat) (w : World) (hO : OutAt w g v l) (hl : l.length ≤ n) (hn : n ≤ 65536) :
    Calls Try.prog 77 #[.pointer (some ⟨g, 0, none⟩), .int .i64 (n : Int)] w fun e w' => ∃ v', e = .returned (.pointer (some ⟨g, 0, none⟩)) ∧ OutAt w' g v' (l ++ List.replicate (n - l.length) 0) ∧ Touched w w' (g :: v.ownBlock.toList) ∧ (∀ b, v'.ownBlock = some b → v.ownBlock = some b ∨ w.heap.size ≤ b) := by
  have HO : Box (OutAt w g v l) := ⟨hO⟩
  clear hO
  obtain ⟨i0, hi0, hi1, hi2, hi3⟩ := u8_info
  have HI : Box (Try.prog.info? 5 = some i0 ∧ i0.zero = some (.int .u8 0) ∧ i0.size = 1 ∧ i0.bytes = 1) := ⟨hi0, hi1, hi2, hi3⟩
  clear hi0 hi1 hi2 hi3
  obtain ⟨m, hm⟩ : ∃ m, l.length = m := ⟨_, rfl⟩
  have HM : Box (l.length = m) := ⟨hm⟩
  rw [hm] at hl
  obtain ⟨a0, ca, rfl, _, _, _⟩ := (Own.of_row HO.out.own).slice
  have k0 := HO.out.c0
  have k1 := HO.out.c1
  have f0 := HO.out.f0
  rw [hm] at k0 HO
  rw [hm]
  clear hm
  have y1 := IntWalk.i64_in ((n - m : Nat) : Int) (by omega)
  have y2 : ((n : Int) - (m : Int)) = ((n - m : Nat) : Int) := by omega
  have y3 : (m : Int) ≤ (n : Int) := by omega
  have y4 : (n : Int) ≤ 65536 := by omega
  have y5 : (0 : Int) ≤ (n : Int) := by omega
  go_enter Try.func77, Try.ntmps77
  go_wp2_with fail
  obtain ⟨wo, rfl⟩ : ∃ wo : World, wo = w := ⟨_, rfl⟩
  go_region_law
    (first
      | (refine step_appZ Try.underlying67 Try.underlying3 Try.underlying9 HI.out.1 HI.out.2.1 HI.out.2.2.1 HI.out.2.2.2 (g + 1) rfl _ _ rfl (v := .slice a0 m ca) (n := m) (xs := bcells l) rfl (by have h := HO.out.own.drew; rw [HM.out] at h; exact h) (m := n - m) rfl (by omega) (by have := HO.out.lt; simp; omega) ?_; intro v1 w1 hown1 hg1 hp1; obtain ⟨a1, c1, rfl, _, _, _⟩ := (Own.of_row hown1).slice; have hT : Touched wo w1 (Value.slice a0 m ca).ownBlock.toList := (Touched.refl wo _).drew.trans (Touched.of_grown hg1); have k4 := (hT.cell HO.out.lt HO.out.apart).trans HO.out.c0; have e4 := (hT.free HO.out.lt HO.out.apart).trans HO.out.f0; have HT1 : Box _ := ⟨hT⟩; have HW1 : Box _ := ⟨hown1⟩; have HP1 : Box _ := ⟨hp1⟩; clear hown1 hg1 hT hp1))
  all_goals
    go_wp2_with fail
    go_ret
    have em : m + (n - m) = n := by omega
    rw [em] at HW1 HP1
    have hO2 : OutAt (w1.setCell ⟨g, 0, none⟩ (.slice a1 n c1)) g (.slice a1 n c1) (l ++ List.replicate (n - m) 0) := HO.out.grownT (by
      have h := HW1.out
      rw [bcells, List.map_append, List.length_append, HM.out, List.length_replicate, em]
      exact h) HT1.out
    have hT2 : Touched wo (w1.setCell ⟨g, 0, none⟩ (.slice a1 n c1)) (g :: (Value.slice a0 m ca).ownBlock.toList) := (HT1.out.mono (fun k hk _ => List.mem_cons_of_mem _ hk)).setCell (.inl (by simp)) _
    exact ⟨_, rfl, hO2, hT2, fun b hb => HP1.out.elim (fun h => .inl (by rw [← h]; exact hb)) (fun h => .inr (by rw [h] at hb; injection hb with hb; simp at hb; omega))⟩

/-- .. that has more already. -/
theorem outPad_long (g : Nat) (v : Value) (l : List UInt8) (n : Nat) (w : World) (hO : OutAt w g v l) (hl : n < l.length) (hn : n ≤ 65536) :
    Calls Try.prog 77 #[.pointer (some ⟨g, 0, none⟩), .int .i64 (n : Int)] w fun e w' => e = .returned (.pointer (some ⟨g, 0, none⟩)) ∧ OutErr w' g 2 ∧ Touched w w' [g] := by
  have HE : Box (OutErr (w.setCell ⟨g, 1, none⟩ (.int .i64 2)) g 2) := ⟨hO.fail (by decide)⟩
  have HT : Box (Touched w (w.setCell ⟨g, 1, none⟩ (.int .i64 2)) [g]) := ⟨(Touched.refl w _).setCell (.inl (by simp)) _⟩
  obtain ⟨m, hm⟩ : ∃ m, l.length = m := ⟨_, rfl⟩
  obtain ⟨a0, ca, rfl, _, _, _⟩ := (Own.of_row hO.own).slice
  have k0 := hO.c0
  have k1 := hO.c1
  have f1 := hO.f1
  rw [hm] at hl k0
  clear hO hm
  have y3 : (n : Int) < (m : Int) := by omega
  have y4 : (n : Int) ≤ 65536 := by omega
  have y5 : (0 : Int) ≤ (n : Int) := by omega
  go_enter Try.func77, Try.ntmps77
  go_wp2_with fail
  go_ret
  exact ⟨rfl, HE.out, HT.out⟩
/-- .. of a length that may not be. -/
theorem outPad_bad (g : Nat) (v : Value) (l : List UInt8) (n : Int) (w : World) (hO : OutAt w g v l) (hn : n < 0 ∨ 65536 < n) :
    Calls Try.prog 77 #[.pointer (some ⟨g, 0, none⟩), .int .i64 n] w fun e w' => e = .returned (.pointer (some ⟨g, 0, none⟩)) ∧ OutErr w' g 1 ∧ Touched w w' [g] := by
  have HE : Box (OutErr (w.setCell ⟨g, 1, none⟩ (.int .i64 1)) g 1) := ⟨hO.fail (by decide)⟩
  have HT : Box (Touched w (w.setCell ⟨g, 1, none⟩ (.int .i64 1)) [g]) := ⟨(Touched.refl w _).setCell (.inl (by simp)) _⟩
  have k0 := hO.c0
  have k1 := hO.c1
  have f1 := hO.f1
  clear hO
  rcases hn with y3 | y3
  · go_enter Try.func77, Try.ntmps77
    go_wp2_with fail
    go_ret
    exact ⟨rfl, HE.out, HT.out⟩
  · have y4 : ¬ n < 0 := by omega
    go_enter Try.func77, Try.ntmps77
    go_wp2_with fail
    go_ret
    exact ⟨rfl, HE.out, HT.out⟩
/-- .. that bears an error. -/
theorem outPad_err (g : Nat) (x : Int) (n : Int) (w : World) (hE : OutErr w g x) :
    Calls Try.prog 77 #[.pointer (some ⟨g, 0, none⟩), .int .i64 n] w fun e w' => e = .returned (.pointer (some ⟨g, 0, none⟩)) ∧ w = w' := by
  have k1 := hE.c1
  have y1 := hE.nz
  clear hE
  go_enter Try.func77, Try.ntmps77
  go_wp2_with fail
  go_ret
  exact ⟨rfl, rfl⟩
end Go.Proofs.Ytoadelcdcfdmfaa

/- bits.In: Raw. -/
namespace Go.Proofs.Ytoadelcdcfdmfaa
open Go.RowKit
set_option linter.unusedVariables false

theorem clone_calls (s : ByteArray) (w : World) (hs : s.size ≤ 1000000000) : Calls Try.prog 82 #[.string s] w fun e w' => e = .returned (.string s) ∧ Below w.heap.size w w' := by
  go_enter Try.func82, Try.ntmps82
  go_wp2_with fail
  refine (Try.stringslite_Clone s _ (by omega)).mono ?_
  rintro e w1 ⟨rfl, hb⟩
  go_wp2
  go_ret
  exact ⟨rfl, hb⟩

/-- An In at a block: what is left, and no error. -/
structure InAt (w : World) (g : Nat) (s : ByteArray) : Prop where
  c0 : w.cell? ⟨g, 0, none⟩ = some (.string s)
  c1 : w.cell? ⟨g, 1, none⟩ = some (.int .i64 0)
  f0 : w.frozen? ⟨g, 0, none⟩ = false
  f1 : w.frozen? ⟨g, 1, none⟩ = false
theorem InAt.lt {w : World} {g : Nat} {s : ByteArray} (h : InAt w g s) : g < w.heap.size := World.block_lt_of_cell? w _ h.c0
theorem InAt.touched {w w1 : World} {g : Nat} {s : ByteArray} {bs : List Nat} (h : InAt w g s) (hT : Touched w w1 bs) (hn : g ∉ bs) : InAt w1 g s :=
  ⟨(hT.cell h.lt hn).trans h.c0, (hT.cell h.lt hn).trans h.c1, (hT.free h.lt hn).trans h.f0, (hT.free h.lt hn).trans h.f1⟩
theorem InAt.set {w : World} {g : Nat} {s : ByteArray} (h : InAt w g s) (t : ByteArray) : InAt (w.setCell ⟨g, 0, none⟩ (.string t)) g t :=
  ⟨World.cell?_setCell_same' w _ _ (by rw [h.c0]; simp), (World.cell?_setCell_other w ⟨g, 0, none⟩ ⟨g, 1, none⟩ _ (by simp)).trans h.c1, by rw [World.frozen?_setCell]; exact h.f0, by rw [World.frozen?_setCell]; exact h.f1⟩

theorem inRaw_calls (g n : Nat) (s : ByteArray) (w : World) (h : InAt w g s) (hn : n ≤ s.size) (hs : s.size ≤ 1000000000) :
    Calls Try.prog 38 #[.pointer (some ⟨g, 0, none⟩), .int .i64 (n : Int)] w fun e w' => e = .returned (.string (s.extract 0 n)) ∧ InAt w' g (s.extract n s.size) ∧ Touched w w' [g] := by
  have H : Box _ := ⟨h⟩
  have k0 := h.c0
  have k1 := h.c1
  have e0 := h.f0
  have H2 : Box _ := ⟨h.set (s.extract n s.size)⟩
  have HT : Box (Touched w (w.setCell ⟨g, 0, none⟩ (.string (s.extract n s.size))) [g]) := ⟨(Touched.refl w _).setCell (.inl (by simp)) _⟩
  have hes : (s.extract 0 n).size ≤ 1000000000 := by rw [ByteArray.size_extract]; omega
  have b1 : (0 : Int) ≤ (n : Int) := by omega
  have b2 : (n : Int) ≤ (s.size : Int) := by omega
  clear h
  go_enter Try.func38, Try.ntmps38
  go_wp2_with fail
  refine (clone_calls _ _ hes).mono ?_
  rintro e w1 ⟨rfl, hb⟩
  have HB : Box _ := ⟨hb⟩
  clear hb
  go_wp2_with fail
  go_ret
  have hT2 := Touched.of_below HB.out []
  exact ⟨rfl, H2.out.touched hT2 (by simp), HT.out.trans (hT2.mono (by simp))⟩
end Go.Proofs.Ytoadelcdcfdmfaa

/- bits.In: a number of so many bytes. -/
namespace Go.Proofs.Ytoadelcdcfdmfaa
open Go.RowKit
set_option linter.unusedVariables false

theorem numL_snoc (l : List UInt8) (b : UInt8) : numL (l ++ [b]) = numL l + 256 ^ l.length * b.toNat := by
  induction l with
  | nil => simp [numL]
  | cons c r ih =>
    rw [List.cons_append, numL, ih, numL, List.length_cons, Nat.pow_succ, Nat.mul_add, ← Nat.mul_assoc, Nat.mul_comm 256 (256 ^ r.length)]
    omega
theorem numL_or (l : List UInt8) (b : UInt8) (hl : l.length < 4) : bits BinOp.or IntKind.u64 (numL l : Int) ((b.toNat : Int) * 2 ^ (8 * l.length) % 18446744073709551616) = (numL (l ++ [b]) : Int) := by
  have h1 := numL_lt l
  have hb := b.toNat_lt
  have hp : (256 : Nat) ^ l.length = 2 ^ (8 * l.length) := by rw [Nat.pow_mul]
  have hle : (256 : Nat) ^ l.length ≤ 256 ^ 3 := Nat.pow_le_pow_right (by decide) (by omega)
  have h3 : (256 : Nat) ^ 3 = 16777216 := by decide
  have hm : 256 ^ l.length * b.toNat ≤ 16777216 * 256 := Nat.mul_le_mul (by omega) (by omega)
  have e : ((b.toNat : Int) * 2 ^ (8 * l.length) % 18446744073709551616) = ((256 ^ l.length * b.toNat : Nat) : Int) := by
    have e2 : (b.toNat : Int) * 2 ^ (8 * l.length) = ((256 ^ l.length * b.toNat : Nat) : Int) := by
      rw [hp, Int.natCast_mul, Int.natCast_pow, Int.mul_comm]; rfl
    rw [e2]
    omega
  rw [e, u64_or_nat _ _ (by omega) (by omega), numL_snoc, Nat.or_comm]
  rw [hp] at h1 ⊢
  rw [← Nat.two_pow_add_eq_or_of_lt h1, Nat.add_comm]

set_option maxHeartbeats 1600000 in
set_option maxRecDepth 20000 in
theorem inLow_calls (g : Nat) (s : ByteArray) (w : World) (h : InAt w g s) (hs : s.size = 4) :
    Calls Try.prog 81 #[.pointer (some ⟨g, 0, none⟩), .int .i64 4] w fun e w' => e = .returned (.int .i64 (numL s.data.toList : Int)) ∧ Touched w w' [g] := by
  have HR := inRaw_calls g 4 s w h (by omega) (by omega)
  have HRo : Box _ := ⟨HR⟩
  clear HR h
  have hex : s.extract 0 4 = s := by rw [← hs]; simp
  have kb := fun (W : World) (s : ByteArray) => Lib.run_convert_string_bytes (P := Try.prog) W 9 67 5 s Try.underlying9 Try.underlying67 Try.underlying5
  go_enter Try.func81, Try.ntmps81
  go_wp2_with fail
  refine HRo.out.mono ?_
  rintro e w1 ⟨rfl, _, hT⟩
  have HT : Box _ := ⟨hT⟩
  clear hT
  rw [hex]
  have hs1 : s.size ≤ 4 := by omega
  have hs2 : 4 ≤ s.size := by omega
  have HZ := Lib.hid hs
  clear hex HRo hs
  go_wp2_with fail
  have HOB : Box _ := ⟨Own.bytes w1 5 s (by simp only [maxLen]; omega)⟩
  have HTB : Box (Touched w (Lib.bytesWorld w1 5 s) [g]) := ⟨HT.out.trans (Touched.of_below (bytes_below w1 5 s) [] |>.mono (by simp))⟩
  have hn0 : numL s.data.toList < 4294967296 := by
    have := numL_lt s.data.toList
    rw [data_length, HZ.out] at this
    simpa using this
  go_loop [5, 13] (fun x i => ∃ k : Nat, k ≤ s.size ∧ i = .int .i64 (k : Int) ∧ x = .int .u64 (numL (s.data.toList.take k) : Int)) (fun _ i => s.size - (intOf i).toNat)
  case atStart => exact ⟨0, by omega, rfl, rfl⟩
  case round =>
    obtain ⟨k, hk, rfl, rfl⟩ := hrel
    by_cases hlt : k < s.size
    · have hlen : (s.data.toList.take k).length = k := by rw [List.length_take, data_length]; omega
      have hor := numL_or (s.data.toList.take k) s[k] (by omega)
      rw [hlen, ← take_snoc_str s k hlt] at hor
      obtain ⟨p, hp⟩ : ∃ p, numL (s.data.toList.take k) = p := ⟨_, rfl⟩
      obtain ⟨q, hq⟩ : ∃ q, numL (s.data.toList.take (k + 1)) = q := ⟨_, rfl⟩
      rw [hp, hq] at hor
      rw [hp]
      obtain ⟨c0, f0⟩ := HOB.out.cell (j := k) (u := .int .u8 (s[k].toNat : Int)) (bcells_at (by rw [Array.getElem?_toList, Array.getElem?_eq_getElem (show k < s.data.size from hlt)]; rfl))
      have y3 := IntWalk.i64_in (8 * (k : Int)) (by omega)
      have y4 : (8 * (k : Int)).toNat = 8 * k := by omega
      have y5 : (0 : Int) ≤ 8 * (k : Int) := by omega
      have HQ := Lib.hid hq
      have hw1 : IntKind.u64.wrap (s[k].toNat : Int) = (s[k].toNat : Int) := by rw [IntKind.wrap_u64]; have := s[k].toNat_lt; omega
      have HOR : Box (bits BinOp.or IntKind.u64 (p : Int) (IntKind.u64.wrap ((s[k].toNat : Int) * 2 ^ (8 * k))) = (q : Int)) := ⟨by rw [IntKind.wrap_u64]; exact hor⟩
      clear hor
      clear hlen hp hq
      go_wp2_with fail
      go_round
      case rel => exact ⟨k + 1, by omega, by go_num, by first | rw [HOR.out, HQ.out] | rw [hw1, HOR.out, HQ.out]⟩
      case measure => simp [intOf]; omega
    · obtain rfl : k = s.size := by omega
      have ht : s.data.toList.take s.size = s.data.toList := List.take_of_length_le (by rw [data_length]; omega)
      rw [ht]
      obtain ⟨p, hp⟩ : ∃ p, numL s.data.toList = p := ⟨_, rfl⟩
      rw [hp] at hn0 ⊢
      have y6 := IntWalk.i64_in (p : Int) (by omega)
      clear ht
      go_wp2_with fail
      go_ret
      exact ⟨rfl, HTB.out⟩
end Go.Proofs.Ytoadelcdcfdmfaa

/- bits.On(s).Word() for four bytes. -/
namespace Go.Proofs.Ytoadelcdcfdmfaa
open Go.RowKit
set_option linter.unusedVariables false

theorem inWord_calls (g : Nat) (s : ByteArray) (w : World) (h : InAt w g s) (hs : s.size = 4) :
    Calls Try.prog 80 #[.pointer (some ⟨g, 0, none⟩)] w fun e w' => e = .returned (.int .i64 (numL s.data.toList : Int)) ∧ Touched w w' [g] := by
  have H : Box _ := ⟨inLow_calls g s w h hs⟩
  clear h
  go_enter Try.func80, Try.ntmps80
  go_wp2_with fail
  refine H.out.mono ?_
  rintro e w1 ⟨rfl, h2⟩
  go_wp2_with fail
  go_ret
  exact ⟨rfl, h2⟩
theorem on_calls (s : ByteArray) (w : World) : Calls Try.prog 35 #[.string s] w fun e w' => e = .returned (.pointer (some ⟨w.heap.size, 0, none⟩)) ∧ InAt w' w.heap.size s ∧ Below w.heap.size w w' := by
  go_enter Try.func35, Try.ntmps35
  go_wp2
  go_ret
  refine ⟨rfl, ?_, (Below.refl _ _).alloc (Nat.le_refl _) _⟩
  have hb := heap_alloc_new w (.cells #[.string s, .int .i64 0] 104)
  exact ⟨cell_of_row _ _ 0 _ _ (0, 0) hb, cell_of_row _ _ 1 _ _ (0, 0) hb, frozen_of_row _ _ 0 _ _ hb, frozen_of_row _ _ 1 _ _ hb⟩
end Go.Proofs.Ytoadelcdcfdmfaa

/- What is opened: the last four bytes are the sum. -/
namespace Go.Proofs.Ytoadelcdcfdmfaa
set_option linter.unusedVariables false

theorem open_iff (b : ByteArray) (h : 4 ≤ b.size) (c : BitVec 32) : (b.extract 0 (b.size - 4) ++ lowS c.toNat 4 = b) ↔ numL (b.extract (b.size - 4) b.size).data.toList = c.toNat := by
  have hc := w_lt c
  have hb : b.extract 0 (b.size - 4) ++ b.extract (b.size - 4) b.size = b := by
    rw [ByteArray.extract_append_extract]
    simp
    try omega
  have hT : (b.extract (b.size - 4) b.size).data.toList.length = 4 := by
    rw [data_length, ByteArray.size_extract]; omega
  obtain ⟨F, hF⟩ : ∃ F, b.extract 0 (b.size - 4) = F := ⟨_, rfl⟩
  obtain ⟨T, hTT⟩ : ∃ T, b.extract (b.size - 4) b.size = T := ⟨_, rfl⟩
  rw [hF, hTT] at hb
  rw [hTT] at hT
  rw [hF, hTT]
  constructor
  · intro e
    rw [← hb] at e
    have e2 := congrArg (fun x : ByteArray => x.data.toList) e
    simp only [ByteArray.data_append, Array.toList_append] at e2
    have e3 := List.append_cancel_left e2
    rw [← e3]
    show numL (lowL c.toNat 4) = _
    rw [numL_lowL, Nat.mod_eq_of_lt (by simpa using hc)]
  · intro e
    have e2 := lowL_numL T.data.toList
    rw [hT, e] at e2
    rw [← hb, lowS, e2]
end Go.Proofs.Ytoadelcdcfdmfaa

/- crc.Of. -/
namespace Go.Proofs.Ytoadelcdcfdmfaa
open Go.RowKit
set_option linter.unusedVariables false

theorem half_calls' (w : World) : Calls Try.prog 98 #[] w fun e w' => ∃ F : List Value, Box (F = fw crcTab 16) ∧ e = .returned (.agg F.toArray) ∧ Below w.heap.size w w' :=
  (half_calls w).mono fun _ _ ⟨he, hb⟩ => ⟨_, ⟨rfl⟩, he, hb⟩
/-- Four bits of a word, told as the walk tells them. -/
theorem crc_nib (x : BitVec 32) : ∃ q : Nat, q < 16 ∧ bits BinOp.and IntKind.u32 (x.toNat : Int) 15 = (q : Int) ∧ bits BinOp.xor IntKind.u32 ((x.toNat : Int) / (16 : Int)) ((crcTab q).toNat : Int) = ((crcBits 4 x).toNat : Int) := by
  refine ⟨(x &&& 15).toNat, ?_, ?_, ?_⟩
  · rw [BitVec.toNat_and]
    exact Nat.lt_of_le_of_lt Nat.and_le_right (by decide)
  · have e : (15 : Int) = ((15 : BitVec 32).toNat : Int) := by decide
    rw [e, w_and]
  · have h := t_shr x 4
    rw [show (2 : Int) ^ 4 = (16 : Int) by decide] at h
    rw [h, crcTab, BitVec.ofNat_toNat, BitVec.setWidth_eq, w_xor, crc_four]

set_option maxHeartbeats 3200000 in
set_option maxRecDepth 100000 in
theorem crcOf_calls (A : Option Addr) (n c : Nat) (l : List ByteArray) (w : World) (hl : l.length = n) (hn : n ≤ 4000000000000000000) (hs : ∀ s ∈ l, s.size ≤ 140737488351232) (hR : RowAt w A (scells l)) :
    Calls Try.prog 79 #[.slice A n c] w fun e w' => e = .returned (.int .u32 ((crcSum (joinB l).data.toList).toNat : Int)) ∧ Below w.heap.size w w' := by
  subst hl
  have HR := Lib.hid hR; clear hR
  have HS := Lib.hid hs; clear hs
  go_enter Try.func79, Try.ntmps79
  go_wp2_with fail
  refine (half_calls' _).mono ?_
  rintro e w1 ⟨F, HF, rfl, hb1⟩
  have HB1 := Lib.hid hb1; clear hb1
  have hlF : F.length = 16 := by rw [HF.out, fw_length]
  have hoF : F.toArray.all (·.oneCell') = true := by rw [HF.out]; exact all_wcells _
  have hsF : F.toArray.size = 16 := by rw [List.size_toArray, hlF]
  have hO : Own (w1.alloc (.cells (fw (fun _ => 0) 16).toArray 142)) w.heap.size 1 (.slice (some ⟨w1.heap.size, 0, none⟩) 16 16) 16 (fw (fun _ => 0) 16) := by
    have h1 := (Own.fresh w1 (fw (fun _ => 0) 16).toArray 142 (by simp [fw_length, maxLen])).weaken (base' := w.heap.size) HB1.out.size
    simpa [fw_length] using h1
  have HT5 : Box ((w1.alloc (.cells (fw (fun _ => 0) 16).toArray 142)).there w1.heap.size 0 F.toArray.size) := ⟨by rw [hsF]; exact hO.there0⟩
  have HI5 : Box ((Try.prog.info? 142).map (·.size) = some F.toArray.size) := ⟨by rw [hsF]; kernel_rfl⟩
  have HoF : Box _ := ⟨hoF⟩
  have hO2 := hO.all F hlF
  rw [HF.out] at hO2
  have HO2 : Box (Own ((w1.alloc (.cells (fw (fun _ => 0) 16).toArray 142)).setCells w1.heap.size 0 F) w.heap.size 1 (.slice (some ⟨w1.heap.size, 0, none⟩) 16 16) 16 (fw crcTab 16)) := ⟨by rw [HF.out]; exact hO2⟩
  have HB2 : Hid (Below w.heap.size w ((w1.alloc (.cells (fw (fun _ => 0) 16).toArray 142)).setCells w1.heap.size 0 F)) := (HB1.out.alloc HB1.out.size _).grown (grownBy_setCells w1.heap.size F 0 _) (by have := HB1.out.size; simp; omega) (by intro k hk; simp at hk; subst hk; exact HB1.out.size)
  have HRw : Box (RowAt ((w1.alloc (.cells (fw (fun _ => 0) 16).toArray 142)).setCells w1.heap.size 0 F) A (scells l)) := ⟨HR.out.below HB2.out⟩
  clear hlF hoF hsF hO hO2
  go_wp2_with (refine wpList_store_mid rfl 142 _ _ rfl w1.heap.size 0 F.toArray rfl rfl HT5.out HI5.out HoF.out ?_)
  go_simp
  obtain ⟨W, hW⟩ : ∃ W, ((w1.alloc (.cells (fw (fun _ => 0) 16).toArray 142)).setCells w1.heap.size 0 F) = W := ⟨_, rfl⟩
  change Code.wp _ _ _ _ ((w1.alloc (.cells (fw (fun _ => 0) 16).toArray 142)).setCells w1.heap.size 0 F)
  rw [hW] at HO2 HB2 HRw ⊢
  clear hW HR HB1 HT5 HI5 HoF HF
  go_wp2_with fail
  go_loop [3, 11] (fun x i => ∃ (k : Nat) (y : BitVec 32), k ≤ l.length ∧ i = .int .i64 (k : Int) ∧ x = .int .u32 (y.toNat : Int) ∧ Box (y = crcGo (BitVec.allOnes 32) (joinB (l.take k)).data.toList)) (fun _ i => l.length - (intOf i).toNat)
  case atStart => exact ⟨0, BitVec.allOnes 32, by omega, rfl, rfl, ⟨rfl⟩⟩
  case round =>
    obtain ⟨k, y, hk, rfl, rfl, HY⟩ := hrel
    by_cases hlt : k < l.length
    · obtain ⟨s, hs⟩ := some_at hlt
      obtain ⟨ad, rfl, hc⟩ := HRw.out.get (scells_at hs)
      have hss := HS.out s (List.mem_of_getElem? hs)
      have HX : Box (crcGo (BitVec.allOnes 32) (joinB (l.take (k + 1))).data.toList = crcGo y s.data.toList) := ⟨by rw [take_snoc_of hs, joinB_snoc, show (joinB (l.take k) ++ s).data.toList = (joinB (l.take k)).data.toList ++ s.data.toList by simp, crcGo_append, ← HY.out]⟩
      clear hs
      go_wp2_with fail
      go_loop [3, 17] (fun x i => ∃ (n : Nat) (z : BitVec 32), n ≤ s.size ∧ i = .int .i64 (n : Int) ∧ x = .int .u32 (z.toNat : Int) ∧ Box (z = crcGo y (s.data.toList.take n))) (fun _ i => s.size - (intOf i).toNat)
      case atStart => exact ⟨0, y, by omega, rfl, rfl, ⟨rfl⟩⟩
      case round =>
        obtain ⟨n, z, hn, rfl, rfl, HZ⟩ := hrel
        by_cases hlt2 : n < s.size
        · have hx0 := u32_byte' s[n]
          have hxx : bits BinOp.xor IntKind.u32 (z.toNat : Int) (s[n].toNat : Int) = ((z ^^^ bw s[n]).toNat : Int) := by rw [bw_nat, w_xor]
          obtain ⟨v, hv⟩ : ∃ v, z ^^^ bw s[n] = v := ⟨_, rfl⟩
          rw [hv] at hxx
          obtain ⟨q, hq, e1, e2⟩ := crc_nib v
          obtain ⟨q', hq', e3, e4⟩ := crc_nib (crcBits 4 v)
          obtain ⟨c1, _⟩ := HO2.out.cell (j := q) (fw_at _ hq)
          obtain ⟨c2, _⟩ := HO2.out.cell (j := q') (fw_at _ hq')
          have HN : Box (crcGo y (s.data.toList.take (n + 1)) = crcBits 4 (crcBits 4 v)) := ⟨by rw [take_snoc_str s n hlt2, crcGo_snoc, ← HZ.out, crcByte, hv, crc_eight]⟩
          have b1 : (0 : Int) ≤ (q : Int) := by omega
          have b2 : (q : Int) < 16 := by omega
          have b3 : (0 : Int) ≤ (q' : Int) := by omega
          have b4 : (q' : Int) < 16 := by omega
          clear hv
          go_wp2_with fail
          go_round
          case rel => exact ⟨n + 1, crcBits 4 (crcBits 4 v), by omega, by go_num, rfl, ⟨HN.out.symm⟩⟩
          case measure => simp [intOf]; omega
        · obtain rfl : n = s.size := by omega
          go_wp2_with fail
          go_round
          case rel => 
            have hz : z = crcGo (BitVec.allOnes 32) (joinB (l.take (k + 1))).data.toList := by rw [HX.out, HZ.out, List.take_of_length_le (by rw [data_length]; omega)]
            first | exact ⟨k + 1, z, by omega, by go_num, rfl, ⟨hz⟩⟩ | ((repeat apply Exists.intro); exact ⟨⟨k + 1, z, by omega, by go_num, rfl, ⟨hz⟩⟩, rfl⟩)
          case measure => simp [intOf]; omega
    · have HNot : Box (bits BinOp.xor IntKind.u32 (y.toNat : Int) 4294967295 = ((~~~ y).toNat : Int)) := ⟨by rw [show (4294967295 : Int) = ((BitVec.allOnes 32).toNat : Int) by decide, w_xor, BitVec.xor_allOnes]⟩
      have HF : Box (crcSum (joinB l).data.toList = ~~~ y) := ⟨by rw [crcSum, HY.out, List.take_of_length_le (by omega)]⟩
      go_wp2_with fail
      go_ret
      exact ⟨ret_int (by rw [HF.out]; exact HNot.out), HB2.out⟩
end Go.Proofs.Ytoadelcdcfdmfaa

/- crc.Open. -/
namespace Go.Proofs.Ytoadelcdcfdmfaa
open Go.RowKit
set_option linter.unusedVariables false

theorem rowAt_touched {w w' : World} {k : Nat} {xs : List Value} {bs : List Nat} (h : RowAt w (some ⟨k, 0, none⟩) xs) (hT : Touched w w' bs) (hk : k < w.heap.size) (hn : k ∉ bs) : RowAt w' (some ⟨k, 0, none⟩) xs := by
  rcases h with h | ⟨ad, e, hc⟩
  · exact .inl h
  · refine .inr ⟨ad, e, fun j u hu => ?_⟩
    injection e with e
    subst e
    have := hc j u hu
    rw [add0] at this ⊢
    exact (hT.cell hk hn).trans this
set_option maxHeartbeats 1600000 in
theorem crcOpen_calls (b : ByteArray) (w : World) (hs : b.size ≤ 1000000000) : Calls Try.prog 34 #[.string b] w fun e w' => e = .returned (.tuple #[.string (openB b).1, .int .i64 (openB b).2]) ∧ Below w.heap.size w w' := by
  have y1 := IntWalk.i64_in ((b.size : Int) - 4) (by omega)
  by_cases h1 : b.size < 4
  · have e : Box (openB b = (ByteArray.empty, 5)) := ⟨by rw [openB, if_pos h1]⟩
    have y3 : (b.size : Int) - 4 < 0 := by omega
    go_enter Try.func34, Try.ntmps34
    go_wp2
    go_ret2
    exact ⟨by rw [e.out]; rfl, Below.refl _ _⟩
  have y2 : ((b.size : Int) - 4).toNat = b.size - 4 := by omega
  have y3 : (0 : Int) ≤ (b.size : Int) - 4 := by omega
  have y4 : (b.size : Int) - 4 ≤ (b.size : Int) := by omega
  have y5 : (4 : Int) ≤ (b.size : Int) := by omega
  have HI := fun c => open_iff b (by omega) c
  have hFs : (b.extract 0 (b.size - 4)).size ≤ 1000000000 := by rw [ByteArray.size_extract]; omega
  have hTs : (b.extract (b.size - 4) b.size).size = 4 := by rw [ByteArray.size_extract]; omega
  obtain ⟨F, hF⟩ : ∃ F, b.extract 0 (b.size - 4) = F := ⟨_, rfl⟩
  obtain ⟨T, hT⟩ : ∃ T, b.extract (b.size - 4) b.size = T := ⟨_, rfl⟩
  have HE : Box (openB b = if F ++ lowS (crcSum F.data.toList).toNat 4 = b then (F, 0) else (ByteArray.empty, 7)) := ⟨by rw [openB, if_neg h1, hF]⟩
  rw [hF] at HI hFs
  rw [hT] at HI hTs
  have HIb : Box _ := ⟨HI⟩
  have HTs := Lib.hid hTs
  clear HI hTs
  go_enter Try.func34, Try.ntmps34
  go_wp2_with fail
  go_region_law
    (first
      | (go_simp; go_at_call 35; (try rw [hT]); refine (on_calls T _).mono ?_; rintro e w2 ⟨rfl, hin, hb2⟩; have HIn : Box _ := ⟨hin⟩; have HB2 : Box _ := ⟨hb2⟩; clear hin hb2)
      | (go_simp; go_at_call 80; refine (inWord_calls _ T _ (by first | exact HIn.out | (have h := HIn.out; simp at h; exact h) | exact HIn.out.touched ((Touched.refl _ []).alloc _) (by simp)) HTs.out).mono ?_; rintro e w3 ⟨rfl, ht3⟩; have HT3 : Box _ := ⟨ht3⟩; clear ht3)
      | (go_simp; go_at_call 79; refine (crcOf_calls _ 1 1 [F] _ rfl (by omega) (by intro s hs; simp at hs; subst hs; omega) (by first | exact rowAt_alloc _ (scells [F]) _ | exact rowAt_touched (rowAt_alloc _ (scells [F]) _) HT3.out (by simp) (by have h := HIn.out.lt; simp at h ⊢; omega) | exact rowAt_touched ((show RowAt (w.alloc (.cells #[.string F] 9)).drew (some ⟨w.heap.size, 0, none⟩) (scells [F]) from rowAt_alloc w (scells [F]) _).below HB2.out) HT3.out (by have h := HB2.out.size; simp at h; omega) (by simp))).mono ?_; rintro e w4 ⟨rfl, hb4⟩; have HB4 : Box _ := ⟨hb4⟩; clear hb4))
  all_goals
    have hj : joinB [F] = F := by simp [joinB]
    rw [hj]
    have HBw : Box (Below w.heap.size w w4) := ⟨by
      have h := HB2.out.size
      have h2 := HT3.out.size
      simp at h
      have q0 : Below w.heap.size w w2 := by
        first
          | exact ⟨HB2.out.os, HB2.out.tape, HB2.out.output, by omega, fun k hk => HB2.out.block k (by simpa using hk)⟩
          | exact Below.trans ((Below.refl w.heap.size w).alloc (Nat.le_refl _) (.cells #[.string F] 9)) (show Below w.heap.size (w.alloc (.cells #[.string F] 9)) w2 from ⟨HB2.out.os, HB2.out.tape, HB2.out.output, HB2.out.size, fun k hk => HB2.out.block k (by simp; omega)⟩)
      have q1 : Below w.heap.size w w3 := by
        first
          | exact HT3.out.below q0 q0.size (by intro k hk; simp at hk; omega)
          | exact HT3.out.below (q0.alloc q0.size _) (by have := q0.size; simp; omega) (by intro k hk; simp at hk; omega)
      first
        | exact (q1.alloc q1.size _).trans (HB4.out.mono (by have := q1.size; simp; omega))
        | exact q1.trans (HB4.out.mono q1.size)⟩
    have hcc := w_lt (crcSum F.data.toList)
    have HIc := HIb.out (crcSum F.data.toList)
    obtain ⟨c, hc⟩ : ∃ c, crcSum F.data.toList = c := ⟨_, rfl⟩
    rw [hc] at HE HIc hcc ⊢
    have y9 := IntWalk.i64_in (c.toNat : Int) (by omega)
    clear hc hj
    by_cases hq : numL T.data.toList = c.toNat
    · have HR : Box (openB b = (F, 0)) := ⟨by rw [HE.out, if_pos (HIc.2 hq)]⟩
      rw [hq]
      go_wp2_with fail
      go_ret2
      exact ⟨by rw [HR.out]; rfl, HBw.out⟩
    · have HR : Box (openB b = (ByteArray.empty, 7)) := ⟨by rw [HE.out, if_neg (fun e => hq (HIc.1 e))]⟩
      have hqi : ¬ ((numL T.data.toList : Int) = (c.toNat : Int)) := by omega
      go_wp2_with fail
      go_ret2
      exact ⟨by rw [HR.out]; rfl, HBw.out⟩
end Go.Proofs.Ytoadelcdcfdmfaa

/- crc.Seal. -/
namespace Go.Proofs.Ytoadelcdcfdmfaa
open Go.RowKit
set_option linter.unusedVariables false

theorem OutAt.touched {w w1 : World} {g : Nat} {v : Value} {l : List UInt8} {bs : List Nat} (h : OutAt w g v l) (hT : Touched w w1 bs) (hg : g ∉ bs) (hv : ∀ k, v.ownBlock = some k → k ∉ bs) : OutAt w1 g v l := by
  refine ⟨?_, (hT.cell h.lt hg).trans h.c0, (hT.cell h.lt hg).trans h.c1, (hT.free h.lt hg).trans h.f0, (hT.free h.lt hg).trans h.f1⟩
  obtain ⟨h1, h2⟩ := h.own
  refine ⟨h1, ?_⟩
  rcases h2 with hn | ⟨b, cap, cur, rfl, hb, hgg, rest⟩
  · exact .inl hn
  · exact .inr ⟨b, cap, cur, rfl, hb, by rw [hT.block b (Array.getElem?_eq_some_iff.1 hgg).1 (hv b (by simp [Value.ownBlock]))]; exact hgg, rest⟩
theorem OutAt.below {w w1 : World} {g : Nat} {v : Value} {l : List UInt8} (h : OutAt w g v l) (hb : Below w.heap.size w w1) : OutAt w1 g v l :=
  h.touched (Touched.of_below hb []) (by simp) (by simp)
theorem OutAt.alloc {w : World} {g : Nat} {v : Value} {l : List UInt8} (h : OutAt w g v l) (o : Obj) : OutAt (w.alloc o) g v l := h.below ((Below.refl _ _).alloc (Nat.le_refl _) o)
theorem outNew (w : World) : OutAt (w.alloc (.cells #[.slice none 0 0, .int .i64 0] 70)) w.heap.size (.slice none 0 0) [] := by
  have hb := heap_alloc_new w (.cells #[.slice none 0 0, .int .i64 0] 70)
  exact ⟨World.ownsRow_nil _ _ _ _, cell_of_row _ _ 0 _ _ (0, 0) hb, cell_of_row _ _ 1 _ _ (0, 0) hb, frozen_of_row _ _ 0 _ _ hb, frozen_of_row _ _ 1 _ _ hb⟩
theorem RowAt.kept_new {w w1 w2 : World} {A : Option Addr} {cs : List Value} {bs : List Nat} (h : RowAt w A cs) (hb : Below w.heap.size w w1) (hT : Touched w1 w2 bs) (hs : ∀ k ∈ bs, w.heap.size ≤ k) : RowAt w2 A cs :=
  h.below (hT.below hb hb.size hs)

theorem rowAt_alloc_at (w : World) (cs : List Value) (t : TypeId) {k : Nat} (hk : k = w.heap.size) : RowAt (w.alloc (.cells cs.toArray t)) (some ⟨k, 0, none⟩) cs := by
  subst hk
  exact rowAt_alloc w cs t
theorem mk_toList (l : List UInt8) : (⟨l.toArray⟩ : ByteArray).data.toList = l := by simp

set_option maxHeartbeats 1600000 in
theorem crcSeal_calls (A : Option Addr) (n : Int) (c : Nat) (ts : List ByteArray) (w : World) (hn : -9223372036854775808 ≤ n ∧ n ≤ 9223372036854775807) (hts : ts.length ≤ 4000000000000000000) (hsz : totalLen ts ≤ 1000000000) (hR : RowAt w A (scells ts)) :
    Calls Try.prog 33 #[.int .i64 n, .slice A ts.length c] w fun e w' => e = .returned (.tuple #[.string (sealB n (joinB ts)).1, .int .i64 (sealB n (joinB ts)).2]) ∧ Below w.heap.size w w' := by
  have HR : Box _ := ⟨hR⟩
  clear hR
  by_cases h1 : n < 4
  · have e : Box (sealB n (joinB ts) = (ByteArray.empty, 1)) := ⟨by rw [sealB, if_pos (Or.inl h1)]⟩
    go_enter Try.func33, Try.ntmps33
    go_wp2
    go_ret2
    exact ⟨by rw [e.out]; rfl, Below.refl _ _⟩
  by_cases h2 : 65536 < n
  · have e : Box (sealB n (joinB ts) = (ByteArray.empty, 1)) := ⟨by rw [sealB, if_pos (Or.inr h2)]⟩
    go_enter Try.func33, Try.ntmps33
    go_wp2
    go_ret2
    exact ⟨by rw [e.out]; rfl, Below.refl _ _⟩
  obtain ⟨m, rfl⟩ : ∃ m : Nat, n = (m : Int) + 4 := ⟨(n - 4).toNat, by omega⟩
  have hm : m ≤ 65532 := by omega
  clear hn
  have hJ := joinB_size ts
  obtain ⟨J, hJJ⟩ : ∃ J, joinB ts = J := ⟨_, rfl⟩
  have HJ : Box (joinB ts = J) := ⟨hJJ⟩
  rw [hJJ] at hJ
  have hJs : J.size ≤ 1000000000 := by omega
  rw [hJJ]
  clear hJJ hJ
  have HS := Lib.hid hsz
  clear hsz
  have y1 : (m : Int) + 4 - 4 = (m : Int) := by omega
  have H0 : Box (OutAt (w.alloc (.cells #[.slice none 0 0, .int .i64 0] 70)) w.heap.size (.slice none 0 0) []) := ⟨outNew w⟩
  have B0 : Box (Below w.heap.size w (w.alloc (.cells #[.slice none 0 0, .int .i64 0] 70))) := ⟨(Below.refl _ _).alloc (Nat.le_refl _) _⟩
  go_enter Try.func33, Try.ntmps33
  go_wp2_with fail
  refine (outRaw_calls w.heap.size (.slice none 0 0) [] A c ts _ H0.out hts (by have := HS.out; simp; omega) (fun w' hT => HR.out.kept_new B0.out hT (by intro k hk; simp [Value.ownBlock] at hk; omega))).mono ?_
  rintro e w1 ⟨v1, rfl, hO1, hT1, hF1⟩
  rw [List.nil_append, HJ.out] at hO1
  have HO1 : Box _ := ⟨hO1⟩
  have hB1 : Below w.heap.size w w1 := hT1.below B0.out B0.out.size (by intro k hk; simp [Value.ownBlock] at hk; omega)
  have HV1 : Box (∀ b, v1.ownBlock = some b → w.heap.size ≤ b) := ⟨fun b hb => by
    rcases hF1 b hb with h | h
    · simp [Value.ownBlock] at h
    · simp at h; omega⟩
  have HB1 : Box _ := ⟨hB1⟩
  clear hO1 hT1 hF1 hB1 H0 B0
  by_cases h3 : m < J.size
  · have e : Box (sealB ((m : Int) + 4) J = (ByteArray.empty, 2)) := ⟨by rw [sealB, if_neg (by omega), if_pos (by omega)]⟩
    go_wp2_with fail
    refine (outPad_long w.heap.size v1 _ m _ HO1.out (by rw [data_length]; omega) (by omega)).mono ?_
    rintro e w2 ⟨rfl, hE, hT2⟩
    have HE : Box _ := ⟨hE⟩
    have HB2 : Box (Below w.heap.size w w2) := ⟨hT2.below HB1.out HB1.out.size (by intro k hk; simp at hk; omega)⟩
    clear hE hT2
    go_wp2_with fail
    refine (outEnd_err w.heap.size 2 (by decide) _ HE.out.c1).mono ?_
    rintro e w3 ⟨rfl, hb3⟩
    have HB3 : Box (Below w.heap.size w w3) := ⟨below_trans' HB2.out hb3⟩
    clear hb3
    go_wp2_with fail
    go_ret2
    exact ⟨by rw [e.out]; rfl, HB3.out⟩
  have hle : J.size ≤ m := by omega
  have e : Box (sealB ((m : Int) + 4) J = (sealOk J (m - J.size), 0)) := ⟨by
    rw [sealB, if_neg (by omega), if_neg (by omega)]
    have e4 : ((m : Int) + 4).toNat - 4 - J.size = m - J.size := by omega
    rw [e4]⟩
  go_wp2_with fail
  refine (outPad_ok w.heap.size v1 _ m _ HO1.out (by rw [data_length]; omega) (by omega)).mono ?_
  rintro e w2 ⟨v2, rfl, hO2, hT2, hF2⟩
  have HO2 : Box _ := ⟨hO2⟩
  have HB2 : Box (Below w.heap.size w w2) := ⟨hT2.below HB1.out HB1.out.size (by intro k hk; simp at hk; exact hk.elim (fun h => by omega) (fun h => HV1.out k h))⟩
  clear hO2 hT2 hF2
  go_wp2_with fail
  refine (outEnd_calls w.heap.size v2 _ _ HO2.out).mono ?_
  rintro e w3 ⟨rfl, hb3⟩
  have HB3 : Box (Below w.heap.size w w3) := ⟨below_trans' HB2.out hb3⟩
  clear hb3 HO2 HO1
  have hz : (⟨(J.data.toList ++ List.replicate (m - J.data.toList.length) 0).toArray⟩ : ByteArray) = J ++ zerosB (m - J.size) := by
    apply ByteArray.ext
    rw [ByteArray.data_append, data_length]
    apply Array.toList_inj.mp
    simp [zerosB]
  rw [hz]
  have hqs : (J ++ zerosB (m - J.size)).size ≤ 65536 := by rw [ByteArray.size_append, zerosB_size]; omega
  have HE : Box (sealOk J (m - J.size) = (J ++ zerosB (m - J.size)) ++ lowS (crcSum (J ++ zerosB (m - J.size)).data.toList).toNat 4) := ⟨rfl⟩
  clear hz
  obtain ⟨q, hq⟩ : ∃ q, J ++ zerosB (m - J.size) = q := ⟨_, rfl⟩
  rw [hq] at hqs HE ⊢
  clear hq
  have HZ : Box (OutAt (w3.alloc (.cells #[.slice none 0 0, .int .i64 0] 70)) w3.heap.size (.slice none 0 0) []) := ⟨outNew w3⟩
  go_wp2_with fail
  have HT1 : Hid ((([] : List UInt8).length : Int) + totalLen [q] ≤ 140737488355328) := by rw [Hid]; simp [totalLen]; omega
  refine (outRaw_calls w3.heap.size (.slice none 0 0) [] _ 1 [q] _ ?_ ?_ HT1.out ?_).mono ?_
  · exact HZ.out.alloc _
  · simp
  · exact fun w' hT => rowAt_touched (rowAt_alloc_at (w3.alloc _) (scells [q]) _ (by simp)) hT (by simp) (by simp [Value.ownBlock])
  rintro e w4 ⟨v4, rfl, hO4, hT4, hF4⟩
  rw [List.nil_append] at hO4
  have hj : joinB [q] = q := by simp [joinB]
  rw [hj] at hO4
  have HO4 : Box _ := ⟨hO4⟩
  have HS3 := HB3.out.size
  have HB4 : Box (Below w.heap.size w w4) := ⟨hT4.below ((HB3.out.alloc HS3 _).alloc (by simp; omega) _) (by simp; omega) (by intro k hk; simp [Value.ownBlock] at hk; omega)⟩
  have HV4 : Box (∀ b, v4.ownBlock = some b → w.heap.size ≤ b) := ⟨fun b hb => by
    rcases hF4 b hb with h | h
    · simp [Value.ownBlock] at h
    · simp at h; omega⟩
  have HG : w3.heap.size < w4.heap.size := HO4.out.lt
  clear hO4 hT4 hF4 HZ hj
  go_wp2_with fail
  refine (crcOf_calls _ 1 1 [q] _ rfl (by omega) (all_one (by omega)) (rowAt_alloc _ (scells [q]) _)).mono ?_
  rintro e w5 ⟨rfl, hb5⟩
  have hj : joinB [q] = q := by simp [joinB]
  rw [hj]
  have HO5 : Box _ := ⟨(HO4.out.alloc _).below hb5⟩
  have hb5' : Below w4.heap.size w4 w5 := Below.trans ((Below.refl _ _).alloc (Nat.le_refl _) _) (hb5.mono (by simp))
  have HB5 : Box (Below w.heap.size w w5) := ⟨HB4.out.trans (hb5'.mono HB4.out.size)⟩
  have HG5 : w3.heap.size < w5.heap.size := Nat.lt_of_lt_of_le HG hb5'.size
  clear hb5 hb5' hj HO4
  have hcc := w_lt (crcSum q.data.toList)
  obtain ⟨x, hx⟩ : ∃ x, crcSum q.data.toList = x := ⟨_, rfl⟩
  rw [hx] at HE hcc ⊢
  clear hx
  have y9 := IntWalk.i64_in (x.toNat : Int) (by omega)
  go_wp2_with fail
  refine (outWord_calls w3.heap.size v4 _ _ 1 x.toNat _ (HO5.out.alloc _) (by omega) (by rw [data_length]; omega) (fun w' hT => rowAt_touched (rowAt_alloc _ [.int .i64 (x.toNat : Int)] _) hT (by simp) (by
    intro hm
    rcases List.mem_cons.1 hm with h | h
    · omega
    · have := (HO5.out.own.lt _ (by simpa using h)).2
      omega))).mono ?_
  rintro e w6 ⟨v6, rfl, hO6, hT6, hF6⟩
  have HO6 : Box _ := ⟨hO6⟩
  have HB6 : Box (Below w.heap.size w w6) := ⟨hT6.below (HB5.out.alloc HB5.out.size _) (by have := HB5.out.size; simp; omega) (by intro k hk; simp at hk; exact hk.elim (fun h => by omega) (fun h => HV4.out k h))⟩
  clear hO6 hT6 hF6
  go_wp2_with fail
  refine (outEnd_calls w3.heap.size v6 _ _ HO6.out).mono ?_
  rintro e w7 ⟨rfl, hb7⟩
  have HB7 : Box (Below w.heap.size w w7) := ⟨below_trans' HB6.out hb7⟩
  have HF : ((⟨(q.data.toList ++ lowL x.toNat 4).toArray⟩ : ByteArray) = q ++ lowS x.toNat 4) := by
    apply ByteArray.ext
    rw [ByteArray.data_append]
    apply Array.toList_inj.mp
    simp [lowS]
  rw [HF]
  clear hb7 HF
  go_wp2_with fail
  go_ret2
  exact ⟨by rw [e.out, HE.out]; rfl, HB7.out⟩
end Go.Proofs.Ytoadelcdcfdmfaa
