/- bits.Out: Pad. -/
import Derived.Test.YtoadelcdcfdmfaaBundle3
namespace Go.Proofs.Ytoadelcdcfdmfaa.B
open Go.RowKit
set_option linter.unusedVariables false

def zerosB (n : Nat) : ByteArray := ⟨(List.replicate n (0 : UInt8)).toArray⟩
theorem zerosB_size (n : Nat) : (zerosB n).size = n := by simp [zerosB, ByteArray.size]
theorem zeros_cells (n : Nat) : (zerosB n).data.map (fun b => Value.int .u8 (b.toNat : Int)) = Builtin.zeroCells #[Value.int .u8 0] n := by
  apply Array.ext
  · simp [zerosB, Builtin.zeroCells]
  · intro i h1 h2
    simp [zerosB, Builtin.zeroCells, Nat.mod_one]
theorem zeros_firstCells {P : Program} (w : World) (n : Nat) : (Builtin.firstCells 1 n (.string (zerosB n))).run P w = .ok (Builtin.zeroCells #[Value.int .u8 0] n) w := by
  have h : (zerosB n).extract 0 n = zerosB n := by
    have h2 : (zerosB n).extract 0 (zerosB n).size = zerosB n := by simp
    rwa [zerosB_size] at h2
  simp only [Builtin.firstCells, h, zeros_cells]
  rfl
theorem run_append_zeros {P : Program} {W : World} (t ti tu ty e : TypeId) (i : TypeInfo) (ht : P.underlying t = some (.slice e)) (hti : P.underlying ti = some (.int .i64)) (htu : P.underlying tu = some .string)
    (hi : P.info? e = some i) (hz : i.zero = some (.int .u8 0)) (hsize : i.size = 1) (hby : i.bytes = 1) (A : Option Addr) (m c n : Nat) (h : m + n ≤ 140737488355328) :
    (Builtin.append_ #[t, ti] ty #[.slice A m c, .int .i64 (n : Int)]).run P W = (Builtin.append_ #[t, tu] ty #[.slice A m c, .string (zerosB n)]).run P W := by
  obtain ⟨l, hl⟩ : ∃ l : Int, (n : Int) = l := ⟨_, rfl⟩
  rw [hl]
  have e1 : IntKind.i64.wrap l = l := IntWalk.i64_in _ (by omega)
  have e2 : ¬ (l < 0) := by omega
  have e3 : ¬ ((281474976710656 : Int) < l) := by omega
  have e9 : l.toNat = n := by omega
  have hzs := zerosB_size n
  have hf := fun w => zeros_firstCells (P := P) w n
  have hz1 : (Value.int .u8 0).cells = #[.int .u8 0] := rfl
  have e4 : ∀ w, (asInt (.int .i64 l)).run P w = .ok l w := fun w => rfl
  have e5 : ∀ w, (zeroValue e).run P w = .ok (.int .u8 0) w := by intro w; simp [zeroValue, typeInfo, hi, hz]
  have e7 : ¬ ((9223372036854775807 : Int) < (m : Int) + (n : Int)) := by omega
  have h00 : Builtin.zeroCells #[Value.int .u8 0] 0 = #[] := by simp [Builtin.zeroCells]
  have e8 : ¬ ((9223372036854775807 : Int) < (m : Int) + max l 0) := by omega
  by_cases hr : m + n ≤ c
  · by_cases h0 : n = 0
    · have hr' : m ≤ c := by omega
      rw [h0] at hzs hf e9 ⊢
      simp [Builtin.append_, run_underlying ht, run_underlying hti, run_underlying htu, sizeOf, typeInfo, hi, hsize, hby, Builtin.lenOf, hzs, e4, e1, e2, e3, e9, hf, hr', h00]
    · simp [Builtin.append_, run_underlying ht, run_underlying hti, run_underlying htu, sizeOf, typeInfo, hi, hsize, hby, Builtin.lenOf, hzs, e4, e1, e2, e3, e9, hf, h0, e5, hz1, hr]
  · have e6 : ¬ (281474976710656 < Builtin.nextslicecap (m + n) c) := by
      have := growslice_fits (need := m + n) (old := c) (bytes := 1) (by omega) (by omega)
      omega
    by_cases h0 : n = 0
    · have hr' : ¬ (m ≤ c) := by omega
      have e7' : ¬ ((9223372036854775807 : Int) < (m : Int)) := by omega
      rw [h0] at hzs hf e9 e6 ⊢
      rw [Nat.add_zero] at e6
      simp [Builtin.append_, run_underlying ht, run_underlying hti, run_underlying htu, sizeOf, typeInfo, hi, hsize, hby, Builtin.lenOf, hzs, e4, e1, e2, e3, e6, e7', e8, e9, hf, hr', h00]
    · simp [Builtin.append_, run_underlying ht, run_underlying hti, run_underlying htu, sizeOf, typeInfo, hi, hsize, hby, Builtin.lenOf, hzs, e4, e1, e2, e3, e6, e7, e8, e9, hf, h0, e5, hz1, hr]

/-- append(b, make([]byte, n)...) as a step of a region that draws its order. -/
theorem step_appZ {P : Program} {ops : Array Oper} {o : Oper} {a : Act} {K : Act → World → Prop} {Q : Exit → Act → World → Prop} {E' : Prop} {t ti tu e : TypeId} {i : TypeInfo} (ht : P.underlying t = some (.slice e)) (hti : P.underlying ti = some (.int .i64)) (htu : P.underlying tu = some .string)
    (hi : P.info? e = some i) (hz : i.zero = some (.int .u8 0)) (hsize : i.size = 1) (hby : i.bytes = 1) {W : World} (base : Nat) (hgd : o.guard = none) (s x : Operand)
    (ho : o.op = .call { callee := .builtin .append, args := #[s, x], argTypes := #[t, ti] })
    {v : Value} {n : Nat} {xs : List Value} (hs : a.eval s = v) (hown : W.ownsRow base e 1 v n xs)
    {m : Nat} (hx : a.eval x = .int .i64 (m : Int)) (hbytes : n + m ≤ 140737488355328) (hbase : base ≤ W.heap.size)
    (h : ∀ v' w', w'.ownsRow base e 1 v' (n + m) (xs ++ bcells (List.replicate m 0)) → W.grownBy w' v.ownBlock → (v'.ownBlock = v.ownBlock ∨ v'.ownBlock = some W.heap.size) → K (a.put o.dst v') w') :
    if Region.wanted o (yielded ops a.tmps) = true then Oper.wp P o a W K Q else E' := by
  have hw : Region.wanted o (yielded ops a.tmps) = true := by simp [Region.wanted, hgd]
  rw [if_pos hw]
  have hsz := zerosB_size m
  obtain ⟨v', w', hr, h2, h3, _⟩ := Lib.run_append_own_string (P := P) W base t tu o.type e i ht htu hi hz hsize hby v n xs hown (zerosB m) (by unfold maxLen; omega) (by omega) hbase
  have h4 := str_where base t tu o.type e i ht htu hi hz hsize hby v n xs hown (zerosB m) (by omega) v' w' hr
  obtain ⟨A, c, rfl, _, _, _⟩ := (Own.of_row hown).slice
  rw [← run_append_zeros t ti tu o.type e i ht hti htu hi hz hsize hby A n c m hbytes] at hr
  rw [hsz] at h2
  have h5 : Lib.strCells (zerosB m) = bcells (List.replicate m 0) := by simp [Lib.strCells, bcells, zerosB]
  rw [h5] at h2
  unfold Oper.wp execOp
  simp only [ho, resolve, invoke, builtin, Sem.run_bind, Sem.run_pure, Result.andThen_ok, List.map_toArray, List.map_cons, List.map_nil, hs, hx, hr]
  exact h v' w' h2 h3 h4

set_option maxHeartbeats 1600000 in
theorem outPad_ok (g : Nat) (v : Value) (l : List UInt8) (n : Nat) (w : World) (hO : OutS w g v 0 l) (hl : l.length ≤ n) (hn : n ≤ 65536) :
    Calls Try.prog 77 #[.pointer (some ⟨g, 0, none⟩), .int .i64 (n : Int)] w fun e w' => ∃ v', e = .returned (.pointer (some ⟨g, 0, none⟩)) ∧ OutS w' g v' 0 (l ++ List.replicate (n - l.length) 0) ∧ Touched w w' (g :: v.ownBlock.toList) ∧ (∀ b, v'.ownBlock = some b → v.ownBlock = some b ∨ w.heap.size ≤ b) := by
  have HO : Box (OutS w g v 0 l) := ⟨hO⟩
  clear hO
  obtain ⟨i0, hi0, hi1, hi2, hi3⟩ := u8_info
  have HI : Box (Try.prog.info? 5 = some i0 ∧ i0.zero = some (.int .u8 0) ∧ i0.size = 1 ∧ i0.bytes = 1) := ⟨hi0, hi1, hi2, hi3⟩
  clear hi0 hi1 hi2 hi3
  obtain ⟨m, hm⟩ : ∃ m, l.length = m := ⟨_, rfl⟩
  have HM : Box (l.length = m) := ⟨hm⟩
  rw [hm] at hl
  obtain ⟨a0, ca, rfl, _, _, _⟩ := (Own.of_row HO.out.own).slice
  have k0 := HO.out.c0
  have k1 := HO.out.c1
  have f0 := HO.out.f0
  rw [hm] at k0 HO
  rw [hm]
  clear hm
  have y1 := IntWalk.i64_in ((n - m : Nat) : Int) (by omega)
  have y2 : ((n : Int) - (m : Int)) = ((n - m : Nat) : Int) := by omega
  have y3 : (m : Int) ≤ (n : Int) := by omega
  have y4 : (n : Int) ≤ 65536 := by omega
  have y5 : (0 : Int) ≤ (n : Int) := by omega
  go_enter Try.func77, Try.ntmps77
  go_wp2_with fail
  obtain ⟨wo, rfl⟩ : ∃ wo : World, wo = w := ⟨_, rfl⟩
  go_region_law
    (first
      | (refine step_appZ Try.underlying67 Try.underlying3 Try.underlying9 HI.out.1 HI.out.2.1 HI.out.2.2.1 HI.out.2.2.2 (g + 1) rfl _ _ rfl (v := .slice a0 m ca) (n := m) (xs := bcells l) rfl (by have h := HO.out.own.drew; rw [HM.out] at h; exact h) (m := n - m) rfl (by omega) (by have := HO.out.lt; simp; omega) ?_; intro v1 w1 hown1 hg1 hp1; obtain ⟨a1, c1, rfl, _, _, _⟩ := (Own.of_row hown1).slice; have hT : Touched wo w1 (Value.slice a0 m ca).ownBlock.toList := (Touched.refl wo _).drew.trans (Touched.of_grown hg1); have k4 := (hT.cell HO.out.lt HO.out.apart).trans HO.out.c0; have e4 := (hT.free HO.out.lt HO.out.apart).trans HO.out.f0; have HT1 : Box _ := ⟨hT⟩; have HW1 : Box _ := ⟨hown1⟩; have HP1 : Box _ := ⟨hp1⟩; clear hown1 hg1 hT hp1))
  all_goals
    go_wp2_with fail
    go_ret
    have em : m + (n - m) = n := by omega
    rw [em] at HW1 HP1
    have hO2 : OutS (w1.setCell ⟨g, 0, none⟩ (.slice a1 n c1)) g (.slice a1 n c1) 0 (l ++ List.replicate (n - m) 0) := HO.out.grownT (by
      have h := HW1.out
      rw [bcells, List.map_append, List.length_append, HM.out, List.length_replicate, em]
      exact h) HT1.out
    have hT2 : Touched wo (w1.setCell ⟨g, 0, none⟩ (.slice a1 n c1)) (g :: (Value.slice a0 m ca).ownBlock.toList) := (HT1.out.mono (fun k hk _ => List.mem_cons_of_mem _ hk)).setCell (.inl (by simp)) _
    exact ⟨_, rfl, hO2, hT2, fun b hb => HP1.out.elim (fun h => .inl (by rw [← h]; exact hb)) (fun h => .inr (by rw [h] at hb; injection hb with hb; simp at hb; omega))⟩

/-- .. that has more already. -/
theorem outPad_long (g : Nat) (v : Value) (l : List UInt8) (n : Nat) (w : World) (hO : OutS w g v 0 l) (hl : n < l.length) (hn : n ≤ 65536) :
    Calls Try.prog 77 #[.pointer (some ⟨g, 0, none⟩), .int .i64 (n : Int)] w fun e w' => e = .returned (.pointer (some ⟨g, 0, none⟩)) ∧ OutTo w w' g v (2, l) := by
  have HE : Box (OutTo w (w.setCell ⟨g, 1, none⟩ (.int .i64 2)) g v (2, l)) := ⟨OutTo.fail hO _⟩
  obtain ⟨m, hm⟩ : ∃ m, l.length = m := ⟨_, rfl⟩
  obtain ⟨a0, ca, rfl, _, _, _⟩ := (Own.of_row hO.own).slice
  have k0 := hO.c0
  have k1 := hO.c1
  have f1 := hO.f1
  rw [hm] at hl k0
  clear hO hm
  have y3 : (n : Int) < (m : Int) := by omega
  have y4 : (n : Int) ≤ 65536 := by omega
  have y5 : (0 : Int) ≤ (n : Int) := by omega
  go_enter Try.func77, Try.ntmps77
  go_wp2_with fail
  go_ret
  exact ⟨rfl, HE.out⟩
/-- .. of a length that may not be. -/
theorem outPad_bad (g : Nat) (v : Value) (l : List UInt8) (n : Int) (w : World) (hO : OutS w g v 0 l) (hn : n < 0 ∨ 65536 < n) :
    Calls Try.prog 77 #[.pointer (some ⟨g, 0, none⟩), .int .i64 n] w fun e w' => e = .returned (.pointer (some ⟨g, 0, none⟩)) ∧ OutTo w w' g v (1, l) := by
  have HE : Box (OutTo w (w.setCell ⟨g, 1, none⟩ (.int .i64 1)) g v (1, l)) := ⟨OutTo.fail hO _⟩
  have k0 := hO.c0
  have k1 := hO.c1
  have f1 := hO.f1
  clear hO
  rcases hn with y3 | y3
  · go_enter Try.func77, Try.ntmps77
    go_wp2_with fail
    go_ret
    exact ⟨rfl, HE.out⟩
  · have y4 : ¬ n < 0 := by omega
    go_enter Try.func77, Try.ntmps77
    go_wp2_with fail
    go_ret
    exact ⟨rfl, HE.out⟩
/-- .. that bears an error. -/
theorem outPad_err (g : Nat) (x : Int) (n : Int) (w : World) (v : Value) (l : List UInt8) (hx : x ≠ 0) (hE : OutS w g v x l) :
    Calls Try.prog 77 #[.pointer (some ⟨g, 0, none⟩), .int .i64 n] w fun e w' => e = .returned (.pointer (some ⟨g, 0, none⟩)) ∧ w = w' := by
  have k1 := hE.c1
  have y1 := hx
  clear hE
  go_enter Try.func77, Try.ntmps77
  go_wp2_with fail
  go_ret
  exact ⟨rfl, rfl⟩

/-- Pad. -/
def padO (d : Int × List UInt8) (n : Int) : Int × List UInt8 :=
  if d.1 ≠ 0 then d else if n < 0 ∨ 65536 < n then (1, d.2) else if n < (d.2.length : Int) then (2, d.2) else (0, d.2 ++ List.replicate (n.toNat - d.2.length) 0)
theorem outPad_calls (g : Nat) (v : Value) (e : Int) (l : List UInt8) (n : Int) (w : World) (hO : OutS w g v e l) :
    Calls Try.prog 77 #[.pointer (some ⟨g, 0, none⟩), .int .i64 n] w fun r w' => r = .returned (.pointer (some ⟨g, 0, none⟩)) ∧ OutTo w w' g v (padO (e, l) n) := by
  by_cases he : e = 0
  · subst he
    by_cases h1 : n < 0 ∨ 65536 < n
    · rw [padO, if_neg (by simp), if_pos h1]
      exact outPad_bad g v l n w hO h1
    · obtain ⟨m, rfl⟩ : ∃ m : Nat, n = (m : Int) := ⟨n.toNat, by omega⟩
      by_cases h2 : (m : Int) < (l.length : Int)
      · rw [padO, if_neg (by simp), if_neg h1, if_pos h2]
        exact outPad_long g v l m w hO (by omega) (by omega)
      · rw [padO, if_neg (by simp), if_neg h1, if_neg h2, Int.toNat_natCast]
        exact (outPad_ok g v l m w hO (by omega) (by omega)).mono fun r w' ⟨v', h1, h2, h3, h4⟩ => ⟨h1, ⟨v', h2, h4⟩, h3⟩
  · rw [padO, if_pos he]
    refine (outPad_err g e n w v l he hO).mono fun r w' ⟨h1, h2⟩ => ⟨h1, ?_⟩
    subst h2
    exact OutTo.refl hO
end Go.Proofs.Ytoadelcdcfdmfaa.B
