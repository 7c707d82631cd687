/- bits.Out: Pad. -/
import Derived.Test.YtninoogbkaeihaaDoorBundle2
namespace Go.Proofs.YtninoogbkaeihaaDoor
open Go.RowKit
set_option linter.unusedVariables false

def zerosB (n : Nat) : ByteArray := ⟨(List.replicate n (0 : UInt8)).toArray⟩
theorem zerosB_size (n : Nat) : (zerosB n).size = n := by simp [zerosB, ByteArray.size]
theorem zeros_cells (n : Nat) : (zerosB n).data.map (fun b => Value.int .u8 (b.toNat : Int)) = Builtin.zeroCells #[Value.int .u8 0] n := by
  apply Array.ext
  · simp [zerosB, Builtin.zeroCells]
  · intro i h1 h2
    simp [zerosB, Builtin.zeroCells, Nat.mod_one]
theorem zeros_firstCells {P : Program} (w : World) (n : Nat) : (Builtin.firstCells 1 n (.string (zerosB n))).run P w = .ok (Builtin.zeroCells #[Value.int .u8 0] n) w := by
  have h : (zerosB n).extract 0 n = zerosB n := by
    have h2 : (zerosB n).extract 0 (zerosB n).size = zerosB n := by simp
    rwa [zerosB_size] at h2
  simp only [Builtin.firstCells, h, zeros_cells]
  rfl
theorem run_append_zeros {P : Program} {W : World} (t ti tu ty e : TypeId) (i : TypeInfo) (ht : P.underlying t = some (.slice e)) (hti : P.underlying ti = some (.int .i64)) (htu : P.underlying tu = some .string)
    (hi : P.info? e = some i) (hz : i.zero = some (.int .u8 0)) (hsize : i.size = 1) (hby : i.bytes = 1) (A : Option Addr) (m c n : Nat) (h : m + n ≤ 140737488355328) :
    (Builtin.append_ #[t, ti] ty #[.slice A m c, .int .i64 (n : Int)]).run P W = (Builtin.append_ #[t, tu] ty #[.slice A m c, .string (zerosB n)]).run P W := by
  obtain ⟨l, hl⟩ : ∃ l : Int, (n : Int) = l := ⟨_, rfl⟩
  rw [hl]
  have e1 : IntKind.i64.wrap l = l := IntWalk.i64_in _ (by omega)
  have e2 : ¬ (l < 0) := by omega
  have e3 : ¬ ((281474976710656 : Int) < l) := by omega
  have e9 : l.toNat = n := by omega
  have hzs := zerosB_size n
  have hf := fun w => zeros_firstCells (P := P) w n
  have hz1 : (Value.int .u8 0).cells = #[.int .u8 0] := rfl
  have e4 : ∀ w, (asInt (.int .i64 l)).run P w = .ok l w := fun w => rfl
  have e5 : ∀ w, (zeroValue e).run P w = .ok (.int .u8 0) w := by intro w; simp [zeroValue, typeInfo, hi, hz]
  have e7 : ¬ ((9223372036854775807 : Int) < (m : Int) + (n : Int)) := by omega
  have h00 : Builtin.zeroCells #[Value.int .u8 0] 0 = #[] := by simp [Builtin.zeroCells]
  have e8 : ¬ ((9223372036854775807 : Int) < (m : Int) + max l 0) := by omega
  by_cases hr : m + n ≤ c
  · by_cases h0 : n = 0
    · have hr' : m ≤ c := by omega
      rw [h0] at hzs hf e9 ⊢
      simp [Builtin.append_, run_underlying ht, run_underlying hti, run_underlying htu, sizeOf, typeInfo, hi, hsize, hby, Builtin.lenOf, hzs, e4, e1, e2, e3, e9, hf, hr', h00]
    · simp [Builtin.append_, run_underlying ht, run_underlying hti, run_underlying htu, sizeOf, typeInfo, hi, hsize, hby, Builtin.lenOf, hzs, e4, e1, e2, e3, e9, hf, h0, e5, hz1, hr]
  · have e6 : ¬ (281474976710656 < Builtin.nextslicecap (m + n) c) := by
      have := growslice_fits (need := m + n) (old := c) (bytes := 1) (by omega) (by omega)
      omega
    by_cases h0 : n = 0
    · have hr' : ¬ (m ≤ c) := by omega
      have e7' : ¬ ((9223372036854775807 : Int) < (m : Int)) := by omega
      rw [h0] at hzs hf e9 e6 ⊢
      rw [Nat.add_zero] at e6
      simp [Builtin.append_, run_underlying ht, run_underlying hti, run_underlying htu, sizeOf, typeInfo, hi, hsize, hby, Builtin.lenOf, hzs, e4, e1, e2, e3, e6, e7', e8, e9, hf, hr', h00]
    · simp [Builtin.append_, run_underlying ht, run_underlying hti, run_underlying htu, sizeOf, typeInfo, hi, hsize, hby, Builtin.lenOf, hzs, e4, e1, e2, e3, e6, e7, e8, e9, hf, h0, e5, hz1, hr]

/-- append(b, make([]byte, n)...) as a step of a region that draws its order. -/
theorem step_appZ {P : Program} {ops : Array Oper} {o : Oper} {a : Act} {K : Act → World → Prop} {Q : Exit → Act → World → Prop} {E' : Prop} {t ti tu e : TypeId} {i : TypeInfo} (ht : P.underlying t = some (.slice e)) (hti : P.underlying ti = some (.int .i64)) (htu : P.underlying tu = some .string)
    (hi : P.info? e = some i) (hz : i.zero = some (.int .u8 0)) (hsize : i.size = 1) (hby : i.bytes = 1) {W : World} (base : Nat) (hgd : o.guard = none) (s x : Operand)
    (ho : o.op = .call { callee := .builtin .append, args := #[s, x], argTypes := #[t, ti] })
    {v : Value} {n : Nat} {xs : List Value} (hs : a.eval s = v) (hown : W.ownsRow base e 1 v n xs)
    {m : Nat} (hx : a.eval x = .int .i64 (m : Int)) (hbytes : n + m ≤ 140737488355328) (hbase : base ≤ W.heap.size)
    (h : ∀ v' w', w'.ownsRow base e 1 v' (n + m) (xs ++ bcells (List.replicate m 0)) → W.grownBy w' v.ownBlock → (v'.ownBlock = v.ownBlock ∨ v'.ownBlock = some W.heap.size) → K (a.put o.dst v') w') :
    if Region.wanted o (yielded ops a.tmps) = true then Oper.wp P o a W K Q else E' := by
  have hw : Region.wanted o (yielded ops a.tmps) = true := by simp [Region.wanted, hgd]
  rw [if_pos hw]
  have hsz := zerosB_size m
  obtain ⟨v', w', hr, h2, h3, _⟩ := Lib.run_append_own_string (P := P) W base t tu o.type e i ht htu hi hz hsize hby v n xs hown (zerosB m) (by unfold maxLen; omega) (by omega) hbase
  have h4 := str_where base t tu o.type e i ht htu hi hz hsize hby v n xs hown (zerosB m) (by omega) v' w' hr
  obtain ⟨A, c, rfl, _, _, _⟩ := (Own.of_row hown).slice
  rw [← run_append_zeros t ti tu o.type e i ht hti htu hi hz hsize hby A n c m hbytes] at hr
  rw [hsz] at h2
  have h5 : Lib.strCells (zerosB m) = bcells (List.replicate m 0) := by simp [Lib.strCells, bcells, zerosB]
  rw [h5] at h2
  unfold Oper.wp execOp
  simp only [ho, resolve, invoke, builtin, Sem.run_bind, Sem.run_pure, Result.andThen_ok, List.map_toArray, List.map_cons, List.map_nil, hs, hx, hr]
  exact h v' w' h2 h3 h4

/-- Pad. -/
def padO (d : Int × List UInt8) (n : Int) : Int × List UInt8 :=
  if d.1 ≠ 0 then d else if n < 0 ∨ 65536 < n then (1, d.2) else if n < (d.2.length : Int) then (2, d.2) else (0, d.2 ++ List.replicate (n.toNat - d.2.length) 0)
end Go.Proofs.YtninoogbkaeihaaDoor
