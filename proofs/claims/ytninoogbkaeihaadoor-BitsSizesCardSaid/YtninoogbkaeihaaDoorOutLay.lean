/- bits.Out: numbers in so many bytes. -/
import Derived.Test.YtninoogbkaeihaaDoorBundle1
namespace Go.Proofs.YtninoogbkaeihaaDoor
open Go.RowKit
set_option linter.unusedVariables false

/-- One number in so many bytes. -/
def layB (size : Nat) (x : Int) : Bool := decide (x < 0 ∨ (size < 8 ∧ x / 2 ^ (8 * size) ≠ 0))
def layOne (size : Nat) (d : Int × List UInt8) (x : Int) : Int × List UInt8 := if d.1 ≠ 0 then d else if layB size x = true then (1, d.2) else (0, d.2 ++ lowL x.toNat size)
def layO (size : Nat) (d : Int × List UInt8) (xs : List Int) : Int × List UInt8 := xs.foldl (layOne size) d
theorem layO_snoc (size : Nat) (d : Int × List UInt8) (xs : List Int) (x : Int) : layO size d (xs ++ [x]) = layOne size (layO size d xs) x := by simp [layO, List.foldl_append]
theorem layO_err (size : Nat) (d : Int × List UInt8) (xs : List Int) (h : d.1 ≠ 0) : layO size d xs = d := by
  induction xs with
  | nil => rfl
  | cons x xs ih => rw [layO, List.foldl_cons, layOne, if_pos h]; exact ih
theorem layO_stop (size : Nat) (d : Int × List UInt8) (xs : List Int) (k : Nat) (h : (layO size d (xs.take k)).1 ≠ 0) : layO size d xs = layO size d (xs.take k) := by
  conv => lhs; rw [← List.take_append_drop k xs]
  rw [layO, List.foldl_append]
  exact layO_err size _ _ h
theorem layO_len (size : Nat) (d : Int × List UInt8) (xs : List Int) : (layO size d xs).2.length ≤ d.2.length + size * xs.length := by
  induction xs generalizing d with
  | nil => simp [layO]
  | cons x xs ih =>
    have h := ih (layOne size d x)
    have h2 : (layOne size d x).2.length ≤ d.2.length + size := by
      unfold layOne
      split
      · omega
      · split
        · simp
        · simp [lowL_length]
    rw [layO, List.foldl_cons]
    rw [layO] at h
    rw [List.length_cons, Nat.mul_add]
    omega
theorem lowL_at (x n k : Nat) (h : k < n) : (lowL x n)[k]? = some (UInt8.ofNat (x / 256 ^ k)) := by
  induction n generalizing x k with
  | zero => omega
  | succ n ih =>
    cases k with
    | zero => simp [lowL]
    | succ k =>
      rw [lowL, List.getElem?_cons_succ, ih _ _ (by omega), Nat.div_div_eq_div_mul, Nat.pow_succ, Nat.mul_comm 256]
theorem outLay_err (size : Nat) (g : Nat) (v : Value) (e : Int) (l : List UInt8) (A : Option Addr) (c : Nat) (xs : List Int) (w : World) (he : e ≠ 0) (hO : OutS w g v e l) (hn : xs.length ≤ 4000000000000000000) (hR : RowAt w A (icells xs)) :
    Calls Tryd.prog 15 #[.pointer (some ⟨g, 0, none⟩), .int .i64 (size : Int), .slice A xs.length c] w fun r w' => r = .returned (.pointer (some ⟨g, 0, none⟩)) ∧ w = w' := by
  have k1 := hO.c1
  have HR : Box _ := ⟨hR⟩
  clear hO hR
  by_cases hlt : 0 < xs.length
  · obtain ⟨s, hs⟩ := some_at hlt
    obtain ⟨ad, rfl, hc0⟩ := HR.out.get (icells_at hs)
    have hc : w.cell? ad = some (.int .i64 s) := by rwa [addr_add0] at hc0
    clear hs hc0
    go_enter Tryd.func15, Tryd.ntmps15
    go_wp2
    go_loopw [12] (fun i wr => i = .int .i64 0 ∧ w = wr) (fun i _ => 1)
    case atStart => exact ⟨rfl, rfl⟩
    case round =>
      obtain ⟨rfl, rfl⟩ := hrel
      go_wp2
      go_ret
      exact ⟨rfl, rfl⟩
  · obtain rfl : xs = [] := List.eq_nil_of_length_eq_zero (by omega)
    go_enter Tryd.func15, Tryd.ntmps15
    go_wp2
    go_loopw [12] (fun i wr => i = .int .i64 0 ∧ w = wr) (fun i _ => 1)
    case atStart => exact ⟨rfl, rfl⟩
    case round =>
      obtain ⟨rfl, rfl⟩ := hrel
      go_wp2
      go_ret
      exact ⟨rfl, rfl⟩
theorem outLay_nil (size : Nat) (A : Option Addr) (c : Nat) (x : Int) (w : World) (hR : RowAt w A (icells [x])) :
    Calls Tryd.prog 15 #[.pointer none, .int .i64 (size : Int), .slice A 1 c] w fun r w' => r = .returned (.pointer none) ∧ w = w' := by
  obtain ⟨ad, rfl, hc0⟩ := hR.get (j := 0) (u := .int .i64 x) rfl
  have hc : w.cell? ad = some (.int .i64 x) := by rwa [addr_add0] at hc0
  clear hR hc0
  go_enter Tryd.func15, Tryd.ntmps15
  go_wp2
  go_loopw [12] (fun i wr => i = .int .i64 0 ∧ w = wr) (fun i _ => 1)
  case atStart => exact ⟨rfl, rfl⟩
  case round =>
    obtain ⟨rfl, rfl⟩ := hrel
    go_wp2
    go_ret
    exact ⟨rfl, rfl⟩
set_option maxHeartbeats 6400000 in
set_option maxRecDepth 100000 in
theorem outLay_ok (size : Nat) (h1 : 1 ≤ size) (h8 : size ≤ 8) (g : Nat) (v : Value) (l : List UInt8) (A : Option Addr) (c : Nat) (xs : List Int) (w : World) (hO : OutS w g v 0 l) (hn : xs.length ≤ 1000000) (hsz : l.length ≤ 1000000000) (hx : ∀ z ∈ xs, -9223372036854775808 ≤ z ∧ z ≤ 9223372036854775807)
    (hR : ∀ w', Touched w w' (g :: v.ownBlock.toList) → RowAt w' A (icells xs)) :
    Calls Tryd.prog 15 #[.pointer (some ⟨g, 0, none⟩), .int .i64 (size : Int), .slice A xs.length c] w fun r w' => r = .returned (.pointer (some ⟨g, 0, none⟩)) ∧ OutTo w w' g v (layO size (0, l) xs) := by
  have HO0 : Box (OutS w g v 0 l) := ⟨hO⟩
  have HR : Box _ := ⟨hR⟩
  have HX0 : Box _ := ⟨hx⟩
  clear hR hO hx
  have z3 := IntWalk.i64_in (8 * (size : Int)) (by omega)
  have z4 : (8 * (size : Int)).toNat = 8 * size := by omega
  have z5 : (0 : Int) ≤ 8 * (size : Int) := by omega
  go_enter Tryd.func15, Tryd.ntmps15
  go_wp2
  go_loopw [12] (fun i wr => ∃ (k : Nat) (u : Value) (l' : List UInt8), k ≤ xs.length ∧ i = .int .i64 (k : Int) ∧ Box (layO size (0, l) (xs.take k) = (0, l')) ∧ Box (OutS wr g u 0 l') ∧ Hid (Touched w wr (g :: v.ownBlock.toList)) ∧ Box (∀ b, u.ownBlock = some b → v.ownBlock = some b ∨ w.heap.size ≤ b)) (fun i _ => xs.length - (intOf i).toNat)
  case atStart => exact ⟨0, v, l, by omega, rfl, ⟨rfl⟩, HO0, Touched.refl _ _, ⟨fun b hb => .inl hb⟩⟩
  case round =>
    obtain ⟨k, u, l', hk, rfl, HD, HO, HT, HF⟩ := hrel
    by_cases hlt : k < xs.length
    · obtain ⟨x, hxk⟩ := some_at hlt
      obtain ⟨ad, rfl, hc⟩ := (HR.out _ HT.out).get (icells_at hxk)
      have hb := HX0.out x (List.mem_of_getElem? hxk)
      have hD1 : layO size (0, l) (xs.take (k + 1)) = if layB size x = true then (1, l') else (0, l' ++ lowL x.toNat size) := by
        rw [take_snoc_of hxk, layO_snoc, HD.out, layOne, if_neg (by simp)]
      have k1 := HO.out.c1
      have f1 := HO.out.f1
      clear hxk
      by_cases hbad : layB size x = true
      · rw [if_pos hbad] at hD1
        have hAll : layO size (0, l) xs = (1, l') := by rw [layO_stop size (0, l) xs (k + 1) (by rw [hD1]; simp), hD1]
        have HAll : Box _ := ⟨hAll⟩
        clear hD1 hAll
        have hcs : x < 0 ∨ (0 ≤ x ∧ size < 8 ∧ ¬ x / 2 ^ (8 * size) = 0) := by
          have := of_decide_eq_true hbad
          omega
        clear hbad
        rcases hcs with hc1 | ⟨hc1, hc2, hc3⟩
        · go_wp2_with fail
          go_ret
          exact ⟨rfl, by rw [HAll.out]; exact OutTo.trans HT.out HF.out (OutTo.fail HO.out 1)⟩
        · obtain ⟨y, rfl⟩ : ∃ y : Nat, x = (y : Int) := ⟨x.toNat, by omega⟩
          have hc4 : (size : Int) < 8 := by omega
          have hc5 : (((y : Int) / 2 ^ (8 * size)) != 0) = true := by simpa using hc3
          clear hc3
          go_wp2_with fail
          go_ret
          exact ⟨rfl, by rw [HAll.out]; exact OutTo.trans HT.out HF.out (OutTo.fail HO.out 1)⟩
      · rw [if_neg hbad] at hD1
        have hcs : 0 ≤ x ∧ (8 ≤ size ∨ (size < 8 ∧ x / 2 ^ (8 * size) = 0)) := by
          have h := of_decide_eq_false (by simpa using hbad : layB size x = false)
          omega
        clear hbad
        obtain ⟨y, rfl⟩ : ∃ y : Nat, x = (y : Int) := ⟨x.toNat, by omega⟩
        rw [Int.toNat_natCast] at hD1
        have HD1 : Box _ := ⟨hD1⟩
        have hLen := layO_len size (0, l) (xs.take k)
        rw [HD.out] at hLen
        have hLen2 : l'.length ≤ 1008000000 := by
          rw [List.length_take] at hLen
          have h3 : size * min k xs.length ≤ 8 * 1000000 := Nat.mul_le_mul h8 (by omega)
          have h4 : l'.length ≤ l.length + size * min k xs.length := hLen
          omega
        have HO4 : Box (OutS wr g u 0 (l' ++ (lowL y size).take 0)) := ⟨by simpa using HO.out⟩
        have hy0 : (0 : Int) ≤ (y : Int) := by omega
        have HLn : Box _ := ⟨hLen2⟩
        clear hD1 hLen hLen2
        obtain ⟨hx0, hcs⟩ := hcs
        have hcs2 : (¬ (size : Int) < 8) ∨ ((size : Int) < 8 ∧ (((y : Int) / 2 ^ (8 * size)) != 0) = false) := by
          rcases hcs with h | ⟨h, h2⟩
          · exact .inl (by omega)
          · exact .inr ⟨by omega, by rw [h2]; rfl⟩
        clear hcs
        obtain ⟨wo, rfl⟩ : ∃ wo : World, wo = wr := ⟨_, rfl⟩
        rcases hcs2 with hq | ⟨hq, hq2⟩
        all_goals
          go_wp2_with fail
          go_loopw [46] (fun i wi => ∃ (n : Nat) (u : Value), n ≤ size ∧ i = .int .i64 (n : Int) ∧ Box (OutS wi g u 0 (l' ++ (lowL y size).take n)) ∧ Hid (Touched w wi (g :: v.ownBlock.toList)) ∧ Box (∀ b, u.ownBlock = some b → v.ownBlock = some b ∨ w.heap.size ≤ b)) (fun i _ => size - (intOf i).toNat)
          case atStart => exact ⟨0, u, by omega, rfl, HO4, HT, HF⟩
          case round =>
            obtain ⟨n, u, hnn, rfl, HO, HT, HF⟩ := hrel
            by_cases hlt2 : n < size
            · obtain ⟨b, hb⟩ : ∃ b, UInt8.ofNat (y / 256 ^ n) = b := ⟨_, rfl⟩
              have HX : Box (l' ++ (lowL y size).take (n + 1) = (l' ++ (lowL y size).take n) ++ [b]) := ⟨by rw [List.append_assoc, ← hb, ← take_snoc_of (lowL_at y size n hlt2)]⟩
              have HL : Hid ((l' ++ (lowL y size).take n).length ≤ 1008000008) := by rw [Hid, List.length_append, List.length_take, lowL_length]; have := HLn.out; omega
              have HV := low_byte y n
              rw [hb] at HV
              have HW8 : IntKind.u8.wrap ((y : Int) / 2 ^ (8 * n)) = (b.toNat : Int) := by rw [IntKind.wrap_u8']; exact HV
              clear hb HV
              obtain ⟨m, hm⟩ : ∃ m, l' ++ (lowL y size).take n = m := ⟨_, rfl⟩
              rw [hm] at HX HL HO
              clear hm
              obtain ⟨a0, ca, rfl, _, _, _⟩ := (Own.of_row HO.out.own).slice
              have hlt3 := HO.out.lt
              have k0 := HO.out.c0
              have k0a : ∀ o : Obj, (wr.alloc o).cell? ⟨g, 0, none⟩ = some (.slice a0 m.length ca) := fun o => (World.cell?_alloc_lt _ _ _ hlt3).trans k0
              have k0b : ∀ o : Obj, (wr.drew.alloc o).cell? ⟨g, 0, none⟩ = some (.slice a0 m.length ca) := fun o => (World.cell?_alloc_lt _ _ _ hlt3).trans k0
              have y3 := IntWalk.i64_in (8 * (n : Int)) (by omega)
              have y4 : (8 * (n : Int)).toNat = 8 * n := by omega
              have y5 : (0 : Int) ≤ 8 * (n : Int) := by omega
              obtain ⟨wp, rfl⟩ : ∃ wp : World, wp = wr := ⟨_, rfl⟩
              go_wp2_with fail
              go_region_law
                (first
                  | (refine step_appR el_u8 (g + 1) rfl _ _ rfl (v := .slice a0 m.length ca) rfl (by first | exact (HO.out.own.alloc _).drew | exact HO.out.own.drew.alloc _) (news := bcells [b]) rfl rfl (by first | exact rowAt_alloc wp [.int .u8 (b.toNat : Int)] _ | exact rowAt_alloc wp.drew [.int .u8 (b.toNat : Int)] _) (one_bcells _) (by have := HL.out; omega) (by have := HO.out.lt; simp; omega) ?_; intro v1 w1 hown1 hg1 hp1; obtain ⟨a1, c1, rfl, _, _, _⟩ := (Own.of_row hown1).slice; have hT : Touched wp w1 (Value.slice a0 m.length ca).ownBlock.toList := (by first | exact ((Touched.refl wp _).alloc _).drew.trans (Touched.of_grown hg1) | exact ((Touched.refl wp _).drew.alloc _).trans (Touched.of_grown hg1)); have k4 := (hT.cell HO.out.lt HO.out.apart).trans HO.out.c0; have e4 := (hT.free HO.out.lt HO.out.apart).trans HO.out.f0; have HT1 : Box _ := ⟨hT⟩; have HW1 : Box _ := ⟨hown1⟩; have HP1 : Box _ := ⟨hp1⟩; clear hown1 hg1 hT hp1))
              all_goals
                go_wp2_with fail
                go_roundw
                case rel =>
                  have hO2 : OutS (w1.setCell ⟨g, 0, none⟩ (.slice a1 (m.length + 1) c1)) g (.slice a1 (m.length + 1) c1) 0 (m ++ [b]) := HO.out.grownT (by
                    have h := HW1.out
                    rw [bcells, List.map_append, List.length_append]
                    exact h) HT1.out
                  have hT2 : Touched w (w1.setCell ⟨g, 0, none⟩ (.slice a1 (m.length + 1) c1)) (g :: v.ownBlock.toList) := (HT.out.trans' HT1.out (by
                    intro j hj
                    rcases HF.out j (by simpa using hj) with h | h
                    · exact .inl (by simp [h])
                    · exact .inr h)).setCell (.inl (by simp)) _
                  have hF2 : ∀ b, (Value.slice a1 (m.length + 1) c1).ownBlock = some b → v.ownBlock = some b ∨ w.heap.size ≤ b := by
                    intro b hb
                    rcases HP1.out with h | h
                    · exact HF.out b (by rw [← h]; exact hb)
                    · rw [h] at hb
                      injection hb with hb
                      have := HT.out.size
                      simp at hb
                      exact .inr (by omega)
                  first
                    | exact ⟨n + 1, _, by omega, by go_num, ⟨by rw [HX.out]; exact hO2⟩, hT2, ⟨hF2⟩⟩
                    | exact ⟨n + 1, _, by omega, by go_num, ⟨by rw [HX.out]; exact hO2.drew⟩, hT2.drew, ⟨hF2⟩⟩
                    | ((repeat apply Exists.intro); exact ⟨⟨n + 1, _, by omega, by go_num, ⟨by rw [HX.out]; exact hO2⟩, hT2, ⟨hF2⟩⟩, rfl⟩)
                case measure => simp [intOf]; omega
            · obtain rfl : n = size := by omega
              go_wp2
              go_roundw
              case rel =>
                rw [List.take_of_length_le (by rw [lowL_length]; exact Nat.le_refl _)] at HO
                first | exact ⟨k + 1, u, _, by omega, by go_num, HD1, HO, HT, HF⟩ | ((repeat apply Exists.intro); exact ⟨⟨k + 1, u, _, by omega, by go_num, HD1, HO, HT, HF⟩, rfl⟩)
              case measure => simp [intOf]; omega
    · obtain rfl : k = xs.length := by omega
      rw [List.take_of_length_le (Nat.le_refl _)] at HD
      go_wp2
      go_ret
      exact ⟨rfl, by rw [HD.out]; exact ⟨⟨u, HO.out, HF.out⟩, HT.out⟩⟩
theorem outLay_calls (size : Nat) (h1 : 1 ≤ size) (h8 : size ≤ 8) (g : Nat) (v : Value) (e : Int) (l : List UInt8) (A : Option Addr) (c : Nat) (xs : List Int) (w : World) (hO : OutS w g v e l) (hn : xs.length ≤ 1000000) (hsz : l.length ≤ 1000000000) (hx : ∀ z ∈ xs, -9223372036854775808 ≤ z ∧ z ≤ 9223372036854775807)
    (hR : ∀ w', Touched w w' (g :: v.ownBlock.toList) → RowAt w' A (icells xs)) :
    Calls Tryd.prog 15 #[.pointer (some ⟨g, 0, none⟩), .int .i64 (size : Int), .slice A xs.length c] w fun r w' => r = .returned (.pointer (some ⟨g, 0, none⟩)) ∧ OutTo w w' g v (layO size (e, l) xs) := by
  by_cases he : e = 0
  · subst he
    exact outLay_ok size h1 h8 g v l A c xs w hO hn hsz hx hR
  · refine (outLay_err size g v e l A c xs w he hO (by omega) (hR w (Touched.refl _ _))).mono fun r w' ⟨h1, h2⟩ => ⟨h1, ?_⟩
    subst h2
    rw [layO_err size _ _ he]
    exact OutTo.refl hO
end Go.Proofs.YtninoogbkaeihaaDoor
