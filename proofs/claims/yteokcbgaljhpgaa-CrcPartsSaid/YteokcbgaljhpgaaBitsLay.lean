/- bits.Out: one number in so many bytes. -/
import Derived.Test.YteokcbgaljhpgaaBitsEnd
import Derived.Deep.RegionHeldLaw
import Derived.Deep.RegionLaw
namespace Go.Proofs.Yteokcbgaljhpgaa
open Go.RowKit

/-- An append as a step of a region that draws its order (rows of the library). -/
theorem step_appR {P : Program} {ops : Array Oper} {o : Oper} {a : Act} {K : Act → World → Prop} {Q : Exit → Act → World → Prop} {E' : Prop} {t e : TypeId} {size bytes : Nat} (E : El P t e size bytes) {W : World} (base : Nat) (hgd : o.guard = none) (s x : Operand)
    (ho : o.op = .call { callee := .builtin .append, args := #[s, x], argTypes := #[t, t] })
    {v : Value} {n : Nat} {xs : List Value} (hs : a.eval s = v) (hown : W.ownsRow base e size v n xs)
    {A : Option Addr} {m c : Nat} {news : List Value} (hx : a.eval x = .slice A m c) (hl : news.length = m * size) (hR : RowAt W A news) (h1 : ∀ u ∈ news, u.oneCell' = true)
    (hbytes : (n + m) * bytes ≤ 140737488355328) (hbase : base ≤ W.heap.size)
    (h : ∀ v' w', w'.ownsRow base e size v' (n + m) (xs ++ news) → W.grownBy w' v.ownBlock → (v'.ownBlock = v.ownBlock ∨ v'.ownBlock = some W.heap.size) → K (a.put o.dst v') w') :
    if Region.wanted o (yielded ops a.tmps) = true then Oper.wp P o a W K Q else E' := by
  have hw : Region.wanted o (yielded ops a.tmps) = true := by simp [Region.wanted, hgd]
  rw [if_pos hw]
  obtain ⟨v', w', hr, h2, h3, h4⟩ := run_app E W base o.type v n xs hown A m c news hl hR h1 hbytes hbase
  unfold Oper.wp execOp
  simp only [ho, resolve, invoke, builtin, Sem.run_bind, Sem.run_pure, Result.andThen_ok, List.map_toArray, List.map_cons, List.map_nil, hs, hx, hr]
  exact h v' w' h2 h3 h4
theorem OutAt.grownT {w w1 : World} {g : Nat} {v v1 : Value} {l m : List UInt8} (h : OutAt w g v l) (ho : w1.ownsRow (g + 1) 5 1 v1 m.length (bcells m)) (hT : Touched w w1 v.ownBlock.toList) :
    OutAt (w1.setCell ⟨g, 0, none⟩ v1) g v1 m := by
  have hc0 : w1.cell? ⟨g, 0, none⟩ = some v := (hT.cell h.lt h.apart).trans h.c0
  have hc1 : w1.cell? ⟨g, 1, none⟩ = some (.int .i64 0) := (hT.cell h.lt h.apart).trans h.c1
  have hf0 : w1.frozen? ⟨g, 0, none⟩ = false := (hT.free h.lt h.apart).trans h.f0
  have hf1 : w1.frozen? ⟨g, 1, none⟩ = false := (hT.free h.lt h.apart).trans h.f1
  refine ⟨ownsRow_setCell_below ho (by simp) _, ?_, ?_, ?_, ?_⟩
  · exact World.cell?_setCell_same' w1 _ _ (by rw [hc0]; simp)
  · exact (World.cell?_setCell_other w1 ⟨g, 0, none⟩ ⟨g, 1, none⟩ _ (by simp)).trans hc1
  · rw [World.frozen?_setCell]; exact hf0
  · rw [World.frozen?_setCell]; exact hf1

theorem OutAt.drew {w : World} {g : Nat} {v : Value} {l : List UInt8} (h : OutAt w g v l) : OutAt w.drew g v l := ⟨h.own.drew, h.c0, h.c1, h.f0, h.f1⟩

theorem low_byte (x n : Nat) : ((x : Int) / 2 ^ (8 * n)) % 256 = ((UInt8.ofNat (x / 256 ^ n)).toNat : Int) := by
  have e : (2 : Int) ^ (8 * n) = ((256 ^ n : Nat) : Int) := by
    rw [Int.pow_mul]; simp
  rw [e, UInt8.toNat_ofNat']
  simp

set_option maxHeartbeats 3200000 in
theorem outLay_calls (g : Nat) (v : Value) (l : List UInt8) (A : Option Addr) (c x : Nat) (w : World) (hO : OutAt w g v l) (hx : x < 4294967296) (hsz : l.length ≤ 1000000000) (hR : ∀ w', Touched w w' (g :: v.ownBlock.toList) → RowAt w' A [.int .i64 (x : Int)]) :
    Calls Try.prog 122 #[.pointer (some ⟨g, 0, none⟩), .int .i64 4, .slice A 1 c] w fun e w' => ∃ v', e = .returned (.pointer (some ⟨g, 0, none⟩)) ∧ OutAt w' g v' (l ++ lowL x 4) ∧ Touched w w' (g :: v.ownBlock.toList) ∧ (∀ b, v'.ownBlock = some b → v.ownBlock = some b ∨ w.heap.size ≤ b) := by
  have HO0 : Box (OutAt w g v l) := ⟨hO⟩
  have HR : Box _ := ⟨hR⟩
  clear hR hO
  have hx0 : (0 : Int) ≤ (x : Int) := by omega
  have hx1 : (x : Int) / 4294967296 = 0 := by omega
  go_enter Try.func122, Try.ntmps122
  go_wp2
  go_loopw [12] (fun i wr => ∃ (k : Nat) (u : Value), k ≤ 1 ∧ i = .int .i64 (k : Int) ∧ Box (OutAt wr g u (l ++ (lowL x 4).take (4 * k))) ∧ Hid (Touched w wr (g :: v.ownBlock.toList)) ∧ Box (∀ b, u.ownBlock = some b → v.ownBlock = some b ∨ w.heap.size ≤ b)) (fun i _ => 1 - (intOf i).toNat)
  case atStart => exact ⟨0, v, by omega, rfl, ⟨by have := HO0.out; simpa using this⟩, Touched.refl _ _, ⟨fun b hb => .inl hb⟩⟩
  case round =>
    obtain ⟨k, u, hk, rfl, HO, HT, HF⟩ := hrel
    by_cases hlt : k < 1
    · have hk0 : k = 0 := by omega
      have HK0 := Lib.hid hk0
      obtain ⟨ad, rfl, hc⟩ := (HR.out _ HT.out).get (j := k) (u := .int .i64 (x : Int)) (by rw [hk0]; rfl)
      have HO4 : Box (OutAt wr g u (l ++ (lowL x 4).take 0)) := ⟨by have := HO.out; rw [hk0] at this; exact this⟩
      clear hk0
      have k1 := HO.out.c1
      go_wp2
      go_loopw [46] (fun i wi => ∃ (n : Nat) (u : Value), n ≤ 4 ∧ i = .int .i64 (n : Int) ∧ Box (OutAt wi g u (l ++ (lowL x 4).take n)) ∧ Hid (Touched w wi (g :: v.ownBlock.toList)) ∧ Box (∀ b, u.ownBlock = some b → v.ownBlock = some b ∨ w.heap.size ≤ b)) (fun i _ => 4 - (intOf i).toNat)
      case atStart => exact ⟨0, u, by omega, rfl, HO4, HT, HF⟩
      case round =>
        obtain ⟨n, u, hn, rfl, HO, HT, HF⟩ := hrel
        by_cases hlt2 : n < 4
        · obtain ⟨b, hb⟩ : ∃ b, UInt8.ofNat (x / 256 ^ n) = b := ⟨_, rfl⟩
          have HX : Box (l ++ (lowL x 4).take (n + 1) = (l ++ (lowL x 4).take n) ++ [b]) := ⟨by rw [List.append_assoc, ← hb, ← take_snoc_of (lowL_at x 4 n hlt2)]⟩
          have HL : Hid ((l ++ (lowL x 4).take n).length ≤ 1000000004) := by rw [Hid, List.length_append, List.length_take, lowL_length]; omega
          have HV := low_byte x n
          rw [hb] at HV
          have HW8 : IntKind.u8.wrap ((x : Int) / 2 ^ (8 * n)) = (b.toNat : Int) := by rw [IntKind.wrap_u8']; exact HV
          clear hb
          obtain ⟨m, hm⟩ : ∃ m, l ++ (lowL x 4).take n = m := ⟨_, rfl⟩
          rw [hm] at HX HL HO
          clear hm
          obtain ⟨a0, ca, rfl, _, _, _⟩ := (Own.of_row HO.out.own).slice
          have hlt3 := HO.out.lt
          have k0 := HO.out.c0
          have k0a : ∀ o : Obj, (wr.alloc o).cell? ⟨g, 0, none⟩ = some (.slice a0 m.length ca) := fun o => (World.cell?_alloc_lt _ _ _ hlt3).trans k0
          have k0b : ∀ o : Obj, (wr.drew.alloc o).cell? ⟨g, 0, none⟩ = some (.slice a0 m.length ca) := fun o => (World.cell?_alloc_lt _ _ _ hlt3).trans k0
          have y3 := IntWalk.i64_in (8 * (n : Int)) (by omega)
          have y4 : (8 * (n : Int)).toNat = 8 * n := by omega
          have y5 : (0 : Int) ≤ 8 * (n : Int) := by omega
          obtain ⟨wo, rfl⟩ : ∃ wo : World, wo = wr := ⟨_, rfl⟩
          go_wp2_with fail
          go_region_law
            (first
              | (refine step_appR el_u8 (g + 1) rfl _ _ rfl (v := .slice a0 m.length ca) rfl (by first | exact (HO.out.own.alloc _).drew | exact HO.out.own.drew.alloc _) (news := bcells [b]) rfl rfl (by first | exact rowAt_alloc wo [.int .u8 (b.toNat : Int)] _ | exact rowAt_alloc wo.drew [.int .u8 (b.toNat : Int)] _) (one_bcells _) (by have := HL.out; omega) (by have := HO.out.lt; simp; omega) ?_; intro v1 w1 hown1 hg1 hp1; obtain ⟨a1, c1, rfl, _, _, _⟩ := (Own.of_row hown1).slice; have hT : Touched wo w1 (Value.slice a0 m.length ca).ownBlock.toList := (by first | exact ((Touched.refl wo _).alloc _).drew.trans (Touched.of_grown hg1) | exact ((Touched.refl wo _).drew.alloc _).trans (Touched.of_grown hg1)); have k4 := (hT.cell HO.out.lt HO.out.apart).trans HO.out.c0; have e4 := (hT.free HO.out.lt HO.out.apart).trans HO.out.f0; have HT1 : Box _ := ⟨hT⟩; have HW1 : Box _ := ⟨hown1⟩; have HP1 : Box _ := ⟨hp1⟩; clear hown1 hg1 hT hp1))
          all_goals
            go_wp2_with fail
            go_roundw
            case rel =>
              have hO2 : OutAt (w1.setCell ⟨g, 0, none⟩ (.slice a1 (m.length + 1) c1)) g (.slice a1 (m.length + 1) c1) (m ++ [b]) := HO.out.grownT (by
                have h := HW1.out
                rw [bcells, List.map_append, List.length_append]
                exact h) HT1.out
              have hT2 : Touched w (w1.setCell ⟨g, 0, none⟩ (.slice a1 (m.length + 1) c1)) (g :: v.ownBlock.toList) := (HT.out.trans' HT1.out (by
                intro j hj
                rcases HF.out j (by simpa using hj) with h | h
                · exact .inl (by simp [h])
                · exact .inr h)).setCell (.inl (by simp)) _
              have hF2 : ∀ b, (Value.slice a1 (m.length + 1) c1).ownBlock = some b → v.ownBlock = some b ∨ w.heap.size ≤ b := by
                intro b hb
                rcases HP1.out with h | h
                · exact HF.out b (by rw [← h]; exact hb)
                · rw [h] at hb
                  injection hb with hb
                  have := HT.out.size
                  simp at hb
                  exact .inr (by omega)
              first
                | exact ⟨n + 1, _, by omega, by go_num, ⟨by rw [HX.out]; exact hO2⟩, hT2, ⟨hF2⟩⟩
                | exact ⟨n + 1, _, by omega, by go_num, ⟨by rw [HX.out]; exact hO2.drew⟩, hT2.drew, ⟨hF2⟩⟩
                | ((repeat apply Exists.intro); exact ⟨⟨n + 1, _, by omega, by go_num, ⟨by rw [HX.out]; exact hO2⟩, hT2, ⟨hF2⟩⟩, rfl⟩)
            case measure => simp [intOf]; omega
        · obtain rfl : n = 4 := by omega
          go_wp2
          go_roundw
          case rel =>
            have e45 : (lowL x 4).take (4 * (k + 1)) = (lowL x 4).take 4 := by rw [HK0.out]
            rw [← e45] at HO
            first | exact ⟨k + 1, u, by omega, by go_num, HO, HT, HF⟩ | ((repeat apply Exists.intro); exact ⟨⟨k + 1, u, by omega, by go_num, HO, HT, HF⟩, rfl⟩)
          case measure => simp [intOf]; omega
    · obtain rfl : k = 1 := by omega
      go_wp2
      go_ret
      exact ⟨u, rfl, HO.out, HT.out, HF.out⟩
end Go.Proofs.Yteokcbgaljhpgaa
