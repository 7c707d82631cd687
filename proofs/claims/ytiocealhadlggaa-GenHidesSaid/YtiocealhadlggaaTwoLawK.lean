/- shatwo.Key, the reference's Keys; TwoKeys. -/
import Derived.Test.YtiocealhadlggaaBundle6
namespace Go.Proofs.Ytiocealhadlggaa
open Go.RowKit
set_option linter.unusedVariables false

theorem keyL_lit : wcells twoKeys = [.int .u32 1116352408, .int .u32 1899447441, .int .u32 3049323471, .int .u32 3921009573, .int .u32 961987163, .int .u32 1508970993, .int .u32 2453635748, .int .u32 2870763221, .int .u32 3624381080, .int .u32 310598401, .int .u32 607225278, .int .u32 1426881987, .int .u32 1925078388, .int .u32 2162078206, .int .u32 2614888103, .int .u32 3248222580, .int .u32 3835390401, .int .u32 4022224774, .int .u32 264347078, .int .u32 604807628, .int .u32 770255983, .int .u32 1249150122, .int .u32 1555081692, .int .u32 1996064986, .int .u32 2554220882, .int .u32 2821834349, .int .u32 2952996808, .int .u32 3210313671, .int .u32 3336571891, .int .u32 3584528711, .int .u32 113926993, .int .u32 338241895, .int .u32 666307205, .int .u32 773529912, .int .u32 1294757372, .int .u32 1396182291, .int .u32 1695183700, .int .u32 1986661051, .int .u32 2177026350, .int .u32 2456956037, .int .u32 2730485921, .int .u32 2820302411, .int .u32 3259730800, .int .u32 3345764771, .int .u32 3516065817, .int .u32 3600352804, .int .u32 4094571909, .int .u32 275423344, .int .u32 430227734, .int .u32 506948616, .int .u32 659060556, .int .u32 883997877, .int .u32 958139571, .int .u32 1322822218, .int .u32 1537002063, .int .u32 1747873779, .int .u32 1955562222, .int .u32 2024104815, .int .u32 2227730452, .int .u32 2361852424, .int .u32 2428436474, .int .u32 2756734187, .int .u32 3204031479, .int .u32 3329325298] := by kernel_rfl
theorem keyL_lit2 : twoKeyL = [.int .u32 1116352408, .int .u32 1899447441, .int .u32 3049323471, .int .u32 3921009573, .int .u32 961987163, .int .u32 1508970993, .int .u32 2453635748, .int .u32 2870763221, .int .u32 3624381080, .int .u32 310598401, .int .u32 607225278, .int .u32 1426881987, .int .u32 1925078388, .int .u32 2162078206, .int .u32 2614888103, .int .u32 3248222580, .int .u32 3835390401, .int .u32 4022224774, .int .u32 264347078, .int .u32 604807628, .int .u32 770255983, .int .u32 1249150122, .int .u32 1555081692, .int .u32 1996064986, .int .u32 2554220882, .int .u32 2821834349, .int .u32 2952996808, .int .u32 3210313671, .int .u32 3336571891, .int .u32 3584528711, .int .u32 113926993, .int .u32 338241895, .int .u32 666307205, .int .u32 773529912, .int .u32 1294757372, .int .u32 1396182291, .int .u32 1695183700, .int .u32 1986661051, .int .u32 2177026350, .int .u32 2456956037, .int .u32 2730485921, .int .u32 2820302411, .int .u32 3259730800, .int .u32 3345764771, .int .u32 3516065817, .int .u32 3600352804, .int .u32 4094571909, .int .u32 275423344, .int .u32 430227734, .int .u32 506948616, .int .u32 659060556, .int .u32 883997877, .int .u32 958139571, .int .u32 1322822218, .int .u32 1537002063, .int .u32 1747873779, .int .u32 1955562222, .int .u32 2024104815, .int .u32 2227730452, .int .u32 2361852424, .int .u32 2428436474, .int .u32 2756734187, .int .u32 3204031479, .int .u32 3329325298] := by kernel_rfl
def keyArr : Array Value := #[.int .u32 1116352408, .int .u32 1899447441, .int .u32 3049323471, .int .u32 3921009573, .int .u32 961987163, .int .u32 1508970993, .int .u32 2453635748, .int .u32 2870763221, .int .u32 3624381080, .int .u32 310598401, .int .u32 607225278, .int .u32 1426881987, .int .u32 1925078388, .int .u32 2162078206, .int .u32 2614888103, .int .u32 3248222580, .int .u32 3835390401, .int .u32 4022224774, .int .u32 264347078, .int .u32 604807628, .int .u32 770255983, .int .u32 1249150122, .int .u32 1555081692, .int .u32 1996064986, .int .u32 2554220882, .int .u32 2821834349, .int .u32 2952996808, .int .u32 3210313671, .int .u32 3336571891, .int .u32 3584528711, .int .u32 113926993, .int .u32 338241895, .int .u32 666307205, .int .u32 773529912, .int .u32 1294757372, .int .u32 1396182291, .int .u32 1695183700, .int .u32 1986661051, .int .u32 2177026350, .int .u32 2456956037, .int .u32 2730485921, .int .u32 2820302411, .int .u32 3259730800, .int .u32 3345764771, .int .u32 3516065817, .int .u32 3600352804, .int .u32 4094571909, .int .u32 275423344, .int .u32 430227734, .int .u32 506948616, .int .u32 659060556, .int .u32 883997877, .int .u32 958139571, .int .u32 1322822218, .int .u32 1537002063, .int .u32 1747873779, .int .u32 1955562222, .int .u32 2024104815, .int .u32 2227730452, .int .u32 2361852424, .int .u32 2428436474, .int .u32 2756734187, .int .u32 3204031479, .int .u32 3329325298]
theorem key_index0 (W : World) : (Instr.index 105 (.agg keyArr) (.int .i64 ((0 : Nat) : Int))).run Try.prog W = .ok (.int .u32 ((twoKeys.getD 0 0).toNat : Int)) W := by kernel_rfl
theorem key_index1 (W : World) : (Instr.index 105 (.agg keyArr) (.int .i64 ((1 : Nat) : Int))).run Try.prog W = .ok (.int .u32 ((twoKeys.getD 1 0).toNat : Int)) W := by kernel_rfl
theorem key_index2 (W : World) : (Instr.index 105 (.agg keyArr) (.int .i64 ((2 : Nat) : Int))).run Try.prog W = .ok (.int .u32 ((twoKeys.getD 2 0).toNat : Int)) W := by kernel_rfl
theorem key_index3 (W : World) : (Instr.index 105 (.agg keyArr) (.int .i64 ((3 : Nat) : Int))).run Try.prog W = .ok (.int .u32 ((twoKeys.getD 3 0).toNat : Int)) W := by kernel_rfl
theorem key_index4 (W : World) : (Instr.index 105 (.agg keyArr) (.int .i64 ((4 : Nat) : Int))).run Try.prog W = .ok (.int .u32 ((twoKeys.getD 4 0).toNat : Int)) W := by kernel_rfl
theorem key_index5 (W : World) : (Instr.index 105 (.agg keyArr) (.int .i64 ((5 : Nat) : Int))).run Try.prog W = .ok (.int .u32 ((twoKeys.getD 5 0).toNat : Int)) W := by kernel_rfl
theorem key_index6 (W : World) : (Instr.index 105 (.agg keyArr) (.int .i64 ((6 : Nat) : Int))).run Try.prog W = .ok (.int .u32 ((twoKeys.getD 6 0).toNat : Int)) W := by kernel_rfl
theorem key_index7 (W : World) : (Instr.index 105 (.agg keyArr) (.int .i64 ((7 : Nat) : Int))).run Try.prog W = .ok (.int .u32 ((twoKeys.getD 7 0).toNat : Int)) W := by kernel_rfl
theorem key_index8 (W : World) : (Instr.index 105 (.agg keyArr) (.int .i64 ((8 : Nat) : Int))).run Try.prog W = .ok (.int .u32 ((twoKeys.getD 8 0).toNat : Int)) W := by kernel_rfl
theorem key_index9 (W : World) : (Instr.index 105 (.agg keyArr) (.int .i64 ((9 : Nat) : Int))).run Try.prog W = .ok (.int .u32 ((twoKeys.getD 9 0).toNat : Int)) W := by kernel_rfl
theorem key_index10 (W : World) : (Instr.index 105 (.agg keyArr) (.int .i64 ((10 : Nat) : Int))).run Try.prog W = .ok (.int .u32 ((twoKeys.getD 10 0).toNat : Int)) W := by kernel_rfl
theorem key_index11 (W : World) : (Instr.index 105 (.agg keyArr) (.int .i64 ((11 : Nat) : Int))).run Try.prog W = .ok (.int .u32 ((twoKeys.getD 11 0).toNat : Int)) W := by kernel_rfl
theorem key_index12 (W : World) : (Instr.index 105 (.agg keyArr) (.int .i64 ((12 : Nat) : Int))).run Try.prog W = .ok (.int .u32 ((twoKeys.getD 12 0).toNat : Int)) W := by kernel_rfl
theorem key_index13 (W : World) : (Instr.index 105 (.agg keyArr) (.int .i64 ((13 : Nat) : Int))).run Try.prog W = .ok (.int .u32 ((twoKeys.getD 13 0).toNat : Int)) W := by kernel_rfl
theorem key_index14 (W : World) : (Instr.index 105 (.agg keyArr) (.int .i64 ((14 : Nat) : Int))).run Try.prog W = .ok (.int .u32 ((twoKeys.getD 14 0).toNat : Int)) W := by kernel_rfl
theorem key_index15 (W : World) : (Instr.index 105 (.agg keyArr) (.int .i64 ((15 : Nat) : Int))).run Try.prog W = .ok (.int .u32 ((twoKeys.getD 15 0).toNat : Int)) W := by kernel_rfl
theorem key_index16 (W : World) : (Instr.index 105 (.agg keyArr) (.int .i64 ((16 : Nat) : Int))).run Try.prog W = .ok (.int .u32 ((twoKeys.getD 16 0).toNat : Int)) W := by kernel_rfl
theorem key_index17 (W : World) : (Instr.index 105 (.agg keyArr) (.int .i64 ((17 : Nat) : Int))).run Try.prog W = .ok (.int .u32 ((twoKeys.getD 17 0).toNat : Int)) W := by kernel_rfl
theorem key_index18 (W : World) : (Instr.index 105 (.agg keyArr) (.int .i64 ((18 : Nat) : Int))).run Try.prog W = .ok (.int .u32 ((twoKeys.getD 18 0).toNat : Int)) W := by kernel_rfl
theorem key_index19 (W : World) : (Instr.index 105 (.agg keyArr) (.int .i64 ((19 : Nat) : Int))).run Try.prog W = .ok (.int .u32 ((twoKeys.getD 19 0).toNat : Int)) W := by kernel_rfl
theorem key_index20 (W : World) : (Instr.index 105 (.agg keyArr) (.int .i64 ((20 : Nat) : Int))).run Try.prog W = .ok (.int .u32 ((twoKeys.getD 20 0).toNat : Int)) W := by kernel_rfl
theorem key_index21 (W : World) : (Instr.index 105 (.agg keyArr) (.int .i64 ((21 : Nat) : Int))).run Try.prog W = .ok (.int .u32 ((twoKeys.getD 21 0).toNat : Int)) W := by kernel_rfl
theorem key_index22 (W : World) : (Instr.index 105 (.agg keyArr) (.int .i64 ((22 : Nat) : Int))).run Try.prog W = .ok (.int .u32 ((twoKeys.getD 22 0).toNat : Int)) W := by kernel_rfl
theorem key_index23 (W : World) : (Instr.index 105 (.agg keyArr) (.int .i64 ((23 : Nat) : Int))).run Try.prog W = .ok (.int .u32 ((twoKeys.getD 23 0).toNat : Int)) W := by kernel_rfl
theorem key_index24 (W : World) : (Instr.index 105 (.agg keyArr) (.int .i64 ((24 : Nat) : Int))).run Try.prog W = .ok (.int .u32 ((twoKeys.getD 24 0).toNat : Int)) W := by kernel_rfl
theorem key_index25 (W : World) : (Instr.index 105 (.agg keyArr) (.int .i64 ((25 : Nat) : Int))).run Try.prog W = .ok (.int .u32 ((twoKeys.getD 25 0).toNat : Int)) W := by kernel_rfl
theorem key_index26 (W : World) : (Instr.index 105 (.agg keyArr) (.int .i64 ((26 : Nat) : Int))).run Try.prog W = .ok (.int .u32 ((twoKeys.getD 26 0).toNat : Int)) W := by kernel_rfl
theorem key_index27 (W : World) : (Instr.index 105 (.agg keyArr) (.int .i64 ((27 : Nat) : Int))).run Try.prog W = .ok (.int .u32 ((twoKeys.getD 27 0).toNat : Int)) W := by kernel_rfl
theorem key_index28 (W : World) : (Instr.index 105 (.agg keyArr) (.int .i64 ((28 : Nat) : Int))).run Try.prog W = .ok (.int .u32 ((twoKeys.getD 28 0).toNat : Int)) W := by kernel_rfl
theorem key_index29 (W : World) : (Instr.index 105 (.agg keyArr) (.int .i64 ((29 : Nat) : Int))).run Try.prog W = .ok (.int .u32 ((twoKeys.getD 29 0).toNat : Int)) W := by kernel_rfl
theorem key_index30 (W : World) : (Instr.index 105 (.agg keyArr) (.int .i64 ((30 : Nat) : Int))).run Try.prog W = .ok (.int .u32 ((twoKeys.getD 30 0).toNat : Int)) W := by kernel_rfl
theorem key_index31 (W : World) : (Instr.index 105 (.agg keyArr) (.int .i64 ((31 : Nat) : Int))).run Try.prog W = .ok (.int .u32 ((twoKeys.getD 31 0).toNat : Int)) W := by kernel_rfl
theorem key_index32 (W : World) : (Instr.index 105 (.agg keyArr) (.int .i64 ((32 : Nat) : Int))).run Try.prog W = .ok (.int .u32 ((twoKeys.getD 32 0).toNat : Int)) W := by kernel_rfl
theorem key_index33 (W : World) : (Instr.index 105 (.agg keyArr) (.int .i64 ((33 : Nat) : Int))).run Try.prog W = .ok (.int .u32 ((twoKeys.getD 33 0).toNat : Int)) W := by kernel_rfl
theorem key_index34 (W : World) : (Instr.index 105 (.agg keyArr) (.int .i64 ((34 : Nat) : Int))).run Try.prog W = .ok (.int .u32 ((twoKeys.getD 34 0).toNat : Int)) W := by kernel_rfl
theorem key_index35 (W : World) : (Instr.index 105 (.agg keyArr) (.int .i64 ((35 : Nat) : Int))).run Try.prog W = .ok (.int .u32 ((twoKeys.getD 35 0).toNat : Int)) W := by kernel_rfl
theorem key_index36 (W : World) : (Instr.index 105 (.agg keyArr) (.int .i64 ((36 : Nat) : Int))).run Try.prog W = .ok (.int .u32 ((twoKeys.getD 36 0).toNat : Int)) W := by kernel_rfl
theorem key_index37 (W : World) : (Instr.index 105 (.agg keyArr) (.int .i64 ((37 : Nat) : Int))).run Try.prog W = .ok (.int .u32 ((twoKeys.getD 37 0).toNat : Int)) W := by kernel_rfl
theorem key_index38 (W : World) : (Instr.index 105 (.agg keyArr) (.int .i64 ((38 : Nat) : Int))).run Try.prog W = .ok (.int .u32 ((twoKeys.getD 38 0).toNat : Int)) W := by kernel_rfl
theorem key_index39 (W : World) : (Instr.index 105 (.agg keyArr) (.int .i64 ((39 : Nat) : Int))).run Try.prog W = .ok (.int .u32 ((twoKeys.getD 39 0).toNat : Int)) W := by kernel_rfl
theorem key_index40 (W : World) : (Instr.index 105 (.agg keyArr) (.int .i64 ((40 : Nat) : Int))).run Try.prog W = .ok (.int .u32 ((twoKeys.getD 40 0).toNat : Int)) W := by kernel_rfl
theorem key_index41 (W : World) : (Instr.index 105 (.agg keyArr) (.int .i64 ((41 : Nat) : Int))).run Try.prog W = .ok (.int .u32 ((twoKeys.getD 41 0).toNat : Int)) W := by kernel_rfl
theorem key_index42 (W : World) : (Instr.index 105 (.agg keyArr) (.int .i64 ((42 : Nat) : Int))).run Try.prog W = .ok (.int .u32 ((twoKeys.getD 42 0).toNat : Int)) W := by kernel_rfl
theorem key_index43 (W : World) : (Instr.index 105 (.agg keyArr) (.int .i64 ((43 : Nat) : Int))).run Try.prog W = .ok (.int .u32 ((twoKeys.getD 43 0).toNat : Int)) W := by kernel_rfl
theorem key_index44 (W : World) : (Instr.index 105 (.agg keyArr) (.int .i64 ((44 : Nat) : Int))).run Try.prog W = .ok (.int .u32 ((twoKeys.getD 44 0).toNat : Int)) W := by kernel_rfl
theorem key_index45 (W : World) : (Instr.index 105 (.agg keyArr) (.int .i64 ((45 : Nat) : Int))).run Try.prog W = .ok (.int .u32 ((twoKeys.getD 45 0).toNat : Int)) W := by kernel_rfl
theorem key_index46 (W : World) : (Instr.index 105 (.agg keyArr) (.int .i64 ((46 : Nat) : Int))).run Try.prog W = .ok (.int .u32 ((twoKeys.getD 46 0).toNat : Int)) W := by kernel_rfl
theorem key_index47 (W : World) : (Instr.index 105 (.agg keyArr) (.int .i64 ((47 : Nat) : Int))).run Try.prog W = .ok (.int .u32 ((twoKeys.getD 47 0).toNat : Int)) W := by kernel_rfl
theorem key_index48 (W : World) : (Instr.index 105 (.agg keyArr) (.int .i64 ((48 : Nat) : Int))).run Try.prog W = .ok (.int .u32 ((twoKeys.getD 48 0).toNat : Int)) W := by kernel_rfl
theorem key_index49 (W : World) : (Instr.index 105 (.agg keyArr) (.int .i64 ((49 : Nat) : Int))).run Try.prog W = .ok (.int .u32 ((twoKeys.getD 49 0).toNat : Int)) W := by kernel_rfl
theorem key_index50 (W : World) : (Instr.index 105 (.agg keyArr) (.int .i64 ((50 : Nat) : Int))).run Try.prog W = .ok (.int .u32 ((twoKeys.getD 50 0).toNat : Int)) W := by kernel_rfl
theorem key_index51 (W : World) : (Instr.index 105 (.agg keyArr) (.int .i64 ((51 : Nat) : Int))).run Try.prog W = .ok (.int .u32 ((twoKeys.getD 51 0).toNat : Int)) W := by kernel_rfl
theorem key_index52 (W : World) : (Instr.index 105 (.agg keyArr) (.int .i64 ((52 : Nat) : Int))).run Try.prog W = .ok (.int .u32 ((twoKeys.getD 52 0).toNat : Int)) W := by kernel_rfl
theorem key_index53 (W : World) : (Instr.index 105 (.agg keyArr) (.int .i64 ((53 : Nat) : Int))).run Try.prog W = .ok (.int .u32 ((twoKeys.getD 53 0).toNat : Int)) W := by kernel_rfl
theorem key_index54 (W : World) : (Instr.index 105 (.agg keyArr) (.int .i64 ((54 : Nat) : Int))).run Try.prog W = .ok (.int .u32 ((twoKeys.getD 54 0).toNat : Int)) W := by kernel_rfl
theorem key_index55 (W : World) : (Instr.index 105 (.agg keyArr) (.int .i64 ((55 : Nat) : Int))).run Try.prog W = .ok (.int .u32 ((twoKeys.getD 55 0).toNat : Int)) W := by kernel_rfl
theorem key_index56 (W : World) : (Instr.index 105 (.agg keyArr) (.int .i64 ((56 : Nat) : Int))).run Try.prog W = .ok (.int .u32 ((twoKeys.getD 56 0).toNat : Int)) W := by kernel_rfl
theorem key_index57 (W : World) : (Instr.index 105 (.agg keyArr) (.int .i64 ((57 : Nat) : Int))).run Try.prog W = .ok (.int .u32 ((twoKeys.getD 57 0).toNat : Int)) W := by kernel_rfl
theorem key_index58 (W : World) : (Instr.index 105 (.agg keyArr) (.int .i64 ((58 : Nat) : Int))).run Try.prog W = .ok (.int .u32 ((twoKeys.getD 58 0).toNat : Int)) W := by kernel_rfl
theorem key_index59 (W : World) : (Instr.index 105 (.agg keyArr) (.int .i64 ((59 : Nat) : Int))).run Try.prog W = .ok (.int .u32 ((twoKeys.getD 59 0).toNat : Int)) W := by kernel_rfl
theorem key_index60 (W : World) : (Instr.index 105 (.agg keyArr) (.int .i64 ((60 : Nat) : Int))).run Try.prog W = .ok (.int .u32 ((twoKeys.getD 60 0).toNat : Int)) W := by kernel_rfl
theorem key_index61 (W : World) : (Instr.index 105 (.agg keyArr) (.int .i64 ((61 : Nat) : Int))).run Try.prog W = .ok (.int .u32 ((twoKeys.getD 61 0).toNat : Int)) W := by kernel_rfl
theorem key_index62 (W : World) : (Instr.index 105 (.agg keyArr) (.int .i64 ((62 : Nat) : Int))).run Try.prog W = .ok (.int .u32 ((twoKeys.getD 62 0).toNat : Int)) W := by kernel_rfl
theorem key_index63 (W : World) : (Instr.index 105 (.agg keyArr) (.int .i64 ((63 : Nat) : Int))).run Try.prog W = .ok (.int .u32 ((twoKeys.getD 63 0).toNat : Int)) W := by kernel_rfl
theorem key_index (k : Nat) (hk : k < 64) (W : World) : (Instr.index 105 (.agg #[.int .u32 1116352408, .int .u32 1899447441, .int .u32 3049323471, .int .u32 3921009573, .int .u32 961987163, .int .u32 1508970993, .int .u32 2453635748, .int .u32 2870763221, .int .u32 3624381080, .int .u32 310598401, .int .u32 607225278, .int .u32 1426881987, .int .u32 1925078388, .int .u32 2162078206, .int .u32 2614888103, .int .u32 3248222580, .int .u32 3835390401, .int .u32 4022224774, .int .u32 264347078, .int .u32 604807628, .int .u32 770255983, .int .u32 1249150122, .int .u32 1555081692, .int .u32 1996064986, .int .u32 2554220882, .int .u32 2821834349, .int .u32 2952996808, .int .u32 3210313671, .int .u32 3336571891, .int .u32 3584528711, .int .u32 113926993, .int .u32 338241895, .int .u32 666307205, .int .u32 773529912, .int .u32 1294757372, .int .u32 1396182291, .int .u32 1695183700, .int .u32 1986661051, .int .u32 2177026350, .int .u32 2456956037, .int .u32 2730485921, .int .u32 2820302411, .int .u32 3259730800, .int .u32 3345764771, .int .u32 3516065817, .int .u32 3600352804, .int .u32 4094571909, .int .u32 275423344, .int .u32 430227734, .int .u32 506948616, .int .u32 659060556, .int .u32 883997877, .int .u32 958139571, .int .u32 1322822218, .int .u32 1537002063, .int .u32 1747873779, .int .u32 1955562222, .int .u32 2024104815, .int .u32 2227730452, .int .u32 2361852424, .int .u32 2428436474, .int .u32 2756734187, .int .u32 3204031479, .int .u32 3329325298]) (.int .i64 (k : Int))).run Try.prog W = .ok (.int .u32 ((twoKeys.getD k 0).toNat : Int)) W := by
  have h : k = 0 ∨ k = 1 ∨ k = 2 ∨ k = 3 ∨ k = 4 ∨ k = 5 ∨ k = 6 ∨ k = 7 ∨ k = 8 ∨ k = 9 ∨ k = 10 ∨ k = 11 ∨ k = 12 ∨ k = 13 ∨ k = 14 ∨ k = 15 ∨ k = 16 ∨ k = 17 ∨ k = 18 ∨ k = 19 ∨ k = 20 ∨ k = 21 ∨ k = 22 ∨ k = 23 ∨ k = 24 ∨ k = 25 ∨ k = 26 ∨ k = 27 ∨ k = 28 ∨ k = 29 ∨ k = 30 ∨ k = 31 ∨ k = 32 ∨ k = 33 ∨ k = 34 ∨ k = 35 ∨ k = 36 ∨ k = 37 ∨ k = 38 ∨ k = 39 ∨ k = 40 ∨ k = 41 ∨ k = 42 ∨ k = 43 ∨ k = 44 ∨ k = 45 ∨ k = 46 ∨ k = 47 ∨ k = 48 ∨ k = 49 ∨ k = 50 ∨ k = 51 ∨ k = 52 ∨ k = 53 ∨ k = 54 ∨ k = 55 ∨ k = 56 ∨ k = 57 ∨ k = 58 ∨ k = 59 ∨ k = 60 ∨ k = 61 ∨ k = 62 ∨ k = 63 := by omega
  rcases h with h | h | h | h | h | h | h | h | h | h | h | h | h | h | h | h | h | h | h | h | h | h | h | h | h | h | h | h | h | h | h | h | h | h | h | h | h | h | h | h | h | h | h | h | h | h | h | h | h | h | h | h | h | h | h | h | h | h | h | h | h | h | h | h
  · rw [h]; exact key_index0 W
  · rw [h]; exact key_index1 W
  · rw [h]; exact key_index2 W
  · rw [h]; exact key_index3 W
  · rw [h]; exact key_index4 W
  · rw [h]; exact key_index5 W
  · rw [h]; exact key_index6 W
  · rw [h]; exact key_index7 W
  · rw [h]; exact key_index8 W
  · rw [h]; exact key_index9 W
  · rw [h]; exact key_index10 W
  · rw [h]; exact key_index11 W
  · rw [h]; exact key_index12 W
  · rw [h]; exact key_index13 W
  · rw [h]; exact key_index14 W
  · rw [h]; exact key_index15 W
  · rw [h]; exact key_index16 W
  · rw [h]; exact key_index17 W
  · rw [h]; exact key_index18 W
  · rw [h]; exact key_index19 W
  · rw [h]; exact key_index20 W
  · rw [h]; exact key_index21 W
  · rw [h]; exact key_index22 W
  · rw [h]; exact key_index23 W
  · rw [h]; exact key_index24 W
  · rw [h]; exact key_index25 W
  · rw [h]; exact key_index26 W
  · rw [h]; exact key_index27 W
  · rw [h]; exact key_index28 W
  · rw [h]; exact key_index29 W
  · rw [h]; exact key_index30 W
  · rw [h]; exact key_index31 W
  · rw [h]; exact key_index32 W
  · rw [h]; exact key_index33 W
  · rw [h]; exact key_index34 W
  · rw [h]; exact key_index35 W
  · rw [h]; exact key_index36 W
  · rw [h]; exact key_index37 W
  · rw [h]; exact key_index38 W
  · rw [h]; exact key_index39 W
  · rw [h]; exact key_index40 W
  · rw [h]; exact key_index41 W
  · rw [h]; exact key_index42 W
  · rw [h]; exact key_index43 W
  · rw [h]; exact key_index44 W
  · rw [h]; exact key_index45 W
  · rw [h]; exact key_index46 W
  · rw [h]; exact key_index47 W
  · rw [h]; exact key_index48 W
  · rw [h]; exact key_index49 W
  · rw [h]; exact key_index50 W
  · rw [h]; exact key_index51 W
  · rw [h]; exact key_index52 W
  · rw [h]; exact key_index53 W
  · rw [h]; exact key_index54 W
  · rw [h]; exact key_index55 W
  · rw [h]; exact key_index56 W
  · rw [h]; exact key_index57 W
  · rw [h]; exact key_index58 W
  · rw [h]; exact key_index59 W
  · rw [h]; exact key_index60 W
  · rw [h]; exact key_index61 W
  · rw [h]; exact key_index62 W
  · rw [h]; exact key_index63 W
set_option maxHeartbeats 1600000 in
theorem refKeys_calls (w : World) : Calls Try.prog 32 #[] w fun e w' => e = .returned (.slice (some ⟨w.heap.size, 0, none⟩) 64 64) ∧ Box (RowAt w' (some ⟨w.heap.size, 0, none⟩) (wcells twoKeys)) ∧ Below w.heap.size w w' := by
  rw [keyL_lit]
  go_enter Try.func32, Try.ntmps32
  go_wp2
  go_ret
  exact ⟨rfl, ⟨rowAt_alloc w _ _⟩, (Below.refl _ _).alloc (Nat.le_refl _) _⟩

end Go.Proofs.Ytiocealhadlggaa
