/-
  What the functions of package pack and of its reference answer: contracts. No condition but the bounds that are typed.
-/
import Derived.Test.YtfpnmphmngdkdaaTx2
import Derived.Test.YtfpnmphmngdkdaaPackM
import Derived.Test.YtfpnmphmngdkdaaArr
namespace Go.Proofs.Ytfpnmphmngdkdaa
open Go.ChangeShapes Go.WideShapes Go.ChangeAt Go.RowKit
set_option linter.unusedSimpArgs false
set_option linter.unusedVariables false

theorem bytes_vals (x : Nat) (hx : x < 18446744073709551616) : #[Value.int IntKind.u8 (↑x % 256), Value.int IntKind.u8 (↑x / 256 % 256), Value.int IntKind.u8 (↑x / 65536 % 256), Value.int IntKind.u8 (↑x / 16777216 % 256), Value.int IntKind.u8 (↑x / 4294967296 % 256), Value.int IntKind.u8 (↑x / 1099511627776 % 256), Value.int IntKind.u8 (↑x / 281474976710656 % 256), Value.int IntKind.u8 (↑x / 72057594037927936)] = #[Value.int IntKind.u8 (PackM.byteAt x 0 : Nat), Value.int IntKind.u8 (PackM.byteAt x 1 : Nat), Value.int IntKind.u8 (PackM.byteAt x 2 : Nat), Value.int IntKind.u8 (PackM.byteAt x 3 : Nat), Value.int IntKind.u8 (PackM.byteAt x 4 : Nat), Value.int IntKind.u8 (PackM.byteAt x 5 : Nat), Value.int IntKind.u8 (PackM.byteAt x 6 : Nat), Value.int IntKind.u8 (PackM.byteAt x 7 : Nat)] := by
  have e : ((x : Int) / 72057594037927936) = (x : Int) / 72057594037927936 % 256 := by omega
  rw [e]
  have b0 : ((PackM.byteAt x 0 : Nat) : Int) = (x : Int) % 256 := by rw [show PackM.byteAt x 0 = x / 1 % 256 from rfl]; omega
  have b1 : ((PackM.byteAt x 1 : Nat) : Int) = (x : Int) / 256 % 256 := by rw [show PackM.byteAt x 1 = x / 256 % 256 from rfl]; omega
  have b2 : ((PackM.byteAt x 2 : Nat) : Int) = (x : Int) / 65536 % 256 := by rw [show PackM.byteAt x 2 = x / 65536 % 256 from rfl]; omega
  have b3 : ((PackM.byteAt x 3 : Nat) : Int) = (x : Int) / 16777216 % 256 := by rw [show PackM.byteAt x 3 = x / 16777216 % 256 from rfl]; omega
  have b4 : ((PackM.byteAt x 4 : Nat) : Int) = (x : Int) / 4294967296 % 256 := by rw [show PackM.byteAt x 4 = x / 4294967296 % 256 from rfl]; omega
  have b5 : ((PackM.byteAt x 5 : Nat) : Int) = (x : Int) / 1099511627776 % 256 := by rw [show PackM.byteAt x 5 = x / 1099511627776 % 256 from rfl]; omega
  have b6 : ((PackM.byteAt x 6 : Nat) : Int) = (x : Int) / 281474976710656 % 256 := by rw [show PackM.byteAt x 6 = x / 281474976710656 % 256 from rfl]; omega
  have b7 : ((PackM.byteAt x 7 : Nat) : Int) = (x : Int) / 72057594037927936 % 256 := by rw [show PackM.byteAt x 7 = x / 72057594037927936 % 256 from rfl]; omega
  rw [b0, b1, b2, b3, b4, b5, b6, b7]

theorem bytes_any (x : Nat) (hx : x < 18446744073709551616) (w : World) :
    Calls Try.prog 141 #[.int .u64 x] w fun e w' => e = .returned (.agg #[Value.int IntKind.u8 (PackM.byteAt x 0 : Nat), Value.int IntKind.u8 (PackM.byteAt x 1 : Nat), Value.int IntKind.u8 (PackM.byteAt x 2 : Nat), Value.int IntKind.u8 (PackM.byteAt x 3 : Nat), Value.int IntKind.u8 (PackM.byteAt x 4 : Nat), Value.int IntKind.u8 (PackM.byteAt x 5 : Nat), Value.int IntKind.u8 (PackM.byteAt x 6 : Nat), Value.int IntKind.u8 (PackM.byteAt x 7 : Nat)]) ∧ Below w.heap.size w w' := by
  have hv := bytes_vals x hx
  have HV := Lib.hid hv
  clear hv
  go_enter Try.func141, Try.ntmps141
  go_wp2
  refine wp_loop_rounds 9 ?_
  repeat any_goals (rw [rounds_succ]; go_wp2)
  rw [← HV.out]
  refine bodyPost_ret (v := .agg #[Value.int IntKind.u8 (↑x % 256), Value.int IntKind.u8 (↑x / 256 % 256), Value.int IntKind.u8 (↑x / 65536 % 256), Value.int IntKind.u8 (↑x / 16777216 % 256), Value.int IntKind.u8 (↑x / 4294967296 % 256), Value.int IntKind.u8 (↑x / 1099511627776 % 256), Value.int IntKind.u8 (↑x / 281474976710656 % 256), Value.int IntKind.u8 (↑x / 72057594037927936)]) (by simp [results, Try.results141, go_sem]) rfl ⟨rfl, ?_⟩
  exact ((Below.refl _ _).alloc (Nat.le_refl _) _).alloc (by simp) _

theorem join_vals (c0 c1 c2 c3 c4 c5 c6 c7 : Nat) (h0 : c0 < 256) (h1 : c1 < 256) (h2 : c2 < 256) (h3 : c3 < 256) (h4 : c4 < 256) (h5 : c5 < 256) (h6 : c6 < 256) (h7 : c7 < 256) :
    bits .or .u64 (bits .or .u64 (bits .or .u64 (bits .or .u64 (bits .or .u64 (bits .or .u64 (bits .or .u64 (bits .or .u64 0 (c0 : Int)) (c1 * 256 : Int)) (c2 * 65536 : Int)) (c3 * 16777216 : Int)) (c4 * 4294967296 : Int)) (c5 * 1099511627776 : Int)) (c6 * 281474976710656 : Int)) (c7 * 72057594037927936 : Int) = (PackM.join [c0, c1, c2, c3, c4, c5, c6, c7] : Nat) := by
  have oc : ∀ (x y : Int), 0 ≤ x → x < 18446744073709551616 → 0 ≤ y → y < 18446744073709551616 → bits .or .u64 x y = bits .or .u64 y x := by
    intro x y a b c d
    rw [u64_or x y a b c d, u64_or y x c d a b, Nat.or_comm]
  have j : ∀ (i : Nat) (x y : Int), 0 ≤ x → x.toNat < 2 ^ i → 0 ≤ y → y.toNat % 2 ^ i = 0 → x < 18446744073709551616 → y < 18446744073709551616 → bits .or .u64 x y = x + y := by
    intro i x y a b c d e f
    rw [oc x y a e c f, u64_join i y x c f d a b e]
    omega
  rw [j 0 0 c0 (by omega) (by decide) (by omega) (Nat.mod_one _) (by omega) (by omega)]
  rw [j 8 _ (c1 * 256) (by omega) (by omega) (by omega) (by omega) (by omega) (by omega)]
  rw [j 16 _ (c2 * 65536) (by omega) (by omega) (by omega) (by omega) (by omega) (by omega)]
  rw [j 24 _ (c3 * 16777216) (by omega) (by omega) (by omega) (by omega) (by omega) (by omega)]
  rw [j 32 _ (c4 * 4294967296) (by omega) (by omega) (by omega) (by omega) (by omega) (by omega)]
  rw [j 40 _ (c5 * 1099511627776) (by omega) (by omega) (by omega) (by omega) (by omega) (by omega)]
  rw [j 48 _ (c6 * 281474976710656) (by omega) (by omega) (by omega) (by omega) (by omega) (by omega)]
  rw [j 56 _ (c7 * 72057594037927936) (by omega) (by omega) (by omega) (by omega) (by omega) (by omega)]
  simp only [PackM.join]
  omega

set_option maxRecDepth 20000 in
theorem join_any8 (c0 c1 c2 c3 c4 c5 c6 c7 : Nat) (h0 : c0 < 256) (h1 : c1 < 256) (h2 : c2 < 256) (h3 : c3 < 256) (h4 : c4 < 256) (h5 : c5 < 256) (h6 : c6 < 256) (h7 : c7 < 256) (w : World) :
    Calls Try.prog 142 #[.agg #[.int .u8 c0, .int .u8 c1, .int .u8 c2, .int .u8 c3, .int .u8 c4, .int .u8 c5, .int .u8 c6, .int .u8 c7]] w fun e w' => e = .returned (.int .u64 (PackM.join [c0, c1, c2, c3, c4, c5, c6, c7] : Nat)) ∧ Below w.heap.size w w' := by
  have hv := join_vals c0 c1 c2 c3 c4 c5 c6 c7 h0 h1 h2 h3 h4 h5 h6 h7
  have HV := Lib.hid hv
  clear hv
  have h0' : (c0 : Int) < 256 := by omega
  have h1' : (c1 : Int) < 256 := by omega
  have h2' : (c2 : Int) < 256 := by omega
  have h3' : (c3 : Int) < 256 := by omega
  have h4' : (c4 : Int) < 256 := by omega
  have h5' : (c5 : Int) < 256 := by omega
  have h6' : (c6 : Int) < 256 := by omega
  have h7' : (c7 : Int) < 256 := by omega
  go_enter Try.func142, Try.ntmps142
  go_wp2
  refine wp_loop_rounds 9 ?_
  repeat any_goals (rw [rounds_succ]; go_wp2)
  trace_state
  go_ret
  refine ⟨?_, (Below.refl _ _).alloc (Nat.le_refl _) _⟩
  rw [← HV.out]
  rfl
end Go.Proofs.Ytfpnmphmngdkdaa
