/-
  An element of an array value, as a rule of the walk, at the program's own array types. No condition but the index in its bounds.
-/
import Derived.Test.YtfpnmphmngdkdaaLib
namespace Go.Proofs.Ytfpnmphmngdkdaa
open Go.ChangeShapes Go.WideShapes Go.ChangeAt Go.RowKit

theorem index_arr {t e : TypeId} {n : Nat} {d : TypeDesc} (hu : Try.prog.underlying t = some (.array n e)) (hue : Try.prog.underlying e = some d)
    (hd : aggT d = false) (hs : (Try.prog.info? e).map (·.size) = some 1)
    (cs : Array Value) (i : Int) (h0 : 0 ≤ i) (h1 : i < n) (hn : cs.size = n) (w : World) :
    (Instr.index t (.agg cs) (.int .i64 i)).run Try.prog w = .ok (cs.getD i.toNat undef) w := by
  obtain ⟨k, rfl⟩ := Int.eq_ofNat_of_zero_le h0
  have hk : k < cs.size := by omega
  rw [run_index_arr hu hue hd hs cs .i64 k cs[k] (by omega) (Array.getElem?_eq_getElem hk) w]
  simp [Array.getD, hk]

@[go_sem] theorem index_b8 (cs : Array Value) (i : Int) (w : World) (hn : cs.size = 8) (h0 : 0 ≤ i) (h1 : i < 8) : (Instr.index 165 (.agg cs) (.int .i64 i)).run Try.prog w = .ok (cs.getD i.toNat undef) w :=
  index_arr Try.underlying165 Try.underlying5 rfl (by kernel_rfl) cs i h0 h1 hn w
end Go.Proofs.Ytfpnmphmngdkdaa
