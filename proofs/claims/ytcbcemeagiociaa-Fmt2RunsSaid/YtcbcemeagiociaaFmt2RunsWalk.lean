/-
  The walk of the law Fmt2Runs: it answers true, whatever thirteen numbers come in; nothing that was there is written.
-/
import Derived.Test.YtcbcemeagiociaaRuns
namespace Go.Proofs.Ytcbcemeagiociaa
open Go.ChangeShapes Go.WideShapes Go.ChangeAt Go.RowKit

theorem two_mk {W w1 w2 w3 : World} {B : Nat} {xs ys : List Int} {v1 v2 : Value}
    (h1 : w2.ownsRow w1.heap.size 26 1 v1 xs.length (xs.map (Value.int .u64))) (h2 : w3.ownsRow w2.heap.size 26 1 v2 ys.length (ys.map (Value.int .u64)))
    (hb1 : Below B W w1) (hb2 : Below w1.heap.size w1 w2) (hb3 : Below w2.heap.size w2 w3) (hB : B ≤ w1.heap.size) :
    w3.ownsRow B 26 1 v1 xs.length (xs.map (Value.int .u64)) ∧ w3.ownsRow B 26 1 v2 ys.length (ys.map (Value.int .u64)) ∧ Below B W w3 := by
  have s2 := hb2.size
  exact ⟨own_base (own_below h1 hb3 (Nat.le_refl _)) hB, own_base h2 (by omega), hb1.trans ((hb2.mono hB).trans (hb3.mono (by omega)))⟩

theorem two_mk' {W w1 w2 w3 : World} {B : Nat} {xs ys : List Int} {v1 v2 : Value}
    (h1 : w3.ownsRow w2.heap.size 26 1 v1 xs.length (xs.map (Value.int .u64))) (h2 : w2.ownsRow w1.heap.size 26 1 v2 ys.length (ys.map (Value.int .u64)))
    (hb1 : Below B W w1) (hb3 : Below w2.heap.size w2 w3) (hb2 : Below w1.heap.size w1 w2) (hB : B ≤ w1.heap.size) :
    w3.ownsRow B 26 1 v1 xs.length (xs.map (Value.int .u64)) ∧ w3.ownsRow B 26 1 v2 ys.length (ys.map (Value.int .u64)) ∧ Below B W w3 :=
  let h := two_mk h2 h1 hb1 hb2 hb3 hB
  ⟨h.2.1, h.1, h.2.2⟩

def TwoRows (B : Nat) (xs ys : List Int) (W : World) (v1 v2 : Value) (w : World) : Prop :=
  w.ownsRow B 26 1 v1 xs.length (xs.map (Value.int .u64)) ∧ w.ownsRow B 26 1 v2 ys.length (ys.map (Value.int .u64)) ∧ Below B W w

theorem awake7 (w : World) : Calls Try.prog 15 #[] w fun e w' => e = .returned (.bool true) ∧ Below w.heap.size w w' := by
  have hr : RunsM.runs [9, 10, 11, 0, 0, 0, 0, 0, 0, 0, 0, 0, 0] = [2307] := by decide
  go_enter Try.func15, Try.ntmps15
  go_wp2_with fail
  refine (fmt2_runs [9, 10, 11, 0, 0, 0, 0, 0, 0, 0, 0, 0, 0] rfl _).mono ?_
  rintro e w1 ⟨v, rfl, ho, hb⟩
  rw [hr] at ho
  obtain ⟨g, cap, rfl, hg⟩ := own_some ho (by decide)
  have hc : w1.cell? ⟨g, 0, none⟩ = some (.int .u64 2307) := ho.cellAt 0 (by decide)
  clear ho
  go_wp2
  go_ret
  exact ⟨rfl, hb⟩

theorem _root_.Go.RowKit.Below.drewN {B : Nat} {a w : World} (h : Below B a w) (n : Nat) : Below B a (w.drewN n) := ⟨h.os, h.tape, h.output, h.size, h.block⟩

set_option maxRecDepth 20000 in
set_option maxHeartbeats 800000 in
theorem law_runs (x0 x1 x2 x3 x4 x5 x6 x7 x8 x9 x10 x11 x12 : Int) (w : World) :
    Calls Try.prog 3 #[.agg #[.int .i64 x0, .int .i64 x1, .int .i64 x2, .int .i64 x3, .int .i64 x4, .int .i64 x5, .int .i64 x6, .int .i64 x7, .int .i64 x8, .int .i64 x9, .int .i64 x10, .int .i64 x11, .int .i64 x12]] w fun e w' => e = .returned (.bool true) ∧ Below w.heap.size w w' := by
  have hbox := boxed_new w #[.int .i64 x0, .int .i64 x1, .int .i64 x2, .int .i64 x3, .int .i64 x4, .int .i64 x5, .int .i64 x6, .int .i64 x7, .int .i64 x8, .int .i64 x9, .int .i64 x10, .int .i64 x11, .int .i64 x12] 22 (0, 0)
  have HB := Lib.hid hbox
  clear hbox
  go_enter Try.func3, Try.ntmps3
  go_wp2_with fail
  refine (awake7 _).mono ?_
  rintro e w1 ⟨rfl, hb1⟩
  have hbox1 := boxed_below HB.out hb1 (by simp)
  have hw1 := hb1.size
  simp only [World.size_alloc] at hw1
  have hb1' := hb1.mono (B' := w.heap.size + 1) (by simp)
  go_upto_region 3 with (fail)
  go_cut [3, 4] (fun v1 v2 wc => TwoRows (w.heap.size + 1) (RunsM.runs [x0, x1, x2, x3, x4, x5, x6, x7, x8, x9, x10, x11, x12]) (RunsM.ref 0 0 [x0, x1, x2, x3, x4, x5, x6, x7, x8, x9, x10, x11, x12]) (w.alloc (.cells #[.int .i64 x0, .int .i64 x1, .int .i64 x2, .int .i64 x3, .int .i64 x4, .int .i64 x5, .int .i64 x6, .int .i64 x7, .int .i64 x8, .int .i64 x9, .int .i64 x10, .int .i64 x11, .int .i64 x12] 22)) v1 v2 wc)
  case first =>
    go_region_with (first | (go_at_call 16; refine (fmt2_runs [x0, x1, x2, x3, x4, x5, x6, x7, x8, x9, x10, x11, x12] rfl _).mono ?_; rintro e wa ⟨v1, rfl, ho1, hb2⟩; have hra := boxed_below (by assumption) hb2 (by simp)) | (go_at_call 17; refine (ref_runs [x0, x1, x2, x3, x4, x5, x6, x7, x8, x9, x10, x11, x12] rfl _).mono ?_; rintro e wb ⟨v2, rfl, ho2, hb3⟩; have hrb := boxed_below (by assumption) hb3 (by simp)))
    all_goals
      go_wp2_with fail
      go_meet
      case rel =>
        first
        | exact two_mk ho1 ho2 hb1'.drew hb2 hb3 hw1
        | exact two_mk' ho1 ho2 hb1'.drew hb2 hb3 hw1
  case rest =>
    have he := RunsM.runs_eq [x0, x1, x2, x3, x4, x5, x6, x7, x8, x9, x10, x11, x12] rfl
    generalize RunsM.runs [x0, x1, x2, x3, x4, x5, x6, x7, x8, x9, x10, x11, x12] = ys at hcut he
    rw [← he] at hcut
    obtain ⟨ho1, ho2, hbel⟩ := hcut
    have HE := Lib.hid he
    clear he
    obtain ⟨a1, c1, rfl, _, hm1, hs1⟩ := own_shape ho1
    obtain ⟨a2, c2, rfl, _, hm2, hs2⟩ := own_shape ho2
    unfold maxLen at hm1 hm2
    have hne : ((ys.length : Int) != (ys.length : Int)) = false := by simp
    have HO1 := Lib.hid ho1
    have HO2 := Lib.hid ho2
    have HS1 := Lib.hid hs1
    have HS2 := Lib.hid hs2
    clear ho1 ho2 hs1 hs2
    have hBel : Below w.heap.size w wc := ((Below.refl _ _).alloc (Nat.le_refl _) _).trans (hbel.mono (by omega))
    go_wp2
    go_loopg [5] ys.length (fun g i wr => ∃ k : Nat, k + g = ys.length ∧ i = .int .i64 k ∧ (∃ n, wr = wc.drewN n))
    case atStart => exact ⟨0, by omega, rfl, 0, rfl⟩
    case round =>
      obtain ⟨k, hk, rfl, nd, rfl⟩ := hrel
      by_cases hlt : k < ys.length
      · obtain ⟨g1, d1, e1, _⟩ := own_some HO1.out (by omega)
        obtain ⟨g2, d2, e2, _⟩ := own_some HO2.out (by omega)
        simp only [Value.slice.injEq] at e1 e2
        obtain ⟨rfl, _, rfl⟩ := e1
        obtain ⟨rfl, _, rfl⟩ := e2
        have hc1 : wc.cell? ⟨g1, k, none⟩ = some (.int .u64 ys[k]) := by rw [HO1.out.cellAt k (by omega)]; simp [hlt]
        have hc2 : wc.cell? ⟨g2, k, none⟩ = some (.int .u64 ys[k]) := by rw [HO2.out.cellAt k (by omega)]; simp [hlt]
        generalize ys[k] = x at hc1 hc2
        have hxx : (x != x) = false := by simp
        go_wp2
        go_quiet (fail)
        go_wp2
        go_roundg (gk - 1)
        case measure => omega
        case rel => 
          exact ⟨k + 1, by omega, by go_num, _, rfl⟩
      · obtain rfl : k = ys.length := by omega
        go_wp2
        go_ret
        exact ⟨rfl, hBel.drewN _⟩
end Go.Proofs.Ytcbcemeagiociaa
