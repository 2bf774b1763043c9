import Derived.Test.YtcbcemeagiociaaTx2
import Derived.Maps.AppendAt
namespace Go.Proofs.Ytcbcemeagiociaa
open Go.ChangeShapes Go.WideShapes Go.ChangeAt Go.RowKit
set_option linter.unusedSimpArgs false
set_option linter.unusedVariables false

/-- The words below a place that are otherwise than beneath. -/
def pairsTo (S : Sh) : Nat → List (Nat × Int)
  | 0 => []
  | k + 1 => pairsTo S k ++ if S.now k = S.beneath k then [] else [(k, S.now k)]

theorem pairsTo_len (S : Sh) (k : Nat) : (pairsTo S k).length ≤ k := by
  induction k with
  | zero => simp [pairsTo]
  | succ k ih => simp only [pairsTo]; split <;> simp <;> omega

set_option maxRecDepth 20000 in
set_option maxHeartbeats 1000000 in
theorem pairs_anyN {w : World} {p : Nat} {D : Nat → Prop} {S : Sh} (h : SheetAt w p D S) (N : Nat) (hN : N = 3128) :
    Calls Try.prog 53 #[.pointer (some ⟨p, 0, none⟩)] w fun e w' => ∃ v, e = .returned v ∧ w'.ownsRow w.heap.size 54 2 v (pairsTo S N).length (pairCells (pairsTo S N)) ∧ Below w.heap.size w w' := by
  obtain ⟨i0, hi0, hz0, hz1, hz2⟩ := info_parts Try.infoPair
  obtain ⟨pb, nb, cb, cn, wv, h⟩ := h
  have hc0 : w.cell? ⟨p, 0, none⟩ = some (.slice (some ⟨pb, 0, none⟩) 3128 cb) := by rw [cell_of_row _ _ _ _ _ _ h.head]; rfl
  have hc1 : w.cell? ⟨p, 1, none⟩ = some (.slice (some ⟨nb, 0, none⟩) 3128 cn) := by rw [cell_of_row _ _ _ _ _ _ h.head]; rfl
  have HNOW := Lib.hid h.now
  have HBEN := Lib.hid h.beneath
  have HP := Lib.hid (show p < w.heap.size from h.lt _ h.dp)
  clear h
  have HNN := Lib.hid hN
  clear hN
  go_enter Try.func53, Try.ntmps53
  go_wp2
  go_loopg [3, 11] 3128 (fun g o i wr => ∃ k m : Nat, k + g = 3128 ∧ i = .int .i64 k ∧ m ≤ k ∧ Hid (m = (pairsTo S k).length) ∧ Hid (wr.ownsRow w.heap.size 54 2 o m (pairCells (pairsTo S k))) ∧ Hid (Below w.heap.size w wr))
  case atStart => exact ⟨0, 0, by omega, rfl, by omega, rfl, World.ownsRow_nil _ _ _ _, Below.refl _ _⟩
  case round =>
    obtain ⟨k, m, hk, rfl, hmk, HM, HO, HB⟩ := hrel
    obtain ⟨ao, cap, rfl, -, -, -⟩ := own_shape HO.out
    by_cases hlt : k < 3128
    · have hd1 : wr.cell? ⟨nb, k, none⟩ = some (.int .u64 (S.now k)) := (HB.out.cell (p := ⟨nb, k, none⟩) HNOW.out.lt).trans (HNOW.out.cell k hlt)
      have hd2 : wr.cell? ⟨pb, k, none⟩ = some (.int .u64 (S.beneath k)) := (HB.out.cell (p := ⟨pb, k, none⟩) HBEN.out.lt).trans (HBEN.out.cell k hlt)
      have hd3 : wr.cell? ⟨p, 0, none⟩ = some (.slice (some ⟨pb, 0, none⟩) 3128 cb) := (HB.out.cell (p := ⟨p, 0, none⟩) HP.out).trans hc0
      have HSTEP : Hid (pairsTo S (k + 1) = pairsTo S k ++ if S.now k = S.beneath k then [] else [(k, S.now k)]) := rfl
      generalize S.now k = x at hd1 HSTEP
      generalize S.beneath k = y at hd2 HSTEP
      by_cases hxy : x = y
      · have hne : (x != y) = false := by simp [hxy]
        have HXY := Lib.hid hxy
        clear hxy
        go_wp2
        go_roundg (gk - 1)
        case measure => omega
        case rel =>
          have e := HSTEP.out
          rw [if_pos HXY.out, List.append_nil] at e
          exact ⟨k + 1, m, by omega, (by simp), by omega, by rw [e]; exact HM, by rw [e]; exact HO, HB⟩
      · have hne : (x != y) = true := by simpa using hxy
        have HXY := Lib.hid hxy
        clear hxy
        go_wp2_with (at_builtin; refine wpList_append_own_at _ rfl (.tmp 25) (.tmp 29) 47 rfl w.heap.size 54 i0 _ 2 16 Try.underlying47 hi0 hz0 hz1 hz2 rfl (by decide) _ _ _ rfl (HO.out.alloc _) ⟨wr.heap.size, 0, none⟩ 1 1 [.int .i64 k, .int .u64 x] rfl rfl (cells_new _ _ _) (by simp [Value.oneCell']) (by unfold maxLen; omega) (by omega) (by have := HB.out.size; simp; omega) ?_)
        intro v' w3 hown hgr _ _
        have HO3 := Lib.hid hown
        have HB3 : Hid (Below w.heap.size w w3) := by
          have hb := HB.out
          refine (hb.alloc hb.size _).grown hgr (by have := hb.size; simp; omega) (fun j hj => ?_)
          rcases HO.out.2 with ⟨hv, _⟩ | ⟨g', cap', cur, hv, hb', hc, _⟩
          · rw [hv] at hj; cases hj
          · rw [hv] at hj; cases hj; exact hb'
        clear hown hgr
        go_wp2
        go_roundg (gk - 1)
        case measure => omega
        case rel =>
          have e := HSTEP.out
          rw [if_neg HXY.out] at e
          refine ⟨k + 1, m + 1, by omega, (by simp), by omega, ?_, ?_, HB3⟩
          · unfold Hid; rw [e, HM.out]; simp
          · unfold Hid; rw [e, pairCells_append]; exact HO3.out
    · obtain rfl : k = 3128 := by omega
      go_wp2
      go_ret
      rw [HNN.out, ← HM.out]
      exact ⟨_, rfl, HO.out, HB.out⟩

theorem pairs_any {w : World} {p : Nat} {D : Nat → Prop} {S : Sh} (h : SheetAt w p D S) :
    Calls Try.prog 53 #[.pointer (some ⟨p, 0, none⟩)] w fun e w' => ∃ v, e = .returned v ∧ w'.ownsRow w.heap.size 54 2 v (pairsTo S 3128).length (pairCells (pairsTo S 3128)) ∧ Below w.heap.size w w' :=
  pairs_anyN h 3128 rfl
end Go.Proofs.Ytcbcemeagiociaa
