/-
  imagoref06.Few, imagoref06.Same of inodes that are the same, imagolaw06.awake: contracts. No condition.
-/
import Derived.Test.YtlopdbhjdijlmaaQLay1
import Derived.Test.YtlopdbhjdijlmaaQRightM

namespace Go.Proofs.Ytlopdbhjdijlmaa
open Go.ChangeShapes Go.WideShapes Go.ChangeAt Go.RowKit
set_option linter.unusedSimpArgs false
set_option linter.unusedVariables false

/-- What Few answers. -/
def FewP (n : Ino) : Prop := (∀ j, j < n.ents.length → j < 50 → (n.ents.getD j default).name.size ≤ 50) ∧ n.ents.length ≤ 40
open Classical in
noncomputable def fewB (n : Ino) : Bool := decide (FewP n)
open Classical in
theorem fewB_iff (n : Ino) : fewB n = true ↔ FewP n := by unfold fewB; exact decide_eq_true_iff
theorem fewB_false {n : Ino} (h : ¬ FewP n) : fewB n = false := by
  cases hb : fewB n with
  | false => rfl
  | true => exact absurd ((fewB_iff n).1 hb) h

set_option maxRecDepth 20000 in
set_option maxHeartbeats 1000000 in
theorem few6 {w : World} {n : Ino} {ev : Value} (hn : n.Ok) (he : HoldsE w ev n.ents) :
    Calls Try.prog 10 #[.agg (inoA n ev)] w fun e w' => e = .returned (.bool (fewB n)) ∧ Below w.heap.size w w' := by
  have hb := InoB.new w hn.len ev
  have HB := Lib.hid hb
  have HNO := Lib.hid hn
  have HE := Lib.hid he
  obtain ⟨ao, c, rfl, e1, e2, e3, -⟩ := he
  have c17 := hb.at.ev
  simp only [Nat.zero_add] at c17
  obtain ⟨L, hL⟩ : ∃ L, L = n.ents.length := ⟨_, rfl⟩
  rw [← hL] at HB HE e1 c17 ⊢
  have HL := Lib.hid hL
  unfold maxLen at e2
  have HBEL : Hid (Below w.heap.size w (w.alloc (.cells (inoA n (.slice ao L c)) 25))) := (Below.refl _ _).alloc (Nat.le_refl _) _
  clear hb hn e3 hL
  go_enter Try.func10, Try.ntmps10
  go_wp2_with fail
  generalize w.alloc (.cells (inoA n (.slice ao L c)) 25) = w0 at *
  go_loopg [3] 50 (fun gk iv wr => ∃ k : Nat, k + gk = 50 ∧ iv = .int .i64 k ∧ k ≤ L ∧ Hid (∀ j, j < k → (n.ents.getD j default).name.size ≤ 50) ∧ w0 = wr)
  case atStart => exact ⟨0, by omega, rfl, by omega, (fun j hj => by omega), rfl⟩
  case round =>
    obtain ⟨k, hk, rfl, hkL, HP, rfl⟩ := hrel
    by_cases hlt : k < L ∧ k < 50
    · obtain ⟨hl1, hl2⟩ := hlt
      have hlt1 : (k : Int) < (L : Int) := by omega
      have hlt2 : (k : Int) < 50 := by omega
      obtain ⟨ao', c', e, -, -, -, hcell⟩ := HE.out.below HBEL.out
      simp only [Value.slice.injEq] at e
      obtain ⟨rfl, -, rfl⟩ := e
      obtain ⟨g, o, rfl, d1, d2⟩ := hcell k (by rw [← HL.out]; exact hl1)
      obtain ⟨nm, hnm⟩ : ∃ nm, nm = (n.ents.getD k default).name := ⟨_, rfl⟩
      rw [← hnm] at d1
      have HNM := Lib.hid hnm
      clear hcell hnm
      by_cases hq2 : 50 < nm.size
      · have hqi : (50 : Int) < (nm.size : Int) := by omega
        have HQ := Lib.hid hq2
        clear hq2
        go_wp2_with fail
        go_ret
        exact ⟨ret_b (fewB_false (fun h => by have h1 := h.1 k (by have := HL.out; omega) hl2; rw [← HNM.out] at h1; have := HQ.out; omega)).symm, HBEL.out⟩
      · have hqi : ¬ (50 : Int) < (nm.size : Int) := by omega
        have HQ := Lib.hid hq2
        clear hq2
        go_wp2_with fail
        go_roundg (gk - 1)
        case measure => omega
        case rel =>
          refine ⟨k + 1, by omega, by go_num, by omega, fun j hj => ?_, rfl⟩
          by_cases e : j = k
          · subst e
            rw [← HNM.out]
            have := HQ.out
            omega
          · exact HP.out j (by omega)
    · have hfin : k = L ∨ k = 50 := by omega
      have hfew : fewB n = decide ((L : Int) ≤ 40) := by
        by_cases h40 : L ≤ 40
        · rw [decide_eq_true (show (L : Int) ≤ 40 by omega)]
          exact (fewB_iff n).2 ⟨fun j hj hj2 => HP.out j (by have := HL.out; omega), by have := HL.out; omega⟩
        · rw [decide_eq_false (show ¬ (L : Int) ≤ 40 by omega)]
          exact fewB_false (fun h => h40 (by have := HL.out; have := h.2; omega))
      have HFW := Lib.hid hfew
      clear hfew
      rcases (show (k = L ∧ k < 50) ∨ k = 50 by omega) with ⟨he, he2⟩ | he
      · have hge : ¬ (k : Int) < (L : Int) := by omega
        go_wp2_with fail
        go_ret
        exact ⟨ret_b HFW.out.symm, HBEL.out⟩
      · subst he
        by_cases hge : ((50 : Nat) : Int) < (L : Int)
        · go_wp2_with fail
          go_ret
          exact ⟨ret_b HFW.out.symm, HBEL.out⟩
        · go_wp2_with fail
          go_ret
          exact ⟨ret_b HFW.out.symm, HBEL.out⟩

/-- Two arrays of the same thirteen numbers. -/
theorem eqS_run (l : List Int) (hl : l.length = 13) (w : World) :
    (Op.equalIn 10000 22 (.agg (l.map (Value.int .i64)).toArray) (.agg (l.map (Value.int .i64)).toArray)).run Try.prog w = .ok true w := by
  have := run_eq_arr (P := Try.prog) (d := 9998) Try.underlying22 Try.underlying3 (by kernel_rfl) l l hl hl w
  rw [(eqFrom_iff l l 13 0).2 (fun _ _ _ => rfl)] at this
  exact this

set_option maxRecDepth 20000 in
set_option maxHeartbeats 2000000 in
theorem same6 {w : World} {n : Ino} {ev ev' : Value} (hn : n.Ok) (he : HoldsE w ev n.ents) (he' : HoldsE w ev' n.ents) :
    Calls Try.prog 16 #[.agg (inoA n ev), .agg (inoA n ev')] w fun e w' => e = .returned (.bool true) ∧ Below w.heap.size w w' := by
  have HNO := Lib.hid hn
  have HBEL : Hid (Below w.heap.size w ((w.alloc (.cells (inoA n ev) 25)).alloc (.cells (inoA n ev') 25))) := ((Below.refl _ _).alloc (Nat.le_refl _) _).alloc (by simp) _
  have hb1 : InoB ((w.alloc (.cells (inoA n ev) 25)).alloc (.cells (inoA n ev') 25)) w.heap.size n ev := (InoB.new w hn.len ev).mod ((Mod.refl nob _).alloc _) (fun h => h)
  have hb2 : InoB ((w.alloc (.cells (inoA n ev) 25)).alloc (.cells (inoA n ev') 25)) (w.heap.size + 1) n ev' := by
    have := InoB.new (w.alloc (.cells (inoA n ev) 25)) hn.len ev'
    rw [show (w.alloc (.cells (inoA n ev) 25)).heap.size = w.heap.size + 1 by simp] at this
    exact this
  have HE := Lib.hid (he.below HBEL.out)
  have HE' := Lib.hid (he'.below HBEL.out)
  obtain ⟨ao, c, rfl, e1, e2, -, -⟩ := he
  obtain ⟨bo, d, rfl, f1, f2, -, -⟩ := he'
  obtain ⟨L, hL⟩ : ∃ L, L = n.ents.length := ⟨_, rfl⟩
  rw [← hL] at hb1 hb2 HE HE' e1 f1 HBEL ⊢
  have HL := Lib.hid hL
  unfold maxLen at e2 f2
  have HRA := Lib.hid (hb1.at.blocks hn.len)
  have HRB := Lib.hid (hb2.at.blocks hn.len)
  have hsz : (n.bl.map (Value.int .i64)).length = 13 := by simp [hn.len]
  have HSZ := Lib.hid hsz
  have a0 := hb1.at.c0
  have a1 := hb1.at.c1
  have a2 := hb1.at.c2
  have a3 := hb1.at.c3
  have a17 := hb1.at.ev
  have b0 := hb2.at.c0
  have b1 := hb2.at.c1
  have b2 := hb2.at.c2
  have b3 := hb2.at.c3
  have b17 := hb2.at.ev
  simp only [Nat.zero_add] at a0 a1 a2 a3 a17 b0 b1 b2 b3 b17
  have heq := fun wx => eqS_run n.bl hn.len wx
  clear hb1 hb2 hn hL hsz
  go_enter Try.func16, Try.ntmps16
  go_upto_region 3 with (first
    | ((refine wpList_unguard (o := ⟨some 34, _, _, _, _, _⟩) (by rfl) ?_; with_reducible refine wpList_load_mid rfl 22 _ rfl w.heap.size (0 + 4) rfl (n.bl.map (Value.int .i64)) _ HRA.out Try.underlying22 rfl (by rw [HSZ.out]; exact Try.info13) ?_))
    | ((refine wpList_unguard (o := ⟨some 36, _, _, _, _, _⟩) (by rfl) ?_; with_reducible refine wpList_load_mid rfl 22 _ rfl (w.heap.size + 1) (0 + 4) rfl (n.bl.map (Value.int .i64)) _ HRB.out Try.underlying22 rfl (by rw [HSZ.out]; exact Try.info13) ?_)))
  generalize (w.alloc (.cells (inoA n (.slice ao L c)) 25)).alloc (.cells (inoA n (.slice bo L d)) 25) = w0 at *
  clear heq a0 a1 a2 a3 b0 b1 b2 b3
  go_wp2_with fail
  go_loopg [5] L (fun gk iv wr => ∃ k : Nat, k + gk = L ∧ iv = .int .i64 k ∧ ∃ j, wr = w0.drewN j)
  case atStart => exact ⟨0, by omega, rfl, 0, rfl⟩
  case round =>
    obtain ⟨k, hk, rfl, j, rfl⟩ := hrel
    by_cases hlt : k < L
    · have hlt1 : (k : Int) < (L : Int) := by omega
      obtain ⟨ao', c', e, -, -, -, hcell⟩ := HE.out
      simp only [Value.slice.injEq] at e
      obtain ⟨rfl, -, rfl⟩ := e
      obtain ⟨g, o, rfl, d1, d2⟩ := hcell k (by rw [← HL.out]; exact hlt)
      obtain ⟨ao', c', e, -, -, -, hcell'⟩ := HE'.out
      simp only [Value.slice.injEq] at e
      obtain ⟨rfl, -, rfl⟩ := e
      obtain ⟨g', o', rfl, d1', d2'⟩ := hcell' k (by rw [← HL.out]; exact hlt)
      clear hcell hcell'
      generalize (n.ents.getD k default).name = nm at *
      generalize (n.ents.getD k default).ino = ino at *
      go_wp2_with fail
      go_quiet (fail)
      go_wp2_with fail
      go_roundg (gk - 1)
      case measure => omega
      case rel => exact ⟨k + 1, by omega, by go_num, _, rfl⟩
    · have hge : ¬ (k : Int) < (L : Int) := by omega
      go_wp2_with fail
      go_ret
      exact ⟨rfl, below_dN HBEL.out _⟩

theorem right_new : RightP ⟨1, 1, 0, 0, List.replicate 13 0, []⟩ := by
  have h0 : ∀ k, (List.replicate 13 (0 : Int)).getD k 0 = 0 := by
    intro k
    rw [List.getD_eq_getElem?_getD, List.getElem?_replicate]
    split <;> rfl
  refine ⟨.inl rfl, by decide, by decide, .inl ⟨rfl, ?_, by decide, by decide, rfl⟩⟩
  intro k hk
  show (0 ≤ (List.replicate 13 (0 : Int)).getD k 0 ∧ (List.replicate 13 (0 : Int)).getD k 0 < 256) ∧ ((List.replicate 13 (0 : Int)).getD k 0 ≠ 0 → _)
  rw [h0 k]
  exact ⟨by decide, fun h => absurd rfl h⟩

end Go.Proofs.Ytlopdbhjdijlmaa
