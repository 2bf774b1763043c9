/-
  A memory that may last: the fuse laid: a contract. No condition.
-/
import Derived.Test.YtfpnmphmngdkdaaPm3
namespace Go.Proofs.Ytfpnmphmngdkdaa
open Go.ChangeShapes Go.WideShapes Go.ChangeAt Go.RowKit
set_option linter.unusedSimpArgs false
set_option linter.unusedVariables false

set_option maxHeartbeats 400000 in
theorem pm_blow {w : World} {p : Nat} {D : Nat → Prop} {S : Pm} (h : PmAt w p D S) (n : Int) (hn : n ≤ 9223372036854775807) :
    Calls Try.prog 53 #[.pointer (some ⟨p, 0, none⟩), .int .i64 n] w fun e w' => e = .returned (.tuple #[]) ∧ PmAt w' p D (S.blow n) ∧ Mod D w w' := by
  have HL := Lib.hid h
  obtain ⟨v, ob, fb, h⟩ := h
  obtain ⟨-, -, -, c3, c4, c5⟩ := h.cells
  have f3 := h.frozen 3
  have f5 := h.frozen 5
  have hok := h.ok.blow n hn
  cases hg : S.gone with
  | true =>
    have hfin : Hid (S.blow n = S) := by unfold Hid Pm.blow; rw [hg]; rfl
    rw [hg] at c5
    clear h hok hg
    go_enter Try.func53, Try.ntmps53
    go_wp2
    go_end0
    rw [hfin.out]
    exact ⟨rfl, HL.out, Mod.refl _ _⟩
  | false =>
    have hfin : Hid (S.blow n = { S with fuse := max n (-1), gone := decide (n = 0) }) := by unfold Hid Pm.blow; rw [hg]; rfl
    rw [hg] at c5
    have HR := Lib.hid h
    have HOK := Lib.hid hok
    have HD : Hid ((decide (n = 0)) = (n == 0)) := by
      unfold Hid
      rw [Bool.eq_iff_iff]; simp
    have hsz := lt_of_block h.head
    clear h hok hg
    rcases (show n < -1 ∨ -1 ≤ n by omega) with hc | hc
    all_goals
      have HC := Lib.hid hc
      go_enter Try.func53, Try.ntmps53
      go_wp2
      go_end0
      have hm : ∀ x y, Mod (fun b => b = p) w ((w.setCell ⟨p, 3, none⟩ x).setCell ⟨p, 5, none⟩ y) := fun x y =>
        ((Mod.refl (fun b => b = p) w).setCell (a := ⟨p, 3, none⟩) (.inl rfl) _).setCell (a := ⟨p, 5, none⟩) (.inl rfl) _
      refine ⟨rfl, ⟨v, ob, fb, HR.out.setHead (hm _ _) ?_ (by rw [hfin.out]) (by rw [hfin.out]) (by rw [hfin.out]) (by rw [hfin.out]) HOK.out⟩, (hm _ _).mono (fun b _ hb => by subst hb; exact HR.out.dp)⟩
      rw [head6_set (head6_set HR.out.head 3 _) 5 _, hfin.out, HD.out]
      have hcc := HC.out
      first
        | rw [show max n (-1) = -1 by omega]; rfl
        | rw [show max n (-1) = n by omega]; rfl
        | rfl
end Go.Proofs.Ytfpnmphmngdkdaa
