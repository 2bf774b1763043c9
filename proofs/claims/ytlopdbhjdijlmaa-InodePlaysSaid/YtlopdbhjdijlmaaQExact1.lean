/-
  What the function inside fmt1.exact answers: a contract. No condition but the bounds that are typed.
-/
import Derived.Test.YtlopdbhjdijlmaaQLay1
import Derived.IntWalk

namespace Go.Proofs.Ytlopdbhjdijlmaa
open Go.ChangeShapes Go.WideShapes Go.ChangeAt Go.RowKit
set_option linter.unusedSimpArgs false
set_option linter.unusedVariables false

/-- Eight words are the same. -/
def SameTo (S T : Sh) (from_ : Int) (m : Nat) : Prop := ∀ k, k < m → S.get (from_ + (k : Int)) = T.get (from_ + (k : Int))
open Classical in
noncomputable def sameB (S T : Sh) (from_ : Int) : Bool := decide (SameTo S T from_ 8)
open Classical in
theorem sameB_iff (S T : Sh) (from_ : Int) : sameB S T from_ = true ↔ SameTo S T from_ 8 := by unfold sameB; exact decide_eq_true_iff
theorem sameB_false {S T : Sh} {from_ : Int} (h : ¬ SameTo S T from_ 8) : sameB S T from_ = false := by
  cases hb : sameB S T from_ with
  | false => rfl
  | true => exact absurd ((sameB_iff S T from_).1 hb) h

set_option maxRecDepth 20000 in
set_option maxHeartbeats 1000000 in
theorem same_any {w : World} {p q : Nat} {D E : Nat → Prop} {S T : Sh} (h : SheetAt w p D S) (k : SheetAt w q E T) (b1 b2 : Nat) (h1 : w.cell? ⟨b1, 0, none⟩ = some (.pointer (some ⟨p, 0, none⟩))) (h2 : w.cell? ⟨b2, 0, none⟩ = some (.pointer (some ⟨q, 0, none⟩))) (fr : Int) (hf : 0 ≤ fr ∧ fr ≤ 4000) :
    Calls Try.prog 121 #[.int .i64 fr, .pointer (some ⟨b1, 0, none⟩), .pointer (some ⟨b2, 0, none⟩)] w fun e w' => e = .returned (.bool (sameB S T fr)) ∧ ∃ n, w' = w.drewN n := by
  have HS := Lib.hid h
  have HT := Lib.hid k
  have H1 := Lib.hid h1
  have H2 := Lib.hid h2
  obtain ⟨f0, f1⟩ := hf
  clear h k h1 h2
  go_enter Try.func121, Try.ntmps121
  go_wp2_with fail
  go_loopg [5, 6] 8 (fun gk _ iv wr => ∃ k : Nat, k + gk = 8 ∧ iv = .int .i64 k ∧ Hid (SameTo S T fr k) ∧ Hid (∃ n, wr = w.drewN n))
  case atStart => exact ⟨0, by omega, rfl, (fun k hk => by omega), 0, rfl⟩
  case round =>
    obtain ⟨k, hk, rfl, HP, HW⟩ := hrel
    have hmod : Mod nob w wr := by obtain ⟨n, rfl⟩ := HW.out; exact (Mod.refl nob w).drewN n
    by_cases hlt : k < 8
    · have hki : (k : Int) < 8 := by omega
      have hk0 : (0 : Int) ≤ (k : Int) := Int.natCast_nonneg _
      have c1 := hmod.cell H1.out (fun h => h)
      have c2 := hmod.cell H2.out (fun h => h)
      obtain ⟨x, hx⟩ : ∃ x, x = S.get (fr + (k : Int)) := ⟨_, rfl⟩
      obtain ⟨y, hy⟩ : ∃ y, y = T.get (fr + (k : Int)) := ⟨_, rfl⟩
      have HG1 : Hid (∀ n, Calls Try.prog 37 #[.pointer (some ⟨p, 0, none⟩), .int .i64 (fr + (k : Int))] (wr.drewN n) fun e w' => e = .returned (.int .u64 x) ∧ w' = wr.drewN n) := fun n => by
        have := sheet_get (HS.out.mod (hmod.drewN n) (fun _ _ h => h)) (fr + (k : Int))
        rw [← hx] at this
        exact this.mono fun e w' ⟨h1, h2⟩ => ⟨h1, h2.symm⟩
      have HG2 : Hid (∀ n, Calls Try.prog 37 #[.pointer (some ⟨q, 0, none⟩), .int .i64 (fr + (k : Int))] (wr.drewN n) fun e w' => e = .returned (.int .u64 y) ∧ w' = wr.drewN n) := fun n => by
        have := sheet_get (HT.out.mod (hmod.drewN n) (fun _ _ h => h)) (fr + (k : Int))
        rw [← hy] at this
        exact this.mono fun e w' ⟨h1, h2⟩ => ⟨h1, h2.symm⟩
      have hw : IntKind.i64.wrap (fr + (k : Int)) = fr + (k : Int) := IntWalk.i64_in _ (by omega)
      have HX := Lib.hid hx
      have HY := Lib.hid hy
      have HLT := Lib.hid hlt
      clear hx hy hmod
      by_cases e : x = y
      · have hb : (x != y) = false := by simpa using e
        have HE := Lib.hid e
        clear e
        go_wp2_with fail
        go_quiet ((first | (go_at_call 37; with_reducible exact Calls.quiet_of_same (HG1.out _)) | (go_at_call 37; with_reducible exact Calls.quiet_of_same (HG2.out _))))
        clear hw
        go_wp2_with fail
        go_roundg (gk - 1)
        case measure => omega
        case rel =>
          refine ⟨k + 1, by omega, by go_num, fun j hj => ?_, ?_⟩
          · by_cases e : j = k
            · subst e
              rw [← HX.out, ← HY.out]
              exact HE.out
            · exact HP.out j (by omega)
          · obtain ⟨n, h⟩ := HW.out
            exact ⟨_, by rw [h, World.drewN_drewN]⟩
      · have hb : (x != y) = true := by simpa using e
        have HE := Lib.hid e
        clear e
        go_wp2_with fail
        go_quiet ((first | (go_at_call 37; with_reducible exact Calls.quiet_of_same (HG1.out _)) | (go_at_call 37; with_reducible exact Calls.quiet_of_same (HG2.out _))))
        clear hw
        go_wp2_with fail
        go_ret
        refine ⟨ret_b (sameB_false (fun h => ?_)).symm, ?_⟩
        · have := h k HLT.out
          rw [← HX.out, ← HY.out] at this
          exact HE.out this
        · obtain ⟨n, h⟩ := HW.out
          exact ⟨_, by rw [h, World.drewN_drewN]⟩
    · have hge : ¬ (k : Int) < 8 := by omega
      obtain rfl : k = 8 := by omega
      go_wp2_with fail
      go_ret
      exact ⟨ret_b ((sameB_iff S T fr).2 HP.out).symm, HW.out⟩
end Go.Proofs.Ytlopdbhjdijlmaa
