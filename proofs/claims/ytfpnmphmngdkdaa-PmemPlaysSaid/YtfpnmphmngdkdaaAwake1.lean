/-
  imagolaw01.awake: a contract. No condition.
-/
import Derived.Test.YtfpnmphmngdkdaaPm6
namespace Go.Proofs.Ytfpnmphmngdkdaa
open Go.ChangeShapes Go.WideShapes Go.ChangeAt Go.RowKit
set_option linter.unusedSimpArgs false
set_option linter.unusedVariables false

def S9 : Pm := Pm.new (List.replicate 9 0)

set_option maxRecDepth 20000 in
theorem awake1 (w : World) : Calls Try.prog 43 #[] w fun e w' => e = .returned (.bool true) ∧ Below w.heap.size w w' := by
  go_enter Try.func43, Try.ntmps43
  go_wp2_with fail
  refine (pm_new 9 w).mono ?_
  rintro e w1 ⟨p, rfl, h1, hb1⟩
  have h1 : PmAt w1 p (grow nob w w1) S9 := h1
  have HLEN := pm_len h1
  rw [show S9.n = 9 from rfl] at HLEN
  have hst := pm_store h1 (by show 0 < _; decide) 1 5 (by omega) (by omega)
  rw [show S9.may 1 = 0 from rfl] at hst
  have HL := Lib.hid HLEN
  have HS := Lib.hid hst
  have HB := Lib.hid hb1
  clear h1 HLEN hst hb1
  go_wp2_with fail
  refine HL.out.mono ?_
  rintro e w2 ⟨rfl, rfl⟩
  go_wp2_with fail
  refine HS.out.mono ?_
  rintro e w2 ⟨rfl, h2, hm2⟩
  have hdt := pm_dirty h2
  rw [show (S9.store 1 5).dirty = 1 from rfl] at hdt
  have HDT := Lib.hid hdt
  have HM := Lib.hid hm2
  clear hdt h2 hm2
  go_wp2_with fail
  refine HDT.out.mono ?_
  rintro e w3 ⟨rfl, rfl⟩
  go_wp2
  go_ret
  exact ⟨rfl, HB.out.trans (HM.out.below HB.out.size (fun b hb => by rcases hb with hb | hb; exact hb.elim; exact hb.1))⟩
end Go.Proofs.Ytfpnmphmngdkdaa
