/-
  Two changes behind one another. Plain.
-/
import Derived.Test.YtlopdbhjdijlmaaQLib

namespace Go.Proofs.Ytlopdbhjdijlmaa
open Go.ChangeShapes Go.WideShapes Go.ChangeAt Go.RowKit
set_option linter.unusedSimpArgs false
set_option linter.unusedVariables false

theorem Mod.step {D E : Nat → Prop} {a b c : World} (h : Mod D a b) (k : Mod E b c) (he : ∀ x, E x → D x) : Mod D a c :=
  h.trans (k.mono (fun b _ hb => .inl (he b hb)))

end Go.Proofs.Ytlopdbhjdijlmaa
