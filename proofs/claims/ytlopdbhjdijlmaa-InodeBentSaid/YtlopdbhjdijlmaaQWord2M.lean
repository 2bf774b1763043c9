/-
  The document's words of an inode in the second format, plainly. Nothing is assumed.
-/
import Derived.Test.YtlopdbhjdijlmaaQPut3

namespace Go.Proofs.Ytlopdbhjdijlmaa
open Go.ChangeShapes Go.WideShapes Go.ChangeAt Go.RowKit
set_option linter.unusedSimpArgs false
set_option linter.unusedVariables false

def fileV (R : List Int) (own : List Nat) (i : Nat) : Int :=
  if own = [] then (if i < 6 then R.getD i 0 else 0)
  else if i = 5 then 9223372036854775808 + ((own.getD 0 0 : Nat) : Int) else R.getD (if 5 < i then i - 1 else i) 0

theorem getD_far {R : List Int} {i : Nat} (h : R.length ≤ i) : R.getD i 0 = 0 := by
  rw [List.getD_eq_getElem?_getD, List.getElem?_eq_none h]; rfl

/-- The r-th word of a bucket's k-th block. -/
noncomputable def wd3 (l : List En) (own : List Nat) (fr d k r : Nat) : Int :=
  if r = 0 then (if k + 1 < d then ((own.getD (fr + k + 1) 0 : Nat) : Int) else 0)
  else if r = 7 then 0
  else if 3 * k + (r - 1) / 2 < l.length then (if r % 2 = 1 then ((nword (l.getD (3 * k + (r - 1) / 2) default).name : Nat) : Int) else (l.getD (3 * k + (r - 1) / 2) default).ino)
  else 0
noncomputable def hitK (l : List En) (own : List Nat) (fr d : Nat) (i : Int) : Nat → Nat → Option Int
  | _, 0 => none
  | k, f + 1 => if 0 ≤ i - 1080 - 8 * ((own.getD (fr + k) 0 : Nat) : Int) ∧ i - 1080 - 8 * ((own.getD (fr + k) 0 : Nat) : Int) ≤ 7 then some (wd3 l own fr d k (i - 1080 - 8 * ((own.getD (fr + k) 0 : Nat) : Int)).toNat) else hitK l own fr d i (k + 1) f
noncomputable def dB (l : List En) (b : Nat) : Nat := ((bktL l b).length + 2) / 3
noncomputable def wordB (l : List En) (own : List Nat) (at_ i : Int) : Nat → Nat → Int × Bool
  | _, 0 => (0, decide (i - at_ = 6 ∨ i - at_ = 7))
  | b, f + 1 => if i - at_ = 2 + (b : Int) then (if 0 < dB l b then ((own.getD (sumB l b) 0 : Nat) : Int) else 0, true) else
    match hitK (bktL l b) own (sumB l b) (dB l b) i 0 (dB l b) with
    | some v => (v, true)
    | none => wordB l own at_ i (b + 1) f
noncomputable def word2At (n : Ino) (at_ : Int) (own : List Nat) (i : Int) : Int × Bool :=
  if i = at_ then (tagW n, true) else if i = at_ + 1 then (n.size, true)
  else if n.kind = 1 then
    (if 2 ≤ i - at_ ∧ i - at_ < 8 then (fileV (RunsM.runs n.bl) own (i - at_ - 2).toNat, true)
     else if own ≠ [] ∧ 0 ≤ i - 1080 - 8 * ((own.getD 0 0 : Nat) : Int) ∧ i - 1080 - 8 * ((own.getD 0 0 : Nat) : Int) < 8 then (fileV (RunsM.runs n.bl) own (6 + (i - 1080 - 8 * ((own.getD 0 0 : Nat) : Int)).toNat), true)
     else (0, false))
  else wordB n.ents own at_ i 0 4

end Go.Proofs.Ytlopdbhjdijlmaa
