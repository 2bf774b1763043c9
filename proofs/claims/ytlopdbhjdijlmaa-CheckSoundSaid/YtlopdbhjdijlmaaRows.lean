/-
  No cell of these rows narrows 'for every input' (looked for: loops, veiled, ifaces, maps, wideKeys, modest, calm, conditions, laid).
  DERIVED. THE GIVEN ROWS OF THIS SEAT. 6 by the template 'for every input the law returns true; each argument reads behind the call as it read before'; 0 by the template 'total and deterministic' (their statements: YtlopdbhjdijlmaaTotals.lean).
  GIVEN WITH THE SEED: the statements are not yours to turn. If you find one false, say at which input.
  Laid BY PROGRAM, IN A SANDBOX (cutbox-rows.mjs): the forced cells as the released guide's own fill.sh prints them over the translation a39361d1ee5a50c8… (all of the seat's roots in one cut). By AI agents, Wed Nov 11 2026. No macro, syntax, notation, axiom, sorry.
-/
import Derived.Test.YtlopdbhjdijlmaaChecked
import GoSem.Claim
import GoSem.ClaimJoined
import GoSem.ClaimMapViews
import Derived.JoinedTies
import Derived.KernelRfl
namespace Go.Proofs.Ytlopdbhjdijlmaa
/- THE CELL 'sum', in the pinned program and in every row, IS THE sha256 OF THE DUMP (.gsa) THAT YtlopdbhjdijlmaaProg.lean LOADS. Nothing in Lean hashes anything: it is a label: what it is worth is what the hold of that sum in a sandbox is worth. -/
noncomputable def Try.pinned : Pinned := { name := "ytlopdbhjdijlmaa", sum := "a39361d1ee5a50c81a5537d3c3b0e6ed2b47f2a2aa68c997d583c167551820bd", checked := Try.checked }
namespace Rows
def none {H : Type} : Left H := { results := [], args := [] }

/-- 'imagolaw09.TreeEntries': WHATEVER THE INPUT: true; the input reads as it did. -/
def treeEntriesSpec : ChangeSpec := { name := "treeEntries", fn := fun _ => fun
  | [d1, d2] => { results := [.lit (.bool true)], args := [d1, d2] }
  | _ => none }
def treeEntriesRow : OpenClaim := { program := "ytlopdbhjdijlmaa", sum := "a39361d1ee5a50c81a5537d3c3b0e6ed2b47f2a2aa68c997d583c167551820bd", func := "imago/imagolaw09.TreeEntries", spec := "treeEntries", inPlace := ["internal/bytealg.abigen_runtime_cmpstring", "slices.overlaps[imago/api.Entry]"], unfollowed := true, recurses := true, apart := false }
def TreeEntriesSaid : Prop := treeEntriesRow.holds Try.pinned (OpenSpec.ofChange treeEntriesSpec)

/-- ITS FALSE NEIGHBOUR: 'it returns false'. Refute it at one input. -/
def treeEntriesWrong : ChangeSpec := { name := "treeEntries", fn := fun _ => fun
  | [d1, d2] => { results := [.lit (.bool false)], args := [d1, d2] }
  | _ => none }
def TreeEntriesWrongFalsely : Prop := treeEntriesRow.holds Try.pinned (OpenSpec.ofChange treeEntriesWrong)

/-- 'imagolaw08.InodePlays': WHATEVER THE INPUT: true; the input reads as it did. -/
def inodePlaysSpec : ChangeSpec := { name := "inodePlays", fn := fun _ => fun
  | [d1, d2] => { results := [.lit (.bool true)], args := [d1, d2] }
  | _ => none }
def inodePlaysRow : OpenClaim := { program := "ytlopdbhjdijlmaa", sum := "a39361d1ee5a50c81a5537d3c3b0e6ed2b47f2a2aa68c997d583c167551820bd", func := "imago/imagolaw08.InodePlays", spec := "inodePlays", unfollowed := true, recurses := true, apart := false }
def InodePlaysSaid : Prop := inodePlaysRow.holds Try.pinned (OpenSpec.ofChange inodePlaysSpec)

/-- ITS FALSE NEIGHBOUR: 'it returns false'. Refute it at one input. -/
def inodePlaysWrong : ChangeSpec := { name := "inodePlays", fn := fun _ => fun
  | [d1, d2] => { results := [.lit (.bool false)], args := [d1, d2] }
  | _ => none }
def InodePlaysWrongFalsely : Prop := inodePlaysRow.holds Try.pinned (OpenSpec.ofChange inodePlaysWrong)

/-- 'imagolaw08.InodeBent': WHATEVER THE INPUT: true; the input reads as it did. -/
def inodeBentSpec : ChangeSpec := { name := "inodeBent", fn := fun _ => fun
  | [d1, d2] => { results := [.lit (.bool true)], args := [d1, d2] }
  | _ => none }
def inodeBentRow : OpenClaim := { program := "ytlopdbhjdijlmaa", sum := "a39361d1ee5a50c81a5537d3c3b0e6ed2b47f2a2aa68c997d583c167551820bd", func := "imago/imagolaw08.InodeBent", spec := "inodeBent", unfollowed := true, recurses := true, apart := false }
def InodeBentSaid : Prop := inodeBentRow.holds Try.pinned (OpenSpec.ofChange inodeBentSpec)

/-- ITS FALSE NEIGHBOUR: 'it returns false'. Refute it at one input. -/
def inodeBentWrong : ChangeSpec := { name := "inodeBent", fn := fun _ => fun
  | [d1, d2] => { results := [.lit (.bool false)], args := [d1, d2] }
  | _ => none }
def InodeBentWrongFalsely : Prop := inodeBentRow.holds Try.pinned (OpenSpec.ofChange inodeBentWrong)

/-- 'imagolaw10.CheckBits': WHATEVER THE INPUT: true; the input reads as it did. -/
def checkBitsSpec : ChangeSpec := { name := "checkBits", fn := fun _ => fun
  | [d1, d2] => { results := [.lit (.bool true)], args := [d1, d2] }
  | _ => none }
def checkBitsRow : OpenClaim := { program := "ytlopdbhjdijlmaa", sum := "a39361d1ee5a50c81a5537d3c3b0e6ed2b47f2a2aa68c997d583c167551820bd", func := "imago/imagolaw10.CheckBits", spec := "checkBits", unfollowed := true, recurses := true, apart := false }
def CheckBitsSaid : Prop := checkBitsRow.holds Try.pinned (OpenSpec.ofChange checkBitsSpec)

/-- ITS FALSE NEIGHBOUR: 'it returns false'. Refute it at one input. -/
def checkBitsWrong : ChangeSpec := { name := "checkBits", fn := fun _ => fun
  | [d1, d2] => { results := [.lit (.bool false)], args := [d1, d2] }
  | _ => none }
def CheckBitsWrongFalsely : Prop := checkBitsRow.holds Try.pinned (OpenSpec.ofChange checkBitsWrong)

/-- 'imagolaw10.CheckSound': WHATEVER THE INPUT: true; the input reads as it did. -/
def checkSoundSpec : ChangeSpec := { name := "checkSound", fn := fun _ => fun
  | [d1, d2, d3] => { results := [.lit (.bool true)], args := [d1, d2, d3] }
  | _ => none }
def checkSoundRow : OpenClaim := { program := "ytlopdbhjdijlmaa", sum := "a39361d1ee5a50c81a5537d3c3b0e6ed2b47f2a2aa68c997d583c167551820bd", func := "imago/imagolaw10.CheckSound", spec := "checkSound", unfollowed := true, recurses := true, apart := false }
def CheckSoundSaid : Prop := checkSoundRow.holds Try.pinned (OpenSpec.ofChange checkSoundSpec)

/-- ITS FALSE NEIGHBOUR: 'it returns false'. Refute it at one input. -/
def checkSoundWrong : ChangeSpec := { name := "checkSound", fn := fun _ => fun
  | [d1, d2, d3] => { results := [.lit (.bool false)], args := [d1, d2, d3] }
  | _ => none }
def CheckSoundWrongFalsely : Prop := checkSoundRow.holds Try.pinned (OpenSpec.ofChange checkSoundWrong)

/-- 'imagolaw09.TreeBelow': WHATEVER THE INPUT: true; the input reads as it did. -/
def treeBelowSpec : ChangeSpec := { name := "treeBelow", fn := fun _ => fun
  | [d1, d2, d3] => { results := [.lit (.bool true)], args := [d1, d2, d3] }
  | _ => none }
def treeBelowRow : OpenClaim := { program := "ytlopdbhjdijlmaa", sum := "a39361d1ee5a50c81a5537d3c3b0e6ed2b47f2a2aa68c997d583c167551820bd", func := "imago/imagolaw09.TreeBelow", spec := "treeBelow", inPlace := ["internal/bytealg.abigen_runtime_cmpstring", "slices.overlaps[imago/api.Entry]"], unfollowed := true, recurses := true, apart := false }
def TreeBelowSaid : Prop := treeBelowRow.holds Try.pinned (OpenSpec.ofChange treeBelowSpec)

/-- ITS FALSE NEIGHBOUR: 'it returns false'. Refute it at one input. -/
def treeBelowWrong : ChangeSpec := { name := "treeBelow", fn := fun _ => fun
  | [d1, d2, d3] => { results := [.lit (.bool false)], args := [d1, d2, d3] }
  | _ => none }
def TreeBelowWrongFalsely : Prop := treeBelowRow.holds Try.pinned (OpenSpec.ofChange treeBelowWrong)

/- THE SECOND FORM. 'bulk': how many values and letters a reading holds, each counted each time it is reached (what is shared counts as often as it is met; a slice's spare places count too). A statement '..UptoSaid' is the law's where the arguments, and the package variables that the reading takes, are together of bulk at most 1048576: NARROWER than '..Said'. Prove '..Said' where nothing that the law and all that it calls make is longer than what came in: it says more and counts as full. Else prove '..UptoSaid'. A law counts once. -/
mutual
def uptoBulk {H : Type} : DataW H → Nat
  | .lit (.string bytes) => bytes.length + 1
  | .lit _ => 1
  | .nil => 1
  | .ptr d => uptoBulk d + 1
  | .slice elems spare => uptoBulkAll elems + uptoBulkAll spare + 1
  | .agg parts => uptoBulkAll parts + 1
  | .iface _ d => uptoBulk d + 1
  | .map entries => uptoBulkEntries entries + 1
  | .held _ => 1
def uptoBulkAll {H : Type} : List (DataW H) → Nat
  | [] => 0
  | d :: r => uptoBulk d + uptoBulkAll r
def uptoBulkEntries {H : Type} : List (Lit × DataW H) → Nat
  | [] => 0
  | x :: r => uptoBulkEntry x + uptoBulkEntries r
def uptoBulkEntry {H : Type} : Lit × DataW H → Nat
  | (.string bytes, d) => bytes.length + uptoBulk d + 1
  | (_, d) => uptoBulk d + 1
 end
def uptoSmall : (H : Type) → List (DataW H) → Bool := fun _ ds => decide (uptoBulkAll ds ≤ 1048576)
def OpenSpec.upto (s : _root_.Go.ChangeSpec) : _root_.Go.OpenSpec := { _root_.Go.OpenSpec.ofChange s with cond := some uptoSmall }

/-- 'imagolaw09.TreeEntries', WHERE WHAT IT READS IS OF BULK AT MOST 1048576: true; the input reads as it did. -/
def treeEntriesUptoRow : OpenClaim := { program := "ytlopdbhjdijlmaa", sum := "a39361d1ee5a50c81a5537d3c3b0e6ed2b47f2a2aa68c997d583c167551820bd", func := "imago/imagolaw09.TreeEntries", spec := "treeEntries", inPlace := ["internal/bytealg.abigen_runtime_cmpstring", "slices.overlaps[imago/api.Entry]"], unfollowed := true, recurses := true, apart := false, narrowed := true }
def TreeEntriesUptoSaid : Prop := treeEntriesUptoRow.holds Try.pinned (OpenSpec.upto treeEntriesSpec)

/-- 'imagolaw08.InodePlays', WHERE WHAT IT READS IS OF BULK AT MOST 1048576: true; the input reads as it did. -/
def inodePlaysUptoRow : OpenClaim := { program := "ytlopdbhjdijlmaa", sum := "a39361d1ee5a50c81a5537d3c3b0e6ed2b47f2a2aa68c997d583c167551820bd", func := "imago/imagolaw08.InodePlays", spec := "inodePlays", unfollowed := true, recurses := true, apart := false, narrowed := true }
def InodePlaysUptoSaid : Prop := inodePlaysUptoRow.holds Try.pinned (OpenSpec.upto inodePlaysSpec)

/-- 'imagolaw08.InodeBent', WHERE WHAT IT READS IS OF BULK AT MOST 1048576: true; the input reads as it did. -/
def inodeBentUptoRow : OpenClaim := { program := "ytlopdbhjdijlmaa", sum := "a39361d1ee5a50c81a5537d3c3b0e6ed2b47f2a2aa68c997d583c167551820bd", func := "imago/imagolaw08.InodeBent", spec := "inodeBent", unfollowed := true, recurses := true, apart := false, narrowed := true }
def InodeBentUptoSaid : Prop := inodeBentUptoRow.holds Try.pinned (OpenSpec.upto inodeBentSpec)

/-- 'imagolaw10.CheckBits', WHERE WHAT IT READS IS OF BULK AT MOST 1048576: true; the input reads as it did. -/
def checkBitsUptoRow : OpenClaim := { program := "ytlopdbhjdijlmaa", sum := "a39361d1ee5a50c81a5537d3c3b0e6ed2b47f2a2aa68c997d583c167551820bd", func := "imago/imagolaw10.CheckBits", spec := "checkBits", unfollowed := true, recurses := true, apart := false, narrowed := true }
def CheckBitsUptoSaid : Prop := checkBitsUptoRow.holds Try.pinned (OpenSpec.upto checkBitsSpec)

/-- 'imagolaw10.CheckSound', WHERE WHAT IT READS IS OF BULK AT MOST 1048576: true; the input reads as it did. -/
def checkSoundUptoRow : OpenClaim := { program := "ytlopdbhjdijlmaa", sum := "a39361d1ee5a50c81a5537d3c3b0e6ed2b47f2a2aa68c997d583c167551820bd", func := "imago/imagolaw10.CheckSound", spec := "checkSound", unfollowed := true, recurses := true, apart := false, narrowed := true }
def CheckSoundUptoSaid : Prop := checkSoundUptoRow.holds Try.pinned (OpenSpec.upto checkSoundSpec)

/-- 'imagolaw09.TreeBelow', WHERE WHAT IT READS IS OF BULK AT MOST 1048576: true; the input reads as it did. -/
def treeBelowUptoRow : OpenClaim := { program := "ytlopdbhjdijlmaa", sum := "a39361d1ee5a50c81a5537d3c3b0e6ed2b47f2a2aa68c997d583c167551820bd", func := "imago/imagolaw09.TreeBelow", spec := "treeBelow", inPlace := ["internal/bytealg.abigen_runtime_cmpstring", "slices.overlaps[imago/api.Entry]"], unfollowed := true, recurses := true, apart := false, narrowed := true }
def TreeBelowUptoSaid : Prop := treeBelowUptoRow.holds Try.pinned (OpenSpec.upto treeBelowSpec)

end Rows
end Go.Proofs.Ytlopdbhjdijlmaa
