/-
  No cell of these rows narrows 'for every input' (looked for: loops, veiled, ifaces, maps, wideKeys, modest, calm, conditions, laid).
  DERIVED. THE GIVEN ROWS OF THIS SEAT. 12 by the template 'for every input the law returns true; each argument reads behind the call as it read before'; 0 by the template 'total and deterministic' (their statements: YtfpnmphmngdkdaaTotals.lean).
  GIVEN WITH THE SEED: the statements are not yours to turn. If you find one false, say at which input.
  Laid BY PROGRAM, IN A SANDBOX (cutbox-rows.mjs): the forced cells as the released guide's own fill.sh prints them over the translation 7d8b0c29f25e6ca8… (all of the seat's roots in one cut). By AI agents, Wed Nov 11 2026. No macro, syntax, notation, axiom, sorry.
-/
import Derived.Test.YtfpnmphmngdkdaaChecked
import GoSem.Claim
import GoSem.ClaimJoined
import GoSem.ClaimMapViews
import Derived.JoinedTies
import Derived.KernelRfl
namespace Go.Proofs.Ytfpnmphmngdkdaa
/- THE CELL 'sum', in the pinned program and in every row, IS THE sha256 OF THE DUMP (.gsa) THAT YtfpnmphmngdkdaaProg.lean LOADS. Nothing in Lean hashes anything: it is a label: what it is worth is what the hold of that sum in a sandbox is worth. -/
noncomputable def Try.pinned : Pinned := { name := "ytfpnmphmngdkdaa", sum := "7d8b0c29f25e6ca8aaabb13a9798a5f747b4405f9cc246bd41c685a9a9ef0f5e", checked := Try.checked }
namespace Rows
def none {H : Type} : Left H := { results := [], args := [] }

/-- 'imagolaw03.PlogArgs': WHATEVER THE INPUT: true; the input reads as it did. -/
def plogArgsSpec : ChangeSpec := { name := "plogArgs", fn := fun _ => fun
  | [d1, d2] => { results := [.lit (.bool true)], args := [d1, d2] }
  | _ => none }
def plogArgsRow : OpenClaim := { program := "ytfpnmphmngdkdaa", sum := "7d8b0c29f25e6ca8aaabb13a9798a5f747b4405f9cc246bd41c685a9a9ef0f5e", func := "imago/imagolaw03.PlogArgs", spec := "plogArgs", unfollowed := true, recurses := true, apart := false }
def PlogArgsSaid : Prop := plogArgsRow.holds Try.pinned (OpenSpec.ofChange plogArgsSpec)

/-- ITS FALSE NEIGHBOUR: 'it returns false'. Refute it at one input. -/
def plogArgsWrong : ChangeSpec := { name := "plogArgs", fn := fun _ => fun
  | [d1, d2] => { results := [.lit (.bool false)], args := [d1, d2] }
  | _ => none }
def PlogArgsWrongFalsely : Prop := plogArgsRow.holds Try.pinned (OpenSpec.ofChange plogArgsWrong)

/-- 'imagolaw06.Fmt1Both': WHATEVER THE INPUT: true; the input reads as it did. -/
def fmt1BothSpec : ChangeSpec := { name := "fmt1Both", fn := fun _ => fun
  | [d1, d2] => { results := [.lit (.bool true)], args := [d1, d2] }
  | _ => none }
def fmt1BothRow : OpenClaim := { program := "ytfpnmphmngdkdaa", sum := "7d8b0c29f25e6ca8aaabb13a9798a5f747b4405f9cc246bd41c685a9a9ef0f5e", func := "imago/imagolaw06.Fmt1Both", spec := "fmt1Both", unfollowed := true, recurses := true, apart := false }
def Fmt1BothSaid : Prop := fmt1BothRow.holds Try.pinned (OpenSpec.ofChange fmt1BothSpec)

/-- ITS FALSE NEIGHBOUR: 'it returns false'. Refute it at one input. -/
def fmt1BothWrong : ChangeSpec := { name := "fmt1Both", fn := fun _ => fun
  | [d1, d2] => { results := [.lit (.bool false)], args := [d1, d2] }
  | _ => none }
def Fmt1BothWrongFalsely : Prop := fmt1BothRow.holds Try.pinned (OpenSpec.ofChange fmt1BothWrong)

/-- 'imagolaw06.Fmt1Reads': WHATEVER THE INPUT: true; the input reads as it did. -/
def fmt1ReadsSpec : ChangeSpec := { name := "fmt1Reads", fn := fun _ => fun
  | [d1, d2] => { results := [.lit (.bool true)], args := [d1, d2] }
  | _ => none }
def fmt1ReadsRow : OpenClaim := { program := "ytfpnmphmngdkdaa", sum := "7d8b0c29f25e6ca8aaabb13a9798a5f747b4405f9cc246bd41c685a9a9ef0f5e", func := "imago/imagolaw06.Fmt1Reads", spec := "fmt1Reads", unfollowed := true, recurses := true, apart := false }
def Fmt1ReadsSaid : Prop := fmt1ReadsRow.holds Try.pinned (OpenSpec.ofChange fmt1ReadsSpec)

/-- ITS FALSE NEIGHBOUR: 'it returns false'. Refute it at one input. -/
def fmt1ReadsWrong : ChangeSpec := { name := "fmt1Reads", fn := fun _ => fun
  | [d1, d2] => { results := [.lit (.bool false)], args := [d1, d2] }
  | _ => none }
def Fmt1ReadsWrongFalsely : Prop := fmt1ReadsRow.holds Try.pinned (OpenSpec.ofChange fmt1ReadsWrong)

/-- 'imagolaw06.Fmt1Lays': WHATEVER THE INPUT: true; the input reads as it did. -/
def fmt1LaysSpec : ChangeSpec := { name := "fmt1Lays", fn := fun _ => fun
  | [d1, d2, d3] => { results := [.lit (.bool true)], args := [d1, d2, d3] }
  | _ => none }
def fmt1LaysRow : OpenClaim := { program := "ytfpnmphmngdkdaa", sum := "7d8b0c29f25e6ca8aaabb13a9798a5f747b4405f9cc246bd41c685a9a9ef0f5e", func := "imago/imagolaw06.Fmt1Lays", spec := "fmt1Lays", unfollowed := true, recurses := true, apart := false }
def Fmt1LaysSaid : Prop := fmt1LaysRow.holds Try.pinned (OpenSpec.ofChange fmt1LaysSpec)

/-- ITS FALSE NEIGHBOUR: 'it returns false'. Refute it at one input. -/
def fmt1LaysWrong : ChangeSpec := { name := "fmt1Lays", fn := fun _ => fun
  | [d1, d2, d3] => { results := [.lit (.bool false)], args := [d1, d2, d3] }
  | _ => none }
def Fmt1LaysWrongFalsely : Prop := fmt1LaysRow.holds Try.pinned (OpenSpec.ofChange fmt1LaysWrong)

/-- 'imagolaw07.Fmt2Reads': WHATEVER THE INPUT: true; the input reads as it did. -/
def fmt2ReadsSpec : ChangeSpec := { name := "fmt2Reads", fn := fun _ => fun
  | [d1, d2] => { results := [.lit (.bool true)], args := [d1, d2] }
  | _ => none }
def fmt2ReadsRow : OpenClaim := { program := "ytfpnmphmngdkdaa", sum := "7d8b0c29f25e6ca8aaabb13a9798a5f747b4405f9cc246bd41c685a9a9ef0f5e", func := "imago/imagolaw07.Fmt2Reads", spec := "fmt2Reads", apart := false }
def Fmt2ReadsSaid : Prop := fmt2ReadsRow.holds Try.pinned (OpenSpec.ofChange fmt2ReadsSpec)

/-- ITS FALSE NEIGHBOUR: 'it returns false'. Refute it at one input. -/
def fmt2ReadsWrong : ChangeSpec := { name := "fmt2Reads", fn := fun _ => fun
  | [d1, d2] => { results := [.lit (.bool false)], args := [d1, d2] }
  | _ => none }
def Fmt2ReadsWrongFalsely : Prop := fmt2ReadsRow.holds Try.pinned (OpenSpec.ofChange fmt2ReadsWrong)

/-- 'imagolaw07.Fmt2Lays': WHATEVER THE INPUT: true; the input reads as it did. -/
def fmt2LaysSpec : ChangeSpec := { name := "fmt2Lays", fn := fun _ => fun
  | [d1, d2, d3] => { results := [.lit (.bool true)], args := [d1, d2, d3] }
  | _ => none }
def fmt2LaysRow : OpenClaim := { program := "ytfpnmphmngdkdaa", sum := "7d8b0c29f25e6ca8aaabb13a9798a5f747b4405f9cc246bd41c685a9a9ef0f5e", func := "imago/imagolaw07.Fmt2Lays", spec := "fmt2Lays", apart := false }
def Fmt2LaysSaid : Prop := fmt2LaysRow.holds Try.pinned (OpenSpec.ofChange fmt2LaysSpec)

/-- ITS FALSE NEIGHBOUR: 'it returns false'. Refute it at one input. -/
def fmt2LaysWrong : ChangeSpec := { name := "fmt2Lays", fn := fun _ => fun
  | [d1, d2, d3] => { results := [.lit (.bool false)], args := [d1, d2, d3] }
  | _ => none }
def Fmt2LaysWrongFalsely : Prop := fmt2LaysRow.holds Try.pinned (OpenSpec.ofChange fmt2LaysWrong)

/-- 'imagolaw01.PmemEither': WHATEVER THE INPUT: true; the input reads as it did. -/
def pmemEitherSpec : ChangeSpec := { name := "pmemEither", fn := fun _ => fun
  | [d1, d2] => { results := [.lit (.bool true)], args := [d1, d2] }
  | _ => none }
def pmemEitherRow : OpenClaim := { program := "ytfpnmphmngdkdaa", sum := "7d8b0c29f25e6ca8aaabb13a9798a5f747b4405f9cc246bd41c685a9a9ef0f5e", func := "imago/imagolaw01.PmemEither", spec := "pmemEither", unfollowed := true, recurses := true, apart := false }
def PmemEitherSaid : Prop := pmemEitherRow.holds Try.pinned (OpenSpec.ofChange pmemEitherSpec)

/-- ITS FALSE NEIGHBOUR: 'it returns false'. Refute it at one input. -/
def pmemEitherWrong : ChangeSpec := { name := "pmemEither", fn := fun _ => fun
  | [d1, d2] => { results := [.lit (.bool false)], args := [d1, d2] }
  | _ => none }
def PmemEitherWrongFalsely : Prop := pmemEitherRow.holds Try.pinned (OpenSpec.ofChange pmemEitherWrong)

/-- 'imagolaw01.PmemLasts': WHATEVER THE INPUT: true; the input reads as it did. -/
def pmemLastsSpec : ChangeSpec := { name := "pmemLasts", fn := fun _ => fun
  | [d1, d2] => { results := [.lit (.bool true)], args := [d1, d2] }
  | _ => none }
def pmemLastsRow : OpenClaim := { program := "ytfpnmphmngdkdaa", sum := "7d8b0c29f25e6ca8aaabb13a9798a5f747b4405f9cc246bd41c685a9a9ef0f5e", func := "imago/imagolaw01.PmemLasts", spec := "pmemLasts", unfollowed := true, recurses := true, apart := false }
def PmemLastsSaid : Prop := pmemLastsRow.holds Try.pinned (OpenSpec.ofChange pmemLastsSpec)

/-- ITS FALSE NEIGHBOUR: 'it returns false'. Refute it at one input. -/
def pmemLastsWrong : ChangeSpec := { name := "pmemLasts", fn := fun _ => fun
  | [d1, d2] => { results := [.lit (.bool false)], args := [d1, d2] }
  | _ => none }
def PmemLastsWrongFalsely : Prop := pmemLastsRow.holds Try.pinned (OpenSpec.ofChange pmemLastsWrong)

/-- 'imagolaw01.PmemPlays': WHATEVER THE INPUT: true; the input reads as it did. -/
def pmemPlaysSpec : ChangeSpec := { name := "pmemPlays", fn := fun _ => fun
  | [d1, d2] => { results := [.lit (.bool true)], args := [d1, d2] }
  | _ => none }
def pmemPlaysRow : OpenClaim := { program := "ytfpnmphmngdkdaa", sum := "7d8b0c29f25e6ca8aaabb13a9798a5f747b4405f9cc246bd41c685a9a9ef0f5e", func := "imago/imagolaw01.PmemPlays", spec := "pmemPlays", unfollowed := true, recurses := true, apart := false }
def PmemPlaysSaid : Prop := pmemPlaysRow.holds Try.pinned (OpenSpec.ofChange pmemPlaysSpec)

/-- ITS FALSE NEIGHBOUR: 'it returns false'. Refute it at one input. -/
def pmemPlaysWrong : ChangeSpec := { name := "pmemPlays", fn := fun _ => fun
  | [d1, d2] => { results := [.lit (.bool false)], args := [d1, d2] }
  | _ => none }
def PmemPlaysWrongFalsely : Prop := pmemPlaysRow.holds Try.pinned (OpenSpec.ofChange pmemPlaysWrong)

/-- 'imagolaw03.PlogCommits': WHATEVER THE INPUT: true; the input reads as it did. -/
def plogCommitsSpec : ChangeSpec := { name := "plogCommits", fn := fun _ => fun
  | [d1, d2] => { results := [.lit (.bool true)], args := [d1, d2] }
  | _ => none }
def plogCommitsRow : OpenClaim := { program := "ytfpnmphmngdkdaa", sum := "7d8b0c29f25e6ca8aaabb13a9798a5f747b4405f9cc246bd41c685a9a9ef0f5e", func := "imago/imagolaw03.PlogCommits", spec := "plogCommits", unfollowed := true, recurses := true, apart := false }
def PlogCommitsSaid : Prop := plogCommitsRow.holds Try.pinned (OpenSpec.ofChange plogCommitsSpec)

/-- ITS FALSE NEIGHBOUR: 'it returns false'. Refute it at one input. -/
def plogCommitsWrong : ChangeSpec := { name := "plogCommits", fn := fun _ => fun
  | [d1, d2] => { results := [.lit (.bool false)], args := [d1, d2] }
  | _ => none }
def PlogCommitsWrongFalsely : Prop := plogCommitsRow.holds Try.pinned (OpenSpec.ofChange plogCommitsWrong)

/-- 'imagolaw08.InodeSpace': WHATEVER THE INPUT: true; the input reads as it did. -/
def inodeSpaceSpec : ChangeSpec := { name := "inodeSpace", fn := fun _ => fun
  | [d1, d2] => { results := [.lit (.bool true)], args := [d1, d2] }
  | _ => none }
def inodeSpaceRow : OpenClaim := { program := "ytfpnmphmngdkdaa", sum := "7d8b0c29f25e6ca8aaabb13a9798a5f747b4405f9cc246bd41c685a9a9ef0f5e", func := "imago/imagolaw08.InodeSpace", spec := "inodeSpace", unfollowed := true, recurses := true, apart := false }
def InodeSpaceSaid : Prop := inodeSpaceRow.holds Try.pinned (OpenSpec.ofChange inodeSpaceSpec)

/-- ITS FALSE NEIGHBOUR: 'it returns false'. Refute it at one input. -/
def inodeSpaceWrong : ChangeSpec := { name := "inodeSpace", fn := fun _ => fun
  | [d1, d2] => { results := [.lit (.bool false)], args := [d1, d2] }
  | _ => none }
def InodeSpaceWrongFalsely : Prop := inodeSpaceRow.holds Try.pinned (OpenSpec.ofChange inodeSpaceWrong)

/-- 'imagolaw08.InodeTurns': WHATEVER THE INPUT: true; the input reads as it did. -/
def inodeTurnsSpec : ChangeSpec := { name := "inodeTurns", fn := fun _ => fun
  | [d1, d2] => { results := [.lit (.bool true)], args := [d1, d2] }
  | _ => none }
def inodeTurnsRow : OpenClaim := { program := "ytfpnmphmngdkdaa", sum := "7d8b0c29f25e6ca8aaabb13a9798a5f747b4405f9cc246bd41c685a9a9ef0f5e", func := "imago/imagolaw08.InodeTurns", spec := "inodeTurns", unfollowed := true, recurses := true, apart := false }
def InodeTurnsSaid : Prop := inodeTurnsRow.holds Try.pinned (OpenSpec.ofChange inodeTurnsSpec)

/-- ITS FALSE NEIGHBOUR: 'it returns false'. Refute it at one input. -/
def inodeTurnsWrong : ChangeSpec := { name := "inodeTurns", fn := fun _ => fun
  | [d1, d2] => { results := [.lit (.bool false)], args := [d1, d2] }
  | _ => none }
def InodeTurnsWrongFalsely : Prop := inodeTurnsRow.holds Try.pinned (OpenSpec.ofChange inodeTurnsWrong)

/- THE SECOND FORM. 'bulk': how many values and letters a reading holds, each counted each time it is reached (what is shared counts as often as it is met; a slice's spare places count too). A statement '..UptoSaid' is the law's where the arguments, and the package variables that the reading takes, are together of bulk at most 1048576: NARROWER than '..Said'. Prove '..Said' where nothing that the law and all that it calls make is longer than what came in: it says more and counts as full. Else prove '..UptoSaid'. A law counts once. -/
mutual
def uptoBulk {H : Type} : DataW H → Nat
  | .lit (.string bytes) => bytes.length + 1
  | .lit _ => 1
  | .nil => 1
  | .ptr d => uptoBulk d + 1
  | .slice elems spare => uptoBulkAll elems + uptoBulkAll spare + 1
  | .agg parts => uptoBulkAll parts + 1
  | .iface _ d => uptoBulk d + 1
  | .map entries => uptoBulkEntries entries + 1
  | .held _ => 1
def uptoBulkAll {H : Type} : List (DataW H) → Nat
  | [] => 0
  | d :: r => uptoBulk d + uptoBulkAll r
def uptoBulkEntries {H : Type} : List (Lit × DataW H) → Nat
  | [] => 0
  | x :: r => uptoBulkEntry x + uptoBulkEntries r
def uptoBulkEntry {H : Type} : Lit × DataW H → Nat
  | (.string bytes, d) => bytes.length + uptoBulk d + 1
  | (_, d) => uptoBulk d + 1
 end
def uptoSmall : (H : Type) → List (DataW H) → Bool := fun _ ds => decide (uptoBulkAll ds ≤ 1048576)
def OpenSpec.upto (s : _root_.Go.ChangeSpec) : _root_.Go.OpenSpec := { _root_.Go.OpenSpec.ofChange s with cond := some uptoSmall }

/-- 'imagolaw03.PlogArgs', WHERE WHAT IT READS IS OF BULK AT MOST 1048576: true; the input reads as it did. -/
def plogArgsUptoRow : OpenClaim := { program := "ytfpnmphmngdkdaa", sum := "7d8b0c29f25e6ca8aaabb13a9798a5f747b4405f9cc246bd41c685a9a9ef0f5e", func := "imago/imagolaw03.PlogArgs", spec := "plogArgs", unfollowed := true, recurses := true, apart := false, narrowed := true }
def PlogArgsUptoSaid : Prop := plogArgsUptoRow.holds Try.pinned (OpenSpec.upto plogArgsSpec)

/-- 'imagolaw06.Fmt1Both', WHERE WHAT IT READS IS OF BULK AT MOST 1048576: true; the input reads as it did. -/
def fmt1BothUptoRow : OpenClaim := { program := "ytfpnmphmngdkdaa", sum := "7d8b0c29f25e6ca8aaabb13a9798a5f747b4405f9cc246bd41c685a9a9ef0f5e", func := "imago/imagolaw06.Fmt1Both", spec := "fmt1Both", unfollowed := true, recurses := true, apart := false, narrowed := true }
def Fmt1BothUptoSaid : Prop := fmt1BothUptoRow.holds Try.pinned (OpenSpec.upto fmt1BothSpec)

/-- 'imagolaw06.Fmt1Reads', WHERE WHAT IT READS IS OF BULK AT MOST 1048576: true; the input reads as it did. -/
def fmt1ReadsUptoRow : OpenClaim := { program := "ytfpnmphmngdkdaa", sum := "7d8b0c29f25e6ca8aaabb13a9798a5f747b4405f9cc246bd41c685a9a9ef0f5e", func := "imago/imagolaw06.Fmt1Reads", spec := "fmt1Reads", unfollowed := true, recurses := true, apart := false, narrowed := true }
def Fmt1ReadsUptoSaid : Prop := fmt1ReadsUptoRow.holds Try.pinned (OpenSpec.upto fmt1ReadsSpec)

/-- 'imagolaw06.Fmt1Lays', WHERE WHAT IT READS IS OF BULK AT MOST 1048576: true; the input reads as it did. -/
def fmt1LaysUptoRow : OpenClaim := { program := "ytfpnmphmngdkdaa", sum := "7d8b0c29f25e6ca8aaabb13a9798a5f747b4405f9cc246bd41c685a9a9ef0f5e", func := "imago/imagolaw06.Fmt1Lays", spec := "fmt1Lays", unfollowed := true, recurses := true, apart := false, narrowed := true }
def Fmt1LaysUptoSaid : Prop := fmt1LaysUptoRow.holds Try.pinned (OpenSpec.upto fmt1LaysSpec)

/-- 'imagolaw07.Fmt2Reads', WHERE WHAT IT READS IS OF BULK AT MOST 1048576: true; the input reads as it did. -/
def fmt2ReadsUptoRow : OpenClaim := { program := "ytfpnmphmngdkdaa", sum := "7d8b0c29f25e6ca8aaabb13a9798a5f747b4405f9cc246bd41c685a9a9ef0f5e", func := "imago/imagolaw07.Fmt2Reads", spec := "fmt2Reads", apart := false, narrowed := true }
def Fmt2ReadsUptoSaid : Prop := fmt2ReadsUptoRow.holds Try.pinned (OpenSpec.upto fmt2ReadsSpec)

/-- 'imagolaw07.Fmt2Lays', WHERE WHAT IT READS IS OF BULK AT MOST 1048576: true; the input reads as it did. -/
def fmt2LaysUptoRow : OpenClaim := { program := "ytfpnmphmngdkdaa", sum := "7d8b0c29f25e6ca8aaabb13a9798a5f747b4405f9cc246bd41c685a9a9ef0f5e", func := "imago/imagolaw07.Fmt2Lays", spec := "fmt2Lays", apart := false, narrowed := true }
def Fmt2LaysUptoSaid : Prop := fmt2LaysUptoRow.holds Try.pinned (OpenSpec.upto fmt2LaysSpec)

/-- 'imagolaw01.PmemEither', WHERE WHAT IT READS IS OF BULK AT MOST 1048576: true; the input reads as it did. -/
def pmemEitherUptoRow : OpenClaim := { program := "ytfpnmphmngdkdaa", sum := "7d8b0c29f25e6ca8aaabb13a9798a5f747b4405f9cc246bd41c685a9a9ef0f5e", func := "imago/imagolaw01.PmemEither", spec := "pmemEither", unfollowed := true, recurses := true, apart := false, narrowed := true }
def PmemEitherUptoSaid : Prop := pmemEitherUptoRow.holds Try.pinned (OpenSpec.upto pmemEitherSpec)

/-- 'imagolaw01.PmemLasts', WHERE WHAT IT READS IS OF BULK AT MOST 1048576: true; the input reads as it did. -/
def pmemLastsUptoRow : OpenClaim := { program := "ytfpnmphmngdkdaa", sum := "7d8b0c29f25e6ca8aaabb13a9798a5f747b4405f9cc246bd41c685a9a9ef0f5e", func := "imago/imagolaw01.PmemLasts", spec := "pmemLasts", unfollowed := true, recurses := true, apart := false, narrowed := true }
def PmemLastsUptoSaid : Prop := pmemLastsUptoRow.holds Try.pinned (OpenSpec.upto pmemLastsSpec)

/-- 'imagolaw01.PmemPlays', WHERE WHAT IT READS IS OF BULK AT MOST 1048576: true; the input reads as it did. -/
def pmemPlaysUptoRow : OpenClaim := { program := "ytfpnmphmngdkdaa", sum := "7d8b0c29f25e6ca8aaabb13a9798a5f747b4405f9cc246bd41c685a9a9ef0f5e", func := "imago/imagolaw01.PmemPlays", spec := "pmemPlays", unfollowed := true, recurses := true, apart := false, narrowed := true }
def PmemPlaysUptoSaid : Prop := pmemPlaysUptoRow.holds Try.pinned (OpenSpec.upto pmemPlaysSpec)

/-- 'imagolaw03.PlogCommits', WHERE WHAT IT READS IS OF BULK AT MOST 1048576: true; the input reads as it did. -/
def plogCommitsUptoRow : OpenClaim := { program := "ytfpnmphmngdkdaa", sum := "7d8b0c29f25e6ca8aaabb13a9798a5f747b4405f9cc246bd41c685a9a9ef0f5e", func := "imago/imagolaw03.PlogCommits", spec := "plogCommits", unfollowed := true, recurses := true, apart := false, narrowed := true }
def PlogCommitsUptoSaid : Prop := plogCommitsUptoRow.holds Try.pinned (OpenSpec.upto plogCommitsSpec)

/-- 'imagolaw08.InodeSpace', WHERE WHAT IT READS IS OF BULK AT MOST 1048576: true; the input reads as it did. -/
def inodeSpaceUptoRow : OpenClaim := { program := "ytfpnmphmngdkdaa", sum := "7d8b0c29f25e6ca8aaabb13a9798a5f747b4405f9cc246bd41c685a9a9ef0f5e", func := "imago/imagolaw08.InodeSpace", spec := "inodeSpace", unfollowed := true, recurses := true, apart := false, narrowed := true }
def InodeSpaceUptoSaid : Prop := inodeSpaceUptoRow.holds Try.pinned (OpenSpec.upto inodeSpaceSpec)

/-- 'imagolaw08.InodeTurns', WHERE WHAT IT READS IS OF BULK AT MOST 1048576: true; the input reads as it did. -/
def inodeTurnsUptoRow : OpenClaim := { program := "ytfpnmphmngdkdaa", sum := "7d8b0c29f25e6ca8aaabb13a9798a5f747b4405f9cc246bd41c685a9a9ef0f5e", func := "imago/imagolaw08.InodeTurns", spec := "inodeTurns", unfollowed := true, recurses := true, apart := false, narrowed := true }
def InodeTurnsUptoSaid : Prop := inodeTurnsUptoRow.holds Try.pinned (OpenSpec.upto inodeTurnsSpec)

end Rows
end Go.Proofs.Ytfpnmphmngdkdaa
