/-
  No cell of these rows narrows 'for every input' (looked for: loops, veiled, ifaces, maps, wideKeys, modest, calm, conditions, laid).
  DERIVED. THE GIVEN ROWS OF THIS SEAT. 12 by the template 'for every input the law returns true; each argument reads behind the call as it read before'; 0 by the template 'total and deterministic' (their statements: YtcbcemeagiociaaTotals.lean).
  GIVEN WITH THE SEED: the statements are not yours to turn. If you find one false, say at which input.
  Laid BY PROGRAM, IN A SANDBOX (cutbox-rows.mjs): the forced cells as the released guide's own fill.sh prints them over the translation 5f97f5484319516e… (all of the seat's roots in one cut). By AI agents, Wed Nov 11 2026. No macro, syntax, notation, axiom, sorry.
-/
import Derived.Test.YtcbcemeagiociaaChecked
import GoSem.Claim
import GoSem.ClaimJoined
import GoSem.ClaimMapViews
import Derived.JoinedTies
import Derived.KernelRfl
namespace Go.Proofs.Ytcbcemeagiociaa
/- THE CELL 'sum', in the pinned program and in every row, IS THE sha256 OF THE DUMP (.gsa) THAT YtcbcemeagiociaaProg.lean LOADS. Nothing in Lean hashes anything: it is a label: what it is worth is what the hold of that sum in a sandbox is worth. -/
noncomputable def Try.pinned : Pinned := { name := "ytcbcemeagiociaa", sum := "5f97f5484319516e905c061e9b18a44f08f97859ebd15edc7280e3f2b23739f6", checked := Try.checked }
namespace Rows
def none {H : Type} : Left H := { results := [], args := [] }

/-- 'imagolaw07.Fmt2Runs': WHATEVER THE INPUT: true; the input reads as it did. -/
def fmt2RunsSpec : ChangeSpec := { name := "fmt2Runs", fn := fun _ => fun
  | [d] => { results := [.lit (.bool true)], args := [d] }
  | _ => none }
def fmt2RunsRow : OpenClaim := { program := "ytcbcemeagiociaa", sum := "5f97f5484319516e905c061e9b18a44f08f97859ebd15edc7280e3f2b23739f6", func := "imago/imagolaw07.Fmt2Runs", spec := "fmt2Runs", apart := false }
def Fmt2RunsSaid : Prop := fmt2RunsRow.holds Try.pinned (OpenSpec.ofChange fmt2RunsSpec)

/-- ITS FALSE NEIGHBOUR: 'it returns false'. Refute it at one input. -/
def fmt2RunsWrong : ChangeSpec := { name := "fmt2Runs", fn := fun _ => fun
  | [d] => { results := [.lit (.bool false)], args := [d] }
  | _ => none }
def Fmt2RunsWrongFalsely : Prop := fmt2RunsRow.holds Try.pinned (OpenSpec.ofChange fmt2RunsWrong)

/-- 'imagolaw04.TxPlaces': WHATEVER THE INPUT: true; the input reads as it did. -/
def txPlacesSpec : ChangeSpec := { name := "txPlaces", fn := fun _ => fun
  | [d] => { results := [.lit (.bool true)], args := [d] }
  | _ => none }
def txPlacesRow : OpenClaim := { program := "ytcbcemeagiociaa", sum := "5f97f5484319516e905c061e9b18a44f08f97859ebd15edc7280e3f2b23739f6", func := "imago/imagolaw04.TxPlaces", spec := "txPlaces", apart := false }
def TxPlacesSaid : Prop := txPlacesRow.holds Try.pinned (OpenSpec.ofChange txPlacesSpec)

/-- ITS FALSE NEIGHBOUR: 'it returns false'. Refute it at one input. -/
def txPlacesWrong : ChangeSpec := { name := "txPlaces", fn := fun _ => fun
  | [d] => { results := [.lit (.bool false)], args := [d] }
  | _ => none }
def TxPlacesWrongFalsely : Prop := txPlacesRow.holds Try.pinned (OpenSpec.ofChange txPlacesWrong)

/-- 'imagolaw02.PackSums': WHATEVER THE INPUT: true; the input reads as it did. -/
def packSumsSpec : ChangeSpec := { name := "packSums", fn := fun _ => fun
  | [d1, d2, d3] => { results := [.lit (.bool true)], args := [d1, d2, d3] }
  | _ => none }
def packSumsRow : OpenClaim := { program := "ytcbcemeagiociaa", sum := "5f97f5484319516e905c061e9b18a44f08f97859ebd15edc7280e3f2b23739f6", func := "imago/imagolaw02.PackSums", spec := "packSums", apart := false }
def PackSumsSaid : Prop := packSumsRow.holds Try.pinned (OpenSpec.ofChange packSumsSpec)

/-- ITS FALSE NEIGHBOUR: 'it returns false'. Refute it at one input. -/
def packSumsWrong : ChangeSpec := { name := "packSums", fn := fun _ => fun
  | [d1, d2, d3] => { results := [.lit (.bool false)], args := [d1, d2, d3] }
  | _ => none }
def PackSumsWrongFalsely : Prop := packSumsRow.holds Try.pinned (OpenSpec.ofChange packSumsWrong)

/-- 'imagolaw02.PackWords': WHATEVER THE INPUT: true; the input reads as it did. -/
def packWordsSpec : ChangeSpec := { name := "packWords", fn := fun _ => fun
  | [d1, d2] => { results := [.lit (.bool true)], args := [d1, d2] }
  | _ => none }
def packWordsRow : OpenClaim := { program := "ytcbcemeagiociaa", sum := "5f97f5484319516e905c061e9b18a44f08f97859ebd15edc7280e3f2b23739f6", func := "imago/imagolaw02.PackWords", spec := "packWords", apart := false }
def PackWordsSaid : Prop := packWordsRow.holds Try.pinned (OpenSpec.ofChange packWordsSpec)

/-- ITS FALSE NEIGHBOUR: 'it returns false'. Refute it at one input. -/
def packWordsWrong : ChangeSpec := { name := "packWords", fn := fun _ => fun
  | [d1, d2] => { results := [.lit (.bool false)], args := [d1, d2] }
  | _ => none }
def PackWordsWrongFalsely : Prop := packWordsRow.holds Try.pinned (OpenSpec.ofChange packWordsWrong)

/-- 'imagolaw04.TxPlays': WHATEVER THE INPUT: true; the input reads as it did. -/
def txPlaysSpec : ChangeSpec := { name := "txPlays", fn := fun _ => fun
  | [d1, d2] => { results := [.lit (.bool true)], args := [d1, d2] }
  | _ => none }
def txPlaysRow : OpenClaim := { program := "ytcbcemeagiociaa", sum := "5f97f5484319516e905c061e9b18a44f08f97859ebd15edc7280e3f2b23739f6", func := "imago/imagolaw04.TxPlays", spec := "txPlays", apart := false }
def TxPlaysSaid : Prop := txPlaysRow.holds Try.pinned (OpenSpec.ofChange txPlaysSpec)

/-- ITS FALSE NEIGHBOUR: 'it returns false'. Refute it at one input. -/
def txPlaysWrong : ChangeSpec := { name := "txPlays", fn := fun _ => fun
  | [d1, d2] => { results := [.lit (.bool false)], args := [d1, d2] }
  | _ => none }
def TxPlaysWrongFalsely : Prop := txPlaysRow.holds Try.pinned (OpenSpec.ofChange txPlaysWrong)

/-- 'imagolaw02.PackNames': WHATEVER THE INPUT: true; the input reads as it did. -/
def packNamesSpec : ChangeSpec := { name := "packNames", fn := fun _ => fun
  | [d] => { results := [.lit (.bool true)], args := [d] }
  | _ => none }
def packNamesRow : OpenClaim := { program := "ytcbcemeagiociaa", sum := "5f97f5484319516e905c061e9b18a44f08f97859ebd15edc7280e3f2b23739f6", func := "imago/imagolaw02.PackNames", spec := "packNames", apart := false }
def PackNamesSaid : Prop := packNamesRow.holds Try.pinned (OpenSpec.ofChange packNamesSpec)

/-- ITS FALSE NEIGHBOUR: 'it returns false'. Refute it at one input. -/
def packNamesWrong : ChangeSpec := { name := "packNames", fn := fun _ => fun
  | [d] => { results := [.lit (.bool false)], args := [d] }
  | _ => none }
def PackNamesWrongFalsely : Prop := packNamesRow.holds Try.pinned (OpenSpec.ofChange packNamesWrong)

/-- 'imagolaw01.PmemSizes': WHATEVER THE INPUT: true; the input reads as it did. -/
def pmemSizesSpec : ChangeSpec := { name := "pmemSizes", fn := fun _ => fun
  | [d] => { results := [.lit (.bool true)], args := [d] }
  | _ => none }
def pmemSizesRow : OpenClaim := { program := "ytcbcemeagiociaa", sum := "5f97f5484319516e905c061e9b18a44f08f97859ebd15edc7280e3f2b23739f6", func := "imago/imagolaw01.PmemSizes", spec := "pmemSizes", apart := false }
def PmemSizesSaid : Prop := pmemSizesRow.holds Try.pinned (OpenSpec.ofChange pmemSizesSpec)

/-- ITS FALSE NEIGHBOUR: 'it returns false'. Refute it at one input. -/
def pmemSizesWrong : ChangeSpec := { name := "pmemSizes", fn := fun _ => fun
  | [d] => { results := [.lit (.bool false)], args := [d] }
  | _ => none }
def PmemSizesWrongFalsely : Prop := pmemSizesRow.holds Try.pinned (OpenSpec.ofChange pmemSizesWrong)

/-- 'imagolaw05.PallocApart': WHATEVER THE INPUT: true; the input reads as it did. -/
def pallocApartSpec : ChangeSpec := { name := "pallocApart", fn := fun _ => fun
  | [d1, d2, d3] => { results := [.lit (.bool true)], args := [d1, d2, d3] }
  | _ => none }
def pallocApartRow : OpenClaim := { program := "ytcbcemeagiociaa", sum := "5f97f5484319516e905c061e9b18a44f08f97859ebd15edc7280e3f2b23739f6", func := "imago/imagolaw05.PallocApart", spec := "pallocApart", apart := false }
def PallocApartSaid : Prop := pallocApartRow.holds Try.pinned (OpenSpec.ofChange pallocApartSpec)

/-- ITS FALSE NEIGHBOUR: 'it returns false'. Refute it at one input. -/
def pallocApartWrong : ChangeSpec := { name := "pallocApart", fn := fun _ => fun
  | [d1, d2, d3] => { results := [.lit (.bool false)], args := [d1, d2, d3] }
  | _ => none }
def PallocApartWrongFalsely : Prop := pallocApartRow.holds Try.pinned (OpenSpec.ofChange pallocApartWrong)

/-- 'imagolaw05.PallocSets': WHATEVER THE INPUT: true; the input reads as it did. -/
def pallocSetsSpec : ChangeSpec := { name := "pallocSets", fn := fun _ => fun
  | [d1, d2, d3] => { results := [.lit (.bool true)], args := [d1, d2, d3] }
  | _ => none }
def pallocSetsRow : OpenClaim := { program := "ytcbcemeagiociaa", sum := "5f97f5484319516e905c061e9b18a44f08f97859ebd15edc7280e3f2b23739f6", func := "imago/imagolaw05.PallocSets", spec := "pallocSets", apart := false }
def PallocSetsSaid : Prop := pallocSetsRow.holds Try.pinned (OpenSpec.ofChange pallocSetsSpec)

/-- ITS FALSE NEIGHBOUR: 'it returns false'. Refute it at one input. -/
def pallocSetsWrong : ChangeSpec := { name := "pallocSets", fn := fun _ => fun
  | [d1, d2, d3] => { results := [.lit (.bool false)], args := [d1, d2, d3] }
  | _ => none }
def PallocSetsWrongFalsely : Prop := pallocSetsRow.holds Try.pinned (OpenSpec.ofChange pallocSetsWrong)

/-- 'imagolaw09.TreeEntries': WHATEVER THE INPUT: true; the input reads as it did. -/
def treeEntriesSpec : ChangeSpec := { name := "treeEntries", fn := fun _ => fun
  | [d1, d2] => { results := [.lit (.bool true)], args := [d1, d2] }
  | _ => none }
def treeEntriesRow : OpenClaim := { program := "ytcbcemeagiociaa", sum := "5f97f5484319516e905c061e9b18a44f08f97859ebd15edc7280e3f2b23739f6", func := "imago/imagolaw09.TreeEntries", spec := "treeEntries", inPlace := ["internal/bytealg.abigen_runtime_cmpstring", "slices.overlaps[imago/api.Entry]"], unfollowed := true, recurses := true, apart := false }
def TreeEntriesSaid : Prop := treeEntriesRow.holds Try.pinned (OpenSpec.ofChange treeEntriesSpec)

/-- ITS FALSE NEIGHBOUR: 'it returns false'. Refute it at one input. -/
def treeEntriesWrong : ChangeSpec := { name := "treeEntries", fn := fun _ => fun
  | [d1, d2] => { results := [.lit (.bool false)], args := [d1, d2] }
  | _ => none }
def TreeEntriesWrongFalsely : Prop := treeEntriesRow.holds Try.pinned (OpenSpec.ofChange treeEntriesWrong)

/-- 'imagolaw03.PlogTwice': WHATEVER THE INPUT: true; the input reads as it did. -/
def plogTwiceSpec : ChangeSpec := { name := "plogTwice", fn := fun _ => fun
  | [d1, d2] => { results := [.lit (.bool true)], args := [d1, d2] }
  | _ => none }
def plogTwiceRow : OpenClaim := { program := "ytcbcemeagiociaa", sum := "5f97f5484319516e905c061e9b18a44f08f97859ebd15edc7280e3f2b23739f6", func := "imago/imagolaw03.PlogTwice", spec := "plogTwice", unfollowed := true, recurses := true, apart := false }
def PlogTwiceSaid : Prop := plogTwiceRow.holds Try.pinned (OpenSpec.ofChange plogTwiceSpec)

/-- ITS FALSE NEIGHBOUR: 'it returns false'. Refute it at one input. -/
def plogTwiceWrong : ChangeSpec := { name := "plogTwice", fn := fun _ => fun
  | [d1, d2] => { results := [.lit (.bool false)], args := [d1, d2] }
  | _ => none }
def PlogTwiceWrongFalsely : Prop := plogTwiceRow.holds Try.pinned (OpenSpec.ofChange plogTwiceWrong)

/-- 'imagolaw03.PlogStands': WHATEVER THE INPUT: true; the input reads as it did. -/
def plogStandsSpec : ChangeSpec := { name := "plogStands", fn := fun _ => fun
  | [d1, d2, d3] => { results := [.lit (.bool true)], args := [d1, d2, d3] }
  | _ => none }
def plogStandsRow : OpenClaim := { program := "ytcbcemeagiociaa", sum := "5f97f5484319516e905c061e9b18a44f08f97859ebd15edc7280e3f2b23739f6", func := "imago/imagolaw03.PlogStands", spec := "plogStands", unfollowed := true, recurses := true, apart := false }
def PlogStandsSaid : Prop := plogStandsRow.holds Try.pinned (OpenSpec.ofChange plogStandsSpec)

/-- ITS FALSE NEIGHBOUR: 'it returns false'. Refute it at one input. -/
def plogStandsWrong : ChangeSpec := { name := "plogStands", fn := fun _ => fun
  | [d1, d2, d3] => { results := [.lit (.bool false)], args := [d1, d2, d3] }
  | _ => none }
def PlogStandsWrongFalsely : Prop := plogStandsRow.holds Try.pinned (OpenSpec.ofChange plogStandsWrong)

/- THE SECOND FORM. 'bulk': how many values and letters a reading holds, each counted each time it is reached (what is shared counts as often as it is met; a slice's spare places count too). A statement '..UptoSaid' is the law's where the arguments, and the package variables that the reading takes, are together of bulk at most 1048576: NARROWER than '..Said'. Prove '..Said' where nothing that the law and all that it calls make is longer than what came in: it says more and counts as full. Else prove '..UptoSaid'. A law counts once. -/
mutual
def uptoBulk {H : Type} : DataW H → Nat
  | .lit (.string bytes) => bytes.length + 1
  | .lit _ => 1
  | .nil => 1
  | .ptr d => uptoBulk d + 1
  | .slice elems spare => uptoBulkAll elems + uptoBulkAll spare + 1
  | .agg parts => uptoBulkAll parts + 1
  | .iface _ d => uptoBulk d + 1
  | .map entries => uptoBulkEntries entries + 1
  | .held _ => 1
def uptoBulkAll {H : Type} : List (DataW H) → Nat
  | [] => 0
  | d :: r => uptoBulk d + uptoBulkAll r
def uptoBulkEntries {H : Type} : List (Lit × DataW H) → Nat
  | [] => 0
  | x :: r => uptoBulkEntry x + uptoBulkEntries r
def uptoBulkEntry {H : Type} : Lit × DataW H → Nat
  | (.string bytes, d) => bytes.length + uptoBulk d + 1
  | (_, d) => uptoBulk d + 1
 end
def uptoSmall : (H : Type) → List (DataW H) → Bool := fun _ ds => decide (uptoBulkAll ds ≤ 1048576)
def OpenSpec.upto (s : _root_.Go.ChangeSpec) : _root_.Go.OpenSpec := { _root_.Go.OpenSpec.ofChange s with cond := some uptoSmall }

/-- 'imagolaw07.Fmt2Runs', WHERE WHAT IT READS IS OF BULK AT MOST 1048576: true; the input reads as it did. -/
def fmt2RunsUptoRow : OpenClaim := { program := "ytcbcemeagiociaa", sum := "5f97f5484319516e905c061e9b18a44f08f97859ebd15edc7280e3f2b23739f6", func := "imago/imagolaw07.Fmt2Runs", spec := "fmt2Runs", apart := false, narrowed := true }
def Fmt2RunsUptoSaid : Prop := fmt2RunsUptoRow.holds Try.pinned (OpenSpec.upto fmt2RunsSpec)

/-- 'imagolaw04.TxPlaces', WHERE WHAT IT READS IS OF BULK AT MOST 1048576: true; the input reads as it did. -/
def txPlacesUptoRow : OpenClaim := { program := "ytcbcemeagiociaa", sum := "5f97f5484319516e905c061e9b18a44f08f97859ebd15edc7280e3f2b23739f6", func := "imago/imagolaw04.TxPlaces", spec := "txPlaces", apart := false, narrowed := true }
def TxPlacesUptoSaid : Prop := txPlacesUptoRow.holds Try.pinned (OpenSpec.upto txPlacesSpec)

/-- 'imagolaw02.PackSums', WHERE WHAT IT READS IS OF BULK AT MOST 1048576: true; the input reads as it did. -/
def packSumsUptoRow : OpenClaim := { program := "ytcbcemeagiociaa", sum := "5f97f5484319516e905c061e9b18a44f08f97859ebd15edc7280e3f2b23739f6", func := "imago/imagolaw02.PackSums", spec := "packSums", apart := false, narrowed := true }
def PackSumsUptoSaid : Prop := packSumsUptoRow.holds Try.pinned (OpenSpec.upto packSumsSpec)

/-- 'imagolaw02.PackWords', WHERE WHAT IT READS IS OF BULK AT MOST 1048576: true; the input reads as it did. -/
def packWordsUptoRow : OpenClaim := { program := "ytcbcemeagiociaa", sum := "5f97f5484319516e905c061e9b18a44f08f97859ebd15edc7280e3f2b23739f6", func := "imago/imagolaw02.PackWords", spec := "packWords", apart := false, narrowed := true }
def PackWordsUptoSaid : Prop := packWordsUptoRow.holds Try.pinned (OpenSpec.upto packWordsSpec)

/-- 'imagolaw04.TxPlays', WHERE WHAT IT READS IS OF BULK AT MOST 1048576: true; the input reads as it did. -/
def txPlaysUptoRow : OpenClaim := { program := "ytcbcemeagiociaa", sum := "5f97f5484319516e905c061e9b18a44f08f97859ebd15edc7280e3f2b23739f6", func := "imago/imagolaw04.TxPlays", spec := "txPlays", apart := false, narrowed := true }
def TxPlaysUptoSaid : Prop := txPlaysUptoRow.holds Try.pinned (OpenSpec.upto txPlaysSpec)

/-- 'imagolaw02.PackNames', WHERE WHAT IT READS IS OF BULK AT MOST 1048576: true; the input reads as it did. -/
def packNamesUptoRow : OpenClaim := { program := "ytcbcemeagiociaa", sum := "5f97f5484319516e905c061e9b18a44f08f97859ebd15edc7280e3f2b23739f6", func := "imago/imagolaw02.PackNames", spec := "packNames", apart := false, narrowed := true }
def PackNamesUptoSaid : Prop := packNamesUptoRow.holds Try.pinned (OpenSpec.upto packNamesSpec)

/-- 'imagolaw01.PmemSizes', WHERE WHAT IT READS IS OF BULK AT MOST 1048576: true; the input reads as it did. -/
def pmemSizesUptoRow : OpenClaim := { program := "ytcbcemeagiociaa", sum := "5f97f5484319516e905c061e9b18a44f08f97859ebd15edc7280e3f2b23739f6", func := "imago/imagolaw01.PmemSizes", spec := "pmemSizes", apart := false, narrowed := true }
def PmemSizesUptoSaid : Prop := pmemSizesUptoRow.holds Try.pinned (OpenSpec.upto pmemSizesSpec)

/-- 'imagolaw05.PallocApart', WHERE WHAT IT READS IS OF BULK AT MOST 1048576: true; the input reads as it did. -/
def pallocApartUptoRow : OpenClaim := { program := "ytcbcemeagiociaa", sum := "5f97f5484319516e905c061e9b18a44f08f97859ebd15edc7280e3f2b23739f6", func := "imago/imagolaw05.PallocApart", spec := "pallocApart", apart := false, narrowed := true }
def PallocApartUptoSaid : Prop := pallocApartUptoRow.holds Try.pinned (OpenSpec.upto pallocApartSpec)

/-- 'imagolaw05.PallocSets', WHERE WHAT IT READS IS OF BULK AT MOST 1048576: true; the input reads as it did. -/
def pallocSetsUptoRow : OpenClaim := { program := "ytcbcemeagiociaa", sum := "5f97f5484319516e905c061e9b18a44f08f97859ebd15edc7280e3f2b23739f6", func := "imago/imagolaw05.PallocSets", spec := "pallocSets", apart := false, narrowed := true }
def PallocSetsUptoSaid : Prop := pallocSetsUptoRow.holds Try.pinned (OpenSpec.upto pallocSetsSpec)

/-- 'imagolaw09.TreeEntries', WHERE WHAT IT READS IS OF BULK AT MOST 1048576: true; the input reads as it did. -/
def treeEntriesUptoRow : OpenClaim := { program := "ytcbcemeagiociaa", sum := "5f97f5484319516e905c061e9b18a44f08f97859ebd15edc7280e3f2b23739f6", func := "imago/imagolaw09.TreeEntries", spec := "treeEntries", inPlace := ["internal/bytealg.abigen_runtime_cmpstring", "slices.overlaps[imago/api.Entry]"], unfollowed := true, recurses := true, apart := false, narrowed := true }
def TreeEntriesUptoSaid : Prop := treeEntriesUptoRow.holds Try.pinned (OpenSpec.upto treeEntriesSpec)

/-- 'imagolaw03.PlogTwice', WHERE WHAT IT READS IS OF BULK AT MOST 1048576: true; the input reads as it did. -/
def plogTwiceUptoRow : OpenClaim := { program := "ytcbcemeagiociaa", sum := "5f97f5484319516e905c061e9b18a44f08f97859ebd15edc7280e3f2b23739f6", func := "imago/imagolaw03.PlogTwice", spec := "plogTwice", unfollowed := true, recurses := true, apart := false, narrowed := true }
def PlogTwiceUptoSaid : Prop := plogTwiceUptoRow.holds Try.pinned (OpenSpec.upto plogTwiceSpec)

/-- 'imagolaw03.PlogStands', WHERE WHAT IT READS IS OF BULK AT MOST 1048576: true; the input reads as it did. -/
def plogStandsUptoRow : OpenClaim := { program := "ytcbcemeagiociaa", sum := "5f97f5484319516e905c061e9b18a44f08f97859ebd15edc7280e3f2b23739f6", func := "imago/imagolaw03.PlogStands", spec := "plogStands", unfollowed := true, recurses := true, apart := false, narrowed := true }
def PlogStandsUptoSaid : Prop := plogStandsUptoRow.holds Try.pinned (OpenSpec.upto plogStandsSpec)

end Rows
end Go.Proofs.Ytcbcemeagiociaa
