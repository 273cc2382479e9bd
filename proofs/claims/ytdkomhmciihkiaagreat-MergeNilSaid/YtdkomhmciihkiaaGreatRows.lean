/-
  No cell of these rows narrows 'for every input' (looked for: loops, veiled, ifaces, maps, wideKeys, modest, calm, conditions, laid).
  DERIVED. THE GIVEN ROWS OF THIS SEAT. 11 by the template 'for every input the law returns true; each argument reads behind the call as it read before'; 0 by the template 'total and deterministic' (their statements: YtdkomhmciihkiaaGreatTotals.lean).
  GIVEN WITH THE SEED: the statements are not yours to turn. If you find one false, say at which input.
  Laid BY PROGRAM, IN A SANDBOX (cutbox-rows.mjs): the forced cells as the released guide's own fill.sh prints them over the translation 5249dd058a6ab468… (all of the seat's roots in one cut). By AI agents, Wed Nov 11 2026. No macro, syntax, notation, axiom, sorry.
-/
import Derived.Test.YtdkomhmciihkiaaGreatChecked
import GoSem.Claim
import GoSem.ClaimJoined
import GoSem.ClaimMapViews
import Derived.JoinedTies
import Derived.KernelRfl
namespace Go.Proofs.YtdkomhmciihkiaaGreat
/- THE CELL 'sum', in the pinned program and in every row, IS THE sha256 OF THE DUMP (.gsa) THAT YtdkomhmciihkiaaGreatProg.lean LOADS. Nothing in Lean hashes anything: it is a label: what it is worth is what the hold of that sum in a sandbox is worth. -/
noncomputable def Tryz.pinned : Pinned := { name := "ytdkomhmciihkiaagreat", sum := "5249dd058a6ab4681364816354f93bdc1a4a60842d86f5ad083b856278838af2", checked := Tryz.checked }
namespace Rows
def none {H : Type} : Left H := { results := [], args := [] }

/-- 'pantilelaw31.PairsNil': WHATEVER THE INPUT: true; the input reads as it did. -/
def pairsNilSpec : ChangeSpec := { name := "pairsNil", fn := fun _ => fun
  | [d] => { results := [.lit (.bool true)], args := [d] }
  | _ => none }
def pairsNilRow : OpenClaim := { program := "ytdkomhmciihkiaagreat", sum := "5249dd058a6ab4681364816354f93bdc1a4a60842d86f5ad083b856278838af2", func := "pantile/pantilelaw31.PairsNil", spec := "pairsNil", inPlace := ["slices.overlaps[pantile/slots.cell[*pantile/node.Node]]"], unfollowed := true, recurses := true, apart := false }
def PairsNilSaid : Prop := pairsNilRow.holds Tryz.pinned (OpenSpec.ofChange pairsNilSpec)

/-- ITS FALSE NEIGHBOUR: 'it returns false'. Refute it at one input. -/
def pairsNilWrong : ChangeSpec := { name := "pairsNil", fn := fun _ => fun
  | [d] => { results := [.lit (.bool false)], args := [d] }
  | _ => none }
def PairsNilWrongFalsely : Prop := pairsNilRow.holds Tryz.pinned (OpenSpec.ofChange pairsNilWrong)

/-- 'pantilelaw31.PairsAll': WHATEVER THE INPUT: true; the input reads as it did. -/
def pairsAllSpec : ChangeSpec := { name := "pairsAll", fn := fun _ => fun
  | [d1, d2, d3, d4, d5] => { results := [.lit (.bool true)], args := [d1, d2, d3, d4, d5] }
  | _ => none }
def pairsAllRow : OpenClaim := { program := "ytdkomhmciihkiaagreat", sum := "5249dd058a6ab4681364816354f93bdc1a4a60842d86f5ad083b856278838af2", func := "pantile/pantilelaw31.PairsAll", spec := "pairsAll", inPlace := ["slices.overlaps[pantile/slots.cell[*pantile/node.Node]]"], unfollowed := true, recurses := true, apart := false }
def PairsAllSaid : Prop := pairsAllRow.holds Tryz.pinned (OpenSpec.ofChange pairsAllSpec)

/-- ITS FALSE NEIGHBOUR: 'it returns false'. Refute it at one input. -/
def pairsAllWrong : ChangeSpec := { name := "pairsAll", fn := fun _ => fun
  | [d1, d2, d3, d4, d5] => { results := [.lit (.bool false)], args := [d1, d2, d3, d4, d5] }
  | _ => none }
def PairsAllWrongFalsely : Prop := pairsAllRow.holds Tryz.pinned (OpenSpec.ofChange pairsAllWrong)

/-- 'pantilelaw19.PackTrees': WHATEVER THE INPUT: true; the input reads as it did. -/
def packTreesSpec : ChangeSpec := { name := "packTrees", fn := fun _ => fun
  | [d1, d2] => { results := [.lit (.bool true)], args := [d1, d2] }
  | _ => none }
def packTreesRow : OpenClaim := { program := "ytdkomhmciihkiaagreat", sum := "5249dd058a6ab4681364816354f93bdc1a4a60842d86f5ad083b856278838af2", func := "pantile/pantilelaw19.PackTrees", spec := "packTrees", inPlace := ["slices.overlaps[pantile/slots.cell[*pantile/node.Node]]"], unfollowed := true, recurses := true, apart := false }
def PackTreesSaid : Prop := packTreesRow.holds Tryz.pinned (OpenSpec.ofChange packTreesSpec)

/-- ITS FALSE NEIGHBOUR: 'it returns false'. Refute it at one input. -/
def packTreesWrong : ChangeSpec := { name := "packTrees", fn := fun _ => fun
  | [d1, d2] => { results := [.lit (.bool false)], args := [d1, d2] }
  | _ => none }
def PackTreesWrongFalsely : Prop := packTreesRow.holds Tryz.pinned (OpenSpec.ofChange packTreesWrong)

/-- 'pantilelaw14.MergeNil': WHATEVER THE INPUT: true; the input reads as it did. -/
def mergeNilSpec : ChangeSpec := { name := "mergeNil", fn := fun _ => fun
  | [d] => { results := [.lit (.bool true)], args := [d] }
  | _ => none }
def mergeNilRow : OpenClaim := { program := "ytdkomhmciihkiaagreat", sum := "5249dd058a6ab4681364816354f93bdc1a4a60842d86f5ad083b856278838af2", func := "pantile/pantilelaw14.MergeNil", spec := "mergeNil", inPlace := ["slices.overlaps[pantile/slots.cell[*pantile/node.Node]]"], unfollowed := true, recurses := true, apart := false }
def MergeNilSaid : Prop := mergeNilRow.holds Tryz.pinned (OpenSpec.ofChange mergeNilSpec)

/-- ITS FALSE NEIGHBOUR: 'it returns false'. Refute it at one input. -/
def mergeNilWrong : ChangeSpec := { name := "mergeNil", fn := fun _ => fun
  | [d] => { results := [.lit (.bool false)], args := [d] }
  | _ => none }
def MergeNilWrongFalsely : Prop := mergeNilRow.holds Tryz.pinned (OpenSpec.ofChange mergeNilWrong)

/-- 'pantilelaw14.MergeSides': WHATEVER THE INPUT: true; the input reads as it did. -/
def mergeSidesSpec : ChangeSpec := { name := "mergeSides", fn := fun _ => fun
  | [d1, d2, d3, d4] => { results := [.lit (.bool true)], args := [d1, d2, d3, d4] }
  | _ => none }
def mergeSidesRow : OpenClaim := { program := "ytdkomhmciihkiaagreat", sum := "5249dd058a6ab4681364816354f93bdc1a4a60842d86f5ad083b856278838af2", func := "pantile/pantilelaw14.MergeSides", spec := "mergeSides", inPlace := ["slices.overlaps[pantile/slots.cell[*pantile/node.Node]]"], unfollowed := true, recurses := true, apart := false }
def MergeSidesSaid : Prop := mergeSidesRow.holds Tryz.pinned (OpenSpec.ofChange mergeSidesSpec)

/-- ITS FALSE NEIGHBOUR: 'it returns false'. Refute it at one input. -/
def mergeSidesWrong : ChangeSpec := { name := "mergeSides", fn := fun _ => fun
  | [d1, d2, d3, d4] => { results := [.lit (.bool false)], args := [d1, d2, d3, d4] }
  | _ => none }
def MergeSidesWrongFalsely : Prop := mergeSidesRow.holds Tryz.pinned (OpenSpec.ofChange mergeSidesWrong)

/-- 'pantilelaw14.MergeThree': WHATEVER THE INPUT: true; the input reads as it did. -/
def mergeThreeSpec : ChangeSpec := { name := "mergeThree", fn := fun _ => fun
  | [d1, d2, d3, d4, d5] => { results := [.lit (.bool true)], args := [d1, d2, d3, d4, d5] }
  | _ => none }
def mergeThreeRow : OpenClaim := { program := "ytdkomhmciihkiaagreat", sum := "5249dd058a6ab4681364816354f93bdc1a4a60842d86f5ad083b856278838af2", func := "pantile/pantilelaw14.MergeThree", spec := "mergeThree", inPlace := ["slices.overlaps[pantile/slots.cell[*pantile/node.Node]]"], unfollowed := true, recurses := true, apart := false }
def MergeThreeSaid : Prop := mergeThreeRow.holds Tryz.pinned (OpenSpec.ofChange mergeThreeSpec)

/-- ITS FALSE NEIGHBOUR: 'it returns false'. Refute it at one input. -/
def mergeThreeWrong : ChangeSpec := { name := "mergeThree", fn := fun _ => fun
  | [d1, d2, d3, d4, d5] => { results := [.lit (.bool false)], args := [d1, d2, d3, d4, d5] }
  | _ => none }
def MergeThreeWrongFalsely : Prop := mergeThreeRow.holds Tryz.pinned (OpenSpec.ofChange mergeThreeWrong)

/-- 'pantilelaw14.MergeApart': WHATEVER THE INPUT: true; the input reads as it did. -/
def mergeApartSpec : ChangeSpec := { name := "mergeApart", fn := fun _ => fun
  | [d1, d2, d3, d4, d5, d6] => { results := [.lit (.bool true)], args := [d1, d2, d3, d4, d5, d6] }
  | _ => none }
def mergeApartRow : OpenClaim := { program := "ytdkomhmciihkiaagreat", sum := "5249dd058a6ab4681364816354f93bdc1a4a60842d86f5ad083b856278838af2", func := "pantile/pantilelaw14.MergeApart", spec := "mergeApart", inPlace := ["slices.overlaps[pantile/slots.cell[*pantile/node.Node]]"], unfollowed := true, recurses := true, apart := false }
def MergeApartSaid : Prop := mergeApartRow.holds Tryz.pinned (OpenSpec.ofChange mergeApartSpec)

/-- ITS FALSE NEIGHBOUR: 'it returns false'. Refute it at one input. -/
def mergeApartWrong : ChangeSpec := { name := "mergeApart", fn := fun _ => fun
  | [d1, d2, d3, d4, d5, d6] => { results := [.lit (.bool false)], args := [d1, d2, d3, d4, d5, d6] }
  | _ => none }
def MergeApartWrongFalsely : Prop := mergeApartRow.holds Tryz.pinned (OpenSpec.ofChange mergeApartWrong)

/-- 'pantilelaw14.MergeEdits': WHATEVER THE INPUT: true; the input reads as it did. -/
def mergeEditsSpec : ChangeSpec := { name := "mergeEdits", fn := fun _ => fun
  | [d1, d2, d3, d4] => { results := [.lit (.bool true)], args := [d1, d2, d3, d4] }
  | _ => none }
def mergeEditsRow : OpenClaim := { program := "ytdkomhmciihkiaagreat", sum := "5249dd058a6ab4681364816354f93bdc1a4a60842d86f5ad083b856278838af2", func := "pantile/pantilelaw14.MergeEdits", spec := "mergeEdits", inPlace := ["slices.overlaps[pantile/slots.cell[*pantile/node.Node]]"], unfollowed := true, recurses := true, apart := false }
def MergeEditsSaid : Prop := mergeEditsRow.holds Tryz.pinned (OpenSpec.ofChange mergeEditsSpec)

/-- ITS FALSE NEIGHBOUR: 'it returns false'. Refute it at one input. -/
def mergeEditsWrong : ChangeSpec := { name := "mergeEdits", fn := fun _ => fun
  | [d1, d2, d3, d4] => { results := [.lit (.bool false)], args := [d1, d2, d3, d4] }
  | _ => none }
def MergeEditsWrongFalsely : Prop := mergeEditsRow.holds Tryz.pinned (OpenSpec.ofChange mergeEditsWrong)

/-- 'pantilelaw35.HistNil': WHATEVER THE INPUT: true; the input reads as it did. -/
def histNilSpec : ChangeSpec := { name := "histNil", fn := fun _ => fun
  | [d1, d2, d3] => { results := [.lit (.bool true)], args := [d1, d2, d3] }
  | _ => none }
def histNilRow : OpenClaim := { program := "ytdkomhmciihkiaagreat", sum := "5249dd058a6ab4681364816354f93bdc1a4a60842d86f5ad083b856278838af2", func := "pantile/pantilelaw35.HistNil", spec := "histNil", inPlace := ["slices.overlaps[pantile/slots.cell[*pantile/node.Node]]", "math/bits.Sub64"], unfollowed := true, recurses := true, apart := false }
def HistNilSaid : Prop := histNilRow.holds Tryz.pinned (OpenSpec.ofChange histNilSpec)

/-- ITS FALSE NEIGHBOUR: 'it returns false'. Refute it at one input. -/
def histNilWrong : ChangeSpec := { name := "histNil", fn := fun _ => fun
  | [d1, d2, d3] => { results := [.lit (.bool false)], args := [d1, d2, d3] }
  | _ => none }
def HistNilWrongFalsely : Prop := histNilRow.holds Tryz.pinned (OpenSpec.ofChange histNilWrong)

/-- 'pantilelaw35.HistSwaps': WHATEVER THE INPUT: true; the input reads as it did. -/
def histSwapsSpec : ChangeSpec := { name := "histSwaps", fn := fun _ => fun
  | [d1, d2] => { results := [.lit (.bool true)], args := [d1, d2] }
  | _ => none }
def histSwapsRow : OpenClaim := { program := "ytdkomhmciihkiaagreat", sum := "5249dd058a6ab4681364816354f93bdc1a4a60842d86f5ad083b856278838af2", func := "pantile/pantilelaw35.HistSwaps", spec := "histSwaps", inPlace := ["slices.overlaps[pantile/slots.cell[*pantile/node.Node]]"], unfollowed := true, recurses := true, apart := false }
def HistSwapsSaid : Prop := histSwapsRow.holds Tryz.pinned (OpenSpec.ofChange histSwapsSpec)

/-- ITS FALSE NEIGHBOUR: 'it returns false'. Refute it at one input. -/
def histSwapsWrong : ChangeSpec := { name := "histSwaps", fn := fun _ => fun
  | [d1, d2] => { results := [.lit (.bool false)], args := [d1, d2] }
  | _ => none }
def HistSwapsWrongFalsely : Prop := histSwapsRow.holds Tryz.pinned (OpenSpec.ofChange histSwapsWrong)

/-- 'pantilelaw35.HistValues': WHATEVER THE INPUT: true; the input reads as it did. -/
def histValuesSpec : ChangeSpec := { name := "histValues", fn := fun _ => fun
  | [d1, d2, d3, d4, d5] => { results := [.lit (.bool true)], args := [d1, d2, d3, d4, d5] }
  | _ => none }
def histValuesRow : OpenClaim := { program := "ytdkomhmciihkiaagreat", sum := "5249dd058a6ab4681364816354f93bdc1a4a60842d86f5ad083b856278838af2", func := "pantile/pantilelaw35.HistValues", spec := "histValues", inPlace := ["slices.overlaps[pantile/slots.cell[*pantile/node.Node]]", "math/bits.Sub64"], unfollowed := true, recurses := true, apart := false }
def HistValuesSaid : Prop := histValuesRow.holds Tryz.pinned (OpenSpec.ofChange histValuesSpec)

/-- ITS FALSE NEIGHBOUR: 'it returns false'. Refute it at one input. -/
def histValuesWrong : ChangeSpec := { name := "histValues", fn := fun _ => fun
  | [d1, d2, d3, d4, d5] => { results := [.lit (.bool false)], args := [d1, d2, d3, d4, d5] }
  | _ => none }
def HistValuesWrongFalsely : Prop := histValuesRow.holds Tryz.pinned (OpenSpec.ofChange histValuesWrong)

/- THE SECOND FORM. 'bulk': how many values and letters a reading holds, each counted each time it is reached (what is shared counts as often as it is met; a slice's spare places count too). A statement '..UptoSaid' is the law's where the arguments, and the package variables that the reading takes, are together of bulk at most 1048576: NARROWER than '..Said'. Prove '..Said' where nothing that the law and all that it calls make is longer than what came in: it says more and counts as full. Else prove '..UptoSaid'. A law counts once. -/
mutual
def uptoBulk {H : Type} : DataW H → Nat
  | .lit (.string bytes) => bytes.length + 1
  | .lit _ => 1
  | .nil => 1
  | .ptr d => uptoBulk d + 1
  | .slice elems spare => uptoBulkAll elems + uptoBulkAll spare + 1
  | .agg parts => uptoBulkAll parts + 1
  | .iface _ d => uptoBulk d + 1
  | .map entries => uptoBulkEntries entries + 1
  | .held _ => 1
def uptoBulkAll {H : Type} : List (DataW H) → Nat
  | [] => 0
  | d :: r => uptoBulk d + uptoBulkAll r
def uptoBulkEntries {H : Type} : List (Lit × DataW H) → Nat
  | [] => 0
  | x :: r => uptoBulkEntry x + uptoBulkEntries r
def uptoBulkEntry {H : Type} : Lit × DataW H → Nat
  | (.string bytes, d) => bytes.length + uptoBulk d + 1
  | (_, d) => uptoBulk d + 1
 end
def uptoSmall : (H : Type) → List (DataW H) → Bool := fun _ ds => decide (uptoBulkAll ds ≤ 1048576)
def OpenSpec.upto (s : _root_.Go.ChangeSpec) : _root_.Go.OpenSpec := { _root_.Go.OpenSpec.ofChange s with cond := some uptoSmall }

/-- 'pantilelaw31.PairsNil', WHERE WHAT IT READS IS OF BULK AT MOST 1048576: true; the input reads as it did. -/
def pairsNilUptoRow : OpenClaim := { program := "ytdkomhmciihkiaagreat", sum := "5249dd058a6ab4681364816354f93bdc1a4a60842d86f5ad083b856278838af2", func := "pantile/pantilelaw31.PairsNil", spec := "pairsNil", inPlace := ["slices.overlaps[pantile/slots.cell[*pantile/node.Node]]"], unfollowed := true, recurses := true, apart := false, narrowed := true }
def PairsNilUptoSaid : Prop := pairsNilUptoRow.holds Tryz.pinned (OpenSpec.upto pairsNilSpec)

/-- 'pantilelaw31.PairsAll', WHERE WHAT IT READS IS OF BULK AT MOST 1048576: true; the input reads as it did. -/
def pairsAllUptoRow : OpenClaim := { program := "ytdkomhmciihkiaagreat", sum := "5249dd058a6ab4681364816354f93bdc1a4a60842d86f5ad083b856278838af2", func := "pantile/pantilelaw31.PairsAll", spec := "pairsAll", inPlace := ["slices.overlaps[pantile/slots.cell[*pantile/node.Node]]"], unfollowed := true, recurses := true, apart := false, narrowed := true }
def PairsAllUptoSaid : Prop := pairsAllUptoRow.holds Tryz.pinned (OpenSpec.upto pairsAllSpec)

/-- 'pantilelaw19.PackTrees', WHERE WHAT IT READS IS OF BULK AT MOST 1048576: true; the input reads as it did. -/
def packTreesUptoRow : OpenClaim := { program := "ytdkomhmciihkiaagreat", sum := "5249dd058a6ab4681364816354f93bdc1a4a60842d86f5ad083b856278838af2", func := "pantile/pantilelaw19.PackTrees", spec := "packTrees", inPlace := ["slices.overlaps[pantile/slots.cell[*pantile/node.Node]]"], unfollowed := true, recurses := true, apart := false, narrowed := true }
def PackTreesUptoSaid : Prop := packTreesUptoRow.holds Tryz.pinned (OpenSpec.upto packTreesSpec)

/-- 'pantilelaw14.MergeNil', WHERE WHAT IT READS IS OF BULK AT MOST 1048576: true; the input reads as it did. -/
def mergeNilUptoRow : OpenClaim := { program := "ytdkomhmciihkiaagreat", sum := "5249dd058a6ab4681364816354f93bdc1a4a60842d86f5ad083b856278838af2", func := "pantile/pantilelaw14.MergeNil", spec := "mergeNil", inPlace := ["slices.overlaps[pantile/slots.cell[*pantile/node.Node]]"], unfollowed := true, recurses := true, apart := false, narrowed := true }
def MergeNilUptoSaid : Prop := mergeNilUptoRow.holds Tryz.pinned (OpenSpec.upto mergeNilSpec)

/-- 'pantilelaw14.MergeSides', WHERE WHAT IT READS IS OF BULK AT MOST 1048576: true; the input reads as it did. -/
def mergeSidesUptoRow : OpenClaim := { program := "ytdkomhmciihkiaagreat", sum := "5249dd058a6ab4681364816354f93bdc1a4a60842d86f5ad083b856278838af2", func := "pantile/pantilelaw14.MergeSides", spec := "mergeSides", inPlace := ["slices.overlaps[pantile/slots.cell[*pantile/node.Node]]"], unfollowed := true, recurses := true, apart := false, narrowed := true }
def MergeSidesUptoSaid : Prop := mergeSidesUptoRow.holds Tryz.pinned (OpenSpec.upto mergeSidesSpec)

/-- 'pantilelaw14.MergeThree', WHERE WHAT IT READS IS OF BULK AT MOST 1048576: true; the input reads as it did. -/
def mergeThreeUptoRow : OpenClaim := { program := "ytdkomhmciihkiaagreat", sum := "5249dd058a6ab4681364816354f93bdc1a4a60842d86f5ad083b856278838af2", func := "pantile/pantilelaw14.MergeThree", spec := "mergeThree", inPlace := ["slices.overlaps[pantile/slots.cell[*pantile/node.Node]]"], unfollowed := true, recurses := true, apart := false, narrowed := true }
def MergeThreeUptoSaid : Prop := mergeThreeUptoRow.holds Tryz.pinned (OpenSpec.upto mergeThreeSpec)

/-- 'pantilelaw14.MergeApart', WHERE WHAT IT READS IS OF BULK AT MOST 1048576: true; the input reads as it did. -/
def mergeApartUptoRow : OpenClaim := { program := "ytdkomhmciihkiaagreat", sum := "5249dd058a6ab4681364816354f93bdc1a4a60842d86f5ad083b856278838af2", func := "pantile/pantilelaw14.MergeApart", spec := "mergeApart", inPlace := ["slices.overlaps[pantile/slots.cell[*pantile/node.Node]]"], unfollowed := true, recurses := true, apart := false, narrowed := true }
def MergeApartUptoSaid : Prop := mergeApartUptoRow.holds Tryz.pinned (OpenSpec.upto mergeApartSpec)

/-- 'pantilelaw14.MergeEdits', WHERE WHAT IT READS IS OF BULK AT MOST 1048576: true; the input reads as it did. -/
def mergeEditsUptoRow : OpenClaim := { program := "ytdkomhmciihkiaagreat", sum := "5249dd058a6ab4681364816354f93bdc1a4a60842d86f5ad083b856278838af2", func := "pantile/pantilelaw14.MergeEdits", spec := "mergeEdits", inPlace := ["slices.overlaps[pantile/slots.cell[*pantile/node.Node]]"], unfollowed := true, recurses := true, apart := false, narrowed := true }
def MergeEditsUptoSaid : Prop := mergeEditsUptoRow.holds Tryz.pinned (OpenSpec.upto mergeEditsSpec)

/-- 'pantilelaw35.HistNil', WHERE WHAT IT READS IS OF BULK AT MOST 1048576: true; the input reads as it did. -/
def histNilUptoRow : OpenClaim := { program := "ytdkomhmciihkiaagreat", sum := "5249dd058a6ab4681364816354f93bdc1a4a60842d86f5ad083b856278838af2", func := "pantile/pantilelaw35.HistNil", spec := "histNil", inPlace := ["slices.overlaps[pantile/slots.cell[*pantile/node.Node]]", "math/bits.Sub64"], unfollowed := true, recurses := true, apart := false, narrowed := true }
def HistNilUptoSaid : Prop := histNilUptoRow.holds Tryz.pinned (OpenSpec.upto histNilSpec)

/-- 'pantilelaw35.HistSwaps', WHERE WHAT IT READS IS OF BULK AT MOST 1048576: true; the input reads as it did. -/
def histSwapsUptoRow : OpenClaim := { program := "ytdkomhmciihkiaagreat", sum := "5249dd058a6ab4681364816354f93bdc1a4a60842d86f5ad083b856278838af2", func := "pantile/pantilelaw35.HistSwaps", spec := "histSwaps", inPlace := ["slices.overlaps[pantile/slots.cell[*pantile/node.Node]]"], unfollowed := true, recurses := true, apart := false, narrowed := true }
def HistSwapsUptoSaid : Prop := histSwapsUptoRow.holds Tryz.pinned (OpenSpec.upto histSwapsSpec)

/-- 'pantilelaw35.HistValues', WHERE WHAT IT READS IS OF BULK AT MOST 1048576: true; the input reads as it did. -/
def histValuesUptoRow : OpenClaim := { program := "ytdkomhmciihkiaagreat", sum := "5249dd058a6ab4681364816354f93bdc1a4a60842d86f5ad083b856278838af2", func := "pantile/pantilelaw35.HistValues", spec := "histValues", inPlace := ["slices.overlaps[pantile/slots.cell[*pantile/node.Node]]", "math/bits.Sub64"], unfollowed := true, recurses := true, apart := false, narrowed := true }
def HistValuesUptoSaid : Prop := histValuesUptoRow.holds Tryz.pinned (OpenSpec.upto histValuesSpec)

end Rows
end Go.Proofs.YtdkomhmciihkiaaGreat
