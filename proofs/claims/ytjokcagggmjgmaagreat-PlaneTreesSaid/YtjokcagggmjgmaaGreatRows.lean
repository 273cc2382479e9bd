/-
  No cell of these rows narrows 'for every input' (looked for: loops, veiled, ifaces, maps, wideKeys, modest, calm, conditions, laid).
  DERIVED. THE GIVEN ROWS OF THIS SEAT. 8 by the template 'for every input the law returns true; each argument reads behind the call as it read before'; 0 by the template 'total and deterministic' (their statements: YtjokcagggmjgmaaGreatTotals.lean).
  GIVEN WITH THE SEED: the statements are not yours to turn. If you find one false, say at which input.
  Laid BY PROGRAM, IN A SANDBOX (cutbox-rows.mjs): the forced cells as the released guide's own fill.sh prints them over the translation 8652cfc99250ff5b… (all of the seat's roots in one cut). By AI agents, Wed Nov 11 2026. No macro, syntax, notation, axiom, sorry.
-/
import Derived.Test.YtjokcagggmjgmaaGreatChecked
import GoSem.Claim
import GoSem.ClaimJoined
import GoSem.ClaimMapViews
import Derived.JoinedTies
import Derived.KernelRfl
namespace Go.Proofs.YtjokcagggmjgmaaGreat
/- THE CELL 'sum', in the pinned program and in every row, IS THE sha256 OF THE DUMP (.gsa) THAT YtjokcagggmjgmaaGreatProg.lean LOADS. Nothing in Lean hashes anything: it is a label: what it is worth is what the hold of that sum in a sandbox is worth. -/
noncomputable def Tryz.pinned : Pinned := { name := "ytjokcagggmjgmaagreat", sum := "8652cfc99250ff5bc0f3e535df82441e5af6be69b6845a861265b9e4e2d8b5b1", checked := Tryz.checked }
namespace Rows
def none {H : Type} : Left H := { results := [], args := [] }

/-- 'pantilelaw13.EditDoes': WHATEVER THE INPUT: true; the input reads as it did. -/
def editDoesSpec : ChangeSpec := { name := "editDoes", fn := fun _ => fun
  | [d1, d2, d3] => { results := [.lit (.bool true)], args := [d1, d2, d3] }
  | _ => none }
def editDoesRow : OpenClaim := { program := "ytjokcagggmjgmaagreat", sum := "8652cfc99250ff5bc0f3e535df82441e5af6be69b6845a861265b9e4e2d8b5b1", func := "pantile/pantilelaw13.EditDoes", spec := "editDoes", inPlace := ["slices.overlaps[pantile/slots.cell[*pantile/node.Node]]"], unfollowed := true, recurses := true, apart := false }
def EditDoesSaid : Prop := editDoesRow.holds Tryz.pinned (OpenSpec.ofChange editDoesSpec)

/-- ITS FALSE NEIGHBOUR: 'it returns false'. Refute it at one input. -/
def editDoesWrong : ChangeSpec := { name := "editDoes", fn := fun _ => fun
  | [d1, d2, d3] => { results := [.lit (.bool false)], args := [d1, d2, d3] }
  | _ => none }
def EditDoesWrongFalsely : Prop := editDoesRow.holds Tryz.pinned (OpenSpec.ofChange editDoesWrong)

/-- 'pantilelaw16.BulkMakes': WHATEVER THE INPUT: true; the input reads as it did. -/
def bulkMakesSpec : ChangeSpec := { name := "bulkMakes", fn := fun _ => fun
  | [d1, d2, d3] => { results := [.lit (.bool true)], args := [d1, d2, d3] }
  | _ => none }
def bulkMakesRow : OpenClaim := { program := "ytjokcagggmjgmaagreat", sum := "8652cfc99250ff5bc0f3e535df82441e5af6be69b6845a861265b9e4e2d8b5b1", func := "pantile/pantilelaw16.BulkMakes", spec := "bulkMakes", inPlace := ["slices.overlaps[pantile/slots.cell[*pantile/node.Node]]"], unfollowed := true, recurses := true, apart := false }
def BulkMakesSaid : Prop := bulkMakesRow.holds Tryz.pinned (OpenSpec.ofChange bulkMakesSpec)

/-- ITS FALSE NEIGHBOUR: 'it returns false'. Refute it at one input. -/
def bulkMakesWrong : ChangeSpec := { name := "bulkMakes", fn := fun _ => fun
  | [d1, d2, d3] => { results := [.lit (.bool false)], args := [d1, d2, d3] }
  | _ => none }
def BulkMakesWrongFalsely : Prop := bulkMakesRow.holds Tryz.pinned (OpenSpec.ofChange bulkMakesWrong)

/-- 'pantilelaw16.BulkDels': WHATEVER THE INPUT: true; the input reads as it did. -/
def bulkDelsSpec : ChangeSpec := { name := "bulkDels", fn := fun _ => fun
  | [d1, d2, d3] => { results := [.lit (.bool true)], args := [d1, d2, d3] }
  | _ => none }
def bulkDelsRow : OpenClaim := { program := "ytjokcagggmjgmaagreat", sum := "8652cfc99250ff5bc0f3e535df82441e5af6be69b6845a861265b9e4e2d8b5b1", func := "pantile/pantilelaw16.BulkDels", spec := "bulkDels", inPlace := ["slices.overlaps[pantile/slots.cell[*pantile/node.Node]]"], unfollowed := true, recurses := true, apart := false }
def BulkDelsSaid : Prop := bulkDelsRow.holds Tryz.pinned (OpenSpec.ofChange bulkDelsSpec)

/-- ITS FALSE NEIGHBOUR: 'it returns false'. Refute it at one input. -/
def bulkDelsWrong : ChangeSpec := { name := "bulkDels", fn := fun _ => fun
  | [d1, d2, d3] => { results := [.lit (.bool false)], args := [d1, d2, d3] }
  | _ => none }
def BulkDelsWrongFalsely : Prop := bulkDelsRow.holds Tryz.pinned (OpenSpec.ofChange bulkDelsWrong)

/-- 'pantilelaw16.BulkTurns': WHATEVER THE INPUT: true; the input reads as it did. -/
def bulkTurnsSpec : ChangeSpec := { name := "bulkTurns", fn := fun _ => fun
  | [d1, d2] => { results := [.lit (.bool true)], args := [d1, d2] }
  | _ => none }
def bulkTurnsRow : OpenClaim := { program := "ytjokcagggmjgmaagreat", sum := "8652cfc99250ff5bc0f3e535df82441e5af6be69b6845a861265b9e4e2d8b5b1", func := "pantile/pantilelaw16.BulkTurns", spec := "bulkTurns", inPlace := ["slices.overlaps[pantile/slots.cell[*pantile/node.Node]]"], unfollowed := true, recurses := true, apart := false }
def BulkTurnsSaid : Prop := bulkTurnsRow.holds Tryz.pinned (OpenSpec.ofChange bulkTurnsSpec)

/-- ITS FALSE NEIGHBOUR: 'it returns false'. Refute it at one input. -/
def bulkTurnsWrong : ChangeSpec := { name := "bulkTurns", fn := fun _ => fun
  | [d1, d2] => { results := [.lit (.bool false)], args := [d1, d2] }
  | _ => none }
def BulkTurnsWrongFalsely : Prop := bulkTurnsRow.holds Tryz.pinned (OpenSpec.ofChange bulkTurnsWrong)

/-- 'pantilelaw13.EditDiffs': WHATEVER THE INPUT: true; the input reads as it did. -/
def editDiffsSpec : ChangeSpec := { name := "editDiffs", fn := fun _ => fun
  | [d1, d2, d3] => { results := [.lit (.bool true)], args := [d1, d2, d3] }
  | _ => none }
def editDiffsRow : OpenClaim := { program := "ytjokcagggmjgmaagreat", sum := "8652cfc99250ff5bc0f3e535df82441e5af6be69b6845a861265b9e4e2d8b5b1", func := "pantile/pantilelaw13.EditDiffs", spec := "editDiffs", inPlace := ["slices.overlaps[pantile/slots.cell[*pantile/node.Node]]"], unfollowed := true, recurses := true, apart := false }
def EditDiffsSaid : Prop := editDiffsRow.holds Tryz.pinned (OpenSpec.ofChange editDiffsSpec)

/-- ITS FALSE NEIGHBOUR: 'it returns false'. Refute it at one input. -/
def editDiffsWrong : ChangeSpec := { name := "editDiffs", fn := fun _ => fun
  | [d1, d2, d3] => { results := [.lit (.bool false)], args := [d1, d2, d3] }
  | _ => none }
def EditDiffsWrongFalsely : Prop := editDiffsRow.holds Tryz.pinned (OpenSpec.ofChange editDiffsWrong)

/-- 'pantilelaw16.BulkMaps': WHATEVER THE INPUT: true; the input reads as it did. -/
def bulkMapsSpec : ChangeSpec := { name := "bulkMaps", fn := fun _ => fun
  | [d1, d2, d3, d4, d5, d6] => { results := [.lit (.bool true)], args := [d1, d2, d3, d4, d5, d6] }
  | _ => none }
def bulkMapsRow : OpenClaim := { program := "ytjokcagggmjgmaagreat", sum := "8652cfc99250ff5bc0f3e535df82441e5af6be69b6845a861265b9e4e2d8b5b1", func := "pantile/pantilelaw16.BulkMaps", spec := "bulkMaps", inPlace := ["slices.overlaps[pantile/slots.cell[*pantile/node.Node]]"], unfollowed := true, recurses := true, apart := false }
def BulkMapsSaid : Prop := bulkMapsRow.holds Tryz.pinned (OpenSpec.ofChange bulkMapsSpec)

/-- ITS FALSE NEIGHBOUR: 'it returns false'. Refute it at one input. -/
def bulkMapsWrong : ChangeSpec := { name := "bulkMaps", fn := fun _ => fun
  | [d1, d2, d3, d4, d5, d6] => { results := [.lit (.bool false)], args := [d1, d2, d3, d4, d5, d6] }
  | _ => none }
def BulkMapsWrongFalsely : Prop := bulkMapsRow.holds Tryz.pinned (OpenSpec.ofChange bulkMapsWrong)

/-- 'pantilelaw16.BulkNil': WHATEVER THE INPUT: true; the input reads as it did. -/
def bulkNilSpec : ChangeSpec := { name := "bulkNil", fn := fun _ => fun
  | [d1, d2] => { results := [.lit (.bool true)], args := [d1, d2] }
  | _ => none }
def bulkNilRow : OpenClaim := { program := "ytjokcagggmjgmaagreat", sum := "8652cfc99250ff5bc0f3e535df82441e5af6be69b6845a861265b9e4e2d8b5b1", func := "pantile/pantilelaw16.BulkNil", spec := "bulkNil", inPlace := ["slices.overlaps[pantile/slots.cell[*pantile/node.Node]]"], unfollowed := true, recurses := true, apart := false }
def BulkNilSaid : Prop := bulkNilRow.holds Tryz.pinned (OpenSpec.ofChange bulkNilSpec)

/-- ITS FALSE NEIGHBOUR: 'it returns false'. Refute it at one input. -/
def bulkNilWrong : ChangeSpec := { name := "bulkNil", fn := fun _ => fun
  | [d1, d2] => { results := [.lit (.bool false)], args := [d1, d2] }
  | _ => none }
def BulkNilWrongFalsely : Prop := bulkNilRow.holds Tryz.pinned (OpenSpec.ofChange bulkNilWrong)

/-- 'pantilelaw27.PlaneTrees': WHATEVER THE INPUT: true; the input reads as it did. -/
def planeTreesSpec : ChangeSpec := { name := "planeTrees", fn := fun _ => fun
  | [d1, d2, d3] => { results := [.lit (.bool true)], args := [d1, d2, d3] }
  | _ => none }
def planeTreesRow : OpenClaim := { program := "ytjokcagggmjgmaagreat", sum := "8652cfc99250ff5bc0f3e535df82441e5af6be69b6845a861265b9e4e2d8b5b1", func := "pantile/pantilelaw27.PlaneTrees", spec := "planeTrees", inPlace := ["math.archTrunc", "math.Float64bits", "math.Float64frombits", "slices.overlaps[pantile/slots.cell[*pantile/node.Node]]"], unfollowed := true, recurses := true, apart := false }
def PlaneTreesSaid : Prop := planeTreesRow.holds Tryz.pinned (OpenSpec.ofChange planeTreesSpec)

/-- ITS FALSE NEIGHBOUR: 'it returns false'. Refute it at one input. -/
def planeTreesWrong : ChangeSpec := { name := "planeTrees", fn := fun _ => fun
  | [d1, d2, d3] => { results := [.lit (.bool false)], args := [d1, d2, d3] }
  | _ => none }
def PlaneTreesWrongFalsely : Prop := planeTreesRow.holds Tryz.pinned (OpenSpec.ofChange planeTreesWrong)

/- THE SECOND FORM. 'bulk': how many values and letters a reading holds, each counted each time it is reached (what is shared counts as often as it is met; a slice's spare places count too). A statement '..UptoSaid' is the law's where the arguments, and the package variables that the reading takes, are together of bulk at most 1048576: NARROWER than '..Said'. Prove '..Said' where nothing that the law and all that it calls make is longer than what came in: it says more and counts as full. Else prove '..UptoSaid'. A law counts once. -/
mutual
def uptoBulk {H : Type} : DataW H → Nat
  | .lit (.string bytes) => bytes.length + 1
  | .lit _ => 1
  | .nil => 1
  | .ptr d => uptoBulk d + 1
  | .slice elems spare => uptoBulkAll elems + uptoBulkAll spare + 1
  | .agg parts => uptoBulkAll parts + 1
  | .iface _ d => uptoBulk d + 1
  | .map entries => uptoBulkEntries entries + 1
  | .held _ => 1
def uptoBulkAll {H : Type} : List (DataW H) → Nat
  | [] => 0
  | d :: r => uptoBulk d + uptoBulkAll r
def uptoBulkEntries {H : Type} : List (Lit × DataW H) → Nat
  | [] => 0
  | x :: r => uptoBulkEntry x + uptoBulkEntries r
def uptoBulkEntry {H : Type} : Lit × DataW H → Nat
  | (.string bytes, d) => bytes.length + uptoBulk d + 1
  | (_, d) => uptoBulk d + 1
 end
def uptoSmall : (H : Type) → List (DataW H) → Bool := fun _ ds => decide (uptoBulkAll ds ≤ 1048576)
def OpenSpec.upto (s : _root_.Go.ChangeSpec) : _root_.Go.OpenSpec := { _root_.Go.OpenSpec.ofChange s with cond := some uptoSmall }

/-- 'pantilelaw13.EditDoes', WHERE WHAT IT READS IS OF BULK AT MOST 1048576: true; the input reads as it did. -/
def editDoesUptoRow : OpenClaim := { program := "ytjokcagggmjgmaagreat", sum := "8652cfc99250ff5bc0f3e535df82441e5af6be69b6845a861265b9e4e2d8b5b1", func := "pantile/pantilelaw13.EditDoes", spec := "editDoes", inPlace := ["slices.overlaps[pantile/slots.cell[*pantile/node.Node]]"], unfollowed := true, recurses := true, apart := false, narrowed := true }
def EditDoesUptoSaid : Prop := editDoesUptoRow.holds Tryz.pinned (OpenSpec.upto editDoesSpec)

/-- 'pantilelaw16.BulkMakes', WHERE WHAT IT READS IS OF BULK AT MOST 1048576: true; the input reads as it did. -/
def bulkMakesUptoRow : OpenClaim := { program := "ytjokcagggmjgmaagreat", sum := "8652cfc99250ff5bc0f3e535df82441e5af6be69b6845a861265b9e4e2d8b5b1", func := "pantile/pantilelaw16.BulkMakes", spec := "bulkMakes", inPlace := ["slices.overlaps[pantile/slots.cell[*pantile/node.Node]]"], unfollowed := true, recurses := true, apart := false, narrowed := true }
def BulkMakesUptoSaid : Prop := bulkMakesUptoRow.holds Tryz.pinned (OpenSpec.upto bulkMakesSpec)

/-- 'pantilelaw16.BulkDels', WHERE WHAT IT READS IS OF BULK AT MOST 1048576: true; the input reads as it did. -/
def bulkDelsUptoRow : OpenClaim := { program := "ytjokcagggmjgmaagreat", sum := "8652cfc99250ff5bc0f3e535df82441e5af6be69b6845a861265b9e4e2d8b5b1", func := "pantile/pantilelaw16.BulkDels", spec := "bulkDels", inPlace := ["slices.overlaps[pantile/slots.cell[*pantile/node.Node]]"], unfollowed := true, recurses := true, apart := false, narrowed := true }
def BulkDelsUptoSaid : Prop := bulkDelsUptoRow.holds Tryz.pinned (OpenSpec.upto bulkDelsSpec)

/-- 'pantilelaw16.BulkTurns', WHERE WHAT IT READS IS OF BULK AT MOST 1048576: true; the input reads as it did. -/
def bulkTurnsUptoRow : OpenClaim := { program := "ytjokcagggmjgmaagreat", sum := "8652cfc99250ff5bc0f3e535df82441e5af6be69b6845a861265b9e4e2d8b5b1", func := "pantile/pantilelaw16.BulkTurns", spec := "bulkTurns", inPlace := ["slices.overlaps[pantile/slots.cell[*pantile/node.Node]]"], unfollowed := true, recurses := true, apart := false, narrowed := true }
def BulkTurnsUptoSaid : Prop := bulkTurnsUptoRow.holds Tryz.pinned (OpenSpec.upto bulkTurnsSpec)

/-- 'pantilelaw13.EditDiffs', WHERE WHAT IT READS IS OF BULK AT MOST 1048576: true; the input reads as it did. -/
def editDiffsUptoRow : OpenClaim := { program := "ytjokcagggmjgmaagreat", sum := "8652cfc99250ff5bc0f3e535df82441e5af6be69b6845a861265b9e4e2d8b5b1", func := "pantile/pantilelaw13.EditDiffs", spec := "editDiffs", inPlace := ["slices.overlaps[pantile/slots.cell[*pantile/node.Node]]"], unfollowed := true, recurses := true, apart := false, narrowed := true }
def EditDiffsUptoSaid : Prop := editDiffsUptoRow.holds Tryz.pinned (OpenSpec.upto editDiffsSpec)

/-- 'pantilelaw16.BulkMaps', WHERE WHAT IT READS IS OF BULK AT MOST 1048576: true; the input reads as it did. -/
def bulkMapsUptoRow : OpenClaim := { program := "ytjokcagggmjgmaagreat", sum := "8652cfc99250ff5bc0f3e535df82441e5af6be69b6845a861265b9e4e2d8b5b1", func := "pantile/pantilelaw16.BulkMaps", spec := "bulkMaps", inPlace := ["slices.overlaps[pantile/slots.cell[*pantile/node.Node]]"], unfollowed := true, recurses := true, apart := false, narrowed := true }
def BulkMapsUptoSaid : Prop := bulkMapsUptoRow.holds Tryz.pinned (OpenSpec.upto bulkMapsSpec)

/-- 'pantilelaw16.BulkNil', WHERE WHAT IT READS IS OF BULK AT MOST 1048576: true; the input reads as it did. -/
def bulkNilUptoRow : OpenClaim := { program := "ytjokcagggmjgmaagreat", sum := "8652cfc99250ff5bc0f3e535df82441e5af6be69b6845a861265b9e4e2d8b5b1", func := "pantile/pantilelaw16.BulkNil", spec := "bulkNil", inPlace := ["slices.overlaps[pantile/slots.cell[*pantile/node.Node]]"], unfollowed := true, recurses := true, apart := false, narrowed := true }
def BulkNilUptoSaid : Prop := bulkNilUptoRow.holds Tryz.pinned (OpenSpec.upto bulkNilSpec)

/-- 'pantilelaw27.PlaneTrees', WHERE WHAT IT READS IS OF BULK AT MOST 1048576: true; the input reads as it did. -/
def planeTreesUptoRow : OpenClaim := { program := "ytjokcagggmjgmaagreat", sum := "8652cfc99250ff5bc0f3e535df82441e5af6be69b6845a861265b9e4e2d8b5b1", func := "pantile/pantilelaw27.PlaneTrees", spec := "planeTrees", inPlace := ["math.archTrunc", "math.Float64bits", "math.Float64frombits", "slices.overlaps[pantile/slots.cell[*pantile/node.Node]]"], unfollowed := true, recurses := true, apart := false, narrowed := true }
def PlaneTreesUptoSaid : Prop := planeTreesUptoRow.holds Tryz.pinned (OpenSpec.upto planeTreesSpec)

end Rows
end Go.Proofs.YtjokcagggmjgmaaGreat
