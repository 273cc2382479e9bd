/-
  No cell of these rows narrows 'for every input' (looked for: loops, veiled, ifaces, maps, wideKeys, modest, calm, conditions, laid).
  DERIVED. THE GIVEN ROWS OF THIS SEAT. 12 by the template 'for every input the law returns true; each argument reads behind the call as it read before'; 0 by the template 'total and deterministic' (their statements: YtlmgabhdeeehmaaTotals.lean).
  GIVEN WITH THE SEED: the statements are not yours to turn. If you find one false, say at which input.
  Laid BY PROGRAM, IN A SANDBOX (cutbox-rows.mjs): the forced cells as the released guide's own fill.sh prints them over the translation 8a6a8db03be0883b… (all of the seat's roots in one cut). By AI agents, Wed Nov 11 2026. No macro, syntax, notation, axiom, sorry.
-/
import Derived.Test.YtlmgabhdeeehmaaChecked
import GoSem.Claim
import GoSem.ClaimJoined
import GoSem.ClaimMapViews
import Derived.JoinedTies
import Derived.KernelRfl
namespace Go.Proofs.Ytlmgabhdeeehmaa
/- THE CELL 'sum', in the pinned program and in every row, IS THE sha256 OF THE DUMP (.gsa) THAT YtlmgabhdeeehmaaProg.lean LOADS. Nothing in Lean hashes anything: it is a label: what it is worth is what the hold of that sum in a sandbox is worth. -/
noncomputable def Try.pinned : Pinned := { name := "ytlmgabhdeeehmaa", sum := "8a6a8db03be0883b0c062620ee6d9da24d36c945bd691d942f23a691b8cf5a89", checked := Try.checked }
namespace Rows
def none {H : Type} : Left H := { results := [], args := [] }

/-- 'pantilelaw27.PlaneNumbers': WHATEVER THE INPUT: true; the input reads as it did. -/
def planeNumbersSpec : ChangeSpec := { name := "planeNumbers", fn := fun _ => fun
  | [d1, d2, d3] => { results := [.lit (.bool true)], args := [d1, d2, d3] }
  | _ => none }
def planeNumbersRow : OpenClaim := { program := "ytlmgabhdeeehmaa", sum := "8a6a8db03be0883b0c062620ee6d9da24d36c945bd691d942f23a691b8cf5a89", func := "pantile/pantilelaw27.PlaneNumbers", spec := "planeNumbers", inPlace := ["math.archTrunc", "math.Float64bits", "math.Float64frombits"], apart := false }
def PlaneNumbersSaid : Prop := planeNumbersRow.holds Try.pinned (OpenSpec.ofChange planeNumbersSpec)

/-- ITS FALSE NEIGHBOUR: 'it returns false'. Refute it at one input. -/
def planeNumbersWrong : ChangeSpec := { name := "planeNumbers", fn := fun _ => fun
  | [d1, d2, d3] => { results := [.lit (.bool false)], args := [d1, d2, d3] }
  | _ => none }
def PlaneNumbersWrongFalsely : Prop := planeNumbersRow.holds Try.pinned (OpenSpec.ofChange planeNumbersWrong)

/-- 'pantilelaw27.PlaneMoves': WHATEVER THE INPUT: true; the input reads as it did. -/
def planeMovesSpec : ChangeSpec := { name := "planeMoves", fn := fun _ => fun
  | [d1, d2, d3] => { results := [.lit (.bool true)], args := [d1, d2, d3] }
  | _ => none }
def planeMovesRow : OpenClaim := { program := "ytlmgabhdeeehmaa", sum := "8a6a8db03be0883b0c062620ee6d9da24d36c945bd691d942f23a691b8cf5a89", func := "pantile/pantilelaw27.PlaneMoves", spec := "planeMoves", inPlace := ["math.archTrunc", "math.Float64bits", "math.Float64frombits"], apart := false }
def PlaneMovesSaid : Prop := planeMovesRow.holds Try.pinned (OpenSpec.ofChange planeMovesSpec)

/-- ITS FALSE NEIGHBOUR: 'it returns false'. Refute it at one input. -/
def planeMovesWrong : ChangeSpec := { name := "planeMoves", fn := fun _ => fun
  | [d1, d2, d3] => { results := [.lit (.bool false)], args := [d1, d2, d3] }
  | _ => none }
def PlaneMovesWrongFalsely : Prop := planeMovesRow.holds Try.pinned (OpenSpec.ofChange planeMovesWrong)

/-- 'pantilelaw27.PlaneGroup': WHATEVER THE INPUT: true; the input reads as it did. -/
def planeGroupSpec : ChangeSpec := { name := "planeGroup", fn := fun _ => fun
  | [d1, d2, d3] => { results := [.lit (.bool true)], args := [d1, d2, d3] }
  | _ => none }
def planeGroupRow : OpenClaim := { program := "ytlmgabhdeeehmaa", sum := "8a6a8db03be0883b0c062620ee6d9da24d36c945bd691d942f23a691b8cf5a89", func := "pantile/pantilelaw27.PlaneGroup", spec := "planeGroup", inPlace := ["math.archTrunc", "math.Float64bits", "math.Float64frombits"], apart := false }
def PlaneGroupSaid : Prop := planeGroupRow.holds Try.pinned (OpenSpec.ofChange planeGroupSpec)

/-- ITS FALSE NEIGHBOUR: 'it returns false'. Refute it at one input. -/
def planeGroupWrong : ChangeSpec := { name := "planeGroup", fn := fun _ => fun
  | [d1, d2, d3] => { results := [.lit (.bool false)], args := [d1, d2, d3] }
  | _ => none }
def PlaneGroupWrongFalsely : Prop := planeGroupRow.holds Try.pinned (OpenSpec.ofChange planeGroupWrong)

/-- 'pantilelaw30.CurveSteps': WHATEVER THE INPUT: true; the input reads as it did. -/
def curveStepsSpec : ChangeSpec := { name := "curveSteps", fn := fun _ => fun
  | [d1, d2] => { results := [.lit (.bool true)], args := [d1, d2] }
  | _ => none }
def curveStepsRow : OpenClaim := { program := "ytlmgabhdeeehmaa", sum := "8a6a8db03be0883b0c062620ee6d9da24d36c945bd691d942f23a691b8cf5a89", func := "pantile/pantilelaw30.CurveSteps", spec := "curveSteps", inPlace := ["math.archTrunc", "math.Float64bits", "math.Float64frombits"], unfollowed := true, recurses := true, apart := false }
def CurveStepsSaid : Prop := curveStepsRow.holds Try.pinned (OpenSpec.ofChange curveStepsSpec)

/-- ITS FALSE NEIGHBOUR: 'it returns false'. Refute it at one input. -/
def curveStepsWrong : ChangeSpec := { name := "curveSteps", fn := fun _ => fun
  | [d1, d2] => { results := [.lit (.bool false)], args := [d1, d2] }
  | _ => none }
def CurveStepsWrongFalsely : Prop := curveStepsRow.holds Try.pinned (OpenSpec.ofChange curveStepsWrong)

/-- 'pantilelaw30.CurvePlaces': WHATEVER THE INPUT: true; the input reads as it did. -/
def curvePlacesSpec : ChangeSpec := { name := "curvePlaces", fn := fun _ => fun
  | [d1, d2, d3] => { results := [.lit (.bool true)], args := [d1, d2, d3] }
  | _ => none }
def curvePlacesRow : OpenClaim := { program := "ytlmgabhdeeehmaa", sum := "8a6a8db03be0883b0c062620ee6d9da24d36c945bd691d942f23a691b8cf5a89", func := "pantile/pantilelaw30.CurvePlaces", spec := "curvePlaces", inPlace := ["math.archTrunc", "math.Float64bits", "math.Float64frombits"], unfollowed := true, recurses := true, apart := false }
def CurvePlacesSaid : Prop := curvePlacesRow.holds Try.pinned (OpenSpec.ofChange curvePlacesSpec)

/-- ITS FALSE NEIGHBOUR: 'it returns false'. Refute it at one input. -/
def curvePlacesWrong : ChangeSpec := { name := "curvePlaces", fn := fun _ => fun
  | [d1, d2, d3] => { results := [.lit (.bool false)], args := [d1, d2, d3] }
  | _ => none }
def CurvePlacesWrongFalsely : Prop := curvePlacesRow.holds Try.pinned (OpenSpec.ofChange curvePlacesWrong)

/-- 'pantilelaw30.CurveWalks': WHATEVER THE INPUT: true; the input reads as it did. -/
def curveWalksSpec : ChangeSpec := { name := "curveWalks", fn := fun _ => fun
  | [d1, d2, d3] => { results := [.lit (.bool true)], args := [d1, d2, d3] }
  | _ => none }
def curveWalksRow : OpenClaim := { program := "ytlmgabhdeeehmaa", sum := "8a6a8db03be0883b0c062620ee6d9da24d36c945bd691d942f23a691b8cf5a89", func := "pantile/pantilelaw30.CurveWalks", spec := "curveWalks", inPlace := ["math.archTrunc", "math.Float64bits", "math.Float64frombits"], unfollowed := true, recurses := true, apart := false }
def CurveWalksSaid : Prop := curveWalksRow.holds Try.pinned (OpenSpec.ofChange curveWalksSpec)

/-- ITS FALSE NEIGHBOUR: 'it returns false'. Refute it at one input. -/
def curveWalksWrong : ChangeSpec := { name := "curveWalks", fn := fun _ => fun
  | [d1, d2, d3] => { results := [.lit (.bool false)], args := [d1, d2, d3] }
  | _ => none }
def CurveWalksWrongFalsely : Prop := curveWalksRow.holds Try.pinned (OpenSpec.ofChange curveWalksWrong)

/-- 'pantilelaw13.EditThen': WHATEVER THE INPUT: true; the input reads as it did. -/
def editThenSpec : ChangeSpec := { name := "editThen", fn := fun _ => fun
  | [d1, d2, d3] => { results := [.lit (.bool true)], args := [d1, d2, d3] }
  | _ => none }
def editThenRow : OpenClaim := { program := "ytlmgabhdeeehmaa", sum := "8a6a8db03be0883b0c062620ee6d9da24d36c945bd691d942f23a691b8cf5a89", func := "pantile/pantilelaw13.EditThen", spec := "editThen", unfollowed := true, recurses := true, apart := false }
def EditThenSaid : Prop := editThenRow.holds Try.pinned (OpenSpec.ofChange editThenSpec)

/-- ITS FALSE NEIGHBOUR: 'it returns false'. Refute it at one input. -/
def editThenWrong : ChangeSpec := { name := "editThen", fn := fun _ => fun
  | [d1, d2, d3] => { results := [.lit (.bool false)], args := [d1, d2, d3] }
  | _ => none }
def EditThenWrongFalsely : Prop := editThenRow.holds Try.pinned (OpenSpec.ofChange editThenWrong)

/-- 'pantilelaw19.PackChanges': WHATEVER THE INPUT: true; the input reads as it did. -/
def packChangesSpec : ChangeSpec := { name := "packChanges", fn := fun _ => fun
  | [d1, d2] => { results := [.lit (.bool true)], args := [d1, d2] }
  | _ => none }
def packChangesRow : OpenClaim := { program := "ytlmgabhdeeehmaa", sum := "8a6a8db03be0883b0c062620ee6d9da24d36c945bd691d942f23a691b8cf5a89", func := "pantile/pantilelaw19.PackChanges", spec := "packChanges", unfollowed := true, recurses := true, apart := false }
def PackChangesSaid : Prop := packChangesRow.holds Try.pinned (OpenSpec.ofChange packChangesSpec)

/-- ITS FALSE NEIGHBOUR: 'it returns false'. Refute it at one input. -/
def packChangesWrong : ChangeSpec := { name := "packChanges", fn := fun _ => fun
  | [d1, d2] => { results := [.lit (.bool false)], args := [d1, d2] }
  | _ => none }
def PackChangesWrongFalsely : Prop := packChangesRow.holds Try.pinned (OpenSpec.ofChange packChangesWrong)

/-- 'pantilelaw29.HullIn': WHATEVER THE INPUT: true; the input reads as it did. -/
def hullInSpec : ChangeSpec := { name := "hullIn", fn := fun _ => fun
  | [d] => { results := [.lit (.bool true)], args := [d] }
  | _ => none }
def hullInRow : OpenClaim := { program := "ytlmgabhdeeehmaa", sum := "8a6a8db03be0883b0c062620ee6d9da24d36c945bd691d942f23a691b8cf5a89", func := "pantile/pantilelaw29.HullIn", spec := "hullIn", inPlace := ["math.archTrunc", "math.Float64bits", "math.Float64frombits"], unfollowed := true, recurses := true, apart := false }
def HullInSaid : Prop := hullInRow.holds Try.pinned (OpenSpec.ofChange hullInSpec)

/-- ITS FALSE NEIGHBOUR: 'it returns false'. Refute it at one input. -/
def hullInWrong : ChangeSpec := { name := "hullIn", fn := fun _ => fun
  | [d] => { results := [.lit (.bool false)], args := [d] }
  | _ => none }
def HullInWrongFalsely : Prop := hullInRow.holds Try.pinned (OpenSpec.ofChange hullInWrong)

/-- 'pantilelaw29.HullAgain': WHATEVER THE INPUT: true; the input reads as it did. -/
def hullAgainSpec : ChangeSpec := { name := "hullAgain", fn := fun _ => fun
  | [d] => { results := [.lit (.bool true)], args := [d] }
  | _ => none }
def hullAgainRow : OpenClaim := { program := "ytlmgabhdeeehmaa", sum := "8a6a8db03be0883b0c062620ee6d9da24d36c945bd691d942f23a691b8cf5a89", func := "pantile/pantilelaw29.HullAgain", spec := "hullAgain", inPlace := ["math.archTrunc", "math.Float64bits", "math.Float64frombits"], unfollowed := true, recurses := true, apart := false }
def HullAgainSaid : Prop := hullAgainRow.holds Try.pinned (OpenSpec.ofChange hullAgainSpec)

/-- ITS FALSE NEIGHBOUR: 'it returns false'. Refute it at one input. -/
def hullAgainWrong : ChangeSpec := { name := "hullAgain", fn := fun _ => fun
  | [d] => { results := [.lit (.bool false)], args := [d] }
  | _ => none }
def HullAgainWrongFalsely : Prop := hullAgainRow.holds Try.pinned (OpenSpec.ofChange hullAgainWrong)

/-- 'pantilelaw29.HullOf': WHATEVER THE INPUT: true; the input reads as it did. -/
def hullOfSpec : ChangeSpec := { name := "hullOf", fn := fun _ => fun
  | [d] => { results := [.lit (.bool true)], args := [d] }
  | _ => none }
def hullOfRow : OpenClaim := { program := "ytlmgabhdeeehmaa", sum := "8a6a8db03be0883b0c062620ee6d9da24d36c945bd691d942f23a691b8cf5a89", func := "pantile/pantilelaw29.HullOf", spec := "hullOf", inPlace := ["math.archTrunc", "math.Float64bits", "math.Float64frombits"], unfollowed := true, recurses := true, apart := false }
def HullOfSaid : Prop := hullOfRow.holds Try.pinned (OpenSpec.ofChange hullOfSpec)

/-- ITS FALSE NEIGHBOUR: 'it returns false'. Refute it at one input. -/
def hullOfWrong : ChangeSpec := { name := "hullOf", fn := fun _ => fun
  | [d] => { results := [.lit (.bool false)], args := [d] }
  | _ => none }
def HullOfWrongFalsely : Prop := hullOfRow.holds Try.pinned (OpenSpec.ofChange hullOfWrong)

/-- 'pantilelaw18.DigestParts': WHATEVER THE INPUT: true; the input reads as it did. -/
def digestPartsSpec : ChangeSpec := { name := "digestParts", fn := fun _ => fun
  | [d1, d2, d3, d4] => { results := [.lit (.bool true)], args := [d1, d2, d3, d4] }
  | _ => none }
def digestPartsRow : OpenClaim := { program := "ytlmgabhdeeehmaa", sum := "8a6a8db03be0883b0c062620ee6d9da24d36c945bd691d942f23a691b8cf5a89", func := "pantile/pantilelaw18.DigestParts", spec := "digestParts", inPlace := ["slices.overlaps[pantile/slots.cell[*pantile/node.Node]]"], unfollowed := true, recurses := true, apart := false }
def DigestPartsSaid : Prop := digestPartsRow.holds Try.pinned (OpenSpec.ofChange digestPartsSpec)

/-- ITS FALSE NEIGHBOUR: 'it returns false'. Refute it at one input. -/
def digestPartsWrong : ChangeSpec := { name := "digestParts", fn := fun _ => fun
  | [d1, d2, d3, d4] => { results := [.lit (.bool false)], args := [d1, d2, d3, d4] }
  | _ => none }
def DigestPartsWrongFalsely : Prop := digestPartsRow.holds Try.pinned (OpenSpec.ofChange digestPartsWrong)

/- THE SECOND FORM. 'bulk': how many values and letters a reading holds, each counted each time it is reached (what is shared counts as often as it is met; a slice's spare places count too). A statement '..UptoSaid' is the law's where the arguments, and the package variables that the reading takes, are together of bulk at most 1048576: NARROWER than '..Said'. Prove '..Said' where nothing that the law and all that it calls make is longer than what came in: it says more and counts as full. Else prove '..UptoSaid'. A law counts once. -/
mutual
def uptoBulk {H : Type} : DataW H → Nat
  | .lit (.string bytes) => bytes.length + 1
  | .lit _ => 1
  | .nil => 1
  | .ptr d => uptoBulk d + 1
  | .slice elems spare => uptoBulkAll elems + uptoBulkAll spare + 1
  | .agg parts => uptoBulkAll parts + 1
  | .iface _ d => uptoBulk d + 1
  | .map entries => uptoBulkEntries entries + 1
  | .held _ => 1
def uptoBulkAll {H : Type} : List (DataW H) → Nat
  | [] => 0
  | d :: r => uptoBulk d + uptoBulkAll r
def uptoBulkEntries {H : Type} : List (Lit × DataW H) → Nat
  | [] => 0
  | x :: r => uptoBulkEntry x + uptoBulkEntries r
def uptoBulkEntry {H : Type} : Lit × DataW H → Nat
  | (.string bytes, d) => bytes.length + uptoBulk d + 1
  | (_, d) => uptoBulk d + 1
 end
def uptoSmall : (H : Type) → List (DataW H) → Bool := fun _ ds => decide (uptoBulkAll ds ≤ 1048576)
def OpenSpec.upto (s : _root_.Go.ChangeSpec) : _root_.Go.OpenSpec := { _root_.Go.OpenSpec.ofChange s with cond := some uptoSmall }

/-- 'pantilelaw27.PlaneNumbers', WHERE WHAT IT READS IS OF BULK AT MOST 1048576: true; the input reads as it did. -/
def planeNumbersUptoRow : OpenClaim := { program := "ytlmgabhdeeehmaa", sum := "8a6a8db03be0883b0c062620ee6d9da24d36c945bd691d942f23a691b8cf5a89", func := "pantile/pantilelaw27.PlaneNumbers", spec := "planeNumbers", inPlace := ["math.archTrunc", "math.Float64bits", "math.Float64frombits"], apart := false, narrowed := true }
def PlaneNumbersUptoSaid : Prop := planeNumbersUptoRow.holds Try.pinned (OpenSpec.upto planeNumbersSpec)

/-- 'pantilelaw27.PlaneMoves', WHERE WHAT IT READS IS OF BULK AT MOST 1048576: true; the input reads as it did. -/
def planeMovesUptoRow : OpenClaim := { program := "ytlmgabhdeeehmaa", sum := "8a6a8db03be0883b0c062620ee6d9da24d36c945bd691d942f23a691b8cf5a89", func := "pantile/pantilelaw27.PlaneMoves", spec := "planeMoves", inPlace := ["math.archTrunc", "math.Float64bits", "math.Float64frombits"], apart := false, narrowed := true }
def PlaneMovesUptoSaid : Prop := planeMovesUptoRow.holds Try.pinned (OpenSpec.upto planeMovesSpec)

/-- 'pantilelaw27.PlaneGroup', WHERE WHAT IT READS IS OF BULK AT MOST 1048576: true; the input reads as it did. -/
def planeGroupUptoRow : OpenClaim := { program := "ytlmgabhdeeehmaa", sum := "8a6a8db03be0883b0c062620ee6d9da24d36c945bd691d942f23a691b8cf5a89", func := "pantile/pantilelaw27.PlaneGroup", spec := "planeGroup", inPlace := ["math.archTrunc", "math.Float64bits", "math.Float64frombits"], apart := false, narrowed := true }
def PlaneGroupUptoSaid : Prop := planeGroupUptoRow.holds Try.pinned (OpenSpec.upto planeGroupSpec)

/-- 'pantilelaw30.CurveSteps', WHERE WHAT IT READS IS OF BULK AT MOST 1048576: true; the input reads as it did. -/
def curveStepsUptoRow : OpenClaim := { program := "ytlmgabhdeeehmaa", sum := "8a6a8db03be0883b0c062620ee6d9da24d36c945bd691d942f23a691b8cf5a89", func := "pantile/pantilelaw30.CurveSteps", spec := "curveSteps", inPlace := ["math.archTrunc", "math.Float64bits", "math.Float64frombits"], unfollowed := true, recurses := true, apart := false, narrowed := true }
def CurveStepsUptoSaid : Prop := curveStepsUptoRow.holds Try.pinned (OpenSpec.upto curveStepsSpec)

/-- 'pantilelaw30.CurvePlaces', WHERE WHAT IT READS IS OF BULK AT MOST 1048576: true; the input reads as it did. -/
def curvePlacesUptoRow : OpenClaim := { program := "ytlmgabhdeeehmaa", sum := "8a6a8db03be0883b0c062620ee6d9da24d36c945bd691d942f23a691b8cf5a89", func := "pantile/pantilelaw30.CurvePlaces", spec := "curvePlaces", inPlace := ["math.archTrunc", "math.Float64bits", "math.Float64frombits"], unfollowed := true, recurses := true, apart := false, narrowed := true }
def CurvePlacesUptoSaid : Prop := curvePlacesUptoRow.holds Try.pinned (OpenSpec.upto curvePlacesSpec)

/-- 'pantilelaw30.CurveWalks', WHERE WHAT IT READS IS OF BULK AT MOST 1048576: true; the input reads as it did. -/
def curveWalksUptoRow : OpenClaim := { program := "ytlmgabhdeeehmaa", sum := "8a6a8db03be0883b0c062620ee6d9da24d36c945bd691d942f23a691b8cf5a89", func := "pantile/pantilelaw30.CurveWalks", spec := "curveWalks", inPlace := ["math.archTrunc", "math.Float64bits", "math.Float64frombits"], unfollowed := true, recurses := true, apart := false, narrowed := true }
def CurveWalksUptoSaid : Prop := curveWalksUptoRow.holds Try.pinned (OpenSpec.upto curveWalksSpec)

/-- 'pantilelaw13.EditThen', WHERE WHAT IT READS IS OF BULK AT MOST 1048576: true; the input reads as it did. -/
def editThenUptoRow : OpenClaim := { program := "ytlmgabhdeeehmaa", sum := "8a6a8db03be0883b0c062620ee6d9da24d36c945bd691d942f23a691b8cf5a89", func := "pantile/pantilelaw13.EditThen", spec := "editThen", unfollowed := true, recurses := true, apart := false, narrowed := true }
def EditThenUptoSaid : Prop := editThenUptoRow.holds Try.pinned (OpenSpec.upto editThenSpec)

/-- 'pantilelaw19.PackChanges', WHERE WHAT IT READS IS OF BULK AT MOST 1048576: true; the input reads as it did. -/
def packChangesUptoRow : OpenClaim := { program := "ytlmgabhdeeehmaa", sum := "8a6a8db03be0883b0c062620ee6d9da24d36c945bd691d942f23a691b8cf5a89", func := "pantile/pantilelaw19.PackChanges", spec := "packChanges", unfollowed := true, recurses := true, apart := false, narrowed := true }
def PackChangesUptoSaid : Prop := packChangesUptoRow.holds Try.pinned (OpenSpec.upto packChangesSpec)

/-- 'pantilelaw29.HullIn', WHERE WHAT IT READS IS OF BULK AT MOST 1048576: true; the input reads as it did. -/
def hullInUptoRow : OpenClaim := { program := "ytlmgabhdeeehmaa", sum := "8a6a8db03be0883b0c062620ee6d9da24d36c945bd691d942f23a691b8cf5a89", func := "pantile/pantilelaw29.HullIn", spec := "hullIn", inPlace := ["math.archTrunc", "math.Float64bits", "math.Float64frombits"], unfollowed := true, recurses := true, apart := false, narrowed := true }
def HullInUptoSaid : Prop := hullInUptoRow.holds Try.pinned (OpenSpec.upto hullInSpec)

/-- 'pantilelaw29.HullAgain', WHERE WHAT IT READS IS OF BULK AT MOST 1048576: true; the input reads as it did. -/
def hullAgainUptoRow : OpenClaim := { program := "ytlmgabhdeeehmaa", sum := "8a6a8db03be0883b0c062620ee6d9da24d36c945bd691d942f23a691b8cf5a89", func := "pantile/pantilelaw29.HullAgain", spec := "hullAgain", inPlace := ["math.archTrunc", "math.Float64bits", "math.Float64frombits"], unfollowed := true, recurses := true, apart := false, narrowed := true }
def HullAgainUptoSaid : Prop := hullAgainUptoRow.holds Try.pinned (OpenSpec.upto hullAgainSpec)

/-- 'pantilelaw29.HullOf', WHERE WHAT IT READS IS OF BULK AT MOST 1048576: true; the input reads as it did. -/
def hullOfUptoRow : OpenClaim := { program := "ytlmgabhdeeehmaa", sum := "8a6a8db03be0883b0c062620ee6d9da24d36c945bd691d942f23a691b8cf5a89", func := "pantile/pantilelaw29.HullOf", spec := "hullOf", inPlace := ["math.archTrunc", "math.Float64bits", "math.Float64frombits"], unfollowed := true, recurses := true, apart := false, narrowed := true }
def HullOfUptoSaid : Prop := hullOfUptoRow.holds Try.pinned (OpenSpec.upto hullOfSpec)

/-- 'pantilelaw18.DigestParts', WHERE WHAT IT READS IS OF BULK AT MOST 1048576: true; the input reads as it did. -/
def digestPartsUptoRow : OpenClaim := { program := "ytlmgabhdeeehmaa", sum := "8a6a8db03be0883b0c062620ee6d9da24d36c945bd691d942f23a691b8cf5a89", func := "pantile/pantilelaw18.DigestParts", spec := "digestParts", inPlace := ["slices.overlaps[pantile/slots.cell[*pantile/node.Node]]"], unfollowed := true, recurses := true, apart := false, narrowed := true }
def DigestPartsUptoSaid : Prop := digestPartsUptoRow.holds Try.pinned (OpenSpec.upto digestPartsSpec)

end Rows
end Go.Proofs.Ytlmgabhdeeehmaa
