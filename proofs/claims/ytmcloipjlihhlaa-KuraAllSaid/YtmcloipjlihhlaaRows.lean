/-
  No cell of these rows narrows 'for every input' (looked for: loops, veiled, ifaces, maps, wideKeys, modest, calm, conditions, laid).
  DERIVED. THE GIVEN ROWS OF THIS SEAT. 24 by the template 'for every input the law returns true; each argument reads behind the call as it read before'; 0 by the template 'total and deterministic' (their statements: YtmcloipjlihhlaaTotals.lean).
  GIVEN WITH THE SEED: the statements are not yours to turn. If you find one false, say at which input.
  Laid BY PROGRAM, IN A SANDBOX (cutbox-rows.mjs): the forced cells as the released guide's own fill.sh prints them over the translation acee670aee3bbfca… (all of the seat's roots in one cut). By AI agents, Wed Nov 11 2026. No macro, syntax, notation, axiom, sorry.
-/
import Derived.Test.YtmcloipjlihhlaaChecked
import GoSem.Claim
import GoSem.ClaimJoined
import GoSem.ClaimMapViews
import Derived.JoinedTies
import Derived.KernelRfl
namespace Go.Proofs.Ytmcloipjlihhlaa
/- THE CELL 'sum', in the pinned program and in every row, IS THE sha256 OF THE DUMP (.gsa) THAT YtmcloipjlihhlaaProg.lean LOADS. Nothing in Lean hashes anything: it is a label: what it is worth is what the hold of that sum in a sandbox is worth. -/
noncomputable def Try.pinned : Pinned := { name := "ytmcloipjlihhlaa", sum := "acee670aee3bbfca33b14bcab408276e1050626ad58d60f93dc4f68b17933450", checked := Try.checked }
namespace Rows
def none {H : Type} : Left H := { results := [], args := [] }

/-- 'tracerylaw5.MakerStacks': WHATEVER THE INPUT: true; the input reads as it did. -/
def makerStacksSpec : ChangeSpec := { name := "makerStacks", fn := fun _ => fun
  | [d1, d2] => { results := [.lit (.bool true)], args := [d1, d2] }
  | _ => none }
def makerStacksRow : OpenClaim := { program := "ytmcloipjlihhlaa", sum := "acee670aee3bbfca33b14bcab408276e1050626ad58d60f93dc4f68b17933450", func := "tracery/tracerylaw5.MakerStacks", spec := "makerStacks", unfollowed := true, recurses := true, apart := false }
def MakerStacksSaid : Prop := makerStacksRow.holds Try.pinned (OpenSpec.ofChange makerStacksSpec)

/-- ITS FALSE NEIGHBOUR: 'it returns false'. Refute it at one input. -/
def makerStacksWrong : ChangeSpec := { name := "makerStacks", fn := fun _ => fun
  | [d1, d2] => { results := [.lit (.bool false)], args := [d1, d2] }
  | _ => none }
def MakerStacksWrongFalsely : Prop := makerStacksRow.holds Try.pinned (OpenSpec.ofChange makerStacksWrong)

/-- 'tracerylaw5.MakerShapes': WHATEVER THE INPUT: true; the input reads as it did. -/
def makerShapesSpec : ChangeSpec := { name := "makerShapes", fn := fun _ => fun
  | [d1, d2] => { results := [.lit (.bool true)], args := [d1, d2] }
  | _ => none }
def makerShapesRow : OpenClaim := { program := "ytmcloipjlihhlaa", sum := "acee670aee3bbfca33b14bcab408276e1050626ad58d60f93dc4f68b17933450", func := "tracery/tracerylaw5.MakerShapes", spec := "makerShapes", unfollowed := true, recurses := true, apart := false }
def MakerShapesSaid : Prop := makerShapesRow.holds Try.pinned (OpenSpec.ofChange makerShapesSpec)

/-- ITS FALSE NEIGHBOUR: 'it returns false'. Refute it at one input. -/
def makerShapesWrong : ChangeSpec := { name := "makerShapes", fn := fun _ => fun
  | [d1, d2] => { results := [.lit (.bool false)], args := [d1, d2] }
  | _ => none }
def MakerShapesWrongFalsely : Prop := makerShapesRow.holds Try.pinned (OpenSpec.ofChange makerShapesWrong)

/-- 'tracerylaw5.MakerAll': WHATEVER THE INPUT: true; the input reads as it did. -/
def makerAllSpec : ChangeSpec := { name := "makerAll", fn := fun _ => fun
  | [d1, d2, d3] => { results := [.lit (.bool true)], args := [d1, d2, d3] }
  | _ => none }
def makerAllRow : OpenClaim := { program := "ytmcloipjlihhlaa", sum := "acee670aee3bbfca33b14bcab408276e1050626ad58d60f93dc4f68b17933450", func := "tracery/tracerylaw5.MakerAll", spec := "makerAll", unfollowed := true, recurses := true, apart := false }
def MakerAllSaid : Prop := makerAllRow.holds Try.pinned (OpenSpec.ofChange makerAllSpec)

/-- ITS FALSE NEIGHBOUR: 'it returns false'. Refute it at one input. -/
def makerAllWrong : ChangeSpec := { name := "makerAll", fn := fun _ => fun
  | [d1, d2, d3] => { results := [.lit (.bool false)], args := [d1, d2, d3] }
  | _ => none }
def MakerAllWrongFalsely : Prop := makerAllRow.holds Try.pinned (OpenSpec.ofChange makerAllWrong)

/-- 'tracerylaw28.TutteAll': WHATEVER THE INPUT: true; the input reads as it did. -/
def tutteAllSpec : ChangeSpec := { name := "tutteAll", fn := fun _ => fun
  | [d1, d2, d3, d4, d5] => { results := [.lit (.bool true)], args := [d1, d2, d3, d4, d5] }
  | _ => none }
def tutteAllRow : OpenClaim := { program := "ytmcloipjlihhlaa", sum := "acee670aee3bbfca33b14bcab408276e1050626ad58d60f93dc4f68b17933450", func := "tracery/tracerylaw28.TutteAll", spec := "tutteAll", inPlace := ["math.Float64frombits", "math.RoundToEven", "math.Float64bits"], unfollowed := true, recurses := true, apart := false }
def TutteAllSaid : Prop := tutteAllRow.holds Try.pinned (OpenSpec.ofChange tutteAllSpec)

/-- ITS FALSE NEIGHBOUR: 'it returns false'. Refute it at one input. -/
def tutteAllWrong : ChangeSpec := { name := "tutteAll", fn := fun _ => fun
  | [d1, d2, d3, d4, d5] => { results := [.lit (.bool false)], args := [d1, d2, d3, d4, d5] }
  | _ => none }
def TutteAllWrongFalsely : Prop := tutteAllRow.holds Try.pinned (OpenSpec.ofChange tutteAllWrong)

/-- 'tracerylaw28.TutteSteps': WHATEVER THE INPUT: true; the input reads as it did. -/
def tutteStepsSpec : ChangeSpec := { name := "tutteSteps", fn := fun _ => fun
  | [d1, d2, d3, d4, d5] => { results := [.lit (.bool true)], args := [d1, d2, d3, d4, d5] }
  | _ => none }
def tutteStepsRow : OpenClaim := { program := "ytmcloipjlihhlaa", sum := "acee670aee3bbfca33b14bcab408276e1050626ad58d60f93dc4f68b17933450", func := "tracery/tracerylaw28.TutteSteps", spec := "tutteSteps", inPlace := ["math.Float64frombits", "math.RoundToEven", "math.Float64bits"], unfollowed := true, recurses := true, apart := false }
def TutteStepsSaid : Prop := tutteStepsRow.holds Try.pinned (OpenSpec.ofChange tutteStepsSpec)

/-- ITS FALSE NEIGHBOUR: 'it returns false'. Refute it at one input. -/
def tutteStepsWrong : ChangeSpec := { name := "tutteSteps", fn := fun _ => fun
  | [d1, d2, d3, d4, d5] => { results := [.lit (.bool false)], args := [d1, d2, d3, d4, d5] }
  | _ => none }
def TutteStepsWrongFalsely : Prop := tutteStepsRow.holds Try.pinned (OpenSpec.ofChange tutteStepsWrong)

/-- 'tracerylaw28.TutteBetween': WHATEVER THE INPUT: true; the input reads as it did. -/
def tutteBetweenSpec : ChangeSpec := { name := "tutteBetween", fn := fun _ => fun
  | [d1, d2] => { results := [.lit (.bool true)], args := [d1, d2] }
  | _ => none }
def tutteBetweenRow : OpenClaim := { program := "ytmcloipjlihhlaa", sum := "acee670aee3bbfca33b14bcab408276e1050626ad58d60f93dc4f68b17933450", func := "tracery/tracerylaw28.TutteBetween", spec := "tutteBetween", inPlace := ["math.Float64frombits", "math.RoundToEven", "math.Float64bits"], unfollowed := true, recurses := true, apart := false }
def TutteBetweenSaid : Prop := tutteBetweenRow.holds Try.pinned (OpenSpec.ofChange tutteBetweenSpec)

/-- ITS FALSE NEIGHBOUR: 'it returns false'. Refute it at one input. -/
def tutteBetweenWrong : ChangeSpec := { name := "tutteBetween", fn := fun _ => fun
  | [d1, d2] => { results := [.lit (.bool false)], args := [d1, d2] }
  | _ => none }
def TutteBetweenWrongFalsely : Prop := tutteBetweenRow.holds Try.pinned (OpenSpec.ofChange tutteBetweenWrong)

/-- 'tracerylaw28.TutteSnaps': WHATEVER THE INPUT: true; the input reads as it did. -/
def tutteSnapsSpec : ChangeSpec := { name := "tutteSnaps", fn := fun _ => fun
  | [d1, d2] => { results := [.lit (.bool true)], args := [d1, d2] }
  | _ => none }
def tutteSnapsRow : OpenClaim := { program := "ytmcloipjlihhlaa", sum := "acee670aee3bbfca33b14bcab408276e1050626ad58d60f93dc4f68b17933450", func := "tracery/tracerylaw28.TutteSnaps", spec := "tutteSnaps", inPlace := ["math.Float64frombits", "math.RoundToEven", "math.Float64bits"], unfollowed := true, recurses := true, apart := false }
def TutteSnapsSaid : Prop := tutteSnapsRow.holds Try.pinned (OpenSpec.ofChange tutteSnapsSpec)

/-- ITS FALSE NEIGHBOUR: 'it returns false'. Refute it at one input. -/
def tutteSnapsWrong : ChangeSpec := { name := "tutteSnaps", fn := fun _ => fun
  | [d1, d2] => { results := [.lit (.bool false)], args := [d1, d2] }
  | _ => none }
def TutteSnapsWrongFalsely : Prop := tutteSnapsRow.holds Try.pinned (OpenSpec.ofChange tutteSnapsWrong)

/-- 'tracerylaw28.TutteLight': WHATEVER THE INPUT: true; the input reads as it did. -/
def tutteLightSpec : ChangeSpec := { name := "tutteLight", fn := fun _ => fun
  | [d1, d2] => { results := [.lit (.bool true)], args := [d1, d2] }
  | _ => none }
def tutteLightRow : OpenClaim := { program := "ytmcloipjlihhlaa", sum := "acee670aee3bbfca33b14bcab408276e1050626ad58d60f93dc4f68b17933450", func := "tracery/tracerylaw28.TutteLight", spec := "tutteLight", inPlace := ["math.Float64frombits", "math.RoundToEven", "math.Float64bits"], unfollowed := true, recurses := true, apart := false }
def TutteLightSaid : Prop := tutteLightRow.holds Try.pinned (OpenSpec.ofChange tutteLightSpec)

/-- ITS FALSE NEIGHBOUR: 'it returns false'. Refute it at one input. -/
def tutteLightWrong : ChangeSpec := { name := "tutteLight", fn := fun _ => fun
  | [d1, d2] => { results := [.lit (.bool false)], args := [d1, d2] }
  | _ => none }
def TutteLightWrongFalsely : Prop := tutteLightRow.holds Try.pinned (OpenSpec.ofChange tutteLightWrong)

/-- 'tracerylaw28.TutteMoved': WHATEVER THE INPUT: true; the input reads as it did. -/
def tutteMovedSpec : ChangeSpec := { name := "tutteMoved", fn := fun _ => fun
  | [d1, d2] => { results := [.lit (.bool true)], args := [d1, d2] }
  | _ => none }
def tutteMovedRow : OpenClaim := { program := "ytmcloipjlihhlaa", sum := "acee670aee3bbfca33b14bcab408276e1050626ad58d60f93dc4f68b17933450", func := "tracery/tracerylaw28.TutteMoved", spec := "tutteMoved", inPlace := ["math.Float64frombits", "math.RoundToEven", "math.Float64bits"], unfollowed := true, recurses := true, apart := false }
def TutteMovedSaid : Prop := tutteMovedRow.holds Try.pinned (OpenSpec.ofChange tutteMovedSpec)

/-- ITS FALSE NEIGHBOUR: 'it returns false'. Refute it at one input. -/
def tutteMovedWrong : ChangeSpec := { name := "tutteMoved", fn := fun _ => fun
  | [d1, d2] => { results := [.lit (.bool false)], args := [d1, d2] }
  | _ => none }
def TutteMovedWrongFalsely : Prop := tutteMovedRow.holds Try.pinned (OpenSpec.ofChange tutteMovedWrong)

/-- 'tracerylaw12.KuraAll': WHATEVER THE INPUT: true; the input reads as it did. -/
def kuraAllSpec : ChangeSpec := { name := "kuraAll", fn := fun _ => fun
  | [d1, d2] => { results := [.lit (.bool true)], args := [d1, d2] }
  | _ => none }
def kuraAllRow : OpenClaim := { program := "ytmcloipjlihhlaa", sum := "acee670aee3bbfca33b14bcab408276e1050626ad58d60f93dc4f68b17933450", func := "tracery/tracerylaw12.KuraAll", spec := "kuraAll", apart := false }
def KuraAllSaid : Prop := kuraAllRow.holds Try.pinned (OpenSpec.ofChange kuraAllSpec)

/-- ITS FALSE NEIGHBOUR: 'it returns false'. Refute it at one input. -/
def kuraAllWrong : ChangeSpec := { name := "kuraAll", fn := fun _ => fun
  | [d1, d2] => { results := [.lit (.bool false)], args := [d1, d2] }
  | _ => none }
def KuraAllWrongFalsely : Prop := kuraAllRow.holds Try.pinned (OpenSpec.ofChange kuraAllWrong)

/-- 'tracerylaw12.KuraLess': WHATEVER THE INPUT: true; the input reads as it did. -/
def kuraLessSpec : ChangeSpec := { name := "kuraLess", fn := fun _ => fun
  | [d1, d2, d3, d4] => { results := [.lit (.bool true)], args := [d1, d2, d3, d4] }
  | _ => none }
def kuraLessRow : OpenClaim := { program := "ytmcloipjlihhlaa", sum := "acee670aee3bbfca33b14bcab408276e1050626ad58d60f93dc4f68b17933450", func := "tracery/tracerylaw12.KuraLess", spec := "kuraLess", apart := false }
def KuraLessSaid : Prop := kuraLessRow.holds Try.pinned (OpenSpec.ofChange kuraLessSpec)

/-- ITS FALSE NEIGHBOUR: 'it returns false'. Refute it at one input. -/
def kuraLessWrong : ChangeSpec := { name := "kuraLess", fn := fun _ => fun
  | [d1, d2, d3, d4] => { results := [.lit (.bool false)], args := [d1, d2, d3, d4] }
  | _ => none }
def KuraLessWrongFalsely : Prop := kuraLessRow.holds Try.pinned (OpenSpec.ofChange kuraLessWrong)

/-- 'tracerylaw4.GraphSplits': WHATEVER THE INPUT: true; the input reads as it did. -/
def graphSplitsSpec : ChangeSpec := { name := "graphSplits", fn := fun _ => fun
  | [d1, d2] => { results := [.lit (.bool true)], args := [d1, d2] }
  | _ => none }
def graphSplitsRow : OpenClaim := { program := "ytmcloipjlihhlaa", sum := "acee670aee3bbfca33b14bcab408276e1050626ad58d60f93dc4f68b17933450", func := "tracery/tracerylaw4.GraphSplits", spec := "graphSplits", unfollowed := true, recurses := true, apart := false }
def GraphSplitsSaid : Prop := graphSplitsRow.holds Try.pinned (OpenSpec.ofChange graphSplitsSpec)

/-- ITS FALSE NEIGHBOUR: 'it returns false'. Refute it at one input. -/
def graphSplitsWrong : ChangeSpec := { name := "graphSplits", fn := fun _ => fun
  | [d1, d2] => { results := [.lit (.bool false)], args := [d1, d2] }
  | _ => none }
def GraphSplitsWrongFalsely : Prop := graphSplitsRow.holds Try.pinned (OpenSpec.ofChange graphSplitsWrong)

/-- 'tracerylaw6.WalkAll': WHATEVER THE INPUT: true; the input reads as it did. -/
def walkAllSpec : ChangeSpec := { name := "walkAll", fn := fun _ => fun
  | [d1, d2] => { results := [.lit (.bool true)], args := [d1, d2] }
  | _ => none }
def walkAllRow : OpenClaim := { program := "ytmcloipjlihhlaa", sum := "acee670aee3bbfca33b14bcab408276e1050626ad58d60f93dc4f68b17933450", func := "tracery/tracerylaw6.WalkAll", spec := "walkAll", unfollowed := true, recurses := true, apart := false }
def WalkAllSaid : Prop := walkAllRow.holds Try.pinned (OpenSpec.ofChange walkAllSpec)

/-- ITS FALSE NEIGHBOUR: 'it returns false'. Refute it at one input. -/
def walkAllWrong : ChangeSpec := { name := "walkAll", fn := fun _ => fun
  | [d1, d2] => { results := [.lit (.bool false)], args := [d1, d2] }
  | _ => none }
def WalkAllWrongFalsely : Prop := walkAllRow.holds Try.pinned (OpenSpec.ofChange walkAllWrong)

/-- 'tracerylaw6.WalkFar': WHATEVER THE INPUT: true; the input reads as it did. -/
def walkFarSpec : ChangeSpec := { name := "walkFar", fn := fun _ => fun
  | [d1, d2] => { results := [.lit (.bool true)], args := [d1, d2] }
  | _ => none }
def walkFarRow : OpenClaim := { program := "ytmcloipjlihhlaa", sum := "acee670aee3bbfca33b14bcab408276e1050626ad58d60f93dc4f68b17933450", func := "tracery/tracerylaw6.WalkFar", spec := "walkFar", unfollowed := true, recurses := true, apart := false }
def WalkFarSaid : Prop := walkFarRow.holds Try.pinned (OpenSpec.ofChange walkFarSpec)

/-- ITS FALSE NEIGHBOUR: 'it returns false'. Refute it at one input. -/
def walkFarWrong : ChangeSpec := { name := "walkFar", fn := fun _ => fun
  | [d1, d2] => { results := [.lit (.bool false)], args := [d1, d2] }
  | _ => none }
def WalkFarWrongFalsely : Prop := walkFarRow.holds Try.pinned (OpenSpec.ofChange walkFarWrong)

/-- 'tracerylaw6.WalkDeep': WHATEVER THE INPUT: true; the input reads as it did. -/
def walkDeepSpec : ChangeSpec := { name := "walkDeep", fn := fun _ => fun
  | [d1, d2] => { results := [.lit (.bool true)], args := [d1, d2] }
  | _ => none }
def walkDeepRow : OpenClaim := { program := "ytmcloipjlihhlaa", sum := "acee670aee3bbfca33b14bcab408276e1050626ad58d60f93dc4f68b17933450", func := "tracery/tracerylaw6.WalkDeep", spec := "walkDeep", unfollowed := true, recurses := true, apart := false }
def WalkDeepSaid : Prop := walkDeepRow.holds Try.pinned (OpenSpec.ofChange walkDeepSpec)

/-- ITS FALSE NEIGHBOUR: 'it returns false'. Refute it at one input. -/
def walkDeepWrong : ChangeSpec := { name := "walkDeep", fn := fun _ => fun
  | [d1, d2] => { results := [.lit (.bool false)], args := [d1, d2] }
  | _ => none }
def WalkDeepWrongFalsely : Prop := walkDeepRow.holds Try.pinned (OpenSpec.ofChange walkDeepWrong)

/-- 'tracerylaw6.WalkSides': WHATEVER THE INPUT: true; the input reads as it did. -/
def walkSidesSpec : ChangeSpec := { name := "walkSides", fn := fun _ => fun
  | [d] => { results := [.lit (.bool true)], args := [d] }
  | _ => none }
def walkSidesRow : OpenClaim := { program := "ytmcloipjlihhlaa", sum := "acee670aee3bbfca33b14bcab408276e1050626ad58d60f93dc4f68b17933450", func := "tracery/tracerylaw6.WalkSides", spec := "walkSides", unfollowed := true, recurses := true, apart := false }
def WalkSidesSaid : Prop := walkSidesRow.holds Try.pinned (OpenSpec.ofChange walkSidesSpec)

/-- ITS FALSE NEIGHBOUR: 'it returns false'. Refute it at one input. -/
def walkSidesWrong : ChangeSpec := { name := "walkSides", fn := fun _ => fun
  | [d] => { results := [.lit (.bool false)], args := [d] }
  | _ => none }
def WalkSidesWrongFalsely : Prop := walkSidesRow.holds Try.pinned (OpenSpec.ofChange walkSidesWrong)

/-- 'tracerylaw6.WalkRing': WHATEVER THE INPUT: true; the input reads as it did. -/
def walkRingSpec : ChangeSpec := { name := "walkRing", fn := fun _ => fun
  | [d] => { results := [.lit (.bool true)], args := [d] }
  | _ => none }
def walkRingRow : OpenClaim := { program := "ytmcloipjlihhlaa", sum := "acee670aee3bbfca33b14bcab408276e1050626ad58d60f93dc4f68b17933450", func := "tracery/tracerylaw6.WalkRing", spec := "walkRing", unfollowed := true, recurses := true, apart := false }
def WalkRingSaid : Prop := walkRingRow.holds Try.pinned (OpenSpec.ofChange walkRingSpec)

/-- ITS FALSE NEIGHBOUR: 'it returns false'. Refute it at one input. -/
def walkRingWrong : ChangeSpec := { name := "walkRing", fn := fun _ => fun
  | [d] => { results := [.lit (.bool false)], args := [d] }
  | _ => none }
def WalkRingWrongFalsely : Prop := walkRingRow.holds Try.pinned (OpenSpec.ofChange walkRingWrong)

/-- 'tracerylaw6.WalkJoins': WHATEVER THE INPUT: true; the input reads as it did. -/
def walkJoinsSpec : ChangeSpec := { name := "walkJoins", fn := fun _ => fun
  | [d1, d2, d3] => { results := [.lit (.bool true)], args := [d1, d2, d3] }
  | _ => none }
def walkJoinsRow : OpenClaim := { program := "ytmcloipjlihhlaa", sum := "acee670aee3bbfca33b14bcab408276e1050626ad58d60f93dc4f68b17933450", func := "tracery/tracerylaw6.WalkJoins", spec := "walkJoins", unfollowed := true, recurses := true, apart := false }
def WalkJoinsSaid : Prop := walkJoinsRow.holds Try.pinned (OpenSpec.ofChange walkJoinsSpec)

/-- ITS FALSE NEIGHBOUR: 'it returns false'. Refute it at one input. -/
def walkJoinsWrong : ChangeSpec := { name := "walkJoins", fn := fun _ => fun
  | [d1, d2, d3] => { results := [.lit (.bool false)], args := [d1, d2, d3] }
  | _ => none }
def WalkJoinsWrongFalsely : Prop := walkJoinsRow.holds Try.pinned (OpenSpec.ofChange walkJoinsWrong)

/-- 'tracerylaw6.WalkOdd': WHATEVER THE INPUT: true; the input reads as it did. -/
def walkOddSpec : ChangeSpec := { name := "walkOdd", fn := fun _ => fun
  | [d1, d2] => { results := [.lit (.bool true)], args := [d1, d2] }
  | _ => none }
def walkOddRow : OpenClaim := { program := "ytmcloipjlihhlaa", sum := "acee670aee3bbfca33b14bcab408276e1050626ad58d60f93dc4f68b17933450", func := "tracery/tracerylaw6.WalkOdd", spec := "walkOdd", unfollowed := true, recurses := true, apart := false }
def WalkOddSaid : Prop := walkOddRow.holds Try.pinned (OpenSpec.ofChange walkOddSpec)

/-- ITS FALSE NEIGHBOUR: 'it returns false'. Refute it at one input. -/
def walkOddWrong : ChangeSpec := { name := "walkOdd", fn := fun _ => fun
  | [d1, d2] => { results := [.lit (.bool false)], args := [d1, d2] }
  | _ => none }
def WalkOddWrongFalsely : Prop := walkOddRow.holds Try.pinned (OpenSpec.ofChange walkOddWrong)

/-- 'tracerylaw4.GraphNone': WHATEVER THE INPUT: true; the input reads as it did. -/
def graphNoneSpec : ChangeSpec := { name := "graphNone", fn := fun _ => fun
  | [d] => { results := [.lit (.bool true)], args := [d] }
  | _ => none }
def graphNoneRow : OpenClaim := { program := "ytmcloipjlihhlaa", sum := "acee670aee3bbfca33b14bcab408276e1050626ad58d60f93dc4f68b17933450", func := "tracery/tracerylaw4.GraphNone", spec := "graphNone", unfollowed := true, recurses := true, apart := false }
def GraphNoneSaid : Prop := graphNoneRow.holds Try.pinned (OpenSpec.ofChange graphNoneSpec)

/-- ITS FALSE NEIGHBOUR: 'it returns false'. Refute it at one input. -/
def graphNoneWrong : ChangeSpec := { name := "graphNone", fn := fun _ => fun
  | [d] => { results := [.lit (.bool false)], args := [d] }
  | _ => none }
def GraphNoneWrongFalsely : Prop := graphNoneRow.holds Try.pinned (OpenSpec.ofChange graphNoneWrong)

/-- 'tracerylaw4.GraphIds': WHATEVER THE INPUT: true; the input reads as it did. -/
def graphIdsSpec : ChangeSpec := { name := "graphIds", fn := fun _ => fun
  | [d1, d2] => { results := [.lit (.bool true)], args := [d1, d2] }
  | _ => none }
def graphIdsRow : OpenClaim := { program := "ytmcloipjlihhlaa", sum := "acee670aee3bbfca33b14bcab408276e1050626ad58d60f93dc4f68b17933450", func := "tracery/tracerylaw4.GraphIds", spec := "graphIds", unfollowed := true, recurses := true, apart := false }
def GraphIdsSaid : Prop := graphIdsRow.holds Try.pinned (OpenSpec.ofChange graphIdsSpec)

/-- ITS FALSE NEIGHBOUR: 'it returns false'. Refute it at one input. -/
def graphIdsWrong : ChangeSpec := { name := "graphIds", fn := fun _ => fun
  | [d1, d2] => { results := [.lit (.bool false)], args := [d1, d2] }
  | _ => none }
def GraphIdsWrongFalsely : Prop := graphIdsRow.holds Try.pinned (OpenSpec.ofChange graphIdsWrong)

/-- 'tracerylaw4.GraphAll': WHATEVER THE INPUT: true; the input reads as it did. -/
def graphAllSpec : ChangeSpec := { name := "graphAll", fn := fun _ => fun
  | [d1, d2] => { results := [.lit (.bool true)], args := [d1, d2] }
  | _ => none }
def graphAllRow : OpenClaim := { program := "ytmcloipjlihhlaa", sum := "acee670aee3bbfca33b14bcab408276e1050626ad58d60f93dc4f68b17933450", func := "tracery/tracerylaw4.GraphAll", spec := "graphAll", unfollowed := true, recurses := true, apart := false }
def GraphAllSaid : Prop := graphAllRow.holds Try.pinned (OpenSpec.ofChange graphAllSpec)

/-- ITS FALSE NEIGHBOUR: 'it returns false'. Refute it at one input. -/
def graphAllWrong : ChangeSpec := { name := "graphAll", fn := fun _ => fun
  | [d1, d2] => { results := [.lit (.bool false)], args := [d1, d2] }
  | _ => none }
def GraphAllWrongFalsely : Prop := graphAllRow.holds Try.pinned (OpenSpec.ofChange graphAllWrong)

/-- 'tracerylaw4.GraphMarks': WHATEVER THE INPUT: true; the input reads as it did. -/
def graphMarksSpec : ChangeSpec := { name := "graphMarks", fn := fun _ => fun
  | [d1, d2] => { results := [.lit (.bool true)], args := [d1, d2] }
  | _ => none }
def graphMarksRow : OpenClaim := { program := "ytmcloipjlihhlaa", sum := "acee670aee3bbfca33b14bcab408276e1050626ad58d60f93dc4f68b17933450", func := "tracery/tracerylaw4.GraphMarks", spec := "graphMarks", unfollowed := true, recurses := true, apart := false }
def GraphMarksSaid : Prop := graphMarksRow.holds Try.pinned (OpenSpec.ofChange graphMarksSpec)

/-- ITS FALSE NEIGHBOUR: 'it returns false'. Refute it at one input. -/
def graphMarksWrong : ChangeSpec := { name := "graphMarks", fn := fun _ => fun
  | [d1, d2] => { results := [.lit (.bool false)], args := [d1, d2] }
  | _ => none }
def GraphMarksWrongFalsely : Prop := graphMarksRow.holds Try.pinned (OpenSpec.ofChange graphMarksWrong)

/-- 'tracerylaw12.KuraGrown': WHATEVER THE INPUT: true; the input reads as it did. -/
def kuraGrownSpec : ChangeSpec := { name := "kuraGrown", fn := fun _ => fun
  | [d1, d2, d3, d4] => { results := [.lit (.bool true)], args := [d1, d2, d3, d4] }
  | _ => none }
def kuraGrownRow : OpenClaim := { program := "ytmcloipjlihhlaa", sum := "acee670aee3bbfca33b14bcab408276e1050626ad58d60f93dc4f68b17933450", func := "tracery/tracerylaw12.KuraGrown", spec := "kuraGrown", unfollowed := true, recurses := true, apart := false }
def KuraGrownSaid : Prop := kuraGrownRow.holds Try.pinned (OpenSpec.ofChange kuraGrownSpec)

/-- ITS FALSE NEIGHBOUR: 'it returns false'. Refute it at one input. -/
def kuraGrownWrong : ChangeSpec := { name := "kuraGrown", fn := fun _ => fun
  | [d1, d2, d3, d4] => { results := [.lit (.bool false)], args := [d1, d2, d3, d4] }
  | _ => none }
def KuraGrownWrongFalsely : Prop := kuraGrownRow.holds Try.pinned (OpenSpec.ofChange kuraGrownWrong)

/- THE SECOND FORM. 'bulk': how many values and letters a reading holds, each counted each time it is reached (what is shared counts as often as it is met; a slice's spare places count too). A statement '..UptoSaid' is the law's where the arguments, and the package variables that the reading takes, are together of bulk at most 1048576: NARROWER than '..Said'. Prove '..Said' where nothing that the law and all that it calls make is longer than what came in: it says more and counts as full. Else prove '..UptoSaid'. A law counts once. -/
mutual
def uptoBulk {H : Type} : DataW H → Nat
  | .lit (.string bytes) => bytes.length + 1
  | .lit _ => 1
  | .nil => 1
  | .ptr d => uptoBulk d + 1
  | .slice elems spare => uptoBulkAll elems + uptoBulkAll spare + 1
  | .agg parts => uptoBulkAll parts + 1
  | .iface _ d => uptoBulk d + 1
  | .map entries => uptoBulkEntries entries + 1
  | .held _ => 1
def uptoBulkAll {H : Type} : List (DataW H) → Nat
  | [] => 0
  | d :: r => uptoBulk d + uptoBulkAll r
def uptoBulkEntries {H : Type} : List (Lit × DataW H) → Nat
  | [] => 0
  | x :: r => uptoBulkEntry x + uptoBulkEntries r
def uptoBulkEntry {H : Type} : Lit × DataW H → Nat
  | (.string bytes, d) => bytes.length + uptoBulk d + 1
  | (_, d) => uptoBulk d + 1
 end
def uptoSmall : (H : Type) → List (DataW H) → Bool := fun _ ds => decide (uptoBulkAll ds ≤ 1048576)
def OpenSpec.upto (s : _root_.Go.ChangeSpec) : _root_.Go.OpenSpec := { _root_.Go.OpenSpec.ofChange s with cond := some uptoSmall }

/-- 'tracerylaw5.MakerStacks', WHERE WHAT IT READS IS OF BULK AT MOST 1048576: true; the input reads as it did. -/
def makerStacksUptoRow : OpenClaim := { program := "ytmcloipjlihhlaa", sum := "acee670aee3bbfca33b14bcab408276e1050626ad58d60f93dc4f68b17933450", func := "tracery/tracerylaw5.MakerStacks", spec := "makerStacks", unfollowed := true, recurses := true, apart := false, narrowed := true }
def MakerStacksUptoSaid : Prop := makerStacksUptoRow.holds Try.pinned (OpenSpec.upto makerStacksSpec)

/-- 'tracerylaw5.MakerShapes', WHERE WHAT IT READS IS OF BULK AT MOST 1048576: true; the input reads as it did. -/
def makerShapesUptoRow : OpenClaim := { program := "ytmcloipjlihhlaa", sum := "acee670aee3bbfca33b14bcab408276e1050626ad58d60f93dc4f68b17933450", func := "tracery/tracerylaw5.MakerShapes", spec := "makerShapes", unfollowed := true, recurses := true, apart := false, narrowed := true }
def MakerShapesUptoSaid : Prop := makerShapesUptoRow.holds Try.pinned (OpenSpec.upto makerShapesSpec)

/-- 'tracerylaw5.MakerAll', WHERE WHAT IT READS IS OF BULK AT MOST 1048576: true; the input reads as it did. -/
def makerAllUptoRow : OpenClaim := { program := "ytmcloipjlihhlaa", sum := "acee670aee3bbfca33b14bcab408276e1050626ad58d60f93dc4f68b17933450", func := "tracery/tracerylaw5.MakerAll", spec := "makerAll", unfollowed := true, recurses := true, apart := false, narrowed := true }
def MakerAllUptoSaid : Prop := makerAllUptoRow.holds Try.pinned (OpenSpec.upto makerAllSpec)

/-- 'tracerylaw28.TutteAll', WHERE WHAT IT READS IS OF BULK AT MOST 1048576: true; the input reads as it did. -/
def tutteAllUptoRow : OpenClaim := { program := "ytmcloipjlihhlaa", sum := "acee670aee3bbfca33b14bcab408276e1050626ad58d60f93dc4f68b17933450", func := "tracery/tracerylaw28.TutteAll", spec := "tutteAll", inPlace := ["math.Float64frombits", "math.RoundToEven", "math.Float64bits"], unfollowed := true, recurses := true, apart := false, narrowed := true }
def TutteAllUptoSaid : Prop := tutteAllUptoRow.holds Try.pinned (OpenSpec.upto tutteAllSpec)

/-- 'tracerylaw28.TutteSteps', WHERE WHAT IT READS IS OF BULK AT MOST 1048576: true; the input reads as it did. -/
def tutteStepsUptoRow : OpenClaim := { program := "ytmcloipjlihhlaa", sum := "acee670aee3bbfca33b14bcab408276e1050626ad58d60f93dc4f68b17933450", func := "tracery/tracerylaw28.TutteSteps", spec := "tutteSteps", inPlace := ["math.Float64frombits", "math.RoundToEven", "math.Float64bits"], unfollowed := true, recurses := true, apart := false, narrowed := true }
def TutteStepsUptoSaid : Prop := tutteStepsUptoRow.holds Try.pinned (OpenSpec.upto tutteStepsSpec)

/-- 'tracerylaw28.TutteBetween', WHERE WHAT IT READS IS OF BULK AT MOST 1048576: true; the input reads as it did. -/
def tutteBetweenUptoRow : OpenClaim := { program := "ytmcloipjlihhlaa", sum := "acee670aee3bbfca33b14bcab408276e1050626ad58d60f93dc4f68b17933450", func := "tracery/tracerylaw28.TutteBetween", spec := "tutteBetween", inPlace := ["math.Float64frombits", "math.RoundToEven", "math.Float64bits"], unfollowed := true, recurses := true, apart := false, narrowed := true }
def TutteBetweenUptoSaid : Prop := tutteBetweenUptoRow.holds Try.pinned (OpenSpec.upto tutteBetweenSpec)

/-- 'tracerylaw28.TutteSnaps', WHERE WHAT IT READS IS OF BULK AT MOST 1048576: true; the input reads as it did. -/
def tutteSnapsUptoRow : OpenClaim := { program := "ytmcloipjlihhlaa", sum := "acee670aee3bbfca33b14bcab408276e1050626ad58d60f93dc4f68b17933450", func := "tracery/tracerylaw28.TutteSnaps", spec := "tutteSnaps", inPlace := ["math.Float64frombits", "math.RoundToEven", "math.Float64bits"], unfollowed := true, recurses := true, apart := false, narrowed := true }
def TutteSnapsUptoSaid : Prop := tutteSnapsUptoRow.holds Try.pinned (OpenSpec.upto tutteSnapsSpec)

/-- 'tracerylaw28.TutteLight', WHERE WHAT IT READS IS OF BULK AT MOST 1048576: true; the input reads as it did. -/
def tutteLightUptoRow : OpenClaim := { program := "ytmcloipjlihhlaa", sum := "acee670aee3bbfca33b14bcab408276e1050626ad58d60f93dc4f68b17933450", func := "tracery/tracerylaw28.TutteLight", spec := "tutteLight", inPlace := ["math.Float64frombits", "math.RoundToEven", "math.Float64bits"], unfollowed := true, recurses := true, apart := false, narrowed := true }
def TutteLightUptoSaid : Prop := tutteLightUptoRow.holds Try.pinned (OpenSpec.upto tutteLightSpec)

/-- 'tracerylaw28.TutteMoved', WHERE WHAT IT READS IS OF BULK AT MOST 1048576: true; the input reads as it did. -/
def tutteMovedUptoRow : OpenClaim := { program := "ytmcloipjlihhlaa", sum := "acee670aee3bbfca33b14bcab408276e1050626ad58d60f93dc4f68b17933450", func := "tracery/tracerylaw28.TutteMoved", spec := "tutteMoved", inPlace := ["math.Float64frombits", "math.RoundToEven", "math.Float64bits"], unfollowed := true, recurses := true, apart := false, narrowed := true }
def TutteMovedUptoSaid : Prop := tutteMovedUptoRow.holds Try.pinned (OpenSpec.upto tutteMovedSpec)

/-- 'tracerylaw12.KuraAll', WHERE WHAT IT READS IS OF BULK AT MOST 1048576: true; the input reads as it did. -/
def kuraAllUptoRow : OpenClaim := { program := "ytmcloipjlihhlaa", sum := "acee670aee3bbfca33b14bcab408276e1050626ad58d60f93dc4f68b17933450", func := "tracery/tracerylaw12.KuraAll", spec := "kuraAll", apart := false, narrowed := true }
def KuraAllUptoSaid : Prop := kuraAllUptoRow.holds Try.pinned (OpenSpec.upto kuraAllSpec)

/-- 'tracerylaw12.KuraLess', WHERE WHAT IT READS IS OF BULK AT MOST 1048576: true; the input reads as it did. -/
def kuraLessUptoRow : OpenClaim := { program := "ytmcloipjlihhlaa", sum := "acee670aee3bbfca33b14bcab408276e1050626ad58d60f93dc4f68b17933450", func := "tracery/tracerylaw12.KuraLess", spec := "kuraLess", apart := false, narrowed := true }
def KuraLessUptoSaid : Prop := kuraLessUptoRow.holds Try.pinned (OpenSpec.upto kuraLessSpec)

/-- 'tracerylaw4.GraphSplits', WHERE WHAT IT READS IS OF BULK AT MOST 1048576: true; the input reads as it did. -/
def graphSplitsUptoRow : OpenClaim := { program := "ytmcloipjlihhlaa", sum := "acee670aee3bbfca33b14bcab408276e1050626ad58d60f93dc4f68b17933450", func := "tracery/tracerylaw4.GraphSplits", spec := "graphSplits", unfollowed := true, recurses := true, apart := false, narrowed := true }
def GraphSplitsUptoSaid : Prop := graphSplitsUptoRow.holds Try.pinned (OpenSpec.upto graphSplitsSpec)

/-- 'tracerylaw6.WalkAll', WHERE WHAT IT READS IS OF BULK AT MOST 1048576: true; the input reads as it did. -/
def walkAllUptoRow : OpenClaim := { program := "ytmcloipjlihhlaa", sum := "acee670aee3bbfca33b14bcab408276e1050626ad58d60f93dc4f68b17933450", func := "tracery/tracerylaw6.WalkAll", spec := "walkAll", unfollowed := true, recurses := true, apart := false, narrowed := true }
def WalkAllUptoSaid : Prop := walkAllUptoRow.holds Try.pinned (OpenSpec.upto walkAllSpec)

/-- 'tracerylaw6.WalkFar', WHERE WHAT IT READS IS OF BULK AT MOST 1048576: true; the input reads as it did. -/
def walkFarUptoRow : OpenClaim := { program := "ytmcloipjlihhlaa", sum := "acee670aee3bbfca33b14bcab408276e1050626ad58d60f93dc4f68b17933450", func := "tracery/tracerylaw6.WalkFar", spec := "walkFar", unfollowed := true, recurses := true, apart := false, narrowed := true }
def WalkFarUptoSaid : Prop := walkFarUptoRow.holds Try.pinned (OpenSpec.upto walkFarSpec)

/-- 'tracerylaw6.WalkDeep', WHERE WHAT IT READS IS OF BULK AT MOST 1048576: true; the input reads as it did. -/
def walkDeepUptoRow : OpenClaim := { program := "ytmcloipjlihhlaa", sum := "acee670aee3bbfca33b14bcab408276e1050626ad58d60f93dc4f68b17933450", func := "tracery/tracerylaw6.WalkDeep", spec := "walkDeep", unfollowed := true, recurses := true, apart := false, narrowed := true }
def WalkDeepUptoSaid : Prop := walkDeepUptoRow.holds Try.pinned (OpenSpec.upto walkDeepSpec)

/-- 'tracerylaw6.WalkSides', WHERE WHAT IT READS IS OF BULK AT MOST 1048576: true; the input reads as it did. -/
def walkSidesUptoRow : OpenClaim := { program := "ytmcloipjlihhlaa", sum := "acee670aee3bbfca33b14bcab408276e1050626ad58d60f93dc4f68b17933450", func := "tracery/tracerylaw6.WalkSides", spec := "walkSides", unfollowed := true, recurses := true, apart := false, narrowed := true }
def WalkSidesUptoSaid : Prop := walkSidesUptoRow.holds Try.pinned (OpenSpec.upto walkSidesSpec)

/-- 'tracerylaw6.WalkRing', WHERE WHAT IT READS IS OF BULK AT MOST 1048576: true; the input reads as it did. -/
def walkRingUptoRow : OpenClaim := { program := "ytmcloipjlihhlaa", sum := "acee670aee3bbfca33b14bcab408276e1050626ad58d60f93dc4f68b17933450", func := "tracery/tracerylaw6.WalkRing", spec := "walkRing", unfollowed := true, recurses := true, apart := false, narrowed := true }
def WalkRingUptoSaid : Prop := walkRingUptoRow.holds Try.pinned (OpenSpec.upto walkRingSpec)

/-- 'tracerylaw6.WalkJoins', WHERE WHAT IT READS IS OF BULK AT MOST 1048576: true; the input reads as it did. -/
def walkJoinsUptoRow : OpenClaim := { program := "ytmcloipjlihhlaa", sum := "acee670aee3bbfca33b14bcab408276e1050626ad58d60f93dc4f68b17933450", func := "tracery/tracerylaw6.WalkJoins", spec := "walkJoins", unfollowed := true, recurses := true, apart := false, narrowed := true }
def WalkJoinsUptoSaid : Prop := walkJoinsUptoRow.holds Try.pinned (OpenSpec.upto walkJoinsSpec)

/-- 'tracerylaw6.WalkOdd', WHERE WHAT IT READS IS OF BULK AT MOST 1048576: true; the input reads as it did. -/
def walkOddUptoRow : OpenClaim := { program := "ytmcloipjlihhlaa", sum := "acee670aee3bbfca33b14bcab408276e1050626ad58d60f93dc4f68b17933450", func := "tracery/tracerylaw6.WalkOdd", spec := "walkOdd", unfollowed := true, recurses := true, apart := false, narrowed := true }
def WalkOddUptoSaid : Prop := walkOddUptoRow.holds Try.pinned (OpenSpec.upto walkOddSpec)

/-- 'tracerylaw4.GraphNone', WHERE WHAT IT READS IS OF BULK AT MOST 1048576: true; the input reads as it did. -/
def graphNoneUptoRow : OpenClaim := { program := "ytmcloipjlihhlaa", sum := "acee670aee3bbfca33b14bcab408276e1050626ad58d60f93dc4f68b17933450", func := "tracery/tracerylaw4.GraphNone", spec := "graphNone", unfollowed := true, recurses := true, apart := false, narrowed := true }
def GraphNoneUptoSaid : Prop := graphNoneUptoRow.holds Try.pinned (OpenSpec.upto graphNoneSpec)

/-- 'tracerylaw4.GraphIds', WHERE WHAT IT READS IS OF BULK AT MOST 1048576: true; the input reads as it did. -/
def graphIdsUptoRow : OpenClaim := { program := "ytmcloipjlihhlaa", sum := "acee670aee3bbfca33b14bcab408276e1050626ad58d60f93dc4f68b17933450", func := "tracery/tracerylaw4.GraphIds", spec := "graphIds", unfollowed := true, recurses := true, apart := false, narrowed := true }
def GraphIdsUptoSaid : Prop := graphIdsUptoRow.holds Try.pinned (OpenSpec.upto graphIdsSpec)

/-- 'tracerylaw4.GraphAll', WHERE WHAT IT READS IS OF BULK AT MOST 1048576: true; the input reads as it did. -/
def graphAllUptoRow : OpenClaim := { program := "ytmcloipjlihhlaa", sum := "acee670aee3bbfca33b14bcab408276e1050626ad58d60f93dc4f68b17933450", func := "tracery/tracerylaw4.GraphAll", spec := "graphAll", unfollowed := true, recurses := true, apart := false, narrowed := true }
def GraphAllUptoSaid : Prop := graphAllUptoRow.holds Try.pinned (OpenSpec.upto graphAllSpec)

/-- 'tracerylaw4.GraphMarks', WHERE WHAT IT READS IS OF BULK AT MOST 1048576: true; the input reads as it did. -/
def graphMarksUptoRow : OpenClaim := { program := "ytmcloipjlihhlaa", sum := "acee670aee3bbfca33b14bcab408276e1050626ad58d60f93dc4f68b17933450", func := "tracery/tracerylaw4.GraphMarks", spec := "graphMarks", unfollowed := true, recurses := true, apart := false, narrowed := true }
def GraphMarksUptoSaid : Prop := graphMarksUptoRow.holds Try.pinned (OpenSpec.upto graphMarksSpec)

/-- 'tracerylaw12.KuraGrown', WHERE WHAT IT READS IS OF BULK AT MOST 1048576: true; the input reads as it did. -/
def kuraGrownUptoRow : OpenClaim := { program := "ytmcloipjlihhlaa", sum := "acee670aee3bbfca33b14bcab408276e1050626ad58d60f93dc4f68b17933450", func := "tracery/tracerylaw12.KuraGrown", spec := "kuraGrown", unfollowed := true, recurses := true, apart := false, narrowed := true }
def KuraGrownUptoSaid : Prop := kuraGrownUptoRow.holds Try.pinned (OpenSpec.upto kuraGrownSpec)

end Rows
end Go.Proofs.Ytmcloipjlihhlaa
