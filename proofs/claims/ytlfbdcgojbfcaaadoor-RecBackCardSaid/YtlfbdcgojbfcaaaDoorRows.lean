/-
  NARROWER THAN 'FOR EVERY INPUT', by the rows' own cells (each row's printed sentence says how): RouteCuts: laid · RoutePieces: laid · RouteLimits: laid · RecEach: laid · RecBack: laid · RecBounds: laid · RecTimes: laid · RecReads: laid · RecSpoilt: laid · RecRows: laid.
  DERIVED. THE GIVEN ROWS OF THIS SEAT. 10 by the template 'for every input the law returns true; each argument reads behind the call as it read before'; 0 by the template 'total and deterministic' (their statements: YtlfbdcgojbfcaaaDoorTotals.lean).
  GIVEN WITH THE SEED: the statements are not yours to turn. If you find one false, say at which input.
  Laid BY PROGRAM, IN A SANDBOX (cutbox-rows.mjs): the forced cells as the released guide's own fill.sh prints them over the translation 2011feb906834e1d… (all of the seat's roots in one cut). By AI agents, Wed Nov 11 2026. No macro, syntax, notation, axiom, sorry.
-/
import Derived.Test.YtlfbdcgojbfcaaaDoorChecked
import GoSem.Claim
import GoSem.ClaimJoined
import GoSem.ClaimMapViews
import Derived.JoinedTies
import Derived.KernelRfl
namespace Go.Proofs.YtlfbdcgojbfcaaaDoor
/- THE CELL 'sum', in the pinned program and in every row, IS THE sha256 OF THE DUMP (.gsa) THAT YtlfbdcgojbfcaaaDoorProg.lean LOADS. Nothing in Lean hashes anything: it is a label: what it is worth is what the hold of that sum in a sandbox is worth. -/
noncomputable def Tryd.pinned : Pinned := { name := "ytlfbdcgojbfcaaadoor", sum := "2011feb906834e1d8eaf32702e36d04d1638e5522922defb9ae3e233e11e1364", checked := Tryd.checked }
namespace Rows
def none {H : Type} : Left H := { results := [], args := [] }

/- WHAT THE LISTED PACKAGE-LEVEL VARIABLES READ AS WHEN THE CALL BEGINS. Each datum BY PROGRAM (the guide's laid-datum.mjs) off the statement by which the dump's own 'gosem.cut.vars' lays the variable. In a bare row this is a premise. The card (YtlfbdcgojbfcaaaDoorCards.lean) ties it to the program's text. -/
def laid_cordwood_api_ErrMany {H : Type} : DataW H := .iface "*errors.errorString" (.ptr (.agg [.lit (.string [116, 111, 111, 32, 109, 97, 110, 121])]))
def laid_cordwood_api_ErrRange {H : Type} : DataW H := .iface "*errors.errorString" (.ptr (.agg [.lit (.string [97, 32, 110, 117, 109, 98, 101, 114, 32, 111, 117, 116, 32, 111, 102, 32, 105, 116, 115, 32, 114, 97, 110, 103, 101])]))
def laid_cordwood_api_ErrEnd {H : Type} : DataW H := .iface "*errors.errorString" (.ptr (.agg [.lit (.string [105, 116, 32, 101, 110, 100, 115, 32, 116, 111, 111, 32, 101, 97, 114, 108, 121])]))
def laid_cordwood_api_ErrSum {H : Type} : DataW H := .iface "*errors.errorString" (.ptr (.agg [.lit (.string [116, 104, 101, 32, 115, 117, 109, 32, 105, 115, 32, 97, 110, 111, 116, 104, 101, 114, 32, 111, 110, 101])]))
def laid_cordwood_api_ErrShape {H : Type} : DataW H := .iface "*errors.errorString" (.ptr (.agg [.lit (.string [110, 111, 116, 32, 97, 115, 32, 105, 116, 32, 104, 97, 115, 32, 116, 111, 32, 98, 101])]))
def laid_cordwood_api_ErrName {H : Type} : DataW H := .iface "*errors.errorString" (.ptr (.agg [.lit (.string [110, 111, 32, 110, 97, 109, 101, 32, 116, 104, 97, 116, 32, 109, 97, 121, 32, 98, 101])]))
def laid_cordwood_api_ErrNone {H : Type} : DataW H := .iface "*errors.errorString" (.ptr (.agg [.lit (.string [116, 104, 101, 114, 101, 32, 105, 115, 32, 110, 111, 110, 101])]))
def laid_cordwood_api_ErrThere {H : Type} : DataW H := .iface "*errors.errorString" (.ptr (.agg [.lit (.string [116, 104, 101, 114, 101, 32, 105, 115, 32, 111, 110, 101])]))
def laid_cordwood_api_ErrFull {H : Type} : DataW H := .iface "*errors.errorString" (.ptr (.agg [.lit (.string [116, 104, 101, 114, 101, 32, 105, 115, 32, 110, 111, 32, 114, 111, 111, 109])]))
def laid_cordwood_api_ErrCrash {H : Type} : DataW H := .iface "*errors.errorString" (.ptr (.agg [.lit (.string [116, 104, 101, 32, 112, 111, 119, 101, 114, 32, 105, 115, 32, 103, 111, 110, 101])]))
def laid_cordwood_api_ErrStore {H : Type} : DataW H := .iface "*errors.errorString" (.ptr (.agg [.lit (.string [116, 104, 101, 32, 115, 116, 111, 114, 101, 32, 100, 111, 101, 115, 32, 110, 111, 116, 32, 97, 110, 115, 119, 101, 114])]))
def laid_cordwood_api_ErrKind {H : Type} : DataW H := .iface "*errors.errorString" (.ptr (.agg [.lit (.string [110, 111, 32, 115, 117, 99, 104, 32, 107, 105, 110, 100])]))
def laid_cordwood_api_ErrState {H : Type} : DataW H := .iface "*errors.errorString" (.ptr (.agg [.lit (.string [110, 111, 116, 32, 105, 110, 32, 116, 104, 105, 115, 32, 115, 116, 97, 116, 101])]))
def laid_cordwood_api_ErrFenced {H : Type} : DataW H := .iface "*errors.errorString" (.ptr (.agg [.lit (.string [97, 110, 32, 101, 108, 100, 101, 114, 32, 101, 112, 111, 99, 104])]))
def laid_cordwood_api_ErrOutside {H : Type} : DataW H := .iface "*errors.errorString" (.ptr (.agg [.lit (.string [110, 111, 32, 115, 117, 99, 104, 32, 111, 102, 102, 115, 101, 116])]))
def laid_cordwood_api_ErrUnavail {H : Type} : DataW H := .iface "*errors.errorString" (.ptr (.agg [.lit (.string [110, 111, 116, 32, 116, 111, 32, 98, 101, 32, 104, 97, 100, 32, 110, 111, 119])]))
def laid_cordwood_api_ErrWord {H : Type} : DataW H := .iface "*errors.errorString" (.ptr (.agg [.lit (.string [110, 111, 32, 115, 117, 99, 104, 32, 119, 111, 114, 100])]))
def laid_cordwood_api_ErrNumber {H : Type} : DataW H := .iface "*errors.errorString" (.ptr (.agg [.lit (.string [110, 111, 32, 115, 117, 99, 104, 32, 110, 117, 109, 98, 101, 114])]))
def laid_cordwood_api_ErrClosed {H : Type} : DataW H := .iface "*errors.errorString" (.ptr (.agg [.lit (.string [105, 116, 32, 105, 115, 32, 99, 108, 111, 115, 101, 100])]))

/-- 'cordwoodlaw25.RouteCuts': WHATEVER THE INPUT: true; the input reads as it did. -/
def routeCutsSpec : ChangeSpec := { name := "routeCuts", fn := fun _ => fun
  | [d1, d2, d3, d4] => { results := [.lit (.bool true)], args := [d1, d2, d3, d4] }
  | _ => none }
def routeCutsRow : OpenClaim := { program := "ytlfbdcgojbfcaaadoor", sum := "2011feb906834e1d8eaf32702e36d04d1638e5522922defb9ae3e233e11e1364", func := "cordwood/cordwoodlaw25.RouteCuts", spec := "routeCuts", named := ["cordwood/api.ErrMany", "cordwood/api.ErrRange"], apart := false, laid := [("cordwood/api.ErrMany", laid_cordwood_api_ErrMany), ("cordwood/api.ErrRange", laid_cordwood_api_ErrRange)] }
def RouteCutsSaid : Prop := routeCutsRow.holds Tryd.pinned (OpenSpec.ofChange routeCutsSpec)

/-- ITS FALSE NEIGHBOUR: 'it returns false'. Refute it at one input. -/
def routeCutsWrong : ChangeSpec := { name := "routeCuts", fn := fun _ => fun
  | [d1, d2, d3, d4] => { results := [.lit (.bool false)], args := [d1, d2, d3, d4] }
  | _ => none }
def RouteCutsWrongFalsely : Prop := routeCutsRow.holds Tryd.pinned (OpenSpec.ofChange routeCutsWrong)

/-- 'cordwoodlaw25.RoutePieces': WHATEVER THE INPUT: true; the input reads as it did. -/
def routePiecesSpec : ChangeSpec := { name := "routePieces", fn := fun _ => fun
  | [d1, d2, d3] => { results := [.lit (.bool true)], args := [d1, d2, d3] }
  | _ => none }
def routePiecesRow : OpenClaim := { program := "ytlfbdcgojbfcaaadoor", sum := "2011feb906834e1d8eaf32702e36d04d1638e5522922defb9ae3e233e11e1364", func := "cordwood/cordwoodlaw25.RoutePieces", spec := "routePieces", named := ["cordwood/api.ErrMany", "cordwood/api.ErrRange"], apart := false, laid := [("cordwood/api.ErrMany", laid_cordwood_api_ErrMany), ("cordwood/api.ErrRange", laid_cordwood_api_ErrRange)] }
def RoutePiecesSaid : Prop := routePiecesRow.holds Tryd.pinned (OpenSpec.ofChange routePiecesSpec)

/-- ITS FALSE NEIGHBOUR: 'it returns false'. Refute it at one input. -/
def routePiecesWrong : ChangeSpec := { name := "routePieces", fn := fun _ => fun
  | [d1, d2, d3] => { results := [.lit (.bool false)], args := [d1, d2, d3] }
  | _ => none }
def RoutePiecesWrongFalsely : Prop := routePiecesRow.holds Tryd.pinned (OpenSpec.ofChange routePiecesWrong)

/-- 'cordwoodlaw25.RouteLimits': WHATEVER THE INPUT: true; the input reads as it did. -/
def routeLimitsSpec : ChangeSpec := { name := "routeLimits", fn := fun _ => fun
  | [d1, d2, d3, d4] => { results := [.lit (.bool true)], args := [d1, d2, d3, d4] }
  | _ => none }
def routeLimitsRow : OpenClaim := { program := "ytlfbdcgojbfcaaadoor", sum := "2011feb906834e1d8eaf32702e36d04d1638e5522922defb9ae3e233e11e1364", func := "cordwood/cordwoodlaw25.RouteLimits", spec := "routeLimits", named := ["cordwood/api.ErrMany", "cordwood/api.ErrRange"], apart := false, laid := [("cordwood/api.ErrMany", laid_cordwood_api_ErrMany), ("cordwood/api.ErrRange", laid_cordwood_api_ErrRange)] }
def RouteLimitsSaid : Prop := routeLimitsRow.holds Tryd.pinned (OpenSpec.ofChange routeLimitsSpec)

/-- ITS FALSE NEIGHBOUR: 'it returns false'. Refute it at one input. -/
def routeLimitsWrong : ChangeSpec := { name := "routeLimits", fn := fun _ => fun
  | [d1, d2, d3, d4] => { results := [.lit (.bool false)], args := [d1, d2, d3, d4] }
  | _ => none }
def RouteLimitsWrongFalsely : Prop := routeLimitsRow.holds Tryd.pinned (OpenSpec.ofChange routeLimitsWrong)

/-- 'cordwoodlaw3.RecEach': WHATEVER THE INPUT: true; the input reads as it did. -/
def recEachSpec : ChangeSpec := { name := "recEach", fn := fun _ => fun
  | [d1, d2] => { results := [.lit (.bool true)], args := [d1, d2] }
  | _ => none }
def recEachRow : OpenClaim := { program := "ytlfbdcgojbfcaaadoor", sum := "2011feb906834e1d8eaf32702e36d04d1638e5522922defb9ae3e233e11e1364", func := "cordwood/cordwoodlaw3.RecEach", spec := "recEach", unfollowed := true, recurses := true, named := ["cordwood/api.ErrMany", "cordwood/api.ErrRange"], apart := false, laid := [("cordwood/api.ErrMany", laid_cordwood_api_ErrMany), ("cordwood/api.ErrRange", laid_cordwood_api_ErrRange)] }
def RecEachSaid : Prop := recEachRow.holds Tryd.pinned (OpenSpec.ofChange recEachSpec)

/-- ITS FALSE NEIGHBOUR: 'it returns false'. Refute it at one input. -/
def recEachWrong : ChangeSpec := { name := "recEach", fn := fun _ => fun
  | [d1, d2] => { results := [.lit (.bool false)], args := [d1, d2] }
  | _ => none }
def RecEachWrongFalsely : Prop := recEachRow.holds Tryd.pinned (OpenSpec.ofChange recEachWrong)

/-- 'cordwoodlaw3.RecBack': WHATEVER THE INPUT: true; the input reads as it did. -/
def recBackSpec : ChangeSpec := { name := "recBack", fn := fun _ => fun
  | [d1, d2, d3, d4, d5] => { results := [.lit (.bool true)], args := [d1, d2, d3, d4, d5] }
  | _ => none }
def recBackRow : OpenClaim := { program := "ytlfbdcgojbfcaaadoor", sum := "2011feb906834e1d8eaf32702e36d04d1638e5522922defb9ae3e233e11e1364", func := "cordwood/cordwoodlaw3.RecBack", spec := "recBack", named := ["cordwood/api.ErrMany", "cordwood/api.ErrRange", "cordwood/api.ErrEnd", "cordwood/api.ErrSum", "cordwood/api.ErrShape", "cordwood/api.ErrName", "cordwood/api.ErrNone", "cordwood/api.ErrThere", "cordwood/api.ErrFull", "cordwood/api.ErrCrash", "cordwood/api.ErrStore", "cordwood/api.ErrKind", "cordwood/api.ErrState", "cordwood/api.ErrFenced", "cordwood/api.ErrOutside", "cordwood/api.ErrUnavail", "cordwood/api.ErrWord", "cordwood/api.ErrNumber", "cordwood/api.ErrClosed"], apart := false, laid := [("cordwood/api.ErrEnd", laid_cordwood_api_ErrEnd), ("cordwood/api.ErrSum", laid_cordwood_api_ErrSum), ("cordwood/api.ErrShape", laid_cordwood_api_ErrShape), ("cordwood/api.ErrMany", laid_cordwood_api_ErrMany), ("cordwood/api.ErrRange", laid_cordwood_api_ErrRange), ("cordwood/api.ErrName", laid_cordwood_api_ErrName), ("cordwood/api.ErrNone", laid_cordwood_api_ErrNone), ("cordwood/api.ErrThere", laid_cordwood_api_ErrThere), ("cordwood/api.ErrFull", laid_cordwood_api_ErrFull), ("cordwood/api.ErrCrash", laid_cordwood_api_ErrCrash), ("cordwood/api.ErrStore", laid_cordwood_api_ErrStore), ("cordwood/api.ErrKind", laid_cordwood_api_ErrKind), ("cordwood/api.ErrState", laid_cordwood_api_ErrState), ("cordwood/api.ErrFenced", laid_cordwood_api_ErrFenced), ("cordwood/api.ErrOutside", laid_cordwood_api_ErrOutside), ("cordwood/api.ErrUnavail", laid_cordwood_api_ErrUnavail), ("cordwood/api.ErrWord", laid_cordwood_api_ErrWord), ("cordwood/api.ErrNumber", laid_cordwood_api_ErrNumber), ("cordwood/api.ErrClosed", laid_cordwood_api_ErrClosed)] }
def RecBackSaid : Prop := recBackRow.holds Tryd.pinned (OpenSpec.ofChange recBackSpec)

/-- ITS FALSE NEIGHBOUR: 'it returns false'. Refute it at one input. -/
def recBackWrong : ChangeSpec := { name := "recBack", fn := fun _ => fun
  | [d1, d2, d3, d4, d5] => { results := [.lit (.bool false)], args := [d1, d2, d3, d4, d5] }
  | _ => none }
def RecBackWrongFalsely : Prop := recBackRow.holds Tryd.pinned (OpenSpec.ofChange recBackWrong)

/-- 'cordwoodlaw3.RecBounds': WHATEVER THE INPUT: true; the input reads as it did. -/
def recBoundsSpec : ChangeSpec := { name := "recBounds", fn := fun _ => fun
  | [d1, d2] => { results := [.lit (.bool true)], args := [d1, d2] }
  | _ => none }
def recBoundsRow : OpenClaim := { program := "ytlfbdcgojbfcaaadoor", sum := "2011feb906834e1d8eaf32702e36d04d1638e5522922defb9ae3e233e11e1364", func := "cordwood/cordwoodlaw3.RecBounds", spec := "recBounds", named := ["cordwood/api.ErrMany", "cordwood/api.ErrRange", "cordwood/api.ErrEnd", "cordwood/api.ErrSum", "cordwood/api.ErrShape", "cordwood/api.ErrName", "cordwood/api.ErrNone", "cordwood/api.ErrThere", "cordwood/api.ErrFull", "cordwood/api.ErrCrash", "cordwood/api.ErrStore", "cordwood/api.ErrKind", "cordwood/api.ErrState", "cordwood/api.ErrFenced", "cordwood/api.ErrOutside", "cordwood/api.ErrUnavail", "cordwood/api.ErrWord", "cordwood/api.ErrNumber", "cordwood/api.ErrClosed"], apart := false, laid := [("cordwood/api.ErrEnd", laid_cordwood_api_ErrEnd), ("cordwood/api.ErrSum", laid_cordwood_api_ErrSum), ("cordwood/api.ErrShape", laid_cordwood_api_ErrShape), ("cordwood/api.ErrMany", laid_cordwood_api_ErrMany), ("cordwood/api.ErrRange", laid_cordwood_api_ErrRange), ("cordwood/api.ErrName", laid_cordwood_api_ErrName), ("cordwood/api.ErrNone", laid_cordwood_api_ErrNone), ("cordwood/api.ErrThere", laid_cordwood_api_ErrThere), ("cordwood/api.ErrFull", laid_cordwood_api_ErrFull), ("cordwood/api.ErrCrash", laid_cordwood_api_ErrCrash), ("cordwood/api.ErrStore", laid_cordwood_api_ErrStore), ("cordwood/api.ErrKind", laid_cordwood_api_ErrKind), ("cordwood/api.ErrState", laid_cordwood_api_ErrState), ("cordwood/api.ErrFenced", laid_cordwood_api_ErrFenced), ("cordwood/api.ErrOutside", laid_cordwood_api_ErrOutside), ("cordwood/api.ErrUnavail", laid_cordwood_api_ErrUnavail), ("cordwood/api.ErrWord", laid_cordwood_api_ErrWord), ("cordwood/api.ErrNumber", laid_cordwood_api_ErrNumber), ("cordwood/api.ErrClosed", laid_cordwood_api_ErrClosed)] }
def RecBoundsSaid : Prop := recBoundsRow.holds Tryd.pinned (OpenSpec.ofChange recBoundsSpec)

/-- ITS FALSE NEIGHBOUR: 'it returns false'. Refute it at one input. -/
def recBoundsWrong : ChangeSpec := { name := "recBounds", fn := fun _ => fun
  | [d1, d2] => { results := [.lit (.bool false)], args := [d1, d2] }
  | _ => none }
def RecBoundsWrongFalsely : Prop := recBoundsRow.holds Tryd.pinned (OpenSpec.ofChange recBoundsWrong)

/-- 'cordwoodlaw3.RecTimes': WHATEVER THE INPUT: true; the input reads as it did. -/
def recTimesSpec : ChangeSpec := { name := "recTimes", fn := fun _ => fun
  | [d1, d2] => { results := [.lit (.bool true)], args := [d1, d2] }
  | _ => none }
def recTimesRow : OpenClaim := { program := "ytlfbdcgojbfcaaadoor", sum := "2011feb906834e1d8eaf32702e36d04d1638e5522922defb9ae3e233e11e1364", func := "cordwood/cordwoodlaw3.RecTimes", spec := "recTimes", named := ["cordwood/api.ErrMany", "cordwood/api.ErrRange", "cordwood/api.ErrEnd", "cordwood/api.ErrSum", "cordwood/api.ErrShape"], apart := false, laid := [("cordwood/api.ErrEnd", laid_cordwood_api_ErrEnd), ("cordwood/api.ErrSum", laid_cordwood_api_ErrSum), ("cordwood/api.ErrShape", laid_cordwood_api_ErrShape), ("cordwood/api.ErrMany", laid_cordwood_api_ErrMany), ("cordwood/api.ErrRange", laid_cordwood_api_ErrRange)] }
def RecTimesSaid : Prop := recTimesRow.holds Tryd.pinned (OpenSpec.ofChange recTimesSpec)

/-- ITS FALSE NEIGHBOUR: 'it returns false'. Refute it at one input. -/
def recTimesWrong : ChangeSpec := { name := "recTimes", fn := fun _ => fun
  | [d1, d2] => { results := [.lit (.bool false)], args := [d1, d2] }
  | _ => none }
def RecTimesWrongFalsely : Prop := recTimesRow.holds Tryd.pinned (OpenSpec.ofChange recTimesWrong)

/-- 'cordwoodlaw3.RecReads': WHATEVER THE INPUT: true; the input reads as it did. -/
def recReadsSpec : ChangeSpec := { name := "recReads", fn := fun _ => fun
  | [d] => { results := [.lit (.bool true)], args := [d] }
  | _ => none }
def recReadsRow : OpenClaim := { program := "ytlfbdcgojbfcaaadoor", sum := "2011feb906834e1d8eaf32702e36d04d1638e5522922defb9ae3e233e11e1364", func := "cordwood/cordwoodlaw3.RecReads", spec := "recReads", named := ["cordwood/api.ErrMany", "cordwood/api.ErrRange", "cordwood/api.ErrEnd", "cordwood/api.ErrSum", "cordwood/api.ErrShape", "cordwood/api.ErrName", "cordwood/api.ErrNone", "cordwood/api.ErrThere", "cordwood/api.ErrFull", "cordwood/api.ErrCrash", "cordwood/api.ErrStore", "cordwood/api.ErrKind", "cordwood/api.ErrState", "cordwood/api.ErrFenced", "cordwood/api.ErrOutside", "cordwood/api.ErrUnavail", "cordwood/api.ErrWord", "cordwood/api.ErrNumber", "cordwood/api.ErrClosed"], apart := false, laid := [("cordwood/api.ErrEnd", laid_cordwood_api_ErrEnd), ("cordwood/api.ErrSum", laid_cordwood_api_ErrSum), ("cordwood/api.ErrShape", laid_cordwood_api_ErrShape), ("cordwood/api.ErrMany", laid_cordwood_api_ErrMany), ("cordwood/api.ErrRange", laid_cordwood_api_ErrRange), ("cordwood/api.ErrName", laid_cordwood_api_ErrName), ("cordwood/api.ErrNone", laid_cordwood_api_ErrNone), ("cordwood/api.ErrThere", laid_cordwood_api_ErrThere), ("cordwood/api.ErrFull", laid_cordwood_api_ErrFull), ("cordwood/api.ErrCrash", laid_cordwood_api_ErrCrash), ("cordwood/api.ErrStore", laid_cordwood_api_ErrStore), ("cordwood/api.ErrKind", laid_cordwood_api_ErrKind), ("cordwood/api.ErrState", laid_cordwood_api_ErrState), ("cordwood/api.ErrFenced", laid_cordwood_api_ErrFenced), ("cordwood/api.ErrOutside", laid_cordwood_api_ErrOutside), ("cordwood/api.ErrUnavail", laid_cordwood_api_ErrUnavail), ("cordwood/api.ErrWord", laid_cordwood_api_ErrWord), ("cordwood/api.ErrNumber", laid_cordwood_api_ErrNumber), ("cordwood/api.ErrClosed", laid_cordwood_api_ErrClosed)] }
def RecReadsSaid : Prop := recReadsRow.holds Tryd.pinned (OpenSpec.ofChange recReadsSpec)

/-- ITS FALSE NEIGHBOUR: 'it returns false'. Refute it at one input. -/
def recReadsWrong : ChangeSpec := { name := "recReads", fn := fun _ => fun
  | [d] => { results := [.lit (.bool false)], args := [d] }
  | _ => none }
def RecReadsWrongFalsely : Prop := recReadsRow.holds Tryd.pinned (OpenSpec.ofChange recReadsWrong)

/-- 'cordwoodlaw3.RecSpoilt': WHATEVER THE INPUT: true; the input reads as it did. -/
def recSpoiltSpec : ChangeSpec := { name := "recSpoilt", fn := fun _ => fun
  | [d1, d2, d3] => { results := [.lit (.bool true)], args := [d1, d2, d3] }
  | _ => none }
def recSpoiltRow : OpenClaim := { program := "ytlfbdcgojbfcaaadoor", sum := "2011feb906834e1d8eaf32702e36d04d1638e5522922defb9ae3e233e11e1364", func := "cordwood/cordwoodlaw3.RecSpoilt", spec := "recSpoilt", named := ["cordwood/api.ErrMany", "cordwood/api.ErrRange", "cordwood/api.ErrEnd", "cordwood/api.ErrSum", "cordwood/api.ErrShape", "cordwood/api.ErrName", "cordwood/api.ErrNone", "cordwood/api.ErrThere", "cordwood/api.ErrFull", "cordwood/api.ErrCrash", "cordwood/api.ErrStore", "cordwood/api.ErrKind", "cordwood/api.ErrState", "cordwood/api.ErrFenced", "cordwood/api.ErrOutside", "cordwood/api.ErrUnavail", "cordwood/api.ErrWord", "cordwood/api.ErrNumber", "cordwood/api.ErrClosed"], apart := false, laid := [("cordwood/api.ErrEnd", laid_cordwood_api_ErrEnd), ("cordwood/api.ErrSum", laid_cordwood_api_ErrSum), ("cordwood/api.ErrShape", laid_cordwood_api_ErrShape), ("cordwood/api.ErrMany", laid_cordwood_api_ErrMany), ("cordwood/api.ErrRange", laid_cordwood_api_ErrRange), ("cordwood/api.ErrName", laid_cordwood_api_ErrName), ("cordwood/api.ErrNone", laid_cordwood_api_ErrNone), ("cordwood/api.ErrThere", laid_cordwood_api_ErrThere), ("cordwood/api.ErrFull", laid_cordwood_api_ErrFull), ("cordwood/api.ErrCrash", laid_cordwood_api_ErrCrash), ("cordwood/api.ErrStore", laid_cordwood_api_ErrStore), ("cordwood/api.ErrKind", laid_cordwood_api_ErrKind), ("cordwood/api.ErrState", laid_cordwood_api_ErrState), ("cordwood/api.ErrFenced", laid_cordwood_api_ErrFenced), ("cordwood/api.ErrOutside", laid_cordwood_api_ErrOutside), ("cordwood/api.ErrUnavail", laid_cordwood_api_ErrUnavail), ("cordwood/api.ErrWord", laid_cordwood_api_ErrWord), ("cordwood/api.ErrNumber", laid_cordwood_api_ErrNumber), ("cordwood/api.ErrClosed", laid_cordwood_api_ErrClosed)] }
def RecSpoiltSaid : Prop := recSpoiltRow.holds Tryd.pinned (OpenSpec.ofChange recSpoiltSpec)

/-- ITS FALSE NEIGHBOUR: 'it returns false'. Refute it at one input. -/
def recSpoiltWrong : ChangeSpec := { name := "recSpoilt", fn := fun _ => fun
  | [d1, d2, d3] => { results := [.lit (.bool false)], args := [d1, d2, d3] }
  | _ => none }
def RecSpoiltWrongFalsely : Prop := recSpoiltRow.holds Tryd.pinned (OpenSpec.ofChange recSpoiltWrong)

/-- 'cordwoodlaw3.RecRows': WHATEVER THE INPUT: true; the input reads as it did. -/
def recRowsSpec : ChangeSpec := { name := "recRows", fn := fun _ => fun
  | [d1, d2] => { results := [.lit (.bool true)], args := [d1, d2] }
  | _ => none }
def recRowsRow : OpenClaim := { program := "ytlfbdcgojbfcaaadoor", sum := "2011feb906834e1d8eaf32702e36d04d1638e5522922defb9ae3e233e11e1364", func := "cordwood/cordwoodlaw3.RecRows", spec := "recRows", named := ["cordwood/api.ErrMany", "cordwood/api.ErrRange", "cordwood/api.ErrEnd", "cordwood/api.ErrSum", "cordwood/api.ErrShape", "cordwood/api.ErrName", "cordwood/api.ErrNone", "cordwood/api.ErrThere", "cordwood/api.ErrFull", "cordwood/api.ErrCrash", "cordwood/api.ErrStore", "cordwood/api.ErrKind", "cordwood/api.ErrState", "cordwood/api.ErrFenced", "cordwood/api.ErrOutside", "cordwood/api.ErrUnavail", "cordwood/api.ErrWord", "cordwood/api.ErrNumber", "cordwood/api.ErrClosed"], apart := false, laid := [("cordwood/api.ErrEnd", laid_cordwood_api_ErrEnd), ("cordwood/api.ErrSum", laid_cordwood_api_ErrSum), ("cordwood/api.ErrShape", laid_cordwood_api_ErrShape), ("cordwood/api.ErrMany", laid_cordwood_api_ErrMany), ("cordwood/api.ErrRange", laid_cordwood_api_ErrRange), ("cordwood/api.ErrName", laid_cordwood_api_ErrName), ("cordwood/api.ErrNone", laid_cordwood_api_ErrNone), ("cordwood/api.ErrThere", laid_cordwood_api_ErrThere), ("cordwood/api.ErrFull", laid_cordwood_api_ErrFull), ("cordwood/api.ErrCrash", laid_cordwood_api_ErrCrash), ("cordwood/api.ErrStore", laid_cordwood_api_ErrStore), ("cordwood/api.ErrKind", laid_cordwood_api_ErrKind), ("cordwood/api.ErrState", laid_cordwood_api_ErrState), ("cordwood/api.ErrFenced", laid_cordwood_api_ErrFenced), ("cordwood/api.ErrOutside", laid_cordwood_api_ErrOutside), ("cordwood/api.ErrUnavail", laid_cordwood_api_ErrUnavail), ("cordwood/api.ErrWord", laid_cordwood_api_ErrWord), ("cordwood/api.ErrNumber", laid_cordwood_api_ErrNumber), ("cordwood/api.ErrClosed", laid_cordwood_api_ErrClosed)] }
def RecRowsSaid : Prop := recRowsRow.holds Tryd.pinned (OpenSpec.ofChange recRowsSpec)

/-- ITS FALSE NEIGHBOUR: 'it returns false'. Refute it at one input. -/
def recRowsWrong : ChangeSpec := { name := "recRows", fn := fun _ => fun
  | [d1, d2] => { results := [.lit (.bool false)], args := [d1, d2] }
  | _ => none }
def RecRowsWrongFalsely : Prop := recRowsRow.holds Tryd.pinned (OpenSpec.ofChange recRowsWrong)

/- THE SECOND FORM. 'bulk': how many values and letters a reading holds, each counted each time it is reached (what is shared counts as often as it is met; a slice's spare places count too). A statement '..UptoSaid' is the law's where the arguments, and the package variables that the reading takes, are together of bulk at most 1048576: NARROWER than '..Said'. Prove '..Said' where nothing that the law and all that it calls make is longer than what came in: it says more and counts as full. Else prove '..UptoSaid'. A law counts once. -/
mutual
def uptoBulk {H : Type} : DataW H → Nat
  | .lit (.string bytes) => bytes.length + 1
  | .lit _ => 1
  | .nil => 1
  | .ptr d => uptoBulk d + 1
  | .slice elems spare => uptoBulkAll elems + uptoBulkAll spare + 1
  | .agg parts => uptoBulkAll parts + 1
  | .iface _ d => uptoBulk d + 1
  | .map entries => uptoBulkEntries entries + 1
  | .held _ => 1
def uptoBulkAll {H : Type} : List (DataW H) → Nat
  | [] => 0
  | d :: r => uptoBulk d + uptoBulkAll r
def uptoBulkEntries {H : Type} : List (Lit × DataW H) → Nat
  | [] => 0
  | x :: r => uptoBulkEntry x + uptoBulkEntries r
def uptoBulkEntry {H : Type} : Lit × DataW H → Nat
  | (.string bytes, d) => bytes.length + uptoBulk d + 1
  | (_, d) => uptoBulk d + 1
 end
def uptoSmall : (H : Type) → List (DataW H) → Bool := fun _ ds => decide (uptoBulkAll ds ≤ 1048576)
def OpenSpec.upto (s : _root_.Go.ChangeSpec) : _root_.Go.OpenSpec := { _root_.Go.OpenSpec.ofChange s with cond := some uptoSmall }

/-- 'cordwoodlaw25.RouteCuts', WHERE WHAT IT READS IS OF BULK AT MOST 1048576: true; the input reads as it did. -/
def routeCutsUptoRow : OpenClaim := { program := "ytlfbdcgojbfcaaadoor", sum := "2011feb906834e1d8eaf32702e36d04d1638e5522922defb9ae3e233e11e1364", func := "cordwood/cordwoodlaw25.RouteCuts", spec := "routeCuts", named := ["cordwood/api.ErrMany", "cordwood/api.ErrRange"], apart := false, laid := [("cordwood/api.ErrMany", laid_cordwood_api_ErrMany), ("cordwood/api.ErrRange", laid_cordwood_api_ErrRange)], narrowed := true }
def RouteCutsUptoSaid : Prop := routeCutsUptoRow.holds Tryd.pinned (OpenSpec.upto routeCutsSpec)

/-- 'cordwoodlaw25.RoutePieces', WHERE WHAT IT READS IS OF BULK AT MOST 1048576: true; the input reads as it did. -/
def routePiecesUptoRow : OpenClaim := { program := "ytlfbdcgojbfcaaadoor", sum := "2011feb906834e1d8eaf32702e36d04d1638e5522922defb9ae3e233e11e1364", func := "cordwood/cordwoodlaw25.RoutePieces", spec := "routePieces", named := ["cordwood/api.ErrMany", "cordwood/api.ErrRange"], apart := false, laid := [("cordwood/api.ErrMany", laid_cordwood_api_ErrMany), ("cordwood/api.ErrRange", laid_cordwood_api_ErrRange)], narrowed := true }
def RoutePiecesUptoSaid : Prop := routePiecesUptoRow.holds Tryd.pinned (OpenSpec.upto routePiecesSpec)

/-- 'cordwoodlaw25.RouteLimits', WHERE WHAT IT READS IS OF BULK AT MOST 1048576: true; the input reads as it did. -/
def routeLimitsUptoRow : OpenClaim := { program := "ytlfbdcgojbfcaaadoor", sum := "2011feb906834e1d8eaf32702e36d04d1638e5522922defb9ae3e233e11e1364", func := "cordwood/cordwoodlaw25.RouteLimits", spec := "routeLimits", named := ["cordwood/api.ErrMany", "cordwood/api.ErrRange"], apart := false, laid := [("cordwood/api.ErrMany", laid_cordwood_api_ErrMany), ("cordwood/api.ErrRange", laid_cordwood_api_ErrRange)], narrowed := true }
def RouteLimitsUptoSaid : Prop := routeLimitsUptoRow.holds Tryd.pinned (OpenSpec.upto routeLimitsSpec)

/-- 'cordwoodlaw3.RecEach', WHERE WHAT IT READS IS OF BULK AT MOST 1048576: true; the input reads as it did. -/
def recEachUptoRow : OpenClaim := { program := "ytlfbdcgojbfcaaadoor", sum := "2011feb906834e1d8eaf32702e36d04d1638e5522922defb9ae3e233e11e1364", func := "cordwood/cordwoodlaw3.RecEach", spec := "recEach", unfollowed := true, recurses := true, named := ["cordwood/api.ErrMany", "cordwood/api.ErrRange"], apart := false, laid := [("cordwood/api.ErrMany", laid_cordwood_api_ErrMany), ("cordwood/api.ErrRange", laid_cordwood_api_ErrRange)], narrowed := true }
def RecEachUptoSaid : Prop := recEachUptoRow.holds Tryd.pinned (OpenSpec.upto recEachSpec)

/-- 'cordwoodlaw3.RecBack', WHERE WHAT IT READS IS OF BULK AT MOST 1048576: true; the input reads as it did. -/
def recBackUptoRow : OpenClaim := { program := "ytlfbdcgojbfcaaadoor", sum := "2011feb906834e1d8eaf32702e36d04d1638e5522922defb9ae3e233e11e1364", func := "cordwood/cordwoodlaw3.RecBack", spec := "recBack", named := ["cordwood/api.ErrMany", "cordwood/api.ErrRange", "cordwood/api.ErrEnd", "cordwood/api.ErrSum", "cordwood/api.ErrShape", "cordwood/api.ErrName", "cordwood/api.ErrNone", "cordwood/api.ErrThere", "cordwood/api.ErrFull", "cordwood/api.ErrCrash", "cordwood/api.ErrStore", "cordwood/api.ErrKind", "cordwood/api.ErrState", "cordwood/api.ErrFenced", "cordwood/api.ErrOutside", "cordwood/api.ErrUnavail", "cordwood/api.ErrWord", "cordwood/api.ErrNumber", "cordwood/api.ErrClosed"], apart := false, laid := [("cordwood/api.ErrEnd", laid_cordwood_api_ErrEnd), ("cordwood/api.ErrSum", laid_cordwood_api_ErrSum), ("cordwood/api.ErrShape", laid_cordwood_api_ErrShape), ("cordwood/api.ErrMany", laid_cordwood_api_ErrMany), ("cordwood/api.ErrRange", laid_cordwood_api_ErrRange), ("cordwood/api.ErrName", laid_cordwood_api_ErrName), ("cordwood/api.ErrNone", laid_cordwood_api_ErrNone), ("cordwood/api.ErrThere", laid_cordwood_api_ErrThere), ("cordwood/api.ErrFull", laid_cordwood_api_ErrFull), ("cordwood/api.ErrCrash", laid_cordwood_api_ErrCrash), ("cordwood/api.ErrStore", laid_cordwood_api_ErrStore), ("cordwood/api.ErrKind", laid_cordwood_api_ErrKind), ("cordwood/api.ErrState", laid_cordwood_api_ErrState), ("cordwood/api.ErrFenced", laid_cordwood_api_ErrFenced), ("cordwood/api.ErrOutside", laid_cordwood_api_ErrOutside), ("cordwood/api.ErrUnavail", laid_cordwood_api_ErrUnavail), ("cordwood/api.ErrWord", laid_cordwood_api_ErrWord), ("cordwood/api.ErrNumber", laid_cordwood_api_ErrNumber), ("cordwood/api.ErrClosed", laid_cordwood_api_ErrClosed)], narrowed := true }
def RecBackUptoSaid : Prop := recBackUptoRow.holds Tryd.pinned (OpenSpec.upto recBackSpec)

/-- 'cordwoodlaw3.RecBounds', WHERE WHAT IT READS IS OF BULK AT MOST 1048576: true; the input reads as it did. -/
def recBoundsUptoRow : OpenClaim := { program := "ytlfbdcgojbfcaaadoor", sum := "2011feb906834e1d8eaf32702e36d04d1638e5522922defb9ae3e233e11e1364", func := "cordwood/cordwoodlaw3.RecBounds", spec := "recBounds", named := ["cordwood/api.ErrMany", "cordwood/api.ErrRange", "cordwood/api.ErrEnd", "cordwood/api.ErrSum", "cordwood/api.ErrShape", "cordwood/api.ErrName", "cordwood/api.ErrNone", "cordwood/api.ErrThere", "cordwood/api.ErrFull", "cordwood/api.ErrCrash", "cordwood/api.ErrStore", "cordwood/api.ErrKind", "cordwood/api.ErrState", "cordwood/api.ErrFenced", "cordwood/api.ErrOutside", "cordwood/api.ErrUnavail", "cordwood/api.ErrWord", "cordwood/api.ErrNumber", "cordwood/api.ErrClosed"], apart := false, laid := [("cordwood/api.ErrEnd", laid_cordwood_api_ErrEnd), ("cordwood/api.ErrSum", laid_cordwood_api_ErrSum), ("cordwood/api.ErrShape", laid_cordwood_api_ErrShape), ("cordwood/api.ErrMany", laid_cordwood_api_ErrMany), ("cordwood/api.ErrRange", laid_cordwood_api_ErrRange), ("cordwood/api.ErrName", laid_cordwood_api_ErrName), ("cordwood/api.ErrNone", laid_cordwood_api_ErrNone), ("cordwood/api.ErrThere", laid_cordwood_api_ErrThere), ("cordwood/api.ErrFull", laid_cordwood_api_ErrFull), ("cordwood/api.ErrCrash", laid_cordwood_api_ErrCrash), ("cordwood/api.ErrStore", laid_cordwood_api_ErrStore), ("cordwood/api.ErrKind", laid_cordwood_api_ErrKind), ("cordwood/api.ErrState", laid_cordwood_api_ErrState), ("cordwood/api.ErrFenced", laid_cordwood_api_ErrFenced), ("cordwood/api.ErrOutside", laid_cordwood_api_ErrOutside), ("cordwood/api.ErrUnavail", laid_cordwood_api_ErrUnavail), ("cordwood/api.ErrWord", laid_cordwood_api_ErrWord), ("cordwood/api.ErrNumber", laid_cordwood_api_ErrNumber), ("cordwood/api.ErrClosed", laid_cordwood_api_ErrClosed)], narrowed := true }
def RecBoundsUptoSaid : Prop := recBoundsUptoRow.holds Tryd.pinned (OpenSpec.upto recBoundsSpec)

/-- 'cordwoodlaw3.RecTimes', WHERE WHAT IT READS IS OF BULK AT MOST 1048576: true; the input reads as it did. -/
def recTimesUptoRow : OpenClaim := { program := "ytlfbdcgojbfcaaadoor", sum := "2011feb906834e1d8eaf32702e36d04d1638e5522922defb9ae3e233e11e1364", func := "cordwood/cordwoodlaw3.RecTimes", spec := "recTimes", named := ["cordwood/api.ErrMany", "cordwood/api.ErrRange", "cordwood/api.ErrEnd", "cordwood/api.ErrSum", "cordwood/api.ErrShape"], apart := false, laid := [("cordwood/api.ErrEnd", laid_cordwood_api_ErrEnd), ("cordwood/api.ErrSum", laid_cordwood_api_ErrSum), ("cordwood/api.ErrShape", laid_cordwood_api_ErrShape), ("cordwood/api.ErrMany", laid_cordwood_api_ErrMany), ("cordwood/api.ErrRange", laid_cordwood_api_ErrRange)], narrowed := true }
def RecTimesUptoSaid : Prop := recTimesUptoRow.holds Tryd.pinned (OpenSpec.upto recTimesSpec)

/-- 'cordwoodlaw3.RecReads', WHERE WHAT IT READS IS OF BULK AT MOST 1048576: true; the input reads as it did. -/
def recReadsUptoRow : OpenClaim := { program := "ytlfbdcgojbfcaaadoor", sum := "2011feb906834e1d8eaf32702e36d04d1638e5522922defb9ae3e233e11e1364", func := "cordwood/cordwoodlaw3.RecReads", spec := "recReads", named := ["cordwood/api.ErrMany", "cordwood/api.ErrRange", "cordwood/api.ErrEnd", "cordwood/api.ErrSum", "cordwood/api.ErrShape", "cordwood/api.ErrName", "cordwood/api.ErrNone", "cordwood/api.ErrThere", "cordwood/api.ErrFull", "cordwood/api.ErrCrash", "cordwood/api.ErrStore", "cordwood/api.ErrKind", "cordwood/api.ErrState", "cordwood/api.ErrFenced", "cordwood/api.ErrOutside", "cordwood/api.ErrUnavail", "cordwood/api.ErrWord", "cordwood/api.ErrNumber", "cordwood/api.ErrClosed"], apart := false, laid := [("cordwood/api.ErrEnd", laid_cordwood_api_ErrEnd), ("cordwood/api.ErrSum", laid_cordwood_api_ErrSum), ("cordwood/api.ErrShape", laid_cordwood_api_ErrShape), ("cordwood/api.ErrMany", laid_cordwood_api_ErrMany), ("cordwood/api.ErrRange", laid_cordwood_api_ErrRange), ("cordwood/api.ErrName", laid_cordwood_api_ErrName), ("cordwood/api.ErrNone", laid_cordwood_api_ErrNone), ("cordwood/api.ErrThere", laid_cordwood_api_ErrThere), ("cordwood/api.ErrFull", laid_cordwood_api_ErrFull), ("cordwood/api.ErrCrash", laid_cordwood_api_ErrCrash), ("cordwood/api.ErrStore", laid_cordwood_api_ErrStore), ("cordwood/api.ErrKind", laid_cordwood_api_ErrKind), ("cordwood/api.ErrState", laid_cordwood_api_ErrState), ("cordwood/api.ErrFenced", laid_cordwood_api_ErrFenced), ("cordwood/api.ErrOutside", laid_cordwood_api_ErrOutside), ("cordwood/api.ErrUnavail", laid_cordwood_api_ErrUnavail), ("cordwood/api.ErrWord", laid_cordwood_api_ErrWord), ("cordwood/api.ErrNumber", laid_cordwood_api_ErrNumber), ("cordwood/api.ErrClosed", laid_cordwood_api_ErrClosed)], narrowed := true }
def RecReadsUptoSaid : Prop := recReadsUptoRow.holds Tryd.pinned (OpenSpec.upto recReadsSpec)

/-- 'cordwoodlaw3.RecSpoilt', WHERE WHAT IT READS IS OF BULK AT MOST 1048576: true; the input reads as it did. -/
def recSpoiltUptoRow : OpenClaim := { program := "ytlfbdcgojbfcaaadoor", sum := "2011feb906834e1d8eaf32702e36d04d1638e5522922defb9ae3e233e11e1364", func := "cordwood/cordwoodlaw3.RecSpoilt", spec := "recSpoilt", named := ["cordwood/api.ErrMany", "cordwood/api.ErrRange", "cordwood/api.ErrEnd", "cordwood/api.ErrSum", "cordwood/api.ErrShape", "cordwood/api.ErrName", "cordwood/api.ErrNone", "cordwood/api.ErrThere", "cordwood/api.ErrFull", "cordwood/api.ErrCrash", "cordwood/api.ErrStore", "cordwood/api.ErrKind", "cordwood/api.ErrState", "cordwood/api.ErrFenced", "cordwood/api.ErrOutside", "cordwood/api.ErrUnavail", "cordwood/api.ErrWord", "cordwood/api.ErrNumber", "cordwood/api.ErrClosed"], apart := false, laid := [("cordwood/api.ErrEnd", laid_cordwood_api_ErrEnd), ("cordwood/api.ErrSum", laid_cordwood_api_ErrSum), ("cordwood/api.ErrShape", laid_cordwood_api_ErrShape), ("cordwood/api.ErrMany", laid_cordwood_api_ErrMany), ("cordwood/api.ErrRange", laid_cordwood_api_ErrRange), ("cordwood/api.ErrName", laid_cordwood_api_ErrName), ("cordwood/api.ErrNone", laid_cordwood_api_ErrNone), ("cordwood/api.ErrThere", laid_cordwood_api_ErrThere), ("cordwood/api.ErrFull", laid_cordwood_api_ErrFull), ("cordwood/api.ErrCrash", laid_cordwood_api_ErrCrash), ("cordwood/api.ErrStore", laid_cordwood_api_ErrStore), ("cordwood/api.ErrKind", laid_cordwood_api_ErrKind), ("cordwood/api.ErrState", laid_cordwood_api_ErrState), ("cordwood/api.ErrFenced", laid_cordwood_api_ErrFenced), ("cordwood/api.ErrOutside", laid_cordwood_api_ErrOutside), ("cordwood/api.ErrUnavail", laid_cordwood_api_ErrUnavail), ("cordwood/api.ErrWord", laid_cordwood_api_ErrWord), ("cordwood/api.ErrNumber", laid_cordwood_api_ErrNumber), ("cordwood/api.ErrClosed", laid_cordwood_api_ErrClosed)], narrowed := true }
def RecSpoiltUptoSaid : Prop := recSpoiltUptoRow.holds Tryd.pinned (OpenSpec.upto recSpoiltSpec)

/-- 'cordwoodlaw3.RecRows', WHERE WHAT IT READS IS OF BULK AT MOST 1048576: true; the input reads as it did. -/
def recRowsUptoRow : OpenClaim := { program := "ytlfbdcgojbfcaaadoor", sum := "2011feb906834e1d8eaf32702e36d04d1638e5522922defb9ae3e233e11e1364", func := "cordwood/cordwoodlaw3.RecRows", spec := "recRows", named := ["cordwood/api.ErrMany", "cordwood/api.ErrRange", "cordwood/api.ErrEnd", "cordwood/api.ErrSum", "cordwood/api.ErrShape", "cordwood/api.ErrName", "cordwood/api.ErrNone", "cordwood/api.ErrThere", "cordwood/api.ErrFull", "cordwood/api.ErrCrash", "cordwood/api.ErrStore", "cordwood/api.ErrKind", "cordwood/api.ErrState", "cordwood/api.ErrFenced", "cordwood/api.ErrOutside", "cordwood/api.ErrUnavail", "cordwood/api.ErrWord", "cordwood/api.ErrNumber", "cordwood/api.ErrClosed"], apart := false, laid := [("cordwood/api.ErrEnd", laid_cordwood_api_ErrEnd), ("cordwood/api.ErrSum", laid_cordwood_api_ErrSum), ("cordwood/api.ErrShape", laid_cordwood_api_ErrShape), ("cordwood/api.ErrMany", laid_cordwood_api_ErrMany), ("cordwood/api.ErrRange", laid_cordwood_api_ErrRange), ("cordwood/api.ErrName", laid_cordwood_api_ErrName), ("cordwood/api.ErrNone", laid_cordwood_api_ErrNone), ("cordwood/api.ErrThere", laid_cordwood_api_ErrThere), ("cordwood/api.ErrFull", laid_cordwood_api_ErrFull), ("cordwood/api.ErrCrash", laid_cordwood_api_ErrCrash), ("cordwood/api.ErrStore", laid_cordwood_api_ErrStore), ("cordwood/api.ErrKind", laid_cordwood_api_ErrKind), ("cordwood/api.ErrState", laid_cordwood_api_ErrState), ("cordwood/api.ErrFenced", laid_cordwood_api_ErrFenced), ("cordwood/api.ErrOutside", laid_cordwood_api_ErrOutside), ("cordwood/api.ErrUnavail", laid_cordwood_api_ErrUnavail), ("cordwood/api.ErrWord", laid_cordwood_api_ErrWord), ("cordwood/api.ErrNumber", laid_cordwood_api_ErrNumber), ("cordwood/api.ErrClosed", laid_cordwood_api_ErrClosed)], narrowed := true }
def RecRowsUptoSaid : Prop := recRowsUptoRow.holds Tryd.pinned (OpenSpec.upto recRowsSpec)

end Rows
end Go.Proofs.YtlfbdcgojbfcaaaDoor
