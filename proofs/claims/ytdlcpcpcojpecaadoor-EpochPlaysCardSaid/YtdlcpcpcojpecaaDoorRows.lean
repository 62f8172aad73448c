/-
  NARROWER THAN 'FOR EVERY INPUT', by the rows' own cells (each row's printed sentence says how): EpochPlays: laid.
  DERIVED. THE GIVEN ROWS OF THIS SEAT. 1 by the template 'for every input the law returns true; each argument reads behind the call as it read before'; 0 by the template 'total and deterministic' (their statements: YtdlcpcpcojpecaaDoorTotals.lean).
  GIVEN WITH THE SEED: the statements are not yours to turn. If you find one false, say at which input.
  Laid BY PROGRAM, IN A SANDBOX (cutbox-rows.mjs): the forced cells as the released guide's own fill.sh prints them over the translation d60265b32d364dec… (all of the seat's roots in one cut). By AI agents, Wed Nov 11 2026. No macro, syntax, notation, axiom, sorry.
-/
import Derived.Test.YtdlcpcpcojpecaaDoorChecked
import GoSem.Claim
import GoSem.ClaimJoined
import GoSem.ClaimMapViews
import Derived.JoinedTies
import Derived.KernelRfl
namespace Go.Proofs.YtdlcpcpcojpecaaDoor
/- THE CELL 'sum', in the pinned program and in every row, IS THE sha256 OF THE DUMP (.gsa) THAT YtdlcpcpcojpecaaDoorProg.lean LOADS. Nothing in Lean hashes anything: it is a label: what it is worth is what the hold of that sum in a sandbox is worth. -/
noncomputable def Tryd.pinned : Pinned := { name := "ytdlcpcpcojpecaadoor", sum := "d60265b32d364decebf5d95fa459f705a343ac587e03986deaec3160218e70f5", checked := Tryd.checked }
namespace Rows
def none {H : Type} : Left H := { results := [], args := [] }

/- WHAT THE LISTED PACKAGE-LEVEL VARIABLES READ AS WHEN THE CALL BEGINS. Each datum BY PROGRAM (the guide's laid-datum.mjs) off the statement by which the dump's own 'gosem.cut.vars' lays the variable. In a bare row this is a premise. The card (YtdlcpcpcojpecaaDoorCards.lean) ties it to the program's text. -/
def laid_cordwood_api_ErrEnd {H : Type} : DataW H := .iface "*errors.errorString" (.ptr (.agg [.lit (.string [105, 116, 32, 101, 110, 100, 115, 32, 116, 111, 111, 32, 101, 97, 114, 108, 121])]))
def laid_cordwood_api_ErrSum {H : Type} : DataW H := .iface "*errors.errorString" (.ptr (.agg [.lit (.string [116, 104, 101, 32, 115, 117, 109, 32, 105, 115, 32, 97, 110, 111, 116, 104, 101, 114, 32, 111, 110, 101])]))
def laid_cordwood_api_ErrShape {H : Type} : DataW H := .iface "*errors.errorString" (.ptr (.agg [.lit (.string [110, 111, 116, 32, 97, 115, 32, 105, 116, 32, 104, 97, 115, 32, 116, 111, 32, 98, 101])]))
def laid_cordwood_api_ErrMany {H : Type} : DataW H := .iface "*errors.errorString" (.ptr (.agg [.lit (.string [116, 111, 111, 32, 109, 97, 110, 121])]))
def laid_cordwood_api_ErrRange {H : Type} : DataW H := .iface "*errors.errorString" (.ptr (.agg [.lit (.string [97, 32, 110, 117, 109, 98, 101, 114, 32, 111, 117, 116, 32, 111, 102, 32, 105, 116, 115, 32, 114, 97, 110, 103, 101])]))
def laid_cordwood_api_ErrName {H : Type} : DataW H := .iface "*errors.errorString" (.ptr (.agg [.lit (.string [110, 111, 32, 110, 97, 109, 101, 32, 116, 104, 97, 116, 32, 109, 97, 121, 32, 98, 101])]))
def laid_cordwood_api_ErrNone {H : Type} : DataW H := .iface "*errors.errorString" (.ptr (.agg [.lit (.string [116, 104, 101, 114, 101, 32, 105, 115, 32, 110, 111, 110, 101])]))
def laid_cordwood_api_ErrThere {H : Type} : DataW H := .iface "*errors.errorString" (.ptr (.agg [.lit (.string [116, 104, 101, 114, 101, 32, 105, 115, 32, 111, 110, 101])]))
def laid_cordwood_api_ErrFull {H : Type} : DataW H := .iface "*errors.errorString" (.ptr (.agg [.lit (.string [116, 104, 101, 114, 101, 32, 105, 115, 32, 110, 111, 32, 114, 111, 111, 109])]))
def laid_cordwood_api_ErrCrash {H : Type} : DataW H := .iface "*errors.errorString" (.ptr (.agg [.lit (.string [116, 104, 101, 32, 112, 111, 119, 101, 114, 32, 105, 115, 32, 103, 111, 110, 101])]))
def laid_cordwood_api_ErrStore {H : Type} : DataW H := .iface "*errors.errorString" (.ptr (.agg [.lit (.string [116, 104, 101, 32, 115, 116, 111, 114, 101, 32, 100, 111, 101, 115, 32, 110, 111, 116, 32, 97, 110, 115, 119, 101, 114])]))
def laid_cordwood_api_ErrKind {H : Type} : DataW H := .iface "*errors.errorString" (.ptr (.agg [.lit (.string [110, 111, 32, 115, 117, 99, 104, 32, 107, 105, 110, 100])]))
def laid_cordwood_api_ErrState {H : Type} : DataW H := .iface "*errors.errorString" (.ptr (.agg [.lit (.string [110, 111, 116, 32, 105, 110, 32, 116, 104, 105, 115, 32, 115, 116, 97, 116, 101])]))
def laid_cordwood_api_ErrFenced {H : Type} : DataW H := .iface "*errors.errorString" (.ptr (.agg [.lit (.string [97, 110, 32, 101, 108, 100, 101, 114, 32, 101, 112, 111, 99, 104])]))
def laid_cordwood_api_ErrOutside {H : Type} : DataW H := .iface "*errors.errorString" (.ptr (.agg [.lit (.string [110, 111, 32, 115, 117, 99, 104, 32, 111, 102, 102, 115, 101, 116])]))
def laid_cordwood_api_ErrUnavail {H : Type} : DataW H := .iface "*errors.errorString" (.ptr (.agg [.lit (.string [110, 111, 116, 32, 116, 111, 32, 98, 101, 32, 104, 97, 100, 32, 110, 111, 119])]))
def laid_cordwood_api_ErrWord {H : Type} : DataW H := .iface "*errors.errorString" (.ptr (.agg [.lit (.string [110, 111, 32, 115, 117, 99, 104, 32, 119, 111, 114, 100])]))
def laid_cordwood_api_ErrNumber {H : Type} : DataW H := .iface "*errors.errorString" (.ptr (.agg [.lit (.string [110, 111, 32, 115, 117, 99, 104, 32, 110, 117, 109, 98, 101, 114])]))
def laid_cordwood_api_ErrClosed {H : Type} : DataW H := .iface "*errors.errorString" (.ptr (.agg [.lit (.string [105, 116, 32, 105, 115, 32, 99, 108, 111, 115, 101, 100])]))

/-- 'cordwoodlaw9.EpochPlays': WHATEVER THE INPUT: true; the input reads as it did. -/
def epochPlaysSpec : ChangeSpec := { name := "epochPlays", fn := fun _ => fun
  | [d1, d2, d3, d4, d5, d6] => { results := [.lit (.bool true)], args := [d1, d2, d3, d4, d5, d6] }
  | _ => none }
def epochPlaysRow : OpenClaim := { program := "ytdlcpcpcojpecaadoor", sum := "d60265b32d364decebf5d95fa459f705a343ac587e03986deaec3160218e70f5", func := "cordwood/cordwoodlaw9.EpochPlays", spec := "epochPlays", unfollowed := true, recurses := true, named := ["cordwood/api.ErrMany", "cordwood/api.ErrRange", "cordwood/api.ErrShape", "cordwood/api.ErrEnd", "cordwood/api.ErrSum", "cordwood/api.ErrName", "cordwood/api.ErrNone", "cordwood/api.ErrThere", "cordwood/api.ErrFull", "cordwood/api.ErrCrash", "cordwood/api.ErrStore", "cordwood/api.ErrKind", "cordwood/api.ErrState", "cordwood/api.ErrFenced", "cordwood/api.ErrOutside", "cordwood/api.ErrUnavail", "cordwood/api.ErrWord", "cordwood/api.ErrNumber", "cordwood/api.ErrClosed"], apart := false, laid := [("cordwood/api.ErrEnd", laid_cordwood_api_ErrEnd), ("cordwood/api.ErrSum", laid_cordwood_api_ErrSum), ("cordwood/api.ErrShape", laid_cordwood_api_ErrShape), ("cordwood/api.ErrMany", laid_cordwood_api_ErrMany), ("cordwood/api.ErrRange", laid_cordwood_api_ErrRange), ("cordwood/api.ErrName", laid_cordwood_api_ErrName), ("cordwood/api.ErrNone", laid_cordwood_api_ErrNone), ("cordwood/api.ErrThere", laid_cordwood_api_ErrThere), ("cordwood/api.ErrFull", laid_cordwood_api_ErrFull), ("cordwood/api.ErrCrash", laid_cordwood_api_ErrCrash), ("cordwood/api.ErrStore", laid_cordwood_api_ErrStore), ("cordwood/api.ErrKind", laid_cordwood_api_ErrKind), ("cordwood/api.ErrState", laid_cordwood_api_ErrState), ("cordwood/api.ErrFenced", laid_cordwood_api_ErrFenced), ("cordwood/api.ErrOutside", laid_cordwood_api_ErrOutside), ("cordwood/api.ErrUnavail", laid_cordwood_api_ErrUnavail), ("cordwood/api.ErrWord", laid_cordwood_api_ErrWord), ("cordwood/api.ErrNumber", laid_cordwood_api_ErrNumber), ("cordwood/api.ErrClosed", laid_cordwood_api_ErrClosed)] }
def EpochPlaysSaid : Prop := epochPlaysRow.holds Tryd.pinned (OpenSpec.ofChange epochPlaysSpec)

/-- ITS FALSE NEIGHBOUR: 'it returns false'. Refute it at one input. -/
def epochPlaysWrong : ChangeSpec := { name := "epochPlays", fn := fun _ => fun
  | [d1, d2, d3, d4, d5, d6] => { results := [.lit (.bool false)], args := [d1, d2, d3, d4, d5, d6] }
  | _ => none }
def EpochPlaysWrongFalsely : Prop := epochPlaysRow.holds Tryd.pinned (OpenSpec.ofChange epochPlaysWrong)

/- THE SECOND FORM. 'bulk': how many values and letters a reading holds, each counted each time it is reached (what is shared counts as often as it is met; a slice's spare places count too). A statement '..UptoSaid' is the law's where the arguments, and the package variables that the reading takes, are together of bulk at most 1048576: NARROWER than '..Said'. Prove '..Said' where nothing that the law and all that it calls make is longer than what came in: it says more and counts as full. Else prove '..UptoSaid'. A law counts once. -/
mutual
def uptoBulk {H : Type} : DataW H → Nat
  | .lit (.string bytes) => bytes.length + 1
  | .lit _ => 1
  | .nil => 1
  | .ptr d => uptoBulk d + 1
  | .slice elems spare => uptoBulkAll elems + uptoBulkAll spare + 1
  | .agg parts => uptoBulkAll parts + 1
  | .iface _ d => uptoBulk d + 1
  | .map entries => uptoBulkEntries entries + 1
  | .held _ => 1
def uptoBulkAll {H : Type} : List (DataW H) → Nat
  | [] => 0
  | d :: r => uptoBulk d + uptoBulkAll r
def uptoBulkEntries {H : Type} : List (Lit × DataW H) → Nat
  | [] => 0
  | x :: r => uptoBulkEntry x + uptoBulkEntries r
def uptoBulkEntry {H : Type} : Lit × DataW H → Nat
  | (.string bytes, d) => bytes.length + uptoBulk d + 1
  | (_, d) => uptoBulk d + 1
 end
def uptoSmall : (H : Type) → List (DataW H) → Bool := fun _ ds => decide (uptoBulkAll ds ≤ 1048576)
def OpenSpec.upto (s : _root_.Go.ChangeSpec) : _root_.Go.OpenSpec := { _root_.Go.OpenSpec.ofChange s with cond := some uptoSmall }

/-- 'cordwoodlaw9.EpochPlays', WHERE WHAT IT READS IS OF BULK AT MOST 1048576: true; the input reads as it did. -/
def epochPlaysUptoRow : OpenClaim := { program := "ytdlcpcpcojpecaadoor", sum := "d60265b32d364decebf5d95fa459f705a343ac587e03986deaec3160218e70f5", func := "cordwood/cordwoodlaw9.EpochPlays", spec := "epochPlays", unfollowed := true, recurses := true, named := ["cordwood/api.ErrMany", "cordwood/api.ErrRange", "cordwood/api.ErrShape", "cordwood/api.ErrEnd", "cordwood/api.ErrSum", "cordwood/api.ErrName", "cordwood/api.ErrNone", "cordwood/api.ErrThere", "cordwood/api.ErrFull", "cordwood/api.ErrCrash", "cordwood/api.ErrStore", "cordwood/api.ErrKind", "cordwood/api.ErrState", "cordwood/api.ErrFenced", "cordwood/api.ErrOutside", "cordwood/api.ErrUnavail", "cordwood/api.ErrWord", "cordwood/api.ErrNumber", "cordwood/api.ErrClosed"], apart := false, laid := [("cordwood/api.ErrEnd", laid_cordwood_api_ErrEnd), ("cordwood/api.ErrSum", laid_cordwood_api_ErrSum), ("cordwood/api.ErrShape", laid_cordwood_api_ErrShape), ("cordwood/api.ErrMany", laid_cordwood_api_ErrMany), ("cordwood/api.ErrRange", laid_cordwood_api_ErrRange), ("cordwood/api.ErrName", laid_cordwood_api_ErrName), ("cordwood/api.ErrNone", laid_cordwood_api_ErrNone), ("cordwood/api.ErrThere", laid_cordwood_api_ErrThere), ("cordwood/api.ErrFull", laid_cordwood_api_ErrFull), ("cordwood/api.ErrCrash", laid_cordwood_api_ErrCrash), ("cordwood/api.ErrStore", laid_cordwood_api_ErrStore), ("cordwood/api.ErrKind", laid_cordwood_api_ErrKind), ("cordwood/api.ErrState", laid_cordwood_api_ErrState), ("cordwood/api.ErrFenced", laid_cordwood_api_ErrFenced), ("cordwood/api.ErrOutside", laid_cordwood_api_ErrOutside), ("cordwood/api.ErrUnavail", laid_cordwood_api_ErrUnavail), ("cordwood/api.ErrWord", laid_cordwood_api_ErrWord), ("cordwood/api.ErrNumber", laid_cordwood_api_ErrNumber), ("cordwood/api.ErrClosed", laid_cordwood_api_ErrClosed)], narrowed := true }
def EpochPlaysUptoSaid : Prop := epochPlaysUptoRow.holds Tryd.pinned (OpenSpec.upto epochPlaysSpec)

end Rows
end Go.Proofs.YtdlcpcpcojpecaaDoor
