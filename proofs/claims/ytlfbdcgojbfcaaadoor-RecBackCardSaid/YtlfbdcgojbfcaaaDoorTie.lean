/-
  DERIVED. GIVEN WITH THE SEED: THE PROGRAM's TIES (one call each: nine closed facts by the kernel) AND EACH ROW's TIE, after the 31st guide's Derived/Test/Toyas{Tie, Card}.lean. No idea stands in it: it is a product of the set-up. Laid BY PROGRAM, IN A SANDBOX (cutbox-door.mjs). By AI agents, Wed Nov 11 2026. No macro, syntax, notation, axiom, sorry.
-/
import Derived.Test.YtlfbdcgojbfcaaaDoorRows
import Derived.LaidByTextLater
import Derived.SevenTiedAt
import Derived.LaidSub
import Derived.LaidOnce
namespace Go.Proofs.YtlfbdcgojbfcaaaDoor
open Go
set_option maxRecDepth 100000
theorem seatTie1 : Tryd.prog.laidByTextLater [("cordwood/api.ErrEnd", Rows.laid_cordwood_api_ErrEnd), ("cordwood/api.ErrSum", Rows.laid_cordwood_api_ErrSum), ("cordwood/api.ErrShape", Rows.laid_cordwood_api_ErrShape), ("cordwood/api.ErrMany", Rows.laid_cordwood_api_ErrMany), ("cordwood/api.ErrRange", Rows.laid_cordwood_api_ErrRange), ("cordwood/api.ErrName", Rows.laid_cordwood_api_ErrName), ("cordwood/api.ErrNone", Rows.laid_cordwood_api_ErrNone), ("cordwood/api.ErrThere", Rows.laid_cordwood_api_ErrThere), ("cordwood/api.ErrFull", Rows.laid_cordwood_api_ErrFull), ("cordwood/api.ErrCrash", Rows.laid_cordwood_api_ErrCrash), ("cordwood/api.ErrStore", Rows.laid_cordwood_api_ErrStore), ("cordwood/api.ErrKind", Rows.laid_cordwood_api_ErrKind), ("cordwood/api.ErrState", Rows.laid_cordwood_api_ErrState), ("cordwood/api.ErrFenced", Rows.laid_cordwood_api_ErrFenced), ("cordwood/api.ErrOutside", Rows.laid_cordwood_api_ErrOutside), ("cordwood/api.ErrUnavail", Rows.laid_cordwood_api_ErrUnavail), ("cordwood/api.ErrWord", Rows.laid_cordwood_api_ErrWord), ("cordwood/api.ErrNumber", Rows.laid_cordwood_api_ErrNumber), ("cordwood/api.ErrClosed", Rows.laid_cordwood_api_ErrClosed)] [.sentinel, .sentinel, .sentinel, .sentinel, .sentinel, .sentinel, .sentinel, .sentinel, .sentinel, .sentinel, .sentinel, .sentinel, .sentinel, .sentinel, .sentinel, .sentinel, .sentinel, .sentinel, .sentinel] true :=
  Program.laidByTextLater_by_one 370 8 2 (by kernel_rfl) (by kernel_rfl) (by kernel_rfl) (by kernel_rfl) (by kernel_rfl) (by kernel_rfl) (fun _ _ => by kernel_rfl)
theorem noOwnUnsafe : Tryd.pinned.checked.prog.headLifts.contains "ownunsafe" = false := by kernel_rfl
theorem tie : Tryd.prog.laidByTextLater [("cordwood/api.ErrMany", Rows.laid_cordwood_api_ErrMany), ("cordwood/api.ErrRange", Rows.laid_cordwood_api_ErrRange)] [.sentinel, .sentinel] true :=
  Program.laidByTextLater.sub seatTie1 ["cordwood/api.ErrMany", "cordwood/api.ErrRange"] (by kernel_rfl) (by kernel_rfl)
theorem routeCuts_row_tie : Rows.routeCutsRow.laidByTextAt .later Tryd.pinned [.sentinel, .sentinel] true :=
  OpenClaim.laidByTextAt_later rfl rfl tie noOwnUnsafe
theorem routePieces_row_tie : Rows.routePiecesRow.laidByTextAt .later Tryd.pinned [.sentinel, .sentinel] true :=
  OpenClaim.laidByTextAt_later rfl rfl tie noOwnUnsafe
theorem routeLimits_row_tie : Rows.routeLimitsRow.laidByTextAt .later Tryd.pinned [.sentinel, .sentinel] true :=
  OpenClaim.laidByTextAt_later rfl rfl tie noOwnUnsafe
theorem recEach_row_tie : Rows.recEachRow.laidByTextAt .later Tryd.pinned [.sentinel, .sentinel] true :=
  OpenClaim.laidByTextAt_later rfl rfl tie noOwnUnsafe
theorem tie2 : Tryd.prog.laidByTextLater [("cordwood/api.ErrEnd", Rows.laid_cordwood_api_ErrEnd), ("cordwood/api.ErrSum", Rows.laid_cordwood_api_ErrSum), ("cordwood/api.ErrShape", Rows.laid_cordwood_api_ErrShape), ("cordwood/api.ErrMany", Rows.laid_cordwood_api_ErrMany), ("cordwood/api.ErrRange", Rows.laid_cordwood_api_ErrRange), ("cordwood/api.ErrName", Rows.laid_cordwood_api_ErrName), ("cordwood/api.ErrNone", Rows.laid_cordwood_api_ErrNone), ("cordwood/api.ErrThere", Rows.laid_cordwood_api_ErrThere), ("cordwood/api.ErrFull", Rows.laid_cordwood_api_ErrFull), ("cordwood/api.ErrCrash", Rows.laid_cordwood_api_ErrCrash), ("cordwood/api.ErrStore", Rows.laid_cordwood_api_ErrStore), ("cordwood/api.ErrKind", Rows.laid_cordwood_api_ErrKind), ("cordwood/api.ErrState", Rows.laid_cordwood_api_ErrState), ("cordwood/api.ErrFenced", Rows.laid_cordwood_api_ErrFenced), ("cordwood/api.ErrOutside", Rows.laid_cordwood_api_ErrOutside), ("cordwood/api.ErrUnavail", Rows.laid_cordwood_api_ErrUnavail), ("cordwood/api.ErrWord", Rows.laid_cordwood_api_ErrWord), ("cordwood/api.ErrNumber", Rows.laid_cordwood_api_ErrNumber), ("cordwood/api.ErrClosed", Rows.laid_cordwood_api_ErrClosed)] [.sentinel, .sentinel, .sentinel, .sentinel, .sentinel, .sentinel, .sentinel, .sentinel, .sentinel, .sentinel, .sentinel, .sentinel, .sentinel, .sentinel, .sentinel, .sentinel, .sentinel, .sentinel, .sentinel] true :=
  Program.laidByTextLater.sub seatTie1 ["cordwood/api.ErrEnd", "cordwood/api.ErrSum", "cordwood/api.ErrShape", "cordwood/api.ErrMany", "cordwood/api.ErrRange", "cordwood/api.ErrName", "cordwood/api.ErrNone", "cordwood/api.ErrThere", "cordwood/api.ErrFull", "cordwood/api.ErrCrash", "cordwood/api.ErrStore", "cordwood/api.ErrKind", "cordwood/api.ErrState", "cordwood/api.ErrFenced", "cordwood/api.ErrOutside", "cordwood/api.ErrUnavail", "cordwood/api.ErrWord", "cordwood/api.ErrNumber", "cordwood/api.ErrClosed"] (by kernel_rfl) (by kernel_rfl)
theorem recBack_row_tie : Rows.recBackRow.laidByTextAt .later Tryd.pinned [.sentinel, .sentinel, .sentinel, .sentinel, .sentinel, .sentinel, .sentinel, .sentinel, .sentinel, .sentinel, .sentinel, .sentinel, .sentinel, .sentinel, .sentinel, .sentinel, .sentinel, .sentinel, .sentinel] true :=
  OpenClaim.laidByTextAt_later rfl rfl tie2 noOwnUnsafe
theorem recBounds_row_tie : Rows.recBoundsRow.laidByTextAt .later Tryd.pinned [.sentinel, .sentinel, .sentinel, .sentinel, .sentinel, .sentinel, .sentinel, .sentinel, .sentinel, .sentinel, .sentinel, .sentinel, .sentinel, .sentinel, .sentinel, .sentinel, .sentinel, .sentinel, .sentinel] true :=
  OpenClaim.laidByTextAt_later rfl rfl tie2 noOwnUnsafe
theorem recReads_row_tie : Rows.recReadsRow.laidByTextAt .later Tryd.pinned [.sentinel, .sentinel, .sentinel, .sentinel, .sentinel, .sentinel, .sentinel, .sentinel, .sentinel, .sentinel, .sentinel, .sentinel, .sentinel, .sentinel, .sentinel, .sentinel, .sentinel, .sentinel, .sentinel] true :=
  OpenClaim.laidByTextAt_later rfl rfl tie2 noOwnUnsafe
theorem recSpoilt_row_tie : Rows.recSpoiltRow.laidByTextAt .later Tryd.pinned [.sentinel, .sentinel, .sentinel, .sentinel, .sentinel, .sentinel, .sentinel, .sentinel, .sentinel, .sentinel, .sentinel, .sentinel, .sentinel, .sentinel, .sentinel, .sentinel, .sentinel, .sentinel, .sentinel] true :=
  OpenClaim.laidByTextAt_later rfl rfl tie2 noOwnUnsafe
theorem recRows_row_tie : Rows.recRowsRow.laidByTextAt .later Tryd.pinned [.sentinel, .sentinel, .sentinel, .sentinel, .sentinel, .sentinel, .sentinel, .sentinel, .sentinel, .sentinel, .sentinel, .sentinel, .sentinel, .sentinel, .sentinel, .sentinel, .sentinel, .sentinel, .sentinel] true :=
  OpenClaim.laidByTextAt_later rfl rfl tie2 noOwnUnsafe
theorem tie3 : Tryd.prog.laidByTextLater [("cordwood/api.ErrEnd", Rows.laid_cordwood_api_ErrEnd), ("cordwood/api.ErrSum", Rows.laid_cordwood_api_ErrSum), ("cordwood/api.ErrShape", Rows.laid_cordwood_api_ErrShape), ("cordwood/api.ErrMany", Rows.laid_cordwood_api_ErrMany), ("cordwood/api.ErrRange", Rows.laid_cordwood_api_ErrRange)] [.sentinel, .sentinel, .sentinel, .sentinel, .sentinel] true :=
  Program.laidByTextLater.sub seatTie1 ["cordwood/api.ErrEnd", "cordwood/api.ErrSum", "cordwood/api.ErrShape", "cordwood/api.ErrMany", "cordwood/api.ErrRange"] (by kernel_rfl) (by kernel_rfl)
theorem recTimes_row_tie : Rows.recTimesRow.laidByTextAt .later Tryd.pinned [.sentinel, .sentinel, .sentinel, .sentinel, .sentinel] true :=
  OpenClaim.laidByTextAt_later rfl rfl tie3 noOwnUnsafe
theorem routeCutsUpto_row_tie : Rows.routeCutsUptoRow.laidByTextAt .later Tryd.pinned [.sentinel, .sentinel] true :=
  OpenClaim.laidByTextAt_later rfl rfl tie noOwnUnsafe
theorem routePiecesUpto_row_tie : Rows.routePiecesUptoRow.laidByTextAt .later Tryd.pinned [.sentinel, .sentinel] true :=
  OpenClaim.laidByTextAt_later rfl rfl tie noOwnUnsafe
theorem routeLimitsUpto_row_tie : Rows.routeLimitsUptoRow.laidByTextAt .later Tryd.pinned [.sentinel, .sentinel] true :=
  OpenClaim.laidByTextAt_later rfl rfl tie noOwnUnsafe
theorem recEachUpto_row_tie : Rows.recEachUptoRow.laidByTextAt .later Tryd.pinned [.sentinel, .sentinel] true :=
  OpenClaim.laidByTextAt_later rfl rfl tie noOwnUnsafe
theorem recBackUpto_row_tie : Rows.recBackUptoRow.laidByTextAt .later Tryd.pinned [.sentinel, .sentinel, .sentinel, .sentinel, .sentinel, .sentinel, .sentinel, .sentinel, .sentinel, .sentinel, .sentinel, .sentinel, .sentinel, .sentinel, .sentinel, .sentinel, .sentinel, .sentinel, .sentinel] true :=
  OpenClaim.laidByTextAt_later rfl rfl tie2 noOwnUnsafe
theorem recBoundsUpto_row_tie : Rows.recBoundsUptoRow.laidByTextAt .later Tryd.pinned [.sentinel, .sentinel, .sentinel, .sentinel, .sentinel, .sentinel, .sentinel, .sentinel, .sentinel, .sentinel, .sentinel, .sentinel, .sentinel, .sentinel, .sentinel, .sentinel, .sentinel, .sentinel, .sentinel] true :=
  OpenClaim.laidByTextAt_later rfl rfl tie2 noOwnUnsafe
theorem recTimesUpto_row_tie : Rows.recTimesUptoRow.laidByTextAt .later Tryd.pinned [.sentinel, .sentinel, .sentinel, .sentinel, .sentinel] true :=
  OpenClaim.laidByTextAt_later rfl rfl tie3 noOwnUnsafe
theorem recReadsUpto_row_tie : Rows.recReadsUptoRow.laidByTextAt .later Tryd.pinned [.sentinel, .sentinel, .sentinel, .sentinel, .sentinel, .sentinel, .sentinel, .sentinel, .sentinel, .sentinel, .sentinel, .sentinel, .sentinel, .sentinel, .sentinel, .sentinel, .sentinel, .sentinel, .sentinel] true :=
  OpenClaim.laidByTextAt_later rfl rfl tie2 noOwnUnsafe
theorem recSpoiltUpto_row_tie : Rows.recSpoiltUptoRow.laidByTextAt .later Tryd.pinned [.sentinel, .sentinel, .sentinel, .sentinel, .sentinel, .sentinel, .sentinel, .sentinel, .sentinel, .sentinel, .sentinel, .sentinel, .sentinel, .sentinel, .sentinel, .sentinel, .sentinel, .sentinel, .sentinel] true :=
  OpenClaim.laidByTextAt_later rfl rfl tie2 noOwnUnsafe
theorem recRowsUpto_row_tie : Rows.recRowsUptoRow.laidByTextAt .later Tryd.pinned [.sentinel, .sentinel, .sentinel, .sentinel, .sentinel, .sentinel, .sentinel, .sentinel, .sentinel, .sentinel, .sentinel, .sentinel, .sentinel, .sentinel, .sentinel, .sentinel, .sentinel, .sentinel, .sentinel] true :=
  OpenClaim.laidByTextAt_later rfl rfl tie2 noOwnUnsafe
end Go.Proofs.YtlfbdcgojbfcaaaDoor
