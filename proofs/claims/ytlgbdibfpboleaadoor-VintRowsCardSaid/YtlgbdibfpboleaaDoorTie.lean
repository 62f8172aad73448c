/-
  DERIVED. GIVEN WITH THE SEED: THE PROGRAM's TIES (one call each: nine closed facts by the kernel) AND EACH ROW's TIE, after the 31st guide's Derived/Test/Toyas{Tie, Card}.lean. No idea stands in it: it is a product of the set-up. Laid BY PROGRAM, IN A SANDBOX (cutbox-door.mjs). By AI agents, Wed Nov 11 2026. No macro, syntax, notation, axiom, sorry.
-/
import Derived.Test.YtlgbdibfpboleaaDoorRows
import Derived.LaidByTextLater
import Derived.SevenTiedAt
import Derived.LaidSub
import Derived.LaidOnce
namespace Go.Proofs.YtlgbdibfpboleaaDoor
open Go
set_option maxRecDepth 100000
theorem seatTie1 : Tryd.prog.laidByTextLater [("cordwood/api.ErrEnd", Rows.laid_cordwood_api_ErrEnd), ("cordwood/api.ErrSum", Rows.laid_cordwood_api_ErrSum), ("cordwood/api.ErrShape", Rows.laid_cordwood_api_ErrShape), ("cordwood/api.ErrMany", Rows.laid_cordwood_api_ErrMany), ("cordwood/api.ErrRange", Rows.laid_cordwood_api_ErrRange), ("cordwood/api.ErrName", Rows.laid_cordwood_api_ErrName), ("cordwood/api.ErrNone", Rows.laid_cordwood_api_ErrNone), ("cordwood/api.ErrThere", Rows.laid_cordwood_api_ErrThere), ("cordwood/api.ErrFull", Rows.laid_cordwood_api_ErrFull), ("cordwood/api.ErrCrash", Rows.laid_cordwood_api_ErrCrash), ("cordwood/api.ErrStore", Rows.laid_cordwood_api_ErrStore), ("cordwood/api.ErrKind", Rows.laid_cordwood_api_ErrKind), ("cordwood/api.ErrState", Rows.laid_cordwood_api_ErrState), ("cordwood/api.ErrFenced", Rows.laid_cordwood_api_ErrFenced), ("cordwood/api.ErrOutside", Rows.laid_cordwood_api_ErrOutside), ("cordwood/api.ErrUnavail", Rows.laid_cordwood_api_ErrUnavail), ("cordwood/api.ErrWord", Rows.laid_cordwood_api_ErrWord), ("cordwood/api.ErrNumber", Rows.laid_cordwood_api_ErrNumber), ("cordwood/api.ErrClosed", Rows.laid_cordwood_api_ErrClosed)] [.sentinel, .sentinel, .sentinel, .sentinel, .sentinel, .sentinel, .sentinel, .sentinel, .sentinel, .sentinel, .sentinel, .sentinel, .sentinel, .sentinel, .sentinel, .sentinel, .sentinel, .sentinel, .sentinel] true :=
  Program.laidByTextLater_by_one 370 8 2 (by kernel_rfl) (by kernel_rfl) (by kernel_rfl) (by kernel_rfl) (by kernel_rfl) (by kernel_rfl) (fun _ _ => by kernel_rfl)
theorem noOwnUnsafe : Tryd.pinned.checked.prog.headLifts.contains "ownunsafe" = false := by kernel_rfl
theorem tie : Tryd.prog.laidByTextLater [("cordwood/api.ErrEnd", Rows.laid_cordwood_api_ErrEnd), ("cordwood/api.ErrSum", Rows.laid_cordwood_api_ErrSum), ("cordwood/api.ErrShape", Rows.laid_cordwood_api_ErrShape), ("cordwood/api.ErrMany", Rows.laid_cordwood_api_ErrMany), ("cordwood/api.ErrRange", Rows.laid_cordwood_api_ErrRange), ("cordwood/api.ErrName", Rows.laid_cordwood_api_ErrName), ("cordwood/api.ErrNone", Rows.laid_cordwood_api_ErrNone), ("cordwood/api.ErrThere", Rows.laid_cordwood_api_ErrThere), ("cordwood/api.ErrFull", Rows.laid_cordwood_api_ErrFull), ("cordwood/api.ErrCrash", Rows.laid_cordwood_api_ErrCrash), ("cordwood/api.ErrStore", Rows.laid_cordwood_api_ErrStore), ("cordwood/api.ErrKind", Rows.laid_cordwood_api_ErrKind), ("cordwood/api.ErrState", Rows.laid_cordwood_api_ErrState), ("cordwood/api.ErrFenced", Rows.laid_cordwood_api_ErrFenced), ("cordwood/api.ErrOutside", Rows.laid_cordwood_api_ErrOutside), ("cordwood/api.ErrUnavail", Rows.laid_cordwood_api_ErrUnavail), ("cordwood/api.ErrWord", Rows.laid_cordwood_api_ErrWord), ("cordwood/api.ErrNumber", Rows.laid_cordwood_api_ErrNumber), ("cordwood/api.ErrClosed", Rows.laid_cordwood_api_ErrClosed)] [.sentinel, .sentinel, .sentinel, .sentinel, .sentinel, .sentinel, .sentinel, .sentinel, .sentinel, .sentinel, .sentinel, .sentinel, .sentinel, .sentinel, .sentinel, .sentinel, .sentinel, .sentinel, .sentinel] true :=
  Program.laidByTextLater.sub seatTie1 ["cordwood/api.ErrEnd", "cordwood/api.ErrSum", "cordwood/api.ErrShape", "cordwood/api.ErrMany", "cordwood/api.ErrRange", "cordwood/api.ErrName", "cordwood/api.ErrNone", "cordwood/api.ErrThere", "cordwood/api.ErrFull", "cordwood/api.ErrCrash", "cordwood/api.ErrStore", "cordwood/api.ErrKind", "cordwood/api.ErrState", "cordwood/api.ErrFenced", "cordwood/api.ErrOutside", "cordwood/api.ErrUnavail", "cordwood/api.ErrWord", "cordwood/api.ErrNumber", "cordwood/api.ErrClosed"] (by kernel_rfl) (by kernel_rfl)
theorem vintSays_row_tie : Rows.vintSaysRow.laidByTextAt .later Tryd.pinned [.sentinel, .sentinel, .sentinel, .sentinel, .sentinel, .sentinel, .sentinel, .sentinel, .sentinel, .sentinel, .sentinel, .sentinel, .sentinel, .sentinel, .sentinel, .sentinel, .sentinel, .sentinel, .sentinel] true :=
  OpenClaim.laidByTextAt_later rfl rfl tie noOwnUnsafe
theorem vintBack_row_tie : Rows.vintBackRow.laidByTextAt .later Tryd.pinned [.sentinel, .sentinel, .sentinel, .sentinel, .sentinel, .sentinel, .sentinel, .sentinel, .sentinel, .sentinel, .sentinel, .sentinel, .sentinel, .sentinel, .sentinel, .sentinel, .sentinel, .sentinel, .sentinel] true :=
  OpenClaim.laidByTextAt_later rfl rfl tie noOwnUnsafe
theorem crcSays_row_tie : Rows.crcSaysRow.laidByTextAt .later Tryd.pinned [.sentinel, .sentinel, .sentinel, .sentinel, .sentinel, .sentinel, .sentinel, .sentinel, .sentinel, .sentinel, .sentinel, .sentinel, .sentinel, .sentinel, .sentinel, .sentinel, .sentinel, .sentinel, .sentinel] true :=
  OpenClaim.laidByTextAt_later rfl rfl tie noOwnUnsafe
theorem crcFinds_row_tie : Rows.crcFindsRow.laidByTextAt .later Tryd.pinned [.sentinel, .sentinel, .sentinel, .sentinel, .sentinel, .sentinel, .sentinel, .sentinel, .sentinel, .sentinel, .sentinel, .sentinel, .sentinel, .sentinel, .sentinel, .sentinel, .sentinel, .sentinel, .sentinel] true :=
  OpenClaim.laidByTextAt_later rfl rfl tie noOwnUnsafe
theorem crcBytes_row_tie : Rows.crcBytesRow.laidByTextAt .later Tryd.pinned [.sentinel, .sentinel, .sentinel, .sentinel, .sentinel, .sentinel, .sentinel, .sentinel, .sentinel, .sentinel, .sentinel, .sentinel, .sentinel, .sentinel, .sentinel, .sentinel, .sentinel, .sentinel, .sentinel] true :=
  OpenClaim.laidByTextAt_later rfl rfl tie noOwnUnsafe
theorem vintTexts_row_tie : Rows.vintTextsRow.laidByTextAt .later Tryd.pinned [.sentinel, .sentinel, .sentinel, .sentinel, .sentinel, .sentinel, .sentinel, .sentinel, .sentinel, .sentinel, .sentinel, .sentinel, .sentinel, .sentinel, .sentinel, .sentinel, .sentinel, .sentinel, .sentinel] true :=
  OpenClaim.laidByTextAt_later rfl rfl tie noOwnUnsafe
theorem vintRanges_row_tie : Rows.vintRangesRow.laidByTextAt .later Tryd.pinned [.sentinel, .sentinel, .sentinel, .sentinel, .sentinel, .sentinel, .sentinel, .sentinel, .sentinel, .sentinel, .sentinel, .sentinel, .sentinel, .sentinel, .sentinel, .sentinel, .sentinel, .sentinel, .sentinel] true :=
  OpenClaim.laidByTextAt_later rfl rfl tie noOwnUnsafe
theorem vintReads_row_tie : Rows.vintReadsRow.laidByTextAt .later Tryd.pinned [.sentinel, .sentinel, .sentinel, .sentinel, .sentinel, .sentinel, .sentinel, .sentinel, .sentinel, .sentinel, .sentinel, .sentinel, .sentinel, .sentinel, .sentinel, .sentinel, .sentinel, .sentinel, .sentinel] true :=
  OpenClaim.laidByTextAt_later rfl rfl tie noOwnUnsafe
theorem vintRows_row_tie : Rows.vintRowsRow.laidByTextAt .later Tryd.pinned [.sentinel, .sentinel, .sentinel, .sentinel, .sentinel, .sentinel, .sentinel, .sentinel, .sentinel, .sentinel, .sentinel, .sentinel, .sentinel, .sentinel, .sentinel, .sentinel, .sentinel, .sentinel, .sentinel] true :=
  OpenClaim.laidByTextAt_later rfl rfl tie noOwnUnsafe
theorem vintSaysUpto_row_tie : Rows.vintSaysUptoRow.laidByTextAt .later Tryd.pinned [.sentinel, .sentinel, .sentinel, .sentinel, .sentinel, .sentinel, .sentinel, .sentinel, .sentinel, .sentinel, .sentinel, .sentinel, .sentinel, .sentinel, .sentinel, .sentinel, .sentinel, .sentinel, .sentinel] true :=
  OpenClaim.laidByTextAt_later rfl rfl tie noOwnUnsafe
theorem vintBackUpto_row_tie : Rows.vintBackUptoRow.laidByTextAt .later Tryd.pinned [.sentinel, .sentinel, .sentinel, .sentinel, .sentinel, .sentinel, .sentinel, .sentinel, .sentinel, .sentinel, .sentinel, .sentinel, .sentinel, .sentinel, .sentinel, .sentinel, .sentinel, .sentinel, .sentinel] true :=
  OpenClaim.laidByTextAt_later rfl rfl tie noOwnUnsafe
theorem crcSaysUpto_row_tie : Rows.crcSaysUptoRow.laidByTextAt .later Tryd.pinned [.sentinel, .sentinel, .sentinel, .sentinel, .sentinel, .sentinel, .sentinel, .sentinel, .sentinel, .sentinel, .sentinel, .sentinel, .sentinel, .sentinel, .sentinel, .sentinel, .sentinel, .sentinel, .sentinel] true :=
  OpenClaim.laidByTextAt_later rfl rfl tie noOwnUnsafe
theorem crcFindsUpto_row_tie : Rows.crcFindsUptoRow.laidByTextAt .later Tryd.pinned [.sentinel, .sentinel, .sentinel, .sentinel, .sentinel, .sentinel, .sentinel, .sentinel, .sentinel, .sentinel, .sentinel, .sentinel, .sentinel, .sentinel, .sentinel, .sentinel, .sentinel, .sentinel, .sentinel] true :=
  OpenClaim.laidByTextAt_later rfl rfl tie noOwnUnsafe
theorem crcBytesUpto_row_tie : Rows.crcBytesUptoRow.laidByTextAt .later Tryd.pinned [.sentinel, .sentinel, .sentinel, .sentinel, .sentinel, .sentinel, .sentinel, .sentinel, .sentinel, .sentinel, .sentinel, .sentinel, .sentinel, .sentinel, .sentinel, .sentinel, .sentinel, .sentinel, .sentinel] true :=
  OpenClaim.laidByTextAt_later rfl rfl tie noOwnUnsafe
theorem vintTextsUpto_row_tie : Rows.vintTextsUptoRow.laidByTextAt .later Tryd.pinned [.sentinel, .sentinel, .sentinel, .sentinel, .sentinel, .sentinel, .sentinel, .sentinel, .sentinel, .sentinel, .sentinel, .sentinel, .sentinel, .sentinel, .sentinel, .sentinel, .sentinel, .sentinel, .sentinel] true :=
  OpenClaim.laidByTextAt_later rfl rfl tie noOwnUnsafe
theorem vintRangesUpto_row_tie : Rows.vintRangesUptoRow.laidByTextAt .later Tryd.pinned [.sentinel, .sentinel, .sentinel, .sentinel, .sentinel, .sentinel, .sentinel, .sentinel, .sentinel, .sentinel, .sentinel, .sentinel, .sentinel, .sentinel, .sentinel, .sentinel, .sentinel, .sentinel, .sentinel] true :=
  OpenClaim.laidByTextAt_later rfl rfl tie noOwnUnsafe
theorem vintReadsUpto_row_tie : Rows.vintReadsUptoRow.laidByTextAt .later Tryd.pinned [.sentinel, .sentinel, .sentinel, .sentinel, .sentinel, .sentinel, .sentinel, .sentinel, .sentinel, .sentinel, .sentinel, .sentinel, .sentinel, .sentinel, .sentinel, .sentinel, .sentinel, .sentinel, .sentinel] true :=
  OpenClaim.laidByTextAt_later rfl rfl tie noOwnUnsafe
theorem vintRowsUpto_row_tie : Rows.vintRowsUptoRow.laidByTextAt .later Tryd.pinned [.sentinel, .sentinel, .sentinel, .sentinel, .sentinel, .sentinel, .sentinel, .sentinel, .sentinel, .sentinel, .sentinel, .sentinel, .sentinel, .sentinel, .sentinel, .sentinel, .sentinel, .sentinel, .sentinel] true :=
  OpenClaim.laidByTextAt_later rfl rfl tie noOwnUnsafe
end Go.Proofs.YtlgbdibfpboleaaDoor
