/-
  DERIVED. GIVEN WITH THE SEED: THE PROGRAM's TIES (one call each: nine closed facts by the kernel) AND EACH ROW's TIE, after the 31st guide's Derived/Test/Toyas{Tie, Card}.lean. No idea stands in it: it is a product of the set-up. Laid BY PROGRAM, IN A SANDBOX (cutbox-door.mjs). By AI agents, Wed Nov 11 2026. No macro, syntax, notation, axiom, sorry.
-/
import Derived.Test.YtjhebnjajnjhhaaDoorRows
import Derived.LaidByTextLater
import Derived.SevenTiedAt
import Derived.LaidSub
import Derived.LaidOnce
namespace Go.Proofs.YtjhebnjajnjhhaaDoor
open Go
set_option maxRecDepth 100000
theorem seatTie1 : Tryd.prog.laidByTextLater [("cordwood/api.ErrEnd", Rows.laid_cordwood_api_ErrEnd), ("cordwood/api.ErrSum", Rows.laid_cordwood_api_ErrSum), ("cordwood/api.ErrShape", Rows.laid_cordwood_api_ErrShape), ("cordwood/api.ErrMany", Rows.laid_cordwood_api_ErrMany), ("cordwood/api.ErrRange", Rows.laid_cordwood_api_ErrRange), ("cordwood/api.ErrName", Rows.laid_cordwood_api_ErrName), ("cordwood/api.ErrNone", Rows.laid_cordwood_api_ErrNone), ("cordwood/api.ErrThere", Rows.laid_cordwood_api_ErrThere), ("cordwood/api.ErrFull", Rows.laid_cordwood_api_ErrFull), ("cordwood/api.ErrCrash", Rows.laid_cordwood_api_ErrCrash), ("cordwood/api.ErrStore", Rows.laid_cordwood_api_ErrStore), ("cordwood/api.ErrKind", Rows.laid_cordwood_api_ErrKind), ("cordwood/api.ErrState", Rows.laid_cordwood_api_ErrState), ("cordwood/api.ErrFenced", Rows.laid_cordwood_api_ErrFenced), ("cordwood/api.ErrOutside", Rows.laid_cordwood_api_ErrOutside), ("cordwood/api.ErrUnavail", Rows.laid_cordwood_api_ErrUnavail), ("cordwood/api.ErrWord", Rows.laid_cordwood_api_ErrWord), ("cordwood/api.ErrNumber", Rows.laid_cordwood_api_ErrNumber), ("cordwood/api.ErrClosed", Rows.laid_cordwood_api_ErrClosed)] [.sentinel, .sentinel, .sentinel, .sentinel, .sentinel, .sentinel, .sentinel, .sentinel, .sentinel, .sentinel, .sentinel, .sentinel, .sentinel, .sentinel, .sentinel, .sentinel, .sentinel, .sentinel, .sentinel] true :=
  Program.laidByTextLater_by_one 370 8 2 (by kernel_rfl) (by kernel_rfl) (by kernel_rfl) (by kernel_rfl) (by kernel_rfl) (by kernel_rfl) (fun _ _ => by kernel_rfl)
theorem noOwnUnsafe : Tryd.pinned.checked.prog.headLifts.contains "ownunsafe" = false := by kernel_rfl
theorem tie : Tryd.prog.laidByTextLater [("cordwood/api.ErrEnd", Rows.laid_cordwood_api_ErrEnd), ("cordwood/api.ErrSum", Rows.laid_cordwood_api_ErrSum), ("cordwood/api.ErrShape", Rows.laid_cordwood_api_ErrShape), ("cordwood/api.ErrMany", Rows.laid_cordwood_api_ErrMany), ("cordwood/api.ErrRange", Rows.laid_cordwood_api_ErrRange), ("cordwood/api.ErrName", Rows.laid_cordwood_api_ErrName), ("cordwood/api.ErrNone", Rows.laid_cordwood_api_ErrNone), ("cordwood/api.ErrThere", Rows.laid_cordwood_api_ErrThere), ("cordwood/api.ErrFull", Rows.laid_cordwood_api_ErrFull), ("cordwood/api.ErrCrash", Rows.laid_cordwood_api_ErrCrash), ("cordwood/api.ErrStore", Rows.laid_cordwood_api_ErrStore), ("cordwood/api.ErrKind", Rows.laid_cordwood_api_ErrKind), ("cordwood/api.ErrState", Rows.laid_cordwood_api_ErrState), ("cordwood/api.ErrFenced", Rows.laid_cordwood_api_ErrFenced), ("cordwood/api.ErrOutside", Rows.laid_cordwood_api_ErrOutside), ("cordwood/api.ErrUnavail", Rows.laid_cordwood_api_ErrUnavail), ("cordwood/api.ErrWord", Rows.laid_cordwood_api_ErrWord), ("cordwood/api.ErrNumber", Rows.laid_cordwood_api_ErrNumber), ("cordwood/api.ErrClosed", Rows.laid_cordwood_api_ErrClosed)] [.sentinel, .sentinel, .sentinel, .sentinel, .sentinel, .sentinel, .sentinel, .sentinel, .sentinel, .sentinel, .sentinel, .sentinel, .sentinel, .sentinel, .sentinel, .sentinel, .sentinel, .sentinel, .sentinel] true :=
  Program.laidByTextLater.sub seatTie1 ["cordwood/api.ErrEnd", "cordwood/api.ErrSum", "cordwood/api.ErrShape", "cordwood/api.ErrMany", "cordwood/api.ErrRange", "cordwood/api.ErrName", "cordwood/api.ErrNone", "cordwood/api.ErrThere", "cordwood/api.ErrFull", "cordwood/api.ErrCrash", "cordwood/api.ErrStore", "cordwood/api.ErrKind", "cordwood/api.ErrState", "cordwood/api.ErrFenced", "cordwood/api.ErrOutside", "cordwood/api.ErrUnavail", "cordwood/api.ErrWord", "cordwood/api.ErrNumber", "cordwood/api.ErrClosed"] (by kernel_rfl) (by kernel_rfl)
theorem indexTimes_row_tie : Rows.indexTimesRow.laidByTextAt .later Tryd.pinned [.sentinel, .sentinel, .sentinel, .sentinel, .sentinel, .sentinel, .sentinel, .sentinel, .sentinel, .sentinel, .sentinel, .sentinel, .sentinel, .sentinel, .sentinel, .sentinel, .sentinel, .sentinel, .sentinel] true :=
  OpenClaim.laidByTextAt_later rfl rfl tie noOwnUnsafe
theorem epochLeads_row_tie : Rows.epochLeadsRow.laidByTextAt .later Tryd.pinned [.sentinel, .sentinel, .sentinel, .sentinel, .sentinel, .sentinel, .sentinel, .sentinel, .sentinel, .sentinel, .sentinel, .sentinel, .sentinel, .sentinel, .sentinel, .sentinel, .sentinel, .sentinel, .sentinel] true :=
  OpenClaim.laidByTextAt_later rfl rfl tie noOwnUnsafe
theorem epochBytes_row_tie : Rows.epochBytesRow.laidByTextAt .later Tryd.pinned [.sentinel, .sentinel, .sentinel, .sentinel, .sentinel, .sentinel, .sentinel, .sentinel, .sentinel, .sentinel, .sentinel, .sentinel, .sentinel, .sentinel, .sentinel, .sentinel, .sentinel, .sentinel, .sentinel] true :=
  OpenClaim.laidByTextAt_later rfl rfl tie noOwnUnsafe
theorem epochPlays_row_tie : Rows.epochPlaysRow.laidByTextAt .later Tryd.pinned [.sentinel, .sentinel, .sentinel, .sentinel, .sentinel, .sentinel, .sentinel, .sentinel, .sentinel, .sentinel, .sentinel, .sentinel, .sentinel, .sentinel, .sentinel, .sentinel, .sentinel, .sentinel, .sentinel] true :=
  OpenClaim.laidByTextAt_later rfl rfl tie noOwnUnsafe
theorem indexReads_row_tie : Rows.indexReadsRow.laidByTextAt .later Tryd.pinned [.sentinel, .sentinel, .sentinel, .sentinel, .sentinel, .sentinel, .sentinel, .sentinel, .sentinel, .sentinel, .sentinel, .sentinel, .sentinel, .sentinel, .sentinel, .sentinel, .sentinel, .sentinel, .sentinel] true :=
  OpenClaim.laidByTextAt_later rfl rfl tie noOwnUnsafe
theorem indexSpoilt_row_tie : Rows.indexSpoiltRow.laidByTextAt .later Tryd.pinned [.sentinel, .sentinel, .sentinel, .sentinel, .sentinel, .sentinel, .sentinel, .sentinel, .sentinel, .sentinel, .sentinel, .sentinel, .sentinel, .sentinel, .sentinel, .sentinel, .sentinel, .sentinel, .sentinel] true :=
  OpenClaim.laidByTextAt_later rfl rfl tie noOwnUnsafe
theorem tie2 : Tryd.prog.laidByTextLater [("cordwood/api.ErrRange", Rows.laid_cordwood_api_ErrRange)] [.sentinel] true :=
  Program.laidByTextLater.sub seatTie1 ["cordwood/api.ErrRange"] (by kernel_rfl) (by kernel_rfl)
theorem indexFinds_row_tie : Rows.indexFindsRow.laidByTextAt .later Tryd.pinned [.sentinel] true :=
  OpenClaim.laidByTextAt_later rfl rfl tie2 noOwnUnsafe
theorem indexCuts_row_tie : Rows.indexCutsRow.laidByTextAt .later Tryd.pinned [.sentinel] true :=
  OpenClaim.laidByTextAt_later rfl rfl tie2 noOwnUnsafe
theorem tie3 : Tryd.prog.laidByTextLater [("cordwood/api.ErrShape", Rows.laid_cordwood_api_ErrShape), ("cordwood/api.ErrMany", Rows.laid_cordwood_api_ErrMany), ("cordwood/api.ErrRange", Rows.laid_cordwood_api_ErrRange)] [.sentinel, .sentinel, .sentinel] true :=
  Program.laidByTextLater.sub seatTie1 ["cordwood/api.ErrShape", "cordwood/api.ErrMany", "cordwood/api.ErrRange"] (by kernel_rfl) (by kernel_rfl)
theorem epochEnds_row_tie : Rows.epochEndsRow.laidByTextAt .later Tryd.pinned [.sentinel, .sentinel, .sentinel] true :=
  OpenClaim.laidByTextAt_later rfl rfl tie3 noOwnUnsafe
theorem epochCuts_row_tie : Rows.epochCutsRow.laidByTextAt .later Tryd.pinned [.sentinel, .sentinel, .sentinel] true :=
  OpenClaim.laidByTextAt_later rfl rfl tie3 noOwnUnsafe
theorem tie4 : Tryd.prog.laidByTextLater [("cordwood/api.ErrShape", Rows.laid_cordwood_api_ErrShape), ("cordwood/api.ErrMany", Rows.laid_cordwood_api_ErrMany), ("cordwood/api.ErrRange", Rows.laid_cordwood_api_ErrRange), ("cordwood/api.ErrFenced", Rows.laid_cordwood_api_ErrFenced)] [.sentinel, .sentinel, .sentinel, .sentinel] true :=
  Program.laidByTextLater.sub seatTie1 ["cordwood/api.ErrShape", "cordwood/api.ErrMany", "cordwood/api.ErrRange", "cordwood/api.ErrFenced"] (by kernel_rfl) (by kernel_rfl)
theorem epochSpans_row_tie : Rows.epochSpansRow.laidByTextAt .later Tryd.pinned [.sentinel, .sentinel, .sentinel, .sentinel] true :=
  OpenClaim.laidByTextAt_later rfl rfl tie4 noOwnUnsafe
theorem tie5 : Tryd.prog.laidByTextLater [("cordwood/api.ErrEnd", Rows.laid_cordwood_api_ErrEnd), ("cordwood/api.ErrShape", Rows.laid_cordwood_api_ErrShape), ("cordwood/api.ErrMany", Rows.laid_cordwood_api_ErrMany), ("cordwood/api.ErrRange", Rows.laid_cordwood_api_ErrRange), ("cordwood/api.ErrFenced", Rows.laid_cordwood_api_ErrFenced)] [.sentinel, .sentinel, .sentinel, .sentinel, .sentinel] true :=
  Program.laidByTextLater.sub seatTie1 ["cordwood/api.ErrEnd", "cordwood/api.ErrShape", "cordwood/api.ErrMany", "cordwood/api.ErrRange", "cordwood/api.ErrFenced"] (by kernel_rfl) (by kernel_rfl)
theorem epochMany_row_tie : Rows.epochManyRow.laidByTextAt .later Tryd.pinned [.sentinel, .sentinel, .sentinel, .sentinel, .sentinel] true :=
  OpenClaim.laidByTextAt_later rfl rfl tie5 noOwnUnsafe
theorem tie6 : Tryd.prog.laidByTextLater [("cordwood/api.ErrEnd", Rows.laid_cordwood_api_ErrEnd), ("cordwood/api.ErrSum", Rows.laid_cordwood_api_ErrSum), ("cordwood/api.ErrShape", Rows.laid_cordwood_api_ErrShape), ("cordwood/api.ErrRange", Rows.laid_cordwood_api_ErrRange)] [.sentinel, .sentinel, .sentinel, .sentinel] true :=
  Program.laidByTextLater.sub seatTie1 ["cordwood/api.ErrEnd", "cordwood/api.ErrSum", "cordwood/api.ErrShape", "cordwood/api.ErrRange"] (by kernel_rfl) (by kernel_rfl)
theorem indexBack_row_tie : Rows.indexBackRow.laidByTextAt .later Tryd.pinned [.sentinel, .sentinel, .sentinel, .sentinel] true :=
  OpenClaim.laidByTextAt_later rfl rfl tie6 noOwnUnsafe
theorem indexTimesUpto_row_tie : Rows.indexTimesUptoRow.laidByTextAt .later Tryd.pinned [.sentinel, .sentinel, .sentinel, .sentinel, .sentinel, .sentinel, .sentinel, .sentinel, .sentinel, .sentinel, .sentinel, .sentinel, .sentinel, .sentinel, .sentinel, .sentinel, .sentinel, .sentinel, .sentinel] true :=
  OpenClaim.laidByTextAt_later rfl rfl tie noOwnUnsafe
theorem indexFindsUpto_row_tie : Rows.indexFindsUptoRow.laidByTextAt .later Tryd.pinned [.sentinel] true :=
  OpenClaim.laidByTextAt_later rfl rfl tie2 noOwnUnsafe
theorem epochEndsUpto_row_tie : Rows.epochEndsUptoRow.laidByTextAt .later Tryd.pinned [.sentinel, .sentinel, .sentinel] true :=
  OpenClaim.laidByTextAt_later rfl rfl tie3 noOwnUnsafe
theorem indexCutsUpto_row_tie : Rows.indexCutsUptoRow.laidByTextAt .later Tryd.pinned [.sentinel] true :=
  OpenClaim.laidByTextAt_later rfl rfl tie2 noOwnUnsafe
theorem epochCutsUpto_row_tie : Rows.epochCutsUptoRow.laidByTextAt .later Tryd.pinned [.sentinel, .sentinel, .sentinel] true :=
  OpenClaim.laidByTextAt_later rfl rfl tie3 noOwnUnsafe
theorem epochLeadsUpto_row_tie : Rows.epochLeadsUptoRow.laidByTextAt .later Tryd.pinned [.sentinel, .sentinel, .sentinel, .sentinel, .sentinel, .sentinel, .sentinel, .sentinel, .sentinel, .sentinel, .sentinel, .sentinel, .sentinel, .sentinel, .sentinel, .sentinel, .sentinel, .sentinel, .sentinel] true :=
  OpenClaim.laidByTextAt_later rfl rfl tie noOwnUnsafe
theorem epochBytesUpto_row_tie : Rows.epochBytesUptoRow.laidByTextAt .later Tryd.pinned [.sentinel, .sentinel, .sentinel, .sentinel, .sentinel, .sentinel, .sentinel, .sentinel, .sentinel, .sentinel, .sentinel, .sentinel, .sentinel, .sentinel, .sentinel, .sentinel, .sentinel, .sentinel, .sentinel] true :=
  OpenClaim.laidByTextAt_later rfl rfl tie noOwnUnsafe
theorem epochSpansUpto_row_tie : Rows.epochSpansUptoRow.laidByTextAt .later Tryd.pinned [.sentinel, .sentinel, .sentinel, .sentinel] true :=
  OpenClaim.laidByTextAt_later rfl rfl tie4 noOwnUnsafe
theorem epochPlaysUpto_row_tie : Rows.epochPlaysUptoRow.laidByTextAt .later Tryd.pinned [.sentinel, .sentinel, .sentinel, .sentinel, .sentinel, .sentinel, .sentinel, .sentinel, .sentinel, .sentinel, .sentinel, .sentinel, .sentinel, .sentinel, .sentinel, .sentinel, .sentinel, .sentinel, .sentinel] true :=
  OpenClaim.laidByTextAt_later rfl rfl tie noOwnUnsafe
theorem epochManyUpto_row_tie : Rows.epochManyUptoRow.laidByTextAt .later Tryd.pinned [.sentinel, .sentinel, .sentinel, .sentinel, .sentinel] true :=
  OpenClaim.laidByTextAt_later rfl rfl tie5 noOwnUnsafe
theorem indexReadsUpto_row_tie : Rows.indexReadsUptoRow.laidByTextAt .later Tryd.pinned [.sentinel, .sentinel, .sentinel, .sentinel, .sentinel, .sentinel, .sentinel, .sentinel, .sentinel, .sentinel, .sentinel, .sentinel, .sentinel, .sentinel, .sentinel, .sentinel, .sentinel, .sentinel, .sentinel] true :=
  OpenClaim.laidByTextAt_later rfl rfl tie noOwnUnsafe
theorem indexSpoiltUpto_row_tie : Rows.indexSpoiltUptoRow.laidByTextAt .later Tryd.pinned [.sentinel, .sentinel, .sentinel, .sentinel, .sentinel, .sentinel, .sentinel, .sentinel, .sentinel, .sentinel, .sentinel, .sentinel, .sentinel, .sentinel, .sentinel, .sentinel, .sentinel, .sentinel, .sentinel] true :=
  OpenClaim.laidByTextAt_later rfl rfl tie noOwnUnsafe
theorem indexBackUpto_row_tie : Rows.indexBackUptoRow.laidByTextAt .later Tryd.pinned [.sentinel, .sentinel, .sentinel, .sentinel] true :=
  OpenClaim.laidByTextAt_later rfl rfl tie6 noOwnUnsafe
end Go.Proofs.YtjhebnjajnjhhaaDoor
