/-
  DERIVED. GIVEN WITH THE SEED: THE PROGRAM's TIES (one call each: nine closed facts by the kernel) AND EACH ROW's TIE, after the 31st guide's Derived/Test/Toyas{Tie, Card}.lean. No idea stands in it: it is a product of the set-up. Laid BY PROGRAM, IN A SANDBOX (cutbox-door.mjs). By AI agents, Wed Nov 11 2026. No macro, syntax, notation, axiom, sorry.
-/
import Derived.Test.YtikjigkkhdkibaaGreatDoorRows
import Derived.LaidByTextLater
import Derived.SevenTiedAt
import Derived.LaidSub
import Derived.LaidOnce
namespace Go.Proofs.YtikjigkkhdkibaaGreatDoor
open Go
set_option maxRecDepth 100000
theorem seatTie1 : Tryz.prog.laidByTextLater [("errors.errorType", Rows.laid_errors_errorType), ("aviary/field.errMore", Rows.laid_aviary_field_errMore), ("aviary/field.errNone", Rows.laid_aviary_field_errNone), ("aviary/code.errMore", Rows.laid_aviary_code_errMore), ("aviary/code.errNone", Rows.laid_aviary_code_errNone)] [.handle, .sentinel, .sentinel, .sentinel, .sentinel] true :=
  Program.laidByTextLater_by_one 102 8 33 (by kernel_rfl) (by kernel_rfl) (by kernel_rfl) (by kernel_rfl) (by kernel_rfl) (by kernel_rfl) (fun _ _ => by kernel_rfl)
theorem noOwnUnsafe : Tryz.pinned.checked.prog.headLifts.contains "ownunsafe" = false := by kernel_rfl
theorem tie : Tryz.prog.laidByTextLater [("errors.errorType", Rows.laid_errors_errorType)] [.handle] true :=
  Program.laidByTextLater.sub seatTie1 ["errors.errorType"] (by kernel_rfl) (by kernel_rfl)
theorem ladderMerges_row_tie : Rows.ladderMergesRow.laidByTextAt .later Tryz.pinned [.handle] true :=
  OpenClaim.laidByTextAt_later rfl rfl tie noOwnUnsafe
theorem ladderLowers_row_tie : Rows.ladderLowersRow.laidByTextAt .later Tryz.pinned [.handle] true :=
  OpenClaim.laidByTextAt_later rfl rfl tie noOwnUnsafe
theorem ladderCosts_row_tie : Rows.ladderCostsRow.laidByTextAt .later Tryz.pinned [.handle] true :=
  OpenClaim.laidByTextAt_later rfl rfl tie noOwnUnsafe
theorem ladderParts_row_tie : Rows.ladderPartsRow.laidByTextAt .later Tryz.pinned [.handle] true :=
  OpenClaim.laidByTextAt_later rfl rfl tie noOwnUnsafe
theorem ladderRules_row_tie : Rows.ladderRulesRow.laidByTextAt .later Tryz.pinned [.handle] true :=
  OpenClaim.laidByTextAt_later rfl rfl tie noOwnUnsafe
theorem ladderAdds_row_tie : Rows.ladderAddsRow.laidByTextAt .later Tryz.pinned [.handle] true :=
  OpenClaim.laidByTextAt_later rfl rfl tie noOwnUnsafe
theorem ladderAsks_row_tie : Rows.ladderAsksRow.laidByTextAt .later Tryz.pinned [.handle] true :=
  OpenClaim.laidByTextAt_later rfl rfl tie noOwnUnsafe
theorem tie2 : Tryz.prog.laidByTextLater [("errors.errorType", Rows.laid_errors_errorType), ("aviary/field.errMore", Rows.laid_aviary_field_errMore), ("aviary/field.errNone", Rows.laid_aviary_field_errNone), ("aviary/code.errMore", Rows.laid_aviary_code_errMore), ("aviary/code.errNone", Rows.laid_aviary_code_errNone)] [.handle, .sentinel, .sentinel, .sentinel, .sentinel] true :=
  Program.laidByTextLater.sub seatTie1 ["errors.errorType", "aviary/field.errMore", "aviary/field.errNone", "aviary/code.errMore", "aviary/code.errNone"] (by kernel_rfl) (by kernel_rfl)
theorem codeMerges_row_tie : Rows.codeMergesRow.laidByTextAt .later Tryz.pinned [.handle, .sentinel, .sentinel, .sentinel, .sentinel] true :=
  OpenClaim.laidByTextAt_later rfl rfl tie2 noOwnUnsafe
theorem ladderMergesUpto_row_tie : Rows.ladderMergesUptoRow.laidByTextAt .later Tryz.pinned [.handle] true :=
  OpenClaim.laidByTextAt_later rfl rfl tie noOwnUnsafe
theorem ladderLowersUpto_row_tie : Rows.ladderLowersUptoRow.laidByTextAt .later Tryz.pinned [.handle] true :=
  OpenClaim.laidByTextAt_later rfl rfl tie noOwnUnsafe
theorem ladderCostsUpto_row_tie : Rows.ladderCostsUptoRow.laidByTextAt .later Tryz.pinned [.handle] true :=
  OpenClaim.laidByTextAt_later rfl rfl tie noOwnUnsafe
theorem ladderPartsUpto_row_tie : Rows.ladderPartsUptoRow.laidByTextAt .later Tryz.pinned [.handle] true :=
  OpenClaim.laidByTextAt_later rfl rfl tie noOwnUnsafe
theorem ladderRulesUpto_row_tie : Rows.ladderRulesUptoRow.laidByTextAt .later Tryz.pinned [.handle] true :=
  OpenClaim.laidByTextAt_later rfl rfl tie noOwnUnsafe
theorem ladderAddsUpto_row_tie : Rows.ladderAddsUptoRow.laidByTextAt .later Tryz.pinned [.handle] true :=
  OpenClaim.laidByTextAt_later rfl rfl tie noOwnUnsafe
theorem ladderAsksUpto_row_tie : Rows.ladderAsksUptoRow.laidByTextAt .later Tryz.pinned [.handle] true :=
  OpenClaim.laidByTextAt_later rfl rfl tie noOwnUnsafe
theorem codeMergesUpto_row_tie : Rows.codeMergesUptoRow.laidByTextAt .later Tryz.pinned [.handle, .sentinel, .sentinel, .sentinel, .sentinel] true :=
  OpenClaim.laidByTextAt_later rfl rfl tie2 noOwnUnsafe
end Go.Proofs.YtikjigkkhdkibaaGreatDoor
