/-
  DERIVED. GIVEN WITH THE SEED: THE PROGRAM's TIES (one call each: nine closed facts by the kernel) AND EACH ROW's TIE, after the 31st guide's Derived/Test/Toyas{Tie, Card}.lean. No idea stands in it: it is a product of the set-up. Laid BY PROGRAM, IN A SANDBOX (cutbox-door.mjs). By AI agents, Wed Nov 11 2026. No macro, syntax, notation, axiom, sorry.
-/
import Derived.Test.YtmpbjaodgajnfaaGreatDoorRows
import Derived.LaidByTextLater
import Derived.SevenTiedAt
import Derived.LaidSub
import Derived.LaidOnce
namespace Go.Proofs.YtmpbjaodgajnfaaGreatDoor
open Go
set_option maxRecDepth 100000
theorem seatTie1 : Tryz.prog.laidByTextLater [("logtide/ascii.kinds", Rows.laid_logtide_ascii_kinds)] [.called] true :=
  Program.laidByTextLater_by_one 1061 8 257 (by kernel_rfl) (by kernel_rfl) (by kernel_rfl) (by kernel_rfl) (by kernel_rfl) (by kernel_rfl) (fun _ _ => by kernel_rfl)
theorem noOwnUnsafe : Tryz.pinned.checked.prog.headLifts.contains "ownunsafe" = false := by kernel_rfl
theorem tie : Tryz.prog.laidByTextLater [("logtide/ascii.kinds", Rows.laid_logtide_ascii_kinds)] [.called] true :=
  Program.laidByTextLater.sub seatTie1 ["logtide/ascii.kinds"] (by kernel_rfl) (by kernel_rfl)
theorem extractApply_row_tie : Rows.extractApplyRow.laidByTextAt .later Tryz.pinned [.called] true :=
  OpenClaim.laidByTextAt_later rfl rfl tie noOwnUnsafe
theorem extractChangesFieldsAlone_row_tie : Rows.extractChangesFieldsAloneRow.laidByTextAt .later Tryz.pinned [.called] true :=
  OpenClaim.laidByTextAt_later rfl rfl tie noOwnUnsafe
theorem extractFullEvents_row_tie : Rows.extractFullEventsRow.laidByTextAt .later Tryz.pinned [.called] true :=
  OpenClaim.laidByTextAt_later rfl rfl tie noOwnUnsafe
theorem extractApplyUpto_row_tie : Rows.extractApplyUptoRow.laidByTextAt .later Tryz.pinned [.called] true :=
  OpenClaim.laidByTextAt_later rfl rfl tie noOwnUnsafe
theorem extractChangesFieldsAloneUpto_row_tie : Rows.extractChangesFieldsAloneUptoRow.laidByTextAt .later Tryz.pinned [.called] true :=
  OpenClaim.laidByTextAt_later rfl rfl tie noOwnUnsafe
theorem extractFullEventsUpto_row_tie : Rows.extractFullEventsUptoRow.laidByTextAt .later Tryz.pinned [.called] true :=
  OpenClaim.laidByTextAt_later rfl rfl tie noOwnUnsafe
end Go.Proofs.YtmpbjaodgajnfaaGreatDoor
