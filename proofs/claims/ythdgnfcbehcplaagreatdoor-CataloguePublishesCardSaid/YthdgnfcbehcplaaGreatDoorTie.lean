/-
  DERIVED. GIVEN WITH THE SEED: THE PROGRAM's TIES (one call each: nine closed facts by the kernel) AND EACH ROW's TIE, after the 31st guide's Derived/Test/Toyas{Tie, Card}.lean. No idea stands in it: it is a product of the set-up. Laid BY PROGRAM, IN A SANDBOX (cutbox-door.mjs). By AI agents, Wed Nov 11 2026. No macro, syntax, notation, axiom, sorry.
-/
import Derived.Test.YthdgnfcbehcplaaGreatDoorRows
import Derived.LaidByTextLater
import Derived.SevenTiedAt
import Derived.LaidSub
import Derived.LaidOnce
namespace Go.Proofs.YthdgnfcbehcplaaGreatDoor
open Go
set_option maxRecDepth 100000
theorem seatTie1 : Tryz.prog.laidByTextLater [("seismonet/catalogue.follows", Rows.laid_seismonet_catalogue_follows), ("seismonet/catalogue.computed", Rows.laid_seismonet_catalogue_computed), ("seismonet/catalogue.shown", Rows.laid_seismonet_catalogue_shown), ("seismonet/catalogue.kept", Rows.laid_seismonet_catalogue_kept)] [.data, .data, .data, .data] true :=
  Program.laidByTextLater_by_one 35 8 50 (by kernel_rfl) (by kernel_rfl) (by kernel_rfl) (by kernel_rfl) (by kernel_rfl) (by kernel_rfl) (fun _ _ => by kernel_rfl)
theorem noOwnUnsafe : Tryz.pinned.checked.prog.headLifts.contains "ownunsafe" = false := by kernel_rfl
theorem tie : Tryz.prog.laidByTextLater [("seismonet/catalogue.follows", Rows.laid_seismonet_catalogue_follows), ("seismonet/catalogue.computed", Rows.laid_seismonet_catalogue_computed), ("seismonet/catalogue.shown", Rows.laid_seismonet_catalogue_shown), ("seismonet/catalogue.kept", Rows.laid_seismonet_catalogue_kept)] [.data, .data, .data, .data] true :=
  Program.laidByTextLater.sub seatTie1 ["seismonet/catalogue.follows", "seismonet/catalogue.computed", "seismonet/catalogue.shown", "seismonet/catalogue.kept"] (by kernel_rfl) (by kernel_rfl)
theorem catalogueActs_row_tie : Rows.catalogueActsRow.laidByTextAt .later Tryz.pinned [.data, .data, .data, .data] true :=
  OpenClaim.laidByTextAt_later rfl rfl tie noOwnUnsafe
theorem catalogueKept_row_tie : Rows.catalogueKeptRow.laidByTextAt .later Tryz.pinned [.data, .data, .data, .data] true :=
  OpenClaim.laidByTextAt_later rfl rfl tie noOwnUnsafe
theorem cataloguePublishes_row_tie : Rows.cataloguePublishesRow.laidByTextAt .later Tryz.pinned [.data, .data, .data, .data] true :=
  OpenClaim.laidByTextAt_later rfl rfl tie noOwnUnsafe
theorem catalogueActsUpto_row_tie : Rows.catalogueActsUptoRow.laidByTextAt .later Tryz.pinned [.data, .data, .data, .data] true :=
  OpenClaim.laidByTextAt_later rfl rfl tie noOwnUnsafe
theorem catalogueKeptUpto_row_tie : Rows.catalogueKeptUptoRow.laidByTextAt .later Tryz.pinned [.data, .data, .data, .data] true :=
  OpenClaim.laidByTextAt_later rfl rfl tie noOwnUnsafe
theorem cataloguePublishesUpto_row_tie : Rows.cataloguePublishesUptoRow.laidByTextAt .later Tryz.pinned [.data, .data, .data, .data] true :=
  OpenClaim.laidByTextAt_later rfl rfl tie noOwnUnsafe
end Go.Proofs.YthdgnfcbehcplaaGreatDoor
