/-
  DERIVED. GIVEN WITH THE SEED: THE PROGRAM's TIES (one call each: nine closed facts by the kernel) AND EACH ROW's TIE, after the 31st guide's Derived/Test/Toyas{Tie, Card}.lean. No idea stands in it: it is a product of the set-up. Laid BY PROGRAM, IN A SANDBOX (cutbox-door.mjs). By AI agents, Wed Nov 11 2026. No macro, syntax, notation, axiom, sorry.
-/
import Derived.Test.YtlainoonnnimiaaGreatDoorRows
import Derived.LaidByTextLater
import Derived.SevenTiedAt
import Derived.LaidSub
import Derived.LaidOnce
namespace Go.Proofs.YtlainoonnnimiaaGreatDoor
open Go
set_option maxRecDepth 100000
theorem seatTie1 : Tryz.prog.laidByTextLater [("interleaf/check.lines", Rows.laid_interleaf_check_lines), ("interleaf/stamp.parts", Rows.laid_interleaf_stamp_parts), ("interleaf/stamp.first", Rows.laid_interleaf_stamp_first)] [.data, .data, .data] true :=
  Program.laidByTextLater_by_one 24 8 65 (by kernel_rfl) (by kernel_rfl) (by kernel_rfl) (by kernel_rfl) (by kernel_rfl) (by kernel_rfl) (fun _ _ => by kernel_rfl)
theorem noOwnUnsafe : Tryz.pinned.checked.prog.headLifts.contains "ownunsafe" = false := by kernel_rfl
theorem tie : Tryz.prog.laidByTextLater [("interleaf/check.lines", Rows.laid_interleaf_check_lines), ("interleaf/stamp.parts", Rows.laid_interleaf_stamp_parts), ("interleaf/stamp.first", Rows.laid_interleaf_stamp_first)] [.data, .data, .data] true :=
  Program.laidByTextLater.sub seatTie1 ["interleaf/check.lines", "interleaf/stamp.parts", "interleaf/stamp.first"] (by kernel_rfl) (by kernel_rfl)
theorem sweepNeeds_row_tie : Rows.sweepNeedsRow.laidByTextAt .later Tryz.pinned [.data, .data, .data] true :=
  OpenClaim.laidByTextAt_later rfl rfl tie noOwnUnsafe
theorem sweepNil_row_tie : Rows.sweepNilRow.laidByTextAt .later Tryz.pinned [.data, .data, .data] true :=
  OpenClaim.laidByTextAt_later rfl rfl tie noOwnUnsafe
theorem sweepNeedsUpto_row_tie : Rows.sweepNeedsUptoRow.laidByTextAt .later Tryz.pinned [.data, .data, .data] true :=
  OpenClaim.laidByTextAt_later rfl rfl tie noOwnUnsafe
theorem sweepNilUpto_row_tie : Rows.sweepNilUptoRow.laidByTextAt .later Tryz.pinned [.data, .data, .data] true :=
  OpenClaim.laidByTextAt_later rfl rfl tie noOwnUnsafe
end Go.Proofs.YtlainoonnnimiaaGreatDoor
