/-
  DERIVED. GIVEN WITH THE SEED: THE PROGRAM's TIES (one call each: nine closed facts by the kernel) AND EACH ROW's TIE, after the 31st guide's Derived/Test/Toyas{Tie, Card}.lean. No idea stands in it: it is a product of the set-up. Laid BY PROGRAM, IN A SANDBOX (cutbox-door.mjs). By AI agents, Wed Nov 11 2026. No macro, syntax, notation, axiom, sorry.
-/
import Derived.Test.YtbacmnbjkhjopaaDoorRows
import Derived.LaidByTextLater
import Derived.SevenTiedAt
import Derived.LaidSub
import Derived.LaidOnce
namespace Go.Proofs.YtbacmnbjkhjopaaDoor
open Go
set_option maxRecDepth 100000
theorem seatTie1 : Tryd.prog.laidByTextLater [("narrator/scriptverify.pops", Rows.laid_narrator_scriptverify_pops), ("narrator/scriptverify.pushes", Rows.laid_narrator_scriptverify_pushes)] [.data, .data] true :=
  Program.laidByTextLater_by_one 19 8 22 (by kernel_rfl) (by kernel_rfl) (by kernel_rfl) (by kernel_rfl) (by kernel_rfl) (by kernel_rfl) (fun _ _ => by kernel_rfl)
theorem noOwnUnsafe : Tryd.pinned.checked.prog.headLifts.contains "ownunsafe" = false := by kernel_rfl
theorem tie : Tryd.prog.laidByTextLater [("narrator/scriptverify.pops", Rows.laid_narrator_scriptverify_pops), ("narrator/scriptverify.pushes", Rows.laid_narrator_scriptverify_pushes)] [.data, .data] true :=
  Program.laidByTextLater.sub seatTie1 ["narrator/scriptverify.pops", "narrator/scriptverify.pushes"] (by kernel_rfl) (by kernel_rfl)
theorem scriptverifyDepths_row_tie : Rows.scriptverifyDepthsRow.laidByTextAt .later Tryd.pinned [.data, .data] true :=
  OpenClaim.laidByTextAt_later rfl rfl tie noOwnUnsafe
theorem scriptverifyFuel_row_tie : Rows.scriptverifyFuelRow.laidByTextAt .later Tryd.pinned [.data, .data] true :=
  OpenClaim.laidByTextAt_later rfl rfl tie noOwnUnsafe
theorem scriptverifyHidden_row_tie : Rows.scriptverifyHiddenRow.laidByTextAt .later Tryd.pinned [.data, .data] true :=
  OpenClaim.laidByTextAt_later rfl rfl tie noOwnUnsafe
theorem scriptverifyPaths_row_tie : Rows.scriptverifyPathsRow.laidByTextAt .later Tryd.pinned [.data, .data] true :=
  OpenClaim.laidByTextAt_later rfl rfl tie noOwnUnsafe
theorem scriptverifyLongest_row_tie : Rows.scriptverifyLongestRow.laidByTextAt .later Tryd.pinned [.data, .data] true :=
  OpenClaim.laidByTextAt_later rfl rfl tie noOwnUnsafe
theorem scriptverifyReachable_row_tie : Rows.scriptverifyReachableRow.laidByTextAt .later Tryd.pinned [.data, .data] true :=
  OpenClaim.laidByTextAt_later rfl rfl tie noOwnUnsafe
theorem scriptverifyPlain_row_tie : Rows.scriptverifyPlainRow.laidByTextAt .later Tryd.pinned [.data, .data] true :=
  OpenClaim.laidByTextAt_later rfl rfl tie noOwnUnsafe
theorem scriptverifyMore_row_tie : Rows.scriptverifyMoreRow.laidByTextAt .later Tryd.pinned [.data, .data] true :=
  OpenClaim.laidByTextAt_later rfl rfl tie noOwnUnsafe
theorem scriptverifyDepthsUpto_row_tie : Rows.scriptverifyDepthsUptoRow.laidByTextAt .later Tryd.pinned [.data, .data] true :=
  OpenClaim.laidByTextAt_later rfl rfl tie noOwnUnsafe
theorem scriptverifyFuelUpto_row_tie : Rows.scriptverifyFuelUptoRow.laidByTextAt .later Tryd.pinned [.data, .data] true :=
  OpenClaim.laidByTextAt_later rfl rfl tie noOwnUnsafe
theorem scriptverifyHiddenUpto_row_tie : Rows.scriptverifyHiddenUptoRow.laidByTextAt .later Tryd.pinned [.data, .data] true :=
  OpenClaim.laidByTextAt_later rfl rfl tie noOwnUnsafe
theorem scriptverifyPathsUpto_row_tie : Rows.scriptverifyPathsUptoRow.laidByTextAt .later Tryd.pinned [.data, .data] true :=
  OpenClaim.laidByTextAt_later rfl rfl tie noOwnUnsafe
theorem scriptverifyLongestUpto_row_tie : Rows.scriptverifyLongestUptoRow.laidByTextAt .later Tryd.pinned [.data, .data] true :=
  OpenClaim.laidByTextAt_later rfl rfl tie noOwnUnsafe
theorem scriptverifyReachableUpto_row_tie : Rows.scriptverifyReachableUptoRow.laidByTextAt .later Tryd.pinned [.data, .data] true :=
  OpenClaim.laidByTextAt_later rfl rfl tie noOwnUnsafe
theorem scriptverifyPlainUpto_row_tie : Rows.scriptverifyPlainUptoRow.laidByTextAt .later Tryd.pinned [.data, .data] true :=
  OpenClaim.laidByTextAt_later rfl rfl tie noOwnUnsafe
theorem scriptverifyMoreUpto_row_tie : Rows.scriptverifyMoreUptoRow.laidByTextAt .later Tryd.pinned [.data, .data] true :=
  OpenClaim.laidByTextAt_later rfl rfl tie noOwnUnsafe
end Go.Proofs.YtbacmnbjkhjopaaDoor
