/-
  DERIVED. GIVEN WITH THE SEED: THE PROGRAM's TIES (one call each: nine closed facts by the kernel) AND EACH ROW's TIE, after the 31st guide's Derived/Test/Toyas{Tie, Card}.lean. No idea stands in it: it is a product of the set-up. Laid BY PROGRAM, IN A SANDBOX (cutbox-door.mjs). By AI agents, Wed Nov 11 2026. No macro, syntax, notation, axiom, sorry.
-/
import Derived.Test.YtcblibefmclloaaDoorRows
import Derived.LaidByTextLater
import Derived.SevenTiedAt
import Derived.LaidSub
import Derived.LaidOnce
namespace Go.Proofs.YtcblibefmclloaaDoor
open Go
set_option maxRecDepth 100000
theorem seatTie1 : Tryd.prog.laidByTextLater [("haversack/lens.order", Rows.laid_haversack_lens_order), ("haversack/lens.wide", Rows.laid_haversack_lens_wide), ("haversack/lens.from", Rows.laid_haversack_lens_from)] [.widerDeep, .data, .data] true :=
  Program.laidByTextLater_by_one 24 8 20 (by kernel_rfl) (by kernel_rfl) (by kernel_rfl) (by kernel_rfl) (by kernel_rfl) (by kernel_rfl) (fun _ _ => by kernel_rfl)
theorem noOwnUnsafe : Tryd.pinned.checked.prog.headLifts.contains "ownunsafe" = false := by kernel_rfl
theorem tie : Tryd.prog.laidByTextLater [("haversack/lens.order", Rows.laid_haversack_lens_order), ("haversack/lens.wide", Rows.laid_haversack_lens_wide), ("haversack/lens.from", Rows.laid_haversack_lens_from)] [.widerDeep, .data, .data] true :=
  Program.laidByTextLater.sub seatTie1 ["haversack/lens.order", "haversack/lens.wide", "haversack/lens.from"] (by kernel_rfl) (by kernel_rfl)
theorem lensPacks_row_tie : Rows.lensPacksRow.laidByTextAt .later Tryd.pinned [.widerDeep, .data, .data] true :=
  OpenClaim.laidByTextAt_later rfl rfl tie noOwnUnsafe
theorem lensUnpacks_row_tie : Rows.lensUnpacksRow.laidByTextAt .later Tryd.pinned [.widerDeep, .data, .data] true :=
  OpenClaim.laidByTextAt_later rfl rfl tie noOwnUnsafe
theorem lensReads_row_tie : Rows.lensReadsRow.laidByTextAt .later Tryd.pinned [.widerDeep, .data, .data] true :=
  OpenClaim.laidByTextAt_later rfl rfl tie noOwnUnsafe
theorem lensSteps_row_tie : Rows.lensStepsRow.laidByTextAt .later Tryd.pinned [.widerDeep, .data, .data] true :=
  OpenClaim.laidByTextAt_later rfl rfl tie noOwnUnsafe
theorem inflateAll_row_tie : Rows.inflateAllRow.laidByTextAt .later Tryd.pinned [.widerDeep, .data, .data] true :=
  OpenClaim.laidByTextAt_later rfl rfl tie noOwnUnsafe
theorem inflateStreams_row_tie : Rows.inflateStreamsRow.laidByTextAt .later Tryd.pinned [.widerDeep, .data, .data] true :=
  OpenClaim.laidByTextAt_later rfl rfl tie noOwnUnsafe
theorem inflateParts_row_tie : Rows.inflatePartsRow.laidByTextAt .later Tryd.pinned [.widerDeep, .data, .data] true :=
  OpenClaim.laidByTextAt_later rfl rfl tie noOwnUnsafe
theorem inflateBehind_row_tie : Rows.inflateBehindRow.laidByTextAt .later Tryd.pinned [.widerDeep, .data, .data] true :=
  OpenClaim.laidByTextAt_later rfl rfl tie noOwnUnsafe
theorem inflateNil_row_tie : Rows.inflateNilRow.laidByTextAt .later Tryd.pinned [.widerDeep, .data, .data] true :=
  OpenClaim.laidByTextAt_later rfl rfl tie noOwnUnsafe
theorem lensNil_row_tie : Rows.lensNilRow.laidByTextAt .later Tryd.pinned [.widerDeep, .data, .data] true :=
  OpenClaim.laidByTextAt_later rfl rfl tie noOwnUnsafe
theorem lensRound_row_tie : Rows.lensRoundRow.laidByTextAt .later Tryd.pinned [.widerDeep, .data, .data] true :=
  OpenClaim.laidByTextAt_later rfl rfl tie noOwnUnsafe
theorem lensWrites_row_tie : Rows.lensWritesRow.laidByTextAt .later Tryd.pinned [.widerDeep, .data, .data] true :=
  OpenClaim.laidByTextAt_later rfl rfl tie noOwnUnsafe
theorem lensPacksUpto_row_tie : Rows.lensPacksUptoRow.laidByTextAt .later Tryd.pinned [.widerDeep, .data, .data] true :=
  OpenClaim.laidByTextAt_later rfl rfl tie noOwnUnsafe
theorem lensUnpacksUpto_row_tie : Rows.lensUnpacksUptoRow.laidByTextAt .later Tryd.pinned [.widerDeep, .data, .data] true :=
  OpenClaim.laidByTextAt_later rfl rfl tie noOwnUnsafe
theorem lensReadsUpto_row_tie : Rows.lensReadsUptoRow.laidByTextAt .later Tryd.pinned [.widerDeep, .data, .data] true :=
  OpenClaim.laidByTextAt_later rfl rfl tie noOwnUnsafe
theorem lensStepsUpto_row_tie : Rows.lensStepsUptoRow.laidByTextAt .later Tryd.pinned [.widerDeep, .data, .data] true :=
  OpenClaim.laidByTextAt_later rfl rfl tie noOwnUnsafe
theorem inflateAllUpto_row_tie : Rows.inflateAllUptoRow.laidByTextAt .later Tryd.pinned [.widerDeep, .data, .data] true :=
  OpenClaim.laidByTextAt_later rfl rfl tie noOwnUnsafe
theorem inflateStreamsUpto_row_tie : Rows.inflateStreamsUptoRow.laidByTextAt .later Tryd.pinned [.widerDeep, .data, .data] true :=
  OpenClaim.laidByTextAt_later rfl rfl tie noOwnUnsafe
theorem inflatePartsUpto_row_tie : Rows.inflatePartsUptoRow.laidByTextAt .later Tryd.pinned [.widerDeep, .data, .data] true :=
  OpenClaim.laidByTextAt_later rfl rfl tie noOwnUnsafe
theorem inflateBehindUpto_row_tie : Rows.inflateBehindUptoRow.laidByTextAt .later Tryd.pinned [.widerDeep, .data, .data] true :=
  OpenClaim.laidByTextAt_later rfl rfl tie noOwnUnsafe
theorem inflateNilUpto_row_tie : Rows.inflateNilUptoRow.laidByTextAt .later Tryd.pinned [.widerDeep, .data, .data] true :=
  OpenClaim.laidByTextAt_later rfl rfl tie noOwnUnsafe
theorem lensNilUpto_row_tie : Rows.lensNilUptoRow.laidByTextAt .later Tryd.pinned [.widerDeep, .data, .data] true :=
  OpenClaim.laidByTextAt_later rfl rfl tie noOwnUnsafe
theorem lensRoundUpto_row_tie : Rows.lensRoundUptoRow.laidByTextAt .later Tryd.pinned [.widerDeep, .data, .data] true :=
  OpenClaim.laidByTextAt_later rfl rfl tie noOwnUnsafe
theorem lensWritesUpto_row_tie : Rows.lensWritesUptoRow.laidByTextAt .later Tryd.pinned [.widerDeep, .data, .data] true :=
  OpenClaim.laidByTextAt_later rfl rfl tie noOwnUnsafe
end Go.Proofs.YtcblibefmclloaaDoor
