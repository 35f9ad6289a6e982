/-
  DERIVED. GIVEN WITH THE SEED: THE CARDS: each row of YtcblibefmclloaaDoorRows.lean that lists a variable, with what it lists TIED to the program's text (the seventh form; the later family's looks); each row that meets fmt, with fmt's text TOLD by the authors' own Lean function (tested against real Go, not proved from fmt's source: count such statements apart). THE CARD IS WHAT COUNTS. Prove the row's statement (the work); the ties are given (YtcblibefmclloaaDoorTie.lean); close each card by the builder's one call (the guide's Derived/Test/ToyasCard.lean, 'card_holds'). Laid BY PROGRAM, IN A SANDBOX (cutbox-door.mjs). By AI agents, Wed Nov 11 2026. No macro, syntax, notation, axiom, sorry.
-/
import Derived.Test.YtcblibefmclloaaDoorRows
import GoSem.ClaimSeven
namespace Go.Proofs.YtcblibefmclloaaDoor
namespace Rows

/-- THE TIED CARD OF 'haversacklaw04.LensPacks'. -/
def lensPacksCard : Claim7 := { stood := { row := lensPacksRow, standIns := [], harness := (true, "e2ec853014a7521fa73ee3c35199edd52da7012dc8626712fbc63d3e0d52be62"), looks := false }, kinds := [], alts := [], laidByText := true, laidKinds := [.widerDeep, .data, .data], laidTests := true, laidLooks := .later }
def LensPacksCardSaid : Prop := Claim7.holds Tryd.pinned (.plain (OpenSpec.ofChange lensPacksSpec)) lensPacksCard

/-- THE TIED CARD OF 'haversacklaw04.LensUnpacks'. -/
def lensUnpacksCard : Claim7 := { stood := { row := lensUnpacksRow, standIns := [], harness := (true, "e2ec853014a7521fa73ee3c35199edd52da7012dc8626712fbc63d3e0d52be62"), looks := false }, kinds := [], alts := [], laidByText := true, laidKinds := [.widerDeep, .data, .data], laidTests := true, laidLooks := .later }
def LensUnpacksCardSaid : Prop := Claim7.holds Tryd.pinned (.plain (OpenSpec.ofChange lensUnpacksSpec)) lensUnpacksCard

/-- THE TIED CARD OF 'haversacklaw04.LensReads'. -/
def lensReadsCard : Claim7 := { stood := { row := lensReadsRow, standIns := [], harness := (true, "e2ec853014a7521fa73ee3c35199edd52da7012dc8626712fbc63d3e0d52be62"), looks := false }, kinds := [], alts := [], laidByText := true, laidKinds := [.widerDeep, .data, .data], laidTests := true, laidLooks := .later }
def LensReadsCardSaid : Prop := Claim7.holds Tryd.pinned (.plain (OpenSpec.ofChange lensReadsSpec)) lensReadsCard

/-- THE TIED CARD OF 'haversacklaw04.LensSteps'. -/
def lensStepsCard : Claim7 := { stood := { row := lensStepsRow, standIns := [], harness := (true, "e2ec853014a7521fa73ee3c35199edd52da7012dc8626712fbc63d3e0d52be62"), looks := false }, kinds := [], alts := [], laidByText := true, laidKinds := [.widerDeep, .data, .data], laidTests := true, laidLooks := .later }
def LensStepsCardSaid : Prop := Claim7.holds Tryd.pinned (.plain (OpenSpec.ofChange lensStepsSpec)) lensStepsCard

/-- THE TIED CARD OF 'haversacklaw05.InflateAll'. -/
def inflateAllCard : Claim7 := { stood := { row := inflateAllRow, standIns := [], harness := (true, "e2ec853014a7521fa73ee3c35199edd52da7012dc8626712fbc63d3e0d52be62"), looks := false }, kinds := [], alts := [], laidByText := true, laidKinds := [.widerDeep, .data, .data], laidTests := true, laidLooks := .later }
def InflateAllCardSaid : Prop := Claim7.holds Tryd.pinned (.plain (OpenSpec.ofChange inflateAllSpec)) inflateAllCard

/-- THE TIED CARD OF 'haversacklaw05.InflateStreams'. -/
def inflateStreamsCard : Claim7 := { stood := { row := inflateStreamsRow, standIns := [], harness := (true, "e2ec853014a7521fa73ee3c35199edd52da7012dc8626712fbc63d3e0d52be62"), looks := false }, kinds := [], alts := [], laidByText := true, laidKinds := [.widerDeep, .data, .data], laidTests := true, laidLooks := .later }
def InflateStreamsCardSaid : Prop := Claim7.holds Tryd.pinned (.plain (OpenSpec.ofChange inflateStreamsSpec)) inflateStreamsCard

/-- THE TIED CARD OF 'haversacklaw05.InflateParts'. -/
def inflatePartsCard : Claim7 := { stood := { row := inflatePartsRow, standIns := [], harness := (true, "e2ec853014a7521fa73ee3c35199edd52da7012dc8626712fbc63d3e0d52be62"), looks := false }, kinds := [], alts := [], laidByText := true, laidKinds := [.widerDeep, .data, .data], laidTests := true, laidLooks := .later }
def InflatePartsCardSaid : Prop := Claim7.holds Tryd.pinned (.plain (OpenSpec.ofChange inflatePartsSpec)) inflatePartsCard

/-- THE TIED CARD OF 'haversacklaw05.InflateBehind'. -/
def inflateBehindCard : Claim7 := { stood := { row := inflateBehindRow, standIns := [], harness := (true, "e2ec853014a7521fa73ee3c35199edd52da7012dc8626712fbc63d3e0d52be62"), looks := false }, kinds := [], alts := [], laidByText := true, laidKinds := [.widerDeep, .data, .data], laidTests := true, laidLooks := .later }
def InflateBehindCardSaid : Prop := Claim7.holds Tryd.pinned (.plain (OpenSpec.ofChange inflateBehindSpec)) inflateBehindCard

/-- THE TIED CARD OF 'haversacklaw05.InflateNil'. -/
def inflateNilCard : Claim7 := { stood := { row := inflateNilRow, standIns := [], harness := (true, "e2ec853014a7521fa73ee3c35199edd52da7012dc8626712fbc63d3e0d52be62"), looks := false }, kinds := [], alts := [], laidByText := true, laidKinds := [.widerDeep, .data, .data], laidTests := true, laidLooks := .later }
def InflateNilCardSaid : Prop := Claim7.holds Tryd.pinned (.plain (OpenSpec.ofChange inflateNilSpec)) inflateNilCard

/-- THE TIED CARD OF 'haversacklaw04.LensNil'. -/
def lensNilCard : Claim7 := { stood := { row := lensNilRow, standIns := [], harness := (true, "e2ec853014a7521fa73ee3c35199edd52da7012dc8626712fbc63d3e0d52be62"), looks := false }, kinds := [], alts := [], laidByText := true, laidKinds := [.widerDeep, .data, .data], laidTests := true, laidLooks := .later }
def LensNilCardSaid : Prop := Claim7.holds Tryd.pinned (.plain (OpenSpec.ofChange lensNilSpec)) lensNilCard

/-- THE TIED CARD OF 'haversacklaw04.LensRound'. -/
def lensRoundCard : Claim7 := { stood := { row := lensRoundRow, standIns := [], harness := (true, "e2ec853014a7521fa73ee3c35199edd52da7012dc8626712fbc63d3e0d52be62"), looks := false }, kinds := [], alts := [], laidByText := true, laidKinds := [.widerDeep, .data, .data], laidTests := true, laidLooks := .later }
def LensRoundCardSaid : Prop := Claim7.holds Tryd.pinned (.plain (OpenSpec.ofChange lensRoundSpec)) lensRoundCard

/-- THE TIED CARD OF 'haversacklaw04.LensWrites'. -/
def lensWritesCard : Claim7 := { stood := { row := lensWritesRow, standIns := [], harness := (true, "e2ec853014a7521fa73ee3c35199edd52da7012dc8626712fbc63d3e0d52be62"), looks := false }, kinds := [], alts := [], laidByText := true, laidKinds := [.widerDeep, .data, .data], laidTests := true, laidLooks := .later }
def LensWritesCardSaid : Prop := Claim7.holds Tryd.pinned (.plain (OpenSpec.ofChange lensWritesSpec)) lensWritesCard

/-- THE SECOND FORM's CARD OF 'haversacklaw04.LensPacks'. -/
def lensPacksUptoCard : Claim7 := { stood := { row := lensPacksUptoRow, standIns := [], harness := (true, "e2ec853014a7521fa73ee3c35199edd52da7012dc8626712fbc63d3e0d52be62"), looks := false }, kinds := [], alts := [], laidByText := true, laidKinds := [.widerDeep, .data, .data], laidTests := true, laidLooks := .later }
def LensPacksUptoCardSaid : Prop := Claim7.holds Tryd.pinned (.plain (OpenSpec.upto lensPacksSpec)) lensPacksUptoCard

/-- THE SECOND FORM's CARD OF 'haversacklaw04.LensUnpacks'. -/
def lensUnpacksUptoCard : Claim7 := { stood := { row := lensUnpacksUptoRow, standIns := [], harness := (true, "e2ec853014a7521fa73ee3c35199edd52da7012dc8626712fbc63d3e0d52be62"), looks := false }, kinds := [], alts := [], laidByText := true, laidKinds := [.widerDeep, .data, .data], laidTests := true, laidLooks := .later }
def LensUnpacksUptoCardSaid : Prop := Claim7.holds Tryd.pinned (.plain (OpenSpec.upto lensUnpacksSpec)) lensUnpacksUptoCard

/-- THE SECOND FORM's CARD OF 'haversacklaw04.LensReads'. -/
def lensReadsUptoCard : Claim7 := { stood := { row := lensReadsUptoRow, standIns := [], harness := (true, "e2ec853014a7521fa73ee3c35199edd52da7012dc8626712fbc63d3e0d52be62"), looks := false }, kinds := [], alts := [], laidByText := true, laidKinds := [.widerDeep, .data, .data], laidTests := true, laidLooks := .later }
def LensReadsUptoCardSaid : Prop := Claim7.holds Tryd.pinned (.plain (OpenSpec.upto lensReadsSpec)) lensReadsUptoCard

/-- THE SECOND FORM's CARD OF 'haversacklaw04.LensSteps'. -/
def lensStepsUptoCard : Claim7 := { stood := { row := lensStepsUptoRow, standIns := [], harness := (true, "e2ec853014a7521fa73ee3c35199edd52da7012dc8626712fbc63d3e0d52be62"), looks := false }, kinds := [], alts := [], laidByText := true, laidKinds := [.widerDeep, .data, .data], laidTests := true, laidLooks := .later }
def LensStepsUptoCardSaid : Prop := Claim7.holds Tryd.pinned (.plain (OpenSpec.upto lensStepsSpec)) lensStepsUptoCard

/-- THE SECOND FORM's CARD OF 'haversacklaw05.InflateAll'. -/
def inflateAllUptoCard : Claim7 := { stood := { row := inflateAllUptoRow, standIns := [], harness := (true, "e2ec853014a7521fa73ee3c35199edd52da7012dc8626712fbc63d3e0d52be62"), looks := false }, kinds := [], alts := [], laidByText := true, laidKinds := [.widerDeep, .data, .data], laidTests := true, laidLooks := .later }
def InflateAllUptoCardSaid : Prop := Claim7.holds Tryd.pinned (.plain (OpenSpec.upto inflateAllSpec)) inflateAllUptoCard

/-- THE SECOND FORM's CARD OF 'haversacklaw05.InflateStreams'. -/
def inflateStreamsUptoCard : Claim7 := { stood := { row := inflateStreamsUptoRow, standIns := [], harness := (true, "e2ec853014a7521fa73ee3c35199edd52da7012dc8626712fbc63d3e0d52be62"), looks := false }, kinds := [], alts := [], laidByText := true, laidKinds := [.widerDeep, .data, .data], laidTests := true, laidLooks := .later }
def InflateStreamsUptoCardSaid : Prop := Claim7.holds Tryd.pinned (.plain (OpenSpec.upto inflateStreamsSpec)) inflateStreamsUptoCard

/-- THE SECOND FORM's CARD OF 'haversacklaw05.InflateParts'. -/
def inflatePartsUptoCard : Claim7 := { stood := { row := inflatePartsUptoRow, standIns := [], harness := (true, "e2ec853014a7521fa73ee3c35199edd52da7012dc8626712fbc63d3e0d52be62"), looks := false }, kinds := [], alts := [], laidByText := true, laidKinds := [.widerDeep, .data, .data], laidTests := true, laidLooks := .later }
def InflatePartsUptoCardSaid : Prop := Claim7.holds Tryd.pinned (.plain (OpenSpec.upto inflatePartsSpec)) inflatePartsUptoCard

/-- THE SECOND FORM's CARD OF 'haversacklaw05.InflateBehind'. -/
def inflateBehindUptoCard : Claim7 := { stood := { row := inflateBehindUptoRow, standIns := [], harness := (true, "e2ec853014a7521fa73ee3c35199edd52da7012dc8626712fbc63d3e0d52be62"), looks := false }, kinds := [], alts := [], laidByText := true, laidKinds := [.widerDeep, .data, .data], laidTests := true, laidLooks := .later }
def InflateBehindUptoCardSaid : Prop := Claim7.holds Tryd.pinned (.plain (OpenSpec.upto inflateBehindSpec)) inflateBehindUptoCard

/-- THE SECOND FORM's CARD OF 'haversacklaw05.InflateNil'. -/
def inflateNilUptoCard : Claim7 := { stood := { row := inflateNilUptoRow, standIns := [], harness := (true, "e2ec853014a7521fa73ee3c35199edd52da7012dc8626712fbc63d3e0d52be62"), looks := false }, kinds := [], alts := [], laidByText := true, laidKinds := [.widerDeep, .data, .data], laidTests := true, laidLooks := .later }
def InflateNilUptoCardSaid : Prop := Claim7.holds Tryd.pinned (.plain (OpenSpec.upto inflateNilSpec)) inflateNilUptoCard

/-- THE SECOND FORM's CARD OF 'haversacklaw04.LensNil'. -/
def lensNilUptoCard : Claim7 := { stood := { row := lensNilUptoRow, standIns := [], harness := (true, "e2ec853014a7521fa73ee3c35199edd52da7012dc8626712fbc63d3e0d52be62"), looks := false }, kinds := [], alts := [], laidByText := true, laidKinds := [.widerDeep, .data, .data], laidTests := true, laidLooks := .later }
def LensNilUptoCardSaid : Prop := Claim7.holds Tryd.pinned (.plain (OpenSpec.upto lensNilSpec)) lensNilUptoCard

/-- THE SECOND FORM's CARD OF 'haversacklaw04.LensRound'. -/
def lensRoundUptoCard : Claim7 := { stood := { row := lensRoundUptoRow, standIns := [], harness := (true, "e2ec853014a7521fa73ee3c35199edd52da7012dc8626712fbc63d3e0d52be62"), looks := false }, kinds := [], alts := [], laidByText := true, laidKinds := [.widerDeep, .data, .data], laidTests := true, laidLooks := .later }
def LensRoundUptoCardSaid : Prop := Claim7.holds Tryd.pinned (.plain (OpenSpec.upto lensRoundSpec)) lensRoundUptoCard

/-- THE SECOND FORM's CARD OF 'haversacklaw04.LensWrites'. -/
def lensWritesUptoCard : Claim7 := { stood := { row := lensWritesUptoRow, standIns := [], harness := (true, "e2ec853014a7521fa73ee3c35199edd52da7012dc8626712fbc63d3e0d52be62"), looks := false }, kinds := [], alts := [], laidByText := true, laidKinds := [.widerDeep, .data, .data], laidTests := true, laidLooks := .later }
def LensWritesUptoCardSaid : Prop := Claim7.holds Tryd.pinned (.plain (OpenSpec.upto lensWritesSpec)) lensWritesUptoCard
end Rows
end Go.Proofs.YtcblibefmclloaaDoor
