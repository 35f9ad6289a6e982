/-
  DERIVED. GIVEN WITH THE SEED: THE CARDS: each row of YtghjlpechjggjaaGreatDoorRows.lean that lists a variable, with what it lists TIED to the program's text (the seventh form; the later family's looks); each row that meets fmt, with fmt's text TOLD by the authors' own Lean function (tested against real Go, not proved from fmt's source: count such statements apart). THE CARD IS WHAT COUNTS. Prove the row's statement (the work); the ties are given (YtghjlpechjggjaaGreatDoorTie.lean); close each card by the builder's one call (the guide's Derived/Test/ToyasCard.lean, 'card_holds'). Laid BY PROGRAM, IN A SANDBOX (cutbox-door.mjs). By AI agents, Wed Nov 11 2026. No macro, syntax, notation, axiom, sorry.
-/
import Derived.Test.YtghjlpechjggjaaGreatDoorRows
import GoSem.ClaimSeven
namespace Go.Proofs.YtghjlpechjggjaaGreatDoor
namespace Rows

/-- THE TIED CARD OF 'haversacklaw08.ZipNames'. -/
def zipNamesCard : Claim7 := { stood := { row := zipNamesRow, standIns := [], harness := (true, "9c404a94892edf96f524f5681f99e2cc3880b3e0c826524804bf314bfc804d5a"), looks := true }, kinds := [], alts := [], laidByText := true, laidKinds := [.data, .widerDeep, .data, .data, .data, .pinned], laidTests := true, laidLooks := .later }
def ZipNamesCardSaid : Prop := Claim7.holds Tryz.pinned (.plain (OpenSpec.ofChange zipNamesSpec)) zipNamesCard

/-- THE TIED CARD OF 'haversacklaw08.ZipWrites'. -/
def zipWritesCard : Claim7 := { stood := { row := zipWritesRow, standIns := [], harness := (true, "9c404a94892edf96f524f5681f99e2cc3880b3e0c826524804bf314bfc804d5a"), looks := true }, kinds := [], alts := [], laidByText := true, laidKinds := [.data, .widerDeep, .data, .data, .data, .pinned], laidTests := true, laidLooks := .later }
def ZipWritesCardSaid : Prop := Claim7.holds Tryz.pinned (.plain (OpenSpec.ofChange zipWritesSpec)) zipWritesCard

/-- THE TIED CARD OF 'haversacklaw08.ZipCuts'. -/
def zipCutsCard : Claim7 := { stood := { row := zipCutsRow, standIns := [], harness := (true, "9c404a94892edf96f524f5681f99e2cc3880b3e0c826524804bf314bfc804d5a"), looks := true }, kinds := [], alts := [], laidByText := true, laidKinds := [.data, .widerDeep, .data, .data, .data, .pinned], laidTests := true, laidLooks := .later }
def ZipCutsCardSaid : Prop := Claim7.holds Tryz.pinned (.plain (OpenSpec.ofChange zipCutsSpec)) zipCutsCard

/-- THE TIED CARD OF 'haversacklaw08.ZipReads'. -/
def zipReadsCard : Claim7 := { stood := { row := zipReadsRow, standIns := [], harness := (true, "9c404a94892edf96f524f5681f99e2cc3880b3e0c826524804bf314bfc804d5a"), looks := true }, kinds := [], alts := [], laidByText := true, laidKinds := [.data, .widerDeep, .data, .data, .data, .pinned], laidTests := true, laidLooks := .later }
def ZipReadsCardSaid : Prop := Claim7.holds Tryz.pinned (.plain (OpenSpec.ofChange zipReadsSpec)) zipReadsCard

/-- THE TIED CARD OF 'haversacklaw08.ZipRound'. -/
def zipRoundCard : Claim7 := { stood := { row := zipRoundRow, standIns := [], harness := (true, "9c404a94892edf96f524f5681f99e2cc3880b3e0c826524804bf314bfc804d5a"), looks := true }, kinds := [], alts := [], laidByText := true, laidKinds := [.data, .widerDeep, .data, .data, .data, .pinned], laidTests := true, laidLooks := .later }
def ZipRoundCardSaid : Prop := Claim7.holds Tryz.pinned (.plain (OpenSpec.ofChange zipRoundSpec)) zipRoundCard

/-- THE TIED CARD OF 'haversacklaw08.ZipTells'. -/
def zipTellsCard : Claim7 := { stood := { row := zipTellsRow, standIns := [], harness := (true, "9c404a94892edf96f524f5681f99e2cc3880b3e0c826524804bf314bfc804d5a"), looks := true }, kinds := [], alts := [], laidByText := true, laidKinds := [.data, .widerDeep, .data, .data, .data, .pinned], laidTests := true, laidLooks := .later }
def ZipTellsCardSaid : Prop := Claim7.holds Tryz.pinned (.plain (OpenSpec.ofChange zipTellsSpec)) zipTellsCard

/-- THE SECOND FORM's CARD OF 'haversacklaw08.ZipNames'. -/
def zipNamesUptoCard : Claim7 := { stood := { row := zipNamesUptoRow, standIns := [], harness := (true, "9c404a94892edf96f524f5681f99e2cc3880b3e0c826524804bf314bfc804d5a"), looks := true }, kinds := [], alts := [], laidByText := true, laidKinds := [.data, .widerDeep, .data, .data, .data, .pinned], laidTests := true, laidLooks := .later }
def ZipNamesUptoCardSaid : Prop := Claim7.holds Tryz.pinned (.plain (OpenSpec.upto zipNamesSpec)) zipNamesUptoCard

/-- THE SECOND FORM's CARD OF 'haversacklaw08.ZipWrites'. -/
def zipWritesUptoCard : Claim7 := { stood := { row := zipWritesUptoRow, standIns := [], harness := (true, "9c404a94892edf96f524f5681f99e2cc3880b3e0c826524804bf314bfc804d5a"), looks := true }, kinds := [], alts := [], laidByText := true, laidKinds := [.data, .widerDeep, .data, .data, .data, .pinned], laidTests := true, laidLooks := .later }
def ZipWritesUptoCardSaid : Prop := Claim7.holds Tryz.pinned (.plain (OpenSpec.upto zipWritesSpec)) zipWritesUptoCard

/-- THE SECOND FORM's CARD OF 'haversacklaw08.ZipCuts'. -/
def zipCutsUptoCard : Claim7 := { stood := { row := zipCutsUptoRow, standIns := [], harness := (true, "9c404a94892edf96f524f5681f99e2cc3880b3e0c826524804bf314bfc804d5a"), looks := true }, kinds := [], alts := [], laidByText := true, laidKinds := [.data, .widerDeep, .data, .data, .data, .pinned], laidTests := true, laidLooks := .later }
def ZipCutsUptoCardSaid : Prop := Claim7.holds Tryz.pinned (.plain (OpenSpec.upto zipCutsSpec)) zipCutsUptoCard

/-- THE SECOND FORM's CARD OF 'haversacklaw08.ZipReads'. -/
def zipReadsUptoCard : Claim7 := { stood := { row := zipReadsUptoRow, standIns := [], harness := (true, "9c404a94892edf96f524f5681f99e2cc3880b3e0c826524804bf314bfc804d5a"), looks := true }, kinds := [], alts := [], laidByText := true, laidKinds := [.data, .widerDeep, .data, .data, .data, .pinned], laidTests := true, laidLooks := .later }
def ZipReadsUptoCardSaid : Prop := Claim7.holds Tryz.pinned (.plain (OpenSpec.upto zipReadsSpec)) zipReadsUptoCard

/-- THE SECOND FORM's CARD OF 'haversacklaw08.ZipRound'. -/
def zipRoundUptoCard : Claim7 := { stood := { row := zipRoundUptoRow, standIns := [], harness := (true, "9c404a94892edf96f524f5681f99e2cc3880b3e0c826524804bf314bfc804d5a"), looks := true }, kinds := [], alts := [], laidByText := true, laidKinds := [.data, .widerDeep, .data, .data, .data, .pinned], laidTests := true, laidLooks := .later }
def ZipRoundUptoCardSaid : Prop := Claim7.holds Tryz.pinned (.plain (OpenSpec.upto zipRoundSpec)) zipRoundUptoCard

/-- THE SECOND FORM's CARD OF 'haversacklaw08.ZipTells'. -/
def zipTellsUptoCard : Claim7 := { stood := { row := zipTellsUptoRow, standIns := [], harness := (true, "9c404a94892edf96f524f5681f99e2cc3880b3e0c826524804bf314bfc804d5a"), looks := true }, kinds := [], alts := [], laidByText := true, laidKinds := [.data, .widerDeep, .data, .data, .data, .pinned], laidTests := true, laidLooks := .later }
def ZipTellsUptoCardSaid : Prop := Claim7.holds Tryz.pinned (.plain (OpenSpec.upto zipTellsSpec)) zipTellsUptoCard
end Rows
end Go.Proofs.YtghjlpechjggjaaGreatDoor
