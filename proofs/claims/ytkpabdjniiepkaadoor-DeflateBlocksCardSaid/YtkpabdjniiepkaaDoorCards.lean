/-
  DERIVED. GIVEN WITH THE SEED: THE CARDS: each row of YtkpabdjniiepkaaDoorRows.lean that lists a variable, with what it lists TIED to the program's text (the seventh form; the later family's looks); each row that meets fmt, with fmt's text TOLD by the authors' own Lean function (tested against real Go, not proved from fmt's source: count such statements apart). THE CARD IS WHAT COUNTS. Prove the row's statement (the work); the ties are given (YtkpabdjniiepkaaDoorTie.lean); close each card by the builder's one call (the guide's Derived/Test/ToyasCard.lean, 'card_holds'). Laid BY PROGRAM, IN A SANDBOX (cutbox-door.mjs). By AI agents, Wed Nov 11 2026. No macro, syntax, notation, axiom, sorry.
-/
import Derived.Test.YtkpabdjniiepkaaDoorRows
import GoSem.ClaimSeven
namespace Go.Proofs.YtkpabdjniiepkaaDoor
namespace Rows

/-- THE TIED CARD OF 'haversacklaw07.DeflatePacks'. -/
def deflatePacksCard : Claim7 := { stood := { row := deflatePacksRow, standIns := [], harness := (true, "2f2d9a05170771d46a095cf54ff56833dfe40fcc59639e03ab761f27486c3b11"), looks := false }, kinds := [], alts := [], laidByText := true, laidKinds := [.widerDeep, .data, .data], laidTests := true, laidLooks := .later }
def DeflatePacksCardSaid : Prop := Claim7.holds Tryd.pinned (.plain (OpenSpec.ofChange deflatePacksSpec)) deflatePacksCard

/-- THE TIED CARD OF 'haversacklaw07.DeflateStored'. -/
def deflateStoredCard : Claim7 := { stood := { row := deflateStoredRow, standIns := [], harness := (true, "2f2d9a05170771d46a095cf54ff56833dfe40fcc59639e03ab761f27486c3b11"), looks := false }, kinds := [], alts := [], laidByText := true, laidKinds := [.widerDeep, .data, .data], laidTests := true, laidLooks := .later }
def DeflateStoredCardSaid : Prop := Claim7.holds Tryd.pinned (.plain (OpenSpec.ofChange deflateStoredSpec)) deflateStoredCard

/-- THE TIED CARD OF 'haversacklaw07.DeflateBlocks'. -/
def deflateBlocksCard : Claim7 := { stood := { row := deflateBlocksRow, standIns := [], harness := (true, "2f2d9a05170771d46a095cf54ff56833dfe40fcc59639e03ab761f27486c3b11"), looks := false }, kinds := [], alts := [], laidByText := true, laidKinds := [.widerDeep, .data, .data], laidTests := true, laidLooks := .later }
def DeflateBlocksCardSaid : Prop := Claim7.holds Tryd.pinned (.plain (OpenSpec.ofChange deflateBlocksSpec)) deflateBlocksCard

/-- THE TIED CARD OF 'haversacklaw07.DeflateStreams'. -/
def deflateStreamsCard : Claim7 := { stood := { row := deflateStreamsRow, standIns := [], harness := (true, "2f2d9a05170771d46a095cf54ff56833dfe40fcc59639e03ab761f27486c3b11"), looks := false }, kinds := [], alts := [], laidByText := true, laidKinds := [.widerDeep, .data, .data], laidTests := true, laidLooks := .later }
def DeflateStreamsCardSaid : Prop := Claim7.holds Tryd.pinned (.plain (OpenSpec.ofChange deflateStreamsSpec)) deflateStreamsCard

/-- THE TIED CARD OF 'haversacklaw07.DeflateNil'. -/
def deflateNilCard : Claim7 := { stood := { row := deflateNilRow, standIns := [], harness := (true, "2f2d9a05170771d46a095cf54ff56833dfe40fcc59639e03ab761f27486c3b11"), looks := false }, kinds := [], alts := [], laidByText := true, laidKinds := [.widerDeep, .data, .data], laidTests := true, laidLooks := .later }
def DeflateNilCardSaid : Prop := Claim7.holds Tryd.pinned (.plain (OpenSpec.ofChange deflateNilSpec)) deflateNilCard

/-- THE SECOND FORM's CARD OF 'haversacklaw07.DeflatePacks'. -/
def deflatePacksUptoCard : Claim7 := { stood := { row := deflatePacksUptoRow, standIns := [], harness := (true, "2f2d9a05170771d46a095cf54ff56833dfe40fcc59639e03ab761f27486c3b11"), looks := false }, kinds := [], alts := [], laidByText := true, laidKinds := [.widerDeep, .data, .data], laidTests := true, laidLooks := .later }
def DeflatePacksUptoCardSaid : Prop := Claim7.holds Tryd.pinned (.plain (OpenSpec.upto deflatePacksSpec)) deflatePacksUptoCard

/-- THE SECOND FORM's CARD OF 'haversacklaw07.DeflateStored'. -/
def deflateStoredUptoCard : Claim7 := { stood := { row := deflateStoredUptoRow, standIns := [], harness := (true, "2f2d9a05170771d46a095cf54ff56833dfe40fcc59639e03ab761f27486c3b11"), looks := false }, kinds := [], alts := [], laidByText := true, laidKinds := [.widerDeep, .data, .data], laidTests := true, laidLooks := .later }
def DeflateStoredUptoCardSaid : Prop := Claim7.holds Tryd.pinned (.plain (OpenSpec.upto deflateStoredSpec)) deflateStoredUptoCard

/-- THE SECOND FORM's CARD OF 'haversacklaw07.DeflateBlocks'. -/
def deflateBlocksUptoCard : Claim7 := { stood := { row := deflateBlocksUptoRow, standIns := [], harness := (true, "2f2d9a05170771d46a095cf54ff56833dfe40fcc59639e03ab761f27486c3b11"), looks := false }, kinds := [], alts := [], laidByText := true, laidKinds := [.widerDeep, .data, .data], laidTests := true, laidLooks := .later }
def DeflateBlocksUptoCardSaid : Prop := Claim7.holds Tryd.pinned (.plain (OpenSpec.upto deflateBlocksSpec)) deflateBlocksUptoCard

/-- THE SECOND FORM's CARD OF 'haversacklaw07.DeflateStreams'. -/
def deflateStreamsUptoCard : Claim7 := { stood := { row := deflateStreamsUptoRow, standIns := [], harness := (true, "2f2d9a05170771d46a095cf54ff56833dfe40fcc59639e03ab761f27486c3b11"), looks := false }, kinds := [], alts := [], laidByText := true, laidKinds := [.widerDeep, .data, .data], laidTests := true, laidLooks := .later }
def DeflateStreamsUptoCardSaid : Prop := Claim7.holds Tryd.pinned (.plain (OpenSpec.upto deflateStreamsSpec)) deflateStreamsUptoCard

/-- THE SECOND FORM's CARD OF 'haversacklaw07.DeflateNil'. -/
def deflateNilUptoCard : Claim7 := { stood := { row := deflateNilUptoRow, standIns := [], harness := (true, "2f2d9a05170771d46a095cf54ff56833dfe40fcc59639e03ab761f27486c3b11"), looks := false }, kinds := [], alts := [], laidByText := true, laidKinds := [.widerDeep, .data, .data], laidTests := true, laidLooks := .later }
def DeflateNilUptoCardSaid : Prop := Claim7.holds Tryd.pinned (.plain (OpenSpec.upto deflateNilSpec)) deflateNilUptoCard
end Rows
end Go.Proofs.YtkpabdjniiepkaaDoor
