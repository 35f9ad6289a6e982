/-
  DERIVED. GIVEN WITH THE SEED: THE CARDS: each row of YtkpabdjniiepkaaGreatDoorRows.lean that lists a variable, with what it lists TIED to the program's text (the seventh form; the later family's looks); each row that meets fmt, with fmt's text TOLD by the authors' own Lean function (tested against real Go, not proved from fmt's source: count such statements apart). THE CARD IS WHAT COUNTS. Prove the row's statement (the work); the ties are given (YtkpabdjniiepkaaGreatDoorTie.lean); close each card by the builder's one call (the guide's Derived/Test/ToyasCard.lean, 'card_holds'). Laid BY PROGRAM, IN A SANDBOX (cutbox-door.mjs). By AI agents, Wed Nov 11 2026. No macro, syntax, notation, axiom, sorry.
-/
import Derived.Test.YtkpabdjniiepkaaGreatDoorRows
import GoSem.ClaimSeven
namespace Go.Proofs.YtkpabdjniiepkaaGreatDoor
namespace Rows

/-- THE TIED CARD OF 'haversacklaw07.DeflateBack'. -/
def deflateBackCard : Claim7 := { stood := { row := deflateBackRow, standIns := [], harness := (true, "cf098124bdd0a052dc3b5b8664ee34eedfc7d35124dfe7d806d0fc06f5b6123a"), looks := false }, kinds := [], alts := [], laidByText := true, laidKinds := [.widerDeep, .data, .data], laidTests := true, laidLooks := .later }
def DeflateBackCardSaid : Prop := Claim7.holds Tryz.pinned (.plain (OpenSpec.ofChange deflateBackSpec)) deflateBackCard

/-- THE SECOND FORM's CARD OF 'haversacklaw07.DeflateBack'. -/
def deflateBackUptoCard : Claim7 := { stood := { row := deflateBackUptoRow, standIns := [], harness := (true, "cf098124bdd0a052dc3b5b8664ee34eedfc7d35124dfe7d806d0fc06f5b6123a"), looks := false }, kinds := [], alts := [], laidByText := true, laidKinds := [.widerDeep, .data, .data], laidTests := true, laidLooks := .later }
def DeflateBackUptoCardSaid : Prop := Claim7.holds Tryz.pinned (.plain (OpenSpec.upto deflateBackSpec)) deflateBackUptoCard
end Rows
end Go.Proofs.YtkpabdjniiepkaaGreatDoor
