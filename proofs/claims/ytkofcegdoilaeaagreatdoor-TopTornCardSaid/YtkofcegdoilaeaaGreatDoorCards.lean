/-
  DERIVED. GIVEN WITH THE SEED: THE CARDS: each row of YtkofcegdoilaeaaGreatDoorRows.lean that lists a variable, with what it lists TIED to the program's text (the seventh form; the later family's looks); each row that meets fmt, with fmt's text TOLD by the authors' own Lean function (tested against real Go, not proved from fmt's source: count such statements apart). THE CARD IS WHAT COUNTS. Prove the row's statement (the work); the ties are given (YtkofcegdoilaeaaGreatDoorTie.lean); close each card by the builder's one call (the guide's Derived/Test/ToyasCard.lean, 'card_holds'). Laid BY PROGRAM, IN A SANDBOX (cutbox-door.mjs). By AI agents, Wed Nov 11 2026. No macro, syntax, notation, axiom, sorry.
-/
import Derived.Test.YtkofcegdoilaeaaGreatDoorRows
import GoSem.ClaimSeven
namespace Go.Proofs.YtkofcegdoilaeaaGreatDoor
namespace Rows

/-- THE TIED CARD OF 'ciceronetop.TopTorn'. -/
def topTornCard : Claim7 := { stood := { row := topTornRow, standIns := [], harness := (true, "630d1b2acb4eae8c376dd1a91afa2b293e823237a2a3858fe0ab9a3d98d1d1ac"), looks := false }, kinds := [], alts := [], laidByText := true, laidKinds := [.data, .data, .data, .data, .data, .pinned], laidTests := true, laidLooks := .later }
def TopTornCardSaid : Prop := Claim7.holds Tryz.pinned (.plain (OpenSpec.ofChange topTornSpec)) topTornCard

/-- THE SECOND FORM's CARD OF 'ciceronetop.TopTorn'. -/
def topTornUptoCard : Claim7 := { stood := { row := topTornUptoRow, standIns := [], harness := (true, "630d1b2acb4eae8c376dd1a91afa2b293e823237a2a3858fe0ab9a3d98d1d1ac"), looks := false }, kinds := [], alts := [], laidByText := true, laidKinds := [.data, .data, .data, .data, .data, .pinned], laidTests := true, laidLooks := .later }
def TopTornUptoCardSaid : Prop := Claim7.holds Tryz.pinned (.plain (OpenSpec.upto topTornSpec)) topTornUptoCard
end Rows
end Go.Proofs.YtkofcegdoilaeaaGreatDoor
