/-
  DERIVED. GIVEN WITH THE SEED: THE CARDS: each row of YtbhghelegonbbaaDoorRows.lean that lists a variable, with what it lists TIED to the program's text (the seventh form; the later family's looks); each row that meets fmt, with fmt's text TOLD by the authors' own Lean function (tested against real Go, not proved from fmt's source: count such statements apart). THE CARD IS WHAT COUNTS. Prove the row's statement (the work); the ties are given (YtbhghelegonbbaaDoorTie.lean); close each card by the builder's one call (the guide's Derived/Test/ToyasCard.lean, 'card_holds'). Laid BY PROGRAM, IN A SANDBOX (cutbox-door.mjs). By AI agents, Wed Nov 11 2026. No macro, syntax, notation, axiom, sorry.
-/
import Derived.Test.YtbhghelegonbbaaDoorRows
import GoSem.ClaimSeven
namespace Go.Proofs.YtbhghelegonbbaaDoor
namespace Rows

/-- THE TIED CARD OF 'ciceronetop.TopExport'. -/
def topExportCard : Claim7 := { stood := { row := topExportRow, standIns := [], harness := (true, "df1a2637c0b335ada393b94a65a253b7cb81d0963f1a7dde2f0084c6097a5f39"), looks := false }, kinds := [], alts := [], laidByText := true, laidKinds := [.data, .data, .data, .data, .data, .data, .pinned], laidTests := true, laidLooks := .later }
def TopExportCardSaid : Prop := Claim7.holds Tryd.pinned (.plain (OpenSpec.ofChange topExportSpec)) topExportCard

/-- THE SECOND FORM's CARD OF 'ciceronetop.TopExport'. -/
def topExportUptoCard : Claim7 := { stood := { row := topExportUptoRow, standIns := [], harness := (true, "df1a2637c0b335ada393b94a65a253b7cb81d0963f1a7dde2f0084c6097a5f39"), looks := false }, kinds := [], alts := [], laidByText := true, laidKinds := [.data, .data, .data, .data, .data, .data, .pinned], laidTests := true, laidLooks := .later }
def TopExportUptoCardSaid : Prop := Claim7.holds Tryd.pinned (.plain (OpenSpec.upto topExportSpec)) topExportUptoCard
end Rows
end Go.Proofs.YtbhghelegonbbaaDoor
