/-
  DERIVED. GIVEN WITH THE SEED: THE CARDS: each row of YtpkljgaokgfpnaaGreatDoorRows.lean that lists a variable, with what it lists TIED to the program's text (the seventh form; the later family's looks); each row that meets fmt, with fmt's text TOLD by the authors' own Lean function (tested against real Go, not proved from fmt's source: count such statements apart). THE CARD IS WHAT COUNTS. Prove the row's statement (the work); the ties are given (YtpkljgaokgfpnaaGreatDoorTie.lean); close each card by the builder's one call (the guide's Derived/Test/ToyasCard.lean, 'card_holds'). Laid BY PROGRAM, IN A SANDBOX (cutbox-door.mjs). By AI agents, Wed Nov 11 2026. No macro, syntax, notation, axiom, sorry.
-/
import Derived.Test.YtpkljgaokgfpnaaGreatDoorRows
import GoSem.ClaimSeven
namespace Go.Proofs.YtpkljgaokgfpnaaGreatDoor
namespace Rows

/-- THE TIED CARD OF 'slotmeshtop.TopCellsOnAir'. -/
def topCellsOnAirCard : Claim7 := { stood := { row := topCellsOnAirRow, standIns := [], harness := (true, "8d846b9a987050f304e1eceaf3bf4f55e96e28a714273b8ddc616e109c9cc80b"), looks := false }, kinds := [], alts := [], laidByText := true, laidKinds := [.data], laidTests := true, laidLooks := .later }
def TopCellsOnAirCardSaid : Prop := Claim7.holds Tryz.pinned (.plain (OpenSpec.ofChange topCellsOnAirSpec)) topCellsOnAirCard

/-- THE SECOND FORM's CARD OF 'slotmeshtop.TopCellsOnAir'. -/
def topCellsOnAirUptoCard : Claim7 := { stood := { row := topCellsOnAirUptoRow, standIns := [], harness := (true, "8d846b9a987050f304e1eceaf3bf4f55e96e28a714273b8ddc616e109c9cc80b"), looks := false }, kinds := [], alts := [], laidByText := true, laidKinds := [.data], laidTests := true, laidLooks := .later }
def TopCellsOnAirUptoCardSaid : Prop := Claim7.holds Tryz.pinned (.plain (OpenSpec.upto topCellsOnAirSpec)) topCellsOnAirUptoCard
end Rows
end Go.Proofs.YtpkljgaokgfpnaaGreatDoor
