/-
  DERIVED. GIVEN WITH THE SEED: THE CARDS: each row of YtechbpephhdmpaaGreatDoorRows.lean that lists a variable, with what it lists TIED to the program's text (the seventh form; the later family's looks); each row that meets fmt, with fmt's text TOLD by the authors' own Lean function (tested against real Go, not proved from fmt's source: count such statements apart). THE CARD IS WHAT COUNTS. Prove the row's statement (the work); the ties are given (YtechbpephhdmpaaGreatDoorTie.lean); close each card by the builder's one call (the guide's Derived/Test/ToyasCard.lean, 'card_holds'). Laid BY PROGRAM, IN A SANDBOX (cutbox-door.mjs). By AI agents, Wed Nov 11 2026. No macro, syntax, notation, axiom, sorry.
-/
import Derived.Test.YtechbpephhdmpaaGreatDoorRows
import GoSem.ClaimSeven
namespace Go.Proofs.YtechbpephhdmpaaGreatDoor
namespace Rows

/-- THE TIED CARD OF 'arbourlaw24.DeviceWhos'. -/
def deviceWhosCard : Claim7 := { stood := { row := deviceWhosRow, standIns := [], harness := (true, "d3d0351abb8a92d4705fad83452d00f30e7532812e7355c88f67a71ef65cc4c9"), looks := true }, kinds := [], alts := [], laidByText := true, laidKinds := [.data, .data, .data, .data, .pinned], laidTests := true, laidLooks := .later }
def DeviceWhosCardSaid : Prop := Claim7.holds Tryz.pinned (.plain (OpenSpec.ofChange deviceWhosSpec)) deviceWhosCard

/-- THE SECOND FORM's CARD OF 'arbourlaw24.DeviceWhos'. -/
def deviceWhosUptoCard : Claim7 := { stood := { row := deviceWhosUptoRow, standIns := [], harness := (true, "d3d0351abb8a92d4705fad83452d00f30e7532812e7355c88f67a71ef65cc4c9"), looks := true }, kinds := [], alts := [], laidByText := true, laidKinds := [.data, .data, .data, .data, .pinned], laidTests := true, laidLooks := .later }
def DeviceWhosUptoCardSaid : Prop := Claim7.holds Tryz.pinned (.plain (OpenSpec.upto deviceWhosSpec)) deviceWhosUptoCard
end Rows
end Go.Proofs.YtechbpephhdmpaaGreatDoor
