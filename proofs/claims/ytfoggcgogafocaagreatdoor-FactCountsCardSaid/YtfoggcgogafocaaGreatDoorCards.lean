/-
  DERIVED. GIVEN WITH THE SEED: THE CARDS: each row of YtfoggcgogafocaaGreatDoorRows.lean that lists a variable, with what it lists TIED to the program's text (the seventh form; the later family's looks); each row that meets fmt, with fmt's text TOLD by the authors' own Lean function (tested against real Go, not proved from fmt's source: count such statements apart). THE CARD IS WHAT COUNTS. Prove the row's statement (the work); the ties are given (YtfoggcgogafocaaGreatDoorTie.lean); close each card by the builder's one call (the guide's Derived/Test/ToyasCard.lean, 'card_holds'). Laid BY PROGRAM, IN A SANDBOX (cutbox-door.mjs). By AI agents, Wed Nov 11 2026. No macro, syntax, notation, axiom, sorry.
-/
import Derived.Test.YtfoggcgogafocaaGreatDoorRows
import GoSem.ClaimSeven
namespace Go.Proofs.YtfoggcgogafocaaGreatDoor
namespace Rows

/-- THE TIED CARD OF 'multikernellaw04.FactCounts'. -/
def factCountsCard : Claim7 := { stood := { row := factCountsRow, standIns := [], harness := (true, "71da1222a29b31ad07aad8eed7018c8a9e2f9b91dcd8a22167afda0762357dd7"), looks := true }, kinds := [], alts := [], laidByText := true, laidKinds := [.data, .data, .data], laidTests := true, laidLooks := .later }
def FactCountsCardSaid : Prop := Claim7.holds Tryz.pinned (.plain (OpenSpec.ofChange factCountsSpec)) factCountsCard

/-- THE TIED CARD OF 'multikernellaw04.FactHardware'. -/
def factHardwareCard : Claim7 := { stood := { row := factHardwareRow, standIns := [], harness := (true, "71da1222a29b31ad07aad8eed7018c8a9e2f9b91dcd8a22167afda0762357dd7"), looks := true }, kinds := [], alts := [], laidByText := true, laidKinds := [.data, .data, .data], laidTests := true, laidLooks := .later }
def FactHardwareCardSaid : Prop := Claim7.holds Tryz.pinned (.plain (OpenSpec.ofChange factHardwareSpec)) factHardwareCard

/-- THE SECOND FORM's CARD OF 'multikernellaw04.FactCounts'. -/
def factCountsUptoCard : Claim7 := { stood := { row := factCountsUptoRow, standIns := [], harness := (true, "71da1222a29b31ad07aad8eed7018c8a9e2f9b91dcd8a22167afda0762357dd7"), looks := true }, kinds := [], alts := [], laidByText := true, laidKinds := [.data, .data, .data], laidTests := true, laidLooks := .later }
def FactCountsUptoCardSaid : Prop := Claim7.holds Tryz.pinned (.plain (OpenSpec.upto factCountsSpec)) factCountsUptoCard

/-- THE SECOND FORM's CARD OF 'multikernellaw04.FactHardware'. -/
def factHardwareUptoCard : Claim7 := { stood := { row := factHardwareUptoRow, standIns := [], harness := (true, "71da1222a29b31ad07aad8eed7018c8a9e2f9b91dcd8a22167afda0762357dd7"), looks := true }, kinds := [], alts := [], laidByText := true, laidKinds := [.data, .data, .data], laidTests := true, laidLooks := .later }
def FactHardwareUptoCardSaid : Prop := Claim7.holds Tryz.pinned (.plain (OpenSpec.upto factHardwareSpec)) factHardwareUptoCard
end Rows
end Go.Proofs.YtfoggcgogafocaaGreatDoor
