/-
  DERIVED. GIVEN WITH THE SEED: THE CARDS: each row of YtimbobmmijgkiaaGreatDoorRows.lean that lists a variable, with what it lists TIED to the program's text (the seventh form; the later family's looks); each row that meets fmt, with fmt's text TOLD by the authors' own Lean function (tested against real Go, not proved from fmt's source: count such statements apart). THE CARD IS WHAT COUNTS. Prove the row's statement (the work); the ties are given (YtimbobmmijgkiaaGreatDoorTie.lean); close each card by the builder's one call (the guide's Derived/Test/ToyasCard.lean, 'card_holds'). Laid BY PROGRAM, IN A SANDBOX (cutbox-door.mjs). By AI agents, Wed Nov 11 2026. No macro, syntax, notation, axiom, sorry.
-/
import Derived.Test.YtimbobmmijgkiaaGreatDoorRows
import GoSem.ClaimSeven
namespace Go.Proofs.YtimbobmmijgkiaaGreatDoor
namespace Rows

/-- THE TIED CARD OF 'multikernellaw03.DescLayout'. -/
def descLayoutCard : Claim7 := { stood := { row := descLayoutRow, standIns := [], harness := (true, "0fbb7d6852ae0d8a3d99e633686b3100b14d36446fd74824278675c5a3bee7f0"), looks := true }, kinds := [], alts := [], laidByText := true, laidKinds := [.data, .data, .data], laidTests := true, laidLooks := .later }
def DescLayoutCardSaid : Prop := Claim7.holds Tryz.pinned (.plain (OpenSpec.ofChange descLayoutSpec)) descLayoutCard

/-- THE TIED CARD OF 'multikernellaw03.DescRoundTrip'. -/
def descRoundTripCard : Claim7 := { stood := { row := descRoundTripRow, standIns := [], harness := (true, "0fbb7d6852ae0d8a3d99e633686b3100b14d36446fd74824278675c5a3bee7f0"), looks := true }, kinds := [], alts := [], laidByText := true, laidKinds := [.data, .data, .data], laidTests := true, laidLooks := .later }
def DescRoundTripCardSaid : Prop := Claim7.holds Tryz.pinned (.plain (OpenSpec.ofChange descRoundTripSpec)) descRoundTripCard

/-- THE TIED CARD OF 'multikernellaw03.DescOrder'. -/
def descOrderCard : Claim7 := { stood := { row := descOrderRow, standIns := [], harness := (true, "0fbb7d6852ae0d8a3d99e633686b3100b14d36446fd74824278675c5a3bee7f0"), looks := true }, kinds := [], alts := [], laidByText := true, laidKinds := [.data, .data, .data], laidTests := true, laidLooks := .later }
def DescOrderCardSaid : Prop := Claim7.holds Tryz.pinned (.plain (OpenSpec.ofChange descOrderSpec)) descOrderCard

/-- THE TIED CARD OF 'multikernellaw03.DescExact'. -/
def descExactCard : Claim7 := { stood := { row := descExactRow, standIns := [], harness := (true, "0fbb7d6852ae0d8a3d99e633686b3100b14d36446fd74824278675c5a3bee7f0"), looks := true }, kinds := [], alts := [], laidByText := true, laidKinds := [.data, .data, .data], laidTests := true, laidLooks := .later }
def DescExactCardSaid : Prop := Claim7.holds Tryz.pinned (.plain (OpenSpec.ofChange descExactSpec)) descExactCard

/-- THE SECOND FORM's CARD OF 'multikernellaw03.DescLayout'. -/
def descLayoutUptoCard : Claim7 := { stood := { row := descLayoutUptoRow, standIns := [], harness := (true, "0fbb7d6852ae0d8a3d99e633686b3100b14d36446fd74824278675c5a3bee7f0"), looks := true }, kinds := [], alts := [], laidByText := true, laidKinds := [.data, .data, .data], laidTests := true, laidLooks := .later }
def DescLayoutUptoCardSaid : Prop := Claim7.holds Tryz.pinned (.plain (OpenSpec.upto descLayoutSpec)) descLayoutUptoCard

/-- THE SECOND FORM's CARD OF 'multikernellaw03.DescRoundTrip'. -/
def descRoundTripUptoCard : Claim7 := { stood := { row := descRoundTripUptoRow, standIns := [], harness := (true, "0fbb7d6852ae0d8a3d99e633686b3100b14d36446fd74824278675c5a3bee7f0"), looks := true }, kinds := [], alts := [], laidByText := true, laidKinds := [.data, .data, .data], laidTests := true, laidLooks := .later }
def DescRoundTripUptoCardSaid : Prop := Claim7.holds Tryz.pinned (.plain (OpenSpec.upto descRoundTripSpec)) descRoundTripUptoCard

/-- THE SECOND FORM's CARD OF 'multikernellaw03.DescOrder'. -/
def descOrderUptoCard : Claim7 := { stood := { row := descOrderUptoRow, standIns := [], harness := (true, "0fbb7d6852ae0d8a3d99e633686b3100b14d36446fd74824278675c5a3bee7f0"), looks := true }, kinds := [], alts := [], laidByText := true, laidKinds := [.data, .data, .data], laidTests := true, laidLooks := .later }
def DescOrderUptoCardSaid : Prop := Claim7.holds Tryz.pinned (.plain (OpenSpec.upto descOrderSpec)) descOrderUptoCard

/-- THE SECOND FORM's CARD OF 'multikernellaw03.DescExact'. -/
def descExactUptoCard : Claim7 := { stood := { row := descExactUptoRow, standIns := [], harness := (true, "0fbb7d6852ae0d8a3d99e633686b3100b14d36446fd74824278675c5a3bee7f0"), looks := true }, kinds := [], alts := [], laidByText := true, laidKinds := [.data, .data, .data], laidTests := true, laidLooks := .later }
def DescExactUptoCardSaid : Prop := Claim7.holds Tryz.pinned (.plain (OpenSpec.upto descExactSpec)) descExactUptoCard
end Rows
end Go.Proofs.YtimbobmmijgkiaaGreatDoor
