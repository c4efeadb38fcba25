/-
  DERIVED. GIVEN WITH THE SEED: THE CARDS: each row of YtmjkacgmepbljaaGreatDoorRows.lean that lists a variable, with what it lists TIED to the program's text (the seventh form; the later family's looks); each row that meets fmt, with fmt's text TOLD by the authors' own Lean function (tested against real Go, not proved from fmt's source: count such statements apart). THE CARD IS WHAT COUNTS. Prove the row's statement (the work); the ties are given (YtmjkacgmepbljaaGreatDoorTie.lean); close each card by the builder's one call (the guide's Derived/Test/ToyasCard.lean, 'card_holds'). Laid BY PROGRAM, IN A SANDBOX (cutbox-door.mjs). By AI agents, Wed Nov 11 2026. No macro, syntax, notation, axiom, sorry.
-/
import Derived.Test.YtmjkacgmepbljaaGreatDoorRows
import GoSem.ClaimSeven
namespace Go.Proofs.YtmjkacgmepbljaaGreatDoor
namespace Rows

/-- THE TIED CARD OF 'multikernellaw04.FactOrder'. -/
def factOrderCard : Claim7 := { stood := { row := factOrderRow, standIns := [], harness := (true, "293723bd6a17caaf665b4753f0d6c6058d651f03065062dc1f80d1dc56d4af8f"), looks := false }, kinds := [], alts := [], laidByText := true, laidKinds := [.data, .data, .data], laidTests := true, laidLooks := .later }
def FactOrderCardSaid : Prop := Claim7.holds Tryz.pinned (.plain (OpenSpec.ofChange factOrderSpec)) factOrderCard

/-- THE TIED CARD OF 'multikernellaw04.FactText'. -/
def factTextCard : Claim7 := { stood := { row := factTextRow, standIns := [], harness := (true, "293723bd6a17caaf665b4753f0d6c6058d651f03065062dc1f80d1dc56d4af8f"), looks := false }, kinds := [], alts := [], laidByText := true, laidKinds := [.data, .data, .data], laidTests := true, laidLooks := .later }
def FactTextCardSaid : Prop := Claim7.holds Tryz.pinned (.plain (OpenSpec.ofChange factTextSpec)) factTextCard

/-- THE TIED CARD OF 'multikernellaw04.FactRoundTrip'. -/
def factRoundTripCard : Claim7 := { stood := { row := factRoundTripRow, standIns := [], harness := (true, "293723bd6a17caaf665b4753f0d6c6058d651f03065062dc1f80d1dc56d4af8f"), looks := false }, kinds := [], alts := [], laidByText := true, laidKinds := [.data, .data, .data], laidTests := true, laidLooks := .later }
def FactRoundTripCardSaid : Prop := Claim7.holds Tryz.pinned (.plain (OpenSpec.ofChange factRoundTripSpec)) factRoundTripCard

/-- THE TIED CARD OF 'multikernellaw04.FactLaws'. -/
def factLawsCard : Claim7 := { stood := { row := factLawsRow, standIns := [], harness := (true, "293723bd6a17caaf665b4753f0d6c6058d651f03065062dc1f80d1dc56d4af8f"), looks := false }, kinds := [], alts := [], laidByText := true, laidKinds := [.data, .data, .data], laidTests := true, laidLooks := .later }
def FactLawsCardSaid : Prop := Claim7.holds Tryz.pinned (.plain (OpenSpec.ofChange factLawsSpec)) factLawsCard

/-- THE TIED CARD OF 'multikernellaw04.FactSets'. -/
def factSetsCard : Claim7 := { stood := { row := factSetsRow, standIns := [], harness := (true, "293723bd6a17caaf665b4753f0d6c6058d651f03065062dc1f80d1dc56d4af8f"), looks := false }, kinds := [], alts := [], laidByText := true, laidKinds := [.data, .data, .data], laidTests := true, laidLooks := .later }
def FactSetsCardSaid : Prop := Claim7.holds Tryz.pinned (.plain (OpenSpec.ofChange factSetsSpec)) factSetsCard

/-- THE SECOND FORM's CARD OF 'multikernellaw04.FactOrder'. -/
def factOrderUptoCard : Claim7 := { stood := { row := factOrderUptoRow, standIns := [], harness := (true, "293723bd6a17caaf665b4753f0d6c6058d651f03065062dc1f80d1dc56d4af8f"), looks := false }, kinds := [], alts := [], laidByText := true, laidKinds := [.data, .data, .data], laidTests := true, laidLooks := .later }
def FactOrderUptoCardSaid : Prop := Claim7.holds Tryz.pinned (.plain (OpenSpec.upto factOrderSpec)) factOrderUptoCard

/-- THE SECOND FORM's CARD OF 'multikernellaw04.FactText'. -/
def factTextUptoCard : Claim7 := { stood := { row := factTextUptoRow, standIns := [], harness := (true, "293723bd6a17caaf665b4753f0d6c6058d651f03065062dc1f80d1dc56d4af8f"), looks := false }, kinds := [], alts := [], laidByText := true, laidKinds := [.data, .data, .data], laidTests := true, laidLooks := .later }
def FactTextUptoCardSaid : Prop := Claim7.holds Tryz.pinned (.plain (OpenSpec.upto factTextSpec)) factTextUptoCard

/-- THE SECOND FORM's CARD OF 'multikernellaw04.FactRoundTrip'. -/
def factRoundTripUptoCard : Claim7 := { stood := { row := factRoundTripUptoRow, standIns := [], harness := (true, "293723bd6a17caaf665b4753f0d6c6058d651f03065062dc1f80d1dc56d4af8f"), looks := false }, kinds := [], alts := [], laidByText := true, laidKinds := [.data, .data, .data], laidTests := true, laidLooks := .later }
def FactRoundTripUptoCardSaid : Prop := Claim7.holds Tryz.pinned (.plain (OpenSpec.upto factRoundTripSpec)) factRoundTripUptoCard

/-- THE SECOND FORM's CARD OF 'multikernellaw04.FactLaws'. -/
def factLawsUptoCard : Claim7 := { stood := { row := factLawsUptoRow, standIns := [], harness := (true, "293723bd6a17caaf665b4753f0d6c6058d651f03065062dc1f80d1dc56d4af8f"), looks := false }, kinds := [], alts := [], laidByText := true, laidKinds := [.data, .data, .data], laidTests := true, laidLooks := .later }
def FactLawsUptoCardSaid : Prop := Claim7.holds Tryz.pinned (.plain (OpenSpec.upto factLawsSpec)) factLawsUptoCard

/-- THE SECOND FORM's CARD OF 'multikernellaw04.FactSets'. -/
def factSetsUptoCard : Claim7 := { stood := { row := factSetsUptoRow, standIns := [], harness := (true, "293723bd6a17caaf665b4753f0d6c6058d651f03065062dc1f80d1dc56d4af8f"), looks := false }, kinds := [], alts := [], laidByText := true, laidKinds := [.data, .data, .data], laidTests := true, laidLooks := .later }
def FactSetsUptoCardSaid : Prop := Claim7.holds Tryz.pinned (.plain (OpenSpec.upto factSetsSpec)) factSetsUptoCard
end Rows
end Go.Proofs.YtmjkacgmepbljaaGreatDoor
