/-
  DERIVED. GIVEN WITH THE SEED: THE CARDS: each row of YtlmiakjbogojgaaGreatDoorRows.lean that lists a variable, with what it lists TIED to the program's text (the seventh form; the later family's looks); each row that meets fmt, with fmt's text TOLD by the authors' own Lean function (tested against real Go, not proved from fmt's source: count such statements apart). THE CARD IS WHAT COUNTS. Prove the row's statement (the work); the ties are given (YtlmiakjbogojgaaGreatDoorTie.lean); close each card by the builder's one call (the guide's Derived/Test/ToyasCard.lean, 'card_holds'). Laid BY PROGRAM, IN A SANDBOX (cutbox-door.mjs). By AI agents, Wed Nov 11 2026. No macro, syntax, notation, axiom, sorry.
-/
import Derived.Test.YtlmiakjbogojgaaGreatDoorRows
import GoSem.ClaimSeven
namespace Go.Proofs.YtlmiakjbogojgaaGreatDoor
namespace Rows

/-- THE TIED CARD OF 'multikernellaw05.QueryText'. -/
def queryTextCard : Claim7 := { stood := { row := queryTextRow, standIns := [], harness := (true, "a5a9fa735320e248026c6f191abf613d27902682767b54c86588e6e7f39d348f"), looks := true }, kinds := [], alts := [], laidByText := true, laidKinds := [.data, .data, .data], laidTests := true, laidLooks := .later }
def QueryTextCardSaid : Prop := Claim7.holds Tryz.pinned (.plain (OpenSpec.ofChange queryTextSpec)) queryTextCard

/-- THE TIED CARD OF 'multikernellaw07.AffinityNearest'. -/
def affinityNearestCard : Claim7 := { stood := { row := affinityNearestRow, standIns := [], harness := (true, "a5a9fa735320e248026c6f191abf613d27902682767b54c86588e6e7f39d348f"), looks := true }, kinds := [], alts := [], laidByText := true, laidKinds := [.data], laidTests := true, laidLooks := .later }
def AffinityNearestCardSaid : Prop := Claim7.holds Tryz.pinned (.plain (OpenSpec.ofChange affinityNearestSpec)) affinityNearestCard

/-- THE SECOND FORM's CARD OF 'multikernellaw05.QueryText'. -/
def queryTextUptoCard : Claim7 := { stood := { row := queryTextUptoRow, standIns := [], harness := (true, "a5a9fa735320e248026c6f191abf613d27902682767b54c86588e6e7f39d348f"), looks := true }, kinds := [], alts := [], laidByText := true, laidKinds := [.data, .data, .data], laidTests := true, laidLooks := .later }
def QueryTextUptoCardSaid : Prop := Claim7.holds Tryz.pinned (.plain (OpenSpec.upto queryTextSpec)) queryTextUptoCard

/-- THE SECOND FORM's CARD OF 'multikernellaw07.AffinityNearest'. -/
def affinityNearestUptoCard : Claim7 := { stood := { row := affinityNearestUptoRow, standIns := [], harness := (true, "a5a9fa735320e248026c6f191abf613d27902682767b54c86588e6e7f39d348f"), looks := true }, kinds := [], alts := [], laidByText := true, laidKinds := [.data], laidTests := true, laidLooks := .later }
def AffinityNearestUptoCardSaid : Prop := Claim7.holds Tryz.pinned (.plain (OpenSpec.upto affinityNearestSpec)) affinityNearestUptoCard
end Rows
end Go.Proofs.YtlmiakjbogojgaaGreatDoor
