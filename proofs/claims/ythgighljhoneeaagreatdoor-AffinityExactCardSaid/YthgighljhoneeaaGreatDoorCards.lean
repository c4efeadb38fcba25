/-
  DERIVED. GIVEN WITH THE SEED: THE CARDS: each row of YthgighljhoneeaaGreatDoorRows.lean that lists a variable, with what it lists TIED to the program's text (the seventh form; the later family's looks); each row that meets fmt, with fmt's text TOLD by the authors' own Lean function (tested against real Go, not proved from fmt's source: count such statements apart). THE CARD IS WHAT COUNTS. Prove the row's statement (the work); the ties are given (YthgighljhoneeaaGreatDoorTie.lean); close each card by the builder's one call (the guide's Derived/Test/ToyasCard.lean, 'card_holds'). Laid BY PROGRAM, IN A SANDBOX (cutbox-door.mjs). By AI agents, Wed Nov 11 2026. No macro, syntax, notation, axiom, sorry.
-/
import Derived.Test.YthgighljhoneeaaGreatDoorRows
import GoSem.ClaimSeven
namespace Go.Proofs.YthgighljhoneeaaGreatDoor
namespace Rows

/-- THE TIED CARD OF 'multikernellaw07.AffinityExact'. -/
def affinityExactCard : Claim7 := { stood := { row := affinityExactRow, standIns := [], harness := (true, "57fbe62927641a4b5dcd7e8e9d6feebf898a90ffa50d9e58fbe9ca03902a1e1b"), looks := false }, kinds := [], alts := [], laidByText := true, laidKinds := [.data], laidTests := true, laidLooks := .later }
def AffinityExactCardSaid : Prop := Claim7.holds Tryz.pinned (.plain (OpenSpec.ofChange affinityExactSpec)) affinityExactCard

/-- THE TIED CARD OF 'multikernellaw07.AffinityMade'. -/
def affinityMadeCard : Claim7 := { stood := { row := affinityMadeRow, standIns := [], harness := (true, "57fbe62927641a4b5dcd7e8e9d6feebf898a90ffa50d9e58fbe9ca03902a1e1b"), looks := false }, kinds := [], alts := [], laidByText := true, laidKinds := [.data], laidTests := true, laidLooks := .later }
def AffinityMadeCardSaid : Prop := Claim7.holds Tryz.pinned (.plain (OpenSpec.ofChange affinityMadeSpec)) affinityMadeCard

/-- THE SECOND FORM's CARD OF 'multikernellaw07.AffinityExact'. -/
def affinityExactUptoCard : Claim7 := { stood := { row := affinityExactUptoRow, standIns := [], harness := (true, "57fbe62927641a4b5dcd7e8e9d6feebf898a90ffa50d9e58fbe9ca03902a1e1b"), looks := false }, kinds := [], alts := [], laidByText := true, laidKinds := [.data], laidTests := true, laidLooks := .later }
def AffinityExactUptoCardSaid : Prop := Claim7.holds Tryz.pinned (.plain (OpenSpec.upto affinityExactSpec)) affinityExactUptoCard

/-- THE SECOND FORM's CARD OF 'multikernellaw07.AffinityMade'. -/
def affinityMadeUptoCard : Claim7 := { stood := { row := affinityMadeUptoRow, standIns := [], harness := (true, "57fbe62927641a4b5dcd7e8e9d6feebf898a90ffa50d9e58fbe9ca03902a1e1b"), looks := false }, kinds := [], alts := [], laidByText := true, laidKinds := [.data], laidTests := true, laidLooks := .later }
def AffinityMadeUptoCardSaid : Prop := Claim7.holds Tryz.pinned (.plain (OpenSpec.upto affinityMadeSpec)) affinityMadeUptoCard
end Rows
end Go.Proofs.YthgighljhoneeaaGreatDoor
