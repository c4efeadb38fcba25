/-
  DERIVED. GIVEN WITH THE SEED: THE CARDS: each row of YtfbggkmlkkffbaaDoorRows.lean that lists a variable, with what it lists TIED to the program's text (the seventh form; the later family's looks); each row that meets fmt, with fmt's text TOLD by the authors' own Lean function (tested against real Go, not proved from fmt's source: count such statements apart). THE CARD IS WHAT COUNTS. Prove the row's statement (the work); the ties are given (YtfbggkmlkkffbaaDoorTie.lean); close each card by the builder's one call (the guide's Derived/Test/ToyasCard.lean, 'card_holds'). Laid BY PROGRAM, IN A SANDBOX (cutbox-door.mjs). By AI agents, Wed Nov 11 2026. No macro, syntax, notation, axiom, sorry.
-/
import Derived.Test.YtfbggkmlkkffbaaDoorRows
import GoSem.ClaimSeven
namespace Go.Proofs.YtfbggkmlkkffbaaDoor
namespace Rows

/-- THE TIED CARD OF 'multikernellaw07.AffinityPartition'. -/
def affinityPartitionCard : Claim7 := { stood := { row := affinityPartitionRow, standIns := [], harness := (true, "b01622783d1aec1ecf8457d3ea7129938c61b37ef62695466a7593189d4e04a9"), looks := false }, kinds := [], alts := [], laidByText := true, laidKinds := [.data], laidTests := true, laidLooks := .later }
def AffinityPartitionCardSaid : Prop := Claim7.holds Tryd.pinned (.plain (OpenSpec.ofChange affinityPartitionSpec)) affinityPartitionCard

/-- THE TIED CARD OF 'multikernellaw07.AffinityNear'. -/
def affinityNearCard : Claim7 := { stood := { row := affinityNearRow, standIns := [], harness := (true, "b01622783d1aec1ecf8457d3ea7129938c61b37ef62695466a7593189d4e04a9"), looks := false }, kinds := [], alts := [], laidByText := true, laidKinds := [.data], laidTests := true, laidLooks := .later }
def AffinityNearCardSaid : Prop := Claim7.holds Tryd.pinned (.plain (OpenSpec.ofChange affinityNearSpec)) affinityNearCard

/-- THE SECOND FORM's CARD OF 'multikernellaw07.AffinityPartition'. -/
def affinityPartitionUptoCard : Claim7 := { stood := { row := affinityPartitionUptoRow, standIns := [], harness := (true, "b01622783d1aec1ecf8457d3ea7129938c61b37ef62695466a7593189d4e04a9"), looks := false }, kinds := [], alts := [], laidByText := true, laidKinds := [.data], laidTests := true, laidLooks := .later }
def AffinityPartitionUptoCardSaid : Prop := Claim7.holds Tryd.pinned (.plain (OpenSpec.upto affinityPartitionSpec)) affinityPartitionUptoCard

/-- THE SECOND FORM's CARD OF 'multikernellaw07.AffinityNear'. -/
def affinityNearUptoCard : Claim7 := { stood := { row := affinityNearUptoRow, standIns := [], harness := (true, "b01622783d1aec1ecf8457d3ea7129938c61b37ef62695466a7593189d4e04a9"), looks := false }, kinds := [], alts := [], laidByText := true, laidKinds := [.data], laidTests := true, laidLooks := .later }
def AffinityNearUptoCardSaid : Prop := Claim7.holds Tryd.pinned (.plain (OpenSpec.upto affinityNearSpec)) affinityNearUptoCard
end Rows
end Go.Proofs.YtfbggkmlkkffbaaDoor
