/-
  DERIVED. GIVEN WITH THE SEED: THE CARDS: each row of YtbngpfbjjklnbaaGreatDoorRows.lean that lists a variable, with what it lists TIED to the program's text (the seventh form; the later family's looks); each row that meets fmt, with fmt's text TOLD by the authors' own Lean function (tested against real Go, not proved from fmt's source: count such statements apart). THE CARD IS WHAT COUNTS. Prove the row's statement (the work); the ties are given (YtbngpfbjjklnbaaGreatDoorTie.lean); close each card by the builder's one call (the guide's Derived/Test/ToyasCard.lean, 'card_holds'). Laid BY PROGRAM, IN A SANDBOX (cutbox-door.mjs). By AI agents, Wed Nov 11 2026. No macro, syntax, notation, axiom, sorry.
-/
import Derived.Test.YtbngpfbjjklnbaaGreatDoorRows
import GoSem.ClaimSeven
namespace Go.Proofs.YtbngpfbjjklnbaaGreatDoor
namespace Rows

/-- THE TIED CARD OF 'multikernellaw07.AffinityRoutes'. -/
def affinityRoutesCard : Claim7 := { stood := { row := affinityRoutesRow, standIns := [], harness := (true, "24f99ed2cdcb2cc7a84d4d8f9280529b7f4d0eab2a8e4ab9a6d6d49bf9811a71"), looks := false }, kinds := [], alts := [], laidByText := true, laidKinds := [.data], laidTests := true, laidLooks := .later }
def AffinityRoutesCardSaid : Prop := Claim7.holds Tryz.pinned (.plain (OpenSpec.ofChange affinityRoutesSpec)) affinityRoutesCard

/-- THE TIED CARD OF 'multikernellaw07.AffinityRoom'. -/
def affinityRoomCard : Claim7 := { stood := { row := affinityRoomRow, standIns := [], harness := (true, "24f99ed2cdcb2cc7a84d4d8f9280529b7f4d0eab2a8e4ab9a6d6d49bf9811a71"), looks := false }, kinds := [], alts := [], laidByText := true, laidKinds := [.data], laidTests := true, laidLooks := .later }
def AffinityRoomCardSaid : Prop := Claim7.holds Tryz.pinned (.plain (OpenSpec.ofChange affinityRoomSpec)) affinityRoomCard

/-- THE TIED CARD OF 'multikernellaw07.AffinityExact'. -/
def affinityExactCard : Claim7 := { stood := { row := affinityExactRow, standIns := [], harness := (true, "24f99ed2cdcb2cc7a84d4d8f9280529b7f4d0eab2a8e4ab9a6d6d49bf9811a71"), looks := false }, kinds := [], alts := [], laidByText := true, laidKinds := [.data], laidTests := true, laidLooks := .later }
def AffinityExactCardSaid : Prop := Claim7.holds Tryz.pinned (.plain (OpenSpec.ofChange affinityExactSpec)) affinityExactCard

/-- THE TIED CARD OF 'multikernellaw07.AffinityMade'. -/
def affinityMadeCard : Claim7 := { stood := { row := affinityMadeRow, standIns := [], harness := (true, "24f99ed2cdcb2cc7a84d4d8f9280529b7f4d0eab2a8e4ab9a6d6d49bf9811a71"), looks := false }, kinds := [], alts := [], laidByText := true, laidKinds := [.data], laidTests := true, laidLooks := .later }
def AffinityMadeCardSaid : Prop := Claim7.holds Tryz.pinned (.plain (OpenSpec.ofChange affinityMadeSpec)) affinityMadeCard

/-- THE SECOND FORM's CARD OF 'multikernellaw07.AffinityRoutes'. -/
def affinityRoutesUptoCard : Claim7 := { stood := { row := affinityRoutesUptoRow, standIns := [], harness := (true, "24f99ed2cdcb2cc7a84d4d8f9280529b7f4d0eab2a8e4ab9a6d6d49bf9811a71"), looks := false }, kinds := [], alts := [], laidByText := true, laidKinds := [.data], laidTests := true, laidLooks := .later }
def AffinityRoutesUptoCardSaid : Prop := Claim7.holds Tryz.pinned (.plain (OpenSpec.upto affinityRoutesSpec)) affinityRoutesUptoCard

/-- THE SECOND FORM's CARD OF 'multikernellaw07.AffinityRoom'. -/
def affinityRoomUptoCard : Claim7 := { stood := { row := affinityRoomUptoRow, standIns := [], harness := (true, "24f99ed2cdcb2cc7a84d4d8f9280529b7f4d0eab2a8e4ab9a6d6d49bf9811a71"), looks := false }, kinds := [], alts := [], laidByText := true, laidKinds := [.data], laidTests := true, laidLooks := .later }
def AffinityRoomUptoCardSaid : Prop := Claim7.holds Tryz.pinned (.plain (OpenSpec.upto affinityRoomSpec)) affinityRoomUptoCard

/-- THE SECOND FORM's CARD OF 'multikernellaw07.AffinityExact'. -/
def affinityExactUptoCard : Claim7 := { stood := { row := affinityExactUptoRow, standIns := [], harness := (true, "24f99ed2cdcb2cc7a84d4d8f9280529b7f4d0eab2a8e4ab9a6d6d49bf9811a71"), looks := false }, kinds := [], alts := [], laidByText := true, laidKinds := [.data], laidTests := true, laidLooks := .later }
def AffinityExactUptoCardSaid : Prop := Claim7.holds Tryz.pinned (.plain (OpenSpec.upto affinityExactSpec)) affinityExactUptoCard

/-- THE SECOND FORM's CARD OF 'multikernellaw07.AffinityMade'. -/
def affinityMadeUptoCard : Claim7 := { stood := { row := affinityMadeUptoRow, standIns := [], harness := (true, "24f99ed2cdcb2cc7a84d4d8f9280529b7f4d0eab2a8e4ab9a6d6d49bf9811a71"), looks := false }, kinds := [], alts := [], laidByText := true, laidKinds := [.data], laidTests := true, laidLooks := .later }
def AffinityMadeUptoCardSaid : Prop := Claim7.holds Tryz.pinned (.plain (OpenSpec.upto affinityMadeSpec)) affinityMadeUptoCard
end Rows
end Go.Proofs.YtbngpfbjjklnbaaGreatDoor
