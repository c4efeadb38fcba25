/-
  No cell of these rows narrows 'for every input' (looked for: loops, veiled, ifaces, maps, wideKeys, modest, calm, conditions, laid).
  DERIVED. THE GIVEN ROWS OF THIS SEAT. 5 by the template 'for every input the law returns true; each argument reads behind the call as it read before'; 0 by the template 'total and deterministic' (their statements: YthgighljhoneeaaGreatTotals.lean).
  GIVEN WITH THE SEED: the statements are not yours to turn. If you find one false, say at which input.
  Laid BY PROGRAM, IN A SANDBOX (cutbox-rows.mjs): the forced cells as the released guide's own fill.sh prints them over the translation 2b7a030b6a241be3… (all of the seat's roots in one cut). By AI agents, Wed Nov 11 2026. No macro, syntax, notation, axiom, sorry.
-/
import Derived.Test.YthgighljhoneeaaGreatChecked
import GoSem.Claim
import GoSem.ClaimJoined
import GoSem.ClaimMapViews
import Derived.JoinedTies
import Derived.KernelRfl
namespace Go.Proofs.YthgighljhoneeaaGreat
/- THE CELL 'sum', in the pinned program and in every row, IS THE sha256 OF THE DUMP (.gsa) THAT YthgighljhoneeaaGreatProg.lean LOADS. Nothing in Lean hashes anything: it is a label: what it is worth is what the hold of that sum in a sandbox is worth. -/
noncomputable def Tryz.pinned : Pinned := { name := "ythgighljhoneeaagreat", sum := "2b7a030b6a241be385b8c98c1f53d6a9d51c8dfecdd89e2b2e2f492b248cd2c1", checked := Tryz.checked }
namespace Rows
def none {H : Type} : Left H := { results := [], args := [] }

/-- 'multikernellaw37.DriverOthers': WHATEVER THE INPUT: true; the input reads as it did. -/
def driverOthersSpec : ChangeSpec := { name := "driverOthers", fn := fun _ => fun
  | [d1, d2, d3, d4] => { results := [.lit (.bool true)], args := [d1, d2, d3, d4] }
  | _ => none }
def driverOthersRow : OpenClaim := { program := "ythgighljhoneeaagreat", sum := "2b7a030b6a241be385b8c98c1f53d6a9d51c8dfecdd89e2b2e2f492b248cd2c1", func := "multikernel/multikernellaw37.DriverOthers", spec := "driverOthers", unfollowed := true, recurses := true, plainKeys := false, apart := false }
def DriverOthersSaid : Prop := driverOthersRow.holds Tryz.pinned (OpenSpec.ofChange driverOthersSpec)

/-- ITS FALSE NEIGHBOUR: 'it returns false'. Refute it at one input. -/
def driverOthersWrong : ChangeSpec := { name := "driverOthers", fn := fun _ => fun
  | [d1, d2, d3, d4] => { results := [.lit (.bool false)], args := [d1, d2, d3, d4] }
  | _ => none }
def DriverOthersWrongFalsely : Prop := driverOthersRow.holds Tryz.pinned (OpenSpec.ofChange driverOthersWrong)

/-- 'multikernellaw37.DriverExact': WHATEVER THE INPUT: true; the input reads as it did. -/
def driverExactSpec : ChangeSpec := { name := "driverExact", fn := fun _ => fun
  | [d1, d2, d3, d4] => { results := [.lit (.bool true)], args := [d1, d2, d3, d4] }
  | _ => none }
def driverExactRow : OpenClaim := { program := "ythgighljhoneeaagreat", sum := "2b7a030b6a241be385b8c98c1f53d6a9d51c8dfecdd89e2b2e2f492b248cd2c1", func := "multikernel/multikernellaw37.DriverExact", spec := "driverExact", unfollowed := true, recurses := true, plainKeys := false, apart := false }
def DriverExactSaid : Prop := driverExactRow.holds Tryz.pinned (OpenSpec.ofChange driverExactSpec)

/-- ITS FALSE NEIGHBOUR: 'it returns false'. Refute it at one input. -/
def driverExactWrong : ChangeSpec := { name := "driverExact", fn := fun _ => fun
  | [d1, d2, d3, d4] => { results := [.lit (.bool false)], args := [d1, d2, d3, d4] }
  | _ => none }
def DriverExactWrongFalsely : Prop := driverExactRow.holds Tryz.pinned (OpenSpec.ofChange driverExactWrong)

/-- 'multikernellaw37.DriverRoutes': WHATEVER THE INPUT: true; the input reads as it did. -/
def driverRoutesSpec : ChangeSpec := { name := "driverRoutes", fn := fun _ => fun
  | [d1, d2, d3] => { results := [.lit (.bool true)], args := [d1, d2, d3] }
  | _ => none }
def driverRoutesRow : OpenClaim := { program := "ythgighljhoneeaagreat", sum := "2b7a030b6a241be385b8c98c1f53d6a9d51c8dfecdd89e2b2e2f492b248cd2c1", func := "multikernel/multikernellaw37.DriverRoutes", spec := "driverRoutes", unfollowed := true, recurses := true, plainKeys := false, apart := false }
def DriverRoutesSaid : Prop := driverRoutesRow.holds Tryz.pinned (OpenSpec.ofChange driverRoutesSpec)

/-- ITS FALSE NEIGHBOUR: 'it returns false'. Refute it at one input. -/
def driverRoutesWrong : ChangeSpec := { name := "driverRoutes", fn := fun _ => fun
  | [d1, d2, d3] => { results := [.lit (.bool false)], args := [d1, d2, d3] }
  | _ => none }
def DriverRoutesWrongFalsely : Prop := driverRoutesRow.holds Tryz.pinned (OpenSpec.ofChange driverRoutesWrong)

/-- 'multikernellaw37.DriverLost': WHATEVER THE INPUT: true; the input reads as it did. -/
def driverLostSpec : ChangeSpec := { name := "driverLost", fn := fun _ => fun
  | [d1, d2, d3, d4] => { results := [.lit (.bool true)], args := [d1, d2, d3, d4] }
  | _ => none }
def driverLostRow : OpenClaim := { program := "ythgighljhoneeaagreat", sum := "2b7a030b6a241be385b8c98c1f53d6a9d51c8dfecdd89e2b2e2f492b248cd2c1", func := "multikernel/multikernellaw37.DriverLost", spec := "driverLost", unfollowed := true, recurses := true, plainKeys := false, apart := false }
def DriverLostSaid : Prop := driverLostRow.holds Tryz.pinned (OpenSpec.ofChange driverLostSpec)

/-- ITS FALSE NEIGHBOUR: 'it returns false'. Refute it at one input. -/
def driverLostWrong : ChangeSpec := { name := "driverLost", fn := fun _ => fun
  | [d1, d2, d3, d4] => { results := [.lit (.bool false)], args := [d1, d2, d3, d4] }
  | _ => none }
def DriverLostWrongFalsely : Prop := driverLostRow.holds Tryz.pinned (OpenSpec.ofChange driverLostWrong)

/-- 'multikernellaw37.DriverClone': WHATEVER THE INPUT: true; the input reads as it did. -/
def driverCloneSpec : ChangeSpec := { name := "driverClone", fn := fun _ => fun
  | [d1, d2, d3, d4] => { results := [.lit (.bool true)], args := [d1, d2, d3, d4] }
  | _ => none }
def driverCloneRow : OpenClaim := { program := "ythgighljhoneeaagreat", sum := "2b7a030b6a241be385b8c98c1f53d6a9d51c8dfecdd89e2b2e2f492b248cd2c1", func := "multikernel/multikernellaw37.DriverClone", spec := "driverClone", unfollowed := true, recurses := true, plainKeys := false, apart := false }
def DriverCloneSaid : Prop := driverCloneRow.holds Tryz.pinned (OpenSpec.ofChange driverCloneSpec)

/-- ITS FALSE NEIGHBOUR: 'it returns false'. Refute it at one input. -/
def driverCloneWrong : ChangeSpec := { name := "driverClone", fn := fun _ => fun
  | [d1, d2, d3, d4] => { results := [.lit (.bool false)], args := [d1, d2, d3, d4] }
  | _ => none }
def DriverCloneWrongFalsely : Prop := driverCloneRow.holds Tryz.pinned (OpenSpec.ofChange driverCloneWrong)

/- THE SECOND FORM. 'bulk': how many values and letters a reading holds, each counted each time it is reached (what is shared counts as often as it is met; a slice's spare places count too). A statement '..UptoSaid' is the law's where the arguments, and the package variables that the reading takes, are together of bulk at most 1048576: NARROWER than '..Said'. Prove '..Said' where nothing that the law and all that it calls make is longer than what came in: it says more and counts as full. Else prove '..UptoSaid'. A law counts once. -/
mutual
def uptoBulk {H : Type} : DataW H → Nat
  | .lit (.string bytes) => bytes.length + 1
  | .lit _ => 1
  | .nil => 1
  | .ptr d => uptoBulk d + 1
  | .slice elems spare => uptoBulkAll elems + uptoBulkAll spare + 1
  | .agg parts => uptoBulkAll parts + 1
  | .iface _ d => uptoBulk d + 1
  | .map entries => uptoBulkEntries entries + 1
  | .held _ => 1
def uptoBulkAll {H : Type} : List (DataW H) → Nat
  | [] => 0
  | d :: r => uptoBulk d + uptoBulkAll r
def uptoBulkEntries {H : Type} : List (Lit × DataW H) → Nat
  | [] => 0
  | x :: r => uptoBulkEntry x + uptoBulkEntries r
def uptoBulkEntry {H : Type} : Lit × DataW H → Nat
  | (.string bytes, d) => bytes.length + uptoBulk d + 1
  | (_, d) => uptoBulk d + 1
 end
def uptoSmall : (H : Type) → List (DataW H) → Bool := fun _ ds => decide (uptoBulkAll ds ≤ 1048576)
def OpenSpec.upto (s : _root_.Go.ChangeSpec) : _root_.Go.OpenSpec := { _root_.Go.OpenSpec.ofChange s with cond := some uptoSmall }

/-- 'multikernellaw37.DriverOthers', WHERE WHAT IT READS IS OF BULK AT MOST 1048576: true; the input reads as it did. -/
def driverOthersUptoRow : OpenClaim := { program := "ythgighljhoneeaagreat", sum := "2b7a030b6a241be385b8c98c1f53d6a9d51c8dfecdd89e2b2e2f492b248cd2c1", func := "multikernel/multikernellaw37.DriverOthers", spec := "driverOthers", unfollowed := true, recurses := true, plainKeys := false, apart := false, narrowed := true }
def DriverOthersUptoSaid : Prop := driverOthersUptoRow.holds Tryz.pinned (OpenSpec.upto driverOthersSpec)

/-- 'multikernellaw37.DriverExact', WHERE WHAT IT READS IS OF BULK AT MOST 1048576: true; the input reads as it did. -/
def driverExactUptoRow : OpenClaim := { program := "ythgighljhoneeaagreat", sum := "2b7a030b6a241be385b8c98c1f53d6a9d51c8dfecdd89e2b2e2f492b248cd2c1", func := "multikernel/multikernellaw37.DriverExact", spec := "driverExact", unfollowed := true, recurses := true, plainKeys := false, apart := false, narrowed := true }
def DriverExactUptoSaid : Prop := driverExactUptoRow.holds Tryz.pinned (OpenSpec.upto driverExactSpec)

/-- 'multikernellaw37.DriverRoutes', WHERE WHAT IT READS IS OF BULK AT MOST 1048576: true; the input reads as it did. -/
def driverRoutesUptoRow : OpenClaim := { program := "ythgighljhoneeaagreat", sum := "2b7a030b6a241be385b8c98c1f53d6a9d51c8dfecdd89e2b2e2f492b248cd2c1", func := "multikernel/multikernellaw37.DriverRoutes", spec := "driverRoutes", unfollowed := true, recurses := true, plainKeys := false, apart := false, narrowed := true }
def DriverRoutesUptoSaid : Prop := driverRoutesUptoRow.holds Tryz.pinned (OpenSpec.upto driverRoutesSpec)

/-- 'multikernellaw37.DriverLost', WHERE WHAT IT READS IS OF BULK AT MOST 1048576: true; the input reads as it did. -/
def driverLostUptoRow : OpenClaim := { program := "ythgighljhoneeaagreat", sum := "2b7a030b6a241be385b8c98c1f53d6a9d51c8dfecdd89e2b2e2f492b248cd2c1", func := "multikernel/multikernellaw37.DriverLost", spec := "driverLost", unfollowed := true, recurses := true, plainKeys := false, apart := false, narrowed := true }
def DriverLostUptoSaid : Prop := driverLostUptoRow.holds Tryz.pinned (OpenSpec.upto driverLostSpec)

/-- 'multikernellaw37.DriverClone', WHERE WHAT IT READS IS OF BULK AT MOST 1048576: true; the input reads as it did. -/
def driverCloneUptoRow : OpenClaim := { program := "ythgighljhoneeaagreat", sum := "2b7a030b6a241be385b8c98c1f53d6a9d51c8dfecdd89e2b2e2f492b248cd2c1", func := "multikernel/multikernellaw37.DriverClone", spec := "driverClone", unfollowed := true, recurses := true, plainKeys := false, apart := false, narrowed := true }
def DriverCloneUptoSaid : Prop := driverCloneUptoRow.holds Tryz.pinned (OpenSpec.upto driverCloneSpec)

end Rows
end Go.Proofs.YthgighljhoneeaaGreat
