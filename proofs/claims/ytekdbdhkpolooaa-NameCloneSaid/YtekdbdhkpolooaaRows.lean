/-
  No cell of these rows narrows 'for every input' (looked for: loops, veiled, ifaces, maps, wideKeys, modest, calm, conditions, laid).
  DERIVED. THE GIVEN ROWS OF THIS SEAT. 4 by the template 'for every input the law returns true; each argument reads behind the call as it read before'; 0 by the template 'total and deterministic' (their statements: YtekdbdhkpolooaaTotals.lean).
  GIVEN WITH THE SEED: the statements are not yours to turn. If you find one false, say at which input.
  Laid BY PROGRAM, IN A SANDBOX (cutbox-rows.mjs): the forced cells as the released guide's own fill.sh prints them over the translation bb6bd759ea8e71cd… (all of the seat's roots in one cut). By AI agents, Wed Nov 11 2026. No macro, syntax, notation, axiom, sorry.
-/
import Derived.Test.YtekdbdhkpolooaaChecked
import GoSem.Claim
import GoSem.ClaimJoined
import GoSem.ClaimMapViews
import Derived.JoinedTies
import Derived.KernelRfl
namespace Go.Proofs.Ytekdbdhkpolooaa
/- THE CELL 'sum', in the pinned program and in every row, IS THE sha256 OF THE DUMP (.gsa) THAT YtekdbdhkpolooaaProg.lean LOADS. Nothing in Lean hashes anything: it is a label: what it is worth is what the hold of that sum in a sandbox is worth. -/
noncomputable def Try.pinned : Pinned := { name := "ytekdbdhkpolooaa", sum := "bb6bd759ea8e71cd377e816d10dbc70cfa0c9566c4ffabd6759466c3a236acf9", checked := Try.checked }
namespace Rows
def none {H : Type} : Left H := { results := [], args := [] }

/-- 'multikernellaw34.NameFull': WHATEVER THE INPUT: true; the input reads as it did. -/
def nameFullSpec : ChangeSpec := { name := "nameFull", fn := fun _ => fun
  | [d] => { results := [.lit (.bool true)], args := [d] }
  | _ => none }
def nameFullRow : OpenClaim := { program := "ytekdbdhkpolooaa", sum := "bb6bd759ea8e71cd377e816d10dbc70cfa0c9566c4ffabd6759466c3a236acf9", func := "multikernel/multikernellaw34.NameFull", spec := "nameFull", unfollowed := true, recurses := true, apart := false }
def NameFullSaid : Prop := nameFullRow.holds Try.pinned (OpenSpec.ofChange nameFullSpec)

/-- ITS FALSE NEIGHBOUR: 'it returns false'. Refute it at one input. -/
def nameFullWrong : ChangeSpec := { name := "nameFull", fn := fun _ => fun
  | [d] => { results := [.lit (.bool false)], args := [d] }
  | _ => none }
def NameFullWrongFalsely : Prop := nameFullRow.holds Try.pinned (OpenSpec.ofChange nameFullWrong)

/-- 'multikernellaw34.NameOnce': WHATEVER THE INPUT: true; the input reads as it did. -/
def nameOnceSpec : ChangeSpec := { name := "nameOnce", fn := fun _ => fun
  | [d] => { results := [.lit (.bool true)], args := [d] }
  | _ => none }
def nameOnceRow : OpenClaim := { program := "ytekdbdhkpolooaa", sum := "bb6bd759ea8e71cd377e816d10dbc70cfa0c9566c4ffabd6759466c3a236acf9", func := "multikernel/multikernellaw34.NameOnce", spec := "nameOnce", unfollowed := true, recurses := true, apart := false }
def NameOnceSaid : Prop := nameOnceRow.holds Try.pinned (OpenSpec.ofChange nameOnceSpec)

/-- ITS FALSE NEIGHBOUR: 'it returns false'. Refute it at one input. -/
def nameOnceWrong : ChangeSpec := { name := "nameOnce", fn := fun _ => fun
  | [d] => { results := [.lit (.bool false)], args := [d] }
  | _ => none }
def NameOnceWrongFalsely : Prop := nameOnceRow.holds Try.pinned (OpenSpec.ofChange nameOnceWrong)

/-- 'multikernellaw34.NameDepart': WHATEVER THE INPUT: true; the input reads as it did. -/
def nameDepartSpec : ChangeSpec := { name := "nameDepart", fn := fun _ => fun
  | [d1, d2] => { results := [.lit (.bool true)], args := [d1, d2] }
  | _ => none }
def nameDepartRow : OpenClaim := { program := "ytekdbdhkpolooaa", sum := "bb6bd759ea8e71cd377e816d10dbc70cfa0c9566c4ffabd6759466c3a236acf9", func := "multikernel/multikernellaw34.NameDepart", spec := "nameDepart", unfollowed := true, recurses := true, apart := false }
def NameDepartSaid : Prop := nameDepartRow.holds Try.pinned (OpenSpec.ofChange nameDepartSpec)

/-- ITS FALSE NEIGHBOUR: 'it returns false'. Refute it at one input. -/
def nameDepartWrong : ChangeSpec := { name := "nameDepart", fn := fun _ => fun
  | [d1, d2] => { results := [.lit (.bool false)], args := [d1, d2] }
  | _ => none }
def NameDepartWrongFalsely : Prop := nameDepartRow.holds Try.pinned (OpenSpec.ofChange nameDepartWrong)

/-- 'multikernellaw34.NameClone': WHATEVER THE INPUT: true; the input reads as it did. -/
def nameCloneSpec : ChangeSpec := { name := "nameClone", fn := fun _ => fun
  | [d1, d2] => { results := [.lit (.bool true)], args := [d1, d2] }
  | _ => none }
def nameCloneRow : OpenClaim := { program := "ytekdbdhkpolooaa", sum := "bb6bd759ea8e71cd377e816d10dbc70cfa0c9566c4ffabd6759466c3a236acf9", func := "multikernel/multikernellaw34.NameClone", spec := "nameClone", inPlace := ["maps.clone"], unfollowed := true, recurses := true, apart := false }
def NameCloneSaid : Prop := nameCloneRow.holds Try.pinned (OpenSpec.ofChange nameCloneSpec)

/-- ITS FALSE NEIGHBOUR: 'it returns false'. Refute it at one input. -/
def nameCloneWrong : ChangeSpec := { name := "nameClone", fn := fun _ => fun
  | [d1, d2] => { results := [.lit (.bool false)], args := [d1, d2] }
  | _ => none }
def NameCloneWrongFalsely : Prop := nameCloneRow.holds Try.pinned (OpenSpec.ofChange nameCloneWrong)

/- THE SECOND FORM. 'bulk': how many values and letters a reading holds, each counted each time it is reached (what is shared counts as often as it is met; a slice's spare places count too). A statement '..UptoSaid' is the law's where the arguments, and the package variables that the reading takes, are together of bulk at most 1048576: NARROWER than '..Said'. Prove '..Said' where nothing that the law and all that it calls make is longer than what came in: it says more and counts as full. Else prove '..UptoSaid'. A law counts once. -/
mutual
def uptoBulk {H : Type} : DataW H → Nat
  | .lit (.string bytes) => bytes.length + 1
  | .lit _ => 1
  | .nil => 1
  | .ptr d => uptoBulk d + 1
  | .slice elems spare => uptoBulkAll elems + uptoBulkAll spare + 1
  | .agg parts => uptoBulkAll parts + 1
  | .iface _ d => uptoBulk d + 1
  | .map entries => uptoBulkEntries entries + 1
  | .held _ => 1
def uptoBulkAll {H : Type} : List (DataW H) → Nat
  | [] => 0
  | d :: r => uptoBulk d + uptoBulkAll r
def uptoBulkEntries {H : Type} : List (Lit × DataW H) → Nat
  | [] => 0
  | x :: r => uptoBulkEntry x + uptoBulkEntries r
def uptoBulkEntry {H : Type} : Lit × DataW H → Nat
  | (.string bytes, d) => bytes.length + uptoBulk d + 1
  | (_, d) => uptoBulk d + 1
 end
def uptoSmall : (H : Type) → List (DataW H) → Bool := fun _ ds => decide (uptoBulkAll ds ≤ 1048576)
def OpenSpec.upto (s : _root_.Go.ChangeSpec) : _root_.Go.OpenSpec := { _root_.Go.OpenSpec.ofChange s with cond := some uptoSmall }

/-- 'multikernellaw34.NameFull', WHERE WHAT IT READS IS OF BULK AT MOST 1048576: true; the input reads as it did. -/
def nameFullUptoRow : OpenClaim := { program := "ytekdbdhkpolooaa", sum := "bb6bd759ea8e71cd377e816d10dbc70cfa0c9566c4ffabd6759466c3a236acf9", func := "multikernel/multikernellaw34.NameFull", spec := "nameFull", unfollowed := true, recurses := true, apart := false, narrowed := true }
def NameFullUptoSaid : Prop := nameFullUptoRow.holds Try.pinned (OpenSpec.upto nameFullSpec)

/-- 'multikernellaw34.NameOnce', WHERE WHAT IT READS IS OF BULK AT MOST 1048576: true; the input reads as it did. -/
def nameOnceUptoRow : OpenClaim := { program := "ytekdbdhkpolooaa", sum := "bb6bd759ea8e71cd377e816d10dbc70cfa0c9566c4ffabd6759466c3a236acf9", func := "multikernel/multikernellaw34.NameOnce", spec := "nameOnce", unfollowed := true, recurses := true, apart := false, narrowed := true }
def NameOnceUptoSaid : Prop := nameOnceUptoRow.holds Try.pinned (OpenSpec.upto nameOnceSpec)

/-- 'multikernellaw34.NameDepart', WHERE WHAT IT READS IS OF BULK AT MOST 1048576: true; the input reads as it did. -/
def nameDepartUptoRow : OpenClaim := { program := "ytekdbdhkpolooaa", sum := "bb6bd759ea8e71cd377e816d10dbc70cfa0c9566c4ffabd6759466c3a236acf9", func := "multikernel/multikernellaw34.NameDepart", spec := "nameDepart", unfollowed := true, recurses := true, apart := false, narrowed := true }
def NameDepartUptoSaid : Prop := nameDepartUptoRow.holds Try.pinned (OpenSpec.upto nameDepartSpec)

/-- 'multikernellaw34.NameClone', WHERE WHAT IT READS IS OF BULK AT MOST 1048576: true; the input reads as it did. -/
def nameCloneUptoRow : OpenClaim := { program := "ytekdbdhkpolooaa", sum := "bb6bd759ea8e71cd377e816d10dbc70cfa0c9566c4ffabd6759466c3a236acf9", func := "multikernel/multikernellaw34.NameClone", spec := "nameClone", inPlace := ["maps.clone"], unfollowed := true, recurses := true, apart := false, narrowed := true }
def NameCloneUptoSaid : Prop := nameCloneUptoRow.holds Try.pinned (OpenSpec.upto nameCloneSpec)

end Rows
end Go.Proofs.Ytekdbdhkpolooaa
