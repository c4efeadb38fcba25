/-
  No cell of these rows narrows 'for every input' (looked for: loops, veiled, ifaces, maps, wideKeys, modest, calm, conditions, laid).
  DERIVED. THE GIVEN ROWS OF THIS SEAT. 4 by the template 'for every input the law returns true; each argument reads behind the call as it read before'; 0 by the template 'total and deterministic' (their statements: YtjkepmmcajbdhaaGreatTotals.lean).
  GIVEN WITH THE SEED: the statements are not yours to turn. If you find one false, say at which input.
  Laid BY PROGRAM, IN A SANDBOX (cutbox-rows.mjs): the forced cells as the released guide's own fill.sh prints them over the translation efbea10dc7301033… (all of the seat's roots in one cut). By AI agents, Wed Nov 11 2026. No macro, syntax, notation, axiom, sorry.
-/
import Derived.Test.YtjkepmmcajbdhaaGreatChecked
import GoSem.Claim
import GoSem.ClaimJoined
import GoSem.ClaimMapViews
import Derived.JoinedTies
import Derived.KernelRfl
namespace Go.Proofs.YtjkepmmcajbdhaaGreat
/- THE CELL 'sum', in the pinned program and in every row, IS THE sha256 OF THE DUMP (.gsa) THAT YtjkepmmcajbdhaaGreatProg.lean LOADS. Nothing in Lean hashes anything: it is a label: what it is worth is what the hold of that sum in a sandbox is worth. -/
noncomputable def Tryz.pinned : Pinned := { name := "ytjkepmmcajbdhaagreat", sum := "efbea10dc730103368f15616fba672fc50a2f71fe88c8d0b118c94bea9568228", checked := Tryz.checked }
namespace Rows
def none {H : Type} : Left H := { results := [], args := [] }

/-- 'multikernellaw05.QueryMonotone': WHATEVER THE INPUT: true; the input reads as it did. -/
def queryMonotoneSpec : ChangeSpec := { name := "queryMonotone", fn := fun _ => fun
  | [d1, d2, d3] => { results := [.lit (.bool true)], args := [d1, d2, d3] }
  | _ => none }
def queryMonotoneRow : OpenClaim := { program := "ytjkepmmcajbdhaagreat", sum := "efbea10dc730103368f15616fba672fc50a2f71fe88c8d0b118c94bea9568228", func := "multikernel/multikernellaw05.QueryMonotone", spec := "queryMonotone", inPlace := ["internal/bytealg.IndexByteString", "internal/bytealg.CountString", "internal/bytealg.IndexString"], unfollowed := true, recurses := true, named := ["internal/bytealg.MaxLen"], apart := false }
def QueryMonotoneSaid : Prop := queryMonotoneRow.holds Tryz.pinned (OpenSpec.ofChange queryMonotoneSpec)

/-- ITS FALSE NEIGHBOUR: 'it returns false'. Refute it at one input. -/
def queryMonotoneWrong : ChangeSpec := { name := "queryMonotone", fn := fun _ => fun
  | [d1, d2, d3] => { results := [.lit (.bool false)], args := [d1, d2, d3] }
  | _ => none }
def QueryMonotoneWrongFalsely : Prop := queryMonotoneRow.holds Tryz.pinned (OpenSpec.ofChange queryMonotoneWrong)

/-- 'multikernellaw05.QueryProjection': WHATEVER THE INPUT: true; the input reads as it did. -/
def queryProjectionSpec : ChangeSpec := { name := "queryProjection", fn := fun _ => fun
  | [d1, d2] => { results := [.lit (.bool true)], args := [d1, d2] }
  | _ => none }
def queryProjectionRow : OpenClaim := { program := "ytjkepmmcajbdhaagreat", sum := "efbea10dc730103368f15616fba672fc50a2f71fe88c8d0b118c94bea9568228", func := "multikernel/multikernellaw05.QueryProjection", spec := "queryProjection", inPlace := ["internal/bytealg.IndexByteString", "internal/bytealg.CountString", "internal/bytealg.IndexString"], unfollowed := true, recurses := true, named := ["internal/bytealg.MaxLen"], apart := false }
def QueryProjectionSaid : Prop := queryProjectionRow.holds Tryz.pinned (OpenSpec.ofChange queryProjectionSpec)

/-- ITS FALSE NEIGHBOUR: 'it returns false'. Refute it at one input. -/
def queryProjectionWrong : ChangeSpec := { name := "queryProjection", fn := fun _ => fun
  | [d1, d2] => { results := [.lit (.bool false)], args := [d1, d2] }
  | _ => none }
def QueryProjectionWrongFalsely : Prop := queryProjectionRow.holds Tryz.pinned (OpenSpec.ofChange queryProjectionWrong)

/-- 'multikernellaw05.QueryHardware': WHATEVER THE INPUT: true; the input reads as it did. -/
def queryHardwareSpec : ChangeSpec := { name := "queryHardware", fn := fun _ => fun
  | [d1, d2] => { results := [.lit (.bool true)], args := [d1, d2] }
  | _ => none }
def queryHardwareRow : OpenClaim := { program := "ytjkepmmcajbdhaagreat", sum := "efbea10dc730103368f15616fba672fc50a2f71fe88c8d0b118c94bea9568228", func := "multikernel/multikernellaw05.QueryHardware", spec := "queryHardware", inPlace := ["internal/bytealg.IndexByteString", "internal/bytealg.CountString", "internal/bytealg.IndexString"], unfollowed := true, recurses := true, named := ["internal/bytealg.MaxLen"], apart := false }
def QueryHardwareSaid : Prop := queryHardwareRow.holds Tryz.pinned (OpenSpec.ofChange queryHardwareSpec)

/-- ITS FALSE NEIGHBOUR: 'it returns false'. Refute it at one input. -/
def queryHardwareWrong : ChangeSpec := { name := "queryHardware", fn := fun _ => fun
  | [d1, d2] => { results := [.lit (.bool false)], args := [d1, d2] }
  | _ => none }
def QueryHardwareWrongFalsely : Prop := queryHardwareRow.holds Tryz.pinned (OpenSpec.ofChange queryHardwareWrong)

/-- 'multikernellaw05.QueryMinimum': WHATEVER THE INPUT: true; the input reads as it did. -/
def queryMinimumSpec : ChangeSpec := { name := "queryMinimum", fn := fun _ => fun
  | [d1, d2, d3] => { results := [.lit (.bool true)], args := [d1, d2, d3] }
  | _ => none }
def queryMinimumRow : OpenClaim := { program := "ytjkepmmcajbdhaagreat", sum := "efbea10dc730103368f15616fba672fc50a2f71fe88c8d0b118c94bea9568228", func := "multikernel/multikernellaw05.QueryMinimum", spec := "queryMinimum", inPlace := ["internal/bytealg.IndexByteString", "internal/bytealg.CountString", "internal/bytealg.IndexString"], unfollowed := true, recurses := true, named := ["internal/bytealg.MaxLen"], apart := false }
def QueryMinimumSaid : Prop := queryMinimumRow.holds Tryz.pinned (OpenSpec.ofChange queryMinimumSpec)

/-- ITS FALSE NEIGHBOUR: 'it returns false'. Refute it at one input. -/
def queryMinimumWrong : ChangeSpec := { name := "queryMinimum", fn := fun _ => fun
  | [d1, d2, d3] => { results := [.lit (.bool false)], args := [d1, d2, d3] }
  | _ => none }
def QueryMinimumWrongFalsely : Prop := queryMinimumRow.holds Tryz.pinned (OpenSpec.ofChange queryMinimumWrong)

/- THE SECOND FORM. 'bulk': how many values and letters a reading holds, each counted each time it is reached (what is shared counts as often as it is met; a slice's spare places count too). A statement '..UptoSaid' is the law's where the arguments, and the package variables that the reading takes, are together of bulk at most 1048576: NARROWER than '..Said'. Prove '..Said' where nothing that the law and all that it calls make is longer than what came in: it says more and counts as full. Else prove '..UptoSaid'. A law counts once. -/
mutual
def uptoBulk {H : Type} : DataW H → Nat
  | .lit (.string bytes) => bytes.length + 1
  | .lit _ => 1
  | .nil => 1
  | .ptr d => uptoBulk d + 1
  | .slice elems spare => uptoBulkAll elems + uptoBulkAll spare + 1
  | .agg parts => uptoBulkAll parts + 1
  | .iface _ d => uptoBulk d + 1
  | .map entries => uptoBulkEntries entries + 1
  | .held _ => 1
def uptoBulkAll {H : Type} : List (DataW H) → Nat
  | [] => 0
  | d :: r => uptoBulk d + uptoBulkAll r
def uptoBulkEntries {H : Type} : List (Lit × DataW H) → Nat
  | [] => 0
  | x :: r => uptoBulkEntry x + uptoBulkEntries r
def uptoBulkEntry {H : Type} : Lit × DataW H → Nat
  | (.string bytes, d) => bytes.length + uptoBulk d + 1
  | (_, d) => uptoBulk d + 1
 end
def uptoSmall : (H : Type) → List (DataW H) → Bool := fun _ ds => decide (uptoBulkAll ds ≤ 1048576)
def OpenSpec.upto (s : _root_.Go.ChangeSpec) : _root_.Go.OpenSpec := { _root_.Go.OpenSpec.ofChange s with cond := some uptoSmall }

/-- 'multikernellaw05.QueryMonotone', WHERE WHAT IT READS IS OF BULK AT MOST 1048576: true; the input reads as it did. -/
def queryMonotoneUptoRow : OpenClaim := { program := "ytjkepmmcajbdhaagreat", sum := "efbea10dc730103368f15616fba672fc50a2f71fe88c8d0b118c94bea9568228", func := "multikernel/multikernellaw05.QueryMonotone", spec := "queryMonotone", inPlace := ["internal/bytealg.IndexByteString", "internal/bytealg.CountString", "internal/bytealg.IndexString"], unfollowed := true, recurses := true, named := ["internal/bytealg.MaxLen"], apart := false, narrowed := true }
def QueryMonotoneUptoSaid : Prop := queryMonotoneUptoRow.holds Tryz.pinned (OpenSpec.upto queryMonotoneSpec)

/-- 'multikernellaw05.QueryProjection', WHERE WHAT IT READS IS OF BULK AT MOST 1048576: true; the input reads as it did. -/
def queryProjectionUptoRow : OpenClaim := { program := "ytjkepmmcajbdhaagreat", sum := "efbea10dc730103368f15616fba672fc50a2f71fe88c8d0b118c94bea9568228", func := "multikernel/multikernellaw05.QueryProjection", spec := "queryProjection", inPlace := ["internal/bytealg.IndexByteString", "internal/bytealg.CountString", "internal/bytealg.IndexString"], unfollowed := true, recurses := true, named := ["internal/bytealg.MaxLen"], apart := false, narrowed := true }
def QueryProjectionUptoSaid : Prop := queryProjectionUptoRow.holds Tryz.pinned (OpenSpec.upto queryProjectionSpec)

/-- 'multikernellaw05.QueryHardware', WHERE WHAT IT READS IS OF BULK AT MOST 1048576: true; the input reads as it did. -/
def queryHardwareUptoRow : OpenClaim := { program := "ytjkepmmcajbdhaagreat", sum := "efbea10dc730103368f15616fba672fc50a2f71fe88c8d0b118c94bea9568228", func := "multikernel/multikernellaw05.QueryHardware", spec := "queryHardware", inPlace := ["internal/bytealg.IndexByteString", "internal/bytealg.CountString", "internal/bytealg.IndexString"], unfollowed := true, recurses := true, named := ["internal/bytealg.MaxLen"], apart := false, narrowed := true }
def QueryHardwareUptoSaid : Prop := queryHardwareUptoRow.holds Tryz.pinned (OpenSpec.upto queryHardwareSpec)

/-- 'multikernellaw05.QueryMinimum', WHERE WHAT IT READS IS OF BULK AT MOST 1048576: true; the input reads as it did. -/
def queryMinimumUptoRow : OpenClaim := { program := "ytjkepmmcajbdhaagreat", sum := "efbea10dc730103368f15616fba672fc50a2f71fe88c8d0b118c94bea9568228", func := "multikernel/multikernellaw05.QueryMinimum", spec := "queryMinimum", inPlace := ["internal/bytealg.IndexByteString", "internal/bytealg.CountString", "internal/bytealg.IndexString"], unfollowed := true, recurses := true, named := ["internal/bytealg.MaxLen"], apart := false, narrowed := true }
def QueryMinimumUptoSaid : Prop := queryMinimumUptoRow.holds Tryz.pinned (OpenSpec.upto queryMinimumSpec)

end Rows
end Go.Proofs.YtjkepmmcajbdhaaGreat
