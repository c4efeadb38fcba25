/-
  No cell of these rows narrows 'for every input' (looked for: loops, veiled, ifaces, maps, wideKeys, modest, calm, conditions, laid).
  DERIVED. THE GIVEN ROWS OF THIS SEAT. 5 by the template 'for every input the law returns true; each argument reads behind the call as it read before'; 0 by the template 'total and deterministic' (their statements: YteiijmclobggjaaGreatTotals.lean).
  GIVEN WITH THE SEED: the statements are not yours to turn. If you find one false, say at which input.
  Laid BY PROGRAM, IN A SANDBOX (cutbox-rows.mjs): the forced cells as the released guide's own fill.sh prints them over the translation 101d5cfc0e1ecb40… (all of the seat's roots in one cut). By AI agents, Wed Nov 11 2026. No macro, syntax, notation, axiom, sorry.
-/
import Derived.Test.YteiijmclobggjaaGreatChecked
import GoSem.Claim
import GoSem.ClaimJoined
import GoSem.ClaimMapViews
import Derived.JoinedTies
import Derived.KernelRfl
namespace Go.Proofs.YteiijmclobggjaaGreat
/- THE CELL 'sum', in the pinned program and in every row, IS THE sha256 OF THE DUMP (.gsa) THAT YteiijmclobggjaaGreatProg.lean LOADS. Nothing in Lean hashes anything: it is a label: what it is worth is what the hold of that sum in a sandbox is worth. -/
noncomputable def Tryz.pinned : Pinned := { name := "yteiijmclobggjaagreat", sum := "101d5cfc0e1ecb403ee5ab24b82e4eef838b9b244c4c5897673d57fd647862d4", checked := Tryz.checked }
namespace Rows
def none {H : Type} : Left H := { results := [], args := [] }

/-- 'multikernellaw06.RouteTrees': WHATEVER THE INPUT: true; the input reads as it did. -/
def routeTreesSpec : ChangeSpec := { name := "routeTrees", fn := fun _ => fun
  | [d1, d2, d3, d4, d5] => { results := [.lit (.bool true)], args := [d1, d2, d3, d4, d5] }
  | _ => none }
def routeTreesRow : OpenClaim := { program := "yteiijmclobggjaagreat", sum := "101d5cfc0e1ecb403ee5ab24b82e4eef838b9b244c4c5897673d57fd647862d4", func := "multikernel/multikernellaw06.RouteTrees", spec := "routeTrees", unfollowed := true, recurses := true, plainKeys := false, apart := false }
def RouteTreesSaid : Prop := routeTreesRow.holds Tryz.pinned (OpenSpec.ofChange routeTreesSpec)

/-- ITS FALSE NEIGHBOUR: 'it returns false'. Refute it at one input. -/
def routeTreesWrong : ChangeSpec := { name := "routeTrees", fn := fun _ => fun
  | [d1, d2, d3, d4, d5] => { results := [.lit (.bool false)], args := [d1, d2, d3, d4, d5] }
  | _ => none }
def RouteTreesWrongFalsely : Prop := routeTreesRow.holds Tryz.pinned (OpenSpec.ofChange routeTreesWrong)

/-- 'multikernellaw06.RoutePlans': WHATEVER THE INPUT: true; the input reads as it did. -/
def routePlansSpec : ChangeSpec := { name := "routePlans", fn := fun _ => fun
  | [d1, d2, d3, d4] => { results := [.lit (.bool true)], args := [d1, d2, d3, d4] }
  | _ => none }
def routePlansRow : OpenClaim := { program := "yteiijmclobggjaagreat", sum := "101d5cfc0e1ecb403ee5ab24b82e4eef838b9b244c4c5897673d57fd647862d4", func := "multikernel/multikernellaw06.RoutePlans", spec := "routePlans", unfollowed := true, recurses := true, plainKeys := false, apart := false }
def RoutePlansSaid : Prop := routePlansRow.holds Tryz.pinned (OpenSpec.ofChange routePlansSpec)

/-- ITS FALSE NEIGHBOUR: 'it returns false'. Refute it at one input. -/
def routePlansWrong : ChangeSpec := { name := "routePlans", fn := fun _ => fun
  | [d1, d2, d3, d4] => { results := [.lit (.bool false)], args := [d1, d2, d3, d4] }
  | _ => none }
def RoutePlansWrongFalsely : Prop := routePlansRow.holds Tryz.pinned (OpenSpec.ofChange routePlansWrong)

/-- 'multikernellaw06.RouteLinks': WHATEVER THE INPUT: true; the input reads as it did. -/
def routeLinksSpec : ChangeSpec := { name := "routeLinks", fn := fun _ => fun
  | [d1, d2, d3, d4, d5, d6] => { results := [.lit (.bool true)], args := [d1, d2, d3, d4, d5, d6] }
  | _ => none }
def routeLinksRow : OpenClaim := { program := "yteiijmclobggjaagreat", sum := "101d5cfc0e1ecb403ee5ab24b82e4eef838b9b244c4c5897673d57fd647862d4", func := "multikernel/multikernellaw06.RouteLinks", spec := "routeLinks", unfollowed := true, recurses := true, plainKeys := false, apart := false }
def RouteLinksSaid : Prop := routeLinksRow.holds Tryz.pinned (OpenSpec.ofChange routeLinksSpec)

/-- ITS FALSE NEIGHBOUR: 'it returns false'. Refute it at one input. -/
def routeLinksWrong : ChangeSpec := { name := "routeLinks", fn := fun _ => fun
  | [d1, d2, d3, d4, d5, d6] => { results := [.lit (.bool false)], args := [d1, d2, d3, d4, d5, d6] }
  | _ => none }
def RouteLinksWrongFalsely : Prop := routeLinksRow.holds Tryz.pinned (OpenSpec.ofChange routeLinksWrong)

/-- 'multikernellaw06.RouteSpans': WHATEVER THE INPUT: true; the input reads as it did. -/
def routeSpansSpec : ChangeSpec := { name := "routeSpans", fn := fun _ => fun
  | [d1, d2, d3, d4] => { results := [.lit (.bool true)], args := [d1, d2, d3, d4] }
  | _ => none }
def routeSpansRow : OpenClaim := { program := "yteiijmclobggjaagreat", sum := "101d5cfc0e1ecb403ee5ab24b82e4eef838b9b244c4c5897673d57fd647862d4", func := "multikernel/multikernellaw06.RouteSpans", spec := "routeSpans", unfollowed := true, recurses := true, plainKeys := false, apart := false }
def RouteSpansSaid : Prop := routeSpansRow.holds Tryz.pinned (OpenSpec.ofChange routeSpansSpec)

/-- ITS FALSE NEIGHBOUR: 'it returns false'. Refute it at one input. -/
def routeSpansWrong : ChangeSpec := { name := "routeSpans", fn := fun _ => fun
  | [d1, d2, d3, d4] => { results := [.lit (.bool false)], args := [d1, d2, d3, d4] }
  | _ => none }
def RouteSpansWrongFalsely : Prop := routeSpansRow.holds Tryz.pinned (OpenSpec.ofChange routeSpansWrong)

/-- 'multikernellaw06.RouteTimes': WHATEVER THE INPUT: true; the input reads as it did. -/
def routeTimesSpec : ChangeSpec := { name := "routeTimes", fn := fun _ => fun
  | [d1, d2, d3, d4] => { results := [.lit (.bool true)], args := [d1, d2, d3, d4] }
  | _ => none }
def routeTimesRow : OpenClaim := { program := "yteiijmclobggjaagreat", sum := "101d5cfc0e1ecb403ee5ab24b82e4eef838b9b244c4c5897673d57fd647862d4", func := "multikernel/multikernellaw06.RouteTimes", spec := "routeTimes", unfollowed := true, recurses := true, plainKeys := false, apart := false }
def RouteTimesSaid : Prop := routeTimesRow.holds Tryz.pinned (OpenSpec.ofChange routeTimesSpec)

/-- ITS FALSE NEIGHBOUR: 'it returns false'. Refute it at one input. -/
def routeTimesWrong : ChangeSpec := { name := "routeTimes", fn := fun _ => fun
  | [d1, d2, d3, d4] => { results := [.lit (.bool false)], args := [d1, d2, d3, d4] }
  | _ => none }
def RouteTimesWrongFalsely : Prop := routeTimesRow.holds Tryz.pinned (OpenSpec.ofChange routeTimesWrong)

/- THE SECOND FORM. 'bulk': how many values and letters a reading holds, each counted each time it is reached (what is shared counts as often as it is met; a slice's spare places count too). A statement '..UptoSaid' is the law's where the arguments, and the package variables that the reading takes, are together of bulk at most 1048576: NARROWER than '..Said'. Prove '..Said' where nothing that the law and all that it calls make is longer than what came in: it says more and counts as full. Else prove '..UptoSaid'. A law counts once. -/
mutual
def uptoBulk {H : Type} : DataW H → Nat
  | .lit (.string bytes) => bytes.length + 1
  | .lit _ => 1
  | .nil => 1
  | .ptr d => uptoBulk d + 1
  | .slice elems spare => uptoBulkAll elems + uptoBulkAll spare + 1
  | .agg parts => uptoBulkAll parts + 1
  | .iface _ d => uptoBulk d + 1
  | .map entries => uptoBulkEntries entries + 1
  | .held _ => 1
def uptoBulkAll {H : Type} : List (DataW H) → Nat
  | [] => 0
  | d :: r => uptoBulk d + uptoBulkAll r
def uptoBulkEntries {H : Type} : List (Lit × DataW H) → Nat
  | [] => 0
  | x :: r => uptoBulkEntry x + uptoBulkEntries r
def uptoBulkEntry {H : Type} : Lit × DataW H → Nat
  | (.string bytes, d) => bytes.length + uptoBulk d + 1
  | (_, d) => uptoBulk d + 1
 end
def uptoSmall : (H : Type) → List (DataW H) → Bool := fun _ ds => decide (uptoBulkAll ds ≤ 1048576)
def OpenSpec.upto (s : _root_.Go.ChangeSpec) : _root_.Go.OpenSpec := { _root_.Go.OpenSpec.ofChange s with cond := some uptoSmall }

/-- 'multikernellaw06.RouteTrees', WHERE WHAT IT READS IS OF BULK AT MOST 1048576: true; the input reads as it did. -/
def routeTreesUptoRow : OpenClaim := { program := "yteiijmclobggjaagreat", sum := "101d5cfc0e1ecb403ee5ab24b82e4eef838b9b244c4c5897673d57fd647862d4", func := "multikernel/multikernellaw06.RouteTrees", spec := "routeTrees", unfollowed := true, recurses := true, plainKeys := false, apart := false, narrowed := true }
def RouteTreesUptoSaid : Prop := routeTreesUptoRow.holds Tryz.pinned (OpenSpec.upto routeTreesSpec)

/-- 'multikernellaw06.RoutePlans', WHERE WHAT IT READS IS OF BULK AT MOST 1048576: true; the input reads as it did. -/
def routePlansUptoRow : OpenClaim := { program := "yteiijmclobggjaagreat", sum := "101d5cfc0e1ecb403ee5ab24b82e4eef838b9b244c4c5897673d57fd647862d4", func := "multikernel/multikernellaw06.RoutePlans", spec := "routePlans", unfollowed := true, recurses := true, plainKeys := false, apart := false, narrowed := true }
def RoutePlansUptoSaid : Prop := routePlansUptoRow.holds Tryz.pinned (OpenSpec.upto routePlansSpec)

/-- 'multikernellaw06.RouteLinks', WHERE WHAT IT READS IS OF BULK AT MOST 1048576: true; the input reads as it did. -/
def routeLinksUptoRow : OpenClaim := { program := "yteiijmclobggjaagreat", sum := "101d5cfc0e1ecb403ee5ab24b82e4eef838b9b244c4c5897673d57fd647862d4", func := "multikernel/multikernellaw06.RouteLinks", spec := "routeLinks", unfollowed := true, recurses := true, plainKeys := false, apart := false, narrowed := true }
def RouteLinksUptoSaid : Prop := routeLinksUptoRow.holds Tryz.pinned (OpenSpec.upto routeLinksSpec)

/-- 'multikernellaw06.RouteSpans', WHERE WHAT IT READS IS OF BULK AT MOST 1048576: true; the input reads as it did. -/
def routeSpansUptoRow : OpenClaim := { program := "yteiijmclobggjaagreat", sum := "101d5cfc0e1ecb403ee5ab24b82e4eef838b9b244c4c5897673d57fd647862d4", func := "multikernel/multikernellaw06.RouteSpans", spec := "routeSpans", unfollowed := true, recurses := true, plainKeys := false, apart := false, narrowed := true }
def RouteSpansUptoSaid : Prop := routeSpansUptoRow.holds Tryz.pinned (OpenSpec.upto routeSpansSpec)

/-- 'multikernellaw06.RouteTimes', WHERE WHAT IT READS IS OF BULK AT MOST 1048576: true; the input reads as it did. -/
def routeTimesUptoRow : OpenClaim := { program := "yteiijmclobggjaagreat", sum := "101d5cfc0e1ecb403ee5ab24b82e4eef838b9b244c4c5897673d57fd647862d4", func := "multikernel/multikernellaw06.RouteTimes", spec := "routeTimes", unfollowed := true, recurses := true, plainKeys := false, apart := false, narrowed := true }
def RouteTimesUptoSaid : Prop := routeTimesUptoRow.holds Tryz.pinned (OpenSpec.upto routeTimesSpec)

end Rows
end Go.Proofs.YteiijmclobggjaaGreat
