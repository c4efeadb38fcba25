/- QueryRoundTrip: under every input the law answers true: parsing the text of a valid query yields it, and a query that is parsed and valid has a text that is parsed as the same query. No condition. -/
import Derived.Test.YtlimglpjpcfpdaaGreatDoorM7
import Derived.Test.YtlimglpjpcfpdaaGreatDoorM8
set_option linter.unusedVariables false
set_option linter.unusedSimpArgs false
open Go Mk
namespace Go.Proofs.YtlimglpjpcfpdaaGreatDoor
open Go.ChangeShapes Go.WideShapes Go.ChangeAt Go.RowKit
theorem Au:Rows.QueryRoundTripSaid:=
 OpenClaim.holds_of_wide 4 Tryz.f4 rfl rfl rfl rfl rfl rfl rfl ⟨rfl,rfl,rfl,rfl,rfl⟩ rfl rfl rfl rfl rfl (by kernel_rfl) Tryz.func4 u3
  (of_decide_eq_true (by kernel_rfl)) (by unfold Func.isWrapper;first|(rw[if_pos (by decide +kernel)];kernel_rfl)|(rw[if_neg (by decide +kernel)];exact⟨rfl,rfl⟩))
  (fun os started H enc _=>u6 os started H enc)
theorem queryRoundTrip_proved:Rows.QueryRoundTripCardSaid:=
 Claim7.holds_tied_plain_at .later [] [.data,.data,.data] true Rows.queryRoundTripCard.stood.harness Rows.queryRoundTripCard.stood.looks
  Au (fun _ h=>by cases h) (by kernel_rfl) (fun _ h=>by cases h) queryRoundTrip_row_tie rfl ⟨rfl,rfl⟩ (by kernel_rfl) rfl
  (fun f fn hf hfn=>by
   obtain rfl:f=4:=Option.some.inj ((show Tryz.prog.funcNamed "multikernel/multikernellaw05.QueryRoundTrip" = some 4 by kernel_rfl).symm.trans hf) |>.symm
   obtain rfl:fn=Tryz.f4:=(Option.some.inj (Tryz.func4.symm.trans hfn)).symm
   exact⟨by kernel_rfl,fun j t ht=>by
    rw[Tryz.params4]at ht;have hm:t∈[25,9]:=by simpa using Array.mem_of_getElem? ht
    have hall:([25,9].all fun u=>!Tryz.prog.wantsStandIn u)=true:=by kernel_rfl
    exact(show Tryz.prog.wantsStandIn t=false by simpa using List.all_eq_true.1 hall t hm)⟩)
  (by kernel_rfl)
end Go.Proofs.YtlimglpjpcfpdaaGreatDoor
