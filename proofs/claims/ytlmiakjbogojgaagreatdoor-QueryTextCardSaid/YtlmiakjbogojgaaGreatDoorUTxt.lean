/- QueryText: under every input the law answers true: Parse and Format equal the reference, for arbitrary texts and queries. No condition. -/
import Derived.Test.YtlmiakjbogojgaaGreatDoorM8
import Derived.Test.YtlmiakjbogojgaaGreatDoorM9
set_option linter.unusedVariables false
set_option linter.unusedSimpArgs false
open Go Mk
namespace Go.Proofs.YtlmiakjbogojgaaGreatDoor
open Go.ChangeShapes Go.WideShapes Go.ChangeAt Go.RowKit
theorem Gl:Rows.QueryTextSaid:=
 OpenClaim.holds_of_wide 3 Tryz.f3 rfl rfl rfl rfl rfl rfl rfl ⟨rfl,rfl,rfl,rfl,rfl⟩ rfl rfl rfl rfl rfl (by kernel_rfl) Tryz.func3 Dk
  (of_decide_eq_true (by kernel_rfl)) (by unfold Func.isWrapper;first|(rw[if_pos (by decide +kernel)];kernel_rfl)|(rw[if_neg (by decide +kernel)];exact⟨rfl,rfl⟩))
  (fun os started H enc _=>ED os started H enc)
theorem queryText_proved:Rows.QueryTextCardSaid:=
 Claim7.holds_tied_plain_at .later [] [.data,.data,.data] true Rows.queryTextCard.stood.harness Rows.queryTextCard.stood.looks
  Gl (fun _ h=>by cases h) (by kernel_rfl) (fun _ h=>by cases h) queryText_row_tie rfl ⟨rfl,rfl⟩ (by kernel_rfl) rfl
  (fun f fn hf hfn=>by
   obtain rfl:f=3:=Option.some.inj ((show Tryz.prog.funcNamed "multikernel/multikernellaw05.QueryText" = some 3 by kernel_rfl).symm.trans hf) |>.symm
   obtain rfl:fn=Tryz.f3:=(Option.some.inj (Tryz.func3.symm.trans hfn)).symm
   exact⟨by kernel_rfl,fun j t ht=>by
    rw[Tryz.params3]at ht;have hm:t∈[9,25]:=by simpa using Array.mem_of_getElem? ht
    have hall:([9,25].all fun u=>!Tryz.prog.wantsStandIn u)=true:=by kernel_rfl
    exact(show Tryz.prog.wantsStandIn t=false by simpa using List.all_eq_true.1 hall t hm)⟩)
  (by kernel_rfl)
end Go.Proofs.YtlmiakjbogojgaaGreatDoor
