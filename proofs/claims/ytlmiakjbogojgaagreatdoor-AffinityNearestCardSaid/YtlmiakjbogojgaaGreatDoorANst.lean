/- AffinityNearest: under every input the law answers true: Nearest lists each memory once, the cheapest first, and the first one on the core's own node is among those that a query for the least latency there yields. No condition. -/
import Derived.Test.YtlmiakjbogojgaaGreatDoorM10
import Derived.Test.YtlmiakjbogojgaaGreatDoorM11
set_option linter.unusedVariables false
set_option linter.unusedSimpArgs false
open Go Mk
namespace Go.Proofs.YtlmiakjbogojgaaGreatDoor
open Go.ChangeShapes Go.WideShapes Go.ChangeAt Go.RowKit
theorem Eu:Rows.AffinityNearestSaid:=
 OpenClaim.holds_of_wide 4 Tryz.f4 rfl rfl rfl rfl rfl rfl rfl ⟨rfl,rfl,rfl,rfl,rfl⟩ rfl rfl rfl rfl rfl (by kernel_rfl) Tryz.func4 CZ
  (of_decide_eq_true (by kernel_rfl)) (by unfold Func.isWrapper;first|(rw[if_pos (by decide +kernel)];kernel_rfl)|(rw[if_neg (by decide +kernel)];exact⟨rfl,rfl⟩))
  (fun os started H enc _=>DD os started H enc)
theorem affinityNearest_proved:Rows.AffinityNearestCardSaid:=
 Claim7.holds_tied_plain_at .later [] [.data] true Rows.affinityNearestCard.stood.harness Rows.affinityNearestCard.stood.looks
  Eu (fun _ h=>by cases h) (by kernel_rfl) (fun _ h=>by cases h) affinityNearest_row_tie rfl ⟨rfl,rfl⟩ (by kernel_rfl) rfl
  (fun f fn hf hfn=>by
   obtain rfl:f=4:=Option.some.inj ((show Tryz.prog.funcNamed "multikernel/multikernellaw07.AffinityNearest" = some 4 by kernel_rfl).symm.trans hf) |>.symm
   obtain rfl:fn=Tryz.f4:=(Option.some.inj (Tryz.func4.symm.trans hfn)).symm
   exact⟨by kernel_rfl,fun j t ht=>by
    rw[Tryz.params4]at ht;have hm:t∈[37,3]:=by simpa using Array.mem_of_getElem? ht
    have hall:([37,3].all fun u=>!Tryz.prog.wantsStandIn u)=true:=by kernel_rfl
    exact(show Tryz.prog.wantsStandIn t=false by simpa using List.all_eq_true.1 hall t hm)⟩)
  (by kernel_rfl)
end Go.Proofs.YtlmiakjbogojgaaGreatDoor
