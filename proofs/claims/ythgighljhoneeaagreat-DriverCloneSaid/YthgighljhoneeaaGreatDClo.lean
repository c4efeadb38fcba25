/- DriverClone: a clone is independent of its original. No condition. -/
import Derived.Test.YthgighljhoneeaaGreatQ3
import Derived.Test.YthgighljhoneeaaGreatQ8
set_option linter.unusedVariables false
set_option linter.unusedSimpArgs false
open Go Mk
namespace Go.Proofs.YthgighljhoneeaaGreat
open Go.ChangeShapes Go.WideShapes Go.ChangeAt Go.RowKit
set_option maxRecDepth 100000 in
theorem driverClone_lifted(os:Os)(started:os.Started)(H:Type)(enc:TypeId×Value→H) :
  ReturnsInHanded {} Tryz.checked os 7 .any (Rows.driverCloneSpec.pre6 enc Tryz.prog Tryz.f7 Rows.driverCloneRow.domain false) (Rows.driverCloneSpec.post enc Tryz.prog Tryz.f7 false true false false):=by
 refine returnsInHanded_of_change (C:=Tryz.checked) own_knob started (by kernel_rfl) Tryz.func7
  (ChangeSpec.witness6 (enc:=enc) (C:=Tryz.checked) false ⟨#[],#[.slice none 0 0,.slice none 0 0,.slice none 0 0,.slice none 0 0],[]⟩ 8 (by kernel_rfl) (by kernel_rfl) (by kernel_rfl) (by kernel_rfl)) ?_
 intro W base args ds gs before hval0 hW hcnd _;have hval:∀(j:Nat) t v,Tryz.f7.params[j]? = some t→args[j]? = some v→Value.okWide Tryz.prog W .any base t v:=hval0
 have hW':=hW
 obtain⟨p,q,hA0,hV,rfl,hfz,hnd⟩:=hW;have hA:DataW.TrodAll enc Tryz.prog W 0 (fun _=>true) true Tryz.f7.params.toList args.toList ds p:=hA0
 have hB:=hA
 rw[Tryz.params7]at hA hval
 obtain⟨v0,vs0,d0,ds0,p0,q0,hargs,rfl,rfl,h0,r0⟩:=trodAll_cons hA
 obtain⟨v1,vs1,d1,ds1,p1,q1,rfl,rfl,rfl,h1,r1⟩:=trodAll_cons r0
 obtain⟨v2,vs2,d2,ds2,p2,q2,rfl,rfl,rfl,h2,r2⟩:=trodAll_cons r1
 obtain⟨v3,vs3,d3,ds3,p3,q3,rfl,rfl,rfl,h3,r3⟩:=trodAll_cons r2
 obtain⟨rfl,rfl,rfl⟩:=trodAll_nil r3
 obtain rfl:args = #[v0,v1,v2,v3]:=by cases args;simp_all
 obtain⟨rfl,rfl⟩:=trodVars_none hV
 obtain⟨a0,l0,c0,rfl⟩:=okWide_slice Tryz.underlying22 (hval 0 22 v0 rfl rfl)
 obtain⟨a1,l1,c1,rfl⟩:=okWide_slice Tryz.underlying22 (hval 1 22 v1 rfl rfl)
 obtain⟨a2,l2,c2,rfl⟩:=okWide_slice Tryz.underlying23 (hval 2 23 v2 rfl rfl)
 obtain⟨a3,l3,c3,rfl⟩:=okWide_slice Tryz.underlying23 (hval 3 23 v3 rfl rfl)
 obtain⟨n0,h0⟩:=h0;obtain⟨x0,hx0⟩:=read_ints h0
 obtain⟨n1,h1⟩:=h1;obtain⟨x1,hx1⟩:=read_ints h1
 obtain⟨n2,h2⟩:=h2;obtain⟨x2,hx2,-⟩:=read_steps h2
 obtain⟨n3,h3⟩:=h3;obtain⟨x3,hx3,-⟩:=read_steps h3
 have hlt:∀pl∈p0++(p1++(p2++(p3++[])))++[],pl.block<W.heap.size:=fun pl hp=>by simpa using hW'.lt pl hp
 clear hA0 hval0;refine(DriverClone_any hx0 hx1 hx2 hx3 (allG_wd W)).mono fun e W' ⟨Γ',hle,he,hg0⟩=>?_
 have hg:=wd_back hle hg0
 subst he;exact⟨_,rfl,post_wd (pa:=p0++(p1++(p2++(p3++[])))) (pv:=[]) hW' (fun _ _ _=>(trodAll_cons_mk (shut_bool Tryz.underlying4 _) trodAll_mk0)) (fun sp hsp=>DataW.TrodAll.respare own_kids own_full (by rw[Tryz.params7];decide) (carry_all hg hB (fun pl hp=>hlt pl (by simpa using hp))) (fun pl hp=>hsp pl (by simpa using hp))) (fun _ _=>rfl) rfl hg⟩
theorem driverClone_proved:Rows.DriverCloneSaid:=
 OpenClaim.holds_of_wide 7 Tryz.f7 rfl rfl rfl rfl rfl rfl rfl ⟨rfl,rfl,rfl,rfl,rfl⟩ rfl rfl rfl rfl rfl (by kernel_rfl) Tryz.func7 (by kernel_rfl)
  (of_decide_eq_true (by kernel_rfl)) (by unfold Func.isWrapper;first|(rw[if_pos (by decide +kernel)];kernel_rfl)|(rw[if_neg (by decide +kernel)];exact⟨rfl,rfl⟩))
  (fun os started H enc _=>driverClone_lifted os started H enc)
end Go.Proofs.YthgighljhoneeaaGreat
