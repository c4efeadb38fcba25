/- RouteQuery: under every list of resources and every two numbers, the query over the distance facts between two cores yields exactly one value, the distance of their nodes. No condition. -/
import Derived.Test.YtlimglpjpcfpdaaGreatM3
import Derived.Test.YtlimglpjpcfpdaaGreatM9
set_option linter.unusedVariables false
set_option linter.unusedSimpArgs false
open Go Mk
namespace Go.Proofs.YtlimglpjpcfpdaaGreat
open Go.ChangeShapes Go.WideShapes Go.ChangeAt Go.RowKit
set_option maxRecDepth 100000 in
theorem HD(os:Os)(started:os.Started)(H:Type)(enc:TypeId×Value→H) :
  ReturnsInHanded {} Tryz.checked os 4 .any (Rows.routeQuerySpec.pre6 enc Tryz.prog Tryz.f4 Rows.routeQueryRow.domain false) (Rows.routeQuerySpec.post enc Tryz.prog Tryz.f4 false true false false):=by
 refine returnsInHanded_of_change (C:=Tryz.checked) Xl started (by kernel_rfl) Tryz.func4
  (ChangeSpec.witness6 (enc:=enc) (C:=Tryz.checked) false ⟨#[],#[.slice none 0 0,.int .i64 0,.int .i64 0],[]⟩ 8 (by kernel_rfl) (by kernel_rfl) (by kernel_rfl) (by kernel_rfl)) ?_
 intro W base args ds gs before hval0 hW hcnd _;have hval:∀(j:Nat) t v,Tryz.f4.params[j]? = some t→args[j]? = some v→Value.okWide Tryz.prog W .any base t v:=hval0
 have hW':=hW
 obtain⟨p,q,hA0,hV,rfl,hfz,hnd⟩:=hW;have hA:DataW.TrodAll enc Tryz.prog W 0 (fun _=>true) true Tryz.f4.params.toList args.toList ds p:=hA0
 have hB:=hA
 rw[Tryz.params4]at hA hval
 obtain⟨v0,vs0,d0,ds0,p0,q0,hargs,rfl,rfl,h0,r0⟩:=trodAll_cons hA
 obtain⟨v1,vs1,d1,ds1,p1,q1,rfl,rfl,rfl,h1,r1⟩:=trodAll_cons r0
 obtain⟨v2,vs2,d2,ds2,p2,q2,rfl,rfl,rfl,h2,r2⟩:=trodAll_cons r1
 obtain⟨rfl,rfl,rfl⟩:=trodAll_nil r2
 obtain rfl:args = #[v0,v1,v2]:=by cases args;simp_all
 obtain⟨rfl,rfl⟩:=trodVars_none hV
 obtain⟨a0,l0,c0,rfl⟩:=okWide_slice Tryz.underlying62 (hval 0 62 v0 rfl rfl)
 obtain⟨a1,rfl,rfl,rfl,w1⟩:=open_int Tryz.underlying3 (hval 1 3 v1 rfl rfl) h1
 obtain⟨a2,rfl,rfl,rfl,w2⟩:=open_int Tryz.underlying3 (hval 2 3 v2 rfl rfl) h2
 obtain⟨n0,h0⟩:=h0;obtain⟨x0,hx0⟩:=Uh h0
 have hlt:∀pl∈p0++([]++([]++[]))++[],pl.block<W.heap.size:=fun pl hp=>by simpa using hW'.lt pl hp
 clear hA0 hval0;refine(JW a1 a2 hx0 (HE W)).mono fun e W' ⟨Γ',hle,he,hg0⟩=>?_
 have hg:=aF hle hg0
 subst he;exact⟨_,rfl,ax (pa:=p0++([]++([]++[]))) (pv:=[]) hW' (fun _ _ _=>(trodAll_cons_mk (shut_bool Tryz.underlying4 _) trodAll_mk0)) (fun sp hsp=>DataW.TrodAll.respare ZJ XQ (by rw[Tryz.params4];decide) (Lu hg hB (fun pl hp=>hlt pl (by simpa using hp))) (fun pl hp=>hsp pl (by simpa using hp))) (fun _ _=>rfl) rfl hg⟩
theorem routeQuery_proved:Rows.RouteQuerySaid:=
 OpenClaim.holds_of_wide 4 Tryz.f4 rfl rfl rfl rfl rfl rfl rfl ⟨rfl,rfl,rfl,rfl,rfl⟩ rfl rfl rfl rfl rfl (by kernel_rfl) Tryz.func4 (by kernel_rfl)
  (of_decide_eq_true (by kernel_rfl)) (by unfold Func.isWrapper;first|(rw[if_pos (by decide +kernel)];kernel_rfl)|(rw[if_neg (by decide +kernel)];exact⟨rfl,rfl⟩))
  (fun os started H enc _=>HD os started H enc)
end Go.Proofs.YtlimglpjpcfpdaaGreat
