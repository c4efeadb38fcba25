/- NameFind: under every script, core and query, the queries over the facts find exactly the services. No condition. -/
import Derived.Test.YtlimglpjpcfpdaaGreatM7
set_option linter.unusedVariables false
set_option linter.unusedSimpArgs false
open Go Mk
namespace Go.Proofs.YtlimglpjpcfpdaaGreat
open Go.ChangeShapes Go.WideShapes Go.ChangeAt Go.RowKit
theorem Wd.down{Γ Γ':B8}{w:World}(hl:Γ.le Γ')(h:Wd Γ' [] w):Wd Γ [] w:=
 ⟨h.os.trans hl.os,h.tape.trans hl.tape,h.out.trans hl.out,by rw[←hl.dr];exact h.dr,fun b o hb=>h.imm b o (hl.imm b o hb),[],trivial,by simp,by simp⟩
set_option maxRecDepth 100000 in
theorem Dy(os:Os)(started:os.Started)(H:Type)(enc:TypeId×Value→H) :
  ReturnsInHanded {} Tryz.checked os 3 .any (Rows.nameFindSpec.pre6 enc Tryz.prog Tryz.f3 Rows.nameFindRow.domain false) (Rows.nameFindSpec.post enc Tryz.prog Tryz.f3 false true false false):=by
 refine returnsInHanded_of_change (C:=Tryz.checked) Od started (by kernel_rfl) Tryz.func3
  (ChangeSpec.witness6 (enc:=enc) (C:=Tryz.checked) false ⟨#[],#[.slice none 0 0,.int .i64 0,.agg #[.slice none 0 0,.slice none 0 0]],[]⟩ 8 (by kernel_rfl) (by kernel_rfl) (by kernel_rfl) (by kernel_rfl)) ?_
 intro W base args ds gs before hval0 hW hcnd _;have hval:∀(j:Nat) t v,Tryz.f3.params[j]? = some t→args[j]? = some v→Value.okWide Tryz.prog W .any base t v:=hval0
 have hW':=hW
 obtain⟨p,q,hA0,hV,rfl,hfz,hnd⟩:=hW;have hA:DataW.TrodAll enc Tryz.prog W 0 (fun _=>true) true Tryz.f3.params.toList args.toList ds p:=hA0
 have hB:=hA
 rw[Tryz.params3]at hA hval
 obtain⟨v0,vs0,d0,ds0,p0,q0,hargs,rfl,rfl,h0,r0⟩:=trodAll_cons hA
 obtain⟨v1,vs1,d1,ds1,p1,q1,rfl,rfl,rfl,h1,r1⟩:=trodAll_cons r0
 obtain⟨v2,vs2,d2,ds2,p2,q2,rfl,rfl,rfl,h2,r2⟩:=trodAll_cons r1
 obtain⟨rfl,rfl,rfl⟩:=trodAll_nil r2
 obtain rfl:args = #[v0,v1,v2]:=by cases args;simp_all
 obtain⟨rfl,rfl⟩:=trodVars_none hV
 obtain⟨a0,l0,c0,rfl⟩:=okWide_slice Tryz.underlying22 (hval 0 22 v0 rfl rfl)
 obtain⟨a1,rfl,rfl,rfl,w1⟩:=open_int Tryz.underlying3 (hval 1 3 v1 rfl rfl) h1
 obtain⟨y2,z2,g2,x2,rfl,hx2,i2⟩:=Hs (hval 2 26 v2 rfl rfl) h2
 obtain⟨n0,h0⟩:=h0;obtain⟨xs,hx⟩:=Jy h0
 have hlt:∀pl∈p0++([]++(p2++[]))++[],pl.block<W.heap.size:=fun pl hp=>by simpa using hW'.lt pl hp
 clear hA0 hval0;refine(HB a1 hx hx2 i2 (Cf W)).mono fun e W' ⟨Γ',hle,he,hg⟩=>?_
 subst he;have hg:=Wd.down hle hg
 exact⟨_,rfl,Qe (pa:=p0++([]++(p2++[]))) (pv:=[]) hW' (fun _ _ _=>(trodAll_cons_mk (shut_bool Tryz.underlying4 _) trodAll_mk0)) (fun sp hsp=>DataW.TrodAll.respare Ot PD (by rw[Tryz.params3];decide) (Gb hg hB (fun pl hp=>hlt pl (by simpa using hp))) (fun pl hp=>hsp pl (by simpa using hp))) (fun _ _=>rfl) rfl hg⟩
theorem nameFind_proved:Rows.NameFindSaid:=
 OpenClaim.holds_of_wide 3 Tryz.f3 rfl rfl rfl rfl rfl rfl rfl ⟨rfl,rfl,rfl,rfl,rfl⟩ rfl rfl rfl rfl rfl (by kernel_rfl) Tryz.func3 (by kernel_rfl)
  (of_decide_eq_true (by kernel_rfl)) (by unfold Func.isWrapper;first|(rw[if_pos (by decide +kernel)];kernel_rfl)|(rw[if_neg (by decide +kernel)];exact⟨rfl,rfl⟩))
  (fun os started H enc _=>Dy os started H enc)
end Go.Proofs.YtlimglpjpcfpdaaGreat
