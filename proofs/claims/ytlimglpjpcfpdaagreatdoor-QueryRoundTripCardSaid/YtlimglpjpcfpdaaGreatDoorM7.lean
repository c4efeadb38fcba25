/- Texts of this proof, one behind another. -/
import Derived.Test.YtlimglpjpcfpdaaGreatDoorM4
import Derived.Test.YtlimglpjpcfpdaaGreatDoorM6
set_option linter.unusedVariables false
set_option linter.unusedSimpArgs false
section
open Go Mk
open Go.ChangeShapes Go.WideShapes Go.ChangeAt Go.RowKit
namespace Go.Proofs.YtlimglpjpcfpdaaGreatDoor
set_option maxRecDepth 100000 in
theorem u6(os:Os)(started:os.Started)(H:Type)(enc:TypeId×Value→H) :
  ReturnsInHanded {} Tryz.checked os 4 .any (fun w args=>(Rows.queryRoundTripSpec.pre enc Tryz.prog Tryz.f4 [] false w args∧laidMetH Tryz.prog Je w)∧sizedMet enc Tryz.prog Tryz.f4 (OpenSpec.ofChange Rows.queryRoundTripSpec) false w args)
   (Rows.queryRoundTripSpec.post enc Tryz.prog Tryz.f4 false true false false):=by
 refine returnsInHanded_of_change_and (C:=Tryz.checked) (X:=fun w _=>laidMetH Tryz.prog Je w) (fun _ _ _ hh h=>h.of_heap hh) LW started (by kernel_rfl) Tryz.func4
  (ChangeSpec.witness_shaped (enc:=enc) (C:=Tryz.checked) (os:=os) (X:=fun w _=>laidMetH Tryz.prog Je w) false (World.doorLaid Tryz.prog 400 os) #[.agg #[.slice none 0 0,.slice none 0 0],.string ⟨#[]⟩] 8 rfl (World.shaped_of_RefB (by kernel_rfl) (by kernel_rfl)) (by kernel_rfl) (by kernel_rfl) (by kernel_rfl) (laidMetH_of_parts3 (fuel:=8) (laidMet_of_run' 8 (by kernel_rfl) (by kernel_rfl)) (by kernel_rfl) (by kernel_rfl))) ?_
 intro W base args ds gs before hval0 hW hcnd _ hL _;have hval:∀(j:Nat) t v,Tryz.f4.params[j]? = some t→args[j]? = some v→Value.okWide Tryz.prog W .any base t v:=hval0
 have hW':=hW
 obtain⟨p,q,hA0,hV,rfl,hfz,hnd⟩:=hW;have hA:DataW.TrodAll enc Tryz.prog W 0 (fun _=>true) true Tryz.f4.params.toList args.toList ds p:=hA0
 have hB:=hA
 rw[Tryz.params4]at hA hval
 obtain⟨v0,vs0,d0,ds0,p0,q0,hargs,rfl,rfl,h0,r0⟩:=trodAll_cons hA
 obtain⟨v1,vs1,d1,ds1,p1,q1,rfl,rfl,rfl,h1,r1⟩:=trodAll_cons r0
 obtain⟨rfl,rfl,rfl⟩:=trodAll_nil r1
 obtain rfl:args = #[v0,v1]:=by cases args;simp_all
 obtain⟨rfl,rfl⟩:=trodVars_none hV
 obtain⟨y0,z0,g0,x0,rfl,hx0,i0⟩:=HQ (hval 0 25 v0 rfl rfl) h0
 obtain⟨x1,rfl,rfl,rfl,w1⟩:=Go.ChangeMaps.open_string Tryz.underlying9 (hval 1 9 v1 rfl rfl) h1
 have hlt:∀pl∈((p0++(([]:List MemPlace)++[]))++[]:List MemPlace),pl.block<W.heap.size:=fun pl hp=>by simpa using hW'.lt pl hp
 have hTab:=Nj (OK hL)
 clear hA0 hval0;refine(Ej (hT:=hTab) x1 hx0 i0 (NW W)).mono fun e W' ⟨Γ',hle,he,hg0⟩=>?_
 have hg:Wd (l4 W) [] W':=KE hle hg0
 subst he;exact⟨_,rfl,PI (pa:=(p0++(([]:List MemPlace)++[]))) (pv:=[]) hW' (fun _ _ _=>(trodAll_cons_mk (shut_bool Tryz.underlying4 _) trodAll_mk0)) (fun sp hsp=>DataW.TrodAll.respare Mi Lz (by rw[Tryz.params4];decide) (FR hg hB (fun pl hp=>hlt pl (by simpa using hp))) (fun pl hp=>hsp pl (by simpa using hp))) (fun _ _=>rfl) rfl hg⟩
end Go.Proofs.YtlimglpjpcfpdaaGreatDoor
end
