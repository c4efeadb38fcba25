/- Texts of this proof, one behind another. -/
import Derived.Test.YtlmiakjbogojgaaGreatDoorM5
import Derived.Test.YtlmiakjbogojgaaGreatDoorM7
set_option linter.unusedVariables false
set_option linter.unusedSimpArgs false
section
open Go Mk
open Go.ChangeShapes Go.WideShapes Go.ChangeAt Go.RowKit
namespace Go.Proofs.YtlmiakjbogojgaaGreatDoor
set_option maxRecDepth 100000 in
theorem ED(os:Os)(started:os.Started)(H:Type)(enc:TypeId×Value→H) :
  ReturnsInHanded {} Tryz.checked os 3 .any (fun w args=>(Rows.queryTextSpec.pre enc Tryz.prog Tryz.f3 [] false w args∧laidMetH Tryz.prog LR w)∧sizedMet enc Tryz.prog Tryz.f3 (OpenSpec.ofChange Rows.queryTextSpec) false w args)
   (Rows.queryTextSpec.post enc Tryz.prog Tryz.f3 false true false false):=by
 refine returnsInHanded_of_change_and (C:=Tryz.checked) (X:=fun w _=>laidMetH Tryz.prog LR w) (fun _ _ _ hh h=>h.of_heap hh) Ow started (by kernel_rfl) Tryz.func3
  (ChangeSpec.witness_shaped (enc:=enc) (C:=Tryz.checked) (os:=os) (X:=fun w _=>laidMetH Tryz.prog LR w) false (World.doorLaid Tryz.prog 400 os) #[.string ⟨#[]⟩,.agg #[.slice none 0 0,.slice none 0 0]] 8 rfl (World.shaped_of_RefB (by kernel_rfl) (by kernel_rfl)) (by kernel_rfl) (by kernel_rfl) (by kernel_rfl) (laidMetH_of_parts3 (fuel:=8) (laidMet_of_run' 8 (by kernel_rfl) (by kernel_rfl)) (by kernel_rfl) (by kernel_rfl))) ?_
 intro W base args ds gs before hval0 hW hcnd _ hL _;have hval:∀(j:Nat) t v,Tryz.f3.params[j]? = some t→args[j]? = some v→Value.okWide Tryz.prog W .any base t v:=hval0
 have hW':=hW
 obtain⟨p,q,hA0,hV,rfl,hfz,hnd⟩:=hW;have hA:DataW.TrodAll enc Tryz.prog W 0 (fun _=>true) true Tryz.f3.params.toList args.toList ds p:=hA0
 have hB:=hA
 rw[Tryz.params3]at hA hval
 obtain⟨v0,vs0,d0,ds0,p0,q0,hargs,rfl,rfl,h0,r0⟩:=trodAll_cons hA
 obtain⟨v1,vs1,d1,ds1,p1,q1,rfl,rfl,rfl,h1,r1⟩:=trodAll_cons r0
 obtain⟨rfl,rfl,rfl⟩:=trodAll_nil r1
 obtain rfl:args = #[v0,v1]:=by cases args;simp_all
 obtain⟨rfl,rfl⟩:=trodVars_none hV
 obtain⟨x0,rfl,rfl,rfl,w0⟩:=Go.ChangeMaps.open_string Tryz.underlying9 (hval 0 9 v0 rfl rfl) h0
 obtain⟨y1,z1,g1,x1,rfl,hx1,i1⟩:=Iy (hval 1 25 v1 rfl rfl) h1
 have hlt:∀pl∈((([]:List MemPlace)++(p1++[]))++[]:List MemPlace),pl.block<W.heap.size:=fun pl hp=>by simpa using hW'.lt pl hp
 have hTab:=Pv (SA hL)
 clear hA0 hval0;refine(Gd (hT:=hTab) x0 hx1 i1 (PZ W)).mono fun e W' ⟨Γ',hle,he,hg0⟩=>?_
 have hg:Wd (AN W) [] W':=Ls hle hg0
 subst he;exact⟨_,rfl,Rb (pa:=(([]:List MemPlace)++(p1++[]))) (pv:=[]) hW' (fun _ _ _=>(trodAll_cons_mk (shut_bool Tryz.underlying4 _) trodAll_mk0)) (fun sp hsp=>DataW.TrodAll.respare Oz Qe (by rw[Tryz.params3];decide) (HE hg hB (fun pl hp=>hlt pl (by simpa using hp))) (fun pl hp=>hsp pl (by simpa using hp))) (fun _ _=>rfl) rfl hg⟩
end Go.Proofs.YtlmiakjbogojgaaGreatDoor
end
