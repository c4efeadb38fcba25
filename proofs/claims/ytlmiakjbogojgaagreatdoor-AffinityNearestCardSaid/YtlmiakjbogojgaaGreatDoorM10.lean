/- Texts of this proof, one behind another. -/
import Derived.Test.YtlmiakjbogojgaaGreatDoorM5
import Derived.Test.YtlmiakjbogojgaaGreatDoorM9
set_option linter.unusedVariables false
set_option linter.unusedSimpArgs false
section
open Go Mk
open Go.ChangeShapes Go.WideShapes Go.ChangeAt Go.RowKit
namespace Go.Proofs.YtlmiakjbogojgaaGreatDoor
set_option maxRecDepth 100000 in
theorem DD(os:Os)(started:os.Started)(H:Type)(enc:TypeId×Value→H) :
  ReturnsInHanded {} Tryz.checked os 4 .any (fun w args=>(Rows.affinityNearestSpec.pre enc Tryz.prog Tryz.f4 [] false w args∧laidMetH Tryz.prog Sr w)∧sizedMet enc Tryz.prog Tryz.f4 (OpenSpec.ofChange Rows.affinityNearestSpec) false w args)
   (Rows.affinityNearestSpec.post enc Tryz.prog Tryz.f4 false true false false):=by
 refine returnsInHanded_of_change_and (C:=Tryz.checked) (X:=fun w _=>laidMetH Tryz.prog Sr w) (fun _ _ _ hh h=>h.of_heap hh) Ws started (by kernel_rfl) Tryz.func4
  (ChangeSpec.witness_shaped (enc:=enc) (C:=Tryz.checked) (os:=os) (X:=fun w _=>laidMetH Tryz.prog Sr w) false (World.doorLaid Tryz.prog 400 os) #[.slice none 0 0,.int .i64 0] 8 rfl (World.shaped_of_RefB (by kernel_rfl) (by kernel_rfl)) (by kernel_rfl) (by kernel_rfl) (by kernel_rfl) (laidMetH_of_parts3 (fuel:=8) (laidMet_of_run' 8 (by kernel_rfl) (by kernel_rfl)) (by kernel_rfl) (by kernel_rfl))) ?_
 intro W base args ds gs before hval0 hW hcnd _ hL _;have hval:∀(j:Nat) t v,Tryz.f4.params[j]? = some t→args[j]? = some v→Value.okWide Tryz.prog W .any base t v:=hval0
 have hW':=hW
 obtain⟨p,q,hA0,hV,rfl,hfz,hnd⟩:=hW;have hA:DataW.TrodAll enc Tryz.prog W 0 (fun _=>true) true Tryz.f4.params.toList args.toList ds p:=hA0
 have hB:=hA
 rw[Tryz.params4]at hA hval
 obtain⟨v0,vs0,d0,ds0,p0,q0,hargs,rfl,rfl,h0,r0⟩:=trodAll_cons hA
 obtain⟨v1,vs1,d1,ds1,p1,q1,rfl,rfl,rfl,h1,r1⟩:=trodAll_cons r0
 obtain⟨rfl,rfl,rfl⟩:=trodAll_nil r1
 obtain rfl:args = #[v0,v1]:=by cases args;simp_all
 obtain⟨rfl,rfl⟩:=trodVars_none hV
 obtain⟨a0,l0,c0,rfl⟩:=okWide_slice Tryz.underlying37 (hval 0 37 v0 rfl rfl)
 obtain⟨n0,h0⟩:=h0;obtain⟨x0,r0',i0⟩:=Vg h0
 obtain⟨x1,rfl,rfl,rfl,w1⟩:=open_int Tryz.underlying3 (hval 1 3 v1 rfl rfl) h1
 have hlt:∀pl∈((p0++(([]:List MemPlace)++[]))++[]:List MemPlace),pl.block<W.heap.size:=fun pl hp=>by simpa using hW'.lt pl hp
 haveI hTab:=Tk (bH hL)
 clear hA0 hval0;refine(Ep (x1) r0' (Ec W)).mono fun e W' ⟨Γ',hle,he,hg0⟩=>?_
 have hg:Wd (Ai W) [] W':=NN hle hg0
 subst he;exact⟨_,rfl,Zz (pa:=(p0++(([]:List MemPlace)++[]))) (pv:=[]) hW' (fun _ _ _=>(trodAll_cons_mk (shut_bool Tryz.underlying4 _) trodAll_mk0)) (fun sp hsp=>DataW.TrodAll.respare Yh YM (by rw[Tryz.params4];decide) (LG hg hB (fun pl hp=>hlt pl (by simpa using hp))) (fun pl hp=>hsp pl (by simpa using hp))) (fun _ _=>rfl) rfl hg⟩
end Go.Proofs.YtlmiakjbogojgaaGreatDoor
end
