/- Texts of this proof, one behind another. -/
import Derived.Test.YtlmiakjbogojgaaGreatDoorM6
import Derived.Test.YtlmiakjbogojgaaGreatDoorM2
import Derived.Shelf.SlLaysF
import Derived.Test.YtlmiakjbogojgaaGreatDoorM5
set_option linter.unusedVariables false
set_option linter.unusedSimpArgs false
section
open Go Mk
namespace Go.Proofs.YtlmiakjbogojgaaGreatDoor
set_option maxHeartbeats 16000000
attribute [local irreducible] Calls cI cB
theorem Ke{Γ:C8}{vs vg:Value}{gs:List N0}{q:F7}{N:Nat}(hq0:QR Γ vs vg gs q)(hok:z8 N q)(hN:N≤9223372036854775807:=by first|decide|assumption):PG Tryz.prog Γ 103 [.agg #[vs,vg]] (.int .i64 (if U5 q=true then 0 else 63)):=Cr fun Γ w hle hw=>by
 have hq:=hq0.mono hle
 obtain⟨ga,gn,gc,rfl,hgn,hgnc,hgc⟩:=hq.goals.shape;obtain⟨sa,sn,sc,rfl,hsn,hsnc,hsc⟩:=hq.sel.shape;simp only[List.length_map]at hgn hsn
 have hgl:=hq.glen hok
 have hsl:=hok.sel
 have hnl:=hq.nlen
 have hrS:=hq.sel
 refine A7 Tryz.func103 rfl rfl ?_
 refine A6 ?_;refine H2 ?_;intro b1 w hw;have hw:Wd Γ [.blk b1 (.cells #[.slice sa sn sc,.slice ga gn gc] 25)] w:=hw
 refine A6 ?_;refine B3 (fun μ ρ w=>∃(k:Nat),μ+k=sn∧Has ρ [(1,.pointer (some ⟨b1,0,none⟩)),(10,.slice sa sn sc),(11,.int .i64 sn),(12,.int .i64 k)]∧q.Sel.all Y3=(q.Sel.drop k).all Y3∧Wd Γ [.blk b1 (.cells #[.slice sa sn sc,.slice ga gn gc] 25)] w) sn ⟨0,by omega,⟨rfl,rfl,rfl,rfl,trivial⟩,rfl,hw⟩ ?_
 clear hw;rintro μ ρ w ⟨k,hk,hρ,hall,hw⟩
 rw[hρ.eq];clear hρ;refine A6 ?_;refine A0 rfl (fun h=>?_) (fun h=>?_)
 ·have hkn:k<sn:=by have:=of_decide_eq_true h;omega
  clear h;obtain⟨s,hs⟩:=B2 (l:=q.Sel) (k:=k) (by omega)
  rw[W5 hs]at hall;have p1:=Ey (hok.names s (List.mem_of_getElem? hs))
  refine A6 ?_;refine A0 rfl (fun h=>?_) (fun h=>?_)
  ·have hf:Y3 s=false:=by simpa using h
   refine A6 ?_;refine⟨_,rfl,Γ,C8.le.refl _,G4 rfl ?_,V5 hw⟩
   unfold U5;rw[hall,hf];rfl
  ·have hf:Y3 s=true:=by simpa using h
   rw[hf,Bool.true_and]at hall;refine A6 ?_;exact⟨μ-1,by omega,k+1,by omega,⟨rfl,rfl,rfl,rfl,trivial⟩,hall,hw⟩
 have hkn:sn≤k:=by have:=of_decide_eq_false h;omega
 clear h;rw[G8 q.Sel (by omega)]at hall
 have hall0:U5 q=q.Goals.all DW:=by unfold U5;rw[hall];rfl
 clear hall hkn hk;refine A6 ?_;refine B3 (fun μ ρ w=>∃(Γ':C8) (k:Nat),Γ.le Γ'∧μ+k=gn∧Has ρ [(1,.pointer (some ⟨b1,0,none⟩)),(21,.slice ga gn gc),(22,.int .i64 gn),(23,.int .i64 k)]∧U5 q=(q.Goals.drop k).all DW∧Wd Γ' [.blk b1 (.cells #[.slice sa sn sc,.slice ga gn gc] 25)] w) gn ⟨Γ,0,C8.le.refl _,by omega,⟨rfl,rfl,rfl,rfl,trivial⟩,hall0,hw⟩ ?_
 clear hw;rintro μ ρ w ⟨Γ1,k,hle1,hk,hρ,hall,hw⟩
 rw[hρ.eq];clear hρ;have hq1:=hq.mono hle1
 have hrG1:=hq1.goals
 refine A6 ?_;refine A0 rfl (fun h=>?_) (fun h=>?_)
 ·have hkn:k<gn:=by have:=of_decide_eq_true h;omega
  clear h;obtain⟨x,hx⟩:=B2 (l:=gs) (k:=k) (by omega)
  have hxm:=List.mem_of_getElem? hx
  have hgoal:=hq.goal hok hxm
  have hgok:=hq1.ok x hxm
  have hgx:=hq.get hx
  rw[W5 hgx]at hall;obtain⟨l1,l2,l3⟩:=hgok.len;obtain⟨g,A,N,C⟩:=x;simp only at hall hgoal l1 l2 l3 hgx
  have hal:=hgoal.len
  haveI:=cu hgoal.rel
  refine A6 ?_;refine B9 ?_;intro b6 w hw;refine A6 ?_;refine B0 ?_;intro w hw;have hw:Wd Γ1 [.blk b6 (.cells (cG ⟨g,A,N,C⟩).toArray 77),.blk b1 (.cells #[.slice sa sn sc,.slice ga gn gc] 25)] w:=hw
  repeat first|refine E6 ?_|refine E7 ?_;intro w hw
  refine A0 rfl (fun h=>?_) (fun h=>?_)
  ·have hf:DW g=false:=by
    have h:(H8 g&&(!F8 g.Rel||KW g.Rel))=true:=h
    unfold DW;rw[h];rfl
   refine A6 ?_;refine⟨_,rfl,Γ1,hle1,G4 rfl ?_,V5 hw⟩
   rw[hall,hf];rfl
  have hnG:DW g=(J5 g).all (Gg g):=by
   have h:(H8 g&&(!F8 g.Rel||KW g.Rel))=false:=h
   unfold DW;rw[h];rfl
  clear h;refine A6 ?_;refine C9 (vs:=[.agg (cG ⟨g,A,N,C⟩).toArray]) ((j9 hgok hw).mono fun e w hq2=>?_)
  clear hw;obtain⟨Γ2,v,hle2,rfl,hrv,hw⟩:=hq2;obtain⟨oa,on,oc,rfl,hon,honc,hoc⟩:=hrv.shape;simp only[List.length_map]at hon
  have hol:=CH hgoal hN
  refine⟨_,rfl,?_⟩;refine A6 ?_;refine B3 (fun μ ρ w=>∃(j:Nat),μ+j=on∧Has ρ [(1,.pointer (some ⟨b1,0,none⟩)),(6,.pointer (some ⟨b6,0,none⟩)),(21,.slice ga gn gc),(22,.int .i64 gn),(23,.int .i64 k),(41,.slice oa on oc),(42,.int .i64 on),(43,.int .i64 j)]∧DW g=((J5 g).drop j).all (Gg g)∧Wd Γ2 [.blk b6 (.cells (cG ⟨g,A,N,C⟩).toArray 77),.blk b1 (.cells #[.slice sa sn sc,.slice ga gn gc] 25)] w) on ⟨0,by omega,⟨rfl,rfl,rfl,rfl,rfl,rfl,rfl,rfl,trivial⟩,hnG,hw⟩ ?_
  clear hw;rintro μ2 ρ w ⟨j,hj,hρ,hsh,hw⟩
  rw[hρ.eq];clear hρ;refine A6 ?_;refine A0 rfl (fun h=>?_) (fun h=>?_)
  ·have hjn:j<on:=by have:=of_decide_eq_true h;omega
   clear h;obtain⟨o,ho⟩:=B2 (l:=J5 g) (k:=j) (by omega)
   obtain⟨hov,hoc2⟩:=aA hgoal o (List.mem_of_getElem? ho)
   have p1:=Ey hov
   have p2:=Ex (Γ:=Γ2) hoc2
   rw[W5 ho]at hsh;have hno:Gg g o=(!(decide (o.Var=F1) && !L0 o.Const) && !(decide (o.Var=I8) && !H8 g) && !(decide (o.Var≠F1)&&decide (o.Var≠I8) && !Y3 o.Var)):=rfl
   refine A6 ?_;refine B9 ?_;intro b8 w hw;refine B0 ?_;intro w hw;have hw:Wd Γ2 [.blk b8 (.cells (enc o).toArray 75),.blk b6 (.cells (cG ⟨g,A,N,C⟩).toArray 77),.blk b1 (.cells #[.slice sa sn sc,.slice ga gn gc] 25)] w:=hw
   have fin:Gg g o=false→U5 q=false:=fun hf=>by rw[hall,hsh,hf];rfl
   refine A6 ?_;refine Mw (hp:=p2) ?_
   intro w hw;refine A6 ?_;refine A0 rfl (fun h=>?_) (fun h=>?_)
   ·refine A6 ?_;refine O0 (congrArg Value.bool h) ?_
    have h:(decide (o.Var=F1) && !L0 o.Const)=true:=h
    refine A6 ?_;refine⟨_,rfl,Γ2,hle1.trans hle2,G4 rfl ?_,V5 hw⟩
    rw[fin (by rw[hno,h];rfl)];rfl
   have h1:(decide (o.Var=F1) && !L0 o.Const)=false:=h
   clear h;repeat first|refine E6 ?_|refine E7 ?_;intro w hw
   refine A0 rfl (fun h=>?_) (fun h=>?_)
   ·refine A6 ?_;refine O0 (congrArg Value.bool h) ?_
    have h:(decide (o.Var=I8) && !H8 g)=true:=h
    refine A6 ?_;refine⟨_,rfl,Γ2,hle1.trans hle2,G4 rfl ?_,V5 hw⟩
    rw[fin (by rw[hno,h,Bool.not_true,Bool.and_false];rfl)];rfl
   have h2:(decide (o.Var=I8) && !H8 g)=false:=h
   clear h;refine A6 ?_;refine A0 rfl (fun h=>?_) (fun h=>?_)
   ·have h:(decide (o.Var≠F1)&&decide (o.Var≠I8) && !Y3 o.Var)=true:=h
    refine A6 ?_;refine⟨_,rfl,Γ2,hle1.trans hle2,G4 rfl ?_,V5 hw⟩
    rw[fin (by rw[hno,h,Bool.not_true,Bool.and_false])];rfl
   ·have h:(decide (o.Var≠F1)&&decide (o.Var≠I8) && !Y3 o.Var)=false:=h
    have hf:Gg g o=true:=by rw[hno,h1,h2,h];rfl
    rw[hf,Bool.true_and]at hsh;refine A6 ?_;exact⟨on-j-1,by omega,j+1,by omega,⟨rfl,rfl,rfl,rfl,rfl,rfl,rfl,rfl,trivial⟩,hsh,hw.drop⟩
  have hjn:on≤j:=by have:=of_decide_eq_false h;omega
  clear h;rw[G8 (J5 g) (by omega)]at hsh
  have hsh:DW g=true:=hsh
  rw[hsh,Bool.true_and]at hall;refine A6 ?_;exact⟨gn-k-1,by omega,Γ2,k+1,hle1.trans hle2,by omega,⟨rfl,rfl,rfl,rfl,trivial⟩,hall,hw.drop⟩
 have hkn:gn≤k:=by have:=of_decide_eq_false h;omega
 rw[G8 _ (by rw[hnl];omega)]at hall
 refine A6 ?_;refine⟨_,rfl,Γ1,hle1,G4 rfl ?_,V5 hw⟩
 rw[hall];rfl
def Kr(g:H3):List ByteArray:=if g.Kind=1∨g.Kind=4 then (J5 g).map (·.Var) else []
def BQ(q:F7):List ByteArray:=(Qy q).foldl addN [F1,I8]
theorem Us{q:F7}:Ak q=(IL q).all (BF (BQ q)):=by
 rw[Bool.eq_iff_iff];unfold Ak;rw[List.all_eq_true,List.all_eq_true];have key:∀s,BF (BQ q) s=true↔s=F1∨s=I8∨s∈Qy q:=fun s=>by
  rw[z6];unfold BQ;rw[Gn];simp[or_assoc]
 have hmem:∀s,s∈AC q↔s∈IL q∧s≠F1∧s≠I8:=fun s=>by
  unfold AC;rw[Gn];unfold bj;simp[List.mem_filter]
 constructor
 ·intro h s hs;rw[key];by_cases h1:s=F1
  ·exact .inl h1
  by_cases h2:s=I8
  ·exact .inr (.inl h2)
  exact .inr (.inr (z6.1 (h s ((hmem s).2 ⟨hs,h1,h2⟩))))
 ·intro h s hs;obtain⟨h1,h2,h3⟩:=(hmem s).1 hs
  have:=(key s).1 (h s h1)
  exact z6.2 ((this.resolve_left h2).resolve_left h3)
def UX(q:F7)(g:H3):Bool:=(J5 g).all fun o=>BF (BQ q) o.Var
theorem Rw{q:F7}:Ak q=(q.Sel.all (BF (BQ q))&&q.Goals.all (UX q)):=by
 rw[Us];unfold IL;rw[List.all_append,List.all_flatMap];congr 2
 funext g
 rw[List.all_map];rfl
def Re(q:F7):Int:=if ¬q.Sel.Nodup then 56 else if Ak q=false then 62 else 0
theorem Gi{Γ:C8}{vs vg:Value}{gs:List N0}{q:F7}{N:Nat}(hq0:QR Γ vs vg gs q)(hok:z8 N q)(hN:N≤9223372036854775807:=by first|decide|assumption):PG Tryz.prog Γ 105 [.agg #[vs,vg]] (.int .i64 (Re q)):=Cr fun Γ w hle hw=>by
 have hq:=hq0.mono hle
 obtain⟨ga,gn,gc,rfl,hgn,hgnc,hgc⟩:=hq.goals.shape;obtain⟨sa,sn,sc,rfl,hsn,hsnc,hsc⟩:=hq.sel.shape;simp only[List.length_map]at hgn hsn
 have hgl:=hq.glen hok
 have hsl:=hok.sel
 have hnl:=hq.nlen
 have hrS:=hq.sel
 refine A7 Tryz.func105 rfl rfl ?_
 refine A6 ?_;refine H2 ?_;intro b1 w hw;have hw:Wd Γ [.blk b1 (.cells #[.slice sa sn sc,.slice ga gn gc] 25)] w:=hw
 refine A6 ?_;refine H5 rfl rfl (X8 (K:=9) (α:=ByteArray) (f:=Value.bool) hw fun bm w hw=>?_)
 have hw:Wd Γ [DV bm [],.blk b1 (.cells #[.slice sa sn sc,.slice ga gn gc] 25)] w:=hw
 refine A6 ?_;refine H5 rfl rfl (OJ (X9 (f:=Value.bool) (v:=true) (i:=0) (l:=([]:List ByteArray).map fun s=>(s,true)) (a:=F1) hw rfl rfl rfl rfl fun w hw=>?_))
 rw[HA]at hw;have hw:Wd Γ [DV bm [F1],.blk b1 (.cells #[.slice sa sn sc,.slice ga gn gc] 25)] w:=hw
 refine H5 rfl rfl (OJ (X9 (f:=Value.bool) (v:=true) (i:=0) (l:=[F1].map fun s=>(s,true)) (a:=I8) hw rfl rfl rfl rfl fun w hw=>?_))
 rw[HA]at hw;have hw:Wd Γ [DV bm [F1,I8],.blk b1 (.cells #[.slice sa sn sc,.slice ga gn gc] 25)] w:=hw
 refine A6 ?_;refine B3 (fun μ ρ w=>∃(Γ':C8) (k:Nat),Γ.le Γ'∧μ+k=gn∧Has ρ [(1,.pointer (some ⟨b1,0,none⟩)),(3,.map (some bm)),(20,.slice ga gn gc),(21,.int .i64 gn),(22,.int .i64 k)]∧Wd Γ' [DV bm (((q.Goals.take k).flatMap Kr).foldl addN [F1,I8]),.blk b1 (.cells #[.slice sa sn sc,.slice ga gn gc] 25)] w) gn ⟨Γ,0,C8.le.refl _,by omega,⟨rfl,rfl,rfl,rfl,rfl,trivial⟩,hw⟩ ?_
 clear hw;rintro μ ρ w ⟨Γ1,k,hle1,hk,hρ,hw⟩
 rw[hρ.eq];clear hρ;have hq1:=hq.mono hle1
 have hrG1:=hq1.goals
 have hrS1:=hq1.sel
 refine A6 ?_;refine A0 rfl (fun h=>?_) (fun h=>?_)
 ·have hkn:k<gn:=by have:=of_decide_eq_true h;omega
  clear h;obtain⟨x,hx⟩:=B2 (l:=gs) (k:=k) (by omega)
  have hxm:=List.mem_of_getElem? hx
  have hgoal:=hq.goal hok hxm
  have hgok:=hq1.ok x hxm
  have hgx:=hq.get hx
  have hsu:=Fz (F:=Kr) hgx
  obtain⟨l1,l2,l3⟩:=hgok.len;obtain⟨g,A,N,C⟩:=x;simp only at hgoal l1 l2 l3 hgx hsu
  have hal:=hgoal.len
  refine A6 ?_;refine B9 ?_;intro b5 w hw;refine A6 ?_;refine B0 ?_;intro w hw;have hw:Wd Γ1 [.blk b5 (.cells (cG ⟨g,A,N,C⟩).toArray 77),DV bm (((q.Goals.take k).flatMap Kr).foldl addN [F1,I8]),.blk b1 (.cells #[.slice sa sn sc,.slice ga gn gc] 25)] w:=hw
  refine A6 ?_;refine A0 rfl (fun h=>?_) (fun h=>?_)
  ·have hkd:g.Kind=1∨g.Kind=4:=by
    have h:(decide (g.Kind=1)||decide (g.Kind=4))=true:=h
    simpa using h
   clear h;have hb:Kr g=(J5 g).map (·.Var):=if_pos hkd
   refine A6 ?_;refine C9 (vs:=[.agg (cG ⟨g,A,N,C⟩).toArray]) ((j9 hgok hw).mono fun e w hq2=>?_)
   clear hw;obtain⟨Γ2,v,hle2,rfl,hrv,hw⟩:=hq2;obtain⟨oa,on,oc,rfl,hon,honc,hoc⟩:=hrv.shape;simp only[List.length_map]at hon
   have hol:=CH hgoal hN
   refine⟨_,rfl,?_⟩;refine A6 ?_;refine B3 (fun μ ρ w=>∃(j:Nat),μ+j=on∧Has ρ [(1,.pointer (some ⟨b1,0,none⟩)),(3,.map (some bm)),(20,.slice ga gn gc),(21,.int .i64 gn),(22,.int .i64 k),(35,.slice oa on oc),(36,.int .i64 on),(37,.int .i64 j)]∧Wd Γ2 [.blk b5 (.cells (cG ⟨g,A,N,C⟩).toArray 77),DV bm (((q.Goals.take k).flatMap Kr++((J5 g).take j).map (·.Var)).foldl addN [F1,I8]),.blk b1 (.cells #[.slice sa sn sc,.slice ga gn gc] 25)] w) on ⟨0,by omega,⟨rfl,rfl,rfl,rfl,rfl,rfl,rfl,rfl,trivial⟩,by rw[List.take_zero,List.map_nil,List.append_nil];exact hw⟩ ?_
   clear hw;rintro μ2 ρ w ⟨j,hj,hρ,hw⟩
   rw[hρ.eq];clear hρ;refine A6 ?_;refine A0 rfl (fun h=>?_) (fun h=>?_)
   ·have hjn:j<on:=by have:=of_decide_eq_true h;omega
    clear h;obtain⟨o,ho⟩:=B2 (l:=J5 g) (k:=j) (by omega)
    refine A6 ?_;refine B9 ?_;intro b7 w hw;refine B0 ?_;intro w hw;have hw:Wd Γ2 [.blk b7 (.cells (enc o).toArray 75),.blk b5 (.cells (cG ⟨g,A,N,C⟩).toArray 77),DV bm (((q.Goals.take k).flatMap Kr++((J5 g).take j).map (·.Var)).foldl addN [F1,I8]),.blk b1 (.cells #[.slice sa sn sc,.slice ga gn gc] 25)] w:=hw
    refine A6 ?_;refine H5 rfl rfl (X9 (f:=Value.bool) (v:=true) (i:=2) (l:=(((q.Goals.take k).flatMap Kr++((J5 g).take j).map (·.Var)).foldl addN [F1,I8]).map fun s=>(s,true)) hw rfl rfl rfl rfl fun w hw=>?_)
    rw[HA]at hw;have hw:Wd Γ2 [.blk b7 (.cells (enc o).toArray 75),.blk b5 (.cells (cG ⟨g,A,N,C⟩).toArray 77),DV bm (((q.Goals.take k).flatMap Kr++((J5 g).take (j+1)).map (·.Var)).foldl addN [F1,I8]),.blk b1 (.cells #[.slice sa sn sc,.slice ga gn gc] 25)] w:=by
     rw[List.take_add_one,ho,List.map_append,←List.append_assoc,List.foldl_append (l:=(q.Goals.take k).flatMap Kr++((J5 g).take j).map (·.Var))];exact hw
    refine A6 ?_;exact⟨on-j-1,by omega,j+1,by omega,⟨rfl,rfl,rfl,rfl,rfl,rfl,rfl,rfl,trivial⟩,hw.drop⟩
   have hjn:on≤j:=by have:=of_decide_eq_false h;omega
   clear h;have ho2:(J5 g).take j=J5 g:=List.take_of_length_le (by omega)
   rw[ho2,←hb,←hsu]at hw;refine A6 ?_;exact⟨gn-k-1,by omega,Γ2,k+1,hle1.trans hle2,by omega,⟨rfl,rfl,rfl,rfl,rfl,trivial⟩,hw.drop⟩
  have hkd:¬(g.Kind=1∨g.Kind=4):=by
   have h:(decide (g.Kind=1)||decide (g.Kind=4))=false:=h
   simpa using h
  clear h;have hb:Kr g=[]:=if_neg hkd
  rw[hb,List.append_nil]at hsu;rw[←hsu]at hw;refine A6 ?_;exact⟨gn-k-1,by omega,Γ1,k+1,hle1,by omega,⟨rfl,rfl,rfl,rfl,rfl,trivial⟩,hw.drop⟩
 have hkn:gn≤k:=by have:=of_decide_eq_false h;omega
 clear h;rw[List.take_of_length_le (by omega)]at hw
 have hw:Wd Γ1 [DV bm (BQ q),.blk b1 (.cells #[.slice sa sn sc,.slice ga gn gc] 25)] w:=hw
 clear hkn hk;refine A6 ?_;refine H5 rfl rfl (X8 (K:=9) (α:=ByteArray) (f:=Value.bool) hw fun bm2 w hw=>?_)
 have hw:Wd Γ1 [DV bm2 [],DV bm (BQ q),.blk b1 (.cells #[.slice sa sn sc,.slice ga gn gc] 25)] w:=hw
 refine A6 ?_;refine B3 (fun μ ρ w=>∃(k:Nat),μ+k=sn∧Has ρ [(1,.pointer (some ⟨b1,0,none⟩)),(3,.map (some bm)),(8,.map (some bm2)),(48,.slice sa sn sc),(49,.int .i64 sn),(50,.int .i64 k)]∧(q.Sel.take k).Nodup∧Wd Γ1 [DV bm2 ((q.Sel.take k).foldl addN []),DV bm (BQ q),.blk b1 (.cells #[.slice sa sn sc,.slice ga gn gc] 25)] w) sn ⟨0,by omega,⟨rfl,rfl,rfl,rfl,rfl,rfl,trivial⟩,List.nodup_nil,hw⟩ ?_
 clear hw;rintro μ ρ w ⟨k,hk,hρ,hnd,hw⟩
 rw[hρ.eq];clear hρ;refine A6 ?_;refine A0 rfl (fun h=>?_) (fun h=>?_)
 ·have hkn:k<sn:=by have:=of_decide_eq_true h;omega
  clear h;obtain⟨s,hs⟩:=B2 (l:=q.Sel) (k:=k) (by omega)
  have hmem:BF ((q.Sel.take k).foldl addN []) s=true↔s∈q.Sel.take k:=by
   rw[z6,Gn];simp
  refine A6 ?_;refine A0 rfl (fun h=>?_) (fun h=>?_)
  ·have h:((G3 (((q.Sel.take k).foldl addN []).map fun s=>(s,true)) s).getD default)=true:=h
   rw[Gt,hmem]at h;have hf:¬q.Sel.Nodup:=fun hn=>by
    obtain⟨i,hi⟩:=List.getElem?_of_mem h
    have hik:i<k:=by have:=(List.getElem?_eq_some_iff.1 hi).1;rw[List.length_take]at this;omega
    rw[List.getElem?_take,if_pos hik]at hi;have:=(List.getElem?_inj (by omega) hn).1 (hi.trans hs.symm)
    omega
   refine A6 ?_;refine⟨_,rfl,Γ1,hle1,G4 rfl ?_,V5 hw⟩
   unfold Re;rw[if_pos hf]
  ·have h:((G3 (((q.Sel.take k).foldl addN []).map fun s=>(s,true)) s).getD default)=false:=h
   rw[Gt]at h;have hnm:s∉q.Sel.take k:=fun hm=>by rw[hmem.2 hm]at h;cases h
   refine A6 ?_;refine H5 rfl rfl (X9 (f:=Value.bool) (v:=true) (i:=0) (l:=((q.Sel.take k).foldl addN []).map fun s=>(s,true)) hw rfl rfl rfl rfl fun w hw=>?_)
   rw[HA]at hw;have hw:Wd Γ1 [DV bm2 ((q.Sel.take (k+1)).foldl addN []),DV bm (BQ q),.blk b1 (.cells #[.slice sa sn sc,.slice ga gn gc] 25)] w:=by
    rw[List.take_add_one,hs,List.foldl_append];exact hw
   refine A6 ?_;refine⟨sn-k-1,by omega,k+1,by omega,⟨rfl,rfl,rfl,rfl,rfl,rfl,trivial⟩,?_,hw⟩
   rw[List.take_add_one,hs,List.nodup_append];exact⟨hnd,by simp,fun a ha b hb e=>by
    have hb:b=s:=by simpa using hb
    exact hnm (by rw[←hb,←e];exact ha)⟩
 have hkn:sn≤k:=by have:=of_decide_eq_false h;omega
 clear h;rw[List.take_of_length_le (by omega)]at hnd
 have hv:Re q=if Ak q=false then 62 else 0:=by
  unfold Re;rw[if_neg (fun h=>h hnd)]
 rw[Rw]at hv;clear hkn hk;refine A6 ?_;obtain⟨KK,hKK⟩:∃KK,KK=(q.Sel.take k).foldl addN []:=⟨_,rfl⟩
 rw[←hKK]at hw;clear hKK;refine B3 (fun μ ρ w=>∃(k:Nat),μ+k=sn∧Has ρ [(1,.pointer (some ⟨b1,0,none⟩)),(3,.map (some bm)),(61,.slice sa sn sc),(62,.int .i64 sn),(63,.int .i64 k)]∧q.Sel.all (BF (BQ q))=(q.Sel.drop k).all (BF (BQ q))∧Wd Γ1 [DV bm2 KK,DV bm (BQ q),.blk b1 (.cells #[.slice sa sn sc,.slice ga gn gc] 25)] w) sn ⟨0,by omega,⟨rfl,rfl,rfl,rfl,rfl,trivial⟩,rfl,hw⟩ ?_
 clear hw;rintro μ ρ w ⟨k,hk,hρ,hall,hw⟩
 rw[hρ.eq];clear hρ;refine A6 ?_;refine A0 rfl (fun h=>?_) (fun h=>?_)
 ·have hkn:k<sn:=by have:=of_decide_eq_true h;omega
  clear h;obtain⟨s,hs⟩:=B2 (l:=q.Sel) (k:=k) (by omega)
  rw[W5 hs]at hall;refine A6 ?_;refine A0 rfl (fun h=>?_) (fun h=>?_)
  ·have h:(!((G3 ((BQ q).map fun s=>(s,true)) s).getD default))=true:=h
   rw[Gt]at h;have hf:BF (BQ q) s=false:=by simpa using h
   refine A6 ?_;refine⟨_,rfl,Γ1,hle1,G4 rfl ?_,V5 hw⟩
   rw[hv,hall,hf];rfl
  ·have h:(!((G3 ((BQ q).map fun s=>(s,true)) s).getD default))=false:=h
   rw[Gt]at h;have hf:BF (BQ q) s=true:=by simpa using h
   rw[hf,Bool.true_and]at hall;refine A6 ?_;exact⟨sn-k-1,by omega,k+1,by omega,⟨rfl,rfl,rfl,rfl,rfl,trivial⟩,hall,hw⟩
 have hkn:sn≤k:=by have:=of_decide_eq_false h;omega
 clear h;rw[G8 q.Sel (by omega)]at hall
 have hv:Re q=if q.Goals.all (UX q)=false then 62 else 0:=by
  rw[hv,hall];rfl
 clear hkn hk hall;refine A6 ?_;refine B3 (fun μ ρ w=>∃(Γ':C8) (k:Nat),Γ1.le Γ'∧μ+k=gn∧Has ρ [(1,.pointer (some ⟨b1,0,none⟩)),(3,.map (some bm)),(73,.slice ga gn gc),(74,.int .i64 gn),(75,.int .i64 k)]∧q.Goals.all (UX q)=(q.Goals.drop k).all (UX q)∧Wd Γ' [DV bm2 KK,DV bm (BQ q),.blk b1 (.cells #[.slice sa sn sc,.slice ga gn gc] 25)] w) gn ⟨Γ1,0,C8.le.refl _,by omega,⟨rfl,rfl,rfl,rfl,rfl,trivial⟩,rfl,hw⟩ ?_
 clear hw;rintro μ ρ w ⟨Γ2,k,hle2,hk,hρ,hall,hw⟩
 rw[hρ.eq];clear hρ;have hq2:=hq1.mono hle2
 have hrG2:=hq2.goals
 refine A6 ?_;refine A0 rfl (fun h=>?_) (fun h=>?_)
 ·have hkn:k<gn:=by have:=of_decide_eq_true h;omega
  clear h;obtain⟨x,hx⟩:=B2 (l:=gs) (k:=k) (by omega)
  have hxm:=List.mem_of_getElem? hx
  have hgoal:=hq.goal hok hxm
  have hgok:=hq2.ok x hxm
  have hgx:=hq.get hx
  rw[W5 hgx]at hall;obtain⟨l1,l2,l3⟩:=hgok.len;obtain⟨g,A,N,C⟩:=x;simp only at hgoal l1 l2 l3 hgx hall
  have hal:=hgoal.len
  refine A6 ?_;refine B9 ?_;intro b14 w hw;refine A6 ?_;refine B0 ?_;intro w hw;have hw:Wd Γ2 (.blk b14 (.cells (cG ⟨g,A,N,C⟩).toArray 77)::[DV bm2 KK,DV bm (BQ q),.blk b1 (.cells #[.slice sa sn sc,.slice ga gn gc] 25)]) w:=hw
  refine A6 ?_;refine C9 (vs:=[.agg (cG ⟨g,A,N,C⟩).toArray]) ((j9 hgok hw).mono fun e w hq3=>?_)
  clear hw;obtain⟨Γ3,v,hle3,rfl,hrv,hw⟩:=hq3;obtain⟨oa,on,oc,rfl,hon,honc,hoc⟩:=hrv.shape;simp only[List.length_map]at hon
  have hol:=CH hgoal hN
  refine⟨_,rfl,?_⟩;refine A6 ?_;refine B3 (fun μ ρ w=>∃(j:Nat),μ+j=on∧Has ρ [(1,.pointer (some ⟨b1,0,none⟩)),(3,.map (some bm)),(73,.slice ga gn gc),(74,.int .i64 gn),(75,.int .i64 k),(80,.slice oa on oc),(81,.int .i64 on),(82,.int .i64 j)]∧UX q g=(((J5 g).drop j).all fun o=>BF (BQ q) o.Var)∧Wd Γ3 (.blk b14 (.cells (cG ⟨g,A,N,C⟩).toArray 77)::[DV bm2 KK,DV bm (BQ q),.blk b1 (.cells #[.slice sa sn sc,.slice ga gn gc] 25)]) w) on ⟨0,by omega,⟨rfl,rfl,rfl,rfl,rfl,rfl,rfl,rfl,trivial⟩,rfl,hw⟩ ?_
  clear hw;rintro μ2 ρ w ⟨j,hj,hρ,hsh,hw⟩
  rw[hρ.eq];clear hρ;refine A6 ?_;refine A0 rfl (fun h=>?_) (fun h=>?_)
  ·have hjn:j<on:=by have:=of_decide_eq_true h;omega
   clear h;obtain⟨o,ho⟩:=B2 (l:=J5 g) (k:=j) (by omega)
   rw[W5 ho]at hsh;refine A6 ?_;refine B9 ?_;intro b16 w hw;refine B0 ?_;intro w hw;have hw:Wd Γ3 (.blk b16 (.cells (enc o).toArray 75)::.blk b14 (.cells (cG ⟨g,A,N,C⟩).toArray 77)::[DV bm2 KK,DV bm (BQ q),.blk b1 (.cells #[.slice sa sn sc,.slice ga gn gc] 25)]) w:=hw
   refine A6 ?_;refine A0 rfl (fun h=>?_) (fun h=>?_)
   ·have h:(!((G3 ((BQ q).map fun s=>(s,true)) o.Var).getD default))=true:=h
    rw[Gt]at h;have hf:BF (BQ q) o.Var=false:=by simpa using h
    refine A6 ?_;refine⟨_,rfl,Γ3,hle1.trans (hle2.trans hle3),G4 rfl ?_,V5 hw⟩
    rw[hv,hall,hsh,hf];rfl
   ·have h:(!((G3 ((BQ q).map fun s=>(s,true)) o.Var).getD default))=false:=h
    rw[Gt]at h;have hf:BF (BQ q) o.Var=true:=by simpa using h
    rw[hf,Bool.true_and]at hsh;refine A6 ?_;exact⟨on-j-1,by omega,j+1,by omega,⟨rfl,rfl,rfl,rfl,rfl,rfl,rfl,rfl,trivial⟩,hsh,hw.drop⟩
  have hjn:on≤j:=by have:=of_decide_eq_false h;omega
  clear h;rw[G8 (J5 g) (by omega)]at hsh
  have hsh:UX q g=true:=hsh
  rw[hsh,Bool.true_and]at hall;refine A6 ?_;exact⟨gn-k-1,by omega,Γ3,k+1,hle2.trans hle3,by omega,⟨rfl,rfl,rfl,rfl,rfl,trivial⟩,hall,hw.drop⟩
 have hkn:gn≤k:=by have:=of_decide_eq_false h;omega
 rw[G8 _ (by rw[hnl];omega)]at hall
 refine A6 ?_;refine⟨_,rfl,Γ2,hle1.trans hle2,G4 rfl ?_,V5 hw⟩
 rw[hv,hall];rfl
def AE:List (Nat×Int)→Int
 | []=>0
 | p::r=>if p.2≠0 then p.2 else AE r
def Vm(q:F7):List (Nat×Int):=[(101,if An q=true then 0 else 15),(102,if x5 q=true then 0 else 50),(103,if U5 q=true then 0 else 63),(104,if CO q=true then 0 else 6),(105,Re q)]
theorem QT{q:F7}:BC q=AE (Vm q):=by
 unfold BC Vm AE AE AE AE AE AE Re;cases An q <;> cases x5 q <;> cases U5 q <;> cases CO q <;> simp
theorem Mm{Γ:C8}{vs vg:Value}{gs:List N0}{q:F7}{N:Nat}(hq0:QR Γ vs vg gs q)(hok:z8 N q)(hN:N≤9223372036854775807:=by first|decide|assumption):PG Tryz.prog Γ 44 [.agg #[vs,vg]] (.int .i64 (BC q)):=Cr fun Γ w hle hw=>by
 have hq:=hq0.mono hle
 obtain⟨ga,gn,gc,rfl,-,-,-⟩:=hq.goals.shape;obtain⟨sa,sn,sc,rfl,-,-,-⟩:=hq.sel.shape;have p1:=Iv hq hok
 have p2:=Km hq hok
 have p3:=Ke hq hok
 have p4:=IW hq hok
 have p5:=Gi hq hok
 have hcl:∀(k:Nat) (p:Nat×Int),(Vm q)[k]? = some p→C7 Tryz.prog p.1∧PG Tryz.prog Γ p.1 [.agg #[.slice sa sn sc,.slice ga gn gc]] (.int .i64 p.2):=by
  intro k p hp;match k,hp with
  | 0,hp=>cases hp;exact⟨inferInstance,p1⟩
  | 1,hp=>cases hp;exact⟨inferInstance,p2⟩
  | 2,hp=>cases hp;exact⟨inferInstance,p3⟩
  | 3,hp=>cases hp;exact⟨inferInstance,p4⟩
  | 4,hp=>cases hp;exact⟨inferInstance,p5⟩
 have hlen:(Vm q).length=5:=rfl
 rw[QT];refine A7 Tryz.func44 rfl rfl ?_
 refine A6 ?_;refine H2 ?_;intro b1 w hw;have hw:Wd Γ [.blk b1 (.cells #[.slice sa sn sc,.slice ga gn gc] 25)] w:=hw
 refine A6 ?_;refine B5 ((Vm q).map fun p=>[.func (.func p.1) #[] #[]]) ?_
 intro q1 w hw;obtain⟨CK,hCK⟩:∃CK,CK=Vm q:=⟨_,rfl⟩
 rw[←hCK]at hcl hlen hw ⊢
 clear hCK;have hw:Wd Γ [.own (.slice (some q1) 5 5) 108 1 (CK.map fun p=>[.func (.func p.1) #[] #[]]),.blk b1 (.cells #[.slice sa sn sc,.slice ga gn gc] 25)] w:=hw
 refine A6 ?_;refine B3 (fun μ ρ w=>∃(k:Nat),μ+k=5∧Has ρ [(1,.pointer (some ⟨b1,0,none⟩)),(8,.slice (some q1) 5 5),(9,.int .i64 5),(10,.int .i64 k)]∧AE CK=AE (CK.drop k)∧Wd Γ [.own (.slice (some q1) 5 5) 108 1 (CK.map fun p=>[.func (.func p.1) #[] #[]]),.blk b1 (.cells #[.slice sa sn sc,.slice ga gn gc] 25)] w) 5 ⟨0,by omega,⟨rfl,rfl,rfl,rfl,trivial⟩,rfl,hw⟩ ?_
 clear hw;rintro μ ρ w ⟨k,hk,hρ,hf,hw⟩
 rw[hρ.eq];clear hρ;refine A6 ?_;refine A0 rfl (fun h=>?_) (fun h=>?_)
 ·have hk5:k<5:=by have:=of_decide_eq_true h;omega
  clear h;obtain⟨p,hp⟩:=B2 (l:=CK) (k:=k) (by omega)
  obtain⟨hfn,hpg⟩:=hcl k p hp
  rw[Q9 hp]at hf;refine A6 ?_;refine EF (fst:=[]) (cap:=[]) (vs:=[.agg #[.slice sa sn sc,.slice ga gn gc]]) ?_
  refine(hpg.h _ _ hw).mono ?_
  clear hw;rintro e w ⟨rfl,hw⟩
  refine⟨_,rfl,?_⟩;refine A6 ?_;refine A0 rfl (fun h=>?_) (fun h=>?_)
  ·have h:p.2≠0:=of_decide_eq_true h
   refine A6 ?_;refine⟨_,rfl,Γ,C8.le.refl _,G4 rfl ?_,V5 hw⟩
   rw[hf,AE,if_pos h]
  ·have h:¬p.2≠0:=of_decide_eq_false h
   rw[AE,if_neg h]at hf;refine A6 ?_;exact⟨μ-1,by omega,k+1,by omega,⟨rfl,rfl,rfl,rfl,trivial⟩,hf,hw⟩
 have hk5:5≤k:=by have:=of_decide_eq_false h;omega
 rw[G8 CK (by omega)]at hf
 refine A6 ?_;exact⟨_,rfl,Γ,C8.le.refl _,G4 rfl hf.symm,V5 hw⟩
end Go.Proofs.YtlmiakjbogojgaaGreatDoor
end
section
open Go Mk
namespace Go.Proofs.YtlmiakjbogojgaaGreatDoor
def Ng:Go.Shelf.Ren:=⟨fun|6=>80|15=>133|14=>151|28=>201|29=>202|20=>229|21=>230|22=>231|23=>232|24=>233|25=>234|26=>235|27=>236|46=>283|47=>267|48=>268|49=>284|50=>285|57=>301|n=>n,fun|22=>67|24=>70|25=>165|3=>3|39=>129|0=>0|53=>260|55=>56|4=>4|46=>253|45=>252|50=>257|5=>5|9=>9|66=>306|70=>310|76=>330|77=>213|n=>n,fun|n=>n⟩
theorem Zj:Go.Proofs.SlLaysF.n6 Tryz.prog Ng:={
 mixed:=by kernel_rfl
 f6:=⟨Tryz.f80.name,by decide,Tryz.func80.trans (congrArg some (by kernel_rfl))⟩
 f14:=⟨Tryz.f151.name,by decide,Tryz.func151.trans (congrArg some (by kernel_rfl))⟩
 f15:=Tryz.func133.trans (congrArg some (by kernel_rfl))
 f20:=⟨Tryz.f229.name,by decide,Tryz.func229.trans (congrArg some (by kernel_rfl))⟩
 f21:=⟨Tryz.f230.name,by decide,Tryz.func230.trans (congrArg some (by kernel_rfl))⟩
 f22:=⟨Tryz.f231.name,by decide,Tryz.func231.trans (congrArg some (by kernel_rfl))⟩
 f23:=⟨Tryz.f232.name,by decide,Tryz.func232.trans (congrArg some (by kernel_rfl))⟩
 f24:=⟨Tryz.f233.name,by decide,Tryz.func233.trans (congrArg some (by kernel_rfl))⟩
 f25:=⟨Tryz.f234.name,by decide,Tryz.func234.trans (congrArg some (by kernel_rfl))⟩
 f26:=⟨Tryz.f235.name,by decide,Tryz.func235.trans (congrArg some (by kernel_rfl))⟩
 f27:=⟨Tryz.f236.name,by decide,Tryz.func236.trans (congrArg some (by kernel_rfl))⟩
 f28:=Tryz.func201.trans (congrArg some (by kernel_rfl))
 f29:=Tryz.func202.trans (congrArg some (by kernel_rfl))
 f46:=⟨Tryz.f283.name,by decide,Tryz.func283.trans (congrArg some (by kernel_rfl))⟩
 f47:=Tryz.func267.trans (congrArg some (by kernel_rfl))
 f48:=Tryz.func268.trans (congrArg some (by kernel_rfl))
 f49:=⟨Tryz.f284.name,by decide,Tryz.func284.trans (congrArg some (by kernel_rfl))⟩
 f50:=⟨Tryz.f285.name,by decide,Tryz.func285.trans (congrArg some (by kernel_rfl))⟩
 f57:=⟨Tryz.f301.name,by decide,Tryz.func301.trans (congrArg some (by kernel_rfl))⟩
 t0:=Tryz.underlying0
 a0:=Tryz.isAgg0
 z0:=Tryz.sizeOf0
 v0:=Tryz.zeroValue0
 t3:=Tryz.underlying3
 a3:=Tryz.isAgg3
 z3:=Tryz.sizeOf3
 v3:=Tryz.zeroValue3
 t4:=Tryz.underlying4
 a4:=Tryz.isAgg4
 z4:=Tryz.sizeOf4
 v4:=Tryz.zeroValue4
 t5:=Tryz.underlying5
 a5:=Tryz.isAgg5
 z5:=Tryz.sizeOf5
 v5:=Tryz.zeroValue5
 t9:=Tryz.underlying9
 a9:=Tryz.isAgg9
 z9:=Tryz.sizeOf9
 v9:=Tryz.zeroValue9
 t22:=Tryz.underlying67
 a22:=Tryz.isAgg67
 z22:=Tryz.sizeOf67
 v22:=Tryz.zeroValue67
 a24:=Tryz.isAgg70
 z24:=Tryz.sizeOf70
 t25:=Tryz.underlying165
 a25:=Tryz.isAgg165
 z25:=Tryz.sizeOf165
 v25:=Tryz.zeroValue165
 t39:=Tryz.underlying129
 a39:=Tryz.isAgg129
 z39:=Tryz.sizeOf129
 v39:=Tryz.zeroValue129
 t45:=Tryz.underlying252
 a45:=Tryz.isAgg252
 z45:=Tryz.sizeOf252
 v45:=Tryz.zeroValue252
 t46:=Tryz.underlying253
 a46:=Tryz.isAgg253
 z46:=Tryz.sizeOf253
 v46:=Tryz.zeroValue253
 t50:=Tryz.underlying257
 a50:=Tryz.isAgg257
 z50:=Tryz.sizeOf257
 v50:=Tryz.zeroValue257
 t53:=Tryz.underlying260
 a53:=Tryz.isAgg260
 z53:=Tryz.sizeOf260
 v53:=Tryz.zeroValue260
 t55:=Tryz.underlying56
 a55:=Tryz.isAgg56
 z55:=Tryz.sizeOf56
 v55:=Tryz.zeroValue56
 t66:=Tryz.underlying306
 a66:=Tryz.isAgg306
 z66:=Tryz.sizeOf306
 v66:=Tryz.zeroValue306
 t70:=Tryz.underlying310
 a70:=Tryz.isAgg310
 z70:=Tryz.sizeOf310
 v70:=Tryz.zeroValue310
 t76:=Tryz.underlying330
 a76:=Tryz.isAgg330
 z76:=Tryz.sizeOf330
 v76:=Tryz.zeroValue330
 t77:=Tryz.underlying213
 a77:=Tryz.isAgg213
 z77:=Tryz.sizeOf213
 v77:=Tryz.zeroValue213 }
end Go.Proofs.YtlmiakjbogojgaaGreatDoor
end
section
open Go Mk
namespace Go.Proofs.YtlmiakjbogojgaaGreatDoor
set_option maxHeartbeats 16000000
attribute [local irreducible] Calls cI cB
abbrev g8:=Value×List Val
def cR(p:g8):List Value:=[p.1]
def QO(Γ:C8)(p:g8):Prop:=D7 Γ p.1 3 (p.2.map enc)
def Vu(x y:g8):Bool:=decide (cL cV x.2 y.2=0)
theorem QO.one{Γ:C8}{p:g8}(h:QO Γ p):p.1.oneCell'=true:=by
 obtain⟨a,n,c,h1,-⟩:=D7.shape h
 rw[h1];rfl
theorem Me{Γ:C8}{S:List B6}{w:World}{v:Value}(fs:List g8)(hok:∀f∈fs,QO Γ f)(hl:fs.length≤1000000)(hw:Wd Γ (.own v 70 1 (fs.map cR)::S) w) :
  Calls Tryz.prog 83 #[v,.func (.func 82) #[] #[]] w fun e w'=>∃v',e=.returned v'∧Wd Γ (.own v' 70 1 ((s8 Vu fs).map cR)::S) w':=by
 obtain⟨a,n,c,rfl,hn,hnc,hc⟩:=hw.own_shape (i:=0) rfl
 simp only[List.length_map]at hn
 refine A7 Tryz.func83 rfl rfl ?_
 refine A6 ?_;refine A0 rfl (fun h=>?_) (fun h=>?_)
 ·have h:n<2:=by have:=of_decide_eq_true h;omega
  refine A6 ?_;have hE:s8 Vu fs=fs:=by
   cases fs with
   | nil=>rfl
   | cons x fs=>
    cases fs with
    | nil=>rfl
    | cons y fs=>simp at hn;omega
  rw[hE];exact⟨_,rfl,_,rfl,hw⟩
 have h:2≤n:=by have:=of_decide_eq_false h;omega
 refine A6 ?_;refine B3 (fun μ ρ w=>∃(k:Nat),μ+k=n∧1≤k∧Has ρ [(0,.slice a n c),(1,.func (.func 82) #[] #[]),(5,.int .i64 k)]∧s8 Vu (fs.take k)=fs.take k∧Wd Γ (.own (.slice a n c) 70 1 (fs.map cR)::S) w) (n-1) ⟨1,by omega,by omega,⟨rfl,rfl,rfl,trivial⟩,?_,hw⟩ ?_
 ·cases fs with
  | nil=>rfl
  | cons x fs=>rfl
 clear hw;rintro μ ρ w ⟨k,hk,hk1,hρ,ho,hw⟩
 rw[hρ.eq];refine A6 ?_;refine A0 rfl (fun h=>?_) (fun h=>?_)
 ·have hkn:k<n:=by have:=of_decide_eq_true h;omega
  obtain⟨y,hy⟩:=B2 (l:=fs) (k:=k) (by omega)
  obtain⟨x,hx0⟩:=B2 (l:=fs) (k:=k-1) (by omega)
  have hx:fs[((k:Int)-1).toNat]? = some x:=by rw[show ((k:Int)-1).toNat=k-1 from by omega];exact hx0
  have hfy:=hok y (List.mem_of_getElem? hy)
  have hfx:=hok x (List.mem_of_getElem? hx0)
  have hsucc:=DI (p:=Vu) (by omega) hy hx0
  refine A6 ?_;refine G9 (by kernel_rfl) (by kernel_rfl) hw ?_
  iterate 10 (first|refine Bs ?_|(apply U3;first|(apply i9;first|refine qP ?_|refine Vs ?_)|refine qY ?_)|(apply M9;first|(apply i9;first|refine Vr ?_|refine IY ?_)|refine qG ?_))
  refine cJ (v:=.bool (Vu y x)) (cap:=[]) (vs:=[y.1,x.1]) (fun Y w hw=>?_) ?_
  ·exact(KQ hfy hfx).h _ _ hw
  refine X3 ?_;intro w hw;refine A0 rfl (fun h2=>?_) (fun h2=>?_)
  ·rw[if_pos h2]at hsucc;refine A6 ?_;refine B3 (fun μ ρ w=>∃(m q:Nat) (cur:List g8),μ+(k+m)=n∧1≤m∧1≤q∧q<k+m∧Has ρ [(0,.slice a n c),(1,.func (.func 82) #[] #[]),(5,.int .i64 q),(6,.slice (Bc a k c 1) (n-k) (c-k)),(7,.int .i64 m)]∧cur.length=n∧cur.take q=s8 Vu (fs.take (k+m))∧(∀i,k+m-1≤i→cur[i]? = fs[i]?)∧Wd Γ (.own (.slice a n c) 70 1 (cur.map cR)::S) w) (n-(k+1)) ⟨1,k,fs,by omega,by omega,by omega,by omega,⟨rfl,rfl,rfl,rfl,rfl,trivial⟩,hn.symm,by rw[hsucc,ho],fun i _=>rfl,hw⟩ ?_
   clear hw hρ hsucc;rintro μ2 ρ w ⟨m,q,cur,hm,hm1,hq1,hq2,hρ,hcl,hcur,hsame,hw⟩
   rw[hρ.eq];refine A6 ?_;refine A0 rfl (fun h3=>?_) (fun h3=>?_)
   ·have hmn:k+m<n:=by have:=of_decide_eq_true h3;omega
    obtain⟨y2,hy2⟩:=B2 (l:=fs) (k:=k+m) (by omega)
    obtain⟨x2,hx2⟩:=B2 (l:=fs) (k:=k+m-1) (by omega)
    have hcy:(cur.drop k)[m]? = some y2:=by rw[List.getElem?_drop,hsame _ (by omega)];exact hy2
    have hcx:(cur.drop k)[((m:Int)-1).toNat]? = some x2:=by
     rw[List.getElem?_drop,hsame _ (by omega),show k+((m:Int)-1).toNat=k+m-1 from by omega];exact hx2
    have hfy2:=hok y2 (List.mem_of_getElem? hy2)
    have hfx2:=hok x2 (List.mem_of_getElem? hx2)
    have hsucc:=DI (p:=Vu) (by omega) hy2 hx2
    have hlen:n-k=((cur.drop k).map cR).length:=by simp[hcl]
    have hR2:P4 Γ (.own (.slice a n c) 70 1 (cur.map cR)::S) (.slice (Bc a k c 1) (n-k) (c-k)) 1 ((cur.drop k).map cR):=⟨_,_,_,rfl,hlen,by omega,by omega,fun w hw=>by
     have:=(Wd.own_rd (i:=0) hw rfl).cut (c:=c) (by simp;omega) k (by simp;omega)
     rwa [←List.map_drop]at this⟩
    refine A6 ?_;refine G9 (by kernel_rfl) (by kernel_rfl) hw ?_
    iterate 10 (first|refine Bs ?_|(apply U3;first|(apply i9;first|refine qP ?_|refine Vs ?_)|refine qY ?_)|(apply M9;first|(apply i9;first|refine Vr ?_|refine IY ?_)|refine qG ?_))
    refine cJ (v:=.bool (Vu y2 x2)) (cap:=[]) (vs:=[y2.1,x2.1]) (fun Y w hw=>?_) ?_
    ·exact(KQ hfy2 hfx2).h _ _ hw
    refine X3 ?_;intro w hw;refine A0 rfl (fun h4=>?_) (fun h4=>?_)
    ·have h4:Vu y2 x2=false:=by simpa using h4
     rw[if_neg (by rw[h4];decide)]at hsucc
     refine A6 ?_;have hcells:y2.1.cells.toList=[y2.1]:=by
      obtain⟨ya,yn,yc,hys,-⟩:=D7.shape hfy2
      rw[hys];rfl
     refine DJ (k:=q) (r:=[y2.1]) ?_ (hv:=hcells) (hl:=rfl) (h1:=by rw[List.all_cons,QO.one hfy2];rfl)
     intro w hw;have hw:Wd Γ (.own (.slice a n c) 70 1 ((cur.map cR).set q (cR y2))::S) w:=hw
     rw[←List.map_set]at hw;refine A6 ?_;refine⟨n-(k+(m+1)),by omega,m+1,q+1,cur.set q y2,by omega,by omega,by omega,by omega,⟨rfl,rfl,rfl,rfl,rfl,trivial⟩,by rw[List.length_set];exact hcl,?_,fun i hi=>?_,hw⟩
     ·rw[show k+(m+1)=k+m+1 from rfl,hsucc,←hcur,List.take_add_one,List.take_set_of_le (by omega),List.getElem?_set_self (by omega)];rfl
     ·rw[List.getElem?_set_ne (by omega)];exact hsame i (by omega)
    ·have h4:Vu y2 x2=true:=by simpa using h4
     rw[if_pos h4]at hsucc;refine A6 ?_;exact⟨n-(k+(m+1)),by omega,m+1,q,cur,by omega,by omega,by omega,by omega,⟨rfl,rfl,rfl,rfl,rfl,trivial⟩,hcl,by rw[show k+(m+1)=k+m+1 from rfl,hsucc];exact hcur,fun i hi=>hsame i (by omega),hw⟩
   ·have hmn:k+m=n:=by have:=of_decide_eq_false h3;omega
    have hfn:fs.take n=fs:=List.take_of_length_le (by omega)
    rw[hmn,hfn]at hcur;have hqn:q≤n:=by omega
    have hw:=Wd.own_take (i:=0) (m:=q) hw rfl hqn
    rw[←List.map_take,hcur]at hw;have hw:Wd Γ (.own (.slice a q c) 70 1 ((s8 Vu fs).map cR)::S) w:=hw
    refine A6 ?_;refine Vw ?_;intro w hw;refine A6 ?_;exact⟨_,rfl,_,rfl,hw⟩
  ·rw[if_neg (by rw[h2];decide)]at hsucc
   refine A6 ?_;refine⟨μ-1,by omega,k+1,by omega,by omega,⟨rfl,rfl,rfl,trivial⟩,?_,hw⟩
   rw[hsucc,ho,List.take_add_one,hy];rfl
 ·have hkn:¬k<n:=by have:=of_decide_eq_false h;omega
  rw[List.take_of_length_le (by omega)]at ho
  refine A6 ?_;rw[ho];exact⟨_,rfl,_,rfl,hw⟩
theorem UU{Γ:C8}{S:List B6}{w:World}(fs:List g8)(v:Value)(hok:∀f∈fs,QO Γ f)(hl:fs.length≤1000000)(hw:Wd Γ (.own v 70 1 (fs.map cR)::S) w) :
  Calls Tryz.prog 80 #[v,.func (.func 81) #[] #[]] w fun e w'=>e=.returned (.tuple #[])∧∃gs:List g8,gs.Perm fs∧(gs.Pairwise fun a b=>Go.Proofs.ltOf (fun a b:g8=>cL cV a.2 b.2) b a=false)∧Wd Γ (.own v 70 1 (gs.map cR)::S) w':=by
 have hxs:(fs.attachWith (QO Γ) hok).map Subtype.val=fs:=List.attachWith_map_subtype_val _
 have hrows:((fs.attachWith (QO Γ) hok).map fun a=>[a.1.1])=fs.map cR:=by
  conv=>rhs;rw[←hxs]
  rw[List.map_map];rfl
 rw[←hrows]at hw;haveI:Inhabited {f:g8 // QO Γ f}:=⟨⟨(.slice none 0 0,[]),D7.nil⟩⟩
 have:=Se (α:={f:g8 // QO Γ f}) (f:=fun a=>a.1.1) Zj (fun a=>QO.one a.2) (fun a b=>cL cV a.1.2 b.1.2) 81 [] (fs.attachWith (QO Γ) hok) v hw (i:=0) rfl
  (MM He.list fun a:{f:g8 // QO Γ f}=>a.1.2) (by simp;omega) (fun dk w' hw' x y=>by
   have h1:∀b o,Γ.imm b=some o→(Ai w').imm b=some o:=fun b o hb=>hw'.imm b o hb
   have h2:=Sn (Γ:=Ai w') (D7.imm x.2 h1) (D7.imm y.2 h1)
   refine(h2.h [] w' (Ec w')).mono ?_
   rintro e w'' ⟨he,hw''⟩
   exact⟨he,[],hw''⟩)
 refine this.mono ?_
 rintro e w' ⟨he,ys,hp,hs,hw'⟩
 refine⟨he,ys.map Subtype.val,?_,?_,?_⟩
 ·have:=hp.map Subtype.val
  rwa [hxs]at this
 ·rw[List.pairwise_map];exact hs
 ·rw[List.map_map];exact hw'
end Go.Proofs.YtlmiakjbogojgaaGreatDoor
end
section
open Go Mk
namespace Go.Proofs.YtlmiakjbogojgaaGreatDoor
set_option maxHeartbeats 16000000
attribute [local irreducible] Calls cI cB
structure RW(Γ:C8)(v:Value)(L:List g8):Prop where
 rep:D7 Γ v 1 (L.map cR)
 ok:∀p∈L,QO Γ p
theorem RW.nil{Γ:C8}:RW Γ (.slice none 0 0) []:=⟨D7.nil,fun p h=>(by cases h)⟩
def rowsOf(L:List g8):List (List Val):=L.map (·.2)
theorem OX:∀ {L:List (Value×List (List Value))} {rs:List (List Val)},L.map (·.2)=(rs.map fun r=>r.map enc)→∃M:List g8,M.map cR=(L.map fun x=>[x.1])∧rowsOf M=rs∧∀p∈M,∃x∈L,x.1=p.1∧x.2=p.2.map enc
 | [],[],_=>⟨[],rfl,rfl,fun p h=>(by cases h)⟩
 | [],_::_,h=>by simp at h
 | _::_,[],h=>by simp at h
 | x::L,r::rs,h=>by
  simp only[List.map_cons,List.cons.injEq]at h
  obtain⟨M,h1,h2,h3⟩:=OX (L:=L) (rs:=rs) h.2
  refine⟨(x.1,r)::M,by rw[List.map_cons,List.map_cons,h1];rfl,by unfold rowsOf at *;rw[List.map_cons,h2],fun p hp=>?_⟩
  rcases List.mem_cons.1 hp with rfl|hp
  ·exact⟨x,by simp,rfl,h.1⟩
  ·obtain⟨y,hy,h4⟩:=h3 p hp
   exact⟨y,by simp[hy],h4⟩
theorem Rn{db:List F3}{g:H3}(h:g.Kind=4→g.Low≤g.High):1≤S8 db g:=by
 unfold S8;split
 ·exact Nat.le_max_right ..
 split
 ·rename_i h4
  have:=h h4
  omega
 ·exact Nat.le_refl _
theorem Sf{db:List F3}{l:List H3}{k:Nat}{g:H3}(h:l[k]? = some g):Q0 db (l.take (k+1))=Q0 db (l.take k)*S8 db g:=by
 unfold Q0;rw[List.take_add_one,h,List.foldl_append];rfl
theorem Qb{db:List F3}{l:List H3}(h:∀g∈l,g.Kind=4→g.Low≤g.High)(k:Nat):Q0 db (l.take k)≤Q0 db l:=by
 have key:∀(r:List H3) (n:Nat),(∀g∈r,g.Kind=4→g.Low≤g.High)→n≤r.foldl (fun n g=>n*S8 db g) n:=by
  intro r;induction r with
  | nil=>intro n _;exact Nat.le_refl _
  | cons g r ih=>
   intro n hr;rw[List.foldl_cons];refine Nat.le_trans ?_ (ih _ fun g hg=>hr g (by simp[hg]))
   exact Nat.le_mul_of_pos_right n (Rn (hr g (by simp)))
 have e:Q0 db l=(l.drop k).foldl (fun n g=>n*S8 db g) (Q0 db (l.take k)):=by
  unfold Q0;rw[←List.foldl_append,List.take_append_drop]
 rw[e];exact key _ _ fun g hg=>h g (List.mem_of_mem_drop hg)
theorem Xc{g:H3}(h:Cz g=true)(h4:g.Kind=4):g.Low≤g.High∧g.High-g.Low≤1000000:=by
 unfold Cz at h;rw[if_neg (by omega),if_pos h4]at h
 simpa using h
theorem Nf{q:F7}(h:BC q=0):∀g∈q.Goals,g.Kind=4→g.Low≤g.High∧g.High-g.Low≤1000000:=by
 intro g hg h4;refine Xc ?_ h4
 have hn:CO q=true:=by
  cases hq:CO q with
  | true=>rfl
  | false=>
   unfold BC at h;rw[hq]at h;split at h
   ·cases h
   split at h
   ·cases h
   split at h
   ·cases h
   simp at h
 exact List.all_eq_true.1 hn g hg
theorem ZQ{l:List F3}{r:ByteArray}{m:Int}:(RA l r m).length≤l.length:=by
 unfold RA;exact Nat.le_trans (List.length_filter_le ..) Ah
theorem YC{db:List F3}{g:H3}:(U7 db g).length≤db.length:=by
 unfold U7;split
 ·exact ZQ
 ·exact Nat.zero_le _
theorem z8.small{N:Nat}{q:F7}(h:z8 N q)(hv:BC q=0):Ek q:=by
 unfold BC at hv;split at hv
 ·cases hv
 rename_i h1
 split at hv
 ·cases hv
 rename_i h2
 simp only[Bool.not_eq_false]at h1 h2
 unfold An at h1;simp only[Bool.and_eq_true,decide_eq_true_eq]at h1
 refine⟨h.sel,h.names,h.len,fun g hg=>?_⟩
 have ho:=h.goals g hg
 have hl:g.Args.length≤1000:=by
  by_cases ha:H8 g=true
  ·have:=List.all_eq_true.1 h1.1.2 g hg
   rw[ha]at this;simp only[Bool.not_true,Bool.false_or,Bool.and_eq_true,decide_eq_true_eq]at this
   omega
  have hs:=List.all_eq_true.1 h2 g hg
  rw[Bool.and_eq_true]at hs;have hs:=hs.1
  unfold O7 at hs;unfold H8 at ha;simp only[Bool.or_eq_true,decide_eq_true_eq]at ha
  rw[if_neg ha]at hs;split at hs
  ·simp only[Bool.and_eq_true,decide_eq_true_eq]at hs;omega
  split at hs
  ·simp only[Bool.and_eq_true,decide_eq_true_eq]at hs;omega
  ·cases hs
 exact⟨ho.rel,hl,ho.args,ho.l,ho.r,ho.off,ho.low,ho.high⟩
theorem VB{N:Nat}{Γ:C8}{S:List B6}{w:World}{va vs vg:Value}{fs:List D1}{gs:List N0}{q:F7}(hF:RL Γ va fs)(hl:fs.length≤50000)(hq:QR Γ vs vg gs q)(hok:z8 N q)(hw:Wd Γ S w)(hN:N≤9223372036854775807:=by first|decide|assumption) :
  Calls Tryz.prog 27 #[va,.agg #[vs,vg]] w fun e w'=>∃(Γ':C8) (v:Value) (L:List g8),Γ.le Γ'∧e=.returned (.tuple #[v,.int .i64 (T0 (facts fs) q)])∧RW Γ' v L∧rowsOf L=U1 (facts fs) q∧Wd Γ' S w':=by
 obtain⟨ga,gn,gc,rfl,hgn,hgnc,hgc⟩:=hq.goals.shape;obtain⟨sa,sn,sc,rfl,hsn,hsnc,hsc⟩:=hq.sel.shape;obtain⟨fa,fc,rfl,hfc1,hfc2⟩:=hF.len;simp only[List.length_map]at hgn hsn
 have hgl:=hq.glen hok
 have hnl:=hq.nlen
 have p1:=Mm hq hok
 obtain⟨db,hdb⟩:∃db,db=facts fs:=⟨_,rfl⟩
 have hdl:db.length≤50000:=by rw[hdb];unfold facts;rw[List.length_map];exact hl
 rw[←hdb];refine A7 Tryz.func27 rfl rfl ?_
 refine A6 ?_;refine H2 ?_;intro b3 w hw;have hw:Wd Γ (.blk b3 (.cells #[.slice sa sn sc,.slice ga gn gc] 25)::S) w:=hw
 repeat first|refine E6 ?_|refine E7 ?_;intro w hw
 refine A0 rfl (fun h=>?_) (fun h=>?_)
 ·have h:BC q≠0:=of_decide_eq_true h
  have he:T0 db q=BC q:=by unfold T0;rw[if_pos h]
  refine A6 ?_;refine⟨_,rfl,Γ,.slice none 0 0,[],C8.le.refl _,?_,RW.nil,?_,hw.drop⟩
  ·rw[he];rfl
  ·unfold U1;rw[he,if_neg h];rfl
 have hv:BC q=0:=by
  have:=of_decide_eq_false h
  simpa using this
 have hok:Ek q:=hok.small hv
 have hR:=Nf hv
 have hRl:∀g∈q.Goals,g.Kind=4→g.Low≤g.High:=fun g hg h4=>(hR g hg h4).1
 have hse:T0 db q=if 1000000<Q0 db q.Goals then 15 else 0:=by
  unfold T0;rw[if_neg (fun e=>e hv)]
 clear h p1;refine A6 ?_;refine H5 rfl rfl (X8 (K:=9) (α:=ByteArray) (f:=fP) hw fun bm w hw=>?_)
 have hw:Wd Γ (E3 bm []::.blk b3 (.cells #[.slice sa sn sc,.slice ga gn gc] 25)::S) w:=hw
 refine A6 ?_;refine H2 ?_;intro b7 w hw;have hw:=Wd.addNil (a:=none) (E:=60) (sz:=1) hw
 have hw:Wd Γ (.own (.slice none 0 0) 60 1 (([]:List (Value×List D1)).map fun t=>[t.1])::.blk b7 (F6 (.slice sa sn sc) (.slice ga gn gc) (.slice none 0 0) (.slice none 0 0) bm)::E3 bm []::.blk b3 (.cells #[.slice sa sn sc,.slice ga gn gc] 25)::S) w:=hw
 have hw:Wd Γ (.own (.slice none 0 0) 60 1 (([]:List (Value×List D1)).map fun t=>[t.1])::.blk b3 (.cells #[.slice sa sn sc,.slice ga gn gc] 25)::.blk b7 (F6 (.slice sa sn sc) (.slice ga gn gc) (.slice none 0 0) (.slice none 0 0) bm)::E3 bm []::S) w:=hw.perm T1
 refine A6 ?_;refine B3 (fun μ ρ w=>∃(Γ':C8) (k:Nat) (ts:List (Value×List D1)) (ta:Option Addr) (tn tc:Nat),Γ.le Γ'∧μ+k=gn∧Has ρ [(0,.slice fa fs.length fc),(3,.pointer (some ⟨b3,0,none⟩)),(7,.pointer (some ⟨b7,0,none⟩)),(8,.int .u64 (Q0 db (q.Goals.take k))),(23,.slice ga gn gc),(24,.int .i64 gn),(25,.int .i64 k)]∧ts.length=k∧(∀t∈ts,RL Γ' t.1 t.2)∧(∀(i:Nat) x t,gs[i]? = some x→ts[i]? = some t→facts t.2=U7 db x.g)∧Q0 db (q.Goals.take k)≤1000000∧Wd Γ' (.own (.slice ta tn tc) 60 1 (ts.map fun t=>[t.1])::.blk b3 (.cells #[.slice sa sn sc,.slice ga gn gc] 25)::.blk b7 (F6 (.slice sa sn sc) (.slice ga gn gc) (.slice ta tn tc) (.slice none 0 0) bm)::E3 bm []::S) w) gn ⟨Γ,0,[],none,0,0,C8.le.refl _,by omega,⟨rfl,rfl,rfl,rfl,rfl,rfl,rfl,trivial⟩,rfl,(fun t h=>(by cases h)),(fun i x t _ h=>(by simp at h)),(by show 1≤1000000;decide),hw⟩ ?_
 clear hw;rintro μ ρ w ⟨Γ1,k,ts,ta,tn,tc,hle1,hk,hρ,htl,hrl,heq,hwk,hw⟩
 rw[hρ.eq];clear hρ;have hq1:=hq.mono hle1
 have hrG1:=hq1.goals
 refine A6 ?_;refine A0 rfl (fun h=>?_) (fun h=>?_)
 ·have hkn:k<gn:=by have:=of_decide_eq_true h;omega
  clear h;obtain⟨x,hx⟩:=B2 (l:=gs) (k:=k) (by omega)
  have hxm:=List.mem_of_getElem? hx
  have hgoal:=hq.goal hok hxm
  have hgok:=hq1.ok x hxm
  have hgx:=hq.get hx
  have hws:=Sf (db:=db) hgx
  have hwm:=Qb (db:=db) hRl (k+1)
  have hRx:=hR x.g (List.mem_of_getElem? hgx)
  obtain⟨l1,l2,l3⟩:=hgok.len;obtain⟨g,A,N,C⟩:=x;simp only at hgoal l1 l2 l3 hgx hws hRx
  have hal:=hgoal.len
  refine A6 ?_;refine B9 ?_;intro b10 w hw;refine A6 ?_;refine B0 ?_;intro w hw;have hw:Wd Γ1 (.blk b10 (.cells (cG ⟨g,A,N,C⟩).toArray 77)::.own (.slice ta tn tc) 60 1 (ts.map fun t=>[t.1])::.blk b3 (.cells #[.slice sa sn sc,.slice ga gn gc] 25)::.blk b7 (F6 (.slice sa sn sc) (.slice ga gn gc) (.slice ta tn tc) (.slice none 0 0) bm)::E3 bm []::S) w:=hw
  repeat first|refine E6 ?_|refine E7 ?_;intro w hw
  refine JA (fun ρ w=>∃(Γ':C8) (a:Option Addr) (c:Nat) (fs':List D1),Γ1.le Γ'∧RL Γ' (.slice a fs'.length c) fs'∧facts fs'=U7 db g∧Has ρ [(0,.slice fa fs.length fc),(3,.pointer (some ⟨b3,0,none⟩)),(7,.pointer (some ⟨b7,0,none⟩)),(8,.int .u64 (Q0 db (q.Goals.take k))),(10,.pointer (some ⟨b10,0,none⟩)),(11,.slice a fs'.length c),(23,.slice ga gn gc),(24,.int .i64 gn),(25,.int .i64 k)]∧Wd Γ' (.blk b10 (.cells (cG ⟨g,A,N,C⟩).toArray 77)::.own (.slice ta tn tc) 60 1 (ts.map fun t=>[t.1])::.blk b3 (.cells #[.slice sa sn sc,.slice ga gn gc] 25)::.blk b7 (F6 (.slice sa sn sc) (.slice ga gn gc) (.slice ta tn tc) (.slice none 0 0) bm)::E3 bm []::S) w) ?_ ?_
  ·refine A0 rfl (fun h=>?_) (fun h=>?_)
   ·have hat:g.Kind=1∨g.Kind=2:=by
     have h:H8 g=true:=h
     unfold H8 at h;simpa using h
    have ht:U7 db g=RA db g.Rel N:=by unfold U7;rw[if_pos hat,l1]
    have hF1:=hF.mono hle1
    refine A6 ?_;refine C9 (vs:=[.slice fa fs.length fc,.string g.Rel,.int .i64 N]) ((Rm (r:=g.Rel) (m:=N) fs hF1.ok hl hF1.rep hw).mono fun e w hq2=>?_)
    clear hw;obtain⟨v',fs',rfl,hfs,hfo,hw⟩:=hq2;have hwf:=TG hfo hw
    clear hw;obtain⟨Γ2,hle2,hrl2,hw⟩:=hwf;obtain⟨a,c,rfl,hc1,hc2⟩:=hrl2.len;refine⟨_,rfl,?_⟩;refine A6 ?_;exact⟨Γ2,a,c,fs',hle2,hrl2,by rw[hfs,ht,hdb],⟨rfl,rfl,rfl,rfl,rfl,rfl,rfl,rfl,rfl,trivial⟩,hw⟩
   ·have hat:¬(g.Kind=1∨g.Kind=2):=by
     have h:H8 g=false:=h
     unfold H8 at h;simpa using h
    have ht:U7 db g=[]:=by unfold U7;rw[if_neg hat]
    refine A6 ?_;exact⟨Γ1,none,0,[],C8.le.refl _,RL.nil,by rw[ht];rfl,⟨rfl,rfl,rfl,rfl,rfl,rfl,rfl,rfl,rfl,trivial⟩,hw⟩
  clear hw;rintro ρ w ⟨Γ2,a,c,fs',hle2,hrl2,hft,hρ,hw⟩
  rw[hρ.eq];clear hρ;obtain⟨-,-,-,hc1,hc2⟩:=hrl2.len;have hfl:fs'.length=(U7 db g).length:=by rw[←hft];unfold facts;rw[List.length_map]
  have htb:=YC (db:=db) (g:=g)
  have hw:Wd Γ2 (.own (.slice ta tn tc) 60 1 (ts.map fun t=>[t.1])::.blk b7 (F6 (.slice sa sn sc) (.slice ga gn gc) (.slice ta tn tc) (.slice none 0 0) bm)::.blk b3 (.cells #[.slice sa sn sc,.slice ga gn gc] 25)::E3 bm []::.blk b10 (.cells (cG ⟨g,A,N,C⟩).toArray 77)::S) w:=hw.perm T1
  obtain⟨ta',tn',tc',hts,htn,htnc,htc⟩:=hw.own_shape (i:=0) rfl
  cases hts
  simp only[List.length_map]at htn
  refine A6 ?_;refine B5 [[.slice a fs'.length c]] ?_
  intro q2 w hw;refine T3 (i:=1) (rows2:=[[.slice a fs'.length c]]) ?_ (Wd.own_rd (i:=0) hw rfl)
  intro vt' w hw;obtain⟨tb,tm,td,rfl,-,-,-⟩:=hw.own_shape (i:=1) rfl
  refine A6 ?_;refine B0 (i:=2) ?_
  intro w hw;have hw:Wd Γ2 (.own (.slice (some q2) 1 1) 60 1 [[.slice a fs'.length c]]::.own (.slice tb tm td) 60 1 (ts.map (fun t=>[t.1])++[[.slice a fs'.length c]])::.blk b7 (F6 (.slice sa sn sc) (.slice ga gn gc) (.slice tb tm td) (.slice none 0 0) bm)::.blk b3 (.cells #[.slice sa sn sc,.slice ga gn gc] 25)::E3 bm []::.blk b10 (.cells (cG ⟨g,A,N,C⟩).toArray 77)::S) w:=hw
  rw[show ts.map (fun t=>[t.1])++[[Value.slice a fs'.length c]]=(ts++[(Value.slice a fs'.length c,fs')]).map (fun t=>[t.1]) from by rw[List.map_append];rfl]at hw
  have hw:Wd Γ2 (.blk b10 (.cells (cG ⟨g,A,N,C⟩).toArray 77)::.own (.slice tb tm td) 60 1 ((ts++[(Value.slice a fs'.length c,fs')]).map (fun t=>[t.1]))::.blk b3 (.cells #[.slice sa sn sc,.slice ga gn gc] 25)::.blk b7 (F6 (.slice sa sn sc) (.slice ga gn gc) (.slice tb tm td) (.slice none 0 0) bm)::E3 bm []::S) w:=(hw.dropAt 0).perm T1
  first|refine E6 ?_|(refine E7 ?_;intro w hw)
  refine BK (fun ρ w=>Has ρ [(0,.slice fa fs.length fc),(3,.pointer (some ⟨b3,0,none⟩)),(7,.pointer (some ⟨b7,0,none⟩)),(8,.int .u64 (Q0 db (q.Goals.take (k+1)))),(23,.slice ga gn gc),(24,.int .i64 gn),(25,.int .i64 k)]∧Wd Γ2 (.blk b10 (.cells (cG ⟨g,A,N,C⟩).toArray 77)::.own (.slice tb tm td) 60 1 ((ts++[(Value.slice a fs'.length c,fs')]).map (fun t=>[t.1]))::.blk b3 (.cells #[.slice sa sn sc,.slice ga gn gc] 25)::.blk b7 (F6 (.slice sa sn sc) (.slice ga gn gc) (.slice tb tm td) (.slice none 0 0) bm)::E3 bm []::S) w) ?_ ?_
  ·have hfac:S8 db g≤1000001:=by
    unfold S8;split
    ·omega
    split
    ·rename_i h4
     have:=hRx h4
     omega
    ·omega
   have hmul:Q0 db (q.Goals.take k)*S8 db g≤1000000*1000001:=Nat.mul_le_mul hwk hfac
   refine A6 ?_;refine A0 rfl (fun h=>?_) (fun h=>?_)
   ·have hk1:g.Kind=1:=of_decide_eq_true h
    have hfe:S8 db g=max fs'.length 1:=by unfold S8;rw[if_pos hk1,hfl]
    refine A6 ?_;refine⟨⟨rfl,rfl,rfl,?_,rfl,rfl,rfl,trivial⟩,hw⟩
    show Value.int .u64 (IntKind.u64.wrap ((Q0 db (q.Goals.take k):Int)*IntKind.u64.wrap (if (fs'.length:Int)<1 then 1 else (fs'.length:Int))))=_
    rw[show (if (fs'.length:Int)<1 then 1 else (fs'.length:Int))=max (fs'.length:Int) 1 from by split <;> omega]
    rw[CJ (a:=max (fs'.length:Int) 1) (by omega) (by omega),hws,hfe]
    rw[hfe]at hmul;have e:(Q0 db (q.Goals.take k):Int)*max (fs'.length:Int) 1=((Q0 db (q.Goals.take k)*max fs'.length 1:Nat):Int):=by
     rw[Int.natCast_mul];congr 1;omega
    rw[e,CJ (by omega) (by omega)]
   have hk1:¬g.Kind=1:=of_decide_eq_false h
   clear h;refine A6 ?_;refine A0 rfl (fun h=>?_) (fun h=>?_)
   ·have hk4:g.Kind=4:=of_decide_eq_true h
    obtain⟨hlh,hlh2⟩:=hRx hk4
    have hfe:S8 db g=(g.High-g.Low+1).toNat:=by unfold S8;rw[if_neg hk1,if_pos hk4]
    have hsub:=Mh hgoal.high hgoal.low hlh
    refine A6 ?_;refine⟨⟨rfl,rfl,rfl,?_,rfl,rfl,rfl,trivial⟩,hw⟩
    show Value.int .u64 (IntKind.u64.wrap ((Q0 db (q.Goals.take k):Int)*IntKind.u64.wrap (IntKind.u64.wrap (IntKind.u64.wrap g.High-IntKind.u64.wrap g.Low)+1)))=_
    rw[hsub,CJ (a:=g.High-g.Low+1) (by omega) (by omega),hws,hfe]
    rw[hfe]at hmul;have e:(Q0 db (q.Goals.take k):Int)*(g.High-g.Low+1)=((Q0 db (q.Goals.take k)*(g.High-g.Low+1).toNat:Nat):Int):=by
     rw[Int.natCast_mul];congr 1;omega
    rw[e,CJ (by omega) (by omega)]
   have hk4:¬g.Kind=4:=of_decide_eq_false h
   have hfe:S8 db g=1:=by unfold S8;rw[if_neg hk1,if_neg hk4]
   refine A6 ?_;refine⟨⟨rfl,rfl,rfl,?_,rfl,rfl,rfl,trivial⟩,hw⟩
   rw[hws,hfe,Nat.mul_one];rfl
  clear hw;rintro ρ w ⟨hρ,hw⟩
  rw[hρ.eq];clear hρ;have hle12:=hle1.trans hle2
  refine A6 ?_;refine A0 rfl (fun h=>?_) (fun h=>?_)
  ·have h:(1000000:Int)<(Q0 db (q.Goals.take (k+1)):Int):=of_decide_eq_true h
   have he:T0 db q=15:=by rw[hse,if_pos (by omega)]
   refine A6 ?_;refine⟨_,rfl,Γ2,.slice none 0 0,[],hle12,?_,RW.nil,?_,hw.ds [0,0,0,0,0]⟩
   ·rw[he];rfl
   ·unfold U1;rw[he,if_neg (by decide)];rfl
  have h:¬(1000000:Int)<(Q0 db (q.Goals.take (k+1)):Int):=of_decide_eq_false h
  refine A6 ?_;refine⟨gn-k-1,by omega,Γ2,k+1,ts++[(Value.slice a fs'.length c,fs')],tb,tm,td,hle12,by omega,⟨rfl,rfl,rfl,rfl,rfl,rfl,rfl,trivial⟩,by rw[List.length_append,htl];rfl,fun t ht=>?_,fun i x t hxi hti=>?_,by omega,hw.drop⟩
  ·rcases List.mem_append.1 ht with h1|h1
   ·exact(hrl t h1).mono hle2
   ·rw[List.mem_singleton.1 h1];exact hrl2
  ·by_cases hik:i<k
   ·rw[List.getElem?_append_left (by omega)]at hti
    exact heq i x t hxi hti
   ·rw[List.getElem?_append_right (by omega)]at hti
    have hi0:i-ts.length=0:=by
     have:=(List.getElem?_eq_some_iff.1 hti).1
     simp at this
     omega
    have hik:i=k:=by omega
    subst hik;rw[hi0]at hti;cases hti
    rw[hx]at hxi;cases hxi
    exact hft
 have hkn:gn≤k:=by have:=of_decide_eq_false h;omega
 clear h;rw[List.take_of_length_le (by omega)]at hwk
 have he:T0 db q=0:=by rw[hse,if_neg (by omega)]
 have hss:U1 db q=CP (cL cV) (IT db q):=by
  unfold U1;rw[he,if_pos rfl];rfl
 rw[he,hss];have hwf:=hw.freeze
 clear hw;obtain⟨Γ2,hle2,hrT,hw⟩:=hwf;have hq2:=hq1.mono hle2
 have hS:aF Γ2 (.slice sa sn sc) (.slice ga gn gc) (.slice ta tn tc) gs ts db q:=⟨hq2,hok,hrT,by omega,fun t ht=>(hrl t ht).mono hle2,heq,fun x _ _=>Io⟩
 have hraw:(IT db q).length≤1000000:=by
  refine Nat.le_trans (Iy (fun e=>PY e) (L3 db q) (fun gt hg h4=>?_) []) ?_
  ·obtain⟨g,hgm,rfl⟩:=List.mem_map.1 hg
   exact hRl g hgm h4
  ·rw[←Ip];exact hwk
 have hw:Wd Γ2 (.blk b7 (F6 (.slice sa sn sc) (.slice ga gn gc) (.slice ta tn tc) (.slice none 0 0) bm)::(H6 (.slice none 0 0) []++(E3 bm []::.blk b3 (.cells #[.slice sa sn sc,.slice ga gn gc] 25)::S))) w:=by
  have h1:=Wd.addNil (a:=none) (E:=70) (sz:=1) hw
  rw[show H6 (.slice none 0 0) []=[.own (.slice none 0 0) 70 1 []] from rfl]
  exact h1.perm T1
 have hw:=Z0 (rs:=[]) (L:=[]) rfl hw
 refine A6 ?_;refine C9 (vs:=[.pointer (some ⟨b7,0,none⟩),.int .i64 ((0:Nat):Int)]) ((Qg hS hR gs.length 0 (by omega) (.blk b3 (.cells #[.slice sa sn sc,.slice ga gn gc] 25)::S) [] [] w y9.nil (by rw[List.drop_zero];show 0+(IT db q).length≤1000000;omega) hw).mono fun r w hq3=>?_)
 clear hw;obtain⟨rfl,hw⟩:=hq3;refine⟨_,rfl,?_⟩;rw[List.drop_zero,List.nil_append]at hw;have hw:Wd Γ2 (SV b7 bm (.slice sa sn sc) (.slice ga gn gc) (.slice ta tn tc) (IT db q)::E3 bm []::.blk b3 (.cells #[.slice sa sn sc,.slice ga gn gc] 25)::S) w:=hw
 obtain⟨vr,L,hL,hw⟩:=Ct hw
 obtain⟨M,hM1,hM2,hM3⟩:=OX hL
 have hML:M.length=(IT db q).length:=by rw[←hM2];unfold rowsOf;rw[List.length_map]
 have S3:Wd Γ2 (FC 65 3 L++(.own vr 70 1 (M.map cR)::.blk b7 (F6 (.slice sa sn sc) (.slice ga gn gc) (.slice ta tn tc) vr bm)::E3 bm []::.blk b3 (.cells #[.slice sa sn sc,.slice ga gn gc] 25)::S)) w:=by
  rw[hM1];have h1:Wd Γ2 (.blk b7 (F6 (.slice sa sn sc) (.slice ga gn gc) (.slice ta tn tc) vr bm)::((.own vr 70 1 (L.map fun x=>[x.1])::FC 65 3 L)++(E3 bm []::.blk b3 (.cells #[.slice sa sn sc,.slice ga gn gc] 25)::S))) w:=hw
  exact h1.perm T1
 clear hw;obtain⟨Γ3,hle3,hfr,hw⟩:=EI (f:=fun x:Value×List (List Value)=>x.1) (g:=fun x=>x.2) (e:=65) (sz:=3) L S3
 clear S3;have hRok:∀p∈M,QO Γ3 p:=fun p hp=>by
  obtain⟨x,hx,e1,e2⟩:=hM3 p hp
  have:=hfr x hx
  unfold QO;rw[←e1,←e2];exact this
 obtain⟨ra,rn,rc,rfl,-,-,-⟩:=hw.own_shape (i:=0) rfl
 have hw:Wd Γ3 (.own (.slice ra rn rc) 70 1 (M.map cR)::.blk b7 (F6 (.slice sa sn sc) (.slice ga gn gc) (.slice ta tn tc) (.slice ra rn rc) bm)::E3 bm []::.blk b3 (.cells #[.slice sa sn sc,.slice ga gn gc] 25)::S) w:=hw
 refine A6 ?_;refine C9 (vs:=[.slice ra rn rc,.func (.func 81) #[] #[]]) ((UU M (.slice ra rn rc) hRok (by omega) hw).mono fun r w hq3=>?_)
 clear hw;obtain⟨rfl,G,hp,hs,hw⟩:=hq3;refine⟨_,rfl,?_⟩;have hGok:∀p∈G,QO Γ3 p:=fun p h=>hRok p (hp.mem_iff.1 h)
 have hGl:G.length≤1000000:=by rw[hp.length_eq];omega
 refine A6 ?_;refine C9 (vs:=[.slice ra rn rc,.func (.func 82) #[] #[]]) ((Me G hGok hGl hw).mono fun r w hq3=>?_)
 clear hw;obtain⟨v',rfl,hw⟩:=hq3;refine⟨_,rfl,?_⟩;have hwf:=hw.freeze
 clear hw;obtain⟨Γ4,hle4,hrr,hw⟩:=hwf;obtain⟨a4,n4,c4,rfl,-,-,-⟩:=hrr.shape;refine A6 ?_;refine⟨_,rfl,Γ4,.slice a4 n4 c4,s8 Vu G,hle1.trans (hle2.trans (hle3.trans hle4)),rfl,⟨hrr,fun p hp2=>D7.mono (hGok p (Fq hp2)) hle4⟩,?_,hw.ds [0,0,0]⟩
 have hset:=LU He.list (fun p:g8=>p.2) hp (hs.imp fun {a b} h e=>by
  have h2:ltOf (cL cV) b.2 a.2=true:=He.list.lt_iff.2 e
  have h:ltOf (cL cV) b.2 a.2=false:=h
  rw[h2]at h;cases h)
 unfold rowsOf;have e2:M.map (·.2)=IT db q:=hM2
 rw[←e2];exact hset
end Go.Proofs.YtlmiakjbogojgaaGreatDoor
end
section
open Go Mk
namespace Go.Proofs.YtlmiakjbogojgaaGreatDoor
set_option maxHeartbeats 16000000
attribute [local irreducible] Calls cI cB
section
variable {Γ:C8}{S:List B6}{w:World}
end
end Go.Proofs.YtlmiakjbogojgaaGreatDoor
end
section
open Go Mk
namespace Go.Proofs.YtlmiakjbogojgaaGreatDoor
set_option maxHeartbeats 16000000
attribute [local irreducible] Calls cI cB
end Go.Proofs.YtlmiakjbogojgaaGreatDoor
end
section
open Go Mk
namespace Go.Proofs.YtlmiakjbogojgaaGreatDoor
set_option maxHeartbeats 16000000
attribute [local irreducible] Calls cI cB
end Go.Proofs.YtlmiakjbogojgaaGreatDoor
end
section
open Go Mk
namespace Go.Proofs.YtlmiakjbogojgaaGreatDoor
set_option maxHeartbeats 16000000
attribute [local irreducible] Calls cI cB
end Go.Proofs.YtlmiakjbogojgaaGreatDoor
end
section
open Go Mk
namespace Go.Proofs.YtlmiakjbogojgaaGreatDoor
set_option maxHeartbeats 16000000
attribute [local irreducible] Calls cI cB
end Go.Proofs.YtlmiakjbogojgaaGreatDoor
end
section
open Go Mk
namespace Go.Proofs.YtlmiakjbogojgaaGreatDoor
set_option maxHeartbeats 16000000
attribute [local irreducible] Calls cI cB
def P1(toks:List Tok)(k:Nat):Tok:=toks.getD k default
def Q4(toks:List Tok)(k:Nat)(kind:Int)(text:ByteArray):Bool:=decide ((P1 toks k).Kind=kind)&&decide ((P1 toks k).Text=text)
def D3(bp:Nat)(a:Option Addr)(n c at':Nat)(e1 e2:Int):B6:=.blk bp (.cells #[.slice a n c,.int .i64 at',.int .i64 e1,.int .i64 e2] 93)
section
variable {Γ:C8}{S:List B6}{w:World}{bp:Nat}{a:Option Addr}{n c at':Nat}{e1 e2:Int}{toks:List Tok}
theorem Eh(j:Nat)(hj:j≤1)(hat:at'≤n)(hN:toks.length≤1000000)(ht:D7 Γ (.slice a n c) 5 (toks.map enc))(hw:Wd Γ (D3 bp a n c at' e1 e2::S) w) :
  Calls Tryz.prog 160 #[.pointer (some ⟨bp,0,none⟩),.int .i64 j] w fun r w'=>r=.returned (.agg (enc (P1 toks (at'+j))).toArray)∧Wd Γ (D3 bp a n c at' e1 e2::S) w':=by
 have hn:n=toks.length∧n≤c∧c≤9223372036854775807:=by obtain⟨_,_,_,h1,h2,h3⟩:=ht.shape;cases h1;exact⟨by simpa using h2,h3⟩
 obtain⟨hn,hnc,hc⟩:=hn;unfold D3 at *
 refine I4 Tryz.func160 rfl rfl ?_
 refine A6 ?_;refine B9 ?_;intro b4 w hw;have hw:Wd Γ (.blk b4 (.cells (enc (default:Tok)).toArray 102)::.blk bp (.cells #[.slice a n c,.int .i64 at',.int .i64 e1,.int .i64 e2] 93)::S) w:=hw
 refine A6 ?_;refine G9 (by kernel_rfl) (by kernel_rfl) hw ?_
 refine X3 ?_;intro w hw;refine A0 rfl (fun h=>?_) (fun h=>?_)
 ·have h:at'+j<n:=by have:=of_decide_eq_true h;omega
  obtain⟨t,htk⟩:=B2 (l:=toks) (k:=at'+j) (by omega)
  have hT:P1 toks (at'+j)=t:=by unfold P1;rw[List.getD_eq_getElem?_getD,htk];rfl
  rw[hT];refine A6 ?_;refine FJ [.blk bp (.cells #[.slice a n c,.int .i64 at',.int .i64 e1,.int .i64 e2] 93)] (.blk b4 (.cells (enc (default:Tok)).toArray 102)::S) [] [[],[],[],[],[],[],[],[],[],[],[],[],[0]] (hw.ps [1]) ?_
  refine P3 ?_;refine Cy (φ:=fun (_:Unit) _=>True) (R:=fun _=>.blk b4 (.cells (enc (default:Tok)).toArray 102)::S) (v:=undef) (T':=Unit) (fun _ _=>True) (fun _=>.blk b4 (.cells (enc t).toArray 102)::S) (fun t' g w Y _ hw=>AR (i:=0) (inferInstance:Ti Tryz.prog 102 5).h hw rfl rfl rfl rfl (fun u hu=>(List.all_eq_true.1 (Cc t)) u hu) rfl (Nat.le_refl 5) fun w' hw'=>⟨(),trivial,(fun _=>rfl),hw'⟩) ?_
  refine IA fun t' w g _ hw=>?_
  have hw:Wd Γ (.blk b4 (.cells (enc t).toArray 102)::.blk bp (.cells #[.slice a n c,.int .i64 at',.int .i64 e1,.int .i64 e2] 93)::S) w:=hw.flip.ps [1]
  refine A6 ?_;exact⟨[.agg (enc t).toArray],⟨U4 (i:=0) hw rfl rfl rfl,trivial⟩,rfl,hw.drop⟩
 ·have h:¬at'+j<n:=by have:=of_decide_eq_false h;omega
  have hT:P1 toks (at'+j)=default:=by unfold P1;rw[List.getD_eq_getElem?_getD,List.getElem?_eq_none (by omega)];rfl
  rw[hT];refine A6 ?_;refine B0 ?_;intro w hw;have hw:Wd Γ (.blk b4 (.cells (enc (default:Tok)).toArray 102)::.blk bp (.cells #[.slice a n c,.int .i64 at',.int .i64 e1,.int .i64 e2] 93)::S) w:=hw
  refine A6 ?_;exact⟨[.agg (enc (default:Tok)).toArray],⟨U4 (i:=0) hw rfl rfl rfl,trivial⟩,rfl,hw.drop⟩
theorem dp(j:Nat)(hj:j≤1)(kind:Int)(text:ByteArray)(hat:at'≤n)(hN:toks.length≤1000000)(ht:D7 Γ (.slice a n c) 5 (toks.map enc))(hw:Wd Γ (D3 bp a n c at' e1 e2::S) w) :
  Calls Tryz.prog 90 #[.pointer (some ⟨bp,0,none⟩),.int .i64 j,.int .i64 kind,.string text] w fun r w'=>r=.returned (.bool (Q4 toks (at'+j) kind text))∧Wd Γ (D3 bp a n c at' e1 e2::S) w':=by
 refine A7 Tryz.func90 rfl rfl ?_
 refine A6 ?_;refine C9 (vs:=[.pointer (some ⟨bp,0,none⟩),.int .i64 j]) ?_
 refine(Eh j hj hat hN ht hw).mono ?_
 clear hw;rintro r w ⟨rfl,hw⟩
 refine⟨_,rfl,?_⟩;refine A6 ?_;refine B9 ?_;intro b9 w hw;refine B0 ?_;intro w hw;have hw:Wd Γ (.blk b9 (.cells (enc (P1 toks (at'+j))).toArray 102)::D3 bp a n c at' e1 e2::S) w:=hw
 refine A6 ?_;exact⟨_,rfl,F2 rfl rfl,hw.drop⟩
theorem Z4(kind:Int)(text:ByteArray)(hat:at'≤n)(hN:toks.length≤1000000)(ht:D7 Γ (.slice a n c) 5 (toks.map enc))(hw:Wd Γ (D3 bp a n c at' e1 e2::S) w) :
  Calls Tryz.prog 92 #[.pointer (some ⟨bp,0,none⟩),.int .i64 kind,.string text] w fun r w'=>r=.returned (.bool (Q4 toks at' kind text))∧Wd Γ (D3 bp a n c (if Q4 toks at' kind text=true then at'+1 else at') e1 e2::S) w':=by
 have hn:n=toks.length:=by obtain⟨_,_,_,h1,h2,h3⟩:=ht.shape;cases h1;simpa using h2
 refine A7 Tryz.func92 rfl rfl ?_
 refine A6 ?_;refine C9 (vs:=[.pointer (some ⟨bp,0,none⟩),.int .i64 0,.int .i64 kind,.string text]) ?_
 refine(dp (j:=0) (by decide) kind text hat hN ht hw).mono ?_
 clear hw;rintro r w ⟨rfl,hw⟩
 rw[Nat.add_zero];refine⟨_,rfl,?_⟩;unfold D3 at *
 refine A6 ?_;refine JA (fun ρ w=>Has ρ [(7,.bool (Q4 toks at' kind text))]∧Wd Γ (D3 bp a n c (if Q4 toks at' kind text=true then at'+1 else at') e1 e2::S) w) ?_ ?_
 ·refine A0 rfl (fun h=>?_) (fun h=>?_)
  ·rw[if_pos h];refine A6 ?_;refine B0 (i:=0) ?_
   intro w hw;have hw:Wd Γ (D3 bp a n c (at'+1) e1 e2::S) w:=hw
   refine A6 ?_;exact⟨⟨rfl,trivial⟩,hw⟩
  ·rw[if_neg (by rw[h];decide)]
   refine A6 ?_;exact⟨⟨rfl,trivial⟩,hw⟩
 clear hw;rintro ρ w ⟨hρ,hw⟩
 rw[hρ.eq];refine A6 ?_;exact⟨_,rfl,F2 rfl rfl,hw⟩
end
end Go.Proofs.YtlmiakjbogojgaaGreatDoor
end
section
open Go
namespace Mk
attribute [local irreducible] Calls
section
variable {P:Program}{n:Nat}{ops:List Oper}{Γ:C8}{K:List B6}{wr tc stab:List (List Nat)}{Q:Fr→World→Prop}{i:Nat}{rest:List Oper}{ρ:Fr}{M:Nat→Fr→List B6}{T:Type}
variable {ty:TypeId}{pos:String}{es:Array Edge}
end
section
variable {P:Program}{n:Nat}{opa:Array Oper}{QQ:Exit→Fr→World→Prop}{ρ:Fr}{w:World}{rest:List Oper}{Γ:C8}{S:List B6}
variable {d:Option Tmp}{ty:TypeId}{pos:String}{es:Array Edge}{f j dj:Nat}{want c:Bool}{args:List Operand}{tys:Array TypeId}{vs:List Value}{v:Value}
attribute [local semireducible] gv
end
end Mk
end
section
open Go Mk
namespace Go.Proofs.YtlmiakjbogojgaaGreatDoor
section
variable {P:Program}{d:Option Tmp}{ty:TypeId}{pos:String}{es:Array Edge}{g:Option (Nat×Bool)}{ρ:Fr}{w:World}{T U V:TypeId}{v z:Value}{xx:Operand}
theorem YA[hc:dO P U](hx:ev ρ xx=.iface U v):Mk.Yields P ⟨d,.typeAssert xx T U true,ty,pos,es,g⟩ ρ w (.tuple #[v,.bool true]):=by
 have h:=hc.h
 unfold Tb at h;unfold Mk.Yields;cases hu:P.underlying U with
 | none=>simp[hu]at h
 | some t=>
  cases t <;> first|(simp[hu]at h;done)|simp[execOp,hx,Instr.typeAssert,run_underlying hu,Sem.run_bind,Sem.run_pure,Result.andThen]
theorem Xp[hc:dO P U][hz:Zc P U z](hx:ev ρ xx=.iface V v)(hne:Nat.beq V U=false):Mk.Yields P ⟨d,.typeAssert xx T U true,ty,pos,es,g⟩ ρ w (.tuple #[z,.bool false]):=by
 have h:=hc.h
 have hne:¬V=U:=fun e=>by rw[e]at hne;simp at hne
 unfold Tb at h;unfold Mk.Yields;cases hu:P.underlying U with
 | none=>simp[hu]at h
 | some t=>
  cases t <;> first|(simp[hu]at h;done)|simp[execOp,hx,Instr.typeAssert,run_underlying hu,Sem.run_bind,Sem.run_pure,Result.andThen,hne,FB hz.h]
end
end Go.Proofs.YtlmiakjbogojgaaGreatDoor
end
section
open Go
namespace Mk
section
variable {P:Program}{Γ:C8}{S:List B6}{w:World}{E i:Nat}
theorem NI{ρ:Go.Shelf.Ren}(L:Go.Proofs.Lays2.n20 P ρ)(xs:List Int){a:Option Addr}{n c:Nat}(hw:Wd Γ S w)(hi:S[i]? = some (.own (.slice a n c) E 1 (l9 xs)))(hlen:xs.length<4611686018427387904) :
  Calls P (ρ.f 20) #[.slice a n c] w fun e w'=>e=.returned (.slice a (Go.Lib.compact xs).length c)∧∃zs,Wd Γ (S.set i (.own (.slice a n c) E 1 (l9 (Go.Lib.compact xs++zs)))) w':=by
 obtain⟨a',n',c',hE,e2,e3,e4,e5⟩:=AY hw hi
 cases hE
 have hn:n=xs.length:=by simpa[l9] using e2
 by_cases h0:n=0
 ·have hx:xs=[]:=List.eq_nil_of_length_eq_zero (by omega)
  subst h0;refine(Go.Proofs.Any.slices_Compact_int_empty L a c w).mono ?_
  rintro e w' ⟨he,rfl⟩
  refine⟨by rw[he,hx];rfl,[],?_⟩
  have hset:S.set i (.own (.slice a 0 c) E 1 (l9 xs))=S:=by
   obtain⟨hil,hie⟩:=List.getElem?_eq_some_iff.1 hi
   rw[←hie];exact List.set_getElem_self hil
  have:Go.Lib.compact xs++[]=xs:=by rw[hx];rfl
  rw[this,hset];exact hw
 ·have hc:0<c:=by omega
  rcases e5 with e5|⟨g,cur,rfl,hg,hcur,hcs,htk⟩
  ·omega
  obtain⟨hH,hgl⟩:=Ao (enc:=fun x:Int=>[Value.int .i64 x]) (k:=1) (fun _=>rfl) hw hi hc
  have hH1:Go.Sort.Holds (Value.int .i64) w g 0 xs.toArray:=fun j hj=>by
   have:=hH j (by simpa using hj)
   rw[Bo]at this;have hj:j<xs.length:=by simpa using hj
   simpa[hj] using this
  have:=Go.Proofs.Any.slices_Compact_int L g 0 c xs w hH1 (by omega) (by omega)
  rw[←hn]at this;refine this.mono ?_
  rintro e w' ⟨he,q,rfl⟩
  have hle:(Go.Lib.compact xs).length≤xs.length:=by
   unfold Go.Lib.compact Go.Lib.compactUpTo;have:=List.length_filter_le (Go.Lib.keeps xs.toArray) (List.range xs.length)
   simpa using this
  refine⟨he,List.replicate (n-(Go.Lib.compact xs).length) 0,?_⟩
  have h1:Go.Sort.putRow (Value.int .i64) (Go.Sort.ahead w q) g 0 (Go.Lib.compact xs++List.replicate (n-(Go.Lib.compact xs).length) 0).toArray=Go.Proofs.sortWorldK (fun x:Int=>[Value.int .i64 x]) 1 w g 0 q (Go.Lib.compact xs++List.replicate (n-(Go.Lib.compact xs).length) 0).toArray #[]:=by
   rw[←l6];unfold Go.Proofs.sortWorld;rw[Lm]
  rw[h1];exact R8 (enc:=fun x:Int=>[Value.int .i64 x]) (k:=1) (fun _=>rfl) hw hi hc _ (by simp;omega) q #[]
end
theorem JU(xs:List Int):Go.Lib.compact xs=((List.range xs.length).filter (Go.Lib.keeps xs.toArray)).map (xs.toArray[·]!):=by
 unfold Go.Lib.compact Go.Lib.compactUpTo;simp
theorem HO(xs:List Int)(j:Nat):Go.Lib.keeps xs.toArray j=true↔j=0∨xs.toArray[j]!≠xs.toArray[j-1]!:=by
 unfold Go.Lib.keeps;simp
theorem PF{xs:List Int}{x:Int}:x∈Go.Lib.compact xs↔x∈xs:=by
 rw[JU,List.mem_map];constructor
 ·rintro⟨j,hj,rfl⟩;have hj:=(List.mem_filter.1 hj).1
  rw[List.mem_range]at hj;have:xs.toArray[j]! = xs[j]:=by simp[hj]
  rw[this];exact List.getElem_mem hj
 ·intro h;obtain⟨j,hj,he⟩:=List.getElem_of_mem h
  have key:∀j,(h:j<xs.length)→xs[j]=x→∃i,i∈(List.range xs.length).filter (Go.Lib.keeps xs.toArray)∧xs.toArray[i]! = x:=by
   intro j;induction j with
   | zero=>intro h e;exact⟨0,List.mem_filter.2 ⟨List.mem_range.2 h,(HO xs 0).2 (.inl rfl)⟩,by simp[h,e]⟩
   | succ j ih=>
    intro h e;by_cases hk:Go.Lib.keeps xs.toArray (j+1)=true
    ·exact⟨j+1,List.mem_filter.2 ⟨List.mem_range.2 h,hk⟩,by simp[h,e]⟩
    ·refine ih (by omega) ?_
     have h2:¬(j+1=0∨xs.toArray[j+1]!≠xs.toArray[j+1-1]!):=fun hh=>hk ((HO xs (j+1)).2 hh)
     have h3:xs.toArray[j+1]! = xs.toArray[j]!:=by
      by_cases he2:xs.toArray[j+1]! = xs.toArray[j]!
      ·exact he2
      ·exact absurd (Or.inr he2) h2
     have a1:xs.toArray[j+1]! = xs[j+1]:=by simp[h]
     have a2:xs.toArray[j]! = xs[j]:=by simp[show j<xs.length by omega]
     rw[a1,a2]at h3;rw[←h3];exact e
  exact key j hj he
theorem Nq{xs:List Int}(hs:xs.Pairwise (·≤·)):(Go.Lib.compact xs).Pairwise (· < ·):=by
 rw[JU,List.pairwise_map];have hr:((List.range xs.length).filter (Go.Lib.keeps xs.toArray)).Pairwise (· < ·):=List.Pairwise.filter _ List.pairwise_lt_range
 refine hr.imp_of_mem fun {i j} hi hj hij=>?_
 obtain⟨hj1,hj2⟩:=List.mem_filter.1 hj
 rw[List.mem_range]at hj1;have a1:xs.toArray[j]! = xs[j]:=by simp[hj1]
 have a2:xs.toArray[i]! = xs[i]:=by simp[show i<xs.length by omega]
 have a3:xs.toArray[j-1]! = xs[j-1]:=by simp[show j-1<xs.length by omega]
 have hk:=(HO xs j).1 hj2
 rw[a1,a3]at hk;rw[a1,a2];have hne:xs[j]≠xs[j-1]:=by
  rcases hk with h|h
  ·omega
  ·exact h
 rw[List.pairwise_iff_getElem]at hs;have h1:=hs (j-1) j (by omega) hj1 (by omega)
 have h2:xs[i]≤xs[j-1]:=by
  rcases Nat.lt_or_eq_of_le (show i≤j-1 by omega) with h|h
  ·exact hs i (j-1) (by omega) (by omega) h
  ·subst h;exact Int.le_refl _
 omega
end Mk
end
section
open Go
namespace Mk
attribute [local semireducible] L W Step
def s6(PP:List PanicEntry→World→Prop)(P:Program)(o:Oper)(ρ:Fr)(w:World)(K:Value→World→Prop):Prop:=
 match (execOp (ev ρ) o).run P w with
 | .ok (.value v) w'=>K v w'
 | .ok .skip w'=>K undef w'
 | .ok (.enter f args) w'=>Calls P f args w' (Ends K PP)
 | .ok (.row row args) w'=>Rows P row args w' K
 | _=>False
section
variable {PP:List PanicEntry→World→Prop}{P:Program}{o:Oper}{ρ ρ':Fr}{w:World}{K K':Value→World→Prop}{ops:List Oper}
theorem Step.toE(h:Step P o ρ w K):s6 PP P o ρ w K:=by
 unfold Step at h;unfold s6;generalize (execOp (ev ρ) o).run P w=r at *
 cases r with
 | ok x w'=>
  cases x <;> first
   | exact h
   | exact Calls.mono h (fun e w'' he=>by obtain⟨v,rfl,hv⟩:=he;exact hv)
   | exact h.elim
 | halt x w'=>exact h.elim
theorem s6.mono(h:s6 PP P o ρ w K)(hk:∀v w,K v w→K' v w):s6 PP P o ρ w K':=by
 unfold s6 at *
 split at h <;> first|exact hk _ _ h|exact h.mono fun e w'' he=>he.mono hk (fun _ _ h=>h)|exact h.mono hk|exact h.elim
theorem s6.congr(hsel:AJ o=true)(hs:∀t∈looks ops o,ρ' t=ρ t)(h:s6 PP P o ρ w K):s6 PP P o ρ' w K:=by
 have:=execOp_congr o (fun cs b e=>by simp[AJ,e]at hsel) (cP hs)
 unfold s6 at *
 rw[this];exact h
theorem s6.wp{a:Act}{K2:Act→World→Prop}{Q':Exit→Act→World→Prop}(h:s6 PP P o (E0 a) w K)
  (hk:∀v w,K v w→K2 (a.put o.dst v) w) (hp:∀ch w,PP ch w→Q' (.panic ch) a w):o.wp P a w K2 Q':=by
 unfold s6 at h;unfold Oper.wp;rw[i7];generalize (execOp (ev (E0 a)) o).run P w=r at *
 cases r with
 | ok x w'=>
  cases x <;> simp only[Oper.upon]at h ⊢ <;> first
   | exact hk _ _ h
   | exact Calls.mono h (fun e w'' he=>by
     cases e with
     | returned v=>exact hk _ _ he
     | panicked ch=>exact hp _ _ he
     | outgrown=>exact he.elim)
   | exact Rows.mono h hk
   | exact h.elim
 | halt x w'=>exact h.elim
end
section
variable (PP:List PanicEntry→World→Prop)(V:Y5)
structure QS(i:Nat)(o:Oper)(st:Mt)(c:Mc):Prop where
 run:∀Γ' Y w g,V.rl V.Γ Γ'→Wd Γ' (V.K++(cellsOf V (V.t i) st.M g++Y)) w →
  (Y6 V.ops o (E8 V.N g st.ρ)=true→s6 PP V.P o (E8 V.N g st.ρ) w fun v w'=>∃Γ'',V.rl Γ' Γ''∧Wd Γ'' (V.K++(cellsOf V (V.t i) (Mt.nxt V i st c) (D6 g o.dst v)++Y)) w'∧(V.free o=false→v=c.x)) ∧
  (Y6 V.ops o (E8 V.N g st.ρ)=false→Wd Γ' (V.K++(cellsOf V (V.t i) (Mt.nxt V i st c) (D6 g o.dst undef)++Y)) w∧(V.free o=false→undef=c.x))
def MSwE(Q:Fr→World→Prop):Nat→List Oper→Mt→Prop
 | _,[],st=>Gr V Q st
 | i,o::l,st=>∃c,QS PP V i o st c∧MSwE Q (i+1) l (Mt.next V i st o c)
end
def W0(PP:List PanicEntry→World→Prop)(V:Y5)(Q:Fr→World→Prop):Nat→List Oper→List Mc→Mt→Prop
 | _,[],[],st=>Gr V Q st
 | i,o::l,c::cs,st=>QS PP V i o st c∧W0 PP V Q (i+1) l cs (Mt.next V i st o c)
 | _,_,_,_=>False
theorem MSwE.chain{PP:List PanicEntry→World→Prop}{V:Y5}{Q:Fr→World→Prop}:∀(l:List Oper) (i:Nat) (st:Mt),MSwE PP V Q i l st→∃cs,W0 PP V Q i l cs st
 | [],_,_,h=>⟨[],h⟩
 | _::l,i,st,⟨c,hg,h⟩=>by
  obtain⟨cs,hc⟩:=MSwE.chain l (i+1) _ h
  exact⟨c::cs,hg,hc⟩
section
variable {PP:List PanicEntry→World→Prop}{V:Y5}{Q:Fr→World→Prop}
theorem W0.good:∀ {l:List Oper} {i:Nat} {cs:List Mc} {st:Mt} (k:Nat) {o:Oper},W0 PP V Q i l cs st→l[k]? = some o→∃c,cs[k]? = some c∧QS PP V (i+k) o (L4 V l cs i st k) c
 | o'::l,i,c::cs,st,0,o,h,ho=>by
  simp at ho;subst ho
  exact⟨c,rfl,h.1⟩
 | o'::l,i,c::cs,st,k+1,o,h,ho=>by
  obtain⟨c',h1,h2⟩:=W0.good k h.2 (by simpa using ho)
  refine⟨c',by simpa using h1,?_⟩
  rw[show i+(k+1)=i+1+k from by omega]
  exact h2
 | [],_,_,_,_,_,_,ho=>by simp at ho
 | _::_,_,[],_,_,_,h,_=>h.elim
theorem W0.final:∀ {l:List Oper} {i:Nat} {cs:List Mc} {st:Mt},W0 PP V Q i l cs st→Gr V Q (L4 V l cs i st l.length)
 | [],_,[],_,h=>h
 | o::l,i,c::cs,st,h=>by
  have:=W0.final (l:=l) (cs:=cs) h.2
  simpa[L4] using this
 | [],_,_::_,_,h=>h.elim
 | _::_,_,[],_,h=>h.elim
section
variable {st0:Mt}{cs:List Mc}{listed:Array Bool}{a:Act}{w:World}{done:List Nat}{Γ':C8}
theorem KL(hc:W0 PP V Q 0 V.ops cs st0){t j:Nat}:∀(m:Nat),j+m≤V.ops.length→(∀i,j≤i→i<j+m→∀o,V.ops[i]? = some o→o.dst≠some t)→(L4 V V.ops cs 0 st0 (j+m)).ρ t=(L4 V V.ops cs 0 st0 j).ρ t
 | 0,_,_=>rfl
 | m+1,hl,hn=>by
  have ih:=KL hc m (by omega) (fun i h1 h2=>hn i h1 (by omega))
  have ho:V.ops[j+m]? = some V.ops[j+m]:=List.getElem?_eq_getElem (by omega)
  obtain⟨c,h1,_⟩:=hc.good (j+m) ho
  rw[←Nat.add_assoc,X6 ho h1,←ih];have hne:=hn (j+m) (by omega) (by omega) _ ho
  simp only[Mt.next]
  cases hd:(V.ops[j+m]).dst with
  | none=>rfl
  | some d=>exact upd_ne _ _ (fun e=>hne (by rw[hd,e]))
theorem MInv.sat_atE(hc:W0 PP V Q 0 V.ops cs st0)(inv:MInv V st0 cs listed a w done Γ'){k t:Nat}(hN:t∉V.N)(hk:k≤V.ops.length)(h1:∀j,j<k→∀o,V.ops[j]? = some o→o.dst=some t→j∈done)
  (h2:∀j∈done,∀o,V.ops[j]? = some o→o.dst=some t→j<k):E0 a t=(L4 V V.ops cs 0 st0 k).ρ t:=by
 rcases AS (fun j=>∃o,V.ops[j]? = some o∧o.dst=some t) k with hn|⟨j,hj,⟨o,ho,hd⟩,hlast⟩
 ·have:=KL (j:=0) (t:=t) hc k (by omega) (fun i _ hi o ho hd=>hn i (by omega) ⟨o,ho,hd⟩)
  rw[Nat.zero_add,CN]at this;rw[this];exact inv.init t hN fun i hi o ho hd=>hn i (h2 i hi o ho hd) ⟨o,ho,hd⟩
 ·have hin:=h1 j hj o ho hd
  obtain⟨c,hcj,hg⟩:=hc.good j ho
  have hval:=inv.last j hin o t c ho hd hN hcj fun i hi o' ho' hd'=>by
   have:=h2 i hi o' ho' hd'
   rcases Nat.lt_or_ge j i with h|h
   ·exact absurd ⟨o',ho',hd'⟩ (hlast i h this)
   ·exact h
  have hs:(L4 V V.ops cs 0 st0 (j+1)).ρ t=c.x:=by
   rw[X6 ho hcj];simp only[Mt.next,hd]
   exact upd_same _ _ _
  have:=KL (j:=j+1) (t:=t) hc (k-(j+1)) (by omega) (fun i h3 h4 o' ho' hd'=>hlast i (by omega) (by omega) ⟨o',ho',hd'⟩)
  rw[show j+1+(k-(j+1))=k from by omega]at this
  rw[hval,this,hs]
theorem Eg(hc:W0 PP V Q 0 V.ops cs st0){p x:Nat}:∀(m:Nat),p+m≤V.ops.length→(∀j,p≤j→j<p+m→x∉V.w j)→(L4 V V.ops cs 0 st0 (p+m)).M x=(L4 V V.ops cs 0 st0 p).M x
 | 0,_,_=>rfl
 | m+1,hl,hn=>by
  have ih:=Eg hc m (by omega) (fun i h1 h2=>hn i h1 (by omega))
  have ho:V.ops[p+m]? = some V.ops[p+m]:=List.getElem?_eq_getElem (by omega)
  obtain⟨c,h1,hg⟩:=hc.good (p+m) ho
  rw[←Nat.add_assoc,X6 ho h1,←ih];have:=hn (p+m) (by omega) (by omega)
  simp[Mt.next,Mt.nxt,this]
theorem MInv.stepE{i:Nat}{QQ:Exit→Act→World→Prop}(hc:W0 PP V Q 0 V.ops cs st0)(hk:R6 V.n V.ops V.wr V.tc V.stab=true)(inv:MInv V st0 cs listed a w done Γ')(hPP:∀ch (a:Act) w,a.defers=[]→a.tmps.size=V.n→PP ch w→QQ (.panic ch) a w)
  (hr:i∈Region.ready .any V.ops.toArray listed):wpOp V.P V.ops.toArray QQ i (fun a' w'=>∃done' Γ'',MInv V st0 cs (listed.setIfInBounds i true) a' w' done' Γ''∧done'.length=done.length+1) a w∧i∉done:=by
 obtain⟨hun,o,hoa,hall⟩:=mem_ready.1 hr
 have ho:V.ops[i]? = some o:=by simpa using hoa
 have hil:i<V.ops.length:=(List.getElem?_eq_some_iff.1 ho).1
 have hni:i∉done:=fun h=>by rw[(inv.ls i hil).2 h]at hun;cases hun
 refine⟨?_,hni⟩
 obtain⟨c,hci,hg⟩:=hc.good i ho
 rw[Nat.zero_add]at hg;obtain⟨k1,k2,k3,kd,kw,kl,kn,ks,k4⟩:=T2 hk ho
 have hedges:∀e∈o.after,Region.binds .any e=true→e.on∈done:=fun e he hb=>by
  have h1:=hall e he hb
  have h2:=k1 e he hb
  have h3:e.on<listed.size:=by rw[inv.lsz];omega
  refine(inv.ls e.on (by omega)).1 ?_
  simp only[Array.getD_eq_getD_getElem?,Array.getElem?_eq_getElem h3,Option.getD_some]at h1 ⊢
  exact h1
 have hcl':Closed V.ops (·∈i::done):=fun j o' e hj ho' he hb=>by
  rcases List.mem_cons.1 hj with rfl|hj
  ·rw[ho]at ho';cases ho';exact List.mem_cons_of_mem _ (hedges e he hb)
  ·exact List.mem_cons_of_mem _ (inv.cl j o' e hj ho' he hb)
 have hanc:∀j,j∈(Gx [] V.ops).getD i []→j∈i::done:=fun j hj=>f8 hcl' V.ops [] (by simp) (by simp) i j hj (by simp)
 have hanc2:∀j k,j∈(Gx [] V.ops).getD k []→k∈done→j∈done:=fun j k hj hk=>f8 inv.cl V.ops [] (by simp) (by simp) k j hj hk
 have hsat:∀t∈looks V.ops o,t∉V.N→E0 a t=(L4 V V.ops cs 0 st0 i).ρ t:=fun t ht hN=>inv.sat_atE hc hN (Nat.le_of_lt hil) (fun j hj oj hoj hdj=>by
   rcases k4 j oj hj hoj with h|h
   ·exact absurd ht ((R0 h.1).1 t hdj).1
   ·rcases List.mem_cons.1 (hanc j h) with h|h
    ·omega
    ·exact h) (fun j hj oj hoj hdj=>by
   rcases Nat.lt_or_ge j i with h|h
   ·exact h
   ·rcases Nat.eq_or_lt_of_le h with h|h
    ·subst h;exact absurd hj hni
    ·obtain⟨_,_,_,_,_,_,_,_,q4⟩:=T2 hk hoj
     rcases q4 i o h ho with h'|h'
     ·exact absurd ht ((R0 h'.1).2 t hdj)
     ·exact absurd (hanc2 i j h' hj) hni)
 have hlook:∀t∈looks V.ops o,E0 a t=E8 V.N (E0 a) (L4 V V.ops cs 0 st0 i).ρ t:=fun t ht=>by
  by_cases hN:t∈V.N
  ·rw[K0 hN]
  ·rw[GJ hN];exact hsat t ht hN
 obtain⟨p,hp,hwd⟩:=inv.wd;have htc:∀x∈V.t i,(L4 V V.ops cs 0 st0 i).M x=(L4 V V.ops cs 0 st0 (p x)).M x:=fun x hx=>by
  rcases Nat.lt_or_ge i (p x) with hlt|hge
  ·
   have:=Eg hc (p:=i) (x:=x) (p x-i) (by have:=(hp x).1;omega) (fun j h1 h2 hj=>by
    have hjl:j<V.ops.length:=by have:=(hp x).1;omega
    have hjd:=((hp x).2 j hj hjl).2 (by omega)
    have hoj:V.ops[j]? = some V.ops[j]:=List.getElem?_eq_getElem hjl
    rcases Nat.eq_or_lt_of_le h1 with h|h
    ·subst h;exact hni hjd
    ·obtain⟨_,_,_,_,_,_,_,_,q4⟩:=T2 hk hoj
     rcases q4 i o h ho with h'|h'
     ·exact TC h'.2 hx hj
     ·exact hni (hanc2 i j h' hjd))
   rw[show i+(p x-i)=p x from by omega]at this
   exact this.symm
  ·have:=Eg hc (p:=p x) (x:=x) (i-p x) (by omega) (fun j h1 h2 hj=>by
    have hoj:V.ops[j]? = some V.ops[j]:=List.getElem?_eq_getElem (by omega)
    rcases k4 j _ (by omega) hoj with h|h
    ·exact Il h.2 hj hx
    ·rcases List.mem_cons.1 (hanc j h) with h|h
     ·omega
     ·have:=((hp x).2 j hj (by omega)).1 h;omega)
   rwa [show p x+(i-p x)=i from by omega]at this
 let rest:=(List.range V.stab.length).filter fun x=>!(V.t i).contains x
 have hperm:(List.range V.stab.length).Perm (V.t i++rest):=by
  refine(List.perm_ext_iff_of_nodup List.nodup_range ?_).2 fun x=>?_
  ·refine List.nodup_append.2 ⟨kn,List.nodup_range.filter _,fun x hx y hy hxy=>?_⟩
   subst hxy;have:=(List.mem_filter.1 hy).2
   simp at this;exact this hx
  ·simp only[List.mem_append,List.mem_range,rest,List.mem_filter]
   constructor
   ·intro h;by_cases hx:x∈V.t i
    ·exact .inl hx
    ·exact .inr ⟨h,by simpa using hx⟩
   ·rintro (h|h)
    ·exact kl x h
    ·exact h.1
 have hfm:∀F:Nat→List B6,((List.range V.stab.length).flatMap F).Perm ((V.t i).flatMap F++rest.flatMap F):=fun F=>by
  rw[←List.flatMap_append];exact List.Perm.flatMap_right _ hperm
 have S3:Wd Γ' (V.K++(cellsOf V (V.t i) (L4 V V.ops cs 0 st0 i).M (E0 a)++rest.flatMap fun x=>(L4 V V.ops cs 0 st0 (p x)).M x (E8 (V.s x) (E0 a) D5))) w:=by
  have:=hwd.perm (List.Perm.append_left V.K (hfm _))
  rwa [show cellsOf V (V.t i) (L4 V V.ops cs 0 st0 i).M (E0 a)=(V.t i).flatMap fun x=>(L4 V V.ops cs 0 st0 (p x)).M x (E8 (V.s x) (E0 a) D5) from H7 fun x hx=>by rw[htc x hx]]
 have hrun:=hg.run Γ' _ w (E0 a) inv.le S3
 have next:∀v w' Γ'',V.rl Γ' Γ''→(V.free o=false→v=c.x)→Wd Γ'' (V.K++(cellsOf V (V.t i) (Mt.nxt V i (L4 V V.ops cs 0 st0 i) c) (D6 (E0 a) o.dst v)++rest.flatMap fun x=>(L4 V V.ops cs 0 st0 (p x)).M x (E8 (V.s x) (E0 a) D5))) w' →
   MInv V st0 cs (listed.setIfInBounds i true) (a.put o.dst v) w' (i::done) Γ'':=by
  intro v w' Γ'' hle he hwd';have hput:E0 (a.put o.dst v)=D6 (E0 a) o.dst v:=X5 a _ v (by rw[inv.size];exact K8 kd)
  refine⟨(K9 a _ v).trans inv.defers,(size_put a _ v).trans inv.size,by simpa using inv.lsz,List.nodup_cons.2 ⟨hni,inv.nd⟩,?_,?_,hcl',V.rl_trans inv.le hle,?_,?_,?_⟩
  ·intro j hj;rcases List.mem_cons.1 hj with rfl|hj
   ·exact hil
   ·exact inv.lt j hj
  ·intro j hj;by_cases hji:j=i
   ·subst hji;simp[inv.lsz,hil]
   ·rw[getD_set_ne true (Ne.symm hji),inv.ls j hj];simp[hji]
  ·intro t hN hn;rw[hput];have h1:o.dst≠some t:=hn i (by simp) o ho
   have:D6 (E0 a) o.dst v t=E0 a t:=by
    cases hd:o.dst with
    | none=>rfl
    | some d=>exact upd_ne _ _ (fun e=>h1 (by rw[hd,e]))
   rw[this];exact inv.init t hN fun j hj=>hn j (List.mem_cons_of_mem _ hj)
  ·intro j hj o' t c' ho' hd' hN hc' hmax;rw[hput];rcases List.mem_cons.1 hj with rfl|hj
   ·rw[ho]at ho';cases ho'
    rw[hci]at hc';cases hc'
    rw[hd',show D6 (E0 a) (some t) v t=v from upd_same _ _ _];exact he (by simp only[Y5.free,hd'];simpa using hN)
   ·have hji:j≠i:=fun e=>hni (e ▸ hj)
    have h1:o.dst≠some t:=fun e=>by
     have hle':=hmax i (by simp) o ho e
     have hlt:i<j:=by omega
     obtain⟨_,_,_,_,_,_,_,_,q4⟩:=T2 hk ho'
     rcases q4 i o hlt ho with h|h
     ·exact((R0 h.1).1 t e).2 hd'
     ·exact hni (hanc2 i j h hj)
    have:D6 (E0 a) o.dst v t=E0 a t:=by
     cases hd:o.dst with
     | none=>rfl
     | some d=>exact upd_ne _ _ (fun e=>h1 (by rw[hd,e]))
    rw[this];exact inv.last j hj o' t c' ho' hd' hN hc' fun k hk'=>hmax k (List.mem_cons_of_mem _ hk')
  ·refine⟨fun x=>if x∈V.w i then i+1 else p x,fun x=>⟨?_,fun j hj hjl=>?_⟩,?_⟩
   ·show (if x∈V.w i then i+1 else p x)≤V.ops.length
    have:=(hp x).1
    split <;> omega
   ·by_cases hx:x∈V.w i
    ·simp only[hx,if_true]
     by_cases hji:j=i
     ·subst hji;simp
     ·simp only[List.mem_cons,hji,false_or]
      have hpi:p x≤i:=Nat.le_of_not_lt fun h=>hni (((hp x).2 i hx hil).2 h)
      rw[(hp x).2 j hj hjl];constructor
      ·intro h;omega
      ·intro h;refine((hp x).2 j hj hjl).1 ?_
       have hoj:V.ops[j]? = some V.ops[j]:=List.getElem?_eq_getElem hjl
       rcases k4 j _ (by omega) hoj with h'|h'
       ·exact absurd (Il h'.2 hj (kw x hx)) id
       ·rcases List.mem_cons.1 (hanc j h') with h'|h'
        ·omega
        ·exact h'
    ·have hji:j≠i:=fun e=>hx (e ▸ hj)
     simp only[hx,if_false,List.mem_cons,hji,false_or]
     exact(hp x).2 j hj hjl
   ·refine Wd.perm ?_ (List.Perm.append_left V.K (hfm _)).symm
    have e1:cellsOf V (V.t i) (Mt.nxt V i (L4 V V.ops cs 0 st0 i) c) (D6 (E0 a) o.dst v)=(V.t i).flatMap fun x=>(L4 V V.ops cs 0 st0 (if x∈V.w i then i+1 else p x)).M x (E8 (V.s x) (E0 (a.put o.dst v)) D5):=H7 fun x hx=>by
     rw[hput];by_cases hxw:x∈V.w i
     ·simp only[hxw,if_true]
      rw[X6 ho hci,Nat.zero_add];rfl
     ·simp only[hxw,if_false,Mt.nxt]
      rw[←htc x hx];simp[hxw]
    have e2:(rest.flatMap fun x=>(L4 V V.ops cs 0 st0 (p x)).M x (E8 (V.s x) (E0 a) D5))=rest.flatMap fun x=>(L4 V V.ops cs 0 st0 (if x∈V.w i then i+1 else p x)).M x (E8 (V.s x) (E0 (a.put o.dst v)) D5):=H7 fun x hx=>by
     have hxt:x∉V.t i:=by have:=(List.mem_filter.1 hx).2;simpa using this
     have hxw:x∉V.w i:=fun h=>hxt (kw x h)
     simp only[hxw,if_false]
     rw[hput];congr 1
     refine EY fun t ht=>?_
     cases hd:o.dst with
     | none=>rfl
     | some d=>exact(upd_ne _ _ (fun e=>hxw (ks d x hd (by subst e;exact ht)))).symm
    rw[←e1,←e2];exact hwd'
 have hwant:Region.wanted o (yielded V.ops.toArray a.tmps)=Y6 V.ops o (E8 V.N (E0 a) (L4 V V.ops cs 0 st0 i).ρ):=by
  unfold Y6;cases hgd:o.guard with
  | none=>simp[Region.wanted,hgd]
  | some q=>
   obtain⟨j,want⟩:=q;obtain⟨dj,hdj⟩:=k3 j want hgd
   have hdn:dj<V.n:=by
    cases hoj:V.ops[j]? with
    | none=>simp[hoj]at hdj
    | some oj=>simp[hoj]at hdj;exact K8 ((T2 hk hoj).2.2.2.1) dj hdj
   simp only[hdj]
   rw[←hlook dj (List.mem_append_right _ (by simp only[hgd];simpa using hdj))]
   exact Aa o V.ops.toArray a j want hgd dj (by simpa using hdj) (by rw[inv.size];exact hdn)
 unfold wpOp;simp only[hoa,hwant]
 have hsel:AJ o=true:=by
  unfold AJ;split
  ·rename_i h;exact absurd h (k2 _ _)
  ·rfl
 cases hwt:Y6 V.ops o (E8 V.N (E0 a) (L4 V V.ops cs 0 st0 i).ρ) with
 | true=>
  simp only[if_true]
  have hst:=(hrun.1 hwt).congr (ops:=V.ops) hsel hlook
  exact .inl (s6.wp hst (fun v w' ⟨Γ'',h1,h2,h3⟩=>⟨_,_,next v w' Γ'' h1 h3 h2,by simp⟩) fun ch w h=>hPP ch a w inv.defers inv.size h)
 | false=>
  obtain⟨h1,h2⟩:=hrun.2 hwt
  exact⟨_,_,next undef w Γ' (V.rl_refl _) h2 h1,by simp⟩
theorem MInv.finE(hc:W0 PP V Q 0 V.ops cs st0)(inv:MInv V st0 cs listed a w done Γ')(hall:∀i,i<V.ops.length→i∈done):Q (E0 a) w:=by
 have hfin:=hc.final
 obtain⟨p,hp,hwd⟩:=inv.wd;have hρ:E0 a=E8 V.N (E0 a) (L4 V V.ops cs 0 st0 V.ops.length).ρ:=by
  funext t
  by_cases hN:t∈V.N
  ·rw[K0 hN]
  ·rw[GJ hN];exact inv.sat_atE hc hN (Nat.le_refl _) (fun j hj _ _ _=>hall j hj) (fun j hj _ _ _=>inv.lt j hj)
 rw[hρ];refine hfin Γ' w (E0 a) inv.le ?_
 have:cellsOf V (List.range V.stab.length) (L4 V V.ops cs 0 st0 V.ops.length).M (E0 a)=(List.range V.stab.length).flatMap fun x=>(L4 V V.ops cs 0 st0 (p x)).M x (E8 (V.s x) (E0 a) D5):=H7 fun x _=>by
  have:=Eg hc (p:=p x) (x:=x) (V.ops.length-p x) (by have:=(hp x).1;omega) (fun j h1 h2 hj=>by
   have hjl:j<V.ops.length:=by have:=(hp x).1;omega
   have:=((hp x).2 j hj hjl).1 (hall j hjl)
   omega)
  rw[show p x+(V.ops.length-p x)=V.ops.length from by have:=(hp x).1;omega]at this
  rw[this]
 rw[this];exact hwd
theorem MInv.anyE{QQ:Exit→Fr→World→Prop}(hc:W0 PP V (fun ρ w=>QQ .normal ρ w) 0 V.ops cs st0)(hk:R6 V.n V.ops V.wr V.tc V.stab=true)(hPP:∀ch ρ w,PP ch w→QQ (.panic ch) ρ w) :
  ∀(fuel:Nat) (listed:Array Bool) (a:Act) (w:World) (done:List Nat) (Γ':C8),MInv V st0 cs listed a w done Γ'→fuel+done.length=V.ops.length→wpAny V.P .any V.ops.toArray (lift V.n QQ) fuel listed a w
 | 0,listed,a,w,done,Γ',inv,hf=>by
  have hall:∀i,i<V.ops.length→i∈done:=by
   intro i hi;refine Classical.byContradiction fun hn=>?_
   have:=nodup_le V.ops.length (i::done) (List.nodup_cons.2 ⟨hn,inv.nd⟩) (fun x hx=>by
    rcases List.mem_cons.1 hx with rfl|hx
    ·exact hi
    ·exact inv.lt x hx)
   simp at this;omega
  refine⟨?_,inv.defers,inv.size,inv.finE hc hall⟩
  refine List.eq_nil_iff_forall_not_mem.2 fun i hi=>?_
  obtain⟨hun,o,ho,_⟩:=mem_ready.1 hi
  have hil:i<V.ops.length:=by have:=(Array.getElem?_eq_some_iff.1 ho).1;simpa using this
  rw[(inv.ls i hil).2 (hall i hil)]at hun;cases hun
 | fuel+1,listed,a,w,done,Γ',inv,hf=>by
  refine⟨fun h=>⟨inv.defers,inv.size,inv.finE hc (Aj hk inv h)⟩,fun i hi=>?_⟩
  refine wpOp_mono ?_ (inv.stepE hc hk (fun ch a w h1 h2 h=>⟨h1,h2,hPP ch _ w h⟩) hi).1
  rintro a' w' ⟨done',Γ'',inv',hl⟩
  exact MInv.anyE hc hk hPP fuel _ a' w' done' Γ'' inv' (by omega)
end
end
theorem Yt{PP:List PanicEntry→World→Prop}{P:Program}{n id:Nat}{l:List Oper}{Q:Exit→Fr→World→Prop}{ρ:Fr}{w:World}{Γ:C8}(K:List B6)(M:Nat→Fr→List B6)(wr tc stab:List (List Nat))(fixed:Bool)(hm:P.follows .mixedOrders=true)
  (hk:R6 n l wr tc stab=true) (hPP:∀ch ρ w,PP ch w→Q (.panic ch) ρ w) (hw:Wd Γ (K++cellsOf ⟨P,n,l,Γ,K,wr,tc,stab,fixed⟩ (List.range stab.length) M ρ) w) (h:MSwE PP ⟨P,n,l,Γ,K,wr,tc,stab,fixed⟩ (fun ρ w=>Q .normal ρ w) 0 l ⟨ρ,M⟩):W P n (.region id l.toArray true) Q ρ w:=by
 unfold W;intro a hda hs hf;refine wp_region_any hm ?_
 obtain⟨cs,hc⟩:=h.chain;have inv:MInv ⟨P,n,l,Γ,K,wr,tc,stab,fixed⟩ ⟨ρ,M⟩ cs (Array.replicate l.toArray.size false) a { w with drawn:=w.drawn+1 } [] Γ:=by
  refine⟨hda,hs,by simp,by simp,by simp,fun i hi=>?_,fun _ _ _ h=>by simp at h,Y5.rl_refl _,fun t _ _=>by rw[hf],by simp,fun _=>0,fun x=>⟨Nat.zero_le _,by simp⟩,?_⟩
  ·have:i<l.length:=hi
   simp[this]
  ·simp only[CN,hf]
   exact hw.drawn
 exact MInv.anyE hc hk hPP _ _ a _ [] Γ inv (by simp)
section
variable {PP:List PanicEntry→World→Prop}{V:Y5}{Q:Fr→World→Prop}
end
end Mk
end
section
open Go Mk
namespace Go.Proofs.YtlmiakjbogojgaaGreatDoor
set_option maxHeartbeats 16000000
attribute [local irreducible] Calls cI cB
def DO(p:H9)(er:Int):PanicEntry:={ v:=.iface 87 (.agg #[.int .i64 p.Line,.int .i64 p.Col,.int .i64 er]),recovered:=false }
def NL{α β:Type}(f:α→β):PR α→PR β
 | .ok (x,k)=>.ok (f x,k)
 | .error q=>.error q
def De(toks:List Tok)(e:H9)(kind:Int)(text:ByteArray)(k:Nat):PR Unit:=if Q4 toks k kind text=true then .ok ((),k+1) else .error (R9 toks k e,50)
def y7(toks:List Tok)(e:H9)(k:Nat):PR ByteArray:=if (P1 toks k).Kind=1∧KW (P1 toks k).Text=false then (if (P1 toks k).Text.size≤24 then .ok ((P1 toks k).Text,k+1) else .error (R9 toks k e,63)) else .error (R9 toks k e,50)
def DZ(toks:List Tok)(e:H9)(most:Int)(k:Nat):PR Int:=if (P1 toks k).Kind=2 then (if (P1 toks k).Value≤most then .ok ((P1 toks k).Value,k+1) else .error (R9 toks k e,6)) else .error (R9 toks k e,50)
def Dw:ByteArray:=⟨#[45]⟩
def GG(toks:List Tok)(e:H9)(k:Nat):PR Int:=if Q4 toks k 4 Dw=true then NL (fun v=>IntKind.i64.wrap (-(IntKind.i64.wrap v))) (DZ toks e 9223372036854775808 (k+1)) else NL (fun v=>IntKind.i64.wrap v) (DZ toks e 9223372036854775807 k)
def QB(s:ByteArray):Bool:=decide (s=⟨#[95]⟩)||(decide (65≤B1 s 0)&&decide (B1 s 0≤90))
def Hs(s:ByteArray):O8:=if QB s=true then ⟨s,P5⟩ else ⟨F1,⟨2,0,s⟩⟩
def Kp(toks:List Tok)(e:H9)(k:Nat):PR O8:=
 if (P1 toks k).Kind=1 then NL Hs (y7 toks e k)
 else if (P1 toks k).Kind=3 then (if (P1 toks k).Text=⟨#[]⟩∨24<(P1 toks k).Text.size then .error (R9 toks k e,63) else .ok (⟨F1,⟨2,0,(P1 toks k).Text⟩⟩,k+1))
 else NL (fun v=>⟨F1,⟨1,v,⟨#[]⟩⟩⟩) (GG toks e k)
def Cg{α:Type}(Γ:C8)(S:List B6)(bp:Nat)(a:Option Addr)(n c:Nat)(e:H9)(K:α→Value):PR α→Ending→World→Prop
 | .ok (x,k),r,w=>r=.returned (K x)∧k≤n∧Wd Γ (D3 bp a n c k e.Line e.Col::S) w
 | .error (p,er),r,w=>r=.panicked [DO p er]∧∃k,Wd Γ (D3 bp a n c k e.Line e.Col::S) w
def Im(toks:List Tok):Prop:=∀k,(P1 toks k).Kind=1→0<(P1 toks k).Text.size
section
variable {Γ:C8}{S:List B6}{w:World}{bp:Nat}{a:Option Addr}{n c at':Nat}{e:H9}{toks:List Tok}
theorem DG(h:(P1 toks at').Kind≠0):at'<toks.length:=by
 by_cases hk:at'<toks.length
 ·exact hk
 ·unfold P1 at h;rw[List.getD_eq_getElem?_getD,List.getElem?_eq_none (by omega)]at h
  exact absurd rfl h
theorem Al{kind:Int}{text:ByteArray}(h0:kind≠0)(h:Q4 toks at' kind text=true):at'<toks.length:=by
 unfold Q4 at h;simp only[Bool.and_eq_true,decide_eq_true_eq]at h
 exact DG (by omega)
theorem Dq(er:Int)(ht:D7 Γ (.slice a n c) 5 (toks.map enc))(hw:Wd Γ (D3 bp a n c at' e.Line e.Col::S) w) :
  Calls Tryz.prog 94 #[.pointer (some ⟨bp,0,none⟩),.int .i64 er] w fun r w'=>r=.panicked [DO (R9 toks at' e) er]∧Wd Γ (D3 bp a n c at' e.Line e.Col::S) w':=by
 have hn:n=toks.length:=by obtain⟨_,_,_,h1,h2,_⟩:=ht.shape;cases h1;simpa using h2
 unfold D3 at *
 refine A7 Tryz.func94 rfl rfl ?_
 refine A6 ?_;refine B9 ?_;intro b4 w hw;refine B0 ?_;intro w hw;refine p9 ?_
 have hw:Wd Γ (.blk b4 (.cells (enc e).toArray 29)::.blk bp (.cells #[.slice a n c,.int .i64 at',.int .i64 e.Line,.int .i64 e.Col] 93)::S) w:=hw
 refine BK (fun ρ w=>∃b4:Nat,Has ρ [(1,.int .i64 er),(4,.pointer (some ⟨b4,0,none⟩))]∧Wd Γ (.blk b4 (.cells (enc (R9 toks at' e)).toArray 29)::.blk bp (.cells #[.slice a n c,.int .i64 at',.int .i64 e.Line,.int .i64 e.Col] 93)::S) w) ?_ ?_
 ·refine A6 ?_;refine G9 (by kernel_rfl) (by kernel_rfl) hw ?_
  refine X3 ?_;intro w hw;refine A0 rfl (fun h=>?_) (fun h=>?_)
  ·have h:at'<n:=by simp at h;omega
   obtain⟨t,htk⟩:=B2 (l:=toks) (k:=at') (by omega)
   have hp:R9 toks at' e=⟨t.Line,t.Col⟩:=by unfold R9;rw[htk]
   refine A6 ?_;refine FJ [.blk bp _] (.blk b4 _::S) [] [[],[],[],[],[],[],[],[],[],[],[],[0]] (hw.ps [1]) ?_
   refine P3 ?_;refine Cy (φ:=fun (_:Unit) _=>True) (R:=fun _=>.blk b4 (.cells (enc e).toArray 29)::S) (v:=undef) (T':=Unit) (fun _ _=>True) (fun _=>.blk b4 (.cells (enc (⟨t.Line,t.Col⟩:H9)).toArray 29)::S) (fun t' g w Y _ hw=>AR (i:=0) (inferInstance:Ti Tryz.prog 29 2).h hw rfl rfl rfl rfl (fun u hu=>(List.all_eq_true.1 (Cc (⟨t.Line,t.Col⟩:H9))) u hu) rfl (Nat.le_refl 2) fun w' hw'=>⟨(),trivial,(fun _=>rfl),hw'⟩) ?_
   refine IA fun t' w g _ hw=>?_
   refine A6 ?_;exact⟨b4,⟨rfl,rfl,trivial⟩,by rw[hp];exact hw.flip.ps [1]⟩
  ·have h:¬at'<n:=by simp at h;omega
   have hp:R9 toks at' e=e:=by unfold R9;rw[List.getElem?_eq_none (by omega)]
   refine A6 ?_;exact⟨b4,⟨rfl,rfl,trivial⟩,by rw[hp];exact hw⟩
 ·rintro ρ w ⟨b4,hρ,hw⟩
  rw[hρ.eq];refine A6 ?_;refine lY (v:=.iface 87 (.agg #[.int .i64 (R9 toks at' e).Line,.int .i64 (R9 toks at' e).Col,.int .i64 er])) ?_ (hy:=Vj Tryz.underlying87 rfl)
  refine am ?_
  exact⟨rfl,hw.drop⟩
theorem Fi(kind:Int)(text:ByteArray)(h0:kind≠0)(hat:at'≤n)(hN:toks.length≤1000000)(ht:D7 Γ (.slice a n c) 5 (toks.map enc))(hw:Wd Γ (D3 bp a n c at' e.Line e.Col::S) w) :
  Calls Tryz.prog 89 #[.pointer (some ⟨bp,0,none⟩),.int .i64 kind,.string text] w (Cg Γ S bp a n c e (fun _:Unit=>.tuple #[]) (De toks e kind text at')):=by
 have hn:n=toks.length:=by obtain⟨_,_,_,h1,h2,_⟩:=ht.shape;cases h1;simpa using h2
 refine A7 Tryz.func89 rfl rfl ?_
 refine A6 ?_;refine C9 (vs:=[.pointer (some ⟨bp,0,none⟩),.int .i64 kind,.string text]) ?_
 refine(Z4 kind text hat hN ht hw).mono ?_
 clear hw;rintro r w ⟨rfl,hw⟩
 refine⟨_,rfl,?_⟩;unfold De;cases hi:Q4 toks at' kind text with
 | true=>
  have hlt:=Al h0 hi
  rw[hi,if_pos rfl]at hw;rw[if_pos rfl];refine A6 ?_;refine A0 rfl (fun h=>by cases h) (fun h=>?_)
  refine A6 ?_;exact⟨_,rfl,rfl,by omega,hw⟩
 | false=>
  rw[hi,if_neg (by decide)]at hw
  rw[if_neg (by decide)]
  refine A6 ?_;refine A0 rfl (fun h=>?_) (fun h=>by cases h)
  refine A6 ?_;refine K1 ?_
  refine(Dq 50 ht hw).mono ?_
  rintro r w ⟨rfl,hw⟩
  exact⟨rfl,at',hw⟩
theorem LA(hat:at'≤n)(hN:toks.length≤1000000)(ht:D7 Γ (.slice a n c) 5 (toks.map enc))(hw:Wd Γ (D3 bp a n c at' e.Line e.Col::S) w) :
  Calls Tryz.prog 91 #[.pointer (some ⟨bp,0,none⟩)] w (Cg Γ S bp a n c e (fun s:ByteArray=>.string s) (y7 toks e at')):=by
 have hn:n=toks.length:=by obtain⟨_,_,_,h1,h2,h3⟩:=ht.shape;cases h1;simpa using h2
 refine A7 Tryz.func91 rfl rfl ?_
 refine A6 ?_;refine C9 (vs:=[.pointer (some ⟨bp,0,none⟩),.int .i64 0]) ?_
 refine(Eh (j:=0) (by decide) hat hN ht hw).mono ?_
 clear hw;rintro r w ⟨rfl,hw⟩
 rw[Nat.add_zero];refine⟨_,rfl,?_⟩;have hlt:=DG (toks:=toks) (at':=at')
 unfold y7;generalize P1 toks at'=t at *
 refine A6 ?_;refine B9 ?_;intro b3 w hw;refine B0 ?_;intro w hw;have hw:Wd Γ (.blk b3 (.cells (enc t).toArray 102)::.blk bp (.cells #[.slice a n c,.int .i64 at',.int .i64 e.Line,.int .i64 e.Col] 93)::S) w:=hw
 refine A6 ?_;refine A0 rfl (fun h=>?_) (fun h=>?_)
 ·have h:(decide (t.Kind≠1)||KW t.Text)=true:=h
  rw[if_neg (fun⟨h1,h2⟩=>by rw[h1,h2]at h;cases h)]
  refine A6 ?_;refine K1 ?_
  refine(Dq (S:=.blk b3 _::S) 50 ht (hw.ps [1])).mono ?_
  rintro r w ⟨rfl,hw⟩
  exact⟨rfl,at',hw.dropAt 1⟩
 have h:(decide (t.Kind≠1)||KW t.Text)=false:=h
 obtain⟨h1,h2⟩:=Bool.or_eq_false_iff.1 h
 have h1:t.Kind=1:=by simpa using h1
 rw[if_pos ⟨h1,h2⟩];have hlt:=hlt (by omega)
 clear h;refine A6 ?_;refine A0 rfl (fun h=>?_) (fun h=>?_)
 ·have h:=of_decide_eq_true h
  rw[if_neg (by omega)]
  refine A6 ?_;refine K1 ?_
  refine(Dq (S:=.blk b3 _::S) 63 ht (hw.ps [1])).mono ?_
  rintro r w ⟨rfl,hw⟩
  exact⟨rfl,at',hw.dropAt 1⟩
 have h:=of_decide_eq_false h
 rw[if_pos (by omega)]
 refine A6 ?_;refine B0 (i:=1) ?_
 intro w hw;have hw:Wd Γ (.blk b3 (.cells (enc t).toArray 102)::D3 bp a n c (at'+1) e.Line e.Col::S) w:=hw
 refine A6 ?_;exact⟨_,rfl,rfl,by omega,hw.drop⟩
theorem Ii(most:Int)(hat:at'≤n)(hN:toks.length≤1000000)(ht:D7 Γ (.slice a n c) 5 (toks.map enc))(hw:Wd Γ (D3 bp a n c at' e.Line e.Col::S) w) :
  Calls Tryz.prog 164 #[.pointer (some ⟨bp,0,none⟩),.int .u64 most] w (Cg Γ S bp a n c e (fun v:Int=>.int .u64 v) (DZ toks e most at')):=by
 have hn:n=toks.length:=by obtain⟨_,_,_,h1,h2,h3⟩:=ht.shape;cases h1;simpa using h2
 refine A7 Tryz.func164 rfl rfl ?_
 refine A6 ?_;refine C9 (vs:=[.pointer (some ⟨bp,0,none⟩),.int .i64 0]) ?_
 refine(Eh (j:=0) (by decide) hat hN ht hw).mono ?_
 clear hw;rintro r w ⟨rfl,hw⟩
 rw[Nat.add_zero];refine⟨_,rfl,?_⟩;have hlt:=DG (toks:=toks) (at':=at')
 unfold DZ;generalize P1 toks at'=t at *
 refine A6 ?_;refine B9 ?_;intro b5 w hw;refine B0 ?_;intro w hw;have hw:Wd Γ (.blk b5 (.cells (enc t).toArray 102)::.blk bp (.cells #[.slice a n c,.int .i64 at',.int .i64 e.Line,.int .i64 e.Col] 93)::S) w:=hw
 refine A6 ?_;refine A0 rfl (fun h=>?_) (fun h=>?_)
 ·have h:t.Kind≠2:=of_decide_eq_true h
  rw[if_neg h];refine A6 ?_;refine K1 ?_
  refine(Dq (S:=.blk b5 _::S) 50 ht (hw.ps [1])).mono ?_
  rintro r w ⟨rfl,hw⟩
  exact⟨rfl,at',hw.dropAt 1⟩
 have h1:t.Kind=2:=by have:=of_decide_eq_false h;omega
 rw[if_pos h1];have hlt:=hlt (by omega)
 clear h;refine A6 ?_;refine A0 rfl (fun h=>?_) (fun h=>?_)
 ·have h:most<t.Value:=of_decide_eq_true h
  rw[if_neg (by omega)]
  refine A6 ?_;refine K1 ?_
  refine(Dq (S:=.blk b5 _::S) 6 ht (hw.ps [1])).mono ?_
  rintro r w ⟨rfl,hw⟩
  exact⟨rfl,at',hw.dropAt 1⟩
 have h:¬most<t.Value:=of_decide_eq_false h
 rw[if_pos (by omega)]
 refine A6 ?_;refine B0 (i:=1) ?_
 intro w hw;have hw:Wd Γ (.blk b5 (.cells (enc t).toArray 102)::D3 bp a n c (at'+1) e.Line e.Col::S) w:=hw
 refine A6 ?_;exact⟨_,rfl,rfl,by omega,hw.drop⟩
theorem JS(hat:at'≤n)(hN:toks.length≤1000000)(ht:D7 Γ (.slice a n c) 5 (toks.map enc))(hw:Wd Γ (D3 bp a n c at' e.Line e.Col::S) w) :
  Calls Tryz.prog 163 #[.pointer (some ⟨bp,0,none⟩)] w (Cg Γ S bp a n c e (fun v:Int=>.int .i64 v) (GG toks e at')):=by
 have hn:n=toks.length:=by obtain⟨_,_,_,h1,h2,h3⟩:=ht.shape;cases h1;simpa using h2
 refine A7 Tryz.func163 rfl rfl ?_
 refine A6 ?_;refine C9 (vs:=[.pointer (some ⟨bp,0,none⟩),.int .i64 4,.string Dw]) ?_
 refine(Z4 4 Dw hat hN ht hw).mono ?_
 clear hw;rintro r w ⟨rfl,hw⟩
 refine⟨_,rfl,?_⟩;unfold GG;cases hi:Q4 toks at' 4 Dw with
 | true=>
  have hlt:=Al (by decide) hi
  rw[hi,if_pos rfl]at hw;rw[if_pos rfl];refine A6 ?_;refine A0 rfl (fun h=>?_) (fun h=>by cases h)
  refine A6 ?_;refine K1 (vs:=[.pointer (some ⟨bp,0,none⟩),.int .u64 9223372036854775808]) ?_
  refine(Ii (at':=at'+1) 9223372036854775808 (by omega) hN ht hw).mono ?_
  clear hw;rintro r w hr
  cases hN2:DZ toks e 9223372036854775808 (at'+1) with
  | error q=>
   obtain⟨p,er⟩:=q;rw[hN2]at hr;obtain⟨rfl,hw⟩:=hr;exact⟨rfl,hw⟩
  | ok q=>
   obtain⟨x,k⟩:=q;rw[hN2]at hr;obtain⟨rfl,hk,hw⟩:=hr;refine A6 ?_;refine lY (v:=.int .i64 (IntKind.i64.wrap (-(IntKind.i64.wrap x)))) ?_ (hy:=RO rfl)
   refine A6 ?_;exact⟨_,rfl,rfl,hk,hw⟩
 | false=>
  rw[hi,if_neg (by decide)]at hw
  rw[if_neg (by decide)]
  refine A6 ?_;refine A0 rfl (fun h=>by cases h) (fun h=>?_)
  refine A6 ?_;refine K1 (vs:=[.pointer (some ⟨bp,0,none⟩),.int .u64 9223372036854775807]) ?_
  refine(Ii 9223372036854775807 hat hN ht hw).mono ?_
  clear hw;rintro r w hr
  cases hN2:DZ toks e 9223372036854775807 at' with
  | error q=>
   obtain⟨p,er⟩:=q;rw[hN2]at hr;obtain⟨rfl,hw⟩:=hr;exact⟨rfl,hw⟩
  | ok q=>
   obtain⟨x,k⟩:=q;rw[hN2]at hr;obtain⟨rfl,hk,hw⟩:=hr;refine A6 ?_;exact⟨_,rfl,rfl,hk,hw⟩
theorem CC(hW:Im toks)(hat:at'≤n)(hN:toks.length≤1000000)(ht:D7 Γ (.slice a n c) 5 (toks.map enc))(hw:Wd Γ (D3 bp a n c at' e.Line e.Col::S) w) :
  Calls Tryz.prog 162 #[.pointer (some ⟨bp,0,none⟩)] w (Cg Γ S bp a n c e (fun o:O8=>.agg (enc o).toArray) (Kp toks e at')):=by
 have hn:n=toks.length:=by obtain⟨_,_,_,h1,h2,h3⟩:=ht.shape;cases h1;simpa using h2
 refine I4 Tryz.func162 rfl rfl ?_
 refine A6 ?_;refine B9 ?_;intro b2 w hw;have hw:Wd Γ (D3 bp a n c at' e.Line e.Col::.blk b2 (.cells (enc (⟨F1,P5⟩:O8)).toArray 75)::S) w:=hw.ps [1]
 refine A6 ?_;refine C9 (vs:=[.pointer (some ⟨bp,0,none⟩),.int .i64 0]) ?_
 refine(Eh (j:=0) (by decide) hat hN ht hw).mono ?_
 clear hw;rintro r w ⟨rfl,hw⟩
 rw[Nat.add_zero];refine⟨_,rfl,?_⟩;have hlt:=DG (toks:=toks) (at':=at')
 have hpos:=hW at'
 have hWd:=fun (S:List B6) (w:World) hw=>LA (S:=S) (w:=w) (e:=e) (bp:=bp) hat hN ht hw
 unfold Kp;unfold y7 at hWd;unfold y7;generalize P1 toks at'=t at *
 refine A6 ?_;refine B9 ?_;intro b3 w hw;refine B0 ?_;intro w hw;have hw:Wd Γ (D3 bp a n c at' e.Line e.Col::.blk b2 (.cells (enc (⟨F1,P5⟩:O8)).toArray 75)::.blk b3 (.cells (enc t).toArray 102)::S) w:=hw.ps [2,2]
 refine A6 ?_;refine A0 rfl (fun h=>?_) (fun h=>?_)
 ·have h1:t.Kind=1:=of_decide_eq_true h
  clear h;rw[if_pos h1];have hp0:=hpos h1
  refine A6 ?_;refine K1 (vs:=[.pointer (some ⟨bp,0,none⟩)]) ?_
  refine(hWd _ _ hw).mono ?_
  clear hw;rintro r w hr
  by_cases hc:t.Kind=1∧KW t.Text=false
  rotate_left
  ·rw[if_neg hc]at hr ⊢
   obtain⟨rfl,k,hw⟩:=hr;exact⟨rfl,k,(hw.dropAt 1).dropAt 1⟩
  rw[if_pos hc]at hr ⊢
  by_cases hs:t.Text.size≤24
  rotate_left
  ·rw[if_neg hs]at hr ⊢
   obtain⟨rfl,k,hw⟩:=hr;exact⟨rfl,k,(hw.dropAt 1).dropAt 1⟩
  rw[if_pos hs]at hr ⊢
  obtain⟨rfl,hk,hw⟩:=hr;have hv:Hs t.Text=if QB t.Text=true then ⟨t.Text,P5⟩ else ⟨F1,⟨2,0,t.Text⟩⟩:=rfl
  refine A6 ?_;refine A0 rfl (fun h=>?_) (fun h=>?_)
  ·have h:QB t.Text=true:=h
   rw[if_pos h]at hv;refine A6 ?_;refine B0 (i:=1) ?_
   intro w hw;have hw:Wd Γ (.blk b2 (.cells (enc (⟨t.Text,P5⟩:O8)).toArray 75)::D3 bp a n c (at'+1) e.Line e.Col::.blk b3 (.cells (enc t).toArray 102)::S) w:=hw.ps [1]
   refine A6 ?_;refine⟨[.agg (enc (⟨t.Text,P5⟩:O8)).toArray],⟨U4 (i:=0) hw rfl rfl rfl,trivial⟩,?_⟩
   show Cg Γ S bp a n c e (fun o:O8=>.agg (enc o).toArray) (.ok (Hs t.Text,at'+1)) _ _
   rw[hv];exact⟨rfl,hk,hw.drop.dropAt 1⟩
  ·have h:QB t.Text=false:=h
   rw[if_neg (by rw[h];decide)]at hv
   refine A6 ?_;refine B0 (i:=1) ?_
   intro w hw;have hw:Wd Γ (.blk b2 (.cells (enc (⟨F1,⟨2,0,t.Text⟩⟩:O8)).toArray 75)::D3 bp a n c (at'+1) e.Line e.Col::.blk b3 (.cells (enc t).toArray 102)::S) w:=hw.ps [1]
   refine A6 ?_;refine⟨[.agg (enc (⟨F1,⟨2,0,t.Text⟩⟩:O8)).toArray],⟨U4 (i:=0) hw rfl rfl rfl,trivial⟩,?_⟩
   show Cg Γ S bp a n c e (fun o:O8=>.agg (enc o).toArray) (.ok (Hs t.Text,at'+1)) _ _
   rw[hv];exact⟨rfl,hk,hw.drop.dropAt 1⟩
 have h1:¬t.Kind=1:=of_decide_eq_false h
 clear h;rw[if_neg h1];refine A6 ?_;refine A0 rfl (fun h=>?_) (fun h=>?_)
 ·have h3:t.Kind=3:=of_decide_eq_true h
  clear h;rw[if_pos h3];have hlt:=hlt (by omega)
  refine A6 ?_;refine A0 rfl (fun h=>?_) (fun h=>?_)
  ·have h:(decide (t.Text=⟨#[]⟩)||decide ((24:Int)<(t.Text.size:Int)))=true:=h
   rw[if_pos (by simp only[Bool.or_eq_true,decide_eq_true_eq]at h;exact h.imp id fun h=>by omega)]
   refine A6 ?_;refine K1 ?_
   refine(Dq 63 ht hw).mono ?_
   rintro r w ⟨rfl,hw⟩
   exact⟨rfl,at',(hw.dropAt 1).dropAt 1⟩
  ·have h:(decide (t.Text=⟨#[]⟩)||decide ((24:Int)<(t.Text.size:Int)))=false:=h
   rw[if_neg (by simp only[Bool.or_eq_false_iff,decide_eq_false_iff_not]at h;exact fun hh=>hh.elim h.1 fun h2=>h.2 (by omega))]
   unfold D3 at hw;refine A6 ?_;refine B0 ?_;intro w hw;refine A6 ?_;refine B0 (i:=1) ?_
   intro w hw;have hw:Wd Γ (.blk b2 (.cells (enc (⟨F1,⟨2,0,t.Text⟩⟩:O8)).toArray 75)::D3 bp a n c (at'+1) e.Line e.Col::.blk b3 (.cells (enc t).toArray 102)::S) w:=hw.ps [1]
   refine A6 ?_;exact⟨[.agg (enc (⟨F1,⟨2,0,t.Text⟩⟩:O8)).toArray],⟨U4 (i:=0) hw rfl rfl rfl,trivial⟩,rfl,by omega,hw.drop.dropAt 1⟩
 ·have h3:¬t.Kind=3:=of_decide_eq_false h
  clear h;rw[if_neg h3];refine A6 ?_;refine K1 (vs:=[.pointer (some ⟨bp,0,none⟩)]) ?_
  refine(JS hat hN ht hw).mono ?_
  clear hw;rintro r w hr
  cases hI:GG toks e at' with
  | error q=>
   obtain⟨p,er⟩:=q;rw[hI]at hr;obtain⟨rfl,k,hw⟩:=hr;exact⟨rfl,k,(hw.dropAt 1).dropAt 1⟩
  | ok q=>
   obtain⟨x,k⟩:=q;rw[hI]at hr;obtain⟨rfl,hk,hw⟩:=hr;refine A6 ?_;refine B0 (i:=1) ?_
   intro w hw;have hw:Wd Γ (.blk b2 (.cells (enc (⟨F1,⟨1,x,⟨#[]⟩⟩⟩:O8)).toArray 75)::D3 bp a n c k e.Line e.Col::.blk b3 (.cells (enc t).toArray 102)::S) w:=hw.ps [1]
   refine A6 ?_;exact⟨[.agg (enc (⟨F1,⟨1,x,⟨#[]⟩⟩⟩:O8)).toArray],⟨U4 (i:=0) hw rfl rfl rfl,trivial⟩,rfl,hk,hw.drop.dropAt 1⟩
end
end Go.Proofs.YtlmiakjbogojgaaGreatDoor
end
section
open Go Mk
namespace Go.Proofs.YtlmiakjbogojgaaGreatDoor
set_option maxHeartbeats 16000000
attribute [local irreducible] Calls cI cB
section
variable {P:Program}{n:Nat}{ops:List Oper}{Γ:C8}{K:List B6}{wr tc stab:List (List Nat)}{Q:Fr→World→Prop}{i:Nat}{rest:List Oper}{ρ:Fr}{M:Nat→Fr→List B6}
variable {T T':Type}{ty:TypeId}{pos:String}{es:Array Edge}
theorem HB{c dd f:Nat}{args:List Operand}{tys:Array TypeId}{vs:List Value}{φ:T→Fr→Prop}{R:T→List B6}[C7 P f](val:T'→Value)(R':T'→List B6)
  (hcall:∀t S w,Wd Γ (R t++S) w→Calls P f vs.toArray w fun e w'=>∃t':T',e=.returned (val t')∧Wd Γ (R' t'++S) w')
  (h:MSw (mV P n ops Γ K wr tc stab) Q (i+1) rest ⟨D6 ρ (some dd) undef,M1 M c (T4 (fun (t:T') g=>g dd=val t) R')⟩)
  (hw0:wr.getD i []=[c]:=by exact rfl) (ht:tc.getD i []=[c]:=by exact rfl) (hM:M c=T4 φ R:=by first|exact C6|exact VA|exact CX|exact((A9 (by decide)).trans C6)|exact((A9 (by decide)).trans CX)|exact rfl)
  (hs:(stab.getD c []).contains dd=true:=by exact rfl) (hfr:Y7 stab (some dd)=true:=by exact rfl) (ha:∀g,EvL (E8 stab.flatten g ρ) args vs:=by intro g;exact AB) :
  MSw (mV P n ops Γ K wr tc stab) Q i (⟨some dd,.call { callee:=.value (.func f),args:=args.toArray,argTypes:=tys },ty,pos,es,none⟩::rest) ⟨ρ,M⟩:=
 mS (v:=undef) (T4 (fun (t:T') g=>g dd=val t) R') (fun g w Y hw=>by
  obtain⟨t,-,hw⟩:=p7 hw
  refine Ba (ha g).eqA ((hcall t _ _ hw).mono ?_)
  rintro e w' ⟨t',rfl,hw'⟩
  refine⟨_,rfl,fun hh=>(by rw[hfr]at hh;cases hh),Ag t' ?_ hw'⟩
  rw[K0 (by simpa using hs)];exact upd_same _ _ _) h hM hw0 ht rfl
end
theorem Av{P:Program}{d:Option Tmp}{T f:Nat}{x:Operand}{ty:TypeId}{pos:String}{es:Array Edge}{g:Option (Nat×Bool)}{ρ:Fr}{w:World}{cs:Array Value}{v:Value}{fs:Array Field}{fd:Field}(hu:P.underlying T=some (.struct fs))(hf:fs[f]? = some fd)(hs:Fw P fd.type=true)(hc:cs[fd.offset]? = some v)(hx:ev ρ x=.agg cs) :
  Mk.Yields P ⟨d,.field T x f,ty,pos,es,g⟩ ρ w v:=by
 unfold Mk.Yields;simp[execOp,go_sem,hx,Instr.field,run_underlying hu,hf,part,w4 hs,hc,asAgg]
theorem Ir{c:Bool}{v:Value}(h:c=true):gv c v=v:=Bi h rfl
def V6:ByteArray:=⟨#[44]⟩
def Ar:ByteArray:=⟨#[40]⟩
def Ox:ByteArray:=⟨#[41]⟩
def AU:ByteArray:=⟨#[110,111,116]⟩
def I1:O8:=⟨F1,P5⟩
def bI(s:ByteArray)(os:List O8):H3:=⟨1,s,os,0,I1,I1,0,0,0⟩
section
variable {Γ:C8}{S:List B6}{w:World}{bp:Nat}{a:Option Addr}{n c at':Nat}{e1 e2:Int}{toks:List Tok}
end
end Go.Proofs.YtlmiakjbogojgaaGreatDoor
end
section
open Go
namespace Mk
attribute [local irreducible] Calls
section
variable {PP:List PanicEntry→World→Prop}{P:Program}{n:Nat}{ops:List Oper}{Γ:C8}{K:List B6}{wr tc stab:List (List Nat)}{Q:Fr→World→Prop}{i:Nat}{rest:List Oper}{ρ:Fr}{M:Nat→Fr→List B6}{o:Oper}{v:Value}
theorem eC(hy:∀Y w g,Wd Γ (K++(F4 tc stab i M g++Y)) w→Step P o (E8 stab.flatten g ρ) w fun u w'=>u=v∧Wd Γ (K++(F4 tc stab i M g++Y)) w')(hw0:wr.getD i []=[])(hg:o.guard=none)(ho:FE tc stab i o.dst=true)
  (h:MSwE PP (mV P n ops Γ K wr tc stab) Q (i+1) rest ⟨D6 ρ o.dst v,M⟩):MSwE PP (mV P n ops Γ K wr tc stab) Q i (o::rest) ⟨ρ,M⟩:=by
 have hn:∀c,Mt.nxt (mV P n ops Γ K wr tc stab) i ⟨ρ,M⟩ c=M:=fun c=>by
  funext x;simp only[Mt.nxt,Y5.w,hw0];rfl
 refine⟨⟨v,M⟩,⟨fun Γ' Y w g hr hw=>?_⟩,?_⟩
 ·have hΓ:Γ'=Γ:=hr
  subst hΓ;rw[hn];refine⟨fun _=>Step.toE ((hy Y w g hw).mono fun u w' ⟨h1,h2⟩=>⟨Γ',rfl,?_,fun _=>h1⟩),fun hf=>?_⟩
  ·have:=Pd (g:=g) (v:=u) ho M
   show Wd Γ' (K++(F4 tc stab i M (D6 g o.dst u)++Y)) w'
   rw[this];exact h2
  ·rw[g7 hg]at hf;cases hf
 ·simp only[Mt.next,hn];exact h
theorem eY(h:MSwE PP (mV P n ops Γ K wr tc stab) Q (i+1) rest ⟨D6 ρ o.dst v,M⟩)(hw0:wr.getD i []=[]:=by exact rfl)(hg:o.guard=none:=by exact rfl)(ho:FE tc stab i o.dst=true:=by exact rfl)
  (hy:∀Y w g,Wd Γ (K++(F4 tc stab i M g++Y)) w→Yields P o (E8 stab.flatten g ρ) w v:=by (intro Y w g hw;exact SK)):MSwE PP (mV P n ops Γ K wr tc stab) Q i (o::rest) ⟨ρ,M⟩:=
 eC (fun Y w g hw=>(hy Y w g hw).step ⟨rfl,hw⟩) hw0 hg ho h
theorem eM{x:Nat}(m:Fr→List B6)(hs:∀Y w g,Wd Γ (K++(F4 tc stab i M g++Y)) w→s6 PP P o (E8 stab.flatten g ρ) w fun u w'=>Wd Γ (K++(F4 tc stab i (M1 M x m) (D6 g o.dst u)++Y)) w'∧(Y7 stab o.dst=false→u=v))
  (h:MSwE PP (mV P n ops Γ K wr tc stab) Q (i+1) rest ⟨D6 ρ o.dst v,M1 M x m⟩) (hw0:wr.getD i []=[x]:=by exact rfl) (hg:o.guard=none:=by exact rfl):MSwE PP (mV P n ops Γ K wr tc stab) Q i (o::rest) ⟨ρ,M⟩:=by
 have hn:Mt.nxt (mV P n ops Γ K wr tc stab) i ⟨ρ,M⟩ ⟨v,fun _=>m⟩=M1 M x m:=by
  funext y;simp only[Mt.nxt,Y5.w,hw0];rfl
 refine⟨⟨v,fun _=>m⟩,⟨fun Γ' Y w g hr hw=>?_⟩,?_⟩
 ·have hΓ:Γ'=Γ:=hr
  subst hΓ;rw[hn];refine⟨fun _=>(hs Y w g hw).mono fun u w' ⟨h1,h2⟩=>⟨Γ',rfl,h1,h2⟩,fun hf=>?_⟩
  rw[g7 hg]at hf;cases hf
 ·simp only[Mt.next,hn];exact h
theorem eS{c:Nat}{F:Fr→List B6}(F':Fr→List B6)
  (hs:∀g w Y,Wd Γ (F (E8 (stab.getD c []) g D5)++(K++Y)) w→s6 PP P o (E8 stab.flatten g ρ) w fun u w'=>(Y7 stab o.dst=false→u=v)∧Wd Γ (F' (E8 (stab.getD c []) (D6 g o.dst u) D5)++(K++Y)) w')
  (h:MSwE PP (mV P n ops Γ K wr tc stab) Q (i+1) rest ⟨D6 ρ o.dst v,M1 M c F'⟩) (hM:M c=F:=by first|exact C6|exact VA|exact CX|exact((A9 (by decide)).trans C6)|exact rfl) (hw0:wr.getD i []=[c]:=by exact rfl) (ht:tc.getD i []=[c]:=by exact rfl) (hg:o.guard=none:=by exact rfl) :
  MSwE PP (mV P n ops Γ K wr tc stab) Q i (o::rest) ⟨ρ,M⟩:=by
 refine eM _ (fun Y w g hw=>?_) h hw0 hg
 rw[Q7 ht,hM]at hw;refine(hs g w Y hw.swapApp).mono ?_
 rintro u w' ⟨h2,h3⟩
 refine⟨?_,h2⟩
 rw[Q7 ht,C6];exact h3.swapApp
theorem LN{T T':Type}{c dd f:Nat}{args:List Operand}{tys:Array TypeId}{ty:TypeId}{pos:String}{es:Array Edge}{vs:List Value}{φ:T→Fr→Prop}{R:T→List B6}[C7 P f](val:T'→Value)(R':T'→List B6)
  (hcall:∀t Z w,Wd Γ (R t++Z) w→Calls P f vs.toArray w (Ends (fun u w'=>∃t':T',u=val t'∧Wd Γ (R' t'++Z) w') PP))
  (h:MSwE PP (mV P n ops Γ K wr tc stab) Q (i+1) rest ⟨D6 ρ (some dd) undef,M1 M c (T4 (fun (t:T') g=>g dd=val t) R')⟩)
  (hw0:wr.getD i []=[c]:=by exact rfl) (ht:tc.getD i []=[c]:=by exact rfl) (hM:M c=T4 φ R:=by first|exact C6|exact VA|exact CX|exact((A9 (by decide)).trans C6)|exact((A9 (by decide)).trans CX)|exact rfl)
  (hs:(stab.getD c []).contains dd=true:=by exact rfl) (hfr:Y7 stab (some dd)=true:=by exact rfl) (ha:∀g,EvL (E8 stab.flatten g ρ) args vs:=by intro g;exact AB) :
  MSwE PP (mV P n ops Γ K wr tc stab) Q i (⟨some dd,.call { callee:=.value (.func f),args:=args.toArray,argTypes:=tys },ty,pos,es,none⟩::rest) ⟨ρ,M⟩:=
 eS (v:=undef) (T4 (fun (t:T') g=>g dd=val t) R') (fun g w Y hw=>by
  obtain⟨t,-,hw⟩:=p7 hw
  have hr:(execOp (ev (E8 stab.flatten g ρ)) ⟨some dd,.call { callee:=.value (.func f),args:=args.toArray,argTypes:=tys },ty,pos,es,none⟩).run P w=.ok (.enter f vs.toArray) w:=by
   simp only[execOp,resolve,(ha g).eqA,ev,Deferred.ofValue,Sem.run_bind,Sem.run_pure,Result.andThen_ok,invoke]
   simp[R3]
  unfold s6;rw[hr];refine(hcall t _ _ hw).mono ?_
  intro e w' he;refine he.mono ?_ fun ch w h=>h
  rintro u w' ⟨t',rfl,hw'⟩
  refine⟨fun hh=>(by rw[hfr]at hh;cases hh),Ag t' ?_ hw'⟩
  rw[K0 (by simpa using hs)];exact upd_same _ _ _) h hM hw0 ht rfl
theorem Wo{id:Nat}{l:List Oper}{QQ:Exit→Fr→World→Prop}{w:World}(PP:List PanicEntry→World→Prop)(K:List B6)(M:List (Fr→List B6))(wr tc stab:List (List Nat))(hw:Wd Γ (K++(List.range stab.length).flatMap fun x=>(ML M) x (E8 (stab.getD x []) ρ D5)) w)
  (hPP:∀ch ρ w,PP ch w→QQ (.panic ch) ρ w)
  (h:MSwE PP (mV P n l Γ K wr tc stab) (fun ρ w=>QQ .normal ρ w) 0 l ⟨ρ,ML M⟩) (hm:P.follows .mixedOrders=true:=by kernel_rfl) (hk:R6 n l wr tc stab=true:=by kernel_rfl):W P n (.region id l.toArray true) QQ ρ w:=
 Yt K (ML M) wr tc stab true hm hk hPP hw h
theorem noCell{L:List Nat}{c:Nat}{w:World}{Y:List B6}{g:Fr}{N:Nat→List Nat}{φ:Empty→Fr→Prop}{R:Empty→List B6}(hc:c∈L)(hM:M c=T4 φ R)(hw:Wd Γ (K++((L.flatMap fun x=>M x (E8 (N x) g D5))++Y)) w):False:=by
 obtain⟨l1,l2,rfl⟩:=List.append_of_mem hc
 rw[List.flatMap_append,List.flatMap_cons,hM]at hw;have hw:Wd Γ (T4 φ R (E8 (N c) g D5)++(K++((l1.flatMap fun x=>M x (E8 (N x) g D5))++((l2.flatMap fun x=>M x (E8 (N x) g D5))++Y)))) w:=hw.perm (by
  rw[List.append_assoc,List.append_assoc];exact(List.Perm.append_left K (List.perm_append_comm_assoc _ _ _)).trans (List.perm_append_comm_assoc _ _ _))
 obtain⟨t,-,-⟩:=p7 hw
 exact t.elim
theorem NW{c:Nat}{φ:Empty→Fr→Prop}{R:Empty→List B6}(h:MSwE PP (mV P n ops Γ K wr tc stab) Q (i+1) rest ⟨D6 ρ o.dst undef,M⟩)(hM:M c=T4 φ R:=by first|exact C6|exact rfl)(ht:(tc.getD i []).contains c=true:=by exact rfl) :
  MSwE PP (mV P n ops Γ K wr tc stab) Q i (o::rest) ⟨ρ,M⟩:=by
 have hn:Mt.nxt (mV P n ops Γ K wr tc stab) i ⟨ρ,M⟩ ⟨undef,M⟩=M:=by
  funext x;simp only[Mt.nxt];cases ((mV P n ops Γ K wr tc stab).w i).contains x <;> rfl
 refine⟨⟨undef,M⟩,⟨fun Γ' Y w g hr hw=>?_⟩,?_⟩
 ·exact(noCell (L:=tc.getD i []) (N:=fun x=>stab.getD x []) (by simpa using ht) hM hw).elim
 ·simp only[Mt.next,hn];exact h
theorem HN{c:Nat}{φ:Empty→Fr→Prop}{R:Empty→List B6}(hM:M c=T4 φ R:=by first|exact C6|exact rfl)(hl:(List.range stab.length).contains c=true:=by exact rfl):MSwE PP (mV P n ops Γ K wr tc stab) Q i [] ⟨ρ,M⟩:=fun Γ' w g hr hw=>by
 refine(noCell (L:=List.range stab.length) (N:=fun x=>stab.getD x []) (Y:=[]) (K:=K) (Γ:=Γ') (w:=w) (g:=g) (by simpa using hl) hM ?_).elim
 rw[List.append_nil];exact hw
theorem Ed{id:Nat}{l:List Oper}{QQ:Exit→Fr→World→Prop}{w:World}(PP:List PanicEntry→World→Prop)(K X0 X1 X2:List B6)(N1 N2:List Nat)(wr tc:List (List Nat))(hw:Wd Γ (K++(X0++(X1++X2))) w)
  (hPP:∀ch ρ w,PP ch w→QQ (.panic ch) ρ w)
  (h:MSwE PP (mV P n l Γ K wr tc [[],N1,N2]) (fun ρ w=>QQ .normal ρ w) 0 l ⟨ρ,ML [fun _=>X0,T4 (T:=Unit) (fun _ _=>True) (fun _=>X1),T4 (T:=Unit) (fun _ _=>True) (fun _=>X2)]⟩)
  (hm:P.follows .mixedOrders=true:=by kernel_rfl) (hk:R6 n l wr tc [[],N1,N2]=true:=by kernel_rfl):W P n (.region id l.toArray true) QQ ρ w:=
 Wo PP K [fun _=>X0,T4 (T:=Unit) (fun _ _=>True) (fun _=>X1),T4 (T:=Unit) (fun _ _=>True) (fun _=>X2)] wr tc [[],N1,N2] (by
  show Wd Γ (K++(X0++(T4 (T:=Unit) (fun _ _=>True) (fun _=>X1) (E8 N1 ρ D5)++(T4 (T:=Unit) (fun _ _=>True) (fun _=>X2) (E8 N2 ρ D5)++[])))) w
  rw[List.append_nil];have h1:Wd Γ (X1++(X2++(K++X0))) w:=hw.perm (by
   rw[←List.append_assoc,←List.append_assoc X1];exact List.perm_append_comm)
  have h2:Wd Γ (T4 (T:=Unit) (fun _ _=>True) (fun _=>X1) (E8 N1 ρ D5)++(X2++(K++X0))) w:=Ag () trivial h1
  have h3:Wd Γ (X2++(T4 (T:=Unit) (fun _ _=>True) (fun _=>X1) (E8 N1 ρ D5)++(K++X0))) w:=h2.perm (List.perm_append_comm_assoc _ _ _)
  have h4:Wd Γ (T4 (T:=Unit) (fun _ _=>True) (fun _=>X2) (E8 N2 ρ D5)++(T4 (T:=Unit) (fun _ _=>True) (fun _=>X1) (E8 N1 ρ D5)++(K++X0))) w:=Ag () trivial h3
  have h5:Wd Γ (T4 (T:=Unit) (fun _ _=>True) (fun _=>X1) (E8 N1 ρ D5)++(T4 (T:=Unit) (fun _ _=>True) (fun _=>X2) (E8 N2 ρ D5)++(K++X0))) w:=h4.perm (List.perm_append_comm_assoc _ _ _)
  exact h5.perm (by
   rw[←List.append_assoc,←List.append_assoc K];exact List.perm_append_comm)) hPP h hm hk
end
end Mk
end
section
open Go Mk
namespace Go.Proofs.YtlmiakjbogojgaaGreatDoor
set_option maxHeartbeats 32000000
def NV:ByteArray:=⟨#[105,110]⟩
def Hv:ByteArray:=⟨#[46,46]⟩
def Lp:ByteArray:=⟨#[43]⟩
def ek:ByteArray:=⟨#[61]⟩
def gF:ByteArray:=⟨#[33,61]⟩
def gM:ByteArray:=⟨#[60]⟩
def gC:ByteArray:=⟨#[60,61]⟩
def gJ:ByteArray:=⟨#[62]⟩
def gD:ByteArray:=⟨#[62,61]⟩
def Bg:List ByteArray:=[F1,ek,gF,gM,gC,gJ,gD]
def opAt(toks:List Tok)(k:Nat):Nat:=if Q4 toks k 4 ek=true then 1 else if Q4 toks k 4 gF=true then 2 else if Q4 toks k 4 gM=true then 3 else if Q4 toks k 4 gC=true then 4 else if Q4 toks k 4 gJ=true then 5 else if Q4 toks k 4 gD=true then 6 else 0
def O2{α β:Type}(x:PR α)(f:α→Nat→PR β):PR β:=match x with
 | .ok (a,k)=>f a k
 | .error q=>.error q
def Dr(toks:List Tok)(e:H9):Nat→List O8→Nat→PR (List O8)
 | 0,acc,k=>.ok (acc,k)
 | f+1,acc,k=>if Q4 toks k 4 V6=true then O2 (Kp toks e (k+1)) fun o k1=>Dr toks e f (acc++[o]) k1 else .ok (acc,k)
def MI(toks:List Tok)(e:H9)(kind:Int)(k:Nat):PR H3:=
 O2 (y7 toks e k) fun s k1=>O2 (De toks e 4 Ar k1) fun _ k2=>O2 (Kp toks e k2) fun o k3=>O2 (Dr toks e (toks.length+1) [o] k3) fun os k4=>O2 (De toks e 4 Ox k4) fun _ k5=>.ok (⟨kind,s,os,0,I1,I1,0,0,0⟩,k5)
def Uk(toks:List Tok)(e:H9)(l:O8)(k:Nat):PR H3:=
 O2 (GG toks e k) fun lo k1=>O2 (De toks e 4 Hv k1) fun _ k2=>O2 (GG toks e k2) fun hi k3=>.ok (⟨4,F1,[],0,l,I1,0,lo,hi⟩,k3)
def Ue(toks:List Tok)(e:H9)(k:Nat):PR Int:=
 if Q4 toks k 4 Lp=true then NL (fun v=>IntKind.i64.wrap v) (DZ toks e 9223372036854775807 (k+1))
 else if Q4 toks k 4 Dw=true then NL (fun v=>IntKind.i64.wrap (-(IntKind.i64.wrap v))) (DZ toks e 9223372036854775807 (k+1))
 else .ok (0,k)
def UQ(toks:List Tok)(e:H9)(l:O8)(k:Nat):PR H3:=
 if opAt toks k=0 then .error (R9 toks k e,50) else O2 (Kp toks e (k+1)) fun r k1=>O2 (Ue toks e k1) fun o k2=>.ok (⟨3,F1,[],opAt toks k,l,r,o,0,0⟩,k2)
def AI(toks:List Tok)(e:H9)(k:Nat):PR H3:=
 if Q4 toks k 1 AU=true then MI toks e 2 (k+1)
 else if (P1 toks k).Kind=1∧Q4 toks (k+1) 4 Ar=true then MI toks e 1 k
 else O2 (Kp toks e k) fun l k1=>if (P1 toks k).Kind=1∧Q4 toks k1 1 NV=true then Uk toks e l (k1+1) else UQ toks e l k1
def aR(Γ:C8)(S:List B6)(bp:Nat)(a:Option Addr)(n c:Nat)(e:H9):PR H3→Ending→World→Prop
 | .ok (g,k),r,w=>∃v:Za,r=.returned (.agg (cG ⟨g,v.1,v.2.1,v.2.2⟩).toArray)∧k≤n∧Wd Γ (.own (gY v) 75 4 (g.Args.map enc)::D3 bp a n c k e.Line e.Col::S) w
 | .error (p,er),r,w=>r=.panicked [DO p er]∧∃k,Wd Γ (D3 bp a n c k e.Line e.Col::S) w
section
variable {Γ:C8}{S:List B6}{w:World}{bp:Nat}{a:Option Addr}{n c at':Nat}{e:H9}{toks:List Tok}
theorem EM{k k':Nat}{s:ByteArray}(h:y7 toks e k=.ok (s,k')):k'=k+1:=by
 unfold y7 at h;split at h
 ·split at h
  ·cases h;rfl
  ·cases h
 ·cases h
theorem Cd{most:Int}{k k':Nat}{v:Int}(h:DZ toks e most k=.ok (v,k')):k'=k+1:=by
 unfold DZ at h;split at h
 ·split at h
  ·cases h;rfl
  ·cases h
 ·cases h
theorem Z7{α β:Type}{f:α→β}{x:PR α}{y:β}{k:Nat}(h:NL f x=.ok (y,k)):∃z,x=.ok (z,k)∧y=f z:=by
 cases x with
 | error q=>cases h
 | ok q=>
  obtain⟨z,k'⟩:=q;cases h
  exact⟨z,rfl,rfl⟩
theorem HJ{k k':Nat}{o:O8}(h:Kp toks e k=.ok (o,k')):k<k':=by
 unfold Kp at h;split at h
 ·obtain⟨z,hz,-⟩:=Z7 h
  have:=EM hz
  omega
 ·split at h
  ·split at h
   ·cases h
   ·cases h;omega
  ·obtain⟨z,hz,-⟩:=Z7 h
   unfold GG at hz;split at hz
   ·obtain⟨z2,hz2,-⟩:=Z7 hz
    have:=Cd hz2
    omega
   ·obtain⟨z2,hz2,-⟩:=Z7 hz
    have:=Cd hz2
    omega
theorem YW{k k':Nat}{o:O8}(h:Kp toks e k=.ok (o,k')):k'≤toks.length:=by
 have num:∀ {most:Int} {j j':Nat} {v:Int},DZ toks e most j=.ok (v,j')→j'≤toks.length:=fun {most j j' v} h=>by
  have h1:=Cd h
  unfold DZ at h;split at h
  ·rename_i hk
   have:=DG (toks:=toks) (at':=j) (by omega)
   omega
  ·cases h
 unfold Kp at h;split at h
 ·rename_i hk
  obtain⟨z,hz,-⟩:=Z7 h
  have h1:=EM hz
  have:=DG (toks:=toks) (at':=k) (by omega)
  omega
 ·split at h
  ·rename_i hk
   split at h
   ·cases h
   ·cases h
    have:=DG (toks:=toks) (at':=k) (by omega)
    omega
  ·obtain⟨z,hz,-⟩:=Z7 h
   unfold GG at hz;split at hz
   ·obtain⟨z2,hz2,-⟩:=Z7 hz
    exact num hz2
   ·obtain⟨z2,hz2,-⟩:=Z7 hz
    exact num hz2
theorem Zr{k:Nat}(h:opAt toks k≠0):k<toks.length:=by
 by_cases hk:k<toks.length
 ·exact hk
 ·refine absurd ?_ h
  have hf:∀t,Q4 toks k 4 t=false:=fun t=>by
   cases hi:Q4 toks k 4 t with
   | true=>exact absurd (Al (by decide) hi) hk
   | false=>rfl
  unfold opAt;simp[hf]
theorem Kf{S:List B6}{w:World}(hw:Wd Γ S w):Calls Tryz.prog 110 #[] w fun r w'=>∃q:Addr,r=.returned (.slice (some q) 7 7)∧Wd Γ (.own (.slice (some q) 7 7) 9 1 (Bg.map fun s=>[.string s])::S) w':=by
 refine A7 Tryz.func110 rfl rfl ?_
 refine A6 ?_;refine B5 (Bg.map fun s=>[.string s]) ?_
 intro q w hw;refine A6 ?_;exact⟨_,rfl,q,rfl,hw⟩
def KF(toks:List Tok)(k:Nat):Nat→Nat
 | 0=>0
 | j+1=>if KF toks k j≠0 then KF toks k j else if 0<j∧Q4 toks k 4 (Bg.getD j F1)=true then j else 0
theorem ZG{k:Nat}:KF toks k 7=opAt toks k:=by
 have g0:Bg.getD 1 F1=ek:=rfl
 have g1:Bg.getD 2 F1=gF:=rfl
 have g2:Bg.getD 3 F1=gM:=rfl
 have g3:Bg.getD 4 F1=gC:=rfl
 have g4:Bg.getD 5 F1=gJ:=rfl
 have g5:Bg.getD 6 F1=gD:=rfl
 simp only[KF,opAt,g0,g1,g2,g3,g4,g5]
 cases Q4 toks k 4 ek <;> cases Q4 toks k 4 gF <;> cases Q4 toks k 4 gM <;> cases Q4 toks k 4 gC <;> cases Q4 toks k 4 gJ <;> cases Q4 toks k 4 gD <;> simp
theorem UH(hW:Im toks)(hat:at'≤n)(hN:toks.length≤1000000)(ht:D7 Γ (.slice a n c) 5 (toks.map enc))(hw:Wd Γ (D3 bp a n c at' e.Line e.Col::S) w) :
  Calls Tryz.prog 93 #[.pointer (some ⟨bp,0,none⟩)] w (aR Γ S bp a n c e (AI toks e at')):=by
 have hn:n=toks.length:=by obtain⟨_,_,_,h1,h2,h3⟩:=ht.shape;cases h1;simpa using h2
 refine I4 Tryz.func93 rfl rfl ?_
 refine A6 ?_;refine B9 ?_;intro b2 w hw;refine A6 ?_;refine B9 ?_;intro b3 w hw;refine B0 ?_;intro w hw;have hw:Wd Γ (D3 bp a n c at' e.Line e.Col::.blk b3 (.cells (cG ⟨bI F1 [],none,0,0⟩).toArray 77)::.blk b2 (.cells (cG ⟨⟨0,F1,[],0,I1,I1,0,0,0⟩,none,0,0⟩).toArray 77)::S) w:=hw.ps [2]
 refine A6 ?_;refine C9 (vs:=[.pointer (some ⟨bp,0,none⟩),.int .i64 1,.string AU]) ?_
 refine(Z4 1 AU hat hN ht hw).mono ?_
 clear hw;rintro r w ⟨rfl,hw⟩
 refine⟨_,rfl,?_⟩;refine A6 ?_;refine JA (fun ρ w=>Has ρ [(0,.pointer (some ⟨bp,0,none⟩)),(2,.pointer (some ⟨b2,0,none⟩)),(3,.pointer (some ⟨b3,0,none⟩))]∧Wd Γ (D3 bp a n c (if Q4 toks at' 1 AU=true then at'+1 else at') e.Line e.Col::.blk b3 (.cells (cG ⟨⟨if Q4 toks at' 1 AU=true then 2 else 1,F1,[],0,I1,I1,0,0,0⟩,none,0,0⟩).toArray 77)::.blk b2 (.cells (cG ⟨⟨0,F1,[],0,I1,I1,0,0,0⟩,none,0,0⟩).toArray 77)::S) w) ?_ ?_
 ·refine A0 rfl (fun h=>?_) (fun h=>?_)
  ·have hwq:Wd Γ (D3 bp a n c (if Q4 toks at' 1 AU=true then at'+1 else at') e.Line e.Col::.blk b3 (.cells (cG ⟨bI F1 [],none,0,0⟩).toArray 77)::.blk b2 (.cells (cG ⟨⟨0,F1,[],0,I1,I1,0,0,0⟩,none,0,0⟩).toArray 77)::S) w:=hw
   clear hw;have hw:=hwq
   clear hwq;rw[h]at hw ⊢
   simp only[if_true]at hw ⊢
   refine A6 ?_;refine B0 (i:=1) ?_
   intro w hw;have hw:Wd Γ (D3 bp a n c (at'+1) e.Line e.Col::.blk b3 (.cells (cG ⟨⟨2,F1,[],0,I1,I1,0,0,0⟩,none,0,0⟩).toArray 77)::.blk b2 (.cells (cG ⟨⟨0,F1,[],0,I1,I1,0,0,0⟩,none,0,0⟩).toArray 77)::S) w:=hw
   refine A6 ?_;exact⟨⟨rfl,rfl,rfl,trivial⟩,hw⟩
  ·rw[h]at hw ⊢
   refine A6 ?_;exact⟨⟨rfl,rfl,rfl,trivial⟩,hw⟩
 clear hw;rintro ρ w ⟨hρ,hw⟩
 rw[hρ.eq];clear hρ;have hk1:(if Q4 toks at' 1 AU=true then at'+1 else at')≤n:=by
  split
  ·rename_i h;have:=Al (by decide) h;omega
  ·exact hat
 refine y0 ?_
 refine BK (fun ρ w=>Has ρ [(0,.pointer (some ⟨bp,0,none⟩)),(2,.pointer (some ⟨b2,0,none⟩)),(3,.pointer (some ⟨b3,0,none⟩)),(23,.bool (Q4 toks at' 1 AU||(decide ((P1 toks at').Kind=1)&&Q4 toks (at'+1) 4 Ar)))]∧Wd Γ (D3 bp a n c (if Q4 toks at' 1 AU=true then at'+1 else at') e.Line e.Col::.blk b3 (.cells (cG ⟨⟨if Q4 toks at' 1 AU=true then 2 else 1,F1,[],0,I1,I1,0,0,0⟩,none,0,0⟩).toArray 77)::.blk b2 (.cells (cG ⟨⟨0,F1,[],0,I1,I1,0,0,0⟩,none,0,0⟩).toArray 77)::S) w) ?_ ?_
 ·cases hi:Q4 toks at' 1 AU with
  | true=>
   rw[hi]at hw;simp only[if_true]at hw ⊢
   refine A6 ?_;refine Py ?_ (hct:=by decide)
   refine Py ?_ (hct:=by decide)
   refine Py ?_ (hct:=by decide)
   refine Py ?_ (hct:=by decide)
   repeat(first|(first|refine y0 ?_|refine AT ?_|refine W7 ?_|refine Bf ?_|refine Hl ?_|refine Dz ?_)|((first|apply Jx|apply CW);first|(refine lT ?_ ?_;(first|exact rfl|exact decide_eq_true rfl|exact hb1|exact hb2|exact hb3|exact hb4|(focus (simp;done))))|(refine lF ?_ ?_;(first|exact rfl|exact decide_eq_true rfl|exact hb1|exact hb2|exact hb3|exact hb4|(focus (simp;done)))))|(first|refine p9 ?_|(apply AN;first|(apply Dd;first|refine lP ?_|(refine XN ?_;intro w hw))|(apply OE;refine i5 ?_)|refine lY ?_)|(apply V2;first|refine QM ?_ (hct:=rfl)|refine Py ?_ (hct:=rfl)|(apply Dd;first|refine cv ?_|(refine Mw ?_;intro w hw))|refine lG ?_))|(refine B9 ?_;intro _ w hw)|(refine H2 ?_;intro _ w hw)|(refine B0 ?_;intro w hw)|(apply V2;refine Py ?_ (hc:=by exact F5.u) (hct:=rfl)))
   exact⟨⟨rfl,rfl,rfl,rfl,trivial⟩,hw⟩
  | false=>
   rw[hi]at hw;have hw:Wd Γ (D3 bp a n c at' e.Line e.Col::.blk b3 (.cells (cG ⟨bI F1 [],none,0,0⟩).toArray 77)::.blk b2 (.cells (cG ⟨⟨0,F1,[],0,I1,I1,0,0,0⟩,none,0,0⟩).toArray 77)::S) w:=hw
   refine A6 ?_;refine QM (hct:=by decide) ?_
   refine C9 (vs:=[.pointer (some ⟨bp,0,none⟩),.int .i64 0]) ?_ (ha:=EvL.cons (Ir (by decide)) (EvL.cons rfl EvL.nil))
   refine(Eh (j:=0) (by decide) hat hN ht hw).mono ?_
   clear hw;rintro r w ⟨rfl,hw⟩
   rw[Nat.add_zero];refine⟨_,rfl,?_⟩;refine A6 ?_;refine lG ?_ (hv:=by intro hc;exact Av Tryz.underlying102 rfl (by kernel_rfl) rfl rfl)
   refine A6 ?_;by_cases hk:(P1 toks at').Kind=1
   ·have hkc:(!decide ((1:Int)=2)&&decide ((P1 toks at').Kind=1))=true:=by rw[decide_eq_true hk];decide
    refine QM (hct:=hkc) ?_
    refine C9 (vs:=[.pointer (some ⟨bp,0,none⟩),.int .i64 1,.int .i64 4,.string Ar]) ?_ (ha:=EvL.cons (Ir hkc) (EvL.cons rfl (EvL.cons rfl (EvL.cons rfl EvL.nil))))
    refine(dp (j:=1) (by decide) 4 Ar hat hN ht hw).mono ?_
    clear hw;rintro r w ⟨rfl,hw⟩
    refine⟨_,rfl,?_⟩;generalize Q4 toks (at'+1) 4 Ar=bl
    refine A6 ?_;refine QM (hct:=by decide) ?_
    refine lY (v:=.bool bl) ?_ (hy:=EX ((Ir (by decide)).trans (by rw[decide_eq_true hk])) rfl)
    refine lY (v:=.bool bl) ?_ (hy:=BV (congrArg Value.bool (by decide)) rfl)
    refine A6 ?_;rw[decide_eq_true hk];exact⟨⟨rfl,rfl,rfl,rfl,trivial⟩,hw⟩
   ·have hkc:(!decide ((1:Int)=2)&&decide ((P1 toks at').Kind=1))=false:=by rw[decide_eq_false hk];decide
    refine Py (hct:=hkc) ?_
    refine QM (hct:=by decide) ?_
    refine lY (v:=.bool false) ?_ (hy:=BV ((Ir (by decide)).trans (by rw[decide_eq_false hk])) rfl)
    refine lY (v:=.bool false) ?_ (hy:=BV (congrArg Value.bool (by decide)) rfl)
    refine A6 ?_;rw[decide_eq_false hk];exact⟨⟨rfl,rfl,rfl,rfl,trivial⟩,hw⟩
 clear hw;rintro ρ w ⟨hρ,hw⟩
 rw[hρ.eq];clear hρ;have hopl:=fun k o k'=>HJ (toks:=toks) (e:=e) (k:=k) (o:=o) (k':=k')
 refine A0 rfl (fun h=>?_) (fun h=>?_)
 ·obtain⟨kd,hkd⟩:∃kd:Int,kd=if Q4 toks at' 1 AU=true then 2 else 1:=⟨_,rfl⟩
  obtain⟨k1,hk1d⟩:∃k1,k1=if Q4 toks at' 1 AU=true then at'+1 else at':=⟨_,rfl⟩
  have hG:AI toks e at'=MI toks e kd k1:=by
   unfold AI;rw[hkd,hk1d];cases hi:Q4 toks at' 1 AU with
   | true=>simp
   | false=>
    rw[hi,Bool.false_or,Bool.and_eq_true,decide_eq_true_eq]at h;rw[if_neg (by decide),if_pos h,if_neg (by decide),if_neg (by decide)]
  rw[←hk1d]at hk1;rw[←hk1d,←hkd]at hw;rw[hG];clear h hG hkd hk1d;unfold MI;refine A6 ?_;refine K1 (vs:=[.pointer (some ⟨bp,0,none⟩)]) ?_
  refine(LA hk1 hN ht hw).mono ?_
  clear hw;rintro r w hr
  cases hWd:y7 toks e k1 with
  | error q=>
   obtain⟨p,er⟩:=q;rw[hWd]at hr;obtain⟨rfl,k,hw⟩:=hr;exact⟨rfl,k,(hw.dropAt 1).dropAt 1⟩
  | ok q=>
  obtain⟨s,k2⟩:=q;rw[hWd]at hr;obtain⟨rfl,hk2,hw⟩:=hr;show L _ _ _ _ _ _ _
  simp only[O2]
  refine A6 ?_;refine B0 (i:=1) ?_
  intro w hw;have hw:Wd Γ (D3 bp a n c k2 e.Line e.Col::.blk b3 (.cells (cG ⟨⟨kd,s,[],0,I1,I1,0,0,0⟩,none,0,0⟩).toArray 77)::.blk b2 (.cells (cG ⟨⟨0,F1,[],0,I1,I1,0,0,0⟩,none,0,0⟩).toArray 77)::S) w:=hw
  refine A6 ?_;refine K1 (vs:=[.pointer (some ⟨bp,0,none⟩),.int .i64 4,.string Ar]) ?_
  refine(Fi 4 Ar (by decide) hk2 hN ht hw).mono ?_
  clear hw;rintro r w hr
  cases hE:De toks e 4 Ar k2 with
  | error q=>
   obtain⟨p,er⟩:=q;rw[hE]at hr;obtain⟨rfl,k,hw⟩:=hr;exact⟨rfl,k,(hw.dropAt 1).dropAt 1⟩
  | ok q=>
  obtain⟨_,k3⟩:=q;rw[hE]at hr;obtain⟨rfl,hk9,hw⟩:=hr;show L _ _ _ _ _ _ _
  simp only[O2]
  refine A6 ?_;have hw:=Wd.addNil (a:=none) (E:=75) (sz:=4) hw
  have hw:Wd Γ (.own (.slice none 0 0) 75 4 (([]:List O8).map enc)::D3 bp a n c k3 e.Line e.Col::.blk b3 (.cells (cG ⟨⟨kd,s,[],0,I1,I1,0,0,0⟩,none,0,0⟩).toArray 77)::.blk b2 (.cells (cG ⟨⟨0,F1,[],0,I1,I1,0,0,0⟩,none,0,0⟩).toArray 77)::S) w:=hw
  cases hO:Kp toks e k3 with
  | error q=>
   obtain⟨p,er⟩:=q;refine Ed (fun ch w=>ch=[DO p er]∧∃k,Wd Γ (D3 bp a n c k e.Line e.Col::S) w) [.blk b2 (.cells (cG ⟨⟨0,F1,[],0,I1,I1,0,0,0⟩,none,0,0⟩).toArray 77)] [.blk b3 (.cells (cG ⟨(⟨kd,s,[],0,I1,I1,0,0,0⟩:H3),none,0,0⟩).toArray 77)] (.own (.slice none 0 0) 75 4 (([]:List O8).map enc)::D3 bp a n c k3 e.Line e.Col::S) [] [32,33,34] [] [[],[],[],[1],[1],[1],[],[0,1]] [[],[0],[],[1],[1],[1],[],[0,1]] (by rw[List.append_nil];exact hw.ps [2,3]) (fun ch ρ w ⟨h1,h2⟩=>by subst h1;exact⟨rfl,h2⟩) ?_
   refine eY ?_
   refine eY ?_
   refine eY ?_
   refine LN (c:=1) (T:=Unit) (T':=Empty) (vs:=[.pointer (some ⟨bp,0,none⟩)]) (fun t=>t.elim) (fun t=>t.elim) (φ:=fun _ _=>True) (R:=fun _=>.own (.slice none 0 0) 75 4 (([]:List O8).map enc)::D3 bp a n c k3 e.Line e.Col::S) (fun _ Y w hw=>(CC hW hk9 hN ht (hw.ps [1]:Wd Γ (D3 bp a n c k3 e.Line e.Col::(.own (.slice none 0 0) 75 4 (([]:List O8).map enc)::(S++Y))) w)).mono fun r w h=>?_) ?_
   ·rw[hO]at h;obtain⟨rfl,k,hw⟩:=h;have hw:Wd Γ (D3 bp a n c k e.Line e.Col::(.own (.slice none 0 0) 75 4 (([]:List O8).map enc)::(S++Y))) w:=hw
    exact⟨rfl,k,Wd.left (S:=D3 bp a n c k e.Line e.Col::S) (hw.dropAt 1)⟩
   refine NW (c:=1) ?_
   refine NW (c:=1) ?_
   refine eY ?_
   refine NW (c:=1) ?_
   exact HN (c:=1)
  | ok q=>
  obtain⟨o,k9⟩:=q;refine Gw [.blk b2 (.cells (cG ⟨⟨0,F1,[],0,I1,I1,0,0,0⟩,none,0,0⟩).toArray 77)] [.blk b3 (.cells (cG ⟨(⟨kd,s,[],0,I1,I1,0,0,0⟩:H3),none,0,0⟩).toArray 77)] (.own (.slice none 0 0) 75 4 (([]:List O8).map enc)::D3 bp a n c k3 e.Line e.Col::S) [] [32,33,34] [] [[],[],[],[1],[1],[1],[],[0,1]] [[],[0],[],[1],[1],[1],[],[0,1]] (by rw[List.append_nil];exact hw.ps [2,3]) ?_
  repeat(first|refine mY ?_|refine mP ?_|refine T9 ?_|refine W3 ?_|refine V1 ?_)
  refine HB (c:=1) (T:=Unit) (T':=Unit) (vs:=[.pointer (some ⟨bp,0,none⟩)]) (fun _=>.agg (enc o).toArray) (fun _=>D3 bp a n c k9 e.Line e.Col::.own (.slice none 0 0) 75 4 (([]:List O8).map enc)::S) (R:=fun _=>.own (.slice none 0 0) 75 4 (([]:List O8).map enc)::D3 bp a n c k3 e.Line e.Col::S) (fun _ Y w hw=>(CC hW hk9 hN ht (hw.ps [1]:Wd Γ (D3 bp a n c k3 e.Line e.Col::(.own (.slice none 0 0) 75 4 (([]:List O8).map enc)::(S++Y))) w)).mono fun r w h=>by rw[hO]at h;exact⟨(),h.1,h.2.2⟩) ?_
  refine EW (T:=Unit) (fun _=>[enc o]) ?_ ?_
  rotate_left
  ·intro t g h;have h2:g 32=.agg (enc o).toArray:=h
   show r8 _ _ [(0,g 32)]=_
   rw[h2];rfl
  refine LJ (T:=Unit×Addr) (j:=2) (j2:=0) (fun t=>some t.2) (fun _=>[enc o]) ?_ ?_
  rotate_left
  ·intro t g h;exact h.2
  refine P3 ?_;refine HX (T:=(Unit×Addr)×Value) (j:=2) (val:=fun t=>t.2) ?_ ?_
  rotate_left
  ·intro t g h;exact h.2
  refine Ll fun t w g h hw=>?_
  obtain⟨⟨⟨⟩,aB⟩,vv⟩:=t;have hw:Wd Γ (.blk b3 (.cells #[.int .i64 kd,.string s,vv,.int .i64 0,.string F1,.int .i64 0,.int .i64 0,.string F1,.string F1,.int .i64 0,.int .i64 0,.string F1,.int .i64 0,.int .i64 0,.int .i64 0] 77)::.own (.slice (some aB) 1 1) 75 4 [enc o]::D3 bp a n c k9 e.Line e.Col::.own vv 75 4 (([]:List O8).map enc++[enc o])::(S++[.blk b2 (.cells (cG ⟨⟨0,F1,[],0,I1,I1,0,0,0⟩,none,0,0⟩).toArray 77)])) w:=hw
  obtain⟨A2,N2,C2,hvv,hN2,hNC2,hC2⟩:=hw.own_shape (i:=3) rfl
  rw[hvv]at hw;rw[show ([]:List O8).map enc++[enc o]=(([]:List O8)++[o]).map enc from by rw[List.map_append];rfl]at hw hN2
  have hw:Wd Γ (.blk b2 (.cells (cG ⟨⟨0,F1,[],0,I1,I1,0,0,0⟩,none,0,0⟩).toArray 77)::.blk b3 (.cells (cG ⟨(⟨kd,s,([]++[o]),0,I1,I1,0,0,0⟩:H3),A2,N2,C2⟩).toArray 77)::D3 bp a n c k9 e.Line e.Col::.own (.slice A2 N2 C2) 75 4 ((([]:List O8)++[o]).map enc)::S) w:=(hw.dropAt 1).perm T1
  have hw:Wd Γ (.own (.slice A2 N2 C2) 75 4 ((([]:List O8)++[o]).map enc)::D3 bp a n c k9 e.Line e.Col::.blk b3 (.cells (cG ⟨(⟨kd,s,([]++[o]),0,I1,I1,0,0,0⟩:H3),A2,N2,C2⟩).toArray 77)::.blk b2 (.cells (cG ⟨⟨0,F1,[],0,I1,I1,0,0,0⟩,none,0,0⟩).toArray 77)::S) w:=hw.ps [1,2,3]
  have hk9':k9≤n:=by rw[hn];exact YW hO
  simp only[O2]
  obtain⟨tot,htot⟩:∃t,t=Dr toks e (toks.length+1) [o] k9:=⟨_,rfl⟩
  rw[←htot];have hw:Wd Γ (.own (.slice A2 N2 C2) 75 4 (([o]:List O8).map enc)::D3 bp a n c k9 e.Line e.Col::.blk b3 (.cells (cG ⟨⟨kd,s,[o],0,I1,I1,0,0,0⟩,A2,N2,C2⟩).toArray 77)::.blk b2 (.cells (cG ⟨⟨0,F1,[],0,I1,I1,0,0,0⟩,none,0,0⟩).toArray 77)::S) w:=hw
  refine A6 ?_;refine B3 (fun μ ρ w=>∃(f:Nat) (acc:List O8) (k:Nat) (A:Option Addr) (N C:Nat),Dr toks e f acc k=tot∧μ=n-k∧k≤n∧n<f+k∧acc.length≤1+k∧Has ρ [(0,.pointer (some ⟨bp,0,none⟩)),(2,.pointer (some ⟨b2,0,none⟩)),(3,.pointer (some ⟨b3,0,none⟩))]∧Wd Γ (.own (.slice A N C) 75 4 ((acc:List O8).map enc)::D3 bp a n c k e.Line e.Col::.blk b3 (.cells (cG ⟨⟨kd,s,acc,0,I1,I1,0,0,0⟩,A,N,C⟩).toArray 77)::.blk b2 (.cells (cG ⟨⟨0,F1,[],0,I1,I1,0,0,0⟩,none,0,0⟩).toArray 77)::S) w) (n-k9) ⟨toks.length+1,[o],k9,A2,N2,C2,htot.symm,rfl,hk9',by omega,by simp,⟨rfl,rfl,rfl,trivial⟩,hw⟩ ?_
  clear hw hO hk9;rintro μ ρ w ⟨f,acc,k,A,N,C,hf,hμ,hkn,hfk,hal,hρ,hw⟩
  rw[hρ.eq];clear hρ;have hNl:N=acc.length:=by
   obtain⟨_,_,_,hE,h2,-,-⟩:=hw.own_shape (i:=0) rfl
   cases hE
   simpa using h2
  obtain⟨f',rfl⟩:∃f',f=f'+1:=⟨f-1,by omega⟩
  unfold Dr at hf;refine A6 ?_;refine C9 (vs:=[.pointer (some ⟨bp,0,none⟩),.int .i64 4,.string V6]) ?_
  refine(Z4 (S:=.own (.slice A N C) 75 4 ((acc:List O8).map enc)::.blk b3 (.cells (cG ⟨⟨kd,s,acc,0,I1,I1,0,0,0⟩,A,N,C⟩).toArray 77)::.blk b2 (.cells (cG ⟨⟨0,F1,[],0,I1,I1,0,0,0⟩,none,0,0⟩).toArray 77)::S) 4 V6 hkn hN ht (hw.ps [1])).mono ?_
  clear hw;rintro r w ⟨rfl,hw⟩
  refine⟨_,rfl,?_⟩;cases hi:Q4 toks k 4 V6 with
  | true=>
   have hlt:=Al (by decide) hi
   rw[hi,if_pos rfl]at hw hf
   have hk9:k+1≤n:=by omega
   have hw:Wd Γ (.own (.slice A N C) 75 4 ((acc:List O8).map enc)::D3 bp a n c (k+1) e.Line e.Col::.blk b3 (.cells (cG ⟨⟨kd,s,acc,0,I1,I1,0,0,0⟩,A,N,C⟩).toArray 77)::.blk b2 (.cells (cG ⟨⟨0,F1,[],0,I1,I1,0,0,0⟩,none,0,0⟩).toArray 77)::S) w:=hw.ps [1]
   refine A6 ?_;refine A0 rfl (fun _=>?_) (fun h=>by cases h)
   refine A6 ?_;cases hO:Kp toks e (k+1) with
   | error q=>
    obtain⟨p,er⟩:=q;have htE:tot=.error (p,er):=by rw[←hf,hO];rfl
    rw[htE];simp only[O2]
    refine Ed (fun ch w=>ch=[DO p er]∧∃k,Wd Γ (D3 bp a n c k e.Line e.Col::S) w) [.blk b2 (.cells (cG ⟨⟨0,F1,[],0,I1,I1,0,0,0⟩,none,0,0⟩).toArray 77)] [.blk b3 (.cells (cG ⟨(⟨kd,s,acc,0,I1,I1,0,0,0⟩:H3),A,N,C⟩).toArray 77)] (.own (.slice A N C) 75 4 ((acc:List O8).map enc)::D3 bp a n c (k+1) e.Line e.Col::S) [] [41,42,43] [] [[],[],[],[1],[1],[1],[],[0,1]] [[],[0],[],[1],[1],[1],[],[0,1]] (by rw[List.append_nil];exact hw.ps [2,3]) (fun ch ρ w ⟨h1,h2⟩=>by subst h1;exact⟨rfl,h2⟩) ?_
    refine eY ?_
    refine eY ?_
    refine eY ?_
    refine LN (c:=1) (T:=Unit) (T':=Empty) (vs:=[.pointer (some ⟨bp,0,none⟩)]) (fun t=>t.elim) (fun t=>t.elim) (φ:=fun _ _=>True) (R:=fun _=>.own (.slice A N C) 75 4 ((acc:List O8).map enc)::D3 bp a n c (k+1) e.Line e.Col::S) (fun _ Y w hw=>(CC hW hk9 hN ht (hw.ps [1]:Wd Γ (D3 bp a n c (k+1) e.Line e.Col::(.own (.slice A N C) 75 4 ((acc:List O8).map enc)::(S++Y))) w)).mono fun r w h=>?_) ?_
    ·rw[hO]at h;obtain⟨rfl,k,hw⟩:=h;have hw:Wd Γ (D3 bp a n c k e.Line e.Col::(.own (.slice A N C) 75 4 ((acc:List O8).map enc)::(S++Y))) w:=hw
     exact⟨rfl,k,Wd.left (S:=D3 bp a n c k e.Line e.Col::S) (hw.dropAt 1)⟩
    refine NW (c:=1) ?_
    refine NW (c:=1) ?_
    refine eY ?_
    refine NW (c:=1) ?_
    exact HN (c:=1)
   | ok q=>
   obtain⟨o,k9⟩:=q;have hk9':k9≤n:=by rw[hn];exact YW hO
   have hk9l:=HJ hO
   refine Gw [.blk b2 (.cells (cG ⟨⟨0,F1,[],0,I1,I1,0,0,0⟩,none,0,0⟩).toArray 77)] [.blk b3 (.cells (cG ⟨(⟨kd,s,acc,0,I1,I1,0,0,0⟩:H3),A,N,C⟩).toArray 77)] (.own (.slice A N C) 75 4 ((acc:List O8).map enc)::D3 bp a n c (k+1) e.Line e.Col::S) [] [41,42,43] [] [[],[],[],[1],[1],[1],[],[0,1]] [[],[0],[],[1],[1],[1],[],[0,1]] (by rw[List.append_nil];exact hw.ps [2,3]) ?_
   repeat(first|refine mY ?_|refine mP ?_|refine T9 ?_|refine W3 ?_|refine V1 ?_)
   refine HB (c:=1) (T:=Unit) (T':=Unit) (vs:=[.pointer (some ⟨bp,0,none⟩)]) (fun _=>.agg (enc o).toArray) (fun _=>D3 bp a n c k9 e.Line e.Col::.own (.slice A N C) 75 4 ((acc:List O8).map enc)::S) (R:=fun _=>.own (.slice A N C) 75 4 ((acc:List O8).map enc)::D3 bp a n c (k+1) e.Line e.Col::S) (fun _ Y w hw=>(CC hW hk9 hN ht (hw.ps [1]:Wd Γ (D3 bp a n c (k+1) e.Line e.Col::(.own (.slice A N C) 75 4 ((acc:List O8).map enc)::(S++Y))) w)).mono fun r w h=>by rw[hO]at h;exact⟨(),h.1,h.2.2⟩) ?_
   refine EW (T:=Unit) (fun _=>[enc o]) ?_ ?_
   rotate_left
   ·intro t g h;have h2:g 41=.agg (enc o).toArray:=h
    show r8 _ _ [(0,g 41)]=_
    rw[h2];rfl
   refine LJ (T:=Unit×Addr) (j:=2) (j2:=0) (fun t=>some t.2) (fun _=>[enc o]) ?_ ?_
   rotate_left
   ·intro t g h;exact h.2
   refine P3 ?_;refine HX (T:=(Unit×Addr)×Value) (j:=2) (val:=fun t=>t.2) ?_ ?_
   rotate_left
   ·intro t g h;exact h.2
   refine Ll fun t w g h hw=>?_
   obtain⟨⟨⟨⟩,aB⟩,vv⟩:=t;have hw:Wd Γ (.blk b3 (.cells #[.int .i64 kd,.string s,vv,.int .i64 0,.string F1,.int .i64 0,.int .i64 0,.string F1,.string F1,.int .i64 0,.int .i64 0,.string F1,.int .i64 0,.int .i64 0,.int .i64 0] 77)::.own (.slice (some aB) 1 1) 75 4 [enc o]::D3 bp a n c k9 e.Line e.Col::.own vv 75 4 ((acc:List O8).map enc++[enc o])::(S++[.blk b2 (.cells (cG ⟨⟨0,F1,[],0,I1,I1,0,0,0⟩,none,0,0⟩).toArray 77)])) w:=hw
   obtain⟨A2,N2,C2,hvv,hN2,hNC2,hC2⟩:=hw.own_shape (i:=3) rfl
   rw[hvv]at hw;rw[show (acc:List O8).map enc++[enc o]=((acc:List O8)++[o]).map enc from by rw[List.map_append];rfl]at hw hN2
   have hw:Wd Γ (.blk b2 (.cells (cG ⟨⟨0,F1,[],0,I1,I1,0,0,0⟩,none,0,0⟩).toArray 77)::.blk b3 (.cells (cG ⟨(⟨kd,s,(acc++[o]),0,I1,I1,0,0,0⟩:H3),A2,N2,C2⟩).toArray 77)::D3 bp a n c k9 e.Line e.Col::.own (.slice A2 N2 C2) 75 4 (((acc:List O8)++[o]).map enc)::S) w:=(hw.dropAt 1).perm T1
   have hw:Wd Γ (.own (.slice A2 N2 C2) 75 4 (((acc:List O8)++[o]).map enc)::D3 bp a n c k9 e.Line e.Col::.blk b3 (.cells (cG ⟨(⟨kd,s,(acc++[o]),0,I1,I1,0,0,0⟩:H3),A2,N2,C2⟩).toArray 77)::.blk b2 (.cells (cG ⟨⟨0,F1,[],0,I1,I1,0,0,0⟩,none,0,0⟩).toArray 77)::S) w:=hw.ps [1,2,3]
   refine A6 ?_;exact⟨n-k9,by omega,f',acc++[o],k9,A2,N2,C2,by rw[←hf,hO];rfl,rfl,hk9',by omega,by rw[List.length_append];simp;omega,⟨rfl,rfl,rfl,trivial⟩,hw⟩
  | false=>
   rw[hi,if_neg (by decide)]at hw hf
   rw[←hf];simp only[O2]
   refine A6 ?_;refine A0 rfl (fun h=>by cases h) (fun _=>?_)
   refine A6 ?_;refine K1 (vs:=[.pointer (some ⟨bp,0,none⟩),.int .i64 4,.string Ox]) ?_
   refine(Fi 4 Ox (by decide) hkn hN ht hw).mono ?_
   clear hw;rintro r w hr
   cases hE:De toks e 4 Ox k with
   | error q=>
    obtain⟨p,er⟩:=q;rw[hE]at hr;obtain⟨rfl,k,hw⟩:=hr;exact⟨rfl,k,((hw.dropAt 1).dropAt 1).dropAt 1⟩
   | ok q=>
   obtain⟨_,k5⟩:=q;rw[hE]at hr;obtain⟨rfl,hk5,hw⟩:=hr;show L _ _ _ _ _ _ _
   refine A6 ?_;refine B0 (i:=3) ?_
   intro w hw;have hw:Wd Γ (D3 bp a n c k5 e.Line e.Col::.own (.slice A N C) 75 4 ((acc:List O8).map enc)::.blk b3 (.cells (cG ⟨⟨kd,s,acc,0,I1,I1,0,0,0⟩,A,N,C⟩).toArray 77)::.blk b2 (.cells (cG ⟨⟨kd,s,acc,0,I1,I1,0,0,0⟩,A,N,C⟩).toArray 77)::S) w:=hw
   refine A6 ?_;exact⟨[.agg (cG ⟨⟨kd,s,acc,0,I1,I1,0,0,0⟩,A,N,C⟩).toArray],⟨U4 (i:=3) hw rfl rfl rfl,trivial⟩,(A,N,C),rfl,hk5,((hw.ps [1,1]).dropAt 2).dropAt 2 |>.ps [1]⟩
 ·have h:(Q4 toks at' 1 AU||(decide ((P1 toks at').Kind=1)&&Q4 toks (at'+1) 4 Ar))=false:=h
  obtain⟨hi,hrel⟩:=Bool.or_eq_false_iff.1 h
  have hG:AI toks e at'=O2 (Kp toks e at') fun l k1=>if (P1 toks at').Kind=1∧Q4 toks k1 1 NV=true then Uk toks e l (k1+1) else UQ toks e l k1:=by
   unfold AI;rw[hi,if_neg (by decide),if_neg (fun⟨h1,h2⟩=>by rw[decide_eq_true h1,h2]at hrel;cases hrel)]
  rw[hG];rw[hi]at hw;have hw:Wd Γ (D3 bp a n c at' e.Line e.Col::.blk b3 (.cells (cG ⟨bI F1 [],none,0,0⟩).toArray 77)::.blk b2 (.cells (cG ⟨⟨0,F1,[],0,I1,I1,0,0,0⟩,none,0,0⟩).toArray 77)::S) w:=hw
  clear h hG hk1 hrel;refine A6 ?_;refine B0 (i:=1) ?_
  intro w hw;have hw:Wd Γ (D3 bp a n c at' e.Line e.Col::.blk b3 (.cells (cG ⟨⟨3,F1,[],0,I1,I1,0,0,0⟩,none,0,0⟩).toArray 77)::.blk b2 (.cells (cG ⟨⟨0,F1,[],0,I1,I1,0,0,0⟩,none,0,0⟩).toArray 77)::S) w:=hw
  refine A6 ?_;refine C9 (vs:=[.pointer (some ⟨bp,0,none⟩),.int .i64 0]) ?_
  refine(Eh (j:=0) (by decide) hat hN ht hw).mono ?_
  clear hw;rintro r w ⟨rfl,hw⟩
  rw[Nat.add_zero];refine⟨_,rfl,?_⟩;refine A6 ?_;refine lY (v:=.int .i64 (P1 toks at').Kind) ?_ (hy:=Av Tryz.underlying102 rfl (by kernel_rfl) rfl rfl)
  refine A6 ?_;refine K1 (vs:=[.pointer (some ⟨bp,0,none⟩)]) ?_
  refine(CC hW hat hN ht hw).mono ?_
  clear hw;rintro r w hr
  cases hO:Kp toks e at' with
  | error q=>
   obtain⟨p,er⟩:=q;rw[hO]at hr;obtain⟨rfl,k,hw⟩:=hr;exact⟨rfl,k,(hw.dropAt 1).dropAt 1⟩
  | ok q=>
  obtain⟨l,k1⟩:=q;rw[hO]at hr;obtain⟨rfl,hk1,hw⟩:=hr;show L _ _ _ _ _ _ _
  simp only[O2]
  generalize hkk:(P1 toks at').Kind=kk
  refine A6 ?_;refine B0 (i:=1) ?_
  intro w hw;have hw:Wd Γ (D3 bp a n c k1 e.Line e.Col::.blk b3 (.cells (cG ⟨⟨3,F1,[],0,l,I1,0,0,0⟩,none,0,0⟩).toArray 77)::.blk b2 (.cells (cG ⟨⟨0,F1,[],0,I1,I1,0,0,0⟩,none,0,0⟩).toArray 77)::S) w:=hw
  refine p9 ?_
  refine y0 ?_
  refine BK (fun ρ w=>Has ρ [(0,.pointer (some ⟨bp,0,none⟩)),(2,.pointer (some ⟨b2,0,none⟩)),(3,.pointer (some ⟨b3,0,none⟩)),(60,.bool (decide (kk=1)&&Q4 toks k1 1 NV))]∧Wd Γ (D3 bp a n c (if kk=1∧Q4 toks k1 1 NV=true then k1+1 else k1) e.Line e.Col::.blk b3 (.cells (cG ⟨⟨3,F1,[],0,l,I1,0,0,0⟩,none,0,0⟩).toArray 77)::.blk b2 (.cells (cG ⟨⟨0,F1,[],0,I1,I1,0,0,0⟩,none,0,0⟩).toArray 77)::S) w) ?_ ?_
  ·by_cases hk:kk=1
   ·refine A6 ?_;refine QM (hct:=decide_eq_true hk) ?_
    refine C9 (vs:=[.pointer (some ⟨bp,0,none⟩),.int .i64 1,.string NV]) ?_ (ha:=EvL.cons (Ir (decide_eq_true hk)) (EvL.cons rfl (EvL.cons rfl EvL.nil)))
    refine(Z4 1 NV hk1 hN ht hw).mono ?_
    clear hw;rintro r w ⟨rfl,hw⟩
    refine⟨_,rfl,?_⟩;have e1:(kk=1∧Q4 toks k1 1 NV=true)=(Q4 toks k1 1 NV=true):=by simp[hk]
    simp only[e1]
    generalize Q4 toks k1 1 NV=bi at *
    rw[decide_eq_true hk];refine lY (v:=.bool bi) ?_ (hy:=EX rfl rfl)
    refine A6 ?_;exact⟨⟨rfl,rfl,rfl,rfl,trivial⟩,hw⟩
   ·refine A6 ?_;refine Py (hct:=decide_eq_false hk) ?_
    refine lY (v:=.bool false) ?_ (hy:=BV (congrArg Value.bool (decide_eq_false hk)) rfl)
    refine A6 ?_;rw[decide_eq_false hk,if_neg (fun h=>hk h.1)];exact⟨⟨rfl,rfl,rfl,rfl,trivial⟩,hw⟩
  clear hw;rintro ρ w ⟨hρ,hw⟩
  rw[hρ.eq];clear hρ;refine A0 rfl (fun h=>?_) (fun h=>?_)
  ·have h:(decide (kk=1)&&Q4 toks k1 1 NV)=true:=h
   rw[Bool.and_eq_true,decide_eq_true_eq]at h;have hlt:=Al (by decide) h.2
   rw[if_pos h]at hw ⊢
   have hk2:k1+1≤n:=by omega
   clear h;unfold Uk;refine A6 ?_;refine B0 (i:=1) ?_
   intro w hw;have hw:Wd Γ (D3 bp a n c (k1+1) e.Line e.Col::.blk b3 (.cells (cG ⟨⟨4,F1,[],0,l,I1,0,0,0⟩,none,0,0⟩).toArray 77)::.blk b2 (.cells (cG ⟨⟨0,F1,[],0,I1,I1,0,0,0⟩,none,0,0⟩).toArray 77)::S) w:=hw
   refine A6 ?_;refine K1 (vs:=[.pointer (some ⟨bp,0,none⟩)]) ?_
   refine(JS hk2 hN ht hw).mono ?_
   clear hw;rintro r w hr
   cases hI:GG toks e (k1+1) with
   | error q=>
    obtain⟨p,er⟩:=q;rw[hI]at hr;obtain⟨rfl,k,hw⟩:=hr;exact⟨rfl,k,(hw.dropAt 1).dropAt 1⟩
   | ok q=>
   obtain⟨lo,k3⟩:=q;rw[hI]at hr;obtain⟨rfl,hk3,hw⟩:=hr;show L _ _ _ _ _ _ _
   simp only[O2]
   refine A6 ?_;refine B0 (i:=1) ?_
   intro w hw;have hw:Wd Γ (D3 bp a n c k3 e.Line e.Col::.blk b3 (.cells (cG ⟨⟨4,F1,[],0,l,I1,0,lo,0⟩,none,0,0⟩).toArray 77)::.blk b2 (.cells (cG ⟨⟨0,F1,[],0,I1,I1,0,0,0⟩,none,0,0⟩).toArray 77)::S) w:=hw
   refine A6 ?_;refine K1 (vs:=[.pointer (some ⟨bp,0,none⟩),.int .i64 4,.string Hv]) ?_
   refine(Fi 4 Hv (by decide) hk3 hN ht hw).mono ?_
   clear hw;rintro r w hr
   cases hE:De toks e 4 Hv k3 with
   | error q=>
    obtain⟨p,er⟩:=q;rw[hE]at hr;obtain⟨rfl,k,hw⟩:=hr;exact⟨rfl,k,(hw.dropAt 1).dropAt 1⟩
   | ok q=>
   obtain⟨_,k4⟩:=q;rw[hE]at hr;obtain⟨rfl,hk4,hw⟩:=hr;show L _ _ _ _ _ _ _
   simp only[O2]
   refine A6 ?_;refine K1 (vs:=[.pointer (some ⟨bp,0,none⟩)]) ?_
   refine(JS hk4 hN ht hw).mono ?_
   clear hw;rintro r w hr
   cases hI2:GG toks e k4 with
   | error q=>
    obtain⟨p,er⟩:=q;rw[hI2]at hr;obtain⟨rfl,k,hw⟩:=hr;exact⟨rfl,k,(hw.dropAt 1).dropAt 1⟩
   | ok q=>
   obtain⟨hi',k5⟩:=q;rw[hI2]at hr;obtain⟨rfl,hk5,hw⟩:=hr;show L _ _ _ _ _ _ _
   simp only[O2]
   refine A6 ?_;refine B0 (i:=1) ?_
   intro w hw;have hw:Wd Γ (D3 bp a n c k5 e.Line e.Col::.blk b3 (.cells (cG ⟨⟨4,F1,[],0,l,I1,0,lo,hi'⟩,none,0,0⟩).toArray 77)::.blk b2 (.cells (cG ⟨⟨0,F1,[],0,I1,I1,0,0,0⟩,none,0,0⟩).toArray 77)::S) w:=hw
   refine A6 ?_;refine B0 (i:=2) ?_
   intro w hw;have hw:Wd Γ (D3 bp a n c k5 e.Line e.Col::.blk b3 (.cells (cG ⟨⟨4,F1,[],0,l,I1,0,lo,hi'⟩,none,0,0⟩).toArray 77)::.blk b2 (.cells (cG ⟨⟨4,F1,[],0,l,I1,0,lo,hi'⟩,none,0,0⟩).toArray 77)::S) w:=hw
   refine A6 ?_;exact⟨[.agg (cG ⟨⟨4,F1,[],0,l,I1,0,lo,hi'⟩,none,0,0⟩).toArray],⟨U4 (i:=2) hw rfl rfl rfl,trivial⟩,(none,0,0),rfl,hk5,Wd.addNil ((hw.dropAt 1).dropAt 1)⟩
  ·have h:(decide (kk=1)&&Q4 toks k1 1 NV)=false:=h
   have hni:¬(kk=1∧Q4 toks k1 1 NV=true):=fun⟨h1,h2⟩=>by rw[decide_eq_true h1,h2]at h;cases h
   rw[if_neg hni]at hw ⊢
   clear h hni;unfold UQ;refine A6 ?_;refine C9 (vs:=[]) ?_
   refine(Kf hw).mono ?_
   clear hw;rintro r w ⟨q,rfl,hw⟩
   refine⟨_,rfl,?_⟩;refine A6 ?_;refine B3 (fun μ ρ w=>∃(j:Nat),μ+j=7∧Has ρ [(0,.pointer (some ⟨bp,0,none⟩)),(2,.pointer (some ⟨b2,0,none⟩)),(3,.pointer (some ⟨b3,0,none⟩)),(71,.slice (some q) 7 7),(72,.int .i64 7),(73,.int .i64 j)]∧Wd Γ (.own (.slice (some q) 7 7) 9 1 (Bg.map fun s=>[.string s])::D3 bp a n c (if KF toks k1 j≠0 then k1+1 else k1) e.Line e.Col::.blk b3 (.cells (cG ⟨⟨3,F1,[],(KF toks k1 j:Nat),l,I1,0,0,0⟩,none,0,0⟩).toArray 77)::.blk b2 (.cells (cG ⟨⟨0,F1,[],0,I1,I1,0,0,0⟩,none,0,0⟩).toArray 77)::S) w) 7 ⟨0,by omega,⟨rfl,rfl,rfl,rfl,rfl,rfl,trivial⟩,hw⟩ ?_
   clear hw;rintro μ ρ w ⟨j,hj,hρ,hw⟩
   rw[hρ.eq];clear hρ;have hd:=P4.own (i:=0) hw rfl
   refine A6 ?_;refine A0 rfl (fun h=>?_) (fun h=>?_)
   ·have hj7:j<7:=by have:=of_decide_eq_true h;omega
    clear h;obtain⟨s,hs⟩:=B2 (l:=Bg) (k:=j) (by show j<7;omega)
    have hsd:Bg.getD j F1=s:=by rw[List.getD_eq_getElem?_getD,hs];rfl
    have hup:KF toks k1 (j+1)=if KF toks k1 j≠0 then KF toks k1 j else if 0<j∧Q4 toks k1 4 s=true then j else 0:=by rw[←hsd];rfl
    generalize KF toks k1 j=u at *
    refine A6 ?_;by_cases hc:0<j∧u=0
    ·have hkc:(decide ((0:Int)<(j:Int))&&decide ((u:Int)=0))=true:=by rw[decide_eq_true (by omega),decide_eq_true (by omega)];rfl
     obtain⟨hj0,rfl⟩:=hc;have hw:Wd Γ (.own (.slice (some q) 7 7) 9 1 (Bg.map fun s=>[.string s])::D3 bp a n c k1 e.Line e.Col::.blk b3 (.cells (cG ⟨⟨3,F1,[],((0:Nat):Int),l,I1,0,0,0⟩,none,0,0⟩).toArray 77)::.blk b2 (.cells (cG ⟨⟨0,F1,[],0,I1,I1,0,0,0⟩,none,0,0⟩).toArray 77)::S) w:=hw
     have hw:=hw.ps [1]
     refine QM (hct:=hkc) ?_
     refine C9 (vs:=[.pointer (some ⟨bp,0,none⟩),.int .i64 4,.string s]) ?_ (ha:=EvL.cons (Ir hkc) (EvL.cons rfl (EvL.cons (Ir hkc) EvL.nil)))
     refine(Z4 (S:=.own (.slice (some q) 7 7) 9 1 (Bg.map fun s=>[.string s])::.blk b3 (.cells (cG ⟨⟨3,F1,[],((0:Nat):Int),l,I1,0,0,0⟩,none,0,0⟩).toArray 77)::.blk b2 (.cells (cG ⟨⟨0,F1,[],0,I1,I1,0,0,0⟩,none,0,0⟩).toArray 77)::S) 4 s hk1 hN ht hw).mono ?_
     clear hw;rintro r w ⟨rfl,hw⟩
     refine⟨_,rfl,?_⟩;rw[if_neg (by omega)]at hup
     cases hbi:Q4 toks k1 4 s with
     | true=>
      rw[hbi,if_pos rfl]at hw;rw[if_pos ⟨hj0,hbi⟩]at hup;refine lY (v:=.bool true) ?_ (hy:=EX (congrArg Value.bool hkc) rfl)
      refine A6 ?_;refine A0 rfl (fun _=>?_) (fun h=>by cases h)
      refine A6 ?_;refine B0 (i:=2) ?_
      intro w hw;have hw:Wd Γ (D3 bp a n c (k1+1) e.Line e.Col::.own (.slice (some q) 7 7) 9 1 (Bg.map fun s=>[.string s])::.blk b3 (.cells (cG ⟨⟨3,F1,[],(j:Int),l,I1,0,0,0⟩,none,0,0⟩).toArray 77)::.blk b2 (.cells (cG ⟨⟨0,F1,[],0,I1,I1,0,0,0⟩,none,0,0⟩).toArray 77)::S) w:=hw
      refine A6 ?_;exact⟨μ-1,by omega,j+1,by omega,⟨rfl,rfl,rfl,rfl,rfl,rfl,trivial⟩,by rw[hup,if_pos (by omega)];exact hw.ps [1]⟩
     | false=>
      rw[hbi,if_neg (by decide)]at hw
      rw[if_neg (fun h=>by rw[hbi]at h;cases h.2)]at hup
      refine lY (v:=.bool false) ?_ (hy:=EX (congrArg Value.bool hkc) rfl)
      refine A6 ?_;refine A0 rfl (fun h=>by cases h) (fun _=>?_)
      refine A6 ?_;exact⟨μ-1,by omega,j+1,by omega,⟨rfl,rfl,rfl,rfl,rfl,rfl,trivial⟩,by rw[hup,if_neg (by omega)];exact hw.ps [1]⟩
    ·have hkc:(decide ((0:Int)<(j:Int))&&decide ((u:Int)=0))=false:=by
      by_cases h1:0<j
      ·rw[decide_eq_false (show ¬((u:Int)=0) from fun h=>hc ⟨h1,by omega⟩),Bool.and_false]
      ·rw[decide_eq_false (show ¬((0:Int)<(j:Int)) by omega),Bool.false_and]
     have hup2:KF toks k1 (j+1)=u:=by
      rw[hup];by_cases hu:u≠0
      ·rw[if_pos hu]
      ·rw[if_neg hu,if_neg (fun h=>hc ⟨h.1,by omega⟩)];omega
     refine Py (hct:=hkc) ?_
     refine lY (v:=.bool false) ?_ (hy:=BV (congrArg Value.bool hkc) rfl)
     refine A6 ?_;refine A0 rfl (fun h=>by cases h) (fun _=>?_)
     refine A6 ?_;exact⟨μ-1,by omega,j+1,by omega,⟨rfl,rfl,rfl,rfl,rfl,rfl,trivial⟩,by rw[hup2];exact hw⟩
   ·have hj7:j=7:=by have:=of_decide_eq_false h;omega
    clear h hd;subst hj7;rw[ZG]at hw;have hol:=Zr (toks:=toks) (k:=k1)
    generalize opAt toks k1=u at *
    have hw:=hw.drop
    refine A6 ?_;refine A0 rfl (fun h=>?_) (fun h=>?_)
    ·have h:u=0:=by
      have h2:(u:Int)=0:=of_decide_eq_true h
      omega
     subst h;rw[if_pos rfl];have hw:Wd Γ (D3 bp a n c k1 e.Line e.Col::.blk b3 (.cells (cG ⟨⟨3,F1,[],((0:Nat):Int),l,I1,0,0,0⟩,none,0,0⟩).toArray 77)::.blk b2 (.cells (cG ⟨⟨0,F1,[],0,I1,I1,0,0,0⟩,none,0,0⟩).toArray 77)::S) w:=hw
     refine A6 ?_;refine K1 ?_
     refine(Dq 50 ht hw).mono ?_
     rintro r w ⟨rfl,hw⟩
     exact⟨rfl,k1,(hw.dropAt 1).dropAt 1⟩
    have hu:u≠0:=by
     have h2:¬(u:Int)=0:=of_decide_eq_false h
     omega
    clear h;rw[if_pos hu]at hw;rw[if_neg hu];have hk2:k1+1≤n:=by have:=hol hu;omega
    have hw:Wd Γ (D3 bp a n c (k1+1) e.Line e.Col::.blk b3 (.cells (cG ⟨⟨3,F1,[],(u:Int),l,I1,0,0,0⟩,none,0,0⟩).toArray 77)::.blk b2 (.cells (cG ⟨⟨0,F1,[],0,I1,I1,0,0,0⟩,none,0,0⟩).toArray 77)::S) w:=hw
    refine A6 ?_;refine K1 (vs:=[.pointer (some ⟨bp,0,none⟩)]) ?_
    refine(CC hW hk2 hN ht hw).mono ?_
    clear hw;rintro r w hr
    cases hR:Kp toks e (k1+1) with
    | error q=>
     obtain⟨p,er⟩:=q;rw[hR]at hr;obtain⟨rfl,k,hw⟩:=hr;exact⟨rfl,k,(hw.dropAt 1).dropAt 1⟩
    | ok q=>
    obtain⟨rr,k3⟩:=q;rw[hR]at hr;obtain⟨rfl,hk3,hw⟩:=hr;show L _ _ _ _ _ _ _
    simp only[O2]
    refine A6 ?_;refine B0 (i:=1) ?_
    intro w hw;have hw:Wd Γ (D3 bp a n c k3 e.Line e.Col::.blk b3 (.cells (cG ⟨⟨3,F1,[],(u:Int),l,rr,0,0,0⟩,none,0,0⟩).toArray 77)::.blk b2 (.cells (cG ⟨⟨0,F1,[],0,I1,I1,0,0,0⟩,none,0,0⟩).toArray 77)::S) w:=hw
    unfold Ue;refine A6 ?_;refine C9 (vs:=[.pointer (some ⟨bp,0,none⟩),.int .i64 4,.string Lp]) ?_
    refine(Z4 4 Lp hk3 hN ht hw).mono ?_
    clear hw;rintro r w ⟨rfl,hw⟩
    refine⟨_,rfl,?_⟩;cases hp:Q4 toks k3 4 Lp with
    | true=>
     have hlt:=Al (by decide) hp
     rw[hp,if_pos rfl]at hw;rw[if_pos rfl];refine A6 ?_;refine A0 rfl (fun _=>?_) (fun h=>by cases h)
     refine A6 ?_;refine K1 (vs:=[.pointer (some ⟨bp,0,none⟩),.int .u64 9223372036854775807]) ?_
     refine(Ii (at':=k3+1) 9223372036854775807 (by omega) hN ht hw).mono ?_
     clear hw;rintro r w hr
     cases hN2:DZ toks e 9223372036854775807 (k3+1) with
     | error q=>
      obtain⟨p,er⟩:=q;rw[hN2]at hr;obtain⟨rfl,k,hw⟩:=hr;exact⟨rfl,k,(hw.dropAt 1).dropAt 1⟩
     | ok q=>
     obtain⟨x,k4⟩:=q;rw[hN2]at hr;obtain⟨rfl,hk4,hw⟩:=hr;show L _ _ _ _ _ _ _
     simp only[NL]
     refine A6 ?_;refine B0 (i:=1) ?_
     intro w hw;have hw:Wd Γ (D3 bp a n c k4 e.Line e.Col::.blk b3 (.cells (cG ⟨⟨3,F1,[],(u:Int),l,rr,(IntKind.i64.wrap x),0,0⟩,none,0,0⟩).toArray 77)::.blk b2 (.cells (cG ⟨⟨0,F1,[],0,I1,I1,0,0,0⟩,none,0,0⟩).toArray 77)::S) w:=hw
     refine A6 ?_;refine B0 (i:=2) ?_
     intro w hw;have hw:Wd Γ (D3 bp a n c k4 e.Line e.Col::.blk b3 (.cells (cG ⟨⟨3,F1,[],(u:Int),l,rr,(IntKind.i64.wrap x),0,0⟩,none,0,0⟩).toArray 77)::.blk b2 (.cells (cG ⟨⟨3,F1,[],(u:Int),l,rr,(IntKind.i64.wrap x),0,0⟩,none,0,0⟩).toArray 77)::S) w:=hw
     refine A6 ?_;exact⟨[.agg (cG ⟨⟨3,F1,[],(u:Int),l,rr,(IntKind.i64.wrap x),0,0⟩,none,0,0⟩).toArray],⟨U4 (i:=2) hw rfl rfl rfl,trivial⟩,(none,0,0),rfl,hk4,Wd.addNil ((hw.dropAt 1).dropAt 1)⟩
    | false=>
     rw[hp,if_neg (by decide)]at hw
     rw[if_neg (by decide)]
     refine A6 ?_;refine A0 rfl (fun h=>by cases h) (fun _=>?_)
     refine A6 ?_;refine C9 (vs:=[.pointer (some ⟨bp,0,none⟩),.int .i64 4,.string Dw]) ?_
     refine(Z4 4 Dw hk3 hN ht hw).mono ?_
     clear hw;rintro r w ⟨rfl,hw⟩
     refine⟨_,rfl,?_⟩;cases hm:Q4 toks k3 4 Dw with
     | true=>
      have hlt:=Al (by decide) hm
      rw[hm,if_pos rfl]at hw;rw[if_pos rfl];refine A6 ?_;refine A0 rfl (fun _=>?_) (fun h=>by cases h)
      refine A6 ?_;refine K1 (vs:=[.pointer (some ⟨bp,0,none⟩),.int .u64 9223372036854775807]) ?_
      refine(Ii (at':=k3+1) 9223372036854775807 (by omega) hN ht hw).mono ?_
      clear hw;rintro r w hr
      cases hN2:DZ toks e 9223372036854775807 (k3+1) with
      | error q=>
       obtain⟨p,er⟩:=q;rw[hN2]at hr;obtain⟨rfl,k,hw⟩:=hr;exact⟨rfl,k,(hw.dropAt 1).dropAt 1⟩
      | ok q=>
      obtain⟨x,k4⟩:=q;rw[hN2]at hr;obtain⟨rfl,hk4,hw⟩:=hr;show L _ _ _ _ _ _ _
      simp only[NL]
      refine A6 ?_;refine lY (v:=.int .i64 (IntKind.i64.wrap (-(IntKind.i64.wrap x)))) ?_ (hy:=RO rfl)
      refine A6 ?_;refine B0 (i:=1) ?_
      intro w hw;have hw:Wd Γ (D3 bp a n c k4 e.Line e.Col::.blk b3 (.cells (cG ⟨⟨3,F1,[],(u:Int),l,rr,(IntKind.i64.wrap (-(IntKind.i64.wrap x))),0,0⟩,none,0,0⟩).toArray 77)::.blk b2 (.cells (cG ⟨⟨0,F1,[],0,I1,I1,0,0,0⟩,none,0,0⟩).toArray 77)::S) w:=hw
      refine A6 ?_;refine B0 (i:=2) ?_
      intro w hw;have hw:Wd Γ (D3 bp a n c k4 e.Line e.Col::.blk b3 (.cells (cG ⟨⟨3,F1,[],(u:Int),l,rr,(IntKind.i64.wrap (-(IntKind.i64.wrap x))),0,0⟩,none,0,0⟩).toArray 77)::.blk b2 (.cells (cG ⟨⟨3,F1,[],(u:Int),l,rr,(IntKind.i64.wrap (-(IntKind.i64.wrap x))),0,0⟩,none,0,0⟩).toArray 77)::S) w:=hw
      refine A6 ?_;exact⟨[.agg (cG ⟨⟨3,F1,[],(u:Int),l,rr,(IntKind.i64.wrap (-(IntKind.i64.wrap x))),0,0⟩,none,0,0⟩).toArray],⟨U4 (i:=2) hw rfl rfl rfl,trivial⟩,(none,0,0),rfl,hk4,Wd.addNil ((hw.dropAt 1).dropAt 1)⟩
     | false=>
      rw[hm,if_neg (by decide)]at hw
      rw[if_neg (by decide)]
      refine A6 ?_;refine A0 rfl (fun h=>by cases h) (fun _=>?_)
      refine A6 ?_;refine B0 (i:=2) ?_
      intro w hw;have hw:Wd Γ (D3 bp a n c k3 e.Line e.Col::.blk b3 (.cells (cG ⟨⟨3,F1,[],(u:Int),l,rr,0,0,0⟩,none,0,0⟩).toArray 77)::.blk b2 (.cells (cG ⟨⟨3,F1,[],(u:Int),l,rr,0,0,0⟩,none,0,0⟩).toArray 77)::S) w:=hw
      refine A6 ?_;exact⟨[.agg (cG ⟨⟨3,F1,[],(u:Int),l,rr,0,0,0⟩,none,0,0⟩).toArray],⟨U4 (i:=2) hw rfl rfl rfl,trivial⟩,(none,0,0),rfl,hk3,Wd.addNil ((hw.dropAt 1).dropAt 1)⟩
end
end Go.Proofs.YtlmiakjbogojgaaGreatDoor
end
section
open Go Mk
namespace Go.Proofs.YtlmiakjbogojgaaGreatDoor
set_option maxHeartbeats 16000000
attribute [local irreducible] Calls cI cB
def NC:ByteArray:=⟨#[115,101,108,101,99,116]⟩
def O1:ByteArray:=⟨#[119,104,101,114,101]⟩
section
variable {Γ:C8}{S:List B6}{w:World}{bp:Nat}{a:Option Addr}{n c:Nat}{e1 e2:Int}{toks:List Tok}
end
end Go.Proofs.YtlmiakjbogojgaaGreatDoor
end
