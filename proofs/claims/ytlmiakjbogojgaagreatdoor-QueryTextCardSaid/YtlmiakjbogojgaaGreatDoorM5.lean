/- Texts of this proof, one behind another. -/
import Derived.Test.YtlmiakjbogojgaaGreatDoorM4
import Derived.Test.YtlmiakjbogojgaaGreatDoorM3
set_option linter.unusedVariables false
set_option linter.unusedSimpArgs false
section
open Go Mk
namespace Go.Proofs.YtlmiakjbogojgaaGreatDoor
set_option maxHeartbeats 16000000
attribute [local irreducible] Calls cI cB
theorem NQ{Γ:C4}{vs vg:Value}{gs:List E6}{q:D8}(hq0:QR Γ vs vg gs q)(hok:L0 q):PG Tryz.prog Γ 112 [.agg #[vs,vg]] (.bool (Z7 q)):=N6 fun Γ w hle hw=>by
 have hq:=hq0.mono hle
 have hqN:=hq
 obtain⟨ga,gn,gc,rfl,hgn,hgnc,hgc⟩:=hq.goals.shape;obtain⟨sa,sn,sc,rfl,hsn,hsnc,hsc⟩:=hq.sel.shape;simp only[List.length_map]at hgn hsn
 have hrG:=hq.goals
 have hgl:=hq.glen hok
 have hsl:=hok.sel
 have hnl:=hq.nlen
 refine A4 Tryz.func112 rfl rfl ?_
 repeat first|refine A5 ?_|refine A6 ?_;intro w hw
 refine J5 ?_;intro b1 w hw;have hw:Wd Γ [.blk b1 (.cells #[.slice sa sn sc,.slice ga gn gc] 25)] w:=hw
 repeat first|refine A5 ?_|refine A6 ?_;intro w hw
 refine A0 rfl (fun h=>?_) (fun h=>?_)
 ·have hf:Z7 q=false:=by
   simp only[Bool.or_eq_true,decide_eq_true_eq]at h
   unfold Z7;rcases h with (h|h)|h
   ·rw[decide_eq_false (by omega)];rfl
   ·rw[decide_eq_false (p:=q.Goals.length≤16) (by omega),Bool.and_false];rfl
   ·rw[decide_eq_false (p:=q.Sel.length≤8) (by omega),Bool.and_false];rfl
  repeat first|refine A5 ?_|refine A6 ?_;intro w hw
  exact⟨_,rfl,Γ,C4.le.refl _,F7 rfl hf.symm,hw.drop⟩
 have hb:1≤gn∧gn≤16∧sn≤8:=by
  simp only[Bool.or_eq_false_iff,decide_eq_false_iff_not]at h
  obtain⟨⟨h1,h2⟩,h3⟩:=h;omega
 clear h;have hokl:Z7 q=((q.Goals.all GX)&&decide ((T5 q).length≤8)):=by
  unfold Z7;rw[decide_eq_true (by omega:1≤q.Goals.length),decide_eq_true (by omega:q.Goals.length≤16),decide_eq_true (by omega:q.Sel.length≤8)];rfl
 repeat first|refine A5 ?_|refine A6 ?_;intro w hw
 refine C1 (fun μ ρ w=>∃(k:Nat),μ+k=gn∧Has ρ [(1,.pointer (some ⟨b1,0,none⟩)),(3,.int .i64 k)]∧q.Goals.all GX=(q.Goals.drop k).all GX∧Wd Γ [.blk b1 (.cells #[.slice sa sn sc,.slice ga gn gc] 25)] w) gn ⟨0,by omega,⟨rfl,rfl,trivial⟩,rfl,hw⟩ ?_
 clear hw;rintro μ ρ w ⟨k,hk,hρ,hall,hw⟩
 rw[hρ.eq];clear hρ;repeat first|refine A5 ?_|refine A6 ?_;intro w hw
 refine A0 rfl (fun h=>?_) (fun h=>?_)
 ·have hkn:k<gn:=by have:=of_decide_eq_true h;omega
  clear h;obtain⟨x,hx⟩:=B8 (l:=gs) (k:=k) (by omega)
  have hxm:=List.mem_of_getElem? hx
  have hgoal:=hq.goal hok hxm
  have hgok:=hq.ok x hxm
  have hgx:=hq.get hx
  rw[H7 hgx]at hall;obtain⟨l1,l2,l3⟩:=hgok.len;obtain⟨g,A,N,C⟩:=x;simp only at hall hgoal l1 l2 l3 hgx
  repeat first|refine A5 ?_|refine A6 ?_;intro w hw
  refine B7 ?_;intro b4 w hw;repeat first|refine A5 ?_|refine A6 ?_;intro w hw
  refine A9 ?_;intro w hw;have hw:Wd Γ [.blk b4 (.cells (cG ⟨g,A,N,C⟩).toArray 77),.blk b1 (.cells #[.slice sa sn sc,.slice ga gn gc] 25)] w:=hw
  repeat first|refine A5 ?_|refine A6 ?_;intro w hw
  refine A0 rfl (fun h=>?_) (fun h=>?_)
  ·have hf:GX g=false:=by
    have h:((decide (g.Kind=1)||decide (g.Kind=2))&&(decide ((N:Int)<1)||decide (8<(N:Int))))=true:=h
    rw[Bool.and_eq_true,Bool.or_eq_true (decide ((N:Int)<1)),decide_eq_true_eq,decide_eq_true_eq]at h;show (!E3 g||_)=false
    rw[show E3 g=true from h.1];simp only[Bool.not_true,Bool.false_or,Bool.and_eq_false_iff,decide_eq_false_iff_not]
    rcases h.2 with h2|h2
    ·exact .inl (by omega)
    ·exact .inr (by omega)
   repeat first|refine A5 ?_|refine A6 ?_;intro w hw
   refine⟨_,rfl,Γ,C4.le.refl _,F7 rfl ?_,E8 hw⟩
   rw[hokl,hall,hf];rfl
  have hf:GX g=true:=by
   have h:(E3 g&&(decide ((N:Int)<1)||decide (8<(N:Int))))=false:=h
   show (!E3 g||_)=true
   cases hi:E3 g with
   | false=>rfl
   | true=>
    rw[hi,Bool.true_and,Bool.or_eq_false_iff,decide_eq_false_iff_not,decide_eq_false_iff_not]at h;rw[decide_eq_true (by omega),decide_eq_true (by omega)];rfl
  clear h;rw[hf,Bool.true_and]at hall;repeat first|refine A5 ?_|refine A6 ?_;intro w hw
  exact⟨gn-k-1,by omega,k+1,by omega,⟨rfl,rfl,trivial⟩,hall,hw.drop⟩
 have hkn:gn≤k:=by have:=of_decide_eq_false h;omega
 clear h;rw[E0 _ (by rw[hnl];omega)]at hall
 repeat first|refine A5 ?_|refine A6 ?_;intro w hw
 refine B9 (vs:=[.agg #[.slice sa sn sc,.slice ga gn gc]]) ((Hc hqN hok hw).mono fun e w hq2=>?_)
 clear hw;obtain⟨Γ2,v,hle2,rfl,hrv,hw⟩:=hq2;obtain⟨oa,on,oc,rfl,hon,honc,hoc⟩:=hrv.shape;simp only[List.length_map]at hon
 refine⟨_,rfl,?_⟩;repeat first|refine A5 ?_|refine A6 ?_;intro w hw
 refine⟨_,rfl,Γ2,hle2,F7 rfl ?_,E8 hw⟩
 rw[hokl,hall];show decide ((on:Int)≤8)=(true&&decide ((T5 q).length≤8))
 rw[Bool.true_and];exact decide_eq_decide.2 (by omega)
theorem Mv{Γ:C4}{vs vg:Value}{gs:List E6}{q:D8}(hq0:QR Γ vs vg gs q)(hok:L0 q):PG Tryz.prog Γ 115 [.agg #[vs,vg]] (.bool (Ap q)):=N6 fun Γ w hle hw=>by
 have hq:=hq0.mono hle
 obtain⟨ga,gn,gc,rfl,hgn,hgnc,hgc⟩:=hq.goals.shape;obtain⟨sa,sn,sc,rfl,hsn,hsnc,hsc⟩:=hq.sel.shape;simp only[List.length_map]at hgn hsn
 have hrG:=hq.goals
 have hgl:=hq.glen hok
 refine A4 Tryz.func115 rfl rfl ?_
 repeat first|refine A5 ?_|refine A6 ?_;intro w hw
 refine J5 ?_;intro b1 w hw;have hw:Wd Γ [.blk b1 (.cells #[.slice sa sn sc,.slice ga gn gc] 25)] w:=hw
 repeat first|refine A5 ?_|refine A6 ?_;intro w hw
 refine C1 (fun μ ρ w=>∃(k:Nat),μ+k=gn∧Has ρ [(1,.pointer (some ⟨b1,0,none⟩)),(3,.int .i64 k)]∧Ap q=(q.Goals.drop k).all Z1∧Wd Γ [.blk b1 (.cells #[.slice sa sn sc,.slice ga gn gc] 25)] w) gn ⟨0,by omega,⟨rfl,rfl,trivial⟩,rfl,hw⟩ ?_
 clear hw;rintro μ ρ w ⟨k,hk,hρ,hall,hw⟩
 rw[hρ.eq];clear hρ;repeat first|refine A5 ?_|refine A6 ?_;intro w hw
 refine A0 rfl (fun h=>?_) (fun h=>?_)
 ·have hkn:k<gn:=by have:=of_decide_eq_true h;omega
  clear h;obtain⟨x,hx⟩:=B8 (l:=gs) (k:=k) (by omega)
  have hgoal:=hq.goal hok (List.mem_of_getElem? hx)
  rw[H7 (hq.get hx)]at hall;obtain⟨g,A,N,C⟩:=x;simp only at hall hgoal
  obtain⟨hm1,hm2⟩:=hgoal.low;obtain⟨hm3,hm4⟩:=hgoal.high;repeat first|refine A5 ?_|refine A6 ?_;intro w hw
  refine B7 ?_;intro b4 w hw;repeat first|refine A5 ?_|refine A6 ?_;intro w hw
  refine A9 ?_;intro w hw;have hw:Wd Γ [.blk b4 (.cells (cG ⟨g,A,N,C⟩).toArray 77),.blk b1 (.cells #[.slice sa sn sc,.slice ga gn gc] 25)] w:=hw
  repeat first|refine A5 ?_|refine A6 ?_;intro w hw
  refine A0 rfl (fun h=>?_) (fun h=>?_)
  ·have hk3:g.Kind=3:=of_decide_eq_true h
   clear h;have hn:Z1 g=(decide (1≤g.Op)&&decide (g.Op≤6)&&decide (g.Off≠-9223372036854775808)):=by unfold Z1;rw[if_pos hk3]
   repeat first|refine A5 ?_|refine A6 ?_;intro w hw
   refine A0 rfl (fun h=>?_) (fun h=>?_)
   ·have hf:Z1 g=false:=by
     rw[hn];simp only[Bool.or_eq_true,decide_eq_true_eq]at h
     simp only[Bool.and_eq_false_iff,decide_eq_false_iff_not]
     rcases h with (h|h)|h
     ·exact .inl (.inl (by omega))
     ·exact .inl (.inr (by omega))
     ·exact .inr (by simpa using h)
    repeat first|refine A5 ?_|refine A6 ?_;intro w hw
    refine⟨_,rfl,Γ,C4.le.refl _,F7 rfl ?_,hw.drop.drop⟩
    rw[hall,hf];rfl
   ·have hf:Z1 g=true:=by
     rw[hn];simp only[Bool.or_eq_false_iff,decide_eq_false_iff_not]at h
     simp only[Bool.and_eq_true,decide_eq_true_eq]
     exact⟨⟨by omega,by omega⟩,h.2⟩
    rw[hf,Bool.true_and]at hall;repeat first|refine A5 ?_|refine A6 ?_;intro w hw
    exact⟨μ-1,by omega,k+1,by omega,⟨rfl,rfl,trivial⟩,hall,hw.drop⟩
  have hk3:¬g.Kind=3:=of_decide_eq_false h
  clear h;repeat first|refine A5 ?_|refine A6 ?_;intro w hw
  refine A0 rfl (fun h=>?_) (fun h=>?_)
  ·have hk4:g.Kind=4:=of_decide_eq_true h
   clear h;have hn:Z1 g=(decide (g.Low≤g.High)&&decide (g.High-g.Low≤1000000)):=by unfold Z1;rw[if_neg hk3,if_pos hk4]
   have hsub:g.Low≤g.High→IntKind.u64.wrap (IntKind.u64.wrap g.High-IntKind.u64.wrap g.Low)=g.High-g.Low:=fun h=>Ev hgoal.high hgoal.low h
   repeat first|refine A5 ?_|refine A6 ?_;intro w hw
   refine A0 rfl (fun h=>?_) (fun h=>?_)
   ·have hf:Z1 g=false:=by
     rw[hn];simp only[Bool.or_eq_true,decide_eq_true_eq]at h
     simp only[Bool.and_eq_false_iff,decide_eq_false_iff_not]
     by_cases hl:g.Low≤g.High
     ·refine .inr ?_
      rcases h with h|h
      ·have h:g.High<g.Low:=h
       omega
      ·have h:1000000<IntKind.u64.wrap (IntKind.u64.wrap g.High-IntKind.u64.wrap g.Low):=h
       rw[hsub hl]at h;omega
     ·exact .inl hl
    repeat first|refine A5 ?_|refine A6 ?_;intro w hw
    refine⟨_,rfl,Γ,C4.le.refl _,F7 rfl ?_,hw.drop.drop⟩
    rw[hall,hf];rfl
   ·have hf:Z1 g=true:=by
     rw[hn];simp only[Bool.or_eq_false_iff,decide_eq_false_iff_not]at h
     obtain⟨h1,h2⟩:=h;have h1:¬g.High<g.Low:=h1
     have hl:g.Low≤g.High:=by omega
     have h2:¬1000000<IntKind.u64.wrap (IntKind.u64.wrap g.High-IntKind.u64.wrap g.Low):=h2
     rw[hsub hl]at h2;simp only[Bool.and_eq_true,decide_eq_true_eq]
     exact⟨hl,by omega⟩
    rw[hf,Bool.true_and]at hall;repeat first|refine A5 ?_|refine A6 ?_;intro w hw
    exact⟨μ-1,by omega,k+1,by omega,⟨rfl,rfl,trivial⟩,hall,hw.drop⟩
  have hk4:¬g.Kind=4:=of_decide_eq_false h
  have hf:Z1 g=true:=by unfold Z1;rw[if_neg hk3,if_neg hk4]
  rw[hf,Bool.true_and]at hall;repeat first|refine A5 ?_|refine A6 ?_;intro w hw
  exact⟨μ-1,by omega,k+1,by omega,⟨rfl,rfl,trivial⟩,hall,hw.drop⟩
 have hkn:gn≤k:=by have:=of_decide_eq_false h;omega
 rw[E0 _ (by rw[hq.nlen];omega)]at hall
 repeat first|refine A5 ?_|refine A6 ?_;intro w hw
 exact⟨_,rfl,Γ,C4.le.refl _,F7 rfl hall.symm,hw.drop⟩
theorem NG{Γ:C4}{vs vg:Value}{gs:List E6}{q:D8}(hq0:QR Γ vs vg gs q)(hok:L0 q):PG Tryz.prog Γ 113 [.agg #[vs,vg]] (.bool (S7 q)):=N6 fun Γ w hle hw=>by
 have hq:=hq0.mono hle
 obtain⟨ga,gn,gc,rfl,hgn,hgnc,hgc⟩:=hq.goals.shape;obtain⟨sa,sn,sc,rfl,hsn,hsnc,hsc⟩:=hq.sel.shape;simp only[List.length_map]at hgn hsn
 have hgl:=hq.glen hok
 have hnl:=hq.nlen
 have hall0:S7 q=q.Goals.all Nt:=rfl
 refine A4 Tryz.func113 rfl rfl ?_
 repeat first|refine A5 ?_|refine A6 ?_;intro w hw
 refine J5 ?_;intro b1 w hw;have hw:Wd Γ [.blk b1 (.cells #[.slice sa sn sc,.slice ga gn gc] 25)] w:=hw
 repeat first|refine A5 ?_|refine A6 ?_;intro w hw
 refine B7 ?_;intro b3 w hw;refine A9 ?_;intro w hw;have hw:Wd Γ [.blk b3 (.cells (enc Q3).toArray 75),.blk b1 (.cells #[.slice sa sn sc,.slice ga gn gc] 25)] w:=hw
 repeat first|refine A5 ?_|refine A6 ?_;intro w hw
 refine C1 (fun μ ρ w=>∃(Γ':C4) (k:Nat),Γ.le Γ'∧μ+k=gn∧Has ρ [(1,.pointer (some ⟨b1,0,none⟩)),(3,.pointer (some ⟨b3,0,none⟩)),(4,.int .i64 k)]∧S7 q=(q.Goals.drop k).all Nt∧Wd Γ' [.blk b3 (.cells (enc Q3).toArray 75),.blk b1 (.cells #[.slice sa sn sc,.slice ga gn gc] 25)] w) gn ⟨Γ,0,C4.le.refl _,by omega,⟨rfl,rfl,rfl,trivial⟩,hall0,hw⟩ ?_
 clear hw;rintro μ ρ w ⟨Γ1,k,hle1,hk,hρ,hall,hw⟩
 rw[hρ.eq];clear hρ;have hq1:=hq.mono hle1
 have hrG1:=hq1.goals
 repeat first|refine A5 ?_|refine A6 ?_;intro w hw
 refine A0 rfl (fun h=>?_) (fun h=>?_)
 ·have hkn:k<gn:=by have:=of_decide_eq_true h;omega
  clear h;obtain⟨x,hx⟩:=B8 (l:=gs) (k:=k) (by omega)
  have hxm:=List.mem_of_getElem? hx
  have hgoal:=hq.goal hok hxm
  have hgok:=hq1.ok x hxm
  have hgx:=hq.get hx
  rw[H7 hgx]at hall;obtain⟨l1,l2,l3⟩:=hgok.len;obtain⟨g,A,N,C⟩:=x;simp only at hall hgoal l1 l2 l3 hgx
  have hal:=hgoal.len
  have hno:J0 g=false→S7 q=false:=fun e=>by
   rw[hall];unfold Nt;rw[e];rfl
  repeat first|refine A5 ?_|refine A6 ?_;intro w hw
  refine B7 ?_;intro b5 w hw;repeat first|refine A5 ?_|refine A6 ?_;intro w hw
  refine A9 ?_;intro w hw;have hw:Wd Γ1 [.blk b5 (.cells (cG ⟨g,A,N,C⟩).toArray 77),.blk b3 (.cells (enc Q3).toArray 75),.blk b1 (.cells #[.slice sa sn sc,.slice ga gn gc] 25)] w:=hw
  first|refine A5 ?_|(refine A6 ?_;intro w hw)
  refine BL (fun ρ w=>J0 g=true∧Has ρ [(1,.pointer (some ⟨b1,0,none⟩)),(3,.pointer (some ⟨b3,0,none⟩)),(4,.int .i64 k),(5,.pointer (some ⟨b5,0,none⟩))]∧Wd Γ1 [.blk b5 (.cells (cG ⟨g,A,N,C⟩).toArray 77),.blk b3 (.cells (enc Q3).toArray 75),.blk b1 (.cells #[.slice sa sn sc,.slice ga gn gc] 25)] w) ?_ ?_
  ·have k12:∀h12:g.Kind=1∨g.Kind=2,J0 g=(decide (g.Op=0)&&decide (g.L=Q3)&&decide (g.R=Q3)&&decide (g.Off=0)&&decide (g.Low=0)&&decide (g.High=0)):=fun h12=>by unfold J0;rw[if_pos h12]
   have tt:∀ {p1 p2 p3 p4 p5 p6:Prop} [Decidable p1] [Decidable p2] [Decidable p3] [Decidable p4] [Decidable p5] [Decidable p6] {b:Bool},(decide ¬p1||decide ¬p2||decide ¬p3||decide ¬p4||decide ¬p5||decide ¬p6)=b→(decide p1&&decide p2&&decide p3&&decide p4&&decide p5&&decide p6) = !b:=by
    intro p1 p2 p3 p4 p5 p6 _ _ _ _ _ _ b h;rw[←h];simp[Bool.not_or]
   repeat first|refine A5 ?_|refine A6 ?_;intro w hw
   refine A0 rfl (fun h=>?_) (fun h=>?_)
   ·have hk1:g.Kind=1:=of_decide_eq_true h
    repeat first|refine A5 ?_|refine A6 ?_;intro w hw
    refine G1 (congrArg Value.bool h) ?_
    repeat first|refine A5 ?_|refine A6 ?_;intro w hw
    refine lG ?_ (hv:=fun hc=>by exact Z9 (a:=g.L) (b:=Q3) B1 B1 rfl)
    repeat first|refine A5 ?_|refine A6 ?_;intro w hw
    refine lG ?_ (hv:=fun hc=>by exact Z9 (a:=g.R) (b:=Q3) B1 B1 rfl)
    repeat first|refine A5 ?_|refine A6 ?_;intro w hw
    refine A0 rfl (fun h=>?_) (fun h=>?_)
    ·have hf:=(k12 (.inl hk1)).trans (tt h)
     repeat first|refine A5 ?_|refine A6 ?_;intro w hw
     exact⟨_,rfl,Γ1,hle1,F7 rfl (hno hf).symm,E8 hw⟩
    ·have hf:=(k12 (.inl hk1)).trans (tt h)
     repeat first|refine A5 ?_|refine A6 ?_;intro w hw
     exact⟨hf,⟨rfl,rfl,rfl,rfl,trivial⟩,hw⟩
   have hk1:¬g.Kind=1:=of_decide_eq_false h
   clear h;repeat first|refine A5 ?_|refine A6 ?_;intro w hw
   refine A0 rfl (fun h=>?_) (fun h=>?_)
   ·have hk2:g.Kind=2:=of_decide_eq_true h
    repeat first|refine A5 ?_|refine A6 ?_;intro w hw
    refine lG ?_ (hv:=fun hc=>by exact Z9 (a:=g.L) (b:=Q3) B1 B1 rfl)
    repeat first|refine A5 ?_|refine A6 ?_;intro w hw
    refine lG ?_ (hv:=fun hc=>by exact Z9 (a:=g.R) (b:=Q3) B1 B1 rfl)
    repeat first|refine A5 ?_|refine A6 ?_;intro w hw
    refine A0 rfl (fun h=>?_) (fun h=>?_)
    ·have hf:=(k12 (.inr hk2)).trans (tt h)
     repeat first|refine A5 ?_|refine A6 ?_;intro w hw
     exact⟨_,rfl,Γ1,hle1,F7 rfl (hno hf).symm,E8 hw⟩
    ·have hf:=(k12 (.inr hk2)).trans (tt h)
     repeat first|refine A5 ?_|refine A6 ?_;intro w hw
     exact⟨hf,⟨rfl,rfl,rfl,rfl,trivial⟩,hw⟩
   have hk2:¬g.Kind=2:=of_decide_eq_false h
   clear h;repeat first|refine A5 ?_|refine A6 ?_;intro w hw
   refine A0 rfl (fun h=>?_) (fun h=>?_)
   ·have hk3:g.Kind=3:=of_decide_eq_true h
    have hs:J0 g=(decide (g.Rel=C5)&&decide (g.Args.length=0)&&decide (g.Low=0)&&decide (g.High=0)):=by
     unfold J0;rw[if_neg (fun e=>e.elim hk1 hk2),if_pos hk3]
    have e:decide (0<(N:Int)) = !decide (g.Args.length=0):=by
     rw[←decide_not];exact decide_eq_decide.2 (by omega)
    repeat first|refine A5 ?_|refine A6 ?_;intro w hw
    refine A0 rfl (fun h=>?_) (fun h=>?_)
    ·have h:(decide (g.Rel≠C5)||decide (0<(N:Int))||decide (g.Low≠0)||decide (g.High≠0))=true:=h
     have hf:J0 g=false:=by
      rw[e]at h;rw[hs];have:=congrArg (!·) h
      simpa[Bool.not_or] using this
     repeat first|refine A5 ?_|refine A6 ?_;intro w hw
     exact⟨_,rfl,Γ1,hle1,F7 rfl (hno hf).symm,E8 hw⟩
    ·have h:(decide (g.Rel≠C5)||decide (0<(N:Int))||decide (g.Low≠0)||decide (g.High≠0))=false:=h
     have hf:J0 g=true:=by
      rw[e]at h;rw[hs];have:=congrArg (!·) h
      simpa[Bool.not_or] using this
     repeat first|refine A5 ?_|refine A6 ?_;intro w hw
     exact⟨hf,⟨rfl,rfl,rfl,rfl,trivial⟩,hw⟩
   have hk3:¬g.Kind=3:=of_decide_eq_false h
   clear h;repeat first|refine A5 ?_|refine A6 ?_;intro w hw
   refine A0 rfl (fun h=>?_) (fun h=>?_)
   ·have hk4:g.Kind=4:=of_decide_eq_true h
    have hs:J0 g=(decide (g.Rel=C5)&&decide (g.Args.length=0)&&decide (g.Op=0)&&decide (g.R=Q3)&&decide (g.Off=0)&&decide (g.L.Var≠C5)):=by
     unfold J0;rw[if_neg (fun e=>e.elim hk1 hk2),if_neg hk3,if_pos hk4]
    have e:decide (0<(N:Int)) = !decide (g.Args.length=0):=by
     rw[←decide_not];exact decide_eq_decide.2 (by omega)
    repeat first|refine A5 ?_|refine A6 ?_;intro w hw
    refine lG ?_ (hv:=fun hc=>by exact Z9 (a:=g.R) (b:=Q3) B1 B1 rfl)
    repeat first|refine A5 ?_|refine A6 ?_;intro w hw
    refine A0 rfl (fun h=>?_) (fun h=>?_)
    ·have h:(decide (g.Rel≠C5)||decide (0<(N:Int))||decide (g.Op≠0)||decide (g.R≠Q3)||decide (g.Off≠0)||decide (g.L.Var=C5))=true:=h
     have hf:J0 g=false:=by
      rw[e]at h;rw[hs];have:=congrArg (!·) h
      simpa[Bool.not_or] using this
     repeat first|refine A5 ?_|refine A6 ?_;intro w hw
     exact⟨_,rfl,Γ1,hle1,F7 rfl (hno hf).symm,E8 hw⟩
    ·have h:(decide (g.Rel≠C5)||decide (0<(N:Int))||decide (g.Op≠0)||decide (g.R≠Q3)||decide (g.Off≠0)||decide (g.L.Var=C5))=false:=h
     have hf:J0 g=true:=by
      rw[e]at h;rw[hs];have:=congrArg (!·) h
      simpa[Bool.not_or] using this
     repeat first|refine A5 ?_|refine A6 ?_;intro w hw
     exact⟨hf,⟨rfl,rfl,rfl,rfl,trivial⟩,hw⟩
   have hk4:¬g.Kind=4:=of_decide_eq_false h
   have hf:J0 g=false:=by
    unfold J0;rw[if_neg (fun e=>e.elim hk1 hk2),if_neg hk3,if_neg hk4]
   repeat first|refine A5 ?_|refine A6 ?_;intro w hw
   exact⟨_,rfl,Γ1,hle1,F7 rfl (hno hf).symm,E8 hw⟩
  clear hw;rintro ρ w ⟨hsg,hρ,hw⟩
  rw[hρ.eq];clear hρ;have hsh0:Nt g=(E7 g).all plainO:=by unfold Nt;rw[hsg];rfl
  repeat first|refine A5 ?_|refine A6 ?_;intro w hw
  refine B9 (vs:=[.agg (cG ⟨g,A,N,C⟩).toArray]) ((j5 hgok hgoal.len hw).mono fun e w hq2=>?_)
  clear hw;obtain⟨Γ2,v,hle2,rfl,hrv,hw⟩:=hq2;obtain⟨oa,on,oc,rfl,hon,honc,hoc⟩:=hrv.shape;simp only[List.length_map]at hon
  have hol:=AL hgoal
  refine⟨_,rfl,?_⟩;repeat first|refine A5 ?_|refine A6 ?_;intro w hw
  refine C1 (fun μ ρ w=>∃(j:Nat),μ+j=on∧Has ρ [(1,.pointer (some ⟨b1,0,none⟩)),(3,.pointer (some ⟨b3,0,none⟩)),(4,.int .i64 k),(6,.slice oa on oc),(7,.int .i64 j)]∧Nt g=((E7 g).drop j).all plainO∧Wd Γ2 [.blk b5 (.cells (cG ⟨g,A,N,C⟩).toArray 77),.blk b3 (.cells (enc Q3).toArray 75),.blk b1 (.cells #[.slice sa sn sc,.slice ga gn gc] 25)] w) on ⟨0,by omega,⟨rfl,rfl,rfl,rfl,rfl,trivial⟩,hsh0,hw⟩ ?_
  clear hw;rintro μ2 ρ w ⟨j,hj,hρ,hsh,hw⟩
  rw[hρ.eq];clear hρ;repeat first|refine A5 ?_|refine A6 ?_;intro w hw
  refine A0 rfl (fun h=>?_) (fun h=>?_)
  ·have hjn:j<on:=by have:=of_decide_eq_true h;omega
   clear h;obtain⟨o,ho⟩:=B8 (l:=E7 g) (k:=j) (by omega)
   rw[H7 ho]at hsh;have hp:plainO o = !(decide (o.Var≠C5)&&decide (o.Const≠H8)):=by unfold plainO;simp[Bool.not_and]
   repeat first|refine A5 ?_|refine A6 ?_;intro w hw
   refine lG ?_ (hv:=fun hc=>by exact Z9 (a:=o.Const) (b:=H8) B1 B1 rfl)
   repeat first|refine A5 ?_|refine A6 ?_;intro w hw
   refine A0 rfl (fun h=>?_) (fun h=>?_)
   ·have h:(decide (o.Var≠C5)&&decide (o.Const≠H8))=true:=h
    repeat first|refine A5 ?_|refine A6 ?_;intro w hw
    refine⟨_,rfl,Γ2,hle1.trans hle2,F7 rfl ?_,E8 hw⟩
    rw[hall,hsh,hp,h];rfl
   ·have h:(decide (o.Var≠C5)&&decide (o.Const≠H8))=false:=h
    rw[hp,h,Bool.not_false,Bool.true_and]at hsh;repeat first|refine A5 ?_|refine A6 ?_;intro w hw
    exact⟨on-j-1,by omega,j+1,by omega,⟨rfl,rfl,rfl,rfl,rfl,trivial⟩,hsh,hw⟩
  have hjn:on≤j:=by have:=of_decide_eq_false h;omega
  clear h;rw[E0 (E7 g) (by omega)]at hsh
  have hsh:Nt g=true:=hsh
  rw[hsh,Bool.true_and]at hall;repeat first|refine A5 ?_|refine A6 ?_;intro w hw
  exact⟨gn-k-1,by omega,Γ2,k+1,hle1.trans hle2,by omega,⟨rfl,rfl,rfl,trivial⟩,hall,hw.drop⟩
 have hkn:gn≤k:=by have:=of_decide_eq_false h;omega
 rw[E0 _ (by rw[hnl];omega)]at hall
 repeat first|refine A5 ?_|refine A6 ?_;intro w hw
 exact⟨_,rfl,Γ1,hle1,F7 rfl hall.symm,E8 hw⟩
end Go.Proofs.YtlmiakjbogojgaaGreatDoor
end
section
open Go Mk
namespace Go.Proofs.YtlmiakjbogojgaaGreatDoor
set_option maxHeartbeats 16000000
attribute [local irreducible] Calls cI cB
theorem Pr{Γ:C4}{vs vg:Value}{gs:List E6}{q:D8}(hq0:QR Γ vs vg gs q)(hok:L0 q):PG Tryz.prog Γ 114 [.agg #[vs,vg]] (.bool (O1 q)):=N6 fun Γ w hle hw=>by
 have hq:=hq0.mono hle
 obtain⟨ga,gn,gc,rfl,hgn,hgnc,hgc⟩:=hq.goals.shape;obtain⟨sa,sn,sc,rfl,hsn,hsnc,hsc⟩:=hq.sel.shape;simp only[List.length_map]at hgn hsn
 have hgl:=hq.glen hok
 have hsl:=hok.sel
 have hnl:=hq.nlen
 have hrS:=hq.sel
 refine A4 Tryz.func114 rfl rfl ?_
 repeat first|refine A5 ?_|refine A6 ?_;intro w hw
 refine J5 ?_;intro b1 w hw;have hw:Wd Γ [.blk b1 (.cells #[.slice sa sn sc,.slice ga gn gc] 25)] w:=hw
 repeat first|refine A5 ?_|refine A6 ?_;intro w hw
 refine C1 (fun μ ρ w=>∃(k:Nat),μ+k=sn∧Has ρ [(1,.pointer (some ⟨b1,0,none⟩)),(3,.int .i64 k)]∧q.Sel.all V7=(q.Sel.drop k).all V7∧Wd Γ [.blk b1 (.cells #[.slice sa sn sc,.slice ga gn gc] 25)] w) sn ⟨0,by omega,⟨rfl,rfl,trivial⟩,rfl,hw⟩ ?_
 clear hw;rintro μ ρ w ⟨k,hk,hρ,hall,hw⟩
 rw[hρ.eq];clear hρ;repeat first|refine A5 ?_|refine A6 ?_;intro w hw
 refine A0 rfl (fun h=>?_) (fun h=>?_)
 ·have hkn:k<sn:=by have:=of_decide_eq_true h;omega
  clear h;obtain⟨s,hs⟩:=B8 (l:=q.Sel) (k:=k) (by omega)
  rw[H7 hs]at hall;have p1:=ES (hok.names s (List.mem_of_getElem? hs))
  repeat first|refine A5 ?_|refine A6 ?_;intro w hw
  refine A0 rfl (fun h=>?_) (fun h=>?_)
  ·have hf:V7 s=false:=by simpa using h
   repeat first|refine A5 ?_|refine A6 ?_;intro w hw
   refine⟨_,rfl,Γ,C4.le.refl _,F7 rfl ?_,E8 hw⟩
   unfold O1;rw[hall,hf];rfl
  ·have hf:V7 s=true:=by simpa using h
   rw[hf,Bool.true_and]at hall;repeat first|refine A5 ?_|refine A6 ?_;intro w hw
   exact⟨μ-1,by omega,k+1,by omega,⟨rfl,rfl,trivial⟩,hall,hw⟩
 have hkn:sn≤k:=by have:=of_decide_eq_false h;omega
 clear h;rw[E0 q.Sel (by omega)]at hall
 have hall0:O1 q=q.Goals.all Z5:=by unfold O1;rw[hall];rfl
 clear hall hkn hk;repeat first|refine A5 ?_|refine A6 ?_;intro w hw
 refine C1 (fun μ ρ w=>∃(Γ':C4) (k:Nat),Γ.le Γ'∧μ+k=gn∧Has ρ [(1,.pointer (some ⟨b1,0,none⟩)),(4,.int .i64 k)]∧O1 q=(q.Goals.drop k).all Z5∧Wd Γ' [.blk b1 (.cells #[.slice sa sn sc,.slice ga gn gc] 25)] w) gn ⟨Γ,0,C4.le.refl _,by omega,⟨rfl,rfl,trivial⟩,hall0,hw⟩ ?_
 clear hw;rintro μ ρ w ⟨Γ1,k,hle1,hk,hρ,hall,hw⟩
 rw[hρ.eq];clear hρ;have hq1:=hq.mono hle1
 have hrG1:=hq1.goals
 repeat first|refine A5 ?_|refine A6 ?_;intro w hw
 refine A0 rfl (fun h=>?_) (fun h=>?_)
 ·have hkn:k<gn:=by have:=of_decide_eq_true h;omega
  clear h;obtain⟨x,hx⟩:=B8 (l:=gs) (k:=k) (by omega)
  have hxm:=List.mem_of_getElem? hx
  have hgoal:=hq.goal hok hxm
  have hgok:=hq1.ok x hxm
  have hgx:=hq.get hx
  rw[H7 hgx]at hall;obtain⟨l1,l2,l3⟩:=hgok.len;obtain⟨g,A,N,C⟩:=x;simp only at hall hgoal l1 l2 l3 hgx
  have hal:=hgoal.len
  haveI:=Ip hgoal.rel
  repeat first|refine A5 ?_|refine A6 ?_;intro w hw
  refine B7 ?_;intro b5 w hw;repeat first|refine A5 ?_|refine A6 ?_;intro w hw
  refine A9 ?_;intro w hw;have hw:Wd Γ1 [.blk b5 (.cells (cG ⟨g,A,N,C⟩).toArray 77),.blk b1 (.cells #[.slice sa sn sc,.slice ga gn gc] 25)] w:=hw
  repeat first|refine A5 ?_|refine A6 ?_;intro w hw
  refine A0 rfl (fun h=>?_) (fun h=>?_)
  ·have hf:Z5 g=false:=by
    have h:(E3 g&&(!N8 g.Rel||u3 g.Rel))=true:=h
    unfold Z5;rw[h];rfl
   repeat first|refine A5 ?_|refine A6 ?_;intro w hw
   refine⟨_,rfl,Γ1,hle1,F7 rfl ?_,E8 hw⟩
   rw[hall,hf];rfl
  have hnG:Z5 g=(E7 g).all (BE g):=by
   have h:(E3 g&&(!N8 g.Rel||u3 g.Rel))=false:=h
   unfold Z5;rw[h];rfl
  clear h;repeat first|refine A5 ?_|refine A6 ?_;intro w hw
  refine B9 (vs:=[.agg (cG ⟨g,A,N,C⟩).toArray]) ((j5 hgok hgoal.len hw).mono fun e w hq2=>?_)
  clear hw;obtain⟨Γ2,v,hle2,rfl,hrv,hw⟩:=hq2;obtain⟨oa,on,oc,rfl,hon,honc,hoc⟩:=hrv.shape;simp only[List.length_map]at hon
  have hol:=AL hgoal
  refine⟨_,rfl,?_⟩;repeat first|refine A5 ?_|refine A6 ?_;intro w hw
  refine C1 (fun μ ρ w=>∃(j:Nat),μ+j=on∧Has ρ [(1,.pointer (some ⟨b1,0,none⟩)),(4,.int .i64 k),(6,.bool (E3 g)),(7,.slice oa on oc),(8,.int .i64 j)]∧Z5 g=((E7 g).drop j).all (BE g)∧Wd Γ2 [.blk b5 (.cells (cG ⟨g,A,N,C⟩).toArray 77),.blk b1 (.cells #[.slice sa sn sc,.slice ga gn gc] 25)] w) on ⟨0,by omega,⟨rfl,rfl,rfl,rfl,rfl,trivial⟩,hnG,hw⟩ ?_
  clear hw;rintro μ2 ρ w ⟨j,hj,hρ,hsh,hw⟩
  rw[hρ.eq];clear hρ;repeat first|refine A5 ?_|refine A6 ?_;intro w hw
  refine A0 rfl (fun h=>?_) (fun h=>?_)
  ·have hjn:j<on:=by have:=of_decide_eq_true h;omega
   clear h;obtain⟨o,ho⟩:=B8 (l:=E7 g) (k:=j) (by omega)
   obtain⟨hov,hoc2⟩:=Lb hgoal o (List.mem_of_getElem? ho)
   have p1:=ES hov
   have p2:=NF (Γ:=Γ2) hoc2
   rw[H7 ho]at hsh;have hno:BE g o = !((decide (o.Var=C5) && !I2 o.Const)||(decide (o.Var=J9) && !E3 g)||(decide (o.Var≠C5)&&decide (o.Var≠J9) && !V7 o.Var)):=by
    unfold BE;rw[Bool.not_or,Bool.not_or]
   repeat first|refine A5 ?_|refine A6 ?_;intro w hw
   refine B7 ?_;intro b9 w hw;refine A9 ?_;intro w hw;have hw:Wd Γ2 [.blk b9 (.cells (enc o).toArray 75),.blk b5 (.cells (cG ⟨g,A,N,C⟩).toArray 77),.blk b1 (.cells #[.slice sa sn sc,.slice ga gn gc] 25)] w:=hw
   repeat first|refine A5 ?_|refine A6 ?_;intro w hw
   refine NV (hp:=p2) ?_
   intro w hw;repeat first|refine A5 ?_|refine A6 ?_;intro w hw
   refine A0 rfl (fun h=>?_) (fun h=>?_)
   ·have h:((decide (o.Var=C5) && !I2 o.Const)||(decide (o.Var=J9) && !E3 g)||(decide (o.Var≠C5)&&decide (o.Var≠J9) && !V7 o.Var))=true:=h
    repeat first|refine A5 ?_|refine A6 ?_;intro w hw
    refine⟨_,rfl,Γ2,hle1.trans hle2,F7 rfl ?_,E8 hw⟩
    rw[hall,hsh,hno,h];rfl
   ·have h:((decide (o.Var=C5) && !I2 o.Const)||(decide (o.Var=J9) && !E3 g)||(decide (o.Var≠C5)&&decide (o.Var≠J9) && !V7 o.Var))=false:=h
    rw[hno,h,Bool.not_false,Bool.true_and]at hsh;repeat first|refine A5 ?_|refine A6 ?_;intro w hw
    exact⟨on-j-1,by omega,j+1,by omega,⟨rfl,rfl,rfl,rfl,rfl,trivial⟩,hsh,hw.drop⟩
  have hjn:on≤j:=by have:=of_decide_eq_false h;omega
  clear h;rw[E0 (E7 g) (by omega)]at hsh
  have hsh:Z5 g=true:=hsh
  rw[hsh,Bool.true_and]at hall;repeat first|refine A5 ?_|refine A6 ?_;intro w hw
  exact⟨gn-k-1,by omega,Γ2,k+1,hle1.trans hle2,by omega,⟨rfl,rfl,trivial⟩,hall,hw.drop⟩
 have hkn:gn≤k:=by have:=of_decide_eq_false h;omega
 rw[E0 _ (by rw[hnl];omega)]at hall
 repeat first|refine A5 ?_|refine A6 ?_;intro w hw
 exact⟨_,rfl,Γ1,hle1,F7 rfl hall.symm,E8 hw⟩
theorem RY{g:F6}(h:t7 g):(l6 g).length≤1000:=by
 unfold l6;split
 ·rw[List.length_map];exact AL h
 ·exact Nat.zero_le _
theorem PI{q:D8}(hok:L0 q)(k:Nat):((q.Goals.take k).flatMap l6).length≤1000*k:=by
 refine Nat.le_trans (j6 (m:=1000) fun g hg=>RY (hok.goals g (List.mem_of_mem_take hg))) ?_
 rw[List.length_take,Nat.mul_comm];exact Nat.mul_le_mul_left _ (Nat.min_le_left ..)
theorem RH{Γ:C4}{vs vg:Value}{gs:List E6}{q:D8}(hq0:QR Γ vs vg gs q)(hok:L0 q):PG Tryz.prog Γ 117 [.agg #[vs,vg]] (.bool (u1 q)):=N6 fun Γ w hle hw=>by
 have hq:=hq0.mono hle
 obtain⟨ga,gn,gc,rfl,hgn,hgnc,hgc⟩:=hq.goals.shape;obtain⟨sa,sn,sc,rfl,hsn,hsnc,hsc⟩:=hq.sel.shape;simp only[List.length_map]at hgn hsn
 have hgl:=hq.glen hok
 have hsl:=hok.sel
 have hnl:=hq.nlen
 refine A4 Tryz.func117 rfl rfl ?_
 repeat first|refine A5 ?_|refine A6 ?_;intro w hw
 refine J5 ?_;intro b1 w hw;have hw:=Wd.addNil (a:=none) (E:=9) (sz:=1) hw
 have hw:Wd Γ [.own (.slice none 0 0) 9 1 (A1 ((q.Goals.take 0).flatMap l6)),.blk b1 (.cells #[.slice sa sn sc,.slice ga gn gc] 25)] w:=hw
 repeat first|refine A5 ?_|refine A6 ?_;intro w hw
 refine C1 (fun μ ρ w=>∃(Γ':C4) (k:Nat) (va:Option Addr) (vn vc:Nat),Γ.le Γ'∧μ+k=gn∧Has ρ [(1,.pointer (some ⟨b1,0,none⟩)),(3,.slice va vn vc),(4,.int .i64 k)]∧Wd Γ' [.own (.slice va vn vc) 9 1 (A1 ((q.Goals.take k).flatMap l6)),.blk b1 (.cells #[.slice sa sn sc,.slice ga gn gc] 25)] w) gn ⟨Γ,0,none,0,0,C4.le.refl _,by omega,⟨rfl,rfl,rfl,trivial⟩,hw⟩ ?_
 clear hw;rintro μ ρ w ⟨Γ1,k,va,vn,vc,hle1,hk,hρ,hw⟩
 rw[hρ.eq];clear hρ;have hq1:=hq.mono hle1
 have hrG1:=hq1.goals
 repeat first|refine A5 ?_|refine A6 ?_;intro w hw
 refine A0 rfl (fun h=>?_) (fun h=>?_)
 ·have hkn:k<gn:=by have:=of_decide_eq_true h;omega
  clear h;obtain⟨x,hx⟩:=B8 (l:=gs) (k:=k) (by omega)
  have hxm:=List.mem_of_getElem? hx
  have hgoal:=hq.goal hok hxm
  have hgok:=hq1.ok x hxm
  have hgx:=hq.get hx
  have hsu0:=Aa (F:=l6) hgx
  have hbl:=PI hok k
  obtain⟨g,A,N,C⟩:=x;simp only at hgoal hgx hsu0
  have hop:=AL hgoal
  repeat first|refine A5 ?_|refine A6 ?_;intro w hw
  refine B7 ?_;intro b5 w hw;repeat first|refine A5 ?_|refine A6 ?_;intro w hw
  refine A9 ?_;intro w hw;have hw:Wd Γ1 [.blk b5 (.cells (cG ⟨g,A,N,C⟩).toArray 77),.own (.slice va vn vc) 9 1 (A1 ((q.Goals.take k).flatMap l6)),.blk b1 (.cells #[.slice sa sn sc,.slice ga gn gc] 25)] w:=hw
  repeat first|refine A5 ?_|refine A6 ?_;intro w hw
  refine A0 rfl (fun h=>?_) (fun h=>?_)
  ·have hkd:g.Kind=1∨g.Kind=4:=by
    have h:(decide (g.Kind=1)||decide (g.Kind=4))=true:=h
    simpa using h
   clear h;have hb:l6 g=(E7 g).map (·.Var):=if_pos hkd
   repeat first|refine A5 ?_|refine A6 ?_;intro w hw
   refine B9 (vs:=[.agg (cG ⟨g,A,N,C⟩).toArray]) ((j5 hgok hgoal.len hw).mono fun e w hq2=>?_)
   clear hw;obtain⟨Γ2,v,hle2,rfl,hrv,hw⟩:=hq2;obtain⟨oa,on,oc,rfl,hon,honc,hoc⟩:=hrv.shape;simp only[List.length_map]at hon
   refine⟨_,rfl,?_⟩;repeat first|refine A5 ?_|refine A6 ?_;intro w hw
   refine C1 (fun μ ρ w=>∃(j:Nat) (va:Option Addr) (vn vc:Nat),μ+j=on∧Has ρ [(1,.pointer (some ⟨b1,0,none⟩)),(3,.slice va vn vc),(4,.int .i64 k),(6,.slice oa on oc),(7,.int .i64 j)]∧Wd Γ2 [.blk b5 (.cells (cG ⟨g,A,N,C⟩).toArray 77),.own (.slice va vn vc) 9 1 (A1 (((q.Goals.take k).flatMap l6++((E7 g).take j).map (·.Var)))),.blk b1 (.cells #[.slice sa sn sc,.slice ga gn gc] 25)] w) on ⟨0,va,vn,vc,by omega,⟨rfl,rfl,rfl,rfl,rfl,trivial⟩,by rw[List.take_zero,List.map_nil,List.append_nil];exact hw⟩ ?_
   clear hw;rintro μ2 ρ w ⟨j,va,vn,vc,hj,hρ,hw⟩
   rw[hρ.eq];clear hρ;repeat first|refine A5 ?_|refine A6 ?_;intro w hw
   refine A0 rfl (fun h=>?_) (fun h=>?_)
   ·have hjn:j<on:=by have:=of_decide_eq_true h;omega
    clear h;obtain⟨o,ho⟩:=B8 (l:=E7 g) (k:=j) (by omega)
    have hbj:((q.Goals.take k).flatMap l6++((E7 g).take j).map (·.Var)).length≤1000*k+1000:=by rw[List.length_append,List.length_map,List.length_take];omega
    have hsu:A1 (((q.Goals.take k).flatMap l6++((E7 g).take j).map (·.Var)))++[[.string o.Var]]=A1 ((q.Goals.take k).flatMap l6++((E7 g).take (j+1)).map (·.Var)):=by
     rw[List.take_add_one,ho,List.map_append,←List.append_assoc];unfold A1;rw[List.map_append (l₁:=((q.Goals.take k).flatMap l6++((E7 g).take j).map (·.Var)))];rfl
    obtain⟨va',vn',vc',hve,hvn,hvc1,hvc2⟩:=hw.own_shape (i:=1) rfl
    cases hve
    rw[List.length_map]at hvn;repeat first|refine A5 ?_|refine A6 ?_;intro w hw
    refine E4 [[.string o.Var]] ?_
    intro q2 w hw;refine Bv (i:=2) (rows2:=[[.string o.Var]]) ?_ (Wd.own_rd (i:=0) hw rfl)
    intro v' w hw;have hw:Wd Γ2 [.own (.slice (some q2) 1 1) 9 1 [[.string o.Var]],.blk b5 (.cells (cG ⟨g,A,N,C⟩).toArray 77),.own v' 9 1 (A1 (((q.Goals.take k).flatMap l6++((E7 g).take j).map (·.Var)))++[[.string o.Var]]),.blk b1 (.cells #[.slice sa sn sc,.slice ga gn gc] 25)] w:=hw
    rw[hsu]at hw;have hw:=hw.drop
    obtain⟨xa,xn,xc,rfl,-,-,-⟩:=hw.own_shape (i:=1) rfl
    repeat first|refine A5 ?_|refine A6 ?_;intro w hw
    exact⟨on-j-1,by omega,j+1,xa,xn,xc,by omega,⟨rfl,rfl,rfl,rfl,rfl,trivial⟩,hw⟩
   have hjn:on≤j:=by have:=of_decide_eq_false h;omega
   clear h;have ho2:(E7 g).take j=E7 g:=List.take_of_length_le (by omega)
   rw[ho2,←hb,←hsu0]at hw;repeat first|refine A5 ?_|refine A6 ?_;intro w hw
   exact⟨gn-k-1,by omega,Γ2,k+1,va,vn,vc,hle1.trans hle2,by omega,⟨rfl,rfl,rfl,trivial⟩,hw.drop⟩
  have hkd:¬(g.Kind=1∨g.Kind=4):=by
   have h:(decide (g.Kind=1)||decide (g.Kind=4))=false:=h
   simpa using h
  clear h;have hb:l6 g=[]:=if_neg hkd
  rw[hb,List.append_nil]at hsu0;rw[←hsu0]at hw;repeat first|refine A5 ?_|refine A6 ?_;intro w hw
  exact⟨gn-k-1,by omega,Γ1,k+1,va,vn,vc,hle1,by omega,⟨rfl,rfl,rfl,trivial⟩,hw.drop⟩
 have hkn:gn≤k:=by have:=of_decide_eq_false h;omega
 clear h;rw[List.take_of_length_le (by omega)]at hw
 have hw:Wd Γ1 [.own (.slice va vn vc) 9 1 (A1 (Az q)),.blk b1 (.cells #[.slice sa sn sc,.slice ga gn gc] 25)] w:=hw
 have hwf:=hw.freeze
 clear hw;obtain⟨Γ2,hle2,hrb,hw⟩:=hwf;repeat first|refine A5 ?_|refine A6 ?_;intro w hw
 refine B9 (vs:=[.agg #[.slice sa sn sc,.slice ga gn gc]]) ((Hc (hq1.mono hle2) hok hw).mono fun e w hq2=>?_)
 clear hw;obtain⟨Γ3,v,hle3,rfl,hrn,hw⟩:=hq2;obtain⟨oa,on,oc,rfl,hon,honc,hoc⟩:=hrn.shape;simp only[List.length_map]at hon
 have hrb3:=hrb.mono hle3
 have hle13:=hle1.trans (hle2.trans hle3)
 refine⟨_,rfl,?_⟩;clear hkn hk;repeat first|refine A5 ?_|refine A6 ?_;intro w hw
 refine C1 (fun μ ρ w=>∃(k:Nat),μ+k=on∧Has ρ [(3,.slice va vn vc),(8,.slice oa on oc),(9,.int .i64 k)]∧u1 q=((T5 q).drop k).all (fun s=>P9 (Az q) s)∧Wd Γ3 [.blk b1 (.cells #[.slice sa sn sc,.slice ga gn gc] 25)] w) on ⟨0,by omega,⟨rfl,rfl,rfl,trivial⟩,rfl,hw⟩ ?_
 clear hw;rintro μ ρ w ⟨k,hk,hρ,hall,hw⟩
 rw[hρ.eq];clear hρ;repeat first|refine A5 ?_|refine A6 ?_;intro w hw
 refine A0 rfl (fun h=>?_) (fun h=>?_)
 ·have hkn:k<on:=by have:=of_decide_eq_true h;omega
  clear h;obtain⟨s,hs⟩:=B8 (l:=T5 q) (k:=k) (by omega)
  rw[H7 hs]at hall;have p1:PG Tryz.prog Γ3 116 [.slice va vn vc,.string s] (.bool (P9 (Az q) s)):=⟨fun S w hw=>Er hrb3.rdS hw⟩
  repeat first|refine A5 ?_|refine A6 ?_;intro w hw
  refine A0 rfl (fun h=>?_) (fun h=>?_)
  ·have hf:P9 (Az q) s=false:=by simpa using h
   repeat first|refine A5 ?_|refine A6 ?_;intro w hw
   refine⟨_,rfl,Γ3,hle13,F7 rfl ?_,E8 hw⟩
   rw[hall,hf];rfl
  ·have hf:P9 (Az q) s=true:=by simpa using h
   rw[hf,Bool.true_and]at hall;repeat first|refine A5 ?_|refine A6 ?_;intro w hw
   exact⟨on-k-1,by omega,k+1,by omega,⟨rfl,rfl,rfl,trivial⟩,hall,hw⟩
 have hkn:on≤k:=by have:=of_decide_eq_false h;omega
 rw[E0 (T5 q) (by omega)]at hall
 repeat first|refine A5 ?_|refine A6 ?_;intro w hw
 exact⟨_,rfl,Γ3,hle13,F7 rfl hall.symm,E8 hw⟩
theorem GZ{Γ:C4}{vs vg:Value}{gs:List E6}{q:D8}(hq0:QR Γ vs vg gs q)(hok:L0 q):PG Tryz.prog Γ 47 [.agg #[vs,vg]] (.int .i64 (T8 q)):=N6 fun Γ w hle hw=>by
 have hq:=hq0.mono hle
 have p1:=NQ hq hok
 have p2:=NG hq hok
 have p3:=Pr hq hok
 have p4:=Mv hq hok
 have p5:=RH hq hok
 obtain⟨ga,gn,gc,rfl,hgn,hgnc,hgc⟩:=hq.goals.shape;obtain⟨sa,sn,sc,rfl,hsn,hsnc,hsc⟩:=hq.sel.shape;simp only[List.length_map]at hgn hsn
 have hsl:=hok.sel
 have hrS:=hq.sel
 refine A4 Tryz.func47 rfl rfl ?_
 repeat first|refine A5 ?_|refine A6 ?_;intro w hw
 refine J5 ?_;intro b1 w hw;have hw:Wd Γ [.blk b1 (.cells #[.slice sa sn sc,.slice ga gn gc] 25)] w:=hw
 repeat first|refine A5 ?_|refine A6 ?_;intro w hw
 refine A0 rfl (fun h=>?_) (fun h=>?_)
 ·have h:Z7 q=false:=by simpa using h
  repeat first|refine A5 ?_|refine A6 ?_;intro w hw
  refine⟨_,rfl,Γ,C4.le.refl _,F9 rfl ?_,E8 hw⟩
  unfold T8;rw[if_pos h]
 have h1:¬Z7 q=false:=by simpa using h
 clear h;repeat first|refine A5 ?_|refine A6 ?_;intro w hw
 refine A0 rfl (fun h=>?_) (fun h=>?_)
 ·have h:S7 q=false:=by simpa using h
  repeat first|refine A5 ?_|refine A6 ?_;intro w hw
  refine⟨_,rfl,Γ,C4.le.refl _,F9 rfl ?_,E8 hw⟩
  unfold T8;rw[if_neg h1,if_pos h]
 have h2:¬S7 q=false:=by simpa using h
 clear h;repeat first|refine A5 ?_|refine A6 ?_;intro w hw
 refine A0 rfl (fun h=>?_) (fun h=>?_)
 ·have h:O1 q=false:=by simpa using h
  repeat first|refine A5 ?_|refine A6 ?_;intro w hw
  refine⟨_,rfl,Γ,C4.le.refl _,F9 rfl ?_,E8 hw⟩
  unfold T8;rw[if_neg h1,if_neg h2,if_pos h]
 have h3:¬O1 q=false:=by simpa using h
 clear h;repeat first|refine A5 ?_|refine A6 ?_;intro w hw
 refine A0 rfl (fun h=>?_) (fun h=>?_)
 ·have h:Ap q=false:=by simpa using h
  repeat first|refine A5 ?_|refine A6 ?_;intro w hw
  refine⟨_,rfl,Γ,C4.le.refl _,F9 rfl ?_,E8 hw⟩
  unfold T8;rw[if_neg h1,if_neg h2,if_neg h3,if_pos h]
 have h4:¬Ap q=false:=by simpa using h
 clear h;have hv:T8 q=FM q:=by
  unfold T8 FM;rw[if_neg h1,if_neg h2,if_neg h3,if_neg h4]
 repeat first|refine A5 ?_|refine A6 ?_;intro w hw
 refine C1 (fun μ ρ w=>∃(k:Nat),μ+k=sn∧Has ρ [(1,.pointer (some ⟨b1,0,none⟩)),(3,.int .i64 k)]∧(q.Sel.take k).Nodup∧Wd Γ [.blk b1 (.cells #[.slice sa sn sc,.slice ga gn gc] 25)] w) sn ⟨0,by omega,⟨rfl,rfl,trivial⟩,List.nodup_nil,hw⟩ ?_
 clear hw;rintro μ ρ w ⟨k,hk,hρ,hnd,hw⟩
 rw[hρ.eq];clear hρ;repeat first|refine A5 ?_|refine A6 ?_;intro w hw
 refine A0 rfl (fun h=>?_) (fun h=>?_)
 ·have hkn:k<sn:=by have:=of_decide_eq_true h;omega
  clear h;obtain⟨s,hs⟩:=B8 (l:=q.Sel) (k:=k) (by omega)
  have hcut:D6 Γ (.slice sa k sc) 1 (A1 (q.Sel.take k)):=by
   have:=hrS.cut (l:=0) (h:=k) (by omega) (by omega)
   rw[Gw]at this;unfold A1;rw[List.map_take];simpa using this
  have p6:PG Tryz.prog Γ 116 [.slice sa k sc,.string s] (.bool (P9 (q.Sel.take k) s)):=⟨fun S w hw=>Er hcut.rdS hw⟩
  clear hcut;repeat first|refine A5 ?_|refine A6 ?_;intro w hw
  refine H0 (by kernel_rfl) (by kernel_rfl) hw ?_
  refine Bt ?_;refine CO (hp:=p6) ?_
  refine Bt ?_;clear hw;intro w hw;refine A0 rfl (fun h=>?_) (fun h=>?_)
  ·have h:P9 (q.Sel.take k) s=true:=h
   rw[V1]at h;have hf:¬q.Sel.Nodup:=fun hn=>by
    obtain⟨i,hi⟩:=List.getElem?_of_mem h
    have hik:i<k:=by have:=(List.getElem?_eq_some_iff.1 hi).1;rw[List.length_take]at this;omega
    rw[List.getElem?_take,if_pos hik]at hi;have:=(List.getElem?_inj (by omega) hn).1 (hi.trans hs.symm)
    omega
   repeat first|refine A5 ?_|refine A6 ?_;intro w hw
   refine⟨_,rfl,Γ,C4.le.refl _,F9 rfl ?_,E8 hw⟩
   rw[hv];unfold FM;rw[if_pos hf]
  ·have h:P9 (q.Sel.take k) s=false:=h
   have hnm:s∉q.Sel.take k:=fun hm=>by rw[V1.2 hm]at h;cases h
   repeat first|refine A5 ?_|refine A6 ?_;intro w hw
   refine⟨sn-k-1,by omega,k+1,by omega,⟨rfl,rfl,trivial⟩,?_,hw⟩
   rw[List.take_add_one,hs,List.nodup_append];exact⟨hnd,by simp,fun a ha b hb e=>by
    have hb:b=s:=by simpa using hb
    exact hnm (by rw[←hb,←e];exact ha)⟩
 have hkn:sn≤k:=by have:=of_decide_eq_false h;omega
 clear h;rw[List.take_of_length_le (by omega)]at hnd
 have hv2:T8 q=if u1 q=false then 62 else 0:=by
  rw[hv];unfold FM;rw[if_neg (fun h=>h hnd)]
 repeat first|refine A5 ?_|refine A6 ?_;intro w hw
 refine A0 rfl (fun h=>?_) (fun h=>?_)
 ·have h:u1 q=false:=by simpa using h
  repeat first|refine A5 ?_|refine A6 ?_;intro w hw
  refine⟨_,rfl,Γ,C4.le.refl _,F9 rfl ?_,E8 hw⟩
  rw[hv2,if_pos h]
 ·have h:¬u1 q=false:=by simpa using h
  repeat first|refine A5 ?_|refine A6 ?_;intro w hw
  refine⟨_,rfl,Γ,C4.le.refl _,F9 rfl ?_,E8 hw⟩
  rw[hv2,if_neg h]
end Go.Proofs.YtlmiakjbogojgaaGreatDoor
end
section
open Go Mk
namespace Go.Proofs.YtlmiakjbogojgaaGreatDoor
set_option maxHeartbeats 16000000
attribute [local irreducible] Calls cI cB
end Go.Proofs.YtlmiakjbogojgaaGreatDoor
end
section
open Go Mk
namespace Go.Proofs.YtlmiakjbogojgaaGreatDoor
set_option maxHeartbeats 16000000
attribute [local irreducible] Calls cI cB
def Q9(o:G8):Bool:=decide (o.Var.size≤60)&&decide (o.Const.Word.size≤60)
def AB(g:F6):Bool:=!(decide (60<g.Rel.size)||decide (12<g.Args.length) || !Q9 g.L || !Q9 g.R)&&g.Args.all Q9
def Cb(s:ByteArray):Bool:=!decide (60<s.size)
def Hr(q:D8):Bool:=!(decide (12<q.Sel.length)||decide (20<q.Goals.length))&&q.Sel.all Cb&&q.Goals.all AB
structure IL(q:D8):Prop where
 goals:∀g∈q.Goals,u5 g.Off∧u5 g.Low∧u5 g.High∧u5 g.L.Const.Num∧u5 g.R.Const.Num∧∀o∈g.Args,u5 o.Const.Num
theorem Dz{o:G8}(h:Q9 o=true)(hi:u5 o.Const.Num):k0 o:=by
 unfold Q9 at h;simp only[Bool.and_eq_true,decide_eq_true_eq]at h
 exact⟨by omega,hi,by omega⟩
theorem SH{q:D8}(h:Hr q=true)(hi:IL q):L0 q:=by
 unfold Hr at h;simp only[Bool.and_eq_true,Bool.not_eq_true',Bool.or_eq_false_iff,decide_eq_false_iff_not,List.all_eq_true]at h
 obtain⟨⟨⟨h1,h2⟩,h3⟩,h4⟩:=h;refine⟨by omega,fun s hs=>?_,by omega,fun g hg=>?_⟩
 ·have:=h3 s hs
  unfold Cb at this;simp only[Bool.not_eq_true',decide_eq_false_iff_not]at this
  omega
 ·have hb:=h4 g hg
  obtain⟨i1,i2,i3,i4,i5,i6⟩:=hi.goals g hg
  unfold AB at hb;simp only[Bool.and_eq_true,Bool.not_eq_true',Bool.or_eq_false_iff,decide_eq_false_iff_not,Bool.not_eq_false',List.all_eq_true]at hb
  obtain⟨⟨⟨⟨b1,b2⟩,b3⟩,b4⟩,b5⟩:=hb;exact⟨by omega,by omega,fun o ho=>Dz (b5 o ho) (i6 o ho),Dz b3 i4,Dz b4 i5,i1,i2,i3⟩
instance Jr(Γ:C4)(o:G8):PG Tryz.prog Γ 25 [.agg (enc o).toArray] (.bool (Q9 o)):=⟨fun S w hw=>by
 refine A4 Tryz.func25 rfl rfl ?_
 repeat first|refine A5 ?_|refine A6 ?_;intro w hw
 refine J5 ?_;intro b1 w hw;have hw:Wd Γ (.blk b1 (.cells (enc o).toArray 75)::S) w:=hw
 repeat first|refine A5 ?_|refine A6 ?_;intro w hw
 refine⟨_,rfl,F7 rfl ?_,hw.drop⟩
 unfold Q9;rw[show decide (o.Var.size≤60)=decide ((o.Var.size:Int)≤60) from decide_eq_decide.2 (by omega),show decide (o.Const.Word.size≤60)=decide ((o.Const.Word.size:Int)≤60) from decide_eq_decide.2 (by omega)]⟩
theorem TX{Γ:C4}{vs vg:Value}{gs:List E6}{q:D8}(hq0:QR Γ vs vg gs q):PG Tryz.prog Γ 5 [.agg #[vs,vg]] (.bool (Hr q)):=N6 fun Γ w hle hw=>by
 have hq:=hq0.mono hle
 obtain⟨ga,gn,gc,rfl,hgn,hgnc,hgc⟩:=hq.goals.shape;obtain⟨sa,sn,sc,rfl,hsn,hsnc,hsc⟩:=hq.sel.shape;simp only[List.length_map]at hgn hsn
 have hnl:=hq.nlen
 have hrG:=hq.goals
 have hrS:=hq.sel
 refine A4 Tryz.func5 rfl rfl ?_
 repeat first|refine A5 ?_|refine A6 ?_;intro w hw
 refine J5 ?_;intro b1 w hw;have hw:Wd Γ [.blk b1 (.cells #[.slice sa sn sc,.slice ga gn gc] 25)] w:=hw
 have e1:(decide (12<q.Sel.length)||decide (20<q.Goals.length))=(decide ((12:Int)<sn)||decide ((20:Int)<gn)):=by
  rw[show decide (12<q.Sel.length)=decide ((12:Int)<sn) from decide_eq_decide.2 (by omega),show decide (20<q.Goals.length)=decide ((20:Int)<gn) from decide_eq_decide.2 (by omega)]
 repeat first|refine A5 ?_|refine A6 ?_;intro w hw
 refine A0 rfl (fun h=>?_) (fun h=>?_)
 ·have h:(decide ((12:Int)<sn)||decide ((20:Int)<gn))=true:=h
  repeat first|refine A5 ?_|refine A6 ?_;intro w hw
  refine⟨_,rfl,Γ,C4.le.refl _,F7 rfl ?_,E8 hw⟩
  unfold Hr;rw[e1,h];rfl
 have h:(decide ((12:Int)<sn)||decide ((20:Int)<gn))=false:=h
 have hfw:Hr q=(q.Sel.all Cb&&q.Goals.all AB):=by
  unfold Hr;rw[e1,h];rfl
 clear h e1;repeat first|refine A5 ?_|refine A6 ?_;intro w hw
 refine C1 (fun μ ρ w=>∃(k:Nat),μ+k=sn∧Has ρ [(1,.pointer (some ⟨b1,0,none⟩)),(3,.int .i64 k)]∧q.Sel.all Cb=(q.Sel.drop k).all Cb∧Wd Γ [.blk b1 (.cells #[.slice sa sn sc,.slice ga gn gc] 25)] w) sn ⟨0,by omega,⟨rfl,rfl,trivial⟩,rfl,hw⟩ ?_
 clear hw;rintro μ ρ w ⟨k,hk,hρ,hall,hw⟩
 rw[hρ.eq];clear hρ;repeat first|refine A5 ?_|refine A6 ?_;intro w hw
 refine A0 rfl (fun h=>?_) (fun h=>?_)
 ·have hkn:k<sn:=by have:=of_decide_eq_true h;omega
  clear h;obtain⟨s,hs⟩:=B8 (l:=q.Sel) (k:=k) (by omega)
  rw[H7 hs]at hall;have hsh:Cb s = !decide ((60:Int)<s.size):=by
   unfold Cb;rw[show decide (60<s.size)=decide ((60:Int)<s.size) from decide_eq_decide.2 (by omega)]
  repeat first|refine A5 ?_|refine A6 ?_;intro w hw
  refine A0 rfl (fun h=>?_) (fun h=>?_)
  ·have h:decide ((60:Int)<s.size)=true:=h
   repeat first|refine A5 ?_|refine A6 ?_;intro w hw
   refine⟨_,rfl,Γ,C4.le.refl _,F7 rfl ?_,E8 hw⟩
   rw[hfw,hall,hsh,h];rfl
  ·have h:decide ((60:Int)<s.size)=false:=h
   rw[hsh,h,Bool.not_false,Bool.true_and]at hall;repeat first|refine A5 ?_|refine A6 ?_;intro w hw
   exact⟨μ-1,by omega,k+1,by omega,⟨rfl,rfl,trivial⟩,hall,hw⟩
 have hkn:sn≤k:=by have:=of_decide_eq_false h;omega
 clear h;rw[E0 q.Sel (by omega)]at hall
 have hfw:Hr q=q.Goals.all AB:=by rw[hfw,hall];rfl
 clear hall hkn hk;repeat first|refine A5 ?_|refine A6 ?_;intro w hw
 refine C1 (fun μ ρ w=>∃(k:Nat),μ+k=gn∧Has ρ [(1,.pointer (some ⟨b1,0,none⟩)),(4,.int .i64 k)]∧Hr q=(q.Goals.drop k).all AB∧Wd Γ [.blk b1 (.cells #[.slice sa sn sc,.slice ga gn gc] 25)] w) gn ⟨0,by omega,⟨rfl,rfl,trivial⟩,hfw,hw⟩ ?_
 clear hw;rintro μ ρ w ⟨k,hk,hρ,hall,hw⟩
 rw[hρ.eq];clear hρ;repeat first|refine A5 ?_|refine A6 ?_;intro w hw
 refine A0 rfl (fun h=>?_) (fun h=>?_)
 ·have hkn:k<gn:=by have:=of_decide_eq_true h;omega
  clear h;obtain⟨x,hx⟩:=B8 (l:=gs) (k:=k) (by omega)
  have hxm:=List.mem_of_getElem? hx
  have hgok:=hq.ok x hxm
  have hgx:=hq.get hx
  rw[H7 hgx]at hall;obtain⟨l1,l2,l3⟩:=hgok.len;obtain⟨g,A,N,C⟩:=x;simp only at hall l1 l2 l3 hgx
  have hgR:D6 Γ (.slice A N C) 4 (g.Args.map enc):=hgok
  have hbr:AB g=(!(decide ((60:Int)<g.Rel.size)||decide ((12:Int)<N) || !Q9 g.L || !Q9 g.R)&&g.Args.all Q9):=by
   unfold AB;rw[show decide (60<g.Rel.size)=decide ((60:Int)<g.Rel.size) from decide_eq_decide.2 (by omega),show decide (12<g.Args.length)=decide ((12:Int)<N) from decide_eq_decide.2 (by omega)]
  repeat first|refine A5 ?_|refine A6 ?_;intro w hw
  refine B7 ?_;intro b5 w hw;repeat first|refine A5 ?_|refine A6 ?_;intro w hw
  refine A9 ?_;intro w hw;have hw:Wd Γ [.blk b5 (.cells (cG ⟨g,A,N,C⟩).toArray 77),.blk b1 (.cells #[.slice sa sn sc,.slice ga gn gc] 25)] w:=hw
  repeat first|refine A5 ?_|refine A6 ?_;intro w hw
  refine NV (hp:=Jr Γ g.L) ?_
  intro w hw;repeat first|refine A5 ?_|refine A6 ?_;intro w hw
  refine NV (hp:=Jr Γ g.R) ?_
  intro w hw;repeat first|refine A5 ?_|refine A6 ?_;intro w hw
  refine A0 rfl (fun h=>?_) (fun h=>?_)
  ·have h:(decide ((60:Int)<g.Rel.size)||decide ((12:Int)<N) || !Q9 g.L || !Q9 g.R)=true:=h
   repeat first|refine A5 ?_|refine A6 ?_;intro w hw
   refine⟨_,rfl,Γ,C4.le.refl _,F7 rfl ?_,E8 hw⟩
   rw[hall,hbr,h];rfl
  have h:(decide ((60:Int)<g.Rel.size)||decide ((12:Int)<N) || !Q9 g.L || !Q9 g.R)=false:=h
  have hbr:AB g=g.Args.all Q9:=by rw[hbr,h];rfl
  clear h;repeat first|refine A5 ?_|refine A6 ?_;intro w hw
  refine C1 (fun μ ρ w=>∃(j:Nat),μ+j=N∧Has ρ [(1,.pointer (some ⟨b1,0,none⟩)),(4,.int .i64 k),(5,.pointer (some ⟨b5,0,none⟩)),(6,.int .i64 j)]∧AB g=(g.Args.drop j).all Q9∧Wd Γ [.blk b5 (.cells (cG ⟨g,A,N,C⟩).toArray 77),.blk b1 (.cells #[.slice sa sn sc,.slice ga gn gc] 25)] w) N ⟨0,by omega,⟨rfl,rfl,rfl,rfl,trivial⟩,hbr,hw⟩ ?_
  clear hw;rintro μ2 ρ w ⟨j,hj,hρ,hsh,hw⟩
  rw[hρ.eq];clear hρ;repeat first|refine A5 ?_|refine A6 ?_;intro w hw
  refine A0 rfl (fun h=>?_) (fun h=>?_)
  ·have h:(j:Int)<(N:Int):=of_decide_eq_true h
   have hjn:j<N:=by omega
   clear h;obtain⟨o,ho⟩:=B8 (l:=g.Args) (k:=j) (by omega)
   rw[H7 ho]at hsh;repeat first|refine A5 ?_|refine A6 ?_;intro w hw
   refine lY ?_ (hy:=Ht hw hgR rfl rfl (by omega) (by omega))
   repeat first|refine A5 ?_|refine A6 ?_;intro w hw
   refine A0 rfl (fun h=>?_) (fun h=>?_)
   ·have hf:Q9 o=false:=by simpa using h
    repeat first|refine A5 ?_|refine A6 ?_;intro w hw
    refine⟨_,rfl,Γ,C4.le.refl _,F7 rfl ?_,E8 hw⟩
    rw[hall,hsh,hf];rfl
   ·have hf:Q9 o=true:=by simpa using h
    rw[hf,Bool.true_and]at hsh;repeat first|refine A5 ?_|refine A6 ?_;intro w hw
    exact⟨N-j-1,by omega,j+1,by omega,⟨rfl,rfl,rfl,rfl,trivial⟩,hsh,hw⟩
  have h:¬(j:Int)<(N:Int):=of_decide_eq_false h
  rw[E0 g.Args (by omega)]at hsh
  have hsh:AB g=true:=hsh
  rw[hsh,Bool.true_and]at hall;repeat first|refine A5 ?_|refine A6 ?_;intro w hw
  exact⟨gn-k-1,by omega,k+1,by omega,⟨rfl,rfl,trivial⟩,hall,hw.drop⟩
 have hkn:gn≤k:=by have:=of_decide_eq_false h;omega
 rw[E0 _ (by rw[hnl];omega)]at hall
 repeat first|refine A5 ?_|refine A6 ?_;intro w hw
 exact⟨_,rfl,Γ,C4.le.refl _,F7 rfl hall.symm,E8 hw⟩
end Go.Proofs.YtlmiakjbogojgaaGreatDoor
end
section
open Go Mk
open Go.ChangeShapes Go.WideShapes Go.ChangeAt Go.RowKit
namespace Go.Proofs.YtlmiakjbogojgaaGreatDoor
section
variable {H:Type}{en:TypeId×Value→H}{W W':World}{base:Nat}{sp:Nat→Bool}{held:Bool}{S:List B5}
theorem UK:∀cs:List Value,cs.length=4→∃a b c d,cs=[a,b,c,d]
 | [a,b,c,d],_=>⟨a,b,c,d,rfl⟩
theorem TY:∀cs:List Value,cs.length=15→∃a0 a1 a2 a3 a4 a5 a6 a7 a8 a9 a10 a11 a12 a13 a14,cs=[a0,a1,a2,a3,a4,a5,a6,a7,a8,a9,a10,a11,a12,a13,a14]
 | [a0,a1,a2,a3,a4,a5,a6,a7,a8,a9,a10,a11,a12,a13,a14],_=>⟨a0,a1,a2,a3,a4,a5,a6,a7,a8,a9,a10,a11,a12,a13,a14,rfl⟩
theorem EO{n:Nat}{cs:List Value}{y:DataW H×List MemPlace}(h:DataW.trod en Tryz.prog W base sp held n 9 cs=some y):∃x:ByteArray,cs=[.string x]∧True:=by
 obtain⟨s,hs,-,-⟩:=DataW.trod_string Tryz.underlying9 h
 exact⟨s,hs,trivial⟩
theorem Nn{n:Nat}{v:Value}{y:DataW H×List MemPlace}(h:DataW.trod en Tryz.prog W base sp held n 22 [v]=some y):∃xs:List ByteArray,D6 (AN W) v 1 (A1 xs):=by
 obtain⟨xs,h1,-⟩:=CZ (F:=fun s:ByteArray=>[Value.string s]) (p:=fun _=>True) (sz:=1) (e:=9) (by kernel_rfl) (by decide) (fun x=>rfl) Tryz.underlying22 (fun h=>EO h) h
 exact⟨xs,h1⟩
theorem FE{n:Nat}{cs:List Value}{y:DataW H×List MemPlace}(h:DataW.trod en Tryz.prog W base sp held n 75 cs=some y):∃x:G8,cs=enc x∧u5 x.Const.Num:=by
 obtain⟨xs,k,-,-,hl,hxl,hf⟩:=DataW.trod_struct Tryz.underlying75 h
 have hl:cs.length=4:=hl.trans (by kernel_rfl)
 obtain⟨c0,c1,c2,c3,rfl⟩:=UK cs hl
 have e0:Tryz.prog.cellsOf 9=1:=by kernel_rfl
 have e1:Tryz.prog.cellsOf 65=3:=by kernel_rfl
 have q0:=hf 0 _ rfl
 have q1:=hf 1 _ rfl
 have g0:DataW.trod en Tryz.prog W base sp held k 9 (([c0,c1,c2,c3].drop 0).take (Tryz.prog.cellsOf 9))=xs[0]?:=q0
 have g1:DataW.trod en Tryz.prog W base sp held k 65 (([c0,c1,c2,c3].drop 1).take (Tryz.prog.cellsOf 65))=xs[1]?:=q1
 rw[e0]at g0;rw[e1]at g1;have hxl:xs.length=2:=hxl
 rw[List.getElem?_eq_getElem (by omega)]at g0 g1
 obtain⟨s,hs,-,-⟩:=DataW.trod_string Tryz.underlying9 g0
 obtain⟨v,hv,hn⟩:=Px g1
 simp only[List.drop_zero,List.take_succ_cons,List.take_zero,List.drop_succ_cons,List.cons.injEq,and_true]at hs hv
 subst hs;obtain⟨vk,vn,vw⟩:=v;refine⟨⟨s,⟨vk,vn,vw⟩⟩,?_,hn⟩
 have hv:[c1,c2,c3]=[Value.int .i64 vk,.int .i64 vn,.string vw]:=hv
 show Value.string s::[c1,c2,c3]=_
 rw[hv];rfl
theorem NK{n:Nat}{v:Value}{y:DataW H×List MemPlace}(h:DataW.trod en Tryz.prog W base sp held n 73 [v]=some y):∃xs:List G8,D6 (AN W) v 4 (xs.map enc)∧∀x∈xs,u5 x.Const.Num:=
 CZ (sz:=4) (e:=75) (by kernel_rfl) (by decide) (fun x=>rfl) Tryz.underlying73 (fun h=>FE h) h
theorem FK{n:Nat}{c:Value}{y:DataW H×List MemPlace}(h:DataW.trod en Tryz.prog W base sp held n 2 [c]=some y):∃b:Int,c=.int .i64 b∧u5 b:=by
 obtain⟨b,hb,-,hw⟩:=DataW.trod_int Tryz.underlying2 h
 simp only[List.cons.injEq,and_true]at hb
 refine⟨b,hb,?_⟩
 simp only[Lit.wf,IntKind.min,IntKind.max,IntKind.bits,IntKind.signed]at hw
 unfold u5;simpa using hw
theorem HA{n:Nat}{c:Value}{y:DataW H×List MemPlace}(h:DataW.trod en Tryz.prog W base sp held n 3 [c]=some y):∃b:Int,c=.int .i64 b:=by
 obtain⟨b,hb,-,hw⟩:=DataW.trod_int Tryz.underlying3 h
 simp only[List.cons.injEq,and_true]at hb
 exact⟨b,hb⟩
def OO(g:F6):Prop:=u5 g.Off∧u5 g.Low∧u5 g.High∧u5 g.L.Const.Num∧u5 g.R.Const.Num∧∀o∈g.Args,u5 o.Const.Num
set_option maxHeartbeats 4000000 in
theorem Nq{n:Nat}{cs:List Value}{y:DataW H×List MemPlace}(h:DataW.trod en Tryz.prog W base sp held n 77 cs=some y):∃x:E6,cs=cG x∧Eu (AN W) x∧OO x.g:=by
 obtain⟨xs,k,-,-,hl,hxl,hf⟩:=DataW.trod_struct Tryz.underlying77 h
 have hl:cs.length=15:=hl.trans (by kernel_rfl)
 obtain⟨c0,c1,c2,c3,c4,c5,c6,c7,c8,c9,c10,c11,c12,c13,c14,rfl⟩:=TY cs hl
 have e0:Tryz.prog.cellsOf 3=1:=by kernel_rfl
 have e1:Tryz.prog.cellsOf 9=1:=by kernel_rfl
 have e2:Tryz.prog.cellsOf 73=1:=by kernel_rfl
 have e3:Tryz.prog.cellsOf 75=4:=by kernel_rfl
 have e4:Tryz.prog.cellsOf 2=1:=by kernel_rfl
 have q0:=hf 0 _ rfl
 have g0:DataW.trod en Tryz.prog W base sp held k 3 (([c0,c1,c2,c3,c4,c5,c6,c7,c8,c9,c10,c11,c12,c13,c14].drop 0).take (Tryz.prog.cellsOf 3))=xs[0]?:=q0
 have q1:=hf 1 _ rfl
 have g1:DataW.trod en Tryz.prog W base sp held k 9 (([c0,c1,c2,c3,c4,c5,c6,c7,c8,c9,c10,c11,c12,c13,c14].drop 1).take (Tryz.prog.cellsOf 9))=xs[1]?:=q1
 have q2:=hf 2 _ rfl
 have g2:DataW.trod en Tryz.prog W base sp held k 73 (([c0,c1,c2,c3,c4,c5,c6,c7,c8,c9,c10,c11,c12,c13,c14].drop 2).take (Tryz.prog.cellsOf 73))=xs[2]?:=q2
 have q3:=hf 3 _ rfl
 have g3:DataW.trod en Tryz.prog W base sp held k 3 (([c0,c1,c2,c3,c4,c5,c6,c7,c8,c9,c10,c11,c12,c13,c14].drop 3).take (Tryz.prog.cellsOf 3))=xs[3]?:=q3
 have q4:=hf 4 _ rfl
 have g4:DataW.trod en Tryz.prog W base sp held k 75 (([c0,c1,c2,c3,c4,c5,c6,c7,c8,c9,c10,c11,c12,c13,c14].drop 4).take (Tryz.prog.cellsOf 75))=xs[4]?:=q4
 have q5:=hf 5 _ rfl
 have g5:DataW.trod en Tryz.prog W base sp held k 75 (([c0,c1,c2,c3,c4,c5,c6,c7,c8,c9,c10,c11,c12,c13,c14].drop 8).take (Tryz.prog.cellsOf 75))=xs[5]?:=q5
 have q6:=hf 6 _ rfl
 have g6:DataW.trod en Tryz.prog W base sp held k 2 (([c0,c1,c2,c3,c4,c5,c6,c7,c8,c9,c10,c11,c12,c13,c14].drop 12).take (Tryz.prog.cellsOf 2))=xs[6]?:=q6
 have q7:=hf 7 _ rfl
 have g7:DataW.trod en Tryz.prog W base sp held k 2 (([c0,c1,c2,c3,c4,c5,c6,c7,c8,c9,c10,c11,c12,c13,c14].drop 13).take (Tryz.prog.cellsOf 2))=xs[7]?:=q7
 have q8:=hf 8 _ rfl
 have g8:DataW.trod en Tryz.prog W base sp held k 2 (([c0,c1,c2,c3,c4,c5,c6,c7,c8,c9,c10,c11,c12,c13,c14].drop 14).take (Tryz.prog.cellsOf 2))=xs[8]?:=q8
 have hxl:xs.length=9:=hxl
 rw[e0,List.getElem?_eq_getElem (by omega)]at g0 g3
 rw[e1,List.getElem?_eq_getElem (by omega)]at g1
 rw[e2,List.getElem?_eq_getElem (by omega)]at g2
 rw[e3,List.getElem?_eq_getElem (by omega)]at g4 g5
 rw[e4,List.getElem?_eq_getElem (by omega)]at g6 g7 g8
 obtain⟨kd,rfl⟩:=HA g0
 obtain⟨rs,hrs,-⟩:=EO g1
 obtain⟨az,ha,hai⟩:=NK g2
 obtain⟨op,rfl⟩:=HA g3
 obtain⟨⟨lv,lk,ln,lw⟩,hlo,hli⟩:=FE g4
 obtain⟨⟨rv,rk,rn,rx⟩,hro,hri⟩:=FE g5
 obtain⟨o6,rfl,i6⟩:=FK g6
 obtain⟨o7,rfl,i7⟩:=FK g7
 obtain⟨o8,rfl,i8⟩:=FK g8
 have hlo2:[c4,c5,c6,c7]=[Value.string lv,.int .i64 lk,.int .i64 ln,.string lw]:=hlo
 have hro2:[c8,c9,c10,c11]=[Value.string rv,.int .i64 rk,.int .i64 rn,.string rx]:=hro
 have hrs2:[c1]=[Value.string rs]:=hrs
 clear hlo hro hrs q0 q1 q2 q3 q4 q5 q6 q7 q8 g0 g1 g3 g4 g5 g6 g7 g8 hf hl h;simp only[List.cons.injEq,and_true]at hlo2 hro2 hrs2
 obtain⟨rfl,rfl,rfl,rfl⟩:=hlo2;obtain⟨rfl,rfl,rfl,rfl⟩:=hro2;subst hrs2;obtain⟨aa,an,ac,rfl,-⟩:=D6.shape ha
 exact⟨⟨⟨kd,rs,az,op,⟨lv,lk,ln,lw⟩,⟨rv,rk,rn,rx⟩,o6,o7,o8⟩,aa,an,ac⟩,rfl,ha,i6,i7,i8,hli,hri,hai⟩
instance:Inhabited E6:=⟨⟨⟨0,⟨#[]⟩,[],0,Q3,Q3,0,0,0⟩,none,0,0⟩⟩
theorem Kh{n:Nat}{v:Value}{y:DataW H×List MemPlace}(h:DataW.trod en Tryz.prog W base sp held n 23 [v]=some y):∃gs:List E6,D6 (AN W) v 15 (gs.map cG)∧∀x∈gs,Eu (AN W) x∧OO x.g:=
 CZ (sz:=15) (e:=77) (by kernel_rfl) (by decide) (fun x=>rfl) Tryz.underlying23 (fun h=>Nq h) h
set_option maxRecDepth 100000 in
theorem Iy{r:Reach}{b:Nat}{v:Value}{d:DataW H}{pl:List MemPlace}(hk:Value.okWide Tryz.prog W r b 25 v)(h:DataW.Trod en Tryz.prog W base sp held 25 v d pl):∃(vs vg:Value) (gs:List E6) (q:D8),v=.agg #[vs,vg]∧QR (AN W) vs vg gs q∧IL q:=by
 obtain⟨⟨cs⟩,rfl,-⟩:=okWide_struct Tryz.underlying25 hk
 obtain⟨n,h⟩:=h;have h:DataW.trod en Tryz.prog W base sp held n 25 cs=some (d,pl):=h
 obtain⟨xs,k,-,-,hl,hxl,hf⟩:=DataW.trod_struct Tryz.underlying25 h
 have hl:cs.length=2:=hl.trans (by kernel_rfl)
 obtain⟨c0,c1,rfl⟩:=UI cs hl
 have e0:Tryz.prog.cellsOf 22=1:=by kernel_rfl
 have e1:Tryz.prog.cellsOf 23=1:=by kernel_rfl
 have q0:=hf 0 _ rfl
 have q1:=hf 1 _ rfl
 have g0:DataW.trod en Tryz.prog W base sp held k 22 (([c0,c1].drop 0).take (Tryz.prog.cellsOf 22))=xs[0]?:=q0
 have g1:DataW.trod en Tryz.prog W base sp held k 23 (([c0,c1].drop 1).take (Tryz.prog.cellsOf 23))=xs[1]?:=q1
 rw[e0]at g0;rw[e1]at g1;have hxl:xs.length=2:=hxl
 rw[List.getElem?_eq_getElem (by omega)]at g0 g1
 obtain⟨ss,hs⟩:=Nn g0
 obtain⟨gs,hg,hgo⟩:=Kh g1
 refine⟨c0,c1,gs,⟨ss,gs.map (·.g)⟩,rfl,⟨hs,hg,rfl,fun x hx=>(hgo x hx).1⟩,⟨fun g hg'=>?_⟩⟩
 obtain⟨x,hx,rfl⟩:=List.mem_map.1 hg'
 exact(hgo x hx).2
end
end Go.Proofs.YtlmiakjbogojgaaGreatDoor
end
section
open Go Mk
namespace Go.Proofs.YtlmiakjbogojgaaGreatDoor
set_option maxHeartbeats 16000000
attribute [local irreducible] Calls cI cB
def D2(toks:List Tok)(k:Nat):Tok:=toks.getD k default
def M4(toks:List Tok)(k:Nat)(kind:Int)(text:ByteArray):Bool:=decide ((D2 toks k).Kind=kind)&&decide ((D2 toks k).Text=text)
def B3(bp:Nat)(a:Option Addr)(n c at':Nat)(e1 e2:Int):B5:=.blk bp (.cells #[.slice a n c,.int .i64 at',.int .i64 e1,.int .i64 e2] 93)
section
variable {Γ:C4}{S:List B5}{w:World}{bp:Nat}{a:Option Addr}{n c at':Nat}{e1 e2:Int}{toks:List Tok}
theorem m6(j:Nat)(hj:j≤1)(hat:at'≤n)(hN:toks.length≤1000000)(ht:D6 Γ (.slice a n c) 5 (toks.map enc))(hw:Wd Γ (B3 bp a n c at' e1 e2::S) w) :
  Calls Tryz.prog 160 #[.pointer (some ⟨bp,0,none⟩),.int .i64 j] w fun r w'=>r=.returned (.agg (enc (D2 toks (at'+j))).toArray)∧Wd Γ (B3 bp a n c at' e1 e2::S) w':=by
 have hn:n=toks.length∧n≤c∧c≤9223372036854775807:=by obtain⟨_,_,_,h1,h2,h3⟩:=ht.shape;cases h1;exact⟨by simpa using h2,h3⟩
 obtain⟨hn,hnc,hc⟩:=hn;unfold B3 at *
 refine F1 Tryz.func160 rfl rfl ?_
 refine A7 ?_;refine B7 ?_;intro b4 w hw;have hw:Wd Γ (.blk b4 (.cells (enc (default:Tok)).toArray 102)::.blk bp (.cells #[.slice a n c,.int .i64 at',.int .i64 e1,.int .i64 e2] 93)::S) w:=hw
 refine A7 ?_;refine H0 (by kernel_rfl) (by kernel_rfl) hw ?_
 refine Bt ?_;intro w hw;refine A0 rfl (fun h=>?_) (fun h=>?_)
 ·have h:at'+j<n:=by have:=of_decide_eq_true h;omega
  obtain⟨t,htk⟩:=B8 (l:=toks) (k:=at'+j) (by omega)
  have hT:D2 toks (at'+j)=t:=by unfold D2;rw[List.getD_eq_getElem?_getD,htk];rfl
  rw[hT];refine A7 ?_;refine p8 [.blk bp (.cells #[.slice a n c,.int .i64 at',.int .i64 e1,.int .i64 e2] 93)] (.blk b4 (.cells (enc (default:Tok)).toArray 102)::S) [] [[],[],[],[],[],[],[],[],[],[],[],[],[0]] (hw.ps [1]) ?_
  refine W9 ?_;refine V9 (φ:=fun (_:Unit) _=>True) (R:=fun _=>.blk b4 (.cells (enc (default:Tok)).toArray 102)::S) (v:=undef) (T':=Unit) (fun _ _=>True) (fun _=>.blk b4 (.cells (enc t).toArray 102)::S) (fun t' g w Y _ hw=>X4 (i:=0) (inferInstance:Ly Tryz.prog 102 5).h hw rfl rfl rfl rfl (fun u hu=>(List.all_eq_true.1 (Ag t)) u hu) rfl (Nat.le_refl 5) fun w' hw'=>⟨(),trivial,(fun _=>rfl),hw'⟩) ?_
  refine Al fun t' w g _ hw=>?_
  have hw:Wd Γ (.blk b4 (.cells (enc t).toArray 102)::.blk bp (.cells #[.slice a n c,.int .i64 at',.int .i64 e1,.int .i64 e2] 93)::S) w:=hw.flip.ps [1]
  refine A7 ?_;exact⟨[.agg (enc t).toArray],⟨J2 (i:=0) hw rfl rfl rfl,trivial⟩,rfl,hw.drop⟩
 ·have h:¬at'+j<n:=by have:=of_decide_eq_false h;omega
  have hT:D2 toks (at'+j)=default:=by unfold D2;rw[List.getD_eq_getElem?_getD,List.getElem?_eq_none (by omega)];rfl
  rw[hT];refine A7 ?_;refine A9 ?_;intro w hw;have hw:Wd Γ (.blk b4 (.cells (enc (default:Tok)).toArray 102)::.blk bp (.cells #[.slice a n c,.int .i64 at',.int .i64 e1,.int .i64 e2] 93)::S) w:=hw
  refine A7 ?_;exact⟨[.agg (enc (default:Tok)).toArray],⟨J2 (i:=0) hw rfl rfl rfl,trivial⟩,rfl,hw.drop⟩
theorem PN(j:Nat)(hj:j≤1)(kind:Int)(text:ByteArray)(hat:at'≤n)(hN:toks.length≤1000000)(ht:D6 Γ (.slice a n c) 5 (toks.map enc))(hw:Wd Γ (B3 bp a n c at' e1 e2::S) w) :
  Calls Tryz.prog 90 #[.pointer (some ⟨bp,0,none⟩),.int .i64 j,.int .i64 kind,.string text] w fun r w'=>r=.returned (.bool (M4 toks (at'+j) kind text))∧Wd Γ (B3 bp a n c at' e1 e2::S) w':=by
 refine A4 Tryz.func90 rfl rfl ?_
 refine A7 ?_;refine B9 (vs:=[.pointer (some ⟨bp,0,none⟩),.int .i64 j]) ?_
 refine(m6 j hj hat hN ht hw).mono ?_
 clear hw;rintro r w ⟨rfl,hw⟩
 refine⟨_,rfl,?_⟩;refine A7 ?_;refine B7 ?_;intro b9 w hw;refine A9 ?_;intro w hw;have hw:Wd Γ (.blk b9 (.cells (enc (D2 toks (at'+j))).toArray 102)::B3 bp a n c at' e1 e2::S) w:=hw
 refine A7 ?_;exact⟨_,rfl,F7 rfl rfl,hw.drop⟩
theorem M7(kind:Int)(text:ByteArray)(hat:at'≤n)(hN:toks.length≤1000000)(ht:D6 Γ (.slice a n c) 5 (toks.map enc))(hw:Wd Γ (B3 bp a n c at' e1 e2::S) w) :
  Calls Tryz.prog 92 #[.pointer (some ⟨bp,0,none⟩),.int .i64 kind,.string text] w fun r w'=>r=.returned (.bool (M4 toks at' kind text))∧Wd Γ (B3 bp a n c (if M4 toks at' kind text=true then at'+1 else at') e1 e2::S) w':=by
 have hn:n=toks.length:=by obtain⟨_,_,_,h1,h2,h3⟩:=ht.shape;cases h1;simpa using h2
 refine A4 Tryz.func92 rfl rfl ?_
 refine A7 ?_;refine B9 (vs:=[.pointer (some ⟨bp,0,none⟩),.int .i64 0,.int .i64 kind,.string text]) ?_
 refine(PN (j:=0) (by decide) kind text hat hN ht hw).mono ?_
 clear hw;rintro r w ⟨rfl,hw⟩
 rw[Nat.add_zero];refine⟨_,rfl,?_⟩;unfold B3 at *
 refine A7 ?_;refine J6 (fun ρ w=>Has ρ [(7,.bool (M4 toks at' kind text))]∧Wd Γ (B3 bp a n c (if M4 toks at' kind text=true then at'+1 else at') e1 e2::S) w) ?_ ?_
 ·refine A0 rfl (fun h=>?_) (fun h=>?_)
  ·rw[if_pos h];refine A7 ?_;refine A9 (i:=0) ?_
   intro w hw;have hw:Wd Γ (B3 bp a n c (at'+1) e1 e2::S) w:=hw
   refine A7 ?_;exact⟨⟨rfl,trivial⟩,hw⟩
  ·rw[if_neg (by rw[h];decide)]
   refine A7 ?_;exact⟨⟨rfl,trivial⟩,hw⟩
 clear hw;rintro ρ w ⟨hρ,hw⟩
 rw[hρ.eq];refine A7 ?_;exact⟨_,rfl,F7 rfl rfl,hw⟩
theorem Cq(kind:Int)(text:ByteArray)(hi:M4 toks at' kind text=true)(hat:at'≤n)(hN:toks.length≤1000000)(ht:D6 Γ (.slice a n c) 5 (toks.map enc))(hw:Wd Γ (B3 bp a n c at' e1 e2::S) w) :
  Calls Tryz.prog 89 #[.pointer (some ⟨bp,0,none⟩),.int .i64 kind,.string text] w fun r w'=>r=.returned (.tuple #[])∧Wd Γ (B3 bp a n c (at'+1) e1 e2::S) w':=by
 refine A4 Tryz.func89 rfl rfl ?_
 repeat first|refine A5 ?_|refine A6 ?_;intro w hw
 refine B9 (vs:=[.pointer (some ⟨bp,0,none⟩),.int .i64 kind,.string text]) ?_
 refine(M7 kind text hat hN ht hw).mono ?_
 clear hw;rintro r w ⟨rfl,hw⟩
 rw[if_pos hi]at hw;rw[hi];refine⟨_,rfl,?_⟩;repeat first|refine A5 ?_|refine A6 ?_;intro w hw
 refine A0 rfl (fun h=>by cases h) (fun h=>?_)
 repeat first|refine A5 ?_|refine A6 ?_;intro w hw
 exact⟨_,rfl,rfl,hw⟩
theorem Kl(hk:(D2 toks at').Kind=1)(hr:u3 (D2 toks at').Text=false)(hs:(D2 toks at').Text.size≤24)(hat:at'≤n)(hN:toks.length≤1000000)(ht:D6 Γ (.slice a n c) 5 (toks.map enc))(hw:Wd Γ (B3 bp a n c at' e1 e2::S) w) :
  Calls Tryz.prog 91 #[.pointer (some ⟨bp,0,none⟩)] w fun r w'=>r=.returned (.string (D2 toks at').Text)∧Wd Γ (B3 bp a n c (at'+1) e1 e2::S) w':=by
 have hn:n=toks.length:=by obtain⟨_,_,_,h1,h2,h3⟩:=ht.shape;cases h1;simpa using h2
 refine A4 Tryz.func91 rfl rfl ?_
 repeat first|refine A5 ?_|refine A6 ?_;intro w hw
 refine B9 (vs:=[.pointer (some ⟨bp,0,none⟩),.int .i64 0]) ?_
 refine(m6 (j:=0) (by decide) hat hN ht hw).mono ?_
 clear hw;rintro r w ⟨rfl,hw⟩
 rw[Nat.add_zero];refine⟨_,rfl,?_⟩;generalize D2 toks at'=t at *
 repeat first|refine A5 ?_|refine A6 ?_;intro w hw
 refine B7 ?_;intro b3 w hw;refine A9 ?_;intro w hw;have hw:Wd Γ (.blk b3 (.cells (enc t).toArray 102)::.blk bp (.cells #[.slice a n c,.int .i64 at',.int .i64 e1,.int .i64 e2] 93)::S) w:=hw
 repeat first|refine A5 ?_|refine A6 ?_;intro w hw
 refine A0 rfl (fun h=>?_) (fun h=>?_)
 ·rw[hk,hr]at h;cases h
 clear h;repeat first|refine A5 ?_|refine A6 ?_;intro w hw
 refine A0 rfl (fun h=>?_) (fun h=>?_)
 ·have:=of_decide_eq_true h;omega
 clear h;repeat first|refine A5 ?_|refine A6 ?_;intro w hw
 refine A9 (i:=1) ?_
 intro w hw;have hw:Wd Γ (.blk b3 (.cells (enc t).toArray 102)::B3 bp a n c (at'+1) e1 e2::S) w:=hw
 repeat first|refine A5 ?_|refine A6 ?_;intro w hw
 exact⟨_,rfl,rfl,hw.drop⟩
structure PU(t:Tok):Prop where
 kind:t.Kind=1
 kw:u3 t.Text=false
 size:t.Text.size≤24
 pos:0<t.Text.size
 var:(decide (t.Text=⟨#[95]⟩)||(decide (65≤A3 t.Text 0)&&decide (A3 t.Text 0≤90)))=true
theorem HB(hv:PU (D2 toks at'))(hat:at'≤n)(hN:toks.length≤1000000)(ht:D6 Γ (.slice a n c) 5 (toks.map enc))(hw:Wd Γ (B3 bp a n c at' e1 e2::S) w) :
  Calls Tryz.prog 162 #[.pointer (some ⟨bp,0,none⟩)] w fun r w'=>r=.returned (.agg (enc (⟨(D2 toks at').Text,H8⟩:G8)).toArray)∧Wd Γ (B3 bp a n c (at'+1) e1 e2::S) w':=by
 have hn:n=toks.length:=by obtain⟨_,_,_,h1,h2,h3⟩:=ht.shape;cases h1;simpa using h2
 refine F1 Tryz.func162 rfl rfl ?_
 repeat first|refine A5 ?_|refine A6 ?_;intro w hw
 refine B7 ?_;intro b2 w hw;have hw:Wd Γ (B3 bp a n c at' e1 e2::.blk b2 (.cells (enc (⟨C5,H8⟩:G8)).toArray 75)::S) w:=hw.ps [1]
 repeat first|refine A5 ?_|refine A6 ?_;intro w hw
 refine B9 (vs:=[.pointer (some ⟨bp,0,none⟩),.int .i64 0]) ?_
 refine(m6 (j:=0) (by decide) hat hN ht hw).mono ?_
 clear hw;rintro r w ⟨rfl,hw⟩
 rw[Nat.add_zero];refine⟨_,rfl,?_⟩;have hWQ:=fun (S:List B5) (w:World) hw=>Kl (S:=S) (w:=w) (e1:=e1) (e2:=e2) (bp:=bp) hv.kind hv.kw hv.size hat hN ht hw
 generalize D2 toks at'=t at *
 repeat first|refine A5 ?_|refine A6 ?_;intro w hw
 refine B7 ?_;intro b3 w hw;refine A9 ?_;intro w hw;have hw:Wd Γ (B3 bp a n c at' e1 e2::.blk b2 (.cells (enc (⟨C5,H8⟩:G8)).toArray 75)::.blk b3 (.cells (enc t).toArray 102)::S) w:=hw.ps [2,2]
 repeat first|refine A5 ?_|refine A6 ?_;intro w hw
 refine A0 rfl (fun _=>?_) (fun h=>absurd hv.kind (of_decide_eq_false h))
 repeat first|refine A5 ?_|refine A6 ?_;intro w hw
 refine B9 (vs:=[.pointer (some ⟨bp,0,none⟩)]) ?_
 refine(hWQ _ _ hw).mono ?_
 clear hw;rintro r w ⟨rfl,hw⟩
 refine⟨_,rfl,?_⟩;have hp0:=hv.pos
 repeat first|refine A5 ?_|refine A6 ?_;intro w hw
 refine A0 rfl (fun h=>?_) (fun h=>?_)
 ·repeat first|refine A5 ?_|refine A6 ?_;intro w hw
  refine A9 (i:=1) ?_
  intro w hw;have hw:Wd Γ (.blk b2 (.cells (enc (⟨t.Text,H8⟩:G8)).toArray 75)::B3 bp a n c (at'+1) e1 e2::.blk b3 (.cells (enc t).toArray 102)::S) w:=hw.ps [1]
  repeat first|refine A5 ?_|refine A6 ?_;intro w hw
  exact⟨[.agg (enc (⟨t.Text,H8⟩:G8)).toArray],⟨J2 (i:=0) hw rfl rfl rfl,trivial⟩,rfl,hw.drop.dropAt 1⟩
 ·exact absurd (hv.var.symm.trans h) (by decide)
end
end Go.Proofs.YtlmiakjbogojgaaGreatDoor
end
section
open Go
namespace Mk
attribute [local irreducible] Calls
section
variable {P:Program}{n:Nat}{ops:List Oper}{Γ:C4}{K:List B5}{wr tc stab:List (List Nat)}{Q:Fr→World→Prop}{i:Nat}{rest:List Oper}{ρ:Fr}{M:Nat→Fr→List B5}{T:Type}
variable {ty:TypeId}{pos:String}{es:Array Edge}
end
section
variable {P:Program}{n:Nat}{opa:Array Oper}{QQ:Exit→Fr→World→Prop}{ρ:Fr}{w:World}{rest:List Oper}{Γ:C4}{S:List B5}
variable {d:Option Tmp}{ty:TypeId}{pos:String}{es:Array Edge}{f j dj:Nat}{want c:Bool}{args:List Operand}{tys:Array TypeId}{vs:List Value}{v:Value}
attribute [local semireducible] gv
end
end Mk
end
section
open Go
namespace Mk
attribute [local semireducible] L W Step
def Z3(PP:List PanicEntry→World→Prop)(P:Program)(o:Oper)(ρ:Fr)(w:World)(K:Value→World→Prop):Prop:=
 match (execOp (ev ρ) o).run P w with
 | .ok (.value v) w'=>K v w'
 | .ok .skip w'=>K undef w'
 | .ok (.enter f args) w'=>Calls P f args w' (Ends K PP)
 | .ok (.row row args) w'=>Rows P row args w' K
 | _=>False
section
variable {PP:List PanicEntry→World→Prop}{P:Program}{o:Oper}{ρ ρ':Fr}{w:World}{K K':Value→World→Prop}{ops:List Oper}
theorem Step.toE(h:Step P o ρ w K):Z3 PP P o ρ w K:=by
 unfold Step at h;unfold Z3;generalize (execOp (ev ρ) o).run P w=r at *
 cases r with
 | ok x w'=>
  cases x <;> first
   | exact h
   | exact Calls.mono h (fun e w'' he=>by obtain⟨v,rfl,hv⟩:=he;exact hv)
   | exact h.elim
 | halt x w'=>exact h.elim
theorem Z3.mono(h:Z3 PP P o ρ w K)(hk:∀v w,K v w→K' v w):Z3 PP P o ρ w K':=by
 unfold Z3 at *
 split at h <;> first|exact hk _ _ h|exact h.mono fun e w'' he=>he.mono hk (fun _ _ h=>h)|exact h.mono hk|exact h.elim
theorem Z3.congr(hsel:w9 o=true)(hs:∀t∈looks ops o,ρ' t=ρ t)(h:Z3 PP P o ρ w K):Z3 PP P o ρ' w K:=by
 have:=execOp_congr o (fun cs b e=>by simp[w9,e]at hsel) (Sg hs)
 unfold Z3 at *
 rw[this];exact h
theorem Z3.wp{a:Act}{K2:Act→World→Prop}{Q':Exit→Act→World→Prop}(h:Z3 PP P o (D9 a) w K)
  (hk:∀v w,K v w→K2 (a.put o.dst v) w) (hp:∀ch w,PP ch w→Q' (.panic ch) a w):o.wp P a w K2 Q':=by
 unfold Z3 at h;unfold Oper.wp;rw[W4];generalize (execOp (ev (D9 a)) o).run P w=r at *
 cases r with
 | ok x w'=>
  cases x <;> simp only[Oper.upon]at h ⊢ <;> first
   | exact hk _ _ h
   | exact Calls.mono h (fun e w'' he=>by
     cases e with
     | returned v=>exact hk _ _ he
     | panicked ch=>exact hp _ _ he
     | outgrown=>exact he.elim)
   | exact Rows.mono h hk
   | exact h.elim
 | halt x w'=>exact h.elim
end
section
variable (PP:List PanicEntry→World→Prop)(V:R6)
structure KD(i:Nat)(o:Oper)(st:Mt)(c:Mc):Prop where
 run:∀Γ' Y w g,V.rl V.Γ Γ'→Wd Γ' (V.K++(cellsOf V (V.t i) st.M g++Y)) w →
  (R4 V.ops o (F3 V.N g st.ρ)=true→Z3 PP V.P o (F3 V.N g st.ρ) w fun v w'=>∃Γ'',V.rl Γ' Γ''∧Wd Γ'' (V.K++(cellsOf V (V.t i) (Mt.nxt V i st c) (C9 g o.dst v)++Y)) w'∧(V.free o=false→v=c.x)) ∧
  (R4 V.ops o (F3 V.N g st.ρ)=false→Wd Γ' (V.K++(cellsOf V (V.t i) (Mt.nxt V i st c) (C9 g o.dst undef)++Y)) w∧(V.free o=false→undef=c.x))
def MSwE(Q:Fr→World→Prop):Nat→List Oper→Mt→Prop
 | _,[],st=>EI V Q st
 | i,o::l,st=>∃c,KD PP V i o st c∧MSwE Q (i+1) l (Mt.next V i st o c)
end
def R0(PP:List PanicEntry→World→Prop)(V:R6)(Q:Fr→World→Prop):Nat→List Oper→List Mc→Mt→Prop
 | _,[],[],st=>EI V Q st
 | i,o::l,c::cs,st=>KD PP V i o st c∧R0 PP V Q (i+1) l cs (Mt.next V i st o c)
 | _,_,_,_=>False
theorem MSwE.chain{PP:List PanicEntry→World→Prop}{V:R6}{Q:Fr→World→Prop}:∀(l:List Oper) (i:Nat) (st:Mt),MSwE PP V Q i l st→∃cs,R0 PP V Q i l cs st
 | [],_,_,h=>⟨[],h⟩
 | _::l,i,st,⟨c,hg,h⟩=>by
  obtain⟨cs,hc⟩:=MSwE.chain l (i+1) _ h
  exact⟨c::cs,hg,hc⟩
section
variable {PP:List PanicEntry→World→Prop}{V:R6}{Q:Fr→World→Prop}
theorem R0.good:∀ {l:List Oper} {i:Nat} {cs:List Mc} {st:Mt} (k:Nat) {o:Oper},R0 PP V Q i l cs st→l[k]? = some o→∃c,cs[k]? = some c∧KD PP V (i+k) o (I8 V l cs i st k) c
 | o'::l,i,c::cs,st,0,o,h,ho=>by
  simp at ho;subst ho
  exact⟨c,rfl,h.1⟩
 | o'::l,i,c::cs,st,k+1,o,h,ho=>by
  obtain⟨c',h1,h2⟩:=R0.good k h.2 (by simpa using ho)
  refine⟨c',by simpa using h1,?_⟩
  rw[show i+(k+1)=i+1+k from by omega]
  exact h2
 | [],_,_,_,_,_,_,ho=>by simp at ho
 | _::_,_,[],_,_,_,h,_=>h.elim
theorem R0.final:∀ {l:List Oper} {i:Nat} {cs:List Mc} {st:Mt},R0 PP V Q i l cs st→EI V Q (I8 V l cs i st l.length)
 | [],_,[],_,h=>h
 | o::l,i,c::cs,st,h=>by
  have:=R0.final (l:=l) (cs:=cs) h.2
  simpa[I8] using this
 | [],_,_::_,_,h=>h.elim
 | _::_,_,[],_,h=>h.elim
section
variable {st0:Mt}{cs:List Mc}{listed:Array Bool}{a:Act}{w:World}{done:List Nat}{Γ':C4}
theorem GQ(hc:R0 PP V Q 0 V.ops cs st0){t j:Nat}:∀(m:Nat),j+m≤V.ops.length→(∀i,j≤i→i<j+m→∀o,V.ops[i]? = some o→o.dst≠some t)→(I8 V V.ops cs 0 st0 (j+m)).ρ t=(I8 V V.ops cs 0 st0 j).ρ t
 | 0,_,_=>rfl
 | m+1,hl,hn=>by
  have ih:=GQ hc m (by omega) (fun i h1 h2=>hn i h1 (by omega))
  have ho:V.ops[j+m]? = some V.ops[j+m]:=List.getElem?_eq_getElem (by omega)
  obtain⟨c,h1,_⟩:=hc.good (j+m) ho
  rw[←Nat.add_assoc,T3 ho h1,←ih];have hne:=hn (j+m) (by omega) (by omega) _ ho
  simp only[Mt.next]
  cases hd:(V.ops[j+m]).dst with
  | none=>rfl
  | some d=>exact upd_ne _ _ (fun e=>hne (by rw[hd,e]))
theorem MInv.sat_atE(hc:R0 PP V Q 0 V.ops cs st0)(inv:MInv V st0 cs listed a w done Γ'){k t:Nat}(hN:t∉V.N)(hk:k≤V.ops.length)(h1:∀j,j<k→∀o,V.ops[j]? = some o→o.dst=some t→j∈done)
  (h2:∀j∈done,∀o,V.ops[j]? = some o→o.dst=some t→j<k):D9 a t=(I8 V V.ops cs 0 st0 k).ρ t:=by
 rcases n3 (fun j=>∃o,V.ops[j]? = some o∧o.dst=some t) k with hn|⟨j,hj,⟨o,ho,hd⟩,hlast⟩
 ·have:=GQ (j:=0) (t:=t) hc k (by omega) (fun i _ hi o ho hd=>hn i (by omega) ⟨o,ho,hd⟩)
  rw[Nat.zero_add,AG]at this;rw[this];exact inv.init t hN fun i hi o ho hd=>hn i (h2 i hi o ho hd) ⟨o,ho,hd⟩
 ·have hin:=h1 j hj o ho hd
  obtain⟨c,hcj,hg⟩:=hc.good j ho
  have hval:=inv.last j hin o t c ho hd hN hcj fun i hi o' ho' hd'=>by
   have:=h2 i hi o' ho' hd'
   rcases Nat.lt_or_ge j i with h|h
   ·exact absurd ⟨o',ho',hd'⟩ (hlast i h this)
   ·exact h
  have hs:(I8 V V.ops cs 0 st0 (j+1)).ρ t=c.x:=by
   rw[T3 ho hcj];simp only[Mt.next,hd]
   exact upd_same _ _ _
  have:=GQ (j:=j+1) (t:=t) hc (k-(j+1)) (by omega) (fun i h3 h4 o' ho' hd'=>hlast i (by omega) (by omega) ⟨o',ho',hd'⟩)
  rw[show j+1+(k-(j+1))=k from by omega]at this
  rw[hval,this,hs]
theorem Bm(hc:R0 PP V Q 0 V.ops cs st0){p x:Nat}:∀(m:Nat),p+m≤V.ops.length→(∀j,p≤j→j<p+m→x∉V.w j)→(I8 V V.ops cs 0 st0 (p+m)).M x=(I8 V V.ops cs 0 st0 p).M x
 | 0,_,_=>rfl
 | m+1,hl,hn=>by
  have ih:=Bm hc m (by omega) (fun i h1 h2=>hn i h1 (by omega))
  have ho:V.ops[p+m]? = some V.ops[p+m]:=List.getElem?_eq_getElem (by omega)
  obtain⟨c,h1,hg⟩:=hc.good (p+m) ho
  rw[←Nat.add_assoc,T3 ho h1,←ih];have:=hn (p+m) (by omega) (by omega)
  simp[Mt.next,Mt.nxt,this]
theorem MInv.stepE{i:Nat}{QQ:Exit→Act→World→Prop}(hc:R0 PP V Q 0 V.ops cs st0)(hk:O8 V.n V.ops V.wr V.tc V.stab=true)(inv:MInv V st0 cs listed a w done Γ')(hPP:∀ch (a:Act) w,a.defers=[]→a.tmps.size=V.n→PP ch w→QQ (.panic ch) a w)
  (hr:i∈Region.ready .any V.ops.toArray listed):wpOp V.P V.ops.toArray QQ i (fun a' w'=>∃done' Γ'',MInv V st0 cs (listed.setIfInBounds i true) a' w' done' Γ''∧done'.length=done.length+1) a w∧i∉done:=by
 obtain⟨hun,o,hoa,hall⟩:=mem_ready.1 hr
 have ho:V.ops[i]? = some o:=by simpa using hoa
 have hil:i<V.ops.length:=(List.getElem?_eq_some_iff.1 ho).1
 have hni:i∉done:=fun h=>by rw[(inv.ls i hil).2 h]at hun;cases hun
 refine⟨?_,hni⟩
 obtain⟨c,hci,hg⟩:=hc.good i ho
 rw[Nat.zero_add]at hg;obtain⟨k1,k2,k3,kd,kw,kl,kn,ks,k4⟩:=P8 hk ho
 have hedges:∀e∈o.after,Region.binds .any e=true→e.on∈done:=fun e he hb=>by
  have h1:=hall e he hb
  have h2:=k1 e he hb
  have h3:e.on<listed.size:=by rw[inv.lsz];omega
  refine(inv.ls e.on (by omega)).1 ?_
  simp only[Array.getD_eq_getD_getElem?,Array.getElem?_eq_getElem h3,Option.getD_some]at h1 ⊢
  exact h1
 have hcl':Closed V.ops (·∈i::done):=fun j o' e hj ho' he hb=>by
  rcases List.mem_cons.1 hj with rfl|hj
  ·rw[ho]at ho';cases ho';exact List.mem_cons_of_mem _ (hedges e he hb)
  ·exact List.mem_cons_of_mem _ (inv.cl j o' e hj ho' he hb)
 have hanc:∀j,j∈(Du [] V.ops).getD i []→j∈i::done:=fun j hj=>V6 hcl' V.ops [] (by simp) (by simp) i j hj (by simp)
 have hanc2:∀j k,j∈(Du [] V.ops).getD k []→k∈done→j∈done:=fun j k hj hk=>V6 inv.cl V.ops [] (by simp) (by simp) k j hj hk
 have hsat:∀t∈looks V.ops o,t∉V.N→D9 a t=(I8 V V.ops cs 0 st0 i).ρ t:=fun t ht hN=>inv.sat_atE hc hN (Nat.le_of_lt hil) (fun j hj oj hoj hdj=>by
   rcases k4 j oj hj hoj with h|h
   ·exact absurd ht ((O2 h.1).1 t hdj).1
   ·rcases List.mem_cons.1 (hanc j h) with h|h
    ·omega
    ·exact h) (fun j hj oj hoj hdj=>by
   rcases Nat.lt_or_ge j i with h|h
   ·exact h
   ·rcases Nat.eq_or_lt_of_le h with h|h
    ·subst h;exact absurd hj hni
    ·obtain⟨_,_,_,_,_,_,_,_,q4⟩:=P8 hk hoj
     rcases q4 i o h ho with h'|h'
     ·exact absurd ht ((O2 h'.1).2 t hdj)
     ·exact absurd (hanc2 i j h' hj) hni)
 have hlook:∀t∈looks V.ops o,D9 a t=F3 V.N (D9 a) (I8 V V.ops cs 0 st0 i).ρ t:=fun t ht=>by
  by_cases hN:t∈V.N
  ·rw[L8 hN]
  ·rw[Cm hN];exact hsat t ht hN
 obtain⟨p,hp,hwd⟩:=inv.wd;have htc:∀x∈V.t i,(I8 V V.ops cs 0 st0 i).M x=(I8 V V.ops cs 0 st0 (p x)).M x:=fun x hx=>by
  rcases Nat.lt_or_ge i (p x) with hlt|hge
  ·
   have:=Bm hc (p:=i) (x:=x) (p x-i) (by have:=(hp x).1;omega) (fun j h1 h2 hj=>by
    have hjl:j<V.ops.length:=by have:=(hp x).1;omega
    have hjd:=((hp x).2 j hj hjl).2 (by omega)
    have hoj:V.ops[j]? = some V.ops[j]:=List.getElem?_eq_getElem hjl
    rcases Nat.eq_or_lt_of_le h1 with h|h
    ·subst h;exact hni hjd
    ·obtain⟨_,_,_,_,_,_,_,_,q4⟩:=P8 hk hoj
     rcases q4 i o h ho with h'|h'
     ·exact LS h'.2 hx hj
     ·exact hni (hanc2 i j h' hjd))
   rw[show i+(p x-i)=p x from by omega]at this
   exact this.symm
  ·have:=Bm hc (p:=p x) (x:=x) (i-p x) (by omega) (fun j h1 h2 hj=>by
    have hoj:V.ops[j]? = some V.ops[j]:=List.getElem?_eq_getElem (by omega)
    rcases k4 j _ (by omega) hoj with h|h
    ·exact Ep h.2 hj hx
    ·rcases List.mem_cons.1 (hanc j h) with h|h
     ·omega
     ·have:=((hp x).2 j hj (by omega)).1 h;omega)
   rwa [show p x+(i-p x)=i from by omega]at this
 let rest:=(List.range V.stab.length).filter fun x=>!(V.t i).contains x
 have hperm:(List.range V.stab.length).Perm (V.t i++rest):=by
  refine(List.perm_ext_iff_of_nodup List.nodup_range ?_).2 fun x=>?_
  ·refine List.nodup_append.2 ⟨kn,List.nodup_range.filter _,fun x hx y hy hxy=>?_⟩
   subst hxy;have:=(List.mem_filter.1 hy).2
   simp at this;exact this hx
  ·simp only[List.mem_append,List.mem_range,rest,List.mem_filter]
   constructor
   ·intro h;by_cases hx:x∈V.t i
    ·exact .inl hx
    ·exact .inr ⟨h,by simpa using hx⟩
   ·rintro (h|h)
    ·exact kl x h
    ·exact h.1
 have hfm:∀F:Nat→List B5,((List.range V.stab.length).flatMap F).Perm ((V.t i).flatMap F++rest.flatMap F):=fun F=>by
  rw[←List.flatMap_append];exact List.Perm.flatMap_right _ hperm
 have hw1:Wd Γ' (V.K++(cellsOf V (V.t i) (I8 V V.ops cs 0 st0 i).M (D9 a)++rest.flatMap fun x=>(I8 V V.ops cs 0 st0 (p x)).M x (F3 (V.s x) (D9 a) D5))) w:=by
  have:=hwd.perm (List.Perm.append_left V.K (hfm _))
  rwa [show cellsOf V (V.t i) (I8 V V.ops cs 0 st0 i).M (D9 a)=(V.t i).flatMap fun x=>(I8 V V.ops cs 0 st0 (p x)).M x (F3 (V.s x) (D9 a) D5) from G5 fun x hx=>by rw[htc x hx]]
 have hrun:=hg.run Γ' _ w (D9 a) inv.le hw1
 have next:∀v w' Γ'',V.rl Γ' Γ''→(V.free o=false→v=c.x)→Wd Γ'' (V.K++(cellsOf V (V.t i) (Mt.nxt V i (I8 V V.ops cs 0 st0 i) c) (C9 (D9 a) o.dst v)++rest.flatMap fun x=>(I8 V V.ops cs 0 st0 (p x)).M x (F3 (V.s x) (D9 a) D5))) w' →
   MInv V st0 cs (listed.setIfInBounds i true) (a.put o.dst v) w' (i::done) Γ'':=by
  intro v w' Γ'' hle he hwd';have hput:D9 (a.put o.dst v)=C9 (D9 a) o.dst v:=S9 a _ v (by rw[inv.size];exact I1 kd)
  refine⟨(I4 a _ v).trans inv.defers,(size_put a _ v).trans inv.size,by simpa using inv.lsz,List.nodup_cons.2 ⟨hni,inv.nd⟩,?_,?_,hcl',V.rl_trans inv.le hle,?_,?_,?_⟩
  ·intro j hj;rcases List.mem_cons.1 hj with rfl|hj
   ·exact hil
   ·exact inv.lt j hj
  ·intro j hj;by_cases hji:j=i
   ·subst hji;simp[inv.lsz,hil]
   ·rw[getD_set_ne true (Ne.symm hji),inv.ls j hj];simp[hji]
  ·intro t hN hn;rw[hput];have h1:o.dst≠some t:=hn i (by simp) o ho
   have:C9 (D9 a) o.dst v t=D9 a t:=by
    cases hd:o.dst with
    | none=>rfl
    | some d=>exact upd_ne _ _ (fun e=>h1 (by rw[hd,e]))
   rw[this];exact inv.init t hN fun j hj=>hn j (List.mem_cons_of_mem _ hj)
  ·intro j hj o' t c' ho' hd' hN hc' hmax;rw[hput];rcases List.mem_cons.1 hj with rfl|hj
   ·rw[ho]at ho';cases ho'
    rw[hci]at hc';cases hc'
    rw[hd',show C9 (D9 a) (some t) v t=v from upd_same _ _ _];exact he (by simp only[R6.free,hd'];simpa using hN)
   ·have hji:j≠i:=fun e=>hni (e ▸ hj)
    have h1:o.dst≠some t:=fun e=>by
     have hle':=hmax i (by simp) o ho e
     have hlt:i<j:=by omega
     obtain⟨_,_,_,_,_,_,_,_,q4⟩:=P8 hk ho'
     rcases q4 i o hlt ho with h|h
     ·exact((O2 h.1).1 t e).2 hd'
     ·exact hni (hanc2 i j h hj)
    have:C9 (D9 a) o.dst v t=D9 a t:=by
     cases hd:o.dst with
     | none=>rfl
     | some d=>exact upd_ne _ _ (fun e=>h1 (by rw[hd,e]))
    rw[this];exact inv.last j hj o' t c' ho' hd' hN hc' fun k hk'=>hmax k (List.mem_cons_of_mem _ hk')
  ·refine⟨fun x=>if x∈V.w i then i+1 else p x,fun x=>⟨?_,fun j hj hjl=>?_⟩,?_⟩
   ·show (if x∈V.w i then i+1 else p x)≤V.ops.length
    have:=(hp x).1
    split <;> omega
   ·by_cases hx:x∈V.w i
    ·simp only[hx,if_true]
     by_cases hji:j=i
     ·subst hji;simp
     ·simp only[List.mem_cons,hji,false_or]
      have hpi:p x≤i:=Nat.le_of_not_lt fun h=>hni (((hp x).2 i hx hil).2 h)
      rw[(hp x).2 j hj hjl];constructor
      ·intro h;omega
      ·intro h;refine((hp x).2 j hj hjl).1 ?_
       have hoj:V.ops[j]? = some V.ops[j]:=List.getElem?_eq_getElem hjl
       rcases k4 j _ (by omega) hoj with h'|h'
       ·exact absurd (Ep h'.2 hj (kw x hx)) id
       ·rcases List.mem_cons.1 (hanc j h') with h'|h'
        ·omega
        ·exact h'
    ·have hji:j≠i:=fun e=>hx (e ▸ hj)
     simp only[hx,if_false,List.mem_cons,hji,false_or]
     exact(hp x).2 j hj hjl
   ·refine Wd.perm ?_ (List.Perm.append_left V.K (hfm _)).symm
    have e1:cellsOf V (V.t i) (Mt.nxt V i (I8 V V.ops cs 0 st0 i) c) (C9 (D9 a) o.dst v)=(V.t i).flatMap fun x=>(I8 V V.ops cs 0 st0 (if x∈V.w i then i+1 else p x)).M x (F3 (V.s x) (D9 (a.put o.dst v)) D5):=G5 fun x hx=>by
     rw[hput];by_cases hxw:x∈V.w i
     ·simp only[hxw,if_true]
      rw[T3 ho hci,Nat.zero_add];rfl
     ·simp only[hxw,if_false,Mt.nxt]
      rw[←htc x hx];simp[hxw]
    have e2:(rest.flatMap fun x=>(I8 V V.ops cs 0 st0 (p x)).M x (F3 (V.s x) (D9 a) D5))=rest.flatMap fun x=>(I8 V V.ops cs 0 st0 (if x∈V.w i then i+1 else p x)).M x (F3 (V.s x) (D9 (a.put o.dst v)) D5):=G5 fun x hx=>by
     have hxt:x∉V.t i:=by have:=(List.mem_filter.1 hx).2;simpa using this
     have hxw:x∉V.w i:=fun h=>hxt (kw x h)
     simp only[hxw,if_false]
     rw[hput];congr 1
     refine Bi fun t ht=>?_
     cases hd:o.dst with
     | none=>rfl
     | some d=>exact(upd_ne _ _ (fun e=>hxw (ks d x hd (by subst e;exact ht)))).symm
    rw[←e1,←e2];exact hwd'
 have hwant:Region.wanted o (yielded V.ops.toArray a.tmps)=R4 V.ops o (F3 V.N (D9 a) (I8 V V.ops cs 0 st0 i).ρ):=by
  unfold R4;cases hgd:o.guard with
  | none=>simp[Region.wanted,hgd]
  | some q=>
   obtain⟨j,want⟩:=q;obtain⟨dj,hdj⟩:=k3 j want hgd
   have hdn:dj<V.n:=by
    cases hoj:V.ops[j]? with
    | none=>simp[hoj]at hdj
    | some oj=>simp[hoj]at hdj;exact I1 ((P8 hk hoj).2.2.2.1) dj hdj
   simp only[hdj]
   rw[←hlook dj (List.mem_append_right _ (by simp only[hgd];simpa using hdj))]
   exact o4 o V.ops.toArray a j want hgd dj (by simpa using hdj) (by rw[inv.size];exact hdn)
 unfold wpOp;simp only[hoa,hwant]
 have hsel:w9 o=true:=by
  unfold w9;split
  ·rename_i h;exact absurd h (k2 _ _)
  ·rfl
 cases hwt:R4 V.ops o (F3 V.N (D9 a) (I8 V V.ops cs 0 st0 i).ρ) with
 | true=>
  simp only[if_true]
  have hst:=(hrun.1 hwt).congr (ops:=V.ops) hsel hlook
  exact .inl (Z3.wp hst (fun v w' ⟨Γ'',h1,h2,h3⟩=>⟨_,_,next v w' Γ'' h1 h3 h2,by simp⟩) fun ch w h=>hPP ch a w inv.defers inv.size h)
 | false=>
  obtain⟨h1,h2⟩:=hrun.2 hwt
  exact⟨_,_,next undef w Γ' (V.rl_refl _) h2 h1,by simp⟩
theorem MInv.finE(hc:R0 PP V Q 0 V.ops cs st0)(inv:MInv V st0 cs listed a w done Γ')(hall:∀i,i<V.ops.length→i∈done):Q (D9 a) w:=by
 have hfin:=hc.final
 obtain⟨p,hp,hwd⟩:=inv.wd;have hρ:D9 a=F3 V.N (D9 a) (I8 V V.ops cs 0 st0 V.ops.length).ρ:=by
  funext t
  by_cases hN:t∈V.N
  ·rw[L8 hN]
  ·rw[Cm hN];exact inv.sat_atE hc hN (Nat.le_refl _) (fun j hj _ _ _=>hall j hj) (fun j hj _ _ _=>inv.lt j hj)
 rw[hρ];refine hfin Γ' w (D9 a) inv.le ?_
 have:cellsOf V (List.range V.stab.length) (I8 V V.ops cs 0 st0 V.ops.length).M (D9 a)=(List.range V.stab.length).flatMap fun x=>(I8 V V.ops cs 0 st0 (p x)).M x (F3 (V.s x) (D9 a) D5):=G5 fun x _=>by
  have:=Bm hc (p:=p x) (x:=x) (V.ops.length-p x) (by have:=(hp x).1;omega) (fun j h1 h2 hj=>by
   have hjl:j<V.ops.length:=by have:=(hp x).1;omega
   have:=((hp x).2 j hj hjl).1 (hall j hjl)
   omega)
  rw[show p x+(V.ops.length-p x)=V.ops.length from by have:=(hp x).1;omega]at this
  rw[this]
 rw[this];exact hwd
theorem MInv.anyE{QQ:Exit→Fr→World→Prop}(hc:R0 PP V (fun ρ w=>QQ .normal ρ w) 0 V.ops cs st0)(hk:O8 V.n V.ops V.wr V.tc V.stab=true)(hPP:∀ch ρ w,PP ch w→QQ (.panic ch) ρ w) :
  ∀(fuel:Nat) (listed:Array Bool) (a:Act) (w:World) (done:List Nat) (Γ':C4),MInv V st0 cs listed a w done Γ'→fuel+done.length=V.ops.length→wpAny V.P .any V.ops.toArray (lift V.n QQ) fuel listed a w
 | 0,listed,a,w,done,Γ',inv,hf=>by
  have hall:∀i,i<V.ops.length→i∈done:=by
   intro i hi;refine Classical.byContradiction fun hn=>?_
   have:=DN V.ops.length (i::done) (List.nodup_cons.2 ⟨hn,inv.nd⟩) (fun x hx=>by
    rcases List.mem_cons.1 hx with rfl|hx
    ·exact hi
    ·exact inv.lt x hx)
   simp at this;omega
  refine⟨?_,inv.defers,inv.size,inv.finE hc hall⟩
  refine List.eq_nil_iff_forall_not_mem.2 fun i hi=>?_
  obtain⟨hun,o,ho,_⟩:=mem_ready.1 hi
  have hil:i<V.ops.length:=by have:=(Array.getElem?_eq_some_iff.1 ho).1;simpa using this
  rw[(inv.ls i hil).2 (hall i hil)]at hun;cases hun
 | fuel+1,listed,a,w,done,Γ',inv,hf=>by
  refine⟨fun h=>⟨inv.defers,inv.size,inv.finE hc (q9 hk inv h)⟩,fun i hi=>?_⟩
  refine wpOp_mono ?_ (inv.stepE hc hk (fun ch a w h1 h2 h=>⟨h1,h2,hPP ch _ w h⟩) hi).1
  rintro a' w' ⟨done',Γ'',inv',hl⟩
  exact MInv.anyE hc hk hPP fuel _ a' w' done' Γ'' inv' (by omega)
end
end
theorem Pd{PP:List PanicEntry→World→Prop}{P:Program}{n id:Nat}{l:List Oper}{Q:Exit→Fr→World→Prop}{ρ:Fr}{w:World}{Γ:C4}(K:List B5)(M:Nat→Fr→List B5)(wr tc stab:List (List Nat))(fixed:Bool)(hm:P.follows .mixedOrders=true)
  (hk:O8 n l wr tc stab=true) (hPP:∀ch ρ w,PP ch w→Q (.panic ch) ρ w) (hw:Wd Γ (K++cellsOf ⟨P,n,l,Γ,K,wr,tc,stab,fixed⟩ (List.range stab.length) M ρ) w) (h:MSwE PP ⟨P,n,l,Γ,K,wr,tc,stab,fixed⟩ (fun ρ w=>Q .normal ρ w) 0 l ⟨ρ,M⟩):W P n (.region id l.toArray true) Q ρ w:=by
 unfold W;intro a hda hs hf;refine wp_region_any hm ?_
 obtain⟨cs,hc⟩:=h.chain;have inv:MInv ⟨P,n,l,Γ,K,wr,tc,stab,fixed⟩ ⟨ρ,M⟩ cs (Array.replicate l.toArray.size false) a { w with drawn:=w.drawn+1 } [] Γ:=by
  refine⟨hda,hs,by simp,by simp,by simp,fun i hi=>?_,fun _ _ _ h=>by simp at h,R6.rl_refl _,fun t _ _=>by rw[hf],by simp,fun _=>0,fun x=>⟨Nat.zero_le _,by simp⟩,?_⟩
  ·have:i<l.length:=hi
   simp[this]
  ·simp only[AG,hf]
   exact hw.drawn
 exact MInv.anyE hc hk hPP _ _ a _ [] Γ inv (by simp)
section
variable {PP:List PanicEntry→World→Prop}{V:R6}{Q:Fr→World→Prop}
end
end Mk
end
section
open Go Mk
namespace Go.Proofs.YtlmiakjbogojgaaGreatDoor
set_option maxHeartbeats 16000000
attribute [local irreducible] Calls cI cB
def An(p:C8)(er:Int):PanicEntry:={ v:=.iface 87 (.agg #[.int .i64 p.Line,.int .i64 p.Col,.int .i64 er]),recovered:=false }
def Ek{α β:Type}(f:α→β):PR α→PR β
 | .ok (x,k)=>.ok (f x,k)
 | .error q=>.error q
def m8(toks:List Tok)(e:C8)(kind:Int)(text:ByteArray)(k:Nat):PR Unit:=if M4 toks k kind text=true then .ok ((),k+1) else .error (G2 toks k e,50)
def M5(toks:List Tok)(e:C8)(k:Nat):PR ByteArray:=if (D2 toks k).Kind=1∧u3 (D2 toks k).Text=false then (if (D2 toks k).Text.size≤24 then .ok ((D2 toks k).Text,k+1) else .error (G2 toks k e,63)) else .error (G2 toks k e,50)
def d4(toks:List Tok)(e:C8)(most:Int)(k:Nat):PR Int:=if (D2 toks k).Kind=2 then (if (D2 toks k).Value≤most then .ok ((D2 toks k).Value,k+1) else .error (G2 toks k e,6)) else .error (G2 toks k e,50)
def BH:ByteArray:=⟨#[45]⟩
def Ai(toks:List Tok)(e:C8)(k:Nat):PR Int:=if M4 toks k 4 BH=true then Ek (fun v=>IntKind.i64.wrap (-(IntKind.i64.wrap v))) (d4 toks e 9223372036854775808 (k+1)) else Ek (fun v=>IntKind.i64.wrap v) (d4 toks e 9223372036854775807 k)
def Gf(s:ByteArray):Bool:=decide (s=⟨#[95]⟩)||(decide (65≤A3 s 0)&&decide (A3 s 0≤90))
def Cs(s:ByteArray):G8:=if Gf s=true then ⟨s,H8⟩ else ⟨C5,⟨2,0,s⟩⟩
def AV(toks:List Tok)(e:C8)(k:Nat):PR G8:=
 if (D2 toks k).Kind=1 then Ek Cs (M5 toks e k)
 else if (D2 toks k).Kind=3 then (if (D2 toks k).Text=⟨#[]⟩∨24<(D2 toks k).Text.size then .error (G2 toks k e,63) else .ok (⟨C5,⟨2,0,(D2 toks k).Text⟩⟩,k+1))
 else Ek (fun v=>⟨C5,⟨1,v,⟨#[]⟩⟩⟩) (Ai toks e k)
def Ab{α:Type}(Γ:C4)(S:List B5)(bp:Nat)(a:Option Addr)(n c:Nat)(e:C8)(K:α→Value):PR α→Ending→World→Prop
 | .ok (x,k),r,w=>r=.returned (K x)∧k≤n∧Wd Γ (B3 bp a n c k e.Line e.Col::S) w
 | .error (p,er),r,w=>r=.panicked [An p er]∧∃k,Wd Γ (B3 bp a n c k e.Line e.Col::S) w
def X8(toks:List Tok):Prop:=∀k,(D2 toks k).Kind=1→0<(D2 toks k).Text.size
section
variable {Γ:C4}{S:List B5}{w:World}{bp:Nat}{a:Option Addr}{n c at':Nat}{e:C8}{toks:List Tok}
theorem u2(h:(D2 toks at').Kind≠0):at'<toks.length:=by
 by_cases hk:at'<toks.length
 ·exact hk
 ·unfold D2 at h;rw[List.getD_eq_getElem?_getD,List.getElem?_eq_none (by omega)]at h
  exact absurd rfl h
theorem s9{kind:Int}{text:ByteArray}(h0:kind≠0)(h:M4 toks at' kind text=true):at'<toks.length:=by
 unfold M4 at h;simp only[Bool.and_eq_true,decide_eq_true_eq]at h
 exact u2 (by omega)
theorem BO(er:Int)(ht:D6 Γ (.slice a n c) 5 (toks.map enc))(hw:Wd Γ (B3 bp a n c at' e.Line e.Col::S) w) :
  Calls Tryz.prog 94 #[.pointer (some ⟨bp,0,none⟩),.int .i64 er] w fun r w'=>r=.panicked [An (G2 toks at' e) er]∧Wd Γ (B3 bp a n c at' e.Line e.Col::S) w':=by
 have hn:n=toks.length:=by obtain⟨_,_,_,h1,h2,_⟩:=ht.shape;cases h1;simpa using h2
 unfold B3 at *
 refine A4 Tryz.func94 rfl rfl ?_
 refine A7 ?_;refine B7 ?_;intro b4 w hw;refine A9 ?_;intro w hw;refine R5 ?_
 have hw:Wd Γ (.blk b4 (.cells (enc e).toArray 29)::.blk bp (.cells #[.slice a n c,.int .i64 at',.int .i64 e.Line,.int .i64 e.Col] 93)::S) w:=hw
 refine BL (fun ρ w=>∃b4:Nat,Has ρ [(1,.int .i64 er),(4,.pointer (some ⟨b4,0,none⟩))]∧Wd Γ (.blk b4 (.cells (enc (G2 toks at' e)).toArray 29)::.blk bp (.cells #[.slice a n c,.int .i64 at',.int .i64 e.Line,.int .i64 e.Col] 93)::S) w) ?_ ?_
 ·refine A7 ?_;refine H0 (by kernel_rfl) (by kernel_rfl) hw ?_
  refine Bt ?_;intro w hw;refine A0 rfl (fun h=>?_) (fun h=>?_)
  ·have h:at'<n:=by simp at h;omega
   obtain⟨t,htk⟩:=B8 (l:=toks) (k:=at') (by omega)
   have hp:G2 toks at' e=⟨t.Line,t.Col⟩:=by unfold G2;rw[htk]
   refine A7 ?_;refine p8 [.blk bp _] (.blk b4 _::S) [] [[],[],[],[],[],[],[],[],[],[],[],[0]] (hw.ps [1]) ?_
   refine W9 ?_;refine V9 (φ:=fun (_:Unit) _=>True) (R:=fun _=>.blk b4 (.cells (enc e).toArray 29)::S) (v:=undef) (T':=Unit) (fun _ _=>True) (fun _=>.blk b4 (.cells (enc (⟨t.Line,t.Col⟩:C8)).toArray 29)::S) (fun t' g w Y _ hw=>X4 (i:=0) (inferInstance:Ly Tryz.prog 29 2).h hw rfl rfl rfl rfl (fun u hu=>(List.all_eq_true.1 (Ag (⟨t.Line,t.Col⟩:C8))) u hu) rfl (Nat.le_refl 2) fun w' hw'=>⟨(),trivial,(fun _=>rfl),hw'⟩) ?_
   refine Al fun t' w g _ hw=>?_
   refine A7 ?_;exact⟨b4,⟨rfl,rfl,trivial⟩,by rw[hp];exact hw.flip.ps [1]⟩
  ·have h:¬at'<n:=by simp at h;omega
   have hp:G2 toks at' e=e:=by unfold G2;rw[List.getElem?_eq_none (by omega)]
   refine A7 ?_;exact⟨b4,⟨rfl,rfl,trivial⟩,by rw[hp];exact hw⟩
 ·rintro ρ w ⟨b4,hρ,hw⟩
  rw[hρ.eq];refine A7 ?_;refine lY (v:=.iface 87 (.agg #[.int .i64 (G2 toks at' e).Line,.int .i64 (G2 toks at' e).Col,.int .i64 er])) ?_ (hy:=Mr Tryz.underlying87 rfl)
  refine RU ?_
  exact⟨rfl,hw.drop⟩
theorem Ct(kind:Int)(text:ByteArray)(h0:kind≠0)(hat:at'≤n)(hN:toks.length≤1000000)(ht:D6 Γ (.slice a n c) 5 (toks.map enc))(hw:Wd Γ (B3 bp a n c at' e.Line e.Col::S) w) :
  Calls Tryz.prog 89 #[.pointer (some ⟨bp,0,none⟩),.int .i64 kind,.string text] w (Ab Γ S bp a n c e (fun _:Unit=>.tuple #[]) (m8 toks e kind text at')):=by
 have hn:n=toks.length:=by obtain⟨_,_,_,h1,h2,_⟩:=ht.shape;cases h1;simpa using h2
 refine A4 Tryz.func89 rfl rfl ?_
 refine A7 ?_;refine B9 (vs:=[.pointer (some ⟨bp,0,none⟩),.int .i64 kind,.string text]) ?_
 refine(M7 kind text hat hN ht hw).mono ?_
 clear hw;rintro r w ⟨rfl,hw⟩
 refine⟨_,rfl,?_⟩;unfold m8;cases hi:M4 toks at' kind text with
 | true=>
  have hlt:=s9 h0 hi
  rw[hi,if_pos rfl]at hw;rw[if_pos rfl];refine A7 ?_;refine A0 rfl (fun h=>by cases h) (fun h=>?_)
  refine A7 ?_;exact⟨_,rfl,rfl,by omega,hw⟩
 | false=>
  rw[hi,if_neg (by decide)]at hw
  rw[if_neg (by decide)]
  refine A7 ?_;refine A0 rfl (fun h=>?_) (fun h=>by cases h)
  refine A7 ?_;refine I0 ?_
  refine(BO 50 ht hw).mono ?_
  rintro r w ⟨rfl,hw⟩
  exact⟨rfl,at',hw⟩
theorem Hb(hat:at'≤n)(hN:toks.length≤1000000)(ht:D6 Γ (.slice a n c) 5 (toks.map enc))(hw:Wd Γ (B3 bp a n c at' e.Line e.Col::S) w) :
  Calls Tryz.prog 91 #[.pointer (some ⟨bp,0,none⟩)] w (Ab Γ S bp a n c e (fun s:ByteArray=>.string s) (M5 toks e at')):=by
 have hn:n=toks.length:=by obtain⟨_,_,_,h1,h2,h3⟩:=ht.shape;cases h1;simpa using h2
 refine A4 Tryz.func91 rfl rfl ?_
 refine A7 ?_;refine B9 (vs:=[.pointer (some ⟨bp,0,none⟩),.int .i64 0]) ?_
 refine(m6 (j:=0) (by decide) hat hN ht hw).mono ?_
 clear hw;rintro r w ⟨rfl,hw⟩
 rw[Nat.add_zero];refine⟨_,rfl,?_⟩;have hlt:=u2 (toks:=toks) (at':=at')
 unfold M5;generalize D2 toks at'=t at *
 refine A7 ?_;refine B7 ?_;intro b3 w hw;refine A9 ?_;intro w hw;have hw:Wd Γ (.blk b3 (.cells (enc t).toArray 102)::.blk bp (.cells #[.slice a n c,.int .i64 at',.int .i64 e.Line,.int .i64 e.Col] 93)::S) w:=hw
 refine A7 ?_;refine A0 rfl (fun h=>?_) (fun h=>?_)
 ·have h:(decide (t.Kind≠1)||u3 t.Text)=true:=h
  rw[if_neg (fun⟨h1,h2⟩=>by rw[h1,h2]at h;cases h)]
  refine A7 ?_;refine I0 ?_
  refine(BO (S:=.blk b3 _::S) 50 ht (hw.ps [1])).mono ?_
  rintro r w ⟨rfl,hw⟩
  exact⟨rfl,at',hw.dropAt 1⟩
 have h:(decide (t.Kind≠1)||u3 t.Text)=false:=h
 obtain⟨h1,h2⟩:=Bool.or_eq_false_iff.1 h
 have h1:t.Kind=1:=by simpa using h1
 rw[if_pos ⟨h1,h2⟩];have hlt:=hlt (by omega)
 clear h;refine A7 ?_;refine A0 rfl (fun h=>?_) (fun h=>?_)
 ·have h:=of_decide_eq_true h
  rw[if_neg (by omega)]
  refine A7 ?_;refine I0 ?_
  refine(BO (S:=.blk b3 _::S) 63 ht (hw.ps [1])).mono ?_
  rintro r w ⟨rfl,hw⟩
  exact⟨rfl,at',hw.dropAt 1⟩
 have h:=of_decide_eq_false h
 rw[if_pos (by omega)]
 refine A7 ?_;refine A9 (i:=1) ?_
 intro w hw;have hw:Wd Γ (.blk b3 (.cells (enc t).toArray 102)::B3 bp a n c (at'+1) e.Line e.Col::S) w:=hw
 refine A7 ?_;exact⟨_,rfl,rfl,by omega,hw.drop⟩
theorem FB(most:Int)(hat:at'≤n)(hN:toks.length≤1000000)(ht:D6 Γ (.slice a n c) 5 (toks.map enc))(hw:Wd Γ (B3 bp a n c at' e.Line e.Col::S) w) :
  Calls Tryz.prog 164 #[.pointer (some ⟨bp,0,none⟩),.int .u64 most] w (Ab Γ S bp a n c e (fun v:Int=>.int .u64 v) (d4 toks e most at')):=by
 have hn:n=toks.length:=by obtain⟨_,_,_,h1,h2,h3⟩:=ht.shape;cases h1;simpa using h2
 refine A4 Tryz.func164 rfl rfl ?_
 refine A7 ?_;refine B9 (vs:=[.pointer (some ⟨bp,0,none⟩),.int .i64 0]) ?_
 refine(m6 (j:=0) (by decide) hat hN ht hw).mono ?_
 clear hw;rintro r w ⟨rfl,hw⟩
 rw[Nat.add_zero];refine⟨_,rfl,?_⟩;have hlt:=u2 (toks:=toks) (at':=at')
 unfold d4;generalize D2 toks at'=t at *
 refine A7 ?_;refine B7 ?_;intro b5 w hw;refine A9 ?_;intro w hw;have hw:Wd Γ (.blk b5 (.cells (enc t).toArray 102)::.blk bp (.cells #[.slice a n c,.int .i64 at',.int .i64 e.Line,.int .i64 e.Col] 93)::S) w:=hw
 refine A7 ?_;refine A0 rfl (fun h=>?_) (fun h=>?_)
 ·have h:t.Kind≠2:=of_decide_eq_true h
  rw[if_neg h];refine A7 ?_;refine I0 ?_
  refine(BO (S:=.blk b5 _::S) 50 ht (hw.ps [1])).mono ?_
  rintro r w ⟨rfl,hw⟩
  exact⟨rfl,at',hw.dropAt 1⟩
 have h1:t.Kind=2:=by have:=of_decide_eq_false h;omega
 rw[if_pos h1];have hlt:=hlt (by omega)
 clear h;refine A7 ?_;refine A0 rfl (fun h=>?_) (fun h=>?_)
 ·have h:most<t.Value:=of_decide_eq_true h
  rw[if_neg (by omega)]
  refine A7 ?_;refine I0 ?_
  refine(BO (S:=.blk b5 _::S) 6 ht (hw.ps [1])).mono ?_
  rintro r w ⟨rfl,hw⟩
  exact⟨rfl,at',hw.dropAt 1⟩
 have h:¬most<t.Value:=of_decide_eq_false h
 rw[if_pos (by omega)]
 refine A7 ?_;refine A9 (i:=1) ?_
 intro w hw;have hw:Wd Γ (.blk b5 (.cells (enc t).toArray 102)::B3 bp a n c (at'+1) e.Line e.Col::S) w:=hw
 refine A7 ?_;exact⟨_,rfl,rfl,by omega,hw.drop⟩
theorem Fg(hat:at'≤n)(hN:toks.length≤1000000)(ht:D6 Γ (.slice a n c) 5 (toks.map enc))(hw:Wd Γ (B3 bp a n c at' e.Line e.Col::S) w) :
  Calls Tryz.prog 163 #[.pointer (some ⟨bp,0,none⟩)] w (Ab Γ S bp a n c e (fun v:Int=>.int .i64 v) (Ai toks e at')):=by
 have hn:n=toks.length:=by obtain⟨_,_,_,h1,h2,h3⟩:=ht.shape;cases h1;simpa using h2
 refine A4 Tryz.func163 rfl rfl ?_
 refine A7 ?_;refine B9 (vs:=[.pointer (some ⟨bp,0,none⟩),.int .i64 4,.string BH]) ?_
 refine(M7 4 BH hat hN ht hw).mono ?_
 clear hw;rintro r w ⟨rfl,hw⟩
 refine⟨_,rfl,?_⟩;unfold Ai;cases hi:M4 toks at' 4 BH with
 | true=>
  have hlt:=s9 (by decide) hi
  rw[hi,if_pos rfl]at hw;rw[if_pos rfl];refine A7 ?_;refine A0 rfl (fun h=>?_) (fun h=>by cases h)
  refine A7 ?_;refine I0 (vs:=[.pointer (some ⟨bp,0,none⟩),.int .u64 9223372036854775808]) ?_
  refine(FB (at':=at'+1) 9223372036854775808 (by omega) hN ht hw).mono ?_
  clear hw;rintro r w hr
  cases hN2:d4 toks e 9223372036854775808 (at'+1) with
  | error q=>
   obtain⟨p,er⟩:=q;rw[hN2]at hr;obtain⟨rfl,hw⟩:=hr;exact⟨rfl,hw⟩
  | ok q=>
   obtain⟨x,k⟩:=q;rw[hN2]at hr;obtain⟨rfl,hk,hw⟩:=hr;refine A7 ?_;refine lY (v:=.int .i64 (IntKind.i64.wrap (-(IntKind.i64.wrap x)))) ?_ (hy:=LK rfl)
   refine A7 ?_;exact⟨_,rfl,rfl,hk,hw⟩
 | false=>
  rw[hi,if_neg (by decide)]at hw
  rw[if_neg (by decide)]
  refine A7 ?_;refine A0 rfl (fun h=>by cases h) (fun h=>?_)
  refine A7 ?_;refine I0 (vs:=[.pointer (some ⟨bp,0,none⟩),.int .u64 9223372036854775807]) ?_
  refine(FB 9223372036854775807 hat hN ht hw).mono ?_
  clear hw;rintro r w hr
  cases hN2:d4 toks e 9223372036854775807 at' with
  | error q=>
   obtain⟨p,er⟩:=q;rw[hN2]at hr;obtain⟨rfl,hw⟩:=hr;exact⟨rfl,hw⟩
  | ok q=>
   obtain⟨x,k⟩:=q;rw[hN2]at hr;obtain⟨rfl,hk,hw⟩:=hr;refine A7 ?_;exact⟨_,rfl,rfl,hk,hw⟩
theorem AP(hW:X8 toks)(hat:at'≤n)(hN:toks.length≤1000000)(ht:D6 Γ (.slice a n c) 5 (toks.map enc))(hw:Wd Γ (B3 bp a n c at' e.Line e.Col::S) w) :
  Calls Tryz.prog 162 #[.pointer (some ⟨bp,0,none⟩)] w (Ab Γ S bp a n c e (fun o:G8=>.agg (enc o).toArray) (AV toks e at')):=by
 have hn:n=toks.length:=by obtain⟨_,_,_,h1,h2,h3⟩:=ht.shape;cases h1;simpa using h2
 refine F1 Tryz.func162 rfl rfl ?_
 refine A7 ?_;refine B7 ?_;intro b2 w hw;have hw:Wd Γ (B3 bp a n c at' e.Line e.Col::.blk b2 (.cells (enc (⟨C5,H8⟩:G8)).toArray 75)::S) w:=hw.ps [1]
 refine A7 ?_;refine B9 (vs:=[.pointer (some ⟨bp,0,none⟩),.int .i64 0]) ?_
 refine(m6 (j:=0) (by decide) hat hN ht hw).mono ?_
 clear hw;rintro r w ⟨rfl,hw⟩
 rw[Nat.add_zero];refine⟨_,rfl,?_⟩;have hlt:=u2 (toks:=toks) (at':=at')
 have hpos:=hW at'
 have hWd:=fun (S:List B5) (w:World) hw=>Hb (S:=S) (w:=w) (e:=e) (bp:=bp) hat hN ht hw
 unfold AV;unfold M5 at hWd;unfold M5;generalize D2 toks at'=t at *
 refine A7 ?_;refine B7 ?_;intro b3 w hw;refine A9 ?_;intro w hw;have hw:Wd Γ (B3 bp a n c at' e.Line e.Col::.blk b2 (.cells (enc (⟨C5,H8⟩:G8)).toArray 75)::.blk b3 (.cells (enc t).toArray 102)::S) w:=hw.ps [2,2]
 refine A7 ?_;refine A0 rfl (fun h=>?_) (fun h=>?_)
 ·have h1:t.Kind=1:=of_decide_eq_true h
  clear h;rw[if_pos h1];have hp0:=hpos h1
  refine A7 ?_;refine I0 (vs:=[.pointer (some ⟨bp,0,none⟩)]) ?_
  refine(hWd _ _ hw).mono ?_
  clear hw;rintro r w hr
  by_cases hc:t.Kind=1∧u3 t.Text=false
  rotate_left
  ·rw[if_neg hc]at hr ⊢
   obtain⟨rfl,k,hw⟩:=hr;exact⟨rfl,k,(hw.dropAt 1).dropAt 1⟩
  rw[if_pos hc]at hr ⊢
  by_cases hs:t.Text.size≤24
  rotate_left
  ·rw[if_neg hs]at hr ⊢
   obtain⟨rfl,k,hw⟩:=hr;exact⟨rfl,k,(hw.dropAt 1).dropAt 1⟩
  rw[if_pos hs]at hr ⊢
  obtain⟨rfl,hk,hw⟩:=hr;have hv:Cs t.Text=if Gf t.Text=true then ⟨t.Text,H8⟩ else ⟨C5,⟨2,0,t.Text⟩⟩:=rfl
  refine A7 ?_;refine A0 rfl (fun h=>?_) (fun h=>?_)
  ·have h:Gf t.Text=true:=h
   rw[if_pos h]at hv;refine A7 ?_;refine A9 (i:=1) ?_
   intro w hw;have hw:Wd Γ (.blk b2 (.cells (enc (⟨t.Text,H8⟩:G8)).toArray 75)::B3 bp a n c (at'+1) e.Line e.Col::.blk b3 (.cells (enc t).toArray 102)::S) w:=hw.ps [1]
   refine A7 ?_;refine⟨[.agg (enc (⟨t.Text,H8⟩:G8)).toArray],⟨J2 (i:=0) hw rfl rfl rfl,trivial⟩,?_⟩
   show Ab Γ S bp a n c e (fun o:G8=>.agg (enc o).toArray) (.ok (Cs t.Text,at'+1)) _ _
   rw[hv];exact⟨rfl,hk,hw.drop.dropAt 1⟩
  ·have h:Gf t.Text=false:=h
   rw[if_neg (by rw[h];decide)]at hv
   refine A7 ?_;refine A9 (i:=1) ?_
   intro w hw;have hw:Wd Γ (.blk b2 (.cells (enc (⟨C5,⟨2,0,t.Text⟩⟩:G8)).toArray 75)::B3 bp a n c (at'+1) e.Line e.Col::.blk b3 (.cells (enc t).toArray 102)::S) w:=hw.ps [1]
   refine A7 ?_;refine⟨[.agg (enc (⟨C5,⟨2,0,t.Text⟩⟩:G8)).toArray],⟨J2 (i:=0) hw rfl rfl rfl,trivial⟩,?_⟩
   show Ab Γ S bp a n c e (fun o:G8=>.agg (enc o).toArray) (.ok (Cs t.Text,at'+1)) _ _
   rw[hv];exact⟨rfl,hk,hw.drop.dropAt 1⟩
 have h1:¬t.Kind=1:=of_decide_eq_false h
 clear h;rw[if_neg h1];refine A7 ?_;refine A0 rfl (fun h=>?_) (fun h=>?_)
 ·have h3:t.Kind=3:=of_decide_eq_true h
  clear h;rw[if_pos h3];have hlt:=hlt (by omega)
  refine A7 ?_;refine A0 rfl (fun h=>?_) (fun h=>?_)
  ·have h:(decide (t.Text=⟨#[]⟩)||decide ((24:Int)<(t.Text.size:Int)))=true:=h
   rw[if_pos (by simp only[Bool.or_eq_true,decide_eq_true_eq]at h;exact h.imp id fun h=>by omega)]
   refine A7 ?_;refine I0 ?_
   refine(BO 63 ht hw).mono ?_
   rintro r w ⟨rfl,hw⟩
   exact⟨rfl,at',(hw.dropAt 1).dropAt 1⟩
  ·have h:(decide (t.Text=⟨#[]⟩)||decide ((24:Int)<(t.Text.size:Int)))=false:=h
   rw[if_neg (by simp only[Bool.or_eq_false_iff,decide_eq_false_iff_not]at h;exact fun hh=>hh.elim h.1 fun h2=>h.2 (by omega))]
   unfold B3 at hw;refine A7 ?_;refine A9 ?_;intro w hw;refine A7 ?_;refine A9 (i:=1) ?_
   intro w hw;have hw:Wd Γ (.blk b2 (.cells (enc (⟨C5,⟨2,0,t.Text⟩⟩:G8)).toArray 75)::B3 bp a n c (at'+1) e.Line e.Col::.blk b3 (.cells (enc t).toArray 102)::S) w:=hw.ps [1]
   refine A7 ?_;exact⟨[.agg (enc (⟨C5,⟨2,0,t.Text⟩⟩:G8)).toArray],⟨J2 (i:=0) hw rfl rfl rfl,trivial⟩,rfl,by omega,hw.drop.dropAt 1⟩
 ·have h3:¬t.Kind=3:=of_decide_eq_false h
  clear h;rw[if_neg h3];refine A7 ?_;refine I0 (vs:=[.pointer (some ⟨bp,0,none⟩)]) ?_
  refine(Fg hat hN ht hw).mono ?_
  clear hw;rintro r w hr
  cases hI:Ai toks e at' with
  | error q=>
   obtain⟨p,er⟩:=q;rw[hI]at hr;obtain⟨rfl,k,hw⟩:=hr;exact⟨rfl,k,(hw.dropAt 1).dropAt 1⟩
  | ok q=>
   obtain⟨x,k⟩:=q;rw[hI]at hr;obtain⟨rfl,hk,hw⟩:=hr;refine A7 ?_;refine A9 (i:=1) ?_
   intro w hw;have hw:Wd Γ (.blk b2 (.cells (enc (⟨C5,⟨1,x,⟨#[]⟩⟩⟩:G8)).toArray 75)::B3 bp a n c k e.Line e.Col::.blk b3 (.cells (enc t).toArray 102)::S) w:=hw.ps [1]
   refine A7 ?_;exact⟨[.agg (enc (⟨C5,⟨1,x,⟨#[]⟩⟩⟩:G8)).toArray],⟨J2 (i:=0) hw rfl rfl rfl,trivial⟩,rfl,hk,hw.drop.dropAt 1⟩
end
end Go.Proofs.YtlmiakjbogojgaaGreatDoor
end
section
open Go Mk
namespace Go.Proofs.YtlmiakjbogojgaaGreatDoor
set_option maxHeartbeats 16000000
attribute [local irreducible] Calls cI cB
section
variable {P:Program}{n:Nat}{ops:List Oper}{Γ:C4}{K:List B5}{wr tc stab:List (List Nat)}{Q:Fr→World→Prop}{i:Nat}{rest:List Oper}{ρ:Fr}{M:Nat→Fr→List B5}
variable {T T':Type}{ty:TypeId}{pos:String}{es:Array Edge}
theorem X7{c dd f:Nat}{args:List Operand}{tys:Array TypeId}{vs:List Value}{φ:T→Fr→Prop}{R:T→List B5}[C3 P f](val:T'→Value)(R':T'→List B5)
  (hcall:∀t S w,Wd Γ (R t++S) w→Calls P f vs.toArray w fun e w'=>∃t':T',e=.returned (val t')∧Wd Γ (R' t'++S) w')
  (h:MSw (mV P n ops Γ K wr tc stab) Q (i+1) rest ⟨C9 ρ (some dd) undef,M0 M c (P7 (fun (t:T') g=>g dd=val t) R')⟩)
  (hw0:wr.getD i []=[c]:=by exact rfl) (ht:tc.getD i []=[c]:=by exact rfl) (hM:M c=P7 φ R:=by first|exact B6|exact NL|exact AW|exact((A8 (by decide)).trans B6)|exact((A8 (by decide)).trans AW)|exact rfl)
  (hs:(stab.getD c []).contains dd=true:=by exact rfl) (hfr:U7 stab (some dd)=true:=by exact rfl) (ha:∀g,EvL (F3 stab.flatten g ρ) args vs:=by intro g;exact u6) :
  MSw (mV P n ops Γ K wr tc stab) Q i (⟨some dd,.call { callee:=.value (.func f),args:=args.toArray,argTypes:=tys },ty,pos,es,none⟩::rest) ⟨ρ,M⟩:=
 mS (v:=undef) (P7 (fun (t:T') g=>g dd=val t) R') (fun g w Y hw=>by
  obtain⟨t,-,hw⟩:=Y2 hw
  refine Ak (ha g).eqA ((hcall t _ _ hw).mono ?_)
  rintro e w' ⟨t',rfl,hw'⟩
  refine⟨_,rfl,fun hh=>(by rw[hfr]at hh;cases hh),t8 t' ?_ hw'⟩
  rw[L8 (by simpa using hs)];exact upd_same _ _ _) h hM hw0 ht rfl
end
theorem Fz{P:Program}{d:Option Tmp}{T f:Nat}{x:Operand}{ty:TypeId}{pos:String}{es:Array Edge}{g:Option (Nat×Bool)}{ρ:Fr}{w:World}{cs:Array Value}{v:Value}{fs:Array Field}{fd:Field}(hu:P.underlying T=some (.struct fs))(hf:fs[f]? = some fd)(hs:Pk P fd.type=true)(hc:cs[fd.offset]? = some v)(hx:ev ρ x=.agg cs) :
  Mk.Yields P ⟨d,.field T x f,ty,pos,es,g⟩ ρ w v:=by
 unfold Mk.Yields;simp[execOp,go_sem,hx,Instr.field,run_underlying hu,hf,part,Cd hs,hc,asAgg]
theorem CB{c:Bool}{v:Value}(h:c=true):gv c v=v:=Am h rfl
def K4:ByteArray:=⟨#[44]⟩
def Z6:ByteArray:=⟨#[40]⟩
def DJ:ByteArray:=⟨#[41]⟩
def P4:ByteArray:=⟨#[110,111,116]⟩
def D3:G8:=⟨C5,H8⟩
def M3(s:ByteArray)(os:List G8):F6:=⟨1,s,os,0,D3,D3,0,0,0⟩
def E5(toks:List Tok)(k m:Nat):List G8:=(List.range m).map fun i=>⟨(D2 toks (k+2*i)).Text,H8⟩
theorem Ku{toks:List Tok}{k m:Nat}:E5 toks k (m+1)=E5 toks k m++[⟨(D2 toks (k+2*m)).Text,H8⟩]:=by
 unfold E5;rw[List.range_succ,List.map_append];rfl
theorem FQ{toks:List Tok}{p:Nat}(k:Nat):(E5 toks p k).map enc++[enc (⟨(D2 toks (p+2*k)).Text,H8⟩:G8)]=(E5 toks p (k+1)).map enc:=by rw[Ku,List.map_append];rfl
structure RJ(toks:List Tok)(k m:Nat):Prop where
 kind:(D2 toks k).Kind=1
 kw:u3 (D2 toks k).Text=false
 size:(D2 toks k).Text.size≤24
 lpar:M4 toks (k+1) 4 Z6=true
 one:1≤m
 many:m≤1000
 vars:∀i,i<m→PU (D2 toks (k+2+2*i))
 comma:∀i,i+1<m→M4 toks (k+3+2*i) 4 K4=true
 last:M4 toks (k+1+2*m) 4 K4=false
 rpar:M4 toks (k+1+2*m) 4 DJ=true
section
variable {Γ:C4}{S:List B5}{w:World}{bp:Nat}{a:Option Addr}{n c at':Nat}{e1 e2:Int}{toks:List Tok}
theorem PE{m:Nat}(hr:RJ toks at' m)(hat:at'+2*m+2≤n)(hN:toks.length≤1000000)(ht:D6 Γ (.slice a n c) 5 (toks.map enc))(hw:Wd Γ (B3 bp a n c at' e1 e2::S) w) :
  Calls Tryz.prog 93 #[.pointer (some ⟨bp,0,none⟩)] w fun r w'=>∃v:EN,r=.returned (.agg (cG ⟨M3 (D2 toks at').Text (E5 toks (at'+2) m),v.1,v.2.1,v.2.2⟩).toArray)∧Wd Γ (.own (Ef v) 75 4 ((E5 toks (at'+2) m).map enc)::B3 bp a n c (at'+2*m+2) e1 e2::S) w':=by
 have hn:n=toks.length:=by obtain⟨_,_,_,h1,h2,h3⟩:=ht.shape;cases h1;simpa using h2
 have hnot:M4 toks at' 1 P4=false:=by
  unfold M4;rw[Bool.and_eq_false_iff];refine Or.inr (decide_eq_false fun e=>?_)
  have:=hr.kw
  rw[e]at this;exact absurd this (by decide)
 refine F1 Tryz.func93 rfl rfl ?_
 repeat first|refine A5 ?_|refine A6 ?_;intro w hw
 refine B7 ?_;intro b2 w hw;repeat first|refine A5 ?_|refine A6 ?_;intro w hw
 refine B7 ?_;intro b3 w hw;refine A9 ?_;intro w hw;have hw:Wd Γ (B3 bp a n c at' e1 e2::.blk b3 (.cells (cG ⟨M3 C5 [],none,0,0⟩).toArray 77)::.blk b2 (.cells (cG ⟨⟨0,C5,[],0,D3,D3,0,0,0⟩,none,0,0⟩).toArray 77)::S) w:=hw.ps [2]
 repeat first|refine A5 ?_|refine A6 ?_;intro w hw
 refine B9 (vs:=[.pointer (some ⟨bp,0,none⟩),.int .i64 1,.string P4]) ?_
 refine(M7 1 P4 (by omega) hN ht hw).mono ?_
 clear hw;rintro r w ⟨rfl,hw⟩
 rw[hnot]at hw ⊢
 have hw:Wd Γ (B3 bp a n c at' e1 e2::.blk b3 (.cells (cG ⟨M3 C5 [],none,0,0⟩).toArray 77)::.blk b2 (.cells (cG ⟨⟨0,C5,[],0,D3,D3,0,0,0⟩,none,0,0⟩).toArray 77)::S) w:=hw
 refine⟨_,rfl,?_⟩;repeat first|refine A5 ?_|refine A6 ?_;intro w hw
 refine A0 rfl (fun h=>by cases h) (fun _=>?_)
 repeat first|refine A5 ?_|refine A6 ?_;intro w hw
 refine Nv (hct:=by decide) ?_
 refine B9 (vs:=[.pointer (some ⟨bp,0,none⟩),.int .i64 0]) ?_ (ha:=EvL.cons (CB (by decide)) (EvL.cons rfl EvL.nil))
 refine(m6 (j:=0) (by decide) (by omega) hN ht hw).mono ?_
 clear hw;rintro r w ⟨rfl,hw⟩
 rw[Nat.add_zero];refine⟨_,rfl,?_⟩;repeat first|refine A5 ?_|refine A6 ?_;intro w hw
 refine lG ?_ (hv:=by intro hc;exact Fz Tryz.underlying102 rfl (by kernel_rfl) rfl rfl)
 repeat first|refine A5 ?_|refine A6 ?_;intro w hw
 have hkc:(!decide ((1:Int)=2)&&decide ((D2 toks at').Kind=1))=true:=by rw[decide_eq_true hr.kind];decide
 refine Nv (hct:=hkc) ?_
 refine B9 (vs:=[.pointer (some ⟨bp,0,none⟩),.int .i64 1,.int .i64 4,.string Z6]) ?_ (ha:=EvL.cons (CB hkc) (EvL.cons rfl (EvL.cons rfl (EvL.cons rfl EvL.nil))))
 refine(PN (j:=1) (by decide) 4 Z6 (by omega) hN ht hw).mono ?_
 clear hw;rintro r w ⟨rfl,hw⟩
 rw[hr.lpar];refine⟨_,rfl,?_⟩;repeat first|refine A5 ?_|refine A6 ?_;intro w hw
 refine Nv (hct:=by decide) ?_
 refine lY (v:=.bool true) ?_ (hy:=AY ((CB (by decide)).trans (by rw[decide_eq_true hr.kind])) rfl)
 refine lY (v:=.bool true) ?_ (hy:=w7 (congrArg Value.bool (by decide)) rfl)
 repeat first|refine A5 ?_|refine A6 ?_;intro w hw
 refine A0 rfl (fun _=>?_) (fun h=>by cases h)
 repeat first|refine A5 ?_|refine A6 ?_;intro w hw
 refine B9 (vs:=[.pointer (some ⟨bp,0,none⟩)]) ?_
 refine(Kl hr.kind hr.kw hr.size (by omega) hN ht hw).mono ?_
 clear hw;rintro r w ⟨rfl,hw⟩
 refine⟨_,rfl,?_⟩;have hops:=hr.vars
 generalize (D2 toks at').Text=nm at *
 repeat first|refine A5 ?_|refine A6 ?_;intro w hw
 refine A9 (i:=1) ?_
 intro w hw;have hw:Wd Γ (B3 bp a n c (at'+1) e1 e2::.blk b3 (.cells (cG ⟨M3 nm [],none,0,0⟩).toArray 77)::.blk b2 (.cells (cG ⟨⟨0,C5,[],0,D3,D3,0,0,0⟩,none,0,0⟩).toArray 77)::S) w:=hw
 repeat first|refine A5 ?_|refine A6 ?_;intro w hw
 refine B9 (vs:=[.pointer (some ⟨bp,0,none⟩),.int .i64 4,.string Z6]) ?_
 refine(Cq 4 Z6 hr.lpar (by omega) hN ht hw).mono ?_
 clear hw;rintro r w ⟨rfl,hw⟩
 refine⟨_,rfl,?_⟩;repeat first|refine A5 ?_|refine A6 ?_;intro w hw
 have hw:=Wd.addNil (a:=none) (E:=75) (sz:=4) hw
 have hw:Wd Γ (.own (.slice none 0 0) 75 4 ((E5 toks (at'+2) 0).map enc)::B3 bp a n c (at'+2+2*0) e1 e2::.blk b3 (.cells (cG ⟨M3 nm (E5 toks (at'+2) 0),none,0,0⟩).toArray 77)::.blk b2 (.cells (cG ⟨⟨0,C5,[],0,D3,D3,0,0,0⟩,none,0,0⟩).toArray 77)::S) w:=hw
 have hm1:=hr.one
 have hop:PU (D2 toks (at'+2+2*0)):=hr.vars 0 (by omega)
 refine Y7 [.blk b2 (.cells (cG ⟨⟨0,C5,[],0,D3,D3,0,0,0⟩,none,0,0⟩).toArray 77)] [.blk b3 (.cells (cG ⟨M3 nm (E5 toks (at'+2) 0),none,0,0⟩).toArray 77)] (.own (.slice none 0 0) 75 4 ((E5 toks (at'+2) 0).map enc)::B3 bp a n c (at'+2+2*0) e1 e2::S) [] [32,33,34] [] [[],[],[],[1],[1],[1],[],[0,1]] [[],[0],[],[1],[1],[1],[],[0,1]] (by rw[List.append_nil];exact hw.ps [2,3]) ?_
 repeat(first|refine mY ?_|refine mP ?_|refine O0 ?_|refine W0 ?_|refine X6 ?_)
 refine X7 (c:=1) (T:=Unit) (T':=Unit) (vs:=[.pointer (some ⟨bp,0,none⟩)]) (fun _=>.agg (enc (⟨(D2 toks (at'+2+2*0)).Text,H8⟩:G8)).toArray) (fun _=>B3 bp a n c (at'+2+2*0+1) e1 e2::.own (.slice none 0 0) 75 4 ((E5 toks (at'+2) 0).map enc)::S) (R:=fun _=>.own (.slice none 0 0) 75 4 ((E5 toks (at'+2) 0).map enc)::B3 bp a n c (at'+2+2*0) e1 e2::S) (fun _ Y w hw=>(HB hop (by omega) hN ht (hw.ps [1]:Wd Γ (B3 bp a n c (at'+2+2*0) e1 e2::(.own (.slice none 0 0) 75 4 ((E5 toks (at'+2) 0).map enc)::(S++Y))) w)).mono fun r w h=>⟨(),h.1,h.2⟩) ?_
 refine R2 (T:=Unit) (fun _=>[enc (⟨(D2 toks (at'+2+2*0)).Text,H8⟩:G8)]) ?_ ?_
 rotate_left
 ·intro t g h;have h2:g 32=_:=h
  show S1 _ _ [(0,g 32)]=_
  rw[h2];rfl
 refine w5 (T:=Unit×Addr) (j:=2) (j2:=0) (fun t=>some t.2) (fun _=>[enc (⟨(D2 toks (at'+2+2*0)).Text,H8⟩:G8)]) ?_ ?_
 rotate_left
 ·intro t g h;exact h.2
 refine W9 ?_;refine Y3 (T:=(Unit×Addr)×Value) (j:=2) (val:=fun t=>t.2) ?_ ?_
 rotate_left
 ·intro t g h;exact h.2
 refine v7 fun t w g h hw=>?_
 obtain⟨⟨⟨⟩,aB⟩,vv⟩:=t;have hw:Wd Γ (.blk b3 (.cells #[.int .i64 1,.string nm,vv,.int .i64 0,.string C5,.int .i64 0,.int .i64 0,.string C5,.string C5,.int .i64 0,.int .i64 0,.string C5,.int .i64 0,.int .i64 0,.int .i64 0] 77)::.own (.slice (some aB) 1 1) 75 4 [enc (⟨(D2 toks (at'+2+2*0)).Text,H8⟩:G8)]::B3 bp a n c (at'+2+2*0+1) e1 e2::.own vv 75 4 (((E5 toks (at'+2) 0).map enc)++[enc (⟨(D2 toks (at'+2+2*0)).Text,H8⟩:G8)])::(S++[.blk b2 (.cells (cG ⟨⟨0,C5,[],0,D3,D3,0,0,0⟩,none,0,0⟩).toArray 77)])) w:=hw
 obtain⟨A2,N2,C2,rfl,hN2,hNC2,hC2⟩:=hw.own_shape (i:=3) rfl
 rw[show ((E5 toks (at'+2) 0).map enc)++[enc (⟨(D2 toks (at'+2+2*0)).Text,H8⟩:G8)]=(E5 toks (at'+2) (0+1)).map enc from FQ _]at hw hN2
 have hw:Wd Γ (.blk b2 (.cells (cG ⟨⟨0,C5,[],0,D3,D3,0,0,0⟩,none,0,0⟩).toArray 77)::.blk b3 (.cells (cG ⟨M3 nm (E5 toks (at'+2) (0+1)),A2,N2,C2⟩).toArray 77)::B3 bp a n c (at'+2+2*0+1) e1 e2::.own (.slice A2 N2 C2) 75 4 ((E5 toks (at'+2) (0+1)).map enc)::S) w:=(hw.dropAt 1).perm L2
 have hw:Wd Γ (.own (.slice A2 N2 C2) 75 4 ((E5 toks (at'+2) (0+1)).map enc)::B3 bp a n c (at'+2+2*0+1) e1 e2::.blk b3 (.cells (cG ⟨M3 nm (E5 toks (at'+2) (0+1)),A2,N2,C2⟩).toArray 77)::.blk b2 (.cells (cG ⟨⟨0,C5,[],0,D3,D3,0,0,0⟩,none,0,0⟩).toArray 77)::S) w:=hw.ps [1,2,3]
 have key:∀k,M4 toks (at'+2+2*k+1) 4 K4=decide (k+1<m)∨¬k<m:=fun k=>by
  by_cases h1:k+1<m
  ·refine Or.inl ?_
   rw[decide_eq_true h1];have:=hr.comma k h1
   rwa [show at'+3+2*k=at'+2+2*k+1 from by omega]at this
  ·by_cases h2:k<m
   ·refine Or.inl ?_
    rw[decide_eq_false h1];have:=hr.last
    rwa [show at'+1+2*m=at'+2+2*k+1 from by omega]at this
   ·exact Or.inr h2
 repeat first|refine A5 ?_|refine A6 ?_;intro w hw
 refine C1 (fun μ ρ w=>∃(k:Nat) (A:Option Addr) (N C:Nat),μ+k=m∧k<m∧Has ρ [(0,.pointer (some ⟨bp,0,none⟩)),(2,.pointer (some ⟨b2,0,none⟩)),(3,.pointer (some ⟨b3,0,none⟩))]∧Wd Γ (.own (.slice A N C) 75 4 ((E5 toks (at'+2) (k+1)).map enc)::B3 bp a n c (at'+2+2*k+1) e1 e2::.blk b3 (.cells (cG ⟨M3 nm (E5 toks (at'+2) (k+1)),A,N,C⟩).toArray 77)::.blk b2 (.cells (cG ⟨⟨0,C5,[],0,D3,D3,0,0,0⟩,none,0,0⟩).toArray 77)::S) w) m ⟨0,A2,N2,C2,by omega,by omega,⟨rfl,rfl,rfl,trivial⟩,hw⟩ ?_
 clear hw;rintro μ ρ w ⟨k,A,N,C,hk,hkm,hρ,hw⟩
 rw[hρ.eq];clear hρ;obtain⟨A',N',C',hE,hNl,hNC,hC⟩:=hw.own_shape (i:=0) rfl
 cases hE
 have hlk:(E5 toks (at'+2) (k+1)).length=k+1:=by unfold E5;simp
 simp only[List.length_map,hlk]at hNl
 have hmm:=hr.many
 repeat first|refine A5 ?_|refine A6 ?_;intro w hw
 refine B9 (vs:=[.pointer (some ⟨bp,0,none⟩),.int .i64 4,.string K4]) ?_
 refine(M7 4 K4 (by omega) hN ht (hw.ps [1])).mono ?_
 clear hw;rintro r w ⟨rfl,hw⟩
 rw[(key k).resolve_right (by omega)]at hw ⊢
 refine⟨_,rfl,?_⟩;repeat first|refine A5 ?_|refine A6 ?_;intro w hw
 refine A0 rfl (fun h=>?_) (fun h=>?_)
 ·have h1:=of_decide_eq_true h
  rw[if_pos h]at hw;have hop:PU (D2 toks (at'+2+2*(k+1))):=hr.vars (k+1) h1
  have hw:Wd Γ (.own (.slice A N C) 75 4 ((E5 toks (at'+2) (k+1)).map enc)::B3 bp a n c (at'+2+2*(k+1)) e1 e2::.blk b3 (.cells (cG ⟨M3 nm (E5 toks (at'+2) (k+1)),A,N,C⟩).toArray 77)::.blk b2 (.cells (cG ⟨⟨0,C5,[],0,D3,D3,0,0,0⟩,none,0,0⟩).toArray 77)::S) w:=hw.ps [1]
  clear h;repeat first|refine A5 ?_|refine A6 ?_;intro w hw
  refine Y7 [.blk b2 (.cells (cG ⟨⟨0,C5,[],0,D3,D3,0,0,0⟩,none,0,0⟩).toArray 77)] [.blk b3 (.cells (cG ⟨M3 nm (E5 toks (at'+2) (k+1)),A,N,C⟩).toArray 77)] (.own (.slice A N C) 75 4 ((E5 toks (at'+2) (k+1)).map enc)::B3 bp a n c (at'+2+2*(k+1)) e1 e2::S) [] [41,42,43] [] [[],[],[],[1],[1],[1],[],[0,1]] [[],[0],[],[1],[1],[1],[],[0,1]] (by rw[List.append_nil];exact hw.ps [2,3]) ?_
  repeat(first|refine mY ?_|refine mP ?_|refine O0 ?_|refine W0 ?_|refine X6 ?_)
  refine X7 (c:=1) (T:=Unit) (T':=Unit) (vs:=[.pointer (some ⟨bp,0,none⟩)]) (fun _=>.agg (enc (⟨(D2 toks (at'+2+2*(k+1))).Text,H8⟩:G8)).toArray) (fun _=>B3 bp a n c (at'+2+2*(k+1)+1) e1 e2::.own (.slice A N C) 75 4 ((E5 toks (at'+2) (k+1)).map enc)::S) (R:=fun _=>.own (.slice A N C) 75 4 ((E5 toks (at'+2) (k+1)).map enc)::B3 bp a n c (at'+2+2*(k+1)) e1 e2::S) (fun _ Y w hw=>(HB hop (by omega) hN ht (hw.ps [1]:Wd Γ (B3 bp a n c (at'+2+2*(k+1)) e1 e2::(.own (.slice A N C) 75 4 ((E5 toks (at'+2) (k+1)).map enc)::(S++Y))) w)).mono fun r w h=>⟨(),h.1,h.2⟩) ?_
  refine R2 (T:=Unit) (fun _=>[enc (⟨(D2 toks (at'+2+2*(k+1))).Text,H8⟩:G8)]) ?_ ?_
  rotate_left
  ·intro t g h;have h2:g 41=_:=h
   show S1 _ _ [(0,g 41)]=_
   rw[h2];rfl
  refine w5 (T:=Unit×Addr) (j:=2) (j2:=0) (fun t=>some t.2) (fun _=>[enc (⟨(D2 toks (at'+2+2*(k+1))).Text,H8⟩:G8)]) ?_ ?_
  rotate_left
  ·intro t g h;exact h.2
  refine W9 ?_;refine Y3 (T:=(Unit×Addr)×Value) (j:=2) (val:=fun t=>t.2) ?_ ?_
  rotate_left
  ·intro t g h;exact h.2
  refine v7 fun t w g h hw=>?_
  obtain⟨⟨⟨⟩,aB⟩,vv⟩:=t;have hw:Wd Γ (.blk b3 (.cells #[.int .i64 1,.string nm,vv,.int .i64 0,.string C5,.int .i64 0,.int .i64 0,.string C5,.string C5,.int .i64 0,.int .i64 0,.string C5,.int .i64 0,.int .i64 0,.int .i64 0] 77)::.own (.slice (some aB) 1 1) 75 4 [enc (⟨(D2 toks (at'+2+2*(k+1))).Text,H8⟩:G8)]::B3 bp a n c (at'+2+2*(k+1)+1) e1 e2::.own vv 75 4 (((E5 toks (at'+2) (k+1)).map enc)++[enc (⟨(D2 toks (at'+2+2*(k+1))).Text,H8⟩:G8)])::(S++[.blk b2 (.cells (cG ⟨⟨0,C5,[],0,D3,D3,0,0,0⟩,none,0,0⟩).toArray 77)])) w:=hw
  obtain⟨A2,N2,C2,rfl,hN2,hNC2,hC2⟩:=hw.own_shape (i:=3) rfl
  rw[show ((E5 toks (at'+2) (k+1)).map enc)++[enc (⟨(D2 toks (at'+2+2*(k+1))).Text,H8⟩:G8)]=(E5 toks (at'+2) ((k+1)+1)).map enc from FQ _]at hw hN2
  have hw:Wd Γ (.blk b2 (.cells (cG ⟨⟨0,C5,[],0,D3,D3,0,0,0⟩,none,0,0⟩).toArray 77)::.blk b3 (.cells (cG ⟨M3 nm (E5 toks (at'+2) ((k+1)+1)),A2,N2,C2⟩).toArray 77)::B3 bp a n c (at'+2+2*(k+1)+1) e1 e2::.own (.slice A2 N2 C2) 75 4 ((E5 toks (at'+2) ((k+1)+1)).map enc)::S) w:=(hw.dropAt 1).perm L2
  have hw:Wd Γ (.own (.slice A2 N2 C2) 75 4 ((E5 toks (at'+2) ((k+1)+1)).map enc)::B3 bp a n c (at'+2+2*(k+1)+1) e1 e2::.blk b3 (.cells (cG ⟨M3 nm (E5 toks (at'+2) ((k+1)+1)),A2,N2,C2⟩).toArray 77)::.blk b2 (.cells (cG ⟨⟨0,C5,[],0,D3,D3,0,0,0⟩,none,0,0⟩).toArray 77)::S) w:=hw.ps [1,2,3]
  repeat first|refine A5 ?_|refine A6 ?_;intro w hw
  exact⟨μ-1,by omega,k+1,A2,N2,C2,by omega,by omega,⟨rfl,rfl,rfl,trivial⟩,hw⟩
 ·have h1:=of_decide_eq_false h
  have hkm1:k+1=m:=by omega
  rw[if_neg (by rw[h];decide)]at hw
  subst hkm1;have hw:Wd Γ (B3 bp a n c (at'+1+2*(k+1)) e1 e2::.own (.slice A N C) 75 4 ((E5 toks (at'+2) (k+1)).map enc)::.blk b3 (.cells (cG ⟨M3 nm (E5 toks (at'+2) (k+1)),A,N,C⟩).toArray 77)::.blk b2 (.cells (cG ⟨⟨0,C5,[],0,D3,D3,0,0,0⟩,none,0,0⟩).toArray 77)::S) w:=by
   rw[show at'+1+2*(k+1)=at'+2+2*k+1 from by omega];exact hw
  clear h;repeat first|refine A5 ?_|refine A6 ?_;intro w hw
  refine B9 (vs:=[.pointer (some ⟨bp,0,none⟩),.int .i64 4,.string DJ]) ?_
  refine(Cq 4 DJ hr.rpar (by omega) hN ht hw).mono ?_
  clear hw;rintro r w ⟨rfl,hw⟩
  refine⟨_,rfl,?_⟩;repeat first|refine A5 ?_|refine A6 ?_;intro w hw
  refine A9 (i:=3) ?_
  intro w hw;have hw:Wd Γ (.blk b2 (.cells (cG ⟨M3 nm (E5 toks (at'+2) (k+1)),A,N,C⟩).toArray 77)::.own (.slice A N C) 75 4 ((E5 toks (at'+2) (k+1)).map enc)::B3 bp a n c (at'+1+2*(k+1)+1) e1 e2::.blk b3 (.cells (cG ⟨M3 nm (E5 toks (at'+2) (k+1)),A,N,C⟩).toArray 77)::S) w:=hw.ps [1,3]
  repeat first|refine A5 ?_|refine A6 ?_;intro w hw
  refine⟨[.agg (cG ⟨M3 nm (E5 toks (at'+2) (k+1)),A,N,C⟩).toArray],⟨J2 (i:=0) hw rfl rfl rfl,trivial⟩,(A,N,C),rfl,?_⟩
  rw[show at'+2*(k+1)+2=at'+1+2*(k+1)+1 from by omega]
  exact hw.drop.dropAt 2
end
end Go.Proofs.YtlmiakjbogojgaaGreatDoor
end
section
open Go
namespace Mk
attribute [local irreducible] Calls
section
variable {PP:List PanicEntry→World→Prop}{P:Program}{n:Nat}{ops:List Oper}{Γ:C4}{K:List B5}{wr tc stab:List (List Nat)}{Q:Fr→World→Prop}{i:Nat}{rest:List Oper}{ρ:Fr}{M:Nat→Fr→List B5}{o:Oper}{v:Value}
theorem eC(hy:∀Y w g,Wd Γ (K++(E9 tc stab i M g++Y)) w→Step P o (F3 stab.flatten g ρ) w fun u w'=>u=v∧Wd Γ (K++(E9 tc stab i M g++Y)) w')(hw0:wr.getD i []=[])(hg:o.guard=none)(ho:CL tc stab i o.dst=true)
  (h:MSwE PP (mV P n ops Γ K wr tc stab) Q (i+1) rest ⟨C9 ρ o.dst v,M⟩):MSwE PP (mV P n ops Γ K wr tc stab) Q i (o::rest) ⟨ρ,M⟩:=by
 have hn:∀c,Mt.nxt (mV P n ops Γ K wr tc stab) i ⟨ρ,M⟩ c=M:=fun c=>by
  funext x;simp only[Mt.nxt,R6.w,hw0];rfl
 refine⟨⟨v,M⟩,⟨fun Γ' Y w g hr hw=>?_⟩,?_⟩
 ·have hΓ:Γ'=Γ:=hr
  subst hΓ;rw[hn];refine⟨fun _=>Step.toE ((hy Y w g hw).mono fun u w' ⟨h1,h2⟩=>⟨Γ',rfl,?_,fun _=>h1⟩),fun hf=>?_⟩
  ·have:=Cu (g:=g) (v:=u) ho M
   show Wd Γ' (K++(E9 tc stab i M (C9 g o.dst u)++Y)) w'
   rw[this];exact h2
  ·rw[O9 hg]at hf;cases hf
 ·simp only[Mt.next,hn];exact h
theorem eY(h:MSwE PP (mV P n ops Γ K wr tc stab) Q (i+1) rest ⟨C9 ρ o.dst v,M⟩)(hw0:wr.getD i []=[]:=by exact rfl)(hg:o.guard=none:=by exact rfl)(ho:CL tc stab i o.dst=true:=by exact rfl)
  (hy:∀Y w g,Wd Γ (K++(E9 tc stab i M g++Y)) w→Yields P o (F3 stab.flatten g ρ) w v:=by (intro Y w g hw;exact Kd)):MSwE PP (mV P n ops Γ K wr tc stab) Q i (o::rest) ⟨ρ,M⟩:=
 eC (fun Y w g hw=>(hy Y w g hw).step ⟨rfl,hw⟩) hw0 hg ho h
theorem eM{x:Nat}(m:Fr→List B5)(hs:∀Y w g,Wd Γ (K++(E9 tc stab i M g++Y)) w→Z3 PP P o (F3 stab.flatten g ρ) w fun u w'=>Wd Γ (K++(E9 tc stab i (M0 M x m) (C9 g o.dst u)++Y)) w'∧(U7 stab o.dst=false→u=v))
  (h:MSwE PP (mV P n ops Γ K wr tc stab) Q (i+1) rest ⟨C9 ρ o.dst v,M0 M x m⟩) (hw0:wr.getD i []=[x]:=by exact rfl) (hg:o.guard=none:=by exact rfl):MSwE PP (mV P n ops Γ K wr tc stab) Q i (o::rest) ⟨ρ,M⟩:=by
 have hn:Mt.nxt (mV P n ops Γ K wr tc stab) i ⟨ρ,M⟩ ⟨v,fun _=>m⟩=M0 M x m:=by
  funext y;simp only[Mt.nxt,R6.w,hw0];rfl
 refine⟨⟨v,fun _=>m⟩,⟨fun Γ' Y w g hr hw=>?_⟩,?_⟩
 ·have hΓ:Γ'=Γ:=hr
  subst hΓ;rw[hn];refine⟨fun _=>(hs Y w g hw).mono fun u w' ⟨h1,h2⟩=>⟨Γ',rfl,h1,h2⟩,fun hf=>?_⟩
  rw[O9 hg]at hf;cases hf
 ·simp only[Mt.next,hn];exact h
theorem eS{c:Nat}{F:Fr→List B5}(F':Fr→List B5)
  (hs:∀g w Y,Wd Γ (F (F3 (stab.getD c []) g D5)++(K++Y)) w→Z3 PP P o (F3 stab.flatten g ρ) w fun u w'=>(U7 stab o.dst=false→u=v)∧Wd Γ (F' (F3 (stab.getD c []) (C9 g o.dst u) D5)++(K++Y)) w')
  (h:MSwE PP (mV P n ops Γ K wr tc stab) Q (i+1) rest ⟨C9 ρ o.dst v,M0 M c F'⟩) (hM:M c=F:=by first|exact B6|exact NL|exact AW|exact((A8 (by decide)).trans B6)|exact rfl) (hw0:wr.getD i []=[c]:=by exact rfl) (ht:tc.getD i []=[c]:=by exact rfl) (hg:o.guard=none:=by exact rfl) :
  MSwE PP (mV P n ops Γ K wr tc stab) Q i (o::rest) ⟨ρ,M⟩:=by
 refine eM _ (fun Y w g hw=>?_) h hw0 hg
 rw[l5 ht,hM]at hw;refine(hs g w Y hw.swapApp).mono ?_
 rintro u w' ⟨h2,h3⟩
 refine⟨?_,h2⟩
 rw[l5 ht,B6];exact h3.swapApp
theorem HO{T T':Type}{c dd f:Nat}{args:List Operand}{tys:Array TypeId}{ty:TypeId}{pos:String}{es:Array Edge}{vs:List Value}{φ:T→Fr→Prop}{R:T→List B5}[C3 P f](val:T'→Value)(R':T'→List B5)
  (hcall:∀t Z w,Wd Γ (R t++Z) w→Calls P f vs.toArray w (Ends (fun u w'=>∃t':T',u=val t'∧Wd Γ (R' t'++Z) w') PP))
  (h:MSwE PP (mV P n ops Γ K wr tc stab) Q (i+1) rest ⟨C9 ρ (some dd) undef,M0 M c (P7 (fun (t:T') g=>g dd=val t) R')⟩)
  (hw0:wr.getD i []=[c]:=by exact rfl) (ht:tc.getD i []=[c]:=by exact rfl) (hM:M c=P7 φ R:=by first|exact B6|exact NL|exact AW|exact((A8 (by decide)).trans B6)|exact((A8 (by decide)).trans AW)|exact rfl)
  (hs:(stab.getD c []).contains dd=true:=by exact rfl) (hfr:U7 stab (some dd)=true:=by exact rfl) (ha:∀g,EvL (F3 stab.flatten g ρ) args vs:=by intro g;exact u6) :
  MSwE PP (mV P n ops Γ K wr tc stab) Q i (⟨some dd,.call { callee:=.value (.func f),args:=args.toArray,argTypes:=tys },ty,pos,es,none⟩::rest) ⟨ρ,M⟩:=
 eS (v:=undef) (P7 (fun (t:T') g=>g dd=val t) R') (fun g w Y hw=>by
  obtain⟨t,-,hw⟩:=Y2 hw
  have hr:(execOp (ev (F3 stab.flatten g ρ)) ⟨some dd,.call { callee:=.value (.func f),args:=args.toArray,argTypes:=tys },ty,pos,es,none⟩).run P w=.ok (.enter f vs.toArray) w:=by
   simp only[execOp,resolve,(ha g).eqA,ev,Deferred.ofValue,Sem.run_bind,Sem.run_pure,Result.andThen_ok,invoke]
   simp[Q2]
  unfold Z3;rw[hr];refine(hcall t _ _ hw).mono ?_
  intro e w' he;refine he.mono ?_ fun ch w h=>h
  rintro u w' ⟨t',rfl,hw'⟩
  refine⟨fun hh=>(by rw[hfr]at hh;cases hh),t8 t' ?_ hw'⟩
  rw[L8 (by simpa using hs)];exact upd_same _ _ _) h hM hw0 ht rfl
theorem QO{id:Nat}{l:List Oper}{QQ:Exit→Fr→World→Prop}{w:World}(PP:List PanicEntry→World→Prop)(K:List B5)(M:List (Fr→List B5))(wr tc stab:List (List Nat))(hw:Wd Γ (K++(List.range stab.length).flatMap fun x=>(ML M) x (F3 (stab.getD x []) ρ D5)) w)
  (hPP:∀ch ρ w,PP ch w→QQ (.panic ch) ρ w)
  (h:MSwE PP (mV P n l Γ K wr tc stab) (fun ρ w=>QQ .normal ρ w) 0 l ⟨ρ,ML M⟩) (hm:P.follows .mixedOrders=true:=by kernel_rfl) (hk:O8 n l wr tc stab=true:=by kernel_rfl):W P n (.region id l.toArray true) QQ ρ w:=
 Pd K (ML M) wr tc stab true hm hk hPP hw h
theorem noCell{L:List Nat}{c:Nat}{w:World}{Y:List B5}{g:Fr}{N:Nat→List Nat}{φ:Empty→Fr→Prop}{R:Empty→List B5}(hc:c∈L)(hM:M c=P7 φ R)(hw:Wd Γ (K++((L.flatMap fun x=>M x (F3 (N x) g D5))++Y)) w):False:=by
 obtain⟨l1,l2,rfl⟩:=List.append_of_mem hc
 rw[List.flatMap_append,List.flatMap_cons,hM]at hw;have hw:Wd Γ (P7 φ R (F3 (N c) g D5)++(K++((l1.flatMap fun x=>M x (F3 (N x) g D5))++((l2.flatMap fun x=>M x (F3 (N x) g D5))++Y)))) w:=hw.perm (by
  rw[List.append_assoc,List.append_assoc];exact(List.Perm.append_left K (List.perm_append_comm_assoc _ _ _)).trans (List.perm_append_comm_assoc _ _ _))
 obtain⟨t,-,-⟩:=Y2 hw
 exact t.elim
theorem IU{c:Nat}{φ:Empty→Fr→Prop}{R:Empty→List B5}(h:MSwE PP (mV P n ops Γ K wr tc stab) Q (i+1) rest ⟨C9 ρ o.dst undef,M⟩)(hM:M c=P7 φ R:=by first|exact B6|exact rfl)(ht:(tc.getD i []).contains c=true:=by exact rfl) :
  MSwE PP (mV P n ops Γ K wr tc stab) Q i (o::rest) ⟨ρ,M⟩:=by
 have hn:Mt.nxt (mV P n ops Γ K wr tc stab) i ⟨ρ,M⟩ ⟨undef,M⟩=M:=by
  funext x;simp only[Mt.nxt];cases ((mV P n ops Γ K wr tc stab).w i).contains x <;> rfl
 refine⟨⟨undef,M⟩,⟨fun Γ' Y w g hr hw=>?_⟩,?_⟩
 ·exact(noCell (L:=tc.getD i []) (N:=fun x=>stab.getD x []) (by simpa using ht) hM hw).elim
 ·simp only[Mt.next,hn];exact h
theorem EA{c:Nat}{φ:Empty→Fr→Prop}{R:Empty→List B5}(hM:M c=P7 φ R:=by first|exact B6|exact rfl)(hl:(List.range stab.length).contains c=true:=by exact rfl):MSwE PP (mV P n ops Γ K wr tc stab) Q i [] ⟨ρ,M⟩:=fun Γ' w g hr hw=>by
 refine(noCell (L:=List.range stab.length) (N:=fun x=>stab.getD x []) (Y:=[]) (K:=K) (Γ:=Γ') (w:=w) (g:=g) (by simpa using hl) hM ?_).elim
 rw[List.append_nil];exact hw
theorem Be{id:Nat}{l:List Oper}{QQ:Exit→Fr→World→Prop}{w:World}(PP:List PanicEntry→World→Prop)(K X0 X1 X2:List B5)(N1 N2:List Nat)(wr tc:List (List Nat))(hw:Wd Γ (K++(X0++(X1++X2))) w)
  (hPP:∀ch ρ w,PP ch w→QQ (.panic ch) ρ w)
  (h:MSwE PP (mV P n l Γ K wr tc [[],N1,N2]) (fun ρ w=>QQ .normal ρ w) 0 l ⟨ρ,ML [fun _=>X0,P7 (T:=Unit) (fun _ _=>True) (fun _=>X1),P7 (T:=Unit) (fun _ _=>True) (fun _=>X2)]⟩)
  (hm:P.follows .mixedOrders=true:=by kernel_rfl) (hk:O8 n l wr tc [[],N1,N2]=true:=by kernel_rfl):W P n (.region id l.toArray true) QQ ρ w:=
 QO PP K [fun _=>X0,P7 (T:=Unit) (fun _ _=>True) (fun _=>X1),P7 (T:=Unit) (fun _ _=>True) (fun _=>X2)] wr tc [[],N1,N2] (by
  show Wd Γ (K++(X0++(P7 (T:=Unit) (fun _ _=>True) (fun _=>X1) (F3 N1 ρ D5)++(P7 (T:=Unit) (fun _ _=>True) (fun _=>X2) (F3 N2 ρ D5)++[])))) w
  rw[List.append_nil];have h1:Wd Γ (X1++(X2++(K++X0))) w:=hw.perm (by
   rw[←List.append_assoc,←List.append_assoc X1];exact List.perm_append_comm)
  have h2:Wd Γ (P7 (T:=Unit) (fun _ _=>True) (fun _=>X1) (F3 N1 ρ D5)++(X2++(K++X0))) w:=t8 () trivial h1
  have h3:Wd Γ (X2++(P7 (T:=Unit) (fun _ _=>True) (fun _=>X1) (F3 N1 ρ D5)++(K++X0))) w:=h2.perm (List.perm_append_comm_assoc _ _ _)
  have h4:Wd Γ (P7 (T:=Unit) (fun _ _=>True) (fun _=>X2) (F3 N2 ρ D5)++(P7 (T:=Unit) (fun _ _=>True) (fun _=>X1) (F3 N1 ρ D5)++(K++X0))) w:=t8 () trivial h3
  have h5:Wd Γ (P7 (T:=Unit) (fun _ _=>True) (fun _=>X1) (F3 N1 ρ D5)++(P7 (T:=Unit) (fun _ _=>True) (fun _=>X2) (F3 N2 ρ D5)++(K++X0))) w:=h4.perm (List.perm_append_comm_assoc _ _ _)
  exact h5.perm (by
   rw[←List.append_assoc,←List.append_assoc K];exact List.perm_append_comm)) hPP h hm hk
end
end Mk
end
section
open Go Mk
namespace Go.Proofs.YtlmiakjbogojgaaGreatDoor
set_option maxHeartbeats 32000000
def EW:ByteArray:=⟨#[105,110]⟩
def EV:ByteArray:=⟨#[46,46]⟩
def j9:ByteArray:=⟨#[43]⟩
def Ul:ByteArray:=⟨#[61]⟩
def Ut:ByteArray:=⟨#[33,61]⟩
def Uo:ByteArray:=⟨#[60]⟩
def Un:ByteArray:=⟨#[60,61]⟩
def Uk:ByteArray:=⟨#[62]⟩
def Uh:ByteArray:=⟨#[62,61]⟩
def Q4:List ByteArray:=[C5,Ul,Ut,Uo,Un,Uk,Uh]
def opAt(toks:List Tok)(k:Nat):Nat:=if M4 toks k 4 Ul=true then 1 else if M4 toks k 4 Ut=true then 2 else if M4 toks k 4 Uo=true then 3 else if M4 toks k 4 Un=true then 4 else if M4 toks k 4 Uk=true then 5 else if M4 toks k 4 Uh=true then 6 else 0
def C6{α β:Type}(x:PR α)(f:α→Nat→PR β):PR β:=match x with
 | .ok (a,k)=>f a k
 | .error q=>.error q
def m4(toks:List Tok)(e:C8):Nat→List G8→Nat→PR (List G8)
 | 0,acc,k=>.ok (acc,k)
 | f+1,acc,k=>if M4 toks k 4 K4=true then C6 (AV toks e (k+1)) fun o k1=>m4 toks e f (acc++[o]) k1 else .ok (acc,k)
def BI(toks:List Tok)(e:C8)(kind:Int)(k:Nat):PR F6:=
 C6 (M5 toks e k) fun s k1=>C6 (m8 toks e 4 Z6 k1) fun _ k2=>C6 (AV toks e k2) fun o k3=>C6 (m4 toks e (toks.length+1) [o] k3) fun os k4=>C6 (m8 toks e 4 DJ k4) fun _ k5=>.ok (⟨kind,s,os,0,D3,D3,0,0,0⟩,k5)
def Hz(toks:List Tok)(e:C8)(l:G8)(k:Nat):PR F6:=
 C6 (Ai toks e k) fun lo k1=>C6 (m8 toks e 4 EV k1) fun _ k2=>C6 (Ai toks e k2) fun hi k3=>.ok (⟨4,C5,[],0,l,D3,0,lo,hi⟩,k3)
def Dl(toks:List Tok)(e:C8)(k:Nat):PR Int:=
 if M4 toks k 4 j9=true then Ek (fun v=>IntKind.i64.wrap v) (d4 toks e 9223372036854775807 (k+1))
 else if M4 toks k 4 BH=true then Ek (fun v=>IntKind.i64.wrap (-(IntKind.i64.wrap v))) (d4 toks e 9223372036854775807 (k+1))
 else .ok (0,k)
def GI(toks:List Tok)(e:C8)(l:G8)(k:Nat):PR F6:=
 if opAt toks k=0 then .error (G2 toks k e,50) else C6 (AV toks e (k+1)) fun r k1=>C6 (Dl toks e k1) fun o k2=>.ok (⟨3,C5,[],opAt toks k,l,r,o,0,0⟩,k2)
def M6(toks:List Tok)(e:C8)(k:Nat):PR F6:=
 if M4 toks k 1 P4=true then BI toks e 2 (k+1)
 else if (D2 toks k).Kind=1∧M4 toks (k+1) 4 Z6=true then BI toks e 1 k
 else C6 (AV toks e k) fun l k1=>if (D2 toks k).Kind=1∧M4 toks k1 1 EW=true then Hz toks e l (k1+1) else GI toks e l k1
def Qt(Γ:C4)(S:List B5)(bp:Nat)(a:Option Addr)(n c:Nat)(e:C8):PR F6→Ending→World→Prop
 | .ok (g,k),r,w=>∃v:EN,r=.returned (.agg (cG ⟨g,v.1,v.2.1,v.2.2⟩).toArray)∧k≤n∧Wd Γ (.own (Ef v) 75 4 (g.Args.map enc)::B3 bp a n c k e.Line e.Col::S) w
 | .error (p,er),r,w=>r=.panicked [An p er]∧∃k,Wd Γ (B3 bp a n c k e.Line e.Col::S) w
section
variable {Γ:C4}{S:List B5}{w:World}{bp:Nat}{a:Option Addr}{n c at':Nat}{e:C8}{toks:List Tok}
theorem j7{k k':Nat}{s:ByteArray}(h:M5 toks e k=.ok (s,k')):k'=k+1:=by
 unfold M5 at h;split at h
 ·split at h
  ·cases h;rfl
  ·cases h
 ·cases h
theorem n0{most:Int}{k k':Nat}{v:Int}(h:d4 toks e most k=.ok (v,k')):k'=k+1:=by
 unfold d4 at h;split at h
 ·split at h
  ·cases h;rfl
  ·cases h
 ·cases h
theorem L1{α β:Type}{f:α→β}{x:PR α}{y:β}{k:Nat}(h:Ek f x=.ok (y,k)):∃z,x=.ok (z,k)∧y=f z:=by
 cases x with
 | error q=>cases h
 | ok q=>
  obtain⟨z,k'⟩:=q;cases h
  exact⟨z,rfl,rfl⟩
theorem BD{k k':Nat}{o:G8}(h:AV toks e k=.ok (o,k')):k<k':=by
 unfold AV at h;split at h
 ·obtain⟨z,hz,-⟩:=L1 h
  have:=j7 hz
  omega
 ·split at h
  ·split at h
   ·cases h
   ·cases h;omega
  ·obtain⟨z,hz,-⟩:=L1 h
   unfold Ai at hz;split at hz
   ·obtain⟨z2,hz2,-⟩:=L1 hz
    have:=n0 hz2
    omega
   ·obtain⟨z2,hz2,-⟩:=L1 hz
    have:=n0 hz2
    omega
theorem Kq{k k':Nat}{o:G8}(h:AV toks e k=.ok (o,k')):k'≤toks.length:=by
 have num:∀ {most:Int} {j j':Nat} {v:Int},d4 toks e most j=.ok (v,j')→j'≤toks.length:=fun {most j j' v} h=>by
  have h1:=n0 h
  unfold d4 at h;split at h
  ·rename_i hk
   have:=u2 (toks:=toks) (at':=j) (by omega)
   omega
  ·cases h
 unfold AV at h;split at h
 ·rename_i hk
  obtain⟨z,hz,-⟩:=L1 h
  have h1:=j7 hz
  have:=u2 (toks:=toks) (at':=k) (by omega)
  omega
 ·split at h
  ·rename_i hk
   split at h
   ·cases h
   ·cases h
    have:=u2 (toks:=toks) (at':=k) (by omega)
    omega
  ·obtain⟨z,hz,-⟩:=L1 h
   unfold Ai at hz;split at hz
   ·obtain⟨z2,hz2,-⟩:=L1 hz
    exact num hz2
   ·obtain⟨z2,hz2,-⟩:=L1 hz
    exact num hz2
theorem RA{k:Nat}(h:opAt toks k≠0):k<toks.length:=by
 by_cases hk:k<toks.length
 ·exact hk
 ·refine absurd ?_ h
  have hf:∀t,M4 toks k 4 t=false:=fun t=>by
   cases hi:M4 toks k 4 t with
   | true=>exact absurd (s9 (by decide) hi) hk
   | false=>rfl
  unfold opAt;simp[hf]
theorem CI{S:List B5}{w:World}(hw:Wd Γ S w):Calls Tryz.prog 110 #[] w fun r w'=>∃q:Addr,r=.returned (.slice (some q) 7 7)∧Wd Γ (.own (.slice (some q) 7 7) 9 1 (Q4.map fun s=>[.string s])::S) w':=by
 refine A4 Tryz.func110 rfl rfl ?_
 refine A7 ?_;refine E4 (Q4.map fun s=>[.string s]) ?_
 intro q w hw;refine A7 ?_;exact⟨_,rfl,q,rfl,hw⟩
def p7(toks:List Tok)(k:Nat):Nat→Nat
 | 0=>0
 | j+1=>if p7 toks k j≠0 then p7 toks k j else if 0<j∧M4 toks k 4 (Q4.getD j C5)=true then j else 0
theorem FR{k:Nat}:p7 toks k 7=opAt toks k:=by
 have g0:Q4.getD 1 C5=Ul:=rfl
 have g1:Q4.getD 2 C5=Ut:=rfl
 have g2:Q4.getD 3 C5=Uo:=rfl
 have g3:Q4.getD 4 C5=Un:=rfl
 have g4:Q4.getD 5 C5=Uk:=rfl
 have g5:Q4.getD 6 C5=Uh:=rfl
 simp only[p7,opAt,g0,g1,g2,g3,g4,g5]
 cases M4 toks k 4 Ul <;> cases M4 toks k 4 Ut <;> cases M4 toks k 4 Uo <;> cases M4 toks k 4 Un <;> cases M4 toks k 4 Uk <;> cases M4 toks k 4 Uh <;> simp
theorem MN(hW:X8 toks)(hat:at'≤n)(hN:toks.length≤1000000)(ht:D6 Γ (.slice a n c) 5 (toks.map enc))(hw:Wd Γ (B3 bp a n c at' e.Line e.Col::S) w) :
  Calls Tryz.prog 93 #[.pointer (some ⟨bp,0,none⟩)] w (Qt Γ S bp a n c e (M6 toks e at')):=by
 have hn:n=toks.length:=by obtain⟨_,_,_,h1,h2,h3⟩:=ht.shape;cases h1;simpa using h2
 refine F1 Tryz.func93 rfl rfl ?_
 refine A7 ?_;refine B7 ?_;intro b2 w hw;refine A7 ?_;refine B7 ?_;intro b3 w hw;refine A9 ?_;intro w hw;have hw:Wd Γ (B3 bp a n c at' e.Line e.Col::.blk b3 (.cells (cG ⟨M3 C5 [],none,0,0⟩).toArray 77)::.blk b2 (.cells (cG ⟨⟨0,C5,[],0,D3,D3,0,0,0⟩,none,0,0⟩).toArray 77)::S) w:=hw.ps [2]
 refine A7 ?_;refine B9 (vs:=[.pointer (some ⟨bp,0,none⟩),.int .i64 1,.string P4]) ?_
 refine(M7 1 P4 hat hN ht hw).mono ?_
 clear hw;rintro r w ⟨rfl,hw⟩
 refine⟨_,rfl,?_⟩;refine A7 ?_;refine J6 (fun ρ w=>Has ρ [(0,.pointer (some ⟨bp,0,none⟩)),(2,.pointer (some ⟨b2,0,none⟩)),(3,.pointer (some ⟨b3,0,none⟩))]∧Wd Γ (B3 bp a n c (if M4 toks at' 1 P4=true then at'+1 else at') e.Line e.Col::.blk b3 (.cells (cG ⟨⟨if M4 toks at' 1 P4=true then 2 else 1,C5,[],0,D3,D3,0,0,0⟩,none,0,0⟩).toArray 77)::.blk b2 (.cells (cG ⟨⟨0,C5,[],0,D3,D3,0,0,0⟩,none,0,0⟩).toArray 77)::S) w) ?_ ?_
 ·refine A0 rfl (fun h=>?_) (fun h=>?_)
  ·have hwq:Wd Γ (B3 bp a n c (if M4 toks at' 1 P4=true then at'+1 else at') e.Line e.Col::.blk b3 (.cells (cG ⟨M3 C5 [],none,0,0⟩).toArray 77)::.blk b2 (.cells (cG ⟨⟨0,C5,[],0,D3,D3,0,0,0⟩,none,0,0⟩).toArray 77)::S) w:=hw
   clear hw;have hw:=hwq
   clear hwq;rw[h]at hw ⊢
   simp only[if_true]at hw ⊢
   refine A7 ?_;refine A9 (i:=1) ?_
   intro w hw;have hw:Wd Γ (B3 bp a n c (at'+1) e.Line e.Col::.blk b3 (.cells (cG ⟨⟨2,C5,[],0,D3,D3,0,0,0⟩,none,0,0⟩).toArray 77)::.blk b2 (.cells (cG ⟨⟨0,C5,[],0,D3,D3,0,0,0⟩,none,0,0⟩).toArray 77)::S) w:=hw
   refine A7 ?_;exact⟨⟨rfl,rfl,rfl,trivial⟩,hw⟩
  ·rw[h]at hw ⊢
   refine A7 ?_;exact⟨⟨rfl,rfl,rfl,trivial⟩,hw⟩
 clear hw;rintro ρ w ⟨hρ,hw⟩
 rw[hρ.eq];clear hρ;have hk1:(if M4 toks at' 1 P4=true then at'+1 else at')≤n:=by
  split
  ·rename_i h;have:=s9 (by decide) h;omega
  ·exact hat
 refine Q7 ?_
 refine BL (fun ρ w=>Has ρ [(0,.pointer (some ⟨bp,0,none⟩)),(2,.pointer (some ⟨b2,0,none⟩)),(3,.pointer (some ⟨b3,0,none⟩)),(23,.bool (M4 toks at' 1 P4||(decide ((D2 toks at').Kind=1)&&M4 toks (at'+1) 4 Z6)))]∧Wd Γ (B3 bp a n c (if M4 toks at' 1 P4=true then at'+1 else at') e.Line e.Col::.blk b3 (.cells (cG ⟨⟨if M4 toks at' 1 P4=true then 2 else 1,C5,[],0,D3,D3,0,0,0⟩,none,0,0⟩).toArray 77)::.blk b2 (.cells (cG ⟨⟨0,C5,[],0,D3,D3,0,0,0⟩,none,0,0⟩).toArray 77)::S) w) ?_ ?_
 ·cases hi:M4 toks at' 1 P4 with
  | true=>
   rw[hi]at hw;simp only[if_true]at hw ⊢
   refine A7 ?_;refine Py ?_ (hct:=by decide)
   refine Py ?_ (hct:=by decide)
   refine Py ?_ (hct:=by decide)
   refine Py ?_ (hct:=by decide)
   repeat(first|(first|refine Q7 ?_|refine IP ?_|refine BG ?_|refine Ca ?_|refine Sp ?_|refine QI ?_)|((first|apply UC|apply Rm);first|(refine lT ?_ ?_;(first|exact rfl|exact decide_eq_true rfl|exact hb1|exact hb2|exact hb3|exact hb4|(focus (simp;done))))|(refine lF ?_ ?_;(first|exact rfl|exact decide_eq_true rfl|exact hb1|exact hb2|exact hb3|exact hb4|(focus (simp;done)))))|(first|refine R5 ?_|(apply P5;first|(apply U9;first|refine lP ?_|(refine TD ?_;intro w hw))|(apply UJ;refine HM ?_)|refine lY ?_)|(apply I7;first|refine Nv ?_ (hct:=rfl)|refine Py ?_ (hct:=rfl)|(apply U9;first|refine lPG ?_|(refine NV ?_;intro w hw))|refine lG ?_))|(refine B7 ?_;intro _ w hw)|(refine J5 ?_;intro _ w hw)|(refine A9 ?_;intro w hw)|(apply I7;refine Py ?_ (hc:=by exact G3.u) (hct:=rfl)))
   exact⟨⟨rfl,rfl,rfl,rfl,trivial⟩,hw⟩
  | false=>
   rw[hi]at hw;have hw:Wd Γ (B3 bp a n c at' e.Line e.Col::.blk b3 (.cells (cG ⟨M3 C5 [],none,0,0⟩).toArray 77)::.blk b2 (.cells (cG ⟨⟨0,C5,[],0,D3,D3,0,0,0⟩,none,0,0⟩).toArray 77)::S) w:=hw
   refine A7 ?_;refine Nv (hct:=by decide) ?_
   refine B9 (vs:=[.pointer (some ⟨bp,0,none⟩),.int .i64 0]) ?_ (ha:=EvL.cons (CB (by decide)) (EvL.cons rfl EvL.nil))
   refine(m6 (j:=0) (by decide) hat hN ht hw).mono ?_
   clear hw;rintro r w ⟨rfl,hw⟩
   rw[Nat.add_zero];refine⟨_,rfl,?_⟩;refine A7 ?_;refine lG ?_ (hv:=by intro hc;exact Fz Tryz.underlying102 rfl (by kernel_rfl) rfl rfl)
   refine A7 ?_;by_cases hk:(D2 toks at').Kind=1
   ·have hkc:(!decide ((1:Int)=2)&&decide ((D2 toks at').Kind=1))=true:=by rw[decide_eq_true hk];decide
    refine Nv (hct:=hkc) ?_
    refine B9 (vs:=[.pointer (some ⟨bp,0,none⟩),.int .i64 1,.int .i64 4,.string Z6]) ?_ (ha:=EvL.cons (CB hkc) (EvL.cons rfl (EvL.cons rfl (EvL.cons rfl EvL.nil))))
    refine(PN (j:=1) (by decide) 4 Z6 hat hN ht hw).mono ?_
    clear hw;rintro r w ⟨rfl,hw⟩
    refine⟨_,rfl,?_⟩;generalize M4 toks (at'+1) 4 Z6=bl
    refine A7 ?_;refine Nv (hct:=by decide) ?_
    refine lY (v:=.bool bl) ?_ (hy:=AY ((CB (by decide)).trans (by rw[decide_eq_true hk])) rfl)
    refine lY (v:=.bool bl) ?_ (hy:=w7 (congrArg Value.bool (by decide)) rfl)
    refine A7 ?_;rw[decide_eq_true hk];exact⟨⟨rfl,rfl,rfl,rfl,trivial⟩,hw⟩
   ·have hkc:(!decide ((1:Int)=2)&&decide ((D2 toks at').Kind=1))=false:=by rw[decide_eq_false hk];decide
    refine Py (hct:=hkc) ?_
    refine Nv (hct:=by decide) ?_
    refine lY (v:=.bool false) ?_ (hy:=w7 ((CB (by decide)).trans (by rw[decide_eq_false hk])) rfl)
    refine lY (v:=.bool false) ?_ (hy:=w7 (congrArg Value.bool (by decide)) rfl)
    refine A7 ?_;rw[decide_eq_false hk];exact⟨⟨rfl,rfl,rfl,rfl,trivial⟩,hw⟩
 clear hw;rintro ρ w ⟨hρ,hw⟩
 rw[hρ.eq];clear hρ;have hopl:=fun k o k'=>BD (toks:=toks) (e:=e) (k:=k) (o:=o) (k':=k')
 refine A0 rfl (fun h=>?_) (fun h=>?_)
 ·obtain⟨kd,hkd⟩:∃kd:Int,kd=if M4 toks at' 1 P4=true then 2 else 1:=⟨_,rfl⟩
  obtain⟨k1,hk1d⟩:∃k1,k1=if M4 toks at' 1 P4=true then at'+1 else at':=⟨_,rfl⟩
  have hG:M6 toks e at'=BI toks e kd k1:=by
   unfold M6;rw[hkd,hk1d];cases hi:M4 toks at' 1 P4 with
   | true=>simp
   | false=>
    rw[hi,Bool.false_or,Bool.and_eq_true,decide_eq_true_eq]at h;rw[if_neg (by decide),if_pos h,if_neg (by decide),if_neg (by decide)]
  rw[←hk1d]at hk1;rw[←hk1d,←hkd]at hw;rw[hG];clear h hG hkd hk1d;unfold BI;refine A7 ?_;refine I0 (vs:=[.pointer (some ⟨bp,0,none⟩)]) ?_
  refine(Hb hk1 hN ht hw).mono ?_
  clear hw;rintro r w hr
  cases hWd:M5 toks e k1 with
  | error q=>
   obtain⟨p,er⟩:=q;rw[hWd]at hr;obtain⟨rfl,k,hw⟩:=hr;exact⟨rfl,k,(hw.dropAt 1).dropAt 1⟩
  | ok q=>
  obtain⟨s,k2⟩:=q;rw[hWd]at hr;obtain⟨rfl,hk2,hw⟩:=hr;show L _ _ _ _ _ _ _
  simp only[C6]
  refine A7 ?_;refine A9 (i:=1) ?_
  intro w hw;have hw:Wd Γ (B3 bp a n c k2 e.Line e.Col::.blk b3 (.cells (cG ⟨⟨kd,s,[],0,D3,D3,0,0,0⟩,none,0,0⟩).toArray 77)::.blk b2 (.cells (cG ⟨⟨0,C5,[],0,D3,D3,0,0,0⟩,none,0,0⟩).toArray 77)::S) w:=hw
  refine A7 ?_;refine I0 (vs:=[.pointer (some ⟨bp,0,none⟩),.int .i64 4,.string Z6]) ?_
  refine(Ct 4 Z6 (by decide) hk2 hN ht hw).mono ?_
  clear hw;rintro r w hr
  cases hE:m8 toks e 4 Z6 k2 with
  | error q=>
   obtain⟨p,er⟩:=q;rw[hE]at hr;obtain⟨rfl,k,hw⟩:=hr;exact⟨rfl,k,(hw.dropAt 1).dropAt 1⟩
  | ok q=>
  obtain⟨_,k3⟩:=q;rw[hE]at hr;obtain⟨rfl,hk9,hw⟩:=hr;show L _ _ _ _ _ _ _
  simp only[C6]
  refine A7 ?_;have hw:=Wd.addNil (a:=none) (E:=75) (sz:=4) hw
  have hw:Wd Γ (.own (.slice none 0 0) 75 4 (([]:List G8).map enc)::B3 bp a n c k3 e.Line e.Col::.blk b3 (.cells (cG ⟨⟨kd,s,[],0,D3,D3,0,0,0⟩,none,0,0⟩).toArray 77)::.blk b2 (.cells (cG ⟨⟨0,C5,[],0,D3,D3,0,0,0⟩,none,0,0⟩).toArray 77)::S) w:=hw
  cases hO:AV toks e k3 with
  | error q=>
   obtain⟨p,er⟩:=q;refine Be (fun ch w=>ch=[An p er]∧∃k,Wd Γ (B3 bp a n c k e.Line e.Col::S) w) [.blk b2 (.cells (cG ⟨⟨0,C5,[],0,D3,D3,0,0,0⟩,none,0,0⟩).toArray 77)] [.blk b3 (.cells (cG ⟨(⟨kd,s,[],0,D3,D3,0,0,0⟩:F6),none,0,0⟩).toArray 77)] (.own (.slice none 0 0) 75 4 (([]:List G8).map enc)::B3 bp a n c k3 e.Line e.Col::S) [] [32,33,34] [] [[],[],[],[1],[1],[1],[],[0,1]] [[],[0],[],[1],[1],[1],[],[0,1]] (by rw[List.append_nil];exact hw.ps [2,3]) (fun ch ρ w ⟨h1,h2⟩=>by subst h1;exact⟨rfl,h2⟩) ?_
   refine eY ?_
   refine eY ?_
   refine eY ?_
   refine HO (c:=1) (T:=Unit) (T':=Empty) (vs:=[.pointer (some ⟨bp,0,none⟩)]) (fun t=>t.elim) (fun t=>t.elim) (φ:=fun _ _=>True) (R:=fun _=>.own (.slice none 0 0) 75 4 (([]:List G8).map enc)::B3 bp a n c k3 e.Line e.Col::S) (fun _ Y w hw=>(AP hW hk9 hN ht (hw.ps [1]:Wd Γ (B3 bp a n c k3 e.Line e.Col::(.own (.slice none 0 0) 75 4 (([]:List G8).map enc)::(S++Y))) w)).mono fun r w h=>?_) ?_
   ·rw[hO]at h;obtain⟨rfl,k,hw⟩:=h;have hw:Wd Γ (B3 bp a n c k e.Line e.Col::(.own (.slice none 0 0) 75 4 (([]:List G8).map enc)::(S++Y))) w:=hw
    exact⟨rfl,k,Wd.left (S:=B3 bp a n c k e.Line e.Col::S) (hw.dropAt 1)⟩
   refine IU (c:=1) ?_
   refine IU (c:=1) ?_
   refine eY ?_
   refine IU (c:=1) ?_
   exact EA (c:=1)
  | ok q=>
  obtain⟨o,k9⟩:=q;refine Y7 [.blk b2 (.cells (cG ⟨⟨0,C5,[],0,D3,D3,0,0,0⟩,none,0,0⟩).toArray 77)] [.blk b3 (.cells (cG ⟨(⟨kd,s,[],0,D3,D3,0,0,0⟩:F6),none,0,0⟩).toArray 77)] (.own (.slice none 0 0) 75 4 (([]:List G8).map enc)::B3 bp a n c k3 e.Line e.Col::S) [] [32,33,34] [] [[],[],[],[1],[1],[1],[],[0,1]] [[],[0],[],[1],[1],[1],[],[0,1]] (by rw[List.append_nil];exact hw.ps [2,3]) ?_
  repeat(first|refine mY ?_|refine mP ?_|refine O0 ?_|refine W0 ?_|refine X6 ?_)
  refine X7 (c:=1) (T:=Unit) (T':=Unit) (vs:=[.pointer (some ⟨bp,0,none⟩)]) (fun _=>.agg (enc o).toArray) (fun _=>B3 bp a n c k9 e.Line e.Col::.own (.slice none 0 0) 75 4 (([]:List G8).map enc)::S) (R:=fun _=>.own (.slice none 0 0) 75 4 (([]:List G8).map enc)::B3 bp a n c k3 e.Line e.Col::S) (fun _ Y w hw=>(AP hW hk9 hN ht (hw.ps [1]:Wd Γ (B3 bp a n c k3 e.Line e.Col::(.own (.slice none 0 0) 75 4 (([]:List G8).map enc)::(S++Y))) w)).mono fun r w h=>by rw[hO]at h;exact⟨(),h.1,h.2.2⟩) ?_
  refine R2 (T:=Unit) (fun _=>[enc o]) ?_ ?_
  rotate_left
  ·intro t g h;have h2:g 32=.agg (enc o).toArray:=h
   show S1 _ _ [(0,g 32)]=_
   rw[h2];rfl
  refine w5 (T:=Unit×Addr) (j:=2) (j2:=0) (fun t=>some t.2) (fun _=>[enc o]) ?_ ?_
  rotate_left
  ·intro t g h;exact h.2
  refine W9 ?_;refine Y3 (T:=(Unit×Addr)×Value) (j:=2) (val:=fun t=>t.2) ?_ ?_
  rotate_left
  ·intro t g h;exact h.2
  refine v7 fun t w g h hw=>?_
  obtain⟨⟨⟨⟩,aB⟩,vv⟩:=t;have hw:Wd Γ (.blk b3 (.cells #[.int .i64 kd,.string s,vv,.int .i64 0,.string C5,.int .i64 0,.int .i64 0,.string C5,.string C5,.int .i64 0,.int .i64 0,.string C5,.int .i64 0,.int .i64 0,.int .i64 0] 77)::.own (.slice (some aB) 1 1) 75 4 [enc o]::B3 bp a n c k9 e.Line e.Col::.own vv 75 4 (([]:List G8).map enc++[enc o])::(S++[.blk b2 (.cells (cG ⟨⟨0,C5,[],0,D3,D3,0,0,0⟩,none,0,0⟩).toArray 77)])) w:=hw
  obtain⟨A2,N2,C2,hvv,hN2,hNC2,hC2⟩:=hw.own_shape (i:=3) rfl
  rw[hvv]at hw;rw[show ([]:List G8).map enc++[enc o]=(([]:List G8)++[o]).map enc from by rw[List.map_append];rfl]at hw hN2
  have hw:Wd Γ (.blk b2 (.cells (cG ⟨⟨0,C5,[],0,D3,D3,0,0,0⟩,none,0,0⟩).toArray 77)::.blk b3 (.cells (cG ⟨(⟨kd,s,([]++[o]),0,D3,D3,0,0,0⟩:F6),A2,N2,C2⟩).toArray 77)::B3 bp a n c k9 e.Line e.Col::.own (.slice A2 N2 C2) 75 4 ((([]:List G8)++[o]).map enc)::S) w:=(hw.dropAt 1).perm L2
  have hw:Wd Γ (.own (.slice A2 N2 C2) 75 4 ((([]:List G8)++[o]).map enc)::B3 bp a n c k9 e.Line e.Col::.blk b3 (.cells (cG ⟨(⟨kd,s,([]++[o]),0,D3,D3,0,0,0⟩:F6),A2,N2,C2⟩).toArray 77)::.blk b2 (.cells (cG ⟨⟨0,C5,[],0,D3,D3,0,0,0⟩,none,0,0⟩).toArray 77)::S) w:=hw.ps [1,2,3]
  have hk9':k9≤n:=by rw[hn];exact Kq hO
  simp only[C6]
  obtain⟨tot,htot⟩:∃t,t=m4 toks e (toks.length+1) [o] k9:=⟨_,rfl⟩
  rw[←htot];have hw:Wd Γ (.own (.slice A2 N2 C2) 75 4 (([o]:List G8).map enc)::B3 bp a n c k9 e.Line e.Col::.blk b3 (.cells (cG ⟨⟨kd,s,[o],0,D3,D3,0,0,0⟩,A2,N2,C2⟩).toArray 77)::.blk b2 (.cells (cG ⟨⟨0,C5,[],0,D3,D3,0,0,0⟩,none,0,0⟩).toArray 77)::S) w:=hw
  refine A7 ?_;refine C1 (fun μ ρ w=>∃(f:Nat) (acc:List G8) (k:Nat) (A:Option Addr) (N C:Nat),m4 toks e f acc k=tot∧μ=n-k∧k≤n∧n<f+k∧acc.length≤1+k∧Has ρ [(0,.pointer (some ⟨bp,0,none⟩)),(2,.pointer (some ⟨b2,0,none⟩)),(3,.pointer (some ⟨b3,0,none⟩))]∧Wd Γ (.own (.slice A N C) 75 4 ((acc:List G8).map enc)::B3 bp a n c k e.Line e.Col::.blk b3 (.cells (cG ⟨⟨kd,s,acc,0,D3,D3,0,0,0⟩,A,N,C⟩).toArray 77)::.blk b2 (.cells (cG ⟨⟨0,C5,[],0,D3,D3,0,0,0⟩,none,0,0⟩).toArray 77)::S) w) (n-k9) ⟨toks.length+1,[o],k9,A2,N2,C2,htot.symm,rfl,hk9',by omega,by simp,⟨rfl,rfl,rfl,trivial⟩,hw⟩ ?_
  clear hw hO hk9;rintro μ ρ w ⟨f,acc,k,A,N,C,hf,hμ,hkn,hfk,hal,hρ,hw⟩
  rw[hρ.eq];clear hρ;have hNl:N=acc.length:=by
   obtain⟨_,_,_,hE,h2,-,-⟩:=hw.own_shape (i:=0) rfl
   cases hE
   simpa using h2
  obtain⟨f',rfl⟩:∃f',f=f'+1:=⟨f-1,by omega⟩
  unfold m4 at hf;refine A7 ?_;refine B9 (vs:=[.pointer (some ⟨bp,0,none⟩),.int .i64 4,.string K4]) ?_
  refine(M7 (S:=.own (.slice A N C) 75 4 ((acc:List G8).map enc)::.blk b3 (.cells (cG ⟨⟨kd,s,acc,0,D3,D3,0,0,0⟩,A,N,C⟩).toArray 77)::.blk b2 (.cells (cG ⟨⟨0,C5,[],0,D3,D3,0,0,0⟩,none,0,0⟩).toArray 77)::S) 4 K4 hkn hN ht (hw.ps [1])).mono ?_
  clear hw;rintro r w ⟨rfl,hw⟩
  refine⟨_,rfl,?_⟩;cases hi:M4 toks k 4 K4 with
  | true=>
   have hlt:=s9 (by decide) hi
   rw[hi,if_pos rfl]at hw hf
   have hk9:k+1≤n:=by omega
   have hw:Wd Γ (.own (.slice A N C) 75 4 ((acc:List G8).map enc)::B3 bp a n c (k+1) e.Line e.Col::.blk b3 (.cells (cG ⟨⟨kd,s,acc,0,D3,D3,0,0,0⟩,A,N,C⟩).toArray 77)::.blk b2 (.cells (cG ⟨⟨0,C5,[],0,D3,D3,0,0,0⟩,none,0,0⟩).toArray 77)::S) w:=hw.ps [1]
   refine A7 ?_;refine A0 rfl (fun _=>?_) (fun h=>by cases h)
   refine A7 ?_;cases hO:AV toks e (k+1) with
   | error q=>
    obtain⟨p,er⟩:=q;have htE:tot=.error (p,er):=by rw[←hf,hO];rfl
    rw[htE];simp only[C6]
    refine Be (fun ch w=>ch=[An p er]∧∃k,Wd Γ (B3 bp a n c k e.Line e.Col::S) w) [.blk b2 (.cells (cG ⟨⟨0,C5,[],0,D3,D3,0,0,0⟩,none,0,0⟩).toArray 77)] [.blk b3 (.cells (cG ⟨(⟨kd,s,acc,0,D3,D3,0,0,0⟩:F6),A,N,C⟩).toArray 77)] (.own (.slice A N C) 75 4 ((acc:List G8).map enc)::B3 bp a n c (k+1) e.Line e.Col::S) [] [41,42,43] [] [[],[],[],[1],[1],[1],[],[0,1]] [[],[0],[],[1],[1],[1],[],[0,1]] (by rw[List.append_nil];exact hw.ps [2,3]) (fun ch ρ w ⟨h1,h2⟩=>by subst h1;exact⟨rfl,h2⟩) ?_
    refine eY ?_
    refine eY ?_
    refine eY ?_
    refine HO (c:=1) (T:=Unit) (T':=Empty) (vs:=[.pointer (some ⟨bp,0,none⟩)]) (fun t=>t.elim) (fun t=>t.elim) (φ:=fun _ _=>True) (R:=fun _=>.own (.slice A N C) 75 4 ((acc:List G8).map enc)::B3 bp a n c (k+1) e.Line e.Col::S) (fun _ Y w hw=>(AP hW hk9 hN ht (hw.ps [1]:Wd Γ (B3 bp a n c (k+1) e.Line e.Col::(.own (.slice A N C) 75 4 ((acc:List G8).map enc)::(S++Y))) w)).mono fun r w h=>?_) ?_
    ·rw[hO]at h;obtain⟨rfl,k,hw⟩:=h;have hw:Wd Γ (B3 bp a n c k e.Line e.Col::(.own (.slice A N C) 75 4 ((acc:List G8).map enc)::(S++Y))) w:=hw
     exact⟨rfl,k,Wd.left (S:=B3 bp a n c k e.Line e.Col::S) (hw.dropAt 1)⟩
    refine IU (c:=1) ?_
    refine IU (c:=1) ?_
    refine eY ?_
    refine IU (c:=1) ?_
    exact EA (c:=1)
   | ok q=>
   obtain⟨o,k9⟩:=q;have hk9':k9≤n:=by rw[hn];exact Kq hO
   have hk9l:=BD hO
   refine Y7 [.blk b2 (.cells (cG ⟨⟨0,C5,[],0,D3,D3,0,0,0⟩,none,0,0⟩).toArray 77)] [.blk b3 (.cells (cG ⟨(⟨kd,s,acc,0,D3,D3,0,0,0⟩:F6),A,N,C⟩).toArray 77)] (.own (.slice A N C) 75 4 ((acc:List G8).map enc)::B3 bp a n c (k+1) e.Line e.Col::S) [] [41,42,43] [] [[],[],[],[1],[1],[1],[],[0,1]] [[],[0],[],[1],[1],[1],[],[0,1]] (by rw[List.append_nil];exact hw.ps [2,3]) ?_
   repeat(first|refine mY ?_|refine mP ?_|refine O0 ?_|refine W0 ?_|refine X6 ?_)
   refine X7 (c:=1) (T:=Unit) (T':=Unit) (vs:=[.pointer (some ⟨bp,0,none⟩)]) (fun _=>.agg (enc o).toArray) (fun _=>B3 bp a n c k9 e.Line e.Col::.own (.slice A N C) 75 4 ((acc:List G8).map enc)::S) (R:=fun _=>.own (.slice A N C) 75 4 ((acc:List G8).map enc)::B3 bp a n c (k+1) e.Line e.Col::S) (fun _ Y w hw=>(AP hW hk9 hN ht (hw.ps [1]:Wd Γ (B3 bp a n c (k+1) e.Line e.Col::(.own (.slice A N C) 75 4 ((acc:List G8).map enc)::(S++Y))) w)).mono fun r w h=>by rw[hO]at h;exact⟨(),h.1,h.2.2⟩) ?_
   refine R2 (T:=Unit) (fun _=>[enc o]) ?_ ?_
   rotate_left
   ·intro t g h;have h2:g 41=.agg (enc o).toArray:=h
    show S1 _ _ [(0,g 41)]=_
    rw[h2];rfl
   refine w5 (T:=Unit×Addr) (j:=2) (j2:=0) (fun t=>some t.2) (fun _=>[enc o]) ?_ ?_
   rotate_left
   ·intro t g h;exact h.2
   refine W9 ?_;refine Y3 (T:=(Unit×Addr)×Value) (j:=2) (val:=fun t=>t.2) ?_ ?_
   rotate_left
   ·intro t g h;exact h.2
   refine v7 fun t w g h hw=>?_
   obtain⟨⟨⟨⟩,aB⟩,vv⟩:=t;have hw:Wd Γ (.blk b3 (.cells #[.int .i64 kd,.string s,vv,.int .i64 0,.string C5,.int .i64 0,.int .i64 0,.string C5,.string C5,.int .i64 0,.int .i64 0,.string C5,.int .i64 0,.int .i64 0,.int .i64 0] 77)::.own (.slice (some aB) 1 1) 75 4 [enc o]::B3 bp a n c k9 e.Line e.Col::.own vv 75 4 ((acc:List G8).map enc++[enc o])::(S++[.blk b2 (.cells (cG ⟨⟨0,C5,[],0,D3,D3,0,0,0⟩,none,0,0⟩).toArray 77)])) w:=hw
   obtain⟨A2,N2,C2,hvv,hN2,hNC2,hC2⟩:=hw.own_shape (i:=3) rfl
   rw[hvv]at hw;rw[show (acc:List G8).map enc++[enc o]=((acc:List G8)++[o]).map enc from by rw[List.map_append];rfl]at hw hN2
   have hw:Wd Γ (.blk b2 (.cells (cG ⟨⟨0,C5,[],0,D3,D3,0,0,0⟩,none,0,0⟩).toArray 77)::.blk b3 (.cells (cG ⟨(⟨kd,s,(acc++[o]),0,D3,D3,0,0,0⟩:F6),A2,N2,C2⟩).toArray 77)::B3 bp a n c k9 e.Line e.Col::.own (.slice A2 N2 C2) 75 4 (((acc:List G8)++[o]).map enc)::S) w:=(hw.dropAt 1).perm L2
   have hw:Wd Γ (.own (.slice A2 N2 C2) 75 4 (((acc:List G8)++[o]).map enc)::B3 bp a n c k9 e.Line e.Col::.blk b3 (.cells (cG ⟨(⟨kd,s,(acc++[o]),0,D3,D3,0,0,0⟩:F6),A2,N2,C2⟩).toArray 77)::.blk b2 (.cells (cG ⟨⟨0,C5,[],0,D3,D3,0,0,0⟩,none,0,0⟩).toArray 77)::S) w:=hw.ps [1,2,3]
   refine A7 ?_;exact⟨n-k9,by omega,f',acc++[o],k9,A2,N2,C2,by rw[←hf,hO];rfl,rfl,hk9',by omega,by rw[List.length_append];simp;omega,⟨rfl,rfl,rfl,trivial⟩,hw⟩
  | false=>
   rw[hi,if_neg (by decide)]at hw hf
   rw[←hf];simp only[C6]
   refine A7 ?_;refine A0 rfl (fun h=>by cases h) (fun _=>?_)
   refine A7 ?_;refine I0 (vs:=[.pointer (some ⟨bp,0,none⟩),.int .i64 4,.string DJ]) ?_
   refine(Ct 4 DJ (by decide) hkn hN ht hw).mono ?_
   clear hw;rintro r w hr
   cases hE:m8 toks e 4 DJ k with
   | error q=>
    obtain⟨p,er⟩:=q;rw[hE]at hr;obtain⟨rfl,k,hw⟩:=hr;exact⟨rfl,k,((hw.dropAt 1).dropAt 1).dropAt 1⟩
   | ok q=>
   obtain⟨_,k5⟩:=q;rw[hE]at hr;obtain⟨rfl,hk5,hw⟩:=hr;show L _ _ _ _ _ _ _
   refine A7 ?_;refine A9 (i:=3) ?_
   intro w hw;have hw:Wd Γ (B3 bp a n c k5 e.Line e.Col::.own (.slice A N C) 75 4 ((acc:List G8).map enc)::.blk b3 (.cells (cG ⟨⟨kd,s,acc,0,D3,D3,0,0,0⟩,A,N,C⟩).toArray 77)::.blk b2 (.cells (cG ⟨⟨kd,s,acc,0,D3,D3,0,0,0⟩,A,N,C⟩).toArray 77)::S) w:=hw
   refine A7 ?_;exact⟨[.agg (cG ⟨⟨kd,s,acc,0,D3,D3,0,0,0⟩,A,N,C⟩).toArray],⟨J2 (i:=3) hw rfl rfl rfl,trivial⟩,(A,N,C),rfl,hk5,((hw.ps [1,1]).dropAt 2).dropAt 2 |>.ps [1]⟩
 ·have h:(M4 toks at' 1 P4||(decide ((D2 toks at').Kind=1)&&M4 toks (at'+1) 4 Z6))=false:=h
  obtain⟨hi,hrel⟩:=Bool.or_eq_false_iff.1 h
  have hG:M6 toks e at'=C6 (AV toks e at') fun l k1=>if (D2 toks at').Kind=1∧M4 toks k1 1 EW=true then Hz toks e l (k1+1) else GI toks e l k1:=by
   unfold M6;rw[hi,if_neg (by decide),if_neg (fun⟨h1,h2⟩=>by rw[decide_eq_true h1,h2]at hrel;cases hrel)]
  rw[hG];rw[hi]at hw;have hw:Wd Γ (B3 bp a n c at' e.Line e.Col::.blk b3 (.cells (cG ⟨M3 C5 [],none,0,0⟩).toArray 77)::.blk b2 (.cells (cG ⟨⟨0,C5,[],0,D3,D3,0,0,0⟩,none,0,0⟩).toArray 77)::S) w:=hw
  clear h hG hk1 hrel;refine A7 ?_;refine A9 (i:=1) ?_
  intro w hw;have hw:Wd Γ (B3 bp a n c at' e.Line e.Col::.blk b3 (.cells (cG ⟨⟨3,C5,[],0,D3,D3,0,0,0⟩,none,0,0⟩).toArray 77)::.blk b2 (.cells (cG ⟨⟨0,C5,[],0,D3,D3,0,0,0⟩,none,0,0⟩).toArray 77)::S) w:=hw
  refine A7 ?_;refine B9 (vs:=[.pointer (some ⟨bp,0,none⟩),.int .i64 0]) ?_
  refine(m6 (j:=0) (by decide) hat hN ht hw).mono ?_
  clear hw;rintro r w ⟨rfl,hw⟩
  rw[Nat.add_zero];refine⟨_,rfl,?_⟩;refine A7 ?_;refine lY (v:=.int .i64 (D2 toks at').Kind) ?_ (hy:=Fz Tryz.underlying102 rfl (by kernel_rfl) rfl rfl)
  refine A7 ?_;refine I0 (vs:=[.pointer (some ⟨bp,0,none⟩)]) ?_
  refine(AP hW hat hN ht hw).mono ?_
  clear hw;rintro r w hr
  cases hO:AV toks e at' with
  | error q=>
   obtain⟨p,er⟩:=q;rw[hO]at hr;obtain⟨rfl,k,hw⟩:=hr;exact⟨rfl,k,(hw.dropAt 1).dropAt 1⟩
  | ok q=>
  obtain⟨l,k1⟩:=q;rw[hO]at hr;obtain⟨rfl,hk1,hw⟩:=hr;show L _ _ _ _ _ _ _
  simp only[C6]
  generalize hkk:(D2 toks at').Kind=kk
  refine A7 ?_;refine A9 (i:=1) ?_
  intro w hw;have hw:Wd Γ (B3 bp a n c k1 e.Line e.Col::.blk b3 (.cells (cG ⟨⟨3,C5,[],0,l,D3,0,0,0⟩,none,0,0⟩).toArray 77)::.blk b2 (.cells (cG ⟨⟨0,C5,[],0,D3,D3,0,0,0⟩,none,0,0⟩).toArray 77)::S) w:=hw
  refine R5 ?_
  refine Q7 ?_
  refine BL (fun ρ w=>Has ρ [(0,.pointer (some ⟨bp,0,none⟩)),(2,.pointer (some ⟨b2,0,none⟩)),(3,.pointer (some ⟨b3,0,none⟩)),(60,.bool (decide (kk=1)&&M4 toks k1 1 EW))]∧Wd Γ (B3 bp a n c (if kk=1∧M4 toks k1 1 EW=true then k1+1 else k1) e.Line e.Col::.blk b3 (.cells (cG ⟨⟨3,C5,[],0,l,D3,0,0,0⟩,none,0,0⟩).toArray 77)::.blk b2 (.cells (cG ⟨⟨0,C5,[],0,D3,D3,0,0,0⟩,none,0,0⟩).toArray 77)::S) w) ?_ ?_
  ·by_cases hk:kk=1
   ·refine A7 ?_;refine Nv (hct:=decide_eq_true hk) ?_
    refine B9 (vs:=[.pointer (some ⟨bp,0,none⟩),.int .i64 1,.string EW]) ?_ (ha:=EvL.cons (CB (decide_eq_true hk)) (EvL.cons rfl (EvL.cons rfl EvL.nil)))
    refine(M7 1 EW hk1 hN ht hw).mono ?_
    clear hw;rintro r w ⟨rfl,hw⟩
    refine⟨_,rfl,?_⟩;have e1:(kk=1∧M4 toks k1 1 EW=true)=(M4 toks k1 1 EW=true):=by simp[hk]
    simp only[e1]
    generalize M4 toks k1 1 EW=bi at *
    rw[decide_eq_true hk];refine lY (v:=.bool bi) ?_ (hy:=AY rfl rfl)
    refine A7 ?_;exact⟨⟨rfl,rfl,rfl,rfl,trivial⟩,hw⟩
   ·refine A7 ?_;refine Py (hct:=decide_eq_false hk) ?_
    refine lY (v:=.bool false) ?_ (hy:=w7 (congrArg Value.bool (decide_eq_false hk)) rfl)
    refine A7 ?_;rw[decide_eq_false hk,if_neg (fun h=>hk h.1)];exact⟨⟨rfl,rfl,rfl,rfl,trivial⟩,hw⟩
  clear hw;rintro ρ w ⟨hρ,hw⟩
  rw[hρ.eq];clear hρ;refine A0 rfl (fun h=>?_) (fun h=>?_)
  ·have h:(decide (kk=1)&&M4 toks k1 1 EW)=true:=h
   rw[Bool.and_eq_true,decide_eq_true_eq]at h;have hlt:=s9 (by decide) h.2
   rw[if_pos h]at hw ⊢
   have hk2:k1+1≤n:=by omega
   clear h;unfold Hz;refine A7 ?_;refine A9 (i:=1) ?_
   intro w hw;have hw:Wd Γ (B3 bp a n c (k1+1) e.Line e.Col::.blk b3 (.cells (cG ⟨⟨4,C5,[],0,l,D3,0,0,0⟩,none,0,0⟩).toArray 77)::.blk b2 (.cells (cG ⟨⟨0,C5,[],0,D3,D3,0,0,0⟩,none,0,0⟩).toArray 77)::S) w:=hw
   refine A7 ?_;refine I0 (vs:=[.pointer (some ⟨bp,0,none⟩)]) ?_
   refine(Fg hk2 hN ht hw).mono ?_
   clear hw;rintro r w hr
   cases hI:Ai toks e (k1+1) with
   | error q=>
    obtain⟨p,er⟩:=q;rw[hI]at hr;obtain⟨rfl,k,hw⟩:=hr;exact⟨rfl,k,(hw.dropAt 1).dropAt 1⟩
   | ok q=>
   obtain⟨lo,k3⟩:=q;rw[hI]at hr;obtain⟨rfl,hk3,hw⟩:=hr;show L _ _ _ _ _ _ _
   simp only[C6]
   refine A7 ?_;refine A9 (i:=1) ?_
   intro w hw;have hw:Wd Γ (B3 bp a n c k3 e.Line e.Col::.blk b3 (.cells (cG ⟨⟨4,C5,[],0,l,D3,0,lo,0⟩,none,0,0⟩).toArray 77)::.blk b2 (.cells (cG ⟨⟨0,C5,[],0,D3,D3,0,0,0⟩,none,0,0⟩).toArray 77)::S) w:=hw
   refine A7 ?_;refine I0 (vs:=[.pointer (some ⟨bp,0,none⟩),.int .i64 4,.string EV]) ?_
   refine(Ct 4 EV (by decide) hk3 hN ht hw).mono ?_
   clear hw;rintro r w hr
   cases hE:m8 toks e 4 EV k3 with
   | error q=>
    obtain⟨p,er⟩:=q;rw[hE]at hr;obtain⟨rfl,k,hw⟩:=hr;exact⟨rfl,k,(hw.dropAt 1).dropAt 1⟩
   | ok q=>
   obtain⟨_,k4⟩:=q;rw[hE]at hr;obtain⟨rfl,hk4,hw⟩:=hr;show L _ _ _ _ _ _ _
   simp only[C6]
   refine A7 ?_;refine I0 (vs:=[.pointer (some ⟨bp,0,none⟩)]) ?_
   refine(Fg hk4 hN ht hw).mono ?_
   clear hw;rintro r w hr
   cases hI2:Ai toks e k4 with
   | error q=>
    obtain⟨p,er⟩:=q;rw[hI2]at hr;obtain⟨rfl,k,hw⟩:=hr;exact⟨rfl,k,(hw.dropAt 1).dropAt 1⟩
   | ok q=>
   obtain⟨hi',k5⟩:=q;rw[hI2]at hr;obtain⟨rfl,hk5,hw⟩:=hr;show L _ _ _ _ _ _ _
   simp only[C6]
   refine A7 ?_;refine A9 (i:=1) ?_
   intro w hw;have hw:Wd Γ (B3 bp a n c k5 e.Line e.Col::.blk b3 (.cells (cG ⟨⟨4,C5,[],0,l,D3,0,lo,hi'⟩,none,0,0⟩).toArray 77)::.blk b2 (.cells (cG ⟨⟨0,C5,[],0,D3,D3,0,0,0⟩,none,0,0⟩).toArray 77)::S) w:=hw
   refine A7 ?_;refine A9 (i:=2) ?_
   intro w hw;have hw:Wd Γ (B3 bp a n c k5 e.Line e.Col::.blk b3 (.cells (cG ⟨⟨4,C5,[],0,l,D3,0,lo,hi'⟩,none,0,0⟩).toArray 77)::.blk b2 (.cells (cG ⟨⟨4,C5,[],0,l,D3,0,lo,hi'⟩,none,0,0⟩).toArray 77)::S) w:=hw
   refine A7 ?_;exact⟨[.agg (cG ⟨⟨4,C5,[],0,l,D3,0,lo,hi'⟩,none,0,0⟩).toArray],⟨J2 (i:=2) hw rfl rfl rfl,trivial⟩,(none,0,0),rfl,hk5,Wd.addNil ((hw.dropAt 1).dropAt 1)⟩
  ·have h:(decide (kk=1)&&M4 toks k1 1 EW)=false:=h
   have hni:¬(kk=1∧M4 toks k1 1 EW=true):=fun⟨h1,h2⟩=>by rw[decide_eq_true h1,h2]at h;cases h
   rw[if_neg hni]at hw ⊢
   clear h hni;unfold GI;refine A7 ?_;refine B9 (vs:=[]) ?_
   refine(CI hw).mono ?_
   clear hw;rintro r w ⟨q,rfl,hw⟩
   refine⟨_,rfl,?_⟩;refine A7 ?_;refine C1 (fun μ ρ w=>∃(j:Nat),μ+j=7∧Has ρ [(0,.pointer (some ⟨bp,0,none⟩)),(2,.pointer (some ⟨b2,0,none⟩)),(3,.pointer (some ⟨b3,0,none⟩)),(71,.slice (some q) 7 7),(72,.int .i64 7),(73,.int .i64 j)]∧Wd Γ (.own (.slice (some q) 7 7) 9 1 (Q4.map fun s=>[.string s])::B3 bp a n c (if p7 toks k1 j≠0 then k1+1 else k1) e.Line e.Col::.blk b3 (.cells (cG ⟨⟨3,C5,[],(p7 toks k1 j:Nat),l,D3,0,0,0⟩,none,0,0⟩).toArray 77)::.blk b2 (.cells (cG ⟨⟨0,C5,[],0,D3,D3,0,0,0⟩,none,0,0⟩).toArray 77)::S) w) 7 ⟨0,by omega,⟨rfl,rfl,rfl,rfl,rfl,rfl,trivial⟩,hw⟩ ?_
   clear hw;rintro μ ρ w ⟨j,hj,hρ,hw⟩
   rw[hρ.eq];clear hρ;have hd:=R8.own (i:=0) hw rfl
   refine A7 ?_;refine A0 rfl (fun h=>?_) (fun h=>?_)
   ·have hj7:j<7:=by have:=of_decide_eq_true h;omega
    clear h;obtain⟨s,hs⟩:=B8 (l:=Q4) (k:=j) (by show j<7;omega)
    have hsd:Q4.getD j C5=s:=by rw[List.getD_eq_getElem?_getD,hs];rfl
    have hup:p7 toks k1 (j+1)=if p7 toks k1 j≠0 then p7 toks k1 j else if 0<j∧M4 toks k1 4 s=true then j else 0:=by rw[←hsd];rfl
    generalize p7 toks k1 j=u at *
    refine A7 ?_;by_cases hc:0<j∧u=0
    ·have hkc:(decide ((0:Int)<(j:Int))&&decide ((u:Int)=0))=true:=by rw[decide_eq_true (by omega),decide_eq_true (by omega)];rfl
     obtain⟨hj0,rfl⟩:=hc;have hw:Wd Γ (.own (.slice (some q) 7 7) 9 1 (Q4.map fun s=>[.string s])::B3 bp a n c k1 e.Line e.Col::.blk b3 (.cells (cG ⟨⟨3,C5,[],((0:Nat):Int),l,D3,0,0,0⟩,none,0,0⟩).toArray 77)::.blk b2 (.cells (cG ⟨⟨0,C5,[],0,D3,D3,0,0,0⟩,none,0,0⟩).toArray 77)::S) w:=hw
     have hw:=hw.ps [1]
     refine Nv (hct:=hkc) ?_
     refine B9 (vs:=[.pointer (some ⟨bp,0,none⟩),.int .i64 4,.string s]) ?_ (ha:=EvL.cons (CB hkc) (EvL.cons rfl (EvL.cons (CB hkc) EvL.nil)))
     refine(M7 (S:=.own (.slice (some q) 7 7) 9 1 (Q4.map fun s=>[.string s])::.blk b3 (.cells (cG ⟨⟨3,C5,[],((0:Nat):Int),l,D3,0,0,0⟩,none,0,0⟩).toArray 77)::.blk b2 (.cells (cG ⟨⟨0,C5,[],0,D3,D3,0,0,0⟩,none,0,0⟩).toArray 77)::S) 4 s hk1 hN ht hw).mono ?_
     clear hw;rintro r w ⟨rfl,hw⟩
     refine⟨_,rfl,?_⟩;rw[if_neg (by omega)]at hup
     cases hbi:M4 toks k1 4 s with
     | true=>
      rw[hbi,if_pos rfl]at hw;rw[if_pos ⟨hj0,hbi⟩]at hup;refine lY (v:=.bool true) ?_ (hy:=AY (congrArg Value.bool hkc) rfl)
      refine A7 ?_;refine A0 rfl (fun _=>?_) (fun h=>by cases h)
      refine A7 ?_;refine A9 (i:=2) ?_
      intro w hw;have hw:Wd Γ (B3 bp a n c (k1+1) e.Line e.Col::.own (.slice (some q) 7 7) 9 1 (Q4.map fun s=>[.string s])::.blk b3 (.cells (cG ⟨⟨3,C5,[],(j:Int),l,D3,0,0,0⟩,none,0,0⟩).toArray 77)::.blk b2 (.cells (cG ⟨⟨0,C5,[],0,D3,D3,0,0,0⟩,none,0,0⟩).toArray 77)::S) w:=hw
      refine A7 ?_;exact⟨μ-1,by omega,j+1,by omega,⟨rfl,rfl,rfl,rfl,rfl,rfl,trivial⟩,by rw[hup,if_pos (by omega)];exact hw.ps [1]⟩
     | false=>
      rw[hbi,if_neg (by decide)]at hw
      rw[if_neg (fun h=>by rw[hbi]at h;cases h.2)]at hup
      refine lY (v:=.bool false) ?_ (hy:=AY (congrArg Value.bool hkc) rfl)
      refine A7 ?_;refine A0 rfl (fun h=>by cases h) (fun _=>?_)
      refine A7 ?_;exact⟨μ-1,by omega,j+1,by omega,⟨rfl,rfl,rfl,rfl,rfl,rfl,trivial⟩,by rw[hup,if_neg (by omega)];exact hw.ps [1]⟩
    ·have hkc:(decide ((0:Int)<(j:Int))&&decide ((u:Int)=0))=false:=by
      by_cases h1:0<j
      ·rw[decide_eq_false (show ¬((u:Int)=0) from fun h=>hc ⟨h1,by omega⟩),Bool.and_false]
      ·rw[decide_eq_false (show ¬((0:Int)<(j:Int)) by omega),Bool.false_and]
     have hup2:p7 toks k1 (j+1)=u:=by
      rw[hup];by_cases hu:u≠0
      ·rw[if_pos hu]
      ·rw[if_neg hu,if_neg (fun h=>hc ⟨h.1,by omega⟩)];omega
     refine Py (hct:=hkc) ?_
     refine lY (v:=.bool false) ?_ (hy:=w7 (congrArg Value.bool hkc) rfl)
     refine A7 ?_;refine A0 rfl (fun h=>by cases h) (fun _=>?_)
     refine A7 ?_;exact⟨μ-1,by omega,j+1,by omega,⟨rfl,rfl,rfl,rfl,rfl,rfl,trivial⟩,by rw[hup2];exact hw⟩
   ·have hj7:j=7:=by have:=of_decide_eq_false h;omega
    clear h hd;subst hj7;rw[FR]at hw;have hol:=RA (toks:=toks) (k:=k1)
    generalize opAt toks k1=u at *
    have hw:=hw.drop
    refine A7 ?_;refine A0 rfl (fun h=>?_) (fun h=>?_)
    ·have h:u=0:=by
      have h2:(u:Int)=0:=of_decide_eq_true h
      omega
     subst h;rw[if_pos rfl];have hw:Wd Γ (B3 bp a n c k1 e.Line e.Col::.blk b3 (.cells (cG ⟨⟨3,C5,[],((0:Nat):Int),l,D3,0,0,0⟩,none,0,0⟩).toArray 77)::.blk b2 (.cells (cG ⟨⟨0,C5,[],0,D3,D3,0,0,0⟩,none,0,0⟩).toArray 77)::S) w:=hw
     refine A7 ?_;refine I0 ?_
     refine(BO 50 ht hw).mono ?_
     rintro r w ⟨rfl,hw⟩
     exact⟨rfl,k1,(hw.dropAt 1).dropAt 1⟩
    have hu:u≠0:=by
     have h2:¬(u:Int)=0:=of_decide_eq_false h
     omega
    clear h;rw[if_pos hu]at hw;rw[if_neg hu];have hk2:k1+1≤n:=by have:=hol hu;omega
    have hw:Wd Γ (B3 bp a n c (k1+1) e.Line e.Col::.blk b3 (.cells (cG ⟨⟨3,C5,[],(u:Int),l,D3,0,0,0⟩,none,0,0⟩).toArray 77)::.blk b2 (.cells (cG ⟨⟨0,C5,[],0,D3,D3,0,0,0⟩,none,0,0⟩).toArray 77)::S) w:=hw
    refine A7 ?_;refine I0 (vs:=[.pointer (some ⟨bp,0,none⟩)]) ?_
    refine(AP hW hk2 hN ht hw).mono ?_
    clear hw;rintro r w hr
    cases hR:AV toks e (k1+1) with
    | error q=>
     obtain⟨p,er⟩:=q;rw[hR]at hr;obtain⟨rfl,k,hw⟩:=hr;exact⟨rfl,k,(hw.dropAt 1).dropAt 1⟩
    | ok q=>
    obtain⟨rr,k3⟩:=q;rw[hR]at hr;obtain⟨rfl,hk3,hw⟩:=hr;show L _ _ _ _ _ _ _
    simp only[C6]
    refine A7 ?_;refine A9 (i:=1) ?_
    intro w hw;have hw:Wd Γ (B3 bp a n c k3 e.Line e.Col::.blk b3 (.cells (cG ⟨⟨3,C5,[],(u:Int),l,rr,0,0,0⟩,none,0,0⟩).toArray 77)::.blk b2 (.cells (cG ⟨⟨0,C5,[],0,D3,D3,0,0,0⟩,none,0,0⟩).toArray 77)::S) w:=hw
    unfold Dl;refine A7 ?_;refine B9 (vs:=[.pointer (some ⟨bp,0,none⟩),.int .i64 4,.string j9]) ?_
    refine(M7 4 j9 hk3 hN ht hw).mono ?_
    clear hw;rintro r w ⟨rfl,hw⟩
    refine⟨_,rfl,?_⟩;cases hp:M4 toks k3 4 j9 with
    | true=>
     have hlt:=s9 (by decide) hp
     rw[hp,if_pos rfl]at hw;rw[if_pos rfl];refine A7 ?_;refine A0 rfl (fun _=>?_) (fun h=>by cases h)
     refine A7 ?_;refine I0 (vs:=[.pointer (some ⟨bp,0,none⟩),.int .u64 9223372036854775807]) ?_
     refine(FB (at':=k3+1) 9223372036854775807 (by omega) hN ht hw).mono ?_
     clear hw;rintro r w hr
     cases hN2:d4 toks e 9223372036854775807 (k3+1) with
     | error q=>
      obtain⟨p,er⟩:=q;rw[hN2]at hr;obtain⟨rfl,k,hw⟩:=hr;exact⟨rfl,k,(hw.dropAt 1).dropAt 1⟩
     | ok q=>
     obtain⟨x,k4⟩:=q;rw[hN2]at hr;obtain⟨rfl,hk4,hw⟩:=hr;show L _ _ _ _ _ _ _
     simp only[Ek]
     refine A7 ?_;refine A9 (i:=1) ?_
     intro w hw;have hw:Wd Γ (B3 bp a n c k4 e.Line e.Col::.blk b3 (.cells (cG ⟨⟨3,C5,[],(u:Int),l,rr,(IntKind.i64.wrap x),0,0⟩,none,0,0⟩).toArray 77)::.blk b2 (.cells (cG ⟨⟨0,C5,[],0,D3,D3,0,0,0⟩,none,0,0⟩).toArray 77)::S) w:=hw
     refine A7 ?_;refine A9 (i:=2) ?_
     intro w hw;have hw:Wd Γ (B3 bp a n c k4 e.Line e.Col::.blk b3 (.cells (cG ⟨⟨3,C5,[],(u:Int),l,rr,(IntKind.i64.wrap x),0,0⟩,none,0,0⟩).toArray 77)::.blk b2 (.cells (cG ⟨⟨3,C5,[],(u:Int),l,rr,(IntKind.i64.wrap x),0,0⟩,none,0,0⟩).toArray 77)::S) w:=hw
     refine A7 ?_;exact⟨[.agg (cG ⟨⟨3,C5,[],(u:Int),l,rr,(IntKind.i64.wrap x),0,0⟩,none,0,0⟩).toArray],⟨J2 (i:=2) hw rfl rfl rfl,trivial⟩,(none,0,0),rfl,hk4,Wd.addNil ((hw.dropAt 1).dropAt 1)⟩
    | false=>
     rw[hp,if_neg (by decide)]at hw
     rw[if_neg (by decide)]
     refine A7 ?_;refine A0 rfl (fun h=>by cases h) (fun _=>?_)
     refine A7 ?_;refine B9 (vs:=[.pointer (some ⟨bp,0,none⟩),.int .i64 4,.string BH]) ?_
     refine(M7 4 BH hk3 hN ht hw).mono ?_
     clear hw;rintro r w ⟨rfl,hw⟩
     refine⟨_,rfl,?_⟩;cases hm:M4 toks k3 4 BH with
     | true=>
      have hlt:=s9 (by decide) hm
      rw[hm,if_pos rfl]at hw;rw[if_pos rfl];refine A7 ?_;refine A0 rfl (fun _=>?_) (fun h=>by cases h)
      refine A7 ?_;refine I0 (vs:=[.pointer (some ⟨bp,0,none⟩),.int .u64 9223372036854775807]) ?_
      refine(FB (at':=k3+1) 9223372036854775807 (by omega) hN ht hw).mono ?_
      clear hw;rintro r w hr
      cases hN2:d4 toks e 9223372036854775807 (k3+1) with
      | error q=>
       obtain⟨p,er⟩:=q;rw[hN2]at hr;obtain⟨rfl,k,hw⟩:=hr;exact⟨rfl,k,(hw.dropAt 1).dropAt 1⟩
      | ok q=>
      obtain⟨x,k4⟩:=q;rw[hN2]at hr;obtain⟨rfl,hk4,hw⟩:=hr;show L _ _ _ _ _ _ _
      simp only[Ek]
      refine A7 ?_;refine lY (v:=.int .i64 (IntKind.i64.wrap (-(IntKind.i64.wrap x)))) ?_ (hy:=LK rfl)
      refine A7 ?_;refine A9 (i:=1) ?_
      intro w hw;have hw:Wd Γ (B3 bp a n c k4 e.Line e.Col::.blk b3 (.cells (cG ⟨⟨3,C5,[],(u:Int),l,rr,(IntKind.i64.wrap (-(IntKind.i64.wrap x))),0,0⟩,none,0,0⟩).toArray 77)::.blk b2 (.cells (cG ⟨⟨0,C5,[],0,D3,D3,0,0,0⟩,none,0,0⟩).toArray 77)::S) w:=hw
      refine A7 ?_;refine A9 (i:=2) ?_
      intro w hw;have hw:Wd Γ (B3 bp a n c k4 e.Line e.Col::.blk b3 (.cells (cG ⟨⟨3,C5,[],(u:Int),l,rr,(IntKind.i64.wrap (-(IntKind.i64.wrap x))),0,0⟩,none,0,0⟩).toArray 77)::.blk b2 (.cells (cG ⟨⟨3,C5,[],(u:Int),l,rr,(IntKind.i64.wrap (-(IntKind.i64.wrap x))),0,0⟩,none,0,0⟩).toArray 77)::S) w:=hw
      refine A7 ?_;exact⟨[.agg (cG ⟨⟨3,C5,[],(u:Int),l,rr,(IntKind.i64.wrap (-(IntKind.i64.wrap x))),0,0⟩,none,0,0⟩).toArray],⟨J2 (i:=2) hw rfl rfl rfl,trivial⟩,(none,0,0),rfl,hk4,Wd.addNil ((hw.dropAt 1).dropAt 1)⟩
     | false=>
      rw[hm,if_neg (by decide)]at hw
      rw[if_neg (by decide)]
      refine A7 ?_;refine A0 rfl (fun h=>by cases h) (fun _=>?_)
      refine A7 ?_;refine A9 (i:=2) ?_
      intro w hw;have hw:Wd Γ (B3 bp a n c k3 e.Line e.Col::.blk b3 (.cells (cG ⟨⟨3,C5,[],(u:Int),l,rr,0,0,0⟩,none,0,0⟩).toArray 77)::.blk b2 (.cells (cG ⟨⟨3,C5,[],(u:Int),l,rr,0,0,0⟩,none,0,0⟩).toArray 77)::S) w:=hw
      refine A7 ?_;exact⟨[.agg (cG ⟨⟨3,C5,[],(u:Int),l,rr,0,0,0⟩,none,0,0⟩).toArray],⟨J2 (i:=2) hw rfl rfl rfl,trivial⟩,(none,0,0),rfl,hk3,Wd.addNil ((hw.dropAt 1).dropAt 1)⟩
end
end Go.Proofs.YtlmiakjbogojgaaGreatDoor
end
