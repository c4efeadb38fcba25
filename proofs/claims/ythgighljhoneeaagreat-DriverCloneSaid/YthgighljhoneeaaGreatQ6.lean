/- Texts of this proof, one behind another. -/
import Derived.Test.YthgighljhoneeaaGreatQ5
import Derived.Test.YthgighljhoneeaaGreatQ4
import Derived.Test.YthgighljhoneeaaGreatQ2
import Derived.Test.YthgighljhoneeaaGreatQ3
set_option linter.unusedVariables false
set_option linter.unusedSimpArgs false
section
open Go Mk
namespace Go.Proofs.YthgighljhoneeaaGreat
set_option maxHeartbeats 64000000
attribute [local irreducible] Calls
theorem mem_at{x:List Int}{v:Int}(h:v∈x):∃i,i<x.length∧atI x i=v:=by
 obtain⟨i,hi,rfl⟩:=List.mem_iff_getElem.1 h
 exact⟨i,hi,by unfold atI;rw[List.getD_eq_getElem?_getD,List.getElem?_eq_getElem hi];rfl⟩
theorem phi_rng{n cap:Nat}{a:Nat→Int→Int}{x:List Int}{π:Int→Int}(hp:Pot n cap a x π)(u:Nat):-100000000000≤phiN n π u∧phiN n π u≤0:=by
 unfold phiN;split
 ·rename_i h;exact⟨hp.lo u h,hp.neg u h⟩
 ·omega
structure CB(n:Nat)(W:Nat→Nat→Int)(a:Nat→Int→Int)(d u:Nat)(F:Nat→Nat→Int)(best core:Int)(R:Nat→Int):Prop where
 got:∀k,k<u→∃R,PathsOk n W k (F k) R
 low:∀k,k<u→F k n<farV→best≤F k n+a d k
 bst:(core = -1∧best=farV)∨∃c:Nat,c<u∧core=c∧PathsOk n W c (F c) R∧best=F c n+a d c
def setF(F:Nat→Nat→Int)(u:Nat)(D:Nat→Int):Nat→Nat→Int:=fun k=>if k=u then D else F k
section
variable {n d u:Nat}{W:Nat→Nat→Int}{a:Nat→Int→Int}{F:Nat→Nat→Int}{best core:Int}{D R R':Nat→Int}
theorem CB.start:CB n W a d 0 F farV (-1) R:=⟨fun k h=>by omega,fun k h=>by omega,.inl ⟨rfl,rfl⟩⟩
theorem CB.take(h:CB n W a d u F best core R)(hP:PathsOk n W u D R')(h2:D n+a d u<best):CB n W a d (u+1) (setF F u D) (D n+a d u) u R':=by
 have e1:setF F u D u=D:=by unfold setF;rw[if_pos rfl]
 have e2:∀k,k<u→setF F u D k=F k:=fun k hk=>by unfold setF;rw[if_neg (by omega)]
 refine⟨fun k hk=>?_,fun k hk hf=>?_,.inr ⟨u,by omega,rfl,by rw[e1];exact hP,by rw[e1]⟩⟩
 ·by_cases e:k=u
  ·subst e;rw[e1];exact⟨_,hP⟩
  ·rw[e2 k (by omega)];exact h.got k (by omega)
 ·by_cases e:k=u
  ·subst e;rw[e1];omega
  ·rw[e2 k (by omega)]at hf ⊢
   have:=h.low k (by omega) hf
   omega
theorem CB.skip(h:CB n W a d u F best core R)(hP:PathsOk n W u D R')(h2:¬(D n<farV∧D n+a d u<best)):CB n W a d (u+1) (setF F u D) best core R:=by
 have e1:setF F u D u=D:=by unfold setF;rw[if_pos rfl]
 have e2:∀k,k<u→setF F u D k=F k:=fun k hk=>by unfold setF;rw[if_neg (by omega)]
 refine⟨fun k hk=>?_,fun k hk hf=>?_,?_⟩
 ·by_cases e:k=u
  ·subst e;rw[e1];exact⟨_,hP⟩
  ·rw[e2 k (by omega)];exact h.got k (by omega)
 ·by_cases e:k=u
  ·subst e;rw[e1]at hf ⊢;omega
  ·rw[e2 k (by omega)]at hf ⊢;exact h.low k (by omega) hf
 ·rcases h.bst with hh|⟨c,h3,h4,h5,h6⟩
  ·exact .inl hh
  ·exact .inr ⟨c,by omega,h4,by rw[e2 c h3];exact h5,by rw[e2 c h3];exact h6⟩
end
set_option maxRecDepth 8000 in
theorem complete_core{Γ:Gho}{bA n cap:Nat}{A:List (List Int)}{va xa la:Option Addr}{vn vc xc lc:Nat}(hB:ImB Γ bA #[.slice va vn vc,.int .i64 cap,.slice xa A.length xc,.slice la n lc] 104)(hM:MatF Γ (.slice va vn vc) A)
  (hn:n≤64) (hcap:0<cap) (hC:CostM n A) (hl:A.length≤1000) (hroom:A.length≤n*cap) {S:List Res} {w:World}
  (hw:Wd Γ (.own (.slice la n lc) 3 1 (intRows (rowN n fun _=>0))::.own (.slice xa A.length xc) 3 1 (intRows (List.replicate A.length (-1)))::S) w) :
  Calls Tryz.prog 51 #[.pointer (some ⟨bA,0,none⟩)] w fun e w'=>∃(Γ':Gho) (x:List Int) (π:Int→Int),Γ.le Γ'∧e=.returned (.tuple #[])∧x.length=A.length∧Pot n cap (aF A) x π∧(∀i,i<A.length→0≤atI x i) ∧
   Wd Γ' (.own (.slice la n lc) 3 1 (intRows (rowN n fun u=>(x.count (u:Int):Nat)))::.own (.slice xa A.length xc) 3 1 (intRows x)::S) w':=by
 have hA:∀i z:Nat,i<A.length→z<n→0≤aF A i z∧aF A i z≤1000000000:=fun i z hi hz=>by
  obtain⟨r,-,-,h⟩:=hC.get hi
  exact(h z hz).2
 have hw:Wd Γ (.own (.slice la n lc) 3 1 (intRows (rowN n fun u=>((List.replicate A.length (-1:Int)).count (u:Int):Nat)))::.own (.slice xa A.length xc) 3 1 (intRows (List.replicate A.length (-1)))::S) w:=by
  have:rowN n (fun u=>(((List.replicate A.length (-1:Int)).count (u:Int):Nat):Int))=rowN n fun _=>0:=rowN_congr fun u _=>by
   rw[List.count_replicate,if_neg (by simp)]
   try rfl
  rw[this];exact hw
 refine calls_of_WC Tryz.func51 rfl rfl ?_
 refine byG ?_;refine lY (v:=.slice la n lc) ?_ (hy:=y_l1m hw rfl rfl)
 refine byG ?_;refine lY (v:=.slice xa A.length xc) ?_ (hy:=y_l1m hw rfl rfl)
 refine byG ?_;refine W_loop (fun μ ρ w=>∃(d:Nat) (Γ':Gho) (x:List Int) (π:Int→Int),μ+d=A.length∧Γ.le Γ'∧x.length=A.length∧Pot n cap (aF A) x π∧(∀i,i<d→0≤atI x i)∧(∀i,d≤i→atI x i = -1)∧Has ρ [(0,.pointer (some ⟨bA,0,none⟩)),(2,.int .i64 n),(20,.int .i64 A.length),(21,.int .i64 d)]∧Wd Γ' (.own (.slice la n lc) 3 1 (intRows (rowN n fun u=>(x.count (u:Int):Nat)))::.own (.slice xa A.length xc) 3 1 (intRows x)::S) w) A.length
  ⟨0,Γ,List.replicate A.length (-1),fun _=>0,by omega,Gho.le.refl _,by simp,Pot.start,fun i h=>by omega,fun i _=>by unfold atI;rw[List.getD_eq_getElem?_getD,List.getElem?_replicate];split <;> rfl,⟨rfl,rfl,rfl,rfl,trivial⟩,hw⟩ ?_
 clear hw;rintro μ ρ w ⟨d,Γ1,x,π,hμ,hle1,hxl,hp,hpre,hpost,hρ,hw⟩
 rw[hρ.eq];clear hρ;have hB1:=hB.mono hle1
 have hM1:=hM.mono hle1
 refine byG ?_;refine W_cond rfl (fun h=>?_) (fun h=>?_)
 ·have hdl:d<A.length:=by have:=of_decide_eq_true h;omega
  clear h;refine byG ?_;refine lCall ?_;refine(graph_any (first:=0) hB1 hM1 hn hC hxl.symm (fun v hv=>by obtain⟨i,hi,rfl⟩:=mem_at hv;exact hp.rng i hi) (by omega) (by omega) hw).mono fun e w hq=>?_
  obtain⟨Γ2,da,ca,dc,cc,W,V,hle2,rfl,hG,hMV,hMW,hw⟩:=hq;refine⟨_,rfl,?_⟩;have hB2:=hB1.mono hle2
  have hM2:=hM1.mono hle2
  have hG:=hG.done
  have hφ:=hp.graph hG
  have hrng:=phi_rng hp
  clear hB1 hM1;obtain⟨r,hr,hrl,hrc⟩:=hC.get hdl
  obtain⟨ra,rn,rc,hs',hrn,rr,rh,hru⟩:=hM2.at hr
  have hrn:n=rn:=by omega
  subst hrn;have hvn:=hM.row.1
  refine lAlloc ?_;intro b4 w hw;refine lStore ?_;intro w hw;have hw:Wd Γ2 (.blk b4 (.cells #[.slice da (n+1) dc,.slice ca (n+1) cc] 145)::.own (.slice la n lc) 3 1 (intRows (rowN n fun u=>(x.count (u:Int):Nat)))::.own (.slice xa A.length xc) 3 1 (intRows x)::S) w:=hw
  refine byG ?_;refine lY (v:=.slice la n lc) ?_ (hy:=y_l1m hw rfl rfl)
  refine byG ?_;refine W_loop (fun μ2 ρ w=>∃(u:Nat) (Γ3:Gho) (F:Nat→Nat→Int) (best core:Int) (prev:Value) (R:Nat→Int),μ2+u=n∧Γ2.le Γ3∧CB n W (aF A) d u F best core R∧(core≠-1→RepS Γ3 prev 1 (intRows (rowN (n+1) R)))∧best≤farV ∧
   Has ρ [(0,.pointer (some ⟨bA,0,none⟩)),(2,.int .i64 n),(20,.int .i64 A.length),(21,.int .i64 d),(3,.int .i64 d),(4,.pointer (some ⟨b4,0,none⟩)),(5,.int .i64 best),(6,.int .i64 core),(7,prev),(30,.int .i64 n),(31,.int .i64 u)]∧Wd Γ3 (.blk b4 (.cells #[.slice da (n+1) dc,.slice ca (n+1) cc] 145)::.own (.slice la n lc) 3 1 (intRows (rowN n fun u=>(x.count (u:Int):Nat)))::.own (.slice xa A.length xc) 3 1 (intRows x)::S) w) n ⟨0,Γ2,fun _ _=>0,farV,-1,.slice none 0 0,fun _=>0,by omega,Gho.le.refl _,CB.start,fun h=>absurd rfl h,Int.le_refl _,⟨rfl,rfl,rfl,rfl,rfl,rfl,rfl,rfl,rfl,rfl,rfl,trivial⟩,hw⟩ ?_
  clear hw;rintro μ2 ρ w ⟨u,Γ3,F,best,core,prev,R,hμ2,hle3,hCB,hprev,hbf,hρ,hw⟩
  rw[hρ.eq];clear hρ;have hB3:=hB2.mono hle3
  refine byG ?_;refine W_cond rfl (fun h=>?_) (fun h=>?_)
  ·have hun:u<n:=by have:=of_decide_eq_true h;omega
   clear h;refine byG ?_;refine lCall ?_;refine(paths_core (s:=u) (hMW.mono hle3) hn (by omega) hφ (fun v _=>by have h1:=hrng v;have h2:=hrng u;omega) hw).mono fun e w hq=>?_
   obtain⟨a4,a5,D,R',rfl,hP,hlow,hw⟩:=hq;refine⟨_,rfl,?_⟩;obtain⟨Γ4,h4,rR,hw4⟩:=hw.freeze;obtain⟨Γ5,h5,rD,hw5⟩:=hw4.freeze;clear hw hw4;have hw:=hw5
   clear hw5;have rR:=rR.mono h5
   have hle5:Γ2.le Γ5:=hle3.trans (h4.trans h5)
   have hB5:=hB2.mono hle5
   have rr5:=rr.mono hle5
   have rh5:=rh.mono hle5
   have hDn:(intRows (rowN (n+1) D))[n]? = some [.int .i64 (D n)]:=rowI_get (by omega)
   have f1:D n<1152921504606846976→-100000000000≤D n:=fun h=>by
    have h1:=hlow n (Nat.le_refl _) h
    have h2:=hrng n
    have h3:=hrng u
    omega
   obtain⟨hcg,hc1,hc2⟩:=hrc u hun
   obtain⟨p,hpe⟩:∃p,p=aF A d u:=⟨_,rfl⟩
   rw[←hpe]at hcg hc1 hc2
   have hcg:=intsI_get hcg
   clear hB3;refine byG ?_;refine W_quiet (by kernel_rfl) (by kernel_rfl) hw ?_
   refine byQ ?_;refine qY (v:=.int .i64 (D n)) ?_ (hy:=fun w hw=>y_loadE1 rfl (rD.rd hw) hDn)
   refine byQ ?_;refine qG (v:=.pointer (some ⟨aB (some a4),aO (some a4)+n*1,none⟩)) ?_ (hy:=fun hg w hw=>y_idxI (i:=(n:Int)) hw rD (gvT hg rfl) (gvT hg rfl) (by omega) (by omega))
   refine byQ ?_;refine qG (v:=.int .i64 (D n)) ?_ (hy:=fun hg w hw=>y_loadE1 (gvT hg rfl) (rD.rd hw) hDn)
   refine byQ ?_;refine qG (v:=.slice va vn vc) ?_ (hy:=fun hg w hw=>y_l1m hw (gvT hg rfl) rfl)
   refine byQ ?_;refine qG (v:=.slice ra n rc) ?_ (hy:=fun hg w hw=>y_loadE1 (gvT hg rfl) (rh5.rd hw) hru)
   refine byQ ?_;refine qG (v:=.pointer (some ⟨aB ra,aO ra+u*1,none⟩)) ?_ (hy:=fun hg w hw=>y_idxI (i:=(u:Int)) hw rr5 (gvT hg rfl) (gvT hg rfl) (by omega) (by omega))
   refine byQ ?_;intro w hw;refine byG ?_;refine W_cond rfl (fun h=>?_) (fun h=>?_)
   ·simp only[Bool.and_eq_true,decide_eq_true_eq]at h
    have hlt:=h.2
    have f3:=f1 h.1
    have f4:=h.1
    clear h;refine W_quiet (by kernel_rfl) (by kernel_rfl) hw ?_
    refine byQ ?_;refine qY (v:=.int .i64 (D n)) ?_ (hy:=fun w hw=>y_loadE1 rfl (rD.rd hw) hDn)
    refine byQ ?_;refine qY (v:=.slice va vn vc) ?_ (hy:=fun w hw=>y_l1m hw rfl rfl)
    refine byQ ?_;refine qY (v:=.slice ra n rc) ?_ (hy:=fun w hw=>y_loadE1 rfl (rh5.rd hw) hru)
    refine byQ ?_;intro w hw;refine byG ?_;exact⟨n-u-1,by omega,u+1,Γ5,setF F u D,D n+p,u,.slice (some a5) (n+1) (n+1),R',by omega,hle5,by rw[hpe]at hlt ⊢;exact hCB.take hP hlt,fun _=>rR,by omega,⟨rfl,rfl,rfl,rfl,rfl,rfl,rfl,rfl,rfl,rfl,rfl,trivial⟩,hw⟩
   ·have hsk:¬(D n<farV∧D n+aF A d u<best):=by
     simp only[Bool.and_eq_false_iff,decide_eq_false_iff_not]at h
     rw[←hpe];unfold farV;omega
    clear h;refine byG ?_;exact⟨n-u-1,by omega,u+1,Γ5,setF F u D,best,core,prev,R,by omega,hle5,hCB.skip hP hsk,fun h=>(hprev h).mono (h4.trans h5),hbf,⟨rfl,rfl,rfl,rfl,rfl,rfl,rfl,rfl,rfl,rfl,rfl,trivial⟩,hw⟩
  ·have hun:n=u:=by have:=of_decide_eq_false h;omega
   clear h;subst hun;have hW0:=hG.out
   obtain⟨v,hv,hvr⟩:=has_room (cap:=cap) (n:=n) (x:=x) hpost (Nat.lt_of_lt_of_le hdl hroom)
   obtain⟨Rv,hPv⟩:=hCB.got v hv
   have hFv:F v n≤0:=by
    have h1:=hW0 v hv hvr
    have h2:=hPv.tri v n (by omega) (Nat.le_refl _) (by rw[hPv.src];unfold farV;omega) (by unfold farV;omega)
    rw[hPv.src]at h2;omega
   have hbv:=hCB.low v hv (by unfold farV;omega)
   have hav:=hA d v hdl hv
   rcases hCB.bst with⟨-,hbb⟩|⟨c,hcn,rfl,hPc,hbc⟩
   ·exfalso
    rw[hbb]at hbv;unfold farV at hbv;omega
   obtain⟨l0,hbk,⟨π',hp'⟩,hl',hpo',hpr'⟩:=place_next hn hcap (fun i z hi hz=>hA i z (by omega) hz) hp hG (by omega) hpre hpost (Nat.lt_of_lt_of_le hdl hroom) hCB.got hcn hPc (fun k hk hf=>by rw[←hbc];exact hCB.low k hk hf)
   have hpv:=hprev (by omega)
   obtain⟨pa,pn,pc,rfl,hpn,-,-⟩:=hpv.shape;simp only[intRows,List.length_map,rowN_len]at hpn
   subst hpn;refine byG ?_;refine lCall ?_;refine(put_core (x:=x) (d:=d) (s:=c) (v0:=n) hB3 (hMV.mono hle3) hpv (fun u v h1 h2 h3=>by
    rcases hG.real u v h1 h2 h3 with h|h|⟨-,-,-,k,-,h5,h6,-⟩
    ·exact .inl (by omega)
    ·exact .inl (by omega)
    ·exact .inr (by omega)) hbk (Nat.le_refl _) (by omega) (by omega) (fun z hz=>by obtain⟨i,hi,rfl⟩:=mem_at hz;exact(hp'.rng i hi).2) (by omega) hn hxl.symm (hw.ds [0])).mono fun e w hq=>?_
   obtain⟨rfl,hw⟩:=hq;refine⟨_,rfl,?_⟩;refine byG ?_;exact⟨A.length-d-1,by omega,d+1,Γ3,(moveL V l0 x).set d c,π',by omega,hle1.trans (hle2.trans hle3),by omega,hp',fun i hi=>hpr' i (by omega),fun i hi=>hpo' i (by omega),⟨rfl,rfl,rfl,rfl,trivial⟩,hw⟩
 ·have hdl:d=A.length:=by have:=of_decide_eq_false h;omega
  clear h;subst hdl;refine byG ?_;exact⟨[],trivial,Γ1,x,π,hle1,rfl,hxl,hp,hpre,hw⟩
def NoB(n cap:Nat)(a:Nat→Int→Int)(x:List Int)(d b:Nat):Prop:=∀y,Full n cap y→y.length=x.length→costA a y=costA a x→(∀i,i<d→atI y i=atI x i)→∀k:Nat,k<b→atI y d≠k
theorem lex_keep{n cap d old:Nat}{a:Nat→Int→Int}{x:List Int}(h:LexD n cap a x d)(hb:NoB n cap a x d old)(hd:d<x.length)(ho:atI x d=(old:Int)):LexD n cap a x (d+1):=fun y hy hl hc e he hpre=>by
 by_cases e1:e=d
 ·subst e1;have h1:=hb y hy hl hc hpre
  have h2:=hy.rng _ (atI_mem (x:=y) (i:=e) (by omega))
  rw[ho];have h3:=h1 (atI y e).toNat
  omega
 ·exact h y hy hl hc e (by omega) hpre
theorem lex_move{n cap d b:Nat}{a:Nat→Int→Int}{x x':List Int}(h:LexD n cap a x d)(hb:NoB n cap a x d b)(hd:d<x.length)(hl:x'.length=x.length)(hpr:∀i,i<d→atI x' i=atI x i)(ho:atI x' d=(b:Int))(hc:costA a x'=costA a x):LexD n cap a x' (d+1):=fun y hy hl2 hc2 e he hpre=>by
 have hc3:costA a y=costA a x:=by omega
 by_cases e1:e=d
 ·subst e1;have h1:=hb y hy (by omega) hc3 (fun i hi=>by rw[hpre i hi,hpr i hi])
  have h2:=hy.rng _ (atI_mem (x:=y) (i:=e) (by omega))
  rw[ho];have h3:=h1 (atI y e).toNat
  omega
 ·rw[hpr e (by omega)]
  exact h y hy (by omega) hc3 e (by omega) fun i hi=>by rw[hpre i hi,hpr i (by omega)]
set_option maxRecDepth 8000 in
theorem least_core{Γ:Gho}{bA n cap:Nat}{A:List (List Int)}{x0:List Int}{π:Int→Int}{va xa la:Option Addr}{vn vc xc lc:Nat}(hB:ImB Γ bA #[.slice va vn vc,.int .i64 cap,.slice xa A.length xc,.slice la n lc] 104)(hM:MatF Γ (.slice va vn vc) A)
  (hn:n≤64) (hcap:0<cap) (hC:CostM n A) (hl:A.length≤1000) (hx0:x0.length=A.length) (hp0:Pot n cap (aF A) x0 π) (hr0:∀v∈x0,0≤v∧v<n) {S:List Res} {w:World}
  (hw:Wd Γ (.own (.slice la n lc) 3 1 (intRows (rowN n fun u=>(x0.count (u:Int):Nat)))::.own (.slice xa A.length xc) 3 1 (intRows x0)::S) w) :
  Calls Tryz.prog 52 #[.pointer (some ⟨bA,0,none⟩)] w fun e w'=>∃(Γ':Gho) (x:List Int),Γ.le Γ'∧e=.returned (.tuple #[])∧x.length=A.length∧Best n cap (aF A) x ∧
   Wd Γ' (.own (.slice la n lc) 3 1 (intRows (rowN n fun u=>(x.count (u:Int):Nat)))::.own (.slice xa A.length xc) 3 1 (intRows x)::S) w':=by
 have hA:∀i z:Nat,i<A.length→z<n→0≤aF A i z∧aF A i z≤1000000000:=fun i z hi hz=>by
  obtain⟨r,-,-,h⟩:=hC.get hi
  exact(h z hz).2
 refine calls_of_WC Tryz.func52 rfl rfl ?_
 refine W_scopeS ?_
 refine W_seq ?_
 refine W_label ?_
 refine byG ?_;refine lY (v:=.slice xa A.length xc) ?_ (hy:=y_l1m hw rfl rfl)
 refine byG ?_;refine W_loop (fun μ ρ w=>∃(d:Nat) (Γ':Gho) (x:List Int),μ+d=A.length∧Γ.le Γ'∧x.length=A.length∧Pot n cap (aF A) x π∧(∀v∈x,0≤v∧v<n)∧LexD n cap (aF A) x d∧Has ρ [(0,.pointer (some ⟨bA,0,none⟩)),(12,.int .i64 A.length),(13,.int .i64 d)]∧Wd Γ' (.own (.slice la n lc) 3 1 (intRows (rowN n fun u=>(x.count (u:Int):Nat)))::.own (.slice xa A.length xc) 3 1 (intRows x)::S) w) A.length
  ⟨0,Γ,x0,by omega,Gho.le.refl _,hx0,hp0,hr0,fun y _ _ _ e he=>by omega,⟨rfl,rfl,rfl,trivial⟩,hw⟩ ?_
 clear hw hp0 hr0 hx0 x0;rintro μ ρ w ⟨d,Γ1,x,hμ,hle1,hxl,hp,hfx,hL,hρ,hw⟩
 rw[hρ.eq];clear hρ;have hB1:=hB.mono hle1
 have hM1:=hM.mono hle1
 refine byG ?_;refine W_cond rfl (fun h=>?_) (fun h=>?_)
 ·have hdl:d<A.length:=by have:=of_decide_eq_true h;omega
  clear h;obtain⟨z,hz⟩:=get_lt (l:=x) (k:=d) (by omega)
  have hzx:=hfx z (List.mem_of_getElem? hz)
  obtain⟨old,rfl⟩:∃old:Nat,z=old:=⟨z.toNat,by omega⟩
  have hold:atI x d=(old:Int):=by unfold atI;rw[List.getD_eq_getElem?_getD,hz];rfl
  have hon:old<n:=by omega
  have hzg:=intsI_get hz
  refine byG ?_;refine lY (v:=.slice xa A.length xc) ?_ (hy:=y_l1m hw rfl rfl)
  refine byG ?_;refine lCall ?_;refine(graph_any (first:=d+1) hB1 hM1 hn hC hxl.symm (fun v hv=>by have:=hfx v hv;omega) (by omega) (by omega) hw).mono fun e w hq=>?_
  obtain⟨Γ2,da,ca,dc,cc,W,V,hle2,rfl,hG,hMV,hMW,hw⟩:=hq;refine⟨_,rfl,?_⟩;have hB2:=hB1.mono hle2
  have hM2:=hM1.mono hle2
  have hG:=hG.done
  have hφ:=hp.graph hG
  have hrng:=phi_rng hp
  clear hB1 hM1;obtain⟨r,hr,hrl,hrc⟩:=hC.get hdl
  obtain⟨ra,rn,rc,hs',hrn,rr,rh,hru⟩:=hM2.at hr
  have hrn:n=rn:=by omega
  subst hrn;have hvn:=hM.row.1
  refine lAlloc ?_;intro b4 w hw;refine lStore ?_;intro w hw;have hw:Wd Γ2 (.blk b4 (.cells #[.slice da (n+1) dc,.slice ca (n+1) cc] 145)::.own (.slice la n lc) 3 1 (intRows (rowN n fun u=>(x.count (u:Int):Nat)))::.own (.slice xa A.length xc) 3 1 (intRows x)::S) w:=hw
  refine byG ?_;refine W_loop (fun μ2 ρ w=>∃(b:Nat) (Γ3:Gho),μ2+b=old∧Γ2.le Γ3∧NoB n cap (aF A) x d b ∧
   Has ρ [(0,.pointer (some ⟨bA,0,none⟩)),(12,.int .i64 A.length),(13,.int .i64 d),(2,.int .i64 d),(3,.int .i64 old),(4,.pointer (some ⟨b4,0,none⟩)),(5,.int .i64 b)]∧Wd Γ3 (.blk b4 (.cells #[.slice da (n+1) dc,.slice ca (n+1) cc] 145)::.own (.slice la n lc) 3 1 (intRows (rowN n fun u=>(x.count (u:Int):Nat)))::.own (.slice xa A.length xc) 3 1 (intRows x)::S) w) old ⟨0,Γ2,by omega,Gho.le.refl _,fun y _ _ _ _ k hk=>by omega,⟨rfl,rfl,rfl,rfl,rfl,rfl,rfl,trivial⟩,hw⟩ ?_
  clear hw;rintro μ2 ρ w ⟨b,Γ3,hμ2,hle3,hNB,hρ,hw⟩
  rw[hρ.eq];clear hρ;have hB3:=hB2.mono hle3
  refine byG ?_;refine W_cond rfl (fun h=>?_) (fun h=>?_)
  ·have hbo:b<old:=by have:=of_decide_eq_true h;omega
   clear h;refine byG ?_;refine lCall ?_;refine(paths_core (s:=b) (hMW.mono hle3) hn (by omega) hφ (fun v _=>by have h1:=hrng v;have h2:=hrng b;omega) hw).mono fun e w hq=>?_
   obtain⟨a4,a5,D,R',rfl,hP,hlow,hw⟩:=hq;refine⟨_,rfl,?_⟩;obtain⟨Γ4,h4,rR,hw4⟩:=hw.freeze;obtain⟨Γ5,h5,rD,hw5⟩:=hw4.freeze;clear hw hw4;have hw:=hw5
   clear hw5;have rR:=rR.mono h5
   have hle5:Γ2.le Γ5:=hle3.trans (h4.trans h5)
   have hB5:=hB2.mono hle5
   have rr5:=rr.mono hle5
   have rh5:=rh.mono hle5
   have hDo:(intRows (rowN (n+1) D))[old]? = some [.int .i64 (D old)]:=rowI_get (by omega)
   have f1:D old<1152921504606846976→-100000000000≤D old:=fun h=>by
    have h1:=hlow old (by omega) h
    have h2:=hrng old
    have h3:=hrng b
    omega
   obtain⟨hcg,hc1,hc2⟩:=hrc b (by omega)
   obtain⟨hcq,hq1,hq2⟩:=hrc old (by omega)
   obtain⟨p,hpe⟩:∃p,p=aF A d b:=⟨_,rfl⟩
   obtain⟨q,hqe⟩:∃q,q=aF A d old:=⟨_,rfl⟩
   rw[←hpe]at hcg hc1 hc2
   rw[←hqe]at hcq hq1 hq2
   have hcg1:=intsI_get hcg
   have hcq1:=intsI_get hcq
   clear hB3;refine byG ?_;refine W_quiet (by kernel_rfl) (by kernel_rfl) hw ?_
   refine byQ ?_;refine qY (v:=.int .i64 (D old)) ?_ (hy:=fun w hw=>y_loadE1 rfl (rD.rd hw) hDo)
   refine byQ ?_;refine qG (v:=.pointer (some ⟨aB (some a4),aO (some a4)+old*1,none⟩)) ?_ (hy:=fun hg w hw=>y_idxI (i:=(old:Int)) hw rD (gvT hg rfl) (gvT hg rfl) (by omega) (by omega))
   refine byQ ?_;refine qG (v:=.int .i64 (D old)) ?_ (hy:=fun hg w hw=>y_loadE1 (gvT hg rfl) (rD.rd hw) hDo)
   refine byQ ?_;refine qG (v:=.slice va vn vc) ?_ (hy:=fun hg w hw=>y_l1m hw (gvT hg rfl) rfl)
   refine byQ ?_;refine qG (v:=.slice ra n rc) ?_ (hy:=fun hg w hw=>y_loadE1 (gvT hg rfl) (rh5.rd hw) hru)
   refine byQ ?_;refine qG (v:=.pointer (some ⟨aB ra,aO ra+b*1,none⟩)) ?_ (hy:=fun hg w hw=>y_idxI (i:=(b:Int)) hw rr5 (gvT hg rfl) (gvT hg rfl) (by omega) (by omega))
   refine byQ ?_;refine qG (v:=.slice va vn vc) ?_ (hy:=fun hg w hw=>y_l1m hw (gvT hg rfl) rfl)
   refine byQ ?_;refine qG (v:=.slice ra n rc) ?_ (hy:=fun hg w hw=>y_loadE1 (gvT hg rfl) (rh5.rd hw) hru)
   refine byQ ?_;refine qG (v:=.pointer (some ⟨aB ra,aO ra+old*1,none⟩)) ?_ (hy:=fun hg w hw=>y_idxI (i:=(old:Int)) hw rr5 (gvT hg rfl) (gvT hg rfl) (by omega) (by omega))
   refine byQ ?_;intro w hw;refine byG ?_;refine W_cond rfl (fun h=>?_) (fun h=>?_)
   ·simp only[Bool.and_eq_true,decide_eq_true_eq]at h
    obtain⟨f4,heq⟩:=h;rw[hpe,hqe]at heq;obtain⟨l0,hbk,hp',hl',hpr',hbd',hfx'⟩:=lex_step (fun i z hi hz=>hA i z (by omega) hz) hp hfx hG (by omega) hP (by omega) hold hon f4 heq
    have hcost:costA (aF A) ((moveL V l0 x).set d b)=costA (aF A) x:=by
     have h1:=hp.least hfx ⟨hfx',hp'.cap⟩ hl'
     have h2:=hp'.least hfx' ⟨hfx,hp.cap⟩ hl'.symm
     omega
    refine byG ?_;refine lCall ?_;refine(put_core (x:=x) (d:=d) (s:=b) (v0:=old) hB5 (hMV.mono hle5) rR (fun u v h1 h2 h3=>by
     rcases hG.real u v h1 h2 h3 with h|h|⟨-,-,-,k,-,h5,h6,-⟩
     ·exact .inl (by omega)
     ·exact .inl (by omega)
     ·exact .inr (by omega)) hbk (by omega) (by omega) (by omega) (fun z hz=>(hfx' z hz).2) (by omega) hn hxl.symm (hw.ds [0])).mono fun e w hq=>?_
    obtain⟨rfl,hw⟩:=hq;refine⟨_,rfl,?_⟩;refine byG ?_;exact⟨A.length-d-1,by omega,d+1,Γ5,(moveL V l0 x).set d b,by omega,hle1.trans (hle2.trans hle5),by omega,hp',hfx',lex_move hL hNB (by omega) hl' hpr' hbd' hcost,⟨rfl,rfl,rfl,trivial⟩,hw⟩
   ·have hsk:¬(D old<farV∧D old+aF A d b=aF A d old):=by
     simp only[Bool.and_eq_false_iff,decide_eq_false_iff_not]at h
     rw[←hpe,←hqe];unfold farV;omega
    clear h;have hNB2:NoB n cap (aF A) x d (b+1):=fun y hy hly hcy hpre k hk hyk=>by
     by_cases e:k=b
     ·subst e;exact hsk (lex_found hn hcap (fun i z hi hz=>hA i z (by omega) hz) hp hfx hG (by omega) hP (by omega) hold hon hy hly hcy hpre hyk)
     ·exact hNB y hy hly hcy hpre k (by omega) hyk
    refine byG ?_;exact⟨old-b-1,by omega,b+1,Γ5,by omega,hle5,hNB2,⟨rfl,rfl,rfl,rfl,rfl,rfl,rfl,trivial⟩,hw⟩
  ·have hbo:b=old:=by have:=of_decide_eq_false h;omega
   clear h;rw[hbo]at hNB;refine byG ?_;exact⟨A.length-d-1,by omega,d+1,Γ3,x,by omega,hle1.trans (hle2.trans hle3),hxl,hp,hfx,lex_keep hL hNB (by omega) hold,⟨rfl,rfl,rfl,trivial⟩,hw.ds [0]⟩
 ·have hdl:d=x.length:=by have:=of_decide_eq_false h;omega
  clear h;rw[hdl]at hL;refine byG ?_;exact⟨[],trivial,Γ1,x,hle1,rfl,hxl,⟨⟨hfx,hp.cap⟩,fun y hy hly=>hp.least hfx hy hly,hL⟩,hw⟩
theorem cmpD_any{Γ:Gho}{S:List Res}{w:World}(a b:DevT)(hw:Wd Γ S w):Calls Tryz.prog 48 #[.agg (enc a).toArray,.agg (enc b).toArray] w fun e w'=>e=.returned (.int .i64 (cI a.IRQ b.IRQ))∧Wd Γ S w':=by
 refine calls_of_W Tryz.func48 rfl rfl ?_
 refine byG ?_;refine lBox ?_;intro b2 w hw;refine lBox ?_;intro b3 w hw;have hw:Wd Γ (.blk b3 (.cells (enc b).toArray 72)::.blk b2 (.cells (enc a).toArray 72)::S) w:=hw
 refine byG ?_;exact⟨_,rfl,rfl,hw.ds [0,0]⟩
theorem cloneD_any{Γ:Gho}{S:List Res}{w:World}{v:Value}{xs:List DevT}(hr:RepS Γ v 5 (xs.map enc))(hN:xs.length≤1000000)(hw:Wd Γ S w) :
  Calls Tryz.prog 46 #[v] w fun e w'=>∃v',e=.returned v'∧Wd Γ (.own v' 72 5 (xs.map enc)::S) w':=by
 obtain⟨a,n,c,rfl,hn,hnc,hc⟩:=hr.shape;have hn:n=xs.length:=by simpa using hn
 refine calls_of_W Tryz.func46 rfl rfl ?_
 refine byG ?_;refine W_cond rfl (fun h=>?_) (fun h=>?_)
 ·refine byG ?_;have hx:xs=[]:=by
   cases a with
   | none=>
    cases xs with
    | nil=>rfl
    | cons x xs=>have:=(hr.rd hw).at_ (by simp);cases this
   | some a=>cases h
  subst hx;exact⟨_,rfl,_,rfl,Wd.addNil hw⟩
 ·refine byG ?_;refine lBuildSlice [] ?_
  intro a2 w hw;refine byG ?_;refine lApp (i:=0) (rows2:=xs.map enc) ?_ (hr.rd hw) rfl rfl hw rfl (List.all_eq_true.2 fun u hu=>by
   obtain⟨l,hl,hu⟩:=List.mem_flatten.1 hu
   obtain⟨x,-,rfl⟩:=List.mem_map.1 hl
   exact List.all_eq_true.1 (enc_one x) u hu) (by simpa using hn)
  intro v' w hw;refine byG ?_;exact⟨_,rfl,v',rfl,by simpa using hw⟩
theorem sortD_any{Γ:Gho}{S:List Res}{w:World}{v:Value}{xs:List DevT}(hN:xs.length≤1000000)(hw:Wd Γ (.own v 72 5 (xs.map enc)::S) w) :
  Calls Tryz.prog 47 #[v,.func (.func 48) #[] #[]] w fun e w'=>e=.returned (.tuple #[])∧∃ys:List DevT,ys.Perm xs∧(ys.Pairwise fun x y=>x.IRQ≤y.IRQ)∧Wd Γ (.own v 72 5 (ys.map enc)::S) w':=by
 refine(SortFunc_K lay_dvs (fun x y:DevT=>cI x.IRQ y.IRQ) 48 [] xs _ hw (i:=0) rfl (fun _=>rfl) (fun x u hu=>List.all_eq_true.1 (enc_one x) u hu) (inferInstanceAs (TA Tryz.prog 72 5)) (swo_on cI_ord DevT.IRQ) (by omega) (fun dk w' hw' x y=>(cmpD_any x y (allG_wd w')).mono fun e w'' h=>⟨h.1,[],h.2⟩)).mono fun e w hq=>?_
 obtain⟨rfl,ys,hp,hs,hw⟩:=hq;refine⟨rfl,ys,hp,hs.imp fun {x y} h=>?_,hw⟩
 unfold Go.Proofs.ltOf cI at h;simp only[decide_eq_false_iff_not]at h
 by_cases e:y.IRQ<x.IRQ
 ·rw[if_pos e]at h;omega
 ·omega
end Go.Proofs.YthgighljhoneeaaGreat
end
section
open Go Mk
namespace Go.Proofs.YthgighljhoneeaaGreat
set_option maxHeartbeats 16000000
theorem dev_rng{H:HwT}(hv:validS H=0){d:DevT}(hd:d∈H.Devs):nIn d.Node∧0≤d.IRQ∧d.IRQ<256:=by
 obtain⟨-,-,h3,-⟩:=valid_all hv
 unfold regionsRB at h3;simp only[Bool.and_eq_true]at h3
 have:=List.all_eq_true.1 h3.2.2 d hd
 unfold devRB isNodeB at this;simp only[Bool.and_eq_true,decide_eq_true_eq]at this
 exact⟨this.1.1.1,this.1.1.2,this.1.2⟩
theorem used_reach{H:HwT}(hv:validS H=0){x:Int}(hx:x∈usedN H):Reach H.Links ((usedN H).headD 0) x:=by
 obtain⟨-,-,-,-,-,-,-,-,h9⟩:=valid_all hv
 have hP:ConnP H:=by
  by_cases h:ConnP H
  ·exact h
  ·unfold connB at h9;rw[decP_f h]at h9;cases h9
 exact hP x hx
theorem dev_reach{H:HwT}(hv:validS H=0){d:DevT}(hd:d∈H.Devs):Reach H.Links ((usedN H).headD 0) d.Node:=
 used_reach hv (by unfold usedN;exact List.mem_append_right _ (List.mem_map.2 ⟨d,hd,rfl⟩))
theorem dev_cost{H:HwT}(hv:validS H=0){d:DevT}(hd:d∈H.Devs){c:CoreT}(hc:c∈H.Cores):0≤dstF H d.Node c.Node∧dstF H d.Node c.Node≤63000000∧dstF H d.Node c.Node=dstI (nbrL H.Links) d.Node c.Node:=by
 have hL:=valid_links hv
 have h1:=dstI_reach hL (dev_rng hv hd).1 (dev_reach hv hd) (core_reach hv hc)
 have h2:=(dst_le (x:=c.Node) hL (dev_rng hv hd).1).2
 have h3:dstF H d.Node c.Node=dstI (nbrL H.Links) d.Node c.Node:=by
  show (if dstI (nbrL H.Links) d.Node c.Node<0 then farV else dstI (nbrL H.Links) d.Node c.Node)=_
  rw[if_neg (by omega)]
 rw[h3];exact⟨h1,h2,rfl⟩
noncomputable def costsA(H:HwT)(cs:List CoreT)(ys:List DevT):List (List Int):=ys.map fun d=>cs.map fun c=>dstF H d.Node c.Node
theorem costsA_ok{H:HwT}(hv:validS H=0){cs:List CoreT}{ys:List DevT}(hc:∀c∈cs,c∈H.Cores)(hy:∀d∈ys,d∈H.Devs):CostM cs.length (costsA H cs ys):=by
 refine⟨fun r hr=>?_,fun r hr z hz=>?_⟩
 ·obtain⟨d,-,rfl⟩:=List.mem_map.1 hr
  rw[List.length_map]
 ·obtain⟨d,hd,rfl⟩:=List.mem_map.1 hr
  obtain⟨c,hcc,rfl⟩:=List.mem_map.1 hz
  have:=dev_cost hv (hy d hd) (hc c hcc)
  omega
set_option maxHeartbeats 64000000
attribute [local irreducible] Calls
attribute [local irreducible] matL
noncomputable def rowD(H:HwT)(cs:List CoreT)(d:DevT)(k:Nat):Nat→Int:=fun j=>if j<k then dstF H d.Node (cs.getD j default).Node else 0
theorem rowD_set{H:HwT}{cs:List CoreT}{d:DevT}{k n:Nat}{c:CoreT}(hc:cs[k]? = some c):rowN n (setN (rowD H cs d k) k (dstF H d.Node c.Node))=rowN n (rowD H cs d (k+1)):=rowN_congr fun j _=>by
 unfold setN rowD;by_cases e:j=k
 ·subst e;rw[if_pos rfl,if_pos (by omega),List.getD_eq_getElem?_getD,hc];rfl
 ·rw[if_neg e];by_cases e2:j<k
  ·rw[if_pos e2,if_pos (by omega)]
  ·rw[if_neg e2,if_neg (by omega)]
def IntPost(H:HwT)(L:List Int)(per:Int)(rs:List (Int×Int))(tot code:Int):Prop:=
 if (liveS H L).2≠0 then rs=[]∧tot=0∧code=(liveS H L).2
 else if per<1∨256<per then rs=[]∧tot=0∧code=6
 else if per*(liveS H L).1.length<H.Devs.length then rs=[]∧tot=0∧code=64
 else ∃(ys:List DevT) (x:List Int),ys.Perm H.Devs∧(ys.Pairwise fun a b=>a.IRQ≤b.IRQ)∧x.length=ys.length∧Best (liveS H L).1.length per.toNat (aF (costsA H (liveS H L).1 ys)) x ∧
  rs=(ys.zip x).map (fun p=>(p.1.IRQ,((liveS H L).1.getD p.2.toNat default).ID))∧tot=costA (aF (costsA H (liveS H L).1 ys)) x∧code=0
noncomputable def rsL(ys:List DevT)(cs:List CoreT)(x:List Int)(i:Nat):List (Int×Int):=((ys.zip x).take i).map fun p=>(p.1.IRQ,(cs.getD p.2.toNat default).ID)
def prI(p:Int×Int):List Value:=[.int .i64 p.1,.int .i64 p.2]
set_option maxRecDepth 8000 in
theorem interruptsW{Γ:Gho}{u:Value}{H:HwT}[hh:HwR Γ u H]{S:List Res}{w:World}{v:Value}{L:List Int}{per:Int}(hr:RepS Γ v 1 (intRows L))(hN:L.length≤1000)(hLen:(liveS H L).1.length≤64)(hDev:H.Devs.length≤1000)(hcsub:∀c∈(liveS H L).1,c∈H.Cores)(hw:Wd Γ S w) :
  Calls Tryz.prog 15 #[u,v,.int .i64 per] w fun e w'=>∃(Γ':Gho) (v':Value) (rs:List (Int×Int)) (tot code:Int),Γ.le Γ'∧e=.returned (.tuple #[v',.int .i64 tot,.int .i64 code])∧IntPost H L per rs tot code ∧
   Wd Γ' (.own v' 55 2 (rs.map prI)::S) w':=by
 obtain⟨a1,n1,c1,a2,n2,c2,a3,n3,c3,a4,n4,c4,a5,n5,c5,cs',rfl,hcs,hok,hsz,r1,r2,r3,r4,r5⟩:=hh.h;obtain⟨hn5,hm5,hx5⟩:=rep_facts r5
 simp only[List.length_map]at hn5
 refine calls_of_WC Tryz.func15 rfl rfl ?_
 refine byG ?_;refine lBox ?_;intro b3 w hw;have hw:Wd Γ (.blk b3 (hwC H a1 n1 c1 a2 n2 c2 a3 n3 c3 a4 n4 c4 a5 n5 c5)::S) w:=hw
 refine byG ?_;refine lCall ((liveCores_any (H:=H) hr hN hw).mono fun e w hq=>?_)
 clear hw;obtain⟨vc,rfl,hw⟩:=hq;refine⟨_,rfl,?_⟩;obtain⟨ac,nc,cc,rfl,hnc,hncc,-⟩:=hw.own_shape (i:=0) rfl
 simp only[List.length_map]at hnc
 obtain⟨cs,hcs2⟩:∃cs,cs=(liveS H L).1:=⟨_,rfl⟩
 rw[←hcs2]at hw hnc hLen hcsub
 refine byG ?_;refine W_cond rfl (fun h=>?_) (fun h=>?_)
 ·have h:(liveS H L).2≠0:=of_decide_eq_true h
  refine byG ?_;exact⟨[_,_,_],⟨rfl,rfl,rfl,trivial⟩,Γ,_,[],0,(liveS H L).2,Gho.le.refl _,rfl,by unfold IntPost;rw[if_pos h];exact⟨rfl,rfl,rfl⟩,Wd.addNil (hw.ds [0,0])⟩
 have hcode:¬(liveS H L).2≠0:=of_decide_eq_false h
 clear h;refine byG ?_;refine W_cond rfl (fun h=>?_) (fun h=>?_)
 ·have h:per<1∨256<per:=by simpa using h
  refine byG ?_;exact⟨[_,_,_],⟨rfl,rfl,rfl,trivial⟩,Γ,_,[],0,6,Gho.le.refl _,rfl,by unfold IntPost;rw[if_neg hcode,if_pos h];exact⟨rfl,rfl,rfl⟩,Wd.addNil (hw.ds [0,0])⟩
 have hper:¬(per<1∨256<per):=by
  intro hh;have h:¬(per<1∨256<per):=by simpa using h
  exact h hh
 clear h;have hmul:IntKind.i64.wrap (per*(nc:Int))=per*(nc:Int):=by
  have h1:0≤per*(nc:Int):=Int.mul_nonneg (by omega) (by omega)
  have h2:per*(nc:Int)≤256*(nc:Int):=Int.mul_le_mul_of_nonneg_right (by omega) (by omega)
  exact wrap_i64 (by omega) (by omega)
 refine byG ?_;refine W_cond rfl (fun h=>?_) (fun h=>?_)
 ·have h:per*(nc:Int)<n5:=by
   rw[←hmul];exact of_decide_eq_true h
  refine byG ?_;exact⟨[_,_,_],⟨rfl,rfl,rfl,trivial⟩,Γ,_,[],0,64,Gho.le.refl _,rfl,by unfold IntPost;rw[if_neg hcode,if_neg hper,←hcs2,←hnc,←hn5,if_pos h];exact⟨rfl,rfl,rfl⟩,Wd.addNil (hw.ds [0,0])⟩
 have hfit:¬per*(nc:Int)<n5:=by
  intro hh;rw[←hmul]at hh;exact(of_decide_eq_false h) hh
 clear h;refine byG ?_;refine lCall ((cloneD_any (xs:=H.Devs) r5 (by omega) hw).mono fun e w hq=>?_)
 obtain⟨vd,rfl,hw⟩:=hq;refine⟨_,rfl,?_⟩;refine byG ?_;refine lCall ((sortD_any (by omega) hw).mono fun e w hq=>?_)
 clear hw;obtain⟨rfl,ys,hyp,hys,hw⟩:=hq;refine⟨_,rfl,?_⟩;refine byG ?_;have hv:validS H=0:=by
  by_cases h:validS H=0
  ·exact h
  ·exfalso
   apply hcode
   unfold liveS;rw[if_pos h];exact h
 refine lCall ((measure_any (H:=H) hv hw).mono fun e w hq=>?_)
 clear hw;obtain⟨bd,rfl,hw⟩:=hq;refine⟨_,rfl,?_⟩;obtain⟨Γ1,g1,hD,hw1⟩:=hw.freezeB;obtain⟨Γ2,g2,rY,hw2⟩:=hw1.freeze;obtain⟨Γ3,g3,rC,hw3⟩:=hw2.freeze;clear hw hw1 hw2;have hw:Wd Γ3 S w:=hw3.ds [0]
 clear hw3;have hD:=hD.mono (g2.trans g3)
 have rY:=rY.mono g3
 have hle:=g1.trans (g2.trans g3)
 obtain⟨ad,nd,cd,rfl,hnd,hncd,-⟩:=rY.shape;simp only[List.length_map]at hnd
 refine byG ?_;refine lMakeSlice (len:=nc) ?_
 intro al w hw;refine byG ?_;refine lBox ?_;intro bA w hw;have hw:=Wd.addNil (a:=none) (E:=3) (sz:=1) hw
 have hw:=Wd.addNil (a:=none) (E:=22) (sz:=1) hw
 have hz:List.replicate nc [Value.int .i64 0]=intRows (rowN nc fun _=>0):=by
  rw[←rep_row];simp[intRows]
 have hw:Wd Γ3 (.blk bA (.cells #[.slice none 0 0,.int .i64 per,.slice none 0 0,.slice (some al) nc nc] 104)::.own (.slice none 0 0) 22 1 (hdrs [])::.own (.slice none 0 0) 3 1 (intRows (List.replicate 0 (-1)))::.own (.slice (some al) nc nc) 3 1 (List.replicate nc [Value.int .i64 0])::(inn 3 1 (innM [] ((costsA H cs ys).take 0))++S)) w:=hw.ps [2]
 rw[hz]at hw;refine byG ?_;refine W_loop (fun μ ρ w=>∃(i:Nat) (va xa:Option Addr) (vn vc xn xc:Nat) (hs:List Value),μ+i=nd∧hs.length=i∧Has ρ [(6,.slice none 0 0),(7,.int .i64 0),(9,.slice ac nc cc),(10,.slice ad nd cd),(11,.pointer (some ⟨bd,0,none⟩)),(12,.pointer (some ⟨bA,0,none⟩)),(59,.slice ad nd cd),(60,.int .i64 nd),(61,.int .i64 i)]∧Wd Γ3 (.blk bA (.cells #[.slice va vn vc,.int .i64 per,.slice xa xn xc,.slice (some al) nc nc] 104)::.own (.slice va vn vc) 22 1 (hdrs hs)::.own (.slice xa xn xc) 3 1 (intRows (List.replicate i (-1)))::.own (.slice (some al) nc nc) 3 1 (intRows (rowN nc fun _=>0))::(inn 3 1 (innM hs ((costsA H cs ys).take i))++S)) w) nd ⟨0,none,none,0,0,0,0,[],by omega,rfl,⟨rfl,rfl,rfl,rfl,rfl,rfl,rfl,rfl,rfl,trivial⟩,hw⟩ ?_
 clear hw hz;rintro μ ρ w ⟨i,va,xa,vn,vc,xn,xc,hs,hμ,hhs,hρ,hw⟩
 rw[hρ.eq];clear hρ;refine byG ?_;refine W_cond rfl (fun h=>?_) (fun h=>?_)
 ·have hin:i<nd:=by have:=of_decide_eq_true h;omega
  clear h;obtain⟨dv,hdv⟩:=get_lt (l:=ys) (k:=i) (by omega)
  have hdm:dv∈H.Devs:=hyp.mem_iff.1 (List.mem_of_getElem? hdv)
  refine byG ?_;refine lAlloc ?_;intro b14 w hw;refine lStore ?_;intro w hw;have hw:Wd Γ3 (.blk b14 (.cells (enc dv).toArray 72)::.blk bA (.cells #[.slice va vn vc,.int .i64 per,.slice xa xn xc,.slice (some al) nc nc] 104)::.own (.slice va vn vc) 22 1 (hdrs hs)::.own (.slice xa xn xc) 3 1 (intRows (List.replicate i (-1)))::.own (.slice (some al) nc nc) 3 1 (intRows (rowN nc fun _=>0))::(inn 3 1 (innM hs ((costsA H cs ys).take i))++S)) w:=hw
  refine byG ?_;refine lMakeSlice (len:=nc) ?_
  intro a15 w hw;have hz:List.replicate nc [Value.int .i64 0]=intRows (rowN nc (rowD H cs dv 0)):=by
   rw[show rowN nc (rowD H cs dv 0)=rowN nc fun _=>0 from rowN_congr fun j _=>by unfold rowD;rw[if_neg (by omega)],←rep_row];simp[intRows]
  have hw:Wd Γ3 (.own (.slice (some a15) nc nc) 3 1 (List.replicate nc [Value.int .i64 0])::.blk b14 (.cells (enc dv).toArray 72)::.blk bA (.cells #[.slice va vn vc,.int .i64 per,.slice xa xn xc,.slice (some al) nc nc] 104)::.own (.slice va vn vc) 22 1 (hdrs hs)::.own (.slice xa xn xc) 3 1 (intRows (List.replicate i (-1)))::.own (.slice (some al) nc nc) 3 1 (intRows (rowN nc fun _=>0))::(inn 3 1 (innM hs ((costsA H cs ys).take i))++S)) w:=hw
  rw[hz]at hw;refine byG ?_;refine W_loop (fun μ2 ρ w=>∃k:Nat,μ2+k=nc∧Has ρ [(6,.slice none 0 0),(7,.int .i64 0),(9,.slice ac nc cc),(10,.slice ad nd cd),(11,.pointer (some ⟨bd,0,none⟩)),(12,.pointer (some ⟨bA,0,none⟩)),(59,.slice ad nd cd),(60,.int .i64 nd),(61,.int .i64 i),(14,.pointer (some ⟨b14,0,none⟩)),(15,.slice (some a15) nc nc),(68,.slice ac nc cc),(69,.int .i64 nc),(70,.int .i64 k)]∧Wd Γ3 (.own (.slice (some a15) nc nc) 3 1 (intRows (rowN nc (rowD H cs dv k)))::.blk b14 (.cells (enc dv).toArray 72)::.blk bA (.cells #[.slice va vn vc,.int .i64 per,.slice xa xn xc,.slice (some al) nc nc] 104)::.own (.slice va vn vc) 22 1 (hdrs hs)::.own (.slice xa xn xc) 3 1 (intRows (List.replicate i (-1)))::.own (.slice (some al) nc nc) 3 1 (intRows (rowN nc fun _=>0))::(inn 3 1 (innM hs ((costsA H cs ys).take i))++S)) w) nc ⟨0,by omega,⟨rfl,rfl,rfl,rfl,rfl,rfl,rfl,rfl,rfl,rfl,rfl,rfl,rfl,rfl,trivial⟩,hw⟩ ?_
  clear hw hz;rintro μ2 ρ w ⟨k,hμ2,hρ,hw⟩
  rw[hρ.eq];clear hρ;refine byG ?_;refine W_cond rfl (fun h=>?_) (fun h=>?_)
  ·have hkn:k<nc:=by have:=of_decide_eq_true h;omega
   clear h;obtain⟨c,hc⟩:=get_lt (l:=cs) (k:=k) (by omega)
   refine byG ?_;refine lAlloc ?_;intro b17 w hw;refine byG ?_;refine lStore ?_;intro w hw;have hcm:c∈H.Cores:=hcsub c (List.mem_of_getElem? hc)
   have hn1:=(dev_rng hv hdm).1
   have hn2:nIn c.Node:=core_node hv hcm
   have hnn1:0≤dv.Node∧dv.Node<64:=hn1
   have hnn2:0≤c.Node∧c.Node<64:=hn2
   have hw:Wd Γ3 (.blk b17 (.cells (enc c).toArray 69)::.own (.slice (some a15) nc nc) 3 1 (intRows (rowN nc (rowD H cs dv k)))::.blk b14 (.cells (enc dv).toArray 72)::.blk bA (.cells #[.slice va vn vc,.int .i64 per,.slice xa xn xc,.slice (some al) nc nc] 104)::.own (.slice va vn vc) 22 1 (hdrs hs)::.own (.slice xa xn xc) 3 1 (intRows (List.replicate i (-1)))::.own (.slice (some al) nc nc) 3 1 (intRows (rowN nc fun _=>0))::(inn 3 1 (innM hs ((costsA H cs ys).take i))++S)) w:=hw
   obtain⟨T,hT⟩:∃T,T=(.blk bA (.cells #[.slice va vn vc,.int .i64 per,.slice xa xn xc,.slice (some al) nc nc] 104)::.own (.slice va vn vc) 22 1 (hdrs hs)::.own (.slice xa xn xc) 3 1 (intRows (List.replicate i (-1)))::.own (.slice (some al) nc nc) 3 1 (intRows (rowN nc fun _=>0))::(inn 3 1 (innM hs ((costsA H cs ys).take i))++S)):=⟨_,rfl⟩
   rw[←hT]at hw;have hw:Wd Γ3 ([.blk b17 (.cells (enc c).toArray 69),.blk b14 (.cells (enc dv).toArray 72)]++(.own (.slice (some a15) nc nc) 3 1 (intRows (rowN nc (rowD H cs dv k)))::T)) w:=hw.ps [2,1]
   refine byG ?_;refine W_mix1 [.blk b17 (.cells (enc c).toArray 69),.blk b14 (.cells (enc dv).toArray 72)] (.own (.slice (some a15) nc nc) 3 1 (intRows (rowN nc (rowD H cs dv k)))::T) [[],[],[],[],[],[],[],[],[],[],[],[],[0]] [[],[],[],[],[],[],[],[],[],[],[],[0],[0]] hw ?_
   refine byM ?_;refine mY (v:=.int .i64 (dstF H dv.Node c.Node)) ?_ (hy:=fun Y w g hw=>y_l1m (hB:=hD) hw rfl (getM _ hn1 hn2))
   refine byM ?_;refine mS (c:=0) (v:=undef) (F:=fun _=>.own (.slice (some a15) nc nc) 3 1 (intRows (rowN nc (rowD H cs dv k)))::T) (fun _=>.own (.slice (some a15) nc nc) 3 1 ((intRows (rowN nc (rowD H cs dv k))).set k [.int .i64 (dstF H dv.Node c.Node)])::T) (fun g w Y hw=>s_storeE (i:=0) (k:=k) (r:=[.int .i64 (dstF H dv.Node c.Node)]) (TSz.h (P:=Tryz.prog) (T:=3)) hw rfl rfl rfl rfl rfl rfl (by omega) fun w' hw'=>⟨fun _=>rfl,hw'⟩) ?_
   refine mEnd fun w g hw=>?_
   have hw:Wd Γ3 (([.blk b17 (.cells (enc c).toArray 69),.blk b14 (.cells (enc dv).toArray 72)]++(.own (.slice (some a15) nc nc) 3 1 ((intRows (rowN nc (rowD H cs dv k))).set k [.int .i64 (dstF H dv.Node c.Node)])::T))++[]) w:=hw
   rw[List.append_nil,rowI_set,rowD_set hc,hT]at hw;have hw:Wd Γ3 (.own (.slice (some a15) nc nc) 3 1 (intRows (rowN nc (rowD H cs dv (k+1))))::.blk b14 (.cells (enc dv).toArray 72)::.blk bA (.cells #[.slice va vn vc,.int .i64 per,.slice xa xn xc,.slice (some al) nc nc] 104)::.own (.slice va vn vc) 22 1 (hdrs hs)::.own (.slice xa xn xc) 3 1 (intRows (List.replicate i (-1)))::.own (.slice (some al) nc nc) 3 1 (intRows (rowN nc fun _=>0))::(inn 3 1 (innM hs ((costsA H cs ys).take i))++S)) w:=(hw.ds [0]).ps [1]
   refine byG ?_;exact⟨nc-k-1,by omega,k+1,by omega,⟨rfl,rfl,rfl,rfl,rfl,rfl,rfl,rfl,rfl,rfl,rfl,rfl,rfl,rfl,trivial⟩,hw⟩
  have hkn:nc=k:=by have:=of_decide_eq_false h;omega
  clear h;subst hkn;refine byG ?_;have hnd2:nd≤1000:=by rw[hnd,hyp.length_eq];exact hDev
  have hvn:vn=hs.length:=by
   obtain⟨p1,p2,p3,hp,hp2,-,-⟩:=hw.own_shape (i:=3) rfl
   cases hp
   simpa[hdrs] using hp2
  have hxn:xn=i:=by
   obtain⟨p1,p2,p3,hp,hp2,-,-⟩:=hw.own_shape (i:=4) rfl
   cases hp
   simpa[intRows] using hp2
  refine lBuildSlice (hdrs [.slice (some a15) nc nc]) ?_
  intro a94 w hw;refine byG ?_;refine lApp (i:=4) (rows2:=hdrs [.slice (some a15) nc nc]) ?_ (hw.own_rd (i:=0) rfl) rfl rfl hw rfl rfl rfl
  intro v1 w hw;obtain⟨va',vn',vc',rfl,-,-,-⟩:=hw.own_shape (i:=4) rfl
  refine byG ?_;refine lStore ?_;intro w hw;have hw:Wd Γ3 (.own (.slice (some a94) 1 1) 22 1 (hdrs [.slice (some a15) nc nc])::.own (.slice (some a15) nc nc) 3 1 (intRows (rowN nc (rowD H cs dv nc)))::.blk b14 (.cells (enc dv).toArray 72)::.blk bA (.cells #[.slice va' vn' vc',.int .i64 per,.slice xa xn xc,.slice (some al) nc nc] 104)::.own (.slice va' vn' vc') 22 1 (hdrs hs++hdrs [.slice (some a15) nc nc])::.own (.slice xa xn xc) 3 1 (intRows (List.replicate i (-1)))::.own (.slice (some al) nc nc) 3 1 (intRows (rowN nc fun _=>0))::(inn 3 1 (innM hs ((costsA H cs ys).take i))++S)) w:=hw
  have hw:Wd Γ3 (.own (.slice (some a15) nc nc) 3 1 (intRows (rowN nc (rowD H cs dv nc)))::.blk bA (.cells #[.slice va' vn' vc',.int .i64 per,.slice xa xn xc,.slice (some al) nc nc] 104)::.own (.slice va' vn' vc') 22 1 (hdrs hs++hdrs [.slice (some a15) nc nc])::.own (.slice xa xn xc) 3 1 (intRows (List.replicate i (-1)))::.own (.slice (some al) nc nc) 3 1 (intRows (rowN nc fun _=>0))::(inn 3 1 (innM hs ((costsA H cs ys).take i))++S)) w:=hw.ds [0,1]
  refine byG ?_;refine lBuildSlice (intRows [-1]) ?_
  intro a103 w hw;refine byG ?_;refine lApp (i:=4) (rows2:=intRows [-1]) ?_ (hw.own_rd (i:=0) rfl) rfl rfl hw rfl rfl rfl
  intro v2 w hw;obtain⟨xa',xn',xc',rfl,-,-,-⟩:=hw.own_shape (i:=4) rfl
  refine byG ?_;refine lStore ?_;intro w hw;have hw:Wd Γ3 (.own (.slice (some a103) 1 1) 3 1 (intRows [-1])::.own (.slice (some a15) nc nc) 3 1 (intRows (rowN nc (rowD H cs dv nc)))::.blk bA (.cells #[.slice va' vn' vc',.int .i64 per,.slice xa' xn' xc',.slice (some al) nc nc] 104)::.own (.slice va' vn' vc') 22 1 (hdrs hs++hdrs [.slice (some a15) nc nc])::.own (.slice xa' xn' xc') 3 1 (intRows (List.replicate i (-1))++intRows [-1])::.own (.slice (some al) nc nc) 3 1 (intRows (rowN nc fun _=>0))::(inn 3 1 (innM hs ((costsA H cs ys).take i))++S)) w:=hw
  have hw:Wd Γ3 (.own (.slice (some a15) nc nc) 3 1 (intRows (rowN nc (rowD H cs dv nc)))::([.blk bA (.cells #[.slice va' vn' vc',.int .i64 per,.slice xa' xn' xc',.slice (some al) nc nc] 104),.own (.slice va' vn' vc') 22 1 (hdrs hs++hdrs [.slice (some a15) nc nc]),.own (.slice xa' xn' xc') 3 1 (intRows (List.replicate i (-1))++intRows [-1]),.own (.slice (some al) nc nc) 3 1 (intRows (rowN nc fun _=>0))]++(inn 3 1 (innM hs ((costsA H cs ys).take i))++S))) w:=hw.ds [0]
  have hcl:i<(costsA H cs ys).length:=by unfold costsA;rw[List.length_map];omega
  have hw:=inn_snoc (A:=[.blk bA (.cells #[.slice va' vn' vc',.int .i64 per,.slice xa' xn' xc',.slice (some al) nc nc] 104),.own (.slice va' vn' vc') 22 1 (hdrs hs++hdrs [.slice (some a15) nc nc]),.own (.slice xa' xn' xc') 3 1 (intRows (List.replicate i (-1))++intRows [-1]),.own (.slice (some al) nc nc) 3 1 (intRows (rowN nc fun _=>0))]) (hs:=hs) (by rw[List.length_take];omega) hw
  have htk:(costsA H cs ys).take i++[rowN nc (rowD H cs dv nc)]=(costsA H cs ys).take (i+1):=by
   rw[List.take_add_one];have:(costsA H cs ys)[i]? = some (rowN nc (rowD H cs dv nc)):=by
    unfold costsA;rw[List.getElem?_map,hdv];refine congrArg some (List.ext_getElem? fun j=>?_)
    rw[List.getElem?_map];by_cases hj:j<nc
    ·rw[rowN_get hj];obtain⟨c,hc⟩:=get_lt (l:=cs) (k:=j) (by omega)
     unfold rowD;rw[if_pos hj,List.getD_eq_getElem?_getD,hc];rfl
    ·rw[List.getElem?_eq_none (l:=cs) (by omega),List.getElem?_eq_none (by rw[rowN_len];omega)];rfl
   rw[this];rfl
  rw[htk,show hdrs hs++hdrs [Value.slice (some a15) nc nc]=hdrs (hs++[.slice (some a15) nc nc]) by simp[hdrs],show intRows (List.replicate i (-1))++intRows [-1]=intRows (List.replicate (i+1) (-1)) by rw[List.replicate_succ'];simp[intRows]]at hw
  refine byG ?_;refine⟨nd-i-1,by omega,i+1,va',xa',vn',vc',xn',xc',hs++[.slice (some a15) nc nc],by omega,by simp[hhs],⟨rfl,rfl,rfl,rfl,rfl,rfl,rfl,rfl,rfl,trivial⟩,?_⟩
  exact hw
 have hin:i=nd:=by have:=of_decide_eq_false h;omega
 clear h;have hAl:(costsA H cs ys).length=nd:=by unfold costsA;rw[List.length_map];omega
 rw[hin,List.take_of_length_le (by omega)]at hw
 have hxn:xn=nd:=by
  obtain⟨p1,p2,p3,hp,hp2,-,-⟩:=hw.own_shape (i:=2) rfl
  cases hp
  simpa[intRows] using hp2
 obtain⟨Γ4,g4,hBA,hw1⟩:=hw.freezeB;have hw2:Wd Γ4 (.own (.slice va vn vc) 22 1 (hdrs hs)::(inn 3 1 (innM hs (costsA H cs ys))++(.own (.slice (some al) nc nc) 3 1 (intRows (rowN nc fun _=>0))::.own (.slice xa xn xc) 3 1 (intRows (List.replicate nd (-1)))::S))) w:=hw1.perm (List.Perm.cons _ ((List.Perm.swap _ _ _).trans (List.perm_append_comm_assoc [_,_] (inn 3 1 (innM hs (costsA H cs ys))) S)))
 obtain⟨Γ5,g5,hMA,hw3⟩:=mat_freeze (by omega) hw2
 clear hw hw1 hw2;have hw:=hw3
 clear hw3;refine byG ?_;have hwK:=hw
 obtain⟨cap,hcap⟩:∃cap:Nat,per=cap:=⟨per.toNat,by omega⟩
 subst hcap;have hroom:(costsA H cs ys).length≤nc*cap:=by
  rw[hAl,Nat.mul_comm];have h1:((cap*nc:Nat):Int)=(cap:Int)*(nc:Int):=by push_cast;rfl
  have h2:nd=n5:=by rw[hnd,hyp.length_eq,hn5]
  omega
 have hnc64:nc≤64:=by omega
 have hCM:CostM nc (costsA H cs ys):=by rw[hnc];exact costsA_ok hv hcsub (fun d hd=>hyp.mem_iff.1 hd)
 have hw:=hwK
 rw[hxn,←hAl]at hw hBA
 have hBA5:=hBA.mono g5
 refine lCall ((complete_core hBA5 hMA hnc64 (by omega) hCM (by rw[hAl,hnd,hyp.length_eq];exact hDev) hroom hw).mono fun e w hq=>?_)
 clear hw;obtain⟨Γ6,x0,π,g6,rfl,hx0,hp0,hge,hw⟩:=hq;refine⟨_,rfl,?_⟩;refine byG ?_;refine lCall ((least_core (hBA5.mono g6) (hMA.mono g6) hnc64 (by omega) hCM (by rw[hAl,hnd,hyp.length_eq];exact hDev) hx0 hp0 (fun z hz=>by obtain⟨k,hk,rfl⟩:=mem_at hz;exact⟨hge k (by omega),(hp0.rng k hk).2⟩) hw).mono fun e w hq=>?_)
 clear hw;obtain⟨Γ7,x,g7,rfl,hx,hbest,hw⟩:=hq;refine⟨_,rfl,?_⟩;refine byG ?_;have hB7:=(hBA5.mono g6).mono g7
 obtain⟨Γ8,g8,rX,hw8⟩:=(hw.ds [0]).freeze
 clear hw;have hw:Wd Γ8 S w:=hw8
 clear hw8;have hB8:=hB7.mono g8
 rw[hAl]at hB8 rX
 have hle8:Γ3.le Γ8:=g4.trans (g5.trans (g6.trans (g7.trans g8)))
 have rY8:=rY.mono hle8
 have rC8:=rC.mono hle8
 have hM8:=((hMA.mono g6).mono g7).mono g8
 have hxl:x.length=nd:=by rw[hx];exact hAl
 have hnd3:nd≤1000:=by rw[hnd,hyp.length_eq];exact hDev
 have hbound:∀k,k≤nd→0≤sumZ (fun j=>aF (costsA H cs ys) j (atI x j)) k∧sumZ (fun j=>aF (costsA H cs ys) j (atI x j)) k≤(k:Int)*1000000000:=fun k hk=>by
  induction k with
  | zero=>exact⟨Int.le_refl _,Int.le_refl _⟩
  | succ k ih=>
   have h1:=ih (by omega)
   obtain⟨r,-,-,h2⟩:=hCM.get (show k<(costsA H cs ys).length by omega)
   have h3:=hbest.full.rng _ (atI_mem (x:=x) (i:=k) (by omega))
   have h4:=(h2 (atI x k).toNat (by omega)).2
   rw[show (((atI x k).toNat:Nat):Int)=atI x k by omega]at h4
   simp only[sumZ]
   omega
 have hw:=Wd.addNil (a:=none) (E:=55) (sz:=2) hw
 refine byG ?_;refine W_loop (fun μ ρ w=>∃(i:Nat) (rq:Option Addr) (rm rd:Nat),μ+i=nd∧Has ρ [(6,.slice rq rm rd),(7,.int .i64 (sumZ (fun j=>aF (costsA H cs ys) j (atI x j)) i)),(9,.slice ac nc cc),(12,.pointer (some ⟨bA,0,none⟩)),(112,.slice ad nd cd),(113,.int .i64 nd),(114,.int .i64 i)]∧Wd Γ8 (.own (.slice rq rm rd) 55 2 ((rsL ys cs x i).map prI)::S) w) nd ⟨0,none,0,0,by omega,⟨rfl,rfl,rfl,rfl,rfl,rfl,rfl,trivial⟩,hw⟩ ?_
 clear hw;rintro μ ρ w ⟨i,rq,rm,rd,hμ,hρ,hw⟩
 rw[hρ.eq];clear hρ;refine byG ?_;refine W_cond rfl (fun h=>?_) (fun h=>?_)
 ·have hin:i<nd:=by have:=of_decide_eq_true h;omega
  clear h;obtain⟨dv,hdv⟩:=get_lt (l:=ys) (k:=i) (by omega)
  obtain⟨xv,hxv⟩:=get_lt (l:=x) (k:=i) (by omega)
  have hxr:=hbest.full.rng xv (List.mem_of_getElem? hxv)
  have hxa:atI x i=xv:=by unfold atI;rw[List.getD_eq_getElem?_getD,hxv];rfl
  obtain⟨k,rfl⟩:∃k:Nat,xv=k:=⟨xv.toNat,by omega⟩
  obtain⟨c,hc⟩:=get_lt (l:=cs) (k:=k) (by omega)
  have hsn:(rsL ys cs x i).map prI++[prI (dv.IRQ,c.ID)]=(rsL ys cs x (i+1)).map prI:=by
   unfold rsL;rw[take_succ_of (zip_get hdv hxv),List.map_append,List.map_append];show _=_++[prI (dv.IRQ,(cs.getD k default).ID)]
   rw[List.getD_eq_getElem?_getD,hc];rfl
  have hlen:((rsL ys cs x i).map prI).length≤1000:=by unfold rsL;simp;omega
  refine byG ?_;refine lAlloc ?_;intro b19 w hw;refine byG ?_;refine lStore ?_;intro w hw;have hw:Wd Γ8 ([.blk b19 (.cells (enc dv).toArray 72)]++(.own (.slice rq rm rd) 55 2 ((rsL ys cs x i).map prI)::S)) w:=hw
  have hxg:(intRows x)[i]? = some [.int .i64 k]:=intsI_get hxv
  refine byG ?_;refine W_mixQ [.blk b19 (.cells (enc dv).toArray 72)] (.own (.slice rq rm rd) 55 2 ((rsL ys cs x i).map prI)::S) [134,135] 6 (.slice rq rm rd) [[],[],[],[],[],[],[],[],[],[],[],[],[],[],[],[0],[0],[0,1]] [[1],[],[],[],[],[],[],[],[],[],[],[],[],[],[],[0],[0],[0,1]] hw ?_
  refine mMoveR (dd:=6) ?_
  refine byM ?_;refine mY (v:=.slice xa nd xc) ?_ (hy:=fun Y w g hw=>y_l1m (hB:=hB8) hw rfl rfl)
  refine byM ?_;refine mY (v:=.agg (prI (dv.IRQ,c.ID)).toArray) ?_ (hy:=fun Y w g hw=>y_build rfl)
  refine mStepY (φ:=fun (_:Unit) _=>True) (R:=fun _=>.own (.slice rq rm rd) 55 2 ((rsL ys cs x i).map prI)::S) (v:=undef) (T':=Value) (fun t g=>g 134=t) (fun t=>.own t 55 2 [prI (dv.IRQ,c.ID)]::.own (.slice rq rm rd) 55 2 ((rsL ys cs x i).map prI)::S) (fun t g w Y ht hw=>s_buildSlice (rws:=[prI (dv.IRQ,c.ID)]) (cells:=prI (dv.IRQ,c.ID)) hw rfl rfl rfl (by intro r hr;rw[List.mem_singleton.1 hr];rfl) (by decide) fun q w' hw'=>⟨_,rfl,(fun h=>by cases h),hw'⟩) ?_
  refine mStepY (φ:=fun (t:Value) g=>g 134=t) (R:=(fun t=>.own t 55 2 [prI (dv.IRQ,c.ID)]::.own (.slice rq rm rd) 55 2 ((rsL ys cs x i).map prI)::S)) (v:=undef) (T':=Value) (fun t g=>g 135=t) (fun t=>.own t 55 2 ((rsL ys cs x i).map prI++[prI (dv.IRQ,c.ID)])::S) (fun t g w Y ht hw=>?_) ?_
  ·obtain⟨d1,e1,z1,rfl,hn1,-,-⟩:=hw.own_shape (i:=0) rfl
   obtain⟨d2,e2,z2,hq2,hn2,-,-⟩:=hw.own_shape (i:=1) rfl
   cases hq2
   exact s_append (i:=1) (rows2:=[prI (dv.IRQ,c.ID)]) hw rfl ht rfl (Wd.own_rd (i:=0) hw rfl) hn1 (List.all_eq_true.1 rfl) (by simp at hn1 hn2 hlen;omega) (by simp at hn1 hn2 hlen;omega) fun v' w' hw'=>⟨v',rfl,(fun h=>by cases h),hw'.drop⟩
  refine mAssY (φ:=fun (t:Value) g=>g 135=t) (dx:=135) (dd:=6) (fun t g=>g 6=t) (fun t g ht=>ht) ?_
  refine mEndQ (φ:=fun (t:Value) g=>g 6=t) fun t w g ht hw=>?_
  rw[hsn]at hw;obtain⟨q',m',d',rfl,hm',-,-⟩:=hw.own_shape (i:=0) rfl
  have hw:Wd Γ8 (.blk b19 (.cells (enc dv).toArray 72)::.own (.slice q' m' d') 55 2 ((rsL ys cs x (i+1)).map prI)::S) w:=hw.perm byPM
  have hw:=hw.drop
  refine W_has (l:=[(6,.slice q' m' d'),(7,.int .i64 (sumZ (fun j=>aF (costsA H cs ys) j (atI x j)) i)),(9,.slice ac nc cc),(12,.pointer (some ⟨bA,0,none⟩)),(18,.int .i64 i),(112,.slice ad nd cd),(113,.int .i64 nd),(114,.int .i64 i)]) ⟨ht,rfl,rfl,rfl,rfl,rfl,rfl,rfl,trivial⟩ fun ρ hρ=>?_
  rw[hρ.eq];refine byG ?_;obtain⟨r,hr2,hrl,hrc⟩:=hCM.get (show i<(costsA H cs ys).length by omega)
  obtain⟨ra,rn,rc,hs',hrn,rr,rh,hru⟩:=hM8.at hr2
  obtain⟨hcg,hc1,hc2⟩:=hrc k (by omega)
  have hcg:=intsI_get hcg
  have hvn:=hM8.row.1
  have hb0:=hbound i (by omega)
  obtain⟨p,hpe⟩:∃p,p=aF (costsA H cs ys) i k:=⟨_,rfl⟩
  have hst:sumZ (fun j=>aF (costsA H cs ys) j (atI x j)) (i+1)=sumZ (fun j=>aF (costsA H cs ys) j (atI x j)) i+p:=by rw[sumZ,hxa,hpe]
  rw[←hpe]at hcg hc1 hc2
  obtain⟨tot,htot⟩:∃tot,tot=sumZ (fun j=>aF (costsA H cs ys) j (atI x j)) i:=⟨_,rfl⟩
  rw[←htot]at hb0 hst ⊢
  refine W_quiet (by kernel_rfl) (by kernel_rfl) hw ?_
  refine byQ ?_;refine qY (v:=.slice va vn vc) ?_ (hy:=fun w hw=>y_l1m (hB:=hB8) hw rfl rfl)
  refine byQ ?_;refine qY (v:=.slice ra rn rc) ?_ (hy:=fun w hw=>y_loadE1 rfl (rh.rd hw) hru)
  refine byQ ?_;refine qY (v:=.slice xa nd xc) ?_ (hy:=fun w hw=>y_l1m (hB:=hB8) hw rfl rfl)
  refine byQ ?_;intro w hw;refine byG ?_;exact⟨nd-i-1,by omega,i+1,q',m',d',by omega,⟨rfl,by rw[hst,hpe];rfl,rfl,rfl,rfl,rfl,rfl,trivial⟩,hw⟩
 have hin:i=nd:=by have:=of_decide_eq_false h;omega
 clear h;have hwZ:=hw
 clear hw;subst hin;have hw:=hwZ
 clear hwZ;refine byG ?_;have hfull:(ys.zip x).take i=ys.zip x:=List.take_of_length_le (by rw[List.length_zip];omega)
 have hpost:IntPost H L cap ((ys.zip x).map fun p=>(p.1.IRQ,(cs.getD p.2.toNat default).ID)) (sumZ (fun j=>aF (costsA H cs ys) j (atI x j)) i) 0:=by
  unfold IntPost;rw[if_neg hcode,if_neg hper,←hcs2,←hnc,←hn5,if_neg hfit];exact⟨ys,x,hyp,hys,by omega,hbest,rfl,by unfold costA;rw[hxl],rfl⟩
 unfold rsL at hw;rw[hfull]at hw;exact⟨[_,_,_],⟨rfl,rfl,rfl,trivial⟩,Γ8,_,_,_,0,hle.trans hle8,rfl,hpost,hw⟩
end Go.Proofs.YthgighljhoneeaaGreat
end
section
open Go Mk
namespace Go.Proofs.YthgighljhoneeaaGreat
set_option maxHeartbeats 8000000
section
variable {α β:Type}
theorem bubC_map{f:α→β}{lt:α→α→Bool}{lt2:β→β→Bool}(h:∀x y,lt2 (f x) (f y)=lt x y):∀(j:Nat) (l:List α),(bubC lt j l).map f=bubC lt2 j (l.map f)
 | 0,_=>rfl
 | j+1,l=>by
  cases h1:l[j+1]? with
  | none=>
   have e1:bubC lt (j+1) l=l:=by simp[bubC,h1]
   have e2:bubC lt2 (j+1) (l.map f)=l.map f:=by simp[bubC,h1]
   rw[e1,e2]
  | some x=>
   obtain⟨y,h2⟩:∃y,l[j]? = some y:=by
    obtain⟨hl,-⟩:=List.getElem?_eq_some_iff.1 h1
    exact⟨_,List.getElem?_eq_getElem (by omega)⟩
   have h3:(l.map f)[j+1]? = some (f x):=by simp[h1]
   have h4:(l.map f)[j]? = some (f y):=by simp[h2]
   cases hb:lt x y with
   | true=>
    rw[bubC_step h1 h2 hb,bubC_step h3 h4 (by rw[h];exact hb),bubC_map h j]
    simp[List.map_set]
   | false=>rw[bubC_stop h1 h2 hb,bubC_stop h3 h4 (by rw[h];exact hb)]
theorem nodup_key{f:α→β}:∀ {l:List α},(l.map f).Nodup→∀x∈l,∀y∈l,f x=f y→x=y
 | [],_,x,hx,_,_,_=>by cases hx
 | a::l,h,x,hx,y,hy,e=>by
  rw[List.map_cons,List.nodup_cons]at h;rcases List.mem_cons.1 hx with rfl|hx1
  ·rcases List.mem_cons.1 hy with rfl|hy1
   ·rfl
   ·exact absurd (List.mem_map.2 ⟨y,hy1,e.symm⟩) h.1
  ·rcases List.mem_cons.1 hy with rfl|hy1
   ·exact absurd (List.mem_map.2 ⟨x,hx1,e⟩) h.1
   ·exact nodup_key h.2 x hx1 y hy1 e
end
def canon(l:LinkT):LinkT:=if l.B<l.A then ⟨l.B,l.A,l.Latency⟩ else l
def ltZ(x y:Int):Bool:=decide (x<y)
def sortC(c:CacheT):CacheT:={ c with Cores:=isort ltZ c.Cores }
def cCacheT(x y:CacheT):Int:=orI (cI x.Level y.Level) (cB x.Name y.Name)
def normS(H:HwT):HwT:=⟨H.Name,isort (ltC cCore) H.Cores,isort (ltC cCacheT) (H.Caches.map sortC),isort (ltC cLink) (H.Links.map canon),isort (ltC cMem) H.Mems,isort (ltC cDev) H.Devs⟩
theorem cMem_lt3:Lt3 (ltC cMem):=ltC_lt3 cI_ord MemT.Base
theorem cDev_lt3:Lt3 (ltC cDev):=ltC_lt3 cI_ord DevT.IRQ
theorem cCacheT_lt3:Lt3 (ltC cCacheT):=ltC_lt3 (cI_ord.prod cB_ord) fun x:CacheT=>(x.Level,x.Name)
theorem ltZ_lt3:Lt3 ltZ:=⟨fun x y h=>by unfold ltZ at *;simp at *;omega,fun x y z h1 h2=>by unfold ltZ at *;simp at *;omega⟩
set_option maxHeartbeats 64000000
attribute [local irreducible] Calls
theorem cI_ltD{a b:Int}:decide (cI a b<0)=decide (a<b):=by
 unfold cI;by_cases h:a<b
 ·simp[h]
 ·by_cases h2:b<a
  ·simp[h,h2]
  ·simp[h,h2]
theorem lt_CoreT(x y:CoreT):(ltC cCore) x y=decide (x.ID<y.ID):=cI_ltD
theorem lt_MemT(x y:MemT):(ltC cMem) x y=decide (x.Base<y.Base):=cI_ltD
theorem lt_DevT(x y:DevT):(ltC cDev) x y=decide (x.IRQ<y.IRQ):=cI_ltD
theorem lt_LinkT(x y:LinkT):(ltC cLink) x y=(decide (x.A<y.A)||(decide (x.A=y.A)&&decide (x.B<y.B))):=by
 unfold ltC cLink orI cI;by_cases h:x.A<y.A
 ·simp[h]
 ·by_cases h2:y.A<x.A
  ·have h3:¬x.A=y.A:=by omega
   simp[h,h2,h3]
  ·have h3:x.A=y.A:=by omega
   by_cases h4:x.B<y.B
   ·simp[h3,h4]
   ·by_cases h5:y.B<x.B
    ·simp[h3,h4,h5]
    ·simp[h3,h4,h5]
theorem lt_CacheH(x y:CacheH):(ltC cCache) x y=(decide (x.Level<y.Level)||(decide (x.Level=y.Level)&&bLt x.Name y.Name)):=by
 unfold ltC cCache orI cI cB;by_cases h:x.Level<y.Level
 ·simp[h]
 ·by_cases h2:y.Level<x.Level
  ·have h3:¬x.Level=y.Level:=by omega
   simp[h,h2,h3]
  ·have h3:x.Level=y.Level:=by omega
   by_cases h4:bLt x.Name y.Name=true
   ·simp[h3,h4]
   ·by_cases h5:bLt y.Name x.Name=true
    ·simp[h3,h4,h5]
    ·simp[h3,h4,h5]
set_option maxHeartbeats 2000000 in
instance pg_before{Γ:Gho}(x y:CacheH):PG Tryz.prog Γ 121 [.agg (cC x).toArray,.agg (cC y).toArray] (.bool ((ltC cCache) x y)):=⟨fun S w hw=>by
 rw[lt_CacheH];refine calls_of_W Tryz.func121 rfl rfl ?_
 refine byG ?_;refine lBox ?_;intro b1 w hw;refine lBox ?_;intro b2 w hw;have hw:Wd Γ (.blk b2 (.cells (cC y).toArray 125)::.blk b1 (.cells (cC x).toArray 125)::S) w:=hw
 refine byG ?_;exact⟨_,rfl,rfl,hw.ds [0,0]⟩⟩
theorem bub_eq{α:Type}{lt:α→α→Bool}:∀(k:Nat) (l:List α),bub lt k l=bubC lt k l
 | 0,_=>rfl
 | k+1,l=>by
  have e1:bub lt (k+1) l=match l[k+1]?,l[k]? with|some x,some y=>if lt x y=true then bub lt k ((l.set (k+1) y).set k x) else l|_,_=>l:=rfl
  have e2:bubC lt (k+1) l=match l[k+1]?,l[k]? with|some x,some y=>if lt x y then bubC lt k ((l.set (k+1) y).set k x) else l|_,_=>l:=rfl
  rw[e1,e2];cases l[k+1]? with
  | none=>rfl
  | some x=>
   cases l[k]? with
   | none=>rfl
   | some y=>
    show (if lt x y=true then bub lt k ((l.set (k+1) y).set k x) else l)=if lt x y=true then bubC lt k ((l.set (k+1) y).set k x) else l
    rw[bub_eq k]
theorem bsFrom_eq{α:Type}{lt:α→α→Bool}:∀(f i:Nat) (l:List α),bsFrom lt f i l=isF lt f i l
 | 0,_,_=>rfl
 | f+1,i,l=>by
  show bsFrom lt f (i+1) (bub lt i l)=isF lt f (i+1) (bubC lt i l)
  rw[bub_eq,bsFrom_eq f]
theorem bsort_eq(l:List Int):bsort ltI l=isort ltZ l:=bsFrom_eq _ _ _
theorem canon_cells(l:LinkT):[enc (canon l)].flatten=[Value.int .i64 (if l.B<l.A then l.B else l.A),.int .i64 (if l.A<l.B then l.B else l.A),.int .i64 l.Latency]:=by
 unfold canon;by_cases h:l.B<l.A
 ·rw[if_pos h,if_pos h,if_neg (by omega)];rfl
 ·by_cases h2:l.A<l.B
  ·rw[if_neg h,if_neg h,if_pos h2];rfl
  ·have h3:l.A=l.B:=by omega
   rw[if_neg h,if_neg h,if_neg h2];show [Value.int .i64 l.A,.int .i64 l.B,.int .i64 l.Latency]=_
   rw[h3]
theorem isort_zero{α:Type}{lt:α→α→Bool}(l:List α):isort lt l=isF lt l.length 0 l:=by
 cases l with
 | nil=>rfl
 | cons x l=>rfl
theorem bubC_app{α:Type}{lt:α→α→Bool}{B:List α}:∀(j:Nat) (l:List α),j<l.length→bubC lt j (l++B)=bubC lt j l++B
 | 0,_,_=>rfl
 | j+1,l,h=>by
  have e1:(l++B)[j+1]? = l[j+1]?:=List.getElem?_append_left h
  have e2:(l++B)[j]? = l[j]?:=List.getElem?_append_left (by omega)
  unfold bubC;rw[e1,e2];split
  ·split
   ·rw[List.set_append_left _ _ (by omega),List.set_append_left _ _ (by simp;omega),bubC_app j _ (by simp;omega)]
   ·rfl
  ·rfl
theorem isF_next{α:Type}{lt:α→α→Bool}{full L:List α}{n i:Nat}{x:α}(hi:i<n)(hL:L.length=i)(hx:full[i]? = some x)(hB:isort lt full=isF lt (n-i) i (L++full.drop i)) :
  isort lt full=isF lt (n-(i+1)) (i+1) (bubC lt i (L++[x])++full.drop (i+1)):=by
 obtain⟨h1,h2⟩:=List.getElem?_eq_some_iff.1 hx
 rw[hB,show n-i=(n-(i+1))+1 by omega,List.drop_eq_getElem_cons h1,h2]
 show isF lt (n-(i+1)) (i+1) (bubC lt i (L++x::full.drop (i+1)))=_
 rw[←bubC_app i (L++[x]) (by simp;omega),List.append_assoc]
 rfl
structure HwLe(H:HwT):Prop where
 c:H.Cores.length≤10000
 h:H.Caches.length≤10000
 l:H.Links.length≤10000
 m:H.Mems.length≤10000
 d:H.Devs.length≤10000
 k:∀x∈H.Caches,x.Cores.length≤10000
set_option maxRecDepth 8000 in
theorem RNormalize_any{Γ:Gho}{u:Value}{H:HwT}[hh:HwR Γ u H](hl:HwLe H){S:List Res}{w:World}(hw:Wd Γ S w) :
  Calls Tryz.prog 91 #[u] w fun e w'=>∃(Γ':Gho) (u':Value),Γ.le Γ'∧e=.returned u'∧HwOut Γ' (normS H) S u' w':=by
 obtain⟨a1,n1,c1,a2,n2,c2,a3,n3,c3,a4,n4,c4,a5,n5,c5,cs,rfl,hcs,hok,hsz,r1,r2,r3,r4,r5⟩:=hh.h;obtain⟨hlc,hlh,hll,hlm,hld,hlk⟩:=hl;obtain⟨hn1,hm1,hx1⟩:=rep_facts r1
 obtain⟨hn2,hm2,hx2⟩:=rep_facts r2
 obtain⟨hn3,hm3,hx3⟩:=rep_facts r3
 obtain⟨hn4,hm4,hx4⟩:=rep_facts r4
 obtain⟨hn5,hm5,hx5⟩:=rep_facts r5
 simp only[List.length_map]at hn1 hn2 hn3 hn4 hn5
 have hcsl:cs.length≤10000:=by rw[←hcs,List.length_map]at hlh;exact hlh
 refine calls_of_WC Tryz.func91 rfl rfl ?_
 refine byG ?_;refine lBox ?_;intro b1 w hw;refine lAlloc ?_;intro b2 w hw;refine byG ?_;refine lAlloc ?_;intro b3 w hw;refine lStore ?_;intro w hw;have hw:Wd Γ (.own (.slice none 0 0) 69 4 ([])::.blk b3 (.cells #[.string H.Name,.slice none 0 0,.slice none 0 0,.slice none 0 0,.slice none 0 0,.slice none 0 0] 38)::.blk b2 (.cells #[.string ⟨#[]⟩,.slice none 0 0,.slice none 0 0,.slice none 0 0,.slice none 0 0,.slice none 0 0] 38)::.blk b1 (hwC H a1 n1 c1 a2 n2 c2 a3 n3 c3 a4 n4 c4 a5 n5 c5)::S) w:=Wd.addNil hw
 refine byG ?_;refine lApp (i:=0) (rows2:=H.Cores.map enc) ?_ (r1.rd hw) (h1:=encs_one _) (hm:=by simp;omega)
 intro v' w hw;obtain⟨q,m,d,rfl,hm,-,-⟩:=hw.own_shape (i:=0) rfl
 simp at hm
 refine byG ?_;refine lStore ?_;intro w hw;have hw:Wd Γ (.own (.slice q m d) 69 4 (H.Cores.map enc)::.blk b3 (.cells #[.string H.Name,.slice q m d,.slice none 0 0,.slice none 0 0,.slice none 0 0,.slice none 0 0] 38)::.blk b2 (.cells #[.string ⟨#[]⟩,.slice none 0 0,.slice none 0 0,.slice none 0 0,.slice none 0 0,.slice none 0 0] 38)::.blk b1 (hwC H a1 n1 c1 a2 n2 c2 a3 n3 c3 a4 n4 c4 a5 n5 c5)::S) w:=hw
 refine byG ?_;refine W_loop (fun μ ρ w=>∃(i:Nat) (Y:List CoreT),1≤i∧(m≤i+μ)∧Y.length=m∧isort (ltC cCore) H.Cores=isF (ltC cCore) (m-i) i Y∧Has ρ [(1,.pointer (some ⟨b1,0,none⟩)),(2,.pointer (some ⟨b2,0,none⟩)),(3,.pointer (some ⟨b3,0,none⟩)),(4,.int .i64 i)]∧Wd Γ (.own (.slice q m d) 69 4 (Y.map enc)::.blk b3 (.cells #[.string H.Name,.slice q m d,.slice none 0 0,.slice none 0 0,.slice none 0 0,.slice none 0 0] 38)::.blk b2 (.cells #[.string ⟨#[]⟩,.slice none 0 0,.slice none 0 0,.slice none 0 0,.slice none 0 0,.slice none 0 0] 38)::.blk b1 (hwC H a1 n1 c1 a2 n2 c2 a3 n3 c3 a4 n4 c4 a5 n5 c5)::S) w) m ⟨1,H.Cores,by omega,by omega,hm.symm,by unfold isort;rw[←hm],⟨rfl,rfl,rfl,rfl,trivial⟩,hw⟩ ?_
 clear hw;rintro μ ρ w ⟨i,Y,hi,hμ,hY,hB,hρ,hw⟩
 rw[hρ.eq];clear hρ;refine byG ?_;refine W_cond rfl (fun h=>?_) (fun h=>?_)
 ·have him:i<m:=by have:=of_decide_eq_true h;omega
  clear h;have hB2:isort (ltC cCore) H.Cores=isF (ltC cCore) (m-(i+1)) (i+1) (bubC (ltC cCore) i Y):=by
   rw[hB,show m-i=(m-(i+1))+1 by omega];rfl
  refine byG ?_;refine W_loop (fun μ2 ρ w=>∃(k:Nat) (Z:List CoreT),μ2=k∧k≤i∧Z.length=m∧bubC (ltC cCore) i Y=bubC (ltC cCore) k Z∧Has ρ [(1,.pointer (some ⟨b1,0,none⟩)),(2,.pointer (some ⟨b2,0,none⟩)),(3,.pointer (some ⟨b3,0,none⟩)),(4,.int .i64 i),(5,.int .i64 k)]∧Wd Γ (.own (.slice q m d) 69 4 (Z.map enc)::.blk b3 (.cells #[.string H.Name,.slice q m d,.slice none 0 0,.slice none 0 0,.slice none 0 0,.slice none 0 0] 38)::.blk b2 (.cells #[.string ⟨#[]⟩,.slice none 0 0,.slice none 0 0,.slice none 0 0,.slice none 0 0,.slice none 0 0] 38)::.blk b1 (hwC H a1 n1 c1 a2 n2 c2 a3 n3 c3 a4 n4 c4 a5 n5 c5)::S) w) i ⟨i,Y,rfl,Nat.le_refl _,hY,rfl,⟨rfl,rfl,rfl,rfl,rfl,trivial⟩,hw⟩ ?_
  clear hw;rintro μ2 ρ w ⟨k,Z,rfl,hk,hZ,hC,hρ,hw⟩
  rw[hρ.eq];clear hρ;refine W_seq ?_
  refine W_seq ?_
  cases μ2 with
  | zero=>
   refine W_quiet (by kernel_rfl) (by kernel_rfl) hw ?_
   iterate 3 (first|refine Q_nil ?_|(apply Q_plain;first|(apply Q_go;first|refine qP ?_|refine qPg ?_)|refine qY ?_)|(apply Q_guarded;first|(apply Q_go;first|refine qPG ?_|refine qPgG ?_)|refine qG ?_))
   iterate 14 (refine qG (v:=.bool true) ?_ (hy:=fun h=>by have h2:true=false:=h.symm.trans rfl;cases h2))
   refine qY (v:=.bool false) ?_ (hy:=fun w hw=>y_pickF rfl rfl)
   refine Q_nil ?_
   clear hw;intro w hw;refine W_cond rfl (fun h=>by cases h) (fun _=>?_)
   refine byG ?_;have hC:bubC (ltC cCore) i Y=Z:=hC
   exact⟨μ-1,by omega,i+1,Z,by omega,by omega,hZ,by rw[hB2,hC],⟨rfl,rfl,rfl,rfl,trivial⟩,hw⟩
  | succ k=>
   obtain⟨x,hx⟩:=get_lt (l:=Z) (k:=k+1) (by omega)
   obtain⟨y,hy⟩:=get_lt (l:=Z) (k:=k) (by omega)
   have e1:(((k+1:Nat):Int)-1)=(k:Int):=by omega
   have hx':Z[((k+1:Nat):Int).toNat]? = some x:=hx
   have hy':Z[(((k+1:Nat):Int)-1).toNat]? = some y:=by rw[e1];exact hy
   refine W_quiet (by kernel_rfl) (by kernel_rfl) hw ?_
   iterate 1 (first|refine Q_nil ?_|(apply Q_plain;first|(apply Q_go;first|refine qP ?_|refine qPg ?_)|refine qY ?_)|(apply Q_guarded;first|(apply Q_go;first|refine qPG ?_|refine qPgG ?_)|refine qG ?_))
   refine qT (b:=decide ((0:Int)<((k+1:Nat):Int))) (decide_eq_true (by omega)) ?_
   refine byQ ?_;clear hw;intro w hw;refine W_cond rfl (fun h2=>?_) (fun h2=>?_)
   ·have h2:(ltC cCore) x y=true:=by first|(rw[lt_CoreT];simpa using h2)|simpa using h2
    have hst:=bubC_step hx hy h2
    rw[hst]at hC;clear hst;refine byG ?_;refine lAlloc ?_;intro bh w hw;refine lStore ?_;intro w hw;have hw:Wd Γ ([.blk b3 (.cells #[.string H.Name,.slice q m d,.slice none 0 0,.slice none 0 0,.slice none 0 0,.slice none 0 0] 38)]++(.own (.slice q m d) 69 4 (Z.map enc)::.blk bh (.cells (enc x).toArray 69)::.blk b2 (.cells #[.string ⟨#[]⟩,.slice none 0 0,.slice none 0 0,.slice none 0 0,.slice none 0 0,.slice none 0 0] 38)::.blk b1 (hwC H a1 n1 c1 a2 n2 c2 a3 n3 c3 a4 n4 c4 a5 n5 c5)::S)) w:=hw.ps [1,2]
    refine byG ?_;refine W_mix1 [.blk b3 (.cells #[.string H.Name,.slice q m d,.slice none 0 0,.slice none 0 0,.slice none 0 0,.slice none 0 0] 38)] (.own (.slice q m d) 69 4 (Z.map enc)::.blk bh (.cells (enc x).toArray 69)::.blk b2 (.cells #[.string ⟨#[]⟩,.slice none 0 0,.slice none 0 0,.slice none 0 0,.slice none 0 0,.slice none 0 0] 38)::.blk b1 (hwC H a1 n1 c1 a2 n2 c2 a3 n3 c3 a4 n4 c4 a5 n5 c5)::S) [[],[],[],[],[],[],[],[],[],[],[0]] [[],[],[],[],[],[],[],[0],[0],[0],[0]] hw ?_
    refine byM ?_;refine mStoreE (j:=0) (k:=k+1) (r:=enc y) ?_
    refine mEnd fun w g hw=>?_
    have hw:Wd Γ (([.blk b3 (.cells #[.string H.Name,.slice q m d,.slice none 0 0,.slice none 0 0,.slice none 0 0,.slice none 0 0] 38)]++(.own (.slice q m d) 69 4 ((Z.map enc).set (k+1) (enc y))::.blk bh (.cells (enc x).toArray 69)::.blk b2 (.cells #[.string ⟨#[]⟩,.slice none 0 0,.slice none 0 0,.slice none 0 0,.slice none 0 0,.slice none 0 0] 38)::.blk b1 (hwC H a1 n1 c1 a2 n2 c2 a3 n3 c3 a4 n4 c4 a5 n5 c5)::S))++[]) w:=hw
    rw[List.append_nil]at hw;refine byG ?_;refine lStoreE (k:=k) (i:=1) (r:=enc x) ?_ (hx:=by show Value.pointer _=_;rw[show (((k+1:Nat):Int)-1).toNat=k by omega])
    intro w hw;have hw:Wd Γ (.blk b3 (.cells #[.string H.Name,.slice q m d,.slice none 0 0,.slice none 0 0,.slice none 0 0,.slice none 0 0] 38)::.own (.slice q m d) 69 4 (((Z.map enc).set (k+1) (enc y)).set k (enc x))::.blk bh (.cells (enc x).toArray 69)::.blk b2 (.cells #[.string ⟨#[]⟩,.slice none 0 0,.slice none 0 0,.slice none 0 0,.slice none 0 0,.slice none 0 0] 38)::.blk b1 (hwC H a1 n1 c1 a2 n2 c2 a3 n3 c3 a4 n4 c4 a5 n5 c5)::S) w:=hw
    rw[←List.map_set,←List.map_set]at hw;have hw:Wd Γ (.own (.slice q m d) 69 4 (((Z.set (k+1) y).set k x).map enc)::.blk b3 (.cells #[.string H.Name,.slice q m d,.slice none 0 0,.slice none 0 0,.slice none 0 0,.slice none 0 0] 38)::.blk b2 (.cells #[.string ⟨#[]⟩,.slice none 0 0,.slice none 0 0,.slice none 0 0,.slice none 0 0,.slice none 0 0] 38)::.blk b1 (hwC H a1 n1 c1 a2 n2 c2 a3 n3 c3 a4 n4 c4 a5 n5 c5)::S) w:=(hw.ds [2]).ps [1]
    refine byG ?_;exact⟨k,by omega,k,_,rfl,by omega,by simp;omega,hC,⟨rfl,rfl,rfl,rfl,by show Value.int .i64 (((k+1:Nat):Int)-1)=_;rw[e1],trivial⟩,hw⟩
   ·have h2:(ltC cCore) x y=false:=by first|(rw[lt_CoreT];simpa using h2)|simpa using h2
    rw[bubC_stop hx hy h2]at hC;refine byG ?_;exact⟨μ-1,by omega,i+1,Z,by omega,by omega,hZ,by rw[hB2,hC],⟨rfl,rfl,rfl,rfl,trivial⟩,hw⟩
 have him:¬i<m:=by have:=of_decide_eq_false h;omega
 clear h;rw[show m-i=0 by omega]at hB
 have hB:isort (ltC cCore) H.Cores=Y:=hB
 rw[←hB]at hw;clear hB hY hμ hi him;obtain⟨⟨p1,k1,l1⟩,hv⟩:∃t:Option Addr×Nat×Nat,t=(q,m,d):=⟨_,rfl⟩
 have hv:Value.slice q m d=Value.slice p1 k1 l1:=by cases hv;rfl
 rw[hv]at hw;clear hv hm;refine byG ?_;have hw:Wd Γ (.own (.slice none 0 0) 125 5 ([])::.blk b3 (.cells #[.string H.Name,.slice p1 k1 l1,.slice none 0 0,.slice none 0 0,.slice none 0 0,.slice none 0 0] 38)::.blk b2 (.cells #[.string ⟨#[]⟩,.slice none 0 0,.slice none 0 0,.slice none 0 0,.slice none 0 0,.slice none 0 0] 38)::.blk b1 (hwC H a1 n1 c1 a2 n2 c2 a3 n3 c3 a4 n4 c4 a5 n5 c5)::.own (.slice p1 k1 l1) 69 4 ((isort (ltC cCore) H.Cores).map enc)::S) w:=Wd.addNil (hw.ps [3,3,3])
 refine byG ?_;refine W_loop (fun μ ρ w=>∃(i:Nat) (Γ':Gho) (q:Option Addr) (m d:Nat) (C:List CacheH),μ+i=n2∧Γ.le Γ'∧C.length=i∧(∀c∈C,COk Γ' c)∧isort (ltC cCacheT) (H.Caches.map sortC)=isF (ltC cCacheT) (n2-i) i (C.map CacheH.T++(H.Caches.map sortC).drop i)∧Has ρ [(1,.pointer (some ⟨b1,0,none⟩)),(2,.pointer (some ⟨b2,0,none⟩)),(3,.pointer (some ⟨b3,0,none⟩)),(7,.int .i64 i)]∧Wd Γ' (.own (.slice q m d) 125 5 (C.map cC)::.blk b3 (.cells #[.string H.Name,.slice p1 k1 l1,.slice q m d,.slice none 0 0,.slice none 0 0,.slice none 0 0] 38)::.blk b2 (.cells #[.string ⟨#[]⟩,.slice none 0 0,.slice none 0 0,.slice none 0 0,.slice none 0 0,.slice none 0 0] 38)::.blk b1 (hwC H a1 n1 c1 a2 n2 c2 a3 n3 c3 a4 n4 c4 a5 n5 c5)::.own (.slice p1 k1 l1) 69 4 ((isort (ltC cCore) H.Cores).map enc)::S) w) n2 ⟨0,Γ,none,0,0,[],by omega,Gho.le.refl _,rfl,fun c h=>by simp at h,by rw[isort_zero,←hcs,List.length_map,List.length_map,←hn2];rfl,⟨rfl,rfl,rfl,rfl,trivial⟩,hw⟩ ?_
 clear hw;rintro μ ρ w ⟨i,Γ',q,m,d,C,hμ,g2,hCl,hCo,hB,hρ,hw⟩
 rw[hρ.eq];clear hρ;have hm:m=C.length:=by
  obtain⟨q',m',d',e,hm,-,-⟩:=hw.own_shape (i:=0) rfl
  cases e
  simpa using hm
 refine byG ?_;refine W_cond rfl (fun h=>?_) (fun h=>?_)
 ·have hin:i<n2:=by have:=of_decide_eq_true h;omega
  clear h;obtain⟨c,hc⟩:=get_lt (l:=cs) (k:=i) (by omega)
  have hcm:=List.mem_of_getElem? hc
  have hck:=(hok c hcm).mono g2
  have hcl:c.Cores.length≤10000:=hlk c.T (by rw[←hcs];exact List.mem_map_of_mem hcm)
  have r2':=r2.mono g2
  refine byG ?_;refine lAlloc ?_;intro b8 w hw;refine lStore ?_;intro w hw;have hw:Wd Γ' (.blk b8 (.cells (cC c).toArray 125)::.own (.slice q m d) 125 5 (C.map cC)::.blk b3 (.cells #[.string H.Name,.slice p1 k1 l1,.slice q m d,.slice none 0 0,.slice none 0 0,.slice none 0 0] 38)::.blk b2 (.cells #[.string ⟨#[]⟩,.slice none 0 0,.slice none 0 0,.slice none 0 0,.slice none 0 0,.slice none 0 0] 38)::.blk b1 (hwC H a1 n1 c1 a2 n2 c2 a3 n3 c3 a4 n4 c4 a5 n5 c5)::.own (.slice p1 k1 l1) 69 4 ((isort (ltC cCore) H.Cores).map enc)::S) w:=hw
  refine byG ?_;refine lCall ((SortInts_any (RepS.rdS hck) (by omega) hw).mono fun e w hq=>?_)
  clear hw;obtain⟨v8,rfl,hw⟩:=hq;refine⟨_,rfl,?_⟩;obtain⟨a8,n8,c8,rfl,hn8,-,-⟩:=hw.own_shape (i:=0) rfl
  obtain⟨Γ2,g3,r8,hw1⟩:=hw.freeze;clear hw;have hw:=hw1;clear hw1;obtain⟨c',hc'⟩:∃c':CacheH,c'=⟨c.Name,c.Level,c.Line,c.Size,a8,n8,c8,bsort ltI c.Cores⟩:=⟨_,rfl⟩
  refine byG ?_;refine lStore ?_;intro w hw;have hw:Wd Γ2 (.blk b8 (.cells #[.string c.Name,.int .i64 c.Level,.int .i64 c.Line,.int .u64 c.Size,.slice a8 n8 c8] 125)::.own (.slice q m d) 125 5 (C.map cC)::.blk b3 (.cells #[.string H.Name,.slice p1 k1 l1,.slice q m d,.slice none 0 0,.slice none 0 0,.slice none 0 0] 38)::.blk b2 (.cells #[.string ⟨#[]⟩,.slice none 0 0,.slice none 0 0,.slice none 0 0,.slice none 0 0,.slice none 0 0] 38)::.blk b1 (hwC H a1 n1 c1 a2 n2 c2 a3 n3 c3 a4 n4 c4 a5 n5 c5)::.own (.slice p1 k1 l1) 69 4 ((isort (ltC cCore) H.Cores).map enc)::S) w:=hw
  refine byG ?_;refine lBuildSlice [cC ⟨c.Name,c.Level,c.Line,c.Size,a8,n8,c8,bsort ltI c.Cores⟩] ?_
  rw[←hc'];intro a9 w hw;refine byG ?_;refine lApp (i:=2) (rows2:=[cC c']) ?_ (Wd.own_rd (i:=0) hw rfl)
  intro v' w hw;obtain⟨q',m',d',rfl,hm',-,-⟩:=hw.own_shape (i:=2) rfl
  simp at hm'
  refine byG ?_;refine lStore ?_;intro w hw;obtain⟨Y,hYe⟩:∃Y,Y=C++[c']:=⟨_,rfl⟩
  have hw:Wd Γ2 (.own (.slice q' m' d') 125 5 (Y.map cC)::.blk b3 (.cells #[.string H.Name,.slice p1 k1 l1,.slice q' m' d',.slice none 0 0,.slice none 0 0,.slice none 0 0] 38)::.blk b2 (.cells #[.string ⟨#[]⟩,.slice none 0 0,.slice none 0 0,.slice none 0 0,.slice none 0 0,.slice none 0 0] 38)::.blk b1 (hwC H a1 n1 c1 a2 n2 c2 a3 n3 c3 a4 n4 c4 a5 n5 c5)::.own (.slice p1 k1 l1) 69 4 ((isort (ltC cCore) H.Cores).map enc)::S) w:=by
   rw[hYe,List.map_append];exact hw.ds [0,0]
  have hY:Y.length=m':=by rw[hYe,List.length_append];simp;omega
  have hcx:(H.Caches.map sortC)[i]? = some c'.T:=by
   rw[←hcs,List.getElem?_map,List.getElem?_map,hc,hc'];unfold sortC CacheH.T;simp only[Option.map_some]
   rw[bsort_eq]
  have hNext:=isF_next (L:=C.map CacheH.T) hin (by simp[hCl]) hcx hB
  rw[show C.map CacheH.T++[c'.T]=Y.map CacheH.T by rw[hYe,List.map_append];rfl,←bubC_map (f:=CacheH.T) (lt:=ltC cCache) (fun x y=>rfl)]at hNext
  have hYo:∀c∈bubC (ltC cCache) i Y,COk Γ2 c:=fun z hz=>by
   rw[hYe,←hCl]at hz;rcases List.mem_append.1 ((bubC_perm C c' []).mem_iff.1 hz) with h|h
   ·exact(hCo z h).mono g3
   ·rw[List.mem_singleton.1 h,hc'];exact r8
  have hmi:m'=i+1:=by omega
  have g4:=g2.trans g3
  clear hYe hcx hB hCo hm hm' hck r2' r8 hc' hCl g2 g3 hc hcm hcl hn8;refine byG ?_;refine W_loop (fun μ2 ρ w=>∃(k:Nat) (Z:List CacheH),μ2=k∧k≤i∧Z.length=m'∧bubC (ltC cCache) i Y=bubC (ltC cCache) k Z∧Has ρ [(1,.pointer (some ⟨b1,0,none⟩)),(2,.pointer (some ⟨b2,0,none⟩)),(3,.pointer (some ⟨b3,0,none⟩)),(7,.int .i64 i),(9,.int .i64 k)]∧Wd Γ2 (.own (.slice q' m' d') 125 5 (Z.map cC)::.blk b3 (.cells #[.string H.Name,.slice p1 k1 l1,.slice q' m' d',.slice none 0 0,.slice none 0 0,.slice none 0 0] 38)::.blk b2 (.cells #[.string ⟨#[]⟩,.slice none 0 0,.slice none 0 0,.slice none 0 0,.slice none 0 0,.slice none 0 0] 38)::.blk b1 (hwC H a1 n1 c1 a2 n2 c2 a3 n3 c3 a4 n4 c4 a5 n5 c5)::.own (.slice p1 k1 l1) 69 4 ((isort (ltC cCore) H.Cores).map enc)::S) w) i ⟨i,Y,rfl,Nat.le_refl _,hY,rfl,⟨rfl,rfl,rfl,rfl,rfl,trivial⟩,hw⟩ ?_
  clear hw;rintro μ2 ρ w ⟨k,Z,rfl,hk,hZ,hC,hρ,hw⟩
  rw[hρ.eq];clear hρ;refine W_seq ?_
  refine W_seq ?_
  cases μ2 with
  | zero=>
   refine W_quiet (by kernel_rfl) (by kernel_rfl) hw ?_
   iterate 3 (first|refine Q_nil ?_|(apply Q_plain;first|(apply Q_go;first|refine qP ?_|refine qPg ?_)|refine qY ?_)|(apply Q_guarded;first|(apply Q_go;first|refine qPG ?_|refine qPgG ?_)|refine qG ?_))
   iterate 12 (refine qG (v:=.bool true) ?_ (hy:=fun h=>by have h2:true=false:=h.symm.trans rfl;cases h2))
   refine qY (v:=.bool false) ?_ (hy:=fun w hw=>y_pickF rfl rfl)
   refine Q_nil ?_
   clear hw;intro w hw;refine W_cond rfl (fun h=>by cases h) (fun _=>?_)
   refine byG ?_;have hC:bubC (ltC cCache) i Y=Z:=hC
   exact⟨μ-1,by omega,i+1,Γ2,q',m',d',Z,by omega,g4,by omega,by rw[←hC];exact hYo,by rw[←hC];exact hNext,⟨rfl,rfl,rfl,rfl,trivial⟩,hw⟩
  | succ k=>
   obtain⟨x,hx⟩:=get_lt (l:=Z) (k:=k+1) (by omega)
   obtain⟨y,hy⟩:=get_lt (l:=Z) (k:=k) (by omega)
   have e1:(((k+1:Nat):Int)-1)=(k:Int):=by omega
   have hx':Z[((k+1:Nat):Int).toNat]? = some x:=hx
   have hy':Z[(((k+1:Nat):Int)-1).toNat]? = some y:=by rw[e1];exact hy
   refine W_quiet (by kernel_rfl) (by kernel_rfl) hw ?_
   iterate 1 (first|refine Q_nil ?_|(apply Q_plain;first|(apply Q_go;first|refine qP ?_|refine qPg ?_)|refine qY ?_)|(apply Q_guarded;first|(apply Q_go;first|refine qPG ?_|refine qPgG ?_)|refine qG ?_))
   refine qT (b:=decide ((0:Int)<((k+1:Nat):Int))) (decide_eq_true (by omega)) ?_
   refine byQ ?_;clear hw;intro w hw;refine W_cond rfl (fun h2=>?_) (fun h2=>?_)
   ·have h2:(ltC cCache) x y=true:=by first|(rw[lt_CacheH];simpa using h2)|simpa using h2
    have hst:=bubC_step hx hy h2
    rw[hst]at hC;clear hst;refine byG ?_;refine lAlloc ?_;intro bh w hw;refine lStore ?_;intro w hw;have hw:Wd Γ2 ([.blk b3 (.cells #[.string H.Name,.slice p1 k1 l1,.slice q' m' d',.slice none 0 0,.slice none 0 0,.slice none 0 0] 38)]++(.own (.slice q' m' d') 125 5 (Z.map cC)::.blk bh (.cells (cC x).toArray 125)::.blk b2 (.cells #[.string ⟨#[]⟩,.slice none 0 0,.slice none 0 0,.slice none 0 0,.slice none 0 0,.slice none 0 0] 38)::.blk b1 (hwC H a1 n1 c1 a2 n2 c2 a3 n3 c3 a4 n4 c4 a5 n5 c5)::.own (.slice p1 k1 l1) 69 4 ((isort (ltC cCore) H.Cores).map enc)::S)) w:=hw.ps [1,2]
    refine byG ?_;refine W_mix1 [.blk b3 (.cells #[.string H.Name,.slice p1 k1 l1,.slice q' m' d',.slice none 0 0,.slice none 0 0,.slice none 0 0] 38)] (.own (.slice q' m' d') 125 5 (Z.map cC)::.blk bh (.cells (cC x).toArray 125)::.blk b2 (.cells #[.string ⟨#[]⟩,.slice none 0 0,.slice none 0 0,.slice none 0 0,.slice none 0 0,.slice none 0 0] 38)::.blk b1 (hwC H a1 n1 c1 a2 n2 c2 a3 n3 c3 a4 n4 c4 a5 n5 c5)::.own (.slice p1 k1 l1) 69 4 ((isort (ltC cCore) H.Cores).map enc)::S) [[],[],[],[],[],[],[],[],[],[],[0]] [[],[],[],[],[],[],[],[0],[0],[0],[0]] hw ?_
    refine byM ?_;refine mStoreE (j:=0) (k:=k+1) (r:=cC y) ?_
    refine mEnd fun w g hw=>?_
    have hw:Wd Γ2 (([.blk b3 (.cells #[.string H.Name,.slice p1 k1 l1,.slice q' m' d',.slice none 0 0,.slice none 0 0,.slice none 0 0] 38)]++(.own (.slice q' m' d') 125 5 ((Z.map cC).set (k+1) (cC y))::.blk bh (.cells (cC x).toArray 125)::.blk b2 (.cells #[.string ⟨#[]⟩,.slice none 0 0,.slice none 0 0,.slice none 0 0,.slice none 0 0,.slice none 0 0] 38)::.blk b1 (hwC H a1 n1 c1 a2 n2 c2 a3 n3 c3 a4 n4 c4 a5 n5 c5)::.own (.slice p1 k1 l1) 69 4 ((isort (ltC cCore) H.Cores).map enc)::S))++[]) w:=hw
    rw[List.append_nil]at hw;refine byG ?_;refine lStoreE (k:=k) (i:=1) (r:=cC x) ?_ (hx:=by show Value.pointer _=_;rw[show (((k+1:Nat):Int)-1).toNat=k by omega])
    intro w hw;have hw:Wd Γ2 (.blk b3 (.cells #[.string H.Name,.slice p1 k1 l1,.slice q' m' d',.slice none 0 0,.slice none 0 0,.slice none 0 0] 38)::.own (.slice q' m' d') 125 5 (((Z.map cC).set (k+1) (cC y)).set k (cC x))::.blk bh (.cells (cC x).toArray 125)::.blk b2 (.cells #[.string ⟨#[]⟩,.slice none 0 0,.slice none 0 0,.slice none 0 0,.slice none 0 0,.slice none 0 0] 38)::.blk b1 (hwC H a1 n1 c1 a2 n2 c2 a3 n3 c3 a4 n4 c4 a5 n5 c5)::.own (.slice p1 k1 l1) 69 4 ((isort (ltC cCore) H.Cores).map enc)::S) w:=hw
    rw[←List.map_set,←List.map_set]at hw;have hw:Wd Γ2 (.own (.slice q' m' d') 125 5 (((Z.set (k+1) y).set k x).map cC)::.blk b3 (.cells #[.string H.Name,.slice p1 k1 l1,.slice q' m' d',.slice none 0 0,.slice none 0 0,.slice none 0 0] 38)::.blk b2 (.cells #[.string ⟨#[]⟩,.slice none 0 0,.slice none 0 0,.slice none 0 0,.slice none 0 0,.slice none 0 0] 38)::.blk b1 (hwC H a1 n1 c1 a2 n2 c2 a3 n3 c3 a4 n4 c4 a5 n5 c5)::.own (.slice p1 k1 l1) 69 4 ((isort (ltC cCore) H.Cores).map enc)::S) w:=(hw.ds [2]).ps [1]
    refine byG ?_;exact⟨k,by omega,k,_,rfl,by omega,by simp;omega,hC,⟨rfl,rfl,rfl,rfl,by show Value.int .i64 (((k+1:Nat):Int)-1)=_;rw[e1],trivial⟩,hw⟩
   ·have h2:(ltC cCache) x y=false:=by first|(rw[lt_CacheH];simpa using h2)|simpa using h2
    rw[bubC_stop hx hy h2]at hC;refine byG ?_;exact⟨μ-1,by omega,i+1,Γ2,q',m',d',Z,by omega,g4,by omega,by rw[←hC];exact hYo,by rw[←hC];exact hNext,⟨rfl,rfl,rfl,rfl,trivial⟩,hw⟩
 have hin:n2=i:=by have:=of_decide_eq_false h;omega
 clear h;rw[hin,Nat.sub_self,List.drop_of_length_le (by rw[List.length_map,←hcs,List.length_map];omega),List.append_nil]at hB
 have hB2:C.map CacheH.T=isort (ltC cCacheT) (H.Caches.map sortC):=hB.symm
 clear hB hμ hin hCl;obtain⟨C2,hC2⟩:∃C2,C2=C:=⟨_,rfl⟩
 rw[←hC2]at hw hB2 hCo
 clear hC2;obtain⟨⟨p2,k2,l2⟩,hv⟩:∃t:Option Addr×Nat×Nat,t=(q,m,d):=⟨_,rfl⟩
 have hv:Value.slice q m d=Value.slice p2 k2 l2:=by cases hv;rfl
 rw[hv]at hw;clear hv hm;refine byG ?_;have hw:Wd Γ' (.own (.slice none 0 0) 120 3 ([])::.blk b3 (.cells #[.string H.Name,.slice p1 k1 l1,.slice p2 k2 l2,.slice none 0 0,.slice none 0 0,.slice none 0 0] 38)::.blk b2 (.cells #[.string ⟨#[]⟩,.slice none 0 0,.slice none 0 0,.slice none 0 0,.slice none 0 0,.slice none 0 0] 38)::.blk b1 (hwC H a1 n1 c1 a2 n2 c2 a3 n3 c3 a4 n4 c4 a5 n5 c5)::.own (.slice p2 k2 l2) 125 5 (C2.map cC)::.own (.slice p1 k1 l1) 69 4 ((isort (ltC cCore) H.Cores).map enc)::S) w:=Wd.addNil (hw.ps [3,3,3])
 refine byG ?_;refine W_loop (fun μ ρ w=>∃(i:Nat) (q:Option Addr) (m d:Nat) (L:List LinkT),μ+i=n3∧L.length=i∧isort (ltC cLink) (H.Links.map canon)=isF (ltC cLink) (n3-i) i (L++(H.Links.map canon).drop i)∧Has ρ [(1,.pointer (some ⟨b1,0,none⟩)),(2,.pointer (some ⟨b2,0,none⟩)),(3,.pointer (some ⟨b3,0,none⟩)),(11,.int .i64 i)]∧Wd Γ' (.own (.slice q m d) 120 3 (L.map enc)::.blk b3 (.cells #[.string H.Name,.slice p1 k1 l1,.slice p2 k2 l2,.slice q m d,.slice none 0 0,.slice none 0 0] 38)::.blk b2 (.cells #[.string ⟨#[]⟩,.slice none 0 0,.slice none 0 0,.slice none 0 0,.slice none 0 0,.slice none 0 0] 38)::.blk b1 (hwC H a1 n1 c1 a2 n2 c2 a3 n3 c3 a4 n4 c4 a5 n5 c5)::.own (.slice p2 k2 l2) 125 5 (C2.map cC)::.own (.slice p1 k1 l1) 69 4 ((isort (ltC cCore) H.Cores).map enc)::S) w) n3 ⟨0,none,0,0,[],by omega,rfl,by rw[isort_zero,List.length_map,←hn3];rfl,⟨rfl,rfl,rfl,rfl,trivial⟩,hw⟩ ?_
 clear hw;rintro μ ρ w ⟨i,q,m,d,L,hμ,hCl,hB,hρ,hw⟩
 rw[hρ.eq];clear hρ;have hm:m=L.length:=by
  obtain⟨q',m',d',e,hm,-,-⟩:=hw.own_shape (i:=0) rfl
  cases e
  simpa using hm
 refine byG ?_;refine W_cond rfl (fun h=>?_) (fun h=>?_)
 ·have hin:i<n3:=by have:=of_decide_eq_true h;omega
  clear h;obtain⟨l,hl⟩:=get_lt (l:=H.Links) (k:=i) (by omega)
  have r3':=r3.mono g2
  refine byG ?_;refine lAlloc ?_;intro b12 w hw;refine lStore ?_;intro w hw;have hw:Wd Γ' (.blk b12 (.cells (enc l).toArray 120)::.own (.slice q m d) 120 3 (L.map enc)::.blk b3 (.cells #[.string H.Name,.slice p1 k1 l1,.slice p2 k2 l2,.slice q m d,.slice none 0 0,.slice none 0 0] 38)::.blk b2 (.cells #[.string ⟨#[]⟩,.slice none 0 0,.slice none 0 0,.slice none 0 0,.slice none 0 0,.slice none 0 0] 38)::.blk b1 (hwC H a1 n1 c1 a2 n2 c2 a3 n3 c3 a4 n4 c4 a5 n5 c5)::.own (.slice p2 k2 l2) 125 5 (C2.map cC)::.own (.slice p1 k1 l1) 69 4 ((isort (ltC cCore) H.Cores).map enc)::S) w:=hw
  refine byG ?_;refine lBuildSlice [enc (canon l)] ?_ (hrw:=canon_cells l)
  intro a9 w hw;refine byG ?_;refine lApp (i:=2) (rows2:=[enc (canon l)]) ?_ (Wd.own_rd (i:=0) hw rfl)
  intro v' w hw;obtain⟨q',m',d',rfl,hm',-,-⟩:=hw.own_shape (i:=2) rfl
  simp at hm'
  refine byG ?_;refine lStore ?_;intro w hw;obtain⟨Y,hYe⟩:∃Y,Y=L++[canon l]:=⟨_,rfl⟩
  have hw:Wd Γ' (.own (.slice q' m' d') 120 3 (Y.map enc)::.blk b3 (.cells #[.string H.Name,.slice p1 k1 l1,.slice p2 k2 l2,.slice q' m' d',.slice none 0 0,.slice none 0 0] 38)::.blk b2 (.cells #[.string ⟨#[]⟩,.slice none 0 0,.slice none 0 0,.slice none 0 0,.slice none 0 0,.slice none 0 0] 38)::.blk b1 (hwC H a1 n1 c1 a2 n2 c2 a3 n3 c3 a4 n4 c4 a5 n5 c5)::.own (.slice p2 k2 l2) 125 5 (C2.map cC)::.own (.slice p1 k1 l1) 69 4 ((isort (ltC cCore) H.Cores).map enc)::S) w:=by
   rw[hYe,List.map_append];exact hw.ds [0,0]
  have hY:Y.length=m':=by rw[hYe,List.length_append];simp;omega
  have hcx:(H.Links.map canon)[i]? = some (canon l):=by rw[List.getElem?_map,hl];rfl
  have hNext:=isF_next (L:=L) hin hCl hcx hB
  rw[←hYe]at hNext;have hmi:m'=i+1:=by omega
  clear hYe hcx hB hm hm' hCl r3' hl;refine byG ?_;refine W_loop (fun μ2 ρ w=>∃(k:Nat) (Z:List LinkT),μ2=k∧k≤i∧Z.length=m'∧bubC (ltC cLink) i Y=bubC (ltC cLink) k Z∧Has ρ [(1,.pointer (some ⟨b1,0,none⟩)),(2,.pointer (some ⟨b2,0,none⟩)),(3,.pointer (some ⟨b3,0,none⟩)),(11,.int .i64 i),(13,.int .i64 k)]∧Wd Γ' (.own (.slice q' m' d') 120 3 (Z.map enc)::.blk b3 (.cells #[.string H.Name,.slice p1 k1 l1,.slice p2 k2 l2,.slice q' m' d',.slice none 0 0,.slice none 0 0] 38)::.blk b2 (.cells #[.string ⟨#[]⟩,.slice none 0 0,.slice none 0 0,.slice none 0 0,.slice none 0 0,.slice none 0 0] 38)::.blk b1 (hwC H a1 n1 c1 a2 n2 c2 a3 n3 c3 a4 n4 c4 a5 n5 c5)::.own (.slice p2 k2 l2) 125 5 (C2.map cC)::.own (.slice p1 k1 l1) 69 4 ((isort (ltC cCore) H.Cores).map enc)::S) w) i ⟨i,Y,rfl,Nat.le_refl _,hY,rfl,⟨rfl,rfl,rfl,rfl,rfl,trivial⟩,hw⟩ ?_
  clear hw;rintro μ2 ρ w ⟨k,Z,rfl,hk,hZ,hC,hρ,hw⟩
  rw[hρ.eq];clear hρ;refine W_seq ?_
  refine W_seq ?_
  cases μ2 with
  | zero=>
   refine W_quiet (by kernel_rfl) (by kernel_rfl) hw ?_
   iterate 3 (first|refine Q_nil ?_|(apply Q_plain;first|(apply Q_go;first|refine qP ?_|refine qPg ?_)|refine qY ?_)|(apply Q_guarded;first|(apply Q_go;first|refine qPG ?_|refine qPgG ?_)|refine qG ?_))
   iterate 46 (refine qG (v:=.bool true) ?_ (hy:=fun h=>by have h2:true=false:=h.symm.trans rfl;cases h2))
   refine qY (v:=.bool false) ?_ (hy:=fun w hw=>y_pickF rfl rfl)
   refine Q_nil ?_
   clear hw;intro w hw;refine W_cond rfl (fun h=>by cases h) (fun _=>?_)
   refine byG ?_;have hC:bubC (ltC cLink) i Y=Z:=hC
   exact⟨μ-1,by omega,i+1,q',m',d',Z,by omega,by omega,by rw[←hC];exact hNext,⟨rfl,rfl,rfl,rfl,trivial⟩,hw⟩
  | succ k=>
   obtain⟨x,hx⟩:=get_lt (l:=Z) (k:=k+1) (by omega)
   obtain⟨y,hy⟩:=get_lt (l:=Z) (k:=k) (by omega)
   have e1:(((k+1:Nat):Int)-1)=(k:Int):=by omega
   have hx':Z[((k+1:Nat):Int).toNat]? = some x:=hx
   have hy':Z[(((k+1:Nat):Int)-1).toNat]? = some y:=by rw[e1];exact hy
   refine W_quiet (by kernel_rfl) (by kernel_rfl) hw ?_
   iterate 1 (first|refine Q_nil ?_|(apply Q_plain;first|(apply Q_go;first|refine qP ?_|refine qPg ?_)|refine qY ?_)|(apply Q_guarded;first|(apply Q_go;first|refine qPG ?_|refine qPgG ?_)|refine qG ?_))
   refine qT (b:=decide ((0:Int)<((k+1:Nat):Int))) (decide_eq_true (by omega)) ?_
   refine byQ ?_;clear hw;intro w hw;refine W_cond rfl (fun h2=>?_) (fun h2=>?_)
   ·have h2:(ltC cLink) x y=true:=by first|(rw[lt_LinkT];simpa using h2)|simpa using h2
    have hst:=bubC_step hx hy h2
    rw[hst]at hC;clear hst;refine byG ?_;refine lAlloc ?_;intro bh w hw;refine lStore ?_;intro w hw;have hw:Wd Γ' ([.blk b3 (.cells #[.string H.Name,.slice p1 k1 l1,.slice p2 k2 l2,.slice q' m' d',.slice none 0 0,.slice none 0 0] 38)]++(.own (.slice q' m' d') 120 3 (Z.map enc)::.blk bh (.cells (enc x).toArray 120)::.blk b2 (.cells #[.string ⟨#[]⟩,.slice none 0 0,.slice none 0 0,.slice none 0 0,.slice none 0 0,.slice none 0 0] 38)::.blk b1 (hwC H a1 n1 c1 a2 n2 c2 a3 n3 c3 a4 n4 c4 a5 n5 c5)::.own (.slice p2 k2 l2) 125 5 (C2.map cC)::.own (.slice p1 k1 l1) 69 4 ((isort (ltC cCore) H.Cores).map enc)::S)) w:=hw.ps [1,2]
    refine byG ?_;refine W_mix1 [.blk b3 (.cells #[.string H.Name,.slice p1 k1 l1,.slice p2 k2 l2,.slice q' m' d',.slice none 0 0,.slice none 0 0] 38)] (.own (.slice q' m' d') 120 3 (Z.map enc)::.blk bh (.cells (enc x).toArray 120)::.blk b2 (.cells #[.string ⟨#[]⟩,.slice none 0 0,.slice none 0 0,.slice none 0 0,.slice none 0 0,.slice none 0 0] 38)::.blk b1 (hwC H a1 n1 c1 a2 n2 c2 a3 n3 c3 a4 n4 c4 a5 n5 c5)::.own (.slice p2 k2 l2) 125 5 (C2.map cC)::.own (.slice p1 k1 l1) 69 4 ((isort (ltC cCore) H.Cores).map enc)::S) [[],[],[],[],[],[],[],[],[],[],[0]] [[],[],[],[],[],[],[],[0],[0],[0],[0]] hw ?_
    refine byM ?_;refine mStoreE (j:=0) (k:=k+1) (r:=enc y) ?_
    refine mEnd fun w g hw=>?_
    have hw:Wd Γ' (([.blk b3 (.cells #[.string H.Name,.slice p1 k1 l1,.slice p2 k2 l2,.slice q' m' d',.slice none 0 0,.slice none 0 0] 38)]++(.own (.slice q' m' d') 120 3 ((Z.map enc).set (k+1) (enc y))::.blk bh (.cells (enc x).toArray 120)::.blk b2 (.cells #[.string ⟨#[]⟩,.slice none 0 0,.slice none 0 0,.slice none 0 0,.slice none 0 0,.slice none 0 0] 38)::.blk b1 (hwC H a1 n1 c1 a2 n2 c2 a3 n3 c3 a4 n4 c4 a5 n5 c5)::.own (.slice p2 k2 l2) 125 5 (C2.map cC)::.own (.slice p1 k1 l1) 69 4 ((isort (ltC cCore) H.Cores).map enc)::S))++[]) w:=hw
    rw[List.append_nil]at hw;refine byG ?_;refine lStoreE (k:=k) (i:=1) (r:=enc x) ?_ (hx:=by show Value.pointer _=_;rw[show (((k+1:Nat):Int)-1).toNat=k by omega])
    intro w hw;have hw:Wd Γ' (.blk b3 (.cells #[.string H.Name,.slice p1 k1 l1,.slice p2 k2 l2,.slice q' m' d',.slice none 0 0,.slice none 0 0] 38)::.own (.slice q' m' d') 120 3 (((Z.map enc).set (k+1) (enc y)).set k (enc x))::.blk bh (.cells (enc x).toArray 120)::.blk b2 (.cells #[.string ⟨#[]⟩,.slice none 0 0,.slice none 0 0,.slice none 0 0,.slice none 0 0,.slice none 0 0] 38)::.blk b1 (hwC H a1 n1 c1 a2 n2 c2 a3 n3 c3 a4 n4 c4 a5 n5 c5)::.own (.slice p2 k2 l2) 125 5 (C2.map cC)::.own (.slice p1 k1 l1) 69 4 ((isort (ltC cCore) H.Cores).map enc)::S) w:=hw
    rw[←List.map_set,←List.map_set]at hw;have hw:Wd Γ' (.own (.slice q' m' d') 120 3 (((Z.set (k+1) y).set k x).map enc)::.blk b3 (.cells #[.string H.Name,.slice p1 k1 l1,.slice p2 k2 l2,.slice q' m' d',.slice none 0 0,.slice none 0 0] 38)::.blk b2 (.cells #[.string ⟨#[]⟩,.slice none 0 0,.slice none 0 0,.slice none 0 0,.slice none 0 0,.slice none 0 0] 38)::.blk b1 (hwC H a1 n1 c1 a2 n2 c2 a3 n3 c3 a4 n4 c4 a5 n5 c5)::.own (.slice p2 k2 l2) 125 5 (C2.map cC)::.own (.slice p1 k1 l1) 69 4 ((isort (ltC cCore) H.Cores).map enc)::S) w:=(hw.ds [2]).ps [1]
    refine byG ?_;exact⟨k,by omega,k,_,rfl,by omega,by simp;omega,hC,⟨rfl,rfl,rfl,rfl,by show Value.int .i64 (((k+1:Nat):Int)-1)=_;rw[e1],trivial⟩,hw⟩
   ·have h2:(ltC cLink) x y=false:=by first|(rw[lt_LinkT];simpa using h2)|simpa using h2
    rw[bubC_stop hx hy h2]at hC;refine byG ?_;exact⟨μ-1,by omega,i+1,q',m',d',Z,by omega,by omega,by rw[←hC];exact hNext,⟨rfl,rfl,rfl,rfl,trivial⟩,hw⟩
 have hin:n3=i:=by have:=of_decide_eq_false h;omega
 clear h;rw[hin,Nat.sub_self,List.drop_of_length_le (by rw[List.length_map];omega),List.append_nil]at hB
 have hB:isort (ltC cLink) (H.Links.map canon)=L:=hB
 rw[←hB]at hw;clear hB hμ hin hCl;obtain⟨⟨p3,k3,l3⟩,hv⟩:∃t:Option Addr×Nat×Nat,t=(q,m,d):=⟨_,rfl⟩
 have hv:Value.slice q m d=Value.slice p3 k3 l3:=by cases hv;rfl
 rw[hv]at hw;clear hv hm;refine byG ?_;have hw:Wd Γ' (.own (.slice none 0 0) 123 5 ([])::.blk b3 (.cells #[.string H.Name,.slice p1 k1 l1,.slice p2 k2 l2,.slice p3 k3 l3,.slice none 0 0,.slice none 0 0] 38)::.blk b2 (.cells #[.string ⟨#[]⟩,.slice none 0 0,.slice none 0 0,.slice none 0 0,.slice none 0 0,.slice none 0 0] 38)::.blk b1 (hwC H a1 n1 c1 a2 n2 c2 a3 n3 c3 a4 n4 c4 a5 n5 c5)::.own (.slice p3 k3 l3) 120 3 ((isort (ltC cLink) (H.Links.map canon)).map enc)::.own (.slice p2 k2 l2) 125 5 (C2.map cC)::.own (.slice p1 k1 l1) 69 4 ((isort (ltC cCore) H.Cores).map enc)::S) w:=Wd.addNil (hw.ps [3,3,3])
 refine byG ?_;refine lApp (i:=0) (rows2:=H.Mems.map enc) ?_ ((r4.mono g2).rd hw) (h1:=encs_one _) (hm:=by simp;omega)
 intro v' w hw;obtain⟨q,m,d,rfl,hm,-,-⟩:=hw.own_shape (i:=0) rfl
 simp at hm
 refine byG ?_;refine lStore ?_;intro w hw;have hw:Wd Γ' (.own (.slice q m d) 123 5 (H.Mems.map enc)::.blk b3 (.cells #[.string H.Name,.slice p1 k1 l1,.slice p2 k2 l2,.slice p3 k3 l3,.slice q m d,.slice none 0 0] 38)::.blk b2 (.cells #[.string ⟨#[]⟩,.slice none 0 0,.slice none 0 0,.slice none 0 0,.slice none 0 0,.slice none 0 0] 38)::.blk b1 (hwC H a1 n1 c1 a2 n2 c2 a3 n3 c3 a4 n4 c4 a5 n5 c5)::.own (.slice p3 k3 l3) 120 3 ((isort (ltC cLink) (H.Links.map canon)).map enc)::.own (.slice p2 k2 l2) 125 5 (C2.map cC)::.own (.slice p1 k1 l1) 69 4 ((isort (ltC cCore) H.Cores).map enc)::S) w:=hw
 refine byG ?_;refine W_loop (fun μ ρ w=>∃(i:Nat) (Y:List MemT),1≤i∧(m≤i+μ)∧Y.length=m∧isort (ltC cMem) H.Mems=isF (ltC cMem) (m-i) i Y∧Has ρ [(1,.pointer (some ⟨b1,0,none⟩)),(2,.pointer (some ⟨b2,0,none⟩)),(3,.pointer (some ⟨b3,0,none⟩)),(15,.int .i64 i)]∧Wd Γ' (.own (.slice q m d) 123 5 (Y.map enc)::.blk b3 (.cells #[.string H.Name,.slice p1 k1 l1,.slice p2 k2 l2,.slice p3 k3 l3,.slice q m d,.slice none 0 0] 38)::.blk b2 (.cells #[.string ⟨#[]⟩,.slice none 0 0,.slice none 0 0,.slice none 0 0,.slice none 0 0,.slice none 0 0] 38)::.blk b1 (hwC H a1 n1 c1 a2 n2 c2 a3 n3 c3 a4 n4 c4 a5 n5 c5)::.own (.slice p3 k3 l3) 120 3 ((isort (ltC cLink) (H.Links.map canon)).map enc)::.own (.slice p2 k2 l2) 125 5 (C2.map cC)::.own (.slice p1 k1 l1) 69 4 ((isort (ltC cCore) H.Cores).map enc)::S) w) m ⟨1,H.Mems,by omega,by omega,hm.symm,by unfold isort;rw[←hm],⟨rfl,rfl,rfl,rfl,trivial⟩,hw⟩ ?_
 clear hw;rintro μ ρ w ⟨i,Y,hi,hμ,hY,hB,hρ,hw⟩
 rw[hρ.eq];clear hρ;refine byG ?_;refine W_cond rfl (fun h=>?_) (fun h=>?_)
 ·have him:i<m:=by have:=of_decide_eq_true h;omega
  clear h;have hB2:isort (ltC cMem) H.Mems=isF (ltC cMem) (m-(i+1)) (i+1) (bubC (ltC cMem) i Y):=by
   rw[hB,show m-i=(m-(i+1))+1 by omega];rfl
  refine byG ?_;refine W_loop (fun μ2 ρ w=>∃(k:Nat) (Z:List MemT),μ2=k∧k≤i∧Z.length=m∧bubC (ltC cMem) i Y=bubC (ltC cMem) k Z∧Has ρ [(1,.pointer (some ⟨b1,0,none⟩)),(2,.pointer (some ⟨b2,0,none⟩)),(3,.pointer (some ⟨b3,0,none⟩)),(15,.int .i64 i),(16,.int .i64 k)]∧Wd Γ' (.own (.slice q m d) 123 5 (Z.map enc)::.blk b3 (.cells #[.string H.Name,.slice p1 k1 l1,.slice p2 k2 l2,.slice p3 k3 l3,.slice q m d,.slice none 0 0] 38)::.blk b2 (.cells #[.string ⟨#[]⟩,.slice none 0 0,.slice none 0 0,.slice none 0 0,.slice none 0 0,.slice none 0 0] 38)::.blk b1 (hwC H a1 n1 c1 a2 n2 c2 a3 n3 c3 a4 n4 c4 a5 n5 c5)::.own (.slice p3 k3 l3) 120 3 ((isort (ltC cLink) (H.Links.map canon)).map enc)::.own (.slice p2 k2 l2) 125 5 (C2.map cC)::.own (.slice p1 k1 l1) 69 4 ((isort (ltC cCore) H.Cores).map enc)::S) w) i ⟨i,Y,rfl,Nat.le_refl _,hY,rfl,⟨rfl,rfl,rfl,rfl,rfl,trivial⟩,hw⟩ ?_
  clear hw;rintro μ2 ρ w ⟨k,Z,rfl,hk,hZ,hC,hρ,hw⟩
  rw[hρ.eq];clear hρ;refine W_seq ?_
  refine W_seq ?_
  cases μ2 with
  | zero=>
   refine W_quiet (by kernel_rfl) (by kernel_rfl) hw ?_
   iterate 3 (first|refine Q_nil ?_|(apply Q_plain;first|(apply Q_go;first|refine qP ?_|refine qPg ?_)|refine qY ?_)|(apply Q_guarded;first|(apply Q_go;first|refine qPG ?_|refine qPgG ?_)|refine qG ?_))
   iterate 14 (refine qG (v:=.bool true) ?_ (hy:=fun h=>by have h2:true=false:=h.symm.trans rfl;cases h2))
   refine qY (v:=.bool false) ?_ (hy:=fun w hw=>y_pickF rfl rfl)
   refine Q_nil ?_
   clear hw;intro w hw;refine W_cond rfl (fun h=>by cases h) (fun _=>?_)
   refine byG ?_;have hC:bubC (ltC cMem) i Y=Z:=hC
   exact⟨μ-1,by omega,i+1,Z,by omega,by omega,hZ,by rw[hB2,hC],⟨rfl,rfl,rfl,rfl,trivial⟩,hw⟩
  | succ k=>
   obtain⟨x,hx⟩:=get_lt (l:=Z) (k:=k+1) (by omega)
   obtain⟨y,hy⟩:=get_lt (l:=Z) (k:=k) (by omega)
   have e1:(((k+1:Nat):Int)-1)=(k:Int):=by omega
   have hx':Z[((k+1:Nat):Int).toNat]? = some x:=hx
   have hy':Z[(((k+1:Nat):Int)-1).toNat]? = some y:=by rw[e1];exact hy
   refine W_quiet (by kernel_rfl) (by kernel_rfl) hw ?_
   iterate 1 (first|refine Q_nil ?_|(apply Q_plain;first|(apply Q_go;first|refine qP ?_|refine qPg ?_)|refine qY ?_)|(apply Q_guarded;first|(apply Q_go;first|refine qPG ?_|refine qPgG ?_)|refine qG ?_))
   refine qT (b:=decide ((0:Int)<((k+1:Nat):Int))) (decide_eq_true (by omega)) ?_
   refine byQ ?_;clear hw;intro w hw;refine W_cond rfl (fun h2=>?_) (fun h2=>?_)
   ·have h2:(ltC cMem) x y=true:=by first|(rw[lt_MemT];simpa using h2)|simpa using h2
    have hst:=bubC_step hx hy h2
    rw[hst]at hC;clear hst;refine byG ?_;refine lAlloc ?_;intro bh w hw;refine lStore ?_;intro w hw;have hw:Wd Γ' ([.blk b3 (.cells #[.string H.Name,.slice p1 k1 l1,.slice p2 k2 l2,.slice p3 k3 l3,.slice q m d,.slice none 0 0] 38)]++(.own (.slice q m d) 123 5 (Z.map enc)::.blk bh (.cells (enc x).toArray 123)::.blk b2 (.cells #[.string ⟨#[]⟩,.slice none 0 0,.slice none 0 0,.slice none 0 0,.slice none 0 0,.slice none 0 0] 38)::.blk b1 (hwC H a1 n1 c1 a2 n2 c2 a3 n3 c3 a4 n4 c4 a5 n5 c5)::.own (.slice p3 k3 l3) 120 3 ((isort (ltC cLink) (H.Links.map canon)).map enc)::.own (.slice p2 k2 l2) 125 5 (C2.map cC)::.own (.slice p1 k1 l1) 69 4 ((isort (ltC cCore) H.Cores).map enc)::S)) w:=hw.ps [1,2]
    refine byG ?_;refine W_mix1 [.blk b3 (.cells #[.string H.Name,.slice p1 k1 l1,.slice p2 k2 l2,.slice p3 k3 l3,.slice q m d,.slice none 0 0] 38)] (.own (.slice q m d) 123 5 (Z.map enc)::.blk bh (.cells (enc x).toArray 123)::.blk b2 (.cells #[.string ⟨#[]⟩,.slice none 0 0,.slice none 0 0,.slice none 0 0,.slice none 0 0,.slice none 0 0] 38)::.blk b1 (hwC H a1 n1 c1 a2 n2 c2 a3 n3 c3 a4 n4 c4 a5 n5 c5)::.own (.slice p3 k3 l3) 120 3 ((isort (ltC cLink) (H.Links.map canon)).map enc)::.own (.slice p2 k2 l2) 125 5 (C2.map cC)::.own (.slice p1 k1 l1) 69 4 ((isort (ltC cCore) H.Cores).map enc)::S) [[],[],[],[],[],[],[],[],[],[],[0]] [[],[],[],[],[],[],[],[0],[0],[0],[0]] hw ?_
    refine byM ?_;refine mStoreE (j:=0) (k:=k+1) (r:=enc y) ?_
    refine mEnd fun w g hw=>?_
    have hw:Wd Γ' (([.blk b3 (.cells #[.string H.Name,.slice p1 k1 l1,.slice p2 k2 l2,.slice p3 k3 l3,.slice q m d,.slice none 0 0] 38)]++(.own (.slice q m d) 123 5 ((Z.map enc).set (k+1) (enc y))::.blk bh (.cells (enc x).toArray 123)::.blk b2 (.cells #[.string ⟨#[]⟩,.slice none 0 0,.slice none 0 0,.slice none 0 0,.slice none 0 0,.slice none 0 0] 38)::.blk b1 (hwC H a1 n1 c1 a2 n2 c2 a3 n3 c3 a4 n4 c4 a5 n5 c5)::.own (.slice p3 k3 l3) 120 3 ((isort (ltC cLink) (H.Links.map canon)).map enc)::.own (.slice p2 k2 l2) 125 5 (C2.map cC)::.own (.slice p1 k1 l1) 69 4 ((isort (ltC cCore) H.Cores).map enc)::S))++[]) w:=hw
    rw[List.append_nil]at hw;refine byG ?_;refine lStoreE (k:=k) (i:=1) (r:=enc x) ?_ (hx:=by show Value.pointer _=_;rw[show (((k+1:Nat):Int)-1).toNat=k by omega])
    intro w hw;have hw:Wd Γ' (.blk b3 (.cells #[.string H.Name,.slice p1 k1 l1,.slice p2 k2 l2,.slice p3 k3 l3,.slice q m d,.slice none 0 0] 38)::.own (.slice q m d) 123 5 (((Z.map enc).set (k+1) (enc y)).set k (enc x))::.blk bh (.cells (enc x).toArray 123)::.blk b2 (.cells #[.string ⟨#[]⟩,.slice none 0 0,.slice none 0 0,.slice none 0 0,.slice none 0 0,.slice none 0 0] 38)::.blk b1 (hwC H a1 n1 c1 a2 n2 c2 a3 n3 c3 a4 n4 c4 a5 n5 c5)::.own (.slice p3 k3 l3) 120 3 ((isort (ltC cLink) (H.Links.map canon)).map enc)::.own (.slice p2 k2 l2) 125 5 (C2.map cC)::.own (.slice p1 k1 l1) 69 4 ((isort (ltC cCore) H.Cores).map enc)::S) w:=hw
    rw[←List.map_set,←List.map_set]at hw;have hw:Wd Γ' (.own (.slice q m d) 123 5 (((Z.set (k+1) y).set k x).map enc)::.blk b3 (.cells #[.string H.Name,.slice p1 k1 l1,.slice p2 k2 l2,.slice p3 k3 l3,.slice q m d,.slice none 0 0] 38)::.blk b2 (.cells #[.string ⟨#[]⟩,.slice none 0 0,.slice none 0 0,.slice none 0 0,.slice none 0 0,.slice none 0 0] 38)::.blk b1 (hwC H a1 n1 c1 a2 n2 c2 a3 n3 c3 a4 n4 c4 a5 n5 c5)::.own (.slice p3 k3 l3) 120 3 ((isort (ltC cLink) (H.Links.map canon)).map enc)::.own (.slice p2 k2 l2) 125 5 (C2.map cC)::.own (.slice p1 k1 l1) 69 4 ((isort (ltC cCore) H.Cores).map enc)::S) w:=(hw.ds [2]).ps [1]
    refine byG ?_;exact⟨k,by omega,k,_,rfl,by omega,by simp;omega,hC,⟨rfl,rfl,rfl,rfl,by show Value.int .i64 (((k+1:Nat):Int)-1)=_;rw[e1],trivial⟩,hw⟩
   ·have h2:(ltC cMem) x y=false:=by first|(rw[lt_MemT];simpa using h2)|simpa using h2
    rw[bubC_stop hx hy h2]at hC;refine byG ?_;exact⟨μ-1,by omega,i+1,Z,by omega,by omega,hZ,by rw[hB2,hC],⟨rfl,rfl,rfl,rfl,trivial⟩,hw⟩
 have him:¬i<m:=by have:=of_decide_eq_false h;omega
 clear h;rw[show m-i=0 by omega]at hB
 have hB:isort (ltC cMem) H.Mems=Y:=hB
 rw[←hB]at hw;clear hB hY hμ hi him;obtain⟨⟨p4,k4,l4⟩,hv⟩:∃t:Option Addr×Nat×Nat,t=(q,m,d):=⟨_,rfl⟩
 have hv:Value.slice q m d=Value.slice p4 k4 l4:=by cases hv;rfl
 rw[hv]at hw;clear hv hm;refine byG ?_;have hw:Wd Γ' (.own (.slice none 0 0) 72 5 ([])::.blk b3 (.cells #[.string H.Name,.slice p1 k1 l1,.slice p2 k2 l2,.slice p3 k3 l3,.slice p4 k4 l4,.slice none 0 0] 38)::.blk b2 (.cells #[.string ⟨#[]⟩,.slice none 0 0,.slice none 0 0,.slice none 0 0,.slice none 0 0,.slice none 0 0] 38)::.blk b1 (hwC H a1 n1 c1 a2 n2 c2 a3 n3 c3 a4 n4 c4 a5 n5 c5)::.own (.slice p4 k4 l4) 123 5 ((isort (ltC cMem) H.Mems).map enc)::.own (.slice p3 k3 l3) 120 3 ((isort (ltC cLink) (H.Links.map canon)).map enc)::.own (.slice p2 k2 l2) 125 5 (C2.map cC)::.own (.slice p1 k1 l1) 69 4 ((isort (ltC cCore) H.Cores).map enc)::S) w:=Wd.addNil (hw.ps [3,3,3])
 refine byG ?_;refine lApp (i:=0) (rows2:=H.Devs.map enc) ?_ ((r5.mono g2).rd hw) (h1:=encs_one _) (hm:=by simp;omega)
 intro v' w hw;obtain⟨q,m,d,rfl,hm,-,-⟩:=hw.own_shape (i:=0) rfl
 simp at hm
 refine byG ?_;refine lStore ?_;intro w hw;have hw:Wd Γ' (.own (.slice q m d) 72 5 (H.Devs.map enc)::.blk b3 (.cells #[.string H.Name,.slice p1 k1 l1,.slice p2 k2 l2,.slice p3 k3 l3,.slice p4 k4 l4,.slice q m d] 38)::.blk b2 (.cells #[.string ⟨#[]⟩,.slice none 0 0,.slice none 0 0,.slice none 0 0,.slice none 0 0,.slice none 0 0] 38)::.blk b1 (hwC H a1 n1 c1 a2 n2 c2 a3 n3 c3 a4 n4 c4 a5 n5 c5)::.own (.slice p4 k4 l4) 123 5 ((isort (ltC cMem) H.Mems).map enc)::.own (.slice p3 k3 l3) 120 3 ((isort (ltC cLink) (H.Links.map canon)).map enc)::.own (.slice p2 k2 l2) 125 5 (C2.map cC)::.own (.slice p1 k1 l1) 69 4 ((isort (ltC cCore) H.Cores).map enc)::S) w:=hw
 refine byG ?_;refine W_loop (fun μ ρ w=>∃(i:Nat) (Y:List DevT),1≤i∧(m≤i+μ)∧Y.length=m∧isort (ltC cDev) H.Devs=isF (ltC cDev) (m-i) i Y∧Has ρ [(1,.pointer (some ⟨b1,0,none⟩)),(2,.pointer (some ⟨b2,0,none⟩)),(3,.pointer (some ⟨b3,0,none⟩)),(18,.int .i64 i)]∧Wd Γ' (.own (.slice q m d) 72 5 (Y.map enc)::.blk b3 (.cells #[.string H.Name,.slice p1 k1 l1,.slice p2 k2 l2,.slice p3 k3 l3,.slice p4 k4 l4,.slice q m d] 38)::.blk b2 (.cells #[.string ⟨#[]⟩,.slice none 0 0,.slice none 0 0,.slice none 0 0,.slice none 0 0,.slice none 0 0] 38)::.blk b1 (hwC H a1 n1 c1 a2 n2 c2 a3 n3 c3 a4 n4 c4 a5 n5 c5)::.own (.slice p4 k4 l4) 123 5 ((isort (ltC cMem) H.Mems).map enc)::.own (.slice p3 k3 l3) 120 3 ((isort (ltC cLink) (H.Links.map canon)).map enc)::.own (.slice p2 k2 l2) 125 5 (C2.map cC)::.own (.slice p1 k1 l1) 69 4 ((isort (ltC cCore) H.Cores).map enc)::S) w) m ⟨1,H.Devs,by omega,by omega,hm.symm,by unfold isort;rw[←hm],⟨rfl,rfl,rfl,rfl,trivial⟩,hw⟩ ?_
 clear hw;rintro μ ρ w ⟨i,Y,hi,hμ,hY,hB,hρ,hw⟩
 rw[hρ.eq];clear hρ;refine byG ?_;refine W_cond rfl (fun h=>?_) (fun h=>?_)
 ·have him:i<m:=by have:=of_decide_eq_true h;omega
  clear h;have hB2:isort (ltC cDev) H.Devs=isF (ltC cDev) (m-(i+1)) (i+1) (bubC (ltC cDev) i Y):=by
   rw[hB,show m-i=(m-(i+1))+1 by omega];rfl
  refine byG ?_;refine W_loop (fun μ2 ρ w=>∃(k:Nat) (Z:List DevT),μ2=k∧k≤i∧Z.length=m∧bubC (ltC cDev) i Y=bubC (ltC cDev) k Z∧Has ρ [(1,.pointer (some ⟨b1,0,none⟩)),(2,.pointer (some ⟨b2,0,none⟩)),(3,.pointer (some ⟨b3,0,none⟩)),(18,.int .i64 i),(19,.int .i64 k)]∧Wd Γ' (.own (.slice q m d) 72 5 (Z.map enc)::.blk b3 (.cells #[.string H.Name,.slice p1 k1 l1,.slice p2 k2 l2,.slice p3 k3 l3,.slice p4 k4 l4,.slice q m d] 38)::.blk b2 (.cells #[.string ⟨#[]⟩,.slice none 0 0,.slice none 0 0,.slice none 0 0,.slice none 0 0,.slice none 0 0] 38)::.blk b1 (hwC H a1 n1 c1 a2 n2 c2 a3 n3 c3 a4 n4 c4 a5 n5 c5)::.own (.slice p4 k4 l4) 123 5 ((isort (ltC cMem) H.Mems).map enc)::.own (.slice p3 k3 l3) 120 3 ((isort (ltC cLink) (H.Links.map canon)).map enc)::.own (.slice p2 k2 l2) 125 5 (C2.map cC)::.own (.slice p1 k1 l1) 69 4 ((isort (ltC cCore) H.Cores).map enc)::S) w) i ⟨i,Y,rfl,Nat.le_refl _,hY,rfl,⟨rfl,rfl,rfl,rfl,rfl,trivial⟩,hw⟩ ?_
  clear hw;rintro μ2 ρ w ⟨k,Z,rfl,hk,hZ,hC,hρ,hw⟩
  rw[hρ.eq];clear hρ;refine W_seq ?_
  refine W_seq ?_
  cases μ2 with
  | zero=>
   refine W_quiet (by kernel_rfl) (by kernel_rfl) hw ?_
   iterate 3 (first|refine Q_nil ?_|(apply Q_plain;first|(apply Q_go;first|refine qP ?_|refine qPg ?_)|refine qY ?_)|(apply Q_guarded;first|(apply Q_go;first|refine qPG ?_|refine qPgG ?_)|refine qG ?_))
   iterate 14 (refine qG (v:=.bool true) ?_ (hy:=fun h=>by have h2:true=false:=h.symm.trans rfl;cases h2))
   refine qY (v:=.bool false) ?_ (hy:=fun w hw=>y_pickF rfl rfl)
   refine Q_nil ?_
   clear hw;intro w hw;refine W_cond rfl (fun h=>by cases h) (fun _=>?_)
   refine byG ?_;have hC:bubC (ltC cDev) i Y=Z:=hC
   exact⟨μ-1,by omega,i+1,Z,by omega,by omega,hZ,by rw[hB2,hC],⟨rfl,rfl,rfl,rfl,trivial⟩,hw⟩
  | succ k=>
   obtain⟨x,hx⟩:=get_lt (l:=Z) (k:=k+1) (by omega)
   obtain⟨y,hy⟩:=get_lt (l:=Z) (k:=k) (by omega)
   have e1:(((k+1:Nat):Int)-1)=(k:Int):=by omega
   have hx':Z[((k+1:Nat):Int).toNat]? = some x:=hx
   have hy':Z[(((k+1:Nat):Int)-1).toNat]? = some y:=by rw[e1];exact hy
   refine W_quiet (by kernel_rfl) (by kernel_rfl) hw ?_
   iterate 1 (first|refine Q_nil ?_|(apply Q_plain;first|(apply Q_go;first|refine qP ?_|refine qPg ?_)|refine qY ?_)|(apply Q_guarded;first|(apply Q_go;first|refine qPG ?_|refine qPgG ?_)|refine qG ?_))
   refine qT (b:=decide ((0:Int)<((k+1:Nat):Int))) (decide_eq_true (by omega)) ?_
   refine byQ ?_;clear hw;intro w hw;refine W_cond rfl (fun h2=>?_) (fun h2=>?_)
   ·have h2:(ltC cDev) x y=true:=by first|(rw[lt_DevT];simpa using h2)|simpa using h2
    have hst:=bubC_step hx hy h2
    rw[hst]at hC;clear hst;refine byG ?_;refine lAlloc ?_;intro bh w hw;refine lStore ?_;intro w hw;have hw:Wd Γ' ([.blk b3 (.cells #[.string H.Name,.slice p1 k1 l1,.slice p2 k2 l2,.slice p3 k3 l3,.slice p4 k4 l4,.slice q m d] 38)]++(.own (.slice q m d) 72 5 (Z.map enc)::.blk bh (.cells (enc x).toArray 72)::.blk b2 (.cells #[.string ⟨#[]⟩,.slice none 0 0,.slice none 0 0,.slice none 0 0,.slice none 0 0,.slice none 0 0] 38)::.blk b1 (hwC H a1 n1 c1 a2 n2 c2 a3 n3 c3 a4 n4 c4 a5 n5 c5)::.own (.slice p4 k4 l4) 123 5 ((isort (ltC cMem) H.Mems).map enc)::.own (.slice p3 k3 l3) 120 3 ((isort (ltC cLink) (H.Links.map canon)).map enc)::.own (.slice p2 k2 l2) 125 5 (C2.map cC)::.own (.slice p1 k1 l1) 69 4 ((isort (ltC cCore) H.Cores).map enc)::S)) w:=hw.ps [1,2]
    refine byG ?_;refine W_mix1 [.blk b3 (.cells #[.string H.Name,.slice p1 k1 l1,.slice p2 k2 l2,.slice p3 k3 l3,.slice p4 k4 l4,.slice q m d] 38)] (.own (.slice q m d) 72 5 (Z.map enc)::.blk bh (.cells (enc x).toArray 72)::.blk b2 (.cells #[.string ⟨#[]⟩,.slice none 0 0,.slice none 0 0,.slice none 0 0,.slice none 0 0,.slice none 0 0] 38)::.blk b1 (hwC H a1 n1 c1 a2 n2 c2 a3 n3 c3 a4 n4 c4 a5 n5 c5)::.own (.slice p4 k4 l4) 123 5 ((isort (ltC cMem) H.Mems).map enc)::.own (.slice p3 k3 l3) 120 3 ((isort (ltC cLink) (H.Links.map canon)).map enc)::.own (.slice p2 k2 l2) 125 5 (C2.map cC)::.own (.slice p1 k1 l1) 69 4 ((isort (ltC cCore) H.Cores).map enc)::S) [[],[],[],[],[],[],[],[],[],[],[0]] [[],[],[],[],[],[],[],[0],[0],[0],[0]] hw ?_
    refine byM ?_;refine mStoreE (j:=0) (k:=k+1) (r:=enc y) ?_
    refine mEnd fun w g hw=>?_
    have hw:Wd Γ' (([.blk b3 (.cells #[.string H.Name,.slice p1 k1 l1,.slice p2 k2 l2,.slice p3 k3 l3,.slice p4 k4 l4,.slice q m d] 38)]++(.own (.slice q m d) 72 5 ((Z.map enc).set (k+1) (enc y))::.blk bh (.cells (enc x).toArray 72)::.blk b2 (.cells #[.string ⟨#[]⟩,.slice none 0 0,.slice none 0 0,.slice none 0 0,.slice none 0 0,.slice none 0 0] 38)::.blk b1 (hwC H a1 n1 c1 a2 n2 c2 a3 n3 c3 a4 n4 c4 a5 n5 c5)::.own (.slice p4 k4 l4) 123 5 ((isort (ltC cMem) H.Mems).map enc)::.own (.slice p3 k3 l3) 120 3 ((isort (ltC cLink) (H.Links.map canon)).map enc)::.own (.slice p2 k2 l2) 125 5 (C2.map cC)::.own (.slice p1 k1 l1) 69 4 ((isort (ltC cCore) H.Cores).map enc)::S))++[]) w:=hw
    rw[List.append_nil]at hw;refine byG ?_;refine lStoreE (k:=k) (i:=1) (r:=enc x) ?_ (hx:=by show Value.pointer _=_;rw[show (((k+1:Nat):Int)-1).toNat=k by omega])
    intro w hw;have hw:Wd Γ' (.blk b3 (.cells #[.string H.Name,.slice p1 k1 l1,.slice p2 k2 l2,.slice p3 k3 l3,.slice p4 k4 l4,.slice q m d] 38)::.own (.slice q m d) 72 5 (((Z.map enc).set (k+1) (enc y)).set k (enc x))::.blk bh (.cells (enc x).toArray 72)::.blk b2 (.cells #[.string ⟨#[]⟩,.slice none 0 0,.slice none 0 0,.slice none 0 0,.slice none 0 0,.slice none 0 0] 38)::.blk b1 (hwC H a1 n1 c1 a2 n2 c2 a3 n3 c3 a4 n4 c4 a5 n5 c5)::.own (.slice p4 k4 l4) 123 5 ((isort (ltC cMem) H.Mems).map enc)::.own (.slice p3 k3 l3) 120 3 ((isort (ltC cLink) (H.Links.map canon)).map enc)::.own (.slice p2 k2 l2) 125 5 (C2.map cC)::.own (.slice p1 k1 l1) 69 4 ((isort (ltC cCore) H.Cores).map enc)::S) w:=hw
    rw[←List.map_set,←List.map_set]at hw;have hw:Wd Γ' (.own (.slice q m d) 72 5 (((Z.set (k+1) y).set k x).map enc)::.blk b3 (.cells #[.string H.Name,.slice p1 k1 l1,.slice p2 k2 l2,.slice p3 k3 l3,.slice p4 k4 l4,.slice q m d] 38)::.blk b2 (.cells #[.string ⟨#[]⟩,.slice none 0 0,.slice none 0 0,.slice none 0 0,.slice none 0 0,.slice none 0 0] 38)::.blk b1 (hwC H a1 n1 c1 a2 n2 c2 a3 n3 c3 a4 n4 c4 a5 n5 c5)::.own (.slice p4 k4 l4) 123 5 ((isort (ltC cMem) H.Mems).map enc)::.own (.slice p3 k3 l3) 120 3 ((isort (ltC cLink) (H.Links.map canon)).map enc)::.own (.slice p2 k2 l2) 125 5 (C2.map cC)::.own (.slice p1 k1 l1) 69 4 ((isort (ltC cCore) H.Cores).map enc)::S) w:=(hw.ds [2]).ps [1]
    refine byG ?_;exact⟨k,by omega,k,_,rfl,by omega,by simp;omega,hC,⟨rfl,rfl,rfl,rfl,by show Value.int .i64 (((k+1:Nat):Int)-1)=_;rw[e1],trivial⟩,hw⟩
   ·have h2:(ltC cDev) x y=false:=by first|(rw[lt_DevT];simpa using h2)|simpa using h2
    rw[bubC_stop hx hy h2]at hC;refine byG ?_;exact⟨μ-1,by omega,i+1,Z,by omega,by omega,hZ,by rw[hB2,hC],⟨rfl,rfl,rfl,rfl,trivial⟩,hw⟩
 have him:¬i<m:=by have:=of_decide_eq_false h;omega
 clear h;rw[show m-i=0 by omega]at hB
 have hB:isort (ltC cDev) H.Devs=Y:=hB
 rw[←hB]at hw;clear hB hY hμ hi him;obtain⟨⟨p5,k5,l5⟩,hv⟩:∃t:Option Addr×Nat×Nat,t=(q,m,d):=⟨_,rfl⟩
 have hv:Value.slice q m d=Value.slice p5 k5 l5:=by cases hv;rfl
 rw[hv]at hw;clear hv hm;refine byG ?_;refine lStore ?_;intro w hw;refine byG ?_;have hw:Wd Γ' (.own (.slice p5 k5 l5) 72 5 ((isort (ltC cDev) H.Devs).map enc)::.blk b3 (.cells #[.string H.Name,.slice p1 k1 l1,.slice p2 k2 l2,.slice p3 k3 l3,.slice p4 k4 l4,.slice p5 k5 l5] 38)::.blk b2 (.cells #[.string H.Name,.slice p1 k1 l1,.slice p2 k2 l2,.slice p3 k3 l3,.slice p4 k4 l4,.slice p5 k5 l5] 38)::.blk b1 (hwC H a1 n1 c1 a2 n2 c2 a3 n3 c3 a4 n4 c4 a5 n5 c5)::.own (.slice p4 k4 l4) 123 5 ((isort (ltC cMem) H.Mems).map enc)::.own (.slice p3 k3 l3) 120 3 ((isort (ltC cLink) (H.Links.map canon)).map enc)::.own (.slice p2 k2 l2) 125 5 (C2.map cC)::.own (.slice p1 k1 l1) 69 4 ((isort (ltC cCore) H.Cores).map enc)::S) w:=hw
 have hsd:Wd Γ' (.own (.slice p1 k1 l1) 69 4 ((isort (ltC cCore) H.Cores).map enc)::.own (.slice p2 k2 l2) 125 5 (C2.map cC)::.own (.slice p3 k3 l3) 120 3 ((isort (ltC cLink) (H.Links.map canon)).map enc)::.own (.slice p4 k4 l4) 123 5 ((isort (ltC cMem) H.Mems).map enc)::.own (.slice p5 k5 l5) 72 5 ((isort (ltC cDev) H.Devs).map enc)::S) w:=(hw.ds [1,1,1]).ps [1,2,3,4]
 exact⟨[.agg #[.string H.Name,.slice p1 k1 l1,.slice p2 k2 l2,.slice p3 k3 l3,.slice p4 k4 l4,.slice p5 k5 l5]],⟨resC (i:=2) hw rfl rfl rfl,trivial⟩,Γ',_,g2,rfl,_,_,_,_,_,C2,hB2,hCo,rfl,hsd⟩
set_option maxHeartbeats 32000000
attribute [local irreducible] matL
def initM(i k:Int):Mx:=fun a b=>if a<i then (if a=b then 0 else -1) else if a=i∧b<k then -1 else 0
theorem valid_endsR{H:HwT}(h:validS H=0){l:LinkT}(hl:l∈H.Links):l.A≠l.B:=by
 obtain⟨-,h2,h3,-⟩:=valid_all h
 unfold coresRB at h3;simp only[Bool.and_eq_true]at h3
 have:=List.all_eq_true.1 h3.1.2.2 l hl
 unfold linkRB at this;simp only[Bool.and_eq_true,decide_eq_true_eq]at this
 exact this.1.2
theorem initM_row{i k:Int}:matL (updM (initM i k) i k (-1))=matL (initM i (k+1)):=matL_congr fun a b _ _=>by
 unfold updM initM;by_cases e:a=i∧b=k
 ·rw[if_pos e,if_neg (by omega),if_pos (by omega)]
 ·rw[if_neg e];by_cases e1:a<i
  ·rw[if_pos e1,if_pos e1]
  ·rw[if_neg e1,if_neg e1];by_cases e2:a=i∧b<k
   ·rw[if_pos e2,if_pos (by omega)]
   ·rw[if_neg e2,if_neg (by omega)]
theorem initM_diag{i:Int}:matL (updM (initM i 64) i i 0)=matL (initM (i+1) 0):=matL_congr fun a b ha hb=>by
 unfold nIn at ha hb;unfold updM initM;by_cases e:a=i∧b=i
 ·rw[if_pos e,if_pos (show a<i+1 by omega),if_pos (show a=b by omega)]
 ·rw[if_neg e];by_cases e1:a<i
  ·rw[if_pos e1,if_pos (show a<i+1 by omega)]
  ·rw[if_neg e1];by_cases e2:a=i
   ·rw[if_pos (show a=i∧b<64 by omega),if_pos (show a<i+1 by omega),if_neg (show ¬a=b by omega)]
   ·rw[if_neg (show ¬(a=i∧b<64) by omega),if_neg (show ¬a<i+1 by omega),if_neg (show ¬(a=i+1∧b<0) by omega)]
theorem initM_start:matL (fun _ _=>0)=matL (initM 0 0):=matL_congr fun a b ha hb=>by
 unfold nIn at ha hb;unfold initM;rw[if_neg (by omega),if_neg (by omega)]
theorem initM_end:matL (initM 64 0)=matL (linkD []):=matL_congr fun a b ha hb=>by
 unfold nIn at ha hb;unfold initM linkD;rw[if_pos (by omega)];rfl
noncomputable def dstM(H:HwT):Mx:=fun a b=>dstI (nbrL H.Links) a b
set_option maxRecDepth 8000 in
theorem Matrix_any{Γ:Gho}{u:Value}{H:HwT}[hh:HwR Γ u H](hv:validS H=0){S:List Res}{w:World}(hw:Wd Γ S w) :
  Calls Tryz.prog 92 #[u] w fun e w'=>e=.returned (.agg (matL (dstM H)).toArray)∧Wd Γ S w':=by
 obtain⟨a1,n1,c1,a2,n2,c2,a3,n3,c3,a4,n4,c4,a5,n5,c5,cs,rfl,hcs,hok,hsz,r1,r2,r3,r4,r5⟩:=hh.h;obtain⟨hn3,hm3,hx3⟩:=rep_facts r3
 simp only[List.length_map]at hn3
 have hLk:=valid_links hv
 have hLM:LinkM H.Links (linkD H.Links):=linkD_ok _ rfl (fun l hl=>⟨valid_endsR hv hl,(lats_ok hLk l hl).1⟩) (valid_keys hv)
 refine calls_of_WC Tryz.func92 rfl rfl ?_
 refine byG ?_;refine lBox ?_;intro b1 w hw;refine lAlloc ?_;intro b2 w hw;rw[matL_zero]at hw;have hw:Wd Γ (.blk b2 (.cells (matL (fun _ _=>0)).toArray 142)::.blk b1 (hwC H a1 n1 c1 a2 n2 c2 a3 n3 c3 a4 n4 c4 a5 n5 c5)::S) w:=hw
 refine byG ?_;refine lAlloc ?_;intro b3 w hw;rw[matL_zero]at hw;have hw:Wd Γ (.blk b3 (.cells (matL (fun _ _=>0)).toArray 142)::.blk b2 (.cells (matL (fun _ _=>0)).toArray 142)::.blk b1 (hwC H a1 n1 c1 a2 n2 c2 a3 n3 c3 a4 n4 c4 a5 n5 c5)::S) w:=hw
 rw[initM_start]at hw;refine byG ?_;have hBW:Wd Γ (.blk b3 (.cells (matL (initM 0 0)).toArray 142)::.blk b2 (.cells (matL (fun _ _=>0)).toArray 142)::.blk b1 (hwC H a1 n1 c1 a2 n2 c2 a3 n3 c3 a4 n4 c4 a5 n5 c5)::S) w:=by rw[initM_start];exact hw
 clear hw;refine W_loop (fun μ ρ w=>∃i:Nat,μ+i=64∧Has ρ [(1,.pointer (some ⟨b1,0,none⟩)),(2,.pointer (some ⟨b2,0,none⟩)),(3,.pointer (some ⟨b3,0,none⟩)),(4,.int .i64 i)]∧Wd Γ (.blk b3 (.cells (matL (initM i 0)).toArray 142)::.blk b2 (.cells (matL (fun _ _=>0)).toArray 142)::.blk b1 (hwC H a1 n1 c1 a2 n2 c2 a3 n3 c3 a4 n4 c4 a5 n5 c5)::S) w) 64 ⟨0,by omega,⟨rfl,rfl,rfl,rfl,trivial⟩,hBW⟩ ?_
 clear hBW;rintro μ ρ w ⟨i,hi,hρ,hw⟩
 rw[hρ.eq];clear hρ;refine byG ?_;refine W_cond rfl (fun h=>?_) (fun h=>?_)
 ·have hin:i<64:=by have:=of_decide_eq_true h;omega
  clear h;have hiI:nIn (i:Int):=by unfold nIn;omega
  refine byG ?_;refine W_loop (fun μ2 ρ w=>∃k:Nat,μ2+k=64∧Has ρ [(1,.pointer (some ⟨b1,0,none⟩)),(2,.pointer (some ⟨b2,0,none⟩)),(3,.pointer (some ⟨b3,0,none⟩)),(4,.int .i64 i),(5,.int .i64 k)]∧Wd Γ (.blk b3 (.cells (matL (initM i k)).toArray 142)::.blk b2 (.cells (matL (fun _ _=>0)).toArray 142)::.blk b1 (hwC H a1 n1 c1 a2 n2 c2 a3 n3 c3 a4 n4 c4 a5 n5 c5)::S) w) 64 ⟨0,by omega,⟨rfl,rfl,rfl,rfl,rfl,trivial⟩,hw⟩ ?_
  clear hw;rintro μ2 ρ w ⟨k,hk,hρ,hw⟩
  rw[hρ.eq];clear hρ;refine byG ?_;refine W_cond rfl (fun h=>?_) (fun h=>?_)
  ·have hkn:k<64:=by have:=of_decide_eq_true h;omega
   clear h;have hkI:nIn (k:Int):=by unfold nIn;omega
   refine byG ?_;refine lStore (i:=0) (o:=0+(i:Int).toNat*64+(k:Int).toNat*1) (ho:=by rw[List.size_toArray,matL_len];omega) ?_
   intro w hw;have hw:Wd Γ (.blk b3 (.cells (putCells (matL (initM i k)).toArray (0+(i:Int).toNat*64+(k:Int).toNat*1) [.int .i64 (-1)]) 142)::.blk b2 (.cells (matL (fun _ _=>0)).toArray 142)::.blk b1 (hwC H a1 n1 c1 a2 n2 c2 a3 n3 c3 a4 n4 c4 a5 n5 c5)::S) w:=hw
   rw[putM _ hiI hkI,initM_row]at hw;refine byG ?_;exact⟨μ2-1,by omega,k+1,by omega,⟨rfl,rfl,rfl,rfl,rfl,trivial⟩,hw⟩
  ·have hkn:k=64:=by have:=of_decide_eq_false h;omega
   subst hkn;clear h;have hw:Wd Γ (.blk b3 (.cells (matL (initM i 64)).toArray 142)::.blk b2 (.cells (matL (fun _ _=>0)).toArray 142)::.blk b1 (hwC H a1 n1 c1 a2 n2 c2 a3 n3 c3 a4 n4 c4 a5 n5 c5)::S) w:=hw
   refine byG ?_;refine lStore (i:=0) (o:=0+(i:Int).toNat*64+(i:Int).toNat*1) (ho:=by rw[List.size_toArray,matL_len];omega) ?_
   intro w hw;have hw:Wd Γ (.blk b3 (.cells (putCells (matL (initM i 64)).toArray (0+(i:Int).toNat*64+(i:Int).toNat*1) [.int .i64 0]) 142)::.blk b2 (.cells (matL (fun _ _=>0)).toArray 142)::.blk b1 (hwC H a1 n1 c1 a2 n2 c2 a3 n3 c3 a4 n4 c4 a5 n5 c5)::S) w:=hw
   rw[putM _ hiI hiI,initM_diag]at hw;refine byG ?_;exact⟨μ-1,by omega,i+1,by omega,⟨rfl,rfl,rfl,rfl,trivial⟩,hw⟩
 have hin:i=64:=by have:=of_decide_eq_false h;omega
 subst hin;clear h hi;have hw:Wd Γ (.blk b3 (.cells (matL (initM 64 0)).toArray 142)::.blk b2 (.cells (matL (fun _ _=>0)).toArray 142)::.blk b1 (hwC H a1 n1 c1 a2 n2 c2 a3 n3 c3 a4 n4 c4 a5 n5 c5)::S) w:=hw
 rw[initM_end,show ([]:List LinkT)=H.Links.take 0 from rfl]at hw
 refine byG ?_;refine W_loop (fun μ ρ w=>∃k:Nat,μ+k=n3∧Has ρ [(1,.pointer (some ⟨b1,0,none⟩)),(2,.pointer (some ⟨b2,0,none⟩)),(3,.pointer (some ⟨b3,0,none⟩)),(6,.int .i64 k)]∧Wd Γ (.blk b3 (.cells (matL (linkD (H.Links.take k))).toArray 142)::.blk b2 (.cells (matL (fun _ _=>0)).toArray 142)::.blk b1 (hwC H a1 n1 c1 a2 n2 c2 a3 n3 c3 a4 n4 c4 a5 n5 c5)::S) w) n3 ⟨0,by omega,⟨rfl,rfl,rfl,rfl,trivial⟩,hw⟩ ?_
 clear hw;rintro μ ρ w ⟨k,hk,hρ,hw⟩
 rw[hρ.eq];clear hρ;refine byG ?_;refine W_cond rfl (fun h=>?_) (fun h=>?_)
 ·have hkn:k<n3:=by have:=of_decide_eq_true h;omega
  clear h;obtain⟨l,hl⟩:=get_lt (l:=H.Links) (k:=k) (by omega)
  obtain⟨hA0,hA1,hB0,hB1,-⟩:=hLk.2 l (List.mem_of_getElem? hl)
  have hAI:nIn l.A:=⟨hA0,hA1⟩
  have hBI:nIn l.B:=⟨hB0,hB1⟩
  have hsn:=linkD_snoc hl
  generalize linkD (H.Links.take k)=D at *
  refine byG ?_;refine lAlloc ?_;intro b7 w hw;refine lStore ?_;intro w hw;have hw:Wd Γ ([.blk b7 (.cells (enc l).toArray 120)]++(.blk b3 (.cells (matL (D)).toArray 142)::.blk b2 (.cells (matL (fun _ _=>0)).toArray 142)::.blk b1 (hwC H a1 n1 c1 a2 n2 c2 a3 n3 c3 a4 n4 c4 a5 n5 c5)::S)) w:=hw
  refine byG ?_;refine W_mix1 [.blk b7 (.cells (enc l).toArray 120)] _ [[],[],[],[],[],[],[],[],[0]] [[],[],[],[],[],[],[],[],[0]] hw ?_
  refine byM ?_;refine mStoreC (o:=0+l.A.toNat*64+l.B.toNat*1) (ho:=by rw[List.size_toArray,matL_len];omega) ?_
  refine mEnd0 ?_
  clear hw;intro w hw;have hw:Wd Γ ([.blk b7 (.cells (enc l).toArray 120)]++((.blk b3 (.cells (putCells (matL D).toArray (0+l.A.toNat*64+l.B.toNat*1) [.int .i64 l.Latency]) 142)::.blk b2 (.cells (matL (fun _ _=>0)).toArray 142)::.blk b1 (hwC H a1 n1 c1 a2 n2 c2 a3 n3 c3 a4 n4 c4 a5 n5 c5)::S)++[])) w:=hw
  rw[putM _ hAI hBI,List.append_nil]at hw;refine byG ?_;refine W_mix1 [.blk b7 (.cells (enc l).toArray 120)] _ [[],[],[],[],[],[],[],[],[0]] [[],[],[],[],[],[],[],[],[0]] hw ?_
  refine byM ?_;refine mStoreC (o:=0+l.B.toNat*64+l.A.toNat*1) (ho:=by rw[List.size_toArray,matL_len];omega) ?_
  refine mEnd0 ?_
  clear hw;intro w hw;have hw:Wd Γ ([.blk b7 (.cells (enc l).toArray 120)]++((.blk b3 (.cells (putCells (matL (updM D l.A l.B l.Latency)).toArray (0+l.B.toNat*64+l.A.toNat*1) [.int .i64 l.Latency]) 142)::.blk b2 (.cells (matL (fun _ _=>0)).toArray 142)::.blk b1 (hwC H a1 n1 c1 a2 n2 c2 a3 n3 c3 a4 n4 c4 a5 n5 c5)::S)++[])) w:=hw
  rw[putM _ hBI hAI,List.append_nil]at hw;have hw:Wd Γ (.blk b3 (.cells (matL (linkStep D l)).toArray 142)::.blk b2 (.cells (matL (fun _ _=>0)).toArray 142)::.blk b1 (hwC H a1 n1 c1 a2 n2 c2 a3 n3 c3 a4 n4 c4 a5 n5 c5)::S) w:=hw.drop
  rw[hsn]at hw;refine byG ?_;exact⟨μ-1,by omega,k+1,by omega,⟨rfl,rfl,rfl,rfl,trivial⟩,hw⟩
 have hkn:¬k<n3:=by have:=of_decide_eq_false h;omega
 rw[List.take_of_length_le (by omega)]at hw
 clear h hkn hk;have hF0:FW (linkD H.Links) (linkD H.Links) 0 0 0:=fun a b ha hb=>by
  unfold nIn at ha hb;rw[if_neg (by omega)]
  exact OkM.zero hLM.neg ha hb
 refine byG ?_;refine W_loop (fun μ ρ w=>∃(m:Nat) (D:Mx),μ+m=64∧FW (linkD H.Links) D m 0 0∧Has ρ [(2,.pointer (some ⟨b2,0,none⟩)),(3,.pointer (some ⟨b3,0,none⟩)),(8,.int .i64 m)]∧Wd Γ (.blk b3 (.cells (matL (D)).toArray 142)::.blk b2 (.cells (matL (fun _ _=>0)).toArray 142)::.blk b1 (hwC H a1 n1 c1 a2 n2 c2 a3 n3 c3 a4 n4 c4 a5 n5 c5)::S) w) 64 ⟨0,_,by omega,hF0,⟨rfl,rfl,rfl,trivial⟩,hw⟩ ?_
 clear hw hF0;rintro μ ρ w ⟨m,D,hm,hF,hρ,hw⟩
 rw[hρ.eq];clear hρ;refine byG ?_;refine W_cond rfl (fun h=>?_) (fun h=>?_)
 ·have hmn:m<64:=by have:=of_decide_eq_true h;omega
  clear h;have hmI:nIn (m:Int):=by unfold nIn;omega
  refine byG ?_;refine W_loop (fun μ2 ρ w=>∃(i:Nat) (D:Mx),μ2+i=64∧FW (linkD H.Links) D m i 0∧Has ρ [(2,.pointer (some ⟨b2,0,none⟩)),(3,.pointer (some ⟨b3,0,none⟩)),(8,.int .i64 m),(9,.int .i64 i)]∧Wd Γ (.blk b3 (.cells (matL (D)).toArray 142)::.blk b2 (.cells (matL (fun _ _=>0)).toArray 142)::.blk b1 (hwC H a1 n1 c1 a2 n2 c2 a3 n3 c3 a4 n4 c4 a5 n5 c5)::S) w) 64 ⟨0,D,by omega,hF,⟨rfl,rfl,rfl,rfl,trivial⟩,hw⟩ ?_
  clear hw hF;rintro μ2 ρ w ⟨i,D,hi,hF,hρ,hw⟩
  rw[hρ.eq];clear hρ;refine byG ?_;refine W_cond rfl (fun h=>?_) (fun h=>?_)
  ·have hin:i<64:=by have:=of_decide_eq_true h;omega
   clear h;have hiI:nIn (i:Int):=by unfold nIn;omega
   refine byG ?_;refine W_loop (fun μ3 ρ w=>∃(k:Nat) (D:Mx),μ3+k=64∧FW (linkD H.Links) D m i k∧Has ρ [(2,.pointer (some ⟨b2,0,none⟩)),(3,.pointer (some ⟨b3,0,none⟩)),(8,.int .i64 m),(9,.int .i64 i),(10,.int .i64 k)]∧Wd Γ (.blk b3 (.cells (matL (D)).toArray 142)::.blk b2 (.cells (matL (fun _ _=>0)).toArray 142)::.blk b1 (hwC H a1 n1 c1 a2 n2 c2 a3 n3 c3 a4 n4 c4 a5 n5 c5)::S) w) 64 ⟨0,D,by omega,hF,⟨rfl,rfl,rfl,rfl,rfl,trivial⟩,hw⟩ ?_
   clear hw hF;rintro μ3 ρ w ⟨k,D,hk,hF,hρ,hw⟩
   rw[hρ.eq];clear hρ;refine byG ?_;refine W_cond rfl (fun h=>?_) (fun h=>?_)
   ·have hkn:k<64:=by have:=of_decide_eq_true h;omega
    clear h;have hkI:nIn (k:Int):=by unfold nIn;omega
    have g1:=hF.bound hLM hLk hiI hmI
    have g2:=hF.bound hLM hLk hmI hkI
    have g3:=hF.bound hLM hLk hiI hkI
    have hnx:=hF.next hmI hiI hkI
    have q1:=getM D hiI hmI
    have q2:=getM D hmI hkI
    have q3:=getM D hiI hkI
    refine byG ?_;refine W_quiet (by kernel_rfl) (by kernel_rfl) hw ?_
    refine byQ ?_;refine qY (v:=.int .i64 (D i m)) ?_ (hy:=fun w hw=>y_l1b (i:=0) hw rfl rfl q1)
    refine byQ ?_;refine qG (v:=.int .i64 (D m k)) ?_ (hy:=fun hc w hw=>y_l1b (i:=0) hw (gvT hc rfl) rfl q2)
    refine byQ ?_;refine qG (v:=.int .i64 (D i k)) ?_ (hy:=fun hc w hw=>y_l1b (i:=0) hw (gvT hc rfl) rfl q3)
    refine byQ ?_;refine qG (v:=.int .i64 (D i m)) ?_ (hy:=fun hc w hw=>y_l1b (i:=0) hw (gvT hc rfl) rfl q1)
    refine byQ ?_;refine qG (v:=.int .i64 (D m k)) ?_ (hy:=fun hc w hw=>y_l1b (i:=0) hw (gvT hc rfl) rfl q2)
    refine byQ ?_;refine qG (v:=.int .i64 (D i k)) ?_ (hy:=fun hc w hw=>y_l1b (i:=0) hw (gvT hc rfl) rfl q3)
    refine byQ ?_;intro w hw;refine W_cond rfl (fun h=>?_) (fun h=>?_)
    ·have h:relaxB D m i k=true:=h
     rw[if_pos h]at hnx;refine byG ?_;refine W_mix1 [] (.blk b3 (.cells (matL (D)).toArray 142)::.blk b2 (.cells (matL (fun _ _=>0)).toArray 142)::.blk b1 (hwC H a1 n1 c1 a2 n2 c2 a3 n3 c3 a4 n4 c4 a5 n5 c5)::S) [[],[],[],[],[],[],[],[],[],[],[],[],[],[],[],[0]] [[],[],[],[],[],[],[0],[],[],[],[],[0],[],[],[],[0]] hw ?_
     refine byM ?_;refine mY (v:=.int .i64 (D i m)) ?_ (hy:=fun Y w g hw=>y_l1b (i:=0) hw rfl rfl q1)
     refine byM ?_;refine mY (v:=.int .i64 (D m k)) ?_ (hy:=fun Y w g hw=>y_l1b (i:=0) hw rfl rfl q2)
     refine byM ?_;refine mStoreC (o:=0+(i:Int).toNat*64+(k:Int).toNat*1) (ho:=by rw[List.size_toArray,matL_len];omega) ?_
     refine mEnd0 ?_
     clear hw;intro w hw;have hw:Wd Γ ((.blk b3 (.cells (putCells (matL D).toArray (0+(i:Int).toNat*64+(k:Int).toNat*1) [.int .i64 (D i m+D m k)]) 142)::.blk b2 (.cells (matL (fun _ _=>0)).toArray 142)::.blk b1 (hwC H a1 n1 c1 a2 n2 c2 a3 n3 c3 a4 n4 c4 a5 n5 c5)::S)++[]) w:=hw
     rw[putM _ hiI hkI,List.append_nil]at hw;refine byG ?_;exact⟨μ3-1,by omega,k+1,_,by omega,hnx,⟨rfl,rfl,rfl,rfl,rfl,trivial⟩,hw⟩
    ·have h:relaxB D m i k=false:=h
     rw[if_neg (by rw[h];simp)]at hnx
     refine byG ?_;exact⟨μ3-1,by omega,k+1,D,by omega,hnx,⟨rfl,rfl,rfl,rfl,rfl,trivial⟩,hw⟩
   ·have hkn:k=64:=by have:=of_decide_eq_false h;omega
    subst hkn;have hF:FW (linkD H.Links) D m i 64:=hF
    refine byG ?_;exact⟨μ2-1,by omega,i+1,D,by omega,hF.row,⟨rfl,rfl,rfl,rfl,trivial⟩,hw⟩
  ·have hin:i=64:=by have:=of_decide_eq_false h;omega
   subst hin;have hF:FW (linkD H.Links) D m 64 0:=hF
   refine byG ?_;exact⟨μ-1,by omega,m+1,D,by omega,hF.phase,⟨rfl,rfl,rfl,trivial⟩,hw⟩
 have hmn:m=64:=by have:=of_decide_eq_false h;omega
 subst hmn;have hfin:matL D=matL (dstM H):=matL_congr fun a b ha hb=>by
  have h1:=hF a b ha hb
  unfold nIn at ha hb;rw[if_neg (by omega)]at h1
  exact(OkM.dst hLM hLk ha h1).symm
 rw[hfin]at hw;generalize dstM H=DM at *
 clear h;refine byG ?_;refine lY (v:=.agg (matL DM).toArray) ?_ (hy:=y_lwb (i:=0) hw rfl rfl (by simp[matL_len]))
 refine lStore (i:=1) (vs:=matL DM) ?_ (hl:=matL_len DM) (h1:=by rw[List.all_eq_true];exact matL_one DM) (ho:=by simp[matL_len]) (hv:=by simp[Value.cells])
 intro w hw;have hw:Wd Γ (.blk b3 (.cells (matL (DM)).toArray 142)::.blk b2 (.cells (putCells (matL (fun _ _=>0)).toArray 0 (matL DM)) 142)::.blk b1 (hwC H a1 n1 c1 a2 n2 c2 a3 n3 c3 a4 n4 c4 a5 n5 c5)::S) w:=hw
 rw[show putCells (matL (fun _ _=>0)).toArray 0 (matL DM)=(matL DM).toArray from by unfold putCells;simp[matL_len]]at hw
 refine byG ?_;exact⟨[.agg (matL DM).toArray],⟨resC (i:=1) hw rfl rfl (by simp[matL_len]),trivial⟩,rfl,hw.ds [0,0,0]⟩
end Go.Proofs.YthgighljhoneeaaGreat
end
section
open Go Mk
namespace Go.Proofs.YthgighljhoneeaaGreat
set_option maxHeartbeats 16000000
theorem bsortI_perm(l:List Int):(bsort ltI l).Perm l:=by rw[bsort_eq];exact(isort_spec ltZ_lt3 l).1
theorem bsortI_sorted{l:List Int}(h:l.Nodup):(bsort ltI l).Pairwise (· < ·):=by
 have h1:=(isort_spec ltZ_lt3 l).2
 rw[←bsort_eq]at h1;have h2:(bsort ltI l).Nodup:=(bsortI_perm l).nodup_iff.2 h
 refine(h1.and h2).imp fun {a b} hab=>?_
 have:=hab.1
 unfold ltZ at this;have h3:¬b<a:=of_decide_eq_false this
 have h4:=hab.2
 omega
theorem coreIds_nodup{H:HwT}(hv:validS H=0):(H.Cores.map (·.ID)).Nodup:=by
 have hu:=(valid_iff.1 hv).u
 unfold uniqueB at hu;simp only[Bool.and_eq_true,decide_eq_true_eq]at hu
 exact hu.2.1.1.1.1.1
theorem irqs_nodup{H:HwT}(hv:validS H=0):(H.Devs.map (·.IRQ)).Nodup:=by
 have hu:=(valid_iff.1 hv).u
 unfold uniqueB at hu;simp only[Bool.and_eq_true,decide_eq_true_eq]at hu
 first|exact hu.2.1.2|exact hu.2.1.1.2|exact hu.2.1.1.1.2|exact hu.2.2
theorem devs_norm{H:HwT}(hv:validS H=0){ys:List DevT}(hp:ys.Perm H.Devs)(hs:ys.Pairwise fun a b=>a.IRQ≤b.IRQ):(normS H).Devs=ys:=by
 obtain⟨h1,h2⟩:=isort_spec cDev_lt3 H.Devs
 refine sorted_uniq (lt:=ltC cDev) (fun x hx y hy e1 e2=>?_) (hs.imp fun {a b} h=>?_) h2 (h1.trans hp.symm)
 ·rw[lt_DevT]at e1 e2
  have g1:=of_decide_eq_false e1
  have g2:=of_decide_eq_false e2
  exact nodup_key (irqs_nodup hv) x (hp.mem_iff.1 hx) y (hp.mem_iff.1 hy) (by omega)
 ·rw[lt_DevT];exact decide_eq_false (by omega)
theorem norm_sz{H:HwT}(h:HwSz H):HwSz (normS H):=by
 obtain⟨h1,h2,h3,h4⟩:=h;refine⟨h1,fun c hc=>?_,fun c hc=>h3 c ((isort_spec cMem_lt3 _).1.mem_iff.1 hc),fun c hc=>h4 c ((isort_spec cDev_lt3 _).1.mem_iff.1 hc)⟩
 have hc2:=(isort_spec cCacheT_lt3 _).1.mem_iff.1 hc
 obtain⟨x,hx,rfl⟩:=List.mem_map.1 hc2
 exact h2 x hx
section
variable {H:HwT}{LS:List Int}{cap:Nat}{cs:List CoreT}{ys:List DevT}{x:List Int}
end
theorem gen_le{H:HwT}{nodes sh first irq:Int}(g:Gen H nodes sh first irq):HwLe H:=by
 obtain⟨h0,h1,h2,h3,h4,h5⟩:=counts_le (gen_counts g)
 refine⟨by omega,by omega,by omega,by omega,by omega,fun x hx=>?_⟩
 obtain⟨k,T,hT,hk,hc⟩:=g.ca;rw[hc]at hx;obtain⟨p,hp,rfl⟩:=List.mem_map.1 hx
 have:=(cacheK_cores (cacheK hT hk hp)).length_le
 rw[gen_ids g]at this;omega
section
variable {n cap N:Nat}{a:Nat→Int→Int}{x y so:List Int}{sum:Int}{bt:Option (List Int×Int)}
def prun(bt:Option (List Int×Int))(sum:Int):Bool:=match bt with|none=>false|some p=>decide (p.2≤sum)
def tryC(cap:Nat)(next:Nat→Option (List Int×Int)→Option (List Int×Int))(so:List Int):Nat→Nat→Option (List Int×Int)→Option (List Int×Int)
 | 0,_,bt=>bt
 | m+1,k,bt=>tryC cap next so m (k+1) (if so.count (k:Int)<cap then next k bt else bt)
def tryL(n cap:Nat)(a:Nat→Int→Int):Nat→List Int→Int→Option (List Int×Int)→Option (List Int×Int)
 | 0,so,sum,bt=>if prun bt sum=true then bt else some (so,sum)
 | f+1,so,sum,bt=>if prun bt sum=true then bt else tryC cap (fun k bt=>tryL n cap a f (so++[(k:Int)]) (sum+a so.length k) bt) so n 0 bt
def lexle(x y:List Int):Prop:=∀e,e<x.length→(∀i,i<e→atI y i=atI x i)→atI x e≤atI y e
def TryOk(a:Nat→Int→Int)(P:List Int→Prop)(bt bt':Option (List Int×Int)):Prop:=
 (bt'=bt∧∀y,P y→∃p,bt=some p∧p.2≤costA a y) ∨
 ∃x,P x∧bt'=some (x,costA a x)∧(∀p,bt=some p→costA a x<p.2)∧∀y,P y→costA a x≤costA a y∧(costA a y=costA a x→lexle x y)
theorem TryOk.seq{P Q R:List Int→Prop}{b0 b1 b2:Option (List Int×Int)}(h1:TryOk a P b0 b1)(h2:TryOk a Q b1 b2)(hPQ:∀x y,P x→Q y→lexle x y)(hR:∀y,R y↔P y∨Q y):TryOk a R b0 b2:=by
 rcases h1 with⟨rfl,h1⟩|⟨x,hx,rfl,h1,h1'⟩
 ·rcases h2 with⟨rfl,h2⟩|⟨z,hz,rfl,h2,h2'⟩
  ·exact .inl ⟨rfl,fun y hy=>((hR y).1 hy).elim (h1 y) (h2 y)⟩
  ·refine .inr ⟨z,(hR z).2 (.inr hz),rfl,h2,fun y hy=>?_⟩
   rcases (hR y).1 hy with h|h
   ·obtain⟨p,hp,hle⟩:=h1 y h
    have:=h2 p hp
    exact⟨by omega,fun e=>absurd e (by omega)⟩
   ·exact h2' y h
 ·rcases h2 with⟨rfl,h2⟩|⟨z,hz,rfl,h2,h2'⟩
  ·refine .inr ⟨x,(hR x).2 (.inl hx),rfl,h1,fun y hy=>?_⟩
   rcases (hR y).1 hy with h|h
   ·exact h1' y h
   ·obtain⟨p,hp,hle⟩:=h2 y h
    cases hp
    exact⟨hle,fun _=>hPQ x y hx h⟩
  ·have h3:=h2 _ rfl
   refine .inr ⟨z,(hR z).2 (.inr hz),rfl,fun p hp=>?_,fun y hy=>?_⟩
   ·have:=h1 p hp;simp only at h3;omega
   ·rcases (hR y).1 hy with h|h
    ·have:=(h1' y h).1
     simp only at h3
     exact⟨by omega,fun e=>absurd e (by omega)⟩
    ·exact h2' y h
theorem TryOk.none{P:List Int→Prop}(h:∀y,¬P y):TryOk a P bt bt:=.inl ⟨rfl,fun y hy=>absurd hy (h y)⟩
theorem TryOk.congr{P Q:List Int→Prop}{b0 b1:Option (List Int×Int)}(h1:TryOk a P b0 b1)(h:∀y,P y↔Q y):TryOk a Q b0 b1:=h1.seq (Q:=fun _=>False) (TryOk.none fun _ h=>h) (fun _ _ _ h=>h.elim) (fun y=>by rw[←h y,or_false])
def Cmpl(n cap N:Nat)(so y:List Int):Prop:=y.length=N∧Full n cap y∧∃t,y=so++t
theorem atI_app{t:List Int}{i:Nat}(h:i<so.length):atI (so++t) i=atI so i:=by
 unfold atI;rw[List.getD_eq_getElem?_getD,List.getD_eq_getElem?_getD,List.getElem?_append_left h]
theorem atI_last{c:Int}{t:List Int}:atI (so++c::t) so.length=c:=by
 unfold atI;rw[List.getD_eq_getElem?_getD,List.getElem?_append_right (Nat.le_refl _),Nat.sub_self];rfl
theorem costA_snoc{c:Int}:costA a (so++[c])=costA a so+a so.length c:=by
 unfold costA;rw[List.length_append];show sumZ _ (so.length+1)=_
 rw[sumZ,atI_last,sumZ_congr fun i hi=>by rw[atI_app hi]]
theorem costA_app(hA:∀i c:Nat,c<n→0≤a i c):∀(t:List Int) (so:List Int),(∀v∈t,0≤v∧v<(n:Int))→costA a so≤costA a (so++t)
 | [],so,_=>by rw[List.append_nil];exact Int.le_refl _
 | c::t,so,h=>by
  have h1:=costA_app hA t (so++[c]) fun v hv=>h v (by simp[hv])
  have hc:=h c (by simp)
  have h2:=hA so.length c.toNat (by omega)
  rw[show ((c.toNat:Nat):Int)=c by omega]at h2
  rw[costA_snoc,List.append_assoc]at h1;simp only[List.singleton_append]at h1
  omega
def CmplB(n cap N:Nat)(so:List Int)(k:Nat)(y:List Int):Prop:=Cmpl n cap N so y∧∃(c:Nat) (t:List Int),c<k∧y=so++(c:Int)::t
theorem cmpl_next{k:Nat}:Cmpl n cap N (so++[(k:Int)]) y↔Cmpl n cap N so y∧∃t,y=so++(k:Int)::t:=by
 constructor
 ·rintro⟨h1,h2,t,rfl⟩;exact⟨⟨h1,h2,(k:Int)::t,by simp⟩,t,by simp⟩
 ·rintro⟨⟨h1,h2,-⟩,t,rfl⟩;exact⟨h1,h2,t,by simp⟩
theorem cmplB_succ{k:Nat}:CmplB n cap N so (k+1) y↔CmplB n cap N so k y∨Cmpl n cap N (so++[(k:Int)]) y:=by
 rw[cmpl_next];constructor
 ·rintro⟨h1,c,t,hc,rfl⟩;by_cases e:c=k
  ·subst e;exact .inr ⟨h1,t,rfl⟩
  ·exact .inl ⟨h1,c,t,by omega,rfl⟩
 ·rintro (⟨h1,c,t,hc,h⟩|⟨h1,t,h⟩)
  ·exact⟨h1,c,t,by omega,h⟩
  ·exact⟨h1,k,t,by omega,h⟩
theorem cmplB_all(hN:so.length<N):CmplB n cap N so n y↔Cmpl n cap N so y:=by
 constructor
 ·exact fun h=>h.1
 ·intro h;refine⟨h,?_⟩
  obtain⟨h1,h2,t,rfl⟩:=h;cases t with
  | nil=>simp at h1;omega
  | cons c t=>
   have hc:=h2.rng c (by simp)
   exact⟨c.toNat,t,by omega,by rw[show ((c.toNat:Nat):Int)=c by omega]⟩
theorem lex_next{k:Nat}(h1:CmplB n cap N so k x)(h2:Cmpl n cap N (so++[(k:Int)]) y):lexle x y:=by
 obtain⟨hx,c,t,hc,rfl⟩:=h1;obtain⟨hy,t',rfl⟩:=cmpl_next.1 h2
 intro e he hpre;by_cases h:e<so.length
 ·rw[atI_app h,atI_app h];exact Int.le_refl _
 ·by_cases h':e=so.length
  ·subst h';rw[atI_last,atI_last];omega
  ·have:=hpre so.length (by omega)
   rw[atI_last,atI_last]at this;omega
theorem lexle_refl:lexle x x:=fun _ _ _=>Int.le_refl _
theorem tryC_ok{next:Nat→Option (List Int×Int)→Option (List Int×Int)}(hnext:∀k bt,k<n→so.count (k:Int)<cap→TryOk a (Cmpl n cap N (so++[(k:Int)])) bt (next k bt)):∀(m k:Nat) (b0 bt:Option (List Int×Int)),m+k=n→TryOk a (CmplB n cap N so k) b0 bt→TryOk a (CmplB n cap N so n) b0 (tryC cap next so m k bt)
 | 0,k,b0,bt,hk,h=>by
  rw[show k=n by omega]at h;exact h
 | m+1,k,b0,bt,hk,h=>by
  refine tryC_ok hnext m (k+1) b0 _ (by omega) ?_
  refine h.seq (Q:=Cmpl n cap N (so++[(k:Int)])) ?_ (fun x y=>lex_next) (fun y=>cmplB_succ)
  by_cases hr:so.count (k:Int)<cap
  ·rw[if_pos hr];exact hnext k bt (by omega) hr
  ·rw[if_neg hr];refine TryOk.none fun y hy=>?_
   obtain⟨-,hF,t,rfl⟩:=hy;have h1:=hF.cap k (by omega)
   rw[List.count_append,List.count_append]at h1;simp only[List.count_cons_self,List.count_nil]at h1
   omega
theorem tryL_ok(hA:∀i c:Nat,c<n→0≤a i c):∀(f:Nat) (so:List Int) (bt:Option (List Int×Int)),so.length+f=N→Full n cap so→TryOk a (Cmpl n cap N so) bt (tryL n cap a f so (costA a so) bt)
 | 0,so,bt,hf,hF=>by
  have huniq:∀y,Cmpl n cap N so y→y=so:=by
   rintro y ⟨h1,-,t,rfl⟩
   rw[List.length_append]at h1;rw[List.eq_nil_of_length_eq_zero (by omega:t.length=0),List.append_nil]
  unfold tryL;by_cases hp:prun bt (costA a so)=true
  ·rw[if_pos hp];refine .inl ⟨rfl,fun y hy=>?_⟩
   rw[huniq y hy];unfold prun at hp;split at hp
   ·cases hp
   ·exact⟨_,rfl,of_decide_eq_true hp⟩
  ·rw[if_neg hp];refine .inr ⟨so,⟨by omega,hF,[],by simp⟩,rfl,fun p hp2=>?_,fun y hy=>?_⟩
   ·subst hp2;have:¬p.2≤costA a so:=fun h=>hp (by unfold prun;exact decide_eq_true h)
    omega
   ·rw[huniq y hy];exact⟨Int.le_refl _,fun _=>lexle_refl⟩
 | f+1,so,bt,hf,hF=>by
  unfold tryL;by_cases hp:prun bt (costA a so)=true
  ·rw[if_pos hp];refine .inl ⟨rfl,fun y hy=>?_⟩
   obtain⟨-,hFy,t,rfl⟩:=hy;have:=costA_app hA t so fun v hv=>hFy.rng v (by simp[hv])
   unfold prun at hp;split at hp
   ·cases hp
   ·exact⟨_,rfl,by have:=of_decide_eq_true hp;omega⟩
  ·rw[if_neg hp];refine(tryC_ok (fun k bt hk hr=>?_) n 0 bt bt (by omega) (TryOk.none fun y hy=>?_)).congr fun y=>cmplB_all (by omega)
   ·rw[←costA_snoc];refine tryL_ok hA f (so++[(k:Int)]) bt (by rw[List.length_append];simp;omega) ⟨fun v hv=>?_,fun u hu=>?_⟩
    ·rcases List.mem_append.1 hv with h|h
     ·exact hF.rng v h
     ·rw[List.mem_singleton.1 h];omega
    ·rw[List.count_append];have h1:=hF.cap u hu
     by_cases e:(k:Int)=u
     ·have e2:k=u:=by omega
      subst e2;simp only[List.count_cons_self,List.count_nil]
      omega
     ·rw[List.count_eq_zero_of_not_mem (a:=(u:Int)) (l:=[(k:Int)]) (by simp;omega)];omega
   ·obtain⟨-,c,t,hc,-⟩:=hy;omega
theorem tryL_best(hA:∀i c:Nat,c<n→0≤a i c)(hy:Full n cap y)(hl:y.length=N):∃x,x.length=N∧Best n cap a x∧tryL n cap a N [] 0 none=some (x,costA a x):=by
 have h:=tryL_ok (a:=a) (n:=n) (cap:=cap) (N:=N) hA N [] none (by simp) ⟨fun v h=>by simp at h,fun u _=>by simp⟩
 rw[show costA a []=0 from rfl]at h
 rcases h with⟨-,h⟩|⟨x,hx,h1,-,h2⟩
 ·obtain⟨p,hp,-⟩:=h y ⟨hl,hy,y,by simp⟩
  cases hp
 ·refine⟨x,hx.1,⟨hx.2.1,fun z hz hzl=>(h2 z ⟨by rw[hzl];exact hx.1,hz,z,by simp⟩).1,fun z hz hzl hc e he hpre=>(h2 z ⟨by rw[hzl];exact hx.1,hz,z,by simp⟩).2 hc e he hpre⟩,h1⟩
end
set_option maxHeartbeats 32000000
attribute [local irreducible] Calls
theorem full_ex{n cap:Nat}:∀N:Nat,N≤n*cap→∃y:List Int,y.length=N∧Full n cap y
 | 0,_=>⟨[],rfl,fun v h=>by simp at h,fun u _=>by simp⟩
 | N+1,h=>by
  obtain⟨y,hl,hF⟩:=full_ex (n:=n) (cap:=cap) N (by omega)
  obtain⟨u,hu,hc⟩:=has_room (n:=n) (cap:=cap) (x:=y) (d:=N) (fun i hi=>by
   unfold atI;rw[List.getD_eq_getElem?_getD,List.getElem?_eq_none (by omega)];rfl) (by omega)
  refine⟨y++[(u:Int)],by simp[hl],fun v hv=>?_,fun k hk=>?_⟩
  ·rcases List.mem_append.1 hv with h1|h1
   ·exact hF.rng v h1
   ·rw[List.mem_singleton.1 h1];omega
  ·rw[List.count_append];have h1:=hF.cap k hk
   by_cases e:(u:Int)=k
   ·have e2:u=k:=by omega
    subst e2;simp only[List.count_cons_self,List.count_nil]
    omega
   ·rw[List.count_eq_zero_of_not_mem (a:=(k:Int)) (l:=[(u:Int)]) (by simp;omega)];omega
theorem coreAt_neg2{l:List CoreT}{id:Int}:coreAt l id<0↔(findC l id).2=false:=by
 have h:=coreAt_lt (l:=l) (id:=id)
 constructor
 ·intro h1;rw[decide_eq_true h1]at h;simpa using h.symm
 ·intro h1;rw[h1]at h;exact of_decide_eq_true (h.trans rfl)
theorem liveS_code{H:HwT}(hv:validS H=0)(L:List Int):(liveS H L).2=if ∃id∈L,(findC H.Cores id).2=false then 57 else if ¬L.Nodup then 56 else if L=[] then 64 else 0:=by
 have hm:(∃id∈sortZ L,(findC H.Cores id).2=false)↔∃id∈L,(findC H.Cores id).2=false:=by
  constructor
  ·rintro⟨id,h1,h2⟩;exact⟨id,(sortZ_perm L).mem_iff.1 h1,h2⟩
  ·rintro⟨id,h1,h2⟩;exact⟨id,(sortZ_perm L).mem_iff.2 h1,h2⟩
 have hn:(Go.Lib.compact (sortZ L)).length<(sortZ L).length↔¬L.Nodup:=by
  rw[compact_len (sortZ_sorted L),(sortZ_perm L).nodup_iff]
 have he:sortZ L=[]↔L=[]:=by
  constructor
  ·intro e;have:=(sortZ_perm L).length_eq;rw[e]at this;exact List.eq_nil_of_length_eq_zero this.symm
  ·intro e;subst e;exact List.eq_nil_of_length_eq_zero (sortZ_perm []).length_eq
 unfold liveS;rw[if_neg (by simp[hv])]
 by_cases h1:∃id∈L,(findC H.Cores id).2=false
 ·rw[if_pos (hm.2 h1),if_pos h1]
 ·rw[if_neg (fun h=>h1 (hm.1 h)),if_neg h1];by_cases h2:L.Nodup
  ·have e1:¬(Go.Lib.compact (sortZ L)).length<(sortZ L).length:=fun h=>hn.1 h h2
   have e2:¬ ¬L.Nodup:=fun h=>h h2
   rw[if_neg e1,if_neg e2];by_cases h3:L=[]
   ·have e3:=he.2 h3
    rw[if_pos e3,if_pos h3]
   ·have e3:¬sortZ L=[]:=fun h=>h3 (he.1 h)
    rw[if_neg e3,if_neg h3]
  ·have e1:=hn.2 h2
   rw[if_pos e1,if_pos h2]
theorem liveS_bad{H:HwT}(hv:validS H≠0)(L:List Int):(liveS H L).2=validS H:=by unfold liveS;rw[if_pos hv]
theorem lives_any{Γ:Gho}{u:Value}{H:HwT}[hh:HwR Γ u H][hwd:WideH H]{S:List Res}{w:World}{v:Value}{L:List Int}(hr:RepS Γ v 1 (intRows L))(hw:Wd Γ S w) :
  Calls Tryz.prog 90 #[u,v] w fun e w'=>e=.returned (.int .i64 (liveS H L).2)∧Wd Γ S w':=by
 have hhw:=hh
 obtain⟨a1,n1,c1,a2,n2,c2,a3,n3,c3,a4,n4,c4,a5,n5,c5,cs',rfl,hcs,hok,hsz,r1,r2,r3,r4,r5⟩:=hh.h;obtain⟨a,n,c,rfl,hn,hnc,hcc⟩:=hr.shape;have hn0:=hn
 rw[show (intRows L).length=L.length from List.length_map ..]at hn;refine calls_of_W Tryz.func90 rfl rfl ?_
 refine byG ?_;refine lBox ?_;intro b2 w hw;have hw:Wd Γ (.blk b2 (hwC H a1 n1 c1 a2 n2 c2 a3 n3 c3 a4 n4 c4 a5 n5 c5)::S) w:=hw
 repeat first|refine byW ?_|refine byV ?_;intro w hw
 refine W_cond rfl (fun h=>?_) (fun h=>?_)
 ·have h:validS H≠0:=of_decide_eq_true h
  refine byG ?_;rw[liveS_bad h];exact⟨_,rfl,rfl,hw.drop⟩
 have hv:validS H=0:=by
  by_cases e:validS H=0
  ·exact e
  ·exact absurd (decide_eq_true (show validS H≠0 from e)) (by simp[h])
 rw[liveS_code hv];clear h;refine byG ?_;refine W_loop (fun μ ρ w=>∃(i:Nat),μ+i=n∧(∀(j:Nat) (id:Int),j<i→L[j]? = some id→(findC H.Cores id).2=true)∧Has ρ [(1,.slice a n c),(2,.pointer (some ⟨b2,0,none⟩)),(6,.int .i64 i)]∧Wd Γ (.blk b2 (hwC H a1 n1 c1 a2 n2 c2 a3 n3 c3 a4 n4 c4 a5 n5 c5)::S) w) n ⟨0,by omega,fun j id h=>by omega,⟨rfl,rfl,rfl,trivial⟩,hw⟩ ?_
 clear hw;rintro μ ρ w ⟨i,hμ,hall,hρ,hw⟩
 rw[hρ.eq];clear hρ;refine byG ?_;refine W_cond rfl (fun h=>?_) (fun h=>?_)
 ·have hin:i<n:=by have:=of_decide_eq_true h;omega
  clear h;obtain⟨id,hid⟩:=get_lt (l:=L) (k:=i) (by omega)
  refine byG ?_;refine W_quiet (by kernel_rfl) (by kernel_rfl) hw ?_
  refine byQ ?_;intro w hw;refine W_cond rfl (fun h=>?_) (fun h=>?_)
  ·have h:=coreAt_neg2.1 (of_decide_eq_true h)
   refine byG ?_;rw[if_pos ⟨id,List.mem_of_getElem? hid,h⟩];exact⟨_,rfl,rfl,hw.drop⟩
  ·have h:(findC H.Cores id).2=true:=by
    have h1:=of_decide_eq_false h
    rw[coreAt_neg2]at h1;simpa using h1
   refine byG ?_;refine⟨n-i-1,by omega,i+1,by omega,fun j id2 hj hj2=>?_,⟨rfl,rfl,rfl,trivial⟩,hw⟩
   by_cases e:j=i
   ·subst e;rw[hid]at hj2;cases hj2;exact h
   ·exact hall j id2 (by omega) hj2
 have hin:n≤i:=by have:=of_decide_eq_false h;omega
 clear h;have hknown:¬ ∃id∈L,(findC H.Cores id).2=false:=by
  rintro⟨id,h1,h2⟩;obtain⟨j,hj⟩:=List.mem_iff_getElem?.1 h1
  have:=hall j id (by have:=(List.getElem?_eq_some_iff.1 hj).1;omega) hj
  rw[this]at h2;cases h2
 rw[if_neg hknown];clear hall hknown hin hμ;refine byG ?_;refine W_loop (fun μ ρ w=>∃(i:Nat),μ+i=n∧(∀(j k:Nat) (x y:Int),j<i→k<j→L[j]? = some x→L[k]? = some y→x≠y)∧Has ρ [(1,.slice a n c),(2,.pointer (some ⟨b2,0,none⟩)),(7,.int .i64 i)]∧Wd Γ (.blk b2 (hwC H a1 n1 c1 a2 n2 c2 a3 n3 c3 a4 n4 c4 a5 n5 c5)::S) w) n ⟨0,by omega,fun j k x y h=>by omega,⟨rfl,rfl,rfl,trivial⟩,hw⟩ ?_
 clear hw;rintro μ ρ w ⟨i,hμ,hall,hρ,hw⟩
 rw[hρ.eq];clear hρ;refine byG ?_;refine W_cond rfl (fun h=>?_) (fun h=>?_)
 ·have hin:i<n:=by have:=of_decide_eq_true h;omega
  clear h;obtain⟨x,hx⟩:=get_lt (l:=L) (k:=i) (by omega)
  refine byG ?_;refine W_loop (fun μ2 ρ w=>∃(k:Nat),μ2+k=i∧(∀(q:Nat) (y:Int),q<k→L[q]? = some y→x≠y)∧Has ρ [(1,.slice a n c),(2,.pointer (some ⟨b2,0,none⟩)),(7,.int .i64 i),(8,.int .i64 k)]∧Wd Γ (.blk b2 (hwC H a1 n1 c1 a2 n2 c2 a3 n3 c3 a4 n4 c4 a5 n5 c5)::S) w) i ⟨0,by omega,fun q y h=>by omega,⟨rfl,rfl,rfl,rfl,trivial⟩,hw⟩ ?_
  clear hw;rintro μ2 ρ w ⟨k,hμ2,hal2,hρ,hw⟩
  rw[hρ.eq];clear hρ;refine byG ?_;refine W_cond rfl (fun h=>?_) (fun h=>?_)
  ·have hki:k<i:=by have:=of_decide_eq_true h;omega
   clear h;obtain⟨y,hy⟩:=get_lt (l:=L) (k:=k) (by omega)
   refine byG ?_;refine W_quiet (by kernel_rfl) (by kernel_rfl) hw ?_
   refine byQ ?_;intro w hw;refine W_cond rfl (fun h=>?_) (fun h=>?_)
   ·have h:x=y:=of_decide_eq_true h
    refine byG ?_;have hnn:¬L.Nodup:=fun hn2=>by
     have:=(List.getElem?_inj (show i<L.length by omega) hn2).1 (hx.trans (by rw[hy,h]))
     omega
    rw[if_pos hnn];exact⟨_,rfl,rfl,hw.drop⟩
   ·have h:¬x=y:=of_decide_eq_false h
    refine byG ?_;refine⟨i-k-1,by omega,k+1,by omega,fun q z hq hz=>?_,⟨rfl,rfl,rfl,rfl,trivial⟩,hw⟩
    by_cases e:q=k
    ·subst e;rw[hy]at hz;cases hz;exact h
    ·exact hal2 q z (by omega) hz
  have hki:i≤k:=by have:=of_decide_eq_false h;omega
  clear h;refine byG ?_;refine⟨n-i-1,by omega,i+1,by omega,fun j q z y hj hq hz hy=>?_,⟨rfl,rfl,rfl,trivial⟩,hw⟩
  by_cases e:j=i
  ·subst e;rw[hx]at hz;cases hz;exact hal2 q y (by omega) hy
  ·exact hall j q z y (by omega) hq hz hy
 have hin:n≤i:=by have:=of_decide_eq_false h;omega
 clear h;have hnd:L.Nodup:=by
  rw[List.nodup_iff_pairwise_ne,List.pairwise_iff_getElem];intro q j hq hj hqj e;exact hall j q L[j] L[q] (by omega) hqj (List.getElem?_eq_getElem hj) (List.getElem?_eq_getElem hq) e.symm
 rw[if_neg (fun h=>h hnd)];refine byG ?_;refine W_cond rfl (fun h=>?_) (fun h=>?_)
 ·have h:n=0:=by have:=of_decide_eq_true h;omega
  refine byG ?_;rw[if_pos (List.eq_nil_of_length_eq_zero (by omega))]
  exact⟨_,rfl,rfl,hw.drop⟩
 ·have h:¬n=0:=by have:=of_decide_eq_false h;omega
  refine byG ?_;rw[if_neg (fun e=>h (by rw[hn,e];rfl))]
  exact⟨_,rfl,rfl,hw.drop⟩
set_option maxHeartbeats 64000000
def totV(bt:Option (List Int×Int)):Int:=match bt with|none=>0|some p=>p.2
def bestR(bt:Option (List Int×Int))(v:Value):List Res:=match bt with|none=>[]|some p=>[.own v 3 1 (intRows p.1)]
abbrev trB(bA:Nat)(dv rv bv:Value)(t:Int):Res:=.blk bA (.cells #[dv,rv,bv,.int .i64 t] 158)
def roomL(n cap:Nat)(so:List Int):List Int:=rowN n fun u=>(cap:Int)-(so.count (u:Int):Nat)
theorem prun_eq{bt:Option (List Int×Int)}{sum:Int}{ab:Option Addr}(h:ab.isSome=bt.isSome):(ab.isSome&&decide (totV bt≤sum))=prun bt sum:=by
 rw[h];cases bt with
 | none=>rfl
 | some p=>rfl
theorem RdS.pre{Γ:Gho}{S:List Res}{v:Value}{sz:Nat}{rows:List (List Value)}(h:RdS Γ S v sz rows):∀ {X:List Res},RdS Γ (X++S) v sz rows
 | []=>h
 | _::X=>(RdS.pre h (X:=X)).cons
theorem costB{n cap N:Nat}{A:List (List Int)}{so:List Int}(hC:CostM n A)(hN:A.length=N)(hF:Full n cap so)(hl:so.length≤N):0≤costA (aF A) so∧costA (aF A) so≤(so.length:Int)*1000000000:=by
 unfold costA;have key:∀k,k≤so.length→0≤sumZ (fun j=>aF A j (atI so j)) k∧sumZ (fun j=>aF A j (atI so j)) k≤(k:Int)*1000000000:=fun k hk=>by
  induction k with
  | zero=>exact⟨Int.le_refl _,Int.le_refl _⟩
  | succ k ih=>
   have h1:=ih (by omega)
   obtain⟨r,-,-,h2⟩:=hC.get (show k<A.length by omega)
   have h3:=hF.rng _ (atI_mem (x:=so) (i:=k) (by omega))
   have h4:=(h2 (atI so k).toNat (by omega)).2
   rw[show (((atI so k).toNat:Nat):Int)=atI so k by omega]at h4
   simp only[sumZ]
   omega
 exact key so.length (Nat.le_refl _)
set_option maxRecDepth 8000 in
theorem try_any{Γ:Gho}{bA n cap N:Nat}{A:List (List Int)}{da ra:Option Addr}{dc rc:Nat}(hM:MatF Γ (.slice da N dc) A)(hN:A.length=N)(hNb:N≤1000)(hn:n≤64)(hcap:cap≤256)(hC:CostM n A):∀(f:Nat) (so:List Int) (sov:Value) (bt:Option (List Int×Int)) (ab:Option Addr) (nb cb:Nat) (S:List Res) (w:World),
  so.length+f=N→Full n cap so→RdS Γ S sov 1 (intRows so)→ab.isSome=bt.isSome→Wd Γ (trB bA (.slice da N dc) (.slice ra n rc) (.slice ab nb cb) (totV bt)::.own (.slice ra n rc) 3 1 (intRows (roomL n cap so))::(bestR bt (.slice ab nb cb)++S)) w →
  Calls Tryz.prog 94 #[.pointer (some ⟨bA,0,none⟩),.int .i64 so.length,sov,.int .i64 (costA (aF A) so)] w fun e w'=>∃(ab':Option Addr) (nb' cb':Nat),e=.returned (.tuple #[])∧(0<N→ab'.isSome=(tryL n cap (aF A) f so (costA (aF A) so) bt).isSome) ∧
   Wd Γ (trB bA (.slice da N dc) (.slice ra n rc) (.slice ab' nb' cb') (totV (tryL n cap (aF A) f so (costA (aF A) so) bt))::.own (.slice ra n rc) 3 1 (intRows (roomL n cap so))::(bestR (tryL n cap (aF A) f so (costA (aF A) so) bt) (.slice ab' nb' cb')++S)) w':=by
 intro f;induction f with
 | zero=>
  intro so sov bt ab nb cb S w hf hF hso hab hw;obtain⟨sa,ns,cs,rfl,hns,hnsc,hcsc⟩:=hso.shape;have hns:ns=so.length:=by simpa[intRows] using hns
  refine calls_of_WC Tryz.func94 rfl rfl ?_
  refine byG ?_;refine W_cond rfl (fun h=>?_) (fun h=>?_)
  ·have h:prun bt (costA (aF A) so)=true:=by rw[←prun_eq hab];exact h
   have ht:tryL n cap (aF A) 0 so (costA (aF A) so) bt=bt:=by unfold tryL;rw[if_pos h]
   rw[ht];refine byG ?_;exact⟨[],trivial,ab,nb,cb,rfl,fun _=>hab,hw⟩
  have h:¬prun bt (costA (aF A) so)=true:=by rw[←prun_eq hab];simp only[Bool.not_eq_true];exact h
  have ht:tryL n cap (aF A) 0 so (costA (aF A) so) bt=some (so,costA (aF A) so):=by unfold tryL;rw[if_neg h]
  rw[ht];clear h ht;refine byG ?_;refine W_cond rfl (fun h=>?_) (fun h=>?_)
  ·clear h;refine byG ?_;refine lBuildSlice [] ?_
   intro q w hw;refine byG ?_;refine lApp (i:=0) (rows2:=intRows so) ?_ ((RdS.pre (X:=.own (.slice (some q) 0 0) 3 1 []::trB bA (.slice da N dc) (.slice ra n rc) (.slice ab nb cb) (totV bt)::.own (.slice ra n rc) 3 1 (intRows (roomL n cap so))::bestR bt (.slice ab nb cb)) hso).rd hw) (h1:=ints_one so) (hm:=by simp[intRows];omega)
   intro v' w hw;have hw:Wd Γ (.own v' 3 1 (intRows so)::trB bA (.slice da N dc) (.slice ra n rc) (.slice ab nb cb) (totV bt)::.own (.slice ra n rc) 3 1 (intRows (roomL n cap so))::(bestR bt (.slice ab nb cb)++S)) w:=hw
   obtain⟨ab',nb',cb',rfl,hnb',-,-⟩:=hw.own_shape (i:=0) rfl
   have hrd:=hw.own_rd (i:=0) rfl
   refine byG ?_;refine lStore ?_;intro w hw;refine byG ?_;refine lStore ?_;intro w hw;have hw:Wd Γ (.own (.slice ab' nb' cb') 3 1 (intRows so)::trB bA (.slice da N dc) (.slice ra n rc) (.slice ab' nb' cb') (costA (aF A) so)::.own (.slice ra n rc) 3 1 (intRows (roomL n cap so))::(bestR bt (.slice ab nb cb)++S)) w:=hw
   have hw2:Wd Γ (.own (.slice ab' nb' cb') 3 1 (intRows so)::trB bA (.slice da N dc) (.slice ra n rc) (.slice ab' nb' cb') (costA (aF A) so)::.own (.slice ra n rc) 3 1 (intRows (roomL n cap so))::S) w:=by
    cases bt with
    | none=>exact hw
    | some p=>exact hw.dropAt 3
   refine byG ?_;refine⟨[],trivial,ab',nb',cb',rfl,fun h0=>?_,hw2.ps [2,2]⟩
   have:=hrd.at_ (by simp[intRows];omega)
   rw[this];rfl
  ·exfalso
   have h:=of_decide_eq_false h
   omega
 | succ f ih=>
  intro so sov bt ab nb cb S w hf hF hso hab hw;obtain⟨sa,ns,cs,rfl,hns,hnsc,hcsc⟩:=hso.shape;have hns:ns=so.length:=by simpa[intRows] using hns
  have hNpos:0<N:=by omega
  obtain⟨r,hr,hrl,hrc⟩:=hC.get (show so.length<A.length by omega)
  obtain⟨raa,rnn,rcc,hs',hrn,rr,rh,hru⟩:=hM.at hr
  have hrn:n=rnn:=by omega
  subst hrn;refine calls_of_WC Tryz.func94 rfl rfl ?_
  refine byG ?_;refine W_cond rfl (fun h=>?_) (fun h=>?_)
  ·have h:prun bt (costA (aF A) so)=true:=by rw[←prun_eq hab];exact h
   have ht:tryL n cap (aF A) (f+1) so (costA (aF A) so) bt=bt:=by unfold tryL;rw[if_pos h]
   rw[ht];refine byG ?_;exact⟨[],trivial,ab,nb,cb,rfl,fun _=>hab,hw⟩
  have h:¬prun bt (costA (aF A) so)=true:=by rw[←prun_eq hab];simp only[Bool.not_eq_true];exact h
  obtain⟨R,hR⟩:∃R,R=tryL n cap (aF A) (f+1) so (costA (aF A) so) bt:=⟨_,rfl⟩
  have ht:R=tryC cap (fun k bt=>tryL n cap (aF A) f (so++[(k:Int)]) (costA (aF A) so+aF A so.length k) bt) so n 0 bt:=by
   rw[hR];show (if prun bt (costA (aF A) so)=true then bt else tryC cap (fun k bt=>tryL n cap (aF A) f (so++[(k:Int)]) (costA (aF A) so+aF A so.length k) bt) so n 0 bt)=_
   rw[if_neg h]
  rw[←hR];clear h hR;refine byG ?_;refine W_cond rfl (fun h=>?_) (fun h=>?_)
  ·exfalso
   have h:=of_decide_eq_true h
   omega
  clear h;refine byG ?_;refine W_loop (fun μ ρ w=>∃(k:Nat) (bt:Option (List Int×Int)) (ab:Option Addr) (nb cb:Nat),μ+k=n∧ab.isSome=bt.isSome∧R=tryC cap (fun k bt=>tryL n cap (aF A) f (so++[(k:Int)]) (costA (aF A) so+aF A so.length k) bt) so (n-k) k bt∧Has ρ [(0,.pointer (some ⟨bA,0,none⟩)),(1,.int .i64 so.length),(2,.slice sa ns cs),(3,.int .i64 (costA (aF A) so)),(8,.int .i64 k)]∧Wd Γ (trB bA (.slice da N dc) (.slice ra n rc) (.slice ab nb cb) (totV bt)::.own (.slice ra n rc) 3 1 (intRows (roomL n cap so))::(bestR bt (.slice ab nb cb)++S)) w) n ⟨0,bt,ab,nb,cb,by omega,hab,ht,⟨rfl,rfl,rfl,rfl,rfl,trivial⟩,hw⟩ ?_
  clear hw ht hab;rintro μ ρ w ⟨k,bt,ab,nb,cb,hμ,hab,ht,hρ,hw⟩
  rw[hρ.eq];clear hρ;refine byG ?_;refine W_cond rfl (fun h=>?_) (fun h=>?_)
  ·have hkn:k<n:=by have:=of_decide_eq_true h;omega
   clear h;rw[show n-k=(n-(k+1))+1 by omega]at ht
   have hcnt:=hF.cap k hkn
   have hrk:(roomL n cap so)[k]? = some ((cap:Int)-(so.count (k:Int):Nat)):=rowN_get hkn
   refine byG ?_;refine W_cond rfl (fun h=>?_) (fun h=>?_)
   ·have h:(cap:Int)-(so.count (k:Int):Nat)=0:=of_decide_eq_true h
    have ht2:R=tryC cap (fun k bt=>tryL n cap (aF A) f (so++[(k:Int)]) (costA (aF A) so+aF A so.length k) bt) so (n-(k+1)) (k+1) bt:=by
     rw[ht];show tryC cap _ so (n-(k+1)) (k+1) (if so.count (k:Int)<cap then _ else bt)=_
     rw[if_neg (by omega)]
    refine byG ?_;exact⟨n-k-1,by omega,k+1,bt,ab,nb,cb,by omega,hab,ht2,⟨rfl,rfl,rfl,rfl,rfl,trivial⟩,hw⟩
   have h:¬(cap:Int)-(so.count (k:Int):Nat)=0:=of_decide_eq_false h
   have hlt:so.count (k:Int)<cap:=by omega
   obtain⟨b2,hb2⟩:∃b2,b2=tryL n cap (aF A) f (so++[(k:Int)]) (costA (aF A) so+aF A so.length k) bt:=⟨_,rfl⟩
   have ht2:R=tryC cap (fun k bt=>tryL n cap (aF A) f (so++[(k:Int)]) (costA (aF A) so+aF A so.length k) bt) so (n-(k+1)) (k+1) b2:=by
    rw[ht,hb2];show tryC cap _ so (n-(k+1)) (k+1) (if so.count (k:Int)<cap then _ else bt)=_
    rw[if_pos hlt]
   clear h ht;have hF2:Full n cap (so++[(k:Int)]):=⟨fun v hv=>by
    rcases List.mem_append.1 hv with h1|h1
    ·exact hF.rng v h1
    ·rw[List.mem_singleton.1 h1];omega,fun u hu=>by
    rw[List.count_append];have h1:=hF.cap u hu
    by_cases e:(k:Int)=u
    ·have e2:k=u:=by omega
     subst e2;simp only[List.count_cons_self,List.count_nil]
     omega
    ·rw[List.count_eq_zero_of_not_mem (a:=(u:Int)) (l:=[(k:Int)]) (by simp;omega)];omega⟩
   have ih2:∀(q:Value) (S2:List Res) (w:World),RdS Γ S2 q 1 (intRows so++intRows [(k:Int)])→Wd Γ (trB bA (.slice da N dc) (.slice ra n rc) (.slice ab nb cb) (totV bt)::.own (.slice ra n rc) 3 1 (intRows (roomL n cap (so++[(k:Int)])))::(bestR bt (.slice ab nb cb)++S2)) w →
     Calls Tryz.prog 94 #[.pointer (some ⟨bA,0,none⟩),.int .i64 ((so.length:Int)+1),q,.int .i64 (costA (aF A) so+aF A so.length k)] w fun e w'=>∃(ab':Option Addr) (nb' cb':Nat),e=.returned (.tuple #[])∧ab'.isSome=b2.isSome ∧
      Wd Γ (trB bA (.slice da N dc) (.slice ra n rc) (.slice ab' nb' cb') (totV b2)::.own (.slice ra n rc) 3 1 (intRows (roomL n cap (so++[(k:Int)])))::(bestR b2 (.slice ab' nb' cb')++S2)) w':=fun q S2 w h1 h2=>by
    have h3:=ih (so++[(k:Int)]) q bt ab nb cb S2 w (by rw[List.length_append];simp;omega) hF2 (by rw[intRows_app];exact h1) hab h2
    rw[costA_snoc,List.length_append,←hb2]at h3;exact h3.mono fun e w' ⟨ab',nb',cb',g1,g2,g3⟩=>⟨ab',nb',cb',g1,g2 hNpos,g3⟩
   have hroom2:(intRows (roomL n cap so)).set k [.int .i64 ((cap:Int)-(so.count (k:Int):Nat)-1)]=intRows (roomL n cap (so++[(k:Int)])):=by
    unfold roomL;rw[rowI_set,rowN_congr fun v hv=>?_];unfold setN;rw[List.count_append];by_cases e:v=k
    ·subst e;rw[if_pos rfl];simp only[List.count_cons_self,List.count_nil];omega
    ·rw[if_neg e,List.count_eq_zero_of_not_mem (a:=(v:Int)) (l:=[(k:Int)]) (by simp;omega)];simp
   refine byG ?_;refine lStoreE (k:=k) (r:=[.int .i64 ((cap:Int)-(so.count (k:Int):Nat)-1)]) ?_
   intro w hw;have hw:Wd Γ (trB bA (.slice da N dc) (.slice ra n rc) (.slice ab nb cb) (totV bt)::.own (.slice ra n rc) 3 1 ((intRows (roomL n cap so)).set k [.int .i64 ((cap:Int)-(so.count (k:Int):Nat)-1)])::(bestR bt (.slice ab nb cb)++S)) w:=hw
   rw[hroom2]at hw;refine byG ?_;obtain⟨hcg,hc1,hc2⟩:=hrc k hkn
   have hcg:=intsI_get hcg
   have hvn:=hM.row.1
   obtain⟨p,hpe⟩:∃p,p=aF A so.length k:=⟨_,rfl⟩
   rw[←hpe]at hcg hc1 hc2 ih2
   have hcb:=costB hC hN hF (by omega)
   have hwm:Wd Γ (S++(List.range 3).flatMap fun x=>(ML [fun _=>[],fun _=>trB bA (.slice da N dc) (.slice ra n rc) (.slice ab nb cb) (totV bt)::.own (.slice ra n rc) 3 1 (intRows (roomL n cap (so++[(k:Int)])))::bestR bt (.slice ab nb cb),fun _=>[]]) x (ovr ([[69,72],[],[71]].getD x []) ρ noFr)) w:=by
    have h1:Wd Γ ((trB bA (.slice da N dc) (.slice ra n rc) (.slice ab nb cb) (totV bt)::.own (.slice ra n rc) 3 1 (intRows (roomL n cap (so++[(k:Int)])))::bestR bt (.slice ab nb cb))++S) w:=hw
    have h2:=h1.perm List.perm_append_comm
    simpa[List.range,List.range.loop,ML] using h2
   refine W_mixed S [fun _=>[],fun _=>trB bA (.slice da N dc) (.slice ra n rc) (.slice ab nb cb) (totV bt)::.own (.slice ra n rc) 3 1 (intRows (roomL n cap (so++[(k:Int)])))::bestR bt (.slice ab nb cb),fun _=>[]] [[],[],[],[],[0],[],[2],[0],[],[],[],[],[],[],[],[],[],[],[],[],[0,1]] [[],[],[],[],[0],[],[2],[0,2],[],[],[],[],[1],[],[],[],[],[],[],[],[0,1]] [[69,72],[],[71]] hwm ?_
   clear hwm;refine byM ?_;refine mAppNil (c:=0) (rows2:=intRows so) ?_ (fun Y w hw=>hso.app.rd hw) (by simp[intRows];exact hns) (List.all_eq_true.1 (ints_one so))
   refine byM ?_;refine mBuild (c:=2) (cells:=[.int .i64 (k:Int)]) (intRows [(k:Int)]) ?_
   refine byM ?_;refine mAppOwn2 (c:=0) (c2:=2) (dx:=69) (dy:=71) (rows:=intRows so) (rows2:=intRows [(k:Int)]) ?_ (List.all_eq_true.1 (ints_one _)) (hb:=by simp[intRows];omega) (h63:=by simp[intRows];omega)
   refine byM ?_;refine mY (v:=.slice da N dc) ?_ (hy:=fun Y w g hw=>y_l1b (i:=0) hw.swapApp rfl rfl rfl)
   refine byM ?_;refine mY (v:=.slice raa n rcc) ?_ (hy:=fun Y w g hw=>y_loadE1 rfl (rh.rd hw) hru)
   refine byM ?_;refine mS2 (c:=0) (c2:=1) (v:=.tuple #[]) (F:=fun g=>[.own (g 72) 3 1 (intRows so++intRows [(k:Int)])]) (G:=fun _=>trB bA (.slice da N dc) (.slice ra n rc) (.slice ab nb cb) (totV bt)::.own (.slice ra n rc) 3 1 (intRows (roomL n cap (so++[(k:Int)])))::bestR bt (.slice ab nb cb))
    (fun _=>[]) (exC (T:=Option Addr×Nat×Nat) (fun t _=>t.1.isSome=b2.isSome) fun t=>trB bA (.slice da N dc) (.slice ra n rc) (.slice t.1 t.2.1 t.2.2) (totV b2)::.own (.slice ra n rc) 3 1 (intRows (roomL n cap (so++[(k:Int)])))::bestR b2 (.slice t.1 t.2.1 t.2.2)) (fun g w Y hw=>?_) ?_
   ·have hw1:Wd Γ (.own (g 72) 3 1 (intRows so++intRows [(k:Int)])::((trB bA (.slice da N dc) (.slice ra n rc) (.slice ab nb cb) (totV bt)::.own (.slice ra n rc) 3 1 (intRows (roomL n cap (so++[(k:Int)])))::bestR bt (.slice ab nb cb))++(S++Y))) w:=hw
    obtain⟨qa,qn,qc,hq,hqn,hqc,hqm⟩:=hw1.own_shape (i:=0) rfl
    rw[hq]at hw1;have hw2:=hw1.perm List.perm_middle.symm
    have hcl:=ih2 (.slice qa qn qc) (.own (.slice qa qn qc) 3 1 (intRows so++intRows [(k:Int)])::(S++Y)) w (RdS.ownI (i:=0) rfl hqn hqc hqm) (by simpa using hw2)
    refine s_call (vs:=#[.pointer (some ⟨bA,0,none⟩),.int .i64 ((so.length:Int)+1),.slice qa qn qc,.int .i64 (costA (aF A) so+p)]) ?_ (hcl.mono fun e w' hq2=>?_)
    ·exact EvL.eqA (xs:=[.tmp 65,.tmp 67,.tmp 72,.tmp 84]) (vs:=[.pointer (some ⟨bA,0,none⟩),.int .i64 ((so.length:Int)+1),.slice qa qn qc,.int .i64 (costA (aF A) so+p)]) (EvL.cons (by rfl) (EvL.cons (by rfl) (EvL.cons (by exact hq) (EvL.cons (by rw[hpe];rfl) EvL.nil))))
    obtain⟨ab',nb',cb',rfl,g2,g3⟩:=hq2;refine⟨_,rfl,fun _=>rfl,?_⟩
    have g4:Wd Γ ((trB bA (.slice da N dc) (.slice ra n rc) (.slice ab' nb' cb') (totV b2)::.own (.slice ra n rc) 3 1 (intRows (roomL n cap (so++[(k:Int)])))::bestR b2 (.slice ab' nb' cb'))++.own (.slice qa qn qc) 3 1 (intRows so++intRows [(k:Int)])::(S++Y)) w':=g3
    have g5:=(g4.perm List.perm_middle).drop
    exact exC_mk (g:=noFr) (T:=Option Addr×Nat×Nat) (φ:=fun t _=>t.1.isSome=b2.isSome) (R:=fun t=>trB bA (.slice da N dc) (.slice ra n rc) (.slice t.1 t.2.1 t.2.2) (totV b2)::.own (.slice ra n rc) 3 1 (intRows (roomL n cap (so++[(k:Int)])))::bestR b2 (.slice t.1 t.2.1 t.2.2)) (ab',nb',cb') g2 g5
   refine mEnd fun w g hw=>?_
   have hw1:Wd Γ (S++(exC (T:=Option Addr×Nat×Nat) (fun t _=>t.1.isSome=b2.isSome) (fun t=>trB bA (.slice da N dc) (.slice ra n rc) (.slice t.1 t.2.1 t.2.2) (totV b2)::.own (.slice ra n rc) 3 1 (intRows (roomL n cap (so++[(k:Int)])))::bestR b2 (.slice t.1 t.2.1 t.2.2)) noFr++[.own (g 71) 3 1 (intRows [(k:Int)])])) w:=hw
   have hw3:=hw1.perm List.perm_append_comm
   rw[List.append_assoc]at hw3;obtain⟨⟨ab',nb',cb'⟩,hab',hw2⟩:=exC_open hw3
   have hw4:Wd Γ ((trB bA (.slice da N dc) (.slice ra n rc) (.slice ab' nb' cb') (totV b2)::.own (.slice ra n rc) 3 1 (intRows (roomL n cap (so++[(k:Int)])))::bestR b2 (.slice ab' nb' cb'))++.own (g 71) 3 1 (intRows [(k:Int)])::S) w:=hw2
   have hw:Wd Γ (trB bA (.slice da N dc) (.slice ra n rc) (.slice ab' nb' cb') (totV b2)::.own (.slice ra n rc) 3 1 (intRows (roomL n cap (so++[(k:Int)])))::(bestR b2 (.slice ab' nb' cb')++S)) w:=(hw4.perm List.perm_middle).drop
   clear hw1 hw2 hw3 hw4;have hrk2:(roomL n cap (so++[(k:Int)]))[k]? = some ((cap:Int)-(so.count (k:Int):Nat)-1):=by
    unfold roomL;rw[rowN_get hkn,List.count_append];simp only[List.count_cons_self,List.count_nil]
    congr 1
    omega
   have hroom3:(intRows (roomL n cap (so++[(k:Int)]))).set k [.int .i64 ((cap:Int)-(so.count (k:Int):Nat))]=intRows (roomL n cap so):=by
    unfold roomL;rw[rowI_set,rowN_congr fun v hv=>?_];unfold setN;show (if v=k then _ else (cap:Int)-((so++[(k:Int)]).count (v:Int):Nat))=_
    rw[List.count_append];by_cases e:v=k
    ·subst e;rw[if_pos rfl]
    ·rw[if_neg e,List.count_eq_zero_of_not_mem (a:=(v:Int)) (l:=[(k:Int)]) (by simp;omega)];simp
   have hr1:(cap:Int)-(so.count (k:Int):Nat)-1+1=(cap:Int)-(so.count (k:Int):Nat):=by omega
   refine byG ?_;refine lStoreE (k:=k) (r:=[.int .i64 ((cap:Int)-(so.count (k:Int):Nat))]) ?_ (hy:=by show Value.int .i64 _=_;rw[hr1])
   intro w hw;have hw:Wd Γ (trB bA (.slice da N dc) (.slice ra n rc) (.slice ab' nb' cb') (totV b2)::.own (.slice ra n rc) 3 1 ((intRows (roomL n cap (so++[(k:Int)]))).set k [.int .i64 ((cap:Int)-(so.count (k:Int):Nat))])::(bestR b2 (.slice ab' nb' cb')++S)) w:=hw
   rw[hroom3]at hw;refine byG ?_;exact⟨n-k-1,by omega,k+1,b2,ab',nb',cb',by omega,hab',ht2,⟨rfl,rfl,rfl,rfl,rfl,trivial⟩,hw⟩
  have hkn:k=n:=by have:=of_decide_eq_false h;omega
  rw[hkn,Nat.sub_self]at ht;have ht:R=bt:=ht
  rw[ht];refine byG ?_;exact⟨[],trivial,ab,nb,cb,rfl,fun _=>hab,hw⟩
attribute [local irreducible] matL
theorem liveS_zero{H:HwT}{L:List Int}(h:(liveS H L).2=0):validS H=0∧(∀id∈L,(findC H.Cores id).2=true)∧L.Nodup∧L≠[]∧(liveS H L).1=(sortZ L).map fun id=>(findC H.Cores id).1:=by
 have hv:validS H=0:=by
  by_cases e:validS H=0
  ·exact e
  ·rw[liveS_bad e]at h;exact absurd h e
 have hc:=liveS_code hv L
 rw[h]at hc;have h1:¬ ∃id∈L,(findC H.Cores id).2=false:=fun e=>by rw[if_pos e]at hc;cases hc
 rw[if_neg h1]at hc;have h2:L.Nodup:=by
  by_cases e:L.Nodup
  ·exact e
  ·rw[if_pos e]at hc;cases hc
 rw[if_neg (fun e=>e h2)]at hc;have h3:L≠[]:=fun e=>by rw[if_pos e]at hc;cases hc
 refine⟨hv,fun id hid=>?_,h2,h3,?_⟩
 ·cases e:(findC H.Cores id).2
  ·exact absurd ⟨id,hid,e⟩ h1
  ·rfl
 ·unfold liveS at h ⊢
  rw[if_neg (by simp[hv])]at h ⊢
  split
  ·rename_i e;rw[if_pos e]at h;cases h
  ·rename_i e
   rw[if_neg e]at h;split
   ·rename_i e2;rw[if_pos e2]at h;cases h
   ·rename_i e2
    rw[if_neg e2]at h;split
    ·rename_i e3;rw[if_pos e3]at h;cases h
    ·rfl
theorem bsortI_sortZ{L:List Int}(h:L.Nodup):bsort ltI L=sortZ L:=(sortZ_eq (bsortI_sorted h) (bsortI_perm L)).symm
theorem rdS_nil{Γ:Gho}{S:List Res}:RdS Γ S (.slice none 0 0) 1 (intRows []):=⟨none,0,0,rfl,rfl,Nat.le_refl _,by decide,fun w _=>⟨fun r h=>by simp[intRows]at h,fun h=>by simp[intRows]at h,fun j u hj=>by simp[intRows]at hj⟩⟩
def rmL(n:Nat)(cap:Int)(k:Nat):List Int:=rowN n fun u=>if u<k then cap else 0
theorem rmL_set{n k:Nat}{cap:Int}:(intRows (rmL n cap k)).set k [.int .i64 cap]=intRows (rmL n cap (k+1)):=by
 unfold rmL;rw[rowI_set,rowN_congr fun v _=>?_];unfold setN;by_cases e:v=k
 ·subst e;rw[if_pos rfl,if_pos (by omega)]
 ·rw[if_neg e];by_cases e2:v<k
  ·show (if v<k then cap else 0)=_
   rw[if_pos e2,if_pos (by omega)]
  ·show (if v<k then cap else 0)=_
   rw[if_neg e2,if_neg (by omega)]
theorem rmL_end{n cap:Nat}:rmL n cap n=roomL n cap []:=rowN_congr fun v hv=>by rw[if_pos hv];simp
set_option maxRecDepth 8000 in
theorem rinterruptsW{Γ:Gho}{u:Value}{H:HwT}[hh:HwR Γ u H][hwd:WideH H]{S:List Res}{w:World}{v:Value}{L:List Int}{per:Int}(hr:RepS Γ v 1 (intRows L))(hN:L.length≤1000)(hLen:(liveS H L).1.length≤64)(hDev:H.Devs.length≤1000)(hLe:HwLe H)(hw:Wd Γ S w) :
  Calls Tryz.prog 59 #[u,v,.int .i64 per] w fun e w'=>∃(Γ':Gho) (v':Value) (rs:List (Int×Int)) (tot code:Int),Γ.le Γ'∧e=.returned (.tuple #[v',.int .i64 tot,.int .i64 code])∧IntPost H L per rs tot code ∧
   Wd Γ' (.own v' 55 2 (rs.map prI)::S) w':=by
 have hhw:=hh
 obtain⟨a1,n1,c1,a2,n2,c2,a3,n3,c3,a4,n4,c4,a5,n5,c5,cs',rfl,hcs,hok,hsz,r1,r2,r3,r4,r5⟩:=hh.h;obtain⟨hn5,hm5,hx5⟩:=rep_facts r5
 simp only[List.length_map]at hn5
 obtain⟨av,nv,cv,rfl,hnv,hncv,hccv⟩:=hr.shape;have hnv:nv=L.length:=by simpa[intRows] using hnv
 haveI plv:PG Tryz.prog Γ 90 [.agg #[.string H.Name,.slice a1 n1 c1,.slice a2 n2 c2,.slice a3 n3 c3,.slice a4 n4 c4,.slice a5 n5 c5],.slice av nv cv] (.int .i64 (liveS H L).2):=⟨fun S w hw=>lives_any (hh:=hhw) hr hw⟩
 refine calls_of_W Tryz.func59 rfl rfl ?_
 refine byG ?_;refine lBox ?_;intro b3 w hw;have hw:Wd Γ (.blk b3 (hwC H a1 n1 c1 a2 n2 c2 a3 n3 c3 a4 n4 c4 a5 n5 c5)::S) w:=hw
 repeat first|refine byW ?_|refine byV ?_;intro w hw
 refine W_cond rfl (fun h=>?_) (fun h=>?_)
 ·have h:(liveS H L).2≠0:=of_decide_eq_true h
  refine byG ?_;exact⟨_,rfl,Γ,_,[],0,(liveS H L).2,Gho.le.refl _,rfl,by unfold IntPost;rw[if_pos h];exact⟨rfl,rfl,rfl⟩,Wd.addNil hw.drop⟩
 have hcode:(liveS H L).2=0:=by
  by_cases e:(liveS H L).2=0
  ·exact e
  ·exact absurd (decide_eq_true (show (liveS H L).2≠0 from e)) (by simp[h])
 clear h;obtain⟨hv,hknown,hnod,hLne,hl1⟩:=liveS_zero hcode
 have hcode2:¬(liveS H L).2≠0:=fun e=>e hcode
 have hl1n:(liveS H L).1.length=nv:=by rw[hl1,List.length_map,(sortZ_perm L).length_eq,hnv]
 refine byG ?_;refine W_cond rfl (fun h=>?_) (fun h=>?_)
 ·have h:per<1∨256<per:=by simpa using h
  refine byG ?_;exact⟨_,rfl,Γ,_,[],0,6,Gho.le.refl _,rfl,by unfold IntPost;rw[if_neg hcode2,if_pos h];exact⟨rfl,rfl,rfl⟩,Wd.addNil hw.drop⟩
 have hper:¬(per<1∨256<per):=by
  intro hh;have h:¬(per<1∨256<per):=by simpa using h
  exact h hh
 clear h;have hmul:IntKind.i64.wrap (per*(nv:Int))=per*(nv:Int):=by
  have h1:0≤per*(nv:Int):=Int.mul_nonneg (by omega) (by omega)
  have h2:per*(nv:Int)≤256*(nv:Int):=Int.mul_le_mul_of_nonneg_right (by omega) (by omega)
  exact wrap_i64 (by omega) (by omega)
 refine byG ?_;refine W_cond rfl (fun h=>?_) (fun h=>?_)
 ·have h:per*(nv:Int)<n5:=by
   rw[←hmul];exact of_decide_eq_true h
  refine byG ?_;exact⟨_,rfl,Γ,_,[],0,64,Gho.le.refl _,rfl,by unfold IntPost;rw[if_neg hcode2,if_neg hper,hl1n,←hn5,if_pos h];exact⟨rfl,rfl,rfl⟩,Wd.addNil hw.drop⟩
 have hfit:¬per*(nv:Int)<n5:=by
  intro hh;rw[←hmul]at hh;exact(of_decide_eq_false h) hh
 clear h;obtain⟨cap,hcapE⟩:∃cap:Nat,per=cap:=⟨per.toNat,by omega⟩
 subst hcapE;refine byG ?_;refine lCall ((SortInts_any (RepS.rdS hr) (by omega) hw).mono fun e w hq=>?_)
 clear hw;obtain⟨vs,rfl,hw⟩:=hq;refine⟨_,rfl,?_⟩;have hLSs:=bsortI_sorted hnod
 have hLSz:=bsortI_sortZ hnod
 have hLSp:=bsortI_perm L
 generalize bsort ltI L=LS at *
 rw[←hLSz]at hl1;obtain⟨al,n,cl,rfl,hn,-,-⟩:=hw.own_shape (i:=0) rfl
 have hn:n=LS.length:=by simpa[intRows] using hn
 obtain⟨Γ1,hle1,rl,hw1⟩:=hw.freeze;clear hw;have hw:Wd Γ1 (.blk b3 (hwC H a1 n1 c1 a2 n2 c2 a3 n3 c3 a4 n4 c4 a5 n5 c5)::S) w:=hw1
 clear hw1;have hR1:=hhw.mono hle1
 obtain⟨cs,hcsE⟩:∃cs,cs=(liveS H L).1:=⟨_,rfl⟩
 have hcl:cs.length=n:=by rw[hcsE,hl1,List.length_map,hn]
 have hn64:n≤64:=by rw[←hcl,hcsE];exact hLen
 have hnnv:n=nv:=by rw[←hcl,hcsE];exact hl1n
 have hidf:∀(k:Nat) (c:CoreT),cs[k]? = some c→LS[k]? = some c.ID∧c∈H.Cores∧(findC H.Cores c.ID).2=true∧coreN H c.ID=c.Node:=fun k c hc=>by
  rw[hcsE,hl1,List.getElem?_map]at hc;cases hq:LS[k]? with
  | none=>rw[hq]at hc;cases hc
  | some id=>
   rw[hq]at hc;simp only[Option.map_some,Option.some.injEq]at hc
   have hid:=hknown id (hLSp.mem_iff.1 (List.mem_of_getElem? hq))
   obtain⟨g1,g2⟩:=findC_in hid
   rw[hc]at g1 g2
   exact⟨by rw[g2],g1,by rw[g2];exact hid,by unfold coreN;rw[g2,hc]⟩
 have hcm:∀c∈cs,c∈H.Cores:=fun c hc=>by
  obtain⟨k,hk⟩:=List.mem_iff_getElem?.1 hc
  exact(hidf k c hk).2.1
 refine byG ?_;refine lCall ((RNormalize_any (hh:=hR1) hLe hw).mono fun e w hq=>?_)
 clear hw;obtain⟨Γ8,u8,hle8,rfl,ho⟩:=hq;refine⟨_,rfl,?_⟩;obtain⟨Γ9,hle9,hNm,hw⟩:=ho.freeze (norm_sz hsz)
 clear ho;obtain⟨b1',m1',d1',b2',m2',d2',b3',m3',d3',b4',m4',d4',b5',m5',d5',cs'',rfl,-,-,-,-,-,-,-,rN⟩:=hNm.h;have hysE:=devs_norm (ys:=(normS H).Devs) hv (isort_spec cDev_lt3 _).1 ((isort_spec cDev_lt3 H.Devs).2.imp fun {a b} h=>by rw[lt_DevT]at h;have:=of_decide_eq_false h;omega)
 have hyp:(normS H).Devs.Perm H.Devs:=(isort_spec cDev_lt3 _).1
 have hys:(normS H).Devs.Pairwise fun a b=>a.IRQ≤b.IRQ:=(isort_spec cDev_lt3 H.Devs).2.imp fun {a b} h=>by rw[lt_DevT]at h;have:=of_decide_eq_false h;omega
 generalize (normS H).Devs=ys at *
 clear hysE;have hle19:=hle1.trans (hle8.trans hle9)
 have hR9:=hhw.mono hle19
 have rl:=rl.mono (hle8.trans hle9)
 obtain⟨hnN,hncN,-⟩:=rep_facts rN
 simp only[List.length_map]at hnN
 have hm5:m5'≤1000:=by rw[hnN,hyp.length_eq];exact hDev
 clear hle1 hle8 hle9 hR1 hNm;refine byG ?_;refine lY (v:=.slice b5' m5' d5') ?_ (hy:=y_fldS (Tryz.underlying38) rfl rfl (by kernel_rfl) rfl)
 refine byG ?_;refine lCall ((Matrix_any (hh:=hR9) hv hw).mono fun e w hq=>?_)
 clear hw;obtain⟨rfl,hw⟩:=hq;refine⟨_,rfl,?_⟩;refine byG ?_;refine lAlloc ?_;intro b14 w hw;rw[matL_zero]at hw;have hw:Wd Γ9 (.blk b14 (.cells (matL (fun _ _=>0)).toArray 142)::.blk b3 (hwC H a1 n1 c1 a2 n2 c2 a3 n3 c3 a4 n4 c4 a5 n5 c5)::S) w:=hw
 refine lStore (i:=0) (vs:=matL (dstM H)) ?_ (hl:=matL_len _) (h1:=by rw[List.all_eq_true];exact matL_one _) (ho:=by simp[matL_len]) (hv:=by simp[Value.cells])
 intro w hw;have hw:Wd Γ9 (.blk b14 (.cells (putCells (matL (fun _ _=>0)).toArray 0 (matL (dstM H))) 142)::.blk b3 (hwC H a1 n1 c1 a2 n2 c2 a3 n3 c3 a4 n4 c4 a5 n5 c5)::S) w:=hw
 rw[show putCells (matL (fun _ _=>0)).toArray 0 (matL (dstM H))=(matL (dstM H)).toArray from by unfold putCells;simp[matL_len]]at hw
 obtain⟨Γ10,hle10,hD,hw1⟩:=hw.freezeB;clear hw;have hw:=hw1;clear hw1;have hR10:=hR9.mono hle10
 have rl:=rl.mono hle10
 have rN:=rN.mono hle10
 have hle:Γ.le Γ10:=hle19.trans hle10
 clear hle10 hR9 hle19;have hnf:∀(k:Nat) (c:CoreT),cs[k]? = some c→PG Tryz.prog Γ10 93 [.agg #[.string H.Name,.slice a1 n1 c1,.slice a2 n2 c2,.slice a3 n3 c3,.slice a4 n4 c4,.slice a5 n5 c5],.int .i64 c.ID] (.int .i64 c.Node):=fun k c hc=>by
  obtain⟨h1,h2,h3,h4⟩:=hidf k c hc
  have:=pg_NodeOf (hh:=hR10) (x:=c.ID) h3
  rwa [h4]at this
 refine byG ?_;refine lMakeSlice (len:=n) ?_
 intro ar w hw;refine byG ?_;refine lBox ?_;intro b13 w hw;have hz:List.replicate n [Value.int .i64 0]=intRows (rmL n cap 0):=by
  rw[show rmL n cap 0=rowN n fun _=>0 from rowN_congr fun j _=>by rw[if_neg (by omega)],←rep_row];simp[intRows]
 have hw:Wd Γ10 (trB b13 (.slice none 0 0) (.slice (some ar) n n) (.slice none 0 0) 0::.own (.slice (some ar) n n) 3 1 (intRows (rmL n cap 0))::.blk b3 (hwC H a1 n1 c1 a2 n2 c2 a3 n3 c3 a4 n4 c4 a5 n5 c5)::S) w:=by rw[←hz];exact hw
 clear hz;refine byG ?_;refine W_loop (fun μ ρ w=>∃(i:Nat),μ+i=n∧Has ρ [(2,.int .i64 cap),(3,.pointer (some ⟨b3,0,none⟩)),(10,.slice al n cl),(11,.slice b5' m5' d5'),(12,.pointer (some ⟨b14,0,none⟩)),(13,.pointer (some ⟨b13,0,none⟩)),(14,.int .i64 i)]∧Wd Γ10 (trB b13 (.slice none 0 0) (.slice (some ar) n n) (.slice none 0 0) 0::.own (.slice (some ar) n n) 3 1 (intRows (rmL n cap i))::.blk b3 (hwC H a1 n1 c1 a2 n2 c2 a3 n3 c3 a4 n4 c4 a5 n5 c5)::S) w) n ⟨0,by omega,⟨rfl,rfl,rfl,rfl,rfl,rfl,rfl,trivial⟩,hw⟩ ?_
 clear hw;rintro μ ρ w ⟨i,hμ,hρ,hw⟩
 rw[hρ.eq];clear hρ;refine byG ?_;refine W_cond rfl (fun h=>?_) (fun h=>?_)
 ·have hin:i<n:=by have:=of_decide_eq_true h;omega
  clear h;have hrl:(rmL n cap i).length=n:=rowN_len _ _
  refine byG ?_;refine lStoreE (k:=i) (r:=[.int .i64 cap]) ?_
  intro w hw;have hw:Wd Γ10 (trB b13 (.slice none 0 0) (.slice (some ar) n n) (.slice none 0 0) 0::.own (.slice (some ar) n n) 3 1 ((intRows (rmL n cap i)).set i [.int .i64 cap])::.blk b3 (hwC H a1 n1 c1 a2 n2 c2 a3 n3 c3 a4 n4 c4 a5 n5 c5)::S) w:=hw
  rw[rmL_set]at hw;refine byG ?_;exact⟨n-i-1,by omega,i+1,by omega,⟨rfl,rfl,rfl,rfl,rfl,rfl,rfl,trivial⟩,hw⟩
 have hin:i=n:=by have:=of_decide_eq_false h;omega
 clear h;rw[hin,rmL_end]at hw;clear hin hμ;have hw:Wd Γ10 (trB b13 (.slice none 0 0) (.slice (some ar) n n) (.slice none 0 0) 0::.own (.slice none 0 0) 22 1 (hdrs [])::.own (.slice (some ar) n n) 3 1 (intRows (roomL n cap []))::.blk b3 (hwC H a1 n1 c1 a2 n2 c2 a3 n3 c3 a4 n4 c4 a5 n5 c5)::(inn 3 1 (innM [] ((costsA H cs ys).take 0))++S)) w:=(Wd.addNil (a:=none) (E:=22) (sz:=1) hw).ps [1]
 refine byG ?_;refine W_loop (fun μ ρ w=>∃(i:Nat) (va:Option Addr) (vn vc:Nat) (hs:List Value),μ+i=m5'∧hs.length=i∧Has ρ [(2,.int .i64 cap),(3,.pointer (some ⟨b3,0,none⟩)),(10,.slice al n cl),(11,.slice b5' m5' d5'),(12,.pointer (some ⟨b14,0,none⟩)),(13,.pointer (some ⟨b13,0,none⟩)),(15,.int .i64 i)]∧Wd Γ10 (trB b13 (.slice va vn vc) (.slice (some ar) n n) (.slice none 0 0) 0::.own (.slice va vn vc) 22 1 (hdrs hs)::.own (.slice (some ar) n n) 3 1 (intRows (roomL n cap []))::.blk b3 (hwC H a1 n1 c1 a2 n2 c2 a3 n3 c3 a4 n4 c4 a5 n5 c5)::(inn 3 1 (innM hs ((costsA H cs ys).take i))++S)) w) m5' ⟨0,none,0,0,[],by omega,rfl,⟨rfl,rfl,rfl,rfl,rfl,rfl,rfl,trivial⟩,hw⟩ ?_
 clear hw;rintro μ ρ w ⟨i,va,vn,vc,hs,hμ,hhs,hρ,hw⟩
 rw[hρ.eq];clear hρ;refine byG ?_;refine W_cond rfl (fun h=>?_) (fun h=>?_)
 ·have hin:i<m5':=by have:=of_decide_eq_true h;omega
  clear h;obtain⟨dv,hdv⟩:=get_lt (l:=ys) (k:=i) (by omega)
  have hdm:dv∈H.Devs:=hyp.mem_iff.1 (List.mem_of_getElem? hdv)
  refine byG ?_;refine lMakeSlice (len:=n) ?_
  intro a16 w hw;have hz:List.replicate n [Value.int .i64 0]=intRows (rowN n (rowD H cs dv 0)):=by
   rw[show rowN n (rowD H cs dv 0)=rowN n fun _=>0 from rowN_congr fun j _=>by unfold rowD;rw[if_neg (by omega)],←rep_row];simp[intRows]
  have hw:Wd Γ10 (.own (.slice (some a16) n n) 3 1 (List.replicate n [Value.int .i64 0])::trB b13 (.slice va vn vc) (.slice (some ar) n n) (.slice none 0 0) 0::.own (.slice va vn vc) 22 1 (hdrs hs)::.own (.slice (some ar) n n) 3 1 (intRows (roomL n cap []))::.blk b3 (hwC H a1 n1 c1 a2 n2 c2 a3 n3 c3 a4 n4 c4 a5 n5 c5)::(inn 3 1 (innM hs ((costsA H cs ys).take i))++S)) w:=hw
  rw[hz]at hw;refine byG ?_;refine W_loop (fun μ2 ρ w=>∃k:Nat,μ2+k=n∧Has ρ [(2,.int .i64 cap),(3,.pointer (some ⟨b3,0,none⟩)),(10,.slice al n cl),(11,.slice b5' m5' d5'),(12,.pointer (some ⟨b14,0,none⟩)),(13,.pointer (some ⟨b13,0,none⟩)),(15,.int .i64 i),(16,.slice (some a16) n n),(17,.int .i64 k)]∧Wd Γ10 (.own (.slice (some a16) n n) 3 1 (intRows (rowN n (rowD H cs dv k)))::trB b13 (.slice va vn vc) (.slice (some ar) n n) (.slice none 0 0) 0::.own (.slice va vn vc) 22 1 (hdrs hs)::.own (.slice (some ar) n n) 3 1 (intRows (roomL n cap []))::.blk b3 (hwC H a1 n1 c1 a2 n2 c2 a3 n3 c3 a4 n4 c4 a5 n5 c5)::(inn 3 1 (innM hs ((costsA H cs ys).take i))++S)) w) n ⟨0,by omega,⟨rfl,rfl,rfl,rfl,rfl,rfl,rfl,rfl,rfl,trivial⟩,hw⟩ ?_
  clear hw hz;rintro μ2 ρ w ⟨k,hμ2,hρ,hw⟩
  rw[hρ.eq];clear hρ;refine byG ?_;refine W_cond rfl (fun h=>?_) (fun h=>?_)
  ·have hkn:k<n:=by have:=of_decide_eq_true h;omega
   clear h;obtain⟨c,hc⟩:=get_lt (l:=cs) (k:=k) (by omega)
   obtain⟨hLk,hcmk,-,-⟩:=hidf k c hc
   haveI pn:=hnf k c hc
   have hn1:=(dev_rng hv hdm).1
   have hn2:nIn c.Node:=core_node hv hcmk
   have hnn1:0≤dv.Node∧dv.Node<64:=hn1
   have hnn2:0≤c.Node∧c.Node<64:=hn2
   obtain⟨-,-,hdd⟩:=dev_cost hv hdm hcmk
   have hgm:(matL (dstM H)).toArray[0+dv.Node.toNat*64+c.Node.toNat*1]? = some (.int .i64 (dstF H dv.Node c.Node)):=by rw[hdd];exact getM _ hn1 hn2
   obtain⟨T,hT⟩:∃T,T=trB b13 (.slice va vn vc) (.slice (some ar) n n) (.slice none 0 0) 0::.own (.slice va vn vc) 22 1 (hdrs hs)::.own (.slice (some ar) n n) 3 1 (intRows (roomL n cap []))::(inn 3 1 (innM hs ((costsA H cs ys).take i))++S):=⟨_,rfl⟩
   have hw:Wd Γ10 (.blk b3 (hwC H a1 n1 c1 a2 n2 c2 a3 n3 c3 a4 n4 c4 a5 n5 c5)::.own (.slice (some a16) n n) 3 1 (intRows (rowN n (rowD H cs dv k)))::trB b13 (.slice va vn vc) (.slice (some ar) n n) (.slice none 0 0) 0::.own (.slice va vn vc) 22 1 (hdrs hs)::.own (.slice (some ar) n n) 3 1 (intRows (roomL n cap []))::(inn 3 1 (innM hs ((costsA H cs ys).take i))++S)) w:=hw.ps [4]
   rw[←hT]at hw;have hw:Wd Γ10 ([.blk b3 (hwC H a1 n1 c1 a2 n2 c2 a3 n3 c3 a4 n4 c4 a5 n5 c5)]++(.own (.slice (some a16) n n) 3 1 (intRows (rowN n (rowD H cs dv k)))::T)) w:=hw
   refine byG ?_;refine W_mix1 [.blk b3 (hwC H a1 n1 c1 a2 n2 c2 a3 n3 c3 a4 n4 c4 a5 n5 c5)] (.own (.slice (some a16) n n) 3 1 (intRows (rowN n (rowD H cs dv k)))::T) [[],[],[],[],[],[],[],[],[],[],[],[],[],[],[],[],[],[0]] [[],[],[],[],[],[],[],[],[],[],[],[],[],[],[],[],[0],[0]] hw ?_
   refine byM ?_;refine mY (v:=.int .i64 (dstF H dv.Node c.Node)) ?_ (hy:=fun Y w g hw=>y_l1m (hB:=hD) hw rfl hgm)
   refine byM ?_;refine mS (c:=0) (v:=undef) (F:=fun _=>.own (.slice (some a16) n n) 3 1 (intRows (rowN n (rowD H cs dv k)))::T) (fun _=>.own (.slice (some a16) n n) 3 1 ((intRows (rowN n (rowD H cs dv k))).set k [.int .i64 (dstF H dv.Node c.Node)])::T) (fun g w Y hw=>s_storeE (i:=0) (k:=k) (r:=[.int .i64 (dstF H dv.Node c.Node)]) (TSz.h (P:=Tryz.prog) (T:=3)) hw rfl rfl rfl rfl rfl rfl (by omega) fun w' hw'=>⟨fun _=>rfl,hw'⟩) ?_
   refine mEnd fun w g hw=>?_
   have hw:Wd Γ10 (([.blk b3 (hwC H a1 n1 c1 a2 n2 c2 a3 n3 c3 a4 n4 c4 a5 n5 c5)]++(.own (.slice (some a16) n n) 3 1 ((intRows (rowN n (rowD H cs dv k))).set k [.int .i64 (dstF H dv.Node c.Node)])::T))++[]) w:=hw
   rw[List.append_nil,rowI_set,rowD_set hc,hT]at hw;have hw:Wd Γ10 (.own (.slice (some a16) n n) 3 1 (intRows (rowN n (rowD H cs dv (k+1))))::trB b13 (.slice va vn vc) (.slice (some ar) n n) (.slice none 0 0) 0::.own (.slice va vn vc) 22 1 (hdrs hs)::.own (.slice (some ar) n n) 3 1 (intRows (roomL n cap []))::.blk b3 (hwC H a1 n1 c1 a2 n2 c2 a3 n3 c3 a4 n4 c4 a5 n5 c5)::(inn 3 1 (innM hs ((costsA H cs ys).take i))++S)) w:=Wd.ps (S:=.blk b3 (hwC H a1 n1 c1 a2 n2 c2 a3 n3 c3 a4 n4 c4 a5 n5 c5)::.own (.slice (some a16) n n) 3 1 (intRows (rowN n (rowD H cs dv (k+1))))::trB b13 (.slice va vn vc) (.slice (some ar) n n) (.slice none 0 0) 0::.own (.slice va vn vc) 22 1 (hdrs hs)::.own (.slice (some ar) n n) 3 1 (intRows (roomL n cap []))::(inn 3 1 (innM hs ((costsA H cs ys).take i))++S)) [4,4,4,4] hw
   refine byG ?_;exact⟨n-k-1,by omega,k+1,by omega,⟨rfl,rfl,rfl,rfl,rfl,rfl,rfl,rfl,rfl,trivial⟩,hw⟩
  have hkn:n=k:=by have:=of_decide_eq_false h;omega
  clear h;rw[←hkn]at hw;clear hkn hμ2;have hvn:vn=hs.length:=by
   obtain⟨p1,p2,p3,hp,hp2,-,-⟩:=hw.own_shape (i:=2) rfl
   cases hp
   simpa[hdrs] using hp2
  refine byG ?_;refine lBuildSlice (hdrs [.slice (some a16) n n]) ?_
  intro a94 w hw;refine byG ?_;refine lApp (i:=3) (rows2:=hdrs [.slice (some a16) n n]) ?_ (hw.own_rd (i:=0) rfl) rfl rfl hw rfl rfl rfl
  intro v1 w hw;obtain⟨va',vn',vc',rfl,-,-,-⟩:=hw.own_shape (i:=3) rfl
  refine byG ?_;refine lStore ?_;intro w hw;have hw:Wd Γ10 (.own (.slice (some a94) 1 1) 22 1 (hdrs [.slice (some a16) n n])::.own (.slice (some a16) n n) 3 1 (intRows (rowN n (rowD H cs dv n)))::([trB b13 (.slice va' vn' vc') (.slice (some ar) n n) (.slice none 0 0) 0,.own (.slice va' vn' vc') 22 1 (hdrs hs++hdrs [.slice (some a16) n n]),.own (.slice (some ar) n n) 3 1 (intRows (roomL n cap [])),.blk b3 (hwC H a1 n1 c1 a2 n2 c2 a3 n3 c3 a4 n4 c4 a5 n5 c5)]++(inn 3 1 (innM hs ((costsA H cs ys).take i))++S))) w:=hw
  have hw:=hw.drop
  have hcl2:i<(costsA H cs ys).length:=by unfold costsA;rw[List.length_map];omega
  have hw:=inn_snoc (A:=[trB b13 (.slice va' vn' vc') (.slice (some ar) n n) (.slice none 0 0) 0,.own (.slice va' vn' vc') 22 1 (hdrs hs++hdrs [.slice (some a16) n n]),.own (.slice (some ar) n n) 3 1 (intRows (roomL n cap [])),.blk b3 (hwC H a1 n1 c1 a2 n2 c2 a3 n3 c3 a4 n4 c4 a5 n5 c5)]) (hs:=hs) (by rw[List.length_take];omega) hw
  have htk:(costsA H cs ys).take i++[rowN n (rowD H cs dv n)]=(costsA H cs ys).take (i+1):=by
   rw[List.take_add_one];have:(costsA H cs ys)[i]? = some (rowN n (rowD H cs dv n)):=by
    unfold costsA;rw[List.getElem?_map,hdv];refine congrArg some (List.ext_getElem? fun j=>?_)
    rw[List.getElem?_map];by_cases hj:j<n
    ·rw[rowN_get hj];obtain⟨c,hc⟩:=get_lt (l:=cs) (k:=j) (by omega)
     unfold rowD;rw[if_pos hj,List.getD_eq_getElem?_getD,hc];rfl
    ·rw[List.getElem?_eq_none (l:=cs) (by omega),List.getElem?_eq_none (by rw[rowN_len];omega)];rfl
   rw[this];rfl
  rw[htk,show hdrs hs++hdrs [Value.slice (some a16) n n]=hdrs (hs++[.slice (some a16) n n]) by simp[hdrs]]at hw
  refine byG ?_;refine⟨m5'-i-1,by omega,i+1,va',vn',vc',hs++[.slice (some a16) n n],by omega,by simp[hhs],⟨rfl,rfl,rfl,rfl,rfl,rfl,rfl,trivial⟩,?_⟩
  exact hw
 have hin:i=m5':=by have:=of_decide_eq_false h;omega
 clear h;have hAl:(costsA H cs ys).length=m5':=by unfold costsA;rw[List.length_map];omega
 rw[hin,List.take_of_length_le (by omega)]at hw
 have hvn:vn=m5':=by
  obtain⟨p1,p2,p3,hp,hp2,-,-⟩:=hw.own_shape (i:=1) rfl
  cases hp
  rw[hp2,hdrs,List.length_map];omega
 have hw2:Wd Γ10 (.own (.slice va vn vc) 22 1 (hdrs hs)::(inn 3 1 (innM hs (costsA H cs ys))++(trB b13 (.slice va vn vc) (.slice (some ar) n n) (.slice none 0 0) 0::.own (.slice (some ar) n n) 3 1 (intRows (roomL n cap []))::.blk b3 (hwC H a1 n1 c1 a2 n2 c2 a3 n3 c3 a4 n4 c4 a5 n5 c5)::S))) w:=hw.perm (((List.Perm.swap _ _ _).trans (List.Perm.cons _ (List.perm_append_comm_assoc [_,_,_] (inn 3 1 (innM hs (costsA H cs ys))) S))))
 obtain⟨Γ11,hle11,hMA,hw3⟩:=mat_freeze (by omega) hw2
 clear hw hw2;have hw:=hw3
 clear hw3;rw[hvn]at hw hMA
 refine byG ?_;have hnd2:m5'=n5:=by rw[hnN,hyp.length_eq,hn5]
 have hroom:m5'≤n*cap:=by
  rw[Nat.mul_comm];have h1:((cap*n:Nat):Int)=(cap:Int)*(n:Int):=by push_cast;rfl
  rw[←hnnv]at hfit;omega
 have hCM:CostM n (costsA H cs ys):=by rw[←hcl];exact costsA_ok hv hcm (fun d hd=>hyp.mem_iff.1 hd)
 obtain⟨y,hyl,hyF⟩:=full_ex (n:=n) (cap:=cap) m5' hroom
 have hA0:∀i c:Nat,c<n→0≤aF (costsA H cs ys) i c:=fun i c hc=>by
  by_cases hi:i<(costsA H cs ys).length
  ·obtain⟨r,-,-,h2⟩:=hCM.get hi
   exact(h2 c hc).2.1
  ·unfold aF;rw[List.getD_eq_getElem?_getD (l:=costsA H cs ys),List.getElem?_eq_none (by omega)]
   exact Int.le_refl _
 obtain⟨x,hx,hbest,hR⟩:=tryL_best hA0 hyF hyl
 have htry:=try_any (n:=n) (cap:=cap) (bA:=b13) (ra:=some ar) (rc:=n) hMA hAl (by omega) hn64 (by omega) hCM m5' [] (.slice none 0 0) none none 0 0 (.blk b3 (hwC H a1 n1 c1 a2 n2 c2 a3 n3 c3 a4 n4 c4 a5 n5 c5)::S) w (by simp) ⟨fun v h=>by simp at h,fun u _=>by simp⟩ rdS_nil rfl hw
 rw[show costA (aF (costsA H cs ys)) []=0 from rfl,hR]at htry
 refine lCall (Calls.mono htry fun e w hq=>?_)
 clear hw htry;obtain⟨ab,nb,cb,rfl,-,hw⟩:=hq;refine⟨_,rfl,?_⟩;have hw:Wd Γ11 (trB b13 (.slice va m5' vc) (.slice (some ar) n n) (.slice ab nb cb) (costA (aF (costsA H cs ys)) x)::.own (.slice (some ar) n n) 3 1 (intRows (roomL n cap []))::.own (.slice ab nb cb) 3 1 (intRows x)::.blk b3 (hwC H a1 n1 c1 a2 n2 c2 a3 n3 c3 a4 n4 c4 a5 n5 c5)::S) w:=hw
 have hnb:nb=m5':=by
  obtain⟨p1,p2,p3,hp,hp2,-,-⟩:=hw.own_shape (i:=2) rfl
  cases hp
  rw[hp2,←hx];simp[intRows]
 obtain⟨Γ12,hle12,hB13,hw1⟩:=hw.freezeB;clear hw;obtain⟨Γ13,hle13,rX,hw⟩:=hw1.drop.freeze;clear hw1;have hle313:=hle11.trans (hle12.trans hle13)
 have hB13:=hB13.mono hle13
 have rl:=rl.mono hle313
 have rN:=rN.mono hle313
 have hle:Γ.le Γ13:=hle.trans hle313
 rw[hnb]at hB13 rX
 clear hle11 hle12 hle13 hle313 hMA;have hw:=Wd.addNil (a:=none) (E:=55) (sz:=2) hw
 refine byG ?_;refine W_loop (fun μ ρ w=>∃(i:Nat) (rq:Option Addr) (rm rd:Nat),μ+i=m5'∧Has ρ [(10,.slice al n cl),(11,.slice b5' m5' d5'),(13,.pointer (some ⟨b13,0,none⟩)),(18,.slice rq rm rd),(19,.int .i64 i)]∧Wd Γ13 (.own (.slice rq rm rd) 55 2 ((rsL ys cs x i).map prI)::.blk b3 (hwC H a1 n1 c1 a2 n2 c2 a3 n3 c3 a4 n4 c4 a5 n5 c5)::S) w) m5' ⟨0,none,0,0,by omega,⟨rfl,rfl,rfl,rfl,rfl,trivial⟩,hw⟩ ?_
 clear hw;rintro μ ρ w ⟨i,rq,rm,rd,hμ,hρ,hw⟩
 rw[hρ.eq];clear hρ;refine byG ?_;refine W_cond rfl (fun h=>?_) (fun h=>?_)
 ·have hin:i<m5':=by have:=of_decide_eq_true h;omega
  clear h;obtain⟨dv,hdv⟩:=get_lt (l:=ys) (k:=i) (by omega)
  obtain⟨xv,hxv⟩:=get_lt (l:=x) (k:=i) (by omega)
  have hxr:=hbest.full.rng xv (List.mem_of_getElem? hxv)
  obtain⟨k,rfl⟩:∃k:Nat,xv=k:=⟨xv.toNat,by omega⟩
  obtain⟨c,hc⟩:=get_lt (l:=cs) (k:=k) (by omega)
  obtain⟨hLk,-,-,-⟩:=hidf k c hc
  have hsn:(rsL ys cs x i).map prI++[prI (dv.IRQ,c.ID)]=(rsL ys cs x (i+1)).map prI:=by
   unfold rsL;rw[take_succ_of (zip_get hdv hxv),List.map_append,List.map_append];show _=_++[prI (dv.IRQ,(cs.getD k default).ID)]
   rw[List.getD_eq_getElem?_getD,hc];rfl
  have hlen:((rsL ys cs x i).map prI).length≤1000:=by unfold rsL;simp;omega
  have hxg:(intRows x)[i]? = some [.int .i64 k]:=intsI_get hxv
  refine byG ?_;refine W_mixQ [] (.own (.slice rq rm rd) 55 2 ((rsL ys cs x i).map prI)::.blk b3 (hwC H a1 n1 c1 a2 n2 c2 a3 n3 c3 a4 n4 c4 a5 n5 c5)::S) [132,133] 18 (.slice rq rm rd) [[],[],[],[],[],[],[],[],[],[],[],[],[],[],[],[],[],[0],[0],[0,1]] [[1],[],[],[],[],[],[],[],[],[],[],[],[],[],[],[],[],[0],[0],[0,1]] hw ?_
  refine mMoveR (dd:=18) ?_
  refine byM ?_;refine mY (v:=.slice ab m5' cb) ?_ (hy:=fun Y w g hw=>y_l1m (hB:=hB13) hw rfl rfl)
  refine byM ?_;refine mY (v:=.agg (prI (dv.IRQ,c.ID)).toArray) ?_ (hy:=fun Y w g hw=>y_build rfl)
  refine mStepY (φ:=fun (_:Unit) _=>True) (R:=fun _=>.own (.slice rq rm rd) 55 2 ((rsL ys cs x i).map prI)::.blk b3 (hwC H a1 n1 c1 a2 n2 c2 a3 n3 c3 a4 n4 c4 a5 n5 c5)::S) (v:=undef) (T':=Value) (fun t g=>g 132=t) (fun t=>.own t 55 2 [prI (dv.IRQ,c.ID)]::.own (.slice rq rm rd) 55 2 ((rsL ys cs x i).map prI)::.blk b3 (hwC H a1 n1 c1 a2 n2 c2 a3 n3 c3 a4 n4 c4 a5 n5 c5)::S) (fun t g w Y ht hw=>s_buildSlice (rws:=[prI (dv.IRQ,c.ID)]) (cells:=prI (dv.IRQ,c.ID)) hw rfl rfl rfl (by intro r hr;rw[List.mem_singleton.1 hr];rfl) (by decide) fun q w' hw'=>⟨_,rfl,(fun h=>by cases h),hw'⟩) ?_
  refine mStepY (φ:=fun (t:Value) g=>g 132=t) (R:=(fun t=>.own t 55 2 [prI (dv.IRQ,c.ID)]::.own (.slice rq rm rd) 55 2 ((rsL ys cs x i).map prI)::.blk b3 (hwC H a1 n1 c1 a2 n2 c2 a3 n3 c3 a4 n4 c4 a5 n5 c5)::S)) (v:=undef) (T':=Value) (fun t g=>g 133=t) (fun t=>.own t 55 2 ((rsL ys cs x i).map prI++[prI (dv.IRQ,c.ID)])::.blk b3 (hwC H a1 n1 c1 a2 n2 c2 a3 n3 c3 a4 n4 c4 a5 n5 c5)::S) (fun t g w Y ht hw=>?_) ?_
  ·obtain⟨d1,e1,z1,rfl,hn1,-,-⟩:=hw.own_shape (i:=0) rfl
   obtain⟨d2,e2,z2,hq2,hn2,-,-⟩:=hw.own_shape (i:=1) rfl
   cases hq2
   exact s_append (i:=1) (rows2:=[prI (dv.IRQ,c.ID)]) hw rfl ht rfl (Wd.own_rd (i:=0) hw rfl) hn1 (List.all_eq_true.1 rfl) (by simp at hn1 hn2 hlen;omega) (by simp at hn1 hn2 hlen;omega) fun v' w' hw'=>⟨v',rfl,(fun h=>by cases h),hw'.drop⟩
  refine mAssY (φ:=fun (t:Value) g=>g 133=t) (dx:=133) (dd:=18) (fun t g=>g 18=t) (fun t g ht=>ht) ?_
  refine mEndQ (φ:=fun (t:Value) g=>g 18=t) fun t w g ht hw=>?_
  rw[hsn]at hw;obtain⟨q',m',d',rfl,hm',-,-⟩:=hw.own_shape (i:=0) rfl
  have hw:Wd Γ13 (.own (.slice q' m' d') 55 2 ((rsL ys cs x (i+1)).map prI)::.blk b3 (hwC H a1 n1 c1 a2 n2 c2 a3 n3 c3 a4 n4 c4 a5 n5 c5)::S) w:=by
   rw[List.append_nil]at hw;exact hw
  refine W_has (l:=[(10,.slice al n cl),(11,.slice b5' m5' d5'),(13,.pointer (some ⟨b13,0,none⟩)),(18,.slice q' m' d'),(19,.int .i64 i)]) ⟨rfl,rfl,rfl,ht,rfl,trivial⟩ fun ρ hρ=>?_
  rw[hρ.eq];refine byG ?_;exact⟨m5'-i-1,by omega,i+1,q',m',d',by omega,⟨rfl,rfl,rfl,rfl,rfl,trivial⟩,hw⟩
 have hin:i=m5':=by have:=of_decide_eq_false h;omega
 clear h;rw[hin]at hw;refine byG ?_;refine W_quiet (by kernel_rfl) (by kernel_rfl) hw ?_
 refine byQ ?_;refine qY (v:=.int .i64 (costA (aF (costsA H cs ys)) x)) ?_ (hy:=fun w hw=>y_l1m (hB:=hB13) hw rfl rfl)
 refine byQ ?_;intro w hw;refine byG ?_;have hfull:(ys.zip x).take m5'=ys.zip x:=List.take_of_length_le (by rw[List.length_zip];omega)
 have hpost:IntPost H L cap ((ys.zip x).map fun p=>(p.1.IRQ,(cs.getD p.2.toNat default).ID)) (costA (aF (costsA H cs ys)) x) 0:=by
  unfold IntPost;rw[if_neg hcode2,if_neg hper,←hcsE,hcl,hnnv,←hn5,if_neg hfit,←hnnv];exact⟨ys,x,hyp,hys,by omega,hbest,rfl,rfl,rfl⟩
 unfold rsL at hw;rw[hfull]at hw;exact⟨_,rfl,Γ13,_,_,_,0,hle,rfl,hpost,hw.dropAt 1⟩
end Go.Proofs.YthgighljhoneeaaGreat
end
section
open Go Mk
namespace Go.Proofs.YthgighljhoneeaaGreat
set_option maxHeartbeats 16000000
attribute [local irreducible] Calls
theorem intPost_uniq{H:HwT}{L:List Int}{per tot tot' code code':Int}{rs rs':List (Int×Int)}(h:IntPost H L per rs tot code)(h':IntPost H L per rs' tot' code'):rs'=rs∧tot'=tot∧code'=code:=by
 unfold IntPost at h h';by_cases h1:(liveS H L).2≠0
 ·rw[if_pos h1]at h h'
  obtain⟨rfl,rfl,rfl⟩:=h;exact h'
 ·rw[if_neg h1]at h h'
  have hv:=(liveS_zero (Decidable.of_not_not h1)).1
  by_cases h2:per<1∨256<per
  ·rw[if_pos h2]at h h'
   obtain⟨rfl,rfl,rfl⟩:=h;exact h'
  ·rw[if_neg h2]at h h'
   by_cases h3:per*(liveS H L).1.length<H.Devs.length
   ·rw[if_pos h3]at h h'
    obtain⟨rfl,rfl,rfl⟩:=h;exact h'
   ·rw[if_neg h3]at h h'
    obtain⟨ys,x,p1,p2,p3,p4,rfl,rfl,rfl⟩:=h;obtain⟨ys',x',q1,q2,q3,q4,rfl,rfl,rfl⟩:=h';obtain rfl:ys'=ys:=by rw[←devs_norm hv q1 q2,devs_norm hv p1 p2]
    obtain rfl:x'=x:=p4.uniq q4 (by omega)
    exact⟨rfl,rfl,rfl⟩
end Go.Proofs.YthgighljhoneeaaGreat
end
