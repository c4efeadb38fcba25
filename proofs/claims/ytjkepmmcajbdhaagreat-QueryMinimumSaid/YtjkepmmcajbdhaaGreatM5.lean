/- Texts of this proof, one behind another. -/
import Derived.Test.YtjkepmmcajbdhaaGreatM4
import Derived.Test.YtjkepmmcajbdhaaGreatRows
import Derived.ProofKit
import Derived.OpenShut
import Derived.Deep.Slices
import Derived.ReadAgain
import Derived.Test.YtjkepmmcajbdhaaGreatM3
set_option linter.unusedVariables false
set_option linter.unusedSimpArgs false
section
open Go Mk
namespace Go.Proofs.YtjkepmmcajbdhaaGreat
set_option maxHeartbeats 16000000
attribute [local irreducible] Calls cI cB
theorem pg_named{Γ:Gho}{vs vg:Value}{gs:List GoalH}{q:Query}(hq0:QR Γ vs vg gs q)(hok:QueryOk q):PG Tryz.prog Γ 36 [.agg #[vs,vg]] (.bool (okNames q)):=pg_free fun Γ w hle hw=>by
 have hq:=hq0.mono hle
 obtain⟨ga,gn,gc,rfl,hgn,hgnc,hgc⟩:=hq.goals.shape;obtain⟨sa,sn,sc,rfl,hsn,hsnc,hsc⟩:=hq.sel.shape;simp only[List.length_map]at hgn hsn
 have hgl:=hq.glen hok
 have hsl:=hok.sel
 have hnl:=hq.nlen
 have hrS:=hq.sel
 refine calls_of_W Tryz.func36 rfl rfl ?_
 repeat first|refine byW ?_|refine byV ?_;intro w hw
 refine lBox ?_;intro b1 w hw;have hw:Wd Γ [.blk b1 (.cells #[.slice sa sn sc,.slice ga gn gc] 29)] w:=hw
 repeat first|refine byW ?_|refine byV ?_;intro w hw
 refine W_loop (fun μ ρ w=>∃(k:Nat),μ+k=sn∧Has ρ [(1,.pointer (some ⟨b1,0,none⟩)),(3,.int .i64 k)]∧q.Sel.all varS=(q.Sel.drop k).all varS∧Wd Γ [.blk b1 (.cells #[.slice sa sn sc,.slice ga gn gc] 29)] w) sn ⟨0,by omega,⟨rfl,rfl,trivial⟩,rfl,hw⟩ ?_
 clear hw;rintro μ ρ w ⟨k,hk,hρ,hall,hw⟩
 rw[hρ.eq];clear hρ;repeat first|refine byW ?_|refine byV ?_;intro w hw
 refine W_cond rfl (fun h=>?_) (fun h=>?_)
 ·have hkn:k<sn:=by have:=of_decide_eq_true h;omega
  clear h;obtain⟨s,hs⟩:=get_lt (l:=q.Sel) (k:=k) (by omega)
  rw[all_drop hs]at hall;have p1:=pc_Variable (hok.names s (List.mem_of_getElem? hs))
  repeat first|refine byW ?_|refine byV ?_;intro w hw
  refine W_cond rfl (fun h=>?_) (fun h=>?_)
  ·have hf:varS s=false:=by simpa using h
   repeat first|refine byW ?_|refine byV ?_;intro w hw
   refine⟨_,rfl,Γ,Gho.le.refl _,ret_b rfl ?_,wd_nil hw⟩
   unfold okNames;rw[hall,hf];rfl
  ·have hf:varS s=true:=by simpa using h
   rw[hf,Bool.true_and]at hall;repeat first|refine byW ?_|refine byV ?_;intro w hw
   exact⟨μ-1,by omega,k+1,by omega,⟨rfl,rfl,trivial⟩,hall,hw⟩
 have hkn:sn≤k:=by have:=of_decide_eq_false h;omega
 clear h;rw[drop_none q.Sel (by omega)]at hall
 have hall0:okNames q=q.Goals.all nameG:=by unfold okNames;rw[hall];rfl
 clear hall hkn hk;repeat first|refine byW ?_|refine byV ?_;intro w hw
 refine W_loop (fun μ ρ w=>∃(Γ':Gho) (k:Nat),Γ.le Γ'∧μ+k=gn∧Has ρ [(1,.pointer (some ⟨b1,0,none⟩)),(4,.int .i64 k)]∧okNames q=(q.Goals.drop k).all nameG∧Wd Γ' [.blk b1 (.cells #[.slice sa sn sc,.slice ga gn gc] 29)] w) gn ⟨Γ,0,Gho.le.refl _,by omega,⟨rfl,rfl,trivial⟩,hall0,hw⟩ ?_
 clear hw;rintro μ ρ w ⟨Γ1,k,hle1,hk,hρ,hall,hw⟩
 rw[hρ.eq];clear hρ;have hq1:=hq.mono hle1
 have hrG1:=hq1.goals
 repeat first|refine byW ?_|refine byV ?_;intro w hw
 refine W_cond rfl (fun h=>?_) (fun h=>?_)
 ·have hkn:k<gn:=by have:=of_decide_eq_true h;omega
  clear h;obtain⟨x,hx⟩:=get_lt (l:=gs) (k:=k) (by omega)
  have hxm:=List.mem_of_getElem? hx
  have hgoal:=hq.goal hok hxm
  have hgok:=hq1.ok x hxm
  have hgx:=hq.get hx
  rw[all_drop hgx]at hall;obtain⟨l1,l2,l3⟩:=hgok.len;obtain⟨g,A,N,C⟩:=x;simp only at hall hgoal l1 l2 l3 hgx
  have hal:=hgoal.len
  haveI:=sb_of hgoal.rel
  repeat first|refine byW ?_|refine byV ?_;intro w hw
  refine lAlloc ?_;intro b5 w hw;repeat first|refine byW ?_|refine byV ?_;intro w hw
  refine lStore ?_;intro w hw;have hw:Wd Γ1 [.blk b5 (.cells (cG ⟨g,A,N,C⟩).toArray 39),.blk b1 (.cells #[.slice sa sn sc,.slice ga gn gc] 29)] w:=hw
  repeat first|refine byW ?_|refine byV ?_;intro w hw
  refine W_cond rfl (fun h=>?_) (fun h=>?_)
  ·have hf:nameG g=false:=by
    have h:(isAtomB g&&(!nameS g.Rel||kwS g.Rel))=true:=h
    unfold nameG;rw[h];rfl
   repeat first|refine byW ?_|refine byV ?_;intro w hw
   refine⟨_,rfl,Γ1,hle1,ret_b rfl ?_,wd_nil hw⟩
   rw[hall,hf];rfl
  have hnG:nameG g=(opsG g).all (nameO g):=by
   have h:(isAtomB g&&(!nameS g.Rel||kwS g.Rel))=false:=h
   unfold nameG;rw[h];rfl
  clear h;repeat first|refine byW ?_|refine byV ?_;intro w hw
  refine lCall (vs:=[.agg (cG ⟨g,A,N,C⟩).toArray]) ((ROperands_any hgok hgoal.len hw).mono fun e w hq2=>?_)
  clear hw;obtain⟨Γ2,v,hle2,rfl,hrv,hw⟩:=hq2;obtain⟨oa,on,oc,rfl,hon,honc,hoc⟩:=hrv.shape;simp only[List.length_map]at hon
  have hol:=opsG_len hgoal
  refine⟨_,rfl,?_⟩;repeat first|refine byW ?_|refine byV ?_;intro w hw
  refine W_loop (fun μ ρ w=>∃(j:Nat),μ+j=on∧Has ρ [(1,.pointer (some ⟨b1,0,none⟩)),(4,.int .i64 k),(6,.bool (isAtomB g)),(7,.slice oa on oc),(8,.int .i64 j)]∧nameG g=((opsG g).drop j).all (nameO g)∧Wd Γ2 [.blk b5 (.cells (cG ⟨g,A,N,C⟩).toArray 39),.blk b1 (.cells #[.slice sa sn sc,.slice ga gn gc] 29)] w) on ⟨0,by omega,⟨rfl,rfl,rfl,rfl,rfl,trivial⟩,hnG,hw⟩ ?_
  clear hw;rintro μ2 ρ w ⟨j,hj,hρ,hsh,hw⟩
  rw[hρ.eq];clear hρ;repeat first|refine byW ?_|refine byV ?_;intro w hw
  refine W_cond rfl (fun h=>?_) (fun h=>?_)
  ·have hjn:j<on:=by have:=of_decide_eq_true h;omega
   clear h;obtain⟨o,ho⟩:=get_lt (l:=opsG g) (k:=j) (by omega)
   obtain⟨hov,hoc2⟩:=opsG_ok hgoal o (List.mem_of_getElem? ho)
   have p1:=pc_Variable hov
   have p2:=pg_rightV (Γ:=Γ2) hoc2
   rw[all_drop ho]at hsh;have hno:nameO g o = !((decide (o.Var=noS) && !rightV o.Const)||(decide (o.Var=anyS) && !isAtomB g)||(decide (o.Var≠noS)&&decide (o.Var≠anyS) && !varS o.Var)):=by
    unfold nameO;rw[Bool.not_or,Bool.not_or]
   repeat first|refine byW ?_|refine byV ?_;intro w hw
   refine lAlloc ?_;intro b9 w hw;refine lStore ?_;intro w hw;have hw:Wd Γ2 [.blk b9 (.cells (enc o).toArray 37),.blk b5 (.cells (cG ⟨g,A,N,C⟩).toArray 39),.blk b1 (.cells #[.slice sa sn sc,.slice ga gn gc] 29)] w:=hw
   repeat first|refine byW ?_|refine byV ?_;intro w hw
   refine lPgG (hp:=p2) ?_
   intro w hw;repeat first|refine byW ?_|refine byV ?_;intro w hw
   refine W_cond rfl (fun h=>?_) (fun h=>?_)
   ·have h:((decide (o.Var=noS) && !rightV o.Const)||(decide (o.Var=anyS) && !isAtomB g)||(decide (o.Var≠noS)&&decide (o.Var≠anyS) && !varS o.Var))=true:=h
    repeat first|refine byW ?_|refine byV ?_;intro w hw
    refine⟨_,rfl,Γ2,hle1.trans hle2,ret_b rfl ?_,wd_nil hw⟩
    rw[hall,hsh,hno,h];rfl
   ·have h:((decide (o.Var=noS) && !rightV o.Const)||(decide (o.Var=anyS) && !isAtomB g)||(decide (o.Var≠noS)&&decide (o.Var≠anyS) && !varS o.Var))=false:=h
    rw[hno,h,Bool.not_false,Bool.true_and]at hsh;repeat first|refine byW ?_|refine byV ?_;intro w hw
    exact⟨on-j-1,by omega,j+1,by omega,⟨rfl,rfl,rfl,rfl,rfl,trivial⟩,hsh,hw.drop⟩
  have hjn:on≤j:=by have:=of_decide_eq_false h;omega
  clear h;rw[drop_none (opsG g) (by omega)]at hsh
  have hsh:nameG g=true:=hsh
  rw[hsh,Bool.true_and]at hall;repeat first|refine byW ?_|refine byV ?_;intro w hw
  exact⟨gn-k-1,by omega,Γ2,k+1,hle1.trans hle2,by omega,⟨rfl,rfl,trivial⟩,hall,hw.drop⟩
 have hkn:gn≤k:=by have:=of_decide_eq_false h;omega
 rw[drop_none _ (by rw[hnl];omega)]at hall
 repeat first|refine byW ?_|refine byV ?_;intro w hw
 exact⟨_,rfl,Γ1,hle1,ret_b rfl hall.symm,wd_nil hw⟩
theorem bnd_len{g:Goal}(h:GoalOk g):(bndG g).length≤1000:=by
 unfold bndG;split
 ·rw[List.length_map];exact opsG_len h
 ·exact Nat.zero_le _
theorem bnd_take{q:Query}(hok:QueryOk q)(k:Nat):((q.Goals.take k).flatMap bndG).length≤1000*k:=by
 refine Nat.le_trans (flatMap_len (m:=1000) fun g hg=>bnd_len (hok.goals g (List.mem_of_mem_take hg))) ?_
 rw[List.length_take,Nat.mul_comm];exact Nat.mul_le_mul_left _ (Nat.min_le_left ..)
theorem pg_safe{Γ:Gho}{vs vg:Value}{gs:List GoalH}{q:Query}(hq0:QR Γ vs vg gs q)(hok:QueryOk q):PG Tryz.prog Γ 39 [.agg #[vs,vg]] (.bool (okSafe q)):=pg_free fun Γ w hle hw=>by
 have hq:=hq0.mono hle
 obtain⟨ga,gn,gc,rfl,hgn,hgnc,hgc⟩:=hq.goals.shape;obtain⟨sa,sn,sc,rfl,hsn,hsnc,hsc⟩:=hq.sel.shape;simp only[List.length_map]at hgn hsn
 have hgl:=hq.glen hok
 have hsl:=hok.sel
 have hnl:=hq.nlen
 refine calls_of_W Tryz.func39 rfl rfl ?_
 repeat first|refine byW ?_|refine byV ?_;intro w hw
 refine lBox ?_;intro b1 w hw;have hw:=Wd.addNil (a:=none) (E:=9) (sz:=1) hw
 have hw:Wd Γ [.own (.slice none 0 0) 9 1 (strRows ((q.Goals.take 0).flatMap bndG)),.blk b1 (.cells #[.slice sa sn sc,.slice ga gn gc] 29)] w:=hw
 repeat first|refine byW ?_|refine byV ?_;intro w hw
 refine W_loop (fun μ ρ w=>∃(Γ':Gho) (k:Nat) (va:Option Addr) (vn vc:Nat),Γ.le Γ'∧μ+k=gn∧Has ρ [(1,.pointer (some ⟨b1,0,none⟩)),(3,.slice va vn vc),(4,.int .i64 k)]∧Wd Γ' [.own (.slice va vn vc) 9 1 (strRows ((q.Goals.take k).flatMap bndG)),.blk b1 (.cells #[.slice sa sn sc,.slice ga gn gc] 29)] w) gn ⟨Γ,0,none,0,0,Gho.le.refl _,by omega,⟨rfl,rfl,rfl,trivial⟩,hw⟩ ?_
 clear hw;rintro μ ρ w ⟨Γ1,k,va,vn,vc,hle1,hk,hρ,hw⟩
 rw[hρ.eq];clear hρ;have hq1:=hq.mono hle1
 have hrG1:=hq1.goals
 repeat first|refine byW ?_|refine byV ?_;intro w hw
 refine W_cond rfl (fun h=>?_) (fun h=>?_)
 ·have hkn:k<gn:=by have:=of_decide_eq_true h;omega
  clear h;obtain⟨x,hx⟩:=get_lt (l:=gs) (k:=k) (by omega)
  have hxm:=List.mem_of_getElem? hx
  have hgoal:=hq.goal hok hxm
  have hgok:=hq1.ok x hxm
  have hgx:=hq.get hx
  have hsu0:=fm_succ (F:=bndG) hgx
  have hbl:=bnd_take hok k
  obtain⟨g,A,N,C⟩:=x;simp only at hgoal hgx hsu0
  have hop:=opsG_len hgoal
  repeat first|refine byW ?_|refine byV ?_;intro w hw
  refine lAlloc ?_;intro b5 w hw;repeat first|refine byW ?_|refine byV ?_;intro w hw
  refine lStore ?_;intro w hw;have hw:Wd Γ1 [.blk b5 (.cells (cG ⟨g,A,N,C⟩).toArray 39),.own (.slice va vn vc) 9 1 (strRows ((q.Goals.take k).flatMap bndG)),.blk b1 (.cells #[.slice sa sn sc,.slice ga gn gc] 29)] w:=hw
  repeat first|refine byW ?_|refine byV ?_;intro w hw
  refine W_cond rfl (fun h=>?_) (fun h=>?_)
  ·have hkd:g.Kind=1∨g.Kind=4:=by
    have h:(decide (g.Kind=1)||decide (g.Kind=4))=true:=h
    simpa using h
   clear h;have hb:bndG g=(opsG g).map (·.Var):=if_pos hkd
   repeat first|refine byW ?_|refine byV ?_;intro w hw
   refine lCall (vs:=[.agg (cG ⟨g,A,N,C⟩).toArray]) ((ROperands_any hgok hgoal.len hw).mono fun e w hq2=>?_)
   clear hw;obtain⟨Γ2,v,hle2,rfl,hrv,hw⟩:=hq2;obtain⟨oa,on,oc,rfl,hon,honc,hoc⟩:=hrv.shape;simp only[List.length_map]at hon
   refine⟨_,rfl,?_⟩;repeat first|refine byW ?_|refine byV ?_;intro w hw
   refine W_loop (fun μ ρ w=>∃(j:Nat) (va:Option Addr) (vn vc:Nat),μ+j=on∧Has ρ [(1,.pointer (some ⟨b1,0,none⟩)),(3,.slice va vn vc),(4,.int .i64 k),(6,.slice oa on oc),(7,.int .i64 j)]∧Wd Γ2 [.blk b5 (.cells (cG ⟨g,A,N,C⟩).toArray 39),.own (.slice va vn vc) 9 1 (strRows (((q.Goals.take k).flatMap bndG++((opsG g).take j).map (·.Var)))),.blk b1 (.cells #[.slice sa sn sc,.slice ga gn gc] 29)] w) on ⟨0,va,vn,vc,by omega,⟨rfl,rfl,rfl,rfl,rfl,trivial⟩,by rw[List.take_zero,List.map_nil,List.append_nil];exact hw⟩ ?_
   clear hw;rintro μ2 ρ w ⟨j,va,vn,vc,hj,hρ,hw⟩
   rw[hρ.eq];clear hρ;repeat first|refine byW ?_|refine byV ?_;intro w hw
   refine W_cond rfl (fun h=>?_) (fun h=>?_)
   ·have hjn:j<on:=by have:=of_decide_eq_true h;omega
    clear h;obtain⟨o,ho⟩:=get_lt (l:=opsG g) (k:=j) (by omega)
    have hbj:((q.Goals.take k).flatMap bndG++((opsG g).take j).map (·.Var)).length≤1000*k+1000:=by rw[List.length_append,List.length_map,List.length_take];omega
    have hsu:strRows (((q.Goals.take k).flatMap bndG++((opsG g).take j).map (·.Var)))++[[.string o.Var]]=strRows ((q.Goals.take k).flatMap bndG++((opsG g).take (j+1)).map (·.Var)):=by
     rw[List.take_add_one,ho,List.map_append,←List.append_assoc];unfold strRows;rw[List.map_append (l₁:=((q.Goals.take k).flatMap bndG++((opsG g).take j).map (·.Var)))];rfl
    obtain⟨va',vn',vc',hve,hvn,hvc1,hvc2⟩:=hw.own_shape (i:=1) rfl
    cases hve
    rw[List.length_map]at hvn;repeat first|refine byW ?_|refine byV ?_;intro w hw
    refine lBuildSlice [[.string o.Var]] ?_
    intro q2 w hw;refine lApp (i:=2) (rows2:=[[.string o.Var]]) ?_ (Wd.own_rd (i:=0) hw rfl)
    intro v' w hw;have hw:Wd Γ2 [.own (.slice (some q2) 1 1) 9 1 [[.string o.Var]],.blk b5 (.cells (cG ⟨g,A,N,C⟩).toArray 39),.own v' 9 1 (strRows (((q.Goals.take k).flatMap bndG++((opsG g).take j).map (·.Var)))++[[.string o.Var]]),.blk b1 (.cells #[.slice sa sn sc,.slice ga gn gc] 29)] w:=hw
    rw[hsu]at hw;have hw:=hw.drop
    obtain⟨xa,xn,xc,rfl,-,-,-⟩:=hw.own_shape (i:=1) rfl
    repeat first|refine byW ?_|refine byV ?_;intro w hw
    exact⟨on-j-1,by omega,j+1,xa,xn,xc,by omega,⟨rfl,rfl,rfl,rfl,rfl,trivial⟩,hw⟩
   have hjn:on≤j:=by have:=of_decide_eq_false h;omega
   clear h;have ho2:(opsG g).take j=opsG g:=List.take_of_length_le (by omega)
   rw[ho2,←hb,←hsu0]at hw;repeat first|refine byW ?_|refine byV ?_;intro w hw
   exact⟨gn-k-1,by omega,Γ2,k+1,va,vn,vc,hle1.trans hle2,by omega,⟨rfl,rfl,rfl,trivial⟩,hw.drop⟩
  have hkd:¬(g.Kind=1∨g.Kind=4):=by
   have h:(decide (g.Kind=1)||decide (g.Kind=4))=false:=h
   simpa using h
  clear h;have hb:bndG g=[]:=if_neg hkd
  rw[hb,List.append_nil]at hsu0;rw[←hsu0]at hw;repeat first|refine byW ?_|refine byV ?_;intro w hw
  exact⟨gn-k-1,by omega,Γ1,k+1,va,vn,vc,hle1,by omega,⟨rfl,rfl,rfl,trivial⟩,hw.drop⟩
 have hkn:gn≤k:=by have:=of_decide_eq_false h;omega
 clear h;rw[List.take_of_length_le (by omega)]at hw
 have hw:Wd Γ1 [.own (.slice va vn vc) 9 1 (strRows (boundQ q)),.blk b1 (.cells #[.slice sa sn sc,.slice ga gn gc] 29)] w:=hw
 have hwf:=hw.freeze
 clear hw;obtain⟨Γ2,hle2,hrb,hw⟩:=hwf;repeat first|refine byW ?_|refine byV ?_;intro w hw
 refine lCall (vs:=[.agg #[.slice sa sn sc,.slice ga gn gc]]) ((Named_any (hq1.mono hle2) hok hw).mono fun e w hq2=>?_)
 clear hw;obtain⟨Γ3,v,hle3,rfl,hrn,hw⟩:=hq2;obtain⟨oa,on,oc,rfl,hon,honc,hoc⟩:=hrn.shape;simp only[List.length_map]at hon
 have hrb3:=hrb.mono hle3
 have hle13:=hle1.trans (hle2.trans hle3)
 refine⟨_,rfl,?_⟩;clear hkn hk;repeat first|refine byW ?_|refine byV ?_;intro w hw
 refine W_loop (fun μ ρ w=>∃(k:Nat),μ+k=on∧Has ρ [(3,.slice va vn vc),(8,.slice oa on oc),(9,.int .i64 k)]∧okSafe q=((namedQ q).drop k).all (fun s=>hasN (boundQ q) s)∧Wd Γ3 [.blk b1 (.cells #[.slice sa sn sc,.slice ga gn gc] 29)] w) on ⟨0,by omega,⟨rfl,rfl,rfl,trivial⟩,rfl,hw⟩ ?_
 clear hw;rintro μ ρ w ⟨k,hk,hρ,hall,hw⟩
 rw[hρ.eq];clear hρ;repeat first|refine byW ?_|refine byV ?_;intro w hw
 refine W_cond rfl (fun h=>?_) (fun h=>?_)
 ·have hkn:k<on:=by have:=of_decide_eq_true h;omega
  clear h;obtain⟨s,hs⟩:=get_lt (l:=namedQ q) (k:=k) (by omega)
  rw[all_drop hs]at hall;have p1:PG Tryz.prog Γ3 38 [.slice va vn vc,.string s] (.bool (hasN (boundQ q) s)):=⟨fun S w hw=>has_any hrb3.rdS hw⟩
  repeat first|refine byW ?_|refine byV ?_;intro w hw
  refine W_cond rfl (fun h=>?_) (fun h=>?_)
  ·have hf:hasN (boundQ q) s=false:=by simpa using h
   repeat first|refine byW ?_|refine byV ?_;intro w hw
   refine⟨_,rfl,Γ3,hle13,ret_b rfl ?_,wd_nil hw⟩
   rw[hall,hf];rfl
  ·have hf:hasN (boundQ q) s=true:=by simpa using h
   rw[hf,Bool.true_and]at hall;repeat first|refine byW ?_|refine byV ?_;intro w hw
   exact⟨on-k-1,by omega,k+1,by omega,⟨rfl,rfl,rfl,trivial⟩,hall,hw⟩
 have hkn:on≤k:=by have:=of_decide_eq_false h;omega
 rw[drop_none (namedQ q) (by omega)]at hall
 repeat first|refine byW ?_|refine byV ?_;intro w hw
 exact⟨_,rfl,Γ3,hle13,ret_b rfl hall.symm,wd_nil hw⟩
theorem pg_RValidateQ{Γ:Gho}{vs vg:Value}{gs:List GoalH}{q:Query}(hq0:QR Γ vs vg gs q)(hok:QueryOk q):PG Tryz.prog Γ 13 [.agg #[vs,vg]] (.int .i64 (valE q)):=pg_free fun Γ w hle hw=>by
 have hq:=hq0.mono hle
 have p1:=pg_limits hq hok
 have p2:=pg_shaped hq hok
 have p3:=pg_named hq hok
 have p4:=pg_ranged hq hok
 have p5:=pg_safe hq hok
 obtain⟨ga,gn,gc,rfl,hgn,hgnc,hgc⟩:=hq.goals.shape;obtain⟨sa,sn,sc,rfl,hsn,hsnc,hsc⟩:=hq.sel.shape;simp only[List.length_map]at hgn hsn
 have hsl:=hok.sel
 have hrS:=hq.sel
 refine calls_of_W Tryz.func13 rfl rfl ?_
 repeat first|refine byW ?_|refine byV ?_;intro w hw
 refine lBox ?_;intro b1 w hw;have hw:Wd Γ [.blk b1 (.cells #[.slice sa sn sc,.slice ga gn gc] 29)] w:=hw
 repeat first|refine byW ?_|refine byV ?_;intro w hw
 refine W_cond rfl (fun h=>?_) (fun h=>?_)
 ·have h:okLim q=false:=by simpa using h
  repeat first|refine byW ?_|refine byV ?_;intro w hw
  refine⟨_,rfl,Γ,Gho.le.refl _,ret_i rfl ?_,wd_nil hw⟩
  unfold valE;rw[if_pos h]
 have h1:¬okLim q=false:=by simpa using h
 clear h;repeat first|refine byW ?_|refine byV ?_;intro w hw
 refine W_cond rfl (fun h=>?_) (fun h=>?_)
 ·have h:okShape q=false:=by simpa using h
  repeat first|refine byW ?_|refine byV ?_;intro w hw
  refine⟨_,rfl,Γ,Gho.le.refl _,ret_i rfl ?_,wd_nil hw⟩
  unfold valE;rw[if_neg h1,if_pos h]
 have h2:¬okShape q=false:=by simpa using h
 clear h;repeat first|refine byW ?_|refine byV ?_;intro w hw
 refine W_cond rfl (fun h=>?_) (fun h=>?_)
 ·have h:okNames q=false:=by simpa using h
  repeat first|refine byW ?_|refine byV ?_;intro w hw
  refine⟨_,rfl,Γ,Gho.le.refl _,ret_i rfl ?_,wd_nil hw⟩
  unfold valE;rw[if_neg h1,if_neg h2,if_pos h]
 have h3:¬okNames q=false:=by simpa using h
 clear h;repeat first|refine byW ?_|refine byV ?_;intro w hw
 refine W_cond rfl (fun h=>?_) (fun h=>?_)
 ·have h:okNum q=false:=by simpa using h
  repeat first|refine byW ?_|refine byV ?_;intro w hw
  refine⟨_,rfl,Γ,Gho.le.refl _,ret_i rfl ?_,wd_nil hw⟩
  unfold valE;rw[if_neg h1,if_neg h2,if_neg h3,if_pos h]
 have h4:¬okNum q=false:=by simpa using h
 clear h;have hv:valE q=varE q:=by
  unfold valE varE;rw[if_neg h1,if_neg h2,if_neg h3,if_neg h4]
 repeat first|refine byW ?_|refine byV ?_;intro w hw
 refine W_loop (fun μ ρ w=>∃(k:Nat),μ+k=sn∧Has ρ [(1,.pointer (some ⟨b1,0,none⟩)),(3,.int .i64 k)]∧(q.Sel.take k).Nodup∧Wd Γ [.blk b1 (.cells #[.slice sa sn sc,.slice ga gn gc] 29)] w) sn ⟨0,by omega,⟨rfl,rfl,trivial⟩,List.nodup_nil,hw⟩ ?_
 clear hw;rintro μ ρ w ⟨k,hk,hρ,hnd,hw⟩
 rw[hρ.eq];clear hρ;repeat first|refine byW ?_|refine byV ?_;intro w hw
 refine W_cond rfl (fun h=>?_) (fun h=>?_)
 ·have hkn:k<sn:=by have:=of_decide_eq_true h;omega
  clear h;obtain⟨s,hs⟩:=get_lt (l:=q.Sel) (k:=k) (by omega)
  have hcut:RepS Γ (.slice sa k sc) 1 (strRows (q.Sel.take k)):=by
   have:=hrS.cut (l:=0) (h:=k) (by omega) (by omega)
   rw[cutA_zero]at this;unfold strRows;rw[List.map_take];simpa using this
  have p6:PG Tryz.prog Γ 38 [.slice sa k sc,.string s] (.bool (hasN (q.Sel.take k) s)):=⟨fun S w hw=>has_any hcut.rdS hw⟩
  clear hcut;repeat first|refine byW ?_|refine byV ?_;intro w hw
  refine W_quiet (by kernel_rfl) (by kernel_rfl) hw ?_
  refine byQ ?_;refine qPg (hp:=p6) ?_
  refine byQ ?_;clear hw;intro w hw;refine W_cond rfl (fun h=>?_) (fun h=>?_)
  ·have h:hasN (q.Sel.take k) s=true:=h
   rw[hasN_iff]at h;have hf:¬q.Sel.Nodup:=fun hn=>by
    obtain⟨i,hi⟩:=List.getElem?_of_mem h
    have hik:i<k:=by have:=(List.getElem?_eq_some_iff.1 hi).1;rw[List.length_take]at this;omega
    rw[List.getElem?_take,if_pos hik]at hi;have:=(List.getElem?_inj (by omega) hn).1 (hi.trans hs.symm)
    omega
   repeat first|refine byW ?_|refine byV ?_;intro w hw
   refine⟨_,rfl,Γ,Gho.le.refl _,ret_i rfl ?_,wd_nil hw⟩
   rw[hv];unfold varE;rw[if_pos hf]
  ·have h:hasN (q.Sel.take k) s=false:=h
   have hnm:s∉q.Sel.take k:=fun hm=>by rw[hasN_iff.2 hm]at h;cases h
   repeat first|refine byW ?_|refine byV ?_;intro w hw
   refine⟨sn-k-1,by omega,k+1,by omega,⟨rfl,rfl,trivial⟩,?_,hw⟩
   rw[List.take_add_one,hs,List.nodup_append];exact⟨hnd,by simp,fun a ha b hb e=>by
    have hb:b=s:=by simpa using hb
    exact hnm (by rw[←hb,←e];exact ha)⟩
 have hkn:sn≤k:=by have:=of_decide_eq_false h;omega
 clear h;rw[List.take_of_length_le (by omega)]at hnd
 have hv2:valE q=if okSafe q=false then 62 else 0:=by
  rw[hv];unfold varE;rw[if_neg (fun h=>h hnd)]
 repeat first|refine byW ?_|refine byV ?_;intro w hw
 refine W_cond rfl (fun h=>?_) (fun h=>?_)
 ·have h:okSafe q=false:=by simpa using h
  repeat first|refine byW ?_|refine byV ?_;intro w hw
  refine⟨_,rfl,Γ,Gho.le.refl _,ret_i rfl ?_,wd_nil hw⟩
  rw[hv2,if_pos h]
 ·have h:¬okSafe q=false:=by simpa using h
  repeat first|refine byW ?_|refine byV ?_;intro w hw
  refine⟨_,rfl,Γ,Gho.le.refl _,ret_i rfl ?_,wd_nil hw⟩
  rw[hv2,if_neg h]
end Go.Proofs.YtjkepmmcajbdhaaGreat
end
section
open Go Mk
namespace Go.Proofs.YtjkepmmcajbdhaaGreat
set_option maxHeartbeats 16000000
attribute [local irreducible] Calls cI cB
theorem own_repQ{Γ:Gho}{S:List Res}{w:World}{i e sz:Nat}{v:Value}{rows:List (List Value)}(hw:Wd Γ S w)(hi:S[i]? = some (.own v e sz rows)):RepS (hpG Γ w) v sz rows:=by
 obtain⟨bs,hr⟩:=hw.own_holds hi
 unfold Res.own at hr;obtain⟨q0,a,n,c,e1,e2,e3,e4,e5⟩:=hr;unfold RepS;refine⟨q0,a,n,c,e1,e2,e3,e4,fun h0=>?_⟩
 rcases e5 with⟨hc,_⟩|⟨g,cur,g1,g2,g3,g4,g5⟩
 ·omega
 ·refine⟨g,0,cur,e,(0,0),g1,g3,fun j u hj=>?_⟩
  rw[←g5]at hj;rw[List.getElem?_take]at hj;split at hj
  ·rw[Nat.zero_add];simpa using hj
  ·cases hj
def workI(db:List Fact)(gs:List Goal):Int:=if workN db gs≤1000000 then workN db gs else 1000001
theorem quo_ok{s n:Nat}(hs:1≤s):IntKind.i64.wrap ((1000000:Int).tdiv (s:Int))<(n:Int)↔1000000<n*s:=by
 obtain⟨d,hd⟩:∃d,d=1000000 / s:=⟨_,rfl⟩
 have h2:d≤1000000:=by rw[hd];exact Nat.div_le_self _ _
 have e:(1000000:Int).tdiv (s:Int)=(d:Int):=by
  rw[Int.tdiv_eq_ediv_of_nonneg (by omega),hd,Int.natCast_ediv];rfl
 rw[e,wrap_i64 (by omega) (by omega),Int.ofNat_lt,hd]
 exact Nat.div_lt_iff_lt_mul (by omega)
theorem Work_any{Γ:Gho}{va vs vg:Value}{fs:List FactH}{gs:List GoalH}{q:Query}(hF0:RepS Γ va 2 (fs.map cF))(hfo0:FsOk Γ fs)(hl:fs.length≤50000)(hq0:QR Γ vs vg gs q)(hok:QueryOk q)(hR:∀g∈q.Goals,g.Kind=4→g.Low≤g.High∧g.High-g.Low≤1000000) :
  PG Tryz.prog Γ 23 [va,.agg #[vs,vg]] (.int .i64 (workI (facts fs) q.Goals)):=pg_free fun Γ w hle hw=>by
 have hq:=hq0.mono hle
 have hF:=hF0.mono hle
 have hfo:=hfo0.mono hle
 obtain⟨ga,gn,gc,rfl,hgn,hgnc,hgc⟩:=hq.goals.shape;obtain⟨sa,sn,sc,rfl,hsn,hsnc,hsc⟩:=hq.sel.shape;obtain⟨fa,fn,fc,rfl,hfn,hfc1,hfc2⟩:=hF.shape;simp only[List.length_map]at hgn hsn hfn
 have hgl:=hq.glen hok
 have hnl:=hq.nlen
 have hRl:∀g∈q.Goals,g.Kind=4→g.Low≤g.High:=fun g hg h4=>(hR g hg h4).1
 have hrG:=hq.goals
 obtain⟨db,hdb⟩:∃db,db=facts fs:=⟨_,rfl⟩
 have hdl:db.length≤50000:=by rw[hdb];unfold facts;rw[List.length_map];exact hl
 rw[←hdb];refine calls_of_W Tryz.func23 rfl rfl ?_
 repeat first|refine byW ?_|refine byV ?_;intro w hw
 refine lBox ?_;intro b3 w hw;have hw:Wd Γ [.blk b3 (.cells #[.slice sa sn sc,.slice ga gn gc] 29)] w:=hw
 repeat first|refine byW ?_|refine byV ?_;intro w hw
 refine W_loop (fun μ ρ w=>∃(k:Nat),μ+k=gn∧Has ρ [(0,.slice fa fn fc),(3,.pointer (some ⟨b3,0,none⟩)),(5,.int .i64 (workN db (q.Goals.take k))),(6,.int .i64 k)]∧workN db (q.Goals.take k)≤1000000∧Wd Γ [.blk b3 (.cells #[.slice sa sn sc,.slice ga gn gc] 29)] w) gn ⟨0,by omega,⟨rfl,rfl,rfl,rfl,trivial⟩,(by show 1≤1000000;decide),hw⟩ ?_
 clear hw;rintro μ ρ w ⟨k,hk,hρ,hwk,hw⟩
 rw[hρ.eq];clear hρ;repeat first|refine byW ?_|refine byV ?_;intro w hw
 refine W_cond rfl (fun h=>?_) (fun h=>?_)
 ·have hkn:k<gn:=by have:=of_decide_eq_true h;omega
  clear h;obtain⟨x,hx⟩:=get_lt (l:=gs) (k:=k) (by omega)
  have hxm:=List.mem_of_getElem? hx
  have hgoal:=hq.goal hok hxm
  have hgok:=hq.ok x hxm
  have hgx:=hq.get hx
  have hws:=workN_succ (db:=db) hgx
  have hwm:=workN_mono (db:=db) hRl (k+1)
  have hRx:=hR x.g (List.mem_of_getElem? hgx)
  have hfp:=factor_pos (db:=db) (g:=x.g) fun h4=>(hRx h4).1
  obtain⟨l1,l2,l3⟩:=hgok.len;obtain⟨g,A,N,C⟩:=x;simp only at hgoal l1 l2 l3 hgx hws hRx hfp
  have htb:=tabS_len (db:=db) (g:=g)
  have hfac:factor db g≤1000001:=by
   unfold factor;split
   ·omega
   split
   ·rename_i h4
    have:=hRx h4
    omega
   ·omega
  have hmul:workN db (q.Goals.take k)*factor db g≤1000000*1000001:=Nat.mul_le_mul hwk hfac
  repeat first|refine byW ?_|refine byV ?_;intro w hw
  refine lAlloc ?_;intro b7 w hw;repeat first|refine byW ?_|refine byV ?_;intro w hw
  refine lStore ?_;intro w hw;have hw:Wd Γ [.blk b7 (.cells (cG ⟨g,A,N,C⟩).toArray 39),.blk b3 (.cells #[.slice sa sn sc,.slice ga gn gc] 29)] w:=hw
  first|refine byW ?_|(refine byV ?_;intro w hw)
  first|refine byW ?_|(refine byV ?_;intro w hw)
  first|refine byW ?_|(refine byV ?_;intro w hw)
  first|refine byW ?_|(refine byV ?_;intro w hw)
  first|refine byW ?_|(refine byV ?_;intro w hw)
  refine W_cut (fun ρ w=>Has ρ [(0,.slice fa fn fc),(3,.pointer (some ⟨b3,0,none⟩)),(5,.int .i64 (workN db (q.Goals.take k))),(6,.int .i64 k),(8,.int .i64 (factor db g))]∧Wd Γ [.blk b7 (.cells (cG ⟨g,A,N,C⟩).toArray 39),.blk b3 (.cells #[.slice sa sn sc,.slice ga gn gc] 29)] w) ?_ ?_
  ·repeat first|refine byW ?_|refine byV ?_;intro w hw
   refine W_cond rfl (fun h=>?_) (fun h=>?_)
   ·have hk1:g.Kind=1:=of_decide_eq_true h
    have hts:tabS db g=selS db g.Rel g.Args.length:=by unfold tabS;rw[if_pos (Or.inl hk1)]
    have hfe:factor db g=max (selS db g.Rel N).length 1:=by unfold factor;rw[if_pos hk1,hts,l1]
    have htb2:(selS db g.Rel N).length≤db.length:=selS_len
    repeat first|refine byW ?_|refine byV ?_;intro w hw
    refine lCall (vs:=[.slice fa fn fc,.string g.Rel,.int .i64 N]) ((RSelect_any (r:=g.Rel) (m:=N) fs hfo hl hF hw).mono fun e w hq2=>?_)
    clear hw;obtain⟨v',fs',rfl,hfs,hfo2,hw⟩:=hq2;obtain⟨a,n,c,rfl,hn,hnc,hcc⟩:=hw.own_shape (i:=0) rfl
    have hn2:n=(selS db g.Rel N).length:=by
     rw[hdb,←hfs];unfold facts;rw[List.length_map];simpa using hn
    have hw:=hw.drop
    refine⟨_,rfl,?_⟩;repeat first|refine byW ?_|refine byV ?_;intro w hw
    refine⟨⟨rfl,rfl,rfl,rfl,?_,trivial⟩,hw⟩
    show Value.int .i64 (if (1:Int)<(n:Int) then (n:Int) else 1)=Value.int .i64 (factor db g)
    rw[hfe,←hn2];congr 1
    split <;> omega
   have hk1:¬g.Kind=1:=of_decide_eq_false h
   clear h;repeat first|refine byW ?_|refine byV ?_;intro w hw
   refine W_cond rfl (fun h=>?_) (fun h=>?_)
   ·have hk4:g.Kind=4:=of_decide_eq_true h
    obtain⟨hlh,hlh2⟩:=hRx hk4
    have hfe:factor db g=(g.High-g.Low+1).toNat:=by unfold factor;rw[if_neg hk1,if_pos hk4]
    repeat first|refine byW ?_|refine byV ?_;intro w hw
    refine⟨⟨rfl,rfl,rfl,rfl,?_,trivial⟩,hw⟩
    show Value.int .i64 (IntKind.i64.wrap (IntKind.i64.wrap (g.High-g.Low)+1))=Value.int .i64 (factor db g)
    rw[wrap_i64 (a:=g.High-g.Low) (by omega) (by omega),wrap_i64 (by omega) (by omega),hfe]
    congr 1
    omega
   have hk4:¬g.Kind=4:=of_decide_eq_false h
   have hfe:factor db g=1:=by unfold factor;rw[if_neg hk1,if_neg hk4]
   repeat first|refine byW ?_|refine byV ?_;intro w hw
   refine⟨⟨rfl,rfl,rfl,rfl,?_,trivial⟩,hw⟩
   rw[hfe];rfl
  clear hw;rintro ρ w ⟨hρ,hw⟩
  rw[hρ.eq];clear hρ;obtain⟨f,hf⟩:∃f,f=factor db g:=⟨_,rfl⟩
  obtain⟨d,hd⟩:∃d,d=IntKind.i64.wrap ((1000000:Int).tdiv (f:Int)):=⟨_,rfl⟩
  rw[←hf]at hfp hws hmul hfac ⊢
  have hqo:=quo_ok (s:=f) (n:=workN db (q.Goals.take k)) hfp
  rw[←hd]at hqo;first|refine byW ?_|(refine byV ?_;intro w hw)
  first|refine byW ?_|(refine byV ?_;intro w hw)
  first|refine byW ?_|(refine byV ?_;intro w hw)
  first|refine byW ?_|(refine byV ?_;intro w hw)
  first|refine byW ?_|(refine byV ?_;intro w hw)
  refine lY (v:=.int .i64 d) ?_ (hy:=by rw[hd];exact y_quo rfl rfl (by omega))
  clear hd;repeat first|refine byW ?_|refine byV ?_;intro w hw
  refine W_cond rfl (fun h=>?_) (fun h=>?_)
  ·have h:d<(workN db (q.Goals.take k):Int):=of_decide_eq_true h
   rw[hqo]at h;repeat first|refine byW ?_|refine byV ?_;intro w hw
   refine⟨_,rfl,Γ,Gho.le.refl _,ret_i rfl ?_,wd_nil hw⟩
   unfold workI;rw[if_neg (by omega)]
  ·have h:¬d<(workN db (q.Goals.take k):Int):=of_decide_eq_false h
   rw[hqo]at h;repeat first|refine byW ?_|refine byV ?_;intro w hw
   refine⟨gn-k-1,by omega,k+1,by omega,⟨rfl,rfl,?_,rfl,trivial⟩,by omega,hw.drop⟩
   show Value.int .i64 ((workN db (q.Goals.take k):Int)*(f:Int))=_
   rw[hws,Int.natCast_mul]
 have hkn:gn≤k:=by have:=of_decide_eq_false h;omega
 rw[List.take_of_length_le (by omega)]at hwk
 have hkk:q.Goals.take k=q.Goals:=List.take_of_length_le (by omega)
 rw[hkk];repeat first|refine byW ?_|refine byV ?_;intro w hw
 refine⟨_,rfl,Γ,Gho.le.refl _,ret_i rfl ?_,wd_nil hw⟩
 unfold workI;rw[if_pos hwk]
end Go.Proofs.YtjkepmmcajbdhaaGreat
end
section
open Go Mk
namespace Go.Proofs.YtjkepmmcajbdhaaGreat
set_option maxHeartbeats 16000000
attribute [local irreducible] Calls cI cB
def briefO(o:Opd):Bool:=decide (o.Var.size≤60)&&decide (o.Const.Word.size≤60)
def briefG(g:Goal):Bool:=!(decide (60<g.Rel.size)||decide (12<g.Args.length) || !briefO g.L || !briefO g.R)&&g.Args.all briefO
def shortS(s:ByteArray):Bool:=!decide (60<s.size)
def fewQ(q:Query):Bool:=!(decide (12<q.Sel.length)||decide (20<q.Goals.length))&&q.Sel.all shortS&&q.Goals.all briefG
structure QueryIn(q:Query):Prop where
 goals:∀g∈q.Goals,I64 g.Off∧I64 g.Low∧I64 g.High∧I64 g.L.Const.Num∧I64 g.R.Const.Num∧∀o∈g.Args,I64 o.Const.Num
theorem briefO_ok{o:Opd}(h:briefO o=true)(hi:I64 o.Const.Num):OpdOk o:=by
 unfold briefO at h;simp only[Bool.and_eq_true,decide_eq_true_eq]at h
 exact⟨by omega,hi,by omega⟩
theorem fewQ_ok{q:Query}(h:fewQ q=true)(hi:QueryIn q):QueryOk q:=by
 unfold fewQ at h;simp only[Bool.and_eq_true,Bool.not_eq_true',Bool.or_eq_false_iff,decide_eq_false_iff_not,List.all_eq_true]at h
 obtain⟨⟨⟨h1,h2⟩,h3⟩,h4⟩:=h;refine⟨by omega,fun s hs=>?_,by omega,fun g hg=>?_⟩
 ·have:=h3 s hs
  unfold shortS at this;simp only[Bool.not_eq_true',decide_eq_false_iff_not]at this
  omega
 ·have hb:=h4 g hg
  obtain⟨i1,i2,i3,i4,i5,i6⟩:=hi.goals g hg
  unfold briefG at hb;simp only[Bool.and_eq_true,Bool.not_eq_true',Bool.or_eq_false_iff,decide_eq_false_iff_not,Bool.not_eq_false',List.all_eq_true]at hb
  obtain⟨⟨⟨⟨b1,b2⟩,b3⟩,b4⟩,b5⟩:=hb;exact⟨by omega,by omega,fun o ho=>briefO_ok (b5 o ho) (i6 o ho),briefO_ok b3 i4,briefO_ok b4 i5,i1,i2,i3⟩
instance pg_brief(Γ:Gho)(o:Opd):PG Tryz.prog Γ 20 [.agg (enc o).toArray] (.bool (briefO o)):=⟨fun S w hw=>by
 refine calls_of_W Tryz.func20 rfl rfl ?_
 repeat first|refine byW ?_|refine byV ?_;intro w hw
 refine lBox ?_;intro b1 w hw;have hw:Wd Γ (.blk b1 (.cells (enc o).toArray 37)::S) w:=hw
 repeat first|refine byW ?_|refine byV ?_;intro w hw
 refine⟨_,rfl,ret_b rfl ?_,hw.drop⟩
 unfold briefO;rw[show decide (o.Var.size≤60)=decide ((o.Var.size:Int)≤60) from decide_eq_decide.2 (by omega),show decide (o.Const.Word.size≤60)=decide ((o.Const.Word.size:Int)≤60) from decide_eq_decide.2 (by omega)]⟩
theorem pg_few{Γ:Gho}{vs vg:Value}{gs:List GoalH}{q:Query}(hq0:QR Γ vs vg gs q):PG Tryz.prog Γ 8 [.agg #[vs,vg]] (.bool (fewQ q)):=pg_free fun Γ w hle hw=>by
 have hq:=hq0.mono hle
 obtain⟨ga,gn,gc,rfl,hgn,hgnc,hgc⟩:=hq.goals.shape;obtain⟨sa,sn,sc,rfl,hsn,hsnc,hsc⟩:=hq.sel.shape;simp only[List.length_map]at hgn hsn
 have hnl:=hq.nlen
 have hrG:=hq.goals
 have hrS:=hq.sel
 refine calls_of_W Tryz.func8 rfl rfl ?_
 repeat first|refine byW ?_|refine byV ?_;intro w hw
 refine lBox ?_;intro b1 w hw;have hw:Wd Γ [.blk b1 (.cells #[.slice sa sn sc,.slice ga gn gc] 29)] w:=hw
 have e1:(decide (12<q.Sel.length)||decide (20<q.Goals.length))=(decide ((12:Int)<sn)||decide ((20:Int)<gn)):=by
  rw[show decide (12<q.Sel.length)=decide ((12:Int)<sn) from decide_eq_decide.2 (by omega),show decide (20<q.Goals.length)=decide ((20:Int)<gn) from decide_eq_decide.2 (by omega)]
 repeat first|refine byW ?_|refine byV ?_;intro w hw
 refine W_cond rfl (fun h=>?_) (fun h=>?_)
 ·have h:(decide ((12:Int)<sn)||decide ((20:Int)<gn))=true:=h
  repeat first|refine byW ?_|refine byV ?_;intro w hw
  refine⟨_,rfl,Γ,Gho.le.refl _,ret_b rfl ?_,wd_nil hw⟩
  unfold fewQ;rw[e1,h];rfl
 have h:(decide ((12:Int)<sn)||decide ((20:Int)<gn))=false:=h
 have hfw:fewQ q=(q.Sel.all shortS&&q.Goals.all briefG):=by
  unfold fewQ;rw[e1,h];rfl
 clear h e1;repeat first|refine byW ?_|refine byV ?_;intro w hw
 refine W_loop (fun μ ρ w=>∃(k:Nat),μ+k=sn∧Has ρ [(1,.pointer (some ⟨b1,0,none⟩)),(3,.int .i64 k)]∧q.Sel.all shortS=(q.Sel.drop k).all shortS∧Wd Γ [.blk b1 (.cells #[.slice sa sn sc,.slice ga gn gc] 29)] w) sn ⟨0,by omega,⟨rfl,rfl,trivial⟩,rfl,hw⟩ ?_
 clear hw;rintro μ ρ w ⟨k,hk,hρ,hall,hw⟩
 rw[hρ.eq];clear hρ;repeat first|refine byW ?_|refine byV ?_;intro w hw
 refine W_cond rfl (fun h=>?_) (fun h=>?_)
 ·have hkn:k<sn:=by have:=of_decide_eq_true h;omega
  clear h;obtain⟨s,hs⟩:=get_lt (l:=q.Sel) (k:=k) (by omega)
  rw[all_drop hs]at hall;have hsh:shortS s = !decide ((60:Int)<s.size):=by
   unfold shortS;rw[show decide (60<s.size)=decide ((60:Int)<s.size) from decide_eq_decide.2 (by omega)]
  repeat first|refine byW ?_|refine byV ?_;intro w hw
  refine W_cond rfl (fun h=>?_) (fun h=>?_)
  ·have h:decide ((60:Int)<s.size)=true:=h
   repeat first|refine byW ?_|refine byV ?_;intro w hw
   refine⟨_,rfl,Γ,Gho.le.refl _,ret_b rfl ?_,wd_nil hw⟩
   rw[hfw,hall,hsh,h];rfl
  ·have h:decide ((60:Int)<s.size)=false:=h
   rw[hsh,h,Bool.not_false,Bool.true_and]at hall;repeat first|refine byW ?_|refine byV ?_;intro w hw
   exact⟨μ-1,by omega,k+1,by omega,⟨rfl,rfl,trivial⟩,hall,hw⟩
 have hkn:sn≤k:=by have:=of_decide_eq_false h;omega
 clear h;rw[drop_none q.Sel (by omega)]at hall
 have hfw:fewQ q=q.Goals.all briefG:=by rw[hfw,hall];rfl
 clear hall hkn hk;repeat first|refine byW ?_|refine byV ?_;intro w hw
 refine W_loop (fun μ ρ w=>∃(k:Nat),μ+k=gn∧Has ρ [(1,.pointer (some ⟨b1,0,none⟩)),(4,.int .i64 k)]∧fewQ q=(q.Goals.drop k).all briefG∧Wd Γ [.blk b1 (.cells #[.slice sa sn sc,.slice ga gn gc] 29)] w) gn ⟨0,by omega,⟨rfl,rfl,trivial⟩,hfw,hw⟩ ?_
 clear hw;rintro μ ρ w ⟨k,hk,hρ,hall,hw⟩
 rw[hρ.eq];clear hρ;repeat first|refine byW ?_|refine byV ?_;intro w hw
 refine W_cond rfl (fun h=>?_) (fun h=>?_)
 ·have hkn:k<gn:=by have:=of_decide_eq_true h;omega
  clear h;obtain⟨x,hx⟩:=get_lt (l:=gs) (k:=k) (by omega)
  have hxm:=List.mem_of_getElem? hx
  have hgok:=hq.ok x hxm
  have hgx:=hq.get hx
  rw[all_drop hgx]at hall;obtain⟨l1,l2,l3⟩:=hgok.len;obtain⟨g,A,N,C⟩:=x;simp only at hall l1 l2 l3 hgx
  have hgR:RepS Γ (.slice A N C) 4 (g.Args.map enc):=hgok
  have hbr:briefG g=(!(decide ((60:Int)<g.Rel.size)||decide ((12:Int)<N) || !briefO g.L || !briefO g.R)&&g.Args.all briefO):=by
   unfold briefG;rw[show decide (60<g.Rel.size)=decide ((60:Int)<g.Rel.size) from decide_eq_decide.2 (by omega),show decide (12<g.Args.length)=decide ((12:Int)<N) from decide_eq_decide.2 (by omega)]
  repeat first|refine byW ?_|refine byV ?_;intro w hw
  refine lAlloc ?_;intro b5 w hw;repeat first|refine byW ?_|refine byV ?_;intro w hw
  refine lStore ?_;intro w hw;have hw:Wd Γ [.blk b5 (.cells (cG ⟨g,A,N,C⟩).toArray 39),.blk b1 (.cells #[.slice sa sn sc,.slice ga gn gc] 29)] w:=hw
  repeat first|refine byW ?_|refine byV ?_;intro w hw
  refine lPgG (hp:=pg_brief Γ g.L) ?_
  intro w hw;repeat first|refine byW ?_|refine byV ?_;intro w hw
  refine lPgG (hp:=pg_brief Γ g.R) ?_
  intro w hw;repeat first|refine byW ?_|refine byV ?_;intro w hw
  refine W_cond rfl (fun h=>?_) (fun h=>?_)
  ·have h:(decide ((60:Int)<g.Rel.size)||decide ((12:Int)<N) || !briefO g.L || !briefO g.R)=true:=h
   repeat first|refine byW ?_|refine byV ?_;intro w hw
   refine⟨_,rfl,Γ,Gho.le.refl _,ret_b rfl ?_,wd_nil hw⟩
   rw[hall,hbr,h];rfl
  have h:(decide ((60:Int)<g.Rel.size)||decide ((12:Int)<N) || !briefO g.L || !briefO g.R)=false:=h
  have hbr:briefG g=g.Args.all briefO:=by rw[hbr,h];rfl
  clear h;repeat first|refine byW ?_|refine byV ?_;intro w hw
  refine W_loop (fun μ ρ w=>∃(j:Nat),μ+j=N∧Has ρ [(1,.pointer (some ⟨b1,0,none⟩)),(4,.int .i64 k),(5,.pointer (some ⟨b5,0,none⟩)),(6,.int .i64 j)]∧briefG g=(g.Args.drop j).all briefO∧Wd Γ [.blk b5 (.cells (cG ⟨g,A,N,C⟩).toArray 39),.blk b1 (.cells #[.slice sa sn sc,.slice ga gn gc] 29)] w) N ⟨0,by omega,⟨rfl,rfl,rfl,rfl,trivial⟩,hbr,hw⟩ ?_
  clear hw;rintro μ2 ρ w ⟨j,hj,hρ,hsh,hw⟩
  rw[hρ.eq];clear hρ;repeat first|refine byW ?_|refine byV ?_;intro w hw
  refine W_cond rfl (fun h=>?_) (fun h=>?_)
  ·have h:(j:Int)<(N:Int):=of_decide_eq_true h
   have hjn:j<N:=by omega
   clear h;obtain⟨o,ho⟩:=get_lt (l:=g.Args) (k:=j) (by omega)
   rw[all_drop ho]at hsh;repeat first|refine byW ?_|refine byV ?_;intro w hw
   refine lY ?_ (hy:=y_idxI hw hgR rfl rfl (by omega) (by omega))
   repeat first|refine byW ?_|refine byV ?_;intro w hw
   refine W_cond rfl (fun h=>?_) (fun h=>?_)
   ·have hf:briefO o=false:=by simpa using h
    repeat first|refine byW ?_|refine byV ?_;intro w hw
    refine⟨_,rfl,Γ,Gho.le.refl _,ret_b rfl ?_,wd_nil hw⟩
    rw[hall,hsh,hf];rfl
   ·have hf:briefO o=true:=by simpa using h
    rw[hf,Bool.true_and]at hsh;repeat first|refine byW ?_|refine byV ?_;intro w hw
    exact⟨N-j-1,by omega,j+1,by omega,⟨rfl,rfl,rfl,rfl,trivial⟩,hsh,hw⟩
  have h:¬(j:Int)<(N:Int):=of_decide_eq_false h
  rw[drop_none g.Args (by omega)]at hsh
  have hsh:briefG g=true:=hsh
  rw[hsh,Bool.true_and]at hall;repeat first|refine byW ?_|refine byV ?_;intro w hw
  exact⟨gn-k-1,by omega,k+1,by omega,⟨rfl,rfl,trivial⟩,hall,hw.drop⟩
 have hkn:gn≤k:=by have:=of_decide_eq_false h;omega
 rw[drop_none _ (by rw[hnl];omega)]at hall
 repeat first|refine byW ?_|refine byV ?_;intro w hw
 exact⟨_,rfl,Γ,Gho.le.refl _,ret_b rfl hall.symm,wd_nil hw⟩
def lightQ(db:List Fact)(q:Query):Bool:=decide (valE q≠0)||decide (workI (setS db) q.Goals≤20000)
theorem pg_light{Γ:Gho}{va vs vg:Value}{fs:List FactH}{gs:List GoalH}{q:Query}(hF0:RL Γ va fs)(hl:fs.length≤50000)(hq0:QR Γ vs vg gs q)(hok:QueryOk q) :
  PG Tryz.prog Γ 10 [va,.agg #[vs,vg]] (.bool (lightQ (facts fs) q)):=pg_free fun Γ w hle hw=>by
 have hq:=hq0.mono hle
 have hF:=hF0.mono hle
 have p1:=pg_RValidateQ hq hok
 have hR:=valE_num (q:=q)
 have hW:=fun (Γ':Gho) (h:Γ.le Γ') (v:Value) (hr:RepS Γ' v 2 ((setF fs).map cF)) hR=>Work_any hr ((hF.ok.mono h).setF) (Nat.le_trans (setF_len fs) hl) (hq.mono h) hok hR
 obtain⟨ga,gn,gc,rfl,hgn,hgnc,hgc⟩:=hq.goals.shape;obtain⟨sa,sn,sc,rfl,hsn,hsnc,hsc⟩:=hq.sel.shape;obtain⟨fa,fc,rfl,hfc1,hfc2⟩:=hF.len;refine calls_of_W Tryz.func10 rfl rfl ?_
 repeat first|refine byW ?_|refine byV ?_;intro w hw
 refine lBox ?_;intro b3 w hw;have hw:Wd Γ [.blk b3 (.cells #[.slice sa sn sc,.slice ga gn gc] 29)] w:=hw
 obtain⟨e,he⟩:∃e,e=valE q:=⟨_,rfl⟩
 rw[←he]at p1 hR
 by_cases h0:e=0
 ·subst h0;have hR:=hR rfl
  have hlq:lightQ (facts fs) q=decide (workI (facts (setF fs)) q.Goals≤20000):=by
   unfold lightQ;rw[←he,setF_set];rfl
  repeat first|refine byW ?_|refine byV ?_;intro w hw
  refine W_mixE 1 [[],[],[],[],[],[0],[],[],[],[],[]] [[],[],[],[],[],[0],[],[0],[],[],[]] [[10]] ?_ (hw:=hw)
  refine byM ?_;refine mGuard ?_
  refine byM ?_;refine mGuard ?_
  refine mNewP (E:=25) (sz:=2) (rows:=(setF fs).map cF) (fun S w hw=>SetR_any fs (fun x hx=>(hF.ok x hx).1) (by omega) hF.rep.rdS hw) ?_
  refine mGuard ?_
  refine byM ?_;refine mGuard ?_
  refine mCallR (v:=.int .i64 (workI (facts (setF fs)) q.Goals)) (F:=fun g=>[.own (g 10) 25 2 ((setF fs).map cF)]) (fun g=>[g 10,.agg #[.slice sa sn sc,.slice ga gn gc]]) (fun g w Y hw=>?_) ?_
  ·have hp:=(hW (hpG Γ w) (hpG_le hw) _ (own_repQ (i:=0) hw rfl) hR).h [] w (hpG_wd hw)
   exact hp.mono fun e w' ⟨h1,h2⟩=>⟨h1,wd_keptG (R:=[]) hw (Gho.le.refl _) (by simp) h2⟩
  refine mGuard ?_
  refine byM ?_;refine mEnd fun w g hw=>?_
  repeat first|refine byW ?_|refine byV ?_;intro w hw
  refine⟨_,rfl,Γ,Gho.le.refl _,ret_b rfl ?_,wd_nil hw⟩
  exact hlq.symm
 ·have hlq:lightQ (facts fs) q=true:=by
   unfold lightQ;rw[←he,decide_eq_true h0];rfl
  repeat first|refine byW ?_|refine byV ?_;intro w hw
  refine W_quiet (by kernel_rfl) (by kernel_rfl) hw ?_
  first|refine Q_nil ?_|(apply Q_plain;first|(apply Q_go;first|refine qP ?_|refine qPg ?_)|refine qY ?_)|(apply Q_guarded;first|(apply Q_go;first|refine qPG ?_|refine qPgG ?_)|refine qG ?_)
  first|refine Q_nil ?_|(apply Q_plain;first|(apply Q_go;first|refine qP ?_|refine qPg ?_)|refine qY ?_)|(apply Q_guarded;first|(apply Q_go;first|refine qPG ?_|refine qPgG ?_)|refine qG ?_)
  refine qT (b:=decide (e≠0)) (decide_eq_true h0) ?_
  first|refine Q_nil ?_|(apply Q_plain;first|(apply Q_go;first|refine qP ?_|refine qPg ?_)|refine qY ?_)|(apply Q_guarded;first|(apply Q_go;first|refine qPG ?_|refine qPgG ?_)|refine qG ?_)
  refine qGF ?_ rfl
  refine qGF ?_ rfl
  refine qGF ?_ rfl
  refine qGF ?_ rfl
  refine qGF ?_ rfl
  refine byQ ?_;clear hw;intro w hw;repeat first|refine byW ?_|refine byV ?_;intro w hw
  exact⟨_,rfl,Γ,Gho.le.refl _,ret_b rfl hlq.symm,wd_nil hw⟩
end Go.Proofs.YtjkepmmcajbdhaaGreat
end
section
open Go Mk
open Go.ChangeShapes Go.WideShapes Go.ChangeAt Go.RowKit
namespace Go.Proofs.YtjkepmmcajbdhaaGreat
theorem own_knob:ownKnob Tryz.prog.godebug=none:=by kernel_rfl
theorem keptBut_wd{W W':World}{S:List Res}(h:Wd (allG W) S W')(may:MemPlace→Prop):W.keptBut W' may:=by
 refine⟨h.os,h.out,fun i hi=>?_⟩
 have h1:W.heap[i]? = some W.heap[i]:=Array.getElem?_eq_getElem hi
 have h2:=h.imm i W.heap[i] h1
 rw[h1,h2];cases W.heap[i] <;> simp
theorem post_wd{H:Type}{enc:TypeId×Value→H}{f:Func}{s:ChangeSpec}{W W':World}{S:List Res}{args:Array Value}{v:Value}{ds gs:List (DataW H)}{before pa pv:List MemPlace}{apart:Bool}
  (hW:DataW.Whole enc Tryz.prog f.params.toList s.vars apart W args.toList ds gs before)
  (hres:∀(b:Nat) (sp:Nat→Bool) (hd:Bool),DataW.TrodAll enc Tryz.prog W' b sp hd f.resultTypes.toList (v.resultList f.resultTypes.size) (s.fn H (ds++gs)).results [])
  (hargs:∀sp:Nat→Bool,(∀p∈before,sp p.block=true)→DataW.TrodAll enc Tryz.prog W' 0 sp true f.params.toList args.toList (s.fn H (ds++gs)).args pa)
  (hvars:∀sp:Nat→Bool,(∀p∈before,sp p.block=true)→DataW.TrodVars enc Tryz.prog W' sp s.vars (s.fn H (ds++gs)).vars pv)
  (hps:before=pa++pv) (hk:Wd (allG W) S W'):s.post enc Tryz.prog f apart true false false W args v W':=by
 have hold:∀p∈before,(fun b=>decide (b<W.heap.size)) p.block=true:=fun p hp=>by simpa using hW.lt p hp
 exact⟨ds,gs,before,[],pa,pv,hW,hres _ _ _,hargs _ hold,hvars _ hold,keptBut_wd hk _,fun h=>by cases h⟩
theorem wd_back{Γ Γ':Gho}{w:World}(hle:Γ.le Γ')(h:Wd Γ' [] w):Wd Γ [] w:=by
 obtain⟨h1,h2,h3,h4,h5,-⟩:=h;exact⟨h1.trans hle.os,h2.trans hle.tape,h3.trans hle.out,by rw[←hle.dr];exact h4,fun b o hb=>h5 b o (hle.imm b o hb),[],trivial,by simp,by simp⟩
section
variable {H:Type}{en:TypeId×Value→H}{W W':World}{base:Nat}{sp:Nat→Bool}{held:Bool}{S:List Res}
theorem flat_inv{sz:Nat}:∀ {rows:List (List Value)},(∀r∈rows,r.length=sz)→∀ {j:Nat} {u:Value},rows.flatten[j]? = some u→∃i r row,rows[i]? = some row∧row[r]? = some u∧j=i*sz+r
 | [],_,j,u,h=>by simp at h
 | a::rows,hl,j,u,h=>by
  rw[List.flatten_cons]at h;by_cases hj:j<a.length
  ·rw[List.getElem?_append_left hj]at h;exact⟨0,j,a,rfl,h,by omega⟩
  ·rw[List.getElem?_append_right (by omega)]at h
   obtain⟨i,r,row,h1,h2,h3⟩:=flat_inv (fun r hr=>hl r (List.mem_cons_of_mem _ hr)) h
   have ha:=hl a (List.mem_cons_self ..)
   refine⟨i+1,r,row,by simpa using h1,h2,?_⟩
   rw[Nat.add_mul,Nat.one_mul];omega
theorem read_slice{α:Type}[Inhabited α]{F:α→List Value}{p:α→Prop}{t e sz:Nat}(hc:Tryz.prog.cellsOf e=sz)(h0:0<sz)(hF:∀x,(F x).length=sz)(ht:Tryz.prog.underlying t=some (.slice e))
  (hel:∀ {n:Nat} {cs:List Value} {y:DataW H×List MemPlace},DataW.trod en Tryz.prog W base sp held n e cs=some y→∃x:α,cs=F x∧p x)
  {n:Nat} {v:Value} {y:DataW H×List MemPlace} (h:DataW.trod en Tryz.prog W base sp held n t [v]=some y):∃xs:List α,RepS (allG W) v sz (xs.map F)∧∀x∈xs,p x:=by
 rcases Deep.open_slice ht h with⟨h0,-⟩|⟨a,len,cap,m,k,D,Pl,h1,-,hlc,hcm,hm,-,hel2⟩
 ·cases h0
  exact⟨[],RepS.nil,fun x hx=>by cases hx⟩
 ·cases h1
  have hlm:len≤m:=by rw[hm];split <;> omega
  have hx:∀i,i<len→∃x:α,p x∧∀j u,(F x)[j]? = some u→W.cell? (a.add (i*sz+j))=some u:=fun i hi=>by
   obtain⟨cs',h1,h2⟩:=hel2 i (by omega)
   rw[hc]at h1;obtain⟨-,hl,hat⟩:=World.cells?_some h1
   obtain⟨x,rfl,hp⟩:=hel h2
   refine⟨x,hp,fun j u hu=>?_⟩
   have hj:j<sz:=by rw[←hl];exact(List.getElem?_eq_some_iff.1 hu).1
   have:=hat j hj
   rw[hu,Go.Deep.add_add]at this;exact this
  obtain⟨f,hf⟩:∃f:Nat→α,∀i,i<len→p (f i)∧∀j u,(F (f i))[j]? = some u→W.cell? (a.add (i*sz+j))=some u:=by
   refine⟨fun i=>if hi:i<len then (hx i hi).choose else default,fun i hi=>?_⟩
   simp only[hi,dif_pos]
   exact(hx i hi).choose_spec
  refine⟨(List.range len).map f,?_,fun x hx=>?_⟩
  ·unfold RepS;refine⟨fun r hr=>?_,some a,len,cap,rfl,by simp,hlc,hcm,fun hpos=>?_⟩
   ·obtain⟨x,-,rfl⟩:=List.mem_map.1 hr
    exact hF x
   ·have hpos:0<len:=by simpa using hpos
    obtain⟨u0,hu0⟩:∃u,(F (f 0))[0]? = some u:=⟨_,List.getElem?_eq_getElem (by rw[hF];exact h0)⟩
    have h00:=(hf 0 hpos).2 0 u0 hu0
    obtain⟨g,o,spt⟩:=a;have h01:W.cell? ⟨g,o,spt⟩=some u0:=by
     rw[Nat.zero_mul]at h00;simpa[Addr.add] using h00
    unfold World.cell? at h01
    cases hg:W.heap[g]? with
    | none=>rw[hg]at h01;simp at h01
    | some ob=>
     rw[hg]at h01;cases ob with
     | cells cur e fr=>
      cases spt with
      | some q=>simp at h01
      | none=>
       refine⟨g,o,cur,e,fr,rfl,hg,fun j u hj=>?_⟩
       obtain⟨i,r,row,h1,h2,h3⟩:=flat_inv (sz:=sz) (rows:=((List.range len).map f).map F) (fun r hr=>by
        obtain⟨x,-,rfl⟩:=List.mem_map.1 hr
        exact hF x) hj
       rw[List.getElem?_map,List.getElem?_map]at h1;have hi:i<len:=by
        by_cases hi:i<len
        ·exact hi
        ·rw[List.getElem?_eq_none (by simpa using hi)]at h1;simp at h1
       rw[List.getElem?_range hi]at h1;simp only[Option.map_some,Option.some.injEq]at h1
       subst h1;have h4:W.cell? ⟨g,o+(i*sz+r),none⟩=some u:=by
        have h5:=(hf i hi).2 r u h2
        rwa [show Addr.add ⟨g,o,none⟩ (i*sz+r)=⟨g,o+(i*sz+r),none⟩ from by
         unfold Addr.add;by_cases h0:i*sz+r=0
         ·rw[if_pos h0,h0];rfl
         ·rw[if_neg h0]]at h5
       unfold World.cell? at h4
       rw[hg]at h4;rw[h3];simpa using h4
     | _=>simp at h01
  ·obtain⟨i,hi,rfl⟩:=List.mem_map.1 hx
   exact(hf i (List.mem_range.1 hi)).1
theorem list3:∀cs:List Value,cs.length=3→∃a b c,cs=[a,b,c]
 | [a,b,c],_=>⟨a,b,c,rfl⟩
theorem list2:∀cs:List Value,cs.length=2→∃a b,cs=[a,b]
 | [a,b],_=>⟨a,b,rfl⟩
theorem read_val{n:Nat}{cs:List Value}{y:DataW H×List MemPlace}(h:DataW.trod en Tryz.prog W base sp held n 35 cs=some y):∃x:Val,cs=enc x∧(-9223372036854775808≤x.Num∧x.Num≤9223372036854775807):=by
 obtain⟨xs,k,-,-,hl,hxl,hf⟩:=DataW.trod_struct Tryz.underlying35 h
 have hl:cs.length=3:=hl.trans (by kernel_rfl)
 obtain⟨c0,c1,c2,rfl⟩:=list3 cs hl
 have e0:Tryz.prog.cellsOf 3=1:=by kernel_rfl
 have e1:Tryz.prog.cellsOf 2=1:=by kernel_rfl
 have e2:Tryz.prog.cellsOf 9=1:=by kernel_rfl
 have g0:DataW.trod en Tryz.prog W base sp held k 3 (([c0,c1,c2].drop 0).take (Tryz.prog.cellsOf 3))=xs[0]?:=hf 0 { name:= "Kind",type:=3,offset:=0,embedded:=false,tag:= "",pkgPath:= "",byteOffset:=0 } rfl
 have g1:DataW.trod en Tryz.prog W base sp held k 2 (([c0,c1,c2].drop 1).take (Tryz.prog.cellsOf 2))=xs[1]?:=hf 1 { name:= "Int",type:=2,offset:=1,embedded:=false,tag:= "",pkgPath:= "",byteOffset:=8 } rfl
 have g2:DataW.trod en Tryz.prog W base sp held k 9 (([c0,c1,c2].drop 2).take (Tryz.prog.cellsOf 9))=xs[2]?:=hf 2 { name:= "Word",type:=9,offset:=2,embedded:=false,tag:= "",pkgPath:= "",byteOffset:=16 } rfl
 rw[e0]at g0;rw[e1]at g1;rw[e2]at g2;have hxl:xs.length=3:=hxl
 rw[List.getElem?_eq_getElem (by omega)]at g0 g1 g2
 obtain⟨a,ha,-,-⟩:=DataW.trod_int Tryz.underlying3 g0
 obtain⟨b,hb,-,hw⟩:=DataW.trod_int Tryz.underlying2 g1
 obtain⟨s,hs,-,-⟩:=DataW.trod_string Tryz.underlying9 g2
 simp only[List.drop_zero,List.take_succ_cons,List.take_zero,List.drop_succ_cons,List.cons.injEq,and_true]at ha hb hs
 subst ha;subst hb;subst hs;refine⟨⟨a,b,s⟩,rfl,?_⟩
 simp only[Lit.wf,IntKind.min,IntKind.max,IntKind.bits,IntKind.signed]at hw
 simpa using hw
theorem read_vals{n:Nat}{v:Value}{y:DataW H×List MemPlace}(h:DataW.trod en Tryz.prog W base sp held n 23 [v]=some y):∃xs:List Val,RepS (allG W) v 3 (xs.map enc)∧∀x∈xs,(-9223372036854775808≤x.Num∧x.Num≤9223372036854775807):=
 read_slice (sz:=3) (e:=35) (by kernel_rfl) (by decide) (fun x=>rfl) Tryz.underlying23 (fun h=>read_val h) h
instance:Inhabited FactH:=⟨noF⟩
theorem read_fact{n:Nat}{cs:List Value}{y:DataW H×List MemPlace}(h:DataW.trod en Tryz.prog W base sp held n 25 cs=some y):∃f:FactH,cs=cF f∧(FOk (allG W) f∧FactIn f.fact):=by
 obtain⟨xs,k,-,-,hl,hxl,hf⟩:=DataW.trod_struct Tryz.underlying25 h
 have hl:cs.length=2:=hl.trans (by kernel_rfl)
 obtain⟨c0,c1,rfl⟩:=list2 cs hl
 have e0:Tryz.prog.cellsOf 9=1:=by kernel_rfl
 have e1:Tryz.prog.cellsOf 23=1:=by kernel_rfl
 have g0:DataW.trod en Tryz.prog W base sp held k 9 (([c0,c1].drop 0).take (Tryz.prog.cellsOf 9))=xs[0]?:=hf 0 { name:= "Relation",type:=9,offset:=0,embedded:=false,tag:= "",pkgPath:= "",byteOffset:=0 } rfl
 have g1:DataW.trod en Tryz.prog W base sp held k 23 (([c0,c1].drop 1).take (Tryz.prog.cellsOf 23))=xs[1]?:=hf 1 { name:= "Args",type:=23,offset:=1,embedded:=false,tag:= "",pkgPath:= "",byteOffset:=16 } rfl
 rw[e0]at g0;rw[e1]at g1;have hxl:xs.length=2:=hxl
 rw[List.getElem?_eq_getElem (by omega)]at g0 g1
 obtain⟨s,hs,-,-⟩:=DataW.trod_string Tryz.underlying9 g0
 simp only[List.drop_zero,List.take_succ_cons,List.take_zero,List.drop_succ_cons,List.cons.injEq,and_true]at hs g1
 subst hs;obtain⟨vs,hr,hin⟩:=read_vals g1
 obtain⟨a,m,c,rfl,-⟩:=hr.shape;exact⟨⟨s,a,m,c,vs⟩,rfl,hr,hin⟩
theorem read_facts{n:Nat}{v:Value}{y:DataW H×List MemPlace}(h:DataW.trod en Tryz.prog W base sp held n 22 [v]=some y):∃fs:List FactH,RepS (allG W) v 2 (fs.map cF)∧FsIn (allG W) fs:=
 read_slice (sz:=2) (e:=25) (by kernel_rfl) (by decide) (fun x=>rfl) Tryz.underlying22 (fun h=>read_fact h) h
theorem list4:∀cs:List Value,cs.length=4→∃a b c d,cs=[a,b,c,d]
 | [a,b,c,d],_=>⟨a,b,c,d,rfl⟩
theorem list15:∀cs:List Value,cs.length=15→∃a0 a1 a2 a3 a4 a5 a6 a7 a8 a9 a10 a11 a12 a13 a14,cs=[a0,a1,a2,a3,a4,a5,a6,a7,a8,a9,a10,a11,a12,a13,a14]
 | [a0,a1,a2,a3,a4,a5,a6,a7,a8,a9,a10,a11,a12,a13,a14],_=>⟨a0,a1,a2,a3,a4,a5,a6,a7,a8,a9,a10,a11,a12,a13,a14,rfl⟩
theorem read_string{n:Nat}{cs:List Value}{y:DataW H×List MemPlace}(h:DataW.trod en Tryz.prog W base sp held n 9 cs=some y):∃x:ByteArray,cs=[.string x]∧True:=by
 obtain⟨s,hs,-,-⟩:=DataW.trod_string Tryz.underlying9 h
 exact⟨s,hs,trivial⟩
theorem read_strs{n:Nat}{v:Value}{y:DataW H×List MemPlace}(h:DataW.trod en Tryz.prog W base sp held n 26 [v]=some y):∃xs:List ByteArray,RepS (allG W) v 1 (strRows xs):=by
 obtain⟨xs,h1,-⟩:=read_slice (F:=fun s:ByteArray=>[Value.string s]) (p:=fun _=>True) (sz:=1) (e:=9) (by kernel_rfl) (by decide) (fun x=>rfl) Tryz.underlying26 (fun h=>read_string h) h
 exact⟨xs,h1⟩
theorem read_opd{n:Nat}{cs:List Value}{y:DataW H×List MemPlace}(h:DataW.trod en Tryz.prog W base sp held n 37 cs=some y):∃x:Opd,cs=enc x∧I64 x.Const.Num:=by
 obtain⟨xs,k,-,-,hl,hxl,hf⟩:=DataW.trod_struct Tryz.underlying37 h
 have hl:cs.length=4:=hl.trans (by kernel_rfl)
 obtain⟨c0,c1,c2,c3,rfl⟩:=list4 cs hl
 have e0:Tryz.prog.cellsOf 9=1:=by kernel_rfl
 have e1:Tryz.prog.cellsOf 35=3:=by kernel_rfl
 have q0:=hf 0 _ rfl
 have q1:=hf 1 _ rfl
 have g0:DataW.trod en Tryz.prog W base sp held k 9 (([c0,c1,c2,c3].drop 0).take (Tryz.prog.cellsOf 9))=xs[0]?:=q0
 have g1:DataW.trod en Tryz.prog W base sp held k 35 (([c0,c1,c2,c3].drop 1).take (Tryz.prog.cellsOf 35))=xs[1]?:=q1
 rw[e0]at g0;rw[e1]at g1;have hxl:xs.length=2:=hxl
 rw[List.getElem?_eq_getElem (by omega)]at g0 g1
 obtain⟨s,hs,-,-⟩:=DataW.trod_string Tryz.underlying9 g0
 obtain⟨v,hv,hn⟩:=read_val g1
 simp only[List.drop_zero,List.take_succ_cons,List.take_zero,List.drop_succ_cons,List.cons.injEq,and_true]at hs hv
 subst hs;obtain⟨vk,vn,vw⟩:=v;refine⟨⟨s,⟨vk,vn,vw⟩⟩,?_,hn⟩
 have hv:[c1,c2,c3]=[Value.int .i64 vk,.int .i64 vn,.string vw]:=hv
 show Value.string s::[c1,c2,c3]=_
 rw[hv];rfl
theorem read_opds{n:Nat}{v:Value}{y:DataW H×List MemPlace}(h:DataW.trod en Tryz.prog W base sp held n 33 [v]=some y):∃xs:List Opd,RepS (allG W) v 4 (xs.map enc)∧∀x∈xs,I64 x.Const.Num:=
 read_slice (sz:=4) (e:=37) (by kernel_rfl) (by decide) (fun x=>rfl) Tryz.underlying33 (fun h=>read_opd h) h
theorem read_i64{n:Nat}{c:Value}{y:DataW H×List MemPlace}(h:DataW.trod en Tryz.prog W base sp held n 2 [c]=some y):∃b:Int,c=.int .i64 b∧I64 b:=by
 obtain⟨b,hb,-,hw⟩:=DataW.trod_int Tryz.underlying2 h
 simp only[List.cons.injEq,and_true]at hb
 refine⟨b,hb,?_⟩
 simp only[Lit.wf,IntKind.min,IntKind.max,IntKind.bits,IntKind.signed]at hw
 unfold I64;simpa using hw
theorem read_int1{n:Nat}{c:Value}{y:DataW H×List MemPlace}(h:DataW.trod en Tryz.prog W base sp held n 3 [c]=some y):∃b:Int,c=.int .i64 b:=by
 obtain⟨b,hb,-,hw⟩:=DataW.trod_int Tryz.underlying3 h
 simp only[List.cons.injEq,and_true]at hb
 exact⟨b,hb⟩
def GoalIn(g:Goal):Prop:=I64 g.Off∧I64 g.Low∧I64 g.High∧I64 g.L.Const.Num∧I64 g.R.Const.Num∧∀o∈g.Args,I64 o.Const.Num
set_option maxHeartbeats 4000000 in
theorem read_goal{n:Nat}{cs:List Value}{y:DataW H×List MemPlace}(h:DataW.trod en Tryz.prog W base sp held n 39 cs=some y):∃x:GoalH,cs=cG x∧GOk (allG W) x∧GoalIn x.g:=by
 obtain⟨xs,k,-,-,hl,hxl,hf⟩:=DataW.trod_struct Tryz.underlying39 h
 have hl:cs.length=15:=hl.trans (by kernel_rfl)
 obtain⟨c0,c1,c2,c3,c4,c5,c6,c7,c8,c9,c10,c11,c12,c13,c14,rfl⟩:=list15 cs hl
 have e0:Tryz.prog.cellsOf 3=1:=by kernel_rfl
 have e1:Tryz.prog.cellsOf 9=1:=by kernel_rfl
 have e2:Tryz.prog.cellsOf 33=1:=by kernel_rfl
 have e3:Tryz.prog.cellsOf 37=4:=by kernel_rfl
 have e4:Tryz.prog.cellsOf 2=1:=by kernel_rfl
 have q0:=hf 0 _ rfl
 have g0:DataW.trod en Tryz.prog W base sp held k 3 (([c0,c1,c2,c3,c4,c5,c6,c7,c8,c9,c10,c11,c12,c13,c14].drop 0).take (Tryz.prog.cellsOf 3))=xs[0]?:=q0
 have q1:=hf 1 _ rfl
 have g1:DataW.trod en Tryz.prog W base sp held k 9 (([c0,c1,c2,c3,c4,c5,c6,c7,c8,c9,c10,c11,c12,c13,c14].drop 1).take (Tryz.prog.cellsOf 9))=xs[1]?:=q1
 have q2:=hf 2 _ rfl
 have g2:DataW.trod en Tryz.prog W base sp held k 33 (([c0,c1,c2,c3,c4,c5,c6,c7,c8,c9,c10,c11,c12,c13,c14].drop 2).take (Tryz.prog.cellsOf 33))=xs[2]?:=q2
 have q3:=hf 3 _ rfl
 have g3:DataW.trod en Tryz.prog W base sp held k 3 (([c0,c1,c2,c3,c4,c5,c6,c7,c8,c9,c10,c11,c12,c13,c14].drop 3).take (Tryz.prog.cellsOf 3))=xs[3]?:=q3
 have q4:=hf 4 _ rfl
 have g4:DataW.trod en Tryz.prog W base sp held k 37 (([c0,c1,c2,c3,c4,c5,c6,c7,c8,c9,c10,c11,c12,c13,c14].drop 4).take (Tryz.prog.cellsOf 37))=xs[4]?:=q4
 have q5:=hf 5 _ rfl
 have g5:DataW.trod en Tryz.prog W base sp held k 37 (([c0,c1,c2,c3,c4,c5,c6,c7,c8,c9,c10,c11,c12,c13,c14].drop 8).take (Tryz.prog.cellsOf 37))=xs[5]?:=q5
 have q6:=hf 6 _ rfl
 have g6:DataW.trod en Tryz.prog W base sp held k 2 (([c0,c1,c2,c3,c4,c5,c6,c7,c8,c9,c10,c11,c12,c13,c14].drop 12).take (Tryz.prog.cellsOf 2))=xs[6]?:=q6
 have q7:=hf 7 _ rfl
 have g7:DataW.trod en Tryz.prog W base sp held k 2 (([c0,c1,c2,c3,c4,c5,c6,c7,c8,c9,c10,c11,c12,c13,c14].drop 13).take (Tryz.prog.cellsOf 2))=xs[7]?:=q7
 have q8:=hf 8 _ rfl
 have g8:DataW.trod en Tryz.prog W base sp held k 2 (([c0,c1,c2,c3,c4,c5,c6,c7,c8,c9,c10,c11,c12,c13,c14].drop 14).take (Tryz.prog.cellsOf 2))=xs[8]?:=q8
 have hxl:xs.length=9:=hxl
 rw[e0,List.getElem?_eq_getElem (by omega)]at g0 g3
 rw[e1,List.getElem?_eq_getElem (by omega)]at g1
 rw[e2,List.getElem?_eq_getElem (by omega)]at g2
 rw[e3,List.getElem?_eq_getElem (by omega)]at g4 g5
 rw[e4,List.getElem?_eq_getElem (by omega)]at g6 g7 g8
 obtain⟨kd,rfl⟩:=read_int1 g0
 obtain⟨rs,hrs,-⟩:=read_string g1
 obtain⟨az,ha,hai⟩:=read_opds g2
 obtain⟨op,rfl⟩:=read_int1 g3
 obtain⟨⟨lv,lk,ln,lw⟩,hlo,hli⟩:=read_opd g4
 obtain⟨⟨rv,rk,rn,rx⟩,hro,hri⟩:=read_opd g5
 obtain⟨o6,rfl,i6⟩:=read_i64 g6
 obtain⟨o7,rfl,i7⟩:=read_i64 g7
 obtain⟨o8,rfl,i8⟩:=read_i64 g8
 have hlo2:[c4,c5,c6,c7]=[Value.string lv,.int .i64 lk,.int .i64 ln,.string lw]:=hlo
 have hro2:[c8,c9,c10,c11]=[Value.string rv,.int .i64 rk,.int .i64 rn,.string rx]:=hro
 have hrs2:[c1]=[Value.string rs]:=hrs
 clear hlo hro hrs q0 q1 q2 q3 q4 q5 q6 q7 q8 g0 g1 g3 g4 g5 g6 g7 g8 hf hl h;simp only[List.cons.injEq,and_true]at hlo2 hro2 hrs2
 obtain⟨rfl,rfl,rfl,rfl⟩:=hlo2;obtain⟨rfl,rfl,rfl,rfl⟩:=hro2;subst hrs2;obtain⟨aa,an,ac,rfl,-⟩:=RepS.shape ha
 exact⟨⟨⟨kd,rs,az,op,⟨lv,lk,ln,lw⟩,⟨rv,rk,rn,rx⟩,o6,o7,o8⟩,aa,an,ac⟩,rfl,ha,i6,i7,i8,hli,hri,hai⟩
instance:Inhabited GoalH:=⟨⟨⟨0,⟨#[]⟩,[],0,zOpd,zOpd,0,0,0⟩,none,0,0⟩⟩
theorem read_goals{n:Nat}{v:Value}{y:DataW H×List MemPlace}(h:DataW.trod en Tryz.prog W base sp held n 27 [v]=some y):∃gs:List GoalH,RepS (allG W) v 15 (gs.map cG)∧∀x∈gs,GOk (allG W) x∧GoalIn x.g:=
 read_slice (sz:=15) (e:=39) (by kernel_rfl) (by decide) (fun x=>rfl) Tryz.underlying27 (fun h=>read_goal h) h
set_option maxRecDepth 100000 in
theorem read_queryV{r:Reach}{b:Nat}{v:Value}{d:DataW H}{pl:List MemPlace}(hk:Value.okWide Tryz.prog W r b 29 v)(h:DataW.Trod en Tryz.prog W base sp held 29 v d pl):∃(vs vg:Value) (gs:List GoalH) (q:Query),v=.agg #[vs,vg]∧QR (allG W) vs vg gs q∧QueryIn q:=by
 obtain⟨⟨cs⟩,rfl,-⟩:=okWide_struct Tryz.underlying29 hk
 obtain⟨n,h⟩:=h;have h:DataW.trod en Tryz.prog W base sp held n 29 cs=some (d,pl):=h
 obtain⟨xs,k,-,-,hl,hxl,hf⟩:=DataW.trod_struct Tryz.underlying29 h
 have hl:cs.length=2:=hl.trans (by kernel_rfl)
 obtain⟨c0,c1,rfl⟩:=list2 cs hl
 have e0:Tryz.prog.cellsOf 26=1:=by kernel_rfl
 have e1:Tryz.prog.cellsOf 27=1:=by kernel_rfl
 have q0:=hf 0 _ rfl
 have q1:=hf 1 _ rfl
 have g0:DataW.trod en Tryz.prog W base sp held k 26 (([c0,c1].drop 0).take (Tryz.prog.cellsOf 26))=xs[0]?:=q0
 have g1:DataW.trod en Tryz.prog W base sp held k 27 (([c0,c1].drop 1).take (Tryz.prog.cellsOf 27))=xs[1]?:=q1
 rw[e0]at g0;rw[e1]at g1;have hxl:xs.length=2:=hxl
 rw[List.getElem?_eq_getElem (by omega)]at g0 g1
 obtain⟨ss,hs⟩:=read_strs g0
 obtain⟨gs,hg,hgo⟩:=read_goals g1
 refine⟨c0,c1,gs,⟨ss,gs.map (·.g)⟩,rfl,⟨hs,hg,rfl,fun x hx=>(hgo x hx).1⟩,⟨fun g hg'=>?_⟩⟩
 obtain⟨x,hx,rfl⟩:=List.mem_map.1 hg'
 exact(hgo x hx).2
theorem carry_all(hk:Wd (allG W) S W'):∀ {ts:List TypeId} {vs:List Value} {ds:List (DataW H)} {ps:List MemPlace},DataW.TrodAll en Tryz.prog W base sp held ts vs ds ps→(∀p∈ps,p.block<W.heap.size)→DataW.TrodAll en Tryz.prog W' base sp held ts vs ds ps
 | [],[],[],_,h,_=>h
 | _::_,_::_,_::_,_,⟨p,q,⟨n,h1⟩,h2,e⟩,hs=>⟨p,q,⟨n,DataW.trod_carry n _ _ _ h1 fun x hx=>by
   have hb:=hs x (by rw[e];exact List.mem_append_left _ hx)
   cases x with
   | cell b off=>
    have h3:W'.heap[b]? = W.heap[b]?:=by
     have h4:W.heap[b]? = some (W.heap[b]'hb):=Array.getElem?_eq_getElem hb
     rw[h4];exact hk.imm b _ h4
    show W'.cell? _=W.cell? _
    unfold World.cell?
    rw[h3]
   | map b=>
    have h4:W.heap[b]? = some (W.heap[b]'hb):=Array.getElem?_eq_getElem hb
    show W'.heap[b]? = W.heap[b]?
    rw[h4];exact hk.imm b _ h4⟩,carry_all hk h2 (fun x hx=>hs x (by rw[e];exact List.mem_append_right _ hx)),e⟩
end
theorem own_kids:Kids Tryz.prog (· < Tryz.prog.types.size):=kids_rows (by kernel_rfl) (by kernel_rfl)
theorem own_full:∀t e,t<Tryz.prog.types.size→Tryz.prog.underlying t=some (.slice e)→0<Tryz.prog.cellsOf e:=slices_full_of _ (by kernel_rfl)
end Go.Proofs.YtjkepmmcajbdhaaGreat
end
section
open Go Mk
namespace Go.Proofs.YtjkepmmcajbdhaaGreat
set_option maxHeartbeats 16000000
attribute [local irreducible] Calls cI cB
def tokQ(toks:List Tok)(k:Nat):Tok:=toks.getD k default
def isQ(toks:List Tok)(k:Nat)(kind:Int)(text:ByteArray):Bool:=decide ((tokQ toks k).Kind=kind)&&decide ((tokQ toks k).Text=text)
def parQ(bp:Nat)(a:Option Addr)(n c at':Nat)(e1 e2:Int):Res:=.blk bp (.cells #[.slice a n c,.int .i64 at',.int .i64 e1,.int .i64 e2] 120)
section
variable {Γ:Gho}{S:List Res}{w:World}{bp:Nat}{a:Option Addr}{n c at':Nat}{e1 e2:Int}{toks:List Tok}
theorem Token_q(j:Nat)(hj:j≤1)(hat:at'≤n)(hN:toks.length≤1000000)(ht:RepS Γ (.slice a n c) 5 (toks.map enc))(hw:Wd Γ (parQ bp a n c at' e1 e2::S) w) :
  Calls Tryz.prog 139 #[.pointer (some ⟨bp,0,none⟩),.int .i64 j] w fun r w'=>r=.returned (.agg (enc (tokQ toks (at'+j))).toArray)∧Wd Γ (parQ bp a n c at' e1 e2::S) w':=by
 have hn:n=toks.length∧n≤c∧c≤9223372036854775807:=by obtain⟨_,_,_,h1,h2,h3⟩:=ht.shape;cases h1;exact⟨by simpa using h2,h3⟩
 obtain⟨hn,hnc,hc⟩:=hn;unfold parQ at *
 refine calls_of_WC Tryz.func139 rfl rfl ?_
 repeat first|refine byW ?_|refine byV ?_;intro w hw
 refine lAlloc ?_;intro b4 w hw;have hw:Wd Γ (.blk b4 (.cells (enc (default:Tok)).toArray 136)::.blk bp (.cells #[.slice a n c,.int .i64 at',.int .i64 e1,.int .i64 e2] 120)::S) w:=hw
 repeat first|refine byW ?_|refine byV ?_;intro w hw
 refine W_quiet (by kernel_rfl) (by kernel_rfl) hw ?_
 refine byQ ?_;intro w hw;refine W_cond rfl (fun h=>?_) (fun h=>?_)
 ·have h:at'+j<n:=by have:=of_decide_eq_true h;omega
  obtain⟨t,htk⟩:=get_lt (l:=toks) (k:=at'+j) (by omega)
  have hT:tokQ toks (at'+j)=t:=by unfold tokQ;rw[List.getD_eq_getElem?_getD,htk];rfl
  rw[hT];repeat first|refine byW ?_|refine byV ?_;intro w hw
  refine W_mixC [.blk bp (.cells #[.slice a n c,.int .i64 at',.int .i64 e1,.int .i64 e2] 120)] (.blk b4 (.cells (enc (default:Tok)).toArray 136)::S) [] [[],[],[],[],[],[],[],[],[],[],[],[],[0]] (hw.ps [1]) ?_
  refine byM ?_;refine mStepX (φ:=fun (_:Unit) _=>True) (R:=fun _=>.blk b4 (.cells (enc (default:Tok)).toArray 136)::S) (v:=undef) (T':=Unit) (fun _ _=>True) (fun _=>.blk b4 (.cells (enc t).toArray 136)::S) (fun t' g w Y _ hw=>s_store (i:=0) (inferInstance:TSz Tryz.prog 136 5).h hw rfl rfl rfl rfl (fun u hu=>(List.all_eq_true.1 (enc_one t)) u hu) rfl (Nat.le_refl 5) fun w' hw'=>⟨(),trivial,(fun _=>rfl),hw'⟩) ?_
  refine mEndX fun t' w g _ hw=>?_
  have hw:Wd Γ (.blk b4 (.cells (enc t).toArray 136)::.blk bp (.cells #[.slice a n c,.int .i64 at',.int .i64 e1,.int .i64 e2] 120)::S) w:=hw.flip.ps [1]
  repeat first|refine byW ?_|refine byV ?_;intro w hw
  exact⟨[.agg (enc t).toArray],⟨resC (i:=0) hw rfl rfl rfl,trivial⟩,rfl,hw.drop⟩
 ·have h:¬at'+j<n:=by have:=of_decide_eq_false h;omega
  have hT:tokQ toks (at'+j)=default:=by unfold tokQ;rw[List.getD_eq_getElem?_getD,List.getElem?_eq_none (by omega)];rfl
  rw[hT];repeat first|refine byW ?_|refine byV ?_;intro w hw
  refine lStore ?_;intro w hw;have hw:Wd Γ (.blk b4 (.cells (enc (default:Tok)).toArray 136)::.blk bp (.cells #[.slice a n c,.int .i64 at',.int .i64 e1,.int .i64 e2] 120)::S) w:=hw
  repeat first|refine byW ?_|refine byV ?_;intro w hw
  exact⟨[.agg (enc (default:Tok)).toArray],⟨resC (i:=0) hw rfl rfl rfl,trivial⟩,rfl,hw.drop⟩
theorem Is_q(j:Nat)(hj:j≤1)(kind:Int)(text:ByteArray)(hat:at'≤n)(hN:toks.length≤1000000)(ht:RepS Γ (.slice a n c) 5 (toks.map enc))(hw:Wd Γ (parQ bp a n c at' e1 e2::S) w) :
  Calls Tryz.prog 90 #[.pointer (some ⟨bp,0,none⟩),.int .i64 j,.int .i64 kind,.string text] w fun r w'=>r=.returned (.bool (isQ toks (at'+j) kind text))∧Wd Γ (parQ bp a n c at' e1 e2::S) w':=by
 refine calls_of_W Tryz.func90 rfl rfl ?_
 repeat first|refine byW ?_|refine byV ?_;intro w hw
 refine lCall (vs:=[.pointer (some ⟨bp,0,none⟩),.int .i64 j]) ?_
 refine(Token_q j hj hat hN ht hw).mono ?_
 clear hw;rintro r w ⟨rfl,hw⟩
 refine⟨_,rfl,?_⟩;repeat first|refine byW ?_|refine byV ?_;intro w hw
 refine lAlloc ?_;intro b9 w hw;refine lStore ?_;intro w hw;have hw:Wd Γ (.blk b9 (.cells (enc (tokQ toks (at'+j))).toArray 136)::parQ bp a n c at' e1 e2::S) w:=hw
 repeat first|refine byW ?_|refine byV ?_;intro w hw
 exact⟨_,rfl,ret_b rfl rfl,hw.drop⟩
theorem Accept_q(kind:Int)(text:ByteArray)(hat:at'≤n)(hN:toks.length≤1000000)(ht:RepS Γ (.slice a n c) 5 (toks.map enc))(hw:Wd Γ (parQ bp a n c at' e1 e2::S) w) :
  Calls Tryz.prog 92 #[.pointer (some ⟨bp,0,none⟩),.int .i64 kind,.string text] w fun r w'=>r=.returned (.bool (isQ toks at' kind text))∧Wd Γ (parQ bp a n c (if isQ toks at' kind text=true then at'+1 else at') e1 e2::S) w':=by
 have hn:n=toks.length:=by obtain⟨_,_,_,h1,h2,h3⟩:=ht.shape;cases h1;simpa using h2
 refine calls_of_W Tryz.func92 rfl rfl ?_
 repeat first|refine byW ?_|refine byV ?_;intro w hw
 refine lCall (vs:=[.pointer (some ⟨bp,0,none⟩),.int .i64 0,.int .i64 kind,.string text]) ?_
 refine(Is_q (j:=0) (by decide) kind text hat hN ht hw).mono ?_
 clear hw;rintro r w ⟨rfl,hw⟩
 rw[Nat.add_zero];refine⟨_,rfl,?_⟩;unfold parQ at *
 repeat first|refine byW ?_|refine byV ?_;intro w hw
 refine W_cutT (fun ρ w=>Has ρ [(7,.bool (isQ toks at' kind text))]∧Wd Γ (parQ bp a n c (if isQ toks at' kind text=true then at'+1 else at') e1 e2::S) w) ?_ ?_
 ·refine W_cond rfl (fun h=>?_) (fun h=>?_)
  ·rw[if_pos h];repeat first|refine byW ?_|refine byV ?_;intro w hw
   refine lStore (i:=0) ?_
   intro w hw;have hw:Wd Γ (parQ bp a n c (at'+1) e1 e2::S) w:=hw
   repeat first|refine byW ?_|refine byV ?_;intro w hw
   exact⟨⟨rfl,trivial⟩,hw⟩
  ·rw[if_neg (by rw[h];decide)]
   repeat first|refine byW ?_|refine byV ?_;intro w hw
   exact⟨⟨rfl,trivial⟩,hw⟩
 clear hw;rintro ρ w ⟨hρ,hw⟩
 rw[hρ.eq];repeat first|refine byW ?_|refine byV ?_;intro w hw
 exact⟨_,rfl,ret_b rfl rfl,hw⟩
theorem Expect_q(kind:Int)(text:ByteArray)(hi:isQ toks at' kind text=true)(hat:at'≤n)(hN:toks.length≤1000000)(ht:RepS Γ (.slice a n c) 5 (toks.map enc))(hw:Wd Γ (parQ bp a n c at' e1 e2::S) w) :
  Calls Tryz.prog 89 #[.pointer (some ⟨bp,0,none⟩),.int .i64 kind,.string text] w fun r w'=>r=.returned (.tuple #[])∧Wd Γ (parQ bp a n c (at'+1) e1 e2::S) w':=by
 refine calls_of_W Tryz.func89 rfl rfl ?_
 repeat first|refine byW ?_|refine byV ?_;intro w hw
 refine lCall (vs:=[.pointer (some ⟨bp,0,none⟩),.int .i64 kind,.string text]) ?_
 refine(Accept_q kind text hat hN ht hw).mono ?_
 clear hw;rintro r w ⟨rfl,hw⟩
 rw[if_pos hi]at hw;rw[hi];refine⟨_,rfl,?_⟩;repeat first|refine byW ?_|refine byV ?_;intro w hw
 refine W_cond rfl (fun h=>by cases h) (fun h=>?_)
 repeat first|refine byW ?_|refine byV ?_;intro w hw
 exact⟨_,rfl,rfl,hw⟩
theorem Word_q(hk:(tokQ toks at').Kind=1)(hr:kwS (tokQ toks at').Text=false)(hs:(tokQ toks at').Text.size≤24)(hat:at'≤n)(hN:toks.length≤1000000)(ht:RepS Γ (.slice a n c) 5 (toks.map enc))(hw:Wd Γ (parQ bp a n c at' e1 e2::S) w) :
  Calls Tryz.prog 91 #[.pointer (some ⟨bp,0,none⟩)] w fun r w'=>r=.returned (.string (tokQ toks at').Text)∧Wd Γ (parQ bp a n c (at'+1) e1 e2::S) w':=by
 have hn:n=toks.length:=by obtain⟨_,_,_,h1,h2,h3⟩:=ht.shape;cases h1;simpa using h2
 refine calls_of_W Tryz.func91 rfl rfl ?_
 repeat first|refine byW ?_|refine byV ?_;intro w hw
 refine lCall (vs:=[.pointer (some ⟨bp,0,none⟩),.int .i64 0]) ?_
 refine(Token_q (j:=0) (by decide) hat hN ht hw).mono ?_
 clear hw;rintro r w ⟨rfl,hw⟩
 rw[Nat.add_zero];refine⟨_,rfl,?_⟩;generalize tokQ toks at'=t at *
 repeat first|refine byW ?_|refine byV ?_;intro w hw
 refine lAlloc ?_;intro b3 w hw;refine lStore ?_;intro w hw;have hw:Wd Γ (.blk b3 (.cells (enc t).toArray 136)::.blk bp (.cells #[.slice a n c,.int .i64 at',.int .i64 e1,.int .i64 e2] 120)::S) w:=hw
 repeat first|refine byW ?_|refine byV ?_;intro w hw
 refine W_cond rfl (fun h=>?_) (fun h=>?_)
 ·rw[hk,hr]at h;cases h
 clear h;repeat first|refine byW ?_|refine byV ?_;intro w hw
 refine W_cond rfl (fun h=>?_) (fun h=>?_)
 ·have:=of_decide_eq_true h;omega
 clear h;repeat first|refine byW ?_|refine byV ?_;intro w hw
 refine lStore (i:=1) ?_
 intro w hw;have hw:Wd Γ (.blk b3 (.cells (enc t).toArray 136)::parQ bp a n c (at'+1) e1 e2::S) w:=hw
 repeat first|refine byW ?_|refine byV ?_;intro w hw
 exact⟨_,rfl,rfl,hw.drop⟩
structure VarQ(t:Tok):Prop where
 kind:t.Kind=1
 kw:kwS t.Text=false
 size:t.Text.size≤24
 pos:0<t.Text.size
 var:(decide (t.Text=⟨#[95]⟩)||(decide (65≤byteAt t.Text 0)&&decide (byteAt t.Text 0≤90)))=true
theorem Operand_q(hv:VarQ (tokQ toks at'))(hat:at'≤n)(hN:toks.length≤1000000)(ht:RepS Γ (.slice a n c) 5 (toks.map enc))(hw:Wd Γ (parQ bp a n c at' e1 e2::S) w) :
  Calls Tryz.prog 140 #[.pointer (some ⟨bp,0,none⟩)] w fun r w'=>r=.returned (.agg (enc (⟨(tokQ toks at').Text,zVal⟩:Opd)).toArray)∧Wd Γ (parQ bp a n c (at'+1) e1 e2::S) w':=by
 have hn:n=toks.length:=by obtain⟨_,_,_,h1,h2,h3⟩:=ht.shape;cases h1;simpa using h2
 refine calls_of_WC Tryz.func140 rfl rfl ?_
 repeat first|refine byW ?_|refine byV ?_;intro w hw
 refine lAlloc ?_;intro b2 w hw;have hw:Wd Γ (parQ bp a n c at' e1 e2::.blk b2 (.cells (enc (⟨noS,zVal⟩:Opd)).toArray 37)::S) w:=hw.ps [1]
 repeat first|refine byW ?_|refine byV ?_;intro w hw
 refine lCall (vs:=[.pointer (some ⟨bp,0,none⟩),.int .i64 0]) ?_
 refine(Token_q (j:=0) (by decide) hat hN ht hw).mono ?_
 clear hw;rintro r w ⟨rfl,hw⟩
 rw[Nat.add_zero];refine⟨_,rfl,?_⟩;have hWQ:=fun (S:List Res) (w:World) hw=>Word_q (S:=S) (w:=w) (e1:=e1) (e2:=e2) (bp:=bp) hv.kind hv.kw hv.size hat hN ht hw
 generalize tokQ toks at'=t at *
 repeat first|refine byW ?_|refine byV ?_;intro w hw
 refine lAlloc ?_;intro b3 w hw;refine lStore ?_;intro w hw;have hw:Wd Γ (parQ bp a n c at' e1 e2::.blk b2 (.cells (enc (⟨noS,zVal⟩:Opd)).toArray 37)::.blk b3 (.cells (enc t).toArray 136)::S) w:=hw.ps [2,2]
 repeat first|refine byW ?_|refine byV ?_;intro w hw
 refine W_cond rfl (fun _=>?_) (fun h=>absurd hv.kind (of_decide_eq_false h))
 repeat first|refine byW ?_|refine byV ?_;intro w hw
 refine lCall (vs:=[.pointer (some ⟨bp,0,none⟩)]) ?_
 refine(hWQ _ _ hw).mono ?_
 clear hw;rintro r w ⟨rfl,hw⟩
 refine⟨_,rfl,?_⟩;have hp0:=hv.pos
 repeat first|refine byW ?_|refine byV ?_;intro w hw
 refine W_cond rfl (fun h=>?_) (fun h=>?_)
 ·repeat first|refine byW ?_|refine byV ?_;intro w hw
  refine lStore (i:=1) ?_
  intro w hw;have hw:Wd Γ (.blk b2 (.cells (enc (⟨t.Text,zVal⟩:Opd)).toArray 37)::parQ bp a n c (at'+1) e1 e2::.blk b3 (.cells (enc t).toArray 136)::S) w:=hw.ps [1]
  repeat first|refine byW ?_|refine byV ?_;intro w hw
  exact⟨[.agg (enc (⟨t.Text,zVal⟩:Opd)).toArray],⟨resC (i:=0) hw rfl rfl rfl,trivial⟩,rfl,hw.drop.dropAt 1⟩
 ·exact absurd (hv.var.symm.trans h) (by decide)
end
end Go.Proofs.YtjkepmmcajbdhaaGreat
end
section
open Go Mk
namespace Go.Proofs.YtjkepmmcajbdhaaGreat
set_option maxHeartbeats 16000000
attribute [local irreducible] Calls cI cB
section
variable {P:Program}{n:Nat}{ops:List Oper}{Γ:Gho}{K:List Res}{wr tc stab:List (List Nat)}{Q:Fr→World→Prop}{i:Nat}{rest:List Oper}{ρ:Fr}{M:Nat→Fr→List Res}
variable {T T':Type}{ty:TypeId}{pos:String}{es:Array Edge}
theorem mCallV{c dd f:Nat}{args:List Operand}{tys:Array TypeId}{vs:List Value}{φ:T→Fr→Prop}{R:T→List Res}[FnOk P f](val:T'→Value)(R':T'→List Res)
  (hcall:∀t S w,Wd Γ (R t++S) w→Calls P f vs.toArray w fun e w'=>∃t':T',e=.returned (val t')∧Wd Γ (R' t'++S) w')
  (h:MSw (mV P n ops Γ K wr tc stab) Q (i+1) rest ⟨putO ρ (some dd) undef,setC M c (exC (fun (t:T') g=>g dd=val t) R')⟩)
  (hw0:wr.getD i []=[c]:=by exact rfl) (ht:tc.getD i []=[c]:=by exact rfl) (hM:M c=exC φ R:=by first|exact setC_self|exact ml1|exact ml2|exact((setC_other (by decide)).trans setC_self)|exact((setC_other (by decide)).trans ml2)|exact rfl)
  (hs:(stab.getD c []).contains dd=true:=by exact rfl) (hfr:freeD stab (some dd)=true:=by exact rfl) (ha:∀g,EvL (ovr stab.flatten g ρ) args vs:=by intro g;exact byEV) :
  MSw (mV P n ops Γ K wr tc stab) Q i (⟨some dd,.call { callee:=.value (.func f),args:=args.toArray,argTypes:=tys },ty,pos,es,none⟩::rest) ⟨ρ,M⟩:=
 mS (v:=undef) (exC (fun (t:T') g=>g dd=val t) R') (fun g w Y hw=>by
  obtain⟨t,-,hw⟩:=exC_open hw
  refine s_call (ha g).eqA ((hcall t _ _ hw).mono ?_)
  rintro e w' ⟨t',rfl,hw'⟩
  refine⟨_,rfl,fun hh=>(by rw[hfr]at hh;cases hh),exC_mk t' ?_ hw'⟩
  rw[ovr_in (by simpa using hs)];exact upd_same _ _ _) h hM hw0 ht rfl
end
theorem y_fieldV{P:Program}{d:Option Tmp}{T f:Nat}{x:Operand}{ty:TypeId}{pos:String}{es:Array Edge}{g:Option (Nat×Bool)}{ρ:Fr}{w:World}{cs:Array Value}{v:Value}{fs:Array Field}{fd:Field}(hu:P.underlying T=some (.struct fs))(hf:fs[f]? = some fd)(hs:scal P fd.type=true)(hc:cs[fd.offset]? = some v)(hx:ev ρ x=.agg cs) :
  Mk.Yields P ⟨d,.field T x f,ty,pos,es,g⟩ ρ w v:=by
 unfold Mk.Yields;simp[execOp,go_sem,hx,Instr.field,run_underlying hu,hf,part,scal_isAgg hs,hc,asAgg]
theorem gv_on{c:Bool}{v:Value}(h:c=true):gv c v=v:=gvT h rfl
def commaQ:ByteArray:=⟨#[44]⟩
def lparQ:ByteArray:=⟨#[40]⟩
def rparQ:ByteArray:=⟨#[41]⟩
def notQ:ByteArray:=⟨#[110,111,116]⟩
def zOp:Opd:=⟨noS,zVal⟩
def relG(s:ByteArray)(os:List Opd):Goal:=⟨1,s,os,0,zOp,zOp,0,0,0⟩
def varsQ(toks:List Tok)(k m:Nat):List Opd:=(List.range m).map fun i=>⟨(tokQ toks (k+2*i)).Text,zVal⟩
theorem varsQ_succ{toks:List Tok}{k m:Nat}:varsQ toks k (m+1)=varsQ toks k m++[⟨(tokQ toks (k+2*m)).Text,zVal⟩]:=by
 unfold varsQ;rw[List.range_succ,List.map_append];rfl
theorem varsQ_rows{toks:List Tok}{p:Nat}(k:Nat):(varsQ toks p k).map enc++[enc (⟨(tokQ toks (p+2*k)).Text,zVal⟩:Opd)]=(varsQ toks p (k+1)).map enc:=by rw[varsQ_succ,List.map_append];rfl
structure RelQ(toks:List Tok)(k m:Nat):Prop where
 kind:(tokQ toks k).Kind=1
 kw:kwS (tokQ toks k).Text=false
 size:(tokQ toks k).Text.size≤24
 lpar:isQ toks (k+1) 4 lparQ=true
 one:1≤m
 many:m≤1000
 vars:∀i,i<m→VarQ (tokQ toks (k+2+2*i))
 comma:∀i,i+1<m→isQ toks (k+3+2*i) 4 commaQ=true
 last:isQ toks (k+1+2*m) 4 commaQ=false
 rpar:isQ toks (k+1+2*m) 4 rparQ=true
section
variable {Γ:Gho}{S:List Res}{w:World}{bp:Nat}{a:Option Addr}{n c at':Nat}{e1 e2:Int}{toks:List Tok}
theorem Goal_q{m:Nat}(hr:RelQ toks at' m)(hat:at'+2*m+2≤n)(hN:toks.length≤1000000)(ht:RepS Γ (.slice a n c) 5 (toks.map enc))(hw:Wd Γ (parQ bp a n c at' e1 e2::S) w) :
  Calls Tryz.prog 93 #[.pointer (some ⟨bp,0,none⟩)] w fun r w'=>∃v:SlT,r=.returned (.agg (cG ⟨relG (tokQ toks at').Text (varsQ toks (at'+2) m),v.1,v.2.1,v.2.2⟩).toArray)∧Wd Γ (.own (slV v) 37 4 ((varsQ toks (at'+2) m).map enc)::parQ bp a n c (at'+2*m+2) e1 e2::S) w':=by
 have hn:n=toks.length:=by obtain⟨_,_,_,h1,h2,h3⟩:=ht.shape;cases h1;simpa using h2
 have hnot:isQ toks at' 1 notQ=false:=by
  unfold isQ;rw[Bool.and_eq_false_iff];refine Or.inr (decide_eq_false fun e=>?_)
  have:=hr.kw
  rw[e]at this;exact absurd this (by decide)
 refine calls_of_WC Tryz.func93 rfl rfl ?_
 repeat first|refine byW ?_|refine byV ?_;intro w hw
 refine lAlloc ?_;intro b2 w hw;repeat first|refine byW ?_|refine byV ?_;intro w hw
 refine lAlloc ?_;intro b3 w hw;refine lStore ?_;intro w hw;have hw:Wd Γ (parQ bp a n c at' e1 e2::.blk b3 (.cells (cG ⟨relG noS [],none,0,0⟩).toArray 39)::.blk b2 (.cells (cG ⟨⟨0,noS,[],0,zOp,zOp,0,0,0⟩,none,0,0⟩).toArray 39)::S) w:=hw.ps [2]
 repeat first|refine byW ?_|refine byV ?_;intro w hw
 refine lCall (vs:=[.pointer (some ⟨bp,0,none⟩),.int .i64 1,.string notQ]) ?_
 refine(Accept_q 1 notQ (by omega) hN ht hw).mono ?_
 clear hw;rintro r w ⟨rfl,hw⟩
 rw[hnot]at hw ⊢
 have hw:Wd Γ (parQ bp a n c at' e1 e2::.blk b3 (.cells (cG ⟨relG noS [],none,0,0⟩).toArray 39)::.blk b2 (.cells (cG ⟨⟨0,noS,[],0,zOp,zOp,0,0,0⟩,none,0,0⟩).toArray 39)::S) w:=hw
 refine⟨_,rfl,?_⟩;repeat first|refine byW ?_|refine byV ?_;intro w hw
 refine W_cond rfl (fun h=>by cases h) (fun _=>?_)
 repeat first|refine byW ?_|refine byV ?_;intro w hw
 refine lGT (hct:=by decide) ?_
 refine lCall (vs:=[.pointer (some ⟨bp,0,none⟩),.int .i64 0]) ?_ (ha:=EvL.cons (gv_on (by decide)) (EvL.cons rfl EvL.nil))
 refine(Token_q (j:=0) (by decide) (by omega) hN ht hw).mono ?_
 clear hw;rintro r w ⟨rfl,hw⟩
 rw[Nat.add_zero];refine⟨_,rfl,?_⟩;repeat first|refine byW ?_|refine byV ?_;intro w hw
 refine lG ?_ (hv:=by intro hc;exact y_fieldV Tryz.underlying136 rfl (by kernel_rfl) rfl rfl)
 repeat first|refine byW ?_|refine byV ?_;intro w hw
 have hkc:(!decide ((1:Int)=2)&&decide ((tokQ toks at').Kind=1))=true:=by rw[decide_eq_true hr.kind];decide
 refine lGT (hct:=hkc) ?_
 refine lCall (vs:=[.pointer (some ⟨bp,0,none⟩),.int .i64 1,.int .i64 4,.string lparQ]) ?_ (ha:=EvL.cons (gv_on hkc) (EvL.cons rfl (EvL.cons rfl (EvL.cons rfl EvL.nil))))
 refine(Is_q (j:=1) (by decide) 4 lparQ (by omega) hN ht hw).mono ?_
 clear hw;rintro r w ⟨rfl,hw⟩
 rw[hr.lpar];refine⟨_,rfl,?_⟩;repeat first|refine byW ?_|refine byV ?_;intro w hw
 refine lGT (hct:=by decide) ?_
 refine lY (v:=.bool true) ?_ (hy:=y_pickT ((gv_on (by decide)).trans (by rw[decide_eq_true hr.kind])) rfl)
 refine lY (v:=.bool true) ?_ (hy:=y_pickF (congrArg Value.bool (by decide)) rfl)
 repeat first|refine byW ?_|refine byV ?_;intro w hw
 refine W_cond rfl (fun _=>?_) (fun h=>by cases h)
 repeat first|refine byW ?_|refine byV ?_;intro w hw
 refine lCall (vs:=[.pointer (some ⟨bp,0,none⟩)]) ?_
 refine(Word_q hr.kind hr.kw hr.size (by omega) hN ht hw).mono ?_
 clear hw;rintro r w ⟨rfl,hw⟩
 refine⟨_,rfl,?_⟩;have hops:=hr.vars
 generalize (tokQ toks at').Text=nm at *
 repeat first|refine byW ?_|refine byV ?_;intro w hw
 refine lStore (i:=1) ?_
 intro w hw;have hw:Wd Γ (parQ bp a n c (at'+1) e1 e2::.blk b3 (.cells (cG ⟨relG nm [],none,0,0⟩).toArray 39)::.blk b2 (.cells (cG ⟨⟨0,noS,[],0,zOp,zOp,0,0,0⟩,none,0,0⟩).toArray 39)::S) w:=hw
 repeat first|refine byW ?_|refine byV ?_;intro w hw
 refine lCall (vs:=[.pointer (some ⟨bp,0,none⟩),.int .i64 4,.string lparQ]) ?_
 refine(Expect_q 4 lparQ hr.lpar (by omega) hN ht hw).mono ?_
 clear hw;rintro r w ⟨rfl,hw⟩
 refine⟨_,rfl,?_⟩;repeat first|refine byW ?_|refine byV ?_;intro w hw
 have hw:=Wd.addNil (a:=none) (E:=37) (sz:=4) hw
 have hw:Wd Γ (.own (.slice none 0 0) 37 4 ((varsQ toks (at'+2) 0).map enc)::parQ bp a n c (at'+2+2*0) e1 e2::.blk b3 (.cells (cG ⟨relG nm (varsQ toks (at'+2) 0),none,0,0⟩).toArray 39)::.blk b2 (.cells (cG ⟨⟨0,noS,[],0,zOp,zOp,0,0,0⟩,none,0,0⟩).toArray 39)::S) w:=hw
 have hm1:=hr.one
 have hop:VarQ (tokQ toks (at'+2+2*0)):=hr.vars 0 (by omega)
 refine W_mixD [.blk b2 (.cells (cG ⟨⟨0,noS,[],0,zOp,zOp,0,0,0⟩,none,0,0⟩).toArray 39)] [.blk b3 (.cells (cG ⟨relG nm (varsQ toks (at'+2) 0),none,0,0⟩).toArray 39)] (.own (.slice none 0 0) 37 4 ((varsQ toks (at'+2) 0).map enc)::parQ bp a n c (at'+2+2*0) e1 e2::S) [] [32,33,34] [] [[],[],[],[1],[1],[1],[],[0,1]] [[],[0],[],[1],[1],[1],[],[0,1]] (by rw[List.append_nil];exact hw.ps [2,3]) ?_
 repeat(first|refine mY ?_|refine mP ?_|refine mEndAt ?_|refine mEnd0 ?_|refine mEnd ?_)
 refine mCallV (c:=1) (T:=Unit) (T':=Unit) (vs:=[.pointer (some ⟨bp,0,none⟩)]) (fun _=>.agg (enc (⟨(tokQ toks (at'+2+2*0)).Text,zVal⟩:Opd)).toArray) (fun _=>parQ bp a n c (at'+2+2*0+1) e1 e2::.own (.slice none 0 0) 37 4 ((varsQ toks (at'+2) 0).map enc)::S) (R:=fun _=>.own (.slice none 0 0) 37 4 ((varsQ toks (at'+2) 0).map enc)::parQ bp a n c (at'+2+2*0) e1 e2::S) (fun _ Y w hw=>(Operand_q hop (by omega) hN ht (hw.ps [1]:Wd Γ (parQ bp a n c (at'+2+2*0) e1 e2::(.own (.slice none 0 0) 37 4 ((varsQ toks (at'+2) 0).map enc)::(S++Y))) w)).mono fun r w h=>⟨(),h.1,h.2⟩) ?_
 refine mBuildX (T:=Unit) (fun _=>[enc (⟨(tokQ toks (at'+2+2*0)).Text,zVal⟩:Opd)]) ?_ ?_
 rotate_left
 ·intro t g h;have h2:g 32=_:=h
  show fillL _ _ [(0,g 32)]=_
  rw[h2];rfl
 refine mAppX (T:=Unit×Addr) (j:=2) (j2:=0) (fun t=>some t.2) (fun _=>[enc (⟨(tokQ toks (at'+2+2*0)).Text,zVal⟩:Opd)]) ?_ ?_
 rotate_left
 ·intro t g h;exact h.2
 refine byM ?_;refine mJoinX (T:=(Unit×Addr)×Value) (j:=2) (val:=fun t=>t.2) ?_ ?_
 rotate_left
 ·intro t g h;exact h.2
 refine mEndD fun t w g h hw=>?_
 obtain⟨⟨⟨⟩,aB⟩,vv⟩:=t;have hw:Wd Γ (.blk b3 (.cells #[.int .i64 1,.string nm,vv,.int .i64 0,.string noS,.int .i64 0,.int .i64 0,.string noS,.string noS,.int .i64 0,.int .i64 0,.string noS,.int .i64 0,.int .i64 0,.int .i64 0] 39)::.own (.slice (some aB) 1 1) 37 4 [enc (⟨(tokQ toks (at'+2+2*0)).Text,zVal⟩:Opd)]::parQ bp a n c (at'+2+2*0+1) e1 e2::.own vv 37 4 (((varsQ toks (at'+2) 0).map enc)++[enc (⟨(tokQ toks (at'+2+2*0)).Text,zVal⟩:Opd)])::(S++[.blk b2 (.cells (cG ⟨⟨0,noS,[],0,zOp,zOp,0,0,0⟩,none,0,0⟩).toArray 39)])) w:=hw
 obtain⟨A2,N2,C2,rfl,hN2,hNC2,hC2⟩:=hw.own_shape (i:=3) rfl
 rw[show ((varsQ toks (at'+2) 0).map enc)++[enc (⟨(tokQ toks (at'+2+2*0)).Text,zVal⟩:Opd)]=(varsQ toks (at'+2) (0+1)).map enc from varsQ_rows _]at hw hN2
 have hw:Wd Γ (.blk b2 (.cells (cG ⟨⟨0,noS,[],0,zOp,zOp,0,0,0⟩,none,0,0⟩).toArray 39)::.blk b3 (.cells (cG ⟨relG nm (varsQ toks (at'+2) (0+1)),A2,N2,C2⟩).toArray 39)::parQ bp a n c (at'+2+2*0+1) e1 e2::.own (.slice A2 N2 C2) 37 4 ((varsQ toks (at'+2) (0+1)).map enc)::S) w:=(hw.dropAt 1).perm byPM
 have hw:Wd Γ (.own (.slice A2 N2 C2) 37 4 ((varsQ toks (at'+2) (0+1)).map enc)::parQ bp a n c (at'+2+2*0+1) e1 e2::.blk b3 (.cells (cG ⟨relG nm (varsQ toks (at'+2) (0+1)),A2,N2,C2⟩).toArray 39)::.blk b2 (.cells (cG ⟨⟨0,noS,[],0,zOp,zOp,0,0,0⟩,none,0,0⟩).toArray 39)::S) w:=hw.ps [1,2,3]
 have key:∀k,isQ toks (at'+2+2*k+1) 4 commaQ=decide (k+1<m)∨¬k<m:=fun k=>by
  by_cases h1:k+1<m
  ·refine Or.inl ?_
   rw[decide_eq_true h1];have:=hr.comma k h1
   rwa [show at'+3+2*k=at'+2+2*k+1 from by omega]at this
  ·by_cases h2:k<m
   ·refine Or.inl ?_
    rw[decide_eq_false h1];have:=hr.last
    rwa [show at'+1+2*m=at'+2+2*k+1 from by omega]at this
   ·exact Or.inr h2
 repeat first|refine byW ?_|refine byV ?_;intro w hw
 refine W_loop (fun μ ρ w=>∃(k:Nat) (A:Option Addr) (N C:Nat),μ+k=m∧k<m∧Has ρ [(0,.pointer (some ⟨bp,0,none⟩)),(2,.pointer (some ⟨b2,0,none⟩)),(3,.pointer (some ⟨b3,0,none⟩))]∧Wd Γ (.own (.slice A N C) 37 4 ((varsQ toks (at'+2) (k+1)).map enc)::parQ bp a n c (at'+2+2*k+1) e1 e2::.blk b3 (.cells (cG ⟨relG nm (varsQ toks (at'+2) (k+1)),A,N,C⟩).toArray 39)::.blk b2 (.cells (cG ⟨⟨0,noS,[],0,zOp,zOp,0,0,0⟩,none,0,0⟩).toArray 39)::S) w) m ⟨0,A2,N2,C2,by omega,by omega,⟨rfl,rfl,rfl,trivial⟩,hw⟩ ?_
 clear hw;rintro μ ρ w ⟨k,A,N,C,hk,hkm,hρ,hw⟩
 rw[hρ.eq];clear hρ;obtain⟨A',N',C',hE,hNl,hNC,hC⟩:=hw.own_shape (i:=0) rfl
 cases hE
 have hlk:(varsQ toks (at'+2) (k+1)).length=k+1:=by unfold varsQ;simp
 simp only[List.length_map,hlk]at hNl
 have hmm:=hr.many
 repeat first|refine byW ?_|refine byV ?_;intro w hw
 refine lCall (vs:=[.pointer (some ⟨bp,0,none⟩),.int .i64 4,.string commaQ]) ?_
 refine(Accept_q 4 commaQ (by omega) hN ht (hw.ps [1])).mono ?_
 clear hw;rintro r w ⟨rfl,hw⟩
 rw[(key k).resolve_right (by omega)]at hw ⊢
 refine⟨_,rfl,?_⟩;repeat first|refine byW ?_|refine byV ?_;intro w hw
 refine W_cond rfl (fun h=>?_) (fun h=>?_)
 ·have h1:=of_decide_eq_true h
  rw[if_pos h]at hw;have hop:VarQ (tokQ toks (at'+2+2*(k+1))):=hr.vars (k+1) h1
  have hw:Wd Γ (.own (.slice A N C) 37 4 ((varsQ toks (at'+2) (k+1)).map enc)::parQ bp a n c (at'+2+2*(k+1)) e1 e2::.blk b3 (.cells (cG ⟨relG nm (varsQ toks (at'+2) (k+1)),A,N,C⟩).toArray 39)::.blk b2 (.cells (cG ⟨⟨0,noS,[],0,zOp,zOp,0,0,0⟩,none,0,0⟩).toArray 39)::S) w:=hw.ps [1]
  clear h;repeat first|refine byW ?_|refine byV ?_;intro w hw
  refine W_mixD [.blk b2 (.cells (cG ⟨⟨0,noS,[],0,zOp,zOp,0,0,0⟩,none,0,0⟩).toArray 39)] [.blk b3 (.cells (cG ⟨relG nm (varsQ toks (at'+2) (k+1)),A,N,C⟩).toArray 39)] (.own (.slice A N C) 37 4 ((varsQ toks (at'+2) (k+1)).map enc)::parQ bp a n c (at'+2+2*(k+1)) e1 e2::S) [] [41,42,43] [] [[],[],[],[1],[1],[1],[],[0,1]] [[],[0],[],[1],[1],[1],[],[0,1]] (by rw[List.append_nil];exact hw.ps [2,3]) ?_
  repeat(first|refine mY ?_|refine mP ?_|refine mEndAt ?_|refine mEnd0 ?_|refine mEnd ?_)
  refine mCallV (c:=1) (T:=Unit) (T':=Unit) (vs:=[.pointer (some ⟨bp,0,none⟩)]) (fun _=>.agg (enc (⟨(tokQ toks (at'+2+2*(k+1))).Text,zVal⟩:Opd)).toArray) (fun _=>parQ bp a n c (at'+2+2*(k+1)+1) e1 e2::.own (.slice A N C) 37 4 ((varsQ toks (at'+2) (k+1)).map enc)::S) (R:=fun _=>.own (.slice A N C) 37 4 ((varsQ toks (at'+2) (k+1)).map enc)::parQ bp a n c (at'+2+2*(k+1)) e1 e2::S) (fun _ Y w hw=>(Operand_q hop (by omega) hN ht (hw.ps [1]:Wd Γ (parQ bp a n c (at'+2+2*(k+1)) e1 e2::(.own (.slice A N C) 37 4 ((varsQ toks (at'+2) (k+1)).map enc)::(S++Y))) w)).mono fun r w h=>⟨(),h.1,h.2⟩) ?_
  refine mBuildX (T:=Unit) (fun _=>[enc (⟨(tokQ toks (at'+2+2*(k+1))).Text,zVal⟩:Opd)]) ?_ ?_
  rotate_left
  ·intro t g h;have h2:g 41=_:=h
   show fillL _ _ [(0,g 41)]=_
   rw[h2];rfl
  refine mAppX (T:=Unit×Addr) (j:=2) (j2:=0) (fun t=>some t.2) (fun _=>[enc (⟨(tokQ toks (at'+2+2*(k+1))).Text,zVal⟩:Opd)]) ?_ ?_
  rotate_left
  ·intro t g h;exact h.2
  refine byM ?_;refine mJoinX (T:=(Unit×Addr)×Value) (j:=2) (val:=fun t=>t.2) ?_ ?_
  rotate_left
  ·intro t g h;exact h.2
  refine mEndD fun t w g h hw=>?_
  obtain⟨⟨⟨⟩,aB⟩,vv⟩:=t;have hw:Wd Γ (.blk b3 (.cells #[.int .i64 1,.string nm,vv,.int .i64 0,.string noS,.int .i64 0,.int .i64 0,.string noS,.string noS,.int .i64 0,.int .i64 0,.string noS,.int .i64 0,.int .i64 0,.int .i64 0] 39)::.own (.slice (some aB) 1 1) 37 4 [enc (⟨(tokQ toks (at'+2+2*(k+1))).Text,zVal⟩:Opd)]::parQ bp a n c (at'+2+2*(k+1)+1) e1 e2::.own vv 37 4 (((varsQ toks (at'+2) (k+1)).map enc)++[enc (⟨(tokQ toks (at'+2+2*(k+1))).Text,zVal⟩:Opd)])::(S++[.blk b2 (.cells (cG ⟨⟨0,noS,[],0,zOp,zOp,0,0,0⟩,none,0,0⟩).toArray 39)])) w:=hw
  obtain⟨A2,N2,C2,rfl,hN2,hNC2,hC2⟩:=hw.own_shape (i:=3) rfl
  rw[show ((varsQ toks (at'+2) (k+1)).map enc)++[enc (⟨(tokQ toks (at'+2+2*(k+1))).Text,zVal⟩:Opd)]=(varsQ toks (at'+2) ((k+1)+1)).map enc from varsQ_rows _]at hw hN2
  have hw:Wd Γ (.blk b2 (.cells (cG ⟨⟨0,noS,[],0,zOp,zOp,0,0,0⟩,none,0,0⟩).toArray 39)::.blk b3 (.cells (cG ⟨relG nm (varsQ toks (at'+2) ((k+1)+1)),A2,N2,C2⟩).toArray 39)::parQ bp a n c (at'+2+2*(k+1)+1) e1 e2::.own (.slice A2 N2 C2) 37 4 ((varsQ toks (at'+2) ((k+1)+1)).map enc)::S) w:=(hw.dropAt 1).perm byPM
  have hw:Wd Γ (.own (.slice A2 N2 C2) 37 4 ((varsQ toks (at'+2) ((k+1)+1)).map enc)::parQ bp a n c (at'+2+2*(k+1)+1) e1 e2::.blk b3 (.cells (cG ⟨relG nm (varsQ toks (at'+2) ((k+1)+1)),A2,N2,C2⟩).toArray 39)::.blk b2 (.cells (cG ⟨⟨0,noS,[],0,zOp,zOp,0,0,0⟩,none,0,0⟩).toArray 39)::S) w:=hw.ps [1,2,3]
  repeat first|refine byW ?_|refine byV ?_;intro w hw
  exact⟨μ-1,by omega,k+1,A2,N2,C2,by omega,by omega,⟨rfl,rfl,rfl,trivial⟩,hw⟩
 ·have h1:=of_decide_eq_false h
  have hkm1:k+1=m:=by omega
  rw[if_neg (by rw[h];decide)]at hw
  subst hkm1;have hw:Wd Γ (parQ bp a n c (at'+1+2*(k+1)) e1 e2::.own (.slice A N C) 37 4 ((varsQ toks (at'+2) (k+1)).map enc)::.blk b3 (.cells (cG ⟨relG nm (varsQ toks (at'+2) (k+1)),A,N,C⟩).toArray 39)::.blk b2 (.cells (cG ⟨⟨0,noS,[],0,zOp,zOp,0,0,0⟩,none,0,0⟩).toArray 39)::S) w:=by
   rw[show at'+1+2*(k+1)=at'+2+2*k+1 from by omega];exact hw
  clear h;repeat first|refine byW ?_|refine byV ?_;intro w hw
  refine lCall (vs:=[.pointer (some ⟨bp,0,none⟩),.int .i64 4,.string rparQ]) ?_
  refine(Expect_q 4 rparQ hr.rpar (by omega) hN ht hw).mono ?_
  clear hw;rintro r w ⟨rfl,hw⟩
  refine⟨_,rfl,?_⟩;repeat first|refine byW ?_|refine byV ?_;intro w hw
  refine lStore (i:=3) ?_
  intro w hw;have hw:Wd Γ (.blk b2 (.cells (cG ⟨relG nm (varsQ toks (at'+2) (k+1)),A,N,C⟩).toArray 39)::.own (.slice A N C) 37 4 ((varsQ toks (at'+2) (k+1)).map enc)::parQ bp a n c (at'+1+2*(k+1)+1) e1 e2::.blk b3 (.cells (cG ⟨relG nm (varsQ toks (at'+2) (k+1)),A,N,C⟩).toArray 39)::S) w:=hw.ps [1,3]
  repeat first|refine byW ?_|refine byV ?_;intro w hw
  refine⟨[.agg (cG ⟨relG nm (varsQ toks (at'+2) (k+1)),A,N,C⟩).toArray],⟨resC (i:=0) hw rfl rfl rfl,trivial⟩,(A,N,C),rfl,?_⟩
  rw[show at'+2*(k+1)+2=at'+1+2*(k+1)+1 from by omega]
  exact hw.drop.dropAt 2
end
end Go.Proofs.YtjkepmmcajbdhaaGreat
end
section
open Go Mk
namespace Go.Proofs.YtjkepmmcajbdhaaGreat
set_option maxHeartbeats 16000000
attribute [local irreducible] Calls cI cB
def selQ:ByteArray:=⟨#[115,101,108,101,99,116]⟩
def whereQ:ByteArray:=⟨#[119,104,101,114,101]⟩
def goalsQ(toks:List Tok)(k:Nat):List Goal:=(List.range k).map fun i=>relG (tokQ toks (3+7*i)).Text (varsQ toks (3+7*i+2) 2)
theorem goalsQ_succ{toks:List Tok}{k:Nat}:goalsQ toks (k+1)=goalsQ toks k++[relG (tokQ toks (3+7*k)).Text (varsQ toks (3+7*k+2) 2)]:=by
 unfold goalsQ;rw[List.range_succ,List.map_append];rfl
structure TwoQ(toks:List Tok):Prop where
 len:toks.length=16
 sel:isQ toks 0 1 selQ=true
 now:isQ toks 1 1 whereQ=false
 kind:(tokQ toks 1).Kind=1
 kw:kwS (tokQ toks 1).Text=false
 size:(tokQ toks 1).Text.size≤24
 noc:isQ toks 2 4 commaQ=false
 whe:isQ toks 2 1 whereQ=true
 rels:∀i,i<2→RelQ toks (3+7*i) 2
 com:∀i,i<2→isQ toks (3+7*i+2*2+2) 4 commaQ=decide (i+1<2)
section
variable {Γ:Gho}{S:List Res}{w:World}{bp:Nat}{a:Option Addr}{n c:Nat}{e1 e2:Int}{toks:List Tok}
theorem Query_q(hr:TwoQ toks)(ht:RepS Γ (.slice a n c) 5 (toks.map enc))(hw:Wd Γ (parQ bp a n c 0 e1 e2::S) w) :
  Calls Tryz.prog 52 #[.pointer (some ⟨bp,0,none⟩)] w fun r w'=>∃Γ' vs vg gs,Γ.le Γ'∧r=.returned (.agg #[vs,vg])∧QR Γ' vs vg gs ⟨[(tokQ toks 1).Text],goalsQ toks 2⟩∧Wd Γ' S w':=by
 have hn:n=16∧n≤c∧c≤9223372036854775807:=by obtain⟨_,_,_,h1,h2,h3⟩:=ht.shape;cases h1;exact⟨by rw[h2,List.length_map,hr.len],h3⟩
 obtain⟨hn,hnc,hc⟩:=hn;have hN:toks.length≤1000000:=by rw[hr.len];decide
 refine calls_of_WC Tryz.func52 rfl rfl ?_
 repeat first|refine byW ?_|refine byV ?_;intro w hw
 refine lAlloc ?_;intro b2 w hw;repeat first|refine byW ?_|refine byV ?_;intro w hw
 refine lAlloc ?_;intro b3 w hw;have hw:Wd Γ (parQ bp a n c 0 e1 e2::.blk b3 (.cells #[.slice none 0 0,.slice none 0 0] 29)::.blk b2 (.cells #[.slice none 0 0,.slice none 0 0] 29)::S) w:=hw.ps [2]
 repeat first|refine byW ?_|refine byV ?_;intro w hw
 refine lCall (vs:=[.pointer (some ⟨bp,0,none⟩),.int .i64 1,.string selQ]) ?_
 refine(Expect_q 1 selQ hr.sel (by omega) hN ht hw).mono ?_
 clear hw;rintro r w ⟨rfl,hw⟩
 refine⟨_,rfl,?_⟩;repeat first|refine byW ?_|refine byV ?_;intro w hw
 refine lCall (vs:=[.pointer (some ⟨bp,0,none⟩),.int .i64 0,.int .i64 1,.string whereQ]) ?_
 refine(Is_q (j:=0) (by decide) 1 whereQ (by omega) hN ht hw).mono ?_
 clear hw;rintro r w ⟨rfl,hw⟩
 rw[show isQ toks (0+1+0) 1 whereQ=false from hr.now];refine⟨_,rfl,?_⟩;repeat first|refine byW ?_|refine byV ?_;intro w hw
 refine W_cond rfl (fun _=>?_) (fun h=>by cases h)
 have hw:=Wd.addNil (a:=none) (E:=9) (sz:=1) hw
 have hw:Wd Γ (.own (.slice none 0 0) 9 1 (strRows [])::parQ bp a n c 1 e1 e2::.blk b3 (.cells #[.slice none 0 0,.slice none 0 0] 29)::.blk b2 (.cells #[.slice none 0 0,.slice none 0 0] 29)::S) w:=hw
 repeat first|refine byW ?_|refine byV ?_;intro w hw
 refine W_mixD [.blk b2 (.cells #[.slice none 0 0,.slice none 0 0] 29)] [.blk b3 (.cells #[.slice none 0 0,.slice none 0 0] 29)] (.own (.slice none 0 0) 9 1 (strRows [])::parQ bp a n c 1 e1 e2::S) [] [12,13,14] [] [[],[],[],[1],[1],[1],[],[0,1]] [[],[0],[],[1],[1],[1],[],[0,1]] (by rw[List.append_nil];exact hw.ps [2,3]) ?_
 repeat(first|refine mY ?_|refine mP ?_|refine mEndAt ?_|refine mEnd0 ?_|refine mEnd ?_)
 refine mCallV (c:=1) (T:=Unit) (T':=Unit) (vs:=[.pointer (some ⟨bp,0,none⟩)]) (fun _=>.string (tokQ toks 1).Text) (fun _=>parQ bp a n c (1+1) e1 e2::.own (.slice none 0 0) 9 1 (strRows [])::S) (R:=fun _=>.own (.slice none 0 0) 9 1 (strRows [])::parQ bp a n c 1 e1 e2::S) (fun _ Y w hw=>(Word_q hr.kind hr.kw hr.size (by omega) hN ht (hw.ps [1]:Wd Γ (parQ bp a n c 1 e1 e2::(.own (.slice none 0 0) 9 1 (strRows [])::(S++Y))) w)).mono fun r w h=>⟨(),h.1,h.2⟩) ?_
 refine mBuildX (T:=Unit) (fun _=>[[.string (tokQ toks 1).Text]]) ?_ ?_
 rotate_left
 ·intro t g h;have h2:g 12=_:=h
  show fillL _ _ [(0,g 12)]=_
  rw[h2];rfl
 refine mAppX (T:=Unit×Addr) (j:=2) (j2:=0) (fun t=>some t.2) (fun _=>[[.string (tokQ toks 1).Text]]) ?_ ?_
 rotate_left
 ·intro t g h;exact h.2
 refine byM ?_;refine mJoinX (T:=(Unit×Addr)×Value) (j:=2) (val:=fun t=>t.2) ?_ ?_
 rotate_left
 ·intro t g h;exact h.2
 refine mEndD fun t w g h hw=>?_
 obtain⟨⟨⟨⟩,aB⟩,vv⟩:=t;have hw:Wd Γ (.blk b3 (.cells #[vv,.slice none 0 0] 29)::.own (.slice (some aB) 1 1) 9 1 [[.string (tokQ toks 1).Text]]::parQ bp a n c (1+1) e1 e2::.own vv 9 1 (strRows [(tokQ toks 1).Text])::(S++[.blk b2 (.cells #[.slice none 0 0,.slice none 0 0] 29)])) w:=hw
 obtain⟨sa,sn,sc,rfl,hsn,hsc,hscc⟩:=hw.own_shape (i:=3) rfl
 have hw:Wd Γ (parQ bp a n c 2 e1 e2::.blk b3 (.cells #[.slice sa sn sc,.slice none 0 0] 29)::.blk b2 (.cells #[.slice none 0 0,.slice none 0 0] 29)::.own (.slice sa sn sc) 9 1 (strRows [(tokQ toks 1).Text])::S) w:=(hw.dropAt 1).perm byPM
 repeat first|refine byW ?_|refine byV ?_;intro w hw
 refine W_loop (fun μ ρ w=>Has ρ [(0,.pointer (some ⟨bp,0,none⟩)),(2,.pointer (some ⟨b2,0,none⟩)),(3,.pointer (some ⟨b3,0,none⟩))]∧Wd Γ (parQ bp a n c 2 e1 e2::.blk b3 (.cells #[.slice sa sn sc,.slice none 0 0] 29)::.blk b2 (.cells #[.slice none 0 0,.slice none 0 0] 29)::.own (.slice sa sn sc) 9 1 (strRows [(tokQ toks 1).Text])::S) w) 1 ⟨⟨rfl,rfl,rfl,trivial⟩,hw⟩ ?_
 clear hw;rintro μ ρ w ⟨hρ,hw⟩
 rw[hρ.eq];clear hρ;repeat first|refine byW ?_|refine byV ?_;intro w hw
 refine lCall (vs:=[.pointer (some ⟨bp,0,none⟩),.int .i64 4,.string commaQ]) ?_
 refine(Accept_q 4 commaQ (by omega) hN ht hw).mono ?_
 clear hw;rintro r w ⟨rfl,hw⟩
 rw[hr.noc]at hw ⊢
 have hw:Wd Γ (parQ bp a n c 2 e1 e2::.blk b3 (.cells #[.slice sa sn sc,.slice none 0 0] 29)::.blk b2 (.cells #[.slice none 0 0,.slice none 0 0] 29)::.own (.slice sa sn sc) 9 1 (strRows [(tokQ toks 1).Text])::S) w:=hw
 refine⟨_,rfl,?_⟩;repeat first|refine byW ?_|refine byV ?_;intro w hw
 refine W_cond rfl (fun h=>by cases h) (fun _=>?_)
 repeat first|refine byW ?_|refine byV ?_;intro w hw
 refine lCall (vs:=[.pointer (some ⟨bp,0,none⟩),.int .i64 1,.string whereQ]) ?_
 refine(Expect_q 1 whereQ hr.whe (by omega) hN ht hw).mono ?_
 clear hw;rintro r w ⟨rfl,hw⟩
 refine⟨_,rfl,?_⟩;have hw:=Wd.addNil (a:=none) (E:=39) (sz:=15) hw
 obtain⟨gs,hgs⟩:∃gs:List GoalH,gs=[]:=⟨_,rfl⟩
 obtain⟨ga,gn,gc,hga,hgn,hgc⟩:∃(ga:Option Addr) (gn gc:Nat),ga=none∧gn=0∧gc=0:=⟨_,_,_,rfl,rfl,rfl⟩
 have hw:Wd Γ (.own (.slice ga gn gc) 39 15 (gs.map cG)::parQ bp a n c (3+7*0) e1 e2::.blk b3 (.cells #[.slice sa sn sc,.slice ga gn gc] 29)::.blk b2 (.cells #[.slice none 0 0,.slice none 0 0] 29)::.own (.slice sa sn sc) 9 1 (strRows [(tokQ toks 1).Text])::S) w:=by
  rw[hga,hgn,hgc,hgs];exact hw
 have hgl:gn=gs.length:=by rw[hgs,hgn];rfl
 have hgb:gn≤2:=by omega
 have hok:∀x∈gs,GOk Γ x:=fun x hx=>by rw[hgs]at hx;cases hx
 have hgs:gs.map (·.g)=goalsQ toks 0:=by rw[hgs];rfl
 have hrel:RelQ toks (3+7*0) 2:=hr.rels 0 (by decide)
 obtain⟨Γ1,hΓ1⟩:∃Γ1,Γ1=Γ:=⟨_,rfl⟩
 rw[←hΓ1]at hw hok
 have ht1:RepS Γ1 (.slice a n c) 5 (toks.map enc):=by rw[hΓ1];exact ht
 have hle1:Γ.le Γ1:=by rw[hΓ1];exact Gho.le.refl _
 clear hga hgn hgc hΓ1;repeat first|refine byW ?_|refine byV ?_;intro w hw
 refine W_mixD [.blk b2 (.cells #[.slice none 0 0,.slice none 0 0] 29)] [.blk b3 (.cells #[.slice sa sn sc,.slice ga gn gc] 29)] (.own (.slice ga gn gc) 39 15 (gs.map cG)::parQ bp a n c (3+7*0) e1 e2::.own (.slice sa sn sc) 9 1 (strRows [(tokQ toks 1).Text])::S) [] [30,31,32] [] [[],[],[],[1],[1],[1],[],[0,1]] [[],[0],[],[1],[1],[1],[],[0,1]] (by rw[List.append_nil];exact hw.ps [2,3]) ?_
 repeat(first|refine mY ?_|refine mP ?_|refine mEndAt ?_|refine mEnd0 ?_|refine mEnd ?_)
 refine mCallV (c:=1) (T:=Unit) (T':=SlT) (vs:=[.pointer (some ⟨bp,0,none⟩)]) (fun v=>.agg (cG ⟨relG (tokQ toks (3+7*0)).Text (varsQ toks (3+7*0+2) 2),v.1,v.2.1,v.2.2⟩).toArray) (fun v=>.own (slV v) 37 4 ((varsQ toks (3+7*0+2) 2).map enc)::parQ bp a n c (3+7*0+2*2+2) e1 e2::.own (.slice ga gn gc) 39 15 (gs.map cG)::.own (.slice sa sn sc) 9 1 (strRows [(tokQ toks 1).Text])::S) (R:=fun _=>.own (.slice ga gn gc) 39 15 (gs.map cG)::parQ bp a n c (3+7*0) e1 e2::.own (.slice sa sn sc) 9 1 (strRows [(tokQ toks 1).Text])::S) (fun _ Y w hw=>Goal_q hrel (by omega) hN ht1 (hw.ps [1]:Wd Γ1 (parQ bp a n c (3+7*0) e1 e2::(.own (.slice ga gn gc) 39 15 (gs.map cG)::.own (.slice sa sn sc) 9 1 (strRows [(tokQ toks 1).Text])::(S++Y))) w)) ?_
 refine mBuildX (T:=SlT) (fun v=>[cG ⟨relG (tokQ toks (3+7*0)).Text (varsQ toks (3+7*0+2) 2),v.1,v.2.1,v.2.2⟩]) ?_ ?_
 rotate_left
 ·intro t g h;have h2:g 30=_:=h
  show fillL _ _ [(0,g 30)]=_
  rw[h2];rfl
 refine mAppX (T:=SlT×Addr) (j:=3) (j2:=0) (fun t=>some t.2) (fun t=>[cG ⟨relG (tokQ toks (3+7*0)).Text (varsQ toks (3+7*0+2) 2),t.1.1,t.1.2.1,t.1.2.2⟩]) ?_ ?_
 rotate_left
 ·intro t g h;exact h.2
 refine byM ?_;refine mJoinX (T:=(SlT×Addr)×Value) (j:=3) (val:=fun t=>t.2) ?_ ?_
 rotate_left
 ·intro t g h;exact h.2
 refine mEndD fun t w g h hw=>?_
 obtain⟨⟨⟨Ax,Nx,Cx⟩,aB⟩,vv⟩:=t;have hw:Wd Γ1 (.blk b3 (.cells #[.slice sa sn sc,vv] 29)::.own (.slice (some aB) 1 1) 39 15 [cG ⟨relG (tokQ toks (3+7*0)).Text (varsQ toks (3+7*0+2) 2),Ax,Nx,Cx⟩]::.own (.slice Ax Nx Cx) 37 4 ((varsQ toks (3+7*0+2) 2).map enc)::parQ bp a n c (3+7*0+2*2+2) e1 e2::.own vv 39 15 (gs.map cG++[cG ⟨relG (tokQ toks (3+7*0)).Text (varsQ toks (3+7*0+2) 2),Ax,Nx,Cx⟩])::.own (.slice sa sn sc) 9 1 (strRows [(tokQ toks 1).Text])::(S++[.blk b2 (.cells #[.slice none 0 0,.slice none 0 0] 29)])) w:=hw
 obtain⟨A2,N2,C2,rfl,hN2,hNC2,hC2⟩:=hw.own_shape (i:=4) rfl
 obtain⟨Γ2,hle2,hfo,hw⟩:=Wd.freeze (hw.ps [2]:Wd Γ1 (.own (.slice Ax Nx Cx) 37 4 ((varsQ toks (3+7*0+2) 2).map enc)::.blk b3 (.cells #[.slice sa sn sc,.slice A2 N2 C2] 29)::.own (.slice (some aB) 1 1) 39 15 [cG ⟨relG (tokQ toks (3+7*0)).Text (varsQ toks (3+7*0+2) 2),Ax,Nx,Cx⟩]::parQ bp a n c (3+7*0+2*2+2) e1 e2::.own (.slice A2 N2 C2) 39 15 (gs.map cG++[cG ⟨relG (tokQ toks (3+7*0)).Text (varsQ toks (3+7*0+2) 2),Ax,Nx,Cx⟩])::.own (.slice sa sn sc) 9 1 (strRows [(tokQ toks 1).Text])::(S++[.blk b2 (.cells #[.slice none 0 0,.slice none 0 0] 29)])) w)
 have hw:Wd Γ2 (.own (.slice A2 N2 C2) 39 15 ((gs++[(⟨relG (tokQ toks (3+7*0)).Text (varsQ toks (3+7*0+2) 2),Ax,Nx,Cx⟩:GoalH)]).map cG)::parQ bp a n c (3+7*0+2*2+2) e1 e2::.blk b3 (.cells #[.slice sa sn sc,.slice A2 N2 C2] 29)::.blk b2 (.cells #[.slice none 0 0,.slice none 0 0] 29)::.own (.slice sa sn sc) 9 1 (strRows [(tokQ toks 1).Text])::S) w:=by
  rw[List.map_append];exact(hw.dropAt 1).perm byPM
 have hgs2:(gs++[(⟨relG (tokQ toks (3+7*0)).Text (varsQ toks (3+7*0+2) 2),Ax,Nx,Cx⟩:GoalH)]).map (·.g)=goalsQ toks (0+1):=by
  rw[List.map_append,hgs,goalsQ_succ];rfl
 have hok2:∀x∈gs++[(⟨relG (tokQ toks (3+7*0)).Text (varsQ toks (3+7*0+2) 2),Ax,Nx,Cx⟩:GoalH)],GOk Γ2 x:=fun x hx=>by
  rcases List.mem_append.1 hx with hx|hx
  ·exact(hok x hx).mono hle2
  ·rw[List.mem_singleton.1 hx];exact hfo
 repeat first|refine byW ?_|refine byV ?_;intro w hw
 refine W_loop (fun μ ρ w=>∃(k:Nat) (Γ1:Gho) (ga:Option Addr) (gn gc:Nat) (gs:List GoalH),μ+k=2∧k<2∧Γ.le Γ1∧gs.map (·.g)=goalsQ toks (k+1)∧(∀x∈gs,GOk Γ1 x)∧Has ρ [(0,.pointer (some ⟨bp,0,none⟩)),(2,.pointer (some ⟨b2,0,none⟩)),(3,.pointer (some ⟨b3,0,none⟩))]∧Wd Γ1 (.own (.slice ga gn gc) 39 15 (gs.map cG)::parQ bp a n c (3+7*k+2*2+2) e1 e2::.blk b3 (.cells #[.slice sa sn sc,.slice ga gn gc] 29)::.blk b2 (.cells #[.slice none 0 0,.slice none 0 0] 29)::.own (.slice sa sn sc) 9 1 (strRows [(tokQ toks 1).Text])::S) w) 2 ⟨0,Γ2,A2,N2,C2,_,by omega,by omega,hle1.trans hle2,hgs2,hok2,⟨rfl,rfl,rfl,trivial⟩,hw⟩ ?_
 clear hw hgs hok hgl hgb hrel ht1 hle1 hle2 hfo hgs2 hok2 hN2 hNC2 hC2;rintro μ ρ w ⟨k,Γ1,ga,gn,gc,gs,hk,hk2,hle1,hgs,hok,hρ,hw⟩
 rw[hρ.eq];clear hρ;have ht1:=ht.mono hle1
 have hgl:gs.length=k+1:=by have:=congrArg List.length hgs;simpa[goalsQ] using this
 have hgb:gn=gs.length:=by obtain⟨_,_,_,h1,h2,_⟩:=hw.own_shape (i:=0) rfl;cases h1;simpa using h2
 repeat first|refine byW ?_|refine byV ?_;intro w hw
 refine lCall (vs:=[.pointer (some ⟨bp,0,none⟩),.int .i64 4,.string commaQ]) ?_
 refine(Accept_q 4 commaQ (by omega) hN ht1 (hw.ps [1])).mono ?_
 clear hw;rintro r w ⟨rfl,hw⟩
 rw[hr.com k hk2]at hw ⊢
 refine⟨_,rfl,?_⟩;repeat first|refine byW ?_|refine byV ?_;intro w hw
 refine W_cond rfl (fun h=>?_) (fun h=>?_)
 ·have h1:=of_decide_eq_true h
  rw[if_pos h]at hw;have hk0:k=0:=by omega
  subst hk0;have hrel:RelQ toks (3+7*(0+1)) 2:=hr.rels 1 (by decide)
  have hw:Wd Γ1 (.own (.slice ga gn gc) 39 15 (gs.map cG)::parQ bp a n c (3+7*(0+1)) e1 e2::.blk b3 (.cells #[.slice sa sn sc,.slice ga gn gc] 29)::.blk b2 (.cells #[.slice none 0 0,.slice none 0 0] 29)::.own (.slice sa sn sc) 9 1 (strRows [(tokQ toks 1).Text])::S) w:=hw.ps [1]
  clear h;repeat first|refine byW ?_|refine byV ?_;intro w hw
  refine W_mixD [.blk b2 (.cells #[.slice none 0 0,.slice none 0 0] 29)] [.blk b3 (.cells #[.slice sa sn sc,.slice ga gn gc] 29)] (.own (.slice ga gn gc) 39 15 (gs.map cG)::parQ bp a n c (3+7*(0+1)) e1 e2::.own (.slice sa sn sc) 9 1 (strRows [(tokQ toks 1).Text])::S) [] [39,40,41] [] [[],[],[],[1],[1],[1],[],[0,1]] [[],[0],[],[1],[1],[1],[],[0,1]] (by rw[List.append_nil];exact hw.ps [2,3]) ?_
  repeat(first|refine mY ?_|refine mP ?_|refine mEndAt ?_|refine mEnd0 ?_|refine mEnd ?_)
  refine mCallV (c:=1) (T:=Unit) (T':=SlT) (vs:=[.pointer (some ⟨bp,0,none⟩)]) (fun v=>.agg (cG ⟨relG (tokQ toks (3+7*(0+1))).Text (varsQ toks (3+7*(0+1)+2) 2),v.1,v.2.1,v.2.2⟩).toArray) (fun v=>.own (slV v) 37 4 ((varsQ toks (3+7*(0+1)+2) 2).map enc)::parQ bp a n c (3+7*(0+1)+2*2+2) e1 e2::.own (.slice ga gn gc) 39 15 (gs.map cG)::.own (.slice sa sn sc) 9 1 (strRows [(tokQ toks 1).Text])::S) (R:=fun _=>.own (.slice ga gn gc) 39 15 (gs.map cG)::parQ bp a n c (3+7*(0+1)) e1 e2::.own (.slice sa sn sc) 9 1 (strRows [(tokQ toks 1).Text])::S) (fun _ Y w hw=>Goal_q hrel (by omega) hN ht1 (hw.ps [1]:Wd Γ1 (parQ bp a n c (3+7*(0+1)) e1 e2::(.own (.slice ga gn gc) 39 15 (gs.map cG)::.own (.slice sa sn sc) 9 1 (strRows [(tokQ toks 1).Text])::(S++Y))) w)) ?_
  refine mBuildX (T:=SlT) (fun v=>[cG ⟨relG (tokQ toks (3+7*(0+1))).Text (varsQ toks (3+7*(0+1)+2) 2),v.1,v.2.1,v.2.2⟩]) ?_ ?_
  rotate_left
  ·intro t g h;have h2:g 39=_:=h
   show fillL _ _ [(0,g 39)]=_
   rw[h2];rfl
  refine mAppX (T:=SlT×Addr) (j:=3) (j2:=0) (fun t=>some t.2) (fun t=>[cG ⟨relG (tokQ toks (3+7*(0+1))).Text (varsQ toks (3+7*(0+1)+2) 2),t.1.1,t.1.2.1,t.1.2.2⟩]) ?_ ?_
  rotate_left
  ·intro t g h;exact h.2
  refine byM ?_;refine mJoinX (T:=(SlT×Addr)×Value) (j:=3) (val:=fun t=>t.2) ?_ ?_
  rotate_left
  ·intro t g h;exact h.2
  refine mEndD fun t w g h hw=>?_
  obtain⟨⟨⟨Ax,Nx,Cx⟩,aB⟩,vv⟩:=t;have hw:Wd Γ1 (.blk b3 (.cells #[.slice sa sn sc,vv] 29)::.own (.slice (some aB) 1 1) 39 15 [cG ⟨relG (tokQ toks (3+7*(0+1))).Text (varsQ toks (3+7*(0+1)+2) 2),Ax,Nx,Cx⟩]::.own (.slice Ax Nx Cx) 37 4 ((varsQ toks (3+7*(0+1)+2) 2).map enc)::parQ bp a n c (3+7*(0+1)+2*2+2) e1 e2::.own vv 39 15 (gs.map cG++[cG ⟨relG (tokQ toks (3+7*(0+1))).Text (varsQ toks (3+7*(0+1)+2) 2),Ax,Nx,Cx⟩])::.own (.slice sa sn sc) 9 1 (strRows [(tokQ toks 1).Text])::(S++[.blk b2 (.cells #[.slice none 0 0,.slice none 0 0] 29)])) w:=hw
  obtain⟨A2,N2,C2,rfl,hN2,hNC2,hC2⟩:=hw.own_shape (i:=4) rfl
  obtain⟨Γ2,hle2,hfo,hw⟩:=Wd.freeze (hw.ps [2]:Wd Γ1 (.own (.slice Ax Nx Cx) 37 4 ((varsQ toks (3+7*(0+1)+2) 2).map enc)::.blk b3 (.cells #[.slice sa sn sc,.slice A2 N2 C2] 29)::.own (.slice (some aB) 1 1) 39 15 [cG ⟨relG (tokQ toks (3+7*(0+1))).Text (varsQ toks (3+7*(0+1)+2) 2),Ax,Nx,Cx⟩]::parQ bp a n c (3+7*(0+1)+2*2+2) e1 e2::.own (.slice A2 N2 C2) 39 15 (gs.map cG++[cG ⟨relG (tokQ toks (3+7*(0+1))).Text (varsQ toks (3+7*(0+1)+2) 2),Ax,Nx,Cx⟩])::.own (.slice sa sn sc) 9 1 (strRows [(tokQ toks 1).Text])::(S++[.blk b2 (.cells #[.slice none 0 0,.slice none 0 0] 29)])) w)
  have hw:Wd Γ2 (.own (.slice A2 N2 C2) 39 15 ((gs++[(⟨relG (tokQ toks (3+7*(0+1))).Text (varsQ toks (3+7*(0+1)+2) 2),Ax,Nx,Cx⟩:GoalH)]).map cG)::parQ bp a n c (3+7*(0+1)+2*2+2) e1 e2::.blk b3 (.cells #[.slice sa sn sc,.slice A2 N2 C2] 29)::.blk b2 (.cells #[.slice none 0 0,.slice none 0 0] 29)::.own (.slice sa sn sc) 9 1 (strRows [(tokQ toks 1).Text])::S) w:=by
   rw[List.map_append];exact(hw.dropAt 1).perm byPM
  have hgs2:(gs++[(⟨relG (tokQ toks (3+7*(0+1))).Text (varsQ toks (3+7*(0+1)+2) 2),Ax,Nx,Cx⟩:GoalH)]).map (·.g)=goalsQ toks ((0+1)+1):=by
   rw[List.map_append,hgs,goalsQ_succ];rfl
  have hok2:∀x∈gs++[(⟨relG (tokQ toks (3+7*(0+1))).Text (varsQ toks (3+7*(0+1)+2) 2),Ax,Nx,Cx⟩:GoalH)],GOk Γ2 x:=fun x hx=>by
   rcases List.mem_append.1 hx with hx|hx
   ·exact(hok x hx).mono hle2
   ·rw[List.mem_singleton.1 hx];exact hfo
  repeat first|refine byW ?_|refine byV ?_;intro w hw
  exact⟨μ-1,by omega,0+1,Γ2,A2,N2,C2,_,by omega,by omega,hle1.trans hle2,hgs2,hok2,⟨rfl,rfl,rfl,trivial⟩,hw⟩
 ·have h1:=of_decide_eq_false h
  have hk1:k=1:=by omega
  subst hk1;rw[if_neg (by rw[h];decide)]at hw
  clear h;unfold parQ at hw;repeat first|refine byW ?_|refine byV ?_;intro w hw
  refine W_quiet (by kernel_rfl) (by kernel_rfl) hw ?_
  refine byQ ?_;intro w hw;refine W_cond rfl (fun h=>absurd (of_decide_eq_true h) (by omega)) (fun _=>?_)
  repeat first|refine byW ?_|refine byV ?_;intro w hw
  refine lStore (i:=3) ?_
  intro w hw;have hw:Wd Γ1 (.blk b2 (.cells #[.slice sa sn sc,.slice ga gn gc] 29)::.own (.slice ga gn gc) 39 15 (gs.map cG)::.own (.slice sa sn sc) 9 1 (strRows [(tokQ toks 1).Text])::parQ bp a n c (3+7*1+2*2+2) e1 e2::.blk b3 (.cells #[.slice sa sn sc,.slice ga gn gc] 29)::S) w:=hw.ps [2,1,4,3,4]
  repeat first|refine byW ?_|refine byV ?_;intro w hw
  refine⟨[.agg #[.slice sa sn sc,.slice ga gn gc]],⟨resC (i:=0) hw rfl rfl rfl,trivial⟩,?_⟩
  obtain⟨Γ2,hle2,hg2,hw⟩:=hw.drop.freeze;obtain⟨Γ3,hle3,hs3,hw⟩:=hw.freeze;exact⟨Γ3,_,_,gs,hle1.trans (hle2.trans hle3),rfl,⟨hs3,hg2.mono hle3,hgs,fun x hx=>(hok x hx).mono (hle2.trans hle3)⟩,hw.ds [0,0]⟩
end
end Go.Proofs.YtjkepmmcajbdhaaGreat
end
section
open Go Mk
namespace Go.Proofs.YtjkepmmcajbdhaaGreat
set_option maxHeartbeats 16000000
attribute [local irreducible] Calls cI cB scanS
section
variable {Γ:Gho}{S:List Res}{w:World}
theorem recQ_ret(hw:Wd Γ S w)(args:Array Value)(hn:Nat.ble args.size 22=true) :
  CallsD Tryz.prog 49 args .returning w fun e u' w'=>e=.returned (.tuple #[])∧u'=.returning∧Wd Γ S w':=by
 refine callsD_rec Tryz.func49 rfl hn rfl rfl ?_
 refine W_seq ?_
 refine W_region ?_
 refine lY (v:=.nilIface) ?_ (hy:=y_move rfl)
 refine lY (v:=.bool false) ?_ (hy:=y_neqNN Tryz.underlying20 rfl)
 refine L_nil ?_
 refine W_cond rfl (fun h=>by cases h) (fun _=>?_)
 refine W_skip ?_
 exact⟨_,rfl,rfl,rfl,hw⟩
set_option maxRecDepth 8000 in
theorem ParseQ_any(s:ByteArray)(hs:s.size≤1000000)(he:(scanS s).2.2=0)(hr:TwoQ (scanS s).1)(hw:Wd Γ S w) :
  Calls Tryz.prog 22 #[.string s] w fun r w'=>∃Γ' vs vg gs,Γ.le Γ'∧r=.returned (.tuple #[.agg #[vs,vg],.agg (enc (⟨0,0⟩:PosT)).toArray,.int .i64 0])∧QR Γ' vs vg gs ⟨[(tokQ (scanS s).1 1).Text],goalsQ (scanS s).1 2⟩∧Wd Γ' S w':=by
 haveI hL:=pc_LastNl s (by omega)
 haveI hCn:=pc_CountNl s
 refine calls_of_WX Tryz.func22 rfl rfl ?_
 refine WX_seq (WX_of_W ?_)
 repeat first|refine byW ?_|refine byV ?_;intro w hw
 refine lAlloc ?_;intro b2 w hw;refine lAlloc ?_;intro b3 w hw;refine lAlloc ?_;intro b4 w hw;refine L_nil ?_
 have hw:Wd Γ (.blk b2 (.cells #[.slice none 0 0,.slice none 0 0] 29)::.blk b3 (.cells (enc (⟨0,0⟩:PosT)).toArray 70)::.blk b4 (.cells #[.int .i64 0] 42)::S) w:=hw.ps [1,2]
 refine WX_seq (WX_of_W ?_)
 repeat first|refine byW ?_|refine byV ?_;intro w hw
 refine lCall ?_;refine(Scan_any Γ _ w s (Nat.le_trans hs (by decide)) hw).mono ?_
 clear hw;rintro r w ⟨v,rfl,hw⟩
 refine⟨_,rfl,?_⟩;repeat first|refine byW ?_|refine byV ?_;intro w hw
 refine lStore (i:=2) ?_
 intro w hw;refine lStore (i:=3) ?_
 intro w hw;refine L_nil ?_
 have hw:Wd Γ (.own v 136 5 ((scanS s).1.map enc)::.blk b2 (.cells #[.slice none 0 0,.slice none 0 0] 29)::.blk b3 (.cells (enc (scanS s).2.1).toArray 70)::.blk b4 (.cells #[.int .i64 (scanS s).2.2] 42)::S) w:=hw
 generalize (scanS s).2.1=p1 at *
 generalize (scanS s).2.2=e1 at *
 generalize (scanS s).1=toks at *
 refine WX_seq (WX_seq (WX_of_W ?_))
 repeat first|refine byW ?_|refine byV ?_;intro w hw
 refine WX_cond rfl (fun h=>absurd he (by simpa using h)) (fun _=>?_)
 obtain⟨at',n,c,rfl,hn,-,-⟩:=hw.own_shape (i:=0) rfl
 simp only[List.length_map]at hn
 obtain⟨Γ1,hle,ht,hw⟩:=hw.freeze;refine WX_of_W (W_skip ?_)
 refine WX_seq (WX_regionX ?_)
 refine LD_step ((y_makeFuncL (first:=[]) (cap:=[.tmp 2,.tmp 3,.tmp 4]) (f1:=[]) (c1:=[.pointer (some ⟨b2,0,none⟩),.pointer (some ⟨b3,0,none⟩),.pointer (some ⟨b4,0,none⟩)]) EvL.nil (EvL.cons rfl (EvL.cons rfl (EvL.cons rfl EvL.nil)))).step ?_)
 refine LD_deferF ?_
 refine LD_nil ?_
 refine WX_seq (WX_region ?_)
 repeat first|refine byW ?_|refine byV ?_;intro w hw
 refine WX_seq (WX_region ?_)
 repeat first|refine byW ?_|refine byV ?_;intro w hw
 refine lBox ?_;intro bp w hw;repeat first|refine byW ?_|refine byV ?_;intro w hw
 have hw:Wd Γ1 (parQ bp at' n c 0 _ _::.blk b2 (.cells #[.slice none 0 0,.slice none 0 0] 29)::.blk b3 (.cells (enc p1).toArray 70)::.blk b4 (.cells #[.int .i64 e1] 42)::S) w:=hw
 refine WX_seq (WX_region ?_)
 repeat first|refine byW ?_|refine byV ?_;intro w hw
 refine lCall ?_;refine(Query_q hr ht hw).mono ?_
 clear hw;rintro r w ⟨Γ2,vs,vg,gs,hle2,rfl,hq,hw⟩
 obtain⟨ga,gn,gc,rfl,hgn,hgnc,hgc⟩:=hq.goals.shape;obtain⟨sa,sn,sc,rfl,hsn,hsnc,hsc⟩:=hq.sel.shape;refine⟨_,rfl,?_⟩;repeat first|refine byW ?_|refine byV ?_;intro w hw
 refine lStore (i:=0) ?_
 intro w hw;refine lStore (i:=1) ?_
 intro w hw;refine lStore (i:=2) ?_
 intro w hw;have hw:Wd Γ2 (.blk b2 (.cells #[.slice sa sn sc,.slice ga gn gc] 29)::.blk b3 (.cells (enc (⟨0,0⟩:PosT)).toArray 70)::.blk b4 (.cells #[.int .i64 0] 42)::S) w:=hw
 refine L_nil ?_
 refine WX_ret ?_
 intro a ha hsz;refine leaves_cons (by simp) rfl ((recQ_ret hw _ rfl).mono ?_)
 rintro e u' w ⟨rfl,rfl,hw⟩
 show Leaves _ _ _ _ [] .returning w
 exact⟨_,results_resL (vs:=[.agg #[.slice sa sn sc,.slice ga gn gc],.agg (enc (⟨0,0⟩:PosT)).toArray,.int .i64 0]) (by decide) (by rw[ha];exact⟨resC (i:=0) hw rfl rfl rfl,resC (i:=1) hw rfl rfl rfl,resS (i:=2) hw rfl rfl rfl,trivial⟩),Γ2,_,_,gs,hle.trans hle2,rfl,hq,hw.ds [0,0,0]⟩
end
end Go.Proofs.YtjkepmmcajbdhaaGreat
end
section
open Go Mk
namespace Go.Proofs.YtjkepmmcajbdhaaGreat
set_option maxHeartbeats 16000000
def awkT:ByteArray:=⟨#[115,101,108,101,99,116,32,88,32,119,104,101,114,101,32,112,40,88,44,32,89,41,44,32,112,40,89,44,32,95,41]⟩
def pQ:ByteArray:=⟨#[112]⟩
def xQ:ByteArray:=⟨#[88]⟩
def yQ:ByteArray:=⟨#[89]⟩
def intQ(i:Int):Val:=⟨1,i,⟨#[]⟩⟩
def awkQ:Query:=⟨[xQ],[relG pQ [⟨xQ,zVal⟩,⟨yQ,zVal⟩],relG pQ [⟨yQ,zVal⟩,⟨anyS,zVal⟩]]⟩
def awkD:List Fact:=[(pQ,[intQ 1,intQ 2]),(pQ,[intQ 2,intQ 3])]
theorem awkErr:(scanS awkT).2.2=0:=by decide +kernel
theorem awkVar:∀i,i<2→∀j,j<2→VarQ (tokQ (scanS awkT).1 (3+7*i+2+2*j)):=fun i hi j hj=>by
 have h1:i=0∨i=1:=by omega
 have h2:j=0∨j=1:=by omega
 rcases h1 with rfl|rfl <;> rcases h2 with rfl|rfl <;> exact⟨by decide +kernel,by decide +kernel,by decide +kernel,by decide +kernel,by decide +kernel⟩
theorem awkTwo:TwoQ (scanS awkT).1:=by
 refine⟨by decide +kernel,by decide +kernel,by decide +kernel,by decide +kernel,by decide +kernel,by decide +kernel,by decide +kernel,by decide +kernel,fun i hi=>?_,fun i hi=>?_⟩
 ·have h1:i=0∨i=1:=by omega
  have hv:=awkVar i hi
  have hc:∀j,j+1<2→isQ (scanS awkT).1 (3+7*i+3+2*j) 4 commaQ=true:=fun j hj=>by
   have h2:j=0:=by omega
   subst h2;rcases h1 with rfl|rfl <;> decide +kernel
  rcases h1 with rfl|rfl
  ·exact⟨by decide +kernel,by decide +kernel,by decide +kernel,by decide +kernel,by decide,by decide,hv,hc,by decide +kernel,by decide +kernel⟩
  ·exact⟨by decide +kernel,by decide +kernel,by decide +kernel,by decide +kernel,by decide,by decide,hv,hc,by decide +kernel,by decide +kernel⟩
 ·have h1:i=0∨i=1:=by omega
  rcases h1 with rfl|rfl <;> decide +kernel
theorem awkQuery:(⟨[(tokQ (scanS awkT).1 1).Text],goalsQ (scanS awkT).1 2⟩:Query)=awkQ:=by
 have h1:(tokQ (scanS awkT).1 1).Text=xQ:=by decide +kernel
 have h2:(tokQ (scanS awkT).1 3).Text=pQ:=by decide +kernel
 have h3:(tokQ (scanS awkT).1 10).Text=pQ:=by decide +kernel
 have h4:varsQ (scanS awkT).1 5 2=[⟨xQ,zVal⟩,⟨yQ,zVal⟩]:=by decide +kernel
 have h5:varsQ (scanS awkT).1 12 2=[⟨yQ,zVal⟩,⟨anyS,zVal⟩]:=by decide +kernel
 rw[h1];unfold goalsQ;show (⟨[xQ],[relG (tokQ (scanS awkT).1 3).Text (varsQ (scanS awkT).1 5 2),relG (tokQ (scanS awkT).1 10).Text (varsQ (scanS awkT).1 12 2)]⟩:Query)=_
 rw[h2,h3,h4,h5];rfl
theorem awkSolE:solveE awkD awkQ=0:=by decide +kernel
theorem awkSol:solveS awkD awkQ=[[intQ 1]]:=by
 unfold solveS;rw[if_pos awkSolE];have:rawS awkD awkQ=[[intQ 1]]:=by decide +kernel
 unfold solS;rw[this];rfl
theorem awkOk:QueryOk awkQ:=by
 have hv:∀s:ByteArray,s.size≤10→OpdOk ⟨s,zVal⟩:=fun s h=>⟨by show s.size≤100000;omega,zVal_ok⟩
 have h0:I64 0:=⟨by decide,by decide⟩
 refine⟨by decide,fun s hs=>?_,by decide,fun g hg=>?_⟩
 ·have:s=xQ:=by simpa[awkQ] using hs
  subst this;decide
 ·have:g=relG pQ [⟨xQ,zVal⟩,⟨yQ,zVal⟩]∨g=relG pQ [⟨yQ,zVal⟩,⟨anyS,zVal⟩]:=by simpa[awkQ] using hg
  rcases this with rfl|rfl
  ·refine⟨by decide,by decide,fun o ho=>?_,hv _ (by decide),hv _ (by decide),h0,h0,h0⟩
   have:o=⟨xQ,zVal⟩∨o=⟨yQ,zVal⟩:=by simpa[relG] using ho
   rcases this with rfl|rfl <;> exact hv _ (by decide)
  ·refine⟨by decide,by decide,fun o ho=>?_,hv _ (by decide),hv _ (by decide),h0,h0,h0⟩
   have:o=⟨yQ,zVal⟩∨o=⟨anyS,zVal⟩:=by simpa[relG] using ho
   rcases this with rfl|rfl <;> exact hv _ (by decide)
theorem awkFacts:∀f∈awkD,FactOk f:=fun f hf=>by
 have:f=(pQ,[intQ 1,intQ 2])∨f=(pQ,[intQ 2,intQ 3]):=by simpa[awkD] using hf
 rcases this with rfl|rfl
 ·refine⟨by decide,by decide,fun v hv=>?_⟩
  have:v=intQ 1∨v=intQ 2:=by simpa using hv
  rcases this with rfl|rfl <;> exact⟨by decide,by decide⟩
 ·refine⟨by decide,by decide,fun v hv=>?_⟩
  have:v=intQ 2∨v=intQ 3:=by simpa using hv
  rcases this with rfl|rfl <;> exact⟨by decide,by decide⟩
attribute [local irreducible] Calls cI cB scanS solveE solveS cFact
theorem pg_awake{Γ:Gho}:PG Tryz.prog Γ 9 [] (.bool true):=pg_free fun Γ w _ hw=>by
 refine calls_of_W Tryz.func9 rfl rfl ?_
 repeat first|refine byW ?_|refine byV ?_;intro w hw
 refine lBuildSlice [enc (intQ 1),enc (intQ 2)] ?_
 intro a9 w hw;repeat first|refine byW ?_|refine byV ?_;intro w hw
 refine lCall (vs:=[.string pQ,.slice (some a9) 2 2]) ?_
 refine(Fact_any Γ _ w _ pQ [intQ 1,intQ 2] (RdS.own (i:=0) hw rfl) (by decide) hw).mono ?_
 clear hw;rintro e w ⟨⟨fr,fa,fn,fc,xs⟩,rfl,hf1,hw⟩
 refine⟨_,rfl,?_⟩;have hf1:(fr,xs)=(pQ,[intQ 1,intQ 2]):=hf1
 obtain⟨Γ1,hle1,hfo1,hw⟩:=hw.freeze;have hfo1:FOk Γ1 ⟨fr,fa,fn,fc,xs⟩:=hfo1
 have hw:Wd Γ1 [] w:=hw.drop
 repeat first|refine byW ?_|refine byV ?_;intro w hw
 refine lBuildSlice [enc (intQ 2),enc (intQ 3)] ?_
 intro a13 w hw;repeat first|refine byW ?_|refine byV ?_;intro w hw
 refine lCall (vs:=[.string pQ,.slice (some a13) 2 2]) ?_
 refine(Fact_any Γ1 _ w _ pQ [intQ 2,intQ 3] (RdS.own (i:=0) hw rfl) (by decide) hw).mono ?_
 clear hw;rintro e w ⟨⟨gr,ga,gn,gc,ys⟩,rfl,hf2,hw⟩
 refine⟨_,rfl,?_⟩;have hf2:(gr,ys)=(pQ,[intQ 2,intQ 3]):=hf2
 obtain⟨Γ2,hle2,hfo2,hw⟩:=hw.freeze;have hfo2:FOk Γ2 ⟨gr,ga,gn,gc,ys⟩:=hfo2
 have hw:Wd Γ2 [] w:=hw.drop
 repeat first|refine byW ?_|refine byV ?_;intro w hw
 refine lBuildSlice [cF ⟨fr,fa,fn,fc,xs⟩,cF ⟨gr,ga,gn,gc,ys⟩] ?_
 intro a15 w hw;repeat first|refine byW ?_|refine byV ?_;intro w hw
 obtain⟨Γ3,hle3,hdb,hw⟩:=hw.freeze;have hfs:facts [(⟨fr,fa,fn,fc,xs⟩:FactH),⟨gr,ga,gn,gc,ys⟩]=awkD:=by
  show [(fr,xs),(gr,ys)]=_
  rw[hf1,hf2];rfl
 have hRL:RL Γ3 (.slice (some a15) 2 2) [(⟨fr,fa,fn,fc,xs⟩:FactH),⟨gr,ga,gn,gc,ys⟩]:=by
  refine⟨hdb,fun x hx=>?_⟩
  have hx2:x=⟨fr,fa,fn,fc,xs⟩∨x=⟨gr,ga,gn,gc,ys⟩:=by simpa using hx
  rcases hx2 with rfl|rfl
  ·exact⟨hfo1.mono (hle2.trans hle3),by show FactOk (fr,xs);rw[hf1];exact awkFacts _ (by simp[awkD])⟩
  ·exact⟨hfo2.mono hle3,by show FactOk (gr,ys);rw[hf2];exact awkFacts _ (by simp[awkD])⟩
 refine lCall (vs:=[.string awkT]) ?_
 refine(ParseQ_any awkT (by decide) awkErr awkTwo hw).mono ?_
 clear hw;rintro e w ⟨Γ4,vs,vg,gs,hle4,rfl,hq,hw⟩
 rw[awkQuery]at hq;obtain⟨qa,qn,qc,rfl,hqn,hqnc,hqc⟩:=hq.goals.shape;obtain⟨sa,sn,sc,rfl,hsn,hsnc,hsc⟩:=hq.sel.shape;refine⟨_,rfl,?_⟩;repeat first|refine byW ?_|refine byV ?_;intro w hw
 refine lAlloc ?_;intro b2 w hw;refine lAlloc ?_;intro b3 w hw;refine lStore (i:=1) ?_
 intro w hw;refine lStore (i:=0) ?_
 intro w hw;have hw:Wd Γ4 [.blk b2 (.cells #[.slice sa sn sc,.slice qa qn qc] 29),.blk b3 (.cells (enc (⟨0,0⟩:PosT)).toArray 70)] w:=hw.ps [1]
 repeat first|refine byW ?_|refine byV ?_;intro w hw
 refine lCall (vs:=[.slice (some a15) 2 2,.agg #[.slice sa sn sc,.slice qa qn qc]]) ?_
 refine(Solve_any (hRL.mono hle4) (by simp) hq awkOk hw).mono ?_
 clear hw;rintro e w ⟨Γ5,v,L,hle5,rfl,hL,hrows,hw⟩
 rw[hfs]at hrows ⊢
 rw[awkSol]at hrows;rw[awkSolE];obtain⟨pv,rfl⟩:∃pv,L=[(pv,[intQ 1])]:=by
  unfold rowsOf at hrows;match L,hrows with
  | [(pv,r)],h=>exact⟨pv,by simp at h;rw[h]⟩
  | [],h=>simp at h
  | _::_::_,h=>simp at h
 have hp:RepS Γ5 pv 3 [enc (intQ 1)]:=hL.ok (pv,[intQ 1]) (by simp)
 have hrep:RepS Γ5 v 1 [[pv]]:=hL.rep
 obtain⟨va,vn,vc,rfl,hvn,hvnc,hvc⟩:=hrep.shape;obtain⟨pa,pn,pc,rfl,hpn,hpnc,hpc⟩:=hp.shape;simp only[List.length_cons,List.length_nil,Nat.zero_add]at hvn hpn
 subst hvn hpn;refine⟨_,rfl,?_⟩;repeat first|refine byW ?_|refine byV ?_;intro w hw
 refine lG ?_ (hv:=fun hc=>by exact y_loadE1 (k:=0) (u:=.slice pa 1 pc) byOP (hL.rep.rd hw) rfl)
 repeat first|refine byW ?_|refine byV ?_;intro w hw
 refine lG ?_ (hv:=fun hc=>by exact y_loadE1 (k:=0) (u:=.slice pa 1 pc) byOP (hL.rep.rd hw) rfl)
 repeat first|refine byW ?_|refine byV ?_;intro w hw
 refine lG ?_ (hv:=fun hc=>by exact y_loadEf (k:=0) (f:=1) (u:=.int .i64 1) byOP (hp.rd hw) rfl rfl)
 repeat first|refine byW ?_|refine byV ?_;intro w hw
 exact⟨_,rfl,Γ5,hle1.trans (hle2.trans (hle3.trans (hle4.trans hle5))),ret_b rfl rfl,hw.ds [0,0]⟩
end Go.Proofs.YtjkepmmcajbdhaaGreat
end
section
open Go Mk
namespace Go.Proofs.YtjkepmmcajbdhaaGreat
set_option maxHeartbeats 4000000
theorem tabS_set{db:List Fact}{g:Goal}:tabS (setS db) g=tabS db g:=by
 have:setS (setS db)=setS db:=setA_idem cFact_ord db
 unfold tabS selS;rw[this]
theorem workN_set{db:List Fact}{gs:List Goal}:workN (setS db) gs=workN db gs:=by
 have:factor (setS db)=factor db:=by
  funext g
  unfold factor;rw[tabS_set]
 unfold workN;rw[this]
theorem light_work{db:List Fact}{q:Query}(h:lightQ db q=true)(h0:valE q=0):workN db q.Goals≤20000:=by
 unfold lightQ at h;rw[decide_eq_false (by omega:¬valE q≠0),Bool.false_or,decide_eq_true_eq]at h
 unfold workI at h;rw[workN_set]at h;split at h <;> omega
theorem solveE_light{db:List Fact}{q:Query}(h:lightQ db q=true):solveE db q=valE q:=by
 unfold solveE;by_cases h0:valE q=0
 ·have:=light_work h h0
  rw[if_neg (by omega),if_neg (by omega),h0]
 ·rw[if_pos h0]
theorem srch_all{fin:Env→List (List Val)}{P:List Val→Prop}(h:∀e x,x∈fin e→P x):∀(r:List (Goal×List Fact)) (e:Env) (x:List Val),x∈srch fin r e→P x
 | [],e,x,hx=>h e x hx
 | (g,t)::r,e,x,hx=>by
  have ih:=srch_all h r
  have hw:∀os vs,x∈withS (srch fin r) e os vs→P x:=fun os vs hx=>by
   unfold withS at hx;split at hx
   ·exact ih _ _ hx
   ·cases hx
  unfold srch at hx;by_cases k1:g.Kind=1
  ·rw[if_pos k1]at hx;obtain⟨f,hf1,hf2⟩:=List.mem_flatMap.1 hx
   split at hf2
   ·exact hw _ _ hf2
   ·cases hf2
  rw[if_neg k1]at hx;by_cases k4:g.Kind=4
  ·rw[if_pos k4]at hx;split at hx
   ·split at hx
    ·exact ih _ _ hx
    ·cases hx
   ·obtain⟨n,hn1,hn2⟩:=List.mem_flatMap.1 hx
    exact hw _ _ hn2
  rw[if_neg k4]at hx;exact ih _ _ hx
theorem cLV_ord:Ord3 (cL cV):=cV_ord.list
theorem solS_mem{db:List Fact}{q:Query}{x:List Val}:x∈solS db q↔x∈rawS db q:=setA_mem cLV_ord
theorem solS_len{db:List Fact}{q:Query}{x:List Val}(h:x∈solveS db q):x.length=q.Sel.length:=by
 unfold solveS at h;split at h
 ·refine srch_all (P:=fun x=>x.length=q.Sel.length) (fun e y hy=>?_) _ _ _ (solS_mem.1 h)
  unfold finS at hy;split at hy
  ·rw[List.mem_singleton.1 hy];unfold rowS;simp
  ·cases hy
 ·cases h
end Go.Proofs.YtjkepmmcajbdhaaGreat
end
section
open Go Mk
namespace Go.Proofs.YtjkepmmcajbdhaaGreat
set_option maxHeartbeats 16000000
attribute [local irreducible] Calls cI cB scanS solveE solveS cFact lightQ fewQ fewB
instance pg_awk(Γ:Gho):PG Tryz.prog Γ 9 [] (.bool true):=pg_awake
theorem pg_Few{Γ:Gho}{v:Value}(fs:List FactH)(hok:∀f∈fs,FOk Γ f)(hr:RepS Γ v 2 (fs.map cF)):PG Tryz.prog Γ 7 [v] (.bool (fewB (facts fs))):=⟨fun S w hw=>Few_any fs hok hr.rdS hw⟩
end Go.Proofs.YtjkepmmcajbdhaaGreat
end
section
open Go Mk
namespace Go.Proofs.YtjkepmmcajbdhaaGreat
set_option maxHeartbeats 4000000
structure Valid(q:Query):Prop where
 lim:okLim q=true
 shape:okShape q=true
 names:okNames q=true
 num:okNum q=true
 nodup:q.Sel.Nodup
 safe:okSafe q=true
theorem valE_zero{q:Query}:valE q=0↔Valid q:=by
 unfold valE;constructor
 ·intro h;by_cases h1:okLim q=false
  ·rw[if_pos h1]at h;cases h
  rw[if_neg h1]at h;by_cases h2:okShape q=false
  ·rw[if_pos h2]at h;cases h
  rw[if_neg h2]at h;by_cases h3:okNames q=false
  ·rw[if_pos h3]at h;cases h
  rw[if_neg h3]at h;by_cases h4:okNum q=false
  ·rw[if_pos h4]at h;cases h
  rw[if_neg h4]at h;by_cases h5:¬q.Sel.Nodup
  ·rw[if_pos h5]at h;cases h
  rw[if_neg h5]at h;by_cases h6:okSafe q=false
  ·rw[if_pos h6]at h;cases h
  exact⟨by simpa using h1,by simpa using h2,by simpa using h3,by simpa using h4,Classical.not_not.1 h5,by simpa using h6⟩
 ·rintro⟨h1,h2,h3,h4,h5,h6⟩;rw[if_neg (by rw[h1];decide),if_neg (by rw[h2];decide),if_neg (by rw[h3];decide),if_neg (by rw[h4];decide),if_neg (fun hh=>hh h5),if_neg (by rw[h6];decide)]
end Go.Proofs.YtjkepmmcajbdhaaGreat
end
section
open Go
namespace Mk
attribute [local irreducible] Calls
section
variable {P:Program}{n:Nat}{ops:List Oper}{Γ:Gho}{K:List Res}{wr tc stab:List (List Nat)}{Q:Fr→World→Prop}{i:Nat}{rest:List Oper}{ρ:Fr}{M:Nat→Fr→List Res}{T:Type}
variable {ty:TypeId}{pos:String}{es:Array Edge}
end
section
variable {P:Program}{n:Nat}{opa:Array Oper}{QQ:Exit→Fr→World→Prop}{ρ:Fr}{w:World}{rest:List Oper}{Γ:Gho}{S:List Res}
variable {d:Option Tmp}{ty:TypeId}{pos:String}{es:Array Edge}{f j dj:Nat}{want c:Bool}{args:List Operand}{tys:Array TypeId}{vs:List Value}{v:Value}
attribute [local semireducible] gv
theorem lPgC[FnOk P f](h:∀w',Wd Γ S w'→L P n opa QQ rest (putO ρ d (gv c v)) w')(hp:c=true→PG P Γ f vs v)(hw:Wd Γ S w:=by exact hw)(hj:(opa[j]?).bind (·.dst)=some dj:=by exact rfl)(hjn:okDst n (some dj)=true:=by exact rfl)(hc:GuardIs (ρ dj) want c:=by exact byGC)(hd:okDst n d=true:=by exact rfl)(ha:c=true→EvL ρ args vs:=by intro hc;exact byEVG) :
  L P n opa QQ (⟨d,.call { callee:=.value (.func f),args:=args.toArray,argTypes:=tys },ty,pos,es,some (j,want)⟩::rest) ρ w:=
 lGC hj hjn hd hc (fun hct=>by
  haveI:=hp hct
  exact lPg (fun w' hw'=>by have:=h w' hw';rw[hct]at this;exact this) hw (ha hct) hd) (fun hcf=>by have:=h w hw;rw[hcf]at this;exact this)
end
end Mk
end
section
open Go Mk
namespace Go.Proofs.YtjkepmmcajbdhaaGreat
set_option maxHeartbeats 16000000
attribute [local irreducible] Calls cI cB scanS solveE solveS cFact lightQ fewQ fewB valE
theorem lawSt{a b:Bool}(h:((!a || !b)=false)):a=true∧b=true:=by cases a <;> cases b <;> simp_all
end Go.Proofs.YtjkepmmcajbdhaaGreat
end
section
open Go Mk
namespace Go.Proofs.YtjkepmmcajbdhaaGreat
set_option maxHeartbeats 4000000
section
variable {α:Type}{K:α→Bool}{N:α→Int}{l:List α}{x b:α}{best bs:List α}
def InvM(K:α→Bool)(N:α→Int)(l best:List α):Prop:=
 (best=[]∧∀r∈l,K r=false)∨∃m,(∀r∈l,K r=true→m≤N r)∧(∃r∈l,K r=true∧N r=m)∧best=l.filter fun r=>K r&&decide (N r=m)
def isMin(K:α→Bool)(N:α→Int)(l:List α)(r:α):Bool:=K r&&l.all fun r'=>!K r'||decide (N r≤N r')
theorem InvM.nil:InvM K N [] []:=Or.inl ⟨rfl,fun r h=>(by cases h)⟩
theorem mem_snoc{r:α}:r∈l++[x]↔r∈l∨r=x:=by simp
theorem InvM.skip(h:InvM K N l best)(hk:K x=false):InvM K N (l++[x]) best:=by
 rcases h with⟨h1,h2⟩|⟨m,h1,⟨r,h2,h3⟩,h4⟩
 ·exact Or.inl ⟨h1,fun r hr=>(mem_snoc.1 hr).elim (h2 r) fun e=>by rw[e];exact hk⟩
 ·refine Or.inr ⟨m,fun r hr hkr=>?_,⟨r,mem_snoc.2 (Or.inl h2),h3⟩,?_⟩
  ·rcases mem_snoc.1 hr with hr|hr
   ·exact h1 r hr hkr
   ·rw[hr,hk]at hkr;cases hkr
  ·rw[List.filter_append,←h4];simp[hk]
theorem filter_none{p:α→Bool}(h:∀r∈l,p r=false):l.filter p=[]:=List.filter_eq_nil_iff.2 fun r hr=>by rw[h r hr];decide
theorem InvM.new(hk:K x=true)(h:∀r∈l,K r=true→N x<N r):InvM K N (l++[x]) [x]:=by
 refine Or.inr ⟨N x,fun r hr hkr=>?_,⟨x,mem_snoc.2 (Or.inr rfl),hk,rfl⟩,?_⟩
 ·rcases mem_snoc.1 hr with hr|hr
  ·exact Int.le_of_lt (h r hr hkr)
  ·rw[hr];exact Int.le_refl _
 ·rw[List.filter_append,filter_none fun r hr=>?_]
  ·simp[hk]
  ·cases hkr:K r with
   | false=>rfl
   | true=>
    have:=h r hr hkr
    rw[Bool.true_and,decide_eq_false_iff_not];omega
theorem InvM.first(h:InvM K N l [])(hk:K x=true):InvM K N (l++[x]) [x]:=by
 refine InvM.new hk fun r hr hkr=>?_
 rcases h with⟨-,h2⟩|⟨m,-,⟨r,h2,h3,h5⟩,h4⟩
 ·rw[h2 r hr]at hkr;cases hkr
 ·have:r∈([]:List α):=by rw[h4];exact List.mem_filter.2 ⟨h2,by simp[h3,h5]⟩
  cases this
theorem InvM.head(h:InvM K N l (b::bs)):(∀r∈l,K r=true→N b≤N r)∧b::bs=l.filter fun r=>K r&&decide (N r=N b):=by
 rcases h with⟨h1,-⟩|⟨m,h1,-,h4⟩
 ·cases h1
 ·have hb:b∈l.filter fun r=>K r&&decide (N r=m):=by rw[←h4];simp
  have hbm:N b=m:=by have:=(List.mem_filter.1 hb).2;simp at this;exact this.2
  subst hbm;exact⟨h1,h4⟩
theorem InvM.less(h:InvM K N l (b::bs))(hk:K x=true)(hlt:N x<N b):InvM K N (l++[x]) [x]:=
 InvM.new hk fun r hr hkr=>by have:=h.head.1 r hr hkr;omega
theorem InvM.bmem(h:InvM K N l (b::bs)):b∈l∧K b=true:=by
 have hb:b∈l.filter fun r=>K r&&decide (N r=N b):=by rw[←h.head.2];simp
 have:=List.mem_filter.1 hb
 exact⟨this.1,by have:=this.2;simp at this;exact this⟩
theorem InvM.more(h:InvM K N l (b::bs))(hgt:N b<N x):InvM K N (l++[x]) (b::bs):=by
 obtain⟨h1,h2⟩:=h.head;obtain⟨h3,h4⟩:=h.bmem;refine Or.inr ⟨N b,fun r hr hkr=>?_,⟨b,mem_snoc.2 (Or.inl h3),h4,rfl⟩,?_⟩
 ·rcases mem_snoc.1 hr with hr|hr
  ·exact h1 r hr hkr
  ·rw[hr];omega
 ·rw[List.filter_append,←h2];have:¬N x=N b:=by omega
  simp[this]
theorem InvM.same(h:InvM K N l (b::bs))(hk:K x=true)(he:N x=N b):InvM K N (l++[x]) (b::bs++[x]):=by
 obtain⟨h1,h2⟩:=h.head;obtain⟨h3,h4⟩:=h.bmem;refine Or.inr ⟨N b,fun r hr hkr=>?_,⟨b,mem_snoc.2 (Or.inl h3),h4,rfl⟩,?_⟩
 ·rcases mem_snoc.1 hr with hr|hr
  ·exact h1 r hr hkr
  ·rw[hr];omega
 ·rw[List.filter_append,←h2];simp[hk,he]
theorem InvM.final(h:InvM K N l best):best=l.filter (isMin K N l):=by
 rcases h with⟨h1,h2⟩|⟨m,h1,⟨r0,h2,h3,h5⟩,h4⟩
 ·rw[h1,filter_none fun r hr=>by unfold isMin;rw[h2 r hr];rfl]
 ·rw[h4];refine List.filter_congr fun r hr=>?_
  unfold isMin;cases hk:K r with
  | false=>rfl
  | true=>
   rw[Bool.true_and,Bool.true_and];by_cases hm:N r=m
   ·rw[decide_eq_true hm];refine(List.all_eq_true.2 fun r' hr'=>?_).symm
    cases hk':K r' with
    | false=>rfl
    | true=>rw[hm];simpa using h1 r' hr' hk'
   ·rw[decide_eq_false hm];refine Eq.symm (Bool.eq_false_iff.2 fun hall=>hm ?_)
    have:=(List.all_eq_true.1 hall) r0 h2
    rw[h3,h5]at this;have:=h1 r hr hk
    simp at *
    omega
end
def atR(p:Nat)(r:List Val):Val:=r.getD p default
def kR(p:Nat)(r:List Val):Bool:=decide ((atR p r).Kind=1)
def nR(p:Nat)(r:List Val):Int:=(atR p r).Num
theorem atR_get{p:Nat}{r:List Val}(h:p<r.length):r[p]? = some (atR p r):=by
 unfold atR;rw[List.getD_eq_getElem?_getD,List.getElem?_eq_getElem h];rfl
theorem solve_len{db:List Fact}{q:Query}(h:solveE db q=0):(solveS db q).length≤1000000:=by
 have h0:valE q=0∧workN db q.Goals≤1000000:=by
  unfold solveE at h;by_cases h1:valE q=0
  ·rw[if_neg (by omega)]at h
   refine⟨h1,?_⟩
   split at h
   ·cases h
   ·omega
  ·rw[if_pos h1]at h;exact absurd h h1
 unfold solveS;rw[if_pos h];unfold solS;refine Nat.le_trans setA_len ?_
 unfold rawS;refine Nat.le_trans (srch_len (fun e=>finS_len e) _ (fun gt hgt h4=>?_) _) ?_
 ·obtain⟨g,hg,rfl⟩:=List.mem_map.1 hgt
  exact(valE_num h0.1 g hg h4).1
 ·rw[←workN_prod];exact h0.2
end Go.Proofs.YtjkepmmcajbdhaaGreat
end
section
open Go Mk
namespace Go.Proofs.YtjkepmmcajbdhaaGreat
set_option maxHeartbeats 16000000
attribute [local irreducible] Calls cI cB scanS solveE solveS cFact valE
theorem pg_Index{Γ:Gho}{vs:Value}{l:List ByteArray}{s:ByteArray}{o:Int}(hr:RepS Γ vs 1 (strRows l))(ho:(s∉l∧o = -1)∨∃p:Nat,l[p]? = some s∧(∀j,j<p→l[j]?≠some s)∧o=p):PG Tryz.prog Γ 47 [vs,.string s] (.int .i64 o):=⟨fun S w hw=>by
 obtain⟨a,n,c,rfl,hn,hnc,hc⟩:=hr.shape;simp only[List.length_map]at hn
 refine calls_of_W Tryz.func47 rfl rfl ?_
 repeat first|refine byW ?_|refine byV ?_;intro w hw
 refine W_loop (fun μ ρ w=>∃(k:Nat),μ+k=n∧Has ρ [(0,.slice a n c),(1,.string s),(7,.int .i64 n),(8,.int .i64 k)]∧(∀j,j<k→l[j]?≠some s)∧Wd Γ S w) n ⟨0,by omega,⟨rfl,rfl,rfl,rfl,trivial⟩,fun j hj=>by omega,hw⟩ ?_
 clear hw;rintro μ ρ w ⟨k,hk,hρ,hno,hw⟩
 rw[hρ.eq];clear hρ;repeat first|refine byW ?_|refine byV ?_;intro w hw
 refine W_cond rfl (fun h=>?_) (fun h=>?_)
 ·have hkn:k<n:=by have:=of_decide_eq_true h;omega
  clear h;obtain⟨x,hx⟩:=get_lt (l:=l) (k:=k) (by omega)
  repeat first|refine byW ?_|refine byV ?_;intro w hw
  refine W_cond rfl (fun h2=>?_) (fun h2=>?_)
  ·have h2:s=x:=of_decide_eq_true h2
   repeat first|refine byW ?_|refine byV ?_;intro w hw
   refine⟨_,rfl,?_,hw⟩
   have:o=k:=by
    rcases ho with⟨h3,-⟩|⟨p,h3,h4,h5⟩
    ·exact absurd (List.mem_of_getElem? hx) (by rw[←h2];exact h3)
    ·have e1:¬p<k:=fun h=>hno p h h3
     have e2:¬k<p:=fun h=>h4 k h (by rw[hx,h2])
     omega
   rw[this];rfl
  ·have h2:¬s=x:=of_decide_eq_false h2
   repeat first|refine byW ?_|refine byV ?_;intro w hw
   refine⟨μ-1,by omega,k+1,by omega,⟨rfl,rfl,rfl,rfl,trivial⟩,fun j hj=>?_,hw⟩
   by_cases e:j=k
   ·subst e;rw[hx];exact fun h=>h2 (Option.some.inj h).symm
   ·exact hno j (by omega)
 ·have hkn:n≤k:=by have:=of_decide_eq_false h;omega
  repeat first|refine byW ?_|refine byV ?_;intro w hw
  refine⟨_,rfl,?_,hw⟩
  have:o = -1:=by
   rcases ho with⟨-,h⟩|⟨p,h3,-,-⟩
   ·exact h
   ·have:=(List.getElem?_eq_some_iff.1 h3).1
    exact absurd h3 (hno p (by omega))
  rw[this];rfl⟩
def minR(db:List Fact)(q:Query)(p:Nat):List (List Val):=(solveS db q).filter (isMin (kR p) (nR p) (solveS db q))
theorem Minimum_none{Γ:Gho}{S:List Res}{w:World}{va vs vg:Value}{fs:List FactH}{gs:List GoalH}{q:Query}{s:ByteArray}(hF:RL Γ va fs)(hl:fs.length≤50000)(hq:QR Γ vs vg gs q)(hok:QueryOk q)(hE:solveE (facts fs) q=0)(hs:s∉q.Sel)(hw:Wd Γ S w) :
  Calls Tryz.prog 19 #[va,.agg #[vs,vg],.string s] w fun e w'=>∃Γ',Γ.le Γ'∧e=.returned (.tuple #[.slice none 0 0,.int .i64 57])∧Wd Γ' S w':=by
 obtain⟨ga,gn,gc,rfl,hgn,hgnc,hgc⟩:=hq.goals.shape;obtain⟨sa,sn,sc,rfl,hsn,hsnc,hsc⟩:=hq.sel.shape;obtain⟨fa,fc,rfl,hfc1,hfc2⟩:=hF.len;refine calls_of_W Tryz.func19 rfl rfl ?_
 repeat first|refine byW ?_|refine byV ?_;intro w hw
 refine lBox ?_;intro b4 w hw;have hw:Wd Γ (.blk b4 (.cells #[.slice sa sn sc,.slice ga gn gc] 29)::S) w:=hw
 repeat first|refine byW ?_|refine byV ?_;intro w hw
 refine lCall (vs:=[.slice fa fs.length fc,.agg #[.slice sa sn sc,.slice ga gn gc]]) ?_
 refine(Solve_any hF hl hq hok hw).mono ?_
 clear hw;rintro e w ⟨Γ1,v,L,hle1,rfl,hR,hr,hw⟩
 rw[hE];refine⟨_,rfl,?_⟩;have pI:PG Tryz.prog Γ1 47 [.slice sa sn sc,.string s] (.int .i64 (-1)):=pg_Index (hq.sel.mono hle1) (Or.inl ⟨hs,rfl⟩)
 repeat first|refine byW ?_|refine byV ?_;intro w hw
 refine W_cond rfl (fun h=>by cases h) (fun _=>?_)
 repeat first|refine byW ?_|refine byV ?_;intro w hw
 refine W_cond rfl (fun _=>?_) (fun h=>absurd h (by decide))
 repeat first|refine byW ?_|refine byV ?_;intro w hw
 exact⟨_,rfl,Γ1,hle1,rfl,hw.drop⟩
theorem Minimum_any{Γ:Gho}{S:List Res}{w:World}{va vs vg:Value}{fs:List FactH}{gs:List GoalH}{q:Query}{s:ByteArray}{p:Nat}(hF:RL Γ va fs)(hl:fs.length≤50000)(hq:QR Γ vs vg gs q)(hok:QueryOk q)(hE:solveE (facts fs) q=0)(hs:q.Sel[p]? = some s)(hno:∀j,j<p→q.Sel[j]?≠some s)(hw:Wd Γ S w) :
  Calls Tryz.prog 19 #[va,.agg #[vs,vg],.string s] w fun e w'=>∃(Γ':Gho) (v:Value) (L:List RowT),Γ.le Γ'∧e=.returned (.tuple #[v,.int .i64 0])∧RW Γ' v L∧rowsOf L=minR (facts fs) q p∧Wd Γ' S w':=by
 obtain⟨ga,gn,gc,rfl,hgn,hgnc,hgc⟩:=hq.goals.shape;obtain⟨sa,sn,sc,rfl,hsn,hsnc,hsc⟩:=hq.sel.shape;obtain⟨fa,fc,rfl,hfc1,hfc2⟩:=hF.len;have hps:=(List.getElem?_eq_some_iff.1 hs).1
 have hsl:=hok.sel
 refine calls_of_W Tryz.func19 rfl rfl ?_
 repeat first|refine byW ?_|refine byV ?_;intro w hw
 refine lBox ?_;intro b4 w hw;have hw:Wd Γ (.blk b4 (.cells #[.slice sa sn sc,.slice ga gn gc] 29)::S) w:=hw
 repeat first|refine byW ?_|refine byV ?_;intro w hw
 refine lCall (vs:=[.slice fa fs.length fc,.agg #[.slice sa sn sc,.slice ga gn gc]]) ?_
 refine(Solve_any hF hl hq hok hw).mono ?_
 clear hw;rintro e w ⟨Γ1,v,L,hle1,rfl,hR,hr,hw⟩
 rw[hE];refine⟨_,rfl,?_⟩;have pI:PG Tryz.prog Γ1 47 [.slice sa sn sc,.string s] (.int .i64 p):=pg_Index (hq.sel.mono hle1) (Or.inr ⟨p,hs,hno,rfl⟩)
 obtain⟨a,n,c,rfl,hn,hnc,hc⟩:=hR.rep.shape;simp only[List.length_map]at hn
 have hrep:=hR.rep
 have hLn:L.length≤1000000:=by
  have:=solve_len hE
  rw[←hr]at this;unfold rowsOf at this;rwa [List.length_map]at this
 have hlen:∀x∈L,x.2.length=q.Sel.length:=fun x hx=>solS_len (by rw[←hr];exact List.mem_map.2 ⟨x,hx,rfl⟩)
 repeat first|refine byW ?_|refine byV ?_;intro w hw
 refine W_cond rfl (fun h=>by cases h) (fun _=>?_)
 repeat first|refine byW ?_|refine byV ?_;intro w hw
 refine W_cond rfl (fun h=>absurd (of_decide_eq_true h) (by omega)) (fun _=>?_)
 have hw:=Wd.addNil (a:=none) (E:=23) (sz:=1) hw
 have hw:Wd Γ1 (.own (.slice none 0 0) 23 1 (([]:List RowT).map cR)::.blk b4 (.cells #[.slice sa sn sc,.slice ga gn gc] 29)::S) w:=hw
 repeat first|refine byW ?_|refine byV ?_;intro w hw
 refine W_loop (fun μ ρ w=>∃(k:Nat) (ba:Option Addr) (bn bc:Nat) (B:List RowT),μ+k=n∧Has ρ [(4,.pointer (some ⟨b4,0,none⟩)),(10,.int .i64 p),(11,.slice ba bn bc),(30,.slice a n c),(31,.int .i64 n),(32,.int .i64 k)]∧InvM (fun x:RowT=>kR p x.2) (fun x=>nR p x.2) (L.take k) B∧(∀x∈B,x∈L)∧B.length≤k∧Wd Γ1 (.own (.slice ba bn bc) 23 1 (B.map cR)::.blk b4 (.cells #[.slice sa sn sc,.slice ga gn gc] 29)::S) w) n ⟨0,none,0,0,[],by omega,⟨rfl,rfl,rfl,rfl,rfl,rfl,trivial⟩,by rw[List.take_zero];exact InvM.nil,fun x hx=>(by cases hx),Nat.zero_le _,hw⟩ ?_
 clear hw;rintro μ ρ w ⟨k,ba,bn,bc,B,hk,hρ,hinv,hB,hBk,hw⟩
 rw[hρ.eq];clear hρ;repeat first|refine byW ?_|refine byV ?_;intro w hw
 refine W_cond rfl (fun h=>?_) (fun h=>?_)
 ·have hkn:k<n:=by have:=of_decide_eq_true h;omega
  clear h;obtain⟨⟨xv,xr⟩,hx⟩:=get_lt (l:=L) (k:=k) (by omega)
  have hxm:=List.mem_of_getElem? hx
  have hxo:RepS Γ1 xv 3 (xr.map enc):=hR.ok _ hxm
  have hxl:xr.length=q.Sel.length:=hlen _ hxm
  obtain⟨xa,xn,xc,rfl,hxn,hxnc,hxc⟩:=hxo.shape;rw[List.length_map]at hxn;have hvp:xr[p]? = some (atR p xr):=atR_get (by omega)
  have htk:L.take (k+1)=L.take k++[(.slice xa xn xc,xr)]:=by rw[List.take_add_one,hx];rfl
  repeat first|refine byW ?_|refine byV ?_;intro w hw
  refine lAlloc ?_;intro b14 w hw;refine lStore ?_;intro w hw;have hw:Wd Γ1 (.blk b14 (.cells (enc (atR p xr)).toArray 35)::.own (.slice ba bn bc) 23 1 (B.map cR)::.blk b4 (.cells #[.slice sa sn sc,.slice ga gn gc] 29)::S) w:=hw
  have hbn:bn=B.length:=by obtain⟨_,_,_,h1,h2,_⟩:=hw.own_shape (i:=1) rfl;cases h1;simpa using h2
  obtain⟨pa,pn,pc,br,hb⟩:∃(pa:Option Addr) (pn pc:Nat) (br:List Val),0<bn→(B[0]? = some (.slice pa pn pc,br)∧RepS Γ1 (.slice pa pn pc) 3 (br.map enc)∧br.length=q.Sel.length):=by
   cases B with
   | nil=>exact⟨none,0,0,[],fun h=>by rw[hbn]at h;exact absurd h (by decide)⟩
   | cons y B=>
    obtain⟨yv,yr⟩:=y;have hym:=hB (yv,yr) (by simp)
    have hyo:RepS Γ1 yv 3 (yr.map enc):=hR.ok _ hym
    obtain⟨ya,yn,yc,rfl,-,-,-⟩:=hyo.shape;exact⟨ya,yn,yc,yr,fun _=>⟨rfl,hyo,hlen _ hym⟩⟩
  have hbI:decide ((0:Int)<(bn:Int))=true→0<bn:=fun h=>by have:=of_decide_eq_true h;omega
  have hbl:0<bn→pn=q.Sel.length:=fun h=>by
   obtain⟨-,h2,h3⟩:=hb h
   obtain⟨_,_,_,e1,e2,-,-⟩:=h2.shape;cases e1
   rw[List.length_map]at e2;omega
  repeat first|refine byW ?_|refine byV ?_;intro w hw
  refine W_cond rfl (fun h=>?_) (fun h=>?_)
  ·have hk0:kR p xr=false:=by
    have h:decide ((atR p xr).Kind≠1)=true:=h
    unfold kR;rw[decide_eq_false_iff_not];exact of_decide_eq_true h
   repeat first|refine byW ?_|refine byV ?_;intro w hw
   exact⟨μ-1,by omega,k+1,ba,bn,bc,B,by omega,⟨rfl,rfl,rfl,rfl,rfl,rfl,trivial⟩,by rw[htk];exact hinv.skip hk0,hB,by omega,hw.drop⟩
  have hk0:kR p xr=true:=by
   have h:decide ((atR p xr).Kind≠1)=false:=h
   unfold kR;rw[decide_eq_true_eq];exact Classical.not_not.1 (of_decide_eq_false h)
  clear h;repeat first|refine byW ?_|refine byV ?_;intro w hw
  refine W_quiet (by kernel_rfl) (by kernel_rfl) hw ?_
  refine byQ ?_;refine qG ?_ (hy:=by intro hc w hw;exact y_loadE1 (k:=0) (u:=.slice pa pn pc) byOP (Wd.own_rd (i:=1) hw rfl) (rows_map (hb (hbI hc)).1))
  refine byQ ?_;refine qG ?_ (hy:=by intro hc w hw;exact y_idxD ((hb (hbI hc)).2.1.rd hw) byOP byOP byHC (by have:=hbl (hbI hc);omega) (by have:=hbl (hbI hc);have:=(hb (hbI hc)).2.2;rw[List.length_map];omega))
  refine byQ ?_;refine qG ?_ (hy:=by intro hc w hw;exact y_loadEf (k:=p) (f:=1) (u:=.int .i64 (nR p br)) byOP ((hb (hbI hc)).2.1.rd hw) (rows_map (atR_get (by have:=(hb (hbI hc)).2.2;omega))) rfl)
  refine byQ ?_;clear hw;intro w hw;refine W_cond rfl (fun h=>?_) (fun h=>?_)
  ·have h:decide ((0:Int)<(bn:Int))=true∧nR p xr<nR p br:=by
    have h:(decide ((0:Int)<(bn:Int))&&decide (nR p xr<nR p br))=true:=h
    rw[Bool.and_eq_true,decide_eq_true_eq (p:=nR p xr<nR p br)]at h;exact h
   obtain⟨hb1,-,-⟩:=hb (hbI h.1)
   obtain⟨bs,rfl⟩:∃bs,B=(.slice pa pn pc,br)::bs:=by
    cases B with
    | nil=>cases hb1
    | cons y bs=>exact⟨bs,by rw[show y=_ from Option.some.inj hb1]⟩
   have hw:=Wd.addNil (a:=none) (E:=23) (sz:=1) (hw.dropAt 1)
   have hw:Wd Γ1 (.blk b14 (.cells (enc (atR p xr)).toArray 35)::.own (.slice none 0 0) 23 1 (([]:List RowT).map cR)::.blk b4 (.cells #[.slice sa sn sc,.slice ga gn gc] 29)::S) w:=hw.ps [1]
   have hno0:∀x∈([]:List RowT),x∈L:=fun x hx=>by cases hx
   repeat first|refine byW ?_|refine byV ?_;intro w hw
   refine lBuildSlice [[.slice xa xn xc]] ?_
   intro q2 w hw;refine lApp (i:=2) (rows2:=[[.slice xa xn xc]]) ?_ (Wd.own_rd (i:=0) hw rfl)
   intro vt w hw;obtain⟨za,zn,zc,rfl,-,-,-⟩:=hw.own_shape (i:=2) rfl
   have hw:Wd Γ1 (.own (.slice (some q2) 1 1) 23 1 [[.slice xa xn xc]]::.blk b14 (.cells (enc (atR p xr)).toArray 35)::.own (.slice za zn zc) 23 1 ((([]:List RowT)++[((.slice xa xn xc,xr):RowT)]).map cR)::.blk b4 (.cells #[.slice sa sn sc,.slice ga gn gc] 29)::S) w:=by rw[List.map_append];exact hw
   repeat first|refine byW ?_|refine byV ?_;intro w hw
   exact⟨μ-1,by omega,k+1,za,zn,zc,([]:List RowT)++[((.slice xa xn xc,xr):RowT)],by omega,⟨rfl,rfl,rfl,rfl,rfl,rfl,trivial⟩,by rw[htk];exact hinv.less hk0 h.2,fun x hx=>(List.mem_append.1 hx).elim (hno0 x) fun e=>by rw[List.mem_singleton.1 e];exact hxm,by rw[List.length_append];show _+1≤k+1;first|omega|simp,hw.ds [0,0]⟩
  have hnl:0<bn→nR p br≤nR p xr:=fun h0=>by
   have h:(decide ((0:Int)<(bn:Int))&&decide (nR p xr<nR p br))=false:=h
   rw[decide_eq_true (by omega:(0:Int)<(bn:Int)),Bool.true_and,decide_eq_false_iff_not]at h
   omega
  clear h;repeat first|refine byW ?_|refine byV ?_;intro w hw
  refine W_quiet (by kernel_rfl) (by kernel_rfl) hw ?_
  refine byQ ?_;refine qG ?_ (hy:=by intro hc w hw;exact y_loadE1 (k:=0) (u:=.slice pa pn pc) byOP (Wd.own_rd (i:=1) hw rfl) (rows_map (hb (hbI hc)).1))
  refine byQ ?_;refine qG ?_ (hy:=by intro hc w hw;exact y_idxD ((hb (hbI hc)).2.1.rd hw) byOP byOP byHC (by have:=hbl (hbI hc);omega) (by have:=hbl (hbI hc);have:=(hb (hbI hc)).2.2;rw[List.length_map];omega))
  refine byQ ?_;refine qG ?_ (hy:=by intro hc w hw;exact y_loadEf (k:=p) (f:=1) (u:=.int .i64 (nR p br)) byOP ((hb (hbI hc)).2.1.rd hw) (rows_map (atR_get (by have:=(hb (hbI hc)).2.2;omega))) rfl)
  refine byQ ?_;clear hw;intro w hw;refine W_cond rfl (fun h=>?_) (fun h=>?_)
  ·have h:decide ((0:Int)<(bn:Int))=true∧nR p br<nR p xr:=by
    have h:(decide ((0:Int)<(bn:Int))&&decide (nR p br<nR p xr))=true:=h
    rw[Bool.and_eq_true,decide_eq_true_eq (p:=nR p br<nR p xr)]at h;exact h
   obtain⟨hb1,-,-⟩:=hb (hbI h.1)
   obtain⟨bs,rfl⟩:∃bs,B=(.slice pa pn pc,br)::bs:=by
    cases B with
    | nil=>cases hb1
    | cons y bs=>exact⟨bs,by rw[show y=_ from Option.some.inj hb1]⟩
   repeat first|refine byW ?_|refine byV ?_;intro w hw
   exact⟨μ-1,by omega,k+1,ba,bn,bc,_,by omega,⟨rfl,rfl,rfl,rfl,rfl,rfl,trivial⟩,by rw[htk];exact hinv.more h.2,hB,by omega,hw.drop⟩
  have hng:0<bn→nR p xr≤nR p br:=fun h0=>by
   have h:(decide ((0:Int)<(bn:Int))&&decide (nR p br<nR p xr))=false:=h
   rw[decide_eq_true (by omega:(0:Int)<(bn:Int)),Bool.true_and,decide_eq_false_iff_not]at h
   omega
  clear h;have hinv2:InvM (fun x:RowT=>kR p x.2) (fun x=>nR p x.2) (L.take k++[(.slice xa xn xc,xr)]) (B++[((.slice xa xn xc,xr):RowT)]):=by
   cases B with
   | nil=>exact hinv.first hk0
   | cons y bs=>
    have h0:0<bn:=by rw[hbn];simp
    obtain⟨hb1,-,-⟩:=hb h0
    have hy:y=(.slice pa pn pc,br):=Option.some.inj hb1
    subst hy;have h1:=hnl h0
    have h2:=hng h0
    exact hinv.same hk0 (by show nR p xr=nR p br;omega)
  repeat first|refine byW ?_|refine byV ?_;intro w hw
  refine lBuildSlice [[.slice xa xn xc]] ?_
  intro q2 w hw;refine lApp (i:=2) (rows2:=[[.slice xa xn xc]]) ?_ (Wd.own_rd (i:=0) hw rfl)
  intro vt w hw;obtain⟨za,zn,zc,rfl,-,-,-⟩:=hw.own_shape (i:=2) rfl
  have hw:Wd Γ1 (.own (.slice (some q2) 1 1) 23 1 [[.slice xa xn xc]]::.blk b14 (.cells (enc (atR p xr)).toArray 35)::.own (.slice za zn zc) 23 1 ((B++[((.slice xa xn xc,xr):RowT)]).map cR)::.blk b4 (.cells #[.slice sa sn sc,.slice ga gn gc] 29)::S) w:=by rw[List.map_append];exact hw
  repeat first|refine byW ?_|refine byV ?_;intro w hw
  exact⟨μ-1,by omega,k+1,za,zn,zc,B++[((.slice xa xn xc,xr):RowT)],by omega,⟨rfl,rfl,rfl,rfl,rfl,rfl,trivial⟩,by rw[htk];exact hinv2,fun x hx=>(List.mem_append.1 hx).elim (hB x) fun e=>by rw[List.mem_singleton.1 e];exact hxm,by rw[List.length_append];show _+1≤k+1;first|omega|simp,hw.ds [0,0]⟩
 ·have hkn:n≤k:=by have:=of_decide_eq_false h;omega
  clear h;rw[List.take_of_length_le (by omega)]at hinv
  repeat first|refine byW ?_|refine byV ?_;intro w hw
  obtain⟨Γ2,hle2,hrp,hw⟩:=hw.freeze;refine⟨_,rfl,Γ2,_,B,hle1.trans hle2,rfl,⟨hrp,fun x hx=>RepS.mono (hR.ok x (hB x hx)) hle2⟩,?_,hw.drop⟩
  unfold minR rowsOf;rw[←hr];have:=hinv.final
  rw[this];unfold rowsOf;rw[List.filter_map];congr 1
  refine List.filter_congr fun x _=>?_
  show isMin _ _ L x=isMin (kR p) (nR p) (L.map (·.2)) x.2
  unfold isMin;rw[List.all_map];rfl
end Go.Proofs.YtjkepmmcajbdhaaGreat
end
section
open Go Mk
namespace Go.Proofs.YtjkepmmcajbdhaaGreat
set_option maxHeartbeats 16000000
theorem qperm3{A B C K Y:List Res}:(A++(B++(C++(K++Y)))).Perm (K++((A++(B++(C++[])))++Y)):=by
 have h:((A++(B++(C++[])))++(K++Y)).Perm (K++((A++(B++(C++[])))++Y)):=List.perm_append_comm_assoc _ _ _
 simpa using h
theorem qperm1{B K Y:List Res}:(K++((B++[])++Y)).Perm (B++(K++Y)):=by
 rw[List.append_nil];exact List.perm_append_comm_assoc _ _ _
theorem qperm6{A B C K Y:List Res}:(C++(B++(([]++([]++(K++Y)))++A))).Perm (K++((A++(B++(C++[])))++Y)):=by
 have h1:(C++(B++((K++Y)++A))).Perm (A++(B++(C++(K++Y)))):=by
  have e1:(C++(B++((K++Y)++A))).Perm (C++(B++(A++(K++Y)))):=List.Perm.append_left C (List.Perm.append_left B List.perm_append_comm)
  have e2:(C++(B++(A++(K++Y)))).Perm (C++(A++(B++(K++Y)))):=List.Perm.append_left C (List.perm_append_comm_assoc _ _ _)
  have e3:(C++(A++(B++(K++Y)))).Perm (A++(C++(B++(K++Y)))):=List.perm_append_comm_assoc _ _ _
  have e4:(A++(C++(B++(K++Y)))).Perm (A++(B++(C++(K++Y)))):=List.Perm.append_left A (List.perm_append_comm_assoc _ _ _)
  exact e1.trans (e2.trans (e3.trans e4))
 have h2:=h1.trans qperm3
 simpa using h2
def Res.rws(v:Value)(rs:List (List Val)):Res where
 holds m bs _:=bs=[]∧∃Γ:Gho,Γ.imm=m∧∃L,RW Γ v L∧rowsOf L=rs
 loc m m' bs h h' hm _:=by
  rintro⟨h1,Γ,rfl,L,h2,h3⟩;exact⟨h1,{ Γ with imm:=m' },rfl,L,h2.mono ⟨hm,rfl,rfl,rfl,rfl⟩,h3⟩
theorem rep_imm{Γ Γ0:Gho}{v:Value}{sz:Nat}{rows:List (List Value)}(h:RepS Γ0 v sz rows)(e:Γ0.imm=Γ.imm):RepS Γ v sz rows:=by
 unfold RepS at h ⊢
 rw[←e];exact h
theorem Wd.rwsIn{Γ:Gho}{S:List Res}{w:World}{v:Value}{L:List RowT}(hp:RW Γ v L)(hw:Wd Γ S w):Wd Γ (Res.rws v (rowsOf L)::S) w:=by
 obtain⟨bss,h1,h2,h3⟩:=hw.own;exact⟨hw.os,hw.tape,hw.out,hw.dr,hw.imm,[]::bss,⟨⟨rfl,Γ,rfl,L,hp,rfl⟩,h1⟩,by simpa using h2,by simpa using h3⟩
theorem Wd.rwsOut{Γ:Gho}{S:List Res}{w:World}{v:Value}{rs:List (List Val)}(hw:Wd Γ (Res.rws v rs::S) w):∃L,RW Γ v L∧rowsOf L=rs:=by
 obtain⟨bss,h1,h2,h3⟩:=hw.own;obtain⟨bs,_,hr⟩:=Holds.get (Res.rws v rs::S) bss 0 _ h1 rfl
 obtain⟨-,Γ0,e,L,h,hL⟩:=hr;exact⟨L,⟨rep_imm h.rep e,fun p hp=>rep_imm (h.ok p hp) e⟩,hL⟩
theorem fil_get{α:Type}{F:α→Bool}:∀ {l:List α} {i:Nat} {x:α},l[i]? = some x→F x=true→(l.filter F)[((l.take i).filter F).length]? = some x
 | [],i,x,h,_=>by simp at h
 | y::l,0,x,h,hf=>by
  have:y=x:=by simpa using h
  subst this;simp[hf]
 | y::l,i+1,x,h,hf=>by
  have ih:=fil_get (F:=F) (l:=l) (i:=i) (x:=x) (by simpa using h) hf
  rw[List.take_succ_cons,List.filter_cons,List.filter_cons];split
  ·simpa using ih
  ·exact ih
theorem none_notin{q:Query}(h:Valid q):(⟨#[110,111,110,101]⟩:ByteArray)∉q.Sel:=fun hm=>by
 have:=h.names
 unfold okNames at this;rw[Bool.and_eq_true,List.all_eq_true]at this;exact absurd (this.1 _ hm) (by decide +kernel)
attribute [local irreducible] Calls cI cB scanS solveE solveS cFact lightQ fewQ fewB valE
theorem MinimumL_any{Γ:Gho}{w:World}{va vs vg:Value}{fs:List FactH}{gs:List GoalH}{q:Query}{pl:Int}(hF:RepS Γ va 2 (fs.map cF))(hfs:FsIn Γ fs)(hq:QR Γ vs vg gs q)(hqi:QueryIn q)(hw:Wd Γ [] w) :
  Calls Tryz.prog 6 #[va,.agg #[vs,vg],.int .i64 pl] w fun e w'=>∃Γ',Γ.le Γ'∧e=.returned (.bool true)∧Wd Γ' [] w':=by
 obtain⟨ga,gn,gc,rfl,hgn,hgnc,hgc⟩:=hq.goals.shape;obtain⟨sa,sn,sc,rfl,hsn,hsnc,hsc⟩:=hq.sel.shape;obtain⟨fa,fn,fc,rfl,hfn,hfnc,hfc⟩:=hF.shape;simp only[List.length_map]at hgn hsn hfn
 have pFs:=pg_Few fs (fun x hx=>(hfs x hx).1) hF
 have pQ:=pg_few hq
 have hle:Γ.le Γ:=Gho.le.refl _
 have fin:∀(Γ':Gho) (S:List Res) (w:World),Γ.le Γ'→Wd Γ' S w→∃Γ'',Γ.le Γ''∧(Ending.returned (.bool true)=.returned (.bool true))∧Wd Γ'' [] w:=fun Γ' S w h hw=>⟨Γ',h,rfl,wd_nil hw⟩
 have hboth:(!fewB (facts fs) || !fewQ q)=false→fs.length≤80∧RL Γ (.slice fa fn fc) fs∧QueryOk q:=fun h=>by
  obtain⟨h1,h2⟩:=lawSt h
  obtain⟨h3,h4⟩:=hfs.ok h1
  exact⟨h3,⟨hF,h4⟩,fewQ_ok h2 hqi⟩
 refine calls_of_W Tryz.func6 rfl rfl ?_
 repeat first|refine byW ?_|refine byV ?_;intro w hw
 refine lBox ?_;intro b4 w hw;have hw:Wd Γ [.blk b4 (.cells #[.slice sa sn sc,.slice ga gn gc] 29)] w:=hw
 repeat first|refine byW ?_|refine byV ?_;intro w hw
 refine lPgC (v:=.bool (lightQ (facts fs) q)) ?_ (fun hc=>?_)
 rotate_left
 ·have hc:(!(!fewB (facts fs) || !fewQ q))=true:=hc
  obtain⟨h1,h2,h3⟩:=hboth (by simpa using hc)
  exact pg_light h2 (by omega) hq h3
 intro w hw;repeat first|refine byW ?_|refine byV ?_;intro w hw
 refine lPgC (v:=.int .i64 (valE q)) ?_ (fun hc=>?_)
 rotate_left
 ·have hc:(!((!fewB (facts fs) || !fewQ q) || !lightQ (facts fs) q))=true:=hc
  obtain⟨h1,h2,h3⟩:=hboth (by
   have:((!fewB (facts fs) || !fewQ q) || !lightQ (facts fs) q)=false:=by simpa using hc
   exact(Bool.or_eq_false_iff.1 this).1)
  exact pg_RValidateQ hq h3
 intro w hw;repeat first|refine byW ?_|refine byV ?_;intro w hw
 refine W_cond rfl (fun h=>?_) (fun h=>?_)
 ·repeat first|refine byW ?_|refine byV ?_;intro w hw
  exact⟨_,rfl,fin _ _ _ hle hw⟩
 have hcond:(!fewB (facts fs) || !fewQ q)=false∧lightQ (facts fs) q=true∧valE q=0∧0<sn:=by
  have h:((((!fewB (facts fs) || !fewQ q) || !lightQ (facts fs) q)||decide (valE q≠0))||decide ((sn:Int)=0))=false:=h
  obtain⟨h0,h5⟩:=Bool.or_eq_false_iff.1 h
  obtain⟨h1,h2⟩:=Bool.or_eq_false_iff.1 h0
  obtain⟨h3,h4⟩:=Bool.or_eq_false_iff.1 h1
  have h6:=of_decide_eq_false h5
  refine⟨h3,by simpa using h4,by simpa using h2,by omega⟩
 clear h;obtain⟨hb,hlt,h0,hs0⟩:=hcond;obtain⟨hl80,hRL,hok⟩:=hboth hb
 clear hboth hb pFs pQ;have hval:Valid q:=valE_zero.1 h0
 have hsl:=hok.sel
 have he1:solveE (facts fs) q=0:=by rw[solveE_light hlt,h0]
 obtain⟨p,hp⟩:∃p:Nat,(p:Int)=pl%(sn:Int):=⟨(pl%(sn:Int)).toNat,by have:=Int.emod_nonneg pl (show (sn:Int)≠0 by omega);omega⟩
 have hps:p<sn:=by have:=Int.emod_lt_of_pos pl (show (0:Int)<(sn:Int) by omega);omega
 haveI:PosL (sn:Int):=⟨by omega⟩
 haveI pp:PC Tryz.prog 17 [.int .i64 pl,.int .i64 (sn:Int)] (.int .i64 (p:Int)):=by rw[hp];infer_instance
 obtain⟨s,hs⟩:=get_lt (l:=q.Sel) (k:=p) (by omega)
 have hno:∀j,j<p→q.Sel[j]?≠some s:=fun j hj h=>by
  have hnd:=List.nodup_iff_pairwise_ne.1 hval.nodup
  obtain⟨hj1,hj2⟩:=List.getElem?_eq_some_iff.1 h
  obtain⟨hp1,hp2⟩:=List.getElem?_eq_some_iff.1 hs
  exact(List.pairwise_iff_getElem.1 hnd) j p hj1 hp1 hj (by rw[hj2,hp2])
 repeat first|refine byW ?_|refine byV ?_;intro w hw
 refine lCall (vs:=[.slice fa fn fc,.agg #[.slice sa sn sc,.slice ga gn gc]]) ?_
 refine(Solve_any hRL (by omega) hq hok hw).mono ?_
 clear hw;rintro e w ⟨Γ1,v1,L1,hle1,rfl,hR1,hr1,hw⟩
 refine⟨_,rfl,?_⟩;rw[he1];obtain⟨a1,n1,c1,rfl,hn1,hnc1,hc1⟩:=hR1.rep.shape;have hselr:=(hq.sel.mono hle1)
 repeat first|refine byW ?_|refine byV ?_;intro w hw
 refine W_mixedg [.blk b4 (.cells #[.slice sa sn sc,.slice ga gn gc] 29)] [fun _=>[],fun _=>[],fun _=>[]] [[],[],[],[],[],[],[],[0],[0,1,2],[1],[],[1],[]] [[],[],[],[],[],[],[],[0],[0,1,2],[1],[2],[1],[]] [[63,55],[55,64,10],[55]] (by simpa[List.range,List.range.loop,ML] using hw) ?_
 clear hw;iterate 5 (refine gY ?_)
 refine gY ?_ (hy:=fun Γ' Y w g hle hw=>y_idxD ((hselr.mono hle).rd hw) rfl rfl (by omega) (by omega))
 refine gY (v:=.string s) ?_ (hy:=fun Γ' Y w g hle hw=>y_loadE1 (k:=p) rfl ((hselr.mono hle).rd hw) (rows_map hs))
 refine gS (c:=0) (v:=undef) (F:=fun _=>[]) (exC (T:=Value) (fun t g=>g 63=.tuple #[t,.int .i64 0]) fun t=>[Res.rws t (minR (facts fs) q p)]) (fun Γ' g w Y hle5 hw=>?_) ?_ rfl rfl rfl rfl
 ·refine s_call (vs:=#[.slice fa fn fc,.agg #[.slice sa sn sc,.slice ga gn gc],.string s]) ?_ ((Minimum_any (hRL.mono (hle1.trans hle5)) (by omega) (hq.mono (hle1.trans hle5)) hok he1 hs hno hw).mono fun e w hq=>?_)
  ·exact EvL.eqA (xs:=[.tmp 56,.tmp 57,.tmp 62]) (vs:=[.slice fa fn fc,.agg #[.slice sa sn sc,.slice ga gn gc],.string s]) (EvL.cons (by rfl) (EvL.cons (by rfl) (EvL.cons (by rfl) EvL.nil)))
  obtain⟨Γ'',v2,L2,hle6,rfl,hR2,hr2,hw⟩:=hq;refine⟨_,rfl,Γ'',hle6,(fun h=>(by cases h)),?_⟩
  refine exC_mk (T:=Value) (φ:=fun t g=>g 63=.tuple #[t,.int .i64 0]) (R:=fun t=>[Res.rws t (minR (facts fs) q p)]) v2 rfl ?_
  have:=Wd.rwsIn hR2 hw
  rw[hr2]at this;exact this
 refine gM3 (c:=0) (c2:=1) (c3:=2) (v:=undef) (exC (T:=Value) (fun t g=>g 55=.tuple #[t,.int .i64 0]) fun t=>[Res.rws t (minR (facts fs) q p)]) (exC (T:=Value) (fun t g=>g 55=.tuple #[t,.int .i64 0]) fun _=>[]) (exC (T:=Value) (fun t g=>g 55=.tuple #[t,.int .i64 0]) fun _=>[]) (fun Γ' Y w g hle5 hw=>?_) ?_ rfl rfl
 ·have hw1:Wd Γ' (([.blk b4 (.cells #[.slice sa sn sc,.slice ga gn gc] 29)]:List Res)++((((exC (T:=Value) (fun t g=>g 63=.tuple #[t,.int .i64 0]) fun t=>[Res.rws t (minR (facts fs) q p)]) (ovr [63,55] g noFr))++([]++([]++[])))++Y)) w:=hw
  obtain⟨t,ht,hw2⟩:=exC_open (hw1.perm qperm3.symm)
  have ht:g 63=.tuple #[t,.int .i64 0]:=ht
  refine Yields.step (y_move (v:=.tuple #[t,.int .i64 0]) ht) ⟨?_,fun h=>(by cases h)⟩
  have hw3:=exC_mk (T:=Value) (φ:=fun t g=>g 55=.tuple #[t,.int .i64 0]) (R:=fun t=>[Res.rws t (minR (facts fs) q p)]) (g:=ovr [63,55] (putO g (some 55) (.tuple #[t,.int .i64 0])) noFr) t rfl hw2
  have hw4:=hw3.perm List.perm_append_comm
  have hw5:=exC_mk (T:=Value) (φ:=fun t g=>g 55=.tuple #[t,.int .i64 0]) (R:=fun _=>[]) (g:=ovr [55,64,10] (putO g (some 55) (.tuple #[t,.int .i64 0])) noFr) t rfl hw4
  have hw6:=exC_mk (T:=Value) (φ:=fun t g=>g 55=.tuple #[t,.int .i64 0]) (R:=fun _=>[]) (g:=ovr [55] (putO g (some 55) (.tuple #[t,.int .i64 0])) noFr) t rfl hw5
  have hw7:Wd Γ' (((exC (T:=Value) (fun t g=>g 55=.tuple #[t,.int .i64 0]) fun _=>[]) (ovr [55] (putO g (some 55) (.tuple #[t,.int .i64 0])) noFr)++((exC (T:=Value) (fun t g=>g 55=.tuple #[t,.int .i64 0]) fun _=>[]) (ovr [55,64,10] (putO g (some 55) (.tuple #[t,.int .i64 0])) noFr)++(([]++([]++(([.blk b4 (.cells #[.slice sa sn sc,.slice ga gn gc] 29)]:List Res)++Y)))++(exC (T:=Value) (fun t g=>g 55=.tuple #[t,.int .i64 0]) fun t=>[Res.rws t (minR (facts fs) q p)]) (ovr [63,55] (putO g (some 55) (.tuple #[t,.int .i64 0])) noFr))))) w:=hw6
  exact hw7.perm qperm6
 refine gS (c:=1) (v:=undef) (F:=(exC (T:=Value) (fun t g=>g 55=.tuple #[t,.int .i64 0]) fun _=>[])) (exC (T:=Value) (fun t g=>g 55=.tuple #[t,.int .i64 0]∧g 64=t) fun _=>[]) (fun Γ' g w Y hle5 hw=>?_) ?_ (by first|exact setC_self|exact((setC_other (by decide)).trans setC_self)) rfl rfl rfl
 ·obtain⟨t,ht,hw1⟩:=exC_open hw
  have ht:g 55=.tuple #[t,.int .i64 0]:=ht
  refine Yields.step (y_extract (v:=t) ht rfl) ⟨Γ',.refl _,fun h=>(by cases h),?_⟩
  exact exC_mk (T:=Value) (φ:=fun t g=>g 55=.tuple #[t,.int .i64 0]∧g 64=t) (R:=fun _=>[]) t ⟨ht,rfl⟩ hw1
 refine gC (v:=.int .i64 0) (fun Γ' Y w g hle5 hw=>?_) rfl rfl rfl ?_
 ·have hw1:Wd Γ' (([.blk b4 (.cells #[.slice sa sn sc,.slice ga gn gc] 29)]:List Res)++(((exC (T:=Value) (fun t g=>g 55=.tuple #[t,.int .i64 0]) fun _=>[]) (ovr [55] g noFr)++[])++Y)) w:=hw
  obtain⟨t,ht,-⟩:=exC_open (hw1.perm qperm1)
  exact Yields.step (y_extract (v:=.int .i64 0) ht rfl) ⟨rfl,hw⟩
 refine gS (c:=1) (v:=undef) (F:=(exC (T:=Value) (fun t g=>g 55=.tuple #[t,.int .i64 0]∧g 64=t) fun _=>[])) (exC (T:=Value) (fun t g=>g 55=.tuple #[t,.int .i64 0]∧g 10=t) fun _=>[]) (fun Γ' g w Y hle5 hw=>?_) ?_ (by first|exact setC_self|exact((setC_other (by decide)).trans setC_self)) rfl rfl rfl
 ·obtain⟨t,⟨ht,ht2⟩,hw1⟩:=exC_open hw
  have ht:g 55=.tuple #[t,.int .i64 0]:=ht
  have ht2:g 64=t:=ht2
  refine Yields.step (y_assign (v:=t) ht2) ⟨Γ',.refl _,fun h=>(by cases h),?_⟩
  exact exC_mk (T:=Value) (φ:=fun t g=>g 55=.tuple #[t,.int .i64 0]∧g 10=t) (R:=fun _=>[]) t ⟨ht,rfl⟩ hw1
 repeat refine gY ?_
 refine gEnd fun Γ2 w g hle2 hw=>?_
 have hw1:Wd Γ2 (([.blk b4 (.cells #[.slice sa sn sc,.slice ga gn gc] 29)]:List Res)++((exC (T:=Value) (fun t g=>g 55=.tuple #[t,.int .i64 0]) fun t=>[Res.rws t (minR (facts fs) q p)]) (ovr [63,55] g noFr)++((exC (T:=Value) (fun t g=>g 55=.tuple #[t,.int .i64 0]∧g 10=t) fun _=>[]) (ovr [55,64,10] g noFr)++((exC (T:=Value) (fun t g=>g 55=.tuple #[t,.int .i64 0]) fun _=>[]) (ovr [55] g noFr)++[])))) w:=hw
 have hpm:∀ {A B D K:List Res},(K++(A++(B++(D++[])))).Perm (A++(B++(D++K))):=by
  intro A B D K;rw[List.append_nil];exact List.perm_append_comm.trans (by rw[List.append_assoc,List.append_assoc])
 obtain⟨t,ht,hw2⟩:=exC_open (hw1.perm hpm)
 have ht:g 55=.tuple #[t,.int .i64 0]:=ht
 have hw3:Wd Γ2 ((exC (T:=Value) (fun t g=>g 55=.tuple #[t,.int .i64 0]∧g 10=t) fun _=>[]) (ovr [55,64,10] g noFr)++([Res.rws t (minR (facts fs) q p)]++((exC (T:=Value) (fun t g=>g 55=.tuple #[t,.int .i64 0]) fun _=>[]) (ovr [55] g noFr)++([.blk b4 (.cells #[.slice sa sn sc,.slice ga gn gc] 29)]:List Res)))) w:=hw2.perm (List.perm_append_comm_assoc _ _ _)
 obtain⟨t2,⟨ht2,ht3⟩,hw4⟩:=exC_open hw3
 have ht2:g 55=.tuple #[t2,.int .i64 0]:=ht2
 have ht3:g 10=t2:=ht3
 obtain rfl:t2=t:=by
  have:=ht2.symm.trans ht
  simp at this
  exact this
 rw[List.nil_append]at hw4;obtain⟨-,-,hw5⟩:=exC_open (hw4.perm (List.perm_append_comm_assoc _ _ _))
 rw[List.nil_append]at hw5;have hw:Wd Γ2 (Res.rws t2 (minR (facts fs) q p)::[.blk b4 (.cells #[.slice sa sn sc,.slice ga gn gc] 29)]) w:=hw5
 obtain⟨L2,hR2,hr2⟩:=Wd.rwsOut hw
 have hwD:Wd Γ2 [.blk b4 (.cells #[.slice sa sn sc,.slice ga gn gc] 29)] w:=hw.drop
 clear hw hw1 hw2 hw3 hw4 hw5 ht ht2;obtain⟨a2,n2,c2,rfl,hn2,hnc2,hc2⟩:=hR2.rep.shape;have hw:=hwD
 clear hwD;have hR1:=hR1.mono hle2
 have hle02:=hle1.trans hle2
 refine W_has (l:=[(0,.slice fa fn fc),(4,.pointer (some ⟨b4,0,none⟩)),(7,.int .i64 p),(8,.slice a1 n1 c1),(9,.int .i64 0),(10,.slice a2 n2 c2),(11,.int .i64 0)]) ⟨rfl,rfl,rfl,rfl,rfl,ht3,rfl,trivial⟩ fun ρ hρ=>?_
 rw[hρ.eq];clear hρ ht3;repeat first|refine byW ?_|refine byV ?_;intro w hw
 refine lCall (vs:=[.slice fa fn fc,.agg #[.slice sa sn sc,.slice ga gn gc],.string ⟨#[110,111,110,101]⟩]) ?_
 refine(Minimum_none (hRL.mono hle02) (by omega) (hq.mono hle02) hok he1 (none_notin hval) hw).mono ?_
 clear hw;rintro e w ⟨Γ3,hle3,rfl,hw⟩
 refine⟨_,rfl,?_⟩;have hR1:=hR1.mono hle3
 have hR2:=hR2.mono hle3
 have hle:=hle02.trans hle3
 have hrep1:=hR1.rep
 have hrep2:=hR2.rep
 simp only[List.length_map]at hn1 hn2
 repeat first|refine byW ?_|refine byV ?_;intro w hw
 refine W_cond rfl (fun h=>absurd h (by decide)) (fun _=>?_)
 have hlen1:∀x∈L1,x.2.length=q.Sel.length:=fun x hx=>solS_len (by rw[←hr1];exact List.mem_map.2 ⟨x,hx,rfl⟩)
 obtain⟨F,hFd⟩:∃F:RowT→Bool,F=fun x=>isMin (fun x:RowT=>kR p x.2) (fun x=>nR p x.2) L1 x:=⟨_,rfl⟩
 have hL2:rowsOf L2=(L1.filter F).map (·.2):=by
  rw[hr2];unfold minR;rw[←hr1];unfold rowsOf;rw[List.filter_map];congr 1
  refine List.filter_congr fun x _=>?_
  rw[hFd];show isMin (kR p) (nR p) (L1.map (·.2)) x.2=isMin _ _ L1 x
  unfold isMin;rw[List.all_map];rfl
 have hL2n:(L1.filter F).length=n2:=by
  have:=congrArg List.length hL2
  unfold rowsOf at this;rw[List.length_map,List.length_map]at this;omega
 repeat first|refine byW ?_|refine byV ?_;intro w hw
 refine W_loop (fun μ ρ w=>∃(k m:Nat),μ+k=n1∧Has ρ [(7,.int .i64 p),(8,.slice a1 n1 c1),(10,.slice a2 n2 c2),(14,.int .i64 m),(15,.int .i64 k)]∧m=((L1.take k).filter F).length∧Wd Γ3 [.blk b4 (.cells #[.slice sa sn sc,.slice ga gn gc] 29)] w) n1 ⟨0,0,by omega,⟨rfl,rfl,rfl,rfl,rfl,trivial⟩,by rw[List.take_zero];rfl,hw⟩ ?_
 clear hw;rintro μ ρ w ⟨k,m,hk,hρ,hm,hw⟩
 rw[hρ.eq];clear hρ;repeat first|refine byW ?_|refine byV ?_;intro w hw
 refine W_cond rfl (fun h=>?_) (fun h=>?_)
 ·have hkn:k<n1:=by have:=of_decide_eq_true h;omega
  clear h;obtain⟨⟨xv,xr⟩,hx⟩:=get_lt (l:=L1) (k:=k) (by omega)
  have hxm:=List.mem_of_getElem? hx
  have hxo:RepS Γ3 xv 3 (xr.map enc):=hR1.ok _ hxm
  have hxl:xr.length=q.Sel.length:=hlen1 _ hxm
  obtain⟨xa,xn,xc,rfl,hxn,hxnc,hxc⟩:=hxo.shape;rw[List.length_map]at hxn;have hvx:xr[p]? = some (atR p xr):=atR_get (by omega)
  repeat first|refine byW ?_|refine byV ?_;intro w hw
  refine W_loop (fun μ ρ w=>∃(j:Nat),μ+j=n1∧Has ρ [(7,.int .i64 p),(8,.slice a1 n1 c1),(10,.slice a2 n2 c2),(14,.int .i64 m),(15,.int .i64 k),(16,.bool (kR p xr&&(L1.take j).all fun y=>!kR p y.2||decide (nR p xr≤nR p y.2))),(17,.int .i64 j)]∧Wd Γ3 [.blk b4 (.cells #[.slice sa sn sc,.slice ga gn gc] 29)] w) n1 ⟨0,by omega,⟨rfl,rfl,rfl,rfl,rfl,by rw[List.take_zero,List.all_nil,Bool.and_true];rfl,rfl,trivial⟩,hw⟩ ?_
  clear hw;rintro μ2 ρ w ⟨j,hj,hρ,hw⟩
  rw[hρ.eq];clear hρ;repeat first|refine byW ?_|refine byV ?_;intro w hw
  refine W_cond rfl (fun h=>?_) (fun h=>?_)
  ·have hjn:j<n1:=by have:=of_decide_eq_true h;omega
   clear h;obtain⟨⟨yv,yr⟩,hy⟩:=get_lt (l:=L1) (k:=j) (by omega)
   have hym:=List.mem_of_getElem? hy
   have hyo:RepS Γ3 yv 3 (yr.map enc):=hR1.ok _ hym
   have hyl:yr.length=q.Sel.length:=hlen1 _ hym
   obtain⟨ya,yn,yc,rfl,hyn,hync,hyc⟩:=hyo.shape;rw[List.length_map]at hyn;have hvy:yr[p]? = some (atR p yr):=atR_get (by omega)
   obtain⟨b,hbb⟩:∃b,b=(kR p xr&&(L1.take j).all fun y=>!kR p y.2||decide (nR p xr≤nR p y.2)):=⟨_,rfl⟩
   rw[←hbb];repeat first|refine byW ?_|refine byV ?_;intro w hw
   refine W_quiet (by kernel_rfl) (by kernel_rfl) hw ?_
   repeat(first|(first|refine Q_nil ?_|(apply Q_plain;first|(apply Q_go;first|refine qP ?_|refine qPg ?_)|refine qY ?_)|(apply Q_guarded;first|(apply Q_go;first|refine qPG ?_|refine qPgG ?_)|refine qG ?_))|refine qG ?_ (hy:=by intro hc w hw;exact y_idxD (hrep1.rd hw) byOP byOP (by omega) (by omega))|refine qG ?_ (hy:=by intro hc w hw;exact y_loadE1 (k:=k) (u:=.slice xa xn xc) byOP (hrep1.rd hw) (rows_map hx))|refine qG ?_ (hy:=by intro hc w hw;exact y_loadE1 (k:=j) (u:=.slice ya yn yc) byOP (hrep1.rd hw) (rows_map hy))|refine qG ?_ (hy:=by intro hc w hw;exact y_idxD (hxo.rd hw) byOP byOP (by omega) (by omega))|refine qG ?_ (hy:=by intro hc w hw;exact y_idxD (hyo.rd hw) byOP byOP (by omega) (by omega))|refine qG ?_ (hy:=by intro hc w hw;exact y_loadEf (k:=p) (f:=1) byOP (hxo.rd hw) (rows_map hvx) rfl)|refine qG ?_ (hy:=by intro hc w hw;exact y_loadEf (k:=p) (f:=1) byOP (hyo.rd hw) (rows_map hvy) rfl))
   clear hw;intro w hw;repeat first|refine byW ?_|refine byV ?_;intro w hw
   have e:((L1.take (j+1)).all fun y=>!kR p y.2||decide (nR p xr≤nR p y.2))=(((L1.take j).all fun y=>!kR p y.2||decide (nR p xr≤nR p y.2))&&(decide ((atR p yr).Kind≠1)||decide (nR p xr≤nR p yr))):=by
    rw[List.take_add_one,hy,List.all_append];have:(!kR p yr)=decide ((atR p yr).Kind≠1):=by unfold kR;simp
    simp[←this]
   refine⟨μ2-1,by omega,j+1,by omega,⟨rfl,rfl,rfl,rfl,rfl,?_,rfl,trivial⟩,hw⟩
   rw[e,←Bool.and_assoc,←hbb];rfl
  have hjn:j=n1:=by have:=of_decide_eq_false h;omega
  clear h;have hall:(kR p xr&&(L1.take j).all fun y=>!kR p y.2||decide (nR p xr≤nR p y.2))=F (.slice xa xn xc,xr):=by
   rw[hjn,hn1,List.take_length,hFd];rfl
  rw[hall];have htk:L1.take (k+1)=L1.take k++[((.slice xa xn xc,xr):RowT)]:=by rw[List.take_add_one,hx];rfl
  repeat first|refine byW ?_|refine byV ?_;intro w hw
  refine W_cond rfl (fun h=>?_) (fun h=>?_)
  ·have hf:F (.slice xa xn xc,xr)=false:=by simpa using h
   repeat first|refine byW ?_|refine byV ?_;intro w hw
   exact⟨μ-1,by omega,k+1,m,by omega,⟨rfl,rfl,rfl,rfl,rfl,trivial⟩,by rw[htk,List.filter_append,hm];simp[hf],hw⟩
  have hf:F (.slice xa xn xc,xr)=true:=by simpa using h
  clear h;have hg:=fil_get hx hf
  rw[←hm]at hg;obtain⟨⟨zv,zr⟩,hz,hzr⟩:∃z,L2[m]? = some z∧z.2=xr:=by
   have h1:(rowsOf L2)[m]? = some xr:=by rw[hL2,List.getElem?_map,hg];rfl
   unfold rowsOf at h1;rw[List.getElem?_map]at h1;cases hq2:L2[m]? with
   | none=>rw[hq2]at h1;cases h1
   | some z=>rw[hq2]at h1;exact⟨z,rfl,Option.some.inj h1⟩
  have hzr:zr=xr:=hzr
  subst hzr;have hmn:m<n2:=by have:=(List.getElem?_eq_some_iff.1 hz).1;omega
  have hzo:RepS Γ3 zv 3 (zr.map enc):=hR2.ok _ (List.mem_of_getElem? hz)
  have hcmp:=pg_refL hxo hzo rfl
  rw[cLV_ord.refl]at hcmp;obtain⟨za,zn,zc,rfl,hzn,hznc,hzc⟩:=hzo.shape;repeat first|refine byW ?_|refine byV ?_;intro w hw
  refine W_quiet (by kernel_rfl) (by kernel_rfl) hw ?_
  repeat(first|(first|refine Q_nil ?_|(apply Q_plain;first|(apply Q_go;first|refine qP ?_|refine qPg ?_)|refine qY ?_)|(apply Q_guarded;first|(apply Q_go;first|refine qPG ?_|refine qPgG ?_)|refine qG ?_))|refine qG ?_ (hy:=by intro hc w hw;exact y_idxD (hrep1.rd hw) byOP byOP (by omega) (by omega))|refine qG ?_ (hy:=by intro hc w hw;exact y_loadE1 (k:=k) (u:=.slice xa xn xc) byOP (hrep1.rd hw) (rows_map hx))|refine qG ?_ (hy:=by intro hc w hw;exact y_idxD (hrep2.rd hw) byOP byOP (by omega) (by omega))|refine qG ?_ (hy:=by intro hc w hw;exact y_loadE1 (k:=m) (u:=.slice za zn zc) byOP (hrep2.rd hw) (rows_map hz)))
  clear hw;intro w hw;refine W_cond rfl (fun h=>?_) (fun h=>?_)
  ·exfalso
   simp at h
   omega
  clear h;repeat first|refine byW ?_|refine byV ?_;intro w hw
  exact⟨μ-1,by omega,k+1,m+1,by omega,⟨rfl,rfl,rfl,rfl,rfl,trivial⟩,by rw[htk,List.filter_append,List.length_append,←hm];simp[hf],hw⟩
 ·have hkn:k=n1:=by have:=of_decide_eq_false h;omega
  clear h;have hmn:m=n2:=by rw[hm,hkn,hn1,List.take_length,hL2n]
  repeat first|refine byW ?_|refine byV ?_;intro w hw
  refine⟨_,rfl,Γ3,hle,ret_b rfl ?_,wd_nil hw⟩
  rw[Bool.and_true,decide_eq_true_eq];omega
end Go.Proofs.YtjkepmmcajbdhaaGreat
end
