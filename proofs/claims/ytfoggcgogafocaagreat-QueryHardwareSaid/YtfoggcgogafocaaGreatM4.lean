/- Texts of this proof, one behind another. -/
import Derived.Test.YtfoggcgogafocaaGreatM3
import Derived.Test.YtfoggcgogafocaaGreatM2
import Derived.Shelf.SlLaysF
set_option linter.unusedVariables false
set_option linter.unusedSimpArgs false
section
open Go Mk
namespace Go.Proofs.YtfoggcgogafocaaGreat
set_option maxHeartbeats 16000000
attribute [local irreducible] Calls cI cB
theorem pg_free{Γ:Gho}{f:Nat}{args:List Value}{v:Value}(h:∀(Γ1:Gho) (w:World),Γ.le Γ1→Wd Γ1 [] w→Calls Tryz.prog f args.toArray w fun e w'=>∃Γ2,Γ1.le Γ2∧e=.returned v∧Wd Γ2 [] w'):PG Tryz.prog Γ f args v:=
 ⟨fun S w hw=>(h (hpG Γ w) w (hpG_le hw) (hpG_wd hw)).mono fun e w' ⟨Γ2,hle,he,hw'⟩=>⟨he,wd_keptG (R:=[]) hw hle (by simp) hw'⟩⟩
theorem opsG_len{g:Goal}(h:GoalOk g):(opsG g).length≤1000:=by
 unfold opsG;have:=h.len
 split
 ·exact this
 split
 ·simp
 split <;> simp
theorem opsG_ok{g:Goal}(h:GoalOk g):∀o∈opsG g,OpdOk o:=by
 unfold opsG;intro o ho;split at ho
 ·exact h.args o ho
 split at ho
 ·simp only[List.mem_cons,List.not_mem_nil,or_false]at ho
  rcases ho with rfl|rfl
  ·exact h.l
  ·exact h.r
 split at ho
 ·simp only[List.mem_cons,List.not_mem_nil,or_false]at ho
  rw[ho];exact h.l
 ·cases ho
section
variable {Γ:Gho}{S:List Res}{w:World}
theorem operands_any{x:GoalH}(hx:GOk Γ x)(hw:Wd Γ S w) :
  Calls Tryz.prog 120 #[.agg (cG x).toArray] w fun e w'=>∃Γ' v,Γ.le Γ'∧e=.returned v∧RepS Γ' v 4 ((opsG x.g).map enc)∧Wd Γ' S w':=by
 obtain⟨l1,l2,l3⟩:=hx.len;obtain⟨g,A,N,C⟩:=x;simp only at l1 l2 l3
 refine calls_of_W Tryz.func120 rfl rfl ?_
 repeat first|refine byW ?_|refine byV ?_;intro w hw
 refine lBox ?_;intro b1 w hw;have hw:Wd Γ (.blk b1 (.cells (cG ⟨g,A,N,C⟩).toArray 47)::S) w:=hw
 repeat first|refine byW ?_|refine byV ?_;intro w hw
 refine W_cond rfl (fun h=>?_) (fun h=>?_)
 ·have hk:g.Kind=1:=of_decide_eq_true h
  repeat first|refine byW ?_|refine byV ?_;intro w hw
  refine W_cond_true (congrArg Value.bool h) ?_
  repeat first|refine byW ?_|refine byV ?_;intro w hw
  refine⟨_,rfl,Γ,_,Gho.le.refl _,rfl,?_,hw.drop⟩
  unfold opsG;rw[if_pos (Or.inl hk)];exact hx
 have hk1:¬g.Kind=1:=of_decide_eq_false h
 repeat first|refine byW ?_|refine byV ?_;intro w hw
 refine W_cond rfl (fun h=>?_) (fun h=>?_)
 ·have hk:g.Kind=2:=of_decide_eq_true h
  repeat first|refine byW ?_|refine byV ?_;intro w hw
  refine⟨_,rfl,Γ,_,Gho.le.refl _,rfl,?_,hw.drop⟩
  unfold opsG;rw[if_pos (Or.inr hk)];exact hx
 have hk2:¬g.Kind=2:=of_decide_eq_false h
 repeat first|refine byW ?_|refine byV ?_;intro w hw
 refine W_cond rfl (fun h=>?_) (fun h=>?_)
 ·have hk:g.Kind=3:=of_decide_eq_true h
  repeat first|refine byW ?_|refine byV ?_;intro w hw
  refine lBuildSlice [enc g.L,enc g.R] ?_
  intro q w hw;obtain⟨Γ',hle,hr,hw⟩:=hw.freeze;repeat first|refine byW ?_|refine byV ?_;intro w hw
  refine⟨_,rfl,Γ',_,hle,rfl,?_,hw.drop⟩
  unfold opsG;rw[if_neg (fun e=>e.elim hk1 hk2),if_pos hk];exact hr
 have hk3:¬g.Kind=3:=of_decide_eq_false h
 repeat first|refine byW ?_|refine byV ?_;intro w hw
 refine W_cond rfl (fun h=>?_) (fun h=>?_)
 ·have hk:g.Kind=4:=of_decide_eq_true h
  repeat first|refine byW ?_|refine byV ?_;intro w hw
  refine lBuildSlice [enc g.L] ?_
  intro q w hw;obtain⟨Γ',hle,hr,hw⟩:=hw.freeze;repeat first|refine byW ?_|refine byV ?_;intro w hw
  refine⟨_,rfl,Γ',_,hle,rfl,?_,hw.drop⟩
  unfold opsG;rw[if_neg (fun e=>e.elim hk1 hk2),if_neg hk3,if_pos hk];exact hr
 have hk4:¬g.Kind=4:=of_decide_eq_false h
 repeat first|refine byW ?_|refine byV ?_;intro w hw
 refine⟨_,rfl,Γ,_,Gho.le.refl _,rfl,?_,hw.drop⟩
 unfold opsG;rw[if_neg (fun e=>e.elim hk1 hk2),if_neg hk3,if_neg hk4];exact RepS.nil
end
theorem rightV_ins{v:Val}:decide ((insS [] (⟨#[118]⟩,[v])).2=0)=rightV v:=by
 have hn:nameS ⟨#[118]⟩=true:=by decide +kernel
 have hr:rightS (⟨#[118]⟩,[v])=rightV v:=by
  unfold rightS;simp only[hn,List.length_singleton,List.all_cons,List.all_nil,Bool.and_true]
  simp
 unfold insS;rw[hr];cases h:rightV v with
 | true=>
  rw[if_pos rfl,if_pos]
  ·rfl
  ·have:(setS ([]++[((⟨#[118]⟩:ByteArray),[v])])).length≤([]++[((⟨#[118]⟩:ByteArray),[v])]).length:=setA_len
   exact Nat.le_trans this (by simp)
 | false=>
  rw[if_neg (by simp)];rfl
theorem pg_wellFormed{Γ:Gho}{v:Val}(hv:ValOk v):PG Tryz.prog Γ 124 [.agg (enc v).toArray] (.bool (rightV v)):=pg_free fun Γ w _ hw=>by
 refine calls_of_W Tryz.func124 rfl rfl ?_
 repeat first|refine byW ?_|refine byV ?_;intro w hw
 refine lBox ?_;intro b1 w hw;have hw:Wd Γ [.blk b1 (.cells (enc v).toArray 41)] w:=hw
 repeat first|refine byW ?_|refine byV ?_;intro w hw
 refine lBuildSlice [enc v] ?_
 intro q w hw;obtain⟨Γ1,hle1,hr,hw⟩:=hw.freeze;repeat first|refine byW ?_|refine byV ?_;intro w hw
 refine lCall (vs:=[.slice none 0 0,.agg (cF ⟨⟨#[118]⟩,some q,1,1,[v]⟩).toArray]) ((Insert_any (Γ:=Γ1) (f:=⟨⟨#[118]⟩,some q,1,1,[v]⟩) [] (fun f hf=>by cases hf) (by simp) hr ⟨by simp[FactH.fact],by show 1≤100000;omega,fun u hu=>by
  have:u=v:=by simpa[FactH.fact] using hu
  rw[this];exact hv⟩ RepS.nil.rdS hw).mono fun e w hq=>?_)
 obtain⟨Γ2,v',gs,hle2,rfl,-,hRL,hw⟩:=hq;refine⟨_,rfl,?_⟩;repeat first|refine byW ?_|refine byV ?_;intro w hw
 exact⟨_,rfl,Γ2,hle1.trans hle2,ret_b rfl (rightV_ins (v:=v)),hw.drop⟩
end Go.Proofs.YtfoggcgogafocaaGreat
end
section
open Go Mk
namespace Go.Proofs.YtfoggcgogafocaaGreat
set_option maxHeartbeats 16000000
attribute [local irreducible] Calls cI cB
def aggV(v:Val):Value:=.agg (enc v).toArray
abbrev envR(bm:Nat)(e:Env):Res:=Res.ms aggV bm e
def solC(vs vg vt vr:Value)(bm:Nat):Obj:=.cells #[vs,vg,vt,.map (some bm),vr] 99
section
variable {Γ:Gho}{S:List Res}{w:World}{b bm:Nat}{vs vg vt vr:Value}{e:Env}
theorem value_any{o:Opd}(hw:Wd Γ (.blk b (solC vs vg vt vr bm)::envR bm e::S) w):Calls Tryz.prog 128 #[.pointer (some ⟨b,0,none⟩),.agg (enc o).toArray] w fun r w'=>r=.returned (.agg (enc (valO e o)).toArray)∧Wd Γ (.blk b (solC vs vg vt vr bm)::envR bm e::S) w':=by
 refine calls_of_WC Tryz.func128 rfl rfl ?_
 repeat first|refine byW ?_|refine byV ?_;intro w hw
 refine lBox ?_;intro b3 w hw;refine lAlloc ?_;intro b4 w hw;have hw:Wd Γ (.blk b4 (.cells #[.int .i64 0,.int .i64 0,.string ⟨#[]⟩] 41)::.blk b3 (.cells (enc o).toArray 43)::.blk b (solC vs vg vt vr bm)::envR bm e::S) w:=hw
 repeat first|refine byW ?_|refine byV ?_;intro w hw
 refine W_cond rfl (fun h=>?_) (fun h=>?_)
 ·have hv:o.Var≠noS:=of_decide_eq_true h
  repeat first|refine byW ?_|refine byV ?_;intro w hw
  refine W_mixC [.blk b3 (.cells (enc o).toArray 43),.blk b (solC vs vg vt vr bm),envR bm e] (.blk b4 (.cells #[.int .i64 0,.int .i64 0,.string ⟨#[]⟩] 41)::S) [] [[],[],[],[],[],[],[],[0]] (hw.perm byPM) ?_
  refine byM ?_;refine mStepX (v:=undef) (T':=Unit) (fun _ _=>True) (fun _=>.blk b4 (.cells (enc (getE e o.Var)).toArray 41)::S) (fun t g w Y _ hw=>?_) ?_
  ·exact s_store (i:=0) (vs:=enc (getE e o.Var)) (n:=3) (by kernel_rfl) hw rfl rfl rfl rfl (fun u hu=>(List.all_eq_true.1 (enc_one (getE e o.Var))) u hu) rfl (by decide) fun w' hw'=>⟨(),trivial,(fun _=>rfl),hw'⟩
  refine mEndX fun t w g _ hw=>?_
  have hw:Wd Γ ((.blk b4 (.cells (enc (getE e o.Var)).toArray 41)::S)++[.blk b3 (.cells (enc o).toArray 43),.blk b (solC vs vg vt vr bm),envR bm e]) w:=hw
  have hw:Wd Γ (.blk b4 (.cells (enc (getE e o.Var)).toArray 41)::.blk b3 (.cells (enc o).toArray 43)::.blk b (solC vs vg vt vr bm)::envR bm e::S) w:=hw.perm byPM
  repeat first|refine byW ?_|refine byV ?_;intro w hw
  refine⟨[.agg (enc (getE e o.Var)).toArray],⟨resC (i:=0) hw rfl rfl rfl,trivial⟩,?_,hw.drop.drop⟩
  unfold valO;rw[if_pos hv];rfl
 ·have hv:¬o.Var≠noS:=of_decide_eq_false h
  repeat first|refine byW ?_|refine byV ?_;intro w hw
  refine lStore ?_;intro w hw;have hw:Wd Γ (.blk b4 (.cells (enc o.Const).toArray 41)::.blk b3 (.cells (enc o).toArray 43)::.blk b (solC vs vg vt vr bm)::envR bm e::S) w:=hw
  repeat first|refine byW ?_|refine byV ?_;intro w hw
  refine⟨[.agg (enc o.Const).toArray],⟨resC (i:=0) hw rfl rfl rfl,trivial⟩,?_,hw.drop.drop⟩
  unfold valO;rw[if_neg hv];rfl
theorem fitsS_drop{os:List Opd}{xs:List Val}{k:Nat}{o:Opd}{x:Val}(ho:os[k]? = some o)(hx:xs[k]? = some x):fitsS e (os.drop k) (xs.drop k)=(fit1 e o x&&fitsS e (os.drop (k+1)) (xs.drop (k+1))):=by
 rw[drop_get ho,drop_get hx];rfl
theorem fit1_eq{o:Opd}{x:Val}(ha:o.Var≠anyS)(hn:aGet e noS=none):(!fit1 e o x)=(if o.Var=noS then decide (o.Const≠x) else ((aGet e o.Var).isSome&&decide ((aGet e o.Var).getD default≠x))||(!(aGet e o.Var).isSome && !rightV x)):=by
 unfold fit1;rw[if_neg ha];by_cases h0:o.Var=noS
 ·rw[if_pos h0,if_pos h0];simp
 rw[if_neg h0,if_neg h0];cases aGet e o.Var with
 | none=>simp
 | some u=>simp
theorem fits_any{va:Value}{os:List Opd}{f:FactH}(hargs:RepS Γ va 4 (os.map enc))(hos:∀o∈os,OpdOk o)(hf:FOk Γ f)(hfo:FactOk f.fact)(hlen:os.length=f.Args.length)(hn:aGet e noS=none)(hN:os.length≤1000)(hw:Wd Γ (.blk b (solC vs vg vt vr bm)::envR bm e::S) w) :
  Calls Tryz.prog 76 #[.pointer (some ⟨b,0,none⟩),va,.agg (cF f).toArray] w fun r w'=>r=.returned (.bool (fitsS e os f.Args))∧Wd Γ (.blk b (solC vs vg vt vr bm)::envR bm e::S) w':=by
 obtain⟨a,n,c,rfl,hln,hnc,hc⟩:=hargs.shape;simp only[List.length_map]at hln
 obtain⟨l1,l2,l3⟩:=hf.len;have hfR:=hf
 unfold FOk FactH.hdr at hfR;obtain⟨-,-,hvo⟩:=hfo;obtain⟨fr,fa,fn,fc,xs⟩:=f;simp only[FactH.fact]at l1 l2 l3 hfR hlen hvo ⊢
 refine calls_of_W Tryz.func76 rfl rfl ?_
 repeat first|refine byW ?_|refine byV ?_;intro w hw
 refine lBox ?_;intro b5 w hw;have hw:Wd Γ (.blk b5 (.cells #[.string fr,.slice fa fn fc] 67)::.blk b (solC vs vg vt vr bm)::envR bm e::S) w:=hw
 repeat first|refine byW ?_|refine byV ?_;intro w hw
 refine W_loop (fun μ ρ w=>∃(k:Nat),μ+k=n∧Has ρ [(0,.pointer (some ⟨b,0,none⟩)),(5,.pointer (some ⟨b5,0,none⟩)),(11,.slice a n c),(12,.int .i64 n),(13,.int .i64 k)]∧fitsS e os xs=fitsS e (os.drop k) (xs.drop k)∧Wd Γ (.blk b5 (.cells #[.string fr,.slice fa fn fc] 67)::.blk b (solC vs vg vt vr bm)::envR bm e::S) w) n ⟨0,by omega,⟨rfl,rfl,rfl,rfl,rfl,trivial⟩,rfl,hw⟩ ?_
 clear hw;rintro μ ρ w ⟨k,hk,hρ,hfit,hw⟩
 rw[hρ.eq];clear hρ;repeat first|refine byW ?_|refine byV ?_;intro w hw
 refine W_cond rfl (fun h=>?_) (fun h=>?_)
 ·have hkn:k<n:=by have:=of_decide_eq_true h;omega
  clear h;obtain⟨o,ho⟩:=get_lt (l:=os) (k:=k) (by omega)
  obtain⟨x,hx⟩:=get_lt (l:=xs) (k:=k) (by omega)
  have hxo:=hvo x (List.mem_of_getElem? hx)
  have hpw:=pg_wellFormed (Γ:=Γ) hxo
  rw[fitsS_drop ho hx]at hfit;repeat first|refine byW ?_|refine byV ?_;intro w hw
  refine lAlloc ?_;intro b8 w hw;repeat first|refine byW ?_|refine byV ?_;intro w hw
  refine lStore ?_;intro w hw;have hw:Wd Γ (.blk b8 (.cells (enc o).toArray 43)::.blk b5 (.cells #[.string fr,.slice fa fn fc] 67)::.blk b (solC vs vg vt vr bm)::envR bm e::S) w:=hw
  repeat first|refine byW ?_|refine byV ?_;intro w hw
  refine W_cond rfl (fun h=>?_) (fun h=>?_)
  ·have ha:o.Var=anyS:=of_decide_eq_true h
   repeat first|refine byW ?_|refine byV ?_;intro w hw
   refine⟨μ-1,by omega,k+1,by omega,⟨rfl,rfl,rfl,rfl,rfl,trivial⟩,?_,hw.drop⟩
   rw[hfit];unfold fit1;rw[if_pos ha,Bool.true_and]
  have ha:o.Var≠anyS:=of_decide_eq_false h
  clear h;repeat first|refine byW ?_|refine byV ?_;intro w hw
  refine W_mixE 1 [[],[],[],[],[],[],[],[],[],[],[0],[0],[]] [[],[],[],[],[],[],[],[],[],[],[0],[0],[]] [[9]] ?_ (hw:=hw)
  refine byM ?_;refine byM ?_;refine mAlloc ?_
  refine mStoreAt ?_
  refine byM ?_;refine mEndAt ?_
  clear hw;intro b9 w hw;have hw:Wd Γ (.blk b9 (.cells (enc ((aGet e o.Var).getD default)).toArray 41)::.blk b8 (.cells (enc o).toArray 43)::.blk b5 (.cells #[.string fr,.slice fa fn fc] 67)::.blk b (solC vs vg vt vr bm)::envR bm e::S) w:=hw
  repeat first|refine byW ?_|refine byV ?_;intro w hw
  refine W_cutT (fun ρ w=>∃(u:Val) (t:Bool),Has ρ [(0,.pointer (some ⟨b,0,none⟩)),(5,.pointer (some ⟨b5,0,none⟩)),(7,.int .i64 k),(9,.pointer (some ⟨b9,0,none⟩)),(10,.bool t),(11,.slice a n c),(12,.int .i64 n),(13,.int .i64 k)]∧(!fit1 e o x)=((t&&decide (u≠x))||(!t && !rightV x))∧Wd Γ (.blk b9 (.cells (enc u).toArray 41)::.blk b8 (.cells (enc o).toArray 43)::.blk b5 (.cells #[.string fr,.slice fa fn fc] 67)::.blk b (solC vs vg vt vr bm)::envR bm e::S) w) ?_ ?_
  ·refine W_cond rfl (fun h=>?_) (fun h=>?_)
   ·have h0:o.Var=noS:=of_decide_eq_true h
    repeat first|refine byW ?_|refine byV ?_;intro w hw
    refine lStore ?_;intro w hw;have hw:Wd Γ (.blk b9 (.cells (enc o.Const).toArray 41)::.blk b8 (.cells (enc o).toArray 43)::.blk b5 (.cells #[.string fr,.slice fa fn fc] 67)::.blk b (solC vs vg vt vr bm)::envR bm e::S) w:=hw
    repeat first|refine byW ?_|refine byV ?_;intro w hw
    refine⟨o.Const,true,⟨rfl,rfl,rfl,rfl,rfl,rfl,rfl,rfl,trivial⟩,?_,hw⟩
    rw[fit1_eq ha hn,if_pos h0];simp
   ·have h0:¬o.Var=noS:=of_decide_eq_false h
    repeat first|refine byW ?_|refine byV ?_;intro w hw
    refine⟨(aGet e o.Var).getD default,(aGet e o.Var).isSome,⟨rfl,rfl,rfl,rfl,rfl,rfl,rfl,rfl,trivial⟩,?_,hw⟩
    rw[fit1_eq ha hn,if_neg h0]
  clear hw;rintro ρ w ⟨u,t,hρ,hfu,hw⟩
  rw[hρ.eq];clear hρ;repeat first|refine byW ?_|refine byV ?_;intro w hw
  refine W_quiet (by kernel_rfl) (by kernel_rfl) hw ?_
  refine byQ ?_;refine qG ?_ (hy:=by intro hc w hw;exact y_neqT (a:=u) (b:=x) byOP byOP rfl)
  refine byQ ?_;clear hw;intro w hw;refine W_cond rfl (fun h=>?_) (fun h=>?_)
  ·have hff:fit1 e o x=false:=by
    have:=hfu.trans h
    simpa using this
   repeat first|refine byW ?_|refine byV ?_;intro w hw
   refine⟨_,rfl,ret_b rfl ?_,hw.drop.drop.drop⟩
   rw[hfit,hff,Bool.false_and]
  ·have hff:fit1 e o x=true:=by
    have:=hfu.trans h
    simpa using this
   rw[hff,Bool.true_and]at hfit;repeat first|refine byW ?_|refine byV ?_;intro w hw
   exact⟨μ-1,by omega,k+1,by omega,⟨rfl,rfl,rfl,rfl,rfl,trivial⟩,hfit,hw.drop.drop⟩
 have hkn:k=n:=by have:=of_decide_eq_false h;omega
 repeat first|refine byW ?_|refine byV ?_;intro w hw
 refine⟨_,rfl,ret_b rfl ?_,hw.drop⟩
 rw[hfit,drop_none os (by omega)];rfl
end
end Go.Proofs.YtfoggcgogafocaaGreat
end
section
open Go
namespace Mk
theorem wpOp_defers{P:Program}{ops:Array Oper}{D:List Deferred}{Q Q':Exit→Act→World→Prop}{K K':Act→World→Prop}(hQ:∀e a w,Q e a w→Q' e { a with defers:=a.defers++D } w)(hK:∀a w,K a w→K' { a with defers:=a.defers++D } w){i:Nat}{a:Act}{w:World}
  (h:wpOp P ops Q i K a w):wpOp P ops Q' i K' { a with defers:=a.defers++D } w:=by
 have hL:LetsOut Q→LetsOut Q':=fun⟨a,w,h⟩=>⟨_,_,hQ _ _ _ h⟩
 have nx:∀d v w,K (a.put d v) w→K' (({ a with defers:=a.defers++D }:Act).put d v) w:=fun d v w h=>by
  have:=hK _ _ h
  rw[put_defers];rw[defers_put]at this;exact this
 have he:({ a with defers:=a.defers++D }:Act).eval=a.eval:=rfl
 unfold wpOp at *
 split
 ·rename_i ho
  rw[ho]at h;exact hK _ _ h
 ·rename_i o ho
  rw[ho]at h;simp only at h ⊢
  show if Region.wanted o (yielded ops a.tmps) then _ else _
  by_cases hw:Region.wanted o (yielded ops a.tmps)
  ·rw[if_pos hw]at h ⊢
   rcases h with h|⟨h1,h2⟩
   ·refine .inl ?_
    unfold Oper.wp at h ⊢
    rw[he];generalize (execOp a.eval o).run P w=r at *
    cases r with
    | ok x w'=>
     cases x with
     | value v=>exact nx _ _ _ h
     | skip=>exact nx _ _ _ h
     | defer d=>
      have:=hK _ _ h
      rw[defers_put]at this;simp only[Oper.upon]
      rw[put_defers]at this ⊢
      exact this
     | enter f args=>
      refine Calls.mono h fun e w'' h=>?_
      cases e with
      | returned v=>exact nx _ _ _ h
      | panicked ch=>exact hQ _ _ _ h
      | outgrown=>exact hL h
     | row row args=>exact Rows.mono h fun v w'' h=>nx _ _ _ h
     | _=>exact h.elim
    | halt x w'=>
     cases x with
     | panic v=>exact hQ _ _ _ h
     | _=>exact h.elim
   ·exact .inr ⟨h1,hL h2⟩
  ·rw[if_neg hw]at h ⊢
   exact nx _ _ _ h
theorem wpAny_defers{P:Program}{ops:Array Oper}{D:List Deferred}{Q Q':Exit→Act→World→Prop}{md:Region.Mode}(hQ:∀e a w,Q e a w→Q' e { a with defers:=a.defers++D } w):∀(fuel:Nat) (listed:Array Bool) (a:Act) (w:World),wpAny P md ops Q fuel listed a w→wpAny P md ops Q' fuel listed { a with defers:=a.defers++D } w
 | 0,listed,a,w,h=>⟨h.1,hQ _ _ _ h.2⟩
 | fuel+1,listed,a,w,h=>⟨fun h0=>hQ _ _ _ (h.1 h0),fun i hi=>wpOp_defers hQ (fun a w h=>wpAny_defers hQ fuel _ a w h) (h.2 i hi)⟩
section
variable {P:Program}{n:Nat}{Q:List Deferred→Exit→Fr→World→Prop}{D:List Deferred}{ρ:Fr}{w:World}
theorem WX_any{id:Nat}{l:List Oper}(hm:P.follows .mixedOrders=true)(h:∀a:Act,a.defers=[]→a.tmps.size=n→fnOf a=ρ→wpAny P .any l.toArray (lift n (Q D)) l.toArray.size (Array.replicate l.toArray.size false) a { w with drawn:=w.drawn+1 }) :
  WX P n (.region id l.toArray true) Q D ρ w:=fun a hd hs hf=>wp_region_any hm (by
 have:=wpAny_defers (P:=P) (ops:=l.toArray) (D:=D) (md:=.any) (Q:=lift n (Q D)) (Q':=fun e a w=>a.tmps.size=n∧Q a.defers e (fnOf a) w) (fun e a w ⟨x,y,z⟩=>⟨y,by
  show Q (a.defers++D) e (fnOf a) w
  rw[x];exact z⟩) l.toArray.size (Array.replicate l.toArray.size false) { a with defers:=[] } { w with drawn:=w.drawn+1 } (h { a with defers:=[] } rfl hs hf)
 have e:({ ({ a with defers:=[] }:Act) with defers:=([]:List Deferred)++D }:Act)=a:=by subst hd;rfl
 exact e ▸ this)
variable {Γ:Gho}{K S:List Res}
section
attribute [local semireducible] Qw
theorem WX_quiet{id:Nat}{l:List Oper}(hm:P.follows .mixedOrders=true)(hk:quietOK n l=true)(hw:Wd Γ S w)(h:Qw P n l Γ S (fun ρ w=>Q D .normal ρ w) l ρ) :
  WX P n (.region id l.toArray true) Q D ρ w:=WX_any hm fun a hda hs hf=>by
 simp only[quietOK,Bool.and_eq_true]at hk
 obtain⟨cs,hc⟩:=(h 0).chain
 have inv:Inv ⟨P,n,l,Γ,S,[],[],true⟩ ⟨ρ,[],[],[]⟩ cs (Array.replicate l.toArray.size false) a { w with drawn:=w.drawn+1 } [] (fun _=>undef) Γ:=by
  refine⟨hda,hs,by simp,by simp,by simp,fun i hi=>?_,fun _ _ _ h=>by simp at h,Env.rl.refl _ _,by simp,fun t _=>by rw[hf],by simp,0,Nat.zero_le _,by simp,?_⟩
  ·have:i<l.length:=hi
   simp[this]
  ·have:stL l cs ⟨ρ,[],[],[]⟩ 0=⟨ρ,[],[],[]⟩:=by cases l <;> cases cs <;> rfl
   simp only[this]
   simpa using hw.drawn
 exact Inv.any hc rfl rfl hk.1 hk.2 _ _ a _ [] _ Γ inv (by simp)
end
theorem WX_mixed{id:Nat}{l:List Oper}(K:List Res)(M:List (Fr→List Res))(wr tc stab:List (List Nat))(hw:Wd Γ (K++(List.range stab.length).flatMap fun x=>(ML M) x (ovr (stab.getD x []) ρ noFr)) w)
  (h:MSw (mV P n l Γ K wr tc stab) (fun ρ w=>Q D .normal ρ w) 0 l ⟨ρ,ML M⟩) (hm:P.follows .mixedOrders=true:=by kernel_rfl) (hk:checkM n l wr tc stab=true:=by kernel_rfl):WX P n (.region id l.toArray true) Q D ρ w:=WX_any hm fun a hda hs hf=>by
 obtain⟨cs,hc⟩:=h.chain;have inv:MInv ⟨P,n,l,Γ,K,wr,tc,stab,true⟩ ⟨ρ,ML M⟩ cs (Array.replicate l.toArray.size false) a { w with drawn:=w.drawn+1 } [] Γ:=by
  refine⟨hda,hs,by simp,by simp,by simp,fun i hi=>?_,fun _ _ _ h=>by simp at h,MEnv.rl_refl _,fun t _ _=>by rw[hf],by simp,fun _=>0,fun x=>⟨Nat.zero_le _,by simp⟩,?_⟩
  ·have:i<l.length:=hi
   simp[this]
  ·simp only[mstL_zero,hf]
   exact hw.drawn
 exact MInv.any hc hk _ _ a _ [] Γ inv (by simp)
theorem WX_mixE{id:Nat}{l:List Oper}(k:Nat)(wr tc stab:List (List Nat))(h:MSw (mV P n l Γ K wr tc stab) (fun ρ w=>Q D .normal ρ w) 0 l ⟨ρ,ML (List.replicate k fun _=>[])⟩)
  (hw:Wd Γ K w:=by exact hw) (hm:P.follows .mixedOrders=true:=by kernel_rfl) (hk:checkM n l wr tc stab=true:=by kernel_rfl):WX P n (.region id l.toArray true) Q D ρ w:=
 WX_mixed K _ wr tc stab (by
  have:((List.range stab.length).flatMap fun x=>ML (List.replicate k fun _=>[]) x (ovr (stab.getD x []) ρ noFr))=[]:=by
   rw[List.flatMap_eq_nil_iff];intro x _;unfold ML;by_cases hx:x<k
   ·simp[List.getD_eq_getElem?_getD,List.getElem?_replicate,hx]
   ·simp[List.getD_eq_getElem?_getD,List.getElem?_replicate,hx]
  rw[this,List.append_nil];exact hw) h hm hk
theorem WX_mixC{id:Nat}{l:List Oper}(K X:List Res)(N:List Nat)(wr:List (List Nat))(hw:Wd Γ (K++X) w)
  (h:MSw (mV P n l Γ K wr wr [N]) (fun ρ w=>Q D .normal ρ w) 0 l ⟨ρ,ML [exC (T:=Unit) (fun _ _=>True) (fun _=>X)]⟩)
  (hm:P.follows .mixedOrders=true:=by kernel_rfl) (hk:checkM n l wr wr [N]=true:=by kernel_rfl):WX P n (.region id l.toArray true) Q D ρ w:=
 WX_mixed K [exC (T:=Unit) (fun _ _=>True) (fun _=>X)] wr wr [N] (by
  have h1:Wd Γ (X++K) w:=hw.perm List.perm_append_comm
  have h2:=Wd.closeEx (α:={t:Unit // True}) (X:=fun _=>X) ⟨(),trivial⟩ h1
  exact(h2.perm (List.perm_append_singleton _ K).symm:_)) h hm hk
end
end Mk
namespace Mk
section
variable {P:Program}{ρ:Fr}{w:World}{K:Value→World→Prop}{d:Option Tmp}{T ty:TypeId}{pos:String}{es:Array Edge}{g:Option (Nat×Bool)}{x y z:Operand}
attribute [local semireducible] Step
theorem Step_ins(h:Step P ⟨d,.mapUpdate T x y z,ty,pos,es,g⟩ ρ w K):Step P ⟨d,.insert T x y z,ty,pos,es,g⟩ ρ w K:=h
end
end Mk
end
section
open Go Mk
namespace Go.Proofs.YtfoggcgogafocaaGreat
set_option maxHeartbeats 16000000
attribute [local irreducible] Calls cI cB
theorem pg_holds{Γ:Gho}{x:GoalH}{l r:Val}(hg:I64 x.g.Off)(hl:ValOk l)(hr:ValOk r):PG Tryz.prog Γ 127 [.agg (cG x).toArray,.agg (enc l).toArray,.agg (enc r).toArray] (.bool (holdsS x.g l r)):=⟨fun S w hw=>by
 haveI:=pc_compareSum l.Num r.Num x.g.Off hl.1 hr.1 hg
 refine calls_of_W Tryz.func127 rfl rfl ?_
 repeat first|refine byW ?_|refine byV ?_;intro w hw
 refine lBox ?_;intro b3 w hw;refine lBox ?_;intro b4 w hw;refine lBox ?_;intro b5 w hw;have hw:Wd Γ (.blk b5 (.cells (enc r).toArray 41)::.blk b4 (.cells (enc l).toArray 41)::.blk b3 (.cells (cG x).toArray 47)::S) w:=hw
 repeat first|refine byW ?_|refine byV ?_;intro w hw
 refine W_cond rfl (fun h=>?_) (fun h=>?_)
 ·have h':x.g.Off=0∧x.g.Op=1:=by simpa using h
  repeat first|refine byW ?_|refine byV ?_;intro w hw
  refine⟨_,rfl,ret_b rfl ?_,hw.drop.drop.drop⟩
  unfold holdsS;rw[if_pos h']
 have h1:¬(x.g.Off=0∧x.g.Op=1):=by simpa using h
 clear h;repeat first|refine byW ?_|refine byV ?_;intro w hw
 refine W_cond rfl (fun h=>?_) (fun h=>?_)
 ·have h':x.g.Off=0∧x.g.Op=2:=by simpa using h
  repeat first|refine byW ?_|refine byV ?_;intro w hw
  refine⟨_,rfl,ret_b rfl ?_,hw.drop.drop.drop⟩
  unfold holdsS;rw[if_neg h1,if_pos h']
 have h2:¬(x.g.Off=0∧x.g.Op=2):=by simpa using h
 clear h;repeat first|refine byW ?_|refine byV ?_;intro w hw
 refine W_cond rfl (fun h=>?_) (fun h=>?_)
 ·have h':l.Kind≠1∨r.Kind≠1:=by simpa using h
  repeat first|refine byW ?_|refine byV ?_;intro w hw
  refine⟨_,rfl,ret_b rfl ?_,hw.drop.drop.drop⟩
  unfold holdsS;rw[if_neg h1,if_neg h2,if_pos h']
 have h3:¬(l.Kind≠1∨r.Kind≠1):=by simpa using h
 clear h;have hf:holdsS x.g l r=opB x.g.Op (cmpS l.Num r.Num x.g.Off):=by
  unfold holdsS;rw[if_neg h1,if_neg h2,if_neg h3]
 obtain⟨c,hc⟩:∃c,c=cmpS l.Num r.Num x.g.Off:=⟨_,rfl⟩
 rw[hf];rw[←hc]at this ⊢
 clear hf hc h1 h2 h3;repeat first|refine byW ?_|refine byV ?_;intro w hw
 unfold opB;refine W_cond rfl (fun h=>?_) (fun h=>?_)
 ·have h:=of_decide_eq_true h
  repeat first|refine byW ?_|refine byV ?_;intro w hw
  exact⟨_,rfl,ret_b rfl (by rw[if_pos h]),hw.drop.drop.drop⟩
 have h1:=of_decide_eq_false h
 clear h;rw[if_neg h1];repeat first|refine byW ?_|refine byV ?_;intro w hw
 refine W_cond rfl (fun h=>?_) (fun h=>?_)
 ·have h:=of_decide_eq_true h
  repeat first|refine byW ?_|refine byV ?_;intro w hw
  exact⟨_,rfl,ret_b rfl (by rw[if_pos h]),hw.drop.drop.drop⟩
 have h1:=of_decide_eq_false h
 clear h;rw[if_neg h1];repeat first|refine byW ?_|refine byV ?_;intro w hw
 refine W_cond rfl (fun h=>?_) (fun h=>?_)
 ·have h:=of_decide_eq_true h
  repeat first|refine byW ?_|refine byV ?_;intro w hw
  exact⟨_,rfl,ret_b rfl (by rw[if_pos h]),hw.drop.drop.drop⟩
 have h1:=of_decide_eq_false h
 clear h;rw[if_neg h1];repeat first|refine byW ?_|refine byV ?_;intro w hw
 refine W_cond rfl (fun h=>?_) (fun h=>?_)
 ·have h:=of_decide_eq_true h
  repeat first|refine byW ?_|refine byV ?_;intro w hw
  exact⟨_,rfl,ret_b rfl (by rw[if_pos h]),hw.drop.drop.drop⟩
 have h1:=of_decide_eq_false h
 clear h;rw[if_neg h1];repeat first|refine byW ?_|refine byV ?_;intro w hw
 refine W_cond rfl (fun h=>?_) (fun h=>?_)
 ·have h:=of_decide_eq_true h
  repeat first|refine byW ?_|refine byV ?_;intro w hw
  exact⟨_,rfl,ret_b rfl (by rw[if_pos h]),hw.drop.drop.drop⟩
 have h1:=of_decide_eq_false h
 clear h;rw[if_neg h1];repeat first|refine byW ?_|refine byV ?_;intro w hw
 exact⟨_,rfl,rfl,hw.drop.drop.drop⟩⟩
theorem aIx_none{e:Env}{s:ByteArray}(h:s∉e.map (·.1)):aIx e s=none:=by
 unfold aIx;rw[List.findIdx?_eq_none_iff];intro p hp;simp only[decide_eq_false_iff_not]
 intro he;exact h (by rw[←he];exact List.mem_map_of_mem (f:=(·.1)) hp)
theorem aIx_app{e r:Env}{s:ByteArray}{v:Val}(h:s∉e.map (·.1)):aIx (e++(s,v)::r) s=some e.length:=by
 have:=aIx_none h
 unfold aIx at *
 rw[List.findIdx?_append,this];simp[List.findIdx?_cons]
theorem aDel_app{e r:Env}{s:ByteArray}{v:Val}(h:s∉e.map (·.1)):aDel (e++(s,v)::r) s=e++r:=by
 unfold aDel;rw[aIx_app h];simp only
 rw[List.eraseIdx_append_of_length_le (Nat.le_refl _),Nat.sub_self];rfl
theorem aSet_app{e:Env}{s:ByteArray}{v:Val}(h:s∉e.map (·.1)):aSet e s v=e++[(s,v)]:=by
 unfold aSet;rw[aIx_none h]
theorem aGet_notin{e:Env}{s:ByteArray}(h:s∉e.map (·.1)):aGet e s=none:=by
 unfold aGet;rw[aIx_none h];rfl
theorem aGet_memQ{e:Env}{s:ByteArray}{v:Val}(h:aGet e s=some v):(s,v)∈e:=by
 unfold aGet at h;cases hq:aIx e s with
 | none=>rw[hq]at h;cases h
 | some i=>
  rw[hq]at h;simp only[Option.bind_some]at h
  obtain⟨u,hu⟩:=aIx_get hq
  rw[hu]at h;simp only[Option.map_some,Option.some.injEq]at h
  rw[←h];exact List.mem_of_getElem? hu
theorem aGet_isNone{e:Env}{s:ByteArray}(h:aGet e s=none):s∉e.map (·.1):=fun hm=>by
 obtain⟨p,hp,he⟩:=List.mem_map.1 hm
 unfold aGet at h;cases hq:aIx e s with
 | none=>
  unfold aIx at hq;rw[List.findIdx?_eq_none_iff]at hq;have:=hq p hp
  simp[he]at this
 | some i=>
  obtain⟨u,hu⟩:=aIx_get hq
  rw[hq]at h;simp[hu]at h
theorem dels{e:Env}:∀ {ps:Env},(∀p∈ps,p.1∉e.map (·.1))→(ps.map (·.1)).foldl aDel (e++ps)=e
 | [],_=>by simp
 | (s,v)::ps,h=>by
  rw[List.map_cons,List.foldl_cons,aDel_app (h (s,v) (by simp))]
  exact dels fun p hp=>h p (by simp[hp])
theorem rel_any{Γ:Gho}{S:List Res}{w:World}{b b8 b4 bm:Nat}{vs vg vt vr fv:Value}{e:Env}{ns:List ByteArray}(hw:Wd Γ (.blk b8 (.cells #[fv] 39)::.own fv 9 1 (strRowsQ ns)::.blk b4 (.cells #[.pointer (some ⟨b,0,none⟩)] 95)::.blk b (solC vs vg vt vr bm)::envR bm e::S) w) :
  CallsD Tryz.prog 131 #[.pointer (some ⟨b8,0,none⟩),.pointer (some ⟨b4,0,none⟩)] .returning w fun r u' w'=>u'=.returning∧(∃v,r=.returned v)∧Wd Γ (.blk b8 (.cells #[fv] 39)::.own fv 9 1 (strRowsQ ns)::.blk b4 (.cells #[.pointer (some ⟨b,0,none⟩)] 95)::.blk b (solC vs vg vt vr bm)::envR bm (ns.foldl aDel e)::S) w':=by
 obtain⟨fa,fn,fc,rfl,hfn,hfc,hfb⟩:=hw.own_shape (i:=1) rfl
 simp only[List.length_map]at hfn
 refine(callsD_of_W (R:=fun r w'=>(∃v,r=.returned v)∧Wd Γ (.blk b8 (.cells #[.slice fa fn fc] 39)::.own (.slice fa fn fc) 9 1 (strRowsQ ns)::.blk b4 (.cells #[.pointer (some ⟨b,0,none⟩)] 95)::.blk b (solC vs vg vt vr bm)::envR bm (ns.foldl aDel e)::S) w') Tryz.func131 rfl rfl ?_).mono fun r u w h=>h
 repeat first|refine byW ?_|refine byV ?_;intro w hw
 refine W_loop (fun μ ρ w=>∃(k:Nat),μ+k=fn∧Has ρ [(1,.pointer (some ⟨b4,0,none⟩)),(4,.slice fa fn fc),(5,.int .i64 fn),(6,.int .i64 k)]∧Wd Γ (.blk b8 (.cells #[.slice fa fn fc] 39)::.own (.slice fa fn fc) 9 1 (strRowsQ ns)::.blk b4 (.cells #[.pointer (some ⟨b,0,none⟩)] 95)::.blk b (solC vs vg vt vr bm)::envR bm ((ns.take k).foldl aDel e)::S) w) fn ⟨0,by omega,⟨rfl,rfl,rfl,rfl,trivial⟩,hw⟩ ?_
 clear hw;rintro μ ρ w ⟨k,hk,hρ,hw⟩
 rw[hρ.eq];clear hρ;repeat first|refine byW ?_|refine byV ?_;intro w hw
 refine W_cond rfl (fun h=>?_) (fun h=>?_)
 ·have hkn:k<fn:=by have:=of_decide_eq_true h;omega
  clear h;obtain⟨s,hs⟩:=get_lt (l:=ns) (k:=k) (by omega)
  repeat first|refine byW ?_|refine byV ?_;intro w hw
  refine L_step rfl rfl (s_delS (i:=4) (l:=(ns.take k).foldl aDel e) hw rfl rfl rfl fun w hw=>?_)
  have hw:Wd Γ (.blk b8 (.cells #[.slice fa fn fc] 39)::.own (.slice fa fn fc) 9 1 (strRowsQ ns)::.blk b4 (.cells #[.pointer (some ⟨b,0,none⟩)] 95)::.blk b (solC vs vg vt vr bm)::envR bm ((ns.take (k+1)).foldl aDel e)::S) w:=by
   rw[List.take_add_one,hs,List.foldl_append];exact hw
  repeat first|refine byW ?_|refine byV ?_;intro w hw
  exact⟨μ-1,by omega,k+1,by omega,⟨rfl,rfl,rfl,rfl,trivial⟩,hw⟩
 have hkn:fn≤k:=by have:=of_decide_eq_false h;omega
 rw[List.take_of_length_le (by omega)]at hw
 repeat first|refine byW ?_|refine byV ?_;intro w hw
 exact⟨_,rfl,⟨_,rfl⟩,hw⟩
end Go.Proofs.YtfoggcgogafocaaGreat
end
section
open Go Mk
namespace Go.Proofs.YtfoggcgogafocaaGreat
set_option maxHeartbeats 16000000
attribute [local irreducible] Calls cI cB
def rowsX(vr:Value)(L:List (Value×List (List Value))):List Res:=.own vr 54 1 (L.map fun x=>[x.1])::inn 41 3 L
def SV(b bm:Nat)(vs vg vt:Value)(rs:List (List Val)):Res:=Res.ex (α:={p:Value×List (Value×List (List Value)) // p.2.map (·.2)=rs.map fun r=>r.map enc}) fun p=>.blk b (solC vs vg vt p.1.1 bm)::rowsX p.1.1 p.1.2
section
variable {Γ:Gho}{S:List Res}{w:World}{b bm:Nat}{vs vg vt:Value}{rs:List (List Val)}
theorem SV_open(hw:Wd Γ (SV b bm vs vg vt rs::S) w):∃vr L,L.map (·.2)=(rs.map fun r=>r.map enc)∧Wd Γ (.blk b (solC vs vg vt vr bm)::(rowsX vr L++S)) w:=by
 obtain⟨⟨⟨vr,L⟩,h⟩,hw⟩:=Wd.openEx hw
 exact⟨vr,L,h,hw⟩
theorem SV_close{vr:Value}{L:List (Value×List (List Value))}(h:L.map (·.2)=rs.map fun r=>r.map enc)(hw:Wd Γ (.blk b (solC vs vg vt vr bm)::(rowsX vr L++S)) w):Wd Γ (SV b bm vs vg vt rs::S) w:=
 Wd.closeEx (α:={p:Value×List (Value×List (List Value)) // p.2.map (·.2)=rs.map fun r=>r.map enc}) (X:=fun p=>.blk b (solC vs vg vt p.1.1 bm)::rowsX p.1.1 p.1.2) ⟨(vr,L),h⟩ hw
end
structure EnvOk(e:Env):Prop where
 key:∀p∈e,p.1≠noS
 val:∀p∈e,ValOk p.2
theorem EnvOk.nil:EnvOk []:=⟨fun p h=>(by cases h),fun p h=>(by cases h)⟩
theorem EnvOk.snoc{e:Env}{s:ByteArray}{v:Val}(h:EnvOk e)(hs:s≠noS)(hv:ValOk v):EnvOk (e++[(s,v)]):=
 ⟨fun p hp=>by
  rcases List.mem_append.1 hp with h1|h1
  ·exact h.key p h1
  ·rw[List.mem_singleton.1 h1];exact hs,fun p hp=>by
  rcases List.mem_append.1 hp with h1|h1
  ·exact h.val p h1
  ·rw[List.mem_singleton.1 h1];exact hv⟩
theorem EnvOk.noKey{e:Env}(h:EnvOk e):aGet e noS=none:=aGet_notin fun hm=>by
 obtain⟨p,hp,he⟩:=List.mem_map.1 hm
 exact h.key p hp he
theorem zVal_ok:ValOk zVal:=⟨by decide,by decide⟩
theorem EnvOk.get{e:Env}(h:EnvOk e)(s:ByteArray):ValOk (getE e s):=by
 unfold getE;cases hq:aGet e s with
 | none=>exact zVal_ok
 | some v=>exact h.val _ (aGet_memQ hq)
section
variable {e:Env}{o:Opd}{os:List Opd}{x:Val}{xs:List Val}
theorem bindS_skip(h:o.Var=noS∨o.Var=anyS):bindS e (o::os) (x::xs)=bindS e os xs:=by
 rw[bindS,if_pos h]
theorem bindS_no(h0:¬(o.Var=noS∨o.Var=anyS))(h:((aGet e o.Var).isSome&&decide ((aGet e o.Var).getD default≠x))=true):bindS e (o::os) (x::xs)=none:=by
 rw[bindS,if_neg h0];cases hq:aGet e o.Var with
 | none=>rw[hq]at h;simp at h
 | some u=>
  rw[hq]at h;have:u≠x:=by simpa using h
  simp[this]
theorem bindS_same(h0:¬(o.Var=noS∨o.Var=anyS))(h:((aGet e o.Var).isSome&&decide ((aGet e o.Var).getD default≠x))=false)(h2:(aGet e o.Var).isSome=true):bindS e (o::os) (x::xs)=bindS e os xs:=by
 rw[bindS,if_neg h0];cases hq:aGet e o.Var with
 | none=>rw[hq]at h2;simp at h2
 | some u=>
  rw[hq]at h;have:u=x:=by simpa using h
  simp[this]
theorem bindS_new(h0:¬(o.Var=noS∨o.Var=anyS))(h2:(aGet e o.Var).isSome=false):bindS e (o::os) (x::xs)=bindS (e++[(o.Var,x)]) os xs:=by
 rw[bindS,if_neg h0];cases hq:aGet e o.Var with
 | none=>rfl
 | some u=>rw[hq]at h2;simp at h2
end
theorem Wd.tl5{Γ:Gho}{w:World}{r1 r2 r3 r4 r5:Res}{X S:List Res}(h:Wd Γ (r1::r2::r3::r4::r5::(X++S)) w):Wd Γ S w:=Wd.right (S':=[r1,r2,r3,r4,r5]++X) (by simpa using h)
theorem Wd.tl6{Γ:Gho}{w:World}{r1 r2 r3 r4 r5 r6:Res}{X S:List Res}(h:Wd Γ (r1::r2::r3::r4::r5::r6::(X++S)) w):Wd Γ S w:=Wd.right (S':=[r1,r2,r3,r4,r5,r6]++X) (by simpa using h)
theorem Wd.tl7{Γ:Gho}{w:World}{r1 r2 r3 r4 r5 r6 r7:Res}{X S:List Res}(h:Wd Γ (r1::r2::r3::r4::r5::r6::r7::(X++S)) w):Wd Γ S w:=Wd.right (S':=[r1,r2,r3,r4,r5,r6,r7]++X) (by simpa using h)
theorem with_any{Γ:Gho}{S CAP:List Res}{w:World}{b bm:Nat}{vs vg vt:Value}{rs:List (List Val)}{e:Env}{q:Nat}[FnOk Tryz.prog q]{cap:List Value}(φ:Env→List (List Val))
  (hq:∀(e':Env) (rs':List (List Val)) (S':List Res) (w:World),EnvOk e'→rs'.length+(φ e').length≤1000000→Wd Γ (SV b bm vs vg vt rs'::envR bm e'::(CAP++S')) w→Calls Tryz.prog q cap.toArray w fun r w'=>r=.returned (.tuple #[])∧Wd Γ (SV b bm vs vg vt (rs'++φ e')::envR bm e'::(CAP++S')) w')
  {va vv:Value} {os:List Opd} {xs:List Val} (hA:RdS Γ (CAP++S) va 4 (os.map enc)) (hV:RdS Γ (CAP++S) vv 3 (xs.map enc)) (hlen:os.length=xs.length) (hN:os.length≤1000) (hx:∀v∈xs,ValOk v) (he:EnvOk e) (hrs:rs.length+(withS φ e os xs).length≤1000000)
  (hw:Wd Γ (SV b bm vs vg vt rs::envR bm e::(CAP++S)) w) :
  Calls Tryz.prog 77 #[.pointer (some ⟨b,0,none⟩),va,vv,.func (.func q) #[] cap.toArray] w fun r w'=>r=.returned (.tuple #[])∧Wd Γ (SV b bm vs vg vt (rs++withS φ e os xs)::envR bm e::(CAP++S)) w':=by
 obtain⟨a,n,c,rfl,hln,hnc,hc⟩:=hA.shape;obtain⟨a2,n2,c2,rfl,hln2,hnc2,hc2⟩:=hV.shape;simp only[List.length_map]at hln hln2
 refine calls_of_WX Tryz.func77 rfl rfl ?_
 repeat(first|refine byX1 ?_|refine byW ?_|(refine byV ?_;intro w hw))
 refine lBox ?_;intro b4 w hw;repeat(first|refine byX1 ?_|refine byW ?_|(refine byV ?_;intro w hw))
 refine lAlloc ?_;intro b8 w hw;refine byW ?_
 refine byX1 ?_
 refine WX_regionX ?_
 refine LD_step (Yields.step (y_makeFuncL (f1:=[]) (c1:=[.pointer (some ⟨b8,0,none⟩),.pointer (some ⟨b4,0,none⟩)]) EvL.nil (EvL.cons rfl (EvL.cons rfl EvL.nil))) ?_)
 refine LD_deferF ?_
 refine LD_nil ?_
 have fin:∀(ps:Env) (fv vr:Value) (L:List (Value×List (List Value))) (rs':List (List Val)) (w:World) (a:Act),(∀p∈ps,p.1∉e.map (·.1))→L.map (·.2)=(rs'.map fun r=>r.map enc)→rs'=rs++withS φ e os xs→Wd Γ (.blk b8 (.cells #[fv] 39)::envR bm (e++ps)::.blk b4 (.cells #[.pointer (some ⟨b,0,none⟩)] 95)::.blk b (solC vs vg vt vr bm)::.own fv 9 1 (strRowsQ (ps.map (·.1)))::(rowsX vr L++(CAP++S))) w →
   Leaves Tryz.prog Tryz.f77 a.tmps (fun r w'=>r=.returned (.tuple #[])∧Wd Γ (SV b bm vs vg vt (rs++withS φ e os xs)::envR bm e::(CAP++S)) w') [⟨.fn (.func 131) #[.pointer (some ⟨b8,0,none⟩),.pointer (some ⟨b4,0,none⟩)],#[]⟩] .returning w:=by
  intro ps fv vr L rs' w a hps hL hrs' hw;have hw:Wd Γ (.blk b8 (.cells #[fv] 39)::.own fv 9 1 (strRowsQ (ps.map (·.1)))::.blk b4 (.cells #[.pointer (some ⟨b,0,none⟩)] 95)::.blk b (solC vs vg vt vr bm)::envR bm (e++ps)::(rowsX vr L++(CAP++S))) w:=hw.perm byPM
  refine leaves_one ((rel_any hw).mono fun r u' w' ⟨h1,h2,hw'⟩=>⟨h1,h2,.tuple #[],results_resVal rfl,rfl,?_⟩)
  rw[dels hps]at hw';rw[←hrs'];have hw1:Wd Γ (.blk b (solC vs vg vt vr bm)::envR bm e::(rowsX vr L++(CAP++S))) w':=hw'.ds [0,0,0]
  have hw2:Wd Γ (.blk b (solC vs vg vt vr bm)::(rowsX vr L++(envR bm e::(CAP++S)))) w':=hw1.perm byPM
  exact SV_close hL hw2
 obtain⟨vr,L,hL,hw⟩:=SV_open (hw.ps [2])
 have hw:=Wd.addNil (a:=none) (E:=9) (sz:=1) hw
 have hw:Wd Γ (.own (.slice none 0 0) 9 1 (strRowsQ [])::.blk b (solC vs vg vt vr bm)::(rowsX vr L++(.blk b8 (.cells #[.slice none 0 0] 39)::.blk b4 (.cells #[.pointer (some ⟨b,0,none⟩)] 95)::envR bm e::(CAP++S)))) w:=hw
 have hw:Wd Γ (.blk b8 (.cells #[.slice none 0 0] 39)::envR bm (e++[])::.blk b4 (.cells #[.pointer (some ⟨b,0,none⟩)] 95)::.blk b (solC vs vg vt vr bm)::.own (.slice none 0 0) 9 1 (strRowsQ (([]:Env).map (·.1)))::(rowsX vr L++(CAP++S))) w:=by
  rw[List.append_nil];exact hw.perm byPM
 repeat(first|refine byX1 ?_|refine byW ?_|(refine byV ?_;intro w hw))
 refine WX_loop (fun μ ρ w=>∃(k:Nat) (ps:Env) (fv:Value),μ+k=n∧Has ρ [(2,.slice a2 n2 c2),(3,.func (.func q) #[] cap.toArray),(4,.pointer (some ⟨b4,0,none⟩)),(8,.pointer (some ⟨b8,0,none⟩)),(14,.slice a n c),(15,.int .i64 n),(16,.int .i64 k)]∧(∀p∈ps,p.1∉e.map (·.1))∧ps.length≤k∧EnvOk (e++ps)∧bindS e os xs=bindS (e++ps) (os.drop k) (xs.drop k)∧Wd Γ (.blk b8 (.cells #[fv] 39)::envR bm (e++ps)::.blk b4 (.cells #[.pointer (some ⟨b,0,none⟩)] 95)::.blk b (solC vs vg vt vr bm)::.own fv 9 1 (strRowsQ (ps.map (·.1)))::(rowsX vr L++(CAP++S))) w) n ⟨0,[],.slice none 0 0,by omega,⟨rfl,rfl,rfl,rfl,rfl,rfl,rfl,trivial⟩,(fun p h=>(by cases h)),Nat.le_refl _,by rw[List.append_nil];exact he,by rw[List.append_nil];rfl,hw⟩ ?_
 clear hw;rintro μ ρ w ⟨k,ps,fv,hk,hρ,hps,hpl,hek,hbd,hw⟩
 rw[hρ.eq];clear hρ;repeat(first|refine byX1 ?_|refine byW ?_|(refine byV ?_;intro w hw))
 refine WX_cond rfl (fun h=>?_) (fun h=>?_)
 ·have hkn:k<n:=by have:=of_decide_eq_true h;omega
  clear h;obtain⟨o,ho⟩:=get_lt (l:=os) (k:=k) (by omega)
  obtain⟨x,hxk⟩:=get_lt (l:=xs) (k:=k) (by omega)
  have hxo:=hx x (List.mem_of_getElem? hxk)
  rw[drop_get ho,drop_get hxk]at hbd;repeat(first|refine byX1 ?_|refine byW ?_|(refine byV ?_;intro w hw))
  refine lY ?_ (hy:=y_idxD (hA.rd (Wd.tl5 hw)) rfl rfl (by omega) (by omega))
  refine lY ?_ (hy:=y_loadE rfl (hA.rd (Wd.tl5 hw)) (rows_map ho))
  repeat(first|refine byX1 ?_|refine byW ?_|(refine byV ?_;intro w hw))
  refine lAlloc ?_;intro b10 w hw;repeat(first|refine byX1 ?_|refine byW ?_|(refine byV ?_;intro w hw))
  refine lStore ?_;intro w hw;have hw:Wd Γ (.blk b10 (.cells (enc o).toArray 43)::.blk b8 (.cells #[fv] 39)::envR bm (e++ps)::.blk b4 (.cells #[.pointer (some ⟨b,0,none⟩)] 95)::.blk b (solC vs vg vt vr bm)::.own fv 9 1 (strRowsQ (ps.map (·.1)))::(rowsX vr L++(CAP++S))) w:=hw
  repeat(first|refine byX1 ?_|refine byW ?_|(refine byV ?_;intro w hw))
  refine WX_cond rfl (fun h=>?_) (fun h=>?_)
  ·have h0:o.Var=noS∨o.Var=anyS:=by simp only[Bool.or_eq_true,decide_eq_true_eq]at h;exact h
   rw[bindS_skip h0]at hbd;repeat(first|refine byX1 ?_|refine byW ?_|(refine byV ?_;intro w hw))
   exact⟨rfl,μ-1,by omega,k+1,ps,fv,by omega,⟨rfl,rfl,rfl,rfl,rfl,rfl,rfl,trivial⟩,hps,by omega,hek,hbd,hw.drop⟩
  have h0:¬(o.Var=noS∨o.Var=anyS):=by rw[Bool.or_eq_false_iff,decide_eq_false_iff_not,decide_eq_false_iff_not]at h;exact fun e=>e.elim h.1 h.2
  clear h;repeat(first|refine byX1 ?_|refine byW ?_|(refine byV ?_;intro w hw))
  refine WX_mixE 1 [[],[],[],[],[],[],[],[],[],[],[0],[0],[]] [[],[],[],[],[],[],[],[],[],[],[0],[0],[]] [[11]] ?_ (hw:=hw)
  refine byM ?_;refine mAlloc ?_
  refine mStoreAt ?_
  refine byM ?_;refine mEndAt ?_
  clear hw;intro b11 w hw;have hw:Wd Γ (.blk b11 (.cells (enc ((aGet (e++ps) o.Var).getD default)).toArray 41)::.blk b10 (.cells (enc o).toArray 43)::.blk b8 (.cells #[fv] 39)::envR bm (e++ps)::.blk b4 (.cells #[.pointer (some ⟨b,0,none⟩)] 95)::.blk b (solC vs vg vt vr bm)::.own fv 9 1 (strRowsQ (ps.map (·.1)))::(rowsX vr L++(CAP++S))) w:=hw
  repeat(first|refine byX1 ?_|refine byW ?_|(refine byV ?_;intro w hw))
  refine WX_quiet (by kernel_rfl) (by kernel_rfl) hw ?_
  refine byQ ?_;refine qG ?_ (hy:=by intro hc w hw;exact y_idxD (hV.rd (Wd.tl7 hw)) byOP byOP byHC byHC)
  refine qG ?_ (hy:=by intro hc w hw;exact y_loadE byOP (hV.rd (Wd.tl7 hw)) (rows_map hxk))
  refine qG ?_ (hy:=by intro hc w hw;exact y_neqT (a:=(aGet (e++ps) o.Var).getD default) (b:=x) byOP byOP rfl)
  refine byQ ?_;clear hw;intro w hw;refine WX_cond rfl (fun h=>?_) (fun h=>?_)
  ·rw[bindS_no h0 h]at hbd;repeat(first|refine byX1 ?_|refine byW ?_|(refine byV ?_;intro w hw))
   refine fun a ha hs=>fin ps fv vr L rs w a hps hL ?_ hw.drop.drop
   unfold withS;rw[hbd,List.append_nil]
  have h1:=h
  clear h;repeat(first|refine byX1 ?_|refine byW ?_|(refine byV ?_;intro w hw))
  refine WX_cond rfl (fun h=>?_) (fun h=>?_)
  ·have hs:(aGet (e++ps) o.Var).isSome=false:=by simpa using h
   have hn:aGet (e++ps) o.Var=none:=by simpa using hs
   have hnk:=aGet_isNone hn
   rw[bindS_new h0 hs]at hbd;clear h;repeat(first|refine byX1 ?_|refine byW ?_|(refine byV ?_;intro w hw))
   refine WX_mixC (.blk b10 (.cells (enc o).toArray 43)::.blk b4 (.cells #[.pointer (some ⟨b,0,none⟩)] 95)::.blk b (solC vs vg vt vr bm)::.blk b8 (.cells #[fv] 39)::.own fv 9 1 (strRowsQ (ps.map (·.1)))::.blk b11 (.cells (enc ((aGet (e++ps) o.Var).getD default)).toArray 41)::(rowsX vr L++(CAP++S))) [envR bm (e++ps)] [] [[],[],[],[],[],[],[],[],[],[],[0]] (hw.perm byPM) ?_
   refine byM ?_;refine mY ?_ (hy:=fun Y w g hw=>y_idxD (hV.rd (Wd.tl6 hw.left)) rfl rfl (by omega) (by omega))
   refine mY ?_ (hy:=fun Y w g hw=>y_loadE rfl (hV.rd (Wd.tl6 hw.left)) (rows_map hxk))
   refine mStepX (φ:=fun (_:Unit) _=>True) (R:=fun _=>[envR bm (e++ps)]) (v:=undef) (T':=Unit) (fun _ _=>True) (fun _=>[envR bm (e++(ps++[(o.Var,x)]))]) (fun t g w Y _ hw=>?_) ?_
   ·refine s_mapUpdS (v:=x) (i:=0) (l:=e++ps) hw rfl rfl rfl rfl fun w' hw'=>⟨(),trivial,(fun _=>rfl),?_⟩
    rw[aSet_app hnk,List.append_assoc]at hw';exact hw'
   refine mEndX fun t w g _ hw=>?_
   have hw:Wd Γ ([envR bm (e++(ps++[(o.Var,x)]))]++(.blk b10 (.cells (enc o).toArray 43)::.blk b4 (.cells #[.pointer (some ⟨b,0,none⟩)] 95)::.blk b (solC vs vg vt vr bm)::.blk b8 (.cells #[fv] 39)::.own fv 9 1 (strRowsQ (ps.map (·.1)))::.blk b11 (.cells (enc ((aGet (e++ps) o.Var).getD default)).toArray 41)::(rowsX vr L++(CAP++S)))) w:=hw
   have hw:Wd Γ (.own fv 9 1 (strRowsQ (ps.map (·.1)))::.blk b8 (.cells #[fv] 39)::.blk b11 (.cells (enc ((aGet (e++ps) o.Var).getD default)).toArray 41)::.blk b10 (.cells (enc o).toArray 43)::envR bm (e++(ps++[(o.Var,x)]))::.blk b4 (.cells #[.pointer (some ⟨b,0,none⟩)] 95)::.blk b (solC vs vg vt vr bm)::(rowsX vr L++(CAP++S))) w:=hw.perm byPM
   obtain⟨fa,fn,fc,rfl,hfn,hfc,hfb⟩:=hw.own_shape (i:=0) rfl
   simp only[List.length_map]at hfn
   repeat(first|refine byX1 ?_|refine byW ?_|(refine byV ?_;intro w hw))
   refine lBuildSlice [[.string o.Var]] ?_
   intro q2 w hw;refine lApp (i:=1) (rows2:=[[.string o.Var]]) ?_ (Wd.own_rd (i:=0) hw rfl)
   intro fv' w hw;have hw:Wd Γ (.own (.slice (some q2) 1 1) 9 1 [[.string o.Var]]::.own fv' 9 1 (strRowsQ (ps.map (·.1))++[[.string o.Var]])::.blk b8 (.cells #[.slice fa fn fc] 39)::.blk b11 (.cells (enc ((aGet (e++ps) o.Var).getD default)).toArray 41)::.blk b10 (.cells (enc o).toArray 43)::envR bm (e++(ps++[(o.Var,x)]))::.blk b4 (.cells #[.pointer (some ⟨b,0,none⟩)] 95)::.blk b (solC vs vg vt vr bm)::(rowsX vr L++(CAP++S))) w:=hw
   obtain⟨fa',fn',fc',rfl,-,-,-⟩:=hw.own_shape (i:=1) rfl
   repeat(first|refine byX1 ?_|refine byW ?_|(refine byV ?_;intro w hw))
   refine lStore (i:=2) ?_
   intro w hw;have hw:Wd Γ (.own (.slice (some q2) 1 1) 9 1 [[.string o.Var]]::.own (.slice fa' fn' fc') 9 1 (strRowsQ (ps.map (·.1))++[[.string o.Var]])::.blk b8 (.cells #[(.slice fa' fn' fc')] 39)::.blk b11 (.cells (enc ((aGet (e++ps) o.Var).getD default)).toArray 41)::.blk b10 (.cells (enc o).toArray 43)::envR bm (e++(ps++[(o.Var,x)]))::.blk b4 (.cells #[.pointer (some ⟨b,0,none⟩)] 95)::.blk b (solC vs vg vt vr bm)::(rowsX vr L++(CAP++S))) w:=hw
   have hw1:Wd Γ (.own (.slice fa' fn' fc') 9 1 (strRowsQ (ps.map (·.1))++[[.string o.Var]])::.blk b8 (.cells #[(.slice fa' fn' fc')] 39)::envR bm (e++(ps++[(o.Var,x)]))::.blk b4 (.cells #[.pointer (some ⟨b,0,none⟩)] 95)::.blk b (solC vs vg vt vr bm)::(rowsX vr L++(CAP++S))) w:=hw.ds [0,2,2]
   have hrow:strRowsQ (ps.map (·.1))++[[.string o.Var]]=strRowsQ ((ps++[(o.Var,x)]).map (·.1)):=by
    unfold strRowsQ;rw[List.map_append,List.map_append];rfl
   rw[hrow]at hw1;repeat(first|refine byX1 ?_|refine byW ?_|(refine byV ?_;intro w hw))
   refine⟨rfl,μ-1,by omega,k+1,ps++[(o.Var,x)],(.slice fa' fn' fc'),by omega,⟨rfl,rfl,rfl,rfl,rfl,rfl,rfl,trivial⟩,?_,by rw[List.length_append];simp;omega,?_,?_,hw1.perm byPM⟩
   ·intro p hp;rcases List.mem_append.1 hp with h1|h1
    ·exact hps p h1
    ·rw[List.mem_singleton.1 h1];exact fun hm=>hnk (by rw[List.map_append];exact List.mem_append_left _ hm)
   ·rw[←List.append_assoc];exact hek.snoc (fun e=>h0 (Or.inl e)) hxo
   ·rw[←List.append_assoc];exact hbd
  have hs:(aGet (e++ps) o.Var).isSome=true:=by simpa using h
  rw[bindS_same h0 h1 hs]at hbd;repeat(first|refine byX1 ?_|refine byW ?_|(refine byV ?_;intro w hw))
  exact⟨rfl,μ-1,by omega,k+1,ps,fv,by omega,⟨rfl,rfl,rfl,rfl,rfl,rfl,rfl,trivial⟩,hps,by omega,hek,hbd,hw.drop.drop⟩
 have hkn:n≤k:=by have:=of_decide_eq_false h;omega
 rw[drop_none os (by omega),drop_none xs (by omega)]at hbd
 have hbd:bindS e os xs=some (e++ps):=hbd.trans rfl
 have hwS:withS φ e os xs=φ (e++ps):=by
  unfold withS;rw[hbd]
 repeat(first|refine byX1 ?_|refine byW ?_|(refine byV ?_;intro w hw))
 have hw1:Wd Γ (.blk b (solC vs vg vt vr bm)::(rowsX vr L++(envR bm (e++ps)::(CAP++(.blk b8 (.cells #[fv] 39)::.own fv 9 1 (strRowsQ (ps.map (·.1)))::.blk b4 (.cells #[.pointer (some ⟨b,0,none⟩)] 95)::S))))) w:=hw.perm byPM
 have hw2:Wd Γ (SV b bm vs vg vt rs::envR bm (e++ps)::(CAP++(.blk b8 (.cells #[fv] 39)::.own fv 9 1 (strRowsQ (ps.map (·.1)))::.blk b4 (.cells #[.pointer (some ⟨b,0,none⟩)] 95)::S))) w:=SV_close hL hw1
 refine lCallv (fst:=[]) (cap:=cap) ?_
 refine((hq (e++ps) rs (.blk b8 (.cells #[fv] 39)::.own fv 9 1 (strRowsQ (ps.map (·.1)))::.blk b4 (.cells #[.pointer (some ⟨b,0,none⟩)] 95)::S) w hek (by rw[←hwS];exact hrs) hw2).mono fun r w hr=>?_)
 obtain⟨rfl,hw3⟩:=hr;refine⟨_,rfl,?_⟩;clear hw hw1 hw2;obtain⟨vr',L',hL',hw⟩:=SV_open hw3
 clear hw3 hL;repeat(first|refine byX1 ?_|refine byW ?_|(refine byV ?_;intro w hw))
 refine fun a ha hs=>fin ps fv vr' L' (rs++φ (e++ps)) w a hps hL' (by rw[hwS]) ?_
 exact hw.perm byPM
end Go.Proofs.YtfoggcgogafocaaGreat
end
section
open Go Mk
namespace Go.Proofs.YtfoggcgogafocaaGreat
set_option maxHeartbeats 16000000
attribute [local irreducible] Calls cI cB
theorem IndexFunc_g{Γ:Gho}{S:List Res}{w:World}{q:Nat}[FnOk Tryz.prog q]{cap:List Value}{v:Value}(p:FactH→Bool)(fs:List FactH)(hcl:∀x∈fs,∀w,Wd Γ S w→Calls Tryz.prog q (.agg (cF x).toArray::cap).toArray w fun e w'=>e=.returned (.bool (p x))∧Wd Γ S w')(hr:RepS Γ v 2 (fs.map cF))(hw:Wd Γ S w) :
  Calls Tryz.prog 199 #[v,.func (.func q) #[] cap.toArray] w fun e w'=>∃i:Int,e=.returned (.int .i64 i)∧decide (0≤i)=fs.any p∧Wd Γ S w':=by
 obtain⟨a,n,c,rfl,hn,hnc,hc⟩:=hr.shape;simp only[List.length_map]at hn
 refine calls_of_W Tryz.func199 rfl rfl ?_
 repeat first|refine byW ?_|refine byV ?_;intro w hw
 refine W_loop (fun μ ρ w=>∃(k:Nat),μ+k=n∧Has ρ [(0,.slice a n c),(1,.func (.func q) #[] cap.toArray),(7,.int .i64 n),(8,.int .i64 k)]∧(∀j x,j<k→fs[j]? = some x→p x=false)∧Wd Γ S w) n ⟨0,by omega,⟨rfl,rfl,rfl,rfl,trivial⟩,fun j x hj=>by omega,hw⟩ ?_
 clear hw;rintro μ ρ w ⟨k,hk,hρ,hno,hw⟩
 rw[hρ.eq];repeat first|refine byW ?_|refine byV ?_;intro w hw
 refine W_cond rfl (fun h=>?_) (fun h=>?_)
 ·have hkn:k<n:=by have:=of_decide_eq_true h;omega
  obtain⟨x,hx⟩:=get_lt (l:=fs) (k:=k) (by omega)
  repeat first|refine byW ?_|refine byV ?_;intro w hw
  refine lCallv (fst:=[]) (cap:=cap) (vs:=[.agg (cF x).toArray]) ?_
  refine(hcl x (List.mem_of_getElem? hx) w hw).mono ?_
  clear hw;rintro e w ⟨rfl,hw⟩
  refine⟨_,rfl,?_⟩;repeat first|refine byW ?_|refine byV ?_;intro w hw
  refine W_cond rfl (fun h2=>?_) (fun h2=>?_)
  ·repeat first|refine byW ?_|refine byV ?_;intro w hw
   refine⟨_,rfl,_,rfl,?_,hw⟩
   rw[decide_eq_true (by omega:(0:Int)≤(k:Int)),List.any_eq_true.2 ⟨x,List.mem_of_getElem? hx,h2⟩]
  ·repeat first|refine byW ?_|refine byV ?_;intro w hw
   refine⟨μ-1,by omega,k+1,by omega,⟨rfl,rfl,rfl,rfl,trivial⟩,fun j y hj hy=>?_,hw⟩
   by_cases e:j=k
   ·subst e;rw[hx]at hy;cases hy;exact h2
   ·exact hno j y (by omega) hy
 ·have hkn:¬k<n:=by have:=of_decide_eq_false h;omega
  repeat first|refine byW ?_|refine byV ?_;intro w hw
  refine⟨_,rfl,-1,rfl,?_,hw⟩
  rw[decide_eq_false (by omega),eq_comm,List.any_eq_false]
  intro x hx;obtain⟨j,hj⟩:=List.mem_iff_getElem?.1 hx
  have hlt:=(List.getElem?_eq_some_iff.1 hj).1
  rw[hno j x (by omega) hj];simp
theorem ContainsFunc_g{Γ:Gho}{S:List Res}{w:World}{q:Nat}[FnOk Tryz.prog q]{cap:List Value}{v:Value}(p:FactH→Bool)(fs:List FactH)(hcl:∀x∈fs,∀w,Wd Γ S w→Calls Tryz.prog q (.agg (cF x).toArray::cap).toArray w fun e w'=>e=.returned (.bool (p x))∧Wd Γ S w')(hr:RepS Γ v 2 (fs.map cF))(hw:Wd Γ S w) :
  Calls Tryz.prog 129 #[v,.func (.func q) #[] cap.toArray] w fun e w'=>e=.returned (.bool (fs.any p))∧Wd Γ S w':=by
 obtain⟨a,n,c,rfl,-,-,-⟩:=hr.shape;refine calls_of_W Tryz.func129 rfl rfl ?_
 repeat first|refine byW ?_|refine byV ?_;intro w hw
 refine lCall (vs:=[.slice a n c,.func (.func q) #[] cap.toArray]) ((IndexFunc_g p fs hcl hr hw).mono fun e w hq=>?_)
 obtain⟨i,rfl,hi,hw⟩:=hq;refine⟨_,rfl,?_⟩;repeat first|refine byW ?_|refine byV ?_;intro w hw
 exact⟨_,rfl,ret_b rfl hi,hw⟩
structure SOk(Γ:Gho)(vs vg vt:Value)(gs:List GoalH)(ts:List (Value×List FactH))(db:List Fact)(q:Query):Prop where
 qr:QR Γ vs vg gs q
 qok:QueryOk q
 tab:RepS Γ vt 1 (ts.map fun t=>[t.1])
 len:ts.length=gs.length
 rl:∀t∈ts,RL Γ t.1 t.2
 eq:∀(k:Nat) x t,gs[k]? = some x→ts[k]? = some t→facts t.2=tabS db x.g
 ar:∀x∈gs,isAtomB x.g=true→∀f∈tabS db x.g,x.g.Args.length=f.2.length
theorem tabS_ar{db:List Fact}{g:Goal}:∀f∈tabS db g,g.Args.length=f.2.length:=by
 intro f hf;unfold tabS at hf;split at hf
 ·unfold selS selP at hf;have:=(List.mem_filter.1 hf).2
  simp only[Bool.and_eq_true,decide_eq_true_eq]at this
  omega
 ·cases hf
theorem fill_set{α:Type}{A:List α}{z x:α}{k m:Nat}(h:A.length=k)(hm:0<m):(A++List.replicate m z).set k x=(A++[x])++List.replicate (m-1) z:=by
 obtain⟨m,rfl⟩:∃n,m=n+1:=⟨m-1,by omega⟩
 rw[List.set_append_right _ _ (by omega),h,Nat.sub_self,List.replicate_succ,List.set_cons_zero,List.append_assoc];rfl
section
variable {Γ:Gho}{vs vg vt:Value}{gs:List GoalH}{ts:List (Value×List FactH)}{db:List Fact}{q:Query}
theorem SOk.glen(h:SOk Γ vs vg vt gs ts db q):gs.length≤1000:=by
 have:=h.qok.len
 rw[←h.qr.eq,List.length_map]at this;exact this
theorem SOk.goal(h:SOk Γ vs vg vt gs ts db q){x:GoalH}(hx:x∈gs):GoalOk x.g:=
 h.qok.goals _ (by rw[←h.qr.eq];exact List.mem_map_of_mem (f:=(·.g)) hx)
theorem all_drop{α:Type}{p:α→Bool}{l:List α}{k:Nat}{x:α}(h:l[k]? = some x):(l.drop k).all p=(p x&&(l.drop (k+1)).all p):=by
 rw[drop_get h,List.all_cons]
theorem goalsT_get(h:SOk Γ vs vg vt gs ts db q){k:Nat}{x:GoalH}(hx:gs[k]? = some x):(goalsT db q)[k]? = some (x.g,tabS db x.g):=by
 unfold goalsT;rw[←h.qr.eq,List.getElem?_map,List.getElem?_map,hx];rfl
theorem goalsT_len(h:SOk Γ vs vg vt gs ts db q):(goalsT db q).length=gs.length:=by
 unfold goalsT;rw[←h.qr.eq,List.length_map,List.length_map]
theorem any_facts{e:Env}{os:List Opd}{fs:List FactH}{tb:List Fact}(h:facts fs=tb):(fs.any fun f=>fitsS e os f.Args)=tb.any fun f=>fitsS e os f.2:=by
 rw[←h];unfold facts;rw[List.any_map];rfl
end
theorem cl_fits{Γ:Gho}{S:List Res}{w:World}{b b1 b3 bm:Nat}{vs vg vt vr:Value}{e:Env}{g:Goal}{A:Option Addr}{N C:Nat}(hg:GOk Γ ⟨g,A,N,C⟩)(hgo:GoalOk g){f:FactH}(hf:FOk Γ f)(hfo:FactOk f.fact)(hlen:g.Args.length=f.Args.length)(hn:aGet e noS=none)(hw:Wd Γ (.blk b3 (.cells (cG ⟨g,A,N,C⟩).toArray 47)::.blk b1 (.cells #[.pointer (some ⟨b,0,none⟩)] 95)::.blk b (solC vs vg vt vr bm)::envR bm e::S) w) :
  Calls Tryz.prog 130 #[.agg (cF f).toArray,.pointer (some ⟨b1,0,none⟩),.pointer (some ⟨b3,0,none⟩)] w fun r w'=>r=.returned (.bool (fitsS e g.Args f.Args))∧Wd Γ (.blk b3 (.cells (cG ⟨g,A,N,C⟩).toArray 47)::.blk b1 (.cells #[.pointer (some ⟨b,0,none⟩)] 95)::.blk b (solC vs vg vt vr bm)::envR bm e::S) w':=by
 have hF:=fun (S':List Res) (w:World) (hw:Wd Γ (.blk b (solC vs vg vt vr bm)::envR bm e::S') w)=>fits_any (va:=.slice A N C) (os:=g.Args) (f:=f) hg hgo.args hf hfo hlen hn hgo.len hw
 obtain⟨fr,fa,fn,fc,xs⟩:=f;refine calls_of_W Tryz.func130 rfl rfl ?_
 repeat first|refine byW ?_|refine byV ?_;intro w hw
 refine lBox ?_;intro b4 w hw;have hw:Wd Γ (.blk b4 (.cells #[.string fr,.slice fa fn fc] 67)::.blk b3 (.cells (cG ⟨g,A,N,C⟩).toArray 47)::.blk b1 (.cells #[.pointer (some ⟨b,0,none⟩)] 95)::.blk b (solC vs vg vt vr bm)::envR bm e::S) w:=hw
 repeat first|refine byW ?_|refine byV ?_;intro w hw
 have hw1:Wd Γ (.blk b (solC vs vg vt vr bm)::envR bm e::(.blk b4 (.cells #[.string fr,.slice fa fn fc] 67)::.blk b3 (.cells (cG ⟨g,A,N,C⟩).toArray 47)::.blk b1 (.cells #[.pointer (some ⟨b,0,none⟩)] 95)::S)) w:=hw.perm byPM
 refine lCall (vs:=[.pointer (some ⟨b,0,none⟩),.slice A N C,.agg (cF ⟨fr,fa,fn,fc,xs⟩).toArray]) ((hF _ w hw1).mono fun r w hq=>?_)
 clear hw hw1;obtain⟨rfl,hw⟩:=hq;have hw:Wd Γ (.blk b4 (.cells #[.string fr,.slice fa fn fc] 67)::.blk b3 (.cells (cG ⟨g,A,N,C⟩).toArray 47)::.blk b1 (.cells #[.pointer (some ⟨b,0,none⟩)] 95)::.blk b (solC vs vg vt vr bm)::envR bm e::S) w:=hw.perm byPM
 refine⟨_,rfl,?_⟩;repeat first|refine byW ?_|refine byV ?_;intro w hw
 exact⟨_,rfl,rfl,hw.drop⟩
theorem finish_any{Γ:Gho}{S:List Res}{w:World}{b bm:Nat}{vs vg vt:Value}{gs:List GoalH}{ts:List (Value×List FactH)}{db:List Fact}{q:Query}{rs:List (List Val)}{e:Env}(hS:SOk Γ vs vg vt gs ts db q)(he:EnvOk e)(hrs:rs.length+(finS (goalsT db q) q.Sel e).length≤1000000)
  (hw:Wd Γ (SV b bm vs vg vt rs::envR bm e::S) w) :
  Calls Tryz.prog 75 #[.pointer (some ⟨b,0,none⟩)] w fun r w'=>r=.returned (.tuple #[])∧Wd Γ (SV b bm vs vg vt (rs++finS (goalsT db q) q.Sel e)::envR bm e::S) w':=by
 obtain⟨ga,gn,gc,rfl,hgn,hgnc,hgc⟩:=hS.qr.goals.shape;obtain⟨sa,sn,sc,rfl,hsn,hsnc,hsc⟩:=hS.qr.sel.shape;obtain⟨ta,tn,tc,rfl,htn,htnc,htc⟩:=hS.tab.shape;simp only[List.length_map]at hgn hsn htn
 have hrG:=hS.qr.goals
 have hrS:=hS.qr.sel
 have hrT:=hS.tab
 have hgl:=hS.glen
 have htl:=hS.len
 have hsl:=hS.qok.sel
 obtain⟨vr,L,hL,hw⟩:=SV_open hw
 refine calls_of_W Tryz.func75 rfl rfl ?_
 repeat first|refine byW ?_|refine byV ?_;intro w hw
 refine lBox ?_;intro b1 w hw;have hw:Wd Γ (.blk b1 (.cells #[.pointer (some ⟨b,0,none⟩)] 95)::.blk b (solC (.slice sa sn sc) (.slice ga gn gc) (.slice ta tn tc) vr bm)::(rowsX vr L++(envR bm e::S))) w:=hw
 have hw:Wd Γ (.blk b1 (.cells #[.pointer (some ⟨b,0,none⟩)] 95)::.blk b (solC (.slice sa sn sc) (.slice ga gn gc) (.slice ta tn tc) vr bm)::envR bm e::(rowsX vr L++S)) w:=hw.perm byPM
 repeat first|refine byW ?_|refine byV ?_;intro w hw
 refine W_loop (fun μ ρ w=>∃(k:Nat),μ+k=gn∧Has ρ [(1,.pointer (some ⟨b1,0,none⟩)),(11,.slice ga gn gc),(12,.int .i64 gn),(13,.int .i64 k)]∧(goalsT db q).all (doneG e)=((goalsT db q).drop k).all (doneG e)∧Wd Γ (.blk b1 (.cells #[.pointer (some ⟨b,0,none⟩)] 95)::.blk b (solC (.slice sa sn sc) (.slice ga gn gc) (.slice ta tn tc) vr bm)::envR bm e::(rowsX vr L++S)) w) gn ⟨0,by omega,⟨rfl,rfl,rfl,rfl,trivial⟩,rfl,hw⟩ ?_
 clear hw;rintro μ ρ w ⟨k,hk,hρ,hall,hw⟩
 rw[hρ.eq];clear hρ;have stop:∀w,(goalsT db q).all (doneG e)=false→Wd Γ (.blk b1 (.cells #[.pointer (some ⟨b,0,none⟩)] 95)::.blk b (solC (.slice sa sn sc) (.slice ga gn gc) (.slice ta tn tc) vr bm)::envR bm e::(rowsX vr L++S)) w→Wd Γ (SV b bm (.slice sa sn sc) (.slice ga gn gc) (.slice ta tn tc) (rs++finS (goalsT db q) q.Sel e)::envR bm e::S) w:=by
  intro w h0 hw;unfold finS;rw[h0];simp only[Bool.false_eq_true,if_false,List.append_nil]
  refine SV_close (vr:=vr) hL ?_
  have hw:Wd Γ (.blk b (solC (.slice sa sn sc) (.slice ga gn gc) (.slice ta tn tc) vr bm)::envR bm e::(rowsX vr L++S)) w:=hw.drop
  exact hw.perm byPM
 repeat first|refine byW ?_|refine byV ?_;intro w hw
 refine W_cond rfl (fun h=>?_) (fun h=>?_)
 ·have hkn:k<gn:=by have:=of_decide_eq_true h;omega
  clear h;obtain⟨x,hx⟩:=get_lt (l:=gs) (k:=k) (by omega)
  obtain⟨t,ht⟩:=get_lt (l:=ts) (k:=k) (by omega)
  have hxm:=List.mem_of_getElem? hx
  have htm:=List.mem_of_getElem? ht
  have hgok:=hS.qr.ok x hxm
  have hgoal:=hS.goal hxm
  have hRL:=hS.rl t htm
  have heq:=hS.eq k x t hx ht
  have har:=tabS_ar (db:=db) (g:=x.g)
  rw[all_drop (goalsT_get hS hx)]at hall;obtain⟨g,A,N,C⟩:=x;simp only at hgoal heq har
  repeat first|refine byW ?_|refine byV ?_;intro w hw
  refine lAlloc ?_;intro b3 w hw;repeat first|refine byW ?_|refine byV ?_;intro w hw
  refine lStore ?_;intro w hw;have hw:Wd Γ (.blk b3 (.cells (cG ⟨g,A,N,C⟩).toArray 47)::.blk b1 (.cells #[.pointer (some ⟨b,0,none⟩)] 95)::.blk b (solC (.slice sa sn sc) (.slice ga gn gc) (.slice ta tn tc) vr bm)::envR bm e::(rowsX vr L++S)) w:=hw
  repeat first|refine byW ?_|refine byV ?_;intro w hw
  refine W_cond rfl (fun h=>?_) (fun h=>?_)
  ·have hk3:g.Kind=3:=of_decide_eq_true h
   have hdone:doneG e (g,tabS db g)=holdsS g (valO e g.L) (valO e g.R):=by
    unfold doneG;rw[if_pos hk3]
   have hvl:ValOk (valO e g.L):=by
    unfold valO;split
    ·exact he.get _
    ·exact hgoal.l.2
   have hvr:ValOk (valO e g.R):=by
    unfold valO;split
    ·exact he.get _
    ·exact hgoal.r.2
   have p1:∀o:Opd,PS Tryz.prog Γ (.blk b3 (.cells (cG ⟨g,A,N,C⟩).toArray 47)::.blk b1 (.cells #[.pointer (some ⟨b,0,none⟩)] 95)::.blk b (solC (.slice sa sn sc) (.slice ga gn gc) (.slice ta tn tc) vr bm)::envR bm e::(rowsX vr L++S)) 128 [.pointer (some ⟨b,0,none⟩),.agg (enc o).toArray] (.agg (enc (valO e o)).toArray):=fun o=>⟨fun Y w hw=>by
    have hw1:Wd Γ (.blk b (solC (.slice sa sn sc) (.slice ga gn gc) (.slice ta tn tc) vr bm)::envR bm e::(.blk b3 (.cells (cG ⟨g,A,N,C⟩).toArray 47)::.blk b1 (.cells #[.pointer (some ⟨b,0,none⟩)] 95)::(rowsX vr L++(S++Y)))) w:=hw.perm byPM
    exact(value_any (o:=o) hw1).mono fun r w' ⟨h1,h2⟩=>⟨h1,h2.perm byPM⟩⟩
   have p1l:=p1 g.L
   have p1r:=p1 g.R
   have p2:=pg_holds (Γ:=Γ) (x:=⟨g,A,N,C⟩) hgoal.off hvl hvr
   repeat first|refine byW ?_|refine byV ?_;intro w hw
   refine W_quiet (by kernel_rfl) (by kernel_rfl) hw ?_
   repeat(first|(first|refine Q_nil ?_|(apply Q_plain;first|(apply Q_go;first|refine qP ?_|refine qPg ?_)|refine qY ?_)|(apply Q_guarded;first|(apply Q_go;first|refine qPG ?_|refine qPgG ?_)|refine qG ?_))|(apply Q_plain;apply Q_go;refine qPs ?_)|(apply Q_guarded;apply Q_go;refine qPsG ?_))
   refine qPs (hp:=p1l) ?_
   repeat(first|(first|refine Q_nil ?_|(apply Q_plain;first|(apply Q_go;first|refine qP ?_|refine qPg ?_)|refine qY ?_)|(apply Q_guarded;first|(apply Q_go;first|refine qPG ?_|refine qPgG ?_)|refine qG ?_))|(apply Q_plain;apply Q_go;refine qPs ?_)|(apply Q_guarded;apply Q_go;refine qPsG ?_))
   refine qPs (hp:=p1r) ?_
   repeat(first|(first|refine Q_nil ?_|(apply Q_plain;first|(apply Q_go;first|refine qP ?_|refine qPg ?_)|refine qY ?_)|(apply Q_guarded;first|(apply Q_go;first|refine qPG ?_|refine qPgG ?_)|refine qG ?_))|(apply Q_plain;apply Q_go;refine qPs ?_)|(apply Q_guarded;apply Q_go;refine qPsG ?_))
   clear hw;intro w hw;have hw:Wd Γ (.blk b3 (.cells (cG ⟨g,A,N,C⟩).toArray 47)::.blk b1 (.cells #[.pointer (some ⟨b,0,none⟩)] 95)::.blk b (solC (.slice sa sn sc) (.slice ga gn gc) (.slice ta tn tc) vr bm)::envR bm e::(rowsX vr L++S)) w:=hw
   refine W_cond rfl (fun h=>?_) (fun h=>?_)
   ·repeat first|refine byW ?_|refine byV ?_;intro w hw
    refine⟨_,rfl,rfl,stop w ?_ hw.drop⟩
    have h0:doneG e (g,tabS db g)=false:=by rw[hdone];simpa using h
    rw[hall,h0,Bool.false_and]
   ·have h0:doneG e (g,tabS db g)=true:=by rw[hdone];simpa using h
    rw[h0,Bool.true_and]at hall;repeat first|refine byW ?_|refine byV ?_;intro w hw
    exact⟨μ-1,by omega,k+1,by omega,⟨rfl,rfl,rfl,rfl,trivial⟩,hall,hw.drop⟩
  have hk3:¬g.Kind=3:=of_decide_eq_false h
  clear h;repeat first|refine byW ?_|refine byV ?_;intro w hw
  refine W_cond rfl (fun h=>?_) (fun h=>?_)
  ·have hk2:g.Kind=2:=of_decide_eq_true h
   have hdone:doneG e (g,tabS db g) = !((tabS db g).any fun f=>fitsS e g.Args f.2):=by
    unfold doneG;rw[if_neg hk3,if_pos hk2]
   obtain⟨tv,fs⟩:=t;obtain⟨fa,fc,htv,hfc1,hfc2⟩:=hRL.len;simp only at heq htv hfc1 hfc2
   subst htv;have hcl:∀f∈fs,∀w,Wd Γ (.blk b3 (.cells (cG ⟨g,A,N,C⟩).toArray 47)::.blk b1 (.cells #[.pointer (some ⟨b,0,none⟩)] 95)::.blk b (solC (.slice sa sn sc) (.slice ga gn gc) (.slice ta tn tc) vr bm)::envR bm e::(rowsX vr L++S)) w→Calls Tryz.prog 130 (.agg (cF f).toArray::[.pointer (some ⟨b1,0,none⟩),.pointer (some ⟨b3,0,none⟩)]).toArray w fun r w'=>r=.returned (.bool (fitsS e g.Args f.Args))∧Wd Γ (.blk b3 (.cells (cG ⟨g,A,N,C⟩).toArray 47)::.blk b1 (.cells #[.pointer (some ⟨b,0,none⟩)] 95)::.blk b (solC (.slice sa sn sc) (.slice ga gn gc) (.slice ta tn tc) vr bm)::envR bm e::(rowsX vr L++S)) w':=fun f hf w hw=>by
    obtain⟨h1,h2⟩:=hRL.ok f hf
    refine cl_fits hgok hgoal h1 h2 ?_ he.noKey hw
    have hm:f.fact∈tabS db g:=by rw[←heq];exact List.mem_map_of_mem (f:=FactH.fact) hf
    exact tabS_ar _ hm
   repeat first|refine byW ?_|refine byV ?_;intro w hw
   refine lCall (vs:=[.slice fa fs.length fc,.func (.func 130) #[] #[.pointer (some ⟨b1,0,none⟩),.pointer (some ⟨b3,0,none⟩)]]) ((ContainsFunc_g (fun f=>fitsS e g.Args f.Args) fs hcl hRL.rep hw).mono fun r w hq=>?_)
   clear hw;obtain⟨rfl,hw⟩:=hq;refine⟨_,rfl,?_⟩;rw[any_facts heq];repeat first|refine byW ?_|refine byV ?_;intro w hw
   refine W_cond rfl (fun h=>?_) (fun h=>?_)
   ·repeat first|refine byW ?_|refine byV ?_;intro w hw
    refine⟨_,rfl,rfl,stop w ?_ hw.drop⟩
    have h0:doneG e (g,tabS db g)=false:=by rw[hdone,h];rfl
    rw[hall,h0,Bool.false_and]
   ·have h0:doneG e (g,tabS db g)=true:=by rw[hdone,h];rfl
    rw[h0,Bool.true_and]at hall;repeat first|refine byW ?_|refine byV ?_;intro w hw
    exact⟨μ-1,by omega,k+1,by omega,⟨rfl,rfl,rfl,rfl,trivial⟩,hall,hw.drop⟩
  have hk2:¬g.Kind=2:=of_decide_eq_false h
  have h0:doneG e (g,tabS db g)=true:=by
   unfold doneG;rw[if_neg hk3,if_neg hk2]
  rw[h0,Bool.true_and]at hall;repeat first|refine byW ?_|refine byV ?_;intro w hw
  exact⟨μ-1,by omega,k+1,by omega,⟨rfl,rfl,rfl,rfl,trivial⟩,hall,hw.drop⟩
 have hkn:gn≤k:=by have:=of_decide_eq_false h;omega
 rw[drop_none _ (by rw[goalsT_len hS];omega)]at hall
 have hall:(goalsT db q).all (doneG e)=true:=hall
 have hfin:finS (goalsT db q) q.Sel e=[rowS q.Sel e]:=by
  unfold finS;rw[if_pos hall]
 rw[hfin]at hrs ⊢
 clear stop h;simp only[List.length_singleton]at hrs
 repeat first|refine byW ?_|refine byV ?_;intro w hw
 refine lMakeSlice (len:=sn) ?_
 intro q4 w hw;have hw:Wd Γ (.own (.slice (some q4) sn sn) 41 3 ((q.Sel.take 0).map (fun s=>enc (getE e s))++List.replicate (sn-0) (enc zVal))::.blk b1 (.cells #[.pointer (some ⟨b,0,none⟩)] 95)::.blk b (solC (.slice sa sn sc) (.slice ga gn gc) (.slice ta tn tc) vr bm)::envR bm e::(rowsX vr L++S)) w:=hw
 repeat first|refine byW ?_|refine byV ?_;intro w hw
 refine W_loop (fun μ ρ w=>∃(k:Nat),μ+k=sn∧Has ρ [(1,.pointer (some ⟨b1,0,none⟩)),(4,.slice (some q4) sn sn),(56,.slice sa sn sc),(57,.int .i64 sn),(58,.int .i64 k)]∧Wd Γ (.own (.slice (some q4) sn sn) 41 3 ((q.Sel.take k).map (fun s=>enc (getE e s))++List.replicate (sn-k) (enc zVal))::.blk b1 (.cells #[.pointer (some ⟨b,0,none⟩)] 95)::.blk b (solC (.slice sa sn sc) (.slice ga gn gc) (.slice ta tn tc) vr bm)::envR bm e::(rowsX vr L++S)) w) sn ⟨0,by omega,⟨rfl,rfl,rfl,rfl,rfl,trivial⟩,hw⟩ ?_
 clear hw;rintro μ ρ w ⟨k,hk,hρ,hw⟩
 rw[hρ.eq];clear hρ;repeat first|refine byW ?_|refine byV ?_;intro w hw
 refine W_cond rfl (fun h=>?_) (fun h=>?_)
 ·have hkn:k<sn:=by have:=of_decide_eq_true h;omega
  clear h;obtain⟨s,hs⟩:=get_lt (l:=q.Sel) (k:=k) (by omega)
  repeat first|refine byW ?_|refine byV ?_;intro w hw
  refine lStoreE (k:=k) (r:=enc (getE e s)) ?_
  intro w hw;have hset:((q.Sel.take k).map (fun s=>enc (getE e s))++List.replicate (sn-k) (enc zVal)).set k (enc (getE e s))=(q.Sel.take (k+1)).map (fun s=>enc (getE e s))++List.replicate (sn-(k+1)) (enc zVal):=by
   rw[fill_set (by rw[List.length_map,List.length_take];omega) (by omega),List.take_add_one,hs,List.map_append];rfl
  rw[hset]at hw;have hw:Wd Γ (.own (.slice (some q4) sn sn) 41 3 ((q.Sel.take (k+1)).map (fun s=>enc (getE e s))++List.replicate (sn-(k+1)) (enc zVal))::.blk b1 (.cells #[.pointer (some ⟨b,0,none⟩)] 95)::.blk b (solC (.slice sa sn sc) (.slice ga gn gc) (.slice ta tn tc) vr bm)::envR bm e::(rowsX vr L++S)) w:=hw
  repeat first|refine byW ?_|refine byV ?_;intro w hw
  exact⟨μ-1,by omega,k+1,by omega,⟨rfl,rfl,rfl,rfl,rfl,trivial⟩,hw⟩
 have hkn:sn≤k:=by have:=of_decide_eq_false h;omega
 have hkk:sn=k:=by omega
 subst hkk;have hrow:(q.Sel.take sn).map (fun s=>enc (getE e s))++List.replicate (sn-sn) (enc zVal)=(rowS q.Sel e).map enc:=by
  rw[List.take_of_length_le (by omega),Nat.sub_self,List.replicate_zero,List.append_nil]
  unfold rowS;rw[List.map_map];rfl
 rw[hrow]at hw;have hw:Wd Γ (.own vr 54 1 (L.map fun x=>[x.1])::.blk b1 (.cells #[.pointer (some ⟨b,0,none⟩)] 95)::.blk b (solC (.slice sa sn sc) (.slice ga gn gc) (.slice ta tn tc) vr bm)::envR bm e::.own (.slice (some q4) sn sn) 41 3 ((rowS q.Sel e).map enc)::(inn 41 3 L++S)) w:=by
  have h1:Wd Γ (.own (.slice (some q4) sn sn) 41 3 ((rowS q.Sel e).map enc)::.blk b1 (.cells #[.pointer (some ⟨b,0,none⟩)] 95)::.blk b (solC (.slice sa sn sc) (.slice ga gn gc) (.slice ta tn tc) vr bm)::envR bm e::(.own vr 54 1 (L.map fun x=>[x.1])::inn 41 3 L++S)) w:=hw
  exact h1.perm byPM
 obtain⟨va,vn,vc,rfl,hvn,hvnc,hvc⟩:=hw.own_shape (i:=0) rfl
 have hLl:L.length=rs.length:=by
  have:=congrArg List.length hL
  simpa using this
 simp only[List.length_map]at hvn
 repeat first|refine byW ?_|refine byV ?_;intro w hw
 refine W_mix2 [.blk b1 (.cells #[.pointer (some ⟨b,0,none⟩)] 95)] (.own (.slice va vn vc) 54 1 (L.map fun x=>[x.1])::.blk b (solC (.slice sa sn sc) (.slice ga gn gc) (.slice ta tn tc) (.slice va vn vc) bm)::envR bm e::.own (.slice (some q4) sn sn) 41 3 ((rowS q.Sel e).map enc)::(inn 41 3 L++S)) [[],[],[],[],[],[],[1],[0],[],[],[0]] [[],[],[],[],[0],[],[1],[0,1],[],[],[0]] [[80],[79]] (hw.perm byPM) ?_
 repeat(first|refine mY ?_|refine mP ?_|refine mEndAt ?_|refine mEnd0 ?_|refine mEnd ?_)
 refine mBuild (cells:=[.slice (some q4) sn sn]) [[.slice (some q4) sn sn]] ?_
 refine mApp ?_
 repeat(first|refine mY ?_|refine mP ?_|refine mEndAt ?_|refine mEnd0 ?_|refine mEnd ?_)
 refine mStoreV (b:=b) (j:=1) (j2:=0) ?_
 refine mEnd fun w g hw=>?_
 have hw:=Wd.dropEnd hw
 have hw:Wd Γ (.blk b1 (.cells #[.pointer (some ⟨b,0,none⟩)] 95)::.own (g 80) 54 1 (L.map (fun x=>[x.1])++[[.slice (some q4) sn sn]])::.blk b (solC (.slice sa sn sc) (.slice ga gn gc) (.slice ta tn tc) (g 80) bm)::envR bm e::.own (.slice (some q4) sn sn) 41 3 ((rowS q.Sel e).map enc)::(inn 41 3 L++S)) w:=hw
 refine⟨_,rfl,rfl,SV_close (vr:=g 80) (L:=L++[(.slice (some q4) sn sn,(rowS q.Sel e).map enc)]) ?_ ?_⟩
 ·rw[List.map_append,hL,List.map_append];rfl
 have hl:(L++[(Value.slice (some q4) sn sn,(rowS q.Sel e).map enc)]).map (fun x=>[x.1])=L.map (fun x=>[x.1])++[[.slice (some q4) sn sn]]:=by rw[List.map_append];rfl
 have hi:inn 41 3 (L++[(Value.slice (some q4) sn sn,(rowS q.Sel e).map enc)])=inn 41 3 L++[.own (.slice (some q4) sn sn) 41 3 ((rowS q.Sel e).map enc)]:=by unfold inn;rw[List.map_append];rfl
 unfold rowsX;rw[hl,hi];have h1:Wd Γ (.own (g 80) 54 1 (L.map (fun x=>[x.1])++[[.slice (some q4) sn sn]])::.blk b (solC (.slice sa sn sc) (.slice ga gn gc) (.slice ta tn tc) (g 80) bm)::envR bm e::.own (.slice (some q4) sn sn) 41 3 ((rowS q.Sel e).map enc)::(inn 41 3 L++S)) w:=hw.drop
 exact h1.perm byPM
end Go.Proofs.YtfoggcgogafocaaGreat
end
section
open Go Mk
namespace Go.Proofs.YtfoggcgogafocaaGreat
set_option maxHeartbeats 16000000
attribute [local irreducible] Calls cI cB
theorem fits_SV{Γ:Gho}{S:List Res}{w:World}{b bm:Nat}{vs vg vt:Value}{rs:List (List Val)}{e:Env}{va:Value}{os:List Opd}{f:FactH}(hargs:RepS Γ va 4 (os.map enc))(hos:∀o∈os,OpdOk o)(hf:FOk Γ f)(hfo:FactOk f.fact)(hlen:os.length=f.Args.length)(hn:aGet e noS=none)(hN:os.length≤1000)(hw:Wd Γ (SV b bm vs vg vt rs::envR bm e::S) w) :
  Calls Tryz.prog 76 #[.pointer (some ⟨b,0,none⟩),va,.agg (cF f).toArray] w fun r w'=>r=.returned (.bool (fitsS e os f.Args))∧Wd Γ (SV b bm vs vg vt rs::envR bm e::S) w':=by
 obtain⟨vr,L,hL,hw⟩:=SV_open hw
 have hw1:Wd Γ (.blk b (solC vs vg vt vr bm)::envR bm e::(rowsX vr L++S)) w:=hw.perm byPM
 refine(fits_any hargs hos hf hfo hlen hn hN hw1).mono fun r w' ⟨h1,h2⟩=>⟨h1,SV_close (vr:=vr) hL ?_⟩
 exact h2.perm byPM
section
variable {α β:Type}{F:α→List β}{l:List α}{j:Nat}{x:α}
theorem fm_succ(h:l[j]? = some x):(l.take (j+1)).flatMap F=(l.take j).flatMap F++F x:=by
 rw[List.take_add_one,h,List.flatMap_append];simp
theorem fm_le(h:l[j]? = some x):((l.take j).flatMap F).length+(F x).length≤(l.flatMap F).length:=by
 have e:l.flatMap F=((l.take j).flatMap F++F x)++(l.drop (j+1)).flatMap F:=by
  rw[←fm_succ h,←List.flatMap_append,List.take_append_drop]
 rw[e,List.length_append,List.length_append];omega
end
theorem u64_sub{H L:Int}(h1:I64 H)(h2:I64 L)(h:L≤H):IntKind.u64.wrap (IntKind.u64.wrap H-IntKind.u64.wrap L)=H-L:=by
 unfold I64 at *
 simp only[IntKind.wrap,IntKind.bits,IntKind.signed]
 simp
 omega
theorem u64_small{a:Int}(h1:0≤a)(h2:a≤18446744073709551615):IntKind.u64.wrap a=a:=by
 simp only[IntKind.wrap,IntKind.bits,IntKind.signed]
 simp
 omega
def Srch(Γ:Gho)(b bm:Nat)(vs vg vt:Value)(φ:Env→List (List Val))(k:Nat):Prop:=
 ∀(S:List Res) (e:Env) (rs:List (List Val)) (w:World),EnvOk e→rs.length+(φ e).length≤1000000→Wd Γ (SV b bm vs vg vt rs::envR bm e::S) w →
  Calls Tryz.prog 35 #[.pointer (some ⟨b,0,none⟩),.int .i64 k] w fun r w'=>r=.returned (.tuple #[])∧Wd Γ (SV b bm vs vg vt (rs++φ e)::envR bm e::S) w'
section
variable {Γ:Gho}{b bm b2 b3 k:Nat}{vs vg vt:Value}{φ:Env→List (List Val)}
theorem cl_search1(hk:k≤1000)(ih:Srch Γ b bm vs vg vt φ (k+1))(e:Env)(rs:List (List Val))(S:List Res)(w:World)(he:EnvOk e)(hrs:rs.length+(φ e).length≤1000000)(hw:Wd Γ (SV b bm vs vg vt rs::envR bm e::([.blk b2 (.cells #[.pointer (some ⟨b,0,none⟩)] 95),.blk b3 (.cells #[.int .i64 k] 3)]++S)) w) :
  Calls Tryz.prog 78 [.pointer (some ⟨b2,0,none⟩),.pointer (some ⟨b3,0,none⟩)].toArray w fun r w'=>r=.returned (.tuple #[])∧Wd Γ (SV b bm vs vg vt (rs++φ e)::envR bm e::([.blk b2 (.cells #[.pointer (some ⟨b,0,none⟩)] 95),.blk b3 (.cells #[.int .i64 k] 3)]++S)) w':=by
 have hw:Wd Γ (SV b bm vs vg vt rs::envR bm e::.blk b2 (.cells #[.pointer (some ⟨b,0,none⟩)] 95)::.blk b3 (.cells #[.int .i64 k] 3)::S) w:=hw
 refine calls_of_W Tryz.func78 rfl rfl ?_
 repeat first|refine byW ?_|refine byV ?_;intro w hw
 refine lCall (vs:=[.pointer (some ⟨b,0,none⟩),.int .i64 ((k+1:Nat):Int)]) ((ih _ e rs w he hrs hw).mono fun r w hq=>?_)
 obtain⟨rfl,hw⟩:=hq;refine⟨_,rfl,?_⟩;repeat first|refine byW ?_|refine byV ?_;intro w hw
 exact⟨_,rfl,rfl,hw⟩
theorem cl_search2(hk:k≤1000)(ih:Srch Γ b bm vs vg vt φ (k+1))(e:Env)(rs:List (List Val))(S:List Res)(w:World)(he:EnvOk e)(hrs:rs.length+(φ e).length≤1000000)(hw:Wd Γ (SV b bm vs vg vt rs::envR bm e::([.blk b2 (.cells #[.pointer (some ⟨b,0,none⟩)] 95),.blk b3 (.cells #[.int .i64 k] 3)]++S)) w) :
  Calls Tryz.prog 79 [.pointer (some ⟨b2,0,none⟩),.pointer (some ⟨b3,0,none⟩)].toArray w fun r w'=>r=.returned (.tuple #[])∧Wd Γ (SV b bm vs vg vt (rs++φ e)::envR bm e::([.blk b2 (.cells #[.pointer (some ⟨b,0,none⟩)] 95),.blk b3 (.cells #[.int .i64 k] 3)]++S)) w':=by
 have hw:Wd Γ (SV b bm vs vg vt rs::envR bm e::.blk b2 (.cells #[.pointer (some ⟨b,0,none⟩)] 95)::.blk b3 (.cells #[.int .i64 k] 3)::S) w:=hw
 refine calls_of_W Tryz.func79 rfl rfl ?_
 repeat first|refine byW ?_|refine byV ?_;intro w hw
 refine lCall (vs:=[.pointer (some ⟨b,0,none⟩),.int .i64 ((k+1:Nat):Int)]) ((ih _ e rs w he hrs hw).mono fun r w hq=>?_)
 obtain⟨rfl,hw⟩:=hq;refine⟨_,rfl,?_⟩;repeat first|refine byW ?_|refine byV ?_;intro w hw
 exact⟨_,rfl,rfl,hw⟩
end
theorem search_any{Γ:Gho}{b bm:Nat}{vs vg vt:Value}{gs:List GoalH}{ts:List (Value×List FactH)}{db:List Fact}{q:Query}(hS:SOk Γ vs vg vt gs ts db q)(hR:∀g∈q.Goals,g.Kind=4→g.Low≤g.High∧g.High-g.Low≤1000000) :
  ∀(m k:Nat),k+m=gs.length→Srch Γ b bm vs vg vt (srch (finS (goalsT db q) q.Sel) ((goalsT db q).drop k)) k:=by
 obtain⟨ga,gn,gc,rfl,hgn,hgnc,hgc⟩:=hS.qr.goals.shape;obtain⟨sa,sn,sc,rfl,hsn,hsnc,hsc⟩:=hS.qr.sel.shape;obtain⟨ta,tn,tc,rfl,htn,htnc,htc⟩:=hS.tab.shape;simp only[List.length_map]at hgn hsn htn
 have hrG:=hS.qr.goals
 have hrS:=hS.qr.sel
 have hrT:=hS.tab
 have hgl:=hS.glen
 have htl:=hS.len
 have hsl:=hS.qok.sel
 intro m;induction m with
 | zero=>
  intro k hk S e rs w he hrs hw;have hkn:k=gn:=by omega
  rw[drop_none (goalsT db q) (by rw[goalsT_len hS];omega)]at hrs ⊢
  have hrs:rs.length+(finS (goalsT db q) q.Sel e).length≤1000000:=hrs
  show Calls _ _ _ _ fun r w'=>r=.returned (.tuple #[])∧Wd Γ (SV b bm (.slice sa sn sc) (.slice ga gn gc) (.slice ta tn tc) (rs++finS (goalsT db q) q.Sel e)::envR bm e::S) w'
  obtain⟨vr,L,hL,hw⟩:=SV_open hw
  refine calls_of_W Tryz.func35 rfl rfl ?_
  repeat first|refine byW ?_|refine byV ?_;intro w hw
  refine lBox ?_;intro b2 w hw;repeat first|refine byW ?_|refine byV ?_;intro w hw
  refine lBox ?_;intro b3 w hw;have hw:Wd Γ (.blk b3 (.cells #[.int .i64 k] 3)::.blk b2 (.cells #[.pointer (some ⟨b,0,none⟩)] 95)::.blk b (solC (.slice sa sn sc) (.slice ga gn gc) (.slice ta tn tc) vr bm)::(rowsX vr L++(envR bm e::S))) w:=hw
  have hw:Wd Γ (.blk b2 (.cells #[.pointer (some ⟨b,0,none⟩)] 95)::.blk b3 (.cells #[.int .i64 k] 3)::.blk b (solC (.slice sa sn sc) (.slice ga gn gc) (.slice ta tn tc) vr bm)::envR bm e::(rowsX vr L++S)) w:=hw.perm byPM
  repeat first|refine byW ?_|refine byV ?_;intro w hw
  refine W_quiet (by kernel_rfl) (by kernel_rfl) hw ?_
  refine byQ ?_;clear hw;intro w hw;have hw:Wd Γ (.blk b2 (.cells #[.pointer (some ⟨b,0,none⟩)] 95)::.blk b3 (.cells #[.int .i64 k] 3)::.blk b (solC (.slice sa sn sc) (.slice ga gn gc) (.slice ta tn tc) vr bm)::envR bm e::(rowsX vr L++S)) w:=hw
  refine W_cond_true (congrArg Value.bool (decide_eq_true (by omega))) ?_
  repeat first|refine byW ?_|refine byV ?_;intro w hw
  have hw1:Wd Γ (.blk b (solC (.slice sa sn sc) (.slice ga gn gc) (.slice ta tn tc) vr bm)::(rowsX vr L++(envR bm e::(.blk b2 (.cells #[.pointer (some ⟨b,0,none⟩)] 95)::.blk b3 (.cells #[.int .i64 k] 3)::S)))) w:=hw.perm byPM
  have hw2:=SV_close (vr:=vr) hL hw1
  refine lCall (vs:=[.pointer (some ⟨b,0,none⟩)]) ((finish_any hS he hrs hw2).mono fun r w hq=>?_)
  clear hw hw1 hw2;obtain⟨rfl,hw⟩:=hq;refine⟨_,rfl,?_⟩;repeat first|refine byW ?_|refine byV ?_;intro w hw
  exact⟨_,rfl,rfl,hw.ds [2,2]⟩
 | succ m ih=>
  intro k hk S e rs w he hrs hw;have hkn:k<gn:=by omega
  have ihk:=ih (k+1) (by omega)
  obtain⟨x,hx⟩:=get_lt (l:=gs) (k:=k) (by omega)
  obtain⟨t,ht⟩:=get_lt (l:=ts) (k:=k) (by omega)
  have hxm:=List.mem_of_getElem? hx
  have htm:=List.mem_of_getElem? ht
  have hgok:=hS.qr.ok x hxm
  have hgoal:=hS.goal hxm
  have hRL:=hS.rl t htm
  have heq:=hS.eq k x t hx ht
  have har:=tabS_ar (db:=db) (g:=x.g)
  have hRx:=hR x.g (by rw[←hS.qr.eq];exact List.mem_map_of_mem (f:=(·.g)) hxm)
  rw[drop_get (goalsT_get hS hx)]at hrs ⊢
  obtain⟨φ,hφ⟩:∃φ,φ=srch (finS (goalsT db q) q.Sel) ((goalsT db q).drop (k+1)):=⟨_,rfl⟩
  rw[←hφ]at ihk;obtain⟨g,A,N,C⟩:=x;obtain⟨tv,fs⟩:=t;obtain⟨fa,fc,htv,hfc1,hfc2⟩:=hRL.len;simp only at hgoal heq har hRx htv hfc1 hfc2 hrs ⊢
  subst htv;obtain⟨R,hRe⟩:∃R,R=srch (finS (goalsT db q) q.Sel) ((g,tabS db g)::(goalsT db q).drop (k+1)) e:=⟨_,rfl⟩
  rw[←hRe]at hrs ⊢
  unfold srch at hRe;rw[←hφ]at hRe;obtain⟨vr,L,hL,hw⟩:=SV_open hw
  refine calls_of_W Tryz.func35 rfl rfl ?_
  repeat first|refine byW ?_|refine byV ?_;intro w hw
  refine lBox ?_;intro b2 w hw;repeat first|refine byW ?_|refine byV ?_;intro w hw
  refine lBox ?_;intro b3 w hw;have hw:Wd Γ (.blk b3 (.cells #[.int .i64 k] 3)::.blk b2 (.cells #[.pointer (some ⟨b,0,none⟩)] 95)::.blk b (solC (.slice sa sn sc) (.slice ga gn gc) (.slice ta tn tc) vr bm)::(rowsX vr L++(envR bm e::S))) w:=hw
  have hw:Wd Γ (.blk b2 (.cells #[.pointer (some ⟨b,0,none⟩)] 95)::.blk b3 (.cells #[.int .i64 k] 3)::.blk b (solC (.slice sa sn sc) (.slice ga gn gc) (.slice ta tn tc) vr bm)::envR bm e::(rowsX vr L++S)) w:=hw.perm byPM
  repeat first|refine byW ?_|refine byV ?_;intro w hw
  refine W_quiet (by kernel_rfl) (by kernel_rfl) hw ?_
  refine byQ ?_;clear hw;intro w hw;have hw:Wd Γ (.blk b2 (.cells #[.pointer (some ⟨b,0,none⟩)] 95)::.blk b3 (.cells #[.int .i64 k] 3)::.blk b (solC (.slice sa sn sc) (.slice ga gn gc) (.slice ta tn tc) vr bm)::envR bm e::(rowsX vr L++S)) w:=hw
  refine W_cond_false (congrArg Value.bool (decide_eq_false (by omega))) ?_
  repeat first|refine byW ?_|refine byV ?_;intro w hw
  refine W_mixE 1 [[],[],[],[],[],[],[],[],[0],[0]] [[],[],[],[],[],[],[],[],[0],[0]] [[4]] ?_ (hw:=hw)
  refine byM ?_;refine mAlloc ?_
  refine mStoreAt ?_
  refine mEndAt ?_
  clear hw;intro b4 w hw;have hw:Wd Γ (.blk b4 (.cells (cG ⟨g,A,N,C⟩).toArray 47)::.blk b2 (.cells #[.pointer (some ⟨b,0,none⟩)] 95)::.blk b3 (.cells #[.int .i64 k] 3)::.blk b (solC (.slice sa sn sc) (.slice ga gn gc) (.slice ta tn tc) vr bm)::envR bm e::(rowsX vr L++S)) w:=hw
  repeat first|refine byW ?_|refine byV ?_;intro w hw
  refine W_cond rfl (fun h=>?_) (fun h=>?_)
  ·have hk1:g.Kind=1:=of_decide_eq_true h
   clear h;rw[if_pos hk1]at hRe;have hRe2:R=fs.flatMap fun f=>(fun f:Fact=>if fitsS e g.Args f.2 then withS φ e g.Args f.2 else []) f.fact:=by
    rw[hRe,←heq];unfold facts;rw[List.flatMap_map]
   have hat:isAtomB g=true:=by unfold isAtomB;rw[hk1];rfl
   repeat first|refine byW ?_|refine byV ?_;intro w hw
   refine W_quiet (by kernel_rfl) (by kernel_rfl) hw ?_
   refine byQ ?_;clear hw;intro w hw;have hw:Wd Γ (.blk b (solC (.slice sa sn sc) (.slice ga gn gc) (.slice ta tn tc) vr bm)::(rowsX vr L++(envR bm e::(.blk b2 (.cells #[.pointer (some ⟨b,0,none⟩)] 95)::.blk b3 (.cells #[.int .i64 k] 3)::.blk b4 (.cells (cG ⟨g,A,N,C⟩).toArray 47)::S)))) w:=hw.perm byPM
   have hw:=SV_close (vr:=vr) hL hw
   clear hL;repeat first|refine byW ?_|refine byV ?_;intro w hw
   refine W_loop (fun μ ρ w=>∃(j:Nat),μ+j=fs.length∧Has ρ [(2,.pointer (some ⟨b2,0,none⟩)),(3,.pointer (some ⟨b3,0,none⟩)),(4,.pointer (some ⟨b4,0,none⟩)),(43,.slice fa fs.length fc),(44,.int .i64 fs.length),(45,.int .i64 j)]∧Wd Γ (SV b bm (.slice sa sn sc) (.slice ga gn gc) (.slice ta tn tc) (rs++(fs.take j).flatMap fun f=>(fun f:Fact=>if fitsS e g.Args f.2 then withS φ e g.Args f.2 else []) f.fact)::envR bm e::.blk b2 (.cells #[.pointer (some ⟨b,0,none⟩)] 95)::.blk b3 (.cells #[.int .i64 k] 3)::.blk b4 (.cells (cG ⟨g,A,N,C⟩).toArray 47)::S) w) fs.length ⟨0,by omega,⟨rfl,rfl,rfl,rfl,rfl,rfl,trivial⟩,by rw[List.take_zero,List.flatMap_nil,List.append_nil];exact hw⟩ ?_
   clear hw;rintro μ ρ w ⟨j,hj,hρ,hw⟩
   rw[hρ.eq];clear hρ;repeat first|refine byW ?_|refine byV ?_;intro w hw
   refine W_cond rfl (fun h=>?_) (fun h=>?_)
   ·have hjn:j<fs.length:=by have:=of_decide_eq_true h;omega
    clear h;obtain⟨f,hf⟩:=get_lt (l:=fs) (k:=j) hjn
    obtain⟨h1,h2⟩:=hRL.ok f (List.mem_of_getElem? hf)
    have hm:f.fact∈tabS db g:=by rw[←heq];exact List.mem_map_of_mem (f:=FactH.fact) (List.mem_of_getElem? hf)
    have hfl:=har _ hm
    have hsu:=fm_succ (F:=fun f:FactH=>(fun f:Fact=>if fitsS e g.Args f.2 then withS φ e g.Args f.2 else []) f.fact) hf
    have hle:=fm_le (F:=fun f:FactH=>(fun f:Fact=>if fitsS e g.Args f.2 then withS φ e g.Args f.2 else []) f.fact) hf
    rw[←hRe2]at hle;have hrb:=hRL.rep
    repeat first|refine byW ?_|refine byV ?_;intro w hw
    refine lAlloc ?_;intro b6 w hw;refine lStore ?_;intro w hw;obtain⟨fr,fa2,fn2,fc2,xs⟩:=f;have hw:Wd Γ (.blk b6 (.cells (cF ⟨fr,fa2,fn2,fc2,xs⟩).toArray 67)::SV b bm (.slice sa sn sc) (.slice ga gn gc) (.slice ta tn tc) (rs++(fs.take j).flatMap fun f=>(fun f:Fact=>if fitsS e g.Args f.2 then withS φ e g.Args f.2 else []) f.fact)::envR bm e::.blk b2 (.cells #[.pointer (some ⟨b,0,none⟩)] 95)::.blk b3 (.cells #[.int .i64 k] 3)::.blk b4 (.cells (cG ⟨g,A,N,C⟩).toArray 47)::S) w:=hw
    have hw:Wd Γ (SV b bm (.slice sa sn sc) (.slice ga gn gc) (.slice ta tn tc) (rs++(fs.take j).flatMap fun f=>(fun f:Fact=>if fitsS e g.Args f.2 then withS φ e g.Args f.2 else []) f.fact)::envR bm e::.blk b2 (.cells #[.pointer (some ⟨b,0,none⟩)] 95)::.blk b3 (.cells #[.int .i64 k] 3)::.blk b6 (.cells (cF ⟨fr,fa2,fn2,fc2,xs⟩).toArray 67)::.blk b4 (.cells (cG ⟨g,A,N,C⟩).toArray 47)::S) w:=hw.perm byPM
    repeat first|refine byW ?_|refine byV ?_;intro w hw
    refine lCall (vs:=[.pointer (some ⟨b,0,none⟩),.slice A N C,.agg (cF ⟨fr,fa2,fn2,fc2,xs⟩).toArray]) ((fits_SV (f:=⟨fr,fa2,fn2,fc2,xs⟩) (va:=.slice A N C) (os:=g.Args) hgok hgoal.args h1 h2 hfl he.noKey hgoal.len hw).mono fun r w hq=>?_)
    clear hw;obtain⟨rfl,hw⟩:=hq;refine⟨_,rfl,?_⟩;have hxl:((rs++(fs.take j).flatMap fun f=>(fun f:Fact=>if fitsS e g.Args f.2 then withS φ e g.Args f.2 else []) f.fact).length=rs.length+((fs.take j).flatMap fun f=>(fun f:Fact=>if fitsS e g.Args f.2 then withS φ e g.Args f.2 else []) f.fact).length):=List.length_append
    repeat first|refine byW ?_|refine byV ?_;intro w hw
    refine W_cond rfl (fun h=>?_) (fun h=>?_)
    ·have hF:(fun f:Fact=>if fitsS e g.Args f.2 then withS φ e g.Args f.2 else []) (FactH.fact ⟨fr,fa2,fn2,fc2,xs⟩)=withS φ e g.Args xs:=if_pos h
     rw[hF]at hsu hle
     repeat first|refine byW ?_|refine byV ?_;intro w hw
     refine lCall (vs:=[.pointer (some ⟨b,0,none⟩),.slice A N C,.slice fa2 fn2 fc2,.func (.func 78) #[] #[.pointer (some ⟨b2,0,none⟩),.pointer (some ⟨b3,0,none⟩)]]) ((with_any (CAP:=[.blk b2 (.cells #[.pointer (some ⟨b,0,none⟩)] 95),.blk b3 (.cells #[.int .i64 k] 3)]) (S:=.blk b6 (.cells (cF ⟨fr,fa2,fn2,fc2,xs⟩).toArray 67)::.blk b4 (.cells (cG ⟨g,A,N,C⟩).toArray 47)::S) (rs:=rs++(fs.take j).flatMap fun f=>(fun f:Fact=>if fitsS e g.Args f.2 then withS φ e g.Args f.2 else []) f.fact) (cap:=[.pointer (some ⟨b2,0,none⟩),.pointer (some ⟨b3,0,none⟩)]) (q:=78) (os:=g.Args) (xs:=xs) φ (fun e' rs' S' w h1 h2 h3=>cl_search1 (by omega) ihk e' rs' S' w h1 h2 h3) (RepS.rdS hgok) (RepS.rdS h1) hfl hgoal.len h2.2.2 he (by rw[hxl];omega) hw).mono fun r w hq=>?_)
     clear hw;obtain⟨rfl,hw⟩:=hq;refine⟨_,rfl,?_⟩;rw[List.append_assoc,←hsu]at hw;repeat first|refine byW ?_|refine byV ?_;intro w hw
     refine⟨fs.length-j-1,by omega,j+1,by omega,⟨rfl,rfl,rfl,rfl,rfl,rfl,trivial⟩,?_⟩
     exact hw.dropAt 4
    ·have hF:(fun f:Fact=>if fitsS e g.Args f.2 then withS φ e g.Args f.2 else []) (FactH.fact ⟨fr,fa2,fn2,fc2,xs⟩)=[]:=if_neg (by show ¬fitsS e g.Args xs=true;rw[show fitsS e g.Args xs=false from h];simp)
     rw[hF,List.append_nil]at hsu;rw[←hsu]at hw;repeat first|refine byW ?_|refine byV ?_;intro w hw
     refine⟨fs.length-j-1,by omega,j+1,by omega,⟨rfl,rfl,rfl,rfl,rfl,rfl,trivial⟩,?_⟩
     exact hw.dropAt 4
   have hjn:fs.length≤j:=by have:=of_decide_eq_false h;omega
   rw[List.take_of_length_le hjn,←hRe2]at hw;repeat first|refine byW ?_|refine byV ?_;intro w hw
   exact⟨_,rfl,rfl,hw.ds [2,2,2]⟩
  have hk1:¬g.Kind=1:=of_decide_eq_false h
  clear h;rw[if_neg hk1]at hRe;repeat first|refine byW ?_|refine byV ?_;intro w hw
  refine W_cond rfl (fun h=>?_) (fun h=>?_)
  ·have hk4:g.Kind=4:=of_decide_eq_true h
   clear h;rw[if_pos hk4]at hRe;obtain⟨hlh,hlh2⟩:=hRx hk4
   have hi1:=hgoal.low
   have hi2:=hgoal.high
   have hsub:=u64_sub hi2 hi1 hlh
   have hw:Wd Γ (.blk b4 (.cells (cG ⟨g,A,N,C⟩).toArray 47)::envR bm e::.blk b2 (.cells #[.pointer (some ⟨b,0,none⟩)] 95)::.blk b3 (.cells #[.int .i64 k] 3)::.blk b (solC (.slice sa sn sc) (.slice ga gn gc) (.slice ta tn tc) vr bm)::(rowsX vr L++S)) w:=hw.perm byPM
   repeat first|refine byW ?_|refine byV ?_;intro w hw
   refine W_mixE 1 [[],[],[],[],[],[],[],[],[],[],[],[0],[0],[]] [[],[],[],[],[],[],[],[],[],[],[],[0],[0],[]] [[7]] ?_ (hw:=hw)
   refine byM ?_;refine mAlloc ?_
   refine mStoreAt ?_
   refine byM ?_;refine mEndAt ?_
   clear hw;intro b7 w hw;have hw:Wd Γ (.blk b7 (.cells (enc ((aGet e g.L.Var).getD default)).toArray 41)::.blk b4 (.cells (cG ⟨g,A,N,C⟩).toArray 47)::envR bm e::.blk b2 (.cells #[.pointer (some ⟨b,0,none⟩)] 95)::.blk b3 (.cells #[.int .i64 k] 3)::.blk b (solC (.slice sa sn sc) (.slice ga gn gc) (.slice ta tn tc) vr bm)::(rowsX vr L++S)) w:=hw
   have hw:Wd Γ (.blk b (solC (.slice sa sn sc) (.slice ga gn gc) (.slice ta tn tc) vr bm)::(rowsX vr L++(envR bm e::.blk b2 (.cells #[.pointer (some ⟨b,0,none⟩)] 95)::.blk b3 (.cells #[.int .i64 k] 3)::.blk b7 (.cells (enc ((aGet e g.L.Var).getD default)).toArray 41)::.blk b4 (.cells (cG ⟨g,A,N,C⟩).toArray 47)::S))) w:=hw.perm byPM
   have hw:=SV_close (vr:=vr) hL hw
   clear hL;repeat first|refine byW ?_|refine byV ?_;intro w hw
   refine W_cond rfl (fun h=>?_) (fun h=>?_)
   ·obtain⟨v,hv⟩:=Option.isSome_iff_exists.1 h
    clear h;rw[hv]at hw hRe
    simp only at hRe
    have hw:Wd Γ (SV b bm (.slice sa sn sc) (.slice ga gn gc) (.slice ta tn tc) rs::envR bm e::.blk b2 (.cells #[.pointer (some ⟨b,0,none⟩)] 95)::.blk b3 (.cells #[.int .i64 k] 3)::.blk b7 (.cells (enc v).toArray 41)::.blk b4 (.cells (cG ⟨g,A,N,C⟩).toArray 47)::S) w:=hw
    repeat first|refine byW ?_|refine byV ?_;intro w hw
    refine W_cond rfl (fun h=>?_) (fun h=>?_)
    ·have hc:v.Kind=1∧g.Low≤v.Num∧v.Num≤g.High:=by
      simp only[Bool.and_eq_true,decide_eq_true_eq]at h
      exact⟨h.1.1,h.1.2,h.2⟩
     rw[if_pos hc]at hRe;repeat first|refine byW ?_|refine byV ?_;intro w hw
     refine lCall (vs:=[.pointer (some ⟨b,0,none⟩),.int .i64 ((k+1:Nat):Int)]) ((ihk _ e rs w he (by rw[←hRe];exact hrs) hw).mono fun r w hq=>?_)
     clear hw;obtain⟨rfl,hw⟩:=hq;refine⟨_,rfl,?_⟩;rw[←hRe]at hw;repeat first|refine byW ?_|refine byV ?_;intro w hw
     exact⟨_,rfl,rfl,hw.ds [2,2,2,2]⟩
    ·have hc:¬(v.Kind=1∧g.Low≤v.Num∧v.Num≤g.High):=by
      intro hc;simp only[Bool.and_eq_false_iff,decide_eq_false_iff_not]at h
      rcases h with (h|h)|h
      ·exact h hc.1
      ·exact h hc.2.1
      ·exact h hc.2.2
     rw[if_neg hc]at hRe;repeat first|refine byW ?_|refine byV ?_;intro w hw
     refine⟨_,rfl,rfl,?_⟩
     rw[hRe,List.append_nil];exact hw.ds [2,2,2,2]
   have hv:aGet e g.L.Var=none:=by simpa using h
   clear h;rw[hv]at hRe;simp only at hRe
   obtain⟨M,hM⟩:∃M,M=(g.High-g.Low+1).toNat:=⟨_,rfl⟩
   rw[←hM]at hRe;have hw:Wd Γ (SV b bm (.slice sa sn sc) (.slice ga gn gc) (.slice ta tn tc) rs::envR bm e::.blk b2 (.cells #[.pointer (some ⟨b,0,none⟩)] 95)::.blk b3 (.cells #[.int .i64 k] 3)::.blk b4 (.cells (cG ⟨g,A,N,C⟩).toArray 47)::S) w:=hw.dropAt 4
   repeat first|refine byW ?_|refine byV ?_;intro w hw
   refine W_loop (fun μ ρ w=>∃(j:Nat),μ+j=M∧Has ρ [(2,.pointer (some ⟨b2,0,none⟩)),(3,.pointer (some ⟨b3,0,none⟩)),(4,.pointer (some ⟨b4,0,none⟩)),(9,.int .u64 j)]∧Wd Γ (SV b bm (.slice sa sn sc) (.slice ga gn gc) (.slice ta tn tc) (rs++((List.range M).take j).flatMap (fun n:Nat=>withS φ e [g.L] [rngV g.Low n]))::envR bm e::.blk b2 (.cells #[.pointer (some ⟨b,0,none⟩)] 95)::.blk b3 (.cells #[.int .i64 k] 3)::.blk b4 (.cells (cG ⟨g,A,N,C⟩).toArray 47)::S) w) M ⟨0,by omega,⟨rfl,rfl,rfl,rfl,trivial⟩,by rw[List.take_zero,List.flatMap_nil,List.append_nil];exact hw⟩ ?_
   clear hw;rintro μ ρ w ⟨j,hj,hρ,hw⟩
   rw[hρ.eq];clear hρ;repeat first|refine byW ?_|refine byV ?_;intro w hw
   refine W_cond rfl (fun h=>?_) (fun h=>?_)
   ·have h:(j:Int)≤IntKind.u64.wrap (IntKind.u64.wrap g.High-IntKind.u64.wrap g.Low):=of_decide_eq_true h
    rw[hsub]at h;have hjM:j<M:=by omega
    have hgj:(List.range M)[j]? = some j:=List.getElem?_range hjM
    have hsu:=fm_succ (F:=(fun n:Nat=>withS φ e [g.L] [rngV g.Low n])) hgj
    have hle:=fm_le (F:=(fun n:Nat=>withS φ e [g.L] [rngV g.Low n])) hgj
    rw[←hRe]at hle;have hxl:((rs++((List.range M).take j).flatMap (fun n:Nat=>withS φ e [g.L] [rngV g.Low n])).length=rs.length+(((List.range M).take j).flatMap (fun n:Nat=>withS φ e [g.L] [rngV g.Low n])).length):=List.length_append
    have hwj:IntKind.i64.wrap (j:Int)=j:=wrap_i64 (by omega) (by omega)
    unfold I64 at hi1 hi2;have hvok:ValOk (rngV g.Low j):=⟨⟨by show _≤g.Low+(j:Int);omega,by show g.Low+(j:Int)≤_;omega⟩,by show (⟨#[]⟩:ByteArray).size≤100000;decide⟩
    clear h hsub;repeat first|refine byW ?_|refine byV ?_;intro w hw
    refine lAlloc ?_;intro b10 w hw;refine lStore ?_;intro w hw;have hw:Wd Γ (.blk b10 (.cells #[.int .i64 1,.int .i64 (IntKind.i64.wrap (g.Low+IntKind.i64.wrap (j:Int))),.string ⟨#[]⟩] 41)::SV b bm (.slice sa sn sc) (.slice ga gn gc) (.slice ta tn tc) (rs++((List.range M).take j).flatMap (fun n:Nat=>withS φ e [g.L] [rngV g.Low n]))::envR bm e::.blk b2 (.cells #[.pointer (some ⟨b,0,none⟩)] 95)::.blk b3 (.cells #[.int .i64 k] 3)::.blk b4 (.cells (cG ⟨g,A,N,C⟩).toArray 47)::S) w:=hw
    rw[hwj,wrap_i64 (by omega) (by omega)]at hw
    have hw:Wd Γ (.blk b10 (.cells (enc (rngV g.Low j)).toArray 41)::SV b bm (.slice sa sn sc) (.slice ga gn gc) (.slice ta tn tc) (rs++((List.range M).take j).flatMap (fun n:Nat=>withS φ e [g.L] [rngV g.Low n]))::envR bm e::.blk b2 (.cells #[.pointer (some ⟨b,0,none⟩)] 95)::.blk b3 (.cells #[.int .i64 k] 3)::.blk b4 (.cells (cG ⟨g,A,N,C⟩).toArray 47)::S) w:=hw
    repeat first|refine byW ?_|refine byV ?_;intro w hw
    refine lBuildSlice [enc g.L] ?_
    intro q1 w hw;repeat first|refine byW ?_|refine byV ?_;intro w hw
    refine lBuildSlice [enc (rngV g.Low j)] ?_
    intro q2 w hw;have hw:Wd Γ (.own (.slice (some q2) 1 1) 41 3 [enc (rngV g.Low j)]::.own (.slice (some q1) 1 1) 43 4 [enc g.L]::.blk b10 (.cells (enc (rngV g.Low j)).toArray 41)::SV b bm (.slice sa sn sc) (.slice ga gn gc) (.slice ta tn tc) (rs++((List.range M).take j).flatMap (fun n:Nat=>withS φ e [g.L] [rngV g.Low n]))::envR bm e::.blk b2 (.cells #[.pointer (some ⟨b,0,none⟩)] 95)::.blk b3 (.cells #[.int .i64 k] 3)::.blk b4 (.cells (cG ⟨g,A,N,C⟩).toArray 47)::S) w:=hw
    have hw:Wd Γ (SV b bm (.slice sa sn sc) (.slice ga gn gc) (.slice ta tn tc) (rs++((List.range M).take j).flatMap (fun n:Nat=>withS φ e [g.L] [rngV g.Low n]))::envR bm e::.blk b2 (.cells #[.pointer (some ⟨b,0,none⟩)] 95)::.blk b3 (.cells #[.int .i64 k] 3)::.own (.slice (some q1) 1 1) 43 4 [enc g.L]::.own (.slice (some q2) 1 1) 41 3 [enc (rngV g.Low j)]::.blk b10 (.cells (enc (rngV g.Low j)).toArray 41)::.blk b4 (.cells (cG ⟨g,A,N,C⟩).toArray 47)::S) w:=hw.perm byPM
    repeat first|refine byW ?_|refine byV ?_;intro w hw
    refine lCall (vs:=[.pointer (some ⟨b,0,none⟩),.slice (some q1) 1 1,.slice (some q2) 1 1,.func (.func 79) #[] #[.pointer (some ⟨b2,0,none⟩),.pointer (some ⟨b3,0,none⟩)]]) ((with_any (CAP:=[.blk b2 (.cells #[.pointer (some ⟨b,0,none⟩)] 95),.blk b3 (.cells #[.int .i64 k] 3)]) (S:=.own (.slice (some q1) 1 1) 43 4 [enc g.L]::.own (.slice (some q2) 1 1) 41 3 [enc (rngV g.Low j)]::.blk b10 (.cells (enc (rngV g.Low j)).toArray 41)::.blk b4 (.cells (cG ⟨g,A,N,C⟩).toArray 47)::S) (rs:=rs++((List.range M).take j).flatMap (fun n:Nat=>withS φ e [g.L] [rngV g.Low n])) (cap:=[.pointer (some ⟨b2,0,none⟩),.pointer (some ⟨b3,0,none⟩)]) (q:=79) (os:=[g.L]) (xs:=[rngV g.Low j]) φ (fun e' rs' S' w h1 h2 h3=>cl_search2 (by omega) ihk e' rs' S' w h1 h2 h3) (RdS.ownI (i:=2) rfl rfl (Nat.le_refl _) (by omega)) (RdS.ownI (i:=3) rfl rfl (Nat.le_refl _) (by omega)) rfl (by simp) (fun v hv=>by rw[List.mem_singleton.1 hv];exact hvok) he (by rw[hxl];omega) hw).mono fun r w hq=>?_)
    clear hw;obtain⟨rfl,hw⟩:=hq;refine⟨_,rfl,?_⟩;rw[List.append_assoc,←hsu]at hw;repeat first|refine byW ?_|refine byV ?_;intro w hw
    refine⟨M-j-1,by omega,j+1,by omega,⟨rfl,rfl,rfl,(by show Value.int .u64 (IntKind.u64.wrap ((j:Int)+1))=_;rw[u64_small (by omega) (by omega)];rfl),trivial⟩,?_⟩
    exact hw.ds [4,4,4]
   have h:¬(j:Int)≤IntKind.u64.wrap (IntKind.u64.wrap g.High-IntKind.u64.wrap g.Low):=of_decide_eq_false h
   rw[hsub]at h;rw[List.take_of_length_le (by rw[List.length_range];omega),←hRe]at hw
   repeat first|refine byW ?_|refine byV ?_;intro w hw
   exact⟨_,rfl,rfl,hw.ds [2,2,2]⟩
  have hk4:¬g.Kind=4:=of_decide_eq_false h
  clear h;rw[if_neg hk4]at hRe;have hw:Wd Γ (.blk b (solC (.slice sa sn sc) (.slice ga gn gc) (.slice ta tn tc) vr bm)::(rowsX vr L++(envR bm e::.blk b2 (.cells #[.pointer (some ⟨b,0,none⟩)] 95)::.blk b3 (.cells #[.int .i64 k] 3)::.blk b4 (.cells (cG ⟨g,A,N,C⟩).toArray 47)::S))) w:=hw.perm byPM
  have hw:=SV_close (vr:=vr) hL hw
  repeat first|refine byW ?_|refine byV ?_;intro w hw
  refine lCall (vs:=[.pointer (some ⟨b,0,none⟩),.int .i64 ((k+1:Nat):Int)]) ((ihk _ e rs w he (by rw[←hRe];exact hrs) hw).mono fun r w hq=>?_)
  clear hw;obtain⟨rfl,hw⟩:=hq;refine⟨_,rfl,?_⟩;rw[←hRe]at hw;repeat first|refine byW ?_|refine byV ?_;intro w hw
  exact⟨_,rfl,rfl,hw.ds [2,2,2]⟩
end Go.Proofs.YtfoggcgogafocaaGreat
end
section
open Go Mk
namespace Go.Proofs.YtfoggcgogafocaaGreat
set_option maxHeartbeats 16000000
attribute [local irreducible] Calls cI cB
abbrev nmR(bm:Nat)(ks:List ByteArray):Res:=Res.ms Value.bool bm (ks.map fun s=>(s,true))
theorem nm_ix{ks:List ByteArray}{s:ByteArray}:aIx (ks.map fun s=>(s,true)) s=ks.findIdx? fun t=>decide (t=s):=by
 unfold aIx;rw[List.findIdx?_map];rfl
theorem nm_get{ks:List ByteArray}{s:ByteArray}:(aGet (ks.map fun s=>(s,true)) s).getD default=hasN ks s:=by
 unfold aGet hasN;rw[nm_ix];cases h:ks.findIdx? fun t=>decide (t=s) with
 | none=>
  rw[List.findIdx?_eq_none_iff]at h;symm
  show _=false
  rw[List.any_eq_false];intro x hx;rw[h x hx];simp
 | some i=>
  have hh:=List.findIdx?_eq_some_iff_getElem.1 h
  obtain⟨h1,h2,-⟩:=hh;simp only[Option.bind_some]
  rw[List.getElem?_map,List.getElem?_eq_getElem h1];symm
  show _=true
  rw[List.any_eq_true];exact⟨ks[i],List.getElem_mem h1,h2⟩
theorem nm_set{ks:List ByteArray}{s:ByteArray}:aSet (ks.map fun s=>(s,true)) s true=(addN ks s).map fun s=>(s,true):=by
 unfold aSet addN hasN;rw[nm_ix];cases h:ks.findIdx? fun t=>decide (t=s) with
 | none=>
  rw[List.findIdx?_eq_none_iff]at h;have:(ks.any fun t=>decide (t=s))=false:=by
   rw[List.any_eq_false];intro x hx;rw[h x hx];simp
  rw[this];simp
 | some i=>
  have hh:=List.findIdx?_eq_some_iff_getElem.1 h
  obtain⟨h1,h2,-⟩:=hh;have h2:ks[i]=s:=of_decide_eq_true h2
  have:(ks.any fun t=>decide (t=s))=true:=List.any_eq_true.2 ⟨ks[i],List.getElem_mem h1,decide_eq_true h2⟩
  rw[this];simp only[if_true]
  have e:(s,true)=(ks.map fun s=>(s,true))[i]'(by rw[List.length_map];exact h1):=by simp[h2]
  rw[e];exact List.set_getElem_self _
theorem map_erase{α β:Type}(f:α→β):∀(l:List α) (i:Nat),(l.map f).eraseIdx i=(l.eraseIdx i).map f
 | [],_=>rfl
 | _::_,0=>rfl
 | a::l,i+1=>by
  show f a::(l.map f).eraseIdx i=f a::(l.eraseIdx i).map f
  rw[map_erase f l i]
theorem nm_del{ks:List ByteArray}{s:ByteArray}(hn:ks.Nodup):aDel (ks.map fun s=>(s,true)) s=(ks.filter fun t=>decide (t≠s)).map fun s=>(s,true):=by
 unfold aDel;rw[nm_ix];have key:∀(ks:List ByteArray),ks.Nodup→(match ks.findIdx? (fun t=>decide (t=s)) with|some i=>ks.eraseIdx i|none=>ks)=ks.filter fun t=>decide (t≠s):=by
  intro ks;induction ks with
  | nil=>intro _;rfl
  | cons a l ih=>
   intro hn;rw[List.nodup_cons]at hn;rw[List.findIdx?_cons];by_cases h:a=s
   ·subst h;simp only[decide_true,if_true,List.eraseIdx_zero,List.tail_cons]
    rw[List.filter_cons,if_neg (by simp)]
    rw[List.filter_eq_self.2];intro x hx;simp only[ne_eq,decide_eq_true_eq]
    exact fun e=>hn.1 (e ▸ hx)
   ·rw[decide_eq_false h];simp only[Bool.false_eq_true,if_false]
    rw[List.filter_cons,if_pos (by simpa using h),←ih hn.2]
    cases hq:l.findIdx? fun t=>decide (t=s) with
    | none=>rfl
    | some i=>rfl
 rw[←key ks hn];cases hq:ks.findIdx? fun t=>decide (t=s) with
 | none=>rfl
 | some i=>
  show (ks.map _).eraseIdx i=(ks.eraseIdx i).map _
  exact map_erase _ _ _
theorem addN_mem{l:List ByteArray}{s t:ByteArray}:t∈addN l s↔t∈l∨t=s:=by
 unfold addN;split
 ·rename_i h
  rw[hasN_iff]at h;exact⟨Or.inl,fun h2=>h2.elim id fun e=>e ▸ h⟩
 ·simp
theorem addN_nodup{l:List ByteArray}{s:ByteArray}(h:l.Nodup):(addN l s).Nodup:=by
 unfold addN;split
 ·exact h
 ·rename_i h2
  rw[hasN_iff]at h2;rw[List.nodup_append];exact⟨h,by simp,fun a ha b hb=>by
   rw[List.mem_singleton.1 hb];exact fun e=>h2 (e ▸ ha)⟩
theorem addL_nodup:∀ {ns ks:List ByteArray},ks.Nodup→(ns.foldl addN ks).Nodup
 | [],_,h=>h
 | _::ns,_,h=>addL_nodup (ns:=ns) (addN_nodup h)
theorem addL_mem{s:ByteArray}:∀ {ns ks:List ByteArray},s∈ns.foldl addN ks↔s∈ks∨s∈ns
 | [],_=>by simp
 | n::ns,ks=>by
  rw[List.foldl_cons,addL_mem (ns:=ns),addN_mem,List.mem_cons,or_assoc]
theorem addL_filter{p:ByteArray→Bool}:∀ {ns ks:List ByteArray},(ns.foldl addN ks).filter p=(ns.filter p).foldl addN (ks.filter p)
 | [],_=>rfl
 | n::ns,ks=>by
  have key:(addN ks n).filter p=if p n=true then addN (ks.filter p) n else ks.filter p:=by
   unfold addN;by_cases h:hasN ks n=true
   ·rw[if_pos h];by_cases hp:p n=true
    ·rw[if_pos hp,if_pos];rw[hasN_iff]at h ⊢
     exact List.mem_filter.2 ⟨h,hp⟩
    ·rw[if_neg hp]
   ·rw[if_neg h,List.filter_append];by_cases hp:p n=true
    ·rw[if_pos hp,if_neg]
     ·simp[hp]
     ·intro h2;rw[hasN_iff]at h h2
      exact h (List.mem_filter.1 h2).1
    ·rw[if_neg hp];simp[hp]
  rw[List.foldl_cons,addL_filter (ns:=ns),key,List.filter_cons];by_cases hp:p n=true
  ·rw[if_pos hp,if_pos hp,List.foldl_cons]
  ·rw[if_neg hp,if_neg hp]
theorem named_len{q:Query}:((((allN q).foldl addN []).filter fun t=>decide (t≠noS)).filter fun t=>decide (t≠anyS))=namedQ q:=by
 rw[List.filter_filter];unfold namedQ;have e:(fun t:ByteArray=>decide (t≠anyS)&&decide (t≠noS))=isNm:=by
  funext t
  unfold isNm;rw[Bool.and_comm]
 rw[e,addL_filter];rfl
section
variable {Γ:Gho}{vs vg:Value}{gs:List GoalH}{q:Query}
theorem QR.glen(hq:QR Γ vs vg gs q)(hok:QueryOk q):gs.length≤1000:=by
 have:=hok.len
 rw[←hq.eq,List.length_map]at this;exact this
theorem QR.goal(hq:QR Γ vs vg gs q)(hok:QueryOk q){x:GoalH}(hx:x∈gs):GoalOk x.g:=
 hok.goals _ (by rw[←hq.eq];exact List.mem_map_of_mem (f:=(·.g)) hx)
theorem QR.get(hq:QR Γ vs vg gs q){k:Nat}{x:GoalH}(hx:gs[k]? = some x):q.Goals[k]? = some x.g:=by
 rw[←hq.eq,List.getElem?_map,hx];rfl
theorem QR.nlen(hq:QR Γ vs vg gs q):q.Goals.length=gs.length:=by
 rw[←hq.eq,List.length_map]
end
theorem pg_checkNumbers{Γ:Gho}{vs vg:Value}{gs:List GoalH}{q:Query}(hq0:QR Γ vs vg gs q)(hok:QueryOk q):PG Tryz.prog Γ 72 [.agg #[vs,vg]] (.int .i64 (if okNum q=true then 0 else 6)):=pg_free fun Γ w hle hw=>by
 have hq:=hq0.mono hle
 obtain⟨ga,gn,gc,rfl,hgn,hgnc,hgc⟩:=hq.goals.shape;obtain⟨sa,sn,sc,rfl,hsn,hsnc,hsc⟩:=hq.sel.shape;simp only[List.length_map]at hgn hsn
 have hrG:=hq.goals
 have hgl:=hq.glen hok
 refine calls_of_W Tryz.func72 rfl rfl ?_
 repeat first|refine byW ?_|refine byV ?_;intro w hw
 refine lBox ?_;intro b1 w hw;have hw:Wd Γ [.blk b1 (.cells #[.slice sa sn sc,.slice ga gn gc] 50)] w:=hw
 repeat first|refine byW ?_|refine byV ?_;intro w hw
 refine W_loop (fun μ ρ w=>∃(k:Nat),μ+k=gn∧Has ρ [(1,.pointer (some ⟨b1,0,none⟩)),(6,.slice ga gn gc),(7,.int .i64 gn),(8,.int .i64 k)]∧okNum q=(q.Goals.drop k).all numG∧Wd Γ [.blk b1 (.cells #[.slice sa sn sc,.slice ga gn gc] 50)] w) gn ⟨0,by omega,⟨rfl,rfl,rfl,rfl,trivial⟩,rfl,hw⟩ ?_
 clear hw;rintro μ ρ w ⟨k,hk,hρ,hall,hw⟩
 rw[hρ.eq];clear hρ;repeat first|refine byW ?_|refine byV ?_;intro w hw
 refine W_cond rfl (fun h=>?_) (fun h=>?_)
 ·have hkn:k<gn:=by have:=of_decide_eq_true h;omega
  clear h;obtain⟨x,hx⟩:=get_lt (l:=gs) (k:=k) (by omega)
  have hgoal:=hq.goal hok (List.mem_of_getElem? hx)
  rw[all_drop (hq.get hx)]at hall;obtain⟨g,A,N,C⟩:=x;simp only at hall hgoal
  obtain⟨hm1,hm2⟩:=hgoal.low;obtain⟨hm3,hm4⟩:=hgoal.high;repeat first|refine byW ?_|refine byV ?_;intro w hw
  refine lAlloc ?_;intro b4 w hw;repeat first|refine byW ?_|refine byV ?_;intro w hw
  refine lStore ?_;intro w hw;have hw:Wd Γ [.blk b4 (.cells (cG ⟨g,A,N,C⟩).toArray 47),.blk b1 (.cells #[.slice sa sn sc,.slice ga gn gc] 50)] w:=hw
  repeat first|refine byW ?_|refine byV ?_;intro w hw
  refine W_cond rfl (fun h=>?_) (fun h=>?_)
  ·have hk3:g.Kind=3:=of_decide_eq_true h
   clear h;have hn:numG g=(decide (1≤g.Op)&&decide (g.Op≤6)&&decide (g.Off≠-9223372036854775808)):=by unfold numG;rw[if_pos hk3]
   repeat first|refine byW ?_|refine byV ?_;intro w hw
   refine W_cond rfl (fun h=>?_) (fun h=>?_)
   ·have hf:numG g=false:=by
     rw[hn];simp only[Bool.or_eq_true,decide_eq_true_eq]at h
     simp only[Bool.and_eq_false_iff,decide_eq_false_iff_not]
     rcases h with (h|h)|h
     ·exact .inl (.inl (by omega))
     ·exact .inl (.inr (by omega))
     ·exact .inr (by simpa using h)
    repeat first|refine byW ?_|refine byV ?_;intro w hw
    refine⟨_,rfl,Γ,Gho.le.refl _,ret_i rfl ?_,hw.drop.drop⟩
    rw[hall,hf];rfl
   ·have hf:numG g=true:=by
     rw[hn];simp only[Bool.or_eq_false_iff,decide_eq_false_iff_not]at h
     simp only[Bool.and_eq_true,decide_eq_true_eq]
     exact⟨⟨by omega,by omega⟩,h.2⟩
    rw[hf,Bool.true_and]at hall;repeat first|refine byW ?_|refine byV ?_;intro w hw
    exact⟨μ-1,by omega,k+1,by omega,⟨rfl,rfl,rfl,rfl,trivial⟩,hall,hw.drop⟩
  have hk3:¬g.Kind=3:=of_decide_eq_false h
  clear h;repeat first|refine byW ?_|refine byV ?_;intro w hw
  refine W_cond rfl (fun h=>?_) (fun h=>?_)
  ·have hk4:g.Kind=4:=of_decide_eq_true h
   clear h;have hn:numG g=(decide (g.Low≤g.High)&&decide (g.High-g.Low≤1000000)):=by unfold numG;rw[if_neg hk3,if_pos hk4]
   have hsub:g.Low≤g.High→IntKind.u64.wrap (IntKind.u64.wrap g.High-IntKind.u64.wrap g.Low)=g.High-g.Low:=fun h=>u64_sub hgoal.high hgoal.low h
   repeat first|refine byW ?_|refine byV ?_;intro w hw
   refine W_cond rfl (fun h=>?_) (fun h=>?_)
   ·have hf:numG g=false:=by
     rw[hn];simp only[Bool.or_eq_true,decide_eq_true_eq]at h
     simp only[Bool.and_eq_false_iff,decide_eq_false_iff_not]
     by_cases hl:g.Low≤g.High
     ·refine .inr ?_
      rcases h with h|h
      ·have h:g.High<g.Low:=h
       omega
      ·have h:1000000<IntKind.u64.wrap (IntKind.u64.wrap g.High-IntKind.u64.wrap g.Low):=h
       rw[hsub hl]at h;omega
     ·exact .inl hl
    repeat first|refine byW ?_|refine byV ?_;intro w hw
    refine⟨_,rfl,Γ,Gho.le.refl _,ret_i rfl ?_,hw.drop.drop⟩
    rw[hall,hf];rfl
   ·have hf:numG g=true:=by
     rw[hn];simp only[Bool.or_eq_false_iff,decide_eq_false_iff_not]at h
     obtain⟨h1,h2⟩:=h;have h1:¬g.High<g.Low:=h1
     have hl:g.Low≤g.High:=by omega
     have h2:¬1000000<IntKind.u64.wrap (IntKind.u64.wrap g.High-IntKind.u64.wrap g.Low):=h2
     rw[hsub hl]at h2;simp only[Bool.and_eq_true,decide_eq_true_eq]
     exact⟨hl,by omega⟩
    rw[hf,Bool.true_and]at hall;repeat first|refine byW ?_|refine byV ?_;intro w hw
    exact⟨μ-1,by omega,k+1,by omega,⟨rfl,rfl,rfl,rfl,trivial⟩,hall,hw.drop⟩
  have hk4:¬g.Kind=4:=of_decide_eq_false h
  have hf:numG g=true:=by unfold numG;rw[if_neg hk3,if_neg hk4]
  rw[hf,Bool.true_and]at hall;repeat first|refine byW ?_|refine byV ?_;intro w hw
  exact⟨μ-1,by omega,k+1,by omega,⟨rfl,rfl,rfl,rfl,trivial⟩,hall,hw.drop⟩
 have hkn:gn≤k:=by have:=of_decide_eq_false h;omega
 rw[drop_none _ (by rw[hq.nlen];omega)]at hall
 repeat first|refine byW ?_|refine byV ?_;intro w hw
 refine⟨_,rfl,Γ,Gho.le.refl _,ret_i rfl ?_,hw.drop⟩
 rw[hall];rfl
def limG(g:Goal):Bool:=!isAtomB g||(decide (1≤g.Args.length)&&decide (g.Args.length≤8))
theorem pg_checkLimits{Γ:Gho}{vs vg:Value}{gs:List GoalH}{q:Query}(hq0:QR Γ vs vg gs q)(hok:QueryOk q):PG Tryz.prog Γ 69 [.agg #[vs,vg]] (.int .i64 (if okLim q=true then 0 else 15)):=pg_free fun Γ w hle hw=>by
 have hq:=hq0.mono hle
 obtain⟨ga,gn,gc,rfl,hgn,hgnc,hgc⟩:=hq.goals.shape;obtain⟨sa,sn,sc,rfl,hsn,hsnc,hsc⟩:=hq.sel.shape;simp only[List.length_map]at hgn hsn
 have hrG:=hq.goals
 have hrS:=hq.sel
 have hgl:=hq.glen hok
 have hsl:=hok.sel
 have hnl:=hq.nlen
 refine calls_of_W Tryz.func69 rfl rfl ?_
 repeat first|refine byW ?_|refine byV ?_;intro w hw
 refine lBox ?_;intro b1 w hw;have hw:Wd Γ [.blk b1 (.cells #[.slice sa sn sc,.slice ga gn gc] 50)] w:=hw
 repeat first|refine byW ?_|refine byV ?_;intro w hw
 refine W_cond rfl (fun h=>?_) (fun h=>?_)
 ·have hf:okLim q=false:=by
   simp only[Bool.or_eq_true,decide_eq_true_eq]at h
   unfold okLim;rcases h with (h|h)|h
   ·rw[decide_eq_false (by omega)];rfl
   ·rw[decide_eq_false (p:=q.Goals.length≤16) (by omega),Bool.and_false];rfl
   ·rw[decide_eq_false (p:=q.Sel.length≤8) (by omega),Bool.and_false];rfl
  repeat first|refine byW ?_|refine byV ?_;intro w hw
  refine⟨_,rfl,Γ,Gho.le.refl _,ret_i rfl ?_,hw.drop⟩
  rw[hf];rfl
 have hb:1≤gn∧gn≤16∧sn≤8:=by
  simp only[Bool.or_eq_false_iff,decide_eq_false_iff_not]at h
  obtain⟨⟨h1,h2⟩,h3⟩:=h;omega
 clear h;have hokl:okLim q=((q.Goals.all limG)&&decide ((namedQ q).length≤8)):=by
  unfold okLim;rw[decide_eq_true (by omega:1≤q.Goals.length),decide_eq_true (by omega:q.Goals.length≤16),decide_eq_true (by omega:q.Sel.length≤8)];rfl
 repeat first|refine byW ?_|refine byV ?_;intro w hw
 refine L_step rfl rfl (s_makeMap (K:=9) (α:=ByteArray) (f:=Value.bool) hw fun bm w hw=>?_)
 have hw:Wd Γ [nmR bm [],.blk b1 (.cells #[.slice sa sn sc,.slice ga gn gc] 50)] w:=hw
 repeat first|refine byW ?_|refine byV ?_;intro w hw
 refine W_loop (fun μ ρ w=>∃(k:Nat),μ+k=sn∧Has ρ [(1,.pointer (some ⟨b1,0,none⟩)),(3,.map (some bm)),(28,.slice sa sn sc),(29,.int .i64 sn),(30,.int .i64 k)]∧Wd Γ [nmR bm ((q.Sel.take k).foldl addN []),.blk b1 (.cells #[.slice sa sn sc,.slice ga gn gc] 50)] w) sn ⟨0,by omega,⟨rfl,rfl,rfl,rfl,rfl,trivial⟩,hw⟩ ?_
 clear hw;rintro μ ρ w ⟨k,hk,hρ,hw⟩
 rw[hρ.eq];clear hρ;repeat first|refine byW ?_|refine byV ?_;intro w hw
 refine W_cond rfl (fun h=>?_) (fun h=>?_)
 ·have hkn:k<sn:=by have:=of_decide_eq_true h;omega
  clear h;obtain⟨s,hs⟩:=get_lt (l:=q.Sel) (k:=k) (by omega)
  repeat first|refine byW ?_|refine byV ?_;intro w hw
  refine L_step rfl rfl (s_mapUpdS (f:=Value.bool) (v:=true) (i:=0) (l:=((q.Sel.take k).foldl addN []).map fun s=>(s,true)) hw rfl rfl rfl rfl fun w hw=>?_)
  rw[nm_set]at hw;have hw:Wd Γ [nmR bm ((q.Sel.take (k+1)).foldl addN []),.blk b1 (.cells #[.slice sa sn sc,.slice ga gn gc] 50)] w:=by
   rw[List.take_add_one,hs,List.foldl_append];exact hw
  repeat first|refine byW ?_|refine byV ?_;intro w hw
  exact⟨μ-1,by omega,k+1,by omega,⟨rfl,rfl,rfl,rfl,rfl,trivial⟩,hw⟩
 have hkn:sn≤k:=by have:=of_decide_eq_false h;omega
 clear h;rw[List.take_of_length_le (by omega)]at hw
 have hw:Wd Γ [nmR bm ((q.Sel++(q.Goals.take 0).flatMap fun g=>(opsG g).map (·.Var)).foldl addN []),.blk b1 (.cells #[.slice sa sn sc,.slice ga gn gc] 50)] w:=by
  rw[List.take_zero,List.flatMap_nil,List.append_nil];exact hw
 clear hk hkn;repeat first|refine byW ?_|refine byV ?_;intro w hw
 refine W_loop (fun μ ρ w=>∃(Γ':Gho) (k:Nat),Γ.le Γ'∧μ+k=gn∧Has ρ [(1,.pointer (some ⟨b1,0,none⟩)),(3,.map (some bm)),(38,.slice ga gn gc),(39,.int .i64 gn),(40,.int .i64 k)]∧q.Goals.all limG=(q.Goals.drop k).all limG∧Wd Γ' [nmR bm ((q.Sel++(q.Goals.take k).flatMap fun g=>(opsG g).map (·.Var)).foldl addN []),.blk b1 (.cells #[.slice sa sn sc,.slice ga gn gc] 50)] w) gn ⟨Γ,0,Gho.le.refl _,by omega,⟨rfl,rfl,rfl,rfl,rfl,trivial⟩,rfl,hw⟩ ?_
 clear hw;rintro μ ρ w ⟨Γ1,k,hle1,hk,hρ,hall,hw⟩
 rw[hρ.eq];clear hρ;have hq1:=hq.mono hle1
 have hrG1:=hq1.goals
 repeat first|refine byW ?_|refine byV ?_;intro w hw
 refine W_cond rfl (fun h=>?_) (fun h=>?_)
 ·have hkn:k<gn:=by have:=of_decide_eq_true h;omega
  clear h;obtain⟨x,hx⟩:=get_lt (l:=gs) (k:=k) (by omega)
  have hxm:=List.mem_of_getElem? hx
  have hgoal:=hq.goal hok hxm
  have hgok:=hq1.ok x hxm
  have hgx:=hq.get hx
  rw[all_drop hgx]at hall;obtain⟨l1,l2,l3⟩:=hgok.len;obtain⟨g,A,N,C⟩:=x;simp only at hall hgoal l1 l2 l3 hgx
  have hal:=hgoal.len
  repeat first|refine byW ?_|refine byV ?_;intro w hw
  refine lAlloc ?_;intro b7 w hw;repeat first|refine byW ?_|refine byV ?_;intro w hw
  refine lStore ?_;intro w hw;have hw:Wd Γ1 [.blk b7 (.cells (cG ⟨g,A,N,C⟩).toArray 47),nmR bm ((q.Sel++(q.Goals.take k).flatMap fun g=>(opsG g).map (·.Var)).foldl addN []),.blk b1 (.cells #[.slice sa sn sc,.slice ga gn gc] 50)] w:=hw
  repeat first|refine byW ?_|refine byV ?_;intro w hw
  refine W_cond rfl (fun h=>?_) (fun h=>?_)
  ·have hf:limG g=false:=by
    have h:(isAtomB g&&(decide ((N:Int)<1)||decide (8<(N:Int))))=true:=h
    rw[Bool.and_eq_true,Bool.or_eq_true,decide_eq_true_eq,decide_eq_true_eq]at h;show (!isAtomB g||_)=false
    rw[h.1];simp only[Bool.not_true,Bool.false_or,Bool.and_eq_false_iff,decide_eq_false_iff_not]
    rcases h.2 with h2|h2
    ·exact .inl (by omega)
    ·exact .inr (by omega)
   repeat first|refine byW ?_|refine byV ?_;intro w hw
   refine⟨_,rfl,Γ1,hle1,ret_i rfl ?_,wd_nil hw⟩
   rw[hokl,hall,hf];rfl
  have hf:limG g=true:=by
   have h:(isAtomB g&&(decide ((N:Int)<1)||decide (8<(N:Int))))=false:=h
   show (!isAtomB g||_)=true
   cases hi:isAtomB g with
   | false=>rfl
   | true=>
    rw[hi,Bool.true_and,Bool.or_eq_false_iff,decide_eq_false_iff_not,decide_eq_false_iff_not]at h;rw[decide_eq_true (by omega),decide_eq_true (by omega)];rfl
  clear h;rw[hf,Bool.true_and]at hall;repeat first|refine byW ?_|refine byV ?_;intro w hw
  refine lCall (vs:=[.agg (cG ⟨g,A,N,C⟩).toArray]) ((operands_any hgok hw).mono fun e w hq2=>?_)
  clear hw;obtain⟨Γ2,v,hle2,rfl,hrv,hw⟩:=hq2;obtain⟨oa,on,oc,rfl,hon,honc,hoc⟩:=hrv.shape;simp only[List.length_map]at hon
  have hol:=opsG_len hgoal
  refine⟨_,rfl,?_⟩;repeat first|refine byW ?_|refine byV ?_;intro w hw
  refine W_loop (fun μ ρ w=>∃(j:Nat),μ+j=on∧Has ρ [(1,.pointer (some ⟨b1,0,none⟩)),(3,.map (some bm)),(38,.slice ga gn gc),(39,.int .i64 gn),(40,.int .i64 k),(59,.slice oa on oc),(60,.int .i64 on),(61,.int .i64 j)]∧Wd Γ2 [.blk b7 (.cells (cG ⟨g,A,N,C⟩).toArray 47),nmR bm (((q.Sel++(q.Goals.take k).flatMap fun g=>(opsG g).map (·.Var))++((opsG g).take j).map (·.Var)).foldl addN []),.blk b1 (.cells #[.slice sa sn sc,.slice ga gn gc] 50)] w) on ⟨0,by omega,⟨rfl,rfl,rfl,rfl,rfl,rfl,rfl,rfl,trivial⟩,by rw[List.take_zero,List.map_nil,List.append_nil];exact hw⟩ ?_
  clear hw;rintro μ2 ρ w ⟨j,hj,hρ,hw⟩
  rw[hρ.eq];clear hρ;repeat first|refine byW ?_|refine byV ?_;intro w hw
  refine W_cond rfl (fun h=>?_) (fun h=>?_)
  ·have hjn:j<on:=by have:=of_decide_eq_true h;omega
   clear h;obtain⟨o,ho⟩:=get_lt (l:=opsG g) (k:=j) (by omega)
   repeat first|refine byW ?_|refine byV ?_;intro w hw
   refine lAlloc ?_;intro b9 w hw;refine lStore ?_;intro w hw;have hw:Wd Γ2 [.blk b9 (.cells (enc o).toArray 43),.blk b7 (.cells (cG ⟨g,A,N,C⟩).toArray 47),nmR bm (((q.Sel++(q.Goals.take k).flatMap fun g=>(opsG g).map (·.Var))++((opsG g).take j).map (·.Var)).foldl addN []),.blk b1 (.cells #[.slice sa sn sc,.slice ga gn gc] 50)] w:=hw
   repeat first|refine byW ?_|refine byV ?_;intro w hw
   refine L_step rfl rfl (s_mapUpdS (f:=Value.bool) (v:=true) (i:=2) (l:=(((q.Sel++(q.Goals.take k).flatMap fun g=>(opsG g).map (·.Var))++((opsG g).take j).map (·.Var)).foldl addN []).map fun s=>(s,true)) hw rfl rfl rfl rfl fun w hw=>?_)
   rw[nm_set]at hw;have hw:Wd Γ2 [.blk b9 (.cells (enc o).toArray 43),.blk b7 (.cells (cG ⟨g,A,N,C⟩).toArray 47),nmR bm (((q.Sel++(q.Goals.take k).flatMap fun g=>(opsG g).map (·.Var))++((opsG g).take (j+1)).map (·.Var)).foldl addN []),.blk b1 (.cells #[.slice sa sn sc,.slice ga gn gc] 50)] w:=by
    rw[List.take_add_one,ho,List.map_append,←List.append_assoc,List.foldl_append (l:=((q.Sel++(q.Goals.take k).flatMap fun g=>(opsG g).map (·.Var))++((opsG g).take j).map (·.Var)))];exact hw
   repeat first|refine byW ?_|refine byV ?_;intro w hw
   exact⟨on-j-1,by omega,j+1,by omega,⟨rfl,rfl,rfl,rfl,rfl,rfl,rfl,rfl,trivial⟩,hw.drop⟩
  have hjn:on≤j:=by have:=of_decide_eq_false h;omega
  clear h;have ho2:(opsG g).take j=opsG g:=List.take_of_length_le (by omega)
  rw[ho2]at hw;have hw:Wd Γ2 [.blk b7 (.cells (cG ⟨g,A,N,C⟩).toArray 47),nmR bm ((q.Sel++(q.Goals.take (k+1)).flatMap fun g=>(opsG g).map (·.Var)).foldl addN []),.blk b1 (.cells #[.slice sa sn sc,.slice ga gn gc] 50)] w:=by
   rw[fm_succ (F:=fun g=>(opsG g).map (·.Var)) hgx,←List.append_assoc];exact hw
  repeat first|refine byW ?_|refine byV ?_;intro w hw
  exact⟨gn-k-1,by omega,Γ2,k+1,hle1.trans hle2,by omega,⟨rfl,rfl,rfl,rfl,rfl,trivial⟩,hall,hw.drop⟩
 have hkn:gn≤k:=by have:=of_decide_eq_false h;omega
 clear h;rw[drop_none _ (by rw[hnl];omega)]at hall
 rw[List.take_of_length_le (by omega)]at hw
 have hw:Wd Γ1 [nmR bm ((allN q).foldl addN []),.blk b1 (.cells #[.slice sa sn sc,.slice ga gn gc] 50)] w:=hw
 have hnd:((allN q).foldl addN []).Nodup:=addL_nodup List.nodup_nil
 repeat first|refine byW ?_|refine byV ?_;intro w hw
 refine L_step rfl rfl (s_delS (f:=Value.bool) (i:=0) (l:=((allN q).foldl addN []).map fun s=>(s,true)) (a:=noS) hw rfl rfl rfl fun w hw=>?_)
 rw[nm_del hnd]at hw;have hw:Wd Γ1 [nmR bm (((allN q).foldl addN []).filter fun t=>decide (t≠noS)),.blk b1 (.cells #[.slice sa sn sc,.slice ga gn gc] 50)] w:=hw
 repeat first|refine byW ?_|refine byV ?_;intro w hw
 refine L_step rfl rfl (s_delS (f:=Value.bool) (i:=0) (l:=(((allN q).foldl addN []).filter fun t=>decide (t≠noS)).map fun s=>(s,true)) (a:=anyS) hw rfl rfl rfl fun w hw=>?_)
 rw[nm_del (hnd.filter _),named_len]at hw;have hw:Wd Γ1 [nmR bm (namedQ q),.blk b1 (.cells #[.slice sa sn sc,.slice ga gn gc] 50)] w:=hw
 repeat first|refine byW ?_|refine byV ?_;intro w hw
 refine W_cond rfl (fun h=>?_) (fun h=>?_)
 ·have h:=of_decide_eq_true h
  rw[List.length_map]at h;repeat first|refine byW ?_|refine byV ?_;intro w hw
  refine⟨_,rfl,Γ1,hle1,ret_i rfl ?_,wd_nil hw⟩
  rw[hokl,decide_eq_false (by omega),Bool.and_false];rfl
 ·have h:=of_decide_eq_false h
  rw[List.length_map]at h;repeat first|refine byW ?_|refine byV ?_;intro w hw
  refine⟨_,rfl,Γ1,hle1,ret_i rfl ?_,wd_nil hw⟩
  rw[hokl,hall,decide_eq_true (by omega)];rfl
end Go.Proofs.YtfoggcgogafocaaGreat
end
section
open Go Mk
namespace Go.Proofs.YtfoggcgogafocaaGreat
set_option maxHeartbeats 16000000
attribute [local irreducible] Calls cI cB
def shG(g:Goal):Bool:=shapeG g&&(opsG g).all plainO
theorem pg_checkShape{Γ:Gho}{vs vg:Value}{gs:List GoalH}{q:Query}(hq0:QR Γ vs vg gs q)(hok:QueryOk q):PG Tryz.prog Γ 70 [.agg #[vs,vg]] (.int .i64 (if okShape q=true then 0 else 50)):=pg_free fun Γ w hle hw=>by
 have hq:=hq0.mono hle
 obtain⟨ga,gn,gc,rfl,hgn,hgnc,hgc⟩:=hq.goals.shape;obtain⟨sa,sn,sc,rfl,hsn,hsnc,hsc⟩:=hq.sel.shape;simp only[List.length_map]at hgn hsn
 have hgl:=hq.glen hok
 have hnl:=hq.nlen
 have hall0:okShape q=q.Goals.all shG:=rfl
 refine calls_of_W Tryz.func70 rfl rfl ?_
 repeat first|refine byW ?_|refine byV ?_;intro w hw
 refine lBox ?_;intro b1 w hw;have hw:Wd Γ [.blk b1 (.cells #[.slice sa sn sc,.slice ga gn gc] 50)] w:=hw
 repeat first|refine byW ?_|refine byV ?_;intro w hw
 refine lAlloc ?_;intro b3 w hw;refine lStore ?_;intro w hw;have hw:Wd Γ [.blk b3 (.cells (enc zOpd).toArray 43),.blk b1 (.cells #[.slice sa sn sc,.slice ga gn gc] 50)] w:=hw
 repeat first|refine byW ?_|refine byV ?_;intro w hw
 refine W_loop (fun μ ρ w=>∃(Γ':Gho) (k:Nat),Γ.le Γ'∧μ+k=gn∧Has ρ [(1,.pointer (some ⟨b1,0,none⟩)),(3,.pointer (some ⟨b3,0,none⟩)),(11,.slice ga gn gc),(12,.int .i64 gn),(13,.int .i64 k)]∧okShape q=(q.Goals.drop k).all shG∧Wd Γ' [.blk b3 (.cells (enc zOpd).toArray 43),.blk b1 (.cells #[.slice sa sn sc,.slice ga gn gc] 50)] w) gn ⟨Γ,0,Gho.le.refl _,by omega,⟨rfl,rfl,rfl,rfl,rfl,trivial⟩,hall0,hw⟩ ?_
 clear hw;rintro μ ρ w ⟨Γ1,k,hle1,hk,hρ,hall,hw⟩
 rw[hρ.eq];clear hρ;have hq1:=hq.mono hle1
 have hrG1:=hq1.goals
 repeat first|refine byW ?_|refine byV ?_;intro w hw
 refine W_cond rfl (fun h=>?_) (fun h=>?_)
 ·have hkn:k<gn:=by have:=of_decide_eq_true h;omega
  clear h;obtain⟨x,hx⟩:=get_lt (l:=gs) (k:=k) (by omega)
  have hxm:=List.mem_of_getElem? hx
  have hgoal:=hq.goal hok hxm
  have hgok:=hq1.ok x hxm
  have hgx:=hq.get hx
  rw[all_drop hgx]at hall;obtain⟨l1,l2,l3⟩:=hgok.len;obtain⟨g,A,N,C⟩:=x;simp only at hall hgoal l1 l2 l3 hgx
  have hal:=hgoal.len
  repeat first|refine byW ?_|refine byV ?_;intro w hw
  refine lAlloc ?_;intro b5 w hw;repeat first|refine byW ?_|refine byV ?_;intro w hw
  refine lStore ?_;intro w hw;have hw:Wd Γ1 [.blk b5 (.cells (cG ⟨g,A,N,C⟩).toArray 47),.blk b3 (.cells (enc zOpd).toArray 43),.blk b1 (.cells #[.slice sa sn sc,.slice ga gn gc] 50)] w:=hw
  first|refine byW ?_|(refine byV ?_;intro w hw)
  first|refine byW ?_|(refine byV ?_;intro w hw)
  first|refine byW ?_|(refine byV ?_;intro w hw)
  first|refine byW ?_|(refine byV ?_;intro w hw)
  first|refine byW ?_|(refine byV ?_;intro w hw)
  refine W_cut (fun ρ w=>Has ρ [(1,.pointer (some ⟨b1,0,none⟩)),(3,.pointer (some ⟨b3,0,none⟩)),(5,.pointer (some ⟨b5,0,none⟩)),(6,.bool (shapeG g)),(11,.slice ga gn gc),(12,.int .i64 gn),(13,.int .i64 k)]∧Wd Γ1 [.blk b5 (.cells (cG ⟨g,A,N,C⟩).toArray 47),.blk b3 (.cells (enc zOpd).toArray 43),.blk b1 (.cells #[.slice sa sn sc,.slice ga gn gc] 50)] w) ?_ ?_
  ·have k12:∀h12:g.Kind=1∨g.Kind=2,shapeG g=(decide (g.Op=0)&&decide (g.L=zOpd)&&decide (g.R=zOpd)&&decide (g.Off=0)&&decide (g.Low=0)&&decide (g.High=0)):=fun h12=>by unfold shapeG;rw[if_pos h12]
   repeat first|refine byW ?_|refine byV ?_;intro w hw
   refine W_cond rfl (fun h=>?_) (fun h=>?_)
   ·have hk1:g.Kind=1:=of_decide_eq_true h
    repeat first|refine byW ?_|refine byV ?_;intro w hw
    refine W_cond_true (congrArg Value.bool h) ?_
    repeat first|refine byW ?_|refine byV ?_;intro w hw
    refine lG ?_ (hv:=fun hc=>by exact y_eqT (a:=g.L) (b:=zOpd) byOP byOP rfl)
    repeat first|refine byW ?_|refine byV ?_;intro w hw
    refine lG ?_ (hv:=fun hc=>by exact y_eqT (a:=g.R) (b:=zOpd) byOP byOP rfl)
    repeat first|refine byW ?_|refine byV ?_;intro w hw
    refine⟨⟨rfl,rfl,rfl,?_,rfl,rfl,rfl,trivial⟩,hw⟩
    rw[k12 (.inl hk1)];rfl
   have hk1:¬g.Kind=1:=of_decide_eq_false h
   clear h;repeat first|refine byW ?_|refine byV ?_;intro w hw
   refine W_cond rfl (fun h=>?_) (fun h=>?_)
   ·have hk2:g.Kind=2:=of_decide_eq_true h
    repeat first|refine byW ?_|refine byV ?_;intro w hw
    refine lG ?_ (hv:=fun hc=>by exact y_eqT (a:=g.L) (b:=zOpd) byOP byOP rfl)
    repeat first|refine byW ?_|refine byV ?_;intro w hw
    refine lG ?_ (hv:=fun hc=>by exact y_eqT (a:=g.R) (b:=zOpd) byOP byOP rfl)
    repeat first|refine byW ?_|refine byV ?_;intro w hw
    refine⟨⟨rfl,rfl,rfl,?_,rfl,rfl,rfl,trivial⟩,hw⟩
    rw[k12 (.inr hk2)];rfl
   have hk2:¬g.Kind=2:=of_decide_eq_false h
   clear h;repeat first|refine byW ?_|refine byV ?_;intro w hw
   refine W_cond rfl (fun h=>?_) (fun h=>?_)
   ·have hk3:g.Kind=3:=of_decide_eq_true h
    repeat first|refine byW ?_|refine byV ?_;intro w hw
    refine⟨⟨rfl,rfl,rfl,?_,rfl,rfl,rfl,trivial⟩,hw⟩
    unfold shapeG;rw[if_neg (fun e=>e.elim hk1 hk2),if_pos hk3];have e:decide ((N:Int)=0)=decide (g.Args.length=0):=decide_eq_decide.2 (by omega)
    show Value.bool (decide (g.Rel=noS)&&decide ((N:Int)=0)&&decide (g.Low=0)&&decide (g.High=0))=_
    rw[e]
   have hk3:¬g.Kind=3:=of_decide_eq_false h
   clear h;repeat first|refine byW ?_|refine byV ?_;intro w hw
   refine W_cond rfl (fun h=>?_) (fun h=>?_)
   ·have hk4:g.Kind=4:=of_decide_eq_true h
    repeat first|refine byW ?_|refine byV ?_;intro w hw
    refine lG ?_ (hv:=fun hc=>by exact y_eqT (a:=g.R) (b:=zOpd) byOP byOP rfl)
    repeat first|refine byW ?_|refine byV ?_;intro w hw
    refine⟨⟨rfl,rfl,rfl,?_,rfl,rfl,rfl,trivial⟩,hw⟩
    unfold shapeG;rw[if_neg (fun e=>e.elim hk1 hk2),if_neg hk3,if_pos hk4];have e:decide ((N:Int)=0)=decide (g.Args.length=0):=decide_eq_decide.2 (by omega)
    show Value.bool (decide (g.Rel=noS)&&decide ((N:Int)=0)&&decide (g.Op=0)&&decide (g.R=zOpd)&&decide (g.Off=0)&&decide (g.L.Var≠noS))=_
    rw[e]
   have hk4:¬g.Kind=4:=of_decide_eq_false h
   repeat first|refine byW ?_|refine byV ?_;intro w hw
   refine⟨⟨rfl,rfl,rfl,?_,rfl,rfl,rfl,trivial⟩,hw⟩
   unfold shapeG;rw[if_neg (fun e=>e.elim hk1 hk2),if_neg hk3,if_neg hk4];rfl
  clear hw;rintro ρ w ⟨hρ,hw⟩
  rw[hρ.eq];clear hρ;repeat first|refine byW ?_|refine byV ?_;intro w hw
  refine lCall (vs:=[.agg (cG ⟨g,A,N,C⟩).toArray]) ((operands_any hgok hw).mono fun e w hq2=>?_)
  clear hw;obtain⟨Γ2,v,hle2,rfl,hrv,hw⟩:=hq2;obtain⟨oa,on,oc,rfl,hon,honc,hoc⟩:=hrv.shape;simp only[List.length_map]at hon
  have hol:=opsG_len hgoal
  refine⟨_,rfl,?_⟩;repeat first|refine byW ?_|refine byV ?_;intro w hw
  refine W_loop (fun μ ρ w=>∃(j:Nat) (t:Bool),μ+j=on∧Has ρ [(1,.pointer (some ⟨b1,0,none⟩)),(3,.pointer (some ⟨b3,0,none⟩)),(6,.bool t),(11,.slice ga gn gc),(12,.int .i64 gn),(13,.int .i64 k),(107,.slice oa on oc),(108,.int .i64 on),(109,.int .i64 j)]∧shG g=(t&&((opsG g).drop j).all plainO)∧Wd Γ2 [.blk b5 (.cells (cG ⟨g,A,N,C⟩).toArray 47),.blk b3 (.cells (enc zOpd).toArray 43),.blk b1 (.cells #[.slice sa sn sc,.slice ga gn gc] 50)] w) on ⟨0,shapeG g,by omega,⟨rfl,rfl,rfl,rfl,rfl,rfl,rfl,rfl,rfl,trivial⟩,rfl,hw⟩ ?_
  clear hw;rintro μ2 ρ w ⟨j,t,hj,hρ,hsh,hw⟩
  rw[hρ.eq];clear hρ;repeat first|refine byW ?_|refine byV ?_;intro w hw
  refine W_cond rfl (fun h=>?_) (fun h=>?_)
  ·have hjn:j<on:=by have:=of_decide_eq_true h;omega
   clear h;obtain⟨o,ho⟩:=get_lt (l:=opsG g) (k:=j) (by omega)
   rw[all_drop ho,←Bool.and_assoc]at hsh;repeat first|refine byW ?_|refine byV ?_;intro w hw
   refine lAlloc ?_;intro b9 w hw;refine lStore ?_;intro w hw;have hw:Wd Γ2 (.blk b9 (.cells (enc o).toArray 43)::[.blk b5 (.cells (cG ⟨g,A,N,C⟩).toArray 47),.blk b3 (.cells (enc zOpd).toArray 43),.blk b1 (.cells #[.slice sa sn sc,.slice ga gn gc] 50)]) w:=hw
   repeat first|refine byW ?_|refine byV ?_;intro w hw
   refine lG ?_ (hv:=fun hc=>by exact y_eqT (a:=o.Const) (b:=zVal) byOP byOP rfl)
   repeat first|refine byW ?_|refine byV ?_;intro w hw
   exact⟨on-j-1,by omega,j+1,(t&&plainO o),by omega,⟨rfl,rfl,rfl,rfl,rfl,rfl,rfl,rfl,rfl,trivial⟩,hsh,hw.drop⟩
  have hjn:on≤j:=by have:=of_decide_eq_false h;omega
  clear h;rw[drop_none (opsG g) (by omega),List.all_nil,Bool.and_true]at hsh
  subst hsh;repeat first|refine byW ?_|refine byV ?_;intro w hw
  refine W_cond rfl (fun h=>?_) (fun h=>?_)
  ·have hf:shG g=false:=by simpa using h
   repeat first|refine byW ?_|refine byV ?_;intro w hw
   refine⟨_,rfl,Γ2,hle1.trans hle2,ret_i rfl ?_,wd_nil hw⟩
   rw[hall,hf];rfl
  ·have hf:shG g=true:=by simpa using h
   rw[hf,Bool.true_and]at hall;repeat first|refine byW ?_|refine byV ?_;intro w hw
   exact⟨gn-k-1,by omega,Γ2,k+1,hle1.trans hle2,by omega,⟨rfl,rfl,rfl,rfl,rfl,trivial⟩,hall,hw.drop⟩
 have hkn:gn≤k:=by have:=of_decide_eq_false h;omega
 rw[drop_none _ (by rw[hnl];omega)]at hall
 repeat first|refine byW ?_|refine byV ?_;intro w hw
 refine⟨_,rfl,Γ1,hle1,ret_i rfl ?_,wd_nil hw⟩
 rw[hall];rfl
end Go.Proofs.YtfoggcgogafocaaGreat
end
section
open Go Mk
namespace Go.Proofs.YtfoggcgogafocaaGreat
set_option maxHeartbeats 16000000
attribute [local irreducible] Calls cI cB
theorem pg_checkNames{Γ:Gho}{vs vg:Value}{gs:List GoalH}{q:Query}(hq0:QR Γ vs vg gs q)(hok:QueryOk q):PG Tryz.prog Γ 71 [.agg #[vs,vg]] (.int .i64 (if okNames q=true then 0 else 63)):=pg_free fun Γ w hle hw=>by
 have hq:=hq0.mono hle
 obtain⟨ga,gn,gc,rfl,hgn,hgnc,hgc⟩:=hq.goals.shape;obtain⟨sa,sn,sc,rfl,hsn,hsnc,hsc⟩:=hq.sel.shape;simp only[List.length_map]at hgn hsn
 have hgl:=hq.glen hok
 have hsl:=hok.sel
 have hnl:=hq.nlen
 have hrS:=hq.sel
 refine calls_of_W Tryz.func71 rfl rfl ?_
 repeat first|refine byW ?_|refine byV ?_;intro w hw
 refine lBox ?_;intro b1 w hw;have hw:Wd Γ [.blk b1 (.cells #[.slice sa sn sc,.slice ga gn gc] 50)] w:=hw
 repeat first|refine byW ?_|refine byV ?_;intro w hw
 refine W_loop (fun μ ρ w=>∃(k:Nat),μ+k=sn∧Has ρ [(1,.pointer (some ⟨b1,0,none⟩)),(10,.slice sa sn sc),(11,.int .i64 sn),(12,.int .i64 k)]∧q.Sel.all varS=(q.Sel.drop k).all varS∧Wd Γ [.blk b1 (.cells #[.slice sa sn sc,.slice ga gn gc] 50)] w) sn ⟨0,by omega,⟨rfl,rfl,rfl,rfl,trivial⟩,rfl,hw⟩ ?_
 clear hw;rintro μ ρ w ⟨k,hk,hρ,hall,hw⟩
 rw[hρ.eq];clear hρ;repeat first|refine byW ?_|refine byV ?_;intro w hw
 refine W_cond rfl (fun h=>?_) (fun h=>?_)
 ·have hkn:k<sn:=by have:=of_decide_eq_true h;omega
  clear h;obtain⟨s,hs⟩:=get_lt (l:=q.Sel) (k:=k) (by omega)
  rw[all_drop hs]at hall;have p1:=pc_isVariable (hok.names s (List.mem_of_getElem? hs))
  repeat first|refine byW ?_|refine byV ?_;intro w hw
  refine W_cond rfl (fun h=>?_) (fun h=>?_)
  ·have hf:varS s=false:=by simpa using h
   repeat first|refine byW ?_|refine byV ?_;intro w hw
   refine⟨_,rfl,Γ,Gho.le.refl _,ret_i rfl ?_,wd_nil hw⟩
   unfold okNames;rw[hall,hf];rfl
  ·have hf:varS s=true:=by simpa using h
   rw[hf,Bool.true_and]at hall;repeat first|refine byW ?_|refine byV ?_;intro w hw
   exact⟨μ-1,by omega,k+1,by omega,⟨rfl,rfl,rfl,rfl,trivial⟩,hall,hw⟩
 have hkn:sn≤k:=by have:=of_decide_eq_false h;omega
 clear h;rw[drop_none q.Sel (by omega)]at hall
 have hall0:okNames q=q.Goals.all nameG:=by unfold okNames;rw[hall];rfl
 clear hall hkn hk;repeat first|refine byW ?_|refine byV ?_;intro w hw
 refine W_loop (fun μ ρ w=>∃(Γ':Gho) (k:Nat),Γ.le Γ'∧μ+k=gn∧Has ρ [(1,.pointer (some ⟨b1,0,none⟩)),(21,.slice ga gn gc),(22,.int .i64 gn),(23,.int .i64 k)]∧okNames q=(q.Goals.drop k).all nameG∧Wd Γ' [.blk b1 (.cells #[.slice sa sn sc,.slice ga gn gc] 50)] w) gn ⟨Γ,0,Gho.le.refl _,by omega,⟨rfl,rfl,rfl,rfl,trivial⟩,hall0,hw⟩ ?_
 clear hw;rintro μ ρ w ⟨Γ1,k,hle1,hk,hρ,hall,hw⟩
 rw[hρ.eq];clear hρ;have hq1:=hq.mono hle1
 have hrG1:=hq1.goals
 repeat first|refine byW ?_|refine byV ?_;intro w hw
 refine W_cond rfl (fun h=>?_) (fun h=>?_)
 ·have hkn:k<gn:=by have:=of_decide_eq_true h;omega
  clear h;obtain⟨x,hx⟩:=get_lt (l:=gs) (k:=k) (by omega)
  have hxm:=List.mem_of_getElem? hx
  have hgoal:=hq.goal hok hxm
  have hgok:=hq1.ok x hxm
  have hgx:=hq.get hx
  rw[all_drop hgx]at hall;obtain⟨l1,l2,l3⟩:=hgok.len;obtain⟨g,A,N,C⟩:=x;simp only at hall hgoal l1 l2 l3 hgx
  have hal:=hgoal.len
  haveI:=sb_of hgoal.rel
  repeat first|refine byW ?_|refine byV ?_;intro w hw
  refine lAlloc ?_;intro b6 w hw;repeat first|refine byW ?_|refine byV ?_;intro w hw
  refine lStore ?_;intro w hw;have hw:Wd Γ1 [.blk b6 (.cells (cG ⟨g,A,N,C⟩).toArray 47),.blk b1 (.cells #[.slice sa sn sc,.slice ga gn gc] 50)] w:=hw
  repeat first|refine byW ?_|refine byV ?_;intro w hw
  refine W_cond rfl (fun h=>?_) (fun h=>?_)
  ·have hf:nameG g=false:=by
    have h:(isAtomB g&&(!nameS g.Rel||kwS g.Rel))=true:=h
    unfold nameG;rw[h];rfl
   repeat first|refine byW ?_|refine byV ?_;intro w hw
   refine⟨_,rfl,Γ1,hle1,ret_i rfl ?_,wd_nil hw⟩
   rw[hall,hf];rfl
  have hnG:nameG g=(opsG g).all (nameO g):=by
   have h:(isAtomB g&&(!nameS g.Rel||kwS g.Rel))=false:=h
   unfold nameG;rw[h];rfl
  clear h;repeat first|refine byW ?_|refine byV ?_;intro w hw
  refine lCall (vs:=[.agg (cG ⟨g,A,N,C⟩).toArray]) ((operands_any hgok hw).mono fun e w hq2=>?_)
  clear hw;obtain⟨Γ2,v,hle2,rfl,hrv,hw⟩:=hq2;obtain⟨oa,on,oc,rfl,hon,honc,hoc⟩:=hrv.shape;simp only[List.length_map]at hon
  have hol:=opsG_len hgoal
  refine⟨_,rfl,?_⟩;repeat first|refine byW ?_|refine byV ?_;intro w hw
  refine W_loop (fun μ ρ w=>∃(j:Nat),μ+j=on∧Has ρ [(1,.pointer (some ⟨b1,0,none⟩)),(6,.pointer (some ⟨b6,0,none⟩)),(21,.slice ga gn gc),(22,.int .i64 gn),(23,.int .i64 k),(41,.slice oa on oc),(42,.int .i64 on),(43,.int .i64 j)]∧nameG g=((opsG g).drop j).all (nameO g)∧Wd Γ2 [.blk b6 (.cells (cG ⟨g,A,N,C⟩).toArray 47),.blk b1 (.cells #[.slice sa sn sc,.slice ga gn gc] 50)] w) on ⟨0,by omega,⟨rfl,rfl,rfl,rfl,rfl,rfl,rfl,rfl,trivial⟩,hnG,hw⟩ ?_
  clear hw;rintro μ2 ρ w ⟨j,hj,hρ,hsh,hw⟩
  rw[hρ.eq];clear hρ;repeat first|refine byW ?_|refine byV ?_;intro w hw
  refine W_cond rfl (fun h=>?_) (fun h=>?_)
  ·have hjn:j<on:=by have:=of_decide_eq_true h;omega
   clear h;obtain⟨o,ho⟩:=get_lt (l:=opsG g) (k:=j) (by omega)
   obtain⟨hov,hoc2⟩:=opsG_ok hgoal o (List.mem_of_getElem? ho)
   have p1:=pc_isVariable hov
   have p2:=pg_wellFormed (Γ:=Γ2) hoc2
   rw[all_drop ho]at hsh;have hno:nameO g o=(!(decide (o.Var=noS) && !rightV o.Const) && !(decide (o.Var=anyS) && !isAtomB g) && !(decide (o.Var≠noS)&&decide (o.Var≠anyS) && !varS o.Var)):=rfl
   repeat first|refine byW ?_|refine byV ?_;intro w hw
   refine lAlloc ?_;intro b8 w hw;refine lStore ?_;intro w hw;have hw:Wd Γ2 [.blk b8 (.cells (enc o).toArray 43),.blk b6 (.cells (cG ⟨g,A,N,C⟩).toArray 47),.blk b1 (.cells #[.slice sa sn sc,.slice ga gn gc] 50)] w:=hw
   have fin:nameO g o=false→okNames q=false:=fun hf=>by rw[hall,hsh,hf];rfl
   repeat first|refine byW ?_|refine byV ?_;intro w hw
   refine lPgG (hp:=p2) ?_
   intro w hw;repeat first|refine byW ?_|refine byV ?_;intro w hw
   refine W_cond rfl (fun h=>?_) (fun h=>?_)
   ·repeat first|refine byW ?_|refine byV ?_;intro w hw
    refine W_cond_true (congrArg Value.bool h) ?_
    have h:(decide (o.Var=noS) && !rightV o.Const)=true:=h
    repeat first|refine byW ?_|refine byV ?_;intro w hw
    refine⟨_,rfl,Γ2,hle1.trans hle2,ret_i rfl ?_,wd_nil hw⟩
    rw[fin (by rw[hno,h];rfl)];rfl
   have h1:(decide (o.Var=noS) && !rightV o.Const)=false:=h
   clear h;repeat first|refine byW ?_|refine byV ?_;intro w hw
   refine W_cond rfl (fun h=>?_) (fun h=>?_)
   ·repeat first|refine byW ?_|refine byV ?_;intro w hw
    refine W_cond_true (congrArg Value.bool h) ?_
    have h:(decide (o.Var=anyS) && !isAtomB g)=true:=h
    repeat first|refine byW ?_|refine byV ?_;intro w hw
    refine⟨_,rfl,Γ2,hle1.trans hle2,ret_i rfl ?_,wd_nil hw⟩
    rw[fin (by rw[hno,h,Bool.not_true,Bool.and_false];rfl)];rfl
   have h2:(decide (o.Var=anyS) && !isAtomB g)=false:=h
   clear h;repeat first|refine byW ?_|refine byV ?_;intro w hw
   refine W_cond rfl (fun h=>?_) (fun h=>?_)
   ·have h:(decide (o.Var≠noS)&&decide (o.Var≠anyS) && !varS o.Var)=true:=h
    repeat first|refine byW ?_|refine byV ?_;intro w hw
    refine⟨_,rfl,Γ2,hle1.trans hle2,ret_i rfl ?_,wd_nil hw⟩
    rw[fin (by rw[hno,h,Bool.not_true,Bool.and_false])];rfl
   ·have h:(decide (o.Var≠noS)&&decide (o.Var≠anyS) && !varS o.Var)=false:=h
    have hf:nameO g o=true:=by rw[hno,h1,h2,h];rfl
    rw[hf,Bool.true_and]at hsh;repeat first|refine byW ?_|refine byV ?_;intro w hw
    exact⟨on-j-1,by omega,j+1,by omega,⟨rfl,rfl,rfl,rfl,rfl,rfl,rfl,rfl,trivial⟩,hsh,hw.drop⟩
  have hjn:on≤j:=by have:=of_decide_eq_false h;omega
  clear h;rw[drop_none (opsG g) (by omega)]at hsh
  have hsh:nameG g=true:=hsh
  rw[hsh,Bool.true_and]at hall;repeat first|refine byW ?_|refine byV ?_;intro w hw
  exact⟨gn-k-1,by omega,Γ2,k+1,hle1.trans hle2,by omega,⟨rfl,rfl,rfl,rfl,trivial⟩,hall,hw.drop⟩
 have hkn:gn≤k:=by have:=of_decide_eq_false h;omega
 rw[drop_none _ (by rw[hnl];omega)]at hall
 repeat first|refine byW ?_|refine byV ?_;intro w hw
 refine⟨_,rfl,Γ1,hle1,ret_i rfl ?_,wd_nil hw⟩
 rw[hall];rfl
def bndG(g:Goal):List ByteArray:=if g.Kind=1∨g.Kind=4 then (opsG g).map (·.Var) else []
def BQ(q:Query):List ByteArray:=(boundQ q).foldl addN [noS,anyS]
theorem okSafe_eq{q:Query}:okSafe q=(allN q).all (hasN (BQ q)):=by
 rw[Bool.eq_iff_iff];unfold okSafe;rw[List.all_eq_true,List.all_eq_true];have key:∀s,hasN (BQ q) s=true↔s=noS∨s=anyS∨s∈boundQ q:=fun s=>by
  rw[hasN_iff];unfold BQ;rw[addL_mem];simp[or_assoc]
 have hmem:∀s,s∈namedQ q↔s∈allN q∧s≠noS∧s≠anyS:=fun s=>by
  unfold namedQ;rw[addL_mem];unfold isNm;simp[List.mem_filter]
 constructor
 ·intro h s hs;rw[key];by_cases h1:s=noS
  ·exact .inl h1
  by_cases h2:s=anyS
  ·exact .inr (.inl h2)
  exact .inr (.inr (hasN_iff.1 (h s ((hmem s).2 ⟨hs,h1,h2⟩))))
 ·intro h s hs;obtain⟨h1,h2,h3⟩:=(hmem s).1 hs
  have:=(key s).1 (h s h1)
  exact hasN_iff.2 ((this.resolve_left h2).resolve_left h3)
def opsB(q:Query)(g:Goal):Bool:=(opsG g).all fun o=>hasN (BQ q) o.Var
theorem okSafe_eq2{q:Query}:okSafe q=(q.Sel.all (hasN (BQ q))&&q.Goals.all (opsB q)):=by
 rw[okSafe_eq];unfold allN;rw[List.all_append,List.all_flatMap];congr 2
 funext g
 rw[List.all_map];rfl
def varE(q:Query):Int:=if ¬q.Sel.Nodup then 56 else if okSafe q=false then 62 else 0
theorem pg_checkVariables{Γ:Gho}{vs vg:Value}{gs:List GoalH}{q:Query}(hq0:QR Γ vs vg gs q)(hok:QueryOk q):PG Tryz.prog Γ 73 [.agg #[vs,vg]] (.int .i64 (varE q)):=pg_free fun Γ w hle hw=>by
 have hq:=hq0.mono hle
 obtain⟨ga,gn,gc,rfl,hgn,hgnc,hgc⟩:=hq.goals.shape;obtain⟨sa,sn,sc,rfl,hsn,hsnc,hsc⟩:=hq.sel.shape;simp only[List.length_map]at hgn hsn
 have hgl:=hq.glen hok
 have hsl:=hok.sel
 have hnl:=hq.nlen
 have hrS:=hq.sel
 refine calls_of_W Tryz.func73 rfl rfl ?_
 repeat first|refine byW ?_|refine byV ?_;intro w hw
 refine lBox ?_;intro b1 w hw;have hw:Wd Γ [.blk b1 (.cells #[.slice sa sn sc,.slice ga gn gc] 50)] w:=hw
 repeat first|refine byW ?_|refine byV ?_;intro w hw
 refine L_step rfl rfl (s_makeMap (K:=9) (α:=ByteArray) (f:=Value.bool) hw fun bm w hw=>?_)
 have hw:Wd Γ [nmR bm [],.blk b1 (.cells #[.slice sa sn sc,.slice ga gn gc] 50)] w:=hw
 repeat first|refine byW ?_|refine byV ?_;intro w hw
 refine L_step rfl rfl (Step_ins (s_mapUpdS (f:=Value.bool) (v:=true) (i:=0) (l:=([]:List ByteArray).map fun s=>(s,true)) (a:=noS) hw rfl rfl rfl rfl fun w hw=>?_))
 rw[nm_set]at hw;have hw:Wd Γ [nmR bm [noS],.blk b1 (.cells #[.slice sa sn sc,.slice ga gn gc] 50)] w:=hw
 refine L_step rfl rfl (Step_ins (s_mapUpdS (f:=Value.bool) (v:=true) (i:=0) (l:=[noS].map fun s=>(s,true)) (a:=anyS) hw rfl rfl rfl rfl fun w hw=>?_))
 rw[nm_set]at hw;have hw:Wd Γ [nmR bm [noS,anyS],.blk b1 (.cells #[.slice sa sn sc,.slice ga gn gc] 50)] w:=hw
 repeat first|refine byW ?_|refine byV ?_;intro w hw
 refine W_loop (fun μ ρ w=>∃(Γ':Gho) (k:Nat),Γ.le Γ'∧μ+k=gn∧Has ρ [(1,.pointer (some ⟨b1,0,none⟩)),(3,.map (some bm)),(20,.slice ga gn gc),(21,.int .i64 gn),(22,.int .i64 k)]∧Wd Γ' [nmR bm (((q.Goals.take k).flatMap bndG).foldl addN [noS,anyS]),.blk b1 (.cells #[.slice sa sn sc,.slice ga gn gc] 50)] w) gn ⟨Γ,0,Gho.le.refl _,by omega,⟨rfl,rfl,rfl,rfl,rfl,trivial⟩,hw⟩ ?_
 clear hw;rintro μ ρ w ⟨Γ1,k,hle1,hk,hρ,hw⟩
 rw[hρ.eq];clear hρ;have hq1:=hq.mono hle1
 have hrG1:=hq1.goals
 have hrS1:=hq1.sel
 repeat first|refine byW ?_|refine byV ?_;intro w hw
 refine W_cond rfl (fun h=>?_) (fun h=>?_)
 ·have hkn:k<gn:=by have:=of_decide_eq_true h;omega
  clear h;obtain⟨x,hx⟩:=get_lt (l:=gs) (k:=k) (by omega)
  have hxm:=List.mem_of_getElem? hx
  have hgoal:=hq.goal hok hxm
  have hgok:=hq1.ok x hxm
  have hgx:=hq.get hx
  have hsu:=fm_succ (F:=bndG) hgx
  obtain⟨l1,l2,l3⟩:=hgok.len;obtain⟨g,A,N,C⟩:=x;simp only at hgoal l1 l2 l3 hgx hsu
  have hal:=hgoal.len
  repeat first|refine byW ?_|refine byV ?_;intro w hw
  refine lAlloc ?_;intro b5 w hw;repeat first|refine byW ?_|refine byV ?_;intro w hw
  refine lStore ?_;intro w hw;have hw:Wd Γ1 [.blk b5 (.cells (cG ⟨g,A,N,C⟩).toArray 47),nmR bm (((q.Goals.take k).flatMap bndG).foldl addN [noS,anyS]),.blk b1 (.cells #[.slice sa sn sc,.slice ga gn gc] 50)] w:=hw
  repeat first|refine byW ?_|refine byV ?_;intro w hw
  refine W_cond rfl (fun h=>?_) (fun h=>?_)
  ·have hkd:g.Kind=1∨g.Kind=4:=by
    have h:(decide (g.Kind=1)||decide (g.Kind=4))=true:=h
    simpa using h
   clear h;have hb:bndG g=(opsG g).map (·.Var):=if_pos hkd
   repeat first|refine byW ?_|refine byV ?_;intro w hw
   refine lCall (vs:=[.agg (cG ⟨g,A,N,C⟩).toArray]) ((operands_any hgok hw).mono fun e w hq2=>?_)
   clear hw;obtain⟨Γ2,v,hle2,rfl,hrv,hw⟩:=hq2;obtain⟨oa,on,oc,rfl,hon,honc,hoc⟩:=hrv.shape;simp only[List.length_map]at hon
   have hol:=opsG_len hgoal
   refine⟨_,rfl,?_⟩;repeat first|refine byW ?_|refine byV ?_;intro w hw
   refine W_loop (fun μ ρ w=>∃(j:Nat),μ+j=on∧Has ρ [(1,.pointer (some ⟨b1,0,none⟩)),(3,.map (some bm)),(20,.slice ga gn gc),(21,.int .i64 gn),(22,.int .i64 k),(35,.slice oa on oc),(36,.int .i64 on),(37,.int .i64 j)]∧Wd Γ2 [.blk b5 (.cells (cG ⟨g,A,N,C⟩).toArray 47),nmR bm (((q.Goals.take k).flatMap bndG++((opsG g).take j).map (·.Var)).foldl addN [noS,anyS]),.blk b1 (.cells #[.slice sa sn sc,.slice ga gn gc] 50)] w) on ⟨0,by omega,⟨rfl,rfl,rfl,rfl,rfl,rfl,rfl,rfl,trivial⟩,by rw[List.take_zero,List.map_nil,List.append_nil];exact hw⟩ ?_
   clear hw;rintro μ2 ρ w ⟨j,hj,hρ,hw⟩
   rw[hρ.eq];clear hρ;repeat first|refine byW ?_|refine byV ?_;intro w hw
   refine W_cond rfl (fun h=>?_) (fun h=>?_)
   ·have hjn:j<on:=by have:=of_decide_eq_true h;omega
    clear h;obtain⟨o,ho⟩:=get_lt (l:=opsG g) (k:=j) (by omega)
    repeat first|refine byW ?_|refine byV ?_;intro w hw
    refine lAlloc ?_;intro b7 w hw;refine lStore ?_;intro w hw;have hw:Wd Γ2 [.blk b7 (.cells (enc o).toArray 43),.blk b5 (.cells (cG ⟨g,A,N,C⟩).toArray 47),nmR bm (((q.Goals.take k).flatMap bndG++((opsG g).take j).map (·.Var)).foldl addN [noS,anyS]),.blk b1 (.cells #[.slice sa sn sc,.slice ga gn gc] 50)] w:=hw
    repeat first|refine byW ?_|refine byV ?_;intro w hw
    refine L_step rfl rfl (s_mapUpdS (f:=Value.bool) (v:=true) (i:=2) (l:=(((q.Goals.take k).flatMap bndG++((opsG g).take j).map (·.Var)).foldl addN [noS,anyS]).map fun s=>(s,true)) hw rfl rfl rfl rfl fun w hw=>?_)
    rw[nm_set]at hw;have hw:Wd Γ2 [.blk b7 (.cells (enc o).toArray 43),.blk b5 (.cells (cG ⟨g,A,N,C⟩).toArray 47),nmR bm (((q.Goals.take k).flatMap bndG++((opsG g).take (j+1)).map (·.Var)).foldl addN [noS,anyS]),.blk b1 (.cells #[.slice sa sn sc,.slice ga gn gc] 50)] w:=by
     rw[List.take_add_one,ho,List.map_append,←List.append_assoc,List.foldl_append (l:=(q.Goals.take k).flatMap bndG++((opsG g).take j).map (·.Var))];exact hw
    repeat first|refine byW ?_|refine byV ?_;intro w hw
    exact⟨on-j-1,by omega,j+1,by omega,⟨rfl,rfl,rfl,rfl,rfl,rfl,rfl,rfl,trivial⟩,hw.drop⟩
   have hjn:on≤j:=by have:=of_decide_eq_false h;omega
   clear h;have ho2:(opsG g).take j=opsG g:=List.take_of_length_le (by omega)
   rw[ho2,←hb,←hsu]at hw;repeat first|refine byW ?_|refine byV ?_;intro w hw
   exact⟨gn-k-1,by omega,Γ2,k+1,hle1.trans hle2,by omega,⟨rfl,rfl,rfl,rfl,rfl,trivial⟩,hw.drop⟩
  have hkd:¬(g.Kind=1∨g.Kind=4):=by
   have h:(decide (g.Kind=1)||decide (g.Kind=4))=false:=h
   simpa using h
  clear h;have hb:bndG g=[]:=if_neg hkd
  rw[hb,List.append_nil]at hsu;rw[←hsu]at hw;repeat first|refine byW ?_|refine byV ?_;intro w hw
  exact⟨gn-k-1,by omega,Γ1,k+1,hle1,by omega,⟨rfl,rfl,rfl,rfl,rfl,trivial⟩,hw.drop⟩
 have hkn:gn≤k:=by have:=of_decide_eq_false h;omega
 clear h;rw[List.take_of_length_le (by omega)]at hw
 have hw:Wd Γ1 [nmR bm (BQ q),.blk b1 (.cells #[.slice sa sn sc,.slice ga gn gc] 50)] w:=hw
 clear hkn hk;repeat first|refine byW ?_|refine byV ?_;intro w hw
 refine L_step rfl rfl (s_makeMap (K:=9) (α:=ByteArray) (f:=Value.bool) hw fun bm2 w hw=>?_)
 have hw:Wd Γ1 [nmR bm2 [],nmR bm (BQ q),.blk b1 (.cells #[.slice sa sn sc,.slice ga gn gc] 50)] w:=hw
 repeat first|refine byW ?_|refine byV ?_;intro w hw
 refine W_loop (fun μ ρ w=>∃(k:Nat),μ+k=sn∧Has ρ [(1,.pointer (some ⟨b1,0,none⟩)),(3,.map (some bm)),(8,.map (some bm2)),(48,.slice sa sn sc),(49,.int .i64 sn),(50,.int .i64 k)]∧(q.Sel.take k).Nodup∧Wd Γ1 [nmR bm2 ((q.Sel.take k).foldl addN []),nmR bm (BQ q),.blk b1 (.cells #[.slice sa sn sc,.slice ga gn gc] 50)] w) sn ⟨0,by omega,⟨rfl,rfl,rfl,rfl,rfl,rfl,trivial⟩,List.nodup_nil,hw⟩ ?_
 clear hw;rintro μ ρ w ⟨k,hk,hρ,hnd,hw⟩
 rw[hρ.eq];clear hρ;repeat first|refine byW ?_|refine byV ?_;intro w hw
 refine W_cond rfl (fun h=>?_) (fun h=>?_)
 ·have hkn:k<sn:=by have:=of_decide_eq_true h;omega
  clear h;obtain⟨s,hs⟩:=get_lt (l:=q.Sel) (k:=k) (by omega)
  have hmem:hasN ((q.Sel.take k).foldl addN []) s=true↔s∈q.Sel.take k:=by
   rw[hasN_iff,addL_mem];simp
  repeat first|refine byW ?_|refine byV ?_;intro w hw
  refine W_cond rfl (fun h=>?_) (fun h=>?_)
  ·have h:((aGet (((q.Sel.take k).foldl addN []).map fun s=>(s,true)) s).getD default)=true:=h
   rw[nm_get,hmem]at h;have hf:¬q.Sel.Nodup:=fun hn=>by
    obtain⟨i,hi⟩:=List.getElem?_of_mem h
    have hik:i<k:=by have:=(List.getElem?_eq_some_iff.1 hi).1;rw[List.length_take]at this;omega
    rw[List.getElem?_take,if_pos hik]at hi;have:=(List.getElem?_inj (by omega) hn).1 (hi.trans hs.symm)
    omega
   repeat first|refine byW ?_|refine byV ?_;intro w hw
   refine⟨_,rfl,Γ1,hle1,ret_i rfl ?_,wd_nil hw⟩
   unfold varE;rw[if_pos hf]
  ·have h:((aGet (((q.Sel.take k).foldl addN []).map fun s=>(s,true)) s).getD default)=false:=h
   rw[nm_get]at h;have hnm:s∉q.Sel.take k:=fun hm=>by rw[hmem.2 hm]at h;cases h
   repeat first|refine byW ?_|refine byV ?_;intro w hw
   refine L_step rfl rfl (s_mapUpdS (f:=Value.bool) (v:=true) (i:=0) (l:=((q.Sel.take k).foldl addN []).map fun s=>(s,true)) hw rfl rfl rfl rfl fun w hw=>?_)
   rw[nm_set]at hw;have hw:Wd Γ1 [nmR bm2 ((q.Sel.take (k+1)).foldl addN []),nmR bm (BQ q),.blk b1 (.cells #[.slice sa sn sc,.slice ga gn gc] 50)] w:=by
    rw[List.take_add_one,hs,List.foldl_append];exact hw
   repeat first|refine byW ?_|refine byV ?_;intro w hw
   refine⟨sn-k-1,by omega,k+1,by omega,⟨rfl,rfl,rfl,rfl,rfl,rfl,trivial⟩,?_,hw⟩
   rw[List.take_add_one,hs,List.nodup_append];exact⟨hnd,by simp,fun a ha b hb e=>by
    have hb:b=s:=by simpa using hb
    exact hnm (by rw[←hb,←e];exact ha)⟩
 have hkn:sn≤k:=by have:=of_decide_eq_false h;omega
 clear h;rw[List.take_of_length_le (by omega)]at hnd
 have hv:varE q=if okSafe q=false then 62 else 0:=by
  unfold varE;rw[if_neg (fun h=>h hnd)]
 rw[okSafe_eq2]at hv;clear hkn hk;repeat first|refine byW ?_|refine byV ?_;intro w hw
 obtain⟨KK,hKK⟩:∃KK,KK=(q.Sel.take k).foldl addN []:=⟨_,rfl⟩
 rw[←hKK]at hw;clear hKK;refine W_loop (fun μ ρ w=>∃(k:Nat),μ+k=sn∧Has ρ [(1,.pointer (some ⟨b1,0,none⟩)),(3,.map (some bm)),(61,.slice sa sn sc),(62,.int .i64 sn),(63,.int .i64 k)]∧q.Sel.all (hasN (BQ q))=(q.Sel.drop k).all (hasN (BQ q))∧Wd Γ1 [nmR bm2 KK,nmR bm (BQ q),.blk b1 (.cells #[.slice sa sn sc,.slice ga gn gc] 50)] w) sn ⟨0,by omega,⟨rfl,rfl,rfl,rfl,rfl,trivial⟩,rfl,hw⟩ ?_
 clear hw;rintro μ ρ w ⟨k,hk,hρ,hall,hw⟩
 rw[hρ.eq];clear hρ;repeat first|refine byW ?_|refine byV ?_;intro w hw
 refine W_cond rfl (fun h=>?_) (fun h=>?_)
 ·have hkn:k<sn:=by have:=of_decide_eq_true h;omega
  clear h;obtain⟨s,hs⟩:=get_lt (l:=q.Sel) (k:=k) (by omega)
  rw[all_drop hs]at hall;repeat first|refine byW ?_|refine byV ?_;intro w hw
  refine W_cond rfl (fun h=>?_) (fun h=>?_)
  ·have h:(!((aGet ((BQ q).map fun s=>(s,true)) s).getD default))=true:=h
   rw[nm_get]at h;have hf:hasN (BQ q) s=false:=by simpa using h
   repeat first|refine byW ?_|refine byV ?_;intro w hw
   refine⟨_,rfl,Γ1,hle1,ret_i rfl ?_,wd_nil hw⟩
   rw[hv,hall,hf];rfl
  ·have h:(!((aGet ((BQ q).map fun s=>(s,true)) s).getD default))=false:=h
   rw[nm_get]at h;have hf:hasN (BQ q) s=true:=by simpa using h
   rw[hf,Bool.true_and]at hall;repeat first|refine byW ?_|refine byV ?_;intro w hw
   exact⟨sn-k-1,by omega,k+1,by omega,⟨rfl,rfl,rfl,rfl,rfl,trivial⟩,hall,hw⟩
 have hkn:sn≤k:=by have:=of_decide_eq_false h;omega
 clear h;rw[drop_none q.Sel (by omega)]at hall
 have hv:varE q=if q.Goals.all (opsB q)=false then 62 else 0:=by
  rw[hv,hall];rfl
 clear hkn hk hall;repeat first|refine byW ?_|refine byV ?_;intro w hw
 refine W_loop (fun μ ρ w=>∃(Γ':Gho) (k:Nat),Γ1.le Γ'∧μ+k=gn∧Has ρ [(1,.pointer (some ⟨b1,0,none⟩)),(3,.map (some bm)),(73,.slice ga gn gc),(74,.int .i64 gn),(75,.int .i64 k)]∧q.Goals.all (opsB q)=(q.Goals.drop k).all (opsB q)∧Wd Γ' [nmR bm2 KK,nmR bm (BQ q),.blk b1 (.cells #[.slice sa sn sc,.slice ga gn gc] 50)] w) gn ⟨Γ1,0,Gho.le.refl _,by omega,⟨rfl,rfl,rfl,rfl,rfl,trivial⟩,rfl,hw⟩ ?_
 clear hw;rintro μ ρ w ⟨Γ2,k,hle2,hk,hρ,hall,hw⟩
 rw[hρ.eq];clear hρ;have hq2:=hq1.mono hle2
 have hrG2:=hq2.goals
 repeat first|refine byW ?_|refine byV ?_;intro w hw
 refine W_cond rfl (fun h=>?_) (fun h=>?_)
 ·have hkn:k<gn:=by have:=of_decide_eq_true h;omega
  clear h;obtain⟨x,hx⟩:=get_lt (l:=gs) (k:=k) (by omega)
  have hxm:=List.mem_of_getElem? hx
  have hgoal:=hq.goal hok hxm
  have hgok:=hq2.ok x hxm
  have hgx:=hq.get hx
  rw[all_drop hgx]at hall;obtain⟨l1,l2,l3⟩:=hgok.len;obtain⟨g,A,N,C⟩:=x;simp only at hgoal l1 l2 l3 hgx hall
  have hal:=hgoal.len
  repeat first|refine byW ?_|refine byV ?_;intro w hw
  refine lAlloc ?_;intro b14 w hw;repeat first|refine byW ?_|refine byV ?_;intro w hw
  refine lStore ?_;intro w hw;have hw:Wd Γ2 (.blk b14 (.cells (cG ⟨g,A,N,C⟩).toArray 47)::[nmR bm2 KK,nmR bm (BQ q),.blk b1 (.cells #[.slice sa sn sc,.slice ga gn gc] 50)]) w:=hw
  repeat first|refine byW ?_|refine byV ?_;intro w hw
  refine lCall (vs:=[.agg (cG ⟨g,A,N,C⟩).toArray]) ((operands_any hgok hw).mono fun e w hq3=>?_)
  clear hw;obtain⟨Γ3,v,hle3,rfl,hrv,hw⟩:=hq3;obtain⟨oa,on,oc,rfl,hon,honc,hoc⟩:=hrv.shape;simp only[List.length_map]at hon
  have hol:=opsG_len hgoal
  refine⟨_,rfl,?_⟩;repeat first|refine byW ?_|refine byV ?_;intro w hw
  refine W_loop (fun μ ρ w=>∃(j:Nat),μ+j=on∧Has ρ [(1,.pointer (some ⟨b1,0,none⟩)),(3,.map (some bm)),(73,.slice ga gn gc),(74,.int .i64 gn),(75,.int .i64 k),(80,.slice oa on oc),(81,.int .i64 on),(82,.int .i64 j)]∧opsB q g=(((opsG g).drop j).all fun o=>hasN (BQ q) o.Var)∧Wd Γ3 (.blk b14 (.cells (cG ⟨g,A,N,C⟩).toArray 47)::[nmR bm2 KK,nmR bm (BQ q),.blk b1 (.cells #[.slice sa sn sc,.slice ga gn gc] 50)]) w) on ⟨0,by omega,⟨rfl,rfl,rfl,rfl,rfl,rfl,rfl,rfl,trivial⟩,rfl,hw⟩ ?_
  clear hw;rintro μ2 ρ w ⟨j,hj,hρ,hsh,hw⟩
  rw[hρ.eq];clear hρ;repeat first|refine byW ?_|refine byV ?_;intro w hw
  refine W_cond rfl (fun h=>?_) (fun h=>?_)
  ·have hjn:j<on:=by have:=of_decide_eq_true h;omega
   clear h;obtain⟨o,ho⟩:=get_lt (l:=opsG g) (k:=j) (by omega)
   rw[all_drop ho]at hsh;repeat first|refine byW ?_|refine byV ?_;intro w hw
   refine lAlloc ?_;intro b16 w hw;refine lStore ?_;intro w hw;have hw:Wd Γ3 (.blk b16 (.cells (enc o).toArray 43)::.blk b14 (.cells (cG ⟨g,A,N,C⟩).toArray 47)::[nmR bm2 KK,nmR bm (BQ q),.blk b1 (.cells #[.slice sa sn sc,.slice ga gn gc] 50)]) w:=hw
   repeat first|refine byW ?_|refine byV ?_;intro w hw
   refine W_cond rfl (fun h=>?_) (fun h=>?_)
   ·have h:(!((aGet ((BQ q).map fun s=>(s,true)) o.Var).getD default))=true:=h
    rw[nm_get]at h;have hf:hasN (BQ q) o.Var=false:=by simpa using h
    repeat first|refine byW ?_|refine byV ?_;intro w hw
    refine⟨_,rfl,Γ3,hle1.trans (hle2.trans hle3),ret_i rfl ?_,wd_nil hw⟩
    rw[hv,hall,hsh,hf];rfl
   ·have h:(!((aGet ((BQ q).map fun s=>(s,true)) o.Var).getD default))=false:=h
    rw[nm_get]at h;have hf:hasN (BQ q) o.Var=true:=by simpa using h
    rw[hf,Bool.true_and]at hsh;repeat first|refine byW ?_|refine byV ?_;intro w hw
    exact⟨on-j-1,by omega,j+1,by omega,⟨rfl,rfl,rfl,rfl,rfl,rfl,rfl,rfl,trivial⟩,hsh,hw.drop⟩
  have hjn:on≤j:=by have:=of_decide_eq_false h;omega
  clear h;rw[drop_none (opsG g) (by omega)]at hsh
  have hsh:opsB q g=true:=hsh
  rw[hsh,Bool.true_and]at hall;repeat first|refine byW ?_|refine byV ?_;intro w hw
  exact⟨gn-k-1,by omega,Γ3,k+1,hle2.trans hle3,by omega,⟨rfl,rfl,rfl,rfl,rfl,trivial⟩,hall,hw.drop⟩
 have hkn:gn≤k:=by have:=of_decide_eq_false h;omega
 rw[drop_none _ (by rw[hnl];omega)]at hall
 repeat first|refine byW ?_|refine byV ?_;intro w hw
 refine⟨_,rfl,Γ2,hle1.trans hle2,ret_i rfl ?_,wd_nil hw⟩
 rw[hv,hall];rfl
def firstE:List (Nat×Int)→Int
 | []=>0
 | p::r=>if p.2≠0 then p.2 else firstE r
def chkL(q:Query):List (Nat×Int):=[(69,if okLim q=true then 0 else 15),(70,if okShape q=true then 0 else 50),(71,if okNames q=true then 0 else 63),(72,if okNum q=true then 0 else 6),(73,varE q)]
theorem valE_chain{q:Query}:valE q=firstE (chkL q):=by
 unfold valE chkL firstE firstE firstE firstE firstE firstE varE;cases okLim q <;> cases okShape q <;> cases okNames q <;> cases okNum q <;> simp
theorem pg_ValidateQ{Γ:Gho}{vs vg:Value}{gs:List GoalH}{q:Query}(hq0:QR Γ vs vg gs q)(hok:QueryOk q):PG Tryz.prog Γ 32 [.agg #[vs,vg]] (.int .i64 (valE q)):=pg_free fun Γ w hle hw=>by
 have hq:=hq0.mono hle
 obtain⟨ga,gn,gc,rfl,-,-,-⟩:=hq.goals.shape;obtain⟨sa,sn,sc,rfl,-,-,-⟩:=hq.sel.shape;have p1:=pg_checkLimits hq hok
 have p2:=pg_checkShape hq hok
 have p3:=pg_checkNames hq hok
 have p4:=pg_checkNumbers hq hok
 have p5:=pg_checkVariables hq hok
 have hcl:∀(k:Nat) (p:Nat×Int),(chkL q)[k]? = some p→FnOk Tryz.prog p.1∧PG Tryz.prog Γ p.1 [.agg #[.slice sa sn sc,.slice ga gn gc]] (.int .i64 p.2):=by
  intro k p hp;match k,hp with
  | 0,hp=>cases hp;exact⟨inferInstance,p1⟩
  | 1,hp=>cases hp;exact⟨inferInstance,p2⟩
  | 2,hp=>cases hp;exact⟨inferInstance,p3⟩
  | 3,hp=>cases hp;exact⟨inferInstance,p4⟩
  | 4,hp=>cases hp;exact⟨inferInstance,p5⟩
 have hlen:(chkL q).length=5:=rfl
 rw[valE_chain];refine calls_of_W Tryz.func32 rfl rfl ?_
 repeat first|refine byW ?_|refine byV ?_;intro w hw
 refine lBox ?_;intro b1 w hw;have hw:Wd Γ [.blk b1 (.cells #[.slice sa sn sc,.slice ga gn gc] 50)] w:=hw
 repeat first|refine byW ?_|refine byV ?_;intro w hw
 refine lBuildSlice ((chkL q).map fun p=>[.func (.func p.1) #[] #[]]) ?_
 intro q1 w hw;obtain⟨CK,hCK⟩:∃CK,CK=chkL q:=⟨_,rfl⟩
 rw[←hCK]at hcl hlen hw ⊢
 clear hCK;have hw:Wd Γ [.own (.slice (some q1) 5 5) 94 1 (CK.map fun p=>[.func (.func p.1) #[] #[]]),.blk b1 (.cells #[.slice sa sn sc,.slice ga gn gc] 50)] w:=hw
 repeat first|refine byW ?_|refine byV ?_;intro w hw
 refine W_loop (fun μ ρ w=>∃(k:Nat),μ+k=5∧Has ρ [(1,.pointer (some ⟨b1,0,none⟩)),(8,.slice (some q1) 5 5),(9,.int .i64 5),(10,.int .i64 k)]∧firstE CK=firstE (CK.drop k)∧Wd Γ [.own (.slice (some q1) 5 5) 94 1 (CK.map fun p=>[.func (.func p.1) #[] #[]]),.blk b1 (.cells #[.slice sa sn sc,.slice ga gn gc] 50)] w) 5 ⟨0,by omega,⟨rfl,rfl,rfl,rfl,trivial⟩,rfl,hw⟩ ?_
 clear hw;rintro μ ρ w ⟨k,hk,hρ,hf,hw⟩
 rw[hρ.eq];clear hρ;repeat first|refine byW ?_|refine byV ?_;intro w hw
 refine W_cond rfl (fun h=>?_) (fun h=>?_)
 ·have hk5:k<5:=by have:=of_decide_eq_true h;omega
  clear h;obtain⟨p,hp⟩:=get_lt (l:=CK) (k:=k) (by omega)
  obtain⟨hfn,hpg⟩:=hcl k p hp
  rw[drop_get hp]at hf;repeat first|refine byW ?_|refine byV ?_;intro w hw
  refine lCallv (fst:=[]) (cap:=[]) (vs:=[.agg #[.slice sa sn sc,.slice ga gn gc]]) ?_
  refine(hpg.h _ _ hw).mono ?_
  clear hw;rintro e w ⟨rfl,hw⟩
  refine⟨_,rfl,?_⟩;repeat first|refine byW ?_|refine byV ?_;intro w hw
  refine W_cond rfl (fun h=>?_) (fun h=>?_)
  ·have h:p.2≠0:=of_decide_eq_true h
   repeat first|refine byW ?_|refine byV ?_;intro w hw
   refine⟨_,rfl,Γ,Gho.le.refl _,ret_i rfl ?_,wd_nil hw⟩
   rw[hf,firstE,if_pos h]
  ·have h:¬p.2≠0:=of_decide_eq_false h
   rw[firstE,if_neg h]at hf;repeat first|refine byW ?_|refine byV ?_;intro w hw
   exact⟨μ-1,by omega,k+1,by omega,⟨rfl,rfl,rfl,rfl,trivial⟩,hf,hw⟩
 have hk5:5≤k:=by have:=of_decide_eq_false h;omega
 rw[drop_none CK (by omega)]at hf
 repeat first|refine byW ?_|refine byV ?_;intro w hw
 exact⟨_,rfl,Γ,Gho.le.refl _,ret_i rfl hf.symm,wd_nil hw⟩
end Go.Proofs.YtfoggcgogafocaaGreat
end
section
open Go Mk
namespace Go.Proofs.YtfoggcgogafocaaGreat
def lay_rws_ren:Go.Shelf.Ren:=⟨fun|6=>36|15=>81|14=>80|28=>140|29=>141|20=>132|21=>133|22=>134|23=>135|24=>136|25=>137|26=>138|27=>139|46=>200|47=>201|48=>202|49=>203|50=>204|57=>234|n=>n,fun|22=>51|24=>54|25=>104|3=>3|39=>81|0=>0|53=>213|55=>80|4=>4|46=>206|45=>205|50=>210|5=>5|9=>9|66=>246|70=>250|76=>268|77=>171|n=>n,fun|n=>n⟩
theorem lay_rws:Go.Proofs.SlLaysF.n6 Tryz.prog lay_rws_ren:={
 mixed:=by kernel_rfl
 f6:=⟨Tryz.f36.name,by decide,Tryz.func36.trans (congrArg some (by kernel_rfl))⟩
 f14:=⟨Tryz.f80.name,by decide,Tryz.func80.trans (congrArg some (by kernel_rfl))⟩
 f15:=Tryz.func81.trans (congrArg some (by kernel_rfl))
 f20:=⟨Tryz.f132.name,by decide,Tryz.func132.trans (congrArg some (by kernel_rfl))⟩
 f21:=⟨Tryz.f133.name,by decide,Tryz.func133.trans (congrArg some (by kernel_rfl))⟩
 f22:=⟨Tryz.f134.name,by decide,Tryz.func134.trans (congrArg some (by kernel_rfl))⟩
 f23:=⟨Tryz.f135.name,by decide,Tryz.func135.trans (congrArg some (by kernel_rfl))⟩
 f24:=⟨Tryz.f136.name,by decide,Tryz.func136.trans (congrArg some (by kernel_rfl))⟩
 f25:=⟨Tryz.f137.name,by decide,Tryz.func137.trans (congrArg some (by kernel_rfl))⟩
 f26:=⟨Tryz.f138.name,by decide,Tryz.func138.trans (congrArg some (by kernel_rfl))⟩
 f27:=⟨Tryz.f139.name,by decide,Tryz.func139.trans (congrArg some (by kernel_rfl))⟩
 f28:=Tryz.func140.trans (congrArg some (by kernel_rfl))
 f29:=Tryz.func141.trans (congrArg some (by kernel_rfl))
 f46:=⟨Tryz.f200.name,by decide,Tryz.func200.trans (congrArg some (by kernel_rfl))⟩
 f47:=Tryz.func201.trans (congrArg some (by kernel_rfl))
 f48:=Tryz.func202.trans (congrArg some (by kernel_rfl))
 f49:=⟨Tryz.f203.name,by decide,Tryz.func203.trans (congrArg some (by kernel_rfl))⟩
 f50:=⟨Tryz.f204.name,by decide,Tryz.func204.trans (congrArg some (by kernel_rfl))⟩
 f57:=⟨Tryz.f234.name,by decide,Tryz.func234.trans (congrArg some (by kernel_rfl))⟩
 t0:=Tryz.underlying0
 a0:=Tryz.isAgg0
 z0:=Tryz.sizeOf0
 v0:=Tryz.zeroValue0
 t3:=Tryz.underlying3
 a3:=Tryz.isAgg3
 z3:=Tryz.sizeOf3
 v3:=Tryz.zeroValue3
 t4:=Tryz.underlying4
 a4:=Tryz.isAgg4
 z4:=Tryz.sizeOf4
 v4:=Tryz.zeroValue4
 t5:=Tryz.underlying5
 a5:=Tryz.isAgg5
 z5:=Tryz.sizeOf5
 v5:=Tryz.zeroValue5
 t9:=Tryz.underlying9
 a9:=Tryz.isAgg9
 z9:=Tryz.sizeOf9
 v9:=Tryz.zeroValue9
 t22:=Tryz.underlying51
 a22:=Tryz.isAgg51
 z22:=Tryz.sizeOf51
 v22:=Tryz.zeroValue51
 a24:=Tryz.isAgg54
 z24:=Tryz.sizeOf54
 t25:=Tryz.underlying104
 a25:=Tryz.isAgg104
 z25:=Tryz.sizeOf104
 v25:=Tryz.zeroValue104
 t39:=Tryz.underlying81
 a39:=Tryz.isAgg81
 z39:=Tryz.sizeOf81
 v39:=Tryz.zeroValue81
 t45:=Tryz.underlying205
 a45:=Tryz.isAgg205
 z45:=Tryz.sizeOf205
 v45:=Tryz.zeroValue205
 t46:=Tryz.underlying206
 a46:=Tryz.isAgg206
 z46:=Tryz.sizeOf206
 v46:=Tryz.zeroValue206
 t50:=Tryz.underlying210
 a50:=Tryz.isAgg210
 z50:=Tryz.sizeOf210
 v50:=Tryz.zeroValue210
 t53:=Tryz.underlying213
 a53:=Tryz.isAgg213
 z53:=Tryz.sizeOf213
 v53:=Tryz.zeroValue213
 t55:=Tryz.underlying80
 a55:=Tryz.isAgg80
 z55:=Tryz.sizeOf80
 v55:=Tryz.zeroValue80
 t66:=Tryz.underlying246
 a66:=Tryz.isAgg246
 z66:=Tryz.sizeOf246
 v66:=Tryz.zeroValue246
 t70:=Tryz.underlying250
 a70:=Tryz.isAgg250
 z70:=Tryz.sizeOf250
 v70:=Tryz.zeroValue250
 t76:=Tryz.underlying268
 a76:=Tryz.isAgg268
 z76:=Tryz.sizeOf268
 v76:=Tryz.zeroValue268
 t77:=Tryz.underlying171
 a77:=Tryz.isAgg171
 z77:=Tryz.sizeOf171
 v77:=Tryz.zeroValue171 }
end Go.Proofs.YtfoggcgogafocaaGreat
end
section
open Go Mk
namespace Go.Proofs.YtfoggcgogafocaaGreat
set_option maxHeartbeats 16000000
attribute [local irreducible] Calls cI cB
abbrev RowT:=Value×List Val
def cR(p:RowT):List Value:=[p.1]
def ROk(Γ:Gho)(p:RowT):Prop:=RepS Γ p.1 3 (p.2.map enc)
def eqR(x y:RowT):Bool:=decide (cL cV x.2 y.2=0)
theorem ROk.one{Γ:Gho}{p:RowT}(h:ROk Γ p):p.1.oneCell'=true:=by
 obtain⟨a,n,c,h1,-⟩:=RepS.shape h
 rw[h1];rfl
theorem CompactR_any{Γ:Gho}{S:List Res}{w:World}{v:Value}(fs:List RowT)(hok:∀f∈fs,ROk Γ f)(hl:fs.length≤1000000)(hw:Wd Γ (.own v 54 1 (fs.map cR)::S) w) :
  Calls Tryz.prog 39 #[v,.func (.func 38) #[] #[]] w fun e w'=>∃v',e=.returned v'∧Wd Γ (.own v' 54 1 ((cmpct eqR fs).map cR)::S) w':=by
 obtain⟨a,n,c,rfl,hn,hnc,hc⟩:=hw.own_shape (i:=0) rfl
 simp only[List.length_map]at hn
 refine calls_of_W Tryz.func39 rfl rfl ?_
 repeat first|refine byW ?_|refine byV ?_;intro w hw
 refine W_cond rfl (fun h=>?_) (fun h=>?_)
 ·have h:n<2:=by have:=of_decide_eq_true h;omega
  repeat first|refine byW ?_|refine byV ?_;intro w hw
  have hE:cmpct eqR fs=fs:=by
   cases fs with
   | nil=>rfl
   | cons x fs=>
    cases fs with
    | nil=>rfl
    | cons y fs=>simp at hn;omega
  rw[hE];exact⟨_,rfl,_,rfl,hw⟩
 have h:2≤n:=by have:=of_decide_eq_false h;omega
 repeat first|refine byW ?_|refine byV ?_;intro w hw
 refine W_loop (fun μ ρ w=>∃(k:Nat),μ+k=n∧1≤k∧Has ρ [(0,.slice a n c),(1,.func (.func 38) #[] #[]),(5,.int .i64 k)]∧cmpct eqR (fs.take k)=fs.take k∧Wd Γ (.own (.slice a n c) 54 1 (fs.map cR)::S) w) (n-1) ⟨1,by omega,by omega,⟨rfl,rfl,rfl,trivial⟩,?_,hw⟩ ?_
 ·cases fs with
  | nil=>rfl
  | cons x fs=>rfl
 clear hw;rintro μ ρ w ⟨k,hk,hk1,hρ,ho,hw⟩
 rw[hρ.eq];repeat first|refine byW ?_|refine byV ?_;intro w hw
 refine W_cond rfl (fun h=>?_) (fun h=>?_)
 ·have hkn:k<n:=by have:=of_decide_eq_true h;omega
  obtain⟨y,hy⟩:=get_lt (l:=fs) (k:=k) (by omega)
  obtain⟨x,hx0⟩:=get_lt (l:=fs) (k:=k-1) (by omega)
  have hx:fs[((k:Int)-1).toNat]? = some x:=by rw[show ((k:Int)-1).toNat=k-1 from by omega];exact hx0
  have hfy:=hok y (List.mem_of_getElem? hy)
  have hfx:=hok x (List.mem_of_getElem? hx0)
  have hsucc:=cmpct_succ (p:=eqR) (by omega) hy hx0
  repeat first|refine byW ?_|refine byV ?_;intro w hw
  refine W_quiet (by kernel_rfl) (by kernel_rfl) hw ?_
  iterate 10 (first|refine Q_nil ?_|(apply Q_plain;first|(apply Q_go;first|refine qP ?_|refine qPg ?_)|refine qY ?_)|(apply Q_guarded;first|(apply Q_go;first|refine qPG ?_|refine qPgG ?_)|refine qG ?_))
  refine qPsv (v:=.bool (eqR y x)) (cap:=[]) (vs:=[y.1,x.1]) (fun Y w hw=>?_) ?_
  ·exact(pg_sameRow hfy hfx).h _ _ hw
  refine byQ ?_;intro w hw;refine W_cond rfl (fun h2=>?_) (fun h2=>?_)
  ·rw[if_pos h2]at hsucc;repeat first|refine byW ?_|refine byV ?_;intro w hw
   refine W_loop (fun μ ρ w=>∃(m q:Nat) (cur:List RowT),μ+(k+m)=n∧1≤m∧1≤q∧q<k+m∧Has ρ [(0,.slice a n c),(1,.func (.func 38) #[] #[]),(5,.int .i64 q),(6,.slice (cutA a k c 1) (n-k) (c-k)),(7,.int .i64 m)]∧cur.length=n∧cur.take q=cmpct eqR (fs.take (k+m))∧(∀i,k+m-1≤i→cur[i]? = fs[i]?)∧Wd Γ (.own (.slice a n c) 54 1 (cur.map cR)::S) w) (n-(k+1)) ⟨1,k,fs,by omega,by omega,by omega,by omega,⟨rfl,rfl,rfl,rfl,rfl,trivial⟩,hn.symm,by rw[hsucc,ho],fun i _=>rfl,hw⟩ ?_
   clear hw hρ hsucc;rintro μ2 ρ w ⟨m,q,cur,hm,hm1,hq1,hq2,hρ,hcl,hcur,hsame,hw⟩
   rw[hρ.eq];repeat first|refine byW ?_|refine byV ?_;intro w hw
   refine W_cond rfl (fun h3=>?_) (fun h3=>?_)
   ·have hmn:k+m<n:=by have:=of_decide_eq_true h3;omega
    obtain⟨y2,hy2⟩:=get_lt (l:=fs) (k:=k+m) (by omega)
    obtain⟨x2,hx2⟩:=get_lt (l:=fs) (k:=k+m-1) (by omega)
    have hcy:(cur.drop k)[m]? = some y2:=by rw[List.getElem?_drop,hsame _ (by omega)];exact hy2
    have hcx:(cur.drop k)[((m:Int)-1).toNat]? = some x2:=by
     rw[List.getElem?_drop,hsame _ (by omega),show k+((m:Int)-1).toNat=k+m-1 from by omega];exact hx2
    have hfy2:=hok y2 (List.mem_of_getElem? hy2)
    have hfx2:=hok x2 (List.mem_of_getElem? hx2)
    have hsucc:=cmpct_succ (p:=eqR) (by omega) hy2 hx2
    have hlen:n-k=((cur.drop k).map cR).length:=by simp[hcl]
    have hR2:RdS Γ (.own (.slice a n c) 54 1 (cur.map cR)::S) (.slice (cutA a k c 1) (n-k) (c-k)) 1 ((cur.drop k).map cR):=⟨_,_,_,rfl,hlen,by omega,by omega,fun w hw=>by
     have:=(Wd.own_rd (i:=0) hw rfl).cut (c:=c) (by simp;omega) k (by simp;omega)
     rwa [←List.map_drop]at this⟩
    repeat first|refine byW ?_|refine byV ?_;intro w hw
    refine W_quiet (by kernel_rfl) (by kernel_rfl) hw ?_
    iterate 10 (first|refine Q_nil ?_|(apply Q_plain;first|(apply Q_go;first|refine qP ?_|refine qPg ?_)|refine qY ?_)|(apply Q_guarded;first|(apply Q_go;first|refine qPG ?_|refine qPgG ?_)|refine qG ?_))
    refine qPsv (v:=.bool (eqR y2 x2)) (cap:=[]) (vs:=[y2.1,x2.1]) (fun Y w hw=>?_) ?_
    ·exact(pg_sameRow hfy2 hfx2).h _ _ hw
    refine byQ ?_;intro w hw;refine W_cond rfl (fun h4=>?_) (fun h4=>?_)
    ·have h4:eqR y2 x2=false:=by simpa using h4
     rw[if_neg (by rw[h4];decide)]at hsucc
     repeat first|refine byW ?_|refine byV ?_;intro w hw
     have hcells:y2.1.cells.toList=[y2.1]:=by
      obtain⟨ya,yn,yc,hys,-⟩:=RepS.shape hfy2
      rw[hys];rfl
     refine lStoreE (k:=q) (r:=[y2.1]) ?_ (hv:=hcells) (hl:=rfl) (h1:=by rw[List.all_cons,ROk.one hfy2];rfl)
     intro w hw;have hw:Wd Γ (.own (.slice a n c) 54 1 ((cur.map cR).set q (cR y2))::S) w:=hw
     rw[←List.map_set]at hw;repeat first|refine byW ?_|refine byV ?_;intro w hw
     refine⟨n-(k+(m+1)),by omega,m+1,q+1,cur.set q y2,by omega,by omega,by omega,by omega,⟨rfl,rfl,rfl,rfl,rfl,trivial⟩,by rw[List.length_set];exact hcl,?_,fun i hi=>?_,hw⟩
     ·rw[show k+(m+1)=k+m+1 from rfl,hsucc,←hcur,List.take_add_one,List.take_set_of_le (by omega),List.getElem?_set_self (by omega)];rfl
     ·rw[List.getElem?_set_ne (by omega)];exact hsame i (by omega)
    ·have h4:eqR y2 x2=true:=by simpa using h4
     rw[if_pos h4]at hsucc;repeat first|refine byW ?_|refine byV ?_;intro w hw
     exact⟨n-(k+(m+1)),by omega,m+1,q,cur,by omega,by omega,by omega,by omega,⟨rfl,rfl,rfl,rfl,rfl,trivial⟩,hcl,by rw[show k+(m+1)=k+m+1 from rfl,hsucc];exact hcur,fun i hi=>hsame i (by omega),hw⟩
   ·have hmn:k+m=n:=by have:=of_decide_eq_false h3;omega
    have hfn:fs.take n=fs:=List.take_of_length_le (by omega)
    rw[hmn,hfn]at hcur;have hqn:q≤n:=by omega
    have hw:=Wd.own_take (i:=0) (m:=q) hw rfl hqn
    rw[←List.map_take,hcur]at hw;have hw:Wd Γ (.own (.slice a q c) 54 1 ((cmpct eqR fs).map cR)::S) w:=hw
    repeat first|refine byW ?_|refine byV ?_;intro w hw
    refine lClear ?_;intro w hw;repeat first|refine byW ?_|refine byV ?_;intro w hw
    exact⟨_,rfl,_,rfl,hw⟩
  ·rw[if_neg (by rw[h2];decide)]at hsucc
   repeat first|refine byW ?_|refine byV ?_;intro w hw
   refine⟨μ-1,by omega,k+1,by omega,by omega,⟨rfl,rfl,rfl,trivial⟩,?_,hw⟩
   rw[hsucc,ho,List.take_add_one,hy];rfl
 ·have hkn:¬k<n:=by have:=of_decide_eq_false h;omega
  rw[List.take_of_length_le (by omega)]at ho
  repeat first|refine byW ?_|refine byV ?_;intro w hw
  rw[ho];exact⟨_,rfl,_,rfl,hw⟩
theorem sort_rows{Γ:Gho}{S:List Res}{w:World}(fs:List RowT)(v:Value)(hok:∀f∈fs,ROk Γ f)(hl:fs.length≤1000000)(hw:Wd Γ (.own v 54 1 (fs.map cR)::S) w) :
  Calls Tryz.prog 36 #[v,.func (.func 37) #[] #[]] w fun e w'=>e=.returned (.tuple #[])∧∃gs:List RowT,gs.Perm fs∧(gs.Pairwise fun a b=>Go.Proofs.ltOf (fun a b:RowT=>cL cV a.2 b.2) b a=false)∧Wd Γ (.own v 54 1 (gs.map cR)::S) w':=by
 have hxs:(fs.attachWith (ROk Γ) hok).map Subtype.val=fs:=List.attachWith_map_subtype_val _
 have hrows:((fs.attachWith (ROk Γ) hok).map fun a=>[a.1.1])=fs.map cR:=by
  conv=>rhs;rw[←hxs]
  rw[List.map_map];rfl
 rw[←hrows]at hw;haveI:Inhabited {f:RowT // ROk Γ f}:=⟨⟨(.slice none 0 0,[]),RepS.nil⟩⟩
 have:=SortFunc_P (α:={f:RowT // ROk Γ f}) (f:=fun a=>a.1.1) lay_rws (fun a=>ROk.one a.2) (fun a b=>cL cV a.1.2 b.1.2) 37 [] (fs.attachWith (ROk Γ) hok) v hw (i:=0) rfl
  (swo_on cV_ord.list fun a:{f:RowT // ROk Γ f}=>a.1.2) (by simp;omega) (fun dk w' hw' x y=>by
   have h1:∀b o,Γ.imm b=some o→(allG w').imm b=some o:=fun b o hb=>hw'.imm b o hb
   have h2:=pg_rows (Γ:=allG w') (RepS.imm x.2 h1) (RepS.imm y.2 h1)
   refine(h2.h [] w' (allG_wd w')).mono ?_
   rintro e w'' ⟨he,hw''⟩
   exact⟨he,[],hw''⟩)
 refine this.mono ?_
 rintro e w' ⟨he,ys,hp,hs,hw'⟩
 refine⟨he,ys.map Subtype.val,?_,?_,?_⟩
 ·have:=hp.map Subtype.val
  rwa [hxs]at this
 ·rw[List.pairwise_map];exact hs
 ·rw[List.map_map];exact hw'
end Go.Proofs.YtfoggcgogafocaaGreat
end
section
open Go Mk
namespace Go.Proofs.YtfoggcgogafocaaGreat
set_option maxHeartbeats 16000000
attribute [local irreducible] Calls cI cB
structure RW(Γ:Gho)(v:Value)(L:List RowT):Prop where
 rep:RepS Γ v 1 (L.map cR)
 ok:∀p∈L,ROk Γ p
theorem RW.nil{Γ:Gho}:RW Γ (.slice none 0 0) []:=⟨RepS.nil,fun p h=>(by cases h)⟩
def rowsOf(L:List RowT):List (List Val):=L.map (·.2)
theorem zip_rows:∀ {L:List (Value×List (List Value))} {rs:List (List Val)},L.map (·.2)=(rs.map fun r=>r.map enc)→∃M:List RowT,M.map cR=(L.map fun x=>[x.1])∧rowsOf M=rs∧∀p∈M,∃x∈L,x.1=p.1∧x.2=p.2.map enc
 | [],[],_=>⟨[],rfl,rfl,fun p h=>(by cases h)⟩
 | [],_::_,h=>by simp at h
 | _::_,[],h=>by simp at h
 | x::L,r::rs,h=>by
  simp only[List.map_cons,List.cons.injEq]at h
  obtain⟨M,h1,h2,h3⟩:=zip_rows (L:=L) (rs:=rs) h.2
  refine⟨(x.1,r)::M,by rw[List.map_cons,List.map_cons,h1];rfl,by unfold rowsOf at *;rw[List.map_cons,h2],fun p hp=>?_⟩
  rcases List.mem_cons.1 hp with rfl|hp
  ·exact⟨x,by simp,rfl,h.1⟩
  ·obtain⟨y,hy,h4⟩:=h3 p hp
   exact⟨y,by simp[hy],h4⟩
theorem factor_pos{db:List Fact}{g:Goal}(h:g.Kind=4→g.Low≤g.High):1≤factor db g:=by
 unfold factor;split
 ·exact Nat.le_max_right ..
 split
 ·rename_i h4
  have:=h h4
  omega
 ·exact Nat.le_refl _
theorem workN_succ{db:List Fact}{l:List Goal}{k:Nat}{g:Goal}(h:l[k]? = some g):workN db (l.take (k+1))=workN db (l.take k)*factor db g:=by
 unfold workN;rw[List.take_add_one,h,List.foldl_append];rfl
theorem workN_mono{db:List Fact}{l:List Goal}(h:∀g∈l,g.Kind=4→g.Low≤g.High)(k:Nat):workN db (l.take k)≤workN db l:=by
 have key:∀(r:List Goal) (n:Nat),(∀g∈r,g.Kind=4→g.Low≤g.High)→n≤r.foldl (fun n g=>n*factor db g) n:=by
  intro r;induction r with
  | nil=>intro n _;exact Nat.le_refl _
  | cons g r ih=>
   intro n hr;rw[List.foldl_cons];refine Nat.le_trans ?_ (ih _ fun g hg=>hr g (by simp[hg]))
   exact Nat.le_mul_of_pos_right n (factor_pos (hr g (by simp)))
 have e:workN db l=(l.drop k).foldl (fun n g=>n*factor db g) (workN db (l.take k)):=by
  unfold workN;rw[←List.foldl_append,List.take_append_drop]
 rw[e];exact key _ _ fun g hg=>h g (List.mem_of_mem_drop hg)
theorem numG_rng{g:Goal}(h:numG g=true)(h4:g.Kind=4):g.Low≤g.High∧g.High-g.Low≤1000000:=by
 unfold numG at h;rw[if_neg (by omega),if_pos h4]at h
 simpa using h
theorem valE_num{q:Query}(h:valE q=0):∀g∈q.Goals,g.Kind=4→g.Low≤g.High∧g.High-g.Low≤1000000:=by
 intro g hg h4;refine numG_rng ?_ h4
 have hn:okNum q=true:=by
  cases hq:okNum q with
  | true=>rfl
  | false=>
   unfold valE at h;rw[hq]at h;split at h
   ·cases h
   split at h
   ·cases h
   split at h
   ·cases h
   simp at h
 exact List.all_eq_true.1 hn g hg
theorem selS_len{l:List Fact}{r:ByteArray}{m:Int}:(selS l r m).length≤l.length:=by
 unfold selS;exact Nat.le_trans (List.length_filter_le ..) setA_len
theorem tabS_len{db:List Fact}{g:Goal}:(tabS db g).length≤db.length:=by
 unfold tabS;split
 ·exact selS_len
 ·exact Nat.zero_le _
theorem Solve_any{Γ:Gho}{S:List Res}{w:World}{va vs vg:Value}{fs:List FactH}{gs:List GoalH}{q:Query}(hF:RL Γ va fs)(hl:fs.length≤50000)(hq:QR Γ vs vg gs q)(hok:QueryOk q)(hw:Wd Γ S w) :
  Calls Tryz.prog 10 #[va,.agg #[vs,vg]] w fun e w'=>∃(Γ':Gho) (v:Value) (L:List RowT),Γ.le Γ'∧e=.returned (.tuple #[v,.int .i64 (solveE (facts fs) q)])∧RW Γ' v L∧rowsOf L=solveS (facts fs) q∧Wd Γ' S w':=by
 obtain⟨ga,gn,gc,rfl,hgn,hgnc,hgc⟩:=hq.goals.shape;obtain⟨sa,sn,sc,rfl,hsn,hsnc,hsc⟩:=hq.sel.shape;obtain⟨fa,fc,rfl,hfc1,hfc2⟩:=hF.len;simp only[List.length_map]at hgn hsn
 have hgl:=hq.glen hok
 have hnl:=hq.nlen
 have p1:=pg_ValidateQ hq hok
 obtain⟨db,hdb⟩:∃db,db=facts fs:=⟨_,rfl⟩
 have hdl:db.length≤50000:=by rw[hdb];unfold facts;rw[List.length_map];exact hl
 rw[←hdb];refine calls_of_W Tryz.func10 rfl rfl ?_
 repeat first|refine byW ?_|refine byV ?_;intro w hw
 refine lBox ?_;intro b3 w hw;have hw:Wd Γ (.blk b3 (.cells #[.slice sa sn sc,.slice ga gn gc] 50)::S) w:=hw
 repeat first|refine byW ?_|refine byV ?_;intro w hw
 refine W_cond rfl (fun h=>?_) (fun h=>?_)
 ·have h:valE q≠0:=of_decide_eq_true h
  have he:solveE db q=valE q:=by unfold solveE;rw[if_pos h]
  repeat first|refine byW ?_|refine byV ?_;intro w hw
  refine⟨_,rfl,Γ,.slice none 0 0,[],Gho.le.refl _,?_,RW.nil,?_,hw.drop⟩
  ·rw[he];rfl
  ·unfold solveS;rw[he,if_neg h];rfl
 have hv:valE q=0:=by
  have:=of_decide_eq_false h
  simpa using this
 have hR:=valE_num hv
 have hRl:∀g∈q.Goals,g.Kind=4→g.Low≤g.High:=fun g hg h4=>(hR g hg h4).1
 have hse:solveE db q=if 1000000<workN db q.Goals then 15 else 0:=by
  unfold solveE;rw[if_neg (fun e=>e hv)]
 clear h p1;repeat first|refine byW ?_|refine byV ?_;intro w hw
 refine L_step rfl rfl (s_makeMap (K:=9) (α:=ByteArray) (f:=aggV) hw fun bm w hw=>?_)
 have hw:Wd Γ (envR bm []::.blk b3 (.cells #[.slice sa sn sc,.slice ga gn gc] 50)::S) w:=hw
 repeat first|refine byW ?_|refine byV ?_;intro w hw
 refine lBox ?_;intro b7 w hw;have hw:=Wd.addNil (a:=none) (E:=32) (sz:=1) hw
 have hw:Wd Γ (.own (.slice none 0 0) 32 1 (([]:List (Value×List FactH)).map fun t=>[t.1])::.blk b7 (solC (.slice sa sn sc) (.slice ga gn gc) (.slice none 0 0) (.slice none 0 0) bm)::envR bm []::.blk b3 (.cells #[.slice sa sn sc,.slice ga gn gc] 50)::S) w:=hw
 have hw:Wd Γ (.own (.slice none 0 0) 32 1 (([]:List (Value×List FactH)).map fun t=>[t.1])::.blk b3 (.cells #[.slice sa sn sc,.slice ga gn gc] 50)::.blk b7 (solC (.slice sa sn sc) (.slice ga gn gc) (.slice none 0 0) (.slice none 0 0) bm)::envR bm []::S) w:=hw.perm byPM
 repeat first|refine byW ?_|refine byV ?_;intro w hw
 refine W_loop (fun μ ρ w=>∃(Γ':Gho) (k:Nat) (ts:List (Value×List FactH)) (ta:Option Addr) (tn tc:Nat),Γ.le Γ'∧μ+k=gn∧Has ρ [(0,.slice fa fs.length fc),(3,.pointer (some ⟨b3,0,none⟩)),(7,.pointer (some ⟨b7,0,none⟩)),(8,.int .u64 (workN db (q.Goals.take k))),(23,.slice ga gn gc),(24,.int .i64 gn),(25,.int .i64 k)]∧ts.length=k∧(∀t∈ts,RL Γ' t.1 t.2)∧(∀(i:Nat) x t,gs[i]? = some x→ts[i]? = some t→facts t.2=tabS db x.g)∧workN db (q.Goals.take k)≤1000000∧Wd Γ' (.own (.slice ta tn tc) 32 1 (ts.map fun t=>[t.1])::.blk b3 (.cells #[.slice sa sn sc,.slice ga gn gc] 50)::.blk b7 (solC (.slice sa sn sc) (.slice ga gn gc) (.slice ta tn tc) (.slice none 0 0) bm)::envR bm []::S) w) gn ⟨Γ,0,[],none,0,0,Gho.le.refl _,by omega,⟨rfl,rfl,rfl,rfl,rfl,rfl,rfl,trivial⟩,rfl,(fun t h=>(by cases h)),(fun i x t _ h=>(by simp at h)),(by show 1≤1000000;decide),hw⟩ ?_
 clear hw;rintro μ ρ w ⟨Γ1,k,ts,ta,tn,tc,hle1,hk,hρ,htl,hrl,heq,hwk,hw⟩
 rw[hρ.eq];clear hρ;have hq1:=hq.mono hle1
 have hrG1:=hq1.goals
 repeat first|refine byW ?_|refine byV ?_;intro w hw
 refine W_cond rfl (fun h=>?_) (fun h=>?_)
 ·have hkn:k<gn:=by have:=of_decide_eq_true h;omega
  clear h;obtain⟨x,hx⟩:=get_lt (l:=gs) (k:=k) (by omega)
  have hxm:=List.mem_of_getElem? hx
  have hgoal:=hq.goal hok hxm
  have hgok:=hq1.ok x hxm
  have hgx:=hq.get hx
  have hws:=workN_succ (db:=db) hgx
  have hwm:=workN_mono (db:=db) hRl (k+1)
  have hRx:=hR x.g (List.mem_of_getElem? hgx)
  obtain⟨l1,l2,l3⟩:=hgok.len;obtain⟨g,A,N,C⟩:=x;simp only at hgoal l1 l2 l3 hgx hws hRx
  have hal:=hgoal.len
  repeat first|refine byW ?_|refine byV ?_;intro w hw
  refine lAlloc ?_;intro b10 w hw;repeat first|refine byW ?_|refine byV ?_;intro w hw
  refine lStore ?_;intro w hw;have hw:Wd Γ1 (.blk b10 (.cells (cG ⟨g,A,N,C⟩).toArray 47)::.own (.slice ta tn tc) 32 1 (ts.map fun t=>[t.1])::.blk b3 (.cells #[.slice sa sn sc,.slice ga gn gc] 50)::.blk b7 (solC (.slice sa sn sc) (.slice ga gn gc) (.slice ta tn tc) (.slice none 0 0) bm)::envR bm []::S) w:=hw
  repeat first|refine byW ?_|refine byV ?_;intro w hw
  refine W_cutT (fun ρ w=>∃(Γ':Gho) (a:Option Addr) (c:Nat) (fs':List FactH),Γ1.le Γ'∧RL Γ' (.slice a fs'.length c) fs'∧facts fs'=tabS db g∧Has ρ [(0,.slice fa fs.length fc),(3,.pointer (some ⟨b3,0,none⟩)),(7,.pointer (some ⟨b7,0,none⟩)),(8,.int .u64 (workN db (q.Goals.take k))),(10,.pointer (some ⟨b10,0,none⟩)),(11,.slice a fs'.length c),(23,.slice ga gn gc),(24,.int .i64 gn),(25,.int .i64 k)]∧Wd Γ' (.blk b10 (.cells (cG ⟨g,A,N,C⟩).toArray 47)::.own (.slice ta tn tc) 32 1 (ts.map fun t=>[t.1])::.blk b3 (.cells #[.slice sa sn sc,.slice ga gn gc] 50)::.blk b7 (solC (.slice sa sn sc) (.slice ga gn gc) (.slice ta tn tc) (.slice none 0 0) bm)::envR bm []::S) w) ?_ ?_
  ·refine W_cond rfl (fun h=>?_) (fun h=>?_)
   ·have hat:g.Kind=1∨g.Kind=2:=by
     have h:isAtomB g=true:=h
     unfold isAtomB at h;simpa using h
    have ht:tabS db g=selS db g.Rel N:=by unfold tabS;rw[if_pos hat,l1]
    have hF1:=hF.mono hle1
    repeat first|refine byW ?_|refine byV ?_;intro w hw
    refine lCall (vs:=[.slice fa fs.length fc,.string g.Rel,.int .i64 N]) ((Select_any (r:=g.Rel) (m:=N) fs hF1.ok hl hF1.rep hw).mono fun e w hq2=>?_)
    clear hw;obtain⟨v',fs',rfl,hfs,hfo,hw⟩:=hq2;have hwf:=freezeL hfo hw
    clear hw;obtain⟨Γ2,hle2,hrl2,hw⟩:=hwf;obtain⟨a,c,rfl,hc1,hc2⟩:=hrl2.len;refine⟨_,rfl,?_⟩;repeat first|refine byW ?_|refine byV ?_;intro w hw
    exact⟨Γ2,a,c,fs',hle2,hrl2,by rw[hfs,ht,hdb],⟨rfl,rfl,rfl,rfl,rfl,rfl,rfl,rfl,rfl,trivial⟩,hw⟩
   ·have hat:¬(g.Kind=1∨g.Kind=2):=by
     have h:isAtomB g=false:=h
     unfold isAtomB at h;simpa using h
    have ht:tabS db g=[]:=by unfold tabS;rw[if_neg hat]
    repeat first|refine byW ?_|refine byV ?_;intro w hw
    exact⟨Γ1,none,0,[],Gho.le.refl _,RL.nil,by rw[ht];rfl,⟨rfl,rfl,rfl,rfl,rfl,rfl,rfl,rfl,rfl,trivial⟩,hw⟩
  clear hw;rintro ρ w ⟨Γ2,a,c,fs',hle2,hrl2,hft,hρ,hw⟩
  rw[hρ.eq];clear hρ;obtain⟨-,-,-,hc1,hc2⟩:=hrl2.len;have hfl:fs'.length=(tabS db g).length:=by rw[←hft];unfold facts;rw[List.length_map]
  have htb:=tabS_len (db:=db) (g:=g)
  have hw:Wd Γ2 (.own (.slice ta tn tc) 32 1 (ts.map fun t=>[t.1])::.blk b7 (solC (.slice sa sn sc) (.slice ga gn gc) (.slice ta tn tc) (.slice none 0 0) bm)::.blk b3 (.cells #[.slice sa sn sc,.slice ga gn gc] 50)::envR bm []::.blk b10 (.cells (cG ⟨g,A,N,C⟩).toArray 47)::S) w:=hw.perm byPM
  obtain⟨ta',tn',tc',hts,htn,htnc,htc⟩:=hw.own_shape (i:=0) rfl
  cases hts
  simp only[List.length_map]at htn
  repeat first|refine byW ?_|refine byV ?_;intro w hw
  refine lBuildSlice [[.slice a fs'.length c]] ?_
  intro q2 w hw;refine lApp (i:=1) (rows2:=[[.slice a fs'.length c]]) ?_ (Wd.own_rd (i:=0) hw rfl)
  intro vt' w hw;obtain⟨tb,tm,td,rfl,-,-,-⟩:=hw.own_shape (i:=1) rfl
  repeat first|refine byW ?_|refine byV ?_;intro w hw
  refine lStore (i:=2) ?_
  intro w hw;have hw:Wd Γ2 (.own (.slice (some q2) 1 1) 32 1 [[.slice a fs'.length c]]::.own (.slice tb tm td) 32 1 (ts.map (fun t=>[t.1])++[[.slice a fs'.length c]])::.blk b7 (solC (.slice sa sn sc) (.slice ga gn gc) (.slice tb tm td) (.slice none 0 0) bm)::.blk b3 (.cells #[.slice sa sn sc,.slice ga gn gc] 50)::envR bm []::.blk b10 (.cells (cG ⟨g,A,N,C⟩).toArray 47)::S) w:=hw
  rw[show ts.map (fun t=>[t.1])++[[Value.slice a fs'.length c]]=(ts++[(Value.slice a fs'.length c,fs')]).map (fun t=>[t.1]) from by rw[List.map_append];rfl]at hw
  have hw:Wd Γ2 (.blk b10 (.cells (cG ⟨g,A,N,C⟩).toArray 47)::.own (.slice tb tm td) 32 1 ((ts++[(Value.slice a fs'.length c,fs')]).map (fun t=>[t.1]))::.blk b3 (.cells #[.slice sa sn sc,.slice ga gn gc] 50)::.blk b7 (solC (.slice sa sn sc) (.slice ga gn gc) (.slice tb tm td) (.slice none 0 0) bm)::envR bm []::S) w:=(hw.dropAt 0).perm byPM
  first|refine byW ?_|(refine byV ?_;intro w hw)
  refine W_cut (fun ρ w=>Has ρ [(0,.slice fa fs.length fc),(3,.pointer (some ⟨b3,0,none⟩)),(7,.pointer (some ⟨b7,0,none⟩)),(8,.int .u64 (workN db (q.Goals.take (k+1)))),(23,.slice ga gn gc),(24,.int .i64 gn),(25,.int .i64 k)]∧Wd Γ2 (.blk b10 (.cells (cG ⟨g,A,N,C⟩).toArray 47)::.own (.slice tb tm td) 32 1 ((ts++[(Value.slice a fs'.length c,fs')]).map (fun t=>[t.1]))::.blk b3 (.cells #[.slice sa sn sc,.slice ga gn gc] 50)::.blk b7 (solC (.slice sa sn sc) (.slice ga gn gc) (.slice tb tm td) (.slice none 0 0) bm)::envR bm []::S) w) ?_ ?_
  ·have hfac:factor db g≤1000001:=by
    unfold factor;split
    ·omega
    split
    ·rename_i h4
     have:=hRx h4
     omega
    ·omega
   have hmul:workN db (q.Goals.take k)*factor db g≤1000000*1000001:=Nat.mul_le_mul hwk hfac
   repeat first|refine byW ?_|refine byV ?_;intro w hw
   refine W_cond rfl (fun h=>?_) (fun h=>?_)
   ·have hk1:g.Kind=1:=of_decide_eq_true h
    have hfe:factor db g=max fs'.length 1:=by unfold factor;rw[if_pos hk1,hfl]
    repeat first|refine byW ?_|refine byV ?_;intro w hw
    refine⟨⟨rfl,rfl,rfl,?_,rfl,rfl,rfl,trivial⟩,hw⟩
    show Value.int .u64 (IntKind.u64.wrap ((workN db (q.Goals.take k):Int)*IntKind.u64.wrap (if (fs'.length:Int)<1 then 1 else (fs'.length:Int))))=_
    rw[show (if (fs'.length:Int)<1 then 1 else (fs'.length:Int))=max (fs'.length:Int) 1 from by split <;> omega]
    rw[u64_small (a:=max (fs'.length:Int) 1) (by omega) (by omega),hws,hfe]
    rw[hfe]at hmul;have e:(workN db (q.Goals.take k):Int)*max (fs'.length:Int) 1=((workN db (q.Goals.take k)*max fs'.length 1:Nat):Int):=by
     rw[Int.natCast_mul];congr 1;omega
    rw[e,u64_small (by omega) (by omega)]
   have hk1:¬g.Kind=1:=of_decide_eq_false h
   clear h;repeat first|refine byW ?_|refine byV ?_;intro w hw
   refine W_cond rfl (fun h=>?_) (fun h=>?_)
   ·have hk4:g.Kind=4:=of_decide_eq_true h
    obtain⟨hlh,hlh2⟩:=hRx hk4
    have hfe:factor db g=(g.High-g.Low+1).toNat:=by unfold factor;rw[if_neg hk1,if_pos hk4]
    have hsub:=u64_sub hgoal.high hgoal.low hlh
    repeat first|refine byW ?_|refine byV ?_;intro w hw
    refine⟨⟨rfl,rfl,rfl,?_,rfl,rfl,rfl,trivial⟩,hw⟩
    show Value.int .u64 (IntKind.u64.wrap ((workN db (q.Goals.take k):Int)*IntKind.u64.wrap (IntKind.u64.wrap (IntKind.u64.wrap g.High-IntKind.u64.wrap g.Low)+1)))=_
    rw[hsub,u64_small (a:=g.High-g.Low+1) (by omega) (by omega),hws,hfe]
    rw[hfe]at hmul;have e:(workN db (q.Goals.take k):Int)*(g.High-g.Low+1)=((workN db (q.Goals.take k)*(g.High-g.Low+1).toNat:Nat):Int):=by
     rw[Int.natCast_mul];congr 1;omega
    rw[e,u64_small (by omega) (by omega)]
   have hk4:¬g.Kind=4:=of_decide_eq_false h
   have hfe:factor db g=1:=by unfold factor;rw[if_neg hk1,if_neg hk4]
   repeat first|refine byW ?_|refine byV ?_;intro w hw
   refine⟨⟨rfl,rfl,rfl,?_,rfl,rfl,rfl,trivial⟩,hw⟩
   rw[hws,hfe,Nat.mul_one];rfl
  clear hw;rintro ρ w ⟨hρ,hw⟩
  rw[hρ.eq];clear hρ;have hle12:=hle1.trans hle2
  repeat first|refine byW ?_|refine byV ?_;intro w hw
  refine W_cond rfl (fun h=>?_) (fun h=>?_)
  ·have h:(1000000:Int)<(workN db (q.Goals.take (k+1)):Int):=of_decide_eq_true h
   have he:solveE db q=15:=by rw[hse,if_pos (by omega)]
   repeat first|refine byW ?_|refine byV ?_;intro w hw
   refine⟨_,rfl,Γ2,.slice none 0 0,[],hle12,?_,RW.nil,?_,hw.ds [0,0,0,0,0]⟩
   ·rw[he];rfl
   ·unfold solveS;rw[he,if_neg (by decide)];rfl
  have h:¬(1000000:Int)<(workN db (q.Goals.take (k+1)):Int):=of_decide_eq_false h
  repeat first|refine byW ?_|refine byV ?_;intro w hw
  refine⟨gn-k-1,by omega,Γ2,k+1,ts++[(Value.slice a fs'.length c,fs')],tb,tm,td,hle12,by omega,⟨rfl,rfl,rfl,rfl,rfl,rfl,rfl,trivial⟩,by rw[List.length_append,htl];rfl,fun t ht=>?_,fun i x t hxi hti=>?_,by omega,hw.drop⟩
  ·rcases List.mem_append.1 ht with h1|h1
   ·exact(hrl t h1).mono hle2
   ·rw[List.mem_singleton.1 h1];exact hrl2
  ·by_cases hik:i<k
   ·rw[List.getElem?_append_left (by omega)]at hti
    exact heq i x t hxi hti
   ·rw[List.getElem?_append_right (by omega)]at hti
    have hi0:i-ts.length=0:=by
     have:=(List.getElem?_eq_some_iff.1 hti).1
     simp at this
     omega
    have hik:i=k:=by omega
    subst hik;rw[hi0]at hti;cases hti
    rw[hx]at hxi;cases hxi
    exact hft
 have hkn:gn≤k:=by have:=of_decide_eq_false h;omega
 clear h;rw[List.take_of_length_le (by omega)]at hwk
 have he:solveE db q=0:=by rw[hse,if_neg (by omega)]
 have hss:solveS db q=setA (cL cV) (rawS db q):=by
  unfold solveS;rw[he,if_pos rfl];rfl
 rw[he,hss];have hwf:=hw.freeze
 clear hw;obtain⟨Γ2,hle2,hrT,hw⟩:=hwf;have hq2:=hq1.mono hle2
 have hS:SOk Γ2 (.slice sa sn sc) (.slice ga gn gc) (.slice ta tn tc) gs ts db q:=⟨hq2,hok,hrT,by omega,fun t ht=>(hrl t ht).mono hle2,heq,fun x _ _=>tabS_ar⟩
 have hraw:(rawS db q).length≤1000000:=by
  refine Nat.le_trans (srch_len (fun e=>finS_len e) (goalsT db q) (fun gt hg h4=>?_) []) ?_
  ·obtain⟨g,hgm,rfl⟩:=List.mem_map.1 hg
   exact hRl g hgm h4
  ·rw[←workN_prod];exact hwk
 have hw:Wd Γ2 (.blk b7 (solC (.slice sa sn sc) (.slice ga gn gc) (.slice ta tn tc) (.slice none 0 0) bm)::(rowsX (.slice none 0 0) []++(envR bm []::.blk b3 (.cells #[.slice sa sn sc,.slice ga gn gc] 50)::S))) w:=by
  have h1:=Wd.addNil (a:=none) (E:=54) (sz:=1) hw
  rw[show rowsX (.slice none 0 0) []=[.own (.slice none 0 0) 54 1 []] from rfl]
  exact h1.perm byPM
 have hw:=SV_close (rs:=[]) (L:=[]) rfl hw
 repeat first|refine byW ?_|refine byV ?_;intro w hw
 refine lCall (vs:=[.pointer (some ⟨b7,0,none⟩),.int .i64 ((0:Nat):Int)]) ((search_any hS hR gs.length 0 (by omega) (.blk b3 (.cells #[.slice sa sn sc,.slice ga gn gc] 50)::S) [] [] w EnvOk.nil (by rw[List.drop_zero];show 0+(rawS db q).length≤1000000;omega) hw).mono fun r w hq3=>?_)
 clear hw;obtain⟨rfl,hw⟩:=hq3;refine⟨_,rfl,?_⟩;rw[List.drop_zero,List.nil_append]at hw;have hw:Wd Γ2 (SV b7 bm (.slice sa sn sc) (.slice ga gn gc) (.slice ta tn tc) (rawS db q)::envR bm []::.blk b3 (.cells #[.slice sa sn sc,.slice ga gn gc] 50)::S) w:=hw
 obtain⟨vr,L,hL,hw⟩:=SV_open hw
 obtain⟨M,hM1,hM2,hM3⟩:=zip_rows hL
 have hML:M.length=(rawS db q).length:=by rw[←hM2];unfold rowsOf;rw[List.length_map]
 have hw1:Wd Γ2 (inn 41 3 L++(.own vr 54 1 (M.map cR)::.blk b7 (solC (.slice sa sn sc) (.slice ga gn gc) (.slice ta tn tc) vr bm)::envR bm []::.blk b3 (.cells #[.slice sa sn sc,.slice ga gn gc] 50)::S)) w:=by
  rw[hM1];have h1:Wd Γ2 (.blk b7 (solC (.slice sa sn sc) (.slice ga gn gc) (.slice ta tn tc) vr bm)::((.own vr 54 1 (L.map fun x=>[x.1])::inn 41 3 L)++(envR bm []::.blk b3 (.cells #[.slice sa sn sc,.slice ga gn gc] 50)::S))) w:=hw
  exact h1.perm byPM
 clear hw;obtain⟨Γ3,hle3,hfr,hw⟩:=freeze_list (f:=fun x:Value×List (List Value)=>x.1) (g:=fun x=>x.2) (e:=41) (sz:=3) L hw1
 clear hw1;have hRok:∀p∈M,ROk Γ3 p:=fun p hp=>by
  obtain⟨x,hx,e1,e2⟩:=hM3 p hp
  have:=hfr x hx
  unfold ROk;rw[←e1,←e2];exact this
 obtain⟨ra,rn,rc,rfl,-,-,-⟩:=hw.own_shape (i:=0) rfl
 have hw:Wd Γ3 (.own (.slice ra rn rc) 54 1 (M.map cR)::.blk b7 (solC (.slice sa sn sc) (.slice ga gn gc) (.slice ta tn tc) (.slice ra rn rc) bm)::envR bm []::.blk b3 (.cells #[.slice sa sn sc,.slice ga gn gc] 50)::S) w:=hw
 repeat first|refine byW ?_|refine byV ?_;intro w hw
 refine lCall (vs:=[.slice ra rn rc,.func (.func 37) #[] #[]]) ((sort_rows M (.slice ra rn rc) hRok (by omega) hw).mono fun r w hq3=>?_)
 clear hw;obtain⟨rfl,G,hp,hs,hw⟩:=hq3;refine⟨_,rfl,?_⟩;have hGok:∀p∈G,ROk Γ3 p:=fun p h=>hRok p (hp.mem_iff.1 h)
 have hGl:G.length≤1000000:=by rw[hp.length_eq];omega
 repeat first|refine byW ?_|refine byV ?_;intro w hw
 refine lCall (vs:=[.slice ra rn rc,.func (.func 38) #[] #[]]) ((CompactR_any G hGok hGl hw).mono fun r w hq3=>?_)
 clear hw;obtain⟨v',rfl,hw⟩:=hq3;refine⟨_,rfl,?_⟩;have hwf:=hw.freeze
 clear hw;obtain⟨Γ4,hle4,hrr,hw⟩:=hwf;obtain⟨a4,n4,c4,rfl,-,-,-⟩:=hrr.shape;repeat first|refine byW ?_|refine byV ?_;intro w hw
 refine⟨_,rfl,Γ4,.slice a4 n4 c4,cmpct eqR G,hle1.trans (hle2.trans (hle3.trans hle4)),rfl,⟨hrr,fun p hp2=>RepS.mono (hGok p (cmpct_mem_of hp2)) hle4⟩,?_,hw.ds [0,0,0]⟩
 have hset:=cmpct_set cV_ord.list (fun p:RowT=>p.2) hp (hs.imp fun {a b} h e=>by
  have h2:ltOf (cL cV) b.2 a.2=true:=cV_ord.list.lt_iff.2 e
  have h:ltOf (cL cV) b.2 a.2=false:=h
  rw[h2]at h;cases h)
 unfold rowsOf;have e2:M.map (·.2)=rawS db q:=hM2
 rw[←e2];exact hset
end Go.Proofs.YtfoggcgogafocaaGreat
end
section
open Go Mk
namespace Go.Proofs.YtfoggcgogafocaaGreat
set_option maxHeartbeats 16000000
attribute [local irreducible] Calls cI cB
section
variable {Γ:Gho}{S:List Res}{w:World}
end
end Go.Proofs.YtfoggcgogafocaaGreat
end
section
open Go Mk
namespace Go.Proofs.YtfoggcgogafocaaGreat
set_option maxHeartbeats 16000000
attribute [local irreducible] Calls cI cB
end Go.Proofs.YtfoggcgogafocaaGreat
end
section
open Go Mk
namespace Go.Proofs.YtfoggcgogafocaaGreat
set_option maxHeartbeats 16000000
attribute [local irreducible] Calls cI cB
end Go.Proofs.YtfoggcgogafocaaGreat
end
section
open Go Mk
namespace Go.Proofs.YtfoggcgogafocaaGreat
set_option maxHeartbeats 16000000
attribute [local irreducible] Calls cI cB
end Go.Proofs.YtfoggcgogafocaaGreat
end
section
open Go Mk
namespace Go.Proofs.YtfoggcgogafocaaGreat
set_option maxHeartbeats 16000000
attribute [local irreducible] Calls cI cB
end Go.Proofs.YtfoggcgogafocaaGreat
end
section
open Go Mk
namespace Go.Proofs.YtfoggcgogafocaaGreat
set_option maxHeartbeats 16000000
attribute [local irreducible] Calls cI cB
def tokQ(toks:List Tok)(k:Nat):Tok:=toks.getD k default
def isQ(toks:List Tok)(k:Nat)(kind:Int)(text:ByteArray):Bool:=decide ((tokQ toks k).Kind=kind)&&decide ((tokQ toks k).Text=text)
def parQ(bp:Nat)(a:Option Addr)(n c at':Nat)(e1 e2:Int):Res:=.blk bp (.cells #[.slice a n c,.int .i64 at',.int .i64 e1,.int .i64 e2] 139)
section
variable {Γ:Gho}{S:List Res}{w:World}{bp:Nat}{a:Option Addr}{n c at':Nat}{e1 e2:Int}{toks:List Tok}
theorem Token_q(j:Nat)(hj:j≤1)(hat:at'≤n)(hN:toks.length≤1000000)(ht:RepS Γ (.slice a n c) 5 (toks.map enc))(hw:Wd Γ (parQ bp a n c at' e1 e2::S) w) :
  Calls Tryz.prog 186 #[.pointer (some ⟨bp,0,none⟩),.int .i64 j] w fun r w'=>r=.returned (.agg (enc (tokQ toks (at'+j))).toArray)∧Wd Γ (parQ bp a n c at' e1 e2::S) w':=by
 have hn:n=toks.length∧n≤c∧c≤9223372036854775807:=by obtain⟨_,_,_,h1,h2,h3⟩:=ht.shape;cases h1;exact⟨by simpa using h2,h3⟩
 obtain⟨hn,hnc,hc⟩:=hn;unfold parQ at *
 refine calls_of_WC Tryz.func186 rfl rfl ?_
 repeat first|refine byW ?_|refine byV ?_;intro w hw
 refine lAlloc ?_;intro b4 w hw;have hw:Wd Γ (.blk b4 (.cells (enc (default:Tok)).toArray 178)::.blk bp (.cells #[.slice a n c,.int .i64 at',.int .i64 e1,.int .i64 e2] 139)::S) w:=hw
 repeat first|refine byW ?_|refine byV ?_;intro w hw
 refine W_quiet (by kernel_rfl) (by kernel_rfl) hw ?_
 refine byQ ?_;intro w hw;refine W_cond rfl (fun h=>?_) (fun h=>?_)
 ·have h:at'+j<n:=by have:=of_decide_eq_true h;omega
  obtain⟨t,htk⟩:=get_lt (l:=toks) (k:=at'+j) (by omega)
  have hT:tokQ toks (at'+j)=t:=by unfold tokQ;rw[List.getD_eq_getElem?_getD,htk];rfl
  rw[hT];repeat first|refine byW ?_|refine byV ?_;intro w hw
  refine W_mixC [.blk bp (.cells #[.slice a n c,.int .i64 at',.int .i64 e1,.int .i64 e2] 139)] (.blk b4 (.cells (enc (default:Tok)).toArray 178)::S) [] [[],[],[],[],[],[],[],[],[],[],[],[],[0]] (hw.ps [1]) ?_
  refine byM ?_;refine mStepX (φ:=fun (_:Unit) _=>True) (R:=fun _=>.blk b4 (.cells (enc (default:Tok)).toArray 178)::S) (v:=undef) (T':=Unit) (fun _ _=>True) (fun _=>.blk b4 (.cells (enc t).toArray 178)::S) (fun t' g w Y _ hw=>s_store (i:=0) (inferInstance:TSz Tryz.prog 178 5).h hw rfl rfl rfl rfl (fun u hu=>(List.all_eq_true.1 (enc_one t)) u hu) rfl (Nat.le_refl 5) fun w' hw'=>⟨(),trivial,(fun _=>rfl),hw'⟩) ?_
  refine mEndX fun t' w g _ hw=>?_
  have hw:Wd Γ (.blk b4 (.cells (enc t).toArray 178)::.blk bp (.cells #[.slice a n c,.int .i64 at',.int .i64 e1,.int .i64 e2] 139)::S) w:=hw.flip.ps [1]
  repeat first|refine byW ?_|refine byV ?_;intro w hw
  exact⟨[.agg (enc t).toArray],⟨resC (i:=0) hw rfl rfl rfl,trivial⟩,rfl,hw.drop⟩
 ·have h:¬at'+j<n:=by have:=of_decide_eq_false h;omega
  have hT:tokQ toks (at'+j)=default:=by unfold tokQ;rw[List.getD_eq_getElem?_getD,List.getElem?_eq_none (by omega)];rfl
  rw[hT];repeat first|refine byW ?_|refine byV ?_;intro w hw
  refine lStore ?_;intro w hw;have hw:Wd Γ (.blk b4 (.cells (enc (default:Tok)).toArray 178)::.blk bp (.cells #[.slice a n c,.int .i64 at',.int .i64 e1,.int .i64 e2] 139)::S) w:=hw
  repeat first|refine byW ?_|refine byV ?_;intro w hw
  exact⟨[.agg (enc (default:Tok)).toArray],⟨resC (i:=0) hw rfl rfl rfl,trivial⟩,rfl,hw.drop⟩
theorem Is_q(j:Nat)(hj:j≤1)(kind:Int)(text:ByteArray)(hat:at'≤n)(hN:toks.length≤1000000)(ht:RepS Γ (.slice a n c) 5 (toks.map enc))(hw:Wd Γ (parQ bp a n c at' e1 e2::S) w) :
  Calls Tryz.prog 107 #[.pointer (some ⟨bp,0,none⟩),.int .i64 j,.int .i64 kind,.string text] w fun r w'=>r=.returned (.bool (isQ toks (at'+j) kind text))∧Wd Γ (parQ bp a n c at' e1 e2::S) w':=by
 refine calls_of_W Tryz.func107 rfl rfl ?_
 repeat first|refine byW ?_|refine byV ?_;intro w hw
 refine lCall (vs:=[.pointer (some ⟨bp,0,none⟩),.int .i64 j]) ?_
 refine(Token_q j hj hat hN ht hw).mono ?_
 clear hw;rintro r w ⟨rfl,hw⟩
 refine⟨_,rfl,?_⟩;repeat first|refine byW ?_|refine byV ?_;intro w hw
 refine lAlloc ?_;intro b9 w hw;refine lStore ?_;intro w hw;have hw:Wd Γ (.blk b9 (.cells (enc (tokQ toks (at'+j))).toArray 178)::parQ bp a n c at' e1 e2::S) w:=hw
 repeat first|refine byW ?_|refine byV ?_;intro w hw
 exact⟨_,rfl,ret_b rfl rfl,hw.drop⟩
theorem Accept_q(kind:Int)(text:ByteArray)(hat:at'≤n)(hN:toks.length≤1000000)(ht:RepS Γ (.slice a n c) 5 (toks.map enc))(hw:Wd Γ (parQ bp a n c at' e1 e2::S) w) :
  Calls Tryz.prog 109 #[.pointer (some ⟨bp,0,none⟩),.int .i64 kind,.string text] w fun r w'=>r=.returned (.bool (isQ toks at' kind text))∧Wd Γ (parQ bp a n c (if isQ toks at' kind text=true then at'+1 else at') e1 e2::S) w':=by
 have hn:n=toks.length:=by obtain⟨_,_,_,h1,h2,h3⟩:=ht.shape;cases h1;simpa using h2
 refine calls_of_W Tryz.func109 rfl rfl ?_
 repeat first|refine byW ?_|refine byV ?_;intro w hw
 refine lCall (vs:=[.pointer (some ⟨bp,0,none⟩),.int .i64 0,.int .i64 kind,.string text]) ?_
 refine(Is_q (j:=0) (by decide) kind text hat hN ht hw).mono ?_
 clear hw;rintro r w ⟨rfl,hw⟩
 rw[Nat.add_zero];refine⟨_,rfl,?_⟩;unfold parQ at *
 repeat first|refine byW ?_|refine byV ?_;intro w hw
 refine W_cutT (fun ρ w=>Has ρ [(7,.bool (isQ toks at' kind text))]∧Wd Γ (parQ bp a n c (if isQ toks at' kind text=true then at'+1 else at') e1 e2::S) w) ?_ ?_
 ·refine W_cond rfl (fun h=>?_) (fun h=>?_)
  ·rw[if_pos h];repeat first|refine byW ?_|refine byV ?_;intro w hw
   refine lStore (i:=0) ?_
   intro w hw;have hw:Wd Γ (parQ bp a n c (at'+1) e1 e2::S) w:=hw
   repeat first|refine byW ?_|refine byV ?_;intro w hw
   exact⟨⟨rfl,trivial⟩,hw⟩
  ·rw[if_neg (by rw[h];decide)]
   repeat first|refine byW ?_|refine byV ?_;intro w hw
   exact⟨⟨rfl,trivial⟩,hw⟩
 clear hw;rintro ρ w ⟨hρ,hw⟩
 rw[hρ.eq];repeat first|refine byW ?_|refine byV ?_;intro w hw
 exact⟨_,rfl,ret_b rfl rfl,hw⟩
theorem Expect_q(kind:Int)(text:ByteArray)(hi:isQ toks at' kind text=true)(hat:at'≤n)(hN:toks.length≤1000000)(ht:RepS Γ (.slice a n c) 5 (toks.map enc))(hw:Wd Γ (parQ bp a n c at' e1 e2::S) w) :
  Calls Tryz.prog 106 #[.pointer (some ⟨bp,0,none⟩),.int .i64 kind,.string text] w fun r w'=>r=.returned (.tuple #[])∧Wd Γ (parQ bp a n c (at'+1) e1 e2::S) w':=by
 refine calls_of_W Tryz.func106 rfl rfl ?_
 repeat first|refine byW ?_|refine byV ?_;intro w hw
 refine lCall (vs:=[.pointer (some ⟨bp,0,none⟩),.int .i64 kind,.string text]) ?_
 refine(Accept_q kind text hat hN ht hw).mono ?_
 clear hw;rintro r w ⟨rfl,hw⟩
 rw[if_pos hi]at hw;rw[hi];refine⟨_,rfl,?_⟩;repeat first|refine byW ?_|refine byV ?_;intro w hw
 refine W_cond rfl (fun h=>by cases h) (fun h=>?_)
 repeat first|refine byW ?_|refine byV ?_;intro w hw
 exact⟨_,rfl,rfl,hw⟩
theorem Word_q(hk:(tokQ toks at').Kind=1)(hr:kwS (tokQ toks at').Text=false)(hs:(tokQ toks at').Text.size≤24)(hat:at'≤n)(hN:toks.length≤1000000)(ht:RepS Γ (.slice a n c) 5 (toks.map enc))(hw:Wd Γ (parQ bp a n c at' e1 e2::S) w) :
  Calls Tryz.prog 108 #[.pointer (some ⟨bp,0,none⟩)] w fun r w'=>r=.returned (.string (tokQ toks at').Text)∧Wd Γ (parQ bp a n c (at'+1) e1 e2::S) w':=by
 have hn:n=toks.length:=by obtain⟨_,_,_,h1,h2,h3⟩:=ht.shape;cases h1;simpa using h2
 refine calls_of_W Tryz.func108 rfl rfl ?_
 repeat first|refine byW ?_|refine byV ?_;intro w hw
 refine lCall (vs:=[.pointer (some ⟨bp,0,none⟩),.int .i64 0]) ?_
 refine(Token_q (j:=0) (by decide) hat hN ht hw).mono ?_
 clear hw;rintro r w ⟨rfl,hw⟩
 rw[Nat.add_zero];refine⟨_,rfl,?_⟩;generalize tokQ toks at'=t at *
 repeat first|refine byW ?_|refine byV ?_;intro w hw
 refine lAlloc ?_;intro b3 w hw;refine lStore ?_;intro w hw;have hw:Wd Γ (.blk b3 (.cells (enc t).toArray 178)::.blk bp (.cells #[.slice a n c,.int .i64 at',.int .i64 e1,.int .i64 e2] 139)::S) w:=hw
 repeat first|refine byW ?_|refine byV ?_;intro w hw
 refine W_cond rfl (fun h=>?_) (fun h=>?_)
 ·rw[hk,hr]at h;cases h
 clear h;repeat first|refine byW ?_|refine byV ?_;intro w hw
 refine W_cond rfl (fun h=>?_) (fun h=>?_)
 ·have:=of_decide_eq_true h;omega
 clear h;repeat first|refine byW ?_|refine byV ?_;intro w hw
 refine lStore (i:=1) ?_
 intro w hw;have hw:Wd Γ (.blk b3 (.cells (enc t).toArray 178)::parQ bp a n c (at'+1) e1 e2::S) w:=hw
 repeat first|refine byW ?_|refine byV ?_;intro w hw
 exact⟨_,rfl,rfl,hw.drop⟩
structure VarQ(t:Tok):Prop where
 kind:t.Kind=1
 kw:kwS t.Text=false
 size:t.Text.size≤24
 pos:0<t.Text.size
 var:(decide (t.Text=⟨#[95]⟩)||(decide (65≤byteAt t.Text 0)&&decide (byteAt t.Text 0≤90)))=true
theorem Operand_q(hv:VarQ (tokQ toks at'))(hat:at'≤n)(hN:toks.length≤1000000)(ht:RepS Γ (.slice a n c) 5 (toks.map enc))(hw:Wd Γ (parQ bp a n c at' e1 e2::S) w) :
  Calls Tryz.prog 187 #[.pointer (some ⟨bp,0,none⟩)] w fun r w'=>r=.returned (.agg (enc (⟨(tokQ toks at').Text,zVal⟩:Opd)).toArray)∧Wd Γ (parQ bp a n c (at'+1) e1 e2::S) w':=by
 have hn:n=toks.length:=by obtain⟨_,_,_,h1,h2,h3⟩:=ht.shape;cases h1;simpa using h2
 refine calls_of_WC Tryz.func187 rfl rfl ?_
 repeat first|refine byW ?_|refine byV ?_;intro w hw
 refine lAlloc ?_;intro b2 w hw;have hw:Wd Γ (parQ bp a n c at' e1 e2::.blk b2 (.cells (enc (⟨noS,zVal⟩:Opd)).toArray 43)::S) w:=hw.ps [1]
 repeat first|refine byW ?_|refine byV ?_;intro w hw
 refine lCall (vs:=[.pointer (some ⟨bp,0,none⟩),.int .i64 0]) ?_
 refine(Token_q (j:=0) (by decide) hat hN ht hw).mono ?_
 clear hw;rintro r w ⟨rfl,hw⟩
 rw[Nat.add_zero];refine⟨_,rfl,?_⟩;have hWQ:=fun (S:List Res) (w:World) hw=>Word_q (S:=S) (w:=w) (e1:=e1) (e2:=e2) (bp:=bp) hv.kind hv.kw hv.size hat hN ht hw
 generalize tokQ toks at'=t at *
 repeat first|refine byW ?_|refine byV ?_;intro w hw
 refine lAlloc ?_;intro b3 w hw;refine lStore ?_;intro w hw;have hw:Wd Γ (parQ bp a n c at' e1 e2::.blk b2 (.cells (enc (⟨noS,zVal⟩:Opd)).toArray 43)::.blk b3 (.cells (enc t).toArray 178)::S) w:=hw.ps [2,2]
 repeat first|refine byW ?_|refine byV ?_;intro w hw
 refine W_cond rfl (fun _=>?_) (fun h=>absurd hv.kind (of_decide_eq_false h))
 repeat first|refine byW ?_|refine byV ?_;intro w hw
 refine lCall (vs:=[.pointer (some ⟨bp,0,none⟩)]) ?_
 refine(hWQ _ _ hw).mono ?_
 clear hw;rintro r w ⟨rfl,hw⟩
 refine⟨_,rfl,?_⟩;have hp0:=hv.pos
 repeat first|refine byW ?_|refine byV ?_;intro w hw
 refine W_cond rfl (fun h=>?_) (fun h=>?_)
 ·repeat first|refine byW ?_|refine byV ?_;intro w hw
  refine lStore (i:=1) ?_
  intro w hw;have hw:Wd Γ (.blk b2 (.cells (enc (⟨t.Text,zVal⟩:Opd)).toArray 43)::parQ bp a n c (at'+1) e1 e2::.blk b3 (.cells (enc t).toArray 178)::S) w:=hw.ps [1]
  repeat first|refine byW ?_|refine byV ?_;intro w hw
  exact⟨[.agg (enc (⟨t.Text,zVal⟩:Opd)).toArray],⟨resC (i:=0) hw rfl rfl rfl,trivial⟩,rfl,hw.drop.dropAt 1⟩
 ·exact absurd (hv.var.symm.trans h) (by decide)
end
end Go.Proofs.YtfoggcgogafocaaGreat
end
