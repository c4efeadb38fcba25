/- Texts of this proof, one behind another. -/
import Derived.Test.YtfoggcgogafocaaGreatM4
import Derived.Test.YtfoggcgogafocaaGreatM3
set_option linter.unusedVariables false
set_option linter.unusedSimpArgs false
section
open Go Mk
namespace Go.Proofs.YtfoggcgogafocaaGreat
set_option maxHeartbeats 16000000
attribute [local irreducible] Calls cI cB
section
variable {P:Program}{n:Nat}{ops:List Oper}{Γ:Gho}{K:List Res}{wr tc stab:List (List Nat)}{Q:Fr→World→Prop}{i:Nat}{rest:List Oper}{ρ:Fr}{M:Nat→Fr→List Res}
variable {T T':Type}{ty:TypeId}{pos:String}{es:Array Edge}
theorem mCallV{c dd f:Nat}{args:List Operand}{tys:Array TypeId}{vs:List Value}{φ:T→Fr→Prop}{R:T→List Res}[FnOk P f](val:T'→Value)(R':T'→List Res)
  (hcall:∀t S w,Wd Γ (R t++S) w→Calls P f vs.toArray w fun e w'=>∃t':T',e=.returned (val t')∧Wd Γ (R' t'++S) w')
  (h:MSw (mV P n ops Γ K wr tc stab) Q (i+1) rest ⟨putO ρ (some dd) undef,setC M c (exC (fun (t:T') g=>g dd=val t) R')⟩)
  (hw0:wr.getD i []=[c]:=by exact rfl) (ht:tc.getD i []=[c]:=by exact rfl) (hM:M c=exC φ R:=by first|exact setC_self|exact ml1|exact ml2|exact((setC_other (by decide)).trans setC_self)|exact((setC_other (by decide)).trans ml2)|exact rfl)
  (hs:(stab.getD c []).contains dd=true:=by exact rfl) (hfr:freeD stab (some dd)=true:=by exact rfl) (ha:∀g,EvL (ovr stab.flatten g ρ) args vs:=by intro g;exact byEV) :
  MSw (mV P n ops Γ K wr tc stab) Q i (⟨some dd,.call { callee:=.value (.func f),args:=args.toArray,argTypes:=tys },ty,pos,es,none⟩::rest) ⟨ρ,M⟩:=
 mS (v:=undef) (exC (fun (t:T') g=>g dd=val t) R') (fun g w Y hw=>by
  obtain⟨t,-,hw⟩:=exC_open hw
  refine s_call (ha g).eqA ((hcall t _ _ hw).mono ?_)
  rintro e w' ⟨t',rfl,hw'⟩
  refine⟨_,rfl,fun hh=>(by rw[hfr]at hh;cases hh),exC_mk t' ?_ hw'⟩
  rw[ovr_in (by simpa using hs)];exact upd_same _ _ _) h hM hw0 ht rfl
end
theorem y_fieldV{P:Program}{d:Option Tmp}{T f:Nat}{x:Operand}{ty:TypeId}{pos:String}{es:Array Edge}{g:Option (Nat×Bool)}{ρ:Fr}{w:World}{cs:Array Value}{v:Value}{fs:Array Field}{fd:Field}(hu:P.underlying T=some (.struct fs))(hf:fs[f]? = some fd)(hs:scal P fd.type=true)(hc:cs[fd.offset]? = some v)(hx:ev ρ x=.agg cs) :
  Mk.Yields P ⟨d,.field T x f,ty,pos,es,g⟩ ρ w v:=by
 unfold Mk.Yields;simp[execOp,go_sem,hx,Instr.field,run_underlying hu,hf,part,scal_isAgg hs,hc,asAgg]
theorem gv_on{c:Bool}{v:Value}(h:c=true):gv c v=v:=gvT h rfl
def commaQ:ByteArray:=⟨#[44]⟩
def lparQ:ByteArray:=⟨#[40]⟩
def rparQ:ByteArray:=⟨#[41]⟩
def notQ:ByteArray:=⟨#[110,111,116]⟩
def zOp:Opd:=⟨noS,zVal⟩
def relG(s:ByteArray)(os:List Opd):Goal:=⟨1,s,os,0,zOp,zOp,0,0,0⟩
def varsQ(toks:List Tok)(k m:Nat):List Opd:=(List.range m).map fun i=>⟨(tokQ toks (k+2*i)).Text,zVal⟩
theorem varsQ_succ{toks:List Tok}{k m:Nat}:varsQ toks k (m+1)=varsQ toks k m++[⟨(tokQ toks (k+2*m)).Text,zVal⟩]:=by
 unfold varsQ;rw[List.range_succ,List.map_append];rfl
theorem varsQ_rows{toks:List Tok}{p:Nat}(k:Nat):(varsQ toks p k).map enc++[enc (⟨(tokQ toks (p+2*k)).Text,zVal⟩:Opd)]=(varsQ toks p (k+1)).map enc:=by rw[varsQ_succ,List.map_append];rfl
structure RelQ(toks:List Tok)(k m:Nat):Prop where
 kind:(tokQ toks k).Kind=1
 kw:kwS (tokQ toks k).Text=false
 size:(tokQ toks k).Text.size≤24
 lpar:isQ toks (k+1) 4 lparQ=true
 one:1≤m
 many:m≤1000
 vars:∀i,i<m→VarQ (tokQ toks (k+2+2*i))
 comma:∀i,i+1<m→isQ toks (k+3+2*i) 4 commaQ=true
 last:isQ toks (k+1+2*m) 4 commaQ=false
 rpar:isQ toks (k+1+2*m) 4 rparQ=true
section
variable {Γ:Gho}{S:List Res}{w:World}{bp:Nat}{a:Option Addr}{n c at':Nat}{e1 e2:Int}{toks:List Tok}
theorem Goal_q{m:Nat}(hr:RelQ toks at' m)(hat:at'+2*m+2≤n)(hN:toks.length≤1000000)(ht:RepS Γ (.slice a n c) 5 (toks.map enc))(hw:Wd Γ (parQ bp a n c at' e1 e2::S) w) :
  Calls Tryz.prog 110 #[.pointer (some ⟨bp,0,none⟩)] w fun r w'=>∃v:SlT,r=.returned (.agg (cG ⟨relG (tokQ toks at').Text (varsQ toks (at'+2) m),v.1,v.2.1,v.2.2⟩).toArray)∧Wd Γ (.own (slV v) 43 4 ((varsQ toks (at'+2) m).map enc)::parQ bp a n c (at'+2*m+2) e1 e2::S) w':=by
 have hn:n=toks.length:=by obtain⟨_,_,_,h1,h2,h3⟩:=ht.shape;cases h1;simpa using h2
 have hnot:isQ toks at' 1 notQ=false:=by
  unfold isQ;rw[Bool.and_eq_false_iff];refine Or.inr (decide_eq_false fun e=>?_)
  have:=hr.kw
  rw[e]at this;exact absurd this (by decide)
 refine calls_of_WC Tryz.func110 rfl rfl ?_
 repeat first|refine byW ?_|refine byV ?_;intro w hw
 refine lAlloc ?_;intro b2 w hw;repeat first|refine byW ?_|refine byV ?_;intro w hw
 refine lAlloc ?_;intro b3 w hw;refine lStore ?_;intro w hw;have hw:Wd Γ (parQ bp a n c at' e1 e2::.blk b3 (.cells (cG ⟨relG noS [],none,0,0⟩).toArray 47)::.blk b2 (.cells (cG ⟨⟨0,noS,[],0,zOp,zOp,0,0,0⟩,none,0,0⟩).toArray 47)::S) w:=hw.ps [2]
 repeat first|refine byW ?_|refine byV ?_;intro w hw
 refine lCall (vs:=[.pointer (some ⟨bp,0,none⟩),.int .i64 1,.string notQ]) ?_
 refine(Accept_q 1 notQ (by omega) hN ht hw).mono ?_
 clear hw;rintro r w ⟨rfl,hw⟩
 rw[hnot]at hw ⊢
 have hw:Wd Γ (parQ bp a n c at' e1 e2::.blk b3 (.cells (cG ⟨relG noS [],none,0,0⟩).toArray 47)::.blk b2 (.cells (cG ⟨⟨0,noS,[],0,zOp,zOp,0,0,0⟩,none,0,0⟩).toArray 47)::S) w:=hw
 refine⟨_,rfl,?_⟩;repeat first|refine byW ?_|refine byV ?_;intro w hw
 refine W_cond rfl (fun h=>by cases h) (fun _=>?_)
 repeat first|refine byW ?_|refine byV ?_;intro w hw
 refine lGT (hct:=by decide) ?_
 refine lCall (vs:=[.pointer (some ⟨bp,0,none⟩),.int .i64 0]) ?_ (ha:=EvL.cons (gv_on (by decide)) (EvL.cons rfl EvL.nil))
 refine(Token_q (j:=0) (by decide) (by omega) hN ht hw).mono ?_
 clear hw;rintro r w ⟨rfl,hw⟩
 rw[Nat.add_zero];refine⟨_,rfl,?_⟩;repeat first|refine byW ?_|refine byV ?_;intro w hw
 refine lG ?_ (hv:=by intro hc;exact y_fieldV Tryz.underlying178 rfl (by kernel_rfl) rfl rfl)
 repeat first|refine byW ?_|refine byV ?_;intro w hw
 have hkc:(!decide ((1:Int)=2)&&decide ((tokQ toks at').Kind=1))=true:=by rw[decide_eq_true hr.kind];decide
 refine lGT (hct:=hkc) ?_
 refine lCall (vs:=[.pointer (some ⟨bp,0,none⟩),.int .i64 1,.int .i64 4,.string lparQ]) ?_ (ha:=EvL.cons (gv_on hkc) (EvL.cons rfl (EvL.cons rfl (EvL.cons rfl EvL.nil))))
 refine(Is_q (j:=1) (by decide) 4 lparQ (by omega) hN ht hw).mono ?_
 clear hw;rintro r w ⟨rfl,hw⟩
 rw[hr.lpar];refine⟨_,rfl,?_⟩;repeat first|refine byW ?_|refine byV ?_;intro w hw
 refine lGT (hct:=by decide) ?_
 refine lY (v:=.bool true) ?_ (hy:=y_pickT ((gv_on (by decide)).trans (by rw[decide_eq_true hr.kind])) rfl)
 refine lY (v:=.bool true) ?_ (hy:=y_pickF (congrArg Value.bool (by decide)) rfl)
 repeat first|refine byW ?_|refine byV ?_;intro w hw
 refine W_cond rfl (fun _=>?_) (fun h=>by cases h)
 repeat first|refine byW ?_|refine byV ?_;intro w hw
 refine lCall (vs:=[.pointer (some ⟨bp,0,none⟩)]) ?_
 refine(Word_q hr.kind hr.kw hr.size (by omega) hN ht hw).mono ?_
 clear hw;rintro r w ⟨rfl,hw⟩
 refine⟨_,rfl,?_⟩;have hops:=hr.vars
 generalize (tokQ toks at').Text=nm at *
 repeat first|refine byW ?_|refine byV ?_;intro w hw
 refine lStore (i:=1) ?_
 intro w hw;have hw:Wd Γ (parQ bp a n c (at'+1) e1 e2::.blk b3 (.cells (cG ⟨relG nm [],none,0,0⟩).toArray 47)::.blk b2 (.cells (cG ⟨⟨0,noS,[],0,zOp,zOp,0,0,0⟩,none,0,0⟩).toArray 47)::S) w:=hw
 repeat first|refine byW ?_|refine byV ?_;intro w hw
 refine lCall (vs:=[.pointer (some ⟨bp,0,none⟩),.int .i64 4,.string lparQ]) ?_
 refine(Expect_q 4 lparQ hr.lpar (by omega) hN ht hw).mono ?_
 clear hw;rintro r w ⟨rfl,hw⟩
 refine⟨_,rfl,?_⟩;repeat first|refine byW ?_|refine byV ?_;intro w hw
 have hw:=Wd.addNil (a:=none) (E:=43) (sz:=4) hw
 have hw:Wd Γ (.own (.slice none 0 0) 43 4 ((varsQ toks (at'+2) 0).map enc)::parQ bp a n c (at'+2+2*0) e1 e2::.blk b3 (.cells (cG ⟨relG nm (varsQ toks (at'+2) 0),none,0,0⟩).toArray 47)::.blk b2 (.cells (cG ⟨⟨0,noS,[],0,zOp,zOp,0,0,0⟩,none,0,0⟩).toArray 47)::S) w:=hw
 have hm1:=hr.one
 have hop:VarQ (tokQ toks (at'+2+2*0)):=hr.vars 0 (by omega)
 refine W_mixD [.blk b2 (.cells (cG ⟨⟨0,noS,[],0,zOp,zOp,0,0,0⟩,none,0,0⟩).toArray 47)] [.blk b3 (.cells (cG ⟨relG nm (varsQ toks (at'+2) 0),none,0,0⟩).toArray 47)] (.own (.slice none 0 0) 43 4 ((varsQ toks (at'+2) 0).map enc)::parQ bp a n c (at'+2+2*0) e1 e2::S) [] [32,33,34] [] [[],[],[],[1],[1],[1],[],[0,1]] [[],[0],[],[1],[1],[1],[],[0,1]] (by rw[List.append_nil];exact hw.ps [2,3]) ?_
 repeat(first|refine mY ?_|refine mP ?_|refine mEndAt ?_|refine mEnd0 ?_|refine mEnd ?_)
 refine mCallV (c:=1) (T:=Unit) (T':=Unit) (vs:=[.pointer (some ⟨bp,0,none⟩)]) (fun _=>.agg (enc (⟨(tokQ toks (at'+2+2*0)).Text,zVal⟩:Opd)).toArray) (fun _=>parQ bp a n c (at'+2+2*0+1) e1 e2::.own (.slice none 0 0) 43 4 ((varsQ toks (at'+2) 0).map enc)::S) (R:=fun _=>.own (.slice none 0 0) 43 4 ((varsQ toks (at'+2) 0).map enc)::parQ bp a n c (at'+2+2*0) e1 e2::S) (fun _ Y w hw=>(Operand_q hop (by omega) hN ht (hw.ps [1]:Wd Γ (parQ bp a n c (at'+2+2*0) e1 e2::(.own (.slice none 0 0) 43 4 ((varsQ toks (at'+2) 0).map enc)::(S++Y))) w)).mono fun r w h=>⟨(),h.1,h.2⟩) ?_
 refine mBuildX (T:=Unit) (fun _=>[enc (⟨(tokQ toks (at'+2+2*0)).Text,zVal⟩:Opd)]) ?_ ?_
 rotate_left
 ·intro t g h;have h2:g 32=_:=h
  show fillL _ _ [(0,g 32)]=_
  rw[h2];rfl
 refine mAppX (T:=Unit×Addr) (j:=2) (j2:=0) (fun t=>some t.2) (fun _=>[enc (⟨(tokQ toks (at'+2+2*0)).Text,zVal⟩:Opd)]) ?_ ?_
 rotate_left
 ·intro t g h;exact h.2
 refine byM ?_;refine mJoinX (T:=(Unit×Addr)×Value) (j:=2) (val:=fun t=>t.2) ?_ ?_
 rotate_left
 ·intro t g h;exact h.2
 refine mEndD fun t w g h hw=>?_
 obtain⟨⟨⟨⟩,aB⟩,vv⟩:=t;have hw:Wd Γ (.blk b3 (.cells #[.int .i64 1,.string nm,vv,.int .i64 0,.string noS,.int .i64 0,.int .i64 0,.string noS,.string noS,.int .i64 0,.int .i64 0,.string noS,.int .i64 0,.int .i64 0,.int .i64 0] 47)::.own (.slice (some aB) 1 1) 43 4 [enc (⟨(tokQ toks (at'+2+2*0)).Text,zVal⟩:Opd)]::parQ bp a n c (at'+2+2*0+1) e1 e2::.own vv 43 4 (((varsQ toks (at'+2) 0).map enc)++[enc (⟨(tokQ toks (at'+2+2*0)).Text,zVal⟩:Opd)])::(S++[.blk b2 (.cells (cG ⟨⟨0,noS,[],0,zOp,zOp,0,0,0⟩,none,0,0⟩).toArray 47)])) w:=hw
 obtain⟨A2,N2,C2,rfl,hN2,hNC2,hC2⟩:=hw.own_shape (i:=3) rfl
 rw[show ((varsQ toks (at'+2) 0).map enc)++[enc (⟨(tokQ toks (at'+2+2*0)).Text,zVal⟩:Opd)]=(varsQ toks (at'+2) (0+1)).map enc from varsQ_rows _]at hw hN2
 have hw:Wd Γ (.blk b2 (.cells (cG ⟨⟨0,noS,[],0,zOp,zOp,0,0,0⟩,none,0,0⟩).toArray 47)::.blk b3 (.cells (cG ⟨relG nm (varsQ toks (at'+2) (0+1)),A2,N2,C2⟩).toArray 47)::parQ bp a n c (at'+2+2*0+1) e1 e2::.own (.slice A2 N2 C2) 43 4 ((varsQ toks (at'+2) (0+1)).map enc)::S) w:=(hw.dropAt 1).perm byPM
 have hw:Wd Γ (.own (.slice A2 N2 C2) 43 4 ((varsQ toks (at'+2) (0+1)).map enc)::parQ bp a n c (at'+2+2*0+1) e1 e2::.blk b3 (.cells (cG ⟨relG nm (varsQ toks (at'+2) (0+1)),A2,N2,C2⟩).toArray 47)::.blk b2 (.cells (cG ⟨⟨0,noS,[],0,zOp,zOp,0,0,0⟩,none,0,0⟩).toArray 47)::S) w:=hw.ps [1,2,3]
 have key:∀k,isQ toks (at'+2+2*k+1) 4 commaQ=decide (k+1<m)∨¬k<m:=fun k=>by
  by_cases h1:k+1<m
  ·refine Or.inl ?_
   rw[decide_eq_true h1];have:=hr.comma k h1
   rwa [show at'+3+2*k=at'+2+2*k+1 from by omega]at this
  ·by_cases h2:k<m
   ·refine Or.inl ?_
    rw[decide_eq_false h1];have:=hr.last
    rwa [show at'+1+2*m=at'+2+2*k+1 from by omega]at this
   ·exact Or.inr h2
 repeat first|refine byW ?_|refine byV ?_;intro w hw
 refine W_loop (fun μ ρ w=>∃(k:Nat) (A:Option Addr) (N C:Nat),μ+k=m∧k<m∧Has ρ [(0,.pointer (some ⟨bp,0,none⟩)),(2,.pointer (some ⟨b2,0,none⟩)),(3,.pointer (some ⟨b3,0,none⟩))]∧Wd Γ (.own (.slice A N C) 43 4 ((varsQ toks (at'+2) (k+1)).map enc)::parQ bp a n c (at'+2+2*k+1) e1 e2::.blk b3 (.cells (cG ⟨relG nm (varsQ toks (at'+2) (k+1)),A,N,C⟩).toArray 47)::.blk b2 (.cells (cG ⟨⟨0,noS,[],0,zOp,zOp,0,0,0⟩,none,0,0⟩).toArray 47)::S) w) m ⟨0,A2,N2,C2,by omega,by omega,⟨rfl,rfl,rfl,trivial⟩,hw⟩ ?_
 clear hw;rintro μ ρ w ⟨k,A,N,C,hk,hkm,hρ,hw⟩
 rw[hρ.eq];clear hρ;obtain⟨A',N',C',hE,hNl,hNC,hC⟩:=hw.own_shape (i:=0) rfl
 cases hE
 have hlk:(varsQ toks (at'+2) (k+1)).length=k+1:=by unfold varsQ;simp
 simp only[List.length_map,hlk]at hNl
 have hmm:=hr.many
 repeat first|refine byW ?_|refine byV ?_;intro w hw
 refine lCall (vs:=[.pointer (some ⟨bp,0,none⟩),.int .i64 4,.string commaQ]) ?_
 refine(Accept_q 4 commaQ (by omega) hN ht (hw.ps [1])).mono ?_
 clear hw;rintro r w ⟨rfl,hw⟩
 rw[(key k).resolve_right (by omega)]at hw ⊢
 refine⟨_,rfl,?_⟩;repeat first|refine byW ?_|refine byV ?_;intro w hw
 refine W_cond rfl (fun h=>?_) (fun h=>?_)
 ·have h1:=of_decide_eq_true h
  rw[if_pos h]at hw;have hop:VarQ (tokQ toks (at'+2+2*(k+1))):=hr.vars (k+1) h1
  have hw:Wd Γ (.own (.slice A N C) 43 4 ((varsQ toks (at'+2) (k+1)).map enc)::parQ bp a n c (at'+2+2*(k+1)) e1 e2::.blk b3 (.cells (cG ⟨relG nm (varsQ toks (at'+2) (k+1)),A,N,C⟩).toArray 47)::.blk b2 (.cells (cG ⟨⟨0,noS,[],0,zOp,zOp,0,0,0⟩,none,0,0⟩).toArray 47)::S) w:=hw.ps [1]
  clear h;repeat first|refine byW ?_|refine byV ?_;intro w hw
  refine W_mixD [.blk b2 (.cells (cG ⟨⟨0,noS,[],0,zOp,zOp,0,0,0⟩,none,0,0⟩).toArray 47)] [.blk b3 (.cells (cG ⟨relG nm (varsQ toks (at'+2) (k+1)),A,N,C⟩).toArray 47)] (.own (.slice A N C) 43 4 ((varsQ toks (at'+2) (k+1)).map enc)::parQ bp a n c (at'+2+2*(k+1)) e1 e2::S) [] [41,42,43] [] [[],[],[],[1],[1],[1],[],[0,1]] [[],[0],[],[1],[1],[1],[],[0,1]] (by rw[List.append_nil];exact hw.ps [2,3]) ?_
  repeat(first|refine mY ?_|refine mP ?_|refine mEndAt ?_|refine mEnd0 ?_|refine mEnd ?_)
  refine mCallV (c:=1) (T:=Unit) (T':=Unit) (vs:=[.pointer (some ⟨bp,0,none⟩)]) (fun _=>.agg (enc (⟨(tokQ toks (at'+2+2*(k+1))).Text,zVal⟩:Opd)).toArray) (fun _=>parQ bp a n c (at'+2+2*(k+1)+1) e1 e2::.own (.slice A N C) 43 4 ((varsQ toks (at'+2) (k+1)).map enc)::S) (R:=fun _=>.own (.slice A N C) 43 4 ((varsQ toks (at'+2) (k+1)).map enc)::parQ bp a n c (at'+2+2*(k+1)) e1 e2::S) (fun _ Y w hw=>(Operand_q hop (by omega) hN ht (hw.ps [1]:Wd Γ (parQ bp a n c (at'+2+2*(k+1)) e1 e2::(.own (.slice A N C) 43 4 ((varsQ toks (at'+2) (k+1)).map enc)::(S++Y))) w)).mono fun r w h=>⟨(),h.1,h.2⟩) ?_
  refine mBuildX (T:=Unit) (fun _=>[enc (⟨(tokQ toks (at'+2+2*(k+1))).Text,zVal⟩:Opd)]) ?_ ?_
  rotate_left
  ·intro t g h;have h2:g 41=_:=h
   show fillL _ _ [(0,g 41)]=_
   rw[h2];rfl
  refine mAppX (T:=Unit×Addr) (j:=2) (j2:=0) (fun t=>some t.2) (fun _=>[enc (⟨(tokQ toks (at'+2+2*(k+1))).Text,zVal⟩:Opd)]) ?_ ?_
  rotate_left
  ·intro t g h;exact h.2
  refine byM ?_;refine mJoinX (T:=(Unit×Addr)×Value) (j:=2) (val:=fun t=>t.2) ?_ ?_
  rotate_left
  ·intro t g h;exact h.2
  refine mEndD fun t w g h hw=>?_
  obtain⟨⟨⟨⟩,aB⟩,vv⟩:=t;have hw:Wd Γ (.blk b3 (.cells #[.int .i64 1,.string nm,vv,.int .i64 0,.string noS,.int .i64 0,.int .i64 0,.string noS,.string noS,.int .i64 0,.int .i64 0,.string noS,.int .i64 0,.int .i64 0,.int .i64 0] 47)::.own (.slice (some aB) 1 1) 43 4 [enc (⟨(tokQ toks (at'+2+2*(k+1))).Text,zVal⟩:Opd)]::parQ bp a n c (at'+2+2*(k+1)+1) e1 e2::.own vv 43 4 (((varsQ toks (at'+2) (k+1)).map enc)++[enc (⟨(tokQ toks (at'+2+2*(k+1))).Text,zVal⟩:Opd)])::(S++[.blk b2 (.cells (cG ⟨⟨0,noS,[],0,zOp,zOp,0,0,0⟩,none,0,0⟩).toArray 47)])) w:=hw
  obtain⟨A2,N2,C2,rfl,hN2,hNC2,hC2⟩:=hw.own_shape (i:=3) rfl
  rw[show ((varsQ toks (at'+2) (k+1)).map enc)++[enc (⟨(tokQ toks (at'+2+2*(k+1))).Text,zVal⟩:Opd)]=(varsQ toks (at'+2) ((k+1)+1)).map enc from varsQ_rows _]at hw hN2
  have hw:Wd Γ (.blk b2 (.cells (cG ⟨⟨0,noS,[],0,zOp,zOp,0,0,0⟩,none,0,0⟩).toArray 47)::.blk b3 (.cells (cG ⟨relG nm (varsQ toks (at'+2) ((k+1)+1)),A2,N2,C2⟩).toArray 47)::parQ bp a n c (at'+2+2*(k+1)+1) e1 e2::.own (.slice A2 N2 C2) 43 4 ((varsQ toks (at'+2) ((k+1)+1)).map enc)::S) w:=(hw.dropAt 1).perm byPM
  have hw:Wd Γ (.own (.slice A2 N2 C2) 43 4 ((varsQ toks (at'+2) ((k+1)+1)).map enc)::parQ bp a n c (at'+2+2*(k+1)+1) e1 e2::.blk b3 (.cells (cG ⟨relG nm (varsQ toks (at'+2) ((k+1)+1)),A2,N2,C2⟩).toArray 47)::.blk b2 (.cells (cG ⟨⟨0,noS,[],0,zOp,zOp,0,0,0⟩,none,0,0⟩).toArray 47)::S) w:=hw.ps [1,2,3]
  repeat first|refine byW ?_|refine byV ?_;intro w hw
  exact⟨μ-1,by omega,k+1,A2,N2,C2,by omega,by omega,⟨rfl,rfl,rfl,trivial⟩,hw⟩
 ·have h1:=of_decide_eq_false h
  have hkm1:k+1=m:=by omega
  rw[if_neg (by rw[h];decide)]at hw
  subst hkm1;have hw:Wd Γ (parQ bp a n c (at'+1+2*(k+1)) e1 e2::.own (.slice A N C) 43 4 ((varsQ toks (at'+2) (k+1)).map enc)::.blk b3 (.cells (cG ⟨relG nm (varsQ toks (at'+2) (k+1)),A,N,C⟩).toArray 47)::.blk b2 (.cells (cG ⟨⟨0,noS,[],0,zOp,zOp,0,0,0⟩,none,0,0⟩).toArray 47)::S) w:=by
   rw[show at'+1+2*(k+1)=at'+2+2*k+1 from by omega];exact hw
  clear h;repeat first|refine byW ?_|refine byV ?_;intro w hw
  refine lCall (vs:=[.pointer (some ⟨bp,0,none⟩),.int .i64 4,.string rparQ]) ?_
  refine(Expect_q 4 rparQ hr.rpar (by omega) hN ht hw).mono ?_
  clear hw;rintro r w ⟨rfl,hw⟩
  refine⟨_,rfl,?_⟩;repeat first|refine byW ?_|refine byV ?_;intro w hw
  refine lStore (i:=3) ?_
  intro w hw;have hw:Wd Γ (.blk b2 (.cells (cG ⟨relG nm (varsQ toks (at'+2) (k+1)),A,N,C⟩).toArray 47)::.own (.slice A N C) 43 4 ((varsQ toks (at'+2) (k+1)).map enc)::parQ bp a n c (at'+1+2*(k+1)+1) e1 e2::.blk b3 (.cells (cG ⟨relG nm (varsQ toks (at'+2) (k+1)),A,N,C⟩).toArray 47)::S) w:=hw.ps [1,3]
  repeat first|refine byW ?_|refine byV ?_;intro w hw
  refine⟨[.agg (cG ⟨relG nm (varsQ toks (at'+2) (k+1)),A,N,C⟩).toArray],⟨resC (i:=0) hw rfl rfl rfl,trivial⟩,(A,N,C),rfl,?_⟩
  rw[show at'+2*(k+1)+2=at'+1+2*(k+1)+1 from by omega]
  exact hw.drop.dropAt 2
end
end Go.Proofs.YtfoggcgogafocaaGreat
end
section
open Go Mk
namespace Go.Proofs.YtfoggcgogafocaaGreat
set_option maxHeartbeats 16000000
attribute [local irreducible] Calls cI cB
def selQ:ByteArray:=⟨#[115,101,108,101,99,116]⟩
def whereQ:ByteArray:=⟨#[119,104,101,114,101]⟩
def goalsQ(toks:List Tok)(k:Nat):List Goal:=(List.range k).map fun i=>relG (tokQ toks (3+7*i)).Text (varsQ toks (3+7*i+2) 2)
theorem goalsQ_succ{toks:List Tok}{k:Nat}:goalsQ toks (k+1)=goalsQ toks k++[relG (tokQ toks (3+7*k)).Text (varsQ toks (3+7*k+2) 2)]:=by
 unfold goalsQ;rw[List.range_succ,List.map_append];rfl
structure TwoQ(toks:List Tok):Prop where
 len:toks.length=16
 sel:isQ toks 0 1 selQ=true
 now:isQ toks 1 1 whereQ=false
 kind:(tokQ toks 1).Kind=1
 kw:kwS (tokQ toks 1).Text=false
 size:(tokQ toks 1).Text.size≤24
 noc:isQ toks 2 4 commaQ=false
 whe:isQ toks 2 1 whereQ=true
 rels:∀i,i<2→RelQ toks (3+7*i) 2
 com:∀i,i<2→isQ toks (3+7*i+2*2+2) 4 commaQ=decide (i+1<2)
section
variable {Γ:Gho}{S:List Res}{w:World}{bp:Nat}{a:Option Addr}{n c:Nat}{e1 e2:Int}{toks:List Tok}
theorem Query_q(hr:TwoQ toks)(ht:RepS Γ (.slice a n c) 5 (toks.map enc))(hw:Wd Γ (parQ bp a n c 0 e1 e2::S) w) :
  Calls Tryz.prog 59 #[.pointer (some ⟨bp,0,none⟩)] w fun r w'=>∃Γ' vs vg gs,Γ.le Γ'∧r=.returned (.agg #[vs,vg])∧QR Γ' vs vg gs ⟨[(tokQ toks 1).Text],goalsQ toks 2⟩∧Wd Γ' S w':=by
 have hn:n=16∧n≤c∧c≤9223372036854775807:=by obtain⟨_,_,_,h1,h2,h3⟩:=ht.shape;cases h1;exact⟨by rw[h2,List.length_map,hr.len],h3⟩
 obtain⟨hn,hnc,hc⟩:=hn;have hN:toks.length≤1000000:=by rw[hr.len];decide
 refine calls_of_WC Tryz.func59 rfl rfl ?_
 repeat first|refine byW ?_|refine byV ?_;intro w hw
 refine lAlloc ?_;intro b2 w hw;repeat first|refine byW ?_|refine byV ?_;intro w hw
 refine lAlloc ?_;intro b3 w hw;have hw:Wd Γ (parQ bp a n c 0 e1 e2::.blk b3 (.cells #[.slice none 0 0,.slice none 0 0] 50)::.blk b2 (.cells #[.slice none 0 0,.slice none 0 0] 50)::S) w:=hw.ps [2]
 repeat first|refine byW ?_|refine byV ?_;intro w hw
 refine lCall (vs:=[.pointer (some ⟨bp,0,none⟩),.int .i64 1,.string selQ]) ?_
 refine(Expect_q 1 selQ hr.sel (by omega) hN ht hw).mono ?_
 clear hw;rintro r w ⟨rfl,hw⟩
 refine⟨_,rfl,?_⟩;repeat first|refine byW ?_|refine byV ?_;intro w hw
 refine lCall (vs:=[.pointer (some ⟨bp,0,none⟩),.int .i64 0,.int .i64 1,.string whereQ]) ?_
 refine(Is_q (j:=0) (by decide) 1 whereQ (by omega) hN ht hw).mono ?_
 clear hw;rintro r w ⟨rfl,hw⟩
 rw[show isQ toks (0+1+0) 1 whereQ=false from hr.now];refine⟨_,rfl,?_⟩;repeat first|refine byW ?_|refine byV ?_;intro w hw
 refine W_cond rfl (fun _=>?_) (fun h=>by cases h)
 have hw:=Wd.addNil (a:=none) (E:=9) (sz:=1) hw
 have hw:Wd Γ (.own (.slice none 0 0) 9 1 (strRowsQ [])::parQ bp a n c 1 e1 e2::.blk b3 (.cells #[.slice none 0 0,.slice none 0 0] 50)::.blk b2 (.cells #[.slice none 0 0,.slice none 0 0] 50)::S) w:=hw
 repeat first|refine byW ?_|refine byV ?_;intro w hw
 refine W_mixD [.blk b2 (.cells #[.slice none 0 0,.slice none 0 0] 50)] [.blk b3 (.cells #[.slice none 0 0,.slice none 0 0] 50)] (.own (.slice none 0 0) 9 1 (strRowsQ [])::parQ bp a n c 1 e1 e2::S) [] [12,13,14] [] [[],[],[],[1],[1],[1],[],[0,1]] [[],[0],[],[1],[1],[1],[],[0,1]] (by rw[List.append_nil];exact hw.ps [2,3]) ?_
 repeat(first|refine mY ?_|refine mP ?_|refine mEndAt ?_|refine mEnd0 ?_|refine mEnd ?_)
 refine mCallV (c:=1) (T:=Unit) (T':=Unit) (vs:=[.pointer (some ⟨bp,0,none⟩)]) (fun _=>.string (tokQ toks 1).Text) (fun _=>parQ bp a n c (1+1) e1 e2::.own (.slice none 0 0) 9 1 (strRowsQ [])::S) (R:=fun _=>.own (.slice none 0 0) 9 1 (strRowsQ [])::parQ bp a n c 1 e1 e2::S) (fun _ Y w hw=>(Word_q hr.kind hr.kw hr.size (by omega) hN ht (hw.ps [1]:Wd Γ (parQ bp a n c 1 e1 e2::(.own (.slice none 0 0) 9 1 (strRowsQ [])::(S++Y))) w)).mono fun r w h=>⟨(),h.1,h.2⟩) ?_
 refine mBuildX (T:=Unit) (fun _=>[[.string (tokQ toks 1).Text]]) ?_ ?_
 rotate_left
 ·intro t g h;have h2:g 12=_:=h
  show fillL _ _ [(0,g 12)]=_
  rw[h2];rfl
 refine mAppX (T:=Unit×Addr) (j:=2) (j2:=0) (fun t=>some t.2) (fun _=>[[.string (tokQ toks 1).Text]]) ?_ ?_
 rotate_left
 ·intro t g h;exact h.2
 refine byM ?_;refine mJoinX (T:=(Unit×Addr)×Value) (j:=2) (val:=fun t=>t.2) ?_ ?_
 rotate_left
 ·intro t g h;exact h.2
 refine mEndD fun t w g h hw=>?_
 obtain⟨⟨⟨⟩,aB⟩,vv⟩:=t;have hw:Wd Γ (.blk b3 (.cells #[vv,.slice none 0 0] 50)::.own (.slice (some aB) 1 1) 9 1 [[.string (tokQ toks 1).Text]]::parQ bp a n c (1+1) e1 e2::.own vv 9 1 (strRowsQ [(tokQ toks 1).Text])::(S++[.blk b2 (.cells #[.slice none 0 0,.slice none 0 0] 50)])) w:=hw
 obtain⟨sa,sn,sc,rfl,hsn,hsc,hscc⟩:=hw.own_shape (i:=3) rfl
 have hw:Wd Γ (parQ bp a n c 2 e1 e2::.blk b3 (.cells #[.slice sa sn sc,.slice none 0 0] 50)::.blk b2 (.cells #[.slice none 0 0,.slice none 0 0] 50)::.own (.slice sa sn sc) 9 1 (strRowsQ [(tokQ toks 1).Text])::S) w:=(hw.dropAt 1).perm byPM
 repeat first|refine byW ?_|refine byV ?_;intro w hw
 refine W_loop (fun μ ρ w=>Has ρ [(0,.pointer (some ⟨bp,0,none⟩)),(2,.pointer (some ⟨b2,0,none⟩)),(3,.pointer (some ⟨b3,0,none⟩))]∧Wd Γ (parQ bp a n c 2 e1 e2::.blk b3 (.cells #[.slice sa sn sc,.slice none 0 0] 50)::.blk b2 (.cells #[.slice none 0 0,.slice none 0 0] 50)::.own (.slice sa sn sc) 9 1 (strRowsQ [(tokQ toks 1).Text])::S) w) 1 ⟨⟨rfl,rfl,rfl,trivial⟩,hw⟩ ?_
 clear hw;rintro μ ρ w ⟨hρ,hw⟩
 rw[hρ.eq];clear hρ;repeat first|refine byW ?_|refine byV ?_;intro w hw
 refine lCall (vs:=[.pointer (some ⟨bp,0,none⟩),.int .i64 4,.string commaQ]) ?_
 refine(Accept_q 4 commaQ (by omega) hN ht hw).mono ?_
 clear hw;rintro r w ⟨rfl,hw⟩
 rw[hr.noc]at hw ⊢
 have hw:Wd Γ (parQ bp a n c 2 e1 e2::.blk b3 (.cells #[.slice sa sn sc,.slice none 0 0] 50)::.blk b2 (.cells #[.slice none 0 0,.slice none 0 0] 50)::.own (.slice sa sn sc) 9 1 (strRowsQ [(tokQ toks 1).Text])::S) w:=hw
 refine⟨_,rfl,?_⟩;repeat first|refine byW ?_|refine byV ?_;intro w hw
 refine W_cond rfl (fun h=>by cases h) (fun _=>?_)
 repeat first|refine byW ?_|refine byV ?_;intro w hw
 refine lCall (vs:=[.pointer (some ⟨bp,0,none⟩),.int .i64 1,.string whereQ]) ?_
 refine(Expect_q 1 whereQ hr.whe (by omega) hN ht hw).mono ?_
 clear hw;rintro r w ⟨rfl,hw⟩
 refine⟨_,rfl,?_⟩;have hw:=Wd.addNil (a:=none) (E:=47) (sz:=15) hw
 obtain⟨gs,hgs⟩:∃gs:List GoalH,gs=[]:=⟨_,rfl⟩
 obtain⟨ga,gn,gc,hga,hgn,hgc⟩:∃(ga:Option Addr) (gn gc:Nat),ga=none∧gn=0∧gc=0:=⟨_,_,_,rfl,rfl,rfl⟩
 have hw:Wd Γ (.own (.slice ga gn gc) 47 15 (gs.map cG)::parQ bp a n c (3+7*0) e1 e2::.blk b3 (.cells #[.slice sa sn sc,.slice ga gn gc] 50)::.blk b2 (.cells #[.slice none 0 0,.slice none 0 0] 50)::.own (.slice sa sn sc) 9 1 (strRowsQ [(tokQ toks 1).Text])::S) w:=by
  rw[hga,hgn,hgc,hgs];exact hw
 have hgl:gn=gs.length:=by rw[hgs,hgn];rfl
 have hgb:gn≤2:=by omega
 have hok:∀x∈gs,GOk Γ x:=fun x hx=>by rw[hgs]at hx;cases hx
 have hgs:gs.map (·.g)=goalsQ toks 0:=by rw[hgs];rfl
 have hrel:RelQ toks (3+7*0) 2:=hr.rels 0 (by decide)
 obtain⟨Γ1,hΓ1⟩:∃Γ1,Γ1=Γ:=⟨_,rfl⟩
 rw[←hΓ1]at hw hok
 have ht1:RepS Γ1 (.slice a n c) 5 (toks.map enc):=by rw[hΓ1];exact ht
 have hle1:Γ.le Γ1:=by rw[hΓ1];exact Gho.le.refl _
 clear hga hgn hgc hΓ1;repeat first|refine byW ?_|refine byV ?_;intro w hw
 refine W_mixD [.blk b2 (.cells #[.slice none 0 0,.slice none 0 0] 50)] [.blk b3 (.cells #[.slice sa sn sc,.slice ga gn gc] 50)] (.own (.slice ga gn gc) 47 15 (gs.map cG)::parQ bp a n c (3+7*0) e1 e2::.own (.slice sa sn sc) 9 1 (strRowsQ [(tokQ toks 1).Text])::S) [] [30,31,32] [] [[],[],[],[1],[1],[1],[],[0,1]] [[],[0],[],[1],[1],[1],[],[0,1]] (by rw[List.append_nil];exact hw.ps [2,3]) ?_
 repeat(first|refine mY ?_|refine mP ?_|refine mEndAt ?_|refine mEnd0 ?_|refine mEnd ?_)
 refine mCallV (c:=1) (T:=Unit) (T':=SlT) (vs:=[.pointer (some ⟨bp,0,none⟩)]) (fun v=>.agg (cG ⟨relG (tokQ toks (3+7*0)).Text (varsQ toks (3+7*0+2) 2),v.1,v.2.1,v.2.2⟩).toArray) (fun v=>.own (slV v) 43 4 ((varsQ toks (3+7*0+2) 2).map enc)::parQ bp a n c (3+7*0+2*2+2) e1 e2::.own (.slice ga gn gc) 47 15 (gs.map cG)::.own (.slice sa sn sc) 9 1 (strRowsQ [(tokQ toks 1).Text])::S) (R:=fun _=>.own (.slice ga gn gc) 47 15 (gs.map cG)::parQ bp a n c (3+7*0) e1 e2::.own (.slice sa sn sc) 9 1 (strRowsQ [(tokQ toks 1).Text])::S) (fun _ Y w hw=>Goal_q hrel (by omega) hN ht1 (hw.ps [1]:Wd Γ1 (parQ bp a n c (3+7*0) e1 e2::(.own (.slice ga gn gc) 47 15 (gs.map cG)::.own (.slice sa sn sc) 9 1 (strRowsQ [(tokQ toks 1).Text])::(S++Y))) w)) ?_
 refine mBuildX (T:=SlT) (fun v=>[cG ⟨relG (tokQ toks (3+7*0)).Text (varsQ toks (3+7*0+2) 2),v.1,v.2.1,v.2.2⟩]) ?_ ?_
 rotate_left
 ·intro t g h;have h2:g 30=_:=h
  show fillL _ _ [(0,g 30)]=_
  rw[h2];rfl
 refine mAppX (T:=SlT×Addr) (j:=3) (j2:=0) (fun t=>some t.2) (fun t=>[cG ⟨relG (tokQ toks (3+7*0)).Text (varsQ toks (3+7*0+2) 2),t.1.1,t.1.2.1,t.1.2.2⟩]) ?_ ?_
 rotate_left
 ·intro t g h;exact h.2
 refine byM ?_;refine mJoinX (T:=(SlT×Addr)×Value) (j:=3) (val:=fun t=>t.2) ?_ ?_
 rotate_left
 ·intro t g h;exact h.2
 refine mEndD fun t w g h hw=>?_
 obtain⟨⟨⟨Ax,Nx,Cx⟩,aB⟩,vv⟩:=t;have hw:Wd Γ1 (.blk b3 (.cells #[.slice sa sn sc,vv] 50)::.own (.slice (some aB) 1 1) 47 15 [cG ⟨relG (tokQ toks (3+7*0)).Text (varsQ toks (3+7*0+2) 2),Ax,Nx,Cx⟩]::.own (.slice Ax Nx Cx) 43 4 ((varsQ toks (3+7*0+2) 2).map enc)::parQ bp a n c (3+7*0+2*2+2) e1 e2::.own vv 47 15 (gs.map cG++[cG ⟨relG (tokQ toks (3+7*0)).Text (varsQ toks (3+7*0+2) 2),Ax,Nx,Cx⟩])::.own (.slice sa sn sc) 9 1 (strRowsQ [(tokQ toks 1).Text])::(S++[.blk b2 (.cells #[.slice none 0 0,.slice none 0 0] 50)])) w:=hw
 obtain⟨A2,N2,C2,rfl,hN2,hNC2,hC2⟩:=hw.own_shape (i:=4) rfl
 obtain⟨Γ2,hle2,hfo,hw⟩:=Wd.freeze (hw.ps [2]:Wd Γ1 (.own (.slice Ax Nx Cx) 43 4 ((varsQ toks (3+7*0+2) 2).map enc)::.blk b3 (.cells #[.slice sa sn sc,.slice A2 N2 C2] 50)::.own (.slice (some aB) 1 1) 47 15 [cG ⟨relG (tokQ toks (3+7*0)).Text (varsQ toks (3+7*0+2) 2),Ax,Nx,Cx⟩]::parQ bp a n c (3+7*0+2*2+2) e1 e2::.own (.slice A2 N2 C2) 47 15 (gs.map cG++[cG ⟨relG (tokQ toks (3+7*0)).Text (varsQ toks (3+7*0+2) 2),Ax,Nx,Cx⟩])::.own (.slice sa sn sc) 9 1 (strRowsQ [(tokQ toks 1).Text])::(S++[.blk b2 (.cells #[.slice none 0 0,.slice none 0 0] 50)])) w)
 have hw:Wd Γ2 (.own (.slice A2 N2 C2) 47 15 ((gs++[(⟨relG (tokQ toks (3+7*0)).Text (varsQ toks (3+7*0+2) 2),Ax,Nx,Cx⟩:GoalH)]).map cG)::parQ bp a n c (3+7*0+2*2+2) e1 e2::.blk b3 (.cells #[.slice sa sn sc,.slice A2 N2 C2] 50)::.blk b2 (.cells #[.slice none 0 0,.slice none 0 0] 50)::.own (.slice sa sn sc) 9 1 (strRowsQ [(tokQ toks 1).Text])::S) w:=by
  rw[List.map_append];exact(hw.dropAt 1).perm byPM
 have hgs2:(gs++[(⟨relG (tokQ toks (3+7*0)).Text (varsQ toks (3+7*0+2) 2),Ax,Nx,Cx⟩:GoalH)]).map (·.g)=goalsQ toks (0+1):=by
  rw[List.map_append,hgs,goalsQ_succ];rfl
 have hok2:∀x∈gs++[(⟨relG (tokQ toks (3+7*0)).Text (varsQ toks (3+7*0+2) 2),Ax,Nx,Cx⟩:GoalH)],GOk Γ2 x:=fun x hx=>by
  rcases List.mem_append.1 hx with hx|hx
  ·exact(hok x hx).mono hle2
  ·rw[List.mem_singleton.1 hx];exact hfo
 repeat first|refine byW ?_|refine byV ?_;intro w hw
 refine W_loop (fun μ ρ w=>∃(k:Nat) (Γ1:Gho) (ga:Option Addr) (gn gc:Nat) (gs:List GoalH),μ+k=2∧k<2∧Γ.le Γ1∧gs.map (·.g)=goalsQ toks (k+1)∧(∀x∈gs,GOk Γ1 x)∧Has ρ [(0,.pointer (some ⟨bp,0,none⟩)),(2,.pointer (some ⟨b2,0,none⟩)),(3,.pointer (some ⟨b3,0,none⟩))]∧Wd Γ1 (.own (.slice ga gn gc) 47 15 (gs.map cG)::parQ bp a n c (3+7*k+2*2+2) e1 e2::.blk b3 (.cells #[.slice sa sn sc,.slice ga gn gc] 50)::.blk b2 (.cells #[.slice none 0 0,.slice none 0 0] 50)::.own (.slice sa sn sc) 9 1 (strRowsQ [(tokQ toks 1).Text])::S) w) 2 ⟨0,Γ2,A2,N2,C2,_,by omega,by omega,hle1.trans hle2,hgs2,hok2,⟨rfl,rfl,rfl,trivial⟩,hw⟩ ?_
 clear hw hgs hok hgl hgb hrel ht1 hle1 hle2 hfo hgs2 hok2 hN2 hNC2 hC2;rintro μ ρ w ⟨k,Γ1,ga,gn,gc,gs,hk,hk2,hle1,hgs,hok,hρ,hw⟩
 rw[hρ.eq];clear hρ;have ht1:=ht.mono hle1
 have hgl:gs.length=k+1:=by have:=congrArg List.length hgs;simpa[goalsQ] using this
 have hgb:gn=gs.length:=by obtain⟨_,_,_,h1,h2,_⟩:=hw.own_shape (i:=0) rfl;cases h1;simpa using h2
 repeat first|refine byW ?_|refine byV ?_;intro w hw
 refine lCall (vs:=[.pointer (some ⟨bp,0,none⟩),.int .i64 4,.string commaQ]) ?_
 refine(Accept_q 4 commaQ (by omega) hN ht1 (hw.ps [1])).mono ?_
 clear hw;rintro r w ⟨rfl,hw⟩
 rw[hr.com k hk2]at hw ⊢
 refine⟨_,rfl,?_⟩;repeat first|refine byW ?_|refine byV ?_;intro w hw
 refine W_cond rfl (fun h=>?_) (fun h=>?_)
 ·have h1:=of_decide_eq_true h
  rw[if_pos h]at hw;have hk0:k=0:=by omega
  subst hk0;have hrel:RelQ toks (3+7*(0+1)) 2:=hr.rels 1 (by decide)
  have hw:Wd Γ1 (.own (.slice ga gn gc) 47 15 (gs.map cG)::parQ bp a n c (3+7*(0+1)) e1 e2::.blk b3 (.cells #[.slice sa sn sc,.slice ga gn gc] 50)::.blk b2 (.cells #[.slice none 0 0,.slice none 0 0] 50)::.own (.slice sa sn sc) 9 1 (strRowsQ [(tokQ toks 1).Text])::S) w:=hw.ps [1]
  clear h;repeat first|refine byW ?_|refine byV ?_;intro w hw
  refine W_mixD [.blk b2 (.cells #[.slice none 0 0,.slice none 0 0] 50)] [.blk b3 (.cells #[.slice sa sn sc,.slice ga gn gc] 50)] (.own (.slice ga gn gc) 47 15 (gs.map cG)::parQ bp a n c (3+7*(0+1)) e1 e2::.own (.slice sa sn sc) 9 1 (strRowsQ [(tokQ toks 1).Text])::S) [] [39,40,41] [] [[],[],[],[1],[1],[1],[],[0,1]] [[],[0],[],[1],[1],[1],[],[0,1]] (by rw[List.append_nil];exact hw.ps [2,3]) ?_
  repeat(first|refine mY ?_|refine mP ?_|refine mEndAt ?_|refine mEnd0 ?_|refine mEnd ?_)
  refine mCallV (c:=1) (T:=Unit) (T':=SlT) (vs:=[.pointer (some ⟨bp,0,none⟩)]) (fun v=>.agg (cG ⟨relG (tokQ toks (3+7*(0+1))).Text (varsQ toks (3+7*(0+1)+2) 2),v.1,v.2.1,v.2.2⟩).toArray) (fun v=>.own (slV v) 43 4 ((varsQ toks (3+7*(0+1)+2) 2).map enc)::parQ bp a n c (3+7*(0+1)+2*2+2) e1 e2::.own (.slice ga gn gc) 47 15 (gs.map cG)::.own (.slice sa sn sc) 9 1 (strRowsQ [(tokQ toks 1).Text])::S) (R:=fun _=>.own (.slice ga gn gc) 47 15 (gs.map cG)::parQ bp a n c (3+7*(0+1)) e1 e2::.own (.slice sa sn sc) 9 1 (strRowsQ [(tokQ toks 1).Text])::S) (fun _ Y w hw=>Goal_q hrel (by omega) hN ht1 (hw.ps [1]:Wd Γ1 (parQ bp a n c (3+7*(0+1)) e1 e2::(.own (.slice ga gn gc) 47 15 (gs.map cG)::.own (.slice sa sn sc) 9 1 (strRowsQ [(tokQ toks 1).Text])::(S++Y))) w)) ?_
  refine mBuildX (T:=SlT) (fun v=>[cG ⟨relG (tokQ toks (3+7*(0+1))).Text (varsQ toks (3+7*(0+1)+2) 2),v.1,v.2.1,v.2.2⟩]) ?_ ?_
  rotate_left
  ·intro t g h;have h2:g 39=_:=h
   show fillL _ _ [(0,g 39)]=_
   rw[h2];rfl
  refine mAppX (T:=SlT×Addr) (j:=3) (j2:=0) (fun t=>some t.2) (fun t=>[cG ⟨relG (tokQ toks (3+7*(0+1))).Text (varsQ toks (3+7*(0+1)+2) 2),t.1.1,t.1.2.1,t.1.2.2⟩]) ?_ ?_
  rotate_left
  ·intro t g h;exact h.2
  refine byM ?_;refine mJoinX (T:=(SlT×Addr)×Value) (j:=3) (val:=fun t=>t.2) ?_ ?_
  rotate_left
  ·intro t g h;exact h.2
  refine mEndD fun t w g h hw=>?_
  obtain⟨⟨⟨Ax,Nx,Cx⟩,aB⟩,vv⟩:=t;have hw:Wd Γ1 (.blk b3 (.cells #[.slice sa sn sc,vv] 50)::.own (.slice (some aB) 1 1) 47 15 [cG ⟨relG (tokQ toks (3+7*(0+1))).Text (varsQ toks (3+7*(0+1)+2) 2),Ax,Nx,Cx⟩]::.own (.slice Ax Nx Cx) 43 4 ((varsQ toks (3+7*(0+1)+2) 2).map enc)::parQ bp a n c (3+7*(0+1)+2*2+2) e1 e2::.own vv 47 15 (gs.map cG++[cG ⟨relG (tokQ toks (3+7*(0+1))).Text (varsQ toks (3+7*(0+1)+2) 2),Ax,Nx,Cx⟩])::.own (.slice sa sn sc) 9 1 (strRowsQ [(tokQ toks 1).Text])::(S++[.blk b2 (.cells #[.slice none 0 0,.slice none 0 0] 50)])) w:=hw
  obtain⟨A2,N2,C2,rfl,hN2,hNC2,hC2⟩:=hw.own_shape (i:=4) rfl
  obtain⟨Γ2,hle2,hfo,hw⟩:=Wd.freeze (hw.ps [2]:Wd Γ1 (.own (.slice Ax Nx Cx) 43 4 ((varsQ toks (3+7*(0+1)+2) 2).map enc)::.blk b3 (.cells #[.slice sa sn sc,.slice A2 N2 C2] 50)::.own (.slice (some aB) 1 1) 47 15 [cG ⟨relG (tokQ toks (3+7*(0+1))).Text (varsQ toks (3+7*(0+1)+2) 2),Ax,Nx,Cx⟩]::parQ bp a n c (3+7*(0+1)+2*2+2) e1 e2::.own (.slice A2 N2 C2) 47 15 (gs.map cG++[cG ⟨relG (tokQ toks (3+7*(0+1))).Text (varsQ toks (3+7*(0+1)+2) 2),Ax,Nx,Cx⟩])::.own (.slice sa sn sc) 9 1 (strRowsQ [(tokQ toks 1).Text])::(S++[.blk b2 (.cells #[.slice none 0 0,.slice none 0 0] 50)])) w)
  have hw:Wd Γ2 (.own (.slice A2 N2 C2) 47 15 ((gs++[(⟨relG (tokQ toks (3+7*(0+1))).Text (varsQ toks (3+7*(0+1)+2) 2),Ax,Nx,Cx⟩:GoalH)]).map cG)::parQ bp a n c (3+7*(0+1)+2*2+2) e1 e2::.blk b3 (.cells #[.slice sa sn sc,.slice A2 N2 C2] 50)::.blk b2 (.cells #[.slice none 0 0,.slice none 0 0] 50)::.own (.slice sa sn sc) 9 1 (strRowsQ [(tokQ toks 1).Text])::S) w:=by
   rw[List.map_append];exact(hw.dropAt 1).perm byPM
  have hgs2:(gs++[(⟨relG (tokQ toks (3+7*(0+1))).Text (varsQ toks (3+7*(0+1)+2) 2),Ax,Nx,Cx⟩:GoalH)]).map (·.g)=goalsQ toks ((0+1)+1):=by
   rw[List.map_append,hgs,goalsQ_succ];rfl
  have hok2:∀x∈gs++[(⟨relG (tokQ toks (3+7*(0+1))).Text (varsQ toks (3+7*(0+1)+2) 2),Ax,Nx,Cx⟩:GoalH)],GOk Γ2 x:=fun x hx=>by
   rcases List.mem_append.1 hx with hx|hx
   ·exact(hok x hx).mono hle2
   ·rw[List.mem_singleton.1 hx];exact hfo
  repeat first|refine byW ?_|refine byV ?_;intro w hw
  exact⟨μ-1,by omega,0+1,Γ2,A2,N2,C2,_,by omega,by omega,hle1.trans hle2,hgs2,hok2,⟨rfl,rfl,rfl,trivial⟩,hw⟩
 ·have h1:=of_decide_eq_false h
  have hk1:k=1:=by omega
  subst hk1;rw[if_neg (by rw[h];decide)]at hw
  clear h;unfold parQ at hw;repeat first|refine byW ?_|refine byV ?_;intro w hw
  refine W_quiet (by kernel_rfl) (by kernel_rfl) hw ?_
  refine byQ ?_;intro w hw;refine W_cond rfl (fun h=>absurd (of_decide_eq_true h) (by omega)) (fun _=>?_)
  repeat first|refine byW ?_|refine byV ?_;intro w hw
  refine lStore (i:=3) ?_
  intro w hw;have hw:Wd Γ1 (.blk b2 (.cells #[.slice sa sn sc,.slice ga gn gc] 50)::.own (.slice ga gn gc) 47 15 (gs.map cG)::.own (.slice sa sn sc) 9 1 (strRowsQ [(tokQ toks 1).Text])::parQ bp a n c (3+7*1+2*2+2) e1 e2::.blk b3 (.cells #[.slice sa sn sc,.slice ga gn gc] 50)::S) w:=hw.ps [2,1,4,3,4]
  repeat first|refine byW ?_|refine byV ?_;intro w hw
  refine⟨[.agg #[.slice sa sn sc,.slice ga gn gc]],⟨resC (i:=0) hw rfl rfl rfl,trivial⟩,?_⟩
  obtain⟨Γ2,hle2,hg2,hw⟩:=hw.drop.freeze;obtain⟨Γ3,hle3,hs3,hw⟩:=hw.freeze;exact⟨Γ3,_,_,gs,hle1.trans (hle2.trans hle3),rfl,⟨hs3,hg2.mono hle3,hgs,fun x hx=>(hok x hx).mono (hle2.trans hle3)⟩,hw.ds [0,0]⟩
end
end Go.Proofs.YtfoggcgogafocaaGreat
end
section
open Go Mk
namespace Go.Proofs.YtfoggcgogafocaaGreat
set_option maxHeartbeats 16000000
attribute [local irreducible] Calls cI cB scanS
section
variable {Γ:Gho}{S:List Res}{w:World}
theorem recQ_ret(hw:Wd Γ S w)(args:Array Value)(hn:Nat.ble args.size 22=true) :
  CallsD Tryz.prog 56 args .returning w fun e u' w'=>e=.returned (.tuple #[])∧u'=.returning∧Wd Γ S w':=by
 refine callsD_rec Tryz.func56 rfl hn rfl rfl ?_
 refine W_seq ?_
 refine W_region ?_
 refine lY (v:=.nilIface) ?_ (hy:=y_move rfl)
 refine lY (v:=.bool false) ?_ (hy:=y_neqNN Tryz.underlying20 rfl)
 refine L_nil ?_
 refine W_cond rfl (fun h=>by cases h) (fun _=>?_)
 refine W_skip ?_
 exact⟨_,rfl,rfl,rfl,hw⟩
set_option maxRecDepth 8000 in
theorem ParseQ_any(s:ByteArray)(hs:s.size≤1000000)(he:(scanS s).2.2=0)(hr:TwoQ (scanS s).1)(hw:Wd Γ S w) :
  Calls Tryz.prog 24 #[.string s] w fun r w'=>∃Γ' vs vg gs,Γ.le Γ'∧r=.returned (.tuple #[.agg #[vs,vg],.agg (enc (⟨0,0⟩:PosT)).toArray,.int .i64 0])∧QR Γ' vs vg gs ⟨[(tokQ (scanS s).1 1).Text],goalsQ (scanS s).1 2⟩∧Wd Γ' S w':=by
 haveI hL:=pc_LastNl s (by omega)
 haveI hCn:=pc_CountNl s
 refine calls_of_WX Tryz.func24 rfl rfl ?_
 refine WX_seq (WX_of_W ?_)
 repeat first|refine byW ?_|refine byV ?_;intro w hw
 refine lAlloc ?_;intro b2 w hw;refine lAlloc ?_;intro b3 w hw;refine lAlloc ?_;intro b4 w hw;refine L_nil ?_
 have hw:Wd Γ (.blk b2 (.cells #[.slice none 0 0,.slice none 0 0] 50)::.blk b3 (.cells (enc (⟨0,0⟩:PosT)).toArray 70)::.blk b4 (.cells #[.int .i64 0] 33)::S) w:=hw.ps [1,2]
 refine WX_seq (WX_of_W ?_)
 repeat first|refine byW ?_|refine byV ?_;intro w hw
 refine lCall ?_;refine(Scan_any Γ _ w s (Nat.le_trans hs (by decide)) hw).mono ?_
 clear hw;rintro r w ⟨v,rfl,hw⟩
 refine⟨_,rfl,?_⟩;repeat first|refine byW ?_|refine byV ?_;intro w hw
 refine lStore (i:=2) ?_
 intro w hw;refine lStore (i:=3) ?_
 intro w hw;refine L_nil ?_
 have hw:Wd Γ (.own v 178 5 ((scanS s).1.map enc)::.blk b2 (.cells #[.slice none 0 0,.slice none 0 0] 50)::.blk b3 (.cells (enc (scanS s).2.1).toArray 70)::.blk b4 (.cells #[.int .i64 (scanS s).2.2] 33)::S) w:=hw
 generalize (scanS s).2.1=p1 at *
 generalize (scanS s).2.2=e1 at *
 generalize (scanS s).1=toks at *
 refine WX_seq (WX_seq (WX_of_W ?_))
 repeat first|refine byW ?_|refine byV ?_;intro w hw
 refine WX_cond rfl (fun h=>absurd he (by simpa using h)) (fun _=>?_)
 obtain⟨at',n,c,rfl,hn,-,-⟩:=hw.own_shape (i:=0) rfl
 simp only[List.length_map]at hn
 obtain⟨Γ1,hle,ht,hw⟩:=hw.freeze;refine WX_of_W (W_skip ?_)
 refine WX_seq (WX_regionX ?_)
 refine LD_step ((y_makeFuncL (first:=[]) (cap:=[.tmp 2,.tmp 3,.tmp 4]) (f1:=[]) (c1:=[.pointer (some ⟨b2,0,none⟩),.pointer (some ⟨b3,0,none⟩),.pointer (some ⟨b4,0,none⟩)]) EvL.nil (EvL.cons rfl (EvL.cons rfl (EvL.cons rfl EvL.nil)))).step ?_)
 refine LD_deferF ?_
 refine LD_nil ?_
 refine WX_seq (WX_region ?_)
 repeat first|refine byW ?_|refine byV ?_;intro w hw
 refine WX_seq (WX_region ?_)
 repeat first|refine byW ?_|refine byV ?_;intro w hw
 refine lBox ?_;intro bp w hw;repeat first|refine byW ?_|refine byV ?_;intro w hw
 have hw:Wd Γ1 (parQ bp at' n c 0 _ _::.blk b2 (.cells #[.slice none 0 0,.slice none 0 0] 50)::.blk b3 (.cells (enc p1).toArray 70)::.blk b4 (.cells #[.int .i64 e1] 33)::S) w:=hw
 refine WX_seq (WX_region ?_)
 repeat first|refine byW ?_|refine byV ?_;intro w hw
 refine lCall ?_;refine(Query_q hr ht hw).mono ?_
 clear hw;rintro r w ⟨Γ2,vs,vg,gs,hle2,rfl,hq,hw⟩
 obtain⟨ga,gn,gc,rfl,hgn,hgnc,hgc⟩:=hq.goals.shape;obtain⟨sa,sn,sc,rfl,hsn,hsnc,hsc⟩:=hq.sel.shape;refine⟨_,rfl,?_⟩;repeat first|refine byW ?_|refine byV ?_;intro w hw
 refine lStore (i:=0) ?_
 intro w hw;refine lStore (i:=1) ?_
 intro w hw;refine lStore (i:=2) ?_
 intro w hw;have hw:Wd Γ2 (.blk b2 (.cells #[.slice sa sn sc,.slice ga gn gc] 50)::.blk b3 (.cells (enc (⟨0,0⟩:PosT)).toArray 70)::.blk b4 (.cells #[.int .i64 0] 33)::S) w:=hw
 refine L_nil ?_
 refine WX_ret ?_
 intro a ha hsz;refine leaves_cons (by simp) rfl ((recQ_ret hw _ rfl).mono ?_)
 rintro e u' w ⟨rfl,rfl,hw⟩
 show Leaves _ _ _ _ [] .returning w
 exact⟨_,results_resL (vs:=[.agg #[.slice sa sn sc,.slice ga gn gc],.agg (enc (⟨0,0⟩:PosT)).toArray,.int .i64 0]) (by decide) (by rw[ha];exact⟨resC (i:=0) hw rfl rfl rfl,resC (i:=1) hw rfl rfl rfl,resS (i:=2) hw rfl rfl rfl,trivial⟩),Γ2,_,_,gs,hle.trans hle2,rfl,hq,hw.ds [0,0,0]⟩
end
end Go.Proofs.YtfoggcgogafocaaGreat
end
section
open Go Mk
namespace Go.Proofs.YtfoggcgogafocaaGreat
set_option maxHeartbeats 16000000
def awkT:ByteArray:=⟨#[115,101,108,101,99,116,32,88,32,119,104,101,114,101,32,112,40,88,44,32,89,41,44,32,112,40,89,44,32,95,41]⟩
def pQ:ByteArray:=⟨#[112]⟩
def xQ:ByteArray:=⟨#[88]⟩
def yQ:ByteArray:=⟨#[89]⟩
def intQ(i:Int):Val:=⟨1,i,⟨#[]⟩⟩
def awkQ:Query:=⟨[xQ],[relG pQ [⟨xQ,zVal⟩,⟨yQ,zVal⟩],relG pQ [⟨yQ,zVal⟩,⟨anyS,zVal⟩]]⟩
def awkD:List Fact:=[(pQ,[intQ 1,intQ 2]),(pQ,[intQ 2,intQ 3])]
theorem awkErr:(scanS awkT).2.2=0:=by decide +kernel
theorem awkVar:∀i,i<2→∀j,j<2→VarQ (tokQ (scanS awkT).1 (3+7*i+2+2*j)):=fun i hi j hj=>by
 have h1:i=0∨i=1:=by omega
 have h2:j=0∨j=1:=by omega
 rcases h1 with rfl|rfl <;> rcases h2 with rfl|rfl <;> exact⟨by decide +kernel,by decide +kernel,by decide +kernel,by decide +kernel,by decide +kernel⟩
theorem awkTwo:TwoQ (scanS awkT).1:=by
 refine⟨by decide +kernel,by decide +kernel,by decide +kernel,by decide +kernel,by decide +kernel,by decide +kernel,by decide +kernel,by decide +kernel,fun i hi=>?_,fun i hi=>?_⟩
 ·have h1:i=0∨i=1:=by omega
  have hv:=awkVar i hi
  have hc:∀j,j+1<2→isQ (scanS awkT).1 (3+7*i+3+2*j) 4 commaQ=true:=fun j hj=>by
   have h2:j=0:=by omega
   subst h2;rcases h1 with rfl|rfl <;> decide +kernel
  rcases h1 with rfl|rfl
  ·exact⟨by decide +kernel,by decide +kernel,by decide +kernel,by decide +kernel,by decide,by decide,hv,hc,by decide +kernel,by decide +kernel⟩
  ·exact⟨by decide +kernel,by decide +kernel,by decide +kernel,by decide +kernel,by decide,by decide,hv,hc,by decide +kernel,by decide +kernel⟩
 ·have h1:i=0∨i=1:=by omega
  rcases h1 with rfl|rfl <;> decide +kernel
theorem awkQuery:(⟨[(tokQ (scanS awkT).1 1).Text],goalsQ (scanS awkT).1 2⟩:Query)=awkQ:=by
 have h1:(tokQ (scanS awkT).1 1).Text=xQ:=by decide +kernel
 have h2:(tokQ (scanS awkT).1 3).Text=pQ:=by decide +kernel
 have h3:(tokQ (scanS awkT).1 10).Text=pQ:=by decide +kernel
 have h4:varsQ (scanS awkT).1 5 2=[⟨xQ,zVal⟩,⟨yQ,zVal⟩]:=by decide +kernel
 have h5:varsQ (scanS awkT).1 12 2=[⟨yQ,zVal⟩,⟨anyS,zVal⟩]:=by decide +kernel
 rw[h1];unfold goalsQ;show (⟨[xQ],[relG (tokQ (scanS awkT).1 3).Text (varsQ (scanS awkT).1 5 2),relG (tokQ (scanS awkT).1 10).Text (varsQ (scanS awkT).1 12 2)]⟩:Query)=_
 rw[h2,h3,h4,h5];rfl
theorem awkSolE:solveE awkD awkQ=0:=by decide +kernel
theorem awkSol:solveS awkD awkQ=[[intQ 1]]:=by
 unfold solveS;rw[if_pos awkSolE];have:rawS awkD awkQ=[[intQ 1]]:=by decide +kernel
 unfold solS;rw[this];rfl
theorem awkOk:QueryOk awkQ:=by
 have hv:∀s:ByteArray,s.size≤10→OpdOk ⟨s,zVal⟩:=fun s h=>⟨by show s.size≤100000;omega,zVal_ok⟩
 have h0:I64 0:=⟨by decide,by decide⟩
 refine⟨by decide,fun s hs=>?_,by decide,fun g hg=>?_⟩
 ·have:s=xQ:=by simpa[awkQ] using hs
  subst this;decide
 ·have:g=relG pQ [⟨xQ,zVal⟩,⟨yQ,zVal⟩]∨g=relG pQ [⟨yQ,zVal⟩,⟨anyS,zVal⟩]:=by simpa[awkQ] using hg
  rcases this with rfl|rfl
  ·refine⟨by decide,by decide,fun o ho=>?_,hv _ (by decide),hv _ (by decide),h0,h0,h0⟩
   have:o=⟨xQ,zVal⟩∨o=⟨yQ,zVal⟩:=by simpa[relG] using ho
   rcases this with rfl|rfl <;> exact hv _ (by decide)
  ·refine⟨by decide,by decide,fun o ho=>?_,hv _ (by decide),hv _ (by decide),h0,h0,h0⟩
   have:o=⟨yQ,zVal⟩∨o=⟨anyS,zVal⟩:=by simpa[relG] using ho
   rcases this with rfl|rfl <;> exact hv _ (by decide)
theorem awkFacts:∀f∈awkD,FactOk f:=fun f hf=>by
 have:f=(pQ,[intQ 1,intQ 2])∨f=(pQ,[intQ 2,intQ 3]):=by simpa[awkD] using hf
 rcases this with rfl|rfl
 ·refine⟨by decide,by decide,fun v hv=>?_⟩
  have:v=intQ 1∨v=intQ 2:=by simpa using hv
  rcases this with rfl|rfl <;> exact⟨by decide,by decide⟩
 ·refine⟨by decide,by decide,fun v hv=>?_⟩
  have:v=intQ 2∨v=intQ 3:=by simpa using hv
  rcases this with rfl|rfl <;> exact⟨by decide,by decide⟩
attribute [local irreducible] Calls cI cB scanS solveE solveS cFact
theorem pg_awakeQ{Γ:Gho}:PG Tryz.prog Γ 5 [] (.bool true):=pg_free fun Γ w _ hw=>by
 refine calls_of_W Tryz.func5 rfl rfl ?_
 repeat first|refine byW ?_|refine byV ?_;intro w hw
 refine lBuildSlice [enc (intQ 1),enc (intQ 2)] ?_
 intro a9 w hw;repeat first|refine byW ?_|refine byV ?_;intro w hw
 refine lCall (vs:=[.string pQ,.slice (some a9) 2 2]) ?_
 refine(Fact_any Γ _ w _ pQ [intQ 1,intQ 2] (RdS.own (i:=0) hw rfl) (by decide) hw).mono ?_
 clear hw;rintro e w ⟨⟨fr,fa,fn,fc,xs⟩,rfl,hf1,hw⟩
 refine⟨_,rfl,?_⟩;have hf1:(fr,xs)=(pQ,[intQ 1,intQ 2]):=hf1
 obtain⟨Γ1,hle1,hfo1,hw⟩:=hw.freeze;have hfo1:FOk Γ1 ⟨fr,fa,fn,fc,xs⟩:=hfo1
 have hw:Wd Γ1 [] w:=hw.drop
 repeat first|refine byW ?_|refine byV ?_;intro w hw
 refine lBuildSlice [enc (intQ 2),enc (intQ 3)] ?_
 intro a13 w hw;repeat first|refine byW ?_|refine byV ?_;intro w hw
 refine lCall (vs:=[.string pQ,.slice (some a13) 2 2]) ?_
 refine(Fact_any Γ1 _ w _ pQ [intQ 2,intQ 3] (RdS.own (i:=0) hw rfl) (by decide) hw).mono ?_
 clear hw;rintro e w ⟨⟨gr,ga,gn,gc,ys⟩,rfl,hf2,hw⟩
 refine⟨_,rfl,?_⟩;have hf2:(gr,ys)=(pQ,[intQ 2,intQ 3]):=hf2
 obtain⟨Γ2,hle2,hfo2,hw⟩:=hw.freeze;have hfo2:FOk Γ2 ⟨gr,ga,gn,gc,ys⟩:=hfo2
 have hw:Wd Γ2 [] w:=hw.drop
 repeat first|refine byW ?_|refine byV ?_;intro w hw
 refine lBuildSlice [cF ⟨fr,fa,fn,fc,xs⟩,cF ⟨gr,ga,gn,gc,ys⟩] ?_
 intro a15 w hw;repeat first|refine byW ?_|refine byV ?_;intro w hw
 obtain⟨Γ3,hle3,hdb,hw⟩:=hw.freeze;have hfs:facts [(⟨fr,fa,fn,fc,xs⟩:FactH),⟨gr,ga,gn,gc,ys⟩]=awkD:=by
  show [(fr,xs),(gr,ys)]=_
  rw[hf1,hf2];rfl
 have hRL:RL Γ3 (.slice (some a15) 2 2) [(⟨fr,fa,fn,fc,xs⟩:FactH),⟨gr,ga,gn,gc,ys⟩]:=by
  refine⟨hdb,fun x hx=>?_⟩
  have hx2:x=⟨fr,fa,fn,fc,xs⟩∨x=⟨gr,ga,gn,gc,ys⟩:=by simpa using hx
  rcases hx2 with rfl|rfl
  ·exact⟨hfo1.mono (hle2.trans hle3),by show FactOk (fr,xs);rw[hf1];exact awkFacts _ (by simp[awkD])⟩
  ·exact⟨hfo2.mono hle3,by show FactOk (gr,ys);rw[hf2];exact awkFacts _ (by simp[awkD])⟩
 refine lCall (vs:=[.string awkT]) ?_
 refine(ParseQ_any awkT (by decide) awkErr awkTwo hw).mono ?_
 clear hw;rintro e w ⟨Γ4,vs,vg,gs,hle4,rfl,hq,hw⟩
 rw[awkQuery]at hq;obtain⟨qa,qn,qc,rfl,hqn,hqnc,hqc⟩:=hq.goals.shape;obtain⟨sa,sn,sc,rfl,hsn,hsnc,hsc⟩:=hq.sel.shape;refine⟨_,rfl,?_⟩;repeat first|refine byW ?_|refine byV ?_;intro w hw
 refine lAlloc ?_;intro b2 w hw;refine lAlloc ?_;intro b3 w hw;refine lStore (i:=1) ?_
 intro w hw;refine lStore (i:=0) ?_
 intro w hw;have hw:Wd Γ4 [.blk b2 (.cells #[.slice sa sn sc,.slice qa qn qc] 50),.blk b3 (.cells (enc (⟨0,0⟩:PosT)).toArray 70)] w:=hw.ps [1]
 repeat first|refine byW ?_|refine byV ?_;intro w hw
 refine lCall (vs:=[.slice (some a15) 2 2,.agg #[.slice sa sn sc,.slice qa qn qc]]) ?_
 refine(Solve_any (hRL.mono hle4) (by simp) hq awkOk hw).mono ?_
 clear hw;rintro e w ⟨Γ5,v,L,hle5,rfl,hL,hrows,hw⟩
 rw[hfs]at hrows ⊢
 rw[awkSol]at hrows;rw[awkSolE];obtain⟨pv,rfl⟩:∃pv,L=[(pv,[intQ 1])]:=by
  unfold rowsOf at hrows;match L,hrows with
  | [(pv,r)],h=>exact⟨pv,by simp at h;rw[h]⟩
  | [],h=>simp at h
  | _::_::_,h=>simp at h
 have hp:RepS Γ5 pv 3 [enc (intQ 1)]:=hL.ok (pv,[intQ 1]) (by simp)
 have hrep:RepS Γ5 v 1 [[pv]]:=hL.rep
 obtain⟨va,vn,vc,rfl,hvn,hvnc,hvc⟩:=hrep.shape;obtain⟨pa,pn,pc,rfl,hpn,hpnc,hpc⟩:=hp.shape;simp only[List.length_cons,List.length_nil,Nat.zero_add]at hvn hpn
 subst hvn hpn;refine⟨_,rfl,?_⟩;repeat first|refine byW ?_|refine byV ?_;intro w hw
 refine lG ?_ (hv:=fun hc=>by exact y_loadE1 (k:=0) (u:=.slice pa 1 pc) byOP (hL.rep.rd hw) rfl)
 repeat first|refine byW ?_|refine byV ?_;intro w hw
 refine lG ?_ (hv:=fun hc=>by exact y_loadE1 (k:=0) (u:=.slice pa 1 pc) byOP (hL.rep.rd hw) rfl)
 repeat first|refine byW ?_|refine byV ?_;intro w hw
 refine lG ?_ (hv:=fun hc=>by exact y_loadEf (k:=0) (f:=1) (u:=.int .i64 1) byOP (hp.rd hw) rfl rfl)
 repeat first|refine byW ?_|refine byV ?_;intro w hw
 exact⟨_,rfl,Γ5,hle1.trans (hle2.trans (hle3.trans (hle4.trans hle5))),ret_b rfl rfl,hw.ds [0,0]⟩
end Go.Proofs.YtfoggcgogafocaaGreat
end
section
open Go Mk
namespace Go.Proofs.YtfoggcgogafocaaGreat
set_option maxHeartbeats 4000000
theorem tabS_set{db:List Fact}{g:Goal}:tabS (setS db) g=tabS db g:=by
 have:setS (setS db)=setS db:=setA_idem cFact_ord db
 unfold tabS selS;rw[this]
theorem workN_set{db:List Fact}{gs:List Goal}:workN (setS db) gs=workN db gs:=by
 have:factor (setS db)=factor db:=by
  funext g
  unfold factor;rw[tabS_set]
 unfold workN;rw[this]
theorem cLV_ord:Ord3 (cL cV):=cV_ord.list
end Go.Proofs.YtfoggcgogafocaaGreat
end
section
open Go Mk
namespace Go.Proofs.YtfoggcgogafocaaGreat
set_option maxHeartbeats 16000000
attribute [local irreducible] Calls cI cB scanS solveE solveS cFact
end Go.Proofs.YtfoggcgogafocaaGreat
end
section
open Go
namespace Mk
attribute [local irreducible] Calls
section
variable {P:Program}{n:Nat}{ops:List Oper}{Γ:Gho}{K:List Res}{wr tc stab:List (List Nat)}{Q:Fr→World→Prop}{i:Nat}{rest:List Oper}{ρ:Fr}{M:Nat→Fr→List Res}{T:Type}
variable {ty:TypeId}{pos:String}{es:Array Edge}
theorem mJoinA{c0 c dd dv m:Nat}{cs:Array Value}{E:Nat}{TT:TypeId}{φ:T→Fr→Prop}{R:T→List Res}[hn:TSz P TT m](val:T→List Value)
  (h:MSw (mV P n ops Γ K wr tc stab) Q (i+1) rest ⟨ρ,setC (setC M c0 fun _=>[]) c (exC (fun (p:T×Nat) g=>g dd=.pointer (some ⟨p.2,0,none⟩)) fun p=>.blk p.2 (.cells (putCells cs 0 (val p.1)) E)::R p.1)⟩)
  (hv:∀t g,φ t (ovr (stab.getD c0 []) g noFr)→ev (ovr stab.flatten g ρ) (.tmp dv)=.agg (val t).toArray)
  (hw0:wr.getD i []=[c0,c]:=by exact rfl) (ht:tc.getD i []=[c0,c]:=by exact rfl) (hcc:Nat.beq c0 c=false:=by exact rfl) (hM:M c0=exC φ R:=by first|exact setC_self|exact ml1|exact ml2|exact((setC_other (by decide)).trans setC_self)|exact((setC_other (by decide)).trans ml2)|exact rfl)
  (hM2:M c=(fun g=>[atP (g dd) fun bb=>[.blk bb (.cells cs E)]]):=by first|exact setC_self|exact((setC_other (by decide)).trans setC_self)|exact rfl) (hd:stab.flatten.contains dd=true:=by exact rfl) (hs:(stab.getD c []).contains dd=true:=by exact rfl)
  (hl:∀t,(val t).length=m:=by intro t;rfl) (h1:∀t,(val t).all (·.oneCell')=true:=by intro t;rfl) (ho:m≤cs.size:=by exact Nat.le_of_ble_eq_true rfl) :
  MSw (mV P n ops Γ K wr tc stab) Q i (⟨none,.store TT (.tmp dd) (.tmp dv),ty,pos,es,none⟩::rest) ⟨ρ,M⟩:=
 mS2 (v:=undef) (fun _=>[]) (exC (fun (p:T×Nat) g=>g dd=.pointer (some ⟨p.2,0,none⟩)) fun p=>.blk p.2 (.cells (putCells cs 0 (val p.1)) E)::R p.1) (fun g w Y hw=>by
  have hg:ovr (stab.getD c []) g noFr dd=g dd:=ovr_in (by simpa using hs)
  obtain⟨t,ht1,hw⟩:=exC_open hw
  have hw2:Wd Γ (atP (ovr (stab.getD c []) g noFr dd) (fun bb=>[.blk bb (.cells cs E)])::(R t++(K++Y))) w:=hw.perm List.perm_middle
  obtain⟨bb,hb,hw1⟩:=hw2.openAt;rw[hg]at hb;have hx:ev (ovr stab.flatten g ρ) (.tmp dd)=.pointer (some ⟨bb,0,none⟩):=by
   show ovr stab.flatten g ρ dd=_
   rw[ovr_in (by simpa using hd)];exact hb
  refine s_store hn.h hw1 hx (hv t g ht1) (vs:=val t) rfl (hl t) (fun u hu=>(List.all_eq_true.1 (h1 t)) u hu) (i:=0) rfl (by omega) fun w' hw'=>⟨fun _=>rfl,?_⟩
  have hw3:Wd Γ (.blk bb (.cells (putCells cs 0 (val t)) E)::(R t++(K++Y))) w':=hw'
  exact exC_mk (φ:=fun (p:T×Nat) (g:Fr)=>g dd=.pointer (some ⟨p.2,0,none⟩)) (R:=fun p:T×Nat=>.blk p.2 (.cells (putCells cs 0 (val p.1)) E)::R p.1) (t,bb) (hg.trans hb) hw3) h hM hM2 hw0 ht hcc rfl
end
section
variable {P:Program}{n:Nat}{opa:Array Oper}{QQ:Exit→Fr→World→Prop}{ρ:Fr}{w:World}{rest:List Oper}{Γ:Gho}{S:List Res}
variable {d:Option Tmp}{ty:TypeId}{pos:String}{es:Array Edge}{f j dj:Nat}{want c:Bool}{args:List Operand}{tys:Array TypeId}{vs:List Value}{v:Value}
attribute [local semireducible] gv
end
end Mk
end
section
open Go Mk
namespace Go.Proofs.YtfoggcgogafocaaGreat
set_option maxHeartbeats 16000000
attribute [local irreducible] Calls cI cB scanS solveE solveS cFact valE
end Go.Proofs.YtfoggcgogafocaaGreat
end
section
open Go Mk
namespace Go.Proofs.YtfoggcgogafocaaGreat
set_option maxHeartbeats 16000000
attribute [local irreducible] Calls cI cB scanS solveE solveS cFact valE
end Go.Proofs.YtfoggcgogafocaaGreat
end
section
open Go Mk
namespace Go.Proofs.YtfoggcgogafocaaGreat
set_option maxHeartbeats 16000000
attribute [local irreducible] Calls cI cB scanS solveE solveS cFact valE
end Go.Proofs.YtfoggcgogafocaaGreat
end
section
open Go Mk
namespace Go.Proofs.YtfoggcgogafocaaGreat
set_option maxHeartbeats 16000000
attribute [local irreducible] Calls
theorem dropG{α:Type}{l:List α}{k:Nat}{x:α}(h:l[k]? = some x):l.drop k=x::l.drop (k+1):=by
 obtain⟨hk,rfl⟩:=List.getElem?_eq_some_iff.1 h
 exact List.drop_eq_getElem_cons hk
theorem allD{α:Type}{p:α→Bool}{l:List α}{k:Nat}{x:α}(h:l[k]? = some x):(l.drop k).all p=(p x&&(l.drop (k+1)).all p):=by rw[dropG h,List.all_cons]
theorem allE{α:Type}{p:α→Bool}{l:List α}{k:Nat}(h:l.length≤k):(l.drop k).all p=true:=by rw[List.drop_eq_nil_of_le h];rfl
theorem SB_of{s:ByteArray}(h:s.size≤maxS):SB s:=⟨h⟩
def inB(v lo hi:Int):Bool:=decide (lo≤v)&&decide (v≤hi)
instance pc_in(v lo hi:Int):PC Tryz.prog 114 [.int .i64 v,.int .i64 lo,.int .i64 hi] (.bool (inB v lo hi)):=⟨fun w=>by
 refine calls_of_W Tryz.func114 rfl rfl ?_
 refine byG ?_;exact⟨_,rfl,rfl,rfl⟩⟩
instance pc_node(v:Int):PC Tryz.prog 115 [.int .i64 v] (.bool (inB v 0 63)):=⟨fun w=>by
 refine calls_of_W Tryz.func115 rfl rfl ?_
 refine byG ?_;exact⟨_,rfl,rfl,rfl⟩⟩
instance pc_span(b s:Int):PC Tryz.prog 117 [.int .u64 b,.int .u64 s] (.bool (inSpaceB b s)):=⟨fun w=>by
 refine calls_of_W Tryz.func117 rfl rfl ?_
 refine byG ?_;exact⟨_,rfl,rfl,rfl⟩⟩
def powB(v:Int):Bool:=decide (0<v)&&decide (bitsZ .and .u64 v (IntKind.u64.wrap (v-1))=0)
instance pc_power(v:Int):PC Tryz.prog 116 [.int .u64 v] (.bool (powB v)):=⟨fun w=>by
 refine calls_of_W Tryz.func116 rfl rfl ?_
 refine byG ?_;exact⟨_,rfl,rfl,rfl⟩⟩
instance pc_plainR(b:UInt8):PC Tryz.prog 191 [.int .u8 ((b.toNat:Nat):Int)] (.bool (inTextC b)):=⟨fun w=>by
 refine calls_of_W Tryz.func191 rfl rfl ?_
 refine byG ?_;refine⟨_,rfl,ret_b rfl ?_,rfl⟩
 unfold inTextC;rw[Bool.eq_iff_iff];simp only[Bool.and_eq_true,decide_eq_true_eq,Bool.not_eq_true',Bool.or_eq_false_iff,decide_eq_false_iff_not]
 omega⟩
theorem bytesG{s:ByteArray}{k:Nat}(hk:k<s.size):(s.data.toList)[k]? = some (s.data.toList.getD k 0):=by
 have hk':k<s.data.toList.length:=by rw[size_toList];exact hk
 rw[List.getD_eq_getElem?_getD,List.getElem?_eq_getElem hk'];rfl
instance pc_PlainR(s:ByteArray)[hs:SB s]:PC Tryz.prog 112 [.string s] (.bool (textB s)):=⟨fun w=>by
 have hs:=hs.h
 refine calls_of_W Tryz.func112 rfl rfl ?_
 refine byG ?_;refine W_loop (fun μ ρ w'=>∃(k:Nat),μ+k=s.size∧Has ρ [(0,.string s),(3,.int .i64 k)]∧textB s=(s.data.toList.drop k).all inTextC∧w'=w) s.size ⟨0,by omega,⟨rfl,rfl,trivial⟩,rfl,rfl⟩ ?_
 rintro μ ρ w' ⟨k,hk,hρ,hal,rfl⟩
 rw[hρ.eq];refine byG ?_;refine W_cond rfl (fun h=>?_) (fun h=>?_)
 ·have hkn:k<s.size:=by have:=of_decide_eq_true h;omega
  have hb:=bytesG hkn
  rw[allD hb]at hal;refine byG ?_;refine W_cond rfl (fun h=>?_) (fun h=>?_)
  ·have h:(!inTextC (s.data.toList.getD k 0))=true:=h
   rw[Bool.not_eq_true']at h;refine byG ?_;refine⟨_,rfl,ret_b rfl ?_,rfl⟩
   rw[hal,h];rfl
  ·have h:(!inTextC (s.data.toList.getD k 0))=false:=h
   rw[Bool.not_eq_false']at h;rw[h,Bool.true_and]at hal;refine byG ?_;exact⟨μ-1,by omega,k+1,by omega,⟨rfl,rfl,trivial⟩,hal,rfl⟩
 ·have hkn:s.size≤k:=by have:=of_decide_eq_false h;omega
  rw[allE (by rw[size_toList];exact hkn)]at hal
  refine byG ?_;exact⟨_,rfl,ret_b rfl hal.symm,rfl⟩⟩
theorem notF{a:Bool}(h:(!a)=true):a=false:=by rwa [Bool.not_eq_true']at h
theorem notT{a:Bool}(h:(!a)=false):a=true:=by rwa [Bool.not_eq_false']at h
theorem names_any{Γ:Gho}{u:Value}{H:HwT}[hh:HwR Γ u H]{S:List Res}{w:World}(hw:Wd Γ S w) :
  Calls Tryz.prog 60 #[u] w fun e w'=>e=.returned (.bool (namesB H))∧Wd Γ S w':=by
 obtain⟨a1,n1,c1,a2,n2,c2,a3,n3,c3,a4,n4,c4,a5,n5,c5,cs,rfl,hcs,hok,hsz,r1,r2,r3,r4,r5⟩:=hh.h;obtain⟨f1,f1',f1''⟩:=rep_facts r1
 obtain⟨f2,f2',f2''⟩:=rep_facts r2
 obtain⟨f3,f3',f3''⟩:=rep_facts r3
 obtain⟨f4,f4',f4''⟩:=rep_facts r4
 obtain⟨f5,f5',f5''⟩:=rep_facts r5
 simp only[List.length_map]at f1 f2 f3 f4 f5
 have hcl:cs.length=H.Caches.length:=by rw[←hcs,List.length_map]
 haveI:SB H.Name:=SB_of hsz.1
 refine calls_of_W Tryz.func60 rfl rfl ?_
 refine byG ?_;refine lBox ?_;intro b1 w hw;have hw:Wd Γ (.blk b1 (hwC H a1 n1 c1 a2 n2 c2 a3 n3 c3 a4 n4 c4 a5 n5 c5)::S) w:=hw
 refine byG ?_;have hN:namesB H=(headB H&&(H.Caches.all (fun c=>nameS c.Name)&&(H.Mems.all (fun c=>nameS c.Name)&&H.Devs.all (fun c=>nameS c.Name)))):=by unfold namesB;simp only[Bool.and_assoc]
 rw[hN];refine W_cond rfl (fun h=>?_) (fun h=>?_)
 ·have h:((decide (H.Name=⟨#[]⟩)||decide ((24:Int)<(H.Name.size:Nat))) || !textB H.Name)=true:=h
  refine byG ?_;refine⟨_,rfl,ret_b rfl ?_,hw.drop⟩
  have:headB H=false:=by
   unfold headB;simp only[Bool.or_eq_true,decide_eq_true_eq,Bool.not_eq_true']at h
   rcases h with (h|h)|h
   ·rw[decide_eq_false (show ¬H.Name≠⟨#[]⟩ from fun q=>q h)];rfl
   ·rw[decide_eq_false (show ¬H.Name.size≤24 by omega),Bool.and_false];rfl
   ·rw[h,Bool.and_false]
  rw[this];rfl
 have h:((decide (H.Name=⟨#[]⟩)||decide ((24:Int)<(H.Name.size:Nat))) || !textB H.Name)=false:=h
 have hHd:headB H=true:=by
  unfold headB;simp only[Bool.or_eq_false_iff,decide_eq_false_iff_not,Bool.not_eq_false']at h
  rw[decide_eq_true (show H.Name≠⟨#[]⟩ from h.1.1),decide_eq_true (show H.Name.size≤24 by omega),h.2];rfl
 rw[hHd,Bool.true_and];clear h hN;refine byG ?_;refine W_loop (fun μ ρ w=>∃(k:Nat),μ+k=n2∧Has ρ [(1,.pointer (some ⟨b1,0,none⟩)),(3,.int .i64 k)]∧H.Caches.all (fun c=>nameS c.Name)=(H.Caches.drop k).all (fun c=>nameS c.Name)∧Wd Γ (.blk b1 (hwC H a1 n1 c1 a2 n2 c2 a3 n3 c3 a4 n4 c4 a5 n5 c5)::S) w) n2 ⟨0,by omega,⟨rfl,rfl,trivial⟩,rfl,hw⟩ ?_
 clear hw;rintro μ ρ w ⟨k,hk,hρ,hal,hw⟩
 rw[hρ.eq];refine byG ?_;refine W_cond rfl (fun h=>?_) (fun h=>?_)
 ·have hkn:k<n2:=by have:=of_decide_eq_true h;omega
  clear h;obtain⟨x,hx⟩:=get_lt (l:=cs) (k:=k) (by omega)
  obtain⟨g1,g2,g3⟩:=(hok x (List.mem_of_getElem? hx)).facts
  have hxT:H.Caches[k]? = some x.T:=by rw[←hcs,List.getElem?_map,hx];rfl
  rw[allD hxT]at hal;haveI:SB x.Name:=SB_of (hsz.2.1 x.T (List.mem_of_getElem? hxT))
  refine byG ?_;refine W_cond rfl (fun h=>?_) (fun h=>?_)
  ·have hz:nameS x.Name=false:=notF h
   refine byG ?_;refine⟨_,rfl,ret_b rfl ?_,hw.drop⟩
   rw[show H.Caches.all (fun c=>nameS c.Name)=(nameS x.Name&&(H.Caches.drop (k+1)).all (fun c=>nameS c.Name)) from hal,hz];rfl
  ·have hz:nameS x.Name=true:=notT h
   have hal:H.Caches.all (fun c=>nameS c.Name)=(nameS x.Name&&(H.Caches.drop (k+1)).all (fun c=>nameS c.Name)):=hal
   rw[hz,Bool.true_and]at hal;refine byG ?_;exact⟨μ-1,by omega,k+1,by omega,⟨rfl,rfl,trivial⟩,hal,hw⟩
 have hkn:n2≤k:=by have:=of_decide_eq_false h;omega
 clear h;rw[allE (by omega)]at hal
 rw[hal,Bool.true_and];clear hk hρ;refine byG ?_;refine W_loop (fun μ ρ w=>∃(k:Nat),μ+k=n4∧Has ρ [(1,.pointer (some ⟨b1,0,none⟩)),(4,.int .i64 k)]∧H.Mems.all (fun c=>nameS c.Name)=(H.Mems.drop k).all (fun c=>nameS c.Name)∧Wd Γ (.blk b1 (hwC H a1 n1 c1 a2 n2 c2 a3 n3 c3 a4 n4 c4 a5 n5 c5)::S) w) n4 ⟨0,by omega,⟨rfl,rfl,trivial⟩,rfl,hw⟩ ?_
 clear hw hal;rintro μ ρ w ⟨k,hk,hρ,hal,hw⟩
 rw[hρ.eq];refine byG ?_;refine W_cond rfl (fun h=>?_) (fun h=>?_)
 ·have hkn:k<n4:=by have:=of_decide_eq_true h;omega
  clear h;obtain⟨x,hx⟩:=get_lt (l:=H.Mems) (k:=k) (by omega)
  rw[allD hx]at hal;haveI:SB x.Name:=SB_of (hsz.2.2.1 x (List.mem_of_getElem? hx))
  refine byG ?_;refine W_cond rfl (fun h=>?_) (fun h=>?_)
  ·have hz:nameS x.Name=false:=notF h
   refine byG ?_;refine⟨_,rfl,ret_b rfl ?_,hw.drop⟩
   rw[hal,hz];rfl
  ·have hz:nameS x.Name=true:=notT h
   skip
   rw[hz,Bool.true_and]at hal;refine byG ?_;exact⟨μ-1,by omega,k+1,by omega,⟨rfl,rfl,trivial⟩,hal,hw⟩
 have hkn:n4≤k:=by have:=of_decide_eq_false h;omega
 clear h;rw[allE (by omega)]at hal
 rw[hal,Bool.true_and];clear hk hρ;refine byG ?_;refine W_loop (fun μ ρ w=>∃(k:Nat),μ+k=n5∧Has ρ [(1,.pointer (some ⟨b1,0,none⟩)),(5,.int .i64 k)]∧H.Devs.all (fun c=>nameS c.Name)=(H.Devs.drop k).all (fun c=>nameS c.Name)∧Wd Γ (.blk b1 (hwC H a1 n1 c1 a2 n2 c2 a3 n3 c3 a4 n4 c4 a5 n5 c5)::S) w) n5 ⟨0,by omega,⟨rfl,rfl,trivial⟩,rfl,hw⟩ ?_
 clear hw hal;rintro μ ρ w ⟨k,hk,hρ,hal,hw⟩
 rw[hρ.eq];refine byG ?_;refine W_cond rfl (fun h=>?_) (fun h=>?_)
 ·have hkn:k<n5:=by have:=of_decide_eq_true h;omega
  clear h;obtain⟨x,hx⟩:=get_lt (l:=H.Devs) (k:=k) (by omega)
  rw[allD hx]at hal;haveI:SB x.Name:=SB_of (hsz.2.2.2 x (List.mem_of_getElem? hx))
  refine byG ?_;refine W_cond rfl (fun h=>?_) (fun h=>?_)
  ·have hz:nameS x.Name=false:=notF h
   refine byG ?_;refine⟨_,rfl,ret_b rfl ?_,hw.drop⟩
   rw[hal,hz];rfl
  ·have hz:nameS x.Name=true:=notT h
   skip
   rw[hz,Bool.true_and]at hal;refine byG ?_;exact⟨μ-1,by omega,k+1,by omega,⟨rfl,rfl,trivial⟩,hal,hw⟩
 have hkn:n5≤k:=by have:=of_decide_eq_false h;omega
 clear h;rw[allE (by omega)]at hal
 rw[hal];clear hk hρ;refine byG ?_;exact⟨_,rfl,rfl,hw.drop⟩
def coreBad(c:CoreT):Bool:=((!inB c.ID 0 31||(decide (c.Width≠32)&&decide (c.Width≠39))) || !inB c.Node 0 63) || !inB c.Speed 1 1000000
def cacheBad(lv ln sz:Int)(n:Nat):Bool:=((((!inB lv 1 4 || !inB ln 16 256) || !powB (IntKind.u64.wrap ln))||decide (sz<IntKind.u64.wrap ln))||decide (sz > 1099511627776))||decide ((n:Int)=0)
def linkBad(c:LinkT):Bool:=((!inB c.A 0 63 || !inB c.B 0 63)||decide (c.A=c.B)) || !inB c.Latency 1 1000000
def memBad(c:MemT):Bool:=(!inB c.Node 0 63 || !inB c.Latency 1 1000000) || !inSpaceB c.Base c.Size
def devBad(c:DevT):Bool:=(!inB c.Node 0 63 || !inB c.IRQ 0 255) || !inSpaceB c.Base c.Size
theorem core_bad(c:CoreT):coreRB c = !coreBad c:=by
 unfold coreRB coreBad inB isNodeB;rw[Bool.eq_iff_iff];simp only[Bool.and_eq_true,Bool.or_eq_true,decide_eq_true_eq,Bool.not_eq_true',Bool.or_eq_false_iff,Bool.not_eq_false',Bool.and_eq_false_iff,decide_eq_false_iff_not]
 omega
theorem link_bad(c:LinkT):linkRB c = !linkBad c:=by
 unfold linkRB linkBad inB isNodeB isLatB;rw[Bool.eq_iff_iff];simp only[Bool.and_eq_true,Bool.or_eq_true,decide_eq_true_eq,Bool.not_eq_true',Bool.or_eq_false_iff,Bool.not_eq_false',Bool.and_eq_false_iff,decide_eq_false_iff_not]
 omega
theorem mem_bad(c:MemT):memRB c = !memBad c:=by
 unfold memRB memBad inB isNodeB isLatB;generalize inSpaceB c.Base c.Size=q
 rw[Bool.eq_iff_iff];simp only[Bool.and_eq_true,Bool.or_eq_true,decide_eq_true_eq,Bool.not_eq_true',Bool.or_eq_false_iff,Bool.not_eq_false',Bool.and_eq_false_iff,decide_eq_false_iff_not]
 exact and_congr (by omega) Iff.rfl
theorem dev_bad(c:DevT):devRB c = !devBad c:=by
 unfold devRB devBad inB isNodeB;generalize inSpaceB c.Base c.Size=q
 rw[Bool.eq_iff_iff];simp only[Bool.and_eq_true,Bool.or_eq_true,decide_eq_true_eq,Bool.not_eq_true',Bool.or_eq_false_iff,Bool.not_eq_false',Bool.and_eq_false_iff,decide_eq_false_iff_not]
 exact and_congr (by omega) Iff.rfl
theorem line_fin:∀n:Fin 257,decide (bitsZ .and .i64 (n.1:Int) (IntKind.i64.wrap ((n.1:Int)-1))=0)=decide (bitsZ .and .u64 (n.1:Int) (IntKind.u64.wrap ((n.1:Int)-1))=0)∨n.1=0:=by decide +kernel
theorem cache_bad(c:CacheT):cacheRB c = !cacheBad c.Level c.Line c.Size c.Cores.length:=by
 unfold cacheRB cacheBad;by_cases hl:16≤c.Line∧c.Line≤256
 ·have hw:IntKind.u64.wrap c.Line=c.Line:=by rw[IntKind.wrap_u64];omega
  have hb:decide (bitsZ .and .i64 c.Line (IntKind.i64.wrap (c.Line-1))=0)=powB c.Line:=by
   unfold powB;have:=line_fin ⟨c.Line.toNat,by omega⟩
   simp only[show ((c.Line.toNat:Nat):Int)=c.Line by omega]at this
   rw[decide_eq_true (show 0<c.Line by omega),Bool.true_and]
   exact this.resolve_right (by omega)
  rw[hw,hb];generalize powB c.Line=q
  unfold inB;rw[Bool.eq_iff_iff];simp only[Bool.and_eq_true,Bool.or_eq_true,decide_eq_true_eq,Bool.not_eq_true',Bool.or_eq_false_iff,Bool.not_eq_false',Bool.and_eq_false_iff,decide_eq_false_iff_not]
  rcases Bool.eq_false_or_eq_true q with hq|hq
  ·simp only[hq,and_true];omega
  ·simp[hq]
 ·have h1:(decide (16≤c.Line)&&decide (c.Line≤256))=false:=by
   rw[Bool.and_eq_false_iff,decide_eq_false_iff_not,decide_eq_false_iff_not];omega
  have h2:inB c.Line 16 256=false:=h1
  rw[h2,Bool.not_false,Bool.or_true,Bool.true_or,Bool.true_or,Bool.true_or,Bool.true_or,Bool.not_true];rw[Bool.and_eq_false_iff]at h1;rcases h1 with h1|h1 <;> simp only[h1,Bool.and_false,Bool.false_and]
theorem bad_no{p q:Bool}(h:p = !q)(hq:q=true):p=false:=by rw[h,hq];rfl
theorem bad_ok{p q:Bool}(h:p = !q)(hq:q=false):p=true:=by rw[h,hq];rfl
theorem ranges_any{Γ:Gho}{u:Value}{H:HwT}[hh:HwR Γ u H]{S:List Res}{w:World}(hw:Wd Γ S w) :
  Calls Tryz.prog 61 #[u] w fun e w'=>e=.returned (.bool (coresRB H&&regionsRB H))∧Wd Γ S w':=by
 obtain⟨a1,n1,c1,a2,n2,c2,a3,n3,c3,a4,n4,c4,a5,n5,c5,cs,rfl,hcs,hok,hsz,r1,r2,r3,r4,r5⟩:=hh.h;obtain⟨f1,f1',f1''⟩:=rep_facts r1
 obtain⟨f2,f2',f2''⟩:=rep_facts r2
 obtain⟨f3,f3',f3''⟩:=rep_facts r3
 obtain⟨f4,f4',f4''⟩:=rep_facts r4
 obtain⟨f5,f5',f5''⟩:=rep_facts r5
 simp only[List.length_map]at f1 f2 f3 f4 f5
 have hcl:cs.length=H.Caches.length:=by rw[←hcs,List.length_map]
 have hN:(coresRB H&&regionsRB H)=(H.Cores.all coreRB&&(H.Caches.all cacheRB&&(H.Links.all linkRB&&(H.Mems.all memRB&&H.Devs.all devRB)))):=by unfold coresRB regionsRB;simp only[Bool.and_assoc]
 rw[hN];clear hN;refine calls_of_W Tryz.func61 rfl rfl ?_
 refine byG ?_;refine lBox ?_;intro b1 w hw;have hw:Wd Γ (.blk b1 (hwC H a1 n1 c1 a2 n2 c2 a3 n3 c3 a4 n4 c4 a5 n5 c5)::S) w:=hw
 refine byG ?_;refine W_loop (fun μ ρ w=>∃(k:Nat),μ+k=n1∧Has ρ [(1,.pointer (some ⟨b1,0,none⟩)),(3,.int .i64 k)]∧H.Cores.all (coreRB)=(H.Cores.drop k).all (coreRB)∧Wd Γ (.blk b1 (hwC H a1 n1 c1 a2 n2 c2 a3 n3 c3 a4 n4 c4 a5 n5 c5)::S) w) n1 ⟨0,by omega,⟨rfl,rfl,trivial⟩,rfl,hw⟩ ?_
 clear hw;rintro μ ρ w ⟨k,hk,hρ,hal,hw⟩
 rw[hρ.eq];refine byG ?_;refine W_cond rfl (fun h=>?_) (fun h=>?_)
 ·have hkn:k<n1:=by have:=of_decide_eq_true h;omega
  clear h;obtain⟨x,hx⟩:=get_lt (l:=H.Cores) (k:=k) (by omega)
  rw[allD hx]at hal;refine byG ?_;refine lAlloc ?_;intro b6 w hw;refine lStore ?_;intro w hw;have hw:Wd Γ (.blk b6 (.cells (enc x).toArray 37)::.blk b1 (hwC H a1 n1 c1 a2 n2 c2 a3 n3 c3 a4 n4 c4 a5 n5 c5)::S) w:=hw
  refine byG ?_;refine W_cond rfl (fun h=>?_) (fun h=>?_)
  ·have hz:coreRB x=false:=bad_no (core_bad x) (show coreBad x=true from h)
   refine byG ?_;refine⟨_,rfl,ret_b rfl ?_,hw.ds [0,0]⟩
   rw[hal,hz];rfl
  ·have hz:coreRB x=true:=bad_ok (core_bad x) (show coreBad x=false from h)
   rw[hz,Bool.true_and]at hal;refine byG ?_;exact⟨μ-1,by omega,k+1,by omega,⟨rfl,rfl,trivial⟩,hal,hw.drop⟩
 have hkn:n1≤k:=by have:=of_decide_eq_false h;omega
 clear h;rw[allE (by omega)]at hal
 rw[hal,Bool.true_and];clear hk hρ;refine byG ?_;refine W_loop (fun μ ρ w=>∃(k:Nat),μ+k=n2∧Has ρ [(1,.pointer (some ⟨b1,0,none⟩)),(5,.int .i64 k)]∧H.Caches.all (cacheRB)=(H.Caches.drop k).all (cacheRB)∧Wd Γ (.blk b1 (hwC H a1 n1 c1 a2 n2 c2 a3 n3 c3 a4 n4 c4 a5 n5 c5)::S) w) n2 ⟨0,by omega,⟨rfl,rfl,trivial⟩,rfl,hw⟩ ?_
 clear hw hal;rintro μ ρ w ⟨k,hk,hρ,hal,hw⟩
 rw[hρ.eq];refine byG ?_;refine W_cond rfl (fun h=>?_) (fun h=>?_)
 ·have hkn:k<n2:=by have:=of_decide_eq_true h;omega
  clear h;obtain⟨x,hx⟩:=get_lt (l:=cs) (k:=k) (by omega)
  obtain⟨g1,g2,g3⟩:=(hok x (List.mem_of_getElem? hx)).facts
  have hxT:H.Caches[k]? = some x.T:=by rw[←hcs,List.getElem?_map,hx];rfl
  rw[allD hxT]at hal;refine byG ?_;refine lAlloc ?_;intro b6 w hw;refine lStore ?_;intro w hw;have hw:Wd Γ (.blk b6 (.cells (cC x).toArray 89)::.blk b1 (hwC H a1 n1 c1 a2 n2 c2 a3 n3 c3 a4 n4 c4 a5 n5 c5)::S) w:=hw
  refine byG ?_;refine W_cond rfl (fun h=>?_) (fun h=>?_)
  ·have hz:cacheRB x.T=false:=bad_no (by have:=cache_bad x.T;rw[show x.T.Cores.length=x.N from g1.symm]at this;exact this) (show cacheBad x.Level x.Line x.Size x.N=true from h)
   refine byG ?_;refine⟨_,rfl,ret_b rfl ?_,hw.ds [0,0]⟩
   rw[hal,hz];rfl
  ·have hz:cacheRB x.T=true:=bad_ok (by have:=cache_bad x.T;rw[show x.T.Cores.length=x.N from g1.symm]at this;exact this) (show cacheBad x.Level x.Line x.Size x.N=false from h)
   rw[hz,Bool.true_and]at hal;refine byG ?_;exact⟨μ-1,by omega,k+1,by omega,⟨rfl,rfl,trivial⟩,hal,hw.drop⟩
 have hkn:n2≤k:=by have:=of_decide_eq_false h;omega
 clear h;rw[allE (by omega)]at hal
 rw[hal,Bool.true_and];clear hk hρ;refine byG ?_;refine W_loop (fun μ ρ w=>∃(k:Nat),μ+k=n3∧Has ρ [(1,.pointer (some ⟨b1,0,none⟩)),(7,.int .i64 k)]∧H.Links.all (linkRB)=(H.Links.drop k).all (linkRB)∧Wd Γ (.blk b1 (hwC H a1 n1 c1 a2 n2 c2 a3 n3 c3 a4 n4 c4 a5 n5 c5)::S) w) n3 ⟨0,by omega,⟨rfl,rfl,trivial⟩,rfl,hw⟩ ?_
 clear hw hal;rintro μ ρ w ⟨k,hk,hρ,hal,hw⟩
 rw[hρ.eq];refine byG ?_;refine W_cond rfl (fun h=>?_) (fun h=>?_)
 ·have hkn:k<n3:=by have:=of_decide_eq_true h;omega
  clear h;obtain⟨x,hx⟩:=get_lt (l:=H.Links) (k:=k) (by omega)
  rw[allD hx]at hal;refine byG ?_;refine lAlloc ?_;intro b6 w hw;refine lStore ?_;intro w hw;have hw:Wd Γ (.blk b6 (.cells (enc x).toArray 79)::.blk b1 (hwC H a1 n1 c1 a2 n2 c2 a3 n3 c3 a4 n4 c4 a5 n5 c5)::S) w:=hw
  refine byG ?_;refine W_cond rfl (fun h=>?_) (fun h=>?_)
  ·have hz:linkRB x=false:=bad_no (link_bad x) (show linkBad x=true from h)
   refine byG ?_;refine⟨_,rfl,ret_b rfl ?_,hw.ds [0,0]⟩
   rw[hal,hz];rfl
  ·have hz:linkRB x=true:=bad_ok (link_bad x) (show linkBad x=false from h)
   rw[hz,Bool.true_and]at hal;refine byG ?_;exact⟨μ-1,by omega,k+1,by omega,⟨rfl,rfl,trivial⟩,hal,hw.drop⟩
 have hkn:n3≤k:=by have:=of_decide_eq_false h;omega
 clear h;rw[allE (by omega)]at hal
 rw[hal,Bool.true_and];clear hk hρ;refine byG ?_;refine W_loop (fun μ ρ w=>∃(k:Nat),μ+k=n4∧Has ρ [(1,.pointer (some ⟨b1,0,none⟩)),(9,.int .i64 k)]∧H.Mems.all (memRB)=(H.Mems.drop k).all (memRB)∧Wd Γ (.blk b1 (hwC H a1 n1 c1 a2 n2 c2 a3 n3 c3 a4 n4 c4 a5 n5 c5)::S) w) n4 ⟨0,by omega,⟨rfl,rfl,trivial⟩,rfl,hw⟩ ?_
 clear hw hal;rintro μ ρ w ⟨k,hk,hρ,hal,hw⟩
 rw[hρ.eq];refine byG ?_;refine W_cond rfl (fun h=>?_) (fun h=>?_)
 ·have hkn:k<n4:=by have:=of_decide_eq_true h;omega
  clear h;obtain⟨x,hx⟩:=get_lt (l:=H.Mems) (k:=k) (by omega)
  rw[allD hx]at hal;refine byG ?_;refine lAlloc ?_;intro b6 w hw;refine lStore ?_;intro w hw;have hw:Wd Γ (.blk b6 (.cells (enc x).toArray 83)::.blk b1 (hwC H a1 n1 c1 a2 n2 c2 a3 n3 c3 a4 n4 c4 a5 n5 c5)::S) w:=hw
  refine byG ?_;refine W_cond rfl (fun h=>?_) (fun h=>?_)
  ·have hz:memRB x=false:=bad_no (mem_bad x) (show memBad x=true from h)
   refine byG ?_;refine⟨_,rfl,ret_b rfl ?_,hw.ds [0,0]⟩
   rw[hal,hz];rfl
  ·have hz:memRB x=true:=bad_ok (mem_bad x) (show memBad x=false from h)
   rw[hz,Bool.true_and]at hal;refine byG ?_;exact⟨μ-1,by omega,k+1,by omega,⟨rfl,rfl,trivial⟩,hal,hw.drop⟩
 have hkn:n4≤k:=by have:=of_decide_eq_false h;omega
 clear h;rw[allE (by omega)]at hal
 rw[hal,Bool.true_and];clear hk hρ;refine byG ?_;refine W_loop (fun μ ρ w=>∃(k:Nat),μ+k=n5∧Has ρ [(1,.pointer (some ⟨b1,0,none⟩)),(11,.int .i64 k)]∧H.Devs.all (devRB)=(H.Devs.drop k).all (devRB)∧Wd Γ (.blk b1 (hwC H a1 n1 c1 a2 n2 c2 a3 n3 c3 a4 n4 c4 a5 n5 c5)::S) w) n5 ⟨0,by omega,⟨rfl,rfl,trivial⟩,rfl,hw⟩ ?_
 clear hw hal;rintro μ ρ w ⟨k,hk,hρ,hal,hw⟩
 rw[hρ.eq];refine byG ?_;refine W_cond rfl (fun h=>?_) (fun h=>?_)
 ·have hkn:k<n5:=by have:=of_decide_eq_true h;omega
  clear h;obtain⟨x,hx⟩:=get_lt (l:=H.Devs) (k:=k) (by omega)
  rw[allD hx]at hal;refine byG ?_;refine lAlloc ?_;intro b6 w hw;refine lStore ?_;intro w hw;have hw:Wd Γ (.blk b6 (.cells (enc x).toArray 85)::.blk b1 (hwC H a1 n1 c1 a2 n2 c2 a3 n3 c3 a4 n4 c4 a5 n5 c5)::S) w:=hw
  refine byG ?_;refine W_cond rfl (fun h=>?_) (fun h=>?_)
  ·have hz:devRB x=false:=bad_no (dev_bad x) (show devBad x=true from h)
   refine byG ?_;refine⟨_,rfl,ret_b rfl ?_,hw.ds [0,0]⟩
   rw[hal,hz];rfl
  ·have hz:devRB x=true:=bad_ok (dev_bad x) (show devBad x=false from h)
   rw[hz,Bool.true_and]at hal;refine byG ?_;exact⟨μ-1,by omega,k+1,by omega,⟨rfl,rfl,trivial⟩,hal,hw.drop⟩
 have hkn:n5≤k:=by have:=of_decide_eq_false h;omega
 clear h;rw[allE (by omega)]at hal
 rw[hal];clear hk hρ;refine byG ?_;exact⟨_,rfl,rfl,hw.drop⟩
def memAR(m:MemT):Bool:=powB m.Size&&decide (m.Base.tmod m.Size=0)
theorem aligned_any{Γ:Gho}{u:Value}{H:HwT}[hh:HwR Γ u H]{S:List Res}{w:World}(hw:Wd Γ S w) :
  Calls Tryz.prog 62 #[u] w fun e w'=>e=.returned (.bool (H.Mems.all memAR&&H.Devs.all devAB))∧Wd Γ S w':=by
 obtain⟨a1,n1,c1,a2,n2,c2,a3,n3,c3,a4,n4,c4,a5,n5,c5,cs,rfl,hcs,hok,hsz,r1,r2,r3,r4,r5⟩:=hh.h;obtain⟨f1,f1',f1''⟩:=rep_facts r1
 obtain⟨f2,f2',f2''⟩:=rep_facts r2
 obtain⟨f3,f3',f3''⟩:=rep_facts r3
 obtain⟨f4,f4',f4''⟩:=rep_facts r4
 obtain⟨f5,f5',f5''⟩:=rep_facts r5
 simp only[List.length_map]at f1 f2 f3 f4 f5
 have hcl:cs.length=H.Caches.length:=by rw[←hcs,List.length_map]
 refine calls_of_W Tryz.func62 rfl rfl ?_
 refine byG ?_;refine lBox ?_;intro b1 w hw;have hw:Wd Γ (.blk b1 (hwC H a1 n1 c1 a2 n2 c2 a3 n3 c3 a4 n4 c4 a5 n5 c5)::S) w:=hw
 refine byG ?_;refine W_loop (fun μ ρ w=>∃(k:Nat),μ+k=n4∧Has ρ [(1,.pointer (some ⟨b1,0,none⟩)),(3,.int .i64 k)]∧H.Mems.all (memAR)=(H.Mems.drop k).all (memAR)∧Wd Γ (.blk b1 (hwC H a1 n1 c1 a2 n2 c2 a3 n3 c3 a4 n4 c4 a5 n5 c5)::S) w) n4 ⟨0,by omega,⟨rfl,rfl,trivial⟩,rfl,hw⟩ ?_
 clear hw;rintro μ ρ w ⟨k,hk,hρ,hal,hw⟩
 rw[hρ.eq];refine byG ?_;refine W_cond rfl (fun h=>?_) (fun h=>?_)
 ·have hkn:k<n4:=by have:=of_decide_eq_true h;omega
  clear h;obtain⟨x,hx⟩:=get_lt (l:=H.Mems) (k:=k) (by omega)
  rw[allD hx]at hal;refine byG ?_;refine lAlloc ?_;intro b6 w hw;refine lStore ?_;intro w hw;have hw:Wd Γ (.blk b6 (.cells (enc x).toArray 83)::.blk b1 (hwC H a1 n1 c1 a2 n2 c2 a3 n3 c3 a4 n4 c4 a5 n5 c5)::S) w:=hw
  have hS:memAR x=(powB x.Size&&decide (x.Base.tmod x.Size=0)):=rfl
  have hPN:PC Tryz.prog 116 [.int .u64 x.Size] (.bool (powB x.Size)):=inferInstance
  cases h1:powB x.Size with
  | false=>
   rw[h1]at hPN;repeat(first|(first|refine W_seq ?_|refine W_block ?_|refine W_region ?_|refine W_skip ?_|refine W_ret ?_|refine W_exit ?_)|((first|apply L_bin|apply L_notop);first|(refine lT ?_ ?_;(first|exact rfl|exact decide_eq_true rfl|(simp;done)))|(refine lF ?_ ?_;(first|exact rfl|exact decide_eq_true rfl|(simp;done))))|(first|refine L_nil ?_|(apply L_plain;first|(apply L_go;first|refine lP ?_|(refine lPg ?_;intro w hw))|(apply L_mf;refine lMakeFunc ?_)|refine lY ?_)|(apply L_guarded;first|refine lGT ?_ (hct:=rfl)|refine lGF ?_ (hct:=rfl)|(apply L_go;first|refine lPG ?_|(refine lPgG ?_;intro w hw))|refine lG ?_))|(refine lAlloc ?_;intro _ w hw)|(refine lBox ?_;intro _ w hw)|(refine lStore ?_;intro w hw))
   refine W_cond_true rfl ?_
   refine byG ?_;refine⟨_,rfl,ret_b rfl ?_,hw.ds [0,0]⟩
   rw[hal,hS,h1];rfl
  | true=>
   rw[h1]at hPN;have hpos:0<x.Size:=by
    unfold powB at h1;rw[Bool.and_eq_true,decide_eq_true_eq]at h1;exact h1.1
   cases hb1:decide (x.Base.tmod x.Size≠0) with
   | true=>
    have h3:¬x.Base.tmod x.Size=0:=of_decide_eq_true hb1
    repeat(first|(first|refine W_seq ?_|refine W_block ?_|refine W_region ?_|refine W_skip ?_|refine W_ret ?_|refine W_exit ?_)|((first|apply L_bin|apply L_notop);first|(refine lT ?_ ?_;(first|exact hb1|exact hb2|exact hb3|exact hb4))|(refine lF ?_ ?_;(first|exact hb1|exact hb2|exact hb3|exact hb4)))|(first|refine L_nil ?_|(apply L_plain;first|(apply L_go;first|refine lP ?_|(refine lPg ?_;intro w hw))|(apply L_mf;refine lMakeFunc ?_)|refine lY ?_)|(apply L_guarded;first|refine lGT ?_ (hct:=rfl)|refine lGF ?_ (hct:=rfl)|(apply L_go;first|refine lPG ?_|(refine lPgG ?_;intro w hw))|refine lG ?_))|(refine lAlloc ?_;intro _ w hw)|(refine lBox ?_;intro _ w hw)|(refine lStore ?_;intro w hw))
    refine W_cond_true rfl ?_
    refine byG ?_;refine⟨_,rfl,ret_b rfl ?_,hw.ds [0,0]⟩
    rw[hal,hS,h1,decide_eq_false h3];rfl
   | false=>
    have h3:x.Base.tmod x.Size=0:=Classical.byContradiction fun q=>(of_decide_eq_false hb1) q
    rw[hS,h1,decide_eq_true h3]at hal;have hal:H.Mems.all memAR=(H.Mems.drop (k+1)).all memAR:=hal
    repeat(first|(first|refine W_seq ?_|refine W_block ?_|refine W_region ?_|refine W_skip ?_|refine W_ret ?_|refine W_exit ?_)|((first|apply L_bin|apply L_notop);first|(refine lT ?_ ?_;(first|exact hb1|exact hb2|exact hb3|exact hb4))|(refine lF ?_ ?_;(first|exact hb1|exact hb2|exact hb3|exact hb4)))|(first|refine L_nil ?_|(apply L_plain;first|(apply L_go;first|refine lP ?_|(refine lPg ?_;intro w hw))|(apply L_mf;refine lMakeFunc ?_)|refine lY ?_)|(apply L_guarded;first|refine lGT ?_ (hct:=rfl)|refine lGF ?_ (hct:=rfl)|(apply L_go;first|refine lPG ?_|(refine lPgG ?_;intro w hw))|refine lG ?_))|(refine lAlloc ?_;intro _ w hw)|(refine lBox ?_;intro _ w hw)|(refine lStore ?_;intro w hw))
    refine W_cond_false rfl ?_
    refine byG ?_;exact⟨μ-1,by omega,k+1,by omega,⟨rfl,rfl,trivial⟩,hal,hw.drop⟩
 have hkn:n4≤k:=by have:=of_decide_eq_false h;omega
 clear h;rw[allE (by omega)]at hal
 rw[hal,Bool.true_and];clear hk hρ;refine byG ?_;refine W_loop (fun μ ρ w=>∃(k:Nat),μ+k=n5∧Has ρ [(1,.pointer (some ⟨b1,0,none⟩)),(5,.int .i64 k)]∧H.Devs.all (devAB)=(H.Devs.drop k).all (devAB)∧Wd Γ (.blk b1 (hwC H a1 n1 c1 a2 n2 c2 a3 n3 c3 a4 n4 c4 a5 n5 c5)::S) w) n5 ⟨0,by omega,⟨rfl,rfl,trivial⟩,rfl,hw⟩ ?_
 clear hw hal;rintro μ ρ w ⟨k,hk,hρ,hal,hw⟩
 rw[hρ.eq];refine byG ?_;refine W_cond rfl (fun h=>?_) (fun h=>?_)
 ·have hkn:k<n5:=by have:=of_decide_eq_true h;omega
  clear h;obtain⟨x,hx⟩:=get_lt (l:=H.Devs) (k:=k) (by omega)
  rw[allD hx]at hal;refine byG ?_;refine lAlloc ?_;intro b6 w hw;refine lStore ?_;intro w hw;have hw:Wd Γ (.blk b6 (.cells (enc x).toArray 85)::.blk b1 (hwC H a1 n1 c1 a2 n2 c2 a3 n3 c3 a4 n4 c4 a5 n5 c5)::S) w:=hw
  refine byG ?_;refine W_cond rfl (fun h=>?_) (fun h=>?_)
  ·have h:(decide (x.Base.tmod 4096≠0)||decide (x.Size.tmod 4096≠0))=true:=h
   have hz:devAB x=false:=by
    unfold devAB;simp only[Bool.or_eq_true,decide_eq_true_eq]at h
    rw[Bool.and_eq_false_iff,decide_eq_false_iff_not,decide_eq_false_iff_not];exact h
   refine byG ?_;refine⟨_,rfl,ret_b rfl ?_,hw.ds [0,0]⟩
   rw[hal,hz];rfl
  ·have h:(decide (x.Base.tmod 4096≠0)||decide (x.Size.tmod 4096≠0))=false:=h
   have hz:devAB x=true:=by
    unfold devAB;simp only[Bool.or_eq_false_iff,decide_eq_false_iff_not,Decidable.not_not]at h
    rw[Bool.and_eq_true,decide_eq_true_eq,decide_eq_true_eq];exact h
   rw[hz,Bool.true_and]at hal;refine byG ?_;exact⟨μ-1,by omega,k+1,by omega,⟨rfl,rfl,trivial⟩,hal,hw.drop⟩
 have hkn:n5≤k:=by have:=of_decide_eq_false h;omega
 clear h;rw[allE (by omega)]at hal
 rw[hal];clear hk hρ;refine byG ?_;exact⟨_,rfl,rfl,hw.drop⟩
theorem pow_of_and:∀(n:Nat),0<n→n &&& (n-1)=0→∃e,n=2 ^ e:=by
 intro n;induction n using Nat.strongRecOn with
 | ind n ih=>
  intro h0 h;have h1:(n / 2) &&& ((n-1) / 2)=0:=by rw[←Nat.and_div_two,h]
  by_cases e:n%2=0
  ·have h2:(n-1) / 2=n / 2-1:=by omega
   rw[h2]at h1;obtain⟨e1,he⟩:=ih (n / 2) (by omega) (by omega) h1
   exact⟨e1+1,by rw[Nat.pow_succ,←he];omega⟩
  ·have h2:(n-1) / 2=n / 2:=by omega
   rw[h2,Nat.and_self]at h1;exact⟨0,by omega⟩
def u64I(n:Int):Prop:=0≤n∧n<18446744073709551616
theorem bitsU{a b:Int}(ha:u64I a)(hb:u64I b):bitsZ .and .u64 a b=((a.toNat &&& b.toNat:Nat):Int):=by
 unfold u64I at ha hb;have h1:(BitVec.ofInt 64 a).toNat=a.toNat:=by rw[BitVec.toNat_ofInt];omega
 have h2:(BitVec.ofInt 64 b).toNat=b.toNat:=by rw[BitVec.toNat_ofInt];omega
 have h3:(BitVec.ofInt 64 a &&& BitVec.ofInt 64 b).toNat=a.toNat &&& b.toNat:=by rw[BitVec.toNat_and,h1,h2]
 have h4:a.toNat &&& b.toNat≤a.toNat:=Nat.and_le_left
 show IntKind.u64.wrap ((BitVec.ofInt 64 a &&& BitVec.ofInt 64 b).toNat:Nat)=_
 rw[h3];simp[IntKind.wrap,IntKind.bits,IntKind.signed]
 omega
theorem align_eq{b s:Int}(hb:u64I b)(hs:4096≤s∧s≤1099511627776) :
  (powB s&&decide (b.tmod s=0))=(decide (bitsZ .and .u64 s (IntKind.u64.wrap (s-1))=0)&&decide (bitsZ .and .u64 b (IntKind.u64.wrap (s-1))=0)):=by
 have hw:IntKind.u64.wrap (s-1)=s-1:=by simp[IntKind.wrap,IntKind.bits,IntKind.signed];omega
 have hs1:u64I s:=by unfold u64I;omega
 have hs2:u64I (s-1):=by unfold u64I;omega
 unfold powB;rw[hw,bitsU hs1 hs2,bitsU hb hs2,decide_eq_true (show 0<s by omega),Bool.true_and]
 by_cases e:((s.toNat &&& (s-1).toNat:Nat):Int)=0
 ·rw[decide_eq_true e,Bool.true_and,Bool.true_and];have e0:s.toNat &&& (s.toNat-1)=0:=by
   have:(s-1).toNat=s.toNat-1:=by omega
   rw[this]at e;omega
  obtain⟨p,hp⟩:=pow_of_and s.toNat (by omega) e0
  have h1:(s-1).toNat=2 ^ p-1:=by omega
  rw[h1,Nat.and_two_pow_sub_one_eq_mod,←hp];unfold u64I at hb;rw[Int.tmod_eq_emod_of_nonneg hb.1];congr 1
  apply propext
  have h2:b%s=((b.toNat%s.toNat:Nat):Int):=by
   rw[Int.natCast_emod];congr 1 <;> omega
  rw[h2]
 ·rw[decide_eq_false e,Bool.false_and,Bool.false_and]
def MemWide(H:HwT):Prop:=∀x∈H.Mems,u64I x.Base
theorem align_ref{H:HwT}(hw:MemWide H)(hr:regionsRB H=true):(H.Mems.all memAR&&H.Devs.all devAB)=alignRB H:=by
 have:H.Mems.all memAR=H.Mems.all memAB:=by
  unfold regionsRB at hr;simp only[Bool.and_eq_true,List.all_eq_true]at hr
  rw[Bool.eq_iff_iff,List.all_eq_true,List.all_eq_true];have key:∀x∈H.Mems,memAR x=memAB x:=fun x hx=>by
   have h1:=hr.1 x hx
   simp only[memRB,inSpaceB,Bool.and_eq_true,decide_eq_true_eq]at h1
   exact align_eq (hw x hx) (by omega)
  exact⟨fun h x hx=>by rw[←key x hx];exact h x hx,fun h x hx=>by rw[key x hx];exact h x hx⟩
 unfold alignRB;rw[this]
def rowsF(E:List (Int×Int)):List (List Value):=E.map fun p=>[.int .u64 p.1]
def rowsS(E:List (Int×Int)):List (List Value):=E.map fun p=>[.int .u64 p.2]
def memE(m:MemT):Int×Int:=(m.Base,m.Size)
def devE(m:DevT):Int×Int:=(m.Base,m.Size)
def endE(p:Int×Int):Int×Int:=(p.1,IntKind.u64.wrap (p.1+p.2))
theorem rowsF_snoc{α:Type}{f:α→Int×Int}{l:List α}{L:List (Int×Int)}{k:Nat}{x:α}(hx:l[k]? = some x):rowsF (L++(l.take k).map f)++[[.int .u64 (f x).1]]=rowsF (L++(l.take (k+1)).map f):=by rw[take_succ_of hx];simp[rowsF]
theorem rowsS_snoc{α:Type}{f:α→Int×Int}{l:List α}{L:List (Int×Int)}{k:Nat}{x:α}(hx:l[k]? = some x):rowsS (L++(l.take k).map f)++[[.int .u64 (f x).2]]=rowsS (L++(l.take (k+1)).map f):=by rw[take_succ_of hx];simp[rowsS]
theorem regs_E(H:HwT):regs H=(H.Mems.map memE++H.Devs.map devE).map endE:=by
 unfold regs;rw[List.map_append,List.map_map,List.map_map];rfl
theorem overlap_any{Γ:Gho}{S:List Res}{w:World}{u:Value}{H:HwT}[hh:HwR Γ u H](hcnt:countsB H=true)(hw:Wd Γ S w):Calls Tryz.prog 66 #[u] w fun e w'=>e=.returned (.bool (!disjB H))∧Wd Γ S w':=by
 obtain⟨-,l1,l2,l3,l4,l5⟩:=counts_le hcnt
 obtain⟨a1,n1,c1,a2,n2,c2,a3,n3,c3,a4,n4,c4,a5,n5,c5,cs,rfl,hcs,hok,hsz,r1,r2,r3,r4,r5⟩:=hh.h;obtain⟨hn4,hm4,hx4⟩:=rep_facts r4
 obtain⟨hn5,hm5,hx5⟩:=rep_facts r5
 simp only[List.length_map]at hn4 hn5
 refine calls_of_W Tryz.func66 rfl rfl ?_
 refine byG ?_;refine lBox ?_;intro b1 w hw;have hw:=Wd.addNil (a:=none) (E:=80) (sz:=1) (Wd.addNil (a:=none) (E:=80) (sz:=1) hw)
 have hw:Wd Γ (.own (.slice none 0 0) 80 1 (rowsF (([]:List (Int×Int))++(H.Mems.take 0).map memE))::.own (.slice none 0 0) 80 1 (rowsS (([]:List (Int×Int))++(H.Mems.take 0).map memE))::.blk b1 (hwC H a1 n1 c1 a2 n2 c2 a3 n3 c3 a4 n4 c4 a5 n5 c5)::S) w:=hw
 refine byG ?_;refine W_loop (fun μ ρ w=>∃(k:Nat) (vb vs:Value),μ+k=n4∧Has ρ [(1,.pointer (some ⟨b1,0,none⟩)),(3,vb),(4,vs),(5,.int .i64 k)]∧Wd Γ (.own vb 80 1 (rowsF (([]:List (Int×Int))++(H.Mems.take k).map memE))::.own vs 80 1 (rowsS (([]:List (Int×Int))++(H.Mems.take k).map memE))::.blk b1 (hwC H a1 n1 c1 a2 n2 c2 a3 n3 c3 a4 n4 c4 a5 n5 c5)::S) w) n4 ⟨0,_,_,by omega,⟨rfl,rfl,rfl,rfl,trivial⟩,hw⟩ ?_
 clear hw;rintro μ ρ w ⟨k,vb,vs,hk,hρ,hw⟩
 rw[hρ.eq];clear hρ;refine byG ?_;refine W_cond rfl (fun h=>?_) (fun h=>?_)
 ·have hkn:k<n4:=by have:=of_decide_eq_true h;omega
  obtain⟨x,hx⟩:=get_lt (l:=H.Mems) (k:=k) (by omega)
  obtain⟨ab,mb,db,rfl,hmb,-,-⟩:=hw.own_shape (i:=0) rfl
  obtain⟨as',ms,ds,rfl,hms,-,-⟩:=hw.own_shape (i:=1) rfl
  simp only[rowsF,rowsS,List.length_map,List.length_append,List.length_nil,List.length_take]at hmb hms
  refine byG ?_;refine lBuildSlice [[.int .u64 (memE x).1]] ?_
  intro at' w hw;refine lApp (i:=1) (rows2:=[[.int .u64 (memE x).1]]) ?_ (Wd.own_rd (i:=0) hw rfl)
  intro vb' w hw;have hw:Wd Γ (.own vb' 80 1 (rowsF (([]:List (Int×Int))++(H.Mems.take (k+1)).map memE))::.own (.slice as' ms ds) 80 1 (rowsS (([]:List (Int×Int))++(H.Mems.take k).map memE))::.blk b1 (hwC H a1 n1 c1 a2 n2 c2 a3 n3 c3 a4 n4 c4 a5 n5 c5)::S) w:=by
   rw[←rowsF_snoc hx];exact hw.drop
  refine byG ?_;refine lBuildSlice [[.int .u64 (memE x).2]] ?_
  intro at' w hw;refine lApp (i:=2) (rows2:=[[.int .u64 (memE x).2]]) ?_ (Wd.own_rd (i:=0) hw rfl)
  intro vs' w hw;have hw:Wd Γ (.own vb' 80 1 (rowsF (([]:List (Int×Int))++(H.Mems.take (k+1)).map memE))::.own vs' 80 1 (rowsS (([]:List (Int×Int))++(H.Mems.take (k+1)).map memE))::.blk b1 (hwC H a1 n1 c1 a2 n2 c2 a3 n3 c3 a4 n4 c4 a5 n5 c5)::S) w:=by
   rw[←rowsS_snoc hx];exact hw.drop
  refine byG ?_;exact⟨μ-1,by omega,k+1,_,_,by omega,⟨rfl,rfl,rfl,rfl,trivial⟩,hw⟩
 have hkn:¬k<n4:=by have:=of_decide_eq_false h;omega
 rw[List.take_of_length_le (l:=H.Mems) (by omega)]at hw
 clear h hkn hk;rw[List.nil_append,show H.Mems.map memE=H.Mems.map memE++(H.Devs.take 0).map devE from by simp]at hw
 refine byG ?_;refine W_loop (fun μ ρ w=>∃(k:Nat) (vb vs:Value),μ+k=n5∧Has ρ [(1,.pointer (some ⟨b1,0,none⟩)),(3,vb),(4,vs),(6,.int .i64 k)]∧Wd Γ (.own vb 80 1 (rowsF (H.Mems.map memE++(H.Devs.take k).map devE))::.own vs 80 1 (rowsS (H.Mems.map memE++(H.Devs.take k).map devE))::.blk b1 (hwC H a1 n1 c1 a2 n2 c2 a3 n3 c3 a4 n4 c4 a5 n5 c5)::S) w) n5 ⟨0,_,_,by omega,⟨rfl,rfl,rfl,rfl,trivial⟩,hw⟩ ?_
 clear hw;rintro μ ρ w ⟨k,vb,vs,hk,hρ,hw⟩
 rw[hρ.eq];clear hρ;refine byG ?_;refine W_cond rfl (fun h=>?_) (fun h=>?_)
 ·have hkn:k<n5:=by have:=of_decide_eq_true h;omega
  obtain⟨x,hx⟩:=get_lt (l:=H.Devs) (k:=k) (by omega)
  obtain⟨ab,mb,db,rfl,hmb,-,-⟩:=hw.own_shape (i:=0) rfl
  obtain⟨as',ms,ds,rfl,hms,-,-⟩:=hw.own_shape (i:=1) rfl
  simp only[rowsF,rowsS,List.length_map,List.length_append,List.length_nil,List.length_take]at hmb hms
  refine byG ?_;refine lBuildSlice [[.int .u64 (devE x).1]] ?_
  intro at' w hw;refine lApp (i:=1) (rows2:=[[.int .u64 (devE x).1]]) ?_ (Wd.own_rd (i:=0) hw rfl)
  intro vb' w hw;have hw:Wd Γ (.own vb' 80 1 (rowsF (H.Mems.map memE++(H.Devs.take (k+1)).map devE))::.own (.slice as' ms ds) 80 1 (rowsS (H.Mems.map memE++(H.Devs.take k).map devE))::.blk b1 (hwC H a1 n1 c1 a2 n2 c2 a3 n3 c3 a4 n4 c4 a5 n5 c5)::S) w:=by
   rw[←rowsF_snoc hx];exact hw.drop
  refine byG ?_;refine lBuildSlice [[.int .u64 (devE x).2]] ?_
  intro at' w hw;refine lApp (i:=2) (rows2:=[[.int .u64 (devE x).2]]) ?_ (Wd.own_rd (i:=0) hw rfl)
  intro vs' w hw;have hw:Wd Γ (.own vb' 80 1 (rowsF (H.Mems.map memE++(H.Devs.take (k+1)).map devE))::.own vs' 80 1 (rowsS (H.Mems.map memE++(H.Devs.take (k+1)).map devE))::.blk b1 (hwC H a1 n1 c1 a2 n2 c2 a3 n3 c3 a4 n4 c4 a5 n5 c5)::S) w:=by
   rw[←rowsS_snoc hx];exact hw.drop
  refine byG ?_;exact⟨μ-1,by omega,k+1,_,_,by omega,⟨rfl,rfl,rfl,rfl,trivial⟩,hw⟩
 have hkn:¬k<n5:=by have:=of_decide_eq_false h;omega
 rw[List.take_of_length_le (l:=H.Devs) (by omega)]at hw
 clear h hkn hk;have hregs:=regs_E H
 have hel:(H.Mems.map memE++H.Devs.map devE).length≤96:=by simp;omega
 generalize H.Mems.map memE++H.Devs.map devE=E at *
 obtain⟨ab,mb,db,rfl,hmb,-,-⟩:=hw.own_shape (i:=0) rfl
 obtain⟨as',ms,ds,rfl,hms,-,-⟩:=hw.own_shape (i:=1) rfl
 simp only[rowsF,rowsS,List.length_map]at hmb hms
 have hms':ms=mb:=by omega
 subst hms';have hw:Wd Γ (.own (.slice ab ms db) 80 1 (rowsF E)::.own (.slice as' ms ds) 80 1 (rowsS E)::.blk b1 (hwC H a1 n1 c1 a2 n2 c2 a3 n3 c3 a4 n4 c4 a5 n5 c5)::S) w:=hw
 refine byG ?_;refine W_loop (fun μ ρ w=>∃(i:Nat),μ+i=ms∧Has ρ [(3,.slice ab ms db),(4,.slice as' ms ds),(7,.int .i64 i)]∧(∀(i' k:Nat) (a b:Int×Int),i'<i→k<i'→E[i']? = some a→E[k]? = some b→apartB (endE a) (endE b)=true)∧Wd Γ (.own (.slice ab ms db) 80 1 (rowsF E)::.own (.slice as' ms ds) 80 1 (rowsS E)::.blk b1 (hwC H a1 n1 c1 a2 n2 c2 a3 n3 c3 a4 n4 c4 a5 n5 c5)::S) w) ms ⟨0,by omega,⟨rfl,rfl,rfl,trivial⟩,fun i' k a b h=>by omega,hw⟩ ?_
 clear hw;rintro μ ρ w ⟨i,hi,hρ,hall,hw⟩
 rw[hρ.eq];clear hρ;refine byG ?_;refine W_cond rfl (fun h=>?_) (fun h=>?_)
 ·have hin:i<ms:=by have:=of_decide_eq_true h;omega
  clear h;obtain⟨x,hx⟩:=get_lt (l:=E) (k:=i) (by omega)
  have hxf:(rowsF E)[i]? = some [.int .u64 x.1]:=by unfold rowsF;rw[List.getElem?_map,hx];rfl
  have hxs:(rowsS E)[i]? = some [.int .u64 x.2]:=by unfold rowsS;rw[List.getElem?_map,hx];rfl
  refine byG ?_;refine W_loop (fun μ2 ρ w=>∃(k:Nat),μ2+k=i∧Has ρ [(3,.slice ab ms db),(4,.slice as' ms ds),(7,.int .i64 i),(8,.int .i64 k)]∧(∀(j:Nat) (b:Int×Int),j<k→E[j]? = some b→apartB (endE x) (endE b)=true)∧Wd Γ (.own (.slice ab ms db) 80 1 (rowsF E)::.own (.slice as' ms ds) 80 1 (rowsS E)::.blk b1 (hwC H a1 n1 c1 a2 n2 c2 a3 n3 c3 a4 n4 c4 a5 n5 c5)::S) w) i ⟨0,by omega,⟨rfl,rfl,rfl,rfl,trivial⟩,fun j b h=>by omega,hw⟩ ?_
  clear hw;rintro μ2 ρ w ⟨k,hk,hρ,hall2,hw⟩
  rw[hρ.eq];clear hρ;refine byG ?_;refine W_cond rfl (fun h2=>?_) (fun h2=>?_)
  ·have hki:k<i:=by have:=of_decide_eq_true h2;omega
   clear h2;obtain⟨y,hy⟩:=get_lt (l:=E) (k:=k) (by omega)
   unfold rowsF rowsS at hw;refine byG ?_;refine W_quiet (by kernel_rfl) (by kernel_rfl) hw ?_
   refine byQ ?_;intro w hw;have hw:Wd Γ (.own (.slice ab ms db) 80 1 (rowsF E)::.own (.slice as' ms ds) 80 1 (rowsS E)::.blk b1 (hwC H a1 n1 c1 a2 n2 c2 a3 n3 c3 a4 n4 c4 a5 n5 c5)::S) w:=hw
   refine W_cond rfl (fun h3=>?_) (fun h3=>?_)
   ·have hp:apartB (endE x) (endE y)=false:=by unfold apartB;exact congrArg (fun b=>!b) h3
    refine byG ?_;refine⟨_,rfl,ret_b rfl ?_,hw.drop.drop.drop⟩
    have:disjB H=false:=decP_f fun hP=>by
     have h5:=hP i k (endE x) (endE y) hki (by rw[hregs,List.getElem?_map,hx];rfl) (by rw[hregs,List.getElem?_map,hy];rfl)
     rw[h5]at hp;cases hp
    rw[this];rfl
   ·have hp:apartB (endE x) (endE y)=true:=by unfold apartB;exact congrArg (fun b=>!b) h3
    refine byG ?_;refine⟨μ2-1,by omega,k+1,by omega,⟨rfl,rfl,rfl,rfl,trivial⟩,fun j b hj hb=>?_,hw⟩
    by_cases e:j=k
    ·subst e;rw[hy]at hb;cases hb;exact hp
    ·exact hall2 j b (by omega) hb
  ·have hki:¬k<i:=by have:=of_decide_eq_false h2;omega
   refine byG ?_;refine⟨μ-1,by omega,i+1,by omega,⟨rfl,rfl,rfl,trivial⟩,fun i' j a b h1 h3 ha hb=>?_,hw⟩
   by_cases e:i'=i
   ·subst e;rw[hx]at ha;cases ha
    exact hall2 j b (by omega) hb
   ·exact hall i' j a b (by omega) h3 ha hb
 ·have hin:¬i<ms:=by have:=of_decide_eq_false h;omega
  refine byG ?_;refine⟨_,rfl,ret_b rfl ?_,hw.drop.drop.drop⟩
  have:disjB H=true:=decP_t fun p q a b hpq ha hb=>by
   rw[hregs,List.getElem?_map]at ha hb
   cases ha':E[p]? with
   | none=>rw[ha']at ha;cases ha
   | some a'=>
    cases hb':E[q]? with
    | none=>rw[hb']at hb;cases hb
    | some b'=>
     rw[ha']at ha;rw[hb']at hb;cases ha;cases hb
     exact hall p q a' b' (by have:=(List.getElem?_eq_some_iff.1 ha').1;omega) hpq ha' hb'
  rw[this];rfl
def markN(R:List Bool)(xs:List Int):List Bool:=xs.foldl (fun R n=>R.set n.toNat true) R
theorem markN_len:∀(xs:List Int) (R:List Bool),(markN R xs).length=R.length
 | [],R=>rfl
 | x::xs,R=>by show (markN (R.set x.toNat true) xs).length=_;rw[markN_len xs];simp
theorem markN_app(R:List Bool)(xs ys:List Int):markN R (xs++ys)=markN (markN R xs) ys:=by unfold markN;rw[List.foldl_append]
theorem markN_get:∀(xs:List Int) (R:List Bool) (k:Nat),(markN R xs)[k]? = some false→R[k]? = some false∧∀x∈xs,x.toNat≠k
 | [],R,k,h=>⟨h,by simp⟩
 | x::xs,R,k,h=>by
  obtain⟨h1,h2⟩:=markN_get xs (R.set x.toNat true) k h
  rw[List.getElem?_set]at h1;by_cases e:x.toNat=k
  ·rw[if_pos e]at h1;split at h1 <;> simp at h1
  ·rw[if_neg e]at h1;exact⟨h1,fun y hy=>by
    rcases List.mem_cons.1 hy with rfl|hy
    ·exact e
    ·exact h2 y hy⟩
theorem mark_step{α:Type}{f:α→Int}{l:List α}{R:List Bool}{L:List Int}{k:Nat}{x:α}(hx:l[k]? = some x):(markN R (L++(l.take k).map f)).set (f x).toNat true=markN R (L++(l.take (k+1)).map f):=by
 rw[take_succ_of hx,List.map_append,←List.append_assoc,markN_app _ (L++(l.take k).map f)];rfl
abbrev R64:List Bool:=List.replicate 64 false
abbrev hwCells(s:ByteArray)(a1:Option Addr)(n1 c1:Nat)(a2:Option Addr)(n2 c2:Nat)(a3:Option Addr)(n3 c3:Nat)(a4:Option Addr)(n4 c4:Nat)(a5:Option Addr)(n5 c5:Nat):Obj:=.cells #[.string s,.slice a1 n1 c1,.slice a2 n2 c2,.slice a3 n3 c3,.slice a4 n4 c4,.slice a5 n5 c5] 30
theorem rdS_facts{Γ:Gho}{S:List Res}{a:Option Addr}{n c sz:Nat}{rows:List (List Value)}(h:RdS Γ S (.slice a n c) sz rows):n=rows.length∧n≤c∧c≤9223372036854775807:=by
 obtain⟨a',n',c',e,h1,h2,h3⟩:=h.shape;cases e;exact⟨h1,h2,h3⟩
theorem Used_any{Γ:Gho}{S:List Res}{w:World}{H:HwT}{s:ByteArray}{a1:Option Addr}{n1 c1:Nat}{a2:Option Addr}{n2 c2:Nat}{a3:Option Addr}{n3 c3:Nat}{a4:Option Addr}{n4 c4:Nat}{a5:Option Addr}{n5 c5:Nat}(r1:RdS Γ S (.slice a1 n1 c1) 4 (H.Cores.map enc))(r4:RdS Γ S (.slice a4 n4 c4) 5 (H.Mems.map enc))(r5:RdS Γ S (.slice a5 n5 c5) 5 (H.Devs.map enc))(hN:∀n∈usedN H,0≤n∧n<64)(hw:Wd Γ S w) :
  Calls Tryz.prog 53 #[(.agg #[.string s,.slice a1 n1 c1,.slice a2 n2 c2,.slice a3 n3 c3,.slice a4 n4 c4,.slice a5 n5 c5])] w fun e w'=>e=.returned (.agg ((markN R64 (usedN H)).map Value.bool).toArray)∧Wd Γ S w':=by
 obtain⟨hn1,hm1,hx1⟩:=rdS_facts r1
 obtain⟨hn4,hm4,hx4⟩:=rdS_facts r4
 obtain⟨hn5,hm5,hx5⟩:=rdS_facts r5
 simp only[List.length_map]at hn1 hn4 hn5
 refine calls_of_WC Tryz.func53 rfl rfl ?_
 refine byG ?_;refine lBox ?_;intro b1 w hw;refine lAlloc ?_;intro b2 w hw;refine byG ?_;refine lAlloc ?_;intro b3 w hw;have hw:Wd Γ (.blk b3 (.cells ((markN R64 ([]++(H.Cores.take 0).map (fun c=>c.Node))).map Value.bool).toArray 127)::.blk b2 (.cells (R64.map Value.bool).toArray 127)::.blk b1 (hwCells s a1 n1 c1 a2 n2 c2 a3 n3 c3 a4 n4 c4 a5 n5 c5)::S) w:=hw
 refine byG ?_;refine W_loop (fun μ ρ w=>∃(k:Nat),μ+k=n1∧Has ρ [(1,.pointer (some ⟨b1,0,none⟩)),(2,.pointer (some ⟨b2,0,none⟩)),(3,.pointer (some ⟨b3,0,none⟩)),(4,.int .i64 (k:Nat))]∧Wd Γ (.blk b3 (.cells ((markN R64 ([]++(H.Cores.take k).map (fun c=>c.Node))).map Value.bool).toArray 127)::.blk b2 (.cells (R64.map Value.bool).toArray 127)::.blk b1 (hwCells s a1 n1 c1 a2 n2 c2 a3 n3 c3 a4 n4 c4 a5 n5 c5)::S) w) n1 ⟨0,by omega,⟨rfl,rfl,rfl,rfl,trivial⟩,hw⟩ ?_
 clear hw;rintro μ ρ w ⟨k,hk,hρ,hw⟩
 rw[hρ.eq];have q1:RdS Γ (.blk b3 (.cells ((markN R64 ([]++(H.Cores.take k).map (fun c=>c.Node))).map Value.bool).toArray 127)::.blk b2 (.cells (R64.map Value.bool).toArray 127)::.blk b1 (hwCells s a1 n1 c1 a2 n2 c2 a3 n3 c3 a4 n4 c4 a5 n5 c5)::S) (.slice a1 n1 c1) 4 (H.Cores.map enc):=r1.cons.cons.cons
 refine byG ?_;refine W_cond rfl (fun h=>?_) (fun h=>?_)
 ·have hkn:k<n1:=by simpa using h
  obtain⟨x,hx⟩:=get_lt (l:=H.Cores) (k:=k) (by omega)
  obtain⟨hx0,hx1'⟩:=hN x.Node (List.mem_append_left _ (List.mem_append_left _ (List.mem_map_of_mem (List.mem_of_getElem? hx))))
  refine byG ?_;refine lStore (o:=0+x.Node.toNat*1) (ho:=by simp[markN_len];omega) ?_
  intro w hw;have hw:Wd Γ (.blk b3 (.cells (putCells ((markN R64 ([]++(H.Cores.take k).map (fun c=>c.Node))).map Value.bool).toArray (0+x.Node.toNat*1) [.bool true]) 127)::.blk b2 (.cells (R64.map Value.bool).toArray 127)::.blk b1 (hwCells s a1 n1 c1 a2 n2 c2 a3 n3 c3 a4 n4 c4 a5 n5 c5)::S) w:=hw
  rw[putBool (by simp[markN_len];omega),mark_step (f:=fun c=>c.Node) hx]at hw
  clear q1;refine byG ?_;exact⟨μ-1,by omega,k+1,by omega,⟨rfl,rfl,rfl,rfl,trivial⟩,hw⟩
 have hkn:¬k<n1:=by simpa using h
 rw[List.take_of_length_le (l:=H.Cores) (by omega)]at hw
 clear h hkn hρ hk q1;rw[show []++H.Cores.map (fun c=>c.Node)=H.Cores.map (fun c=>c.Node)++(H.Mems.take 0).map (fun c=>c.Node) from by simp]at hw
 refine byG ?_;refine W_loop (fun μ ρ w=>∃(k:Nat),μ+k=n4∧Has ρ [(1,.pointer (some ⟨b1,0,none⟩)),(2,.pointer (some ⟨b2,0,none⟩)),(3,.pointer (some ⟨b3,0,none⟩)),(5,.int .i64 (k:Nat))]∧Wd Γ (.blk b3 (.cells ((markN R64 (H.Cores.map (fun c=>c.Node)++(H.Mems.take k).map (fun c=>c.Node))).map Value.bool).toArray 127)::.blk b2 (.cells (R64.map Value.bool).toArray 127)::.blk b1 (hwCells s a1 n1 c1 a2 n2 c2 a3 n3 c3 a4 n4 c4 a5 n5 c5)::S) w) n4 ⟨0,by omega,⟨rfl,rfl,rfl,rfl,trivial⟩,hw⟩ ?_
 clear hw;rintro μ ρ w ⟨k,hk,hρ,hw⟩
 rw[hρ.eq];have q1:RdS Γ (.blk b3 (.cells ((markN R64 (H.Cores.map (fun c=>c.Node)++(H.Mems.take k).map (fun c=>c.Node))).map Value.bool).toArray 127)::.blk b2 (.cells (R64.map Value.bool).toArray 127)::.blk b1 (hwCells s a1 n1 c1 a2 n2 c2 a3 n3 c3 a4 n4 c4 a5 n5 c5)::S) (.slice a4 n4 c4) 5 (H.Mems.map enc):=r4.cons.cons.cons
 refine byG ?_;refine W_cond rfl (fun h=>?_) (fun h=>?_)
 ·have hkn:k<n4:=by simpa using h
  obtain⟨x,hx⟩:=get_lt (l:=H.Mems) (k:=k) (by omega)
  obtain⟨hx0,hx1'⟩:=hN x.Node (List.mem_append_left _ (List.mem_append_right _ (List.mem_map_of_mem (List.mem_of_getElem? hx))))
  refine byG ?_;refine lStore (o:=0+x.Node.toNat*1) (ho:=by simp[markN_len];omega) ?_
  intro w hw;have hw:Wd Γ (.blk b3 (.cells (putCells ((markN R64 (H.Cores.map (fun c=>c.Node)++(H.Mems.take k).map (fun c=>c.Node))).map Value.bool).toArray (0+x.Node.toNat*1) [.bool true]) 127)::.blk b2 (.cells (R64.map Value.bool).toArray 127)::.blk b1 (hwCells s a1 n1 c1 a2 n2 c2 a3 n3 c3 a4 n4 c4 a5 n5 c5)::S) w:=hw
  rw[putBool (by simp[markN_len];omega),mark_step (f:=fun c=>c.Node) hx]at hw
  clear q1;refine byG ?_;exact⟨μ-1,by omega,k+1,by omega,⟨rfl,rfl,rfl,rfl,trivial⟩,hw⟩
 have hkn:¬k<n4:=by simpa using h
 rw[List.take_of_length_le (l:=H.Mems) (by omega)]at hw
 clear h hkn hρ hk q1;rw[show H.Cores.map (fun c=>c.Node)++H.Mems.map (fun c=>c.Node)=(H.Cores.map (fun c=>c.Node)++H.Mems.map (fun c=>c.Node))++(H.Devs.take 0).map (fun c=>c.Node) from by simp]at hw
 refine byG ?_;refine W_loop (fun μ ρ w=>∃(k:Nat),μ+k=n5∧Has ρ [(1,.pointer (some ⟨b1,0,none⟩)),(2,.pointer (some ⟨b2,0,none⟩)),(3,.pointer (some ⟨b3,0,none⟩)),(6,.int .i64 (k:Nat))]∧Wd Γ (.blk b3 (.cells ((markN R64 ((H.Cores.map (fun c=>c.Node)++H.Mems.map (fun c=>c.Node))++(H.Devs.take k).map (fun c=>c.Node))).map Value.bool).toArray 127)::.blk b2 (.cells (R64.map Value.bool).toArray 127)::.blk b1 (hwCells s a1 n1 c1 a2 n2 c2 a3 n3 c3 a4 n4 c4 a5 n5 c5)::S) w) n5 ⟨0,by omega,⟨rfl,rfl,rfl,rfl,trivial⟩,hw⟩ ?_
 clear hw;rintro μ ρ w ⟨k,hk,hρ,hw⟩
 rw[hρ.eq];have q1:RdS Γ (.blk b3 (.cells ((markN R64 ((H.Cores.map (fun c=>c.Node)++H.Mems.map (fun c=>c.Node))++(H.Devs.take k).map (fun c=>c.Node))).map Value.bool).toArray 127)::.blk b2 (.cells (R64.map Value.bool).toArray 127)::.blk b1 (hwCells s a1 n1 c1 a2 n2 c2 a3 n3 c3 a4 n4 c4 a5 n5 c5)::S) (.slice a5 n5 c5) 5 (H.Devs.map enc):=r5.cons.cons.cons
 refine byG ?_;refine W_cond rfl (fun h=>?_) (fun h=>?_)
 ·have hkn:k<n5:=by simpa using h
  obtain⟨x,hx⟩:=get_lt (l:=H.Devs) (k:=k) (by omega)
  obtain⟨hx0,hx1'⟩:=hN x.Node (List.mem_append_right _ (List.mem_map_of_mem (List.mem_of_getElem? hx)))
  refine byG ?_;refine lStore (o:=0+x.Node.toNat*1) (ho:=by simp[markN_len];omega) ?_
  intro w hw;have hw:Wd Γ (.blk b3 (.cells (putCells ((markN R64 ((H.Cores.map (fun c=>c.Node)++H.Mems.map (fun c=>c.Node))++(H.Devs.take k).map (fun c=>c.Node))).map Value.bool).toArray (0+x.Node.toNat*1) [.bool true]) 127)::.blk b2 (.cells (R64.map Value.bool).toArray 127)::.blk b1 (hwCells s a1 n1 c1 a2 n2 c2 a3 n3 c3 a4 n4 c4 a5 n5 c5)::S) w:=hw
  rw[putBool (by simp[markN_len];omega),mark_step (f:=fun c=>c.Node) hx]at hw
  clear q1;refine byG ?_;exact⟨μ-1,by omega,k+1,by omega,⟨rfl,rfl,rfl,rfl,trivial⟩,hw⟩
 have hkn:¬k<n5:=by simpa using h
 rw[List.take_of_length_le (l:=H.Devs) (by omega)]at hw
 clear h hkn hρ hk q1;refine byG ?_;have hl:(markN R64 (usedN H)).length=64:=by rw[markN_len];simp
 obtain⟨R,hR⟩:∃R,R=markN R64 (usedN H):=⟨_,rfl⟩
 have hw:Wd Γ (.blk b3 (.cells (R.map Value.bool).toArray 127)::.blk b2 (.cells (R64.map Value.bool).toArray 127)::.blk b1 (hwCells s a1 n1 c1 a2 n2 c2 a3 n3 c3 a4 n4 c4 a5 n5 c5)::S) w:=by rw[hR];exact hw
 rw[←hR]at hl ⊢
 refine lY (v:=.agg (R.map Value.bool).toArray) ?_ (hy:=y_lwb (i:=0) hw rfl rfl (by simp[hl]))
 refine lStore (vs:=R.map Value.bool) ?_ (hl:=by simp[hl]) (h1:=by simp[Value.oneCell']) (ho:=by simp) (hv:=by simp[Value.cells])
 intro w hw;have hw:Wd Γ (.blk b3 (.cells (R.map Value.bool).toArray 127)::.blk b2 (.cells (putCells (R64.map Value.bool).toArray 0 (R.map Value.bool)) 127)::.blk b1 (hwCells s a1 n1 c1 a2 n2 c2 a3 n3 c3 a4 n4 c4 a5 n5 c5)::S) w:=hw
 rw[show putCells (R64.map Value.bool).toArray 0 (R.map Value.bool)=(R.map Value.bool).toArray from by unfold putCells;simp[hl]]at hw
 refine byG ?_;exact⟨[.agg (R.map Value.bool).toArray],⟨resC (i:=1) hw rfl rfl (by simp[hl]),trivial⟩,rfl,hw.drop.drop.drop⟩
def coreAt(l:List CoreT)(id:Int):Int:=match l.findIdx? (fun x=>decide (x.ID=id)) with|some k=>k|none=>-1
theorem coreAt_some{l:List CoreT}{id:Int}{k:Nat}{x:CoreT}(hx:l[k]? = some x)(he:x.ID=id)(hl:∀j y,j<k→l[j]? = some y→y.ID≠id):coreAt l id=k:=by
 have:l.findIdx? (fun x=>decide (x.ID=id))=some k:=by
  obtain⟨hk,hg⟩:=List.getElem?_eq_some_iff.1 hx
  rw[List.findIdx?_eq_some_iff_getElem];refine⟨hk,by rw[hg];simpa using he,fun j hj=>?_⟩
  have:=hl j l[j] hj (List.getElem?_eq_getElem _)
  simpa using this
 unfold coreAt;rw[this]
theorem coreAt_none{l:List CoreT}{id:Int}(hl:∀y∈l,y.ID≠id):coreAt l id = -1:=by
 have:l.findIdx? (fun x=>decide (x.ID=id))=none:=by
  rw[List.findIdx?_eq_none_iff];intro y hy;simpa using hl y hy
 unfold coreAt;rw[this]
theorem coreAt_any{l:List CoreT}{id:Int}:decide (0≤coreAt l id)=l.any fun x=>decide (x.ID=id):=by
 unfold coreAt;cases h:l.findIdx? (fun x=>decide (x.ID=id)) with
 | none=>
  rw[List.findIdx?_eq_none_iff]at h;symm
  show _=false
  rw[List.any_eq_false];intro x hx;simpa using h x hx
 | some k=>
  have h0:(0:Int)≤(k:Int):=by omega
  show decide ((0:Int)≤(k:Int))=_
  rw[decide_eq_true h0];symm
  obtain⟨hk,hg,-⟩:=List.findIdx?_eq_some_iff_getElem.1 h
  exact List.any_eq_true.2 ⟨l[k],List.getElem_mem hk,hg⟩
theorem CoreAt_any{Γ:Gho}{S:List Res}{w:World}{l:List CoreT}{u0 u2 u3 u4 u5:Value}{s:ByteArray}{a1:Option Addr}{n1 c1:Nat}{id:Int}(r1:RdS Γ S (.slice a1 n1 c1) 4 (l.map enc))(hu:u0=.agg #[.string s,.slice a1 n1 c1,u2,u3,u4,u5])(h2:u2.oneCell'=true)(h3:u3.oneCell'=true)(h4:u4.oneCell'=true)(h5:u5.oneCell'=true)(hw:Wd Γ S w) :
  Calls Tryz.prog 64 #[u0,.int .i64 id] w fun e w'=>e=.returned (.int .i64 (coreAt l id))∧Wd Γ S w':=by
 subst hu;obtain⟨hn1,hm1,hx1⟩:=rdS_facts r1
 simp only[List.length_map]at hn1
 refine calls_of_W Tryz.func64 rfl rfl ?_
 refine byG ?_;refine lBox ?_;intro b1 w hw;have hw:Wd Γ (.blk b1 (.cells (#[.string s,.slice a1 n1 c1,u2,u3,u4,u5]:Array Value) 30)::S) w:=by
  have e:(Value.agg #[.string s,.slice a1 n1 c1,u2,u3,u4,u5]).cells = #[.string s,.slice a1 n1 c1,u2,u3,u4,u5]:=rfl
  rw[e]at hw;exact hw
 refine byG ?_;refine W_loop (fun μ ρ w=>∃(k:Nat),μ+k=n1∧(∀j y,j<k→l[j]? = some y→y.ID≠id)∧Has ρ [(1,.int .i64 id),(2,.pointer (some ⟨b1,0,none⟩)),(5,.int .i64 (k:Nat))]∧Wd Γ (.blk b1 (.cells (#[.string s,.slice a1 n1 c1,u2,u3,u4,u5]:Array Value) 30)::S) w) n1 ⟨0,by omega,by simp,⟨rfl,rfl,rfl,trivial⟩,hw⟩ ?_
 clear hw;rintro μ ρ w ⟨k,hk,hj,hρ,hw⟩
 rw[hρ.eq];have q1:RdS Γ (.blk b1 (.cells (#[.string s,.slice a1 n1 c1,u2,u3,u4,u5]:Array Value) 30)::S) (.slice a1 n1 c1) 4 (l.map enc):=r1.cons
 refine byG ?_;refine W_cond rfl (fun h=>?_) (fun h=>?_)
 ·have hkn:k<n1:=by simpa using h
  obtain⟨x,hx⟩:=get_lt (l:=l) (k:=k) (by omega)
  refine byG ?_;refine W_cond rfl (fun h2=>?_) (fun h2=>?_)
  ·rw[coreAt_some hx (of_decide_eq_true h2) hj];refine byG ?_;exact⟨_,rfl,rfl,hw.drop⟩
  ·refine byG ?_;refine⟨μ-1,by omega,k+1,by omega,fun j y hjk hy=>?_,⟨rfl,rfl,rfl,trivial⟩,hw⟩
   rcases Nat.lt_succ_iff_lt_or_eq.1 hjk with hlt|rfl
   ·exact hj j y hlt hy
   ·rw[hx]at hy;cases hy
    exact of_decide_eq_false h2
 have hkn:¬k<n1:=by simpa using h
 rw[coreAt_none (fun y hy=>by
  obtain⟨j,hj2⟩:=List.getElem?_of_mem hy
  exact hj j y (by have:=(List.getElem?_eq_some_iff.1 hj2).1;omega) hj2)]
 refine byG ?_;exact⟨_,rfl,rfl,hw.drop⟩
instance pg_CoreAt{Γ:Gho}{u:Value}{H:HwT}{id:Int}[hh:HwR Γ u H]:PG Tryz.prog Γ 64 [u,.int .i64 id] (.int .i64 (coreAt H.Cores id)):=⟨fun S w hw=>by
 obtain⟨a1,n1,c1,a2,n2,c2,a3,n3,c3,a4,n4,c4,a5,n5,c5,cs,rfl,-,-,-,r1,-⟩:=hh.h;exact CoreAt_any r1.rdS rfl rfl rfl rfl rfl hw⟩
theorem mark_true:∀(xs:List Int) (R:List Bool) (k:Nat),(markN R xs)[k]? = some true→R[k]? = some true∨∃x∈xs,x.toNat=k
 | [],R,k,h=>.inl h
 | x::xs,R,k,h=>by
  have h:(markN (R.set x.toNat true) xs)[k]? = some true:=h
  rcases mark_true xs _ k h with h1|⟨y,hy,he⟩
  ·by_cases e:x.toNat=k
   ·exact .inr ⟨x,by simp,e⟩
   ·rw[List.getElem?_set_ne e]at h1;exact .inl h1
  ·exact .inr ⟨y,by simp[hy],he⟩
theorem set_true_self{R:List Bool}{k:Nat}(h:R[k]? = some true):R.set k true=R:=by
 obtain⟨h1,h2⟩:=List.getElem?_eq_some_iff.1 h
 rw[←h2];exact List.set_getElem_self h1
def ClosedR(ls:List LinkT)(R:List Bool):Prop:=∀l∈ls,R.getD l.A.toNat false=R.getD l.B.toNat false
theorem connectedR_any{Γ:Gho}{S:List Res}{w:World}{u:Value}{H:HwT}[hh:HwR Γ u H](hcnt:countsB H=true)(hcr:coresRB H=true)(hrr:regionsRB H=true)(hw:Wd Γ S w):Calls Tryz.prog 67 #[u] w fun e w'=>e=.returned (.bool (connB H))∧Wd Γ S w':=by
 obtain⟨l0,l1,l2,l3,l4,l5⟩:=counts_le hcnt
 obtain⟨hNd,hLk⟩:=nodes_in hcr hrr
 obtain⟨a1,n1,c1,a2,n2,c2,a3,n3,c3,a4,n4,c4,a5,n5,c5,cs,rfl,hcs,hok,hsz,r1,r2,r3,r4,r5⟩:=hh.h;obtain⟨hn1,hm1,hx1⟩:=rep_facts r1
 obtain⟨hn3,hm3,hx3⟩:=rep_facts r3
 simp only[List.length_map]at hn1 hn3
 obtain⟨x0,hx0⟩:=get_lt (l:=H.Cores) (k:=0) (by omega)
 have hhead:(usedN H).headD 0=x0.Node:=by
  refine head_used ?_
  unfold usedN;rw[List.getElem?_append_left (by simp;omega),List.getElem?_append_left (by simp;omega),List.getElem?_map,hx0];rfl
 have hs0:0≤x0.Node∧x0.Node<64:=hNd x0.Node (by unfold usedN;simp only[List.mem_append];exact .inl (.inl (List.mem_map_of_mem (List.mem_of_getElem? hx0))))
 obtain⟨hs00,hs01⟩:=hs0;have hst:Known H.Links x0.Node ((List.replicate 64 false).set x0.Node.toNat true):=known_start (by omega)
 refine calls_of_W Tryz.func67 rfl rfl ?_
 refine byG ?_;refine lBox ?_;intro b1 w hw;refine byG ?_;refine lAlloc ?_;intro b3 w hw;have hw:Wd Γ (.blk b3 (.cells ((List.replicate 64 false).map Value.bool).toArray 127)::.blk b1 (hwC H a1 n1 c1 a2 n2 c2 a3 n3 c3 a4 n4 c4 a5 n5 c5)::S) w:=hw
 refine byG ?_;refine lStore (o:=0+x0.Node.toNat*1) (ho:=by simp;omega) ?_
 intro w hw;have hw:Wd Γ (.blk b3 (.cells (putCells ((List.replicate 64 false).map Value.bool).toArray (0+x0.Node.toNat*1) [.bool true]) 127)::.blk b1 (hwC H a1 n1 c1 a2 n2 c2 a3 n3 c3 a4 n4 c4 a5 n5 c5)::S) w:=hw
 rw[putBool (by simp;omega)]at hw
 refine byG ?_;refine W_loop (fun μ ρ w=>∃(t:Nat) (R:List Bool),μ+t=64∧Known H.Links x0.Node R∧R[x0.Node.toNat]? = some true∧(ClosedR H.Links R∨R.count false+t≤63)∧Has ρ [(1,.pointer (some ⟨b1,0,none⟩)),(3,.pointer (some ⟨b3,0,none⟩)),(4,.int .i64 t)]∧Wd Γ (.blk b3 (.cells (R.map Value.bool).toArray 127)::.blk b1 (hwC H a1 n1 c1 a2 n2 c2 a3 n3 c3 a4 n4 c4 a5 n5 c5)::S) w) 64 ⟨0,_,by omega,hst,by rw[List.getElem?_set_self (by simp;omega)],.inr (by
  have:=count_set_lt (R:=List.replicate 64 false) (k:=x0.Node.toNat) (by rw[List.getElem?_replicate,if_pos (by omega)])
  rw[List.count_replicate_self]at this;omega),⟨rfl,rfl,rfl,trivial⟩,hw⟩ ?_
 clear hw hst;rintro μ ρ w ⟨t,R,ht,hkn,hR0,hcl,hρ,hw⟩
 rw[hρ.eq];clear hρ;refine byG ?_;refine W_cond rfl (fun h=>?_) (fun h=>?_)
 ·have ht64:t<64:=by have:=of_decide_eq_true h;omega
  clear h;refine byG ?_;refine W_loop (fun μ2 ρ w=>∃(k:Nat) (R2:List Bool),μ2+k=n3∧Known H.Links x0.Node R2∧R2[x0.Node.toNat]? = some true∧((R2=R∧∀(i:Nat) (l:LinkT),i<k→H.Links[i]? = some l→R.getD l.A.toNat false=R.getD l.B.toNat false)∨(¬ClosedR H.Links R∧R2.count false+1≤R.count false))∧Has ρ [(1,.pointer (some ⟨b1,0,none⟩)),(3,.pointer (some ⟨b3,0,none⟩)),(4,.int .i64 t),(5,.int .i64 k)]∧Wd Γ (.blk b3 (.cells (R2.map Value.bool).toArray 127)::.blk b1 (hwC H a1 n1 c1 a2 n2 c2 a3 n3 c3 a4 n4 c4 a5 n5 c5)::S) w) n3 ⟨0,R,by omega,hkn,hR0,.inl ⟨rfl,fun i l h=>by omega⟩,⟨rfl,rfl,rfl,rfl,trivial⟩,hw⟩ ?_
  clear hw hR0 hkn;rintro μ2 ρ w ⟨k,R2,hk,hkn,hR0,hor,hρ,hw⟩
  rw[hρ.eq];clear hρ;have hRl:=hkn.len
  refine byG ?_;refine W_cond rfl (fun h2=>?_) (fun h2=>?_)
  ·have hkn3:k<n3:=by have:=of_decide_eq_true h2;omega
   clear h2;obtain⟨x,hx⟩:=get_lt (l:=H.Links) (k:=k) (by omega)
   obtain⟨hA0,hA1,hB0,hB1⟩:=hLk x (List.mem_of_getElem? hx)
   obtain⟨ba,hba⟩:=get_lt (l:=R2) (k:=x.A.toNat) (by omega)
   obtain⟨bb,hbb⟩:=get_lt (l:=R2) (k:=x.B.toNat) (by omega)
   have hxm:=List.mem_of_getElem? hx
   have ga:R2.getD x.A.toNat false=ba:=by rw[List.getD_eq_getElem?_getD,hba];rfl
   have gb:R2.getD x.B.toNat false=bb:=by rw[List.getD_eq_getElem?_getD,hbb];rfl
   refine byG ?_;refine lAlloc ?_;intro b6 w hw;refine lStore ?_;intro w hw;have hw:Wd Γ (.blk b6 (.cells (enc x).toArray 79)::.blk b3 (.cells (R2.map Value.bool).toArray 127)::.blk b1 (hwC H a1 n1 c1 a2 n2 c2 a3 n3 c3 a4 n4 c4 a5 n5 c5)::S) w:=hw
   refine byG ?_;refine lY (v:=.bool ba) ?_ (hy:=y_l1b (i:=1) hw rfl rfl (getBool hba))
   refine byG ?_;refine lG (v:=.bool bb) ?_ (hv:=fun hc=>y_l1b (i:=1) hw (gvT hc rfl) rfl (getBool hbb))
   refine byG ?_;refine W_cond rfl (fun h3=>?_) (fun h3=>?_)
   ·have h3:(ba||bb)=true:=h3
    refine byG ?_;refine lStore (i:=1) (o:=0+x.A.toNat*1) (ho:=by simp;omega) ?_
    intro w hw;have hw:Wd Γ (.blk b6 (.cells (enc x).toArray 79)::.blk b3 (.cells (putCells (R2.map Value.bool).toArray (0+x.A.toNat*1) [.bool true]) 127)::.blk b1 (hwC H a1 n1 c1 a2 n2 c2 a3 n3 c3 a4 n4 c4 a5 n5 c5)::S) w:=hw
    rw[putBool (by omega)]at hw
    refine byG ?_;refine lStore (i:=1) (o:=0+x.B.toNat*1) (ho:=by simp;omega) ?_
    intro w hw;have hw:Wd Γ (.blk b6 (.cells (enc x).toArray 79)::.blk b3 (.cells (putCells ((R2.set x.A.toNat true).map Value.bool).toArray (0+x.B.toNat*1) [.bool true]) 127)::.blk b1 (hwC H a1 n1 c1 a2 n2 c2 a3 n3 c3 a4 n4 c4 a5 n5 c5)::S) w:=hw
    rw[putBool (by simp;omega)]at hw
    have hRA:Reach H.Links x0.Node x.A∧Reach H.Links x0.Node x.B:=by
     cases ba with
     | true=>
      obtain⟨n,hn,hn0,hr⟩:=hkn.ok _ hba
      have:n=x.A:=by omega
      subst this;exact⟨hr,.ab hxm hr⟩
     | false=>
      have:bb=true:=by simpa using h3
      subst this;obtain⟨n,hn,hn0,hr⟩:=hkn.ok _ hbb
      have:n=x.B:=by omega
      subst this;exact⟨.ba hxm hr,hr⟩
    have hS0:((R2.set x.A.toNat true).set x.B.toNat true)[x0.Node.toNat]? = some true:=by
     rw[List.getElem?_set,List.getElem?_set];split
     ·simp;omega
     ·split
      ·simp;omega
      ·exact hR0
    have hne:ba=bb∧(R2.set x.A.toNat true).set x.B.toNat true=R2∨ba≠bb∧((R2.set x.A.toNat true).set x.B.toNat true).count false+1≤R2.count false:=by
     cases ba with
     | true=>
      rw[set_true_self hba];cases bb with
      | true=>exact .inl ⟨rfl,set_true_self hbb⟩
      | false=>exact .inr ⟨by simp,count_set_lt hbb⟩
     | false=>
      have:bb=true:=by simpa using h3
      subst this;refine .inr ⟨by simp,?_⟩
      have h5:=count_set_lt hba
      have h6:=count_set_le (R:=R2.set x.A.toNat true) (k:=x.B.toNat)
      omega
    have hcnt2:((R2.set x.A.toNat true).set x.B.toNat true).count false≤R2.count false:=Nat.le_trans count_set_le count_set_le
    refine byG ?_;refine⟨μ2-1,by omega,k+1,_,by omega,(hkn.set hA0 hRA.1).set hB0 hRA.2,hS0,?_,⟨rfl,rfl,rfl,rfl,trivial⟩,hw.drop⟩
    rcases hor with⟨h6,h7⟩|⟨h6,h7⟩
    ·rcases hne with⟨h8,h9⟩|⟨h8,h9⟩
     ·refine .inl ⟨by rw[h9];exact h6,fun i l hi hl=>?_⟩
      by_cases e:i=k
      ·subst e;rw[hx]at hl;cases hl
       rw[←h6,ga,gb,h8]
      ·exact h7 i l (by omega) hl
     ·refine .inr ⟨fun hC=>h8 ?_,by rw[←h6];exact h9⟩
      rw[←ga,←gb,h6];exact hC x hxm
    ·exact .inr ⟨h6,by omega⟩
   ·have h3:(ba||bb)=false:=h3
    have hab:ba=bb:=by cases ba <;> cases bb <;> simp_all
    refine byG ?_;refine⟨μ2-1,by omega,k+1,R2,by omega,hkn,hR0,?_,⟨rfl,rfl,rfl,rfl,trivial⟩,hw.drop⟩
    rcases hor with⟨h6,h7⟩|h6
    ·refine .inl ⟨h6,fun i l hi hl=>?_⟩
     by_cases e:i=k
     ·subst e;rw[hx]at hl;cases hl
      rw[←h6,ga,gb,hab]
     ·exact h7 i l (by omega) hl
    ·exact .inr h6
  ·have hkn3:¬k<n3:=by have:=of_decide_eq_false h2;omega
   refine byG ?_;refine⟨μ-1,by omega,t+1,R2,by omega,hkn,hR0,?_,⟨rfl,rfl,rfl,trivial⟩,hw⟩
   rcases hor with⟨h6,h7⟩|⟨h6,h7⟩
   ·left
    rw[h6];intro l hl;obtain⟨i,hi⟩:=List.getElem?_of_mem hl
    exact h7 i l (by have:=(List.getElem?_eq_some_iff.1 hi).1;omega) hi
   ·rcases hcl with h8|h8
    ·exact absurd h8 h6
    ·exact .inr (by omega)
 ·have ht64:¬t<64:=by have:=of_decide_eq_false h;omega
  have hC:ClosedR H.Links R:=by
   rcases hcl with h8|h8
   ·exact h8
   ·omega
  clear h hcl;have hRl:=hkn.len
  have hrq:∀n:Int,0≤n∧n<64→(R.getD n.toNat false=true↔Reach H.Links x0.Node n):=fun n hn=>known_iff hkn hR0 hs00 hLk hC hn
  refine byG ?_;refine lCall ((Used_any (H:=H) (s:=H.Name) r1.rdS r4.rdS r5.rdS hNd hw).mono fun e w hq=>?_)
  clear hw;obtain⟨rfl,hw⟩:=hq;refine⟨_,rfl,?_⟩;have hUl:(markN R64 (usedN H)).length=64:=by rw[markN_len];simp
  have hUt:∀k:Nat,(markN R64 (usedN H))[k]? = some true→∃n∈usedN H,n.toNat=k:=fun k hk=>by
   rcases mark_true _ _ _ hk with h1|h1
   ·rw[List.getElem?_replicate]at h1;split at h1 <;> simp at h1
   ·exact h1
  have hUf:∀k:Nat,(markN R64 (usedN H))[k]? = some false→∀n∈usedN H,n.toNat≠k:=fun k hk=>(markN_get _ _ _ hk).2
  generalize markN R64 (usedN H)=U at *
  refine byG ?_;refine lAlloc ?_;intro b7 w hw;refine lStore (vs:=U.map Value.bool) ?_ (hl:=by simp[hUl]) (h1:=by simp[Value.oneCell']) (ho:=by simp) (hv:=by simp[Value.cells])
  intro w hw;have hw:Wd Γ (.blk b7 (.cells (putCells ((List.replicate 64 false).map Value.bool).toArray 0 (U.map Value.bool)) 127)::.blk b3 (.cells (R.map Value.bool).toArray 127)::.blk b1 (hwC H a1 n1 c1 a2 n2 c2 a3 n3 c3 a4 n4 c4 a5 n5 c5)::S) w:=hw
  rw[show putCells ((List.replicate 64 false).map Value.bool).toArray 0 (U.map Value.bool)=(U.map Value.bool).toArray from by unfold putCells;simp[hUl]]at hw
  refine byG ?_;refine W_loop (fun μ ρ w=>∃(i:Nat),μ+i=64∧(∀j:Nat,j<i→U[j]? = some true→R[j]? = some true)∧Has ρ [(3,.pointer (some ⟨b3,0,none⟩)),(7,.pointer (some ⟨b7,0,none⟩)),(8,.int .i64 i)]∧Wd Γ (.blk b7 (.cells (U.map Value.bool).toArray 127)::.blk b3 (.cells (R.map Value.bool).toArray 127)::.blk b1 (hwC H a1 n1 c1 a2 n2 c2 a3 n3 c3 a4 n4 c4 a5 n5 c5)::S) w) 64 ⟨0,by omega,fun j h=>by omega,⟨rfl,rfl,rfl,trivial⟩,hw⟩ ?_
  clear hw;rintro μ ρ w ⟨i,hi,hall,hρ,hw⟩
  rw[hρ.eq];clear hρ;refine byG ?_;refine W_cond rfl (fun h=>?_) (fun h=>?_)
  ·have hin:i<64:=by have:=of_decide_eq_true h;omega
   clear h;obtain⟨bu,hbu⟩:=get_lt (l:=U) (k:=i) (by omega)
   obtain⟨br,hbr⟩:=get_lt (l:=R) (k:=i) (by omega)
   refine byG ?_;refine lY (v:=.bool bu) ?_ (hy:=y_l1b (i:=0) hw rfl rfl (getBool hbu))
   refine byG ?_;refine lG (v:=.bool br) ?_ (hv:=fun hc=>y_l1b (i:=1) hw (gvT hc rfl) rfl (getBool hbr))
   refine byG ?_;refine W_cond rfl (fun h3=>?_) (fun h3=>?_)
   ·have h3:(bu && !br)=true:=h3
    simp only[Bool.and_eq_true,Bool.not_eq_true']at h3
    obtain⟨rfl,rfl⟩:=h3;refine byG ?_;refine⟨_,rfl,ret_b rfl ?_,hw.ds [0,0,0]⟩
    obtain⟨n,hn,hni⟩:=hUt i hbu
    refine(decP_f fun hP=>?_).symm
    have h5:=hP n hn
    rw[hhead]at h5;have h6:=(hrq n (hNd n hn)).2 h5
    rw[hni,List.getD_eq_getElem?_getD,hbr]at h6;cases h6
   ·have h3:(bu && !br)=false:=h3
    refine byG ?_;refine⟨μ-1,by omega,i+1,by omega,fun j hj hu=>?_,⟨rfl,rfl,rfl,trivial⟩,hw⟩
    by_cases e:j=i
    ·subst e;rw[hbu]at hu;cases hu
     cases br with
     | true=>exact hbr
     | false=>simp at h3
    ·exact hall j (by omega) hu
  ·have hin:¬i<64:=by have:=of_decide_eq_false h;omega
   refine byG ?_;refine⟨_,rfl,ret_b rfl ?_,hw.ds [0,0,0]⟩
   refine(decP_t fun n hn=>?_).symm
   rw[hhead];have hr:=hNd n hn
   obtain⟨bu,hbu⟩:=get_lt (l:=U) (k:=n.toNat) (by omega)
   cases bu with
   | false=>exact absurd rfl (hUf _ hbu n hn)
   | true=>
    refine(hrq n hr).1 ?_
    rw[List.getD_eq_getElem?_getD,hall n.toNat (by omega) hbu];rfl
theorem nodup_succ{α:Type}{l:List α}{i:Nat}{x:α}(h:(l.take i).Nodup)(hx:l[i]? = some x)(hn:∀j y,j<i→l[j]? = some y→x≠y):(l.take (i+1)).Nodup:=by
 rw[List.take_add_one,hx];refine List.nodup_append.2 ⟨h,by simp,fun a ha b hb e=>?_⟩
 have hb:b=x:=by simpa using hb
 subst hb;subst e;obtain⟨j,hj,hja⟩:=List.getElem_of_mem ha
 have hji:j<i:=by rw[List.length_take]at hj;omega
 refine hn j a hji ?_ rfl
 have h1:(l.take i)[j]? = some a:=by rw[List.getElem?_eq_getElem hj,hja]
 rwa [List.getElem?_take,if_pos hji]at h1
theorem not_nodup{α:Type}{l:List α}{i k:Nat}{x:α}(hk:k<i)(hx:l[i]? = some x)(hy:l[k]? = some x):¬l.Nodup:=fun h=>by
 obtain⟨h1,h2⟩:=List.getElem?_eq_some_iff.1 hx
 obtain⟨h3,h4⟩:=List.getElem?_eq_some_iff.1 hy
 exact List.pairwise_iff_getElem.1 h k i h3 h1 hk (h4.trans h2.symm)
theorem mapG{α β:Type}{f:α→β}{l:List α}{i:Nat}{x:α}(h:l[i]? = some x):(l.map f)[i]? = some (f x):=by rw[List.getElem?_map,h];rfl
theorem no_step{α:Type}{l:List α}{x y:α}{k:Nat}(h:∀j z,j<k→l[j]? = some z→x≠z)(hy:l[k]? = some y)(hxy:¬x=y):∀j z,j<k+1→l[j]? = some z→x≠z:=fun j z hj hz=>by
 by_cases e:j=k
 ·subst e;rw[hy]at hz;cases hz;exact hxy
 ·exact h j z (by omega) hz
theorem twice_any{Γ:Gho}{S:List Res}{w:World}{v:Value}(xs:List Int)(hr:RepS Γ v 1 (intRows xs))(hw:Wd Γ S w) :
  Calls Tryz.prog 118 #[v] w fun e w'=>e=.returned (.bool (!decide xs.Nodup))∧Wd Γ S w':=by
 obtain⟨a,n,c,rfl,hn,hnc,hc⟩:=hr.shape;rw[show (intRows xs).length=xs.length from List.length_map ..]at hn;refine calls_of_W Tryz.func118 rfl rfl ?_
 refine byG ?_;refine W_loop (fun μ ρ w=>∃(i:Nat),μ+i=n∧Has ρ [(0,.slice a n c),(3,.int .i64 i)]∧(xs.take i).Nodup∧Wd Γ S w) n ⟨0,by omega,⟨rfl,rfl,trivial⟩,by simp,hw⟩ ?_
 clear hw;rintro μ ρ w ⟨i,hi,hρ,hnd,hw⟩
 rw[hρ.eq];refine byG ?_;refine W_cond rfl (fun h=>?_) (fun h=>?_)
 ·have hin:i<n:=by have:=of_decide_eq_true h;omega
  clear h;obtain⟨x,hx⟩:=get_lt (l:=xs) (k:=i) (by omega)
  refine byG ?_;refine W_loop (fun μ ρ w=>∃(k:Nat),μ+k=i∧Has ρ [(0,.slice a n c),(3,.int .i64 i),(4,.int .i64 k)]∧(∀j y,j<k→xs[j]? = some y→x≠y)∧Wd Γ S w) i ⟨0,by omega,⟨rfl,rfl,rfl,trivial⟩,fun j y hj=>by omega,hw⟩ ?_
  clear hw hρ;rintro μ2 ρ w ⟨k,hk,hρ,hno,hw⟩
  rw[hρ.eq];refine byG ?_;refine W_cond rfl (fun h=>?_) (fun h=>?_)
  ·have hki:k<i:=by have:=of_decide_eq_true h;omega
   clear h;obtain⟨y,hy⟩:=get_lt (l:=xs) (k:=k) (by omega)
   refine byG ?_;refine W_quiet (by kernel_rfl) (by kernel_rfl) hw ?_
   refine byQ ?_;intro w hw;refine byG ?_;refine W_cond rfl (fun h=>?_) (fun h=>?_)
   ·have h:x=y:=of_decide_eq_true h
    subst h;refine byG ?_;exact⟨_,rfl,ret_b rfl (by rw[decide_eq_false (not_nodup hki hx hy)];rfl),hw⟩
   ·have h:¬x=y:=of_decide_eq_false h
    refine byG ?_;exact⟨μ2-1,by omega,k+1,by omega,⟨rfl,rfl,rfl,trivial⟩,no_step hno hy h,hw⟩
  ·have hki:i≤k:=by have:=of_decide_eq_false h;omega
   refine byG ?_;exact⟨μ-1,by omega,i+1,by omega,⟨rfl,rfl,trivial⟩,nodup_succ hnd hx fun j y hj=>hno j y (by omega),hw⟩
 ·have hin:n≤i:=by have:=of_decide_eq_false h;omega
  rw[List.take_of_length_le (by omega)]at hnd
  refine byG ?_;exact⟨_,rfl,ret_b rfl (by rw[decide_eq_true hnd];rfl),hw⟩
theorem key_iff(x y:LinkT):(linkKey x=linkKey y)↔(x.A=y.A∧x.B=y.B∨x.A=y.B∧x.B=y.A):=by
 unfold linkKey;rw[Prod.mk.injEq];constructor
 ·rintro⟨h1,h2⟩;split at h1 <;> split at h1 <;> split at h2 <;> split at h2 <;> omega
 ·rintro (⟨h1,h2⟩|⟨h1,h2⟩)
  ·rw[h1,h2];exact⟨rfl,rfl⟩
  ·rw[h1,h2];refine⟨?_,?_⟩
   ·split <;> split <;> omega
   ·split <;> split <;> omega
theorem uniq_no{H:HwT}(h:¬(H.Cores.map (·.ID)).Nodup∨¬(H.Caches.map (·.Name)).Nodup∨¬(H.Mems.map (·.Name)).Nodup∨¬(H.Devs.map (·.Name)).Nodup∨¬(H.Devs.map (·.IRQ)).Nodup∨¬(H.Links.map linkKey).Nodup):true = !uniqueB H:=by
 unfold uniqueB;rcases h with h|h|h|h|h|h <;> rw[decide_eq_false h] <;> simp only[Bool.and_false,Bool.false_and,Bool.not_false]
theorem duplicate_any{Γ:Gho}{u:Value}{H:HwT}[hh:HwR Γ u H]{S:List Res}{w:World}(hw:Wd Γ S w) :
  Calls Tryz.prog 63 #[u] w fun e w'=>e=.returned (.bool (!uniqueB H))∧Wd Γ S w':=by
 obtain⟨a1,n1,c1,a2,n2,c2,a3,n3,c3,a4,n4,c4,a5,n5,c5,cs,rfl,hcs,hok,hsz,r1,r2,r3,r4,r5⟩:=hh.h;obtain⟨f1,f1',f1''⟩:=rep_facts r1
 obtain⟨f2,f2',f2''⟩:=rep_facts r2
 obtain⟨f3,f3',f3''⟩:=rep_facts r3
 obtain⟨f4,f4',f4''⟩:=rep_facts r4
 obtain⟨f5,f5',f5''⟩:=rep_facts r5
 simp only[List.length_map]at f1 f2 f3 f4 f5
 have hcl:cs.length=H.Caches.length:=by rw[←hcs,List.length_map]
 refine calls_of_W Tryz.func63 rfl rfl ?_
 refine byG ?_;refine lBox ?_;intro b1 w hw;have hw:Wd Γ (.blk b1 (hwC H a1 n1 c1 a2 n2 c2 a3 n3 c3 a4 n4 c4 a5 n5 c5)::S) w:=hw
 refine byG ?_;refine W_loop (fun μ ρ w=>∃(i:Nat),μ+i=n1∧Has ρ [(1,.pointer (some ⟨b1,0,none⟩)),(3,.int .i64 i)]∧(((H.Cores.map (·.ID)).take i).Nodup)∧Wd Γ (.blk b1 (hwC H a1 n1 c1 a2 n2 c2 a3 n3 c3 a4 n4 c4 a5 n5 c5)::S) w) n1 ⟨0,by omega,⟨rfl,rfl,trivial⟩,by simp,hw⟩ ?_
 clear hw;rintro μ ρ w ⟨i,hi,hρ,hnd0,hw⟩
 rw[hρ.eq];refine byG ?_;refine W_cond rfl (fun h=>?_) (fun h=>?_)
 ·have hin:i<n1:=by have:=of_decide_eq_true h;omega
  clear h;obtain⟨x,hx⟩:=get_lt (l:=H.Cores) (k:=i) (by omega)
  refine byG ?_;refine W_loop (fun μ ρ w=>∃(k:Nat),μ+k=i∧Has ρ [(1,.pointer (some ⟨b1,0,none⟩)),(3,.int .i64 i),(4,.int .i64 k)]∧((∀j y,j<k→(H.Cores.map (·.ID))[j]? = some y→((·.ID)) x≠y))∧Wd Γ (.blk b1 (hwC H a1 n1 c1 a2 n2 c2 a3 n3 c3 a4 n4 c4 a5 n5 c5)::S) w) i ⟨0,by omega,⟨rfl,rfl,rfl,trivial⟩,fun j y hj=>by omega,hw⟩ ?_
  clear hw hρ;rintro μ2 ρ w ⟨k,hk,hρ,hno0,hw⟩
  rw[hρ.eq];refine byG ?_;refine W_cond rfl (fun h=>?_) (fun h=>?_)
  ·have hki:k<i:=by have:=of_decide_eq_true h;omega
   clear h;obtain⟨y,hy⟩:=get_lt (l:=H.Cores) (k:=k) (by omega)
   refine byG ?_;refine W_quiet (by kernel_rfl) (by kernel_rfl) hw ?_
   refine byQ ?_;intro w hw;refine byG ?_;refine W_cond rfl (fun h=>?_) (fun h=>?_)
   ·have h:x.ID=y.ID:=of_decide_eq_true h
    refine byG ?_;exact⟨_,rfl,ret_b rfl (uniq_no (.inl (not_nodup hki (mapG hx) ((mapG hy).trans (congrArg some h.symm))))),hw.drop⟩
   ·have h:¬x.ID=y.ID:=of_decide_eq_false h
    refine byG ?_;exact⟨μ2-1,by omega,k+1,by omega,⟨rfl,rfl,rfl,trivial⟩,no_step hno0 (mapG hy) h,hw⟩
  have hki:i≤k:=by have:=of_decide_eq_false h;omega
  refine byG ?_;exact⟨μ-1,by omega,i+1,by omega,⟨rfl,rfl,trivial⟩,nodup_succ hnd0 (mapG hx) fun j y hj=>hno0 j y (by omega),hw⟩
 have hin:n1≤i:=by have:=of_decide_eq_false h;omega
 clear h;rw[List.take_of_length_le (by rw[List.length_map];omega)]at hnd0
 have hq10:=hnd0
 clear hi hρ hnd0;refine byG ?_;refine W_loop (fun μ ρ w=>∃(i:Nat),μ+i=n2∧Has ρ [(1,.pointer (some ⟨b1,0,none⟩)),(5,.int .i64 i)]∧(((H.Caches.map (·.Name)).take i).Nodup)∧(∀c∈H.Caches.take i,c.Cores.Nodup)∧Wd Γ (.blk b1 (hwC H a1 n1 c1 a2 n2 c2 a3 n3 c3 a4 n4 c4 a5 n5 c5)::S) w) n2 ⟨0,by omega,⟨rfl,rfl,trivial⟩,by simp,by simp,hw⟩ ?_
 clear hw;rintro μ ρ w ⟨i,hi,hρ,hnd0,hcn,hw⟩
 rw[hρ.eq];refine byG ?_;refine W_cond rfl (fun h=>?_) (fun h=>?_)
 ·have hin:i<n2:=by have:=of_decide_eq_true h;omega
  clear h;obtain⟨x,hx⟩:=get_lt (l:=cs) (k:=i) (by omega)
  obtain⟨gx1,gx2,gx3⟩:=(hok x (List.mem_of_getElem? hx)).facts
  have hxT:H.Caches[i]? = some x.T:=by rw[←hcs,List.getElem?_map,hx];rfl
  refine byG ?_;refine W_loop (fun μ ρ w=>∃(k:Nat),μ+k=i∧Has ρ [(1,.pointer (some ⟨b1,0,none⟩)),(5,.int .i64 i),(6,.int .i64 k)]∧((∀j y,j<k→(H.Caches.map (·.Name))[j]? = some y→((·.Name)) x.T≠y))∧Wd Γ (.blk b1 (hwC H a1 n1 c1 a2 n2 c2 a3 n3 c3 a4 n4 c4 a5 n5 c5)::S) w) i ⟨0,by omega,⟨rfl,rfl,rfl,trivial⟩,fun j y hj=>by omega,hw⟩ ?_
  clear hw hρ;rintro μ2 ρ w ⟨k,hk,hρ,hno0,hw⟩
  rw[hρ.eq];refine byG ?_;refine W_cond rfl (fun h=>?_) (fun h=>?_)
  ·have hki:k<i:=by have:=of_decide_eq_true h;omega
   clear h;obtain⟨y,hy⟩:=get_lt (l:=cs) (k:=k) (by omega)
   have hyT:H.Caches[k]? = some y.T:=by rw[←hcs,List.getElem?_map,hy];rfl
   refine byG ?_;refine W_quiet (by kernel_rfl) (by kernel_rfl) hw ?_
   refine byQ ?_;intro w hw;refine byG ?_;refine W_cond rfl (fun h=>?_) (fun h=>?_)
   ·have h:x.Name=y.Name:=of_decide_eq_true h
    refine byG ?_;exact⟨_,rfl,ret_b rfl (uniq_no (.inr (.inl (not_nodup hki (mapG hxT) ((mapG hyT).trans (congrArg some h.symm)))))),hw.drop⟩
   ·have h:¬x.Name=y.Name:=of_decide_eq_false h
    refine byG ?_;exact⟨μ2-1,by omega,k+1,by omega,⟨rfl,rfl,rfl,trivial⟩,no_step hno0 (mapG hyT) h,hw⟩
  have hki:i≤k:=by have:=of_decide_eq_false h;omega
  have hrd:RepS Γ (.slice x.A x.N x.C) 1 (intRows x.Cores):=hok x (List.mem_of_getElem? hx)
  refine byG ?_;refine lCall ?_;refine(twice_any x.Cores hrd hw).mono ?_
  clear hw;rintro e w ⟨rfl,hw⟩
  refine⟨_,rfl,?_⟩;refine byG ?_;refine W_cond rfl (fun h2=>?_) (fun h2=>?_)
  ·have h2:(!decide x.Cores.Nodup)=true:=h2
   have h2:¬x.Cores.Nodup:=of_decide_eq_false (notF h2)
   refine byG ?_;refine⟨_,rfl,ret_b rfl ?_,hw.drop⟩
   unfold uniqueB;rw[all_no hxT (p:=fun c=>decide c.Cores.Nodup) (decide_eq_false h2),Bool.false_and];rfl
  have h2:(!decide x.Cores.Nodup)=false:=h2
  have h2:x.Cores.Nodup:=of_decide_eq_true (notT h2)
  refine byG ?_;refine⟨μ-1,by omega,i+1,by omega,⟨rfl,rfl,trivial⟩,nodup_succ hnd0 (mapG hxT) fun j y hj=>hno0 j y (by omega),fun c hc=>?_,hw⟩
  rw[List.take_add_one,hxT]at hc;rcases List.mem_append.1 hc with q|q
  ·exact hcn c q
  ·rw[show c=x.T by simpa using q];exact h2
 have hin:n2≤i:=by have:=of_decide_eq_false h;omega
 clear h;rw[List.take_of_length_le (by rw[List.length_map];omega)]at hnd0
 rw[List.take_of_length_le (by omega)]at hcn
 have hq20:=hnd0
 clear hi hρ hnd0;refine byG ?_;refine W_loop (fun μ ρ w=>∃(i:Nat),μ+i=n4∧Has ρ [(1,.pointer (some ⟨b1,0,none⟩)),(7,.int .i64 i)]∧(((H.Mems.map (·.Name)).take i).Nodup)∧Wd Γ (.blk b1 (hwC H a1 n1 c1 a2 n2 c2 a3 n3 c3 a4 n4 c4 a5 n5 c5)::S) w) n4 ⟨0,by omega,⟨rfl,rfl,trivial⟩,by simp,hw⟩ ?_
 clear hw;rintro μ ρ w ⟨i,hi,hρ,hnd0,hw⟩
 rw[hρ.eq];refine byG ?_;refine W_cond rfl (fun h=>?_) (fun h=>?_)
 ·have hin:i<n4:=by have:=of_decide_eq_true h;omega
  clear h;obtain⟨x,hx⟩:=get_lt (l:=H.Mems) (k:=i) (by omega)
  refine byG ?_;refine W_loop (fun μ ρ w=>∃(k:Nat),μ+k=i∧Has ρ [(1,.pointer (some ⟨b1,0,none⟩)),(7,.int .i64 i),(8,.int .i64 k)]∧((∀j y,j<k→(H.Mems.map (·.Name))[j]? = some y→((·.Name)) x≠y))∧Wd Γ (.blk b1 (hwC H a1 n1 c1 a2 n2 c2 a3 n3 c3 a4 n4 c4 a5 n5 c5)::S) w) i ⟨0,by omega,⟨rfl,rfl,rfl,trivial⟩,fun j y hj=>by omega,hw⟩ ?_
  clear hw hρ;rintro μ2 ρ w ⟨k,hk,hρ,hno0,hw⟩
  rw[hρ.eq];refine byG ?_;refine W_cond rfl (fun h=>?_) (fun h=>?_)
  ·have hki:k<i:=by have:=of_decide_eq_true h;omega
   clear h;obtain⟨y,hy⟩:=get_lt (l:=H.Mems) (k:=k) (by omega)
   refine byG ?_;refine W_quiet (by kernel_rfl) (by kernel_rfl) hw ?_
   refine byQ ?_;intro w hw;refine byG ?_;refine W_cond rfl (fun h=>?_) (fun h=>?_)
   ·have h:x.Name=y.Name:=of_decide_eq_true h
    refine byG ?_;exact⟨_,rfl,ret_b rfl (uniq_no (.inr (.inr (.inl (not_nodup hki (mapG hx) ((mapG hy).trans (congrArg some h.symm))))))),hw.drop⟩
   ·have h:¬x.Name=y.Name:=of_decide_eq_false h
    refine byG ?_;exact⟨μ2-1,by omega,k+1,by omega,⟨rfl,rfl,rfl,trivial⟩,no_step hno0 (mapG hy) h,hw⟩
  have hki:i≤k:=by have:=of_decide_eq_false h;omega
  refine byG ?_;exact⟨μ-1,by omega,i+1,by omega,⟨rfl,rfl,trivial⟩,nodup_succ hnd0 (mapG hx) fun j y hj=>hno0 j y (by omega),hw⟩
 have hin:n4≤i:=by have:=of_decide_eq_false h;omega
 clear h;rw[List.take_of_length_le (by rw[List.length_map];omega)]at hnd0
 have hq40:=hnd0
 clear hi hρ hnd0;refine byG ?_;refine W_loop (fun μ ρ w=>∃(i:Nat),μ+i=n5∧Has ρ [(1,.pointer (some ⟨b1,0,none⟩)),(9,.int .i64 i)]∧(((H.Devs.map (·.Name)).take i).Nodup∧((H.Devs.map (·.IRQ)).take i).Nodup)∧Wd Γ (.blk b1 (hwC H a1 n1 c1 a2 n2 c2 a3 n3 c3 a4 n4 c4 a5 n5 c5)::S) w) n5 ⟨0,by omega,⟨rfl,rfl,trivial⟩,by simp,hw⟩ ?_
 clear hw;rintro μ ρ w ⟨i,hi,hρ,⟨hnd0,hnd1⟩,hw⟩
 rw[hρ.eq];refine byG ?_;refine W_cond rfl (fun h=>?_) (fun h=>?_)
 ·have hin:i<n5:=by have:=of_decide_eq_true h;omega
  clear h;obtain⟨x,hx⟩:=get_lt (l:=H.Devs) (k:=i) (by omega)
  refine byG ?_;refine W_loop (fun μ ρ w=>∃(k:Nat),μ+k=i∧Has ρ [(1,.pointer (some ⟨b1,0,none⟩)),(9,.int .i64 i),(10,.int .i64 k)]∧((∀j y,j<k→(H.Devs.map (·.Name))[j]? = some y→((·.Name)) x≠y)∧(∀j y,j<k→(H.Devs.map (·.IRQ))[j]? = some y→((·.IRQ)) x≠y))∧Wd Γ (.blk b1 (hwC H a1 n1 c1 a2 n2 c2 a3 n3 c3 a4 n4 c4 a5 n5 c5)::S) w) i ⟨0,by omega,⟨rfl,rfl,rfl,trivial⟩,⟨fun j y hj=>by omega,fun j y hj=>by omega⟩,hw⟩ ?_
  clear hw hρ;rintro μ2 ρ w ⟨k,hk,hρ,⟨hno0,hno1⟩,hw⟩
  rw[hρ.eq];refine byG ?_;refine W_cond rfl (fun h=>?_) (fun h=>?_)
  ·have hki:k<i:=by have:=of_decide_eq_true h;omega
   clear h;obtain⟨y,hy⟩:=get_lt (l:=H.Devs) (k:=k) (by omega)
   refine byG ?_;refine W_quiet (by kernel_rfl) (by kernel_rfl) hw ?_
   refine byQ ?_;intro w hw;refine byG ?_;refine W_cond rfl (fun h=>?_) (fun h=>?_)
   ·have h:(decide (x.Name=y.Name)||decide (x.IRQ=y.IRQ))=true:=h
    rw[Bool.or_eq_true,decide_eq_true_eq,decide_eq_true_eq]at h;refine byG ?_;refine⟨_,rfl,ret_b rfl (uniq_no (.inr (.inr (.inr ?_)))),hw.drop⟩
    rcases h with h|h
    ·exact .inl (not_nodup hki (mapG hx) ((mapG hy).trans (congrArg some h.symm)))
    ·exact .inr (.inl (not_nodup hki (mapG hx) ((mapG hy).trans (congrArg some h.symm))))
   ·have h:(decide (x.Name=y.Name)||decide (x.IRQ=y.IRQ))=false:=h
    rw[Bool.or_eq_false_iff,decide_eq_false_iff_not,decide_eq_false_iff_not]at h;refine byG ?_;exact⟨μ2-1,by omega,k+1,by omega,⟨rfl,rfl,rfl,trivial⟩,⟨no_step hno0 (mapG hy) h.1,no_step hno1 (mapG hy) h.2⟩,hw⟩
  have hki:i≤k:=by have:=of_decide_eq_false h;omega
  refine byG ?_;exact⟨μ-1,by omega,i+1,by omega,⟨rfl,rfl,trivial⟩,⟨nodup_succ hnd0 (mapG hx) fun j y hj=>hno0 j y (by omega),nodup_succ hnd1 (mapG hx) fun j y hj=>hno1 j y (by omega)⟩,hw⟩
 have hin:n5≤i:=by have:=of_decide_eq_false h;omega
 clear h;rw[List.take_of_length_le (by rw[List.length_map];omega)]at hnd0
 rw[List.take_of_length_le (by rw[List.length_map];omega)]at hnd1
 have hq50:=hnd0
 have hq51:=hnd1
 clear hi hρ hnd0 hnd1;refine byG ?_;refine W_loop (fun μ ρ w=>∃(i:Nat),μ+i=n3∧Has ρ [(1,.pointer (some ⟨b1,0,none⟩)),(11,.int .i64 i)]∧(((H.Links.map linkKey).take i).Nodup)∧Wd Γ (.blk b1 (hwC H a1 n1 c1 a2 n2 c2 a3 n3 c3 a4 n4 c4 a5 n5 c5)::S) w) n3 ⟨0,by omega,⟨rfl,rfl,trivial⟩,by simp,hw⟩ ?_
 clear hw;rintro μ ρ w ⟨i,hi,hρ,hnd0,hw⟩
 rw[hρ.eq];refine byG ?_;refine W_cond rfl (fun h=>?_) (fun h=>?_)
 ·have hin:i<n3:=by have:=of_decide_eq_true h;omega
  clear h;obtain⟨x,hx⟩:=get_lt (l:=H.Links) (k:=i) (by omega)
  refine byG ?_;refine W_loop (fun μ ρ w=>∃(k:Nat),μ+k=i∧Has ρ [(1,.pointer (some ⟨b1,0,none⟩)),(11,.int .i64 i),(12,.int .i64 k)]∧((∀j y,j<k→(H.Links.map linkKey)[j]? = some y→(linkKey) x≠y))∧Wd Γ (.blk b1 (hwC H a1 n1 c1 a2 n2 c2 a3 n3 c3 a4 n4 c4 a5 n5 c5)::S) w) i ⟨0,by omega,⟨rfl,rfl,rfl,trivial⟩,fun j y hj=>by omega,hw⟩ ?_
  clear hw hρ;rintro μ2 ρ w ⟨k,hk,hρ,hno0,hw⟩
  rw[hρ.eq];refine byG ?_;refine W_cond rfl (fun h=>?_) (fun h=>?_)
  ·have hki:k<i:=by have:=of_decide_eq_true h;omega
   clear h;obtain⟨y,hy⟩:=get_lt (l:=H.Links) (k:=k) (by omega)
   refine byG ?_;refine W_mixed [.blk b1 (hwC H a1 n1 c1 a2 n2 c2 a3 n3 c3 a4 n4 c4 a5 n5 c5)] [fun _=>[],fun _=>[],fun _=>S] [[],[],[],[],[],[],[],[],[],[],[0],[1],[0],[1]] [[],[],[],[],[],[],[],[],[],[],[0],[1],[0],[1]] [[13],[14],[]] (by have:=hw;simpa[List.range,List.range.loop,ML] using this) ?_
   refine byM ?_;refine mAlloc ?_
   refine mAlloc ?_
   refine mStoreAt ?_
   refine mStoreAt ?_
   refine mEnd fun w g hw=>?_
   have hw:Wd Γ (.blk b1 (hwC H a1 n1 c1 a2 n2 c2 a3 n3 c3 a4 n4 c4 a5 n5 c5)::atP (g 13) _::atP (g 14) _::(S++[])) w:=hw
   rw[List.append_nil]at hw;obtain⟨b13,hg13,hw⟩:=(Wd.ps [1] hw).openAt
   have hw:Wd Γ (.blk b13 (.cells (enc x).toArray 79)::.blk b1 (hwC H a1 n1 c1 a2 n2 c2 a3 n3 c3 a4 n4 c4 a5 n5 c5)::atP (g 14) _::S) w:=hw
   obtain⟨b14,hg14,hw⟩:=(Wd.ps [2] hw).openAt
   have hw:Wd Γ (.blk b14 (.cells (enc y).toArray 79)::.blk b13 (.cells (enc x).toArray 79)::.blk b1 (hwC H a1 n1 c1 a2 n2 c2 a3 n3 c3 a4 n4 c4 a5 n5 c5)::S) w:=hw
   refine W_has (l:=[(1,.pointer (some ⟨b1,0,none⟩)),(11,.int .i64 i),(12,.int .i64 k),(13,.pointer (some ⟨b13,0,none⟩)),(14,.pointer (some ⟨b14,0,none⟩))]) ⟨rfl,rfl,rfl,hg13,hg14,trivial⟩ fun ρ' hρ'=>?_
   clear hg13 hg14;rw[hρ'.eq];clear hρ';refine byG ?_;refine W_cond rfl (fun h=>?_) (fun h=>?_)
   ·have h:((decide (x.A=y.A)&&decide (x.B=y.B))||(decide (x.A=y.B)&&decide (x.B=y.A)))=true:=h
    simp only[Bool.or_eq_true,Bool.and_eq_true,decide_eq_true_eq]at h
    refine byG ?_;exact⟨_,rfl,ret_b rfl (uniq_no (.inr (.inr (.inr (.inr (.inr (not_nodup hki (mapG hx) ((mapG hy).trans (congrArg some ((key_iff x y).2 h).symm))))))))),hw.ds [0,0,0]⟩
   ·have h:((decide (x.A=y.A)&&decide (x.B=y.B))||(decide (x.A=y.B)&&decide (x.B=y.A)))=false:=h
    have h:¬linkKey x=linkKey y:=fun q=>by
     have q:=(key_iff x y).1 q
     have:((decide (x.A=y.A)&&decide (x.B=y.B))||(decide (x.A=y.B)&&decide (x.B=y.A)))=true:=by
      simp only[Bool.or_eq_true,Bool.and_eq_true,decide_eq_true_eq];exact q
     rw[h]at this;cases this
    refine byG ?_;exact⟨μ2-1,by omega,k+1,by omega,⟨rfl,rfl,rfl,trivial⟩,no_step hno0 (mapG hy) h,hw.ds [0,0]⟩
  have hki:i≤k:=by have:=of_decide_eq_false h;omega
  refine byG ?_;exact⟨μ-1,by omega,i+1,by omega,⟨rfl,rfl,trivial⟩,nodup_succ hnd0 (mapG hx) fun j y hj=>hno0 j y (by omega),hw⟩
 have hin:n3≤i:=by have:=of_decide_eq_false h;omega
 clear h;rw[List.take_of_length_le (by rw[List.length_map];omega)]at hnd0
 have hq30:=hnd0
 clear hi hρ hnd0;refine byG ?_;refine⟨_,rfl,ret_b rfl ?_,hw.drop⟩
 have hcn':H.Caches.all (fun c=>decide c.Cores.Nodup)=true:=List.all_eq_true.2 fun c hc=>decide_eq_true (hcn c hc)
 unfold uniqueB;rw[hcn',decide_eq_true hq10,decide_eq_true hq20,decide_eq_true hq40,decide_eq_true hq50,decide_eq_true hq51,decide_eq_true hq30];rfl
theorem hasR_any{Γ:Gho}{S:List Res}{w:World}{v:Value}{xs:List Int}(hr:RdS Γ S v 1 (intRows xs))(x:Int)(hw:Wd Γ S w):Calls Tryz.prog 119 #[v,.int .i64 x] w fun e w'=>e=.returned (.bool (memI x xs))∧Wd Γ S w':=by
 obtain⟨a,n,c,rfl,hn,hnc,hc⟩:=hr.shape;have hn0:=hn
 rw[show (intRows xs).length=xs.length from List.length_map ..]at hn;refine calls_of_W Tryz.func119 rfl rfl ?_
 refine byG ?_;refine W_loop (fun μ ρ w=>∃(k:Nat),μ+k=n∧Has ρ [(0,.slice a n c),(1,.int .i64 x),(5,.int .i64 k)]∧memI x xs=memI x (xs.drop k)∧Wd Γ S w) n ⟨0,by omega,⟨rfl,rfl,rfl,trivial⟩,rfl,hw⟩ ?_
 clear hw;rintro μ ρ w ⟨k,hk,hρ,hal,hw⟩
 rw[hρ.eq];refine byG ?_;refine W_cond rfl (fun h=>?_) (fun h=>?_)
 ·have hkn:k<n:=by have:=of_decide_eq_true h;omega
  clear h;obtain⟨y,hy⟩:=get_lt (l:=xs) (k:=k) (by omega)
  have hm:memI x (xs.drop k)=(decide (x=y)||memI x (xs.drop (k+1))):=by unfold memI;rw[dropG hy,List.any_cons]
  rw[hm]at hal;refine byG ?_;refine W_cond rfl (fun h=>?_) (fun h=>?_)
  ·have h:y=x:=of_decide_eq_true h
   refine byG ?_;exact⟨_,rfl,ret_b rfl (by rw[hal,decide_eq_true h.symm];rfl),hw⟩
  ·have h:¬y=x:=of_decide_eq_false h
   rw[decide_eq_false (fun q=>h q.symm),Bool.false_or]at hal;refine byG ?_;exact⟨μ-1,by omega,k+1,by omega,⟨rfl,rfl,rfl,trivial⟩,hal,hw⟩
 ·have hkn:n≤k:=by have:=of_decide_eq_false h;omega
  have:memI x (xs.drop k)=false:=by rw[List.drop_eq_nil_of_le (by omega)];rfl
  rw[this]at hal;refine byG ?_;exact⟨_,rfl,ret_b rfl hal.symm,hw⟩
instance pg_hasR{Γ:Gho}{v:Value}{xs:List Int}[hr:SlC Γ v 1 (intRows xs)](x:Int):PG Tryz.prog Γ 119 [v,.int .i64 x] (.bool (memI x xs)):=⟨fun S w hw=>hasR_any hr.h.rdS x hw⟩
def ascP(l:List Int):Prop:=∀(i:Nat) (a b:Int),l[i]? = some a→l[i+1]? = some b→a<b
def NestP(l:List CacheT):Prop:=(∀c∈l,ascP c.Cores)∧∀(i k:Nat) (a b:CacheT),l[i]? = some a→l[k]? = some b→pairB i k a b=true
theorem nested_any{Γ:Gho}{u:Value}{H:HwT}[hh:HwR Γ u H]{S:List Res}{w:World}(hw:Wd Γ S w) :
  Calls Tryz.prog 65 #[u] w fun e w'=>e=.returned (.bool (decP (NestP H.Caches)))∧Wd Γ S w':=by
 obtain⟨a1,n1,c1,a2,n2,c2,a3,n3,c3,a4,n4,c4,a5,n5,c5,cs,rfl,hcs,hok,hsz,r1,r2,r3,r4,r5⟩:=hh.h;obtain⟨hn2,hm2,hx2⟩:=rep_facts r2
 simp only[List.length_map]at hn2
 have hget:∀(i:Nat) (x:CacheH),cs[i]? = some x→H.Caches[i]? = some x.T:=fun i x h=>by rw[←hcs];simp[h]
 refine calls_of_W Tryz.func65 rfl rfl ?_
 refine byG ?_;refine lBox ?_;intro b1 w hw;have hw:Wd Γ (.blk b1 (hwC H a1 n1 c1 a2 n2 c2 a3 n3 c3 a4 n4 c4 a5 n5 c5)::S) w:=hw
 refine byG ?_;refine W_loop (fun μ ρ w=>∃(k:Nat),μ+k=n2∧Has ρ [(1,.pointer (some ⟨b1,0,none⟩)),(3,.int .i64 k)]∧(∀(i:Nat) (x:CacheH),i<k→cs[i]? = some x→ascP x.Cores)∧Wd Γ (.blk b1 (hwC H a1 n1 c1 a2 n2 c2 a3 n3 c3 a4 n4 c4 a5 n5 c5)::S) w) n2 ⟨0,by omega,⟨rfl,rfl,trivial⟩,fun i x h=>by omega,hw⟩ ?_
 clear hw;rintro μ ρ w ⟨k,hk,hρ,hall,hw⟩
 rw[hρ.eq];refine byG ?_;refine W_cond rfl (fun h=>?_) (fun h=>?_)
 ·have hkn:k<n2:=by have:=of_decide_eq_true h;omega
  clear h;obtain⟨x,hx⟩:=get_lt (l:=cs) (k:=k) (by omega)
  have hcx:=hok x (List.mem_of_getElem? hx)
  obtain⟨hxn,hxm,hxc⟩:=hcx.facts;unfold COk at hcx;refine byG ?_;refine lAlloc ?_;intro b4 w hw;refine lStore ?_;intro w hw;have hw:Wd Γ (.blk b4 (.cells (cC x).toArray 89)::.blk b1 (hwC H a1 n1 c1 a2 n2 c2 a3 n3 c3 a4 n4 c4 a5 n5 c5)::S) w:=hw
  refine byG ?_;refine W_loop (fun μ2 ρ w=>∃(j:Nat),μ2+j=x.N+1∧1≤j∧Has ρ [(1,.pointer (some ⟨b1,0,none⟩)),(3,.int .i64 k),(4,.pointer (some ⟨b4,0,none⟩)),(5,.int .i64 j)]∧(∀(i:Nat) (a b:Int),i+1<j→x.Cores[i]? = some a→x.Cores[i+1]? = some b→a<b)∧Wd Γ (.blk b4 (.cells (cC x).toArray 89)::.blk b1 (hwC H a1 n1 c1 a2 n2 c2 a3 n3 c3 a4 n4 c4 a5 n5 c5)::S) w) x.N ⟨1,by omega,by omega,⟨rfl,rfl,rfl,rfl,trivial⟩,fun i a b h=>by omega,hw⟩ ?_
  clear hw hρ;rintro μ2 ρ w ⟨j,hj,hj1,hρ,hasc,hw⟩
  rw[hρ.eq];refine byG ?_;refine W_cond rfl (fun h=>?_) (fun h=>?_)
  ·have hjn:j<x.N:=by have:=of_decide_eq_true h;omega
   clear h;obtain⟨i,rfl⟩:∃i,j=i+1:=⟨j-1,by omega⟩
   obtain⟨b,hb⟩:=get_lt (l:=x.Cores) (k:=i+1) (by omega)
   obtain⟨a,ha⟩:=get_lt (l:=x.Cores) (k:=i) (by omega)
   have ha':x.Cores[(((i+1:Nat):Int)-1).toNat]? = some a:=by rw[show (((i+1:Nat):Int)-1).toNat=i by omega];exact ha
   refine byG ?_;refine W_quiet (by kernel_rfl) (by kernel_rfl) hw ?_
   refine byQ ?_;intro w hw;refine byG ?_;refine W_cond rfl (fun h=>?_) (fun h=>?_)
   ·have h:b≤a:=of_decide_eq_true h
    refine byG ?_;refine⟨_,rfl,ret_b rfl ?_,hw.ds [0,0]⟩
    refine(decP_f fun hP=>?_).symm
    have:=hP.1 x.T (List.mem_of_getElem? (hget k x hx)) i a b ha hb
    omega
   ·have h:¬b≤a:=of_decide_eq_false h
    refine byG ?_;refine⟨μ2-1,by omega,i+1+1,by omega,by omega,⟨rfl,rfl,rfl,rfl,trivial⟩,fun i' a' b' hi' hA hB=>?_,hw⟩
    by_cases e:i'=i
    ·subst e;rw[ha]at hA;rw[hb]at hB;cases hA;cases hB;omega
    ·exact hasc i' a' b' (by omega) hA hB
  ·have hjn:x.N≤j:=by have:=of_decide_eq_false h;omega
   refine byG ?_;refine⟨μ-1,by omega,k+1,by omega,⟨rfl,rfl,trivial⟩,fun i y hi hy=>?_,hw.drop⟩
   by_cases e:i=k
   ·subst e;rw[hx]at hy;cases hy
    exact fun i a b ha hb=>hasc i a b (by have:=(List.getElem?_eq_some_iff.1 hb).1;omega) ha hb
   ·exact hall i y (by omega) hy
 have hkn:n2≤k:=by have:=of_decide_eq_false h;omega
 have hsort:∀(i:Nat) (x:CacheH),cs[i]? = some x→ascP x.Cores:=fun i x hx=>hall i x (by have:=(List.getElem?_eq_some_iff.1 hx).1;omega) hx
 clear h hkn hall hρ hk;refine byG ?_;refine W_loop (fun μ ρ w=>∃(k:Nat),μ+k=n2∧Has ρ [(1,.pointer (some ⟨b1,0,none⟩)),(6,.int .i64 k)]∧(∀(i j:Nat) (a b:CacheH),i<k→cs[i]? = some a→cs[j]? = some b→pairB i j a.T b.T=true)∧Wd Γ (.blk b1 (hwC H a1 n1 c1 a2 n2 c2 a3 n3 c3 a4 n4 c4 a5 n5 c5)::S) w) n2 ⟨0,by omega,⟨rfl,rfl,trivial⟩,fun i j a b h=>by omega,hw⟩ ?_
 clear hw;rintro μ ρ w ⟨i,hi,hρ,hall,hw⟩
 rw[hρ.eq];refine byG ?_;refine W_cond rfl (fun h=>?_) (fun h=>?_)
 ·have hin:i<n2:=by have:=of_decide_eq_true h;omega
  clear h;obtain⟨x,hx⟩:=get_lt (l:=cs) (k:=i) (by omega)
  have hcx:=hok x (List.mem_of_getElem? hx)
  obtain⟨hxn,hxm,hxc⟩:=hcx.facts;unfold COk at hcx;refine byG ?_;refine W_loop (fun μ2 ρ w=>∃(k:Nat),μ2+k=n2∧Has ρ [(1,.pointer (some ⟨b1,0,none⟩)),(6,.int .i64 i),(7,.int .i64 k)]∧(∀(j:Nat) (b:CacheH),j<k→cs[j]? = some b→pairB i j x.T b.T=true)∧Wd Γ (.blk b1 (hwC H a1 n1 c1 a2 n2 c2 a3 n3 c3 a4 n4 c4 a5 n5 c5)::S) w) n2 ⟨0,by omega,⟨rfl,rfl,rfl,trivial⟩,fun j b h=>by omega,hw⟩ ?_
  clear hw hρ;rintro μ2 ρ w ⟨k,hk,hρ,hall2,hw⟩
  rw[hρ.eq];refine byG ?_;refine W_cond rfl (fun h2=>?_) (fun h2=>?_)
  ·have hkn:k<n2:=by have:=of_decide_eq_true h2;omega
   clear h2;obtain⟨y,hy⟩:=get_lt (l:=cs) (k:=k) (by omega)
   have hcy:=hok y (List.mem_of_getElem? hy)
   obtain⟨hyn,hym,hyc⟩:=hcy.facts;haveI:SlC Γ (.slice y.A y.N y.C) 1 (intRows y.Cores):=⟨hcy⟩
   refine byG ?_;refine W_mixed [.blk b1 (hwC H a1 n1 c1 a2 n2 c2 a3 n3 c3 a4 n4 c4 a5 n5 c5)] [fun _=>[],fun _=>[],fun _=>S] [[],[],[],[],[],[],[],[],[],[],[0],[1],[0],[1]] [[],[],[],[],[],[],[],[],[],[],[0],[1],[0],[1]] [[8],[9],[]] (by have:=hw;simpa[List.range,List.range.loop,ML] using this) ?_
   refine byM ?_;refine mAlloc ?_
   refine mAlloc ?_
   refine mStoreAt ?_
   refine mStoreAt ?_
   refine mEnd fun w g hw=>?_
   have hw:Wd Γ (.blk b1 (hwC H a1 n1 c1 a2 n2 c2 a3 n3 c3 a4 n4 c4 a5 n5 c5)::atP (g 8) _::atP (g 9) _::(S++[])) w:=hw
   rw[List.append_nil]at hw;obtain⟨b8,hg8,hw⟩:=(Wd.ps [1] hw).openAt
   have hw:Wd Γ (.blk b8 (.cells (cC x).toArray 89)::.blk b1 (hwC H a1 n1 c1 a2 n2 c2 a3 n3 c3 a4 n4 c4 a5 n5 c5)::atP (g 9) _::S) w:=hw
   obtain⟨b9,hg9,hw⟩:=(Wd.ps [2] hw).openAt
   have hw:Wd Γ (.blk b9 (.cells (cC y).toArray 89)::.blk b8 (.cells (cC x).toArray 89)::.blk b1 (hwC H a1 n1 c1 a2 n2 c2 a3 n3 c3 a4 n4 c4 a5 n5 c5)::S) w:=hw
   refine W_has (l:=[(1,.pointer (some ⟨b1,0,none⟩)),(6,.int .i64 i),(7,.int .i64 k),(8,.pointer (some ⟨b8,0,none⟩)),(9,.pointer (some ⟨b9,0,none⟩))]) ⟨rfl,rfl,rfl,hg8,hg9,trivial⟩ fun ρ' hρ'=>?_
   clear hg8 hg9;rw[hρ'.eq];clear hρ';refine byG ?_;refine W_cond rfl (fun h3=>?_) (fun h3=>?_)
   ·have hp:pairB i k x.T y.T=true:=by
     have h3:(decide ((i:Int)=k)||decide (y.Level<x.Level))=true:=h3
     unfold pairB CacheH.T;rw[show decide (i=k)=decide ((i:Int)=k) from decide_eq_decide.2 (by omega)]
     rw[h3];rfl
    refine byG ?_;exact⟨μ2-1,by omega,k+1,by omega,⟨rfl,rfl,rfl,trivial⟩,allI_step (p:=fun j b=>pairB i j x.T b.T) hall2 hy hp,hw.ds [0,0]⟩
   ·have h3:(decide ((i:Int)=k)||decide (y.Level<x.Level))=false:=h3
    refine byG ?_;refine W_loop (fun μ3 ρ w=>∃(j:Nat),μ3+j=x.N∧Has ρ [(1,.pointer (some ⟨b1,0,none⟩)),(6,.int .i64 i),(7,.int .i64 k),(8,.pointer (some ⟨b8,0,none⟩)),(9,.pointer (some ⟨b9,0,none⟩)),(10,.int .i64 (sharedN (x.Cores.take j) y.Cores)),(11,.int .i64 j)]∧Wd Γ (.blk b9 (.cells (cC y).toArray 89)::.blk b8 (.cells (cC x).toArray 89)::.blk b1 (hwC H a1 n1 c1 a2 n2 c2 a3 n3 c3 a4 n4 c4 a5 n5 c5)::S) w) x.N ⟨0,by omega,⟨rfl,rfl,rfl,rfl,rfl,rfl,rfl,trivial⟩,hw⟩ ?_
    clear hw;rintro μ3 ρ w ⟨j,hj,hρ,hw⟩
    rw[hρ.eq];have hle:sharedN (x.Cores.take j) y.Cores≤j:=Nat.le_trans (List.length_filter_le _ _) (by simp;omega)
    refine byG ?_;refine W_cond rfl (fun h4=>?_) (fun h4=>?_)
    ·have hjn:j<x.N:=by have:=of_decide_eq_true h4;omega
     obtain⟨v,hv⟩:=get_lt (l:=x.Cores) (k:=j) (by omega)
     have hst:sharedN (x.Cores.take (j+1)) y.Cores=sharedN (x.Cores.take j) y.Cores+(if memI v y.Cores=true then 1 else 0):=by
      unfold sharedN;rw[take_succ_of hv,List.filter_append,List.length_append];congr 1
      by_cases e:memI v y.Cores=true <;> simp[e]
     refine byG ?_;refine W_quiet (by kernel_rfl) (by kernel_rfl) hw ?_
     refine byQ ?_;intro w hw;refine byG ?_;refine W_cond rfl (fun h5=>?_) (fun h5=>?_)
     ·rw[if_pos h5]at hst;refine byG ?_;exact⟨μ3-1,by omega,j+1,by omega,⟨rfl,rfl,rfl,rfl,rfl,by rw[hst];rfl,rfl,trivial⟩,hw⟩
     ·rw[if_neg (by rw[h5];simp)]at hst
      refine byG ?_;exact⟨μ3-1,by omega,j+1,by omega,⟨rfl,rfl,rfl,rfl,rfl,by rw[hst];rfl,rfl,trivial⟩,hw⟩
    ·have hjn:¬j<x.N:=by have:=of_decide_eq_false h4;omega
     rw[List.take_of_length_le (by omega)]
     refine byG ?_;have key:pairB i k x.T y.T = !(decide ((0:Int)<(sharedN x.Cores y.Cores:Nat))&&(decide (x.Level=y.Level)||decide (((sharedN x.Cores y.Cores:Nat):Int)<x.N))):=by
      unfold pairB CacheH.T;rw[show decide (i=k)=decide ((i:Int)=k) from decide_eq_decide.2 (by omega),h3]
      rw[show decide (0<sharedN x.Cores y.Cores)=decide ((0:Int)<(sharedN x.Cores y.Cores:Nat)) from decide_eq_decide.2 (by omega)]
      rw[show decide (sharedN x.Cores y.Cores<x.Cores.length)=decide (((sharedN x.Cores y.Cores:Nat):Int)<x.N) from decide_eq_decide.2 (by omega)]
      rfl
     refine W_cond rfl (fun h6=>?_) (fun h6=>?_)
     ·have hp:pairB i k x.T y.T=false:=key.trans (congrArg (fun b=>!b) h6)
      refine byG ?_;refine⟨_,rfl,ret_b rfl ?_,hw.ds [0,0,0]⟩
      refine(decP_f fun hP=>?_).symm
      rw[hP.2 i k x.T y.T (hget i x hx) (hget k y hy)]at hp;cases hp
     ·have hp:pairB i k x.T y.T=true:=key.trans (congrArg (fun b=>!b) h6)
      refine byG ?_;exact⟨μ2-1,by omega,k+1,by omega,⟨rfl,rfl,rfl,trivial⟩,allI_step (p:=fun j b=>pairB i j x.T b.T) hall2 hy hp,hw.ds [0,0]⟩
  ·have hkn:n2≤k:=by have:=of_decide_eq_false h2;omega
   refine byG ?_;refine⟨μ-1,by omega,i+1,by omega,⟨rfl,rfl,trivial⟩,fun i' j a b h1 ha hb=>?_,hw⟩
   by_cases e:i'=i
   ·subst e;rw[hx]at ha;cases ha
    exact hall2 j b (by have:=(List.getElem?_eq_some_iff.1 hb).1;omega) hb
   ·exact hall i' j a b (by omega) ha hb
 ·have hin:n2≤i:=by have:=of_decide_eq_false h;omega
  refine byG ?_;refine⟨_,rfl,ret_b rfl ?_,hw.drop⟩
  refine(decP_t ⟨fun c hc=>?_,fun p q a b ha hb=>?_⟩).symm
  ·rw[←hcs]at hc;obtain⟨x,hx,rfl⟩:=List.mem_map.1 hc
   obtain⟨q,hq,he⟩:=List.getElem_of_mem hx
   exact hsort q x (by rw[List.getElem?_eq_getElem hq,he])
  ·rw[←hcs,List.getElem?_map]at ha hb
   obtain⟨x,hx,rfl⟩:=Option.map_eq_some_iff.1 ha
   obtain⟨y,hy,rfl⟩:=Option.map_eq_some_iff.1 hb
   exact hall p q x y (by have:=(List.getElem?_eq_some_iff.1 hx).1;omega) hx hy
theorem nest_hier{l:List CacheT}(hn:∀c∈l,c.Cores.Nodup):NestP l↔HierP l:=by
 unfold NestP HierP;refine and_congr ⟨fun h c hc i a b ha hb=>?_,fun h c hc i a b ha hb=>?_⟩ Iff.rfl
 ·exact Int.le_of_lt (h c hc i a b ha hb)
 ·have h1:=h c hc i a b ha hb
  have h2:b≠a:=fun e=>not_nodup (Nat.lt_succ_self i) hb (by rw[e];exact ha) (hn c hc)
  omega
class WideH(H:HwT):Prop where h:MemWide H
instance pg_namesR{Γ:Gho}{u:Value}{H:HwT}[hh:HwR Γ u H]:PG Tryz.prog Γ 60 [u] (.bool (namesB H)):=⟨fun S w hw=>names_any hw⟩
instance pg_rangesR{Γ:Gho}{u:Value}{H:HwT}[hh:HwR Γ u H]:PG Tryz.prog Γ 61 [u] (.bool (coresRB H&&regionsRB H)):=⟨fun S w hw=>ranges_any hw⟩
instance pg_duplicateR{Γ:Gho}{u:Value}{H:HwT}[hh:HwR Γ u H]:PG Tryz.prog Γ 63 [u] (.bool (!uniqueB H)):=⟨fun S w hw=>duplicate_any hw⟩
theorem coreAt_neg{l:List CoreT}{id:Int}:decide (coreAt l id<0) = !(l.any fun x=>decide (x.ID=id)):=by
 rw[←coreAt_any,←decide_not];congr 1
 apply propext
 omega
theorem bool_not{b:Bool}(h:(!b)=false):b=true:=by simpa using h
instance pg_RValidate{Γ:Gho}{u:Value}{H:HwT}[hh:HwR Γ u H][hwd:WideH H]:PG Tryz.prog Γ 28 [u] (.int .i64 (validS H)):=⟨fun S w hw=>by
 have hh':=hh
 obtain⟨a1,n1,c1,a2,n2,c2,a3,n3,c3,a4,n4,c4,a5,n5,c5,cs,rfl,hcs,hok,hsz,r1,r2,r3,r4,r5⟩:=hh.h;obtain⟨hn1,hm1,hx1⟩:=rep_facts r1
 obtain⟨hn2,hm2,hx2⟩:=rep_facts r2
 obtain⟨hn3,hm3,hx3⟩:=rep_facts r3
 obtain⟨hn4,hm4,hx4⟩:=rep_facts r4
 obtain⟨hn5,hm5,hx5⟩:=rep_facts r5
 simp only[List.length_map]at hn1 hn2 hn3 hn4 hn5
 have hcl:H.Caches.length=cs.length:=by rw[←hcs,List.length_map]
 refine calls_of_W Tryz.func28 rfl rfl ?_
 refine byG ?_;refine lBox ?_;intro b1 w hw;have hw:Wd Γ (.blk b1 (hwC H a1 n1 c1 a2 n2 c2 a3 n3 c3 a4 n4 c4 a5 n5 c5)::S) w:=hw
 unfold validS;repeat first|refine byW ?_|refine byV ?_;intro w hw
 refine W_cond rfl (fun h=>?_) (fun h=>?_)
 ·rw[if_pos (by simpa using h)]
  refine byG ?_;exact⟨_,rfl,rfl,hw.drop⟩
 rw[if_neg (by rw[bool_not h];simp)]
 clear h;refine byG ?_;refine W_cond rfl (fun h=>?_) (fun h=>?_)
 ·have h:(((((decide ((n1:Int)=0)||decide ((n1:Int) > 32))||decide ((n2:Int) > 64))||decide ((n3:Int) > 256))||decide ((n4:Int) > 64))||decide ((n5:Int) > 32))=true:=h
  rw[if_pos (by
   unfold countsB;simp only[Bool.or_eq_true,decide_eq_true_eq]at h
   rw[Bool.eq_false_iff];simp only[ne_eq,Bool.and_eq_true,decide_eq_true_eq]
   omega)]
  refine byG ?_;exact⟨_,rfl,rfl,hw.drop⟩
 have h:(((((decide ((n1:Int)=0)||decide ((n1:Int) > 32))||decide ((n2:Int) > 64))||decide ((n3:Int) > 256))||decide ((n4:Int) > 64))||decide ((n5:Int) > 32))=false:=h
 have hcnt:countsB H=true:=by
  unfold countsB;simp only[Bool.or_eq_false_iff,decide_eq_false_iff_not]at h
  simp only[Bool.and_eq_true,decide_eq_true_eq]
  omega
 rw[if_neg (by rw[hcnt];simp)]
 clear h;repeat first|refine byW ?_|refine byV ?_;intro w hw
 refine W_cond rfl (fun h=>?_) (fun h=>?_)
 ·rw[if_pos (notF h)];refine byG ?_;exact⟨_,rfl,rfl,hw.drop⟩
 have h:=bool_not h
 rw[if_neg (by rw[h];simp)]
 rw[Bool.and_eq_true]at h;obtain⟨hcr,hrr⟩:=h;haveI pal:PG Tryz.prog Γ 62 [.agg #[.string H.Name,.slice a1 n1 c1,.slice a2 n2 c2,.slice a3 n3 c3,.slice a4 n4 c4,.slice a5 n5 c5]] (.bool (alignRB H)):=⟨fun S w hw=>by
  have:=aligned_any (hh:=hh') hw
  rwa [align_ref hwd.h hrr]at this⟩
 haveI pov:PG Tryz.prog Γ 66 [.agg #[.string H.Name,.slice a1 n1 c1,.slice a2 n2 c2,.slice a3 n3 c3,.slice a4 n4 c4,.slice a5 n5 c5]] (.bool (!disjB H)):=⟨fun S w hw=>overlap_any (hh:=hh') hcnt hw⟩
 haveI pco:PG Tryz.prog Γ 67 [.agg #[.string H.Name,.slice a1 n1 c1,.slice a2 n2 c2,.slice a3 n3 c3,.slice a4 n4 c4,.slice a5 n5 c5]] (.bool (connB H)):=⟨fun S w hw=>connectedR_any (hh:=hh') hcnt hcr hrr hw⟩
 repeat first|refine byW ?_|refine byV ?_;intro w hw
 refine W_cond rfl (fun h=>?_) (fun h=>?_)
 ·rw[if_pos (by simpa using h)]
  refine byG ?_;exact⟨_,rfl,rfl,hw.drop⟩
 rw[if_neg (by rw[bool_not h];simp)]
 clear h;repeat first|refine byW ?_|refine byV ?_;intro w hw
 refine W_cond rfl (fun h=>?_) (fun h=>?_)
 ·rw[if_pos (by simpa using h)]
  refine byG ?_;exact⟨_,rfl,rfl,hw.drop⟩
 have hun:=bool_not h
 rw[if_neg (by rw[hun];simp)]
 clear h;haveI pne:PG Tryz.prog Γ 65 [.agg #[.string H.Name,.slice a1 n1 c1,.slice a2 n2 c2,.slice a3 n3 c3,.slice a4 n4 c4,.slice a5 n5 c5]] (.bool (hierB H)):=⟨fun S w hw=>by
  have:=nested_any (hh:=hh') hw
  have e:decP (NestP H.Caches)=hierB H:=by
   unfold hierB;have hi:NestP H.Caches↔HierP H.Caches:=nest_hier fun c hc=>by
    unfold uniqueB at hun;simp only[Bool.and_eq_true,List.all_eq_true,decide_eq_true_eq]at hun
    exact hun.1 c hc
   by_cases hp:HierP H.Caches
   ·rw[decP_t hp,decP_t (hi.2 hp)]
   ·rw[decP_f hp,decP_f (fun h=>hp (hi.1 h))]
  rwa [e]at this⟩
 refine byG ?_;have hknown:∀(k:Nat) (x:CacheH),cs[k]? = some x→knownB H=true→∀id∈x.Cores,(H.Cores.any fun y=>decide (y.ID=id))=true:=fun k x hx hk id hid=>by
  unfold knownB at hk;simp only[List.all_eq_true]at hk
  exact hk x.T (by rw[←hcs];exact List.mem_map_of_mem (List.mem_of_getElem? hx)) id hid
 refine W_loop (fun μ ρ w=>∃(k:Nat),μ+k=n2∧Has ρ [(1,.pointer (some ⟨b1,0,none⟩)),(3,.int .i64 k)]∧(∀(i:Nat) (x:CacheH),i<k→cs[i]? = some x→∀id∈x.Cores,(H.Cores.any fun y=>decide (y.ID=id))=true)∧Wd Γ (.blk b1 (hwC H a1 n1 c1 a2 n2 c2 a3 n3 c3 a4 n4 c4 a5 n5 c5)::S) w) n2 ⟨0,by omega,⟨rfl,rfl,trivial⟩,fun i x h=>by omega,hw⟩ ?_
 clear hw;rintro μ ρ w ⟨k,hk,hρ,hall,hw⟩
 rw[hρ.eq];clear hρ;refine byG ?_;refine W_cond rfl (fun h=>?_) (fun h=>?_)
 ·have hkn:k<n2:=by have:=of_decide_eq_true h;omega
  clear h;obtain⟨x,hx⟩:=get_lt (l:=cs) (k:=k) (by omega)
  have hcx:=hok x (List.mem_of_getElem? hx)
  obtain⟨hxn,hxm,hxc⟩:=hcx.facts;unfold COk at hcx;refine byG ?_;refine W_loop (fun μ2 ρ w=>∃(j:Nat),μ2+j=x.N∧Has ρ [(1,.pointer (some ⟨b1,0,none⟩)),(3,.int .i64 k),(4,.int .i64 j)]∧(∀(i:Nat) (id:Int),i<j→x.Cores[i]? = some id→(H.Cores.any fun y=>decide (y.ID=id))=true)∧Wd Γ (.blk b1 (hwC H a1 n1 c1 a2 n2 c2 a3 n3 c3 a4 n4 c4 a5 n5 c5)::S) w) x.N ⟨0,by omega,⟨rfl,rfl,rfl,trivial⟩,fun i id h=>by omega,hw⟩ ?_
  clear hw;rintro μ2 ρ w ⟨j,hj,hρ,hall2,hw⟩
  rw[hρ.eq];clear hρ;refine byG ?_;refine W_cond rfl (fun h=>?_) (fun h=>?_)
  ·have hjn:j<x.N:=by have:=of_decide_eq_true h;omega
   clear h;obtain⟨id,hid⟩:=get_lt (l:=x.Cores) (k:=j) (by omega)
   refine byG ?_;refine W_quiet (by kernel_rfl) (by kernel_rfl) hw ?_
   refine byQ ?_;intro w hw;refine W_cond rfl (fun h=>?_) (fun h=>?_)
   ·have h:decide (coreAt H.Cores id<0)=true:=h
    rw[coreAt_neg,Bool.not_eq_true']at h;have hkf:knownB H=false:=by
     cases hkk:knownB H with
     | false=>rfl
     | true=>rw[hknown k x hx hkk id (List.mem_of_getElem? hid)]at h;cases h
    rw[if_pos hkf];refine byG ?_;exact⟨_,rfl,rfl,hw.drop⟩
   ·have h:decide (coreAt H.Cores id<0)=false:=h
    rw[coreAt_neg,Bool.not_eq_false']at h;refine byG ?_;refine⟨μ2-1,by omega,j+1,by omega,⟨rfl,rfl,rfl,trivial⟩,fun i id' hi hid'=>?_,hw⟩
    by_cases e:i=j
    ·subst e;rw[hid]at hid';cases hid';exact h
    ·exact hall2 i id' (by omega) hid'
  ·have hjn:¬j<x.N:=by have:=of_decide_eq_false h;omega
   refine byG ?_;refine⟨μ-1,by omega,k+1,by omega,⟨rfl,rfl,trivial⟩,fun i x' hi hx' id hid=>?_,hw⟩
   by_cases e:i=k
   ·subst e;rw[hx]at hx';cases hx'
    obtain⟨q,hq⟩:=List.getElem?_of_mem hid
    exact hall2 q id (by have:=(List.getElem?_eq_some_iff.1 hq).1;omega) hq
   ·exact hall i x' (by omega) hx' id hid
 ·have hkn:¬k<n2:=by have:=of_decide_eq_false h;omega
  have hkt:knownB H=true:=by
   unfold knownB;simp only[List.all_eq_true]
   intro c hc id hid;rw[←hcs]at hc;obtain⟨x,hx,rfl⟩:=List.mem_map.1 hc
   obtain⟨q,hq⟩:=List.getElem?_of_mem hx
   exact hall q x (by have:=(List.getElem?_eq_some_iff.1 hq).1;omega) hq id hid
  rw[if_neg (by rw[hkt];simp)]
  clear h;repeat first|refine byW ?_|refine byV ?_;intro w hw
  refine W_cond rfl (fun h=>?_) (fun h=>?_)
  ·rw[if_pos (by simpa using h)]
   refine byG ?_;exact⟨_,rfl,rfl,hw.drop⟩
  rw[if_neg (by rw[bool_not h];simp)]
  clear h;repeat first|refine byW ?_|refine byV ?_;intro w hw
  refine W_cond rfl (fun h=>?_) (fun h=>?_)
  ·rw[if_pos (by simpa using h)]
   refine byG ?_;exact⟨_,rfl,rfl,hw.drop⟩
  rw[if_neg (by rw[bool_not h];simp)]
  clear h;repeat first|refine byW ?_|refine byV ?_;intro w hw
  refine W_cond rfl (fun h=>?_) (fun h=>?_)
  ·rw[if_pos (by simpa using h)]
   refine byG ?_;exact⟨_,rfl,rfl,hw.drop⟩
  rw[if_neg (by rw[bool_not h];simp)]
  clear h;refine byG ?_;exact⟨_,rfl,rfl,hw.drop⟩⟩
end Go.Proofs.YtfoggcgogafocaaGreat
end
