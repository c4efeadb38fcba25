/- Texts of this proof, one behind another. -/
import Derived.Test.YthgighljhoneeaaGreatM7
set_option linter.unusedVariables false
set_option linter.unusedSimpArgs false
section
open Go Mk
namespace Go.Proofs.YthgighljhoneeaaGreat
set_option maxHeartbeats 64000000
attribute [local irreducible] Calls
attribute [local irreducible] matL
section
variable {Γ:Gho}{S:List Res}{w:World}{bh b bm:Nat}{v0 v1 v2 v3 v4 v5 w0 w2 w3 w4 w5 vl pr:Value}{a1:Option Addr}{n1 c1:Nat}{cap:Int}{ls:List IntrT}{H:HwT}{L:List Int}
def coreOf37(H:HwT)(x:StepT):Int:=(H.Cores.getD (x.Core%(H.Cores.length:Int)).toNat default).ID
noncomputable def oneS(H:HwT)(cap:Int)(L:List Int)(ls:List IntrT)(x:StepT)(irq srv:Int):List Int×AnsT:=
 stepS H cap L ls (x.Kind%8) irq (if x.Kind%8=2 then srv else coreOf37 H x) (x.Core%32) x.On
noncomputable def againS(H:HwT)(cap:Int)(L:List Int)(ls:List IntrT)(x:StepT)(irq srv:Int):Bool:=
 if x.Kind%8=0∨x.Kind%8=1 then true else if x.Kind%8=5 then decide ((detS ls irq).2.2=0)&&decide (0≤srv)
 else if x.Kind%8=7 then decide (srv=coreOf37 H x) && !decide (coreOf37 H x∈(depS H cap L ls (coreOf37 H x)).1) else false
theorem oneD_any(hd:HwD H cap)(hp:HwR Γ (Value.agg #[v0,v1,v2,v3,v4,v5]) H)(hr:HwR Γ (Value.agg #[w0,.slice a1 n1 c1,w2,w3,w4,w5]) H)(hl:RepS Γ vl 1 (intRows L))(hS:DSt H cap L ls)(x:StepT)(irq srv:Int)(hw:Wd Γ (.blk b (hoC v0 v1 v2 v3 v4 v5 cap vl bm)::linesR bm ls::.blk bh (.cells #[w0,.slice a1 n1 c1,w2,w3,w4,w5,.pointer (some ⟨b,0,none⟩),pr] 42)::S) w) :
  Calls Tryz.prog 18 #[.pointer (some ⟨bh,0,none⟩),.agg (enc x).toArray,.int .i64 irq,.int .i64 srv] w fun e w'=>∃(Γ':Gho) (vl' vn:Value),Γ.le Γ'∧e=.returned (.tuple #[vn,.bool (againS H cap L ls x irq srv)])∧RepS Γ' vl' 1 (intRows (oneS H cap L ls x irq srv).1) ∧
   Wd Γ' (.own vn 62 3 ((oneS H cap L ls x irq srv).2.2.1.map enc)::.blk b (hoC v0 v1 v2 v3 v4 v5 cap vl' bm)::linesR bm (oneS H cap L ls x irq srv).2.1::.blk bh (.cells #[w0,.slice a1 n1 c1,w2,w3,w4,w5,.pointer (some ⟨b,0,none⟩),pr] 42)::S) w':=by
 have hv:=hd.cap.v
 have hdv:=hd.dev
 have hle:=hS.len
 have hN:ls.length≤1000:=by omega
 have hr2:=hr
 obtain⟨a1',n1',c1',a2,n2,c2,a3,n3,c3,a4,n4,c4,a5,n5,c5,cs',hu,hcs,hok,hsz,r1,r2,r3,r4,r5⟩:=hr2.h;clear hr2;simp only[Value.agg.injEq,Array.mk.injEq,List.cons.injEq,and_true,Value.slice.injEq]at hu
 obtain⟨-,⟨rfl,rfl,rfl⟩,-,-,-,-⟩:=hu;obtain⟨hn1,hnc1,hcc1⟩:=rep_facts r1
 simp only[List.length_map]at hn1
 have hncl:=hd.ncl
 have hnc:=hd.nc
 haveI:PosL 8:=⟨by decide⟩
 haveI:PosL 32:=⟨by decide⟩
 obtain⟨j,hj,hje⟩:∃j:Nat,j<H.Cores.length∧x.Core%(n1:Int)=(j:Int):=⟨(x.Core%(n1:Int)).toNat,by have:=Int.emod_lt_of_pos x.Core (show (0:Int)<n1 by omega);have:=Int.emod_nonneg x.Core (show (n1:Int)≠0 by omega);omega,by have:=Int.emod_nonneg x.Core (show (n1:Int)≠0 by omega);omega⟩
 obtain⟨cc,hcc⟩:=get_lt (l:=H.Cores) (k:=j) hj
 have hCC:cc.ID=(coreOf37 H x):=by
  unfold coreOf37;rw[←hn1,hje,Int.toNat_natCast,List.getD_eq_getElem?_getD,hcc,Option.getD_some]
 haveI:PosL (n1:Int):=⟨by omega⟩
 haveI pp2:PC Tryz.prog 12 [.int .i64 x.Core,.int .i64 (n1:Int)] (.int .i64 (j:Int)):=by rw[←hje];infer_instance
 refine calls_of_W Tryz.func18 rfl rfl ?_
 repeat first|refine byW ?_|refine byV ?_;intro w hw
 refine lBox ?_;intro bx w hw;have hw:Wd Γ (.blk bx (.cells (enc x).toArray 25)::.blk b (hoC v0 v1 v2 v3 v4 v5 cap vl bm)::linesR bm ls::.blk bh (.cells #[w0,.slice a1 n1 c1,w2,w3,w4,w5,.pointer (some ⟨b,0,none⟩),pr] 42)::S) w:=hw
 have hw:Wd Γ (.blk b (hoC v0 v1 v2 v3 v4 v5 cap vl bm)::linesR bm ls::.blk bh (.cells #[w0,.slice a1 n1 c1,w2,w3,w4,w5,.pointer (some ⟨b,0,none⟩),pr] 42)::.blk bx (.cells (enc x).toArray 25)::S) w:=hw.ps [3,3,3]
 repeat first|refine byW ?_|refine byV ?_;intro w hw
 refine W_quiet (by kernel_rfl) (by kernel_rfl) hw ?_
 refine byQ ?_;intro w hw;rw[hCC];repeat first|refine byW ?_|refine byV ?_;intro w hw
 refine W_cond rfl (fun h=>?_) (fun h=>?_)
 ·have h:x.Kind%8=0:=of_decide_eq_true h
  have e1:(oneS H cap L ls x irq srv)=(L,rseS ls irq):=by unfold oneS stepS;rw[if_pos (.inl h)]
  have e2:(againS H cap L ls x irq srv)=true:=by unfold againS;rw[if_pos (.inl h)]
  repeat first|refine byW ?_|refine byV ?_;intro w hw
  refine W_cond rfl (fun h2=>?_) (fun h2=>?_)
  ·repeat first|refine byW ?_|refine byV ?_;intro w hw
   refine lCall ((Raise_R hN irq hw).mono fun e w hq=>?_)
   clear hw;obtain⟨va,rfl,hw⟩:=hq;refine⟨_,rfl,?_⟩;repeat first|refine byW ?_|refine byV ?_;intro w hw
   exact⟨_,rfl,Γ,vl,va,.refl _,by rw[e2];rfl,by rw[e1];exact hl,by rw[e1];exact hw.ds [4]⟩
  ·exact absurd h (of_decide_eq_false h2)
 have k0':¬x.Kind%8=0:=of_decide_eq_false h
 clear h;repeat first|refine byW ?_|refine byV ?_;intro w hw
 refine W_cond rfl (fun h=>?_) (fun h=>?_)
 ·have h:x.Kind%8=1:=of_decide_eq_true h
  have e1:(oneS H cap L ls x irq srv)=(L,rseS ls irq):=by unfold oneS stepS;rw[if_pos (.inr h)]
  have e2:(againS H cap L ls x irq srv)=true:=by unfold againS;rw[if_pos (.inr h)]
  repeat first|refine byW ?_|refine byV ?_;intro w hw
  refine lCall ((Raise_R hN irq hw).mono fun e w hq=>?_)
  clear hw;obtain⟨va,rfl,hw⟩:=hq;refine⟨_,rfl,?_⟩;repeat first|refine byW ?_|refine byV ?_;intro w hw
  exact⟨_,rfl,Γ,vl,va,.refl _,by rw[e2];rfl,by rw[e1];exact hl,by rw[e1];exact hw.ds [4]⟩
 have k0:¬(x.Kind%8=0∨x.Kind%8=1):=fun e=>e.elim k0' (of_decide_eq_false h)
 clear h k0';repeat first|refine byW ?_|refine byV ?_;intro w hw
 refine W_cond rfl (fun h=>?_) (fun h=>?_)
 ·have h:x.Kind%8=2:=of_decide_eq_true h
  have e1:(oneS H cap L ls x irq srv)=(L,ackS ls irq srv):=by unfold oneS stepS;rw[if_neg k0,if_pos h,if_pos h]
  have e2:(againS H cap L ls x irq srv)=false:=by unfold againS;rw[if_neg k0,if_neg (by omega),if_neg (by omega)]
  repeat first|refine byW ?_|refine byV ?_;intro w hw
  refine lCall ((Ack_R hN irq srv hw).mono fun e w hq=>?_)
  clear hw;obtain⟨va,rfl,hw⟩:=hq;refine⟨_,rfl,?_⟩;repeat first|refine byW ?_|refine byV ?_;intro w hw
  exact⟨_,rfl,Γ,vl,va,.refl _,by rw[e2];rfl,by rw[e1];exact hl,by rw[e1];exact hw.ds [4]⟩
 have k2:¬x.Kind%8=2:=of_decide_eq_false h
 clear h;repeat first|refine byW ?_|refine byV ?_;intro w hw
 refine W_cond rfl (fun h=>?_) (fun h=>?_)
 ·have h:x.Kind%8=3:=of_decide_eq_true h
  have e1:(oneS H cap L ls x irq srv)=(L,(mskS ls irq x.On)):=by unfold oneS stepS;rw[if_neg k0,if_neg k2,if_pos h]
  have e2:(againS H cap L ls x irq srv)=false:=by unfold againS;rw[if_neg k0,if_neg (by omega),if_neg (by omega)]
  repeat first|refine byW ?_|refine byV ?_;intro w hw
  have hw:Wd Γ ([.blk b (hoC v0 v1 v2 v3 v4 v5 cap vl bm),linesR bm ls]++(.blk bh (.cells #[w0,.slice a1 n1 c1,w2,w3,w4,w5,.pointer (some ⟨b,0,none⟩),pr] 42)::.blk bx (.cells (enc x).toArray 25)::S)) w:=hw
  have hwm:Wd Γ ((.blk bh (.cells #[w0,.slice a1 n1 c1,w2,w3,w4,w5,.pointer (some ⟨b,0,none⟩),pr] 42)::.blk bx (.cells (enc x).toArray 25)::S)++[.blk b (hoC v0 v1 v2 v3 v4 v5 cap vl bm),linesR bm ls]) w:=hw.perm List.perm_append_comm
  refine W_mixed (.blk bh (.cells #[w0,.slice a1 n1 c1,w2,w3,w4,w5,.pointer (some ⟨b,0,none⟩),pr] 42)::.blk bx (.cells (enc x).toArray 25)::S) [fun _=>[.blk b (hoC v0 v1 v2 v3 v4 v5 cap vl bm),linesR bm ls],fun _=>[],fun _=>[]] [[],[],[],[],[],[],[],[0],[0,1,2],[1],[],[1]] [[],[],[],[],[],[],[],[0],[0,1,2],[1],[2],[1]] [[90,82],[82,91,11],[82]] hwm ?_
  clear hwm hw;refine byM ?_;refine mS (c:=0) (v:=undef) (F:=fun _=>[.blk b (hoC v0 v1 v2 v3 v4 v5 cap vl bm),linesR bm ls]) (exC (T:=Value) (fun t g=>g 90=.tuple #[t,.int .i64 (mskS ls irq x.On).2.2]) fun t=>[.own t 62 3 ((mskS ls irq x.On).2.1.map enc),.blk b (hoC v0 v1 v2 v3 v4 v5 cap vl bm),linesR bm (mskS ls irq x.On).1]) (fun g w Y hw=>?_) ?_
  ·refine s_call (vs:=#[.pointer (some ⟨b,0,none⟩),.int .i64 irq,.bool x.On]) ?_ ((Mask_R hN irq x.On hw).mono fun e w' hq=>?_)
   ·exact EvL.eqA (xs:=[.tmp 86,.tmp 87,.tmp 89]) (vs:=[.pointer (some ⟨b,0,none⟩),.int .i64 irq,.bool x.On]) (EvL.cons (by rfl) (EvL.cons (by rfl) (EvL.cons (by rfl) EvL.nil)))
   obtain⟨t,rfl,hw2⟩:=hq;refine⟨_,rfl,fun h=>(by cases h),?_⟩
   exact exC_mk (T:=Value) (φ:=fun t g=>g 90=.tuple #[t,.int .i64 (mskS ls irq x.On).2.2]) (R:=fun t=>[.own t 62 3 ((mskS ls irq x.On).2.1.map enc),.blk b (hoC v0 v1 v2 v3 v4 v5 cap vl bm),linesR bm (mskS ls irq x.On).1]) t rfl hw2
  refine mM3 (c:=0) (c2:=1) (c3:=2) (v:=undef) (exC (T:=Value) (fun t g=>g 82=.tuple #[t,.int .i64 (mskS ls irq x.On).2.2]) fun t=>[.own t 62 3 ((mskS ls irq x.On).2.1.map enc),.blk b (hoC v0 v1 v2 v3 v4 v5 cap vl bm),linesR bm (mskS ls irq x.On).1]) (exC (T:=Value) (fun t g=>g 82=.tuple #[t,.int .i64 (mskS ls irq x.On).2.2]) fun _=>[]) (exC (T:=Value) (fun t g=>g 82=.tuple #[t,.int .i64 (mskS ls irq x.On).2.2]) fun _=>[]) (fun Y w g hw=>?_) ?_ rfl rfl
  ·have hw1:Wd Γ (((.blk bh (.cells #[w0,.slice a1 n1 c1,w2,w3,w4,w5,.pointer (some ⟨b,0,none⟩),pr] 42)::.blk bx (.cells (enc x).toArray 25)::S))++(((exC (T:=Value) (fun t g=>g 90=.tuple #[t,.int .i64 (mskS ls irq x.On).2.2]) fun t=>[.own t 62 3 ((mskS ls irq x.On).2.1.map enc),.blk b (hoC v0 v1 v2 v3 v4 v5 cap vl bm),linesR bm (mskS ls irq x.On).1]) (ovr [90,82] g noFr))++([]++([]++[]))++Y)) w:=hw
   obtain⟨t,ht,hw2⟩:=exC_open (hw1.perm perm3.symm)
   have ht:g 90=.tuple #[t,.int .i64 (mskS ls irq x.On).2.2]:=ht
   refine Yields.step (y_move (v:=.tuple #[t,.int .i64 (mskS ls irq x.On).2.2]) ht) ⟨?_,fun h=>(by cases h)⟩
   have hw3:=exC_mk (T:=Value) (φ:=fun t g=>g 82=.tuple #[t,.int .i64 (mskS ls irq x.On).2.2]) (R:=fun t=>[.own t 62 3 ((mskS ls irq x.On).2.1.map enc),.blk b (hoC v0 v1 v2 v3 v4 v5 cap vl bm),linesR bm (mskS ls irq x.On).1]) (g:=ovr [90,82] (putO g (some 82) (.tuple #[t,.int .i64 (mskS ls irq x.On).2.2])) noFr) t rfl hw2
   have hw4:=hw3.perm List.perm_append_comm
   have hw5:=exC_mk (T:=Value) (φ:=fun t g=>g 82=.tuple #[t,.int .i64 (mskS ls irq x.On).2.2]) (R:=fun _=>[]) (g:=ovr [82,91,11] (putO g (some 82) (.tuple #[t,.int .i64 (mskS ls irq x.On).2.2])) noFr) t rfl hw4
   have hw6:=exC_mk (T:=Value) (φ:=fun t g=>g 82=.tuple #[t,.int .i64 (mskS ls irq x.On).2.2]) (R:=fun _=>[]) (g:=ovr [82] (putO g (some 82) (.tuple #[t,.int .i64 (mskS ls irq x.On).2.2])) noFr) t rfl hw5
   have hw7:Wd Γ (((exC (T:=Value) (fun t g=>g 82=.tuple #[t,.int .i64 (mskS ls irq x.On).2.2]) fun _=>[]) (ovr [82] (putO g (some 82) (.tuple #[t,.int .i64 (mskS ls irq x.On).2.2])) noFr))++(((exC (T:=Value) (fun t g=>g 82=.tuple #[t,.int .i64 (mskS ls irq x.On).2.2]) fun _=>[]) (ovr [82,91,11] (putO g (some 82) (.tuple #[t,.int .i64 (mskS ls irq x.On).2.2])) noFr))++(([]++([]++(((.blk bh (.cells #[w0,.slice a1 n1 c1,w2,w3,w4,w5,.pointer (some ⟨b,0,none⟩),pr] 42)::.blk bx (.cells (enc x).toArray 25)::S))++Y)))++((exC (T:=Value) (fun t g=>g 82=.tuple #[t,.int .i64 (mskS ls irq x.On).2.2]) fun t=>[.own t 62 3 ((mskS ls irq x.On).2.1.map enc),.blk b (hoC v0 v1 v2 v3 v4 v5 cap vl bm),linesR bm (mskS ls irq x.On).1]) (ovr [90,82] (putO g (some 82) (.tuple #[t,.int .i64 (mskS ls irq x.On).2.2])) noFr))))) w:=hw6
   exact hw7.perm perm6
  refine mS (c:=1) (v:=undef) (F:=(exC (T:=Value) (fun t g=>g 82=.tuple #[t,.int .i64 (mskS ls irq x.On).2.2]) fun _=>[])) (exC (T:=Value) (fun t g=>g 82=.tuple #[t,.int .i64 (mskS ls irq x.On).2.2]∧g 91=t) fun _=>[]) (fun g w Y hw=>?_) ?_
  ·obtain⟨t,ht,hw1⟩:=exC_open hw
   have ht:g 82=.tuple #[t,.int .i64 (mskS ls irq x.On).2.2]:=ht
   refine Yields.step (y_extract (v:=t) ht rfl) ⟨fun h=>(by cases h),?_⟩
   exact exC_mk (T:=Value) (φ:=fun t g=>g 82=.tuple #[t,.int .i64 (mskS ls irq x.On).2.2]∧g 91=t) (R:=fun _=>[]) t ⟨ht,rfl⟩ hw1
  refine mC (v:=.int .i64 (mskS ls irq x.On).2.2) (fun Y w g hw=>?_) rfl rfl rfl ?_
  ·have hw1:Wd Γ (((.blk bh (.cells #[w0,.slice a1 n1 c1,w2,w3,w4,w5,.pointer (some ⟨b,0,none⟩),pr] 42)::.blk bx (.cells (enc x).toArray 25)::S))++((((exC (T:=Value) (fun t g=>g 82=.tuple #[t,.int .i64 (mskS ls irq x.On).2.2]) fun _=>[]) (ovr [82] g noFr))++[])++Y)) w:=hw
   obtain⟨t,ht,-⟩:=exC_open (hw1.perm perm1)
   exact Yields.step (y_extract (v:=.int .i64 (mskS ls irq x.On).2.2) ht rfl) ⟨rfl,hw⟩
  refine mS (c:=1) (v:=undef) (F:=(exC (T:=Value) (fun t g=>g 82=.tuple #[t,.int .i64 (mskS ls irq x.On).2.2]∧g 91=t) fun _=>[])) (exC (T:=Value) (fun t g=>g 82=.tuple #[t,.int .i64 (mskS ls irq x.On).2.2]∧g 11=t) fun _=>[]) (fun g w Y hw=>?_) ?_
  ·obtain⟨t,⟨ht,ht2⟩,hw1⟩:=exC_open hw
   have ht:g 82=.tuple #[t,.int .i64 (mskS ls irq x.On).2.2]:=ht
   have ht2:g 91=t:=ht2
   refine Yields.step (y_assign (v:=t) ht2) ⟨fun h=>(by cases h),?_⟩
   exact exC_mk (T:=Value) (φ:=fun t g=>g 82=.tuple #[t,.int .i64 (mskS ls irq x.On).2.2]∧g 11=t) (R:=fun _=>[]) t ⟨ht,rfl⟩ hw1
  refine byM ?_;refine mEnd fun w g hw=>?_
  have hw1:Wd Γ (((.blk bh (.cells #[w0,.slice a1 n1 c1,w2,w3,w4,w5,.pointer (some ⟨b,0,none⟩),pr] 42)::.blk bx (.cells (enc x).toArray 25)::S))++((((exC (T:=Value) (fun t g=>g 82=.tuple #[t,.int .i64 (mskS ls irq x.On).2.2]) fun t=>[.own t 62 3 ((mskS ls irq x.On).2.1.map enc),.blk b (hoC v0 v1 v2 v3 v4 v5 cap vl bm),linesR bm (mskS ls irq x.On).1]) (ovr [90,82] g noFr))++(((exC (T:=Value) (fun t g=>g 82=.tuple #[t,.int .i64 (mskS ls irq x.On).2.2]∧g 11=t) fun _=>[]) (ovr [82,91,11] g noFr))++(((exC (T:=Value) (fun t g=>g 82=.tuple #[t,.int .i64 (mskS ls irq x.On).2.2]) fun _=>[]) (ovr [82] g noFr))++[])))++[])) w:=by rw[List.append_nil];exact hw
  obtain⟨t,ht,hw2⟩:=exC_open (hw1.perm perm3.symm)
  have ht:g 82=.tuple #[t,.int .i64 (mskS ls irq x.On).2.2]:=ht
  have hw3:Wd Γ (((exC (T:=Value) (fun t g=>g 82=.tuple #[t,.int .i64 (mskS ls irq x.On).2.2]∧g 11=t) fun _=>[]) (ovr [82,91,11] g noFr))++(((exC (T:=Value) (fun t g=>g 82=.tuple #[t,.int .i64 (mskS ls irq x.On).2.2]) fun _=>[]) (ovr [82] g noFr))++((((.blk bh (.cells #[w0,.slice a1 n1 c1,w2,w3,w4,w5,.pointer (some ⟨b,0,none⟩),pr] 42)::.blk bx (.cells (enc x).toArray 25)::S))++[])++[.own t 62 3 ((mskS ls irq x.On).2.1.map enc),.blk b (hoC v0 v1 v2 v3 v4 v5 cap vl bm),linesR bm (mskS ls irq x.On).1]))) w:=hw2.perm perm4
  obtain⟨t2,⟨ht2,ht3⟩,hw4⟩:=exC_open hw3
  have ht2:g 82=.tuple #[t2,.int .i64 (mskS ls irq x.On).2.2]:=ht2
  have ht3:g 11=t2:=ht3
  obtain rfl:t2=t:=by
   have:=ht2.symm.trans ht
   simp at this
   exact this
  rw[List.nil_append]at hw4;obtain⟨-,-,hw5⟩:=exC_open hw4
  clear hw hw1 hw2 hw3 hw4;rw[List.append_nil,List.nil_append]at hw5;have hw:Wd Γ ([.own t2 62 3 ((mskS ls irq x.On).2.1.map enc),.blk b (hoC v0 v1 v2 v3 v4 v5 cap vl bm),linesR bm (mskS ls irq x.On).1]++((.blk bh (.cells #[w0,.slice a1 n1 c1,w2,w3,w4,w5,.pointer (some ⟨b,0,none⟩),pr] 42)::.blk bx (.cells (enc x).toArray 25)::S))) w:=hw5.perm List.perm_append_comm
  clear hw5;have hw:Wd Γ (.own t2 62 3 ((mskS ls irq x.On).2.1.map enc)::.blk b (hoC v0 v1 v2 v3 v4 v5 cap vl bm)::linesR bm (mskS ls irq x.On).1::.blk bh (.cells #[w0,.slice a1 n1 c1,w2,w3,w4,w5,.pointer (some ⟨b,0,none⟩),pr] 42)::.blk bx (.cells (enc x).toArray 25)::S) w:=hw
  repeat first|refine byW ?_|refine byV ?_;intro w hw
  exact⟨_,rfl,Γ,vl,t2,.refl _,by rw[e2,←ht3];rfl,by rw[e1];exact hl,by rw[e1];exact hw.ds [4]⟩
 have k3:¬x.Kind%8=3:=of_decide_eq_false h
 clear h;repeat first|refine byW ?_|refine byV ?_;intro w hw
 refine W_cond rfl (fun h=>?_) (fun h=>?_)
 ·have h:x.Kind%8=4:=of_decide_eq_true h
  have e1:(oneS H cap L ls x irq srv)=(L,(attS ls irq (x.Core%32))):=by unfold oneS stepS;rw[if_neg k0,if_neg k2,if_neg k3,if_pos h]
  have e2:(againS H cap L ls x irq srv)=false:=by unfold againS;rw[if_neg k0,if_neg (by omega),if_neg (by omega)]
  repeat first|refine byW ?_|refine byV ?_;intro w hw
  have hw:Wd Γ ([.blk b (hoC v0 v1 v2 v3 v4 v5 cap vl bm),linesR bm ls]++(.blk bh (.cells #[w0,.slice a1 n1 c1,w2,w3,w4,w5,.pointer (some ⟨b,0,none⟩),pr] 42)::.blk bx (.cells (enc x).toArray 25)::S)) w:=hw
  have hwm:Wd Γ ((.blk bh (.cells #[w0,.slice a1 n1 c1,w2,w3,w4,w5,.pointer (some ⟨b,0,none⟩),pr] 42)::.blk bx (.cells (enc x).toArray 25)::S)++[.blk b (hoC v0 v1 v2 v3 v4 v5 cap vl bm),linesR bm ls]) w:=hw.perm List.perm_append_comm
  refine W_mixed (.blk bh (.cells #[w0,.slice a1 n1 c1,w2,w3,w4,w5,.pointer (some ⟨b,0,none⟩),pr] 42)::.blk bx (.cells (enc x).toArray 25)::S) [fun _=>[.blk b (hoC v0 v1 v2 v3 v4 v5 cap vl bm),linesR bm ls],fun _=>[],fun _=>[]] [[],[],[],[],[],[],[],[],[0],[0,1,2],[1],[],[1]] [[],[],[],[],[],[],[],[],[0],[0,1,2],[1],[2],[1]] [[104,95],[95,105,11],[95]] hwm ?_
  clear hwm hw;refine byM ?_;refine mS (c:=0) (v:=undef) (F:=fun _=>[.blk b (hoC v0 v1 v2 v3 v4 v5 cap vl bm),linesR bm ls]) (exC (T:=Value) (fun t g=>g 104=.tuple #[t,.int .i64 (attS ls irq (x.Core%32)).2.2]) fun t=>[.own t 62 3 ((attS ls irq (x.Core%32)).2.1.map enc),.blk b (hoC v0 v1 v2 v3 v4 v5 cap vl bm),linesR bm (attS ls irq (x.Core%32)).1]) (fun g w Y hw=>?_) ?_
  ·refine s_call (vs:=#[.pointer (some ⟨b,0,none⟩),.int .i64 irq,.int .i64 (x.Core%32)]) ?_ ((Attach_R hN irq (x.Core%32) hw).mono fun e w' hq=>?_)
   ·exact EvL.eqA (xs:=[.tmp 99,.tmp 100,.tmp 103]) (vs:=[.pointer (some ⟨b,0,none⟩),.int .i64 irq,.int .i64 (x.Core%32)]) (EvL.cons (by rfl) (EvL.cons (by rfl) (EvL.cons (by rfl) EvL.nil)))
   obtain⟨t,rfl,hw2⟩:=hq;refine⟨_,rfl,fun h=>(by cases h),?_⟩
   exact exC_mk (T:=Value) (φ:=fun t g=>g 104=.tuple #[t,.int .i64 (attS ls irq (x.Core%32)).2.2]) (R:=fun t=>[.own t 62 3 ((attS ls irq (x.Core%32)).2.1.map enc),.blk b (hoC v0 v1 v2 v3 v4 v5 cap vl bm),linesR bm (attS ls irq (x.Core%32)).1]) t rfl hw2
  refine mM3 (c:=0) (c2:=1) (c3:=2) (v:=undef) (exC (T:=Value) (fun t g=>g 95=.tuple #[t,.int .i64 (attS ls irq (x.Core%32)).2.2]) fun t=>[.own t 62 3 ((attS ls irq (x.Core%32)).2.1.map enc),.blk b (hoC v0 v1 v2 v3 v4 v5 cap vl bm),linesR bm (attS ls irq (x.Core%32)).1]) (exC (T:=Value) (fun t g=>g 95=.tuple #[t,.int .i64 (attS ls irq (x.Core%32)).2.2]) fun _=>[]) (exC (T:=Value) (fun t g=>g 95=.tuple #[t,.int .i64 (attS ls irq (x.Core%32)).2.2]) fun _=>[]) (fun Y w g hw=>?_) ?_ rfl rfl
  ·have hw1:Wd Γ (((.blk bh (.cells #[w0,.slice a1 n1 c1,w2,w3,w4,w5,.pointer (some ⟨b,0,none⟩),pr] 42)::.blk bx (.cells (enc x).toArray 25)::S))++(((exC (T:=Value) (fun t g=>g 104=.tuple #[t,.int .i64 (attS ls irq (x.Core%32)).2.2]) fun t=>[.own t 62 3 ((attS ls irq (x.Core%32)).2.1.map enc),.blk b (hoC v0 v1 v2 v3 v4 v5 cap vl bm),linesR bm (attS ls irq (x.Core%32)).1]) (ovr [104,95] g noFr))++([]++([]++[]))++Y)) w:=hw
   obtain⟨t,ht,hw2⟩:=exC_open (hw1.perm perm3.symm)
   have ht:g 104=.tuple #[t,.int .i64 (attS ls irq (x.Core%32)).2.2]:=ht
   refine Yields.step (y_move (v:=.tuple #[t,.int .i64 (attS ls irq (x.Core%32)).2.2]) ht) ⟨?_,fun h=>(by cases h)⟩
   have hw3:=exC_mk (T:=Value) (φ:=fun t g=>g 95=.tuple #[t,.int .i64 (attS ls irq (x.Core%32)).2.2]) (R:=fun t=>[.own t 62 3 ((attS ls irq (x.Core%32)).2.1.map enc),.blk b (hoC v0 v1 v2 v3 v4 v5 cap vl bm),linesR bm (attS ls irq (x.Core%32)).1]) (g:=ovr [104,95] (putO g (some 95) (.tuple #[t,.int .i64 (attS ls irq (x.Core%32)).2.2])) noFr) t rfl hw2
   have hw4:=hw3.perm List.perm_append_comm
   have hw5:=exC_mk (T:=Value) (φ:=fun t g=>g 95=.tuple #[t,.int .i64 (attS ls irq (x.Core%32)).2.2]) (R:=fun _=>[]) (g:=ovr [95,105,11] (putO g (some 95) (.tuple #[t,.int .i64 (attS ls irq (x.Core%32)).2.2])) noFr) t rfl hw4
   have hw6:=exC_mk (T:=Value) (φ:=fun t g=>g 95=.tuple #[t,.int .i64 (attS ls irq (x.Core%32)).2.2]) (R:=fun _=>[]) (g:=ovr [95] (putO g (some 95) (.tuple #[t,.int .i64 (attS ls irq (x.Core%32)).2.2])) noFr) t rfl hw5
   have hw7:Wd Γ (((exC (T:=Value) (fun t g=>g 95=.tuple #[t,.int .i64 (attS ls irq (x.Core%32)).2.2]) fun _=>[]) (ovr [95] (putO g (some 95) (.tuple #[t,.int .i64 (attS ls irq (x.Core%32)).2.2])) noFr))++(((exC (T:=Value) (fun t g=>g 95=.tuple #[t,.int .i64 (attS ls irq (x.Core%32)).2.2]) fun _=>[]) (ovr [95,105,11] (putO g (some 95) (.tuple #[t,.int .i64 (attS ls irq (x.Core%32)).2.2])) noFr))++(([]++([]++(((.blk bh (.cells #[w0,.slice a1 n1 c1,w2,w3,w4,w5,.pointer (some ⟨b,0,none⟩),pr] 42)::.blk bx (.cells (enc x).toArray 25)::S))++Y)))++((exC (T:=Value) (fun t g=>g 95=.tuple #[t,.int .i64 (attS ls irq (x.Core%32)).2.2]) fun t=>[.own t 62 3 ((attS ls irq (x.Core%32)).2.1.map enc),.blk b (hoC v0 v1 v2 v3 v4 v5 cap vl bm),linesR bm (attS ls irq (x.Core%32)).1]) (ovr [104,95] (putO g (some 95) (.tuple #[t,.int .i64 (attS ls irq (x.Core%32)).2.2])) noFr))))) w:=hw6
   exact hw7.perm perm6
  refine mS (c:=1) (v:=undef) (F:=(exC (T:=Value) (fun t g=>g 95=.tuple #[t,.int .i64 (attS ls irq (x.Core%32)).2.2]) fun _=>[])) (exC (T:=Value) (fun t g=>g 95=.tuple #[t,.int .i64 (attS ls irq (x.Core%32)).2.2]∧g 105=t) fun _=>[]) (fun g w Y hw=>?_) ?_
  ·obtain⟨t,ht,hw1⟩:=exC_open hw
   have ht:g 95=.tuple #[t,.int .i64 (attS ls irq (x.Core%32)).2.2]:=ht
   refine Yields.step (y_extract (v:=t) ht rfl) ⟨fun h=>(by cases h),?_⟩
   exact exC_mk (T:=Value) (φ:=fun t g=>g 95=.tuple #[t,.int .i64 (attS ls irq (x.Core%32)).2.2]∧g 105=t) (R:=fun _=>[]) t ⟨ht,rfl⟩ hw1
  refine mC (v:=.int .i64 (attS ls irq (x.Core%32)).2.2) (fun Y w g hw=>?_) rfl rfl rfl ?_
  ·have hw1:Wd Γ (((.blk bh (.cells #[w0,.slice a1 n1 c1,w2,w3,w4,w5,.pointer (some ⟨b,0,none⟩),pr] 42)::.blk bx (.cells (enc x).toArray 25)::S))++((((exC (T:=Value) (fun t g=>g 95=.tuple #[t,.int .i64 (attS ls irq (x.Core%32)).2.2]) fun _=>[]) (ovr [95] g noFr))++[])++Y)) w:=hw
   obtain⟨t,ht,-⟩:=exC_open (hw1.perm perm1)
   exact Yields.step (y_extract (v:=.int .i64 (attS ls irq (x.Core%32)).2.2) ht rfl) ⟨rfl,hw⟩
  refine mS (c:=1) (v:=undef) (F:=(exC (T:=Value) (fun t g=>g 95=.tuple #[t,.int .i64 (attS ls irq (x.Core%32)).2.2]∧g 105=t) fun _=>[])) (exC (T:=Value) (fun t g=>g 95=.tuple #[t,.int .i64 (attS ls irq (x.Core%32)).2.2]∧g 11=t) fun _=>[]) (fun g w Y hw=>?_) ?_
  ·obtain⟨t,⟨ht,ht2⟩,hw1⟩:=exC_open hw
   have ht:g 95=.tuple #[t,.int .i64 (attS ls irq (x.Core%32)).2.2]:=ht
   have ht2:g 105=t:=ht2
   refine Yields.step (y_assign (v:=t) ht2) ⟨fun h=>(by cases h),?_⟩
   exact exC_mk (T:=Value) (φ:=fun t g=>g 95=.tuple #[t,.int .i64 (attS ls irq (x.Core%32)).2.2]∧g 11=t) (R:=fun _=>[]) t ⟨ht,rfl⟩ hw1
  refine byM ?_;refine mEnd fun w g hw=>?_
  have hw1:Wd Γ (((.blk bh (.cells #[w0,.slice a1 n1 c1,w2,w3,w4,w5,.pointer (some ⟨b,0,none⟩),pr] 42)::.blk bx (.cells (enc x).toArray 25)::S))++((((exC (T:=Value) (fun t g=>g 95=.tuple #[t,.int .i64 (attS ls irq (x.Core%32)).2.2]) fun t=>[.own t 62 3 ((attS ls irq (x.Core%32)).2.1.map enc),.blk b (hoC v0 v1 v2 v3 v4 v5 cap vl bm),linesR bm (attS ls irq (x.Core%32)).1]) (ovr [104,95] g noFr))++(((exC (T:=Value) (fun t g=>g 95=.tuple #[t,.int .i64 (attS ls irq (x.Core%32)).2.2]∧g 11=t) fun _=>[]) (ovr [95,105,11] g noFr))++(((exC (T:=Value) (fun t g=>g 95=.tuple #[t,.int .i64 (attS ls irq (x.Core%32)).2.2]) fun _=>[]) (ovr [95] g noFr))++[])))++[])) w:=by rw[List.append_nil];exact hw
  obtain⟨t,ht,hw2⟩:=exC_open (hw1.perm perm3.symm)
  have ht:g 95=.tuple #[t,.int .i64 (attS ls irq (x.Core%32)).2.2]:=ht
  have hw3:Wd Γ (((exC (T:=Value) (fun t g=>g 95=.tuple #[t,.int .i64 (attS ls irq (x.Core%32)).2.2]∧g 11=t) fun _=>[]) (ovr [95,105,11] g noFr))++(((exC (T:=Value) (fun t g=>g 95=.tuple #[t,.int .i64 (attS ls irq (x.Core%32)).2.2]) fun _=>[]) (ovr [95] g noFr))++((((.blk bh (.cells #[w0,.slice a1 n1 c1,w2,w3,w4,w5,.pointer (some ⟨b,0,none⟩),pr] 42)::.blk bx (.cells (enc x).toArray 25)::S))++[])++[.own t 62 3 ((attS ls irq (x.Core%32)).2.1.map enc),.blk b (hoC v0 v1 v2 v3 v4 v5 cap vl bm),linesR bm (attS ls irq (x.Core%32)).1]))) w:=hw2.perm perm4
  obtain⟨t2,⟨ht2,ht3⟩,hw4⟩:=exC_open hw3
  have ht2:g 95=.tuple #[t2,.int .i64 (attS ls irq (x.Core%32)).2.2]:=ht2
  have ht3:g 11=t2:=ht3
  obtain rfl:t2=t:=by
   have:=ht2.symm.trans ht
   simp at this
   exact this
  rw[List.nil_append]at hw4;obtain⟨-,-,hw5⟩:=exC_open hw4
  clear hw hw1 hw2 hw3 hw4;rw[List.append_nil,List.nil_append]at hw5;have hw:Wd Γ ([.own t2 62 3 ((attS ls irq (x.Core%32)).2.1.map enc),.blk b (hoC v0 v1 v2 v3 v4 v5 cap vl bm),linesR bm (attS ls irq (x.Core%32)).1]++((.blk bh (.cells #[w0,.slice a1 n1 c1,w2,w3,w4,w5,.pointer (some ⟨b,0,none⟩),pr] 42)::.blk bx (.cells (enc x).toArray 25)::S))) w:=hw5.perm List.perm_append_comm
  clear hw5;have hw:Wd Γ (.own t2 62 3 ((attS ls irq (x.Core%32)).2.1.map enc)::.blk b (hoC v0 v1 v2 v3 v4 v5 cap vl bm)::linesR bm (attS ls irq (x.Core%32)).1::.blk bh (.cells #[w0,.slice a1 n1 c1,w2,w3,w4,w5,.pointer (some ⟨b,0,none⟩),pr] 42)::.blk bx (.cells (enc x).toArray 25)::S) w:=hw
  repeat first|refine byW ?_|refine byV ?_;intro w hw
  exact⟨_,rfl,Γ,vl,t2,.refl _,by rw[e2,←ht3];rfl,by rw[e1];exact hl,by rw[e1];exact hw.ds [4]⟩
 have k4:¬x.Kind%8=4:=of_decide_eq_false h
 clear h;repeat first|refine byW ?_|refine byV ?_;intro w hw
 refine W_cond rfl (fun h=>?_) (fun h=>?_)
 ·have h:x.Kind%8=5:=of_decide_eq_true h
  have e1:(oneS H cap L ls x irq srv)=(L,detS ls irq):=by unfold oneS stepS;rw[if_neg k0,if_neg k2,if_neg k3,if_neg k4,if_pos h]
  have e2:(againS H cap L ls x irq srv)=(decide ((detS ls irq).2.2=0)&&decide (0≤srv)):=by unfold againS;rw[if_neg k0,if_pos h]
  have e3:(detS ls irq).2.1=[]:=by
   unfold detS;split
   ·rfl
   ·split <;> rfl
  repeat first|refine byW ?_|refine byV ?_;intro w hw
  refine lCall ((Detach_R irq hw).mono fun e w hq=>?_)
  clear hw;obtain⟨rfl,hw⟩:=hq;refine⟨_,rfl,?_⟩;have hw:=Wd.addNil (a:=none) (E:=62) (sz:=3) hw
  repeat first|refine byW ?_|refine byV ?_;intro w hw
  exact⟨_,rfl,Γ,vl,.slice none 0 0,.refl _,by rw[e2];rfl,by rw[e1];exact hl,by rw[e1];show Wd Γ (.own _ _ _ ((detS ls irq).2.1.map enc)::_) w;rw[e3];exact hw.ds [4]⟩
 have k5:¬x.Kind%8=5:=of_decide_eq_false h
 clear h;repeat first|refine byW ?_|refine byV ?_;intro w hw
 refine W_cond rfl (fun h=>?_) (fun h=>?_)
 ·have h:x.Kind%8=6:=of_decide_eq_true h
  have e1:(oneS H cap L ls x irq srv)=(joinS H cap L ls (coreOf37 H x)):=by unfold oneS stepS;rw[if_neg k0,if_neg k2,if_neg k3,if_neg k4,if_neg k5,if_pos h,if_neg k2]
  have e2:(againS H cap L ls x irq srv)=false:=by unfold againS;rw[if_neg k0,if_neg k5,if_neg (by omega)]
  have e3:(joinS H cap L ls (coreOf37 H x)).2.2.1=[]:=by
   unfold joinS;split
   ·rfl
   ·split <;> rfl
  repeat first|refine byW ?_|refine byV ?_;intro w hw
  refine lCall ((Join_R (hh:=hp) hd.cap hdv hl hS (coreOf37 H x) hw).mono fun e w hq=>?_)
  clear hw;obtain⟨Γ1,vl1,hle1,rfl,q1,hw⟩:=hq;refine⟨_,rfl,?_⟩;have hw:=Wd.addNil (a:=none) (E:=62) (sz:=3) hw
  repeat first|refine byW ?_|refine byV ?_;intro w hw
  exact⟨_,rfl,Γ1,vl1,.slice none 0 0,hle1,by rw[e2];rfl,by rw[e1];exact q1,by rw[e1];show Wd Γ1 (.own _ _ _ ((joinS H cap L ls (coreOf37 H x)).2.2.1.map enc)::_) w;rw[e3];exact hw.ds [4]⟩
 have k6:¬x.Kind%8=6:=of_decide_eq_false h
 clear h;have k7:x.Kind%8=7:=by have:=Int.emod_nonneg x.Kind (show (8:Int)≠0 by omega);have:=Int.emod_lt_of_pos x.Kind (show (0:Int)<8 by omega);omega
 have e1:(oneS H cap L ls x irq srv)=(depS H cap L ls (coreOf37 H x)):=by unfold oneS stepS;rw[if_neg k0,if_neg k2,if_neg k3,if_neg k4,if_neg k5,if_neg k6,if_neg k2]
 have e2:(againS H cap L ls x irq srv)=(decide (srv=(coreOf37 H x)) && !decide ((coreOf37 H x)∈(depS H cap L ls (coreOf37 H x)).1)):=by unfold againS;rw[if_neg k0,if_neg k5,if_pos k7]
 repeat first|refine byW ?_|refine byV ?_;intro w hw
 refine lCall ((Depart_R (hh:=hp) hd.cap hdv hl hS (coreOf37 H x) hw).mono fun e w hq=>?_)
 clear hw;obtain⟨Γ1,va,vl1,hle1,rfl,q1,hw⟩:=hq;refine⟨_,rfl,?_⟩;have hLn:(depS H cap L ls (coreOf37 H x)).1.length≤1000:=by have:=(hS.dp hd.cap (coreOf37 H x)).ln hv;omega
 by_cases hsc:srv=(coreOf37 H x)
 ·have hb1:decide (srv=(coreOf37 H x))=true:=decide_eq_true hsc
  repeat(first|(first|refine W_seq ?_|refine W_block ?_|refine W_region ?_|refine W_skip ?_|refine W_ret ?_|refine W_exit ?_)|((first|apply L_bin|apply L_notop);first|(refine lT ?_ ?_;(first|exact rfl|exact decide_eq_true rfl|exact hb1|exact hb2|exact hb3|exact hb4|(focus (simp;done))))|(refine lF ?_ ?_;(first|exact rfl|exact decide_eq_true rfl|exact hb1|exact hb2|exact hb3|exact hb4|(focus (simp;done)))))|(first|refine L_nil ?_|(apply L_plain;first|(apply L_go;first|refine lP ?_|(refine lPg ?_;intro w hw))|(apply L_mf;refine lMakeFunc ?_)|refine lY ?_)|(apply L_guarded;first|refine lGT ?_ (hct:=rfl)|refine lGF ?_ (hct:=rfl)|(apply L_go;first|refine lPG ?_|(refine lPgG ?_;intro w hw))|refine lG ?_))|(refine lAlloc ?_;intro _ w hw)|(refine lBox ?_;intro _ w hw)|(refine lStore ?_;intro w hw))
  refine lCall ((Live_any (i:=1) q1 hLn rfl hw).mono fun e w hq=>?_)
  clear hw;obtain⟨v,rfl,hw⟩:=hq;refine⟨_,rfl,?_⟩;obtain⟨al,nl,cl,rfl,-,-,-⟩:=hw.own_shape (i:=0) rfl
  obtain⟨Γ2,hle2,rL,hw1⟩:=hw.freeze;clear hw;have hw:=hw1;clear hw1;haveI:=has_pg rL (coreOf37 H x)
  repeat first|refine byW ?_|refine byV ?_;intro w hw
  exact⟨_,rfl,Γ2,vl1,va,hle1.trans hle2,by rw[e2,hb1];rfl,by rw[e1];exact q1.mono hle2,by rw[e1];exact hw.ds [4]⟩
 ·have hb1:decide (srv=(coreOf37 H x))=false:=decide_eq_false hsc
  repeat(first|(first|refine W_seq ?_|refine W_block ?_|refine W_region ?_|refine W_skip ?_|refine W_ret ?_|refine W_exit ?_)|((first|apply L_bin|apply L_notop);first|(refine lT ?_ ?_;(first|exact rfl|exact decide_eq_true rfl|exact hb1|exact hb2|exact hb3|exact hb4|(focus (simp;done))))|(refine lF ?_ ?_;(first|exact rfl|exact decide_eq_true rfl|exact hb1|exact hb2|exact hb3|exact hb4|(focus (simp;done)))))|(first|refine L_nil ?_|(apply L_plain;first|(apply L_go;first|refine lP ?_|(refine lPg ?_;intro w hw))|(apply L_mf;refine lMakeFunc ?_)|refine lY ?_)|(apply L_guarded;first|refine lGT ?_ (hct:=rfl)|refine lGF ?_ (hct:=rfl)|(apply L_go;first|refine lPG ?_|(refine lPgG ?_;intro w hw))|refine lG ?_))|(refine lAlloc ?_;intro _ w hw)|(refine lBox ?_;intro _ w hw)|(refine lStore ?_;intro w hw))
  exact⟨_,rfl,Γ1,vl1,va,hle1,by rw[e2,hb1];rfl,by rw[e1];exact q1,by rw[e1];exact hw.ds [4]⟩
end
end Go.Proofs.YthgighljhoneeaaGreat
end
section
open Go Mk
namespace Go.Proofs.YthgighljhoneeaaGreat
set_option maxHeartbeats 16000000
def CLaw(irq:Int)(k0:Nat)(W1:Bool)(l:List IntrT)(nts:List NoteT):Prop:=
 ∃y,l[k0]? = some y∧y.IRQ=irq∧(((∀n∈nts,n.IRQ≠irq)∧y.Pending=W1)∨(W1=true∧y.Pending=false∧y.Serving=y.Core∧∃j0,nts[j0]? = some (NoteT.mk irq y.Core y.Driver)∧∀(j:Nat) (n:NoteT),nts[j]? = some n→n.IRQ=irq→j=j0))
theorem nts_asc{M:List IntrT}(h:AscI M):(ntsL M).Pairwise fun a b=>a.IRQ<b.IRQ:=by
 unfold ntsL;refine List.pairwise_map.2 ((h.sublist List.filter_sublist).imp fun {a b} e=>e)
theorem del_law{M:List IntrT}(h:AscI M){k0:Nat}{z:IntrT}(hz:M[k0]? = some z):CLaw z.IRQ k0 z.Pending (dlvL M) (ntsL M):=by
 refine⟨dlvX z,by unfold dlvL;rw[List.getElem?_map,hz];rfl,dlvX_irq z,?_⟩
 cases hd:dlv z with
 | false=>
  refine .inl ⟨fun n hn e=>?_,by rw[dlvX_no hd]⟩
  unfold ntsL at hn;obtain⟨a,ha,rfl⟩:=List.mem_map.1 hn
  obtain⟨ha1,ha2⟩:=List.mem_filter.1 ha
  obtain⟨i,hi⟩:=List.getElem?_of_mem ha1
  have:i=k0:=asc_get h hi hz e
  subst this;rw[hz]at hi;cases hi
  rw[hd]at ha2;cases ha2
 | true=>
  have hp:z.Pending=true:=by
   unfold dlv at hd;cases hq:z.Pending with
   | true=>rfl
   | false=>rw[hq]at hd;simp at hd
  have hy:dlvX z = { z with Pending:=false,Serving:=z.Core }:=by unfold dlvX;rw[if_pos hd]
  have hm:ntOf z∈ntsL M:=List.mem_map.2 ⟨z,List.mem_filter.2 ⟨List.mem_of_getElem? hz,hd⟩,rfl⟩
  obtain⟨j0,hj0⟩:=List.getElem?_of_mem hm
  refine .inr ⟨hp,by rw[hy],by rw[hy],j0,by rw[hy];exact hj0,fun j n hj e=>?_⟩
  obtain⟨hi,rfl⟩:=List.getElem?_eq_some_iff.1 hj
  obtain⟨hi0,e0⟩:=List.getElem?_eq_some_iff.1 hj0
  have h2:=List.pairwise_iff_getElem.1 (nts_asc h)
  have e1:((ntsL M)[j]).IRQ=((ntsL M)[j0]).IRQ:=by rw[e,e0];rfl
  rcases Nat.lt_trichotomy j j0 with h1|h1|h1
  ·have:=h2 j j0 hi hi0 h1;omega
  ·exact h1
  ·have:=h2 j0 j hi0 hi h1;omega
section
variable {H:HwT}{cap:Int}{L:List Int}{ls:List IntrT}
theorem same_law{k0:Nat}{u:IntrT}(hu:ls[k0]? = some u){W1:Bool}(hW:W1=u.Pending):CLaw u.IRQ k0 W1 ls []:=⟨u,hu,rfl,.inl ⟨fun n hn=>(by cases hn),hW.symm⟩⟩
theorem set_law(h:AscI ls){k0:Nat}{u:IntrT}(hu:ls[k0]? = some u){f:IntrT→IntrT}(hf:∀x,(f x).IRQ=x.IRQ){W1:Bool}(hW:W1=(f u).Pending):CLaw u.IRQ k0 W1 (dlvL (setI ls u.IRQ f)) (ntsL (setI ls u.IRQ f)):=by
 have hg:(setI ls u.IRQ f)[k0]? = some (f u):=by unfold setI;rw[List.getElem?_map,hu];simp
 have:=del_law (asc_set h hf) hg
 rw[hf]at this;rw[hW];exact this
theorem one_law(hc:CapOk H cap)(hn:1≤H.Cores.length)(hS:DSt H cap L ls)(x:StepT){k0:Nat}{u:IntrT}(hu:ls[k0]? = some u) :
  CLaw u.IRQ k0 (u.Pending||againS H cap L ls x u.IRQ u.Serving) (oneS H cap L ls x u.IRQ u.Serving).2.1 (oneS H cap L ls x u.IRQ u.Serving).2.2.1:=by
 have hv:=hc.v
 have hA:=hS.asc hv
 have hg:=getI_at hA hu
 have hsv:=hS.srv u (List.mem_of_getElem? hu)
 have hsub:=fun c hc=>(live_rng hv hS.sub c hc).1
 have hCC:0≤coreOf37 H x:=by
  have hj:(x.Core%(H.Cores.length:Int)).toNat<H.Cores.length:=by have:=Int.emod_lt_of_pos x.Core (show (0:Int)<H.Cores.length by omega);have:=Int.emod_nonneg x.Core (show (H.Cores.length:Int)≠0 by omega);omega
  obtain⟨cc,hcc⟩:=get_lt (l:=H.Cores) hj
  unfold coreOf37;rw[List.getD_eq_getElem?_getD,hcc,Option.getD_some];exact(core_idD hv (find_of_id (List.mem_map_of_mem (f:=(·.ID)) (List.mem_of_getElem? hcc)))).1
 by_cases k0':x.Kind%8=0∨x.Kind%8=1
 ·have e1:oneS H cap L ls x u.IRQ u.Serving=(L,rseS ls u.IRQ):=by unfold oneS stepS;rw[if_pos k0']
  have e2:againS H cap L ls x u.IRQ u.Serving=true:=by unfold againS;rw[if_pos k0']
  rw[e1,e2];unfold rseS;rw[hg];have hW:(u.Pending||true)=(rseF u).Pending:=by simp[rseF]
  exact set_law (f:=rseF) hA hu (fun x=>rfl) hW
 by_cases k2:x.Kind%8=2
 ·have e1:oneS H cap L ls x u.IRQ u.Serving=(L,ackS ls u.IRQ u.Serving):=by unfold oneS stepS;rw[if_neg k0',if_pos k2,if_pos k2]
  have e2:againS H cap L ls x u.IRQ u.Serving=false:=by unfold againS;rw[if_neg k0',if_neg (by omega),if_neg (by omega)]
  rw[e1,e2];unfold ackS;rw[hg];simp only
  split
  ·have hW:(u.Pending||false)=u.Pending:=by simp
   exact same_law hu hW
  ·have hW:(u.Pending||false)=(ackF u).Pending:=by simp[ackF]
   exact set_law (f:=ackF) hA hu (fun x=>rfl) hW
 by_cases k3:x.Kind%8=3
 ·have e1:oneS H cap L ls x u.IRQ u.Serving=(L,mskS ls u.IRQ x.On):=by unfold oneS stepS;rw[if_neg k0',if_neg k2,if_pos k3]
  have e2:againS H cap L ls x u.IRQ u.Serving=false:=by unfold againS;rw[if_neg k0',if_neg (by omega),if_neg (by omega)]
  rw[e1,e2];unfold mskS;rw[hg];have hW:(u.Pending||false)=(mskF x.On u).Pending:=by simp[mskF]
  exact set_law (f:=mskF x.On) hA hu (fun x=>rfl) hW
 by_cases k4:x.Kind%8=4
 ·have e1:oneS H cap L ls x u.IRQ u.Serving=(L,attS ls u.IRQ (x.Core%32)):=by unfold oneS stepS;rw[if_neg k0',if_neg k2,if_neg k3,if_pos k4]
  have e2:againS H cap L ls x u.IRQ u.Serving=false:=by unfold againS;rw[if_neg k0',if_neg (by omega),if_neg (by omega)]
  rw[e1,e2];unfold attS;rw[hg];simp only
  split
  ·have hW:(u.Pending||false)=u.Pending:=by simp
   exact same_law hu hW
  ·split
   ·have hW:(u.Pending||false)=u.Pending:=by simp
    exact same_law hu hW
   ·have hW:(u.Pending||false)=(attF (x.Core%32) u).Pending:=by simp[attF]
    exact set_law (f:=attF (x.Core%32)) hA hu (fun x=>rfl) hW
 by_cases k5:x.Kind%8=5
 ·have e1:oneS H cap L ls x u.IRQ u.Serving=(L,detS ls u.IRQ):=by unfold oneS stepS;rw[if_neg k0',if_neg k2,if_neg k3,if_neg k4,if_pos k5]
  have e2:againS H cap L ls x u.IRQ u.Serving=(decide ((detS ls u.IRQ).2.2=0)&&decide (0≤u.Serving)):=by unfold againS;rw[if_neg k0',if_pos k5]
  by_cases hdr:u.Driver = -1
  ·have e4:detS ls u.IRQ=(ls,[],2):=by unfold detS;rw[hg];simp only;rw[if_pos hdr]
   rw[e1,e2,e4];have hW:(u.Pending||(decide ((2:Int)=0)&&decide (0≤u.Serving)))=u.Pending:=by simp
   exact same_law hu hW
  ·have e4:detS ls u.IRQ=(setI ls u.IRQ detF,[],0):=by unfold detS;rw[hg];simp only;rw[if_neg hdr]
   rw[e1,e2,e4];refine⟨detF u,by unfold setI;rw[List.getElem?_map,hu];simp,rfl,.inl ⟨fun n hn=>(by cases hn),?_⟩⟩
   unfold detF;rcases hsv with e|e
   ·simp[e]
   ·have:=hsub _ e
    have h1:¬u.Serving = -1:=by omega
    simp[h1,this]
 have eL:oneS H cap L ls x u.IRQ u.Serving=if x.Kind%8=6 then joinS H cap L ls (coreOf37 H x) else depS H cap L ls (coreOf37 H x):=by unfold oneS stepS;rw[if_neg k0',if_neg k2,if_neg k3,if_neg k4,if_neg k5,if_neg k2]
 have eA:againS H cap L ls x u.IRQ u.Serving=if x.Kind%8=7 then decide (u.Serving=coreOf37 H x) && !decide (coreOf37 H x∈(depS H cap L ls (coreOf37 H x)).1) else false:=by unfold againS;rw[if_neg k0',if_neg k5]
 rw[eL,eA];clear eL eA;generalize coreOf37 H x=cc at *
 by_cases k6:x.Kind%8=6
 ·rw[if_pos k6,if_neg (by omega)]
  have hW:(u.Pending||false)=u.Pending:=by simp
  unfold joinS;by_cases hf:(findC H.Cores cc).2=false
  ·rw[if_pos hf];exact same_law hu hW
  rw[if_neg hf];by_cases hc2:cc∈L
  ·rw[if_pos hc2];exact same_law hu hW
  rw[if_neg hc2];obtain⟨-,-,tot,hp⟩:=hS.addPost hc (c:=cc) (by cases hq:(findC H.Cores cc).2 with|true=>rfl|false=>exact absurd hq hf) hc2
  obtain⟨r,-,-,h3⟩:=rec_at (l:=ls) (by rw[hS.irq];exact(rt_facts hp).1) hu
  exact⟨_,h3,rfl,.inl ⟨fun n hn=>(by cases hn),hW.symm⟩⟩
 have k7:x.Kind%8=7:=by have:=Int.emod_nonneg x.Kind (show (8:Int)≠0 by omega);have:=Int.emod_lt_of_pos x.Kind (show (0:Int)<8 by omega);omega
 rw[if_neg k6,if_pos k7];unfold depS;by_cases hcL:cc∉L
 ·rw[if_pos hcL];have h1:¬u.Serving=cc:=fun e=>by
   rcases hsv with e2|e2
   ·omega
   ·rw[e]at e2;exact hcL e2
  have hW:(u.Pending||(decide (u.Serving=cc) && !decide (cc∈L)))=u.Pending:=by simp[h1]
  exact same_law hu hW
 rw[if_neg hcL];have hcL:cc∈L:=by simpa using hcL
 by_cases hcu:cutL L cc=[]
 ·rw[if_pos hcu];have hW:(u.Pending||(decide (u.Serving=cc) && !decide (cc∈L)))=u.Pending:=by simp[hcL]
  exact same_law hu hW
 rw[if_neg hcu];obtain⟨tot,hp⟩:=hS.cutPost hc hcu
 have hi:(rtS H (cutL L cc) cap).map (·.1)=ls.map (·.IRQ):=by rw[hS.irq];exact(rt_facts hp).1
 obtain⟨r,-,-,h3⟩:=rec_at hi hu
 have hM:AscI ((recI ls (rtS H (cutL L cc) cap)).map (relF cc)):=by
  refine asc_map (relF_irq cc) ?_
  refine asc_irq.2 ?_
  rw[←rtI_fst,rtI_rec hi,hi];exact asc_irq.1 hA
 have hz:((recI ls (rtS H (cutL L cc) cap)).map (relF cc))[k0]? = some (relF cc { u with Core:=r.2 }):=by rw[List.getElem?_map,h3];rfl
 have:=del_law hM hz
 rw[relF_irq]at this;have e:(u.Pending||(decide (u.Serving=cc) && !decide (cc∈cutL L cc)))=(relF cc { u with Core:=r.2 }).Pending:=by
  have h2:cc∉cutL L cc:=fun e=>(cutL_mem.1 e).2 rfl
  unfold relF;by_cases h1:u.Serving=cc
  ·simp[h1,h2]
  ·simp[h1]
 simp only
 rw[e];exact this
end
end Go.Proofs.YthgighljhoneeaaGreat
end
section
open Go
namespace Mk
attribute [local irreducible] Calls
section
variable {P:Program}{n:Nat}{ops:List Oper}{Γ:Gho}{K:List Res}{wr tc stab:List (List Nat)}{Q:Fr→World→Prop}{i:Nat}{rest:List Oper}{ρ:Fr}{M:Nat→Fr→List Res}{v:Value}{o:Oper}
theorem W_mixedg{id:Nat}{l:List Oper}{QQ:Exit→Fr→World→Prop}{w:World}(K:List Res)(M:List (Fr→List Res))(wr tc stab:List (List Nat))(hw:Wd Γ (K++(List.range stab.length).flatMap fun x=>(ML M) x (ovr (stab.getD x []) ρ noFr)) w)
  (h:MSw (mVg P n l Γ K wr tc stab) (fun ρ w=>QQ .normal ρ w) 0 l ⟨ρ,ML M⟩) (hm:P.follows .mixedOrders=true:=by kernel_rfl) (hk:checkM n l wr tc stab=true:=by kernel_rfl):W P n (.region id l.toArray true) QQ ρ w:=
 W_mix K (ML M) wr tc stab false hm hk hw h
theorem gS{c:Nat}{F:Fr→List Res}(F':Fr→List Res)
  (hs:∀Γ' g w Y,Γ.le Γ'→Wd Γ' (F (ovr (stab.getD c []) g noFr)++(K++Y)) w→Step P o (ovr stab.flatten g ρ) w fun u w'=>∃Γ'',Γ'.le Γ''∧(freeD stab o.dst=false→u=v)∧Wd Γ'' (F' (ovr (stab.getD c []) (putO g o.dst u) noFr)++(K++Y)) w')
  (h:MSw (mVg P n ops Γ K wr tc stab) Q (i+1) rest ⟨putO ρ o.dst v,setC M c F'⟩) (hM:M c=F) (hw0:wr.getD i []=[c]) (ht:tc.getD i []=[c]) (hg:o.guard=none) :
  MSw (mVg P n ops Γ K wr tc stab) Q i (o::rest) ⟨ρ,M⟩:=by
 refine gM _ (fun Γ' Y w g hle hw=>?_) h hw0 hg
 rw[cells1 ht,hM]at hw;refine(hs Γ' g w Y hle hw.swapApp).mono ?_
 rintro u w' ⟨Γ'',h0,h2,h3⟩
 refine⟨Γ'',h0,?_,h2⟩
 rw[cells1 ht,setC_self];exact h3.swapApp
theorem gM3{c c2 c3:Nat}(m m2 m3:Fr→List Res)(hs:∀Γ' Y w g,Γ.le Γ'→Wd Γ' (K++(cellsAt tc stab i M g++Y)) w→Step P o (ovr stab.flatten g ρ) w fun u w'=>Wd Γ' (K++(cellsAt tc stab i (setC (setC (setC M c m) c2 m2) c3 m3) (putO g o.dst u)++Y)) w'∧(freeD stab o.dst=false→u=v))
  (h:MSw (mVg P n ops Γ K wr tc stab) Q (i+1) rest ⟨putO ρ o.dst v,setC (setC (setC M c m) c2 m2) c3 m3⟩) (hw0:wr.getD i []=[c,c2,c3]) (hg:o.guard=none):MSw (mVg P n ops Γ K wr tc stab) Q i (o::rest) ⟨ρ,M⟩:=by
 have hn:Mt.nxt (mVg P n ops Γ K wr tc stab) i ⟨ρ,M⟩ ⟨v,setC (setC (setC M c m) c2 m2) c3 m3⟩=setC (setC (setC M c m) c2 m2) c3 m3:=by
  funext y
  simp only[Mt.nxt,MEnv.w,hw0]
  unfold setC;by_cases h1:y=c <;> by_cases h2:y=c2 <;> by_cases h3:y=c3 <;> simp[h1,h2,h3]
 refine⟨⟨v,setC (setC (setC M c m) c2 m2) c3 m3⟩,⟨fun Γ' Y w g hr hw=>?_⟩,?_⟩
 ·have hle:Γ.le Γ':=hr
  rw[hn];refine⟨fun _=>(hs Γ' Y w g hle hw).mono fun u w' ⟨h1,h2⟩=>⟨Γ',Gho.le.refl _,h1,h2⟩,fun hf=>?_⟩
  rw[wantF_none hg]at hf;cases hf
 ·simp only[Mt.next,hn];exact h
theorem gC(hy:∀Γ' Y w g,Γ.le Γ'→Wd Γ' (K++(cellsAt tc stab i M g++Y)) w→Step P o (ovr stab.flatten g ρ) w fun u w'=>u=v∧Wd Γ' (K++(cellsAt tc stab i M g++Y)) w')(hw0:wr.getD i []=[])(hg:o.guard=none)(ho:outOf tc stab i o.dst=true)
  (h:MSw (mVg P n ops Γ K wr tc stab) Q (i+1) rest ⟨putO ρ o.dst v,M⟩):MSw (mVg P n ops Γ K wr tc stab) Q i (o::rest) ⟨ρ,M⟩:=by
 have hn:∀c,Mt.nxt (mVg P n ops Γ K wr tc stab) i ⟨ρ,M⟩ c=M:=fun c=>by
  funext x;simp only[Mt.nxt,MEnv.w,hw0];rfl
 refine⟨⟨v,M⟩,⟨fun Γ' Y w g hr hw=>?_⟩,?_⟩
 ·have hle:Γ.le Γ':=hr
  rw[hn];refine⟨fun _=>(hy Γ' Y w g hle hw).mono fun u w' ⟨h1,h2⟩=>⟨Γ',Gho.le.refl _,?_,fun _=>h1⟩,fun hf=>?_⟩
  ·have:=outOf_eq (g:=g) (v:=u) ho M
   show Wd Γ' (K++(cellsAt tc stab i M (putO g o.dst u)++Y)) w'
   rw[this];exact h2
  ·rw[wantF_none hg]at hf;cases hf
 ·simp only[Mt.next,hn];exact h
theorem gEnd(h:∀Γ' w g,Γ.le Γ'→Wd Γ' (K++(List.range stab.length).flatMap fun x=>M x (ovr (stab.getD x []) g noFr)) w→Q (ovr stab.flatten g ρ) w):MSw (mVg P n ops Γ K wr tc stab) Q i [] ⟨ρ,M⟩:=fun Γ' w g hr hw=>h Γ' w g hr hw
end
end Mk
end
section
open Go Mk
namespace Go.Proofs.YthgighljhoneeaaGreat
set_option maxHeartbeats 64000000
attribute [local irreducible] Calls
attribute [local irreducible] matL
theorem perm9{A B D:List Res}:(A++(B++(D++[]))).Perm (B++((D++[])++A)):=by
 rw[List.append_nil];exact(List.perm_append_comm (l₁:=A) (l₂:=B++D)).trans (by rw[List.append_assoc])
theorem cntN_succ{nts:List NoteT}{irq:Int}{k:Nat}{n:NoteT}(hn:nts[k]? = some n):((nts.take (k+1)).filter fun n=>decide (n.IRQ=irq)).length=((nts.take k).filter fun n=>decide (n.IRQ=irq)).length+if n.IRQ=irq then 1 else 0:=by
 rw[take_succ_of hn,List.filter_append,List.length_append];by_cases h:n.IRQ=irq
 ·simp[h]
 ·simp[h]
theorem cntN_none{nts:List NoteT}{irq:Int}(h:∀n∈nts,n.IRQ≠irq)(k:Nat):((nts.take k).filter fun n=>decide (n.IRQ=irq)).length=0:=by
 rw[List.filter_eq_nil_iff.2 (fun n hn=>by simpa using h n (List.mem_of_mem_take hn))]
 rfl
theorem cntN_one{nts:List NoteT}{irq:Int}{j0:Nat}{n0:NoteT}(hj0:nts[j0]? = some n0)(h0:n0.IRQ=irq)(hu:∀(j:Nat) (n:NoteT),nts[j]? = some n→n.IRQ=irq→j=j0):∀k,k≤nts.length→((nts.take k).filter fun n=>decide (n.IRQ=irq)).length=if j0<k then 1 else 0
 | 0,_=>by simp
 | k+1,hk=>by
  obtain⟨n,hn⟩:=get_lt (l:=nts) (k:=k) (by omega)
  rw[cntN_succ hn,cntN_one hj0 h0 hu k (by omega)]
  by_cases h:n.IRQ=irq
  ·have:=hu k n hn h
   subst this;rw[if_pos h,if_neg (by omega),if_pos (by omega)]
  ·have hne:k≠j0:=fun e=>by
    subst e;rw[hj0]at hn;cases hn
    exact h h0
   rw[if_neg h];by_cases hlt:j0<k
   ·rw[if_pos hlt,if_pos (by omega)]
   ·rw[if_neg hlt,if_neg (by omega)]
theorem DriverLost_any{Γ:Gho}{S:List Res}{w:World}{a ap ax:Option Addr}{m c np cp ns cs:Nat}{L0 PK:List Int}{XS:List StepT}(which:Int)(hr:RepS Γ (.slice a m c) 1 (intRows L0))(hp:RepS Γ (.slice ap np cp) 1 (intRows PK))(hs:RepS Γ (.slice ax ns cs) 5 (XS.map enc))(hw:Wd Γ S w) :
  Calls Tryz.prog 6 #[.slice a m c,.slice ap np cp,.slice ax ns cs,.int .i64 which] w fun e w'=>∃Γ',Γ.le Γ'∧e=.returned (.bool true)∧Wd Γ' S w':=by
 obtain⟨hnp,hncp,hccp⟩:=rep_facts hp
 obtain⟨hnr,hncr,hccr⟩:=rep_facts hr
 obtain⟨hns,hncs,hccs⟩:=rep_facts hs
 have hns:ns=XS.length:=by simpa using hns
 refine calls_of_W Tryz.func6 rfl rfl ?_
 repeat first|refine byW ?_|refine byV ?_;intro w hw
 refine W_cond rfl (fun h=>?_) (fun h=>?_)
 ·repeat first|refine byW ?_|refine byV ?_;intro w hw
  exact⟨_,rfl,Γ,.refl _,rfl,hw⟩
 have hLs:¬(200<(m:Int)∨6<(np:Int)):=by simpa using h
 clear h;repeat first|refine byW ?_|refine byV ?_;intro w hw
 refine lCall ((open_new hr hp (by omega) 0 hw).mono fun r w hq=>?_)
 clear hw;obtain⟨Γ1,H,bh,L,ls0,hle,rfl,hd,hS,ho,hnew⟩:=hq;refine⟨_,rfl,?_⟩;generalize (if (1:Int)<(H.Devs.length:Int) then (H.Devs.length:Int) else 1)+0%3=cap at *
 obtain⟨b,bm,r,v0,v1,v2,v3,v4,v5,w0,w2,w3,w4,w5,vl,vl2,a1,n1,c1,q,m',d,p1,p2,p3,-,hw⟩:=ho;have hdv:=hd.dev
 have hv:=hd.cap.v
 have hlen:=hS.len
 have hN:ls0.length≤1000:=by omega
 repeat first|refine byW ?_|refine byV ?_;intro w hw
 refine W_cond rfl (fun h=>?_) (fun h=>?_)
 ·exact absurd h (by simp)
 clear h;repeat first|refine byW ?_|refine byV ?_;intro w hw
 refine lCall ((rInterrupts_any hN (hw.ps [3,3])).mono fun e w hq=>?_)
 clear hw;obtain⟨vA,rfl,hw⟩:=hq;refine⟨_,rfl,?_⟩;obtain⟨aA,nA,cA,rfl,hnA,hnAc,hcA⟩:=hw.own_shape (i:=0) rfl
 have hnA:nA=ls0.length:=by simpa using hnA
 obtain⟨Γ2,hle2,rA,hw1⟩:=hw.freeze;clear hw;have hw:Wd Γ2 (.blk b (hoC v0 v1 v2 v3 v4 v5 cap vl bm)::linesR bm ls0::.blk bh (.cells #[w0,.slice a1 n1 c1,w2,w3,w4,w5,.pointer (some ⟨b,0,none⟩),.pointer (some ⟨r,0,none⟩)] 42)::.blk r (rfC w0 (.slice a1 n1 c1) w2 w3 w4 w5 vl2 cap q m' d)::.own (.slice q m' d) 46 6 (ls0.map enc)::S) w:=hw1.ps [4,4,4]
 clear hw1;have hle:=hle.trans hle2
 have p1:=p1.mono hle2
 have p2:=p2.mono hle2
 have p3:=p3.mono hle2
 repeat first|refine byW ?_|refine byV ?_;intro w hw
 refine W_cond rfl (fun h=>?_) (fun h=>?_)
 ·repeat first|refine byW ?_|refine byV ?_;intro w hw
  exact⟨_,rfl,Γ2,hle,rfl,hw.ds [0,0,0,0,0]⟩
 have hn0:1≤nA:=by have:=of_decide_eq_false h;omega
 clear h;obtain⟨k0,hk0,hke⟩:∃k:Nat,k<ls0.length∧which%(nA:Int)=(k:Int):=⟨(which%(nA:Int)).toNat,by have:=Int.emod_lt_of_pos which (show (0:Int)<nA by omega);have:=Int.emod_nonneg which (show (nA:Int)≠0 by omega);omega,by have:=Int.emod_nonneg which (show (nA:Int)≠0 by omega);omega⟩
 obtain⟨u0,hu0⟩:=get_lt (l:=ls0) (k:=k0) hk0
 haveI:PosL (nA:Int):=⟨by omega⟩
 haveI pp1:PC Tryz.prog 12 [.int .i64 which,.int .i64 (nA:Int)] (.int .i64 (k0:Int)):=by rw[←hke];infer_instance
 repeat first|refine byW ?_|refine byV ?_;intro w hw
 obtain⟨irq,hirq⟩:∃irq:Int,irq=u0.IRQ:=⟨_,rfl⟩
 rw[←hirq];refine W_loop (fun μ ρ w=>∃(Γ':Gho) (vl:Value) (L:List Int) (ls:List IntrT) (u:IntrT) (i:Nat),μ+i=ns∧Has ρ [(2,.slice ax ns cs),(9,.pointer (some ⟨bh,0,none⟩)),(11,.slice aA nA cA),(12,.int .i64 k0),(13,.int .i64 irq),(14,.bool u.Pending),(15,.int .i64 i)]∧Γ.le Γ'∧Γ2.le Γ'∧DSt H cap L ls∧ls[k0]? = some u∧u.IRQ=irq∧RepS Γ' vl 1 (intRows L)∧Wd Γ' (.blk b (hoC v0 v1 v2 v3 v4 v5 cap vl bm)::linesR bm ls::.blk bh (.cells #[w0,.slice a1 n1 c1,w2,w3,w4,w5,.pointer (some ⟨b,0,none⟩),.pointer (some ⟨r,0,none⟩)] 42)::.blk r (rfC w0 (.slice a1 n1 c1) w2 w3 w4 w5 vl2 cap q m' d)::.own (.slice q m' d) 46 6 (ls0.map enc)::S) w) ns
  ⟨Γ2,vl,L,ls0,u0,0,by omega,⟨rfl,rfl,rfl,rfl,rfl,by rw[hnew u0 (List.mem_of_getElem? hu0)];rfl,rfl,trivial⟩,hle,.refl _,hS,hu0,hirq.symm,p3,hw⟩ ?_
 clear hw hle hS p3 hr hp hu0 hirq hnew;rintro μ ρ w ⟨Γ3,vl,L,ls,u,i,hμ,hρ,hle,hle3,hS,hu,hui,p3,hw⟩
 rw[hρ.eq];clear hρ;have hs3:=hs.mono hle
 have hlen1:=hS.len
 repeat first|refine byW ?_|refine byV ?_;intro w hw
 refine W_cond rfl (fun h=>?_) (fun h=>?_)
 ·have hin:i<ns∧i<80:=by simp at h;omega
  clear h;obtain⟨x,hx⟩:=get_lt (l:=XS) (k:=i) (by omega)
  repeat first|refine byW ?_|refine byV ?_;intro w hw
  refine lCall ((Interrupts_R (by omega) hw).mono fun e w hq=>?_)
  clear hw;obtain⟨vB,rfl,hw⟩:=hq;refine⟨_,rfl,?_⟩;obtain⟨aB',nB,cB,rfl,hnB,hnBc,hcB⟩:=hw.own_shape (i:=0) rfl
  have hnB:nB=ls.length:=by simpa using hnB
  obtain⟨Γ4,hle4,rB,hw1⟩:=hw.freeze;clear hw;have hw:=hw1;clear hw1;have hs4:=hs3.mono hle4
  have p34:=p3.mono hle4
  have p14:=p1.mono (hle3.trans hle4)
  have p24:=p2.mono (hle3.trans hle4)
  clear hs3 p3;repeat first|refine byW ?_|refine byV ?_;intro w hw
  refine W_cond rfl (fun h=>?_) (fun h=>?_)
  ·exact absurd h (by simp;omega)
  clear h;have hlaw:=one_law hd.cap hd.nc hS x hu
  have hst:=stepS_st hd.cap hS (x.Kind%8) irq (if x.Kind%8=2 then u.Serving else coreOf37 H x) (x.Core%32) x.On
  rw[hui]at hlaw;repeat first|refine byW ?_|refine byV ?_;intro w hw
  have hwX:Wd Γ4 (([]:List Res)++((.blk b (hoC v0 v1 v2 v3 v4 v5 cap vl bm)::linesR bm ls::.blk bh (.cells #[w0,.slice a1 n1 c1,w2,w3,w4,w5,.pointer (some ⟨b,0,none⟩),.pointer (some ⟨r,0,none⟩)] 42)::.blk r (rfC w0 (.slice a1 n1 c1) w2 w3 w4 w5 vl2 cap q m' d)::.own (.slice q m' d) 46 6 (ls0.map enc)::S)++[])) w:=by rw[List.append_nil];exact hw
  refine W_mixedg [] [fun _=>.blk b (hoC v0 v1 v2 v3 v4 v5 cap vl bm)::linesR bm ls::.blk bh (.cells #[w0,.slice a1 n1 c1,w2,w3,w4,w5,.pointer (some ⟨b,0,none⟩),.pointer (some ⟨r,0,none⟩)] 42)::.blk r (rfC w0 (.slice a1 n1 c1) w2 w3 w4 w5 vl2 cap q m' d)::.own (.slice q m' d) 46 6 (ls0.map enc)::S,fun _=>[],fun _=>[]] [[],[],[],[],[],[],[],[],[],[],[],[0],[0,1,2],[1],[],[1],[]] [[],[],[],[],[],[],[],[],[],[],[],[0],[0,1,2],[1],[2],[1],[]] [[90,78],[78,91,17],[78]] hwX ?_
  clear hwX hw;iterate 3 (refine gY ?_)
  refine gY ?_ (hy:=fun Γ' Y w g hle hw=>y_idxI hw (hs4.mono hle) rfl rfl (by omega) (by omega))
  refine gY (v:=.agg (enc x).toArray) ?_ (hy:=fun Γ' Y w g hle hw=>y_loadE rfl ((hs4.mono hle).rd hw) (rows_map hx))
  iterate 3 (refine gY ?_)
  refine gY ?_ (hy:=fun Γ' Y w g hle hw=>y_idxI hw (rB.mono hle) rfl rfl (by omega) (by omega))
  refine gY ?_
  refine gY (v:=.int .i64 u.Serving) ?_ (hy:=fun Γ' Y w g hle hw=>y_loadEf rfl ((rB.mono hle).rd hw) (rows_map hu) rfl)
  refine gS (c:=0) (v:=undef) (F:=fun _=>.blk b (hoC v0 v1 v2 v3 v4 v5 cap vl bm)::linesR bm ls::.blk bh (.cells #[w0,.slice a1 n1 c1,w2,w3,w4,w5,.pointer (some ⟨b,0,none⟩),.pointer (some ⟨r,0,none⟩)] 42)::.blk r (rfC w0 (.slice a1 n1 c1) w2 w3 w4 w5 vl2 cap q m' d)::.own (.slice q m' d) 46 6 (ls0.map enc)::S) (exC (T:=Value×Value) (fun t g=>g 90=.tuple #[t.1,.bool (againS H cap L ls x irq u.Serving)]) fun t=>.own t.1 62 3 ((oneS H cap L ls x irq u.Serving).2.2.1.map enc)::.blk b (hoC v0 v1 v2 v3 v4 v5 cap t.2 bm)::linesR bm (oneS H cap L ls x irq u.Serving).2.1::Res.rep t.2 1 (intRows (oneS H cap L ls x irq u.Serving).1)::.blk bh (.cells #[w0,.slice a1 n1 c1,w2,w3,w4,w5,.pointer (some ⟨b,0,none⟩),.pointer (some ⟨r,0,none⟩)] 42)::.blk r (rfC w0 (.slice a1 n1 c1) w2 w3 w4 w5 vl2 cap q m' d)::.own (.slice q m' d) 46 6 (ls0.map enc)::S) (fun Γ' g w Y hle5 hw=>?_) ?_ rfl rfl rfl rfl
  ·refine s_call (vs:=#[.pointer (some ⟨bh,0,none⟩),.agg (enc x).toArray,.int .i64 irq,.int .i64 u.Serving]) ?_ ((oneD_any hd (p14.mono hle5) (p24.mono hle5) (p34.mono hle5) hS x irq u.Serving hw).mono fun e w hq=>?_)
   ·exact EvL.eqA (xs:=[.tmp 79,.tmp 83,.tmp 84,.tmp 89]) (vs:=[.pointer (some ⟨bh,0,none⟩),.agg (enc x).toArray,.int .i64 irq,.int .i64 u.Serving]) (EvL.cons (by rfl) (EvL.cons (by rfl) (EvL.cons (by rfl) (EvL.cons (by rfl) EvL.nil))))
   obtain⟨Γ'',vl',vn,hle6,rfl,q1,hw⟩:=hq;refine⟨_,rfl,Γ'',hle6,(fun h=>(by cases h)),?_⟩
   exact exC_mk (T:=Value×Value) (φ:=fun t g=>g 90=.tuple #[t.1,.bool (againS H cap L ls x irq u.Serving)]) (R:=fun t=>.own t.1 62 3 ((oneS H cap L ls x irq u.Serving).2.2.1.map enc)::.blk b (hoC v0 v1 v2 v3 v4 v5 cap t.2 bm)::linesR bm (oneS H cap L ls x irq u.Serving).2.1::Res.rep t.2 1 (intRows (oneS H cap L ls x irq u.Serving).1)::.blk bh (.cells #[w0,.slice a1 n1 c1,w2,w3,w4,w5,.pointer (some ⟨b,0,none⟩),.pointer (some ⟨r,0,none⟩)] 42)::.blk r (rfC w0 (.slice a1 n1 c1) w2 w3 w4 w5 vl2 cap q m' d)::.own (.slice q m' d) 46 6 (ls0.map enc)::S) (vn,vl') rfl ((Wd.repIn q1 hw).ps [3,3,3])
  refine gM3 (c:=0) (c2:=1) (c3:=2) (v:=undef) (exC (T:=Value×Value) (fun t g=>g 78=.tuple #[t.1,.bool (againS H cap L ls x irq u.Serving)]) fun t=>.own t.1 62 3 ((oneS H cap L ls x irq u.Serving).2.2.1.map enc)::.blk b (hoC v0 v1 v2 v3 v4 v5 cap t.2 bm)::linesR bm (oneS H cap L ls x irq u.Serving).2.1::Res.rep t.2 1 (intRows (oneS H cap L ls x irq u.Serving).1)::.blk bh (.cells #[w0,.slice a1 n1 c1,w2,w3,w4,w5,.pointer (some ⟨b,0,none⟩),.pointer (some ⟨r,0,none⟩)] 42)::.blk r (rfC w0 (.slice a1 n1 c1) w2 w3 w4 w5 vl2 cap q m' d)::.own (.slice q m' d) 46 6 (ls0.map enc)::S) (exC (T:=Value) (fun t g=>g 78=.tuple #[t,.bool (againS H cap L ls x irq u.Serving)]) fun _=>[]) (exC (T:=Value) (fun t g=>g 78=.tuple #[t,.bool (againS H cap L ls x irq u.Serving)]) fun _=>[]) (fun Γ' Y w g hle5 hw=>?_) ?_ rfl rfl
  ·have hw1:Wd Γ' (([]:List Res)++(((exC (T:=Value×Value) (fun t g=>g 90=.tuple #[t.1,.bool (againS H cap L ls x irq u.Serving)]) fun t=>.own t.1 62 3 ((oneS H cap L ls x irq u.Serving).2.2.1.map enc)::.blk b (hoC v0 v1 v2 v3 v4 v5 cap t.2 bm)::linesR bm (oneS H cap L ls x irq u.Serving).2.1::Res.rep t.2 1 (intRows (oneS H cap L ls x irq u.Serving).1)::.blk bh (.cells #[w0,.slice a1 n1 c1,w2,w3,w4,w5,.pointer (some ⟨b,0,none⟩),.pointer (some ⟨r,0,none⟩)] 42)::.blk r (rfC w0 (.slice a1 n1 c1) w2 w3 w4 w5 vl2 cap q m' d)::.own (.slice q m' d) 46 6 (ls0.map enc)::S) (ovr [90,78] g noFr))++([]++([]++[]))++Y)) w:=hw
   obtain⟨t,ht,hw2⟩:=exC_open (hw1.perm perm3.symm)
   have ht:g 90=.tuple #[t.1,.bool (againS H cap L ls x irq u.Serving)]:=ht
   refine Yields.step (y_move (v:=.tuple #[t.1,.bool (againS H cap L ls x irq u.Serving)]) ht) ⟨?_,fun h=>(by cases h)⟩
   have hw3:=exC_mk (T:=Value×Value) (φ:=fun t g=>g 78=.tuple #[t.1,.bool (againS H cap L ls x irq u.Serving)]) (R:=fun t=>.own t.1 62 3 ((oneS H cap L ls x irq u.Serving).2.2.1.map enc)::.blk b (hoC v0 v1 v2 v3 v4 v5 cap t.2 bm)::linesR bm (oneS H cap L ls x irq u.Serving).2.1::Res.rep t.2 1 (intRows (oneS H cap L ls x irq u.Serving).1)::.blk bh (.cells #[w0,.slice a1 n1 c1,w2,w3,w4,w5,.pointer (some ⟨b,0,none⟩),.pointer (some ⟨r,0,none⟩)] 42)::.blk r (rfC w0 (.slice a1 n1 c1) w2 w3 w4 w5 vl2 cap q m' d)::.own (.slice q m' d) 46 6 (ls0.map enc)::S) (g:=ovr [90,78] (putO g (some 78) (.tuple #[t.1,.bool (againS H cap L ls x irq u.Serving)])) noFr) t rfl hw2
   have hw4:=hw3.perm List.perm_append_comm
   have hw5:=exC_mk (T:=Value) (φ:=fun t g=>g 78=.tuple #[t,.bool (againS H cap L ls x irq u.Serving)]) (R:=fun _=>[]) (g:=ovr [78,91,17] (putO g (some 78) (.tuple #[t.1,.bool (againS H cap L ls x irq u.Serving)])) noFr) t.1 rfl hw4
   have hw6:=exC_mk (T:=Value) (φ:=fun t g=>g 78=.tuple #[t,.bool (againS H cap L ls x irq u.Serving)]) (R:=fun _=>[]) (g:=ovr [78] (putO g (some 78) (.tuple #[t.1,.bool (againS H cap L ls x irq u.Serving)])) noFr) t.1 rfl hw5
   have hw7:Wd Γ' (((exC (T:=Value) (fun t g=>g 78=.tuple #[t,.bool (againS H cap L ls x irq u.Serving)]) fun _=>[]) (ovr [78] (putO g (some 78) (.tuple #[t.1,.bool (againS H cap L ls x irq u.Serving)])) noFr))++(((exC (T:=Value) (fun t g=>g 78=.tuple #[t,.bool (againS H cap L ls x irq u.Serving)]) fun _=>[]) (ovr [78,91,17] (putO g (some 78) (.tuple #[t.1,.bool (againS H cap L ls x irq u.Serving)])) noFr))++(([]++([]++(([]:List Res)++Y)))++((exC (T:=Value×Value) (fun t g=>g 78=.tuple #[t.1,.bool (againS H cap L ls x irq u.Serving)]) fun t=>.own t.1 62 3 ((oneS H cap L ls x irq u.Serving).2.2.1.map enc)::.blk b (hoC v0 v1 v2 v3 v4 v5 cap t.2 bm)::linesR bm (oneS H cap L ls x irq u.Serving).2.1::Res.rep t.2 1 (intRows (oneS H cap L ls x irq u.Serving).1)::.blk bh (.cells #[w0,.slice a1 n1 c1,w2,w3,w4,w5,.pointer (some ⟨b,0,none⟩),.pointer (some ⟨r,0,none⟩)] 42)::.blk r (rfC w0 (.slice a1 n1 c1) w2 w3 w4 w5 vl2 cap q m' d)::.own (.slice q m' d) 46 6 (ls0.map enc)::S) (ovr [90,78] (putO g (some 78) (.tuple #[t.1,.bool (againS H cap L ls x irq u.Serving)])) noFr))))) w:=hw6
   exact hw7.perm perm6
  refine gS (c:=1) (v:=undef) (F:=(exC (T:=Value) (fun t g=>g 78=.tuple #[t,.bool (againS H cap L ls x irq u.Serving)]) fun _=>[])) (exC (T:=Value) (fun t g=>g 78=.tuple #[t,.bool (againS H cap L ls x irq u.Serving)]∧g 91=t) fun _=>[]) (fun Γ' g w Y hle5 hw=>?_) ?_ (by first|exact setC_self|exact((setC_other (by decide)).trans setC_self)) rfl rfl rfl
  ·obtain⟨t,ht,hw1⟩:=exC_open hw
   have ht:g 78=.tuple #[t,.bool (againS H cap L ls x irq u.Serving)]:=ht
   refine Yields.step (y_extract (v:=t) ht rfl) ⟨Γ',.refl _,fun h=>(by cases h),?_⟩
   exact exC_mk (T:=Value) (φ:=fun t g=>g 78=.tuple #[t,.bool (againS H cap L ls x irq u.Serving)]∧g 91=t) (R:=fun _=>[]) t ⟨ht,rfl⟩ hw1
  refine gC (v:=.bool (againS H cap L ls x irq u.Serving)) (fun Γ' Y w g hle5 hw=>?_) rfl rfl rfl ?_
  ·have hw1:Wd Γ' (([]:List Res)++((((exC (T:=Value) (fun t g=>g 78=.tuple #[t,.bool (againS H cap L ls x irq u.Serving)]) fun _=>[]) (ovr [78] g noFr))++[])++Y)) w:=hw
   obtain⟨t,ht,-⟩:=exC_open (hw1.perm perm1)
   exact Yields.step (y_extract (v:=.bool (againS H cap L ls x irq u.Serving)) ht rfl) ⟨rfl,hw⟩
  refine gS (c:=1) (v:=undef) (F:=(exC (T:=Value) (fun t g=>g 78=.tuple #[t,.bool (againS H cap L ls x irq u.Serving)]∧g 91=t) fun _=>[])) (exC (T:=Value) (fun t g=>g 78=.tuple #[t,.bool (againS H cap L ls x irq u.Serving)]∧g 17=t) fun _=>[]) (fun Γ' g w Y hle5 hw=>?_) ?_ (by first|exact setC_self|exact((setC_other (by decide)).trans setC_self)) rfl rfl rfl
  ·obtain⟨t,⟨ht,ht2⟩,hw1⟩:=exC_open hw
   have ht:g 78=.tuple #[t,.bool (againS H cap L ls x irq u.Serving)]:=ht
   have ht2:g 91=t:=ht2
   refine Yields.step (y_assign (v:=t) ht2) ⟨Γ',.refl _,fun h=>(by cases h),?_⟩
   exact exC_mk (T:=Value) (φ:=fun t g=>g 78=.tuple #[t,.bool (againS H cap L ls x irq u.Serving)]∧g 17=t) (R:=fun _=>[]) t ⟨ht,rfl⟩ hw1
  repeat refine gY ?_
  refine gEnd fun Γ5 w g hle5 hw=>?_
  have hw1:Wd Γ5 (((exC (T:=Value×Value) (fun t g=>g 78=.tuple #[t.1,.bool (againS H cap L ls x irq u.Serving)]) fun t=>.own t.1 62 3 ((oneS H cap L ls x irq u.Serving).2.2.1.map enc)::.blk b (hoC v0 v1 v2 v3 v4 v5 cap t.2 bm)::linesR bm (oneS H cap L ls x irq u.Serving).2.1::Res.rep t.2 1 (intRows (oneS H cap L ls x irq u.Serving).1)::.blk bh (.cells #[w0,.slice a1 n1 c1,w2,w3,w4,w5,.pointer (some ⟨b,0,none⟩),.pointer (some ⟨r,0,none⟩)] 42)::.blk r (rfC w0 (.slice a1 n1 c1) w2 w3 w4 w5 vl2 cap q m' d)::.own (.slice q m' d) 46 6 (ls0.map enc)::S) (ovr [90,78] g noFr))++(((exC (T:=Value) (fun t g=>g 78=.tuple #[t,.bool (againS H cap L ls x irq u.Serving)]∧g 17=t) fun _=>[]) (ovr [78,91,17] g noFr))++(((exC (T:=Value) (fun t g=>g 78=.tuple #[t,.bool (againS H cap L ls x irq u.Serving)]) fun _=>[]) (ovr [78] g noFr))++[]))) w:=hw
  obtain⟨t,ht,hw2⟩:=exC_open hw1
  have ht:g 78=.tuple #[t.1,.bool (againS H cap L ls x irq u.Serving)]:=ht
  have hw3:Wd Γ5 (((exC (T:=Value) (fun t g=>g 78=.tuple #[t,.bool (againS H cap L ls x irq u.Serving)]∧g 17=t) fun _=>[]) (ovr [78,91,17] g noFr))++((((exC (T:=Value) (fun t g=>g 78=.tuple #[t,.bool (againS H cap L ls x irq u.Serving)]) fun _=>[]) (ovr [78] g noFr))++[])++.own t.1 62 3 ((oneS H cap L ls x irq u.Serving).2.2.1.map enc)::.blk b (hoC v0 v1 v2 v3 v4 v5 cap t.2 bm)::linesR bm (oneS H cap L ls x irq u.Serving).2.1::Res.rep t.2 1 (intRows (oneS H cap L ls x irq u.Serving).1)::.blk bh (.cells #[w0,.slice a1 n1 c1,w2,w3,w4,w5,.pointer (some ⟨b,0,none⟩),.pointer (some ⟨r,0,none⟩)] 42)::.blk r (rfC w0 (.slice a1 n1 c1) w2 w3 w4 w5 vl2 cap q m' d)::.own (.slice q m' d) 46 6 (ls0.map enc)::S)) w:=hw2.perm perm9
  obtain⟨t2,⟨ht2,ht3⟩,hw4⟩:=exC_open hw3
  have ht2:g 78=.tuple #[t2,.bool (againS H cap L ls x irq u.Serving)]:=ht2
  have ht3:g 17=t2:=ht3
  obtain rfl:t2=t.1:=by
   have:=ht2.symm.trans ht
   simp at this
   exact this
  rw[List.nil_append,List.append_nil]at hw4;obtain⟨-,-,hw5⟩:=exC_open hw4
  rw[List.nil_append]at hw5;have hw7:Wd Γ5 (.own t.1 62 3 ((oneS H cap L ls x irq u.Serving).2.2.1.map enc)::.blk b (hoC v0 v1 v2 v3 v4 v5 cap t.2 bm)::linesR bm (oneS H cap L ls x irq u.Serving).2.1::Res.rep t.2 1 (intRows (oneS H cap L ls x irq u.Serving).1)::.blk bh (.cells #[w0,.slice a1 n1 c1,w2,w3,w4,w5,.pointer (some ⟨b,0,none⟩),.pointer (some ⟨r,0,none⟩)] 42)::.blk r (rfC w0 (.slice a1 n1 c1) w2 w3 w4 w5 vl2 cap q m' d)::.own (.slice q m' d) 46 6 (ls0.map enc)::S) w:=hw5
  clear hw hw1 hw2 hw3 hw4 hw5 ht ht2;have ht:=ht3
  clear ht3;obtain⟨vn,vl'⟩:=t;have ht:g 17=vn:=ht
  have hw8:Wd Γ5 (.own vn 62 3 ((oneS H cap L ls x irq u.Serving).2.2.1.map enc)::.blk b (hoC v0 v1 v2 v3 v4 v5 cap vl' bm)::linesR bm (oneS H cap L ls x irq u.Serving).2.1::Res.rep vl' 1 (intRows (oneS H cap L ls x irq u.Serving).1)::.blk bh (.cells #[w0,.slice a1 n1 c1,w2,w3,w4,w5,.pointer (some ⟨b,0,none⟩),.pointer (some ⟨r,0,none⟩)] 42)::.blk r (rfC w0 (.slice a1 n1 c1) w2 w3 w4 w5 vl2 cap q m' d)::.own (.slice q m' d) 46 6 (ls0.map enc)::S) w:=hw7
  have q1:=hw8.repOut (i:=3) rfl
  have hw9:Wd Γ5 (.own vn 62 3 ((oneS H cap L ls x irq u.Serving).2.2.1.map enc)::.blk b (hoC v0 v1 v2 v3 v4 v5 cap vl' bm)::linesR bm (oneS H cap L ls x irq u.Serving).2.1::.blk bh (.cells #[w0,.slice a1 n1 c1,w2,w3,w4,w5,.pointer (some ⟨b,0,none⟩),.pointer (some ⟨r,0,none⟩)] 42)::.blk r (rfC w0 (.slice a1 n1 c1) w2 w3 w4 w5 vl2 cap q m' d)::.own (.slice q m' d) 46 6 (ls0.map enc)::S) w:=hw8.ds [3]
  obtain⟨aN,nN,cN,rfl,hnN,hnNc,hcN⟩:=hw9.own_shape (i:=0) rfl
  obtain⟨Γ6,hle6,rN,hw⟩:=hw9.freeze;clear hw7 hw8 hw9;refine W_has (l:=[(2,.slice ax ns cs),(9,.pointer (some ⟨bh,0,none⟩)),(11,.slice aA nA cA),(12,.int .i64 k0),(13,.int .i64 irq),(14,.bool u.Pending),(15,.int .i64 i),(17,.slice aN nN cN),(18,.bool (againS H cap L ls x irq u.Serving))]) ?_ fun ρ hρ=>?_
  ·exact⟨rfl,rfl,rfl,rfl,rfl,rfl,rfl,ht,rfl,trivial⟩
  clear ht;rw[hρ.eq];clear hρ;have hst2:DSt H cap (oneS H cap L ls x irq u.Serving).1 (oneS H cap L ls x irq u.Serving).2.1:=hst
  have q1:=q1.mono hle6
  clear hst;generalize (oneS H cap L ls x irq u.Serving)=T at *
  obtain⟨L',ls',nts,code⟩:=T;simp only at hlaw rN q1 hst2 hnN
  have hw:Wd Γ6 (.blk b (hoC v0 v1 v2 v3 v4 v5 cap vl' bm)::linesR bm ls'::.blk bh (.cells #[w0,.slice a1 n1 c1,w2,w3,w4,w5,.pointer (some ⟨b,0,none⟩),.pointer (some ⟨r,0,none⟩)] 42)::.blk r (rfC w0 (.slice a1 n1 c1) w2 w3 w4 w5 vl2 cap q m' d)::.own (.slice q m' d) 46 6 (ls0.map enc)::S) w:=hw
  obtain⟨W1,hW1⟩:∃W1:Bool,W1=(u.Pending||(againS H cap L ls x irq u.Serving)):=⟨_,rfl⟩
  have hnN:nN=nts.length:=by simpa using hnN
  have hlen':=hst2.len
  repeat first|refine byW ?_|refine byV ?_;intro w hw
  rw[←hW1]at hlaw ⊢
  refine lCall ((Interrupts_R (by omega) hw).mono fun e w hq=>?_)
  clear hw;obtain⟨vF,rfl,hw⟩:=hq;refine⟨_,rfl,?_⟩;obtain⟨aF',nF,cF,rfl,hnF,hnFc,hcF⟩:=hw.own_shape (i:=0) rfl
  have hnF:nF=ls'.length:=by simpa using hnF
  obtain⟨Γ7,hle7,rF,hw1⟩:=hw.freeze;clear hw;have hw:=hw1;clear hw1;have rN:=rN.mono hle7
  repeat first|refine byW ?_|refine byV ?_;intro w hw
  refine W_cond rfl (fun h=>?_) (fun h=>?_)
  ·exact absurd h (by simp;omega)
  clear h;obtain⟨y,hy,hyi,hcase⟩:=hlaw;repeat first|refine byW ?_|refine byV ?_;intro w hw
  refine lAlloc ?_;intro bA w hw;refine lStore ?_;intro w hw;have hw:Wd Γ7 (.blk bA (.cells (enc y).toArray 46)::.blk b (hoC v0 v1 v2 v3 v4 v5 cap vl' bm)::linesR bm ls'::.blk bh (.cells #[w0,.slice a1 n1 c1,w2,w3,w4,w5,.pointer (some ⟨b,0,none⟩),.pointer (some ⟨r,0,none⟩)] 42)::.blk r (rfC w0 (.slice a1 n1 c1) w2 w3 w4 w5 vl2 cap q m' d)::.own (.slice q m' d) 46 6 (ls0.map enc)::S) w:=hw
  repeat first|refine byW ?_|refine byV ?_;intro w hw
  refine W_loop (fun μ2 ρ w=>∃(k:Nat),μ2+k=nN∧Has ρ [(2,.slice ax ns cs),(9,.pointer (some ⟨bh,0,none⟩)),(11,.slice aA nA cA),(12,.int .i64 k0),(13,.int .i64 irq),(14,.bool (W1&&decide (((nts.take k).filter fun n=>decide (n.IRQ=irq)).length=0))),(15,.int .i64 i),(17,.slice aN nN cN),(20,.pointer (some ⟨bA,0,none⟩)),(21,.int .i64 (((nts.take k).filter fun n=>decide (n.IRQ=irq)).length:Nat)),(22,.int .i64 k)]∧Wd Γ7 (.blk bA (.cells (enc y).toArray 46)::.blk b (hoC v0 v1 v2 v3 v4 v5 cap vl' bm)::linesR bm ls'::.blk bh (.cells #[w0,.slice a1 n1 c1,w2,w3,w4,w5,.pointer (some ⟨b,0,none⟩),.pointer (some ⟨r,0,none⟩)] 42)::.blk r (rfC w0 (.slice a1 n1 c1) w2 w3 w4 w5 vl2 cap q m' d)::.own (.slice q m' d) 46 6 (ls0.map enc)::S) w) nN ⟨0,by omega,⟨rfl,rfl,rfl,rfl,rfl,by simp;rfl,rfl,rfl,rfl,rfl,rfl,trivial⟩,hw⟩ ?_
  clear hw;rintro μ2 ρ w ⟨k,hk,hρ,hw⟩
  rw[hρ.eq];clear hρ;repeat first|refine byW ?_|refine byV ?_;intro w hw
  refine W_cond rfl (fun h=>?_) (fun h=>?_)
  ·have hkn:k<nN:=by have:=of_decide_eq_true h;omega
   clear h;obtain⟨n,hn⟩:=get_lt (l:=nts) (k:=k) (by omega)
   have hcs:=cntN_succ (irq:=irq) hn
   repeat first|refine byW ?_|refine byV ?_;intro w hw
   refine W_cond rfl (fun h=>?_) (fun h=>?_)
   ·have h:n.IRQ=irq:=of_decide_eq_true h
    rw[if_pos h]at hcs;rcases hcase with⟨hno,-⟩|⟨hW,hyp,hys,j0,hj0,huq⟩
    ·exact absurd h (hno n (List.mem_of_getElem? hn))
    have hkj:=huq k n hn h
    subst hkj;have hc0:=cntN_one hj0 rfl huq k (by omega)
    rw[if_neg (by omega)]at hc0
    have hnn:n=NoteT.mk irq y.Core y.Driver:=by rw[hj0]at hn;cases hn;rfl
    subst hnn;rw[hc0,hW];rw[hc0]at hcs;repeat first|refine byW ?_|refine byV ?_;intro w hw
    refine W_quiet (by kernel_rfl) (by kernel_rfl) hw ?_
    refine byQ ?_;refine qY ?_ (hy:=fun w hw=>y_neqT (a:=NoteT.mk irq y.Core y.Driver) (b:=NoteT.mk irq y.Core y.Driver) rfl rfl rfl)
    refine byQ ?_;intro w hw;refine W_cond rfl (fun h=>?_) (fun h=>?_)
    ·exact absurd h (by simp)
    repeat first|refine byW ?_|refine byV ?_;intro w hw
    exact⟨μ2-1,by omega,k+1,by omega,⟨rfl,rfl,rfl,rfl,rfl,by rw[hcs];simp;rfl,rfl,rfl,rfl,by rw[hcs];rfl,rfl,trivial⟩,hw⟩
   ·have h:¬n.IRQ=irq:=of_decide_eq_false h
    rw[if_neg h,Nat.add_zero]at hcs;repeat first|refine byW ?_|refine byV ?_;intro w hw
    exact⟨μ2-1,by omega,k+1,by omega,⟨rfl,rfl,rfl,rfl,rfl,by rw[hcs];rfl,rfl,rfl,rfl,by rw[hcs];rfl,rfl,trivial⟩,hw⟩
  ·have hkn:k=nN:=by have:=of_decide_eq_false h;omega
   subst hkn;clear h;repeat first|refine byW ?_|refine byV ?_;intro w hw
   refine lG (v:=.bool (!(y.Pending == (W1&&decide (((nts.take k).filter fun n=>decide (n.IRQ=irq)).length=0))))) ?_ (hv:=by intro hc;exact y_neqB byOP byOP)
   repeat first|refine byW ?_|refine byV ?_;intro w hw
   have hd0:=hst2.no y (List.mem_of_getElem? hy)
   have hdrv:=hst2.drv y (List.mem_of_getElem? hy)
   have hsrv:=hst2.srv y (List.mem_of_getElem? hy)
   have hsub:=fun c hc=>(live_rng hv hst2.sub c hc).1
   have e1:decide (0≤y.Driver) = !decide (y.Driver = -1):=by
    by_cases e:y.Driver = -1
    ·simp[e]
    ·simp[e];omega
   have e2:decide (y.Serving<0)=decide (y.Serving = -1):=by
    rcases hsrv with e|e
    ·simp[e]
    ·have:=hsub _ e
     rw[decide_eq_false (by omega),decide_eq_false (by omega)]
   unfold dlv at hd0;refine W_cond rfl (fun h=>?_) (fun h=>?_)
   ·exfalso
    rcases hcase with⟨hno,hyW⟩|⟨hW,hyp,hys,j0,hj0,huq⟩
    ·rw[cntN_none hno,hyW,e1,e2]at h;rw[hyW]at hd0;simp at h hd0
     exact hd0 h.1.1.1 h.1.1.2 h.1.2 h.2
    ·have hc1:=cntN_one hj0 rfl huq k (by omega)
     rw[if_pos (by have:=(List.getElem?_eq_some_iff.1 hj0).1;omega)]at hc1
     rw[hc1,hyp,hys]at h;simp at h
   clear h;have hfin:(W1&&decide (((nts.take k).filter fun n=>decide (n.IRQ=irq)).length=0))=y.Pending:=by
    rcases hcase with⟨hno,hyW⟩|⟨hW,hyp,hys,j0,hj0,huq⟩
    ·rw[cntN_none hno,hyW];simp
    ·have hc1:=cntN_one hj0 rfl huq k (by omega)
     rw[if_pos (by have:=(List.getElem?_eq_some_iff.1 hj0).1;omega)]at hc1
     rw[hc1,hyp];simp
   have hle47:=hle4.trans (hle5.trans (hle6.trans hle7))
   repeat first|refine byW ?_|refine byV ?_;intro w hw
   exact⟨μ-1,by omega,Γ7,vl',L',ls',y,i+1,by omega,⟨rfl,rfl,rfl,rfl,rfl,congrArg Value.bool hfin,rfl,trivial⟩,hle.trans hle47,hle3.trans hle47,hst2,hy,hyi,q1.mono hle7,hw.drop⟩
 ·repeat first|refine byW ?_|refine byV ?_;intro w hw
  exact⟨_,rfl,Γ3,hle,rfl,hw.ds [0,0,0,0,0]⟩
end Go.Proofs.YthgighljhoneeaaGreat
end
