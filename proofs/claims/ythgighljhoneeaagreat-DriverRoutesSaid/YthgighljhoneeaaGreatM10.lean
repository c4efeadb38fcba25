/- Texts of this proof, one behind another. -/
import Derived.Test.YthgighljhoneeaaGreatM8
set_option linter.unusedVariables false
set_option linter.unusedSimpArgs false
section
open Go Mk
namespace Go.Proofs.YthgighljhoneeaaGreat
set_option maxHeartbeats 64000000
attribute [local irreducible] Calls
attribute [local irreducible] matL
theorem has_any{Γ:Gho}{S:List Res}{w:World}{v:Value}{L:List Int}(hr:RepS Γ v 1 (intRows L))(x:Int)(hw:Wd Γ S w) :
  Calls Tryz.prog 16 #[v,.int .i64 x] w fun e w'=>e=.returned (.bool (decide (x∈L)))∧Wd Γ S w':=by
 obtain⟨a,n,c,rfl,hn,hnc,hc⟩:=hr.shape
 have hn:n=L.length:=by simpa[intRows] using hn
 refine calls_of_W Tryz.func16 rfl rfl ?_
 repeat first|refine byW ?_|refine byV ?_;intro w hw
 refine W_loop (fun μ ρ w=>∃(i:Nat),μ+i=n∧Has ρ [(0,.slice a n c),(1,.int .i64 x),(5,.int .i64 i)]∧x∉L.take i∧Wd Γ S w) n ⟨0,by omega,⟨rfl,rfl,rfl,trivial⟩,by simp,hw⟩ ?_
 clear hw
 rintro μ ρ w ⟨i,hi,hρ,hx,hw⟩
 rw[hρ.eq]
 clear hρ
 repeat first|refine byW ?_|refine byV ?_;intro w hw
 refine W_cond rfl (fun h=>?_) (fun h=>?_)
 ·have hin:i<n:=by have:=of_decide_eq_true h;omega
  clear h
  obtain⟨y,hy⟩:=get_lt (l:=L) (k:=i) (by omega)
  repeat first|refine byW ?_|refine byV ?_;intro w hw
  refine W_cond rfl (fun h=>?_) (fun h=>?_)
  ·have h:y=x:=of_decide_eq_true h
   subst h
   have hm:=List.mem_of_getElem? hy
   repeat first|refine byW ?_|refine byV ?_;intro w hw
   exact⟨_,rfl,by rw[decide_eq_true hm];rfl,hw⟩
  ·have h:¬y=x:=of_decide_eq_false h
   repeat first|refine byW ?_|refine byV ?_;intro w hw
   exact⟨μ-1,by omega,i+1,by omega,⟨rfl,rfl,rfl,trivial⟩,(by rw[take_succ_of hy];simp only[List.mem_append,List.mem_singleton];rintro (e|e);exact hx e;exact h e.symm),hw⟩
 ·have h:¬i<n:=by have:=of_decide_eq_false h;omega
  rw[List.take_of_length_le (by omega)]at hx
  repeat first|refine byW ?_|refine byV ?_;intro w hw
  exact⟨_,rfl,by rw[decide_eq_false hx];rfl,hw⟩
theorem has_pg{Γ:Gho}{v:Value}{L:List Int}(hr:RepS Γ v 1 (intRows L))(x:Int):PG Tryz.prog Γ 16 [v,.int .i64 x] (.bool (decide (x∈L))):=⟨fun S w hw=>has_any hr x hw⟩
theorem DriverRoutes_any{Γ:Gho}{S:List Res}{w:World}{a ap ax:Option Addr}{m c np cp ns cs:Nat}{L0 PK:List Int}{XS:List StepT}(hr:RepS Γ (.slice a m c) 1 (intRows L0))(hp:RepS Γ (.slice ap np cp) 1 (intRows PK))(hs:RepS Γ (.slice ax ns cs) 5 (XS.map enc))(hw:Wd Γ S w) :
  Calls Tryz.prog 5 #[.slice a m c,.slice ap np cp,.slice ax ns cs] w fun e w'=>∃Γ',Γ.le Γ'∧e=.returned (.bool true)∧Wd Γ' S w':=by
 obtain⟨hnp,hncp,hccp⟩:=rep_facts hp
 obtain⟨hnr,hncr,hccr⟩:=rep_facts hr
 obtain⟨hns,hncs,hccs⟩:=rep_facts hs
 have hns:ns=XS.length:=by simpa using hns
 refine calls_of_W Tryz.func5 rfl rfl ?_
 repeat first|refine byW ?_|refine byV ?_;intro w hw
 refine W_cond rfl (fun h=>?_) (fun h=>?_)
 ·repeat first|refine byW ?_|refine byV ?_;intro w hw
  exact⟨_,rfl,Γ,.refl _,rfl,hw⟩
 have hLs:¬(200<(m:Int)∨6<(np:Int)):=by simpa using h
 clear h
 repeat first|refine byW ?_|refine byV ?_;intro w hw
 refine lCall ((open_any hr hp (by omega) 0 hw).mono fun r w hq=>?_)
 clear hw
 obtain⟨Γ1,H,bh,L,ls,hle,rfl,hd,hS,ho⟩:=hq
 refine⟨_,rfl,?_⟩
 obtain⟨cap,hcap⟩:∃cap:Int,cap=(if (1:Int)<(H.Devs.length:Int) then (H.Devs.length:Int) else 1)+0%3:=⟨_,rfl⟩
 rw[←hcap]at hd hS ho
 have hcap:cap=if (1:Int)<(H.Devs.length:Int) then (H.Devs.length:Int) else 1:=by rw[hcap];exact Int.add_zero _
 obtain⟨R,hw⟩:=ho.wd
 repeat first|refine byW ?_|refine byV ?_;intro w hw
 refine W_loop (fun μ ρ w=>∃(Γ':Gho) (L:List Int) (ls:List IntrT) (i:Nat),μ+i=ns∧Has ρ [(2,.slice ax ns cs),(7,.pointer (some ⟨bh,0,none⟩)),(8,.bool true),(9,.int .i64 i)]∧Γ.le Γ'∧DSt H cap L ls∧OpenP Γ' S w bh H cap L ls) ns ⟨Γ1,L,ls,0,by omega,⟨rfl,rfl,rfl,rfl,trivial⟩,hle,hS,ho⟩ ?_
 clear hw hle hS ho hr hp
 rintro μ ρ w ⟨Γ3,L,ls,i,hμ,hρ,hle,hS,ho⟩
 rw[hρ.eq]
 clear hρ
 obtain⟨R,hw⟩:=ho.wd
 have hs3:=hs.mono hle
 repeat first|refine byW ?_|refine byV ?_;intro w hw
 refine W_cond rfl (fun h=>?_) (fun h=>?_)
 ·have hin:i<ns∧i<60:=by simp at h;omega
  clear h
  obtain⟨y,hy⟩:=get_lt (l:=XS) (k:=i) (by omega)
  repeat first|refine byW ?_|refine byV ?_;intro w hw
  refine lCall ((do_O hd hS y ho).mono fun r w hq=>?_)
  clear hw ho
  obtain⟨Γ4,hle4,rfl,ho⟩:=hq
  refine⟨_,rfl,?_⟩
  have hS4:=doS_st hd.cap hS y
  clear hS hs3 hy
  generalize doS H cap L ls y=t at *
  clear L ls
  obtain⟨L,ls⟩:=t
  have hS4:DSt H cap L ls:=hS4
  have ho:OpenP Γ4 S w bh H cap L ls:=ho
  have hle:=hle.trans hle4
  obtain⟨b,bm,r,v0,v1,v2,v3,v4,v5,w0,w2,w3,w4,w5,vl,vl2,a1,n1,c1,q,m',d,p1,p2,p3,p4,hw⟩:=ho
  have p2':=p2
  obtain⟨a1',n1',c1',a2,n2,c2,a3,n3,c3,a4,n4,c4,a5,n5,c5,cs',hu,hcs,hok,hsz,r1,r2,r3,r4,r5⟩:=p2'.h
  clear p2'
  simp only[Value.agg.injEq,Array.mk.injEq,List.cons.injEq,and_true,Value.slice.injEq]at hu
  obtain⟨-,⟨rfl,rfl,rfl⟩,-,-,-,rfl⟩:=hu
  obtain⟨hn5,hnc5,hcc5⟩:=rep_facts r5
  simp only[List.length_map]at hn5
  have hdv:=hd.dev
  have hlen:=hS4.len
  have hN:ls.length≤1000:=by omega
  have hLn:L.length≤32:=hS4.ln hd.cap.v
  obtain⟨tot,hip⟩:=hS4.rt
  repeat first|refine byW ?_|refine byV ?_;intro w hw
  have hw:Wd Γ4 (([.blk bh (.cells #[w0,.slice a1 n1 c1,w2,w3,w4,.slice a5 n5 c5,.pointer (some ⟨b,0,none⟩),.pointer (some ⟨r,0,none⟩)] 42)]:List Res)++(.blk b (hoC v0 v1 v2 v3 v4 v5 cap vl bm)::linesR bm ls::.blk r (rfC w0 (.slice a1 n1 c1) w2 w3 w4 (.slice a5 n5 c5) vl2 cap q m' d)::.own (.slice q m' d) 46 6 (ls.map enc)::S)) w:=hw.ps [4]
  refine W_mixCg [.blk bh (.cells #[w0,.slice a1 n1 c1,w2,w3,w4,.slice a5 n5 c5,.pointer (some ⟨b,0,none⟩),.pointer (some ⟨r,0,none⟩)] 42)] (.blk b (hoC v0 v1 v2 v3 v4 v5 cap vl bm)::linesR bm ls::.blk r (rfC w0 (.slice a1 n1 c1) w2 w3 w4 (.slice a5 n5 c5) vl2 cap q m' d)::.own (.slice q m' d) 46 6 (ls.map enc)::S) [54,59,10,11] [[],[],[],[],[0],[],[],[],[],[0],[0],[0]] hw ?_
  repeat refine gY ?_
  refine gCallX (T':=Value) (v:=undef) (fun t g=>g 54=t) (fun t=>Res.rep t 1 (intRows L)::.blk b (hoC v0 v1 v2 v3 v4 v5 cap vl bm)::linesR bm ls::.blk r (rfC w0 (.slice a1 n1 c1) w2 w3 w4 (.slice a5 n5 c5) vl2 cap q m' d)::.own (.slice q m' d) 46 6 (ls.map enc)::S) (fun _ _=>_) (fun Γ' t g w Y hle _ hw=>?_) ?_
  ·refine(Live_any (i:=0) (p3.mono hle) (by omega) rfl hw).mono ?_
   rintro e w ⟨u,rfl,hw⟩
   obtain⟨Γ1,hle1,s1,hw1⟩:=hw.freeze
   exact⟨_,rfl,Γ1,u,hle1,rfl,(fun h=>(by cases h)),Wd.repIn s1 hw1⟩
  repeat refine gY ?_
  refine gCallX (φ:=fun (t:Value) g=>g 54=t) (T':=Value×Value) (v:=undef) (fun t g=>g 54=t.1∧g 59=t.2) (fun t=>Res.rep t.1 1 (intRows L)::Res.rep t.2 6 (ls.map enc)::.blk b (hoC v0 v1 v2 v3 v4 v5 cap vl bm)::linesR bm ls::.blk r (rfC w0 (.slice a1 n1 c1) w2 w3 w4 (.slice a5 n5 c5) vl2 cap q m' d)::.own (.slice q m' d) 46 6 (ls.map enc)::S) (fun _ _=>_) (fun Γ' t g w Y hle ht hw=>?_) ?_
  ·refine(Interrupts_R hN (hw.ps [2,2])).mono ?_
   rintro e w ⟨u,rfl,hw⟩
   obtain⟨Γ1,hle1,s1,hw1⟩:=hw.freeze
   exact⟨_,rfl,Γ1,(t,u),hle1,⟨ht,rfl⟩,(fun h=>(by cases h)),(Wd.repIn s1 hw1).ps [3]⟩
  refine gStepX (φ:=fun (t:Value×Value) g=>g 54=t.1∧g 59=t.2) (T':=Value×Value) (R:=fun t=>Res.rep t.1 1 (intRows L)::Res.rep t.2 6 (ls.map enc)::.blk b (hoC v0 v1 v2 v3 v4 v5 cap vl bm)::linesR bm ls::.blk r (rfC w0 (.slice a1 n1 c1) w2 w3 w4 (.slice a5 n5 c5) vl2 cap q m' d)::.own (.slice q m' d) 46 6 (ls.map enc)::S) (v:=undef) (fun t g=>g 10=t.1∧g 59=t.2) (fun t=>Res.rep t.1 1 (intRows L)::Res.rep t.2 6 (ls.map enc)::.blk b (hoC v0 v1 v2 v3 v4 v5 cap vl bm)::linesR bm ls::.blk r (rfC w0 (.slice a1 n1 c1) w2 w3 w4 (.slice a5 n5 c5) vl2 cap q m' d)::.own (.slice q m' d) 46 6 (ls.map enc)::S) (fun Γ' t g w Y hle ht hw=>?_) ?_
  ·obtain⟨h1,h2⟩:=ht
   have h1:g 54=t.1:=h1
   exact Yields.step (y_assign (v:=t.1) h1) ⟨Γ',t,.refl _,⟨rfl,h2⟩,(fun h=>(by cases h)),hw⟩
  refine gStepX (φ:=fun (t:Value×Value) g=>g 10=t.1∧g 59=t.2) (T':=Value×Value) (R:=fun t=>Res.rep t.1 1 (intRows L)::Res.rep t.2 6 (ls.map enc)::.blk b (hoC v0 v1 v2 v3 v4 v5 cap vl bm)::linesR bm ls::.blk r (rfC w0 (.slice a1 n1 c1) w2 w3 w4 (.slice a5 n5 c5) vl2 cap q m' d)::.own (.slice q m' d) 46 6 (ls.map enc)::S) (v:=undef) (fun t g=>g 10=t.1∧g 11=t.2) (fun t=>Res.rep t.1 1 (intRows L)::Res.rep t.2 6 (ls.map enc)::.blk b (hoC v0 v1 v2 v3 v4 v5 cap vl bm)::linesR bm ls::.blk r (rfC w0 (.slice a1 n1 c1) w2 w3 w4 (.slice a5 n5 c5) vl2 cap q m' d)::.own (.slice q m' d) 46 6 (ls.map enc)::S) (fun Γ' t g w Y hle ht hw=>?_) ?_
  ·obtain⟨h1,h2⟩:=ht
   have h2:g 59=t.2:=h2
   exact Yields.step (y_assign (v:=t.2) h2) ⟨Γ',t,.refl _,⟨h1,rfl⟩,(fun h=>(by cases h)),hw⟩
  clear hw
  refine gEndX (φ:=fun (t:Value×Value) g=>g 10=t.1∧g 11=t.2) (R:=fun t=>Res.rep t.1 1 (intRows L)::Res.rep t.2 6 (ls.map enc)::.blk b (hoC v0 v1 v2 v3 v4 v5 cap vl bm)::linesR bm ls::.blk r (rfC w0 (.slice a1 n1 c1) w2 w3 w4 (.slice a5 n5 c5) vl2 cap q m' d)::.own (.slice q m' d) 46 6 (ls.map enc)::S) fun Γ5 t w g hle5 ht hw7=>?_
  obtain⟨vL,vI⟩:=t
  have ht1:g 10=vL:=ht.1
  have ht2:g 11=vI:=ht.2
  have hw8:Wd Γ5 (Res.rep vL 1 (intRows L)::Res.rep vI 6 (ls.map enc)::(.blk b (hoC v0 v1 v2 v3 v4 v5 cap vl bm)::linesR bm ls::.blk r (rfC w0 (.slice a1 n1 c1) w2 w3 w4 (.slice a5 n5 c5) vl2 cap q m' d)::.own (.slice q m' d) 46 6 (ls.map enc)::S++[.blk bh (.cells #[w0,.slice a1 n1 c1,w2,w3,w4,.slice a5 n5 c5,.pointer (some ⟨b,0,none⟩),.pointer (some ⟨r,0,none⟩)] 42)])) w:=hw7
  have rL:=hw8.repOut (i:=0) rfl
  have rI:=hw8.repOut (i:=1) rfl
  have hw9:Wd Γ5 (.blk b (hoC v0 v1 v2 v3 v4 v5 cap vl bm)::linesR bm ls::.blk r (rfC w0 (.slice a1 n1 c1) w2 w3 w4 (.slice a5 n5 c5) vl2 cap q m' d)::.own (.slice q m' d) 46 6 (ls.map enc)::S++([.blk bh (.cells #[w0,.slice a1 n1 c1,w2,w3,w4,.slice a5 n5 c5,.pointer (some ⟨b,0,none⟩),.pointer (some ⟨r,0,none⟩)] 42)]:List Res)) w:=hw8.ds [0,0]
  have hw:Wd Γ5 (.blk bh (.cells #[w0,.slice a1 n1 c1,w2,w3,w4,.slice a5 n5 c5,.pointer (some ⟨b,0,none⟩),.pointer (some ⟨r,0,none⟩)] 42)::.blk b (hoC v0 v1 v2 v3 v4 v5 cap vl bm)::linesR bm ls::.blk r (rfC w0 (.slice a1 n1 c1) w2 w3 w4 (.slice a5 n5 c5) vl2 cap q m' d)::.own (.slice q m' d) 46 6 (ls.map enc)::S) w:=hw9.perm List.perm_append_comm
  clear hw7 hw8 hw9
  obtain⟨aL,nL,cL,rfl,hnL,hnLc,hcL⟩:=rL.shape
  obtain⟨aI,nI,cI,rfl,hnI,hnIc,hcI⟩:=rI.shape
  have hnL:nL=L.length:=by simpa[intRows] using hnL
  have hnI:nI=ls.length:=by simpa using hnI
  refine W_has (l:=[(2,.slice ax ns cs),(7,.pointer (some ⟨bh,0,none⟩)),(8,.bool true),(9,.int .i64 i),(10,.slice aL nL cL),(11,.slice aI nI cI)]) ?_ fun ρ hρ=>?_
  ·exact⟨rfl,rfl,rfl,rfl,ht1,ht2,trivial⟩
  clear ht ht1 ht2
  rw[hρ.eq]
  clear hρ
  have hR5:=p2.mono hle5
  repeat first|refine byW ?_|refine byV ?_;intro w hw
  have hwm:Wd Γ5 ((.blk bh (.cells #[w0,.slice a1 n1 c1,w2,w3,w4,.slice a5 n5 c5,.pointer (some ⟨b,0,none⟩),.pointer (some ⟨r,0,none⟩)] 42)::.blk b (hoC v0 v1 v2 v3 v4 v5 cap vl bm)::linesR bm ls::.blk r (rfC w0 (.slice a1 n1 c1) w2 w3 w4 (.slice a5 n5 c5) vl2 cap q m' d)::.own (.slice q m' d) 46 6 (ls.map enc)::S)++[]) w:=by rw[List.append_nil];exact hw
  refine W_mixed (.blk bh (.cells #[w0,.slice a1 n1 c1,w2,w3,w4,.slice a5 n5 c5,.pointer (some ⟨b,0,none⟩),.pointer (some ⟨r,0,none⟩)] 42)::.blk b (hoC v0 v1 v2 v3 v4 v5 cap vl bm)::linesR bm ls::.blk r (rfC w0 (.slice a1 n1 c1) w2 w3 w4 (.slice a5 n5 c5) vl2 cap q m' d)::.own (.slice q m' d) 46 6 (ls.map enc)::S) [fun _=>[],fun _=>[],fun _=>[]] [[],[],[],[],[],[],[],[],[],[],[],[],[0],[0,1,2],[1],[],[],[1],[],[]] [[],[],[],[],[],[],[],[],[],[],[],[],[0],[0,1,2],[1],[2],[2],[1],[],[]] [[73,60],[60,74,12],[60]] hwm ?_
  clear hwm hw
  refine byM ?_
  have hcap5:(if (1:Int)<(n5:Int) then (n5:Int) else 1)=cap:=by rw[hn5,hcap]
  rw[hcap5]
  refine mS (c:=0) (v:=undef) (F:=fun _=>[]) (exC (T:=Value) (fun t g=>g 73=.tuple #[t,.int .i64 tot,.int .i64 0]) fun t=>[.own t 55 2 ((rtI ls).map prI)]) (fun g w Y hw=>?_) ?_
  ·refine s_call (vs:=#[Value.agg #[w0,.slice a1 n1 c1,w2,w3,w4,.slice a5 n5 c5],.slice aL nL cL,.int .i64 cap]) ?_ ((int_fix (hh:=hR5) hip rL (by omega) (Nat.le_trans live_subD.1 (by omega)) hdv live_subD.2 hw).mono fun e w' hq=>?_)
   ·exact EvL.eqA (xs:=[.tmp 64,.tmp 65,.tmp 72]) (vs:=[Value.agg #[w0,.slice a1 n1 c1,w2,w3,w4,.slice a5 n5 c5],.slice aL nL cL,.int .i64 cap]) (EvL.cons (by rfl) (EvL.cons (by rfl) (EvL.cons (by rfl) EvL.nil)))
   obtain⟨t,rfl,hw2⟩:=hq
   refine⟨_,rfl,fun h=>(by cases h),?_⟩
   exact exC_mk (T:=Value) (φ:=fun t g=>g 73=.tuple #[t,.int .i64 tot,.int .i64 0]) (R:=fun t=>[.own t 55 2 ((rtI ls).map prI)]) t rfl hw2
  refine mM3 (c:=0) (c2:=1) (c3:=2) (v:=undef) (exC (T:=Value) (fun t g=>g 60=.tuple #[t,.int .i64 tot,.int .i64 0]) fun t=>[.own t 55 2 ((rtI ls).map prI)]) (exC (T:=Value) (fun t g=>g 60=.tuple #[t,.int .i64 tot,.int .i64 0]) fun _=>[]) (exC (T:=Value) (fun t g=>g 60=.tuple #[t,.int .i64 tot,.int .i64 0]) fun _=>[]) (fun Y w g hw=>?_) ?_ rfl rfl
  ·have hw1:Wd Γ5 ((.blk bh (.cells #[w0,.slice a1 n1 c1,w2,w3,w4,.slice a5 n5 c5,.pointer (some ⟨b,0,none⟩),.pointer (some ⟨r,0,none⟩)] 42)::.blk b (hoC v0 v1 v2 v3 v4 v5 cap vl bm)::linesR bm ls::.blk r (rfC w0 (.slice a1 n1 c1) w2 w3 w4 (.slice a5 n5 c5) vl2 cap q m' d)::.own (.slice q m' d) 46 6 (ls.map enc)::S)++(((exC (T:=Value) (fun t g=>g 73=.tuple #[t,.int .i64 tot,.int .i64 0]) fun t=>[.own t 55 2 ((rtI ls).map prI)]) (ovr [73,60] g noFr))++([]++([]++[]))++Y)) w:=hw
   obtain⟨t,ht,hw2⟩:=exC_open (hw1.perm perm3.symm)
   have ht:g 73=.tuple #[t,.int .i64 tot,.int .i64 0]:=ht
   refine Yields.step (y_move (v:=.tuple #[t,.int .i64 tot,.int .i64 0]) ht) ⟨?_,fun h=>(by cases h)⟩
   have hw3:=exC_mk (T:=Value) (φ:=fun t g=>g 60=.tuple #[t,.int .i64 tot,.int .i64 0]) (R:=fun t=>[.own t 55 2 ((rtI ls).map prI)]) (g:=ovr [73,60] (putO g (some 60) (.tuple #[t,.int .i64 tot,.int .i64 0])) noFr) t rfl hw2
   have hw4:=hw3.perm List.perm_append_comm
   have hw5:=exC_mk (T:=Value) (φ:=fun t g=>g 60=.tuple #[t,.int .i64 tot,.int .i64 0]) (R:=fun _=>[]) (g:=ovr [60,74,12] (putO g (some 60) (.tuple #[t,.int .i64 tot,.int .i64 0])) noFr) t rfl hw4
   have hw6:=exC_mk (T:=Value) (φ:=fun t g=>g 60=.tuple #[t,.int .i64 tot,.int .i64 0]) (R:=fun _=>[]) (g:=ovr [60] (putO g (some 60) (.tuple #[t,.int .i64 tot,.int .i64 0])) noFr) t rfl hw5
   have hw7:Wd Γ5 (((exC (T:=Value) (fun t g=>g 60=.tuple #[t,.int .i64 tot,.int .i64 0]) fun _=>[]) (ovr [60] (putO g (some 60) (.tuple #[t,.int .i64 tot,.int .i64 0])) noFr))++(((exC (T:=Value) (fun t g=>g 60=.tuple #[t,.int .i64 tot,.int .i64 0]) fun _=>[]) (ovr [60,74,12] (putO g (some 60) (.tuple #[t,.int .i64 tot,.int .i64 0])) noFr))++(([]++([]++((.blk bh (.cells #[w0,.slice a1 n1 c1,w2,w3,w4,.slice a5 n5 c5,.pointer (some ⟨b,0,none⟩),.pointer (some ⟨r,0,none⟩)] 42)::.blk b (hoC v0 v1 v2 v3 v4 v5 cap vl bm)::linesR bm ls::.blk r (rfC w0 (.slice a1 n1 c1) w2 w3 w4 (.slice a5 n5 c5) vl2 cap q m' d)::.own (.slice q m' d) 46 6 (ls.map enc)::S)++Y)))++((exC (T:=Value) (fun t g=>g 60=.tuple #[t,.int .i64 tot,.int .i64 0]) fun t=>[.own t 55 2 ((rtI ls).map prI)]) (ovr [73,60] (putO g (some 60) (.tuple #[t,.int .i64 tot,.int .i64 0])) noFr))))) w:=hw6
   exact hw7.perm perm6
  refine mS (c:=1) (v:=undef) (F:=(exC (T:=Value) (fun t g=>g 60=.tuple #[t,.int .i64 tot,.int .i64 0]) fun _=>[])) (exC (T:=Value) (fun t g=>g 60=.tuple #[t,.int .i64 tot,.int .i64 0]∧g 74=t) fun _=>[]) (fun g w Y hw=>?_) ?_
  ·obtain⟨t,ht,hw1⟩:=exC_open hw
   have ht:g 60=.tuple #[t,.int .i64 tot,.int .i64 0]:=ht
   refine Yields.step (y_extract (v:=t) ht rfl) ⟨fun h=>(by cases h),?_⟩
   exact exC_mk (T:=Value) (φ:=fun t g=>g 60=.tuple #[t,.int .i64 tot,.int .i64 0]∧g 74=t) (R:=fun _=>[]) t ⟨ht,rfl⟩ hw1
  refine mC (v:=.int .i64 tot) (fun Y w g hw=>?_) rfl rfl rfl ?_
  ·have hw1:Wd Γ5 ((.blk bh (.cells #[w0,.slice a1 n1 c1,w2,w3,w4,.slice a5 n5 c5,.pointer (some ⟨b,0,none⟩),.pointer (some ⟨r,0,none⟩)] 42)::.blk b (hoC v0 v1 v2 v3 v4 v5 cap vl bm)::linesR bm ls::.blk r (rfC w0 (.slice a1 n1 c1) w2 w3 w4 (.slice a5 n5 c5) vl2 cap q m' d)::.own (.slice q m' d) 46 6 (ls.map enc)::S)++((((exC (T:=Value) (fun t g=>g 60=.tuple #[t,.int .i64 tot,.int .i64 0]) fun _=>[]) (ovr [60] g noFr))++[])++Y)) w:=hw
   obtain⟨t,ht,-⟩:=exC_open (hw1.perm perm1)
   exact Yields.step (y_extract (v:=.int .i64 tot) ht rfl) ⟨rfl,hw⟩
  refine mC (v:=.int .i64 0) (fun Y w g hw=>?_) rfl rfl rfl ?_
  ·have hw1:Wd Γ5 ((.blk bh (.cells #[w0,.slice a1 n1 c1,w2,w3,w4,.slice a5 n5 c5,.pointer (some ⟨b,0,none⟩),.pointer (some ⟨r,0,none⟩)] 42)::.blk b (hoC v0 v1 v2 v3 v4 v5 cap vl bm)::linesR bm ls::.blk r (rfC w0 (.slice a1 n1 c1) w2 w3 w4 (.slice a5 n5 c5) vl2 cap q m' d)::.own (.slice q m' d) 46 6 (ls.map enc)::S)++((((exC (T:=Value) (fun t g=>g 60=.tuple #[t,.int .i64 tot,.int .i64 0]) fun _=>[]) (ovr [60] g noFr))++[])++Y)) w:=hw
   obtain⟨t,ht,-⟩:=exC_open (hw1.perm perm1)
   exact Yields.step (y_extract (v:=.int .i64 0) ht rfl) ⟨rfl,hw⟩
  refine mS (c:=1) (v:=undef) (F:=(exC (T:=Value) (fun t g=>g 60=.tuple #[t,.int .i64 tot,.int .i64 0]∧g 74=t) fun _=>[])) (exC (T:=Value) (fun t g=>g 60=.tuple #[t,.int .i64 tot,.int .i64 0]∧g 12=t) fun _=>[]) (fun g w Y hw=>?_) ?_
  ·obtain⟨t,⟨ht,ht2⟩,hw1⟩:=exC_open hw
   have ht:g 60=.tuple #[t,.int .i64 tot,.int .i64 0]:=ht
   have ht2:g 74=t:=ht2
   refine Yields.step (y_assign (v:=t) ht2) ⟨fun h=>(by cases h),?_⟩
   exact exC_mk (T:=Value) (φ:=fun t g=>g 60=.tuple #[t,.int .i64 tot,.int .i64 0]∧g 12=t) (R:=fun _=>[]) t ⟨ht,rfl⟩ hw1
  refine byM ?_
  refine mEnd fun w g hw=>?_
  have hw1:Wd Γ5 ((.blk bh (.cells #[w0,.slice a1 n1 c1,w2,w3,w4,.slice a5 n5 c5,.pointer (some ⟨b,0,none⟩),.pointer (some ⟨r,0,none⟩)] 42)::.blk b (hoC v0 v1 v2 v3 v4 v5 cap vl bm)::linesR bm ls::.blk r (rfC w0 (.slice a1 n1 c1) w2 w3 w4 (.slice a5 n5 c5) vl2 cap q m' d)::.own (.slice q m' d) 46 6 (ls.map enc)::S)++((((exC (T:=Value) (fun t g=>g 60=.tuple #[t,.int .i64 tot,.int .i64 0]) fun t=>[.own t 55 2 ((rtI ls).map prI)]) (ovr [73,60] g noFr))++(((exC (T:=Value) (fun t g=>g 60=.tuple #[t,.int .i64 tot,.int .i64 0]∧g 12=t) fun _=>[]) (ovr [60,74,12] g noFr))++(((exC (T:=Value) (fun t g=>g 60=.tuple #[t,.int .i64 tot,.int .i64 0]) fun _=>[]) (ovr [60] g noFr))++[])))++[])) w:=by rw[List.append_nil];exact hw
  obtain⟨t,ht,hw2⟩:=exC_open (hw1.perm perm3.symm)
  have ht:g 60=.tuple #[t,.int .i64 tot,.int .i64 0]:=ht
  have hw3:Wd Γ5 (((exC (T:=Value) (fun t g=>g 60=.tuple #[t,.int .i64 tot,.int .i64 0]∧g 12=t) fun _=>[]) (ovr [60,74,12] g noFr))++(((exC (T:=Value) (fun t g=>g 60=.tuple #[t,.int .i64 tot,.int .i64 0]) fun _=>[]) (ovr [60] g noFr))++(((.blk bh (.cells #[w0,.slice a1 n1 c1,w2,w3,w4,.slice a5 n5 c5,.pointer (some ⟨b,0,none⟩),.pointer (some ⟨r,0,none⟩)] 42)::.blk b (hoC v0 v1 v2 v3 v4 v5 cap vl bm)::linesR bm ls::.blk r (rfC w0 (.slice a1 n1 c1) w2 w3 w4 (.slice a5 n5 c5) vl2 cap q m' d)::.own (.slice q m' d) 46 6 (ls.map enc)::S)++[])++[.own t 55 2 ((rtI ls).map prI)]))) w:=hw2.perm perm4
  obtain⟨t2,⟨ht2,ht3⟩,hw4⟩:=exC_open hw3
  have ht2:g 60=.tuple #[t2,.int .i64 tot,.int .i64 0]:=ht2
  have ht3:g 12=t2:=ht3
  obtain rfl:t2=t:=by
   have:=ht2.symm.trans ht
   simp at this
   exact this
  rw[List.nil_append]at hw4
  obtain⟨-,-,hw5⟩:=exC_open hw4
  clear hw hw1 hw2 hw3 hw4
  rw[List.append_nil,List.nil_append]at hw5
  have hw:Wd Γ5 ([.own t2 55 2 ((rtI ls).map prI)]++(.blk bh (.cells #[w0,.slice a1 n1 c1,w2,w3,w4,.slice a5 n5 c5,.pointer (some ⟨b,0,none⟩),.pointer (some ⟨r,0,none⟩)] 42)::.blk b (hoC v0 v1 v2 v3 v4 v5 cap vl bm)::linesR bm ls::.blk r (rfC w0 (.slice a1 n1 c1) w2 w3 w4 (.slice a5 n5 c5) vl2 cap q m' d)::.own (.slice q m' d) 46 6 (ls.map enc)::S)) w:=hw5.perm List.perm_append_comm
  clear hw5
  refine W_has (l:=[(2,.slice ax ns cs),(7,.pointer (some ⟨bh,0,none⟩)),(8,.bool true),(9,.int .i64 i),(10,.slice aL nL cL),(11,.slice aI nI cI),(12,t2),(14,.int .i64 0)]) ?_ fun ρ hρ=>?_
  ·exact⟨rfl,rfl,rfl,rfl,rfl,rfl,ht3,rfl,trivial⟩
  clear ht ht2 ht3
  rw[hρ.eq]
  clear hρ
  have hw:Wd Γ5 (.own t2 55 2 ((rtI ls).map prI)::.blk bh (.cells #[w0,.slice a1 n1 c1,w2,w3,w4,.slice a5 n5 c5,.pointer (some ⟨b,0,none⟩),.pointer (some ⟨r,0,none⟩)] 42)::.blk b (hoC v0 v1 v2 v3 v4 v5 cap vl bm)::linesR bm ls::.blk r (rfC w0 (.slice a1 n1 c1) w2 w3 w4 (.slice a5 n5 c5) vl2 cap q m' d)::.own (.slice q m' d) 46 6 (ls.map enc)::S) w:=hw
  obtain⟨ar,nr,cr,rfl,hnr,hncr,hccr⟩:=hw.own_shape (i:=0) rfl
  have hnr:nr=ls.length:=by simpa[rtI] using hnr
  obtain⟨Γ6,hle6,rR,hw1⟩:=hw.freeze
  clear hw
  have hw:=hw1
  clear hw1
  have rL:=rL.mono hle6
  have rI:=rI.mono hle6
  repeat first|refine byW ?_|refine byV ?_;intro w hw
  refine W_cond rfl (fun h=>?_) (fun h=>?_)
  ·exact absurd h (by simp;omega)
  clear h
  have hw:Wd Γ6 (.blk bh (.cells #[w0,.slice a1 n1 c1,w2,w3,w4,.slice a5 n5 c5,.pointer (some ⟨b,0,none⟩),.pointer (some ⟨r,0,none⟩)] 42)::.blk b (hoC v0 v1 v2 v3 v4 v5 cap vl bm)::linesR bm ls::.blk r (rfC w0 (.slice a1 n1 c1) w2 w3 w4 (.slice a5 n5 c5) vl2 cap q m' d)::.own (.slice q m' d) 46 6 (ls.map enc)::S) w:=hw
  have hle56:=hle5.trans hle6
  have hle7:=hle.trans hle56
  repeat first|refine byW ?_|refine byV ?_;intro w hw
  refine W_loop (fun μ2 ρ w=>∃(k:Nat),μ2+k=nI∧Has ρ [(2,.slice ax ns cs),(7,.pointer (some ⟨bh,0,none⟩)),(8,.bool true),(9,.int .i64 i),(10,.slice aL nL cL),(11,.slice aI nI cI),(12,.slice ar nr cr),(15,.int .i64 k)]∧Wd Γ6 (.blk bh (.cells #[w0,.slice a1 n1 c1,w2,w3,w4,.slice a5 n5 c5,.pointer (some ⟨b,0,none⟩),.pointer (some ⟨r,0,none⟩)] 42)::.blk b (hoC v0 v1 v2 v3 v4 v5 cap vl bm)::linesR bm ls::.blk r (rfC w0 (.slice a1 n1 c1) w2 w3 w4 (.slice a5 n5 c5) vl2 cap q m' d)::.own (.slice q m' d) 46 6 (ls.map enc)::S) w) nI ⟨0,by omega,⟨rfl,rfl,rfl,rfl,rfl,rfl,rfl,rfl,trivial⟩,hw⟩ ?_
  clear hw
  rintro μ2 ρ w ⟨k,hk,hρ,hw⟩
  rw[hρ.eq]
  clear hρ
  repeat first|refine byW ?_|refine byV ?_;intro w hw
  refine W_cond rfl (fun h=>?_) (fun h=>?_)
  ·have hkn:k<nI:=by have:=of_decide_eq_true h;omega
   clear h
   obtain⟨x,hx⟩:=get_lt (l:=ls) (k:=k) (by omega)
   have hxr:(rtI ls)[k]? = some (x.IRQ,x.Core):=by unfold rtI;rw[List.getElem?_map,hx];rfl
   haveI:=has_pg rL x.Serving
   have hsv:=hS4.srv x (List.mem_of_getElem? hx)
   repeat first|refine byW ?_|refine byV ?_;intro w hw
   refine W_quiet (by kernel_rfl) (by kernel_rfl) hw ?_
   refine byQ ?_
   intro w hw
   refine W_cond rfl (fun h=>?_) (fun h=>?_)
   ·exfalso
    rcases hsv with e|e
    ·simp[e]at h
    ·have:=(live_rng hd.cap.v hS4.sub _ e).1
     simp[e]at h
     omega
   clear h
   repeat first|refine byW ?_|refine byV ?_;intro w hw
   exact⟨μ2-1,by omega,k+1,by omega,⟨rfl,rfl,rfl,rfl,rfl,rfl,rfl,rfl,trivial⟩,hw⟩
  ·repeat first|refine byW ?_|refine byV ?_;intro w hw
   exact⟨μ-1,by omega,Γ6,L,ls,i+1,by omega,⟨rfl,rfl,rfl,rfl,trivial⟩,hle7,hS4,b,bm,r,v0,v1,v2,v3,v4,v5,_,_,_,_,_,vl,vl2,a1,n1,c1,q,m',d,p1.mono hle56,p2.mono hle56,p3.mono hle56,p4.mono hle56,hw.ps [4,4,4,4]⟩
 ·have hw:=ho.out
  repeat first|refine byW ?_|refine byV ?_;intro w hw
  exact⟨_,rfl,Γ3,hle,rfl,hw⟩
end Go.Proofs.YthgighljhoneeaaGreat
end
