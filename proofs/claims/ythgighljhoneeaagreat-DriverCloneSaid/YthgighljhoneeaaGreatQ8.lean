/- Texts of this proof, one behind another. -/
import Derived.Test.YthgighljhoneeaaGreatQ7
import Derived.Test.YthgighljhoneeaaGreatQ3
set_option linter.unusedVariables false
set_option linter.unusedSimpArgs false
section
open Go Mk
namespace Go.Proofs.YthgighljhoneeaaGreat
set_option maxHeartbeats 64000000
attribute [local irreducible] Calls
attribute [local irreducible] matL
section
variable {Γ:Gho}{S:List Res}{w:World}{b bm:Nat}{u0 u1 u2 u3 u4 u5 vl:Value}{cap:Int}{ml:List (Int×Nat)}{pl:List LnT}{H:HwT}{L:List Int}
theorem hw_freezeD{Γ:Gho}{S:List Res}{w:World}{H:HwT}{u:Value}(hsz:HwSz H)(hw:Wd Γ (Res.hw u H::S) w):∃Γ',Γ.le Γ'∧HwR Γ' u H∧Wd Γ' S w:=by
 obtain⟨⟨p,hp1,hp2⟩,hwa⟩:=Wd.openEx hw
 have hwb:Wd Γ (([.own p.v1 69 4 (H.Cores.map enc),.own p.v2 125 5 (p.cs.map cC),.own p.v3 120 3 (H.Links.map enc),.own p.v4 123 5 (H.Mems.map enc),.own p.v5 72 5 (H.Devs.map enc)]++p.cs.map ownC)++S) w:=hwa
 rw[List.append_assoc]at hwb;obtain⟨Γ1,hle,hok,hw⟩:=freezeC hwb.swapApp
 obtain⟨Γ2,hle2,hR,hw⟩:=HwOut.freeze (⟨_,_,_,_,_,p.cs,hp2,hok,hp1,hw⟩:HwOut Γ1 H S u w) hsz
 exact⟨Γ2,hle.trans hle2,hR,hw⟩
theorem Live_any{i:Nat}(hl:RepS Γ vl 1 (intRows L))(hN:L.length≤1000)(hi:S[i]? = some (.blk b (hoC u0 u1 u2 u3 u4 u5 cap vl bm)))(hw:Wd Γ S w) :
  Calls Tryz.prog 14 #[.pointer (some ⟨b,0,none⟩)] w fun e w'=>∃v,e=.returned v∧Wd Γ (.own v 3 1 (intRows L)::S) w':=by
 obtain⟨al,nl,cl,rfl,-,-,-⟩:=hl.shape;refine calls_of_W Tryz.func14 rfl rfl ?_
 refine byG ?_;refine lY (v:=.slice al nl cl) ?_ (hy:=y_l1b (i:=i) hw rfl hi rfl)
 refine byG ?_;refine lCall ((cloneI_any hl (by omega) hw).mono fun e w hq=>?_)
 clear hw;obtain⟨v,rfl,hw⟩:=hq;refine⟨_,rfl,?_⟩;refine byG ?_;exact⟨_,rfl,v,rfl,hw⟩
theorem Interrupts_any(hO:HoOk ml pl)(hN:pl.length≤1000)(hw:Wd Γ (.blk b (hoC u0 u1 u2 u3 u4 u5 cap vl bm)::linM bm ml::(lnR pl++S)) w) :
  Calls Tryz.prog 11 #[.pointer (some ⟨b,0,none⟩)] w fun e w'=>∃v,e=.returned v∧Wd Γ (.own v 46 6 ((lsO pl).map enc)::.blk b (hoC u0 u1 u2 u3 u4 u5 cap vl bm)::linM bm ml::(lnR pl++S)) w':=by
 refine calls_of_W Tryz.func11 rfl rfl ?_
 refine byG ?_;refine lCall ((irqs_any hO hN hw).mono fun e w hq=>?_)
 clear hw;obtain⟨v,rfl,hw⟩:=hq;refine⟨_,rfl,?_⟩;obtain⟨ai,ni,ci,rfl,hni,hnci,-⟩:=hw.own_shape (i:=0) rfl
 have hni:ni=pl.length:=by simpa[intRows,lsO] using hni
 refine byG ?_;have hw:=Wd.addNil (a:=none) (E:=46) (sz:=6) hw
 have hw:Wd Γ (.own (.slice none 0 0) 46 6 (((lsO pl).take 0).map enc)::.own (.slice ai ni ci) 3 1 (intRows ((lsO pl).map (·.IRQ)))::.blk b (hoC u0 u1 u2 u3 u4 u5 cap vl bm)::linM bm ml::(lnR pl++S)) w:=hw
 refine W_loop (fun μ ρ w=>∃(i:Nat) (q:Option Addr) (m d:Nat),μ+i=ni∧Has ρ [(0,.pointer (some ⟨b,0,none⟩)),(3,.slice q m d),(8,.slice ai ni ci),(9,.int .i64 ni),(10,.int .i64 i)]∧Wd Γ (.own (.slice q m d) 46 6 (((lsO pl).take i).map enc)::.own (.slice ai ni ci) 3 1 (intRows ((lsO pl).map (·.IRQ)))::.blk b (hoC u0 u1 u2 u3 u4 u5 cap vl bm)::linM bm ml::(lnR pl++S)) w) ni ⟨0,none,0,0,by omega,⟨rfl,rfl,rfl,rfl,rfl,trivial⟩,hw⟩ ?_
 clear hw;rintro μ ρ w ⟨i,q,m,d,hμ,hρ,hw⟩
 rw[hρ.eq];clear hρ;refine byG ?_;refine W_cond rfl (fun h=>?_) (fun h=>?_)
 ·have hi:i<ni:=by have:=of_decide_eq_true h;omega
  clear h;obtain⟨⟨bk,x⟩,hx⟩:=get_lt (l:=pl) (k:=i) (by omega)
  have hxl:(lsO pl)[i]? = some x:=by unfold lsO;rw[List.getElem?_map,hx];rfl
  have hxr:((lsO pl).map (·.IRQ))[i]? = some x.IRQ:=by rw[List.getElem?_map,hxl];rfl
  have hlen:((lsO pl).take i).length≤1000:=by rw[List.length_take];unfold lsO;rw[List.length_map];omega
  have hsn:((lsO pl).take i).map enc++[enc x]=((lsO pl).take (i+1)).map enc:=by rw[take_succ_of hxl,List.map_append];rfl
  have hsp:=pl_split hx
  rw[show Wd Γ (.own (.slice q m d) 46 6 (((lsO pl).take i).map enc)::.own (.slice ai ni ci) 3 1 (intRows ((lsO pl).map (·.IRQ)))::.blk b (hoC u0 u1 u2 u3 u4 u5 cap vl bm)::linM bm ml::(lnR pl++S)) w=Wd Γ ([.own (.slice q m d) 46 6 (((lsO pl).take i).map enc),.own (.slice ai ni ci) 3 1 (intRows ((lsO pl).map (·.IRQ))),.blk b (hoC u0 u1 u2 u3 u4 u5 cap vl bm),linM bm ml]++(lnR pl++S)) w from rfl]at hw
  have hw:Wd Γ ([.own (.slice q m d) 46 6 (((lsO pl).take i).map enc),.own (.slice ai ni ci) 3 1 (intRows ((lsO pl).map (·.IRQ))),.blk b (hoC u0 u1 u2 u3 u4 u5 cap vl bm),linM bm ml]++(lnR (pl.take i++(bk,x)::pl.drop (i+1))++S)) w:=by rw[←hsp];exact hw
  have hw:=ln_open (R:=[_,_,_,_]) hw
  have hw:Wd Γ (lnC (bk,x)::.own (.slice q m d) 46 6 (((lsO pl).take i).map enc)::.own (.slice ai ni ci) 3 1 (intRows ((lsO pl).map (·.IRQ)))::.blk b (hoC u0 u1 u2 u3 u4 u5 cap vl bm)::linM bm ml::(lnR (pl.take i++pl.drop (i+1))++S)) w:=hw
  refine byG ?_;refine lY (v:=.pointer (some ⟨bk,0,none⟩)) ?_ (hy:=y_lookup_some (f:=ptrV) hw rfl rfl (i:=4) rfl (hO.at hx) false)
  have hw:Wd Γ ([lnC (bk,x)]++(.own (.slice q m d) 46 6 (((lsO pl).take i).map enc)::.own (.slice ai ni ci) 3 1 (intRows ((lsO pl).map (·.IRQ)))::.blk b (hoC u0 u1 u2 u3 u4 u5 cap vl bm)::linM bm ml::(lnR (pl.take i++pl.drop (i+1))++S))) w:=hw
  refine byG ?_;refine W_mixQ [lnC (bk,x)] (.own (.slice q m d) 46 6 (((lsO pl).take i).map enc)::.own (.slice ai ni ci) 3 1 (intRows ((lsO pl).map (·.IRQ)))::.blk b (hoC u0 u1 u2 u3 u4 u5 cap vl bm)::linM bm ml::(lnR (pl.take i++pl.drop (i+1))++S)) [48,49] 3 (.slice q m d) [[],[],[],[],[],[],[],[],[],[],[],[],[],[],[],[],[],[],[],[],[],[],[],[],[],[],[],[],[0],[0],[0,1]] [[1],[],[],[],[],[],[],[],[],[],[],[],[],[],[],[],[],[],[],[],[],[],[],[],[],[],[],[],[0],[0],[0,1]] hw ?_
  refine mMoveR (dd:=3) ?_
  refine byM ?_;refine mY (v:=.agg (enc x).toArray) ?_ (hy:=fun Y w g hw=>y_build rfl)
  refine mStepY (φ:=fun (_:Unit) _=>True) (R:=fun _=>.own (.slice q m d) 46 6 (((lsO pl).take i).map enc)::.own (.slice ai ni ci) 3 1 (intRows ((lsO pl).map (·.IRQ)))::.blk b (hoC u0 u1 u2 u3 u4 u5 cap vl bm)::linM bm ml::(lnR (pl.take i++pl.drop (i+1))++S)) (v:=undef) (T':=Value) (fun t g=>g 48=t) (fun t=>.own t 46 6 [enc x]::.own (.slice q m d) 46 6 (((lsO pl).take i).map enc)::.own (.slice ai ni ci) 3 1 (intRows ((lsO pl).map (·.IRQ)))::.blk b (hoC u0 u1 u2 u3 u4 u5 cap vl bm)::linM bm ml::(lnR (pl.take i++pl.drop (i+1))++S)) (fun t g w Y ht hw=>s_buildSlice (rws:=[enc x]) hw rfl rfl rfl (fun r hm=>by simp at hm;subst hm;rfl) (by decide) fun a w' hw'=>⟨_,rfl,(fun h=>by cases h),hw'⟩) ?_
  refine mStepY (φ:=fun (t:Value) g=>g 48=t) (R:=(fun t=>.own t 46 6 [enc x]::.own (.slice q m d) 46 6 (((lsO pl).take i).map enc)::.own (.slice ai ni ci) 3 1 (intRows ((lsO pl).map (·.IRQ)))::.blk b (hoC u0 u1 u2 u3 u4 u5 cap vl bm)::linM bm ml::(lnR (pl.take i++pl.drop (i+1))++S))) (v:=undef) (T':=Value) (fun t g=>g 49=t) (fun t=>.own t 46 6 (((lsO pl).take i).map enc++[enc x])::.own (.slice ai ni ci) 3 1 (intRows ((lsO pl).map (·.IRQ)))::.blk b (hoC u0 u1 u2 u3 u4 u5 cap vl bm)::linM bm ml::(lnR (pl.take i++pl.drop (i+1))++S)) (fun t g w Y ht hw=>?_) ?_
  ·obtain⟨d1,e1,z1,rfl,hn1,-,-⟩:=hw.own_shape (i:=0) rfl
   obtain⟨d2,e2,z2,hq2,hn2,-,-⟩:=hw.own_shape (i:=1) rfl
   cases hq2
   exact s_append (i:=1) (rows2:=[enc x]) hw rfl ht rfl (Wd.own_rd (i:=0) hw rfl) hn1 (List.all_eq_true.1 rfl) (by simp at hn1 hn2 hlen;omega) (by simp at hn1 hn2 hlen;omega) fun v' w' hw'=>⟨v',rfl,(fun h=>by cases h),hw'.drop⟩
  refine mAssY (φ:=fun (t:Value) g=>g 49=t) (dx:=49) (dd:=3) (fun t g=>g 3=t) (fun t g ht=>ht) ?_
  refine mEndQ (φ:=fun (t:Value) g=>g 3=t) fun t w g ht hw=>?_
  rw[hsn]at hw;obtain⟨q',m',d',rfl,hm',-,-⟩:=hw.own_shape (i:=0) rfl
  have hw:Wd Γ ((.own (.slice q' m' d') 46 6 (((lsO pl).take (i+1)).map enc)::.own (.slice ai ni ci) 3 1 (intRows ((lsO pl).map (·.IRQ)))::.blk b (hoC u0 u1 u2 u3 u4 u5 cap vl bm)::linM bm ml::(lnR (pl.take i++pl.drop (i+1))++S))++[lnC (bk,x)]) w:=hw
  have hw:Wd Γ (lnC (bk,x)::([.own (.slice q' m' d') 46 6 (((lsO pl).take (i+1)).map enc),.own (.slice ai ni ci) 3 1 (intRows ((lsO pl).map (·.IRQ))),.blk b (hoC u0 u1 u2 u3 u4 u5 cap vl bm),linM bm ml]++(lnR (pl.take i++pl.drop (i+1))++S))) w:=hw.perm List.perm_append_comm
  have hw:=ln_close (R:=[_,_,_,_]) hw
  rw[←hsp]at hw;refine W_has (l:=[(0,.pointer (some ⟨b,0,none⟩)),(3,.slice q' m' d'),(8,.slice ai ni ci),(9,.int .i64 ni),(10,.int .i64 i)]) ⟨rfl,ht,rfl,rfl,rfl,trivial⟩ fun ρ hρ=>?_
  rw[hρ.eq];refine byG ?_;exact⟨μ-1,by omega,i+1,q',m',d',by omega,⟨rfl,rfl,rfl,rfl,rfl,trivial⟩,hw⟩
 have hi:ni≤i:=by have:=of_decide_eq_false h;omega
 have hlo:(lsO pl).length=pl.length:=by unfold lsO;rw[List.length_map]
 rw[List.take_of_length_le (by omega)]at hw
 refine byG ?_;exact⟨_,rfl,_,rfl,hw.ds [1]⟩
theorem aSet_new{l:List (Int×Nat)}{a:Int}{v:Nat}(h:a∉l.map (·.1)):aSet l a v=l++[(a,v)]:=by
 unfold aSet;cases hq:aIx l a with
 | none=>rfl
 | some i=>
  obtain⟨u,hu⟩:=aIx_get hq
  exact absurd (List.mem_map_of_mem (f:=(·.1)) (List.mem_of_getElem? hu)) h
theorem New_any[hh:HwR Γ (Value.agg #[u0,u1,u2,u3,u4,u5]) H](hs:HwLen H)(hD:H.Devs.length≤1000){v:Value}(hr:RepS Γ v 1 (intRows L))(hv:validS H=0)(hL:L.length≤64){rs:List (Int×Int)}{tot:Int}(hip:IntPost H L cap rs tot 0)(hw:Wd Γ S w) :
  Calls Tryz.prog 22 #[Value.agg #[u0,u1,u2,u3,u4,u5],v,.int .i64 cap] w fun e w'=>∃(Γ':Gho) (b bm:Nat) (v0 v1 v2 v3 v4 v5 vl:Value) (pl:List LnT),Γ.le Γ'∧e=.returned (.tuple #[.pointer (some ⟨b,0,none⟩),.int .i64 0])∧HwR Γ' (.agg #[v0,v1,v2,v3,v4,v5]) H∧RepS Γ' vl 1 (intRows (sortZ L))∧HoOk (kM pl) pl∧lsO pl=newI rs∧Wd Γ' (.blk b (hoC v0 v1 v2 v3 v4 v5 cap vl bm)::linM bm (kM pl)::(lnR pl++S)) w':=by
 obtain⟨hirq,-⟩:=rt_facts hip
 have hrl:rs.length=H.Devs.length:=by
  have:=congrArg List.length hirq
  rw[List.length_map,irqL_len]at this;exact this
 have hsz:HwSz H:=by
  obtain⟨_,_,_,_,_,_,_,_,_,_,_,_,_,_,_,_,_,_,_,h,_⟩:=hh.h;exact h
 obtain⟨al,nl,cl,rfl,hnl,hncl,hccl⟩:=hr.shape;refine calls_of_W Tryz.func22 rfl rfl ?_
 refine byG ?_;refine lBox ?_;intro b3 w hw;have hw:Wd Γ (.blk b3 (.cells #[u0,u1,u2,u3,u4,u5] 38)::S) w:=hw
 refine byG ?_;refine lCall (vs:=[Value.agg #[u0,u1,u2,u3,u4,u5],.slice al nl cl,.int .i64 cap]) ((int_fix (hh:=hh) hip hr (by omega) (Nat.le_trans live_subD.1 (by omega)) hD live_subD.2 hw).mono fun e w hq=>?_)
 clear hw;obtain⟨t,rfl,hw⟩:=hq;refine⟨_,rfl,?_⟩;obtain⟨ar,nr,cr,rfl,hnr,hncr,-⟩:=hw.own_shape (i:=0) rfl
 simp only[List.length_map]at hnr
 refine byG ?_;refine W_cond_false rfl ?_
 refine byG ?_;refine lCall (vs:=[Value.agg #[u0,u1,u2,u3,u4,u5]]) ((copyHw_any (hh:=hh) hs hw).mono fun e w hq=>?_)
 clear hw;obtain⟨u',rfl,hwU⟩:=hq;refine⟨_,rfl,?_⟩;obtain⟨Γ1,hle1,hR1,hw⟩:=hw_freezeD hsz hwU
 clear hwU;have hR2:=hR1
 obtain⟨b1,m1,d1,b2,m2,d2,b3',m3,d3,b4,m4,d4,b5,m5,d5,cs2,rfl,-⟩:=hR2.h;clear hR2;have hr1:=hr.mono hle1
 refine byG ?_;refine lCall ((Values_int hw).mono fun e w hq=>?_)
 clear hw;obtain⟨bx,rfl,hw⟩:=hq;refine⟨_,rfl,?_⟩;refine byG ?_;refine lCall ((Sorted_int (cap:=[.pointer (some ⟨bx,0,none⟩)]) (fst:=[]) (Values1_int hr1) (by omega) (fun xs h=>by rw[h];omega) hw).mono fun e w hq=>?_)
 clear hw;obtain⟨v7,xs,rfl,rfl,hw7⟩:=hq;refine⟨_,rfl,?_⟩;obtain⟨a7,n7,c7,rfl,-,-,-⟩:=hw7.own_shape (i:=0) rfl
 obtain⟨Γ2,hle2,rl2,hw⟩:=hw7.freeze;clear hw7;refine byG ?_;refine L_step rfl rfl (s_makeMap (K:=3) (α:=Int) (f:=ptrV) hw fun bm w hw=>?_)
 refine byG ?_;refine lBox ?_;intro b w hw;have hw:Wd Γ2 (.blk b (hoC (.string H.Name) (.slice b1 m1 d1) (.slice b2 m2 d2) (.slice b3' m3 d3) (.slice b4 m4 d4) (.slice b5 m5 d5) cap (.slice a7 n7 c7) bm)::linM bm (kM [])::.blk bx (.cells #[.slice al nl cl] 22)::.own (.slice ar nr cr) 55 2 (rs.map prI)::.blk b3 (.cells #[u0,u1,u2,u3,u4,u5] 38)::S) w:=hw
 have hw:Wd Γ2 (.own (.slice ar nr cr) 55 2 (rs.map prI)::.blk b (hoC (.string H.Name) (.slice b1 m1 d1) (.slice b2 m2 d2) (.slice b3' m3 d3) (.slice b4 m4 d4) (.slice b5 m5 d5) cap (.slice a7 n7 c7) bm)::linM bm (kM [])::(lnR []++(.blk bx (.cells #[.slice al nl cl] 22)::.blk b3 (.cells #[u0,u1,u2,u3,u4,u5] 38)::S))) w:=hw.ps [3]
 refine byG ?_;refine W_loop (fun μ ρ w=>∃(i:Nat) (pl:List LnT),μ+i=nr∧lsO pl=newI (rs.take i)∧Has ρ [(11,.pointer (some ⟨b,0,none⟩)),(34,.slice ar nr cr),(35,.int .i64 nr),(36,.int .i64 i)]∧Wd Γ2 (.own (.slice ar nr cr) 55 2 (rs.map prI)::.blk b (hoC (.string H.Name) (.slice b1 m1 d1) (.slice b2 m2 d2) (.slice b3' m3 d3) (.slice b4 m4 d4) (.slice b5 m5 d5) cap (.slice a7 n7 c7) bm)::linM bm (kM pl)::(lnR pl++(.blk bx (.cells #[.slice al nl cl] 22)::.blk b3 (.cells #[u0,u1,u2,u3,u4,u5] 38)::S))) w) nr ⟨0,[],by omega,rfl,⟨rfl,rfl,rfl,rfl,trivial⟩,hw⟩ ?_
 clear hw;rintro μ ρ w ⟨i,pl,hμ,hpl,hρ,hw⟩
 rw[hρ.eq];clear hρ;refine byG ?_;refine W_cond rfl (fun h=>?_) (fun h=>?_)
 ·have hi:i<nr:=by have:=of_decide_eq_true h;omega
  clear h;obtain⟨rr,hrr⟩:=get_lt (l:=rs) (k:=i) (by omega)
  have hrow:(rs.map prI)[i]? = some (prI rr):=by rw[List.getElem?_map,hrr];rfl
  have hnk:rr.1∉(kM pl).map (·.1):=by
   have e1:(kM pl).map (·.1)=(rs.take i).map (·.1):=by
    have:(kM pl).map (·.1)=(lsO pl).map (·.IRQ):=by unfold lsO kM;rw[List.map_map,List.map_map];rfl
    rw[this,hpl];unfold newI;rw[List.map_map];rfl
   rw[e1];have hn:(rs.map (·.1)).Nodup:=by rw[hirq];exact strict_nodup (irqL_asc hv)
   intro hm;obtain⟨r',hr',e⟩:=List.mem_map.1 hm
   obtain⟨j,hj⟩:=List.getElem?_of_mem hr'
   have hji:j<i:=by have:=(List.getElem?_eq_some_iff.1 hj).1;rw[List.length_take]at this;omega
   rw[List.getElem?_take,if_pos hji]at hj;have h1:(rs.map (·.1))[j]? = some rr.1:=by rw[List.getElem?_map,hj,←e];rfl
   have h2:(rs.map (·.1))[i]? = some rr.1:=by rw[List.getElem?_map,hrr];rfl
   have:=(List.getElem?_inj (by rw[List.length_map];omega) hn).1 (h1.trans h2.symm)
   omega
  refine byG ?_;refine lAlloc ?_;intro b9 w hw;refine lStore ?_;intro w hw;have hw:Wd Γ2 ([.blk b9 (.cells (prI rr).toArray 55),.own (.slice ar nr cr) 55 2 (rs.map prI),.blk b (hoC (.string H.Name) (.slice b1 m1 d1) (.slice b2 m2 d2) (.slice b3' m3 d3) (.slice b4 m4 d4) (.slice b5 m5 d5) cap (.slice a7 n7 c7) bm)]++(linM bm (kM pl)::(lnR pl++(.blk bx (.cells #[.slice al nl cl] 22)::.blk b3 (.cells #[u0,u1,u2,u3,u4,u5] 38)::S)))) w:=hw
  refine byG ?_;refine W_mixC [.blk b9 (.cells (prI rr).toArray 55),.own (.slice ar nr cr) 55 2 (rs.map prI),.blk b (hoC (.string H.Name) (.slice b1 m1 d1) (.slice b2 m2 d2) (.slice b3' m3 d3) (.slice b4 m4 d4) (.slice b5 m5 d5) cap (.slice a7 n7 c7) bm)] (linM bm (kM pl)::(lnR pl++(.blk bx (.cells #[.slice al nl cl] 22)::.blk b3 (.cells #[u0,u1,u2,u3,u4,u5] 38)::S))) [52] [[],[],[],[],[],[],[],[],[],[],[],[],[0],[0]] hw ?_
  refine byM ?_;refine mY (v:=.agg #[.int .i64 rr.1,.int .i64 rr.2]) ?_ (hy:=fun Y w g hw=>y_build rfl)
  refine mY (v:=.agg (enc (IntrT.mk rr.1 rr.2 (-1) (-1) false false)).toArray) ?_ (hy:=fun Y w g hw=>y_build rfl)
  refine mStepX (T':=Nat) (v:=undef) (fun t g=>g 52=ptrV t) (fun t=>lnC (t,(IntrT.mk rr.1 rr.2 (-1) (-1) false false))::linM bm (kM pl)::(lnR pl++(.blk bx (.cells #[.slice al nl cl] 22)::.blk b3 (.cells #[u0,u1,u2,u3,u4,u5] 38)::S))) (fun t g w Y _ hw=>s_box hw rfl fun b w' hw'=>⟨b,rfl,(fun h=>by cases h),hw'⟩) ?_
  refine mStepX (φ:=fun (t:Nat) g=>g 52=ptrV t) (T':=Nat) (v:=undef) (fun t g=>True) (fun t=>lnC (t,(IntrT.mk rr.1 rr.2 (-1) (-1) false false))::linM bm (kM pl++[(rr.1,t)])::(lnR pl++(.blk bx (.cells #[.slice al nl cl] 22)::.blk b3 (.cells #[u0,u1,u2,u3,u4,u5] 38)::S))) (fun t g w Y ht hw=>?_) ?_
  ·refine s_mapUpdate (f:=ptrV) (v:=t) (a:=rr.1) hw rfl rfl ht (i:=1) rfl fun w' hw'=>⟨t,trivial,(fun _=>rfl),?_⟩
   have e:@aSet Int Nat (MKey.dec Tryz.prog 3) (kM pl) rr.1 t=kM pl++[(rr.1,t)]:=aSet_new hnk
   rw[e]at hw';exact hw'
  refine mEndX fun t w g _ hw=>?_
  have hw:Wd Γ2 ((lnC (t,(IntrT.mk rr.1 rr.2 (-1) (-1) false false))::linM bm (kM pl++[(rr.1,t)])::(lnR pl++(.blk bx (.cells #[.slice al nl cl] 22)::.blk b3 (.cells #[u0,u1,u2,u3,u4,u5] 38)::S)))++[.blk b9 (.cells (prI rr).toArray 55),.own (.slice ar nr cr) 55 2 (rs.map prI),.blk b (hoC (.string H.Name) (.slice b1 m1 d1) (.slice b2 m2 d2) (.slice b3' m3 d3) (.slice b4 m4 d4) (.slice b5 m5 d5) cap (.slice a7 n7 c7) bm)]) w:=hw
  have hw:Wd Γ2 (.blk b9 (.cells (prI rr).toArray 55)::.own (.slice ar nr cr) 55 2 (rs.map prI)::.blk b (hoC (.string H.Name) (.slice b1 m1 d1) (.slice b2 m2 d2) (.slice b3' m3 d3) (.slice b4 m4 d4) (.slice b5 m5 d5) cap (.slice a7 n7 c7) bm)::lnC (t,(IntrT.mk rr.1 rr.2 (-1) (-1) false false))::linM bm (kM pl++[(rr.1,t)])::(lnR pl++(.blk bx (.cells #[.slice al nl cl] 22)::.blk b3 (.cells #[u0,u1,u2,u3,u4,u5] 38)::S))) w:=hw.perm List.perm_append_comm
  have hw:Wd Γ2 (.own (.slice ar nr cr) 55 2 (rs.map prI)::.blk b (hoC (.string H.Name) (.slice b1 m1 d1) (.slice b2 m2 d2) (.slice b3' m3 d3) (.slice b4 m4 d4) (.slice b5 m5 d5) cap (.slice a7 n7 c7) bm)::linM bm (kM (pl++[(t,(IntrT.mk rr.1 rr.2 (-1) (-1) false false))]))::(lnR (pl++[(t,(IntrT.mk rr.1 rr.2 (-1) (-1) false false))])++(.blk bx (.cells #[.slice al nl cl] 22)::.blk b3 (.cells #[u0,u1,u2,u3,u4,u5] 38)::S))) w:=by
   have h1:Wd Γ2 (.own (.slice ar nr cr) 55 2 (rs.map prI)::.blk b (hoC (.string H.Name) (.slice b1 m1 d1) (.slice b2 m2 d2) (.slice b3' m3 d3) (.slice b4 m4 d4) (.slice b5 m5 d5) cap (.slice a7 n7 c7) bm)::linM bm (kM pl++[(rr.1,t)])::(lnC (t,(IntrT.mk rr.1 rr.2 (-1) (-1) false false))::(lnR pl++(.blk bx (.cells #[.slice al nl cl] 22)::.blk b3 (.cells #[u0,u1,u2,u3,u4,u5] 38)::S)))) w:=(hw.drop).perm (((List.Perm.swap _ _ _).cons _).cons _)
   rw[show kM (pl++[(t,(IntrT.mk rr.1 rr.2 (-1) (-1) false false))])=kM pl++[(rr.1,t)] from List.map_append]
   refine h1.perm ((((?_:(lnC (t,(IntrT.mk rr.1 rr.2 (-1) (-1) false false))::(lnR pl++(.blk bx (.cells #[.slice al nl cl] 22)::.blk b3 (.cells #[u0,u1,u2,u3,u4,u5] 38)::S))).Perm (lnR (pl++[(t,(IntrT.mk rr.1 rr.2 (-1) (-1) false false))])++(.blk bx (.cells #[.slice al nl cl] 22)::.blk b3 (.cells #[u0,u1,u2,u3,u4,u5] 38)::S))).cons _).cons _).cons _)
   unfold lnR;rw[List.map_append,List.append_assoc];exact List.perm_middle.symm
  refine byG ?_;refine⟨μ-1,by omega,i+1,pl++[(t,(IntrT.mk rr.1 rr.2 (-1) (-1) false false))],by omega,?_,⟨rfl,rfl,rfl,rfl,trivial⟩,hw⟩
  rw[take_succ_of hrr];unfold lsO newI at *
  rw[List.map_append,List.map_append,hpl];rfl
 have hi:nr≤i:=by have:=of_decide_eq_false h;omega
 rw[List.take_of_length_le (by omega)]at hpl
 have hO:HoOk (kM pl) pl:=⟨.refl _,by
  have h1:((kM pl).map (·.1)).Pairwise (· < ·):=by
   have:(kM pl).map (·.1)=rs.map (·.1):=by
    have:(kM pl).map (·.1)=(lsO pl).map (·.IRQ):=by unfold lsO kM;rw[List.map_map,List.map_map];rfl
    rw[this,hpl];unfold newI;rw[List.map_map];rfl
   rw[this,hirq];exact irqL_asc hv
  rw[List.pairwise_map]at h1;exact h1⟩
 refine byG ?_;refine⟨_,rfl,Γ2,b,bm,_,_,_,_,_,_,_,pl,hle1.trans hle2,rfl,hR1.mono hle2,rl2,hO,hpl,?_⟩
 have hw:=hw.drop
 exact hw.perm ((((List.perm_append_comm_assoc (lnR pl) [.blk bx (.cells #[.slice al nl cl] 22),.blk b3 (.cells #[u0,u1,u2,u3,u4,u5] 38)] S).trans (.refl _)).cons _).cons _) |> fun h=>(h.dropAt 2).dropAt 2
end
def linesR(bm:Nat)(ls:List IntrT):Res:=Res.ex (α:={p:List (Int×Nat)×List LnT // HoOk p.1 p.2∧lsO p.2=ls}) fun p=>linM bm p.1.1::lnR p.1.2
section
variable {Γ:Gho}{S:List Res}{w:World}{b bm:Nat}{u0 u1 u2 u3 u4 u5 vl:Value}{cap:Int}{ls:List IntrT}{H:HwT}{L:List Int}
theorem lines_open(hw:Wd Γ (.blk b (hoC u0 u1 u2 u3 u4 u5 cap vl bm)::linesR bm ls::S) w):∃(ml:List (Int×Nat)) (pl:List LnT),HoOk ml pl∧lsO pl=ls∧Wd Γ (.blk b (hoC u0 u1 u2 u3 u4 u5 cap vl bm)::linM bm ml::(lnR pl++S)) w:=by
 have hw1:Wd Γ (linesR bm ls::.blk b (hoC u0 u1 u2 u3 u4 u5 cap vl bm)::S) w:=hw.ps [1]
 unfold linesR at hw1;obtain⟨⟨⟨ml,pl⟩,h1,h2⟩,hw2⟩:=hw1.openEx;have hw2:Wd Γ (linM bm ml::(lnR pl++(.blk b (hoC u0 u1 u2 u3 u4 u5 cap vl bm)::S))) w:=hw2
 exact⟨ml,pl,h1,h2,hw2.perm ((List.perm_middle.cons _).trans (.swap _ _ _))⟩
theorem lines_close{ml:List (Int×Nat)}{pl:List LnT}(h1:HoOk ml pl)(h2:lsO pl=ls)(hw:Wd Γ (.blk b (hoC u0 u1 u2 u3 u4 u5 cap vl bm)::linM bm ml::(lnR pl++S)) w):Wd Γ (.blk b (hoC u0 u1 u2 u3 u4 u5 cap vl bm)::linesR bm ls::S) w:=by
 have hw2:Wd Γ ((linM bm ml::lnR pl)++(.blk b (hoC u0 u1 u2 u3 u4 u5 cap vl bm)::S)) w:=hw.perm ((List.perm_middle.cons _).trans (.swap _ _ _)).symm
 have hw3:=Wd.closeEx (X:=fun p:{p:List (Int×Nat)×List LnT // HoOk p.1 p.2∧lsO p.2=ls}=>linM bm p.1.1::lnR p.1.2) ⟨(ml,pl),h1,h2⟩ hw2
 have hw3:Wd Γ (linesR bm ls::.blk b (hoC u0 u1 u2 u3 u4 u5 cap vl bm)::S) w:=hw3
 exact hw3.ps [1]
theorem lines_close1{R:Res}{ml:List (Int×Nat)}{pl:List LnT}(h1:HoOk ml pl)(h2:lsO pl=ls)(hw:Wd Γ (R::.blk b (hoC u0 u1 u2 u3 u4 u5 cap vl bm)::linM bm ml::(lnR pl++S)) w):Wd Γ (R::.blk b (hoC u0 u1 u2 u3 u4 u5 cap vl bm)::linesR bm ls::S) w:=by
 have hw2:Wd Γ (.blk b (hoC u0 u1 u2 u3 u4 u5 cap vl bm)::linM bm ml::(lnR pl++(R::S))) w:=hw.perm (by
  refine(List.Perm.swap _ _ _).trans (List.Perm.cons _ ((List.Perm.swap _ _ _).trans (List.Perm.cons _ List.perm_middle.symm)))
 )
 have h3:=lines_close h1 h2 hw2
 exact h3.ps [2]
def HoAns(Γ:Gho)(S:List Res)(b bm:Nat)(u0 u1 u2 u3 u4 u5 vl:Value)(cap:Int)(a:AnsT)(e:Ending)(w:World):Prop:=
 ∃v:Value,e=.returned (.tuple #[v,.int .i64 a.2.2])∧Wd Γ (.own v 62 3 (a.2.1.map enc)::.blk b (hoC u0 u1 u2 u3 u4 u5 cap vl bm)::linesR bm a.1::S) w
theorem hoAns{ml:List (Int×Nat)}{a:AnsT}{e:Ending}(h:HoPost Γ S b bm u0 u1 u2 u3 u4 u5 vl cap ml a e w):HoAns Γ S b bm u0 u1 u2 u3 u4 u5 vl cap a e w:=by
 obtain⟨v,pl,rfl,h1,h2,hw⟩:=h;exact⟨v,rfl,lines_close1 h1 h2 hw⟩
theorem lsO_len(pl:List LnT):(lsO pl).length=pl.length:=List.length_map ..
theorem Raise_R(hN:ls.length≤1000)(irq:Int)(hw:Wd Γ (.blk b (hoC u0 u1 u2 u3 u4 u5 cap vl bm)::linesR bm ls::S) w):Calls Tryz.prog 23 #[.pointer (some ⟨b,0,none⟩),.int .i64 irq] w (HoAns Γ S b bm u0 u1 u2 u3 u4 u5 vl cap (rseS ls irq)):=by
 obtain⟨ml,pl,h1,rfl,hwL⟩:=lines_open hw
 exact(Raise_any h1 (by rw[lsO_len]at hN;exact hN) irq hwL).mono fun e w h=>hoAns h
theorem Mask_R(hN:ls.length≤1000)(irq:Int)(on:Bool)(hw:Wd Γ (.blk b (hoC u0 u1 u2 u3 u4 u5 cap vl bm)::linesR bm ls::S) w):Calls Tryz.prog 32 #[.pointer (some ⟨b,0,none⟩),.int .i64 irq,.bool on] w (HoAns Γ S b bm u0 u1 u2 u3 u4 u5 vl cap (mskS ls irq on)):=by
 obtain⟨ml,pl,h1,rfl,hwL⟩:=lines_open hw
 exact(Mask_any h1 (by rw[lsO_len]at hN;exact hN) irq on hwL).mono fun e w h=>hoAns h
theorem Attach_R(hN:ls.length≤1000)(irq d:Int)(hw:Wd Γ (.blk b (hoC u0 u1 u2 u3 u4 u5 cap vl bm)::linesR bm ls::S) w):Calls Tryz.prog 24 #[.pointer (some ⟨b,0,none⟩),.int .i64 irq,.int .i64 d] w (HoAns Γ S b bm u0 u1 u2 u3 u4 u5 vl cap (attS ls irq d)):=by
 obtain⟨ml,pl,h1,rfl,hwL⟩:=lines_open hw
 exact(Attach_any h1 (by rw[lsO_len]at hN;exact hN) irq d hwL).mono fun e w h=>hoAns h
theorem Ack_R(hN:ls.length≤1000)(irq c:Int)(hw:Wd Γ (.blk b (hoC u0 u1 u2 u3 u4 u5 cap vl bm)::linesR bm ls::S) w):Calls Tryz.prog 25 #[.pointer (some ⟨b,0,none⟩),.int .i64 irq,.int .i64 c] w (HoAns Γ S b bm u0 u1 u2 u3 u4 u5 vl cap (ackS ls irq c)):=by
 obtain⟨ml,pl,h1,rfl,hwL⟩:=lines_open hw
 exact(Ack_any h1 (by rw[lsO_len]at hN;exact hN) irq c hwL).mono fun e w h=>hoAns h
theorem Detach_R(irq:Int)(hw:Wd Γ (.blk b (hoC u0 u1 u2 u3 u4 u5 cap vl bm)::linesR bm ls::S) w):Calls Tryz.prog 35 #[.pointer (some ⟨b,0,none⟩),.int .i64 irq] w fun e w'=>e=.returned (.int .i64 (detS ls irq).2.2)∧Wd Γ (.blk b (hoC u0 u1 u2 u3 u4 u5 cap vl bm)::linesR bm (detS ls irq).1::S) w':=by
 obtain⟨ml,pl,h1,rfl,hwL⟩:=lines_open hw
 refine(Detach_any h1 irq hwL).mono fun e w h=>?_
 obtain⟨pl',rfl,h2,h3,hw⟩:=h;exact⟨rfl,lines_close h2 h3 hw⟩
theorem Join_R[hh:HwR Γ (.agg #[u0,u1,u2,u3,u4,u5]) H](hc:CapOk H cap)(hD:H.Devs.length≤1000)(hl:RepS Γ vl 1 (intRows L))(hS:DSt H cap L ls)(c:Int)(hw:Wd Γ (.blk b (hoC u0 u1 u2 u3 u4 u5 cap vl bm)::linesR bm ls::S) w) :
  Calls Tryz.prog 37 #[.pointer (some ⟨b,0,none⟩),.int .i64 c] w fun e w'=>∃(Γ':Gho) (vl':Value),Γ.le Γ'∧e=.returned (.int .i64 (joinS H cap L ls c).2.2.2)∧RepS Γ' vl' 1 (intRows (joinS H cap L ls c).1)∧Wd Γ' (.blk b (hoC u0 u1 u2 u3 u4 u5 cap vl' bm)::linesR bm (joinS H cap L ls c).2.1::S) w':=by
 obtain⟨ml,pl,h1,rfl,hwL⟩:=lines_open hw
 refine(Join_any h1 (by rw[←lsO_len,hS.len];exact hD) hc hD hl hS c hwL).mono fun e w h=>?_
 obtain⟨Γ',vl',pl',hle,rfl,h2,h3,h4,hw⟩:=h;exact⟨Γ',vl',hle,rfl,h4,lines_close h2 h3 hw⟩
theorem Depart_R[hh:HwR Γ (.agg #[u0,u1,u2,u3,u4,u5]) H](hc:CapOk H cap)(hD:H.Devs.length≤1000)(hl:RepS Γ vl 1 (intRows L))(hS:DSt H cap L ls)(c:Int)(hw:Wd Γ (.blk b (hoC u0 u1 u2 u3 u4 u5 cap vl bm)::linesR bm ls::S) w) :
  Calls Tryz.prog 39 #[.pointer (some ⟨b,0,none⟩),.int .i64 c] w fun e w'=>∃(Γ':Gho) (v vl':Value),Γ.le Γ'∧e=.returned (.tuple #[v,.int .i64 (depS H cap L ls c).2.2.2])∧RepS Γ' vl' 1 (intRows (depS H cap L ls c).1)∧Wd Γ' (.own v 62 3 ((depS H cap L ls c).2.2.1.map enc)::.blk b (hoC u0 u1 u2 u3 u4 u5 cap vl' bm)::linesR bm (depS H cap L ls c).2.1::S) w':=by
 obtain⟨ml,pl,h1,rfl,hwL⟩:=lines_open hw
 refine(Depart_any h1 (by rw[←lsO_len,hS.len];exact hD) hc hD hl hS c hwL).mono fun e w h=>?_
 obtain⟨Γ',v,vl',pl',hle,rfl,h2,h3,h4,hw⟩:=h;exact⟨Γ',v,vl',hle,rfl,h4,lines_close1 h2 h3 hw⟩
theorem Interrupts_R(hN:ls.length≤1000)(hw:Wd Γ (.blk b (hoC u0 u1 u2 u3 u4 u5 cap vl bm)::linesR bm ls::S) w):Calls Tryz.prog 11 #[.pointer (some ⟨b,0,none⟩)] w fun e w'=>∃v,e=.returned v∧Wd Γ (.own v 46 6 (ls.map enc)::.blk b (hoC u0 u1 u2 u3 u4 u5 cap vl bm)::linesR bm ls::S) w':=by
 obtain⟨ml,pl,h1,rfl,hwL⟩:=lines_open hw
 refine(Interrupts_any h1 (by rw[lsO_len]at hN;exact hN) hwL).mono fun e w h=>?_
 obtain⟨v,rfl,hw⟩:=h;exact⟨v,rfl,lines_close1 h1 rfl hw⟩
end
theorem sameInt_pg{Γ:Gho}{v v2:Value}{es:List IntrT}(hr:RepS Γ v 6 (es.map enc))(hr2:RepS Γ v2 6 (es.map enc)):PG Tryz.prog Γ 20 [v,v2] (.bool true):=⟨fun S w hw=>by
 obtain⟨am,nm,cm,rfl,hnm,hnmc,hcm⟩:=hr.shape;obtain⟨ap,np,cp,rfl,hnp,hnpc,hcp⟩:=hr2.shape;simp only[List.length_map]at hnm hnp
 have:np=nm:=by omega
 subst this;refine calls_of_W Tryz.func20 rfl rfl ?_
 refine byG ?_;refine W_cond rfl (fun h=>?_) (fun h=>?_)
 ·exact absurd h (by simp)
 clear h;refine byG ?_;refine W_loop (fun μ ρ w=>∃(i:Nat),μ+i=np∧Has ρ [(0,.slice am np cm),(1,.slice ap np cp),(5,.int .i64 i)]∧Wd Γ S w) np ⟨0,by omega,⟨rfl,rfl,rfl,trivial⟩,hw⟩ ?_
 clear hw;rintro μ ρ w ⟨i,hi,hρ,hw⟩
 rw[hρ.eq];clear hρ;refine byG ?_;refine W_cond rfl (fun h=>?_) (fun h=>?_)
 ·have hin:i<np:=by have:=of_decide_eq_true h;omega
  clear h;obtain⟨e,he⟩:=get_lt (l:=es) (k:=i) (by omega)
  refine byG ?_;refine W_quiet (by kernel_rfl) (by kernel_rfl) hw ?_
  refine byQ ?_;intro w hw;refine W_cond rfl (fun h=>?_) (fun h=>?_)
  ·exact absurd h (by simp)
  clear h;refine byG ?_;exact⟨μ-1,by omega,i+1,by omega,⟨rfl,rfl,rfl,trivial⟩,hw⟩
 ·refine byG ?_;exact⟨_,rfl,rfl,hw⟩⟩
theorem sameNote_pg{Γ:Gho}{v v2:Value}{es:List NoteT}(hr:RepS Γ v 3 (es.map enc))(hr2:RepS Γ v2 3 (es.map enc)):PG Tryz.prog Γ 41 [v,v2] (.bool true):=⟨fun S w hw=>by
 obtain⟨am,nm,cm,rfl,hnm,hnmc,hcm⟩:=hr.shape;obtain⟨ap,np,cp,rfl,hnp,hnpc,hcp⟩:=hr2.shape;simp only[List.length_map]at hnm hnp
 have:np=nm:=by omega
 subst this;refine calls_of_W Tryz.func41 rfl rfl ?_
 refine byG ?_;refine W_cond rfl (fun h=>?_) (fun h=>?_)
 ·exact absurd h (by simp)
 clear h;refine byG ?_;refine W_loop (fun μ ρ w=>∃(i:Nat),μ+i=np∧Has ρ [(0,.slice am np cm),(1,.slice ap np cp),(5,.int .i64 i)]∧Wd Γ S w) np ⟨0,by omega,⟨rfl,rfl,rfl,trivial⟩,hw⟩ ?_
 clear hw;rintro μ ρ w ⟨i,hi,hρ,hw⟩
 rw[hρ.eq];clear hρ;refine byG ?_;refine W_cond rfl (fun h=>?_) (fun h=>?_)
 ·have hin:i<np:=by have:=of_decide_eq_true h;omega
  clear h;obtain⟨e,he⟩:=get_lt (l:=es) (k:=i) (by omega)
  refine byG ?_;refine W_quiet (by kernel_rfl) (by kernel_rfl) hw ?_
  refine byQ ?_;intro w hw;refine W_cond rfl (fun h=>?_) (fun h=>?_)
  ·exact absurd h (by simp)
  clear h;refine byG ?_;exact⟨μ-1,by omega,i+1,by omega,⟨rfl,rfl,rfl,trivial⟩,hw⟩
 ·refine byG ?_;exact⟨_,rfl,rfl,hw⟩⟩
end Go.Proofs.YthgighljhoneeaaGreat
end
section
open Go
namespace Mk
attribute [local irreducible] Calls
abbrev mVg(P:Program)(n:Nat)(ops:List Oper)(Γ:Gho)(K:List Res)(wr tc stab:List (List Nat)):MEnv:=⟨P,n,ops,Γ,K,wr,tc,stab,false⟩
def Res.rep(v:Value)(sz:Nat)(rows:List (List Value)):Res where
 holds m bs _:=bs=[]∧∃Γ:Gho,Γ.imm=m∧RepS Γ v sz rows
 loc m m' bs h h' hm _:=by
  rintro⟨h1,Γ,rfl,h2⟩;exact⟨h1,{ Γ with imm:=m' },rfl,h2.mono ⟨hm,rfl,rfl,rfl,rfl⟩⟩
theorem Wd.repIn{Γ:Gho}{S:List Res}{w:World}{v:Value}{sz:Nat}{rows:List (List Value)}(hp:RepS Γ v sz rows)(hw:Wd Γ S w):Wd Γ (Res.rep v sz rows::S) w:=by
 obtain⟨bss,h1,h2,h3⟩:=hw.own;exact⟨hw.os,hw.tape,hw.out,hw.dr,hw.imm,[]::bss,⟨⟨rfl,Γ,rfl,hp⟩,h1⟩,by simpa using h2,by simpa using h3⟩
theorem Wd.repOut{Γ:Gho}{S:List Res}{w:World}{v:Value}{sz i:Nat}{rows:List (List Value)}(hw:Wd Γ S w)(hi:S[i]? = some (Res.rep v sz rows)):RepS Γ v sz rows:=by
 obtain⟨bss,h1,h2,h3⟩:=hw.own;obtain⟨bs,_,hr⟩:=Holds.get S bss i _ h1 hi
 obtain⟨-,Γ0,e,h⟩:=hr;unfold RepS at h ⊢
 rw[e]at h;exact h
section
variable {P:Program}{n:Nat}{ops:List Oper}{Γ:Gho}{K X:List Res}{wr tc stab:List (List Nat)}{N:List Nat}{Q:Fr→World→Prop}{i:Nat}{rest:List Oper}{ρ:Fr}{w:World}{M:Nat→Fr→List Res}{v:Value}{T T':Type}{o:Oper}
theorem W_mixCg{id:Nat}{l:List Oper}{QQ:Exit→Fr→World→Prop}(K X:List Res)(N:List Nat)(wr:List (List Nat))(hw:Wd Γ (K++X) w)
  (h:MSw (mVg P n l Γ K wr wr [N]) (fun ρ w=>QQ .normal ρ w) 0 l ⟨ρ,fun _=>exC (T:=Unit) (fun _ _=>True) (fun _=>X)⟩)
  (hm:P.follows .mixedOrders=true:=by kernel_rfl) (hk:checkM n l wr wr [N]=true:=by kernel_rfl):W P n (.region id l.toArray true) QQ ρ w:=
 W_mix K (fun _=>exC (T:=Unit) (fun _ _=>True) (fun _=>X)) wr wr [N] false hm hk (by
  have e:cellsOf (mVg P n l Γ K wr wr [N]) (List.range [N].length) (fun _=>exC (T:=Unit) (fun _ _=>True) (fun _=>X)) ρ=exC (T:=Unit) (fun _ _=>True) (fun _=>X) (ovr N ρ noFr):=by
   show _++[]=_
   rw[List.append_nil];rfl
  show Wd Γ (K++cellsOf (mVg P n l Γ K wr wr [N]) (List.range [N].length) (fun _=>exC (T:=Unit) (fun _ _=>True) (fun _=>X)) ρ) w
  rw[e];have h1:Wd Γ (X++K) w:=hw.perm List.perm_append_comm
  have h2:=Wd.closeEx (α:={t:Unit // True}) (X:=fun _=>X) ⟨(),trivial⟩ h1
  exact(h2.perm (List.perm_append_singleton _ K).symm:_)) h
theorem gY(h:MSw (mVg P n ops Γ K wr tc stab) Q (i+1) rest ⟨putO ρ o.dst v,M⟩)(hw0:wr.getD i []=[]:=by exact rfl)(hg:o.guard=none:=by exact rfl)(ho:outOf tc stab i o.dst=true:=by exact rfl)
  (hy:∀Γ' Y w g,Γ.le Γ'→Wd Γ' (K++(cellsAt tc stab i M g++Y)) w→Yields P o (ovr stab.flatten g ρ) w v:=by (intro Γ' Y w g hle hw;exact byPU)):MSw (mVg P n ops Γ K wr tc stab) Q i (o::rest) ⟨ρ,M⟩:=by
 have hn:∀c,Mt.nxt (mVg P n ops Γ K wr tc stab) i ⟨ρ,M⟩ c=M:=fun c=>by
  funext x;simp only[Mt.nxt,MEnv.w,hw0];rfl
 refine⟨⟨v,M⟩,⟨fun Γ' Y w g hr hw=>?_⟩,?_⟩
 ·have hle:Γ.le Γ':=hr
  rw[hn];refine⟨fun _=>(hy Γ' Y w g hle hw).step ⟨Γ',Gho.le.refl _,?_,fun _=>rfl⟩,fun hf=>?_⟩
  ·have:=outOf_eq (g:=g) (v:=v) ho M
   show Wd Γ' (K++(cellsAt tc stab i M (putO g o.dst v)++Y)) w
   rw[this];exact hw
  ·rw[wantF_none hg]at hf;cases hf
 ·simp only[Mt.next,hn];exact h
theorem gM{x:Nat}(m:Fr→List Res)(hs:∀Γ' Y w g,Γ.le Γ'→Wd Γ' (K++(cellsAt tc stab i M g++Y)) w→Step P o (ovr stab.flatten g ρ) w fun u w'=>∃Γ'',Γ'.le Γ''∧Wd Γ'' (K++(cellsAt tc stab i (setC M x m) (putO g o.dst u)++Y)) w'∧(freeD stab o.dst=false→u=v))
  (h:MSw (mVg P n ops Γ K wr tc stab) Q (i+1) rest ⟨putO ρ o.dst v,setC M x m⟩) (hw0:wr.getD i []=[x]:=by exact rfl) (hg:o.guard=none:=by exact rfl):MSw (mVg P n ops Γ K wr tc stab) Q i (o::rest) ⟨ρ,M⟩:=by
 have hn:Mt.nxt (mVg P n ops Γ K wr tc stab) i ⟨ρ,M⟩ ⟨v,fun _=>m⟩=setC M x m:=by
  funext y;simp only[Mt.nxt,MEnv.w,hw0];rfl
 refine⟨⟨v,fun _=>m⟩,⟨fun Γ' Y w g hr hw=>?_⟩,?_⟩
 ·have hle:Γ.le Γ':=hr
  rw[hn];refine⟨fun _=>(hs Γ' Y w g hle hw).mono fun u w' ⟨Γ'',h0,h1,h2⟩=>⟨Γ'',h0,h1,h2⟩,fun hf=>?_⟩
  rw[wantF_none hg]at hf;cases hf
 ·simp only[Mt.next,hn];exact h
theorem gStepX{φ:T→Fr→Prop}{R:T→List Res}{o:Oper}(φ':T'→Fr→Prop)(R':T'→List Res)
  (hs:∀Γ' t g w Y,Γ.le Γ'→φ t (ovr N g noFr)→Wd Γ' (R t++(K++Y)) w→Step P o (ovr N g ρ) w fun u w'=>∃Γ'' t',Γ'.le Γ''∧φ' t' (ovr N (putO g o.dst u) noFr)∧(freeD [N] o.dst=false→u=v)∧Wd Γ'' (R' t'++(K++Y)) w')
  (h:MSw (mVg P n ops Γ K wr wr [N]) Q (i+1) rest ⟨putO ρ o.dst v,setC M 0 (exC φ' R')⟩) (hM:M 0=exC φ R:=by first|exact setC_self|exact rfl) (hw0:wr.getD i []=[0]:=by exact rfl) (hg:o.guard=none:=by exact rfl) :
  MSw (mVg P n ops Γ K wr wr [N]) Q i (o::rest) ⟨ρ,M⟩:=by
 refine gM _ (fun Γ' Y w g hle hw=>?_) h hw0 hg
 have e:cellsAt wr [N] i M g=exC φ R (ovr N g noFr):=by
  rw[cells1 hw0,hM];rfl
 rw[e]at hw;have e0:([N].flatten:List Nat)=N:=by simp
 rw[e0];obtain⟨⟨t,ht⟩,hw1⟩:=(Wd.mid hw).openEx
 refine(hs Γ' t g w Y hle ht hw1).mono ?_
 rintro u w' ⟨Γ'',t',h0,h1,h2,h3⟩
 refine⟨Γ'',h0,?_,h2⟩
 have e2:cellsAt wr [N] i (setC M 0 (exC φ' R')) (putO g o.dst u)=exC φ' R' (ovr N (putO g o.dst u) noFr):=by
  rw[cells1 hw0,setC_self];rfl
 rw[e2];exact Wd.unmid (Wd.closeEx (X:=fun p:{t:T' // φ' t (ovr N (putO g o.dst u) noFr)}=>R' p.1) ⟨t',h1⟩ h3)
theorem gCallX{φ:T→Fr→Prop}{R:T→List Res}{f:Nat}{d:Option Tmp}{ty:TypeId}{pos:String}{es:Array Edge}{args:List Operand}{tys:Array TypeId}[FnOk P f](φ':T'→Fr→Prop)(R':T'→List Res)(vs:T→Fr→List Value)
  (hs:∀Γ' t g w Y,Γ.le Γ'→φ t (ovr N g noFr)→Wd Γ' (R t++(K++Y)) w→Calls P f (vs t (ovr N g noFr)).toArray w fun e w'=>∃u,e=.returned u∧∃Γ'' t',Γ'.le Γ''∧φ' t' (ovr N (putO g d u) noFr)∧(freeD [N] d=false→u=v)∧Wd Γ'' (R' t'++(K++Y)) w')
  (h:MSw (mVg P n ops Γ K wr wr [N]) Q (i+1) rest ⟨putO ρ d v,setC M 0 (exC φ' R')⟩) (ha:∀t g,φ t (ovr N g noFr)→EvL (ovr N g ρ) args (vs t (ovr N g noFr)):=by (intro t g ht;exact byEV)) (hM:M 0=exC φ R:=by first|exact setC_self|exact rfl) (hw0:wr.getD i []=[0]:=by exact rfl) :
  MSw (mVg P n ops Γ K wr wr [N]) Q i (⟨d,.call { callee:=.value (.func f),args:=args.toArray,argTypes:=tys },ty,pos,es,none⟩::rest) ⟨ρ,M⟩:=
 gStepX φ' R' (fun Γ' t g w Y hle ht hw=>s_call (ha t g ht).eqA (hs Γ' t g w Y hle ht hw)) h hM hw0 rfl
theorem gEndX{φ:T→Fr→Prop}{R:T→List Res}(h:∀Γ' t w g,Γ.le Γ'→φ t (ovr N g noFr)→Wd Γ' (R t++K) w→Q (ovr N g ρ) w)(hM:M 0=exC φ R:=by first|exact setC_self|exact rfl):MSw (mVg P n ops Γ K wr tc [N]) Q i [] ⟨ρ,M⟩:=fun Γ' w g hr hw=>by
 have hle:Γ.le Γ':=hr
 have e:((List.range [N].length).flatMap fun x=>M x (ovr ([N].getD x []) g noFr))=exC φ R (ovr N g noFr):=by
  show M 0 _++[]=_
  rw[List.append_nil,hM];rfl
 have hw:Wd Γ' (K++((List.range [N].length).flatMap fun x=>M x (ovr ([N].getD x []) g noFr))) w:=hw
 rw[e]at hw;show Q (ovr ([N].flatten) g ρ) w
 have e0:([N].flatten:List Nat)=N:=by simp
 rw[e0];obtain⟨⟨t,ht⟩,hw1⟩:=(Wd.mid (Y:=[]) hw).openEx
 exact h Γ' t w g hle ht (by simpa using hw1)
end
end Mk
end
section
open Go Mk
namespace Go.Proofs.YthgighljhoneeaaGreat
set_option maxHeartbeats 16000000
attribute [local irreducible] Calls
attribute [local irreducible] matL
structure StepT where
 Kind:Int
 IRQ:Int
 Core:Int
 On:Bool
 Raw:Bool
 deriving DecidableEq,Inhabited
instance:GoT StepT where
 enc a:=[.int .i64 a.Kind,.int .i64 a.IRQ,.int .i64 a.Core,.bool a.On,.bool a.Raw]
 inj a b h:=by cases a;cases b;simp at h;simp[h]
 ks:=[5,5,5,0,0]
 kinds a:=rfl
noncomputable def stepS(H:HwT)(cap:Int)(L:List Int)(ls:List IntrT)(k irq core drv:Int)(on:Bool):List Int×AnsT:=
 if k=0∨k=1 then (L,rseS ls irq) else if k=2 then (L,ackS ls irq core) else if k=3 then (L,mskS ls irq on) else if k=4 then (L,attS ls irq drv)
 else if k=5 then (L,detS ls irq) else if k=6 then joinS H cap L ls core else depS H cap L ls core
def argS(H:HwT)(ls:List IntrT)(x:StepT):Int×Int×Int:=
  if x.Raw=true then (x.IRQ,x.Core,x.Core) else
    ((ls.getD (x.IRQ%(ls.length:Int)).toNat default).IRQ,
      if x.Kind%8=2∧0≤(ls.getD (x.IRQ%(ls.length:Int)).toNat default).Serving then (ls.getD (x.IRQ%(ls.length:Int)).toNat default).Serving else (H.Cores.getD (x.Core%(H.Cores.length:Int)).toNat default).ID,x.Core%32)
noncomputable def doS(H:HwT)(cap:Int)(L:List Int)(ls:List IntrT)(x:StepT):List Int×List IntrT:=
 if x.Raw=false∧ls=[] then (L,ls) else
  let t:=stepS H cap L ls (x.Kind%8) (argS H ls x).1 (argS H ls x).2.1 (argS H ls x).2.2 x.On
  (t.1,t.2.1)
section
variable {H:HwT}{cap:Int}{L:List Int}{ls:List IntrT}
theorem attS_st(hv:validS H=0)(h:DSt H cap L ls)(irq d:Int):DSt H cap L (attS ls irq d).1:=by
 unfold attS;split
 ·exact h
 ·split
  ·exact h
  ·rename_i hd
   split
   ·exact h
   ·exact h.upd hv irq (f:=attF d) (fun _=>rfl) (fun _=>rfl) (fun _ _=>by show -1≤d;omega) (fun _ h=>h)
theorem rseS_st(hv:validS H=0)(h:DSt H cap L ls)(irq:Int):DSt H cap L (rseS ls irq).1:=by
 unfold rseS;split
 ·exact h
 ·exact h.upd hv irq (f:=rseF) (fun _=>rfl) (fun _=>rfl) (fun _ h=>h) (fun _ h=>h)
theorem mskS_st(hv:validS H=0)(h:DSt H cap L ls)(irq:Int)(on:Bool):DSt H cap L (mskS ls irq on).1:=by
 unfold mskS;split
 ·exact h
 ·exact h.upd hv irq (f:=mskF on) (fun _=>rfl) (fun _=>rfl) (fun _ h=>h) (fun _ h=>h)
theorem ackS_st(hv:validS H=0)(h:DSt H cap L ls)(irq c:Int):DSt H cap L (ackS ls irq c).1:=by
 unfold ackS;split
 ·exact h
 ·split
  ·exact h
  ·exact h.upd hv irq (f:=ackF) (fun _=>rfl) (fun _=>rfl) (fun _ h=>h) (fun _ _=>.inl rfl)
theorem detS_st(h:DSt H cap L ls)(irq:Int):DSt H cap L (detS ls irq).1:=by
 unfold detS;split
 ·exact h
 ·split
  ·exact h
  ·exact h.det irq
theorem stepS_st(hc:CapOk H cap)(h:DSt H cap L ls)(k irq core drv:Int)(on:Bool):DSt H cap (stepS H cap L ls k irq core drv on).1 (stepS H cap L ls k irq core drv on).2.1:=by
 unfold stepS;split
 ·exact rseS_st hc.v h irq
 ·split
  ·exact ackS_st hc.v h irq core
  ·split
   ·exact mskS_st hc.v h irq on
   ·split
    ·exact attS_st hc.v h irq drv
    ·split
     ·exact detS_st h irq
     ·split
      ·exact h.jn hc core
      ·exact h.dp hc core
theorem doS_st(hc:CapOk H cap)(h:DSt H cap L ls)(x:StepT):DSt H cap (doS H cap L ls x).1 (doS H cap L ls x).2:=by
 unfold doS;split
 ·exact h
 ·exact stepS_st hc h _ _ _ _ _
end
structure HwD(H:HwT)(cap:Int):Prop where
 cap:CapOk H cap
 le:HwLe H
 wide:MemWide H
 len:HwLen H
 dev:H.Devs.length≤1000
 nc:1≤H.Cores.length
 ncl:H.Cores.length≤1000
end Go.Proofs.YthgighljhoneeaaGreat
end
section
open Go Mk
open Go.ChangeShapes Go.WideShapes Go.ChangeAt Go.RowKit
namespace Go.Proofs.YthgighljhoneeaaGreat
section
variable {H:Type}{en:TypeId×Value→H}{W W':World}{base:Nat}{sp:Nat→Bool}{held:Bool}{S:List Res}
theorem read_b{n:Nat}{cs:List Value}{y:DataW H×List MemPlace}(h:DataW.trod en Tryz.prog W base sp held n 4 cs=some y):∃x:Bool,cs=[.bool x]:=by
 obtain⟨s,hs,-⟩:=DataW.trod_bool Tryz.underlying4 h
 exact⟨s,hs⟩
set_option maxRecDepth 100000 in
theorem read_step{n:Nat}{cs:List Value}{y:DataW H×List MemPlace}(h:DataW.trod en Tryz.prog W base sp held n 25 cs=some y):∃x:StepT,cs=enc x∧True:=by
 obtain⟨xs,k,-,-,hl,hxl,hf⟩:=DataW.trod_struct Tryz.underlying25 h
 have hl:cs.length=5:=hl.trans (by kernel_rfl)
 obtain⟨c0,c1,c2,c3,c4,rfl⟩:=list5 cs hl
 have hxl:xs.length=5:=hxl
 have e0:Tryz.prog.cellsOf 3=1:=by kernel_rfl
 have e3:Tryz.prog.cellsOf 4=1:=by kernel_rfl
 have g0:DataW.trod en Tryz.prog W base sp held k 3 (([c0,c1,c2,c3,c4].drop 0).take (Tryz.prog.cellsOf 3))=xs[0]?:=hf 0 _ rfl
 have g1:DataW.trod en Tryz.prog W base sp held k 3 (([c0,c1,c2,c3,c4].drop 1).take (Tryz.prog.cellsOf 3))=xs[1]?:=hf 1 _ rfl
 have g2:DataW.trod en Tryz.prog W base sp held k 3 (([c0,c1,c2,c3,c4].drop 2).take (Tryz.prog.cellsOf 3))=xs[2]?:=hf 2 _ rfl
 have g3:DataW.trod en Tryz.prog W base sp held k 4 (([c0,c1,c2,c3,c4].drop 3).take (Tryz.prog.cellsOf 4))=xs[3]?:=hf 3 _ rfl
 have g4:DataW.trod en Tryz.prog W base sp held k 4 (([c0,c1,c2,c3,c4].drop 4).take (Tryz.prog.cellsOf 4))=xs[4]?:=hf 4 _ rfl
 rw[e0,List.getElem?_eq_getElem (by omega)]at g0 g1 g2
 rw[e3,List.getElem?_eq_getElem (by omega)]at g3 g4
 obtain⟨x0,h0,-⟩:=read_i g0
 obtain⟨x1,h1,-⟩:=read_i g1
 obtain⟨x2,h2,-⟩:=read_i g2
 obtain⟨x3,h3⟩:=read_b g3
 obtain⟨x4,h4⟩:=read_b g4
 simp only[List.drop_zero,List.take_succ_cons,List.take_zero,List.drop_succ_cons,List.cons.injEq,and_true]at h0 h1 h2 h3 h4
 subst h0 h1 h2 h3 h4;exact⟨⟨x0,x1,x2,x3,x4⟩,rfl,trivial⟩
theorem read_steps{n:Nat}{v:Value}{y:DataW H×List MemPlace}(h:DataW.trod en Tryz.prog W base sp held n 23 [v]=some y):∃xs:List StepT,RepS (allG W) v 5 (xs.map enc)∧∀x∈xs,True:=
 read_slice (F:=fun x:StepT=>enc x) (sz:=5) (e:=25) (by kernel_rfl) (by decide) (fun x=>rfl) Tryz.underlying23 (fun h=>read_step h) h
end
end Go.Proofs.YthgighljhoneeaaGreat
end
section
open Go Mk
namespace Go.Proofs.YthgighljhoneeaaGreat
set_option maxHeartbeats 64000000
attribute [local irreducible] Calls
attribute [local irreducible] matL
section
variable {Γ:Gho}{S:List Res}{w:World}{bh b bm r:Nat}{v0 v1 v2 v3 v4 v5 w0 w2 w3 w4 w5 vl vl2:Value}{a1:Option Addr}{n1 c1:Nat}{cap:Int}{q:Option Addr}{m d:Nat}{ls:List IntrT}{H:HwT}{L:List Int}
theorem do_any(hd:HwD H cap)(hp:HwR Γ (Value.agg #[v0,v1,v2,v3,v4,v5]) H)(hr:HwR Γ (Value.agg #[w0,.slice a1 n1 c1,w2,w3,w4,w5]) H)(hl:RepS Γ vl 1 (intRows L))(hl2:RepS Γ vl2 1 (intRows L))(hS:DSt H cap L ls)(x:StepT)(hw:Wd Γ (.blk b (hoC v0 v1 v2 v3 v4 v5 cap vl bm)::linesR bm ls::.blk r (rfC w0 (.slice a1 n1 c1) w2 w3 w4 w5 vl2 cap q m d)::.own (.slice q m d) 46 6 (ls.map enc)::.blk bh (.cells #[w0,.slice a1 n1 c1,w2,w3,w4,w5,.pointer (some ⟨b,0,none⟩),.pointer (some ⟨r,0,none⟩)] 42)::S) w) :
  Calls Tryz.prog 10 #[.pointer (some ⟨bh,0,none⟩),.agg (enc x).toArray] w fun e w'=>∃(Γ':Gho) (vl' vl2':Value),Γ.le Γ'∧e=.returned (.bool true)∧RepS Γ' vl' 1 (intRows (doS H cap L ls x).1)∧RepS Γ' vl2' 1 (intRows (doS H cap L ls x).1) ∧
   Wd Γ' (.blk b (hoC v0 v1 v2 v3 v4 v5 cap vl' bm)::linesR bm (doS H cap L ls x).2::.blk r (rfC w0 (.slice a1 n1 c1) w2 w3 w4 w5 vl2' cap q m d)::.own (.slice q m d) 46 6 ((doS H cap L ls x).2.map enc)::.blk bh (.cells #[w0,.slice a1 n1 c1,w2,w3,w4,w5,.pointer (some ⟨b,0,none⟩),.pointer (some ⟨r,0,none⟩)] 42)::S) w':=by
 have hv:=hd.cap.v
 haveI hwd:WideH H:=⟨hd.wide⟩
 have hdv:=hd.dev
 have hle:=hS.len
 have hN:ls.length≤1000:=by omega
 have hA:=hS.asc hv
 have hRg:=hS.rg hv
 have hr2:=hr
 obtain⟨a1',n1',c1',a2,n2,c2,a3,n3,c3,a4,n4,c4,a5,n5,c5,cs',hu,hcs,hok,hsz,r1,r2,r3,r4,r5⟩:=hr2.h;clear hr2;simp only[Value.agg.injEq,Array.mk.injEq,List.cons.injEq,and_true,Value.slice.injEq]at hu
 obtain⟨-,⟨rfl,rfl,rfl⟩,-,-,-,-⟩:=hu;obtain⟨hn1,hnc1,hcc1⟩:=rep_facts r1
 simp only[List.length_map]at hn1
 have hncl:=hd.ncl
 have hnc:=hd.nc
 haveI:PosL 8:=⟨by decide⟩
 haveI:PosL 32:=⟨by decide⟩
 refine calls_of_W Tryz.func10 rfl rfl ?_
 refine byG ?_;refine lBox ?_;intro bx w hw;have hw:Wd Γ (.blk bx (.cells (enc x).toArray 25)::.blk b (hoC v0 v1 v2 v3 v4 v5 cap vl bm)::linesR bm ls::.blk r (rfC w0 (.slice a1 n1 c1) w2 w3 w4 w5 vl2 cap q m d)::.own (.slice q m d) 46 6 (ls.map enc)::.blk bh (.cells #[w0,.slice a1 n1 c1,w2,w3,w4,w5,.pointer (some ⟨b,0,none⟩),.pointer (some ⟨r,0,none⟩)] 42)::S) w:=hw
 have hw:Wd Γ (.blk b (hoC v0 v1 v2 v3 v4 v5 cap vl bm)::linesR bm ls::.blk r (rfC w0 (.slice a1 n1 c1) w2 w3 w4 w5 vl2 cap q m d)::.own (.slice q m d) 46 6 (ls.map enc)::.blk bh (.cells #[w0,.slice a1 n1 c1,w2,w3,w4,w5,.pointer (some ⟨b,0,none⟩),.pointer (some ⟨r,0,none⟩)] 42)::.blk bx (.cells (enc x).toArray 25)::S) w:=hw.ps [5,5,5,5,5]
 refine byG ?_;refine W_quiet (by kernel_rfl) (by kernel_rfl) hw ?_
 refine byQ ?_;intro w hw;refine W_seq ?_
 refine W_cutT (fun ρ w=>Has ρ [(0,.pointer (some ⟨bh,0,none⟩)),(3,.pointer (some ⟨bx,0,none⟩)),(5,.int .i64 (argS H ls x).1),(6,.int .i64 (argS H ls x).2.1),(7,.int .i64 (argS H ls x).2.2)]∧¬(x.Raw=false∧ls=[])∧Wd Γ (.blk b (hoC v0 v1 v2 v3 v4 v5 cap vl bm)::linesR bm ls::.blk r (rfC w0 (.slice a1 n1 c1) w2 w3 w4 w5 vl2 cap q m d)::.own (.slice q m d) 46 6 (ls.map enc)::.blk bh (.cells #[w0,.slice a1 n1 c1,w2,w3,w4,w5,.pointer (some ⟨b,0,none⟩),.pointer (some ⟨r,0,none⟩)] 42)::.blk bx (.cells (enc x).toArray 25)::S) w) ?_ ?_
 ·refine byG ?_;refine W_cond rfl (fun h=>?_) (fun h=>?_)
  ·have hraw:x.Raw=false:=by simpa using h
   clear h;refine byG ?_;refine lCall ((rInterrupts_any hN (hw.ps [3,3])).mono fun e w hq=>?_)
   clear hw;obtain⟨vu,rfl,hw⟩:=hq;refine⟨_,rfl,?_⟩;obtain⟨au,nu,cu,rfl,hnu,-,-⟩:=hw.own_shape (i:=0) rfl
   simp only[List.length_map]at hnu
   have hw:Wd Γ (.own (.slice au nu cu) 46 6 (ls.map enc)::.blk r (rfC w0 (.slice a1 n1 c1) w2 w3 w4 w5 vl2 cap q m d)::.own (.slice q m d) 46 6 (ls.map enc)::.blk b (hoC v0 v1 v2 v3 v4 v5 cap vl bm)::linesR bm ls::.blk bh (.cells #[w0,.slice a1 n1 c1,w2,w3,w4,w5,.pointer (some ⟨b,0,none⟩),.pointer (some ⟨r,0,none⟩)] 42)::.blk bx (.cells (enc x).toArray 25)::S) w:=hw
   refine byG ?_;refine W_cond rfl (fun h=>?_) (fun h=>?_)
   ·have h0:ls=[]:=List.eq_nil_of_length_eq_zero (by have:=of_decide_eq_true h;omega)
    have e1:(doS H cap L ls x)=(L,ls):=by unfold doS;rw[if_pos ⟨hraw,h0⟩]
    refine byG ?_;exact⟨_,rfl,Γ,vl,vl2,.refl _,rfl,by rw[e1];exact hl,by rw[e1];exact hl2,by rw[e1];exact(hw.ps [2,2,4,4]).ds [4,5]⟩
   have hne:ls≠[]:=fun e=>by
    have h1:=of_decide_eq_false h
    rw[e]at hnu;simp at hnu
    omega
   clear h;have hnp:1≤nu:=by
    cases ls with
    | nil=>exact absurd rfl hne
    | cons=>simp at hnu;omega
   obtain⟨k,hk,hke⟩:∃k:Nat,k<ls.length∧x.IRQ%(nu:Int)=(k:Int):=⟨(x.IRQ%(nu:Int)).toNat,by have:=Int.emod_lt_of_pos x.IRQ (show (0:Int)<nu by omega);have:=Int.emod_nonneg x.IRQ (show (nu:Int)≠0 by omega);omega,by have:=Int.emod_nonneg x.IRQ (show (nu:Int)≠0 by omega);omega⟩
   obtain⟨u,hu⟩:=get_lt (l:=ls) (k:=k) hk
   obtain⟨j,hj,hje⟩:∃j:Nat,j<H.Cores.length∧x.Core%(n1:Int)=(j:Int):=⟨(x.Core%(n1:Int)).toNat,by have:=Int.emod_lt_of_pos x.Core (show (0:Int)<n1 by omega);have:=Int.emod_nonneg x.Core (show (n1:Int)≠0 by omega);omega,by have:=Int.emod_nonneg x.Core (show (n1:Int)≠0 by omega);omega⟩
   obtain⟨cc,hcc⟩:=get_lt (l:=H.Cores) (k:=j) hj
   have eA:argS H ls x=(u.IRQ,if x.Kind%8=2∧0≤u.Serving then u.Serving else cc.ID,x.Core%32):=by
    unfold argS;rw[if_neg (by rw[hraw];decide),←hnu,←hn1,hke,hje]
    simp only[Int.toNat_natCast,List.getD_eq_getElem?_getD,hu,hcc,Option.getD_some]
   haveI:PosL (nu:Int):=⟨by omega⟩
   haveI:PosL (n1:Int):=⟨by omega⟩
   haveI pp1:PC Tryz.prog 12 [.int .i64 x.IRQ,.int .i64 (nu:Int)] (.int .i64 (k:Int)):=by rw[←hke];infer_instance
   haveI pp2:PC Tryz.prog 12 [.int .i64 x.Core,.int .i64 (n1:Int)] (.int .i64 (j:Int)):=by rw[←hje];infer_instance
   refine byG ?_;refine lAlloc ?_;intro b9 w hw;refine lStore ?_;intro w hw;have hw:Wd Γ (.blk b9 (.cells (enc u).toArray 46)::.own (.slice au nu cu) 46 6 (ls.map enc)::.blk r (rfC w0 (.slice a1 n1 c1) w2 w3 w4 w5 vl2 cap q m d)::.own (.slice q m d) 46 6 (ls.map enc)::.blk b (hoC v0 v1 v2 v3 v4 v5 cap vl bm)::linesR bm ls::.blk bh (.cells #[w0,.slice a1 n1 c1,w2,w3,w4,w5,.pointer (some ⟨b,0,none⟩),.pointer (some ⟨r,0,none⟩)] 42)::.blk bx (.cells (enc x).toArray 25)::S) w:=hw
   have hw:Wd Γ (.blk b9 (.cells (enc u).toArray 46)::.blk bh (.cells #[w0,.slice a1 n1 c1,w2,w3,w4,w5,.pointer (some ⟨b,0,none⟩),.pointer (some ⟨r,0,none⟩)] 42)::.blk bx (.cells (enc x).toArray 25)::.own (.slice au nu cu) 46 6 (ls.map enc)::.blk r (rfC w0 (.slice a1 n1 c1) w2 w3 w4 w5 vl2 cap q m d)::.own (.slice q m d) 46 6 (ls.map enc)::.blk b (hoC v0 v1 v2 v3 v4 v5 cap vl bm)::linesR bm ls::S) w:=hw.ps [7,7,2]
   refine byG ?_;refine W_quiet (by kernel_rfl) (by kernel_rfl) hw ?_
   refine byQ ?_;intro w hw;refine byG ?_;refine W_cond rfl (fun h=>?_) (fun h=>?_)
   ·have h:x.Kind%8=2∧0≤u.Serving:=by simpa using h
    rw[if_pos h]at eA;refine byG ?_;exact⟨⟨rfl,rfl,by rw[eA];rfl,by rw[eA];rfl,by rw[eA];rfl,trivial⟩,(fun h=>hne h.2),(hw.ps [2,2,5,5,7,7]).ds [6,6]⟩
   ·have h:¬(x.Kind%8=2∧0≤u.Serving):=by
     intro ⟨e1,e2⟩;simp[e1,e2]at h
    rw[if_neg h]at eA;refine byG ?_;exact⟨⟨rfl,rfl,by rw[eA];rfl,by rw[eA];rfl,by rw[eA];rfl,trivial⟩,(fun h=>hne h.2),(hw.ps [2,2,5,5,7,7]).ds [6,6]⟩
  ·have hraw:x.Raw=true:=by simpa using h
   have eA:argS H ls x=(x.IRQ,x.Core,x.Core):=by unfold argS;rw[if_pos hraw]
   refine byG ?_;exact⟨⟨rfl,rfl,by rw[eA];rfl,by rw[eA];rfl,by rw[eA];rfl,trivial⟩,(fun h=>by rw[hraw]at h;cases h.1),hw⟩
 clear hw;rintro ρ w ⟨hρ,hnr,hw⟩
 rw[hρ.eq];clear hρ;have hDD:(doS H cap L ls x)=((stepS H cap L ls (x.Kind%8) (argS H ls x).1 (argS H ls x).2.1 (argS H ls x).2.2 x.On).1,(stepS H cap L ls (x.Kind%8) (argS H ls x).1 (argS H ls x).2.1 (argS H ls x).2.2 x.On).2.1):=by unfold doS;rw[if_neg hnr]
 rw[hDD];clear hDD hnr;generalize (argS H ls x).1=irq at *
 generalize (argS H ls x).2.1=core at *
 generalize (argS H ls x).2.2=drv at *
 iterate 10 (refine byW ?_)
 refine W_seq ?_
 refine W_cutT (fun ρ w=>∃(Γ':Gho) (vl' vl2' va vb:Value),Γ.le Γ'∧Has ρ [(10,va),(11,vb),(12,.int .i64 (stepS H cap L ls (x.Kind%8) irq core drv x.On).2.2.2),(13,.int .i64 (stepS H cap L ls (x.Kind%8) irq core drv x.On).2.2.2)]∧RepS Γ' vl' 1 (intRows (stepS H cap L ls (x.Kind%8) irq core drv x.On).1)∧RepS Γ' vl2' 1 (intRows (stepS H cap L ls (x.Kind%8) irq core drv x.On).1) ∧
  Wd Γ' (.own vb 62 3 ((stepS H cap L ls (x.Kind%8) irq core drv x.On).2.2.1.map enc)::.own va 62 3 ((stepS H cap L ls (x.Kind%8) irq core drv x.On).2.2.1.map enc)::.blk b (hoC v0 v1 v2 v3 v4 v5 cap vl' bm)::linesR bm (stepS H cap L ls (x.Kind%8) irq core drv x.On).2.1::.blk r (rfC w0 (.slice a1 n1 c1) w2 w3 w4 w5 vl2' cap q m d)::.own (.slice q m d) 46 6 ((stepS H cap L ls (x.Kind%8) irq core drv x.On).2.1.map enc)::.blk bh (.cells #[w0,.slice a1 n1 c1,w2,w3,w4,w5,.pointer (some ⟨b,0,none⟩),.pointer (some ⟨r,0,none⟩)] 42)::.blk bx (.cells (enc x).toArray 25)::S) w) ?_ ?_
 ·iterate 7 (refine byW ?_)
  refine W_seq ?_
  refine W_cutT (fun ρ w=>Has ρ [(0,.pointer (some ⟨bh,0,none⟩)),(3,.pointer (some ⟨bx,0,none⟩)),(5,.int .i64 irq),(6,.int .i64 core),(7,.int .i64 drv),(10,.slice none 0 0),(11,.slice none 0 0),(74,.int .i64 (x.Kind%8)),(93,.bool (decide (x.Kind%8=0∨x.Kind%8=1)))]∧Wd Γ (.blk b (hoC v0 v1 v2 v3 v4 v5 cap vl bm)::linesR bm ls::.blk r (rfC w0 (.slice a1 n1 c1) w2 w3 w4 w5 vl2 cap q m d)::.own (.slice q m d) 46 6 (ls.map enc)::.blk bh (.cells #[w0,.slice a1 n1 c1,w2,w3,w4,w5,.pointer (some ⟨b,0,none⟩),.pointer (some ⟨r,0,none⟩)] 42)::.blk bx (.cells (enc x).toArray 25)::S) w) ?_ ?_
  ·refine byG ?_;refine W_cond rfl (fun h=>?_) (fun h=>?_)
   ·have h:x.Kind%8=0:=of_decide_eq_true h
    refine byG ?_;exact⟨⟨rfl,rfl,rfl,rfl,rfl,rfl,rfl,rfl,(by show Value.bool (decide (x.Kind%8=0))=_;simp[h]),trivial⟩,hw⟩
   ·have h:¬x.Kind%8=0:=of_decide_eq_false h
    refine byG ?_;exact⟨⟨rfl,rfl,rfl,rfl,rfl,rfl,rfl,rfl,(by show Value.bool (decide (x.Kind%8=1))=_;simp[h]),trivial⟩,hw⟩
  clear hw;rintro ρ w ⟨hρ,hw⟩
  rw[hρ.eq];clear hρ;refine W_cond rfl (fun h=>?_) (fun h=>?_)
  ·have h:x.Kind%8=0∨x.Kind%8=1:=of_decide_eq_true h
   have e1:(stepS H cap L ls (x.Kind%8) irq core drv x.On)=(L,rseS ls irq):=by unfold stepS;rw[if_pos h]
   refine byG ?_;refine lCall ((Raise_R hN irq hw).mono fun e w hq=>?_)
   clear hw;obtain⟨va,rfl,hw⟩:=hq;refine⟨_,rfl,?_⟩;refine byG ?_;refine lCall ((rRaise_any hA hRg hN irq (hw.ps [4,4])).mono fun e w hq=>?_)
   clear hw;obtain⟨vb,rfl,hw⟩:=hq;refine⟨_,rfl,?_⟩;refine byG ?_;exact⟨Γ,vl,vl2,va,vb,.refl _,⟨rfl,rfl,by rw[e1];rfl,by rw[e1];rfl,trivial⟩,by rw[e1];exact hl,by rw[e1];exact hl2,by rw[e1];exact hw.ps [2,2,5,5,5,5]⟩
  have k0:¬(x.Kind%8=0∨x.Kind%8=1):=of_decide_eq_false h
  clear h;refine byG ?_;refine W_cond rfl (fun h=>?_) (fun h=>?_)
  ·have h:x.Kind%8=2:=of_decide_eq_true h
   have e1:(stepS H cap L ls (x.Kind%8) irq core drv x.On)=(L,ackS ls irq core):=by unfold stepS;rw[if_neg k0,if_pos h]
   refine byG ?_;refine lCall ((Ack_R hN irq core hw).mono fun e w hq=>?_)
   clear hw;obtain⟨va,rfl,hw⟩:=hq;refine⟨_,rfl,?_⟩;refine byG ?_;refine lCall ((rAck_any hA hRg hN irq core (hw.ps [4,4])).mono fun e w hq=>?_)
   clear hw;obtain⟨vb,rfl,hw⟩:=hq;refine⟨_,rfl,?_⟩;refine byG ?_;exact⟨Γ,vl,vl2,va,vb,.refl _,⟨rfl,rfl,by rw[e1];rfl,by rw[e1];rfl,trivial⟩,by rw[e1];exact hl,by rw[e1];exact hl2,by rw[e1];exact hw.ps [2,2,5,5,5,5]⟩
  have k2:¬x.Kind%8=2:=of_decide_eq_false h
  clear h;refine byG ?_;refine W_cond rfl (fun h=>?_) (fun h=>?_)
  ·have h:x.Kind%8=3:=of_decide_eq_true h
   have e1:(stepS H cap L ls (x.Kind%8) irq core drv x.On)=(L,mskS ls irq x.On):=by unfold stepS;rw[if_neg k0,if_neg k2,if_pos h]
   refine byG ?_;have hwm:Wd Γ ((.blk r (rfC w0 (.slice a1 n1 c1) w2 w3 w4 w5 vl2 cap q m d)::.own (.slice q m d) 46 6 (ls.map enc)::.blk bh (.cells #[w0,.slice a1 n1 c1,w2,w3,w4,w5,.pointer (some ⟨b,0,none⟩),.pointer (some ⟨r,0,none⟩)] 42)::.blk bx (.cells (enc x).toArray 25)::S)++[.blk b (hoC v0 v1 v2 v3 v4 v5 cap vl bm),linesR bm ls]) w:=hw.perm (List.perm_append_comm (l₁:=[.blk b (hoC v0 v1 v2 v3 v4 v5 cap vl bm),linesR bm ls]))
   refine W_mixed (.blk r (rfC w0 (.slice a1 n1 c1) w2 w3 w4 w5 vl2 cap q m d)::.own (.slice q m d) 46 6 (ls.map enc)::.blk bh (.cells #[w0,.slice a1 n1 c1,w2,w3,w4,w5,.pointer (some ⟨b,0,none⟩),.pointer (some ⟨r,0,none⟩)] 42)::.blk bx (.cells (enc x).toArray 25)::S) [fun _=>[.blk b (hoC v0 v1 v2 v3 v4 v5 cap vl bm),linesR bm ls],fun _=>[],fun _=>[]] [[],[],[],[],[],[],[],[0],[0,1,2],[1],[],[1],[]] [[],[],[],[],[],[],[],[0],[0,1,2],[1],[2],[1],[]] [[146,138],[138,147,10],[138]] hwm ?_
   clear hwm hw;refine byM ?_;refine mS (c:=0) (v:=undef) (F:=fun _=>[.blk b (hoC v0 v1 v2 v3 v4 v5 cap vl bm),linesR bm ls]) (exC (T:=Value) (fun t g=>g 146=.tuple #[t,.int .i64 (mskS ls irq x.On).2.2]) fun t=>[.own t 62 3 ((mskS ls irq x.On).2.1.map enc),.blk b (hoC v0 v1 v2 v3 v4 v5 cap vl bm),linesR bm (mskS ls irq x.On).1]) (fun g w Y hw=>?_) ?_
   ·refine s_call (vs:=#[.pointer (some ⟨b,0,none⟩),.int .i64 irq,.bool x.On]) ?_ ((Mask_R hN irq x.On hw).mono fun e w' hq=>?_)
    ·exact EvL.eqA (xs:=[.tmp 142,.tmp 143,.tmp 145]) (vs:=[.pointer (some ⟨b,0,none⟩),.int .i64 irq,.bool x.On]) (EvL.cons (by rfl) (EvL.cons (by rfl) (EvL.cons (by rfl) EvL.nil)))
    obtain⟨t,rfl,hw2⟩:=hq;refine⟨_,rfl,fun h=>(by cases h),?_⟩
    exact exC_mk (T:=Value) (φ:=fun t g=>g 146=.tuple #[t,.int .i64 (mskS ls irq x.On).2.2]) (R:=fun t=>[.own t 62 3 ((mskS ls irq x.On).2.1.map enc),.blk b (hoC v0 v1 v2 v3 v4 v5 cap vl bm),linesR bm (mskS ls irq x.On).1]) t rfl hw2
   refine mM3 (c:=0) (c2:=1) (c3:=2) (v:=undef) (exC (T:=Value) (fun t g=>g 138=.tuple #[t,.int .i64 (mskS ls irq x.On).2.2]) fun t=>[.own t 62 3 ((mskS ls irq x.On).2.1.map enc),.blk b (hoC v0 v1 v2 v3 v4 v5 cap vl bm),linesR bm (mskS ls irq x.On).1]) (exC (T:=Value) (fun t g=>g 138=.tuple #[t,.int .i64 (mskS ls irq x.On).2.2]) fun _=>[]) (exC (T:=Value) (fun t g=>g 138=.tuple #[t,.int .i64 (mskS ls irq x.On).2.2]) fun _=>[]) (fun Y w g hw=>?_) ?_ rfl rfl
   ·have hw1:Wd Γ ((.blk r (rfC w0 (.slice a1 n1 c1) w2 w3 w4 w5 vl2 cap q m d)::.own (.slice q m d) 46 6 (ls.map enc)::.blk bh (.cells #[w0,.slice a1 n1 c1,w2,w3,w4,w5,.pointer (some ⟨b,0,none⟩),.pointer (some ⟨r,0,none⟩)] 42)::.blk bx (.cells (enc x).toArray 25)::S)++(((exC (T:=Value) (fun t g=>g 146=.tuple #[t,.int .i64 (mskS ls irq x.On).2.2]) fun t=>[.own t 62 3 ((mskS ls irq x.On).2.1.map enc),.blk b (hoC v0 v1 v2 v3 v4 v5 cap vl bm),linesR bm (mskS ls irq x.On).1]) (ovr [146,138] g noFr))++([]++([]++[]))++Y)) w:=hw
    obtain⟨t,ht,hw2⟩:=exC_open (hw1.perm perm3.symm)
    have ht:g 146=.tuple #[t,.int .i64 (mskS ls irq x.On).2.2]:=ht
    refine Yields.step (y_move (v:=.tuple #[t,.int .i64 (mskS ls irq x.On).2.2]) ht) ⟨?_,fun h=>(by cases h)⟩
    have hw3:=exC_mk (T:=Value) (φ:=fun t g=>g 138=.tuple #[t,.int .i64 (mskS ls irq x.On).2.2]) (R:=fun t=>[.own t 62 3 ((mskS ls irq x.On).2.1.map enc),.blk b (hoC v0 v1 v2 v3 v4 v5 cap vl bm),linesR bm (mskS ls irq x.On).1]) (g:=ovr [146,138] (putO g (some 138) (.tuple #[t,.int .i64 (mskS ls irq x.On).2.2])) noFr) t rfl hw2
    have hw4:=hw3.perm List.perm_append_comm
    have hw5:=exC_mk (T:=Value) (φ:=fun t g=>g 138=.tuple #[t,.int .i64 (mskS ls irq x.On).2.2]) (R:=fun _=>[]) (g:=ovr [138,147,10] (putO g (some 138) (.tuple #[t,.int .i64 (mskS ls irq x.On).2.2])) noFr) t rfl hw4
    have hw6:=exC_mk (T:=Value) (φ:=fun t g=>g 138=.tuple #[t,.int .i64 (mskS ls irq x.On).2.2]) (R:=fun _=>[]) (g:=ovr [138] (putO g (some 138) (.tuple #[t,.int .i64 (mskS ls irq x.On).2.2])) noFr) t rfl hw5
    have hw7:Wd Γ (((exC (T:=Value) (fun t g=>g 138=.tuple #[t,.int .i64 (mskS ls irq x.On).2.2]) fun _=>[]) (ovr [138] (putO g (some 138) (.tuple #[t,.int .i64 (mskS ls irq x.On).2.2])) noFr))++(((exC (T:=Value) (fun t g=>g 138=.tuple #[t,.int .i64 (mskS ls irq x.On).2.2]) fun _=>[]) (ovr [138,147,10] (putO g (some 138) (.tuple #[t,.int .i64 (mskS ls irq x.On).2.2])) noFr))++(([]++([]++((.blk r (rfC w0 (.slice a1 n1 c1) w2 w3 w4 w5 vl2 cap q m d)::.own (.slice q m d) 46 6 (ls.map enc)::.blk bh (.cells #[w0,.slice a1 n1 c1,w2,w3,w4,w5,.pointer (some ⟨b,0,none⟩),.pointer (some ⟨r,0,none⟩)] 42)::.blk bx (.cells (enc x).toArray 25)::S)++Y)))++((exC (T:=Value) (fun t g=>g 138=.tuple #[t,.int .i64 (mskS ls irq x.On).2.2]) fun t=>[.own t 62 3 ((mskS ls irq x.On).2.1.map enc),.blk b (hoC v0 v1 v2 v3 v4 v5 cap vl bm),linesR bm (mskS ls irq x.On).1]) (ovr [146,138] (putO g (some 138) (.tuple #[t,.int .i64 (mskS ls irq x.On).2.2])) noFr))))) w:=hw6
    exact hw7.perm perm6
   refine mS (c:=1) (v:=undef) (F:=(exC (T:=Value) (fun t g=>g 138=.tuple #[t,.int .i64 (mskS ls irq x.On).2.2]) fun _=>[])) (exC (T:=Value) (fun t g=>g 138=.tuple #[t,.int .i64 (mskS ls irq x.On).2.2]∧g 147=t) fun _=>[]) (fun g w Y hw=>?_) ?_
   ·obtain⟨t,ht,hw1⟩:=exC_open hw
    have ht:g 138=.tuple #[t,.int .i64 (mskS ls irq x.On).2.2]:=ht
    refine Yields.step (y_extract (v:=t) ht rfl) ⟨fun h=>(by cases h),?_⟩
    exact exC_mk (T:=Value) (φ:=fun t g=>g 138=.tuple #[t,.int .i64 (mskS ls irq x.On).2.2]∧g 147=t) (R:=fun _=>[]) t ⟨ht,rfl⟩ hw1
   refine mC (v:=.int .i64 (mskS ls irq x.On).2.2) (fun Y w g hw=>?_) rfl rfl rfl ?_
   ·have hw1:Wd Γ ((.blk r (rfC w0 (.slice a1 n1 c1) w2 w3 w4 w5 vl2 cap q m d)::.own (.slice q m d) 46 6 (ls.map enc)::.blk bh (.cells #[w0,.slice a1 n1 c1,w2,w3,w4,w5,.pointer (some ⟨b,0,none⟩),.pointer (some ⟨r,0,none⟩)] 42)::.blk bx (.cells (enc x).toArray 25)::S)++((((exC (T:=Value) (fun t g=>g 138=.tuple #[t,.int .i64 (mskS ls irq x.On).2.2]) fun _=>[]) (ovr [138] g noFr))++[])++Y)) w:=hw
    obtain⟨t,ht,-⟩:=exC_open (hw1.perm perm1)
    exact Yields.step (y_extract (v:=.int .i64 (mskS ls irq x.On).2.2) ht rfl) ⟨rfl,hw⟩
   refine mS (c:=1) (v:=undef) (F:=(exC (T:=Value) (fun t g=>g 138=.tuple #[t,.int .i64 (mskS ls irq x.On).2.2]∧g 147=t) fun _=>[])) (exC (T:=Value) (fun t g=>g 138=.tuple #[t,.int .i64 (mskS ls irq x.On).2.2]∧g 10=t) fun _=>[]) (fun g w Y hw=>?_) ?_
   ·obtain⟨t,⟨ht,ht2⟩,hw1⟩:=exC_open hw
    have ht:g 138=.tuple #[t,.int .i64 (mskS ls irq x.On).2.2]:=ht
    have ht2:g 147=t:=ht2
    refine Yields.step (y_assign (v:=t) ht2) ⟨fun h=>(by cases h),?_⟩
    exact exC_mk (T:=Value) (φ:=fun t g=>g 138=.tuple #[t,.int .i64 (mskS ls irq x.On).2.2]∧g 10=t) (R:=fun _=>[]) t ⟨ht,rfl⟩ hw1
   refine byM ?_;refine mEnd fun w g hw=>?_
   have hw1:Wd Γ ((.blk r (rfC w0 (.slice a1 n1 c1) w2 w3 w4 w5 vl2 cap q m d)::.own (.slice q m d) 46 6 (ls.map enc)::.blk bh (.cells #[w0,.slice a1 n1 c1,w2,w3,w4,w5,.pointer (some ⟨b,0,none⟩),.pointer (some ⟨r,0,none⟩)] 42)::.blk bx (.cells (enc x).toArray 25)::S)++((((exC (T:=Value) (fun t g=>g 138=.tuple #[t,.int .i64 (mskS ls irq x.On).2.2]) fun t=>[.own t 62 3 ((mskS ls irq x.On).2.1.map enc),.blk b (hoC v0 v1 v2 v3 v4 v5 cap vl bm),linesR bm (mskS ls irq x.On).1]) (ovr [146,138] g noFr))++(((exC (T:=Value) (fun t g=>g 138=.tuple #[t,.int .i64 (mskS ls irq x.On).2.2]∧g 10=t) fun _=>[]) (ovr [138,147,10] g noFr))++(((exC (T:=Value) (fun t g=>g 138=.tuple #[t,.int .i64 (mskS ls irq x.On).2.2]) fun _=>[]) (ovr [138] g noFr))++[])))++[])) w:=by rw[List.append_nil];exact hw
   obtain⟨t,ht,hw2⟩:=exC_open (hw1.perm perm3.symm)
   have ht:g 138=.tuple #[t,.int .i64 (mskS ls irq x.On).2.2]:=ht
   have hw3:Wd Γ (((exC (T:=Value) (fun t g=>g 138=.tuple #[t,.int .i64 (mskS ls irq x.On).2.2]∧g 10=t) fun _=>[]) (ovr [138,147,10] g noFr))++(((exC (T:=Value) (fun t g=>g 138=.tuple #[t,.int .i64 (mskS ls irq x.On).2.2]) fun _=>[]) (ovr [138] g noFr))++(((.blk r (rfC w0 (.slice a1 n1 c1) w2 w3 w4 w5 vl2 cap q m d)::.own (.slice q m d) 46 6 (ls.map enc)::.blk bh (.cells #[w0,.slice a1 n1 c1,w2,w3,w4,w5,.pointer (some ⟨b,0,none⟩),.pointer (some ⟨r,0,none⟩)] 42)::.blk bx (.cells (enc x).toArray 25)::S)++[])++[.own t 62 3 ((mskS ls irq x.On).2.1.map enc),.blk b (hoC v0 v1 v2 v3 v4 v5 cap vl bm),linesR bm (mskS ls irq x.On).1]))) w:=hw2.perm perm4
   obtain⟨t2,⟨ht2,ht3⟩,hw4⟩:=exC_open hw3
   have ht2:g 138=.tuple #[t2,.int .i64 (mskS ls irq x.On).2.2]:=ht2
   have ht3:g 10=t2:=ht3
   obtain rfl:t2=t:=by
    have:=ht2.symm.trans ht
    simp at this
    exact this
   rw[List.nil_append]at hw4;obtain⟨-,-,hw5⟩:=exC_open hw4
   clear hw hw1 hw2 hw3 hw4;rw[List.append_nil,List.nil_append]at hw5;have hw:Wd Γ ([.own t2 62 3 ((mskS ls irq x.On).2.1.map enc),.blk b (hoC v0 v1 v2 v3 v4 v5 cap vl bm),linesR bm (mskS ls irq x.On).1]++(.blk r (rfC w0 (.slice a1 n1 c1) w2 w3 w4 w5 vl2 cap q m d)::.own (.slice q m d) 46 6 (ls.map enc)::.blk bh (.cells #[w0,.slice a1 n1 c1,w2,w3,w4,w5,.pointer (some ⟨b,0,none⟩),.pointer (some ⟨r,0,none⟩)] 42)::.blk bx (.cells (enc x).toArray 25)::S)) w:=hw5.perm List.perm_append_comm
   clear hw5;refine W_has (l:=[(0,.pointer (some ⟨bh,0,none⟩)),(3,.pointer (some ⟨bx,0,none⟩)),(5,.int .i64 irq),(10,t2),(12,.int .i64 (mskS ls irq x.On).2.2)]) ⟨rfl,rfl,rfl,ht3,rfl,trivial⟩ fun ρ hρ=>?_
   clear ht ht2 ht3;rw[hρ.eq];clear hρ;have hw:Wd Γ (.own t2 62 3 ((mskS ls irq x.On).2.1.map enc)::.blk b (hoC v0 v1 v2 v3 v4 v5 cap vl bm)::linesR bm (mskS ls irq x.On).1::.blk r (rfC w0 (.slice a1 n1 c1) w2 w3 w4 w5 vl2 cap q m d)::.own (.slice q m d) 46 6 (ls.map enc)::.blk bh (.cells #[w0,.slice a1 n1 c1,w2,w3,w4,w5,.pointer (some ⟨b,0,none⟩),.pointer (some ⟨r,0,none⟩)] 42)::.blk bx (.cells (enc x).toArray 25)::S) w:=hw
   have hw:Wd Γ (.blk r (rfC w0 (.slice a1 n1 c1) w2 w3 w4 w5 vl2 cap q m d)::.own (.slice q m d) 46 6 (ls.map enc)::.own t2 62 3 ((mskS ls irq x.On).2.1.map enc)::.blk b (hoC v0 v1 v2 v3 v4 v5 cap vl bm)::linesR bm (mskS ls irq x.On).1::.blk bh (.cells #[w0,.slice a1 n1 c1,w2,w3,w4,w5,.pointer (some ⟨b,0,none⟩),.pointer (some ⟨r,0,none⟩)] 42)::.blk bx (.cells (enc x).toArray 25)::S) w:=hw.ps [4,4]
   have hwm:Wd Γ ((.own t2 62 3 ((mskS ls irq x.On).2.1.map enc)::.blk b (hoC v0 v1 v2 v3 v4 v5 cap vl bm)::linesR bm (mskS ls irq x.On).1::.blk bh (.cells #[w0,.slice a1 n1 c1,w2,w3,w4,w5,.pointer (some ⟨b,0,none⟩),.pointer (some ⟨r,0,none⟩)] 42)::.blk bx (.cells (enc x).toArray 25)::S)++([.blk r (rfC w0 (.slice a1 n1 c1) w2 w3 w4 w5 vl2 cap q m d),.own (.slice q m d) 46 6 (ls.map enc)]:List Res)) w:=hw.perm (List.perm_append_comm (l₁:=([.blk r (rfC w0 (.slice a1 n1 c1) w2 w3 w4 w5 vl2 cap q m d),.own (.slice q m d) 46 6 (ls.map enc)]:List Res)))
   clear hw;refine byG ?_;refine W_mixed (.own t2 62 3 ((mskS ls irq x.On).2.1.map enc)::.blk b (hoC v0 v1 v2 v3 v4 v5 cap vl bm)::linesR bm (mskS ls irq x.On).1::.blk bh (.cells #[w0,.slice a1 n1 c1,w2,w3,w4,w5,.pointer (some ⟨b,0,none⟩),.pointer (some ⟨r,0,none⟩)] 42)::.blk bx (.cells (enc x).toArray 25)::S) [fun _=>[.blk r (rfC w0 (.slice a1 n1 c1) w2 w3 w4 w5 vl2 cap q m d),.own (.slice q m d) 46 6 (ls.map enc)],fun _=>[],fun _=>[]] [[],[],[],[],[],[],[],[0],[0,1,2],[1],[],[1],[]] [[],[],[],[],[],[],[],[0],[0,1,2],[1],[2],[1],[]] [[157,149],[149,158,11],[149]] hwm ?_
   clear hwm;refine byM ?_;refine mS (c:=0) (v:=undef) (F:=fun _=>[.blk r (rfC w0 (.slice a1 n1 c1) w2 w3 w4 w5 vl2 cap q m d),.own (.slice q m d) 46 6 (ls.map enc)]) (exC (T:=Value) (fun t g=>g 157=.tuple #[t,.int .i64 (mskS ls irq x.On).2.2]) fun t=>[.own t 62 3 ((mskS ls irq x.On).2.1.map enc),.blk r (rfC w0 (.slice a1 n1 c1) w2 w3 w4 w5 vl2 cap q m d),.own (.slice q m d) 46 6 ((mskS ls irq x.On).1.map enc)]) (fun g w Y hw=>?_) ?_
   ·refine s_call (vs:=#[.pointer (some ⟨r,0,none⟩),.int .i64 irq,.bool x.On]) ?_ ((rMask_any hA hRg hN irq x.On hw).mono fun e w' hq=>?_)
    ·exact EvL.eqA (xs:=[.tmp 153,.tmp 154,.tmp 156]) (vs:=[.pointer (some ⟨r,0,none⟩),.int .i64 irq,.bool x.On]) (EvL.cons (by rfl) (EvL.cons (by rfl) (EvL.cons (by rfl) EvL.nil)))
    obtain⟨t,rfl,hw2⟩:=hq;refine⟨_,rfl,fun h=>(by cases h),?_⟩
    exact exC_mk (T:=Value) (φ:=fun t g=>g 157=.tuple #[t,.int .i64 (mskS ls irq x.On).2.2]) (R:=fun t=>[.own t 62 3 ((mskS ls irq x.On).2.1.map enc),.blk r (rfC w0 (.slice a1 n1 c1) w2 w3 w4 w5 vl2 cap q m d),.own (.slice q m d) 46 6 ((mskS ls irq x.On).1.map enc)]) t rfl hw2
   obtain⟨vt,hvt⟩:∃vt:Value,vt=t2:=⟨_,rfl⟩
   rw[←hvt];clear hvt;refine mM3 (c:=0) (c2:=1) (c3:=2) (v:=undef) (exC (T:=Value) (fun t g=>g 149=.tuple #[t,.int .i64 (mskS ls irq x.On).2.2]) fun t=>[.own t 62 3 ((mskS ls irq x.On).2.1.map enc),.blk r (rfC w0 (.slice a1 n1 c1) w2 w3 w4 w5 vl2 cap q m d),.own (.slice q m d) 46 6 ((mskS ls irq x.On).1.map enc)]) (exC (T:=Value) (fun t g=>g 149=.tuple #[t,.int .i64 (mskS ls irq x.On).2.2]) fun _=>[]) (exC (T:=Value) (fun t g=>g 149=.tuple #[t,.int .i64 (mskS ls irq x.On).2.2]) fun _=>[]) (fun Y w g hw=>?_) ?_ rfl rfl
   ·have hw1:Wd Γ ((.own vt 62 3 ((mskS ls irq x.On).2.1.map enc)::.blk b (hoC v0 v1 v2 v3 v4 v5 cap vl bm)::linesR bm (mskS ls irq x.On).1::.blk bh (.cells #[w0,.slice a1 n1 c1,w2,w3,w4,w5,.pointer (some ⟨b,0,none⟩),.pointer (some ⟨r,0,none⟩)] 42)::.blk bx (.cells (enc x).toArray 25)::S)++(((exC (T:=Value) (fun t g=>g 157=.tuple #[t,.int .i64 (mskS ls irq x.On).2.2]) fun t=>[.own t 62 3 ((mskS ls irq x.On).2.1.map enc),.blk r (rfC w0 (.slice a1 n1 c1) w2 w3 w4 w5 vl2 cap q m d),.own (.slice q m d) 46 6 ((mskS ls irq x.On).1.map enc)]) (ovr [157,149] g noFr))++([]++([]++[]))++Y)) w:=hw
    obtain⟨t,ht,hw2⟩:=exC_open (hw1.perm perm3.symm)
    have ht:g 157=.tuple #[t,.int .i64 (mskS ls irq x.On).2.2]:=ht
    refine Yields.step (y_move (v:=.tuple #[t,.int .i64 (mskS ls irq x.On).2.2]) ht) ⟨?_,fun h=>(by cases h)⟩
    have hw3:=exC_mk (T:=Value) (φ:=fun t g=>g 149=.tuple #[t,.int .i64 (mskS ls irq x.On).2.2]) (R:=fun t=>[.own t 62 3 ((mskS ls irq x.On).2.1.map enc),.blk r (rfC w0 (.slice a1 n1 c1) w2 w3 w4 w5 vl2 cap q m d),.own (.slice q m d) 46 6 ((mskS ls irq x.On).1.map enc)]) (g:=ovr [157,149] (putO g (some 149) (.tuple #[t,.int .i64 (mskS ls irq x.On).2.2])) noFr) t rfl hw2
    have hw4:=hw3.perm List.perm_append_comm
    have hw5:=exC_mk (T:=Value) (φ:=fun t g=>g 149=.tuple #[t,.int .i64 (mskS ls irq x.On).2.2]) (R:=fun _=>[]) (g:=ovr [149,158,11] (putO g (some 149) (.tuple #[t,.int .i64 (mskS ls irq x.On).2.2])) noFr) t rfl hw4
    have hw6:=exC_mk (T:=Value) (φ:=fun t g=>g 149=.tuple #[t,.int .i64 (mskS ls irq x.On).2.2]) (R:=fun _=>[]) (g:=ovr [149] (putO g (some 149) (.tuple #[t,.int .i64 (mskS ls irq x.On).2.2])) noFr) t rfl hw5
    have hw7:Wd Γ (((exC (T:=Value) (fun t g=>g 149=.tuple #[t,.int .i64 (mskS ls irq x.On).2.2]) fun _=>[]) (ovr [149] (putO g (some 149) (.tuple #[t,.int .i64 (mskS ls irq x.On).2.2])) noFr))++(((exC (T:=Value) (fun t g=>g 149=.tuple #[t,.int .i64 (mskS ls irq x.On).2.2]) fun _=>[]) (ovr [149,158,11] (putO g (some 149) (.tuple #[t,.int .i64 (mskS ls irq x.On).2.2])) noFr))++(([]++([]++((.own vt 62 3 ((mskS ls irq x.On).2.1.map enc)::.blk b (hoC v0 v1 v2 v3 v4 v5 cap vl bm)::linesR bm (mskS ls irq x.On).1::.blk bh (.cells #[w0,.slice a1 n1 c1,w2,w3,w4,w5,.pointer (some ⟨b,0,none⟩),.pointer (some ⟨r,0,none⟩)] 42)::.blk bx (.cells (enc x).toArray 25)::S)++Y)))++((exC (T:=Value) (fun t g=>g 149=.tuple #[t,.int .i64 (mskS ls irq x.On).2.2]) fun t=>[.own t 62 3 ((mskS ls irq x.On).2.1.map enc),.blk r (rfC w0 (.slice a1 n1 c1) w2 w3 w4 w5 vl2 cap q m d),.own (.slice q m d) 46 6 ((mskS ls irq x.On).1.map enc)]) (ovr [157,149] (putO g (some 149) (.tuple #[t,.int .i64 (mskS ls irq x.On).2.2])) noFr))))) w:=hw6
    exact hw7.perm perm6
   refine mS (c:=1) (v:=undef) (F:=(exC (T:=Value) (fun t g=>g 149=.tuple #[t,.int .i64 (mskS ls irq x.On).2.2]) fun _=>[])) (exC (T:=Value) (fun t g=>g 149=.tuple #[t,.int .i64 (mskS ls irq x.On).2.2]∧g 158=t) fun _=>[]) (fun g w Y hw=>?_) ?_
   ·obtain⟨t,ht,hw1⟩:=exC_open hw
    have ht:g 149=.tuple #[t,.int .i64 (mskS ls irq x.On).2.2]:=ht
    refine Yields.step (y_extract (v:=t) ht rfl) ⟨fun h=>(by cases h),?_⟩
    exact exC_mk (T:=Value) (φ:=fun t g=>g 149=.tuple #[t,.int .i64 (mskS ls irq x.On).2.2]∧g 158=t) (R:=fun _=>[]) t ⟨ht,rfl⟩ hw1
   refine mC (v:=.int .i64 (mskS ls irq x.On).2.2) (fun Y w g hw=>?_) rfl rfl rfl ?_
   ·have hw1:Wd Γ ((.own vt 62 3 ((mskS ls irq x.On).2.1.map enc)::.blk b (hoC v0 v1 v2 v3 v4 v5 cap vl bm)::linesR bm (mskS ls irq x.On).1::.blk bh (.cells #[w0,.slice a1 n1 c1,w2,w3,w4,w5,.pointer (some ⟨b,0,none⟩),.pointer (some ⟨r,0,none⟩)] 42)::.blk bx (.cells (enc x).toArray 25)::S)++((((exC (T:=Value) (fun t g=>g 149=.tuple #[t,.int .i64 (mskS ls irq x.On).2.2]) fun _=>[]) (ovr [149] g noFr))++[])++Y)) w:=hw
    obtain⟨t,ht,-⟩:=exC_open (hw1.perm perm1)
    exact Yields.step (y_extract (v:=.int .i64 (mskS ls irq x.On).2.2) ht rfl) ⟨rfl,hw⟩
   refine mS (c:=1) (v:=undef) (F:=(exC (T:=Value) (fun t g=>g 149=.tuple #[t,.int .i64 (mskS ls irq x.On).2.2]∧g 158=t) fun _=>[])) (exC (T:=Value) (fun t g=>g 149=.tuple #[t,.int .i64 (mskS ls irq x.On).2.2]∧g 11=t) fun _=>[]) (fun g w Y hw=>?_) ?_
   ·obtain⟨t,⟨ht,ht2⟩,hw1⟩:=exC_open hw
    have ht:g 149=.tuple #[t,.int .i64 (mskS ls irq x.On).2.2]:=ht
    have ht2:g 158=t:=ht2
    refine Yields.step (y_assign (v:=t) ht2) ⟨fun h=>(by cases h),?_⟩
    exact exC_mk (T:=Value) (φ:=fun t g=>g 149=.tuple #[t,.int .i64 (mskS ls irq x.On).2.2]∧g 11=t) (R:=fun _=>[]) t ⟨ht,rfl⟩ hw1
   refine byM ?_;refine mEnd fun w g hw=>?_
   have hw1:Wd Γ ((.own vt 62 3 ((mskS ls irq x.On).2.1.map enc)::.blk b (hoC v0 v1 v2 v3 v4 v5 cap vl bm)::linesR bm (mskS ls irq x.On).1::.blk bh (.cells #[w0,.slice a1 n1 c1,w2,w3,w4,w5,.pointer (some ⟨b,0,none⟩),.pointer (some ⟨r,0,none⟩)] 42)::.blk bx (.cells (enc x).toArray 25)::S)++((((exC (T:=Value) (fun t g=>g 149=.tuple #[t,.int .i64 (mskS ls irq x.On).2.2]) fun t=>[.own t 62 3 ((mskS ls irq x.On).2.1.map enc),.blk r (rfC w0 (.slice a1 n1 c1) w2 w3 w4 w5 vl2 cap q m d),.own (.slice q m d) 46 6 ((mskS ls irq x.On).1.map enc)]) (ovr [157,149] g noFr))++(((exC (T:=Value) (fun t g=>g 149=.tuple #[t,.int .i64 (mskS ls irq x.On).2.2]∧g 11=t) fun _=>[]) (ovr [149,158,11] g noFr))++(((exC (T:=Value) (fun t g=>g 149=.tuple #[t,.int .i64 (mskS ls irq x.On).2.2]) fun _=>[]) (ovr [149] g noFr))++[])))++[])) w:=by rw[List.append_nil];exact hw
   obtain⟨t,ht,hw2⟩:=exC_open (hw1.perm perm3.symm)
   have ht:g 149=.tuple #[t,.int .i64 (mskS ls irq x.On).2.2]:=ht
   have hw3:Wd Γ (((exC (T:=Value) (fun t g=>g 149=.tuple #[t,.int .i64 (mskS ls irq x.On).2.2]∧g 11=t) fun _=>[]) (ovr [149,158,11] g noFr))++(((exC (T:=Value) (fun t g=>g 149=.tuple #[t,.int .i64 (mskS ls irq x.On).2.2]) fun _=>[]) (ovr [149] g noFr))++(((.own vt 62 3 ((mskS ls irq x.On).2.1.map enc)::.blk b (hoC v0 v1 v2 v3 v4 v5 cap vl bm)::linesR bm (mskS ls irq x.On).1::.blk bh (.cells #[w0,.slice a1 n1 c1,w2,w3,w4,w5,.pointer (some ⟨b,0,none⟩),.pointer (some ⟨r,0,none⟩)] 42)::.blk bx (.cells (enc x).toArray 25)::S)++[])++[.own t 62 3 ((mskS ls irq x.On).2.1.map enc),.blk r (rfC w0 (.slice a1 n1 c1) w2 w3 w4 w5 vl2 cap q m d),.own (.slice q m d) 46 6 ((mskS ls irq x.On).1.map enc)]))) w:=hw2.perm perm4
   obtain⟨t2,⟨ht2,ht3⟩,hw4⟩:=exC_open hw3
   have ht2:g 149=.tuple #[t2,.int .i64 (mskS ls irq x.On).2.2]:=ht2
   have ht3:g 11=t2:=ht3
   obtain rfl:t2=t:=by
    have:=ht2.symm.trans ht
    simp at this
    exact this
   rw[List.nil_append]at hw4;obtain⟨-,-,hw5⟩:=exC_open hw4
   clear hw hw1 hw2 hw3 hw4;rw[List.append_nil,List.nil_append]at hw5;have hw:Wd Γ ([.own t2 62 3 ((mskS ls irq x.On).2.1.map enc),.blk r (rfC w0 (.slice a1 n1 c1) w2 w3 w4 w5 vl2 cap q m d),.own (.slice q m d) 46 6 ((mskS ls irq x.On).1.map enc)]++(.own vt 62 3 ((mskS ls irq x.On).2.1.map enc)::.blk b (hoC v0 v1 v2 v3 v4 v5 cap vl bm)::linesR bm (mskS ls irq x.On).1::.blk bh (.cells #[w0,.slice a1 n1 c1,w2,w3,w4,w5,.pointer (some ⟨b,0,none⟩),.pointer (some ⟨r,0,none⟩)] 42)::.blk bx (.cells (enc x).toArray 25)::S)) w:=hw5.perm List.perm_append_comm
   clear hw5;have hw:Wd Γ (.own t2 62 3 ((mskS ls irq x.On).2.1.map enc)::.blk r (rfC w0 (.slice a1 n1 c1) w2 w3 w4 w5 vl2 cap q m d)::.own (.slice q m d) 46 6 ((mskS ls irq x.On).1.map enc)::.own vt 62 3 ((mskS ls irq x.On).2.1.map enc)::.blk b (hoC v0 v1 v2 v3 v4 v5 cap vl bm)::linesR bm (mskS ls irq x.On).1::.blk bh (.cells #[w0,.slice a1 n1 c1,w2,w3,w4,w5,.pointer (some ⟨b,0,none⟩),.pointer (some ⟨r,0,none⟩)] 42)::.blk bx (.cells (enc x).toArray 25)::S) w:=hw
   exact⟨Γ,vl,vl2,vt,t2,.refl _,⟨rfl,ht3,by rw[e1];rfl,by rw[e1];rfl,trivial⟩,by rw[e1];exact hl,by rw[e1];exact hl2,by rw[e1];exact hw.ps [5,5,5,3]⟩
  have k3:¬x.Kind%8=3:=of_decide_eq_false h
  clear h;refine byG ?_;refine W_cond rfl (fun h=>?_) (fun h=>?_)
  ·have h:x.Kind%8=4:=of_decide_eq_true h
   have e1:(stepS H cap L ls (x.Kind%8) irq core drv x.On)=(L,attS ls irq drv):=by unfold stepS;rw[if_neg k0,if_neg k2,if_neg k3,if_pos h]
   refine byG ?_;refine lCall ((Attach_R hN irq drv hw).mono fun e w hq=>?_)
   clear hw;obtain⟨va,rfl,hw⟩:=hq;refine⟨_,rfl,?_⟩;refine byG ?_;refine lCall ((rAttach_any hA hRg hN irq drv (hw.ps [4,4])).mono fun e w hq=>?_)
   clear hw;obtain⟨vb,rfl,hw⟩:=hq;refine⟨_,rfl,?_⟩;refine byG ?_;exact⟨Γ,vl,vl2,va,vb,.refl _,⟨rfl,rfl,by rw[e1];rfl,by rw[e1];rfl,trivial⟩,by rw[e1];exact hl,by rw[e1];exact hl2,by rw[e1];exact hw.ps [2,2,5,5,5,5]⟩
  have k4:¬x.Kind%8=4:=of_decide_eq_false h
  clear h;refine byG ?_;refine W_cond rfl (fun h=>?_) (fun h=>?_)
  ·have h:x.Kind%8=5:=of_decide_eq_true h
   have e1:(stepS H cap L ls (x.Kind%8) irq core drv x.On)=(L,detS ls irq):=by unfold stepS;rw[if_neg k0,if_neg k2,if_neg k3,if_neg k4,if_pos h]
   have e2:(detS ls irq).2.1=[]:=by
    unfold detS;split
    ·rfl
    ·split <;> rfl
   have hw:Wd Γ (([.blk bh (.cells #[w0,.slice a1 n1 c1,w2,w3,w4,w5,.pointer (some ⟨b,0,none⟩),.pointer (some ⟨r,0,none⟩)] 42)]:List Res)++(.blk b (hoC v0 v1 v2 v3 v4 v5 cap vl bm)::linesR bm ls::.blk r (rfC w0 (.slice a1 n1 c1) w2 w3 w4 w5 vl2 cap q m d)::.own (.slice q m d) 46 6 (ls.map enc)::.blk bx (.cells (enc x).toArray 25)::S)) w:=hw.ps [4]
   refine byG ?_;refine W_mixC [.blk bh (.cells #[w0,.slice a1 n1 c1,w2,w3,w4,w5,.pointer (some ⟨b,0,none⟩),.pointer (some ⟨r,0,none⟩)] 42)] (.blk b (hoC v0 v1 v2 v3 v4 v5 cap vl bm)::linesR bm ls::.blk r (rfC w0 (.slice a1 n1 c1) w2 w3 w4 w5 vl2 cap q m d)::.own (.slice q m d) 46 6 (ls.map enc)::.blk bx (.cells (enc x).toArray 25)::S) [] [[],[],[],[],[],[0],[],[],[],[],[],[0],[],[]] hw ?_
   refine byM ?_;refine mCallX (T':=Unit) (v:=.int .i64 (detS ls irq).2.2) (fun _ _=>True) (fun _=>.blk b (hoC v0 v1 v2 v3 v4 v5 cap vl bm)::linesR bm (detS ls irq).1::.blk r (rfC w0 (.slice a1 n1 c1) w2 w3 w4 w5 vl2 cap q m d)::.own (.slice q m d) 46 6 (ls.map enc)::.blk bx (.cells (enc x).toArray 25)::S) (fun _ _=>_) (fun t g w Y _ hw=>?_) ?_
   ·refine(Detach_R irq hw).mono ?_
    rintro e w ⟨rfl,hw⟩
    exact⟨_,rfl,(),trivial,fun _=>rfl,hw⟩
   refine byM ?_;refine mCallX (φ:=fun (_:Unit) _=>True) (T':=Unit) (v:=.int .i64 (detS ls irq).2.2) (fun _ _=>True) (fun _=>.blk b (hoC v0 v1 v2 v3 v4 v5 cap vl bm)::linesR bm (detS ls irq).1::.blk r (rfC w0 (.slice a1 n1 c1) w2 w3 w4 w5 vl2 cap q m d)::.own (.slice q m d) 46 6 ((detS ls irq).1.map enc)::.blk bx (.cells (enc x).toArray 25)::S) (fun _ _=>_) (fun t g w Y _ hw=>?_) ?_
   ·refine(rDetach_any hA hRg hN irq (hw.ps [3,3])).mono ?_
    rintro e w ⟨rfl,hw⟩
    exact⟨_,rfl,(),trivial,fun _=>rfl,hw.ps [3,3]⟩
   refine byM ?_;refine mEndX (φ:=fun (_:Unit) _=>True) fun t w g _ hw=>?_
   have hw:Wd Γ ((.blk b (hoC v0 v1 v2 v3 v4 v5 cap vl bm)::linesR bm (detS ls irq).1::.blk r (rfC w0 (.slice a1 n1 c1) w2 w3 w4 w5 vl2 cap q m d)::.own (.slice q m d) 46 6 ((detS ls irq).1.map enc)::.blk bx (.cells (enc x).toArray 25)::S)++([.blk bh (.cells #[w0,.slice a1 n1 c1,w2,w3,w4,w5,.pointer (some ⟨b,0,none⟩),.pointer (some ⟨r,0,none⟩)] 42)]:List Res)) w:=hw
   have hw:Wd Γ (.blk bh (.cells #[w0,.slice a1 n1 c1,w2,w3,w4,w5,.pointer (some ⟨b,0,none⟩),.pointer (some ⟨r,0,none⟩)] 42)::.blk b (hoC v0 v1 v2 v3 v4 v5 cap vl bm)::linesR bm (detS ls irq).1::.blk r (rfC w0 (.slice a1 n1 c1) w2 w3 w4 w5 vl2 cap q m d)::.own (.slice q m d) 46 6 ((detS ls irq).1.map enc)::.blk bx (.cells (enc x).toArray 25)::S) w:=hw.perm List.perm_append_comm
   have hw:=Wd.addNil (a:=none) (E:=62) (sz:=3) (Wd.addNil (a:=none) (E:=62) (sz:=3) hw)
   refine byG ?_;exact⟨Γ,vl,vl2,.slice none 0 0,.slice none 0 0,.refl _,⟨rfl,rfl,by rw[e1];rfl,by rw[e1];rfl,trivial⟩,by rw[e1];exact hl,by rw[e1];exact hl2,by rw[e1];show Wd Γ (.own _ _ _ ((detS ls irq).2.1.map enc)::.own _ _ _ ((detS ls irq).2.1.map enc)::_) w;rw[e2];exact hw.ps [6,6,6,6,5,5]⟩
  have k5:¬x.Kind%8=5:=of_decide_eq_false h
  clear h;refine byG ?_;refine W_cond rfl (fun h=>?_) (fun h=>?_)
  ·have h:x.Kind%8=6:=of_decide_eq_true h
   have e1:(stepS H cap L ls (x.Kind%8) irq core drv x.On)=(joinS H cap L ls core):=by unfold stepS;rw[if_neg k0,if_neg k2,if_neg k3,if_neg k4,if_neg k5,if_pos h]
   have e2:(joinS H cap L ls core).2.2.1=[]:=by
    unfold joinS;split
    ·rfl
    ·split <;> rfl
   have hw:Wd Γ (([.blk bh (.cells #[w0,.slice a1 n1 c1,w2,w3,w4,w5,.pointer (some ⟨b,0,none⟩),.pointer (some ⟨r,0,none⟩)] 42)]:List Res)++(.blk b (hoC v0 v1 v2 v3 v4 v5 cap vl bm)::linesR bm ls::.blk r (rfC w0 (.slice a1 n1 c1) w2 w3 w4 w5 vl2 cap q m d)::.own (.slice q m d) 46 6 (ls.map enc)::.blk bx (.cells (enc x).toArray 25)::S)) w:=hw.ps [4]
   refine byG ?_;refine W_mixCg [.blk bh (.cells #[w0,.slice a1 n1 c1,w2,w3,w4,w5,.pointer (some ⟨b,0,none⟩),.pointer (some ⟨r,0,none⟩)] 42)] (.blk b (hoC v0 v1 v2 v3 v4 v5 cap vl bm)::linesR bm ls::.blk r (rfC w0 (.slice a1 n1 c1) w2 w3 w4 w5 vl2 cap q m d)::.own (.slice q m d) 46 6 (ls.map enc)::.blk bx (.cells (enc x).toArray 25)::S) [] [[],[],[],[],[],[0],[],[],[],[],[],[0],[],[]] hw ?_
   repeat refine gY ?_
   refine gCallX (T':=Value) (v:=.int .i64 (joinS H cap L ls core).2.2.2) (fun _ _=>True) (fun t=>.blk b (hoC v0 v1 v2 v3 v4 v5 cap t bm)::linesR bm (joinS H cap L ls core).2.1::.blk r (rfC w0 (.slice a1 n1 c1) w2 w3 w4 w5 vl2 cap q m d)::.own (.slice q m d) 46 6 (ls.map enc)::.blk bx (.cells (enc x).toArray 25)::Res.rep t 1 (intRows (joinS H cap L ls core).1)::S) (fun _ _=>_) (fun Γ' t g w Y hle _ hw=>?_) ?_
   ·refine(Join_R (hh:=hp.mono hle) hd.cap hdv (hl.mono hle) hS core hw).mono ?_
    rintro e w ⟨Γ'',vl',hle2,rfl,h1,hw⟩
    exact⟨_,rfl,Γ'',vl',hle2,trivial,(fun _=>rfl),(Wd.repIn h1 hw).ps [5,5,5,5,5]⟩
   repeat refine gY ?_
   refine gCallX (φ:=fun (_:Value) _=>True) (T':=Value×Value) (v:=.int .i64 (joinS H cap L ls core).2.2.2) (fun _ _=>True) (fun t=>.blk b (hoC v0 v1 v2 v3 v4 v5 cap t.1 bm)::linesR bm (joinS H cap L ls core).2.1::.blk r (rfC w0 (.slice a1 n1 c1) w2 w3 w4 w5 t.2 cap q m d)::.own (.slice q m d) 46 6 ((joinS H cap L ls core).2.1.map enc)::.blk bx (.cells (enc x).toArray 25)::Res.rep t.1 1 (intRows (joinS H cap L ls core).1)::Res.rep t.2 1 (intRows (joinS H cap L ls core).1)::S) (fun _ _=>_) (fun Γ' t g w Y hle _ hw=>?_) ?_
   ·refine(rJoin_any (hh:=hr.mono hle) hd.cap hd.le hdv hN (hl2.mono hle) hS core (hw.ps [3,3])).mono ?_
    rintro e w ⟨Γ'',vl',hle2,rfl,h1,hw⟩
    exact⟨_,rfl,Γ'',(t,vl'),hle2,trivial,(fun _=>rfl),(Wd.repIn h1 hw).ps [6,6,4,4,6,6]⟩
   repeat refine gY ?_
   refine gEndX (φ:=fun (_:Value×Value) _=>True) fun Γ' t w g hle _ hw=>?_
   obtain⟨vl',vl2'⟩:=t;have hw:Wd Γ' (.blk b (hoC v0 v1 v2 v3 v4 v5 cap vl' bm)::linesR bm (joinS H cap L ls core).2.1::.blk r (rfC w0 (.slice a1 n1 c1) w2 w3 w4 w5 vl2' cap q m d)::.own (.slice q m d) 46 6 ((joinS H cap L ls core).2.1.map enc)::.blk bx (.cells (enc x).toArray 25)::Res.rep vl' 1 (intRows (joinS H cap L ls core).1)::Res.rep vl2' 1 (intRows (joinS H cap L ls core).1)::(S++([.blk bh (.cells #[w0,.slice a1 n1 c1,w2,w3,w4,w5,.pointer (some ⟨b,0,none⟩),.pointer (some ⟨r,0,none⟩)] 42)]:List Res))) w:=hw
   have q1:=hw.repOut (i:=5) rfl
   have q2:=hw.repOut (i:=6) rfl
   have hw:Wd Γ' ((.blk b (hoC v0 v1 v2 v3 v4 v5 cap vl' bm)::linesR bm (joinS H cap L ls core).2.1::.blk r (rfC w0 (.slice a1 n1 c1) w2 w3 w4 w5 vl2' cap q m d)::.own (.slice q m d) 46 6 ((joinS H cap L ls core).2.1.map enc)::.blk bx (.cells (enc x).toArray 25)::S)++([.blk bh (.cells #[w0,.slice a1 n1 c1,w2,w3,w4,w5,.pointer (some ⟨b,0,none⟩),.pointer (some ⟨r,0,none⟩)] 42)]:List Res)) w:=hw.ds [5,5]
   have hw:Wd Γ' (.blk bh (.cells #[w0,.slice a1 n1 c1,w2,w3,w4,w5,.pointer (some ⟨b,0,none⟩),.pointer (some ⟨r,0,none⟩)] 42)::.blk b (hoC v0 v1 v2 v3 v4 v5 cap vl' bm)::linesR bm (joinS H cap L ls core).2.1::.blk r (rfC w0 (.slice a1 n1 c1) w2 w3 w4 w5 vl2' cap q m d)::.own (.slice q m d) 46 6 ((joinS H cap L ls core).2.1.map enc)::.blk bx (.cells (enc x).toArray 25)::S) w:=hw.perm List.perm_append_comm
   have hw:=Wd.addNil (a:=none) (E:=62) (sz:=3) (Wd.addNil (a:=none) (E:=62) (sz:=3) hw)
   refine byG ?_;exact⟨Γ',vl',vl2',.slice none 0 0,.slice none 0 0,hle,⟨rfl,rfl,by rw[e1];rfl,by rw[e1];rfl,trivial⟩,by rw[e1];exact q1,by rw[e1];exact q2,by rw[e1];show Wd Γ' (.own _ _ _ ((joinS H cap L ls core).2.2.1.map enc)::.own _ _ _ ((joinS H cap L ls core).2.2.1.map enc)::_) w;rw[e2];exact hw.ps [6,6,6,6,5,5]⟩
  have k6:¬x.Kind%8=6:=of_decide_eq_false h
  clear h;have e1:(stepS H cap L ls (x.Kind%8) irq core drv x.On)=depS H cap L ls core:=by unfold stepS;rw[if_neg k0,if_neg k2,if_neg k3,if_neg k4,if_neg k5,if_neg k6]
  refine byG ?_;refine lCall ((Depart_R (hh:=hp) hd.cap hdv hl hS core hw).mono fun e w hq=>?_)
  clear hw;obtain⟨Γ1,va,vl',hle1,rfl,q1,hw⟩:=hq;refine⟨_,rfl,?_⟩;refine byG ?_;refine lCall ((rDepart_any (hh:=hr.mono hle1) hd.cap hd.le hdv hN (hl2.mono hle1) hS core (hw.ps [4,4])).mono fun e w hq=>?_)
  clear hw;obtain⟨Γ2,vb,vl2',hle2,rfl,q2,hw⟩:=hq;refine⟨_,rfl,?_⟩;refine byG ?_;exact⟨Γ2,vl',vl2',va,vb,hle1.trans hle2,⟨rfl,rfl,by rw[e1];rfl,by rw[e1];rfl,trivial⟩,by rw[e1];exact q1.mono hle2,by rw[e1];exact q2,by rw[e1];exact hw.ps [2,2,5,5,5,5]⟩
 clear hw;rintro ρ w ⟨Γ',vl',vl2',va,vb,hle,hρ,q1,q2,hw⟩
 generalize (stepS H cap L ls (x.Kind%8) irq core drv x.On)=t at *
 rw[hρ.eq];clear hρ;have hw1:=hw
 clear hw;obtain⟨Γ1,hle1,s1,hw2⟩:=hw1.freeze;clear hw1;obtain⟨Γ2,hle2,s2,hw⟩:=hw2.freeze;clear hw2;have p1:=sameNote_pg s2 (s1.mono hle2)
 refine byG ?_;refine lPg (hp:=p1) ?_
 intro w hw;repeat(first|(first|refine W_seq ?_|refine W_block ?_|refine W_region ?_|refine W_skip ?_|refine W_ret ?_|refine W_exit ?_)|((first|apply L_bin|apply L_notop);first|(refine lT ?_ ?_;(first|exact rfl|exact decide_eq_true rfl|(simp;done)))|(refine lF ?_ ?_;(first|exact rfl|exact decide_eq_true rfl|(simp;done))))|(first|refine L_nil ?_|(apply L_plain;first|(apply L_go;first|refine lP ?_|(refine lPg ?_;intro w hw))|(apply L_mf;refine lMakeFunc ?_)|refine lY ?_)|(apply L_guarded;first|refine lGT ?_ (hct:=rfl)|refine lGF ?_ (hct:=rfl)|(apply L_go;first|refine lPG ?_|(refine lPgG ?_;intro w hw))|refine lG ?_))|(refine lAlloc ?_;intro _ w hw)|(refine lBox ?_;intro _ w hw)|(refine lStore ?_;intro w hw))
 exact⟨_,rfl,Γ2,vl',vl2',hle.trans (hle1.trans hle2),ret_b rfl (by simp),q1.mono (hle1.trans hle2),q2.mono (hle1.trans hle2),hw.ds [5]⟩
end
def awD:HwT:=⟨⟨#[109]⟩,[⟨3,32,0,1⟩],[],[],[],[⟨⟨#[100,105,115,107]⟩,0,9,1048576,4096⟩]⟩
theorem awD_valid:validS awD=0:=by
 have h1:namesB awD=true:=by decide +kernel
 have h2:countsB awD=true:=by decide +kernel
 have h3:(coresRB awD&&regionsRB awD)=true:=by decide +kernel
 have h4:alignRB awD=true:=by decide +kernel
 have h5:uniqueB awD=true:=by decide +kernel
 have h6:knownB awD=true:=by decide +kernel
 have h7:hierB awD=true:=decP_t ⟨fun c hc=>(by cases hc),fun i k a b ha=>(by cases ha)⟩
 have h8:disjB awD=true:=decP_t fun i k a b hik ha=>by
  have hl:(regs awD).length=1:=by decide
  have:=(List.getElem?_eq_some_iff.1 ha).1
  omega
 have h9:connB awD=true:=decP_t fun n hn=>by
  have:n=0:=by simpa[awD,usedN] using hn
  subst this;exact .refl
 simp[validS,h1,h2,h3,h4,h5,h6,h7,h8,h9]
theorem awD_sz:HwSz awD:=by unfold HwSz maxS;decide
theorem awD_len:HwLen awD:=by constructor <;> decide
theorem awD_cap:CapOk awD 1:=⟨awD_valid,by decide,by decide,by decide⟩
theorem awD_rt:∃tot,IntPost awD [3] 1 [(9,3)] tot 0:=by
 obtain⟨rs,tot,hp⟩:=rt_ok awD_cap (L:=[3]) (by decide) (fun c hc=>by
  have:c=3:=by simpa using hc
  subst this;decide) (by decide)
 obtain⟨h1,h2⟩:=rt_facts hp
 have hi:irqL awD=[9]:=by
  unfold irqL;rw[devs_norm awD_valid (.refl _) (by decide)]
  rfl
 rw[hi]at h1;match rs,h1,h2 with
 | [(x,y)],h1,h2=>
  have hx:x=9:=by simpa using h1
  have hy:y=3:=by simpa using h2 (x,y) (by simp)
  subst hx hy;exact⟨tot,hp⟩
def aw0:IntrT:=⟨9,3,-1,-1,false,false⟩
def aw1:IntrT:=⟨9,3,-1,-1,false,true⟩
def aw2:IntrT:=⟨9,3,5,3,false,false⟩
def aw3:IntrT:=⟨9,3,5,3,false,true⟩
def aw4:IntrT:=⟨9,3,5,3,false,false⟩
theorem aw_e1:rseS [aw0] 9=([aw1],[],0):=by decide
theorem aw_e2:attS [aw1] 9 5=([aw2],[⟨9,3,5⟩],0):=by decide
theorem aw_e3:rseS [aw2] 9=([aw3],[],0):=by decide
theorem aw_e4:ackS [aw3] 9 3=([aw4],[⟨9,3,5⟩],0):=by decide
theorem awk_drv{Γ:Gho}{w:World}(hw:Wd Γ [] w):Calls Tryz.prog 8 #[] w fun e w'=>∃Γ',Γ.le Γ'∧e=.returned (.bool true)∧Wd Γ' [] w':=by
 obtain⟨tot,hip⟩:=awD_rt;refine calls_of_W Tryz.func8 rfl rfl ?_
 refine byG ?_;refine lBuildSlice (awD.Cores.map enc) ?_
 intro a1 w hw;refine byG ?_;refine lBuildSlice (awD.Devs.map enc) ?_
 intro a4 w hw;have hw:Wd Γ (.own (.slice (some a4) 1 1) 72 5 (awD.Devs.map enc)::.own (.slice (some a1) 1 1) 69 4 (awD.Cores.map enc)::[]) w:=hw
 obtain⟨Γ1,e1,r4,hw1⟩:=hw.freeze;clear hw;obtain⟨Γ2,e2,r1,hw⟩:=hw1.freeze;clear hw1;have hR:HwR Γ2 (.agg #[.string awD.Name,.slice (some a1) 1 1,.slice none 0 0,.slice none 0 0,.slice none 0 0,.slice (some a4) 1 1]) awD:=
  ⟨_,_,_,_,_,_,_,_,_,_,_,_,_,_,_,[],rfl,rfl,(by simp),awD_sz,r1,.nil,.nil,.nil,r4.mono e2⟩
 refine byG ?_;refine lAlloc ?_;intro b1 w hw;refine lStore ?_;intro w hw;have hw:Wd Γ2 (.blk b1 (.cells #[.string awD.Name,.slice (some a1) 1 1,.slice none 0 0,.slice none 0 0,.slice none 0 0,.slice (some a4) 1 1] 38)::[]) w:=hw
 refine byG ?_;refine lBuildSlice (intRows [3]) ?_
 intro a14 w hw;obtain⟨Γ3,e3,r14,hw1⟩:=hw.freeze;clear hw;have hw:=hw1;clear hw1;have hR3:=hR.mono e3
 refine byG ?_;refine lCall ((New_any (hh:=hR3) awD_len (by decide) r14 awD_valid (by decide) hip hw).mono fun e w hq=>?_)
 obtain⟨Γ4,b,bm,v0,v1,v2,v3,v4,v5,vl,pl,e4,rfl,hR4,-,h1,h2,hw⟩:=hq;refine⟨_,rfl,?_⟩;have hw:=lines_close h1 h2 hw
 have hw:Wd Γ4 (.blk b (hoC v0 v1 v2 v3 v4 v5 1 vl bm)::linesR bm [aw0]::.blk b1 (.cells #[.string awD.Name,.slice (some a1) 1 1,.slice none 0 0,.slice none 0 0,.slice none 0 0,.slice (some a4) 1 1] 38)::[]) w:=hw
 refine byG ?_;refine W_cond rfl (fun h=>?_) (fun h=>?_)
 ·exact absurd h (by simp)
 clear h;refine byG ?_;refine lCall ((Raise_R (by decide) 9 hw).mono fun e w hq=>?_)
 clear hw;unfold HoAns at hq;rw[aw_e1]at hq;obtain⟨va,rfl,hw⟩:=hq;refine⟨_,rfl,?_⟩;obtain⟨aa,na,ca,rfl,hna,-,-⟩:=hw.own_shape (i:=0) rfl
 have hna:na=0:=by simpa using hna
 subst hna;have hw:=hw.drop
 refine byG ?_;refine lCall ((Attach_R (by decide) 9 5 hw).mono fun e w hq=>?_)
 clear hw;unfold HoAns at hq;rw[aw_e2]at hq;obtain⟨vb,rfl,hw⟩:=hq;refine⟨_,rfl,?_⟩;obtain⟨ab,nb,cb,rfl,hnb,-,-⟩:=hw.own_shape (i:=0) rfl
 have hnb:nb=1:=by simpa using hnb
 subst hnb;obtain⟨Γ5,e5,rb,hw1⟩:=hw.freeze;clear hw;have hw:=hw1;clear hw1;refine byG ?_;refine lCall ((Raise_R (by decide) 9 hw).mono fun e w hq=>?_)
 clear hw;unfold HoAns at hq;rw[aw_e3]at hq;obtain⟨vc,rfl,hw⟩:=hq;refine⟨_,rfl,?_⟩;obtain⟨ac,nc,cc,rfl,hnc,-,-⟩:=hw.own_shape (i:=0) rfl
 have hnc:nc=0:=by simpa using hnc
 subst hnc;have hw:=hw.drop
 refine byG ?_;refine lCall ((Ack_R (by decide) 9 3 hw).mono fun e w hq=>?_)
 clear hw;unfold HoAns at hq;rw[aw_e4]at hq;obtain⟨vd,rfl,hw⟩:=hq;refine⟨_,rfl,?_⟩;obtain⟨ad,nd,cd,rfl,hnd,-,-⟩:=hw.own_shape (i:=0) rfl
 have hnd:nd=1:=by simpa using hnd
 subst hnd;have hw:=hw.drop
 repeat(first|(first|refine W_seq ?_|refine W_block ?_|refine W_region ?_|refine W_skip ?_|refine W_ret ?_|refine W_exit ?_)|((first|apply L_bin|apply L_notop);first|(refine lT ?_ ?_;(first|exact rfl|exact decide_eq_true rfl|(simp;done)))|(refine lF ?_ ?_;(first|exact rfl|exact decide_eq_true rfl|(simp;done))))|(first|refine L_nil ?_|(apply L_plain;first|(apply L_go;first|refine lP ?_|(refine lPg ?_;intro w hw))|(apply L_mf;refine lMakeFunc ?_)|refine lY ?_)|(apply L_guarded;first|refine lGT ?_|refine lGF ?_|(apply L_go;first|refine lPG ?_|(refine lPgG ?_;intro w hw))|refine lG ?_))|(refine lAlloc ?_;intro _ w hw)|(refine lBox ?_;intro _ w hw)|(refine lStore ?_;intro w hw))
 refine lY (v:=.agg (enc (⟨9,3,5⟩:NoteT)).toArray) ?_ (hy:=y_loadE rfl (rb.rd hw) rfl)
 refine lGT ?_;refine lY (v:=.agg (enc (⟨9,3,5⟩:NoteT)).toArray) ?_ (hy:=y_build rfl)
 repeat(first|(first|refine W_seq ?_|refine W_block ?_|refine W_region ?_|refine W_skip ?_|refine W_ret ?_|refine W_exit ?_)|((first|apply L_bin|apply L_notop);first|(refine lT ?_ ?_;(first|exact rfl|exact decide_eq_true rfl|(simp;done)))|(refine lF ?_ ?_;(first|exact rfl|exact decide_eq_true rfl|(simp;done))))|(first|refine L_nil ?_|(apply L_plain;first|(apply L_go;first|refine lP ?_|(refine lPg ?_;intro w hw))|(apply L_mf;refine lMakeFunc ?_)|refine lY ?_)|(apply L_guarded;first|refine lGT ?_|refine lGF ?_|(apply L_go;first|refine lPG ?_|(refine lPgG ?_;intro w hw))|refine lG ?_))|(refine lAlloc ?_;intro _ w hw)|(refine lBox ?_;intro _ w hw)|(refine lStore ?_;intro w hw))
 exact⟨_,rfl,Γ5,e1.trans (e2.trans (e3.trans (e4.trans e5))),rfl,hw.ds [0,0,0]⟩
instance pg_awkD{Γ:Gho}:PG Tryz.prog Γ 8 [] (.bool true):=⟨fun S w hw=>
 (awk_drv (allG_wd w)).mono fun e w' ⟨Γ',hle,he,hw'⟩=>⟨he,wd_kept hw (wd_less hle hw')⟩⟩
theorem sameInts_pg{Γ:Gho}{v v2:Value}{xs:List Int}(h1:RepS Γ v 1 (intRows xs))(h2:RepS Γ v2 1 (intRows xs)):PG Tryz.prog Γ 21 [v,v2] (.bool true):=by
 have h:=pg_SameInts (hr:=⟨h1⟩) (hr2:=⟨h2⟩)
 simpa using h
section
variable {Γ:Gho}{S:List Res}{w:World}{bh b bm r:Nat}{v0 v1 v2 v3 v4 v5 w0 w2 w3 w4 w5 vl vl2:Value}{a1:Option Addr}{n1 c1:Nat}{cap:Int}{q:Option Addr}{m d:Nat}{ls:List IntrT}{H:HwT}{L:List Int}
end
def OpenP(Γ:Gho)(S:List Res)(w:World)(bh:Nat)(H:HwT)(cap:Int)(L:List Int)(ls:List IntrT):Prop:=
 ∃(b bm r:Nat) (v0 v1 v2 v3 v4 v5 w0 w2 w3 w4 w5 vl vl2:Value) (a1:Option Addr) (n1 c1:Nat) (q:Option Addr) (m d:Nat),HwR Γ (Value.agg #[v0,v1,v2,v3,v4,v5]) H∧HwR Γ (Value.agg #[w0,.slice a1 n1 c1,w2,w3,w4,w5]) H∧RepS Γ vl 1 (intRows L)∧RepS Γ vl2 1 (intRows L)∧Wd Γ (.blk b (hoC v0 v1 v2 v3 v4 v5 cap vl bm)::linesR bm ls::.blk r (rfC w0 (.slice a1 n1 c1) w2 w3 w4 w5 vl2 cap q m d)::.own (.slice q m d) 46 6 (ls.map enc)::.blk bh (.cells #[w0,.slice a1 n1 c1,w2,w3,w4,w5,.pointer (some ⟨b,0,none⟩),.pointer (some ⟨r,0,none⟩)] 42)::S) w
section
variable {Γ:Gho}{S:List Res}{w:World}{bh:Nat}{cap:Int}{ls:List IntrT}{H:HwT}{L:List Int}
theorem do_O(hd:HwD H cap)(hS:DSt H cap L ls)(x:StepT)(hw:OpenP Γ S w bh H cap L ls) :
  Calls Tryz.prog 10 #[.pointer (some ⟨bh,0,none⟩),.agg (enc x).toArray] w fun e w'=>∃Γ':Gho,Γ.le Γ'∧e=.returned (.bool true)∧OpenP Γ' S w' bh H cap (doS H cap L ls x).1 (doS H cap L ls x).2:=by
 obtain⟨b,bm,r,v0,v1,v2,v3,v4,v5,w0,w2,w3,w4,w5,vl,vl2,a1,n1,c1,q,m,d,p1,p2,p3,p4,h⟩:=hw;refine(do_any hd p1 p2 p3 p4 hS x h).mono ?_
 rintro e w' ⟨Γ',vl',vl2',hle,he,s3,s4,h2⟩
 exact⟨Γ',hle,he,b,bm,r,v0,v1,v2,v3,v4,v5,w0,w2,w3,w4,w5,vl',vl2',a1,n1,c1,q,m,d,p1.mono hle,p2.mono hle,s3,s4,h2⟩
end
theorem gen_hwd{H:HwT}{nodes sh first irq k:Int}(g:Gen H nodes sh first irq):HwD H ((if (1:Int)<(H.Devs.length:Int) then (H.Devs.length:Int) else 1)+k%3):=by
 have h1:=g.nc
 have h2:=g.nd'
 have h3:=Int.emod_lt_of_pos k (show (0:Int)<3 by omega)
 have h4:=Int.emod_nonneg k (show (3:Int)≠0 by omega)
 exact⟨⟨gen_valid g,by split <;> omega,by split <;> omega,by split <;> omega⟩,gen_le g,gen_wide g,⟨by have:=(gen_le g).c;omega,by have:=(gen_le g).h;omega,by have:=(gen_le g).l;omega,by have:=(gen_le g).m;omega,by have:=(gen_le g).d;omega,fun x hx=>by have:=(gen_le g).k x hx;omega⟩,by omega,h1.1,by omega⟩
def OpenAns(Γ:Gho)(S:List Res)(k:Int)(e:Ending)(w':World):Prop:=
 ∃(Γ':Gho) (H:HwT) (bh:Nat) (L:List Int) (ls:List IntrT),Γ.le Γ'∧e=.returned (.tuple #[.pointer (some ⟨bh,0,none⟩),.bool true])∧HwD H ((if (1:Int)<(H.Devs.length:Int) then (H.Devs.length:Int) else 1)+k%3)∧DSt H ((if (1:Int)<(H.Devs.length:Int) then (H.Devs.length:Int) else 1)+k%3) L ls∧OpenP Γ' S w' bh H ((if (1:Int)<(H.Devs.length:Int) then (H.Devs.length:Int) else 1)+k%3) L ls
def OpenNew(Γ:Gho)(S:List Res)(k:Int)(e:Ending)(w':World):Prop:=
 ∃(Γ':Gho) (H:HwT) (bh:Nat) (L:List Int) (ls:List IntrT),Γ.le Γ'∧e=.returned (.tuple #[.pointer (some ⟨bh,0,none⟩),.bool true])∧HwD H ((if (1:Int)<(H.Devs.length:Int) then (H.Devs.length:Int) else 1)+k%3)∧DSt H ((if (1:Int)<(H.Devs.length:Int) then (H.Devs.length:Int) else 1)+k%3) L ls∧OpenP Γ' S w' bh H ((if (1:Int)<(H.Devs.length:Int) then (H.Devs.length:Int) else 1)+k%3) L ls∧∀x∈ls,x.Pending=false
theorem open_new{Γ:Gho}{S:List Res}{w:World}{a ap:Option Addr}{m c np cp:Nat}{L PK:List Int}(hr:RepS Γ (.slice a m c) 1 (intRows L))(hp:RepS Γ (.slice ap np cp) 1 (intRows PK))(hnp:np≤6)(k:Int)(hw:Wd Γ S w) :
  Calls Tryz.prog 9 #[.slice a m c,.slice ap np cp,.int .i64 k] w fun e w'=>OpenNew Γ S k e w':=by
 obtain⟨hnp',hncp,hccp⟩:=rep_facts hp
 have hnp':np=PK.length:=by simpa[intRows] using hnp'
 refine calls_of_W Tryz.func9 rfl rfl ?_
 repeat first|refine byW ?_|refine byV ?_;intro w hw
 refine lCall ((Hardware_any hr hw).mono fun r w hq=>?_)
 clear hw;obtain⟨Γ1,H,u,nodes,sh,first,irq,hle1,rfl,hG,ho⟩:=hq;refine⟨_,rfl,?_⟩;have hd:=gen_hwd (k:=k) hG
 have hv:=gen_valid hG
 have hSz:=gen_sz hG
 have hnc:=hG.nc
 have hp1:=hp.mono hle1
 obtain⟨Γ2,hle2,hR,hw⟩:=ho.freeze (gen_sz hG)
 clear ho hr;obtain⟨a1,n1,c1,a2,n2,c2,a3,n3,c3,a4,n4,c4,a5,n5,c5,cs',rfl,hcs,hok,hsz,r1,r2,r3,r4,r5⟩:=hR.h;obtain⟨hn1,hnc1,hcc1⟩:=rep_facts r1
 obtain⟨hn5,hnc5,hcc5⟩:=rep_facts r5
 simp only[List.length_map]at hn1 hn5
 repeat first|refine byW ?_|refine byV ?_;intro w hw
 refine lAlloc ?_;intro b5 w hw;refine lStore ?_;intro w hw;have hw:Wd Γ2 (.blk b5 (hwC H a1 n1 c1 a2 n2 c2 a3 n3 c3 a4 n4 c4 a5 n5 c5)::S) w:=hw
 repeat first|refine byW ?_|refine byV ?_;intro w hw
 refine lCall ((IDs_any (xs:=H.Cores) (nm:=H.Name) (RepS.rdS r1) (by omega) hw).mono fun e w hq=>?_)
 clear hw;obtain⟨vi,rfl,hw⟩:=hq;refine⟨_,rfl,?_⟩;obtain⟨ai,ni,ci,rfl,hni,hnci,hcci⟩:=hw.own_shape (i:=0) rfl
 have hni:ni=H.Cores.length:=by simpa[intRows] using hni
 obtain⟨Γ3,hle3,q1,hw1⟩:=hw.freeze;clear hw;have hw:=hw1;clear hw1;have hp3:=(hp1.mono hle2).mono hle3
 repeat first|refine byW ?_|refine byV ?_;intro w hw
 refine lBuildSlice (intRows [0]) ?_
 intro a19 w hw;repeat first|refine byW ?_|refine byV ?_;intro w hw
 refine lApp (i:=0) (rows2:=intRows PK) ?_ (hp3.rd hw) rfl rfl hw rfl (ints_one PK) (by rw[intRows_ln];omega)
 intro vp w hw;obtain⟨aq,nq,cq,rfl,hnq,hnqc,-⟩:=hw.own_shape (i:=0) rfl
 obtain⟨Γ4,hle4,rq,hw1⟩:=hw.freeze;clear hw;have hw:=hw1;clear hw1;have rq:RepS Γ4 (.slice aq nq cq) 1 (intRows (0::PK)):=rq
 clear hnq hnqc;have hlenq:(0::PK).length≤7:=by simp;omega
 repeat first|refine byW ?_|refine byV ?_;intro w hw
 refine lCall ((Subset_any (q1.mono hle4) rq (by simp;omega) (by omega) hw).mono fun e w hq=>?_)
 clear hw;obtain⟨vl,rfl,hw⟩:=hq;refine⟨_,rfl,?_⟩;obtain⟨rest,hrest⟩:=subF_perm (0::PK) (0::PK).length 0 (H.Cores.map (·.ID))
 have hlvl:(subF (0::PK) (0::PK).length 0 (H.Cores.map (·.ID))).length≤7:=Nat.le_trans (subF_len _ _ _ _) hlenq
 have hLV0:subF (0::PK) (0::PK).length 0 (H.Cores.map (·.ID))≠[]:=by
  show (if _ then _ else _)≠[]
  rw[if_neg (fun e=>by have:=congrArg List.length e;simp at this;rw[this]at hnc;simp at hnc)]
  exact fun e=>by cases e
 generalize subF (0::PK) (0::PK).length 0 (H.Cores.map (·.ID))=LV at *
 obtain⟨al,nl,cl,rfl,hnl,hncl,hccl⟩:=hw.own_shape (i:=0) rfl
 have hnl:nl=LV.length:=by simpa[intRows] using hnl
 obtain⟨Γ5,hle5,rl,hw1⟩:=hw.freeze;clear hw;have hw:Wd Γ5 (.blk b5 (hwC H a1 n1 c1 a2 n2 c2 a3 n3 c3 a4 n4 c4 a5 n5 c5)::S) w:=hw1
 clear hw1;have hR5:=hR.mono (hle3.trans (hle4.trans hle5))
 have hle:Γ.le Γ5:=hle1.trans (hle2.trans (hle3.trans (hle4.trans hle5)))
 have hLVn:LV.Nodup:=(List.nodup_append.1 (hrest.nodup_iff.2 (coreIds_nodup hv))).1
 have hLVs:∀c∈LV,(findC H.Cores c).2=true:=fun c hc=>by
  have h1:c∈H.Cores.map (·.ID):=hrest.mem_iff.1 (List.mem_append_left _ hc)
  exact find_of_id h1
 obtain⟨rs,tot,hip⟩:=rt_ok hd.cap hLVn hLVs hLV0
 have hk1:=Int.emod_lt_of_pos k (show (0:Int)<3 by omega)
 have hk2:=Int.emod_nonneg k (show (3:Int)≠0 by omega)
 have hn5d:=hG.nd'
 repeat first|refine byW ?_|refine byV ?_;intro w hw
 refine W_quiet (by kernel_rfl) (by kernel_rfl) hw ?_
 refine byQ ?_;intro w hw;have hcap:(if (1:Int)<(n5:Int) then (n5:Int) else 1)+k%3=((if (1:Int)<(H.Devs.length:Int) then (H.Devs.length:Int) else 1)+k%3):=by rw[hn5]
 rw[hcap];repeat first|refine byW ?_|refine byV ?_;intro w hw
 refine lCall ((New_any (hh:=hR5) hd.len hd.dev rl hv (by omega) hip hw).mono fun e w hq=>?_)
 clear hw;obtain⟨Γ6,b,bm,v0,v1,v2,v3,v4,v5,vl1,pl,hle6,rfl,hR6,rl1,h1,h2,hw⟩:=hq;refine⟨_,rfl,?_⟩;have hw:=lines_close h1 h2 hw
 have hw:Wd Γ6 (.blk b5 (hwC H a1 n1 c1 a2 n2 c2 a3 n3 c3 a4 n4 c4 a5 n5 c5)::.blk b (hoC v0 v1 v2 v3 v4 v5 ((if (1:Int)<(H.Devs.length:Int) then (H.Devs.length:Int) else 1)+k%3) vl1 bm)::linesR bm (newI rs)::S) w:=hw.ps [2]
 have hR7:=hR5.mono hle6
 have hLvn:=hLVn
 haveI hwd:WideH H:=⟨hd.wide⟩
 repeat first|refine byW ?_|refine byV ?_;intro w hw
 refine lCall ((NewDrivers_any (hh:=hR7) hd.le hd.dev (rl.mono hle6) hLVn (by omega) hip hw).mono fun e w hq=>?_)
 clear hw;obtain⟨Γ7,r,vl2,q,m',d,hle7,rfl,rl2,hw⟩:=hq;refine⟨_,rfl,?_⟩;have hw:Wd Γ7 (.blk b5 (hwC H a1 n1 c1 a2 n2 c2 a3 n3 c3 a4 n4 c4 a5 n5 c5)::.blk r (rfC (.string H.Name) (.slice a1 n1 c1) (.slice a2 n2 c2) (.slice a3 n3 c3) (.slice a4 n4 c4) (.slice a5 n5 c5) vl2 ((if (1:Int)<(H.Devs.length:Int) then (H.Devs.length:Int) else 1)+k%3) q m' d)::.own (.slice q m' d) 46 6 ((newI rs).map enc)::.blk b (hoC v0 v1 v2 v3 v4 v5 ((if (1:Int)<(H.Devs.length:Int) then (H.Devs.length:Int) else 1)+k%3) vl1 bm)::linesR bm (newI rs)::S) w:=hw.ps [2]
 repeat first|refine byW ?_|refine byV ?_;intro w hw
 refine lBox ?_;intro bh w hw;have hw:Wd Γ7 (.blk bh (.cells #[.string H.Name,.slice a1 n1 c1,.slice a2 n2 c2,.slice a3 n3 c3,.slice a4 n4 c4,.slice a5 n5 c5,.pointer (some ⟨b,0,none⟩),.pointer (some ⟨r,0,none⟩)] 42)::.blk b5 (hwC H a1 n1 c1 a2 n2 c2 a3 n3 c3 a4 n4 c4 a5 n5 c5)::.blk r (rfC (.string H.Name) (.slice a1 n1 c1) (.slice a2 n2 c2) (.slice a3 n3 c3) (.slice a4 n4 c4) (.slice a5 n5 c5) vl2 ((if (1:Int)<(H.Devs.length:Int) then (H.Devs.length:Int) else 1)+k%3) q m' d)::.own (.slice q m' d) 46 6 ((newI rs).map enc)::.blk b (hoC v0 v1 v2 v3 v4 v5 ((if (1:Int)<(H.Devs.length:Int) then (H.Devs.length:Int) else 1)+k%3) vl1 bm)::linesR bm (newI rs)::S) w:=hw
 repeat(first|(first|refine W_seq ?_|refine W_block ?_|refine W_region ?_|refine W_skip ?_|refine W_ret ?_|refine W_exit ?_)|((first|apply L_bin|apply L_notop);first|(refine lT ?_ ?_;(first|exact rfl|exact decide_eq_true rfl|(simp;done)))|(refine lF ?_ ?_;(first|exact rfl|exact decide_eq_true rfl|(simp;done))))|(first|refine L_nil ?_|(apply L_plain;first|(apply L_go;first|refine lP ?_|(refine lPg ?_;intro w hw))|(apply L_mf;refine lMakeFunc ?_)|refine lY ?_)|(apply L_guarded;first|refine lGT ?_|refine lGF ?_|(apply L_go;first|refine lPG ?_|(refine lPgG ?_;intro w hw))|refine lG ?_))|(refine lAlloc ?_;intro _ w hw)|(refine lBox ?_;intro _ w hw)|(refine lStore ?_;intro w hw))
 have hst:=dst_new hd.cap (L:=sortZ LV) (fun e=>hLV0 (by
  have h:=sortZ_perm LV
  rw[e]at h;exact h.nil_eq.symm)) (sortZ_strict hLVn) (fun c hc=>hLVs c ((sortZ_perm LV).mem_iff.1 hc)) (intPost_perm (sortZ_perm LV).symm hip)
 exact⟨_,rfl,Γ7,H,bh,sortZ LV,newI rs,hle.trans (hle6.trans hle7),rfl,hd,hst,⟨b,bm,r,v0,v1,v2,v3,v4,v5,_,_,_,_,_,vl1,vl2,a1,n1,c1,q,m',d,hR6.mono hle7,hR7.mono hle7,rl1.mono hle7,rl2,(hw.ds [1]).ps [2,2,4,4]⟩,fun x hx=>by unfold newI at hx;obtain⟨r,-,rfl⟩:=List.mem_map.1 hx;rfl⟩
theorem open_any{Γ:Gho}{S:List Res}{w:World}{a ap:Option Addr}{m c np cp:Nat}{L PK:List Int}(hr:RepS Γ (.slice a m c) 1 (intRows L))(hp:RepS Γ (.slice ap np cp) 1 (intRows PK))(hnp:np≤6)(k:Int)(hw:Wd Γ S w) :
  Calls Tryz.prog 9 #[.slice a m c,.slice ap np cp,.int .i64 k] w fun e w'=>OpenAns Γ S k e w':=by
 refine(open_new hr hp hnp k hw).mono ?_
 rintro e w' ⟨Γ',H,bh,L,ls,h1,h2,h3,h4,h5,-⟩
 exact⟨Γ',H,bh,L,ls,h1,h2,h3,h4,h5⟩
theorem OpenP.wd{Γ:Gho}{S:List Res}{w:World}{bh:Nat}{cap:Int}{ls:List IntrT}{H:HwT}{L:List Int}(h:OpenP Γ S w bh H cap L ls):∃R,Wd Γ R w:=by
 obtain⟨b,bm,r,v0,v1,v2,v3,v4,v5,w0,w2,w3,w4,w5,vl,vl2,a1,n1,c1,q,m,d,p1,p2,p3,p4,h⟩:=h;exact⟨_,h⟩
theorem OpenP.out{Γ:Gho}{S:List Res}{w:World}{bh:Nat}{cap:Int}{ls:List IntrT}{H:HwT}{L:List Int}(h:OpenP Γ S w bh H cap L ls):Wd Γ S w:=by
 obtain⟨b,bm,r,v0,v1,v2,v3,v4,v5,w0,w2,w3,w4,w5,vl,vl2,a1,n1,c1,q,m,d,p1,p2,p3,p4,h⟩:=h;exact h.ds [0,0,0,0,0]
structure ClT where
 v0:Value
 v1:Value
 v2:Value
 v3:Value
 v4:Value
 v5:Value
 la:Option Addr
 ln:Nat
 lc:Nat
 m:Nat
 b:Nat
theorem perm_lift{α β:Type}{f:α→β}:∀ {k:List β} {l:List α},(l.map f).Perm k→∃l':List α,l'.Perm l∧l'.map f=k
 | [],l,h=>by
  have:=h.eq_nil
  cases l with
  | nil=>exact⟨[],.refl _,rfl⟩
  | cons a l=>simp at this
 | y::k,l,h=>by
  have hy:y∈l.map f:=h.mem_iff.2 (List.mem_cons_self ..)
  obtain⟨x,hx,rfl⟩:=List.mem_map.1 hy
  obtain⟨A,B,rfl⟩:=List.append_of_mem hx
  have h1:((A++x::B).map f).Perm (f x::(A++B).map f):=List.perm_middle.map f
  obtain⟨l',h2,h3⟩:=perm_lift ((h1.symm.trans h).cons_inv)
  exact⟨x::l',(h2.cons x).trans List.perm_middle.symm,by rw[List.map_cons,h3]⟩
theorem clone_perm{pl dn:List LnT}{ml:List (Int×Nat)}(hO:HoOk ml pl)(hk:(dn.map fun p=>p.2.IRQ).Perm (ml.map (·.1)))(hm:∀p∈dn,p.2∈lsO pl):∃pl2:List LnT,pl2.Perm dn∧lsO pl2=lsO pl:=by
 have hA:=hO.ascI
 refine perm_lift ?_
 have hn1:((lsO dn).map (·.IRQ)).Nodup:=by
  unfold lsO;rw[List.map_map];exact(hk.nodup_iff).2 hO.nodup
 have hn1':(lsO dn).Nodup:=List.Pairwise.of_map (·.IRQ) (fun a b h e=>h (by rw[e])) hn1
 have hn2':(lsO pl).Nodup:=List.Pairwise.of_map (·.IRQ) (fun a b h e=>h (by rw[e])) (asc_nodup hA)
 refine(List.perm_ext_iff_of_nodup hn1' hn2').2 fun x=>⟨fun hx=>?_,fun hx=>?_⟩
 ·obtain⟨p,hp,rfl⟩:=List.mem_map.1 hx
  exact hm p hp
 ·obtain⟨q,hq,rfl⟩:=List.mem_map.1 hx
  have h1:(q.2.IRQ,q.1)∈kM pl:=List.mem_map.2 ⟨q,hq,rfl⟩
  have h2:q.2.IRQ∈ml.map (·.1):=List.mem_map_of_mem (f:=(·.1)) (hO.perm.mem_iff.2 h1)
  obtain⟨p,hp,he⟩:=List.mem_map.1 (hk.mem_iff.2 h2)
  have h3:=hm p hp
  obtain⟨i,hi⟩:=List.getElem?_of_mem h3
  obtain⟨j,hj⟩:=List.getElem?_of_mem hx
  have:i=j:=asc_get hA hi hj he
  subst this;rw[hi]at hj;have:p.2=q.2:=by injection hj
  exact List.mem_map.2 ⟨p,hp,this⟩
section
variable {Γ:Gho}{S:List Res}{w:World}{b bm:Nat}{v0 v1 v2 v3 v4 v5 vl:Value}{cap:Int}{ml:List (Int×Nat)}{pl:List LnT}{H:HwT}{L:List Int}
theorem Clone_any[hh:HwR Γ (Value.agg #[v0,v1,v2,v3,v4,v5]) H](hs:HwLen H)(hl:RepS Γ vl 1 (intRows L))(hLn:L.length≤1000)(hO:HoOk ml pl)(hw:Wd Γ (.blk b (hoC v0 v1 v2 v3 v4 v5 cap vl bm)::linM bm ml::(lnR pl++S)) w) :
  Calls Tryz.prog 19 #[.pointer (some ⟨b,0,none⟩)] w fun e w'=>∃(Γ':Gho) (b2 bm2:Nat) (u0 u1 u2 u3 u4 u5 vl2:Value) (pl2:List LnT) (ml2:List (Int×Nat)),Γ.le Γ'∧e=.returned (.pointer (some ⟨b2,0,none⟩))∧RepS Γ' vl2 1 (intRows L)∧HoOk ml2 pl2∧lsO pl2=lsO pl∧Wd Γ' (.blk b2 (hoC u0 u1 u2 u3 u4 u5 cap vl2 bm2)::linM bm2 ml2::(lnR pl2++(.blk b (hoC v0 v1 v2 v3 v4 v5 cap vl bm)::linM bm ml::(lnR pl++S)))) w':=by
 refine calls_of_W Tryz.func19 rfl rfl ?_
 repeat first|refine byW ?_|refine byV ?_;intro w hw
 have hwm:Wd Γ ((.blk b (hoC v0 v1 v2 v3 v4 v5 cap vl bm)::linM bm ml::(lnR pl++S))++[]) w:=by rw[List.append_nil];exact hw
 refine W_mixed (.blk b (hoC v0 v1 v2 v3 v4 v5 cap vl bm)::linM bm ml::(lnR pl++S)) [fun _=>[],fun _=>[]] [[],[],[],[],[0],[],[],[],[],[],[],[],[],[0],[1],[0,1],[0],[0]] [[],[],[],[],[0],[],[],[],[],[],[],[],[],[0],[1],[0,1],[0],[0]] [[11,20,22,23,3],[21]] hwm ?_
 clear hwm hw;refine byM ?_;refine mS (c:=0) (v:=undef) (F:=fun _=>[]) (exC (T:=ClT) (fun t g=>g 11=Value.agg #[t.v0,t.v1,t.v2,t.v3,t.v4,t.v5]) fun t=>[Res.hw (Value.agg #[t.v0,t.v1,t.v2,t.v3,t.v4,t.v5]) H]) (fun g w Y hw=>?_) ?_
 ·refine s_call (vs:=#[Value.agg #[v0,v1,v2,v3,v4,v5]]) ?_ ((copyHw_any (hh:=hh) hs hw).mono fun e w' hq=>?_)
  ·exact EvL.eqA (xs:=[.tmp 10]) (vs:=[Value.agg #[v0,v1,v2,v3,v4,v5]]) (EvL.cons (by rfl) EvL.nil)
  obtain⟨u',rfl,hw2⟩:=hq;have hw3:=hw2
  unfold Res.hw at hw3;obtain⟨⟨p,hp1,-⟩,-⟩:=Wd.openEx hw3
  subst hp1;refine⟨_,rfl,fun h=>(by cases h),?_⟩
  exact exC_mk (T:=ClT) (φ:=fun t g=>g 11=Value.agg #[t.v0,t.v1,t.v2,t.v3,t.v4,t.v5]) (R:=fun t=>[Res.hw (Value.agg #[t.v0,t.v1,t.v2,t.v3,t.v4,t.v5]) H]) ⟨_,_,_,_,_,_,none,0,0,0,0⟩ rfl hw2
 refine byM ?_;refine mS (c:=0) (v:=undef) (F:=(exC (T:=ClT) (fun t g=>g 11=Value.agg #[t.v0,t.v1,t.v2,t.v3,t.v4,t.v5]) fun t=>[Res.hw (Value.agg #[t.v0,t.v1,t.v2,t.v3,t.v4,t.v5]) H])) (exC (T:=ClT) (fun t g=>g 11=Value.agg #[t.v0,t.v1,t.v2,t.v3,t.v4,t.v5]∧g 20=(.slice t.la t.ln t.lc)) fun t=>[.own (.slice t.la t.ln t.lc) 3 1 (intRows L),Res.hw (Value.agg #[t.v0,t.v1,t.v2,t.v3,t.v4,t.v5]) H]) (fun g w Y hw=>?_) ?_
 ·obtain⟨t,ht,hw1⟩:=exC_open hw
  have ht:g 11=Value.agg #[t.v0,t.v1,t.v2,t.v3,t.v4,t.v5]:=ht
  refine s_call (vs:=#[vl]) ?_ ((cloneI_any hl (by omega) hw1).mono fun e w' hq=>?_)
  ·exact EvL.eqA (xs:=[.tmp 19]) (vs:=[vl]) (EvL.cons (by rfl) EvL.nil)
  obtain⟨u',rfl,hw2⟩:=hq;obtain⟨ua,un,uc,rfl,-,-,-⟩:=hw2.own_shape (i:=0) rfl
  refine⟨_,rfl,fun h=>(by cases h),?_⟩
  exact exC_mk (T:=ClT) (φ:=fun t g=>g 11=Value.agg #[t.v0,t.v1,t.v2,t.v3,t.v4,t.v5]∧g 20=(.slice t.la t.ln t.lc)) (R:=fun t=>[.own (.slice t.la t.ln t.lc) 3 1 (intRows L),Res.hw (Value.agg #[t.v0,t.v1,t.v2,t.v3,t.v4,t.v5]) H]) ⟨t.v0,t.v1,t.v2,t.v3,t.v4,t.v5,ua,un,uc,0,0⟩ ⟨ht,rfl⟩ hw2
 refine mS (c:=1) (v:=undef) (F:=fun _=>[]) (exC (T:=Nat) (fun m g=>g 21=.map (some m)) fun m=>[linM m []]) (fun g w Y hw=>?_) ?_
 ·refine s_makeMap (K:=3) (α:=Int) (f:=ptrV) hw fun m w' hw'=>?_
  exact⟨fun h=>(by cases h),exC_mk (T:=Nat) (φ:=fun m g=>g 21=.map (some m)) (R:=fun m=>[linM m []]) m rfl hw'⟩
 refine mS2 (c:=0) (c2:=1) (v:=undef) (F:=(exC (T:=ClT) (fun t g=>g 11=Value.agg #[t.v0,t.v1,t.v2,t.v3,t.v4,t.v5]∧g 20=(.slice t.la t.ln t.lc)) fun t=>[.own (.slice t.la t.ln t.lc) 3 1 (intRows L),Res.hw (Value.agg #[t.v0,t.v1,t.v2,t.v3,t.v4,t.v5]) H])) (G:=(exC (T:=Nat) (fun m g=>g 21=.map (some m)) fun m=>[linM m []])) (exC (T:=ClT) (fun t g=>g 22=Value.agg #[t.v0,t.v1,t.v2,t.v3,t.v4,t.v5,.int .i64 cap,(.slice t.la t.ln t.lc),.map (some t.m)]) fun t=>[linM t.m [],.own (.slice t.la t.ln t.lc) 3 1 (intRows L),Res.hw (Value.agg #[t.v0,t.v1,t.v2,t.v3,t.v4,t.v5]) H]) (fun _=>[]) (fun g w Y hw=>?_) ?_
 ·obtain⟨t,⟨h11,h20⟩,hw1⟩:=exC_open hw
  have h11:g 11=Value.agg #[t.v0,t.v1,t.v2,t.v3,t.v4,t.v5]:=h11
  have h20:g 20=(.slice t.la t.ln t.lc):=h20
  obtain⟨m,h21,hw2⟩:=exC_open hw1.swapApp
  have h21:g 21=.map (some m):=h21
  refine Yields.step (v:=Value.agg #[t.v0,t.v1,t.v2,t.v3,t.v4,t.v5,.int .i64 cap,(.slice t.la t.ln t.lc),.map (some m)]) (y_build ?_) ⟨fun h=>(by cases h),?_⟩
  ·show fillL _ _ [(0,g 11),(1,_),(2,g 20),(3,g 21)]=_
   rw[h11,h20,h21];rfl
  exact exC_mk (T:=ClT) (φ:=fun t g=>g 22=Value.agg #[t.v0,t.v1,t.v2,t.v3,t.v4,t.v5,.int .i64 cap,(.slice t.la t.ln t.lc),.map (some t.m)]) (R:=fun t=>[linM t.m [],.own (.slice t.la t.ln t.lc) 3 1 (intRows L),Res.hw (Value.agg #[t.v0,t.v1,t.v2,t.v3,t.v4,t.v5]) H]) ⟨t.v0,t.v1,t.v2,t.v3,t.v4,t.v5,t.la,t.ln,t.lc,m,0⟩ rfl hw2
 refine mS (c:=0) (v:=undef) (F:=(exC (T:=ClT) (fun t g=>g 22=Value.agg #[t.v0,t.v1,t.v2,t.v3,t.v4,t.v5,.int .i64 cap,(.slice t.la t.ln t.lc),.map (some t.m)]) fun t=>[linM t.m [],.own (.slice t.la t.ln t.lc) 3 1 (intRows L),Res.hw (Value.agg #[t.v0,t.v1,t.v2,t.v3,t.v4,t.v5]) H])) (exC (T:=ClT) (fun t g=>g 23=.pointer (some ⟨t.b,0,none⟩)) fun t=>[.blk t.b (hoC t.v0 t.v1 t.v2 t.v3 t.v4 t.v5 cap (.slice t.la t.ln t.lc) t.m),linM t.m [],.own (.slice t.la t.ln t.lc) 3 1 (intRows L),Res.hw (Value.agg #[t.v0,t.v1,t.v2,t.v3,t.v4,t.v5]) H]) (fun g w Y hw=>?_) ?_
 ·obtain⟨t,h1,hw1⟩:=exC_open hw
  have h1:g 22=Value.agg #[t.v0,t.v1,t.v2,t.v3,t.v4,t.v5,.int .i64 cap,(.slice t.la t.ln t.lc),.map (some t.m)]:=h1
  exact s_box hw1 h1 fun b' w' hw'=>⟨fun h=>(by cases h),exC_mk (T:=ClT) (φ:=fun t g=>g 23=.pointer (some ⟨t.b,0,none⟩)) (R:=fun t=>[.blk t.b (hoC t.v0 t.v1 t.v2 t.v3 t.v4 t.v5 cap (.slice t.la t.ln t.lc) t.m),linM t.m [],.own (.slice t.la t.ln t.lc) 3 1 (intRows L),Res.hw (Value.agg #[t.v0,t.v1,t.v2,t.v3,t.v4,t.v5]) H]) ⟨t.v0,t.v1,t.v2,t.v3,t.v4,t.v5,t.la,t.ln,t.lc,t.m,b'⟩ rfl hw'⟩
 refine mS (c:=0) (v:=undef) (F:=(exC (T:=ClT) (fun t g=>g 23=.pointer (some ⟨t.b,0,none⟩)) fun t=>[.blk t.b (hoC t.v0 t.v1 t.v2 t.v3 t.v4 t.v5 cap (.slice t.la t.ln t.lc) t.m),linM t.m [],.own (.slice t.la t.ln t.lc) 3 1 (intRows L),Res.hw (Value.agg #[t.v0,t.v1,t.v2,t.v3,t.v4,t.v5]) H])) (exC (T:=ClT) (fun t g=>g 3=.pointer (some ⟨t.b,0,none⟩)) fun t=>[.blk t.b (hoC t.v0 t.v1 t.v2 t.v3 t.v4 t.v5 cap (.slice t.la t.ln t.lc) t.m),linM t.m [],.own (.slice t.la t.ln t.lc) 3 1 (intRows L),Res.hw (Value.agg #[t.v0,t.v1,t.v2,t.v3,t.v4,t.v5]) H]) (fun g w Y hw=>?_) ?_
 ·obtain⟨t,h1,hw1⟩:=exC_open hw
  have h1:g 23=.pointer (some ⟨t.b,0,none⟩):=h1
  exact Yields.step (y_assign (v:=.pointer (some ⟨t.b,0,none⟩)) h1) ⟨fun h=>(by cases h),exC_mk (T:=ClT) (φ:=fun t g=>g 3=.pointer (some ⟨t.b,0,none⟩)) (R:=fun t=>[.blk t.b (hoC t.v0 t.v1 t.v2 t.v3 t.v4 t.v5 cap (.slice t.la t.ln t.lc) t.m),linM t.m [],.own (.slice t.la t.ln t.lc) 3 1 (intRows L),Res.hw (Value.agg #[t.v0,t.v1,t.v2,t.v3,t.v4,t.v5]) H]) t rfl hw1⟩
 refine mEnd fun w g hw=>?_
 have hw1:Wd Γ ((.blk b (hoC v0 v1 v2 v3 v4 v5 cap vl bm)::linM bm ml::(lnR pl++S))++(((exC (T:=ClT) (fun t g=>g 3=.pointer (some ⟨t.b,0,none⟩)) fun t=>[.blk t.b (hoC t.v0 t.v1 t.v2 t.v3 t.v4 t.v5 cap (.slice t.la t.ln t.lc) t.m),linM t.m [],.own (.slice t.la t.ln t.lc) 3 1 (intRows L),Res.hw (Value.agg #[t.v0,t.v1,t.v2,t.v3,t.v4,t.v5]) H]) (ovr [11,20,22,23,3] g noFr))++([]++[]))) w:=hw
 obtain⟨t,ht,hw2⟩:=exC_open hw1.swapApp
 have ht:g 3=.pointer (some ⟨t.b,0,none⟩):=ht
 rw[List.append_nil,List.append_nil]at hw2;clear hw hw1;have hw3:Wd Γ (.own (.slice t.la t.ln t.lc) 3 1 (intRows L)::Res.hw (Value.agg #[t.v0,t.v1,t.v2,t.v3,t.v4,t.v5]) H::.blk t.b (hoC t.v0 t.v1 t.v2 t.v3 t.v4 t.v5 cap (.slice t.la t.ln t.lc) t.m)::linM t.m []::(.blk b (hoC v0 v1 v2 v3 v4 v5 cap vl bm)::linM bm ml::(lnR pl++S))) w:=by
  have h:Wd Γ (.blk t.b (hoC t.v0 t.v1 t.v2 t.v3 t.v4 t.v5 cap (.slice t.la t.ln t.lc) t.m)::linM t.m []::.own (.slice t.la t.ln t.lc) 3 1 (intRows L)::Res.hw (Value.agg #[t.v0,t.v1,t.v2,t.v3,t.v4,t.v5]) H::(.blk b (hoC v0 v1 v2 v3 v4 v5 cap vl bm)::linM bm ml::(lnR pl++S))) w:=hw2
  exact h.ps [3,3]
 clear hw2;have hsz:HwSz H:=by
  obtain⟨_,_,_,_,_,_,_,_,_,_,_,_,_,_,_,_,_,_,_,h,_⟩:=hh.h;exact h
 obtain⟨Γ1,hle1,rl2,hw4⟩:=hw3.freeze;obtain⟨Γ2,hle2,hR2,hw⟩:=hw_freezeD hsz hw4
 clear hw3 hw4;obtain⟨u0,u1,u2,u3,u4,u5,la,ln,lc,bm2,b2⟩:=t;have ht:g 3=.pointer (some ⟨b2,0,none⟩):=ht
 have hw:Wd Γ2 (.blk b2 (hoC u0 u1 u2 u3 u4 u5 cap (.slice la ln lc) bm2)::linM bm2 []::(.blk b (hoC v0 v1 v2 v3 v4 v5 cap vl bm)::linM bm ml::(lnR pl++S))) w:=hw
 refine W_has (l:=[(0,.pointer (some ⟨b,0,none⟩)),(3,.pointer (some ⟨b2,0,none⟩))]) ?_ fun ρ hρ=>?_
 ·exact⟨rfl,ht,trivial⟩
 clear ht;rw[hρ.eq];clear hρ;have hle:=hle1.trans hle2
 have rl2:=rl2.mono hle2
 have hw:Wd Γ2 (linM bm ml::.blk b (hoC v0 v1 v2 v3 v4 v5 cap vl bm)::.blk b2 (hoC u0 u1 u2 u3 u4 u5 cap (.slice la ln lc) bm2)::linM bm2 []::(lnR pl++S)) w:=hw.ps [2,3]
 repeat first|refine byW ?_|refine byV ?_;intro w hw
 obtain⟨en,clock,hw,he,hb,hc⟩:=Wd.openMp hw
 have hsz:en.size=ml.length:=by have:=congrArg List.length he;simpa using this
 refine lRange ?_;intro r w hw;repeat first|refine byW ?_|refine byV ?_;intro w hw
 refine W_loop (fun μ ρ w=>∃(seen:Array Nat) (idx:List Nat) (c0:Nat) (dn:List LnT),Seen en seen idx∧μ+idx.length=ml.length∧clock≤c0∧(dn.map fun p=>p.2.IRQ)=idx.map (fun i=>(ml.map (·.1)).getD i default)∧(∀p∈dn,p.2∈lsO pl)∧Has ρ [(3,.pointer (some ⟨b2,0,none⟩)),(28,.pointer (some ⟨r,0,none⟩))]∧Wd Γ2 (.blk r (.mapIter (some bm) clock seen c0)::.blk bm (.map en clock)::.blk b (hoC v0 v1 v2 v3 v4 v5 cap vl bm)::.blk b2 (hoC u0 u1 u2 u3 u4 u5 cap (.slice la ln lc) bm2)::linM bm2 (kM dn)::(lnR dn++(lnR pl++S))) w) ml.length ⟨#[],[],clock,[],Seen.nil,rfl,Nat.le_refl _,rfl,fun p hp=>(by cases hp),⟨rfl,rfl,trivial⟩,hw⟩ ?_
 clear hw;rintro μ ρ w ⟨seen,idx,c0,dn,hseen,hμ,hc0,hdk,hdm,hρ,hw⟩
 rw[hρ.eq];clear hρ;repeat first|refine byW ?_|refine byV ?_;intro w hw
 refine lNext (fun h0=>?_) (fun e w hmem hw=>?_) hc hc0
 ·repeat first|refine byW ?_|refine byV ?_;intro w hw
  refine W_cond_false rfl ?_
  repeat first|refine byW ?_|refine byV ?_;intro w hw
  have hp:=hseen.all hb h0
  have hk:(dn.map fun p=>p.2.IRQ).Perm (ml.map (·.1)):=by
   rw[hdk];have:=hp.map (fun i=>(ml.map (·.1)).getD i default)
   rw[hsz,show ml.length=(ml.map (·.1)).length by rw[List.length_map],keys_range]at this
   exact this
  obtain⟨pl2,h1,h2⟩:=clone_perm hO hk hdm
  have hOk:HoOk (kM dn) pl2:=by
   refine⟨(h1.map _).symm,?_⟩
   have hA:=hO.ascI
   rw[←h2]at hA;unfold AscI lsO at hA;unfold kM;rw[List.pairwise_map]at hA ⊢
   exact hA
  have hw:=hw.drop
  have hw:=Wd.closeMp hw he hb hc
  have hw:Wd Γ2 (linM bm ml::.blk b (hoC v0 v1 v2 v3 v4 v5 cap vl bm)::.blk b2 (hoC u0 u1 u2 u3 u4 u5 cap (.slice la ln lc) bm2)::linM bm2 (kM dn)::(lnR dn++(lnR pl++S))) w:=hw
  have hw:Wd Γ2 (.blk b2 (hoC u0 u1 u2 u3 u4 u5 cap (.slice la ln lc) bm2)::linM bm2 (kM dn)::linM bm ml::.blk b (hoC v0 v1 v2 v3 v4 v5 cap vl bm)::(lnR dn++(lnR pl++S))) w:=hw.ps [3,3]
  have hw:Wd Γ2 (.blk b2 (hoC u0 u1 u2 u3 u4 u5 cap (.slice la ln lc) bm2)::linM bm2 (kM dn)::(lnR pl2++(.blk b (hoC v0 v1 v2 v3 v4 v5 cap vl bm)::linM bm ml::(lnR pl++S)))) w:=by
   refine hw.perm (List.Perm.cons _ (List.Perm.cons _ ?_))
   refine(List.Perm.swap _ _ _).trans ?_
   refine(List.perm_append_comm_assoc [.blk b (hoC v0 v1 v2 v3 v4 v5 cap vl bm),linM bm ml] (lnR dn) (lnR pl++S)).trans ?_
   exact List.Perm.append_right _ (h1.symm.map lnC)
  exact⟨_,rfl,Γ2,b2,bm2,u0,u1,u2,u3,u4,u5,_,pl2,_,hle,rfl,rl2,hOk,h2,hw⟩
 ·obtain⟨i,hie,hin,hil,hseen'⟩:=hseen.next hmem
  have hem:e∈en.toList:=(left_mem.1 hmem).1
  obtain⟨⟨k,bk⟩,hlx⟩:=get_lt (l:=ml) (k:=i) (by omega)
  obtain⟨hev,hvv⟩:e.key=.int .i64 k∧e.val=ptrV bk:=by
   have h1:(en.toList.map (fun e=>(e.key,e.val)))[i]? = some (e.key,e.val):=by rw[List.getElem?_map,Array.getElem?_toList,hie];rfl
   rw[he,List.getElem?_map,hlx]at h1;simp at h1
   exact⟨h1.1.symm,h1.2.symm⟩
  have hxx:((fun i=>(ml.map (·.1)).getD i default) i)=k:=by simp[List.getD_eq_getElem?_getD,hlx]
  have hlen:=hseen'.len
  have hmm:(k,bk)∈kM pl:=hO.perm.mem_iff.1 (List.mem_of_getElem? hlx)
  obtain⟨⟨bk',x⟩,hp1,hp2⟩:=List.mem_map.1 hmm
  obtain⟨rfl,rfl⟩:x.IRQ=k∧bk'=bk:=by injection hp2 with a b;exact⟨a,b⟩
  obtain⟨j,hj⟩:=List.getElem?_of_mem hp1
  rw[hev,hvv];repeat first|refine byW ?_|refine byV ?_;intro w hw
  refine W_cond_true rfl ?_
  repeat first|refine byW ?_|refine byV ?_;intro w hw
  refine lEntry ?_ hem hb
  rw[hev,hvv];repeat first|refine byW ?_|refine byV ?_;intro w hw
  have hsp:=pl_split hj
  have hw:Wd Γ2 ([.blk r (.mapIter (some bm) clock (seen.push e.born) clock),.blk bm (.map en clock),.blk b (hoC v0 v1 v2 v3 v4 v5 cap vl bm),.blk b2 (hoC u0 u1 u2 u3 u4 u5 cap (.slice la ln lc) bm2),linM bm2 (kM dn)]++(lnR dn++(lnR pl++S))) w:=hw
  have hw1:Wd Γ2 (([.blk r (.mapIter (some bm) clock (seen.push e.born) clock),.blk bm (.map en clock),.blk b (hoC v0 v1 v2 v3 v4 v5 cap vl bm),.blk b2 (hoC u0 u1 u2 u3 u4 u5 cap (.slice la ln lc) bm2),linM bm2 (kM dn)]++lnR dn)++(lnR (pl.take j++(bk',x)::pl.drop (j+1))++S)) w:=by rw[←hsp];exact Wd.sa hw
  have hw2:=ln_open (R:=[.blk r (.mapIter (some bm) clock (seen.push e.born) clock),.blk bm (.map en clock),.blk b (hoC v0 v1 v2 v3 v4 v5 cap vl bm),.blk b2 (hoC u0 u1 u2 u3 u4 u5 cap (.slice la ln lc) bm2),linM bm2 (kM dn)]++lnR dn) hw1
  have hw3:Wd Γ2 (([lnC (bk',x)]++[.blk r (.mapIter (some bm) clock (seen.push e.born) clock),.blk bm (.map en clock),.blk b (hoC v0 v1 v2 v3 v4 v5 cap vl bm),.blk b2 (hoC u0 u1 u2 u3 u4 u5 cap (.slice la ln lc) bm2),linM bm2 (kM dn)])++(lnR dn++(lnR (pl.take j++pl.drop (j+1))++S))) w:=Wd.as (A:=[lnC (bk',x)]++[.blk r (.mapIter (some bm) clock (seen.push e.born) clock),.blk bm (.map en clock),.blk b (hoC v0 v1 v2 v3 v4 v5 cap vl bm),.blk b2 (hoC u0 u1 u2 u3 u4 u5 cap (.slice la ln lc) bm2),linM bm2 (kM dn)]) (B:=lnR dn) hw2
  have hw:Wd Γ2 (lnC (bk',x)::.blk r (.mapIter (some bm) clock (seen.push e.born) clock)::.blk bm (.map en clock)::.blk b (hoC v0 v1 v2 v3 v4 v5 cap vl bm)::.blk b2 (hoC u0 u1 u2 u3 u4 u5 cap (.slice la ln lc) bm2)::linM bm2 (kM dn)::(lnR dn++(lnR (pl.take j++pl.drop (j+1))++S))) w:=hw3
  clear hw1 hw2 hw3;repeat first|refine byW ?_|refine byV ?_;intro w hw
  refine lAlloc ?_;intro b6 w hw;refine lStore ?_;intro w hw;have hw:Wd Γ2 (lnC (b6,x)::lnC (bk',x)::.blk r (.mapIter (some bm) clock (seen.push e.born) clock)::.blk bm (.map en clock)::.blk b (hoC v0 v1 v2 v3 v4 v5 cap vl bm)::.blk b2 (hoC u0 u1 u2 u3 u4 u5 cap (.slice la ln lc) bm2)::linM bm2 (kM dn)::(lnR dn++(lnR (pl.take j++pl.drop (j+1))++S))) w:=hw
  have hnk:x.IRQ∉(kM dn).map (·.1):=by
   have e1:(kM dn).map (·.1)=dn.map fun p=>p.2.IRQ:=by unfold kM;rw[List.map_map];rfl
   rw[e1,hdk];intro hm;obtain⟨i',hi',he'⟩:=List.mem_map.1 hm
   have hlt:i'<ml.length:=by have:=hseen.lt i' hi';omega
   have g1:(ml.map (·.1))[i]? = some x.IRQ:=by rw[List.getElem?_map,hlx];rfl
   have g2:(ml.map (·.1))[i']? = some x.IRQ:=by
    obtain⟨q,hq⟩:=get_lt (l:=ml.map (·.1)) (k:=i') (by rw[List.length_map];omega)
    rw[←he'];simp[List.getD_eq_getElem?_getD,hq]
   have:i'=i:=(List.getElem?_inj (by rw[List.length_map];omega) hO.nodup).1 (g2.trans g1.symm)
   exact hin (this ▸ hi')
  repeat first|refine byW ?_|refine byV ?_;intro w hw
  refine L_step rfl rfl (s_mapUpdate (f:=ptrV) (v:=b6) (a:=x.IRQ) hw rfl rfl rfl (i:=6) rfl fun w hw=>?_)
  have eas:@aSet Int Nat (MKey.dec Tryz.prog 3) (kM dn) x.IRQ b6=kM (dn++[(b6,x)]):=(aSet_new hnk).trans (by unfold kM;rw[List.map_append];rfl)
  rw[eas]at hw;have hw1:Wd Γ2 (([lnC (b6,x),lnC (bk',x)]++[.blk r (.mapIter (some bm) clock (seen.push e.born) clock),.blk bm (.map en clock),.blk b (hoC v0 v1 v2 v3 v4 v5 cap vl bm),.blk b2 (hoC u0 u1 u2 u3 u4 u5 cap (.slice la ln lc) bm2),linM bm2 (kM (dn++[(b6,x)]))])++(lnR dn++(lnR (pl.take j++pl.drop (j+1))++S))) w:=hw
  have hw2:Wd Γ2 (lnC (bk',x)::((lnC (b6,x)::[.blk r (.mapIter (some bm) clock (seen.push e.born) clock),.blk bm (.map en clock),.blk b (hoC v0 v1 v2 v3 v4 v5 cap vl bm),.blk b2 (hoC u0 u1 u2 u3 u4 u5 cap (.slice la ln lc) bm2),linM bm2 (kM (dn++[(b6,x)]))])++lnR dn++(lnR (pl.take j++pl.drop (j+1))++S))) w:=by
   refine hw1.perm ?_
   rw[List.append_assoc];exact List.Perm.swap _ _ _
  have hw3:=ln_close (R:=(lnC (b6,x)::[.blk r (.mapIter (some bm) clock (seen.push e.born) clock),.blk bm (.map en clock),.blk b (hoC v0 v1 v2 v3 v4 v5 cap vl bm),.blk b2 (hoC u0 u1 u2 u3 u4 u5 cap (.slice la ln lc) bm2),linM bm2 (kM (dn++[(b6,x)]))])++lnR dn) hw2
  rw[←hsp]at hw3;have hw4:Wd Γ2 ([.blk r (.mapIter (some bm) clock (seen.push e.born) clock),.blk bm (.map en clock),.blk b (hoC v0 v1 v2 v3 v4 v5 cap vl bm),.blk b2 (hoC u0 u1 u2 u3 u4 u5 cap (.slice la ln lc) bm2),linM bm2 (kM (dn++[(b6,x)]))]++(lnR (dn++[(b6,x)])++(lnR pl++S))) w:=by
   refine hw3.perm ?_
   rw[List.append_assoc];refine(List.perm_middle (l₁:=[.blk r (.mapIter (some bm) clock (seen.push e.born) clock),.blk bm (.map en clock),.blk b (hoC v0 v1 v2 v3 v4 v5 cap vl bm),.blk b2 (hoC u0 u1 u2 u3 u4 u5 cap (.slice la ln lc) bm2),linM bm2 (kM (dn++[(b6,x)]))]) (l₂:=lnR dn++(lnR pl++S)) (a:=lnC (b6,x))).symm.trans ?_
   refine List.Perm.append_left _ ?_
   rw[show lnR (dn++[(b6,x)])=lnR dn++[lnC (b6,x)] from List.map_append,List.append_assoc]
   exact List.perm_middle.symm
  clear hw hw1 hw2 hw3;have hw:=hw4
  clear hw4;repeat first|refine byW ?_|refine byV ?_;intro w hw
  exact⟨μ-1,by simp at *;omega,seen.push e.born,idx++[i],clock,dn++[(b6,x)],hseen',by simp at *;omega,Nat.le_refl _,(by rw[List.map_append,List.map_append,hdk,List.map_singleton,List.map_singleton,show ((ml.map (·.1)).getD i default)=x.IRQ from hxx]),(fun p hp=>by
   rcases List.mem_append.1 hp with h|h
   ·exact hdm p h
   ·obtain rfl:p=(b6,x):=by simpa using h
    exact List.mem_map.2 ⟨_,hp1,rfl⟩),⟨rfl,rfl,trivial⟩,hw⟩
end
section
variable {Γ:Gho}{S:List Res}{w:World}{b bm:Nat}{v0 v1 v2 v3 v4 v5 vl:Value}{cap:Int}{ls:List IntrT}{H:HwT}{L:List Int}
theorem Clone_R[hh:HwR Γ (Value.agg #[v0,v1,v2,v3,v4,v5]) H](hs:HwLen H)(hl:RepS Γ vl 1 (intRows L))(hLn:L.length≤1000)(hw:Wd Γ (.blk b (hoC v0 v1 v2 v3 v4 v5 cap vl bm)::linesR bm ls::S) w) :
  Calls Tryz.prog 19 #[.pointer (some ⟨b,0,none⟩)] w fun e w'=>∃(Γ':Gho) (b2 bm2:Nat) (u0 u1 u2 u3 u4 u5 vc:Value),Γ.le Γ'∧e=.returned (.pointer (some ⟨b2,0,none⟩))∧RepS Γ' vc 1 (intRows L)∧Wd Γ' (.blk b (hoC v0 v1 v2 v3 v4 v5 cap vl bm)::linesR bm ls::.blk b2 (hoC u0 u1 u2 u3 u4 u5 cap vc bm2)::linesR bm2 ls::S) w':=by
 obtain⟨ml,pl,hO,rfl,hwL⟩:=lines_open hw
 refine(Clone_any hs hl hLn hO hwL).mono ?_
 rintro e w' ⟨Γ',b2,bm2,u0,u1,u2,u3,u4,u5,vc,pl2,ml2,hle,rfl,h1,h2,h3,hw⟩
 refine⟨Γ',b2,bm2,u0,u1,u2,u3,u4,u5,vc,hle,rfl,h1,?_⟩
 have hw1:=lines_close h2 h3 hw
 refine lines_close hO rfl (hw1.perm ?_)
 refine(List.perm_append_comm_assoc [.blk b2 (hoC u0 u1 u2 u3 u4 u5 cap vc bm2),linesR bm2 (lsO pl)] [.blk b (hoC v0 v1 v2 v3 v4 v5 cap vl bm),linM bm ml] (lnR pl++S)).trans ?_
 exact List.Perm.append_left [.blk b (hoC v0 v1 v2 v3 v4 v5 cap vl bm),linM bm ml] (List.perm_append_comm_assoc [.blk b2 (hoC u0 u1 u2 u3 u4 u5 cap vc bm2),linesR bm2 (lsO pl)] (lnR pl) S)
end
theorem DriverClone_any{Γ:Gho}{S:List Res}{w:World}{a ap ax ay:Option Addr}{m c np cp ns cs nt ct:Nat}{L0 PK:List Int}{XS YS:List StepT}(hr:RepS Γ (.slice a m c) 1 (intRows L0))(hp:RepS Γ (.slice ap np cp) 1 (intRows PK))(hs:RepS Γ (.slice ax ns cs) 5 (XS.map enc))(ht:RepS Γ (.slice ay nt ct) 5 (YS.map enc))(hw:Wd Γ S w) :
  Calls Tryz.prog 7 #[.slice a m c,.slice ap np cp,.slice ax ns cs,.slice ay nt ct] w fun e w'=>∃Γ',Γ.le Γ'∧e=.returned (.bool true)∧Wd Γ' S w':=by
 obtain⟨hnp,hncp,hccp⟩:=rep_facts hp
 obtain⟨hnr,hncr,hccr⟩:=rep_facts hr
 obtain⟨hns,hncs,hccs⟩:=rep_facts hs
 obtain⟨hnt,hnct,hcct⟩:=rep_facts ht
 have hns:ns=XS.length:=by simpa using hns
 have hnt:nt=YS.length:=by simpa using hnt
 refine calls_of_W Tryz.func7 rfl rfl ?_
 repeat first|refine byW ?_|refine byV ?_;intro w hw
 refine W_cond rfl (fun h=>?_) (fun h=>?_)
 ·repeat first|refine byW ?_|refine byV ?_;intro w hw
  exact⟨_,rfl,Γ,.refl _,rfl,hw⟩
 have hLs:¬(200<(m:Int)∨6<(np:Int)):=by simpa using h
 clear h;repeat first|refine byW ?_|refine byV ?_;intro w hw
 refine lCall ((open_any hr hp (by omega) 2 hw).mono fun r w hq=>?_)
 clear hw;obtain⟨Γ1,H,bh,L,ls,hle,rfl,hd,hS,ho⟩:=hq;refine⟨_,rfl,?_⟩;generalize (if (1:Int)<(H.Devs.length:Int) then (H.Devs.length:Int) else 1)+2%3=cap at *
 obtain⟨R,hw⟩:=ho.wd;repeat first|refine byW ?_|refine byV ?_;intro w hw
 refine W_loop (fun μ ρ w=>∃(Γ':Gho) (L:List Int) (ls:List IntrT) (i:Nat),μ+i=ns∧Has ρ [(2,.slice ax ns cs),(3,.slice ay nt ct),(9,.pointer (some ⟨bh,0,none⟩)),(10,.bool true),(11,.int .i64 i)]∧Γ.le Γ'∧DSt H cap L ls∧OpenP Γ' S w bh H cap L ls) ns ⟨Γ1,L,ls,0,by omega,⟨rfl,rfl,rfl,rfl,rfl,trivial⟩,hle,hS,ho⟩ ?_
 clear hw hle hS ho hr hp;rintro μ ρ w ⟨Γ3,L,ls,i,hμ,hρ,hle,hS,ho⟩
 rw[hρ.eq];clear hρ;obtain⟨R,hw⟩:=ho.wd;have hs3:=hs.mono hle
 repeat first|refine byW ?_|refine byV ?_;intro w hw
 refine W_cond rfl (fun h=>?_) (fun h=>?_)
 ·have hin:i<ns∧i<40:=by simp at h;omega
  clear h;obtain⟨y,hy⟩:=get_lt (l:=XS) (k:=i) (by omega)
  repeat first|refine byW ?_|refine byV ?_;intro w hw
  refine lCall ((do_O hd hS y ho).mono fun r w hq=>?_)
  clear hw ho;obtain⟨Γ4,hle4,rfl,ho⟩:=hq;refine⟨_,rfl,?_⟩;obtain⟨R,hw⟩:=ho.wd;have hS4:=doS_st hd.cap hS y
  generalize doS H cap L ls y=t at *
  repeat first|refine byW ?_|refine byV ?_;intro w hw
  exact⟨μ-1,by omega,Γ4,t.1,t.2,i+1,by omega,⟨rfl,rfl,rfl,rfl,rfl,trivial⟩,hle.trans hle4,hS4,ho⟩
 clear hs3 hμ h hw;obtain⟨b,bm,r,v0,v1,v2,v3,v4,v5,w0,w2,w3,w4,w5,vl,vl2,a1,n1,c1,q,m',d,p1,p2,p3,p4,hw⟩:=ho;have hdv:=hd.dev
 have hlen:=hS.len
 have hN:ls.length≤1000:=by omega
 have hLn:L.length≤1000:=by have:=hS.ln hd.cap.v;omega
 repeat first|refine byW ?_|refine byV ?_;intro w hw
 refine W_cond rfl (fun h=>?_) (fun h=>?_)
 ·exact absurd h (by simp)
 clear h;repeat first|refine byW ?_|refine byV ?_;intro w hw
 refine lCall ((Clone_R (hh:=p1) hd.len p3 hLn hw).mono fun e w hq=>?_)
 clear hw;obtain⟨Γ4,b2,bm2,u0,u1,u2,u3,u4,u5,vc,hle4,rfl,pc,hw⟩:=hq;refine⟨_,rfl,?_⟩;repeat first|refine byW ?_|refine byV ?_;intro w hw
 refine W_cond rfl (fun h=>?_) (fun h=>?_)
 ·exact absurd h (by simp)
 clear h;have hw0:Wd Γ4 (.blk b (hoC v0 v1 v2 v3 v4 v5 cap vl bm)::linesR bm ls::.blk b2 (hoC u0 u1 u2 u3 u4 u5 cap vc bm2)::linesR bm2 ls::.blk r (rfC w0 (.slice a1 n1 c1) w2 w3 w4 w5 vl2 cap q m' d)::.own (.slice q m' d) 46 6 (ls.map enc)::.blk bh (.cells #[w0,.slice a1 n1 c1,w2,w3,w4,w5,.pointer (some ⟨b,0,none⟩),.pointer (some ⟨r,0,none⟩)] 42)::S) w:=hw
 clear hw;have hw:Wd Γ4 (([.blk bh (.cells #[w0,.slice a1 n1 c1,w2,w3,w4,w5,.pointer (some ⟨b,0,none⟩),.pointer (some ⟨r,0,none⟩)] 42)]:List Res)++(.blk b (hoC v0 v1 v2 v3 v4 v5 cap vl bm)::linesR bm ls::.blk r (rfC w0 (.slice a1 n1 c1) w2 w3 w4 w5 vl2 cap q m' d)::.own (.slice q m' d) 46 6 (ls.map enc)::.blk b2 (hoC u0 u1 u2 u3 u4 u5 cap vc bm2)::linesR bm2 ls::S)) w:=hw0.ps [3,3,5,5,5,5,6]
 clear hw0;have p34:=p3.mono hle4
 repeat first|refine byW ?_|refine byV ?_;intro w hw
 refine W_mixCg [.blk bh (.cells #[w0,.slice a1 n1 c1,w2,w3,w4,w5,.pointer (some ⟨b,0,none⟩),.pointer (some ⟨r,0,none⟩)] 42)] (.blk b (hoC v0 v1 v2 v3 v4 v5 cap vl bm)::linesR bm ls::.blk r (rfC w0 (.slice a1 n1 c1) w2 w3 w4 w5 vl2 cap q m' d)::.own (.slice q m' d) 46 6 (ls.map enc)::.blk b2 (hoC u0 u1 u2 u3 u4 u5 cap vc bm2)::linesR bm2 ls::S) [63,68,13,14] [[],[],[],[],[0],[],[],[],[],[0],[0],[0]] hw ?_
 repeat refine gY ?_
 refine gCallX (T':=Value) (v:=undef) (fun t g=>g 63=t) (fun t=>Res.rep t 6 (ls.map enc)::.blk b (hoC v0 v1 v2 v3 v4 v5 cap vl bm)::linesR bm ls::.blk r (rfC w0 (.slice a1 n1 c1) w2 w3 w4 w5 vl2 cap q m' d)::.own (.slice q m' d) 46 6 (ls.map enc)::.blk b2 (hoC u0 u1 u2 u3 u4 u5 cap vc bm2)::linesR bm2 ls::S) (fun _ _=>_) (fun Γ' t g w Y hle _ hw=>?_) ?_
 ·refine(Interrupts_R hN hw).mono ?_
  rintro e w ⟨u,rfl,hw⟩
  obtain⟨Γ1,hle1,s1,hw1⟩:=hw.freeze;exact⟨_,rfl,Γ1,u,hle1,rfl,(fun h=>(by cases h)),Wd.repIn s1 hw1⟩
 repeat refine gY ?_
 refine gCallX (φ:=fun (t:Value) g=>g 63=t) (T':=Value×Value) (v:=undef) (fun t g=>g 63=t.1∧g 68=t.2) (fun t=>Res.rep t.2 1 (intRows L)::Res.rep t.1 6 (ls.map enc)::.blk b (hoC v0 v1 v2 v3 v4 v5 cap vl bm)::linesR bm ls::.blk r (rfC w0 (.slice a1 n1 c1) w2 w3 w4 w5 vl2 cap q m' d)::.own (.slice q m' d) 46 6 (ls.map enc)::.blk b2 (hoC u0 u1 u2 u3 u4 u5 cap vc bm2)::linesR bm2 ls::S) (fun _ _=>_) (fun Γ' t g w Y hle ht hw=>?_) ?_
 ·refine(Live_any (i:=1) (p34.mono hle) hLn rfl hw).mono ?_
  rintro e w ⟨u,rfl,hw⟩
  obtain⟨Γ1,hle1,s1,hw1⟩:=hw.freeze;exact⟨_,rfl,Γ1,(t,u),hle1,⟨ht,rfl⟩,(fun h=>(by cases h)),Wd.repIn s1 hw1⟩
 refine gStepX (φ:=fun (t:Value×Value) g=>g 63=t.1∧g 68=t.2) (T':=Value×Value) (R:=fun t=>Res.rep t.2 1 (intRows L)::Res.rep t.1 6 (ls.map enc)::.blk b (hoC v0 v1 v2 v3 v4 v5 cap vl bm)::linesR bm ls::.blk r (rfC w0 (.slice a1 n1 c1) w2 w3 w4 w5 vl2 cap q m' d)::.own (.slice q m' d) 46 6 (ls.map enc)::.blk b2 (hoC u0 u1 u2 u3 u4 u5 cap vc bm2)::linesR bm2 ls::S) (v:=undef) (fun t g=>g 13=t.1∧g 68=t.2) (fun t=>Res.rep t.2 1 (intRows L)::Res.rep t.1 6 (ls.map enc)::.blk b (hoC v0 v1 v2 v3 v4 v5 cap vl bm)::linesR bm ls::.blk r (rfC w0 (.slice a1 n1 c1) w2 w3 w4 w5 vl2 cap q m' d)::.own (.slice q m' d) 46 6 (ls.map enc)::.blk b2 (hoC u0 u1 u2 u3 u4 u5 cap vc bm2)::linesR bm2 ls::S) (fun Γ' t g w Y hle ht hw=>?_) ?_
 ·obtain⟨h1,h2⟩:=ht;have h1:g 63=t.1:=h1
  exact Yields.step (y_assign (v:=t.1) h1) ⟨Γ',t,.refl _,⟨rfl,h2⟩,(fun h=>(by cases h)),hw⟩
 refine gStepX (φ:=fun (t:Value×Value) g=>g 13=t.1∧g 68=t.2) (T':=Value×Value) (R:=fun t=>Res.rep t.2 1 (intRows L)::Res.rep t.1 6 (ls.map enc)::.blk b (hoC v0 v1 v2 v3 v4 v5 cap vl bm)::linesR bm ls::.blk r (rfC w0 (.slice a1 n1 c1) w2 w3 w4 w5 vl2 cap q m' d)::.own (.slice q m' d) 46 6 (ls.map enc)::.blk b2 (hoC u0 u1 u2 u3 u4 u5 cap vc bm2)::linesR bm2 ls::S) (v:=undef) (fun t g=>g 13=t.1∧g 14=t.2) (fun t=>Res.rep t.2 1 (intRows L)::Res.rep t.1 6 (ls.map enc)::.blk b (hoC v0 v1 v2 v3 v4 v5 cap vl bm)::linesR bm ls::.blk r (rfC w0 (.slice a1 n1 c1) w2 w3 w4 w5 vl2 cap q m' d)::.own (.slice q m' d) 46 6 (ls.map enc)::.blk b2 (hoC u0 u1 u2 u3 u4 u5 cap vc bm2)::linesR bm2 ls::S) (fun Γ' t g w Y hle ht hw=>?_) ?_
 ·obtain⟨h1,h2⟩:=ht;have h2:g 68=t.2:=h2
  exact Yields.step (y_assign (v:=t.2) h2) ⟨Γ',t,.refl _,⟨h1,rfl⟩,(fun h=>(by cases h)),hw⟩
 clear hw;refine gEndX (φ:=fun (t:Value×Value) g=>g 13=t.1∧g 14=t.2) (R:=fun t=>Res.rep t.2 1 (intRows L)::Res.rep t.1 6 (ls.map enc)::.blk b (hoC v0 v1 v2 v3 v4 v5 cap vl bm)::linesR bm ls::.blk r (rfC w0 (.slice a1 n1 c1) w2 w3 w4 w5 vl2 cap q m' d)::.own (.slice q m' d) 46 6 (ls.map enc)::.blk b2 (hoC u0 u1 u2 u3 u4 u5 cap vc bm2)::linesR bm2 ls::S) fun Γ5 t w g hle5 ht' hw7=>?_
 obtain⟨vI,vL⟩:=t;have ht1:g 13=vI:=ht'.1
 have ht2:g 14=vL:=ht'.2
 have hw8:Wd Γ5 (Res.rep vL 1 (intRows L)::Res.rep vI 6 (ls.map enc)::(.blk b (hoC v0 v1 v2 v3 v4 v5 cap vl bm)::linesR bm ls::.blk r (rfC w0 (.slice a1 n1 c1) w2 w3 w4 w5 vl2 cap q m' d)::.own (.slice q m' d) 46 6 (ls.map enc)::.blk b2 (hoC u0 u1 u2 u3 u4 u5 cap vc bm2)::linesR bm2 ls::S++[.blk bh (.cells #[w0,.slice a1 n1 c1,w2,w3,w4,w5,.pointer (some ⟨b,0,none⟩),.pointer (some ⟨r,0,none⟩)] 42)])) w:=hw7
 have rL:=hw8.repOut (i:=0) rfl
 have rI:=hw8.repOut (i:=1) rfl
 have hw9:Wd Γ5 (.blk b (hoC v0 v1 v2 v3 v4 v5 cap vl bm)::linesR bm ls::.blk r (rfC w0 (.slice a1 n1 c1) w2 w3 w4 w5 vl2 cap q m' d)::.own (.slice q m' d) 46 6 (ls.map enc)::.blk b2 (hoC u0 u1 u2 u3 u4 u5 cap vc bm2)::linesR bm2 ls::S++([.blk bh (.cells #[w0,.slice a1 n1 c1,w2,w3,w4,w5,.pointer (some ⟨b,0,none⟩),.pointer (some ⟨r,0,none⟩)] 42)]:List Res)) w:=hw8.ds [0,0]
 have hw:Wd Γ5 (.blk bh (.cells #[w0,.slice a1 n1 c1,w2,w3,w4,w5,.pointer (some ⟨b,0,none⟩),.pointer (some ⟨r,0,none⟩)] 42)::.blk b (hoC v0 v1 v2 v3 v4 v5 cap vl bm)::linesR bm ls::.blk r (rfC w0 (.slice a1 n1 c1) w2 w3 w4 w5 vl2 cap q m' d)::.own (.slice q m' d) 46 6 (ls.map enc)::.blk b2 (hoC u0 u1 u2 u3 u4 u5 cap vc bm2)::linesR bm2 ls::S) w:=hw9.perm List.perm_append_comm
 clear hw7 hw8 hw9;refine W_has (l:=[(3,.slice ay nt ct),(9,.pointer (some ⟨bh,0,none⟩)),(10,.bool true),(12,.pointer (some ⟨b2,0,none⟩)),(13,vI),(14,vL)]) ?_ fun ρ hρ=>?_
 ·exact⟨rfl,rfl,rfl,rfl,ht1,ht2,trivial⟩
 clear ht1 ht2 ht';rw[hρ.eq];clear hρ;have hle45:=hle4.trans hle5
 have ho:OpenP Γ5 (.blk b2 (hoC u0 u1 u2 u3 u4 u5 cap vc bm2)::linesR bm2 ls::S) w bh H cap L ls:=⟨b,bm,r,v0,v1,v2,v3,v4,v5,w0,w2,w3,w4,w5,vl,vl2,a1,n1,c1,q,m',d,p1.mono hle45,p2.mono hle45,p3.mono hle45,p4.mono hle45,hw.ps [4,4,4,4]⟩
 have hle:=hle.trans hle45
 have pc:=pc.mono hle5
 repeat first|refine byW ?_|refine byV ?_;intro w hw
 refine W_loop (fun μ ρ w=>∃(Γ':Gho) (L':List Int) (ls':List IntrT) (i:Nat),μ+i=nt∧Has ρ [(3,.slice ay nt ct),(9,.pointer (some ⟨bh,0,none⟩)),(10,.bool true),(12,.pointer (some ⟨b2,0,none⟩)),(13,vI),(14,vL),(15,.int .i64 i)]∧Γ.le Γ'∧Γ5.le Γ'∧DSt H cap L' ls'∧OpenP Γ' (.blk b2 (hoC u0 u1 u2 u3 u4 u5 cap vc bm2)::linesR bm2 ls::S) w bh H cap L' ls') nt ⟨Γ5,L,ls,0,by omega,⟨rfl,rfl,rfl,rfl,rfl,rfl,rfl,trivial⟩,hle,.refl _,hS,ho⟩ ?_
 clear hw hle ho p1 p2 p3 p4 p34;rintro μ ρ w ⟨Γ6,L',ls',i,hμ,hρ,hle,hle6,hS',ho⟩
 rw[hρ.eq];clear hρ;obtain⟨R,hw⟩:=ho.wd;have ht3:=ht.mono hle
 repeat first|refine byW ?_|refine byV ?_;intro w hw
 refine W_cond rfl (fun h=>?_) (fun h=>?_)
 ·have hin:i<nt∧i<40:=by simp at h;omega
  clear h;obtain⟨y,hy⟩:=get_lt (l:=YS) (k:=i) (by omega)
  repeat first|refine byW ?_|refine byV ?_;intro w hw
  refine lCall ((do_O hd hS' y ho).mono fun r w hq=>?_)
  clear hw ho;obtain⟨Γ7,hle7,rfl,ho⟩:=hq;refine⟨_,rfl,?_⟩;obtain⟨R,hw⟩:=ho.wd;have hS4:=doS_st hd.cap hS' y
  generalize doS H cap L' ls' y=t at *
  repeat first|refine byW ?_|refine byV ?_;intro w hw
  exact⟨μ-1,by omega,Γ7,t.1,t.2,i+1,by omega,⟨rfl,rfl,rfl,rfl,rfl,rfl,rfl,trivial⟩,hle.trans hle7,hle6.trans hle7,hS4,ho⟩
 clear h hμ ht3 hw;have hw:=ho.out
 clear ho;have rI:=rI.mono hle6
 have rL:=rL.mono hle6
 have pc:=pc.mono hle6
 repeat(first|(first|refine W_seq ?_|refine W_block ?_|refine W_region ?_|refine W_skip ?_|refine W_ret ?_|refine W_exit ?_)|((first|apply L_bin|apply L_notop);first|(refine lT ?_ ?_;(first|exact rfl|exact decide_eq_true rfl|exact hb1|exact hb2|exact hb3|exact hb4|(focus (simp;done))))|(refine lF ?_ ?_;(first|exact rfl|exact decide_eq_true rfl|exact hb1|exact hb2|exact hb3|exact hb4|(focus (simp;done)))))|(first|refine L_nil ?_|(apply L_plain;first|(apply L_go;first|refine lP ?_|(refine lPg ?_;intro w hw))|(apply L_mf;refine lMakeFunc ?_)|refine lY ?_)|(apply L_guarded;first|refine lGT ?_ (hct:=rfl)|refine lGF ?_ (hct:=rfl)|(apply L_go;first|refine lPG ?_|(refine lPgG ?_;intro w hw))|refine lG ?_))|(refine lAlloc ?_;intro _ w hw)|(refine lBox ?_;intro _ w hw)|(refine lStore ?_;intro w hw))
 refine lCall ((Interrupts_R hN hw).mono fun e w hq=>?_)
 clear hw;obtain⟨vJ,rfl,hw⟩:=hq;refine⟨_,rfl,?_⟩;obtain⟨Γ7,hle7,rJ,hw1⟩:=hw.freeze;clear hw;have hw:=hw1;clear hw1;have rI:=rI.mono hle7
 have rL:=rL.mono hle7
 have pc:=pc.mono hle7
 obtain⟨aI,nI,cI,rfl,-,-,-⟩:=rI.shape;obtain⟨aJ,nJ,cJ,rfl,-,-,-⟩:=rJ.shape;haveI:=sameInt_pg rJ rI
 repeat(first|(first|refine W_seq ?_|refine W_block ?_|refine W_region ?_|refine W_skip ?_|refine W_ret ?_|refine W_exit ?_)|((first|apply L_bin|apply L_notop);first|(refine lT ?_ ?_;(first|exact rfl|exact decide_eq_true rfl|exact hb1|exact hb2|exact hb3|exact hb4|(focus (simp;done))))|(refine lF ?_ ?_;(first|exact rfl|exact decide_eq_true rfl|exact hb1|exact hb2|exact hb3|exact hb4|(focus (simp;done)))))|(first|refine L_nil ?_|(apply L_plain;first|(apply L_go;first|refine lP ?_|(refine lPg ?_;intro w hw))|(apply L_mf;refine lMakeFunc ?_)|refine lY ?_)|(apply L_guarded;first|refine lGT ?_ (hct:=rfl)|refine lGF ?_ (hct:=rfl)|(apply L_go;first|refine lPG ?_|(refine lPgG ?_;intro w hw))|refine lG ?_))|(refine lAlloc ?_;intro _ w hw)|(refine lBox ?_;intro _ w hw)|(refine lStore ?_;intro w hw))
 refine lCall ((Live_any (i:=0) pc hLn rfl hw).mono fun e w hq=>?_)
 clear hw;obtain⟨vM,rfl,hw⟩:=hq;refine⟨_,rfl,?_⟩;obtain⟨Γ8,hle8,rM,hw1⟩:=hw.freeze;clear hw;have hw:=hw1;clear hw1;have rL:=rL.mono hle8
 obtain⟨aL,nL,cL,rfl,-,-,-⟩:=rL.shape;obtain⟨aM,nM,cM,rfl,-,-,-⟩:=rM.shape;haveI:=sameInts_pg rM rL
 repeat(first|(first|refine W_seq ?_|refine W_block ?_|refine W_region ?_|refine W_skip ?_|refine W_ret ?_|refine W_exit ?_)|((first|apply L_bin|apply L_notop);first|(refine lT ?_ ?_;(first|exact rfl|exact decide_eq_true rfl|exact hb1|exact hb2|exact hb3|exact hb4|(focus (simp;done))))|(refine lF ?_ ?_;(first|exact rfl|exact decide_eq_true rfl|exact hb1|exact hb2|exact hb3|exact hb4|(focus (simp;done)))))|(first|refine L_nil ?_|(apply L_plain;first|(apply L_go;first|refine lP ?_|(refine lPg ?_;intro w hw))|(apply L_mf;refine lMakeFunc ?_)|refine lY ?_)|(apply L_guarded;first|refine lGT ?_ (hct:=rfl)|refine lGF ?_ (hct:=rfl)|(apply L_go;first|refine lPG ?_|(refine lPgG ?_;intro w hw))|refine lG ?_))|(refine lAlloc ?_;intro _ w hw)|(refine lBox ?_;intro _ w hw)|(refine lStore ?_;intro w hw))
 exact⟨_,rfl,Γ8,hle.trans (hle7.trans hle8),rfl,hw.ds [0,0]⟩
end Go.Proofs.YthgighljhoneeaaGreat
end
