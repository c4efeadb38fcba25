/- Texts of this proof, one behind another. -/
import Derived.Test.YthgighljhoneeaaGreatM8
set_option linter.unusedVariables false
set_option linter.unusedSimpArgs false
section
open Go Mk
namespace Go.Proofs.YthgighljhoneeaaGreat
set_option maxHeartbeats 64000000
attribute [local irreducible] Calls
attribute [local irreducible] matL
section
variable {H:HwT}{cap:Int}{L:List Int}{ls:List IntrT}
def keepF(f:IntrT→IntrT):Prop:=∀x,(f x).IRQ=x.IRQ∧(f x).Core=x.Core
theorem keep_dlv:keepF dlvX:=fun x=>by unfold dlvX;split <;> exact⟨rfl,rfl⟩
theorem keep_comp{f g:IntrT→IntrT}(hf:keepF f)(hg:keepF g):keepF (fun x=>f (g x)):=fun x=>⟨(hf _).1.trans (hg x).1,(hf _).2.trans (hg x).2⟩
theorem set_id(l:List IntrT)(irq:Int):setI l irq id=l:=by
 unfold setI
 have:(fun x:IntrT=>if x.IRQ=irq then id x else x)=id:=by funext x;split <;> rfl
 rw[this,List.map_id]
theorem dlv_set(h:∀x∈ls,dlv x=false)(irq:Int)(f:IntrT→IntrT):dlvL (setI ls irq f)=setI ls irq (fun x=>dlvX (f x)):=by
 unfold dlvL setI
 rw[List.map_map]
 refine List.map_congr_left fun x hx=>?_
 show dlvX (if x.IRQ=irq then f x else x)=_
 split
 ·rfl
 ·exact dlvX_no (h x hx)
theorem step_one(h:∀x∈ls,dlv x=false){k:Int}(h0:0≤k)(h6:k<6)(irq core drv:Int)(on:Bool):(stepS H cap L ls k irq core drv on).1=L∧∃f,keepF f∧(stepS H cap L ls k irq core drv on).2.1=setI ls irq f:=by
 have kid:keepF id:=fun x=>⟨rfl,rfl⟩
 have hn:∃f,keepF f∧ls=setI ls irq f:=⟨id,kid,(set_id _ _).symm⟩
 have hf:∀f,keepF f→∃f',keepF f'∧dlvL (setI ls irq f)=setI ls irq f':=fun f hf=>⟨_,keep_comp keep_dlv hf,dlv_set h irq f⟩
 unfold stepS
 by_cases k0:k=0∨k=1
 ·rw[if_pos k0]
  refine⟨rfl,?_⟩
  unfold rseS
  split
  ·exact hn
  ·exact hf _ fun x=>⟨rfl,rfl⟩
 rw[if_neg k0]
 by_cases k2:k=2
 ·rw[if_pos k2]
  refine⟨rfl,?_⟩
  unfold ackS
  split
  ·exact hn
  ·split
   ·exact hn
   ·exact hf _ fun x=>⟨rfl,rfl⟩
 rw[if_neg k2]
 by_cases k3:k=3
 ·rw[if_pos k3]
  refine⟨rfl,?_⟩
  unfold mskS
  split
  ·exact hn
  ·exact hf _ fun x=>⟨rfl,rfl⟩
 rw[if_neg k3]
 by_cases k4:k=4
 ·rw[if_pos k4]
  refine⟨rfl,?_⟩
  unfold attS
  split
  ·exact hn
  ·split
   ·exact hn
   ·split
    ·exact hn
    ·exact hf _ fun x=>⟨rfl,rfl⟩
 rw[if_neg k4,if_pos (by omega)]
 refine⟨rfl,?_⟩
 unfold detS
 split
 ·exact hn
 ·split
  ·exact hn
  ·exact⟨detF,fun x=>⟨rfl,rfl⟩,rfl⟩
theorem asc_uniq{l:List IntrT}(h:AscI l){i j:Nat}{x y:IntrT}(hx:l[i]? = some x)(hy:l[j]? = some y)(he:x.IRQ=y.IRQ):i=j:=by
 obtain⟨hi,rfl⟩:=List.getElem?_eq_some_iff.1 hx
 obtain⟨hj,rfl⟩:=List.getElem?_eq_some_iff.1 hy
 have h2:=List.pairwise_iff_getElem.1 h
 rcases Nat.lt_trichotomy i j with h1|h1|h1
 ·have:=h2 i j hi hj h1;omega
 ·exact h1
 ·have:=h2 j i hj hi h1;omega
theorem others_law(hv:validS H=0)(hS:DSt H cap L ls)(hne:ls≠[])(x:StepT)(hr:x.Raw=false)(h0:0≤x.Kind)(h6:x.Kind<6){i:Nat}{a:IntrT}(ha:ls[i]? = some a) :
  ∃b,(doS H cap L ls x).2[i]? = some b∧b.IRQ=a.IRQ∧b.Core=a.Core∧((i:Int)≠x.IRQ%(ls.length:Int)→b=a):=by
 have hpos:0<ls.length:=List.length_pos_iff.2 hne
 unfold doS
 rw[if_neg (fun h=>hne h.2),Int.emod_eq_of_lt h0 (by omega)]
 obtain⟨-,f,hk,hf⟩:=step_one (H:=H) (cap:=cap) (L:=L) hS.no h0 h6 (argS H ls x).1 (argS H ls x).2.1 (argS H ls x).2.2 x.On
 simp only
 rw[hf]
 unfold setI
 rw[List.getElem?_map,ha]
 refine⟨if a.IRQ=(argS H ls x).1 then f a else a,rfl,?_⟩
 split
 ·rename_i he
  refine⟨(hk a).1,(hk a).2,fun hi=>?_⟩
  exfalso
  have e1:(argS H ls x).1=(ls.getD (x.IRQ%(ls.length:Int)).toNat default).IRQ:=by unfold argS;rw[if_neg (by rw[hr];decide)]
  obtain⟨j,hj,hje⟩:∃j:Nat,j<ls.length∧x.IRQ%(ls.length:Int)=(j:Int):=⟨(x.IRQ%(ls.length:Int)).toNat,by have:=Int.emod_lt_of_pos x.IRQ (show (0:Int)<ls.length by omega);have:=Int.emod_nonneg x.IRQ (show (ls.length:Int)≠0 by omega);omega,by have:=Int.emod_nonneg x.IRQ (show (ls.length:Int)≠0 by omega);omega⟩
  obtain⟨u,hu⟩:=get_lt (l:=ls) (k:=j) hj
  rw[e1,hje,Int.toNat_natCast,List.getD_eq_getElem?_getD,hu,Option.getD_some]at he
  have:=asc_uniq (hS.asc hv) ha hu he
  omega
 ·exact⟨rfl,rfl,fun _=>rfl⟩
theorem doS_len(hc:CapOk H cap)(hS:DSt H cap L ls)(x:StepT):(doS H cap L ls x).2.length=ls.length:=by rw[(doS_st hc hS x).len,hS.len]
end
theorem DriverOthers_any{Γ:Gho}{S:List Res}{w:World}{a ap ax:Option Addr}{m c np cp ns cs:Nat}{L0 PK:List Int}{XS:List StepT}(x:StepT)(hr:RepS Γ (.slice a m c) 1 (intRows L0))(hp:RepS Γ (.slice ap np cp) 1 (intRows PK))(hs:RepS Γ (.slice ax ns cs) 5 (XS.map enc))(hw:Wd Γ S w) :
  Calls Tryz.prog 3 #[.slice a m c,.slice ap np cp,.slice ax ns cs,.agg (enc x).toArray] w fun e w'=>∃Γ',Γ.le Γ'∧e=.returned (.bool true)∧Wd Γ' S w':=by
 obtain⟨hnp,hncp,hccp⟩:=rep_facts hp
 obtain⟨hnr,hncr,hccr⟩:=rep_facts hr
 obtain⟨hns,hncs,hccs⟩:=rep_facts hs
 have hns:ns=XS.length:=by simpa using hns
 refine calls_of_W Tryz.func3 rfl rfl ?_
 repeat first|refine byW ?_|refine byV ?_;intro w hw
 refine lBox ?_
 intro bx w hw
 have hw:Wd Γ (.blk bx (.cells (enc x).toArray 25)::S) w:=hw
 repeat first|refine byW ?_|refine byV ?_;intro w hw
 refine W_cond rfl (fun h=>?_) (fun h=>?_)
 ·repeat first|refine byW ?_|refine byV ?_;intro w hw
  exact⟨_,rfl,Γ,.refl _,rfl,hw.drop⟩
 have hLs:¬(200<(m:Int)∨6<(np:Int)):=by simpa using h
 clear h
 repeat first|refine byW ?_|refine byV ?_;intro w hw
 refine lCall ((open_any hr hp (by omega) 1 hw).mono fun r w hq=>?_)
 clear hw
 obtain⟨Γ1,H,bh,L,ls,hle,rfl,hd,hS,ho⟩:=hq
 refine⟨_,rfl,?_⟩
 generalize (if (1:Int)<(H.Devs.length:Int) then (H.Devs.length:Int) else 1)+1%3=cap at *
 obtain⟨R,hw⟩:=ho.wd
 repeat first|refine byW ?_|refine byV ?_;intro w hw
 refine W_loop (fun μ ρ w=>∃(Γ':Gho) (L:List Int) (ls:List IntrT) (i:Nat),μ+i=ns∧Has ρ [(2,.slice ax ns cs),(7,.pointer (some ⟨bx,0,none⟩)),(9,.pointer (some ⟨bh,0,none⟩)),(10,.bool true),(11,.int .i64 i)]∧Γ.le Γ'∧DSt H cap L ls∧OpenP Γ' (.blk bx (.cells (enc x).toArray 25)::S) w bh H cap L ls) ns ⟨Γ1,L,ls,0,by omega,⟨rfl,rfl,rfl,rfl,rfl,trivial⟩,hle,hS,ho⟩ ?_
 clear hw hle hS ho hr hp
 rintro μ ρ w ⟨Γ3,L,ls,i,hμ,hρ,hle,hS,ho⟩
 rw[hρ.eq]
 clear hρ
 obtain⟨R,hw⟩:=ho.wd
 have hs3:=hs.mono hle
 repeat first|refine byW ?_|refine byV ?_;intro w hw
 refine W_cond rfl (fun h=>?_) (fun h=>?_)
 ·have hin:i<ns∧i<40:=by simp at h;omega
  clear h
  obtain⟨y,hy⟩:=get_lt (l:=XS) (k:=i) (by omega)
  repeat first|refine byW ?_|refine byV ?_;intro w hw
  refine lCall ((do_O hd hS y ho).mono fun r w hq=>?_)
  clear hw ho
  obtain⟨Γ4,hle4,rfl,ho⟩:=hq
  refine⟨_,rfl,?_⟩
  obtain⟨R,hw⟩:=ho.wd
  have hS4:=doS_st hd.cap hS y
  generalize doS H cap L ls y=t at *
  repeat first|refine byW ?_|refine byV ?_;intro w hw
  exact⟨μ-1,by omega,Γ4,t.1,t.2,i+1,by omega,⟨rfl,rfl,rfl,rfl,rfl,trivial⟩,hle.trans hle4,hS4,ho⟩
 clear hs3 hμ h
 repeat first|refine byW ?_|refine byV ?_;intro w hw
 refine W_cond rfl (fun h=>?_) (fun h=>?_)
 ·exact absurd h (by simp)
 clear h hw
 obtain⟨b,bm,r,v0,v1,v2,v3,v4,v5,w0,w2,w3,w4,w5,vl,vl2,a1,n1,c1,q,m',d,p1,p2,p3,p4,hw⟩:=ho
 have hdv:=hd.dev
 have hlen:=hS.len
 have hN:ls.length≤1000:=by omega
 repeat first|refine byW ?_|refine byV ?_;intro w hw
 refine lCall ((Interrupts_R hN hw).mono fun r w hq=>?_)
 clear hw
 obtain⟨vb,rfl,hw⟩:=hq
 refine⟨_,rfl,?_⟩
 obtain⟨ab,nb,cb,rfl,hnb,hnbc,hcb⟩:=hw.own_shape (i:=0) rfl
 have hnb:nb=ls.length:=by simpa using hnb
 obtain⟨Γ5,hle5,rb,hw1⟩:=hw.freeze
 clear hw
 have hw:=hw1
 clear hw1
 repeat first|refine byW ?_|refine byV ?_;intro w hw
 refine lStore (i:=5) ?_
 intro w hw
 repeat first|refine byW ?_|refine byV ?_;intro w hw
 refine lStore (i:=5) ?_
 intro w hw
 have hw:Wd Γ5 (.blk b (hoC v0 v1 v2 v3 v4 v5 cap vl bm)::linesR bm ls::.blk r (rfC w0 (.slice a1 n1 c1) w2 w3 w4 w5 vl2 cap q m' d)::.own (.slice q m' d) 46 6 (ls.map enc)::.blk bh (.cells #[w0,.slice a1 n1 c1,w2,w3,w4,w5,.pointer (some ⟨b,0,none⟩),.pointer (some ⟨r,0,none⟩)] 42)::.blk bx (.cells (enc (StepT.mk (x.Kind%6) x.IRQ x.Core x.On false)).toArray 25)::S) w:=hw
 have ho:OpenP Γ5 (.blk bx (.cells (enc (StepT.mk (x.Kind%6) x.IRQ x.Core x.On false)).toArray 25)::S) w bh H cap L ls:=⟨b,bm,r,v0,v1,v2,v3,v4,v5,w0,w2,w3,w4,w5,vl,vl2,a1,n1,c1,q,m',d,p1.mono hle5,p2.mono hle5,p3.mono hle5,p4.mono hle5,hw⟩
 by_cases hne:ls=[]
 ·have hb1:decide ((nb:Int)=0)=true:=by rw[hnb,hne];rfl
  repeat(first|(first|refine W_seq ?_|refine W_block ?_|refine W_region ?_|refine W_skip ?_|refine W_ret ?_|refine W_exit ?_)|((first|apply L_bin|apply L_notop);first|(refine lT ?_ ?_;(first|exact rfl|exact decide_eq_true rfl|exact hb1|exact hb2|exact hb3|exact hb4|(focus (simp;done))))|(refine lF ?_ ?_;(first|exact rfl|exact decide_eq_true rfl|exact hb1|exact hb2|exact hb3|exact hb4|(focus (simp;done)))))|(first|refine L_nil ?_|(apply L_plain;first|(apply L_go;first|refine lP ?_|(refine lPg ?_;intro w hw))|(apply L_mf;refine lMakeFunc ?_)|refine lY ?_)|(apply L_guarded;first|refine lGT ?_ (hct:=rfl)|refine lGF ?_ (hct:=rfl)|(apply L_go;first|refine lPG ?_|(refine lPgG ?_;intro w hw))|refine lG ?_))|(refine lAlloc ?_;intro _ w hw)|(refine lBox ?_;intro _ w hw)|(refine lStore ?_;intro w hw))
  refine W_cond rfl (fun h=>?_) (fun h=>?_)
  ·repeat(first|(first|refine W_seq ?_|refine W_block ?_|refine W_region ?_|refine W_skip ?_|refine W_ret ?_|refine W_exit ?_)|((first|apply L_bin|apply L_notop);first|(refine lT ?_ ?_;(first|exact rfl|exact decide_eq_true rfl|exact hb1|exact hb2|exact hb3|exact hb4|(focus (simp;done))))|(refine lF ?_ ?_;(first|exact rfl|exact decide_eq_true rfl|exact hb1|exact hb2|exact hb3|exact hb4|(focus (simp;done)))))|(first|refine L_nil ?_|(apply L_plain;first|(apply L_go;first|refine lP ?_|(refine lPg ?_;intro w hw))|(apply L_mf;refine lMakeFunc ?_)|refine lY ?_)|(apply L_guarded;first|refine lGT ?_ (hct:=rfl)|refine lGF ?_ (hct:=rfl)|(apply L_go;first|refine lPG ?_|(refine lPgG ?_;intro w hw))|refine lG ?_))|(refine lAlloc ?_;intro _ w hw)|(refine lBox ?_;intro _ w hw)|(refine lStore ?_;intro w hw))
   exact⟨_,rfl,Γ5,hle.trans hle5,rfl,hw.ds [0,0,0,0,0,0]⟩
  ·exact absurd h (by simp)
 have hnb1:1≤nb:=by
  have:=List.length_pos_iff.2 hne
  omega
 have hb1:decide ((nb:Int)=0)=false:=decide_eq_false (by omega)
 repeat(first|(first|refine W_seq ?_|refine W_block ?_|refine W_region ?_|refine W_skip ?_|refine W_ret ?_|refine W_exit ?_)|((first|apply L_bin|apply L_notop);first|(refine lT ?_ ?_;(first|exact rfl|exact decide_eq_true rfl|exact hb1|exact hb2|exact hb3|exact hb4|(focus (simp;done))))|(refine lF ?_ ?_;(first|exact rfl|exact decide_eq_true rfl|exact hb1|exact hb2|exact hb3|exact hb4|(focus (simp;done)))))|(first|refine L_nil ?_|(apply L_plain;first|(apply L_go;first|refine lP ?_|(refine lPg ?_;intro w hw))|(apply L_mf;refine lMakeFunc ?_)|refine lY ?_)|(apply L_guarded;first|refine lGT ?_ (hct:=rfl)|refine lGF ?_ (hct:=rfl)|(apply L_go;first|refine lPG ?_|(refine lPgG ?_;intro w hw))|refine lG ?_))|(refine lAlloc ?_;intro _ w hw)|(refine lBox ?_;intro _ w hw)|(refine lStore ?_;intro w hw))
 clear hw
 refine lCall ((do_O hd hS (StepT.mk (x.Kind%6) x.IRQ x.Core x.On false) ho).mono fun r w hq=>?_)
 clear ho
 obtain⟨Γ6,hle6,rfl,ho⟩:=hq
 refine⟨_,rfl,?_⟩
 have hlen6:=doS_len hd.cap hS (StepT.mk (x.Kind%6) x.IRQ x.Core x.On false)
 have hlaw:=fun (i:Nat) (a:IntrT) (ha:ls[i]? = some a)=>others_law hd.cap.v hS hne (StepT.mk (x.Kind%6) x.IRQ x.Core x.On false) rfl (Int.emod_nonneg _ (by decide)) (Int.emod_lt_of_pos _ (by decide)) ha
 generalize doS H cap L ls (StepT.mk (x.Kind%6) x.IRQ x.Core x.On false)=t at *
 obtain⟨R,hw⟩:=ho.wd
 repeat(first|(first|refine W_seq ?_|refine W_block ?_|refine W_region ?_|refine W_skip ?_|refine W_ret ?_|refine W_exit ?_)|((first|apply L_bin|apply L_notop);first|(refine lT ?_ ?_;(first|exact rfl|exact decide_eq_true rfl|exact hb1|exact hb2|exact hb3|exact hb4|(focus (simp;done))))|(refine lF ?_ ?_;(first|exact rfl|exact decide_eq_true rfl|exact hb1|exact hb2|exact hb3|exact hb4|(focus (simp;done)))))|(first|refine L_nil ?_|(apply L_plain;first|(apply L_go;first|refine lP ?_|(refine lPg ?_;intro w hw))|(apply L_mf;refine lMakeFunc ?_)|refine lY ?_)|(apply L_guarded;first|refine lGT ?_ (hct:=rfl)|refine lGF ?_ (hct:=rfl)|(apply L_go;first|refine lPG ?_|(refine lPgG ?_;intro w hw))|refine lG ?_))|(refine lAlloc ?_;intro _ w hw)|(refine lBox ?_;intro _ w hw)|(refine lStore ?_;intro w hw))
 refine W_cond rfl (fun h=>?_) (fun h=>?_)
 ·exact absurd h (by simp)
 clear h hw
 have rb:=rb.mono hle6
 obtain⟨b,bm,r,v0,v1,v2,v3,v4,v5,w0,w2,w3,w4,w5,vl,vl2,a1,n1,c1,q,m',d,-,-,-,-,hw⟩:=ho
 repeat first|refine byW ?_|refine byV ?_;intro w hw
 refine lCall ((Interrupts_R (by omega) hw).mono fun r w hq=>?_)
 clear hw
 obtain⟨va,rfl,hw⟩:=hq
 refine⟨_,rfl,?_⟩
 obtain⟨aa,na,ca,rfl,hna,hnac,hca⟩:=hw.own_shape (i:=0) rfl
 have hna:na=ls.length:=by simpa[hlen6] using hna
 obtain⟨Γ7,hle7,ra,hw1⟩:=hw.freeze
 clear hw
 have hw:=hw1
 clear hw1
 have rb:=rb.mono hle7
 haveI:PosL (nb:Int):=⟨by omega⟩
 have he:na=nb:=by omega
 subst he
 repeat first|refine byW ?_|refine byV ?_;intro w hw
 refine W_loop (fun μ ρ w=>∃(i:Nat),μ+i=na∧Has ρ [(12,.slice ab na cb),(13,.slice aa na ca),(14,.int .i64 (x.IRQ%(na:Int))),(15,.int .i64 i)]∧Wd Γ7 S w) na ⟨0,by omega,⟨rfl,rfl,rfl,rfl,trivial⟩,hw.ds [0,0,0,0,0,0]⟩ ?_
 clear hw
 rintro μ ρ w ⟨i,hμ,hρ,hw⟩
 rw[hρ.eq]
 clear hρ
 repeat first|refine byW ?_|refine byV ?_;intro w hw
 refine W_cond rfl (fun h=>?_) (fun h=>?_)
 ·have hin:i<na:=by have:=of_decide_eq_true h;omega
  clear h
  obtain⟨y,hy⟩:=get_lt (l:=ls) (k:=i) (by omega)
  obtain⟨z,hz,hz1,hz2,hz3⟩:=hlaw i y hy
  rw[←hnb]at hz3
  repeat first|refine byW ?_|refine byV ?_;intro w hw
  refine W_quiet (by kernel_rfl) (by kernel_rfl) hw ?_
  refine byQ ?_
  refine qG ?_ (hy:=by intro hc w hw;exact y_idxI hw ra byOP byOP byHC byHC)
  refine byQ ?_
  refine qG ?_ (hy:=by intro hc w hw;exact y_neqT (a:=z) (b:=y) byOP byOP rfl)
  refine byQ ?_
  refine qG ?_ (hy:=by intro hc w hw;exact y_idxI hw ra byOP byOP byHC byHC)
  refine byQ ?_
  refine qG ?_ (hy:=by intro hc w hw;exact y_idxI hw ra byOP byOP byHC byHC)
  refine byQ ?_
  intro w hw
  refine W_cond rfl (fun h=>?_) (fun h=>?_)
  ·exfalso
   simp[hz1,hz2]at h
   exact h.2 (hz3 h.1)
  clear h
  repeat first|refine byW ?_|refine byV ?_;intro w hw
  exact⟨μ-1,by omega,i+1,by omega,⟨rfl,rfl,rfl,rfl,trivial⟩,hw⟩
 ·repeat first|refine byW ?_|refine byV ?_;intro w hw
  exact⟨_,rfl,Γ7,hle.trans (hle5.trans (hle6.trans hle7)),rfl,hw⟩
end Go.Proofs.YthgighljhoneeaaGreat
end
