/- Texts of this proof, one behind another. -/
import Derived.Test.YtlmiakjbogojgaaGreatDoorM5
import Derived.Test.YtlmiakjbogojgaaGreatDoorM2
import Derived.Shelf.Lays
import Derived.Shelf.LaysM
import Derived.Shelf.Strconv.Itoa4
import Derived.Room.Shelf.Join48
import Derived.Test.YtlmiakjbogojgaaGreatDoorM3
import Derived.Laws.CopyRow
set_option linter.unusedVariables false
set_option linter.unusedSimpArgs false
section
open Go Mk
namespace Go.Proofs.YtlmiakjbogojgaaGreatDoor
set_option maxHeartbeats 16000000
attribute [local irreducible] Calls I7
theorem Hq{Γ:C8}{S:List B6}{w:World}{v:Value}{xs:List D1}(hr:P4 Γ S v 2 (xs.map cF))(hN:xs.length≤1000000)(hw:Wd Γ S w) :
  Calls Tryz.prog 271 #[v] w fun e w'=>∃v',e=.returned v'∧Wd Γ (.own v' 80 2 (xs.map cF)::S) w':=by
 obtain⟨a,n,c,rfl,hn,hnc,hc⟩:=hr.shape;simp only[List.length_map]at hn
 refine A7 Tryz.func271 rfl rfl ?_
 refine A6 ?_;refine A0 rfl (fun h=>?_) (fun h=>?_)
 ·refine A6 ?_;have hx:xs=[]:=by
   cases a with
   | none=>
    cases xs with
    | nil=>rfl
    | cons x xs=>have:=(hr.rd hw).at_ (by simp);cases this
   | some a=>cases h
  subst hx;exact⟨_,rfl,_,rfl,Wd.addNil hw⟩
 ·refine A6 ?_;refine B5 [] ?_
  intro a2 w hw;refine A6 ?_;refine T3 (i:=0) (rows2:=xs.map cF) ?_ ((P4.cons hr).rd hw) rfl rfl hw rfl (List.all_eq_true.2 (Mq xs)) (by simpa using hn)
  intro v' w hw;refine A6 ?_;exact⟨_,rfl,v',rfl,by simpa using hw⟩
theorem JQ{Γ:C8}{S:List B6}{w:World}{v:Value}{xs:List Val}(hr:D7 Γ v 3 (xs.map enc))(hN:xs.length≤1000000)(hw:Wd Γ S w) :
  Calls Tryz.prog 204 #[v] w fun e w'=>∃v',e=.returned v'∧Wd Γ (.own v' 65 3 (xs.map enc)::S) w':=by
 obtain⟨a,n,c,rfl,hn,hnc,hc⟩:=hr.shape;simp only[List.length_map]at hn
 refine A7 Tryz.func204 rfl rfl ?_
 refine A6 ?_;refine A0 rfl (fun h=>?_) (fun h=>?_)
 ·refine A6 ?_;have hx:xs=[]:=by
   cases a with
   | none=>
    cases xs with
    | nil=>rfl
    | cons x xs=>have:=(hr.rd hw).at_ (by simp);cases this
   | some a=>cases h
  subst hx;exact⟨_,rfl,_,rfl,Wd.addNil hw⟩
 ·refine A6 ?_;refine B5 [] ?_
  intro a2 w hw;refine A6 ?_;refine T3 (i:=0) (rows2:=xs.map enc) ?_ (hr.rd hw) rfl rfl hw rfl (Jb xs) (by simpa using hn)
  intro v' w hw;refine A6 ?_;exact⟨_,rfl,v',rfl,by simpa using hw⟩
def Dp:Value:=.func (.func 73) #[] #[]
def VY(x y:D1):Bool:=decide (I7 x.fact y.fact=0)
theorem Oh{Γ:C8}{S:List B6}{w:World}{b3:Nat}{f g:D1}(hf:BG Γ f)(hg:BG Γ g)(hw:Wd Γ (.blk b3 (.cells #[Dp] 153)::S) w) :
  Calls Tryz.prog 273 #[.agg (cF f).toArray,.agg (cF g).toArray,.pointer (some ⟨b3,0,none⟩)] w fun e w'=>e=.returned (.bool (VY f g))∧Wd Γ (.blk b3 (.cells #[Dp] 153)::S) w':=by
 have hC:=TD hf hg
 obtain⟨fr,fa,fn,fc,fs⟩:=f;obtain⟨gr,ga,gn,gc,gs⟩:=g;refine A7 Tryz.func273 rfl rfl ?_
 refine A6 ?_;refine H2 ?_;intro b1 w hw;refine H2 ?_;intro b2 w hw;have hw:Wd Γ (.blk b2 (.cells #[.string gr,.slice ga gn gc] 80)::.blk b1 (.cells #[.string fr,.slice fa fn fc] 80)::.blk b3 (.cells #[Dp] 153)::S) w:=hw
 refine A6 ?_;refine EF (fst:=[]) (cap:=[]) ?_
 refine(hC.h _ _ hw).mono ?_
 rintro e w ⟨rfl,hw⟩
 refine⟨_,rfl,?_⟩;refine A6 ?_;exact⟨_,rfl,rfl,hw.drop.drop⟩
theorem PU{Γ:C8}{S:List B6}{w:World}{b3:Nat}{v:Value}(fs:List D1)(hok:∀f∈fs,BG Γ f)(hl:fs.length≤1000000)(hw:Wd Γ (.own v 80 2 (fs.map cF)::.blk b3 (.cells #[Dp] 153)::S) w) :
  Calls Tryz.prog 272 #[v,.func (.func 273) #[] #[.pointer (some ⟨b3,0,none⟩)]] w fun e w'=>∃v',e=.returned v'∧Wd Γ (.own v' 80 2 ((s8 VY fs).map cF)::.blk b3 (.cells #[Dp] 153)::S) w':=by
 obtain⟨a,n,c,rfl,hn,hnc,hc⟩:=hw.own_shape (i:=0) rfl
 simp only[List.length_map]at hn
 refine A7 Tryz.func272 rfl rfl ?_
 refine A6 ?_;refine A0 rfl (fun h=>?_) (fun h=>?_)
 ·have h:n<2:=by have:=of_decide_eq_true h;omega
  refine A6 ?_;have hE:s8 VY fs=fs:=by
   cases fs with
   | nil=>rfl
   | cons x fs=>
    cases fs with
    | nil=>rfl
    | cons y fs=>simp at hn;omega
  rw[hE];exact⟨_,rfl,_,rfl,hw⟩
 have h:2≤n:=by have:=of_decide_eq_false h;omega
 refine A6 ?_;refine B3 (fun μ ρ w=>∃(k:Nat),μ+k=n∧1≤k∧Has ρ [(0,.slice a n c),(1,.func (.func 273) #[] #[.pointer (some ⟨b3,0,none⟩)]),(5,.int .i64 k)]∧s8 VY (fs.take k)=fs.take k∧Wd Γ (.own (.slice a n c) 80 2 (fs.map cF)::.blk b3 (.cells #[Dp] 153)::S) w) (n-1) ⟨1,by omega,by omega,⟨rfl,rfl,rfl,trivial⟩,?_,hw⟩ ?_
 ·cases fs with
  | nil=>rfl
  | cons x fs=>rfl
 clear hw;rintro μ ρ w ⟨k,hk,hk1,hρ,ho,hw⟩
 rw[hρ.eq];refine A6 ?_;refine A0 rfl (fun h=>?_) (fun h=>?_)
 ·have hkn:k<n:=by have:=of_decide_eq_true h;omega
  obtain⟨y,hy⟩:=B2 (l:=fs) (k:=k) (by omega)
  obtain⟨x,hx0⟩:=B2 (l:=fs) (k:=k-1) (by omega)
  have hx:fs[((k:Int)-1).toNat]? = some x:=by rw[show ((k:Int)-1).toNat=k-1 from by omega];exact hx0
  have hfy:=hok y (List.mem_of_getElem? hy)
  have hfx:=hok x (List.mem_of_getElem? hx0)
  have hsucc:=DI (p:=VY) (by omega) hy hx0
  refine A6 ?_;refine G9 (by kernel_rfl) (by kernel_rfl) hw ?_
  iterate 10 (first|refine Bs ?_|(apply U3;first|(apply i9;first|refine qP ?_|refine Vs ?_)|refine qY ?_)|(apply M9;first|(apply i9;first|refine Vr ?_|refine IY ?_)|refine qG ?_))
  refine cJ (v:=.bool (VY y x)) (cap:=[.pointer (some ⟨b3,0,none⟩)]) (vs:=[.agg (cF y).toArray,.agg (cF x).toArray]) (fun Y w hw=>?_) ?_
  ·have hw:Wd Γ (.blk b3 (.cells #[Dp] 153)::(.own (.slice a n c) 80 2 (fs.map cF)::S++Y)) w:=hw.ps [1]
   refine(Oh hfy hfx hw).mono ?_
   rintro e w ⟨rfl,hw⟩
   exact⟨rfl,hw.ps [1]⟩
  refine X3 ?_;intro w hw;refine A0 rfl (fun h2=>?_) (fun h2=>?_)
  ·rw[if_pos h2]at hsucc;refine A6 ?_;refine B3 (fun μ ρ w=>∃(m q:Nat) (cur:List D1),μ+(k+m)=n∧1≤m∧1≤q∧q<k+m∧Has ρ [(0,.slice a n c),(1,.func (.func 273) #[] #[.pointer (some ⟨b3,0,none⟩)]),(5,.int .i64 q),(6,.slice (Bc a k c 2) (n-k) (c-k)),(7,.int .i64 m)]∧cur.length=n∧cur.take q=s8 VY (fs.take (k+m))∧(∀i,k+m-1≤i→cur[i]? = fs[i]?)∧Wd Γ (.own (.slice a n c) 80 2 (cur.map cF)::.blk b3 (.cells #[Dp] 153)::S) w) (n-(k+1)) ⟨1,k,fs,by omega,by omega,by omega,by omega,⟨rfl,rfl,rfl,rfl,rfl,trivial⟩,hn.symm,by rw[hsucc,ho],fun i _=>rfl,hw⟩ ?_
   clear hw hρ hsucc;rintro μ2 ρ w ⟨m,q,cur,hm,hm1,hq1,hq2,hρ,hcl,hcur,hsame,hw⟩
   rw[hρ.eq];refine A6 ?_;refine A0 rfl (fun h3=>?_) (fun h3=>?_)
   ·have hmn:k+m<n:=by have:=of_decide_eq_true h3;omega
    obtain⟨y2,hy2⟩:=B2 (l:=fs) (k:=k+m) (by omega)
    obtain⟨x2,hx2⟩:=B2 (l:=fs) (k:=k+m-1) (by omega)
    have hcy:(cur.drop k)[m]? = some y2:=by rw[List.getElem?_drop,hsame _ (by omega)];exact hy2
    have hcx:(cur.drop k)[((m:Int)-1).toNat]? = some x2:=by
     rw[List.getElem?_drop,hsame _ (by omega),show k+((m:Int)-1).toNat=k+m-1 from by omega];exact hx2
    have hfy2:=hok y2 (List.mem_of_getElem? hy2)
    have hfx2:=hok x2 (List.mem_of_getElem? hx2)
    have hsucc:=DI (p:=VY) (by omega) hy2 hx2
    have hlen:n-k=((cur.drop k).map cF).length:=by simp[hcl]
    have hR2:P4 Γ (.own (.slice a n c) 80 2 (cur.map cF)::.blk b3 (.cells #[Dp] 153)::S) (.slice (Bc a k c 2) (n-k) (c-k)) 2 ((cur.drop k).map cF):=⟨_,_,_,rfl,hlen,by omega,by omega,fun w hw=>by
     have:=(Wd.own_rd (i:=0) hw rfl).cut (c:=c) (by simp;omega) k (by simp;omega)
     rwa [←List.map_drop]at this⟩
    refine A6 ?_;refine G9 (by kernel_rfl) (by kernel_rfl) hw ?_
    iterate 10 (first|refine Bs ?_|(apply U3;first|(apply i9;first|refine qP ?_|refine Vs ?_)|refine qY ?_)|(apply M9;first|(apply i9;first|refine Vr ?_|refine IY ?_)|refine qG ?_))
    refine cJ (v:=.bool (VY y2 x2)) (cap:=[.pointer (some ⟨b3,0,none⟩)]) (vs:=[.agg (cF y2).toArray,.agg (cF x2).toArray]) (fun Y w hw=>?_) ?_
    ·have hw:Wd Γ (.blk b3 (.cells #[Dp] 153)::(.own (.slice a n c) 80 2 (cur.map cF)::S++Y)) w:=hw.ps [1]
     refine(Oh hfy2 hfx2 hw).mono ?_
     rintro e w ⟨rfl,hw⟩
     exact⟨rfl,hw.ps [1]⟩
    refine X3 ?_;intro w hw;refine A0 rfl (fun h4=>?_) (fun h4=>?_)
    ·have h4:VY y2 x2=false:=by simpa using h4
     rw[if_neg (by rw[h4];decide)]at hsucc
     refine A6 ?_;refine DJ ?_;intro w hw;have hw:Wd Γ (.own (.slice a n c) 80 2 ((cur.map cF).set q (cF y2))::.blk b3 (.cells #[Dp] 153)::S) w:=hw
     rw[←List.map_set]at hw;refine A6 ?_;refine⟨n-(k+(m+1)),by omega,m+1,q+1,cur.set q y2,by omega,by omega,by omega,by omega,⟨rfl,rfl,rfl,rfl,rfl,trivial⟩,by rw[List.length_set];exact hcl,?_,fun i hi=>?_,hw⟩
     ·rw[show k+(m+1)=k+m+1 from rfl,hsucc,←hcur,List.take_add_one,List.take_set_of_le (by omega),List.getElem?_set_self (by omega)];rfl
     ·rw[List.getElem?_set_ne (by omega)];exact hsame i (by omega)
    ·have h4:VY y2 x2=true:=by simpa using h4
     rw[if_pos h4]at hsucc;refine A6 ?_;exact⟨n-(k+(m+1)),by omega,m+1,q,cur,by omega,by omega,by omega,by omega,⟨rfl,rfl,rfl,rfl,rfl,trivial⟩,hcl,by rw[show k+(m+1)=k+m+1 from rfl,hsucc];exact hcur,fun i hi=>hsame i (by omega),hw⟩
   ·have hmn:k+m=n:=by have:=of_decide_eq_false h3;omega
    have hfn:fs.take n=fs:=List.take_of_length_le (by omega)
    rw[hmn,hfn]at hcur;have hqn:q≤n:=by omega
    have hw:=Wd.own_take (i:=0) (m:=q) hw rfl hqn
    rw[←List.map_take,hcur]at hw;have hw:Wd Γ (.own (.slice a q c) 80 2 ((s8 VY fs).map cF)::.blk b3 (.cells #[Dp] 153)::S) w:=hw
    refine A6 ?_;refine Vw ?_;intro w hw;refine A6 ?_;exact⟨_,rfl,_,rfl,hw⟩
  ·rw[if_neg (by rw[h2];decide)]at hsucc
   refine A6 ?_;refine⟨μ-1,by omega,k+1,by omega,by omega,⟨rfl,rfl,rfl,trivial⟩,?_,hw⟩
   rw[hsucc,ho,List.take_add_one,hy];rfl
 ·have hkn:¬k<n:=by have:=of_decide_eq_false h;omega
  rw[List.take_of_length_le (by omega)]at ho
  refine A6 ?_;rw[ho];exact⟨_,rfl,_,rfl,hw⟩
end Go.Proofs.YtlmiakjbogojgaaGreatDoor
end
section
open Go Mk
namespace Go.Proofs.YtlmiakjbogojgaaGreatDoor
set_option maxHeartbeats 16000000
attribute [local irreducible] Calls I7
def j8(v:Val):Prop:=(-9223372036854775808≤v.Num∧v.Num≤9223372036854775807)∧v.Word.size≤9223372036854775807
def DC(x:F3):Prop:=x.2.length≤100000∧x.1.size≤100000∧∀v∈x.2,j8 v
def Dn(Γ:C8)(fs:List D1):Prop:=∀f∈fs,BG Γ f∧DC f.fact
theorem Dn.mono{Γ Γ':C8}{fs:List D1}(h:Dn Γ fs)(hl:Γ.le Γ'):Dn Γ' fs:=fun f hf=>⟨(h f hf).1.mono hl,(h f hf).2⟩
def facts(fs:List D1):List F3:=fs.map D1.fact
def O4(l:List F3):List F3:=CP I7 l
theorem It{Γ:C8}{S:List B6}{w:World}{v:Value}(fs:List D1)(hok:Dn Γ fs)(hl:fs.length≤100000)(hr:P4 Γ S v 2 (fs.map cF))(hw:Wd Γ S w) :
  Calls Tryz.prog 203 #[v,Dp] w fun e w'=>∃v' gs,e=.returned v'∧facts gs=O4 (facts fs)∧Dn Γ gs∧Wd Γ (.own v' 80 2 (gs.map cF)::S) w':=by
 refine A7 Tryz.func203 rfl rfl ?_
 refine A6 ?_;refine H2 ?_;intro b3 w hw;have hw:Wd Γ (.blk b3 (.cells #[Dp] 153)::S) w:=hw
 refine A6 ?_;refine C9 (vs:=[v]) ?_
 refine(Hq hr.cons (by omega) hw).mono ?_
 rintro e w ⟨v1,rfl,hw⟩
 refine⟨_,rfl,?_⟩;refine A6 ?_;refine C9 (vs:=[v1,Dp]) ?_
 refine(KJ fs v1 (fun f hf=>(hok f hf).1) (by omega) hw).mono ?_
 rintro e w ⟨rfl,gs,hp,hs,hw⟩
 refine⟨_,rfl,?_⟩;have hokg:∀g∈gs,g∈fs:=fun g hg=>hp.mem_iff.1 hg
 have hgl:gs.length=fs.length:=hp.length_eq
 refine A6 ?_;refine C9 (vs:=[v1,.func (.func 273) #[] #[.pointer (some ⟨b3,0,none⟩)]]) ?_
 refine(PU gs (fun g hg=>(hok g (hokg g hg)).1) (by omega) hw).mono ?_
 rintro e w ⟨v2,rfl,hw⟩
 refine⟨_,rfl,?_⟩;refine A6 ?_;refine⟨_,rfl,v2,s8 VY gs,rfl,?_,fun g hg=>hok g (hokg g (Fq hg)),hw.dropAt 1⟩
 refine LU J8 D1.fact hp (hs.imp fun {a b} h q=>?_)
 have:Go.Proofs.ltOf I7 b.fact a.fact=true:=J8.lt_iff.2 q
 have h:Go.Proofs.ltOf I7 b.fact a.fact=false:=h
 rw[this]at h;cases h
theorem bL{Γ:C8}{S:List B6}{w:World}{v:Value}(fs:List D1)(hok:Dn Γ fs)(hl:fs.length≤100000)(hr:P4 Γ S v 2 (fs.map cF))(hw:Wd Γ S w) :
  Calls Tryz.prog 137 #[v] w fun e w'=>∃Γ' v' gs,Γ.le Γ'∧e=.returned v'∧facts gs=O4 (facts fs)∧Dn Γ' gs∧Wd Γ' (.own v' 80 2 (gs.map cF)::S) w':=by
 refine A7 Tryz.func137 rfl rfl ?_
 refine A6 ?_;refine C9 (vs:=[v,Dp]) ?_
 refine(It fs hok hl hr hw).mono ?_
 clear hw;rintro e w ⟨v1,gs0,rfl,hgs0,hok0,hw⟩
 refine⟨_,rfl,?_⟩;obtain⟨a,n,c,rfl,hn,hnc,hc⟩:=hw.own_shape (i:=0) rfl
 simp only[List.length_map]at hn
 refine A6 ?_;refine B3 (fun μ ρ w=>∃(Γ':C8) (k:Nat) (gs:List D1),μ+k=n∧Γ.le Γ'∧gs.length=n∧Has ρ [(3,.slice a n c),(8,.int .i64 n),(9,.int .i64 k)]∧facts gs=O4 (facts fs)∧Dn Γ' gs∧Wd Γ' (.own (.slice a n c) 80 2 (gs.map cF)::S) w) n ⟨Γ,0,gs0,by omega,C8.le.refl _,hn.symm,⟨rfl,rfl,rfl,trivial⟩,hgs0,hok0,hw⟩ ?_
 clear hw hgs0 hok0 hn hok hr;rintro μ ρ w ⟨Γ',k,gs,hk,hle,hn,hρ,hgs,hok,hw⟩
 rw[hρ.eq];refine A6 ?_;refine A0 rfl (fun h=>?_) (fun h=>?_)
 ·have hkn:k<n:=by have:=of_decide_eq_true h;omega
  obtain⟨g,hg⟩:=B2 (l:=gs) (k:=k) (by omega)
  obtain⟨hf,hal⟩:=hok g (List.mem_of_getElem? hg)
  have hal1:g.Args.length≤100000:=hal.1
  refine A6 ?_;refine C9 (vs:=[g.hdr]) ?_
  refine(JQ (S:=.own (.slice a n c) 80 2 (gs.map cF)::S) hf (by omega) hw).mono ?_
  clear hw;rintro e w ⟨v2,rfl,hw⟩
  refine⟨_,rfl,?_⟩;obtain⟨a2,n2,c2,rfl,-,-,-⟩:=hw.own_shape (i:=0) rfl
  obtain⟨Γ2,hle2,hr2,hw⟩:=hw.freeze;refine A6 ?_;refine Jf (i:=0) (r:=[.slice a2 n2 c2]) ?_ (B8 hg)
  intro w hw;have hw:Wd Γ2 (.own (.slice a n c) 80 2 ((gs.map cF).set k (cF ⟨g.Rel,a2,n2,c2,g.Args⟩))::S) w:=hw
  rw[←List.map_set]at hw;refine A6 ?_;refine⟨μ-1,by omega,Γ2,k+1,gs.set k ⟨g.Rel,a2,n2,c2,g.Args⟩,by omega,hle.trans hle2,by rw[List.length_set];exact hn,⟨rfl,rfl,rfl,trivial⟩,?_,fun f hf2=>?_,hw⟩
  ·rw[←hgs];unfold facts;rw[List.map_set];refine List.ext_getElem? fun i=>?_
   rw[List.getElem?_set];split
   ·rename_i e;subst e
    rw[List.getElem?_map,hg];simp[hn,hkn,D1.fact]
   ·rfl
  ·rcases List.mem_or_eq_of_mem_set hf2 with q|q
   ·exact⟨(hok f q).1.mono hle2,(hok f q).2⟩
   ·subst q;exact⟨hr2,hal⟩
 ·refine A6 ?_;exact⟨_,rfl,Γ',_,gs,hle,rfl,hgs,hok,hw⟩
end Go.Proofs.YtlmiakjbogojgaaGreatDoor
end
section
open Go Mk
namespace Go.Proofs.YtlmiakjbogojgaaGreatDoor
set_option maxHeartbeats 16000000
attribute [local irreducible] Calls I7
theorem XX(a:Int):-9223372036854775808≤IntKind.i64.wrap a∧IntKind.i64.wrap a≤9223372036854775807:=by
 rw[IntKind.wrap_i64];omega
section
variable {Γ:C8}{S:List B6}{w:World}
attribute [local irreducible] I6 Db ZZ
end
end Go.Proofs.YtlmiakjbogojgaaGreatDoor
end
section
open Go Mk
namespace Go.Proofs.YtlmiakjbogojgaaGreatDoor
set_option maxHeartbeats 16000000
attribute [local irreducible] Calls I7
def EE(s:ByteArray):Bool:=(M8 s).all u9
def EA(s:ByteArray):Bool:=EE s&&decide (0<s.size)&&decide (s.size≤24)
def L0(v:Val):Bool:=(decide (v.Kind=1)&&decide (v.Word=⟨#[]⟩))||(decide (v.Kind=2)&&decide (v.Num=0)&&EA v.Word)
def CY(x:F3):Bool:=F8 x.1&&decide (1≤x.2.length)&&decide (x.2.length≤8)&&x.2.all L0
theorem OH{s:ByteArray}{i:Nat}{b:UInt8}(h:(M8 s)[i]? = some b):Ae (B1 s i)=u9 b:=by
 have:B1 s i=(b.toNat:Int):=by
  show ((s.data.toList.getD i 0).toNat:Int)=_
  rw[List.getD_eq_getElem?_getD,show s.data.toList[i]? = some b from h];rfl
 rw[this];rfl
theorem Vy{s:ByteArray}(h:∀i,i<s.size→Ae (B1 s i)=true):EE s=true:=by
 refine List.all_eq_true.2 fun b hb=>?_
 obtain⟨i,hi⟩:=List.mem_iff_getElem?.1 hb
 have hlt:=(List.getElem?_eq_some_iff.1 hi).1
 rw[P2]at hlt;rw[←OH hi];exact h i hlt
theorem YE{s:ByteArray}{i:Nat}(hi:i<s.size)(h:Ae (B1 s i)=false):EE s=false:=by
 obtain⟨b,hb⟩:=B2 (l:=M8 s) (k:=i) (by rw[P2];exact hi)
 refine List.all_eq_false.2 ⟨b,List.mem_of_getElem? hb,?_⟩
 rw[←OH hb,h];decide
theorem Rr(s:ByteArray)(hs:s.size≤9223372036854775807):PC Tryz.prog 302 [.string s] (.bool (EA s)):=⟨fun w=>by
 refine A7 Tryz.func302 rfl rfl ?_
 refine A6 ?_;refine B3 (fun μ ρ w'=>∃(k:Nat),μ+k=s.size∧Has ρ [(0,.string s),(3,.int .i64 k)]∧(∀i,i<k→Ae (B1 s i)=true)∧w'=w) s.size ⟨0,by omega,⟨rfl,rfl,trivial⟩,fun i hi=>by omega,rfl⟩ ?_
 rintro μ ρ w' ⟨k,hk,hρ,hall,rfl⟩
 rw[hρ.eq];refine A6 ?_;refine A0 rfl (fun h=>?_) (fun h=>?_)
 ·have hkn:k<s.size:=by have:=of_decide_eq_true h;omega
  refine A6 ?_;refine A0 rfl (fun h2=>?_) (fun h2=>?_)
  ·refine A6 ?_;refine⟨_,rfl,F2 rfl ?_,rfl⟩
   have h3:Ae (B1 s k)=false:=by
    have h2':(((decide (B1 s k<32)||decide (126<B1 s k))||decide (B1 s k=34))||decide (B1 s k=92))=true:=h2
    unfold Ae;simp only[Bool.or_eq_true,decide_eq_true_eq]at h2'
    simp only[Bool.and_eq_false_iff,decide_eq_false_iff_not]
    omega
   unfold EA;rw[YE hkn h3];rfl
  ·refine A6 ?_;refine⟨μ-1,by omega,k+1,by omega,⟨rfl,rfl,trivial⟩,fun i hi=>?_,rfl⟩
   by_cases e:i=k
   ·subst e;have h2':(((decide (B1 s i<32)||decide (126<B1 s i))||decide (B1 s i=34))||decide (B1 s i=92))=false:=h2
    unfold Ae;simp only[Bool.or_eq_false_iff,decide_eq_false_iff_not]at h2'
    simp only[Bool.and_eq_true,decide_eq_true_eq]
    omega
   ·exact hall i (by omega)
 ·have hkn:¬k<s.size:=by have:=of_decide_eq_false h;omega
  refine A6 ?_;refine⟨_,rfl,F2 rfl ?_,rfl⟩
  unfold EA;rw[Vy fun i hi=>hall i (by omega)]
  have e1:decide (s≠⟨#[]⟩)=decide (0<s.size):=by simp only[ne_nilB]
  rw[e1,Bool.true_and];congr 1
  rw[decide_eq_decide];omega⟩
theorem ZP{Γ:C8}{f:D1}(hf:BG Γ f)(ho:DC f.fact):PG Tryz.prog Γ 290 [.agg (cF f).toArray] (.bool (CY f.fact)):=⟨fun S w hw=>by
 obtain⟨l1,l2,l3⟩:=hf.len;obtain⟨o1,o2,o3⟩:=ho;have hr:=hf
 unfold BG D1.hdr at hr;obtain⟨fr,fa,fn,fc,fs⟩:=f;simp only[D1.fact]at l1 l2 l3 o1 o2 o3 hr ⊢
 haveI:SB fr:=⟨by omega⟩
 refine A7 Tryz.func290 rfl rfl ?_
 refine A6 ?_;refine H2 ?_;intro b1 w hw;have hw:Wd Γ (.blk b1 (.cells #[.string fr,.slice fa fn fc] 80)::S) w:=hw
 refine A6 ?_;refine A0 rfl (fun h=>?_) (fun h=>?_)
 ·refine A6 ?_;refine⟨_,rfl,F2 rfl ?_,hw.drop⟩
  unfold CY;have h':((!F8 fr||decide ((fn:Int)<1))||decide (8<(fn:Int)))=true:=h
  simp only[Bool.or_eq_true,Bool.not_eq_true',decide_eq_true_eq]at h'
  symm
  rcases h' with (q|q)|q
  ·rw[q];rfl
  ·rw[show decide (1≤fs.length)=false from decide_eq_false (by omega)];simp
  ·rw[show decide (fs.length≤8)=false from decide_eq_false (by omega)];simp
 have h':((!F8 fr||decide ((fn:Int)<1))||decide (8<(fn:Int)))=false:=h
 simp only[Bool.or_eq_false_iff,Bool.not_eq_false',decide_eq_false_iff_not]at h'
 obtain⟨⟨q1,q2⟩,q3⟩:=h';have hR:CY (fr,fs)=fs.all L0:=by
  unfold CY;rw[q1,show decide (1≤fs.length)=true from decide_eq_true (by omega),show decide (fs.length≤8)=true from decide_eq_true (by omega)];simp
 rw[hR];refine A6 ?_;refine B3 (fun μ ρ w=>∃(k:Nat),μ+k=fn∧Has ρ [(24,.slice fa fn fc),(25,.int .i64 fn),(26,.int .i64 k)]∧fs.all L0=(fs.drop k).all L0∧Wd Γ S w) fn ⟨0,by omega,⟨rfl,rfl,rfl,trivial⟩,rfl,hw.drop⟩ ?_
 clear hw;rintro μ ρ w ⟨k,hk,hρ,ho,hw⟩
 rw[hρ.eq];refine A6 ?_;refine A0 rfl (fun h2=>?_) (fun h2=>?_)
 ·have hkn:k<fn:=by have:=of_decide_eq_true h2;omega
  obtain⟨v,hv⟩:=B2 (l:=fs) (k:=k) (by omega)
  rw[Q9 hv]at ho;have hvo:=o3 v (List.mem_of_getElem? hv)
  have hT:=Rr v.Word hvo.2
  refine A6 ?_;refine B9 ?_;intro b4 w hw;refine B0 ?_;intro w hw;have hw:Wd Γ (.blk b4 (.cells (enc v).toArray 65)::S) w:=hw
  refine A6 ?_;refine A0 rfl (fun h3=>?_) (fun h3=>?_)
  ·refine A6 ?_;refine⟨_,rfl,F2 rfl ?_,hw.drop⟩
   have h3':(!(decide (v.Kind=1)&&decide (v.Word=⟨#[]⟩)) && !(decide (v.Kind=2)&&decide (v.Num=0)&&EA v.Word))=true:=h3
   have:L0 v=false:=by
    unfold L0;simp only[Bool.and_eq_true,Bool.not_eq_true']at h3'
    rw[h3'.1,h3'.2];rfl
   rw[ho,List.all_cons,this];rfl
  ·refine A6 ?_;refine⟨μ-1,by omega,k+1,by omega,⟨rfl,rfl,rfl,trivial⟩,?_,hw.drop⟩
   have h3':(!(decide (v.Kind=1)&&decide (v.Word=⟨#[]⟩)) && !(decide (v.Kind=2)&&decide (v.Num=0)&&EA v.Word))=false:=h3
   have:L0 v=true:=by
    unfold L0;rw[Bool.and_eq_false_iff,Bool.not_eq_false',Bool.not_eq_false']at h3';rw[Bool.or_eq_true];exact h3'
   rw[ho,List.all_cons,this];rfl
 ·refine A6 ?_;refine⟨_,rfl,F2 rfl ?_,hw⟩
  rw[ho,G8 fs (by have:=of_decide_eq_false h2;omega)];rfl⟩
end Go.Proofs.YtlmiakjbogojgaaGreatDoor
end
section
open Go Mk
namespace Go.Proofs.YtlmiakjbogojgaaGreatDoor
set_option maxHeartbeats 16000000
attribute [local irreducible] Calls I7
def Dy(n:Int):ByteArray:=⟨(Lib.itoa n).toArray⟩
def Cl:ByteArray:=⟨#[34]⟩
def NO(v:Val):ByteArray:=if v.Kind=1 then Dy v.Num else if F8 v.Word=true then v.Word else (Cl++v.Word)++Cl
theorem UZ{v:Val}(hr:L0 v=true):v.Word.size≤100000:=by
 unfold L0 EA at hr;simp only[Bool.or_eq_true,Bool.and_eq_true,decide_eq_true_eq]at hr
 rcases hr with q|q
 ·rw[q.2];decide
 ·have:=q.2.2;omega
end Go.Proofs.YtlmiakjbogojgaaGreatDoor
end
section
open Go Mk
namespace Go.Proofs.YtlmiakjbogojgaaGreatDoor
set_option maxHeartbeats 16000000
attribute [local irreducible] Calls I7
section
variable {Γ:C8}{S:List B6}{w:World}{b:Nat}
end
end Go.Proofs.YtlmiakjbogojgaaGreatDoor
end
section
open Go Mk
namespace Go.Proofs.YtlmiakjbogojgaaGreatDoor
set_option maxHeartbeats 16000000
attribute [local irreducible] Calls I7
theorem Fc:∀(k u:Nat),u<10 ^ (k+1)→Lib.nDigits u≤k+1
 | 0,u,h=>by rw[Lib.nDigits_small (by simpa using h)];exact Nat.le_refl _
 | k+1,u,h=>by
  by_cases hu:u<10
  ·rw[Lib.nDigits_small hu];omega
  ·rw[Lib.nDigits_big hu];have:=Fc k (u / 10) (by rw[Nat.div_lt_iff_lt_mul (by decide)];rw[Nat.pow_succ]at h;exact h)
   omega
theorem XM{n:Int}(h0:-9223372036854775808≤n)(h1:n≤9223372036854775807):(Dy n).size≤25:=by
 have hs:(Dy n).size=(Lib.itoa n).length:=by show (List.toArray _).size=_;simp
 have hd:∀u:Nat,u≤9223372036854775808→(Lib.decDigits u).length≤20:=fun u hu=>by
  rw[Lib.decDigits_length];exact Fc 19 u (by omega)
 rw[hs];unfold Lib.itoa;split
 ·have:=hd n.natAbs (by omega)
  simp only[List.length_cons];omega
 ·have:=hd n.toNat (by omega)
  omega
end Go.Proofs.YtlmiakjbogojgaaGreatDoor
end
section
open Go Mk
namespace Go.Proofs.YtlmiakjbogojgaaGreatDoor
set_option maxHeartbeats 16000000
attribute [local irreducible] Calls I7
section
variable {Γ:C8}{S:List B6}{w:World}{b:Nat}
abbrev On(b:Nat)(f:D1):B6:=.blk b (.cells (cF f).toArray 80)
end
end Go.Proofs.YtlmiakjbogojgaaGreatDoor
end
section
open Go Mk
namespace Go.Proofs.YtlmiakjbogojgaaGreatDoor
set_option maxHeartbeats 16000000
attribute [local irreducible] Calls I7
end Go.Proofs.YtlmiakjbogojgaaGreatDoor
end
section
open Go Mk
namespace Go.Proofs.YtlmiakjbogojgaaGreatDoor
set_option maxHeartbeats 16000000
attribute [local irreducible] Calls I7
end Go.Proofs.YtlmiakjbogojgaaGreatDoor
end
section
open Go Mk
namespace Go.Proofs.YtlmiakjbogojgaaGreatDoor
set_option maxHeartbeats 16000000
attribute [local irreducible] Calls I7
abbrev Et(g:D1):B6:=.own g.hdr 65 3 (g.Args.map enc)
theorem LP{Γ:C8}{S:List B6}{w:World}:∀(gs:List D1),Wd Γ (gs.map Et++S) w→∃Γ',Γ.le Γ'∧(∀g∈gs,BG Γ' g)∧Wd Γ' S w
 | [],h=>⟨Γ,C8.le.refl _,(fun g hg=>by cases hg),h⟩
 | g::gs,h=>by
  obtain⟨Γ1,l1,r1,h1⟩:=Wd.freeze (h:Wd Γ (Et g::(gs.map Et++S)) w)
  obtain⟨Γ2,l2,r2,h2⟩:=LP gs h1
  refine⟨Γ2,l1.trans l2,fun x hx=>?_,h2⟩
  rcases List.mem_cons.1 hx with e|e
  ·rw[e];exact D7.mono r1 l2
  ·exact r2 x e
def Ho(gs:List D1):Prop:=∀g∈gs,DC g.fact
theorem Px{Γ:C8}{S:List B6}{w:World}{v:Value}(fs:List D1)(hok:Dn Γ fs)(hl:fs.length≤100000)(hr:P4 Γ S v 2 (fs.map cF))(hw:Wd Γ S w) :
  Calls Tryz.prog 137 #[v] w fun e w'=>∃v' gs,e=.returned v'∧facts gs=O4 (facts fs)∧Ho gs∧Wd Γ (.own v' 80 2 (gs.map cF)::(gs.map Et++S)) w':=by
 refine A7 Tryz.func137 rfl rfl ?_
 refine A6 ?_;refine C9 (vs:=[v,Dp]) ?_
 refine(It fs hok hl hr hw).mono ?_
 clear hw;rintro e w ⟨v1,gs0,rfl,hgs0,hok0,hw⟩
 refine⟨_,rfl,?_⟩;obtain⟨a,n,c,rfl,hn,hnc,hc⟩:=hw.own_shape (i:=0) rfl
 simp only[List.length_map]at hn
 refine A6 ?_;refine B3 (fun μ ρ w=>∃(gs hs:List D1),μ+gs.length=n∧gs.length+hs.length=n∧Has ρ [(3,.slice a n c),(8,.int .i64 n),(9,.int .i64 (gs.length:Nat))]∧facts (gs++hs)=O4 (facts fs)∧Dn Γ hs∧Ho gs∧Wd Γ (.own (.slice a n c) 80 2 ((gs++hs).map cF)::(gs.map Et++S)) w) n ⟨[],gs0,by simp,by simp[hn],⟨rfl,rfl,rfl,trivial⟩,hgs0,hok0,(fun g hg=>by cases hg),hw⟩ ?_
 clear hw hgs0 hok0 hn hok hr;rintro μ ρ w ⟨gs,hs,hk,hn,hρ,hgs,hok,hok1,hw⟩
 rw[hρ.eq];refine A6 ?_;refine A0 rfl (fun h=>?_) (fun h=>?_)
 ·have hkn:gs.length<n:=by have:=of_decide_eq_true h;omega
  cases hs with
  | nil=>simp at hn;omega
  | cons g hs=>
   have hg:(gs++g::hs)[gs.length]? = some g:=by rw[List.getElem?_append_right (Nat.le_refl _)];simp
   obtain⟨hf,hal⟩:=hok g (by simp)
   have hal1:g.Args.length≤100000:=hal.1
   have hll:(gs++g::hs).length=n:=by rw[List.length_append];exact hn
   refine A6 ?_;refine C9 (vs:=[g.hdr]) ?_
   refine(JQ (S:=.own (.slice a n c) 80 2 ((gs++g::hs).map cF)::(gs.map Et++S)) hf (by omega) hw).mono ?_
   clear hw;rintro e w ⟨v2,rfl,hw⟩
   refine⟨_,rfl,?_⟩;obtain⟨a2,n2,c2,rfl,-,-,-⟩:=hw.own_shape (i:=0) rfl
   refine A6 ?_;refine Jf (i:=1) (r:=[.slice a2 n2 c2]) ?_ (B8 hg)
   intro w hw;have hw:Wd Γ (.own (.slice a2 n2 c2) 65 3 (g.Args.map enc)::.own (.slice a n c) 80 2 (((gs++g::hs).map cF).set gs.length (cF ⟨g.Rel,a2,n2,c2,g.Args⟩))::(gs.map Et++S)) w:=hw
   have e2:((gs++g::hs).map cF).set gs.length (cF ⟨g.Rel,a2,n2,c2,g.Args⟩)=((gs++[(⟨g.Rel,a2,n2,c2,g.Args⟩:D1)])++hs).map cF:=by
    rw[←List.map_set,List.set_append_right _ _ (Nat.le_refl _),Nat.sub_self,List.set_cons_zero,List.append_assoc];rfl
   rw[e2]at hw;refine A6 ?_;refine⟨μ-1,by omega,gs++[⟨g.Rel,a2,n2,c2,g.Args⟩],hs,by simp;omega,by simp at hn ⊢;omega,⟨rfl,rfl,by simp;rfl,trivial⟩,?_,fun x hx=>hok x (by simp[hx]),fun x hx=>?_,?_⟩
   ·rw[←hgs];unfold facts;simp[D1.fact]
   ·rcases List.mem_append.1 hx with q|q
    ·exact hok1 x q
    ·rw[List.mem_singleton.1 q];exact hal
   ·have e3:((gs++[(⟨g.Rel,a2,n2,c2,g.Args⟩:D1)]).map Et++S)=gs.map Et++(Et ⟨g.Rel,a2,n2,c2,g.Args⟩::S):=by simp
    rw[e3];exact hw.perm ((List.Perm.swap _ _ _).trans (List.Perm.cons _ List.perm_middle.symm))
 ·have hkn:¬gs.length<n:=by have:=of_decide_eq_false h;omega
  have hs0:hs=[]:=List.eq_nil_of_length_eq_zero (by omega)
  subst hs0;rw[List.append_nil]at hw hgs
  refine A6 ?_;exact⟨_,rfl,_,gs,rfl,hgs,hok1,hw⟩
structure RL(Γ:C8)(v:Value)(fs:List D1):Prop where
 rep:D7 Γ v 2 (fs.map cF)
 ok:Dn Γ fs
theorem RL.mono{Γ Γ':C8}{v:Value}{fs:List D1}(h:RL Γ v fs)(hl:Γ.le Γ'):RL Γ' v fs:=⟨h.rep.mono hl,h.ok.mono hl⟩
theorem RL.nil{Γ:C8}:RL Γ (.slice none 0 0) []:=⟨D7.nil,fun f hf=>by cases hf⟩
theorem RL.len{Γ:C8}{v:Value}{fs:List D1}(h:RL Γ v fs):∃a c,v=.slice a fs.length c∧fs.length≤c∧c≤9223372036854775807:=by
 obtain⟨a,n,c,h1,h2,h3,h4⟩:=h.rep.shape;simp only[List.length_map]at h2
 subst h2;exact⟨a,c,h1,h3,h4⟩
theorem TG{Γ:C8}{S:List B6}{w:World}{v:Value}{gs:List D1}(hok:Ho gs)(hw:Wd Γ (.own v 80 2 (gs.map cF)::(gs.map Et++S)) w):∃Γ',Γ.le Γ'∧RL Γ' v gs∧Wd Γ' S w:=by
 obtain⟨Γ1,l1,r1,h1⟩:=hw.freeze;obtain⟨Γ2,l2,r2,h2⟩:=LP gs h1
 exact⟨Γ2,l1.trans l2,⟨r1.mono l2,fun g hg=>⟨r2 g hg,hok g hg⟩⟩,h2⟩
def MU(l:List F3)(f:F3):List F3×Int:=if CY f=true then (if (O4 (l++[f])).length≤8192 then (O4 (l++[f]),0) else ([],15)) else ([],63)
section
variable {Γ:C8}{S:List B6}{w:World}
theorem SO{v:Value}{f:D1}(fs:List D1)(hok:Dn Γ fs)(hl:fs.length≤50000)(hf:BG Γ f)(hfo:DC f.fact)(hr:P4 Γ S v 2 (fs.map cF))(hw:Wd Γ S w) :
  Calls Tryz.prog 248 #[v,.agg (cF f).toArray] w fun e w'=>∃Γ' v' gs,Γ.le Γ'∧e=.returned (.tuple #[v',.int .i64 (MU (facts fs) f.fact).2])∧facts gs=(MU (facts fs) f.fact).1∧RL Γ' v' gs∧Wd Γ' S w':=by
 obtain⟨a,n,c,rfl,hn,hnc,hc⟩:=hr.shape;simp only[List.length_map]at hn
 have hR:=ZP hf hfo
 have hall:Dn Γ (fs++[f]):=fun x hx=>by
  rcases List.mem_append.1 hx with q|q
  ·exact hok x q
  ·rw[List.mem_singleton.1 q];exact⟨hf,hfo⟩
 refine A7 Tryz.func248 rfl rfl ?_
 refine A6 ?_;refine H2 ?_;intro b w hw;have hw:Wd Γ (On b f::S) w:=hw
 repeat first|refine E6 ?_|refine E7 ?_;intro w hw
 refine A0 rfl (fun h=>?_) (fun h=>?_)
 ·have h:CY f.fact=false:=by simpa using h
  have hI:MU (facts fs) f.fact=([],63):=if_neg (by rw[h];decide)
  rw[hI];refine A6 ?_;exact⟨_,rfl,Γ,_,[],C8.le.refl _,rfl,rfl,RL.nil,hw.drop⟩
 have h:CY f.fact=true:=by simpa using h
 refine A6 ?_;refine Gy 2 [[],[0],[],[1],[0],[0],[0]] [[],[0],[],[1],[0,1],[0],[0]] [[11,14,15,6],[13]] ?_
 refine P3 ?_;refine Ry (c:=0) (F:=fun _=>[]) (fun g=>[.own (g 11) 80 2 (fs.map cF)]) (fun _=>[.slice a n c]) (fun g w Y hw=>?_) ?_
 ·have hR2:P4 Γ ((On b f::S)++Y) (.slice a n c) 2 (fs.map cF):=P4.app (P4.cons hr)
  refine(Hq hR2 (by omega) hw).mono ?_
  rintro e w ⟨v1,rfl,hw⟩
  exact⟨v1,rfl,hw⟩
 refine P3 ?_;refine p8 [cF f] ?_
 refine ZI (rows2:=[cF f]) ?_ (Mq [f]) (hb:=by simp;omega) (h63:=by simp;omega)
 refine Ry (c:=0) (F:=fun g=>[.own (g 14) 80 2 (fs.map cF++[cF f])]) (T4 (fun (t:Value×List D1) g=>g 15=t.1∧facts t.2=O4 (facts fs++[f.fact])∧Ho t.2) fun t=>.own t.1 80 2 (t.2.map cF)::t.2.map Et) (fun g=>[g 14]) (fun g w Y hw=>?_) ?_
 ·have hw:Wd Γ ([.own (E8 [11,14,15,6] g D5 14) 80 2 ((fs++[f]).map cF)]++((On b f::S)++Y)) w:=by rw[List.map_append];exact hw
  refine(Px (fs++[f]) hall (by simp;omega) (P4.own (i:=0) hw rfl) hw).mono ?_
  clear hw;rintro e w ⟨v1,gs,rfl,h1,h2,hw⟩
  have h1:facts gs=O4 (facts fs++[f.fact]):=by rw[h1];unfold facts;rw[List.map_append];rfl
  refine⟨v1,rfl,Ag (v1,gs) ⟨rfl,h1,h2⟩ ?_⟩
  have hw:Wd Γ ((.own v1 80 2 (gs.map cF)::gs.map Et)++(.own (E8 [11,14,15,6] g D5 14) 80 2 ((fs++[f]).map cF)::((On b f::S)++Y))) w:=hw
  exact(hw.perm List.perm_middle).drop
 refine dZ (c:=0) (T:=Value×List D1) (φ:=fun t g=>g 15=t.1∧facts t.2=O4 (facts fs++[f.fact])∧Ho t.2) (fun t=>t.1) (fun t g w Y ht _=>Gf ht.1) ?_ (hφ:=fun t g u h=>h)
 refine V1 fun w g hw=>?_
 have hw:Wd Γ ((On b f::S)++(T4 (fun (t:Value×List D1) g=>(g 15=t.1∧facts t.2=O4 (facts fs++[f.fact])∧Ho t.2)∧g 6=t.1) (fun t=>.own t.1 80 2 (t.2.map cF)::t.2.map Et) (E8 [11,14,15,6] g D5)++([.own (g 13) 80 2 [cF f]]++[]))) w:=hw
 obtain⟨⟨v1,gs⟩,⟨⟨-,h1,h2⟩,e6⟩,hw⟩:=p7 hw.swapApp
 have e6:g 6=v1:=e6
 have h1:facts gs=O4 (facts fs++[f.fact]):=h1
 have h2:Ho gs:=h2
 obtain⟨Γ1,l1,hL,hw⟩:=TG h2 hw
 have hw5:Wd Γ1 (On b f::S) w:=hw.left
 have hgl:gs.length=(O4 (facts fs++[f.fact])).length:=by rw[←h1];unfold facts;rw[List.length_map]
 have hL:RL Γ1 v1 gs:=hL
 obtain⟨a6,c6,rfl,k1,k2⟩:=hL.len;have hw:Wd Γ1 (On b f::S) w:=hw5
 refine Ty (l:=[(6,.slice a6 gs.length c6)]) ⟨e6,trivial⟩ fun ρ hρ=>?_
 rw[hρ.eq];refine A6 ?_;refine A0 rfl (fun h5=>?_) (fun h5=>?_)
 ·have h5:8192<gs.length:=by have:=of_decide_eq_true h5;omega
  have hI:MU (facts fs) f.fact=([],15):=by unfold MU;rw[if_pos h,if_neg (by omega)]
  rw[hI];refine A6 ?_;exact⟨_,rfl,Γ1,_,[],l1,rfl,rfl,RL.nil,hw.drop⟩
 ·have h5:gs.length≤8192:=by have:=of_decide_eq_false h5;omega
  have hI:MU (facts fs) f.fact=(O4 (facts fs++[f.fact]),0):=by unfold MU;rw[if_pos h,if_pos (by omega)]
  rw[hI];refine A6 ?_;exact⟨_,rfl,Γ1,_,gs,l1,rfl,h1,hL,hw.drop⟩
end
end Go.Proofs.YtlmiakjbogojgaaGreatDoor
end
section
open Go Mk
namespace Go.Proofs.YtlmiakjbogojgaaGreatDoor
set_option maxHeartbeats 16000000
attribute [local irreducible] Calls I7
section
variable {Γ:C8}
end
end Go.Proofs.YtlmiakjbogojgaaGreatDoor
end
section
open Go Mk
namespace Go.Proofs.YtlmiakjbogojgaaGreatDoor
set_option maxHeartbeats 16000000
attribute [local irreducible] Calls I7
theorem Ub{p:D1→Bool}{fs:List D1}{j:Nat}{x:D1}(h:fs[j]? = some x):(fs.take (j+1)).filter p=if p x=true then (fs.take j).filter p++[x] else (fs.take j).filter p:=by
 rw[List.take_add_one,h,List.filter_append];show _++[x].filter p=_
 rw[List.filter_cons];split <;> simp
section
variable {Γ:C8}{S:List B6}{w:World}{b:Nat}
end
end Go.Proofs.YtlmiakjbogojgaaGreatDoor
end
section
open Go Mk
namespace Go.Proofs.YtlmiakjbogojgaaGreatDoor
set_option maxHeartbeats 16000000
attribute [local irreducible] Calls I7
section
variable {Γ:C8}{S:List B6}{w:World}
end
end Go.Proofs.YtlmiakjbogojgaaGreatDoor
end
section
open Go Mk
namespace Go.Proofs.YtlmiakjbogojgaaGreatDoor
set_option maxHeartbeats 16000000
attribute [local irreducible] Calls I7
section
variable {Γ:C8}{S:List B6}{w:World}
end
end Go.Proofs.YtlmiakjbogojgaaGreatDoor
end
section
open Go Mk
namespace Go.Proofs.YtlmiakjbogojgaaGreatDoor
set_option maxHeartbeats 16000000
attribute [local irreducible] Calls I7
def Kk(r:ByteArray)(m:Int)(x:F3):Bool:=decide (x.1=r)&&decide ((x.2.length:Int)=m)
def Er(r:ByteArray)(m:Int)(x:D1):Bool:=decide (x.Rel=r)&&decide ((x.N:Int)=m)
def RA(l:List F3)(r:ByteArray)(m:Int):List F3:=(O4 l).filter (Kk r m)
theorem Zm{Γ:C8}{r:ByteArray}{m:Int}{x:D1}(h:BG Γ x):Er r m x=Kk r m x.fact:=by
 have:=h.len.1
 unfold Er Kk;rw[this];rfl
theorem LV{Γ:C8}{r:ByteArray}{m:Int}:∀ {fs:List D1},(∀x∈fs,BG Γ x)→facts (fs.filter (Er r m))=(facts fs).filter (Kk r m)
 | [],_=>rfl
 | x::fs,h=>by
  have ih:=LV (r:=r) (m:=m) (fs:=fs) fun y hy=>h y (List.mem_cons_of_mem _ hy)
  show facts ((x::fs).filter (Er r m))=(x.fact::facts fs).filter (Kk r m)
  rw[List.filter_cons,List.filter_cons,Zm (h x List.mem_cons_self)];split
  ·show x.fact::facts _=_
   rw[ih]
  ·exact ih
section
variable {Γ:C8}{S:List B6}{w:World}
theorem Rm{v:Value}{r:ByteArray}{m:Int}(fs:List D1)(hok:Dn Γ fs)(hl:fs.length≤50000)(hr:D7 Γ v 2 (fs.map cF))(hw:Wd Γ S w) :
  Calls Tryz.prog 78 #[v,.string r,.int .i64 m] w fun e w'=>∃v' gs,e=.returned v'∧facts gs=RA (facts fs) r m∧Ho gs∧Wd Γ (.own v' 80 2 (gs.map cF)::(gs.map Et++S)) w':=by
 obtain⟨a,n,c,rfl,hn,hnc,hc⟩:=hr.shape;simp only[List.length_map]at hn
 refine A7 Tryz.func78 rfl rfl ?_
 refine A6 ?_;refine B3 (fun μ ρ w=>∃(k:Nat) (g:Value),μ+k=n∧Has ρ [(1,.string r),(2,.int .i64 m),(7,g),(10,.slice a n c),(11,.int .i64 n),(12,.int .i64 k)]∧Wd Γ (.own g 80 2 (((fs.take k).filter (Er r m)).map cF)::S) w) n ⟨0,.slice none 0 0,by omega,⟨rfl,rfl,rfl,rfl,rfl,rfl,trivial⟩,Wd.addNil hw⟩ ?_
 clear hw;rintro μ ρ w ⟨k,g,hk,hρ,hw⟩
 rw[hρ.eq];refine A6 ?_;refine A0 rfl (fun h=>?_) (fun h=>?_)
 ·have hkn:k<n:=by have:=of_decide_eq_true h;omega
  obtain⟨x,hx⟩:=B2 (l:=fs) (k:=k) (by omega)
  have hxo:=(hok x (List.mem_of_getElem? hx)).1
  have hsucc:=Ub (p:=Er r m) hx
  have hfl:=List.length_filter_le (Er r m) (fs.take k)
  rw[List.length_take]at hfl;refine A6 ?_;refine B9 ?_;intro b9 w hw;refine B0 ?_;intro w hw;have hw:Wd Γ (On b9 x::.own g 80 2 (((fs.take k).filter (Er r m)).map cF)::S) w:=hw
  refine A6 ?_;refine A0 rfl (fun h3=>?_) (fun h3=>?_)
  ·have h3:Er r m x=true:=h3
   rw[if_pos h3]at hsucc;obtain⟨ag,ng,cg,rfl,hng,hngc,hcg⟩:=hw.own_shape (i:=1) rfl
   simp only[List.length_map]at hng
   refine A6 ?_;refine B5 [cF x] ?_
   intro a29 w hw;refine T3 (i:=2) (rows2:=[cF x]) ?_ (Wd.own_rd (i:=0) hw rfl)
   intro v' w hw;refine A6 ?_;have hw:Wd Γ (.own v' 80 2 (((fs.take k).filter (Er r m)).map cF++[cF x])::S) w:=hw.ds [0,0]
   rw[show ((fs.take k).filter (Er r m)).map cF++[cF x]=((fs.take (k+1)).filter (Er r m)).map cF from by rw[hsucc];simp]at hw
   exact⟨μ-1,by omega,k+1,v',by omega,⟨rfl,rfl,rfl,rfl,rfl,rfl,trivial⟩,hw⟩
  ·have h3:Er r m x=false:=h3
   rw[if_neg (by rw[h3];decide)]at hsucc
   refine A6 ?_;exact⟨μ-1,by omega,k+1,g,by omega,⟨rfl,rfl,rfl,rfl,rfl,rfl,trivial⟩,by rw[hsucc];exact hw.drop⟩
 ·have hkn:¬k<n:=by have:=of_decide_eq_false h;omega
  rw[List.take_of_length_le (show fs.length≤k by omega)]at hw
  have hfl:=List.length_filter_le (Er r m) fs
  refine A6 ?_;refine C9 (vs:=[g]) ?_
  refine(Px (fs.filter (Er r m)) (fun x hx=>hok x (List.mem_filter.1 hx).1) (by omega) (P4.own (i:=0) hw rfl) hw).mono ?_
  clear hw;rintro e w ⟨v1,gs,rfl,h1,h2,hw⟩
  refine⟨_,rfl,?_⟩;refine A6 ?_;refine⟨_,rfl,v1,gs,rfl,?_,h2,?_⟩
  ·rw[h1,LV (fun x hx=>(hok x hx).1)];exact OD J8 _ _
  ·have hw:Wd Γ ((.own v1 80 2 (gs.map cF)::gs.map Et)++(.own g 80 2 ((fs.filter (Er r m)).map cF)::S)) w:=hw
   exact(hw.perm List.perm_middle).drop
end
end Go.Proofs.YtlmiakjbogojgaaGreatDoor
end
section
open Go Mk
namespace Go.Proofs.YtlmiakjbogojgaaGreatDoor
set_option maxHeartbeats 4000000
structure O8 where
 Var:ByteArray
 Const:Val
 deriving DecidableEq,Inhabited
instance:KV O8 where
 enc a:=[.string a.Var,.int .i64 a.Const.Kind,.int .i64 a.Const.Num,.string a.Const.Word]
 inj a b h:=by
  obtain⟨v,k,n,x⟩:=a;obtain⟨v',k',n',x'⟩:=b;simp at h
  simp[h]
 ks:=[1,5,5,1]
 kinds a:=rfl
structure H3 where
 Kind:Int
 Rel:ByteArray
 Args:List O8
 Op:Int
 L:O8
 R:O8
 Off:Int
 Low:Int
 High:Int
structure F7 where
 Sel:List ByteArray
 Goals:List H3
structure N0 where
 g:H3
 A:Option Addr
 N:Nat
 C:Nat
def N0.hdr(x:N0):Value:=.slice x.A x.N x.C
def cG(x:N0):List Value:=
 [.int .i64 x.g.Kind,.string x.g.Rel,x.hdr,.int .i64 x.g.Op,.string x.g.L.Var,.int .i64 x.g.L.Const.Kind,.int .i64 x.g.L.Const.Num,.string x.g.L.Const.Word,
  .string x.g.R.Var,.int .i64 x.g.R.Const.Kind,.int .i64 x.g.R.Const.Num,.string x.g.R.Const.Word,.int .i64 x.g.Off,.int .i64 x.g.Low,.int .i64 x.g.High]
def Vq(Γ:C8)(x:N0):Prop:=D7 Γ x.hdr 4 (x.g.Args.map enc)
theorem Vq.mono{Γ Γ':C8}{x:N0}(h:Vq Γ x)(hle:Γ.le Γ'):Vq Γ' x:=D7.mono h hle
theorem Vq.len{Γ:C8}{f:N0}(h:Vq Γ f):f.N=f.g.Args.length∧f.N≤f.C∧f.C≤9223372036854775807:=by
 obtain⟨a,n,c,h1,h2,h3,h4⟩:=D7.shape h
 unfold N0.hdr at h1;cases h1
 exact⟨by simpa using h2,h3,h4⟩
abbrev B7(l:List ByteArray):List (List Value):=l.map fun s=>[.string s]
structure QR(Γ:C8)(vs vg:Value)(gs:List N0)(q:F7):Prop where
 sel:D7 Γ vs 1 (B7 q.Sel)
 goals:D7 Γ vg 15 (gs.map cG)
 eq:gs.map (·.g)=q.Goals
 ok:∀x∈gs,Vq Γ x
theorem QR.mono{Γ Γ':C8}{vs vg:Value}{gs:List N0}{q:F7}(h:QR Γ vs vg gs q)(hle:Γ.le Γ'):QR Γ' vs vg gs q:=
 ⟨h.sel.mono hle,h.goals.mono hle,h.eq,fun x hx=>(h.ok x hx).mono hle⟩
def Hc(v:Int):Prop:=-9223372036854775808≤v∧v≤9223372036854775807
def GL(o:O8):Prop:=o.Var.size≤9223372036854775807∧j8 o.Const
structure PL(N:Nat)(g:H3):Prop where
 rel:g.Rel.size≤9223372036854775807
 len:g.Args.length≤N
 args:∀o∈g.Args,GL o
 l:GL g.L
 r:GL g.R
 off:Hc g.Off
 low:Hc g.Low
 high:Hc g.High
abbrev XE:H3→Prop:=PL 1000
structure z8(N:Nat)(q:F7):Prop where
 sel:q.Sel.length≤1000
 names:∀s∈q.Sel,s.size≤9223372036854775807
 len:q.Goals.length≤1000
 goals:∀g∈q.Goals,PL N g
abbrev Ek:F7→Prop:=z8 1000
def P5:Val:=⟨0,0,⟨#[]⟩⟩
def Ay:O8:=⟨⟨#[]⟩,P5⟩
def F1:ByteArray:=⟨#[]⟩
def I8:ByteArray:=⟨#[95]⟩
def H8(g:H3):Bool:=decide (g.Kind=1)||decide (g.Kind=2)
def J5(g:H3):List O8:=if g.Kind=1∨g.Kind=2 then g.Args else if g.Kind=3 then [g.L,g.R] else if g.Kind=4 then [g.L] else []
def BF(l:List ByteArray)(s:ByteArray):Bool:=l.any fun t=>decide (t=s)
theorem z6{l:List ByteArray}{s:ByteArray}:BF l s=true↔s∈l:=by
 unfold BF;rw[List.any_eq_true];exact⟨fun⟨x,hx,he⟩=>by rw[←of_decide_eq_true he];exact hx,fun h=>⟨s,h,decide_eq_true rfl⟩⟩
def addN(l:List ByteArray)(s:ByteArray):List ByteArray:=if BF l s=true then l else l++[s]
def bj(s:ByteArray):Bool:=decide (s≠F1)&&decide (s≠I8)
def IL(q:F7):List ByteArray:=q.Sel++q.Goals.flatMap fun g=>(J5 g).map (·.Var)
def AC(q:F7):List ByteArray:=((IL q).filter bj).foldl addN []
def An(q:F7):Bool:=decide (1≤q.Goals.length)&&decide (q.Goals.length≤16)&&decide (q.Sel.length≤8)&&(q.Goals.all fun g=>!H8 g||(decide (1≤g.Args.length)&&decide (g.Args.length≤8)))&&decide ((AC q).length≤8)
def O7(g:H3):Bool:=
 if g.Kind=1∨g.Kind=2 then decide (g.Op=0)&&decide (g.L=Ay)&&decide (g.R=Ay)&&decide (g.Off=0)&&decide (g.Low=0)&&decide (g.High=0)
 else if g.Kind=3 then decide (g.Rel=F1)&&decide (g.Args.length=0)&&decide (g.Low=0)&&decide (g.High=0)
 else if g.Kind=4 then decide (g.Rel=F1)&&decide (g.Args.length=0)&&decide (g.Op=0)&&decide (g.R=Ay)&&decide (g.Off=0)&&decide (g.L.Var≠F1)
 else false
def plainO(o:O8):Bool:=decide (o.Var=F1)||decide (o.Const=P5)
def x5(q:F7):Bool:=q.Goals.all fun g=>O7 g&&(J5 g).all plainO
def Qm(s:ByteArray):Int:=B1 s 0
def Y3(s:ByteArray):Bool:=F8 s&&decide (65≤Qm s)&&decide (Qm s≤90)
def KW(s:ByteArray):Bool:=decide (s=⟨#[115,101,108,101,99,116]⟩)||decide (s=⟨#[119,104,101,114,101]⟩)||decide (s=⟨#[110,111,116]⟩)||decide (s=⟨#[105,110]⟩)
def Gg(g:H3)(o:O8):Bool:=!(decide (o.Var=F1) && !L0 o.Const) && !(decide (o.Var=I8) && !H8 g) && !(decide (o.Var≠F1)&&decide (o.Var≠I8) && !Y3 o.Var)
def DW(g:H3):Bool:=!(H8 g&&(!F8 g.Rel||KW g.Rel))&&(J5 g).all (Gg g)
def U5(q:F7):Bool:=q.Sel.all Y3&&q.Goals.all DW
def Cz(g:H3):Bool:=
 if g.Kind=3 then decide (1≤g.Op)&&decide (g.Op≤6)&&decide (g.Off≠-9223372036854775808)
 else if g.Kind=4 then decide (g.Low≤g.High)&&decide (g.High-g.Low≤1000000) else true
def CO(q:F7):Bool:=q.Goals.all Cz
def Qy(q:F7):List ByteArray:=q.Goals.flatMap fun g=>if g.Kind=1∨g.Kind=4 then (J5 g).map (·.Var) else []
def Ak(q:F7):Bool:=(AC q).all fun s=>BF (Qy q) s
def BC(q:F7):Int:=
 if An q=false then 15 else if x5 q=false then 50 else if U5 q=false then 63 else if CO q=false then 6 else if ¬q.Sel.Nodup then 56 else if Ak q=false then 62 else 0
abbrev Env:=List (ByteArray×Val)
def Ut(l r off:Int):Int:=cI l (r+off)
def gR(op c:Int):Bool:=if op=1 then decide (c=0) else if op=2 then decide (c≠0) else if op=3 then decide (c<0) else if op=4 then decide (c≤0) else if op=5 then decide (0<c) else decide (0≤c)
def Cj(g:H3)(l r:Val):Bool:=
 if g.Off=0∧g.Op=1 then decide (l=r) else if g.Off=0∧g.Op=2 then decide (l≠r)
 else if l.Kind≠1∨r.Kind≠1 then false else gR g.Op (Ut l.Num r.Num g.Off)
def y6(e:Env)(s:ByteArray):Val:=(G3 e s).getD P5
def Gu(e:Env)(o:O8):Val:=if o.Var≠F1 then y6 e o.Var else o.Const
def Gh(e:Env)(o:O8)(v:Val):Bool:=
 if o.Var=I8 then true else if o.Var=F1 then decide (o.Const=v) else match G3 e o.Var with|some u=>decide (u=v)|none=>L0 v
def Q5(e:Env):List O8→List Val→Bool
 | o::os,v::vs=>Gh e o v&&Q5 e os vs
 | [],_=>true
 | _::_,[]=>false
def Y2(e:Env):List O8→List Val→Option Env
 | o::os,v::vs=>if o.Var=F1∨o.Var=I8 then Y2 e os vs else match G3 e o.Var with
  | some u=>if u=v then Y2 e os vs else none
  | none=>Y2 (e++[(o.Var,v)]) os vs
 | _,_=>some e
def Y1(e:Env)(gt:H3×List F3):Bool:=
 if gt.1.Kind=3 then Cj gt.1 (Gu e gt.1.L) (Gu e gt.1.R) else if gt.1.Kind=2 then !(gt.2.any fun f=>Q5 e gt.1.Args f.2) else true
def FT(sel:List ByteArray)(e:Env):List Val:=sel.map (y6 e)
def Bn(all:List (H3×List F3))(sel:List ByteArray)(e:Env):List (List Val):=if all.all (Y1 e) then [FT sel e] else []
def M4(f:Env→List (List Val))(e:Env)(os:List O8)(vs:List Val):List (List Val):=match Y2 e os vs with|some e'=>f e'|none=>[]
def BI(low:Int)(n:Nat):Val:=⟨1,low+n,⟨#[]⟩⟩
def BH(fin:Env→List (List Val)):List (H3×List F3)→Env→List (List Val)
 | [],e=>fin e
 | (g,t)::r,e=>
  if g.Kind=1 then t.flatMap fun f=>if Q5 e g.Args f.2 then M4 (BH fin r) e g.Args f.2 else []
  else if g.Kind=4 then match G3 e g.L.Var with
   | some v=>if v.Kind=1∧g.Low≤v.Num∧v.Num≤g.High then BH fin r e else []
   | none=>(List.range (g.High-g.Low+1).toNat).flatMap fun n=>M4 (BH fin r) e [g.L] [BI g.Low n]
  else BH fin r e
def U7(db:List F3)(g:H3):List F3:=if g.Kind=1∨g.Kind=2 then RA db g.Rel g.Args.length else []
def L3(db:List F3)(q:F7):List (H3×List F3):=q.Goals.map fun g=>(g,U7 db g)
def S8(db:List F3)(g:H3):Nat:=if g.Kind=1 then max (U7 db g).length 1 else if g.Kind=4 then (g.High-g.Low+1).toNat else 1
def Q0(db:List F3)(gs:List H3):Nat:=gs.foldl (fun n g=>n*S8 db g) 1
def IT(db:List F3)(q:F7):List (List Val):=BH (Bn (L3 db q) q.Sel) (L3 db q) []
def Uv(db:List F3)(q:F7):List (List Val):=CP (cL cV) (IT db q)
def T0(db:List F3)(q:F7):Int:=if BC q≠0 then BC q else if 1000000<Q0 db q.Goals then 15 else 0
def U1(db:List F3)(q:F7):List (List Val):=if T0 db q=0 then Uv db q else []
theorem Df{α β:Type}{f:α→List β}{m:Nat}:∀ {l:List α},(∀x∈l,(f x).length≤m)→(l.flatMap f).length≤l.length*m
 | [],_=>by simp
 | x::l,h=>by
  rw[List.flatMap_cons,List.length_append,List.length_cons,Nat.succ_mul];have h1:=h x (by simp)
  have h2:=Df (f:=f) (m:=m) (l:=l) fun y hy=>h y (by simp[hy])
  omega
def ah(gt:H3×List F3):Nat:=if gt.1.Kind=1 then max gt.2.length 1 else if gt.1.Kind=4 then (gt.1.High-gt.1.Low+1).toNat else 1
def Du:List (H3×List F3)→Nat
 | []=>1
 | gt::r=>ah gt*Du r
theorem LO{f:Env→List (List Val)}{m:Nat}(h:∀e,(f e).length≤m){e:Env}{os:List O8}{vs:List Val}:(M4 f e os vs).length≤m:=by
 unfold M4;split
 ·exact h _
 ·exact Nat.zero_le _
theorem Iy{fin:Env→List (List Val)}(h:∀e,(fin e).length≤1):∀(r:List (H3×List F3)),(∀gt∈r,gt.1.Kind=4→gt.1.Low≤gt.1.High)→∀e,(BH fin r e).length≤Du r
 | [],_,e=>h e
 | (g,t)::r,hr,e=>by
  have ih:=Iy h r fun gt hg=>hr gt (by simp[hg])
  have hp:Du ((g,t)::r)=ah (g,t)*Du r:=rfl
  rw[hp];unfold BH ah;by_cases k1:g.Kind=1
  ·rw[if_pos k1,if_pos (show (g,t).1.Kind=1 from k1)];refine Nat.le_trans (Df (m:=Du r) fun f _=>?_) (Nat.mul_le_mul_right _ (Nat.le_max_left ..))
   split
   ·exact LO ih
   ·exact Nat.zero_le _
  rw[if_neg k1,if_neg (show ¬(g,t).1.Kind=1 from k1)];by_cases k4:g.Kind=4
  ·rw[if_pos k4,if_pos (show (g,t).1.Kind=4 from k4)];have hlh:=hr (g,t) (by simp) k4
   split
   ·split
    ·refine Nat.le_trans (ih e) ?_
     have:1≤(g.High-g.Low+1).toNat:=by
      have:g.Low≤g.High:=hlh
      omega
     exact Nat.le_trans (by omega) (Nat.mul_le_mul_right (Du r) this)
    ·exact Nat.zero_le _
   ·have:=Df (m:=Du r) (f:=fun n=>M4 (BH fin r) e [g.L] [BI g.Low n]) (l:=List.range (g.High-g.Low+1).toNat) fun n _=>LO ih
    rw[List.length_range]at this;exact this
  rw[if_neg k4,if_neg (show ¬(g,t).1.Kind=4 from k4),Nat.one_mul];exact ih e
theorem JO{db:List F3}:∀(gs:List H3) (n:Nat),gs.foldl (fun n g=>n*S8 db g) n=n*Du (gs.map fun g=>(g,U7 db g))
 | [],n=>by simp[Du]
 | g::gs,n=>by
  rw[List.foldl_cons,JO gs];show n*S8 db g*_=n*(ah (g,U7 db g)*Du (gs.map fun g=>(g,U7 db g)))
  rw[Nat.mul_assoc];rfl
theorem Ip{db:List F3}{q:F7}:Q0 db q.Goals=Du (L3 db q):=by
 unfold Q0 L3;rw[JO,Nat.one_mul]
theorem PY{all:List (H3×List F3)}{sel:List ByteArray}(e:Env):(Bn all sel e).length≤1:=by
 unfold Bn;split <;> simp
end Go.Proofs.YtlmiakjbogojgaaGreatDoor
end
section
open Go
namespace Mk
attribute [local irreducible] Calls
section
variable {P:Program}{n:Nat}{ops:List Oper}{Γ:C8}{K:List B6}{wr tc stab:List (List Nat)}{Q:Fr→World→Prop}{i:Nat}{rest:List Oper}{ρ:Fr}{M:Nat→Fr→List B6}{T:Type}
variable {ty:TypeId}{pos:String}{es:Array Edge}
abbrev Za:=Option Addr×Nat×Nat
def gY(t:Za):Value:=.slice t.1 t.2.1 t.2.2
end
end Mk
end
section
open Go
namespace Mk
section
variable {P:Program}{Γ:C8}{S:List B6}{w:World}{E n c g i:Nat}{α:Type}[Inhabited α]{f:α→Value}
theorem Se{ρ:Go.Shelf.Ren}(L:Go.Proofs.SlLaysF.n6 P ρ)(hf1:∀x,(f x).oneCell'=true)(cf:α→α→Int)(fn:Nat)(cap:List Value)[C7 P fn](xs:List α)(v:Value)(hw:Wd Γ S w)(hi:S[i]? = some (.own v E 1 (xs.map fun x=>[f x])))
  (hO:Go.Sort.SWO (Go.Proofs.ltOf cf)) (hlen:xs.length<4611686018427387904)
  (hcmp:∀(dk:List α) w',Wd Γ (S.set i (.own v E 1 (dk.map fun x=>[f x]))) w'→∀x y,Calls P fn (#[f x,f y]++cap.toArray) w' fun e w''=>e=.returned (.int .i64 (cf x y))∧∃S'',Wd (Ai w') S'' w'') :
  Calls P (ρ.f 6) #[v,.func (.func fn) #[] cap.toArray] w fun e w'=>e=.returned (.tuple #[])∧∃ys:List α,ys.Perm xs∧(ys.Pairwise fun a b=>Go.Proofs.ltOf cf b a=false)∧Wd Γ (S.set i (.own v E 1 (ys.map fun x=>[f x]))) w':=by
 obtain⟨a,n,c,rfl,e2,e3,e4,e5⟩:=AY hw hi
 have hn:n=xs.length:=by simpa using e2
 by_cases h0:n=0
 ·have hx:xs=[]:=List.eq_nil_of_length_eq_zero (by omega)
  subst h0;refine(Go.Proofs.AnyF.slices_SortFunc_none (P:=P) (ρ:=ρ) { L with } a c _ w).mono ?_
  rintro e w' ⟨he,rfl⟩
  refine⟨he,[],by rw[hx],List.Pairwise.nil,?_⟩
  rw[hx]at hi;have hset:S.set i (.own (.slice a 0 c) E 1 (([]:List α).map fun x=>[f x]))=S:=by
   obtain⟨hil,hie⟩:=List.getElem?_eq_some_iff.1 hi
   rw[←hie];exact List.set_getElem_self hil
  rw[hset];exact hw
 ·have hc:0<c:=by omega
  rcases e5 with e5|⟨g,cur,rfl,hg,hcur,hcs,htk⟩
  ·omega
  obtain⟨hH,hgl⟩:=Ao (enc:=fun x:α=>[f x]) (k:=1) (fun _=>rfl) hw hi hc
  have hH1:Go.Sort.Holds f w g 0 xs.toArray:=fun j hj=>by
   have:=hH j (by simpa using hj)
   rw[Bo]at this;have hj:j<xs.length:=by simpa using hj
   simpa[hj] using this
  have:=Go.Proofs.Any.slices_SortFunc L f hf1 cf hO fn cap.toArray g 0 c xs.toArray w (fun args w=>R3 args) (fun m os dk hdk x y=>?_) hH1 hgl (by simpa using hlen)
  ·simp only[List.size_toArray]at this
   rw[←hn]at this;refine this.mono ?_
   rintro e w' ⟨he,d',n',os,hp,hs,rfl⟩
   have hd:d'.size=xs.length:=by have:=hp.1;simpa using this
   refine⟨he,d'.toList,by simpa using IG (d:=xs.toArray) (by simpa[←hn] using hp),Ez (m:=n) (by omega) hs,?_⟩
   rw[l6];exact R8 (enc:=fun x:α=>[f x]) (k:=1) (fun _=>rfl) hw hi hc d' hd n' os
  ·have S3:=R8 (enc:=fun x:α=>[f x]) (k:=1) (fun _=>rfl) hw hi hc dk (by simpa using hdk) m os
   rw[←l6]at S3;refine(hcmp dk.toList _ S3 x y).mono ?_
   rintro e w'' ⟨he,S'',ES⟩
   exact⟨he,LL ES⟩
end
def cU(id:Nat)(Q:List Deferred→Exit→Fr→World→Prop):List Deferred→Exit→Fr→World→Prop:=fun D=>Qu id (Q D)
section
variable {P:Program}{n:Nat}{Q:List Deferred→Exit→Fr→World→Prop}{D:List Deferred}{ρ:Fr}{w:World}
theorem aS(h:Q D .normal ρ w):WX P n .skip Q D ρ w:=fun a hd hs hf=>wp_skip ⟨hs,by rw[hd,hf];exact h⟩
theorem Zv{id:Nat}(h:Q D (.exit id) ρ w):WX P n (.exit id) Q D ρ w:=fun a hd hs hf=>wp_exit ⟨hs,by rw[hd,hf];exact h⟩
theorem Wi{id:Nat}{c:Code}(h:WX P n c (cU id Q) D ρ w):WX P n (.block id c) Q D ρ w:=fun a hd hs hf=>
 wp_block (Code.wp_mono (fun e a w ⟨q,r⟩=>by
  cases e <;> first|exact⟨q,r⟩|(simp only[cU,Qu]at r;simp only[Exit.inBlock];split <;> rename_i h <;> simp only[h,if_true,if_false]at r <;> exact⟨q,r⟩)) (h a hd hs hf))
theorem au{c:Code}(I:Nat→Fr→World→Prop)(m₀:Nat)(h0:I m₀ ρ w)
  (round:∀m ρ w,I m ρ w→WX P n c (dC (fun D' ρ' w'=>D'=D∧∃m'<m,I m' ρ' w') Q) D ρ w):WX P n (.loop c) Q D ρ w:=fun a hd hs hf=>
 wp_loop_ghost (fun m a w=>a.defers=D∧a.tmps.size=n∧I m (E0 a) w) m₀ ⟨hd,hs,hf ▸ h0⟩ fun m a w ⟨p,q,r⟩=>
  Code.wp_mono (fun e a w ⟨q,r⟩=>by
   cases e <;> first|exact⟨q,r⟩|(obtain⟨hD,m',h1,h2⟩:=r;exact⟨m',h1,hD,q,h2⟩)) (round m _ w r a p q rfl)
theorem Be{p G:Prop}(h:G)(e:G→p:=by intro h;first|exact Ca h|exact Wi h|exact Ea h|exact aS h|exact Wa h|exact Zv h):p:=e h
end
section
variable {P:Program}
attribute [local semireducible] W
theorem PZ{f:FuncId}{fn:Func}{c:Code}{args:Array Value}{u:FrameMode}{w:World}{R:Ending→World→Prop}(hf:P.funcs[f]? = some fn)(hb:fn.body=some c)
  (hn:Nat.ble args.size fn.ntmps=true) (h:W P fn.ntmps c (eL fn.results R) (Z6 args) w):CallsD P f args u w fun e u' w'=>u'=u∧R e w':=by
 have hle:args.size≤fn.ntmps:=Nat.le_of_ble_eq_true hn
 refine callsD_of_wp hf hb (Code.wp_mono ?_ (h _ rfl (by simp;omega) (QW hn)))
 rintro e a w ⟨hd,hs,hq⟩
 cases e with
 | normal=>obtain⟨v,hv,hR⟩:=hq;exact⟨hd,v,P7 hv,hR⟩
 | ret=>obtain⟨v,hv,hR⟩:=hq;exact⟨hd,v,P7 hv,hR⟩
 | panic ch=>exact⟨hd,hq⟩
 | outgrown=>exact hq
 | exit id=>exact hq.elim
 | goto l=>exact hq.elim
theorem Rv{fn:Func}{tmps:Array Value}{R:Ending→World→Prop}{f:Nat}{fst cap:Array Value}{w:World}[C7 P f](h:CallsD P f (fst++cap) .returning w fun e u' w'=>u'=.returning∧(∃v,e=.returned v)∧∃v,(results fn tmps).run P w'=.ok v w'∧R (.returned v) w') :
  Leaves P fn tmps R [⟨.fn (.func f) cap,fst⟩] .returning w:=
 leaves_cons (by intro h;cases h) (R3 _) (h.mono fun e u' w' ⟨h1,⟨v,h2⟩,h3⟩=>by subst h1;subst h2;exact h3)
end
end Mk
end
section
open Go Mk
namespace Go.Proofs.YtlmiakjbogojgaaGreatDoor
set_option maxHeartbeats 16000000
attribute [local irreducible] Calls cI cB
theorem cu{s:ByteArray}(h:s.size≤9223372036854775807):SB s:=⟨by omega⟩
instance cQ(s:ByteArray):PC Tryz.prog 161 [.string s] (.bool (KW s)):=⟨fun w=>by
 refine A7 Tryz.func161 rfl rfl ?_
 refine A6 ?_;exact⟨_,rfl,rfl,rfl⟩⟩
theorem Ey{s:ByteArray}(h:s.size≤9223372036854775807):PC Tryz.prog 169 [.string s] (.bool (Y3 s)):=⟨fun w=>by
 haveI:=cu h
 have hs0:F8 s=true→0<s.size:=fun hn=>by
  unfold F8 s5 at hn;simp only[Bool.and_eq_true,decide_eq_true_eq]at hn
  exact hn.1.1.1
 refine A7 Tryz.func169 rfl rfl ?_
 refine A6 ?_;refine lG ?_ (hv:=fun hc=>by exact JM B4 B4 (by omega) (by have:=hs0 hc;omega))
 refine A6 ?_;refine lG ?_ (hv:=fun hc=>by exact JM B4 B4 (by omega) (by have:=hs0 (L2 hc);omega))
 refine A6 ?_;exact⟨_,rfl,rfl,rfl⟩⟩
instance eo(Γ:C8)(x:N0):PG Tryz.prog Γ 77 [.agg (cG x).toArray] (.bool (H8 x.g)):=⟨fun S w hw=>by
 refine A7 Tryz.func77 rfl rfl ?_
 refine A6 ?_;refine H2 ?_;intro b1 w hw;have hw:Wd Γ (.blk b1 (.cells (cG x).toArray 77)::S) w:=hw
 refine A6 ?_;exact⟨_,rfl,rfl,hw.drop⟩⟩
instance XQ(Γ:C8)(a b:Val):PG Tryz.prog Γ 152 [.agg (enc a).toArray,.agg (enc b).toArray] (.int .i64 (cV a b)):=⟨fun S w hw=>by
 refine A7 Tryz.func152 rfl rfl ?_
 refine A6 ?_;refine H2 ?_;intro b1 w hw;refine H2 ?_;intro b2 w hw;have hw:Wd Γ (.blk b2 (.cells (enc b).toArray 65)::.blk b1 (.cells (enc a).toArray 65)::S) w:=hw
 refine A6 ?_;refine FJ [.blk b2 _,.blk b1 _] S [20] [[],[],[],[],[],[],[],[],[],[],[],[],[],[],[],[0],[0],[]] hw ?_
 refine P3 ?_;refine Cy (v:=undef) (T':=Value) (fun t g=>g 20=t) (fun t=>.own t 3 1 ([cI a.Kind b.Kind,cI a.Num b.Num,cB a.Word b.Word].map fun x=>[.int .i64 x])::S) (fun t g w Y _ hw=>R4 (rws:=[cI a.Kind b.Kind,cI a.Num b.Num,cB a.Word b.Word].map fun x=>[.int .i64 x]) hw rfl rfl rfl (by simp) (by decide) fun q w' hw'=>⟨_,rfl,(fun h=>by cases h),hw'⟩) ?_
 refine RV (φ:=fun (t:Value) g=>g 20=t) (v:=.int .i64 (cV a b)) (T':=Value) (fun _ _=>True) (fun t=>.own t 3 1 ([cI a.Kind b.Kind,cI a.Num b.Num,cB a.Word b.Word].map fun x=>[.int .i64 x])::S) (fun t _=>[t]) (fun t g w Y ht hw=>?_) ?_ (ha:=fun t g ht=>EvL.cons ht EvL.nil)
 ·refine(MF _ hw (P4.own (i:=0) hw rfl)).mono ?_
  rintro e w ⟨rfl,hw⟩
  refine⟨_,rfl,t,trivial,fun _=>?_,hw⟩
  unfold cV NQ NQ NQ NQ;rw[TU]
 refine P3 ?_;refine IA fun t w g _ hw=>?_
 refine A6 ?_;exact⟨_,rfl,rfl,hw.drop.left⟩⟩
theorem KZ{Γ:C8}{q:Nat}[C7 Tryz.prog q](hq:∀a b:Val,PG Tryz.prog Γ q [.agg (enc a).toArray,.agg (enc b).toArray] (.int .i64 (cV a b))){va vb:Value}{xs ys:List Val}(ha:D7 Γ va 3 (xs.map enc))(hb:D7 Γ vb 3 (ys.map enc)) :
  PG Tryz.prog Γ 142 [va,vb,.func (.func q) #[] #[]] (.int .i64 (cL cV xs ys)):=⟨fun S w hw=>by
 obtain⟨a,n,c,rfl,hn,hnc,hc⟩:=ha.shape;obtain⟨a2,n2,c2,rfl,hn2,hnc2,hc2⟩:=hb.shape;simp only[List.length_map]at hn hn2
 refine A7 Tryz.func142 rfl rfl ?_
 refine A6 ?_;refine B3 (fun μ ρ w=>∃(k:Nat),μ+k=n∧Has ρ [(0,.slice a n c),(1,.slice a2 n2 c2),(2,.func (.func q) #[] #[]),(11,.slice a n c),(12,.int .i64 n),(13,.int .i64 k)]∧cL cV xs ys=cL cV (xs.drop k) (ys.drop k)∧Wd Γ S w) n ⟨0,by omega,⟨rfl,rfl,rfl,rfl,rfl,rfl,trivial⟩,rfl,hw⟩ ?_
 clear hw;rintro μ ρ w ⟨k,hk,hρ,ho,hw⟩
 rw[hρ.eq];refine A6 ?_;refine A0 rfl (fun h=>?_) (fun h=>?_)
 ·have hkn:k<n:=by simpa using h
  obtain⟨x,hx⟩:=B2 (l:=xs) (k:=k) (by omega)
  have hd:xs.drop k=x::xs.drop (k+1):=Q9 hx
  rw[hd]at ho;refine A6 ?_;refine B9 ?_;intro b8 w hw;refine A6 ?_;refine B0 ?_;intro w hw;have hw:Wd Γ (.blk b8 (.cells (enc x).toArray 65)::S) w:=hw
  refine A6 ?_;refine A0 rfl (fun h2=>?_) (fun h2=>?_)
  ·refine A6 ?_;have h2:n2≤k:=by simpa using h2
   refine⟨_,rfl,G4 rfl ?_,hw.drop⟩
   rw[ho,G8 ys (by omega)];rfl
  ·have h2:k<n2:=by simpa using h2
   obtain⟨y,hy⟩:=B2 (l:=ys) (k:=k) (by omega)
   rw[Q9 hy]at ho;have ho:cL cV xs ys=Ch (cV x y) (cL cV (xs.drop (k+1)) (ys.drop (k+1))):=ho
   refine A6 ?_;refine B9 ?_;intro b9 w hw;refine B0 ?_;intro w hw;have hw:Wd Γ (.blk b9 (.cells (enc y).toArray 65)::.blk b8 (.cells (enc x).toArray 65)::S) w:=hw
   refine A6 ?_;refine EF (fst:=[]) (cap:=[]) ?_
   refine((hq x y).h _ _ hw).mono ?_
   rintro e w ⟨rfl,hw⟩
   refine⟨_,rfl,?_⟩;refine A6 ?_;refine A0 rfl (fun h3=>?_) (fun h3=>?_)
   ·refine A6 ?_;have h3:¬cV x y=0:=by simpa using h3
    refine⟨_,rfl,G4 rfl ?_,hw.drop.drop⟩
    rw[ho,Mn h3]
   ·refine A6 ?_;have h3:cV x y=0:=by simpa using h3
    refine⟨μ-1,by omega,k+1,by omega,⟨rfl,rfl,rfl,rfl,rfl,rfl,trivial⟩,?_,hw.drop.drop⟩
    rw[ho,JW h3]
 ·have hkn:¬k<n:=by simpa using h
  rw[G8 xs (by omega)]at ho
  refine A6 ?_;refine A0 rfl (fun h2=>?_) (fun h2=>?_)
  ·refine A6 ?_;have h2:n<n2:=by simpa using h2
   obtain⟨y,hy⟩:=B2 (l:=ys) (k:=k) (by omega)
   rw[Q9 hy]at ho;exact⟨_,rfl,G4 rfl (by rw[ho];rfl),hw⟩
  ·refine A6 ?_;have h2:¬n<n2:=by simpa using h2
   rw[G8 ys (by omega)]at ho
   exact⟨_,rfl,G4 rfl (by rw[ho];rfl),hw⟩⟩
theorem Sn{Γ:C8}{va vb:Value}{xs ys:List Val}(ha:D7 Γ va 3 (xs.map enc))(hb:D7 Γ vb 3 (ys.map enc)):PG Tryz.prog Γ 81 [va,vb] (.int .i64 (cL cV xs ys)):=⟨fun S w hw=>by
 have hC:=KZ (q:=152) (fun a b=>XQ Γ a b) ha hb
 obtain⟨a,n,c,rfl,hn,hnc,hc⟩:=ha.shape;obtain⟨a2,n2,c2,rfl,hn2,hnc2,hc2⟩:=hb.shape;refine A7 Tryz.func81 rfl rfl ?_
 repeat first|refine E6 ?_|refine E7 ?_;intro w hw
 exact⟨_,rfl,rfl,hw⟩⟩
theorem KQ{Γ:C8}{va vb:Value}{xs ys:List Val}(ha:D7 Γ va 3 (xs.map enc))(hb:D7 Γ vb 3 (ys.map enc)):PG Tryz.prog Γ 82 [va,vb] (.bool (decide (cL cV xs ys=0))):=⟨fun S w hw=>by
 have hC:=Sn ha hb
 obtain⟨a,n,c,rfl,hn,hnc,hc⟩:=ha.shape;obtain⟨a2,n2,c2,rfl,hn2,hnc2,hc2⟩:=hb.shape;refine A7 Tryz.func82 rfl rfl ?_
 repeat first|refine E6 ?_|refine E7 ?_;intro w hw
 exact⟨_,rfl,rfl,hw⟩⟩
theorem Ko(l r off:Int)(hl:Hc l)(hr:Hc r)(ho:Hc off):PC Tryz.prog 281 [.int .i64 l,.int .i64 r,.int .i64 off] (.int .i64 (Ut l r off)):=⟨fun w=>by
 have hwr:=XX (r+off)
 have hmod:IntKind.i64.wrap (r+off)=r+off∨(9223372036854775807<r+off∧IntKind.i64.wrap (r+off)=r+off-18446744073709551616)∨(r+off < -9223372036854775808∧IntKind.i64.wrap (r+off)=r+off+18446744073709551616):=by
  unfold Hc at *
  simp only[IntKind.wrap,IntKind.bits,IntKind.signed]
  simp
  split <;> omega
 obtain⟨s,hs⟩:∃s,s=IntKind.i64.wrap (r+off):=⟨_,rfl⟩
 refine A7 Tryz.func281 rfl rfl ?_
 first|refine E6 ?_|(refine E7 ?_;intro w hw)
 first|refine E6 ?_|(refine E7 ?_;intro w hw)
 first|refine E6 ?_|(refine E7 ?_;intro w hw)
 first|refine E6 ?_|(refine E7 ?_;intro w hw)
 first|refine E6 ?_|(refine E7 ?_;intro w hw)
 first|refine E6 ?_|(refine E7 ?_;intro w hw)
 first|refine E6 ?_|(refine E7 ?_;intro w hw)
 first|refine E6 ?_|(refine E7 ?_;intro w hw)
 refine lY (v:=.int .i64 s) ?_ (hy:=by rw[hs];exact UB rfl rfl)
 rw[←hs]at hmod hwr
 clear hs;unfold Hc at hl hr ho;refine A6 ?_;refine A0 rfl (fun h=>?_) (fun h=>?_)
 ·refine A6 ?_;simp only[Bool.and_eq_true,decide_eq_true_eq]at h
  refine⟨_,rfl,G4 rfl ?_,rfl⟩
  unfold Ut cI;rw[if_pos (by omega)]
 refine A6 ?_;refine A0 rfl (fun h2=>?_) (fun h2=>?_)
 ·refine A6 ?_;simp only[Bool.and_eq_true,decide_eq_true_eq]at h2
  refine⟨_,rfl,G4 rfl ?_,rfl⟩
  unfold Ut cI;rw[if_neg (by omega),if_pos (by omega)]
 have hsum:s=r+off:=by
  simp only[Bool.and_eq_false_iff,decide_eq_false_iff_not]at h h2
  omega
 refine A6 ?_;exact⟨_,rfl,G4 rfl (by rw[hsum];rfl),rfl⟩⟩
end Go.Proofs.YtlmiakjbogojgaaGreatDoor
end
section
open Go Mk
namespace Go.Proofs.YtlmiakjbogojgaaGreatDoor
set_option maxHeartbeats 16000000
attribute [local irreducible] Calls cI cB
theorem Cr{Γ:C8}{f:Nat}{args:List Value}{v:Value}(h:∀(Γ1:C8) (w:World),Γ.le Γ1→Wd Γ1 [] w→Calls Tryz.prog f args.toArray w fun e w'=>∃Γ2,Γ1.le Γ2∧e=.returned v∧Wd Γ2 [] w'):PG Tryz.prog Γ f args v:=
 ⟨fun S w hw=>(h (ed Γ w) w (Xk hw) (XF hw)).mono fun e w' ⟨Γ2,hle,he,hw'⟩=>⟨he,Nr (R:=[]) hw hle (by simp) hw'⟩⟩
theorem CH{N:Nat}{g:H3}(h:PL N g)(hN:N≤9223372036854775807):(J5 g).length≤9223372036854775807:=by
 unfold J5;have:=h.len
 split
 ·omega
 split
 ·simp
 split <;> simp
theorem aA{N:Nat}{g:H3}(h:PL N g):∀o∈J5 g,GL o:=by
 unfold J5;intro o ho;split at ho
 ·exact h.args o ho
 split at ho
 ·simp only[List.mem_cons,List.not_mem_nil,or_false]at ho
  rcases ho with rfl|rfl
  ·exact h.l
  ·exact h.r
 split at ho
 ·simp only[List.mem_cons,List.not_mem_nil,or_false]at ho
  rw[ho];exact h.l
 ·cases ho
section
variable {Γ:C8}{S:List B6}{w:World}
theorem j9{x:N0}(hx:Vq Γ x)(hw:Wd Γ S w) :
  Calls Tryz.prog 168 #[.agg (cG x).toArray] w fun e w'=>∃Γ' v,Γ.le Γ'∧e=.returned v∧D7 Γ' v 4 ((J5 x.g).map enc)∧Wd Γ' S w':=by
 obtain⟨l1,l2,l3⟩:=hx.len;obtain⟨g,A,N,C⟩:=x;simp only at l1 l2 l3
 refine A7 Tryz.func168 rfl rfl ?_
 refine A6 ?_;refine H2 ?_;intro b1 w hw;have hw:Wd Γ (.blk b1 (.cells (cG ⟨g,A,N,C⟩).toArray 77)::S) w:=hw
 refine A6 ?_;refine A0 rfl (fun h=>?_) (fun h=>?_)
 ·have hk:g.Kind=1:=of_decide_eq_true h
  refine A6 ?_;refine O0 (congrArg Value.bool h) ?_
  refine A6 ?_;refine⟨_,rfl,Γ,_,C8.le.refl _,rfl,?_,hw.drop⟩
  unfold J5;rw[if_pos (Or.inl hk)];exact hx
 have hk1:¬g.Kind=1:=of_decide_eq_false h
 refine A6 ?_;refine A0 rfl (fun h=>?_) (fun h=>?_)
 ·have hk:g.Kind=2:=of_decide_eq_true h
  refine A6 ?_;refine⟨_,rfl,Γ,_,C8.le.refl _,rfl,?_,hw.drop⟩
  unfold J5;rw[if_pos (Or.inr hk)];exact hx
 have hk2:¬g.Kind=2:=of_decide_eq_false h
 refine A6 ?_;refine A0 rfl (fun h=>?_) (fun h=>?_)
 ·have hk:g.Kind=3:=of_decide_eq_true h
  refine A6 ?_;refine B5 [enc g.L,enc g.R] ?_
  intro q w hw;obtain⟨Γ',hle,hr,hw⟩:=hw.freeze;refine A6 ?_;refine⟨_,rfl,Γ',_,hle,rfl,?_,hw.drop⟩
  unfold J5;rw[if_neg (fun e=>e.elim hk1 hk2),if_pos hk];exact hr
 have hk3:¬g.Kind=3:=of_decide_eq_false h
 refine A6 ?_;refine A0 rfl (fun h=>?_) (fun h=>?_)
 ·have hk:g.Kind=4:=of_decide_eq_true h
  refine A6 ?_;refine B5 [enc g.L] ?_
  intro q w hw;obtain⟨Γ',hle,hr,hw⟩:=hw.freeze;refine A6 ?_;refine⟨_,rfl,Γ',_,hle,rfl,?_,hw.drop⟩
  unfold J5;rw[if_neg (fun e=>e.elim hk1 hk2),if_neg hk3,if_pos hk];exact hr
 have hk4:¬g.Kind=4:=of_decide_eq_false h
 refine A6 ?_;refine⟨_,rfl,Γ,_,C8.le.refl _,rfl,?_,hw.drop⟩
 unfold J5;rw[if_neg (fun e=>e.elim hk1 hk2),if_neg hk3,if_neg hk4];exact D7.nil
end
theorem SG{v:Val}:decide ((MU [] (⟨#[118]⟩,[v])).2=0)=L0 v:=by
 have hn:F8 ⟨#[118]⟩=true:=by decide +kernel
 have hr:CY (⟨#[118]⟩,[v])=L0 v:=by
  unfold CY;simp only[hn,List.length_singleton,List.all_cons,List.all_nil,Bool.and_true]
  simp
 unfold MU;rw[hr];cases h:L0 v with
 | true=>
  rw[if_pos rfl,if_pos]
  ·rfl
  ·have:(O4 ([]++[((⟨#[118]⟩:ByteArray),[v])])).length≤([]++[((⟨#[118]⟩:ByteArray),[v])]).length:=Ah
   exact Nat.le_trans this (by simp)
 | false=>
  rw[if_neg (by simp)];rfl
theorem Ex{Γ:C8}{v:Val}(hv:j8 v):PG Tryz.prog Γ 171 [.agg (enc v).toArray] (.bool (L0 v)):=Cr fun Γ w _ hw=>by
 refine A7 Tryz.func171 rfl rfl ?_
 refine A6 ?_;refine H2 ?_;intro b1 w hw;have hw:Wd Γ [.blk b1 (.cells (enc v).toArray 65)] w:=hw
 refine A6 ?_;refine B5 [enc v] ?_
 intro q w hw;obtain⟨Γ1,hle1,hr,hw⟩:=hw.freeze;refine A6 ?_;refine C9 (vs:=[.slice none 0 0,.agg (cF ⟨⟨#[118]⟩,some q,1,1,[v]⟩).toArray]) ((SO (Γ:=Γ1) (f:=⟨⟨#[118]⟩,some q,1,1,[v]⟩) [] (fun f hf=>by cases hf) (by simp) hr ⟨by simp[D1.fact],by show 1≤100000;omega,fun u hu=>by
  have:u=v:=by simpa[D1.fact] using hu
  rw[this];exact hv⟩ D7.nil.rdS hw).mono fun e w hq=>?_)
 obtain⟨Γ2,v',gs,hle2,rfl,-,hRL,hw⟩:=hq;refine⟨_,rfl,?_⟩;refine A6 ?_;exact⟨_,rfl,Γ2,hle1.trans hle2,F2 rfl (SG (v:=v)),hw.drop⟩
end Go.Proofs.YtlmiakjbogojgaaGreatDoor
end
section
open Go Mk
namespace Go.Proofs.YtlmiakjbogojgaaGreatDoor
set_option maxHeartbeats 16000000
attribute [local irreducible] Calls cI cB
def fP(v:Val):Value:=.agg (enc v).toArray
abbrev E3(bm:Nat)(e:Env):B6:=B6.ms fP bm e
def F6(vs vg vt vr:Value)(bm:Nat):Obj:=.cells #[vs,vg,vt,.map (some bm),vr] 160
section
variable {Γ:C8}{S:List B6}{w:World}{b bm:Nat}{vs vg vt vr:Value}{e:Env}
theorem Uf{o:O8}(hw:Wd Γ (.blk b (F6 vs vg vt vr bm)::E3 bm e::S) w):Calls Tryz.prog 225 #[.pointer (some ⟨b,0,none⟩),.agg (enc o).toArray] w fun r w'=>r=.returned (.agg (enc (Gu e o)).toArray)∧Wd Γ (.blk b (F6 vs vg vt vr bm)::E3 bm e::S) w':=by
 refine I4 Tryz.func225 rfl rfl ?_
 refine A6 ?_;refine H2 ?_;intro b3 w hw;refine B9 ?_;intro b4 w hw;have hw:Wd Γ (.blk b4 (.cells #[.int .i64 0,.int .i64 0,.string ⟨#[]⟩] 65)::.blk b3 (.cells (enc o).toArray 75)::.blk b (F6 vs vg vt vr bm)::E3 bm e::S) w:=hw
 refine A6 ?_;refine A0 rfl (fun h=>?_) (fun h=>?_)
 ·have hv:o.Var≠F1:=of_decide_eq_true h
  refine A6 ?_;refine FJ [.blk b3 (.cells (enc o).toArray 75),.blk b (F6 vs vg vt vr bm),E3 bm e] (.blk b4 (.cells #[.int .i64 0,.int .i64 0,.string ⟨#[]⟩] 65)::S) [] [[],[],[],[],[],[],[],[0]] (hw.perm T1) ?_
  refine P3 ?_;refine Cy (v:=undef) (T':=Unit) (fun _ _=>True) (fun _=>.blk b4 (.cells (enc (y6 e o.Var)).toArray 65)::S) (fun t g w Y _ hw=>?_) ?_
  ·exact AR (i:=0) (vs:=enc (y6 e o.Var)) (n:=3) (by kernel_rfl) hw rfl rfl rfl rfl (fun u hu=>(List.all_eq_true.1 (Cc (y6 e o.Var))) u hu) rfl (by decide) fun w' hw'=>⟨(),trivial,(fun _=>rfl),hw'⟩
  refine IA fun t w g _ hw=>?_
  have hw:Wd Γ ((.blk b4 (.cells (enc (y6 e o.Var)).toArray 65)::S)++[.blk b3 (.cells (enc o).toArray 75),.blk b (F6 vs vg vt vr bm),E3 bm e]) w:=hw
  have hw:Wd Γ (.blk b4 (.cells (enc (y6 e o.Var)).toArray 65)::.blk b3 (.cells (enc o).toArray 75)::.blk b (F6 vs vg vt vr bm)::E3 bm e::S) w:=hw.perm T1
  refine A6 ?_;refine⟨[.agg (enc (y6 e o.Var)).toArray],⟨U4 (i:=0) hw rfl rfl rfl,trivial⟩,?_,hw.drop.drop⟩
  unfold Gu;rw[if_pos hv];rfl
 ·have hv:¬o.Var≠F1:=of_decide_eq_false h
  refine A6 ?_;refine B0 ?_;intro w hw;have hw:Wd Γ (.blk b4 (.cells (enc o.Const).toArray 65)::.blk b3 (.cells (enc o).toArray 75)::.blk b (F6 vs vg vt vr bm)::E3 bm e::S) w:=hw
  refine A6 ?_;refine⟨[.agg (enc o.Const).toArray],⟨U4 (i:=0) hw rfl rfl rfl,trivial⟩,?_,hw.drop.drop⟩
  unfold Gu;rw[if_neg hv];rfl
theorem QX{os:List O8}{xs:List Val}{k:Nat}{o:O8}{x:Val}(ho:os[k]? = some o)(hx:xs[k]? = some x):Q5 e (os.drop k) (xs.drop k)=(Gh e o x&&Q5 e (os.drop (k+1)) (xs.drop (k+1))):=by
 rw[Q9 ho,Q9 hx];rfl
theorem Tw{o:O8}{x:Val}(ha:o.Var≠I8)(hn:G3 e F1=none):(!Gh e o x)=(if o.Var=F1 then decide (o.Const≠x) else ((G3 e o.Var).isSome&&decide ((G3 e o.Var).getD default≠x))||(!(G3 e o.Var).isSome && !L0 x)):=by
 unfold Gh;rw[if_neg ha];by_cases h0:o.Var=F1
 ·rw[if_pos h0,if_pos h0];simp
 rw[if_neg h0,if_neg h0];cases G3 e o.Var with
 | none=>simp
 | some u=>simp
theorem NY{va:Value}{os:List O8}{f:D1}(hargs:D7 Γ va 4 (os.map enc))(hos:∀o∈os,GL o)(hf:BG Γ f)(hfo:DC f.fact)(hlen:os.length=f.Args.length)(hn:G3 e F1=none)(hN:os.length≤1000)(hw:Wd Γ (.blk b (F6 vs vg vt vr bm)::E3 bm e::S) w) :
  Calls Tryz.prog 147 #[.pointer (some ⟨b,0,none⟩),va,.agg (cF f).toArray] w fun r w'=>r=.returned (.bool (Q5 e os f.Args))∧Wd Γ (.blk b (F6 vs vg vt vr bm)::E3 bm e::S) w':=by
 obtain⟨a,n,c,rfl,hln,hnc,hc⟩:=hargs.shape;simp only[List.length_map]at hln
 obtain⟨l1,l2,l3⟩:=hf.len;have hfR:=hf
 unfold BG D1.hdr at hfR;obtain⟨-,-,hvo⟩:=hfo;obtain⟨fr,fa,fn,fc,xs⟩:=f;simp only[D1.fact]at l1 l2 l3 hfR hlen hvo ⊢
 refine A7 Tryz.func147 rfl rfl ?_
 refine A6 ?_;refine H2 ?_;intro b5 w hw;have hw:Wd Γ (.blk b5 (.cells #[.string fr,.slice fa fn fc] 80)::.blk b (F6 vs vg vt vr bm)::E3 bm e::S) w:=hw
 refine A6 ?_;refine B3 (fun μ ρ w=>∃(k:Nat),μ+k=n∧Has ρ [(0,.pointer (some ⟨b,0,none⟩)),(5,.pointer (some ⟨b5,0,none⟩)),(11,.slice a n c),(12,.int .i64 n),(13,.int .i64 k)]∧Q5 e os xs=Q5 e (os.drop k) (xs.drop k)∧Wd Γ (.blk b5 (.cells #[.string fr,.slice fa fn fc] 80)::.blk b (F6 vs vg vt vr bm)::E3 bm e::S) w) n ⟨0,by omega,⟨rfl,rfl,rfl,rfl,rfl,trivial⟩,rfl,hw⟩ ?_
 clear hw;rintro μ ρ w ⟨k,hk,hρ,hfit,hw⟩
 rw[hρ.eq];clear hρ;refine A6 ?_;refine A0 rfl (fun h=>?_) (fun h=>?_)
 ·have hkn:k<n:=by have:=of_decide_eq_true h;omega
  clear h;obtain⟨o,ho⟩:=B2 (l:=os) (k:=k) (by omega)
  obtain⟨x,hx⟩:=B2 (l:=xs) (k:=k) (by omega)
  have hxo:=hvo x (List.mem_of_getElem? hx)
  have hpw:=Ex (Γ:=Γ) hxo
  rw[QX ho hx]at hfit;refine A6 ?_;refine B9 ?_;intro b8 w hw;refine A6 ?_;refine B0 ?_;intro w hw;have hw:Wd Γ (.blk b8 (.cells (enc o).toArray 75)::.blk b5 (.cells #[.string fr,.slice fa fn fc] 80)::.blk b (F6 vs vg vt vr bm)::E3 bm e::S) w:=hw
  refine A6 ?_;refine A0 rfl (fun h=>?_) (fun h=>?_)
  ·have ha:o.Var=I8:=of_decide_eq_true h
   refine A6 ?_;refine⟨μ-1,by omega,k+1,by omega,⟨rfl,rfl,rfl,rfl,rfl,trivial⟩,?_,hw.drop⟩
   rw[hfit];unfold Gh;rw[if_pos ha,Bool.true_and]
  have ha:o.Var≠I8:=of_decide_eq_false h
  clear h;refine A6 ?_;refine Gy 1 [[],[],[],[],[],[],[],[],[],[],[0],[0],[]] [[],[],[],[],[],[],[],[],[],[],[0],[0],[]] [[9]] ?_ (hw:=hw)
  refine P3 ?_;refine P3 ?_;refine HG ?_
  refine Bv ?_
  refine P3 ?_;refine T9 ?_
  clear hw;intro b9 w hw;have hw:Wd Γ (.blk b9 (.cells (enc ((G3 e o.Var).getD default)).toArray 65)::.blk b8 (.cells (enc o).toArray 75)::.blk b5 (.cells #[.string fr,.slice fa fn fc] 80)::.blk b (F6 vs vg vt vr bm)::E3 bm e::S) w:=hw
  refine A6 ?_;refine JA (fun ρ w=>∃(u:Val) (t:Bool),Has ρ [(0,.pointer (some ⟨b,0,none⟩)),(5,.pointer (some ⟨b5,0,none⟩)),(7,.int .i64 k),(9,.pointer (some ⟨b9,0,none⟩)),(10,.bool t),(11,.slice a n c),(12,.int .i64 n),(13,.int .i64 k)]∧(!Gh e o x)=((t&&decide (u≠x))||(!t && !L0 x))∧Wd Γ (.blk b9 (.cells (enc u).toArray 65)::.blk b8 (.cells (enc o).toArray 75)::.blk b5 (.cells #[.string fr,.slice fa fn fc] 80)::.blk b (F6 vs vg vt vr bm)::E3 bm e::S) w) ?_ ?_
  ·refine A0 rfl (fun h=>?_) (fun h=>?_)
   ·have h0:o.Var=F1:=of_decide_eq_true h
    refine A6 ?_;refine B0 ?_;intro w hw;have hw:Wd Γ (.blk b9 (.cells (enc o.Const).toArray 65)::.blk b8 (.cells (enc o).toArray 75)::.blk b5 (.cells #[.string fr,.slice fa fn fc] 80)::.blk b (F6 vs vg vt vr bm)::E3 bm e::S) w:=hw
    refine A6 ?_;refine⟨o.Const,true,⟨rfl,rfl,rfl,rfl,rfl,rfl,rfl,rfl,trivial⟩,?_,hw⟩
    rw[Tw ha hn,if_pos h0];simp
   ·have h0:¬o.Var=F1:=of_decide_eq_false h
    refine A6 ?_;refine⟨(G3 e o.Var).getD default,(G3 e o.Var).isSome,⟨rfl,rfl,rfl,rfl,rfl,rfl,rfl,rfl,trivial⟩,?_,hw⟩
    rw[Tw ha hn,if_neg h0]
  clear hw;rintro ρ w ⟨u,t,hρ,hfu,hw⟩
  rw[hρ.eq];clear hρ;refine A6 ?_;refine G9 (by kernel_rfl) (by kernel_rfl) hw ?_
  refine X3 ?_;refine qG ?_ (hy:=by intro hc w hw;exact Mu (a:=u) (b:=x) B4 B4 rfl)
  refine X3 ?_;clear hw;intro w hw;refine A0 rfl (fun h=>?_) (fun h=>?_)
  ·have hff:Gh e o x=false:=by
    have:=hfu.trans h
    simpa using this
   refine A6 ?_;refine⟨_,rfl,F2 rfl ?_,hw.drop.drop.drop⟩
   rw[hfit,hff,Bool.false_and]
  ·have hff:Gh e o x=true:=by
    have:=hfu.trans h
    simpa using this
   rw[hff,Bool.true_and]at hfit;refine A6 ?_;exact⟨μ-1,by omega,k+1,by omega,⟨rfl,rfl,rfl,rfl,rfl,trivial⟩,hfit,hw.drop.drop⟩
 have hkn:k=n:=by have:=of_decide_eq_false h;omega
 refine A6 ?_;refine⟨_,rfl,F2 rfl ?_,hw.drop⟩
 rw[hfit,G8 os (by omega)];rfl
end
end Go.Proofs.YtlmiakjbogojgaaGreatDoor
end
section
open Go
namespace Mk
theorem Nm{P:Program}{ops:Array Oper}{D:List Deferred}{Q Q':Exit→Act→World→Prop}{K K':Act→World→Prop}(hQ:∀e a w,Q e a w→Q' e { a with defers:=a.defers++D } w)(hK:∀a w,K a w→K' { a with defers:=a.defers++D } w){i:Nat}{a:Act}{w:World}
  (h:wpOp P ops Q i K a w):wpOp P ops Q' i K' { a with defers:=a.defers++D } w:=by
 have hL:LetsOut Q→LetsOut Q':=fun⟨a,w,h⟩=>⟨_,_,hQ _ _ _ h⟩
 have nx:∀d v w,K (a.put d v) w→K' (({ a with defers:=a.defers++D }:Act).put d v) w:=fun d v w h=>by
  have:=hK _ _ h
  rw[put_defers];rw[K9]at this;exact this
 have he:({ a with defers:=a.defers++D }:Act).eval=a.eval:=rfl
 unfold wpOp at *
 split
 ·rename_i ho
  rw[ho]at h;exact hK _ _ h
 ·rename_i o ho
  rw[ho]at h;simp only at h ⊢
  show if Region.wanted o (yielded ops a.tmps) then _ else _
  by_cases hw:Region.wanted o (yielded ops a.tmps)
  ·rw[if_pos hw]at h ⊢
   rcases h with h|⟨h1,h2⟩
   ·refine .inl ?_
    unfold Oper.wp at h ⊢
    rw[he];generalize (execOp a.eval o).run P w=r at *
    cases r with
    | ok x w'=>
     cases x with
     | value v=>exact nx _ _ _ h
     | skip=>exact nx _ _ _ h
     | defer d=>
      have:=hK _ _ h
      rw[K9]at this;simp only[Oper.upon]
      rw[put_defers]at this ⊢
      exact this
     | enter f args=>
      refine Calls.mono h fun e w'' h=>?_
      cases e with
      | returned v=>exact nx _ _ _ h
      | panicked ch=>exact hQ _ _ _ h
      | outgrown=>exact hL h
     | row row args=>exact Rows.mono h fun v w'' h=>nx _ _ _ h
     | _=>exact h.elim
    | halt x w'=>
     cases x with
     | panic v=>exact hQ _ _ _ h
     | _=>exact h.elim
   ·exact .inr ⟨h1,hL h2⟩
  ·rw[if_neg hw]at h ⊢
   exact nx _ _ _ h
theorem Gk{P:Program}{ops:Array Oper}{D:List Deferred}{Q Q':Exit→Act→World→Prop}{md:Region.Mode}(hQ:∀e a w,Q e a w→Q' e { a with defers:=a.defers++D } w):∀(fuel:Nat) (listed:Array Bool) (a:Act) (w:World),wpAny P md ops Q fuel listed a w→wpAny P md ops Q' fuel listed { a with defers:=a.defers++D } w
 | 0,listed,a,w,h=>⟨h.1,hQ _ _ _ h.2⟩
 | fuel+1,listed,a,w,h=>⟨fun h0=>hQ _ _ _ (h.1 h0),fun i hi=>Nm hQ (fun a w h=>Gk hQ fuel _ a w h) (h.2 i hi)⟩
section
variable {P:Program}{n:Nat}{Q:List Deferred→Exit→Fr→World→Prop}{D:List Deferred}{ρ:Fr}{w:World}
theorem XC{id:Nat}{l:List Oper}(hm:P.follows .mixedOrders=true)(h:∀a:Act,a.defers=[]→a.tmps.size=n→E0 a=ρ→wpAny P .any l.toArray (lift n (Q D)) l.toArray.size (Array.replicate l.toArray.size false) a { w with drawn:=w.drawn+1 }) :
  WX P n (.region id l.toArray true) Q D ρ w:=fun a hd hs hf=>wp_region_any hm (by
 have:=Gk (P:=P) (ops:=l.toArray) (D:=D) (md:=.any) (Q:=lift n (Q D)) (Q':=fun e a w=>a.tmps.size=n∧Q a.defers e (E0 a) w) (fun e a w ⟨x,y,z⟩=>⟨y,by
  show Q (a.defers++D) e (E0 a) w
  rw[x];exact z⟩) l.toArray.size (Array.replicate l.toArray.size false) { a with defers:=[] } { w with drawn:=w.drawn+1 } (h { a with defers:=[] } rfl hs hf)
 have e:({ ({ a with defers:=[] }:Act) with defers:=([]:List Deferred)++D }:Act)=a:=by subst hd;rfl
 exact e ▸ this)
variable {Γ:C8}{K S:List B6}
section
attribute [local semireducible] Qw
theorem ZA{id:Nat}{l:List Oper}(hm:P.follows .mixedOrders=true)(hk:Ie n l=true)(hw:Wd Γ S w)(h:Qw P n l Γ S (fun ρ w=>Q D .normal ρ w) l ρ) :
  WX P n (.region id l.toArray true) Q D ρ w:=XC hm fun a hda hs hf=>by
 simp only[Ie,Bool.and_eq_true]at hk
 obtain⟨cs,hc⟩:=(h 0).chain
 have inv:Inv ⟨P,n,l,Γ,S,[],[],true⟩ ⟨ρ,[],[],[]⟩ cs (Array.replicate l.toArray.size false) a { w with drawn:=w.drawn+1 } [] (fun _=>undef) Γ:=by
  refine⟨hda,hs,by simp,by simp,by simp,fun i hi=>?_,fun _ _ _ h=>by simp at h,Env.rl.refl _ _,by simp,fun t _=>by rw[hf],by simp,0,Nat.zero_le _,by simp,?_⟩
  ·have:i<l.length:=hi
   simp[this]
  ·have:Gq l cs ⟨ρ,[],[],[]⟩ 0=⟨ρ,[],[],[]⟩:=by cases l <;> cases cs <;> rfl
   simp only[this]
   simpa using hw.drawn
 exact Inv.any hc rfl rfl hk.1 hk.2 _ _ a _ [] _ Γ inv (by simp)
end
theorem OO{id:Nat}{l:List Oper}(K:List B6)(M:List (Fr→List B6))(wr tc stab:List (List Nat))(hw:Wd Γ (K++(List.range stab.length).flatMap fun x=>(ML M) x (E8 (stab.getD x []) ρ D5)) w)
  (h:MSw (mV P n l Γ K wr tc stab) (fun ρ w=>Q D .normal ρ w) 0 l ⟨ρ,ML M⟩) (hm:P.follows .mixedOrders=true:=by kernel_rfl) (hk:R6 n l wr tc stab=true:=by kernel_rfl):WX P n (.region id l.toArray true) Q D ρ w:=XC hm fun a hda hs hf=>by
 obtain⟨cs,hc⟩:=h.chain;have inv:MInv ⟨P,n,l,Γ,K,wr,tc,stab,true⟩ ⟨ρ,ML M⟩ cs (Array.replicate l.toArray.size false) a { w with drawn:=w.drawn+1 } [] Γ:=by
  refine⟨hda,hs,by simp,by simp,by simp,fun i hi=>?_,fun _ _ _ h=>by simp at h,Y5.rl_refl _,fun t _ _=>by rw[hf],by simp,fun _=>0,fun x=>⟨Nat.zero_le _,by simp⟩,?_⟩
  ·have:i<l.length:=hi
   simp[this]
  ·simp only[CN,hf]
   exact hw.drawn
 exact MInv.any hc hk _ _ a _ [] Γ inv (by simp)
theorem cE{id:Nat}{l:List Oper}(k:Nat)(wr tc stab:List (List Nat))(h:MSw (mV P n l Γ K wr tc stab) (fun ρ w=>Q D .normal ρ w) 0 l ⟨ρ,ML (List.replicate k fun _=>[])⟩)
  (hw:Wd Γ K w:=by exact hw) (hm:P.follows .mixedOrders=true:=by kernel_rfl) (hk:R6 n l wr tc stab=true:=by kernel_rfl):WX P n (.region id l.toArray true) Q D ρ w:=
 OO K _ wr tc stab (by
  have:((List.range stab.length).flatMap fun x=>ML (List.replicate k fun _=>[]) x (E8 (stab.getD x []) ρ D5))=[]:=by
   rw[List.flatMap_eq_nil_iff];intro x _;unfold ML;by_cases hx:x<k
   ·simp[List.getD_eq_getElem?_getD,List.getElem?_replicate,hx]
   ·simp[List.getD_eq_getElem?_getD,List.getElem?_replicate,hx]
  rw[this,List.append_nil];exact hw) h hm hk
theorem aT{id:Nat}{l:List Oper}(K X:List B6)(N:List Nat)(wr:List (List Nat))(hw:Wd Γ (K++X) w)
  (h:MSw (mV P n l Γ K wr wr [N]) (fun ρ w=>Q D .normal ρ w) 0 l ⟨ρ,ML [T4 (T:=Unit) (fun _ _=>True) (fun _=>X)]⟩)
  (hm:P.follows .mixedOrders=true:=by kernel_rfl) (hk:R6 n l wr wr [N]=true:=by kernel_rfl):WX P n (.region id l.toArray true) Q D ρ w:=
 OO K [T4 (T:=Unit) (fun _ _=>True) (fun _=>X)] wr wr [N] (by
  have h1:Wd Γ (X++K) w:=hw.perm List.perm_append_comm
  have h2:=Wd.closeEx (α:={t:Unit // True}) (X:=fun _=>X) ⟨(),trivial⟩ h1
  exact(h2.perm (List.perm_append_singleton _ K).symm:_)) h hm hk
end
end Mk
namespace Mk
section
variable {P:Program}{ρ:Fr}{w:World}{K:Value→World→Prop}{d:Option Tmp}{T ty:TypeId}{pos:String}{es:Array Edge}{g:Option (Nat×Bool)}{x y z:Operand}
attribute [local semireducible] Step
theorem OJ(h:Step P ⟨d,.mapUpdate T x y z,ty,pos,es,g⟩ ρ w K):Step P ⟨d,.insert T x y z,ty,pos,es,g⟩ ρ w K:=h
end
end Mk
end
section
open Go Mk
namespace Go.Proofs.YtlmiakjbogojgaaGreatDoor
set_option maxHeartbeats 16000000
attribute [local irreducible] Calls cI cB
theorem Wq{Γ:C8}{x:N0}{l r:Val}(hg:Hc x.g.Off)(hl:j8 l)(hr:j8 r):PG Tryz.prog Γ 224 [.agg (cG x).toArray,.agg (enc l).toArray,.agg (enc r).toArray] (.bool (Cj x.g l r)):=⟨fun S w hw=>by
 haveI:=Ko l.Num r.Num x.g.Off hl.1 hr.1 hg
 refine A7 Tryz.func224 rfl rfl ?_
 refine A6 ?_;refine H2 ?_;intro b3 w hw;refine H2 ?_;intro b4 w hw;refine H2 ?_;intro b5 w hw;have hw:Wd Γ (.blk b5 (.cells (enc r).toArray 65)::.blk b4 (.cells (enc l).toArray 65)::.blk b3 (.cells (cG x).toArray 77)::S) w:=hw
 refine A6 ?_;refine A0 rfl (fun h=>?_) (fun h=>?_)
 ·have h':x.g.Off=0∧x.g.Op=1:=by simpa using h
  refine A6 ?_;refine⟨_,rfl,F2 rfl ?_,hw.drop.drop.drop⟩
  unfold Cj;rw[if_pos h']
 have h1:¬(x.g.Off=0∧x.g.Op=1):=by simpa using h
 clear h;refine A6 ?_;refine A0 rfl (fun h=>?_) (fun h=>?_)
 ·have h':x.g.Off=0∧x.g.Op=2:=by simpa using h
  refine A6 ?_;refine⟨_,rfl,F2 rfl ?_,hw.drop.drop.drop⟩
  unfold Cj;rw[if_neg h1,if_pos h']
 have h2:¬(x.g.Off=0∧x.g.Op=2):=by simpa using h
 clear h;refine A6 ?_;refine A0 rfl (fun h=>?_) (fun h=>?_)
 ·have h':l.Kind≠1∨r.Kind≠1:=by simpa using h
  refine A6 ?_;refine⟨_,rfl,F2 rfl ?_,hw.drop.drop.drop⟩
  unfold Cj;rw[if_neg h1,if_neg h2,if_pos h']
 have h3:¬(l.Kind≠1∨r.Kind≠1):=by simpa using h
 clear h;have hf:Cj x.g l r=gR x.g.Op (Ut l.Num r.Num x.g.Off):=by
  unfold Cj;rw[if_neg h1,if_neg h2,if_neg h3]
 obtain⟨c,hc⟩:∃c,c=Ut l.Num r.Num x.g.Off:=⟨_,rfl⟩
 rw[hf];rw[←hc]at this ⊢
 clear hf hc h1 h2 h3;refine A6 ?_;unfold gR;refine A0 rfl (fun h=>?_) (fun h=>?_)
 ·have h:=of_decide_eq_true h
  refine A6 ?_;exact⟨_,rfl,F2 rfl (by rw[if_pos h]),hw.drop.drop.drop⟩
 have h1:=of_decide_eq_false h
 clear h;rw[if_neg h1];refine A6 ?_;refine A0 rfl (fun h=>?_) (fun h=>?_)
 ·have h:=of_decide_eq_true h
  refine A6 ?_;exact⟨_,rfl,F2 rfl (by rw[if_pos h]),hw.drop.drop.drop⟩
 have h1:=of_decide_eq_false h
 clear h;rw[if_neg h1];refine A6 ?_;refine A0 rfl (fun h=>?_) (fun h=>?_)
 ·have h:=of_decide_eq_true h
  refine A6 ?_;exact⟨_,rfl,F2 rfl (by rw[if_pos h]),hw.drop.drop.drop⟩
 have h1:=of_decide_eq_false h
 clear h;rw[if_neg h1];refine A6 ?_;refine A0 rfl (fun h=>?_) (fun h=>?_)
 ·have h:=of_decide_eq_true h
  refine A6 ?_;exact⟨_,rfl,F2 rfl (by rw[if_pos h]),hw.drop.drop.drop⟩
 have h1:=of_decide_eq_false h
 clear h;rw[if_neg h1];refine A6 ?_;refine A0 rfl (fun h=>?_) (fun h=>?_)
 ·have h:=of_decide_eq_true h
  refine A6 ?_;exact⟨_,rfl,F2 rfl (by rw[if_pos h]),hw.drop.drop.drop⟩
 have h1:=of_decide_eq_false h
 clear h;rw[if_neg h1];refine A6 ?_;exact⟨_,rfl,rfl,hw.drop.drop.drop⟩⟩
theorem Jr{e:Env}{s:ByteArray}(h:s∉e.map (·.1)):Dc e s=none:=by
 unfold Dc;rw[List.findIdx?_eq_none_iff];intro p hp;simp only[decide_eq_false_iff_not]
 intro he;exact h (by rw[←he];exact List.mem_map_of_mem (f:=(·.1)) hp)
theorem an{e r:Env}{s:ByteArray}{v:Val}(h:s∉e.map (·.1)):Dc (e++(s,v)::r) s=some e.length:=by
 have:=Jr h
 unfold Dc at *
 rw[List.findIdx?_append,this];simp[List.findIdx?_cons]
theorem Xe{e r:Env}{s:ByteArray}{v:Val}(h:s∉e.map (·.1)):Es (e++(s,v)::r) s=e++r:=by
 unfold Es;rw[an h];simp only
 rw[List.eraseIdx_append_of_length_le (Nat.le_refl _),Nat.sub_self];rfl
theorem ZC{e:Env}{s:ByteArray}{v:Val}(h:s∉e.map (·.1)):j6 e s v=e++[(s,v)]:=by
 unfold j6;rw[Jr h]
theorem QY{e:Env}{s:ByteArray}(h:s∉e.map (·.1)):G3 e s=none:=by
 unfold G3;rw[Jr h];rfl
theorem Vl{e:Env}{s:ByteArray}{v:Val}(h:G3 e s=some v):(s,v)∈e:=by
 unfold G3 at h;cases hq:Dc e s with
 | none=>rw[hq]at h;cases h
 | some i=>
  rw[hq]at h;simp only[Option.bind_some]at h
  obtain⟨u,hu⟩:=Ei hq
  rw[hu]at h;simp only[Option.map_some,Option.some.injEq]at h
  rw[←h];exact List.mem_of_getElem? hu
theorem OS{e:Env}{s:ByteArray}(h:G3 e s=none):s∉e.map (·.1):=fun hm=>by
 obtain⟨p,hp,he⟩:=List.mem_map.1 hm
 unfold G3 at h;cases hq:Dc e s with
 | none=>
  unfold Dc at hq;rw[List.findIdx?_eq_none_iff]at hq;have:=hq p hp
  simp[he]at this
 | some i=>
  obtain⟨u,hu⟩:=Ei hq
  rw[hq]at h;simp[hu]at h
theorem fK{e:Env}:∀ {ps:Env},(∀p∈ps,p.1∉e.map (·.1))→(ps.map (·.1)).foldl Es (e++ps)=e
 | [],_=>by simp
 | (s,v)::ps,h=>by
  rw[List.map_cons,List.foldl_cons,Xe (h (s,v) (by simp))]
  exact fK fun p hp=>h p (by simp[hp])
theorem aJ{Γ:C8}{S:List B6}{w:World}{b b8 b4 bm:Nat}{vs vg vt vr fv:Value}{e:Env}{ns:List ByteArray}(hw:Wd Γ (.blk b8 (.cells #[fv] 22)::.own fv 9 1 (B7 ns)::.blk b4 (.cells #[.pointer (some ⟨b,0,none⟩)] 156)::.blk b (F6 vs vg vt vr bm)::E3 bm e::S) w) :
  CallsD Tryz.prog 228 #[.pointer (some ⟨b8,0,none⟩),.pointer (some ⟨b4,0,none⟩)] .returning w fun r u' w'=>u'=.returning∧(∃v,r=.returned v)∧Wd Γ (.blk b8 (.cells #[fv] 22)::.own fv 9 1 (B7 ns)::.blk b4 (.cells #[.pointer (some ⟨b,0,none⟩)] 156)::.blk b (F6 vs vg vt vr bm)::E3 bm (ns.foldl Es e)::S) w':=by
 obtain⟨fa,fn,fc,rfl,hfn,hfc,hfb⟩:=hw.own_shape (i:=1) rfl
 simp only[List.length_map]at hfn
 refine(PZ (R:=fun r w'=>(∃v,r=.returned v)∧Wd Γ (.blk b8 (.cells #[.slice fa fn fc] 22)::.own (.slice fa fn fc) 9 1 (B7 ns)::.blk b4 (.cells #[.pointer (some ⟨b,0,none⟩)] 156)::.blk b (F6 vs vg vt vr bm)::E3 bm (ns.foldl Es e)::S) w') Tryz.func228 rfl rfl ?_).mono fun r u w h=>h
 refine A6 ?_;refine B3 (fun μ ρ w=>∃(k:Nat),μ+k=fn∧Has ρ [(1,.pointer (some ⟨b4,0,none⟩)),(4,.slice fa fn fc),(5,.int .i64 fn),(6,.int .i64 k)]∧Wd Γ (.blk b8 (.cells #[.slice fa fn fc] 22)::.own (.slice fa fn fc) 9 1 (B7 ns)::.blk b4 (.cells #[.pointer (some ⟨b,0,none⟩)] 156)::.blk b (F6 vs vg vt vr bm)::E3 bm ((ns.take k).foldl Es e)::S) w) fn ⟨0,by omega,⟨rfl,rfl,rfl,rfl,trivial⟩,hw⟩ ?_
 clear hw;rintro μ ρ w ⟨k,hk,hρ,hw⟩
 rw[hρ.eq];clear hρ;refine A6 ?_;refine A0 rfl (fun h=>?_) (fun h=>?_)
 ·have hkn:k<fn:=by have:=of_decide_eq_true h;omega
  clear h;obtain⟨s,hs⟩:=B2 (l:=ns) (k:=k) (by omega)
  refine A6 ?_;refine H5 rfl rfl (SL (i:=4) (l:=(ns.take k).foldl Es e) hw rfl rfl rfl fun w hw=>?_)
  have hw:Wd Γ (.blk b8 (.cells #[.slice fa fn fc] 22)::.own (.slice fa fn fc) 9 1 (B7 ns)::.blk b4 (.cells #[.pointer (some ⟨b,0,none⟩)] 156)::.blk b (F6 vs vg vt vr bm)::E3 bm ((ns.take (k+1)).foldl Es e)::S) w:=by
   rw[List.take_add_one,hs,List.foldl_append];exact hw
  refine A6 ?_;exact⟨μ-1,by omega,k+1,by omega,⟨rfl,rfl,rfl,rfl,trivial⟩,hw⟩
 have hkn:fn≤k:=by have:=of_decide_eq_false h;omega
 rw[List.take_of_length_le (by omega)]at hw
 refine A6 ?_;exact⟨_,rfl,⟨_,rfl⟩,hw⟩
end Go.Proofs.YtlmiakjbogojgaaGreatDoor
end
section
open Go Mk
namespace Go.Proofs.YtlmiakjbogojgaaGreatDoor
set_option maxHeartbeats 16000000
attribute [local irreducible] Calls cI cB
def H6(vr:Value)(L:List (Value×List (List Value))):List B6:=.own vr 70 1 (L.map fun x=>[x.1])::FC 65 3 L
def SV(b bm:Nat)(vs vg vt:Value)(rs:List (List Val)):B6:=B6.ex (α:={p:Value×List (Value×List (List Value)) // p.2.map (·.2)=rs.map fun r=>r.map enc}) fun p=>.blk b (F6 vs vg vt p.1.1 bm)::H6 p.1.1 p.1.2
section
variable {Γ:C8}{S:List B6}{w:World}{b bm:Nat}{vs vg vt:Value}{rs:List (List Val)}
theorem Ct(hw:Wd Γ (SV b bm vs vg vt rs::S) w):∃vr L,L.map (·.2)=(rs.map fun r=>r.map enc)∧Wd Γ (.blk b (F6 vs vg vt vr bm)::(H6 vr L++S)) w:=by
 obtain⟨⟨⟨vr,L⟩,h⟩,hw⟩:=Wd.openEx hw
 exact⟨vr,L,h,hw⟩
theorem Z0{vr:Value}{L:List (Value×List (List Value))}(h:L.map (·.2)=rs.map fun r=>r.map enc)(hw:Wd Γ (.blk b (F6 vs vg vt vr bm)::(H6 vr L++S)) w):Wd Γ (SV b bm vs vg vt rs::S) w:=
 Wd.closeEx (α:={p:Value×List (Value×List (List Value)) // p.2.map (·.2)=rs.map fun r=>r.map enc}) (X:=fun p=>.blk b (F6 vs vg vt p.1.1 bm)::H6 p.1.1 p.1.2) ⟨(vr,L),h⟩ hw
end
structure y9(e:Env):Prop where
 key:∀p∈e,p.1≠F1
 val:∀p∈e,j8 p.2
theorem y9.nil:y9 []:=⟨fun p h=>(by cases h),fun p h=>(by cases h)⟩
theorem y9.snoc{e:Env}{s:ByteArray}{v:Val}(h:y9 e)(hs:s≠F1)(hv:j8 v):y9 (e++[(s,v)]):=
 ⟨fun p hp=>by
  rcases List.mem_append.1 hp with h1|h1
  ·exact h.key p h1
  ·rw[List.mem_singleton.1 h1];exact hs,fun p hp=>by
  rcases List.mem_append.1 hp with h1|h1
  ·exact h.val p h1
  ·rw[List.mem_singleton.1 h1];exact hv⟩
theorem y9.noKey{e:Env}(h:y9 e):G3 e F1=none:=QY fun hm=>by
 obtain⟨p,hp,he⟩:=List.mem_map.1 hm
 exact h.key p hp he
theorem ad:j8 P5:=⟨by decide,by decide⟩
theorem y9.get{e:Env}(h:y9 e)(s:ByteArray):j8 (y6 e s):=by
 unfold y6;cases hq:G3 e s with
 | none=>exact ad
 | some v=>exact h.val _ (Vl hq)
section
variable {e:Env}{o:O8}{os:List O8}{x:Val}{xs:List Val}
theorem Qn(h:o.Var=F1∨o.Var=I8):Y2 e (o::os) (x::xs)=Y2 e os xs:=by
 rw[Y2,if_pos h]
theorem Wu(h0:¬(o.Var=F1∨o.Var=I8))(h:((G3 e o.Var).isSome&&decide ((G3 e o.Var).getD default≠x))=true):Y2 e (o::os) (x::xs)=none:=by
 rw[Y2,if_neg h0];cases hq:G3 e o.Var with
 | none=>rw[hq]at h;simp at h
 | some u=>
  rw[hq]at h;have:u≠x:=by simpa using h
  simp[this]
theorem SP(h0:¬(o.Var=F1∨o.Var=I8))(h:((G3 e o.Var).isSome&&decide ((G3 e o.Var).getD default≠x))=false)(h2:(G3 e o.Var).isSome=true):Y2 e (o::os) (x::xs)=Y2 e os xs:=by
 rw[Y2,if_neg h0];cases hq:G3 e o.Var with
 | none=>rw[hq]at h2;simp at h2
 | some u=>
  rw[hq]at h;have:u=x:=by simpa using h
  simp[this]
theorem UR(h0:¬(o.Var=F1∨o.Var=I8))(h2:(G3 e o.Var).isSome=false):Y2 e (o::os) (x::xs)=Y2 (e++[(o.Var,x)]) os xs:=by
 rw[Y2,if_neg h0];cases hq:G3 e o.Var with
 | none=>rfl
 | some u=>rw[hq]at h2;simp at h2
end
theorem Wd.tl5{Γ:C8}{w:World}{r1 r2 r3 r4 r5:B6}{X S:List B6}(h:Wd Γ (r1::r2::r3::r4::r5::(X++S)) w):Wd Γ S w:=Wd.right (S':=[r1,r2,r3,r4,r5]++X) (by simpa using h)
theorem Wd.tl6{Γ:C8}{w:World}{r1 r2 r3 r4 r5 r6:B6}{X S:List B6}(h:Wd Γ (r1::r2::r3::r4::r5::r6::(X++S)) w):Wd Γ S w:=Wd.right (S':=[r1,r2,r3,r4,r5,r6]++X) (by simpa using h)
theorem Wd.tl7{Γ:C8}{w:World}{r1 r2 r3 r4 r5 r6 r7:B6}{X S:List B6}(h:Wd Γ (r1::r2::r3::r4::r5::r6::r7::(X++S)) w):Wd Γ S w:=Wd.right (S':=[r1,r2,r3,r4,r5,r6,r7]++X) (by simpa using h)
theorem ON{Γ:C8}{S CAP:List B6}{w:World}{b bm:Nat}{vs vg vt:Value}{rs:List (List Val)}{e:Env}{q:Nat}[C7 Tryz.prog q]{cap:List Value}(φ:Env→List (List Val))
  (hq:∀(e':Env) (rs':List (List Val)) (S':List B6) (w:World),y9 e'→rs'.length+(φ e').length≤1000000→Wd Γ (SV b bm vs vg vt rs'::E3 bm e'::(CAP++S')) w→Calls Tryz.prog q cap.toArray w fun r w'=>r=.returned (.tuple #[])∧Wd Γ (SV b bm vs vg vt (rs'++φ e')::E3 bm e'::(CAP++S')) w')
  {va vv:Value} {os:List O8} {xs:List Val} (hA:P4 Γ (CAP++S) va 4 (os.map enc)) (hV:P4 Γ (CAP++S) vv 3 (xs.map enc)) (hlen:os.length=xs.length) (hN:os.length≤1000) (hx:∀v∈xs,j8 v) (he:y9 e) (hrs:rs.length+(M4 φ e os xs).length≤1000000)
  (hw:Wd Γ (SV b bm vs vg vt rs::E3 bm e::(CAP++S)) w) :
  Calls Tryz.prog 148 #[.pointer (some ⟨b,0,none⟩),va,vv,.func (.func q) #[] cap.toArray] w fun r w'=>r=.returned (.tuple #[])∧Wd Γ (SV b bm vs vg vt (rs++M4 φ e os xs)::E3 bm e::(CAP++S)) w':=by
 obtain⟨a,n,c,rfl,hln,hnc,hc⟩:=hA.shape;obtain⟨a2,n2,c2,rfl,hln2,hnc2,hc2⟩:=hV.shape;simp only[List.length_map]at hln hln2
 refine Hr Tryz.func148 rfl rfl ?_
 repeat(first|refine Be ?_|refine E6 ?_|(refine E7 ?_;intro w hw))
 refine H2 ?_;intro b4 w hw;repeat(first|refine Be ?_|refine E6 ?_|(refine E7 ?_;intro w hw))
 refine B9 ?_;intro b8 w hw;refine E6 ?_
 refine Be ?_
 refine Jv ?_
 refine TY (Yields.step (Dm (f1:=[]) (c1:=[.pointer (some ⟨b8,0,none⟩),.pointer (some ⟨b4,0,none⟩)]) EvL.nil (EvL.cons rfl (EvL.cons rfl EvL.nil))) ?_)
 refine Li ?_
 refine YJ ?_
 have fin:∀(ps:Env) (fv vr:Value) (L:List (Value×List (List Value))) (rs':List (List Val)) (w:World) (a:Act),(∀p∈ps,p.1∉e.map (·.1))→L.map (·.2)=(rs'.map fun r=>r.map enc)→rs'=rs++M4 φ e os xs→Wd Γ (.blk b8 (.cells #[fv] 22)::E3 bm (e++ps)::.blk b4 (.cells #[.pointer (some ⟨b,0,none⟩)] 156)::.blk b (F6 vs vg vt vr bm)::.own fv 9 1 (B7 (ps.map (·.1)))::(H6 vr L++(CAP++S))) w →
   Leaves Tryz.prog Tryz.f148 a.tmps (fun r w'=>r=.returned (.tuple #[])∧Wd Γ (SV b bm vs vg vt (rs++M4 φ e os xs)::E3 bm e::(CAP++S)) w') [⟨.fn (.func 228) #[.pointer (some ⟨b8,0,none⟩),.pointer (some ⟨b4,0,none⟩)],#[]⟩] .returning w:=by
  intro ps fv vr L rs' w a hps hL hrs' hw;have hw:Wd Γ (.blk b8 (.cells #[fv] 22)::.own fv 9 1 (B7 (ps.map (·.1)))::.blk b4 (.cells #[.pointer (some ⟨b,0,none⟩)] 156)::.blk b (F6 vs vg vt vr bm)::E3 bm (e++ps)::(H6 vr L++(CAP++S))) w:=hw.perm T1
  refine Rv ((aJ hw).mono fun r u' w' ⟨h1,h2,hw'⟩=>⟨h1,h2,.tuple #[],P7 rfl,rfl,?_⟩)
  rw[fK hps]at hw';rw[←hrs'];have S3:Wd Γ (.blk b (F6 vs vg vt vr bm)::E3 bm e::(H6 vr L++(CAP++S))) w':=hw'.ds [0,0,0]
  have ES:Wd Γ (.blk b (F6 vs vg vt vr bm)::(H6 vr L++(E3 bm e::(CAP++S)))) w':=S3.perm T1
  exact Z0 hL ES
 obtain⟨vr,L,hL,hw⟩:=Ct (hw.ps [2])
 have hw:=Wd.addNil (a:=none) (E:=9) (sz:=1) hw
 have hw:Wd Γ (.own (.slice none 0 0) 9 1 (B7 [])::.blk b (F6 vs vg vt vr bm)::(H6 vr L++(.blk b8 (.cells #[.slice none 0 0] 22)::.blk b4 (.cells #[.pointer (some ⟨b,0,none⟩)] 156)::E3 bm e::(CAP++S)))) w:=hw
 have hw:Wd Γ (.blk b8 (.cells #[.slice none 0 0] 22)::E3 bm (e++[])::.blk b4 (.cells #[.pointer (some ⟨b,0,none⟩)] 156)::.blk b (F6 vs vg vt vr bm)::.own (.slice none 0 0) 9 1 (B7 (([]:Env).map (·.1)))::(H6 vr L++(CAP++S))) w:=by
  rw[List.append_nil];exact hw.perm T1
 repeat(first|refine Be ?_|refine E6 ?_|(refine E7 ?_;intro w hw))
 refine au (fun μ ρ w=>∃(k:Nat) (ps:Env) (fv:Value),μ+k=n∧Has ρ [(2,.slice a2 n2 c2),(3,.func (.func q) #[] cap.toArray),(4,.pointer (some ⟨b4,0,none⟩)),(8,.pointer (some ⟨b8,0,none⟩)),(14,.slice a n c),(15,.int .i64 n),(16,.int .i64 k)]∧(∀p∈ps,p.1∉e.map (·.1))∧ps.length≤k∧y9 (e++ps)∧Y2 e os xs=Y2 (e++ps) (os.drop k) (xs.drop k)∧Wd Γ (.blk b8 (.cells #[fv] 22)::E3 bm (e++ps)::.blk b4 (.cells #[.pointer (some ⟨b,0,none⟩)] 156)::.blk b (F6 vs vg vt vr bm)::.own fv 9 1 (B7 (ps.map (·.1)))::(H6 vr L++(CAP++S))) w) n ⟨0,[],.slice none 0 0,by omega,⟨rfl,rfl,rfl,rfl,rfl,rfl,rfl,trivial⟩,(fun p h=>(by cases h)),Nat.le_refl _,by rw[List.append_nil];exact he,by rw[List.append_nil];rfl,hw⟩ ?_
 clear hw;rintro μ ρ w ⟨k,ps,fv,hk,hρ,hps,hpl,hek,hbd,hw⟩
 rw[hρ.eq];clear hρ;repeat(first|refine Be ?_|refine E6 ?_|(refine E7 ?_;intro w hw))
 refine Gd rfl (fun h=>?_) (fun h=>?_)
 ·have hkn:k<n:=by have:=of_decide_eq_true h;omega
  clear h;obtain⟨o,ho⟩:=B2 (l:=os) (k:=k) (by omega)
  obtain⟨x,hxk⟩:=B2 (l:=xs) (k:=k) (by omega)
  have hxo:=hx x (List.mem_of_getElem? hxk)
  rw[Q9 ho,Q9 hxk]at hbd;repeat(first|refine Be ?_|refine E6 ?_|(refine E7 ?_;intro w hw))
  refine lY ?_ (hy:=AF (hA.rd (Wd.tl5 hw)) rfl rfl (by omega) (by omega))
  refine lY ?_ (hy:=P0 rfl (hA.rd (Wd.tl5 hw)) (B8 ho))
  repeat(first|refine Be ?_|refine E6 ?_|(refine E7 ?_;intro w hw))
  refine B9 ?_;intro b10 w hw;repeat(first|refine Be ?_|refine E6 ?_|(refine E7 ?_;intro w hw))
  refine B0 ?_;intro w hw;have hw:Wd Γ (.blk b10 (.cells (enc o).toArray 75)::.blk b8 (.cells #[fv] 22)::E3 bm (e++ps)::.blk b4 (.cells #[.pointer (some ⟨b,0,none⟩)] 156)::.blk b (F6 vs vg vt vr bm)::.own fv 9 1 (B7 (ps.map (·.1)))::(H6 vr L++(CAP++S))) w:=hw
  repeat(first|refine Be ?_|refine E6 ?_|(refine E7 ?_;intro w hw))
  refine Gd rfl (fun h=>?_) (fun h=>?_)
  ·have h0:o.Var=F1∨o.Var=I8:=by simp only[Bool.or_eq_true,decide_eq_true_eq]at h;exact h
   rw[Qn h0]at hbd;repeat(first|refine Be ?_|refine E6 ?_|(refine E7 ?_;intro w hw))
   exact⟨rfl,μ-1,by omega,k+1,ps,fv,by omega,⟨rfl,rfl,rfl,rfl,rfl,rfl,rfl,trivial⟩,hps,by omega,hek,hbd,hw.drop⟩
  have h0:¬(o.Var=F1∨o.Var=I8):=by rw[Bool.or_eq_false_iff,decide_eq_false_iff_not,decide_eq_false_iff_not]at h;exact fun e=>e.elim h.1 h.2
  clear h;repeat(first|refine Be ?_|refine E6 ?_|(refine E7 ?_;intro w hw))
  refine cE 1 [[],[],[],[],[],[],[],[],[],[],[0],[0],[]] [[],[],[],[],[],[],[],[],[],[],[0],[0],[]] [[11]] ?_ (hw:=hw)
  refine P3 ?_;refine HG ?_
  refine Bv ?_
  refine P3 ?_;refine T9 ?_
  clear hw;intro b11 w hw;have hw:Wd Γ (.blk b11 (.cells (enc ((G3 (e++ps) o.Var).getD default)).toArray 65)::.blk b10 (.cells (enc o).toArray 75)::.blk b8 (.cells #[fv] 22)::E3 bm (e++ps)::.blk b4 (.cells #[.pointer (some ⟨b,0,none⟩)] 156)::.blk b (F6 vs vg vt vr bm)::.own fv 9 1 (B7 (ps.map (·.1)))::(H6 vr L++(CAP++S))) w:=hw
  repeat(first|refine Be ?_|refine E6 ?_|(refine E7 ?_;intro w hw))
  refine ZA (by kernel_rfl) (by kernel_rfl) hw ?_
  refine X3 ?_;refine qG ?_ (hy:=by intro hc w hw;exact AF (hV.rd (Wd.tl7 hw)) B4 B4 M5 M5)
  refine qG ?_ (hy:=by intro hc w hw;exact P0 B4 (hV.rd (Wd.tl7 hw)) (B8 hxk))
  refine qG ?_ (hy:=by intro hc w hw;exact Mu (a:=(G3 (e++ps) o.Var).getD default) (b:=x) B4 B4 rfl)
  refine X3 ?_;clear hw;intro w hw;refine Gd rfl (fun h=>?_) (fun h=>?_)
  ·rw[Wu h0 h]at hbd;repeat(first|refine Be ?_|refine E6 ?_|(refine E7 ?_;intro w hw))
   refine fun a ha hs=>fin ps fv vr L rs w a hps hL ?_ hw.drop.drop
   unfold M4;rw[hbd,List.append_nil]
  have h1:=h
  clear h;repeat(first|refine Be ?_|refine E6 ?_|(refine E7 ?_;intro w hw))
  refine Gd rfl (fun h=>?_) (fun h=>?_)
  ·have hs:(G3 (e++ps) o.Var).isSome=false:=by simpa using h
   have hn:G3 (e++ps) o.Var=none:=by simpa using hs
   have hnk:=OS hn
   rw[UR h0 hs]at hbd;clear h;repeat(first|refine Be ?_|refine E6 ?_|(refine E7 ?_;intro w hw))
   refine aT (.blk b10 (.cells (enc o).toArray 75)::.blk b4 (.cells #[.pointer (some ⟨b,0,none⟩)] 156)::.blk b (F6 vs vg vt vr bm)::.blk b8 (.cells #[fv] 22)::.own fv 9 1 (B7 (ps.map (·.1)))::.blk b11 (.cells (enc ((G3 (e++ps) o.Var).getD default)).toArray 65)::(H6 vr L++(CAP++S))) [E3 bm (e++ps)] [] [[],[],[],[],[],[],[],[],[],[],[0]] (hw.perm T1) ?_
   refine P3 ?_;refine mY ?_ (hy:=fun Y w g hw=>AF (hV.rd (Wd.tl6 hw.left)) rfl rfl (by omega) (by omega))
   refine mY ?_ (hy:=fun Y w g hw=>P0 rfl (hV.rd (Wd.tl6 hw.left)) (B8 hxk))
   refine Cy (φ:=fun (_:Unit) _=>True) (R:=fun _=>[E3 bm (e++ps)]) (v:=undef) (T':=Unit) (fun _ _=>True) (fun _=>[E3 bm (e++(ps++[(o.Var,x)]))]) (fun t g w Y _ hw=>?_) ?_
   ·refine X9 (v:=x) (i:=0) (l:=e++ps) hw rfl rfl rfl rfl fun w' hw'=>⟨(),trivial,(fun _=>rfl),?_⟩
    rw[ZC hnk,List.append_assoc]at hw';exact hw'
   refine IA fun t w g _ hw=>?_
   have hw:Wd Γ ([E3 bm (e++(ps++[(o.Var,x)]))]++(.blk b10 (.cells (enc o).toArray 75)::.blk b4 (.cells #[.pointer (some ⟨b,0,none⟩)] 156)::.blk b (F6 vs vg vt vr bm)::.blk b8 (.cells #[fv] 22)::.own fv 9 1 (B7 (ps.map (·.1)))::.blk b11 (.cells (enc ((G3 (e++ps) o.Var).getD default)).toArray 65)::(H6 vr L++(CAP++S)))) w:=hw
   have hw:Wd Γ (.own fv 9 1 (B7 (ps.map (·.1)))::.blk b8 (.cells #[fv] 22)::.blk b11 (.cells (enc ((G3 (e++ps) o.Var).getD default)).toArray 65)::.blk b10 (.cells (enc o).toArray 75)::E3 bm (e++(ps++[(o.Var,x)]))::.blk b4 (.cells #[.pointer (some ⟨b,0,none⟩)] 156)::.blk b (F6 vs vg vt vr bm)::(H6 vr L++(CAP++S))) w:=hw.perm T1
   obtain⟨fa,fn,fc,rfl,hfn,hfc,hfb⟩:=hw.own_shape (i:=0) rfl
   simp only[List.length_map]at hfn
   repeat(first|refine Be ?_|refine E6 ?_|(refine E7 ?_;intro w hw))
   refine B5 [[.string o.Var]] ?_
   intro q2 w hw;refine T3 (i:=1) (rows2:=[[.string o.Var]]) ?_ (Wd.own_rd (i:=0) hw rfl)
   intro fv' w hw;have hw:Wd Γ (.own (.slice (some q2) 1 1) 9 1 [[.string o.Var]]::.own fv' 9 1 (B7 (ps.map (·.1))++[[.string o.Var]])::.blk b8 (.cells #[.slice fa fn fc] 22)::.blk b11 (.cells (enc ((G3 (e++ps) o.Var).getD default)).toArray 65)::.blk b10 (.cells (enc o).toArray 75)::E3 bm (e++(ps++[(o.Var,x)]))::.blk b4 (.cells #[.pointer (some ⟨b,0,none⟩)] 156)::.blk b (F6 vs vg vt vr bm)::(H6 vr L++(CAP++S))) w:=hw
   obtain⟨fa',fn',fc',rfl,-,-,-⟩:=hw.own_shape (i:=1) rfl
   repeat(first|refine Be ?_|refine E6 ?_|(refine E7 ?_;intro w hw))
   refine B0 (i:=2) ?_
   intro w hw;have hw:Wd Γ (.own (.slice (some q2) 1 1) 9 1 [[.string o.Var]]::.own (.slice fa' fn' fc') 9 1 (B7 (ps.map (·.1))++[[.string o.Var]])::.blk b8 (.cells #[(.slice fa' fn' fc')] 22)::.blk b11 (.cells (enc ((G3 (e++ps) o.Var).getD default)).toArray 65)::.blk b10 (.cells (enc o).toArray 75)::E3 bm (e++(ps++[(o.Var,x)]))::.blk b4 (.cells #[.pointer (some ⟨b,0,none⟩)] 156)::.blk b (F6 vs vg vt vr bm)::(H6 vr L++(CAP++S))) w:=hw
   have S3:Wd Γ (.own (.slice fa' fn' fc') 9 1 (B7 (ps.map (·.1))++[[.string o.Var]])::.blk b8 (.cells #[(.slice fa' fn' fc')] 22)::E3 bm (e++(ps++[(o.Var,x)]))::.blk b4 (.cells #[.pointer (some ⟨b,0,none⟩)] 156)::.blk b (F6 vs vg vt vr bm)::(H6 vr L++(CAP++S))) w:=hw.ds [0,2,2]
   have hrow:B7 (ps.map (·.1))++[[.string o.Var]]=B7 ((ps++[(o.Var,x)]).map (·.1)):=by
    unfold B7;rw[List.map_append,List.map_append];rfl
   rw[hrow]at S3;repeat(first|refine Be ?_|refine E6 ?_|(refine E7 ?_;intro w hw))
   refine⟨rfl,μ-1,by omega,k+1,ps++[(o.Var,x)],(.slice fa' fn' fc'),by omega,⟨rfl,rfl,rfl,rfl,rfl,rfl,rfl,trivial⟩,?_,by rw[List.length_append];simp;omega,?_,?_,S3.perm T1⟩
   ·intro p hp;rcases List.mem_append.1 hp with h1|h1
    ·exact hps p h1
    ·rw[List.mem_singleton.1 h1];exact fun hm=>hnk (by rw[List.map_append];exact List.mem_append_left _ hm)
   ·rw[←List.append_assoc];exact hek.snoc (fun e=>h0 (Or.inl e)) hxo
   ·rw[←List.append_assoc];exact hbd
  have hs:(G3 (e++ps) o.Var).isSome=true:=by simpa using h
  rw[SP h0 h1 hs]at hbd;repeat(first|refine Be ?_|refine E6 ?_|(refine E7 ?_;intro w hw))
  exact⟨rfl,μ-1,by omega,k+1,ps,fv,by omega,⟨rfl,rfl,rfl,rfl,rfl,rfl,rfl,trivial⟩,hps,by omega,hek,hbd,hw.drop.drop⟩
 have hkn:n≤k:=by have:=of_decide_eq_false h;omega
 rw[G8 os (by omega),G8 xs (by omega)]at hbd
 have hbd:Y2 e os xs=some (e++ps):=hbd.trans rfl
 have hwS:M4 φ e os xs=φ (e++ps):=by
  unfold M4;rw[hbd]
 repeat(first|refine Be ?_|refine E6 ?_|(refine E7 ?_;intro w hw))
 have S3:Wd Γ (.blk b (F6 vs vg vt vr bm)::(H6 vr L++(E3 bm (e++ps)::(CAP++(.blk b8 (.cells #[fv] 22)::.own fv 9 1 (B7 (ps.map (·.1)))::.blk b4 (.cells #[.pointer (some ⟨b,0,none⟩)] 156)::S))))) w:=hw.perm T1
 have ES:Wd Γ (SV b bm vs vg vt rs::E3 bm (e++ps)::(CAP++(.blk b8 (.cells #[fv] 22)::.own fv 9 1 (B7 (ps.map (·.1)))::.blk b4 (.cells #[.pointer (some ⟨b,0,none⟩)] 156)::S))) w:=Z0 hL S3
 refine EF (fst:=[]) (cap:=cap) ?_
 refine((hq (e++ps) rs (.blk b8 (.cells #[fv] 22)::.own fv 9 1 (B7 (ps.map (·.1)))::.blk b4 (.cells #[.pointer (some ⟨b,0,none⟩)] 156)::S) w hek (by rw[←hwS];exact hrs) ES).mono fun r w hr=>?_)
 obtain⟨rfl,hw3⟩:=hr;refine⟨_,rfl,?_⟩;clear hw S3 ES;obtain⟨vr',L',hL',hw⟩:=Ct hw3
 clear hw3 hL;repeat(first|refine Be ?_|refine E6 ?_|(refine E7 ?_;intro w hw))
 refine fun a ha hs=>fin ps fv vr' L' (rs++φ (e++ps)) w a hps hL' (by rw[hwS]) ?_
 exact hw.perm T1
end Go.Proofs.YtlmiakjbogojgaaGreatDoor
end
section
open Go Mk
namespace Go.Proofs.YtlmiakjbogojgaaGreatDoor
set_option maxHeartbeats 16000000
attribute [local irreducible] Calls cI cB
theorem OK{Γ:C8}{S:List B6}{w:World}{q:Nat}[C7 Tryz.prog q]{cap:List Value}{v:Value}(p:D1→Bool)(fs:List D1)(hcl:∀x∈fs,∀w,Wd Γ S w→Calls Tryz.prog q (.agg (cF x).toArray::cap).toArray w fun e w'=>e=.returned (.bool (p x))∧Wd Γ S w')(hr:D7 Γ v 2 (fs.map cF))(hw:Wd Γ S w) :
  Calls Tryz.prog 282 #[v,.func (.func q) #[] cap.toArray] w fun e w'=>∃i:Int,e=.returned (.int .i64 i)∧decide (0≤i)=fs.any p∧Wd Γ S w':=by
 obtain⟨a,n,c,rfl,hn,hnc,hc⟩:=hr.shape;simp only[List.length_map]at hn
 refine A7 Tryz.func282 rfl rfl ?_
 refine A6 ?_;refine B3 (fun μ ρ w=>∃(k:Nat),μ+k=n∧Has ρ [(0,.slice a n c),(1,.func (.func q) #[] cap.toArray),(7,.int .i64 n),(8,.int .i64 k)]∧(∀j x,j<k→fs[j]? = some x→p x=false)∧Wd Γ S w) n ⟨0,by omega,⟨rfl,rfl,rfl,rfl,trivial⟩,fun j x hj=>by omega,hw⟩ ?_
 clear hw;rintro μ ρ w ⟨k,hk,hρ,hno,hw⟩
 rw[hρ.eq];refine A6 ?_;refine A0 rfl (fun h=>?_) (fun h=>?_)
 ·have hkn:k<n:=by have:=of_decide_eq_true h;omega
  obtain⟨x,hx⟩:=B2 (l:=fs) (k:=k) (by omega)
  refine A6 ?_;refine EF (fst:=[]) (cap:=cap) (vs:=[.agg (cF x).toArray]) ?_
  refine(hcl x (List.mem_of_getElem? hx) w hw).mono ?_
  clear hw;rintro e w ⟨rfl,hw⟩
  refine⟨_,rfl,?_⟩;refine A6 ?_;refine A0 rfl (fun h2=>?_) (fun h2=>?_)
  ·refine A6 ?_;refine⟨_,rfl,_,rfl,?_,hw⟩
   rw[decide_eq_true (by omega:(0:Int)≤(k:Int)),List.any_eq_true.2 ⟨x,List.mem_of_getElem? hx,h2⟩]
  ·refine A6 ?_;refine⟨μ-1,by omega,k+1,by omega,⟨rfl,rfl,rfl,rfl,trivial⟩,fun j y hj hy=>?_,hw⟩
   by_cases e:j=k
   ·subst e;rw[hx]at hy;cases hy;exact h2
   ·exact hno j y (by omega) hy
 ·have hkn:¬k<n:=by have:=of_decide_eq_false h;omega
  refine A6 ?_;refine⟨_,rfl,-1,rfl,?_,hw⟩
  rw[decide_eq_false (by omega),eq_comm,List.any_eq_false]
  intro x hx;obtain⟨j,hj⟩:=List.mem_iff_getElem?.1 hx
  have hlt:=(List.getElem?_eq_some_iff.1 hj).1
  rw[hno j x (by omega) hj];simp
theorem Iz{Γ:C8}{S:List B6}{w:World}{q:Nat}[C7 Tryz.prog q]{cap:List Value}{v:Value}(p:D1→Bool)(fs:List D1)(hcl:∀x∈fs,∀w,Wd Γ S w→Calls Tryz.prog q (.agg (cF x).toArray::cap).toArray w fun e w'=>e=.returned (.bool (p x))∧Wd Γ S w')(hr:D7 Γ v 2 (fs.map cF))(hw:Wd Γ S w) :
  Calls Tryz.prog 226 #[v,.func (.func q) #[] cap.toArray] w fun e w'=>e=.returned (.bool (fs.any p))∧Wd Γ S w':=by
 obtain⟨a,n,c,rfl,-,-,-⟩:=hr.shape;refine A7 Tryz.func226 rfl rfl ?_
 refine A6 ?_;refine C9 (vs:=[.slice a n c,.func (.func q) #[] cap.toArray]) ((OK p fs hcl hr hw).mono fun e w hq=>?_)
 obtain⟨i,rfl,hi,hw⟩:=hq;refine⟨_,rfl,?_⟩;refine A6 ?_;exact⟨_,rfl,F2 rfl hi,hw⟩
structure aF(Γ:C8)(vs vg vt:Value)(gs:List N0)(ts:List (Value×List D1))(db:List F3)(q:F7):Prop where
 qr:QR Γ vs vg gs q
 qok:Ek q
 tab:D7 Γ vt 1 (ts.map fun t=>[t.1])
 len:ts.length=gs.length
 rl:∀t∈ts,RL Γ t.1 t.2
 eq:∀(k:Nat) x t,gs[k]? = some x→ts[k]? = some t→facts t.2=U7 db x.g
 ar:∀x∈gs,H8 x.g=true→∀f∈U7 db x.g,x.g.Args.length=f.2.length
theorem Io{db:List F3}{g:H3}:∀f∈U7 db g,g.Args.length=f.2.length:=by
 intro f hf;unfold U7 at hf;split at hf
 ·unfold RA Kk at hf;have:=(List.mem_filter.1 hf).2
  simp only[Bool.and_eq_true,decide_eq_true_eq]at this
  omega
 ·cases hf
theorem YP{α:Type}{A:List α}{z x:α}{k m:Nat}(h:A.length=k)(hm:0<m):(A++List.replicate m z).set k x=(A++[x])++List.replicate (m-1) z:=by
 obtain⟨m,rfl⟩:∃n,m=n+1:=⟨m-1,by omega⟩
 rw[List.set_append_right _ _ (by omega),h,Nat.sub_self,List.replicate_succ,List.set_cons_zero,List.append_assoc];rfl
section
variable {Γ:C8}{vs vg vt:Value}{gs:List N0}{ts:List (Value×List D1)}{db:List F3}{q:F7}
theorem aF.glen(h:aF Γ vs vg vt gs ts db q):gs.length≤1000:=by
 have:=h.qok.len
 rw[←h.qr.eq,List.length_map]at this;exact this
theorem aF.goal(h:aF Γ vs vg vt gs ts db q){x:N0}(hx:x∈gs):XE x.g:=
 h.qok.goals _ (by rw[←h.qr.eq];exact List.mem_map_of_mem (f:=(·.g)) hx)
theorem W5{α:Type}{p:α→Bool}{l:List α}{k:Nat}{x:α}(h:l[k]? = some x):(l.drop k).all p=(p x&&(l.drop (k+1)).all p):=by
 rw[Q9 h,List.all_cons]
theorem KG(h:aF Γ vs vg vt gs ts db q){k:Nat}{x:N0}(hx:gs[k]? = some x):(L3 db q)[k]? = some (x.g,U7 db x.g):=by
 unfold L3;rw[←h.qr.eq,List.getElem?_map,List.getElem?_map,hx];rfl
theorem JJ(h:aF Γ vs vg vt gs ts db q):(L3 db q).length=gs.length:=by
 unfold L3;rw[←h.qr.eq,List.length_map,List.length_map]
theorem VV{e:Env}{os:List O8}{fs:List D1}{tb:List F3}(h:facts fs=tb):(fs.any fun f=>Q5 e os f.Args)=tb.any fun f=>Q5 e os f.2:=by
 rw[←h];unfold facts;rw[List.any_map];rfl
end
theorem bE{Γ:C8}{S:List B6}{w:World}{b b1 b3 bm:Nat}{vs vg vt vr:Value}{e:Env}{g:H3}{A:Option Addr}{N C:Nat}(hg:Vq Γ ⟨g,A,N,C⟩)(hgo:XE g){f:D1}(hf:BG Γ f)(hfo:DC f.fact)(hlen:g.Args.length=f.Args.length)(hn:G3 e F1=none)(hw:Wd Γ (.blk b3 (.cells (cG ⟨g,A,N,C⟩).toArray 77)::.blk b1 (.cells #[.pointer (some ⟨b,0,none⟩)] 156)::.blk b (F6 vs vg vt vr bm)::E3 bm e::S) w) :
  Calls Tryz.prog 227 #[.agg (cF f).toArray,.pointer (some ⟨b1,0,none⟩),.pointer (some ⟨b3,0,none⟩)] w fun r w'=>r=.returned (.bool (Q5 e g.Args f.Args))∧Wd Γ (.blk b3 (.cells (cG ⟨g,A,N,C⟩).toArray 77)::.blk b1 (.cells #[.pointer (some ⟨b,0,none⟩)] 156)::.blk b (F6 vs vg vt vr bm)::E3 bm e::S) w':=by
 have hF:=fun (S':List B6) (w:World) (hw:Wd Γ (.blk b (F6 vs vg vt vr bm)::E3 bm e::S') w)=>NY (va:=.slice A N C) (os:=g.Args) (f:=f) hg hgo.args hf hfo hlen hn hgo.len hw
 obtain⟨fr,fa,fn,fc,xs⟩:=f;refine A7 Tryz.func227 rfl rfl ?_
 refine A6 ?_;refine H2 ?_;intro b4 w hw;have hw:Wd Γ (.blk b4 (.cells #[.string fr,.slice fa fn fc] 80)::.blk b3 (.cells (cG ⟨g,A,N,C⟩).toArray 77)::.blk b1 (.cells #[.pointer (some ⟨b,0,none⟩)] 156)::.blk b (F6 vs vg vt vr bm)::E3 bm e::S) w:=hw
 refine A6 ?_;have S3:Wd Γ (.blk b (F6 vs vg vt vr bm)::E3 bm e::(.blk b4 (.cells #[.string fr,.slice fa fn fc] 80)::.blk b3 (.cells (cG ⟨g,A,N,C⟩).toArray 77)::.blk b1 (.cells #[.pointer (some ⟨b,0,none⟩)] 156)::S)) w:=hw.perm T1
 refine C9 (vs:=[.pointer (some ⟨b,0,none⟩),.slice A N C,.agg (cF ⟨fr,fa,fn,fc,xs⟩).toArray]) ((hF _ w S3).mono fun r w hq=>?_)
 clear hw S3;obtain⟨rfl,hw⟩:=hq;have hw:Wd Γ (.blk b4 (.cells #[.string fr,.slice fa fn fc] 80)::.blk b3 (.cells (cG ⟨g,A,N,C⟩).toArray 77)::.blk b1 (.cells #[.pointer (some ⟨b,0,none⟩)] 156)::.blk b (F6 vs vg vt vr bm)::E3 bm e::S) w:=hw.perm T1
 refine⟨_,rfl,?_⟩;refine A6 ?_;exact⟨_,rfl,rfl,hw.drop⟩
theorem Rx{Γ:C8}{S:List B6}{w:World}{b bm:Nat}{vs vg vt:Value}{gs:List N0}{ts:List (Value×List D1)}{db:List F3}{q:F7}{rs:List (List Val)}{e:Env}(hS:aF Γ vs vg vt gs ts db q)(he:y9 e)(hrs:rs.length+(Bn (L3 db q) q.Sel e).length≤1000000)
  (hw:Wd Γ (SV b bm vs vg vt rs::E3 bm e::S) w) :
  Calls Tryz.prog 146 #[.pointer (some ⟨b,0,none⟩)] w fun r w'=>r=.returned (.tuple #[])∧Wd Γ (SV b bm vs vg vt (rs++Bn (L3 db q) q.Sel e)::E3 bm e::S) w':=by
 obtain⟨ga,gn,gc,rfl,hgn,hgnc,hgc⟩:=hS.qr.goals.shape;obtain⟨sa,sn,sc,rfl,hsn,hsnc,hsc⟩:=hS.qr.sel.shape;obtain⟨ta,tn,tc,rfl,htn,htnc,htc⟩:=hS.tab.shape;simp only[List.length_map]at hgn hsn htn
 have hrG:=hS.qr.goals
 have hrS:=hS.qr.sel
 have hrT:=hS.tab
 have hgl:=hS.glen
 have htl:=hS.len
 have hsl:=hS.qok.sel
 obtain⟨vr,L,hL,hw⟩:=Ct hw
 refine A7 Tryz.func146 rfl rfl ?_
 refine A6 ?_;refine H2 ?_;intro b1 w hw;have hw:Wd Γ (.blk b1 (.cells #[.pointer (some ⟨b,0,none⟩)] 156)::.blk b (F6 (.slice sa sn sc) (.slice ga gn gc) (.slice ta tn tc) vr bm)::(H6 vr L++(E3 bm e::S))) w:=hw
 have hw:Wd Γ (.blk b1 (.cells #[.pointer (some ⟨b,0,none⟩)] 156)::.blk b (F6 (.slice sa sn sc) (.slice ga gn gc) (.slice ta tn tc) vr bm)::E3 bm e::(H6 vr L++S)) w:=hw.perm T1
 refine A6 ?_;refine B3 (fun μ ρ w=>∃(k:Nat),μ+k=gn∧Has ρ [(1,.pointer (some ⟨b1,0,none⟩)),(11,.slice ga gn gc),(12,.int .i64 gn),(13,.int .i64 k)]∧(L3 db q).all (Y1 e)=((L3 db q).drop k).all (Y1 e)∧Wd Γ (.blk b1 (.cells #[.pointer (some ⟨b,0,none⟩)] 156)::.blk b (F6 (.slice sa sn sc) (.slice ga gn gc) (.slice ta tn tc) vr bm)::E3 bm e::(H6 vr L++S)) w) gn ⟨0,by omega,⟨rfl,rfl,rfl,rfl,trivial⟩,rfl,hw⟩ ?_
 clear hw;rintro μ ρ w ⟨k,hk,hρ,hall,hw⟩
 rw[hρ.eq];clear hρ;have stop:∀w,(L3 db q).all (Y1 e)=false→Wd Γ (.blk b1 (.cells #[.pointer (some ⟨b,0,none⟩)] 156)::.blk b (F6 (.slice sa sn sc) (.slice ga gn gc) (.slice ta tn tc) vr bm)::E3 bm e::(H6 vr L++S)) w→Wd Γ (SV b bm (.slice sa sn sc) (.slice ga gn gc) (.slice ta tn tc) (rs++Bn (L3 db q) q.Sel e)::E3 bm e::S) w:=by
  intro w h0 hw;unfold Bn;rw[h0];simp only[Bool.false_eq_true,if_false,List.append_nil]
  refine Z0 (vr:=vr) hL ?_
  have hw:Wd Γ (.blk b (F6 (.slice sa sn sc) (.slice ga gn gc) (.slice ta tn tc) vr bm)::E3 bm e::(H6 vr L++S)) w:=hw.drop
  exact hw.perm T1
 refine A6 ?_;refine A0 rfl (fun h=>?_) (fun h=>?_)
 ·have hkn:k<gn:=by have:=of_decide_eq_true h;omega
  clear h;obtain⟨x,hx⟩:=B2 (l:=gs) (k:=k) (by omega)
  obtain⟨t,ht⟩:=B2 (l:=ts) (k:=k) (by omega)
  have hxm:=List.mem_of_getElem? hx
  have htm:=List.mem_of_getElem? ht
  have hgok:=hS.qr.ok x hxm
  have hgoal:=hS.goal hxm
  have hRL:=hS.rl t htm
  have heq:=hS.eq k x t hx ht
  have har:=Io (db:=db) (g:=x.g)
  rw[W5 (KG hS hx)]at hall;obtain⟨g,A,N,C⟩:=x;simp only at hgoal heq har
  refine A6 ?_;refine B9 ?_;intro b3 w hw;refine A6 ?_;refine B0 ?_;intro w hw;have hw:Wd Γ (.blk b3 (.cells (cG ⟨g,A,N,C⟩).toArray 77)::.blk b1 (.cells #[.pointer (some ⟨b,0,none⟩)] 156)::.blk b (F6 (.slice sa sn sc) (.slice ga gn gc) (.slice ta tn tc) vr bm)::E3 bm e::(H6 vr L++S)) w:=hw
  refine A6 ?_;refine A0 rfl (fun h=>?_) (fun h=>?_)
  ·have hk3:g.Kind=3:=of_decide_eq_true h
   have hdone:Y1 e (g,U7 db g)=Cj g (Gu e g.L) (Gu e g.R):=by
    unfold Y1;rw[if_pos hk3]
   have hvl:j8 (Gu e g.L):=by
    unfold Gu;split
    ·exact he.get _
    ·exact hgoal.l.2
   have hvr:j8 (Gu e g.R):=by
    unfold Gu;split
    ·exact he.get _
    ·exact hgoal.r.2
   have p1:∀o:O8,PS Tryz.prog Γ (.blk b3 (.cells (cG ⟨g,A,N,C⟩).toArray 77)::.blk b1 (.cells #[.pointer (some ⟨b,0,none⟩)] 156)::.blk b (F6 (.slice sa sn sc) (.slice ga gn gc) (.slice ta tn tc) vr bm)::E3 bm e::(H6 vr L++S)) 225 [.pointer (some ⟨b,0,none⟩),.agg (enc o).toArray] (.agg (enc (Gu e o)).toArray):=fun o=>⟨fun Y w hw=>by
    have S3:Wd Γ (.blk b (F6 (.slice sa sn sc) (.slice ga gn gc) (.slice ta tn tc) vr bm)::E3 bm e::(.blk b3 (.cells (cG ⟨g,A,N,C⟩).toArray 77)::.blk b1 (.cells #[.pointer (some ⟨b,0,none⟩)] 156)::(H6 vr L++(S++Y)))) w:=hw.perm T1
    exact(Uf (o:=o) S3).mono fun r w' ⟨h1,h2⟩=>⟨h1,h2.perm T1⟩⟩
   have p1l:=p1 g.L
   have p1r:=p1 g.R
   have p2:=Wq (Γ:=Γ) (x:=⟨g,A,N,C⟩) hgoal.off hvl hvr
   refine A6 ?_;refine G9 (by kernel_rfl) (by kernel_rfl) hw ?_
   repeat(first|(first|refine Bs ?_|(apply U3;first|(apply i9;first|refine qP ?_|refine Vs ?_)|refine qY ?_)|(apply M9;first|(apply i9;first|refine Vr ?_|refine IY ?_)|refine qG ?_))|(apply U3;apply i9;refine fI ?_)|(apply M9;apply i9;refine di ?_))
   refine fI (hp:=p1l) ?_
   repeat(first|(first|refine Bs ?_|(apply U3;first|(apply i9;first|refine qP ?_|refine Vs ?_)|refine qY ?_)|(apply M9;first|(apply i9;first|refine Vr ?_|refine IY ?_)|refine qG ?_))|(apply U3;apply i9;refine fI ?_)|(apply M9;apply i9;refine di ?_))
   refine fI (hp:=p1r) ?_
   repeat(first|(first|refine Bs ?_|(apply U3;first|(apply i9;first|refine qP ?_|refine Vs ?_)|refine qY ?_)|(apply M9;first|(apply i9;first|refine Vr ?_|refine IY ?_)|refine qG ?_))|(apply U3;apply i9;refine fI ?_)|(apply M9;apply i9;refine di ?_))
   clear hw;intro w hw;have hw:Wd Γ (.blk b3 (.cells (cG ⟨g,A,N,C⟩).toArray 77)::.blk b1 (.cells #[.pointer (some ⟨b,0,none⟩)] 156)::.blk b (F6 (.slice sa sn sc) (.slice ga gn gc) (.slice ta tn tc) vr bm)::E3 bm e::(H6 vr L++S)) w:=hw
   refine A0 rfl (fun h=>?_) (fun h=>?_)
   ·refine A6 ?_;refine⟨_,rfl,rfl,stop w ?_ hw.drop⟩
    have h0:Y1 e (g,U7 db g)=false:=by rw[hdone];simpa using h
    rw[hall,h0,Bool.false_and]
   ·have h0:Y1 e (g,U7 db g)=true:=by rw[hdone];simpa using h
    rw[h0,Bool.true_and]at hall;refine A6 ?_;exact⟨μ-1,by omega,k+1,by omega,⟨rfl,rfl,rfl,rfl,trivial⟩,hall,hw.drop⟩
  have hk3:¬g.Kind=3:=of_decide_eq_false h
  clear h;refine A6 ?_;refine A0 rfl (fun h=>?_) (fun h=>?_)
  ·have hk2:g.Kind=2:=of_decide_eq_true h
   have hdone:Y1 e (g,U7 db g) = !((U7 db g).any fun f=>Q5 e g.Args f.2):=by
    unfold Y1;rw[if_neg hk3,if_pos hk2]
   obtain⟨tv,fs⟩:=t;obtain⟨fa,fc,htv,hfc1,hfc2⟩:=hRL.len;simp only at heq htv hfc1 hfc2
   subst htv;have hcl:∀f∈fs,∀w,Wd Γ (.blk b3 (.cells (cG ⟨g,A,N,C⟩).toArray 77)::.blk b1 (.cells #[.pointer (some ⟨b,0,none⟩)] 156)::.blk b (F6 (.slice sa sn sc) (.slice ga gn gc) (.slice ta tn tc) vr bm)::E3 bm e::(H6 vr L++S)) w→Calls Tryz.prog 227 (.agg (cF f).toArray::[.pointer (some ⟨b1,0,none⟩),.pointer (some ⟨b3,0,none⟩)]).toArray w fun r w'=>r=.returned (.bool (Q5 e g.Args f.Args))∧Wd Γ (.blk b3 (.cells (cG ⟨g,A,N,C⟩).toArray 77)::.blk b1 (.cells #[.pointer (some ⟨b,0,none⟩)] 156)::.blk b (F6 (.slice sa sn sc) (.slice ga gn gc) (.slice ta tn tc) vr bm)::E3 bm e::(H6 vr L++S)) w':=fun f hf w hw=>by
    obtain⟨h1,h2⟩:=hRL.ok f hf
    refine bE hgok hgoal h1 h2 ?_ he.noKey hw
    have hm:f.fact∈U7 db g:=by rw[←heq];exact List.mem_map_of_mem (f:=D1.fact) hf
    exact Io _ hm
   refine A6 ?_;refine C9 (vs:=[.slice fa fs.length fc,.func (.func 227) #[] #[.pointer (some ⟨b1,0,none⟩),.pointer (some ⟨b3,0,none⟩)]]) ((Iz (fun f=>Q5 e g.Args f.Args) fs hcl hRL.rep hw).mono fun r w hq=>?_)
   clear hw;obtain⟨rfl,hw⟩:=hq;refine⟨_,rfl,?_⟩;rw[VV heq];refine A6 ?_;refine A0 rfl (fun h=>?_) (fun h=>?_)
   ·refine A6 ?_;refine⟨_,rfl,rfl,stop w ?_ hw.drop⟩
    have h0:Y1 e (g,U7 db g)=false:=by rw[hdone,h];rfl
    rw[hall,h0,Bool.false_and]
   ·have h0:Y1 e (g,U7 db g)=true:=by rw[hdone,h];rfl
    rw[h0,Bool.true_and]at hall;refine A6 ?_;exact⟨μ-1,by omega,k+1,by omega,⟨rfl,rfl,rfl,rfl,trivial⟩,hall,hw.drop⟩
  have hk2:¬g.Kind=2:=of_decide_eq_false h
  have h0:Y1 e (g,U7 db g)=true:=by
   unfold Y1;rw[if_neg hk3,if_neg hk2]
  rw[h0,Bool.true_and]at hall;refine A6 ?_;exact⟨μ-1,by omega,k+1,by omega,⟨rfl,rfl,rfl,rfl,trivial⟩,hall,hw.drop⟩
 have hkn:gn≤k:=by have:=of_decide_eq_false h;omega
 rw[G8 _ (by rw[JJ hS];omega)]at hall
 have hall:(L3 db q).all (Y1 e)=true:=hall
 have hfin:Bn (L3 db q) q.Sel e=[FT q.Sel e]:=by
  unfold Bn;rw[if_pos hall]
 rw[hfin]at hrs ⊢
 clear stop h;simp only[List.length_singleton]at hrs
 refine A6 ?_;refine FI (len:=sn) ?_
 intro q4 w hw;have hw:Wd Γ (.own (.slice (some q4) sn sn) 65 3 ((q.Sel.take 0).map (fun s=>enc (y6 e s))++List.replicate (sn-0) (enc P5))::.blk b1 (.cells #[.pointer (some ⟨b,0,none⟩)] 156)::.blk b (F6 (.slice sa sn sc) (.slice ga gn gc) (.slice ta tn tc) vr bm)::E3 bm e::(H6 vr L++S)) w:=hw
 refine A6 ?_;refine B3 (fun μ ρ w=>∃(k:Nat),μ+k=sn∧Has ρ [(1,.pointer (some ⟨b1,0,none⟩)),(4,.slice (some q4) sn sn),(56,.slice sa sn sc),(57,.int .i64 sn),(58,.int .i64 k)]∧Wd Γ (.own (.slice (some q4) sn sn) 65 3 ((q.Sel.take k).map (fun s=>enc (y6 e s))++List.replicate (sn-k) (enc P5))::.blk b1 (.cells #[.pointer (some ⟨b,0,none⟩)] 156)::.blk b (F6 (.slice sa sn sc) (.slice ga gn gc) (.slice ta tn tc) vr bm)::E3 bm e::(H6 vr L++S)) w) sn ⟨0,by omega,⟨rfl,rfl,rfl,rfl,rfl,trivial⟩,hw⟩ ?_
 clear hw;rintro μ ρ w ⟨k,hk,hρ,hw⟩
 rw[hρ.eq];clear hρ;refine A6 ?_;refine A0 rfl (fun h=>?_) (fun h=>?_)
 ·have hkn:k<sn:=by have:=of_decide_eq_true h;omega
  clear h;obtain⟨s,hs⟩:=B2 (l:=q.Sel) (k:=k) (by omega)
  refine A6 ?_;refine DJ (k:=k) (r:=enc (y6 e s)) ?_
  intro w hw;have hset:((q.Sel.take k).map (fun s=>enc (y6 e s))++List.replicate (sn-k) (enc P5)).set k (enc (y6 e s))=(q.Sel.take (k+1)).map (fun s=>enc (y6 e s))++List.replicate (sn-(k+1)) (enc P5):=by
   rw[YP (by rw[List.length_map,List.length_take];omega) (by omega),List.take_add_one,hs,List.map_append];rfl
  rw[hset]at hw;have hw:Wd Γ (.own (.slice (some q4) sn sn) 65 3 ((q.Sel.take (k+1)).map (fun s=>enc (y6 e s))++List.replicate (sn-(k+1)) (enc P5))::.blk b1 (.cells #[.pointer (some ⟨b,0,none⟩)] 156)::.blk b (F6 (.slice sa sn sc) (.slice ga gn gc) (.slice ta tn tc) vr bm)::E3 bm e::(H6 vr L++S)) w:=hw
  refine A6 ?_;exact⟨μ-1,by omega,k+1,by omega,⟨rfl,rfl,rfl,rfl,rfl,trivial⟩,hw⟩
 have hkn:sn≤k:=by have:=of_decide_eq_false h;omega
 have hkk:sn=k:=by omega
 subst hkk;have hrow:(q.Sel.take sn).map (fun s=>enc (y6 e s))++List.replicate (sn-sn) (enc P5)=(FT q.Sel e).map enc:=by
  rw[List.take_of_length_le (by omega),Nat.sub_self,List.replicate_zero,List.append_nil]
  unfold FT;rw[List.map_map];rfl
 rw[hrow]at hw;have hw:Wd Γ (.own vr 70 1 (L.map fun x=>[x.1])::.blk b1 (.cells #[.pointer (some ⟨b,0,none⟩)] 156)::.blk b (F6 (.slice sa sn sc) (.slice ga gn gc) (.slice ta tn tc) vr bm)::E3 bm e::.own (.slice (some q4) sn sn) 65 3 ((FT q.Sel e).map enc)::(FC 65 3 L++S)) w:=by
  have h1:Wd Γ (.own (.slice (some q4) sn sn) 65 3 ((FT q.Sel e).map enc)::.blk b1 (.cells #[.pointer (some ⟨b,0,none⟩)] 156)::.blk b (F6 (.slice sa sn sc) (.slice ga gn gc) (.slice ta tn tc) vr bm)::E3 bm e::(.own vr 70 1 (L.map fun x=>[x.1])::FC 65 3 L++S)) w:=hw
  exact h1.perm T1
 obtain⟨va,vn,vc,rfl,hvn,hvnc,hvc⟩:=hw.own_shape (i:=0) rfl
 have hLl:L.length=rs.length:=by
  have:=congrArg List.length hL
  simpa using this
 simp only[List.length_map]at hvn
 refine A6 ?_;refine JZ [.blk b1 (.cells #[.pointer (some ⟨b,0,none⟩)] 156)] (.own (.slice va vn vc) 70 1 (L.map fun x=>[x.1])::.blk b (F6 (.slice sa sn sc) (.slice ga gn gc) (.slice ta tn tc) (.slice va vn vc) bm)::E3 bm e::.own (.slice (some q4) sn sn) 65 3 ((FT q.Sel e).map enc)::(FC 65 3 L++S)) [[],[],[],[],[],[],[1],[0],[],[],[0]] [[],[],[],[],[0],[],[1],[0,1],[],[],[0]] [[80],[79]] (hw.perm T1) ?_
 repeat(first|refine mY ?_|refine mP ?_|refine T9 ?_|refine W3 ?_|refine V1 ?_)
 refine p8 (cells:=[.slice (some q4) sn sn]) [[.slice (some q4) sn sn]] ?_
 refine IX ?_
 repeat(first|refine mY ?_|refine mP ?_|refine T9 ?_|refine W3 ?_|refine V1 ?_)
 refine AO (b:=b) (j:=1) (j2:=0) ?_
 refine V1 fun w g hw=>?_
 have hw:=Wd.dropEnd hw
 have hw:Wd Γ (.blk b1 (.cells #[.pointer (some ⟨b,0,none⟩)] 156)::.own (g 80) 70 1 (L.map (fun x=>[x.1])++[[.slice (some q4) sn sn]])::.blk b (F6 (.slice sa sn sc) (.slice ga gn gc) (.slice ta tn tc) (g 80) bm)::E3 bm e::.own (.slice (some q4) sn sn) 65 3 ((FT q.Sel e).map enc)::(FC 65 3 L++S)) w:=hw
 refine⟨_,rfl,rfl,Z0 (vr:=g 80) (L:=L++[(.slice (some q4) sn sn,(FT q.Sel e).map enc)]) ?_ ?_⟩
 ·rw[List.map_append,hL,List.map_append];rfl
 have hl:(L++[(Value.slice (some q4) sn sn,(FT q.Sel e).map enc)]).map (fun x=>[x.1])=L.map (fun x=>[x.1])++[[.slice (some q4) sn sn]]:=by rw[List.map_append];rfl
 have hi:FC 65 3 (L++[(Value.slice (some q4) sn sn,(FT q.Sel e).map enc)])=FC 65 3 L++[.own (.slice (some q4) sn sn) 65 3 ((FT q.Sel e).map enc)]:=by unfold FC;rw[List.map_append];rfl
 unfold H6;rw[hl,hi];have h1:Wd Γ (.own (g 80) 70 1 (L.map (fun x=>[x.1])++[[.slice (some q4) sn sn]])::.blk b (F6 (.slice sa sn sc) (.slice ga gn gc) (.slice ta tn tc) (g 80) bm)::E3 bm e::.own (.slice (some q4) sn sn) 65 3 ((FT q.Sel e).map enc)::(FC 65 3 L++S)) w:=hw.drop
 exact h1.perm T1
end Go.Proofs.YtlmiakjbogojgaaGreatDoor
end
section
open Go Mk
namespace Go.Proofs.YtlmiakjbogojgaaGreatDoor
set_option maxHeartbeats 16000000
attribute [local irreducible] Calls cI cB
theorem aG{Γ:C8}{S:List B6}{w:World}{b bm:Nat}{vs vg vt:Value}{rs:List (List Val)}{e:Env}{va:Value}{os:List O8}{f:D1}(hargs:D7 Γ va 4 (os.map enc))(hos:∀o∈os,GL o)(hf:BG Γ f)(hfo:DC f.fact)(hlen:os.length=f.Args.length)(hn:G3 e F1=none)(hN:os.length≤1000)(hw:Wd Γ (SV b bm vs vg vt rs::E3 bm e::S) w) :
  Calls Tryz.prog 147 #[.pointer (some ⟨b,0,none⟩),va,.agg (cF f).toArray] w fun r w'=>r=.returned (.bool (Q5 e os f.Args))∧Wd Γ (SV b bm vs vg vt rs::E3 bm e::S) w':=by
 obtain⟨vr,L,hL,hw⟩:=Ct hw
 have S3:Wd Γ (.blk b (F6 vs vg vt vr bm)::E3 bm e::(H6 vr L++S)) w:=hw.perm T1
 refine(NY hargs hos hf hfo hlen hn hN S3).mono fun r w' ⟨h1,h2⟩=>⟨h1,Z0 (vr:=vr) hL ?_⟩
 exact h2.perm T1
section
variable {α β:Type}{F:α→List β}{l:List α}{j:Nat}{x:α}
theorem Fz(h:l[j]? = some x):(l.take (j+1)).flatMap F=(l.take j).flatMap F++F x:=by
 rw[List.take_add_one,h,List.flatMap_append];simp
theorem dM(h:l[j]? = some x):((l.take j).flatMap F).length+(F x).length≤(l.flatMap F).length:=by
 have e:l.flatMap F=((l.take j).flatMap F++F x)++(l.drop (j+1)).flatMap F:=by
  rw[←Fz h,←List.flatMap_append,List.take_append_drop]
 rw[e,List.length_append,List.length_append];omega
end
theorem Mh{H L:Int}(h1:Hc H)(h2:Hc L)(h:L≤H):IntKind.u64.wrap (IntKind.u64.wrap H-IntKind.u64.wrap L)=H-L:=by
 unfold Hc at *
 simp only[IntKind.wrap,IntKind.bits,IntKind.signed]
 simp
 omega
theorem CJ{a:Int}(h1:0≤a)(h2:a≤18446744073709551615):IntKind.u64.wrap a=a:=by
 simp only[IntKind.wrap,IntKind.bits,IntKind.signed]
 simp
 omega
def dW(Γ:C8)(b bm:Nat)(vs vg vt:Value)(φ:Env→List (List Val))(k:Nat):Prop:=
 ∀(S:List B6) (e:Env) (rs:List (List Val)) (w:World),y9 e→rs.length+(φ e).length≤1000000→Wd Γ (SV b bm vs vg vt rs::E3 bm e::S) w →
  Calls Tryz.prog 79 #[.pointer (some ⟨b,0,none⟩),.int .i64 k] w fun r w'=>r=.returned (.tuple #[])∧Wd Γ (SV b bm vs vg vt (rs++φ e)::E3 bm e::S) w'
section
variable {Γ:C8}{b bm b2 b3 k:Nat}{vs vg vt:Value}{φ:Env→List (List Val)}
theorem RI(hk:k≤1000)(ih:dW Γ b bm vs vg vt φ (k+1))(e:Env)(rs:List (List Val))(S:List B6)(w:World)(he:y9 e)(hrs:rs.length+(φ e).length≤1000000)(hw:Wd Γ (SV b bm vs vg vt rs::E3 bm e::([.blk b2 (.cells #[.pointer (some ⟨b,0,none⟩)] 156),.blk b3 (.cells #[.int .i64 k] 3)]++S)) w) :
  Calls Tryz.prog 149 [.pointer (some ⟨b2,0,none⟩),.pointer (some ⟨b3,0,none⟩)].toArray w fun r w'=>r=.returned (.tuple #[])∧Wd Γ (SV b bm vs vg vt (rs++φ e)::E3 bm e::([.blk b2 (.cells #[.pointer (some ⟨b,0,none⟩)] 156),.blk b3 (.cells #[.int .i64 k] 3)]++S)) w':=by
 have hw:Wd Γ (SV b bm vs vg vt rs::E3 bm e::.blk b2 (.cells #[.pointer (some ⟨b,0,none⟩)] 156)::.blk b3 (.cells #[.int .i64 k] 3)::S) w:=hw
 refine A7 Tryz.func149 rfl rfl ?_
 refine A6 ?_;refine C9 (vs:=[.pointer (some ⟨b,0,none⟩),.int .i64 ((k+1:Nat):Int)]) ((ih _ e rs w he hrs hw).mono fun r w hq=>?_)
 obtain⟨rfl,hw⟩:=hq;refine⟨_,rfl,?_⟩;refine A6 ?_;exact⟨_,rfl,rfl,hw⟩
theorem SA(hk:k≤1000)(ih:dW Γ b bm vs vg vt φ (k+1))(e:Env)(rs:List (List Val))(S:List B6)(w:World)(he:y9 e)(hrs:rs.length+(φ e).length≤1000000)(hw:Wd Γ (SV b bm vs vg vt rs::E3 bm e::([.blk b2 (.cells #[.pointer (some ⟨b,0,none⟩)] 156),.blk b3 (.cells #[.int .i64 k] 3)]++S)) w) :
  Calls Tryz.prog 150 [.pointer (some ⟨b2,0,none⟩),.pointer (some ⟨b3,0,none⟩)].toArray w fun r w'=>r=.returned (.tuple #[])∧Wd Γ (SV b bm vs vg vt (rs++φ e)::E3 bm e::([.blk b2 (.cells #[.pointer (some ⟨b,0,none⟩)] 156),.blk b3 (.cells #[.int .i64 k] 3)]++S)) w':=by
 have hw:Wd Γ (SV b bm vs vg vt rs::E3 bm e::.blk b2 (.cells #[.pointer (some ⟨b,0,none⟩)] 156)::.blk b3 (.cells #[.int .i64 k] 3)::S) w:=hw
 refine A7 Tryz.func150 rfl rfl ?_
 refine A6 ?_;refine C9 (vs:=[.pointer (some ⟨b,0,none⟩),.int .i64 ((k+1:Nat):Int)]) ((ih _ e rs w he hrs hw).mono fun r w hq=>?_)
 obtain⟨rfl,hw⟩:=hq;refine⟨_,rfl,?_⟩;refine A6 ?_;exact⟨_,rfl,rfl,hw⟩
end
theorem Qg{Γ:C8}{b bm:Nat}{vs vg vt:Value}{gs:List N0}{ts:List (Value×List D1)}{db:List F3}{q:F7}(hS:aF Γ vs vg vt gs ts db q)(hR:∀g∈q.Goals,g.Kind=4→g.Low≤g.High∧g.High-g.Low≤1000000) :
  ∀(m k:Nat),k+m=gs.length→dW Γ b bm vs vg vt (BH (Bn (L3 db q) q.Sel) ((L3 db q).drop k)) k:=by
 obtain⟨ga,gn,gc,rfl,hgn,hgnc,hgc⟩:=hS.qr.goals.shape;obtain⟨sa,sn,sc,rfl,hsn,hsnc,hsc⟩:=hS.qr.sel.shape;obtain⟨ta,tn,tc,rfl,htn,htnc,htc⟩:=hS.tab.shape;simp only[List.length_map]at hgn hsn htn
 have hrG:=hS.qr.goals
 have hrS:=hS.qr.sel
 have hrT:=hS.tab
 have hgl:=hS.glen
 have htl:=hS.len
 have hsl:=hS.qok.sel
 intro m;induction m with
 | zero=>
  intro k hk S e rs w he hrs hw;have hkn:k=gn:=by omega
  rw[G8 (L3 db q) (by rw[JJ hS];omega)]at hrs ⊢
  have hrs:rs.length+(Bn (L3 db q) q.Sel e).length≤1000000:=hrs
  show Calls _ _ _ _ fun r w'=>r=.returned (.tuple #[])∧Wd Γ (SV b bm (.slice sa sn sc) (.slice ga gn gc) (.slice ta tn tc) (rs++Bn (L3 db q) q.Sel e)::E3 bm e::S) w'
  obtain⟨vr,L,hL,hw⟩:=Ct hw
  refine A7 Tryz.func79 rfl rfl ?_
  refine A6 ?_;refine H2 ?_;intro b2 w hw;refine A6 ?_;refine H2 ?_;intro b3 w hw;have hw:Wd Γ (.blk b3 (.cells #[.int .i64 k] 3)::.blk b2 (.cells #[.pointer (some ⟨b,0,none⟩)] 156)::.blk b (F6 (.slice sa sn sc) (.slice ga gn gc) (.slice ta tn tc) vr bm)::(H6 vr L++(E3 bm e::S))) w:=hw
  have hw:Wd Γ (.blk b2 (.cells #[.pointer (some ⟨b,0,none⟩)] 156)::.blk b3 (.cells #[.int .i64 k] 3)::.blk b (F6 (.slice sa sn sc) (.slice ga gn gc) (.slice ta tn tc) vr bm)::E3 bm e::(H6 vr L++S)) w:=hw.perm T1
  refine A6 ?_;refine G9 (by kernel_rfl) (by kernel_rfl) hw ?_
  refine X3 ?_;clear hw;intro w hw;have hw:Wd Γ (.blk b2 (.cells #[.pointer (some ⟨b,0,none⟩)] 156)::.blk b3 (.cells #[.int .i64 k] 3)::.blk b (F6 (.slice sa sn sc) (.slice ga gn gc) (.slice ta tn tc) vr bm)::E3 bm e::(H6 vr L++S)) w:=hw
  refine O0 (congrArg Value.bool (decide_eq_true (by omega))) ?_
  refine A6 ?_;have S3:Wd Γ (.blk b (F6 (.slice sa sn sc) (.slice ga gn gc) (.slice ta tn tc) vr bm)::(H6 vr L++(E3 bm e::(.blk b2 (.cells #[.pointer (some ⟨b,0,none⟩)] 156)::.blk b3 (.cells #[.int .i64 k] 3)::S)))) w:=hw.perm T1
  have ES:=Z0 (vr:=vr) hL S3
  refine C9 (vs:=[.pointer (some ⟨b,0,none⟩)]) ((Rx hS he hrs ES).mono fun r w hq=>?_)
  clear hw S3 ES;obtain⟨rfl,hw⟩:=hq;refine⟨_,rfl,?_⟩;refine A6 ?_;exact⟨_,rfl,rfl,hw.ds [2,2]⟩
 | succ m ih=>
  intro k hk S e rs w he hrs hw;have hkn:k<gn:=by omega
  have ihk:=ih (k+1) (by omega)
  obtain⟨x,hx⟩:=B2 (l:=gs) (k:=k) (by omega)
  obtain⟨t,ht⟩:=B2 (l:=ts) (k:=k) (by omega)
  have hxm:=List.mem_of_getElem? hx
  have htm:=List.mem_of_getElem? ht
  have hgok:=hS.qr.ok x hxm
  have hgoal:=hS.goal hxm
  have hRL:=hS.rl t htm
  have heq:=hS.eq k x t hx ht
  have har:=Io (db:=db) (g:=x.g)
  have hRx:=hR x.g (by rw[←hS.qr.eq];exact List.mem_map_of_mem (f:=(·.g)) hxm)
  rw[Q9 (KG hS hx)]at hrs ⊢
  obtain⟨φ,hφ⟩:∃φ,φ=BH (Bn (L3 db q) q.Sel) ((L3 db q).drop (k+1)):=⟨_,rfl⟩
  rw[←hφ]at ihk;obtain⟨g,A,N,C⟩:=x;obtain⟨tv,fs⟩:=t;obtain⟨fa,fc,htv,hfc1,hfc2⟩:=hRL.len;simp only at hgoal heq har hRx htv hfc1 hfc2 hrs ⊢
  subst htv;obtain⟨R,hRe⟩:∃R,R=BH (Bn (L3 db q) q.Sel) ((g,U7 db g)::(L3 db q).drop (k+1)) e:=⟨_,rfl⟩
  rw[←hRe]at hrs ⊢
  unfold BH at hRe;rw[←hφ]at hRe;obtain⟨vr,L,hL,hw⟩:=Ct hw
  refine A7 Tryz.func79 rfl rfl ?_
  refine A6 ?_;refine H2 ?_;intro b2 w hw;refine A6 ?_;refine H2 ?_;intro b3 w hw;have hw:Wd Γ (.blk b3 (.cells #[.int .i64 k] 3)::.blk b2 (.cells #[.pointer (some ⟨b,0,none⟩)] 156)::.blk b (F6 (.slice sa sn sc) (.slice ga gn gc) (.slice ta tn tc) vr bm)::(H6 vr L++(E3 bm e::S))) w:=hw
  have hw:Wd Γ (.blk b2 (.cells #[.pointer (some ⟨b,0,none⟩)] 156)::.blk b3 (.cells #[.int .i64 k] 3)::.blk b (F6 (.slice sa sn sc) (.slice ga gn gc) (.slice ta tn tc) vr bm)::E3 bm e::(H6 vr L++S)) w:=hw.perm T1
  refine A6 ?_;refine G9 (by kernel_rfl) (by kernel_rfl) hw ?_
  refine X3 ?_;clear hw;intro w hw;have hw:Wd Γ (.blk b2 (.cells #[.pointer (some ⟨b,0,none⟩)] 156)::.blk b3 (.cells #[.int .i64 k] 3)::.blk b (F6 (.slice sa sn sc) (.slice ga gn gc) (.slice ta tn tc) vr bm)::E3 bm e::(H6 vr L++S)) w:=hw
  refine N6 (congrArg Value.bool (decide_eq_false (by omega))) ?_
  refine A6 ?_;refine Gy 1 [[],[],[],[],[],[],[],[],[0],[0]] [[],[],[],[],[],[],[],[],[0],[0]] [[4]] ?_ (hw:=hw)
  refine P3 ?_;refine HG ?_
  refine Bv ?_
  refine T9 ?_
  clear hw;intro b4 w hw;have hw:Wd Γ (.blk b4 (.cells (cG ⟨g,A,N,C⟩).toArray 77)::.blk b2 (.cells #[.pointer (some ⟨b,0,none⟩)] 156)::.blk b3 (.cells #[.int .i64 k] 3)::.blk b (F6 (.slice sa sn sc) (.slice ga gn gc) (.slice ta tn tc) vr bm)::E3 bm e::(H6 vr L++S)) w:=hw
  refine A6 ?_;refine A0 rfl (fun h=>?_) (fun h=>?_)
  ·have hk1:g.Kind=1:=of_decide_eq_true h
   clear h;rw[if_pos hk1]at hRe;have hRe2:R=fs.flatMap fun f=>(fun f:F3=>if Q5 e g.Args f.2 then M4 φ e g.Args f.2 else []) f.fact:=by
    rw[hRe,←heq];unfold facts;rw[List.flatMap_map]
   have hat:H8 g=true:=by unfold H8;rw[hk1];rfl
   refine A6 ?_;refine G9 (by kernel_rfl) (by kernel_rfl) hw ?_
   refine X3 ?_;clear hw;intro w hw;have hw:Wd Γ (.blk b (F6 (.slice sa sn sc) (.slice ga gn gc) (.slice ta tn tc) vr bm)::(H6 vr L++(E3 bm e::(.blk b2 (.cells #[.pointer (some ⟨b,0,none⟩)] 156)::.blk b3 (.cells #[.int .i64 k] 3)::.blk b4 (.cells (cG ⟨g,A,N,C⟩).toArray 77)::S)))) w:=hw.perm T1
   have hw:=Z0 (vr:=vr) hL hw
   clear hL;refine A6 ?_;refine B3 (fun μ ρ w=>∃(j:Nat),μ+j=fs.length∧Has ρ [(2,.pointer (some ⟨b2,0,none⟩)),(3,.pointer (some ⟨b3,0,none⟩)),(4,.pointer (some ⟨b4,0,none⟩)),(43,.slice fa fs.length fc),(44,.int .i64 fs.length),(45,.int .i64 j)]∧Wd Γ (SV b bm (.slice sa sn sc) (.slice ga gn gc) (.slice ta tn tc) (rs++(fs.take j).flatMap fun f=>(fun f:F3=>if Q5 e g.Args f.2 then M4 φ e g.Args f.2 else []) f.fact)::E3 bm e::.blk b2 (.cells #[.pointer (some ⟨b,0,none⟩)] 156)::.blk b3 (.cells #[.int .i64 k] 3)::.blk b4 (.cells (cG ⟨g,A,N,C⟩).toArray 77)::S) w) fs.length ⟨0,by omega,⟨rfl,rfl,rfl,rfl,rfl,rfl,trivial⟩,by rw[List.take_zero,List.flatMap_nil,List.append_nil];exact hw⟩ ?_
   clear hw;rintro μ ρ w ⟨j,hj,hρ,hw⟩
   rw[hρ.eq];clear hρ;refine A6 ?_;refine A0 rfl (fun h=>?_) (fun h=>?_)
   ·have hjn:j<fs.length:=by have:=of_decide_eq_true h;omega
    clear h;obtain⟨f,hf⟩:=B2 (l:=fs) (k:=j) hjn
    obtain⟨h1,h2⟩:=hRL.ok f (List.mem_of_getElem? hf)
    have hm:f.fact∈U7 db g:=by rw[←heq];exact List.mem_map_of_mem (f:=D1.fact) (List.mem_of_getElem? hf)
    have hfl:=har _ hm
    have hsu:=Fz (F:=fun f:D1=>(fun f:F3=>if Q5 e g.Args f.2 then M4 φ e g.Args f.2 else []) f.fact) hf
    have hle:=dM (F:=fun f:D1=>(fun f:F3=>if Q5 e g.Args f.2 then M4 φ e g.Args f.2 else []) f.fact) hf
    rw[←hRe2]at hle;have hrb:=hRL.rep
    refine A6 ?_;refine B9 ?_;intro b6 w hw;refine B0 ?_;intro w hw;obtain⟨fr,fa2,fn2,fc2,xs⟩:=f;have hw:Wd Γ (.blk b6 (.cells (cF ⟨fr,fa2,fn2,fc2,xs⟩).toArray 80)::SV b bm (.slice sa sn sc) (.slice ga gn gc) (.slice ta tn tc) (rs++(fs.take j).flatMap fun f=>(fun f:F3=>if Q5 e g.Args f.2 then M4 φ e g.Args f.2 else []) f.fact)::E3 bm e::.blk b2 (.cells #[.pointer (some ⟨b,0,none⟩)] 156)::.blk b3 (.cells #[.int .i64 k] 3)::.blk b4 (.cells (cG ⟨g,A,N,C⟩).toArray 77)::S) w:=hw
    have hw:Wd Γ (SV b bm (.slice sa sn sc) (.slice ga gn gc) (.slice ta tn tc) (rs++(fs.take j).flatMap fun f=>(fun f:F3=>if Q5 e g.Args f.2 then M4 φ e g.Args f.2 else []) f.fact)::E3 bm e::.blk b2 (.cells #[.pointer (some ⟨b,0,none⟩)] 156)::.blk b3 (.cells #[.int .i64 k] 3)::.blk b6 (.cells (cF ⟨fr,fa2,fn2,fc2,xs⟩).toArray 80)::.blk b4 (.cells (cG ⟨g,A,N,C⟩).toArray 77)::S) w:=hw.perm T1
    refine A6 ?_;refine C9 (vs:=[.pointer (some ⟨b,0,none⟩),.slice A N C,.agg (cF ⟨fr,fa2,fn2,fc2,xs⟩).toArray]) ((aG (f:=⟨fr,fa2,fn2,fc2,xs⟩) (va:=.slice A N C) (os:=g.Args) hgok hgoal.args h1 h2 hfl he.noKey hgoal.len hw).mono fun r w hq=>?_)
    clear hw;obtain⟨rfl,hw⟩:=hq;refine⟨_,rfl,?_⟩;have hxl:((rs++(fs.take j).flatMap fun f=>(fun f:F3=>if Q5 e g.Args f.2 then M4 φ e g.Args f.2 else []) f.fact).length=rs.length+((fs.take j).flatMap fun f=>(fun f:F3=>if Q5 e g.Args f.2 then M4 φ e g.Args f.2 else []) f.fact).length):=List.length_append
    refine A6 ?_;refine A0 rfl (fun h=>?_) (fun h=>?_)
    ·have hF:(fun f:F3=>if Q5 e g.Args f.2 then M4 φ e g.Args f.2 else []) (D1.fact ⟨fr,fa2,fn2,fc2,xs⟩)=M4 φ e g.Args xs:=if_pos h
     rw[hF]at hsu hle
     refine A6 ?_;refine C9 (vs:=[.pointer (some ⟨b,0,none⟩),.slice A N C,.slice fa2 fn2 fc2,.func (.func 149) #[] #[.pointer (some ⟨b2,0,none⟩),.pointer (some ⟨b3,0,none⟩)]]) ((ON (CAP:=[.blk b2 (.cells #[.pointer (some ⟨b,0,none⟩)] 156),.blk b3 (.cells #[.int .i64 k] 3)]) (S:=.blk b6 (.cells (cF ⟨fr,fa2,fn2,fc2,xs⟩).toArray 80)::.blk b4 (.cells (cG ⟨g,A,N,C⟩).toArray 77)::S) (rs:=rs++(fs.take j).flatMap fun f=>(fun f:F3=>if Q5 e g.Args f.2 then M4 φ e g.Args f.2 else []) f.fact) (cap:=[.pointer (some ⟨b2,0,none⟩),.pointer (some ⟨b3,0,none⟩)]) (q:=149) (os:=g.Args) (xs:=xs) φ (fun e' rs' S' w h1 h2 h3=>RI (by omega) ihk e' rs' S' w h1 h2 h3) (D7.rdS hgok) (D7.rdS h1) hfl hgoal.len h2.2.2 he (by rw[hxl];omega) hw).mono fun r w hq=>?_)
     clear hw;obtain⟨rfl,hw⟩:=hq;refine⟨_,rfl,?_⟩;rw[List.append_assoc,←hsu]at hw;refine A6 ?_;refine⟨fs.length-j-1,by omega,j+1,by omega,⟨rfl,rfl,rfl,rfl,rfl,rfl,trivial⟩,?_⟩
     exact hw.dropAt 4
    ·have hF:(fun f:F3=>if Q5 e g.Args f.2 then M4 φ e g.Args f.2 else []) (D1.fact ⟨fr,fa2,fn2,fc2,xs⟩)=[]:=if_neg (by show ¬Q5 e g.Args xs=true;rw[show Q5 e g.Args xs=false from h];simp)
     rw[hF,List.append_nil]at hsu;rw[←hsu]at hw;refine A6 ?_;refine⟨fs.length-j-1,by omega,j+1,by omega,⟨rfl,rfl,rfl,rfl,rfl,rfl,trivial⟩,?_⟩
     exact hw.dropAt 4
   have hjn:fs.length≤j:=by have:=of_decide_eq_false h;omega
   rw[List.take_of_length_le hjn,←hRe2]at hw;refine A6 ?_;exact⟨_,rfl,rfl,hw.ds [2,2,2]⟩
  have hk1:¬g.Kind=1:=of_decide_eq_false h
  clear h;rw[if_neg hk1]at hRe;refine A6 ?_;refine A0 rfl (fun h=>?_) (fun h=>?_)
  ·have hk4:g.Kind=4:=of_decide_eq_true h
   clear h;rw[if_pos hk4]at hRe;obtain⟨hlh,hlh2⟩:=hRx hk4
   have hi1:=hgoal.low
   have hi2:=hgoal.high
   have hsub:=Mh hi2 hi1 hlh
   have hw:Wd Γ (.blk b4 (.cells (cG ⟨g,A,N,C⟩).toArray 77)::E3 bm e::.blk b2 (.cells #[.pointer (some ⟨b,0,none⟩)] 156)::.blk b3 (.cells #[.int .i64 k] 3)::.blk b (F6 (.slice sa sn sc) (.slice ga gn gc) (.slice ta tn tc) vr bm)::(H6 vr L++S)) w:=hw.perm T1
   refine A6 ?_;refine Gy 1 [[],[],[],[],[],[],[],[],[],[],[],[0],[0],[]] [[],[],[],[],[],[],[],[],[],[],[],[0],[0],[]] [[7]] ?_ (hw:=hw)
   refine P3 ?_;refine HG ?_
   refine Bv ?_
   refine P3 ?_;refine T9 ?_
   clear hw;intro b7 w hw;have hw:Wd Γ (.blk b7 (.cells (enc ((G3 e g.L.Var).getD default)).toArray 65)::.blk b4 (.cells (cG ⟨g,A,N,C⟩).toArray 77)::E3 bm e::.blk b2 (.cells #[.pointer (some ⟨b,0,none⟩)] 156)::.blk b3 (.cells #[.int .i64 k] 3)::.blk b (F6 (.slice sa sn sc) (.slice ga gn gc) (.slice ta tn tc) vr bm)::(H6 vr L++S)) w:=hw
   have hw:Wd Γ (.blk b (F6 (.slice sa sn sc) (.slice ga gn gc) (.slice ta tn tc) vr bm)::(H6 vr L++(E3 bm e::.blk b2 (.cells #[.pointer (some ⟨b,0,none⟩)] 156)::.blk b3 (.cells #[.int .i64 k] 3)::.blk b7 (.cells (enc ((G3 e g.L.Var).getD default)).toArray 65)::.blk b4 (.cells (cG ⟨g,A,N,C⟩).toArray 77)::S))) w:=hw.perm T1
   have hw:=Z0 (vr:=vr) hL hw
   clear hL;refine A6 ?_;refine A0 rfl (fun h=>?_) (fun h=>?_)
   ·obtain⟨v,hv⟩:=Option.isSome_iff_exists.1 h
    clear h;rw[hv]at hw hRe
    simp only at hRe
    have hw:Wd Γ (SV b bm (.slice sa sn sc) (.slice ga gn gc) (.slice ta tn tc) rs::E3 bm e::.blk b2 (.cells #[.pointer (some ⟨b,0,none⟩)] 156)::.blk b3 (.cells #[.int .i64 k] 3)::.blk b7 (.cells (enc v).toArray 65)::.blk b4 (.cells (cG ⟨g,A,N,C⟩).toArray 77)::S) w:=hw
    refine A6 ?_;refine A0 rfl (fun h=>?_) (fun h=>?_)
    ·have hc:v.Kind=1∧g.Low≤v.Num∧v.Num≤g.High:=by
      simp only[Bool.and_eq_true,decide_eq_true_eq]at h
      exact⟨h.1.1,h.1.2,h.2⟩
     rw[if_pos hc]at hRe;refine A6 ?_;refine C9 (vs:=[.pointer (some ⟨b,0,none⟩),.int .i64 ((k+1:Nat):Int)]) ((ihk _ e rs w he (by rw[←hRe];exact hrs) hw).mono fun r w hq=>?_)
     clear hw;obtain⟨rfl,hw⟩:=hq;refine⟨_,rfl,?_⟩;rw[←hRe]at hw;refine A6 ?_;exact⟨_,rfl,rfl,hw.ds [2,2,2,2]⟩
    ·have hc:¬(v.Kind=1∧g.Low≤v.Num∧v.Num≤g.High):=by
      intro hc;simp only[Bool.and_eq_false_iff,decide_eq_false_iff_not]at h
      rcases h with (h|h)|h
      ·exact h hc.1
      ·exact h hc.2.1
      ·exact h hc.2.2
     rw[if_neg hc]at hRe;refine A6 ?_;refine⟨_,rfl,rfl,?_⟩
     rw[hRe,List.append_nil];exact hw.ds [2,2,2,2]
   have hv:G3 e g.L.Var=none:=by simpa using h
   clear h;rw[hv]at hRe;simp only at hRe
   obtain⟨M,hM⟩:∃M,M=(g.High-g.Low+1).toNat:=⟨_,rfl⟩
   rw[←hM]at hRe;have hw:Wd Γ (SV b bm (.slice sa sn sc) (.slice ga gn gc) (.slice ta tn tc) rs::E3 bm e::.blk b2 (.cells #[.pointer (some ⟨b,0,none⟩)] 156)::.blk b3 (.cells #[.int .i64 k] 3)::.blk b4 (.cells (cG ⟨g,A,N,C⟩).toArray 77)::S) w:=hw.dropAt 4
   refine A6 ?_;refine B3 (fun μ ρ w=>∃(j:Nat),μ+j=M∧Has ρ [(2,.pointer (some ⟨b2,0,none⟩)),(3,.pointer (some ⟨b3,0,none⟩)),(4,.pointer (some ⟨b4,0,none⟩)),(9,.int .u64 j)]∧Wd Γ (SV b bm (.slice sa sn sc) (.slice ga gn gc) (.slice ta tn tc) (rs++((List.range M).take j).flatMap (fun n:Nat=>M4 φ e [g.L] [BI g.Low n]))::E3 bm e::.blk b2 (.cells #[.pointer (some ⟨b,0,none⟩)] 156)::.blk b3 (.cells #[.int .i64 k] 3)::.blk b4 (.cells (cG ⟨g,A,N,C⟩).toArray 77)::S) w) M ⟨0,by omega,⟨rfl,rfl,rfl,rfl,trivial⟩,by rw[List.take_zero,List.flatMap_nil,List.append_nil];exact hw⟩ ?_
   clear hw;rintro μ ρ w ⟨j,hj,hρ,hw⟩
   rw[hρ.eq];clear hρ;refine A6 ?_;refine A0 rfl (fun h=>?_) (fun h=>?_)
   ·have h:(j:Int)≤IntKind.u64.wrap (IntKind.u64.wrap g.High-IntKind.u64.wrap g.Low):=of_decide_eq_true h
    rw[hsub]at h;have hjM:j<M:=by omega
    have hgj:(List.range M)[j]? = some j:=List.getElem?_range hjM
    have hsu:=Fz (F:=(fun n:Nat=>M4 φ e [g.L] [BI g.Low n])) hgj
    have hle:=dM (F:=(fun n:Nat=>M4 φ e [g.L] [BI g.Low n])) hgj
    rw[←hRe]at hle;have hxl:((rs++((List.range M).take j).flatMap (fun n:Nat=>M4 φ e [g.L] [BI g.Low n])).length=rs.length+(((List.range M).take j).flatMap (fun n:Nat=>M4 φ e [g.L] [BI g.Low n])).length):=List.length_append
    have hwj:IntKind.i64.wrap (j:Int)=j:=wrap_i64 (by omega) (by omega)
    unfold Hc at hi1 hi2;have hvok:j8 (BI g.Low j):=⟨⟨by show _≤g.Low+(j:Int);omega,by show g.Low+(j:Int)≤_;omega⟩,by show (⟨#[]⟩:ByteArray).size≤9223372036854775807;decide⟩
    clear h hsub;refine A6 ?_;refine B9 ?_;intro b10 w hw;refine B0 ?_;intro w hw;have hw:Wd Γ (.blk b10 (.cells #[.int .i64 1,.int .i64 (IntKind.i64.wrap (g.Low+IntKind.i64.wrap (j:Int))),.string ⟨#[]⟩] 65)::SV b bm (.slice sa sn sc) (.slice ga gn gc) (.slice ta tn tc) (rs++((List.range M).take j).flatMap (fun n:Nat=>M4 φ e [g.L] [BI g.Low n]))::E3 bm e::.blk b2 (.cells #[.pointer (some ⟨b,0,none⟩)] 156)::.blk b3 (.cells #[.int .i64 k] 3)::.blk b4 (.cells (cG ⟨g,A,N,C⟩).toArray 77)::S) w:=hw
    rw[hwj,wrap_i64 (by omega) (by omega)]at hw
    have hw:Wd Γ (.blk b10 (.cells (enc (BI g.Low j)).toArray 65)::SV b bm (.slice sa sn sc) (.slice ga gn gc) (.slice ta tn tc) (rs++((List.range M).take j).flatMap (fun n:Nat=>M4 φ e [g.L] [BI g.Low n]))::E3 bm e::.blk b2 (.cells #[.pointer (some ⟨b,0,none⟩)] 156)::.blk b3 (.cells #[.int .i64 k] 3)::.blk b4 (.cells (cG ⟨g,A,N,C⟩).toArray 77)::S) w:=hw
    refine A6 ?_;refine B5 [enc g.L] ?_
    intro q1 w hw;refine A6 ?_;refine B5 [enc (BI g.Low j)] ?_
    intro q2 w hw;have hw:Wd Γ (.own (.slice (some q2) 1 1) 65 3 [enc (BI g.Low j)]::.own (.slice (some q1) 1 1) 75 4 [enc g.L]::.blk b10 (.cells (enc (BI g.Low j)).toArray 65)::SV b bm (.slice sa sn sc) (.slice ga gn gc) (.slice ta tn tc) (rs++((List.range M).take j).flatMap (fun n:Nat=>M4 φ e [g.L] [BI g.Low n]))::E3 bm e::.blk b2 (.cells #[.pointer (some ⟨b,0,none⟩)] 156)::.blk b3 (.cells #[.int .i64 k] 3)::.blk b4 (.cells (cG ⟨g,A,N,C⟩).toArray 77)::S) w:=hw
    have hw:Wd Γ (SV b bm (.slice sa sn sc) (.slice ga gn gc) (.slice ta tn tc) (rs++((List.range M).take j).flatMap (fun n:Nat=>M4 φ e [g.L] [BI g.Low n]))::E3 bm e::.blk b2 (.cells #[.pointer (some ⟨b,0,none⟩)] 156)::.blk b3 (.cells #[.int .i64 k] 3)::.own (.slice (some q1) 1 1) 75 4 [enc g.L]::.own (.slice (some q2) 1 1) 65 3 [enc (BI g.Low j)]::.blk b10 (.cells (enc (BI g.Low j)).toArray 65)::.blk b4 (.cells (cG ⟨g,A,N,C⟩).toArray 77)::S) w:=hw.perm T1
    refine A6 ?_;refine C9 (vs:=[.pointer (some ⟨b,0,none⟩),.slice (some q1) 1 1,.slice (some q2) 1 1,.func (.func 150) #[] #[.pointer (some ⟨b2,0,none⟩),.pointer (some ⟨b3,0,none⟩)]]) ((ON (CAP:=[.blk b2 (.cells #[.pointer (some ⟨b,0,none⟩)] 156),.blk b3 (.cells #[.int .i64 k] 3)]) (S:=.own (.slice (some q1) 1 1) 75 4 [enc g.L]::.own (.slice (some q2) 1 1) 65 3 [enc (BI g.Low j)]::.blk b10 (.cells (enc (BI g.Low j)).toArray 65)::.blk b4 (.cells (cG ⟨g,A,N,C⟩).toArray 77)::S) (rs:=rs++((List.range M).take j).flatMap (fun n:Nat=>M4 φ e [g.L] [BI g.Low n])) (cap:=[.pointer (some ⟨b2,0,none⟩),.pointer (some ⟨b3,0,none⟩)]) (q:=150) (os:=[g.L]) (xs:=[BI g.Low j]) φ (fun e' rs' S' w h1 h2 h3=>SA (by omega) ihk e' rs' S' w h1 h2 h3) (P4.ownI (i:=2) rfl rfl (Nat.le_refl _) (by omega)) (P4.ownI (i:=3) rfl rfl (Nat.le_refl _) (by omega)) rfl (by simp) (fun v hv=>by rw[List.mem_singleton.1 hv];exact hvok) he (by rw[hxl];omega) hw).mono fun r w hq=>?_)
    clear hw;obtain⟨rfl,hw⟩:=hq;refine⟨_,rfl,?_⟩;rw[List.append_assoc,←hsu]at hw;refine A6 ?_;refine⟨M-j-1,by omega,j+1,by omega,⟨rfl,rfl,rfl,(by show Value.int .u64 (IntKind.u64.wrap ((j:Int)+1))=_;rw[CJ (by omega) (by omega)];rfl),trivial⟩,?_⟩
    exact hw.ds [4,4,4]
   have h:¬(j:Int)≤IntKind.u64.wrap (IntKind.u64.wrap g.High-IntKind.u64.wrap g.Low):=of_decide_eq_false h
   rw[hsub]at h;rw[List.take_of_length_le (by rw[List.length_range];omega),←hRe]at hw
   refine A6 ?_;exact⟨_,rfl,rfl,hw.ds [2,2,2]⟩
  have hk4:¬g.Kind=4:=of_decide_eq_false h
  clear h;rw[if_neg hk4]at hRe;have hw:Wd Γ (.blk b (F6 (.slice sa sn sc) (.slice ga gn gc) (.slice ta tn tc) vr bm)::(H6 vr L++(E3 bm e::.blk b2 (.cells #[.pointer (some ⟨b,0,none⟩)] 156)::.blk b3 (.cells #[.int .i64 k] 3)::.blk b4 (.cells (cG ⟨g,A,N,C⟩).toArray 77)::S))) w:=hw.perm T1
  have hw:=Z0 (vr:=vr) hL hw
  refine A6 ?_;refine C9 (vs:=[.pointer (some ⟨b,0,none⟩),.int .i64 ((k+1:Nat):Int)]) ((ihk _ e rs w he (by rw[←hRe];exact hrs) hw).mono fun r w hq=>?_)
  clear hw;obtain⟨rfl,hw⟩:=hq;refine⟨_,rfl,?_⟩;rw[←hRe]at hw;refine A6 ?_;exact⟨_,rfl,rfl,hw.ds [2,2,2]⟩
end Go.Proofs.YtlmiakjbogojgaaGreatDoor
end
section
open Go Mk
namespace Go.Proofs.YtlmiakjbogojgaaGreatDoor
set_option maxHeartbeats 16000000
attribute [local irreducible] Calls cI cB
abbrev DV(bm:Nat)(ks:List ByteArray):B6:=B6.ms Value.bool bm (ks.map fun s=>(s,true))
theorem Yi{ks:List ByteArray}{s:ByteArray}:Dc (ks.map fun s=>(s,true)) s=ks.findIdx? fun t=>decide (t=s):=by
 unfold Dc;rw[List.findIdx?_map];rfl
theorem Gt{ks:List ByteArray}{s:ByteArray}:(G3 (ks.map fun s=>(s,true)) s).getD default=BF ks s:=by
 unfold G3 BF;rw[Yi];cases h:ks.findIdx? fun t=>decide (t=s) with
 | none=>
  rw[List.findIdx?_eq_none_iff]at h;symm
  show _=false
  rw[List.any_eq_false];intro x hx;rw[h x hx];simp
 | some i=>
  have hh:=List.findIdx?_eq_some_iff_getElem.1 h
  obtain⟨h1,h2,-⟩:=hh;simp only[Option.bind_some]
  rw[List.getElem?_map,List.getElem?_eq_getElem h1];symm
  show _=true
  rw[List.any_eq_true];exact⟨ks[i],List.getElem_mem h1,h2⟩
theorem HA{ks:List ByteArray}{s:ByteArray}:j6 (ks.map fun s=>(s,true)) s true=(addN ks s).map fun s=>(s,true):=by
 unfold j6 addN BF;rw[Yi];cases h:ks.findIdx? fun t=>decide (t=s) with
 | none=>
  rw[List.findIdx?_eq_none_iff]at h;have:(ks.any fun t=>decide (t=s))=false:=by
   rw[List.any_eq_false];intro x hx;rw[h x hx];simp
  rw[this];simp
 | some i=>
  have hh:=List.findIdx?_eq_some_iff_getElem.1 h
  obtain⟨h1,h2,-⟩:=hh;have h2:ks[i]=s:=of_decide_eq_true h2
  have:(ks.any fun t=>decide (t=s))=true:=List.any_eq_true.2 ⟨ks[i],List.getElem_mem h1,decide_eq_true h2⟩
  rw[this];simp only[if_true]
  have e:(s,true)=(ks.map fun s=>(s,true))[i]'(by rw[List.length_map];exact h1):=by simp[h2]
  rw[e];exact List.set_getElem_self _
theorem Lx{α β:Type}(f:α→β):∀(l:List α) (i:Nat),(l.map f).eraseIdx i=(l.eraseIdx i).map f
 | [],_=>rfl
 | _::_,0=>rfl
 | a::l,i+1=>by
  show f a::(l.map f).eraseIdx i=f a::(l.eraseIdx i).map f
  rw[Lx f l i]
theorem WA{ks:List ByteArray}{s:ByteArray}(hn:ks.Nodup):Es (ks.map fun s=>(s,true)) s=(ks.filter fun t=>decide (t≠s)).map fun s=>(s,true):=by
 unfold Es;rw[Yi];have key:∀(ks:List ByteArray),ks.Nodup→(match ks.findIdx? (fun t=>decide (t=s)) with|some i=>ks.eraseIdx i|none=>ks)=ks.filter fun t=>decide (t≠s):=by
  intro ks;induction ks with
  | nil=>intro _;rfl
  | cons a l ih=>
   intro hn;rw[List.nodup_cons]at hn;rw[List.findIdx?_cons];by_cases h:a=s
   ·subst h;simp only[decide_true,if_true,List.eraseIdx_zero,List.tail_cons]
    rw[List.filter_cons,if_neg (by simp)]
    rw[List.filter_eq_self.2];intro x hx;simp only[ne_eq,decide_eq_true_eq]
    exact fun e=>hn.1 (e ▸ hx)
   ·rw[decide_eq_false h];simp only[Bool.false_eq_true,if_false]
    rw[List.filter_cons,if_pos (by simpa using h),←ih hn.2]
    cases hq:l.findIdx? fun t=>decide (t=s) with
    | none=>rfl
    | some i=>rfl
 rw[←key ks hn];cases hq:ks.findIdx? fun t=>decide (t=s) with
 | none=>rfl
 | some i=>
  show (ks.map _).eraseIdx i=(ks.eraseIdx i).map _
  exact Lx _ _ _
theorem YG{l:List ByteArray}{s t:ByteArray}:t∈addN l s↔t∈l∨t=s:=by
 unfold addN;split
 ·rename_i h
  rw[z6]at h;exact⟨Or.inl,fun h2=>h2.elim id fun e=>e ▸ h⟩
 ·simp
theorem RR{l:List ByteArray}{s:ByteArray}(h:l.Nodup):(addN l s).Nodup:=by
 unfold addN;split
 ·exact h
 ·rename_i h2
  rw[z6]at h2;rw[List.nodup_append];exact⟨h,by simp,fun a ha b hb=>by
   rw[List.mem_singleton.1 hb];exact fun e=>h2 (e ▸ ha)⟩
theorem Iu:∀ {ns ks:List ByteArray},ks.Nodup→(ns.foldl addN ks).Nodup
 | [],_,h=>h
 | _::ns,_,h=>Iu (ns:=ns) (RR h)
theorem Gn{s:ByteArray}:∀ {ns ks:List ByteArray},s∈ns.foldl addN ks↔s∈ks∨s∈ns
 | [],_=>by simp
 | n::ns,ks=>by
  rw[List.foldl_cons,Gn (ns:=ns),YG,List.mem_cons,or_assoc]
theorem Hz{p:ByteArray→Bool}:∀ {ns ks:List ByteArray},(ns.foldl addN ks).filter p=(ns.filter p).foldl addN (ks.filter p)
 | [],_=>rfl
 | n::ns,ks=>by
  have key:(addN ks n).filter p=if p n=true then addN (ks.filter p) n else ks.filter p:=by
   unfold addN;by_cases h:BF ks n=true
   ·rw[if_pos h];by_cases hp:p n=true
    ·rw[if_pos hp,if_pos];rw[z6]at h ⊢
     exact List.mem_filter.2 ⟨h,hp⟩
    ·rw[if_neg hp]
   ·rw[if_neg h,List.filter_append];by_cases hp:p n=true
    ·rw[if_pos hp,if_neg]
     ·simp[hp]
     ·intro h2;rw[z6]at h h2
      exact h (List.mem_filter.1 h2).1
    ·rw[if_neg hp];simp[hp]
  rw[List.foldl_cons,Hz (ns:=ns),key,List.filter_cons];by_cases hp:p n=true
  ·rw[if_pos hp,if_pos hp,List.foldl_cons]
  ·rw[if_neg hp,if_neg hp]
theorem Uw{q:F7}:((((IL q).foldl addN []).filter fun t=>decide (t≠F1)).filter fun t=>decide (t≠I8))=AC q:=by
 rw[List.filter_filter];unfold AC;have e:(fun t:ByteArray=>decide (t≠I8)&&decide (t≠F1))=bj:=by
  funext t
  unfold bj;rw[Bool.and_comm]
 rw[e,Hz];rfl
section
variable {Γ:C8}{vs vg:Value}{gs:List N0}{q:F7}
theorem QR.glen{N:Nat}(hq:QR Γ vs vg gs q)(hok:z8 N q):gs.length≤1000:=by
 have:=hok.len
 rw[←hq.eq,List.length_map]at this;exact this
theorem QR.goal{N:Nat}(hq:QR Γ vs vg gs q)(hok:z8 N q){x:N0}(hx:x∈gs):PL N x.g:=
 hok.goals _ (by rw[←hq.eq];exact List.mem_map_of_mem (f:=(·.g)) hx)
theorem QR.get(hq:QR Γ vs vg gs q){k:Nat}{x:N0}(hx:gs[k]? = some x):q.Goals[k]? = some x.g:=by
 rw[←hq.eq,List.getElem?_map,hx];rfl
theorem QR.nlen(hq:QR Γ vs vg gs q):q.Goals.length=gs.length:=by
 rw[←hq.eq,List.length_map]
end
theorem IW{Γ:C8}{vs vg:Value}{gs:List N0}{q:F7}{N:Nat}(hq0:QR Γ vs vg gs q)(hok:z8 N q)(hN:N≤9223372036854775807:=by first|decide|assumption):PG Tryz.prog Γ 104 [.agg #[vs,vg]] (.int .i64 (if CO q=true then 0 else 6)):=Cr fun Γ w hle hw=>by
 have hq:=hq0.mono hle
 obtain⟨ga,gn,gc,rfl,hgn,hgnc,hgc⟩:=hq.goals.shape;obtain⟨sa,sn,sc,rfl,hsn,hsnc,hsc⟩:=hq.sel.shape;simp only[List.length_map]at hgn hsn
 have hrG:=hq.goals
 have hgl:=hq.glen hok
 refine A7 Tryz.func104 rfl rfl ?_
 refine A6 ?_;refine H2 ?_;intro b1 w hw;have hw:Wd Γ [.blk b1 (.cells #[.slice sa sn sc,.slice ga gn gc] 25)] w:=hw
 refine A6 ?_;refine B3 (fun μ ρ w=>∃(k:Nat),μ+k=gn∧Has ρ [(1,.pointer (some ⟨b1,0,none⟩)),(6,.slice ga gn gc),(7,.int .i64 gn),(8,.int .i64 k)]∧CO q=(q.Goals.drop k).all Cz∧Wd Γ [.blk b1 (.cells #[.slice sa sn sc,.slice ga gn gc] 25)] w) gn ⟨0,by omega,⟨rfl,rfl,rfl,rfl,trivial⟩,rfl,hw⟩ ?_
 clear hw;rintro μ ρ w ⟨k,hk,hρ,hall,hw⟩
 rw[hρ.eq];clear hρ;refine A6 ?_;refine A0 rfl (fun h=>?_) (fun h=>?_)
 ·have hkn:k<gn:=by have:=of_decide_eq_true h;omega
  clear h;obtain⟨x,hx⟩:=B2 (l:=gs) (k:=k) (by omega)
  have hgoal:=hq.goal hok (List.mem_of_getElem? hx)
  rw[W5 (hq.get hx)]at hall;obtain⟨g,A,N,C⟩:=x;simp only at hall hgoal
  obtain⟨hm1,hm2⟩:=hgoal.low;obtain⟨hm3,hm4⟩:=hgoal.high;refine A6 ?_;refine B9 ?_;intro b4 w hw;refine A6 ?_;refine B0 ?_;intro w hw;have hw:Wd Γ [.blk b4 (.cells (cG ⟨g,A,N,C⟩).toArray 77),.blk b1 (.cells #[.slice sa sn sc,.slice ga gn gc] 25)] w:=hw
  refine A6 ?_;refine A0 rfl (fun h=>?_) (fun h=>?_)
  ·have hk3:g.Kind=3:=of_decide_eq_true h
   clear h;have hn:Cz g=(decide (1≤g.Op)&&decide (g.Op≤6)&&decide (g.Off≠-9223372036854775808)):=by unfold Cz;rw[if_pos hk3]
   refine A6 ?_;refine A0 rfl (fun h=>?_) (fun h=>?_)
   ·have hf:Cz g=false:=by
     rw[hn];simp only[Bool.or_eq_true,decide_eq_true_eq]at h
     simp only[Bool.and_eq_false_iff,decide_eq_false_iff_not]
     rcases h with (h|h)|h
     ·exact .inl (.inl (by omega))
     ·exact .inl (.inr (by omega))
     ·exact .inr (by simpa using h)
    refine A6 ?_;refine⟨_,rfl,Γ,C8.le.refl _,G4 rfl ?_,hw.drop.drop⟩
    rw[hall,hf];rfl
   ·have hf:Cz g=true:=by
     rw[hn];simp only[Bool.or_eq_false_iff,decide_eq_false_iff_not]at h
     simp only[Bool.and_eq_true,decide_eq_true_eq]
     exact⟨⟨by omega,by omega⟩,h.2⟩
    rw[hf,Bool.true_and]at hall;refine A6 ?_;exact⟨μ-1,by omega,k+1,by omega,⟨rfl,rfl,rfl,rfl,trivial⟩,hall,hw.drop⟩
  have hk3:¬g.Kind=3:=of_decide_eq_false h
  clear h;refine A6 ?_;refine A0 rfl (fun h=>?_) (fun h=>?_)
  ·have hk4:g.Kind=4:=of_decide_eq_true h
   clear h;have hn:Cz g=(decide (g.Low≤g.High)&&decide (g.High-g.Low≤1000000)):=by unfold Cz;rw[if_neg hk3,if_pos hk4]
   have hsub:g.Low≤g.High→IntKind.u64.wrap (IntKind.u64.wrap g.High-IntKind.u64.wrap g.Low)=g.High-g.Low:=fun h=>Mh hgoal.high hgoal.low h
   refine A6 ?_;refine A0 rfl (fun h=>?_) (fun h=>?_)
   ·have hf:Cz g=false:=by
     rw[hn];simp only[Bool.or_eq_true,decide_eq_true_eq]at h
     simp only[Bool.and_eq_false_iff,decide_eq_false_iff_not]
     by_cases hl:g.Low≤g.High
     ·refine .inr ?_
      rcases h with h|h
      ·have h:g.High<g.Low:=h
       omega
      ·have h:1000000<IntKind.u64.wrap (IntKind.u64.wrap g.High-IntKind.u64.wrap g.Low):=h
       rw[hsub hl]at h;omega
     ·exact .inl hl
    refine A6 ?_;refine⟨_,rfl,Γ,C8.le.refl _,G4 rfl ?_,hw.drop.drop⟩
    rw[hall,hf];rfl
   ·have hf:Cz g=true:=by
     rw[hn];simp only[Bool.or_eq_false_iff,decide_eq_false_iff_not]at h
     obtain⟨h1,h2⟩:=h;have h1:¬g.High<g.Low:=h1
     have hl:g.Low≤g.High:=by omega
     have h2:¬1000000<IntKind.u64.wrap (IntKind.u64.wrap g.High-IntKind.u64.wrap g.Low):=h2
     rw[hsub hl]at h2;simp only[Bool.and_eq_true,decide_eq_true_eq]
     exact⟨hl,by omega⟩
    rw[hf,Bool.true_and]at hall;refine A6 ?_;exact⟨μ-1,by omega,k+1,by omega,⟨rfl,rfl,rfl,rfl,trivial⟩,hall,hw.drop⟩
  have hk4:¬g.Kind=4:=of_decide_eq_false h
  have hf:Cz g=true:=by unfold Cz;rw[if_neg hk3,if_neg hk4]
  rw[hf,Bool.true_and]at hall;refine A6 ?_;exact⟨μ-1,by omega,k+1,by omega,⟨rfl,rfl,rfl,rfl,trivial⟩,hall,hw.drop⟩
 have hkn:gn≤k:=by have:=of_decide_eq_false h;omega
 rw[G8 _ (by rw[hq.nlen];omega)]at hall
 refine A6 ?_;refine⟨_,rfl,Γ,C8.le.refl _,G4 rfl ?_,hw.drop⟩
 rw[hall];rfl
def Xo(g:H3):Bool:=!H8 g||(decide (1≤g.Args.length)&&decide (g.Args.length≤8))
theorem Iv{Γ:C8}{vs vg:Value}{gs:List N0}{q:F7}{N:Nat}(hq0:QR Γ vs vg gs q)(hok:z8 N q)(hN:N≤9223372036854775807:=by first|decide|assumption):PG Tryz.prog Γ 101 [.agg #[vs,vg]] (.int .i64 (if An q=true then 0 else 15)):=Cr fun Γ w hle hw=>by
 have hq:=hq0.mono hle
 obtain⟨ga,gn,gc,rfl,hgn,hgnc,hgc⟩:=hq.goals.shape;obtain⟨sa,sn,sc,rfl,hsn,hsnc,hsc⟩:=hq.sel.shape;simp only[List.length_map]at hgn hsn
 have hrG:=hq.goals
 have hrS:=hq.sel
 have hgl:=hq.glen hok
 have hsl:=hok.sel
 have hnl:=hq.nlen
 refine A7 Tryz.func101 rfl rfl ?_
 refine A6 ?_;refine H2 ?_;intro b1 w hw;have hw:Wd Γ [.blk b1 (.cells #[.slice sa sn sc,.slice ga gn gc] 25)] w:=hw
 refine A6 ?_;refine A0 rfl (fun h=>?_) (fun h=>?_)
 ·have hf:An q=false:=by
   simp only[Bool.or_eq_true,decide_eq_true_eq]at h
   unfold An;rcases h with (h|h)|h
   ·rw[decide_eq_false (by omega)];rfl
   ·rw[decide_eq_false (p:=q.Goals.length≤16) (by omega),Bool.and_false];rfl
   ·rw[decide_eq_false (p:=q.Sel.length≤8) (by omega),Bool.and_false];rfl
  refine A6 ?_;refine⟨_,rfl,Γ,C8.le.refl _,G4 rfl ?_,hw.drop⟩
  rw[hf];rfl
 have hb:1≤gn∧gn≤16∧sn≤8:=by
  simp only[Bool.or_eq_false_iff,decide_eq_false_iff_not]at h
  obtain⟨⟨h1,h2⟩,h3⟩:=h;omega
 clear h;have hokl:An q=((q.Goals.all Xo)&&decide ((AC q).length≤8)):=by
  unfold An;rw[decide_eq_true (by omega:1≤q.Goals.length),decide_eq_true (by omega:q.Goals.length≤16),decide_eq_true (by omega:q.Sel.length≤8)];rfl
 refine A6 ?_;refine H5 rfl rfl (X8 (K:=9) (α:=ByteArray) (f:=Value.bool) hw fun bm w hw=>?_)
 have hw:Wd Γ [DV bm [],.blk b1 (.cells #[.slice sa sn sc,.slice ga gn gc] 25)] w:=hw
 refine A6 ?_;refine B3 (fun μ ρ w=>∃(k:Nat),μ+k=sn∧Has ρ [(1,.pointer (some ⟨b1,0,none⟩)),(3,.map (some bm)),(28,.slice sa sn sc),(29,.int .i64 sn),(30,.int .i64 k)]∧Wd Γ [DV bm ((q.Sel.take k).foldl addN []),.blk b1 (.cells #[.slice sa sn sc,.slice ga gn gc] 25)] w) sn ⟨0,by omega,⟨rfl,rfl,rfl,rfl,rfl,trivial⟩,hw⟩ ?_
 clear hw;rintro μ ρ w ⟨k,hk,hρ,hw⟩
 rw[hρ.eq];clear hρ;refine A6 ?_;refine A0 rfl (fun h=>?_) (fun h=>?_)
 ·have hkn:k<sn:=by have:=of_decide_eq_true h;omega
  clear h;obtain⟨s,hs⟩:=B2 (l:=q.Sel) (k:=k) (by omega)
  refine A6 ?_;refine H5 rfl rfl (X9 (f:=Value.bool) (v:=true) (i:=0) (l:=((q.Sel.take k).foldl addN []).map fun s=>(s,true)) hw rfl rfl rfl rfl fun w hw=>?_)
  rw[HA]at hw;have hw:Wd Γ [DV bm ((q.Sel.take (k+1)).foldl addN []),.blk b1 (.cells #[.slice sa sn sc,.slice ga gn gc] 25)] w:=by
   rw[List.take_add_one,hs,List.foldl_append];exact hw
  refine A6 ?_;exact⟨μ-1,by omega,k+1,by omega,⟨rfl,rfl,rfl,rfl,rfl,trivial⟩,hw⟩
 have hkn:sn≤k:=by have:=of_decide_eq_false h;omega
 clear h;rw[List.take_of_length_le (by omega)]at hw
 have hw:Wd Γ [DV bm ((q.Sel++(q.Goals.take 0).flatMap fun g=>(J5 g).map (·.Var)).foldl addN []),.blk b1 (.cells #[.slice sa sn sc,.slice ga gn gc] 25)] w:=by
  rw[List.take_zero,List.flatMap_nil,List.append_nil];exact hw
 clear hk hkn;refine A6 ?_;refine B3 (fun μ ρ w=>∃(Γ':C8) (k:Nat),Γ.le Γ'∧μ+k=gn∧Has ρ [(1,.pointer (some ⟨b1,0,none⟩)),(3,.map (some bm)),(38,.slice ga gn gc),(39,.int .i64 gn),(40,.int .i64 k)]∧q.Goals.all Xo=(q.Goals.drop k).all Xo∧Wd Γ' [DV bm ((q.Sel++(q.Goals.take k).flatMap fun g=>(J5 g).map (·.Var)).foldl addN []),.blk b1 (.cells #[.slice sa sn sc,.slice ga gn gc] 25)] w) gn ⟨Γ,0,C8.le.refl _,by omega,⟨rfl,rfl,rfl,rfl,rfl,trivial⟩,rfl,hw⟩ ?_
 clear hw;rintro μ ρ w ⟨Γ1,k,hle1,hk,hρ,hall,hw⟩
 rw[hρ.eq];clear hρ;have hq1:=hq.mono hle1
 have hrG1:=hq1.goals
 refine A6 ?_;refine A0 rfl (fun h=>?_) (fun h=>?_)
 ·have hkn:k<gn:=by have:=of_decide_eq_true h;omega
  clear h;obtain⟨x,hx⟩:=B2 (l:=gs) (k:=k) (by omega)
  have hxm:=List.mem_of_getElem? hx
  have hgoal:=hq.goal hok hxm
  have hgok:=hq1.ok x hxm
  have hgx:=hq.get hx
  rw[W5 hgx]at hall;obtain⟨l1,l2,l3⟩:=hgok.len;obtain⟨g,A,N,C⟩:=x;simp only at hall hgoal l1 l2 l3 hgx
  have hal:=hgoal.len
  refine A6 ?_;refine B9 ?_;intro b7 w hw;refine A6 ?_;refine B0 ?_;intro w hw;have hw:Wd Γ1 [.blk b7 (.cells (cG ⟨g,A,N,C⟩).toArray 77),DV bm ((q.Sel++(q.Goals.take k).flatMap fun g=>(J5 g).map (·.Var)).foldl addN []),.blk b1 (.cells #[.slice sa sn sc,.slice ga gn gc] 25)] w:=hw
  repeat first|refine E6 ?_|refine E7 ?_;intro w hw
  refine A0 rfl (fun h=>?_) (fun h=>?_)
  ·have hf:Xo g=false:=by
    have h:(H8 g&&(decide ((N:Int)<1)||decide (8<(N:Int))))=true:=h
    rw[Bool.and_eq_true,Bool.or_eq_true,decide_eq_true_eq,decide_eq_true_eq]at h;show (!H8 g||_)=false
    rw[h.1];simp only[Bool.not_true,Bool.false_or,Bool.and_eq_false_iff,decide_eq_false_iff_not]
    rcases h.2 with h2|h2
    ·exact .inl (by omega)
    ·exact .inr (by omega)
   refine A6 ?_;refine⟨_,rfl,Γ1,hle1,G4 rfl ?_,V5 hw⟩
   rw[hokl,hall,hf];rfl
  have hf:Xo g=true:=by
   have h:(H8 g&&(decide ((N:Int)<1)||decide (8<(N:Int))))=false:=h
   show (!H8 g||_)=true
   cases hi:H8 g with
   | false=>rfl
   | true=>
    rw[hi,Bool.true_and,Bool.or_eq_false_iff,decide_eq_false_iff_not,decide_eq_false_iff_not]at h;rw[decide_eq_true (by omega),decide_eq_true (by omega)];rfl
  clear h;rw[hf,Bool.true_and]at hall;refine A6 ?_;refine C9 (vs:=[.agg (cG ⟨g,A,N,C⟩).toArray]) ((j9 hgok hw).mono fun e w hq2=>?_)
  clear hw;obtain⟨Γ2,v,hle2,rfl,hrv,hw⟩:=hq2;obtain⟨oa,on,oc,rfl,hon,honc,hoc⟩:=hrv.shape;simp only[List.length_map]at hon
  have hol:=CH hgoal hN
  refine⟨_,rfl,?_⟩;refine A6 ?_;refine B3 (fun μ ρ w=>∃(j:Nat),μ+j=on∧Has ρ [(1,.pointer (some ⟨b1,0,none⟩)),(3,.map (some bm)),(38,.slice ga gn gc),(39,.int .i64 gn),(40,.int .i64 k),(59,.slice oa on oc),(60,.int .i64 on),(61,.int .i64 j)]∧Wd Γ2 [.blk b7 (.cells (cG ⟨g,A,N,C⟩).toArray 77),DV bm (((q.Sel++(q.Goals.take k).flatMap fun g=>(J5 g).map (·.Var))++((J5 g).take j).map (·.Var)).foldl addN []),.blk b1 (.cells #[.slice sa sn sc,.slice ga gn gc] 25)] w) on ⟨0,by omega,⟨rfl,rfl,rfl,rfl,rfl,rfl,rfl,rfl,trivial⟩,by rw[List.take_zero,List.map_nil,List.append_nil];exact hw⟩ ?_
  clear hw;rintro μ2 ρ w ⟨j,hj,hρ,hw⟩
  rw[hρ.eq];clear hρ;refine A6 ?_;refine A0 rfl (fun h=>?_) (fun h=>?_)
  ·have hjn:j<on:=by have:=of_decide_eq_true h;omega
   clear h;obtain⟨o,ho⟩:=B2 (l:=J5 g) (k:=j) (by omega)
   refine A6 ?_;refine B9 ?_;intro b9 w hw;refine B0 ?_;intro w hw;have hw:Wd Γ2 [.blk b9 (.cells (enc o).toArray 75),.blk b7 (.cells (cG ⟨g,A,N,C⟩).toArray 77),DV bm (((q.Sel++(q.Goals.take k).flatMap fun g=>(J5 g).map (·.Var))++((J5 g).take j).map (·.Var)).foldl addN []),.blk b1 (.cells #[.slice sa sn sc,.slice ga gn gc] 25)] w:=hw
   refine A6 ?_;refine H5 rfl rfl (X9 (f:=Value.bool) (v:=true) (i:=2) (l:=(((q.Sel++(q.Goals.take k).flatMap fun g=>(J5 g).map (·.Var))++((J5 g).take j).map (·.Var)).foldl addN []).map fun s=>(s,true)) hw rfl rfl rfl rfl fun w hw=>?_)
   rw[HA]at hw;have hw:Wd Γ2 [.blk b9 (.cells (enc o).toArray 75),.blk b7 (.cells (cG ⟨g,A,N,C⟩).toArray 77),DV bm (((q.Sel++(q.Goals.take k).flatMap fun g=>(J5 g).map (·.Var))++((J5 g).take (j+1)).map (·.Var)).foldl addN []),.blk b1 (.cells #[.slice sa sn sc,.slice ga gn gc] 25)] w:=by
    rw[List.take_add_one,ho,List.map_append,←List.append_assoc,List.foldl_append (l:=((q.Sel++(q.Goals.take k).flatMap fun g=>(J5 g).map (·.Var))++((J5 g).take j).map (·.Var)))];exact hw
   refine A6 ?_;exact⟨on-j-1,by omega,j+1,by omega,⟨rfl,rfl,rfl,rfl,rfl,rfl,rfl,rfl,trivial⟩,hw.drop⟩
  have hjn:on≤j:=by have:=of_decide_eq_false h;omega
  clear h;have ho2:(J5 g).take j=J5 g:=List.take_of_length_le (by omega)
  rw[ho2]at hw;have hw:Wd Γ2 [.blk b7 (.cells (cG ⟨g,A,N,C⟩).toArray 77),DV bm ((q.Sel++(q.Goals.take (k+1)).flatMap fun g=>(J5 g).map (·.Var)).foldl addN []),.blk b1 (.cells #[.slice sa sn sc,.slice ga gn gc] 25)] w:=by
   rw[Fz (F:=fun g=>(J5 g).map (·.Var)) hgx,←List.append_assoc];exact hw
  refine A6 ?_;exact⟨gn-k-1,by omega,Γ2,k+1,hle1.trans hle2,by omega,⟨rfl,rfl,rfl,rfl,rfl,trivial⟩,hall,hw.drop⟩
 have hkn:gn≤k:=by have:=of_decide_eq_false h;omega
 clear h;rw[G8 _ (by rw[hnl];omega)]at hall
 rw[List.take_of_length_le (by omega)]at hw
 have hw:Wd Γ1 [DV bm ((IL q).foldl addN []),.blk b1 (.cells #[.slice sa sn sc,.slice ga gn gc] 25)] w:=hw
 have hnd:((IL q).foldl addN []).Nodup:=Iu List.nodup_nil
 refine A6 ?_;refine H5 rfl rfl (SL (f:=Value.bool) (i:=0) (l:=((IL q).foldl addN []).map fun s=>(s,true)) (a:=F1) hw rfl rfl rfl fun w hw=>?_)
 rw[WA hnd]at hw;have hw:Wd Γ1 [DV bm (((IL q).foldl addN []).filter fun t=>decide (t≠F1)),.blk b1 (.cells #[.slice sa sn sc,.slice ga gn gc] 25)] w:=hw
 refine A6 ?_;refine H5 rfl rfl (SL (f:=Value.bool) (i:=0) (l:=(((IL q).foldl addN []).filter fun t=>decide (t≠F1)).map fun s=>(s,true)) (a:=I8) hw rfl rfl rfl fun w hw=>?_)
 rw[WA (hnd.filter _),Uw]at hw;have hw:Wd Γ1 [DV bm (AC q),.blk b1 (.cells #[.slice sa sn sc,.slice ga gn gc] 25)] w:=hw
 refine A6 ?_;refine A0 rfl (fun h=>?_) (fun h=>?_)
 ·have h:=of_decide_eq_true h
  rw[List.length_map]at h;refine A6 ?_;refine⟨_,rfl,Γ1,hle1,G4 rfl ?_,V5 hw⟩
  rw[hokl,decide_eq_false (by omega),Bool.and_false];rfl
 ·have h:=of_decide_eq_false h
  rw[List.length_map]at h;refine A6 ?_;refine⟨_,rfl,Γ1,hle1,G4 rfl ?_,V5 hw⟩
  rw[hokl,hall,decide_eq_true (by omega)];rfl
end Go.Proofs.YtlmiakjbogojgaaGreatDoor
end
section
open Go Mk
namespace Go.Proofs.YtlmiakjbogojgaaGreatDoor
set_option maxHeartbeats 16000000
attribute [local irreducible] Calls cI cB
def fN(g:H3):Bool:=O7 g&&(J5 g).all plainO
theorem Km{Γ:C8}{vs vg:Value}{gs:List N0}{q:F7}{N:Nat}(hq0:QR Γ vs vg gs q)(hok:z8 N q)(hN:N≤9223372036854775807:=by first|decide|assumption):PG Tryz.prog Γ 102 [.agg #[vs,vg]] (.int .i64 (if x5 q=true then 0 else 50)):=Cr fun Γ w hle hw=>by
 have hq:=hq0.mono hle
 obtain⟨ga,gn,gc,rfl,hgn,hgnc,hgc⟩:=hq.goals.shape;obtain⟨sa,sn,sc,rfl,hsn,hsnc,hsc⟩:=hq.sel.shape;simp only[List.length_map]at hgn hsn
 have hgl:=hq.glen hok
 have hnl:=hq.nlen
 have hall0:x5 q=q.Goals.all fN:=rfl
 refine A7 Tryz.func102 rfl rfl ?_
 refine A6 ?_;refine H2 ?_;intro b1 w hw;have hw:Wd Γ [.blk b1 (.cells #[.slice sa sn sc,.slice ga gn gc] 25)] w:=hw
 refine A6 ?_;refine B9 ?_;intro b3 w hw;refine B0 ?_;intro w hw;have hw:Wd Γ [.blk b3 (.cells (enc Ay).toArray 75),.blk b1 (.cells #[.slice sa sn sc,.slice ga gn gc] 25)] w:=hw
 refine A6 ?_;refine B3 (fun μ ρ w=>∃(Γ':C8) (k:Nat),Γ.le Γ'∧μ+k=gn∧Has ρ [(1,.pointer (some ⟨b1,0,none⟩)),(3,.pointer (some ⟨b3,0,none⟩)),(11,.slice ga gn gc),(12,.int .i64 gn),(13,.int .i64 k)]∧x5 q=(q.Goals.drop k).all fN∧Wd Γ' [.blk b3 (.cells (enc Ay).toArray 75),.blk b1 (.cells #[.slice sa sn sc,.slice ga gn gc] 25)] w) gn ⟨Γ,0,C8.le.refl _,by omega,⟨rfl,rfl,rfl,rfl,rfl,trivial⟩,hall0,hw⟩ ?_
 clear hw;rintro μ ρ w ⟨Γ1,k,hle1,hk,hρ,hall,hw⟩
 rw[hρ.eq];clear hρ;have hq1:=hq.mono hle1
 have hrG1:=hq1.goals
 refine A6 ?_;refine A0 rfl (fun h=>?_) (fun h=>?_)
 ·have hkn:k<gn:=by have:=of_decide_eq_true h;omega
  clear h;obtain⟨x,hx⟩:=B2 (l:=gs) (k:=k) (by omega)
  have hxm:=List.mem_of_getElem? hx
  have hgoal:=hq.goal hok hxm
  have hgok:=hq1.ok x hxm
  have hgx:=hq.get hx
  rw[W5 hgx]at hall;obtain⟨l1,l2,l3⟩:=hgok.len;obtain⟨g,A,N,C⟩:=x;simp only at hall hgoal l1 l2 l3 hgx
  have hal:=hgoal.len
  refine A6 ?_;refine B9 ?_;intro b5 w hw;refine A6 ?_;refine B0 ?_;intro w hw;have hw:Wd Γ1 [.blk b5 (.cells (cG ⟨g,A,N,C⟩).toArray 77),.blk b3 (.cells (enc Ay).toArray 75),.blk b1 (.cells #[.slice sa sn sc,.slice ga gn gc] 25)] w:=hw
  first|refine E6 ?_|(refine E7 ?_;intro w hw)
  first|refine E6 ?_|(refine E7 ?_;intro w hw)
  first|refine E6 ?_|(refine E7 ?_;intro w hw)
  first|refine E6 ?_|(refine E7 ?_;intro w hw)
  first|refine E6 ?_|(refine E7 ?_;intro w hw)
  refine BK (fun ρ w=>Has ρ [(1,.pointer (some ⟨b1,0,none⟩)),(3,.pointer (some ⟨b3,0,none⟩)),(5,.pointer (some ⟨b5,0,none⟩)),(6,.bool (O7 g)),(11,.slice ga gn gc),(12,.int .i64 gn),(13,.int .i64 k)]∧Wd Γ1 [.blk b5 (.cells (cG ⟨g,A,N,C⟩).toArray 77),.blk b3 (.cells (enc Ay).toArray 75),.blk b1 (.cells #[.slice sa sn sc,.slice ga gn gc] 25)] w) ?_ ?_
  ·have k12:∀h12:g.Kind=1∨g.Kind=2,O7 g=(decide (g.Op=0)&&decide (g.L=Ay)&&decide (g.R=Ay)&&decide (g.Off=0)&&decide (g.Low=0)&&decide (g.High=0)):=fun h12=>by unfold O7;rw[if_pos h12]
   refine A6 ?_;refine A0 rfl (fun h=>?_) (fun h=>?_)
   ·have hk1:g.Kind=1:=of_decide_eq_true h
    refine A6 ?_;refine O0 (congrArg Value.bool h) ?_
    refine A6 ?_;refine lG ?_ (hv:=fun hc=>by exact Fl (a:=g.L) (b:=Ay) B4 B4 rfl)
    refine A6 ?_;refine lG ?_ (hv:=fun hc=>by exact Fl (a:=g.R) (b:=Ay) B4 B4 rfl)
    refine A6 ?_;refine⟨⟨rfl,rfl,rfl,?_,rfl,rfl,rfl,trivial⟩,hw⟩
    rw[k12 (.inl hk1)];rfl
   have hk1:¬g.Kind=1:=of_decide_eq_false h
   clear h;refine A6 ?_;refine A0 rfl (fun h=>?_) (fun h=>?_)
   ·have hk2:g.Kind=2:=of_decide_eq_true h
    refine A6 ?_;refine lG ?_ (hv:=fun hc=>by exact Fl (a:=g.L) (b:=Ay) B4 B4 rfl)
    refine A6 ?_;refine lG ?_ (hv:=fun hc=>by exact Fl (a:=g.R) (b:=Ay) B4 B4 rfl)
    refine A6 ?_;refine⟨⟨rfl,rfl,rfl,?_,rfl,rfl,rfl,trivial⟩,hw⟩
    rw[k12 (.inr hk2)];rfl
   have hk2:¬g.Kind=2:=of_decide_eq_false h
   clear h;refine A6 ?_;refine A0 rfl (fun h=>?_) (fun h=>?_)
   ·have hk3:g.Kind=3:=of_decide_eq_true h
    refine A6 ?_;refine⟨⟨rfl,rfl,rfl,?_,rfl,rfl,rfl,trivial⟩,hw⟩
    unfold O7;rw[if_neg (fun e=>e.elim hk1 hk2),if_pos hk3];have e:decide ((N:Int)=0)=decide (g.Args.length=0):=decide_eq_decide.2 (by omega)
    show Value.bool (decide (g.Rel=F1)&&decide ((N:Int)=0)&&decide (g.Low=0)&&decide (g.High=0))=_
    rw[e]
   have hk3:¬g.Kind=3:=of_decide_eq_false h
   clear h;refine A6 ?_;refine A0 rfl (fun h=>?_) (fun h=>?_)
   ·have hk4:g.Kind=4:=of_decide_eq_true h
    refine A6 ?_;refine lG ?_ (hv:=fun hc=>by exact Fl (a:=g.R) (b:=Ay) B4 B4 rfl)
    refine A6 ?_;refine⟨⟨rfl,rfl,rfl,?_,rfl,rfl,rfl,trivial⟩,hw⟩
    unfold O7;rw[if_neg (fun e=>e.elim hk1 hk2),if_neg hk3,if_pos hk4];have e:decide ((N:Int)=0)=decide (g.Args.length=0):=decide_eq_decide.2 (by omega)
    show Value.bool (decide (g.Rel=F1)&&decide ((N:Int)=0)&&decide (g.Op=0)&&decide (g.R=Ay)&&decide (g.Off=0)&&decide (g.L.Var≠F1))=_
    rw[e]
   have hk4:¬g.Kind=4:=of_decide_eq_false h
   refine A6 ?_;refine⟨⟨rfl,rfl,rfl,?_,rfl,rfl,rfl,trivial⟩,hw⟩
   unfold O7;rw[if_neg (fun e=>e.elim hk1 hk2),if_neg hk3,if_neg hk4];rfl
  clear hw;rintro ρ w ⟨hρ,hw⟩
  rw[hρ.eq];clear hρ;refine A6 ?_;refine C9 (vs:=[.agg (cG ⟨g,A,N,C⟩).toArray]) ((j9 hgok hw).mono fun e w hq2=>?_)
  clear hw;obtain⟨Γ2,v,hle2,rfl,hrv,hw⟩:=hq2;obtain⟨oa,on,oc,rfl,hon,honc,hoc⟩:=hrv.shape;simp only[List.length_map]at hon
  have hol:=CH hgoal hN
  refine⟨_,rfl,?_⟩;refine A6 ?_;refine B3 (fun μ ρ w=>∃(j:Nat) (t:Bool),μ+j=on∧Has ρ [(1,.pointer (some ⟨b1,0,none⟩)),(3,.pointer (some ⟨b3,0,none⟩)),(6,.bool t),(11,.slice ga gn gc),(12,.int .i64 gn),(13,.int .i64 k),(107,.slice oa on oc),(108,.int .i64 on),(109,.int .i64 j)]∧fN g=(t&&((J5 g).drop j).all plainO)∧Wd Γ2 [.blk b5 (.cells (cG ⟨g,A,N,C⟩).toArray 77),.blk b3 (.cells (enc Ay).toArray 75),.blk b1 (.cells #[.slice sa sn sc,.slice ga gn gc] 25)] w) on ⟨0,O7 g,by omega,⟨rfl,rfl,rfl,rfl,rfl,rfl,rfl,rfl,rfl,trivial⟩,rfl,hw⟩ ?_
  clear hw;rintro μ2 ρ w ⟨j,t,hj,hρ,hsh,hw⟩
  rw[hρ.eq];clear hρ;refine A6 ?_;refine A0 rfl (fun h=>?_) (fun h=>?_)
  ·have hjn:j<on:=by have:=of_decide_eq_true h;omega
   clear h;obtain⟨o,ho⟩:=B2 (l:=J5 g) (k:=j) (by omega)
   rw[W5 ho,←Bool.and_assoc]at hsh;refine A6 ?_;refine B9 ?_;intro b9 w hw;refine B0 ?_;intro w hw;have hw:Wd Γ2 (.blk b9 (.cells (enc o).toArray 75)::[.blk b5 (.cells (cG ⟨g,A,N,C⟩).toArray 77),.blk b3 (.cells (enc Ay).toArray 75),.blk b1 (.cells #[.slice sa sn sc,.slice ga gn gc] 25)]) w:=hw
   refine A6 ?_;refine lG ?_ (hv:=fun hc=>by exact Fl (a:=o.Const) (b:=P5) B4 B4 rfl)
   refine A6 ?_;exact⟨on-j-1,by omega,j+1,(t&&plainO o),by omega,⟨rfl,rfl,rfl,rfl,rfl,rfl,rfl,rfl,rfl,trivial⟩,hsh,hw.drop⟩
  have hjn:on≤j:=by have:=of_decide_eq_false h;omega
  clear h;rw[G8 (J5 g) (by omega),List.all_nil,Bool.and_true]at hsh
  subst hsh;refine A6 ?_;refine A0 rfl (fun h=>?_) (fun h=>?_)
  ·have hf:fN g=false:=by simpa using h
   refine A6 ?_;refine⟨_,rfl,Γ2,hle1.trans hle2,G4 rfl ?_,V5 hw⟩
   rw[hall,hf];rfl
  ·have hf:fN g=true:=by simpa using h
   rw[hf,Bool.true_and]at hall;refine A6 ?_;exact⟨gn-k-1,by omega,Γ2,k+1,hle1.trans hle2,by omega,⟨rfl,rfl,rfl,rfl,rfl,trivial⟩,hall,hw.drop⟩
 have hkn:gn≤k:=by have:=of_decide_eq_false h;omega
 rw[G8 _ (by rw[hnl];omega)]at hall
 refine A6 ?_;refine⟨_,rfl,Γ1,hle1,G4 rfl ?_,V5 hw⟩
 rw[hall];rfl
end Go.Proofs.YtlmiakjbogojgaaGreatDoor
end
