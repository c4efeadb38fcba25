/- Texts of this proof, one behind another. -/
import Derived.Test.YtlimglpjpcfpdaaGreatM2
import Derived.Lib.Bytealg
import Derived.Test.YtlimglpjpcfpdaaGreatRows
import Derived.ProofKit
import Derived.OpenShut
import Derived.Deep.Slices
import Derived.ReadAgain
import Derived.Laws.MakeOwn
set_option linter.unusedVariables false
set_option linter.unusedSimpArgs false
section
open Go Mk
namespace Go.Proofs.YtlimglpjpcfpdaaGreat
set_option maxHeartbeats 400000
attribute [local irreducible] Calls FT I6
theorem bh{b:UInt8}(h:M9 b=true):((b.toNat:Nat):Int)≠10:=by
 intro e;unfold M9 H4 N9 at h;rw[e]at h;revert h;decide
theorem Yt{c:Int}(h:BX c=true):c≠10:=by
 intro e;rw[e]at h;revert h;decide
theorem By{p:UInt8→Bool}:∀ {l:List UInt8} {i:Nat},i<(l.takeWhile p).length→p (l.getD i 0)=true
 | [],i,h=>by simp at h
 | x::l,i,h=>by
  by_cases hx:p x=true
  ·rw[List.takeWhile_cons,if_pos hx]at h;cases i with
   | zero=>simpa using hx
   | succ i=>exact By (l:=l) (i:=i) (by simpa using h)
  ·rw[List.takeWhile_cons,if_neg hx]at h;simp at h
theorem Yb{s:ByteArray}(h0:0<s.size)(he:(O9 s).err=0):1≤(O9 s).n∧(O9 s).n≤s.size∧∀i,i<(O9 s).n→B3 s i≠10:=by
 have hrl:=Tb s
 have hrun:∀i,i<runN s→B3 s i≠10:=fun i hi=>bh (By (p:=M9) hi)
 unfold O9 at he ⊢
 by_cases h1:H4 (B3 s 0)=true
 ·rw[if_pos h1];exact⟨Jc h0 (by unfold M9;rw[show H4 ((s.data.toList.getD 0 0).toNat:Int)=true from h1];rfl),hrl,hrun⟩
 rw[if_neg h1]at he ⊢
 by_cases h2:N9 (B3 s 0)=true
 ·rw[if_pos h2]at he ⊢
  by_cases h3:(FT (G5 s 0 (runN s))).2=0
  ·rw[if_pos h3];exact⟨Jc h0 (by unfold M9;rw[show N9 ((s.data.toList.getD 0 0).toNat:Int)=true from h2];simp),hrl,hrun⟩
  ·rw[if_neg h3]at he;exact absurd he h3
 rw[if_neg h2]at he ⊢
 by_cases h3:B3 s 0=34
 ·rw[if_pos h3]at he ⊢
  by_cases h4:BE s<s.size∧B3 s (BE s)=34
  ·rw[if_pos h4];refine⟨by show 1≤BE s+1;omega,by show BE s+1≤s.size;omega,fun i hi=>?_⟩
   have hi:i<BE s+1:=hi
   by_cases e0:i=0
   ·subst e0;rw[h3];decide
   ·by_cases e1:i=BE s
    ·subst e1;rw[h4.2];decide
    ·have hi2:i-1<(((M8 s).drop 1).takeWhile AI).length:=by unfold BE at hi e1;omega
     have:=By (p:=AI) hi2
     rw[List.getD_eq_getElem?_getD,List.getElem?_drop,show 1+(i-1)=i from by omega,←List.getD_eq_getElem?_getD]at this
     exact Yt this
  ·rw[if_neg h4]at he;exact absurd he (by decide)
 rw[if_neg h3]at he ⊢
 by_cases h4:I6 s=0
 ·rw[if_pos h4]at he;exact absurd he (by decide)
 rw[if_neg h4];refine⟨by show 1≤I6 s;omega,Le s,fun i hi=>?_⟩
 have hi:i<I6 s:=hi
 unfold I6 at hi;by_cases h5:2≤s.size∧Cg (B3 s 0) (B3 s 1)=true
 ·rw[if_pos h5]at hi;have h6:=h5.2
  intro e;rcases (by omega:i=0∨i=1) with rfl|rfl <;> (rw[e]at h6;unfold Cg at h6;simp at h6)
 ·rw[if_neg h5]at hi;split at hi
  ·rename_i h6
   have hi0:i=0:=by omega
   subst hi0;intro e;have:s.data.toList.getD 0 0=10:=by
    apply UInt8.toNat_inj.1
    have e':((s.data.toList.getD 0 0).toNat:Int)=10:=e
    show _=10
    omega
   rw[this]at h6;exact absurd h6.2 (by decide)
  ·omega
theorem Af{s:ByteArray}{off:Nat}:∀(n:Nat),(∀i,i<n→B3 s (off+i)≠10)→D7 s (off+n)=⟨(D7 s off).Line,(D7 s off).Col+n⟩
 | 0,_=>by simp
 | n+1,h=>by
  have ih:=Af n (fun i hi=>h i (by omega))
  rw[show off+(n+1)=(off+n)+1 from by omega]
  rw[show D7 s (off+n+1)=if B3 s (off+n)=10 then ⟨(D7 s (off+n)).Line+1,1⟩ else ⟨(D7 s (off+n)).Line,(D7 s (off+n)).Col+1⟩ from rfl,if_neg (h n (by omega)),ih]
  simp;omega
theorem JV{s:ByteArray}{k:Nat}(h:B3 s k=10):D7 s (k+1)=⟨(D7 s k).Line+1,1⟩:=by
 rw[show D7 s (k+1)=if B3 s k=10 then ⟨(D7 s k).Line+1,1⟩ else ⟨(D7 s k).Line,(D7 s k).Col+1⟩ from rfl,if_pos h]
theorem Ze{s:ByteArray}{off k:Nat}(h1:off≤k)(hk:k≤s.size)(ha:∀i,off≤i→i<k→B3 s i≠10)(hn:k<s.size→B3 s k=10):FZ s off=k:=by
 have hl:=P8 s
 have hg:∀i,((M8 s).drop off).getD i 0=(M8 s).getD (off+i) 0:=fun i=>by
  rw[List.getD_eq_getElem?_getD,List.getD_eq_getElem?_getD,List.getElem?_drop]
 unfold FZ;rw[x6 (k:=k-off) (by simp[hl];omega) (fun i hi=>by rw[hg];exact decide_eq_true (ha (off+i) (by omega) (by omega))) (fun hh=>by
  rw[hg,show off+(k-off)=k from by omega]
  have:=hn (by simp[hl]at hh;omega)
  exact decide_eq_false (fun q=>q this))]
 omega
end Go.Proofs.YtlimglpjpcfpdaaGreat
end
section
open Go Mk
namespace Go.Proofs.YtlimglpjpcfpdaaGreat
set_option maxHeartbeats 4000000
attribute [local irreducible] Calls FT I6 O9 D7 FZ
theorem Zh(Γ:C8)(S:List B2)(w:World)(s:ByteArray)(hs:s.size≤4611686018427387904)(hw:Wd Γ S w) :
  Calls Tryz.prog 38 #[.string s] w fun e w'=>∃v,e=.returned (.tuple #[v,.agg (enc (I8 s).2.1).toArray,.int .i64 (I8 s).2.2])∧Wd Γ (.own v 178 5 ((I8 s).1.map enc)::S) w':=by
 refine K9 Tryz.func38 rfl rfl ?_
 refine A6 ?_;refine C0 ?_;intro bp w hw;have hw:Wd Γ (.blk bp (.cells (enc (⟨0,0⟩:F2)).toArray 44)::S) w:=hw
 refine A6 ?_;refine OT ?_
 refine A6 ?_;refine A7 rfl (fun h=>?_) (fun h=>?_)
 ·have h:65536<s.size:=by simp at h;omega
  have hS:I8 s=([],⟨0,0⟩,15):=by unfold I8;rw[if_pos h]
  rw[hS];refine A6 ?_;refine B1 ?_;intro w hw;have hw:Wd Γ (.blk bp (.cells (enc (⟨0,0⟩:F2)).toArray 44)::S) w:=hw
  refine A6 ?_;exact⟨[.slice none 0 0,.agg (enc (⟨0,0⟩:F2)).toArray,.int .i64 15],⟨rfl,T4 (i:=0) hw rfl rfl rfl,rfl,trivial⟩,_,rfl,Wd.addNil hw.drop⟩
 have h:¬65536<s.size:=by simp at h;omega
 have hS:I8 s=X9 s (s.size+1) 0 []:=by unfold I8;rw[if_neg h]
 rw[hS];refine A6 ?_;refine Te ?_
 refine A6 ?_;refine B5 (fun μ ρ w=>∃(off start:Nat) (g:Value) (toks:List Tok),off≤s.size∧s.size<μ+off∧start≤off∧(D7 s off).Col=(off:Int)-start+1∧(D7 s off).Line≤1+off∧toks.length≤off∧Has ρ [(0,.string s),(3,.pointer (some ⟨bp,0,none⟩)),(5,g),(6,.int .i64 (D7 s off).Line),(7,.int .i64 start),(8,.int .i64 off)]∧X9 s (s.size+1) 0 []=X9 s μ off toks∧0≤(D7 s off).Line∧Wd Γ (.own g 178 5 (toks.map enc)::.blk bp (.cells (enc (⟨0,0⟩:F2)).toArray 44)::S) w) (s.size+1) ?_ ?_
 ·have p0:D7 s 0=⟨1,1⟩:=by unfold D7;rfl
  refine⟨0,0,.slice none 0 0,[],by omega,by omega,by omega,?_,?_,by simp,⟨rfl,rfl,rfl,?_,rfl,rfl,trivial⟩,rfl,?_,Wd.addNil hw⟩
  ·rw[p0];rfl
  ·rw[p0];decide
  ·rw[p0];rfl
  ·rw[p0];decide
 clear hw;rintro μ ρ w ⟨off,start,g,toks,ho,hμ,hst,hcol,hlin,htl,hρ,hN,hl0,hw⟩
 rw[hρ.eq];obtain⟨f,rfl⟩:∃f,μ=f+1:=⟨μ-1,by omega⟩
 rw[hN];clear hS;refine A6 ?_;refine A7 rfl (fun h1=>?_) (fun h1=>?_)
 ·have h1:off<s.size:=by simpa using h1
  have hsp:BJ (B3 s off)=true→X9 s (f+1) off toks=X9 s f (off+1) toks:=fun q=>by
   show (if s.size≤off then _ else _)=_
   rw[if_neg (by omega),if_pos q]
  have hp1:B3 s off≠10→D7 s (off+1)=⟨(D7 s off).Line,(D7 s off).Col+1⟩:=fun q=>by
   have:=Af (s:=s) (off:=off) 1 (fun i hi=>by rw[show off+i=off from by omega];exact q)
   simpa using this
  have hp2:B3 s off=10→D7 s (off+1)=⟨(D7 s off).Line+1,1⟩:=JV
  refine A6 ?_;refine A7 rfl (fun e1=>?_) (fun e1=>?_)
  ·have e1:B3 s off=10:=of_decide_eq_true e1
   have hq:=hp2 e1
   refine A6 ?_;refine⟨f,by omega,off+1,off+1,g,toks,by omega,by omega,by omega,by rw[hq];show (1:Int)=_;omega,by rw[hq];show (D7 s off).Line+1≤_;omega,by omega,⟨rfl,rfl,rfl,by rw[hq];rfl,rfl,rfl,trivial⟩,by rw[hsp (by rw[e1];rfl)],by rw[hq];show 0≤(D7 s off).Line+1;omega,hw⟩
  have e1:B3 s off≠10:=of_decide_eq_false e1
  have hq:=hp1 e1
  refine A6 ?_;refine A7 rfl (fun e2=>?_) (fun e2=>?_)
  ·refine A6 ?_;refine M7 (by simp only[e2];rfl) ?_
   have e2:B3 s off=32:=of_decide_eq_true e2
   refine A6 ?_;exact⟨f,by omega,off+1,start,g,toks,by omega,by omega,by omega,by rw[hq];show (D7 s off).Col+1=_;omega,by rw[hq];show (D7 s off).Line≤_;omega,by omega,⟨rfl,rfl,rfl,by rw[hq];rfl,rfl,rfl,trivial⟩,by rw[hsp (by rw[e2];rfl)],by rw[hq];exact hl0,hw⟩
  refine A6 ?_;refine A7 rfl (fun e3=>?_) (fun e3=>?_)
  ·refine A6 ?_;refine M7 (by simp only[e3];rfl) ?_
   have e3:B3 s off=9:=of_decide_eq_true e3
   refine A6 ?_;exact⟨f,by omega,off+1,start,g,toks,by omega,by omega,by omega,by rw[hq];show (D7 s off).Col+1=_;omega,by rw[hq];show (D7 s off).Line≤_;omega,by omega,⟨rfl,rfl,rfl,by rw[hq];rfl,rfl,rfl,trivial⟩,by rw[hsp (by rw[e3];rfl)],by rw[hq];exact hl0,hw⟩
  refine A6 ?_;refine A7 rfl (fun e4=>?_) (fun e4=>?_)
  ·have e4:B3 s off=13:=of_decide_eq_true e4
   refine A6 ?_;exact⟨f,by omega,off+1,start,g,toks,by omega,by omega,by omega,by rw[hq];show (D7 s off).Col+1=_;omega,by rw[hq];show (D7 s off).Line≤_;omega,by omega,⟨rfl,rfl,rfl,by rw[hq];rfl,rfl,rfl,trivial⟩,by rw[hsp (by rw[e4];rfl)],by rw[hq];exact hl0,hw⟩
  have e2:B3 s off≠32:=of_decide_eq_false e2
  have e3:B3 s off≠9:=of_decide_eq_false e3
  have e4:B3 s off≠13:=of_decide_eq_false e4
  have hns:¬BJ (B3 s off)=true:=by simp[BJ,e1,e2,e3,e4]
  refine A6 ?_;refine A7 rfl (fun e5=>?_) (fun e5=>?_)
  ·have e5:B3 s off=35:=of_decide_eq_true e5
   have hsk:X9 s (f+1) off toks=X9 s f (FZ s off) toks:=by
    show (if s.size≤off then _ else _)=_
    rw[if_neg (by omega),if_neg hns,if_pos e5]
   refine A6 ?_;refine B5 (fun μ ρ w=>∃k:Nat,μ+k=s.size∧off≤k∧Has ρ [(0,.string s),(3,.pointer (some ⟨bp,0,none⟩)),(5,g),(6,.int .i64 (D7 s off).Line),(7,.int .i64 start),(8,.int .i64 k)]∧(∀i,off≤i→i<k→B3 s i≠10)∧Wd Γ (.own g 178 5 (toks.map enc)::.blk bp (.cells (enc (⟨0,0⟩:F2)).toArray 44)::S) w) (s.size-off) ⟨off,by omega,by omega,⟨rfl,rfl,rfl,rfl,rfl,rfl,trivial⟩,fun i h1 h2=>by omega,hw⟩ ?_
   clear hw hρ;rintro μ2 ρ w ⟨k,hk,hk1,hρ,hall,hw⟩
   rw[hρ.eq];refine A6 ?_;refine A7 rfl (fun h4=>?_) (fun h4=>?_)
   ·have h4:k<s.size∧B3 s k≠10:=by
     rw[Bool.and_eq_true,decide_eq_true_eq]at h4;exact⟨by omega,of_decide_eq_true h4.2⟩
    have hkl:=h4.1
    refine A6 ?_;refine⟨μ2-1,by omega,k+1,by omega,by omega,⟨rfl,rfl,rfl,rfl,rfl,rfl,trivial⟩,fun i h1 h2=>?_,hw⟩
    by_cases e:i=k
    ·subst e;exact h4.2
    ·exact hall i h1 (by omega)
   ·have hend:k<s.size→B3 s k=10:=fun hlt=>by
     have q1:decide ((k:Int)<s.size)=true:=by simp;omega
     rw[q1,Bool.true_and]at h4;have:=of_decide_eq_false h4
     exact Classical.not_not.1 this
    have hkk:off<k:=by
     rcases Nat.lt_or_ge off k with q|q
     ·exact q
     ·have:k=off:=by omega
      subst this;have:=hend h1
      exact absurd this e1
    have hks:FZ s off=k:=Ze hk1 (by omega) hall hend
    have hpk:=Af (s:=s) (off:=off) (k-off) (fun i hi=>hall (off+i) (by omega) (by omega))
    rw[show off+(k-off)=k from by omega]at hpk
    refine A6 ?_;exact⟨f,by omega,k,start,g,toks,by omega,by omega,by omega,by rw[hpk];show (D7 s off).Col+_=_;omega,by rw[hpk];show (D7 s off).Line≤_;omega,by omega,⟨rfl,rfl,rfl,by rw[hpk];rfl,rfl,rfl,trivial⟩,by rw[hsk,hks],by rw[hpk];exact hl0,hw⟩
  have e5:B3 s off≠35:=of_decide_eq_false e5
  have hsz:(G5 s off s.size).size=s.size-off:=y6 (Nat.le_refl _)
  have hok:=Yb (s:=G5 s off s.size) (by omega)
  have hstep:X9 s (f+1) off toks=if (O9 (G5 s off s.size)).err=0 then X9 s f (off+(O9 (G5 s off s.size)).n) (toks++[⟨(O9 (G5 s off s.size)).kind,(O9 (G5 s off s.size)).text,(O9 (G5 s off s.size)).value,(D7 s off).Line,(D7 s off).Col⟩]) else ([],D7 s off,(O9 (G5 s off s.size)).err):=by
   show (if s.size≤off then _ else _)=_
   rw[if_neg (by omega),if_neg hns,if_neg e5]
  have hbyte:∀i,i<s.size-off→B3 (G5 s off s.size) i=B3 s (off+i):=fun i hi=>Xs (by omega)
  rw[hstep];obtain⟨ag,ng,cg,rfl,hng,hngc,hcg⟩:=hw.own_shape (i:=0) rfl
  simp only[List.length_map]at hng
  have hoz:(0:Int)≤off:=by omega
  refine A6 ?_;refine C0 ?_;intro b9 w hw;refine B1 ?_;intro w hw;have hw:Wd Γ (.blk b9 (.cells (enc (⟨(D7 s off).Line,(off:Int)-start+1⟩:F2)).toArray 44)::.own (.slice ag ng cg) 178 5 (toks.map enc)::.blk bp (.cells (enc (⟨0,0⟩:F2)).toArray 44)::S) w:=hw
  rw[←hcol]at hw;refine A6 ?_;refine Zx (hp:=Xi Γ (G5 s off s.size) (by omega) (by omega)) ?_
  intro w hw;generalize O9 (G5 s off s.size)=t at *
  refine A6 ?_;refine C0 ?_;intro b10 w hw;refine B1 ?_;intro w hw;have hw:Wd Γ (.blk b10 (.cells (enc (dP t)).toArray 178)::.blk b9 (.cells (enc (⟨(D7 s off).Line,(D7 s off).Col⟩:F2)).toArray 44)::.own (.slice ag ng cg) 178 5 (toks.map enc)::.blk bp (.cells (enc (⟨0,0⟩:F2)).toArray 44)::S) w:=hw
  refine A6 ?_;refine A7 rfl (fun h6=>?_) (fun h6=>?_)
  ·have h6:¬t.err=0:=by simpa using h6
   rw[if_neg h6];refine A6 ?_;refine Fi [.blk b10 _,.blk b9 _,.own _ _ _ _] (.blk bp _::S) [] [[],[],[],[0],[]] hw ?_
   refine R1 ?_;refine Da (φ:=fun (_:Unit) _=>True) (R:=fun _=>.blk bp (.cells (enc (⟨0,0⟩:F2)).toArray 44)::S) (v:=undef) (T':=Unit) (fun _ _=>True) (fun _=>.blk bp (.cells (enc (⟨(D7 s off).Line,(D7 s off).Col⟩:F2)).toArray 44)::S) (fun t' g w Y _ hw=>m9 (i:=0) (inferInstance:Rp Tryz.prog 44 2).h hw rfl rfl rfl rfl (fun u hu=>(List.all_eq_true.1 (Ep (⟨(D7 s off).Line,(D7 s off).Col⟩:F2))) u hu) rfl (Nat.le_refl 2) fun w' hw'=>⟨(),trivial,(fun _=>rfl),hw'⟩) ?_
   refine R1 ?_;refine IX fun t' w g _ hw=>?_
   have hw:Wd Γ (.blk bp (.cells (enc (D7 s off)).toArray 44)::S) w:=Wd.left (S:=.blk bp _::S) hw
   refine A6 ?_;exact⟨[.slice none 0 0,.agg (enc (D7 s off)).toArray,.int .i64 t.err],⟨rfl,T4 (i:=0) hw rfl rfl rfl,rfl,trivial⟩,_,rfl,Wd.addNil hw.drop⟩
  ·have h6:t.err=0:=by simpa using h6
   rw[if_pos h6];obtain⟨hn1,hn2,hnn⟩:=hok h6
   rw[hsz]at hn2;have hpn:=Af (s:=s) (off:=off) t.n (fun i hi=>by rw[←hbyte i (by omega)];exact hnn i hi)
   refine A6 ?_;refine B1 ?_;intro w hw;have hw:Wd Γ (.blk b10 (.cells (enc (⟨t.kind,t.text,t.value,(D7 s off).Line,(D7 s off).Col⟩:Tok)).toArray 178)::.blk b9 (.cells (enc (⟨(D7 s off).Line,(D7 s off).Col⟩:F2)).toArray 44)::.own (.slice ag ng cg) 178 5 (toks.map enc)::.blk bp (.cells (enc (⟨0,0⟩:F2)).toArray 44)::S) w:=hw
   refine A6 ?_;refine B6 [enc (⟨t.kind,t.text,t.value,(D7 s off).Line,(D7 s off).Col⟩:Tok)] ?_
   intro a72 w hw;refine V7 (i:=3) (rows2:=[enc (⟨t.kind,t.text,t.value,(D7 s off).Line,(D7 s off).Col⟩:Tok)]) ?_ (Wd.own_rd (i:=0) hw rfl)
   intro v' w hw;refine A6 ?_;have hw:Wd Γ (.own v' 178 5 (toks.map enc++[enc (⟨t.kind,t.text,t.value,(D7 s off).Line,(D7 s off).Col⟩:Tok)])::.blk bp (.cells (enc (⟨0,0⟩:F2)).toArray 44)::S) w:=hw.drop.drop.drop
   rw[show toks.map enc++[enc (⟨t.kind,t.text,t.value,(D7 s off).Line,(D7 s off).Col⟩:Tok)]=(toks++[(⟨t.kind,t.text,t.value,(D7 s off).Line,(D7 s off).Col⟩:Tok)]).map enc from by simp]at hw
   exact⟨f,by omega,off+t.n,start,v',_,by omega,by omega,by omega,by rw[hpn];show (D7 s off).Col+_=_;omega,by rw[hpn];show (D7 s off).Line≤_;omega,by simp;omega,⟨rfl,rfl,rfl,by rw[hpn];rfl,rfl,rfl,trivial⟩,rfl,by rw[hpn];exact hl0,hw⟩
 ·have h1:¬off<s.size:=by simpa using h1
  have hend:X9 s (f+1) off toks=(toks,⟨0,0⟩,0):=by
   show (if s.size≤off then _ else _)=_
   rw[if_pos (by omega)]
  rw[hend];refine A6 ?_;refine B1 ?_;intro w hw;have hw:Wd Γ (.own g 178 5 (toks.map enc)::.blk bp (.cells (enc (⟨0,0⟩:F2)).toArray 44)::S) w:=hw
  refine A6 ?_;exact⟨[g,.agg (enc (⟨0,0⟩:F2)).toArray,.int .i64 0],⟨rfl,T4 (i:=1) hw rfl rfl rfl,rfl,trivial⟩,_,rfl,hw.dropAt 1⟩
end Go.Proofs.YtlimglpjpcfpdaaGreat
end
section
open Go Mk
namespace Go.Proofs.YtlimglpjpcfpdaaGreat
set_option maxHeartbeats 4000000
attribute [local irreducible] Calls
theorem WA{P:Program}{d:Option Tmp}{T ty:TypeId}{pos:String}{es:Array Edge}{g:Option (Nat×Bool)}{x:Operand}{ρ:Fr}{w:World}{v:Value}{fs:Array Field}(hu:P.underlying T=some (.struct fs))(hx:ev ρ x=v):Mk.Yields P ⟨d,.makeInterface T x,ty,pos,es,g⟩ ρ w (.iface T v):=by
 unfold Mk.Yields;simp[execOp,hx,Instr.makeInterface,run_underlying hu,Result.andThen]
def aA(toks:List Tok)(at':Nat)(kind:Int)(text:ByteArray):Bool:=match toks[at']? with|some t=>decide (t.Kind=kind)&&decide (t.Text=text)|none=>false
def S4(toks:List Tok)(at':Nat)(e:F2):F2:=match toks[at']? with|some t=>⟨t.Line,t.Col⟩|none=>e
abbrev PR(α:Type):=Except (F2×Int) (α×Nat)
def HO(toks:List Tok)(e:F2)(kind:Int)(at':Nat):PR Tok:=match toks[at']? with|some t=>if t.Kind=kind then .ok (t,at') else .error (S4 toks at' e,50)|none=>.error (S4 toks at' e,50)
def Ez(toks:List Tok)(e:F2)(kind:Int)(text:ByteArray)(at':Nat):PR Unit:=if aA toks at' kind text=true then .ok ((),at'+1) else .error (S4 toks at' e,50)
def Yp(toks:List Tok)(e:F2)(kind:Int)(at':Nat):PR ByteArray:=match HO toks e kind at' with|.ok (t,_)=>if 24<t.Text.size then .error (S4 toks at' e,63) else .ok (t.Text,at'+1)|.error q=>.error q
def Cw(toks:List Tok)(e:F2)(limited:Bool)(at':Nat):PR Int:=match HO toks e 2 at' with|.ok (t,_)=>if limited=true∧2147483647<t.Value then .error (S4 toks at' e,6) else .ok (t.Value,at'+1)|.error q=>.error q
def VY(s:ByteArray)(xs:List ByteArray):Bool:=xs.any fun x=>decide (s=x)
def eG:ByteArray:=⟨#[44]⟩
def fp:ByteArray:=⟨#[59]⟩
def eh:ByteArray:=⟨#[125]⟩
theorem Tn{s:ByteArray}:∀ {k:Nat},k≤s.size→(D7 s k).Line=1+(((s.data.toList.take k).count 10:Nat):Int)
 | 0,_=>by simp[D7]
 | k+1,h=>by
  have ih:=Tn (s:=s) (k:=k) (by omega)
  have hk:k<s.data.toList.length:=by rw[show s.data.toList.length=s.size from by simp];omega
  obtain⟨b,hb⟩:∃b,s.data.toList[k]? = some b:=⟨_,List.getElem?_eq_getElem hk⟩
  have hB:B3 s k=((b.toNat:Nat):Int):=by
   show ((s.data.toList.getD k 0).toNat:Int)=_
   rw[List.getD_eq_getElem?_getD,hb];rfl
  rw[List.take_add_one,hb];by_cases h1:b=10
  ·subst h1;rw[JV (by rw[hB];rfl)]
   simp[ih];omega
  ·have h2:B3 s k≠10:=by
    rw[hB];intro h2;exact h1 (UInt8.toNat_inj.1 (by simpa using (show b.toNat=10 by omega)))
   have:=Af (s:=s) (off:=k) 1 (fun i hi=>by
    have:i=0:=by omega
    subst this;exact h2)
   rw[this];simp[ih,h1]
theorem Za{s:ByteArray}{k:Nat}(h:∀i,k≤i→i<s.size→B3 s i≠10)(hk:k≤s.size):(D7 s s.size).Col=(D7 s k).Col+((s.size-k:Nat):Int):=by
 have:=Af (s:=s) (off:=k) (s.size-k) (fun i hi=>h _ (by omega) (by omega))
 rw[show k+(s.size-k)=s.size by omega]at this
 rw[this]
def Dv(s:ByteArray):F2:=D7 s s.size
theorem Wt(s:ByteArray)(hs:s.size≤4611686018427387904)(w:World):Calls Tryz.prog 88 #[.string s,.int .u8 10] w fun e w'=>e=.returned (.int .i64 ((s.size:Int)-(Dv s).Col))∧w'=w:=by
 refine A9 Tryz.func88 rfl rfl ?_
 refine A6 ?_;refine B5 (fun μ ρ w'=>∃(i:Int) (k:Nat),i+1=k∧μ=k∧k≤s.size∧Has ρ [(0,.string s),(1,.int .u8 10),(5,.int .i64 i)]∧(∀j,k≤j→j<s.size→B3 s j≠10)∧w'=w) s.size ⟨(s.size:Int)-1,s.size,by omega,rfl,Nat.le_refl _,⟨rfl,rfl,rfl,trivial⟩,fun j h1 h2=>by omega,rfl⟩ ?_
 rintro μ ρ w' ⟨i,k,hik,rfl,hk,hρ,hno,rfl⟩
 rw[hρ.eq];refine A6 ?_;refine A7 rfl (fun h=>?_) (fun h=>?_)
 ·have h:0≤i:=of_decide_eq_true h
  refine A6 ?_;have hi:i.toNat+1=μ:=by omega
  refine A7 rfl (fun h2=>?_) (fun h2=>?_)
  ·have h2:B3 s i.toNat=10:=of_decide_eq_true h2
   refine A6 ?_;refine⟨_,rfl,?_,rfl⟩
   have h3:=Za (s:=s) (k:=μ) hno hk
   have h4:=JV h2
   rw[hi]at h4;rw[h4]at h3;unfold Dv;rw[h3];show Ending.returned (.int .i64 i)=_
   congr 2;dsimp;omega
  ·have h2:¬B3 s i.toNat=10:=of_decide_eq_false h2
   refine A6 ?_;refine⟨i.toNat,by omega,i-1,i.toNat,by omega,rfl,by omega,⟨rfl,rfl,rfl,trivial⟩,fun j h3 h4=>?_,rfl⟩
   by_cases e:j=i.toNat
   ·subst e;exact h2
   ·exact hno j (by omega) h4
 ·have h:¬0≤i:=of_decide_eq_false h
  refine A6 ?_;refine⟨_,rfl,?_,rfl⟩
  have h3:=Za (s:=s) (k:=0) (fun j h1 h2=>hno j (by omega) h2) (by omega)
  unfold Dv;rw[h3];show Ending.returned (.int .i64 (-1))=_
  congr 2;simp[D7];omega
theorem VT(s:ByteArray)(c:Int)(w:World):(callFunc 90 #[.string s,.int .u8 c]).run Tryz.prog w=.ok (.value (.int .i64 (Go.Lib.countByte s.data.toList c.toNat.toUInt8))) w:=by
 rw[run_callFunc_extern Tryz.func90 (by kernel_rfl) (by kernel_rfl) (e:=Extern.BytealgCount.count) (by kernel_rfl) (by kernel_rfl),Go.Lib.run_countString]
 rfl
theorem SQ(s:ByteArray):PC Tryz.prog 41 [.string s,.string ⟨#[10]⟩] (.int .i64 (s.data.toList.count 10:Nat)):=⟨fun w=>by
 refine A9 Tryz.func41 rfl rfl ?_
 refine A6 ?_;refine A7 rfl (fun h=>absurd h (by decide)) (fun _=>?_)
 refine A6 ?_;refine A7 rfl (fun _=>?_) (fun h=>absurd h (by decide))
 refine A6 ?_;refine lY (v:=.int .u8 10) ?_ (hy:=KW (s:=⟨#[10]⟩) (k:=.i64) (i:=0) rfl rfl (by decide) (by decide))
 refine A6 ?_;refine fQ (vs:=[.string s,.int .u8 10]) (VT s 10) ?_
 refine A6 ?_;exact⟨_,rfl,rfl,rfl⟩⟩
theorem Uy(s:ByteArray)(hs:s.size≤4611686018427387904):PC Tryz.prog 40 [.string s,.int .u8 10] (.int .i64 ((s.size:Int)-(Dv s).Col)):=⟨fun w=>by
 have hL3:PC Tryz.prog 88 [.string s,.int .u8 10] (.int .i64 ((s.size:Int)-(Dv s).Col)):=⟨fun w=>Wt s hs w⟩
 refine A9 Tryz.func40 rfl rfl ?_
 refine A6 ?_;exact⟨_,rfl,rfl,rfl⟩⟩
theorem eD{P:Program}{Γ:C8}{S:List B2}{ρ:Fr}{w:World}{t T i b k:Nat}{cs:Array Value}{E:TypeId}{fr:Nat×Nat}{v:Value}[ha:TS P T](hw:Wd Γ S w)(hi:S[i]? = some (.blk b (.cells cs E fr)))(hx:ρ t=.pointer (some ⟨b,k,none⟩))(hv:cs[k]? = some v):Yn P ρ w (.cell t T) v:=by
 refine⟨_,hx,?_⟩
 have hc:=cell_of (hw.at_blk hi) hv
 simp[loadVar,BC ha.h,hc,go_sem]
theorem Et{s:ByteArray}:∀ {f off:Nat} {acc:List Tok},off≤s.size→(X9 s f off acc).1.length≤acc.length+(s.size-off)
 | 0,off,acc,h=>by simp[X9]
 | f+1,off,acc,h=>by
  unfold X9;split
  ·simp
  ·rename_i h1
   split
   ·have:=Et (s:=s) (f:=f) (off:=off+1) (acc:=acc) (by omega)
    omega
   ·split
    ·have h2:off≤FZ s off∧FZ s off≤s.size:=by
      unfold FZ;have:(((M8 s).drop off).takeWhile fun b=>decide ((b.toNat:Int)≠10)).length≤((M8 s).drop off).length:=(List.takeWhile_sublist _).length_le
      rw[List.length_drop,P8]at this;omega
     have:=Et (s:=s) (f:=f) (off:=FZ s off) (acc:=acc) h2.2
     omega
    ·split
     ·rename_i h4
      have hsz:(G5 s off s.size).size=s.size-off:=y6 (Nat.le_refl _)
      obtain⟨a1,a2,-⟩:=Yb (s:=G5 s off s.size) (by omega) h4
      have:=Et (s:=s) (f:=f) (off:=off+(O9 (G5 s off s.size)).n) (acc:=acc++[⟨(O9 (G5 s off s.size)).kind,(O9 (G5 s off s.size)).text,(O9 (G5 s off s.size)).value,(D7 s off).Line,(D7 s off).Col⟩]) (by omega)
      simp at this;omega
     ·simp
theorem Ve{s:ByteArray}:(I8 s).1.length≤65536:=by
 unfold I8;split
 ·simp
 ·have:=Et (s:=s) (f:=s.size+1) (off:=0) (acc:=[]) (by omega)
  simp at this;omega
end Go.Proofs.YtlimglpjpcfpdaaGreat
end
section
open Go Mk
namespace Go.Proofs.YtlimglpjpcfpdaaGreat
set_option maxHeartbeats 4000000
attribute [local irreducible] Calls HO
section
variable {Γ:C8}{S:List B2}{w:World}{bp:Nat}{a:Option Addr}{n c at':Nat}{e:F2}{toks:List Tok}
end
end Go.Proofs.YtlimglpjpcfpdaaGreat
end
section
open Go Mk
namespace Go.Proofs.YtlimglpjpcfpdaaGreat
set_option maxHeartbeats 4000000
attribute [local irreducible] Calls HO Cw Ez aA S4
def gb:ByteArray:=⟨#[98,97,115,101]⟩
def fZ:ByteArray:=⟨#[115,105,122,101]⟩
def fA:ByteArray:=⟨#[99,111,114,101,115]⟩
def PV(toks:List Tok)(e:F2)(limited cores:Bool):Nat→Nat→List Int→PR (List Int)
 | 0,k,acc=>.ok (acc,k)
 | f+1,k,acc=>if (cores&&aA toks k 4 eG)=true then (match Cw toks e limited (k+1) with|.ok (v,k1)=>PV toks e limited cores f k1 (acc++[v])|.error q=>.error q) else .ok (acc,k)
def ft(s:ByteArray):Bool:=decide (s≠gb)&&decide (s≠fZ)
def bV(toks:List Tok)(e:F2)(names:List ByteArray)(got:List (ByteArray×List Int))(k:Nat):PR (ByteArray×List Int):=
 match HO toks e 1 k with
 | .error q=>.error q
 | .ok (t,_)=>
  if VY t.Text names=false then .error (S4 toks k e,50)
  else if VY t.Text (got.map (·.1))=true then .error (S4 toks k e,56)
  else match Cw toks e (ft t.Text) (k+1) with
   | .error q=>.error q
   | .ok (v,k1)=>match PV toks e (ft t.Text) (decide (t.Text=fA)) (toks.length+1) k1 [v] with
    | .error q=>.error q
    | .ok (l,k2)=>match Ez toks e 4 fp k2 with
     | .error q=>.error q
     | .ok (_,k3)=>.ok ((t.Text,l),k3)
def gP(toks:List Tok)(e:F2)(names:List ByteArray):Nat→Nat→List (ByteArray×List Int)→PR (List (ByteArray×List Int))
 | 0,k,got=>.ok (got,k)
 | f+1,k,got=>if aA toks k 4 eh=true then .ok (got,k) else
  match bV toks e names got k with
  | .error q=>.error q
  | .ok (p,k3)=>gP toks e names f k3 (got++[p])
end Go.Proofs.YtlimglpjpcfpdaaGreat
end
section
open Go Mk
namespace Go.Proofs.YtlimglpjpcfpdaaGreat
set_option maxHeartbeats 4000000
attribute [local irreducible] Calls HO Cw Ez aA S4 PV VY
abbrev D5(l:List ByteArray):List (List Value):=l.map fun x=>[.string x]
section
variable {Γ:C8}{S:List B2}{w:World}{bp:Nat}{a:Option Addr}{n c at':Nat}{e:F2}{toks:List Tok}
end
end Go.Proofs.YtlimglpjpcfpdaaGreat
end
section
open Go Mk
namespace Go.Proofs.YtlimglpjpcfpdaaGreat
set_option maxHeartbeats 4000000
attribute [local irreducible] Calls HO Cw Ez aA S4 VY Yp
structure I1 where
 ID:Int
 Width:Int
 Node:Int
 Speed:Int
 deriving DecidableEq,Inhabited
instance:LC I1 where
 enc a:=[.int .i64 a.ID,.int .i64 a.Width,.int .i64 a.Node,.int .i64 a.Speed]
 inj a b h:=by cases a;cases b;simp at h;simp[h]
 ks:=[5,5,5,5]
 kinds a:=rfl
structure G3 where
 A:Int
 B:Int
 Latency:Int
 deriving DecidableEq,Inhabited
instance:LC G3 where
 enc a:=[.int .i64 a.A,.int .i64 a.B,.int .i64 a.Latency]
 inj a b h:=by cases a;cases b;simp at h;simp[h]
 ks:=[5,5,5]
 kinds a:=rfl
structure AW where
 Name:ByteArray
 Base:Int
 Size:Int
 Node:Int
 Latency:Int
 deriving DecidableEq,Inhabited
instance:LC AW where
 enc a:=[.string a.Name,.int .u64 a.Base,.int .u64 a.Size,.int .i64 a.Node,.int .i64 a.Latency]
 inj a b h:=by cases a;cases b;simp at h;simp[h]
 ks:=[1,9,9,5,5]
 kinds a:=rfl
structure AY where
 Name:ByteArray
 Node:Int
 IRQ:Int
 Base:Int
 Size:Int
 deriving DecidableEq,Inhabited
instance:LC AY where
 enc a:=[.string a.Name,.int .i64 a.Node,.int .i64 a.IRQ,.int .u64 a.Base,.int .u64 a.Size]
 inj a b h:=by cases a;cases b;simp at h;simp[h]
 ks:=[1,5,5,9,9]
 kinds a:=rfl
structure S2 where
 Name:ByteArray
 Level:Int
 Line:Int
 Size:Int
 Cores:List Int
 deriving DecidableEq,Inhabited
structure E1 where
 Name:ByteArray
 Level:Int
 Line:Int
 Size:Int
 A:Option Addr
 N:Nat
 C:Nat
 Cores:List Int
def E1.T(c:E1):S2:=⟨c.Name,c.Level,c.Line,c.Size,c.Cores⟩
def cC(c:E1):List Value:=[.string c.Name,.int .i64 c.Level,.int .i64 c.Line,.int .u64 c.Size,.slice c.A c.N c.C]
def A8(l:List Int):List (List Value):=l.map fun x=>[.int .i64 x]
def RG(Γ:C8)(c:E1):Prop:=D9 Γ (.slice c.A c.N c.C) 1 (A8 c.Cores)
structure H1 where
 Name:ByteArray
 Cores:List I1
 Caches:List S2
 Links:List G3
 Mems:List AW
 Devs:List AY
 deriving DecidableEq
def P3:ByteArray:=⟨#[99,111,114,101]⟩
def i6:ByteArray:=⟨#[99,97,99,104,101]⟩
def Bd:ByteArray:=⟨#[108,105,110,107]⟩
def Y6:ByteArray:=⟨#[109,101,109,111,114,121]⟩
def g7:ByteArray:=⟨#[100,101,118,105,99,101]⟩
theorem nodup_le{α:Type}[DecidableEq α]:∀(ks L:List α),ks.Nodup→(∀x∈ks,x∈L)→ks.length≤L.length
 | [],_,_,_=>Nat.zero_le _
 | k::ks,L,hn,hs=>by
  have hk:=hs k (List.mem_cons_self ..)
  have h1:=nodup_le ks (L.erase k) (List.nodup_cons.1 hn).2 fun x hx=>by
   refine(List.mem_erase_of_ne ?_).2 (hs x (List.mem_cons_of_mem _ hx))
   rintro rfl;exact(List.nodup_cons.1 hn).1 hx
  rw[List.length_erase_of_mem hk]at h1;have:=List.length_pos_of_mem hk
  simp;omega
end Go.Proofs.YtlimglpjpcfpdaaGreat
end
section
open Go Mk
namespace Go.Proofs.YtlimglpjpcfpdaaGreat
set_option maxHeartbeats 4000000
attribute [local irreducible] Calls HO Cw Ez aA S4 PV VY Yp
def Small(H:H1)(k:Nat):Prop:=H.Cores.length≤k∧H.Caches.length≤k∧H.Links.length≤k∧H.Mems.length≤k∧H.Devs.length≤k
theorem RG.mono{Γ Γ':C8}{c:E1}(h:RG Γ c)(hle:Γ.le Γ'):RG Γ' c:=D9.mono h hle
section
variable {Γ:C8}{S:List B2}{w:World}{bp hb:Nat}{a:Option Addr}{n c at':Nat}{e:F2}{toks:List Tok}{H:H1}
end
end Go.Proofs.YtlimglpjpcfpdaaGreat
end
section
open Go Mk
namespace Go.Proofs.YtlimglpjpcfpdaaGreat
set_option maxHeartbeats 4000000
attribute [local irreducible] Calls HO Cw Ez aA S4 PV VY Yp
def XT(Γ:C8)(H:H1)(S:List B2)(u:Value)(w:World):Prop:=∃(v1 v2 v3 v4 v5:Value) (cs:List E1),cs.map E1.T=H.Caches∧(∀c∈cs,RG Γ c)∧u=.agg #[.string H.Name,v1,v2,v3,v4,v5] ∧
 Wd Γ (.own v1 72 4 (H.Cores.map enc)::.own v2 163 5 (cs.map cC)::.own v3 140 3 (H.Links.map enc)::.own v4 157 5 (H.Mems.map enc)::.own v5 159 5 (H.Devs.map enc)::S) w
section
variable {Γ:C8}{S:List B2}{w:World}{bp hb:Nat}{a:Option Addr}{n c:Nat}{e:F2}{toks:List Tok}
end
end Go.Proofs.YtlimglpjpcfpdaaGreat
end
section
open Go Mk
namespace Go.Proofs.YtlimglpjpcfpdaaGreat
set_option maxHeartbeats 4000000
attribute [local irreducible] Calls
def maxS:Nat:=9223372036854775807
def QA(H:H1):Prop:=H.Name.size≤maxS∧(∀c∈H.Caches,c.Name.size≤maxS)∧(∀c∈H.Mems,c.Name.size≤maxS)∧∀c∈H.Devs,c.Name.size≤maxS
class Cl(Γ:C8)(u:Value)(H:outParam H1):Prop where
 h:∃(a1:Option Addr) (n1 c1:Nat) (a2:Option Addr) (n2 c2:Nat) (a3:Option Addr) (n3 c3:Nat) (a4:Option Addr) (n4 c4:Nat) (a5:Option Addr) (n5 c5:Nat) (cs:List E1),
  u=.agg #[.string H.Name,.slice a1 n1 c1,.slice a2 n2 c2,.slice a3 n3 c3,.slice a4 n4 c4,.slice a5 n5 c5]∧cs.map E1.T=H.Caches∧(∀c∈cs,RG Γ c)∧QA H ∧
  D9 Γ (.slice a1 n1 c1) 4 (H.Cores.map enc)∧D9 Γ (.slice a2 n2 c2) 5 (cs.map cC)∧D9 Γ (.slice a3 n3 c3) 3 (H.Links.map enc)∧D9 Γ (.slice a4 n4 c4) 5 (H.Mems.map enc)∧D9 Γ (.slice a5 n5 c5) 5 (H.Devs.map enc)
theorem Cl.mono{Γ Γ':C8}{u:Value}{H:H1}(hh:Cl Γ u H)(hle:Γ.le Γ'):Cl Γ' u H:=by
 obtain⟨a1,n1,c1,a2,n2,c2,a3,n3,c3,a4,n4,c4,a5,n5,c5,cs,h1,h2,h3,h4,r1,r2,r3,r4,r5⟩:=hh.h;exact⟨a1,n1,c1,a2,n2,c2,a3,n3,c3,a4,n4,c4,a5,n5,c5,cs,h1,h2,fun c hc=>D9.mono (h3 c hc) hle,h4,r1.mono hle,r2.mono hle,r3.mono hle,r4.mono hle,r5.mono hle⟩
theorem C6{Γ:C8}{a:Option Addr}{n c sz:Nat}{rows:List (List Value)}(h:D9 Γ (.slice a n c) sz rows):n=rows.length∧n≤c∧c≤9223372036854775807:=by
 obtain⟨_,_,_,h1,h2,h3⟩:=h.shape;cases h1;exact⟨h2,h3⟩
theorem RG.facts{Γ:C8}{c:E1}(h:RG Γ c):c.N=c.Cores.length∧c.N≤c.C∧c.C≤9223372036854775807:=by
 have:=C6 h
 simpa[A8] using this
section
variable {α:Type}{l:List α}{p:α→Bool}{k:Nat}{x:α}
theorem O5(h:∀i x,i<k→l[i]? = some x→p x=true)(hx:l[k]? = some x)(ht:p x=true):∀i x,i<k+1→l[i]? = some x→p x=true:=fun i y hi hy=>by
 by_cases e:i=k
 ·subst e;rw[hx]at hy;cases hy;exact ht
 ·exact h i y (by omega) hy
theorem W5(h:∀i x,i<k→l[i]? = some x→p x=true)(hk:l.length≤k):l.all p=true:=by
 rw[List.all_eq_true];intro x hm;obtain⟨i,hi,hx⟩:=List.getElem_of_mem hm
 exact h i x (by omega) (by rw[List.getElem?_eq_getElem hi,hx])
theorem AD(hx:l[k]? = some x)(hf:p x=false):l.all p=false:=by
 rw[List.all_eq_false];exact⟨x,List.mem_of_getElem? hx,by rw[hf];simp⟩
theorem Ga{a b:Bool}(h:a=false):(a&&b)=false:=by rw[h];rfl
theorem Nc{a b:Bool}(h:b=false):(a&&b)=false:=by rw[h];simp
end
def K3(n:Int):Bool:=decide (0≤n)&&decide (n<64)
def AE(n:Int):Bool:=decide (1≤n)&&decide (n≤1000000)
instance fH(n:Int):PC Tryz.prog 239 [.int .i64 n] (.bool (K3 n)):=⟨fun w=>by
 refine A9 Tryz.func239 rfl rfl ?_
 refine A6 ?_;exact⟨_,rfl,rfl,rfl⟩⟩
instance bL(n:Int):PC Tryz.prog 240 [.int .i64 n] (.bool (AE n)):=⟨fun w=>by
 refine A9 Tryz.func240 rfl rfl ?_
 refine A6 ?_;exact⟨_,rfl,rfl,rfl⟩⟩
def BB(b s:Int):Bool:=(decide (4096≤s)&&decide (s≤1099511627776))&&decide (b≤IntKind.u64.wrap (1099511627776-s))
theorem Kh(b s:Int):PC Tryz.prog 241 [.int .u64 b,.int .u64 s] (.bool (BB b s)):=⟨fun w=>by
 refine A9 Tryz.func241 rfl rfl ?_
 refine A6 ?_;exact⟨_,rfl,rfl,rfl⟩⟩
def Aw(c:I1):Bool:=decide (0≤c.ID)&&decide (c.ID<32)&&(decide (c.Width=32)||decide (c.Width=39))&&decide (1≤c.Speed)&&decide (c.Speed≤1000000)&&K3 c.Node
def Bj(c:S2):Bool:=decide (1≤c.Level)&&decide (c.Level≤4)&&decide (16≤c.Line)&&decide (c.Line≤256)&&decide (Ak .and .i64 c.Line (IntKind.i64.wrap (c.Line-1))=0)&&decide (IntKind.u64.wrap c.Line≤c.Size)&&decide (c.Size≤1099511627776)&&decide (0<c.Cores.length)
def Er(c:E1):Bool:=Bj c.T
theorem Hh(cs:List E1):(cs.map E1.T).all Bj=cs.all Er:=by rw[List.all_map];rfl
def Au(l:G3):Bool:=K3 l.A&&K3 l.B&&decide (l.A≠l.B)&&AE l.Latency
def FY(m:AW):Bool:=K3 m.Node&&AE m.Latency&&BB m.Base m.Size
def Fe(d:AY):Bool:=K3 d.Node&&decide (0≤d.IRQ)&&decide (d.IRQ<256)&&BB d.Base d.Size
def Ia(m:AW):Bool:=decide (Ak .and .u64 m.Size (IntKind.u64.wrap (m.Size-1))=0)&&decide (Ak .and .u64 m.Base (IntKind.u64.wrap (m.Size-1))=0)
def Ie(d:AY):Bool:=decide (d.Base.tmod 4096=0)&&decide (d.Size.tmod 4096=0)
def M4(H:H1):Bool:=H.Cores.all Aw&&(H.Caches.all Bj&&H.Links.all Au)
def J2(H:H1):Bool:=H.Mems.all FY&&H.Devs.all Fe
def x5(H:H1):Bool:=H.Mems.all Ia&&H.Devs.all Ie
def U1(H:H1):Bool:=decide (1≤H.Cores.length)&&decide (H.Cores.length≤32)&&decide (H.Caches.length≤64)&&decide (H.Links.length≤256)&&decide (H.Mems.length≤64)&&decide (H.Devs.length≤32)
theorem Su(x:AW):(!K3 x.Node || !AE x.Latency || !BB x.Base x.Size) = !FY x:=by
 simp only[FY,Bool.not_and]
theorem UJ(x:AY):(!K3 x.Node||decide (x.IRQ<0)||decide (256≤x.IRQ) || !BB x.Base x.Size) = !Fe x:=by
 simp only[Fe,Bool.not_and,←decide_not,Int.not_le,Int.not_lt]
theorem Qm(x:AW):(decide (Ak .and .u64 x.Size (IntKind.u64.wrap (x.Size-1))≠0)||decide (Ak .and .u64 x.Base (IntKind.u64.wrap (x.Size-1))≠0)) = !Ia x:=by
 simp only[Ia,Bool.not_and,←decide_not,ne_eq]
theorem Oy(x:AY):(decide (x.Base.tmod 4096≠0)||decide (x.Size.tmod 4096≠0)) = !Ie x:=by
 simp only[Ie,Bool.not_and,←decide_not,ne_eq]
theorem Mb(x:E1)(hn:x.N=x.Cores.length):(decide (x.Level<1)||decide (4<x.Level)||decide (x.Line<16)||decide (256<x.Line)||decide (Ak .and .i64 x.Line (IntKind.i64.wrap (x.Line-1))≠0)||decide (x.Size<IntKind.u64.wrap x.Line)||decide (1099511627776<x.Size)||decide ((x.N:Int)=0)) = !Er x:=by
 have h:decide ((x.N:Int)=0) = !decide (0<x.Cores.length):=by rw[←decide_not];exact decide_eq_decide.2 (by omega)
 rw[h];have nle:∀a b:Int,decide (a≤b) = !decide (b<a):=fun a b=>by rw[←decide_not];exact decide_eq_decide.2 Int.not_lt.symm
 show _ = !(decide (1≤x.Level)&&decide (x.Level≤4)&&decide (16≤x.Line)&&decide (x.Line≤256)&&decide (Ak .and .i64 x.Line (IntKind.i64.wrap (x.Line-1))=0)&&decide (IntKind.u64.wrap x.Line≤x.Size)&&decide (x.Size≤1099511627776)&&decide (0<x.Cores.length))
 rw[nle 1,nle x.Level,nle 16,nle x.Line,nle (IntKind.u64.wrap x.Line),nle x.Size,show decide (Ak .and .i64 x.Line (IntKind.i64.wrap (x.Line-1))≠0) = !decide (Ak .and .i64 x.Line (IntKind.i64.wrap (x.Line-1))=0) from decide_not];simp only[Bool.not_and,Bool.not_not]
theorem KP{a b:Bool}(h:a = !b)(h2:a=true):b=false:=by subst h;simpa using h2
theorem Gq{a b:Bool}(h:a = !b)(h2:a=false):b=true:=by subst h;simpa using h2
instance WQ{Γ:C8}{u:Value}{H:H1}[hh:Cl Γ u H]:PG Tryz.prog Γ 185 [u] (.bool (M4 H)):=⟨fun S w hw=>by
 obtain⟨a1,n1,c1,a2,n2,c2,a3,n3,c3,a4,n4,c4,a5,n5,c5,cs,rfl,hcs,hok,hsz,r1,r2,r3,r4,r5⟩:=hh.h;obtain⟨hn1,hm1,hx1⟩:=C6 r1
 obtain⟨hn2,hm2,hx2⟩:=C6 r2
 obtain⟨hn3,hm3,hx3⟩:=C6 r3
 obtain⟨hn4,hm4,hx4⟩:=C6 r4
 obtain⟨hn5,hm5,hx5⟩:=C6 r5
 simp only[List.length_map]at hn1 hn2 hn3 hn4 hn5
 refine A9 Tryz.func185 rfl rfl ?_
 refine A6 ?_;refine H9 ?_;intro b1 w hw;have hw:Wd Γ (.blk b1 (.cells #[.string H.Name,.slice a1 n1 c1,.slice a2 n2 c2,.slice a3 n3 c3,.slice a4 n4 c4,.slice a5 n5 c5] 69)::S) w:=hw
 refine A6 ?_;refine B5 (fun μ ρ w=>∃(k:Nat),μ+k=n1∧Has ρ [(1,.pointer (some ⟨b1,0,none⟩)),(10,.slice a1 n1 c1),(11,.int .i64 n1),(12,.int .i64 k)]∧(∀i x,i<k→(H.Cores)[i]? = some x→Aw x=true)∧Wd Γ (.blk b1 (.cells #[.string H.Name,.slice a1 n1 c1,.slice a2 n2 c2,.slice a3 n3 c3,.slice a4 n4 c4,.slice a5 n5 c5] 69)::S) w) n1 ⟨0,by omega,⟨rfl,rfl,rfl,rfl,trivial⟩,fun i x h=>by omega,hw⟩ ?_
 clear hw;rintro μ ρ w ⟨k,hk,hρ,hall,hw⟩
 rw[hρ.eq];refine A6 ?_;refine A7 rfl (fun h=>?_) (fun h=>?_)
 ·have hkn:k<n1:=by simpa using h
  obtain⟨x,hx⟩:=B4 (l:=H.Cores) (k:=k) (by omega)
  refine A6 ?_;refine C0 ?_;intro b9 w hw;refine B1 ?_;intro w hw;have hw:Wd Γ (.blk b9 (.cells (enc x).toArray 72)::.blk b1 (.cells #[.string H.Name,.slice a1 n1 c1,.slice a2 n2 c2,.slice a3 n3 c3,.slice a4 n4 c4,.slice a5 n5 c5] 69)::S) w:=hw
  refine A6 ?_;refine A7 rfl (fun h2=>?_) (fun h2=>?_)
  ·have hf:Aw x=false:=by
    simp[Aw,K3]at h2 ⊢;omega
   refine A6 ?_;exact⟨_,rfl,F6 rfl (by exact(Ga (AD hx hf)).symm),hw.drop.drop⟩
  ·have ht:Aw x=true:=by
    simp[Aw,K3]at h2 ⊢;omega
   refine A6 ?_;exact⟨μ-1,by omega,k+1,by omega,⟨rfl,rfl,rfl,rfl,trivial⟩,O5 hall hx ht,hw.drop⟩
 have hAc:(H.Cores).all Aw=true:=W5 hall (by have hkn:¬k<n1:=(by simpa using h);omega)
 clear h hall hρ hk;refine A6 ?_;refine B5 (fun μ ρ w=>∃(k:Nat),μ+k=n2∧Has ρ [(1,.pointer (some ⟨b1,0,none⟩)),(52,.slice a2 n2 c2),(53,.int .i64 n2),(54,.int .i64 k)]∧(∀i x,i<k→(cs)[i]? = some x→Er x=true)∧Wd Γ (.blk b1 (.cells #[.string H.Name,.slice a1 n1 c1,.slice a2 n2 c2,.slice a3 n3 c3,.slice a4 n4 c4,.slice a5 n5 c5] 69)::S) w) n2 ⟨0,by omega,⟨rfl,rfl,rfl,rfl,trivial⟩,fun i x h=>by omega,hw⟩ ?_
 clear hw;rintro μ ρ w ⟨k,hk,hρ,hall,hw⟩
 rw[hρ.eq];refine A6 ?_;refine A7 rfl (fun h=>?_) (fun h=>?_)
 ·have hkn:k<n2:=by simpa using h
  obtain⟨x,hx⟩:=B4 (l:=cs) (k:=k) (by omega)
  have hcx:=(hok x (List.mem_of_getElem? hx)).facts
  refine A6 ?_;refine C0 ?_;intro b9 w hw;refine B1 ?_;intro w hw;have hw:Wd Γ (.blk b9 (.cells (cC x).toArray 163)::.blk b1 (.cells #[.string H.Name,.slice a1 n1 c1,.slice a2 n2 c2,.slice a3 n3 c3,.slice a4 n4 c4,.slice a5 n5 c5] 69)::S) w:=hw
  refine A6 ?_;refine A7 rfl (fun h2=>?_) (fun h2=>?_)
  ·have hf:Er x=false:=by
    exact KP (Mb x hcx.1) h2
   refine A6 ?_;exact⟨_,rfl,F6 rfl (by rw[M4,←hcs,Hh,hAc];exact(Nc (Ga (AD hx hf))).symm),hw.drop.drop⟩
  ·have ht:Er x=true:=by
    exact Gq (Mb x hcx.1) h2
   refine A6 ?_;exact⟨μ-1,by omega,k+1,by omega,⟨rfl,rfl,rfl,rfl,trivial⟩,O5 hall hx ht,hw.drop⟩
 have hAh:(cs).all Er=true:=W5 hall (by have hkn:¬k<n2:=(by simpa using h);omega)
 clear h hall hρ hk;refine A6 ?_;refine B5 (fun μ ρ w=>∃(k:Nat),μ+k=n3∧Has ρ [(1,.pointer (some ⟨b1,0,none⟩)),(106,.slice a3 n3 c3),(107,.int .i64 n3),(108,.int .i64 k)]∧(∀i x,i<k→(H.Links)[i]? = some x→Au x=true)∧Wd Γ (.blk b1 (.cells #[.string H.Name,.slice a1 n1 c1,.slice a2 n2 c2,.slice a3 n3 c3,.slice a4 n4 c4,.slice a5 n5 c5] 69)::S) w) n3 ⟨0,by omega,⟨rfl,rfl,rfl,rfl,trivial⟩,fun i x h=>by omega,hw⟩ ?_
 clear hw;rintro μ ρ w ⟨k,hk,hρ,hall,hw⟩
 rw[hρ.eq];refine A6 ?_;refine A7 rfl (fun h=>?_) (fun h=>?_)
 ·have hkn:k<n3:=by simpa using h
  obtain⟨x,hx⟩:=B4 (l:=H.Links) (k:=k) (by omega)
  refine A6 ?_;refine C0 ?_;intro b9 w hw;refine B1 ?_;intro w hw;have hw:Wd Γ (.blk b9 (.cells (enc x).toArray 140)::.blk b1 (.cells #[.string H.Name,.slice a1 n1 c1,.slice a2 n2 c2,.slice a3 n3 c3,.slice a4 n4 c4,.slice a5 n5 c5] 69)::S) w:=hw
  refine A6 ?_;refine A7 rfl (fun h2=>?_) (fun h2=>?_)
  ·have hf:Au x=false:=by
    simp[Au,K3,AE]at h2 ⊢;omega
   refine A6 ?_;exact⟨_,rfl,F6 rfl (by rw[M4,←hcs,Hh,hAc,hAh];exact(Nc (Nc (AD hx hf))).symm),hw.drop.drop⟩
  ·have ht:Au x=true:=by
    simp[Au,K3,AE]at h2 ⊢;omega
   refine A6 ?_;exact⟨μ-1,by omega,k+1,by omega,⟨rfl,rfl,rfl,rfl,trivial⟩,O5 hall hx ht,hw.drop⟩
 have hAl:(H.Links).all Au=true:=W5 hall (by have hkn:¬k<n3:=(by simpa using h);omega)
 clear h hall hρ hk;refine A6 ?_;exact⟨_,rfl,F6 rfl (by rw[M4,←hcs,Hh,hAc,hAh,hAl];rfl),hw.drop⟩⟩
instance Sx{Γ:C8}{u:Value}{H:H1}[hh:Cl Γ u H]:PG Tryz.prog Γ 186 [u] (.bool (J2 H)):=⟨fun S w hw=>by
 obtain⟨a1,n1,c1,a2,n2,c2,a3,n3,c3,a4,n4,c4,a5,n5,c5,cs,rfl,hcs,hok,hsz,r1,r2,r3,r4,r5⟩:=hh.h;obtain⟨hn1,hm1,hx1⟩:=C6 r1
 obtain⟨hn2,hm2,hx2⟩:=C6 r2
 obtain⟨hn3,hm3,hx3⟩:=C6 r3
 obtain⟨hn4,hm4,hx4⟩:=C6 r4
 obtain⟨hn5,hm5,hx5⟩:=C6 r5
 simp only[List.length_map]at hn1 hn2 hn3 hn4 hn5
 refine A9 Tryz.func186 rfl rfl ?_
 refine A6 ?_;refine H9 ?_;intro b1 w hw;have hw:Wd Γ (.blk b1 (.cells #[.string H.Name,.slice a1 n1 c1,.slice a2 n2 c2,.slice a3 n3 c3,.slice a4 n4 c4,.slice a5 n5 c5] 69)::S) w:=hw
 refine A6 ?_;refine B5 (fun μ ρ w=>∃(k:Nat),μ+k=n4∧Has ρ [(1,.pointer (some ⟨b1,0,none⟩)),(3,.func (.func 241) #[] #[]),(9,.slice a4 n4 c4),(10,.int .i64 n4),(11,.int .i64 k)]∧(∀i x,i<k→(H.Mems)[i]? = some x→FY x=true)∧Wd Γ (.blk b1 (.cells #[.string H.Name,.slice a1 n1 c1,.slice a2 n2 c2,.slice a3 n3 c3,.slice a4 n4 c4,.slice a5 n5 c5] 69)::S) w) n4 ⟨0,by omega,⟨rfl,rfl,rfl,rfl,rfl,trivial⟩,fun i x h=>by omega,hw⟩ ?_
 clear hw;rintro μ ρ w ⟨k,hk,hρ,hall,hw⟩
 rw[hρ.eq];refine A6 ?_;refine A7 rfl (fun h=>?_) (fun h=>?_)
 ·have hkn:k<n4:=by simpa using h
  obtain⟨x,hx⟩:=B4 (l:=H.Mems) (k:=k) (by omega)
  refine A6 ?_;refine C0 ?_;intro b9 w hw;refine B1 ?_;intro w hw;have hw:Wd Γ (.blk b9 (.cells (enc x).toArray 157)::.blk b1 (.cells #[.string H.Name,.slice a1 n1 c1,.slice a2 n2 c2,.slice a3 n3 c3,.slice a4 n4 c4,.slice a5 n5 c5] 69)::S) w:=hw
  refine A6 ?_;refine gO (Kh x.Base x.Size) ?_
  refine A6 ?_;refine A7 rfl (fun h2=>?_) (fun h2=>?_)
  ·have hf:FY x=false:=by
    exact KP (Su x) h2
   refine A6 ?_;exact⟨_,rfl,F6 rfl (by exact(Ga (AD hx hf)).symm),hw.drop.drop⟩
  ·have ht:FY x=true:=by
    exact Gq (Su x) h2
   refine A6 ?_;exact⟨μ-1,by omega,k+1,by omega,⟨rfl,rfl,rfl,rfl,rfl,trivial⟩,O5 hall hx ht,hw.drop⟩
 have hAm:(H.Mems).all FY=true:=W5 hall (by have hkn:¬k<n4:=(by simpa using h);omega)
 clear h hall hρ hk;refine A6 ?_;refine B5 (fun μ ρ w=>∃(k:Nat),μ+k=n5∧Has ρ [(1,.pointer (some ⟨b1,0,none⟩)),(3,.func (.func 241) #[] #[]),(36,.slice a5 n5 c5),(37,.int .i64 n5),(38,.int .i64 k)]∧(∀i x,i<k→(H.Devs)[i]? = some x→Fe x=true)∧Wd Γ (.blk b1 (.cells #[.string H.Name,.slice a1 n1 c1,.slice a2 n2 c2,.slice a3 n3 c3,.slice a4 n4 c4,.slice a5 n5 c5] 69)::S) w) n5 ⟨0,by omega,⟨rfl,rfl,rfl,rfl,rfl,trivial⟩,fun i x h=>by omega,hw⟩ ?_
 clear hw;rintro μ ρ w ⟨k,hk,hρ,hall,hw⟩
 rw[hρ.eq];refine A6 ?_;refine A7 rfl (fun h=>?_) (fun h=>?_)
 ·have hkn:k<n5:=by simpa using h
  obtain⟨x,hx⟩:=B4 (l:=H.Devs) (k:=k) (by omega)
  refine A6 ?_;refine C0 ?_;intro b9 w hw;refine B1 ?_;intro w hw;have hw:Wd Γ (.blk b9 (.cells (enc x).toArray 159)::.blk b1 (.cells #[.string H.Name,.slice a1 n1 c1,.slice a2 n2 c2,.slice a3 n3 c3,.slice a4 n4 c4,.slice a5 n5 c5] 69)::S) w:=hw
  refine A6 ?_;refine gO (Kh x.Base x.Size) ?_
  refine A6 ?_;refine A7 rfl (fun h2=>?_) (fun h2=>?_)
  ·have hf:Fe x=false:=by
    exact KP (UJ x) h2
   refine A6 ?_;exact⟨_,rfl,F6 rfl (by rw[J2,hAm];exact(AD hx hf).symm),hw.drop.drop⟩
  ·have ht:Fe x=true:=by
    exact Gq (UJ x) h2
   refine A6 ?_;exact⟨μ-1,by omega,k+1,by omega,⟨rfl,rfl,rfl,rfl,rfl,trivial⟩,O5 hall hx ht,hw.drop⟩
 have hAd:(H.Devs).all Fe=true:=W5 hall (by have hkn:¬k<n5:=(by simpa using h);omega)
 clear h hall hρ hk;refine A6 ?_;exact⟨_,rfl,F6 rfl (by rw[J2,hAm,hAd];rfl),hw.drop⟩⟩
instance aL{Γ:C8}{u:Value}{H:H1}[hh:Cl Γ u H]:PG Tryz.prog Γ 187 [u] (.bool (x5 H)):=⟨fun S w hw=>by
 obtain⟨a1,n1,c1,a2,n2,c2,a3,n3,c3,a4,n4,c4,a5,n5,c5,cs,rfl,hcs,hok,hsz,r1,r2,r3,r4,r5⟩:=hh.h;obtain⟨hn1,hm1,hx1⟩:=C6 r1
 obtain⟨hn2,hm2,hx2⟩:=C6 r2
 obtain⟨hn3,hm3,hx3⟩:=C6 r3
 obtain⟨hn4,hm4,hx4⟩:=C6 r4
 obtain⟨hn5,hm5,hx5⟩:=C6 r5
 simp only[List.length_map]at hn1 hn2 hn3 hn4 hn5
 refine A9 Tryz.func187 rfl rfl ?_
 refine A6 ?_;refine H9 ?_;intro b1 w hw;have hw:Wd Γ (.blk b1 (.cells #[.string H.Name,.slice a1 n1 c1,.slice a2 n2 c2,.slice a3 n3 c3,.slice a4 n4 c4,.slice a5 n5 c5] 69)::S) w:=hw
 refine A6 ?_;refine B5 (fun μ ρ w=>∃(k:Nat),μ+k=n4∧Has ρ [(1,.pointer (some ⟨b1,0,none⟩)),(8,.slice a4 n4 c4),(9,.int .i64 n4),(10,.int .i64 k)]∧(∀i x,i<k→(H.Mems)[i]? = some x→Ia x=true)∧Wd Γ (.blk b1 (.cells #[.string H.Name,.slice a1 n1 c1,.slice a2 n2 c2,.slice a3 n3 c3,.slice a4 n4 c4,.slice a5 n5 c5] 69)::S) w) n4 ⟨0,by omega,⟨rfl,rfl,rfl,rfl,trivial⟩,fun i x h=>by omega,hw⟩ ?_
 clear hw;rintro μ ρ w ⟨k,hk,hρ,hall,hw⟩
 rw[hρ.eq];refine A6 ?_;refine A7 rfl (fun h=>?_) (fun h=>?_)
 ·have hkn:k<n4:=by simpa using h
  obtain⟨x,hx⟩:=B4 (l:=H.Mems) (k:=k) (by omega)
  refine A6 ?_;refine C0 ?_;intro b9 w hw;refine B1 ?_;intro w hw;have hw:Wd Γ (.blk b9 (.cells (enc x).toArray 157)::.blk b1 (.cells #[.string H.Name,.slice a1 n1 c1,.slice a2 n2 c2,.slice a3 n3 c3,.slice a4 n4 c4,.slice a5 n5 c5] 69)::S) w:=hw
  refine A6 ?_;refine A7 rfl (fun h2=>?_) (fun h2=>?_)
  ·have hf:Ia x=false:=by
    exact KP (Qm x) h2
   refine A6 ?_;exact⟨_,rfl,F6 rfl (by exact(Ga (AD hx hf)).symm),hw.drop.drop⟩
  ·have ht:Ia x=true:=by
    exact Gq (Qm x) h2
   refine A6 ?_;exact⟨μ-1,by omega,k+1,by omega,⟨rfl,rfl,rfl,rfl,trivial⟩,O5 hall hx ht,hw.drop⟩
 have hAm:(H.Mems).all Ia=true:=W5 hall (by have hkn:¬k<n4:=(by simpa using h);omega)
 clear h hall hρ hk;refine A6 ?_;refine B5 (fun μ ρ w=>∃(k:Nat),μ+k=n5∧Has ρ [(1,.pointer (some ⟨b1,0,none⟩)),(32,.slice a5 n5 c5),(33,.int .i64 n5),(34,.int .i64 k)]∧(∀i x,i<k→(H.Devs)[i]? = some x→Ie x=true)∧Wd Γ (.blk b1 (.cells #[.string H.Name,.slice a1 n1 c1,.slice a2 n2 c2,.slice a3 n3 c3,.slice a4 n4 c4,.slice a5 n5 c5] 69)::S) w) n5 ⟨0,by omega,⟨rfl,rfl,rfl,rfl,trivial⟩,fun i x h=>by omega,hw⟩ ?_
 clear hw;rintro μ ρ w ⟨k,hk,hρ,hall,hw⟩
 rw[hρ.eq];refine A6 ?_;refine A7 rfl (fun h=>?_) (fun h=>?_)
 ·have hkn:k<n5:=by simpa using h
  obtain⟨x,hx⟩:=B4 (l:=H.Devs) (k:=k) (by omega)
  refine A6 ?_;refine C0 ?_;intro b9 w hw;refine B1 ?_;intro w hw;have hw:Wd Γ (.blk b9 (.cells (enc x).toArray 159)::.blk b1 (.cells #[.string H.Name,.slice a1 n1 c1,.slice a2 n2 c2,.slice a3 n3 c3,.slice a4 n4 c4,.slice a5 n5 c5] 69)::S) w:=hw
  refine A6 ?_;refine A7 rfl (fun h2=>?_) (fun h2=>?_)
  ·have hf:Ie x=false:=by
    exact KP (Oy x) h2
   refine A6 ?_;exact⟨_,rfl,F6 rfl (by rw[x5,hAm];exact(AD hx hf).symm),hw.drop.drop⟩
  ·have ht:Ie x=true:=by
    exact Gq (Oy x) h2
   refine A6 ?_;exact⟨μ-1,by omega,k+1,by omega,⟨rfl,rfl,rfl,rfl,trivial⟩,O5 hall hx ht,hw.drop⟩
 have hAd:(H.Devs).all Ie=true:=W5 hall (by have hkn:¬k<n5:=(by simpa using h);omega)
 clear h hall hρ hk;refine A6 ?_;exact⟨_,rfl,F6 rfl (by rw[x5,hAm,hAd];rfl),hw.drop⟩⟩
class RY(Γ:C8)(v:Value)(sz:outParam Nat)(rows:outParam (List (List Value))):Prop where
 h:D9 Γ v sz rows
instance:df Tryz.prog 304:=⟨⟨3,by kernel_rfl,by kernel_rfl,by kernel_rfl⟩⟩
abbrev G6(l:List (Int×Int)):List (List Value):=l.map fun p=>[.int .i64 p.1,.int .i64 p.2]
theorem C9{α:Type}{l:List α}{k:Nat}{x:α}(h:l[k]? = some x):l.take (k+1)=l.take k++[x]:=by rw[List.take_add_one,h];rfl
theorem L8{α:Type}{l:List α}{x:α}:(l++[x]).Nodup↔l.Nodup∧x∉l:=by
 rw[List.nodup_append];constructor
 ·rintro⟨h1,-,h3⟩;exact⟨h1,fun hx=>h3 x hx x (by simp) rfl⟩
 ·rintro⟨h1,h2⟩;exact⟨h1,by simp,fun a ha b hb=>by simp at hb;subst hb;rintro rfl;exact h2 ha⟩
theorem q9{α:Type}{l:List α}{k:Nat}{x:α}(h:l[k]? = some x)(hm:x∈l.take k):¬l.Nodup:=fun hn=>by
 have h1:(l.take (k+1)).Nodup:=hn.sublist (List.take_sublist _ _)
 rw[C9 h,L8]at h1;exact h1.2 hm
section
variable {α:Type}[DecidableEq α]{l:List α}{x:α}
abbrev L4(l:List α):List (α×Bool):=l.map fun x=>(x,true)
theorem HV:∀ {l:List α},(De (L4 l) x).isSome=true↔x∈l
 | []=>by simp[De,L4]
 | y::l=>by
  have ih:=HV (l:=l)
  unfold De at ih ⊢
  by_cases h:y=x
  ·simp[L4,List.findIdx?_cons,h]
  ·simp only[L4,List.map_cons,List.findIdx?_cons,h,decide_false,Bool.false_eq_true,if_false,Option.isSome_map]
   rw[ih];simp[Ne.symm h]
theorem u7(h:x∈l):F1 (L4 l) x=some true:=by
 have h2:=HV.2 h
 unfold F1;cases hi:De (L4 l) x with
 | none=>rw[hi]at h2;cases h2
 | some i=>
  obtain⟨v,hv⟩:=DI hi
  obtain⟨y,hy,he⟩:=List.mem_map.1 (List.mem_of_getElem? hv)
  cases he
  simp only[Option.bind_some,hv];rfl
theorem seen_none(h:x∉l):F1 (L4 l) x=none:=by
 unfold F1;cases hi:De (L4 l) x with
 | none=>rfl
 | some i=>exact absurd (HV.1 (by rw[hi];rfl)) h
theorem Z3(h:x∉l):Q3 (L4 l) x true=L4 (l++[x]):=by
 unfold Q3;cases hi:De (L4 l) x with
 | none=>simp[L4]
 | some i=>exact absurd (HV.1 (by rw[hi];rfl)) h
end
theorem t7{Γ:C8}{S:List B2}{w:World}{v:Value}{xs:List (Int)}(hr:P6 Γ S v 1 (A8 xs))(hw:Wd Γ S w):Calls Tryz.prog 242 #[v] w fun e w'=>e=.returned (.bool (decide xs.Nodup))∧Wd Γ S w':=by
 obtain⟨a,n,c,rfl,hn,hnc,hc⟩:=hr.shape;have hnr:=hn
 simp only[A8,List.length_map]at hn
 refine A9 Tryz.func242 rfl rfl ?_
 refine A6 ?_;refine F0 rfl rfl (J1 (K:=3) (α:=Int) (f:=Value.bool) hw fun bm w hw=>?_)
 refine A6 ?_;refine B5 (fun μ ρ w=>∃(k:Nat),μ+k=n∧Has ρ [(3,.map (some bm)),(7,.slice a n c),(8,.int .i64 n),(9,.int .i64 k)]∧(xs.take k).Nodup∧Wd Γ (B2.mpT Tryz.prog 3 Value.bool bm (L4 (xs.take k))::S) w) n ⟨0,by omega,⟨rfl,rfl,rfl,rfl,trivial⟩,by simp,hw⟩ ?_
 clear hw;rintro μ ρ w ⟨k,hk,hρ,hnd,hw⟩
 have hr1:P6 Γ (B2.mpT Tryz.prog 3 Value.bool bm (L4 (xs.take k))::S) (.slice a n c) 1 (A8 xs):=hr.cons
 rw[hρ.eq];refine A6 ?_;refine A7 rfl (fun h=>?_) (fun h=>?_)
 ·have hkn:k<n:=by simpa using h
  obtain⟨x,hx⟩:=B4 (l:=xs) (k:=k) (by omega)
  refine A6 ?_;letI hdm:Decidable (x∈xs.take k):=Classical.propDecidable _
  refine Zz rfl rfl (v:=.bool (decide (x∈xs.take k))) ?_ ?_
  ·by_cases hm:x∈xs.take k
   ·rw[decide_eq_true hm];exact L6 (P:=Tryz.prog) (K:=3) (α:=Int) (f:=Value.bool) (i:=0) hw rfl rfl rfl (u7 hm) false
   ·rw[decide_eq_false hm];exact L5 (P:=Tryz.prog) (K:=3) (α:=Int) (f:=Value.bool) (i:=0) hw rfl rfl rfl (seen_none hm) false
  refine A6 ?_;refine A7 rfl (fun h2=>?_) (fun h2=>?_)
  ·have hm:x∈xs.take k:=by simpa using h2
   refine A6 ?_;exact⟨_,rfl,F6 rfl (decide_eq_false (q9 hx hm)).symm,hw.drop⟩
  ·have hm:x∉xs.take k:=by simpa using h2
   refine A6 ?_;refine F0 rfl rfl (I7 (P:=Tryz.prog) (K:=3) (α:=Int) (f:=Value.bool) (i:=0) (v:=true) hw rfl rfl rfl rfl fun w hw=>?_)
   rw[Z3 hm,←C9 hx]at hw;refine A6 ?_;exact⟨μ-1,by omega,k+1,by omega,⟨rfl,rfl,rfl,rfl,trivial⟩,by rw[C9 hx];exact L8.2 ⟨hnd,hm⟩,hw⟩
 ·have hkn:¬k<n:=by simpa using h
  rw[List.take_of_length_le (by omega)]at hnd
  refine A6 ?_;exact⟨_,rfl,F6 rfl (decide_eq_true hnd).symm,hw.drop⟩
theorem Y9{Γ:C8}{S:List B2}{w:World}{v:Value}{xs:List (ByteArray)}(hr:P6 Γ S v 1 (D5 xs))(hw:Wd Γ S w):Calls Tryz.prog 243 #[v] w fun e w'=>e=.returned (.bool (decide xs.Nodup))∧Wd Γ S w':=by
 obtain⟨a,n,c,rfl,hn,hnc,hc⟩:=hr.shape;have hnr:=hn
 simp only[List.length_map]at hn
 refine A9 Tryz.func243 rfl rfl ?_
 refine A6 ?_;refine F0 rfl rfl (J1 (K:=9) (α:=ByteArray) (f:=Value.bool) hw fun bm w hw=>?_)
 refine A6 ?_;refine B5 (fun μ ρ w=>∃(k:Nat),μ+k=n∧Has ρ [(3,.map (some bm)),(7,.slice a n c),(8,.int .i64 n),(9,.int .i64 k)]∧(xs.take k).Nodup∧Wd Γ (B2.mpT Tryz.prog 9 Value.bool bm (L4 (xs.take k))::S) w) n ⟨0,by omega,⟨rfl,rfl,rfl,rfl,trivial⟩,by simp,hw⟩ ?_
 clear hw;rintro μ ρ w ⟨k,hk,hρ,hnd,hw⟩
 have hr1:P6 Γ (B2.mpT Tryz.prog 9 Value.bool bm (L4 (xs.take k))::S) (.slice a n c) 1 (D5 xs):=hr.cons
 rw[hρ.eq];refine A6 ?_;refine A7 rfl (fun h=>?_) (fun h=>?_)
 ·have hkn:k<n:=by simpa using h
  obtain⟨x,hx⟩:=B4 (l:=xs) (k:=k) (by omega)
  refine A6 ?_;refine A7 rfl (fun h2=>?_) (fun h2=>?_)
  ·have hm:x∈xs.take k:=Classical.byContradiction fun hm=>by rw[seen_none hm]at h2;cases h2
   refine A6 ?_;exact⟨_,rfl,F6 rfl (decide_eq_false (q9 hx hm)).symm,hw.drop⟩
  ·have hm:x∉xs.take k:=fun hm=>by rw[u7 hm]at h2;cases h2
   refine A6 ?_;refine Xt (i:=0) (f:=Value.bool) (v:=true) ?_
   intro w hw;rw[Z3 hm,←C9 hx]at hw;refine A6 ?_;exact⟨μ-1,by omega,k+1,by omega,⟨rfl,rfl,rfl,rfl,trivial⟩,by rw[C9 hx];exact L8.2 ⟨hnd,hm⟩,hw⟩
 ·have hkn:¬k<n:=by simpa using h
  rw[List.take_of_length_le (by omega)]at hnd
  refine A6 ?_;exact⟨_,rfl,F6 rfl (decide_eq_true hnd).symm,hw.drop⟩
theorem Ek{Γ:C8}{S:List B2}{w:World}{v:Value}{xs:List (Int×Int)}(hr:P6 Γ S v 2 (G6 xs))(hw:Wd Γ S w):Calls Tryz.prog 244 #[v] w fun e w'=>e=.returned (.bool (decide xs.Nodup))∧Wd Γ S w':=by
 obtain⟨a,n,c,rfl,hn,hnc,hc⟩:=hr.shape;have hnr:=hn
 simp only[List.length_map]at hn
 refine A9 Tryz.func244 rfl rfl ?_
 refine A6 ?_;refine F0 rfl rfl (J1 (K:=304) (α:=Int×Int) (f:=Value.bool) hw fun bm w hw=>?_)
 refine A6 ?_;refine B5 (fun μ ρ w=>∃(k:Nat),μ+k=n∧Has ρ [(3,.map (some bm)),(7,.slice a n c),(8,.int .i64 n),(9,.int .i64 k)]∧(xs.take k).Nodup∧Wd Γ (B2.mpT Tryz.prog 304 Value.bool bm (L4 (xs.take k))::S) w) n ⟨0,by omega,⟨rfl,rfl,rfl,rfl,trivial⟩,by simp,hw⟩ ?_
 clear hw;rintro μ ρ w ⟨k,hk,hρ,hnd,hw⟩
 have hr1:P6 Γ (B2.mpT Tryz.prog 304 Value.bool bm (L4 (xs.take k))::S) (.slice a n c) 2 (G6 xs):=hr.cons
 rw[hρ.eq];refine A6 ?_;refine A7 rfl (fun h=>?_) (fun h=>?_)
 ·have hkn:k<n:=by simpa using h
  obtain⟨x,hx⟩:=B4 (l:=xs) (k:=k) (by omega)
  refine A6 ?_;refine C0 ?_;intro b5 w hw;refine B1 ?_;intro w hw;have hw:Wd Γ (.blk b5 (.cells #[.int .i64 x.1,.int .i64 x.2] 304)::B2.mpT Tryz.prog 304 Value.bool bm (L4 (xs.take k))::S) w:=hw
  refine A6 ?_;letI hdm:Decidable (x∈xs.take k):=Classical.propDecidable _
  refine Zz rfl rfl (v:=.bool (decide (x∈xs.take k))) ?_ ?_
  ·by_cases hm:x∈xs.take k
   ·rw[decide_eq_true hm];exact L6 (P:=Tryz.prog) (K:=304) (α:=Int×Int) (f:=Value.bool) (i:=1) hw rfl rfl rfl (u7 hm) false
   ·rw[decide_eq_false hm];exact L5 (P:=Tryz.prog) (K:=304) (α:=Int×Int) (f:=Value.bool) (i:=1) hw rfl rfl rfl (seen_none hm) false
  refine A6 ?_;refine A7 rfl (fun h2=>?_) (fun h2=>?_)
  ·have hm:x∈xs.take k:=by simpa using h2
   refine A6 ?_;exact⟨_,rfl,F6 rfl (decide_eq_false (q9 hx hm)).symm,hw.drop.drop⟩
  ·have hm:x∉xs.take k:=by simpa using h2
   refine A6 ?_;refine F0 rfl rfl (I7 (P:=Tryz.prog) (K:=304) (α:=Int×Int) (f:=Value.bool) (i:=1) (v:=true) hw rfl rfl rfl rfl fun w hw=>?_)
   rw[Z3 hm,←C9 hx]at hw;refine A6 ?_;exact⟨μ-1,by omega,k+1,by omega,⟨rfl,rfl,rfl,rfl,trivial⟩,by rw[C9 hx];exact L8.2 ⟨hnd,hm⟩,hw.drop⟩
 ·have hkn:¬k<n:=by simpa using h
  rw[List.take_of_length_le (by omega)]at hnd
  refine A6 ?_;exact⟨_,rfl,F6 rfl (decide_eq_true hnd).symm,hw.drop⟩
def Ex(b:UInt8):Bool:=!(((decide (((b.toNat:Nat):Int)<32)||decide (126<((b.toNat:Nat):Int)))||decide (((b.toNat:Nat):Int)=34))||decide (((b.toNat:Nat):Int)=92))
def Wp(s:ByteArray):Bool:=s.data.toList.all Ex
instance fM(s:ByteArray)[hs:SB s]:PC Tryz.prog 238 [.string s] (.bool (Wp s)):=⟨fun w=>by
 have hs:=hs.h
 have hl:=P8 s
 refine A9 Tryz.func238 rfl rfl ?_
 refine A6 ?_;refine B5 (fun μ ρ w'=>∃k:Nat,μ+k=s.size∧Has ρ [(0,.string s),(3,.int .i64 k)]∧(∀i x,i<k→(M8 s)[i]? = some x→Ex x=true)∧w'=w) s.size ⟨0,by omega,⟨rfl,rfl,trivial⟩,fun i x h=>by omega,rfl⟩ ?_
 rintro μ ρ w' ⟨k,hk,hρ,hall,rfl⟩
 rw[hρ.eq];refine A6 ?_;refine A7 rfl (fun h=>?_) (fun h=>?_)
 ·have hkn:k<s.size:=by simpa using h
  obtain⟨c,hc⟩:=B4 (l:=M8 s) (k:=k) (by omega)
  have hg:s.data.toList.getD (k:Int).toNat 0=c:=by
   show (M8 s).getD k 0=c
   rw[List.getD_eq_getElem?_getD,hc];rfl
  refine A6 ?_;rw[hg];refine A7 rfl (fun h2=>?_) (fun h2=>?_)
  ·have hf:Ex c=false:=by unfold Ex;rw[h2];rfl
   refine A6 ?_;exact⟨_,rfl,F6 rfl (AD hc hf).symm,rfl⟩
  ·have hf:Ex c=true:=by unfold Ex;rw[h2];rfl
   refine A6 ?_;exact⟨μ-1,by omega,k+1,by omega,⟨rfl,rfl,trivial⟩,O5 hall hc hf,rfl⟩
 ·have hkn:¬k<s.size:=by simpa using h
  refine A6 ?_;exact⟨_,rfl,F6 rfl (W5 hall (by omega)).symm,rfl⟩⟩
def AP(H:H1):Bool:=(decide (H.Name≠⟨#[]⟩)&&decide (H.Name.size≤24))&&Wp H.Name
def AF(H:H1):Bool:=((AP H&&H.Caches.all fun c=>G7 c.Name)&&H.Mems.all fun c=>G7 c.Name)&&H.Devs.all fun c=>G7 c.Name
theorem SA(cs:List E1):((cs.map E1.T).all fun c=>G7 c.Name)=cs.all fun c=>G7 c.Name:=by rw[List.all_map];rfl
theorem Kp{α:Type}{l:List α}{k:Nat}{x:α}{p:α→Bool}{a:Bool}(hx:l[k]? = some x):Value.bool ((a&&(l.take k).all p)&&p x)=.bool (a&&(l.take (k+1)).all p):=by
 rw[C9 hx,List.all_append];simp[Bool.and_assoc]
theorem Ya{p q:Prop}[Decidable p][Decidable q]{a b:Bool}(h:p↔q)(h2:a=b):(decide p&&a)=(decide q&&b):=by rw[decide_eq_decide.2 h,h2]
instance eT{Γ:C8}{u:Value}{H:H1}[hh:Cl Γ u H]:PG Tryz.prog Γ 183 [u] (.bool (AF H)):=⟨fun S w hw=>by
 obtain⟨a1,n1,c1,a2,n2,c2,a3,n3,c3,a4,n4,c4,a5,n5,c5,cs,rfl,hcs,hok,hsz,r1,r2,r3,r4,r5⟩:=hh.h;obtain⟨hn1,hm1,hx1⟩:=C6 r1
 obtain⟨hn2,hm2,hx2⟩:=C6 r2
 obtain⟨hn3,hm3,hx3⟩:=C6 r3
 obtain⟨hn4,hm4,hx4⟩:=C6 r4
 obtain⟨hn5,hm5,hx5⟩:=C6 r5
 simp only[List.length_map]at hn1 hn2 hn3 hn4 hn5
 refine A9 Tryz.func183 rfl rfl ?_
 refine A6 ?_;refine H9 ?_;intro b1 w hw;have hw:Wd Γ (.blk b1 (.cells #[.string H.Name,.slice a1 n1 c1,.slice a2 n2 c2,.slice a3 n3 c3,.slice a4 n4 c4,.slice a5 n5 c5] 69)::S) w:=hw
 obtain⟨z1,z2,z3,z4⟩:=hsz;haveI:SB H.Name:=⟨z1⟩
 refine A6 ?_;have hk0:((decide (H.Name≠⟨#[]⟩)&&decide ((H.Name.size:Int)≤24))&&Wp H.Name)=AP H:=by
  unfold AP;rw[show decide ((H.Name.size:Int)≤24)=decide (H.Name.size≤24) from decide_eq_decide.2 (by omega)]
 rw[hk0];have hq:(AP H)=(AP H&&(cs.take 0).all fun c=>G7 c.Name):=by simp
 rw[hq];refine A6 ?_;refine B5 (fun μ ρ w=>∃(k:Nat),μ+k=n2∧Has ρ [(1,.pointer (some ⟨b1,0,none⟩)),(3,.bool (AP H&&(cs.take k).all fun c=>G7 c.Name)),(25,.slice a2 n2 c2),(26,.int .i64 n2),(27,.int .i64 k)]∧Wd Γ (.blk b1 (.cells #[.string H.Name,.slice a1 n1 c1,.slice a2 n2 c2,.slice a3 n3 c3,.slice a4 n4 c4,.slice a5 n5 c5] 69)::S) w) n2 ⟨0,by omega,⟨rfl,rfl,rfl,rfl,rfl,trivial⟩,hw⟩ ?_
 clear hw hq;rintro μ ρ w ⟨k,hk,hρ,hw⟩
 rw[hρ.eq];refine A6 ?_;refine A7 rfl (fun h=>?_) (fun h=>?_)
 ·have hkn:k<n2:=by simpa using h
  obtain⟨x,hx⟩:=B4 (l:=cs) (k:=k) (by omega)
  haveI:SB x.Name:=⟨z2 x.T (by rw[←hcs];exact List.mem_map.2 ⟨x,List.mem_of_getElem? hx,rfl⟩)⟩
  refine A6 ?_;refine C0 ?_;intro b9 w hw;refine B1 ?_;intro w hw;have hw:Wd Γ (.blk b9 (.cells (cC x).toArray 163)::.blk b1 (.cells #[.string H.Name,.slice a1 n1 c1,.slice a2 n2 c2,.slice a3 n3 c3,.slice a4 n4 c4,.slice a5 n5 c5] 69)::S) w:=hw
  refine A6 ?_;exact⟨μ-1,by omega,k+1,by omega,⟨rfl,Kp hx,rfl,rfl,rfl,trivial⟩,hw.drop⟩
 have hkn:¬k<n2:=by simpa using h
 rw[List.take_of_length_le (l:=cs) (by omega)]
 clear h hkn hρ hk;have hq:((AP H&&cs.all fun c=>G7 c.Name))=((AP H&&cs.all fun c=>G7 c.Name)&&(H.Mems.take 0).all fun c=>G7 c.Name):=by simp
 rw[hq];refine A6 ?_;refine B5 (fun μ ρ w=>∃(k:Nat),μ+k=n4∧Has ρ [(1,.pointer (some ⟨b1,0,none⟩)),(3,.bool ((AP H&&cs.all fun c=>G7 c.Name)&&(H.Mems.take k).all fun c=>G7 c.Name)),(39,.slice a4 n4 c4),(40,.int .i64 n4),(41,.int .i64 k)]∧Wd Γ (.blk b1 (.cells #[.string H.Name,.slice a1 n1 c1,.slice a2 n2 c2,.slice a3 n3 c3,.slice a4 n4 c4,.slice a5 n5 c5] 69)::S) w) n4 ⟨0,by omega,⟨rfl,rfl,rfl,rfl,rfl,trivial⟩,hw⟩ ?_
 clear hw hq;rintro μ ρ w ⟨k,hk,hρ,hw⟩
 rw[hρ.eq];refine A6 ?_;refine A7 rfl (fun h=>?_) (fun h=>?_)
 ·have hkn:k<n4:=by simpa using h
  obtain⟨x,hx⟩:=B4 (l:=H.Mems) (k:=k) (by omega)
  haveI:SB x.Name:=⟨z3 x (List.mem_of_getElem? hx)⟩
  refine A6 ?_;refine C0 ?_;intro b9 w hw;refine B1 ?_;intro w hw;have hw:Wd Γ (.blk b9 (.cells (enc x).toArray 157)::.blk b1 (.cells #[.string H.Name,.slice a1 n1 c1,.slice a2 n2 c2,.slice a3 n3 c3,.slice a4 n4 c4,.slice a5 n5 c5] 69)::S) w:=hw
  refine A6 ?_;exact⟨μ-1,by omega,k+1,by omega,⟨rfl,Kp hx,rfl,rfl,rfl,trivial⟩,hw.drop⟩
 have hkn:¬k<n4:=by simpa using h
 rw[List.take_of_length_le (l:=H.Mems) (by omega)]
 clear h hkn hρ hk;have hq:(((AP H&&cs.all fun c=>G7 c.Name)&&H.Mems.all fun c=>G7 c.Name))=(((AP H&&cs.all fun c=>G7 c.Name)&&H.Mems.all fun c=>G7 c.Name)&&(H.Devs.take 0).all fun c=>G7 c.Name):=by simp
 rw[hq];refine A6 ?_;refine B5 (fun μ ρ w=>∃(k:Nat),μ+k=n5∧Has ρ [(1,.pointer (some ⟨b1,0,none⟩)),(3,.bool (((AP H&&cs.all fun c=>G7 c.Name)&&H.Mems.all fun c=>G7 c.Name)&&(H.Devs.take k).all fun c=>G7 c.Name)),(53,.slice a5 n5 c5),(54,.int .i64 n5),(55,.int .i64 k)]∧Wd Γ (.blk b1 (.cells #[.string H.Name,.slice a1 n1 c1,.slice a2 n2 c2,.slice a3 n3 c3,.slice a4 n4 c4,.slice a5 n5 c5] 69)::S) w) n5 ⟨0,by omega,⟨rfl,rfl,rfl,rfl,rfl,trivial⟩,hw⟩ ?_
 clear hw hq;rintro μ ρ w ⟨k,hk,hρ,hw⟩
 rw[hρ.eq];refine A6 ?_;refine A7 rfl (fun h=>?_) (fun h=>?_)
 ·have hkn:k<n5:=by simpa using h
  obtain⟨x,hx⟩:=B4 (l:=H.Devs) (k:=k) (by omega)
  haveI:SB x.Name:=⟨z4 x (List.mem_of_getElem? hx)⟩
  refine A6 ?_;refine C0 ?_;intro b9 w hw;refine B1 ?_;intro w hw;have hw:Wd Γ (.blk b9 (.cells (enc x).toArray 159)::.blk b1 (.cells #[.string H.Name,.slice a1 n1 c1,.slice a2 n2 c2,.slice a3 n3 c3,.slice a4 n4 c4,.slice a5 n5 c5] 69)::S) w:=hw
  refine A6 ?_;exact⟨μ-1,by omega,k+1,by omega,⟨rfl,Kp hx,rfl,rfl,rfl,trivial⟩,hw.drop⟩
 have hkn:¬k<n5:=by simpa using h
 rw[List.take_of_length_le (l:=H.Devs) (by omega)]
 clear h hkn hρ hk;refine A6 ?_;refine⟨_,rfl,F6 rfl ?_,hw.drop⟩
 unfold AF;rw[←hcs,SA]⟩
instance dT{Γ:C8}{u:Value}{H:H1}[hh:Cl Γ u H]:PG Tryz.prog Γ 184 [u] (.bool (U1 H)):=⟨fun S w hw=>by
 obtain⟨a1,n1,c1,a2,n2,c2,a3,n3,c3,a4,n4,c4,a5,n5,c5,cs,rfl,hcs,hok,hsz,r1,r2,r3,r4,r5⟩:=hh.h;obtain⟨hn1,hm1,hx1⟩:=C6 r1
 obtain⟨hn2,hm2,hx2⟩:=C6 r2
 obtain⟨hn3,hm3,hx3⟩:=C6 r3
 obtain⟨hn4,hm4,hx4⟩:=C6 r4
 obtain⟨hn5,hm5,hx5⟩:=C6 r5
 simp only[List.length_map]at hn1 hn2 hn3 hn4 hn5
 refine A9 Tryz.func184 rfl rfl ?_
 refine A6 ?_;refine H9 ?_;intro b1 w hw;have hw:Wd Γ (.blk b1 (.cells #[.string H.Name,.slice a1 n1 c1,.slice a2 n2 c2,.slice a3 n3 c3,.slice a4 n4 c4,.slice a5 n5 c5] 69)::S) w:=hw
 refine A6 ?_;refine⟨_,rfl,F6 rfl ?_,hw.drop⟩
 have hl:H.Caches.length=cs.length:=by rw[←hcs];simp
 unfold U1;rw[hl,hn1,hn2,hn3,hn4,hn5];simp only[Bool.and_assoc]
 refine Ya (by omega) (Ya (by omega) (Ya (by omega) (Ya (by omega) (Ya (by omega) ?_))))
 exact decide_eq_decide.2 (by omega)⟩
set_option maxHeartbeats 8000000
theorem Q7{Γ:C8}{S:List B2}{w:World}{i e sz n c:Nat}{a:Option Addr}{rows:List (List Value)}(hw:Wd Γ S w)(hi:S[i]? = some (.own (.slice a n c) e sz rows)):n=rows.length:=by
 obtain⟨_,_,_,h1,h2,-,-⟩:=hw.own_shape hi;cases h1;exact h2
def Y2(l:G3):Int×Int:=(if l.B<l.A then l.B else l.A,if l.A<l.B then l.B else l.A)
def Y7(H:H1):Bool:=(H.Caches.all fun c=>decide c.Cores.Nodup)&&(decide (H.Cores.map (·.ID)).Nodup&&decide (H.Caches.map (·.Name)).Nodup&&decide (H.Mems.map (·.Name)).Nodup&&decide (H.Devs.map (·.Name)).Nodup&&decide (H.Devs.map (·.IRQ)).Nodup&&decide (H.Links.map Y2).Nodup)
theorem MS(cs:List E1):((cs.map E1.T).all fun c=>decide c.Cores.Nodup)=cs.all fun c=>decide c.Cores.Nodup:=by rw[List.all_map];rfl
theorem w5{H:H1}(h:U1 H=true):1≤H.Cores.length∧H.Cores.length≤32∧H.Caches.length≤64∧H.Links.length≤256∧H.Mems.length≤64∧H.Devs.length≤32:=by
 unfold U1 at h;simp only[Bool.and_eq_true,decide_eq_true_eq]at h
 omega
instance:TBA Tryz.prog 304 1 [.int .i64 0,.int .i64 0]:=⟨by kernel_rfl,by kernel_rfl⟩
section
attribute [local semireducible] gv
theorem HH{P:Program}{n:Nat}{opa:Array Oper}{QQ:Exit→Fr→World→Prop}{rest:List Oper}{ρ:Fr}{w:World}{Γ:C8}{S:List B2}{d:Option Tmp}{ty:TypeId}{pos:String}{es:Array Edge}{f j dj:Nat}{want c:Bool}{args:List Operand}{tys:Array TypeId}{vs:List Value}{v:Value}[C7 P f]
  (hcall:c=true→Calls P f vs.toArray w fun e w'=>e=.returned v∧Wd Γ S w') (h:∀w',Wd Γ S w'→L P n opa QQ rest (D2 ρ d (gv c v)) w') (hw:Wd Γ S w:=by exact hw) (hj:(opa[j]?).bind (·.dst)=some dj:=by exact rfl) (hjn:G8 n (some dj)=true:=by exact rfl) (hc:G0 (ρ dj) want c:=by exact IN) (hd:G8 n d=true:=by exact rfl) (ha:c=true→EvL ρ args vs:=by intro hc;exact Ii) :
  L P n opa QQ (⟨d,.call { callee:=.value (.func f),args:=args.toArray,argTypes:=tys },ty,pos,es,some (j,want)⟩::rest) ρ w:=
 hJ hj hjn hd hc (fun hct=>D3 ((hcall hct).mono fun e w' ⟨h1,h2⟩=>⟨v,h1,by have:=h w' h2;rw[hct]at this;exact this⟩) (ha hct) hd) (fun hcf=>by have:=h w hw;rw[hcf]at this;exact this)
end
theorem GC{α:Type}{f:α→Int}{l:List α}{k:Nat}{x:α}(hx:l[k]? = some x):A8 ((l.take k).map f)++[[.int .i64 (f x)]]=A8 ((l.take (k+1)).map f):=by rw[C9 hx];simp[A8]
theorem Fl{α:Type}{f:α→ByteArray}{l:List α}{k:Nat}{x:α}(hx:l[k]? = some x):D5 ((l.take k).map f)++[[.string (f x)]]=D5 ((l.take (k+1)).map f):=by rw[C9 hx];simp[D5]
theorem Qy{α:Type}{f:α→Int×Int}{l:List α}{k:Nat}{x:α}(hx:l[k]? = some x):G6 ((l.take k).map f)++[[.int .i64 (f x).1,.int .i64 (f x).2]]=G6 ((l.take (k+1)).map f):=by rw[C9 hx];simp[G6]
theorem SD{Γ:C8}{S:List B2}{w:World}{u:Value}{H:H1}[hh:Cl Γ u H](hcnt:U1 H=true)(hw:Wd Γ S w):Calls Tryz.prog 188 #[u] w fun e w'=>e=.returned (.bool (Y7 H))∧Wd Γ S w':=by
 obtain⟨-,l1,l2,l3,l4,l5⟩:=w5 hcnt
 obtain⟨a1,n1,c1,a2,n2,c2,a3,n3,c3,a4,n4,c4,a5,n5,c5,cs,rfl,hcs,hok,hsz,r1,r2,r3,r4,r5⟩:=hh.h;obtain⟨hn1,hm1,hx1⟩:=C6 r1
 obtain⟨hn2,hm2,hx2⟩:=C6 r2
 obtain⟨hn3,hm3,hx3⟩:=C6 r3
 obtain⟨hn4,hm4,hx4⟩:=C6 r4
 obtain⟨hn5,hm5,hx5⟩:=C6 r5
 simp only[List.length_map]at hn1 hn2 hn3 hn4 hn5
 have hcl:cs.length=H.Caches.length:=by rw[←hcs];simp
 refine A9 Tryz.func188 rfl rfl ?_
 refine A6 ?_;refine H9 ?_;intro b1 w hw;have hw:Wd Γ (.blk b1 (.cells #[.string H.Name,.slice a1 n1 c1,.slice a2 n2 c2,.slice a3 n3 c3,.slice a4 n4 c4,.slice a5 n5 c5] 69)::S) w:=hw
 have hw:Wd Γ (.own (.slice none 0 0) 3 1 (A8 [])::.own (.slice none 0 0) 3 1 (A8 [])::.own (.slice none 0 0) 9 1 (D5 [])::.own (.slice none 0 0) 9 1 (D5 [])::.own (.slice none 0 0) 9 1 (D5 [])::.own (.slice none 0 0) 304 2 (G6 [])::.blk b1 (.cells #[.string H.Name,.slice a1 n1 c1,.slice a2 n2 c2,.slice a3 n3 c3,.slice a4 n4 c4,.slice a5 n5 c5] 69)::S) w:=Wd.addNil (Wd.addNil (Wd.addNil (Wd.addNil (Wd.addNil (Wd.addNil (hw))))))
 refine A6 ?_;refine B5 (fun μ ρ w=>∃(k:Nat) (q3:Option Addr) (m3 d3:Nat),μ+k=n1∧Has ρ [(1,.pointer (some ⟨b1,0,none⟩)),(3,.slice q3 m3 d3),(4,.slice none 0 0),(5,.slice none 0 0),(6,.slice none 0 0),(7,.slice none 0 0),(8,.slice none 0 0),(20,.slice a1 n1 c1),(21,.int .i64 n1),(22,.int .i64 k)]∧Wd Γ (.own (.slice q3 m3 d3) 3 1 (A8 ((H.Cores.take k).map (fun c=>c.ID)))::.own (.slice none 0 0) 3 1 (A8 [])::.own (.slice none 0 0) 9 1 (D5 [])::.own (.slice none 0 0) 9 1 (D5 [])::.own (.slice none 0 0) 9 1 (D5 [])::.own (.slice none 0 0) 304 2 (G6 [])::.blk b1 (.cells #[.string H.Name,.slice a1 n1 c1,.slice a2 n2 c2,.slice a3 n3 c3,.slice a4 n4 c4,.slice a5 n5 c5] 69)::S) w) n1 ⟨0,none,0,0,by omega,⟨rfl,rfl,rfl,rfl,rfl,rfl,rfl,rfl,rfl,rfl,trivial⟩,hw⟩ ?_
 clear hw;rintro μ ρ w ⟨k,q3,m3,d3,hk,hρ,hw⟩
 have hm3:=Q7 (i:=0) hw rfl
 simp only[A8,D5,G6,List.length_map,List.length_take]at hm3
 rw[hρ.eq];refine A6 ?_;refine A7 rfl (fun h=>?_) (fun h=>?_)
 ·have hkn:k<n1:=by simpa using h
  obtain⟨x,hx⟩:=B4 (l:=H.Cores) (k:=k) (by omega)
  refine A6 ?_;refine C0 ?_;intro b9 w hw;refine B1 ?_;intro w hw;have hw:Wd Γ (.blk b9 (.cells (enc x).toArray 72)::.own (.slice q3 m3 d3) 3 1 (A8 ((H.Cores.take k).map (fun c=>c.ID)))::.own (.slice none 0 0) 3 1 (A8 [])::.own (.slice none 0 0) 9 1 (D5 [])::.own (.slice none 0 0) 9 1 (D5 [])::.own (.slice none 0 0) 9 1 (D5 [])::.own (.slice none 0 0) 304 2 (G6 [])::.blk b1 (.cells #[.string H.Name,.slice a1 n1 c1,.slice a2 n2 c2,.slice a3 n3 c3,.slice a4 n4 c4,.slice a5 n5 c5] 69)::S) w:=hw
  refine A6 ?_;refine B6 [[.int .i64 x.ID]] ?_
  intro ab w hw;refine V7 (i:=2) (rows2:=[[.int .i64 x.ID]]) ?_ (Wd.own_rd (i:=0) hw rfl)
  intro v' w hw;obtain⟨q3',m3',d3',rfl,-,-,-⟩:=hw.own_shape (i:=2) rfl
  have hw:=hw.drop
  have hw:Wd Γ (.blk b9 (.cells (enc x).toArray 72)::.own (.slice q3' m3' d3') 3 1 (A8 ((H.Cores.take (k+1)).map (fun c=>c.ID)))::.own (.slice none 0 0) 3 1 (A8 [])::.own (.slice none 0 0) 9 1 (D5 [])::.own (.slice none 0 0) 9 1 (D5 [])::.own (.slice none 0 0) 9 1 (D5 [])::.own (.slice none 0 0) 304 2 (G6 [])::.blk b1 (.cells #[.string H.Name,.slice a1 n1 c1,.slice a2 n2 c2,.slice a3 n3 c3,.slice a4 n4 c4,.slice a5 n5 c5] 69)::S) w:=by
   rw[←GC hx];exact hw
  refine A6 ?_;exact⟨μ-1,by omega,k+1,_,_,_,by omega,⟨rfl,rfl,rfl,rfl,rfl,rfl,rfl,rfl,rfl,rfl,trivial⟩,hw.drop⟩
 have hkn:¬k<n1:=by simpa using h
 rw[List.take_of_length_le (l:=H.Cores) (by omega)]at hw
 clear h hkn hρ hk hm3;refine A6 ?_;refine B5 (fun μ ρ w=>∃(k:Nat) (q5:Option Addr) (m5 d5:Nat),μ+k=n2∧Has ρ [(1,.pointer (some ⟨b1,0,none⟩)),(3,.slice q3 m3 d3),(4,.slice none 0 0),(5,.slice q5 m5 d5),(6,.slice none 0 0),(7,.slice none 0 0),(8,.slice none 0 0),(33,.slice a2 n2 c2),(34,.int .i64 n2),(35,.int .i64 k)]∧(∀i x,i<k→cs[i]? = some x→(fun c:E1=>decide c.Cores.Nodup) x=true)∧Wd Γ (.own (.slice q3 m3 d3) 3 1 (A8 (H.Cores.map (fun c=>c.ID)))::.own (.slice none 0 0) 3 1 (A8 [])::.own (.slice q5 m5 d5) 9 1 (D5 ((cs.take k).map (fun c=>c.Name)))::.own (.slice none 0 0) 9 1 (D5 [])::.own (.slice none 0 0) 9 1 (D5 [])::.own (.slice none 0 0) 304 2 (G6 [])::.blk b1 (.cells #[.string H.Name,.slice a1 n1 c1,.slice a2 n2 c2,.slice a3 n3 c3,.slice a4 n4 c4,.slice a5 n5 c5] 69)::S) w) n2 ⟨0,none,0,0,by omega,⟨rfl,rfl,rfl,rfl,rfl,rfl,rfl,rfl,rfl,rfl,trivial⟩,fun i x h=>by omega,hw⟩ ?_
 clear hw;rintro μ ρ w ⟨k,q5,m5,d5,hk,hρ,hall,hw⟩
 have hm5:=Q7 (i:=2) hw rfl
 simp only[A8,D5,G6,List.length_map,List.length_take]at hm5
 rw[hρ.eq];refine A6 ?_;refine A7 rfl (fun h=>?_) (fun h=>?_)
 ·have hkn:k<n2:=by simpa using h
  obtain⟨x,hx⟩:=B4 (l:=cs) (k:=k) (by omega)
  refine A6 ?_;refine C0 ?_;intro b9 w hw;refine B1 ?_;intro w hw;have hw:Wd Γ (.blk b9 (.cells (cC x).toArray 163)::.own (.slice q3 m3 d3) 3 1 (A8 (H.Cores.map (fun c=>c.ID)))::.own (.slice none 0 0) 3 1 (A8 [])::.own (.slice q5 m5 d5) 9 1 (D5 ((cs.take k).map (fun c=>c.Name)))::.own (.slice none 0 0) 9 1 (D5 [])::.own (.slice none 0 0) 9 1 (D5 [])::.own (.slice none 0 0) 304 2 (G6 [])::.blk b1 (.cells #[.string H.Name,.slice a1 n1 c1,.slice a2 n2 c2,.slice a3 n3 c3,.slice a4 n4 c4,.slice a5 n5 c5] 69)::S) w:=hw
  refine A6 ?_;refine B6 [[.string x.Name]] ?_
  intro ab w hw;refine V7 (i:=4) (rows2:=[[.string x.Name]]) ?_ (Wd.own_rd (i:=0) hw rfl)
  intro v' w hw;obtain⟨q5',m5',d5',rfl,-,-,-⟩:=hw.own_shape (i:=4) rfl
  have hw:=hw.drop
  have hw:Wd Γ (.blk b9 (.cells (cC x).toArray 163)::.own (.slice q3 m3 d3) 3 1 (A8 (H.Cores.map (fun c=>c.ID)))::.own (.slice none 0 0) 3 1 (A8 [])::.own (.slice q5' m5' d5') 9 1 (D5 ((cs.take (k+1)).map (fun c=>c.Name)))::.own (.slice none 0 0) 9 1 (D5 [])::.own (.slice none 0 0) 9 1 (D5 [])::.own (.slice none 0 0) 304 2 (G6 [])::.blk b1 (.cells #[.string H.Name,.slice a1 n1 c1,.slice a2 n2 c2,.slice a3 n3 c3,.slice a4 n4 c4,.slice a5 n5 c5] 69)::S) w:=by
   rw[←Fl hx];exact hw
  refine A6 ?_;refine D3 ?_;refine(t7 (D9.rdS (hok x (List.mem_of_getElem? hx))) hw).mono ?_
  rintro r w ⟨rfl,hw⟩
  refine⟨_,rfl,?_⟩;refine A6 ?_;refine A7 rfl (fun h2=>?_) (fun h2=>?_)
  ·have hf:(fun c:E1=>decide c.Cores.Nodup) x=false:=by simpa using h2
   refine A6 ?_;exact⟨_,rfl,F6 rfl (by rw[Y7,←hcs,MS];exact(Ga (AD hx hf)).symm),hw.ds [0,0,0,0,0,0,0,0]⟩
  ·have ht:(fun c:E1=>decide c.Cores.Nodup) x=true:=by simpa using h2
   refine A6 ?_;exact⟨μ-1,by omega,k+1,_,_,_,by omega,⟨rfl,rfl,rfl,rfl,rfl,rfl,rfl,rfl,rfl,rfl,trivial⟩,O5 hall hx ht,hw.drop⟩
 have hkn:¬k<n2:=by simpa using h
 rw[List.take_of_length_le (l:=cs) (by omega)]at hw
 have hA:=W5 hall (by omega)
 clear h hkn hρ hk hall hm5;refine A6 ?_;refine B5 (fun μ ρ w=>∃(k:Nat) (q6:Option Addr) (m6 d6:Nat),μ+k=n4∧Has ρ [(1,.pointer (some ⟨b1,0,none⟩)),(3,.slice q3 m3 d3),(4,.slice none 0 0),(5,.slice q5 m5 d5),(6,.slice q6 m6 d6),(7,.slice none 0 0),(8,.slice none 0 0),(50,.slice a4 n4 c4),(51,.int .i64 n4),(52,.int .i64 k)]∧Wd Γ (.own (.slice q3 m3 d3) 3 1 (A8 (H.Cores.map (fun c=>c.ID)))::.own (.slice none 0 0) 3 1 (A8 [])::.own (.slice q5 m5 d5) 9 1 (D5 (cs.map (fun c=>c.Name)))::.own (.slice q6 m6 d6) 9 1 (D5 ((H.Mems.take k).map (fun c=>c.Name)))::.own (.slice none 0 0) 9 1 (D5 [])::.own (.slice none 0 0) 304 2 (G6 [])::.blk b1 (.cells #[.string H.Name,.slice a1 n1 c1,.slice a2 n2 c2,.slice a3 n3 c3,.slice a4 n4 c4,.slice a5 n5 c5] 69)::S) w) n4 ⟨0,none,0,0,by omega,⟨rfl,rfl,rfl,rfl,rfl,rfl,rfl,rfl,rfl,rfl,trivial⟩,hw⟩ ?_
 clear hw;rintro μ ρ w ⟨k,q6,m6,d6,hk,hρ,hw⟩
 have hm6:=Q7 (i:=3) hw rfl
 simp only[A8,D5,G6,List.length_map,List.length_take]at hm6
 rw[hρ.eq];refine A6 ?_;refine A7 rfl (fun h=>?_) (fun h=>?_)
 ·have hkn:k<n4:=by simpa using h
  obtain⟨x,hx⟩:=B4 (l:=H.Mems) (k:=k) (by omega)
  refine A6 ?_;refine C0 ?_;intro b9 w hw;refine B1 ?_;intro w hw;have hw:Wd Γ (.blk b9 (.cells (enc x).toArray 157)::.own (.slice q3 m3 d3) 3 1 (A8 (H.Cores.map (fun c=>c.ID)))::.own (.slice none 0 0) 3 1 (A8 [])::.own (.slice q5 m5 d5) 9 1 (D5 (cs.map (fun c=>c.Name)))::.own (.slice q6 m6 d6) 9 1 (D5 ((H.Mems.take k).map (fun c=>c.Name)))::.own (.slice none 0 0) 9 1 (D5 [])::.own (.slice none 0 0) 304 2 (G6 [])::.blk b1 (.cells #[.string H.Name,.slice a1 n1 c1,.slice a2 n2 c2,.slice a3 n3 c3,.slice a4 n4 c4,.slice a5 n5 c5] 69)::S) w:=hw
  refine A6 ?_;refine B6 [[.string x.Name]] ?_
  intro ab w hw;refine V7 (i:=5) (rows2:=[[.string x.Name]]) ?_ (Wd.own_rd (i:=0) hw rfl)
  intro v' w hw;obtain⟨q6',m6',d6',rfl,-,-,-⟩:=hw.own_shape (i:=5) rfl
  have hw:=hw.drop
  have hw:Wd Γ (.blk b9 (.cells (enc x).toArray 157)::.own (.slice q3 m3 d3) 3 1 (A8 (H.Cores.map (fun c=>c.ID)))::.own (.slice none 0 0) 3 1 (A8 [])::.own (.slice q5 m5 d5) 9 1 (D5 (cs.map (fun c=>c.Name)))::.own (.slice q6' m6' d6') 9 1 (D5 ((H.Mems.take (k+1)).map (fun c=>c.Name)))::.own (.slice none 0 0) 9 1 (D5 [])::.own (.slice none 0 0) 304 2 (G6 [])::.blk b1 (.cells #[.string H.Name,.slice a1 n1 c1,.slice a2 n2 c2,.slice a3 n3 c3,.slice a4 n4 c4,.slice a5 n5 c5] 69)::S) w:=by
   rw[←Fl hx];exact hw
  refine A6 ?_;exact⟨μ-1,by omega,k+1,_,_,_,by omega,⟨rfl,rfl,rfl,rfl,rfl,rfl,rfl,rfl,rfl,rfl,trivial⟩,hw.drop⟩
 have hkn:¬k<n4:=by simpa using h
 rw[List.take_of_length_le (l:=H.Mems) (by omega)]at hw
 clear h hkn hρ hk hm6;refine A6 ?_;refine B5 (fun μ ρ w=>∃(k:Nat) (q7:Option Addr) (m7 d7:Nat) (q4:Option Addr) (m4 d4:Nat),μ+k=n5∧Has ρ [(1,.pointer (some ⟨b1,0,none⟩)),(3,.slice q3 m3 d3),(4,.slice q4 m4 d4),(5,.slice q5 m5 d5),(6,.slice q6 m6 d6),(7,.slice q7 m7 d7),(8,.slice none 0 0),(63,.slice a5 n5 c5),(64,.int .i64 n5),(65,.int .i64 k)]∧Wd Γ (.own (.slice q3 m3 d3) 3 1 (A8 (H.Cores.map (fun c=>c.ID)))::.own (.slice q4 m4 d4) 3 1 (A8 ((H.Devs.take k).map (fun c=>c.IRQ)))::.own (.slice q5 m5 d5) 9 1 (D5 (cs.map (fun c=>c.Name)))::.own (.slice q6 m6 d6) 9 1 (D5 (H.Mems.map (fun c=>c.Name)))::.own (.slice q7 m7 d7) 9 1 (D5 ((H.Devs.take k).map (fun c=>c.Name)))::.own (.slice none 0 0) 304 2 (G6 [])::.blk b1 (.cells #[.string H.Name,.slice a1 n1 c1,.slice a2 n2 c2,.slice a3 n3 c3,.slice a4 n4 c4,.slice a5 n5 c5] 69)::S) w) n5 ⟨0,none,0,0,none,0,0,by omega,⟨rfl,rfl,rfl,rfl,rfl,rfl,rfl,rfl,rfl,rfl,trivial⟩,hw⟩ ?_
 clear hw;rintro μ ρ w ⟨k,q7,m7,d7,q4,m4,d4,hk,hρ,hw⟩
 have hm7:=Q7 (i:=4) hw rfl
 simp only[A8,D5,G6,List.length_map,List.length_take]at hm7
 have hm4:=Q7 (i:=1) hw rfl
 simp only[A8,D5,G6,List.length_map,List.length_take]at hm4
 rw[hρ.eq];refine A6 ?_;refine A7 rfl (fun h=>?_) (fun h=>?_)
 ·have hkn:k<n5:=by simpa using h
  obtain⟨x,hx⟩:=B4 (l:=H.Devs) (k:=k) (by omega)
  refine A6 ?_;refine C0 ?_;intro b9 w hw;refine B1 ?_;intro w hw;have hw:Wd Γ (.blk b9 (.cells (enc x).toArray 159)::.own (.slice q3 m3 d3) 3 1 (A8 (H.Cores.map (fun c=>c.ID)))::.own (.slice q4 m4 d4) 3 1 (A8 ((H.Devs.take k).map (fun c=>c.IRQ)))::.own (.slice q5 m5 d5) 9 1 (D5 (cs.map (fun c=>c.Name)))::.own (.slice q6 m6 d6) 9 1 (D5 (H.Mems.map (fun c=>c.Name)))::.own (.slice q7 m7 d7) 9 1 (D5 ((H.Devs.take k).map (fun c=>c.Name)))::.own (.slice none 0 0) 304 2 (G6 [])::.blk b1 (.cells #[.string H.Name,.slice a1 n1 c1,.slice a2 n2 c2,.slice a3 n3 c3,.slice a4 n4 c4,.slice a5 n5 c5] 69)::S) w:=hw
  refine A6 ?_;refine B6 [[.string x.Name]] ?_
  intro ab w hw;refine V7 (i:=6) (rows2:=[[.string x.Name]]) ?_ (Wd.own_rd (i:=0) hw rfl)
  intro v' w hw;obtain⟨q7',m7',d7',rfl,-,-,-⟩:=hw.own_shape (i:=6) rfl
  have hw:=hw.drop
  have hw:Wd Γ (.blk b9 (.cells (enc x).toArray 159)::.own (.slice q3 m3 d3) 3 1 (A8 (H.Cores.map (fun c=>c.ID)))::.own (.slice q4 m4 d4) 3 1 (A8 ((H.Devs.take k).map (fun c=>c.IRQ)))::.own (.slice q5 m5 d5) 9 1 (D5 (cs.map (fun c=>c.Name)))::.own (.slice q6 m6 d6) 9 1 (D5 (H.Mems.map (fun c=>c.Name)))::.own (.slice q7' m7' d7') 9 1 (D5 ((H.Devs.take (k+1)).map (fun c=>c.Name)))::.own (.slice none 0 0) 304 2 (G6 [])::.blk b1 (.cells #[.string H.Name,.slice a1 n1 c1,.slice a2 n2 c2,.slice a3 n3 c3,.slice a4 n4 c4,.slice a5 n5 c5] 69)::S) w:=by
   rw[←Fl hx];exact hw
  refine A6 ?_;refine B6 [[.int .i64 x.IRQ]] ?_
  intro ab w hw;refine V7 (i:=3) (rows2:=[[.int .i64 x.IRQ]]) ?_ (Wd.own_rd (i:=0) hw rfl)
  intro v' w hw;obtain⟨q4',m4',d4',rfl,-,-,-⟩:=hw.own_shape (i:=3) rfl
  have hw:=hw.drop
  have hw:Wd Γ (.blk b9 (.cells (enc x).toArray 159)::.own (.slice q3 m3 d3) 3 1 (A8 (H.Cores.map (fun c=>c.ID)))::.own (.slice q4' m4' d4') 3 1 (A8 ((H.Devs.take (k+1)).map (fun c=>c.IRQ)))::.own (.slice q5 m5 d5) 9 1 (D5 (cs.map (fun c=>c.Name)))::.own (.slice q6 m6 d6) 9 1 (D5 (H.Mems.map (fun c=>c.Name)))::.own (.slice q7' m7' d7') 9 1 (D5 ((H.Devs.take (k+1)).map (fun c=>c.Name)))::.own (.slice none 0 0) 304 2 (G6 [])::.blk b1 (.cells #[.string H.Name,.slice a1 n1 c1,.slice a2 n2 c2,.slice a3 n3 c3,.slice a4 n4 c4,.slice a5 n5 c5] 69)::S) w:=by
   rw[←GC hx];exact hw
  refine A6 ?_;exact⟨μ-1,by omega,k+1,_,_,_,_,_,_,by omega,⟨rfl,rfl,rfl,rfl,rfl,rfl,rfl,rfl,rfl,rfl,trivial⟩,hw.drop⟩
 have hkn:¬k<n5:=by simpa using h
 rw[List.take_of_length_le (l:=H.Devs) (by omega)]at hw
 clear h hkn hρ hk hm7 hm4;refine A6 ?_;refine B5 (fun μ ρ w=>∃(k:Nat) (q8:Option Addr) (m8 d8:Nat),μ+k=n3∧Has ρ [(1,.pointer (some ⟨b1,0,none⟩)),(3,.slice q3 m3 d3),(4,.slice q4 m4 d4),(5,.slice q5 m5 d5),(6,.slice q6 m6 d6),(7,.slice q7 m7 d7),(8,.slice q8 m8 d8),(81,.slice a3 n3 c3),(82,.int .i64 n3),(83,.int .i64 k)]∧Wd Γ (.own (.slice q3 m3 d3) 3 1 (A8 (H.Cores.map (fun c=>c.ID)))::.own (.slice q4 m4 d4) 3 1 (A8 (H.Devs.map (fun c=>c.IRQ)))::.own (.slice q5 m5 d5) 9 1 (D5 (cs.map (fun c=>c.Name)))::.own (.slice q6 m6 d6) 9 1 (D5 (H.Mems.map (fun c=>c.Name)))::.own (.slice q7 m7 d7) 9 1 (D5 (H.Devs.map (fun c=>c.Name)))::.own (.slice q8 m8 d8) 304 2 (G6 ((H.Links.take k).map Y2))::.blk b1 (.cells #[.string H.Name,.slice a1 n1 c1,.slice a2 n2 c2,.slice a3 n3 c3,.slice a4 n4 c4,.slice a5 n5 c5] 69)::S) w) n3 ⟨0,none,0,0,by omega,⟨rfl,rfl,rfl,rfl,rfl,rfl,rfl,rfl,rfl,rfl,trivial⟩,hw⟩ ?_
 clear hw;rintro μ ρ w ⟨k,q8,m8,d8,hk,hρ,hw⟩
 have hm8:=Q7 (i:=5) hw rfl
 simp only[A8,D5,G6,List.length_map,List.length_take]at hm8
 rw[hρ.eq];refine A6 ?_;refine A7 rfl (fun h=>?_) (fun h=>?_)
 ·have hkn:k<n3:=by simpa using h
  obtain⟨x,hx⟩:=B4 (l:=H.Links) (k:=k) (by omega)
  refine A6 ?_;refine C0 ?_;intro b9 w hw;refine B1 ?_;intro w hw;have hw:Wd Γ (.blk b9 (.cells (enc x).toArray 140)::.own (.slice q3 m3 d3) 3 1 (A8 (H.Cores.map (fun c=>c.ID)))::.own (.slice q4 m4 d4) 3 1 (A8 (H.Devs.map (fun c=>c.IRQ)))::.own (.slice q5 m5 d5) 9 1 (D5 (cs.map (fun c=>c.Name)))::.own (.slice q6 m6 d6) 9 1 (D5 (H.Mems.map (fun c=>c.Name)))::.own (.slice q7 m7 d7) 9 1 (D5 (H.Devs.map (fun c=>c.Name)))::.own (.slice q8 m8 d8) 304 2 (G6 ((H.Links.take k).map Y2))::.blk b1 (.cells #[.string H.Name,.slice a1 n1 c1,.slice a2 n2 c2,.slice a3 n3 c3,.slice a4 n4 c4,.slice a5 n5 c5] 69)::S) w:=hw
  refine A6 ?_;refine B6 [[.int .i64 (Y2 x).1,.int .i64 (Y2 x).2]] ?_
  intro ab w hw;refine V7 (i:=7) (rows2:=[[.int .i64 (Y2 x).1,.int .i64 (Y2 x).2]]) ?_ (Wd.own_rd (i:=0) hw rfl)
  intro v' w hw;obtain⟨q8',m8',d8',rfl,-,-,-⟩:=hw.own_shape (i:=7) rfl
  have hw:=hw.drop
  have hw:Wd Γ (.blk b9 (.cells (enc x).toArray 140)::.own (.slice q3 m3 d3) 3 1 (A8 (H.Cores.map (fun c=>c.ID)))::.own (.slice q4 m4 d4) 3 1 (A8 (H.Devs.map (fun c=>c.IRQ)))::.own (.slice q5 m5 d5) 9 1 (D5 (cs.map (fun c=>c.Name)))::.own (.slice q6 m6 d6) 9 1 (D5 (H.Mems.map (fun c=>c.Name)))::.own (.slice q7 m7 d7) 9 1 (D5 (H.Devs.map (fun c=>c.Name)))::.own (.slice q8' m8' d8') 304 2 (G6 ((H.Links.take (k+1)).map Y2))::.blk b1 (.cells #[.string H.Name,.slice a1 n1 c1,.slice a2 n2 c2,.slice a3 n3 c3,.slice a4 n4 c4,.slice a5 n5 c5] 69)::S) w:=by
   rw[←Qy hx];exact hw
  refine A6 ?_;exact⟨μ-1,by omega,k+1,_,_,_,by omega,⟨rfl,rfl,rfl,rfl,rfl,rfl,rfl,rfl,rfl,rfl,trivial⟩,hw.drop⟩
 have hkn:¬k<n3:=by simpa using h
 rw[List.take_of_length_le (l:=H.Links) (by omega)]at hw
 clear h hkn hρ hk hm8;refine A6 ?_;refine D3 ?_;refine(t7 (P6.own (i:=0) hw rfl) hw).mono ?_
 rintro r w ⟨rfl,hw⟩
 refine⟨_,rfl,?_⟩;refine A6 ?_;refine HH (fun _=>Y9 (P6.own (i:=2) hw rfl) hw) ?_
 clear hw;intro w hw;refine A6 ?_;refine HH (fun _=>Y9 (P6.own (i:=3) hw rfl) hw) ?_
 clear hw;intro w hw;refine A6 ?_;refine HH (fun _=>Y9 (P6.own (i:=4) hw rfl) hw) ?_
 clear hw;intro w hw;refine A6 ?_;refine HH (fun _=>t7 (P6.own (i:=1) hw rfl) hw) ?_
 clear hw;intro w hw;refine A6 ?_;refine HH (fun _=>Ek (P6.own (i:=5) hw rfl) hw) ?_
 clear hw;intro w hw;refine A6 ?_;refine⟨_,rfl,F6 rfl ?_,hw.ds [0,0,0,0,0,0,0]⟩
 have e1:(cs.map fun c=>c.Name)=H.Caches.map fun c=>c.Name:=by rw[←hcs,List.map_map];rfl
 unfold Y7;rw[show (H.Caches.all fun c=>decide c.Cores.Nodup)=true from by rw[←hcs,MS];exact hA,←e1]
 rfl
section
variable {Γ:C8}{S:List B2}{w:World}{a:Option Addr}{n c:Nat}{xs:List I1}
theorem LI(p:I1→Bool)(f:Nat)(fst cap:List Value)[C7 Tryz.prog f](hr:P6 Γ S (.slice a n c) 4 (xs.map enc))
  (hf:∀x w,Wd Γ S w→Calls Tryz.prog f (fst++[Value.agg (enc x).toArray]++cap).toArray w fun e w'=>e=.returned (.bool (p x))∧Wd Γ S w') (hw:Wd Γ S w) :
  Calls Tryz.prog 193 #[.slice a n c,.func (.func f) fst.toArray cap.toArray] w fun e w'=>∃i:Int,e=.returned (.int .i64 i)∧decide (0≤i)=xs.any p∧Wd Γ S w':=by
 obtain⟨_,_,_,he,hn,hnc,hc⟩:=hr.shape;cases he
 have hnr:=hn
 simp only[List.length_map]at hn
 refine A9 Tryz.func193 rfl rfl ?_
 refine A6 ?_;refine B5 (fun μ ρ w=>∃(k:Nat),μ+k=n∧Has ρ [(0,.slice a n c),(1,.func (.func f) fst.toArray cap.toArray),(7,.int .i64 n),(8,.int .i64 k)]∧(∀i x,i<k→xs[i]? = some x→(!p x)=true)∧Wd Γ S w) n ⟨0,by omega,⟨rfl,rfl,rfl,rfl,trivial⟩,fun i x h=>by omega,hw⟩ ?_
 clear hw;rintro μ ρ w ⟨k,hk,hρ,hall,hw⟩
 rw[hρ.eq];refine A6 ?_;refine A7 rfl (fun h=>?_) (fun h=>?_)
 ·have hkn:k<n:=by simpa using h
  obtain⟨x,hx⟩:=B4 (l:=xs) (k:=k) (by omega)
  refine A6 ?_;refine Cp (fst:=fst) (cap:=cap) (vs:=[.agg (enc x).toArray]) ?_
  refine(hf x w hw).mono ?_
  rintro r w ⟨rfl,hw⟩
  refine⟨_,rfl,?_⟩;refine A6 ?_;refine A7 rfl (fun h2=>?_) (fun h2=>?_)
  ·refine A6 ?_;exact⟨_,rfl,k,rfl,by rw[decide_eq_true (show (0:Int)≤k by omega)];exact(List.any_eq_true.2 ⟨x,List.mem_of_getElem? hx,h2⟩).symm,hw⟩
  ·refine A6 ?_;exact⟨μ-1,by omega,k+1,by omega,⟨rfl,rfl,rfl,rfl,trivial⟩,O5 hall hx (by rw[h2];rfl),hw⟩
 ·have hkn:¬k<n:=by simpa using h
  refine A6 ?_;refine⟨_,rfl,-1,rfl,?_,hw⟩
  have:=W5 hall (by omega)
  rw[decide_eq_false (show ¬(0:Int)≤-1 by decide)]
  rw[List.all_eq_true]at this;exact(List.any_eq_false.2 fun x hx=>by simpa using this x hx).symm
theorem Ho(p:I1→Bool)(f:Nat)(fst cap:List Value)[C7 Tryz.prog f](hr:P6 Γ S (.slice a n c) 4 (xs.map enc))
  (hf:∀x w,Wd Γ S w→Calls Tryz.prog f (fst++[Value.agg (enc x).toArray]++cap).toArray w fun e w'=>e=.returned (.bool (p x))∧Wd Γ S w') (hw:Wd Γ S w) :
  Calls Tryz.prog 245 #[.slice a n c,.func (.func f) fst.toArray cap.toArray] w fun e w'=>e=.returned (.bool (xs.any p))∧Wd Γ S w':=by
 refine A9 Tryz.func245 rfl rfl ?_
 refine A6 ?_;refine D3 ?_;refine(LI p f fst cap hr hf hw).mono ?_
 rintro r w ⟨i,rfl,hi,hw⟩
 refine⟨_,rfl,?_⟩;refine A6 ?_;exact⟨_,rfl,F6 rfl hi,hw⟩
theorem Rk{b6 i:Nat}{id:Int}(x:I1)(hi:S[i]? = some (.blk b6 (.cells #[.int .i64 id] 3)))(hw:Wd Γ S w) :
  Calls Tryz.prog 246 #[.agg (enc x).toArray,.pointer (some ⟨b6,0,none⟩)] w fun e w'=>e=.returned (.bool (decide (x.ID=id)))∧Wd Γ S w':=by
 refine A9 Tryz.func246 rfl rfl ?_
 refine A6 ?_;refine H9 ?_;intro b2 w hw;have hw:Wd Γ (.blk b2 (.cells (enc x).toArray 72)::S) w:=hw
 refine A6 ?_;have hi2:(B2.blk b2 (.cells (enc x).toArray 72)::S)[i+1]? = some (.blk b6 (.cells #[.int .i64 id] 3)):=by simpa using hi
 refine lY (v:=.int .i64 id) ?_ (hy:=V3 (i:=i+1) hw rfl hi2 rfl)
 refine A6 ?_;exact⟨_,rfl,rfl,hw.drop⟩
end
def As(H:H1):Bool:=H.Caches.all fun c=>c.Cores.all fun id=>H.Cores.any fun x=>decide (x.ID=id)
def NF(H:H1)(c:E1):Bool:=c.Cores.all fun id=>H.Cores.any fun x=>decide (x.ID=id)
theorem Mf(H:H1)(cs:List E1):((cs.map E1.T).all fun c=>c.Cores.all fun id=>H.Cores.any fun x=>decide (x.ID=id))=cs.all (NF H):=by rw[List.all_map];rfl
abbrev s7(H:H1)(a1:Option Addr)(n1 c1:Nat)(a2:Option Addr)(n2 c2:Nat)(a3:Option Addr)(n3 c3:Nat)(a4:Option Addr)(n4 c4:Nat)(a5:Option Addr)(n5 c5:Nat):Obj:=.cells #[.string H.Name,.slice a1 n1 c1,.slice a2 n2 c2,.slice a3 n3 c3,.slice a4 n4 c4,.slice a5 n5 c5] 69
instance eg{Γ:C8}{u:Value}{H:H1}[hh:Cl Γ u H]:PG Tryz.prog Γ 189 [u] (.bool (As H)):=⟨fun S w hw=>by
 obtain⟨a1,n1,c1,a2,n2,c2,a3,n3,c3,a4,n4,c4,a5,n5,c5,cs,rfl,hcs,hok,hsz,r1,r2,r3,r4,r5⟩:=hh.h;obtain⟨hn1,hm1,hx1⟩:=C6 r1
 obtain⟨hn2,hm2,hx2⟩:=C6 r2
 simp only[List.length_map]at hn1 hn2
 refine A9 Tryz.func189 rfl rfl ?_
 refine A6 ?_;refine H9 ?_;intro b1 w hw;have hw:Wd Γ (.blk b1 (s7 H a1 n1 c1 a2 n2 c2 a3 n3 c3 a4 n4 c4 a5 n5 c5)::S) w:=hw
 refine A6 ?_;refine B5 (fun μ ρ w=>∃(k:Nat),μ+k=n2∧Has ρ [(1,.pointer (some ⟨b1,0,none⟩)),(8,.slice a2 n2 c2),(9,.int .i64 n2),(10,.int .i64 k)]∧(∀i x,i<k→cs[i]? = some x→NF H x=true)∧Wd Γ (.blk b1 (s7 H a1 n1 c1 a2 n2 c2 a3 n3 c3 a4 n4 c4 a5 n5 c5)::S) w) n2 ⟨0,by omega,⟨rfl,rfl,rfl,rfl,trivial⟩,fun i x h=>by omega,hw⟩ ?_
 clear hw;rintro μ ρ w ⟨k,hk,hρ,hall,hw⟩
 rw[hρ.eq];refine A6 ?_;refine A7 rfl (fun h=>?_) (fun h=>?_)
 ·have hkn:k<n2:=by simpa using h
  obtain⟨x,hx⟩:=B4 (l:=cs) (k:=k) (by omega)
  have hcok:=hok x (List.mem_of_getElem? hx)
  obtain⟨hxn,hxm,hxc⟩:=hcok.facts;unfold RG at hcok;refine A6 ?_;refine C0 ?_;intro b9 w hw;refine B1 ?_;intro w hw;have hw:Wd Γ (.blk b9 (.cells (cC x).toArray 163)::.blk b1 (s7 H a1 n1 c1 a2 n2 c2 a3 n3 c3 a4 n4 c4 a5 n5 c5)::S) w:=hw
  refine A6 ?_;refine B5 (fun μ2 ρ w=>∃(j:Nat),μ2+j=x.N∧Has ρ [(1,.pointer (some ⟨b1,0,none⟩)),(8,.slice a2 n2 c2),(9,.int .i64 n2),(10,.int .i64 k),(15,.slice x.A x.N x.C),(16,.int .i64 x.N),(17,.int .i64 j)]∧(∀i id,i<j→x.Cores[i]? = some id→(H.Cores.any fun y=>decide (y.ID=id))=true)∧Wd Γ (.blk b9 (.cells (cC x).toArray 163)::.blk b1 (s7 H a1 n1 c1 a2 n2 c2 a3 n3 c3 a4 n4 c4 a5 n5 c5)::S) w) x.N ⟨0,by omega,⟨rfl,rfl,rfl,rfl,rfl,rfl,rfl,trivial⟩,fun i x h=>by omega,hw⟩ ?_
  clear hw;rintro μ2 ρ w ⟨j,hj,hρ,hall2,hw⟩
  rw[hρ.eq];refine A6 ?_;refine A7 rfl (fun h2=>?_) (fun h2=>?_)
  ·have hjn:j<x.N:=by simpa using h2
   obtain⟨id,hid⟩:=B4 (l:=x.Cores) (k:=j) (by omega)
   refine A6 ?_;refine C0 ?_;intro b6 w hw;refine B1 ?_;intro w hw;have hw:Wd Γ (.blk b6 (.cells #[.int .i64 id] 3)::.blk b9 (.cells (cC x).toArray 163)::.blk b1 (s7 H a1 n1 c1 a2 n2 c2 a3 n3 c3 a4 n4 c4 a5 n5 c5)::S) w:=hw
   refine A6 ?_;refine D3 ?_;refine(Ho (fun y=>decide (y.ID=id)) 246 [] [.pointer (some ⟨b6,0,none⟩)] r1.rdS (fun y w hw=>Rk y (i:=0) rfl hw) hw).mono ?_
   rintro r w ⟨rfl,hw⟩
   refine⟨_,rfl,?_⟩;refine A6 ?_;refine A7 rfl (fun h3=>?_) (fun h3=>?_)
   ·have hf:(H.Cores.any fun y=>decide (y.ID=id))=false:=by simpa using h3
    refine A6 ?_;refine⟨_,rfl,F6 rfl ?_,hw.drop.drop.drop⟩
    have hf2:NF H x=false:=AD hid hf
    unfold As;rw[←hcs,Mf];exact(AD hx hf2).symm
   ·have ht:(H.Cores.any fun y=>decide (y.ID=id))=true:=by simpa using h3
    refine A6 ?_;exact⟨μ2-1,by omega,j+1,by omega,⟨rfl,rfl,rfl,rfl,rfl,rfl,rfl,trivial⟩,O5 hall2 hid ht,hw.drop⟩
  ·have hjn:¬j<x.N:=by simpa using h2
   have ht:NF H x=true:=W5 hall2 (by omega)
   refine A6 ?_;exact⟨μ-1,by omega,k+1,by omega,⟨rfl,rfl,rfl,rfl,trivial⟩,O5 hall hx ht,hw.drop⟩
 ·have hkn:¬k<n2:=by simpa using h
  refine A6 ?_;refine⟨_,rfl,F6 rfl ?_,hw.drop⟩
  unfold As;rw[←hcs,Mf];exact(W5 hall (by omega)).symm⟩
def AT(l:List Int):Prop:=∀i a b,l[i]? = some a→l[i+1]? = some b→a≤b
noncomputable def Ir(p:Prop):Bool:=@decide p (Classical.propDecidable p)
theorem W8{p:Prop}(h:p):Ir p=true:=@decide_eq_true p (Classical.propDecidable p) h
theorem CE{p:Prop}(h:¬p):Ir p=false:=@decide_eq_false p (Classical.propDecidable p) h
theorem Yh{p:Prop}:Ir p=true↔p:=@decide_eq_true_iff p (Classical.propDecidable p)
noncomputable def Eu(l:List Int):Bool:=Ir (AT l)
instance gR(x:Int):PC Tryz.prog 182 [.int .i64 x] (.bool false):=⟨fun w=>by
 refine A9 Tryz.func182 rfl rfl ?_
 refine A6 ?_;exact⟨_,rfl,F6 rfl (by simp),rfl⟩⟩
instance gw(x y:Int):PC Tryz.prog 205 [.int .i64 x,.int .i64 y] (.bool (decide (x<y))):=⟨fun w=>by
 refine A9 Tryz.func205 rfl rfl ?_
 repeat(first|(first|refine Br ?_|refine FD ?_|refine AA ?_|refine GA ?_|refine Qn ?_|refine KO ?_)|((first|apply UM|apply JS);first|(refine lT ?_ ?_;(first|exact rfl|exact decide_eq_true rfl|(simp;done)))|(refine lF ?_ ?_;(first|exact rfl|exact decide_eq_true rfl|(simp;done))))|(first|refine AM ?_|(apply FJ;first|(apply Iw;first|refine lP ?_|(refine Zx ?_;intro w hw))|(apply YC;refine Cd ?_)|refine lY ?_)|(apply v8;first|refine WP ?_ (hct:=rfl)|refine Tt ?_ (hct:=rfl)|(apply Iw;first|refine fW ?_|(refine VS ?_;intro w hw))|refine lG ?_))|(refine C0 ?_;intro _ w hw)|(refine H9 ?_;intro _ w hw)|(refine B1 ?_;intro w hw))
 exact⟨_,rfl,F6 rfl (by simp),rfl⟩⟩
section
variable {Γ:C8}{S:List B2}{w:World}{xs:List Int}{v:Value}
theorem NZ(hr:P6 Γ S v 1 (A8 xs))(hw:Wd Γ S w):Calls Tryz.prog 247 #[v] w fun e w'=>e=.returned (.bool (Eu xs))∧Wd Γ S w':=by
 obtain⟨a,n,c,rfl,hn,hnc,hc⟩:=hr.shape;have hnr:=hn
 simp only[A8,List.length_map]at hn
 refine A9 Tryz.func247 rfl rfl ?_
 refine A6 ?_;refine B5 (fun μ ρ w=>∃(m:Nat),μ=m∧m≤n∧Has ρ [(0,.slice a n c),(3,.int .i64 ((m:Int)-1))]∧(∀i a b,m≤i+1→xs[i]? = some a→xs[i+1]? = some b→a≤b)∧Wd Γ S w) n ⟨n,rfl,Nat.le_refl _,⟨rfl,rfl,trivial⟩,fun i a b h1 h2 h3=>by have:=(List.getElem?_eq_some_iff.1 h3).1;omega,hw⟩ ?_
 clear hw;rintro μ ρ w ⟨m,rfl,hm,hρ,hall,hw⟩
 rw[hρ.eq];refine A6 ?_;refine A7 rfl (fun h=>?_) (fun h=>?_)
 ·have hm2:2≤μ:=by have:=of_decide_eq_true h;omega
  obtain⟨x,hx⟩:=B4 (l:=xs) (k:=μ-1) (by omega)
  obtain⟨y,hy⟩:=B4 (l:=xs) (k:=μ-2) (by omega)
  have e1:((μ:Int)-1).toNat=μ-1:=by omega
  have e2:((μ:Int)-1-1).toNat=μ-2:=by omega
  have hx':xs[((μ:Int)-1).toNat]? = some x:=by rw[e1];exact hx
  have hy':xs[((μ:Int)-1-1).toNat]? = some y:=by rw[e2];exact hy
  refine A6 ?_;refine I5 (by kernel_rfl) (by kernel_rfl) hw ?_
  refine EX ?_;intro w hw;refine A7 rfl (fun h2=>?_) (fun h2=>?_)
  ·have h2:x<y:=of_decide_eq_true h2
   refine A6 ?_;refine⟨_,rfl,F6 rfl ?_,hw⟩
   exact(CE fun hs=>by have:=hs (μ-2) y x hy (by rw[show μ-2+1=μ-1 by omega];exact hx);omega).symm
  ·have h2:¬x<y:=of_decide_eq_false h2
   refine A6 ?_;refine⟨μ-1,by omega,μ-1,rfl,by omega,⟨rfl,?_,trivial⟩,fun i p q h3 h4 h5=>?_,hw⟩
   ·show Value.int .i64 ((μ:Int)-1-1)=_
    congr 1;omega
   ·by_cases e:μ≤i+1
    ·exact hall i p q e h4 h5
    ·have:i=μ-2:=by omega
     subst this;rw[show μ-2+1=μ-1 by omega,hx]at h5
     rw[hy]at h4;cases h4;cases h5;omega
 ·have hm2:¬2≤μ:=by have:=of_decide_eq_false h;omega
  refine A6 ?_;refine⟨_,rfl,F6 rfl ?_,hw⟩
  exact(W8 fun i p q h1 h2=>hall i p q (by omega) h1 h2).symm
def Pp(x:Int)(xs:List Int):Bool:=xs.any fun y=>decide (x=y)
theorem LF(hr:P6 Γ S v 1 (A8 xs))(x:Int)(hw:Wd Γ S w):Calls Tryz.prog 248 #[v,.int .i64 x] w fun e w'=>e=.returned (.bool (Pp x xs))∧Wd Γ S w':=by
 have hI:∀w,Wd Γ S w→Calls Tryz.prog 262 #[v,.int .i64 x] w fun e w'=>∃i:Int,e=.returned (.int .i64 i)∧(decide (0≤i)=Pp x xs)∧Wd Γ S w':=by
  intro w hw;obtain⟨a,n,c,rfl,hn,hnc,hc⟩:=hr.shape;have hnr:=hn
  simp only[A8,List.length_map]at hn
  refine A9 Tryz.func262 rfl rfl ?_
  refine A6 ?_;refine B5 (fun μ ρ w=>∃(k:Nat),μ+k=n∧Has ρ [(0,.slice a n c),(1,.int .i64 x),(7,.int .i64 n),(8,.int .i64 k)]∧(∀i y,i<k→xs[i]? = some y→(!decide (x=y))=true)∧Wd Γ S w) n ⟨0,by omega,⟨rfl,rfl,rfl,rfl,trivial⟩,fun i x h=>by omega,hw⟩ ?_
  clear hw;rintro μ ρ w ⟨k,hk,hρ,hno,hw⟩
  rw[hρ.eq];refine A6 ?_;refine A7 rfl (fun h=>?_) (fun h=>?_)
  ·have hkn:k<n:=by simpa using h
   obtain⟨y,hy⟩:=B4 (l:=xs) (k:=k) (by omega)
   refine A6 ?_;refine A7 rfl (fun h2=>?_) (fun h2=>?_)
   ·refine A6 ?_;exact⟨_,rfl,k,rfl,by rw[decide_eq_true (show (0:Int)≤k by omega)];exact(List.any_eq_true.2 ⟨y,List.mem_of_getElem? hy,h2⟩).symm,hw⟩
   ·refine A6 ?_;exact⟨μ-1,by omega,k+1,by omega,⟨rfl,rfl,rfl,rfl,trivial⟩,O5 hno hy (by rw[h2];rfl),hw⟩
  ·have hkn:¬k<n:=by simpa using h
   refine A6 ?_;refine⟨_,rfl,-1,rfl,?_,hw⟩
   have:=W5 hno (by omega)
   rw[decide_eq_false (show ¬(0:Int)≤-1 by decide)]
   rw[List.all_eq_true]at this;exact(List.any_eq_false.2 fun y hy=>by simpa using this y hy).symm
 refine A9 Tryz.func248 rfl rfl ?_
 refine A6 ?_;refine D3 ?_;refine(hI w hw).mono ?_
 rintro e w ⟨i,rfl,hd,hw⟩
 refine⟨_,rfl,?_⟩;refine A6 ?_;exact⟨_,rfl,F6 rfl hd,hw⟩
end
instance cK{Γ:C8}{v:Value}{xs:List Int}[hr:RY Γ v 1 (A8 xs)](x:Int):PG Tryz.prog Γ 248 [v,.int .i64 x] (.bool (Pp x xs)):=⟨fun S w hw=>LF hr.h.rdS x hw⟩
noncomputable instance dY {Γ:C8} {v:Value} {xs:List Int} [hr:RY Γ v 1 (A8 xs)]:PG Tryz.prog Γ 247 [v] (.bool (Eu xs)):=⟨fun S w hw=>NZ hr.h.rdS hw⟩
def P0(a b:List Int):Nat:=(a.filter fun v=>Pp v b).length
def Dk(i k:Nat)(a b:S2):Bool:=decide (i=k)||decide (b.Level<a.Level) || !(decide (0<P0 a.Cores b.Cores)&&(decide (a.Level=b.Level)||decide (P0 a.Cores b.Cores<a.Cores.length)))
def fg(l:List S2):Prop:=(∀c∈l,AT c.Cores)∧∀(i k:Nat) (a b:S2),l[i]? = some a→l[k]? = some b→Dk i k a b=true
noncomputable def Jt(H:H1):Bool:=Ir (fg H.Caches)
theorem Lc{α:Type}{l:List α}{p:Nat→α→Bool}{k:Nat}{x:α}(h:∀i x,i<k→l[i]? = some x→p i x=true)(hx:l[k]? = some x)(ht:p k x=true):∀i x,i<k+1→l[i]? = some x→p i x=true:=fun i y hi hy=>by
 by_cases e:i=k
 ·subst e;rw[hx]at hy;cases hy;exact ht
 ·exact h i y (by omega) hy
instance ZV{Γ:C8}{u:Value}{H:H1}[hh:Cl Γ u H]:PG Tryz.prog Γ 190 [u] (.bool (Jt H)):=⟨fun S w hw=>by
 obtain⟨a1,n1,c1,a2,n2,c2,a3,n3,c3,a4,n4,c4,a5,n5,c5,cs,rfl,hcs,hok,hsz,r1,r2,r3,r4,r5⟩:=hh.h;obtain⟨hn2,hm2,hx2⟩:=C6 r2
 simp only[List.length_map]at hn2
 have hget:∀(i:Nat) (x:E1),cs[i]? = some x→H.Caches[i]? = some x.T:=fun i x h=>by rw[←hcs];simp[h]
 refine A9 Tryz.func190 rfl rfl ?_
 refine A6 ?_;refine H9 ?_;intro b1 w hw;have hw:Wd Γ (.blk b1 (s7 H a1 n1 c1 a2 n2 c2 a3 n3 c3 a4 n4 c4 a5 n5 c5)::S) w:=hw
 refine A6 ?_;refine B5 (fun μ ρ w=>∃(k:Nat),μ+k=n2∧Has ρ [(1,.pointer (some ⟨b1,0,none⟩)),(13,.slice a2 n2 c2),(14,.int .i64 n2),(15,.int .i64 k)]∧(∀(i:Nat) (x:E1),i<k→cs[i]? = some x→Eu x.Cores=true)∧Wd Γ (.blk b1 (s7 H a1 n1 c1 a2 n2 c2 a3 n3 c3 a4 n4 c4 a5 n5 c5)::S) w) n2 ⟨0,by omega,⟨rfl,rfl,rfl,rfl,trivial⟩,fun i x h=>by omega,hw⟩ ?_
 clear hw;rintro μ ρ w ⟨k,hk,hρ,hall,hw⟩
 rw[hρ.eq];refine A6 ?_;refine A7 rfl (fun h=>?_) (fun h=>?_)
 ·have hkn:k<n2:=by simpa using h
  obtain⟨x,hx⟩:=B4 (l:=cs) (k:=k) (by omega)
  haveI:RY Γ (.slice x.A x.N x.C) 1 (A8 x.Cores):=⟨hok x (List.mem_of_getElem? hx)⟩
  refine A6 ?_;refine C0 ?_;intro b9 w hw;refine B1 ?_;intro w hw;have hw:Wd Γ (.blk b9 (.cells (cC x).toArray 163)::.blk b1 (s7 H a1 n1 c1 a2 n2 c2 a3 n3 c3 a4 n4 c4 a5 n5 c5)::S) w:=hw
  repeat first|refine U9 ?_|refine V5 ?_;intro w hw
  refine A7 rfl (fun h2=>?_) (fun h2=>?_)
  ·have hf:Eu x.Cores=false:=by simpa using h2
   refine A6 ?_;refine⟨_,rfl,F6 rfl ?_,hw.drop.drop⟩
   refine(CE fun hP=>?_).symm
   have:=hP.1 x.T (List.mem_of_getElem? (hget k x hx))
   rw[show Eu x.Cores=true from W8 this]at hf;cases hf
  ·have ht:Eu x.Cores=true:=by simpa using h2
   refine A6 ?_;exact⟨μ-1,by omega,k+1,by omega,⟨rfl,rfl,rfl,rfl,trivial⟩,O5 hall hx ht,hw.drop⟩
 have hkn:¬k<n2:=by simpa using h
 have hsort:∀(i:Nat) (x:E1),cs[i]? = some x→AT x.Cores:=fun i x hx=>Yh.1 (hall i x (by have:=(List.getElem?_eq_some_iff.1 hx).1;omega) hx)
 clear h hkn hall hρ hk;refine A6 ?_;refine B5 (fun μ ρ w=>∃(k:Nat),μ+k=n2∧Has ρ [(1,.pointer (some ⟨b1,0,none⟩)),(25,.slice a2 n2 c2),(26,.int .i64 n2),(27,.int .i64 k)]∧(∀(i j:Nat) (a b:E1),i<k→cs[i]? = some a→cs[j]? = some b→Dk i j a.T b.T=true)∧Wd Γ (.blk b1 (s7 H a1 n1 c1 a2 n2 c2 a3 n3 c3 a4 n4 c4 a5 n5 c5)::S) w) n2 ⟨0,by omega,⟨rfl,rfl,rfl,rfl,trivial⟩,fun i j a b h=>by omega,hw⟩ ?_
 clear hw;rintro μ ρ w ⟨i,hi,hρ,hall,hw⟩
 rw[hρ.eq];refine A6 ?_;refine A7 rfl (fun h=>?_) (fun h=>?_)
 ·have hin:i<n2:=by simpa using h
  obtain⟨x,hx⟩:=B4 (l:=cs) (k:=i) (by omega)
  have hcx:=hok x (List.mem_of_getElem? hx)
  obtain⟨hxn,hxm,hxc⟩:=hcx.facts;unfold RG at hcx;refine A6 ?_;refine C0 ?_;intro b6 w hw;refine A6 ?_;refine B1 ?_;intro w hw;have hw:Wd Γ (.blk b6 (.cells (cC x).toArray 163)::.blk b1 (s7 H a1 n1 c1 a2 n2 c2 a3 n3 c3 a4 n4 c4 a5 n5 c5)::S) w:=hw
  refine A6 ?_;refine B5 (fun μ2 ρ w=>∃(k:Nat),μ2+k=n2∧Has ρ [(1,.pointer (some ⟨b1,0,none⟩)),(5,.int .i64 i),(6,.pointer (some ⟨b6,0,none⟩)),(25,.slice a2 n2 c2),(26,.int .i64 n2),(27,.int .i64 i),(33,.slice a2 n2 c2),(34,.int .i64 n2),(35,.int .i64 k)]∧(∀(j:Nat) (b:E1),j<k→cs[j]? = some b→Dk i j x.T b.T=true)∧Wd Γ (.blk b6 (.cells (cC x).toArray 163)::.blk b1 (s7 H a1 n1 c1 a2 n2 c2 a3 n3 c3 a4 n4 c4 a5 n5 c5)::S) w) n2 ⟨0,by omega,⟨rfl,rfl,rfl,rfl,rfl,rfl,rfl,rfl,rfl,trivial⟩,fun j b h=>by omega,hw⟩ ?_
  clear hw;rintro μ2 ρ w ⟨k,hk,hρ,hall2,hw⟩
  rw[hρ.eq];refine A6 ?_;refine A7 rfl (fun h2=>?_) (fun h2=>?_)
  ·have hkn:k<n2:=by simpa using h2
   obtain⟨y,hy⟩:=B4 (l:=cs) (k:=k) (by omega)
   have hcy:=hok y (List.mem_of_getElem? hy)
   haveI:RY Γ (.slice y.A y.N y.C) 1 (A8 y.Cores):=⟨hcy⟩
   refine A6 ?_;refine C0 ?_;intro b8 w hw;refine A6 ?_;refine B1 ?_;intro w hw;have hw:Wd Γ (.blk b8 (.cells (cC y).toArray 163)::.blk b6 (.cells (cC x).toArray 163)::.blk b1 (s7 H a1 n1 c1 a2 n2 c2 a3 n3 c3 a4 n4 c4 a5 n5 c5)::S) w:=hw
   refine A6 ?_;refine A7 rfl (fun h3=>?_) (fun h3=>?_)
   ·have hp:Dk i k x.T y.T=true:=by
     have h3:(decide ((i:Int)=k)||decide (y.Level<x.Level))=true:=h3
     unfold Dk E1.T;rw[show decide (i=k)=decide ((i:Int)=k) from decide_eq_decide.2 (by omega)]
     rw[h3];rfl
    refine A6 ?_;exact⟨μ2-1,by omega,k+1,by omega,⟨rfl,rfl,rfl,rfl,rfl,rfl,rfl,rfl,rfl,trivial⟩,Lc (p:=fun j b=>Dk i j x.T b.T) hall2 hy hp,hw.drop⟩
   ·have h3:(decide ((i:Int)=k)||decide (y.Level<x.Level))=false:=h3
    refine A6 ?_;refine B5 (fun μ3 ρ w=>∃(j:Nat),μ3+j=x.N∧Has ρ [(1,.pointer (some ⟨b1,0,none⟩)),(5,.int .i64 i),(6,.pointer (some ⟨b6,0,none⟩)),(8,.pointer (some ⟨b8,0,none⟩)),(9,.int .i64 (P0 (x.Cores.take j) y.Cores)),(25,.slice a2 n2 c2),(26,.int .i64 n2),(27,.int .i64 i),(33,.slice a2 n2 c2),(34,.int .i64 n2),(35,.int .i64 k),(51,.slice x.A x.N x.C),(52,.int .i64 x.N),(53,.int .i64 j)]∧Wd Γ (.blk b8 (.cells (cC y).toArray 163)::.blk b6 (.cells (cC x).toArray 163)::.blk b1 (s7 H a1 n1 c1 a2 n2 c2 a3 n3 c3 a4 n4 c4 a5 n5 c5)::S) w) x.N ⟨0,by omega,⟨rfl,rfl,rfl,rfl,rfl,rfl,rfl,rfl,rfl,rfl,rfl,rfl,rfl,rfl,trivial⟩,hw⟩ ?_
    clear hw;rintro μ3 ρ w ⟨j,hj,hρ,hw⟩
    rw[hρ.eq];have hle:P0 (x.Cores.take j) y.Cores≤j:=Nat.le_trans (List.length_filter_le _ _) (by simp;omega)
    refine A6 ?_;refine A7 rfl (fun h4=>?_) (fun h4=>?_)
    ·have hjn:j<x.N:=by simpa using h4
     obtain⟨v,hv⟩:=B4 (l:=x.Cores) (k:=j) (by omega)
     have hst:P0 (x.Cores.take (j+1)) y.Cores=P0 (x.Cores.take j) y.Cores+(if Pp v y.Cores=true then 1 else 0):=by
      unfold P0;rw[C9 hv,List.filter_append,List.length_append];congr 1
      by_cases e:Pp v y.Cores=true <;> simp[e]
     repeat first|refine U9 ?_|refine V5 ?_;intro w hw
     refine A7 rfl (fun h5=>?_) (fun h5=>?_)
     ·rw[if_pos h5]at hst;refine A6 ?_;exact⟨μ3-1,by omega,j+1,by omega,⟨rfl,rfl,rfl,rfl,by rw[hst];rfl,rfl,rfl,rfl,rfl,rfl,rfl,rfl,rfl,rfl,trivial⟩,hw⟩
     ·rw[if_neg (by rw[h5];simp)]at hst
      refine A6 ?_;exact⟨μ3-1,by omega,j+1,by omega,⟨rfl,rfl,rfl,rfl,by rw[hst];rfl,rfl,rfl,rfl,rfl,rfl,rfl,rfl,rfl,rfl,trivial⟩,hw⟩
    ·have hjn:¬j<x.N:=by simpa using h4
     rw[List.take_of_length_le (by omega)]
     refine A6 ?_;have key:Dk i k x.T y.T = !(decide ((0:Int)<(P0 x.Cores y.Cores:Nat))&&(decide (x.Level=y.Level)||decide (((P0 x.Cores y.Cores:Nat):Int)<x.N))):=by
      unfold Dk E1.T;rw[show decide (i=k)=decide ((i:Int)=k) from decide_eq_decide.2 (by omega),h3]
      rw[show decide (0<P0 x.Cores y.Cores)=decide ((0:Int)<(P0 x.Cores y.Cores:Nat)) from decide_eq_decide.2 (by omega)]
      rw[show decide (P0 x.Cores y.Cores<x.Cores.length)=decide (((P0 x.Cores y.Cores:Nat):Int)<x.N) from decide_eq_decide.2 (by omega)]
      rfl
     refine A7 rfl (fun h6=>?_) (fun h6=>?_)
     ·have hp:Dk i k x.T y.T=false:=key.trans (congrArg (fun b=>!b) h6)
      refine A6 ?_;refine⟨_,rfl,F6 rfl ?_,hw.drop.drop.drop⟩
      refine(CE fun hP=>?_).symm
      rw[hP.2 i k x.T y.T (hget i x hx) (hget k y hy)]at hp;cases hp
     ·have hp:Dk i k x.T y.T=true:=key.trans (congrArg (fun b=>!b) h6)
      refine A6 ?_;exact⟨μ2-1,by omega,k+1,by omega,⟨rfl,rfl,rfl,rfl,rfl,rfl,rfl,rfl,rfl,trivial⟩,Lc (p:=fun j b=>Dk i j x.T b.T) hall2 hy hp,hw.drop⟩
  ·have hkn:¬k<n2:=by simpa using h2
   refine A6 ?_;refine⟨μ-1,by omega,i+1,by omega,⟨rfl,rfl,rfl,rfl,trivial⟩,fun i' j a b h1 ha hb=>?_,hw.drop⟩
   by_cases e:i'=i
   ·subst e;rw[hx]at ha;cases ha
    exact hall2 j b (by have:=(List.getElem?_eq_some_iff.1 hb).1;omega) hb
   ·exact hall i' j a b (by omega) ha hb
 ·have hin:¬i<n2:=by simpa using h
  refine A6 ?_;refine⟨_,rfl,F6 rfl ?_,hw.drop⟩
  refine(W8 ⟨fun c hc=>?_,fun p q a b ha hb=>?_⟩).symm
  ·rw[←hcs]at hc;obtain⟨x,hx,rfl⟩:=List.mem_map.1 hc
   obtain⟨q,hq,he⟩:=List.getElem_of_mem hx
   exact hsort q x (by rw[List.getElem?_eq_getElem hq,he])
  ·rw[←hcs,List.getElem?_map]at ha hb
   obtain⟨x,hx,rfl⟩:=Option.map_eq_some_iff.1 ha
   obtain⟨y,hy,rfl⟩:=Option.map_eq_some_iff.1 hb
   exact hall p q x y (by have:=(List.getElem?_eq_some_iff.1 hx).1;omega) hx hy⟩
abbrev S9(l:List (Int×Int)):List (List Value):=l.map fun p=>[.int .u64 p.1,.int .u64 p.2]
def T3(m:AW):Int×Int:=(m.Base,IntKind.u64.wrap (m.Base+m.Size))
def i7(m:AY):Int×Int:=(m.Base,IntKind.u64.wrap (m.Base+m.Size))
def HP(H:H1):List (Int×Int):=H.Mems.map T3++H.Devs.map i7
def Ed(x y:Int×Int):Bool:=!(decide (x.1<y.2)&&decide (y.1<x.2))
def gW(H:H1):Prop:=∀(i k:Nat) (a b:Int×Int),k<i→(HP H)[i]? = some a→(HP H)[k]? = some b→Ed a b=true
noncomputable def Kj(H:H1):Bool:=Ir (gW H)
theorem Js{α:Type}{f:α→Int×Int}{l:List α}{L:List (Int×Int)}{k:Nat}{x:α}(hx:l[k]? = some x):S9 (L++(l.take k).map f)++[[.int .u64 (f x).1,.int .u64 (f x).2]]=S9 (L++(l.take (k+1)).map f):=by rw[C9 hx];simp[S9]
theorem w3{α:Type}{f:α→Int}{l:List α}{L:List Int}{k:Nat}{x:α}(hx:l[k]? = some x):A8 (L++(l.take k).map f)++[[.int .i64 (f x)]]=A8 (L++(l.take (k+1)).map f):=by rw[C9 hx];simp[A8]
theorem Nr{Γ:C8}{S:List B2}{w:World}{u:Value}{H:H1}[hh:Cl Γ u H](hcnt:U1 H=true)(hw:Wd Γ S w):Calls Tryz.prog 191 #[u] w fun e w'=>e=.returned (.bool (Kj H))∧Wd Γ S w':=by
 obtain⟨-,l1,l2,l3,l4,l5⟩:=w5 hcnt
 obtain⟨a1,n1,c1,a2,n2,c2,a3,n3,c3,a4,n4,c4,a5,n5,c5,cs,rfl,hcs,hok,hsz,r1,r2,r3,r4,r5⟩:=hh.h;obtain⟨hn1,hm1,hx1⟩:=C6 r1
 obtain⟨hn2,hm2,hx2⟩:=C6 r2
 obtain⟨hn3,hm3,hx3⟩:=C6 r3
 obtain⟨hn4,hm4,hx4⟩:=C6 r4
 obtain⟨hn5,hm5,hx5⟩:=C6 r5
 simp only[List.length_map]at hn1 hn2 hn3 hn4 hn5
 refine A9 Tryz.func191 rfl rfl ?_
 refine A6 ?_;refine H9 ?_;intro b1 w hw;have hw:Wd Γ (.blk b1 (.cells #[.string H.Name,.slice a1 n1 c1,.slice a2 n2 c2,.slice a3 n3 c3,.slice a4 n4 c4,.slice a5 n5 c5] 69)::S) w:=hw
 obtain⟨q,m,d,hq⟩:∃(q:Option Addr) (m d:Nat),(.slice none 0 0:Value)=.slice q m d:=⟨_,_,_,rfl⟩
 have hw:Wd Γ (.own (.slice none 0 0) 311 2 (S9 [])::.blk b1 (.cells #[.string H.Name,.slice a1 n1 c1,.slice a2 n2 c2,.slice a3 n3 c3,.slice a4 n4 c4,.slice a5 n5 c5] 69)::S) w:=Wd.addNil hw
 refine A6 ?_;rw[hq] at *
 clear hq;rw[show ([]:List (Int×Int))=(([]:List (Int×Int))++(H.Mems.take 0).map T3) from by simp]at hw
 refine A6 ?_;refine B5 (fun μ ρ w=>∃(k:Nat) (q:Option Addr) (m d:Nat),μ+k=n4∧Has ρ [(1,.pointer (some ⟨b1,0,none⟩)),(3,.slice q m d),(11,.slice a4 n4 c4),(12,.int .i64 n4),(13,.int .i64 k)]∧Wd Γ (.own (.slice q m d) 311 2 (S9 (([]:List (Int×Int))++(H.Mems.take k).map T3))::.blk b1 (.cells #[.string H.Name,.slice a1 n1 c1,.slice a2 n2 c2,.slice a3 n3 c3,.slice a4 n4 c4,.slice a5 n5 c5] 69)::S) w) n4 ⟨0,q,m,d,by omega,⟨rfl,rfl,rfl,rfl,rfl,trivial⟩,hw⟩ ?_
 clear hw;rintro μ ρ w ⟨k,q,m,d,hk,hρ,hw⟩
 have hm:=Q7 (i:=0) hw rfl
 simp only[S9,List.length_map,List.length_append,List.length_nil,List.length_take]at hm
 rw[hρ.eq];refine A6 ?_;refine A7 rfl (fun h=>?_) (fun h=>?_)
 ·have hkn:k<n4:=by simpa using h
  obtain⟨x,hx⟩:=B4 (l:=H.Mems) (k:=k) (by omega)
  refine A6 ?_;refine C0 ?_;intro b9 w hw;refine B1 ?_;intro w hw;have hw:Wd Γ (.blk b9 (.cells (enc x).toArray 157)::.own (.slice q m d) 311 2 (S9 (([]:List (Int×Int))++(H.Mems.take k).map T3))::.blk b1 (.cells #[.string H.Name,.slice a1 n1 c1,.slice a2 n2 c2,.slice a3 n3 c3,.slice a4 n4 c4,.slice a5 n5 c5] 69)::S) w:=hw
  refine A6 ?_;refine B6 [[.int .u64 (T3 x).1,.int .u64 (T3 x).2]] ?_
  intro ab w hw;refine V7 (i:=2) (rows2:=[[.int .u64 (T3 x).1,.int .u64 (T3 x).2]]) ?_ (Wd.own_rd (i:=0) hw rfl)
  intro v' w hw;obtain⟨q',m',d',rfl,-,-,-⟩:=hw.own_shape (i:=2) rfl
  have hw:Wd Γ (.own (.slice q' m' d') 311 2 (S9 (([]:List (Int×Int))++(H.Mems.take (k+1)).map T3))::.blk b1 (.cells #[.string H.Name,.slice a1 n1 c1,.slice a2 n2 c2,.slice a3 n3 c3,.slice a4 n4 c4,.slice a5 n5 c5] 69)::S) w:=by
   rw[←Js hx];exact hw.drop.drop
  refine A6 ?_;exact⟨μ-1,by omega,k+1,_,_,_,by omega,⟨rfl,rfl,rfl,rfl,rfl,trivial⟩,hw⟩
 have hkn:¬k<n4:=by simpa using h
 rw[List.take_of_length_le (l:=H.Mems) (by omega)]at hw
 clear h hkn hρ hk hm;rw[List.nil_append]at hw;rw[show H.Mems.map T3=(H.Mems.map T3++(H.Devs.take 0).map i7) from by simp]at hw
 refine A6 ?_;refine B5 (fun μ ρ w=>∃(k:Nat) (q:Option Addr) (m d:Nat),μ+k=n5∧Has ρ [(1,.pointer (some ⟨b1,0,none⟩)),(3,.slice q m d),(30,.slice a5 n5 c5),(31,.int .i64 n5),(32,.int .i64 k)]∧Wd Γ (.own (.slice q m d) 311 2 (S9 (H.Mems.map T3++(H.Devs.take k).map i7))::.blk b1 (.cells #[.string H.Name,.slice a1 n1 c1,.slice a2 n2 c2,.slice a3 n3 c3,.slice a4 n4 c4,.slice a5 n5 c5] 69)::S) w) n5 ⟨0,q,m,d,by omega,⟨rfl,rfl,rfl,rfl,rfl,trivial⟩,hw⟩ ?_
 clear hw;rintro μ ρ w ⟨k,q,m,d,hk,hρ,hw⟩
 have hm:=Q7 (i:=0) hw rfl
 simp only[S9,List.length_map,List.length_append,List.length_nil,List.length_take]at hm
 rw[hρ.eq];refine A6 ?_;refine A7 rfl (fun h=>?_) (fun h=>?_)
 ·have hkn:k<n5:=by simpa using h
  obtain⟨x,hx⟩:=B4 (l:=H.Devs) (k:=k) (by omega)
  refine A6 ?_;refine C0 ?_;intro b9 w hw;refine B1 ?_;intro w hw;have hw:Wd Γ (.blk b9 (.cells (enc x).toArray 159)::.own (.slice q m d) 311 2 (S9 (H.Mems.map T3++(H.Devs.take k).map i7))::.blk b1 (.cells #[.string H.Name,.slice a1 n1 c1,.slice a2 n2 c2,.slice a3 n3 c3,.slice a4 n4 c4,.slice a5 n5 c5] 69)::S) w:=hw
  refine A6 ?_;refine B6 [[.int .u64 (i7 x).1,.int .u64 (i7 x).2]] ?_
  intro ab w hw;refine V7 (i:=2) (rows2:=[[.int .u64 (i7 x).1,.int .u64 (i7 x).2]]) ?_ (Wd.own_rd (i:=0) hw rfl)
  intro v' w hw;obtain⟨q',m',d',rfl,-,-,-⟩:=hw.own_shape (i:=2) rfl
  have hw:Wd Γ (.own (.slice q' m' d') 311 2 (S9 (H.Mems.map T3++(H.Devs.take (k+1)).map i7))::.blk b1 (.cells #[.string H.Name,.slice a1 n1 c1,.slice a2 n2 c2,.slice a3 n3 c3,.slice a4 n4 c4,.slice a5 n5 c5] 69)::S) w:=by
   rw[←Js hx];exact hw.drop.drop
  refine A6 ?_;exact⟨μ-1,by omega,k+1,_,_,_,by omega,⟨rfl,rfl,rfl,rfl,rfl,trivial⟩,hw⟩
 have hkn:¬k<n5:=by simpa using h
 rw[List.take_of_length_le (l:=H.Devs) (by omega)]at hw
 clear h hkn hρ hk hm;have hw:Wd Γ (.own (.slice q m d) 311 2 (S9 (HP H))::.blk b1 (.cells #[.string H.Name,.slice a1 n1 c1,.slice a2 n2 c2,.slice a3 n3 c3,.slice a4 n4 c4,.slice a5 n5 c5] 69)::S) w:=hw
 have hm:=Q7 (i:=0) hw rfl
 simp only[S9,List.length_map]at hm
 have hmb:m≤96:=by rw[hm];simp[HP];omega
 refine A6 ?_;refine B5 (fun μ ρ w=>∃(i:Nat),μ+i=m∧Has ρ [(3,.slice q m d),(49,.int .i64 m),(50,.int .i64 i)]∧(∀(i' k:Nat) (a b:Int×Int),i'<i→k<i'→(HP H)[i']? = some a→(HP H)[k]? = some b→Ed a b=true)∧Wd Γ (.own (.slice q m d) 311 2 (S9 (HP H))::.blk b1 (.cells #[.string H.Name,.slice a1 n1 c1,.slice a2 n2 c2,.slice a3 n3 c3,.slice a4 n4 c4,.slice a5 n5 c5] 69)::S) w) m ⟨0,by omega,⟨rfl,rfl,rfl,trivial⟩,fun i' k a b h=>by omega,hw⟩ ?_
 clear hw;rintro μ ρ w ⟨i,hi,hρ,hall,hw⟩
 rw[hρ.eq];refine A6 ?_;refine A7 rfl (fun h=>?_) (fun h=>?_)
 ·have hin:i<m:=by simpa using h
  obtain⟨x,hx⟩:=B4 (l:=HP H) (k:=i) (by omega)
  refine A6 ?_;refine B5 (fun μ2 ρ w=>∃(k:Nat),μ2+k=i∧Has ρ [(3,.slice q m d),(8,.int .i64 i),(9,.int .i64 k),(49,.int .i64 m),(50,.int .i64 i)]∧(∀(j:Nat) (b:Int×Int),j<k→(HP H)[j]? = some b→Ed x b=true)∧Wd Γ (.own (.slice q m d) 311 2 (S9 (HP H))::.blk b1 (.cells #[.string H.Name,.slice a1 n1 c1,.slice a2 n2 c2,.slice a3 n3 c3,.slice a4 n4 c4,.slice a5 n5 c5] 69)::S) w) i ⟨0,by omega,⟨rfl,rfl,rfl,rfl,rfl,trivial⟩,fun j b h=>by omega,hw⟩ ?_
  clear hw;rintro μ2 ρ w ⟨k,hk,hρ,hall2,hw⟩
  rw[hρ.eq];refine A6 ?_;refine A7 rfl (fun h2=>?_) (fun h2=>?_)
  ·have hki:k<i:=by simpa using h2
   obtain⟨y,hy⟩:=B4 (l:=HP H) (k:=k) (by omega)
   refine A6 ?_;refine I5 (by kernel_rfl) (by kernel_rfl) hw ?_
   refine EX ?_;intro w hw;refine A7 rfl (fun h3=>?_) (fun h3=>?_)
   ·have hp:Ed x y=false:=by unfold Ed;exact congrArg (fun b=>!b) h3
    refine A6 ?_;refine⟨_,rfl,F6 rfl ?_,hw.drop.drop⟩
    refine(CE fun hP=>?_).symm
    rw[hP i k x y hki hx hy]at hp;cases hp
   ·have hp:Ed x y=true:=by unfold Ed;exact congrArg (fun b=>!b) h3
    refine A6 ?_;exact⟨μ2-1,by omega,k+1,by omega,⟨rfl,rfl,rfl,rfl,rfl,trivial⟩,O5 hall2 hy hp,hw⟩
  ·have hki:¬k<i:=by simpa using h2
   refine A6 ?_;refine⟨μ-1,by omega,i+1,by omega,⟨rfl,rfl,rfl,trivial⟩,fun i' j a b h1 h3 ha hb=>?_,hw⟩
   by_cases e:i'=i
   ·subst e;rw[hx]at ha;cases ha
    exact hall2 j b (by omega) hb
   ·exact hall i' j a b (by omega) h3 ha hb
 ·have hin:¬i<m:=by simpa using h
  refine A6 ?_;refine⟨_,rfl,F6 rfl ?_,hw.drop.drop⟩
  exact(W8 fun p q a b hpq ha hb=>hall p q a b (by have:=(List.getElem?_eq_some_iff.1 ha).1;omega) hpq ha hb).symm
inductive Reach (ls:List G3) (s:Int):Int→Prop
 | refl:Reach ls s s
 | ab {l:G3}:l∈ls→Reach ls s l.A→Reach ls s l.B
 | ba {l:G3}:l∈ls→Reach ls s l.B→Reach ls s l.A
def F7(H:H1):List Int:=(H.Cores.map (fun c=>c.Node)++H.Mems.map (fun c=>c.Node))++H.Devs.map (fun c=>c.Node)
def ZB(H:H1):Prop:=∀n∈F7 H,Reach H.Links ((F7 H).headD 0) n
noncomputable def Ig(H:H1):Bool:=Ir (ZB H)
theorem Hi{H:H1}{s0:Int}(h:(F7 H)[0]? = some s0):(F7 H).headD 0=s0:=by
 cases hu:F7 H with
 | nil=>rw[hu]at h;cases h
 | cons a l=>rw[hu]at h;simpa using h
theorem QI{H:H1}(h1:M4 H=true)(h2:J2 H=true):(∀n∈F7 H,0≤n∧n<64)∧∀l∈H.Links,0≤l.A∧l.A<64∧0≤l.B∧l.B<64:=by
 unfold M4 at h1;unfold J2 at h2;simp only[Bool.and_eq_true,List.all_eq_true]at h1 h2
 obtain⟨hc,-,hl⟩:=h1;obtain⟨hm,hd⟩:=h2;refine⟨fun n hn=>?_,fun l hl'=>?_⟩
 ·unfold F7 at hn;simp only[List.mem_append,List.mem_map]at hn
  rcases hn with (⟨c,hcm,rfl⟩|⟨c,hcm,rfl⟩)|⟨c,hcm,rfl⟩
  ·have:=hc c hcm;simp[Aw,K3]at this;omega
  ·have:=hm c hcm;simp[FY,K3]at this;omega
  ·have:=hd c hcm;simp[Fe,K3]at this;omega
 ·have:=hl l hl';simp[Au,K3]at this;omega
structure IZ(ls:List G3)(s:Int)(R:List Bool):Prop where
 len:R.length=64
 ok:∀(j:Nat),R[j]? = some true→∃n:Int,n.toNat=j∧0≤n∧Reach ls s n
theorem Pz{ls:List G3}{s:Int}(h:0≤s∧s<64):IZ ls s ((List.replicate 64 false).set s.toNat true):=⟨by simp,fun j hj=>by
 rw[List.getElem?_set]at hj;split at hj
 ·rename_i e;exact⟨s,e,h.1,.refl⟩
 ·rw[List.getElem?_replicate]at hj;split at hj <;> simp at hj⟩
theorem IZ.set{ls:List G3}{s n:Int}{R:List Bool}(h:IZ ls s R)(hn:0≤n)(hr:Reach ls s n):IZ ls s (R.set n.toNat true):=⟨by simp[h.len],fun j hj=>by
 rw[List.getElem?_set]at hj;split at hj
 ·rename_i e;exact⟨n,e,hn,hr⟩
 ·exact h.ok j hj⟩
theorem Ul{ls:List G3}{s n:Int}{R:List Bool}(h:IZ ls s R)(h0:R[s.toNat]? = some true)(hs:0≤s)(hL:∀l∈ls,0≤l.A∧l.A<64∧0≤l.B∧l.B<64)(hcl:∀l∈ls,R.getD l.A.toNat false=R.getD l.B.toNat false)(hn:0≤n∧n<64):R.getD n.toNat false=true↔Reach ls s n:=by
 constructor
 ·intro hg;rw[List.getD_eq_getElem?_getD]at hg;obtain⟨b,hb⟩:=B4 (l:=R) (k:=n.toNat) (by rw[h.len];omega)
  rw[hb]at hg;have hg:b=true:=hg
  subst hg;obtain⟨x,hx,hx0,hr⟩:=h.ok _ hb
  have:x=n:=by omega
  subst this;exact hr
 ·intro hr;clear hn;induction hr with
  | refl=>rw[List.getD_eq_getElem?_getD,h0];rfl
  | ab hl _ ih=>rw[←hcl _ hl];exact ih
  | ba hl _ ih=>rw[hcl _ hl];exact ih
theorem set_self{R:List Bool}{k:Nat}{b:Bool}(h:k<R.length):(R.set k b)[k]? = some b:=by rw[List.getElem?_set_self h]
theorem NT{R:List Bool}{k:Nat}{b:Bool}(h:R[k]? = some b):((R.map Value.bool).toArray)[0+k*1]? = some (.bool b):=by simp[h]
theorem JQ{R:List Bool}{k:Nat}{b:Bool}(h:k<R.length):putCells (R.map Value.bool).toArray (0+k*1) [.bool b]=((R.set k b).map Value.bool).toArray:=by
 unfold putCells;rw[Nat.zero_add,Nat.mul_one,List.set_eq_take_append_cons_drop,if_pos h];simp
theorem UU{P:Program}{d:Option Tmp}{T U ty:TypeId}{pos:String}{es:Array Edge}{g:Option (Nat×Bool)}{x y:Operand}{ρ:Fr}{w:World}{a b:Bool}(hT:P.underlying T=some .bool)(hx:ev ρ x=.bool a)(hy:ev ρ y=.bool b):Mk.Yields P ⟨d,.binOp .neq T x y U,ty,pos,es,g⟩ ρ w (.bool (a != b)):=by
 unfold Mk.Yields;simp[execOp,go_sem,hx,hy,hT];cases a <;> cases b <;> rfl
theorem GY{R:List Bool}{k:Nat}:(R.set k true).count false≤R.count false:=by
 induction R generalizing k with
 | nil=>simp
 | cons b l ih=>
  cases k with
  | zero=>cases b <;> simp
  | succ k=>simp only[List.set_cons_succ,List.count_cons];have:=ih (k:=k);omega
theorem Gb{R:List Bool}{k:Nat}(h:R[k]? = some false):(R.set k true).count false+1≤R.count false:=by
 induction R generalizing k with
 | nil=>simp at h
 | cons b l ih=>
  cases k with
  | zero=>simp at h;subst h;simp
  | succ k=>simp at h;simp only[List.set_cons_succ,List.count_cons];have:=ih (k:=k) (by simpa using h);omega
theorem LG{Γ:C8}{S:List B2}{w:World}{u:Value}{H:H1}[hh:Cl Γ u H](hcnt:U1 H=true)(hcr:M4 H=true)(hrr:J2 H=true)(hw:Wd Γ S w):Calls Tryz.prog 192 #[u] w fun e w'=>e=.returned (.bool (Ig H))∧Wd Γ S w':=by
 obtain⟨l0,l1,l2,l3,l4,l5⟩:=w5 hcnt
 obtain⟨hNd,hLk⟩:=QI hcr hrr
 obtain⟨a1,n1,c1,a2,n2,c2,a3,n3,c3,a4,n4,c4,a5,n5,c5,cs,rfl,hcs,hok,hsz,r1,r2,r3,r4,r5⟩:=hh.h;obtain⟨hn1,hm1,hx1⟩:=C6 r1
 obtain⟨hn2,hm2,hx2⟩:=C6 r2
 obtain⟨hn3,hm3,hx3⟩:=C6 r3
 obtain⟨hn4,hm4,hx4⟩:=C6 r4
 obtain⟨hn5,hm5,hx5⟩:=C6 r5
 simp only[List.length_map]at hn1 hn2 hn3 hn4 hn5
 refine A9 Tryz.func192 rfl rfl ?_
 refine A6 ?_;refine H9 ?_;intro b1 w hw;have hw:Wd Γ (.blk b1 (.cells #[.string H.Name,.slice a1 n1 c1,.slice a2 n2 c2,.slice a3 n3 c3,.slice a4 n4 c4,.slice a5 n5 c5] 69)::S) w:=hw
 obtain⟨q,m,d,hq⟩:∃(q:Option Addr) (m d:Nat),(.slice none 0 0:Value)=.slice q m d:=⟨_,_,_,rfl⟩
 have hw:Wd Γ (.own (.slice none 0 0) 3 1 (A8 [])::.blk b1 (.cells #[.string H.Name,.slice a1 n1 c1,.slice a2 n2 c2,.slice a3 n3 c3,.slice a4 n4 c4,.slice a5 n5 c5] 69)::S) w:=Wd.addNil hw
 refine A6 ?_;rw[hq] at *
 clear hq;rw[show ([]:List Int)=(([]:List Int)++(H.Cores.take 0).map (fun c=>c.Node)) from by simp]at hw
 refine A6 ?_;refine B5 (fun μ ρ w=>∃(k:Nat) (q:Option Addr) (m d:Nat),μ+k=n1∧Has ρ [(1,.pointer (some ⟨b1,0,none⟩)),(3,.slice q m d),(17,.slice a1 n1 c1),(18,.int .i64 n1),(19,.int .i64 k)]∧Wd Γ (.own (.slice q m d) 3 1 (A8 (([]:List Int)++(H.Cores.take k).map (fun c=>c.Node)))::.blk b1 (.cells #[.string H.Name,.slice a1 n1 c1,.slice a2 n2 c2,.slice a3 n3 c3,.slice a4 n4 c4,.slice a5 n5 c5] 69)::S) w) n1 ⟨0,q,m,d,by omega,⟨rfl,rfl,rfl,rfl,rfl,trivial⟩,hw⟩ ?_
 clear hw;rintro μ ρ w ⟨k,q,m,d,hk,hρ,hw⟩
 have hm:=Q7 (i:=0) hw rfl
 simp only[A8,List.length_map,List.length_append,List.length_nil,List.length_take]at hm
 rw[hρ.eq];refine A6 ?_;refine A7 rfl (fun h=>?_) (fun h=>?_)
 ·have hkn:k<n1:=by simpa using h
  obtain⟨x,hx⟩:=B4 (l:=H.Cores) (k:=k) (by omega)
  refine A6 ?_;refine C0 ?_;intro b9 w hw;refine B1 ?_;intro w hw;have hw:Wd Γ (.blk b9 (.cells (enc x).toArray 72)::.own (.slice q m d) 3 1 (A8 (([]:List Int)++(H.Cores.take k).map (fun c=>c.Node)))::.blk b1 (.cells #[.string H.Name,.slice a1 n1 c1,.slice a2 n2 c2,.slice a3 n3 c3,.slice a4 n4 c4,.slice a5 n5 c5] 69)::S) w:=hw
  refine A6 ?_;refine B6 [[.int .i64 x.Node]] ?_
  intro ab w hw;refine V7 (i:=2) (rows2:=[[.int .i64 x.Node]]) ?_ (Wd.own_rd (i:=0) hw rfl)
  intro v' w hw;obtain⟨q',m',d',rfl,-,-,-⟩:=hw.own_shape (i:=2) rfl
  have hw:Wd Γ (.own (.slice q' m' d') 3 1 (A8 (([]:List Int)++(H.Cores.take (k+1)).map (fun c=>c.Node)))::.blk b1 (.cells #[.string H.Name,.slice a1 n1 c1,.slice a2 n2 c2,.slice a3 n3 c3,.slice a4 n4 c4,.slice a5 n5 c5] 69)::S) w:=by
   rw[←w3 (f:=fun c:I1=>c.Node) hx];exact hw.drop.drop
  refine A6 ?_;exact⟨μ-1,by omega,k+1,_,_,_,by omega,⟨rfl,rfl,rfl,rfl,rfl,trivial⟩,hw⟩
 have hkn:¬k<n1:=by simpa using h
 rw[List.take_of_length_le (l:=H.Cores) (by omega)]at hw
 clear h hkn hρ hk hm;rw[List.nil_append]at hw;rw[show H.Cores.map (fun c=>c.Node)=(H.Cores.map (fun c=>c.Node)++(H.Mems.take 0).map (fun c=>c.Node)) from by simp]at hw
 refine A6 ?_;refine B5 (fun μ ρ w=>∃(k:Nat) (q:Option Addr) (m d:Nat),μ+k=n4∧Has ρ [(1,.pointer (some ⟨b1,0,none⟩)),(3,.slice q m d),(30,.slice a4 n4 c4),(31,.int .i64 n4),(32,.int .i64 k)]∧Wd Γ (.own (.slice q m d) 3 1 (A8 (H.Cores.map (fun c=>c.Node)++(H.Mems.take k).map (fun c=>c.Node)))::.blk b1 (.cells #[.string H.Name,.slice a1 n1 c1,.slice a2 n2 c2,.slice a3 n3 c3,.slice a4 n4 c4,.slice a5 n5 c5] 69)::S) w) n4 ⟨0,q,m,d,by omega,⟨rfl,rfl,rfl,rfl,rfl,trivial⟩,hw⟩ ?_
 clear hw;rintro μ ρ w ⟨k,q,m,d,hk,hρ,hw⟩
 have hm:=Q7 (i:=0) hw rfl
 simp only[A8,List.length_map,List.length_append,List.length_nil,List.length_take]at hm
 rw[hρ.eq];refine A6 ?_;refine A7 rfl (fun h=>?_) (fun h=>?_)
 ·have hkn:k<n4:=by simpa using h
  obtain⟨x,hx⟩:=B4 (l:=H.Mems) (k:=k) (by omega)
  refine A6 ?_;refine C0 ?_;intro b9 w hw;refine B1 ?_;intro w hw;have hw:Wd Γ (.blk b9 (.cells (enc x).toArray 157)::.own (.slice q m d) 3 1 (A8 (H.Cores.map (fun c=>c.Node)++(H.Mems.take k).map (fun c=>c.Node)))::.blk b1 (.cells #[.string H.Name,.slice a1 n1 c1,.slice a2 n2 c2,.slice a3 n3 c3,.slice a4 n4 c4,.slice a5 n5 c5] 69)::S) w:=hw
  refine A6 ?_;refine B6 [[.int .i64 x.Node]] ?_
  intro ab w hw;refine V7 (i:=2) (rows2:=[[.int .i64 x.Node]]) ?_ (Wd.own_rd (i:=0) hw rfl)
  intro v' w hw;obtain⟨q',m',d',rfl,-,-,-⟩:=hw.own_shape (i:=2) rfl
  have hw:Wd Γ (.own (.slice q' m' d') 3 1 (A8 (H.Cores.map (fun c=>c.Node)++(H.Mems.take (k+1)).map (fun c=>c.Node)))::.blk b1 (.cells #[.string H.Name,.slice a1 n1 c1,.slice a2 n2 c2,.slice a3 n3 c3,.slice a4 n4 c4,.slice a5 n5 c5] 69)::S) w:=by
   rw[←w3 (f:=fun c:AW=>c.Node) hx];exact hw.drop.drop
  refine A6 ?_;exact⟨μ-1,by omega,k+1,_,_,_,by omega,⟨rfl,rfl,rfl,rfl,rfl,trivial⟩,hw⟩
 have hkn:¬k<n4:=by simpa using h
 rw[List.take_of_length_le (l:=H.Mems) (by omega)]at hw
 clear h hkn hρ hk hm;rw[show (H.Cores.map (fun c=>c.Node)++H.Mems.map (fun c=>c.Node))=((H.Cores.map (fun c=>c.Node)++H.Mems.map (fun c=>c.Node))++(H.Devs.take 0).map (fun c=>c.Node)) from by simp]at hw
 refine A6 ?_;refine B5 (fun μ ρ w=>∃(k:Nat) (q:Option Addr) (m d:Nat),μ+k=n5∧Has ρ [(1,.pointer (some ⟨b1,0,none⟩)),(3,.slice q m d),(43,.slice a5 n5 c5),(44,.int .i64 n5),(45,.int .i64 k)]∧Wd Γ (.own (.slice q m d) 3 1 (A8 ((H.Cores.map (fun c=>c.Node)++H.Mems.map (fun c=>c.Node))++(H.Devs.take k).map (fun c=>c.Node)))::.blk b1 (.cells #[.string H.Name,.slice a1 n1 c1,.slice a2 n2 c2,.slice a3 n3 c3,.slice a4 n4 c4,.slice a5 n5 c5] 69)::S) w) n5 ⟨0,q,m,d,by omega,⟨rfl,rfl,rfl,rfl,rfl,trivial⟩,hw⟩ ?_
 clear hw;rintro μ ρ w ⟨k,q,m,d,hk,hρ,hw⟩
 have hm:=Q7 (i:=0) hw rfl
 simp only[A8,List.length_map,List.length_append,List.length_nil,List.length_take]at hm
 rw[hρ.eq];refine A6 ?_;refine A7 rfl (fun h=>?_) (fun h=>?_)
 ·have hkn:k<n5:=by simpa using h
  obtain⟨x,hx⟩:=B4 (l:=H.Devs) (k:=k) (by omega)
  refine A6 ?_;refine C0 ?_;intro b9 w hw;refine B1 ?_;intro w hw;have hw:Wd Γ (.blk b9 (.cells (enc x).toArray 159)::.own (.slice q m d) 3 1 (A8 ((H.Cores.map (fun c=>c.Node)++H.Mems.map (fun c=>c.Node))++(H.Devs.take k).map (fun c=>c.Node)))::.blk b1 (.cells #[.string H.Name,.slice a1 n1 c1,.slice a2 n2 c2,.slice a3 n3 c3,.slice a4 n4 c4,.slice a5 n5 c5] 69)::S) w:=hw
  refine A6 ?_;refine B6 [[.int .i64 x.Node]] ?_
  intro ab w hw;refine V7 (i:=2) (rows2:=[[.int .i64 x.Node]]) ?_ (Wd.own_rd (i:=0) hw rfl)
  intro v' w hw;obtain⟨q',m',d',rfl,-,-,-⟩:=hw.own_shape (i:=2) rfl
  have hw:Wd Γ (.own (.slice q' m' d') 3 1 (A8 ((H.Cores.map (fun c=>c.Node)++H.Mems.map (fun c=>c.Node))++(H.Devs.take (k+1)).map (fun c=>c.Node)))::.blk b1 (.cells #[.string H.Name,.slice a1 n1 c1,.slice a2 n2 c2,.slice a3 n3 c3,.slice a4 n4 c4,.slice a5 n5 c5] 69)::S) w:=by
   rw[←w3 (f:=fun c:AY=>c.Node) hx];exact hw.drop.drop
  refine A6 ?_;exact⟨μ-1,by omega,k+1,_,_,_,by omega,⟨rfl,rfl,rfl,rfl,rfl,trivial⟩,hw⟩
 have hkn:¬k<n5:=by simpa using h
 rw[List.take_of_length_le (l:=H.Devs) (by omega)]at hw
 clear h hkn hρ hk hm;have hw:Wd Γ (.own (.slice q m d) 3 1 (A8 (F7 H))::.blk b1 (.cells #[.string H.Name,.slice a1 n1 c1,.slice a2 n2 c2,.slice a3 n3 c3,.slice a4 n4 c4,.slice a5 n5 c5] 69)::S) w:=hw
 have hm:=Q7 (i:=0) hw rfl
 simp only[A8,List.length_map]at hm
 have hmb:1≤m∧m≤128:=by rw[hm];simp[F7];omega
 obtain⟨s0,hs0⟩:=B4 (l:=F7 H) (k:=0) (by omega)
 obtain⟨hs1,hs2⟩:=hNd s0 (List.mem_of_getElem? hs0)
 refine A6 ?_;refine C0 ?_;intro b10 w hw;have hw:Wd Γ (.blk b10 (.cells ((List.replicate 64 false).map Value.bool).toArray 312)::.own (.slice q m d) 3 1 (A8 (F7 H))::.blk b1 (.cells #[.string H.Name,.slice a1 n1 c1,.slice a2 n2 c2,.slice a3 n3 c3,.slice a4 n4 c4,.slice a5 n5 c5] 69)::S) w:=hw
 refine A6 ?_;refine B1 (o:=0+s0.toNat*1) (ho:=by simp;omega) ?_
 intro w hw;have hw:Wd Γ (.blk b10 (.cells (putCells ((List.replicate 64 false).map Value.bool).toArray (0+s0.toNat*1) [.bool true]) 312)::.own (.slice q m d) 3 1 (A8 (F7 H))::.blk b1 (.cells #[.string H.Name,.slice a1 n1 c1,.slice a2 n2 c2,.slice a3 n3 c3,.slice a4 n4 c4,.slice a5 n5 c5] 69)::S) w:=hw
 rw[JQ (by simp;omega)]at hw
 refine A6 ?_;have hst:IZ H.Links s0 ((List.replicate 64 false).set s0.toNat true):=Pz (by omega)
 refine B5 (fun μ ρ w=>∃(R:List Bool) (ch:Bool),2*R.count false+(if ch=true then 1 else 0)≤μ∧IZ H.Links s0 R∧R[s0.toNat]? = some true∧(ch=false→∀l∈H.Links,R.getD l.A.toNat false=R.getD l.B.toNat false)∧Has ρ [(1,.pointer (some ⟨b1,0,none⟩)),(3,.slice q m d),(10,.pointer (some ⟨b10,0,none⟩)),(11,.bool ch)]∧Wd Γ (.blk b10 (.cells ((R).map Value.bool).toArray 312)::.own (.slice q m d) 3 1 (A8 (F7 H))::.blk b1 (.cells #[.string H.Name,.slice a1 n1 c1,.slice a2 n2 c2,.slice a3 n3 c3,.slice a4 n4 c4,.slice a5 n5 c5] 69)::S) w) 200 ⟨_,true,by have:=List.count_le_length (a:=false) (l:=(List.replicate 64 false).set s0.toNat true);simp at this ⊢;omega,hst,set_self (by simp;omega),(fun h=>by cases h),⟨rfl,rfl,rfl,rfl,trivial⟩,hw⟩ ?_
 clear hw;rintro μ ρ w ⟨R,ch,hμ,hkn,hR0,hcl,hρ,hw⟩
 have hRl:=hkn.len
 rw[hρ.eq];refine A6 ?_;refine A7 rfl (fun h=>?_) (fun h=>?_)
 ·subst h;clear hcl;refine A6 ?_;refine B5 (fun μ2 ρ w=>∃(k:Nat) (R2:List Bool) (ch:Bool),μ2+k=n3∧IZ H.Links s0 R2∧R2[s0.toNat]? = some true∧2*R2.count false+(if ch=true then 1 else 0)+1≤2*R.count false+1∧(ch=false→∀(i:Nat) (l:G3),i<k→H.Links[i]? = some l→R2.getD l.A.toNat false=R2.getD l.B.toNat false)∧Has ρ [(1,.pointer (some ⟨b1,0,none⟩)),(3,.slice q m d),(10,.pointer (some ⟨b10,0,none⟩)),(11,.bool ch),(61,.slice a3 n3 c3),(62,.int .i64 n3),(63,.int .i64 k)]∧Wd Γ (.blk b10 (.cells ((R2).map Value.bool).toArray 312)::.own (.slice q m d) 3 1 (A8 (F7 H))::.blk b1 (.cells #[.string H.Name,.slice a1 n1 c1,.slice a2 n2 c2,.slice a3 n3 c3,.slice a4 n4 c4,.slice a5 n5 c5] 69)::S) w) n3 ⟨0,R,false,by omega,hkn,hR0,by simp,fun _ i l h=>by omega,⟨rfl,rfl,rfl,rfl,rfl,rfl,rfl,trivial⟩,hw⟩ ?_
  clear hw hkn hR0 hRl;rintro μ2 ρ w ⟨k,R2,ch,hk,hkn,hR0,hcnt2,hcl,hρ,hw⟩
  have hRl:=hkn.len
  rw[hρ.eq];refine A6 ?_;refine A7 rfl (fun h2=>?_) (fun h2=>?_)
  ·have hkn3:k<n3:=by simpa using h2
   obtain⟨x,hx⟩:=B4 (l:=H.Links) (k:=k) (by omega)
   obtain⟨hA0,hA1,hB0,hB1⟩:=hLk x (List.mem_of_getElem? hx)
   obtain⟨ba,hba⟩:=B4 (l:=R2) (k:=x.A.toNat) (by omega)
   obtain⟨bb,hbb⟩:=B4 (l:=R2) (k:=x.B.toNat) (by omega)
   refine A6 ?_;refine C0 ?_;intro b13 w hw;refine B1 ?_;intro w hw;have hw:Wd Γ (.blk b13 (.cells (enc x).toArray 140)::.blk b10 (.cells ((R2).map Value.bool).toArray 312)::.own (.slice q m d) 3 1 (A8 (F7 H))::.blk b1 (.cells #[.string H.Name,.slice a1 n1 c1,.slice a2 n2 c2,.slice a3 n3 c3,.slice a4 n4 c4,.slice a5 n5 c5] 69)::S) w:=hw
   refine A6 ?_;refine I5 (by kernel_rfl) (by kernel_rfl) hw ?_
   refine EX ?_;refine qY (v:=.bool ba) ?_ (hy:=fun w hw=>V3 (i:=1) hw rfl rfl (NT hba))
   refine EX ?_;refine qY (v:=.bool bb) ?_ (hy:=fun w hw=>V3 (i:=1) hw rfl rfl (NT hbb))
   refine EX ?_;refine qY (v:=.bool (ba != bb)) ?_ (hy:=fun w hw=>UU Tryz.underlying4 rfl rfl)
   refine EX ?_;clear hw;intro w hw;refine A7 rfl (fun h3=>?_) (fun h3=>?_)
   ·refine A6 ?_;refine Qx [.blk b13 _] (.blk b10 _::.own _ _ _ _::.blk b1 _::S) [[],[],[],[],[],[0],[],[0]] [[],[],[],[],[],[0],[],[0]] hw ?_
    refine R1 ?_;refine AX (o:=0+x.A.toNat*1) (ho:=by simp;omega) ?_
    refine R1 ?_;refine AX (o:=0+x.B.toNat*1) (ho:=by
     show _≤(putCells (R2.map Value.bool).toArray (0+x.A.toNat*1) [.bool true]).size
     rw[JQ (by omega)];simp;omega) ?_
    refine s8 ?_
    clear hw;intro w hw;have hw:Wd Γ ([.blk b13 (.cells (enc x).toArray 140)]++((.blk b10 (.cells (putCells (putCells (R2.map Value.bool).toArray (0+x.A.toNat*1) [.bool true]) (0+x.B.toNat*1) [.bool true]) 312)::.own (.slice q m d) 3 1 (A8 (F7 H))::.blk b1 (.cells #[.string H.Name,.slice a1 n1 c1,.slice a2 n2 c2,.slice a3 n3 c3,.slice a4 n4 c4,.slice a5 n5 c5] 69)::S)++[])) w:=hw
    rw[JQ (by omega),JQ (by simp;omega),List.append_nil]at hw
    have hw:Wd Γ (.blk b10 (.cells (((R2.set x.A.toNat true).set x.B.toNat true).map Value.bool).toArray 312)::.own (.slice q m d) 3 1 (A8 (F7 H))::.blk b1 (.cells #[.string H.Name,.slice a1 n1 c1,.slice a2 n2 c2,.slice a3 n3 c3,.slice a4 n4 c4,.slice a5 n5 c5] 69)::S) w:=hw.drop
    refine A6 ?_;have hne:ba≠bb:=by cases ba <;> cases bb <;> simp_all
    have hRA:Reach H.Links s0 x.A∧Reach H.Links s0 x.B:=by
     have hxm:=List.mem_of_getElem? hx
     cases ba with
     | true=>
      obtain⟨n,hn,hn0,hr⟩:=hkn.ok _ hba
      have:n=x.A:=by omega
      subst this;exact⟨hr,.ab hxm hr⟩
     | false=>
      have:bb=true:=by cases bb <;> simp_all
      subst this;obtain⟨n,hn,hn0,hr⟩:=hkn.ok _ hbb
      have:n=x.B:=by omega
      subst this;exact⟨.ba hxm hr,hr⟩
    have hc2:2*((R2.set x.A.toNat true).set x.B.toNat true).count false+2≤2*R2.count false:=by
     cases ba with
     | false=>
      have h1:=Gb hba
      have h2:=GY (R:=R2.set x.A.toNat true) (k:=x.B.toNat)
      omega
     | true=>
      have h5:bb=false:=by cases bb <;> simp_all
      subst h5;have h6:x.A.toNat≠x.B.toNat:=fun e=>by rw[e,hbb]at hba;cases hba
      have h1:=Gb (R:=R2.set x.A.toNat true) (k:=x.B.toNat) (by rw[List.getElem?_set_ne h6];exact hbb)
      have h2:=GY (R:=R2) (k:=x.A.toNat)
      omega
    refine⟨μ2-1,by omega,k+1,_,true,by omega,(hkn.set hA0 hRA.1).set hB0 hRA.2,?_,by simp;omega,(fun h=>by cases h),⟨rfl,rfl,rfl,rfl,rfl,rfl,rfl,trivial⟩,hw⟩
    rw[List.getElem?_set,List.getElem?_set];split
    ·simp;omega
    ·split
     ·simp;omega
     ·exact hR0
   ·have hab:ba=bb:=by cases ba <;> cases bb <;> simp_all
    refine A6 ?_;refine⟨μ2-1,by omega,k+1,R2,ch,by omega,hkn,hR0,hcnt2,fun hc i l hi hl=>?_,⟨rfl,rfl,rfl,rfl,rfl,rfl,rfl,trivial⟩,hw.drop⟩
    by_cases e:i=k
    ·subst e;rw[hx]at hl;cases hl
     rw[List.getD_eq_getElem?_getD,List.getD_eq_getElem?_getD,hba,hbb,hab]
    ·exact hcl hc i l (by omega) hl
  ·have hkn3:¬k<n3:=by simpa using h2
   refine A6 ?_;refine⟨μ-1,by rw[if_pos rfl]at hμ;omega,R2,ch,by rw[if_pos rfl]at hμ;omega,hkn,hR0,fun hc l hl=>?_,⟨rfl,rfl,rfl,rfl,trivial⟩,hw⟩
   obtain⟨i,hi,he⟩:=List.getElem_of_mem hl
   exact hcl hc i l (by omega) (by rw[List.getElem?_eq_getElem hi,he])
 ·subst h;have hcl:=hcl rfl
  clear hμ;have hiff:∀n∈F7 H,(R.getD n.toNat false=true↔Reach H.Links s0 n):=fun n hn=>Ul hkn hR0 hs1 hLk hcl (hNd n hn)
  refine A6 ?_;refine B5 (fun μ ρ w=>∃(k:Nat),μ+k=m∧(∀(i:Nat) (n:Int),i<k→(F7 H)[i]? = some n→R.getD n.toNat false=true)∧Has ρ [(10,.pointer (some ⟨b10,0,none⟩)),(83,.slice q m d),(84,.int .i64 m),(85,.int .i64 k)]∧Wd Γ (.blk b10 (.cells ((R).map Value.bool).toArray 312)::.own (.slice q m d) 3 1 (A8 (F7 H))::.blk b1 (.cells #[.string H.Name,.slice a1 n1 c1,.slice a2 n2 c2,.slice a3 n3 c3,.slice a4 n4 c4,.slice a5 n5 c5] 69)::S) w) m ⟨0,by omega,fun i n h=>by omega,⟨rfl,rfl,rfl,rfl,trivial⟩,hw⟩ ?_
  clear hw;rintro μ ρ w ⟨k,hk,hall,hρ,hw⟩
  rw[hρ.eq];refine A6 ?_;refine A7 rfl (fun h2=>?_) (fun h2=>?_)
  ·have hkm:k<m:=by simpa using h2
   obtain⟨x,hx⟩:=B4 (l:=F7 H) (k:=k) (by omega)
   obtain⟨hx0,hx1⟩:=hNd x (List.mem_of_getElem? hx)
   obtain⟨bx,hbx⟩:=B4 (l:=R) (k:=x.toNat) (by omega)
   have hg:R.getD x.toNat false=bx:=by rw[List.getD_eq_getElem?_getD,hbx];rfl
   refine A6 ?_;refine lY (v:=.bool bx) ?_ (hy:=V3 (i:=0) hw rfl rfl (NT hbx))
   refine A6 ?_;refine A7 rfl (fun h3=>?_) (fun h3=>?_)
   ·have h3:bx=false:=by simpa using h3
    refine A6 ?_;refine⟨_,rfl,F6 rfl ?_,hw.drop.drop.drop⟩
    refine(CE fun hP=>?_).symm
    have h4:=(hiff x (List.mem_of_getElem? hx)).2 (by rw[←Hi hs0];exact hP x (List.mem_of_getElem? hx))
    rw[hg,h3]at h4;cases h4
   ·have h3:bx=true:=by simpa using h3
    refine A6 ?_;exact⟨μ-1,by omega,k+1,by omega,O5 (p:=fun n:Int=>R.getD n.toNat false) hall hx (hg.trans h3),⟨rfl,rfl,rfl,rfl,trivial⟩,hw⟩
  ·have hkm:¬k<m:=by simpa using h2
   refine A6 ?_;refine⟨_,rfl,F6 rfl ?_,hw.drop.drop.drop⟩
   refine(W8 fun n hn=>?_).symm
   rw[Hi hs0];obtain⟨i,hi,he⟩:=List.getElem_of_mem hn
   exact(hiff n hn).1 (hall i n (by omega) (by rw[List.getElem?_eq_getElem hi,he]))
noncomputable def F3(H:H1):Int:=
 if AF H=false then 63 else if U1 H=false then 15 else if (M4 H&&J2 H)=false then 6 else if x5 H=false then 59
 else if Y7 H=false then 56 else if As H=false then 57 else if Jt H=false then 73 else if Kj H=false then 7 else if Ig H=false then 60 else 0
instance OW{Γ:C8}{u:Value}{H:H1}[hh:Cl Γ u H]:PG Tryz.prog Γ 124 [u] (.int .i64 (F3 H)):=⟨fun S w hw=>by
 obtain⟨a1,n1,c1,a2,n2,c2,a3,n3,c3,a4,n4,c4,a5,n5,c5,cs,hu,-⟩:=hh.h;subst hu;refine A9 Tryz.func124 rfl rfl ?_
 refine A6 ?_;refine H9 ?_;intro b1 w hw;have hw:Wd Γ (.blk b1 (s7 H a1 n1 c1 a2 n2 c2 a3 n3 c3 a4 n4 c4 a5 n5 c5)::S) w:=hw
 unfold F3;repeat first|refine U9 ?_|refine V5 ?_;intro w hw
 refine A7 rfl (fun h=>?_) (fun h=>?_)
 ·rw[if_pos (by simpa using h)]
  refine A6 ?_;exact⟨_,rfl,rfl,hw.drop⟩
 rw[if_neg (by simpa using h)]
 clear h;repeat first|refine U9 ?_|refine V5 ?_;intro w hw
 refine A7 rfl (fun h=>?_) (fun h=>?_)
 ·rw[if_pos (by simpa using h)]
  refine A6 ?_;exact⟨_,rfl,rfl,hw.drop⟩
 have hcnt:U1 H=true:=by simpa using h
 rw[if_neg (by simpa using h)]
 clear h;repeat first|refine U9 ?_|refine V5 ?_;intro w hw
 refine A7 rfl (fun h=>?_) (fun h=>?_)
 ·have h:(!M4 H || !J2 H)=true:=h
  rw[if_pos (by revert h;cases M4 H <;> cases J2 H <;> simp)]
  refine A6 ?_;exact⟨_,rfl,rfl,hw.drop⟩
 have h:(!M4 H || !J2 H)=false:=h
 rw[←Bool.not_and]at h;have h:(M4 H&&J2 H)=true:=by simpa using h
 rw[if_neg (by rw[h];simp)]
 rw[Bool.and_eq_true]at h;obtain⟨hcr,hrr⟩:=h;repeat first|refine U9 ?_|refine V5 ?_;intro w hw
 refine A7 rfl (fun h=>?_) (fun h=>?_)
 ·rw[if_pos (by simpa using h)]
  refine A6 ?_;exact⟨_,rfl,rfl,hw.drop⟩
 rw[if_neg (by simpa using h)]
 clear h;refine A6 ?_;refine D3 ?_;refine(SD hcnt hw).mono ?_
 rintro r w ⟨rfl,hw⟩
 refine⟨_,rfl,?_⟩;refine A6 ?_;refine A7 rfl (fun h=>?_) (fun h=>?_)
 ·rw[if_pos (by simpa using h)]
  refine A6 ?_;exact⟨_,rfl,rfl,hw.drop⟩
 rw[if_neg (by simpa using h)]
 clear h;repeat first|refine U9 ?_|refine V5 ?_;intro w hw
 refine A7 rfl (fun h=>?_) (fun h=>?_)
 ·rw[if_pos (by simpa using h)]
  refine A6 ?_;exact⟨_,rfl,rfl,hw.drop⟩
 rw[if_neg (by simpa using h)]
 clear h;repeat first|refine U9 ?_|refine V5 ?_;intro w hw
 refine A7 rfl (fun h=>?_) (fun h=>?_)
 ·rw[if_pos (by simpa using h)]
  refine A6 ?_;exact⟨_,rfl,rfl,hw.drop⟩
 rw[if_neg (by simpa using h)]
 clear h;refine A6 ?_;refine D3 ?_;refine(Nr hcnt hw).mono ?_
 rintro r w ⟨rfl,hw⟩
 refine⟨_,rfl,?_⟩;refine A6 ?_;refine A7 rfl (fun h=>?_) (fun h=>?_)
 ·rw[if_pos (by simpa using h)]
  refine A6 ?_;exact⟨_,rfl,rfl,hw.drop⟩
 rw[if_neg (by simpa using h)]
 clear h;refine A6 ?_;refine D3 ?_;refine(LG hcnt hcr hrr hw).mono ?_
 rintro r w ⟨rfl,hw⟩
 refine⟨_,rfl,?_⟩;refine A6 ?_;refine A7 rfl (fun h=>?_) (fun h=>?_)
 ·rw[if_pos (by simpa using h)]
  refine A6 ?_;exact⟨_,rfl,rfl,hw.drop⟩
 rw[if_neg (by simpa using h)]
 refine A6 ?_;exact⟨_,rfl,rfl,hw.drop⟩⟩
theorem Uj{α:Type}{xs ys:List α}{k:Nat}(hl:xs.length=ys.length)(hk:xs.length≤k)(h:∀(i:Nat) (x y:α),i<k→xs[i]? = some x→ys[i]? = some y→x=y):xs=ys:=by
 apply List.ext_getElem?
 intro i;by_cases hi:i<xs.length
 ·obtain⟨x,hx⟩:=B4 hi
  obtain⟨y,hy⟩:=B4 (l:=ys) (k:=i) (by omega)
  rw[hx,hy,h i x y (by omega) hx hy]
 ·rw[List.getElem?_eq_none (by omega),List.getElem?_eq_none (by omega)]
theorem aX{α:Type}{xs ys:List α}{k:Nat}{x y:α}(h:∀(i:Nat) (x y:α),i<k→xs[i]? = some x→ys[i]? = some y→x=y)(hx:xs[k]? = some x)(hy:ys[k]? = some y)(e:x=y):∀(i:Nat) (x y:α),i<k+1→xs[i]? = some x→ys[i]? = some y→x=y:=fun i a b hi ha hb=>by
 by_cases q:i=k
 ·subst q;rw[hx]at ha;rw[hy]at hb;cases ha;cases hb;exact e
 ·exact h i a b (by omega) ha hb
end Go.Proofs.YtlimglpjpcfpdaaGreat
end
section
open Go Mk
namespace Go.Proofs.YtlimglpjpcfpdaaGreat
set_option maxHeartbeats 4000000
attribute [local irreducible] Calls I8 Dv
abbrev Cz:List Value:=[.string ⟨#[]⟩,.slice none 0 0,.slice none 0 0,.slice none 0 0,.slice none 0 0,.slice none 0 0]
section
variable {Γ:C8}{S:List B2}{w:World}{b2 b3 b4:Nat}{h0:Array Value}{p0:F2}{e0:Int}
end
section
variable {Γ:C8}{S:List B2}{w:World}
end
end Go.Proofs.YtlimglpjpcfpdaaGreat
end
section
open Go Mk
namespace Go.Proofs.YtlimglpjpcfpdaaGreat
set_option maxHeartbeats 8000000
attribute [local irreducible] Calls
theorem XT.freeze{Γ:C8}{S:List B2}{w:World}{H:H1}{u:Value}(h:XT Γ H S u w)(hsz:QA H):∃Γ',Γ.le Γ'∧Cl Γ' u H∧Wd Γ' S w:=by
 obtain⟨v1,v2,v3,v4,v5,cs,hcs,hok,rfl,hw⟩:=h;obtain⟨a1,n1,c1,rfl,-,-,-⟩:=hw.own_shape (i:=0) rfl
 obtain⟨a2,n2,c2,rfl,-,-,-⟩:=hw.own_shape (i:=1) rfl
 obtain⟨a3,n3,c3,rfl,-,-,-⟩:=hw.own_shape (i:=2) rfl
 obtain⟨a4,n4,c4,rfl,-,-,-⟩:=hw.own_shape (i:=3) rfl
 obtain⟨a5,n5,c5,rfl,-,-,-⟩:=hw.own_shape (i:=4) rfl
 obtain⟨Γ1,e1,r1,hw⟩:=hw.freeze;obtain⟨Γ2,e2,r2,hw⟩:=hw.freeze;obtain⟨Γ3,e3,r3,hw⟩:=hw.freeze;obtain⟨Γ4,e4,r4,hw⟩:=hw.freeze;obtain⟨Γ5,e5,r5,hw⟩:=hw.freeze;have f4:=e5
 have f3:=e4.trans f4
 have f2:=e3.trans f3
 have f1:=e2.trans f2
 exact⟨Γ5,e1.trans f1,⟨_,_,_,_,_,_,_,_,_,_,_,_,_,_,_,cs,rfl,hcs,fun c hc=>(hok c hc).mono (e1.trans f1),hsz,r1.mono f1,r2.mono f2,r3.mono f3,r4.mono f4,r5⟩,hw⟩
def W1:H1:=⟨⟨#[109]⟩,[⟨0,32,0,1⟩],[],[],[],[]⟩
def Aj:H1:=⟨⟨#[109]⟩,[⟨0,33,0,1⟩],[],[],[],[]⟩
theorem fI:QA Aj:=by unfold QA maxS;decide
end Go.Proofs.YtlimglpjpcfpdaaGreat
end
section
open Go Mk
open Go.ChangeShapes Go.WideShapes Go.ChangeAt Go.RowKit
namespace Go.Proofs.YtlimglpjpcfpdaaGreat
theorem Xl:ownKnob Tryz.prog.godebug=none:=by kernel_rfl
theorem RE{W W':World}{S:List B2}(h:Wd (EP W) S W')(may:MemPlace→Prop):W.keptBut W' may:=by
 refine⟨h.os,h.out,fun i hi=>?_⟩
 have h1:W.heap[i]? = some W.heap[i]:=Array.getElem?_eq_getElem hi
 have h2:=h.imm i W.heap[i] h1
 rw[h1,h2];cases W.heap[i] <;> simp
theorem ax{H:Type}{enc:TypeId×Value→H}{f:Func}{s:ChangeSpec}{W W':World}{S:List B2}{args:Array Value}{v:Value}{ds gs:List (DataW H)}{before pa pv:List MemPlace}{apart:Bool}
  (hW:DataW.Whole enc Tryz.prog f.params.toList s.vars apart W args.toList ds gs before)
  (hres:∀(b:Nat) (sp:Nat→Bool) (hd:Bool),DataW.TrodAll enc Tryz.prog W' b sp hd f.resultTypes.toList (v.resultList f.resultTypes.size) (s.fn H (ds++gs)).results [])
  (hargs:∀sp:Nat→Bool,(∀p∈before,sp p.block=true)→DataW.TrodAll enc Tryz.prog W' 0 sp true f.params.toList args.toList (s.fn H (ds++gs)).args pa)
  (hvars:∀sp:Nat→Bool,(∀p∈before,sp p.block=true)→DataW.TrodVars enc Tryz.prog W' sp s.vars (s.fn H (ds++gs)).vars pv)
  (hps:before=pa++pv) (hk:Wd (EP W) S W'):s.post enc Tryz.prog f apart true false false W args v W':=by
 have hold:∀p∈before,(fun b=>decide (b<W.heap.size)) p.block=true:=fun p hp=>by simpa using hW.lt p hp
 exact⟨ds,gs,before,[],pa,pv,hW,hres _ _ _,hargs _ hold,hvars _ hold,RE hk _,fun h=>by cases h⟩
theorem aF{Γ Γ':C8}{w:World}(hle:Γ.le Γ')(h:Wd Γ' [] w):Wd Γ [] w:=by
 obtain⟨h1,h2,h3,h4,h5,-⟩:=h;exact⟨h1.trans hle.os,h2.trans hle.tape,h3.trans hle.out,by rw[←hle.dr];exact h4,fun b o hb=>h5 b o (hle.imm b o hb),[],trivial,by simp,by simp⟩
section
variable {H:Type}{en:TypeId×Value→H}{W W':World}{base:Nat}{sp:Nat→Bool}{held:Bool}{S:List B2}
theorem Oq{sz:Nat}:∀ {rows:List (List Value)},(∀r∈rows,r.length=sz)→∀ {j:Nat} {u:Value},rows.flatten[j]? = some u→∃i r row,rows[i]? = some row∧row[r]? = some u∧j=i*sz+r
 | [],_,j,u,h=>by simp at h
 | a::rows,hl,j,u,h=>by
  rw[List.flatten_cons]at h;by_cases hj:j<a.length
  ·rw[List.getElem?_append_left hj]at h;exact⟨0,j,a,rfl,h,by omega⟩
  ·rw[List.getElem?_append_right (by omega)]at h
   obtain⟨i,r,row,h1,h2,h3⟩:=Oq (fun r hr=>hl r (List.mem_cons_of_mem _ hr)) h
   have ha:=hl a (List.mem_cons_self ..)
   refine⟨i+1,r,row,by simpa using h1,h2,?_⟩
   rw[Nat.add_mul,Nat.one_mul];omega
theorem Uh{n:Nat}{v:Value}{y:DataW H×List MemPlace}(h:DataW.trod en Tryz.prog W base sp held n 62 [v]=some y):∃xs:List Int,D9 (EP W) v 1 (A8 xs):=by
 have hc:Tryz.prog.cellsOf 3=1:=by kernel_rfl
 rcases Deep.open_slice Tryz.underlying62 h with⟨h0,-⟩|⟨a,len,cap,m,k,D,Pl,h0,-,hlc,hcm,hm,-,hel⟩
 ·cases h0
  refine⟨[],?_⟩
  unfold D9 A8;exact⟨by simp,none,0,0,rfl,rfl,by omega,Nat.zero_le _,fun hh=>by simp at hh⟩
 ·cases h0
  have hlm:len≤m:=by rw[hm];split <;> omega
  have hx:∀i,i<len→∃s:Int,∀j u,[Value.int .i64 s][j]? = some u→W.cell? (a.add (i*1+j))=some u:=fun i hi=>by
   obtain⟨cs',h1,h2⟩:=hel i (by omega)
   rw[hc]at h1;obtain⟨-,hl,hat⟩:=World.cells?_some h1
   obtain⟨s,rfl,-⟩:=DataW.trod_int Tryz.underlying3 h2
   refine⟨s,fun j u hu=>?_⟩
   have hj:j<1:=by rw[←hl];exact(List.getElem?_eq_some_iff.1 hu).1
   have:=hat j hj
   rw[hu,Go.Deep.add_add]at this;exact this
  have:∃f:Nat→Int,∀i,i<len→∀j u,[Value.int .i64 (f i)][j]? = some u→W.cell? (a.add (i*1+j))=some u:=by
   have dflt:Int:=0
   refine⟨fun i=>if hi:i<len then (hx i hi).choose else dflt,fun i hi=>?_⟩
   simp only[hi,dif_pos]
   exact(hx i hi).choose_spec
  obtain⟨f,hf⟩:=this;refine⟨(List.range len).map f,?_⟩
  unfold D9 A8;refine⟨fun r hr=>?_,some a,len,cap,rfl,by simp,hlc,hcm,fun hpos=>?_⟩
  ·obtain⟨s,-,rfl⟩:=List.mem_map.1 hr
   rfl
  ·have hpos:0<len:=by simpa using hpos
   have h00:=hf 0 hpos 0 (.int .i64 (f 0)) rfl
   obtain⟨g,o,spt⟩:=a;have h01:W.cell? ⟨g,o+0,spt⟩=some (.int .i64 (f 0)):=h00
   unfold World.cell? at h01
   cases hg:W.heap[g]? with
   | none=>rw[hg]at h01;simp at h01
   | some ob=>
    rw[hg]at h01;cases ob with
    | cells cur e fr=>
     cases spt with
     | some q=>simp at h01
     | none=>
      refine⟨g,o,cur,e,fr,rfl,hg,fun j u hj=>?_⟩
      obtain⟨i,r,row,h1,h2,h3⟩:=Oq (sz:=1) (rows:=((List.range len).map f).map fun x=>[Value.int .i64 x]) (fun r hr=>by
       obtain⟨s,-,rfl⟩:=List.mem_map.1 hr
       rfl) hj
      rw[List.getElem?_map,List.getElem?_map]at h1;have hi:i<len:=by
       by_cases hi:i<len
       ·exact hi
       ·rw[List.getElem?_eq_none (by simpa using hi)]at h1;simp at h1
      rw[List.getElem?_range hi]at h1;simp only[Option.map_some,Option.some.injEq]at h1
      subst h1;have h4:W.cell? ⟨g,o+(i*1+r),none⟩=some u:=by
       have h5:=hf i hi r u h2
       rwa [show Addr.add ⟨g,o,none⟩ (i*1+r)=⟨g,o+(i*1+r),none⟩ from by
        unfold Addr.add;by_cases h0:i*1+r=0
        ·rw[if_pos h0,h0];rfl
        ·rw[if_neg h0]]at h5
      unfold World.cell? at h4
      rw[hg]at h4;rw[h3];simpa using h4
    | _=>simp at h01
theorem Lu(hk:Wd (EP W) S W'):∀ {ts:List TypeId} {vs:List Value} {ds:List (DataW H)} {ps:List MemPlace},DataW.TrodAll en Tryz.prog W base sp held ts vs ds ps→(∀p∈ps,p.block<W.heap.size)→DataW.TrodAll en Tryz.prog W' base sp held ts vs ds ps
 | [],[],[],_,h,_=>h
 | _::_,_::_,_::_,_,⟨p,q,⟨n,h1⟩,h2,e⟩,hs=>⟨p,q,⟨n,DataW.trod_carry n _ _ _ h1 fun x hx=>by
   have hb:=hs x (by rw[e];exact List.mem_append_left _ hx)
   cases x with
   | cell b off=>
    have h3:W'.heap[b]? = W.heap[b]?:=by
     have h4:W.heap[b]? = some (W.heap[b]'hb):=Array.getElem?_eq_getElem hb
     rw[h4];exact hk.imm b _ h4
    show W'.cell? _=W.cell? _
    unfold World.cell?
    rw[h3]
   | map b=>
    have h4:W.heap[b]? = some (W.heap[b]'hb):=Array.getElem?_eq_getElem hb
    show W'.heap[b]? = W.heap[b]?
    rw[h4];exact hk.imm b _ h4⟩,Lu hk h2 (fun x hx=>hs x (by rw[e];exact List.mem_append_right _ hx)),e⟩
end
theorem ZJ:Kids Tryz.prog (· < Tryz.prog.types.size):=kids_rows (by kernel_rfl) (by kernel_rfl)
theorem XQ:∀t e,t<Tryz.prog.types.size→Tryz.prog.underlying t=some (.slice e)→0<Tryz.prog.cellsOf e:=slices_full_of _ (by kernel_rfl)
end Go.Proofs.YtlimglpjpcfpdaaGreat
end
section
open Go Mk
namespace Go.Proofs.YtlimglpjpcfpdaaGreat
set_option maxHeartbeats 4000000
attribute [local irreducible] Calls
structure Val where
 Kind:Int
 Num:Int
 Word:ByteArray
 deriving DecidableEq,Inhabited
instance:LC Val where
 enc a:=[.int .i64 a.Kind,.int .i64 a.Num,.string a.Word]
 inj a b h:=by cases a;cases b;simp at h;simp[h]
 ks:=[5,5,1]
 kinds a:=rfl
def cV(a b:Val):Int:=Ew (cI a.Kind b.Kind) (Ew (cI a.Num b.Num) (cB a.Word b.Word))
theorem Hm:V0 cV:=(Rx.prod (Rx.prod Wb)).map (fun v:Val=>(v.Kind,v.Num,v.Word)) fun a b h=>by cases a;cases b;simp at h;simp[h]
abbrev F9:=ByteArray×List Val
def I3(a b:F9):Int:=Ew (cB a.1 b.1) (Ew (cI a.2.length b.2.length) (cL cV a.2 b.2))
theorem I0:V0 I3:=(Wb.prod (Rx.prod Hm.list)).map (fun f:F9=>(f.1,((f.2.length:Int),f.2))) fun a b h=>by
 simp only[Prod.mk.injEq]at h;exact Prod.ext h.1 h.2.2
structure D1 where
 Rel:ByteArray
 A:Option Addr
 N:Nat
 C:Nat
 Args:List Val
def D1.hdr(f:D1):Value:=.slice f.A f.N f.C
def D1.fact(f:D1):F9:=(f.Rel,f.Args)
def cF(f:D1):List Value:=[.string f.Rel,f.hdr]
def BS(Γ:C8)(f:D1):Prop:=D9 Γ f.hdr 3 (f.Args.map enc)
theorem BS.len{Γ:C8}{f:D1}(h:BS Γ f):f.N=f.Args.length∧f.N≤f.C∧f.C≤9223372036854775807:=by
 obtain⟨a,n,c,h1,h2,h3,h4⟩:=D9.shape h
 unfold D1.hdr at h1;cases h1
 exact⟨by simpa using h2,h3,h4⟩
theorem Zb(f:D1):(cF f).all (·.oneCell')=true:=rfl
theorem Nm(fs:List D1):∀u∈(fs.map cF).flatten,u.oneCell'=true:=fun u hu=>by
 obtain⟨r,hr,hu⟩:=List.mem_flatten.1 hu
 obtain⟨f,_,rfl⟩:=List.mem_map.1 hr
 exact(List.all_eq_true.1 (Zb f)) u hu
instance fG(s:ByteArray):PC Tryz.prog 101 [.string s] (.bool false):=⟨fun w=>by
 refine A9 Tryz.func101 rfl rfl ?_
 refine A6 ?_;exact⟨_,rfl,F6 rfl (by simp),rfl⟩⟩
instance fJ(s:Int):PC Tryz.prog 182 [.int .i64 s] (.bool false):=⟨fun w=>by
 refine A9 Tryz.func182 rfl rfl ?_
 refine A6 ?_;exact⟨_,rfl,F6 rfl (by simp),rfl⟩⟩
instance fL(s:Int):PC Tryz.prog 234 [.int .i64 s] (.bool false):=⟨fun w=>by
 refine A9 Tryz.func234 rfl rfl ?_
 refine A6 ?_;exact⟨_,rfl,F6 rfl (by simp),rfl⟩⟩
instance gl(a b:ByteArray):PC Tryz.prog 46 [.string a,.string b] (.int .i64 (cB a b)):=⟨fun w=>by
 refine A9 Tryz.func46 rfl rfl ?_
 refine A6 ?_;refine P7 rfl ?_
 refine A6 ?_;refine P7 rfl ?_
 refine A6 ?_;refine A7 rfl (fun h=>?_) (fun h=>?_)
 ·refine A6 ?_;exact⟨_,rfl,H0 rfl (by simp[cB,h]),rfl⟩
 refine A6 ?_;refine A7 rfl (fun h2=>?_) (fun h2=>?_)
 ·refine A6 ?_;exact⟨_,rfl,H0 rfl (by simp[cB,h,h2]),rfl⟩
 ·refine A6 ?_;exact⟨_,rfl,H0 rfl (by simp[cB,h,h2]),rfl⟩⟩
instance gp(a b:Int):PC Tryz.prog 119 [.int .i64 a,.int .i64 b] (.int .i64 (cI a b)):=⟨fun w=>by
 refine A9 Tryz.func119 rfl rfl ?_
 refine A6 ?_;refine P7 rfl ?_
 refine A6 ?_;refine P7 rfl ?_
 refine A6 ?_;refine A7 rfl (fun h=>?_) (fun h=>?_)
 ·refine A6 ?_;exact⟨_,rfl,H0 rfl (by simp at h;simp[cI,h]),rfl⟩
 refine A6 ?_;refine A7 rfl (fun h2=>?_) (fun h2=>?_)
 ·refine A6 ?_;exact⟨_,rfl,H0 rfl (by simp at h h2;unfold cI;rw[if_neg (by omega),if_pos h2]),rfl⟩
 ·refine A6 ?_;exact⟨_,rfl,H0 rfl (by simp at h h2;unfold cI;rw[if_neg (by omega),if_neg (by omega)]),rfl⟩⟩
instance gx(a b:Int):PC Tryz.prog 173 [.int .i64 a,.int .i64 b] (.int .i64 (cI a b)):=⟨fun w=>by
 refine A9 Tryz.func173 rfl rfl ?_
 refine A6 ?_;refine P7 rfl ?_
 refine A6 ?_;refine P7 rfl ?_
 refine A6 ?_;refine A7 rfl (fun h=>?_) (fun h=>?_)
 ·refine A6 ?_;exact⟨_,rfl,H0 rfl (by simp at h;simp[cI,h]),rfl⟩
 refine A6 ?_;refine A7 rfl (fun h2=>?_) (fun h2=>?_)
 ·refine A6 ?_;exact⟨_,rfl,H0 rfl (by simp at h h2;unfold cI;rw[if_neg (by omega),if_pos h2]),rfl⟩
 ·refine A6 ?_;exact⟨_,rfl,H0 rfl (by simp at h h2;unfold cI;rw[if_neg (by omega),if_neg (by omega)]),rfl⟩⟩
theorem Nq{x y:Int}(h:¬x=0):Ew x y=x:=by unfold Ew;rw[if_neg h]
theorem KI{x y:Int}(h:x=0):Ew x y=y:=by unfold Ew;rw[if_pos h]
theorem G9{α:Type}(l:List α){k:Nat}(h:l.length≤k):l.drop k=[]:=List.drop_eq_nil_of_le h
theorem R9{α:Type}{l:List α}{k:Nat}{x:α}(h:l[k]? = some x):l.drop k=x::l.drop (k+1):=by
 obtain⟨h1,h2⟩:=List.getElem?_eq_some_iff.1 h
 rw[←h2];exact List.drop_eq_getElem_cons h1
def LR:List Int→Int
 | []=>0
 | x::l=>Ew x (LR l)
theorem To(x:Int):Ew x 0=x:=by unfold Ew;split <;> simp[*]
theorem Ja{Γ:C8}{S:List B2}{w:World}{v:Value}(xs:List Int)(hw:Wd Γ S w)(hr:P6 Γ S v 1 (xs.map fun x=>[.int .i64 x])) :
  Calls Tryz.prog 118 #[v] w fun e w'=>e=.returned (.int .i64 (LR xs))∧Wd Γ S w':=by
 obtain⟨a,n,c,rfl,hn,hnc,hc⟩:=hr.shape;simp only[List.length_map]at hn
 refine A9 Tryz.func118 rfl rfl ?_
 refine A6 ?_;refine B5 (fun μ ρ w=>∃(k:Nat),μ+k=n∧Has ρ [(3,.int .i64 0),(6,.slice a n c),(7,.int .i64 n),(8,.int .i64 k)]∧LR xs=LR (xs.drop k)∧Wd Γ S w) n ⟨0,by omega,⟨rfl,rfl,rfl,rfl,trivial⟩,rfl,hw⟩ ?_
 clear hw;rintro μ ρ w ⟨k,hk,hρ,ho,hw⟩
 rw[hρ.eq];refine A6 ?_;refine A7 rfl (fun h=>?_) (fun h=>?_)
 ·have hkn:k<n:=by simpa using h
  obtain⟨x,hx⟩:=B4 (l:=xs) (k:=k) (by omega)
  have hd:xs.drop k=x::xs.drop (k+1):=by
   obtain⟨h1,h2⟩:=List.getElem?_eq_some_iff.1 hx
   rw[←h2];exact(List.drop_eq_getElem_cons h1)
  rw[hd]at ho;refine A6 ?_;refine A7 rfl (fun h2=>?_) (fun h2=>?_)
  ·refine A6 ?_;have h2:¬x=0:=by simpa using h2
   refine⟨_,rfl,H0 rfl ?_,hw⟩
   rw[ho];unfold LR Ew;rw[if_neg h2]
  ·refine A6 ?_;have h2:x=0:=by simpa using h2
   refine⟨μ-1,by omega,k+1,by omega,⟨rfl,rfl,rfl,rfl,trivial⟩,?_,hw⟩
   rw[ho];show Ew x _=_;unfold Ew;rw[if_pos h2]
 ·have hkn:¬k<n:=by simpa using h
  refine A6 ?_;refine⟨_,rfl,H0 rfl ?_,hw⟩
  rw[ho,List.drop_eq_nil_of_le (by omega)];rfl
end Go.Proofs.YtlimglpjpcfpdaaGreat
end
section
open Go
namespace Mk
section
variable {P:Program}{n:Nat}{opa:Array Oper}{Γ:C8}{S:List B2}{QQ:Exit→Fr→World→Prop}{K:Value→World→Prop}{ρ:Fr}{w:World}{rest:List Oper}{sz:Nat}{rows:List (List Value)}
variable {d:Option Tmp}{T U ty:TypeId}{pos:String}{es:Array Edge}{g:Option (Nat×Bool)}{x y z:Operand}{v:Value}
theorem Vp{L r:List Value}{p f m sz N:Nat}(hp:p+sz≤N)(hN:N≤L.length)(hr:r.length=m)(hfm:f+m≤sz) :
  (L.take (p+f)++r++L.drop (p+f+r.length)).take N=(L.take N).take p++(((L.drop p).take sz).take f++r++((L.drop p).take sz).drop (f+m))++(L.take N).drop (p+sz):=by
 refine List.ext_getElem? fun i=>?_
 simp only[List.getElem?_append,List.getElem?_take,List.getElem?_drop,List.length_append,List.length_take,List.length_drop,hr]
 repeat' split
 all_goals first|omega|rfl|(congr 1;omega)|skip
theorem VF{E k f m i n c:Nat}{a:Option Addr}{v:Value}{r row:List Value}(hn:(P.info? T).map (·.size)=some m)(hw:Wd Γ S w)(hx:ev ρ x=.pointer (some ⟨aB a,aO a+k*sz+f,none⟩))(hy:ev ρ y=v)(hv:v.cells.toList=r)(hl:r.length=m)
  (h1:r.all (·.oneCell')=true) (hi:S[i]? = some (.own (.slice a n c) E sz rows)) (hkl:k<n) (hrow:rows[k]? = some row) (hfm:f+m≤sz) (hk:∀w',Wd Γ (S.set i (.own (.slice a n c) E sz (rows.set k (row.take f++r++row.drop (f+m))))) w'→K undef w'):Step P ⟨d,.store T x y,ty,pos,es,g⟩ ρ w K:=by
 obtain⟨bs0,hr0⟩:=hw.own_holds hi
 unfold B2.own at hr0;obtain⟨q0,a',n',c',e1,e2,e3,e4,e5⟩:=hr0;cases e1
 rcases e5 with⟨hc,_⟩|⟨b,cur,g1,g2,g3,g4,g5⟩
 ·omega
 ·subst g1;have hrl:row.length=sz:=q0 row (List.mem_of_getElem? hrow)
  have hnew:(row.take f++r++row.drop (f+m)).length=sz:=by simp[hl,hrl];omega
  have hx':ev ρ x=.pointer (some ⟨b,k*sz+f,none⟩):=by rw[hx];simp[aB,aO]
  have hks:k*sz+sz≤cur.size:=by
   rw[g4,show k*sz+sz=(k+1)*sz from by rw[Nat.add_mul];omega];exact Nat.mul_le_mul_right _ (by omega)
  have hfit:k*sz+f+0+r.length≤cur.size:=by rw[hl];omega
  have hst:=run_storeCells_at P b (k*sz+f) E r 0 cur w g3 hfit (fun u hu=>(List.all_eq_true.1 h1) u hu)
  simp only[Nat.add_zero]at hst
  have hsz:v.cells.size=m:=by rw[←hl,←hv];simp
  have hr:(execOp (ev ρ) ⟨d,.store T x y,ty,pos,es,g⟩).run P w=.ok .skip (w.setRow b (cur.toList.take (k*sz+f)++r++cur.toList.drop (k*sz+f+r.length)).toArray):=by
   cases hq:P.info? T with
   | none=>simp[hq]at hn
   | some q=>
    have hs:q.size=m:=by simpa[hq] using hn
    have hz:(Go.sizeOf T).run P w=.ok m w:=by simp[Go.sizeOf,typeInfo,hq,hs]
    have hsv:(storeVar T ⟨b,k*sz+f,none⟩ v).run P w=.ok () (w.setRow b (cur.toList.take (k*sz+f)++r++cur.toList.drop (k*sz+f+r.length)).toArray):=by
     unfold storeVar;rw[Sem.run_bind,hz];simp only[Result.andThen_ok,hsz,ne_eq,not_true_eq_false,if_false,hv]
     exact hst
    simp only[execOp,hx',hy,Instr.storeAt,Instr.sureAddr,Sem.run_bind,Sem.run_pure,Result.andThen_ok,hsv]
  have hfin:=hk _ (hw.upd hi (w':=w.setRow b (cur.toList.take (k*sz+f)++r++cur.toList.drop (k*sz+f+r.length)).toArray) ⟨rfl,rfl,rfl,(by first|exact Nat.le_refl _|exact Nat.le_succ _),by simp⟩ fun bs hr' hnd hlt=>by
   unfold B2.own at hr' ⊢
   obtain⟨q0',a2,n2,c2,f1,f2,f3,f4,f5⟩:=hr';cases f1
   rcases f5 with⟨hc,_⟩|⟨b2,cur2,k1,k2,k3,k4,k5⟩
   ·omega
   ·cases k1
    rw[show hp w b=some (.cells cur E (0,0)) from g3]at k3;cases k3
    refine⟨bs,⟨?_,_,_,_,rfl,by simpa using f2,f3,f4,.inr ⟨b,_,rfl,k2,setRow_heap w b cur _ E _ g3,?_,?_⟩⟩,hnd,fun x hx=>⟨by have:=hlt x hx;simpa using this,.inl hx⟩,fun k' _ hne=>setRow_other w b k' _ (fun e=>hne (by simp[k2,e]))⟩
    ·intro r' hr';rcases List.mem_or_eq_of_mem_set hr' with h|rfl
     ·exact q0 r' h
     ·exact hnew
    ·simp only[List.size_toArray,List.length_append,List.length_take,List.length_drop,Array.length_toList];omega
    ·have hkn:k*sz+sz≤n*sz:=by rw[show k*sz+sz=(k+1)*sz from by rw[Nat.add_mul];omega];exact Nat.mul_le_mul_right _ (by omega)
     have hns:n*sz≤cur.toList.length:=by rw[Array.length_toList,g4];exact Nat.mul_le_mul_right _ e3
     have e0:=Y5 (k:=k) (r:=row) q0 hrl (by omega)
     have e9:rows.set k row=rows:=by
      refine List.ext_getElem? fun i=>?_
      rw[List.getElem?_set];split
      ·rename_i h;subst h;rw[hrow];simp;omega
      ·rfl
     rw[e9]at e0;rw[Y5 q0 hnew (by omega),←g5]
     have hrw:row=(cur.toList.drop (k*sz)).take sz:=by
      have:row=((cur.toList.take (n*sz)).drop (k*sz)).take sz:=by
       rw[g5,e0,List.append_assoc,List.drop_append_of_le_length (by rw[List.length_take,←g5,List.length_take];omega)]
       have:((rows.flatten.take (k*sz)).drop (k*sz))=[]:=by rw[List.drop_eq_nil_iff,List.length_take];omega
       rw[this,List.nil_append,List.take_append_of_le_length (by omega),List.take_of_length_le (by omega)]
      rw[this,List.drop_take,List.take_take,Nat.min_eq_left (by omega)]
     rw[hrw];exact Vp hkn hns hl hfm
    )
  unfold Step;rw[hr];exact hfin
theorem Oo{E k f i m mm c sz:Nat}{a:Option Addr}{r row:List Value}{rows:List (List Value)}[hn:Rp P T m](h:∀w',Wd Γ (S.set i (.own (.slice a mm c) E sz (rows.set k (row.take f++r++row.drop (f+m))))) w'→L P n opa QQ rest ρ w')(hrow:rows[k]? = some row)(hw:Wd Γ S w:=by exact hw)(hx:ev ρ x=.pointer (some ⟨aB a,aO a+k*sz+f,none⟩):=by exact rfl)
  (hy:ev ρ y=v:=by exact l8) (hv:v.cells.toList=r:=by exact rfl) (hl:r.length=m:=by exact rfl) (h1:r.all (·.oneCell')=true:=by exact rfl) (hi:S[i]? = some (.own (.slice a mm c) E sz rows):=by exact GW) (hk:k<mm:=by omega) (hfm:f+m≤sz:=by omega) :
  L P n opa QQ (⟨none,.store T x y,ty,pos,es,none⟩::rest) ρ w:=F0 rfl rfl (VF hn.h hw hx hy hv hl h1 hi hk hrow hfm h)
end
attribute [local irreducible] Calls
theorem Ft{P:Program}{n:Nat}{c:Code}{K:Fr→World→Prop}{Q:Exit→Fr→World→Prop}{ρ:Fr}{w:World}(I:Fr→World→Prop)(h1:W P n c (YM I Q) ρ w)(h2:∀ρ w,I ρ w→K ρ w):W P n c (YM K Q) ρ w:=
 h1.mono fun e ρ w h=>by
  cases e with
  | normal=>exact h2 ρ w h
  | _=>exact h
section
variable {P:Program}{n:Nat}{ops:List Oper}{Γ:C8}{K:List B2}{wr tc stab:List (List Nat)}{Q:Fr→World→Prop}{i:Nat}{rest:List Oper}{ρ:Fr}{w:World}{M:Nat→Fr→List B2}{v:Value}{T T':Type}{o:Oper}
variable {ty:TypeId}{pos:String}{es:Array Edge}
theorem UY{a b d:Fr→List B2}:ML [a,b,d] 1=b:=rfl
theorem Cm{a b d:Fr→List B2}:ML [a,b,d] 2=d:=rfl
theorem L9{φ:T→Fr→Prop}{R:T→List B2}{g:Fr}{Z:List B2}(h:Wd Γ (P5 φ R g++Z) w):∃t,φ t g∧Wd Γ (R t++Z) w:=by
 obtain⟨⟨t,ht⟩,hw⟩:=Wd.openEx (S:=Z) h
 exact⟨t,ht,hw⟩
theorem U2{φ:T→Fr→Prop}{R:T→List B2}{g:Fr}{Z:List B2}(t:T)(ht:φ t g)(h:Wd Γ (R t++Z) w):Wd Γ (P5 φ R g++Z) w:=
 Wd.closeEx (X:=fun p:{t:T // φ t g}=>R p.1) ⟨t,ht⟩ h
theorem mM2{c c2:Nat}(m m2:Fr→List B2)(hs:∀Y w g,Wd Γ (K++(E8 tc stab i M g++Y)) w→Step P o (E7 stab.flatten g ρ) w fun u w'=>Wd Γ (K++(E8 tc stab i (H5 (H5 M c m) c2 m2) (D2 g o.dst u)++Y)) w'∧(T8 stab o.dst=false→u=v))
  (h:MSw (mV P n ops Γ K wr tc stab) Q (i+1) rest ⟨D2 ρ o.dst v,H5 (H5 M c m) c2 m2⟩) (hw0:wr.getD i []=[c,c2]) (hg:o.guard=none):MSw (mV P n ops Γ K wr tc stab) Q i (o::rest) ⟨ρ,M⟩:=by
 have hn:Mt.nxt (mV P n ops Γ K wr tc stab) i ⟨ρ,M⟩ ⟨v,H5 (H5 M c m) c2 m2⟩=H5 (H5 M c m) c2 m2:=by
  funext y
  simp only[Mt.nxt,V4.w,hw0]
  unfold H5;by_cases h1:y=c <;> by_cases h2:y=c2 <;> simp[h1,h2]
 refine⟨⟨v,H5 (H5 M c m) c2 m2⟩,⟨fun Γ' Y w g hr hw=>?_⟩,?_⟩
 ·have hΓ:Γ'=Γ:=hr
  subst hΓ;rw[hn];refine⟨fun _=>(hs Y w g hw).mono fun u w' ⟨h1,h2⟩=>⟨Γ',rfl,h1,h2⟩,fun hf=>?_⟩
  rw[Q4 hg]at hf;cases hf
 ·simp only[Mt.next,hn];exact h
theorem mS{c:Nat}{F:Fr→List B2}(F':Fr→List B2)
  (hs:∀g w Y,Wd Γ (F (E7 (stab.getD c []) g D4)++(K++Y)) w→Step P o (E7 stab.flatten g ρ) w fun u w'=>(T8 stab o.dst=false→u=v)∧Wd Γ (F' (E7 (stab.getD c []) (D2 g o.dst u) D4)++(K++Y)) w')
  (h:MSw (mV P n ops Γ K wr tc stab) Q (i+1) rest ⟨D2 ρ o.dst v,H5 M c F'⟩) (hM:M c=F:=by first|exact B0|exact UY|exact Cm|exact((A0 (by decide)).trans B0)|exact((A0 (by decide)).trans Cm)|exact((A0 (by decide)).trans ((A0 (by decide)).trans Cm))|exact((A0 (by decide)).trans ((A0 (by decide)).trans ((A0 (by decide)).trans Cm)))|exact((A0 (by decide)).trans ((A0 (by decide)).trans B0))|exact rfl) (hw0:wr.getD i []=[c]:=by exact rfl) (ht:tc.getD i []=[c]:=by exact rfl) (hg:o.guard=none:=by exact rfl) :
  MSw (mV P n ops Γ K wr tc stab) Q i (o::rest) ⟨ρ,M⟩:=by
 refine mM _ (fun Y w g hw=>?_) h hw0 hg
 rw[O2 ht,hM]at hw;refine(hs g w Y hw.swapApp).mono ?_
 rintro u w' ⟨h2,h3⟩
 refine⟨?_,h2⟩
 rw[O2 ht,B0];exact h3.swapApp
theorem mS2{c c2:Nat}{F G:Fr→List B2}(F' G':Fr→List B2)
  (hs:∀g w Y,Wd Γ (F (E7 (stab.getD c []) g D4)++(G (E7 (stab.getD c2 []) g D4)++(K++Y))) w→Step P o (E7 stab.flatten g ρ) w fun u w'=>(T8 stab o.dst=false→u=v)∧Wd Γ (F' (E7 (stab.getD c []) (D2 g o.dst u) D4)++(G' (E7 (stab.getD c2 []) (D2 g o.dst u) D4)++(K++Y))) w')
  (h:MSw (mV P n ops Γ K wr tc stab) Q (i+1) rest ⟨D2 ρ o.dst v,H5 (H5 M c F') c2 G'⟩) (hM:M c=F:=by first|exact B0|exact UY|exact Cm|exact((A0 (by decide)).trans B0)|exact((A0 (by decide)).trans Cm)|exact((A0 (by decide)).trans ((A0 (by decide)).trans Cm))|exact((A0 (by decide)).trans ((A0 (by decide)).trans ((A0 (by decide)).trans Cm)))|exact((A0 (by decide)).trans ((A0 (by decide)).trans B0))|exact rfl) (hM2:M c2=G:=by first|exact B0|exact UY|exact Cm|exact((A0 (by decide)).trans B0)|exact((A0 (by decide)).trans Cm)|exact((A0 (by decide)).trans ((A0 (by decide)).trans Cm))|exact((A0 (by decide)).trans ((A0 (by decide)).trans ((A0 (by decide)).trans Cm)))|exact((A0 (by decide)).trans ((A0 (by decide)).trans B0))|exact rfl) (hw0:wr.getD i []=[c,c2]:=by exact rfl) (ht:tc.getD i []=[c,c2]:=by exact rfl) (hcc:Nat.beq c c2=false:=by exact rfl) (hg:o.guard=none:=by exact rfl) :
  MSw (mV P n ops Γ K wr tc stab) Q i (o::rest) ⟨ρ,M⟩:=by
 have hne:c≠c2:=fun e=>by subst e;simp at hcc
 refine mM2 _ _ (fun Y w g hw=>?_) h hw0 hg
 rw[EY ht,hM,hM2]at hw;have W1:=(hw.perm (by rw[List.append_assoc];exact(List.perm_append_comm_assoc _ _ _).trans (List.Perm.append_left _ (List.perm_append_comm_assoc _ _ _)))  : Wd Γ (F (E7 (stab.getD c []) g D4)++(G (E7 (stab.getD c2 []) g D4)++(K++Y))) w)
 refine(hs g w Y W1).mono ?_
 rintro u w' ⟨h2,h3⟩
 refine⟨?_,h2⟩
 rw[EY ht,B0,A0 hne,B0];exact h3.perm (by rw[List.append_assoc];exact((List.perm_append_comm_assoc _ _ _).trans (List.Perm.append_left _ (List.perm_append_comm_assoc _ _ _))).symm)
theorem FE{c dd E by' len sz:Nat}{zs:List Value}{parts:Array (Nat×Operand)}{TT:TypeId}{φ:T→Fr→Prop}{R:T→List B2}(rws:T→List (List Value))[TL P TT E sz by' zs]
  (h:MSw (mV P n ops Γ K wr tc stab) Q (i+1) rest ⟨D2 ρ (some dd) undef,H5 M c (P5 (fun (p:T×Addr) g=>φ p.1 g∧g dd=.slice (some p.2) len len) fun p=>.own (.slice (some p.2) len len) E sz (rws p.1)::R p.1)⟩)
  (hf:∀t g,φ t (E7 (stab.getD c []) g D4)→t6 (fun i=>some (i*sz,sz)) ((List.range (len*sz)).map fun i=>zs.getD (i%sz) undef) (parts.toList.map fun p=>(p.1,ev (E7 stab.flatten g ρ) p.2))=some (rws t).flatten)
  (hw0:wr.getD i []=[c]:=by exact rfl) (ht:tc.getD i []=[c]:=by exact rfl) (hM:M c=P5 φ R:=by first|exact B0|exact UY|exact Cm|exact((A0 (by decide)).trans B0)|exact((A0 (by decide)).trans Cm)|exact((A0 (by decide)).trans ((A0 (by decide)).trans Cm))|exact((A0 (by decide)).trans ((A0 (by decide)).trans ((A0 (by decide)).trans Cm)))|exact((A0 (by decide)).trans ((A0 (by decide)).trans B0))|exact rfl) (hφ:∀t g u,φ t (E7 (stab.getD c []) g D4)→φ t (E7 (stab.getD c []) (D2 g (some dd) u) D4):=by intro t g u h;exact h)
  (hlen:∀t,(rws t).length=len:=by intro t;rfl) (hr:∀t,(rws t).all (fun r=>Nat.beq r.length sz)=true:=by intro t;rfl) (hbig:Nat.ble (len*sz) 16777216=true:=by exact rfl)
  (hs:(stab.getD c []).contains dd=true:=by exact rfl) (hfr:T8 stab (some dd)=true:=by exact rfl) :
  MSw (mV P n ops Γ K wr tc stab) Q i (⟨some dd,.buildSlice TT len parts,ty,pos,es,none⟩::rest) ⟨ρ,M⟩:=
 mS (v:=undef) (P5 (fun (p:T×Addr) g=>φ p.1 g∧g dd=.slice (some p.2) len len) fun p=>.own (.slice (some p.2) len len) E sz (rws p.1)::R p.1) (fun g w Y hw=>by
  obtain⟨t,h1,hw⟩:=L9 hw
  refine R8 (rws:=rws t) hw (hf t g h1) rfl (hlen t) (fun r hm=>Nat.eq_of_beq_eq_true ((List.all_eq_true.1 (hr t)) r hm)) (Nat.le_of_ble_eq_true hbig) fun a w' hw'=>⟨fun hh=>(by rw[hfr]at hh;cases hh),U2 (t,a) ⟨hφ t g _ h1,?_⟩ hw'⟩
  rw[J7 (by simpa using hs)];exact upd_same _ _ _) h hM hw0 ht rfl
theorem fB{c dd:Nat}{op:Op}{φ:T→Fr→Prop}{R:T→List B2}(u:T→Value)
  (hy:∀t g w Y,φ t (E7 (stab.getD c []) g D4)→Wd Γ (R t++(K++Y)) w→Yields P ⟨some dd,op,ty,pos,es,none⟩ (E7 stab.flatten g ρ) w (u t))
  (h:MSw (mV P n ops Γ K wr tc stab) Q (i+1) rest ⟨D2 ρ (some dd) undef,H5 M c (P5 (fun t g=>φ t g∧g dd=u t) R)⟩)
  (hw0:wr.getD i []=[c]:=by exact rfl) (ht:tc.getD i []=[c]:=by exact rfl) (hM:M c=P5 φ R:=by first|exact B0|exact UY|exact Cm|exact((A0 (by decide)).trans B0)|exact((A0 (by decide)).trans Cm)|exact((A0 (by decide)).trans ((A0 (by decide)).trans Cm))|exact((A0 (by decide)).trans ((A0 (by decide)).trans ((A0 (by decide)).trans Cm)))|exact((A0 (by decide)).trans ((A0 (by decide)).trans B0))|exact rfl) (hφ:∀t g u,φ t (E7 (stab.getD c []) g D4)→φ t (E7 (stab.getD c []) (D2 g (some dd) u) D4):=by intro t g u h;exact h)
  (hs:(stab.getD c []).contains dd=true:=by exact rfl) (hfr:T8 stab (some dd)=true:=by exact rfl) :
  MSw (mV P n ops Γ K wr tc stab) Q i (⟨some dd,op,ty,pos,es,none⟩::rest) ⟨ρ,M⟩:=
 mS (v:=undef) (P5 (fun t g=>φ t g∧g dd=u t) R) (fun g w Y hw=>by
  obtain⟨t,h1,hw⟩:=L9 hw
  refine(hy t g w Y h1 hw).step ⟨fun hh=>(by rw[hfr]at hh;cases hh),U2 t ⟨hφ t g _ h1,?_⟩ hw⟩
  rw[J7 (by simpa using hs)];exact upd_same _ _ _) h hM hw0 ht rfl
theorem MF{c dd j j2 E by' sz m cc m2 c2:Nat}{zs:List Value}{a:Option Addr}{rows:List (List Value)}{TT:TypeId}{x y:Operand}{φ:T→Fr→Prop}{R:T→List B2}(a2:T→Option Addr)(rows2:T→List (List Value))[TL P TT E sz by' zs]
  (h:MSw (mV P n ops Γ K wr tc stab) Q (i+1) rest ⟨D2 ρ (some dd) undef,H5 M c (P5 (fun (p:T×Value) g=>φ p.1 g∧g dd=p.2) fun p=>(R p.1).set j (.own p.2 E sz (rows++rows2 p.1)))⟩)
  (hy:∀t g,φ t (E7 (stab.getD c []) g D4)→ev (E7 stab.flatten g ρ) y=.slice (a2 t) m2 c2) (hw0:wr.getD i []=[c]:=by exact rfl) (ht:tc.getD i []=[c]:=by exact rfl) (hM:M c=P5 φ R:=by first|exact B0|exact UY|exact Cm|exact((A0 (by decide)).trans B0)|exact((A0 (by decide)).trans Cm)|exact((A0 (by decide)).trans ((A0 (by decide)).trans Cm))|exact((A0 (by decide)).trans ((A0 (by decide)).trans ((A0 (by decide)).trans Cm)))|exact((A0 (by decide)).trans ((A0 (by decide)).trans B0))|exact rfl) (hj:∀t,(R t)[j]? = some (.own (.slice a m cc) E sz rows):=by intro t;exact rfl) (hj2:∀t,(R t)[j2]? = some (.own (.slice (a2 t) m2 c2) E sz (rows2 t)):=by intro t;exact rfl)
  (h1:∀t,(rows2 t).flatten.all (·.oneCell')=true:=by intro t;rfl) (hx:∀g,ev (E7 stab.flatten g ρ) x=.slice a m cc:=by intro g;exact rfl)
  (hφ:∀t g u,φ t (E7 (stab.getD c []) g D4)→φ t (E7 (stab.getD c []) (D2 g (some dd) u) D4):=by intro t g u h;exact h)
  (hb:(m+m2)*by'≤140737488355328:=by omega) (h63:m+m2≤9223372036854775807:=by omega) (hl2:∀t,m2=(rows2 t).length:=by intro t;rfl)
  (hs:(stab.getD c []).contains dd=true:=by exact rfl) (hfr:T8 stab (some dd)=true:=by exact rfl) :
  MSw (mV P n ops Γ K wr tc stab) Q i (⟨some dd,.call { callee:=.builtin .append,args:=#[x,y],argTypes:=#[TT,TT] },ty,pos,es,none⟩::rest) ⟨ρ,M⟩:=
 mS (v:=undef) (P5 (fun (p:T×Value) g=>φ p.1 g∧g dd=p.2) fun p=>(R p.1).set j (.own p.2 E sz (rows++rows2 p.1))) (fun g w Y hw=>by
  obtain⟨t,ht1,hw⟩:=L9 hw
  have hjl:j<(R t).length:=(List.getElem?_eq_some_iff.1 (hj t)).1
  have hjl2:j2<(R t).length:=(List.getElem?_eq_some_iff.1 (hj2 t)).1
  have hi:(R t++(K++Y))[j]? = some (.own (.slice a m cc) E sz rows):=by rw[List.getElem?_append_left hjl];exact hj t
  have hi2:(R t++(K++Y))[j2]? = some (.own (.slice (a2 t) m2 c2) E sz (rows2 t)):=by rw[List.getElem?_append_left hjl2];exact hj2 t
  refine Cb hw (hx g) (hy t g ht1) hi (hw.own_rd hi2) (hl2 t) (fun u hu=>(List.all_eq_true.1 (h1 t)) u hu) hb h63 fun v' w' hw'=>⟨fun hh=>(by rw[hfr]at hh;cases hh),U2 (t,v') ⟨hφ t g _ ht1,?_⟩ ?_⟩
  ·rw[J7 (by simpa using hs)];exact upd_same _ _ _
  ·rw[List.set_append_left _ _ hjl]at hw';exact hw') h hM hw0 ht rfl
theorem He{c0 c b ob dv j:Nat}{cs:Array Value}{E E2 fI:Nat}{TT:TypeId}{x:Operand}{φ:T→Fr→Prop}{R:T→List B2}{val:T→Value}{rows:T→List (List Value)}[hn:Rp P TT 1]
  (h:MSw (mV P n ops Γ K wr tc stab) Q (i+1) rest ⟨ρ,H5 (H5 M c0 fun _=>[]) c (P5 φ fun t=>.blk b (.cells (putCells cs ob [val t]) E)::R t)⟩)
  (hv:∀t g,φ t (E7 (stab.getD c []) g D4)→ev (E7 stab.flatten g ρ) (.tmp dv)=val t) (hw0:wr.getD i []=[c0,c]:=by exact rfl) (ht:tc.getD i []=[c0,c]:=by exact rfl) (hcc:Nat.beq c0 c=false:=by exact rfl) (hM2:M c=P5 φ R:=by first|exact B0|exact UY|exact Cm|exact((A0 (by decide)).trans B0)|exact((A0 (by decide)).trans Cm)|exact((A0 (by decide)).trans ((A0 (by decide)).trans Cm))|exact((A0 (by decide)).trans ((A0 (by decide)).trans ((A0 (by decide)).trans Cm)))|exact((A0 (by decide)).trans ((A0 (by decide)).trans B0))|exact rfl) (hj:∀t,(R t)[j]? = some (.own (val t) E2 fI (rows t)):=by intro t;exact rfl) (hx:∀g,ev (E7 stab.flatten g ρ) x=.pointer (some ⟨b,ob,none⟩):=by intro g;exact rfl)
  (hM:M c0=(fun _=>[.blk b (.cells cs E)]):=by exact rfl) (ho:ob+1≤cs.size:=by exact Nat.le_of_ble_eq_true rfl) :
  MSw (mV P n ops Γ K wr tc stab) Q i (⟨none,.store TT x (.tmp dv),ty,pos,es,none⟩::rest) ⟨ρ,M⟩:=
 mS2 (v:=undef) (fun _=>[]) (P5 φ fun t=>.blk b (.cells (putCells cs ob [val t]) E)::R t) (fun g w Y hw=>by
  have Aj:Wd Γ (P5 φ R (E7 (stab.getD c []) g D4)++(.blk b (.cells cs E)::(K++Y))) w:=hw.perm (List.perm_append_comm_assoc _ _ _)
  obtain⟨t,ht1,hw⟩:=L9 Aj
  have hw:Wd Γ (.blk b (.cells cs E)::(R t++(K++Y))) w:=hw.perm List.perm_middle
  have hjl:j<(R t).length:=(List.getElem?_eq_some_iff.1 (hj t)).1
  obtain⟨q1,q2,q3,e1,-,-,-⟩:=hw.own_shape (i:=j+1) (v:=val t) (e:=E2) (sz:=fI) (rows:=rows t) (by rw[List.getElem?_cons_succ,List.getElem?_append_left hjl];exact hj t)
  refine m9 hn.h hw (hx g) (hv t g ht1) (vs:=[val t]) (by rw[e1];rfl) rfl (fun u hu=>by simp at hu;subst hu;rw[e1];rfl) (i:=0) rfl ho fun w' hw'=>⟨fun _=>rfl,?_⟩
  exact U2 (R:=fun t=>.blk b (.cells (putCells cs ob [val t]) E)::R t) t ht1 hw') h hM hM2 hw0 ht hcc rfl
theorem IA{id:Nat}{l:List Oper}{QQ:Exit→Fr→World→Prop}(K X0 X1 X2:List B2)(N1 N2:List Nat)(wr tc:List (List Nat))(hw:Wd Γ (K++(X0++(X1++X2))) w)
  (h:MSw (mV P n l Γ K wr tc [[],N1,N2]) (fun ρ w=>QQ .normal ρ w) 0 l ⟨ρ,ML [fun _=>X0,P5 (T:=Unit) (fun _ _=>True) (fun _=>X1),P5 (T:=Unit) (fun _ _=>True) (fun _=>X2)]⟩)
  (hm:P.follows .mixedOrders=true:=by kernel_rfl) (hk:R3 n l wr tc [[],N1,N2]=true:=by kernel_rfl):W P n (.region id l.toArray true) QQ ρ w:=
 Q8 K [fun _=>X0,P5 (T:=Unit) (fun _ _=>True) (fun _=>X1),P5 (T:=Unit) (fun _ _=>True) (fun _=>X2)] wr tc [[],N1,N2] (by
  show Wd Γ (K++(X0++(P5 (T:=Unit) (fun _ _=>True) (fun _=>X1) (E7 N1 ρ D4)++(P5 (T:=Unit) (fun _ _=>True) (fun _=>X2) (E7 N2 ρ D4)++[])))) w
  rw[List.append_nil];have h1:Wd Γ (X1++(X2++(K++X0))) w:=hw.perm (by
   rw[←List.append_assoc,←List.append_assoc X1];exact List.perm_append_comm)
  have h2:Wd Γ (P5 (T:=Unit) (fun _ _=>True) (fun _=>X1) (E7 N1 ρ D4)++(X2++(K++X0))) w:=U2 () trivial h1
  have h3:Wd Γ (X2++(P5 (T:=Unit) (fun _ _=>True) (fun _=>X1) (E7 N1 ρ D4)++(K++X0))) w:=h2.perm (List.perm_append_comm_assoc _ _ _)
  have h4:Wd Γ (P5 (T:=Unit) (fun _ _=>True) (fun _=>X2) (E7 N2 ρ D4)++(P5 (T:=Unit) (fun _ _=>True) (fun _=>X1) (E7 N1 ρ D4)++(K++X0))) w:=U2 () trivial h3
  have h5:Wd Γ (P5 (T:=Unit) (fun _ _=>True) (fun _=>X1) (E7 N1 ρ D4)++(P5 (T:=Unit) (fun _ _=>True) (fun _=>X2) (E7 N2 ρ D4)++(K++X0))) w:=h4.perm (List.perm_append_comm_assoc _ _ _)
  exact h5.perm (by
   rw[←List.append_assoc,←List.append_assoc K];exact List.perm_append_comm)) h hm hk
theorem MH{N1 N2:List Nat}{φ:T→Fr→Prop}{R:T→List B2}(h:∀t w g,φ t (E7 N1 g D4)→Wd Γ (R t++K) w→Q (E7 [[],N1,N2].flatten g ρ) w)(hM0:M 0=fun _=>[]:=by exact rfl)(hM:M 1=P5 φ R:=by first|exact B0|exact UY|exact Cm|exact((A0 (by decide)).trans B0)|exact((A0 (by decide)).trans Cm)|exact((A0 (by decide)).trans ((A0 (by decide)).trans Cm))|exact((A0 (by decide)).trans ((A0 (by decide)).trans ((A0 (by decide)).trans Cm)))|exact((A0 (by decide)).trans ((A0 (by decide)).trans B0))|exact rfl):MSw (mV P n ops Γ K wr tc [[],N1,N2]) Q i [] ⟨ρ,M⟩:=
 S5 fun w g hw=>by
  have W1:Wd Γ (K++(M 0 (E7 [] g D4)++(M 1 (E7 N1 g D4)++(M 2 (E7 N2 g D4)++[])))) w:=hw
  rw[hM0,hM,List.nil_append]at W1;have Aj:Wd Γ (P5 φ R (E7 N1 g D4)++(K++(M 2 (E7 N2 g D4)++[]))) w:=W1.swapApp
  obtain⟨t,ht,hw3⟩:=L9 Aj
  exact h t w g ht (Wd.left (S:=R t++K) (by rw[List.append_assoc];exact hw3))
end
class PS(P:Program)(Γ:C8)(S:List B2)(f:Nat)(args:List Value)(v:outParam Value):Prop where
 h:∀Y w,Wd Γ (S++Y) w→Calls P f args.toArray w fun e w'=>e=.returned v∧Wd Γ (S++Y) w'
section
variable {P:Program}{n:Nat}{ops:List Oper}{opa:Array Oper}{Γ:C8}{S K:List B2}{Q:Fr→World→Prop}{QQ:Exit→Fr→World→Prop}{ρ:Fr}{w:World}{rest:List Oper}{wr tc stab:List (List Nat)}{i:Nat}{M:Nat→Fr→List B2}
variable {d:Option Tmp}{ty:TypeId}{pos:String}{es:Array Edge}{v:Value}{f:Nat}{args:List Operand}{tys:Array TypeId}{vs:List Value}{j dj:Nat}{want c:Bool}{g:Option (Nat×Bool)}
theorem gQ{Y:List B2}[C7 P f](hp:PS P Γ S f vs v)(ha:EvL ρ args vs)(hw:Wd Γ (S++Y) w):Step P ⟨d,.call { callee:=.value (.func f),args:=args.toArray,argTypes:=tys },ty,pos,es,g⟩ ρ w fun u w'=>u=v∧Wd Γ (S++Y) w':=
 An ha.eqA ((hp.h Y w hw).mono fun _ _ ⟨h1,h2⟩=>⟨v,h1,rfl,h2⟩)
theorem gU[C7 P f](h:Qw P n ops Γ S Q rest (D2 ρ d v))(ha:EvL ρ args vs:=by exact v7)(hp:PS P Γ S f vs v:=by infer_instance) :
  Qw P n ops Γ S Q (⟨d,.call { callee:=.value (.func f),args:=args.toArray,argTypes:=tys },ty,pos,es,none⟩::rest) ρ:=
 fo rfl rfl (fun _ _ hw=>gQ hp ha hw) h
theorem ec[C7 P f](h:Qw P n ops Γ S Q rest (D2 ρ d (gv c v)))(hj:(ops[j]?).bind (·.dst)=some dj:=by exact rfl)(hc:G0 (ρ dj) want c:=by exact IN)(ha:c=true→EvL ρ args vs:=by intro hc;exact Ii)(hp:PS P Γ S f vs v:=by infer_instance) :
  Qw P n ops Γ S Q (⟨d,.call { callee:=.value (.func f),args:=args.toArray,argTypes:=tys },ty,pos,es,some (j,want)⟩::rest) ρ:=
 bB rfl hj hc rfl (fun ht _ _ hw=>gQ hp (ha ht) hw) h
end
theorem Us{zs:List Value}{sz:Nat}(hz:zs.length=sz)(h0:0<sz):∀n:Nat,(madeCells zs.toArray (n*sz)).toList=(List.replicate n zs).flatten:=fun n=>by
 unfold madeCells;simp only[Array.toList_map,Array.toList_range,List.size_toArray,hz]
 have hf:∀i:Nat,zs.toArray[i%sz]! = zs.getD (i%sz) undef:=fun i=>by
  have hlt:i%sz<zs.length:=by rw[hz];exact Nat.mod_lt _ h0
  rw[getElem!_pos (zs.toArray) _ (by simpa using hlt)]
  simp[List.getD_eq_getElem?_getD,List.getElem?_eq_getElem hlt]
 simp only[hf]
 induction n with
 | zero=>simp
 | succ n ih=>
  rw[show (n+1)*sz=sz+n*sz from by rw[Nat.add_mul];omega,List.range_add,List.map_append,List.map_map,List.replicate_succ,List.flatten_cons,←ih]
  congr 1
  ·refine List.ext_getElem? fun i=>?_
   rw[List.getElem?_map];by_cases hi:i<sz
   ·rw[List.getElem?_range hi];simp only[Option.map_some,Nat.mod_eq_of_lt hi]
    rw[List.getD_eq_getElem?_getD,List.getElem?_eq_getElem (by omega)];rfl
   ·rw[List.getElem?_eq_none (by simpa using hi),List.getElem?_eq_none (by omega)];rfl
  ·refine List.map_congr_left fun i _=>?_
   simp
section
variable {P:Program}{n:Nat}{opa:Array Oper}{Γ:C8}{S:List B2}{QQ:Exit→Fr→World→Prop}{ρ:Fr}{w:World}{rest:List Oper}{K:Value→World→Prop}
variable {d:Option Tmp}{T ty:TypeId}{pos:String}{es:Array Edge}{g:Option (Nat×Bool)}{x y:Operand}
theorem Qd{E by' len sz:Nat}{zs:List Value}[hT:TL P T E sz by' zs](hw:Wd Γ S w)(hx:ev ρ x=.int .i64 (len:Nat))(hy:ev ρ y=.int .i64 (len:Nat))(hb:(by':Int)*len≤281474976710656)(h63:(len:Int)≤9223372036854775807)
  (hk:∀a w',Wd Γ (.own (.slice (some a) len len) E sz (List.replicate len zs)::S) w'→K (.slice (some a) len len) w'):Step P ⟨d,.makeSlice T x y,ty,pos,es,g⟩ ρ w K:=by
 obtain⟨q,z,hq,hz,hzc⟩:=X4 hT.z
 obtain⟨q',hq',hs,hb'⟩:=X6 hT.s
 rw[hq]at hq';cases hq'
 have hrun:=run_make (P:=P) w T E q z hT.h hq hz .i64 .i64 (len:Int) (len:Int) (by omega) (Int.le_refl _) (by rw[hb'];exact hb) h63
 rw[hzc,hs]at hrun;have hr0:(execOp (ev ρ) ⟨d,.makeSlice T x y,ty,pos,es,g⟩).run P w=.ok (.value (.slice (some ⟨w.heap.size,0,none⟩) len len)) (w.alloc (.cells (madeCells zs.toArray (len*sz)) E)):=by
  simp only[execOp,hx,hy,Sem.run_bind,hrun,Result.andThen_ok,Int.toNat_natCast]
  rfl
 have hrows:=Us hT.n.1 hT.n.2 len
 have hfin:=hk ⟨w.heap.size,0,none⟩ (w.alloc (.cells (madeCells zs.toArray (len*sz)) E)) (hw.add (bs:=[w.heap.size]) ⟨rfl,rfl,rfl,(by first|exact Nat.le_refl _|exact Nat.le_succ _),by simp⟩ (by
  unfold B2.own;refine⟨fun r hr=>by rw[List.eq_of_mem_replicate hr];exact hT.n.1,_,_,_,rfl,(by simp),Nat.le_refl _,by simp[maxLen];omega,.inr ⟨w.heap.size,madeCells zs.toArray (len*sz),rfl,rfl,heap_alloc_new w _,size_madeCells _ _,?_⟩⟩
  rw[hrows,List.take_of_length_le];rw[←hrows,Array.length_toList,size_madeCells];exact Nat.le_refl _) (by simp) (by simp) fun k hk=>heap_alloc_old w _ hk)
 unfold Step;rw[hr0];exact hfin
theorem GG{E by' len sz:Nat}{zs:List Value}[hT:TL P T E sz by' zs](h:∀a w',Wd Γ (.own (.slice (some a) len len) E sz (List.replicate len zs)::S) w'→L P n opa QQ rest (D2 ρ d (.slice (some a) len len)) w')
  (hw:Wd Γ S w:=by exact hw) (hx:ev ρ x=.int .i64 (len:Nat):=by exact rfl) (hy:ev ρ y=.int .i64 (len:Nat):=by exact rfl) (hb:(by':Int)*len≤281474976710656:=by omega) (h63:(len:Int)≤9223372036854775807:=by omega) (hd:G8 n d=true:=by exact rfl) :
  L P n opa QQ (⟨d,.makeSlice T x y,ty,pos,es,none⟩::rest) ρ w:=F0 rfl hd (Qd hw hx hy hb h63 h)
end
end Mk
end
