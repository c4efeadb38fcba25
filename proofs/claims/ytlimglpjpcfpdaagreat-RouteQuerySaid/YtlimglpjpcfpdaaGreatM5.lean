/- Texts of this proof, one behind another. -/
import Derived.Test.YtlimglpjpcfpdaaGreatM4
import Derived.Test.YtlimglpjpcfpdaaGreatM2
import Derived.Shelf.SlLaysF
set_option linter.unusedVariables false
set_option linter.unusedSimpArgs false
section
open Go Mk
namespace Go.Proofs.YtlimglpjpcfpdaaGreat
set_option maxHeartbeats 16000000
attribute [local irreducible] Calls cI cB
theorem PL{Γ:C8}{S:List B2}{w:World}{q:Nat}[C7 Tryz.prog q]{cap:List Value}{v:Value}(p:D1→Bool)(fs:List D1)(hcl:∀x∈fs,∀w,Wd Γ S w→Calls Tryz.prog q (.agg (cF x).toArray::cap).toArray w fun e w'=>e=.returned (.bool (p x))∧Wd Γ S w')(hr:D9 Γ v 2 (fs.map cF))(hw:Wd Γ S w) :
  Calls Tryz.prog 228 #[v,.func (.func q) #[] cap.toArray] w fun e w'=>∃i:Int,e=.returned (.int .i64 i)∧decide (0≤i)=fs.any p∧Wd Γ S w':=by
 obtain⟨a,n,c,rfl,hn,hnc,hc⟩:=hr.shape;simp only[List.length_map]at hn
 refine A9 Tryz.func228 rfl rfl ?_
 refine A6 ?_;refine B5 (fun μ ρ w=>∃(k:Nat),μ+k=n∧Has ρ [(0,.slice a n c),(1,.func (.func q) #[] cap.toArray),(7,.int .i64 n),(8,.int .i64 k)]∧(∀j x,j<k→fs[j]? = some x→p x=false)∧Wd Γ S w) n ⟨0,by omega,⟨rfl,rfl,rfl,rfl,trivial⟩,fun j x hj=>by omega,hw⟩ ?_
 clear hw;rintro μ ρ w ⟨k,hk,hρ,hno,hw⟩
 rw[hρ.eq];refine A6 ?_;refine A7 rfl (fun h=>?_) (fun h=>?_)
 ·have hkn:k<n:=by have:=of_decide_eq_true h;omega
  obtain⟨x,hx⟩:=B4 (l:=fs) (k:=k) (by omega)
  refine A6 ?_;refine Cp (fst:=[]) (cap:=cap) (vs:=[.agg (cF x).toArray]) ?_
  refine(hcl x (List.mem_of_getElem? hx) w hw).mono ?_
  clear hw;rintro e w ⟨rfl,hw⟩
  refine⟨_,rfl,?_⟩;refine A6 ?_;refine A7 rfl (fun h2=>?_) (fun h2=>?_)
  ·refine A6 ?_;refine⟨_,rfl,_,rfl,?_,hw⟩
   rw[decide_eq_true (by omega:(0:Int)≤(k:Int)),List.any_eq_true.2 ⟨x,List.mem_of_getElem? hx,h2⟩]
  ·refine A6 ?_;refine⟨μ-1,by omega,k+1,by omega,⟨rfl,rfl,rfl,rfl,trivial⟩,fun j y hj hy=>?_,hw⟩
   by_cases e:j=k
   ·subst e;rw[hx]at hy;cases hy;exact h2
   ·exact hno j y (by omega) hy
 ·have hkn:¬k<n:=by have:=of_decide_eq_false h;omega
  refine A6 ?_;refine⟨_,rfl,-1,rfl,?_,hw⟩
  rw[decide_eq_false (by omega),eq_comm,List.any_eq_false]
  intro x hx;obtain⟨j,hj⟩:=List.mem_iff_getElem?.1 hx
  have hlt:=(List.getElem?_eq_some_iff.1 hj).1
  rw[hno j x (by omega) hj];simp
theorem Jq{Γ:C8}{S:List B2}{w:World}{q:Nat}[C7 Tryz.prog q]{cap:List Value}{v:Value}(p:D1→Bool)(fs:List D1)(hcl:∀x∈fs,∀w,Wd Γ S w→Calls Tryz.prog q (.agg (cF x).toArray::cap).toArray w fun e w'=>e=.returned (.bool (p x))∧Wd Γ S w')(hr:D9 Γ v 2 (fs.map cF))(hw:Wd Γ S w) :
  Calls Tryz.prog 160 #[v,.func (.func q) #[] cap.toArray] w fun e w'=>e=.returned (.bool (fs.any p))∧Wd Γ S w':=by
 obtain⟨a,n,c,rfl,-,-,-⟩:=hr.shape;refine A9 Tryz.func160 rfl rfl ?_
 refine A6 ?_;refine D3 (vs:=[.slice a n c,.func (.func q) #[] cap.toArray]) ((PL p fs hcl hr hw).mono fun e w hq=>?_)
 obtain⟨i,rfl,hi,hw⟩:=hq;refine⟨_,rfl,?_⟩;refine A6 ?_;exact⟨_,rfl,F6 rfl hi,hw⟩
structure ak(Γ:C8)(vs vg vt:Value)(gs:List N6)(ts:List (Value×List D1))(db:List F9)(q:G4):Prop where
 qr:QR Γ vs vg gs q
 qok:Z7 q
 tab:D9 Γ vt 1 (ts.map fun t=>[t.1])
 len:ts.length=gs.length
 rl:∀t∈ts,RL Γ t.1 t.2
 eq:∀(k:Nat) x t,gs[k]? = some x→ts[k]? = some t→facts t.2=R7 db x.g
 ar:∀x∈gs,J0 x.g=true→∀f∈R7 db x.g,x.g.Args.length=f.2.length
theorem JJ{db:List F9}{g:H3}:∀f∈R7 db g,g.Args.length=f.2.length:=by
 intro f hf;unfold R7 at hf;split at hf
 ·unfold Qt FW at hf;have:=(List.mem_filter.1 hf).2
  simp only[Bool.and_eq_true,decide_eq_true_eq]at this
  omega
 ·cases hf
theorem Wv{α:Type}{A:List α}{z x:α}{k m:Nat}(h:A.length=k)(hm:0<m):(A++List.replicate m z).set k x=(A++[x])++List.replicate (m-1) z:=by
 obtain⟨m,rfl⟩:∃n,m=n+1:=⟨m-1,by omega⟩
 rw[List.set_append_right _ _ (by omega),h,Nat.sub_self,List.replicate_succ,List.set_cons_zero,List.append_assoc];rfl
section
variable {Γ:C8}{vs vg vt:Value}{gs:List N6}{ts:List (Value×List D1)}{db:List F9}{q:G4}
theorem ak.glen(h:ak Γ vs vg vt gs ts db q):gs.length≤1000:=by
 have:=h.qok.len
 rw[←h.qr.eq,List.length_map]at this;exact this
theorem ak.goal(h:ak Γ vs vg vt gs ts db q){x:N6}(hx:x∈gs):GB x.g:=
 h.qok.goals _ (by rw[←h.qr.eq];exact List.mem_map_of_mem (f:=(·.g)) hx)
theorem X3{α:Type}{p:α→Bool}{l:List α}{k:Nat}{x:α}(h:l[k]? = some x):(l.drop k).all p=(p x&&(l.drop (k+1)).all p):=by
 rw[R9 h,List.all_cons]
theorem KS(h:ak Γ vs vg vt gs ts db q){k:Nat}{x:N6}(hx:gs[k]? = some x):(L2 db q)[k]? = some (x.g,R7 db x.g):=by
 unfold L2;rw[←h.qr.eq,List.getElem?_map,List.getElem?_map,hx];rfl
theorem Kf(h:ak Γ vs vg vt gs ts db q):(L2 db q).length=gs.length:=by
 unfold L2;rw[←h.qr.eq,List.length_map,List.length_map]
theorem Uz{e:Env}{os:List P1}{fs:List D1}{tb:List F9}(h:facts fs=tb):(fs.any fun f=>P4 e os f.Args)=tb.any fun f=>P4 e os f.2:=by
 rw[←h];unfold facts;rw[List.any_map];rfl
end
theorem aY{Γ:C8}{S:List B2}{w:World}{b b1 b3 bm:Nat}{vs vg vt vr:Value}{e:Env}{g:H3}{A:Option Addr}{N C:Nat}(hg:WL Γ ⟨g,A,N,C⟩)(hgo:GB g){f:D1}(hf:BS Γ f)(hfo:Dc f.fact)(hlen:g.Args.length=f.Args.length)(hn:F1 e F4=none)(hw:Wd Γ (.blk b3 (.cells (cG ⟨g,A,N,C⟩).toArray 127)::.blk b1 (.cells #[.pointer (some ⟨b,0,none⟩)] 117)::.blk b (G2 vs vg vt vr bm)::E4 bm e::S) w) :
  Calls Tryz.prog 161 #[.agg (cF f).toArray,.pointer (some ⟨b1,0,none⟩),.pointer (some ⟨b3,0,none⟩)] w fun r w'=>r=.returned (.bool (P4 e g.Args f.Args))∧Wd Γ (.blk b3 (.cells (cG ⟨g,A,N,C⟩).toArray 127)::.blk b1 (.cells #[.pointer (some ⟨b,0,none⟩)] 117)::.blk b (G2 vs vg vt vr bm)::E4 bm e::S) w':=by
 have hF:=fun (S':List B2) (w:World) (hw:Wd Γ (.blk b (G2 vs vg vt vr bm)::E4 bm e::S') w)=>OM (va:=.slice A N C) (os:=g.Args) (f:=f) hg hgo.args hf hfo hlen hn hgo.len hw
 obtain⟨fr,fa,fn,fc,xs⟩:=f;refine A9 Tryz.func161 rfl rfl ?_
 refine A6 ?_;refine H9 ?_;intro b4 w hw;have hw:Wd Γ (.blk b4 (.cells #[.string fr,.slice fa fn fc] 135)::.blk b3 (.cells (cG ⟨g,A,N,C⟩).toArray 127)::.blk b1 (.cells #[.pointer (some ⟨b,0,none⟩)] 117)::.blk b (G2 vs vg vt vr bm)::E4 bm e::S) w:=hw
 refine A6 ?_;have W1:Wd Γ (.blk b (G2 vs vg vt vr bm)::E4 bm e::(.blk b4 (.cells #[.string fr,.slice fa fn fc] 135)::.blk b3 (.cells (cG ⟨g,A,N,C⟩).toArray 127)::.blk b1 (.cells #[.pointer (some ⟨b,0,none⟩)] 117)::S)) w:=hw.perm K1
 refine D3 (vs:=[.pointer (some ⟨b,0,none⟩),.slice A N C,.agg (cF ⟨fr,fa,fn,fc,xs⟩).toArray]) ((hF _ w W1).mono fun r w hq=>?_)
 clear hw W1;obtain⟨rfl,hw⟩:=hq;have hw:Wd Γ (.blk b4 (.cells #[.string fr,.slice fa fn fc] 135)::.blk b3 (.cells (cG ⟨g,A,N,C⟩).toArray 127)::.blk b1 (.cells #[.pointer (some ⟨b,0,none⟩)] 117)::.blk b (G2 vs vg vt vr bm)::E4 bm e::S) w:=hw.perm K1
 refine⟨_,rfl,?_⟩;refine A6 ?_;exact⟨_,rfl,rfl,hw.drop⟩
theorem RB{Γ:C8}{S:List B2}{w:World}{b bm:Nat}{vs vg vt:Value}{gs:List N6}{ts:List (Value×List D1)}{db:List F9}{q:G4}{rs:List (List Val)}{e:Env}(hS:ak Γ vs vg vt gs ts db q)(he:y0 e)(hrs:rs.length+(EL (L2 db q) q.Sel e).length≤1000000)
  (hw:Wd Γ (SV b bm vs vg vt rs::E4 bm e::S) w) :
  Calls Tryz.prog 108 #[.pointer (some ⟨b,0,none⟩)] w fun r w'=>r=.returned (.tuple #[])∧Wd Γ (SV b bm vs vg vt (rs++EL (L2 db q) q.Sel e)::E4 bm e::S) w':=by
 obtain⟨ga,gn,gc,rfl,hgn,hgnc,hgc⟩:=hS.qr.goals.shape;obtain⟨sa,sn,sc,rfl,hsn,hsnc,hsc⟩:=hS.qr.sel.shape;obtain⟨ta,tn,tc,rfl,htn,htnc,htc⟩:=hS.tab.shape;simp only[List.length_map]at hgn hsn htn
 have hrG:=hS.qr.goals
 have hrS:=hS.qr.sel
 have hrT:=hS.tab
 have hgl:=hS.glen
 have htl:=hS.len
 have hsl:=hS.qok.sel
 obtain⟨vr,L,hL,hw⟩:=DL hw
 refine A9 Tryz.func108 rfl rfl ?_
 refine A6 ?_;refine H9 ?_;intro b1 w hw;have hw:Wd Γ (.blk b1 (.cells #[.pointer (some ⟨b,0,none⟩)] 117)::.blk b (G2 (.slice sa sn sc) (.slice ga gn gc) (.slice ta tn tc) vr bm)::(H6 vr L++(E4 bm e::S))) w:=hw
 have hw:Wd Γ (.blk b1 (.cells #[.pointer (some ⟨b,0,none⟩)] 117)::.blk b (G2 (.slice sa sn sc) (.slice ga gn gc) (.slice ta tn tc) vr bm)::E4 bm e::(H6 vr L++S)) w:=hw.perm K1
 refine A6 ?_;refine B5 (fun μ ρ w=>∃(k:Nat),μ+k=gn∧Has ρ [(1,.pointer (some ⟨b1,0,none⟩)),(11,.slice ga gn gc),(12,.int .i64 gn),(13,.int .i64 k)]∧(L2 db q).all (j9 e)=((L2 db q).drop k).all (j9 e)∧Wd Γ (.blk b1 (.cells #[.pointer (some ⟨b,0,none⟩)] 117)::.blk b (G2 (.slice sa sn sc) (.slice ga gn gc) (.slice ta tn tc) vr bm)::E4 bm e::(H6 vr L++S)) w) gn ⟨0,by omega,⟨rfl,rfl,rfl,rfl,trivial⟩,rfl,hw⟩ ?_
 clear hw;rintro μ ρ w ⟨k,hk,hρ,hall,hw⟩
 rw[hρ.eq];clear hρ;have stop:∀w,(L2 db q).all (j9 e)=false→Wd Γ (.blk b1 (.cells #[.pointer (some ⟨b,0,none⟩)] 117)::.blk b (G2 (.slice sa sn sc) (.slice ga gn gc) (.slice ta tn tc) vr bm)::E4 bm e::(H6 vr L++S)) w→Wd Γ (SV b bm (.slice sa sn sc) (.slice ga gn gc) (.slice ta tn tc) (rs++EL (L2 db q) q.Sel e)::E4 bm e::S) w:=by
  intro w h0 hw;unfold EL;rw[h0];simp only[Bool.false_eq_true,if_false,List.append_nil]
  refine Z2 (vr:=vr) hL ?_
  have hw:Wd Γ (.blk b (G2 (.slice sa sn sc) (.slice ga gn gc) (.slice ta tn tc) vr bm)::E4 bm e::(H6 vr L++S)) w:=hw.drop
  exact hw.perm K1
 refine A6 ?_;refine A7 rfl (fun h=>?_) (fun h=>?_)
 ·have hkn:k<gn:=by have:=of_decide_eq_true h;omega
  clear h;obtain⟨x,hx⟩:=B4 (l:=gs) (k:=k) (by omega)
  obtain⟨t,ht⟩:=B4 (l:=ts) (k:=k) (by omega)
  have hxm:=List.mem_of_getElem? hx
  have htm:=List.mem_of_getElem? ht
  have hgok:=hS.qr.ok x hxm
  have hgoal:=hS.goal hxm
  have hRL:=hS.rl t htm
  have heq:=hS.eq k x t hx ht
  have har:=JJ (db:=db) (g:=x.g)
  rw[X3 (KS hS hx)]at hall;obtain⟨g,A,N,C⟩:=x;simp only at hgoal heq har
  refine A6 ?_;refine C0 ?_;intro b3 w hw;refine A6 ?_;refine B1 ?_;intro w hw;have hw:Wd Γ (.blk b3 (.cells (cG ⟨g,A,N,C⟩).toArray 127)::.blk b1 (.cells #[.pointer (some ⟨b,0,none⟩)] 117)::.blk b (G2 (.slice sa sn sc) (.slice ga gn gc) (.slice ta tn tc) vr bm)::E4 bm e::(H6 vr L++S)) w:=hw
  refine A6 ?_;refine A7 rfl (fun h=>?_) (fun h=>?_)
  ·have hk3:g.Kind=3:=of_decide_eq_true h
   have hdone:j9 e (g,R7 db g)=Dz g (Ix e g.L) (Ix e g.R):=by
    unfold j9;rw[if_pos hk3]
   have hvl:o6 (Ix e g.L):=by
    unfold Ix;split
    ·exact he.get _
    ·exact hgoal.l.2
   have hvr:o6 (Ix e g.R):=by
    unfold Ix;split
    ·exact he.get _
    ·exact hgoal.r.2
   have p1:∀o:P1,PS Tryz.prog Γ (.blk b3 (.cells (cG ⟨g,A,N,C⟩).toArray 127)::.blk b1 (.cells #[.pointer (some ⟨b,0,none⟩)] 117)::.blk b (G2 (.slice sa sn sc) (.slice ga gn gc) (.slice ta tn tc) vr bm)::E4 bm e::(H6 vr L++S)) 159 [.pointer (some ⟨b,0,none⟩),.agg (enc o).toArray] (.agg (enc (Ix e o)).toArray):=fun o=>⟨fun Y w hw=>by
    have W1:Wd Γ (.blk b (G2 (.slice sa sn sc) (.slice ga gn gc) (.slice ta tn tc) vr bm)::E4 bm e::(.blk b3 (.cells (cG ⟨g,A,N,C⟩).toArray 127)::.blk b1 (.cells #[.pointer (some ⟨b,0,none⟩)] 117)::(H6 vr L++(S++Y)))) w:=hw.perm K1
    exact(Vw (o:=o) W1).mono fun r w' ⟨h1,h2⟩=>⟨h1,h2.perm K1⟩⟩
   have p1l:=p1 g.L
   have p1r:=p1 g.R
   have p2:=Yx (Γ:=Γ) (x:=⟨g,A,N,C⟩) hgoal.off hvl hvr
   refine A6 ?_;refine I5 (by kernel_rfl) (by kernel_rfl) hw ?_
   repeat(first|(first|refine Bq ?_|(apply S6;first|(apply Z1;first|refine qP ?_|refine Ut ?_)|refine qY ?_)|(apply L1;first|(apply Z1;first|refine Vo ?_|refine Hr ?_)|refine qG ?_))|(apply S6;apply Z1;refine gU ?_)|(apply L1;apply Z1;refine ec ?_))
   refine gU (hp:=p1l) ?_
   repeat(first|(first|refine Bq ?_|(apply S6;first|(apply Z1;first|refine qP ?_|refine Ut ?_)|refine qY ?_)|(apply L1;first|(apply Z1;first|refine Vo ?_|refine Hr ?_)|refine qG ?_))|(apply S6;apply Z1;refine gU ?_)|(apply L1;apply Z1;refine ec ?_))
   refine gU (hp:=p1r) ?_
   repeat(first|(first|refine Bq ?_|(apply S6;first|(apply Z1;first|refine qP ?_|refine Ut ?_)|refine qY ?_)|(apply L1;first|(apply Z1;first|refine Vo ?_|refine Hr ?_)|refine qG ?_))|(apply S6;apply Z1;refine gU ?_)|(apply L1;apply Z1;refine ec ?_))
   clear hw;intro w hw;have hw:Wd Γ (.blk b3 (.cells (cG ⟨g,A,N,C⟩).toArray 127)::.blk b1 (.cells #[.pointer (some ⟨b,0,none⟩)] 117)::.blk b (G2 (.slice sa sn sc) (.slice ga gn gc) (.slice ta tn tc) vr bm)::E4 bm e::(H6 vr L++S)) w:=hw
   refine A7 rfl (fun h=>?_) (fun h=>?_)
   ·refine A6 ?_;refine⟨_,rfl,rfl,stop w ?_ hw.drop⟩
    have h0:j9 e (g,R7 db g)=false:=by rw[hdone];simpa using h
    rw[hall,h0,Bool.false_and]
   ·have h0:j9 e (g,R7 db g)=true:=by rw[hdone];simpa using h
    rw[h0,Bool.true_and]at hall;refine A6 ?_;exact⟨μ-1,by omega,k+1,by omega,⟨rfl,rfl,rfl,rfl,trivial⟩,hall,hw.drop⟩
  have hk3:¬g.Kind=3:=of_decide_eq_false h
  clear h;refine A6 ?_;refine A7 rfl (fun h=>?_) (fun h=>?_)
  ·have hk2:g.Kind=2:=of_decide_eq_true h
   have hdone:j9 e (g,R7 db g) = !((R7 db g).any fun f=>P4 e g.Args f.2):=by
    unfold j9;rw[if_neg hk3,if_pos hk2]
   obtain⟨tv,fs⟩:=t;obtain⟨fa,fc,htv,hfc1,hfc2⟩:=hRL.len;simp only at heq htv hfc1 hfc2
   subst htv;have hcl:∀f∈fs,∀w,Wd Γ (.blk b3 (.cells (cG ⟨g,A,N,C⟩).toArray 127)::.blk b1 (.cells #[.pointer (some ⟨b,0,none⟩)] 117)::.blk b (G2 (.slice sa sn sc) (.slice ga gn gc) (.slice ta tn tc) vr bm)::E4 bm e::(H6 vr L++S)) w→Calls Tryz.prog 161 (.agg (cF f).toArray::[.pointer (some ⟨b1,0,none⟩),.pointer (some ⟨b3,0,none⟩)]).toArray w fun r w'=>r=.returned (.bool (P4 e g.Args f.Args))∧Wd Γ (.blk b3 (.cells (cG ⟨g,A,N,C⟩).toArray 127)::.blk b1 (.cells #[.pointer (some ⟨b,0,none⟩)] 117)::.blk b (G2 (.slice sa sn sc) (.slice ga gn gc) (.slice ta tn tc) vr bm)::E4 bm e::(H6 vr L++S)) w':=fun f hf w hw=>by
    obtain⟨h1,h2⟩:=hRL.ok f hf
    refine aY hgok hgoal h1 h2 ?_ he.noKey hw
    have hm:f.fact∈R7 db g:=by rw[←heq];exact List.mem_map_of_mem (f:=D1.fact) hf
    exact JJ _ hm
   refine A6 ?_;refine D3 (vs:=[.slice fa fs.length fc,.func (.func 161) #[] #[.pointer (some ⟨b1,0,none⟩),.pointer (some ⟨b3,0,none⟩)]]) ((Jq (fun f=>P4 e g.Args f.Args) fs hcl hRL.rep hw).mono fun r w hq=>?_)
   clear hw;obtain⟨rfl,hw⟩:=hq;refine⟨_,rfl,?_⟩;rw[Uz heq];refine A6 ?_;refine A7 rfl (fun h=>?_) (fun h=>?_)
   ·refine A6 ?_;refine⟨_,rfl,rfl,stop w ?_ hw.drop⟩
    have h0:j9 e (g,R7 db g)=false:=by rw[hdone,h];rfl
    rw[hall,h0,Bool.false_and]
   ·have h0:j9 e (g,R7 db g)=true:=by rw[hdone,h];rfl
    rw[h0,Bool.true_and]at hall;refine A6 ?_;exact⟨μ-1,by omega,k+1,by omega,⟨rfl,rfl,rfl,rfl,trivial⟩,hall,hw.drop⟩
  have hk2:¬g.Kind=2:=of_decide_eq_false h
  have h0:j9 e (g,R7 db g)=true:=by
   unfold j9;rw[if_neg hk3,if_neg hk2]
  rw[h0,Bool.true_and]at hall;refine A6 ?_;exact⟨μ-1,by omega,k+1,by omega,⟨rfl,rfl,rfl,rfl,trivial⟩,hall,hw.drop⟩
 have hkn:gn≤k:=by have:=of_decide_eq_false h;omega
 rw[G9 _ (by rw[Kf hS];omega)]at hall
 have hall:(L2 db q).all (j9 e)=true:=hall
 have hfin:EL (L2 db q) q.Sel e=[Gl q.Sel e]:=by
  unfold EL;rw[if_pos hall]
 rw[hfin]at hrs ⊢
 clear stop h;simp only[List.length_singleton]at hrs
 refine A6 ?_;refine GG (len:=sn) ?_
 intro q4 w hw;have hw:Wd Γ (.own (.slice (some q4) sn sn) 54 3 ((q.Sel.take 0).map (fun s=>enc (CY e s))++List.replicate (sn-0) (enc O4))::.blk b1 (.cells #[.pointer (some ⟨b,0,none⟩)] 117)::.blk b (G2 (.slice sa sn sc) (.slice ga gn gc) (.slice ta tn tc) vr bm)::E4 bm e::(H6 vr L++S)) w:=hw
 refine A6 ?_;refine B5 (fun μ ρ w=>∃(k:Nat),μ+k=sn∧Has ρ [(1,.pointer (some ⟨b1,0,none⟩)),(4,.slice (some q4) sn sn),(56,.slice sa sn sc),(57,.int .i64 sn),(58,.int .i64 k)]∧Wd Γ (.own (.slice (some q4) sn sn) 54 3 ((q.Sel.take k).map (fun s=>enc (CY e s))++List.replicate (sn-k) (enc O4))::.blk b1 (.cells #[.pointer (some ⟨b,0,none⟩)] 117)::.blk b (G2 (.slice sa sn sc) (.slice ga gn gc) (.slice ta tn tc) vr bm)::E4 bm e::(H6 vr L++S)) w) sn ⟨0,by omega,⟨rfl,rfl,rfl,rfl,rfl,trivial⟩,hw⟩ ?_
 clear hw;rintro μ ρ w ⟨k,hk,hρ,hw⟩
 rw[hρ.eq];clear hρ;refine A6 ?_;refine A7 rfl (fun h=>?_) (fun h=>?_)
 ·have hkn:k<sn:=by have:=of_decide_eq_true h;omega
  clear h;obtain⟨s,hs⟩:=B4 (l:=q.Sel) (k:=k) (by omega)
  refine A6 ?_;refine Cq (k:=k) (r:=enc (CY e s)) ?_
  intro w hw;have hset:((q.Sel.take k).map (fun s=>enc (CY e s))++List.replicate (sn-k) (enc O4)).set k (enc (CY e s))=(q.Sel.take (k+1)).map (fun s=>enc (CY e s))++List.replicate (sn-(k+1)) (enc O4):=by
   rw[Wv (by rw[List.length_map,List.length_take];omega) (by omega),List.take_add_one,hs,List.map_append];rfl
  rw[hset]at hw;have hw:Wd Γ (.own (.slice (some q4) sn sn) 54 3 ((q.Sel.take (k+1)).map (fun s=>enc (CY e s))++List.replicate (sn-(k+1)) (enc O4))::.blk b1 (.cells #[.pointer (some ⟨b,0,none⟩)] 117)::.blk b (G2 (.slice sa sn sc) (.slice ga gn gc) (.slice ta tn tc) vr bm)::E4 bm e::(H6 vr L++S)) w:=hw
  refine A6 ?_;exact⟨μ-1,by omega,k+1,by omega,⟨rfl,rfl,rfl,rfl,rfl,trivial⟩,hw⟩
 have hkn:sn≤k:=by have:=of_decide_eq_false h;omega
 have hkk:sn=k:=by omega
 subst hkk;have hrow:(q.Sel.take sn).map (fun s=>enc (CY e s))++List.replicate (sn-sn) (enc O4)=(Gl q.Sel e).map enc:=by
  rw[List.take_of_length_le (by omega),Nat.sub_self,List.replicate_zero,List.append_nil]
  unfold Gl;rw[List.map_map];rfl
 rw[hrow]at hw;have hw:Wd Γ (.own vr 52 1 (L.map fun x=>[x.1])::.blk b1 (.cells #[.pointer (some ⟨b,0,none⟩)] 117)::.blk b (G2 (.slice sa sn sc) (.slice ga gn gc) (.slice ta tn tc) vr bm)::E4 bm e::.own (.slice (some q4) sn sn) 54 3 ((Gl q.Sel e).map enc)::(YW 54 3 L++S)) w:=by
  have h1:Wd Γ (.own (.slice (some q4) sn sn) 54 3 ((Gl q.Sel e).map enc)::.blk b1 (.cells #[.pointer (some ⟨b,0,none⟩)] 117)::.blk b (G2 (.slice sa sn sc) (.slice ga gn gc) (.slice ta tn tc) vr bm)::E4 bm e::(.own vr 52 1 (L.map fun x=>[x.1])::YW 54 3 L++S)) w:=hw
  exact h1.perm K1
 obtain⟨va,vn,vc,rfl,hvn,hvnc,hvc⟩:=hw.own_shape (i:=0) rfl
 have hLl:L.length=rs.length:=by
  have:=congrArg List.length hL
  simpa using this
 simp only[List.length_map]at hvn
 refine A6 ?_;refine Eh [.blk b1 (.cells #[.pointer (some ⟨b,0,none⟩)] 117)] (.own (.slice va vn vc) 52 1 (L.map fun x=>[x.1])::.blk b (G2 (.slice sa sn sc) (.slice ga gn gc) (.slice ta tn tc) (.slice va vn vc) bm)::E4 bm e::.own (.slice (some q4) sn sn) 54 3 ((Gl q.Sel e).map enc)::(YW 54 3 L++S)) [[],[],[],[],[],[],[1],[0],[],[],[0]] [[],[],[],[],[0],[],[1],[0,1],[],[],[0]] [[80],[79]] (hw.perm K1) ?_
 repeat(first|refine mY ?_|refine mP ?_|refine U0 ?_|refine s8 ?_|refine S5 ?_)
 refine g8 (cells:=[.slice (some q4) sn sn]) [[.slice (some q4) sn sn]] ?_
 refine HF ?_
 repeat(first|refine mY ?_|refine mP ?_|refine U0 ?_|refine s8 ?_|refine S5 ?_)
 refine AU (b:=b) (j:=1) (j2:=0) ?_
 refine S5 fun w g hw=>?_
 have hw:=Wd.dropEnd hw
 have hw:Wd Γ (.blk b1 (.cells #[.pointer (some ⟨b,0,none⟩)] 117)::.own (g 80) 52 1 (L.map (fun x=>[x.1])++[[.slice (some q4) sn sn]])::.blk b (G2 (.slice sa sn sc) (.slice ga gn gc) (.slice ta tn tc) (g 80) bm)::E4 bm e::.own (.slice (some q4) sn sn) 54 3 ((Gl q.Sel e).map enc)::(YW 54 3 L++S)) w:=hw
 refine⟨_,rfl,rfl,Z2 (vr:=g 80) (L:=L++[(.slice (some q4) sn sn,(Gl q.Sel e).map enc)]) ?_ ?_⟩
 ·rw[List.map_append,hL,List.map_append];rfl
 have hl:(L++[(Value.slice (some q4) sn sn,(Gl q.Sel e).map enc)]).map (fun x=>[x.1])=L.map (fun x=>[x.1])++[[.slice (some q4) sn sn]]:=by rw[List.map_append];rfl
 have hi:YW 54 3 (L++[(Value.slice (some q4) sn sn,(Gl q.Sel e).map enc)])=YW 54 3 L++[.own (.slice (some q4) sn sn) 54 3 ((Gl q.Sel e).map enc)]:=by unfold YW;rw[List.map_append];rfl
 unfold H6;rw[hl,hi];have h1:Wd Γ (.own (g 80) 52 1 (L.map (fun x=>[x.1])++[[.slice (some q4) sn sn]])::.blk b (G2 (.slice sa sn sc) (.slice ga gn gc) (.slice ta tn tc) (g 80) bm)::E4 bm e::.own (.slice (some q4) sn sn) 54 3 ((Gl q.Sel e).map enc)::(YW 54 3 L++S)) w:=hw.drop
 exact h1.perm K1
end Go.Proofs.YtlimglpjpcfpdaaGreat
end
section
open Go Mk
namespace Go.Proofs.YtlimglpjpcfpdaaGreat
set_option maxHeartbeats 16000000
attribute [local irreducible] Calls cI cB
theorem aS{Γ:C8}{S:List B2}{w:World}{b bm:Nat}{vs vg vt:Value}{rs:List (List Val)}{e:Env}{va:Value}{os:List P1}{f:D1}(hargs:D9 Γ va 4 (os.map enc))(hos:∀o∈os,GU o)(hf:BS Γ f)(hfo:Dc f.fact)(hlen:os.length=f.Args.length)(hn:F1 e F4=none)(hN:os.length≤1000)(hw:Wd Γ (SV b bm vs vg vt rs::E4 bm e::S) w) :
  Calls Tryz.prog 109 #[.pointer (some ⟨b,0,none⟩),va,.agg (cF f).toArray] w fun r w'=>r=.returned (.bool (P4 e os f.Args))∧Wd Γ (SV b bm vs vg vt rs::E4 bm e::S) w':=by
 obtain⟨vr,L,hL,hw⟩:=DL hw
 have W1:Wd Γ (.blk b (G2 vs vg vt vr bm)::E4 bm e::(H6 vr L++S)) w:=hw.perm K1
 refine(OM hargs hos hf hfo hlen hn hN W1).mono fun r w' ⟨h1,h2⟩=>⟨h1,Z2 (vr:=vr) hL ?_⟩
 exact h2.perm K1
section
variable {α β:Type}{F:α→List β}{l:List α}{j:Nat}{x:α}
theorem HM(h:l[j]? = some x):(l.take (j+1)).flatMap F=(l.take j).flatMap F++F x:=by
 rw[List.take_add_one,h,List.flatMap_append];simp
theorem dO(h:l[j]? = some x):((l.take j).flatMap F).length+(F x).length≤(l.flatMap F).length:=by
 have e:l.flatMap F=((l.take j).flatMap F++F x)++(l.drop (j+1)).flatMap F:=by
  rw[←HM h,←List.flatMap_append,List.take_append_drop]
 rw[e,List.length_append,List.length_append];omega
end
theorem NC{H L:Int}(h1:GJ H)(h2:GJ L)(h:L≤H):IntKind.u64.wrap (IntKind.u64.wrap H-IntKind.u64.wrap L)=H-L:=by
 unfold GJ at *
 simp only[IntKind.wrap,IntKind.bits,IntKind.signed]
 simp
 omega
theorem Ca{a:Int}(h1:0≤a)(h2:a≤18446744073709551615):IntKind.u64.wrap a=a:=by
 simp only[IntKind.wrap,IntKind.bits,IntKind.signed]
 simp
 omega
def eo(Γ:C8)(b bm:Nat)(vs vg vt:Value)(φ:Env→List (List Val))(k:Nat):Prop:=
 ∀(S:List B2) (e:Env) (rs:List (List Val)) (w:World),y0 e→rs.length+(φ e).length≤1000000→Wd Γ (SV b bm vs vg vt rs::E4 bm e::S) w →
  Calls Tryz.prog 50 #[.pointer (some ⟨b,0,none⟩),.int .i64 k] w fun r w'=>r=.returned (.tuple #[])∧Wd Γ (SV b bm vs vg vt (rs++φ e)::E4 bm e::S) w'
section
variable {Γ:C8}{b bm b2 b3 k:Nat}{vs vg vt:Value}{φ:Env→List (List Val)}
theorem Rv(hk:k≤1000)(ih:eo Γ b bm vs vg vt φ (k+1))(e:Env)(rs:List (List Val))(S:List B2)(w:World)(he:y0 e)(hrs:rs.length+(φ e).length≤1000000)(hw:Wd Γ (SV b bm vs vg vt rs::E4 bm e::([.blk b2 (.cells #[.pointer (some ⟨b,0,none⟩)] 117),.blk b3 (.cells #[.int .i64 k] 3)]++S)) w) :
  Calls Tryz.prog 111 [.pointer (some ⟨b2,0,none⟩),.pointer (some ⟨b3,0,none⟩)].toArray w fun r w'=>r=.returned (.tuple #[])∧Wd Γ (SV b bm vs vg vt (rs++φ e)::E4 bm e::([.blk b2 (.cells #[.pointer (some ⟨b,0,none⟩)] 117),.blk b3 (.cells #[.int .i64 k] 3)]++S)) w':=by
 have hw:Wd Γ (SV b bm vs vg vt rs::E4 bm e::.blk b2 (.cells #[.pointer (some ⟨b,0,none⟩)] 117)::.blk b3 (.cells #[.int .i64 k] 3)::S) w:=hw
 refine A9 Tryz.func111 rfl rfl ?_
 refine A6 ?_;refine D3 (vs:=[.pointer (some ⟨b,0,none⟩),.int .i64 ((k+1:Nat):Int)]) ((ih _ e rs w he hrs hw).mono fun r w hq=>?_)
 obtain⟨rfl,hw⟩:=hq;refine⟨_,rfl,?_⟩;refine A6 ?_;exact⟨_,rfl,rfl,hw⟩
theorem Rb(hk:k≤1000)(ih:eo Γ b bm vs vg vt φ (k+1))(e:Env)(rs:List (List Val))(S:List B2)(w:World)(he:y0 e)(hrs:rs.length+(φ e).length≤1000000)(hw:Wd Γ (SV b bm vs vg vt rs::E4 bm e::([.blk b2 (.cells #[.pointer (some ⟨b,0,none⟩)] 117),.blk b3 (.cells #[.int .i64 k] 3)]++S)) w) :
  Calls Tryz.prog 112 [.pointer (some ⟨b2,0,none⟩),.pointer (some ⟨b3,0,none⟩)].toArray w fun r w'=>r=.returned (.tuple #[])∧Wd Γ (SV b bm vs vg vt (rs++φ e)::E4 bm e::([.blk b2 (.cells #[.pointer (some ⟨b,0,none⟩)] 117),.blk b3 (.cells #[.int .i64 k] 3)]++S)) w':=by
 have hw:Wd Γ (SV b bm vs vg vt rs::E4 bm e::.blk b2 (.cells #[.pointer (some ⟨b,0,none⟩)] 117)::.blk b3 (.cells #[.int .i64 k] 3)::S) w:=hw
 refine A9 Tryz.func112 rfl rfl ?_
 refine A6 ?_;refine D3 (vs:=[.pointer (some ⟨b,0,none⟩),.int .i64 ((k+1:Nat):Int)]) ((ih _ e rs w he hrs hw).mono fun r w hq=>?_)
 obtain⟨rfl,hw⟩:=hq;refine⟨_,rfl,?_⟩;refine A6 ?_;exact⟨_,rfl,rfl,hw⟩
end
theorem Rh{Γ:C8}{b bm:Nat}{vs vg vt:Value}{gs:List N6}{ts:List (Value×List D1)}{db:List F9}{q:G4}(hS:ak Γ vs vg vt gs ts db q)(hR:∀g∈q.Goals,g.Kind=4→g.Low≤g.High∧g.High-g.Low≤1000000) :
  ∀(m k:Nat),k+m=gs.length→eo Γ b bm vs vg vt (Dr (EL (L2 db q) q.Sel) ((L2 db q).drop k)) k:=by
 obtain⟨ga,gn,gc,rfl,hgn,hgnc,hgc⟩:=hS.qr.goals.shape;obtain⟨sa,sn,sc,rfl,hsn,hsnc,hsc⟩:=hS.qr.sel.shape;obtain⟨ta,tn,tc,rfl,htn,htnc,htc⟩:=hS.tab.shape;simp only[List.length_map]at hgn hsn htn
 have hrG:=hS.qr.goals
 have hrS:=hS.qr.sel
 have hrT:=hS.tab
 have hgl:=hS.glen
 have htl:=hS.len
 have hsl:=hS.qok.sel
 intro m;induction m with
 | zero=>
  intro k hk S e rs w he hrs hw;have hkn:k=gn:=by omega
  rw[G9 (L2 db q) (by rw[Kf hS];omega)]at hrs ⊢
  have hrs:rs.length+(EL (L2 db q) q.Sel e).length≤1000000:=hrs
  show Calls _ _ _ _ fun r w'=>r=.returned (.tuple #[])∧Wd Γ (SV b bm (.slice sa sn sc) (.slice ga gn gc) (.slice ta tn tc) (rs++EL (L2 db q) q.Sel e)::E4 bm e::S) w'
  obtain⟨vr,L,hL,hw⟩:=DL hw
  refine A9 Tryz.func50 rfl rfl ?_
  refine A6 ?_;refine H9 ?_;intro b2 w hw;refine A6 ?_;refine H9 ?_;intro b3 w hw;have hw:Wd Γ (.blk b3 (.cells #[.int .i64 k] 3)::.blk b2 (.cells #[.pointer (some ⟨b,0,none⟩)] 117)::.blk b (G2 (.slice sa sn sc) (.slice ga gn gc) (.slice ta tn tc) vr bm)::(H6 vr L++(E4 bm e::S))) w:=hw
  have hw:Wd Γ (.blk b2 (.cells #[.pointer (some ⟨b,0,none⟩)] 117)::.blk b3 (.cells #[.int .i64 k] 3)::.blk b (G2 (.slice sa sn sc) (.slice ga gn gc) (.slice ta tn tc) vr bm)::E4 bm e::(H6 vr L++S)) w:=hw.perm K1
  refine A6 ?_;refine I5 (by kernel_rfl) (by kernel_rfl) hw ?_
  refine EX ?_;clear hw;intro w hw;have hw:Wd Γ (.blk b2 (.cells #[.pointer (some ⟨b,0,none⟩)] 117)::.blk b3 (.cells #[.int .i64 k] 3)::.blk b (G2 (.slice sa sn sc) (.slice ga gn gc) (.slice ta tn tc) vr bm)::E4 bm e::(H6 vr L++S)) w:=hw
  refine M7 (congrArg Value.bool (decide_eq_true (by omega))) ?_
  refine A6 ?_;have W1:Wd Γ (.blk b (G2 (.slice sa sn sc) (.slice ga gn gc) (.slice ta tn tc) vr bm)::(H6 vr L++(E4 bm e::(.blk b2 (.cells #[.pointer (some ⟨b,0,none⟩)] 117)::.blk b3 (.cells #[.int .i64 k] 3)::S)))) w:=hw.perm K1
  have Aj:=Z2 (vr:=vr) hL W1
  refine D3 (vs:=[.pointer (some ⟨b,0,none⟩)]) ((RB hS he hrs Aj).mono fun r w hq=>?_)
  clear hw W1 Aj;obtain⟨rfl,hw⟩:=hq;refine⟨_,rfl,?_⟩;refine A6 ?_;exact⟨_,rfl,rfl,hw.ds [2,2]⟩
 | succ m ih=>
  intro k hk S e rs w he hrs hw;have hkn:k<gn:=by omega
  have ihk:=ih (k+1) (by omega)
  obtain⟨x,hx⟩:=B4 (l:=gs) (k:=k) (by omega)
  obtain⟨t,ht⟩:=B4 (l:=ts) (k:=k) (by omega)
  have hxm:=List.mem_of_getElem? hx
  have htm:=List.mem_of_getElem? ht
  have hgok:=hS.qr.ok x hxm
  have hgoal:=hS.goal hxm
  have hRL:=hS.rl t htm
  have heq:=hS.eq k x t hx ht
  have har:=JJ (db:=db) (g:=x.g)
  have hRx:=hR x.g (by rw[←hS.qr.eq];exact List.mem_map_of_mem (f:=(·.g)) hxm)
  rw[R9 (KS hS hx)]at hrs ⊢
  obtain⟨φ,hφ⟩:∃φ,φ=Dr (EL (L2 db q) q.Sel) ((L2 db q).drop (k+1)):=⟨_,rfl⟩
  rw[←hφ]at ihk;obtain⟨g,A,N,C⟩:=x;obtain⟨tv,fs⟩:=t;obtain⟨fa,fc,htv,hfc1,hfc2⟩:=hRL.len;simp only at hgoal heq har hRx htv hfc1 hfc2 hrs ⊢
  subst htv;obtain⟨R,hRe⟩:∃R,R=Dr (EL (L2 db q) q.Sel) ((g,R7 db g)::(L2 db q).drop (k+1)) e:=⟨_,rfl⟩
  rw[←hRe]at hrs ⊢
  unfold Dr at hRe;rw[←hφ]at hRe;obtain⟨vr,L,hL,hw⟩:=DL hw
  refine A9 Tryz.func50 rfl rfl ?_
  refine A6 ?_;refine H9 ?_;intro b2 w hw;refine A6 ?_;refine H9 ?_;intro b3 w hw;have hw:Wd Γ (.blk b3 (.cells #[.int .i64 k] 3)::.blk b2 (.cells #[.pointer (some ⟨b,0,none⟩)] 117)::.blk b (G2 (.slice sa sn sc) (.slice ga gn gc) (.slice ta tn tc) vr bm)::(H6 vr L++(E4 bm e::S))) w:=hw
  have hw:Wd Γ (.blk b2 (.cells #[.pointer (some ⟨b,0,none⟩)] 117)::.blk b3 (.cells #[.int .i64 k] 3)::.blk b (G2 (.slice sa sn sc) (.slice ga gn gc) (.slice ta tn tc) vr bm)::E4 bm e::(H6 vr L++S)) w:=hw.perm K1
  refine A6 ?_;refine I5 (by kernel_rfl) (by kernel_rfl) hw ?_
  refine EX ?_;clear hw;intro w hw;have hw:Wd Γ (.blk b2 (.cells #[.pointer (some ⟨b,0,none⟩)] 117)::.blk b3 (.cells #[.int .i64 k] 3)::.blk b (G2 (.slice sa sn sc) (.slice ga gn gc) (.slice ta tn tc) vr bm)::E4 bm e::(H6 vr L++S)) w:=hw
  refine P7 (congrArg Value.bool (decide_eq_false (by omega))) ?_
  refine A6 ?_;refine Jd 1 [[],[],[],[],[],[],[],[],[0],[0]] [[],[],[],[],[],[],[],[],[0],[0]] [[4]] ?_ (hw:=hw)
  refine R1 ?_;refine GD ?_
  refine BN ?_
  refine U0 ?_
  clear hw;intro b4 w hw;have hw:Wd Γ (.blk b4 (.cells (cG ⟨g,A,N,C⟩).toArray 127)::.blk b2 (.cells #[.pointer (some ⟨b,0,none⟩)] 117)::.blk b3 (.cells #[.int .i64 k] 3)::.blk b (G2 (.slice sa sn sc) (.slice ga gn gc) (.slice ta tn tc) vr bm)::E4 bm e::(H6 vr L++S)) w:=hw
  refine A6 ?_;refine A7 rfl (fun h=>?_) (fun h=>?_)
  ·have hk1:g.Kind=1:=of_decide_eq_true h
   clear h;rw[if_pos hk1]at hRe;have hRe2:R=fs.flatMap fun f=>(fun f:F9=>if P4 e g.Args f.2 then O3 φ e g.Args f.2 else []) f.fact:=by
    rw[hRe,←heq];unfold facts;rw[List.flatMap_map]
   have hat:J0 g=true:=by unfold J0;rw[hk1];rfl
   refine A6 ?_;refine I5 (by kernel_rfl) (by kernel_rfl) hw ?_
   refine EX ?_;clear hw;intro w hw;have hw:Wd Γ (.blk b (G2 (.slice sa sn sc) (.slice ga gn gc) (.slice ta tn tc) vr bm)::(H6 vr L++(E4 bm e::(.blk b2 (.cells #[.pointer (some ⟨b,0,none⟩)] 117)::.blk b3 (.cells #[.int .i64 k] 3)::.blk b4 (.cells (cG ⟨g,A,N,C⟩).toArray 127)::S)))) w:=hw.perm K1
   have hw:=Z2 (vr:=vr) hL hw
   clear hL;refine A6 ?_;refine B5 (fun μ ρ w=>∃(j:Nat),μ+j=fs.length∧Has ρ [(2,.pointer (some ⟨b2,0,none⟩)),(3,.pointer (some ⟨b3,0,none⟩)),(4,.pointer (some ⟨b4,0,none⟩)),(43,.slice fa fs.length fc),(44,.int .i64 fs.length),(45,.int .i64 j)]∧Wd Γ (SV b bm (.slice sa sn sc) (.slice ga gn gc) (.slice ta tn tc) (rs++(fs.take j).flatMap fun f=>(fun f:F9=>if P4 e g.Args f.2 then O3 φ e g.Args f.2 else []) f.fact)::E4 bm e::.blk b2 (.cells #[.pointer (some ⟨b,0,none⟩)] 117)::.blk b3 (.cells #[.int .i64 k] 3)::.blk b4 (.cells (cG ⟨g,A,N,C⟩).toArray 127)::S) w) fs.length ⟨0,by omega,⟨rfl,rfl,rfl,rfl,rfl,rfl,trivial⟩,by rw[List.take_zero,List.flatMap_nil,List.append_nil];exact hw⟩ ?_
   clear hw;rintro μ ρ w ⟨j,hj,hρ,hw⟩
   rw[hρ.eq];clear hρ;refine A6 ?_;refine A7 rfl (fun h=>?_) (fun h=>?_)
   ·have hjn:j<fs.length:=by have:=of_decide_eq_true h;omega
    clear h;obtain⟨f,hf⟩:=B4 (l:=fs) (k:=j) hjn
    obtain⟨h1,h2⟩:=hRL.ok f (List.mem_of_getElem? hf)
    have hm:f.fact∈R7 db g:=by rw[←heq];exact List.mem_map_of_mem (f:=D1.fact) (List.mem_of_getElem? hf)
    have hfl:=har _ hm
    have hsu:=HM (F:=fun f:D1=>(fun f:F9=>if P4 e g.Args f.2 then O3 φ e g.Args f.2 else []) f.fact) hf
    have hle:=dO (F:=fun f:D1=>(fun f:F9=>if P4 e g.Args f.2 then O3 φ e g.Args f.2 else []) f.fact) hf
    rw[←hRe2]at hle;have hrb:=hRL.rep
    refine A6 ?_;refine C0 ?_;intro b6 w hw;refine B1 ?_;intro w hw;obtain⟨fr,fa2,fn2,fc2,xs⟩:=f;have hw:Wd Γ (.blk b6 (.cells (cF ⟨fr,fa2,fn2,fc2,xs⟩).toArray 135)::SV b bm (.slice sa sn sc) (.slice ga gn gc) (.slice ta tn tc) (rs++(fs.take j).flatMap fun f=>(fun f:F9=>if P4 e g.Args f.2 then O3 φ e g.Args f.2 else []) f.fact)::E4 bm e::.blk b2 (.cells #[.pointer (some ⟨b,0,none⟩)] 117)::.blk b3 (.cells #[.int .i64 k] 3)::.blk b4 (.cells (cG ⟨g,A,N,C⟩).toArray 127)::S) w:=hw
    have hw:Wd Γ (SV b bm (.slice sa sn sc) (.slice ga gn gc) (.slice ta tn tc) (rs++(fs.take j).flatMap fun f=>(fun f:F9=>if P4 e g.Args f.2 then O3 φ e g.Args f.2 else []) f.fact)::E4 bm e::.blk b2 (.cells #[.pointer (some ⟨b,0,none⟩)] 117)::.blk b3 (.cells #[.int .i64 k] 3)::.blk b6 (.cells (cF ⟨fr,fa2,fn2,fc2,xs⟩).toArray 135)::.blk b4 (.cells (cG ⟨g,A,N,C⟩).toArray 127)::S) w:=hw.perm K1
    refine A6 ?_;refine D3 (vs:=[.pointer (some ⟨b,0,none⟩),.slice A N C,.agg (cF ⟨fr,fa2,fn2,fc2,xs⟩).toArray]) ((aS (f:=⟨fr,fa2,fn2,fc2,xs⟩) (va:=.slice A N C) (os:=g.Args) hgok hgoal.args h1 h2 hfl he.noKey hgoal.len hw).mono fun r w hq=>?_)
    clear hw;obtain⟨rfl,hw⟩:=hq;refine⟨_,rfl,?_⟩;have hxl:((rs++(fs.take j).flatMap fun f=>(fun f:F9=>if P4 e g.Args f.2 then O3 φ e g.Args f.2 else []) f.fact).length=rs.length+((fs.take j).flatMap fun f=>(fun f:F9=>if P4 e g.Args f.2 then O3 φ e g.Args f.2 else []) f.fact).length):=List.length_append
    refine A6 ?_;refine A7 rfl (fun h=>?_) (fun h=>?_)
    ·have hF:(fun f:F9=>if P4 e g.Args f.2 then O3 φ e g.Args f.2 else []) (D1.fact ⟨fr,fa2,fn2,fc2,xs⟩)=O3 φ e g.Args xs:=if_pos h
     rw[hF]at hsu hle
     refine A6 ?_;refine D3 (vs:=[.pointer (some ⟨b,0,none⟩),.slice A N C,.slice fa2 fn2 fc2,.func (.func 111) #[] #[.pointer (some ⟨b2,0,none⟩),.pointer (some ⟨b3,0,none⟩)]]) ((QO (CAP:=[.blk b2 (.cells #[.pointer (some ⟨b,0,none⟩)] 117),.blk b3 (.cells #[.int .i64 k] 3)]) (S:=.blk b6 (.cells (cF ⟨fr,fa2,fn2,fc2,xs⟩).toArray 135)::.blk b4 (.cells (cG ⟨g,A,N,C⟩).toArray 127)::S) (rs:=rs++(fs.take j).flatMap fun f=>(fun f:F9=>if P4 e g.Args f.2 then O3 φ e g.Args f.2 else []) f.fact) (cap:=[.pointer (some ⟨b2,0,none⟩),.pointer (some ⟨b3,0,none⟩)]) (q:=111) (os:=g.Args) (xs:=xs) φ (fun e' rs' S' w h1 h2 h3=>Rv (by omega) ihk e' rs' S' w h1 h2 h3) (D9.rdS hgok) (D9.rdS h1) hfl hgoal.len h2.2.2 he (by rw[hxl];omega) hw).mono fun r w hq=>?_)
     clear hw;obtain⟨rfl,hw⟩:=hq;refine⟨_,rfl,?_⟩;rw[List.append_assoc,←hsu]at hw;refine A6 ?_;refine⟨fs.length-j-1,by omega,j+1,by omega,⟨rfl,rfl,rfl,rfl,rfl,rfl,trivial⟩,?_⟩
     exact hw.dropAt 4
    ·have hF:(fun f:F9=>if P4 e g.Args f.2 then O3 φ e g.Args f.2 else []) (D1.fact ⟨fr,fa2,fn2,fc2,xs⟩)=[]:=if_neg (by show ¬P4 e g.Args xs=true;rw[show P4 e g.Args xs=false from h];simp)
     rw[hF,List.append_nil]at hsu;rw[←hsu]at hw;refine A6 ?_;refine⟨fs.length-j-1,by omega,j+1,by omega,⟨rfl,rfl,rfl,rfl,rfl,rfl,trivial⟩,?_⟩
     exact hw.dropAt 4
   have hjn:fs.length≤j:=by have:=of_decide_eq_false h;omega
   rw[List.take_of_length_le hjn,←hRe2]at hw;refine A6 ?_;exact⟨_,rfl,rfl,hw.ds [2,2,2]⟩
  have hk1:¬g.Kind=1:=of_decide_eq_false h
  clear h;rw[if_neg hk1]at hRe;refine A6 ?_;refine A7 rfl (fun h=>?_) (fun h=>?_)
  ·have hk4:g.Kind=4:=of_decide_eq_true h
   clear h;rw[if_pos hk4]at hRe;obtain⟨hlh,hlh2⟩:=hRx hk4
   have hi1:=hgoal.low
   have hi2:=hgoal.high
   have hsub:=NC hi2 hi1 hlh
   have hw:Wd Γ (.blk b4 (.cells (cG ⟨g,A,N,C⟩).toArray 127)::E4 bm e::.blk b2 (.cells #[.pointer (some ⟨b,0,none⟩)] 117)::.blk b3 (.cells #[.int .i64 k] 3)::.blk b (G2 (.slice sa sn sc) (.slice ga gn gc) (.slice ta tn tc) vr bm)::(H6 vr L++S)) w:=hw.perm K1
   refine A6 ?_;refine Jd 1 [[],[],[],[],[],[],[],[],[],[],[],[0],[0],[]] [[],[],[],[],[],[],[],[],[],[],[],[0],[0],[]] [[7]] ?_ (hw:=hw)
   refine R1 ?_;refine GD ?_
   refine BN ?_
   refine R1 ?_;refine U0 ?_
   clear hw;intro b7 w hw;have hw:Wd Γ (.blk b7 (.cells (enc ((F1 e g.L.Var).getD default)).toArray 54)::.blk b4 (.cells (cG ⟨g,A,N,C⟩).toArray 127)::E4 bm e::.blk b2 (.cells #[.pointer (some ⟨b,0,none⟩)] 117)::.blk b3 (.cells #[.int .i64 k] 3)::.blk b (G2 (.slice sa sn sc) (.slice ga gn gc) (.slice ta tn tc) vr bm)::(H6 vr L++S)) w:=hw
   have hw:Wd Γ (.blk b (G2 (.slice sa sn sc) (.slice ga gn gc) (.slice ta tn tc) vr bm)::(H6 vr L++(E4 bm e::.blk b2 (.cells #[.pointer (some ⟨b,0,none⟩)] 117)::.blk b3 (.cells #[.int .i64 k] 3)::.blk b7 (.cells (enc ((F1 e g.L.Var).getD default)).toArray 54)::.blk b4 (.cells (cG ⟨g,A,N,C⟩).toArray 127)::S))) w:=hw.perm K1
   have hw:=Z2 (vr:=vr) hL hw
   clear hL;refine A6 ?_;refine A7 rfl (fun h=>?_) (fun h=>?_)
   ·obtain⟨v,hv⟩:=Option.isSome_iff_exists.1 h
    clear h;rw[hv]at hw hRe
    simp only at hRe
    have hw:Wd Γ (SV b bm (.slice sa sn sc) (.slice ga gn gc) (.slice ta tn tc) rs::E4 bm e::.blk b2 (.cells #[.pointer (some ⟨b,0,none⟩)] 117)::.blk b3 (.cells #[.int .i64 k] 3)::.blk b7 (.cells (enc v).toArray 54)::.blk b4 (.cells (cG ⟨g,A,N,C⟩).toArray 127)::S) w:=hw
    refine A6 ?_;refine A7 rfl (fun h=>?_) (fun h=>?_)
    ·have hc:v.Kind=1∧g.Low≤v.Num∧v.Num≤g.High:=by
      simp only[Bool.and_eq_true,decide_eq_true_eq]at h
      exact⟨h.1.1,h.1.2,h.2⟩
     rw[if_pos hc]at hRe;refine A6 ?_;refine D3 (vs:=[.pointer (some ⟨b,0,none⟩),.int .i64 ((k+1:Nat):Int)]) ((ihk _ e rs w he (by rw[←hRe];exact hrs) hw).mono fun r w hq=>?_)
     clear hw;obtain⟨rfl,hw⟩:=hq;refine⟨_,rfl,?_⟩;rw[←hRe]at hw;refine A6 ?_;exact⟨_,rfl,rfl,hw.ds [2,2,2,2]⟩
    ·have hc:¬(v.Kind=1∧g.Low≤v.Num∧v.Num≤g.High):=by
      intro hc;simp only[Bool.and_eq_false_iff,decide_eq_false_iff_not]at h
      rcases h with (h|h)|h
      ·exact h hc.1
      ·exact h hc.2.1
      ·exact h hc.2.2
     rw[if_neg hc]at hRe;refine A6 ?_;refine⟨_,rfl,rfl,?_⟩
     rw[hRe,List.append_nil];exact hw.ds [2,2,2,2]
   have hv:F1 e g.L.Var=none:=by simpa using h
   clear h;rw[hv]at hRe;simp only at hRe
   obtain⟨M,hM⟩:∃M,M=(g.High-g.Low+1).toNat:=⟨_,rfl⟩
   rw[←hM]at hRe;have hw:Wd Γ (SV b bm (.slice sa sn sc) (.slice ga gn gc) (.slice ta tn tc) rs::E4 bm e::.blk b2 (.cells #[.pointer (some ⟨b,0,none⟩)] 117)::.blk b3 (.cells #[.int .i64 k] 3)::.blk b4 (.cells (cG ⟨g,A,N,C⟩).toArray 127)::S) w:=hw.dropAt 4
   refine A6 ?_;refine B5 (fun μ ρ w=>∃(j:Nat),μ+j=M∧Has ρ [(2,.pointer (some ⟨b2,0,none⟩)),(3,.pointer (some ⟨b3,0,none⟩)),(4,.pointer (some ⟨b4,0,none⟩)),(9,.int .u64 j)]∧Wd Γ (SV b bm (.slice sa sn sc) (.slice ga gn gc) (.slice ta tn tc) (rs++((List.range M).take j).flatMap (fun n:Nat=>O3 φ e [g.L] [BR g.Low n]))::E4 bm e::.blk b2 (.cells #[.pointer (some ⟨b,0,none⟩)] 117)::.blk b3 (.cells #[.int .i64 k] 3)::.blk b4 (.cells (cG ⟨g,A,N,C⟩).toArray 127)::S) w) M ⟨0,by omega,⟨rfl,rfl,rfl,rfl,trivial⟩,by rw[List.take_zero,List.flatMap_nil,List.append_nil];exact hw⟩ ?_
   clear hw;rintro μ ρ w ⟨j,hj,hρ,hw⟩
   rw[hρ.eq];clear hρ;refine A6 ?_;refine A7 rfl (fun h=>?_) (fun h=>?_)
   ·have h:(j:Int)≤IntKind.u64.wrap (IntKind.u64.wrap g.High-IntKind.u64.wrap g.Low):=of_decide_eq_true h
    rw[hsub]at h;have hjM:j<M:=by omega
    have hgj:(List.range M)[j]? = some j:=List.getElem?_range hjM
    have hsu:=HM (F:=(fun n:Nat=>O3 φ e [g.L] [BR g.Low n])) hgj
    have hle:=dO (F:=(fun n:Nat=>O3 φ e [g.L] [BR g.Low n])) hgj
    rw[←hRe]at hle;have hxl:((rs++((List.range M).take j).flatMap (fun n:Nat=>O3 φ e [g.L] [BR g.Low n])).length=rs.length+(((List.range M).take j).flatMap (fun n:Nat=>O3 φ e [g.L] [BR g.Low n])).length):=List.length_append
    have hwj:IntKind.i64.wrap (j:Int)=j:=wrap_i64 (by omega) (by omega)
    unfold GJ at hi1 hi2;have hvok:o6 (BR g.Low j):=⟨⟨by show _≤g.Low+(j:Int);omega,by show g.Low+(j:Int)≤_;omega⟩,by show (⟨#[]⟩:ByteArray).size≤9223372036854775807;decide⟩
    clear h hsub;refine A6 ?_;refine C0 ?_;intro b10 w hw;refine B1 ?_;intro w hw;have hw:Wd Γ (.blk b10 (.cells #[.int .i64 1,.int .i64 (IntKind.i64.wrap (g.Low+IntKind.i64.wrap (j:Int))),.string ⟨#[]⟩] 54)::SV b bm (.slice sa sn sc) (.slice ga gn gc) (.slice ta tn tc) (rs++((List.range M).take j).flatMap (fun n:Nat=>O3 φ e [g.L] [BR g.Low n]))::E4 bm e::.blk b2 (.cells #[.pointer (some ⟨b,0,none⟩)] 117)::.blk b3 (.cells #[.int .i64 k] 3)::.blk b4 (.cells (cG ⟨g,A,N,C⟩).toArray 127)::S) w:=hw
    rw[hwj,wrap_i64 (by omega) (by omega)]at hw
    have hw:Wd Γ (.blk b10 (.cells (enc (BR g.Low j)).toArray 54)::SV b bm (.slice sa sn sc) (.slice ga gn gc) (.slice ta tn tc) (rs++((List.range M).take j).flatMap (fun n:Nat=>O3 φ e [g.L] [BR g.Low n]))::E4 bm e::.blk b2 (.cells #[.pointer (some ⟨b,0,none⟩)] 117)::.blk b3 (.cells #[.int .i64 k] 3)::.blk b4 (.cells (cG ⟨g,A,N,C⟩).toArray 127)::S) w:=hw
    refine A6 ?_;refine B6 [enc g.L] ?_
    intro q1 w hw;refine A6 ?_;refine B6 [enc (BR g.Low j)] ?_
    intro q2 w hw;have hw:Wd Γ (.own (.slice (some q2) 1 1) 54 3 [enc (BR g.Low j)]::.own (.slice (some q1) 1 1) 125 4 [enc g.L]::.blk b10 (.cells (enc (BR g.Low j)).toArray 54)::SV b bm (.slice sa sn sc) (.slice ga gn gc) (.slice ta tn tc) (rs++((List.range M).take j).flatMap (fun n:Nat=>O3 φ e [g.L] [BR g.Low n]))::E4 bm e::.blk b2 (.cells #[.pointer (some ⟨b,0,none⟩)] 117)::.blk b3 (.cells #[.int .i64 k] 3)::.blk b4 (.cells (cG ⟨g,A,N,C⟩).toArray 127)::S) w:=hw
    have hw:Wd Γ (SV b bm (.slice sa sn sc) (.slice ga gn gc) (.slice ta tn tc) (rs++((List.range M).take j).flatMap (fun n:Nat=>O3 φ e [g.L] [BR g.Low n]))::E4 bm e::.blk b2 (.cells #[.pointer (some ⟨b,0,none⟩)] 117)::.blk b3 (.cells #[.int .i64 k] 3)::.own (.slice (some q1) 1 1) 125 4 [enc g.L]::.own (.slice (some q2) 1 1) 54 3 [enc (BR g.Low j)]::.blk b10 (.cells (enc (BR g.Low j)).toArray 54)::.blk b4 (.cells (cG ⟨g,A,N,C⟩).toArray 127)::S) w:=hw.perm K1
    refine A6 ?_;refine D3 (vs:=[.pointer (some ⟨b,0,none⟩),.slice (some q1) 1 1,.slice (some q2) 1 1,.func (.func 112) #[] #[.pointer (some ⟨b2,0,none⟩),.pointer (some ⟨b3,0,none⟩)]]) ((QO (CAP:=[.blk b2 (.cells #[.pointer (some ⟨b,0,none⟩)] 117),.blk b3 (.cells #[.int .i64 k] 3)]) (S:=.own (.slice (some q1) 1 1) 125 4 [enc g.L]::.own (.slice (some q2) 1 1) 54 3 [enc (BR g.Low j)]::.blk b10 (.cells (enc (BR g.Low j)).toArray 54)::.blk b4 (.cells (cG ⟨g,A,N,C⟩).toArray 127)::S) (rs:=rs++((List.range M).take j).flatMap (fun n:Nat=>O3 φ e [g.L] [BR g.Low n])) (cap:=[.pointer (some ⟨b2,0,none⟩),.pointer (some ⟨b3,0,none⟩)]) (q:=112) (os:=[g.L]) (xs:=[BR g.Low j]) φ (fun e' rs' S' w h1 h2 h3=>Rb (by omega) ihk e' rs' S' w h1 h2 h3) (P6.ownI (i:=2) rfl rfl (Nat.le_refl _) (by omega)) (P6.ownI (i:=3) rfl rfl (Nat.le_refl _) (by omega)) rfl (by simp) (fun v hv=>by rw[List.mem_singleton.1 hv];exact hvok) he (by rw[hxl];omega) hw).mono fun r w hq=>?_)
    clear hw;obtain⟨rfl,hw⟩:=hq;refine⟨_,rfl,?_⟩;rw[List.append_assoc,←hsu]at hw;refine A6 ?_;refine⟨M-j-1,by omega,j+1,by omega,⟨rfl,rfl,rfl,(by show Value.int .u64 (IntKind.u64.wrap ((j:Int)+1))=_;rw[Ca (by omega) (by omega)];rfl),trivial⟩,?_⟩
    exact hw.ds [4,4,4]
   have h:¬(j:Int)≤IntKind.u64.wrap (IntKind.u64.wrap g.High-IntKind.u64.wrap g.Low):=of_decide_eq_false h
   rw[hsub]at h;rw[List.take_of_length_le (by rw[List.length_range];omega),←hRe]at hw
   refine A6 ?_;exact⟨_,rfl,rfl,hw.ds [2,2,2]⟩
  have hk4:¬g.Kind=4:=of_decide_eq_false h
  clear h;rw[if_neg hk4]at hRe;have hw:Wd Γ (.blk b (G2 (.slice sa sn sc) (.slice ga gn gc) (.slice ta tn tc) vr bm)::(H6 vr L++(E4 bm e::.blk b2 (.cells #[.pointer (some ⟨b,0,none⟩)] 117)::.blk b3 (.cells #[.int .i64 k] 3)::.blk b4 (.cells (cG ⟨g,A,N,C⟩).toArray 127)::S))) w:=hw.perm K1
  have hw:=Z2 (vr:=vr) hL hw
  refine A6 ?_;refine D3 (vs:=[.pointer (some ⟨b,0,none⟩),.int .i64 ((k+1:Nat):Int)]) ((ihk _ e rs w he (by rw[←hRe];exact hrs) hw).mono fun r w hq=>?_)
  clear hw;obtain⟨rfl,hw⟩:=hq;refine⟨_,rfl,?_⟩;rw[←hRe]at hw;refine A6 ?_;exact⟨_,rfl,rfl,hw.ds [2,2,2]⟩
end Go.Proofs.YtlimglpjpcfpdaaGreat
end
section
open Go Mk
namespace Go.Proofs.YtlimglpjpcfpdaaGreat
set_option maxHeartbeats 16000000
attribute [local irreducible] Calls cI cB
abbrev Dh(bm:Nat)(ks:List ByteArray):B2:=B2.ms Value.bool bm (ks.map fun s=>(s,true))
theorem Xn{ks:List ByteArray}{s:ByteArray}:De (ks.map fun s=>(s,true)) s=ks.findIdx? fun t=>decide (t=s):=by
 unfold De;rw[List.findIdx?_map];rfl
theorem IG{ks:List ByteArray}{s:ByteArray}:(F1 (ks.map fun s=>(s,true)) s).getD default=BV ks s:=by
 unfold F1 BV;rw[Xn];cases h:ks.findIdx? fun t=>decide (t=s) with
 | none=>
  rw[List.findIdx?_eq_none_iff]at h;symm
  show _=false
  rw[List.any_eq_false];intro x hx;rw[h x hx];simp
 | some i=>
  have hh:=List.findIdx?_eq_some_iff_getElem.1 h
  obtain⟨h1,h2,-⟩:=hh;simp only[Option.bind_some]
  rw[List.getElem?_map,List.getElem?_eq_getElem h1];symm
  show _=true
  rw[List.any_eq_true];exact⟨ks[i],List.getElem_mem h1,h2⟩
theorem Hf{ks:List ByteArray}{s:ByteArray}:Q3 (ks.map fun s=>(s,true)) s true=(addN ks s).map fun s=>(s,true):=by
 unfold Q3 addN BV;rw[Xn];cases h:ks.findIdx? fun t=>decide (t=s) with
 | none=>
  rw[List.findIdx?_eq_none_iff]at h;have:(ks.any fun t=>decide (t=s))=false:=by
   rw[List.any_eq_false];intro x hx;rw[h x hx];simp
  rw[this];simp
 | some i=>
  have hh:=List.findIdx?_eq_some_iff_getElem.1 h
  obtain⟨h1,h2,-⟩:=hh;have h2:ks[i]=s:=of_decide_eq_true h2
  have:(ks.any fun t=>decide (t=s))=true:=List.any_eq_true.2 ⟨ks[i],List.getElem_mem h1,decide_eq_true h2⟩
  rw[this];simp only[if_true]
  have e:(s,true)=(ks.map fun s=>(s,true))[i]'(by rw[List.length_map];exact h1):=by simp[h2]
  rw[e];exact List.set_getElem_self _
theorem MQ{α β:Type}(f:α→β):∀(l:List α) (i:Nat),(l.map f).eraseIdx i=(l.eraseIdx i).map f
 | [],_=>rfl
 | _::_,0=>rfl
 | a::l,i+1=>by
  show f a::(l.map f).eraseIdx i=f a::(l.eraseIdx i).map f
  rw[MQ f l i]
theorem Wa{ks:List ByteArray}{s:ByteArray}(hn:ks.Nodup):FV (ks.map fun s=>(s,true)) s=(ks.filter fun t=>decide (t≠s)).map fun s=>(s,true):=by
 unfold FV;rw[Xn];have key:∀(ks:List ByteArray),ks.Nodup→(match ks.findIdx? (fun t=>decide (t=s)) with|some i=>ks.eraseIdx i|none=>ks)=ks.filter fun t=>decide (t≠s):=by
  intro ks;induction ks with
  | nil=>intro _;rfl
  | cons a l ih=>
   intro hn;rw[List.nodup_cons]at hn;rw[List.findIdx?_cons];by_cases h:a=s
   ·subst h;simp only[decide_true,if_true,List.eraseIdx_zero,List.tail_cons]
    rw[List.filter_cons,if_neg (by simp)]
    rw[List.filter_eq_self.2];intro x hx;simp only[ne_eq,decide_eq_true_eq]
    exact fun e=>hn.1 (e ▸ hx)
   ·rw[decide_eq_false h];simp only[Bool.false_eq_true,if_false]
    rw[List.filter_cons,if_pos (by simpa using h),←ih hn.2]
    cases hq:l.findIdx? fun t=>decide (t=s) with
    | none=>rfl
    | some i=>rfl
 rw[←key ks hn];cases hq:ks.findIdx? fun t=>decide (t=s) with
 | none=>rfl
 | some i=>
  show (ks.map _).eraseIdx i=(ks.eraseIdx i).map _
  exact MQ _ _ _
theorem Xz{l:List ByteArray}{s t:ByteArray}:t∈addN l s↔t∈l∨t=s:=by
 unfold addN;split
 ·rename_i h
  rw[y9]at h;exact⟨Or.inl,fun h2=>h2.elim id fun e=>e ▸ h⟩
 ·simp
theorem Rq{l:List ByteArray}{s:ByteArray}(h:l.Nodup):(addN l s).Nodup:=by
 unfold addN;split
 ·exact h
 ·rename_i h2
  rw[y9]at h2;rw[List.nodup_append];exact⟨h,by simp,fun a ha b hb=>by
   rw[List.mem_singleton.1 hb];exact fun e=>h2 (e ▸ ha)⟩
theorem Kl:∀ {ns ks:List ByteArray},ks.Nodup→(ns.foldl addN ks).Nodup
 | [],_,h=>h
 | _::ns,_,h=>Kl (ns:=ns) (Rq h)
theorem HT{s:ByteArray}:∀ {ns ks:List ByteArray},s∈ns.foldl addN ks↔s∈ks∨s∈ns
 | [],_=>by simp
 | n::ns,ks=>by
  rw[List.foldl_cons,HT (ns:=ns),Xz,List.mem_cons,or_assoc]
theorem IU{p:ByteArray→Bool}:∀ {ns ks:List ByteArray},(ns.foldl addN ks).filter p=(ns.filter p).foldl addN (ks.filter p)
 | [],_=>rfl
 | n::ns,ks=>by
  have key:(addN ks n).filter p=if p n=true then addN (ks.filter p) n else ks.filter p:=by
   unfold addN;by_cases h:BV ks n=true
   ·rw[if_pos h];by_cases hp:p n=true
    ·rw[if_pos hp,if_pos];rw[y9]at h ⊢
     exact List.mem_filter.2 ⟨h,hp⟩
    ·rw[if_neg hp]
   ·rw[if_neg h,List.filter_append];by_cases hp:p n=true
    ·rw[if_pos hp,if_neg]
     ·simp[hp]
     ·intro h2;rw[y9]at h h2
      exact h (List.mem_filter.1 h2).1
    ·rw[if_neg hp];simp[hp]
  rw[List.foldl_cons,IU (ns:=ns),key,List.filter_cons];by_cases hp:p n=true
  ·rw[if_pos hp,if_pos hp,List.foldl_cons]
  ·rw[if_neg hp,if_neg hp]
theorem VU{q:G4}:((((JB q).foldl addN []).filter fun t=>decide (t≠F4)).filter fun t=>decide (t≠H2))=AK q:=by
 rw[List.filter_filter];unfold AK;have e:(fun t:ByteArray=>decide (t≠H2)&&decide (t≠F4))=cM:=by
  funext t
  unfold cM;rw[Bool.and_comm]
 rw[e,IU];rfl
section
variable {Γ:C8}{vs vg:Value}{gs:List N6}{q:G4}
theorem QR.glen(hq:QR Γ vs vg gs q)(hok:Z7 q):gs.length≤1000:=by
 have:=hok.len
 rw[←hq.eq,List.length_map]at this;exact this
theorem QR.goal(hq:QR Γ vs vg gs q)(hok:Z7 q){x:N6}(hx:x∈gs):GB x.g:=
 hok.goals _ (by rw[←hq.eq];exact List.mem_map_of_mem (f:=(·.g)) hx)
theorem QR.get(hq:QR Γ vs vg gs q){k:Nat}{x:N6}(hx:gs[k]? = some x):q.Goals[k]? = some x.g:=by
 rw[←hq.eq,List.getElem?_map,hx];rfl
theorem QR.nlen(hq:QR Γ vs vg gs q):q.Goals.length=gs.length:=by
 rw[←hq.eq,List.length_map]
end
theorem JF{Γ:C8}{vs vg:Value}{gs:List N6}{q:G4}(hq0:QR Γ vs vg gs q)(hok:Z7 q):PG Tryz.prog Γ 105 [.agg #[vs,vg]] (.int .i64 (if Ci q=true then 0 else 6)):=DJ fun Γ w hle hw=>by
 have hq:=hq0.mono hle
 obtain⟨ga,gn,gc,rfl,hgn,hgnc,hgc⟩:=hq.goals.shape;obtain⟨sa,sn,sc,rfl,hsn,hsnc,hsc⟩:=hq.sel.shape;simp only[List.length_map]at hgn hsn
 have hrG:=hq.goals
 have hgl:=hq.glen hok
 refine A9 Tryz.func105 rfl rfl ?_
 refine A6 ?_;refine H9 ?_;intro b1 w hw;have hw:Wd Γ [.blk b1 (.cells #[.slice sa sn sc,.slice ga gn gc] 26)] w:=hw
 refine A6 ?_;refine B5 (fun μ ρ w=>∃(k:Nat),μ+k=gn∧Has ρ [(1,.pointer (some ⟨b1,0,none⟩)),(6,.slice ga gn gc),(7,.int .i64 gn),(8,.int .i64 k)]∧Ci q=(q.Goals.drop k).all Cv∧Wd Γ [.blk b1 (.cells #[.slice sa sn sc,.slice ga gn gc] 26)] w) gn ⟨0,by omega,⟨rfl,rfl,rfl,rfl,trivial⟩,rfl,hw⟩ ?_
 clear hw;rintro μ ρ w ⟨k,hk,hρ,hall,hw⟩
 rw[hρ.eq];clear hρ;refine A6 ?_;refine A7 rfl (fun h=>?_) (fun h=>?_)
 ·have hkn:k<gn:=by have:=of_decide_eq_true h;omega
  clear h;obtain⟨x,hx⟩:=B4 (l:=gs) (k:=k) (by omega)
  have hgoal:=hq.goal hok (List.mem_of_getElem? hx)
  rw[X3 (hq.get hx)]at hall;obtain⟨g,A,N,C⟩:=x;simp only at hall hgoal
  obtain⟨hm1,hm2⟩:=hgoal.low;obtain⟨hm3,hm4⟩:=hgoal.high;refine A6 ?_;refine C0 ?_;intro b4 w hw;refine A6 ?_;refine B1 ?_;intro w hw;have hw:Wd Γ [.blk b4 (.cells (cG ⟨g,A,N,C⟩).toArray 127),.blk b1 (.cells #[.slice sa sn sc,.slice ga gn gc] 26)] w:=hw
  refine A6 ?_;refine A7 rfl (fun h=>?_) (fun h=>?_)
  ·have hk3:g.Kind=3:=of_decide_eq_true h
   clear h;have hn:Cv g=(decide (1≤g.Op)&&decide (g.Op≤6)&&decide (g.Off≠-9223372036854775808)):=by unfold Cv;rw[if_pos hk3]
   refine A6 ?_;refine A7 rfl (fun h=>?_) (fun h=>?_)
   ·have hf:Cv g=false:=by
     rw[hn];simp only[Bool.or_eq_true,decide_eq_true_eq]at h
     simp only[Bool.and_eq_false_iff,decide_eq_false_iff_not]
     rcases h with (h|h)|h
     ·exact .inl (.inl (by omega))
     ·exact .inl (.inr (by omega))
     ·exact .inr (by simpa using h)
    refine A6 ?_;refine⟨_,rfl,Γ,C8.le.refl _,H0 rfl ?_,hw.drop.drop⟩
    rw[hall,hf];rfl
   ·have hf:Cv g=true:=by
     rw[hn];simp only[Bool.or_eq_false_iff,decide_eq_false_iff_not]at h
     simp only[Bool.and_eq_true,decide_eq_true_eq]
     exact⟨⟨by omega,by omega⟩,h.2⟩
    rw[hf,Bool.true_and]at hall;refine A6 ?_;exact⟨μ-1,by omega,k+1,by omega,⟨rfl,rfl,rfl,rfl,trivial⟩,hall,hw.drop⟩
  have hk3:¬g.Kind=3:=of_decide_eq_false h
  clear h;refine A6 ?_;refine A7 rfl (fun h=>?_) (fun h=>?_)
  ·have hk4:g.Kind=4:=of_decide_eq_true h
   clear h;have hn:Cv g=(decide (g.Low≤g.High)&&decide (g.High-g.Low≤1000000)):=by unfold Cv;rw[if_neg hk3,if_pos hk4]
   have hsub:g.Low≤g.High→IntKind.u64.wrap (IntKind.u64.wrap g.High-IntKind.u64.wrap g.Low)=g.High-g.Low:=fun h=>NC hgoal.high hgoal.low h
   refine A6 ?_;refine A7 rfl (fun h=>?_) (fun h=>?_)
   ·have hf:Cv g=false:=by
     rw[hn];simp only[Bool.or_eq_true,decide_eq_true_eq]at h
     simp only[Bool.and_eq_false_iff,decide_eq_false_iff_not]
     by_cases hl:g.Low≤g.High
     ·refine .inr ?_
      rcases h with h|h
      ·have h:g.High<g.Low:=h
       omega
      ·have h:1000000<IntKind.u64.wrap (IntKind.u64.wrap g.High-IntKind.u64.wrap g.Low):=h
       rw[hsub hl]at h;omega
     ·exact .inl hl
    refine A6 ?_;refine⟨_,rfl,Γ,C8.le.refl _,H0 rfl ?_,hw.drop.drop⟩
    rw[hall,hf];rfl
   ·have hf:Cv g=true:=by
     rw[hn];simp only[Bool.or_eq_false_iff,decide_eq_false_iff_not]at h
     obtain⟨h1,h2⟩:=h;have h1:¬g.High<g.Low:=h1
     have hl:g.Low≤g.High:=by omega
     have h2:¬1000000<IntKind.u64.wrap (IntKind.u64.wrap g.High-IntKind.u64.wrap g.Low):=h2
     rw[hsub hl]at h2;simp only[Bool.and_eq_true,decide_eq_true_eq]
     exact⟨hl,by omega⟩
    rw[hf,Bool.true_and]at hall;refine A6 ?_;exact⟨μ-1,by omega,k+1,by omega,⟨rfl,rfl,rfl,rfl,trivial⟩,hall,hw.drop⟩
  have hk4:¬g.Kind=4:=of_decide_eq_false h
  have hf:Cv g=true:=by unfold Cv;rw[if_neg hk3,if_neg hk4]
  rw[hf,Bool.true_and]at hall;refine A6 ?_;exact⟨μ-1,by omega,k+1,by omega,⟨rfl,rfl,rfl,rfl,trivial⟩,hall,hw.drop⟩
 have hkn:gn≤k:=by have:=of_decide_eq_false h;omega
 rw[G9 _ (by rw[hq.nlen];omega)]at hall
 refine A6 ?_;refine⟨_,rfl,Γ,C8.le.refl _,H0 rfl ?_,hw.drop⟩
 rw[hall];rfl
def XP(g:H3):Bool:=!J0 g||(decide (1≤g.Args.length)&&decide (g.Args.length≤8))
theorem Kg{Γ:C8}{vs vg:Value}{gs:List N6}{q:G4}(hq0:QR Γ vs vg gs q)(hok:Z7 q):PG Tryz.prog Γ 102 [.agg #[vs,vg]] (.int .i64 (if BY q=true then 0 else 15)):=DJ fun Γ w hle hw=>by
 have hq:=hq0.mono hle
 obtain⟨ga,gn,gc,rfl,hgn,hgnc,hgc⟩:=hq.goals.shape;obtain⟨sa,sn,sc,rfl,hsn,hsnc,hsc⟩:=hq.sel.shape;simp only[List.length_map]at hgn hsn
 have hrG:=hq.goals
 have hrS:=hq.sel
 have hgl:=hq.glen hok
 have hsl:=hok.sel
 have hnl:=hq.nlen
 refine A9 Tryz.func102 rfl rfl ?_
 refine A6 ?_;refine H9 ?_;intro b1 w hw;have hw:Wd Γ [.blk b1 (.cells #[.slice sa sn sc,.slice ga gn gc] 26)] w:=hw
 refine A6 ?_;refine A7 rfl (fun h=>?_) (fun h=>?_)
 ·have hf:BY q=false:=by
   simp only[Bool.or_eq_true,decide_eq_true_eq]at h
   unfold BY;rcases h with (h|h)|h
   ·rw[decide_eq_false (by omega)];rfl
   ·rw[decide_eq_false (p:=q.Goals.length≤16) (by omega),Bool.and_false];rfl
   ·rw[decide_eq_false (p:=q.Sel.length≤8) (by omega),Bool.and_false];rfl
  refine A6 ?_;refine⟨_,rfl,Γ,C8.le.refl _,H0 rfl ?_,hw.drop⟩
  rw[hf];rfl
 have hb:1≤gn∧gn≤16∧sn≤8:=by
  simp only[Bool.or_eq_false_iff,decide_eq_false_iff_not]at h
  obtain⟨⟨h1,h2⟩,h3⟩:=h;omega
 clear h;have hokl:BY q=((q.Goals.all XP)&&decide ((AK q).length≤8)):=by
  unfold BY;rw[decide_eq_true (by omega:1≤q.Goals.length),decide_eq_true (by omega:q.Goals.length≤16),decide_eq_true (by omega:q.Sel.length≤8)];rfl
 refine A6 ?_;refine F0 rfl rfl (J1 (K:=9) (α:=ByteArray) (f:=Value.bool) hw fun bm w hw=>?_)
 have hw:Wd Γ [Dh bm [],.blk b1 (.cells #[.slice sa sn sc,.slice ga gn gc] 26)] w:=hw
 refine A6 ?_;refine B5 (fun μ ρ w=>∃(k:Nat),μ+k=sn∧Has ρ [(1,.pointer (some ⟨b1,0,none⟩)),(3,.map (some bm)),(28,.slice sa sn sc),(29,.int .i64 sn),(30,.int .i64 k)]∧Wd Γ [Dh bm ((q.Sel.take k).foldl addN []),.blk b1 (.cells #[.slice sa sn sc,.slice ga gn gc] 26)] w) sn ⟨0,by omega,⟨rfl,rfl,rfl,rfl,rfl,trivial⟩,hw⟩ ?_
 clear hw;rintro μ ρ w ⟨k,hk,hρ,hw⟩
 rw[hρ.eq];clear hρ;refine A6 ?_;refine A7 rfl (fun h=>?_) (fun h=>?_)
 ·have hkn:k<sn:=by have:=of_decide_eq_true h;omega
  clear h;obtain⟨s,hs⟩:=B4 (l:=q.Sel) (k:=k) (by omega)
  refine A6 ?_;refine F0 rfl rfl (l7 (f:=Value.bool) (v:=true) (i:=0) (l:=((q.Sel.take k).foldl addN []).map fun s=>(s,true)) hw rfl rfl rfl rfl fun w hw=>?_)
  rw[Hf]at hw;have hw:Wd Γ [Dh bm ((q.Sel.take (k+1)).foldl addN []),.blk b1 (.cells #[.slice sa sn sc,.slice ga gn gc] 26)] w:=by
   rw[List.take_add_one,hs,List.foldl_append];exact hw
  refine A6 ?_;exact⟨μ-1,by omega,k+1,by omega,⟨rfl,rfl,rfl,rfl,rfl,trivial⟩,hw⟩
 have hkn:sn≤k:=by have:=of_decide_eq_false h;omega
 clear h;rw[List.take_of_length_le (by omega)]at hw
 have hw:Wd Γ [Dh bm ((q.Sel++(q.Goals.take 0).flatMap fun g=>(J5 g).map (·.Var)).foldl addN []),.blk b1 (.cells #[.slice sa sn sc,.slice ga gn gc] 26)] w:=by
  rw[List.take_zero,List.flatMap_nil,List.append_nil];exact hw
 clear hk hkn;refine A6 ?_;refine B5 (fun μ ρ w=>∃(Γ':C8) (k:Nat),Γ.le Γ'∧μ+k=gn∧Has ρ [(1,.pointer (some ⟨b1,0,none⟩)),(3,.map (some bm)),(38,.slice ga gn gc),(39,.int .i64 gn),(40,.int .i64 k)]∧q.Goals.all XP=(q.Goals.drop k).all XP∧Wd Γ' [Dh bm ((q.Sel++(q.Goals.take k).flatMap fun g=>(J5 g).map (·.Var)).foldl addN []),.blk b1 (.cells #[.slice sa sn sc,.slice ga gn gc] 26)] w) gn ⟨Γ,0,C8.le.refl _,by omega,⟨rfl,rfl,rfl,rfl,rfl,trivial⟩,rfl,hw⟩ ?_
 clear hw;rintro μ ρ w ⟨Γ1,k,hle1,hk,hρ,hall,hw⟩
 rw[hρ.eq];clear hρ;have hq1:=hq.mono hle1
 have hrG1:=hq1.goals
 refine A6 ?_;refine A7 rfl (fun h=>?_) (fun h=>?_)
 ·have hkn:k<gn:=by have:=of_decide_eq_true h;omega
  clear h;obtain⟨x,hx⟩:=B4 (l:=gs) (k:=k) (by omega)
  have hxm:=List.mem_of_getElem? hx
  have hgoal:=hq.goal hok hxm
  have hgok:=hq1.ok x hxm
  have hgx:=hq.get hx
  rw[X3 hgx]at hall;obtain⟨l1,l2,l3⟩:=hgok.len;obtain⟨g,A,N,C⟩:=x;simp only at hall hgoal l1 l2 l3 hgx
  have hal:=hgoal.len
  refine A6 ?_;refine C0 ?_;intro b7 w hw;refine A6 ?_;refine B1 ?_;intro w hw;have hw:Wd Γ1 [.blk b7 (.cells (cG ⟨g,A,N,C⟩).toArray 127),Dh bm ((q.Sel++(q.Goals.take k).flatMap fun g=>(J5 g).map (·.Var)).foldl addN []),.blk b1 (.cells #[.slice sa sn sc,.slice ga gn gc] 26)] w:=hw
  repeat first|refine U9 ?_|refine V5 ?_;intro w hw
  refine A7 rfl (fun h=>?_) (fun h=>?_)
  ·have hf:XP g=false:=by
    have h:(J0 g&&(decide ((N:Int)<1)||decide (8<(N:Int))))=true:=h
    rw[Bool.and_eq_true,Bool.or_eq_true,decide_eq_true_eq,decide_eq_true_eq]at h;show (!J0 g||_)=false
    rw[h.1];simp only[Bool.not_true,Bool.false_or,Bool.and_eq_false_iff,decide_eq_false_iff_not]
    rcases h.2 with h2|h2
    ·exact .inl (by omega)
    ·exact .inr (by omega)
   refine A6 ?_;refine⟨_,rfl,Γ1,hle1,H0 rfl ?_,X7 hw⟩
   rw[hokl,hall,hf];rfl
  have hf:XP g=true:=by
   have h:(J0 g&&(decide ((N:Int)<1)||decide (8<(N:Int))))=false:=h
   show (!J0 g||_)=true
   cases hi:J0 g with
   | false=>rfl
   | true=>
    rw[hi,Bool.true_and,Bool.or_eq_false_iff,decide_eq_false_iff_not,decide_eq_false_iff_not]at h;rw[decide_eq_true (by omega),decide_eq_true (by omega)];rfl
  clear h;rw[hf,Bool.true_and]at hall;refine A6 ?_;refine D3 (vs:=[.agg (cG ⟨g,A,N,C⟩).toArray]) ((o9 hgok hw).mono fun e w hq2=>?_)
  clear hw;obtain⟨Γ2,v,hle2,rfl,hrv,hw⟩:=hq2;obtain⟨oa,on,oc,rfl,hon,honc,hoc⟩:=hrv.shape;simp only[List.length_map]at hon
  have hol:=ED hgoal
  refine⟨_,rfl,?_⟩;refine A6 ?_;refine B5 (fun μ ρ w=>∃(j:Nat),μ+j=on∧Has ρ [(1,.pointer (some ⟨b1,0,none⟩)),(3,.map (some bm)),(38,.slice ga gn gc),(39,.int .i64 gn),(40,.int .i64 k),(59,.slice oa on oc),(60,.int .i64 on),(61,.int .i64 j)]∧Wd Γ2 [.blk b7 (.cells (cG ⟨g,A,N,C⟩).toArray 127),Dh bm (((q.Sel++(q.Goals.take k).flatMap fun g=>(J5 g).map (·.Var))++((J5 g).take j).map (·.Var)).foldl addN []),.blk b1 (.cells #[.slice sa sn sc,.slice ga gn gc] 26)] w) on ⟨0,by omega,⟨rfl,rfl,rfl,rfl,rfl,rfl,rfl,rfl,trivial⟩,by rw[List.take_zero,List.map_nil,List.append_nil];exact hw⟩ ?_
  clear hw;rintro μ2 ρ w ⟨j,hj,hρ,hw⟩
  rw[hρ.eq];clear hρ;refine A6 ?_;refine A7 rfl (fun h=>?_) (fun h=>?_)
  ·have hjn:j<on:=by have:=of_decide_eq_true h;omega
   clear h;obtain⟨o,ho⟩:=B4 (l:=J5 g) (k:=j) (by omega)
   refine A6 ?_;refine C0 ?_;intro b9 w hw;refine B1 ?_;intro w hw;have hw:Wd Γ2 [.blk b9 (.cells (enc o).toArray 125),.blk b7 (.cells (cG ⟨g,A,N,C⟩).toArray 127),Dh bm (((q.Sel++(q.Goals.take k).flatMap fun g=>(J5 g).map (·.Var))++((J5 g).take j).map (·.Var)).foldl addN []),.blk b1 (.cells #[.slice sa sn sc,.slice ga gn gc] 26)] w:=hw
   refine A6 ?_;refine F0 rfl rfl (l7 (f:=Value.bool) (v:=true) (i:=2) (l:=(((q.Sel++(q.Goals.take k).flatMap fun g=>(J5 g).map (·.Var))++((J5 g).take j).map (·.Var)).foldl addN []).map fun s=>(s,true)) hw rfl rfl rfl rfl fun w hw=>?_)
   rw[Hf]at hw;have hw:Wd Γ2 [.blk b9 (.cells (enc o).toArray 125),.blk b7 (.cells (cG ⟨g,A,N,C⟩).toArray 127),Dh bm (((q.Sel++(q.Goals.take k).flatMap fun g=>(J5 g).map (·.Var))++((J5 g).take (j+1)).map (·.Var)).foldl addN []),.blk b1 (.cells #[.slice sa sn sc,.slice ga gn gc] 26)] w:=by
    rw[List.take_add_one,ho,List.map_append,←List.append_assoc,List.foldl_append (l:=((q.Sel++(q.Goals.take k).flatMap fun g=>(J5 g).map (·.Var))++((J5 g).take j).map (·.Var)))];exact hw
   refine A6 ?_;exact⟨on-j-1,by omega,j+1,by omega,⟨rfl,rfl,rfl,rfl,rfl,rfl,rfl,rfl,trivial⟩,hw.drop⟩
  have hjn:on≤j:=by have:=of_decide_eq_false h;omega
  clear h;have ho2:(J5 g).take j=J5 g:=List.take_of_length_le (by omega)
  rw[ho2]at hw;have hw:Wd Γ2 [.blk b7 (.cells (cG ⟨g,A,N,C⟩).toArray 127),Dh bm ((q.Sel++(q.Goals.take (k+1)).flatMap fun g=>(J5 g).map (·.Var)).foldl addN []),.blk b1 (.cells #[.slice sa sn sc,.slice ga gn gc] 26)] w:=by
   rw[HM (F:=fun g=>(J5 g).map (·.Var)) hgx,←List.append_assoc];exact hw
  refine A6 ?_;exact⟨gn-k-1,by omega,Γ2,k+1,hle1.trans hle2,by omega,⟨rfl,rfl,rfl,rfl,rfl,trivial⟩,hall,hw.drop⟩
 have hkn:gn≤k:=by have:=of_decide_eq_false h;omega
 clear h;rw[G9 _ (by rw[hnl];omega)]at hall
 rw[List.take_of_length_le (by omega)]at hw
 have hw:Wd Γ1 [Dh bm ((JB q).foldl addN []),.blk b1 (.cells #[.slice sa sn sc,.slice ga gn gc] 26)] w:=hw
 have hnd:((JB q).foldl addN []).Nodup:=Kl List.nodup_nil
 refine A6 ?_;refine F0 rfl rfl (Sf (f:=Value.bool) (i:=0) (l:=((JB q).foldl addN []).map fun s=>(s,true)) (a:=F4) hw rfl rfl rfl fun w hw=>?_)
 rw[Wa hnd]at hw;have hw:Wd Γ1 [Dh bm (((JB q).foldl addN []).filter fun t=>decide (t≠F4)),.blk b1 (.cells #[.slice sa sn sc,.slice ga gn gc] 26)] w:=hw
 refine A6 ?_;refine F0 rfl rfl (Sf (f:=Value.bool) (i:=0) (l:=(((JB q).foldl addN []).filter fun t=>decide (t≠F4)).map fun s=>(s,true)) (a:=H2) hw rfl rfl rfl fun w hw=>?_)
 rw[Wa (hnd.filter _),VU]at hw;have hw:Wd Γ1 [Dh bm (AK q),.blk b1 (.cells #[.slice sa sn sc,.slice ga gn gc] 26)] w:=hw
 refine A6 ?_;refine A7 rfl (fun h=>?_) (fun h=>?_)
 ·have h:=of_decide_eq_true h
  rw[List.length_map]at h;refine A6 ?_;refine⟨_,rfl,Γ1,hle1,H0 rfl ?_,X7 hw⟩
  rw[hokl,decide_eq_false (by omega),Bool.and_false];rfl
 ·have h:=of_decide_eq_false h
  rw[List.length_map]at h;refine A6 ?_;refine⟨_,rfl,Γ1,hle1,H0 rfl ?_,X7 hw⟩
  rw[hokl,hall,decide_eq_true (by omega)];rfl
end Go.Proofs.YtlimglpjpcfpdaaGreat
end
section
open Go Mk
namespace Go.Proofs.YtlimglpjpcfpdaaGreat
set_option maxHeartbeats 16000000
attribute [local irreducible] Calls cI cB
def fO(g:H3):Bool:=P2 g&&(J5 g).all plainO
theorem LU{Γ:C8}{vs vg:Value}{gs:List N6}{q:G4}(hq0:QR Γ vs vg gs q)(hok:Z7 q):PG Tryz.prog Γ 103 [.agg #[vs,vg]] (.int .i64 (if w7 q=true then 0 else 50)):=DJ fun Γ w hle hw=>by
 have hq:=hq0.mono hle
 obtain⟨ga,gn,gc,rfl,hgn,hgnc,hgc⟩:=hq.goals.shape;obtain⟨sa,sn,sc,rfl,hsn,hsnc,hsc⟩:=hq.sel.shape;simp only[List.length_map]at hgn hsn
 have hgl:=hq.glen hok
 have hnl:=hq.nlen
 have hall0:w7 q=q.Goals.all fO:=rfl
 refine A9 Tryz.func103 rfl rfl ?_
 refine A6 ?_;refine H9 ?_;intro b1 w hw;have hw:Wd Γ [.blk b1 (.cells #[.slice sa sn sc,.slice ga gn gc] 26)] w:=hw
 refine A6 ?_;refine C0 ?_;intro b3 w hw;refine B1 ?_;intro w hw;have hw:Wd Γ [.blk b3 (.cells (enc AC).toArray 125),.blk b1 (.cells #[.slice sa sn sc,.slice ga gn gc] 26)] w:=hw
 refine A6 ?_;refine B5 (fun μ ρ w=>∃(Γ':C8) (k:Nat),Γ.le Γ'∧μ+k=gn∧Has ρ [(1,.pointer (some ⟨b1,0,none⟩)),(3,.pointer (some ⟨b3,0,none⟩)),(11,.slice ga gn gc),(12,.int .i64 gn),(13,.int .i64 k)]∧w7 q=(q.Goals.drop k).all fO∧Wd Γ' [.blk b3 (.cells (enc AC).toArray 125),.blk b1 (.cells #[.slice sa sn sc,.slice ga gn gc] 26)] w) gn ⟨Γ,0,C8.le.refl _,by omega,⟨rfl,rfl,rfl,rfl,rfl,trivial⟩,hall0,hw⟩ ?_
 clear hw;rintro μ ρ w ⟨Γ1,k,hle1,hk,hρ,hall,hw⟩
 rw[hρ.eq];clear hρ;have hq1:=hq.mono hle1
 have hrG1:=hq1.goals
 refine A6 ?_;refine A7 rfl (fun h=>?_) (fun h=>?_)
 ·have hkn:k<gn:=by have:=of_decide_eq_true h;omega
  clear h;obtain⟨x,hx⟩:=B4 (l:=gs) (k:=k) (by omega)
  have hxm:=List.mem_of_getElem? hx
  have hgoal:=hq.goal hok hxm
  have hgok:=hq1.ok x hxm
  have hgx:=hq.get hx
  rw[X3 hgx]at hall;obtain⟨l1,l2,l3⟩:=hgok.len;obtain⟨g,A,N,C⟩:=x;simp only at hall hgoal l1 l2 l3 hgx
  have hal:=hgoal.len
  refine A6 ?_;refine C0 ?_;intro b5 w hw;refine A6 ?_;refine B1 ?_;intro w hw;have hw:Wd Γ1 [.blk b5 (.cells (cG ⟨g,A,N,C⟩).toArray 127),.blk b3 (.cells (enc AC).toArray 125),.blk b1 (.cells #[.slice sa sn sc,.slice ga gn gc] 26)] w:=hw
  first|refine U9 ?_|(refine V5 ?_;intro w hw)
  first|refine U9 ?_|(refine V5 ?_;intro w hw)
  first|refine U9 ?_|(refine V5 ?_;intro w hw)
  first|refine U9 ?_|(refine V5 ?_;intro w hw)
  first|refine U9 ?_|(refine V5 ?_;intro w hw)
  refine BW (fun ρ w=>Has ρ [(1,.pointer (some ⟨b1,0,none⟩)),(3,.pointer (some ⟨b3,0,none⟩)),(5,.pointer (some ⟨b5,0,none⟩)),(6,.bool (P2 g)),(11,.slice ga gn gc),(12,.int .i64 gn),(13,.int .i64 k)]∧Wd Γ1 [.blk b5 (.cells (cG ⟨g,A,N,C⟩).toArray 127),.blk b3 (.cells (enc AC).toArray 125),.blk b1 (.cells #[.slice sa sn sc,.slice ga gn gc] 26)] w) ?_ ?_
  ·have k12:∀h12:g.Kind=1∨g.Kind=2,P2 g=(decide (g.Op=0)&&decide (g.L=AC)&&decide (g.R=AC)&&decide (g.Off=0)&&decide (g.Low=0)&&decide (g.High=0)):=fun h12=>by unfold P2;rw[if_pos h12]
   refine A6 ?_;refine A7 rfl (fun h=>?_) (fun h=>?_)
   ·have hk1:g.Kind=1:=of_decide_eq_true h
    refine A6 ?_;refine M7 (congrArg Value.bool h) ?_
    refine A6 ?_;refine lG ?_ (hv:=fun hc=>by exact Ge (a:=g.L) (b:=AC) B8 B8 rfl)
    refine A6 ?_;refine lG ?_ (hv:=fun hc=>by exact Ge (a:=g.R) (b:=AC) B8 B8 rfl)
    refine A6 ?_;refine⟨⟨rfl,rfl,rfl,?_,rfl,rfl,rfl,trivial⟩,hw⟩
    rw[k12 (.inl hk1)];rfl
   have hk1:¬g.Kind=1:=of_decide_eq_false h
   clear h;refine A6 ?_;refine A7 rfl (fun h=>?_) (fun h=>?_)
   ·have hk2:g.Kind=2:=of_decide_eq_true h
    refine A6 ?_;refine lG ?_ (hv:=fun hc=>by exact Ge (a:=g.L) (b:=AC) B8 B8 rfl)
    refine A6 ?_;refine lG ?_ (hv:=fun hc=>by exact Ge (a:=g.R) (b:=AC) B8 B8 rfl)
    refine A6 ?_;refine⟨⟨rfl,rfl,rfl,?_,rfl,rfl,rfl,trivial⟩,hw⟩
    rw[k12 (.inr hk2)];rfl
   have hk2:¬g.Kind=2:=of_decide_eq_false h
   clear h;refine A6 ?_;refine A7 rfl (fun h=>?_) (fun h=>?_)
   ·have hk3:g.Kind=3:=of_decide_eq_true h
    refine A6 ?_;refine⟨⟨rfl,rfl,rfl,?_,rfl,rfl,rfl,trivial⟩,hw⟩
    unfold P2;rw[if_neg (fun e=>e.elim hk1 hk2),if_pos hk3];have e:decide ((N:Int)=0)=decide (g.Args.length=0):=decide_eq_decide.2 (by omega)
    show Value.bool (decide (g.Rel=F4)&&decide ((N:Int)=0)&&decide (g.Low=0)&&decide (g.High=0))=_
    rw[e]
   have hk3:¬g.Kind=3:=of_decide_eq_false h
   clear h;refine A6 ?_;refine A7 rfl (fun h=>?_) (fun h=>?_)
   ·have hk4:g.Kind=4:=of_decide_eq_true h
    refine A6 ?_;refine lG ?_ (hv:=fun hc=>by exact Ge (a:=g.R) (b:=AC) B8 B8 rfl)
    refine A6 ?_;refine⟨⟨rfl,rfl,rfl,?_,rfl,rfl,rfl,trivial⟩,hw⟩
    unfold P2;rw[if_neg (fun e=>e.elim hk1 hk2),if_neg hk3,if_pos hk4];have e:decide ((N:Int)=0)=decide (g.Args.length=0):=decide_eq_decide.2 (by omega)
    show Value.bool (decide (g.Rel=F4)&&decide ((N:Int)=0)&&decide (g.Op=0)&&decide (g.R=AC)&&decide (g.Off=0)&&decide (g.L.Var≠F4))=_
    rw[e]
   have hk4:¬g.Kind=4:=of_decide_eq_false h
   refine A6 ?_;refine⟨⟨rfl,rfl,rfl,?_,rfl,rfl,rfl,trivial⟩,hw⟩
   unfold P2;rw[if_neg (fun e=>e.elim hk1 hk2),if_neg hk3,if_neg hk4];rfl
  clear hw;rintro ρ w ⟨hρ,hw⟩
  rw[hρ.eq];clear hρ;refine A6 ?_;refine D3 (vs:=[.agg (cG ⟨g,A,N,C⟩).toArray]) ((o9 hgok hw).mono fun e w hq2=>?_)
  clear hw;obtain⟨Γ2,v,hle2,rfl,hrv,hw⟩:=hq2;obtain⟨oa,on,oc,rfl,hon,honc,hoc⟩:=hrv.shape;simp only[List.length_map]at hon
  have hol:=ED hgoal
  refine⟨_,rfl,?_⟩;refine A6 ?_;refine B5 (fun μ ρ w=>∃(j:Nat) (t:Bool),μ+j=on∧Has ρ [(1,.pointer (some ⟨b1,0,none⟩)),(3,.pointer (some ⟨b3,0,none⟩)),(6,.bool t),(11,.slice ga gn gc),(12,.int .i64 gn),(13,.int .i64 k),(107,.slice oa on oc),(108,.int .i64 on),(109,.int .i64 j)]∧fO g=(t&&((J5 g).drop j).all plainO)∧Wd Γ2 [.blk b5 (.cells (cG ⟨g,A,N,C⟩).toArray 127),.blk b3 (.cells (enc AC).toArray 125),.blk b1 (.cells #[.slice sa sn sc,.slice ga gn gc] 26)] w) on ⟨0,P2 g,by omega,⟨rfl,rfl,rfl,rfl,rfl,rfl,rfl,rfl,rfl,trivial⟩,rfl,hw⟩ ?_
  clear hw;rintro μ2 ρ w ⟨j,t,hj,hρ,hsh,hw⟩
  rw[hρ.eq];clear hρ;refine A6 ?_;refine A7 rfl (fun h=>?_) (fun h=>?_)
  ·have hjn:j<on:=by have:=of_decide_eq_true h;omega
   clear h;obtain⟨o,ho⟩:=B4 (l:=J5 g) (k:=j) (by omega)
   rw[X3 ho,←Bool.and_assoc]at hsh;refine A6 ?_;refine C0 ?_;intro b9 w hw;refine B1 ?_;intro w hw;have hw:Wd Γ2 (.blk b9 (.cells (enc o).toArray 125)::[.blk b5 (.cells (cG ⟨g,A,N,C⟩).toArray 127),.blk b3 (.cells (enc AC).toArray 125),.blk b1 (.cells #[.slice sa sn sc,.slice ga gn gc] 26)]) w:=hw
   refine A6 ?_;refine lG ?_ (hv:=fun hc=>by exact Ge (a:=o.Const) (b:=O4) B8 B8 rfl)
   refine A6 ?_;exact⟨on-j-1,by omega,j+1,(t&&plainO o),by omega,⟨rfl,rfl,rfl,rfl,rfl,rfl,rfl,rfl,rfl,trivial⟩,hsh,hw.drop⟩
  have hjn:on≤j:=by have:=of_decide_eq_false h;omega
  clear h;rw[G9 (J5 g) (by omega),List.all_nil,Bool.and_true]at hsh
  subst hsh;refine A6 ?_;refine A7 rfl (fun h=>?_) (fun h=>?_)
  ·have hf:fO g=false:=by simpa using h
   refine A6 ?_;refine⟨_,rfl,Γ2,hle1.trans hle2,H0 rfl ?_,X7 hw⟩
   rw[hall,hf];rfl
  ·have hf:fO g=true:=by simpa using h
   rw[hf,Bool.true_and]at hall;refine A6 ?_;exact⟨gn-k-1,by omega,Γ2,k+1,hle1.trans hle2,by omega,⟨rfl,rfl,rfl,rfl,rfl,trivial⟩,hall,hw.drop⟩
 have hkn:gn≤k:=by have:=of_decide_eq_false h;omega
 rw[G9 _ (by rw[hnl];omega)]at hall
 refine A6 ?_;refine⟨_,rfl,Γ1,hle1,H0 rfl ?_,X7 hw⟩
 rw[hall];rfl
end Go.Proofs.YtlimglpjpcfpdaaGreat
end
section
open Go Mk
namespace Go.Proofs.YtlimglpjpcfpdaaGreat
set_option maxHeartbeats 16000000
attribute [local irreducible] Calls cI cB
theorem LL{Γ:C8}{vs vg:Value}{gs:List N6}{q:G4}(hq0:QR Γ vs vg gs q)(hok:Z7 q):PG Tryz.prog Γ 104 [.agg #[vs,vg]] (.int .i64 (if U6 q=true then 0 else 63)):=DJ fun Γ w hle hw=>by
 have hq:=hq0.mono hle
 obtain⟨ga,gn,gc,rfl,hgn,hgnc,hgc⟩:=hq.goals.shape;obtain⟨sa,sn,sc,rfl,hsn,hsnc,hsc⟩:=hq.sel.shape;simp only[List.length_map]at hgn hsn
 have hgl:=hq.glen hok
 have hsl:=hok.sel
 have hnl:=hq.nlen
 have hrS:=hq.sel
 refine A9 Tryz.func104 rfl rfl ?_
 refine A6 ?_;refine H9 ?_;intro b1 w hw;have hw:Wd Γ [.blk b1 (.cells #[.slice sa sn sc,.slice ga gn gc] 26)] w:=hw
 refine A6 ?_;refine B5 (fun μ ρ w=>∃(k:Nat),μ+k=sn∧Has ρ [(1,.pointer (some ⟨b1,0,none⟩)),(10,.slice sa sn sc),(11,.int .i64 sn),(12,.int .i64 k)]∧q.Sel.all Z0=(q.Sel.drop k).all Z0∧Wd Γ [.blk b1 (.cells #[.slice sa sn sc,.slice ga gn gc] 26)] w) sn ⟨0,by omega,⟨rfl,rfl,rfl,rfl,trivial⟩,rfl,hw⟩ ?_
 clear hw;rintro μ ρ w ⟨k,hk,hρ,hall,hw⟩
 rw[hρ.eq];clear hρ;refine A6 ?_;refine A7 rfl (fun h=>?_) (fun h=>?_)
 ·have hkn:k<sn:=by have:=of_decide_eq_true h;omega
  clear h;obtain⟨s,hs⟩:=B4 (l:=q.Sel) (k:=k) (by omega)
  rw[X3 hs]at hall;have p1:=Ff (hok.names s (List.mem_of_getElem? hs))
  refine A6 ?_;refine A7 rfl (fun h=>?_) (fun h=>?_)
  ·have hf:Z0 s=false:=by simpa using h
   refine A6 ?_;refine⟨_,rfl,Γ,C8.le.refl _,H0 rfl ?_,X7 hw⟩
   unfold U6;rw[hall,hf];rfl
  ·have hf:Z0 s=true:=by simpa using h
   rw[hf,Bool.true_and]at hall;refine A6 ?_;exact⟨μ-1,by omega,k+1,by omega,⟨rfl,rfl,rfl,rfl,trivial⟩,hall,hw⟩
 have hkn:sn≤k:=by have:=of_decide_eq_false h;omega
 clear h;rw[G9 q.Sel (by omega)]at hall
 have hall0:U6 q=q.Goals.all Dn:=by unfold U6;rw[hall];rfl
 clear hall hkn hk;refine A6 ?_;refine B5 (fun μ ρ w=>∃(Γ':C8) (k:Nat),Γ.le Γ'∧μ+k=gn∧Has ρ [(1,.pointer (some ⟨b1,0,none⟩)),(21,.slice ga gn gc),(22,.int .i64 gn),(23,.int .i64 k)]∧U6 q=(q.Goals.drop k).all Dn∧Wd Γ' [.blk b1 (.cells #[.slice sa sn sc,.slice ga gn gc] 26)] w) gn ⟨Γ,0,C8.le.refl _,by omega,⟨rfl,rfl,rfl,rfl,trivial⟩,hall0,hw⟩ ?_
 clear hw;rintro μ ρ w ⟨Γ1,k,hle1,hk,hρ,hall,hw⟩
 rw[hρ.eq];clear hρ;have hq1:=hq.mono hle1
 have hrG1:=hq1.goals
 refine A6 ?_;refine A7 rfl (fun h=>?_) (fun h=>?_)
 ·have hkn:k<gn:=by have:=of_decide_eq_true h;omega
  clear h;obtain⟨x,hx⟩:=B4 (l:=gs) (k:=k) (by omega)
  have hxm:=List.mem_of_getElem? hx
  have hgoal:=hq.goal hok hxm
  have hgok:=hq1.ok x hxm
  have hgx:=hq.get hx
  rw[X3 hgx]at hall;obtain⟨l1,l2,l3⟩:=hgok.len;obtain⟨g,A,N,C⟩:=x;simp only at hall hgoal l1 l2 l3 hgx
  have hal:=hgoal.len
  haveI:=dJ hgoal.rel
  refine A6 ?_;refine C0 ?_;intro b6 w hw;refine A6 ?_;refine B1 ?_;intro w hw;have hw:Wd Γ1 [.blk b6 (.cells (cG ⟨g,A,N,C⟩).toArray 127),.blk b1 (.cells #[.slice sa sn sc,.slice ga gn gc] 26)] w:=hw
  repeat first|refine U9 ?_|refine V5 ?_;intro w hw
  refine A7 rfl (fun h=>?_) (fun h=>?_)
  ·have hf:Dn g=false:=by
    have h:(J0 g&&(!G7 g.Rel||KM g.Rel))=true:=h
    unfold Dn;rw[h];rfl
   refine A6 ?_;refine⟨_,rfl,Γ1,hle1,H0 rfl ?_,X7 hw⟩
   rw[hall,hf];rfl
  have hnG:Dn g=(J5 g).all (GO g):=by
   have h:(J0 g&&(!G7 g.Rel||KM g.Rel))=false:=h
   unfold Dn;rw[h];rfl
  clear h;refine A6 ?_;refine D3 (vs:=[.agg (cG ⟨g,A,N,C⟩).toArray]) ((o9 hgok hw).mono fun e w hq2=>?_)
  clear hw;obtain⟨Γ2,v,hle2,rfl,hrv,hw⟩:=hq2;obtain⟨oa,on,oc,rfl,hon,honc,hoc⟩:=hrv.shape;simp only[List.length_map]at hon
  have hol:=ED hgoal
  refine⟨_,rfl,?_⟩;refine A6 ?_;refine B5 (fun μ ρ w=>∃(j:Nat),μ+j=on∧Has ρ [(1,.pointer (some ⟨b1,0,none⟩)),(6,.pointer (some ⟨b6,0,none⟩)),(21,.slice ga gn gc),(22,.int .i64 gn),(23,.int .i64 k),(41,.slice oa on oc),(42,.int .i64 on),(43,.int .i64 j)]∧Dn g=((J5 g).drop j).all (GO g)∧Wd Γ2 [.blk b6 (.cells (cG ⟨g,A,N,C⟩).toArray 127),.blk b1 (.cells #[.slice sa sn sc,.slice ga gn gc] 26)] w) on ⟨0,by omega,⟨rfl,rfl,rfl,rfl,rfl,rfl,rfl,rfl,trivial⟩,hnG,hw⟩ ?_
  clear hw;rintro μ2 ρ w ⟨j,hj,hρ,hsh,hw⟩
  rw[hρ.eq];clear hρ;refine A6 ?_;refine A7 rfl (fun h=>?_) (fun h=>?_)
  ·have hjn:j<on:=by have:=of_decide_eq_true h;omega
   clear h;obtain⟨o,ho⟩:=B4 (l:=J5 g) (k:=j) (by omega)
   obtain⟨hov,hoc2⟩:=bM hgoal o (List.mem_of_getElem? ho)
   have p1:=Ff hov
   have p2:=Fa (Γ:=Γ2) hoc2
   rw[X3 ho]at hsh;have hno:GO g o=(!(decide (o.Var=F4) && !M1 o.Const) && !(decide (o.Var=H2) && !J0 g) && !(decide (o.Var≠F4)&&decide (o.Var≠H2) && !Z0 o.Var)):=rfl
   refine A6 ?_;refine C0 ?_;intro b8 w hw;refine B1 ?_;intro w hw;have hw:Wd Γ2 [.blk b8 (.cells (enc o).toArray 125),.blk b6 (.cells (cG ⟨g,A,N,C⟩).toArray 127),.blk b1 (.cells #[.slice sa sn sc,.slice ga gn gc] 26)] w:=hw
   have fin:GO g o=false→U6 q=false:=fun hf=>by rw[hall,hsh,hf];rfl
   refine A6 ?_;refine VS (hp:=p2) ?_
   intro w hw;refine A6 ?_;refine A7 rfl (fun h=>?_) (fun h=>?_)
   ·refine A6 ?_;refine M7 (congrArg Value.bool h) ?_
    have h:(decide (o.Var=F4) && !M1 o.Const)=true:=h
    refine A6 ?_;refine⟨_,rfl,Γ2,hle1.trans hle2,H0 rfl ?_,X7 hw⟩
    rw[fin (by rw[hno,h];rfl)];rfl
   have h1:(decide (o.Var=F4) && !M1 o.Const)=false:=h
   clear h;repeat first|refine U9 ?_|refine V5 ?_;intro w hw
   refine A7 rfl (fun h=>?_) (fun h=>?_)
   ·refine A6 ?_;refine M7 (congrArg Value.bool h) ?_
    have h:(decide (o.Var=H2) && !J0 g)=true:=h
    refine A6 ?_;refine⟨_,rfl,Γ2,hle1.trans hle2,H0 rfl ?_,X7 hw⟩
    rw[fin (by rw[hno,h,Bool.not_true,Bool.and_false];rfl)];rfl
   have h2:(decide (o.Var=H2) && !J0 g)=false:=h
   clear h;refine A6 ?_;refine A7 rfl (fun h=>?_) (fun h=>?_)
   ·have h:(decide (o.Var≠F4)&&decide (o.Var≠H2) && !Z0 o.Var)=true:=h
    refine A6 ?_;refine⟨_,rfl,Γ2,hle1.trans hle2,H0 rfl ?_,X7 hw⟩
    rw[fin (by rw[hno,h,Bool.not_true,Bool.and_false])];rfl
   ·have h:(decide (o.Var≠F4)&&decide (o.Var≠H2) && !Z0 o.Var)=false:=h
    have hf:GO g o=true:=by rw[hno,h1,h2,h];rfl
    rw[hf,Bool.true_and]at hsh;refine A6 ?_;exact⟨on-j-1,by omega,j+1,by omega,⟨rfl,rfl,rfl,rfl,rfl,rfl,rfl,rfl,trivial⟩,hsh,hw.drop⟩
  have hjn:on≤j:=by have:=of_decide_eq_false h;omega
  clear h;rw[G9 (J5 g) (by omega)]at hsh
  have hsh:Dn g=true:=hsh
  rw[hsh,Bool.true_and]at hall;refine A6 ?_;exact⟨gn-k-1,by omega,Γ2,k+1,hle1.trans hle2,by omega,⟨rfl,rfl,rfl,rfl,trivial⟩,hall,hw.drop⟩
 have hkn:gn≤k:=by have:=of_decide_eq_false h;omega
 rw[G9 _ (by rw[hnl];omega)]at hall
 refine A6 ?_;refine⟨_,rfl,Γ1,hle1,H0 rfl ?_,X7 hw⟩
 rw[hall];rfl
def Kx(g:H3):List ByteArray:=if g.Kind=1∨g.Kind=4 then (J5 g).map (·.Var) else []
def BQ(q:G4):List ByteArray:=(Rc q).foldl addN [F4,H2]
theorem Ud{q:G4}:Ay q=(JB q).all (BV (BQ q)):=by
 rw[Bool.eq_iff_iff];unfold Ay;rw[List.all_eq_true,List.all_eq_true];have key:∀s,BV (BQ q) s=true↔s=F4∨s=H2∨s∈Rc q:=fun s=>by
  rw[y9];unfold BQ;rw[HT];simp[or_assoc]
 have hmem:∀s,s∈AK q↔s∈JB q∧s≠F4∧s≠H2:=fun s=>by
  unfold AK;rw[HT];unfold cM;simp[List.mem_filter]
 constructor
 ·intro h s hs;rw[key];by_cases h1:s=F4
  ·exact .inl h1
  by_cases h2:s=H2
  ·exact .inr (.inl h2)
  exact .inr (.inr (y9.1 (h s ((hmem s).2 ⟨hs,h1,h2⟩))))
 ·intro h s hs;obtain⟨h1,h2,h3⟩:=(hmem s).1 hs
  have:=(key s).1 (h s h1)
  exact y9.2 ((this.resolve_left h2).resolve_left h3)
def Vm(q:G4)(g:H3):Bool:=(J5 g).all fun o=>BV (BQ q) o.Var
theorem Rn{q:G4}:Ay q=(q.Sel.all (BV (BQ q))&&q.Goals.all (Vm q)):=by
 rw[Ud];unfold JB;rw[List.all_append,List.all_flatMap];congr 2
 funext g
 rw[List.all_map];rfl
def Ri(q:G4):Int:=if ¬q.Sel.Nodup then 56 else if Ay q=false then 62 else 0
theorem HK{Γ:C8}{vs vg:Value}{gs:List N6}{q:G4}(hq0:QR Γ vs vg gs q)(hok:Z7 q):PG Tryz.prog Γ 106 [.agg #[vs,vg]] (.int .i64 (Ri q)):=DJ fun Γ w hle hw=>by
 have hq:=hq0.mono hle
 obtain⟨ga,gn,gc,rfl,hgn,hgnc,hgc⟩:=hq.goals.shape;obtain⟨sa,sn,sc,rfl,hsn,hsnc,hsc⟩:=hq.sel.shape;simp only[List.length_map]at hgn hsn
 have hgl:=hq.glen hok
 have hsl:=hok.sel
 have hnl:=hq.nlen
 have hrS:=hq.sel
 refine A9 Tryz.func106 rfl rfl ?_
 refine A6 ?_;refine H9 ?_;intro b1 w hw;have hw:Wd Γ [.blk b1 (.cells #[.slice sa sn sc,.slice ga gn gc] 26)] w:=hw
 refine A6 ?_;refine F0 rfl rfl (J1 (K:=9) (α:=ByteArray) (f:=Value.bool) hw fun bm w hw=>?_)
 have hw:Wd Γ [Dh bm [],.blk b1 (.cells #[.slice sa sn sc,.slice ga gn gc] 26)] w:=hw
 refine A6 ?_;refine F0 rfl rfl (Ox (l7 (f:=Value.bool) (v:=true) (i:=0) (l:=([]:List ByteArray).map fun s=>(s,true)) (a:=F4) hw rfl rfl rfl rfl fun w hw=>?_))
 rw[Hf]at hw;have hw:Wd Γ [Dh bm [F4],.blk b1 (.cells #[.slice sa sn sc,.slice ga gn gc] 26)] w:=hw
 refine F0 rfl rfl (Ox (l7 (f:=Value.bool) (v:=true) (i:=0) (l:=[F4].map fun s=>(s,true)) (a:=H2) hw rfl rfl rfl rfl fun w hw=>?_))
 rw[Hf]at hw;have hw:Wd Γ [Dh bm [F4,H2],.blk b1 (.cells #[.slice sa sn sc,.slice ga gn gc] 26)] w:=hw
 refine A6 ?_;refine B5 (fun μ ρ w=>∃(Γ':C8) (k:Nat),Γ.le Γ'∧μ+k=gn∧Has ρ [(1,.pointer (some ⟨b1,0,none⟩)),(3,.map (some bm)),(20,.slice ga gn gc),(21,.int .i64 gn),(22,.int .i64 k)]∧Wd Γ' [Dh bm (((q.Goals.take k).flatMap Kx).foldl addN [F4,H2]),.blk b1 (.cells #[.slice sa sn sc,.slice ga gn gc] 26)] w) gn ⟨Γ,0,C8.le.refl _,by omega,⟨rfl,rfl,rfl,rfl,rfl,trivial⟩,hw⟩ ?_
 clear hw;rintro μ ρ w ⟨Γ1,k,hle1,hk,hρ,hw⟩
 rw[hρ.eq];clear hρ;have hq1:=hq.mono hle1
 have hrG1:=hq1.goals
 have hrS1:=hq1.sel
 refine A6 ?_;refine A7 rfl (fun h=>?_) (fun h=>?_)
 ·have hkn:k<gn:=by have:=of_decide_eq_true h;omega
  clear h;obtain⟨x,hx⟩:=B4 (l:=gs) (k:=k) (by omega)
  have hxm:=List.mem_of_getElem? hx
  have hgoal:=hq.goal hok hxm
  have hgok:=hq1.ok x hxm
  have hgx:=hq.get hx
  have hsu:=HM (F:=Kx) hgx
  obtain⟨l1,l2,l3⟩:=hgok.len;obtain⟨g,A,N,C⟩:=x;simp only at hgoal l1 l2 l3 hgx hsu
  have hal:=hgoal.len
  refine A6 ?_;refine C0 ?_;intro b5 w hw;refine A6 ?_;refine B1 ?_;intro w hw;have hw:Wd Γ1 [.blk b5 (.cells (cG ⟨g,A,N,C⟩).toArray 127),Dh bm (((q.Goals.take k).flatMap Kx).foldl addN [F4,H2]),.blk b1 (.cells #[.slice sa sn sc,.slice ga gn gc] 26)] w:=hw
  refine A6 ?_;refine A7 rfl (fun h=>?_) (fun h=>?_)
  ·have hkd:g.Kind=1∨g.Kind=4:=by
    have h:(decide (g.Kind=1)||decide (g.Kind=4))=true:=h
    simpa using h
   clear h;have hb:Kx g=(J5 g).map (·.Var):=if_pos hkd
   refine A6 ?_;refine D3 (vs:=[.agg (cG ⟨g,A,N,C⟩).toArray]) ((o9 hgok hw).mono fun e w hq2=>?_)
   clear hw;obtain⟨Γ2,v,hle2,rfl,hrv,hw⟩:=hq2;obtain⟨oa,on,oc,rfl,hon,honc,hoc⟩:=hrv.shape;simp only[List.length_map]at hon
   have hol:=ED hgoal
   refine⟨_,rfl,?_⟩;refine A6 ?_;refine B5 (fun μ ρ w=>∃(j:Nat),μ+j=on∧Has ρ [(1,.pointer (some ⟨b1,0,none⟩)),(3,.map (some bm)),(20,.slice ga gn gc),(21,.int .i64 gn),(22,.int .i64 k),(35,.slice oa on oc),(36,.int .i64 on),(37,.int .i64 j)]∧Wd Γ2 [.blk b5 (.cells (cG ⟨g,A,N,C⟩).toArray 127),Dh bm (((q.Goals.take k).flatMap Kx++((J5 g).take j).map (·.Var)).foldl addN [F4,H2]),.blk b1 (.cells #[.slice sa sn sc,.slice ga gn gc] 26)] w) on ⟨0,by omega,⟨rfl,rfl,rfl,rfl,rfl,rfl,rfl,rfl,trivial⟩,by rw[List.take_zero,List.map_nil,List.append_nil];exact hw⟩ ?_
   clear hw;rintro μ2 ρ w ⟨j,hj,hρ,hw⟩
   rw[hρ.eq];clear hρ;refine A6 ?_;refine A7 rfl (fun h=>?_) (fun h=>?_)
   ·have hjn:j<on:=by have:=of_decide_eq_true h;omega
    clear h;obtain⟨o,ho⟩:=B4 (l:=J5 g) (k:=j) (by omega)
    refine A6 ?_;refine C0 ?_;intro b7 w hw;refine B1 ?_;intro w hw;have hw:Wd Γ2 [.blk b7 (.cells (enc o).toArray 125),.blk b5 (.cells (cG ⟨g,A,N,C⟩).toArray 127),Dh bm (((q.Goals.take k).flatMap Kx++((J5 g).take j).map (·.Var)).foldl addN [F4,H2]),.blk b1 (.cells #[.slice sa sn sc,.slice ga gn gc] 26)] w:=hw
    refine A6 ?_;refine F0 rfl rfl (l7 (f:=Value.bool) (v:=true) (i:=2) (l:=(((q.Goals.take k).flatMap Kx++((J5 g).take j).map (·.Var)).foldl addN [F4,H2]).map fun s=>(s,true)) hw rfl rfl rfl rfl fun w hw=>?_)
    rw[Hf]at hw;have hw:Wd Γ2 [.blk b7 (.cells (enc o).toArray 125),.blk b5 (.cells (cG ⟨g,A,N,C⟩).toArray 127),Dh bm (((q.Goals.take k).flatMap Kx++((J5 g).take (j+1)).map (·.Var)).foldl addN [F4,H2]),.blk b1 (.cells #[.slice sa sn sc,.slice ga gn gc] 26)] w:=by
     rw[List.take_add_one,ho,List.map_append,←List.append_assoc,List.foldl_append (l:=(q.Goals.take k).flatMap Kx++((J5 g).take j).map (·.Var))];exact hw
    refine A6 ?_;exact⟨on-j-1,by omega,j+1,by omega,⟨rfl,rfl,rfl,rfl,rfl,rfl,rfl,rfl,trivial⟩,hw.drop⟩
   have hjn:on≤j:=by have:=of_decide_eq_false h;omega
   clear h;have ho2:(J5 g).take j=J5 g:=List.take_of_length_le (by omega)
   rw[ho2,←hb,←hsu]at hw;refine A6 ?_;exact⟨gn-k-1,by omega,Γ2,k+1,hle1.trans hle2,by omega,⟨rfl,rfl,rfl,rfl,rfl,trivial⟩,hw.drop⟩
  have hkd:¬(g.Kind=1∨g.Kind=4):=by
   have h:(decide (g.Kind=1)||decide (g.Kind=4))=false:=h
   simpa using h
  clear h;have hb:Kx g=[]:=if_neg hkd
  rw[hb,List.append_nil]at hsu;rw[←hsu]at hw;refine A6 ?_;exact⟨gn-k-1,by omega,Γ1,k+1,hle1,by omega,⟨rfl,rfl,rfl,rfl,rfl,trivial⟩,hw.drop⟩
 have hkn:gn≤k:=by have:=of_decide_eq_false h;omega
 clear h;rw[List.take_of_length_le (by omega)]at hw
 have hw:Wd Γ1 [Dh bm (BQ q),.blk b1 (.cells #[.slice sa sn sc,.slice ga gn gc] 26)] w:=hw
 clear hkn hk;refine A6 ?_;refine F0 rfl rfl (J1 (K:=9) (α:=ByteArray) (f:=Value.bool) hw fun bm2 w hw=>?_)
 have hw:Wd Γ1 [Dh bm2 [],Dh bm (BQ q),.blk b1 (.cells #[.slice sa sn sc,.slice ga gn gc] 26)] w:=hw
 refine A6 ?_;refine B5 (fun μ ρ w=>∃(k:Nat),μ+k=sn∧Has ρ [(1,.pointer (some ⟨b1,0,none⟩)),(3,.map (some bm)),(8,.map (some bm2)),(48,.slice sa sn sc),(49,.int .i64 sn),(50,.int .i64 k)]∧(q.Sel.take k).Nodup∧Wd Γ1 [Dh bm2 ((q.Sel.take k).foldl addN []),Dh bm (BQ q),.blk b1 (.cells #[.slice sa sn sc,.slice ga gn gc] 26)] w) sn ⟨0,by omega,⟨rfl,rfl,rfl,rfl,rfl,rfl,trivial⟩,List.nodup_nil,hw⟩ ?_
 clear hw;rintro μ ρ w ⟨k,hk,hρ,hnd,hw⟩
 rw[hρ.eq];clear hρ;refine A6 ?_;refine A7 rfl (fun h=>?_) (fun h=>?_)
 ·have hkn:k<sn:=by have:=of_decide_eq_true h;omega
  clear h;obtain⟨s,hs⟩:=B4 (l:=q.Sel) (k:=k) (by omega)
  have hmem:BV ((q.Sel.take k).foldl addN []) s=true↔s∈q.Sel.take k:=by
   rw[y9,HT];simp
  refine A6 ?_;refine A7 rfl (fun h=>?_) (fun h=>?_)
  ·have h:((F1 (((q.Sel.take k).foldl addN []).map fun s=>(s,true)) s).getD default)=true:=h
   rw[IG,hmem]at h;have hf:¬q.Sel.Nodup:=fun hn=>by
    obtain⟨i,hi⟩:=List.getElem?_of_mem h
    have hik:i<k:=by have:=(List.getElem?_eq_some_iff.1 hi).1;rw[List.length_take]at this;omega
    rw[List.getElem?_take,if_pos hik]at hi;have:=(List.getElem?_inj (by omega) hn).1 (hi.trans hs.symm)
    omega
   refine A6 ?_;refine⟨_,rfl,Γ1,hle1,H0 rfl ?_,X7 hw⟩
   unfold Ri;rw[if_pos hf]
  ·have h:((F1 (((q.Sel.take k).foldl addN []).map fun s=>(s,true)) s).getD default)=false:=h
   rw[IG]at h;have hnm:s∉q.Sel.take k:=fun hm=>by rw[hmem.2 hm]at h;cases h
   refine A6 ?_;refine F0 rfl rfl (l7 (f:=Value.bool) (v:=true) (i:=0) (l:=((q.Sel.take k).foldl addN []).map fun s=>(s,true)) hw rfl rfl rfl rfl fun w hw=>?_)
   rw[Hf]at hw;have hw:Wd Γ1 [Dh bm2 ((q.Sel.take (k+1)).foldl addN []),Dh bm (BQ q),.blk b1 (.cells #[.slice sa sn sc,.slice ga gn gc] 26)] w:=by
    rw[List.take_add_one,hs,List.foldl_append];exact hw
   refine A6 ?_;refine⟨sn-k-1,by omega,k+1,by omega,⟨rfl,rfl,rfl,rfl,rfl,rfl,trivial⟩,?_,hw⟩
   rw[List.take_add_one,hs,List.nodup_append];exact⟨hnd,by simp,fun a ha b hb e=>by
    have hb:b=s:=by simpa using hb
    exact hnm (by rw[←hb,←e];exact ha)⟩
 have hkn:sn≤k:=by have:=of_decide_eq_false h;omega
 clear h;rw[List.take_of_length_le (by omega)]at hnd
 have hv:Ri q=if Ay q=false then 62 else 0:=by
  unfold Ri;rw[if_neg (fun h=>h hnd)]
 rw[Rn]at hv;clear hkn hk;refine A6 ?_;obtain⟨KK,hKK⟩:∃KK,KK=(q.Sel.take k).foldl addN []:=⟨_,rfl⟩
 rw[←hKK]at hw;clear hKK;refine B5 (fun μ ρ w=>∃(k:Nat),μ+k=sn∧Has ρ [(1,.pointer (some ⟨b1,0,none⟩)),(3,.map (some bm)),(61,.slice sa sn sc),(62,.int .i64 sn),(63,.int .i64 k)]∧q.Sel.all (BV (BQ q))=(q.Sel.drop k).all (BV (BQ q))∧Wd Γ1 [Dh bm2 KK,Dh bm (BQ q),.blk b1 (.cells #[.slice sa sn sc,.slice ga gn gc] 26)] w) sn ⟨0,by omega,⟨rfl,rfl,rfl,rfl,rfl,trivial⟩,rfl,hw⟩ ?_
 clear hw;rintro μ ρ w ⟨k,hk,hρ,hall,hw⟩
 rw[hρ.eq];clear hρ;refine A6 ?_;refine A7 rfl (fun h=>?_) (fun h=>?_)
 ·have hkn:k<sn:=by have:=of_decide_eq_true h;omega
  clear h;obtain⟨s,hs⟩:=B4 (l:=q.Sel) (k:=k) (by omega)
  rw[X3 hs]at hall;refine A6 ?_;refine A7 rfl (fun h=>?_) (fun h=>?_)
  ·have h:(!((F1 ((BQ q).map fun s=>(s,true)) s).getD default))=true:=h
   rw[IG]at h;have hf:BV (BQ q) s=false:=by simpa using h
   refine A6 ?_;refine⟨_,rfl,Γ1,hle1,H0 rfl ?_,X7 hw⟩
   rw[hv,hall,hf];rfl
  ·have h:(!((F1 ((BQ q).map fun s=>(s,true)) s).getD default))=false:=h
   rw[IG]at h;have hf:BV (BQ q) s=true:=by simpa using h
   rw[hf,Bool.true_and]at hall;refine A6 ?_;exact⟨sn-k-1,by omega,k+1,by omega,⟨rfl,rfl,rfl,rfl,rfl,trivial⟩,hall,hw⟩
 have hkn:sn≤k:=by have:=of_decide_eq_false h;omega
 clear h;rw[G9 q.Sel (by omega)]at hall
 have hv:Ri q=if q.Goals.all (Vm q)=false then 62 else 0:=by
  rw[hv,hall];rfl
 clear hkn hk hall;refine A6 ?_;refine B5 (fun μ ρ w=>∃(Γ':C8) (k:Nat),Γ1.le Γ'∧μ+k=gn∧Has ρ [(1,.pointer (some ⟨b1,0,none⟩)),(3,.map (some bm)),(73,.slice ga gn gc),(74,.int .i64 gn),(75,.int .i64 k)]∧q.Goals.all (Vm q)=(q.Goals.drop k).all (Vm q)∧Wd Γ' [Dh bm2 KK,Dh bm (BQ q),.blk b1 (.cells #[.slice sa sn sc,.slice ga gn gc] 26)] w) gn ⟨Γ1,0,C8.le.refl _,by omega,⟨rfl,rfl,rfl,rfl,rfl,trivial⟩,rfl,hw⟩ ?_
 clear hw;rintro μ ρ w ⟨Γ2,k,hle2,hk,hρ,hall,hw⟩
 rw[hρ.eq];clear hρ;have hq2:=hq1.mono hle2
 have hrG2:=hq2.goals
 refine A6 ?_;refine A7 rfl (fun h=>?_) (fun h=>?_)
 ·have hkn:k<gn:=by have:=of_decide_eq_true h;omega
  clear h;obtain⟨x,hx⟩:=B4 (l:=gs) (k:=k) (by omega)
  have hxm:=List.mem_of_getElem? hx
  have hgoal:=hq.goal hok hxm
  have hgok:=hq2.ok x hxm
  have hgx:=hq.get hx
  rw[X3 hgx]at hall;obtain⟨l1,l2,l3⟩:=hgok.len;obtain⟨g,A,N,C⟩:=x;simp only at hgoal l1 l2 l3 hgx hall
  have hal:=hgoal.len
  refine A6 ?_;refine C0 ?_;intro b14 w hw;refine A6 ?_;refine B1 ?_;intro w hw;have hw:Wd Γ2 (.blk b14 (.cells (cG ⟨g,A,N,C⟩).toArray 127)::[Dh bm2 KK,Dh bm (BQ q),.blk b1 (.cells #[.slice sa sn sc,.slice ga gn gc] 26)]) w:=hw
  refine A6 ?_;refine D3 (vs:=[.agg (cG ⟨g,A,N,C⟩).toArray]) ((o9 hgok hw).mono fun e w hq3=>?_)
  clear hw;obtain⟨Γ3,v,hle3,rfl,hrv,hw⟩:=hq3;obtain⟨oa,on,oc,rfl,hon,honc,hoc⟩:=hrv.shape;simp only[List.length_map]at hon
  have hol:=ED hgoal
  refine⟨_,rfl,?_⟩;refine A6 ?_;refine B5 (fun μ ρ w=>∃(j:Nat),μ+j=on∧Has ρ [(1,.pointer (some ⟨b1,0,none⟩)),(3,.map (some bm)),(73,.slice ga gn gc),(74,.int .i64 gn),(75,.int .i64 k),(80,.slice oa on oc),(81,.int .i64 on),(82,.int .i64 j)]∧Vm q g=(((J5 g).drop j).all fun o=>BV (BQ q) o.Var)∧Wd Γ3 (.blk b14 (.cells (cG ⟨g,A,N,C⟩).toArray 127)::[Dh bm2 KK,Dh bm (BQ q),.blk b1 (.cells #[.slice sa sn sc,.slice ga gn gc] 26)]) w) on ⟨0,by omega,⟨rfl,rfl,rfl,rfl,rfl,rfl,rfl,rfl,trivial⟩,rfl,hw⟩ ?_
  clear hw;rintro μ2 ρ w ⟨j,hj,hρ,hsh,hw⟩
  rw[hρ.eq];clear hρ;refine A6 ?_;refine A7 rfl (fun h=>?_) (fun h=>?_)
  ·have hjn:j<on:=by have:=of_decide_eq_true h;omega
   clear h;obtain⟨o,ho⟩:=B4 (l:=J5 g) (k:=j) (by omega)
   rw[X3 ho]at hsh;refine A6 ?_;refine C0 ?_;intro b16 w hw;refine B1 ?_;intro w hw;have hw:Wd Γ3 (.blk b16 (.cells (enc o).toArray 125)::.blk b14 (.cells (cG ⟨g,A,N,C⟩).toArray 127)::[Dh bm2 KK,Dh bm (BQ q),.blk b1 (.cells #[.slice sa sn sc,.slice ga gn gc] 26)]) w:=hw
   refine A6 ?_;refine A7 rfl (fun h=>?_) (fun h=>?_)
   ·have h:(!((F1 ((BQ q).map fun s=>(s,true)) o.Var).getD default))=true:=h
    rw[IG]at h;have hf:BV (BQ q) o.Var=false:=by simpa using h
    refine A6 ?_;refine⟨_,rfl,Γ3,hle1.trans (hle2.trans hle3),H0 rfl ?_,X7 hw⟩
    rw[hv,hall,hsh,hf];rfl
   ·have h:(!((F1 ((BQ q).map fun s=>(s,true)) o.Var).getD default))=false:=h
    rw[IG]at h;have hf:BV (BQ q) o.Var=true:=by simpa using h
    rw[hf,Bool.true_and]at hsh;refine A6 ?_;exact⟨on-j-1,by omega,j+1,by omega,⟨rfl,rfl,rfl,rfl,rfl,rfl,rfl,rfl,trivial⟩,hsh,hw.drop⟩
  have hjn:on≤j:=by have:=of_decide_eq_false h;omega
  clear h;rw[G9 (J5 g) (by omega)]at hsh
  have hsh:Vm q g=true:=hsh
  rw[hsh,Bool.true_and]at hall;refine A6 ?_;exact⟨gn-k-1,by omega,Γ3,k+1,hle2.trans hle3,by omega,⟨rfl,rfl,rfl,rfl,rfl,trivial⟩,hall,hw.drop⟩
 have hkn:gn≤k:=by have:=of_decide_eq_false h;omega
 rw[G9 _ (by rw[hnl];omega)]at hall
 refine A6 ?_;refine⟨_,rfl,Γ2,hle1.trans hle2,H0 rfl ?_,X7 hw⟩
 rw[hv,hall];rfl
def AH:List (Nat×Int)→Int
 | []=>0
 | p::r=>if p.2≠0 then p.2 else AH r
def Vq(q:G4):List (Nat×Int):=[(102,if BY q=true then 0 else 15),(103,if w7 q=true then 0 else 50),(104,if U6 q=true then 0 else 63),(105,if Ci q=true then 0 else 6),(106,Ri q)]
theorem Rj{q:G4}:DD q=AH (Vq q):=by
 unfold DD Vq AH AH AH AH AH AH Ri;cases BY q <;> cases w7 q <;> cases U6 q <;> cases Ci q <;> simp
theorem Nn{Γ:C8}{vs vg:Value}{gs:List N6}{q:G4}(hq0:QR Γ vs vg gs q)(hok:Z7 q):PG Tryz.prog Γ 47 [.agg #[vs,vg]] (.int .i64 (DD q)):=DJ fun Γ w hle hw=>by
 have hq:=hq0.mono hle
 obtain⟨ga,gn,gc,rfl,-,-,-⟩:=hq.goals.shape;obtain⟨sa,sn,sc,rfl,-,-,-⟩:=hq.sel.shape;have p1:=Kg hq hok
 have p2:=LU hq hok
 have p3:=LL hq hok
 have p4:=JF hq hok
 have p5:=HK hq hok
 have hcl:∀(k:Nat) (p:Nat×Int),(Vq q)[k]? = some p→C7 Tryz.prog p.1∧PG Tryz.prog Γ p.1 [.agg #[.slice sa sn sc,.slice ga gn gc]] (.int .i64 p.2):=by
  intro k p hp;match k,hp with
  | 0,hp=>cases hp;exact⟨inferInstance,p1⟩
  | 1,hp=>cases hp;exact⟨inferInstance,p2⟩
  | 2,hp=>cases hp;exact⟨inferInstance,p3⟩
  | 3,hp=>cases hp;exact⟨inferInstance,p4⟩
  | 4,hp=>cases hp;exact⟨inferInstance,p5⟩
 have hlen:(Vq q).length=5:=rfl
 rw[Rj];refine A9 Tryz.func47 rfl rfl ?_
 refine A6 ?_;refine H9 ?_;intro b1 w hw;have hw:Wd Γ [.blk b1 (.cells #[.slice sa sn sc,.slice ga gn gc] 26)] w:=hw
 refine A6 ?_;refine B6 ((Vq q).map fun p=>[.func (.func p.1) #[] #[]]) ?_
 intro q1 w hw;obtain⟨CK,hCK⟩:∃CK,CK=Vq q:=⟨_,rfl⟩
 rw[←hCK]at hcl hlen hw ⊢
 clear hCK;have hw:Wd Γ [.own (.slice (some q1) 5 5) 116 1 (CK.map fun p=>[.func (.func p.1) #[] #[]]),.blk b1 (.cells #[.slice sa sn sc,.slice ga gn gc] 26)] w:=hw
 refine A6 ?_;refine B5 (fun μ ρ w=>∃(k:Nat),μ+k=5∧Has ρ [(1,.pointer (some ⟨b1,0,none⟩)),(8,.slice (some q1) 5 5),(9,.int .i64 5),(10,.int .i64 k)]∧AH CK=AH (CK.drop k)∧Wd Γ [.own (.slice (some q1) 5 5) 116 1 (CK.map fun p=>[.func (.func p.1) #[] #[]]),.blk b1 (.cells #[.slice sa sn sc,.slice ga gn gc] 26)] w) 5 ⟨0,by omega,⟨rfl,rfl,rfl,rfl,trivial⟩,rfl,hw⟩ ?_
 clear hw;rintro μ ρ w ⟨k,hk,hρ,hf,hw⟩
 rw[hρ.eq];clear hρ;refine A6 ?_;refine A7 rfl (fun h=>?_) (fun h=>?_)
 ·have hk5:k<5:=by have:=of_decide_eq_true h;omega
  clear h;obtain⟨p,hp⟩:=B4 (l:=CK) (k:=k) (by omega)
  obtain⟨hfn,hpg⟩:=hcl k p hp
  rw[R9 hp]at hf;refine A6 ?_;refine Cp (fst:=[]) (cap:=[]) (vs:=[.agg #[.slice sa sn sc,.slice ga gn gc]]) ?_
  refine(hpg.h _ _ hw).mono ?_
  clear hw;rintro e w ⟨rfl,hw⟩
  refine⟨_,rfl,?_⟩;refine A6 ?_;refine A7 rfl (fun h=>?_) (fun h=>?_)
  ·have h:p.2≠0:=of_decide_eq_true h
   refine A6 ?_;refine⟨_,rfl,Γ,C8.le.refl _,H0 rfl ?_,X7 hw⟩
   rw[hf,AH,if_pos h]
  ·have h:¬p.2≠0:=of_decide_eq_false h
   rw[AH,if_neg h]at hf;refine A6 ?_;exact⟨μ-1,by omega,k+1,by omega,⟨rfl,rfl,rfl,rfl,trivial⟩,hf,hw⟩
 have hk5:5≤k:=by have:=of_decide_eq_false h;omega
 rw[G9 CK (by omega)]at hf
 refine A6 ?_;exact⟨_,rfl,Γ,C8.le.refl _,H0 rfl hf.symm,X7 hw⟩
end Go.Proofs.YtlimglpjpcfpdaaGreat
end
section
open Go Mk
namespace Go.Proofs.YtlimglpjpcfpdaaGreat
def QF:Go.Shelf.Ren:=⟨fun|6=>51|15=>114|14=>113|28=>171|29=>172|20=>163|21=>164|22=>165|23=>166|24=>167|25=>168|26=>169|27=>170|46=>229|47=>230|48=>231|49=>232|50=>233|57=>260|n=>n,fun|22=>48|24=>52|25=>60|3=>3|39=>155|0=>0|53=>260|55=>122|4=>4|46=>253|45=>252|50=>257|5=>5|9=>9|66=>292|70=>296|76=>320|77=>228|n=>n,fun|n=>n⟩
theorem aE:Go.Proofs.SlLaysF.n6 Tryz.prog QF:={
 mixed:=by kernel_rfl
 f6:=⟨Tryz.f51.name,by decide,Tryz.func51.trans (congrArg some (by kernel_rfl))⟩
 f14:=⟨Tryz.f113.name,by decide,Tryz.func113.trans (congrArg some (by kernel_rfl))⟩
 f15:=Tryz.func114.trans (congrArg some (by kernel_rfl))
 f20:=⟨Tryz.f163.name,by decide,Tryz.func163.trans (congrArg some (by kernel_rfl))⟩
 f21:=⟨Tryz.f164.name,by decide,Tryz.func164.trans (congrArg some (by kernel_rfl))⟩
 f22:=⟨Tryz.f165.name,by decide,Tryz.func165.trans (congrArg some (by kernel_rfl))⟩
 f23:=⟨Tryz.f166.name,by decide,Tryz.func166.trans (congrArg some (by kernel_rfl))⟩
 f24:=⟨Tryz.f167.name,by decide,Tryz.func167.trans (congrArg some (by kernel_rfl))⟩
 f25:=⟨Tryz.f168.name,by decide,Tryz.func168.trans (congrArg some (by kernel_rfl))⟩
 f26:=⟨Tryz.f169.name,by decide,Tryz.func169.trans (congrArg some (by kernel_rfl))⟩
 f27:=⟨Tryz.f170.name,by decide,Tryz.func170.trans (congrArg some (by kernel_rfl))⟩
 f28:=Tryz.func171.trans (congrArg some (by kernel_rfl))
 f29:=Tryz.func172.trans (congrArg some (by kernel_rfl))
 f46:=⟨Tryz.f229.name,by decide,Tryz.func229.trans (congrArg some (by kernel_rfl))⟩
 f47:=Tryz.func230.trans (congrArg some (by kernel_rfl))
 f48:=Tryz.func231.trans (congrArg some (by kernel_rfl))
 f49:=⟨Tryz.f232.name,by decide,Tryz.func232.trans (congrArg some (by kernel_rfl))⟩
 f50:=⟨Tryz.f233.name,by decide,Tryz.func233.trans (congrArg some (by kernel_rfl))⟩
 f57:=⟨Tryz.f260.name,by decide,Tryz.func260.trans (congrArg some (by kernel_rfl))⟩
 t0:=Tryz.underlying0
 a0:=Tryz.isAgg0
 z0:=Tryz.sizeOf0
 v0:=Tryz.zeroValue0
 t3:=Tryz.underlying3
 a3:=Tryz.isAgg3
 z3:=Tryz.sizeOf3
 v3:=Tryz.zeroValue3
 t4:=Tryz.underlying4
 a4:=Tryz.isAgg4
 z4:=Tryz.sizeOf4
 v4:=Tryz.zeroValue4
 t5:=Tryz.underlying5
 a5:=Tryz.isAgg5
 z5:=Tryz.sizeOf5
 v5:=Tryz.zeroValue5
 t9:=Tryz.underlying9
 a9:=Tryz.isAgg9
 z9:=Tryz.sizeOf9
 v9:=Tryz.zeroValue9
 t22:=Tryz.underlying48
 a22:=Tryz.isAgg48
 z22:=Tryz.sizeOf48
 v22:=Tryz.zeroValue48
 a24:=Tryz.isAgg52
 z24:=Tryz.sizeOf52
 t25:=Tryz.underlying60
 a25:=Tryz.isAgg60
 z25:=Tryz.sizeOf60
 v25:=Tryz.zeroValue60
 t39:=Tryz.underlying155
 a39:=Tryz.isAgg155
 z39:=Tryz.sizeOf155
 v39:=Tryz.zeroValue155
 t45:=Tryz.underlying252
 a45:=Tryz.isAgg252
 z45:=Tryz.sizeOf252
 v45:=Tryz.zeroValue252
 t46:=Tryz.underlying253
 a46:=Tryz.isAgg253
 z46:=Tryz.sizeOf253
 v46:=Tryz.zeroValue253
 t50:=Tryz.underlying257
 a50:=Tryz.isAgg257
 z50:=Tryz.sizeOf257
 v50:=Tryz.zeroValue257
 t53:=Tryz.underlying260
 a53:=Tryz.isAgg260
 z53:=Tryz.sizeOf260
 v53:=Tryz.zeroValue260
 t55:=Tryz.underlying122
 a55:=Tryz.isAgg122
 z55:=Tryz.sizeOf122
 v55:=Tryz.zeroValue122
 t66:=Tryz.underlying292
 a66:=Tryz.isAgg292
 z66:=Tryz.sizeOf292
 v66:=Tryz.zeroValue292
 t70:=Tryz.underlying296
 a70:=Tryz.isAgg296
 z70:=Tryz.sizeOf296
 v70:=Tryz.zeroValue296
 t76:=Tryz.underlying320
 a76:=Tryz.isAgg320
 z76:=Tryz.sizeOf320
 v76:=Tryz.zeroValue320
 t77:=Tryz.underlying228
 a77:=Tryz.isAgg228
 z77:=Tryz.sizeOf228
 v77:=Tryz.zeroValue228 }
end Go.Proofs.YtlimglpjpcfpdaaGreat
end
section
open Go Mk
namespace Go.Proofs.YtlimglpjpcfpdaaGreat
set_option maxHeartbeats 16000000
attribute [local irreducible] Calls cI cB
abbrev Ej:=Value×List Val
def cR(p:Ej):List Value:=[p.1]
def Qp(Γ:C8)(p:Ej):Prop:=D9 Γ p.1 3 (p.2.map enc)
def WK(x y:Ej):Bool:=decide (cL cV x.2 y.2=0)
theorem Qp.one{Γ:C8}{p:Ej}(h:Qp Γ p):p.1.oneCell'=true:=by
 obtain⟨a,n,c,h1,-⟩:=D9.shape h
 rw[h1];rfl
theorem NN{Γ:C8}{S:List B2}{w:World}{v:Value}(fs:List Ej)(hok:∀f∈fs,Qp Γ f)(hl:fs.length≤1000000)(hw:Wd Γ (.own v 52 1 (fs.map cR)::S) w) :
  Calls Tryz.prog 54 #[v,.func (.func 53) #[] #[]] w fun e w'=>∃v',e=.returned v'∧Wd Γ (.own v' 52 1 ((s6 WK fs).map cR)::S) w':=by
 obtain⟨a,n,c,rfl,hn,hnc,hc⟩:=hw.own_shape (i:=0) rfl
 simp only[List.length_map]at hn
 refine A9 Tryz.func54 rfl rfl ?_
 refine A6 ?_;refine A7 rfl (fun h=>?_) (fun h=>?_)
 ·have h:n<2:=by have:=of_decide_eq_true h;omega
  refine A6 ?_;have hE:s6 WK fs=fs:=by
   cases fs with
   | nil=>rfl
   | cons x fs=>
    cases fs with
    | nil=>rfl
    | cons y fs=>simp at hn;omega
  rw[hE];exact⟨_,rfl,_,rfl,hw⟩
 have h:2≤n:=by have:=of_decide_eq_false h;omega
 refine A6 ?_;refine B5 (fun μ ρ w=>∃(k:Nat),μ+k=n∧1≤k∧Has ρ [(0,.slice a n c),(1,.func (.func 53) #[] #[]),(5,.int .i64 k)]∧s6 WK (fs.take k)=fs.take k∧Wd Γ (.own (.slice a n c) 52 1 (fs.map cR)::S) w) (n-1) ⟨1,by omega,by omega,⟨rfl,rfl,rfl,trivial⟩,?_,hw⟩ ?_
 ·cases fs with
  | nil=>rfl
  | cons x fs=>rfl
 clear hw;rintro μ ρ w ⟨k,hk,hk1,hρ,ho,hw⟩
 rw[hρ.eq];refine A6 ?_;refine A7 rfl (fun h=>?_) (fun h=>?_)
 ·have hkn:k<n:=by have:=of_decide_eq_true h;omega
  obtain⟨y,hy⟩:=B4 (l:=fs) (k:=k) (by omega)
  obtain⟨x,hx0⟩:=B4 (l:=fs) (k:=k-1) (by omega)
  have hx:fs[((k:Int)-1).toNat]? = some x:=by rw[show ((k:Int)-1).toNat=k-1 from by omega];exact hx0
  have hfy:=hok y (List.mem_of_getElem? hy)
  have hfx:=hok x (List.mem_of_getElem? hx0)
  have hsucc:=DR (p:=WK) (by omega) hy hx0
  refine A6 ?_;refine I5 (by kernel_rfl) (by kernel_rfl) hw ?_
  iterate 10 (first|refine Bq ?_|(apply S6;first|(apply Z1;first|refine qP ?_|refine Ut ?_)|refine qY ?_)|(apply L1;first|(apply Z1;first|refine Vo ?_|refine Hr ?_)|refine qG ?_))
  refine bj (v:=.bool (WK y x)) (cap:=[]) (vs:=[y.1,x.1]) (fun Y w hw=>?_) ?_
  ·exact(Jn hfy hfx).h _ _ hw
  refine EX ?_;intro w hw;refine A7 rfl (fun h2=>?_) (fun h2=>?_)
  ·rw[if_pos h2]at hsucc;refine A6 ?_;refine B5 (fun μ ρ w=>∃(m q:Nat) (cur:List Ej),μ+(k+m)=n∧1≤m∧1≤q∧q<k+m∧Has ρ [(0,.slice a n c),(1,.func (.func 53) #[] #[]),(5,.int .i64 q),(6,.slice (Bu a k c 1) (n-k) (c-k)),(7,.int .i64 m)]∧cur.length=n∧cur.take q=s6 WK (fs.take (k+m))∧(∀i,k+m-1≤i→cur[i]? = fs[i]?)∧Wd Γ (.own (.slice a n c) 52 1 (cur.map cR)::S) w) (n-(k+1)) ⟨1,k,fs,by omega,by omega,by omega,by omega,⟨rfl,rfl,rfl,rfl,rfl,trivial⟩,hn.symm,by rw[hsucc,ho],fun i _=>rfl,hw⟩ ?_
   clear hw hρ hsucc;rintro μ2 ρ w ⟨m,q,cur,hm,hm1,hq1,hq2,hρ,hcl,hcur,hsame,hw⟩
   rw[hρ.eq];refine A6 ?_;refine A7 rfl (fun h3=>?_) (fun h3=>?_)
   ·have hmn:k+m<n:=by have:=of_decide_eq_true h3;omega
    obtain⟨y2,hy2⟩:=B4 (l:=fs) (k:=k+m) (by omega)
    obtain⟨x2,hx2⟩:=B4 (l:=fs) (k:=k+m-1) (by omega)
    have hcy:(cur.drop k)[m]? = some y2:=by rw[List.getElem?_drop,hsame _ (by omega)];exact hy2
    have hcx:(cur.drop k)[((m:Int)-1).toNat]? = some x2:=by
     rw[List.getElem?_drop,hsame _ (by omega),show k+((m:Int)-1).toNat=k+m-1 from by omega];exact hx2
    have hfy2:=hok y2 (List.mem_of_getElem? hy2)
    have hfx2:=hok x2 (List.mem_of_getElem? hx2)
    have hsucc:=DR (p:=WK) (by omega) hy2 hx2
    have hlen:n-k=((cur.drop k).map cR).length:=by simp[hcl]
    have hR2:P6 Γ (.own (.slice a n c) 52 1 (cur.map cR)::S) (.slice (Bu a k c 1) (n-k) (c-k)) 1 ((cur.drop k).map cR):=⟨_,_,_,rfl,hlen,by omega,by omega,fun w hw=>by
     have:=(Wd.own_rd (i:=0) hw rfl).cut (c:=c) (by simp;omega) k (by simp;omega)
     rwa [←List.map_drop]at this⟩
    refine A6 ?_;refine I5 (by kernel_rfl) (by kernel_rfl) hw ?_
    iterate 10 (first|refine Bq ?_|(apply S6;first|(apply Z1;first|refine qP ?_|refine Ut ?_)|refine qY ?_)|(apply L1;first|(apply Z1;first|refine Vo ?_|refine Hr ?_)|refine qG ?_))
    refine bj (v:=.bool (WK y2 x2)) (cap:=[]) (vs:=[y2.1,x2.1]) (fun Y w hw=>?_) ?_
    ·exact(Jn hfy2 hfx2).h _ _ hw
    refine EX ?_;intro w hw;refine A7 rfl (fun h4=>?_) (fun h4=>?_)
    ·have h4:WK y2 x2=false:=by simpa using h4
     rw[if_neg (by rw[h4];decide)]at hsucc
     refine A6 ?_;have hcells:y2.1.cells.toList=[y2.1]:=by
      obtain⟨ya,yn,yc,hys,-⟩:=D9.shape hfy2
      rw[hys];rfl
     refine Cq (k:=q) (r:=[y2.1]) ?_ (hv:=hcells) (hl:=rfl) (h1:=by rw[List.all_cons,Qp.one hfy2];rfl)
     intro w hw;have hw:Wd Γ (.own (.slice a n c) 52 1 ((cur.map cR).set q (cR y2))::S) w:=hw
     rw[←List.map_set]at hw;refine A6 ?_;refine⟨n-(k+(m+1)),by omega,m+1,q+1,cur.set q y2,by omega,by omega,by omega,by omega,⟨rfl,rfl,rfl,rfl,rfl,trivial⟩,by rw[List.length_set];exact hcl,?_,fun i hi=>?_,hw⟩
     ·rw[show k+(m+1)=k+m+1 from rfl,hsucc,←hcur,List.take_add_one,List.take_set_of_le (by omega),List.getElem?_set_self (by omega)];rfl
     ·rw[List.getElem?_set_ne (by omega)];exact hsame i (by omega)
    ·have h4:WK y2 x2=true:=by simpa using h4
     rw[if_pos h4]at hsucc;refine A6 ?_;exact⟨n-(k+(m+1)),by omega,m+1,q,cur,by omega,by omega,by omega,by omega,⟨rfl,rfl,rfl,rfl,rfl,trivial⟩,hcl,by rw[show k+(m+1)=k+m+1 from rfl,hsucc];exact hcur,fun i hi=>hsame i (by omega),hw⟩
   ·have hmn:k+m=n:=by have:=of_decide_eq_false h3;omega
    have hfn:fs.take n=fs:=List.take_of_length_le (by omega)
    rw[hmn,hfn]at hcur;have hqn:q≤n:=by omega
    have hw:=Wd.own_take (i:=0) (m:=q) hw rfl hqn
    rw[←List.map_take,hcur]at hw;have hw:Wd Γ (.own (.slice a q c) 52 1 ((s6 WK fs).map cR)::S) w:=hw
    refine A6 ?_;refine ZC ?_;intro w hw;refine A6 ?_;exact⟨_,rfl,_,rfl,hw⟩
  ·rw[if_neg (by rw[h2];decide)]at hsucc
   refine A6 ?_;refine⟨μ-1,by omega,k+1,by omega,by omega,⟨rfl,rfl,rfl,trivial⟩,?_,hw⟩
   rw[hsucc,ho,List.take_add_one,hy];rfl
 ·have hkn:¬k<n:=by have:=of_decide_eq_false h;omega
  rw[List.take_of_length_le (by omega)]at ho
  refine A6 ?_;rw[ho];exact⟨_,rfl,_,rfl,hw⟩
theorem Ua{Γ:C8}{S:List B2}{w:World}(fs:List Ej)(v:Value)(hok:∀f∈fs,Qp Γ f)(hl:fs.length≤1000000)(hw:Wd Γ (.own v 52 1 (fs.map cR)::S) w) :
  Calls Tryz.prog 51 #[v,.func (.func 52) #[] #[]] w fun e w'=>e=.returned (.tuple #[])∧∃gs:List Ej,gs.Perm fs∧(gs.Pairwise fun a b=>Go.Proofs.ltOf (fun a b:Ej=>cL cV a.2 b.2) b a=false)∧Wd Γ (.own v 52 1 (gs.map cR)::S) w':=by
 have hxs:(fs.attachWith (Qp Γ) hok).map Subtype.val=fs:=List.attachWith_map_subtype_val _
 have hrows:((fs.attachWith (Qp Γ) hok).map fun a=>[a.1.1])=fs.map cR:=by
  conv=>rhs;rw[←hxs]
  rw[List.map_map];rfl
 rw[←hrows]at hw;haveI:Inhabited {f:Ej // Qp Γ f}:=⟨⟨(.slice none 0 0,[]),D9.nil⟩⟩
 have:=Si (α:={f:Ej // Qp Γ f}) (f:=fun a=>a.1.1) aE (fun a=>Qp.one a.2) (fun a b=>cL cV a.1.2 b.1.2) 52 [] (fs.attachWith (Qp Γ) hok) v hw (i:=0) rfl
  (Xp Hm.list fun a:{f:Ej // Qp Γ f}=>a.1.2) (by simp;omega) (fun dk w' hw' x y=>by
   have h1:∀b o,Γ.imm b=some o→(EP w').imm b=some o:=fun b o hb=>hw'.imm b o hb
   have h2:=Tm (Γ:=EP w') (D9.imm x.2 h1) (D9.imm y.2 h1)
   refine(h2.h [] w' (HE w')).mono ?_
   rintro e w'' ⟨he,hw''⟩
   exact⟨he,[],hw''⟩)
 refine this.mono ?_
 rintro e w' ⟨he,ys,hp,hs,hw'⟩
 refine⟨he,ys.map Subtype.val,?_,?_,?_⟩
 ·have:=hp.map Subtype.val
  rwa [hxs]at this
 ·rw[List.pairwise_map];exact hs
 ·rw[List.map_map];exact hw'
end Go.Proofs.YtlimglpjpcfpdaaGreat
end
section
open Go Mk
namespace Go.Proofs.YtlimglpjpcfpdaaGreat
set_option maxHeartbeats 16000000
attribute [local irreducible] Calls cI cB
structure RW(Γ:C8)(v:Value)(L:List Ej):Prop where
 rep:D9 Γ v 1 (L.map cR)
 ok:∀p∈L,Qp Γ p
theorem RW.nil{Γ:C8}:RW Γ (.slice none 0 0) []:=⟨D9.nil,fun p h=>(by cases h)⟩
def rowsOf(L:List Ej):List (List Val):=L.map (·.2)
theorem ON:∀ {L:List (Value×List (List Value))} {rs:List (List Val)},L.map (·.2)=(rs.map fun r=>r.map enc)→∃M:List Ej,M.map cR=(L.map fun x=>[x.1])∧rowsOf M=rs∧∀p∈M,∃x∈L,x.1=p.1∧x.2=p.2.map enc
 | [],[],_=>⟨[],rfl,rfl,fun p h=>(by cases h)⟩
 | [],_::_,h=>by simp at h
 | _::_,[],h=>by simp at h
 | x::L,r::rs,h=>by
  simp only[List.map_cons,List.cons.injEq]at h
  obtain⟨M,h1,h2,h3⟩:=ON (L:=L) (rs:=rs) h.2
  refine⟨(x.1,r)::M,by rw[List.map_cons,List.map_cons,h1];rfl,by unfold rowsOf at *;rw[List.map_cons,h2],fun p hp=>?_⟩
  rcases List.mem_cons.1 hp with rfl|hp
  ·exact⟨x,by simp,rfl,h.1⟩
  ·obtain⟨y,hy,h4⟩:=h3 p hp
   exact⟨y,by simp[hy],h4⟩
theorem Sn{db:List F9}{g:H3}(h:g.Kind=4→g.Low≤g.High):1≤O1 db g:=by
 unfold O1;split
 ·exact Nat.le_max_right ..
 split
 ·rename_i h4
  have:=h h4
  omega
 ·exact Nat.le_refl _
theorem RA{db:List F9}{l:List H3}{k:Nat}{g:H3}(h:l[k]? = some g):R0 db (l.take (k+1))=R0 db (l.take k)*O1 db g:=by
 unfold R0;rw[List.take_add_one,h,List.foldl_append];rfl
theorem Qv{db:List F9}{l:List H3}(h:∀g∈l,g.Kind=4→g.Low≤g.High)(k:Nat):R0 db (l.take k)≤R0 db l:=by
 have key:∀(r:List H3) (n:Nat),(∀g∈r,g.Kind=4→g.Low≤g.High)→n≤r.foldl (fun n g=>n*O1 db g) n:=by
  intro r;induction r with
  | nil=>intro n _;exact Nat.le_refl _
  | cons g r ih=>
   intro n hr;rw[List.foldl_cons];refine Nat.le_trans ?_ (ih _ fun g hg=>hr g (by simp[hg]))
   exact Nat.le_mul_of_pos_right n (Sn (hr g (by simp)))
 have e:R0 db l=(l.drop k).foldl (fun n g=>n*O1 db g) (R0 db (l.take k)):=by
  unfold R0;rw[←List.foldl_append,List.take_append_drop]
 rw[e];exact key _ _ fun g hg=>h g (List.mem_of_mem_drop hg)
theorem ZW{g:H3}(h:Cv g=true)(h4:g.Kind=4):g.Low≤g.High∧g.High-g.Low≤1000000:=by
 unfold Cv at h;rw[if_neg (by omega),if_pos h4]at h
 simpa using h
theorem ZK{q:G4}(h:DD q=0):∀g∈q.Goals,g.Kind=4→g.Low≤g.High∧g.High-g.Low≤1000000:=by
 intro g hg h4;refine ZW ?_ h4
 have hn:Ci q=true:=by
  cases hq:Ci q with
  | true=>rfl
  | false=>
   unfold DD at h;rw[hq]at h;split at h
   ·cases h
   split at h
   ·cases h
   split at h
   ·cases h
   simp at h
 exact List.all_eq_true.1 hn g hg
theorem Wo{l:List F9}{r:ByteArray}{m:Int}:(Qt l r m).length≤l.length:=by
 unfold Qt;exact Nat.le_trans (List.length_filter_le ..) Al
theorem Xr{db:List F9}{g:H3}:(R7 db g).length≤db.length:=by
 unfold R7;split
 ·exact Wo
 ·exact Nat.zero_le _
theorem Uw{Γ:C8}{S:List B2}{w:World}{va vs vg:Value}{fs:List D1}{gs:List N6}{q:G4}(hF:RL Γ va fs)(hl:fs.length≤50000)(hq:QR Γ vs vg gs q)(hok:Z7 q)(hw:Wd Γ S w) :
  Calls Tryz.prog 14 #[va,.agg #[vs,vg]] w fun e w'=>∃(Γ':C8) (v:Value) (L:List Ej),Γ.le Γ'∧e=.returned (.tuple #[v,.int .i64 (V9 (facts fs) q)])∧RW Γ' v L∧rowsOf L=p8 (facts fs) q∧Wd Γ' S w':=by
 obtain⟨ga,gn,gc,rfl,hgn,hgnc,hgc⟩:=hq.goals.shape;obtain⟨sa,sn,sc,rfl,hsn,hsnc,hsc⟩:=hq.sel.shape;obtain⟨fa,fc,rfl,hfc1,hfc2⟩:=hF.len;simp only[List.length_map]at hgn hsn
 have hgl:=hq.glen hok
 have hnl:=hq.nlen
 have p1:=Nn hq hok
 obtain⟨db,hdb⟩:∃db,db=facts fs:=⟨_,rfl⟩
 have hdl:db.length≤50000:=by rw[hdb];unfold facts;rw[List.length_map];exact hl
 rw[←hdb];refine A9 Tryz.func14 rfl rfl ?_
 refine A6 ?_;refine H9 ?_;intro b3 w hw;have hw:Wd Γ (.blk b3 (.cells #[.slice sa sn sc,.slice ga gn gc] 26)::S) w:=hw
 repeat first|refine U9 ?_|refine V5 ?_;intro w hw
 refine A7 rfl (fun h=>?_) (fun h=>?_)
 ·have h:DD q≠0:=of_decide_eq_true h
  have he:V9 db q=DD q:=by unfold V9;rw[if_pos h]
  refine A6 ?_;refine⟨_,rfl,Γ,.slice none 0 0,[],C8.le.refl _,?_,RW.nil,?_,hw.drop⟩
  ·rw[he];rfl
  ·unfold p8;rw[he,if_neg h];rfl
 have hv:DD q=0:=by
  have:=of_decide_eq_false h
  simpa using this
 have hR:=ZK hv
 have hRl:∀g∈q.Goals,g.Kind=4→g.Low≤g.High:=fun g hg h4=>(hR g hg h4).1
 have hse:V9 db q=if 1000000<R0 db q.Goals then 15 else 0:=by
  unfold V9;rw[if_neg (fun e=>e hv)]
 clear h p1;refine A6 ?_;refine F0 rfl rfl (J1 (K:=9) (α:=ByteArray) (f:=fP) hw fun bm w hw=>?_)
 have hw:Wd Γ (E4 bm []::.blk b3 (.cells #[.slice sa sn sc,.slice ga gn gc] 26)::S) w:=hw
 refine A6 ?_;refine H9 ?_;intro b7 w hw;have hw:=Wd.addNil (a:=none) (E:=58) (sz:=1) hw
 have hw:Wd Γ (.own (.slice none 0 0) 58 1 (([]:List (Value×List D1)).map fun t=>[t.1])::.blk b7 (G2 (.slice sa sn sc) (.slice ga gn gc) (.slice none 0 0) (.slice none 0 0) bm)::E4 bm []::.blk b3 (.cells #[.slice sa sn sc,.slice ga gn gc] 26)::S) w:=hw
 have hw:Wd Γ (.own (.slice none 0 0) 58 1 (([]:List (Value×List D1)).map fun t=>[t.1])::.blk b3 (.cells #[.slice sa sn sc,.slice ga gn gc] 26)::.blk b7 (G2 (.slice sa sn sc) (.slice ga gn gc) (.slice none 0 0) (.slice none 0 0) bm)::E4 bm []::S) w:=hw.perm K1
 refine A6 ?_;refine B5 (fun μ ρ w=>∃(Γ':C8) (k:Nat) (ts:List (Value×List D1)) (ta:Option Addr) (tn tc:Nat),Γ.le Γ'∧μ+k=gn∧Has ρ [(0,.slice fa fs.length fc),(3,.pointer (some ⟨b3,0,none⟩)),(7,.pointer (some ⟨b7,0,none⟩)),(8,.int .u64 (R0 db (q.Goals.take k))),(23,.slice ga gn gc),(24,.int .i64 gn),(25,.int .i64 k)]∧ts.length=k∧(∀t∈ts,RL Γ' t.1 t.2)∧(∀(i:Nat) x t,gs[i]? = some x→ts[i]? = some t→facts t.2=R7 db x.g)∧R0 db (q.Goals.take k)≤1000000∧Wd Γ' (.own (.slice ta tn tc) 58 1 (ts.map fun t=>[t.1])::.blk b3 (.cells #[.slice sa sn sc,.slice ga gn gc] 26)::.blk b7 (G2 (.slice sa sn sc) (.slice ga gn gc) (.slice ta tn tc) (.slice none 0 0) bm)::E4 bm []::S) w) gn ⟨Γ,0,[],none,0,0,C8.le.refl _,by omega,⟨rfl,rfl,rfl,rfl,rfl,rfl,rfl,trivial⟩,rfl,(fun t h=>(by cases h)),(fun i x t _ h=>(by simp at h)),(by show 1≤1000000;decide),hw⟩ ?_
 clear hw;rintro μ ρ w ⟨Γ1,k,ts,ta,tn,tc,hle1,hk,hρ,htl,hrl,heq,hwk,hw⟩
 rw[hρ.eq];clear hρ;have hq1:=hq.mono hle1
 have hrG1:=hq1.goals
 refine A6 ?_;refine A7 rfl (fun h=>?_) (fun h=>?_)
 ·have hkn:k<gn:=by have:=of_decide_eq_true h;omega
  clear h;obtain⟨x,hx⟩:=B4 (l:=gs) (k:=k) (by omega)
  have hxm:=List.mem_of_getElem? hx
  have hgoal:=hq.goal hok hxm
  have hgok:=hq1.ok x hxm
  have hgx:=hq.get hx
  have hws:=RA (db:=db) hgx
  have hwm:=Qv (db:=db) hRl (k+1)
  have hRx:=hR x.g (List.mem_of_getElem? hgx)
  obtain⟨l1,l2,l3⟩:=hgok.len;obtain⟨g,A,N,C⟩:=x;simp only at hgoal l1 l2 l3 hgx hws hRx
  have hal:=hgoal.len
  refine A6 ?_;refine C0 ?_;intro b10 w hw;refine A6 ?_;refine B1 ?_;intro w hw;have hw:Wd Γ1 (.blk b10 (.cells (cG ⟨g,A,N,C⟩).toArray 127)::.own (.slice ta tn tc) 58 1 (ts.map fun t=>[t.1])::.blk b3 (.cells #[.slice sa sn sc,.slice ga gn gc] 26)::.blk b7 (G2 (.slice sa sn sc) (.slice ga gn gc) (.slice ta tn tc) (.slice none 0 0) bm)::E4 bm []::S) w:=hw
  repeat first|refine U9 ?_|refine V5 ?_;intro w hw
  refine Ft (fun ρ w=>∃(Γ':C8) (a:Option Addr) (c:Nat) (fs':List D1),Γ1.le Γ'∧RL Γ' (.slice a fs'.length c) fs'∧facts fs'=R7 db g∧Has ρ [(0,.slice fa fs.length fc),(3,.pointer (some ⟨b3,0,none⟩)),(7,.pointer (some ⟨b7,0,none⟩)),(8,.int .u64 (R0 db (q.Goals.take k))),(10,.pointer (some ⟨b10,0,none⟩)),(11,.slice a fs'.length c),(23,.slice ga gn gc),(24,.int .i64 gn),(25,.int .i64 k)]∧Wd Γ' (.blk b10 (.cells (cG ⟨g,A,N,C⟩).toArray 127)::.own (.slice ta tn tc) 58 1 (ts.map fun t=>[t.1])::.blk b3 (.cells #[.slice sa sn sc,.slice ga gn gc] 26)::.blk b7 (G2 (.slice sa sn sc) (.slice ga gn gc) (.slice ta tn tc) (.slice none 0 0) bm)::E4 bm []::S) w) ?_ ?_
  ·refine A7 rfl (fun h=>?_) (fun h=>?_)
   ·have hat:g.Kind=1∨g.Kind=2:=by
     have h:J0 g=true:=h
     unfold J0 at h;simpa using h
    have ht:R7 db g=Qt db g.Rel N:=by unfold R7;rw[if_pos hat,l1]
    have hF1:=hF.mono hle1
    refine A6 ?_;refine D3 (vs:=[.slice fa fs.length fc,.string g.Rel,.int .i64 N]) ((SL (r:=g.Rel) (m:=N) fs hF1.ok hl hF1.rep hw).mono fun e w hq2=>?_)
    clear hw;obtain⟨v',fs',rfl,hfs,hfo,hw⟩:=hq2;have hwf:=Tp hfo hw
    clear hw;obtain⟨Γ2,hle2,hrl2,hw⟩:=hwf;obtain⟨a,c,rfl,hc1,hc2⟩:=hrl2.len;refine⟨_,rfl,?_⟩;refine A6 ?_;exact⟨Γ2,a,c,fs',hle2,hrl2,by rw[hfs,ht,hdb],⟨rfl,rfl,rfl,rfl,rfl,rfl,rfl,rfl,rfl,trivial⟩,hw⟩
   ·have hat:¬(g.Kind=1∨g.Kind=2):=by
     have h:J0 g=false:=h
     unfold J0 at h;simpa using h
    have ht:R7 db g=[]:=by unfold R7;rw[if_neg hat]
    refine A6 ?_;exact⟨Γ1,none,0,[],C8.le.refl _,RL.nil,by rw[ht];rfl,⟨rfl,rfl,rfl,rfl,rfl,rfl,rfl,rfl,rfl,trivial⟩,hw⟩
  clear hw;rintro ρ w ⟨Γ2,a,c,fs',hle2,hrl2,hft,hρ,hw⟩
  rw[hρ.eq];clear hρ;obtain⟨-,-,-,hc1,hc2⟩:=hrl2.len;have hfl:fs'.length=(R7 db g).length:=by rw[←hft];unfold facts;rw[List.length_map]
  have htb:=Xr (db:=db) (g:=g)
  have hw:Wd Γ2 (.own (.slice ta tn tc) 58 1 (ts.map fun t=>[t.1])::.blk b7 (G2 (.slice sa sn sc) (.slice ga gn gc) (.slice ta tn tc) (.slice none 0 0) bm)::.blk b3 (.cells #[.slice sa sn sc,.slice ga gn gc] 26)::E4 bm []::.blk b10 (.cells (cG ⟨g,A,N,C⟩).toArray 127)::S) w:=hw.perm K1
  obtain⟨ta',tn',tc',hts,htn,htnc,htc⟩:=hw.own_shape (i:=0) rfl
  cases hts
  simp only[List.length_map]at htn
  refine A6 ?_;refine B6 [[.slice a fs'.length c]] ?_
  intro q2 w hw;refine V7 (i:=1) (rows2:=[[.slice a fs'.length c]]) ?_ (Wd.own_rd (i:=0) hw rfl)
  intro vt' w hw;obtain⟨tb,tm,td,rfl,-,-,-⟩:=hw.own_shape (i:=1) rfl
  refine A6 ?_;refine B1 (i:=2) ?_
  intro w hw;have hw:Wd Γ2 (.own (.slice (some q2) 1 1) 58 1 [[.slice a fs'.length c]]::.own (.slice tb tm td) 58 1 (ts.map (fun t=>[t.1])++[[.slice a fs'.length c]])::.blk b7 (G2 (.slice sa sn sc) (.slice ga gn gc) (.slice tb tm td) (.slice none 0 0) bm)::.blk b3 (.cells #[.slice sa sn sc,.slice ga gn gc] 26)::E4 bm []::.blk b10 (.cells (cG ⟨g,A,N,C⟩).toArray 127)::S) w:=hw
  rw[show ts.map (fun t=>[t.1])++[[Value.slice a fs'.length c]]=(ts++[(Value.slice a fs'.length c,fs')]).map (fun t=>[t.1]) from by rw[List.map_append];rfl]at hw
  have hw:Wd Γ2 (.blk b10 (.cells (cG ⟨g,A,N,C⟩).toArray 127)::.own (.slice tb tm td) 58 1 ((ts++[(Value.slice a fs'.length c,fs')]).map (fun t=>[t.1]))::.blk b3 (.cells #[.slice sa sn sc,.slice ga gn gc] 26)::.blk b7 (G2 (.slice sa sn sc) (.slice ga gn gc) (.slice tb tm td) (.slice none 0 0) bm)::E4 bm []::S) w:=(hw.dropAt 0).perm K1
  first|refine U9 ?_|(refine V5 ?_;intro w hw)
  refine BW (fun ρ w=>Has ρ [(0,.slice fa fs.length fc),(3,.pointer (some ⟨b3,0,none⟩)),(7,.pointer (some ⟨b7,0,none⟩)),(8,.int .u64 (R0 db (q.Goals.take (k+1)))),(23,.slice ga gn gc),(24,.int .i64 gn),(25,.int .i64 k)]∧Wd Γ2 (.blk b10 (.cells (cG ⟨g,A,N,C⟩).toArray 127)::.own (.slice tb tm td) 58 1 ((ts++[(Value.slice a fs'.length c,fs')]).map (fun t=>[t.1]))::.blk b3 (.cells #[.slice sa sn sc,.slice ga gn gc] 26)::.blk b7 (G2 (.slice sa sn sc) (.slice ga gn gc) (.slice tb tm td) (.slice none 0 0) bm)::E4 bm []::S) w) ?_ ?_
  ·have hfac:O1 db g≤1000001:=by
    unfold O1;split
    ·omega
    split
    ·rename_i h4
     have:=hRx h4
     omega
    ·omega
   have hmul:R0 db (q.Goals.take k)*O1 db g≤1000000*1000001:=Nat.mul_le_mul hwk hfac
   refine A6 ?_;refine A7 rfl (fun h=>?_) (fun h=>?_)
   ·have hk1:g.Kind=1:=of_decide_eq_true h
    have hfe:O1 db g=max fs'.length 1:=by unfold O1;rw[if_pos hk1,hfl]
    refine A6 ?_;refine⟨⟨rfl,rfl,rfl,?_,rfl,rfl,rfl,trivial⟩,hw⟩
    show Value.int .u64 (IntKind.u64.wrap ((R0 db (q.Goals.take k):Int)*IntKind.u64.wrap (if (fs'.length:Int)<1 then 1 else (fs'.length:Int))))=_
    rw[show (if (fs'.length:Int)<1 then 1 else (fs'.length:Int))=max (fs'.length:Int) 1 from by split <;> omega]
    rw[Ca (a:=max (fs'.length:Int) 1) (by omega) (by omega),hws,hfe]
    rw[hfe]at hmul;have e:(R0 db (q.Goals.take k):Int)*max (fs'.length:Int) 1=((R0 db (q.Goals.take k)*max fs'.length 1:Nat):Int):=by
     rw[Int.natCast_mul];congr 1;omega
    rw[e,Ca (by omega) (by omega)]
   have hk1:¬g.Kind=1:=of_decide_eq_false h
   clear h;refine A6 ?_;refine A7 rfl (fun h=>?_) (fun h=>?_)
   ·have hk4:g.Kind=4:=of_decide_eq_true h
    obtain⟨hlh,hlh2⟩:=hRx hk4
    have hfe:O1 db g=(g.High-g.Low+1).toNat:=by unfold O1;rw[if_neg hk1,if_pos hk4]
    have hsub:=NC hgoal.high hgoal.low hlh
    refine A6 ?_;refine⟨⟨rfl,rfl,rfl,?_,rfl,rfl,rfl,trivial⟩,hw⟩
    show Value.int .u64 (IntKind.u64.wrap ((R0 db (q.Goals.take k):Int)*IntKind.u64.wrap (IntKind.u64.wrap (IntKind.u64.wrap g.High-IntKind.u64.wrap g.Low)+1)))=_
    rw[hsub,Ca (a:=g.High-g.Low+1) (by omega) (by omega),hws,hfe]
    rw[hfe]at hmul;have e:(R0 db (q.Goals.take k):Int)*(g.High-g.Low+1)=((R0 db (q.Goals.take k)*(g.High-g.Low+1).toNat:Nat):Int):=by
     rw[Int.natCast_mul];congr 1;omega
    rw[e,Ca (by omega) (by omega)]
   have hk4:¬g.Kind=4:=of_decide_eq_false h
   have hfe:O1 db g=1:=by unfold O1;rw[if_neg hk1,if_neg hk4]
   refine A6 ?_;refine⟨⟨rfl,rfl,rfl,?_,rfl,rfl,rfl,trivial⟩,hw⟩
   rw[hws,hfe,Nat.mul_one];rfl
  clear hw;rintro ρ w ⟨hρ,hw⟩
  rw[hρ.eq];clear hρ;have hle12:=hle1.trans hle2
  refine A6 ?_;refine A7 rfl (fun h=>?_) (fun h=>?_)
  ·have h:(1000000:Int)<(R0 db (q.Goals.take (k+1)):Int):=of_decide_eq_true h
   have he:V9 db q=15:=by rw[hse,if_pos (by omega)]
   refine A6 ?_;refine⟨_,rfl,Γ2,.slice none 0 0,[],hle12,?_,RW.nil,?_,hw.ds [0,0,0,0,0]⟩
   ·rw[he];rfl
   ·unfold p8;rw[he,if_neg (by decide)];rfl
  have h:¬(1000000:Int)<(R0 db (q.Goals.take (k+1)):Int):=of_decide_eq_false h
  refine A6 ?_;refine⟨gn-k-1,by omega,Γ2,k+1,ts++[(Value.slice a fs'.length c,fs')],tb,tm,td,hle12,by omega,⟨rfl,rfl,rfl,rfl,rfl,rfl,rfl,trivial⟩,by rw[List.length_append,htl];rfl,fun t ht=>?_,fun i x t hxi hti=>?_,by omega,hw.drop⟩
  ·rcases List.mem_append.1 ht with h1|h1
   ·exact(hrl t h1).mono hle2
   ·rw[List.mem_singleton.1 h1];exact hrl2
  ·by_cases hik:i<k
   ·rw[List.getElem?_append_left (by omega)]at hti
    exact heq i x t hxi hti
   ·rw[List.getElem?_append_right (by omega)]at hti
    have hi0:i-ts.length=0:=by
     have:=(List.getElem?_eq_some_iff.1 hti).1
     simp at this
     omega
    have hik:i=k:=by omega
    subst hik;rw[hi0]at hti;cases hti
    rw[hx]at hxi;cases hxi
    exact hft
 have hkn:gn≤k:=by have:=of_decide_eq_false h;omega
 clear h;rw[List.take_of_length_le (by omega)]at hwk
 have he:V9 db q=0:=by rw[hse,if_neg (by omega)]
 have hss:p8 db q=Cf (cL cV) (LB db q):=by
  unfold p8;rw[he,if_pos rfl];rfl
 rw[he,hss];have hwf:=hw.freeze
 clear hw;obtain⟨Γ2,hle2,hrT,hw⟩:=hwf;have hq2:=hq1.mono hle2
 have hS:ak Γ2 (.slice sa sn sc) (.slice ga gn gc) (.slice ta tn tc) gs ts db q:=⟨hq2,hok,hrT,by omega,fun t ht=>(hrl t ht).mono hle2,heq,fun x _ _=>JJ⟩
 have hraw:(LB db q).length≤1000000:=by
  refine Nat.le_trans (OL (fun e=>Zq e) (L2 db q) (fun gt hg h4=>?_) []) ?_
  ·obtain⟨g,hgm,rfl⟩:=List.mem_map.1 hg
   exact hRl g hgm h4
  ·rw[←Sr];exact hwk
 have hw:Wd Γ2 (.blk b7 (G2 (.slice sa sn sc) (.slice ga gn gc) (.slice ta tn tc) (.slice none 0 0) bm)::(H6 (.slice none 0 0) []++(E4 bm []::.blk b3 (.cells #[.slice sa sn sc,.slice ga gn gc] 26)::S))) w:=by
  have h1:=Wd.addNil (a:=none) (E:=52) (sz:=1) hw
  rw[show H6 (.slice none 0 0) []=[.own (.slice none 0 0) 52 1 []] from rfl]
  exact h1.perm K1
 have hw:=Z2 (rs:=[]) (L:=[]) rfl hw
 refine A6 ?_;refine D3 (vs:=[.pointer (some ⟨b7,0,none⟩),.int .i64 ((0:Nat):Int)]) ((Rh hS hR gs.length 0 (by omega) (.blk b3 (.cells #[.slice sa sn sc,.slice ga gn gc] 26)::S) [] [] w y0.nil (by rw[List.drop_zero];show 0+(LB db q).length≤1000000;omega) hw).mono fun r w hq3=>?_)
 clear hw;obtain⟨rfl,hw⟩:=hq3;refine⟨_,rfl,?_⟩;rw[List.drop_zero,List.nil_append]at hw;have hw:Wd Γ2 (SV b7 bm (.slice sa sn sc) (.slice ga gn gc) (.slice ta tn tc) (LB db q)::E4 bm []::.blk b3 (.cells #[.slice sa sn sc,.slice ga gn gc] 26)::S) w:=hw
 obtain⟨vr,L,hL,hw⟩:=DL hw
 obtain⟨M,hM1,hM2,hM3⟩:=ON hL
 have hML:M.length=(LB db q).length:=by rw[←hM2];unfold rowsOf;rw[List.length_map]
 have W1:Wd Γ2 (YW 54 3 L++(.own vr 52 1 (M.map cR)::.blk b7 (G2 (.slice sa sn sc) (.slice ga gn gc) (.slice ta tn tc) vr bm)::E4 bm []::.blk b3 (.cells #[.slice sa sn sc,.slice ga gn gc] 26)::S)) w:=by
  rw[hM1];have h1:Wd Γ2 (.blk b7 (G2 (.slice sa sn sc) (.slice ga gn gc) (.slice ta tn tc) vr bm)::((.own vr 52 1 (L.map fun x=>[x.1])::YW 54 3 L)++(E4 bm []::.blk b3 (.cells #[.slice sa sn sc,.slice ga gn gc] 26)::S))) w:=hw
  exact h1.perm K1
 clear hw;obtain⟨Γ3,hle3,hfr,hw⟩:=Ei (f:=fun x:Value×List (List Value)=>x.1) (g:=fun x=>x.2) (e:=54) (sz:=3) L W1
 clear W1;have hRok:∀p∈M,Qp Γ3 p:=fun p hp=>by
  obtain⟨x,hx,e1,e2⟩:=hM3 p hp
  have:=hfr x hx
  unfold Qp;rw[←e1,←e2];exact this
 obtain⟨ra,rn,rc,rfl,-,-,-⟩:=hw.own_shape (i:=0) rfl
 have hw:Wd Γ3 (.own (.slice ra rn rc) 52 1 (M.map cR)::.blk b7 (G2 (.slice sa sn sc) (.slice ga gn gc) (.slice ta tn tc) (.slice ra rn rc) bm)::E4 bm []::.blk b3 (.cells #[.slice sa sn sc,.slice ga gn gc] 26)::S) w:=hw
 refine A6 ?_;refine D3 (vs:=[.slice ra rn rc,.func (.func 52) #[] #[]]) ((Ua M (.slice ra rn rc) hRok (by omega) hw).mono fun r w hq3=>?_)
 clear hw;obtain⟨rfl,G,hp,hs,hw⟩:=hq3;refine⟨_,rfl,?_⟩;have hGok:∀p∈G,Qp Γ3 p:=fun p h=>hRok p (hp.mem_iff.1 h)
 have hGl:G.length≤1000000:=by rw[hp.length_eq];omega
 refine A6 ?_;refine D3 (vs:=[.slice ra rn rc,.func (.func 53) #[] #[]]) ((NN G hGok hGl hw).mono fun r w hq3=>?_)
 clear hw;obtain⟨v',rfl,hw⟩:=hq3;refine⟨_,rfl,?_⟩;have hwf:=hw.freeze
 clear hw;obtain⟨Γ4,hle4,hrr,hw⟩:=hwf;obtain⟨a4,n4,c4,rfl,-,-,-⟩:=hrr.shape;refine A6 ?_;refine⟨_,rfl,Γ4,.slice a4 n4 c4,s6 WK G,hle1.trans (hle2.trans (hle3.trans hle4)),rfl,⟨hrr,fun p hp2=>D9.mono (hGok p (HL hp2)) hle4⟩,?_,hw.ds [0,0,0]⟩
 have hset:=MZ Hm.list (fun p:Ej=>p.2) hp (hs.imp fun {a b} h e=>by
  have h2:ltOf (cL cV) b.2 a.2=true:=Hm.list.lt_iff.2 e
  have h:ltOf (cL cV) b.2 a.2=false:=h
  rw[h2]at h;cases h)
 unfold rowsOf;have e2:M.map (·.2)=LB db q:=hM2
 rw[←e2];exact hset
end Go.Proofs.YtlimglpjpcfpdaaGreat
end
section
open Go Mk
namespace Go.Proofs.YtlimglpjpcfpdaaGreat
set_option maxHeartbeats 16000000
attribute [local irreducible] Calls cI cB
section
variable {Γ:C8}{S:List B2}{w:World}
end
end Go.Proofs.YtlimglpjpcfpdaaGreat
end
section
open Go Mk
namespace Go.Proofs.YtlimglpjpcfpdaaGreat
set_option maxHeartbeats 16000000
attribute [local irreducible] Calls cI cB
end Go.Proofs.YtlimglpjpcfpdaaGreat
end
section
open Go Mk
namespace Go.Proofs.YtlimglpjpcfpdaaGreat
set_option maxHeartbeats 16000000
attribute [local irreducible] Calls cI cB
end Go.Proofs.YtlimglpjpcfpdaaGreat
end
section
open Go Mk
namespace Go.Proofs.YtlimglpjpcfpdaaGreat
set_option maxHeartbeats 16000000
attribute [local irreducible] Calls cI cB
end Go.Proofs.YtlimglpjpcfpdaaGreat
end
section
open Go Mk
namespace Go.Proofs.YtlimglpjpcfpdaaGreat
set_option maxHeartbeats 16000000
attribute [local irreducible] Calls cI cB
end Go.Proofs.YtlimglpjpcfpdaaGreat
end
section
open Go Mk
namespace Go.Proofs.YtlimglpjpcfpdaaGreat
set_option maxHeartbeats 16000000
attribute [local irreducible] Calls cI cB
def Q0(toks:List Tok)(k:Nat):Tok:=toks.getD k default
def Q9(toks:List Tok)(k:Nat)(kind:Int)(text:ByteArray):Bool:=decide ((Q0 toks k).Kind=kind)&&decide ((Q0 toks k).Text=text)
def D6(bp:Nat)(a:Option Addr)(n c at':Nat)(e1 e2:Int):B2:=.blk bp (.cells #[.slice a n c,.int .i64 at',.int .i64 e1,.int .i64 e2] 109)
section
variable {Γ:C8}{S:List B2}{w:World}{bp:Nat}{a:Option Addr}{n c at':Nat}{e1 e2:Int}{toks:List Tok}
theorem FG(j:Nat)(hj:j≤1)(hat:at'≤n)(hN:toks.length≤1000000)(ht:D9 Γ (.slice a n c) 5 (toks.map enc))(hw:Wd Γ (D6 bp a n c at' e1 e2::S) w) :
  Calls Tryz.prog 145 #[.pointer (some ⟨bp,0,none⟩),.int .i64 j] w fun r w'=>r=.returned (.agg (enc (Q0 toks (at'+j))).toArray)∧Wd Γ (D6 bp a n c at' e1 e2::S) w':=by
 have hn:n=toks.length∧n≤c∧c≤9223372036854775807:=by obtain⟨_,_,_,h1,h2,h3⟩:=ht.shape;cases h1;exact⟨by simpa using h2,h3⟩
 obtain⟨hn,hnc,hc⟩:=hn;unfold D6 at *
 refine K9 Tryz.func145 rfl rfl ?_
 refine A6 ?_;refine C0 ?_;intro b4 w hw;have hw:Wd Γ (.blk b4 (.cells (enc (default:Tok)).toArray 178)::.blk bp (.cells #[.slice a n c,.int .i64 at',.int .i64 e1,.int .i64 e2] 109)::S) w:=hw
 refine A6 ?_;refine I5 (by kernel_rfl) (by kernel_rfl) hw ?_
 refine EX ?_;intro w hw;refine A7 rfl (fun h=>?_) (fun h=>?_)
 ·have h:at'+j<n:=by have:=of_decide_eq_true h;omega
  obtain⟨t,htk⟩:=B4 (l:=toks) (k:=at'+j) (by omega)
  have hT:Q0 toks (at'+j)=t:=by unfold Q0;rw[List.getD_eq_getElem?_getD,htk];rfl
  rw[hT];refine A6 ?_;refine Fi [.blk bp (.cells #[.slice a n c,.int .i64 at',.int .i64 e1,.int .i64 e2] 109)] (.blk b4 (.cells (enc (default:Tok)).toArray 178)::S) [] [[],[],[],[],[],[],[],[],[],[],[],[],[0]] (hw.ps [1]) ?_
  refine R1 ?_;refine Da (φ:=fun (_:Unit) _=>True) (R:=fun _=>.blk b4 (.cells (enc (default:Tok)).toArray 178)::S) (v:=undef) (T':=Unit) (fun _ _=>True) (fun _=>.blk b4 (.cells (enc t).toArray 178)::S) (fun t' g w Y _ hw=>m9 (i:=0) (inferInstance:Rp Tryz.prog 178 5).h hw rfl rfl rfl rfl (fun u hu=>(List.all_eq_true.1 (Ep t)) u hu) rfl (Nat.le_refl 5) fun w' hw'=>⟨(),trivial,(fun _=>rfl),hw'⟩) ?_
  refine IX fun t' w g _ hw=>?_
  have hw:Wd Γ (.blk b4 (.cells (enc t).toArray 178)::.blk bp (.cells #[.slice a n c,.int .i64 at',.int .i64 e1,.int .i64 e2] 109)::S) w:=hw.flip.ps [1]
  refine A6 ?_;exact⟨[.agg (enc t).toArray],⟨T4 (i:=0) hw rfl rfl rfl,trivial⟩,rfl,hw.drop⟩
 ·have h:¬at'+j<n:=by have:=of_decide_eq_false h;omega
  have hT:Q0 toks (at'+j)=default:=by unfold Q0;rw[List.getD_eq_getElem?_getD,List.getElem?_eq_none (by omega)];rfl
  rw[hT];refine A6 ?_;refine B1 ?_;intro w hw;have hw:Wd Γ (.blk b4 (.cells (enc (default:Tok)).toArray 178)::.blk bp (.cells #[.slice a n c,.int .i64 at',.int .i64 e1,.int .i64 e2] 109)::S) w:=hw
  refine A6 ?_;exact⟨[.agg (enc (default:Tok)).toArray],⟨T4 (i:=0) hw rfl rfl rfl,trivial⟩,rfl,hw.drop⟩
theorem eR(j:Nat)(hj:j≤1)(kind:Int)(text:ByteArray)(hat:at'≤n)(hN:toks.length≤1000000)(ht:D9 Γ (.slice a n c) 5 (toks.map enc))(hw:Wd Γ (D6 bp a n c at' e1 e2::S) w) :
  Calls Tryz.prog 93 #[.pointer (some ⟨bp,0,none⟩),.int .i64 j,.int .i64 kind,.string text] w fun r w'=>r=.returned (.bool (Q9 toks (at'+j) kind text))∧Wd Γ (D6 bp a n c at' e1 e2::S) w':=by
 refine A9 Tryz.func93 rfl rfl ?_
 refine A6 ?_;refine D3 (vs:=[.pointer (some ⟨bp,0,none⟩),.int .i64 j]) ?_
 refine(FG j hj hat hN ht hw).mono ?_
 clear hw;rintro r w ⟨rfl,hw⟩
 refine⟨_,rfl,?_⟩;refine A6 ?_;refine C0 ?_;intro b9 w hw;refine B1 ?_;intro w hw;have hw:Wd Γ (.blk b9 (.cells (enc (Q0 toks (at'+j))).toArray 178)::D6 bp a n c at' e1 e2::S) w:=hw
 refine A6 ?_;exact⟨_,rfl,F6 rfl rfl,hw.drop⟩
theorem Z4(kind:Int)(text:ByteArray)(hat:at'≤n)(hN:toks.length≤1000000)(ht:D9 Γ (.slice a n c) 5 (toks.map enc))(hw:Wd Γ (D6 bp a n c at' e1 e2::S) w) :
  Calls Tryz.prog 95 #[.pointer (some ⟨bp,0,none⟩),.int .i64 kind,.string text] w fun r w'=>r=.returned (.bool (Q9 toks at' kind text))∧Wd Γ (D6 bp a n c (if Q9 toks at' kind text=true then at'+1 else at') e1 e2::S) w':=by
 have hn:n=toks.length:=by obtain⟨_,_,_,h1,h2,h3⟩:=ht.shape;cases h1;simpa using h2
 refine A9 Tryz.func95 rfl rfl ?_
 refine A6 ?_;refine D3 (vs:=[.pointer (some ⟨bp,0,none⟩),.int .i64 0,.int .i64 kind,.string text]) ?_
 refine(eR (j:=0) (by decide) kind text hat hN ht hw).mono ?_
 clear hw;rintro r w ⟨rfl,hw⟩
 rw[Nat.add_zero];refine⟨_,rfl,?_⟩;unfold D6 at *
 refine A6 ?_;refine Ft (fun ρ w=>Has ρ [(7,.bool (Q9 toks at' kind text))]∧Wd Γ (D6 bp a n c (if Q9 toks at' kind text=true then at'+1 else at') e1 e2::S) w) ?_ ?_
 ·refine A7 rfl (fun h=>?_) (fun h=>?_)
  ·rw[if_pos h];refine A6 ?_;refine B1 (i:=0) ?_
   intro w hw;have hw:Wd Γ (D6 bp a n c (at'+1) e1 e2::S) w:=hw
   refine A6 ?_;exact⟨⟨rfl,trivial⟩,hw⟩
  ·rw[if_neg (by rw[h];decide)]
   refine A6 ?_;exact⟨⟨rfl,trivial⟩,hw⟩
 clear hw;rintro ρ w ⟨hρ,hw⟩
 rw[hρ.eq];refine A6 ?_;exact⟨_,rfl,F6 rfl rfl,hw⟩
end
end Go.Proofs.YtlimglpjpcfpdaaGreat
end
section
open Go
namespace Mk
attribute [local irreducible] Calls
section
variable {P:Program}{n:Nat}{ops:List Oper}{Γ:C8}{K:List B2}{wr tc stab:List (List Nat)}{Q:Fr→World→Prop}{i:Nat}{rest:List Oper}{ρ:Fr}{M:Nat→Fr→List B2}{T:Type}
variable {ty:TypeId}{pos:String}{es:Array Edge}
end
section
variable {P:Program}{n:Nat}{opa:Array Oper}{QQ:Exit→Fr→World→Prop}{ρ:Fr}{w:World}{rest:List Oper}{Γ:C8}{S:List B2}
variable {d:Option Tmp}{ty:TypeId}{pos:String}{es:Array Edge}{f j dj:Nat}{want c:Bool}{args:List Operand}{tys:Array TypeId}{vs:List Value}{v:Value}
attribute [local semireducible] gv
end
end Mk
end
section
open Go Mk
namespace Go.Proofs.YtlimglpjpcfpdaaGreat
section
variable {P:Program}{d:Option Tmp}{ty:TypeId}{pos:String}{es:Array Edge}{g:Option (Nat×Bool)}{ρ:Fr}{w:World}{T U V:TypeId}{v z:Value}{xx:Operand}
theorem Wz[hc:dB P U](hx:ev ρ xx=.iface U v):Mk.Yields P ⟨d,.typeAssert xx T U true,ty,pos,es,g⟩ ρ w (.tuple #[v,.bool true]):=by
 have h:=hc.h
 unfold TK at h;unfold Mk.Yields;cases hu:P.underlying U with
 | none=>simp[hu]at h
 | some t=>
  cases t <;> first|(simp[hu]at h;done)|simp[execOp,hx,Instr.typeAssert,run_underlying hu,Sem.run_bind,Sem.run_pure,Result.andThen]
theorem XD[hc:dB P U][hz:WN P U z](hx:ev ρ xx=.iface V v)(hne:Nat.beq V U=false):Mk.Yields P ⟨d,.typeAssert xx T U true,ty,pos,es,g⟩ ρ w (.tuple #[z,.bool false]):=by
 have h:=hc.h
 have hne:¬V=U:=fun e=>by rw[e]at hne;simp at hne
 unfold TK at h;unfold Mk.Yields;cases hu:P.underlying U with
 | none=>simp[hu]at h
 | some t=>
  cases t <;> first|(simp[hu]at h;done)|simp[execOp,hx,Instr.typeAssert,run_underlying hu,Sem.run_bind,Sem.run_pure,Result.andThen,hne,Fg hz.h]
end
end Go.Proofs.YtlimglpjpcfpdaaGreat
end
section
open Go
namespace Mk
section
variable {P:Program}{Γ:C8}{S:List B2}{w:World}{E i:Nat}
theorem Ns{ρ:Go.Shelf.Ren}(L:Go.Proofs.Lays2.n20 P ρ)(xs:List Int){a:Option Addr}{n c:Nat}(hw:Wd Γ S w)(hi:S[i]? = some (.own (.slice a n c) E 1 (Bf xs)))(hlen:xs.length<4611686018427387904) :
  Calls P (ρ.f 20) #[.slice a n c] w fun e w'=>e=.returned (.slice a (Go.Lib.compact xs).length c)∧∃zs,Wd Γ (S.set i (.own (.slice a n c) E 1 (Bf (Go.Lib.compact xs++zs)))) w':=by
 obtain⟨a',n',c',hE,e2,e3,e4,e5⟩:=Ad hw hi
 cases hE
 have hn:n=xs.length:=by simpa[Bf] using e2
 by_cases h0:n=0
 ·have hx:xs=[]:=List.eq_nil_of_length_eq_zero (by omega)
  subst h0;refine(Go.Proofs.Any.slices_Compact_int_empty L a c w).mono ?_
  rintro e w' ⟨he,rfl⟩
  refine⟨by rw[he,hx];rfl,[],?_⟩
  have hset:S.set i (.own (.slice a 0 c) E 1 (Bf xs))=S:=by
   obtain⟨hil,hie⟩:=List.getElem?_eq_some_iff.1 hi
   rw[←hie];exact List.set_getElem_self hil
  have:Go.Lib.compact xs++[]=xs:=by rw[hx];rfl
  rw[this,hset];exact hw
 ·have hc:0<c:=by omega
  rcases e5 with e5|⟨g,cur,rfl,hg,hcur,hcs,htk⟩
  ·omega
  obtain⟨hH,hgl⟩:=BO (enc:=fun x:Int=>[Value.int .i64 x]) (k:=1) (fun _=>rfl) hw hi hc
  have hH1:Go.Sort.Holds (Value.int .i64) w g 0 xs.toArray:=fun j hj=>by
   have:=hH j (by simpa using hj)
   rw[CU]at this;have hj:j<xs.length:=by simpa using hj
   simpa[hj] using this
  have:=Go.Proofs.Any.slices_Compact_int L g 0 c xs w hH1 (by omega) (by omega)
  rw[←hn]at this;refine this.mono ?_
  rintro e w' ⟨he,q,rfl⟩
  have hle:(Go.Lib.compact xs).length≤xs.length:=by
   unfold Go.Lib.compact Go.Lib.compactUpTo;have:=List.length_filter_le (Go.Lib.keeps xs.toArray) (List.range xs.length)
   simpa using this
  refine⟨he,List.replicate (n-(Go.Lib.compact xs).length) 0,?_⟩
  have h1:Go.Sort.putRow (Value.int .i64) (Go.Sort.ahead w q) g 0 (Go.Lib.compact xs++List.replicate (n-(Go.Lib.compact xs).length) 0).toArray=Go.Proofs.sortWorldK (fun x:Int=>[Value.int .i64 x]) 1 w g 0 q (Go.Lib.compact xs++List.replicate (n-(Go.Lib.compact xs).length) 0).toArray #[]:=by
   rw[←Y4];unfold Go.Proofs.sortWorld;rw[VZ]
  rw[h1];exact Q2 (enc:=fun x:Int=>[Value.int .i64 x]) (k:=1) (fun _=>rfl) hw hi hc _ (by simp;omega) q #[]
end
theorem KQ(xs:List Int):Go.Lib.compact xs=((List.range xs.length).filter (Go.Lib.keeps xs.toArray)).map (xs.toArray[·]!):=by
 unfold Go.Lib.compact Go.Lib.compactUpTo;simp
theorem Hn(xs:List Int)(j:Nat):Go.Lib.keeps xs.toArray j=true↔j=0∨xs.toArray[j]!≠xs.toArray[j-1]!:=by
 unfold Go.Lib.keeps;simp
theorem PY{xs:List Int}{x:Int}:x∈Go.Lib.compact xs↔x∈xs:=by
 rw[KQ,List.mem_map];constructor
 ·rintro⟨j,hj,rfl⟩;have hj:=(List.mem_filter.1 hj).1
  rw[List.mem_range]at hj;have:xs.toArray[j]! = xs[j]:=by simp[hj]
  rw[this];exact List.getElem_mem hj
 ·intro h;obtain⟨j,hj,he⟩:=List.getElem_of_mem h
  have key:∀j,(h:j<xs.length)→xs[j]=x→∃i,i∈(List.range xs.length).filter (Go.Lib.keeps xs.toArray)∧xs.toArray[i]! = x:=by
   intro j;induction j with
   | zero=>intro h e;exact⟨0,List.mem_filter.2 ⟨List.mem_range.2 h,(Hn xs 0).2 (.inl rfl)⟩,by simp[h,e]⟩
   | succ j ih=>
    intro h e;by_cases hk:Go.Lib.keeps xs.toArray (j+1)=true
    ·exact⟨j+1,List.mem_filter.2 ⟨List.mem_range.2 h,hk⟩,by simp[h,e]⟩
    ·refine ih (by omega) ?_
     have h2:¬(j+1=0∨xs.toArray[j+1]!≠xs.toArray[j+1-1]!):=fun hh=>hk ((Hn xs (j+1)).2 hh)
     have h3:xs.toArray[j+1]! = xs.toArray[j]!:=by
      by_cases he2:xs.toArray[j+1]! = xs.toArray[j]!
      ·exact he2
      ·exact absurd (Or.inr he2) h2
     have a1:xs.toArray[j+1]! = xs[j+1]:=by simp[h]
     have a2:xs.toArray[j]! = xs[j]:=by simp[show j<xs.length by omega]
     rw[a1,a2]at h3;rw[←h3];exact e
  exact key j hj he
theorem Qa{xs:List Int}(hs:xs.Pairwise (·≤·)):(Go.Lib.compact xs).Pairwise (· < ·):=by
 rw[KQ,List.pairwise_map];have hr:((List.range xs.length).filter (Go.Lib.keeps xs.toArray)).Pairwise (· < ·):=List.Pairwise.filter _ List.pairwise_lt_range
 refine hr.imp_of_mem fun {i j} hi hj hij=>?_
 obtain⟨hj1,hj2⟩:=List.mem_filter.1 hj
 rw[List.mem_range]at hj1;have a1:xs.toArray[j]! = xs[j]:=by simp[hj1]
 have a2:xs.toArray[i]! = xs[i]:=by simp[show i<xs.length by omega]
 have a3:xs.toArray[j-1]! = xs[j-1]:=by simp[show j-1<xs.length by omega]
 have hk:=(Hn xs j).1 hj2
 rw[a1,a3]at hk;rw[a1,a2];have hne:xs[j]≠xs[j-1]:=by
  rcases hk with h|h
  ·omega
  ·exact h
 rw[List.pairwise_iff_getElem]at hs;have h1:=hs (j-1) j (by omega) hj1 (by omega)
 have h2:xs[i]≤xs[j-1]:=by
  rcases Nat.lt_or_eq_of_le (show i≤j-1 by omega) with h|h
  ·exact hs i (j-1) (by omega) (by omega) h
  ·subst h;exact Int.le_refl _
 omega
end Mk
end
section
open Go
namespace Mk
attribute [local semireducible] L W Step
def r9(PP:List PanicEntry→World→Prop)(P:Program)(o:Oper)(ρ:Fr)(w:World)(K:Value→World→Prop):Prop:=
 match (execOp (ev ρ) o).run P w with
 | .ok (.value v) w'=>K v w'
 | .ok .skip w'=>K undef w'
 | .ok (.enter f args) w'=>Calls P f args w' (Ends K PP)
 | .ok (.row row args) w'=>Rows P row args w' K
 | _=>False
section
variable {PP:List PanicEntry→World→Prop}{P:Program}{o:Oper}{ρ ρ':Fr}{w:World}{K K':Value→World→Prop}{ops:List Oper}
theorem Step.toE(h:Step P o ρ w K):r9 PP P o ρ w K:=by
 unfold Step at h;unfold r9;generalize (execOp (ev ρ) o).run P w=r at *
 cases r with
 | ok x w'=>
  cases x <;> first
   | exact h
   | exact Calls.mono h (fun e w'' he=>by obtain⟨v,rfl,hv⟩:=he;exact hv)
   | exact h.elim
 | halt x w'=>exact h.elim
theorem r9.mono(h:r9 PP P o ρ w K)(hk:∀v w,K v w→K' v w):r9 PP P o ρ w K':=by
 unfold r9 at *
 split at h <;> first|exact hk _ _ h|exact h.mono fun e w'' he=>he.mono hk (fun _ _ h=>h)|exact h.mono hk|exact h.elim
theorem r9.congr(hsel:AN o=true)(hs:∀t∈looks ops o,ρ' t=ρ t)(h:r9 PP P o ρ w K):r9 PP P o ρ' w K:=by
 have:=execOp_congr o (fun cs b e=>by simp[AN,e]at hsel) (dD hs)
 unfold r9 at *
 rw[this];exact h
theorem r9.wp{a:Act}{K2:Act→World→Prop}{Q':Exit→Act→World→Prop}(h:r9 PP P o (E0 a) w K)
  (hk:∀v w,K v w→K2 (a.put o.dst v) w) (hp:∀ch w,PP ch w→Q' (.panic ch) a w):o.wp P a w K2 Q':=by
 unfold r9 at h;unfold Oper.wp;rw[j7];generalize (execOp (ev (E0 a)) o).run P w=r at *
 cases r with
 | ok x w'=>
  cases x <;> simp only[Oper.upon]at h ⊢ <;> first
   | exact hk _ _ h
   | exact Calls.mono h (fun e w'' he=>by
     cases e with
     | returned v=>exact hk _ _ he
     | panicked ch=>exact hp _ _ he
     | outgrown=>exact he.elim)
   | exact Rows.mono h hk
   | exact h.elim
 | halt x w'=>exact h.elim
end
section
variable (PP:List PanicEntry→World→Prop)(V:V4)
structure RH(i:Nat)(o:Oper)(st:Mt)(c:Mc):Prop where
 run:∀Γ' Y w g,V.rl V.Γ Γ'→Wd Γ' (V.K++(cellsOf V (V.t i) st.M g++Y)) w →
  (Z6 V.ops o (E7 V.N g st.ρ)=true→r9 PP V.P o (E7 V.N g st.ρ) w fun v w'=>∃Γ'',V.rl Γ' Γ''∧Wd Γ'' (V.K++(cellsOf V (V.t i) (Mt.nxt V i st c) (D2 g o.dst v)++Y)) w'∧(V.free o=false→v=c.x)) ∧
  (Z6 V.ops o (E7 V.N g st.ρ)=false→Wd Γ' (V.K++(cellsOf V (V.t i) (Mt.nxt V i st c) (D2 g o.dst undef)++Y)) w∧(V.free o=false→undef=c.x))
def MSwE(Q:Fr→World→Prop):Nat→List Oper→Mt→Prop
 | _,[],st=>Hl V Q st
 | i,o::l,st=>∃c,RH PP V i o st c∧MSwE Q (i+1) l (Mt.next V i st o c)
end
def W2(PP:List PanicEntry→World→Prop)(V:V4)(Q:Fr→World→Prop):Nat→List Oper→List Mc→Mt→Prop
 | _,[],[],st=>Hl V Q st
 | i,o::l,c::cs,st=>RH PP V i o st c∧W2 PP V Q (i+1) l cs (Mt.next V i st o c)
 | _,_,_,_=>False
theorem MSwE.chain{PP:List PanicEntry→World→Prop}{V:V4}{Q:Fr→World→Prop}:∀(l:List Oper) (i:Nat) (st:Mt),MSwE PP V Q i l st→∃cs,W2 PP V Q i l cs st
 | [],_,_,h=>⟨[],h⟩
 | _::l,i,st,⟨c,hg,h⟩=>by
  obtain⟨cs,hc⟩:=MSwE.chain l (i+1) _ h
  exact⟨c::cs,hg,hc⟩
section
variable {PP:List PanicEntry→World→Prop}{V:V4}{Q:Fr→World→Prop}
theorem W2.good:∀ {l:List Oper} {i:Nat} {cs:List Mc} {st:Mt} (k:Nat) {o:Oper},W2 PP V Q i l cs st→l[k]? = some o→∃c,cs[k]? = some c∧RH PP V (i+k) o (L3 V l cs i st k) c
 | o'::l,i,c::cs,st,0,o,h,ho=>by
  simp at ho;subst ho
  exact⟨c,rfl,h.1⟩
 | o'::l,i,c::cs,st,k+1,o,h,ho=>by
  obtain⟨c',h1,h2⟩:=W2.good k h.2 (by simpa using ho)
  refine⟨c',by simpa using h1,?_⟩
  rw[show i+(k+1)=i+1+k from by omega]
  exact h2
 | [],_,_,_,_,_,_,ho=>by simp at ho
 | _::_,_,[],_,_,_,h,_=>h.elim
theorem W2.final:∀ {l:List Oper} {i:Nat} {cs:List Mc} {st:Mt},W2 PP V Q i l cs st→Hl V Q (L3 V l cs i st l.length)
 | [],_,[],_,h=>h
 | o::l,i,c::cs,st,h=>by
  have:=W2.final (l:=l) (cs:=cs) h.2
  simpa[L3] using this
 | [],_,_::_,_,h=>h.elim
 | _::_,_,[],_,h=>h.elim
section
variable {st0:Mt}{cs:List Mc}{listed:Array Bool}{a:Act}{w:World}{done:List Nat}{Γ':C8}
theorem Kc(hc:W2 PP V Q 0 V.ops cs st0){t j:Nat}:∀(m:Nat),j+m≤V.ops.length→(∀i,j≤i→i<j+m→∀o,V.ops[i]? = some o→o.dst≠some t)→(L3 V V.ops cs 0 st0 (j+m)).ρ t=(L3 V V.ops cs 0 st0 j).ρ t
 | 0,_,_=>rfl
 | m+1,hl,hn=>by
  have ih:=Kc hc m (by omega) (fun i h1 h2=>hn i h1 (by omega))
  have ho:V.ops[j+m]? = some V.ops[j+m]:=List.getElem?_eq_getElem (by omega)
  obtain⟨c,h1,_⟩:=hc.good (j+m) ho
  rw[←Nat.add_assoc,Y0 ho h1,←ih];have hne:=hn (j+m) (by omega) (by omega) _ ho
  simp only[Mt.next]
  cases hd:(V.ops[j+m]).dst with
  | none=>rfl
  | some d=>exact upd_ne _ _ (fun e=>hne (by rw[hd,e]))
theorem MInv.sat_atE(hc:W2 PP V Q 0 V.ops cs st0)(inv:MInv V st0 cs listed a w done Γ'){k t:Nat}(hN:t∉V.N)(hk:k≤V.ops.length)(h1:∀j,j<k→∀o,V.ops[j]? = some o→o.dst=some t→j∈done)
  (h2:∀j∈done,∀o,V.ops[j]? = some o→o.dst=some t→j<k):E0 a t=(L3 V V.ops cs 0 st0 k).ρ t:=by
 rcases AZ (fun j=>∃o,V.ops[j]? = some o∧o.dst=some t) k with hn|⟨j,hj,⟨o,ho,hd⟩,hlast⟩
 ·have:=Kc (j:=0) (t:=t) hc k (by omega) (fun i _ hi o ho hd=>hn i (by omega) ⟨o,ho,hd⟩)
  rw[Nat.zero_add,CI]at this;rw[this];exact inv.init t hN fun i hi o ho hd=>hn i (h2 i hi o ho hd) ⟨o,ho,hd⟩
 ·have hin:=h1 j hj o ho hd
  obtain⟨c,hcj,hg⟩:=hc.good j ho
  have hval:=inv.last j hin o t c ho hd hN hcj fun i hi o' ho' hd'=>by
   have:=h2 i hi o' ho' hd'
   rcases Nat.lt_or_ge j i with h|h
   ·exact absurd ⟨o',ho',hd'⟩ (hlast i h this)
   ·exact h
  have hs:(L3 V V.ops cs 0 st0 (j+1)).ρ t=c.x:=by
   rw[Y0 ho hcj];simp only[Mt.next,hd]
   exact upd_same _ _ _
  have:=Kc (j:=j+1) (t:=t) hc (k-(j+1)) (by omega) (fun i h3 h4 o' ho' hd'=>hlast i (by omega) (by omega) ⟨o',ho',hd'⟩)
  rw[show j+1+(k-(j+1))=k from by omega]at this
  rw[hval,this,hs]
theorem FI(hc:W2 PP V Q 0 V.ops cs st0){p x:Nat}:∀(m:Nat),p+m≤V.ops.length→(∀j,p≤j→j<p+m→x∉V.w j)→(L3 V V.ops cs 0 st0 (p+m)).M x=(L3 V V.ops cs 0 st0 p).M x
 | 0,_,_=>rfl
 | m+1,hl,hn=>by
  have ih:=FI hc m (by omega) (fun i h1 h2=>hn i h1 (by omega))
  have ho:V.ops[p+m]? = some V.ops[p+m]:=List.getElem?_eq_getElem (by omega)
  obtain⟨c,h1,hg⟩:=hc.good (p+m) ho
  rw[←Nat.add_assoc,Y0 ho h1,←ih];have:=hn (p+m) (by omega) (by omega)
  simp[Mt.next,Mt.nxt,this]
theorem MInv.stepE{i:Nat}{QQ:Exit→Act→World→Prop}(hc:W2 PP V Q 0 V.ops cs st0)(hk:R3 V.n V.ops V.wr V.tc V.stab=true)(inv:MInv V st0 cs listed a w done Γ')(hPP:∀ch (a:Act) w,a.defers=[]→a.tmps.size=V.n→PP ch w→QQ (.panic ch) a w)
  (hr:i∈Region.ready .any V.ops.toArray listed):wpOp V.P V.ops.toArray QQ i (fun a' w'=>∃done' Γ'',MInv V st0 cs (listed.setIfInBounds i true) a' w' done' Γ''∧done'.length=done.length+1) a w∧i∉done:=by
 obtain⟨hun,o,hoa,hall⟩:=mem_ready.1 hr
 have ho:V.ops[i]? = some o:=by simpa using hoa
 have hil:i<V.ops.length:=(List.getElem?_eq_some_iff.1 ho).1
 have hni:i∉done:=fun h=>by rw[(inv.ls i hil).2 h]at hun;cases hun
 refine⟨?_,hni⟩
 obtain⟨c,hci,hg⟩:=hc.good i ho
 rw[Nat.zero_add]at hg;obtain⟨k1,k2,k3,kd,kw,kl,kn,ks,k4⟩:=T1 hk ho
 have hedges:∀e∈o.after,Region.binds .any e=true→e.on∈done:=fun e he hb=>by
  have h1:=hall e he hb
  have h2:=k1 e he hb
  have h3:e.on<listed.size:=by rw[inv.lsz];omega
  refine(inv.ls e.on (by omega)).1 ?_
  simp only[Array.getD_eq_getD_getElem?,Array.getElem?_eq_getElem h3,Option.getD_some]at h1 ⊢
  exact h1
 have hcl':Closed V.ops (·∈i::done):=fun j o' e hj ho' he hb=>by
  rcases List.mem_cons.1 hj with rfl|hj
  ·rw[ho]at ho';cases ho';exact List.mem_cons_of_mem _ (hedges e he hb)
  ·exact List.mem_cons_of_mem _ (inv.cl j o' e hj ho' he hb)
 have hanc:∀j,j∈(HU [] V.ops).getD i []→j∈i::done:=fun j hj=>j4 hcl' V.ops [] (by simp) (by simp) i j hj (by simp)
 have hanc2:∀j k,j∈(HU [] V.ops).getD k []→k∈done→j∈done:=fun j k hj hk=>j4 inv.cl V.ops [] (by simp) (by simp) k j hj hk
 have hsat:∀t∈looks V.ops o,t∉V.N→E0 a t=(L3 V V.ops cs 0 st0 i).ρ t:=fun t ht hN=>inv.sat_atE hc hN (Nat.le_of_lt hil) (fun j hj oj hoj hdj=>by
   rcases k4 j oj hj hoj with h|h
   ·exact absurd ht ((R5 h.1).1 t hdj).1
   ·rcases List.mem_cons.1 (hanc j h) with h|h
    ·omega
    ·exact h) (fun j hj oj hoj hdj=>by
   rcases Nat.lt_or_ge j i with h|h
   ·exact h
   ·rcases Nat.eq_or_lt_of_le h with h|h
    ·subst h;exact absurd hj hni
    ·obtain⟨_,_,_,_,_,_,_,_,q4⟩:=T1 hk hoj
     rcases q4 i o h ho with h'|h'
     ·exact absurd ht ((R5 h'.1).2 t hdj)
     ·exact absurd (hanc2 i j h' hj) hni)
 have hlook:∀t∈looks V.ops o,E0 a t=E7 V.N (E0 a) (L3 V V.ops cs 0 st0 i).ρ t:=fun t ht=>by
  by_cases hN:t∈V.N
  ·rw[J7 hN]
  ·rw[Gm hN];exact hsat t ht hN
 obtain⟨p,hp,hwd⟩:=inv.wd;have htc:∀x∈V.t i,(L3 V V.ops cs 0 st0 i).M x=(L3 V V.ops cs 0 st0 (p x)).M x:=fun x hx=>by
  rcases Nat.lt_or_ge i (p x) with hlt|hge
  ·
   have:=FI hc (p:=i) (x:=x) (p x-i) (by have:=(hp x).1;omega) (fun j h1 h2 hj=>by
    have hjl:j<V.ops.length:=by have:=(hp x).1;omega
    have hjd:=((hp x).2 j hj hjl).2 (by omega)
    have hoj:V.ops[j]? = some V.ops[j]:=List.getElem?_eq_getElem hjl
    rcases Nat.eq_or_lt_of_le h1 with h|h
    ·subst h;exact hni hjd
    ·obtain⟨_,_,_,_,_,_,_,_,q4⟩:=T1 hk hoj
     rcases q4 i o h ho with h'|h'
     ·exact TH h'.2 hx hj
     ·exact hni (hanc2 i j h' hjd))
   rw[show i+(p x-i)=p x from by omega]at this
   exact this.symm
  ·have:=FI hc (p:=p x) (x:=x) (i-p x) (by omega) (fun j h1 h2 hj=>by
    have hoj:V.ops[j]? = some V.ops[j]:=List.getElem?_eq_getElem (by omega)
    rcases k4 j _ (by omega) hoj with h|h
    ·exact JP h.2 hj hx
    ·rcases List.mem_cons.1 (hanc j h) with h|h
     ·omega
     ·have:=((hp x).2 j hj (by omega)).1 h;omega)
   rwa [show p x+(i-p x)=i from by omega]at this
 let rest:=(List.range V.stab.length).filter fun x=>!(V.t i).contains x
 have hperm:(List.range V.stab.length).Perm (V.t i++rest):=by
  refine(List.perm_ext_iff_of_nodup List.nodup_range ?_).2 fun x=>?_
  ·refine List.nodup_append.2 ⟨kn,List.nodup_range.filter _,fun x hx y hy hxy=>?_⟩
   subst hxy;have:=(List.mem_filter.1 hy).2
   simp at this;exact this hx
  ·simp only[List.mem_append,List.mem_range,rest,List.mem_filter]
   constructor
   ·intro h;by_cases hx:x∈V.t i
    ·exact .inl hx
    ·exact .inr ⟨h,by simpa using hx⟩
   ·rintro (h|h)
    ·exact kl x h
    ·exact h.1
 have hfm:∀F:Nat→List B2,((List.range V.stab.length).flatMap F).Perm ((V.t i).flatMap F++rest.flatMap F):=fun F=>by
  rw[←List.flatMap_append];exact List.Perm.flatMap_right _ hperm
 have W1:Wd Γ' (V.K++(cellsOf V (V.t i) (L3 V V.ops cs 0 st0 i).M (E0 a)++rest.flatMap fun x=>(L3 V V.ops cs 0 st0 (p x)).M x (E7 (V.s x) (E0 a) D4))) w:=by
  have:=hwd.perm (List.Perm.append_left V.K (hfm _))
  rwa [show cellsOf V (V.t i) (L3 V V.ops cs 0 st0 i).M (E0 a)=(V.t i).flatMap fun x=>(L3 V V.ops cs 0 st0 (p x)).M x (E7 (V.s x) (E0 a) D4) from H8 fun x hx=>by rw[htc x hx]]
 have hrun:=hg.run Γ' _ w (E0 a) inv.le W1
 have next:∀v w' Γ'',V.rl Γ' Γ''→(V.free o=false→v=c.x)→Wd Γ'' (V.K++(cellsOf V (V.t i) (Mt.nxt V i (L3 V V.ops cs 0 st0 i) c) (D2 (E0 a) o.dst v)++rest.flatMap fun x=>(L3 V V.ops cs 0 st0 (p x)).M x (E7 (V.s x) (E0 a) D4))) w' →
   MInv V st0 cs (listed.setIfInBounds i true) (a.put o.dst v) w' (i::done) Γ'':=by
  intro v w' Γ'' hle he hwd';have hput:E0 (a.put o.dst v)=D2 (E0 a) o.dst v:=Y3 a _ v (by rw[inv.size];exact K7 kd)
  refine⟨(K6 a _ v).trans inv.defers,(size_put a _ v).trans inv.size,by simpa using inv.lsz,List.nodup_cons.2 ⟨hni,inv.nd⟩,?_,?_,hcl',V.rl_trans inv.le hle,?_,?_,?_⟩
  ·intro j hj;rcases List.mem_cons.1 hj with rfl|hj
   ·exact hil
   ·exact inv.lt j hj
  ·intro j hj;by_cases hji:j=i
   ·subst hji;simp[inv.lsz,hil]
   ·rw[getD_set_ne true (Ne.symm hji),inv.ls j hj];simp[hji]
  ·intro t hN hn;rw[hput];have h1:o.dst≠some t:=hn i (by simp) o ho
   have:D2 (E0 a) o.dst v t=E0 a t:=by
    cases hd:o.dst with
    | none=>rfl
    | some d=>exact upd_ne _ _ (fun e=>h1 (by rw[hd,e]))
   rw[this];exact inv.init t hN fun j hj=>hn j (List.mem_cons_of_mem _ hj)
  ·intro j hj o' t c' ho' hd' hN hc' hmax;rw[hput];rcases List.mem_cons.1 hj with rfl|hj
   ·rw[ho]at ho';cases ho'
    rw[hci]at hc';cases hc'
    rw[hd',show D2 (E0 a) (some t) v t=v from upd_same _ _ _];exact he (by simp only[V4.free,hd'];simpa using hN)
   ·have hji:j≠i:=fun e=>hni (e ▸ hj)
    have h1:o.dst≠some t:=fun e=>by
     have hle':=hmax i (by simp) o ho e
     have hlt:i<j:=by omega
     obtain⟨_,_,_,_,_,_,_,_,q4⟩:=T1 hk ho'
     rcases q4 i o hlt ho with h|h
     ·exact((R5 h.1).1 t e).2 hd'
     ·exact hni (hanc2 i j h hj)
    have:D2 (E0 a) o.dst v t=E0 a t:=by
     cases hd:o.dst with
     | none=>rfl
     | some d=>exact upd_ne _ _ (fun e=>h1 (by rw[hd,e]))
    rw[this];exact inv.last j hj o' t c' ho' hd' hN hc' fun k hk'=>hmax k (List.mem_cons_of_mem _ hk')
  ·refine⟨fun x=>if x∈V.w i then i+1 else p x,fun x=>⟨?_,fun j hj hjl=>?_⟩,?_⟩
   ·show (if x∈V.w i then i+1 else p x)≤V.ops.length
    have:=(hp x).1
    split <;> omega
   ·by_cases hx:x∈V.w i
    ·simp only[hx,if_true]
     by_cases hji:j=i
     ·subst hji;simp
     ·simp only[List.mem_cons,hji,false_or]
      have hpi:p x≤i:=Nat.le_of_not_lt fun h=>hni (((hp x).2 i hx hil).2 h)
      rw[(hp x).2 j hj hjl];constructor
      ·intro h;omega
      ·intro h;refine((hp x).2 j hj hjl).1 ?_
       have hoj:V.ops[j]? = some V.ops[j]:=List.getElem?_eq_getElem hjl
       rcases k4 j _ (by omega) hoj with h'|h'
       ·exact absurd (JP h'.2 hj (kw x hx)) id
       ·rcases List.mem_cons.1 (hanc j h') with h'|h'
        ·omega
        ·exact h'
    ·have hji:j≠i:=fun e=>hx (e ▸ hj)
     simp only[hx,if_false,List.mem_cons,hji,false_or]
     exact(hp x).2 j hj hjl
   ·refine Wd.perm ?_ (List.Perm.append_left V.K (hfm _)).symm
    have e1:cellsOf V (V.t i) (Mt.nxt V i (L3 V V.ops cs 0 st0 i) c) (D2 (E0 a) o.dst v)=(V.t i).flatMap fun x=>(L3 V V.ops cs 0 st0 (if x∈V.w i then i+1 else p x)).M x (E7 (V.s x) (E0 (a.put o.dst v)) D4):=H8 fun x hx=>by
     rw[hput];by_cases hxw:x∈V.w i
     ·simp only[hxw,if_true]
      rw[Y0 ho hci,Nat.zero_add];rfl
     ·simp only[hxw,if_false,Mt.nxt]
      rw[←htc x hx];simp[hxw]
    have e2:(rest.flatMap fun x=>(L3 V V.ops cs 0 st0 (p x)).M x (E7 (V.s x) (E0 a) D4))=rest.flatMap fun x=>(L3 V V.ops cs 0 st0 (if x∈V.w i then i+1 else p x)).M x (E7 (V.s x) (E0 (a.put o.dst v)) D4):=H8 fun x hx=>by
     have hxt:x∉V.t i:=by have:=(List.mem_filter.1 hx).2;simpa using this
     have hxw:x∉V.w i:=fun h=>hxt (kw x h)
     simp only[hxw,if_false]
     rw[hput];congr 1
     refine FO fun t ht=>?_
     cases hd:o.dst with
     | none=>rfl
     | some d=>exact(upd_ne _ _ (fun e=>hxw (ks d x hd (by subst e;exact ht)))).symm
    rw[←e1,←e2];exact hwd'
 have hwant:Region.wanted o (yielded V.ops.toArray a.tmps)=Z6 V.ops o (E7 V.N (E0 a) (L3 V V.ops cs 0 st0 i).ρ):=by
  unfold Z6;cases hgd:o.guard with
  | none=>simp[Region.wanted,hgd]
  | some q=>
   obtain⟨j,want⟩:=q;obtain⟨dj,hdj⟩:=k3 j want hgd
   have hdn:dj<V.n:=by
    cases hoj:V.ops[j]? with
    | none=>simp[hoj]at hdj
    | some oj=>simp[hoj]at hdj;exact K7 ((T1 hk hoj).2.2.2.1) dj hdj
   simp only[hdj]
   rw[←hlook dj (List.mem_append_right _ (by simp only[hgd];simpa using hdj))]
   exact Ah o V.ops.toArray a j want hgd dj (by simpa using hdj) (by rw[inv.size];exact hdn)
 unfold wpOp;simp only[hoa,hwant]
 have hsel:AN o=true:=by
  unfold AN;split
  ·rename_i h;exact absurd h (k2 _ _)
  ·rfl
 cases hwt:Z6 V.ops o (E7 V.N (E0 a) (L3 V V.ops cs 0 st0 i).ρ) with
 | true=>
  simp only[if_true]
  have hst:=(hrun.1 hwt).congr (ops:=V.ops) hsel hlook
  exact .inl (r9.wp hst (fun v w' ⟨Γ'',h1,h2,h3⟩=>⟨_,_,next v w' Γ'' h1 h3 h2,by simp⟩) fun ch w h=>hPP ch a w inv.defers inv.size h)
 | false=>
  obtain⟨h1,h2⟩:=hrun.2 hwt
  exact⟨_,_,next undef w Γ' (V.rl_refl _) h2 h1,by simp⟩
theorem MInv.finE(hc:W2 PP V Q 0 V.ops cs st0)(inv:MInv V st0 cs listed a w done Γ')(hall:∀i,i<V.ops.length→i∈done):Q (E0 a) w:=by
 have hfin:=hc.final
 obtain⟨p,hp,hwd⟩:=inv.wd;have hρ:E0 a=E7 V.N (E0 a) (L3 V V.ops cs 0 st0 V.ops.length).ρ:=by
  funext t
  by_cases hN:t∈V.N
  ·rw[J7 hN]
  ·rw[Gm hN];exact inv.sat_atE hc hN (Nat.le_refl _) (fun j hj _ _ _=>hall j hj) (fun j hj _ _ _=>inv.lt j hj)
 rw[hρ];refine hfin Γ' w (E0 a) inv.le ?_
 have:cellsOf V (List.range V.stab.length) (L3 V V.ops cs 0 st0 V.ops.length).M (E0 a)=(List.range V.stab.length).flatMap fun x=>(L3 V V.ops cs 0 st0 (p x)).M x (E7 (V.s x) (E0 a) D4):=H8 fun x _=>by
  have:=FI hc (p:=p x) (x:=x) (V.ops.length-p x) (by have:=(hp x).1;omega) (fun j h1 h2 hj=>by
   have hjl:j<V.ops.length:=by have:=(hp x).1;omega
   have:=((hp x).2 j hj hjl).1 (hall j hjl)
   omega)
  rw[show p x+(V.ops.length-p x)=V.ops.length from by have:=(hp x).1;omega]at this
  rw[this]
 rw[this];exact hwd
theorem MInv.anyE{QQ:Exit→Fr→World→Prop}(hc:W2 PP V (fun ρ w=>QQ .normal ρ w) 0 V.ops cs st0)(hk:R3 V.n V.ops V.wr V.tc V.stab=true)(hPP:∀ch ρ w,PP ch w→QQ (.panic ch) ρ w) :
  ∀(fuel:Nat) (listed:Array Bool) (a:Act) (w:World) (done:List Nat) (Γ':C8),MInv V st0 cs listed a w done Γ'→fuel+done.length=V.ops.length→wpAny V.P .any V.ops.toArray (lift V.n QQ) fuel listed a w
 | 0,listed,a,w,done,Γ',inv,hf=>by
  have hall:∀i,i<V.ops.length→i∈done:=by
   intro i hi;refine Classical.byContradiction fun hn=>?_
   have:=nodup_le V.ops.length (i::done) (List.nodup_cons.2 ⟨hn,inv.nd⟩) (fun x hx=>by
    rcases List.mem_cons.1 hx with rfl|hx
    ·exact hi
    ·exact inv.lt x hx)
   simp at this;omega
  refine⟨?_,inv.defers,inv.size,inv.finE hc hall⟩
  refine List.eq_nil_iff_forall_not_mem.2 fun i hi=>?_
  obtain⟨hun,o,ho,_⟩:=mem_ready.1 hi
  have hil:i<V.ops.length:=by have:=(Array.getElem?_eq_some_iff.1 ho).1;simpa using this
  rw[(inv.ls i hil).2 (hall i hil)]at hun;cases hun
 | fuel+1,listed,a,w,done,Γ',inv,hf=>by
  refine⟨fun h=>⟨inv.defers,inv.size,inv.finE hc (BG hk inv h)⟩,fun i hi=>?_⟩
  refine wpOp_mono ?_ (inv.stepE hc hk (fun ch a w h1 h2 h=>⟨h1,h2,hPP ch _ w h⟩) hi).1
  rintro a' w' ⟨done',Γ'',inv',hl⟩
  exact MInv.anyE hc hk hPP fuel _ a' w' done' Γ'' inv' (by omega)
end
end
theorem Yz{PP:List PanicEntry→World→Prop}{P:Program}{n id:Nat}{l:List Oper}{Q:Exit→Fr→World→Prop}{ρ:Fr}{w:World}{Γ:C8}(K:List B2)(M:Nat→Fr→List B2)(wr tc stab:List (List Nat))(fixed:Bool)(hm:P.follows .mixedOrders=true)
  (hk:R3 n l wr tc stab=true) (hPP:∀ch ρ w,PP ch w→Q (.panic ch) ρ w) (hw:Wd Γ (K++cellsOf ⟨P,n,l,Γ,K,wr,tc,stab,fixed⟩ (List.range stab.length) M ρ) w) (h:MSwE PP ⟨P,n,l,Γ,K,wr,tc,stab,fixed⟩ (fun ρ w=>Q .normal ρ w) 0 l ⟨ρ,M⟩):W P n (.region id l.toArray true) Q ρ w:=by
 unfold W;intro a hda hs hf;refine wp_region_any hm ?_
 obtain⟨cs,hc⟩:=h.chain;have inv:MInv ⟨P,n,l,Γ,K,wr,tc,stab,fixed⟩ ⟨ρ,M⟩ cs (Array.replicate l.toArray.size false) a { w with drawn:=w.drawn+1 } [] Γ:=by
  refine⟨hda,hs,by simp,by simp,by simp,fun i hi=>?_,fun _ _ _ h=>by simp at h,V4.rl_refl _,fun t _ _=>by rw[hf],by simp,fun _=>0,fun x=>⟨Nat.zero_le _,by simp⟩,?_⟩
  ·have:i<l.length:=hi
   simp[this]
  ·simp only[CI,hf]
   exact hw.drawn
 exact MInv.anyE hc hk hPP _ _ a _ [] Γ inv (by simp)
section
variable {PP:List PanicEntry→World→Prop}{V:V4}{Q:Fr→World→Prop}
end
end Mk
end
section
open Go Mk
namespace Go.Proofs.YtlimglpjpcfpdaaGreat
set_option maxHeartbeats 16000000
attribute [local irreducible] Calls cI cB
def Dp(p:F2)(er:Int):PanicEntry:={ v:=.iface 103 (.agg #[.int .i64 p.Line,.int .i64 p.Col,.int .i64 er]),recovered:=false }
def Nv{α β:Type}(f:α→β):PR α→PR β
 | .ok (x,k)=>.ok (f x,k)
 | .error q=>.error q
def Dt(toks:List Tok)(e:F2)(kind:Int)(text:ByteArray)(k:Nat):PR Unit:=if Q9 toks k kind text=true then .ok ((),k+1) else .error (S4 toks k e,50)
def z8(toks:List Tok)(e:F2)(k:Nat):PR ByteArray:=if (Q0 toks k).Kind=1∧KM (Q0 toks k).Text=false then (if (Q0 toks k).Text.size≤24 then .ok ((Q0 toks k).Text,k+1) else .error (S4 toks k e,63)) else .error (S4 toks k e,50)
def Dq(toks:List Tok)(e:F2)(most:Int)(k:Nat):PR Int:=if (Q0 toks k).Kind=2 then (if (Q0 toks k).Value≤most then .ok ((Q0 toks k).Value,k+1) else .error (S4 toks k e,6)) else .error (S4 toks k e,50)
def EW:ByteArray:=⟨#[45]⟩
def Gf(toks:List Tok)(e:F2)(k:Nat):PR Int:=if Q9 toks k 4 EW=true then Nv (fun v=>IntKind.i64.wrap (-(IntKind.i64.wrap v))) (Dq toks e 9223372036854775808 (k+1)) else Nv (fun v=>IntKind.i64.wrap v) (Dq toks e 9223372036854775807 k)
def OI(s:ByteArray):Bool:=decide (s=⟨#[95]⟩)||(decide (65≤B3 s 0)&&decide (B3 s 0≤90))
def IV(s:ByteArray):P1:=if OI s=true then ⟨s,O4⟩ else ⟨F4,⟨2,0,s⟩⟩
def Kz(toks:List Tok)(e:F2)(k:Nat):PR P1:=
 if (Q0 toks k).Kind=1 then Nv IV (z8 toks e k)
 else if (Q0 toks k).Kind=3 then (if (Q0 toks k).Text=⟨#[]⟩∨24<(Q0 toks k).Text.size then .error (S4 toks k e,63) else .ok (⟨F4,⟨2,0,(Q0 toks k).Text⟩⟩,k+1))
 else Nv (fun v=>⟨F4,⟨1,v,⟨#[]⟩⟩⟩) (Gf toks e k)
def Db{α:Type}(Γ:C8)(S:List B2)(bp:Nat)(a:Option Addr)(n c:Nat)(e:F2)(K:α→Value):PR α→Ending→World→Prop
 | .ok (x,k),r,w=>r=.returned (K x)∧k≤n∧Wd Γ (D6 bp a n c k e.Line e.Col::S) w
 | .error (p,er),r,w=>r=.panicked [Dp p er]∧∃k,Wd Γ (D6 bp a n c k e.Line e.Col::S) w
def JL(toks:List Tok):Prop:=∀k,(Q0 toks k).Kind=1→0<(Q0 toks k).Text.size
section
variable {Γ:C8}{S:List B2}{w:World}{bp:Nat}{a:Option Addr}{n c at':Nat}{e:F2}{toks:List Tok}
theorem Cy(h:(Q0 toks at').Kind≠0):at'<toks.length:=by
 by_cases hk:at'<toks.length
 ·exact hk
 ·unfold Q0 at h;rw[List.getD_eq_getElem?_getD,List.getElem?_eq_none (by omega)]at h
  exact absurd rfl h
theorem BM{kind:Int}{text:ByteArray}(h0:kind≠0)(h:Q9 toks at' kind text=true):at'<toks.length:=by
 unfold Q9 at h;simp only[Bool.and_eq_true,decide_eq_true_eq]at h
 exact Cy (by omega)
theorem EN(er:Int)(ht:D9 Γ (.slice a n c) 5 (toks.map enc))(hw:Wd Γ (D6 bp a n c at' e.Line e.Col::S) w) :
  Calls Tryz.prog 97 #[.pointer (some ⟨bp,0,none⟩),.int .i64 er] w fun r w'=>r=.panicked [Dp (S4 toks at' e) er]∧Wd Γ (D6 bp a n c at' e.Line e.Col::S) w':=by
 have hn:n=toks.length:=by obtain⟨_,_,_,h1,h2,_⟩:=ht.shape;cases h1;simpa using h2
 unfold D6 at *
 refine A9 Tryz.func97 rfl rfl ?_
 refine A6 ?_;refine C0 ?_;intro b4 w hw;refine B1 ?_;intro w hw;refine AM ?_
 have hw:Wd Γ (.blk b4 (.cells (enc e).toArray 44)::.blk bp (.cells #[.slice a n c,.int .i64 at',.int .i64 e.Line,.int .i64 e.Col] 109)::S) w:=hw
 refine BW (fun ρ w=>∃b4:Nat,Has ρ [(1,.int .i64 er),(4,.pointer (some ⟨b4,0,none⟩))]∧Wd Γ (.blk b4 (.cells (enc (S4 toks at' e)).toArray 44)::.blk bp (.cells #[.slice a n c,.int .i64 at',.int .i64 e.Line,.int .i64 e.Col] 109)::S) w) ?_ ?_
 ·refine A6 ?_;refine I5 (by kernel_rfl) (by kernel_rfl) hw ?_
  refine EX ?_;intro w hw;refine A7 rfl (fun h=>?_) (fun h=>?_)
  ·have h:at'<n:=by simp at h;omega
   obtain⟨t,htk⟩:=B4 (l:=toks) (k:=at') (by omega)
   have hp:S4 toks at' e=⟨t.Line,t.Col⟩:=by unfold S4;rw[htk]
   refine A6 ?_;refine Fi [.blk bp _] (.blk b4 _::S) [] [[],[],[],[],[],[],[],[],[],[],[],[0]] (hw.ps [1]) ?_
   refine R1 ?_;refine Da (φ:=fun (_:Unit) _=>True) (R:=fun _=>.blk b4 (.cells (enc e).toArray 44)::S) (v:=undef) (T':=Unit) (fun _ _=>True) (fun _=>.blk b4 (.cells (enc (⟨t.Line,t.Col⟩:F2)).toArray 44)::S) (fun t' g w Y _ hw=>m9 (i:=0) (inferInstance:Rp Tryz.prog 44 2).h hw rfl rfl rfl rfl (fun u hu=>(List.all_eq_true.1 (Ep (⟨t.Line,t.Col⟩:F2))) u hu) rfl (Nat.le_refl 2) fun w' hw'=>⟨(),trivial,(fun _=>rfl),hw'⟩) ?_
   refine IX fun t' w g _ hw=>?_
   refine A6 ?_;exact⟨b4,⟨rfl,rfl,trivial⟩,by rw[hp];exact hw.flip.ps [1]⟩
  ·have h:¬at'<n:=by simp at h;omega
   have hp:S4 toks at' e=e:=by unfold S4;rw[List.getElem?_eq_none (by omega)]
   refine A6 ?_;exact⟨b4,⟨rfl,rfl,trivial⟩,by rw[hp];exact hw⟩
 ·rintro ρ w ⟨b4,hρ,hw⟩
  rw[hρ.eq];refine A6 ?_;refine lY (v:=.iface 103 (.agg #[.int .i64 (S4 toks at' e).Line,.int .i64 (S4 toks at' e).Col,.int .i64 er])) ?_ (hy:=WA Tryz.underlying103 rfl)
  refine cx ?_
  exact⟨rfl,hw.drop⟩
theorem GX(kind:Int)(text:ByteArray)(h0:kind≠0)(hat:at'≤n)(hN:toks.length≤1000000)(ht:D9 Γ (.slice a n c) 5 (toks.map enc))(hw:Wd Γ (D6 bp a n c at' e.Line e.Col::S) w) :
  Calls Tryz.prog 92 #[.pointer (some ⟨bp,0,none⟩),.int .i64 kind,.string text] w (Db Γ S bp a n c e (fun _:Unit=>.tuple #[]) (Dt toks e kind text at')):=by
 have hn:n=toks.length:=by obtain⟨_,_,_,h1,h2,_⟩:=ht.shape;cases h1;simpa using h2
 refine A9 Tryz.func92 rfl rfl ?_
 refine A6 ?_;refine D3 (vs:=[.pointer (some ⟨bp,0,none⟩),.int .i64 kind,.string text]) ?_
 refine(Z4 kind text hat hN ht hw).mono ?_
 clear hw;rintro r w ⟨rfl,hw⟩
 refine⟨_,rfl,?_⟩;unfold Dt;cases hi:Q9 toks at' kind text with
 | true=>
  have hlt:=BM h0 hi
  rw[hi,if_pos rfl]at hw;rw[if_pos rfl];refine A6 ?_;refine A7 rfl (fun h=>by cases h) (fun h=>?_)
  refine A6 ?_;exact⟨_,rfl,rfl,by omega,hw⟩
 | false=>
  rw[hi,if_neg (by decide)]at hw
  rw[if_neg (by decide)]
  refine A6 ?_;refine A7 rfl (fun h=>?_) (fun h=>by cases h)
  refine A6 ?_;refine K4 ?_
  refine(EN 50 ht hw).mono ?_
  rintro r w ⟨rfl,hw⟩
  exact⟨rfl,at',hw⟩
theorem MO(hat:at'≤n)(hN:toks.length≤1000000)(ht:D9 Γ (.slice a n c) 5 (toks.map enc))(hw:Wd Γ (D6 bp a n c at' e.Line e.Col::S) w) :
  Calls Tryz.prog 94 #[.pointer (some ⟨bp,0,none⟩)] w (Db Γ S bp a n c e (fun s:ByteArray=>.string s) (z8 toks e at')):=by
 have hn:n=toks.length:=by obtain⟨_,_,_,h1,h2,h3⟩:=ht.shape;cases h1;simpa using h2
 refine A9 Tryz.func94 rfl rfl ?_
 refine A6 ?_;refine D3 (vs:=[.pointer (some ⟨bp,0,none⟩),.int .i64 0]) ?_
 refine(FG (j:=0) (by decide) hat hN ht hw).mono ?_
 clear hw;rintro r w ⟨rfl,hw⟩
 rw[Nat.add_zero];refine⟨_,rfl,?_⟩;have hlt:=Cy (toks:=toks) (at':=at')
 unfold z8;generalize Q0 toks at'=t at *
 refine A6 ?_;refine C0 ?_;intro b3 w hw;refine B1 ?_;intro w hw;have hw:Wd Γ (.blk b3 (.cells (enc t).toArray 178)::.blk bp (.cells #[.slice a n c,.int .i64 at',.int .i64 e.Line,.int .i64 e.Col] 109)::S) w:=hw
 refine A6 ?_;refine A7 rfl (fun h=>?_) (fun h=>?_)
 ·have h:(decide (t.Kind≠1)||KM t.Text)=true:=h
  rw[if_neg (fun⟨h1,h2⟩=>by rw[h1,h2]at h;cases h)]
  refine A6 ?_;refine K4 ?_
  refine(EN (S:=.blk b3 _::S) 50 ht (hw.ps [1])).mono ?_
  rintro r w ⟨rfl,hw⟩
  exact⟨rfl,at',hw.dropAt 1⟩
 have h:(decide (t.Kind≠1)||KM t.Text)=false:=h
 obtain⟨h1,h2⟩:=Bool.or_eq_false_iff.1 h
 have h1:t.Kind=1:=by simpa using h1
 rw[if_pos ⟨h1,h2⟩];have hlt:=hlt (by omega)
 clear h;refine A6 ?_;refine A7 rfl (fun h=>?_) (fun h=>?_)
 ·have h:=of_decide_eq_true h
  rw[if_neg (by omega)]
  refine A6 ?_;refine K4 ?_
  refine(EN (S:=.blk b3 _::S) 63 ht (hw.ps [1])).mono ?_
  rintro r w ⟨rfl,hw⟩
  exact⟨rfl,at',hw.dropAt 1⟩
 have h:=of_decide_eq_false h
 rw[if_pos (by omega)]
 refine A6 ?_;refine B1 (i:=1) ?_
 intro w hw;have hw:Wd Γ (.blk b3 (.cells (enc t).toArray 178)::D6 bp a n c (at'+1) e.Line e.Col::S) w:=hw
 refine A6 ?_;exact⟨_,rfl,rfl,by omega,hw.drop⟩
theorem JI(most:Int)(hat:at'≤n)(hN:toks.length≤1000000)(ht:D9 Γ (.slice a n c) 5 (toks.map enc))(hw:Wd Γ (D6 bp a n c at' e.Line e.Col::S) w) :
  Calls Tryz.prog 150 #[.pointer (some ⟨bp,0,none⟩),.int .u64 most] w (Db Γ S bp a n c e (fun v:Int=>.int .u64 v) (Dq toks e most at')):=by
 have hn:n=toks.length:=by obtain⟨_,_,_,h1,h2,h3⟩:=ht.shape;cases h1;simpa using h2
 refine A9 Tryz.func150 rfl rfl ?_
 refine A6 ?_;refine D3 (vs:=[.pointer (some ⟨bp,0,none⟩),.int .i64 0]) ?_
 refine(FG (j:=0) (by decide) hat hN ht hw).mono ?_
 clear hw;rintro r w ⟨rfl,hw⟩
 rw[Nat.add_zero];refine⟨_,rfl,?_⟩;have hlt:=Cy (toks:=toks) (at':=at')
 unfold Dq;generalize Q0 toks at'=t at *
 refine A6 ?_;refine C0 ?_;intro b5 w hw;refine B1 ?_;intro w hw;have hw:Wd Γ (.blk b5 (.cells (enc t).toArray 178)::.blk bp (.cells #[.slice a n c,.int .i64 at',.int .i64 e.Line,.int .i64 e.Col] 109)::S) w:=hw
 refine A6 ?_;refine A7 rfl (fun h=>?_) (fun h=>?_)
 ·have h:t.Kind≠2:=of_decide_eq_true h
  rw[if_neg h];refine A6 ?_;refine K4 ?_
  refine(EN (S:=.blk b5 _::S) 50 ht (hw.ps [1])).mono ?_
  rintro r w ⟨rfl,hw⟩
  exact⟨rfl,at',hw.dropAt 1⟩
 have h1:t.Kind=2:=by have:=of_decide_eq_false h;omega
 rw[if_pos h1];have hlt:=hlt (by omega)
 clear h;refine A6 ?_;refine A7 rfl (fun h=>?_) (fun h=>?_)
 ·have h:most<t.Value:=of_decide_eq_true h
  rw[if_neg (by omega)]
  refine A6 ?_;refine K4 ?_
  refine(EN (S:=.blk b5 _::S) 6 ht (hw.ps [1])).mono ?_
  rintro r w ⟨rfl,hw⟩
  exact⟨rfl,at',hw.dropAt 1⟩
 have h:¬most<t.Value:=of_decide_eq_false h
 rw[if_pos (by omega)]
 refine A6 ?_;refine B1 (i:=1) ?_
 intro w hw;have hw:Wd Γ (.blk b5 (.cells (enc t).toArray 178)::D6 bp a n c (at'+1) e.Line e.Col::S) w:=hw
 refine A6 ?_;exact⟨_,rfl,rfl,by omega,hw.drop⟩
theorem KL(hat:at'≤n)(hN:toks.length≤1000000)(ht:D9 Γ (.slice a n c) 5 (toks.map enc))(hw:Wd Γ (D6 bp a n c at' e.Line e.Col::S) w) :
  Calls Tryz.prog 148 #[.pointer (some ⟨bp,0,none⟩)] w (Db Γ S bp a n c e (fun v:Int=>.int .i64 v) (Gf toks e at')):=by
 have hn:n=toks.length:=by obtain⟨_,_,_,h1,h2,h3⟩:=ht.shape;cases h1;simpa using h2
 refine A9 Tryz.func148 rfl rfl ?_
 refine A6 ?_;refine D3 (vs:=[.pointer (some ⟨bp,0,none⟩),.int .i64 4,.string EW]) ?_
 refine(Z4 4 EW hat hN ht hw).mono ?_
 clear hw;rintro r w ⟨rfl,hw⟩
 refine⟨_,rfl,?_⟩;unfold Gf;cases hi:Q9 toks at' 4 EW with
 | true=>
  have hlt:=BM (by decide) hi
  rw[hi,if_pos rfl]at hw;rw[if_pos rfl];refine A6 ?_;refine A7 rfl (fun h=>?_) (fun h=>by cases h)
  refine A6 ?_;refine K4 (vs:=[.pointer (some ⟨bp,0,none⟩),.int .u64 9223372036854775808]) ?_
  refine(JI (at':=at'+1) 9223372036854775808 (by omega) hN ht hw).mono ?_
  clear hw;rintro r w hr
  cases hN2:Dq toks e 9223372036854775808 (at'+1) with
  | error q=>
   obtain⟨p,er⟩:=q;rw[hN2]at hr;obtain⟨rfl,hw⟩:=hr;exact⟨rfl,hw⟩
  | ok q=>
   obtain⟨x,k⟩:=q;rw[hN2]at hr;obtain⟨rfl,hk,hw⟩:=hr;refine A6 ?_;refine lY (v:=.int .i64 (IntKind.i64.wrap (-(IntKind.i64.wrap x)))) ?_ (hy:=Xv rfl)
   refine A6 ?_;exact⟨_,rfl,rfl,hk,hw⟩
 | false=>
  rw[hi,if_neg (by decide)]at hw
  rw[if_neg (by decide)]
  refine A6 ?_;refine A7 rfl (fun h=>by cases h) (fun h=>?_)
  refine A6 ?_;refine K4 (vs:=[.pointer (some ⟨bp,0,none⟩),.int .u64 9223372036854775807]) ?_
  refine(JI 9223372036854775807 hat hN ht hw).mono ?_
  clear hw;rintro r w hr
  cases hN2:Dq toks e 9223372036854775807 at' with
  | error q=>
   obtain⟨p,er⟩:=q;rw[hN2]at hr;obtain⟨rfl,hw⟩:=hr;exact⟨rfl,hw⟩
  | ok q=>
   obtain⟨x,k⟩:=q;rw[hN2]at hr;obtain⟨rfl,hk,hw⟩:=hr;refine A6 ?_;exact⟨_,rfl,rfl,hk,hw⟩
theorem CL(hW:JL toks)(hat:at'≤n)(hN:toks.length≤1000000)(ht:D9 Γ (.slice a n c) 5 (toks.map enc))(hw:Wd Γ (D6 bp a n c at' e.Line e.Col::S) w) :
  Calls Tryz.prog 147 #[.pointer (some ⟨bp,0,none⟩)] w (Db Γ S bp a n c e (fun o:P1=>.agg (enc o).toArray) (Kz toks e at')):=by
 have hn:n=toks.length:=by obtain⟨_,_,_,h1,h2,h3⟩:=ht.shape;cases h1;simpa using h2
 refine K9 Tryz.func147 rfl rfl ?_
 refine A6 ?_;refine C0 ?_;intro b2 w hw;have hw:Wd Γ (D6 bp a n c at' e.Line e.Col::.blk b2 (.cells (enc (⟨F4,O4⟩:P1)).toArray 125)::S) w:=hw.ps [1]
 refine A6 ?_;refine D3 (vs:=[.pointer (some ⟨bp,0,none⟩),.int .i64 0]) ?_
 refine(FG (j:=0) (by decide) hat hN ht hw).mono ?_
 clear hw;rintro r w ⟨rfl,hw⟩
 rw[Nat.add_zero];refine⟨_,rfl,?_⟩;have hlt:=Cy (toks:=toks) (at':=at')
 have hpos:=hW at'
 have hWd:=fun (S:List B2) (w:World) hw=>MO (S:=S) (w:=w) (e:=e) (bp:=bp) hat hN ht hw
 unfold Kz;unfold z8 at hWd;unfold z8;generalize Q0 toks at'=t at *
 refine A6 ?_;refine C0 ?_;intro b3 w hw;refine B1 ?_;intro w hw;have hw:Wd Γ (D6 bp a n c at' e.Line e.Col::.blk b2 (.cells (enc (⟨F4,O4⟩:P1)).toArray 125)::.blk b3 (.cells (enc t).toArray 178)::S) w:=hw.ps [2,2]
 refine A6 ?_;refine A7 rfl (fun h=>?_) (fun h=>?_)
 ·have h1:t.Kind=1:=of_decide_eq_true h
  clear h;rw[if_pos h1];have hp0:=hpos h1
  refine A6 ?_;refine K4 (vs:=[.pointer (some ⟨bp,0,none⟩)]) ?_
  refine(hWd _ _ hw).mono ?_
  clear hw;rintro r w hr
  by_cases hc:t.Kind=1∧KM t.Text=false
  rotate_left
  ·rw[if_neg hc]at hr ⊢
   obtain⟨rfl,k,hw⟩:=hr;exact⟨rfl,k,(hw.dropAt 1).dropAt 1⟩
  rw[if_pos hc]at hr ⊢
  by_cases hs:t.Text.size≤24
  rotate_left
  ·rw[if_neg hs]at hr ⊢
   obtain⟨rfl,k,hw⟩:=hr;exact⟨rfl,k,(hw.dropAt 1).dropAt 1⟩
  rw[if_pos hs]at hr ⊢
  obtain⟨rfl,hk,hw⟩:=hr;have hv:IV t.Text=if OI t.Text=true then ⟨t.Text,O4⟩ else ⟨F4,⟨2,0,t.Text⟩⟩:=rfl
  refine A6 ?_;refine A7 rfl (fun h=>?_) (fun h=>?_)
  ·have h:OI t.Text=true:=h
   rw[if_pos h]at hv;refine A6 ?_;refine B1 (i:=1) ?_
   intro w hw;have hw:Wd Γ (.blk b2 (.cells (enc (⟨t.Text,O4⟩:P1)).toArray 125)::D6 bp a n c (at'+1) e.Line e.Col::.blk b3 (.cells (enc t).toArray 178)::S) w:=hw.ps [1]
   refine A6 ?_;refine⟨[.agg (enc (⟨t.Text,O4⟩:P1)).toArray],⟨T4 (i:=0) hw rfl rfl rfl,trivial⟩,?_⟩
   show Db Γ S bp a n c e (fun o:P1=>.agg (enc o).toArray) (.ok (IV t.Text,at'+1)) _ _
   rw[hv];exact⟨rfl,hk,hw.drop.dropAt 1⟩
  ·have h:OI t.Text=false:=h
   rw[if_neg (by rw[h];decide)]at hv
   refine A6 ?_;refine B1 (i:=1) ?_
   intro w hw;have hw:Wd Γ (.blk b2 (.cells (enc (⟨F4,⟨2,0,t.Text⟩⟩:P1)).toArray 125)::D6 bp a n c (at'+1) e.Line e.Col::.blk b3 (.cells (enc t).toArray 178)::S) w:=hw.ps [1]
   refine A6 ?_;refine⟨[.agg (enc (⟨F4,⟨2,0,t.Text⟩⟩:P1)).toArray],⟨T4 (i:=0) hw rfl rfl rfl,trivial⟩,?_⟩
   show Db Γ S bp a n c e (fun o:P1=>.agg (enc o).toArray) (.ok (IV t.Text,at'+1)) _ _
   rw[hv];exact⟨rfl,hk,hw.drop.dropAt 1⟩
 have h1:¬t.Kind=1:=of_decide_eq_false h
 clear h;rw[if_neg h1];refine A6 ?_;refine A7 rfl (fun h=>?_) (fun h=>?_)
 ·have h3:t.Kind=3:=of_decide_eq_true h
  clear h;rw[if_pos h3];have hlt:=hlt (by omega)
  refine A6 ?_;refine A7 rfl (fun h=>?_) (fun h=>?_)
  ·have h:(decide (t.Text=⟨#[]⟩)||decide ((24:Int)<(t.Text.size:Int)))=true:=h
   rw[if_pos (by simp only[Bool.or_eq_true,decide_eq_true_eq]at h;exact h.imp id fun h=>by omega)]
   refine A6 ?_;refine K4 ?_
   refine(EN 63 ht hw).mono ?_
   rintro r w ⟨rfl,hw⟩
   exact⟨rfl,at',(hw.dropAt 1).dropAt 1⟩
  ·have h:(decide (t.Text=⟨#[]⟩)||decide ((24:Int)<(t.Text.size:Int)))=false:=h
   rw[if_neg (by simp only[Bool.or_eq_false_iff,decide_eq_false_iff_not]at h;exact fun hh=>hh.elim h.1 fun h2=>h.2 (by omega))]
   unfold D6 at hw;refine A6 ?_;refine B1 ?_;intro w hw;refine A6 ?_;refine B1 (i:=1) ?_
   intro w hw;have hw:Wd Γ (.blk b2 (.cells (enc (⟨F4,⟨2,0,t.Text⟩⟩:P1)).toArray 125)::D6 bp a n c (at'+1) e.Line e.Col::.blk b3 (.cells (enc t).toArray 178)::S) w:=hw.ps [1]
   refine A6 ?_;exact⟨[.agg (enc (⟨F4,⟨2,0,t.Text⟩⟩:P1)).toArray],⟨T4 (i:=0) hw rfl rfl rfl,trivial⟩,rfl,by omega,hw.drop.dropAt 1⟩
 ·have h3:¬t.Kind=3:=of_decide_eq_false h
  clear h;rw[if_neg h3];refine A6 ?_;refine K4 (vs:=[.pointer (some ⟨bp,0,none⟩)]) ?_
  refine(KL hat hN ht hw).mono ?_
  clear hw;rintro r w hr
  cases hI:Gf toks e at' with
  | error q=>
   obtain⟨p,er⟩:=q;rw[hI]at hr;obtain⟨rfl,k,hw⟩:=hr;exact⟨rfl,k,(hw.dropAt 1).dropAt 1⟩
  | ok q=>
   obtain⟨x,k⟩:=q;rw[hI]at hr;obtain⟨rfl,hk,hw⟩:=hr;refine A6 ?_;refine B1 (i:=1) ?_
   intro w hw;have hw:Wd Γ (.blk b2 (.cells (enc (⟨F4,⟨1,x,⟨#[]⟩⟩⟩:P1)).toArray 125)::D6 bp a n c k e.Line e.Col::.blk b3 (.cells (enc t).toArray 178)::S) w:=hw.ps [1]
   refine A6 ?_;exact⟨[.agg (enc (⟨F4,⟨1,x,⟨#[]⟩⟩⟩:P1)).toArray],⟨T4 (i:=0) hw rfl rfl rfl,trivial⟩,rfl,hk,hw.drop.dropAt 1⟩
end
end Go.Proofs.YtlimglpjpcfpdaaGreat
end
section
open Go Mk
namespace Go.Proofs.YtlimglpjpcfpdaaGreat
set_option maxHeartbeats 16000000
attribute [local irreducible] Calls cI cB
section
variable {P:Program}{n:Nat}{ops:List Oper}{Γ:C8}{K:List B2}{wr tc stab:List (List Nat)}{Q:Fr→World→Prop}{i:Nat}{rest:List Oper}{ρ:Fr}{M:Nat→Fr→List B2}
variable {T T':Type}{ty:TypeId}{pos:String}{es:Array Edge}
theorem II{c dd f:Nat}{args:List Operand}{tys:Array TypeId}{vs:List Value}{φ:T→Fr→Prop}{R:T→List B2}[C7 P f](val:T'→Value)(R':T'→List B2)
  (hcall:∀t S w,Wd Γ (R t++S) w→Calls P f vs.toArray w fun e w'=>∃t':T',e=.returned (val t')∧Wd Γ (R' t'++S) w')
  (h:MSw (mV P n ops Γ K wr tc stab) Q (i+1) rest ⟨D2 ρ (some dd) undef,H5 M c (P5 (fun (t:T') g=>g dd=val t) R')⟩)
  (hw0:wr.getD i []=[c]:=by exact rfl) (ht:tc.getD i []=[c]:=by exact rfl) (hM:M c=P5 φ R:=by first|exact B0|exact UY|exact Cm|exact((A0 (by decide)).trans B0)|exact((A0 (by decide)).trans Cm)|exact rfl)
  (hs:(stab.getD c []).contains dd=true:=by exact rfl) (hfr:T8 stab (some dd)=true:=by exact rfl) (ha:∀g,EvL (E7 stab.flatten g ρ) args vs:=by intro g;exact v7) :
  MSw (mV P n ops Γ K wr tc stab) Q i (⟨some dd,.call { callee:=.value (.func f),args:=args.toArray,argTypes:=tys },ty,pos,es,none⟩::rest) ⟨ρ,M⟩:=
 mS (v:=undef) (P5 (fun (t:T') g=>g dd=val t) R') (fun g w Y hw=>by
  obtain⟨t,-,hw⟩:=L9 hw
  refine An (ha g).eqA ((hcall t _ _ hw).mono ?_)
  rintro e w' ⟨t',rfl,hw'⟩
  refine⟨_,rfl,fun hh=>(by rw[hfr]at hh;cases hh),U2 t' ?_ hw'⟩
  rw[J7 (by simpa using hs)];exact upd_same _ _ _) h hM hw0 ht rfl
end
theorem Pq{P:Program}{d:Option Tmp}{T f:Nat}{x:Operand}{ty:TypeId}{pos:String}{es:Array Edge}{g:Option (Nat×Bool)}{ρ:Fr}{w:World}{cs:Array Value}{v:Value}{fs:Array Field}{fd:Field}(hu:P.underlying T=some (.struct fs))(hf:fs[f]? = some fd)(hs:Ha P fd.type=true)(hc:cs[fd.offset]? = some v)(hx:ev ρ x=.agg cs) :
  Mk.Yields P ⟨d,.field T x f,ty,pos,es,g⟩ ρ w v:=by
 unfold Mk.Yields;simp[execOp,go_sem,hx,Instr.field,run_underlying hu,hf,part,BC hs,hc,asAgg]
theorem Kb{c:Bool}{v:Value}(h:c=true):gv c v=v:=Co h rfl
def V8:ByteArray:=⟨#[44]⟩
def Az:ByteArray:=⟨#[40]⟩
def Qi:ByteArray:=⟨#[41]⟩
def Ab:ByteArray:=⟨#[110,111,116]⟩
def I4:P1:=⟨F4,O4⟩
def aP(s:ByteArray)(os:List P1):H3:=⟨1,s,os,0,I4,I4,0,0,0⟩
section
variable {Γ:C8}{S:List B2}{w:World}{bp:Nat}{a:Option Addr}{n c at':Nat}{e1 e2:Int}{toks:List Tok}
end
end Go.Proofs.YtlimglpjpcfpdaaGreat
end
