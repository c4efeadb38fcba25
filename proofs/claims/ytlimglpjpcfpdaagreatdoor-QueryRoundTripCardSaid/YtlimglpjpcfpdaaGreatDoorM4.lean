/- Texts of this proof, one behind another. -/
import Derived.Test.YtlimglpjpcfpdaaGreatDoorM3
import Derived.Test.YtlimglpjpcfpdaaGreatDoorM2
import Derived.Shelf.SlLaysF
set_option linter.unusedVariables false
set_option linter.unusedSimpArgs false
section
open Go Mk
namespace Go.Proofs.YtlimglpjpcfpdaaGreatDoor
set_option maxHeartbeats 16000000
attribute [local irreducible] Calls cI cB
theorem HD{Γ:B5}{S:List B1}{w:World}{q:Nat}[B9 Tryz.prog q]{cap:List Value}{v:Value}(p:B6→Bool)(fs:List B6)(hcl:∀x∈fs,∀w,Wd Γ S w→Calls Tryz.prog q (.agg (cF x).toArray::cap).toArray w fun e w'=>e=.returned (.bool (p x))∧Wd Γ S w')(hr:D2 Γ v 2 (fs.map cF))(hw:Wd Γ S w) :
  Calls Tryz.prog 284 #[v,.func (.func q) #[] cap.toArray] w fun e w'=>∃i:Int,e=.returned (.int .i64 i)∧decide (0≤i)=fs.any p∧Wd Γ S w':=by
 obtain⟨a,n,c,rfl,hn,hnc,hc⟩:=hr.shape;simp only[List.length_map]at hn
 refine A5 Tryz.func284 rfl rfl ?_
 refine A1 ?_;refine C7 (fun μ ρ w=>∃(k:Nat),μ+k=n∧Has ρ [(0,.slice a n c),(1,.func (.func q) #[] cap.toArray),(7,.int .i64 n),(8,.int .i64 k)]∧(∀j x,j<k→fs[j]? = some x→p x=false)∧Wd Γ S w) n ⟨0,by omega,⟨rfl,rfl,rfl,rfl,trivial⟩,fun j x hj=>by omega,hw⟩ ?_
 clear hw;rintro μ ρ w ⟨k,hk,hρ,hno,hw⟩
 rw[hρ.eq];refine A1 ?_;refine A0 rfl (fun h=>?_) (fun h=>?_)
 ·have hkn:k<n:=by have:=of_decide_eq_true h;omega
  obtain⟨x,hx⟩:=B8 (l:=fs) (k:=k) (by omega)
  refine A1 ?_;refine Cc (fst:=[]) (cap:=cap) (vs:=[.agg (cF x).toArray]) ?_
  refine(hcl x (List.mem_of_getElem? hx) w hw).mono ?_
  clear hw;rintro e w ⟨rfl,hw⟩
  refine⟨_,rfl,?_⟩;refine A1 ?_;refine A0 rfl (fun h2=>?_) (fun h2=>?_)
  ·refine A1 ?_;refine⟨_,rfl,_,rfl,?_,hw⟩
   rw[decide_eq_true (by omega:(0:Int)≤(k:Int)),List.any_eq_true.2 ⟨x,List.mem_of_getElem? hx,h2⟩]
  ·refine A1 ?_;refine⟨μ-1,by omega,k+1,by omega,⟨rfl,rfl,rfl,rfl,trivial⟩,fun j y hj hy=>?_,hw⟩
   by_cases e:j=k
   ·subst e;rw[hx]at hy;cases hy;exact h2
   ·exact hno j y (by omega) hy
 ·have hkn:¬k<n:=by have:=of_decide_eq_false h;omega
  refine A1 ?_;refine⟨_,rfl,-1,rfl,?_,hw⟩
  rw[decide_eq_false (by omega),eq_comm,List.any_eq_false]
  intro x hx;obtain⟨j,hj⟩:=List.mem_iff_getElem?.1 hx
  have hlt:=(List.getElem?_eq_some_iff.1 hj).1
  rw[hno j x (by omega) hj];simp
theorem EZ{Γ:B5}{S:List B1}{w:World}{q:Nat}[B9 Tryz.prog q]{cap:List Value}{v:Value}(p:B6→Bool)(fs:List B6)(hcl:∀x∈fs,∀w,Wd Γ S w→Calls Tryz.prog q (.agg (cF x).toArray::cap).toArray w fun e w'=>e=.returned (.bool (p x))∧Wd Γ S w')(hr:D2 Γ v 2 (fs.map cF))(hw:Wd Γ S w) :
  Calls Tryz.prog 229 #[v,.func (.func q) #[] cap.toArray] w fun e w'=>e=.returned (.bool (fs.any p))∧Wd Γ S w':=by
 obtain⟨a,n,c,rfl,-,-,-⟩:=hr.shape;refine A5 Tryz.func229 rfl rfl ?_
 refine A1 ?_;refine D1 (vs:=[.slice a n c,.func (.func q) #[] cap.toArray]) ((HD p fs hcl hr hw).mono fun e w hq=>?_)
 obtain⟨i,rfl,hi,hw⟩:=hq;refine⟨_,rfl,?_⟩;refine A1 ?_;exact⟨_,rfl,J5 rfl hi,hw⟩
structure OH(Γ:B5)(vs vg vt:Value)(gs:List E5)(ts:List (Value×List B6))(db:List H3)(q:D3):Prop where
 qr:QR Γ vs vg gs q
 qok:J2 q
 tab:D2 Γ vt 1 (ts.map fun t=>[t.1])
 len:ts.length=gs.length
 rl:∀t∈ts,RL Γ t.1 t.2
 eq:∀(k:Nat) x t,gs[k]? = some x→ts[k]? = some t→facts t.2=Q5 db x.g
 ar:∀x∈gs,E3 x.g=true→∀f∈Q5 db x.g,x.g.Args.length=f.2.length
theorem DR{db:List H3}{g:D6}:∀f∈Q5 db g,g.Args.length=f.2.length:=by
 intro f hf;unfold Q5 at hf;split at hf
 ·unfold LG LM at hf;have:=(List.mem_filter.1 hf).2
  simp only[Bool.and_eq_true,decide_eq_true_eq]at this
  omega
 ·cases hf
theorem My{α:Type}{A:List α}{z x:α}{k m:Nat}(h:A.length=k)(hm:0<m):(A++List.replicate m z).set k x=(A++[x])++List.replicate (m-1) z:=by
 obtain⟨m,rfl⟩:∃n,m=n+1:=⟨m-1,by omega⟩
 rw[List.set_append_right _ _ (by omega),h,Nat.sub_self,List.replicate_succ,List.set_cons_zero,List.append_assoc];rfl
section
variable {Γ:B5}{vs vg vt:Value}{gs:List E5}{ts:List (Value×List B6)}{db:List H3}{q:D3}
theorem OH.glen(h:OH Γ vs vg vt gs ts db q):gs.length≤1000:=by
 have:=h.qok.len
 rw[←h.qr.eq,List.length_map]at this;exact this
theorem OH.goal(h:OH Γ vs vg vt gs ts db q){x:E5}(hx:x∈gs):S5 x.g:=
 h.qok.goals _ (by rw[←h.qr.eq];exact List.mem_map_of_mem (f:=(·.g)) hx)
theorem K7{α:Type}{p:α→Bool}{l:List α}{k:Nat}{x:α}(h:l[k]? = some x):(l.drop k).all p=(p x&&(l.drop (k+1)).all p):=by
 rw[K6 h,List.all_cons]
theorem Dr(h:OH Γ vs vg vt gs ts db q){k:Nat}{x:E5}(hx:gs[k]? = some x):(I5 db q)[k]? = some (x.g,Q5 db x.g):=by
 unfold I5;rw[←h.qr.eq,List.getElem?_map,List.getElem?_map,hx];rfl
theorem Ee(h:OH Γ vs vg vt gs ts db q):(I5 db q).length=gs.length:=by
 unfold I5;rw[←h.qr.eq,List.length_map,List.length_map]
theorem LB{e:Env}{os:List F1}{fs:List B6}{tb:List H3}(h:facts fs=tb):(fs.any fun f=>L2 e os f.Args)=tb.any fun f=>L2 e os f.2:=by
 rw[←h];unfold facts;rw[List.any_map];rfl
end
theorem Nz{Γ:B5}{S:List B1}{w:World}{b b1 b3 bm:Nat}{vs vg vt vr:Value}{e:Env}{g:D6}{A:Option Addr}{N C:Nat}(hg:GB Γ ⟨g,A,N,C⟩)(hgo:S5 g){f:B6}(hf:BD Γ f)(hfo:Z8 f.fact)(hlen:g.Args.length=f.Args.length)(hn:G4 e C9=none)(hw:Wd Γ (.blk b3 (.cells (cG ⟨g,A,N,C⟩).toArray 79)::.blk b1 (.cells #[.pointer (some ⟨b,0,none⟩)] 158)::.blk b (D8 vs vg vt vr bm)::C5 bm e::S) w) :
  Calls Tryz.prog 230 #[.agg (cF f).toArray,.pointer (some ⟨b1,0,none⟩),.pointer (some ⟨b3,0,none⟩)] w fun r w'=>r=.returned (.bool (L2 e g.Args f.Args))∧Wd Γ (.blk b3 (.cells (cG ⟨g,A,N,C⟩).toArray 79)::.blk b1 (.cells #[.pointer (some ⟨b,0,none⟩)] 158)::.blk b (D8 vs vg vt vr bm)::C5 bm e::S) w':=by
 have hF:=fun (S':List B1) (w:World) (hw:Wd Γ (.blk b (D8 vs vg vt vr bm)::C5 bm e::S') w)=>HB (va:=.slice A N C) (os:=g.Args) (f:=f) hg hgo.args hf hfo hlen hn hgo.len hw
 obtain⟨fr,fa,fn,fc,xs⟩:=f;refine A5 Tryz.func230 rfl rfl ?_
 refine A1 ?_;refine K4 ?_;intro b4 w hw;have hw:Wd Γ (.blk b4 (.cells #[.string fr,.slice fa fn fc] 82)::.blk b3 (.cells (cG ⟨g,A,N,C⟩).toArray 79)::.blk b1 (.cells #[.pointer (some ⟨b,0,none⟩)] 158)::.blk b (D8 vs vg vt vr bm)::C5 bm e::S) w:=hw
 refine A1 ?_;have hw1:Wd Γ (.blk b (D8 vs vg vt vr bm)::C5 bm e::(.blk b4 (.cells #[.string fr,.slice fa fn fc] 82)::.blk b3 (.cells (cG ⟨g,A,N,C⟩).toArray 79)::.blk b1 (.cells #[.pointer (some ⟨b,0,none⟩)] 158)::S)) w:=hw.perm K1
 refine D1 (vs:=[.pointer (some ⟨b,0,none⟩),.slice A N C,.agg (cF ⟨fr,fa,fn,fc,xs⟩).toArray]) ((hF _ w hw1).mono fun r w hq=>?_)
 clear hw hw1;obtain⟨rfl,hw⟩:=hq;have hw:Wd Γ (.blk b4 (.cells #[.string fr,.slice fa fn fc] 82)::.blk b3 (.cells (cG ⟨g,A,N,C⟩).toArray 79)::.blk b1 (.cells #[.pointer (some ⟨b,0,none⟩)] 158)::.blk b (D8 vs vg vt vr bm)::C5 bm e::S) w:=hw.perm K1
 refine⟨_,rfl,?_⟩;refine A1 ?_;exact⟨_,rfl,rfl,hw.drop⟩
theorem IH{Γ:B5}{S:List B1}{w:World}{b bm:Nat}{vs vg vt:Value}{gs:List E5}{ts:List (Value×List B6)}{db:List H3}{q:D3}{rs:List (List Val)}{e:Env}(hS:OH Γ vs vg vt gs ts db q)(he:T6 e)(hrs:rs.length+(Br (I5 db q) q.Sel e).length≤1000000)
  (hw:Wd Γ (SV b bm vs vg vt rs::C5 bm e::S) w) :
  Calls Tryz.prog 152 #[.pointer (some ⟨b,0,none⟩)] w fun r w'=>r=.returned (.tuple #[])∧Wd Γ (SV b bm vs vg vt (rs++Br (I5 db q) q.Sel e)::C5 bm e::S) w':=by
 obtain⟨ga,gn,gc,rfl,hgn,hgnc,hgc⟩:=hS.qr.goals.shape;obtain⟨sa,sn,sc,rfl,hsn,hsnc,hsc⟩:=hS.qr.sel.shape;obtain⟨ta,tn,tc,rfl,htn,htnc,htc⟩:=hS.tab.shape;simp only[List.length_map]at hgn hsn htn
 have hrG:=hS.qr.goals
 have hrS:=hS.qr.sel
 have hrT:=hS.tab
 have hgl:=hS.glen
 have htl:=hS.len
 have hsl:=hS.qok.sel
 obtain⟨vr,L,hL,hw⟩:=m8 hw
 refine A5 Tryz.func152 rfl rfl ?_
 refine A1 ?_;refine K4 ?_;intro b1 w hw;have hw:Wd Γ (.blk b1 (.cells #[.pointer (some ⟨b,0,none⟩)] 158)::.blk b (D8 (.slice sa sn sc) (.slice ga gn gc) (.slice ta tn tc) vr bm)::(E8 vr L++(C5 bm e::S))) w:=hw
 have hw:Wd Γ (.blk b1 (.cells #[.pointer (some ⟨b,0,none⟩)] 158)::.blk b (D8 (.slice sa sn sc) (.slice ga gn gc) (.slice ta tn tc) vr bm)::C5 bm e::(E8 vr L++S)) w:=hw.perm K1
 refine A1 ?_;refine C7 (fun μ ρ w=>∃(k:Nat),μ+k=gn∧Has ρ [(1,.pointer (some ⟨b1,0,none⟩)),(11,.slice ga gn gc),(12,.int .i64 gn),(13,.int .i64 k)]∧(I5 db q).all (Y1 e)=((I5 db q).drop k).all (Y1 e)∧Wd Γ (.blk b1 (.cells #[.pointer (some ⟨b,0,none⟩)] 158)::.blk b (D8 (.slice sa sn sc) (.slice ga gn gc) (.slice ta tn tc) vr bm)::C5 bm e::(E8 vr L++S)) w) gn ⟨0,by omega,⟨rfl,rfl,rfl,rfl,trivial⟩,rfl,hw⟩ ?_
 clear hw;rintro μ ρ w ⟨k,hk,hρ,hall,hw⟩
 rw[hρ.eq];clear hρ;have stop:∀w,(I5 db q).all (Y1 e)=false→Wd Γ (.blk b1 (.cells #[.pointer (some ⟨b,0,none⟩)] 158)::.blk b (D8 (.slice sa sn sc) (.slice ga gn gc) (.slice ta tn tc) vr bm)::C5 bm e::(E8 vr L++S)) w→Wd Γ (SV b bm (.slice sa sn sc) (.slice ga gn gc) (.slice ta tn tc) (rs++Br (I5 db q) q.Sel e)::C5 bm e::S) w:=by
  intro w h0 hw;unfold Br;rw[h0];simp only[Bool.false_eq_true,if_false,List.append_nil]
  refine P1 (vr:=vr) hL ?_
  have hw:Wd Γ (.blk b (D8 (.slice sa sn sc) (.slice ga gn gc) (.slice ta tn tc) vr bm)::C5 bm e::(E8 vr L++S)) w:=hw.drop
  exact hw.perm K1
 refine A1 ?_;refine A0 rfl (fun h=>?_) (fun h=>?_)
 ·have hkn:k<gn:=by have:=of_decide_eq_true h;omega
  clear h;obtain⟨x,hx⟩:=B8 (l:=gs) (k:=k) (by omega)
  obtain⟨t,ht⟩:=B8 (l:=ts) (k:=k) (by omega)
  have hxm:=List.mem_of_getElem? hx
  have htm:=List.mem_of_getElem? ht
  have hgok:=hS.qr.ok x hxm
  have hgoal:=hS.goal hxm
  have hRL:=hS.rl t htm
  have heq:=hS.eq k x t hx ht
  have har:=DR (db:=db) (g:=x.g)
  rw[K7 (Dr hS hx)]at hall;obtain⟨g,A,N,C⟩:=x;simp only at hgoal heq har
  refine A1 ?_;refine B4 ?_;intro b3 w hw;refine A1 ?_;refine B0 ?_;intro w hw;have hw:Wd Γ (.blk b3 (.cells (cG ⟨g,A,N,C⟩).toArray 79)::.blk b1 (.cells #[.pointer (some ⟨b,0,none⟩)] 158)::.blk b (D8 (.slice sa sn sc) (.slice ga gn gc) (.slice ta tn tc) vr bm)::C5 bm e::(E8 vr L++S)) w:=hw
  refine A1 ?_;refine A0 rfl (fun h=>?_) (fun h=>?_)
  ·have hk3:g.Kind=3:=of_decide_eq_true h
   have hdone:Y1 e (g,Q5 db g)=w5 g (DD e g.L) (DD e g.R):=by
    unfold Y1;rw[if_pos hk3]
   have hvl:Y5 (DD e g.L):=by
    unfold DD;split
    ·exact he.get _
    ·exact hgoal.l.2
   have hvr:Y5 (DD e g.R):=by
    unfold DD;split
    ·exact he.get _
    ·exact hgoal.r.2
   have p1:∀o:F1,PS Tryz.prog Γ (.blk b3 (.cells (cG ⟨g,A,N,C⟩).toArray 79)::.blk b1 (.cells #[.pointer (some ⟨b,0,none⟩)] 158)::.blk b (D8 (.slice sa sn sc) (.slice ga gn gc) (.slice ta tn tc) vr bm)::C5 bm e::(E8 vr L++S)) 228 [.pointer (some ⟨b,0,none⟩),.agg (enc o).toArray] (.agg (enc (DD e o)).toArray):=fun o=>⟨fun Y w hw=>by
    have hw1:Wd Γ (.blk b (D8 (.slice sa sn sc) (.slice ga gn gc) (.slice ta tn tc) vr bm)::C5 bm e::(.blk b3 (.cells (cG ⟨g,A,N,C⟩).toArray 79)::.blk b1 (.cells #[.pointer (some ⟨b,0,none⟩)] 158)::(E8 vr L++(S++Y)))) w:=hw.perm K1
    exact(Kd (o:=o) hw1).mono fun r w' ⟨h1,h2⟩=>⟨h1,h2.perm K1⟩⟩
   have p1l:=p1 g.L
   have p1r:=p1 g.R
   have p2:=NV (Γ:=Γ) (x:=⟨g,A,N,C⟩) hgoal.off hvl hvr
   refine A1 ?_;refine K5 (by kernel_rfl) (by kernel_rfl) hw ?_
   repeat(first|(first|refine Aa ?_|(apply O6;first|(apply T9;first|refine qP ?_|refine MG ?_)|refine qY ?_)|(apply J6;first|(apply T9;first|refine Nr ?_|refine En ?_)|refine qG ?_))|(apply O6;apply T9;refine RP ?_)|(apply J6;apply T9;refine QI ?_))
   refine RP (hp:=p1l) ?_
   repeat(first|(first|refine Aa ?_|(apply O6;first|(apply T9;first|refine qP ?_|refine MG ?_)|refine qY ?_)|(apply J6;first|(apply T9;first|refine Nr ?_|refine En ?_)|refine qG ?_))|(apply O6;apply T9;refine RP ?_)|(apply J6;apply T9;refine QI ?_))
   refine RP (hp:=p1r) ?_
   repeat(first|(first|refine Aa ?_|(apply O6;first|(apply T9;first|refine qP ?_|refine MG ?_)|refine qY ?_)|(apply J6;first|(apply T9;first|refine Nr ?_|refine En ?_)|refine qG ?_))|(apply O6;apply T9;refine RP ?_)|(apply J6;apply T9;refine QI ?_))
   clear hw;intro w hw;have hw:Wd Γ (.blk b3 (.cells (cG ⟨g,A,N,C⟩).toArray 79)::.blk b1 (.cells #[.pointer (some ⟨b,0,none⟩)] 158)::.blk b (D8 (.slice sa sn sc) (.slice ga gn gc) (.slice ta tn tc) vr bm)::C5 bm e::(E8 vr L++S)) w:=hw
   refine A0 rfl (fun h=>?_) (fun h=>?_)
   ·refine A1 ?_;refine⟨_,rfl,rfl,stop w ?_ hw.drop⟩
    have h0:Y1 e (g,Q5 db g)=false:=by rw[hdone];simpa using h
    rw[hall,h0,Bool.false_and]
   ·have h0:Y1 e (g,Q5 db g)=true:=by rw[hdone];simpa using h
    rw[h0,Bool.true_and]at hall;refine A1 ?_;exact⟨μ-1,by omega,k+1,by omega,⟨rfl,rfl,rfl,rfl,trivial⟩,hall,hw.drop⟩
  have hk3:¬g.Kind=3:=of_decide_eq_false h
  clear h;refine A1 ?_;refine A0 rfl (fun h=>?_) (fun h=>?_)
  ·have hk2:g.Kind=2:=of_decide_eq_true h
   have hdone:Y1 e (g,Q5 db g) = !((Q5 db g).any fun f=>L2 e g.Args f.2):=by
    unfold Y1;rw[if_neg hk3,if_pos hk2]
   obtain⟨tv,fs⟩:=t;obtain⟨fa,fc,htv,hfc1,hfc2⟩:=hRL.len;simp only at heq htv hfc1 hfc2
   subst htv;have hcl:∀f∈fs,∀w,Wd Γ (.blk b3 (.cells (cG ⟨g,A,N,C⟩).toArray 79)::.blk b1 (.cells #[.pointer (some ⟨b,0,none⟩)] 158)::.blk b (D8 (.slice sa sn sc) (.slice ga gn gc) (.slice ta tn tc) vr bm)::C5 bm e::(E8 vr L++S)) w→Calls Tryz.prog 230 (.agg (cF f).toArray::[.pointer (some ⟨b1,0,none⟩),.pointer (some ⟨b3,0,none⟩)]).toArray w fun r w'=>r=.returned (.bool (L2 e g.Args f.Args))∧Wd Γ (.blk b3 (.cells (cG ⟨g,A,N,C⟩).toArray 79)::.blk b1 (.cells #[.pointer (some ⟨b,0,none⟩)] 158)::.blk b (D8 (.slice sa sn sc) (.slice ga gn gc) (.slice ta tn tc) vr bm)::C5 bm e::(E8 vr L++S)) w':=fun f hf w hw=>by
    obtain⟨h1,h2⟩:=hRL.ok f hf
    refine Nz hgok hgoal h1 h2 ?_ he.noKey hw
    have hm:f.fact∈Q5 db g:=by rw[←heq];exact List.mem_map_of_mem (f:=B6.fact) hf
    exact DR _ hm
   refine A1 ?_;refine D1 (vs:=[.slice fa fs.length fc,.func (.func 230) #[] #[.pointer (some ⟨b1,0,none⟩),.pointer (some ⟨b3,0,none⟩)]]) ((EZ (fun f=>L2 e g.Args f.Args) fs hcl hRL.rep hw).mono fun r w hq=>?_)
   clear hw;obtain⟨rfl,hw⟩:=hq;refine⟨_,rfl,?_⟩;rw[LB heq];refine A1 ?_;refine A0 rfl (fun h=>?_) (fun h=>?_)
   ·refine A1 ?_;refine⟨_,rfl,rfl,stop w ?_ hw.drop⟩
    have h0:Y1 e (g,Q5 db g)=false:=by rw[hdone,h];rfl
    rw[hall,h0,Bool.false_and]
   ·have h0:Y1 e (g,Q5 db g)=true:=by rw[hdone,h];rfl
    rw[h0,Bool.true_and]at hall;refine A1 ?_;exact⟨μ-1,by omega,k+1,by omega,⟨rfl,rfl,rfl,rfl,trivial⟩,hall,hw.drop⟩
  have hk2:¬g.Kind=2:=of_decide_eq_false h
  have h0:Y1 e (g,Q5 db g)=true:=by
   unfold Y1;rw[if_neg hk3,if_neg hk2]
  rw[h0,Bool.true_and]at hall;refine A1 ?_;exact⟨μ-1,by omega,k+1,by omega,⟨rfl,rfl,rfl,rfl,trivial⟩,hall,hw.drop⟩
 have hkn:gn≤k:=by have:=of_decide_eq_false h;omega
 rw[D7 _ (by rw[Ee hS];omega)]at hall
 have hall:(I5 db q).all (Y1 e)=true:=hall
 have hfin:Br (I5 db q) q.Sel e=[CW q.Sel e]:=by
  unfold Br;rw[if_pos hall]
 rw[hfin]at hrs ⊢
 clear stop h;simp only[List.length_singleton]at hrs
 refine A1 ?_;refine Aq (len:=sn) ?_
 intro q4 w hw;have hw:Wd Γ (.own (.slice (some q4) sn sn) 67 3 ((q.Sel.take 0).map (fun s=>enc (u2 e s))++List.replicate (sn-0) (enc H2))::.blk b1 (.cells #[.pointer (some ⟨b,0,none⟩)] 158)::.blk b (D8 (.slice sa sn sc) (.slice ga gn gc) (.slice ta tn tc) vr bm)::C5 bm e::(E8 vr L++S)) w:=hw
 refine A1 ?_;refine C7 (fun μ ρ w=>∃(k:Nat),μ+k=sn∧Has ρ [(1,.pointer (some ⟨b1,0,none⟩)),(4,.slice (some q4) sn sn),(56,.slice sa sn sc),(57,.int .i64 sn),(58,.int .i64 k)]∧Wd Γ (.own (.slice (some q4) sn sn) 67 3 ((q.Sel.take k).map (fun s=>enc (u2 e s))++List.replicate (sn-k) (enc H2))::.blk b1 (.cells #[.pointer (some ⟨b,0,none⟩)] 158)::.blk b (D8 (.slice sa sn sc) (.slice ga gn gc) (.slice ta tn tc) vr bm)::C5 bm e::(E8 vr L++S)) w) sn ⟨0,by omega,⟨rfl,rfl,rfl,rfl,rfl,trivial⟩,hw⟩ ?_
 clear hw;rintro μ ρ w ⟨k,hk,hρ,hw⟩
 rw[hρ.eq];clear hρ;refine A1 ?_;refine A0 rfl (fun h=>?_) (fun h=>?_)
 ·have hkn:k<sn:=by have:=of_decide_eq_true h;omega
  clear h;obtain⟨s,hs⟩:=B8 (l:=q.Sel) (k:=k) (by omega)
  refine A1 ?_;refine Bq (k:=k) (r:=enc (u2 e s)) ?_
  intro w hw;have hset:((q.Sel.take k).map (fun s=>enc (u2 e s))++List.replicate (sn-k) (enc H2)).set k (enc (u2 e s))=(q.Sel.take (k+1)).map (fun s=>enc (u2 e s))++List.replicate (sn-(k+1)) (enc H2):=by
   rw[My (by rw[List.length_map,List.length_take];omega) (by omega),List.take_add_one,hs,List.map_append];rfl
  rw[hset]at hw;have hw:Wd Γ (.own (.slice (some q4) sn sn) 67 3 ((q.Sel.take (k+1)).map (fun s=>enc (u2 e s))++List.replicate (sn-(k+1)) (enc H2))::.blk b1 (.cells #[.pointer (some ⟨b,0,none⟩)] 158)::.blk b (D8 (.slice sa sn sc) (.slice ga gn gc) (.slice ta tn tc) vr bm)::C5 bm e::(E8 vr L++S)) w:=hw
  refine A1 ?_;exact⟨μ-1,by omega,k+1,by omega,⟨rfl,rfl,rfl,rfl,rfl,trivial⟩,hw⟩
 have hkn:sn≤k:=by have:=of_decide_eq_false h;omega
 have hkk:sn=k:=by omega
 subst hkk;have hrow:(q.Sel.take sn).map (fun s=>enc (u2 e s))++List.replicate (sn-sn) (enc H2)=(CW q.Sel e).map enc:=by
  rw[List.take_of_length_le (by omega),Nat.sub_self,List.replicate_zero,List.append_nil]
  unfold CW;rw[List.map_map];rfl
 rw[hrow]at hw;have hw:Wd Γ (.own vr 72 1 (L.map fun x=>[x.1])::.blk b1 (.cells #[.pointer (some ⟨b,0,none⟩)] 158)::.blk b (D8 (.slice sa sn sc) (.slice ga gn gc) (.slice ta tn tc) vr bm)::C5 bm e::.own (.slice (some q4) sn sn) 67 3 ((CW q.Sel e).map enc)::(Nm 67 3 L++S)) w:=by
  have h1:Wd Γ (.own (.slice (some q4) sn sn) 67 3 ((CW q.Sel e).map enc)::.blk b1 (.cells #[.pointer (some ⟨b,0,none⟩)] 158)::.blk b (D8 (.slice sa sn sc) (.slice ga gn gc) (.slice ta tn tc) vr bm)::C5 bm e::(.own vr 72 1 (L.map fun x=>[x.1])::Nm 67 3 L++S)) w:=hw
  exact h1.perm K1
 obtain⟨va,vn,vc,rfl,hvn,hvnc,hvc⟩:=hw.own_shape (i:=0) rfl
 have hLl:L.length=rs.length:=by
  have:=congrArg List.length hL
  simpa using this
 simp only[List.length_map]at hvn
 refine A1 ?_;refine QJ [.blk b1 (.cells #[.pointer (some ⟨b,0,none⟩)] 158)] (.own (.slice va vn vc) 72 1 (L.map fun x=>[x.1])::.blk b (D8 (.slice sa sn sc) (.slice ga gn gc) (.slice ta tn tc) (.slice va vn vc) bm)::C5 bm e::.own (.slice (some q4) sn sn) 67 3 ((CW q.Sel e).map enc)::(Nm 67 3 L++S)) [[],[],[],[],[],[],[1],[0],[],[],[0]] [[],[],[],[],[0],[],[1],[0,1],[],[],[0]] [[80],[79]] (hw.perm K1) ?_
 repeat(first|refine mY ?_|refine mP ?_|refine M9 ?_|refine X3 ?_|refine j0 ?_)
 refine Mz (cells:=[.slice (some q4) sn sn]) [[.slice (some q4) sn sn]] ?_
 refine Rs ?_
 repeat(first|refine mY ?_|refine mP ?_|refine M9 ?_|refine X3 ?_|refine j0 ?_)
 refine Oc (b:=b) (j:=1) (j2:=0) ?_
 refine j0 fun w g hw=>?_
 have hw:=Wd.dropEnd hw
 have hw:Wd Γ (.blk b1 (.cells #[.pointer (some ⟨b,0,none⟩)] 158)::.own (g 80) 72 1 (L.map (fun x=>[x.1])++[[.slice (some q4) sn sn]])::.blk b (D8 (.slice sa sn sc) (.slice ga gn gc) (.slice ta tn tc) (g 80) bm)::C5 bm e::.own (.slice (some q4) sn sn) 67 3 ((CW q.Sel e).map enc)::(Nm 67 3 L++S)) w:=hw
 refine⟨_,rfl,rfl,P1 (vr:=g 80) (L:=L++[(.slice (some q4) sn sn,(CW q.Sel e).map enc)]) ?_ ?_⟩
 ·rw[List.map_append,hL,List.map_append];rfl
 have hl:(L++[(Value.slice (some q4) sn sn,(CW q.Sel e).map enc)]).map (fun x=>[x.1])=L.map (fun x=>[x.1])++[[.slice (some q4) sn sn]]:=by rw[List.map_append];rfl
 have hi:Nm 67 3 (L++[(Value.slice (some q4) sn sn,(CW q.Sel e).map enc)])=Nm 67 3 L++[.own (.slice (some q4) sn sn) 67 3 ((CW q.Sel e).map enc)]:=by unfold Nm;rw[List.map_append];rfl
 unfold E8;rw[hl,hi];have h1:Wd Γ (.own (g 80) 72 1 (L.map (fun x=>[x.1])++[[.slice (some q4) sn sn]])::.blk b (D8 (.slice sa sn sc) (.slice ga gn gc) (.slice ta tn tc) (g 80) bm)::C5 bm e::.own (.slice (some q4) sn sn) 67 3 ((CW q.Sel e).map enc)::(Nm 67 3 L++S)) w:=hw.drop
 exact h1.perm K1
end Go.Proofs.YtlimglpjpcfpdaaGreatDoor
end
section
open Go Mk
namespace Go.Proofs.YtlimglpjpcfpdaaGreatDoor
set_option maxHeartbeats 16000000
attribute [local irreducible] Calls cI cB
theorem OX{Γ:B5}{S:List B1}{w:World}{b bm:Nat}{vs vg vt:Value}{rs:List (List Val)}{e:Env}{va:Value}{os:List F1}{f:B6}(hargs:D2 Γ va 4 (os.map enc))(hos:∀o∈os,U5 o)(hf:BD Γ f)(hfo:Z8 f.fact)(hlen:os.length=f.Args.length)(hn:G4 e C9=none)(hN:os.length≤1000)(hw:Wd Γ (SV b bm vs vg vt rs::C5 bm e::S) w) :
  Calls Tryz.prog 153 #[.pointer (some ⟨b,0,none⟩),va,.agg (cF f).toArray] w fun r w'=>r=.returned (.bool (L2 e os f.Args))∧Wd Γ (SV b bm vs vg vt rs::C5 bm e::S) w':=by
 obtain⟨vr,L,hL,hw⟩:=m8 hw
 have hw1:Wd Γ (.blk b (D8 vs vg vt vr bm)::C5 bm e::(E8 vr L++S)) w:=hw.perm K1
 refine(HB hargs hos hf hfo hlen hn hN hw1).mono fun r w' ⟨h1,h2⟩=>⟨h1,P1 (vr:=vr) hL ?_⟩
 exact h2.perm K1
section
variable {α β:Type}{F:α→List β}{l:List α}{j:Nat}{x:α}
theorem BL(h:l[j]? = some x):(l.take (j+1)).flatMap F=(l.take j).flatMap F++F x:=by
 rw[List.take_add_one,h,List.flatMap_append];simp
theorem Pf(h:l[j]? = some x):((l.take j).flatMap F).length+(F x).length≤(l.flatMap F).length:=by
 have e:l.flatMap F=((l.take j).flatMap F++F x)++(l.drop (j+1)).flatMap F:=by
  rw[←BL h,←List.flatMap_append,List.take_append_drop]
 rw[e,List.length_append,List.length_append];omega
end
theorem GH{H L:Int}(h1:U8 H)(h2:U8 L)(h:L≤H):IntKind.u64.wrap (IntKind.u64.wrap H-IntKind.u64.wrap L)=H-L:=by
 unfold U8 at *
 simp only[IntKind.wrap,IntKind.bits,IntKind.signed]
 simp
 omega
theorem f8{a:Int}(h1:0≤a)(h2:a≤18446744073709551615):IntKind.u64.wrap a=a:=by
 simp only[IntKind.wrap,IntKind.bits,IntKind.signed]
 simp
 omega
def Qb(Γ:B5)(b bm:Nat)(vs vg vt:Value)(φ:Env→List (List Val))(k:Nat):Prop:=
 ∀(S:List B1) (e:Env) (rs:List (List Val)) (w:World),T6 e→rs.length+(φ e).length≤1000000→Wd Γ (SV b bm vs vg vt rs::C5 bm e::S) w →
  Calls Tryz.prog 85 #[.pointer (some ⟨b,0,none⟩),.int .i64 k] w fun r w'=>r=.returned (.tuple #[])∧Wd Γ (SV b bm vs vg vt (rs++φ e)::C5 bm e::S) w'
section
variable {Γ:B5}{b bm b2 b3 k:Nat}{vs vg vt:Value}{φ:Env→List (List Val)}
theorem Iw(hk:k≤1000)(ih:Qb Γ b bm vs vg vt φ (k+1))(e:Env)(rs:List (List Val))(S:List B1)(w:World)(he:T6 e)(hrs:rs.length+(φ e).length≤1000000)(hw:Wd Γ (SV b bm vs vg vt rs::C5 bm e::([.blk b2 (.cells #[.pointer (some ⟨b,0,none⟩)] 158),.blk b3 (.cells #[.int .i64 k] 3)]++S)) w) :
  Calls Tryz.prog 155 [.pointer (some ⟨b2,0,none⟩),.pointer (some ⟨b3,0,none⟩)].toArray w fun r w'=>r=.returned (.tuple #[])∧Wd Γ (SV b bm vs vg vt (rs++φ e)::C5 bm e::([.blk b2 (.cells #[.pointer (some ⟨b,0,none⟩)] 158),.blk b3 (.cells #[.int .i64 k] 3)]++S)) w':=by
 have hw:Wd Γ (SV b bm vs vg vt rs::C5 bm e::.blk b2 (.cells #[.pointer (some ⟨b,0,none⟩)] 158)::.blk b3 (.cells #[.int .i64 k] 3)::S) w:=hw
 refine A5 Tryz.func155 rfl rfl ?_
 refine A1 ?_;refine D1 (vs:=[.pointer (some ⟨b,0,none⟩),.int .i64 ((k+1:Nat):Int)]) ((ih _ e rs w he hrs hw).mono fun r w hq=>?_)
 obtain⟨rfl,hw⟩:=hq;refine⟨_,rfl,?_⟩;refine A1 ?_;exact⟨_,rfl,rfl,hw⟩
theorem IN(hk:k≤1000)(ih:Qb Γ b bm vs vg vt φ (k+1))(e:Env)(rs:List (List Val))(S:List B1)(w:World)(he:T6 e)(hrs:rs.length+(φ e).length≤1000000)(hw:Wd Γ (SV b bm vs vg vt rs::C5 bm e::([.blk b2 (.cells #[.pointer (some ⟨b,0,none⟩)] 158),.blk b3 (.cells #[.int .i64 k] 3)]++S)) w) :
  Calls Tryz.prog 156 [.pointer (some ⟨b2,0,none⟩),.pointer (some ⟨b3,0,none⟩)].toArray w fun r w'=>r=.returned (.tuple #[])∧Wd Γ (SV b bm vs vg vt (rs++φ e)::C5 bm e::([.blk b2 (.cells #[.pointer (some ⟨b,0,none⟩)] 158),.blk b3 (.cells #[.int .i64 k] 3)]++S)) w':=by
 have hw:Wd Γ (SV b bm vs vg vt rs::C5 bm e::.blk b2 (.cells #[.pointer (some ⟨b,0,none⟩)] 158)::.blk b3 (.cells #[.int .i64 k] 3)::S) w:=hw
 refine A5 Tryz.func156 rfl rfl ?_
 refine A1 ?_;refine D1 (vs:=[.pointer (some ⟨b,0,none⟩),.int .i64 ((k+1:Nat):Int)]) ((ih _ e rs w he hrs hw).mono fun r w hq=>?_)
 obtain⟨rfl,hw⟩:=hq;refine⟨_,rfl,?_⟩;refine A1 ?_;exact⟨_,rfl,rfl,hw⟩
end
theorem Hv{Γ:B5}{b bm:Nat}{vs vg vt:Value}{gs:List E5}{ts:List (Value×List B6)}{db:List H3}{q:D3}(hS:OH Γ vs vg vt gs ts db q)(hR:∀g∈q.Goals,g.Kind=4→g.Low≤g.High∧g.High-g.Low≤1000000) :
  ∀(m k:Nat),k+m=gs.length→Qb Γ b bm vs vg vt (DC (Br (I5 db q) q.Sel) ((I5 db q).drop k)) k:=by
 obtain⟨ga,gn,gc,rfl,hgn,hgnc,hgc⟩:=hS.qr.goals.shape;obtain⟨sa,sn,sc,rfl,hsn,hsnc,hsc⟩:=hS.qr.sel.shape;obtain⟨ta,tn,tc,rfl,htn,htnc,htc⟩:=hS.tab.shape;simp only[List.length_map]at hgn hsn htn
 have hrG:=hS.qr.goals
 have hrS:=hS.qr.sel
 have hrT:=hS.tab
 have hgl:=hS.glen
 have htl:=hS.len
 have hsl:=hS.qok.sel
 intro m;induction m with
 | zero=>
  intro k hk S e rs w he hrs hw;have hkn:k=gn:=by omega
  rw[D7 (I5 db q) (by rw[Ee hS];omega)]at hrs ⊢
  have hrs:rs.length+(Br (I5 db q) q.Sel e).length≤1000000:=hrs
  show Calls _ _ _ _ fun r w'=>r=.returned (.tuple #[])∧Wd Γ (SV b bm (.slice sa sn sc) (.slice ga gn gc) (.slice ta tn tc) (rs++Br (I5 db q) q.Sel e)::C5 bm e::S) w'
  obtain⟨vr,L,hL,hw⟩:=m8 hw
  refine A5 Tryz.func85 rfl rfl ?_
  refine A1 ?_;refine K4 ?_;intro b2 w hw;refine A1 ?_;refine K4 ?_;intro b3 w hw;have hw:Wd Γ (.blk b3 (.cells #[.int .i64 k] 3)::.blk b2 (.cells #[.pointer (some ⟨b,0,none⟩)] 158)::.blk b (D8 (.slice sa sn sc) (.slice ga gn gc) (.slice ta tn tc) vr bm)::(E8 vr L++(C5 bm e::S))) w:=hw
  have hw:Wd Γ (.blk b2 (.cells #[.pointer (some ⟨b,0,none⟩)] 158)::.blk b3 (.cells #[.int .i64 k] 3)::.blk b (D8 (.slice sa sn sc) (.slice ga gn gc) (.slice ta tn tc) vr bm)::C5 bm e::(E8 vr L++S)) w:=hw.perm K1
  refine A1 ?_;refine K5 (by kernel_rfl) (by kernel_rfl) hw ?_
  refine Ef ?_;clear hw;intro w hw;have hw:Wd Γ (.blk b2 (.cells #[.pointer (some ⟨b,0,none⟩)] 158)::.blk b3 (.cells #[.int .i64 k] 3)::.blk b (D8 (.slice sa sn sc) (.slice ga gn gc) (.slice ta tn tc) vr bm)::C5 bm e::(E8 vr L++S)) w:=hw
  refine I2 (congrArg Value.bool (decide_eq_true (by omega))) ?_
  refine A1 ?_;have hw1:Wd Γ (.blk b (D8 (.slice sa sn sc) (.slice ga gn gc) (.slice ta tn tc) vr bm)::(E8 vr L++(C5 bm e::(.blk b2 (.cells #[.pointer (some ⟨b,0,none⟩)] 158)::.blk b3 (.cells #[.int .i64 k] 3)::S)))) w:=hw.perm K1
  have hw2:=P1 (vr:=vr) hL hw1
  refine D1 (vs:=[.pointer (some ⟨b,0,none⟩)]) ((IH hS he hrs hw2).mono fun r w hq=>?_)
  clear hw hw1 hw2;obtain⟨rfl,hw⟩:=hq;refine⟨_,rfl,?_⟩;refine A1 ?_;exact⟨_,rfl,rfl,hw.ds [2,2]⟩
 | succ m ih=>
  intro k hk S e rs w he hrs hw;have hkn:k<gn:=by omega
  have ihk:=ih (k+1) (by omega)
  obtain⟨x,hx⟩:=B8 (l:=gs) (k:=k) (by omega)
  obtain⟨t,ht⟩:=B8 (l:=ts) (k:=k) (by omega)
  have hxm:=List.mem_of_getElem? hx
  have htm:=List.mem_of_getElem? ht
  have hgok:=hS.qr.ok x hxm
  have hgoal:=hS.goal hxm
  have hRL:=hS.rl t htm
  have heq:=hS.eq k x t hx ht
  have har:=DR (db:=db) (g:=x.g)
  have hRx:=hR x.g (by rw[←hS.qr.eq];exact List.mem_map_of_mem (f:=(·.g)) hxm)
  rw[K6 (Dr hS hx)]at hrs ⊢
  obtain⟨φ,hφ⟩:∃φ,φ=DC (Br (I5 db q) q.Sel) ((I5 db q).drop (k+1)):=⟨_,rfl⟩
  rw[←hφ]at ihk;obtain⟨g,A,N,C⟩:=x;obtain⟨tv,fs⟩:=t;obtain⟨fa,fc,htv,hfc1,hfc2⟩:=hRL.len;simp only at hgoal heq har hRx htv hfc1 hfc2 hrs ⊢
  subst htv;obtain⟨R,hRe⟩:∃R,R=DC (Br (I5 db q) q.Sel) ((g,Q5 db g)::(I5 db q).drop (k+1)) e:=⟨_,rfl⟩
  rw[←hRe]at hrs ⊢
  unfold DC at hRe;rw[←hφ]at hRe;obtain⟨vr,L,hL,hw⟩:=m8 hw
  refine A5 Tryz.func85 rfl rfl ?_
  refine A1 ?_;refine K4 ?_;intro b2 w hw;refine A1 ?_;refine K4 ?_;intro b3 w hw;have hw:Wd Γ (.blk b3 (.cells #[.int .i64 k] 3)::.blk b2 (.cells #[.pointer (some ⟨b,0,none⟩)] 158)::.blk b (D8 (.slice sa sn sc) (.slice ga gn gc) (.slice ta tn tc) vr bm)::(E8 vr L++(C5 bm e::S))) w:=hw
  have hw:Wd Γ (.blk b2 (.cells #[.pointer (some ⟨b,0,none⟩)] 158)::.blk b3 (.cells #[.int .i64 k] 3)::.blk b (D8 (.slice sa sn sc) (.slice ga gn gc) (.slice ta tn tc) vr bm)::C5 bm e::(E8 vr L++S)) w:=hw.perm K1
  refine A1 ?_;refine K5 (by kernel_rfl) (by kernel_rfl) hw ?_
  refine Ef ?_;clear hw;intro w hw;have hw:Wd Γ (.blk b2 (.cells #[.pointer (some ⟨b,0,none⟩)] 158)::.blk b3 (.cells #[.int .i64 k] 3)::.blk b (D8 (.slice sa sn sc) (.slice ga gn gc) (.slice ta tn tc) vr bm)::C5 bm e::(E8 vr L++S)) w:=hw
  refine L9 (congrArg Value.bool (decide_eq_false (by omega))) ?_
  refine A1 ?_;refine Do 1 [[],[],[],[],[],[],[],[],[0],[0]] [[],[],[],[],[],[],[],[],[0],[0]] [[4]] ?_ (hw:=hw)
  refine m4 ?_;refine CH ?_
  refine j4 ?_
  refine M9 ?_
  clear hw;intro b4 w hw;have hw:Wd Γ (.blk b4 (.cells (cG ⟨g,A,N,C⟩).toArray 79)::.blk b2 (.cells #[.pointer (some ⟨b,0,none⟩)] 158)::.blk b3 (.cells #[.int .i64 k] 3)::.blk b (D8 (.slice sa sn sc) (.slice ga gn gc) (.slice ta tn tc) vr bm)::C5 bm e::(E8 vr L++S)) w:=hw
  refine A1 ?_;refine A0 rfl (fun h=>?_) (fun h=>?_)
  ·have hk1:g.Kind=1:=of_decide_eq_true h
   clear h;rw[if_pos hk1]at hRe;have hRe2:R=fs.flatMap fun f=>(fun f:H3=>if L2 e g.Args f.2 then I7 φ e g.Args f.2 else []) f.fact:=by
    rw[hRe,←heq];unfold facts;rw[List.flatMap_map]
   have hat:E3 g=true:=by unfold E3;rw[hk1];rfl
   refine A1 ?_;refine K5 (by kernel_rfl) (by kernel_rfl) hw ?_
   refine Ef ?_;clear hw;intro w hw;have hw:Wd Γ (.blk b (D8 (.slice sa sn sc) (.slice ga gn gc) (.slice ta tn tc) vr bm)::(E8 vr L++(C5 bm e::(.blk b2 (.cells #[.pointer (some ⟨b,0,none⟩)] 158)::.blk b3 (.cells #[.int .i64 k] 3)::.blk b4 (.cells (cG ⟨g,A,N,C⟩).toArray 79)::S)))) w:=hw.perm K1
   have hw:=P1 (vr:=vr) hL hw
   clear hL;refine A1 ?_;refine C7 (fun μ ρ w=>∃(j:Nat),μ+j=fs.length∧Has ρ [(2,.pointer (some ⟨b2,0,none⟩)),(3,.pointer (some ⟨b3,0,none⟩)),(4,.pointer (some ⟨b4,0,none⟩)),(43,.slice fa fs.length fc),(44,.int .i64 fs.length),(45,.int .i64 j)]∧Wd Γ (SV b bm (.slice sa sn sc) (.slice ga gn gc) (.slice ta tn tc) (rs++(fs.take j).flatMap fun f=>(fun f:H3=>if L2 e g.Args f.2 then I7 φ e g.Args f.2 else []) f.fact)::C5 bm e::.blk b2 (.cells #[.pointer (some ⟨b,0,none⟩)] 158)::.blk b3 (.cells #[.int .i64 k] 3)::.blk b4 (.cells (cG ⟨g,A,N,C⟩).toArray 79)::S) w) fs.length ⟨0,by omega,⟨rfl,rfl,rfl,rfl,rfl,rfl,trivial⟩,by rw[List.take_zero,List.flatMap_nil,List.append_nil];exact hw⟩ ?_
   clear hw;rintro μ ρ w ⟨j,hj,hρ,hw⟩
   rw[hρ.eq];clear hρ;refine A1 ?_;refine A0 rfl (fun h=>?_) (fun h=>?_)
   ·have hjn:j<fs.length:=by have:=of_decide_eq_true h;omega
    clear h;obtain⟨f,hf⟩:=B8 (l:=fs) (k:=j) hjn
    obtain⟨h1,h2⟩:=hRL.ok f (List.mem_of_getElem? hf)
    have hm:f.fact∈Q5 db g:=by rw[←heq];exact List.mem_map_of_mem (f:=B6.fact) (List.mem_of_getElem? hf)
    have hfl:=har _ hm
    have hsu:=BL (F:=fun f:B6=>(fun f:H3=>if L2 e g.Args f.2 then I7 φ e g.Args f.2 else []) f.fact) hf
    have hle:=Pf (F:=fun f:B6=>(fun f:H3=>if L2 e g.Args f.2 then I7 φ e g.Args f.2 else []) f.fact) hf
    rw[←hRe2]at hle;have hrb:=hRL.rep
    refine A1 ?_;refine B4 ?_;intro b6 w hw;refine B0 ?_;intro w hw;obtain⟨fr,fa2,fn2,fc2,xs⟩:=f;have hw:Wd Γ (.blk b6 (.cells (cF ⟨fr,fa2,fn2,fc2,xs⟩).toArray 82)::SV b bm (.slice sa sn sc) (.slice ga gn gc) (.slice ta tn tc) (rs++(fs.take j).flatMap fun f=>(fun f:H3=>if L2 e g.Args f.2 then I7 φ e g.Args f.2 else []) f.fact)::C5 bm e::.blk b2 (.cells #[.pointer (some ⟨b,0,none⟩)] 158)::.blk b3 (.cells #[.int .i64 k] 3)::.blk b4 (.cells (cG ⟨g,A,N,C⟩).toArray 79)::S) w:=hw
    have hw:Wd Γ (SV b bm (.slice sa sn sc) (.slice ga gn gc) (.slice ta tn tc) (rs++(fs.take j).flatMap fun f=>(fun f:H3=>if L2 e g.Args f.2 then I7 φ e g.Args f.2 else []) f.fact)::C5 bm e::.blk b2 (.cells #[.pointer (some ⟨b,0,none⟩)] 158)::.blk b3 (.cells #[.int .i64 k] 3)::.blk b6 (.cells (cF ⟨fr,fa2,fn2,fc2,xs⟩).toArray 82)::.blk b4 (.cells (cG ⟨g,A,N,C⟩).toArray 79)::S) w:=hw.perm K1
    refine A1 ?_;refine D1 (vs:=[.pointer (some ⟨b,0,none⟩),.slice A N C,.agg (cF ⟨fr,fa2,fn2,fc2,xs⟩).toArray]) ((OX (f:=⟨fr,fa2,fn2,fc2,xs⟩) (va:=.slice A N C) (os:=g.Args) hgok hgoal.args h1 h2 hfl he.noKey hgoal.len hw).mono fun r w hq=>?_)
    clear hw;obtain⟨rfl,hw⟩:=hq;refine⟨_,rfl,?_⟩;have hxl:((rs++(fs.take j).flatMap fun f=>(fun f:H3=>if L2 e g.Args f.2 then I7 φ e g.Args f.2 else []) f.fact).length=rs.length+((fs.take j).flatMap fun f=>(fun f:H3=>if L2 e g.Args f.2 then I7 φ e g.Args f.2 else []) f.fact).length):=List.length_append
    refine A1 ?_;refine A0 rfl (fun h=>?_) (fun h=>?_)
    ·have hF:(fun f:H3=>if L2 e g.Args f.2 then I7 φ e g.Args f.2 else []) (B6.fact ⟨fr,fa2,fn2,fc2,xs⟩)=I7 φ e g.Args xs:=if_pos h
     rw[hF]at hsu hle
     refine A1 ?_;refine D1 (vs:=[.pointer (some ⟨b,0,none⟩),.slice A N C,.slice fa2 fn2 fc2,.func (.func 155) #[] #[.pointer (some ⟨b2,0,none⟩),.pointer (some ⟨b3,0,none⟩)]]) ((HW (CAP:=[.blk b2 (.cells #[.pointer (some ⟨b,0,none⟩)] 158),.blk b3 (.cells #[.int .i64 k] 3)]) (S:=.blk b6 (.cells (cF ⟨fr,fa2,fn2,fc2,xs⟩).toArray 82)::.blk b4 (.cells (cG ⟨g,A,N,C⟩).toArray 79)::S) (rs:=rs++(fs.take j).flatMap fun f=>(fun f:H3=>if L2 e g.Args f.2 then I7 φ e g.Args f.2 else []) f.fact) (cap:=[.pointer (some ⟨b2,0,none⟩),.pointer (some ⟨b3,0,none⟩)]) (q:=155) (os:=g.Args) (xs:=xs) φ (fun e' rs' S' w h1 h2 h3=>Iw (by omega) ihk e' rs' S' w h1 h2 h3) (D2.rdS hgok) (D2.rdS h1) hfl hgoal.len h2.2.2 he (by rw[hxl];omega) hw).mono fun r w hq=>?_)
     clear hw;obtain⟨rfl,hw⟩:=hq;refine⟨_,rfl,?_⟩;rw[List.append_assoc,←hsu]at hw;refine A1 ?_;refine⟨fs.length-j-1,by omega,j+1,by omega,⟨rfl,rfl,rfl,rfl,rfl,rfl,trivial⟩,?_⟩
     exact hw.dropAt 4
    ·have hF:(fun f:H3=>if L2 e g.Args f.2 then I7 φ e g.Args f.2 else []) (B6.fact ⟨fr,fa2,fn2,fc2,xs⟩)=[]:=if_neg (by show ¬L2 e g.Args xs=true;rw[show L2 e g.Args xs=false from h];simp)
     rw[hF,List.append_nil]at hsu;rw[←hsu]at hw;refine A1 ?_;refine⟨fs.length-j-1,by omega,j+1,by omega,⟨rfl,rfl,rfl,rfl,rfl,rfl,trivial⟩,?_⟩
     exact hw.dropAt 4
   have hjn:fs.length≤j:=by have:=of_decide_eq_false h;omega
   rw[List.take_of_length_le hjn,←hRe2]at hw;refine A1 ?_;exact⟨_,rfl,rfl,hw.ds [2,2,2]⟩
  have hk1:¬g.Kind=1:=of_decide_eq_false h
  clear h;rw[if_neg hk1]at hRe;refine A1 ?_;refine A0 rfl (fun h=>?_) (fun h=>?_)
  ·have hk4:g.Kind=4:=of_decide_eq_true h
   clear h;rw[if_pos hk4]at hRe;obtain⟨hlh,hlh2⟩:=hRx hk4
   have hi1:=hgoal.low
   have hi2:=hgoal.high
   have hsub:=GH hi2 hi1 hlh
   have hw:Wd Γ (.blk b4 (.cells (cG ⟨g,A,N,C⟩).toArray 79)::C5 bm e::.blk b2 (.cells #[.pointer (some ⟨b,0,none⟩)] 158)::.blk b3 (.cells #[.int .i64 k] 3)::.blk b (D8 (.slice sa sn sc) (.slice ga gn gc) (.slice ta tn tc) vr bm)::(E8 vr L++S)) w:=hw.perm K1
   refine A1 ?_;refine Do 1 [[],[],[],[],[],[],[],[],[],[],[],[0],[0],[]] [[],[],[],[],[],[],[],[],[],[],[],[0],[0],[]] [[7]] ?_ (hw:=hw)
   refine m4 ?_;refine CH ?_
   refine j4 ?_
   refine m4 ?_;refine M9 ?_
   clear hw;intro b7 w hw;have hw:Wd Γ (.blk b7 (.cells (enc ((G4 e g.L.Var).getD default)).toArray 67)::.blk b4 (.cells (cG ⟨g,A,N,C⟩).toArray 79)::C5 bm e::.blk b2 (.cells #[.pointer (some ⟨b,0,none⟩)] 158)::.blk b3 (.cells #[.int .i64 k] 3)::.blk b (D8 (.slice sa sn sc) (.slice ga gn gc) (.slice ta tn tc) vr bm)::(E8 vr L++S)) w:=hw
   have hw:Wd Γ (.blk b (D8 (.slice sa sn sc) (.slice ga gn gc) (.slice ta tn tc) vr bm)::(E8 vr L++(C5 bm e::.blk b2 (.cells #[.pointer (some ⟨b,0,none⟩)] 158)::.blk b3 (.cells #[.int .i64 k] 3)::.blk b7 (.cells (enc ((G4 e g.L.Var).getD default)).toArray 67)::.blk b4 (.cells (cG ⟨g,A,N,C⟩).toArray 79)::S))) w:=hw.perm K1
   have hw:=P1 (vr:=vr) hL hw
   clear hL;refine A1 ?_;refine A0 rfl (fun h=>?_) (fun h=>?_)
   ·obtain⟨v,hv⟩:=Option.isSome_iff_exists.1 h
    clear h;rw[hv]at hw hRe
    simp only at hRe
    have hw:Wd Γ (SV b bm (.slice sa sn sc) (.slice ga gn gc) (.slice ta tn tc) rs::C5 bm e::.blk b2 (.cells #[.pointer (some ⟨b,0,none⟩)] 158)::.blk b3 (.cells #[.int .i64 k] 3)::.blk b7 (.cells (enc v).toArray 67)::.blk b4 (.cells (cG ⟨g,A,N,C⟩).toArray 79)::S) w:=hw
    refine A1 ?_;refine A0 rfl (fun h=>?_) (fun h=>?_)
    ·have hc:v.Kind=1∧g.Low≤v.Num∧v.Num≤g.High:=by
      simp only[Bool.and_eq_true,decide_eq_true_eq]at h
      exact⟨h.1.1,h.1.2,h.2⟩
     rw[if_pos hc]at hRe;refine A1 ?_;refine D1 (vs:=[.pointer (some ⟨b,0,none⟩),.int .i64 ((k+1:Nat):Int)]) ((ihk _ e rs w he (by rw[←hRe];exact hrs) hw).mono fun r w hq=>?_)
     clear hw;obtain⟨rfl,hw⟩:=hq;refine⟨_,rfl,?_⟩;rw[←hRe]at hw;refine A1 ?_;exact⟨_,rfl,rfl,hw.ds [2,2,2,2]⟩
    ·have hc:¬(v.Kind=1∧g.Low≤v.Num∧v.Num≤g.High):=by
      intro hc;simp only[Bool.and_eq_false_iff,decide_eq_false_iff_not]at h
      rcases h with (h|h)|h
      ·exact h hc.1
      ·exact h hc.2.1
      ·exact h hc.2.2
     rw[if_neg hc]at hRe;refine A1 ?_;refine⟨_,rfl,rfl,?_⟩
     rw[hRe,List.append_nil];exact hw.ds [2,2,2,2]
   have hv:G4 e g.L.Var=none:=by simpa using h
   clear h;rw[hv]at hRe;simp only at hRe
   obtain⟨M,hM⟩:∃M,M=(g.High-g.Low+1).toNat:=⟨_,rfl⟩
   rw[←hM]at hRe;have hw:Wd Γ (SV b bm (.slice sa sn sc) (.slice ga gn gc) (.slice ta tn tc) rs::C5 bm e::.blk b2 (.cells #[.pointer (some ⟨b,0,none⟩)] 158)::.blk b3 (.cells #[.int .i64 k] 3)::.blk b4 (.cells (cG ⟨g,A,N,C⟩).toArray 79)::S) w:=hw.dropAt 4
   refine A1 ?_;refine C7 (fun μ ρ w=>∃(j:Nat),μ+j=M∧Has ρ [(2,.pointer (some ⟨b2,0,none⟩)),(3,.pointer (some ⟨b3,0,none⟩)),(4,.pointer (some ⟨b4,0,none⟩)),(9,.int .u64 j)]∧Wd Γ (SV b bm (.slice sa sn sc) (.slice ga gn gc) (.slice ta tn tc) (rs++((List.range M).take j).flatMap (fun n:Nat=>I7 φ e [g.L] [Y2 g.Low n]))::C5 bm e::.blk b2 (.cells #[.pointer (some ⟨b,0,none⟩)] 158)::.blk b3 (.cells #[.int .i64 k] 3)::.blk b4 (.cells (cG ⟨g,A,N,C⟩).toArray 79)::S) w) M ⟨0,by omega,⟨rfl,rfl,rfl,rfl,trivial⟩,by rw[List.take_zero,List.flatMap_nil,List.append_nil];exact hw⟩ ?_
   clear hw;rintro μ ρ w ⟨j,hj,hρ,hw⟩
   rw[hρ.eq];clear hρ;refine A1 ?_;refine A0 rfl (fun h=>?_) (fun h=>?_)
   ·have h:(j:Int)≤IntKind.u64.wrap (IntKind.u64.wrap g.High-IntKind.u64.wrap g.Low):=of_decide_eq_true h
    rw[hsub]at h;have hjM:j<M:=by omega
    have hgj:(List.range M)[j]? = some j:=List.getElem?_range hjM
    have hsu:=BL (F:=(fun n:Nat=>I7 φ e [g.L] [Y2 g.Low n])) hgj
    have hle:=Pf (F:=(fun n:Nat=>I7 φ e [g.L] [Y2 g.Low n])) hgj
    rw[←hRe]at hle;have hxl:((rs++((List.range M).take j).flatMap (fun n:Nat=>I7 φ e [g.L] [Y2 g.Low n])).length=rs.length+(((List.range M).take j).flatMap (fun n:Nat=>I7 φ e [g.L] [Y2 g.Low n])).length):=List.length_append
    have hwj:IntKind.i64.wrap (j:Int)=j:=wrap_i64 (by omega) (by omega)
    unfold U8 at hi1 hi2;have hvok:Y5 (Y2 g.Low j):=⟨⟨by show _≤g.Low+(j:Int);omega,by show g.Low+(j:Int)≤_;omega⟩,by show (⟨#[]⟩:ByteArray).size≤9223372036854775807;decide⟩
    clear h hsub;refine A1 ?_;refine B4 ?_;intro b10 w hw;refine B0 ?_;intro w hw;have hw:Wd Γ (.blk b10 (.cells #[.int .i64 1,.int .i64 (IntKind.i64.wrap (g.Low+IntKind.i64.wrap (j:Int))),.string ⟨#[]⟩] 67)::SV b bm (.slice sa sn sc) (.slice ga gn gc) (.slice ta tn tc) (rs++((List.range M).take j).flatMap (fun n:Nat=>I7 φ e [g.L] [Y2 g.Low n]))::C5 bm e::.blk b2 (.cells #[.pointer (some ⟨b,0,none⟩)] 158)::.blk b3 (.cells #[.int .i64 k] 3)::.blk b4 (.cells (cG ⟨g,A,N,C⟩).toArray 79)::S) w:=hw
    rw[hwj,wrap_i64 (by omega) (by omega)]at hw
    have hw:Wd Γ (.blk b10 (.cells (enc (Y2 g.Low j)).toArray 67)::SV b bm (.slice sa sn sc) (.slice ga gn gc) (.slice ta tn tc) (rs++((List.range M).take j).flatMap (fun n:Nat=>I7 φ e [g.L] [Y2 g.Low n]))::C5 bm e::.blk b2 (.cells #[.pointer (some ⟨b,0,none⟩)] 158)::.blk b3 (.cells #[.int .i64 k] 3)::.blk b4 (.cells (cG ⟨g,A,N,C⟩).toArray 79)::S) w:=hw
    refine A1 ?_;refine F0 [enc g.L] ?_
    intro q1 w hw;refine A1 ?_;refine F0 [enc (Y2 g.Low j)] ?_
    intro q2 w hw;have hw:Wd Γ (.own (.slice (some q2) 1 1) 67 3 [enc (Y2 g.Low j)]::.own (.slice (some q1) 1 1) 77 4 [enc g.L]::.blk b10 (.cells (enc (Y2 g.Low j)).toArray 67)::SV b bm (.slice sa sn sc) (.slice ga gn gc) (.slice ta tn tc) (rs++((List.range M).take j).flatMap (fun n:Nat=>I7 φ e [g.L] [Y2 g.Low n]))::C5 bm e::.blk b2 (.cells #[.pointer (some ⟨b,0,none⟩)] 158)::.blk b3 (.cells #[.int .i64 k] 3)::.blk b4 (.cells (cG ⟨g,A,N,C⟩).toArray 79)::S) w:=hw
    have hw:Wd Γ (SV b bm (.slice sa sn sc) (.slice ga gn gc) (.slice ta tn tc) (rs++((List.range M).take j).flatMap (fun n:Nat=>I7 φ e [g.L] [Y2 g.Low n]))::C5 bm e::.blk b2 (.cells #[.pointer (some ⟨b,0,none⟩)] 158)::.blk b3 (.cells #[.int .i64 k] 3)::.own (.slice (some q1) 1 1) 77 4 [enc g.L]::.own (.slice (some q2) 1 1) 67 3 [enc (Y2 g.Low j)]::.blk b10 (.cells (enc (Y2 g.Low j)).toArray 67)::.blk b4 (.cells (cG ⟨g,A,N,C⟩).toArray 79)::S) w:=hw.perm K1
    refine A1 ?_;refine D1 (vs:=[.pointer (some ⟨b,0,none⟩),.slice (some q1) 1 1,.slice (some q2) 1 1,.func (.func 156) #[] #[.pointer (some ⟨b2,0,none⟩),.pointer (some ⟨b3,0,none⟩)]]) ((HW (CAP:=[.blk b2 (.cells #[.pointer (some ⟨b,0,none⟩)] 158),.blk b3 (.cells #[.int .i64 k] 3)]) (S:=.own (.slice (some q1) 1 1) 77 4 [enc g.L]::.own (.slice (some q2) 1 1) 67 3 [enc (Y2 g.Low j)]::.blk b10 (.cells (enc (Y2 g.Low j)).toArray 67)::.blk b4 (.cells (cG ⟨g,A,N,C⟩).toArray 79)::S) (rs:=rs++((List.range M).take j).flatMap (fun n:Nat=>I7 φ e [g.L] [Y2 g.Low n])) (cap:=[.pointer (some ⟨b2,0,none⟩),.pointer (some ⟨b3,0,none⟩)]) (q:=156) (os:=[g.L]) (xs:=[Y2 g.Low j]) φ (fun e' rs' S' w h1 h2 h3=>IN (by omega) ihk e' rs' S' w h1 h2 h3) (O4.ownI (i:=2) rfl rfl (Nat.le_refl _) (by omega)) (O4.ownI (i:=3) rfl rfl (Nat.le_refl _) (by omega)) rfl (by simp) (fun v hv=>by rw[List.mem_singleton.1 hv];exact hvok) he (by rw[hxl];omega) hw).mono fun r w hq=>?_)
    clear hw;obtain⟨rfl,hw⟩:=hq;refine⟨_,rfl,?_⟩;rw[List.append_assoc,←hsu]at hw;refine A1 ?_;refine⟨M-j-1,by omega,j+1,by omega,⟨rfl,rfl,rfl,(by show Value.int .u64 (IntKind.u64.wrap ((j:Int)+1))=_;rw[f8 (by omega) (by omega)];rfl),trivial⟩,?_⟩
    exact hw.ds [4,4,4]
   have h:¬(j:Int)≤IntKind.u64.wrap (IntKind.u64.wrap g.High-IntKind.u64.wrap g.Low):=of_decide_eq_false h
   rw[hsub]at h;rw[List.take_of_length_le (by rw[List.length_range];omega),←hRe]at hw
   refine A1 ?_;exact⟨_,rfl,rfl,hw.ds [2,2,2]⟩
  have hk4:¬g.Kind=4:=of_decide_eq_false h
  clear h;rw[if_neg hk4]at hRe;have hw:Wd Γ (.blk b (D8 (.slice sa sn sc) (.slice ga gn gc) (.slice ta tn tc) vr bm)::(E8 vr L++(C5 bm e::.blk b2 (.cells #[.pointer (some ⟨b,0,none⟩)] 158)::.blk b3 (.cells #[.int .i64 k] 3)::.blk b4 (.cells (cG ⟨g,A,N,C⟩).toArray 79)::S))) w:=hw.perm K1
  have hw:=P1 (vr:=vr) hL hw
  refine A1 ?_;refine D1 (vs:=[.pointer (some ⟨b,0,none⟩),.int .i64 ((k+1:Nat):Int)]) ((ihk _ e rs w he (by rw[←hRe];exact hrs) hw).mono fun r w hq=>?_)
  clear hw;obtain⟨rfl,hw⟩:=hq;refine⟨_,rfl,?_⟩;rw[←hRe]at hw;refine A1 ?_;exact⟨_,rfl,rfl,hw.ds [2,2,2]⟩
end Go.Proofs.YtlimglpjpcfpdaaGreatDoor
end
section
open Go Mk
namespace Go.Proofs.YtlimglpjpcfpdaaGreatDoor
set_option maxHeartbeats 16000000
attribute [local irreducible] Calls cI cB
abbrev r9(bm:Nat)(ks:List ByteArray):B1:=B1.ms Value.bool bm (ks.map fun s=>(s,true))
theorem NH{ks:List ByteArray}{s:ByteArray}:DF (ks.map fun s=>(s,true)) s=ks.findIdx? fun t=>decide (t=s):=by
 unfold DF;rw[List.findIdx?_map];rfl
theorem CP{ks:List ByteArray}{s:ByteArray}:(G4 (ks.map fun s=>(s,true)) s).getD default=l9 ks s:=by
 unfold G4 l9;rw[NH];cases h:ks.findIdx? fun t=>decide (t=s) with
 | none=>
  rw[List.findIdx?_eq_none_iff]at h;symm
  show _=false
  rw[List.any_eq_false];intro x hx;rw[h x hx];simp
 | some i=>
  have hh:=List.findIdx?_eq_some_iff_getElem.1 h
  obtain⟨h1,h2,-⟩:=hh;simp only[Option.bind_some]
  rw[List.getElem?_map,List.getElem?_eq_getElem h1];symm
  show _=true
  rw[List.any_eq_true];exact⟨ks[i],List.getElem_mem h1,h2⟩
theorem CF{ks:List ByteArray}{s:ByteArray}:Er (ks.map fun s=>(s,true)) s true=(addN ks s).map fun s=>(s,true):=by
 unfold Er addN l9;rw[NH];cases h:ks.findIdx? fun t=>decide (t=s) with
 | none=>
  rw[List.findIdx?_eq_none_iff]at h;have:(ks.any fun t=>decide (t=s))=false:=by
   rw[List.any_eq_false];intro x hx;rw[h x hx];simp
  rw[this];simp
 | some i=>
  have hh:=List.findIdx?_eq_some_iff_getElem.1 h
  obtain⟨h1,h2,-⟩:=hh;have h2:ks[i]=s:=of_decide_eq_true h2
  have:(ks.any fun t=>decide (t=s))=true:=List.any_eq_true.2 ⟨ks[i],List.getElem_mem h1,decide_eq_true h2⟩
  rw[this];simp only[if_true]
  have e:(s,true)=(ks.map fun s=>(s,true))[i]'(by rw[List.length_map];exact h1):=by simp[h2]
  rw[e];exact List.set_getElem_self _
theorem Fi{α β:Type}(f:α→β):∀(l:List α) (i:Nat),(l.map f).eraseIdx i=(l.eraseIdx i).map f
 | [],_=>rfl
 | _::_,0=>rfl
 | a::l,i+1=>by
  show f a::(l.map f).eraseIdx i=f a::(l.eraseIdx i).map f
  rw[Fi f l i]
theorem Mx{ks:List ByteArray}{s:ByteArray}(hn:ks.Nodup):AU (ks.map fun s=>(s,true)) s=(ks.filter fun t=>decide (t≠s)).map fun s=>(s,true):=by
 unfold AU;rw[NH];have key:∀(ks:List ByteArray),ks.Nodup→(match ks.findIdx? (fun t=>decide (t=s)) with|some i=>ks.eraseIdx i|none=>ks)=ks.filter fun t=>decide (t≠s):=by
  intro ks;induction ks with
  | nil=>intro _;rfl
  | cons a l ih=>
   intro hn;rw[List.nodup_cons]at hn;rw[List.findIdx?_cons];by_cases h:a=s
   ·subst h;simp only[decide_true,if_true,List.eraseIdx_zero,List.tail_cons]
    rw[List.filter_cons,if_neg (by simp)]
    rw[List.filter_eq_self.2];intro x hx;simp only[ne_eq,decide_eq_true_eq]
    exact fun e=>hn.1 (e ▸ hx)
   ·rw[decide_eq_false h];simp only[Bool.false_eq_true,if_false]
    rw[List.filter_cons,if_pos (by simpa using h),←ih hn.2]
    cases hq:l.findIdx? fun t=>decide (t=s) with
    | none=>rfl
    | some i=>rfl
 rw[←key ks hn];cases hq:ks.findIdx? fun t=>decide (t=s) with
 | none=>rfl
 | some i=>
  show (ks.map _).eraseIdx i=(ks.eraseIdx i).map _
  exact Fi _ _ _
theorem Mm{l:List ByteArray}{s t:ByteArray}:t∈addN l s↔t∈l∨t=s:=by
 unfold addN;split
 ·rename_i h
  rw[T7]at h;exact⟨Or.inl,fun h2=>h2.elim id fun e=>e ▸ h⟩
 ·simp
theorem IY{l:List ByteArray}{s:ByteArray}(h:l.Nodup):(addN l s).Nodup:=by
 unfold addN;split
 ·exact h
 ·rename_i h2
  rw[T7]at h2;rw[List.nodup_append];exact⟨h,by simp,fun a ha b hb=>by
   rw[List.mem_singleton.1 hb];exact fun e=>h2 (e ▸ ha)⟩
theorem Dk:∀ {ns ks:List ByteArray},ks.Nodup→(ns.foldl addN ks).Nodup
 | [],_,h=>h
 | _::ns,_,h=>Dk (ns:=ns) (IY h)
theorem BU{s:ByteArray}:∀ {ns ks:List ByteArray},s∈ns.foldl addN ks↔s∈ks∨s∈ns
 | [],_=>by simp
 | n::ns,ks=>by
  rw[List.foldl_cons,BU (ns:=ns),Mm,List.mem_cons,or_assoc]
theorem Cm{p:ByteArray→Bool}:∀ {ns ks:List ByteArray},(ns.foldl addN ks).filter p=(ns.filter p).foldl addN (ks.filter p)
 | [],_=>rfl
 | n::ns,ks=>by
  have key:(addN ks n).filter p=if p n=true then addN (ks.filter p) n else ks.filter p:=by
   unfold addN;by_cases h:l9 ks n=true
   ·rw[if_pos h];by_cases hp:p n=true
    ·rw[if_pos hp,if_pos];rw[T7]at h ⊢
     exact List.mem_filter.2 ⟨h,hp⟩
    ·rw[if_neg hp]
   ·rw[if_neg h,List.filter_append];by_cases hp:p n=true
    ·rw[if_pos hp,if_neg]
     ·simp[hp]
     ·intro h2;rw[T7]at h h2
      exact h (List.mem_filter.1 h2).1
    ·rw[if_neg hp];simp[hp]
  rw[List.foldl_cons,Cm (ns:=ns),key,List.filter_cons];by_cases hp:p n=true
  ·rw[if_pos hp,if_pos hp,List.foldl_cons]
  ·rw[if_neg hp,if_neg hp]
theorem Ke{q:D3}:((((El q).foldl addN []).filter fun t=>decide (t≠C9)).filter fun t=>decide (t≠I9))=v7 q:=by
 rw[List.filter_filter];unfold v7;have e:(fun t:ByteArray=>decide (t≠I9)&&decide (t≠C9))=Ow:=by
  funext t
  unfold Ow;rw[Bool.and_comm]
 rw[e,Cm];rfl
section
variable {Γ:B5}{vs vg:Value}{gs:List E5}{q:D3}
theorem QR.glen(hq:QR Γ vs vg gs q)(hok:J2 q):gs.length≤1000:=by
 have:=hok.len
 rw[←hq.eq,List.length_map]at this;exact this
theorem QR.goal(hq:QR Γ vs vg gs q)(hok:J2 q){x:E5}(hx:x∈gs):S5 x.g:=
 hok.goals _ (by rw[←hq.eq];exact List.mem_map_of_mem (f:=(·.g)) hx)
theorem QR.get(hq:QR Γ vs vg gs q){k:Nat}{x:E5}(hx:gs[k]? = some x):q.Goals[k]? = some x.g:=by
 rw[←hq.eq,List.getElem?_map,hx];rfl
theorem QR.nlen(hq:QR Γ vs vg gs q):q.Goals.length=gs.length:=by
 rw[←hq.eq,List.length_map]
end
theorem Cw{Γ:B5}{vs vg:Value}{gs:List E5}{q:D3}(hq0:QR Γ vs vg gs q)(hok:J2 q):PG Tryz.prog Γ 55 [.agg #[vs,vg]] (.int .i64 (if Ci q=true then 0 else 6)):=R3 fun Γ w hle hw=>by
 have hq:=hq0.mono hle
 obtain⟨ga,gn,gc,rfl,hgn,hgnc,hgc⟩:=hq.goals.shape;obtain⟨sa,sn,sc,rfl,hsn,hsnc,hsc⟩:=hq.sel.shape;simp only[List.length_map]at hgn hsn
 have hrG:=hq.goals
 have hgl:=hq.glen hok
 refine A5 Tryz.func55 rfl rfl ?_
 refine A1 ?_;refine K4 ?_;intro b1 w hw;have hw:Wd Γ [.blk b1 (.cells #[.slice sa sn sc,.slice ga gn gc] 25)] w:=hw
 refine A1 ?_;refine C7 (fun μ ρ w=>∃(k:Nat),μ+k=gn∧Has ρ [(1,.pointer (some ⟨b1,0,none⟩)),(6,.slice ga gn gc),(7,.int .i64 gn),(8,.int .i64 k)]∧Ci q=(q.Goals.drop k).all u1∧Wd Γ [.blk b1 (.cells #[.slice sa sn sc,.slice ga gn gc] 25)] w) gn ⟨0,by omega,⟨rfl,rfl,rfl,rfl,trivial⟩,rfl,hw⟩ ?_
 clear hw;rintro μ ρ w ⟨k,hk,hρ,hall,hw⟩
 rw[hρ.eq];clear hρ;refine A1 ?_;refine A0 rfl (fun h=>?_) (fun h=>?_)
 ·have hkn:k<gn:=by have:=of_decide_eq_true h;omega
  clear h;obtain⟨x,hx⟩:=B8 (l:=gs) (k:=k) (by omega)
  have hgoal:=hq.goal hok (List.mem_of_getElem? hx)
  rw[K7 (hq.get hx)]at hall;obtain⟨g,A,N,C⟩:=x;simp only at hall hgoal
  obtain⟨hm1,hm2⟩:=hgoal.low;obtain⟨hm3,hm4⟩:=hgoal.high;refine A1 ?_;refine B4 ?_;intro b4 w hw;refine A1 ?_;refine B0 ?_;intro w hw;have hw:Wd Γ [.blk b4 (.cells (cG ⟨g,A,N,C⟩).toArray 79),.blk b1 (.cells #[.slice sa sn sc,.slice ga gn gc] 25)] w:=hw
  refine A1 ?_;refine A0 rfl (fun h=>?_) (fun h=>?_)
  ·have hk3:g.Kind=3:=of_decide_eq_true h
   clear h;have hn:u1 g=(decide (1≤g.Op)&&decide (g.Op≤6)&&decide (g.Off≠-9223372036854775808)):=by unfold u1;rw[if_pos hk3]
   refine A1 ?_;refine A0 rfl (fun h=>?_) (fun h=>?_)
   ·have hf:u1 g=false:=by
     rw[hn];simp only[Bool.or_eq_true,decide_eq_true_eq]at h
     simp only[Bool.and_eq_false_iff,decide_eq_false_iff_not]
     rcases h with (h|h)|h
     ·exact .inl (.inl (by omega))
     ·exact .inl (.inr (by omega))
     ·exact .inr (by simpa using h)
    refine A1 ?_;refine⟨_,rfl,Γ,B5.le.refl _,E9 rfl ?_,hw.drop.drop⟩
    rw[hall,hf];rfl
   ·have hf:u1 g=true:=by
     rw[hn];simp only[Bool.or_eq_false_iff,decide_eq_false_iff_not]at h
     simp only[Bool.and_eq_true,decide_eq_true_eq]
     exact⟨⟨by omega,by omega⟩,h.2⟩
    rw[hf,Bool.true_and]at hall;refine A1 ?_;exact⟨μ-1,by omega,k+1,by omega,⟨rfl,rfl,rfl,rfl,trivial⟩,hall,hw.drop⟩
  have hk3:¬g.Kind=3:=of_decide_eq_false h
  clear h;refine A1 ?_;refine A0 rfl (fun h=>?_) (fun h=>?_)
  ·have hk4:g.Kind=4:=of_decide_eq_true h
   clear h;have hn:u1 g=(decide (g.Low≤g.High)&&decide (g.High-g.Low≤1000000)):=by unfold u1;rw[if_neg hk3,if_pos hk4]
   have hsub:g.Low≤g.High→IntKind.u64.wrap (IntKind.u64.wrap g.High-IntKind.u64.wrap g.Low)=g.High-g.Low:=fun h=>GH hgoal.high hgoal.low h
   refine A1 ?_;refine A0 rfl (fun h=>?_) (fun h=>?_)
   ·have hf:u1 g=false:=by
     rw[hn];simp only[Bool.or_eq_true,decide_eq_true_eq]at h
     simp only[Bool.and_eq_false_iff,decide_eq_false_iff_not]
     by_cases hl:g.Low≤g.High
     ·refine .inr ?_
      rcases h with h|h
      ·have h:g.High<g.Low:=h
       omega
      ·have h:1000000<IntKind.u64.wrap (IntKind.u64.wrap g.High-IntKind.u64.wrap g.Low):=h
       rw[hsub hl]at h;omega
     ·exact .inl hl
    refine A1 ?_;refine⟨_,rfl,Γ,B5.le.refl _,E9 rfl ?_,hw.drop.drop⟩
    rw[hall,hf];rfl
   ·have hf:u1 g=true:=by
     rw[hn];simp only[Bool.or_eq_false_iff,decide_eq_false_iff_not]at h
     obtain⟨h1,h2⟩:=h;have h1:¬g.High<g.Low:=h1
     have hl:g.Low≤g.High:=by omega
     have h2:¬1000000<IntKind.u64.wrap (IntKind.u64.wrap g.High-IntKind.u64.wrap g.Low):=h2
     rw[hsub hl]at h2;simp only[Bool.and_eq_true,decide_eq_true_eq]
     exact⟨hl,by omega⟩
    rw[hf,Bool.true_and]at hall;refine A1 ?_;exact⟨μ-1,by omega,k+1,by omega,⟨rfl,rfl,rfl,rfl,trivial⟩,hall,hw.drop⟩
  have hk4:¬g.Kind=4:=of_decide_eq_false h
  have hf:u1 g=true:=by unfold u1;rw[if_neg hk3,if_neg hk4]
  rw[hf,Bool.true_and]at hall;refine A1 ?_;exact⟨μ-1,by omega,k+1,by omega,⟨rfl,rfl,rfl,rfl,trivial⟩,hall,hw.drop⟩
 have hkn:gn≤k:=by have:=of_decide_eq_false h;omega
 rw[D7 _ (by rw[hq.nlen];omega)]at hall
 refine A1 ?_;refine⟨_,rfl,Γ,B5.le.refl _,E9 rfl ?_,hw.drop⟩
 rw[hall];rfl
def Mh(g:D6):Bool:=!E3 g||(decide (1≤g.Args.length)&&decide (g.Args.length≤8))
theorem Dn{Γ:B5}{vs vg:Value}{gs:List E5}{q:D3}(hq0:QR Γ vs vg gs q)(hok:J2 q):PG Tryz.prog Γ 52 [.agg #[vs,vg]] (.int .i64 (if AZ q=true then 0 else 15)):=R3 fun Γ w hle hw=>by
 have hq:=hq0.mono hle
 obtain⟨ga,gn,gc,rfl,hgn,hgnc,hgc⟩:=hq.goals.shape;obtain⟨sa,sn,sc,rfl,hsn,hsnc,hsc⟩:=hq.sel.shape;simp only[List.length_map]at hgn hsn
 have hrG:=hq.goals
 have hrS:=hq.sel
 have hgl:=hq.glen hok
 have hsl:=hok.sel
 have hnl:=hq.nlen
 refine A5 Tryz.func52 rfl rfl ?_
 refine A1 ?_;refine K4 ?_;intro b1 w hw;have hw:Wd Γ [.blk b1 (.cells #[.slice sa sn sc,.slice ga gn gc] 25)] w:=hw
 refine A1 ?_;refine A0 rfl (fun h=>?_) (fun h=>?_)
 ·have hf:AZ q=false:=by
   simp only[Bool.or_eq_true,decide_eq_true_eq]at h
   unfold AZ;rcases h with (h|h)|h
   ·rw[decide_eq_false (by omega)];rfl
   ·rw[decide_eq_false (p:=q.Goals.length≤16) (by omega),Bool.and_false];rfl
   ·rw[decide_eq_false (p:=q.Sel.length≤8) (by omega),Bool.and_false];rfl
  refine A1 ?_;refine⟨_,rfl,Γ,B5.le.refl _,E9 rfl ?_,hw.drop⟩
  rw[hf];rfl
 have hb:1≤gn∧gn≤16∧sn≤8:=by
  simp only[Bool.or_eq_false_iff,decide_eq_false_iff_not]at h
  obtain⟨⟨h1,h2⟩,h3⟩:=h;omega
 clear h;have hokl:AZ q=((q.Goals.all Mh)&&decide ((v7 q).length≤8)):=by
  unfold AZ;rw[decide_eq_true (by omega:1≤q.Goals.length),decide_eq_true (by omega:q.Goals.length≤16),decide_eq_true (by omega:q.Sel.length≤8)];rfl
 refine A1 ?_;refine H7 rfl rfl (AK (K:=9) (α:=ByteArray) (f:=Value.bool) hw fun bm w hw=>?_)
 have hw:Wd Γ [r9 bm [],.blk b1 (.cells #[.slice sa sn sc,.slice ga gn gc] 25)] w:=hw
 refine A1 ?_;refine C7 (fun μ ρ w=>∃(k:Nat),μ+k=sn∧Has ρ [(1,.pointer (some ⟨b1,0,none⟩)),(3,.map (some bm)),(28,.slice sa sn sc),(29,.int .i64 sn),(30,.int .i64 k)]∧Wd Γ [r9 bm ((q.Sel.take k).foldl addN []),.blk b1 (.cells #[.slice sa sn sc,.slice ga gn gc] 25)] w) sn ⟨0,by omega,⟨rfl,rfl,rfl,rfl,rfl,trivial⟩,hw⟩ ?_
 clear hw;rintro μ ρ w ⟨k,hk,hρ,hw⟩
 rw[hρ.eq];clear hρ;refine A1 ?_;refine A0 rfl (fun h=>?_) (fun h=>?_)
 ·have hkn:k<sn:=by have:=of_decide_eq_true h;omega
  clear h;obtain⟨s,hs⟩:=B8 (l:=q.Sel) (k:=k) (by omega)
  refine A1 ?_;refine H7 rfl rfl (S3 (f:=Value.bool) (v:=true) (i:=0) (l:=((q.Sel.take k).foldl addN []).map fun s=>(s,true)) hw rfl rfl rfl rfl fun w hw=>?_)
  rw[CF]at hw;have hw:Wd Γ [r9 bm ((q.Sel.take (k+1)).foldl addN []),.blk b1 (.cells #[.slice sa sn sc,.slice ga gn gc] 25)] w:=by
   rw[List.take_add_one,hs,List.foldl_append];exact hw
  refine A1 ?_;exact⟨μ-1,by omega,k+1,by omega,⟨rfl,rfl,rfl,rfl,rfl,trivial⟩,hw⟩
 have hkn:sn≤k:=by have:=of_decide_eq_false h;omega
 clear h;rw[List.take_of_length_le (by omega)]at hw
 have hw:Wd Γ [r9 bm ((q.Sel++(q.Goals.take 0).flatMap fun g=>(F6 g).map (·.Var)).foldl addN []),.blk b1 (.cells #[.slice sa sn sc,.slice ga gn gc] 25)] w:=by
  rw[List.take_zero,List.flatMap_nil,List.append_nil];exact hw
 clear hk hkn;refine A1 ?_;refine C7 (fun μ ρ w=>∃(Γ':B5) (k:Nat),Γ.le Γ'∧μ+k=gn∧Has ρ [(1,.pointer (some ⟨b1,0,none⟩)),(3,.map (some bm)),(38,.slice ga gn gc),(39,.int .i64 gn),(40,.int .i64 k)]∧q.Goals.all Mh=(q.Goals.drop k).all Mh∧Wd Γ' [r9 bm ((q.Sel++(q.Goals.take k).flatMap fun g=>(F6 g).map (·.Var)).foldl addN []),.blk b1 (.cells #[.slice sa sn sc,.slice ga gn gc] 25)] w) gn ⟨Γ,0,B5.le.refl _,by omega,⟨rfl,rfl,rfl,rfl,rfl,trivial⟩,rfl,hw⟩ ?_
 clear hw;rintro μ ρ w ⟨Γ1,k,hle1,hk,hρ,hall,hw⟩
 rw[hρ.eq];clear hρ;have hq1:=hq.mono hle1
 have hrG1:=hq1.goals
 refine A1 ?_;refine A0 rfl (fun h=>?_) (fun h=>?_)
 ·have hkn:k<gn:=by have:=of_decide_eq_true h;omega
  clear h;obtain⟨x,hx⟩:=B8 (l:=gs) (k:=k) (by omega)
  have hxm:=List.mem_of_getElem? hx
  have hgoal:=hq.goal hok hxm
  have hgok:=hq1.ok x hxm
  have hgx:=hq.get hx
  rw[K7 hgx]at hall;obtain⟨l1,l2,l3⟩:=hgok.len;obtain⟨g,A,N,C⟩:=x;simp only at hall hgoal l1 l2 l3 hgx
  have hal:=hgoal.len
  refine A1 ?_;refine B4 ?_;intro b7 w hw;refine A1 ?_;refine B0 ?_;intro w hw;have hw:Wd Γ1 [.blk b7 (.cells (cG ⟨g,A,N,C⟩).toArray 79),r9 bm ((q.Sel++(q.Goals.take k).flatMap fun g=>(F6 g).map (·.Var)).foldl addN []),.blk b1 (.cells #[.slice sa sn sc,.slice ga gn gc] 25)] w:=hw
  repeat first|refine C3 ?_|refine C4 ?_;intro w hw
  refine A0 rfl (fun h=>?_) (fun h=>?_)
  ·have hf:Mh g=false:=by
    have h:(E3 g&&(decide ((N:Int)<1)||decide (8<(N:Int))))=true:=h
    rw[Bool.and_eq_true,Bool.or_eq_true,decide_eq_true_eq,decide_eq_true_eq]at h;show (!E3 g||_)=false
    rw[h.1];simp only[Bool.not_true,Bool.false_or,Bool.and_eq_false_iff,decide_eq_false_iff_not]
    rcases h.2 with h2|h2
    ·exact .inl (by omega)
    ·exact .inr (by omega)
   refine A1 ?_;refine⟨_,rfl,Γ1,hle1,E9 rfl ?_,G3 hw⟩
   rw[hokl,hall,hf];rfl
  have hf:Mh g=true:=by
   have h:(E3 g&&(decide ((N:Int)<1)||decide (8<(N:Int))))=false:=h
   show (!E3 g||_)=true
   cases hi:E3 g with
   | false=>rfl
   | true=>
    rw[hi,Bool.true_and,Bool.or_eq_false_iff,decide_eq_false_iff_not,decide_eq_false_iff_not]at h;rw[decide_eq_true (by omega),decide_eq_true (by omega)];rfl
  clear h;rw[hf,Bool.true_and]at hall;refine A1 ?_;refine D1 (vs:=[.agg (cG ⟨g,A,N,C⟩).toArray]) ((Q9 hgok hw).mono fun e w hq2=>?_)
  clear hw;obtain⟨Γ2,v,hle2,rfl,hrv,hw⟩:=hq2;obtain⟨oa,on,oc,rfl,hon,honc,hoc⟩:=hrv.shape;simp only[List.length_map]at hon
  have hol:=w6 hgoal
  refine⟨_,rfl,?_⟩;refine A1 ?_;refine C7 (fun μ ρ w=>∃(j:Nat),μ+j=on∧Has ρ [(1,.pointer (some ⟨b1,0,none⟩)),(3,.map (some bm)),(38,.slice ga gn gc),(39,.int .i64 gn),(40,.int .i64 k),(59,.slice oa on oc),(60,.int .i64 on),(61,.int .i64 j)]∧Wd Γ2 [.blk b7 (.cells (cG ⟨g,A,N,C⟩).toArray 79),r9 bm (((q.Sel++(q.Goals.take k).flatMap fun g=>(F6 g).map (·.Var))++((F6 g).take j).map (·.Var)).foldl addN []),.blk b1 (.cells #[.slice sa sn sc,.slice ga gn gc] 25)] w) on ⟨0,by omega,⟨rfl,rfl,rfl,rfl,rfl,rfl,rfl,rfl,trivial⟩,by rw[List.take_zero,List.map_nil,List.append_nil];exact hw⟩ ?_
  clear hw;rintro μ2 ρ w ⟨j,hj,hρ,hw⟩
  rw[hρ.eq];clear hρ;refine A1 ?_;refine A0 rfl (fun h=>?_) (fun h=>?_)
  ·have hjn:j<on:=by have:=of_decide_eq_true h;omega
   clear h;obtain⟨o,ho⟩:=B8 (l:=F6 g) (k:=j) (by omega)
   refine A1 ?_;refine B4 ?_;intro b9 w hw;refine B0 ?_;intro w hw;have hw:Wd Γ2 [.blk b9 (.cells (enc o).toArray 77),.blk b7 (.cells (cG ⟨g,A,N,C⟩).toArray 79),r9 bm (((q.Sel++(q.Goals.take k).flatMap fun g=>(F6 g).map (·.Var))++((F6 g).take j).map (·.Var)).foldl addN []),.blk b1 (.cells #[.slice sa sn sc,.slice ga gn gc] 25)] w:=hw
   refine A1 ?_;refine H7 rfl rfl (S3 (f:=Value.bool) (v:=true) (i:=2) (l:=(((q.Sel++(q.Goals.take k).flatMap fun g=>(F6 g).map (·.Var))++((F6 g).take j).map (·.Var)).foldl addN []).map fun s=>(s,true)) hw rfl rfl rfl rfl fun w hw=>?_)
   rw[CF]at hw;have hw:Wd Γ2 [.blk b9 (.cells (enc o).toArray 77),.blk b7 (.cells (cG ⟨g,A,N,C⟩).toArray 79),r9 bm (((q.Sel++(q.Goals.take k).flatMap fun g=>(F6 g).map (·.Var))++((F6 g).take (j+1)).map (·.Var)).foldl addN []),.blk b1 (.cells #[.slice sa sn sc,.slice ga gn gc] 25)] w:=by
    rw[List.take_add_one,ho,List.map_append,←List.append_assoc,List.foldl_append (l:=((q.Sel++(q.Goals.take k).flatMap fun g=>(F6 g).map (·.Var))++((F6 g).take j).map (·.Var)))];exact hw
   refine A1 ?_;exact⟨on-j-1,by omega,j+1,by omega,⟨rfl,rfl,rfl,rfl,rfl,rfl,rfl,rfl,trivial⟩,hw.drop⟩
  have hjn:on≤j:=by have:=of_decide_eq_false h;omega
  clear h;have ho2:(F6 g).take j=F6 g:=List.take_of_length_le (by omega)
  rw[ho2]at hw;have hw:Wd Γ2 [.blk b7 (.cells (cG ⟨g,A,N,C⟩).toArray 79),r9 bm ((q.Sel++(q.Goals.take (k+1)).flatMap fun g=>(F6 g).map (·.Var)).foldl addN []),.blk b1 (.cells #[.slice sa sn sc,.slice ga gn gc] 25)] w:=by
   rw[BL (F:=fun g=>(F6 g).map (·.Var)) hgx,←List.append_assoc];exact hw
  refine A1 ?_;exact⟨gn-k-1,by omega,Γ2,k+1,hle1.trans hle2,by omega,⟨rfl,rfl,rfl,rfl,rfl,trivial⟩,hall,hw.drop⟩
 have hkn:gn≤k:=by have:=of_decide_eq_false h;omega
 clear h;rw[D7 _ (by rw[hnl];omega)]at hall
 rw[List.take_of_length_le (by omega)]at hw
 have hw:Wd Γ1 [r9 bm ((El q).foldl addN []),.blk b1 (.cells #[.slice sa sn sc,.slice ga gn gc] 25)] w:=hw
 have hnd:((El q).foldl addN []).Nodup:=Dk List.nodup_nil
 refine A1 ?_;refine H7 rfl rfl (IE (f:=Value.bool) (i:=0) (l:=((El q).foldl addN []).map fun s=>(s,true)) (a:=C9) hw rfl rfl rfl fun w hw=>?_)
 rw[Mx hnd]at hw;have hw:Wd Γ1 [r9 bm (((El q).foldl addN []).filter fun t=>decide (t≠C9)),.blk b1 (.cells #[.slice sa sn sc,.slice ga gn gc] 25)] w:=hw
 refine A1 ?_;refine H7 rfl rfl (IE (f:=Value.bool) (i:=0) (l:=(((El q).foldl addN []).filter fun t=>decide (t≠C9)).map fun s=>(s,true)) (a:=I9) hw rfl rfl rfl fun w hw=>?_)
 rw[Mx (hnd.filter _),Ke]at hw;have hw:Wd Γ1 [r9 bm (v7 q),.blk b1 (.cells #[.slice sa sn sc,.slice ga gn gc] 25)] w:=hw
 refine A1 ?_;refine A0 rfl (fun h=>?_) (fun h=>?_)
 ·have h:=of_decide_eq_true h
  rw[List.length_map]at h;refine A1 ?_;refine⟨_,rfl,Γ1,hle1,E9 rfl ?_,G3 hw⟩
  rw[hokl,decide_eq_false (by omega),Bool.and_false];rfl
 ·have h:=of_decide_eq_false h
  rw[List.length_map]at h;refine A1 ?_;refine⟨_,rfl,Γ1,hle1,E9 rfl ?_,G3 hw⟩
  rw[hokl,hall,decide_eq_true (by omega)];rfl
end Go.Proofs.YtlimglpjpcfpdaaGreatDoor
end
section
open Go Mk
namespace Go.Proofs.YtlimglpjpcfpdaaGreatDoor
set_option maxHeartbeats 16000000
attribute [local irreducible] Calls cI cB
def Qr(g:D6):Bool:=P9 g&&(F6 g).all plainO
theorem Ex{Γ:B5}{vs vg:Value}{gs:List E5}{q:D3}(hq0:QR Γ vs vg gs q)(hok:J2 q):PG Tryz.prog Γ 53 [.agg #[vs,vg]] (.int .i64 (if o5 q=true then 0 else 50)):=R3 fun Γ w hle hw=>by
 have hq:=hq0.mono hle
 obtain⟨ga,gn,gc,rfl,hgn,hgnc,hgc⟩:=hq.goals.shape;obtain⟨sa,sn,sc,rfl,hsn,hsnc,hsc⟩:=hq.sel.shape;simp only[List.length_map]at hgn hsn
 have hgl:=hq.glen hok
 have hnl:=hq.nlen
 have hall0:o5 q=q.Goals.all Qr:=rfl
 refine A5 Tryz.func53 rfl rfl ?_
 refine A1 ?_;refine K4 ?_;intro b1 w hw;have hw:Wd Γ [.blk b1 (.cells #[.slice sa sn sc,.slice ga gn gc] 25)] w:=hw
 refine A1 ?_;refine B4 ?_;intro b3 w hw;refine B0 ?_;intro w hw;have hw:Wd Γ [.blk b3 (.cells (enc j8).toArray 77),.blk b1 (.cells #[.slice sa sn sc,.slice ga gn gc] 25)] w:=hw
 refine A1 ?_;refine C7 (fun μ ρ w=>∃(Γ':B5) (k:Nat),Γ.le Γ'∧μ+k=gn∧Has ρ [(1,.pointer (some ⟨b1,0,none⟩)),(3,.pointer (some ⟨b3,0,none⟩)),(11,.slice ga gn gc),(12,.int .i64 gn),(13,.int .i64 k)]∧o5 q=(q.Goals.drop k).all Qr∧Wd Γ' [.blk b3 (.cells (enc j8).toArray 77),.blk b1 (.cells #[.slice sa sn sc,.slice ga gn gc] 25)] w) gn ⟨Γ,0,B5.le.refl _,by omega,⟨rfl,rfl,rfl,rfl,rfl,trivial⟩,hall0,hw⟩ ?_
 clear hw;rintro μ ρ w ⟨Γ1,k,hle1,hk,hρ,hall,hw⟩
 rw[hρ.eq];clear hρ;have hq1:=hq.mono hle1
 have hrG1:=hq1.goals
 refine A1 ?_;refine A0 rfl (fun h=>?_) (fun h=>?_)
 ·have hkn:k<gn:=by have:=of_decide_eq_true h;omega
  clear h;obtain⟨x,hx⟩:=B8 (l:=gs) (k:=k) (by omega)
  have hxm:=List.mem_of_getElem? hx
  have hgoal:=hq.goal hok hxm
  have hgok:=hq1.ok x hxm
  have hgx:=hq.get hx
  rw[K7 hgx]at hall;obtain⟨l1,l2,l3⟩:=hgok.len;obtain⟨g,A,N,C⟩:=x;simp only at hall hgoal l1 l2 l3 hgx
  have hal:=hgoal.len
  refine A1 ?_;refine B4 ?_;intro b5 w hw;refine A1 ?_;refine B0 ?_;intro w hw;have hw:Wd Γ1 [.blk b5 (.cells (cG ⟨g,A,N,C⟩).toArray 79),.blk b3 (.cells (enc j8).toArray 77),.blk b1 (.cells #[.slice sa sn sc,.slice ga gn gc] 25)] w:=hw
  first|refine C3 ?_|(refine C4 ?_;intro w hw)
  first|refine C3 ?_|(refine C4 ?_;intro w hw)
  first|refine C3 ?_|(refine C4 ?_;intro w hw)
  first|refine C3 ?_|(refine C4 ?_;intro w hw)
  first|refine C3 ?_|(refine C4 ?_;intro w hw)
  refine Ae (fun ρ w=>Has ρ [(1,.pointer (some ⟨b1,0,none⟩)),(3,.pointer (some ⟨b3,0,none⟩)),(5,.pointer (some ⟨b5,0,none⟩)),(6,.bool (P9 g)),(11,.slice ga gn gc),(12,.int .i64 gn),(13,.int .i64 k)]∧Wd Γ1 [.blk b5 (.cells (cG ⟨g,A,N,C⟩).toArray 79),.blk b3 (.cells (enc j8).toArray 77),.blk b1 (.cells #[.slice sa sn sc,.slice ga gn gc] 25)] w) ?_ ?_
  ·have k12:∀h12:g.Kind=1∨g.Kind=2,P9 g=(decide (g.Op=0)&&decide (g.L=j8)&&decide (g.R=j8)&&decide (g.Off=0)&&decide (g.Low=0)&&decide (g.High=0)):=fun h12=>by unfold P9;rw[if_pos h12]
   refine A1 ?_;refine A0 rfl (fun h=>?_) (fun h=>?_)
   ·have hk1:g.Kind=1:=of_decide_eq_true h
    refine A1 ?_;refine I2 (congrArg Value.bool h) ?_
    refine A1 ?_;refine lG ?_ (hv:=fun hc=>by exact Ck (a:=g.L) (b:=j8) A8 A8 rfl)
    refine A1 ?_;refine lG ?_ (hv:=fun hc=>by exact Ck (a:=g.R) (b:=j8) A8 A8 rfl)
    refine A1 ?_;refine⟨⟨rfl,rfl,rfl,?_,rfl,rfl,rfl,trivial⟩,hw⟩
    rw[k12 (.inl hk1)];rfl
   have hk1:¬g.Kind=1:=of_decide_eq_false h
   clear h;refine A1 ?_;refine A0 rfl (fun h=>?_) (fun h=>?_)
   ·have hk2:g.Kind=2:=of_decide_eq_true h
    refine A1 ?_;refine lG ?_ (hv:=fun hc=>by exact Ck (a:=g.L) (b:=j8) A8 A8 rfl)
    refine A1 ?_;refine lG ?_ (hv:=fun hc=>by exact Ck (a:=g.R) (b:=j8) A8 A8 rfl)
    refine A1 ?_;refine⟨⟨rfl,rfl,rfl,?_,rfl,rfl,rfl,trivial⟩,hw⟩
    rw[k12 (.inr hk2)];rfl
   have hk2:¬g.Kind=2:=of_decide_eq_false h
   clear h;refine A1 ?_;refine A0 rfl (fun h=>?_) (fun h=>?_)
   ·have hk3:g.Kind=3:=of_decide_eq_true h
    refine A1 ?_;refine⟨⟨rfl,rfl,rfl,?_,rfl,rfl,rfl,trivial⟩,hw⟩
    unfold P9;rw[if_neg (fun e=>e.elim hk1 hk2),if_pos hk3];have e:decide ((N:Int)=0)=decide (g.Args.length=0):=decide_eq_decide.2 (by omega)
    show Value.bool (decide (g.Rel=C9)&&decide ((N:Int)=0)&&decide (g.Low=0)&&decide (g.High=0))=_
    rw[e]
   have hk3:¬g.Kind=3:=of_decide_eq_false h
   clear h;refine A1 ?_;refine A0 rfl (fun h=>?_) (fun h=>?_)
   ·have hk4:g.Kind=4:=of_decide_eq_true h
    refine A1 ?_;refine lG ?_ (hv:=fun hc=>by exact Ck (a:=g.R) (b:=j8) A8 A8 rfl)
    refine A1 ?_;refine⟨⟨rfl,rfl,rfl,?_,rfl,rfl,rfl,trivial⟩,hw⟩
    unfold P9;rw[if_neg (fun e=>e.elim hk1 hk2),if_neg hk3,if_pos hk4];have e:decide ((N:Int)=0)=decide (g.Args.length=0):=decide_eq_decide.2 (by omega)
    show Value.bool (decide (g.Rel=C9)&&decide ((N:Int)=0)&&decide (g.Op=0)&&decide (g.R=j8)&&decide (g.Off=0)&&decide (g.L.Var≠C9))=_
    rw[e]
   have hk4:¬g.Kind=4:=of_decide_eq_false h
   refine A1 ?_;refine⟨⟨rfl,rfl,rfl,?_,rfl,rfl,rfl,trivial⟩,hw⟩
   unfold P9;rw[if_neg (fun e=>e.elim hk1 hk2),if_neg hk3,if_neg hk4];rfl
  clear hw;rintro ρ w ⟨hρ,hw⟩
  rw[hρ.eq];clear hρ;refine A1 ?_;refine D1 (vs:=[.agg (cG ⟨g,A,N,C⟩).toArray]) ((Q9 hgok hw).mono fun e w hq2=>?_)
  clear hw;obtain⟨Γ2,v,hle2,rfl,hrv,hw⟩:=hq2;obtain⟨oa,on,oc,rfl,hon,honc,hoc⟩:=hrv.shape;simp only[List.length_map]at hon
  have hol:=w6 hgoal
  refine⟨_,rfl,?_⟩;refine A1 ?_;refine C7 (fun μ ρ w=>∃(j:Nat) (t:Bool),μ+j=on∧Has ρ [(1,.pointer (some ⟨b1,0,none⟩)),(3,.pointer (some ⟨b3,0,none⟩)),(6,.bool t),(11,.slice ga gn gc),(12,.int .i64 gn),(13,.int .i64 k),(107,.slice oa on oc),(108,.int .i64 on),(109,.int .i64 j)]∧Qr g=(t&&((F6 g).drop j).all plainO)∧Wd Γ2 [.blk b5 (.cells (cG ⟨g,A,N,C⟩).toArray 79),.blk b3 (.cells (enc j8).toArray 77),.blk b1 (.cells #[.slice sa sn sc,.slice ga gn gc] 25)] w) on ⟨0,P9 g,by omega,⟨rfl,rfl,rfl,rfl,rfl,rfl,rfl,rfl,rfl,trivial⟩,rfl,hw⟩ ?_
  clear hw;rintro μ2 ρ w ⟨j,t,hj,hρ,hsh,hw⟩
  rw[hρ.eq];clear hρ;refine A1 ?_;refine A0 rfl (fun h=>?_) (fun h=>?_)
  ·have hjn:j<on:=by have:=of_decide_eq_true h;omega
   clear h;obtain⟨o,ho⟩:=B8 (l:=F6 g) (k:=j) (by omega)
   rw[K7 ho,←Bool.and_assoc]at hsh;refine A1 ?_;refine B4 ?_;intro b9 w hw;refine B0 ?_;intro w hw;have hw:Wd Γ2 (.blk b9 (.cells (enc o).toArray 77)::[.blk b5 (.cells (cG ⟨g,A,N,C⟩).toArray 79),.blk b3 (.cells (enc j8).toArray 77),.blk b1 (.cells #[.slice sa sn sc,.slice ga gn gc] 25)]) w:=hw
   refine A1 ?_;refine lG ?_ (hv:=fun hc=>by exact Ck (a:=o.Const) (b:=H2) A8 A8 rfl)
   refine A1 ?_;exact⟨on-j-1,by omega,j+1,(t&&plainO o),by omega,⟨rfl,rfl,rfl,rfl,rfl,rfl,rfl,rfl,rfl,trivial⟩,hsh,hw.drop⟩
  have hjn:on≤j:=by have:=of_decide_eq_false h;omega
  clear h;rw[D7 (F6 g) (by omega),List.all_nil,Bool.and_true]at hsh
  subst hsh;refine A1 ?_;refine A0 rfl (fun h=>?_) (fun h=>?_)
  ·have hf:Qr g=false:=by simpa using h
   refine A1 ?_;refine⟨_,rfl,Γ2,hle1.trans hle2,E9 rfl ?_,G3 hw⟩
   rw[hall,hf];rfl
  ·have hf:Qr g=true:=by simpa using h
   rw[hf,Bool.true_and]at hall;refine A1 ?_;exact⟨gn-k-1,by omega,Γ2,k+1,hle1.trans hle2,by omega,⟨rfl,rfl,rfl,rfl,rfl,trivial⟩,hall,hw.drop⟩
 have hkn:gn≤k:=by have:=of_decide_eq_false h;omega
 rw[D7 _ (by rw[hnl];omega)]at hall
 refine A1 ?_;refine⟨_,rfl,Γ1,hle1,E9 rfl ?_,G3 hw⟩
 rw[hall];rfl
end Go.Proofs.YtlimglpjpcfpdaaGreatDoor
end
section
open Go Mk
namespace Go.Proofs.YtlimglpjpcfpdaaGreatDoor
set_option maxHeartbeats 16000000
attribute [local irreducible] Calls cI cB
theorem Ei{Γ:B5}{vs vg:Value}{gs:List E5}{q:D3}(hq0:QR Γ vs vg gs q)(hok:J2 q):PG Tryz.prog Γ 54 [.agg #[vs,vg]] (.int .i64 (if T4 q=true then 0 else 63)):=R3 fun Γ w hle hw=>by
 have hq:=hq0.mono hle
 obtain⟨ga,gn,gc,rfl,hgn,hgnc,hgc⟩:=hq.goals.shape;obtain⟨sa,sn,sc,rfl,hsn,hsnc,hsc⟩:=hq.sel.shape;simp only[List.length_map]at hgn hsn
 have hgl:=hq.glen hok
 have hsl:=hok.sel
 have hnl:=hq.nlen
 have hrS:=hq.sel
 refine A5 Tryz.func54 rfl rfl ?_
 refine A1 ?_;refine K4 ?_;intro b1 w hw;have hw:Wd Γ [.blk b1 (.cells #[.slice sa sn sc,.slice ga gn gc] 25)] w:=hw
 refine A1 ?_;refine C7 (fun μ ρ w=>∃(k:Nat),μ+k=sn∧Has ρ [(1,.pointer (some ⟨b1,0,none⟩)),(10,.slice sa sn sc),(11,.int .i64 sn),(12,.int .i64 k)]∧q.Sel.all R6=(q.Sel.drop k).all R6∧Wd Γ [.blk b1 (.cells #[.slice sa sn sc,.slice ga gn gc] 25)] w) sn ⟨0,by omega,⟨rfl,rfl,rfl,rfl,trivial⟩,rfl,hw⟩ ?_
 clear hw;rintro μ ρ w ⟨k,hk,hρ,hall,hw⟩
 rw[hρ.eq];clear hρ;refine A1 ?_;refine A0 rfl (fun h=>?_) (fun h=>?_)
 ·have hkn:k<sn:=by have:=of_decide_eq_true h;omega
  clear h;obtain⟨s,hs⟩:=B8 (l:=q.Sel) (k:=k) (by omega)
  rw[K7 hs]at hall;have p1:=f0 (hok.names s (List.mem_of_getElem? hs))
  refine A1 ?_;refine A0 rfl (fun h=>?_) (fun h=>?_)
  ·have hf:R6 s=false:=by simpa using h
   refine A1 ?_;refine⟨_,rfl,Γ,B5.le.refl _,E9 rfl ?_,G3 hw⟩
   unfold T4;rw[hall,hf];rfl
  ·have hf:R6 s=true:=by simpa using h
   rw[hf,Bool.true_and]at hall;refine A1 ?_;exact⟨μ-1,by omega,k+1,by omega,⟨rfl,rfl,rfl,rfl,trivial⟩,hall,hw⟩
 have hkn:sn≤k:=by have:=of_decide_eq_false h;omega
 clear h;rw[D7 q.Sel (by omega)]at hall
 have hall0:T4 q=q.Goals.all Ad:=by unfold T4;rw[hall];rfl
 clear hall hkn hk;refine A1 ?_;refine C7 (fun μ ρ w=>∃(Γ':B5) (k:Nat),Γ.le Γ'∧μ+k=gn∧Has ρ [(1,.pointer (some ⟨b1,0,none⟩)),(21,.slice ga gn gc),(22,.int .i64 gn),(23,.int .i64 k)]∧T4 q=(q.Goals.drop k).all Ad∧Wd Γ' [.blk b1 (.cells #[.slice sa sn sc,.slice ga gn gc] 25)] w) gn ⟨Γ,0,B5.le.refl _,by omega,⟨rfl,rfl,rfl,rfl,trivial⟩,hall0,hw⟩ ?_
 clear hw;rintro μ ρ w ⟨Γ1,k,hle1,hk,hρ,hall,hw⟩
 rw[hρ.eq];clear hρ;have hq1:=hq.mono hle1
 have hrG1:=hq1.goals
 refine A1 ?_;refine A0 rfl (fun h=>?_) (fun h=>?_)
 ·have hkn:k<gn:=by have:=of_decide_eq_true h;omega
  clear h;obtain⟨x,hx⟩:=B8 (l:=gs) (k:=k) (by omega)
  have hxm:=List.mem_of_getElem? hx
  have hgoal:=hq.goal hok hxm
  have hgok:=hq1.ok x hxm
  have hgx:=hq.get hx
  rw[K7 hgx]at hall;obtain⟨l1,l2,l3⟩:=hgok.len;obtain⟨g,A,N,C⟩:=x;simp only at hall hgoal l1 l2 l3 hgx
  have hal:=hgoal.len
  haveI:=Me hgoal.rel
  refine A1 ?_;refine B4 ?_;intro b6 w hw;refine A1 ?_;refine B0 ?_;intro w hw;have hw:Wd Γ1 [.blk b6 (.cells (cG ⟨g,A,N,C⟩).toArray 79),.blk b1 (.cells #[.slice sa sn sc,.slice ga gn gc] 25)] w:=hw
  repeat first|refine C3 ?_|refine C4 ?_;intro w hw
  refine A0 rfl (fun h=>?_) (fun h=>?_)
  ·have hf:Ad g=false:=by
    have h:(E3 g&&(!O7 g.Rel||DJ g.Rel))=true:=h
    unfold Ad;rw[h];rfl
   refine A1 ?_;refine⟨_,rfl,Γ1,hle1,E9 rfl ?_,G3 hw⟩
   rw[hall,hf];rfl
  have hnG:Ad g=(F6 g).all (Ea g):=by
   have h:(E3 g&&(!O7 g.Rel||DJ g.Rel))=false:=h
   unfold Ad;rw[h];rfl
  clear h;refine A1 ?_;refine D1 (vs:=[.agg (cG ⟨g,A,N,C⟩).toArray]) ((Q9 hgok hw).mono fun e w hq2=>?_)
  clear hw;obtain⟨Γ2,v,hle2,rfl,hrv,hw⟩:=hq2;obtain⟨oa,on,oc,rfl,hon,honc,hoc⟩:=hrv.shape;simp only[List.length_map]at hon
  have hol:=w6 hgoal
  refine⟨_,rfl,?_⟩;refine A1 ?_;refine C7 (fun μ ρ w=>∃(j:Nat),μ+j=on∧Has ρ [(1,.pointer (some ⟨b1,0,none⟩)),(6,.pointer (some ⟨b6,0,none⟩)),(21,.slice ga gn gc),(22,.int .i64 gn),(23,.int .i64 k),(41,.slice oa on oc),(42,.int .i64 on),(43,.int .i64 j)]∧Ad g=((F6 g).drop j).all (Ea g)∧Wd Γ2 [.blk b6 (.cells (cG ⟨g,A,N,C⟩).toArray 79),.blk b1 (.cells #[.slice sa sn sc,.slice ga gn gc] 25)] w) on ⟨0,by omega,⟨rfl,rfl,rfl,rfl,rfl,rfl,rfl,rfl,trivial⟩,hnG,hw⟩ ?_
  clear hw;rintro μ2 ρ w ⟨j,hj,hρ,hsh,hw⟩
  rw[hρ.eq];clear hρ;refine A1 ?_;refine A0 rfl (fun h=>?_) (fun h=>?_)
  ·have hjn:j<on:=by have:=of_decide_eq_true h;omega
   clear h;obtain⟨o,ho⟩:=B8 (l:=F6 g) (k:=j) (by omega)
   obtain⟨hov,hoc2⟩:=Oz hgoal o (List.mem_of_getElem? ho)
   have p1:=f0 hov
   have p2:=AY (Γ:=Γ2) hoc2
   rw[K7 ho]at hsh;have hno:Ea g o=(!(decide (o.Var=C9) && !I3 o.Const) && !(decide (o.Var=I9) && !E3 g) && !(decide (o.Var≠C9)&&decide (o.Var≠I9) && !R6 o.Var)):=rfl
   refine A1 ?_;refine B4 ?_;intro b8 w hw;refine B0 ?_;intro w hw;have hw:Wd Γ2 [.blk b8 (.cells (enc o).toArray 77),.blk b6 (.cells (cG ⟨g,A,N,C⟩).toArray 79),.blk b1 (.cells #[.slice sa sn sc,.slice ga gn gc] 25)] w:=hw
   have fin:Ea g o=false→T4 q=false:=fun hf=>by rw[hall,hsh,hf];rfl
   refine A1 ?_;refine Lt (hp:=p2) ?_
   intro w hw;refine A1 ?_;refine A0 rfl (fun h=>?_) (fun h=>?_)
   ·refine A1 ?_;refine I2 (congrArg Value.bool h) ?_
    have h:(decide (o.Var=C9) && !I3 o.Const)=true:=h
    refine A1 ?_;refine⟨_,rfl,Γ2,hle1.trans hle2,E9 rfl ?_,G3 hw⟩
    rw[fin (by rw[hno,h];rfl)];rfl
   have h1:(decide (o.Var=C9) && !I3 o.Const)=false:=h
   clear h;repeat first|refine C3 ?_|refine C4 ?_;intro w hw
   refine A0 rfl (fun h=>?_) (fun h=>?_)
   ·refine A1 ?_;refine I2 (congrArg Value.bool h) ?_
    have h:(decide (o.Var=I9) && !E3 g)=true:=h
    refine A1 ?_;refine⟨_,rfl,Γ2,hle1.trans hle2,E9 rfl ?_,G3 hw⟩
    rw[fin (by rw[hno,h,Bool.not_true,Bool.and_false];rfl)];rfl
   have h2:(decide (o.Var=I9) && !E3 g)=false:=h
   clear h;refine A1 ?_;refine A0 rfl (fun h=>?_) (fun h=>?_)
   ·have h:(decide (o.Var≠C9)&&decide (o.Var≠I9) && !R6 o.Var)=true:=h
    refine A1 ?_;refine⟨_,rfl,Γ2,hle1.trans hle2,E9 rfl ?_,G3 hw⟩
    rw[fin (by rw[hno,h,Bool.not_true,Bool.and_false])];rfl
   ·have h:(decide (o.Var≠C9)&&decide (o.Var≠I9) && !R6 o.Var)=false:=h
    have hf:Ea g o=true:=by rw[hno,h1,h2,h];rfl
    rw[hf,Bool.true_and]at hsh;refine A1 ?_;exact⟨on-j-1,by omega,j+1,by omega,⟨rfl,rfl,rfl,rfl,rfl,rfl,rfl,rfl,trivial⟩,hsh,hw.drop⟩
  have hjn:on≤j:=by have:=of_decide_eq_false h;omega
  clear h;rw[D7 (F6 g) (by omega)]at hsh
  have hsh:Ad g=true:=hsh
  rw[hsh,Bool.true_and]at hall;refine A1 ?_;exact⟨gn-k-1,by omega,Γ2,k+1,hle1.trans hle2,by omega,⟨rfl,rfl,rfl,rfl,trivial⟩,hall,hw.drop⟩
 have hkn:gn≤k:=by have:=of_decide_eq_false h;omega
 rw[D7 _ (by rw[hnl];omega)]at hall
 refine A1 ?_;refine⟨_,rfl,Γ1,hle1,E9 rfl ?_,G3 hw⟩
 rw[hall];rfl
def Eu(g:D6):List ByteArray:=if g.Kind=1∨g.Kind=4 then (F6 g).map (·.Var) else []
def BQ(q:D3):List ByteArray:=(JB q).foldl addN [C9,I9]
theorem KQ{q:D3}:CO q=(El q).all (l9 (BQ q)):=by
 rw[Bool.eq_iff_iff];unfold CO;rw[List.all_eq_true,List.all_eq_true];have key:∀s,l9 (BQ q) s=true↔s=C9∨s=I9∨s∈JB q:=fun s=>by
  rw[T7];unfold BQ;rw[BU];simp[or_assoc]
 have hmem:∀s,s∈v7 q↔s∈El q∧s≠C9∧s≠I9:=fun s=>by
  unfold v7;rw[BU];unfold Ow;simp[List.mem_filter]
 constructor
 ·intro h s hs;rw[key];by_cases h1:s=C9
  ·exact .inl h1
  by_cases h2:s=I9
  ·exact .inr (.inl h2)
  exact .inr (.inr (T7.1 (h s ((hmem s).2 ⟨hs,h1,h2⟩))))
 ·intro h s hs;obtain⟨h1,h2,h3⟩:=(hmem s).1 hs
  have:=(key s).1 (h s h1)
  exact T7.2 ((this.resolve_left h2).resolve_left h3)
def Ky(q:D3)(g:D6):Bool:=(F6 g).all fun o=>l9 (BQ q) o.Var
theorem JF{q:D3}:CO q=(q.Sel.all (l9 (BQ q))&&q.Goals.all (Ky q)):=by
 rw[KQ];unfold El;rw[List.all_append,List.all_flatMap];congr 2
 funext g
 rw[List.all_map];rfl
def Il(q:D3):Int:=if ¬q.Sel.Nodup then 56 else if CO q=false then 62 else 0
theorem BR{Γ:B5}{vs vg:Value}{gs:List E5}{q:D3}(hq0:QR Γ vs vg gs q)(hok:J2 q):PG Tryz.prog Γ 56 [.agg #[vs,vg]] (.int .i64 (Il q)):=R3 fun Γ w hle hw=>by
 have hq:=hq0.mono hle
 obtain⟨ga,gn,gc,rfl,hgn,hgnc,hgc⟩:=hq.goals.shape;obtain⟨sa,sn,sc,rfl,hsn,hsnc,hsc⟩:=hq.sel.shape;simp only[List.length_map]at hgn hsn
 have hgl:=hq.glen hok
 have hsl:=hok.sel
 have hnl:=hq.nlen
 have hrS:=hq.sel
 refine A5 Tryz.func56 rfl rfl ?_
 refine A1 ?_;refine K4 ?_;intro b1 w hw;have hw:Wd Γ [.blk b1 (.cells #[.slice sa sn sc,.slice ga gn gc] 25)] w:=hw
 refine A1 ?_;refine H7 rfl rfl (AK (K:=9) (α:=ByteArray) (f:=Value.bool) hw fun bm w hw=>?_)
 have hw:Wd Γ [r9 bm [],.blk b1 (.cells #[.slice sa sn sc,.slice ga gn gc] 25)] w:=hw
 refine A1 ?_;refine H7 rfl rfl (Ge (S3 (f:=Value.bool) (v:=true) (i:=0) (l:=([]:List ByteArray).map fun s=>(s,true)) (a:=C9) hw rfl rfl rfl rfl fun w hw=>?_))
 rw[CF]at hw;have hw:Wd Γ [r9 bm [C9],.blk b1 (.cells #[.slice sa sn sc,.slice ga gn gc] 25)] w:=hw
 refine H7 rfl rfl (Ge (S3 (f:=Value.bool) (v:=true) (i:=0) (l:=[C9].map fun s=>(s,true)) (a:=I9) hw rfl rfl rfl rfl fun w hw=>?_))
 rw[CF]at hw;have hw:Wd Γ [r9 bm [C9,I9],.blk b1 (.cells #[.slice sa sn sc,.slice ga gn gc] 25)] w:=hw
 refine A1 ?_;refine C7 (fun μ ρ w=>∃(Γ':B5) (k:Nat),Γ.le Γ'∧μ+k=gn∧Has ρ [(1,.pointer (some ⟨b1,0,none⟩)),(3,.map (some bm)),(20,.slice ga gn gc),(21,.int .i64 gn),(22,.int .i64 k)]∧Wd Γ' [r9 bm (((q.Goals.take k).flatMap Eu).foldl addN [C9,I9]),.blk b1 (.cells #[.slice sa sn sc,.slice ga gn gc] 25)] w) gn ⟨Γ,0,B5.le.refl _,by omega,⟨rfl,rfl,rfl,rfl,rfl,trivial⟩,hw⟩ ?_
 clear hw;rintro μ ρ w ⟨Γ1,k,hle1,hk,hρ,hw⟩
 rw[hρ.eq];clear hρ;have hq1:=hq.mono hle1
 have hrG1:=hq1.goals
 have hrS1:=hq1.sel
 refine A1 ?_;refine A0 rfl (fun h=>?_) (fun h=>?_)
 ·have hkn:k<gn:=by have:=of_decide_eq_true h;omega
  clear h;obtain⟨x,hx⟩:=B8 (l:=gs) (k:=k) (by omega)
  have hxm:=List.mem_of_getElem? hx
  have hgoal:=hq.goal hok hxm
  have hgok:=hq1.ok x hxm
  have hgx:=hq.get hx
  have hsu:=BL (F:=Eu) hgx
  obtain⟨l1,l2,l3⟩:=hgok.len;obtain⟨g,A,N,C⟩:=x;simp only at hgoal l1 l2 l3 hgx hsu
  have hal:=hgoal.len
  refine A1 ?_;refine B4 ?_;intro b5 w hw;refine A1 ?_;refine B0 ?_;intro w hw;have hw:Wd Γ1 [.blk b5 (.cells (cG ⟨g,A,N,C⟩).toArray 79),r9 bm (((q.Goals.take k).flatMap Eu).foldl addN [C9,I9]),.blk b1 (.cells #[.slice sa sn sc,.slice ga gn gc] 25)] w:=hw
  refine A1 ?_;refine A0 rfl (fun h=>?_) (fun h=>?_)
  ·have hkd:g.Kind=1∨g.Kind=4:=by
    have h:(decide (g.Kind=1)||decide (g.Kind=4))=true:=h
    simpa using h
   clear h;have hb:Eu g=(F6 g).map (·.Var):=if_pos hkd
   refine A1 ?_;refine D1 (vs:=[.agg (cG ⟨g,A,N,C⟩).toArray]) ((Q9 hgok hw).mono fun e w hq2=>?_)
   clear hw;obtain⟨Γ2,v,hle2,rfl,hrv,hw⟩:=hq2;obtain⟨oa,on,oc,rfl,hon,honc,hoc⟩:=hrv.shape;simp only[List.length_map]at hon
   have hol:=w6 hgoal
   refine⟨_,rfl,?_⟩;refine A1 ?_;refine C7 (fun μ ρ w=>∃(j:Nat),μ+j=on∧Has ρ [(1,.pointer (some ⟨b1,0,none⟩)),(3,.map (some bm)),(20,.slice ga gn gc),(21,.int .i64 gn),(22,.int .i64 k),(35,.slice oa on oc),(36,.int .i64 on),(37,.int .i64 j)]∧Wd Γ2 [.blk b5 (.cells (cG ⟨g,A,N,C⟩).toArray 79),r9 bm (((q.Goals.take k).flatMap Eu++((F6 g).take j).map (·.Var)).foldl addN [C9,I9]),.blk b1 (.cells #[.slice sa sn sc,.slice ga gn gc] 25)] w) on ⟨0,by omega,⟨rfl,rfl,rfl,rfl,rfl,rfl,rfl,rfl,trivial⟩,by rw[List.take_zero,List.map_nil,List.append_nil];exact hw⟩ ?_
   clear hw;rintro μ2 ρ w ⟨j,hj,hρ,hw⟩
   rw[hρ.eq];clear hρ;refine A1 ?_;refine A0 rfl (fun h=>?_) (fun h=>?_)
   ·have hjn:j<on:=by have:=of_decide_eq_true h;omega
    clear h;obtain⟨o,ho⟩:=B8 (l:=F6 g) (k:=j) (by omega)
    refine A1 ?_;refine B4 ?_;intro b7 w hw;refine B0 ?_;intro w hw;have hw:Wd Γ2 [.blk b7 (.cells (enc o).toArray 77),.blk b5 (.cells (cG ⟨g,A,N,C⟩).toArray 79),r9 bm (((q.Goals.take k).flatMap Eu++((F6 g).take j).map (·.Var)).foldl addN [C9,I9]),.blk b1 (.cells #[.slice sa sn sc,.slice ga gn gc] 25)] w:=hw
    refine A1 ?_;refine H7 rfl rfl (S3 (f:=Value.bool) (v:=true) (i:=2) (l:=(((q.Goals.take k).flatMap Eu++((F6 g).take j).map (·.Var)).foldl addN [C9,I9]).map fun s=>(s,true)) hw rfl rfl rfl rfl fun w hw=>?_)
    rw[CF]at hw;have hw:Wd Γ2 [.blk b7 (.cells (enc o).toArray 77),.blk b5 (.cells (cG ⟨g,A,N,C⟩).toArray 79),r9 bm (((q.Goals.take k).flatMap Eu++((F6 g).take (j+1)).map (·.Var)).foldl addN [C9,I9]),.blk b1 (.cells #[.slice sa sn sc,.slice ga gn gc] 25)] w:=by
     rw[List.take_add_one,ho,List.map_append,←List.append_assoc,List.foldl_append (l:=(q.Goals.take k).flatMap Eu++((F6 g).take j).map (·.Var))];exact hw
    refine A1 ?_;exact⟨on-j-1,by omega,j+1,by omega,⟨rfl,rfl,rfl,rfl,rfl,rfl,rfl,rfl,trivial⟩,hw.drop⟩
   have hjn:on≤j:=by have:=of_decide_eq_false h;omega
   clear h;have ho2:(F6 g).take j=F6 g:=List.take_of_length_le (by omega)
   rw[ho2,←hb,←hsu]at hw;refine A1 ?_;exact⟨gn-k-1,by omega,Γ2,k+1,hle1.trans hle2,by omega,⟨rfl,rfl,rfl,rfl,rfl,trivial⟩,hw.drop⟩
  have hkd:¬(g.Kind=1∨g.Kind=4):=by
   have h:(decide (g.Kind=1)||decide (g.Kind=4))=false:=h
   simpa using h
  clear h;have hb:Eu g=[]:=if_neg hkd
  rw[hb,List.append_nil]at hsu;rw[←hsu]at hw;refine A1 ?_;exact⟨gn-k-1,by omega,Γ1,k+1,hle1,by omega,⟨rfl,rfl,rfl,rfl,rfl,trivial⟩,hw.drop⟩
 have hkn:gn≤k:=by have:=of_decide_eq_false h;omega
 clear h;rw[List.take_of_length_le (by omega)]at hw
 have hw:Wd Γ1 [r9 bm (BQ q),.blk b1 (.cells #[.slice sa sn sc,.slice ga gn gc] 25)] w:=hw
 clear hkn hk;refine A1 ?_;refine H7 rfl rfl (AK (K:=9) (α:=ByteArray) (f:=Value.bool) hw fun bm2 w hw=>?_)
 have hw:Wd Γ1 [r9 bm2 [],r9 bm (BQ q),.blk b1 (.cells #[.slice sa sn sc,.slice ga gn gc] 25)] w:=hw
 refine A1 ?_;refine C7 (fun μ ρ w=>∃(k:Nat),μ+k=sn∧Has ρ [(1,.pointer (some ⟨b1,0,none⟩)),(3,.map (some bm)),(8,.map (some bm2)),(48,.slice sa sn sc),(49,.int .i64 sn),(50,.int .i64 k)]∧(q.Sel.take k).Nodup∧Wd Γ1 [r9 bm2 ((q.Sel.take k).foldl addN []),r9 bm (BQ q),.blk b1 (.cells #[.slice sa sn sc,.slice ga gn gc] 25)] w) sn ⟨0,by omega,⟨rfl,rfl,rfl,rfl,rfl,rfl,trivial⟩,List.nodup_nil,hw⟩ ?_
 clear hw;rintro μ ρ w ⟨k,hk,hρ,hnd,hw⟩
 rw[hρ.eq];clear hρ;refine A1 ?_;refine A0 rfl (fun h=>?_) (fun h=>?_)
 ·have hkn:k<sn:=by have:=of_decide_eq_true h;omega
  clear h;obtain⟨s,hs⟩:=B8 (l:=q.Sel) (k:=k) (by omega)
  have hmem:l9 ((q.Sel.take k).foldl addN []) s=true↔s∈q.Sel.take k:=by
   rw[T7,BU];simp
  refine A1 ?_;refine A0 rfl (fun h=>?_) (fun h=>?_)
  ·have h:((G4 (((q.Sel.take k).foldl addN []).map fun s=>(s,true)) s).getD default)=true:=h
   rw[CP,hmem]at h;have hf:¬q.Sel.Nodup:=fun hn=>by
    obtain⟨i,hi⟩:=List.getElem?_of_mem h
    have hik:i<k:=by have:=(List.getElem?_eq_some_iff.1 hi).1;rw[List.length_take]at this;omega
    rw[List.getElem?_take,if_pos hik]at hi;have:=(List.getElem?_inj (by omega) hn).1 (hi.trans hs.symm)
    omega
   refine A1 ?_;refine⟨_,rfl,Γ1,hle1,E9 rfl ?_,G3 hw⟩
   unfold Il;rw[if_pos hf]
  ·have h:((G4 (((q.Sel.take k).foldl addN []).map fun s=>(s,true)) s).getD default)=false:=h
   rw[CP]at h;have hnm:s∉q.Sel.take k:=fun hm=>by rw[hmem.2 hm]at h;cases h
   refine A1 ?_;refine H7 rfl rfl (S3 (f:=Value.bool) (v:=true) (i:=0) (l:=((q.Sel.take k).foldl addN []).map fun s=>(s,true)) hw rfl rfl rfl rfl fun w hw=>?_)
   rw[CF]at hw;have hw:Wd Γ1 [r9 bm2 ((q.Sel.take (k+1)).foldl addN []),r9 bm (BQ q),.blk b1 (.cells #[.slice sa sn sc,.slice ga gn gc] 25)] w:=by
    rw[List.take_add_one,hs,List.foldl_append];exact hw
   refine A1 ?_;refine⟨sn-k-1,by omega,k+1,by omega,⟨rfl,rfl,rfl,rfl,rfl,rfl,trivial⟩,?_,hw⟩
   rw[List.take_add_one,hs,List.nodup_append];exact⟨hnd,by simp,fun a ha b hb e=>by
    have hb:b=s:=by simpa using hb
    exact hnm (by rw[←hb,←e];exact ha)⟩
 have hkn:sn≤k:=by have:=of_decide_eq_false h;omega
 clear h;rw[List.take_of_length_le (by omega)]at hnd
 have hv:Il q=if CO q=false then 62 else 0:=by
  unfold Il;rw[if_neg (fun h=>h hnd)]
 rw[JF]at hv;clear hkn hk;refine A1 ?_;obtain⟨KK,hKK⟩:∃KK,KK=(q.Sel.take k).foldl addN []:=⟨_,rfl⟩
 rw[←hKK]at hw;clear hKK;refine C7 (fun μ ρ w=>∃(k:Nat),μ+k=sn∧Has ρ [(1,.pointer (some ⟨b1,0,none⟩)),(3,.map (some bm)),(61,.slice sa sn sc),(62,.int .i64 sn),(63,.int .i64 k)]∧q.Sel.all (l9 (BQ q))=(q.Sel.drop k).all (l9 (BQ q))∧Wd Γ1 [r9 bm2 KK,r9 bm (BQ q),.blk b1 (.cells #[.slice sa sn sc,.slice ga gn gc] 25)] w) sn ⟨0,by omega,⟨rfl,rfl,rfl,rfl,rfl,trivial⟩,rfl,hw⟩ ?_
 clear hw;rintro μ ρ w ⟨k,hk,hρ,hall,hw⟩
 rw[hρ.eq];clear hρ;refine A1 ?_;refine A0 rfl (fun h=>?_) (fun h=>?_)
 ·have hkn:k<sn:=by have:=of_decide_eq_true h;omega
  clear h;obtain⟨s,hs⟩:=B8 (l:=q.Sel) (k:=k) (by omega)
  rw[K7 hs]at hall;refine A1 ?_;refine A0 rfl (fun h=>?_) (fun h=>?_)
  ·have h:(!((G4 ((BQ q).map fun s=>(s,true)) s).getD default))=true:=h
   rw[CP]at h;have hf:l9 (BQ q) s=false:=by simpa using h
   refine A1 ?_;refine⟨_,rfl,Γ1,hle1,E9 rfl ?_,G3 hw⟩
   rw[hv,hall,hf];rfl
  ·have h:(!((G4 ((BQ q).map fun s=>(s,true)) s).getD default))=false:=h
   rw[CP]at h;have hf:l9 (BQ q) s=true:=by simpa using h
   rw[hf,Bool.true_and]at hall;refine A1 ?_;exact⟨sn-k-1,by omega,k+1,by omega,⟨rfl,rfl,rfl,rfl,rfl,trivial⟩,hall,hw⟩
 have hkn:sn≤k:=by have:=of_decide_eq_false h;omega
 clear h;rw[D7 q.Sel (by omega)]at hall
 have hv:Il q=if q.Goals.all (Ky q)=false then 62 else 0:=by
  rw[hv,hall];rfl
 clear hkn hk hall;refine A1 ?_;refine C7 (fun μ ρ w=>∃(Γ':B5) (k:Nat),Γ1.le Γ'∧μ+k=gn∧Has ρ [(1,.pointer (some ⟨b1,0,none⟩)),(3,.map (some bm)),(73,.slice ga gn gc),(74,.int .i64 gn),(75,.int .i64 k)]∧q.Goals.all (Ky q)=(q.Goals.drop k).all (Ky q)∧Wd Γ' [r9 bm2 KK,r9 bm (BQ q),.blk b1 (.cells #[.slice sa sn sc,.slice ga gn gc] 25)] w) gn ⟨Γ1,0,B5.le.refl _,by omega,⟨rfl,rfl,rfl,rfl,rfl,trivial⟩,rfl,hw⟩ ?_
 clear hw;rintro μ ρ w ⟨Γ2,k,hle2,hk,hρ,hall,hw⟩
 rw[hρ.eq];clear hρ;have hq2:=hq1.mono hle2
 have hrG2:=hq2.goals
 refine A1 ?_;refine A0 rfl (fun h=>?_) (fun h=>?_)
 ·have hkn:k<gn:=by have:=of_decide_eq_true h;omega
  clear h;obtain⟨x,hx⟩:=B8 (l:=gs) (k:=k) (by omega)
  have hxm:=List.mem_of_getElem? hx
  have hgoal:=hq.goal hok hxm
  have hgok:=hq2.ok x hxm
  have hgx:=hq.get hx
  rw[K7 hgx]at hall;obtain⟨l1,l2,l3⟩:=hgok.len;obtain⟨g,A,N,C⟩:=x;simp only at hgoal l1 l2 l3 hgx hall
  have hal:=hgoal.len
  refine A1 ?_;refine B4 ?_;intro b14 w hw;refine A1 ?_;refine B0 ?_;intro w hw;have hw:Wd Γ2 (.blk b14 (.cells (cG ⟨g,A,N,C⟩).toArray 79)::[r9 bm2 KK,r9 bm (BQ q),.blk b1 (.cells #[.slice sa sn sc,.slice ga gn gc] 25)]) w:=hw
  refine A1 ?_;refine D1 (vs:=[.agg (cG ⟨g,A,N,C⟩).toArray]) ((Q9 hgok hw).mono fun e w hq3=>?_)
  clear hw;obtain⟨Γ3,v,hle3,rfl,hrv,hw⟩:=hq3;obtain⟨oa,on,oc,rfl,hon,honc,hoc⟩:=hrv.shape;simp only[List.length_map]at hon
  have hol:=w6 hgoal
  refine⟨_,rfl,?_⟩;refine A1 ?_;refine C7 (fun μ ρ w=>∃(j:Nat),μ+j=on∧Has ρ [(1,.pointer (some ⟨b1,0,none⟩)),(3,.map (some bm)),(73,.slice ga gn gc),(74,.int .i64 gn),(75,.int .i64 k),(80,.slice oa on oc),(81,.int .i64 on),(82,.int .i64 j)]∧Ky q g=(((F6 g).drop j).all fun o=>l9 (BQ q) o.Var)∧Wd Γ3 (.blk b14 (.cells (cG ⟨g,A,N,C⟩).toArray 79)::[r9 bm2 KK,r9 bm (BQ q),.blk b1 (.cells #[.slice sa sn sc,.slice ga gn gc] 25)]) w) on ⟨0,by omega,⟨rfl,rfl,rfl,rfl,rfl,rfl,rfl,rfl,trivial⟩,rfl,hw⟩ ?_
  clear hw;rintro μ2 ρ w ⟨j,hj,hρ,hsh,hw⟩
  rw[hρ.eq];clear hρ;refine A1 ?_;refine A0 rfl (fun h=>?_) (fun h=>?_)
  ·have hjn:j<on:=by have:=of_decide_eq_true h;omega
   clear h;obtain⟨o,ho⟩:=B8 (l:=F6 g) (k:=j) (by omega)
   rw[K7 ho]at hsh;refine A1 ?_;refine B4 ?_;intro b16 w hw;refine B0 ?_;intro w hw;have hw:Wd Γ3 (.blk b16 (.cells (enc o).toArray 77)::.blk b14 (.cells (cG ⟨g,A,N,C⟩).toArray 79)::[r9 bm2 KK,r9 bm (BQ q),.blk b1 (.cells #[.slice sa sn sc,.slice ga gn gc] 25)]) w:=hw
   refine A1 ?_;refine A0 rfl (fun h=>?_) (fun h=>?_)
   ·have h:(!((G4 ((BQ q).map fun s=>(s,true)) o.Var).getD default))=true:=h
    rw[CP]at h;have hf:l9 (BQ q) o.Var=false:=by simpa using h
    refine A1 ?_;refine⟨_,rfl,Γ3,hle1.trans (hle2.trans hle3),E9 rfl ?_,G3 hw⟩
    rw[hv,hall,hsh,hf];rfl
   ·have h:(!((G4 ((BQ q).map fun s=>(s,true)) o.Var).getD default))=false:=h
    rw[CP]at h;have hf:l9 (BQ q) o.Var=true:=by simpa using h
    rw[hf,Bool.true_and]at hsh;refine A1 ?_;exact⟨on-j-1,by omega,j+1,by omega,⟨rfl,rfl,rfl,rfl,rfl,rfl,rfl,rfl,trivial⟩,hsh,hw.drop⟩
  have hjn:on≤j:=by have:=of_decide_eq_false h;omega
  clear h;rw[D7 (F6 g) (by omega)]at hsh
  have hsh:Ky q g=true:=hsh
  rw[hsh,Bool.true_and]at hall;refine A1 ?_;exact⟨gn-k-1,by omega,Γ3,k+1,hle2.trans hle3,by omega,⟨rfl,rfl,rfl,rfl,rfl,trivial⟩,hall,hw.drop⟩
 have hkn:gn≤k:=by have:=of_decide_eq_false h;omega
 rw[D7 _ (by rw[hnl];omega)]at hall
 refine A1 ?_;refine⟨_,rfl,Γ2,hle1.trans hle2,E9 rfl ?_,G3 hw⟩
 rw[hv,hall];rfl
def U1:List (Nat×Int)→Int
 | []=>0
 | p::r=>if p.2≠0 then p.2 else U1 r
def Kz(q:D3):List (Nat×Int):=[(52,if AZ q=true then 0 else 15),(53,if o5 q=true then 0 else 50),(54,if T4 q=true then 0 else 63),(55,if Ci q=true then 0 else 6),(56,Il q)]
theorem Ir{q:D3}:T8 q=U1 (Kz q):=by
 unfold T8 Kz U1 U1 U1 U1 U1 U1 Il;cases AZ q <;> cases o5 q <;> cases T4 q <;> cases Ci q <;> simp
theorem U9{Γ:B5}{vs vg:Value}{gs:List E5}{q:D3}(hq0:QR Γ vs vg gs q)(hok:J2 q):PG Tryz.prog Γ 14 [.agg #[vs,vg]] (.int .i64 (T8 q)):=R3 fun Γ w hle hw=>by
 have hq:=hq0.mono hle
 obtain⟨ga,gn,gc,rfl,-,-,-⟩:=hq.goals.shape;obtain⟨sa,sn,sc,rfl,-,-,-⟩:=hq.sel.shape;have p1:=Dn hq hok
 have p2:=Ex hq hok
 have p3:=Ei hq hok
 have p4:=Cw hq hok
 have p5:=BR hq hok
 have hcl:∀(k:Nat) (p:Nat×Int),(Kz q)[k]? = some p→B9 Tryz.prog p.1∧PG Tryz.prog Γ p.1 [.agg #[.slice sa sn sc,.slice ga gn gc]] (.int .i64 p.2):=by
  intro k p hp;match k,hp with
  | 0,hp=>cases hp;exact⟨inferInstance,p1⟩
  | 1,hp=>cases hp;exact⟨inferInstance,p2⟩
  | 2,hp=>cases hp;exact⟨inferInstance,p3⟩
  | 3,hp=>cases hp;exact⟨inferInstance,p4⟩
  | 4,hp=>cases hp;exact⟨inferInstance,p5⟩
 have hlen:(Kz q).length=5:=rfl
 rw[Ir];refine A5 Tryz.func14 rfl rfl ?_
 refine A1 ?_;refine K4 ?_;intro b1 w hw;have hw:Wd Γ [.blk b1 (.cells #[.slice sa sn sc,.slice ga gn gc] 25)] w:=hw
 refine A1 ?_;refine F0 ((Kz q).map fun p=>[.func (.func p.1) #[] #[]]) ?_
 intro q1 w hw;obtain⟨CK,hCK⟩:∃CK,CK=Kz q:=⟨_,rfl⟩
 rw[←hCK]at hcl hlen hw ⊢
 clear hCK;have hw:Wd Γ [.own (.slice (some q1) 5 5) 37 1 (CK.map fun p=>[.func (.func p.1) #[] #[]]),.blk b1 (.cells #[.slice sa sn sc,.slice ga gn gc] 25)] w:=hw
 refine A1 ?_;refine C7 (fun μ ρ w=>∃(k:Nat),μ+k=5∧Has ρ [(1,.pointer (some ⟨b1,0,none⟩)),(8,.slice (some q1) 5 5),(9,.int .i64 5),(10,.int .i64 k)]∧U1 CK=U1 (CK.drop k)∧Wd Γ [.own (.slice (some q1) 5 5) 37 1 (CK.map fun p=>[.func (.func p.1) #[] #[]]),.blk b1 (.cells #[.slice sa sn sc,.slice ga gn gc] 25)] w) 5 ⟨0,by omega,⟨rfl,rfl,rfl,rfl,trivial⟩,rfl,hw⟩ ?_
 clear hw;rintro μ ρ w ⟨k,hk,hρ,hf,hw⟩
 rw[hρ.eq];clear hρ;refine A1 ?_;refine A0 rfl (fun h=>?_) (fun h=>?_)
 ·have hk5:k<5:=by have:=of_decide_eq_true h;omega
  clear h;obtain⟨p,hp⟩:=B8 (l:=CK) (k:=k) (by omega)
  obtain⟨hfn,hpg⟩:=hcl k p hp
  rw[K6 hp]at hf;refine A1 ?_;refine Cc (fst:=[]) (cap:=[]) (vs:=[.agg #[.slice sa sn sc,.slice ga gn gc]]) ?_
  refine(hpg.h _ _ hw).mono ?_
  clear hw;rintro e w ⟨rfl,hw⟩
  refine⟨_,rfl,?_⟩;refine A1 ?_;refine A0 rfl (fun h=>?_) (fun h=>?_)
  ·have h:p.2≠0:=of_decide_eq_true h
   refine A1 ?_;refine⟨_,rfl,Γ,B5.le.refl _,E9 rfl ?_,G3 hw⟩
   rw[hf,U1,if_pos h]
  ·have h:¬p.2≠0:=of_decide_eq_false h
   rw[U1,if_neg h]at hf;refine A1 ?_;exact⟨μ-1,by omega,k+1,by omega,⟨rfl,rfl,rfl,rfl,trivial⟩,hf,hw⟩
 have hk5:5≤k:=by have:=of_decide_eq_false h;omega
 rw[D7 CK (by omega)]at hf
 refine A1 ?_;exact⟨_,rfl,Γ,B5.le.refl _,E9 rfl hf.symm,G3 hw⟩
end Go.Proofs.YtlimglpjpcfpdaaGreatDoor
end
section
open Go Mk
namespace Go.Proofs.YtlimglpjpcfpdaaGreatDoor
def HS:Go.Shelf.Ren:=⟨fun|6=>86|15=>139|14=>157|28=>204|29=>205|20=>232|21=>233|22=>234|23=>235|24=>236|25=>237|26=>238|27=>239|46=>285|47=>270|48=>271|49=>286|50=>287|57=>303|n=>n,fun|22=>69|24=>72|25=>167|3=>3|39=>131|0=>0|53=>262|55=>58|4=>4|46=>255|45=>254|50=>259|5=>5|9=>9|66=>307|70=>311|76=>331|77=>217|n=>n,fun|n=>n⟩
theorem Og:Go.Proofs.SlLaysF.n6 Tryz.prog HS:={
 mixed:=by kernel_rfl
 f6:=⟨Tryz.f86.name,by decide,Tryz.func86.trans (congrArg some (by kernel_rfl))⟩
 f14:=⟨Tryz.f157.name,by decide,Tryz.func157.trans (congrArg some (by kernel_rfl))⟩
 f15:=Tryz.func139.trans (congrArg some (by kernel_rfl))
 f20:=⟨Tryz.f232.name,by decide,Tryz.func232.trans (congrArg some (by kernel_rfl))⟩
 f21:=⟨Tryz.f233.name,by decide,Tryz.func233.trans (congrArg some (by kernel_rfl))⟩
 f22:=⟨Tryz.f234.name,by decide,Tryz.func234.trans (congrArg some (by kernel_rfl))⟩
 f23:=⟨Tryz.f235.name,by decide,Tryz.func235.trans (congrArg some (by kernel_rfl))⟩
 f24:=⟨Tryz.f236.name,by decide,Tryz.func236.trans (congrArg some (by kernel_rfl))⟩
 f25:=⟨Tryz.f237.name,by decide,Tryz.func237.trans (congrArg some (by kernel_rfl))⟩
 f26:=⟨Tryz.f238.name,by decide,Tryz.func238.trans (congrArg some (by kernel_rfl))⟩
 f27:=⟨Tryz.f239.name,by decide,Tryz.func239.trans (congrArg some (by kernel_rfl))⟩
 f28:=Tryz.func204.trans (congrArg some (by kernel_rfl))
 f29:=Tryz.func205.trans (congrArg some (by kernel_rfl))
 f46:=⟨Tryz.f285.name,by decide,Tryz.func285.trans (congrArg some (by kernel_rfl))⟩
 f47:=Tryz.func270.trans (congrArg some (by kernel_rfl))
 f48:=Tryz.func271.trans (congrArg some (by kernel_rfl))
 f49:=⟨Tryz.f286.name,by decide,Tryz.func286.trans (congrArg some (by kernel_rfl))⟩
 f50:=⟨Tryz.f287.name,by decide,Tryz.func287.trans (congrArg some (by kernel_rfl))⟩
 f57:=⟨Tryz.f303.name,by decide,Tryz.func303.trans (congrArg some (by kernel_rfl))⟩
 t0:=Tryz.underlying0
 a0:=Tryz.isAgg0
 z0:=Tryz.sizeOf0
 v0:=Tryz.zeroValue0
 t3:=Tryz.underlying3
 a3:=Tryz.isAgg3
 z3:=Tryz.sizeOf3
 v3:=Tryz.zeroValue3
 t4:=Tryz.underlying4
 a4:=Tryz.isAgg4
 z4:=Tryz.sizeOf4
 v4:=Tryz.zeroValue4
 t5:=Tryz.underlying5
 a5:=Tryz.isAgg5
 z5:=Tryz.sizeOf5
 v5:=Tryz.zeroValue5
 t9:=Tryz.underlying9
 a9:=Tryz.isAgg9
 z9:=Tryz.sizeOf9
 v9:=Tryz.zeroValue9
 t22:=Tryz.underlying69
 a22:=Tryz.isAgg69
 z22:=Tryz.sizeOf69
 v22:=Tryz.zeroValue69
 a24:=Tryz.isAgg72
 z24:=Tryz.sizeOf72
 t25:=Tryz.underlying167
 a25:=Tryz.isAgg167
 z25:=Tryz.sizeOf167
 v25:=Tryz.zeroValue167
 t39:=Tryz.underlying131
 a39:=Tryz.isAgg131
 z39:=Tryz.sizeOf131
 v39:=Tryz.zeroValue131
 t45:=Tryz.underlying254
 a45:=Tryz.isAgg254
 z45:=Tryz.sizeOf254
 v45:=Tryz.zeroValue254
 t46:=Tryz.underlying255
 a46:=Tryz.isAgg255
 z46:=Tryz.sizeOf255
 v46:=Tryz.zeroValue255
 t50:=Tryz.underlying259
 a50:=Tryz.isAgg259
 z50:=Tryz.sizeOf259
 v50:=Tryz.zeroValue259
 t53:=Tryz.underlying262
 a53:=Tryz.isAgg262
 z53:=Tryz.sizeOf262
 v53:=Tryz.zeroValue262
 t55:=Tryz.underlying58
 a55:=Tryz.isAgg58
 z55:=Tryz.sizeOf58
 v55:=Tryz.zeroValue58
 t66:=Tryz.underlying307
 a66:=Tryz.isAgg307
 z66:=Tryz.sizeOf307
 v66:=Tryz.zeroValue307
 t70:=Tryz.underlying311
 a70:=Tryz.isAgg311
 z70:=Tryz.sizeOf311
 v70:=Tryz.zeroValue311
 t76:=Tryz.underlying331
 a76:=Tryz.isAgg331
 z76:=Tryz.sizeOf331
 v76:=Tryz.zeroValue331
 t77:=Tryz.underlying217
 a77:=Tryz.isAgg217
 z77:=Tryz.sizeOf217
 v77:=Tryz.zeroValue217 }
end Go.Proofs.YtlimglpjpcfpdaaGreatDoor
end
section
open Go Mk
namespace Go.Proofs.YtlimglpjpcfpdaaGreatDoor
set_option maxHeartbeats 16000000
attribute [local irreducible] Calls cI cB
abbrev y6:=Value×List Val
def cR(p:y6):List Value:=[p.1]
def Hn(Γ:B5)(p:y6):Prop:=D2 Γ p.1 3 (p.2.map enc)
def LN(x y:y6):Bool:=decide (cL cV x.2 y.2=0)
theorem Hn.one{Γ:B5}{p:y6}(h:Hn Γ p):p.1.oneCell'=true:=by
 obtain⟨a,n,c,h1,-⟩:=D2.shape h
 rw[h1];rfl
theorem GJ{Γ:B5}{S:List B1}{w:World}{v:Value}(fs:List y6)(hok:∀f∈fs,Hn Γ f)(hl:fs.length≤1000000)(hw:Wd Γ (.own v 72 1 (fs.map cR)::S) w) :
  Calls Tryz.prog 89 #[v,.func (.func 88) #[] #[]] w fun e w'=>∃v',e=.returned v'∧Wd Γ (.own v' 72 1 ((R8 LN fs).map cR)::S) w':=by
 obtain⟨a,n,c,rfl,hn,hnc,hc⟩:=hw.own_shape (i:=0) rfl
 simp only[List.length_map]at hn
 refine A5 Tryz.func89 rfl rfl ?_
 refine A1 ?_;refine A0 rfl (fun h=>?_) (fun h=>?_)
 ·have h:n<2:=by have:=of_decide_eq_true h;omega
  refine A1 ?_;have hE:R8 LN fs=fs:=by
   cases fs with
   | nil=>rfl
   | cons x fs=>
    cases fs with
    | nil=>rfl
    | cons y fs=>simp at hn;omega
  rw[hE];exact⟨_,rfl,_,rfl,hw⟩
 have h:2≤n:=by have:=of_decide_eq_false h;omega
 refine A1 ?_;refine C7 (fun μ ρ w=>∃(k:Nat),μ+k=n∧1≤k∧Has ρ [(0,.slice a n c),(1,.func (.func 88) #[] #[]),(5,.int .i64 k)]∧R8 LN (fs.take k)=fs.take k∧Wd Γ (.own (.slice a n c) 72 1 (fs.map cR)::S) w) (n-1) ⟨1,by omega,by omega,⟨rfl,rfl,rfl,trivial⟩,?_,hw⟩ ?_
 ·cases fs with
  | nil=>rfl
  | cons x fs=>rfl
 clear hw;rintro μ ρ w ⟨k,hk,hk1,hρ,ho,hw⟩
 rw[hρ.eq];refine A1 ?_;refine A0 rfl (fun h=>?_) (fun h=>?_)
 ·have hkn:k<n:=by have:=of_decide_eq_true h;omega
  obtain⟨y,hy⟩:=B8 (l:=fs) (k:=k) (by omega)
  obtain⟨x,hx0⟩:=B8 (l:=fs) (k:=k-1) (by omega)
  have hx:fs[((k:Int)-1).toNat]? = some x:=by rw[show ((k:Int)-1).toNat=k-1 from by omega];exact hx0
  have hfy:=hok y (List.mem_of_getElem? hy)
  have hfx:=hok x (List.mem_of_getElem? hx0)
  have hsucc:=m6 (p:=LN) (by omega) hy hx0
  refine A1 ?_;refine K5 (by kernel_rfl) (by kernel_rfl) hw ?_
  iterate 10 (first|refine Aa ?_|(apply O6;first|(apply T9;first|refine qP ?_|refine MG ?_)|refine qY ?_)|(apply J6;first|(apply T9;first|refine Nr ?_|refine En ?_)|refine qG ?_))
  refine OZ (v:=.bool (LN y x)) (cap:=[]) (vs:=[y.1,x.1]) (fun Y w hw=>?_) ?_
  ·exact(EG hfy hfx).h _ _ hw
  refine Ef ?_;intro w hw;refine A0 rfl (fun h2=>?_) (fun h2=>?_)
  ·rw[if_pos h2]at hsucc;refine A1 ?_;refine C7 (fun μ ρ w=>∃(m q:Nat) (cur:List y6),μ+(k+m)=n∧1≤m∧1≤q∧q<k+m∧Has ρ [(0,.slice a n c),(1,.func (.func 88) #[] #[]),(5,.int .i64 q),(6,.slice (t7 a k c 1) (n-k) (c-k)),(7,.int .i64 m)]∧cur.length=n∧cur.take q=R8 LN (fs.take (k+m))∧(∀i,k+m-1≤i→cur[i]? = fs[i]?)∧Wd Γ (.own (.slice a n c) 72 1 (cur.map cR)::S) w) (n-(k+1)) ⟨1,k,fs,by omega,by omega,by omega,by omega,⟨rfl,rfl,rfl,rfl,rfl,trivial⟩,hn.symm,by rw[hsucc,ho],fun i _=>rfl,hw⟩ ?_
   clear hw hρ hsucc;rintro μ2 ρ w ⟨m,q,cur,hm,hm1,hq1,hq2,hρ,hcl,hcur,hsame,hw⟩
   rw[hρ.eq];refine A1 ?_;refine A0 rfl (fun h3=>?_) (fun h3=>?_)
   ·have hmn:k+m<n:=by have:=of_decide_eq_true h3;omega
    obtain⟨y2,hy2⟩:=B8 (l:=fs) (k:=k+m) (by omega)
    obtain⟨x2,hx2⟩:=B8 (l:=fs) (k:=k+m-1) (by omega)
    have hcy:(cur.drop k)[m]? = some y2:=by rw[List.getElem?_drop,hsame _ (by omega)];exact hy2
    have hcx:(cur.drop k)[((m:Int)-1).toNat]? = some x2:=by
     rw[List.getElem?_drop,hsame _ (by omega),show k+((m:Int)-1).toNat=k+m-1 from by omega];exact hx2
    have hfy2:=hok y2 (List.mem_of_getElem? hy2)
    have hfx2:=hok x2 (List.mem_of_getElem? hx2)
    have hsucc:=m6 (p:=LN) (by omega) hy2 hx2
    have hlen:n-k=((cur.drop k).map cR).length:=by simp[hcl]
    have hR2:O4 Γ (.own (.slice a n c) 72 1 (cur.map cR)::S) (.slice (t7 a k c 1) (n-k) (c-k)) 1 ((cur.drop k).map cR):=⟨_,_,_,rfl,hlen,by omega,by omega,fun w hw=>by
     have:=(Wd.own_rd (i:=0) hw rfl).cut (c:=c) (by simp;omega) k (by simp;omega)
     rwa [←List.map_drop]at this⟩
    refine A1 ?_;refine K5 (by kernel_rfl) (by kernel_rfl) hw ?_
    iterate 10 (first|refine Aa ?_|(apply O6;first|(apply T9;first|refine qP ?_|refine MG ?_)|refine qY ?_)|(apply J6;first|(apply T9;first|refine Nr ?_|refine En ?_)|refine qG ?_))
    refine OZ (v:=.bool (LN y2 x2)) (cap:=[]) (vs:=[y2.1,x2.1]) (fun Y w hw=>?_) ?_
    ·exact(EG hfy2 hfx2).h _ _ hw
    refine Ef ?_;intro w hw;refine A0 rfl (fun h4=>?_) (fun h4=>?_)
    ·have h4:LN y2 x2=false:=by simpa using h4
     rw[if_neg (by rw[h4];decide)]at hsucc
     refine A1 ?_;have hcells:y2.1.cells.toList=[y2.1]:=by
      obtain⟨ya,yn,yc,hys,-⟩:=D2.shape hfy2
      rw[hys];rfl
     refine Bq (k:=q) (r:=[y2.1]) ?_ (hv:=hcells) (hl:=rfl) (h1:=by rw[List.all_cons,Hn.one hfy2];rfl)
     intro w hw;have hw:Wd Γ (.own (.slice a n c) 72 1 ((cur.map cR).set q (cR y2))::S) w:=hw
     rw[←List.map_set]at hw;refine A1 ?_;refine⟨n-(k+(m+1)),by omega,m+1,q+1,cur.set q y2,by omega,by omega,by omega,by omega,⟨rfl,rfl,rfl,rfl,rfl,trivial⟩,by rw[List.length_set];exact hcl,?_,fun i hi=>?_,hw⟩
     ·rw[show k+(m+1)=k+m+1 from rfl,hsucc,←hcur,List.take_add_one,List.take_set_of_le (by omega),List.getElem?_set_self (by omega)];rfl
     ·rw[List.getElem?_set_ne (by omega)];exact hsame i (by omega)
    ·have h4:LN y2 x2=true:=by simpa using h4
     rw[if_pos h4]at hsucc;refine A1 ?_;exact⟨n-(k+(m+1)),by omega,m+1,q,cur,by omega,by omega,by omega,by omega,⟨rfl,rfl,rfl,rfl,rfl,trivial⟩,hcl,by rw[show k+(m+1)=k+m+1 from rfl,hsucc];exact hcur,fun i hi=>hsame i (by omega),hw⟩
   ·have hmn:k+m=n:=by have:=of_decide_eq_false h3;omega
    have hfn:fs.take n=fs:=List.take_of_length_le (by omega)
    rw[hmn,hfn]at hcur;have hqn:q≤n:=by omega
    have hw:=Wd.own_take (i:=0) (m:=q) hw rfl hqn
    rw[←List.map_take,hcur]at hw;have hw:Wd Γ (.own (.slice a q c) 72 1 ((R8 LN fs).map cR)::S) w:=hw
    refine A1 ?_;refine NS ?_;intro w hw;refine A1 ?_;exact⟨_,rfl,_,rfl,hw⟩
  ·rw[if_neg (by rw[h2];decide)]at hsucc
   refine A1 ?_;refine⟨μ-1,by omega,k+1,by omega,by omega,⟨rfl,rfl,rfl,trivial⟩,?_,hw⟩
   rw[hsucc,ho,List.take_add_one,hy];rfl
 ·have hkn:¬k<n:=by have:=of_decide_eq_false h;omega
  rw[List.take_of_length_le (by omega)]at ho
  refine A1 ?_;rw[ho];exact⟨_,rfl,_,rfl,hw⟩
theorem Kx{Γ:B5}{S:List B1}{w:World}(fs:List y6)(v:Value)(hok:∀f∈fs,Hn Γ f)(hl:fs.length≤1000000)(hw:Wd Γ (.own v 72 1 (fs.map cR)::S) w) :
  Calls Tryz.prog 86 #[v,.func (.func 87) #[] #[]] w fun e w'=>e=.returned (.tuple #[])∧∃gs:List y6,gs.Perm fs∧(gs.Pairwise fun a b=>Go.Proofs.ltOf (fun a b:y6=>cL cV a.2 b.2) b a=false)∧Wd Γ (.own v 72 1 (gs.map cR)::S) w':=by
 have hxs:(fs.attachWith (Hn Γ) hok).map Subtype.val=fs:=List.attachWith_map_subtype_val _
 have hrows:((fs.attachWith (Hn Γ) hok).map fun a=>[a.1.1])=fs.map cR:=by
  conv=>rhs;rw[←hxs]
  rw[List.map_map];rfl
 rw[←hrows]at hw;haveI:Inhabited {f:y6 // Hn Γ f}:=⟨⟨(.slice none 0 0,[]),D2.nil⟩⟩
 have:=Im (α:={f:y6 // Hn Γ f}) (f:=fun a=>a.1.1) Og (fun a=>Hn.one a.2) (fun a b=>cL cV a.1.2 b.1.2) 87 [] (fs.attachWith (Hn Γ) hok) v hw (i:=0) rfl
  (MO EH.list fun a:{f:y6 // Hn Γ f}=>a.1.2) (by simp;omega) (fun dk w' hw' x y=>by
   have h1:∀b o,Γ.imm b=some o→(Fu w').imm b=some o:=fun b o hb=>hw'.imm b o hb
   have h2:=Jw (Γ:=Fu w') (D2.imm x.2 h1) (D2.imm y.2 h1)
   refine(h2.h [] w' (Ju w')).mono ?_
   rintro e w'' ⟨he,hw''⟩
   exact⟨he,[],hw''⟩)
 refine this.mono ?_
 rintro e w' ⟨he,ys,hp,hs,hw'⟩
 refine⟨he,ys.map Subtype.val,?_,?_,?_⟩
 ·have:=hp.map Subtype.val
  rwa [hxs]at this
 ·rw[List.pairwise_map];exact hs
 ·rw[List.map_map];exact hw'
end Go.Proofs.YtlimglpjpcfpdaaGreatDoor
end
section
open Go Mk
namespace Go.Proofs.YtlimglpjpcfpdaaGreatDoor
set_option maxHeartbeats 16000000
attribute [local irreducible] Calls cI cB
structure RW(Γ:B5)(v:Value)(L:List y6):Prop where
 rep:D2 Γ v 1 (L.map cR)
 ok:∀p∈L,Hn Γ p
theorem RW.nil{Γ:B5}:RW Γ (.slice none 0 0) []:=⟨D2.nil,fun p h=>(by cases h)⟩
def rowsOf(L:List y6):List (List Val):=L.map (·.2)
theorem HX:∀ {L:List (Value×List (List Value))} {rs:List (List Val)},L.map (·.2)=(rs.map fun r=>r.map enc)→∃M:List y6,M.map cR=(L.map fun x=>[x.1])∧rowsOf M=rs∧∀p∈M,∃x∈L,x.1=p.1∧x.2=p.2.map enc
 | [],[],_=>⟨[],rfl,rfl,fun p h=>(by cases h)⟩
 | [],_::_,h=>by simp at h
 | _::_,[],h=>by simp at h
 | x::L,r::rs,h=>by
  simp only[List.map_cons,List.cons.injEq]at h
  obtain⟨M,h1,h2,h3⟩:=HX (L:=L) (rs:=rs) h.2
  refine⟨(x.1,r)::M,by rw[List.map_cons,List.map_cons,h1];rfl,by unfold rowsOf at *;rw[List.map_cons,h2],fun p hp=>?_⟩
  rcases List.mem_cons.1 hp with rfl|hp
  ·exact⟨x,by simp,rfl,h.1⟩
  ·obtain⟨y,hy,h4⟩:=h3 p hp
   exact⟨y,by simp[hy],h4⟩
theorem II{db:List H3}{g:D6}(h:g.Kind=4→g.Low≤g.High):1≤M8 db g:=by
 unfold M8;split
 ·exact Nat.le_max_right ..
 split
 ·rename_i h4
  have:=h h4
  omega
 ·exact Nat.le_refl _
theorem JA{db:List H3}{l:List D6}{k:Nat}{g:D6}(h:l[k]? = some g):M2 db (l.take (k+1))=M2 db (l.take k)*M8 db g:=by
 unfold M2;rw[List.take_add_one,h,List.foldl_append];rfl
theorem IG{db:List H3}{l:List D6}(h:∀g∈l,g.Kind=4→g.Low≤g.High)(k:Nat):M2 db (l.take k)≤M2 db l:=by
 have key:∀(r:List D6) (n:Nat),(∀g∈r,g.Kind=4→g.Low≤g.High)→n≤r.foldl (fun n g=>n*M8 db g) n:=by
  intro r;induction r with
  | nil=>intro n _;exact Nat.le_refl _
  | cons g r ih=>
   intro n hr;rw[List.foldl_cons];refine Nat.le_trans ?_ (ih _ fun g hg=>hr g (by simp[hg]))
   exact Nat.le_mul_of_pos_right n (II (hr g (by simp)))
 have e:M2 db l=(l.drop k).foldl (fun n g=>n*M8 db g) (M2 db (l.take k)):=by
  unfold M2;rw[←List.foldl_append,List.take_append_drop]
 rw[e];exact key _ _ fun g hg=>h g (List.mem_of_mem_drop hg)
theorem NQ{g:D6}(h:u1 g=true)(h4:g.Kind=4):g.Low≤g.High∧g.High-g.Low≤1000000:=by
 unfold u1 at h;rw[if_neg (by omega),if_pos h4]at h
 simpa using h
theorem Ld{q:D3}(h:T8 q=0):∀g∈q.Goals,g.Kind=4→g.Low≤g.High∧g.High-g.Low≤1000000:=by
 intro g hg h4;refine NQ ?_ h4
 have hn:Ci q=true:=by
  cases hq:Ci q with
  | true=>rfl
  | false=>
   unfold T8 at h;rw[hq]at h;split at h
   ·cases h
   split at h
   ·cases h
   split at h
   ·cases h
   simp at h
 exact List.all_eq_true.1 hn g hg
theorem Lv{l:List H3}{r:ByteArray}{m:Int}:(LG l r m).length≤l.length:=by
 unfold LG;exact Nat.le_trans (List.length_filter_le ..) ES
theorem La{db:List H3}{g:D6}:(Q5 db g).length≤db.length:=by
 unfold Q5;split
 ·exact Lv
 ·exact Nat.zero_le _
theorem Kg{Γ:B5}{S:List B1}{w:World}{va vs vg:Value}{fs:List B6}{gs:List E5}{q:D3}(hF:RL Γ va fs)(hl:fs.length≤50000)(hq:QR Γ vs vg gs q)(hok:J2 q)(hw:Wd Γ S w) :
  Calls Tryz.prog 29 #[va,.agg #[vs,vg]] w fun e w'=>∃(Γ':B5) (v:Value) (L:List y6),Γ.le Γ'∧e=.returned (.tuple #[v,.int .i64 (Z7 (facts fs) q)])∧RW Γ' v L∧rowsOf L=u9 (facts fs) q∧Wd Γ' S w':=by
 obtain⟨ga,gn,gc,rfl,hgn,hgnc,hgc⟩:=hq.goals.shape;obtain⟨sa,sn,sc,rfl,hsn,hsnc,hsc⟩:=hq.sel.shape;obtain⟨fa,fc,rfl,hfc1,hfc2⟩:=hF.len;simp only[List.length_map]at hgn hsn
 have hgl:=hq.glen hok
 have hnl:=hq.nlen
 have p1:=U9 hq hok
 obtain⟨db,hdb⟩:∃db,db=facts fs:=⟨_,rfl⟩
 have hdl:db.length≤50000:=by rw[hdb];unfold facts;rw[List.length_map];exact hl
 rw[←hdb];refine A5 Tryz.func29 rfl rfl ?_
 refine A1 ?_;refine K4 ?_;intro b3 w hw;have hw:Wd Γ (.blk b3 (.cells #[.slice sa sn sc,.slice ga gn gc] 25)::S) w:=hw
 repeat first|refine C3 ?_|refine C4 ?_;intro w hw
 refine A0 rfl (fun h=>?_) (fun h=>?_)
 ·have h:T8 q≠0:=of_decide_eq_true h
  have he:Z7 db q=T8 q:=by unfold Z7;rw[if_pos h]
  refine A1 ?_;refine⟨_,rfl,Γ,.slice none 0 0,[],B5.le.refl _,?_,RW.nil,?_,hw.drop⟩
  ·rw[he];rfl
  ·unfold u9;rw[he,if_neg h];rfl
 have hv:T8 q=0:=by
  have:=of_decide_eq_false h
  simpa using this
 have hR:=Ld hv
 have hRl:∀g∈q.Goals,g.Kind=4→g.Low≤g.High:=fun g hg h4=>(hR g hg h4).1
 have hse:Z7 db q=if 1000000<M2 db q.Goals then 15 else 0:=by
  unfold Z7;rw[if_neg (fun e=>e hv)]
 clear h p1;refine A1 ?_;refine H7 rfl rfl (AK (K:=9) (α:=ByteArray) (f:=RQ) hw fun bm w hw=>?_)
 have hw:Wd Γ (C5 bm []::.blk b3 (.cells #[.slice sa sn sc,.slice ga gn gc] 25)::S) w:=hw
 refine A1 ?_;refine K4 ?_;intro b7 w hw;have hw:=Wd.addNil (a:=none) (E:=62) (sz:=1) hw
 have hw:Wd Γ (.own (.slice none 0 0) 62 1 (([]:List (Value×List B6)).map fun t=>[t.1])::.blk b7 (D8 (.slice sa sn sc) (.slice ga gn gc) (.slice none 0 0) (.slice none 0 0) bm)::C5 bm []::.blk b3 (.cells #[.slice sa sn sc,.slice ga gn gc] 25)::S) w:=hw
 have hw:Wd Γ (.own (.slice none 0 0) 62 1 (([]:List (Value×List B6)).map fun t=>[t.1])::.blk b3 (.cells #[.slice sa sn sc,.slice ga gn gc] 25)::.blk b7 (D8 (.slice sa sn sc) (.slice ga gn gc) (.slice none 0 0) (.slice none 0 0) bm)::C5 bm []::S) w:=hw.perm K1
 refine A1 ?_;refine C7 (fun μ ρ w=>∃(Γ':B5) (k:Nat) (ts:List (Value×List B6)) (ta:Option Addr) (tn tc:Nat),Γ.le Γ'∧μ+k=gn∧Has ρ [(0,.slice fa fs.length fc),(3,.pointer (some ⟨b3,0,none⟩)),(7,.pointer (some ⟨b7,0,none⟩)),(8,.int .u64 (M2 db (q.Goals.take k))),(23,.slice ga gn gc),(24,.int .i64 gn),(25,.int .i64 k)]∧ts.length=k∧(∀t∈ts,RL Γ' t.1 t.2)∧(∀(i:Nat) x t,gs[i]? = some x→ts[i]? = some t→facts t.2=Q5 db x.g)∧M2 db (q.Goals.take k)≤1000000∧Wd Γ' (.own (.slice ta tn tc) 62 1 (ts.map fun t=>[t.1])::.blk b3 (.cells #[.slice sa sn sc,.slice ga gn gc] 25)::.blk b7 (D8 (.slice sa sn sc) (.slice ga gn gc) (.slice ta tn tc) (.slice none 0 0) bm)::C5 bm []::S) w) gn ⟨Γ,0,[],none,0,0,B5.le.refl _,by omega,⟨rfl,rfl,rfl,rfl,rfl,rfl,rfl,trivial⟩,rfl,(fun t h=>(by cases h)),(fun i x t _ h=>(by simp at h)),(by show 1≤1000000;decide),hw⟩ ?_
 clear hw;rintro μ ρ w ⟨Γ1,k,ts,ta,tn,tc,hle1,hk,hρ,htl,hrl,heq,hwk,hw⟩
 rw[hρ.eq];clear hρ;have hq1:=hq.mono hle1
 have hrG1:=hq1.goals
 refine A1 ?_;refine A0 rfl (fun h=>?_) (fun h=>?_)
 ·have hkn:k<gn:=by have:=of_decide_eq_true h;omega
  clear h;obtain⟨x,hx⟩:=B8 (l:=gs) (k:=k) (by omega)
  have hxm:=List.mem_of_getElem? hx
  have hgoal:=hq.goal hok hxm
  have hgok:=hq1.ok x hxm
  have hgx:=hq.get hx
  have hws:=JA (db:=db) hgx
  have hwm:=IG (db:=db) hRl (k+1)
  have hRx:=hR x.g (List.mem_of_getElem? hgx)
  obtain⟨l1,l2,l3⟩:=hgok.len;obtain⟨g,A,N,C⟩:=x;simp only at hgoal l1 l2 l3 hgx hws hRx
  have hal:=hgoal.len
  refine A1 ?_;refine B4 ?_;intro b10 w hw;refine A1 ?_;refine B0 ?_;intro w hw;have hw:Wd Γ1 (.blk b10 (.cells (cG ⟨g,A,N,C⟩).toArray 79)::.own (.slice ta tn tc) 62 1 (ts.map fun t=>[t.1])::.blk b3 (.cells #[.slice sa sn sc,.slice ga gn gc] 25)::.blk b7 (D8 (.slice sa sn sc) (.slice ga gn gc) (.slice ta tn tc) (.slice none 0 0) bm)::C5 bm []::S) w:=hw
  repeat first|refine C3 ?_|refine C4 ?_;intro w hw
  refine CQ (fun ρ w=>∃(Γ':B5) (a:Option Addr) (c:Nat) (fs':List B6),Γ1.le Γ'∧RL Γ' (.slice a fs'.length c) fs'∧facts fs'=Q5 db g∧Has ρ [(0,.slice fa fs.length fc),(3,.pointer (some ⟨b3,0,none⟩)),(7,.pointer (some ⟨b7,0,none⟩)),(8,.int .u64 (M2 db (q.Goals.take k))),(10,.pointer (some ⟨b10,0,none⟩)),(11,.slice a fs'.length c),(23,.slice ga gn gc),(24,.int .i64 gn),(25,.int .i64 k)]∧Wd Γ' (.blk b10 (.cells (cG ⟨g,A,N,C⟩).toArray 79)::.own (.slice ta tn tc) 62 1 (ts.map fun t=>[t.1])::.blk b3 (.cells #[.slice sa sn sc,.slice ga gn gc] 25)::.blk b7 (D8 (.slice sa sn sc) (.slice ga gn gc) (.slice ta tn tc) (.slice none 0 0) bm)::C5 bm []::S) w) ?_ ?_
  ·refine A0 rfl (fun h=>?_) (fun h=>?_)
   ·have hat:g.Kind=1∨g.Kind=2:=by
     have h:E3 g=true:=h
     unfold E3 at h;simpa using h
    have ht:Q5 db g=LG db g.Rel N:=by unfold Q5;rw[if_pos hat,l1]
    have hF1:=hF.mono hle1
    refine A1 ?_;refine D1 (vs:=[.slice fa fs.length fc,.string g.Rel,.int .i64 N]) ((It (r:=g.Rel) (m:=N) fs hF1.ok hl hF1.rep hw).mono fun e w hq2=>?_)
    clear hw;obtain⟨v',fs',rfl,hfs,hfo,hw⟩:=hq2;have hwf:=Jj hfo hw
    clear hw;obtain⟨Γ2,hle2,hrl2,hw⟩:=hwf;obtain⟨a,c,rfl,hc1,hc2⟩:=hrl2.len;refine⟨_,rfl,?_⟩;refine A1 ?_;exact⟨Γ2,a,c,fs',hle2,hrl2,by rw[hfs,ht,hdb],⟨rfl,rfl,rfl,rfl,rfl,rfl,rfl,rfl,rfl,trivial⟩,hw⟩
   ·have hat:¬(g.Kind=1∨g.Kind=2):=by
     have h:E3 g=false:=h
     unfold E3 at h;simpa using h
    have ht:Q5 db g=[]:=by unfold Q5;rw[if_neg hat]
    refine A1 ?_;exact⟨Γ1,none,0,[],B5.le.refl _,RL.nil,by rw[ht];rfl,⟨rfl,rfl,rfl,rfl,rfl,rfl,rfl,rfl,rfl,trivial⟩,hw⟩
  clear hw;rintro ρ w ⟨Γ2,a,c,fs',hle2,hrl2,hft,hρ,hw⟩
  rw[hρ.eq];clear hρ;obtain⟨-,-,-,hc1,hc2⟩:=hrl2.len;have hfl:fs'.length=(Q5 db g).length:=by rw[←hft];unfold facts;rw[List.length_map]
  have htb:=La (db:=db) (g:=g)
  have hw:Wd Γ2 (.own (.slice ta tn tc) 62 1 (ts.map fun t=>[t.1])::.blk b7 (D8 (.slice sa sn sc) (.slice ga gn gc) (.slice ta tn tc) (.slice none 0 0) bm)::.blk b3 (.cells #[.slice sa sn sc,.slice ga gn gc] 25)::C5 bm []::.blk b10 (.cells (cG ⟨g,A,N,C⟩).toArray 79)::S) w:=hw.perm K1
  obtain⟨ta',tn',tc',hts,htn,htnc,htc⟩:=hw.own_shape (i:=0) rfl
  cases hts
  simp only[List.length_map]at htn
  refine A1 ?_;refine F0 [[.slice a fs'.length c]] ?_
  intro q2 w hw;refine Ie (i:=1) (rows2:=[[.slice a fs'.length c]]) ?_ (Wd.own_rd (i:=0) hw rfl)
  intro vt' w hw;obtain⟨tb,tm,td,rfl,-,-,-⟩:=hw.own_shape (i:=1) rfl
  refine A1 ?_;refine B0 (i:=2) ?_
  intro w hw;have hw:Wd Γ2 (.own (.slice (some q2) 1 1) 62 1 [[.slice a fs'.length c]]::.own (.slice tb tm td) 62 1 (ts.map (fun t=>[t.1])++[[.slice a fs'.length c]])::.blk b7 (D8 (.slice sa sn sc) (.slice ga gn gc) (.slice tb tm td) (.slice none 0 0) bm)::.blk b3 (.cells #[.slice sa sn sc,.slice ga gn gc] 25)::C5 bm []::.blk b10 (.cells (cG ⟨g,A,N,C⟩).toArray 79)::S) w:=hw
  rw[show ts.map (fun t=>[t.1])++[[Value.slice a fs'.length c]]=(ts++[(Value.slice a fs'.length c,fs')]).map (fun t=>[t.1]) from by rw[List.map_append];rfl]at hw
  have hw:Wd Γ2 (.blk b10 (.cells (cG ⟨g,A,N,C⟩).toArray 79)::.own (.slice tb tm td) 62 1 ((ts++[(Value.slice a fs'.length c,fs')]).map (fun t=>[t.1]))::.blk b3 (.cells #[.slice sa sn sc,.slice ga gn gc] 25)::.blk b7 (D8 (.slice sa sn sc) (.slice ga gn gc) (.slice tb tm td) (.slice none 0 0) bm)::C5 bm []::S) w:=(hw.dropAt 0).perm K1
  first|refine C3 ?_|(refine C4 ?_;intro w hw)
  refine Ae (fun ρ w=>Has ρ [(0,.slice fa fs.length fc),(3,.pointer (some ⟨b3,0,none⟩)),(7,.pointer (some ⟨b7,0,none⟩)),(8,.int .u64 (M2 db (q.Goals.take (k+1)))),(23,.slice ga gn gc),(24,.int .i64 gn),(25,.int .i64 k)]∧Wd Γ2 (.blk b10 (.cells (cG ⟨g,A,N,C⟩).toArray 79)::.own (.slice tb tm td) 62 1 ((ts++[(Value.slice a fs'.length c,fs')]).map (fun t=>[t.1]))::.blk b3 (.cells #[.slice sa sn sc,.slice ga gn gc] 25)::.blk b7 (D8 (.slice sa sn sc) (.slice ga gn gc) (.slice tb tm td) (.slice none 0 0) bm)::C5 bm []::S) w) ?_ ?_
  ·have hfac:M8 db g≤1000001:=by
    unfold M8;split
    ·omega
    split
    ·rename_i h4
     have:=hRx h4
     omega
    ·omega
   have hmul:M2 db (q.Goals.take k)*M8 db g≤1000000*1000001:=Nat.mul_le_mul hwk hfac
   refine A1 ?_;refine A0 rfl (fun h=>?_) (fun h=>?_)
   ·have hk1:g.Kind=1:=of_decide_eq_true h
    have hfe:M8 db g=max fs'.length 1:=by unfold M8;rw[if_pos hk1,hfl]
    refine A1 ?_;refine⟨⟨rfl,rfl,rfl,?_,rfl,rfl,rfl,trivial⟩,hw⟩
    show Value.int .u64 (IntKind.u64.wrap ((M2 db (q.Goals.take k):Int)*IntKind.u64.wrap (if (fs'.length:Int)<1 then 1 else (fs'.length:Int))))=_
    rw[show (if (fs'.length:Int)<1 then 1 else (fs'.length:Int))=max (fs'.length:Int) 1 from by split <;> omega]
    rw[f8 (a:=max (fs'.length:Int) 1) (by omega) (by omega),hws,hfe]
    rw[hfe]at hmul;have e:(M2 db (q.Goals.take k):Int)*max (fs'.length:Int) 1=((M2 db (q.Goals.take k)*max fs'.length 1:Nat):Int):=by
     rw[Int.natCast_mul];congr 1;omega
    rw[e,f8 (by omega) (by omega)]
   have hk1:¬g.Kind=1:=of_decide_eq_false h
   clear h;refine A1 ?_;refine A0 rfl (fun h=>?_) (fun h=>?_)
   ·have hk4:g.Kind=4:=of_decide_eq_true h
    obtain⟨hlh,hlh2⟩:=hRx hk4
    have hfe:M8 db g=(g.High-g.Low+1).toNat:=by unfold M8;rw[if_neg hk1,if_pos hk4]
    have hsub:=GH hgoal.high hgoal.low hlh
    refine A1 ?_;refine⟨⟨rfl,rfl,rfl,?_,rfl,rfl,rfl,trivial⟩,hw⟩
    show Value.int .u64 (IntKind.u64.wrap ((M2 db (q.Goals.take k):Int)*IntKind.u64.wrap (IntKind.u64.wrap (IntKind.u64.wrap g.High-IntKind.u64.wrap g.Low)+1)))=_
    rw[hsub,f8 (a:=g.High-g.Low+1) (by omega) (by omega),hws,hfe]
    rw[hfe]at hmul;have e:(M2 db (q.Goals.take k):Int)*(g.High-g.Low+1)=((M2 db (q.Goals.take k)*(g.High-g.Low+1).toNat:Nat):Int):=by
     rw[Int.natCast_mul];congr 1;omega
    rw[e,f8 (by omega) (by omega)]
   have hk4:¬g.Kind=4:=of_decide_eq_false h
   have hfe:M8 db g=1:=by unfold M8;rw[if_neg hk1,if_neg hk4]
   refine A1 ?_;refine⟨⟨rfl,rfl,rfl,?_,rfl,rfl,rfl,trivial⟩,hw⟩
   rw[hws,hfe,Nat.mul_one];rfl
  clear hw;rintro ρ w ⟨hρ,hw⟩
  rw[hρ.eq];clear hρ;have hle12:=hle1.trans hle2
  refine A1 ?_;refine A0 rfl (fun h=>?_) (fun h=>?_)
  ·have h:(1000000:Int)<(M2 db (q.Goals.take (k+1)):Int):=of_decide_eq_true h
   have he:Z7 db q=15:=by rw[hse,if_pos (by omega)]
   refine A1 ?_;refine⟨_,rfl,Γ2,.slice none 0 0,[],hle12,?_,RW.nil,?_,hw.ds [0,0,0,0,0]⟩
   ·rw[he];rfl
   ·unfold u9;rw[he,if_neg (by decide)];rfl
  have h:¬(1000000:Int)<(M2 db (q.Goals.take (k+1)):Int):=of_decide_eq_false h
  refine A1 ?_;refine⟨gn-k-1,by omega,Γ2,k+1,ts++[(Value.slice a fs'.length c,fs')],tb,tm,td,hle12,by omega,⟨rfl,rfl,rfl,rfl,rfl,rfl,rfl,trivial⟩,by rw[List.length_append,htl];rfl,fun t ht=>?_,fun i x t hxi hti=>?_,by omega,hw.drop⟩
  ·rcases List.mem_append.1 ht with h1|h1
   ·exact(hrl t h1).mono hle2
   ·rw[List.mem_singleton.1 h1];exact hrl2
  ·by_cases hik:i<k
   ·rw[List.getElem?_append_left (by omega)]at hti
    exact heq i x t hxi hti
   ·rw[List.getElem?_append_right (by omega)]at hti
    have hi0:i-ts.length=0:=by
     have:=(List.getElem?_eq_some_iff.1 hti).1
     simp at this
     omega
    have hik:i=k:=by omega
    subst hik;rw[hi0]at hti;cases hti
    rw[hx]at hxi;cases hxi
    exact hft
 have hkn:gn≤k:=by have:=of_decide_eq_false h;omega
 clear h;rw[List.take_of_length_le (by omega)]at hwk
 have he:Z7 db q=0:=by rw[hse,if_neg (by omega)]
 have hss:u9 db q=BA (cL cV) (Gn db q):=by
  unfold u9;rw[he,if_pos rfl];rfl
 rw[he,hss];have hwf:=hw.freeze
 clear hw;obtain⟨Γ2,hle2,hrT,hw⟩:=hwf;have hq2:=hq1.mono hle2
 have hS:OH Γ2 (.slice sa sn sc) (.slice ga gn gc) (.slice ta tn tc) gs ts db q:=⟨hq2,hok,hrT,by omega,fun t ht=>(hrl t ht).mono hle2,heq,fun x _ _=>DR⟩
 have hraw:(Gn db q).length≤1000000:=by
  refine Nat.le_trans (HZ (fun e=>MW e) (I5 db q) (fun gt hg h4=>?_) []) ?_
  ·obtain⟨g,hgm,rfl⟩:=List.mem_map.1 hg
   exact hRl g hgm h4
  ·rw[←Ho];exact hwk
 have hw:Wd Γ2 (.blk b7 (D8 (.slice sa sn sc) (.slice ga gn gc) (.slice ta tn tc) (.slice none 0 0) bm)::(E8 (.slice none 0 0) []++(C5 bm []::.blk b3 (.cells #[.slice sa sn sc,.slice ga gn gc] 25)::S))) w:=by
  have h1:=Wd.addNil (a:=none) (E:=72) (sz:=1) hw
  rw[show E8 (.slice none 0 0) []=[.own (.slice none 0 0) 72 1 []] from rfl]
  exact h1.perm K1
 have hw:=P1 (rs:=[]) (L:=[]) rfl hw
 refine A1 ?_;refine D1 (vs:=[.pointer (some ⟨b7,0,none⟩),.int .i64 ((0:Nat):Int)]) ((Hv hS hR gs.length 0 (by omega) (.blk b3 (.cells #[.slice sa sn sc,.slice ga gn gc] 25)::S) [] [] w T6.nil (by rw[List.drop_zero];show 0+(Gn db q).length≤1000000;omega) hw).mono fun r w hq3=>?_)
 clear hw;obtain⟨rfl,hw⟩:=hq3;refine⟨_,rfl,?_⟩;rw[List.drop_zero,List.nil_append]at hw;have hw:Wd Γ2 (SV b7 bm (.slice sa sn sc) (.slice ga gn gc) (.slice ta tn tc) (Gn db q)::C5 bm []::.blk b3 (.cells #[.slice sa sn sc,.slice ga gn gc] 25)::S) w:=hw
 obtain⟨vr,L,hL,hw⟩:=m8 hw
 obtain⟨M,hM1,hM2,hM3⟩:=HX hL
 have hML:M.length=(Gn db q).length:=by rw[←hM2];unfold rowsOf;rw[List.length_map]
 have hw1:Wd Γ2 (Nm 67 3 L++(.own vr 72 1 (M.map cR)::.blk b7 (D8 (.slice sa sn sc) (.slice ga gn gc) (.slice ta tn tc) vr bm)::C5 bm []::.blk b3 (.cells #[.slice sa sn sc,.slice ga gn gc] 25)::S)) w:=by
  rw[hM1];have h1:Wd Γ2 (.blk b7 (D8 (.slice sa sn sc) (.slice ga gn gc) (.slice ta tn tc) vr bm)::((.own vr 72 1 (L.map fun x=>[x.1])::Nm 67 3 L)++(C5 bm []::.blk b3 (.cells #[.slice sa sn sc,.slice ga gn gc] 25)::S))) w:=hw
  exact h1.perm K1
 clear hw;obtain⟨Γ3,hle3,hfr,hw⟩:=Cs (f:=fun x:Value×List (List Value)=>x.1) (g:=fun x=>x.2) (e:=67) (sz:=3) L hw1
 clear hw1;have hRok:∀p∈M,Hn Γ3 p:=fun p hp=>by
  obtain⟨x,hx,e1,e2⟩:=hM3 p hp
  have:=hfr x hx
  unfold Hn;rw[←e1,←e2];exact this
 obtain⟨ra,rn,rc,rfl,-,-,-⟩:=hw.own_shape (i:=0) rfl
 have hw:Wd Γ3 (.own (.slice ra rn rc) 72 1 (M.map cR)::.blk b7 (D8 (.slice sa sn sc) (.slice ga gn gc) (.slice ta tn tc) (.slice ra rn rc) bm)::C5 bm []::.blk b3 (.cells #[.slice sa sn sc,.slice ga gn gc] 25)::S) w:=hw
 refine A1 ?_;refine D1 (vs:=[.slice ra rn rc,.func (.func 87) #[] #[]]) ((Kx M (.slice ra rn rc) hRok (by omega) hw).mono fun r w hq3=>?_)
 clear hw;obtain⟨rfl,G,hp,hs,hw⟩:=hq3;refine⟨_,rfl,?_⟩;have hGok:∀p∈G,Hn Γ3 p:=fun p h=>hRok p (hp.mem_iff.1 h)
 have hGl:G.length≤1000000:=by rw[hp.length_eq];omega
 refine A1 ?_;refine D1 (vs:=[.slice ra rn rc,.func (.func 88) #[] #[]]) ((GJ G hGok hGl hw).mono fun r w hq3=>?_)
 clear hw;obtain⟨v',rfl,hw⟩:=hq3;refine⟨_,rfl,?_⟩;have hwf:=hw.freeze
 clear hw;obtain⟨Γ4,hle4,hrr,hw⟩:=hwf;obtain⟨a4,n4,c4,rfl,-,-,-⟩:=hrr.shape;refine A1 ?_;refine⟨_,rfl,Γ4,.slice a4 n4 c4,R8 LN G,hle1.trans (hle2.trans (hle3.trans hle4)),rfl,⟨hrr,fun p hp2=>D2.mono (hGok p (Bp hp2)) hle4⟩,?_,hw.ds [0,0,0]⟩
 have hset:=FG EH.list (fun p:y6=>p.2) hp (hs.imp fun {a b} h e=>by
  have h2:ltOf (cL cV) b.2 a.2=true:=EH.list.lt_iff.2 e
  have h:ltOf (cL cV) b.2 a.2=false:=h
  rw[h2]at h;cases h)
 unfold rowsOf;have e2:M.map (·.2)=Gn db q:=hM2
 rw[←e2];exact hset
end Go.Proofs.YtlimglpjpcfpdaaGreatDoor
end
section
open Go Mk
namespace Go.Proofs.YtlimglpjpcfpdaaGreatDoor
set_option maxHeartbeats 16000000
attribute [local irreducible] Calls cI cB
section
variable {Γ:B5}{S:List B1}{w:World}
end
end Go.Proofs.YtlimglpjpcfpdaaGreatDoor
end
section
open Go Mk
namespace Go.Proofs.YtlimglpjpcfpdaaGreatDoor
set_option maxHeartbeats 16000000
attribute [local irreducible] Calls cI cB
end Go.Proofs.YtlimglpjpcfpdaaGreatDoor
end
section
open Go Mk
namespace Go.Proofs.YtlimglpjpcfpdaaGreatDoor
set_option maxHeartbeats 16000000
attribute [local irreducible] Calls cI cB
end Go.Proofs.YtlimglpjpcfpdaaGreatDoor
end
section
open Go Mk
namespace Go.Proofs.YtlimglpjpcfpdaaGreatDoor
set_option maxHeartbeats 16000000
attribute [local irreducible] Calls cI cB
end Go.Proofs.YtlimglpjpcfpdaaGreatDoor
end
section
open Go Mk
namespace Go.Proofs.YtlimglpjpcfpdaaGreatDoor
set_option maxHeartbeats 16000000
attribute [local irreducible] Calls cI cB
def M4(o:F1):Bool:=decide (o.Var.size≤60)&&decide (o.Const.Word.size≤60)
def d5(g:D6):Bool:=!(decide (60<g.Rel.size)||decide (12<g.Args.length) || !M4 g.L || !M4 g.R)&&g.Args.all M4
def Ap(s:ByteArray):Bool:=!decide (60<s.size)
def GP(q:D3):Bool:=!(decide (12<q.Sel.length)||decide (20<q.Goals.length))&&q.Sel.all Ap&&q.Goals.all d5
structure Fo(q:D3):Prop where
 goals:∀g∈q.Goals,U8 g.Off∧U8 g.Low∧U8 g.High∧U8 g.L.Const.Num∧U8 g.R.Const.Num∧∀o∈g.Args,U8 o.Const.Num
theorem CL{o:F1}(h:M4 o=true)(hi:U8 o.Const.Num):U5 o:=by
 unfold M4 at h;simp only[Bool.and_eq_true,decide_eq_true_eq]at h
 exact⟨by omega,hi,by omega⟩
theorem Nv{q:D3}(h:GP q=true)(hi:Fo q):J2 q:=by
 unfold GP at h;simp only[Bool.and_eq_true,Bool.not_eq_true',Bool.or_eq_false_iff,decide_eq_false_iff_not,List.all_eq_true]at h
 obtain⟨⟨⟨h1,h2⟩,h3⟩,h4⟩:=h;refine⟨by omega,fun s hs=>?_,by omega,fun g hg=>?_⟩
 ·have:=h3 s hs
  unfold Ap at this;simp only[Bool.not_eq_true',decide_eq_false_iff_not]at this
  omega
 ·have hb:=h4 g hg
  obtain⟨i1,i2,i3,i4,i5,i6⟩:=hi.goals g hg
  unfold d5 at hb;simp only[Bool.and_eq_true,Bool.not_eq_true',Bool.or_eq_false_iff,decide_eq_false_iff_not,Bool.not_eq_false',List.all_eq_true]at hb
  obtain⟨⟨⟨⟨b1,b2⟩,b3⟩,b4⟩,b5⟩:=hb;exact⟨by omega,by omega,fun o ho=>CL (b5 o ho) (i6 o ho),CL b3 i4,CL b4 i5,i1,i2,i3⟩
instance GU(Γ:B5)(o:F1):PG Tryz.prog Γ 27 [.agg (enc o).toArray] (.bool (M4 o)):=⟨fun S w hw=>by
 refine A5 Tryz.func27 rfl rfl ?_
 repeat first|refine C3 ?_|refine C4 ?_;intro w hw
 refine K4 ?_;intro b1 w hw;have hw:Wd Γ (.blk b1 (.cells (enc o).toArray 77)::S) w:=hw
 repeat first|refine C3 ?_|refine C4 ?_;intro w hw
 refine⟨_,rfl,J5 rfl ?_,hw.drop⟩
 unfold M4;rw[show decide (o.Var.size≤60)=decide ((o.Var.size:Int)≤60) from decide_eq_decide.2 (by omega),show decide (o.Const.Word.size≤60)=decide ((o.Const.Word.size:Int)≤60) from decide_eq_decide.2 (by omega)]⟩
theorem Qc{Γ:B5}{vs vg:Value}{gs:List E5}{q:D3}(hq0:QR Γ vs vg gs q):PG Tryz.prog Γ 6 [.agg #[vs,vg]] (.bool (GP q)):=R3 fun Γ w hle hw=>by
 have hq:=hq0.mono hle
 obtain⟨ga,gn,gc,rfl,hgn,hgnc,hgc⟩:=hq.goals.shape;obtain⟨sa,sn,sc,rfl,hsn,hsnc,hsc⟩:=hq.sel.shape;simp only[List.length_map]at hgn hsn
 have hnl:=hq.nlen
 have hrG:=hq.goals
 have hrS:=hq.sel
 refine A5 Tryz.func6 rfl rfl ?_
 repeat first|refine C3 ?_|refine C4 ?_;intro w hw
 refine K4 ?_;intro b1 w hw;have hw:Wd Γ [.blk b1 (.cells #[.slice sa sn sc,.slice ga gn gc] 25)] w:=hw
 have e1:(decide (12<q.Sel.length)||decide (20<q.Goals.length))=(decide ((12:Int)<sn)||decide ((20:Int)<gn)):=by
  rw[show decide (12<q.Sel.length)=decide ((12:Int)<sn) from decide_eq_decide.2 (by omega),show decide (20<q.Goals.length)=decide ((20:Int)<gn) from decide_eq_decide.2 (by omega)]
 repeat first|refine C3 ?_|refine C4 ?_;intro w hw
 refine A0 rfl (fun h=>?_) (fun h=>?_)
 ·have h:(decide ((12:Int)<sn)||decide ((20:Int)<gn))=true:=h
  repeat first|refine C3 ?_|refine C4 ?_;intro w hw
  refine⟨_,rfl,Γ,B5.le.refl _,J5 rfl ?_,G3 hw⟩
  unfold GP;rw[e1,h];rfl
 have h:(decide ((12:Int)<sn)||decide ((20:Int)<gn))=false:=h
 have hfw:GP q=(q.Sel.all Ap&&q.Goals.all d5):=by
  unfold GP;rw[e1,h];rfl
 clear h e1;repeat first|refine C3 ?_|refine C4 ?_;intro w hw
 refine C7 (fun μ ρ w=>∃(k:Nat),μ+k=sn∧Has ρ [(1,.pointer (some ⟨b1,0,none⟩)),(3,.int .i64 k)]∧q.Sel.all Ap=(q.Sel.drop k).all Ap∧Wd Γ [.blk b1 (.cells #[.slice sa sn sc,.slice ga gn gc] 25)] w) sn ⟨0,by omega,⟨rfl,rfl,trivial⟩,rfl,hw⟩ ?_
 clear hw;rintro μ ρ w ⟨k,hk,hρ,hall,hw⟩
 rw[hρ.eq];clear hρ;repeat first|refine C3 ?_|refine C4 ?_;intro w hw
 refine A0 rfl (fun h=>?_) (fun h=>?_)
 ·have hkn:k<sn:=by have:=of_decide_eq_true h;omega
  clear h;obtain⟨s,hs⟩:=B8 (l:=q.Sel) (k:=k) (by omega)
  rw[K7 hs]at hall;have hsh:Ap s = !decide ((60:Int)<s.size):=by
   unfold Ap;rw[show decide (60<s.size)=decide ((60:Int)<s.size) from decide_eq_decide.2 (by omega)]
  repeat first|refine C3 ?_|refine C4 ?_;intro w hw
  refine A0 rfl (fun h=>?_) (fun h=>?_)
  ·have h:decide ((60:Int)<s.size)=true:=h
   repeat first|refine C3 ?_|refine C4 ?_;intro w hw
   refine⟨_,rfl,Γ,B5.le.refl _,J5 rfl ?_,G3 hw⟩
   rw[hfw,hall,hsh,h];rfl
  ·have h:decide ((60:Int)<s.size)=false:=h
   rw[hsh,h,Bool.not_false,Bool.true_and]at hall;repeat first|refine C3 ?_|refine C4 ?_;intro w hw
   exact⟨μ-1,by omega,k+1,by omega,⟨rfl,rfl,trivial⟩,hall,hw⟩
 have hkn:sn≤k:=by have:=of_decide_eq_false h;omega
 clear h;rw[D7 q.Sel (by omega)]at hall
 have hfw:GP q=q.Goals.all d5:=by rw[hfw,hall];rfl
 clear hall hkn hk;repeat first|refine C3 ?_|refine C4 ?_;intro w hw
 refine C7 (fun μ ρ w=>∃(k:Nat),μ+k=gn∧Has ρ [(1,.pointer (some ⟨b1,0,none⟩)),(4,.int .i64 k)]∧GP q=(q.Goals.drop k).all d5∧Wd Γ [.blk b1 (.cells #[.slice sa sn sc,.slice ga gn gc] 25)] w) gn ⟨0,by omega,⟨rfl,rfl,trivial⟩,hfw,hw⟩ ?_
 clear hw;rintro μ ρ w ⟨k,hk,hρ,hall,hw⟩
 rw[hρ.eq];clear hρ;repeat first|refine C3 ?_|refine C4 ?_;intro w hw
 refine A0 rfl (fun h=>?_) (fun h=>?_)
 ·have hkn:k<gn:=by have:=of_decide_eq_true h;omega
  clear h;obtain⟨x,hx⟩:=B8 (l:=gs) (k:=k) (by omega)
  have hxm:=List.mem_of_getElem? hx
  have hgok:=hq.ok x hxm
  have hgx:=hq.get hx
  rw[K7 hgx]at hall;obtain⟨l1,l2,l3⟩:=hgok.len;obtain⟨g,A,N,C⟩:=x;simp only at hall l1 l2 l3 hgx
  have hgR:D2 Γ (.slice A N C) 4 (g.Args.map enc):=hgok
  have hbr:d5 g=(!(decide ((60:Int)<g.Rel.size)||decide ((12:Int)<N) || !M4 g.L || !M4 g.R)&&g.Args.all M4):=by
   unfold d5;rw[show decide (60<g.Rel.size)=decide ((60:Int)<g.Rel.size) from decide_eq_decide.2 (by omega),show decide (12<g.Args.length)=decide ((12:Int)<N) from decide_eq_decide.2 (by omega)]
  repeat first|refine C3 ?_|refine C4 ?_;intro w hw
  refine B4 ?_;intro b5 w hw;repeat first|refine C3 ?_|refine C4 ?_;intro w hw
  refine B0 ?_;intro w hw;have hw:Wd Γ [.blk b5 (.cells (cG ⟨g,A,N,C⟩).toArray 79),.blk b1 (.cells #[.slice sa sn sc,.slice ga gn gc] 25)] w:=hw
  repeat first|refine C3 ?_|refine C4 ?_;intro w hw
  refine Lt (hp:=GU Γ g.L) ?_
  intro w hw;repeat first|refine C3 ?_|refine C4 ?_;intro w hw
  refine Lt (hp:=GU Γ g.R) ?_
  intro w hw;repeat first|refine C3 ?_|refine C4 ?_;intro w hw
  refine A0 rfl (fun h=>?_) (fun h=>?_)
  ·have h:(decide ((60:Int)<g.Rel.size)||decide ((12:Int)<N) || !M4 g.L || !M4 g.R)=true:=h
   repeat first|refine C3 ?_|refine C4 ?_;intro w hw
   refine⟨_,rfl,Γ,B5.le.refl _,J5 rfl ?_,G3 hw⟩
   rw[hall,hbr,h];rfl
  have h:(decide ((60:Int)<g.Rel.size)||decide ((12:Int)<N) || !M4 g.L || !M4 g.R)=false:=h
  have hbr:d5 g=g.Args.all M4:=by rw[hbr,h];rfl
  clear h;repeat first|refine C3 ?_|refine C4 ?_;intro w hw
  refine C7 (fun μ ρ w=>∃(j:Nat),μ+j=N∧Has ρ [(1,.pointer (some ⟨b1,0,none⟩)),(4,.int .i64 k),(5,.pointer (some ⟨b5,0,none⟩)),(6,.int .i64 j)]∧d5 g=(g.Args.drop j).all M4∧Wd Γ [.blk b5 (.cells (cG ⟨g,A,N,C⟩).toArray 79),.blk b1 (.cells #[.slice sa sn sc,.slice ga gn gc] 25)] w) N ⟨0,by omega,⟨rfl,rfl,rfl,rfl,trivial⟩,hbr,hw⟩ ?_
  clear hw;rintro μ2 ρ w ⟨j,hj,hρ,hsh,hw⟩
  rw[hρ.eq];clear hρ;repeat first|refine C3 ?_|refine C4 ?_;intro w hw
  refine A0 rfl (fun h=>?_) (fun h=>?_)
  ·have h:(j:Int)<(N:Int):=of_decide_eq_true h
   have hjn:j<N:=by omega
   clear h;obtain⟨o,ho⟩:=B8 (l:=g.Args) (k:=j) (by omega)
   rw[K7 ho]at hsh;repeat first|refine C3 ?_|refine C4 ?_;intro w hw
   refine lY ?_ (hy:=Fs hw hgR rfl rfl (by omega) (by omega))
   repeat first|refine C3 ?_|refine C4 ?_;intro w hw
   refine A0 rfl (fun h=>?_) (fun h=>?_)
   ·have hf:M4 o=false:=by simpa using h
    repeat first|refine C3 ?_|refine C4 ?_;intro w hw
    refine⟨_,rfl,Γ,B5.le.refl _,J5 rfl ?_,G3 hw⟩
    rw[hall,hsh,hf];rfl
   ·have hf:M4 o=true:=by simpa using h
    rw[hf,Bool.true_and]at hsh;repeat first|refine C3 ?_|refine C4 ?_;intro w hw
    exact⟨N-j-1,by omega,j+1,by omega,⟨rfl,rfl,rfl,rfl,trivial⟩,hsh,hw⟩
  have h:¬(j:Int)<(N:Int):=of_decide_eq_false h
  rw[D7 g.Args (by omega)]at hsh
  have hsh:d5 g=true:=hsh
  rw[hsh,Bool.true_and]at hall;repeat first|refine C3 ?_|refine C4 ?_;intro w hw
  exact⟨gn-k-1,by omega,k+1,by omega,⟨rfl,rfl,trivial⟩,hall,hw.drop⟩
 have hkn:gn≤k:=by have:=of_decide_eq_false h;omega
 rw[D7 _ (by rw[hnl];omega)]at hall
 repeat first|refine C3 ?_|refine C4 ?_;intro w hw
 exact⟨_,rfl,Γ,B5.le.refl _,J5 rfl hall.symm,G3 hw⟩
end Go.Proofs.YtlimglpjpcfpdaaGreatDoor
end
section
open Go Mk
open Go.ChangeShapes Go.WideShapes Go.ChangeAt Go.RowKit
namespace Go.Proofs.YtlimglpjpcfpdaaGreatDoor
section
variable {H:Type}{en:TypeId×Value→H}{W W':World}{base:Nat}{sp:Nat→Bool}{held:Bool}{S:List B1}
theorem Qo:∀cs:List Value,cs.length=4→∃a b c d,cs=[a,b,c,d]
 | [a,b,c,d],_=>⟨a,b,c,d,rfl⟩
theorem Qa:∀cs:List Value,cs.length=15→∃a0 a1 a2 a3 a4 a5 a6 a7 a8 a9 a10 a11 a12 a13 a14,cs=[a0,a1,a2,a3,a4,a5,a6,a7,a8,a9,a10,a11,a12,a13,a14]
 | [a0,a1,a2,a3,a4,a5,a6,a7,a8,a9,a10,a11,a12,a13,a14],_=>⟨a0,a1,a2,a3,a4,a5,a6,a7,a8,a9,a10,a11,a12,a13,a14,rfl⟩
theorem Ch{n:Nat}{cs:List Value}{y:DataW H×List MemPlace}(h:DataW.trod en Tryz.prog W base sp held n 9 cs=some y):∃x:ByteArray,cs=[.string x]∧True:=by
 obtain⟨s,hs,-,-⟩:=DataW.trod_string Tryz.underlying9 h
 exact⟨s,hs,trivial⟩
theorem Kq{n:Nat}{v:Value}{y:DataW H×List MemPlace}(h:DataW.trod en Tryz.prog W base sp held n 22 [v]=some y):∃xs:List ByteArray,D2 (l4 W) v 1 (A3 xs):=by
 obtain⟨xs,h1,-⟩:=Al (F:=fun s:ByteArray=>[Value.string s]) (p:=fun _=>True) (sz:=1) (e:=9) (by kernel_rfl) (by decide) (fun x=>rfl) Tryz.underlying22 (fun h=>Ch h) h
 exact⟨xs,h1⟩
theorem EX{n:Nat}{cs:List Value}{y:DataW H×List MemPlace}(h:DataW.trod en Tryz.prog W base sp held n 77 cs=some y):∃x:F1,cs=enc x∧U8 x.Const.Num:=by
 obtain⟨xs,k,-,-,hl,hxl,hf⟩:=DataW.trod_struct Tryz.underlying77 h
 have hl:cs.length=4:=hl.trans (by kernel_rfl)
 obtain⟨c0,c1,c2,c3,rfl⟩:=Qo cs hl
 have e0:Tryz.prog.cellsOf 9=1:=by kernel_rfl
 have e1:Tryz.prog.cellsOf 67=3:=by kernel_rfl
 have q0:=hf 0 _ rfl
 have q1:=hf 1 _ rfl
 have g0:DataW.trod en Tryz.prog W base sp held k 9 (([c0,c1,c2,c3].drop 0).take (Tryz.prog.cellsOf 9))=xs[0]?:=q0
 have g1:DataW.trod en Tryz.prog W base sp held k 67 (([c0,c1,c2,c3].drop 1).take (Tryz.prog.cellsOf 67))=xs[1]?:=q1
 rw[e0]at g0;rw[e1]at g1;have hxl:xs.length=2:=hxl
 rw[List.getElem?_eq_getElem (by omega)]at g0 g1
 obtain⟨s,hs,-,-⟩:=DataW.trod_string Tryz.underlying9 g0
 obtain⟨v,hv,hn⟩:=MC g1
 simp only[List.drop_zero,List.take_succ_cons,List.take_zero,List.drop_succ_cons,List.cons.injEq,and_true]at hs hv
 subst hs;obtain⟨vk,vn,vw⟩:=v;refine⟨⟨s,⟨vk,vn,vw⟩⟩,?_,hn⟩
 have hv:[c1,c2,c3]=[Value.int .i64 vk,.int .i64 vn,.string vw]:=hv
 show Value.string s::[c1,c2,c3]=_
 rw[hv];rfl
theorem Kn{n:Nat}{v:Value}{y:DataW H×List MemPlace}(h:DataW.trod en Tryz.prog W base sp held n 75 [v]=some y):∃xs:List F1,D2 (l4 W) v 4 (xs.map enc)∧∀x∈xs,U8 x.Const.Num:=
 Al (sz:=4) (e:=77) (by kernel_rfl) (by decide) (fun x=>rfl) Tryz.underlying75 (fun h=>EX h) h
theorem Dq{n:Nat}{c:Value}{y:DataW H×List MemPlace}(h:DataW.trod en Tryz.prog W base sp held n 2 [c]=some y):∃b:Int,c=.int .i64 b∧U8 b:=by
 obtain⟨b,hb,-,hw⟩:=DataW.trod_int Tryz.underlying2 h
 simp only[List.cons.injEq,and_true]at hb
 refine⟨b,hb,?_⟩
 simp only[Lit.wf,IntKind.min,IntKind.max,IntKind.bits,IntKind.signed]at hw
 unfold U8;simpa using hw
theorem FN{n:Nat}{c:Value}{y:DataW H×List MemPlace}(h:DataW.trod en Tryz.prog W base sp held n 3 [c]=some y):∃b:Int,c=.int .i64 b:=by
 obtain⟨b,hb,-,hw⟩:=DataW.trod_int Tryz.underlying3 h
 simp only[List.cons.injEq,and_true]at hb
 exact⟨b,hb⟩
def Lh(g:D6):Prop:=U8 g.Off∧U8 g.Low∧U8 g.High∧U8 g.L.Const.Num∧U8 g.R.Const.Num∧∀o∈g.Args,U8 o.Const.Num
set_option maxHeartbeats 4000000 in
theorem LF{n:Nat}{cs:List Value}{y:DataW H×List MemPlace}(h:DataW.trod en Tryz.prog W base sp held n 79 cs=some y):∃x:E5,cs=cG x∧GB (l4 W) x∧Lh x.g:=by
 obtain⟨xs,k,-,-,hl,hxl,hf⟩:=DataW.trod_struct Tryz.underlying79 h
 have hl:cs.length=15:=hl.trans (by kernel_rfl)
 obtain⟨c0,c1,c2,c3,c4,c5,c6,c7,c8,c9,c10,c11,c12,c13,c14,rfl⟩:=Qa cs hl
 have e0:Tryz.prog.cellsOf 3=1:=by kernel_rfl
 have e1:Tryz.prog.cellsOf 9=1:=by kernel_rfl
 have e2:Tryz.prog.cellsOf 75=1:=by kernel_rfl
 have e3:Tryz.prog.cellsOf 77=4:=by kernel_rfl
 have e4:Tryz.prog.cellsOf 2=1:=by kernel_rfl
 have q0:=hf 0 _ rfl
 have g0:DataW.trod en Tryz.prog W base sp held k 3 (([c0,c1,c2,c3,c4,c5,c6,c7,c8,c9,c10,c11,c12,c13,c14].drop 0).take (Tryz.prog.cellsOf 3))=xs[0]?:=q0
 have q1:=hf 1 _ rfl
 have g1:DataW.trod en Tryz.prog W base sp held k 9 (([c0,c1,c2,c3,c4,c5,c6,c7,c8,c9,c10,c11,c12,c13,c14].drop 1).take (Tryz.prog.cellsOf 9))=xs[1]?:=q1
 have q2:=hf 2 _ rfl
 have g2:DataW.trod en Tryz.prog W base sp held k 75 (([c0,c1,c2,c3,c4,c5,c6,c7,c8,c9,c10,c11,c12,c13,c14].drop 2).take (Tryz.prog.cellsOf 75))=xs[2]?:=q2
 have q3:=hf 3 _ rfl
 have g3:DataW.trod en Tryz.prog W base sp held k 3 (([c0,c1,c2,c3,c4,c5,c6,c7,c8,c9,c10,c11,c12,c13,c14].drop 3).take (Tryz.prog.cellsOf 3))=xs[3]?:=q3
 have q4:=hf 4 _ rfl
 have g4:DataW.trod en Tryz.prog W base sp held k 77 (([c0,c1,c2,c3,c4,c5,c6,c7,c8,c9,c10,c11,c12,c13,c14].drop 4).take (Tryz.prog.cellsOf 77))=xs[4]?:=q4
 have q5:=hf 5 _ rfl
 have g5:DataW.trod en Tryz.prog W base sp held k 77 (([c0,c1,c2,c3,c4,c5,c6,c7,c8,c9,c10,c11,c12,c13,c14].drop 8).take (Tryz.prog.cellsOf 77))=xs[5]?:=q5
 have q6:=hf 6 _ rfl
 have g6:DataW.trod en Tryz.prog W base sp held k 2 (([c0,c1,c2,c3,c4,c5,c6,c7,c8,c9,c10,c11,c12,c13,c14].drop 12).take (Tryz.prog.cellsOf 2))=xs[6]?:=q6
 have q7:=hf 7 _ rfl
 have g7:DataW.trod en Tryz.prog W base sp held k 2 (([c0,c1,c2,c3,c4,c5,c6,c7,c8,c9,c10,c11,c12,c13,c14].drop 13).take (Tryz.prog.cellsOf 2))=xs[7]?:=q7
 have q8:=hf 8 _ rfl
 have g8:DataW.trod en Tryz.prog W base sp held k 2 (([c0,c1,c2,c3,c4,c5,c6,c7,c8,c9,c10,c11,c12,c13,c14].drop 14).take (Tryz.prog.cellsOf 2))=xs[8]?:=q8
 have hxl:xs.length=9:=hxl
 rw[e0,List.getElem?_eq_getElem (by omega)]at g0 g3
 rw[e1,List.getElem?_eq_getElem (by omega)]at g1
 rw[e2,List.getElem?_eq_getElem (by omega)]at g2
 rw[e3,List.getElem?_eq_getElem (by omega)]at g4 g5
 rw[e4,List.getElem?_eq_getElem (by omega)]at g6 g7 g8
 obtain⟨kd,rfl⟩:=FN g0
 obtain⟨rs,hrs,-⟩:=Ch g1
 obtain⟨az,ha,hai⟩:=Kn g2
 obtain⟨op,rfl⟩:=FN g3
 obtain⟨⟨lv,lk,ln,lw⟩,hlo,hli⟩:=EX g4
 obtain⟨⟨rv,rk,rn,rx⟩,hro,hri⟩:=EX g5
 obtain⟨o6,rfl,i6⟩:=Dq g6
 obtain⟨o7,rfl,i7⟩:=Dq g7
 obtain⟨o8,rfl,i8⟩:=Dq g8
 have hlo2:[c4,c5,c6,c7]=[Value.string lv,.int .i64 lk,.int .i64 ln,.string lw]:=hlo
 have hro2:[c8,c9,c10,c11]=[Value.string rv,.int .i64 rk,.int .i64 rn,.string rx]:=hro
 have hrs2:[c1]=[Value.string rs]:=hrs
 clear hlo hro hrs q0 q1 q2 q3 q4 q5 q6 q7 q8 g0 g1 g3 g4 g5 g6 g7 g8 hf hl h;simp only[List.cons.injEq,and_true]at hlo2 hro2 hrs2
 obtain⟨rfl,rfl,rfl,rfl⟩:=hlo2;obtain⟨rfl,rfl,rfl,rfl⟩:=hro2;subst hrs2;obtain⟨aa,an,ac,rfl,-⟩:=D2.shape ha
 exact⟨⟨⟨kd,rs,az,op,⟨lv,lk,ln,lw⟩,⟨rv,rk,rn,rx⟩,o6,o7,o8⟩,aa,an,ac⟩,rfl,ha,i6,i7,i8,hli,hri,hai⟩
instance:Inhabited E5:=⟨⟨⟨0,⟨#[]⟩,[],0,j8,j8,0,0,0⟩,none,0,0⟩⟩
theorem IX{n:Nat}{v:Value}{y:DataW H×List MemPlace}(h:DataW.trod en Tryz.prog W base sp held n 23 [v]=some y):∃gs:List E5,D2 (l4 W) v 15 (gs.map cG)∧∀x∈gs,GB (l4 W) x∧Lh x.g:=
 Al (sz:=15) (e:=79) (by kernel_rfl) (by decide) (fun x=>rfl) Tryz.underlying23 (fun h=>LF h) h
set_option maxRecDepth 100000 in
theorem HQ{r:Reach}{b:Nat}{v:Value}{d:DataW H}{pl:List MemPlace}(hk:Value.okWide Tryz.prog W r b 25 v)(h:DataW.Trod en Tryz.prog W base sp held 25 v d pl):∃(vs vg:Value) (gs:List E5) (q:D3),v=.agg #[vs,vg]∧QR (l4 W) vs vg gs q∧Fo q:=by
 obtain⟨⟨cs⟩,rfl,-⟩:=okWide_struct Tryz.underlying25 hk
 obtain⟨n,h⟩:=h;have h:DataW.trod en Tryz.prog W base sp held n 25 cs=some (d,pl):=h
 obtain⟨xs,k,-,-,hl,hxl,hf⟩:=DataW.trod_struct Tryz.underlying25 h
 have hl:cs.length=2:=hl.trans (by kernel_rfl)
 obtain⟨c0,c1,rfl⟩:=RA cs hl
 have e0:Tryz.prog.cellsOf 22=1:=by kernel_rfl
 have e1:Tryz.prog.cellsOf 23=1:=by kernel_rfl
 have q0:=hf 0 _ rfl
 have q1:=hf 1 _ rfl
 have g0:DataW.trod en Tryz.prog W base sp held k 22 (([c0,c1].drop 0).take (Tryz.prog.cellsOf 22))=xs[0]?:=q0
 have g1:DataW.trod en Tryz.prog W base sp held k 23 (([c0,c1].drop 1).take (Tryz.prog.cellsOf 23))=xs[1]?:=q1
 rw[e0]at g0;rw[e1]at g1;have hxl:xs.length=2:=hxl
 rw[List.getElem?_eq_getElem (by omega)]at g0 g1
 obtain⟨ss,hs⟩:=Kq g0
 obtain⟨gs,hg,hgo⟩:=IX g1
 refine⟨c0,c1,gs,⟨ss,gs.map (·.g)⟩,rfl,⟨hs,hg,rfl,fun x hx=>(hgo x hx).1⟩,⟨fun g hg'=>?_⟩⟩
 obtain⟨x,hx,rfl⟩:=List.mem_map.1 hg'
 exact(hgo x hx).2
end
end Go.Proofs.YtlimglpjpcfpdaaGreatDoor
end
section
open Go Mk
namespace Go.Proofs.YtlimglpjpcfpdaaGreatDoor
set_option maxHeartbeats 16000000
attribute [local irreducible] Calls cI cB
def B3(toks:List Tok)(k:Nat):Tok:=toks.getD k default
def I4(toks:List Tok)(k:Nat)(kind:Int)(text:ByteArray):Bool:=decide ((B3 toks k).Kind=kind)&&decide ((B3 toks k).Text=text)
def A9(bp:Nat)(a:Option Addr)(n c at':Nat)(e1 e2:Int):B1:=.blk bp (.cells #[.slice a n c,.int .i64 at',.int .i64 e1,.int .i64 e2] 95)
section
variable {Γ:B5}{S:List B1}{w:World}{bp:Nat}{a:Option Addr}{n c at':Nat}{e1 e2:Int}{toks:List Tok}
theorem V4(j:Nat)(hj:j≤1)(hat:at'≤n)(hN:toks.length≤1000000)(ht:D2 Γ (.slice a n c) 5 (toks.map enc))(hw:Wd Γ (A9 bp a n c at' e1 e2::S) w) :
  Calls Tryz.prog 166 #[.pointer (some ⟨bp,0,none⟩),.int .i64 j] w fun r w'=>r=.returned (.agg (enc (B3 toks (at'+j))).toArray)∧Wd Γ (A9 bp a n c at' e1 e2::S) w':=by
 have hn:n=toks.length∧n≤c∧c≤9223372036854775807:=by obtain⟨_,_,_,h1,h2,h3⟩:=ht.shape;cases h1;exact⟨by simpa using h2,h3⟩
 obtain⟨hn,hnc,hc⟩:=hn;unfold A9 at *
 refine H1 Tryz.func166 rfl rfl ?_
 refine A1 ?_;refine B4 ?_;intro b4 w hw;have hw:Wd Γ (.blk b4 (.cells (enc (default:Tok)).toArray 104)::.blk bp (.cells #[.slice a n c,.int .i64 at',.int .i64 e1,.int .i64 e2] 95)::S) w:=hw
 refine A1 ?_;refine K5 (by kernel_rfl) (by kernel_rfl) hw ?_
 refine Ef ?_;intro w hw;refine A0 rfl (fun h=>?_) (fun h=>?_)
 ·have h:at'+j<n:=by have:=of_decide_eq_true h;omega
  obtain⟨t,htk⟩:=B8 (l:=toks) (k:=at'+j) (by omega)
  have hT:B3 toks (at'+j)=t:=by unfold B3;rw[List.getD_eq_getElem?_getD,htk];rfl
  rw[hT];refine A1 ?_;refine v8 [.blk bp (.cells #[.slice a n c,.int .i64 at',.int .i64 e1,.int .i64 e2] 95)] (.blk b4 (.cells (enc (default:Tok)).toArray 104)::S) [] [[],[],[],[],[],[],[],[],[],[],[],[],[0]] (hw.ps [1]) ?_
  refine m4 ?_;refine Y0 (φ:=fun (_:Unit) _=>True) (R:=fun _=>.blk b4 (.cells (enc (default:Tok)).toArray 104)::S) (v:=undef) (T':=Unit) (fun _ _=>True) (fun _=>.blk b4 (.cells (enc t).toArray 104)::S) (fun t' g w Y _ hw=>V6 (i:=0) (inferInstance:LO Tryz.prog 104 5).h hw rfl rfl rfl rfl (fun u hu=>(List.all_eq_true.1 (Bd t)) u hu) rfl (Nat.le_refl 5) fun w' hw'=>⟨(),trivial,(fun _=>rfl),hw'⟩) ?_
  refine BG fun t' w g _ hw=>?_
  have hw:Wd Γ (.blk b4 (.cells (enc t).toArray 104)::.blk bp (.cells #[.slice a n c,.int .i64 at',.int .i64 e1,.int .i64 e2] 95)::S) w:=hw.flip.ps [1]
  refine A1 ?_;exact⟨[.agg (enc t).toArray],⟨M3 (i:=0) hw rfl rfl rfl,trivial⟩,rfl,hw.drop⟩
 ·have h:¬at'+j<n:=by have:=of_decide_eq_false h;omega
  have hT:B3 toks (at'+j)=default:=by unfold B3;rw[List.getD_eq_getElem?_getD,List.getElem?_eq_none (by omega)];rfl
  rw[hT];refine A1 ?_;refine B0 ?_;intro w hw;have hw:Wd Γ (.blk b4 (.cells (enc (default:Tok)).toArray 104)::.blk bp (.cells #[.slice a n c,.int .i64 at',.int .i64 e1,.int .i64 e2] 95)::S) w:=hw
  refine A1 ?_;exact⟨[.agg (enc (default:Tok)).toArray],⟨M3 (i:=0) hw rfl rfl rfl,trivial⟩,rfl,hw.drop⟩
theorem NX(j:Nat)(hj:j≤1)(kind:Int)(text:ByteArray)(hat:at'≤n)(hN:toks.length≤1000000)(ht:D2 Γ (.slice a n c) 5 (toks.map enc))(hw:Wd Γ (A9 bp a n c at' e1 e2::S) w) :
  Calls Tryz.prog 96 #[.pointer (some ⟨bp,0,none⟩),.int .i64 j,.int .i64 kind,.string text] w fun r w'=>r=.returned (.bool (I4 toks (at'+j) kind text))∧Wd Γ (A9 bp a n c at' e1 e2::S) w':=by
 refine A5 Tryz.func96 rfl rfl ?_
 refine A1 ?_;refine D1 (vs:=[.pointer (some ⟨bp,0,none⟩),.int .i64 j]) ?_
 refine(V4 j hj hat hN ht hw).mono ?_
 clear hw;rintro r w ⟨rfl,hw⟩
 refine⟨_,rfl,?_⟩;refine A1 ?_;refine B4 ?_;intro b9 w hw;refine B0 ?_;intro w hw;have hw:Wd Γ (.blk b9 (.cells (enc (B3 toks (at'+j))).toArray 104)::A9 bp a n c at' e1 e2::S) w:=hw
 refine A1 ?_;exact⟨_,rfl,J5 rfl rfl,hw.drop⟩
theorem J7(kind:Int)(text:ByteArray)(hat:at'≤n)(hN:toks.length≤1000000)(ht:D2 Γ (.slice a n c) 5 (toks.map enc))(hw:Wd Γ (A9 bp a n c at' e1 e2::S) w) :
  Calls Tryz.prog 98 #[.pointer (some ⟨bp,0,none⟩),.int .i64 kind,.string text] w fun r w'=>r=.returned (.bool (I4 toks at' kind text))∧Wd Γ (A9 bp a n c (if I4 toks at' kind text=true then at'+1 else at') e1 e2::S) w':=by
 have hn:n=toks.length:=by obtain⟨_,_,_,h1,h2,h3⟩:=ht.shape;cases h1;simpa using h2
 refine A5 Tryz.func98 rfl rfl ?_
 refine A1 ?_;refine D1 (vs:=[.pointer (some ⟨bp,0,none⟩),.int .i64 0,.int .i64 kind,.string text]) ?_
 refine(NX (j:=0) (by decide) kind text hat hN ht hw).mono ?_
 clear hw;rintro r w ⟨rfl,hw⟩
 rw[Nat.add_zero];refine⟨_,rfl,?_⟩;unfold A9 at *
 refine A1 ?_;refine CQ (fun ρ w=>Has ρ [(7,.bool (I4 toks at' kind text))]∧Wd Γ (A9 bp a n c (if I4 toks at' kind text=true then at'+1 else at') e1 e2::S) w) ?_ ?_
 ·refine A0 rfl (fun h=>?_) (fun h=>?_)
  ·rw[if_pos h];refine A1 ?_;refine B0 (i:=0) ?_
   intro w hw;have hw:Wd Γ (A9 bp a n c (at'+1) e1 e2::S) w:=hw
   refine A1 ?_;exact⟨⟨rfl,trivial⟩,hw⟩
  ·rw[if_neg (by rw[h];decide)]
   refine A1 ?_;exact⟨⟨rfl,trivial⟩,hw⟩
 clear hw;rintro ρ w ⟨hρ,hw⟩
 rw[hρ.eq];refine A1 ?_;exact⟨_,rfl,J5 rfl rfl,hw⟩
theorem Bj(kind:Int)(text:ByteArray)(hi:I4 toks at' kind text=true)(hat:at'≤n)(hN:toks.length≤1000000)(ht:D2 Γ (.slice a n c) 5 (toks.map enc))(hw:Wd Γ (A9 bp a n c at' e1 e2::S) w) :
  Calls Tryz.prog 95 #[.pointer (some ⟨bp,0,none⟩),.int .i64 kind,.string text] w fun r w'=>r=.returned (.tuple #[])∧Wd Γ (A9 bp a n c (at'+1) e1 e2::S) w':=by
 refine A5 Tryz.func95 rfl rfl ?_
 repeat first|refine C3 ?_|refine C4 ?_;intro w hw
 refine D1 (vs:=[.pointer (some ⟨bp,0,none⟩),.int .i64 kind,.string text]) ?_
 refine(J7 kind text hat hN ht hw).mono ?_
 clear hw;rintro r w ⟨rfl,hw⟩
 rw[if_pos hi]at hw;rw[hi];refine⟨_,rfl,?_⟩;repeat first|refine C3 ?_|refine C4 ?_;intro w hw
 refine A0 rfl (fun h=>by cases h) (fun h=>?_)
 repeat first|refine C3 ?_|refine C4 ?_;intro w hw
 exact⟨_,rfl,rfl,hw⟩
theorem JK(hk:(B3 toks at').Kind=1)(hr:DJ (B3 toks at').Text=false)(hs:(B3 toks at').Text.size≤24)(hat:at'≤n)(hN:toks.length≤1000000)(ht:D2 Γ (.slice a n c) 5 (toks.map enc))(hw:Wd Γ (A9 bp a n c at' e1 e2::S) w) :
  Calls Tryz.prog 97 #[.pointer (some ⟨bp,0,none⟩)] w fun r w'=>r=.returned (.string (B3 toks at').Text)∧Wd Γ (A9 bp a n c (at'+1) e1 e2::S) w':=by
 have hn:n=toks.length:=by obtain⟨_,_,_,h1,h2,h3⟩:=ht.shape;cases h1;simpa using h2
 refine A5 Tryz.func97 rfl rfl ?_
 repeat first|refine C3 ?_|refine C4 ?_;intro w hw
 refine D1 (vs:=[.pointer (some ⟨bp,0,none⟩),.int .i64 0]) ?_
 refine(V4 (j:=0) (by decide) hat hN ht hw).mono ?_
 clear hw;rintro r w ⟨rfl,hw⟩
 rw[Nat.add_zero];refine⟨_,rfl,?_⟩;generalize B3 toks at'=t at *
 repeat first|refine C3 ?_|refine C4 ?_;intro w hw
 refine B4 ?_;intro b3 w hw;refine B0 ?_;intro w hw;have hw:Wd Γ (.blk b3 (.cells (enc t).toArray 104)::.blk bp (.cells #[.slice a n c,.int .i64 at',.int .i64 e1,.int .i64 e2] 95)::S) w:=hw
 repeat first|refine C3 ?_|refine C4 ?_;intro w hw
 refine A0 rfl (fun h=>?_) (fun h=>?_)
 ·rw[hk,hr]at h;cases h
 clear h;repeat first|refine C3 ?_|refine C4 ?_;intro w hw
 refine A0 rfl (fun h=>?_) (fun h=>?_)
 ·have:=of_decide_eq_true h;omega
 clear h;repeat first|refine C3 ?_|refine C4 ?_;intro w hw
 refine B0 (i:=1) ?_
 intro w hw;have hw:Wd Γ (.blk b3 (.cells (enc t).toArray 104)::A9 bp a n c (at'+1) e1 e2::S) w:=hw
 repeat first|refine C3 ?_|refine C4 ?_;intro w hw
 exact⟨_,rfl,rfl,hw.drop⟩
structure NR(t:Tok):Prop where
 kind:t.Kind=1
 kw:DJ t.Text=false
 size:t.Text.size≤24
 pos:0<t.Text.size
 var:(decide (t.Text=⟨#[95]⟩)||(decide (65≤A6 t.Text 0)&&decide (A6 t.Text 0≤90)))=true
theorem FD(hv:NR (B3 toks at'))(hat:at'≤n)(hN:toks.length≤1000000)(ht:D2 Γ (.slice a n c) 5 (toks.map enc))(hw:Wd Γ (A9 bp a n c at' e1 e2::S) w) :
  Calls Tryz.prog 167 #[.pointer (some ⟨bp,0,none⟩)] w fun r w'=>r=.returned (.agg (enc (⟨(B3 toks at').Text,H2⟩:F1)).toArray)∧Wd Γ (A9 bp a n c (at'+1) e1 e2::S) w':=by
 have hn:n=toks.length:=by obtain⟨_,_,_,h1,h2,h3⟩:=ht.shape;cases h1;simpa using h2
 refine H1 Tryz.func167 rfl rfl ?_
 repeat first|refine C3 ?_|refine C4 ?_;intro w hw
 refine B4 ?_;intro b2 w hw;have hw:Wd Γ (A9 bp a n c at' e1 e2::.blk b2 (.cells (enc (⟨C9,H2⟩:F1)).toArray 77)::S) w:=hw.ps [1]
 repeat first|refine C3 ?_|refine C4 ?_;intro w hw
 refine D1 (vs:=[.pointer (some ⟨bp,0,none⟩),.int .i64 0]) ?_
 refine(V4 (j:=0) (by decide) hat hN ht hw).mono ?_
 clear hw;rintro r w ⟨rfl,hw⟩
 rw[Nat.add_zero];refine⟨_,rfl,?_⟩;have hWQ:=fun (S:List B1) (w:World) hw=>JK (S:=S) (w:=w) (e1:=e1) (e2:=e2) (bp:=bp) hv.kind hv.kw hv.size hat hN ht hw
 generalize B3 toks at'=t at *
 repeat first|refine C3 ?_|refine C4 ?_;intro w hw
 refine B4 ?_;intro b3 w hw;refine B0 ?_;intro w hw;have hw:Wd Γ (A9 bp a n c at' e1 e2::.blk b2 (.cells (enc (⟨C9,H2⟩:F1)).toArray 77)::.blk b3 (.cells (enc t).toArray 104)::S) w:=hw.ps [2,2]
 repeat first|refine C3 ?_|refine C4 ?_;intro w hw
 refine A0 rfl (fun _=>?_) (fun h=>absurd hv.kind (of_decide_eq_false h))
 repeat first|refine C3 ?_|refine C4 ?_;intro w hw
 refine D1 (vs:=[.pointer (some ⟨bp,0,none⟩)]) ?_
 refine(hWQ _ _ hw).mono ?_
 clear hw;rintro r w ⟨rfl,hw⟩
 refine⟨_,rfl,?_⟩;have hp0:=hv.pos
 repeat first|refine C3 ?_|refine C4 ?_;intro w hw
 refine A0 rfl (fun h=>?_) (fun h=>?_)
 ·repeat first|refine C3 ?_|refine C4 ?_;intro w hw
  refine B0 (i:=1) ?_
  intro w hw;have hw:Wd Γ (.blk b2 (.cells (enc (⟨t.Text,H2⟩:F1)).toArray 77)::A9 bp a n c (at'+1) e1 e2::.blk b3 (.cells (enc t).toArray 104)::S) w:=hw.ps [1]
  repeat first|refine C3 ?_|refine C4 ?_;intro w hw
  exact⟨[.agg (enc (⟨t.Text,H2⟩:F1)).toArray],⟨M3 (i:=0) hw rfl rfl rfl,trivial⟩,rfl,hw.drop.dropAt 1⟩
 ·exact absurd (hv.var.symm.trans h) (by decide)
end
end Go.Proofs.YtlimglpjpcfpdaaGreatDoor
end
section
open Go
namespace Mk
attribute [local irreducible] Calls
section
variable {P:Program}{n:Nat}{ops:List Oper}{Γ:B5}{K:List B1}{wr tc stab:List (List Nat)}{Q:Fr→World→Prop}{i:Nat}{rest:List Oper}{ρ:Fr}{M:Nat→Fr→List B1}{T:Type}
variable {ty:TypeId}{pos:String}{es:Array Edge}
end
section
variable {P:Program}{n:Nat}{opa:Array Oper}{QQ:Exit→Fr→World→Prop}{ρ:Fr}{w:World}{rest:List Oper}{Γ:B5}{S:List B1}
variable {d:Option Tmp}{ty:TypeId}{pos:String}{es:Array Edge}{f j dj:Nat}{want c:Bool}{args:List Operand}{tys:Array TypeId}{vs:List Value}{v:Value}
attribute [local semireducible] gv
end
end Mk
end
section
open Go
namespace Mk
attribute [local semireducible] L W Step
def S1(PP:List PanicEntry→World→Prop)(P:Program)(o:Oper)(ρ:Fr)(w:World)(K:Value→World→Prop):Prop:=
 match (execOp (ev ρ) o).run P w with
 | .ok (.value v) w'=>K v w'
 | .ok .skip w'=>K undef w'
 | .ok (.enter f args) w'=>Calls P f args w' (Ends K PP)
 | .ok (.row row args) w'=>Rows P row args w' K
 | _=>False
section
variable {PP:List PanicEntry→World→Prop}{P:Program}{o:Oper}{ρ ρ':Fr}{w:World}{K K':Value→World→Prop}{ops:List Oper}
theorem Step.toE(h:Step P o ρ w K):S1 PP P o ρ w K:=by
 unfold Step at h;unfold S1;generalize (execOp (ev ρ) o).run P w=r at *
 cases r with
 | ok x w'=>
  cases x <;> first
   | exact h
   | exact Calls.mono h (fun e w'' he=>by obtain⟨v,rfl,hv⟩:=he;exact hv)
   | exact h.elim
 | halt x w'=>exact h.elim
theorem S1.mono(h:S1 PP P o ρ w K)(hk:∀v w,K v w→K' v w):S1 PP P o ρ w K':=by
 unfold S1 at *
 split at h <;> first|exact hk _ _ h|exact h.mono fun e w'' he=>he.mono hk (fun _ _ h=>h)|exact h.mono hk|exact h.elim
theorem S1.congr(hsel:Y4 o=true)(hs:∀t∈looks ops o,ρ' t=ρ t)(h:S1 PP P o ρ w K):S1 PP P o ρ' w K:=by
 have:=execOp_congr o (fun cs b e=>by simp[Y4,e]at hsel) (Pb hs)
 unfold S1 at *
 rw[this];exact h
theorem S1.wp{a:Act}{K2:Act→World→Prop}{Q':Exit→Act→World→Prop}(h:S1 PP P o (C0 a) w K)
  (hk:∀v w,K v w→K2 (a.put o.dst v) w) (hp:∀ch w,PP ch w→Q' (.panic ch) a w):o.wp P a w K2 Q':=by
 unfold S1 at h;unfold Oper.wp;rw[Q3];generalize (execOp (ev (C0 a)) o).run P w=r at *
 cases r with
 | ok x w'=>
  cases x <;> simp only[Oper.upon]at h ⊢ <;> first
   | exact hk _ _ h
   | exact Calls.mono h (fun e w'' he=>by
     cases e with
     | returned v=>exact hk _ _ he
     | panicked ch=>exact hp _ _ he
     | outgrown=>exact he.elim)
   | exact Rows.mono h hk
   | exact h.elim
 | halt x w'=>exact h.elim
end
section
variable (PP:List PanicEntry→World→Prop)(V:O8)
structure Hq(i:Nat)(o:Oper)(st:Mt)(c:Mc):Prop where
 run:∀Γ' Y w g,V.rl V.Γ Γ'→Wd Γ' (V.K++(cellsOf V (V.t i) st.M g++Y)) w →
  (P0 V.ops o (D9 V.N g st.ρ)=true→S1 PP V.P o (D9 V.N g st.ρ) w fun v w'=>∃Γ'',V.rl Γ' Γ''∧Wd Γ'' (V.K++(cellsOf V (V.t i) (Mt.nxt V i st c) (C1 g o.dst v)++Y)) w'∧(V.free o=false→v=c.x)) ∧
  (P0 V.ops o (D9 V.N g st.ρ)=false→Wd Γ' (V.K++(cellsOf V (V.t i) (Mt.nxt V i st c) (C1 g o.dst undef)++Y)) w∧(V.free o=false→undef=c.x))
def MSwE(Q:Fr→World→Prop):Nat→List Oper→Mt→Prop
 | _,[],st=>CR V Q st
 | i,o::l,st=>∃c,Hq PP V i o st c∧MSwE Q (i+1) l (Mt.next V i st o c)
end
def M5(PP:List PanicEntry→World→Prop)(V:O8)(Q:Fr→World→Prop):Nat→List Oper→List Mc→Mt→Prop
 | _,[],[],st=>CR V Q st
 | i,o::l,c::cs,st=>Hq PP V i o st c∧M5 PP V Q (i+1) l cs (Mt.next V i st o c)
 | _,_,_,_=>False
theorem MSwE.chain{PP:List PanicEntry→World→Prop}{V:O8}{Q:Fr→World→Prop}:∀(l:List Oper) (i:Nat) (st:Mt),MSwE PP V Q i l st→∃cs,M5 PP V Q i l cs st
 | [],_,_,h=>⟨[],h⟩
 | _::l,i,st,⟨c,hg,h⟩=>by
  obtain⟨cs,hc⟩:=MSwE.chain l (i+1) _ h
  exact⟨c::cs,hg,hc⟩
section
variable {PP:List PanicEntry→World→Prop}{V:O8}{Q:Fr→World→Prop}
theorem M5.good:∀ {l:List Oper} {i:Nat} {cs:List Mc} {st:Mt} (k:Nat) {o:Oper},M5 PP V Q i l cs st→l[k]? = some o→∃c,cs[k]? = some c∧Hq PP V (i+k) o (G9 V l cs i st k) c
 | o'::l,i,c::cs,st,0,o,h,ho=>by
  simp at ho;subst ho
  exact⟨c,rfl,h.1⟩
 | o'::l,i,c::cs,st,k+1,o,h,ho=>by
  obtain⟨c',h1,h2⟩:=M5.good k h.2 (by simpa using ho)
  refine⟨c',by simpa using h1,?_⟩
  rw[show i+(k+1)=i+1+k from by omega]
  exact h2
 | [],_,_,_,_,_,_,ho=>by simp at ho
 | _::_,_,[],_,_,_,h,_=>h.elim
theorem M5.final:∀ {l:List Oper} {i:Nat} {cs:List Mc} {st:Mt},M5 PP V Q i l cs st→CR V Q (G9 V l cs i st l.length)
 | [],_,[],_,h=>h
 | o::l,i,c::cs,st,h=>by
  have:=M5.final (l:=l) (cs:=cs) h.2
  simpa[G9] using this
 | [],_,_::_,_,h=>h.elim
 | _::_,_,[],_,h=>h.elim
section
variable {st0:Mt}{cs:List Mc}{listed:Array Bool}{a:Act}{w:World}{done:List Nat}{Γ':B5}
theorem Dj(hc:M5 PP V Q 0 V.ops cs st0){t j:Nat}:∀(m:Nat),j+m≤V.ops.length→(∀i,j≤i→i<j+m→∀o,V.ops[i]? = some o→o.dst≠some t)→(G9 V V.ops cs 0 st0 (j+m)).ρ t=(G9 V V.ops cs 0 st0 j).ρ t
 | 0,_,_=>rfl
 | m+1,hl,hn=>by
  have ih:=Dj hc m (by omega) (fun i h1 h2=>hn i h1 (by omega))
  have ho:V.ops[j+m]? = some V.ops[j+m]:=List.getElem?_eq_getElem (by omega)
  obtain⟨c,h1,_⟩:=hc.good (j+m) ho
  rw[←Nat.add_assoc,O1 ho h1,←ih];have hne:=hn (j+m) (by omega) (by omega) _ ho
  simp only[Mt.next]
  cases hd:(V.ops[j+m]).dst with
  | none=>rfl
  | some d=>exact upd_ne _ _ (fun e=>hne (by rw[hd,e]))
theorem MInv.sat_atE(hc:M5 PP V Q 0 V.ops cs st0)(inv:MInv V st0 cs listed a w done Γ'){k t:Nat}(hN:t∉V.N)(hk:k≤V.ops.length)(h1:∀j,j<k→∀o,V.ops[j]? = some o→o.dst=some t→j∈done)
  (h2:∀j∈done,∀o,V.ops[j]? = some o→o.dst=some t→j<k):C0 a t=(G9 V V.ops cs 0 st0 k).ρ t:=by
 rcases V0 (fun j=>∃o,V.ops[j]? = some o∧o.dst=some t) k with hn|⟨j,hj,⟨o,ho,hd⟩,hlast⟩
 ·have:=Dj (j:=0) (t:=t) hc k (by omega) (fun i _ hi o ho hd=>hn i (by omega) ⟨o,ho,hd⟩)
  rw[Nat.zero_add,l5]at this;rw[this];exact inv.init t hN fun i hi o ho hd=>hn i (h2 i hi o ho hd) ⟨o,ho,hd⟩
 ·have hin:=h1 j hj o ho hd
  obtain⟨c,hcj,hg⟩:=hc.good j ho
  have hval:=inv.last j hin o t c ho hd hN hcj fun i hi o' ho' hd'=>by
   have:=h2 i hi o' ho' hd'
   rcases Nat.lt_or_ge j i with h|h
   ·exact absurd ⟨o',ho',hd'⟩ (hlast i h this)
   ·exact h
  have hs:(G9 V V.ops cs 0 st0 (j+1)).ρ t=c.x:=by
   rw[O1 ho hcj];simp only[Mt.next,hd]
   exact upd_same _ _ _
  have:=Dj (j:=j+1) (t:=t) hc (k-(j+1)) (by omega) (fun i h3 h4 o' ho' hd'=>hlast i (by omega) (by omega) ⟨o',ho',hd'⟩)
  rw[show j+1+(k-(j+1))=k from by omega]at this
  rw[hval,this,hs]
theorem AL(hc:M5 PP V Q 0 V.ops cs st0){p x:Nat}:∀(m:Nat),p+m≤V.ops.length→(∀j,p≤j→j<p+m→x∉V.w j)→(G9 V V.ops cs 0 st0 (p+m)).M x=(G9 V V.ops cs 0 st0 p).M x
 | 0,_,_=>rfl
 | m+1,hl,hn=>by
  have ih:=AL hc m (by omega) (fun i h1 h2=>hn i h1 (by omega))
  have ho:V.ops[p+m]? = some V.ops[p+m]:=List.getElem?_eq_getElem (by omega)
  obtain⟨c,h1,hg⟩:=hc.good (p+m) ho
  rw[←Nat.add_assoc,O1 ho h1,←ih];have:=hn (p+m) (by omega) (by omega)
  simp[Mt.next,Mt.nxt,this]
theorem MInv.stepE{i:Nat}{QQ:Exit→Act→World→Prop}(hc:M5 PP V Q 0 V.ops cs st0)(hk:M1 V.n V.ops V.wr V.tc V.stab=true)(inv:MInv V st0 cs listed a w done Γ')(hPP:∀ch (a:Act) w,a.defers=[]→a.tmps.size=V.n→PP ch w→QQ (.panic ch) a w)
  (hr:i∈Region.ready .any V.ops.toArray listed):wpOp V.P V.ops.toArray QQ i (fun a' w'=>∃done' Γ'',MInv V st0 cs (listed.setIfInBounds i true) a' w' done' Γ''∧done'.length=done.length+1) a w∧i∉done:=by
 obtain⟨hun,o,hoa,hall⟩:=mem_ready.1 hr
 have ho:V.ops[i]? = some o:=by simpa using hoa
 have hil:i<V.ops.length:=(List.getElem?_eq_some_iff.1 ho).1
 have hni:i∉done:=fun h=>by rw[(inv.ls i hil).2 h]at hun;cases hun
 refine⟨?_,hni⟩
 obtain⟨c,hci,hg⟩:=hc.good i ho
 rw[Nat.zero_add]at hg;obtain⟨k1,k2,k3,kd,kw,kl,kn,ks,k4⟩:=L6 hk ho
 have hedges:∀e∈o.after,Region.binds .any e=true→e.on∈done:=fun e he hb=>by
  have h1:=hall e he hb
  have h2:=k1 e he hb
  have h3:e.on<listed.size:=by rw[inv.lsz];omega
  refine(inv.ls e.on (by omega)).1 ?_
  simp only[Array.getD_eq_getD_getElem?,Array.getElem?_eq_getElem h3,Option.getD_some]at h1 ⊢
  exact h1
 have hcl':Closed V.ops (·∈i::done):=fun j o' e hj ho' he hb=>by
  rcases List.mem_cons.1 hj with rfl|hj
  ·rw[ho]at ho';cases ho';exact List.mem_cons_of_mem _ (hedges e he hb)
  ·exact List.mem_cons_of_mem _ (inv.cl j o' e hj ho' he hb)
 have hanc:∀j,j∈(Bz [] V.ops).getD i []→j∈i::done:=fun j hj=>P7 hcl' V.ops [] (by simp) (by simp) i j hj (by simp)
 have hanc2:∀j k,j∈(Bz [] V.ops).getD k []→k∈done→j∈done:=fun j k hj hk=>P7 inv.cl V.ops [] (by simp) (by simp) k j hj hk
 have hsat:∀t∈looks V.ops o,t∉V.N→C0 a t=(G9 V V.ops cs 0 st0 i).ρ t:=fun t ht hN=>inv.sat_atE hc hN (Nat.le_of_lt hil) (fun j hj oj hoj hdj=>by
   rcases k4 j oj hj hoj with h|h
   ·exact absurd ht ((K8 h.1).1 t hdj).1
   ·rcases List.mem_cons.1 (hanc j h) with h|h
    ·omega
    ·exact h) (fun j hj oj hoj hdj=>by
   rcases Nat.lt_or_ge j i with h|h
   ·exact h
   ·rcases Nat.eq_or_lt_of_le h with h|h
    ·subst h;exact absurd hj hni
    ·obtain⟨_,_,_,_,_,_,_,_,q4⟩:=L6 hk hoj
     rcases q4 i o h ho with h'|h'
     ·exact absurd ht ((K8 h'.1).2 t hdj)
     ·exact absurd (hanc2 i j h' hj) hni)
 have hlook:∀t∈looks V.ops o,C0 a t=D9 V.N (C0 a) (G9 V V.ops cs 0 st0 i).ρ t:=fun t ht=>by
  by_cases hN:t∈V.N
  ·rw[I0 hN]
  ·rw[Be hN];exact hsat t ht hN
 obtain⟨p,hp,hwd⟩:=inv.wd;have htc:∀x∈V.t i,(G9 V V.ops cs 0 st0 i).M x=(G9 V V.ops cs 0 st0 (p x)).M x:=fun x hx=>by
  rcases Nat.lt_or_ge i (p x) with hlt|hge
  ·
   have:=AL hc (p:=i) (x:=x) (p x-i) (by have:=(hp x).1;omega) (fun j h1 h2 hj=>by
    have hjl:j<V.ops.length:=by have:=(hp x).1;omega
    have hjd:=((hp x).2 j hj hjl).2 (by omega)
    have hoj:V.ops[j]? = some V.ops[j]:=List.getElem?_eq_getElem hjl
    rcases Nat.eq_or_lt_of_le h1 with h|h
    ·subst h;exact hni hjd
    ·obtain⟨_,_,_,_,_,_,_,_,q4⟩:=L6 hk hoj
     rcases q4 i o h ho with h'|h'
     ·exact Jz h'.2 hx hj
     ·exact hni (hanc2 i j h' hjd))
   rw[show i+(p x-i)=p x from by omega]at this
   exact this.symm
  ·have:=AL hc (p:=p x) (x:=x) (i-p x) (by omega) (fun j h1 h2 hj=>by
    have hoj:V.ops[j]? = some V.ops[j]:=List.getElem?_eq_getElem (by omega)
    rcases k4 j _ (by omega) hoj with h|h
    ·exact DW h.2 hj hx
    ·rcases List.mem_cons.1 (hanc j h) with h|h
     ·omega
     ·have:=((hp x).2 j hj (by omega)).1 h;omega)
   rwa [show p x+(i-p x)=i from by omega]at this
 let rest:=(List.range V.stab.length).filter fun x=>!(V.t i).contains x
 have hperm:(List.range V.stab.length).Perm (V.t i++rest):=by
  refine(List.perm_ext_iff_of_nodup List.nodup_range ?_).2 fun x=>?_
  ·refine List.nodup_append.2 ⟨kn,List.nodup_range.filter _,fun x hx y hy hxy=>?_⟩
   subst hxy;have:=(List.mem_filter.1 hy).2
   simp at this;exact this hx
  ·simp only[List.mem_append,List.mem_range,rest,List.mem_filter]
   constructor
   ·intro h;by_cases hx:x∈V.t i
    ·exact .inl hx
    ·exact .inr ⟨h,by simpa using hx⟩
   ·rintro (h|h)
    ·exact kl x h
    ·exact h.1
 have hfm:∀F:Nat→List B1,((List.range V.stab.length).flatMap F).Perm ((V.t i).flatMap F++rest.flatMap F):=fun F=>by
  rw[←List.flatMap_append];exact List.Perm.flatMap_right _ hperm
 have hw1:Wd Γ' (V.K++(cellsOf V (V.t i) (G9 V V.ops cs 0 st0 i).M (C0 a)++rest.flatMap fun x=>(G9 V V.ops cs 0 st0 (p x)).M x (D9 (V.s x) (C0 a) C8))) w:=by
  have:=hwd.perm (List.Perm.append_left V.K (hfm _))
  rwa [show cellsOf V (V.t i) (G9 V V.ops cs 0 st0 i).M (C0 a)=(V.t i).flatMap fun x=>(G9 V V.ops cs 0 st0 (p x)).M x (D9 (V.s x) (C0 a) C8) from E7 fun x hx=>by rw[htc x hx]]
 have hrun:=hg.run Γ' _ w (C0 a) inv.le hw1
 have next:∀v w' Γ'',V.rl Γ' Γ''→(V.free o=false→v=c.x)→Wd Γ'' (V.K++(cellsOf V (V.t i) (Mt.nxt V i (G9 V V.ops cs 0 st0 i) c) (C1 (C0 a) o.dst v)++rest.flatMap fun x=>(G9 V V.ops cs 0 st0 (p x)).M x (D9 (V.s x) (C0 a) C8))) w' →
   MInv V st0 cs (listed.setIfInBounds i true) (a.put o.dst v) w' (i::done) Γ'':=by
  intro v w' Γ'' hle he hwd';have hput:C0 (a.put o.dst v)=C1 (C0 a) o.dst v:=N9 a _ v (by rw[inv.size];exact G2 kd)
  refine⟨(G5 a _ v).trans inv.defers,(size_put a _ v).trans inv.size,by simpa using inv.lsz,List.nodup_cons.2 ⟨hni,inv.nd⟩,?_,?_,hcl',V.rl_trans inv.le hle,?_,?_,?_⟩
  ·intro j hj;rcases List.mem_cons.1 hj with rfl|hj
   ·exact hil
   ·exact inv.lt j hj
  ·intro j hj;by_cases hji:j=i
   ·subst hji;simp[inv.lsz,hil]
   ·rw[getD_set_ne true (Ne.symm hji),inv.ls j hj];simp[hji]
  ·intro t hN hn;rw[hput];have h1:o.dst≠some t:=hn i (by simp) o ho
   have:C1 (C0 a) o.dst v t=C0 a t:=by
    cases hd:o.dst with
    | none=>rfl
    | some d=>exact upd_ne _ _ (fun e=>h1 (by rw[hd,e]))
   rw[this];exact inv.init t hN fun j hj=>hn j (List.mem_cons_of_mem _ hj)
  ·intro j hj o' t c' ho' hd' hN hc' hmax;rw[hput];rcases List.mem_cons.1 hj with rfl|hj
   ·rw[ho]at ho';cases ho'
    rw[hci]at hc';cases hc'
    rw[hd',show C1 (C0 a) (some t) v t=v from upd_same _ _ _];exact he (by simp only[O8.free,hd'];simpa using hN)
   ·have hji:j≠i:=fun e=>hni (e ▸ hj)
    have h1:o.dst≠some t:=fun e=>by
     have hle':=hmax i (by simp) o ho e
     have hlt:i<j:=by omega
     obtain⟨_,_,_,_,_,_,_,_,q4⟩:=L6 hk ho'
     rcases q4 i o hlt ho with h|h
     ·exact((K8 h.1).1 t e).2 hd'
     ·exact hni (hanc2 i j h hj)
    have:C1 (C0 a) o.dst v t=C0 a t:=by
     cases hd:o.dst with
     | none=>rfl
     | some d=>exact upd_ne _ _ (fun e=>h1 (by rw[hd,e]))
    rw[this];exact inv.last j hj o' t c' ho' hd' hN hc' fun k hk'=>hmax k (List.mem_cons_of_mem _ hk')
  ·refine⟨fun x=>if x∈V.w i then i+1 else p x,fun x=>⟨?_,fun j hj hjl=>?_⟩,?_⟩
   ·show (if x∈V.w i then i+1 else p x)≤V.ops.length
    have:=(hp x).1
    split <;> omega
   ·by_cases hx:x∈V.w i
    ·simp only[hx,if_true]
     by_cases hji:j=i
     ·subst hji;simp
     ·simp only[List.mem_cons,hji,false_or]
      have hpi:p x≤i:=Nat.le_of_not_lt fun h=>hni (((hp x).2 i hx hil).2 h)
      rw[(hp x).2 j hj hjl];constructor
      ·intro h;omega
      ·intro h;refine((hp x).2 j hj hjl).1 ?_
       have hoj:V.ops[j]? = some V.ops[j]:=List.getElem?_eq_getElem hjl
       rcases k4 j _ (by omega) hoj with h'|h'
       ·exact absurd (DW h'.2 hj (kw x hx)) id
       ·rcases List.mem_cons.1 (hanc j h') with h'|h'
        ·omega
        ·exact h'
    ·have hji:j≠i:=fun e=>hx (e ▸ hj)
     simp only[hx,if_false,List.mem_cons,hji,false_or]
     exact(hp x).2 j hj hjl
   ·refine Wd.perm ?_ (List.Perm.append_left V.K (hfm _)).symm
    have e1:cellsOf V (V.t i) (Mt.nxt V i (G9 V V.ops cs 0 st0 i) c) (C1 (C0 a) o.dst v)=(V.t i).flatMap fun x=>(G9 V V.ops cs 0 st0 (if x∈V.w i then i+1 else p x)).M x (D9 (V.s x) (C0 (a.put o.dst v)) C8):=E7 fun x hx=>by
     rw[hput];by_cases hxw:x∈V.w i
     ·simp only[hxw,if_true]
      rw[O1 ho hci,Nat.zero_add];rfl
     ·simp only[hxw,if_false,Mt.nxt]
      rw[←htc x hx];simp[hxw]
    have e2:(rest.flatMap fun x=>(G9 V V.ops cs 0 st0 (p x)).M x (D9 (V.s x) (C0 a) C8))=rest.flatMap fun x=>(G9 V V.ops cs 0 st0 (if x∈V.w i then i+1 else p x)).M x (D9 (V.s x) (C0 (a.put o.dst v)) C8):=E7 fun x hx=>by
     have hxt:x∉V.t i:=by have:=(List.mem_filter.1 hx).2;simpa using this
     have hxw:x∉V.w i:=fun h=>hxt (kw x h)
     simp only[hxw,if_false]
     rw[hput];congr 1
     refine AC fun t ht=>?_
     cases hd:o.dst with
     | none=>rfl
     | some d=>exact(upd_ne _ _ (fun e=>hxw (ks d x hd (by subst e;exact ht)))).symm
    rw[←e1,←e2];exact hwd'
 have hwant:Region.wanted o (yielded V.ops.toArray a.tmps)=P0 V.ops o (D9 V.N (C0 a) (G9 V V.ops cs 0 st0 i).ρ):=by
  unfold P0;cases hgd:o.guard with
  | none=>simp[Region.wanted,hgd]
  | some q=>
   obtain⟨j,want⟩:=q;obtain⟨dj,hdj⟩:=k3 j want hgd
   have hdn:dj<V.n:=by
    cases hoj:V.ops[j]? with
    | none=>simp[hoj]at hdj
    | some oj=>simp[hoj]at hdj;exact G2 ((L6 hk hoj).2.2.2.1) dj hdj
   simp only[hdj]
   rw[←hlook dj (List.mem_append_right _ (by simp only[hgd];simpa using hdj))]
   exact V8 o V.ops.toArray a j want hgd dj (by simpa using hdj) (by rw[inv.size];exact hdn)
 unfold wpOp;simp only[hoa,hwant]
 have hsel:Y4 o=true:=by
  unfold Y4;split
  ·rename_i h;exact absurd h (k2 _ _)
  ·rfl
 cases hwt:P0 V.ops o (D9 V.N (C0 a) (G9 V V.ops cs 0 st0 i).ρ) with
 | true=>
  simp only[if_true]
  have hst:=(hrun.1 hwt).congr (ops:=V.ops) hsel hlook
  exact .inl (S1.wp hst (fun v w' ⟨Γ'',h1,h2,h3⟩=>⟨_,_,next v w' Γ'' h1 h3 h2,by simp⟩) fun ch w h=>hPP ch a w inv.defers inv.size h)
 | false=>
  obtain⟨h1,h2⟩:=hrun.2 hwt
  exact⟨_,_,next undef w Γ' (V.rl_refl _) h2 h1,by simp⟩
theorem MInv.finE(hc:M5 PP V Q 0 V.ops cs st0)(inv:MInv V st0 cs listed a w done Γ')(hall:∀i,i<V.ops.length→i∈done):Q (C0 a) w:=by
 have hfin:=hc.final
 obtain⟨p,hp,hwd⟩:=inv.wd;have hρ:C0 a=D9 V.N (C0 a) (G9 V V.ops cs 0 st0 V.ops.length).ρ:=by
  funext t
  by_cases hN:t∈V.N
  ·rw[I0 hN]
  ·rw[Be hN];exact inv.sat_atE hc hN (Nat.le_refl _) (fun j hj _ _ _=>hall j hj) (fun j hj _ _ _=>inv.lt j hj)
 rw[hρ];refine hfin Γ' w (C0 a) inv.le ?_
 have:cellsOf V (List.range V.stab.length) (G9 V V.ops cs 0 st0 V.ops.length).M (C0 a)=(List.range V.stab.length).flatMap fun x=>(G9 V V.ops cs 0 st0 (p x)).M x (D9 (V.s x) (C0 a) C8):=E7 fun x _=>by
  have:=AL hc (p:=p x) (x:=x) (V.ops.length-p x) (by have:=(hp x).1;omega) (fun j h1 h2 hj=>by
   have hjl:j<V.ops.length:=by have:=(hp x).1;omega
   have:=((hp x).2 j hj hjl).1 (hall j hjl)
   omega)
  rw[show p x+(V.ops.length-p x)=V.ops.length from by have:=(hp x).1;omega]at this
  rw[this]
 rw[this];exact hwd
theorem MInv.anyE{QQ:Exit→Fr→World→Prop}(hc:M5 PP V (fun ρ w=>QQ .normal ρ w) 0 V.ops cs st0)(hk:M1 V.n V.ops V.wr V.tc V.stab=true)(hPP:∀ch ρ w,PP ch w→QQ (.panic ch) ρ w) :
  ∀(fuel:Nat) (listed:Array Bool) (a:Act) (w:World) (done:List Nat) (Γ':B5),MInv V st0 cs listed a w done Γ'→fuel+done.length=V.ops.length→wpAny V.P .any V.ops.toArray (lift V.n QQ) fuel listed a w
 | 0,listed,a,w,done,Γ',inv,hf=>by
  have hall:∀i,i<V.ops.length→i∈done:=by
   intro i hi;refine Classical.byContradiction fun hn=>?_
   have:=BS V.ops.length (i::done) (List.nodup_cons.2 ⟨hn,inv.nd⟩) (fun x hx=>by
    rcases List.mem_cons.1 hx with rfl|hx
    ·exact hi
    ·exact inv.lt x hx)
   simp at this;omega
  refine⟨?_,inv.defers,inv.size,inv.finE hc hall⟩
  refine List.eq_nil_iff_forall_not_mem.2 fun i hi=>?_
  obtain⟨hun,o,ho,_⟩:=mem_ready.1 hi
  have hil:i<V.ops.length:=by have:=(Array.getElem?_eq_some_iff.1 ho).1;simpa using this
  rw[(inv.ls i hil).2 (hall i hil)]at hun;cases hun
 | fuel+1,listed,a,w,done,Γ',inv,hf=>by
  refine⟨fun h=>⟨inv.defers,inv.size,inv.finE hc (W5 hk inv h)⟩,fun i hi=>?_⟩
  refine wpOp_mono ?_ (inv.stepE hc hk (fun ch a w h1 h2 h=>⟨h1,h2,hPP ch _ w h⟩) hi).1
  rintro a' w' ⟨done',Γ'',inv',hl⟩
  exact MInv.anyE hc hk hPP fuel _ a' w' done' Γ'' inv' (by omega)
end
end
theorem NG{PP:List PanicEntry→World→Prop}{P:Program}{n id:Nat}{l:List Oper}{Q:Exit→Fr→World→Prop}{ρ:Fr}{w:World}{Γ:B5}(K:List B1)(M:Nat→Fr→List B1)(wr tc stab:List (List Nat))(fixed:Bool)(hm:P.follows .mixedOrders=true)
  (hk:M1 n l wr tc stab=true) (hPP:∀ch ρ w,PP ch w→Q (.panic ch) ρ w) (hw:Wd Γ (K++cellsOf ⟨P,n,l,Γ,K,wr,tc,stab,fixed⟩ (List.range stab.length) M ρ) w) (h:MSwE PP ⟨P,n,l,Γ,K,wr,tc,stab,fixed⟩ (fun ρ w=>Q .normal ρ w) 0 l ⟨ρ,M⟩):W P n (.region id l.toArray true) Q ρ w:=by
 unfold W;intro a hda hs hf;refine wp_region_any hm ?_
 obtain⟨cs,hc⟩:=h.chain;have inv:MInv ⟨P,n,l,Γ,K,wr,tc,stab,fixed⟩ ⟨ρ,M⟩ cs (Array.replicate l.toArray.size false) a { w with drawn:=w.drawn+1 } [] Γ:=by
  refine⟨hda,hs,by simp,by simp,by simp,fun i hi=>?_,fun _ _ _ h=>by simp at h,O8.rl_refl _,fun t _ _=>by rw[hf],by simp,fun _=>0,fun x=>⟨Nat.zero_le _,by simp⟩,?_⟩
  ·have:i<l.length:=hi
   simp[this]
  ·simp only[l5,hf]
   exact hw.drawn
 exact MInv.anyE hc hk hPP _ _ a _ [] Γ inv (by simp)
section
variable {PP:List PanicEntry→World→Prop}{V:O8}{Q:Fr→World→Prop}
end
end Mk
end
