/- Texts of this proof, one behind another. -/
import Derived.Test.YthgighljhoneeaaGreatQ3
import Derived.Test.YthgighljhoneeaaGreatQ2
import Derived.Shelf.SlLaysF0
set_option linter.unusedVariables false
set_option linter.unusedSimpArgs false
section
open Go Mk
namespace Go.Proofs.YthgighljhoneeaaGreat
def pairsL:List Nat→List (Nat×Nat)
 | v::u::l=>(u,v)::pairsL (u::l)
 | _=>[]
def moveL(V:Nat→Nat→Int):List Nat→List Int→List Int
 | v::u::l,x=>moveL V (u::l) (if 0≤V u v then x.set (V u v).toNat v else x)
 | _,x=>x
theorem ite_pair{a b c d:Nat}:(if ((a,b) == (c,d))=true then 1 else 0:Nat)=if a=c∧b=d then 1 else 0:=by
 by_cases h:a=c∧b=d
 ·rw[if_pos h,if_pos (by rw[h.1,h.2];exact beq_self_eq_true _)]
 ·rw[if_neg h,if_neg fun e=>h (by have:=eq_of_beq e;exact⟨congrArg Prod.fst this,congrArg Prod.snd this⟩)]
theorem count_set{v w:Int}:∀ {x:List Int} {d:Nat},d<x.length→(x.set d v).count w+(if atI x d=w then 1 else 0)=x.count w+(if v=w then 1 else 0)
 | [],_,h=>by simp at h
 | b::x,0,_=>by
  simp only[List.set_cons_zero,List.count_cons,atI,List.getD_cons_zero,beq_iff_eq]
  split <;> split <;> omega
 | b::x,d+1,h=>by
  have ih:=count_set (v:=v) (w:=w) (x:=x) (d:=d) (by simpa using h)
  simp only[List.set_cons_succ,List.count_cons,beq_iff_eq]
  have e:atI (b::x) (d+1)=atI x d:=by unfold atI;simp
  rw[e];omega
theorem pairs_count{l:List Nat}{w n:Nat}:(pairsL l).count (w,n)≤l.count n:=by
 induction l with
 | nil=>simp[pairsL]
 | cons v l ih=>
  cases l with
  | nil=>simp[pairsL]
  | cons u l=>
   rw[pairsL,List.count_cons,List.count_cons (a:=n) (b:=v),ite_pair];by_cases e:v=n
   ·rw[if_pos (show (v == n)=true by simpa using e)];split <;> omega
   ·rw[if_neg (show ¬(v == n)=true by simpa using e),if_neg (fun h=>e h.2)];omega
section
variable {n cap first s:Nat}{a:Nat→Int→Int}{x0:List Int}{W V:Nat→Nat→Int}{D R:Nat→Int}{φ:Nat→Int}
theorem Bk.head{v:Nat}{l:List Nat}(h:Bk n W D R s v l):∃t,l=v::t:=by cases h <;> exact⟨_,rfl⟩
theorem move_ok(hg:GOk n cap first a x0 W V){v:Nat}{l:List Nat}(h:Bk n W D R s v l):∀x:List Int,x.length=x0.length→(∀d,d<x0.length→(∃u∈l.tail,atI x0 d=(u:Nat))→atI x d=atI x0 d) →
  (moveL V l x).length=x0.length ∧
  (∀i,atI (moveL V l x) i=atI x i∨∃p∈pairsL l,p.1<n∧p.2<n∧V p.1 p.2=i∧first≤i∧i<x0.length∧atI x0 i=(p.1:Nat)∧W p.1 p.2=a i p.2-a i p.1∧atI (moveL V l x) i=(p.2:Nat)) ∧
  (∀w:Nat,w<n→(moveL V l x).count (w:Int)+(if w=s then 1 else 0)+(pairsL l).count (n,w)=x.count (w:Int)+(if w=v then 1 else 0)+(pairsL l).count (w,n)):=by
 have nd:=h.nodup
 induction h with
 | nil=>intro x hl _;exact⟨by simpa[moveL] using hl,fun i=>.inl rfl,fun w _=>by simp[moveL,pairsL]⟩
 | @cons u v l h1 h2 h3 h4 h5 h6 h7 h8 ih=>
  intro x hl hag;obtain⟨t,rfl⟩:=h8.head;have nd2:=(List.nodup_cons.1 nd).2
  have nd3:=(List.nodup_cons.1 nd2).1
  rw[pairsL];rcases hg.real u v h2 h3 h5 with⟨g1,g2,g3,g4,g5⟩|⟨g1,g2,g3,g4,g5⟩|⟨g1,g2,g3,d,g4,g5,g6,g7,g8⟩
  ·have e:moveL V (v::u::t) x=moveL V (u::t) x:=by rw[moveL,g5,if_neg (by omega)]
   rw[e];obtain⟨k1,k2,k3⟩:=ih nd2 x hl fun d hd ⟨z,hz,hh⟩=>hag d hd ⟨z,by simp at hz ⊢;exact .inr hz,hh⟩
   refine⟨k1,fun i=>(k2 i).imp id fun⟨p,hp,hh⟩=>⟨p,List.mem_cons_of_mem _ hp,hh⟩,fun w hw=>?_⟩
   have:=k3 w hw
   rw[List.count_cons,List.count_cons];rw[ite_pair,ite_pair,if_neg (show ¬w=v by omega),if_neg (show ¬(u=n∧v=w) by omega)]
   by_cases e:w=u
   ·rw[if_pos e]at this;rw[if_pos (show u=w∧v=n by omega)];omega
   ·rw[if_neg e]at this;rw[if_neg (show ¬(u=w∧v=n) by omega)];omega
  ·have e:moveL V (v::u::t) x=moveL V (u::t) x:=by rw[moveL,g5,if_neg (by omega)]
   rw[e];obtain⟨k1,k2,k3⟩:=ih nd2 x hl fun d hd ⟨z,hz,hh⟩=>hag d hd ⟨z,by simp at hz ⊢;exact .inr hz,hh⟩
   refine⟨k1,fun i=>(k2 i).imp id fun⟨p,hp,hh⟩=>⟨p,List.mem_cons_of_mem _ hp,hh⟩,fun w hw=>?_⟩
   have:=k3 w hw
   rw[List.count_cons,List.count_cons];rw[if_neg (show ¬w=u by omega)]at this
   rw[ite_pair,ite_pair,if_neg (show ¬(u=w∧v=n) by omega)]
   by_cases e:w=v
   ·rw[if_pos e,if_pos (show u=n∧v=w by omega)];omega
   ·rw[if_neg e,if_neg (show ¬(u=n∧v=w) by omega)];omega
  ·have e:moveL V (v::u::t) x=moveL V (u::t) (x.set d v):=by rw[moveL,g6,if_pos (by omega)];rfl
   rw[e];have hxd:atI x d=atI x0 d:=hag d g5 ⟨u,by simp,g7⟩
   obtain⟨k1,k2,k3⟩:=ih nd2 (x.set d v) (by simpa using hl) fun d' hd ⟨z,hz,hh⟩=>by
    rw[atI_set (by omega)]
    have hne:d'≠d:=fun e=>by
     subst e;rw[g7]at hh;have:u=z:=by omega
     subst this;exact nd3 (by simpa using hz)
    rw[if_neg hne];exact hag d' hd ⟨z,by simp at hz ⊢;exact .inr hz,hh⟩
   refine⟨k1,fun i=>?_,fun w hw=>?_⟩
   ·rcases k2 i with k|⟨p,hp,hh⟩
    ·rw[atI_set (by omega)]at k
     by_cases e:i=d
     ·subst e;rw[if_pos rfl]at k;exact .inr ⟨(u,v),by simp,g1,g2,g6,g4,g5,g7,g8,k⟩
     ·rw[if_neg e]at k;exact .inl k
    ·exact .inr ⟨p,List.mem_cons_of_mem _ hp,hh⟩
   ·have:=k3 w hw
    have hc:=count_set (v:=(v:Int)) (w:=(w:Int)) (x:=x) (d:=d) (by omega)
    rw[hxd,g7]at hc;rw[List.count_cons,List.count_cons];rw[ite_pair,ite_pair,if_neg (show ¬(u=n∧v=w) by omega),if_neg (show ¬(u=w∧v=n) by omega)]
    by_cases e1:w=u <;> by_cases e2:w=v
    ·omega
    ·rw[if_pos e1]at this;rw[if_neg e2];rw[if_pos (by omega),if_neg (by omega)]at hc;omega
    ·rw[if_neg e1]at this;rw[if_pos e2];rw[if_neg (by omega),if_pos (by omega)]at hc;omega
    ·rw[if_neg e1]at this;rw[if_neg e2];rw[if_neg (by omega),if_neg (by omega)]at hc;omega
theorem Bk.tight(hφ:PotG n W φ){v:Nat}{l:List Nat}(h:Bk n W D R s v l)(hs:D s=0)(hv:D v≤φ v-φ s):∀p∈pairsL l,p.1≤n∧p.2≤n∧W p.1 p.2<farV∧φ p.2=φ p.1+W p.1 p.2:=by
 have key:∀ {v l},Bk n W D R s v l→φ v-φ s≤D v:=fun {v l} hb=>by
  induction hb with
  | nil=>omega
  | @cons u v l h1 h2 h3 h4 h5 h6 h7 h8 ih=>have:=hφ u v h2 h3 h5;omega
 induction h with
 | nil=>intro p hp;simp[pairsL]at hp
 | @cons u v l h1 h2 h3 h4 h5 h6 h7 h8 ih=>
  have k1:=hφ u v h2 h3 h5
  have k2:=key h8
  intro p hp;obtain⟨t,rfl⟩:=h8.head;rcases List.mem_cons.1 hp with rfl|hp
  ·exact⟨h2,h3,h5,by show φ v=φ u+W u v;omega⟩
  ·exact ih (by omega) p hp
theorem aug{x:List Int}{π:Int→Int}{c e d:Nat}{l:List Nat}(hA:∀i z:Nat,i<x.length→z<n→0≤a i z∧a i z≤1000000000)(hr:∀i,i<x.length→-1≤atI x i∧atI x i<n)(hcap:∀u:Nat,u<n→x.count (u:Int)≤cap)
  (hg:GOk n cap first a x W V) (hb:Bk n W D R c e l) (hc:c<n) (hdl:d<x.length) (hφ:PotG n W (phiN n π)) (hneg:∀u:Nat,u<n→π u≤0∧-100000000000≤π u)
  (ht:∀p∈pairsL l,p.1≤n∧p.2≤n∧W p.1 p.2<farV∧phiN n π p.2=phiN n π p.1+W p.1 p.2) (he:atI x d=if e<n then (e:Int) else -1) (hd:atI x d = -1∨d<first)
  (hdev:∀z:Nat,z<n→π z≤π c+a d z-a d c) (hold:∀i,i<x.length→i<first→0≤atI x i→∀z:Nat,z<n→π z≤π (atI x i)+a i z-a i (atI x i)):Pot n cap a ((moveL V l x).set d c) π∧((moveL V l x).set d c).length=x.length∧(∀i,i≠d→(atI x i = -1∨i<first)→atI ((moveL V l x).set d c) i=atI x i)∧(∀i,i<x.length→0≤atI x i→0≤atI ((moveL V l x).set d c) i)∧atI ((moveL V l x).set d c) d=c:=by
 obtain⟨k1,k2,k3⟩:=move_ok hg hb x rfl fun _ _ _=>rfl
 generalize moveL V l x=x1 at *
 have hsame:∀i,(atI x i = -1∨i<first)→atI x1 i=atI x i:=fun i hi=>by
  rcases k2 i with h|⟨p,-,-,-,-,g5,-,g7,-⟩
  ·exact h
  ·rcases hi with hi|hi <;> omega
 have hx2:∀i,atI (x1.set d c) i=if i=d then (c:Int) else atI x1 i:=fun i=>atI_set (by omega) i
 have hcnt:∀w:Nat,w<n→(x1.set d c).count (w:Int)+(pairsL l).count (n,w)=x.count (w:Int)+(pairsL l).count (w,n):=fun w hw=>by
  have h1:=k3 w hw
  have h2:=count_set (v:=(c:Int)) (w:=(w:Int)) (x:=x1) (d:=d) (by omega)
  rw[hsame d hd,he]at h2;by_cases e1:w=c <;> by_cases e2:w=e
  ·rw[if_pos e1,if_pos e2]at h1;rw[if_pos (show e<n by omega),if_pos (by omega),if_pos (by omega)]at h2;omega
  ·rw[if_pos e1,if_neg e2]at h1;rw[if_neg (show ¬(if e<n then (e:Int) else -1)=(w:Int) by split <;> omega),if_pos (by omega)]at h2;omega
  ·rw[if_neg e1,if_pos e2]at h1;rw[if_pos (show e<n by omega),if_pos (by omega),if_neg (by omega)]at h2;omega
  ·rw[if_neg e1,if_neg e2]at h1;rw[if_neg (show ¬(if e<n then (e:Int) else -1)=(w:Int) by split <;> omega),if_neg (by omega)]at h2;omega
 have hone:∀w,(pairsL l).count (w,n)≤1:=fun w=>Nat.le_trans pairs_count (List.nodup_iff_count.1 hb.nodup n)
 have hout:∀w,w<n→0<(pairsL l).count (w,n)→π w=0∧x.count (w:Int)<cap:=fun w hw hp=>by
  have hm:=List.count_pos_iff.1 hp
  obtain⟨g1,g2,g3,g4⟩:=ht _ hm
  rcases hg.real _ _ g1 g2 g3 with⟨q1,q2,q3,q4,-⟩|⟨q1,-⟩|⟨-,q2,-⟩
  ·simp only[phiN]at g4
   rw[if_neg (Nat.lt_irrefl n),if_pos hw,q4]at g4;exact⟨by omega,q3⟩
  ·simp at q1;omega
  ·simp at q2
 have hin:∀w,w<n→0<(pairsL l).count (n,w)→π w=0:=fun w hw hp=>by
  have hm:=List.count_pos_iff.1 hp
  obtain⟨g1,g2,g3,g4⟩:=ht _ hm
  rcases hg.real _ _ g1 g2 g3 with⟨q1,-⟩|⟨q1,q2,q3,q4,-⟩|⟨q1,-⟩
  ·simp at q1
  ·simp only[phiN]at g4
   rw[if_neg (Nat.lt_irrefl n),if_pos hw,q4]at g4;omega
  ·simp at q1
 have hroom:∀w,w<n→x.count (w:Int)<cap→π w=0:=fun w hw hlt=>by
  have h1:=hg.out w hw hlt
  have h2:=hφ w n (by omega) (Nat.le_refl n) (by unfold farV;omega)
  have h3:=(hneg w hw).1
  simp only[phiN]at h2
  rw[if_neg (Nat.lt_irrefl n),if_pos hw]at h2;omega
 refine⟨⟨fun i hi=>?_,fun u hu=>(hneg u hu).1,fun u hu=>(hneg u hu).2,fun i hi h0 z hz=>?_,fun w hw hlt=>?_,fun w hw=>?_⟩,by simpa using k1,fun i hi hh=>?_,fun i hi h0=>?_,?_⟩
 ·rw[hx2];split
  ·omega
  ·rcases k2 i with h|⟨p,-,-,g2,-,-,-,-,-,g8⟩
   ·rw[h];exact hr i (by simp[k1]at hi;omega)
   ·rw[g8];omega
 ·have hi:i<x.length:=by simp[k1]at hi;exact hi
  rw[hx2]at h0 ⊢
  split
  ·rename_i e;subst e;exact hdev z hz
  ·rename_i e
   rw[if_neg e]at h0;rcases k2 i with h|⟨p,hp,g1,g2,g3,g4,g5,g6,g7,g8⟩
   ·rw[h]at h0 ⊢
    have hri:=hr i hi
    obtain⟨u,hu⟩:∃u:Nat,atI x i=u:=⟨(atI x i).toNat,by omega⟩
    rw[hu]at h0 hri ⊢
    by_cases euz:u=z
    ·subst euz;omega
    by_cases hif:first≤i
    ·have hW:=hg.dev i u z hif hi hu (by omega) hz euz
     have b1:=hA i z hi hz
     have b2:=hA i u hi (by omega)
     have:=hφ u z (by omega) (by omega) (by unfold farV;omega)
     simp only[phiN]at this
     rw[if_pos hz,if_pos (by omega)]at this
     omega
    ·have:=hold i hi (by omega) (by omega) z hz;rw[hu]at this;exact this
   ·rw[g8];obtain⟨q1,q2,q3,q4⟩:=ht p hp
    simp only[phiN]at q4
    rw[if_pos g2,if_pos g1]at q4;by_cases euz:p.1=z
    ·subst euz;omega
    have hW:=hg.dev i p.1 z g4 hi g6 g1 hz euz
    have b1:=hA i z hi hz
    have b2:=hA i p.1 hi g1
    have:=hφ p.1 z q1 (by omega) (by unfold farV;omega)
    simp only[phiN]at this
    rw[if_pos hz,if_pos g1]at this;omega
 ·have h1:=hcnt w hw
  by_cases e1:0<(pairsL l).count (w,n)
  ·exact(hout w hw e1).1
  by_cases e2:0<(pairsL l).count (n,w)
  ·exact hin w hw e2
  exact hroom w hw (by omega)
 ·have h1:=hcnt w hw
  have h2:=hone w
  by_cases e1:0<(pairsL l).count (w,n)
  ·have:=(hout w hw e1).2;omega
  have:=hcap w hw
  omega
 ·rw[hx2,if_neg hi];exact hsame i hh
 ·rw[hx2];split
  ·omega
  ·rcases k2 i with h|⟨p,-,-,-,-,-,-,-,-,g8⟩
   ·rw[h];exact h0
   ·rw[g8];omega
 ·rw[hx2,if_pos rfl]
end
section
variable {n cap first s:Nat}{a:Nat→Int→Int}{x:List Int}{W V:Nat→Nat→Int}{D R:Nat→Int}{φ:Nat→Int}
theorem PathsOk.low(h:PathsOk n W s D R)(hφ:PotG n W φ){v:Nat}(hv:v≤n)(hf:D v<farV):φ v-φ s≤D v:=by
 obtain⟨l,hb⟩:=h.back v hv hf
 have h0:=h.src
 clear hf hv;induction hb with
 | nil=>omega
 | @cons u v l h1 h2 h3 h4 h5 h6 h7 h8 ih=>have:=hφ u v h2 h3 h5;omega
def WB(n:Nat)(W:Nat→Nat→Int):Prop:=∀u v,u≤n→v≤n→W u v<farV→-1000000000≤W u v∧W u v≤1000000000
theorem GOk.wb(hA:∀i z:Nat,i<x.length→z<n→0≤a i z∧a i z≤1000000000)(hg:GOk n cap first a x W V):WB n W:=fun u v hu hv hw=>by
 rcases hg.real u v hu hv hw with⟨-,-,-,h,-⟩|⟨-,-,-,h,-⟩|⟨h1,h2,-,d,-,h5,-,-,h8⟩
 ·omega
 ·omega
 ·have:=hA d v h5 h2
  have:=hA d u h5 h1
  omega
theorem PathsOk.ub(h:PathsOk n W s D R)(hW:WB n W){v:Nat}{l:List Nat}(hb:Bk n W D R s v l):D v≤((l.length:Int)-1)*1000000000:=by
 induction hb with
 | nil=>have:=h.src;simp;omega
 | @cons u v l h1 h2 h3 h4 h5 h6 h7 h8 ih=>
  have:=h.tri u v h2 h3 h6 h5
  have:=hW u v h2 h3 h5
  simp only[List.length_cons]
  push_cast
  omega
theorem nodup_len:∀(m:Nat) (l:List Nat),l.Nodup→(∀x∈l,x<m)→l.length≤m
 | 0,l,_,h=>by
  cases l with
  | nil=>simp
  | cons x l=>have:=h x (by simp);omega
 | m+1,l,hd,h=>by
  have h1:=nodup_len m (l.filter fun x=>!decide (x=m)) (hd.filter _) fun x hx=>by
   have:=List.mem_filter.1 hx
   have h2:=h x this.1
   have h3:x≠m:=by simpa using this.2
   omega
  have h2:l.length=(l.filter fun x=>!decide (x=m)).length+l.count m:=by
   have:=List.length_eq_countP_add_countP (fun x=>decide (x=m)) (l:=l)
   rw[List.countP_eq_length_filter (p:=fun x=>decide ¬(decide (x=m)=true)) ]at this;have e1:l.countP (fun x=>decide (x=m))=l.count m:=by rw[List.count];congr 1
   rw[e1]at this;simp only[decide_eq_true_eq,decide_not]at this
   omega
  have h3:=List.nodup_iff_count.1 hd m
  omega
theorem PathsOk.small(h:PathsOk n W s D R)(hW:WB n W)(hs:s≤n){v:Nat}(hv:v≤n)(hf:D v<farV):D v≤n*1000000000:=by
 obtain⟨l,hb⟩:=h.back v hv hf
 have h1:=h.ub hW hb
 have h2:=nodup_len (n+1) l hb.nodup fun z hz=>by have:=hb.le hs z hz;omega
 omega
theorem PathsOk.step{n u v z:Nat}{Du Ru Dv Rv:Nat→Int}(hn:n≤64)(hW:WB n W)(h1:PathsOk n W u Du Ru)(h2:PathsOk n W v Dv Rv)(hu:u≤n)(hv:v≤n)(hz:z≤n)(hw:W u v<farV)(hf:Dv z<farV):Du z≤W u v+Dv z:=by
 obtain⟨l,hb⟩:=h2.back z hz hf
 have hwb:=hW u v hu hv hw
 have key:∀ {z l},Bk n W Dv Rv v z l→z≤n→Dv z<farV→Du z≤W u v+Dv z:=fun {z l} hb=>by
  induction hb with
  | nil=>
   intro _ _;have:=h1.tri u v hu hv (by rw[h1.src];unfold farV;omega) hw
   rw[h1.src]at this;rw[h2.src];omega
  | @cons p q l g1 g2 g3 g4 g5 g6 g7 g8 ih=>
   intro _ _;have:=ih g2 g6
   have:=h2.small hW hv g2 g6
   have:=h1.tri p q g2 g3 (by unfold farV;omega) g5
   omega
 exact key hb hz hf
theorem count_filter:∀(x:List Int),sumZ (fun u=>(x.count (u:Int):Int)) n=((x.filter fun v:Int=>decide (0≤v∧v<(n:Int))).length:Int)
 | []=>by simp[sumZ_zero]
 | v::x=>by
  have e:sumZ (fun u=>(((v::x).count (u:Int):Nat):Int)) n=sumZ (fun u=>((x.count (u:Int):Nat):Int)+if (u:Int)=v then 1 else 0) n:=sumZ_congr fun u hu=>by
   rw[List.count_cons];by_cases e:v=(u:Int)
   ·rw[if_pos (by simpa using e),if_pos e.symm];push_cast;rfl
   ·rw[if_neg (by simpa using e),if_neg (fun h=>e h.symm)];simp
  rw[e,sumZ_add,count_filter x];by_cases h:0≤v∧v<n
  ·rw[List.filter_cons_of_pos (by simpa using h),List.length_cons]
   have:sumZ (fun u=>if (u:Int)=v then 1 else 0) n=1:=by
    rw[sumZ_congr (g:=fun u=>if u=v.toNat then 1 else 0) fun u hu=>by
     by_cases e:(u:Int)=v
     ·rw[if_pos e,if_pos (by omega)]
     ·rw[if_neg e,if_neg (by omega)]]
    exact sumZ_one (by omega)
   rw[this];push_cast;rfl
  ·rw[List.filter_cons_of_neg (by simpa using h)]
   have:sumZ (fun u=>if (u:Int)=v then 1 else 0) n=0:=by
    rw[sumZ_congr (g:=fun _=>0) fun u hu=>if_neg (by omega)];exact sumZ_zero
   rw[this];omega
theorem has_room{d:Nat}(hd:∀i,d≤i→atI x i = -1)(hlt:d<n*cap):∃u,u<n∧x.count (u:Int)<cap:=by
 refine Classical.byContradiction fun hno=>?_
 have h1:∀u,u<n→(cap:Int)≤(x.count (u:Int):Int):=fun u hu=>by
  rcases Nat.lt_or_ge (x.count (u:Int)) cap with h|h
  ·exact absurd ⟨u,hu,h⟩ hno
  ·omega
 have h2:=sumZ_le (f:=fun _=>(cap:Int)) (g:=fun u=>(x.count (u:Int):Int)) (k:=n) fun i hi=>h1 i hi
 have h3:sumZ (fun _=>(cap:Int)) n=n*cap:=by
  have:∀m:Nat,sumZ (fun _=>(cap:Int)) m=m*cap:=fun m=>by
   induction m with
   | zero=>simp[sumZ]
   | succ m ih=>simp only[sumZ];rw[ih];push_cast;rw[Int.add_mul];omega
  exact this n
 rw[h3,count_filter]at h2;have h4:x=x.take d++x.drop d:=(List.take_append_drop d x).symm
 have h5:(x.drop d).filter (fun v:Int=>decide (0≤v∧v<(n:Int)))=[]:=by
  rw[List.filter_eq_nil_iff];intro v hv;obtain⟨k,hk,rfl⟩:=List.getElem_of_mem hv
  rw[List.getElem_drop];have:=hd (d+k) (by omega)
  unfold atI at this;simp at hk
  rw[List.getD_eq_getElem?_getD,List.getElem?_eq_getElem (by omega)]at this
  simp at this ⊢
  omega
 rw[h4,List.filter_append,h5,List.append_nil]at h2;have h6:=List.length_filter_le (fun v:Int=>decide (0≤v∧v<(n:Int))) (x.take d)
 have h7:=List.length_take_le d x
 have h8:(n:Int)*cap=((n*cap:Nat):Int):=by push_cast;rfl
 omega
theorem place_next{π:Int→Int}{F:Nat→Nat→Int}{Rc:Nat→Int}{c d:Nat}(hn:n≤64)(hcap:0<cap)(hA:∀i z:Nat,i<x.length→z<n→0≤a i z∧a i z≤1000000000)(hp:Pot n cap a x π)(hg:GOk n cap 0 a x W V)
  (hd:d<x.length) (hpre:∀i,i<d→0≤atI x i) (hpost:∀i,d≤i→atI x i = -1) (hlt:d<n*cap) (hF:∀u,u<n→∃R,PathsOk n W u (F u) R) (hc:c<n) (hR:PathsOk n W c (F c) Rc) (hmin:∀u,u<n→F u n<farV→F c n+a d c≤F u n+a d u) :
  ∃l,Bk n W (F c) Rc c n l∧(∃π',Pot n cap a ((moveL V l x).set d c) π')∧((moveL V l x).set d c).length=x.length∧(∀i,d<i→atI ((moveL V l x).set d c) i = -1)∧(∀i,i≤d→0≤atI ((moveL V l x).set d c) i):=by
 have hW:=hg.wb hA
 obtain⟨v,hv,hvr⟩:=has_room (x:=x) hpost hlt
 have hvn:=hg.out v hv hvr
 have hvf:F v n≤0:=by
  obtain⟨R,hP⟩:=hF v hv
  have:=hP.tri v n (by omega) (Nat.le_refl n) (by rw[hP.src];unfold farV;omega) (by unfold farV;omega)
  rw[hP.src]at this;omega
 have hfin:∀u,u<n→F u n<farV:=fun u hu=>by
  obtain⟨R,hP⟩:=hF u hu
  by_cases h:x.count (u:Int)<cap
  ·have h1:=hg.out u hu h
   have:=hP.tri u n (by omega) (Nat.le_refl n) (by rw[hP.src];unfold farV;omega) (by unfold farV;omega)
   rw[hP.src]at this;unfold farV;omega
  ·have hpos:0<x.count (u:Int):=by omega
   have hm:=List.count_pos_iff.1 hpos
   obtain⟨i,hi,he⟩:=List.getElem_of_mem hm
   have hai:atI x i=(u:Int):=by unfold atI;rw[List.getD_eq_getElem?_getD,List.getElem?_eq_getElem hi];simpa using he
   have huv:u≠v:=fun e=>by subst e;omega
   have hw:=hg.dev i u v (by omega) hi hai hu hv huv
   have b1:=hA i v hi hv
   have b2:=hA i u hi hu
   obtain⟨R',hP'⟩:=hF v hv
   have:=PathsOk.step hn hW hP hP' (by omega) (by omega) (Nat.le_refl n) (by unfold farV;omega) (by unfold farV;omega)
   unfold farV;omega
 have hnn:∀u,u<n→0≤F u n:=fun u hu=>by
  obtain⟨R,hP⟩:=hF u hu
  have:=hP.low (hp.graph hg) (Nat.le_refl n) (hfin u hu)
  simp only[phiN]at this
  rw[if_neg (Nat.lt_irrefl n),if_pos hu]at this;have:=hp.neg u hu
  omega
 have hφ:PotG n W (phiN n fun u=>-(F u.toNat n)):=fun u w hu hw hwt=>by
  unfold phiN;by_cases e1:u<n
  ·rw[if_pos e1];obtain⟨R,hP⟩:=hF u e1
   by_cases e2:w<n
   ·rw[if_pos e2];obtain⟨R',hP'⟩:=hF w e2
    have:=PathsOk.step hn hW hP hP' hu hw (Nat.le_refl n) hwt (hfin w e2)
    simp only[Int.toNat_natCast]
    omega
   ·rw[if_neg e2];have hwn:w=n:=by omega
    subst hwn;have:=hP.tri u w hu hw (by rw[hP.src];unfold farV;omega) hwt
    rw[hP.src]at this;simp only[Int.toNat_natCast]
    omega
  ·rw[if_neg e1];by_cases e2:w<n
   ·rw[if_pos e2];rcases hg.real u w hu hw hwt with⟨h1,-⟩|⟨h1,h2,h3,h4,-⟩|⟨h1,-⟩
    ·omega
    ·have:=hnn w e2
     simp only[Int.toNat_natCast]
     omega
    ·omega
   ·rw[if_neg e2];rcases hg.real u w hu hw hwt with⟨h1,-⟩|⟨h1,h2,-⟩|⟨h1,-⟩ <;> omega
 obtain⟨l,hb⟩:=hR.back n (Nat.le_refl n) (hfin c hc)
 have ht:=hb.tight hφ hR.src (by unfold phiN;rw[if_neg (Nat.lt_irrefl n),if_pos hc];simp only[Int.toNat_natCast];omega)
 obtain⟨k1,k2,k3,k4,k5⟩:=aug (d:=d) (cap:=cap) (π:=fun u=>-(F u.toNat n)) hA hp.rng hp.cap hg hb hc hd hφ (fun u hu=>by
   have:=hnn u hu
   obtain⟨R,hP⟩:=hF u hu
   have:=hP.small hW (by omega) (Nat.le_refl n) (hfin u hu)
   simp only[Int.toNat_natCast];omega) ht (by rw[if_neg (Nat.lt_irrefl n)];exact hpost d (Nat.le_refl d)) (.inl (hpost d (Nat.le_refl d)))
  (fun z hz=>by have:=hmin z hz (hfin z hz);simp only[Int.toNat_natCast];omega) (fun i _ h=>by omega)
 refine⟨l,hb,⟨_,k1⟩,k2,fun i hi=>?_,fun i hi=>?_⟩
 ·have:=hpost i (by omega)
  rw[k3 i (by omega) (.inl this)];exact this
 ·by_cases e:i=d
  ·subst e;rw[k5];omega
  ·exact k4 i (by omega) (hpre i (by omega))
theorem Pot.start{N:Nat}:Pot n cap a (List.replicate N (-1)) fun _=>0:=by
 have h:∀i,atI (List.replicate N (-1)) i = -1:=fun i=>by
  unfold atI;rw[List.getD_eq_getElem?_getD,List.getElem?_replicate];split <;> rfl
 have hc:∀u:Nat,(List.replicate N (-1:Int)).count (u:Int)=0:=fun u=>List.count_eq_zero.2 fun hm=>by have:=(List.mem_replicate.1 hm).2;omega
 exact⟨fun i _=>by rw[h];omega,fun _ _=>Int.le_refl _,fun _ _=>by omega,fun i _ h0=>by rw[h]at h0;omega,fun _ _ _=>rfl,fun u _=>by rw[hc];omega⟩
def LexD(n cap:Nat)(a:Nat→Int→Int)(x:List Int)(d:Nat):Prop:=∀y,Full n cap y→y.length=x.length→costA a y=costA a x→∀e,e<d→(∀i,i<e→atI y i=atI x i)→atI x e≤atI y e
theorem sumZ_split{f:Nat→Int}{d:Nat}:∀ {k:Nat},d<k→sumZ f k=f d+sumZ (fun i=>if i=d then 0 else f i) k
 | k,h=>by
  have h1:sumZ f k=sumZ (fun i=>(if i=d then f d else 0)+(if i=d then 0 else f i)) k:=sumZ_congr fun i _=>by
   by_cases e:i=d
   ·subst e;rw[if_pos rfl,if_pos rfl];omega
   ·rw[if_neg e,if_neg e];omega
  rw[h1,sumZ_add,sumZ_one h]
theorem lex_found{y:List Int}{π:Int→Int}{b d:Nat}{old:Nat}(hn:n≤64)(hcap:0<cap)(hA:∀i z:Nat,i<x.length→z<n→0≤a i z∧a i z≤1000000000)(hp:Pot n cap a x π)(hfx:∀v∈x,0≤v∧v<n)(hg:GOk n cap (d+1) a x W V)
  (hd:d<x.length) (hP:PathsOk n W b D R) (hb:b<n) (hold:atI x d=(old:Int)) (ho:old<n) (hy:Full n cap y) (hl:y.length=x.length) (hc:costA a y=costA a x) (hpre:∀i,i<d→atI y i=atI x i) (hyd:atI y d=(b:Int)) :
  D old<farV∧D old+a d b=a d old:=by
 have hW:=hg.wb hA
 have hφ:=hp.graph hg
 have hφn:phiN n π n=0:=by unfold phiN;rw[if_neg (Nat.lt_irrefl n)]
 have hφu:∀u,u<n→phiN n π u=π u:=fun u hu=>by unfold phiN;rw[if_pos hu]
 have hφb:∀u,u≤n→-100000000000≤phiN n π u∧phiN n π u≤0:=fun u hu=>by
  by_cases e:u<n
  ·rw[hφu u e];exact⟨hp.lo u e,hp.neg u e⟩
  ·rw[show u=n by omega,hφn];omega
 obtain⟨p,hpd⟩:∃p:Nat→Int,p=fun u=>if D u<farV then D u else phiN n π u+1000000000000:=⟨_,rfl⟩
 have hpW:∀u v,u≤n→v≤n→W u v<farV→p v≤p u+W u v:=fun u v hu hv hw=>by
  rw[hpd];have h3:=hW u v hu hv hw
  have h4:=hφb u hu
  have h5:=hφ u v hu hv hw
  by_cases e:D u<farV
  ·have h1:=hP.tri u v hu hv e hw
   have h2:=hP.small hW (by omega) hu e
   have:D v<farV:=by unfold farV;omega
   simp only[if_pos e,if_pos this]
   exact h1
  ·simp only[if_neg e]
   split
   ·rename_i e2
    have:=hP.small hW (by omega) hv e2
    omega
   ·omega
 have hpb:p b=0:=by rw[hpd];simp only;rw[hP.src,if_pos (by unfold farV;omega)]
 have hroom:∀u:Nat,u<n→x.count (u:Int)<cap→p n≤p u:=fun u hu h=>by
  have h1:=hg.out u hu h
  have:=hpW u n (by omega) (Nat.le_refl n) (by unfold farV;omega)
  omega
 have hload:∀u:Nat,u<n→0<x.count (u:Int)→p u≤p n:=fun u hu h=>by
  have h1:=hg.inn u hu h
  have:=hpW n u (Nat.le_refl n) (by omega) (by unfold farV;omega)
  omega
 have h1:=dual_sum (p:=fun z=>p z.toNat-p n) hfx hy.rng hl fun u hu=>by
  simp only[Int.toNat_natCast]
  have c1:=hp.cap u hu
  have c2:=hy.cap u hu
  by_cases e1:x.count (u:Int)<cap
  ·by_cases e2:0<x.count (u:Int)
   ·have:=hroom u hu e1
    have:=hload u hu e2
    rw[show p u-p n=0 by omega];simp
   ·have:=hroom u hu e1
    exact Int.mul_nonneg (by omega) (by omega)
  ·have:=hload u hu (by omega)
   exact Int.mul_nonneg_of_nonpos_of_nonpos (by omega) (by omega)
 have h2:sumZ (fun i=>if i=d then 0 else (p (atI y i).toNat-p n)-(p (atI x i).toNat-p n)) x.length≤sumZ (fun i=>if i=d then 0 else a i (atI y i)-a i (atI x i)) x.length:=sumZ_le fun i hi=>by
  by_cases e:i=d
  ·rw[if_pos e,if_pos e];exact Int.le_refl _
  ·rw[if_neg e,if_neg e];by_cases e2:i<d
   ·rw[hpre i e2];omega
   ·have m1:=hfx _ (atI_mem hi)
    have m2:=hy.rng _ (atI_mem (x:=y) (i:=i) (by omega))
    obtain⟨u,hu⟩:∃u:Nat,atI x i=u:=⟨(atI x i).toNat,by omega⟩
    obtain⟨v,hv⟩:∃v:Nat,atI y i=v:=⟨(atI y i).toNat,by omega⟩
    rw[hu]at m1;rw[hv]at m2;rw[hu,hv];simp only[Int.toNat_natCast]
    by_cases e3:u=v
    ·subst e3;omega
    ·have g1:=hg.dev i u v (by omega) hi hu (by omega) (by omega) e3
     have b1:=hA i v hi (by omega)
     have b2:=hA i u hi (by omega)
     have:=hpW u v (by omega) (by omega) (by unfold farV;omega)
     omega
 have h3:=sumZ_split (f:=fun i=>(p (atI y i).toNat-p n)-(p (atI x i).toNat-p n)) hd
 have h4:=sumZ_split (f:=fun i=>a i (atI y i)-a i (atI x i)) hd
 rw[sumZ_sub]at h3 h4
 unfold costA at hc;rw[hl]at hc;simp only[hyd,hold,Int.toNat_natCast]at h3 h4
 have h5:p old≤a d old-a d b:=by
  omega
 have hb1:=hA d old hd ho
 have hb2:=hA d b hd hb
 have hDo:D old<farV:=by
  refine Classical.byContradiction fun hno=>?_
  rw[hpd]at h5;simp only[if_neg hno]at h5
  have:=hφb old (by omega)
  omega
 have h6:D old≤a d old-a d b:=by
  rw[hpd]at h5;simp only[if_pos hDo]at h5;exact h5
 have h7:=hP.low hφ (by omega) hDo
 rw[hφu old ho,hφu b hb]at h7;have h8:=hp.dev d hd (by omega) b hb
 rw[hold]at h8;exact⟨hDo,by omega⟩
theorem lex_step{π:Int→Int}{b d:Nat}{old:Nat}(hA:∀i z:Nat,i<x.length→z<n→0≤a i z∧a i z≤1000000000)(hp:Pot n cap a x π)(hfx:∀v∈x,0≤v∧v<n)(hg:GOk n cap (d+1) a x W V)
  (hd:d<x.length) {Rc:Nat→Int} (hP:PathsOk n W b D Rc) (hb:b<n) (hold:atI x d=(old:Int)) (ho:old<n) (hf:D old<farV) (he:D old+a d b=a d old) :
  ∃l,Bk n W D Rc b old l∧Pot n cap a ((moveL V l x).set d b) π∧((moveL V l x).set d b).length=x.length∧(∀i,i<d→atI ((moveL V l x).set d b) i=atI x i)∧atI ((moveL V l x).set d b) d=b∧(∀v∈(moveL V l x).set d b,0≤v∧v<n):=by
 obtain⟨l,hbk⟩:=hP.back old (by omega) hf
 have hφ:=hp.graph hg
 have h8:=hp.dev d hd (by omega) b hb
 rw[hold]at h8;have ht:=hbk.tight hφ hP.src (by unfold phiN;rw[if_pos ho,if_pos hb];omega)
 have hlow:=hP.low hφ (by omega:old≤n) hf
 unfold phiN at hlow;rw[if_pos ho,if_pos hb]at hlow;obtain⟨k1,k2,k3,k4,k5⟩:=aug (d:=d) (cap:=cap) (π:=π) hA hp.rng hp.cap hg hbk hb hd hφ (fun u hu=>⟨hp.neg u hu,hp.lo u hu⟩) ht (by rw[if_pos ho];exact hold) (.inr (by omega))
  (fun z hz=>by have:=hp.dev d hd (by omega) z hz;rw[hold]at this;omega) (fun i hi _ h0 z hz=>hp.dev i hi h0 z hz)
 refine⟨l,hbk,k1,k2,fun i hi=>k3 i (by omega) (.inr (by omega)),k5,fun v hv=>?_⟩
 obtain⟨i,hi,rfl⟩:=List.getElem_of_mem hv
 have e:∀(q:List Int) (i:Nat) (h:i<q.length),q[i]=atI q i:=fun q i h=>by unfold atI;rw[List.getD_eq_getElem?_getD,List.getElem?_eq_getElem h];rfl
 rw[e];have h1:=k1.rng i hi
 have h2:=k4 i (by omega) (hfx _ (atI_mem (by omega))).1
 omega
structure Best(n cap:Nat)(a:Nat→Int→Int)(x:List Int):Prop where
 full:Full n cap x
 least:∀y,Full n cap y→y.length=x.length→costA a x≤costA a y
 lex:LexD n cap a x x.length
theorem Best.uniq{y:List Int}(h1:Best n cap a x)(h2:Best n cap a y)(hl:y.length=x.length):y=x:=by
 have c1:=h1.least y h2.full hl
 have c2:=h2.least x h1.full hl.symm
 have key:∀e,e≤x.length→∀i,i<e→atI y i=atI x i:=fun e=>by
  induction e with
  | zero=>intro _ i hi;omega
  | succ e ih=>
   intro he i hi;have ih:=ih (by omega)
   by_cases hie:i<e
   ·exact ih i hie
   ·have:i=e:=by omega
    subst this;have:=h1.lex y h2.full hl (by omega) i (by omega) ih
    have:=h2.lex x h1.full hl.symm (by omega) i (by omega) fun j hj=>(ih j hj).symm
    omega
 refine List.ext_getElem hl fun i h3 h4=>?_
 have:=key x.length (Nat.le_refl _) i h4
 unfold atI at this;rw[List.getD_eq_getElem?_getD,List.getElem?_eq_getElem h3,List.getD_eq_getElem?_getD,List.getElem?_eq_getElem h4]at this;exact this
end
end Go.Proofs.YthgighljhoneeaaGreat
end
section
open Go
namespace Mk
section
variable {P:Program}{Γ:Gho}{S:List Res}{w:World}{E n c g i:Nat}{α:Type}[Inhabited α]{f:α→Value}
theorem flatK_one(d:Array α):Go.Sort.flatK (fun x=>[f x]) 1 d=d.map f:=by
 refine Array.ext (by simp) fun i h1 h2=>?_
 have h3:i<d.size*1:=by simpa using h1
 rw[←getElem!_pos _ i h1,Go.Sort.get_flatK _ _ _ _ h3];have h4:i<d.size:=by omega
 have e1:i / 1=i:=Nat.div_one i
 have e2:i%1=0:=Nat.mod_one i
 rw[e1,e2,getElem!_pos d i h4];simp
theorem sortWorld_K1(w:World)(g m:Nat)(dk:Array α)(os:Array Obj):Go.Proofs.sortWorld f w g 0 m dk os=Go.Proofs.sortWorldK (fun x=>[f x]) 1 w g 0 m dk os:=by
 unfold Go.Proofs.sortWorld Go.Proofs.sortWorldK Go.Sort.putRowK Go.Sort.putRow;congr 2
 funext cs
 refine Array.ext (by simp[Go.Sort.putCells]) fun i h1 h2=>?_
 simp only[Go.Sort.putCells,Array.getElem_mapIdx,flatK_one,Array.size_map,Nat.zero_le,Nat.zero_add,true_and,Nat.sub_zero,id]
 by_cases h:i<dk.size
 ·rw[if_pos h,if_pos h,getElem!_pos dk i h,getElem!_pos (dk.map f) i (by simpa using h)];simp
 ·rw[if_neg h,if_neg h]
end
attribute [local irreducible] Calls
section
variable {P:Program}{n:Nat}{ops:List Oper}{Γ:Gho}{K:List Res}{wr tc stab:List (List Nat)}{Q:Fr→World→Prop}{i:Nat}{rest:List Oper}{ρ:Fr}{M:Nat→Fr→List Res}
variable {d:Option Tmp}{ty:TypeId}{pos:String}{es:Array Edge}{f:Nat}{args:List Operand}{tys:Array TypeId}{vs:List Value}{v:Value}
variable {x y:Operand}{T:TypeId}
end
theorem perm_count{α:Type}{l l':List α}(h:∀(_:DecidableEq α) (a:α),l.count a=l'.count a):l.Perm l':=by
 classical
 exact List.perm_iff_count.2 fun a=>h _ a
theorem byPM{l l':List Res}(h:∀(_:DecidableEq Res) (a:Res),l.count a=l'.count a:=by intro _ a;simp only[psL,pullL,List.getElem?_cons_zero,List.getElem?_cons_succ,List.eraseIdx_cons_succ,List.eraseIdx_cons_zero,List.cons_append,List.nil_append,List.count_append,List.count_cons,List.count_nil,List.map_cons,List.map_nil,Nat.add_zero,Nat.zero_add];ac_rfl):l.Perm l':=perm_count h
end Mk
end
section
open Go
namespace Mk
section
variable {P:Program}{n:Nat}{ops:List Oper}{Γ:Gho}{K:List Res}{Q:Fr→World→Prop}{ρ:Fr}{rest:List Oper}{wr tc stab:List (List Nat)}{i:Nat}{M:Nat→Fr→List Res}
variable {ty:TypeId}{pos:String}{es:Array Edge}
end
section
variable {P:Program}{ρ:Fr}{w:World}{d:Option Tmp}{T U ty:TypeId}{pos:String}{es:Array Edge}{x y:Operand}{g:Option (Nat×Bool)}
theorem y_neqlb(hT:P.underlying T=some .bool){a b:Bool}(hx:ev ρ x=.bool a)(hy:ev ρ y=.bool b):Yields P ⟨d,.binOp .neq T x y U,ty,pos,es,g⟩ ρ w (.bool (!(a == b))):=by
 unfold Yields;simp[execOp,go_sem,hx,hy,hT]
end
attribute [local irreducible] Calls
class ImB(Γ:Gho)(b:Nat)(cs:outParam (Array Value))(E:outParam TypeId):Prop where h:Γ.imm b=some (.cells cs E (0,0))
theorem ImB.mono{Γ Γ':Gho}{b:Nat}{cs:Array Value}{E:TypeId}(h:ImB Γ b cs E)(hle:Γ.le Γ'):ImB Γ' b cs E:=⟨hle.imm _ _ h.h⟩
theorem Wd.freezeB{Γ:Gho}{S:List Res}{w:World}{b:Nat}{cs:Array Value}{E:TypeId}(h:Wd Γ (.blk b (.cells cs E)::S) w):∃Γ',Γ.le Γ'∧ImB Γ' b cs E∧Wd Γ' S w:=by
 obtain⟨bss,h1,h2,h3⟩:=h.own;cases bss with
 | nil=>exact h1.elim
 | cons bs bss=>
  obtain⟨hr,h1⟩:=h1;obtain⟨e1,e2⟩:bs=[b]∧hp w b=some (.cells cs E):=by unfold Res.blk at hr;exact hr
  subst e1;have hg:=h3 b (by simp)
  have hnd:b∉bss.flatten∧bss.flatten.Nodup:=by simpa using h2
  have hle:∀x o,Γ.imm x=some o→(fun x=>if x=b then some (Obj.cells cs E (0,0)) else Γ.imm x) x=some o:=fun x o hx=>by
   show (if x=b then _ else _)=_
   rw[if_neg (fun hh=>by subst hh;rw[hg.2]at hx;cases hx)];exact hx
  refine⟨{ Γ with imm:=fun x=>if x=b then some (.cells cs E (0,0)) else Γ.imm x },⟨hle,rfl,rfl,rfl,rfl⟩,⟨if_pos rfl⟩,h.os,h.tape,h.out,h.dr,fun x o hb=>?_,bss,Holds.loc hle S bss (fun _ _=>rfl) h1,hnd.2,fun x hb=>⟨(h3 x (by simp[hb])).1,?_⟩⟩
  ·have hb:(if x=b then some (Obj.cells cs E (0,0)) else Γ.imm x)=some o:=hb
   by_cases hbg:x=b
   ·subst hbg;rw[if_pos rfl]at hb;cases hb
    exact e2
   ·rw[if_neg hbg]at hb;exact h.imm x o hb
  ·show (if x=b then _ else _)=none
   rw[if_neg (fun hh=>by subst hh;exact hnd.1 hb)]
   exact(h3 x (by simp[hb])).2
section
variable {P:Program}{Γ:Gho}{S:List Res}{ρ:Fr}{w:World}{d:Option Tmp}{T ty:TypeId}{pos:String}{es:Array Edge}{g:Option (Nat×Bool)}{x:Operand}
theorem y_l1m{b k:Nat}{v:Value}{cs:Array Value}{E:TypeId}[TS P T][hB:ImB Γ b cs E](hw:Wd Γ S w)(hx:ev ρ x=.pointer (some ⟨b,k,none⟩))(hv:cs[k]? = some v) :
  Yields P ⟨d,.load T x,ty,pos,es,g⟩ ρ w v:=y_load1 hx (cell_of (hw.imm _ _ hB.h) hv)
end
section
variable {P:Program}{n:Nat}{ops:List Oper}{Γ:Gho}{K:List Res}{wr tc stab:List (List Nat)}{Q:Fr→World→Prop}{i:Nat}{rest:List Oper}{ρ:Fr}{M:Nat→Fr→List Res}{T ty:TypeId}{pos:String}{es:Array Edge}{x:Operand}
end
section
variable {P:Program}{n:Nat}{ops:List Oper}{Γ:Gho}{K:List Res}{wr tc stab:List (List Nat)}{Q:Fr→World→Prop}{i:Nat}{rest:List Oper}{ρ:Fr}{M:Nat→Fr→List Res}
variable {d:Option Tmp}{ty:TypeId}{pos:String}{es:Array Edge}{f:Nat}{args:List Operand}{tys:Array TypeId}{v:Value}
end
def inn(E sz:Nat)(L:List (Value×List (List Value))):List Res:=L.map fun p=>Res.own p.1 E sz p.2
section
variable {Γ:Gho}{S:List Res}{w:World}{E sz k:Nat}{L:List (Value×List (List Value))}{p q:Value×List (List Value)}
theorem inn_perm(h:L[k]? = some p):(inn E sz L).Perm (Res.own p.1 E sz p.2::inn E sz (L.eraseIdx k)):=(perm_pull h).map _ where
 perm_pull:∀ {L:List (Value×List (List Value))} {k:Nat} {p},L[k]? = some p→L.Perm (p::L.eraseIdx k)
 | [],_,_,h=>by simp at h
 | x::L,0,p,h=>by simp at h;subst h;exact .refl _
 | x::L,k+1,p,h=>by
  have:=perm_pull (L:=L) (k:=k) (p:=p) (by simpa using h)
  exact(this.cons x).trans (.swap _ _ _)
end
theorem Wd.rot{Γ:Gho}{A B:List Res}{r:Res}{w:World}(h:Wd Γ (r::(A++B)) w):Wd Γ (A++(r::B)) w:=h.perm List.perm_middle.symm
theorem Wd.unrot{Γ:Gho}{A B:List Res}{r:Res}{w:World}(h:Wd Γ (A++(r::B)) w):Wd Γ (r::(A++B)) w:=h.perm List.perm_middle
end Mk
end
section
open Go Mk
namespace Go.Proofs.YthgighljhoneeaaGreat
set_option maxHeartbeats 16000000
attribute [local irreducible] Calls
def rowsF(E:List (Int×Int)):List (List Value):=E.map fun p=>[.int .u64 p.1]
def rowsS(E:List (Int×Int)):List (List Value):=E.map fun p=>[.int .u64 p.2]
def memE(m:MemT):Int×Int:=(m.Base,m.Size)
def devE(m:DevT):Int×Int:=(m.Base,m.Size)
def endE(p:Int×Int):Int×Int:=(p.1,IntKind.u64.wrap (p.1+p.2))
theorem rowsF_snoc{α:Type}{f:α→Int×Int}{l:List α}{L:List (Int×Int)}{k:Nat}{x:α}(hx:l[k]? = some x):rowsF (L++(l.take k).map f)++[[.int .u64 (f x).1]]=rowsF (L++(l.take (k+1)).map f):=by rw[take_succ_of hx];simp[rowsF]
theorem rowsS_snoc{α:Type}{f:α→Int×Int}{l:List α}{L:List (Int×Int)}{k:Nat}{x:α}(hx:l[k]? = some x):rowsS (L++(l.take k).map f)++[[.int .u64 (f x).2]]=rowsS (L++(l.take (k+1)).map f):=by rw[take_succ_of hx];simp[rowsS]
theorem regs_E(H:HwT):regs H=(H.Mems.map memE++H.Devs.map devE).map endE:=by
 unfold regs;rw[List.map_append,List.map_map,List.map_map];rfl
theorem overlap_any{Γ:Gho}{S:List Res}{w:World}{u:Value}{H:HwT}[hh:HwR Γ u H](hcnt:countsB H=true)(hw:Wd Γ S w):Calls Tryz.prog 152 #[u] w fun e w'=>e=.returned (.bool (!disjB H))∧Wd Γ S w':=by
 obtain⟨-,l1,l2,l3,l4,l5⟩:=counts_le hcnt
 obtain⟨a1,n1,c1,a2,n2,c2,a3,n3,c3,a4,n4,c4,a5,n5,c5,cs,rfl,hcs,hok,hsz,r1,r2,r3,r4,r5⟩:=hh.h;obtain⟨hn4,hm4,hx4⟩:=rep_facts r4
 obtain⟨hn5,hm5,hx5⟩:=rep_facts r5
 simp only[List.length_map]at hn4 hn5
 refine calls_of_W Tryz.func152 rfl rfl ?_
 refine byG ?_;refine lBox ?_;intro b1 w hw;have hw:=Wd.addNil (a:=none) (E:=70) (sz:=1) (Wd.addNil (a:=none) (E:=70) (sz:=1) hw)
 have hw:Wd Γ (.own (.slice none 0 0) 70 1 (rowsF (([]:List (Int×Int))++(H.Mems.take 0).map memE))::.own (.slice none 0 0) 70 1 (rowsS (([]:List (Int×Int))++(H.Mems.take 0).map memE))::.blk b1 (hwC H a1 n1 c1 a2 n2 c2 a3 n3 c3 a4 n4 c4 a5 n5 c5)::S) w:=hw
 refine byG ?_;refine W_loop (fun μ ρ w=>∃(k:Nat) (vb vs:Value),μ+k=n4∧Has ρ [(1,.pointer (some ⟨b1,0,none⟩)),(3,vb),(4,vs),(5,.int .i64 k)]∧Wd Γ (.own vb 70 1 (rowsF (([]:List (Int×Int))++(H.Mems.take k).map memE))::.own vs 70 1 (rowsS (([]:List (Int×Int))++(H.Mems.take k).map memE))::.blk b1 (hwC H a1 n1 c1 a2 n2 c2 a3 n3 c3 a4 n4 c4 a5 n5 c5)::S) w) n4 ⟨0,_,_,by omega,⟨rfl,rfl,rfl,rfl,trivial⟩,hw⟩ ?_
 clear hw;rintro μ ρ w ⟨k,vb,vs,hk,hρ,hw⟩
 rw[hρ.eq];clear hρ;refine byG ?_;refine W_cond rfl (fun h=>?_) (fun h=>?_)
 ·have hkn:k<n4:=by have:=of_decide_eq_true h;omega
  obtain⟨x,hx⟩:=get_lt (l:=H.Mems) (k:=k) (by omega)
  obtain⟨ab,mb,db,rfl,hmb,-,-⟩:=hw.own_shape (i:=0) rfl
  obtain⟨as',ms,ds,rfl,hms,-,-⟩:=hw.own_shape (i:=1) rfl
  simp only[rowsF,rowsS,List.length_map,List.length_append,List.length_nil,List.length_take]at hmb hms
  refine byG ?_;refine lBuildSlice [[.int .u64 (memE x).1]] ?_
  intro at' w hw;refine lApp (i:=1) (rows2:=[[.int .u64 (memE x).1]]) ?_ (Wd.own_rd (i:=0) hw rfl)
  intro vb' w hw;have hw:Wd Γ (.own vb' 70 1 (rowsF (([]:List (Int×Int))++(H.Mems.take (k+1)).map memE))::.own (.slice as' ms ds) 70 1 (rowsS (([]:List (Int×Int))++(H.Mems.take k).map memE))::.blk b1 (hwC H a1 n1 c1 a2 n2 c2 a3 n3 c3 a4 n4 c4 a5 n5 c5)::S) w:=by
   rw[←rowsF_snoc hx];exact hw.drop
  refine byG ?_;refine lBuildSlice [[.int .u64 (memE x).2]] ?_
  intro at' w hw;refine lApp (i:=2) (rows2:=[[.int .u64 (memE x).2]]) ?_ (Wd.own_rd (i:=0) hw rfl)
  intro vs' w hw;have hw:Wd Γ (.own vb' 70 1 (rowsF (([]:List (Int×Int))++(H.Mems.take (k+1)).map memE))::.own vs' 70 1 (rowsS (([]:List (Int×Int))++(H.Mems.take (k+1)).map memE))::.blk b1 (hwC H a1 n1 c1 a2 n2 c2 a3 n3 c3 a4 n4 c4 a5 n5 c5)::S) w:=by
   rw[←rowsS_snoc hx];exact hw.drop
  refine byG ?_;exact⟨μ-1,by omega,k+1,_,_,by omega,⟨rfl,rfl,rfl,rfl,trivial⟩,hw⟩
 have hkn:¬k<n4:=by have:=of_decide_eq_false h;omega
 rw[List.take_of_length_le (l:=H.Mems) (by omega)]at hw
 clear h hkn hk;rw[List.nil_append,show H.Mems.map memE=H.Mems.map memE++(H.Devs.take 0).map devE from by simp]at hw
 refine byG ?_;refine W_loop (fun μ ρ w=>∃(k:Nat) (vb vs:Value),μ+k=n5∧Has ρ [(1,.pointer (some ⟨b1,0,none⟩)),(3,vb),(4,vs),(6,.int .i64 k)]∧Wd Γ (.own vb 70 1 (rowsF (H.Mems.map memE++(H.Devs.take k).map devE))::.own vs 70 1 (rowsS (H.Mems.map memE++(H.Devs.take k).map devE))::.blk b1 (hwC H a1 n1 c1 a2 n2 c2 a3 n3 c3 a4 n4 c4 a5 n5 c5)::S) w) n5 ⟨0,_,_,by omega,⟨rfl,rfl,rfl,rfl,trivial⟩,hw⟩ ?_
 clear hw;rintro μ ρ w ⟨k,vb,vs,hk,hρ,hw⟩
 rw[hρ.eq];clear hρ;refine byG ?_;refine W_cond rfl (fun h=>?_) (fun h=>?_)
 ·have hkn:k<n5:=by have:=of_decide_eq_true h;omega
  obtain⟨x,hx⟩:=get_lt (l:=H.Devs) (k:=k) (by omega)
  obtain⟨ab,mb,db,rfl,hmb,-,-⟩:=hw.own_shape (i:=0) rfl
  obtain⟨as',ms,ds,rfl,hms,-,-⟩:=hw.own_shape (i:=1) rfl
  simp only[rowsF,rowsS,List.length_map,List.length_append,List.length_nil,List.length_take]at hmb hms
  refine byG ?_;refine lBuildSlice [[.int .u64 (devE x).1]] ?_
  intro at' w hw;refine lApp (i:=1) (rows2:=[[.int .u64 (devE x).1]]) ?_ (Wd.own_rd (i:=0) hw rfl)
  intro vb' w hw;have hw:Wd Γ (.own vb' 70 1 (rowsF (H.Mems.map memE++(H.Devs.take (k+1)).map devE))::.own (.slice as' ms ds) 70 1 (rowsS (H.Mems.map memE++(H.Devs.take k).map devE))::.blk b1 (hwC H a1 n1 c1 a2 n2 c2 a3 n3 c3 a4 n4 c4 a5 n5 c5)::S) w:=by
   rw[←rowsF_snoc hx];exact hw.drop
  refine byG ?_;refine lBuildSlice [[.int .u64 (devE x).2]] ?_
  intro at' w hw;refine lApp (i:=2) (rows2:=[[.int .u64 (devE x).2]]) ?_ (Wd.own_rd (i:=0) hw rfl)
  intro vs' w hw;have hw:Wd Γ (.own vb' 70 1 (rowsF (H.Mems.map memE++(H.Devs.take (k+1)).map devE))::.own vs' 70 1 (rowsS (H.Mems.map memE++(H.Devs.take (k+1)).map devE))::.blk b1 (hwC H a1 n1 c1 a2 n2 c2 a3 n3 c3 a4 n4 c4 a5 n5 c5)::S) w:=by
   rw[←rowsS_snoc hx];exact hw.drop
  refine byG ?_;exact⟨μ-1,by omega,k+1,_,_,by omega,⟨rfl,rfl,rfl,rfl,trivial⟩,hw⟩
 have hkn:¬k<n5:=by have:=of_decide_eq_false h;omega
 rw[List.take_of_length_le (l:=H.Devs) (by omega)]at hw
 clear h hkn hk;have hregs:=regs_E H
 have hel:(H.Mems.map memE++H.Devs.map devE).length≤96:=by simp;omega
 generalize H.Mems.map memE++H.Devs.map devE=E at *
 obtain⟨ab,mb,db,rfl,hmb,-,-⟩:=hw.own_shape (i:=0) rfl
 obtain⟨as',ms,ds,rfl,hms,-,-⟩:=hw.own_shape (i:=1) rfl
 simp only[rowsF,rowsS,List.length_map]at hmb hms
 have hms':ms=mb:=by omega
 subst hms';have hw:Wd Γ (.own (.slice ab ms db) 70 1 (rowsF E)::.own (.slice as' ms ds) 70 1 (rowsS E)::.blk b1 (hwC H a1 n1 c1 a2 n2 c2 a3 n3 c3 a4 n4 c4 a5 n5 c5)::S) w:=hw
 refine byG ?_;refine W_loop (fun μ ρ w=>∃(i:Nat),μ+i=ms∧Has ρ [(3,.slice ab ms db),(4,.slice as' ms ds),(7,.int .i64 i)]∧(∀(i' k:Nat) (a b:Int×Int),i'<i→k<i'→E[i']? = some a→E[k]? = some b→apartB (endE a) (endE b)=true)∧Wd Γ (.own (.slice ab ms db) 70 1 (rowsF E)::.own (.slice as' ms ds) 70 1 (rowsS E)::.blk b1 (hwC H a1 n1 c1 a2 n2 c2 a3 n3 c3 a4 n4 c4 a5 n5 c5)::S) w) ms ⟨0,by omega,⟨rfl,rfl,rfl,trivial⟩,fun i' k a b h=>by omega,hw⟩ ?_
 clear hw;rintro μ ρ w ⟨i,hi,hρ,hall,hw⟩
 rw[hρ.eq];clear hρ;refine byG ?_;refine W_cond rfl (fun h=>?_) (fun h=>?_)
 ·have hin:i<ms:=by have:=of_decide_eq_true h;omega
  clear h;obtain⟨x,hx⟩:=get_lt (l:=E) (k:=i) (by omega)
  have hxf:(rowsF E)[i]? = some [.int .u64 x.1]:=by unfold rowsF;rw[List.getElem?_map,hx];rfl
  have hxs:(rowsS E)[i]? = some [.int .u64 x.2]:=by unfold rowsS;rw[List.getElem?_map,hx];rfl
  refine byG ?_;refine W_loop (fun μ2 ρ w=>∃(k:Nat),μ2+k=i∧Has ρ [(3,.slice ab ms db),(4,.slice as' ms ds),(7,.int .i64 i),(8,.int .i64 k)]∧(∀(j:Nat) (b:Int×Int),j<k→E[j]? = some b→apartB (endE x) (endE b)=true)∧Wd Γ (.own (.slice ab ms db) 70 1 (rowsF E)::.own (.slice as' ms ds) 70 1 (rowsS E)::.blk b1 (hwC H a1 n1 c1 a2 n2 c2 a3 n3 c3 a4 n4 c4 a5 n5 c5)::S) w) i ⟨0,by omega,⟨rfl,rfl,rfl,rfl,trivial⟩,fun j b h=>by omega,hw⟩ ?_
  clear hw;rintro μ2 ρ w ⟨k,hk,hρ,hall2,hw⟩
  rw[hρ.eq];clear hρ;refine byG ?_;refine W_cond rfl (fun h2=>?_) (fun h2=>?_)
  ·have hki:k<i:=by have:=of_decide_eq_true h2;omega
   clear h2;obtain⟨y,hy⟩:=get_lt (l:=E) (k:=k) (by omega)
   unfold rowsF rowsS at hw;refine byG ?_;refine W_quiet (by kernel_rfl) (by kernel_rfl) hw ?_
   refine byQ ?_;intro w hw;have hw:Wd Γ (.own (.slice ab ms db) 70 1 (rowsF E)::.own (.slice as' ms ds) 70 1 (rowsS E)::.blk b1 (hwC H a1 n1 c1 a2 n2 c2 a3 n3 c3 a4 n4 c4 a5 n5 c5)::S) w:=hw
   refine W_cond rfl (fun h3=>?_) (fun h3=>?_)
   ·have hp:apartB (endE x) (endE y)=false:=by unfold apartB;exact congrArg (fun b=>!b) h3
    refine byG ?_;refine⟨_,rfl,ret_b rfl ?_,hw.drop.drop.drop⟩
    have:disjB H=false:=decP_f fun hP=>by
     have h5:=hP i k (endE x) (endE y) hki (by rw[hregs,List.getElem?_map,hx];rfl) (by rw[hregs,List.getElem?_map,hy];rfl)
     rw[h5]at hp;cases hp
    rw[this];rfl
   ·have hp:apartB (endE x) (endE y)=true:=by unfold apartB;exact congrArg (fun b=>!b) h3
    refine byG ?_;refine⟨μ2-1,by omega,k+1,by omega,⟨rfl,rfl,rfl,rfl,trivial⟩,fun j b hj hb=>?_,hw⟩
    by_cases e:j=k
    ·subst e;rw[hy]at hb;cases hb;exact hp
    ·exact hall2 j b (by omega) hb
  ·have hki:¬k<i:=by have:=of_decide_eq_false h2;omega
   refine byG ?_;refine⟨μ-1,by omega,i+1,by omega,⟨rfl,rfl,rfl,trivial⟩,fun i' j a b h1 h3 ha hb=>?_,hw⟩
   by_cases e:i'=i
   ·subst e;rw[hx]at ha;cases ha
    exact hall2 j b (by omega) hb
   ·exact hall i' j a b (by omega) h3 ha hb
 ·have hin:¬i<ms:=by have:=of_decide_eq_false h;omega
  refine byG ?_;refine⟨_,rfl,ret_b rfl ?_,hw.drop.drop.drop⟩
  have:disjB H=true:=decP_t fun p q a b hpq ha hb=>by
   rw[hregs,List.getElem?_map]at ha hb
   cases ha':E[p]? with
   | none=>rw[ha']at ha;cases ha
   | some a'=>
    cases hb':E[q]? with
    | none=>rw[hb']at hb;cases hb
    | some b'=>
     rw[ha']at ha;rw[hb']at hb;cases ha;cases hb
     exact hall p q a' b' (by have:=(List.getElem?_eq_some_iff.1 ha').1;omega) hpq ha' hb'
  rw[this];rfl
def markN(R:List Bool)(xs:List Int):List Bool:=xs.foldl (fun R n=>R.set n.toNat true) R
theorem markN_len:∀(xs:List Int) (R:List Bool),(markN R xs).length=R.length
 | [],R=>rfl
 | x::xs,R=>by show (markN (R.set x.toNat true) xs).length=_;rw[markN_len xs];simp
theorem markN_app(R:List Bool)(xs ys:List Int):markN R (xs++ys)=markN (markN R xs) ys:=by unfold markN;rw[List.foldl_append]
theorem markN_get:∀(xs:List Int) (R:List Bool) (k:Nat),(markN R xs)[k]? = some false→R[k]? = some false∧∀x∈xs,x.toNat≠k
 | [],R,k,h=>⟨h,by simp⟩
 | x::xs,R,k,h=>by
  obtain⟨h1,h2⟩:=markN_get xs (R.set x.toNat true) k h
  rw[List.getElem?_set]at h1;by_cases e:x.toNat=k
  ·rw[if_pos e]at h1;split at h1 <;> simp at h1
  ·rw[if_neg e]at h1;exact⟨h1,fun y hy=>by
    rcases List.mem_cons.1 hy with rfl|hy
    ·exact e
    ·exact h2 y hy⟩
theorem mark_step{α:Type}{f:α→Int}{l:List α}{R:List Bool}{L:List Int}{k:Nat}{x:α}(hx:l[k]? = some x):(markN R (L++(l.take k).map f)).set (f x).toNat true=markN R (L++(l.take (k+1)).map f):=by
 rw[take_succ_of hx,List.map_append,←List.append_assoc,markN_app _ (L++(l.take k).map f)];rfl
abbrev R64:List Bool:=List.replicate 64 false
abbrev hwCells(s:ByteArray)(a1:Option Addr)(n1 c1:Nat)(a2:Option Addr)(n2 c2:Nat)(a3:Option Addr)(n3 c3:Nat)(a4:Option Addr)(n4 c4:Nat)(a5:Option Addr)(n5 c5:Nat):Obj:=.cells #[.string s,.slice a1 n1 c1,.slice a2 n2 c2,.slice a3 n3 c3,.slice a4 n4 c4,.slice a5 n5 c5] 38
theorem rdS_facts{Γ:Gho}{S:List Res}{a:Option Addr}{n c sz:Nat}{rows:List (List Value)}(h:RdS Γ S (.slice a n c) sz rows):n=rows.length∧n≤c∧c≤9223372036854775807:=by
 obtain⟨a',n',c',e,h1,h2,h3⟩:=h.shape;cases e;exact⟨h1,h2,h3⟩
theorem Used_any{Γ:Gho}{S:List Res}{w:World}{H:HwT}{s:ByteArray}{a1:Option Addr}{n1 c1:Nat}{a2:Option Addr}{n2 c2:Nat}{a3:Option Addr}{n3 c3:Nat}{a4:Option Addr}{n4 c4:Nat}{a5:Option Addr}{n5 c5:Nat}(r1:RdS Γ S (.slice a1 n1 c1) 4 (H.Cores.map enc))(r4:RdS Γ S (.slice a4 n4 c4) 5 (H.Mems.map enc))(r5:RdS Γ S (.slice a5 n5 c5) 5 (H.Devs.map enc))(hN:∀n∈usedN H,0≤n∧n<64)(hw:Wd Γ S w) :
  Calls Tryz.prog 169 #[(.agg #[.string s,.slice a1 n1 c1,.slice a2 n2 c2,.slice a3 n3 c3,.slice a4 n4 c4,.slice a5 n5 c5])] w fun e w'=>e=.returned (.agg ((markN R64 (usedN H)).map Value.bool).toArray)∧Wd Γ S w':=by
 obtain⟨hn1,hm1,hx1⟩:=rdS_facts r1
 obtain⟨hn4,hm4,hx4⟩:=rdS_facts r4
 obtain⟨hn5,hm5,hx5⟩:=rdS_facts r5
 simp only[List.length_map]at hn1 hn4 hn5
 refine calls_of_WC Tryz.func169 rfl rfl ?_
 refine byG ?_;refine lBox ?_;intro b1 w hw;refine lAlloc ?_;intro b2 w hw;refine byG ?_;refine lAlloc ?_;intro b3 w hw;have hw:Wd Γ (.blk b3 (.cells ((markN R64 ([]++(H.Cores.take 0).map (fun c=>c.Node))).map Value.bool).toArray 194)::.blk b2 (.cells (R64.map Value.bool).toArray 194)::.blk b1 (hwCells s a1 n1 c1 a2 n2 c2 a3 n3 c3 a4 n4 c4 a5 n5 c5)::S) w:=hw
 refine byG ?_;refine W_loop (fun μ ρ w=>∃(k:Nat),μ+k=n1∧Has ρ [(1,.pointer (some ⟨b1,0,none⟩)),(2,.pointer (some ⟨b2,0,none⟩)),(3,.pointer (some ⟨b3,0,none⟩)),(4,.int .i64 (k:Nat))]∧Wd Γ (.blk b3 (.cells ((markN R64 ([]++(H.Cores.take k).map (fun c=>c.Node))).map Value.bool).toArray 194)::.blk b2 (.cells (R64.map Value.bool).toArray 194)::.blk b1 (hwCells s a1 n1 c1 a2 n2 c2 a3 n3 c3 a4 n4 c4 a5 n5 c5)::S) w) n1 ⟨0,by omega,⟨rfl,rfl,rfl,rfl,trivial⟩,hw⟩ ?_
 clear hw;rintro μ ρ w ⟨k,hk,hρ,hw⟩
 rw[hρ.eq];have q1:RdS Γ (.blk b3 (.cells ((markN R64 ([]++(H.Cores.take k).map (fun c=>c.Node))).map Value.bool).toArray 194)::.blk b2 (.cells (R64.map Value.bool).toArray 194)::.blk b1 (hwCells s a1 n1 c1 a2 n2 c2 a3 n3 c3 a4 n4 c4 a5 n5 c5)::S) (.slice a1 n1 c1) 4 (H.Cores.map enc):=r1.cons.cons.cons
 refine byG ?_;refine W_cond rfl (fun h=>?_) (fun h=>?_)
 ·have hkn:k<n1:=by simpa using h
  obtain⟨x,hx⟩:=get_lt (l:=H.Cores) (k:=k) (by omega)
  obtain⟨hx0,hx1'⟩:=hN x.Node (List.mem_append_left _ (List.mem_append_left _ (List.mem_map_of_mem (List.mem_of_getElem? hx))))
  refine byG ?_;refine lStore (o:=0+x.Node.toNat*1) (ho:=by simp[markN_len];omega) ?_
  intro w hw;have hw:Wd Γ (.blk b3 (.cells (putCells ((markN R64 ([]++(H.Cores.take k).map (fun c=>c.Node))).map Value.bool).toArray (0+x.Node.toNat*1) [.bool true]) 194)::.blk b2 (.cells (R64.map Value.bool).toArray 194)::.blk b1 (hwCells s a1 n1 c1 a2 n2 c2 a3 n3 c3 a4 n4 c4 a5 n5 c5)::S) w:=hw
  rw[putBool (by simp[markN_len];omega),mark_step (f:=fun c=>c.Node) hx]at hw
  clear q1;refine byG ?_;exact⟨μ-1,by omega,k+1,by omega,⟨rfl,rfl,rfl,rfl,trivial⟩,hw⟩
 have hkn:¬k<n1:=by simpa using h
 rw[List.take_of_length_le (l:=H.Cores) (by omega)]at hw
 clear h hkn hρ hk q1;rw[show []++H.Cores.map (fun c=>c.Node)=H.Cores.map (fun c=>c.Node)++(H.Mems.take 0).map (fun c=>c.Node) from by simp]at hw
 refine byG ?_;refine W_loop (fun μ ρ w=>∃(k:Nat),μ+k=n4∧Has ρ [(1,.pointer (some ⟨b1,0,none⟩)),(2,.pointer (some ⟨b2,0,none⟩)),(3,.pointer (some ⟨b3,0,none⟩)),(5,.int .i64 (k:Nat))]∧Wd Γ (.blk b3 (.cells ((markN R64 (H.Cores.map (fun c=>c.Node)++(H.Mems.take k).map (fun c=>c.Node))).map Value.bool).toArray 194)::.blk b2 (.cells (R64.map Value.bool).toArray 194)::.blk b1 (hwCells s a1 n1 c1 a2 n2 c2 a3 n3 c3 a4 n4 c4 a5 n5 c5)::S) w) n4 ⟨0,by omega,⟨rfl,rfl,rfl,rfl,trivial⟩,hw⟩ ?_
 clear hw;rintro μ ρ w ⟨k,hk,hρ,hw⟩
 rw[hρ.eq];have q1:RdS Γ (.blk b3 (.cells ((markN R64 (H.Cores.map (fun c=>c.Node)++(H.Mems.take k).map (fun c=>c.Node))).map Value.bool).toArray 194)::.blk b2 (.cells (R64.map Value.bool).toArray 194)::.blk b1 (hwCells s a1 n1 c1 a2 n2 c2 a3 n3 c3 a4 n4 c4 a5 n5 c5)::S) (.slice a4 n4 c4) 5 (H.Mems.map enc):=r4.cons.cons.cons
 refine byG ?_;refine W_cond rfl (fun h=>?_) (fun h=>?_)
 ·have hkn:k<n4:=by simpa using h
  obtain⟨x,hx⟩:=get_lt (l:=H.Mems) (k:=k) (by omega)
  obtain⟨hx0,hx1'⟩:=hN x.Node (List.mem_append_left _ (List.mem_append_right _ (List.mem_map_of_mem (List.mem_of_getElem? hx))))
  refine byG ?_;refine lStore (o:=0+x.Node.toNat*1) (ho:=by simp[markN_len];omega) ?_
  intro w hw;have hw:Wd Γ (.blk b3 (.cells (putCells ((markN R64 (H.Cores.map (fun c=>c.Node)++(H.Mems.take k).map (fun c=>c.Node))).map Value.bool).toArray (0+x.Node.toNat*1) [.bool true]) 194)::.blk b2 (.cells (R64.map Value.bool).toArray 194)::.blk b1 (hwCells s a1 n1 c1 a2 n2 c2 a3 n3 c3 a4 n4 c4 a5 n5 c5)::S) w:=hw
  rw[putBool (by simp[markN_len];omega),mark_step (f:=fun c=>c.Node) hx]at hw
  clear q1;refine byG ?_;exact⟨μ-1,by omega,k+1,by omega,⟨rfl,rfl,rfl,rfl,trivial⟩,hw⟩
 have hkn:¬k<n4:=by simpa using h
 rw[List.take_of_length_le (l:=H.Mems) (by omega)]at hw
 clear h hkn hρ hk q1;rw[show H.Cores.map (fun c=>c.Node)++H.Mems.map (fun c=>c.Node)=(H.Cores.map (fun c=>c.Node)++H.Mems.map (fun c=>c.Node))++(H.Devs.take 0).map (fun c=>c.Node) from by simp]at hw
 refine byG ?_;refine W_loop (fun μ ρ w=>∃(k:Nat),μ+k=n5∧Has ρ [(1,.pointer (some ⟨b1,0,none⟩)),(2,.pointer (some ⟨b2,0,none⟩)),(3,.pointer (some ⟨b3,0,none⟩)),(6,.int .i64 (k:Nat))]∧Wd Γ (.blk b3 (.cells ((markN R64 ((H.Cores.map (fun c=>c.Node)++H.Mems.map (fun c=>c.Node))++(H.Devs.take k).map (fun c=>c.Node))).map Value.bool).toArray 194)::.blk b2 (.cells (R64.map Value.bool).toArray 194)::.blk b1 (hwCells s a1 n1 c1 a2 n2 c2 a3 n3 c3 a4 n4 c4 a5 n5 c5)::S) w) n5 ⟨0,by omega,⟨rfl,rfl,rfl,rfl,trivial⟩,hw⟩ ?_
 clear hw;rintro μ ρ w ⟨k,hk,hρ,hw⟩
 rw[hρ.eq];have q1:RdS Γ (.blk b3 (.cells ((markN R64 ((H.Cores.map (fun c=>c.Node)++H.Mems.map (fun c=>c.Node))++(H.Devs.take k).map (fun c=>c.Node))).map Value.bool).toArray 194)::.blk b2 (.cells (R64.map Value.bool).toArray 194)::.blk b1 (hwCells s a1 n1 c1 a2 n2 c2 a3 n3 c3 a4 n4 c4 a5 n5 c5)::S) (.slice a5 n5 c5) 5 (H.Devs.map enc):=r5.cons.cons.cons
 refine byG ?_;refine W_cond rfl (fun h=>?_) (fun h=>?_)
 ·have hkn:k<n5:=by simpa using h
  obtain⟨x,hx⟩:=get_lt (l:=H.Devs) (k:=k) (by omega)
  obtain⟨hx0,hx1'⟩:=hN x.Node (List.mem_append_right _ (List.mem_map_of_mem (List.mem_of_getElem? hx)))
  refine byG ?_;refine lStore (o:=0+x.Node.toNat*1) (ho:=by simp[markN_len];omega) ?_
  intro w hw;have hw:Wd Γ (.blk b3 (.cells (putCells ((markN R64 ((H.Cores.map (fun c=>c.Node)++H.Mems.map (fun c=>c.Node))++(H.Devs.take k).map (fun c=>c.Node))).map Value.bool).toArray (0+x.Node.toNat*1) [.bool true]) 194)::.blk b2 (.cells (R64.map Value.bool).toArray 194)::.blk b1 (hwCells s a1 n1 c1 a2 n2 c2 a3 n3 c3 a4 n4 c4 a5 n5 c5)::S) w:=hw
  rw[putBool (by simp[markN_len];omega),mark_step (f:=fun c=>c.Node) hx]at hw
  clear q1;refine byG ?_;exact⟨μ-1,by omega,k+1,by omega,⟨rfl,rfl,rfl,rfl,trivial⟩,hw⟩
 have hkn:¬k<n5:=by simpa using h
 rw[List.take_of_length_le (l:=H.Devs) (by omega)]at hw
 clear h hkn hρ hk q1;refine byG ?_;have hl:(markN R64 (usedN H)).length=64:=by rw[markN_len];simp
 obtain⟨R,hR⟩:∃R,R=markN R64 (usedN H):=⟨_,rfl⟩
 have hw:Wd Γ (.blk b3 (.cells (R.map Value.bool).toArray 194)::.blk b2 (.cells (R64.map Value.bool).toArray 194)::.blk b1 (hwCells s a1 n1 c1 a2 n2 c2 a3 n3 c3 a4 n4 c4 a5 n5 c5)::S) w:=by rw[hR];exact hw
 rw[←hR]at hl ⊢
 refine lY (v:=.agg (R.map Value.bool).toArray) ?_ (hy:=y_lwb (i:=0) hw rfl rfl (by simp[hl]))
 refine lStore (vs:=R.map Value.bool) ?_ (hl:=by simp[hl]) (h1:=by simp[Value.oneCell']) (ho:=by simp) (hv:=by simp[Value.cells])
 intro w hw;have hw:Wd Γ (.blk b3 (.cells (R.map Value.bool).toArray 194)::.blk b2 (.cells (putCells (R64.map Value.bool).toArray 0 (R.map Value.bool)) 194)::.blk b1 (hwCells s a1 n1 c1 a2 n2 c2 a3 n3 c3 a4 n4 c4 a5 n5 c5)::S) w:=hw
 rw[show putCells (R64.map Value.bool).toArray 0 (R.map Value.bool)=(R.map Value.bool).toArray from by unfold putCells;simp[hl]]at hw
 refine byG ?_;exact⟨[.agg (R.map Value.bool).toArray],⟨resC (i:=1) hw rfl rfl (by simp[hl]),trivial⟩,rfl,hw.drop.drop.drop⟩
def coreAt(l:List CoreT)(id:Int):Int:=match l.findIdx? (fun x=>decide (x.ID=id)) with|some k=>k|none=>-1
theorem coreAt_some{l:List CoreT}{id:Int}{k:Nat}{x:CoreT}(hx:l[k]? = some x)(he:x.ID=id)(hl:∀j y,j<k→l[j]? = some y→y.ID≠id):coreAt l id=k:=by
 have:l.findIdx? (fun x=>decide (x.ID=id))=some k:=by
  obtain⟨hk,hg⟩:=List.getElem?_eq_some_iff.1 hx
  rw[List.findIdx?_eq_some_iff_getElem];refine⟨hk,by rw[hg];simpa using he,fun j hj=>?_⟩
  have:=hl j l[j] hj (List.getElem?_eq_getElem _)
  simpa using this
 unfold coreAt;rw[this]
theorem coreAt_none{l:List CoreT}{id:Int}(hl:∀y∈l,y.ID≠id):coreAt l id = -1:=by
 have:l.findIdx? (fun x=>decide (x.ID=id))=none:=by
  rw[List.findIdx?_eq_none_iff];intro y hy;simpa using hl y hy
 unfold coreAt;rw[this]
theorem coreAt_any{l:List CoreT}{id:Int}:decide (0≤coreAt l id)=l.any fun x=>decide (x.ID=id):=by
 unfold coreAt;cases h:l.findIdx? (fun x=>decide (x.ID=id)) with
 | none=>
  rw[List.findIdx?_eq_none_iff]at h;symm
  show _=false
  rw[List.any_eq_false];intro x hx;simpa using h x hx
 | some k=>
  have h0:(0:Int)≤(k:Int):=by omega
  show decide ((0:Int)≤(k:Int))=_
  rw[decide_eq_true h0];symm
  obtain⟨hk,hg,-⟩:=List.findIdx?_eq_some_iff_getElem.1 h
  exact List.any_eq_true.2 ⟨l[k],List.getElem_mem hk,hg⟩
theorem CoreAt_any{Γ:Gho}{S:List Res}{w:World}{l:List CoreT}{u0 u2 u3 u4 u5:Value}{s:ByteArray}{a1:Option Addr}{n1 c1:Nat}{id:Int}(r1:RdS Γ S (.slice a1 n1 c1) 4 (l.map enc))(hu:u0=.agg #[.string s,.slice a1 n1 c1,u2,u3,u4,u5])(h2:u2.oneCell'=true)(h3:u3.oneCell'=true)(h4:u4.oneCell'=true)(h5:u5.oneCell'=true)(hw:Wd Γ S w) :
  Calls Tryz.prog 68 #[u0,.int .i64 id] w fun e w'=>e=.returned (.int .i64 (coreAt l id))∧Wd Γ S w':=by
 subst hu;obtain⟨hn1,hm1,hx1⟩:=rdS_facts r1
 simp only[List.length_map]at hn1
 refine calls_of_W Tryz.func68 rfl rfl ?_
 refine byG ?_;refine lBox ?_;intro b1 w hw;have hw:Wd Γ (.blk b1 (.cells (#[.string s,.slice a1 n1 c1,u2,u3,u4,u5]:Array Value) 38)::S) w:=by
  have e:(Value.agg #[.string s,.slice a1 n1 c1,u2,u3,u4,u5]).cells = #[.string s,.slice a1 n1 c1,u2,u3,u4,u5]:=rfl
  rw[e]at hw;exact hw
 refine byG ?_;refine W_loop (fun μ ρ w=>∃(k:Nat),μ+k=n1∧(∀j y,j<k→l[j]? = some y→y.ID≠id)∧Has ρ [(1,.int .i64 id),(2,.pointer (some ⟨b1,0,none⟩)),(5,.int .i64 (k:Nat))]∧Wd Γ (.blk b1 (.cells (#[.string s,.slice a1 n1 c1,u2,u3,u4,u5]:Array Value) 38)::S) w) n1 ⟨0,by omega,by simp,⟨rfl,rfl,rfl,trivial⟩,hw⟩ ?_
 clear hw;rintro μ ρ w ⟨k,hk,hj,hρ,hw⟩
 rw[hρ.eq];have q1:RdS Γ (.blk b1 (.cells (#[.string s,.slice a1 n1 c1,u2,u3,u4,u5]:Array Value) 38)::S) (.slice a1 n1 c1) 4 (l.map enc):=r1.cons
 refine byG ?_;refine W_cond rfl (fun h=>?_) (fun h=>?_)
 ·have hkn:k<n1:=by simpa using h
  obtain⟨x,hx⟩:=get_lt (l:=l) (k:=k) (by omega)
  refine byG ?_;refine W_cond rfl (fun h2=>?_) (fun h2=>?_)
  ·rw[coreAt_some hx (of_decide_eq_true h2) hj];refine byG ?_;exact⟨_,rfl,rfl,hw.drop⟩
  ·refine byG ?_;refine⟨μ-1,by omega,k+1,by omega,fun j y hjk hy=>?_,⟨rfl,rfl,rfl,trivial⟩,hw⟩
   rcases Nat.lt_succ_iff_lt_or_eq.1 hjk with hlt|rfl
   ·exact hj j y hlt hy
   ·rw[hx]at hy;cases hy
    exact of_decide_eq_false h2
 have hkn:¬k<n1:=by simpa using h
 rw[coreAt_none (fun y hy=>by
  obtain⟨j,hj2⟩:=List.getElem?_of_mem hy
  exact hj j y (by have:=(List.getElem?_eq_some_iff.1 hj2).1;omega) hj2)]
 refine byG ?_;exact⟨_,rfl,rfl,hw.drop⟩
instance pg_CoreAt{Γ:Gho}{u:Value}{H:HwT}{id:Int}[hh:HwR Γ u H]:PG Tryz.prog Γ 68 [u,.int .i64 id] (.int .i64 (coreAt H.Cores id)):=⟨fun S w hw=>by
 obtain⟨a1,n1,c1,a2,n2,c2,a3,n3,c3,a4,n4,c4,a5,n5,c5,cs,rfl,-,-,-,r1,-⟩:=hh.h;exact CoreAt_any r1.rdS rfl rfl rfl rfl rfl hw⟩
theorem mark_true:∀(xs:List Int) (R:List Bool) (k:Nat),(markN R xs)[k]? = some true→R[k]? = some true∨∃x∈xs,x.toNat=k
 | [],R,k,h=>.inl h
 | x::xs,R,k,h=>by
  have h:(markN (R.set x.toNat true) xs)[k]? = some true:=h
  rcases mark_true xs _ k h with h1|⟨y,hy,he⟩
  ·by_cases e:x.toNat=k
   ·exact .inr ⟨x,by simp,e⟩
   ·rw[List.getElem?_set_ne e]at h1;exact .inl h1
  ·exact .inr ⟨y,by simp[hy],he⟩
theorem set_true_self{R:List Bool}{k:Nat}(h:R[k]? = some true):R.set k true=R:=by
 obtain⟨h1,h2⟩:=List.getElem?_eq_some_iff.1 h
 rw[←h2];exact List.set_getElem_self h1
def ClosedR(ls:List LinkT)(R:List Bool):Prop:=∀l∈ls,R.getD l.A.toNat false=R.getD l.B.toNat false
theorem connectedR_any{Γ:Gho}{S:List Res}{w:World}{u:Value}{H:HwT}[hh:HwR Γ u H](hcnt:countsB H=true)(hcr:coresRB H=true)(hrr:regionsRB H=true)(hw:Wd Γ S w):Calls Tryz.prog 153 #[u] w fun e w'=>e=.returned (.bool (connB H))∧Wd Γ S w':=by
 obtain⟨l0,l1,l2,l3,l4,l5⟩:=counts_le hcnt
 obtain⟨hNd,hLk⟩:=nodes_in hcr hrr
 obtain⟨a1,n1,c1,a2,n2,c2,a3,n3,c3,a4,n4,c4,a5,n5,c5,cs,rfl,hcs,hok,hsz,r1,r2,r3,r4,r5⟩:=hh.h;obtain⟨hn1,hm1,hx1⟩:=rep_facts r1
 obtain⟨hn3,hm3,hx3⟩:=rep_facts r3
 simp only[List.length_map]at hn1 hn3
 obtain⟨x0,hx0⟩:=get_lt (l:=H.Cores) (k:=0) (by omega)
 have hhead:(usedN H).headD 0=x0.Node:=by
  refine head_used ?_
  unfold usedN;rw[List.getElem?_append_left (by simp;omega),List.getElem?_append_left (by simp;omega),List.getElem?_map,hx0];rfl
 have hs0:0≤x0.Node∧x0.Node<64:=hNd x0.Node (by unfold usedN;simp only[List.mem_append];exact .inl (.inl (List.mem_map_of_mem (List.mem_of_getElem? hx0))))
 obtain⟨hs00,hs01⟩:=hs0;have hst:Known H.Links x0.Node ((List.replicate 64 false).set x0.Node.toNat true):=known_start (by omega)
 refine calls_of_W Tryz.func153 rfl rfl ?_
 refine byG ?_;refine lBox ?_;intro b1 w hw;refine byG ?_;refine lAlloc ?_;intro b3 w hw;have hw:Wd Γ (.blk b3 (.cells ((List.replicate 64 false).map Value.bool).toArray 194)::.blk b1 (hwC H a1 n1 c1 a2 n2 c2 a3 n3 c3 a4 n4 c4 a5 n5 c5)::S) w:=hw
 refine byG ?_;refine lStore (o:=0+x0.Node.toNat*1) (ho:=by simp;omega) ?_
 intro w hw;have hw:Wd Γ (.blk b3 (.cells (putCells ((List.replicate 64 false).map Value.bool).toArray (0+x0.Node.toNat*1) [.bool true]) 194)::.blk b1 (hwC H a1 n1 c1 a2 n2 c2 a3 n3 c3 a4 n4 c4 a5 n5 c5)::S) w:=hw
 rw[putBool (by simp;omega)]at hw
 refine byG ?_;refine W_loop (fun μ ρ w=>∃(t:Nat) (R:List Bool),μ+t=64∧Known H.Links x0.Node R∧R[x0.Node.toNat]? = some true∧(ClosedR H.Links R∨R.count false+t≤63)∧Has ρ [(1,.pointer (some ⟨b1,0,none⟩)),(3,.pointer (some ⟨b3,0,none⟩)),(4,.int .i64 t)]∧Wd Γ (.blk b3 (.cells (R.map Value.bool).toArray 194)::.blk b1 (hwC H a1 n1 c1 a2 n2 c2 a3 n3 c3 a4 n4 c4 a5 n5 c5)::S) w) 64 ⟨0,_,by omega,hst,by rw[List.getElem?_set_self (by simp;omega)],.inr (by
  have:=count_set_lt (R:=List.replicate 64 false) (k:=x0.Node.toNat) (by rw[List.getElem?_replicate,if_pos (by omega)])
  rw[List.count_replicate_self]at this;omega),⟨rfl,rfl,rfl,trivial⟩,hw⟩ ?_
 clear hw hst;rintro μ ρ w ⟨t,R,ht,hkn,hR0,hcl,hρ,hw⟩
 rw[hρ.eq];clear hρ;refine byG ?_;refine W_cond rfl (fun h=>?_) (fun h=>?_)
 ·have ht64:t<64:=by have:=of_decide_eq_true h;omega
  clear h;refine byG ?_;refine W_loop (fun μ2 ρ w=>∃(k:Nat) (R2:List Bool),μ2+k=n3∧Known H.Links x0.Node R2∧R2[x0.Node.toNat]? = some true∧((R2=R∧∀(i:Nat) (l:LinkT),i<k→H.Links[i]? = some l→R.getD l.A.toNat false=R.getD l.B.toNat false)∨(¬ClosedR H.Links R∧R2.count false+1≤R.count false))∧Has ρ [(1,.pointer (some ⟨b1,0,none⟩)),(3,.pointer (some ⟨b3,0,none⟩)),(4,.int .i64 t),(5,.int .i64 k)]∧Wd Γ (.blk b3 (.cells (R2.map Value.bool).toArray 194)::.blk b1 (hwC H a1 n1 c1 a2 n2 c2 a3 n3 c3 a4 n4 c4 a5 n5 c5)::S) w) n3 ⟨0,R,by omega,hkn,hR0,.inl ⟨rfl,fun i l h=>by omega⟩,⟨rfl,rfl,rfl,rfl,trivial⟩,hw⟩ ?_
  clear hw hR0 hkn;rintro μ2 ρ w ⟨k,R2,hk,hkn,hR0,hor,hρ,hw⟩
  rw[hρ.eq];clear hρ;have hRl:=hkn.len
  refine byG ?_;refine W_cond rfl (fun h2=>?_) (fun h2=>?_)
  ·have hkn3:k<n3:=by have:=of_decide_eq_true h2;omega
   clear h2;obtain⟨x,hx⟩:=get_lt (l:=H.Links) (k:=k) (by omega)
   obtain⟨hA0,hA1,hB0,hB1⟩:=hLk x (List.mem_of_getElem? hx)
   obtain⟨ba,hba⟩:=get_lt (l:=R2) (k:=x.A.toNat) (by omega)
   obtain⟨bb,hbb⟩:=get_lt (l:=R2) (k:=x.B.toNat) (by omega)
   have hxm:=List.mem_of_getElem? hx
   have ga:R2.getD x.A.toNat false=ba:=by rw[List.getD_eq_getElem?_getD,hba];rfl
   have gb:R2.getD x.B.toNat false=bb:=by rw[List.getD_eq_getElem?_getD,hbb];rfl
   refine byG ?_;refine lAlloc ?_;intro b6 w hw;refine lStore ?_;intro w hw;have hw:Wd Γ (.blk b6 (.cells (enc x).toArray 120)::.blk b3 (.cells (R2.map Value.bool).toArray 194)::.blk b1 (hwC H a1 n1 c1 a2 n2 c2 a3 n3 c3 a4 n4 c4 a5 n5 c5)::S) w:=hw
   refine byG ?_;refine lY (v:=.bool ba) ?_ (hy:=y_l1b (i:=1) hw rfl rfl (getBool hba))
   refine byG ?_;refine lG (v:=.bool bb) ?_ (hv:=fun hc=>y_l1b (i:=1) hw (gvT hc rfl) rfl (getBool hbb))
   refine byG ?_;refine W_cond rfl (fun h3=>?_) (fun h3=>?_)
   ·have h3:(ba||bb)=true:=h3
    refine byG ?_;refine lStore (i:=1) (o:=0+x.A.toNat*1) (ho:=by simp;omega) ?_
    intro w hw;have hw:Wd Γ (.blk b6 (.cells (enc x).toArray 120)::.blk b3 (.cells (putCells (R2.map Value.bool).toArray (0+x.A.toNat*1) [.bool true]) 194)::.blk b1 (hwC H a1 n1 c1 a2 n2 c2 a3 n3 c3 a4 n4 c4 a5 n5 c5)::S) w:=hw
    rw[putBool (by omega)]at hw
    refine byG ?_;refine lStore (i:=1) (o:=0+x.B.toNat*1) (ho:=by simp;omega) ?_
    intro w hw;have hw:Wd Γ (.blk b6 (.cells (enc x).toArray 120)::.blk b3 (.cells (putCells ((R2.set x.A.toNat true).map Value.bool).toArray (0+x.B.toNat*1) [.bool true]) 194)::.blk b1 (hwC H a1 n1 c1 a2 n2 c2 a3 n3 c3 a4 n4 c4 a5 n5 c5)::S) w:=hw
    rw[putBool (by simp;omega)]at hw
    have hRA:Reach H.Links x0.Node x.A∧Reach H.Links x0.Node x.B:=by
     cases ba with
     | true=>
      obtain⟨n,hn,hn0,hr⟩:=hkn.ok _ hba
      have:n=x.A:=by omega
      subst this;exact⟨hr,.ab hxm hr⟩
     | false=>
      have:bb=true:=by simpa using h3
      subst this;obtain⟨n,hn,hn0,hr⟩:=hkn.ok _ hbb
      have:n=x.B:=by omega
      subst this;exact⟨.ba hxm hr,hr⟩
    have hS0:((R2.set x.A.toNat true).set x.B.toNat true)[x0.Node.toNat]? = some true:=by
     rw[List.getElem?_set,List.getElem?_set];split
     ·simp;omega
     ·split
      ·simp;omega
      ·exact hR0
    have hne:ba=bb∧(R2.set x.A.toNat true).set x.B.toNat true=R2∨ba≠bb∧((R2.set x.A.toNat true).set x.B.toNat true).count false+1≤R2.count false:=by
     cases ba with
     | true=>
      rw[set_true_self hba];cases bb with
      | true=>exact .inl ⟨rfl,set_true_self hbb⟩
      | false=>exact .inr ⟨by simp,count_set_lt hbb⟩
     | false=>
      have:bb=true:=by simpa using h3
      subst this;refine .inr ⟨by simp,?_⟩
      have h5:=count_set_lt hba
      have h6:=count_set_le (R:=R2.set x.A.toNat true) (k:=x.B.toNat)
      omega
    have hcnt2:((R2.set x.A.toNat true).set x.B.toNat true).count false≤R2.count false:=Nat.le_trans count_set_le count_set_le
    refine byG ?_;refine⟨μ2-1,by omega,k+1,_,by omega,(hkn.set hA0 hRA.1).set hB0 hRA.2,hS0,?_,⟨rfl,rfl,rfl,rfl,trivial⟩,hw.drop⟩
    rcases hor with⟨h6,h7⟩|⟨h6,h7⟩
    ·rcases hne with⟨h8,h9⟩|⟨h8,h9⟩
     ·refine .inl ⟨by rw[h9];exact h6,fun i l hi hl=>?_⟩
      by_cases e:i=k
      ·subst e;rw[hx]at hl;cases hl
       rw[←h6,ga,gb,h8]
      ·exact h7 i l (by omega) hl
     ·refine .inr ⟨fun hC=>h8 ?_,by rw[←h6];exact h9⟩
      rw[←ga,←gb,h6];exact hC x hxm
    ·exact .inr ⟨h6,by omega⟩
   ·have h3:(ba||bb)=false:=h3
    have hab:ba=bb:=by cases ba <;> cases bb <;> simp_all
    refine byG ?_;refine⟨μ2-1,by omega,k+1,R2,by omega,hkn,hR0,?_,⟨rfl,rfl,rfl,rfl,trivial⟩,hw.drop⟩
    rcases hor with⟨h6,h7⟩|h6
    ·refine .inl ⟨h6,fun i l hi hl=>?_⟩
     by_cases e:i=k
     ·subst e;rw[hx]at hl;cases hl
      rw[←h6,ga,gb,hab]
     ·exact h7 i l (by omega) hl
    ·exact .inr h6
  ·have hkn3:¬k<n3:=by have:=of_decide_eq_false h2;omega
   refine byG ?_;refine⟨μ-1,by omega,t+1,R2,by omega,hkn,hR0,?_,⟨rfl,rfl,rfl,trivial⟩,hw⟩
   rcases hor with⟨h6,h7⟩|⟨h6,h7⟩
   ·left
    rw[h6];intro l hl;obtain⟨i,hi⟩:=List.getElem?_of_mem hl
    exact h7 i l (by have:=(List.getElem?_eq_some_iff.1 hi).1;omega) hi
   ·rcases hcl with h8|h8
    ·exact absurd h8 h6
    ·exact .inr (by omega)
 ·have ht64:¬t<64:=by have:=of_decide_eq_false h;omega
  have hC:ClosedR H.Links R:=by
   rcases hcl with h8|h8
   ·exact h8
   ·omega
  clear h hcl;have hRl:=hkn.len
  have hrq:∀n:Int,0≤n∧n<64→(R.getD n.toNat false=true↔Reach H.Links x0.Node n):=fun n hn=>known_iff hkn hR0 hs00 hLk hC hn
  refine byG ?_;refine lCall ((Used_any (H:=H) (s:=H.Name) r1.rdS r4.rdS r5.rdS hNd hw).mono fun e w hq=>?_)
  clear hw;obtain⟨rfl,hw⟩:=hq;refine⟨_,rfl,?_⟩;have hUl:(markN R64 (usedN H)).length=64:=by rw[markN_len];simp
  have hUt:∀k:Nat,(markN R64 (usedN H))[k]? = some true→∃n∈usedN H,n.toNat=k:=fun k hk=>by
   rcases mark_true _ _ _ hk with h1|h1
   ·rw[List.getElem?_replicate]at h1;split at h1 <;> simp at h1
   ·exact h1
  have hUf:∀k:Nat,(markN R64 (usedN H))[k]? = some false→∀n∈usedN H,n.toNat≠k:=fun k hk=>(markN_get _ _ _ hk).2
  generalize markN R64 (usedN H)=U at *
  refine byG ?_;refine lAlloc ?_;intro b7 w hw;refine lStore (vs:=U.map Value.bool) ?_ (hl:=by simp[hUl]) (h1:=by simp[Value.oneCell']) (ho:=by simp) (hv:=by simp[Value.cells])
  intro w hw;have hw:Wd Γ (.blk b7 (.cells (putCells ((List.replicate 64 false).map Value.bool).toArray 0 (U.map Value.bool)) 194)::.blk b3 (.cells (R.map Value.bool).toArray 194)::.blk b1 (hwC H a1 n1 c1 a2 n2 c2 a3 n3 c3 a4 n4 c4 a5 n5 c5)::S) w:=hw
  rw[show putCells ((List.replicate 64 false).map Value.bool).toArray 0 (U.map Value.bool)=(U.map Value.bool).toArray from by unfold putCells;simp[hUl]]at hw
  refine byG ?_;refine W_loop (fun μ ρ w=>∃(i:Nat),μ+i=64∧(∀j:Nat,j<i→U[j]? = some true→R[j]? = some true)∧Has ρ [(3,.pointer (some ⟨b3,0,none⟩)),(7,.pointer (some ⟨b7,0,none⟩)),(8,.int .i64 i)]∧Wd Γ (.blk b7 (.cells (U.map Value.bool).toArray 194)::.blk b3 (.cells (R.map Value.bool).toArray 194)::.blk b1 (hwC H a1 n1 c1 a2 n2 c2 a3 n3 c3 a4 n4 c4 a5 n5 c5)::S) w) 64 ⟨0,by omega,fun j h=>by omega,⟨rfl,rfl,rfl,trivial⟩,hw⟩ ?_
  clear hw;rintro μ ρ w ⟨i,hi,hall,hρ,hw⟩
  rw[hρ.eq];clear hρ;refine byG ?_;refine W_cond rfl (fun h=>?_) (fun h=>?_)
  ·have hin:i<64:=by have:=of_decide_eq_true h;omega
   clear h;obtain⟨bu,hbu⟩:=get_lt (l:=U) (k:=i) (by omega)
   obtain⟨br,hbr⟩:=get_lt (l:=R) (k:=i) (by omega)
   refine byG ?_;refine lY (v:=.bool bu) ?_ (hy:=y_l1b (i:=0) hw rfl rfl (getBool hbu))
   refine byG ?_;refine lG (v:=.bool br) ?_ (hv:=fun hc=>y_l1b (i:=1) hw (gvT hc rfl) rfl (getBool hbr))
   refine byG ?_;refine W_cond rfl (fun h3=>?_) (fun h3=>?_)
   ·have h3:(bu && !br)=true:=h3
    simp only[Bool.and_eq_true,Bool.not_eq_true']at h3
    obtain⟨rfl,rfl⟩:=h3;refine byG ?_;refine⟨_,rfl,ret_b rfl ?_,hw.ds [0,0,0]⟩
    obtain⟨n,hn,hni⟩:=hUt i hbu
    refine(decP_f fun hP=>?_).symm
    have h5:=hP n hn
    rw[hhead]at h5;have h6:=(hrq n (hNd n hn)).2 h5
    rw[hni,List.getD_eq_getElem?_getD,hbr]at h6;cases h6
   ·have h3:(bu && !br)=false:=h3
    refine byG ?_;refine⟨μ-1,by omega,i+1,by omega,fun j hj hu=>?_,⟨rfl,rfl,rfl,trivial⟩,hw⟩
    by_cases e:j=i
    ·subst e;rw[hbu]at hu;cases hu
     cases br with
     | true=>exact hbr
     | false=>simp at h3
    ·exact hall j (by omega) hu
  ·have hin:¬i<64:=by have:=of_decide_eq_false h;omega
   refine byG ?_;refine⟨_,rfl,ret_b rfl ?_,hw.ds [0,0,0]⟩
   refine(decP_t fun n hn=>?_).symm
   rw[hhead];have hr:=hNd n hn
   obtain⟨bu,hbu⟩:=get_lt (l:=U) (k:=n.toNat) (by omega)
   cases bu with
   | false=>exact absurd rfl (hUf _ hbu n hn)
   | true=>
    refine(hrq n hr).1 ?_
    rw[List.getD_eq_getElem?_getD,hall n.toNat (by omega) hbu];rfl
theorem nodup_succ{α:Type}{l:List α}{i:Nat}{x:α}(h:(l.take i).Nodup)(hx:l[i]? = some x)(hn:∀j y,j<i→l[j]? = some y→x≠y):(l.take (i+1)).Nodup:=by
 rw[List.take_add_one,hx];refine List.nodup_append.2 ⟨h,by simp,fun a ha b hb e=>?_⟩
 have hb:b=x:=by simpa using hb
 subst hb;subst e;obtain⟨j,hj,hja⟩:=List.getElem_of_mem ha
 have hji:j<i:=by rw[List.length_take]at hj;omega
 refine hn j a hji ?_ rfl
 have h1:(l.take i)[j]? = some a:=by rw[List.getElem?_eq_getElem hj,hja]
 rwa [List.getElem?_take,if_pos hji]at h1
theorem not_nodup{α:Type}{l:List α}{i k:Nat}{x:α}(hk:k<i)(hx:l[i]? = some x)(hy:l[k]? = some x):¬l.Nodup:=fun h=>by
 obtain⟨h1,h2⟩:=List.getElem?_eq_some_iff.1 hx
 obtain⟨h3,h4⟩:=List.getElem?_eq_some_iff.1 hy
 exact List.pairwise_iff_getElem.1 h k i h3 h1 hk (h4.trans h2.symm)
theorem mapG{α β:Type}{f:α→β}{l:List α}{i:Nat}{x:α}(h:l[i]? = some x):(l.map f)[i]? = some (f x):=by rw[List.getElem?_map,h];rfl
theorem no_step{α:Type}{l:List α}{x y:α}{k:Nat}(h:∀j z,j<k→l[j]? = some z→x≠z)(hy:l[k]? = some y)(hxy:¬x=y):∀j z,j<k+1→l[j]? = some z→x≠z:=fun j z hj hz=>by
 by_cases e:j=k
 ·subst e;rw[hy]at hz;cases hz;exact hxy
 ·exact h j z (by omega) hz
theorem twice_any{Γ:Gho}{S:List Res}{w:World}{v:Value}(xs:List Int)(hr:RepS Γ v 1 (intRows xs))(hw:Wd Γ S w) :
  Calls Tryz.prog 167 #[v] w fun e w'=>e=.returned (.bool (!decide xs.Nodup))∧Wd Γ S w':=by
 obtain⟨a,n,c,rfl,hn,hnc,hc⟩:=hr.shape;rw[show (intRows xs).length=xs.length from List.length_map ..]at hn;refine calls_of_W Tryz.func167 rfl rfl ?_
 refine byG ?_;refine W_loop (fun μ ρ w=>∃(i:Nat),μ+i=n∧Has ρ [(0,.slice a n c),(3,.int .i64 i)]∧(xs.take i).Nodup∧Wd Γ S w) n ⟨0,by omega,⟨rfl,rfl,trivial⟩,by simp,hw⟩ ?_
 clear hw;rintro μ ρ w ⟨i,hi,hρ,hnd,hw⟩
 rw[hρ.eq];refine byG ?_;refine W_cond rfl (fun h=>?_) (fun h=>?_)
 ·have hin:i<n:=by have:=of_decide_eq_true h;omega
  clear h;obtain⟨x,hx⟩:=get_lt (l:=xs) (k:=i) (by omega)
  refine byG ?_;refine W_loop (fun μ ρ w=>∃(k:Nat),μ+k=i∧Has ρ [(0,.slice a n c),(3,.int .i64 i),(4,.int .i64 k)]∧(∀j y,j<k→xs[j]? = some y→x≠y)∧Wd Γ S w) i ⟨0,by omega,⟨rfl,rfl,rfl,trivial⟩,fun j y hj=>by omega,hw⟩ ?_
  clear hw hρ;rintro μ2 ρ w ⟨k,hk,hρ,hno,hw⟩
  rw[hρ.eq];refine byG ?_;refine W_cond rfl (fun h=>?_) (fun h=>?_)
  ·have hki:k<i:=by have:=of_decide_eq_true h;omega
   clear h;obtain⟨y,hy⟩:=get_lt (l:=xs) (k:=k) (by omega)
   refine byG ?_;refine W_quiet (by kernel_rfl) (by kernel_rfl) hw ?_
   refine byQ ?_;intro w hw;refine byG ?_;refine W_cond rfl (fun h=>?_) (fun h=>?_)
   ·have h:x=y:=of_decide_eq_true h
    subst h;refine byG ?_;exact⟨_,rfl,ret_b rfl (by rw[decide_eq_false (not_nodup hki hx hy)];rfl),hw⟩
   ·have h:¬x=y:=of_decide_eq_false h
    refine byG ?_;exact⟨μ2-1,by omega,k+1,by omega,⟨rfl,rfl,rfl,trivial⟩,no_step hno hy h,hw⟩
  ·have hki:i≤k:=by have:=of_decide_eq_false h;omega
   refine byG ?_;exact⟨μ-1,by omega,i+1,by omega,⟨rfl,rfl,trivial⟩,nodup_succ hnd hx fun j y hj=>hno j y (by omega),hw⟩
 ·have hin:n≤i:=by have:=of_decide_eq_false h;omega
  rw[List.take_of_length_le (by omega)]at hnd
  refine byG ?_;exact⟨_,rfl,ret_b rfl (by rw[decide_eq_true hnd];rfl),hw⟩
theorem key_iff(x y:LinkT):(linkKey x=linkKey y)↔(x.A=y.A∧x.B=y.B∨x.A=y.B∧x.B=y.A):=by
 unfold linkKey;rw[Prod.mk.injEq];constructor
 ·rintro⟨h1,h2⟩;split at h1 <;> split at h1 <;> split at h2 <;> split at h2 <;> omega
 ·rintro (⟨h1,h2⟩|⟨h1,h2⟩)
  ·rw[h1,h2];exact⟨rfl,rfl⟩
  ·rw[h1,h2];refine⟨?_,?_⟩
   ·split <;> split <;> omega
   ·split <;> split <;> omega
theorem uniq_no{H:HwT}(h:¬(H.Cores.map (·.ID)).Nodup∨¬(H.Caches.map (·.Name)).Nodup∨¬(H.Mems.map (·.Name)).Nodup∨¬(H.Devs.map (·.Name)).Nodup∨¬(H.Devs.map (·.IRQ)).Nodup∨¬(H.Links.map linkKey).Nodup):true = !uniqueB H:=by
 unfold uniqueB;rcases h with h|h|h|h|h|h <;> rw[decide_eq_false h] <;> simp only[Bool.and_false,Bool.false_and,Bool.not_false]
theorem duplicate_any{Γ:Gho}{u:Value}{H:HwT}[hh:HwR Γ u H]{S:List Res}{w:World}(hw:Wd Γ S w) :
  Calls Tryz.prog 150 #[u] w fun e w'=>e=.returned (.bool (!uniqueB H))∧Wd Γ S w':=by
 obtain⟨a1,n1,c1,a2,n2,c2,a3,n3,c3,a4,n4,c4,a5,n5,c5,cs,rfl,hcs,hok,hsz,r1,r2,r3,r4,r5⟩:=hh.h;obtain⟨f1,f1',f1''⟩:=rep_facts r1
 obtain⟨f2,f2',f2''⟩:=rep_facts r2
 obtain⟨f3,f3',f3''⟩:=rep_facts r3
 obtain⟨f4,f4',f4''⟩:=rep_facts r4
 obtain⟨f5,f5',f5''⟩:=rep_facts r5
 simp only[List.length_map]at f1 f2 f3 f4 f5
 have hcl:cs.length=H.Caches.length:=by rw[←hcs,List.length_map]
 refine calls_of_W Tryz.func150 rfl rfl ?_
 refine byG ?_;refine lBox ?_;intro b1 w hw;have hw:Wd Γ (.blk b1 (hwC H a1 n1 c1 a2 n2 c2 a3 n3 c3 a4 n4 c4 a5 n5 c5)::S) w:=hw
 refine byG ?_;refine W_loop (fun μ ρ w=>∃(i:Nat),μ+i=n1∧Has ρ [(1,.pointer (some ⟨b1,0,none⟩)),(3,.int .i64 i)]∧(((H.Cores.map (·.ID)).take i).Nodup)∧Wd Γ (.blk b1 (hwC H a1 n1 c1 a2 n2 c2 a3 n3 c3 a4 n4 c4 a5 n5 c5)::S) w) n1 ⟨0,by omega,⟨rfl,rfl,trivial⟩,by simp,hw⟩ ?_
 clear hw;rintro μ ρ w ⟨i,hi,hρ,hnd0,hw⟩
 rw[hρ.eq];refine byG ?_;refine W_cond rfl (fun h=>?_) (fun h=>?_)
 ·have hin:i<n1:=by have:=of_decide_eq_true h;omega
  clear h;obtain⟨x,hx⟩:=get_lt (l:=H.Cores) (k:=i) (by omega)
  refine byG ?_;refine W_loop (fun μ ρ w=>∃(k:Nat),μ+k=i∧Has ρ [(1,.pointer (some ⟨b1,0,none⟩)),(3,.int .i64 i),(4,.int .i64 k)]∧((∀j y,j<k→(H.Cores.map (·.ID))[j]? = some y→((·.ID)) x≠y))∧Wd Γ (.blk b1 (hwC H a1 n1 c1 a2 n2 c2 a3 n3 c3 a4 n4 c4 a5 n5 c5)::S) w) i ⟨0,by omega,⟨rfl,rfl,rfl,trivial⟩,fun j y hj=>by omega,hw⟩ ?_
  clear hw hρ;rintro μ2 ρ w ⟨k,hk,hρ,hno0,hw⟩
  rw[hρ.eq];refine byG ?_;refine W_cond rfl (fun h=>?_) (fun h=>?_)
  ·have hki:k<i:=by have:=of_decide_eq_true h;omega
   clear h;obtain⟨y,hy⟩:=get_lt (l:=H.Cores) (k:=k) (by omega)
   refine byG ?_;refine W_quiet (by kernel_rfl) (by kernel_rfl) hw ?_
   refine byQ ?_;intro w hw;refine byG ?_;refine W_cond rfl (fun h=>?_) (fun h=>?_)
   ·have h:x.ID=y.ID:=of_decide_eq_true h
    refine byG ?_;exact⟨_,rfl,ret_b rfl (uniq_no (.inl (not_nodup hki (mapG hx) ((mapG hy).trans (congrArg some h.symm))))),hw.drop⟩
   ·have h:¬x.ID=y.ID:=of_decide_eq_false h
    refine byG ?_;exact⟨μ2-1,by omega,k+1,by omega,⟨rfl,rfl,rfl,trivial⟩,no_step hno0 (mapG hy) h,hw⟩
  have hki:i≤k:=by have:=of_decide_eq_false h;omega
  refine byG ?_;exact⟨μ-1,by omega,i+1,by omega,⟨rfl,rfl,trivial⟩,nodup_succ hnd0 (mapG hx) fun j y hj=>hno0 j y (by omega),hw⟩
 have hin:n1≤i:=by have:=of_decide_eq_false h;omega
 clear h;rw[List.take_of_length_le (by rw[List.length_map];omega)]at hnd0
 have hq10:=hnd0
 clear hi hρ hnd0;refine byG ?_;refine W_loop (fun μ ρ w=>∃(i:Nat),μ+i=n2∧Has ρ [(1,.pointer (some ⟨b1,0,none⟩)),(5,.int .i64 i)]∧(((H.Caches.map (·.Name)).take i).Nodup)∧(∀c∈H.Caches.take i,c.Cores.Nodup)∧Wd Γ (.blk b1 (hwC H a1 n1 c1 a2 n2 c2 a3 n3 c3 a4 n4 c4 a5 n5 c5)::S) w) n2 ⟨0,by omega,⟨rfl,rfl,trivial⟩,by simp,by simp,hw⟩ ?_
 clear hw;rintro μ ρ w ⟨i,hi,hρ,hnd0,hcn,hw⟩
 rw[hρ.eq];refine byG ?_;refine W_cond rfl (fun h=>?_) (fun h=>?_)
 ·have hin:i<n2:=by have:=of_decide_eq_true h;omega
  clear h;obtain⟨x,hx⟩:=get_lt (l:=cs) (k:=i) (by omega)
  obtain⟨gx1,gx2,gx3⟩:=(hok x (List.mem_of_getElem? hx)).facts
  have hxT:H.Caches[i]? = some x.T:=by rw[←hcs,List.getElem?_map,hx];rfl
  refine byG ?_;refine W_loop (fun μ ρ w=>∃(k:Nat),μ+k=i∧Has ρ [(1,.pointer (some ⟨b1,0,none⟩)),(5,.int .i64 i),(6,.int .i64 k)]∧((∀j y,j<k→(H.Caches.map (·.Name))[j]? = some y→((·.Name)) x.T≠y))∧Wd Γ (.blk b1 (hwC H a1 n1 c1 a2 n2 c2 a3 n3 c3 a4 n4 c4 a5 n5 c5)::S) w) i ⟨0,by omega,⟨rfl,rfl,rfl,trivial⟩,fun j y hj=>by omega,hw⟩ ?_
  clear hw hρ;rintro μ2 ρ w ⟨k,hk,hρ,hno0,hw⟩
  rw[hρ.eq];refine byG ?_;refine W_cond rfl (fun h=>?_) (fun h=>?_)
  ·have hki:k<i:=by have:=of_decide_eq_true h;omega
   clear h;obtain⟨y,hy⟩:=get_lt (l:=cs) (k:=k) (by omega)
   have hyT:H.Caches[k]? = some y.T:=by rw[←hcs,List.getElem?_map,hy];rfl
   refine byG ?_;refine W_quiet (by kernel_rfl) (by kernel_rfl) hw ?_
   refine byQ ?_;intro w hw;refine byG ?_;refine W_cond rfl (fun h=>?_) (fun h=>?_)
   ·have h:x.Name=y.Name:=of_decide_eq_true h
    refine byG ?_;exact⟨_,rfl,ret_b rfl (uniq_no (.inr (.inl (not_nodup hki (mapG hxT) ((mapG hyT).trans (congrArg some h.symm)))))),hw.drop⟩
   ·have h:¬x.Name=y.Name:=of_decide_eq_false h
    refine byG ?_;exact⟨μ2-1,by omega,k+1,by omega,⟨rfl,rfl,rfl,trivial⟩,no_step hno0 (mapG hyT) h,hw⟩
  have hki:i≤k:=by have:=of_decide_eq_false h;omega
  have hrd:RepS Γ (.slice x.A x.N x.C) 1 (intRows x.Cores):=hok x (List.mem_of_getElem? hx)
  refine byG ?_;refine lCall ?_;refine(twice_any x.Cores hrd hw).mono ?_
  clear hw;rintro e w ⟨rfl,hw⟩
  refine⟨_,rfl,?_⟩;refine byG ?_;refine W_cond rfl (fun h2=>?_) (fun h2=>?_)
  ·have h2:(!decide x.Cores.Nodup)=true:=h2
   have h2:¬x.Cores.Nodup:=of_decide_eq_false (notF h2)
   refine byG ?_;refine⟨_,rfl,ret_b rfl ?_,hw.drop⟩
   unfold uniqueB;rw[all_no hxT (p:=fun c=>decide c.Cores.Nodup) (decide_eq_false h2),Bool.false_and];rfl
  have h2:(!decide x.Cores.Nodup)=false:=h2
  have h2:x.Cores.Nodup:=of_decide_eq_true (notT h2)
  refine byG ?_;refine⟨μ-1,by omega,i+1,by omega,⟨rfl,rfl,trivial⟩,nodup_succ hnd0 (mapG hxT) fun j y hj=>hno0 j y (by omega),fun c hc=>?_,hw⟩
  rw[List.take_add_one,hxT]at hc;rcases List.mem_append.1 hc with q|q
  ·exact hcn c q
  ·rw[show c=x.T by simpa using q];exact h2
 have hin:n2≤i:=by have:=of_decide_eq_false h;omega
 clear h;rw[List.take_of_length_le (by rw[List.length_map];omega)]at hnd0
 rw[List.take_of_length_le (by omega)]at hcn
 have hq20:=hnd0
 clear hi hρ hnd0;refine byG ?_;refine W_loop (fun μ ρ w=>∃(i:Nat),μ+i=n4∧Has ρ [(1,.pointer (some ⟨b1,0,none⟩)),(7,.int .i64 i)]∧(((H.Mems.map (·.Name)).take i).Nodup)∧Wd Γ (.blk b1 (hwC H a1 n1 c1 a2 n2 c2 a3 n3 c3 a4 n4 c4 a5 n5 c5)::S) w) n4 ⟨0,by omega,⟨rfl,rfl,trivial⟩,by simp,hw⟩ ?_
 clear hw;rintro μ ρ w ⟨i,hi,hρ,hnd0,hw⟩
 rw[hρ.eq];refine byG ?_;refine W_cond rfl (fun h=>?_) (fun h=>?_)
 ·have hin:i<n4:=by have:=of_decide_eq_true h;omega
  clear h;obtain⟨x,hx⟩:=get_lt (l:=H.Mems) (k:=i) (by omega)
  refine byG ?_;refine W_loop (fun μ ρ w=>∃(k:Nat),μ+k=i∧Has ρ [(1,.pointer (some ⟨b1,0,none⟩)),(7,.int .i64 i),(8,.int .i64 k)]∧((∀j y,j<k→(H.Mems.map (·.Name))[j]? = some y→((·.Name)) x≠y))∧Wd Γ (.blk b1 (hwC H a1 n1 c1 a2 n2 c2 a3 n3 c3 a4 n4 c4 a5 n5 c5)::S) w) i ⟨0,by omega,⟨rfl,rfl,rfl,trivial⟩,fun j y hj=>by omega,hw⟩ ?_
  clear hw hρ;rintro μ2 ρ w ⟨k,hk,hρ,hno0,hw⟩
  rw[hρ.eq];refine byG ?_;refine W_cond rfl (fun h=>?_) (fun h=>?_)
  ·have hki:k<i:=by have:=of_decide_eq_true h;omega
   clear h;obtain⟨y,hy⟩:=get_lt (l:=H.Mems) (k:=k) (by omega)
   refine byG ?_;refine W_quiet (by kernel_rfl) (by kernel_rfl) hw ?_
   refine byQ ?_;intro w hw;refine byG ?_;refine W_cond rfl (fun h=>?_) (fun h=>?_)
   ·have h:x.Name=y.Name:=of_decide_eq_true h
    refine byG ?_;exact⟨_,rfl,ret_b rfl (uniq_no (.inr (.inr (.inl (not_nodup hki (mapG hx) ((mapG hy).trans (congrArg some h.symm))))))),hw.drop⟩
   ·have h:¬x.Name=y.Name:=of_decide_eq_false h
    refine byG ?_;exact⟨μ2-1,by omega,k+1,by omega,⟨rfl,rfl,rfl,trivial⟩,no_step hno0 (mapG hy) h,hw⟩
  have hki:i≤k:=by have:=of_decide_eq_false h;omega
  refine byG ?_;exact⟨μ-1,by omega,i+1,by omega,⟨rfl,rfl,trivial⟩,nodup_succ hnd0 (mapG hx) fun j y hj=>hno0 j y (by omega),hw⟩
 have hin:n4≤i:=by have:=of_decide_eq_false h;omega
 clear h;rw[List.take_of_length_le (by rw[List.length_map];omega)]at hnd0
 have hq40:=hnd0
 clear hi hρ hnd0;refine byG ?_;refine W_loop (fun μ ρ w=>∃(i:Nat),μ+i=n5∧Has ρ [(1,.pointer (some ⟨b1,0,none⟩)),(9,.int .i64 i)]∧(((H.Devs.map (·.Name)).take i).Nodup∧((H.Devs.map (·.IRQ)).take i).Nodup)∧Wd Γ (.blk b1 (hwC H a1 n1 c1 a2 n2 c2 a3 n3 c3 a4 n4 c4 a5 n5 c5)::S) w) n5 ⟨0,by omega,⟨rfl,rfl,trivial⟩,by simp,hw⟩ ?_
 clear hw;rintro μ ρ w ⟨i,hi,hρ,⟨hnd0,hnd1⟩,hw⟩
 rw[hρ.eq];refine byG ?_;refine W_cond rfl (fun h=>?_) (fun h=>?_)
 ·have hin:i<n5:=by have:=of_decide_eq_true h;omega
  clear h;obtain⟨x,hx⟩:=get_lt (l:=H.Devs) (k:=i) (by omega)
  refine byG ?_;refine W_loop (fun μ ρ w=>∃(k:Nat),μ+k=i∧Has ρ [(1,.pointer (some ⟨b1,0,none⟩)),(9,.int .i64 i),(10,.int .i64 k)]∧((∀j y,j<k→(H.Devs.map (·.Name))[j]? = some y→((·.Name)) x≠y)∧(∀j y,j<k→(H.Devs.map (·.IRQ))[j]? = some y→((·.IRQ)) x≠y))∧Wd Γ (.blk b1 (hwC H a1 n1 c1 a2 n2 c2 a3 n3 c3 a4 n4 c4 a5 n5 c5)::S) w) i ⟨0,by omega,⟨rfl,rfl,rfl,trivial⟩,⟨fun j y hj=>by omega,fun j y hj=>by omega⟩,hw⟩ ?_
  clear hw hρ;rintro μ2 ρ w ⟨k,hk,hρ,⟨hno0,hno1⟩,hw⟩
  rw[hρ.eq];refine byG ?_;refine W_cond rfl (fun h=>?_) (fun h=>?_)
  ·have hki:k<i:=by have:=of_decide_eq_true h;omega
   clear h;obtain⟨y,hy⟩:=get_lt (l:=H.Devs) (k:=k) (by omega)
   refine byG ?_;refine W_quiet (by kernel_rfl) (by kernel_rfl) hw ?_
   refine byQ ?_;intro w hw;refine byG ?_;refine W_cond rfl (fun h=>?_) (fun h=>?_)
   ·have h:(decide (x.Name=y.Name)||decide (x.IRQ=y.IRQ))=true:=h
    rw[Bool.or_eq_true,decide_eq_true_eq,decide_eq_true_eq]at h;refine byG ?_;refine⟨_,rfl,ret_b rfl (uniq_no (.inr (.inr (.inr ?_)))),hw.drop⟩
    rcases h with h|h
    ·exact .inl (not_nodup hki (mapG hx) ((mapG hy).trans (congrArg some h.symm)))
    ·exact .inr (.inl (not_nodup hki (mapG hx) ((mapG hy).trans (congrArg some h.symm))))
   ·have h:(decide (x.Name=y.Name)||decide (x.IRQ=y.IRQ))=false:=h
    rw[Bool.or_eq_false_iff,decide_eq_false_iff_not,decide_eq_false_iff_not]at h;refine byG ?_;exact⟨μ2-1,by omega,k+1,by omega,⟨rfl,rfl,rfl,trivial⟩,⟨no_step hno0 (mapG hy) h.1,no_step hno1 (mapG hy) h.2⟩,hw⟩
  have hki:i≤k:=by have:=of_decide_eq_false h;omega
  refine byG ?_;exact⟨μ-1,by omega,i+1,by omega,⟨rfl,rfl,trivial⟩,⟨nodup_succ hnd0 (mapG hx) fun j y hj=>hno0 j y (by omega),nodup_succ hnd1 (mapG hx) fun j y hj=>hno1 j y (by omega)⟩,hw⟩
 have hin:n5≤i:=by have:=of_decide_eq_false h;omega
 clear h;rw[List.take_of_length_le (by rw[List.length_map];omega)]at hnd0
 rw[List.take_of_length_le (by rw[List.length_map];omega)]at hnd1
 have hq50:=hnd0
 have hq51:=hnd1
 clear hi hρ hnd0 hnd1;refine byG ?_;refine W_loop (fun μ ρ w=>∃(i:Nat),μ+i=n3∧Has ρ [(1,.pointer (some ⟨b1,0,none⟩)),(11,.int .i64 i)]∧(((H.Links.map linkKey).take i).Nodup)∧Wd Γ (.blk b1 (hwC H a1 n1 c1 a2 n2 c2 a3 n3 c3 a4 n4 c4 a5 n5 c5)::S) w) n3 ⟨0,by omega,⟨rfl,rfl,trivial⟩,by simp,hw⟩ ?_
 clear hw;rintro μ ρ w ⟨i,hi,hρ,hnd0,hw⟩
 rw[hρ.eq];refine byG ?_;refine W_cond rfl (fun h=>?_) (fun h=>?_)
 ·have hin:i<n3:=by have:=of_decide_eq_true h;omega
  clear h;obtain⟨x,hx⟩:=get_lt (l:=H.Links) (k:=i) (by omega)
  refine byG ?_;refine W_loop (fun μ ρ w=>∃(k:Nat),μ+k=i∧Has ρ [(1,.pointer (some ⟨b1,0,none⟩)),(11,.int .i64 i),(12,.int .i64 k)]∧((∀j y,j<k→(H.Links.map linkKey)[j]? = some y→(linkKey) x≠y))∧Wd Γ (.blk b1 (hwC H a1 n1 c1 a2 n2 c2 a3 n3 c3 a4 n4 c4 a5 n5 c5)::S) w) i ⟨0,by omega,⟨rfl,rfl,rfl,trivial⟩,fun j y hj=>by omega,hw⟩ ?_
  clear hw hρ;rintro μ2 ρ w ⟨k,hk,hρ,hno0,hw⟩
  rw[hρ.eq];refine byG ?_;refine W_cond rfl (fun h=>?_) (fun h=>?_)
  ·have hki:k<i:=by have:=of_decide_eq_true h;omega
   clear h;obtain⟨y,hy⟩:=get_lt (l:=H.Links) (k:=k) (by omega)
   refine byG ?_;refine W_mixed [.blk b1 (hwC H a1 n1 c1 a2 n2 c2 a3 n3 c3 a4 n4 c4 a5 n5 c5)] [fun _=>[],fun _=>[],fun _=>S] [[],[],[],[],[],[],[],[],[],[],[0],[1],[0],[1]] [[],[],[],[],[],[],[],[],[],[],[0],[1],[0],[1]] [[13],[14],[]] (by have:=hw;simpa[List.range,List.range.loop,ML] using this) ?_
   refine byM ?_;refine mAlloc ?_
   refine mAlloc ?_
   refine mStoreAt ?_
   refine mStoreAt ?_
   refine mEnd fun w g hw=>?_
   have hw:Wd Γ (.blk b1 (hwC H a1 n1 c1 a2 n2 c2 a3 n3 c3 a4 n4 c4 a5 n5 c5)::atP (g 13) _::atP (g 14) _::(S++[])) w:=hw
   rw[List.append_nil]at hw;obtain⟨b13,hg13,hw⟩:=(Wd.ps [1] hw).openAt
   have hw:Wd Γ (.blk b13 (.cells (enc x).toArray 120)::.blk b1 (hwC H a1 n1 c1 a2 n2 c2 a3 n3 c3 a4 n4 c4 a5 n5 c5)::atP (g 14) _::S) w:=hw
   obtain⟨b14,hg14,hw⟩:=(Wd.ps [2] hw).openAt
   have hw:Wd Γ (.blk b14 (.cells (enc y).toArray 120)::.blk b13 (.cells (enc x).toArray 120)::.blk b1 (hwC H a1 n1 c1 a2 n2 c2 a3 n3 c3 a4 n4 c4 a5 n5 c5)::S) w:=hw
   refine W_has (l:=[(1,.pointer (some ⟨b1,0,none⟩)),(11,.int .i64 i),(12,.int .i64 k),(13,.pointer (some ⟨b13,0,none⟩)),(14,.pointer (some ⟨b14,0,none⟩))]) ⟨rfl,rfl,rfl,hg13,hg14,trivial⟩ fun ρ' hρ'=>?_
   clear hg13 hg14;rw[hρ'.eq];clear hρ';refine byG ?_;refine W_cond rfl (fun h=>?_) (fun h=>?_)
   ·have h:((decide (x.A=y.A)&&decide (x.B=y.B))||(decide (x.A=y.B)&&decide (x.B=y.A)))=true:=h
    simp only[Bool.or_eq_true,Bool.and_eq_true,decide_eq_true_eq]at h
    refine byG ?_;exact⟨_,rfl,ret_b rfl (uniq_no (.inr (.inr (.inr (.inr (.inr (not_nodup hki (mapG hx) ((mapG hy).trans (congrArg some ((key_iff x y).2 h).symm))))))))),hw.ds [0,0,0]⟩
   ·have h:((decide (x.A=y.A)&&decide (x.B=y.B))||(decide (x.A=y.B)&&decide (x.B=y.A)))=false:=h
    have h:¬linkKey x=linkKey y:=fun q=>by
     have q:=(key_iff x y).1 q
     have:((decide (x.A=y.A)&&decide (x.B=y.B))||(decide (x.A=y.B)&&decide (x.B=y.A)))=true:=by
      simp only[Bool.or_eq_true,Bool.and_eq_true,decide_eq_true_eq];exact q
     rw[h]at this;cases this
    refine byG ?_;exact⟨μ2-1,by omega,k+1,by omega,⟨rfl,rfl,rfl,trivial⟩,no_step hno0 (mapG hy) h,hw.ds [0,0]⟩
  have hki:i≤k:=by have:=of_decide_eq_false h;omega
  refine byG ?_;exact⟨μ-1,by omega,i+1,by omega,⟨rfl,rfl,trivial⟩,nodup_succ hnd0 (mapG hx) fun j y hj=>hno0 j y (by omega),hw⟩
 have hin:n3≤i:=by have:=of_decide_eq_false h;omega
 clear h;rw[List.take_of_length_le (by rw[List.length_map];omega)]at hnd0
 have hq30:=hnd0
 clear hi hρ hnd0;refine byG ?_;refine⟨_,rfl,ret_b rfl ?_,hw.drop⟩
 have hcn':H.Caches.all (fun c=>decide c.Cores.Nodup)=true:=List.all_eq_true.2 fun c hc=>decide_eq_true (hcn c hc)
 unfold uniqueB;rw[hcn',decide_eq_true hq10,decide_eq_true hq20,decide_eq_true hq40,decide_eq_true hq50,decide_eq_true hq51,decide_eq_true hq30];rfl
theorem hasR_any{Γ:Gho}{S:List Res}{w:World}{v:Value}{xs:List Int}(hr:RdS Γ S v 1 (intRows xs))(x:Int)(hw:Wd Γ S w):Calls Tryz.prog 168 #[v,.int .i64 x] w fun e w'=>e=.returned (.bool (memI x xs))∧Wd Γ S w':=by
 obtain⟨a,n,c,rfl,hn,hnc,hc⟩:=hr.shape;have hn0:=hn
 rw[show (intRows xs).length=xs.length from List.length_map ..]at hn;refine calls_of_W Tryz.func168 rfl rfl ?_
 refine byG ?_;refine W_loop (fun μ ρ w=>∃(k:Nat),μ+k=n∧Has ρ [(0,.slice a n c),(1,.int .i64 x),(5,.int .i64 k)]∧memI x xs=memI x (xs.drop k)∧Wd Γ S w) n ⟨0,by omega,⟨rfl,rfl,rfl,trivial⟩,rfl,hw⟩ ?_
 clear hw;rintro μ ρ w ⟨k,hk,hρ,hal,hw⟩
 rw[hρ.eq];refine byG ?_;refine W_cond rfl (fun h=>?_) (fun h=>?_)
 ·have hkn:k<n:=by have:=of_decide_eq_true h;omega
  clear h;obtain⟨y,hy⟩:=get_lt (l:=xs) (k:=k) (by omega)
  have hm:memI x (xs.drop k)=(decide (x=y)||memI x (xs.drop (k+1))):=by unfold memI;rw[dropG hy,List.any_cons]
  rw[hm]at hal;refine byG ?_;refine W_cond rfl (fun h=>?_) (fun h=>?_)
  ·have h:y=x:=of_decide_eq_true h
   refine byG ?_;exact⟨_,rfl,ret_b rfl (by rw[hal,decide_eq_true h.symm];rfl),hw⟩
  ·have h:¬y=x:=of_decide_eq_false h
   rw[decide_eq_false (fun q=>h q.symm),Bool.false_or]at hal;refine byG ?_;exact⟨μ-1,by omega,k+1,by omega,⟨rfl,rfl,rfl,trivial⟩,hal,hw⟩
 ·have hkn:n≤k:=by have:=of_decide_eq_false h;omega
  have:memI x (xs.drop k)=false:=by rw[List.drop_eq_nil_of_le (by omega)];rfl
  rw[this]at hal;refine byG ?_;exact⟨_,rfl,ret_b rfl hal.symm,hw⟩
instance pg_hasR{Γ:Gho}{v:Value}{xs:List Int}[hr:SlC Γ v 1 (intRows xs)](x:Int):PG Tryz.prog Γ 168 [v,.int .i64 x] (.bool (memI x xs)):=⟨fun S w hw=>hasR_any hr.h.rdS x hw⟩
def ascP(l:List Int):Prop:=∀(i:Nat) (a b:Int),l[i]? = some a→l[i+1]? = some b→a<b
def NestP(l:List CacheT):Prop:=(∀c∈l,ascP c.Cores)∧∀(i k:Nat) (a b:CacheT),l[i]? = some a→l[k]? = some b→pairB i k a b=true
theorem nested_any{Γ:Gho}{u:Value}{H:HwT}[hh:HwR Γ u H]{S:List Res}{w:World}(hw:Wd Γ S w) :
  Calls Tryz.prog 151 #[u] w fun e w'=>e=.returned (.bool (decP (NestP H.Caches)))∧Wd Γ S w':=by
 obtain⟨a1,n1,c1,a2,n2,c2,a3,n3,c3,a4,n4,c4,a5,n5,c5,cs,rfl,hcs,hok,hsz,r1,r2,r3,r4,r5⟩:=hh.h;obtain⟨hn2,hm2,hx2⟩:=rep_facts r2
 simp only[List.length_map]at hn2
 have hget:∀(i:Nat) (x:CacheH),cs[i]? = some x→H.Caches[i]? = some x.T:=fun i x h=>by rw[←hcs];simp[h]
 refine calls_of_W Tryz.func151 rfl rfl ?_
 refine byG ?_;refine lBox ?_;intro b1 w hw;have hw:Wd Γ (.blk b1 (hwC H a1 n1 c1 a2 n2 c2 a3 n3 c3 a4 n4 c4 a5 n5 c5)::S) w:=hw
 refine byG ?_;refine W_loop (fun μ ρ w=>∃(k:Nat),μ+k=n2∧Has ρ [(1,.pointer (some ⟨b1,0,none⟩)),(3,.int .i64 k)]∧(∀(i:Nat) (x:CacheH),i<k→cs[i]? = some x→ascP x.Cores)∧Wd Γ (.blk b1 (hwC H a1 n1 c1 a2 n2 c2 a3 n3 c3 a4 n4 c4 a5 n5 c5)::S) w) n2 ⟨0,by omega,⟨rfl,rfl,trivial⟩,fun i x h=>by omega,hw⟩ ?_
 clear hw;rintro μ ρ w ⟨k,hk,hρ,hall,hw⟩
 rw[hρ.eq];refine byG ?_;refine W_cond rfl (fun h=>?_) (fun h=>?_)
 ·have hkn:k<n2:=by have:=of_decide_eq_true h;omega
  clear h;obtain⟨x,hx⟩:=get_lt (l:=cs) (k:=k) (by omega)
  have hcx:=hok x (List.mem_of_getElem? hx)
  obtain⟨hxn,hxm,hxc⟩:=hcx.facts;unfold COk at hcx;refine byG ?_;refine lAlloc ?_;intro b4 w hw;refine lStore ?_;intro w hw;have hw:Wd Γ (.blk b4 (.cells (cC x).toArray 125)::.blk b1 (hwC H a1 n1 c1 a2 n2 c2 a3 n3 c3 a4 n4 c4 a5 n5 c5)::S) w:=hw
  refine byG ?_;refine W_loop (fun μ2 ρ w=>∃(j:Nat),μ2+j=x.N+1∧1≤j∧Has ρ [(1,.pointer (some ⟨b1,0,none⟩)),(3,.int .i64 k),(4,.pointer (some ⟨b4,0,none⟩)),(5,.int .i64 j)]∧(∀(i:Nat) (a b:Int),i+1<j→x.Cores[i]? = some a→x.Cores[i+1]? = some b→a<b)∧Wd Γ (.blk b4 (.cells (cC x).toArray 125)::.blk b1 (hwC H a1 n1 c1 a2 n2 c2 a3 n3 c3 a4 n4 c4 a5 n5 c5)::S) w) x.N ⟨1,by omega,by omega,⟨rfl,rfl,rfl,rfl,trivial⟩,fun i a b h=>by omega,hw⟩ ?_
  clear hw hρ;rintro μ2 ρ w ⟨j,hj,hj1,hρ,hasc,hw⟩
  rw[hρ.eq];refine byG ?_;refine W_cond rfl (fun h=>?_) (fun h=>?_)
  ·have hjn:j<x.N:=by have:=of_decide_eq_true h;omega
   clear h;obtain⟨i,rfl⟩:∃i,j=i+1:=⟨j-1,by omega⟩
   obtain⟨b,hb⟩:=get_lt (l:=x.Cores) (k:=i+1) (by omega)
   obtain⟨a,ha⟩:=get_lt (l:=x.Cores) (k:=i) (by omega)
   have ha':x.Cores[(((i+1:Nat):Int)-1).toNat]? = some a:=by rw[show (((i+1:Nat):Int)-1).toNat=i by omega];exact ha
   refine byG ?_;refine W_quiet (by kernel_rfl) (by kernel_rfl) hw ?_
   refine byQ ?_;intro w hw;refine byG ?_;refine W_cond rfl (fun h=>?_) (fun h=>?_)
   ·have h:b≤a:=of_decide_eq_true h
    refine byG ?_;refine⟨_,rfl,ret_b rfl ?_,hw.ds [0,0]⟩
    refine(decP_f fun hP=>?_).symm
    have:=hP.1 x.T (List.mem_of_getElem? (hget k x hx)) i a b ha hb
    omega
   ·have h:¬b≤a:=of_decide_eq_false h
    refine byG ?_;refine⟨μ2-1,by omega,i+1+1,by omega,by omega,⟨rfl,rfl,rfl,rfl,trivial⟩,fun i' a' b' hi' hA hB=>?_,hw⟩
    by_cases e:i'=i
    ·subst e;rw[ha]at hA;rw[hb]at hB;cases hA;cases hB;omega
    ·exact hasc i' a' b' (by omega) hA hB
  ·have hjn:x.N≤j:=by have:=of_decide_eq_false h;omega
   refine byG ?_;refine⟨μ-1,by omega,k+1,by omega,⟨rfl,rfl,trivial⟩,fun i y hi hy=>?_,hw.drop⟩
   by_cases e:i=k
   ·subst e;rw[hx]at hy;cases hy
    exact fun i a b ha hb=>hasc i a b (by have:=(List.getElem?_eq_some_iff.1 hb).1;omega) ha hb
   ·exact hall i y (by omega) hy
 have hkn:n2≤k:=by have:=of_decide_eq_false h;omega
 have hsort:∀(i:Nat) (x:CacheH),cs[i]? = some x→ascP x.Cores:=fun i x hx=>hall i x (by have:=(List.getElem?_eq_some_iff.1 hx).1;omega) hx
 clear h hkn hall hρ hk;refine byG ?_;refine W_loop (fun μ ρ w=>∃(k:Nat),μ+k=n2∧Has ρ [(1,.pointer (some ⟨b1,0,none⟩)),(6,.int .i64 k)]∧(∀(i j:Nat) (a b:CacheH),i<k→cs[i]? = some a→cs[j]? = some b→pairB i j a.T b.T=true)∧Wd Γ (.blk b1 (hwC H a1 n1 c1 a2 n2 c2 a3 n3 c3 a4 n4 c4 a5 n5 c5)::S) w) n2 ⟨0,by omega,⟨rfl,rfl,trivial⟩,fun i j a b h=>by omega,hw⟩ ?_
 clear hw;rintro μ ρ w ⟨i,hi,hρ,hall,hw⟩
 rw[hρ.eq];refine byG ?_;refine W_cond rfl (fun h=>?_) (fun h=>?_)
 ·have hin:i<n2:=by have:=of_decide_eq_true h;omega
  clear h;obtain⟨x,hx⟩:=get_lt (l:=cs) (k:=i) (by omega)
  have hcx:=hok x (List.mem_of_getElem? hx)
  obtain⟨hxn,hxm,hxc⟩:=hcx.facts;unfold COk at hcx;refine byG ?_;refine W_loop (fun μ2 ρ w=>∃(k:Nat),μ2+k=n2∧Has ρ [(1,.pointer (some ⟨b1,0,none⟩)),(6,.int .i64 i),(7,.int .i64 k)]∧(∀(j:Nat) (b:CacheH),j<k→cs[j]? = some b→pairB i j x.T b.T=true)∧Wd Γ (.blk b1 (hwC H a1 n1 c1 a2 n2 c2 a3 n3 c3 a4 n4 c4 a5 n5 c5)::S) w) n2 ⟨0,by omega,⟨rfl,rfl,rfl,trivial⟩,fun j b h=>by omega,hw⟩ ?_
  clear hw hρ;rintro μ2 ρ w ⟨k,hk,hρ,hall2,hw⟩
  rw[hρ.eq];refine byG ?_;refine W_cond rfl (fun h2=>?_) (fun h2=>?_)
  ·have hkn:k<n2:=by have:=of_decide_eq_true h2;omega
   clear h2;obtain⟨y,hy⟩:=get_lt (l:=cs) (k:=k) (by omega)
   have hcy:=hok y (List.mem_of_getElem? hy)
   obtain⟨hyn,hym,hyc⟩:=hcy.facts;haveI:SlC Γ (.slice y.A y.N y.C) 1 (intRows y.Cores):=⟨hcy⟩
   refine byG ?_;refine W_mixed [.blk b1 (hwC H a1 n1 c1 a2 n2 c2 a3 n3 c3 a4 n4 c4 a5 n5 c5)] [fun _=>[],fun _=>[],fun _=>S] [[],[],[],[],[],[],[],[],[],[],[0],[1],[0],[1]] [[],[],[],[],[],[],[],[],[],[],[0],[1],[0],[1]] [[8],[9],[]] (by have:=hw;simpa[List.range,List.range.loop,ML] using this) ?_
   refine byM ?_;refine mAlloc ?_
   refine mAlloc ?_
   refine mStoreAt ?_
   refine mStoreAt ?_
   refine mEnd fun w g hw=>?_
   have hw:Wd Γ (.blk b1 (hwC H a1 n1 c1 a2 n2 c2 a3 n3 c3 a4 n4 c4 a5 n5 c5)::atP (g 8) _::atP (g 9) _::(S++[])) w:=hw
   rw[List.append_nil]at hw;obtain⟨b8,hg8,hw⟩:=(Wd.ps [1] hw).openAt
   have hw:Wd Γ (.blk b8 (.cells (cC x).toArray 125)::.blk b1 (hwC H a1 n1 c1 a2 n2 c2 a3 n3 c3 a4 n4 c4 a5 n5 c5)::atP (g 9) _::S) w:=hw
   obtain⟨b9,hg9,hw⟩:=(Wd.ps [2] hw).openAt
   have hw:Wd Γ (.blk b9 (.cells (cC y).toArray 125)::.blk b8 (.cells (cC x).toArray 125)::.blk b1 (hwC H a1 n1 c1 a2 n2 c2 a3 n3 c3 a4 n4 c4 a5 n5 c5)::S) w:=hw
   refine W_has (l:=[(1,.pointer (some ⟨b1,0,none⟩)),(6,.int .i64 i),(7,.int .i64 k),(8,.pointer (some ⟨b8,0,none⟩)),(9,.pointer (some ⟨b9,0,none⟩))]) ⟨rfl,rfl,rfl,hg8,hg9,trivial⟩ fun ρ' hρ'=>?_
   clear hg8 hg9;rw[hρ'.eq];clear hρ';refine byG ?_;refine W_cond rfl (fun h3=>?_) (fun h3=>?_)
   ·have hp:pairB i k x.T y.T=true:=by
     have h3:(decide ((i:Int)=k)||decide (y.Level<x.Level))=true:=h3
     unfold pairB CacheH.T;rw[show decide (i=k)=decide ((i:Int)=k) from decide_eq_decide.2 (by omega)]
     rw[h3];rfl
    refine byG ?_;exact⟨μ2-1,by omega,k+1,by omega,⟨rfl,rfl,rfl,trivial⟩,allI_step (p:=fun j b=>pairB i j x.T b.T) hall2 hy hp,hw.ds [0,0]⟩
   ·have h3:(decide ((i:Int)=k)||decide (y.Level<x.Level))=false:=h3
    refine byG ?_;refine W_loop (fun μ3 ρ w=>∃(j:Nat),μ3+j=x.N∧Has ρ [(1,.pointer (some ⟨b1,0,none⟩)),(6,.int .i64 i),(7,.int .i64 k),(8,.pointer (some ⟨b8,0,none⟩)),(9,.pointer (some ⟨b9,0,none⟩)),(10,.int .i64 (sharedN (x.Cores.take j) y.Cores)),(11,.int .i64 j)]∧Wd Γ (.blk b9 (.cells (cC y).toArray 125)::.blk b8 (.cells (cC x).toArray 125)::.blk b1 (hwC H a1 n1 c1 a2 n2 c2 a3 n3 c3 a4 n4 c4 a5 n5 c5)::S) w) x.N ⟨0,by omega,⟨rfl,rfl,rfl,rfl,rfl,rfl,rfl,trivial⟩,hw⟩ ?_
    clear hw;rintro μ3 ρ w ⟨j,hj,hρ,hw⟩
    rw[hρ.eq];have hle:sharedN (x.Cores.take j) y.Cores≤j:=Nat.le_trans (List.length_filter_le _ _) (by simp;omega)
    refine byG ?_;refine W_cond rfl (fun h4=>?_) (fun h4=>?_)
    ·have hjn:j<x.N:=by have:=of_decide_eq_true h4;omega
     obtain⟨v,hv⟩:=get_lt (l:=x.Cores) (k:=j) (by omega)
     have hst:sharedN (x.Cores.take (j+1)) y.Cores=sharedN (x.Cores.take j) y.Cores+(if memI v y.Cores=true then 1 else 0):=by
      unfold sharedN;rw[take_succ_of hv,List.filter_append,List.length_append];congr 1
      by_cases e:memI v y.Cores=true <;> simp[e]
     refine byG ?_;refine W_quiet (by kernel_rfl) (by kernel_rfl) hw ?_
     refine byQ ?_;intro w hw;refine byG ?_;refine W_cond rfl (fun h5=>?_) (fun h5=>?_)
     ·rw[if_pos h5]at hst;refine byG ?_;exact⟨μ3-1,by omega,j+1,by omega,⟨rfl,rfl,rfl,rfl,rfl,by rw[hst];rfl,rfl,trivial⟩,hw⟩
     ·rw[if_neg (by rw[h5];simp)]at hst
      refine byG ?_;exact⟨μ3-1,by omega,j+1,by omega,⟨rfl,rfl,rfl,rfl,rfl,by rw[hst];rfl,rfl,trivial⟩,hw⟩
    ·have hjn:¬j<x.N:=by have:=of_decide_eq_false h4;omega
     rw[List.take_of_length_le (by omega)]
     refine byG ?_;have key:pairB i k x.T y.T = !(decide ((0:Int)<(sharedN x.Cores y.Cores:Nat))&&(decide (x.Level=y.Level)||decide (((sharedN x.Cores y.Cores:Nat):Int)<x.N))):=by
      unfold pairB CacheH.T;rw[show decide (i=k)=decide ((i:Int)=k) from decide_eq_decide.2 (by omega),h3]
      rw[show decide (0<sharedN x.Cores y.Cores)=decide ((0:Int)<(sharedN x.Cores y.Cores:Nat)) from decide_eq_decide.2 (by omega)]
      rw[show decide (sharedN x.Cores y.Cores<x.Cores.length)=decide (((sharedN x.Cores y.Cores:Nat):Int)<x.N) from decide_eq_decide.2 (by omega)]
      rfl
     refine W_cond rfl (fun h6=>?_) (fun h6=>?_)
     ·have hp:pairB i k x.T y.T=false:=key.trans (congrArg (fun b=>!b) h6)
      refine byG ?_;refine⟨_,rfl,ret_b rfl ?_,hw.ds [0,0,0]⟩
      refine(decP_f fun hP=>?_).symm
      rw[hP.2 i k x.T y.T (hget i x hx) (hget k y hy)]at hp;cases hp
     ·have hp:pairB i k x.T y.T=true:=key.trans (congrArg (fun b=>!b) h6)
      refine byG ?_;exact⟨μ2-1,by omega,k+1,by omega,⟨rfl,rfl,rfl,trivial⟩,allI_step (p:=fun j b=>pairB i j x.T b.T) hall2 hy hp,hw.ds [0,0]⟩
  ·have hkn:n2≤k:=by have:=of_decide_eq_false h2;omega
   refine byG ?_;refine⟨μ-1,by omega,i+1,by omega,⟨rfl,rfl,trivial⟩,fun i' j a b h1 ha hb=>?_,hw⟩
   by_cases e:i'=i
   ·subst e;rw[hx]at ha;cases ha
    exact hall2 j b (by have:=(List.getElem?_eq_some_iff.1 hb).1;omega) hb
   ·exact hall i' j a b (by omega) ha hb
 ·have hin:n2≤i:=by have:=of_decide_eq_false h;omega
  refine byG ?_;refine⟨_,rfl,ret_b rfl ?_,hw.drop⟩
  refine(decP_t ⟨fun c hc=>?_,fun p q a b ha hb=>?_⟩).symm
  ·rw[←hcs]at hc;obtain⟨x,hx,rfl⟩:=List.mem_map.1 hc
   obtain⟨q,hq,he⟩:=List.getElem_of_mem hx
   exact hsort q x (by rw[List.getElem?_eq_getElem hq,he])
  ·rw[←hcs,List.getElem?_map]at ha hb
   obtain⟨x,hx,rfl⟩:=Option.map_eq_some_iff.1 ha
   obtain⟨y,hy,rfl⟩:=Option.map_eq_some_iff.1 hb
   exact hall p q x y (by have:=(List.getElem?_eq_some_iff.1 hx).1;omega) hx hy
theorem nest_hier{l:List CacheT}(hn:∀c∈l,c.Cores.Nodup):NestP l↔HierP l:=by
 unfold NestP HierP;refine and_congr ⟨fun h c hc i a b ha hb=>?_,fun h c hc i a b ha hb=>?_⟩ Iff.rfl
 ·exact Int.le_of_lt (h c hc i a b ha hb)
 ·have h1:=h c hc i a b ha hb
  have h2:b≠a:=fun e=>not_nodup (Nat.lt_succ_self i) hb (by rw[e];exact ha) (hn c hc)
  omega
class WideH(H:HwT):Prop where h:MemWide H
instance pg_namesR{Γ:Gho}{u:Value}{H:HwT}[hh:HwR Γ u H]:PG Tryz.prog Γ 147 [u] (.bool (namesB H)):=⟨fun S w hw=>names_any hw⟩
instance pg_rangesR{Γ:Gho}{u:Value}{H:HwT}[hh:HwR Γ u H]:PG Tryz.prog Γ 148 [u] (.bool (coresRB H&&regionsRB H)):=⟨fun S w hw=>ranges_any hw⟩
instance pg_duplicateR{Γ:Gho}{u:Value}{H:HwT}[hh:HwR Γ u H]:PG Tryz.prog Γ 150 [u] (.bool (!uniqueB H)):=⟨fun S w hw=>duplicate_any hw⟩
theorem coreAt_neg{l:List CoreT}{id:Int}:decide (coreAt l id<0) = !(l.any fun x=>decide (x.ID=id)):=by
 rw[←coreAt_any,←decide_not];congr 1
 apply propext
 omega
theorem bool_not{b:Bool}(h:(!b)=false):b=true:=by simpa using h
instance pg_RValidate{Γ:Gho}{u:Value}{H:HwT}[hh:HwR Γ u H][hwd:WideH H]:PG Tryz.prog Γ 120 [u] (.int .i64 (validS H)):=⟨fun S w hw=>by
 have hh':=hh
 obtain⟨a1,n1,c1,a2,n2,c2,a3,n3,c3,a4,n4,c4,a5,n5,c5,cs,rfl,hcs,hok,hsz,r1,r2,r3,r4,r5⟩:=hh.h;obtain⟨hn1,hm1,hx1⟩:=rep_facts r1
 obtain⟨hn2,hm2,hx2⟩:=rep_facts r2
 obtain⟨hn3,hm3,hx3⟩:=rep_facts r3
 obtain⟨hn4,hm4,hx4⟩:=rep_facts r4
 obtain⟨hn5,hm5,hx5⟩:=rep_facts r5
 simp only[List.length_map]at hn1 hn2 hn3 hn4 hn5
 have hcl:H.Caches.length=cs.length:=by rw[←hcs,List.length_map]
 refine calls_of_W Tryz.func120 rfl rfl ?_
 refine byG ?_;refine lBox ?_;intro b1 w hw;have hw:Wd Γ (.blk b1 (hwC H a1 n1 c1 a2 n2 c2 a3 n3 c3 a4 n4 c4 a5 n5 c5)::S) w:=hw
 unfold validS;repeat first|refine byW ?_|refine byV ?_;intro w hw
 refine W_cond rfl (fun h=>?_) (fun h=>?_)
 ·rw[if_pos (by simpa using h)]
  refine byG ?_;exact⟨_,rfl,rfl,hw.drop⟩
 rw[if_neg (by rw[bool_not h];simp)]
 clear h;refine byG ?_;refine W_cond rfl (fun h=>?_) (fun h=>?_)
 ·have h:(((((decide ((n1:Int)=0)||decide ((n1:Int) > 32))||decide ((n2:Int) > 64))||decide ((n3:Int) > 256))||decide ((n4:Int) > 64))||decide ((n5:Int) > 32))=true:=h
  rw[if_pos (by
   unfold countsB;simp only[Bool.or_eq_true,decide_eq_true_eq]at h
   rw[Bool.eq_false_iff];simp only[ne_eq,Bool.and_eq_true,decide_eq_true_eq]
   omega)]
  refine byG ?_;exact⟨_,rfl,rfl,hw.drop⟩
 have h:(((((decide ((n1:Int)=0)||decide ((n1:Int) > 32))||decide ((n2:Int) > 64))||decide ((n3:Int) > 256))||decide ((n4:Int) > 64))||decide ((n5:Int) > 32))=false:=h
 have hcnt:countsB H=true:=by
  unfold countsB;simp only[Bool.or_eq_false_iff,decide_eq_false_iff_not]at h
  simp only[Bool.and_eq_true,decide_eq_true_eq]
  omega
 rw[if_neg (by rw[hcnt];simp)]
 clear h;repeat first|refine byW ?_|refine byV ?_;intro w hw
 refine W_cond rfl (fun h=>?_) (fun h=>?_)
 ·rw[if_pos (notF h)];refine byG ?_;exact⟨_,rfl,rfl,hw.drop⟩
 have h:=bool_not h
 rw[if_neg (by rw[h];simp)]
 rw[Bool.and_eq_true]at h;obtain⟨hcr,hrr⟩:=h;haveI pal:PG Tryz.prog Γ 149 [.agg #[.string H.Name,.slice a1 n1 c1,.slice a2 n2 c2,.slice a3 n3 c3,.slice a4 n4 c4,.slice a5 n5 c5]] (.bool (alignRB H)):=⟨fun S w hw=>by
  have:=aligned_any (hh:=hh') hw
  rwa [align_ref hwd.h hrr]at this⟩
 haveI pov:PG Tryz.prog Γ 152 [.agg #[.string H.Name,.slice a1 n1 c1,.slice a2 n2 c2,.slice a3 n3 c3,.slice a4 n4 c4,.slice a5 n5 c5]] (.bool (!disjB H)):=⟨fun S w hw=>overlap_any (hh:=hh') hcnt hw⟩
 haveI pco:PG Tryz.prog Γ 153 [.agg #[.string H.Name,.slice a1 n1 c1,.slice a2 n2 c2,.slice a3 n3 c3,.slice a4 n4 c4,.slice a5 n5 c5]] (.bool (connB H)):=⟨fun S w hw=>connectedR_any (hh:=hh') hcnt hcr hrr hw⟩
 repeat first|refine byW ?_|refine byV ?_;intro w hw
 refine W_cond rfl (fun h=>?_) (fun h=>?_)
 ·rw[if_pos (by simpa using h)]
  refine byG ?_;exact⟨_,rfl,rfl,hw.drop⟩
 rw[if_neg (by rw[bool_not h];simp)]
 clear h;repeat first|refine byW ?_|refine byV ?_;intro w hw
 refine W_cond rfl (fun h=>?_) (fun h=>?_)
 ·rw[if_pos (by simpa using h)]
  refine byG ?_;exact⟨_,rfl,rfl,hw.drop⟩
 have hun:=bool_not h
 rw[if_neg (by rw[hun];simp)]
 clear h;haveI pne:PG Tryz.prog Γ 151 [.agg #[.string H.Name,.slice a1 n1 c1,.slice a2 n2 c2,.slice a3 n3 c3,.slice a4 n4 c4,.slice a5 n5 c5]] (.bool (hierB H)):=⟨fun S w hw=>by
  have:=nested_any (hh:=hh') hw
  have e:decP (NestP H.Caches)=hierB H:=by
   unfold hierB;have hi:NestP H.Caches↔HierP H.Caches:=nest_hier fun c hc=>by
    unfold uniqueB at hun;simp only[Bool.and_eq_true,List.all_eq_true,decide_eq_true_eq]at hun
    exact hun.1 c hc
   by_cases hp:HierP H.Caches
   ·rw[decP_t hp,decP_t (hi.2 hp)]
   ·rw[decP_f hp,decP_f (fun h=>hp (hi.1 h))]
  rwa [e]at this⟩
 refine byG ?_;have hknown:∀(k:Nat) (x:CacheH),cs[k]? = some x→knownB H=true→∀id∈x.Cores,(H.Cores.any fun y=>decide (y.ID=id))=true:=fun k x hx hk id hid=>by
  unfold knownB at hk;simp only[List.all_eq_true]at hk
  exact hk x.T (by rw[←hcs];exact List.mem_map_of_mem (List.mem_of_getElem? hx)) id hid
 refine W_loop (fun μ ρ w=>∃(k:Nat),μ+k=n2∧Has ρ [(1,.pointer (some ⟨b1,0,none⟩)),(3,.int .i64 k)]∧(∀(i:Nat) (x:CacheH),i<k→cs[i]? = some x→∀id∈x.Cores,(H.Cores.any fun y=>decide (y.ID=id))=true)∧Wd Γ (.blk b1 (hwC H a1 n1 c1 a2 n2 c2 a3 n3 c3 a4 n4 c4 a5 n5 c5)::S) w) n2 ⟨0,by omega,⟨rfl,rfl,trivial⟩,fun i x h=>by omega,hw⟩ ?_
 clear hw;rintro μ ρ w ⟨k,hk,hρ,hall,hw⟩
 rw[hρ.eq];clear hρ;refine byG ?_;refine W_cond rfl (fun h=>?_) (fun h=>?_)
 ·have hkn:k<n2:=by have:=of_decide_eq_true h;omega
  clear h;obtain⟨x,hx⟩:=get_lt (l:=cs) (k:=k) (by omega)
  have hcx:=hok x (List.mem_of_getElem? hx)
  obtain⟨hxn,hxm,hxc⟩:=hcx.facts;unfold COk at hcx;refine byG ?_;refine W_loop (fun μ2 ρ w=>∃(j:Nat),μ2+j=x.N∧Has ρ [(1,.pointer (some ⟨b1,0,none⟩)),(3,.int .i64 k),(4,.int .i64 j)]∧(∀(i:Nat) (id:Int),i<j→x.Cores[i]? = some id→(H.Cores.any fun y=>decide (y.ID=id))=true)∧Wd Γ (.blk b1 (hwC H a1 n1 c1 a2 n2 c2 a3 n3 c3 a4 n4 c4 a5 n5 c5)::S) w) x.N ⟨0,by omega,⟨rfl,rfl,rfl,trivial⟩,fun i id h=>by omega,hw⟩ ?_
  clear hw;rintro μ2 ρ w ⟨j,hj,hρ,hall2,hw⟩
  rw[hρ.eq];clear hρ;refine byG ?_;refine W_cond rfl (fun h=>?_) (fun h=>?_)
  ·have hjn:j<x.N:=by have:=of_decide_eq_true h;omega
   clear h;obtain⟨id,hid⟩:=get_lt (l:=x.Cores) (k:=j) (by omega)
   refine byG ?_;refine W_quiet (by kernel_rfl) (by kernel_rfl) hw ?_
   refine byQ ?_;intro w hw;refine W_cond rfl (fun h=>?_) (fun h=>?_)
   ·have h:decide (coreAt H.Cores id<0)=true:=h
    rw[coreAt_neg,Bool.not_eq_true']at h;have hkf:knownB H=false:=by
     cases hkk:knownB H with
     | false=>rfl
     | true=>rw[hknown k x hx hkk id (List.mem_of_getElem? hid)]at h;cases h
    rw[if_pos hkf];refine byG ?_;exact⟨_,rfl,rfl,hw.drop⟩
   ·have h:decide (coreAt H.Cores id<0)=false:=h
    rw[coreAt_neg,Bool.not_eq_false']at h;refine byG ?_;refine⟨μ2-1,by omega,j+1,by omega,⟨rfl,rfl,rfl,trivial⟩,fun i id' hi hid'=>?_,hw⟩
    by_cases e:i=j
    ·subst e;rw[hid]at hid';cases hid';exact h
    ·exact hall2 i id' (by omega) hid'
  ·have hjn:¬j<x.N:=by have:=of_decide_eq_false h;omega
   refine byG ?_;refine⟨μ-1,by omega,k+1,by omega,⟨rfl,rfl,trivial⟩,fun i x' hi hx' id hid=>?_,hw⟩
   by_cases e:i=k
   ·subst e;rw[hx]at hx';cases hx'
    obtain⟨q,hq⟩:=List.getElem?_of_mem hid
    exact hall2 q id (by have:=(List.getElem?_eq_some_iff.1 hq).1;omega) hq
   ·exact hall i x' (by omega) hx' id hid
 ·have hkn:¬k<n2:=by have:=of_decide_eq_false h;omega
  have hkt:knownB H=true:=by
   unfold knownB;simp only[List.all_eq_true]
   intro c hc id hid;rw[←hcs]at hc;obtain⟨x,hx,rfl⟩:=List.mem_map.1 hc
   obtain⟨q,hq⟩:=List.getElem?_of_mem hx
   exact hall q x (by have:=(List.getElem?_eq_some_iff.1 hq).1;omega) hq id hid
  rw[if_neg (by rw[hkt];simp)]
  clear h;repeat first|refine byW ?_|refine byV ?_;intro w hw
  refine W_cond rfl (fun h=>?_) (fun h=>?_)
  ·rw[if_pos (by simpa using h)]
   refine byG ?_;exact⟨_,rfl,rfl,hw.drop⟩
  rw[if_neg (by rw[bool_not h];simp)]
  clear h;repeat first|refine byW ?_|refine byV ?_;intro w hw
  refine W_cond rfl (fun h=>?_) (fun h=>?_)
  ·rw[if_pos (by simpa using h)]
   refine byG ?_;exact⟨_,rfl,rfl,hw.drop⟩
  rw[if_neg (by rw[bool_not h];simp)]
  clear h;repeat first|refine byW ?_|refine byV ?_;intro w hw
  refine W_cond rfl (fun h=>?_) (fun h=>?_)
  ·rw[if_pos (by simpa using h)]
   refine byG ?_;exact⟨_,rfl,rfl,hw.drop⟩
  rw[if_neg (by rw[bool_not h];simp)]
  clear h;refine byG ?_;exact⟨_,rfl,rfl,hw.drop⟩⟩
end Go.Proofs.YthgighljhoneeaaGreat
end
section
open Go Mk
namespace Go.Proofs.YthgighljhoneeaaGreat
def tcmp(t:Int→Int)(a b:Int):Int:=orI (cI (t b) (t a)) (cI a b)
theorem cI_lt{a b:Int}:cI a b<0↔a<b:=by unfold cI;split <;> (try split) <;> omega
def tsort(t:Int→Int)(l:List Int):List Int:=l.mergeSort fun x y=>!(Go.Proofs.ltOf (tcmp t)) y x
section
variable (far:Int→Int→Int)(cost:Int)(ch:Int→List Int)
def hmostF(cost:Int)(t:Int→Int):Nat→Int→List Int→Int
 | _,m,[]=>m
 | i,m,c::l=>hmostF cost t (i+1) (max m (((i:Int)+1)*cost+t c)) l
def hF:Nat→Int→Int
 | 0,_=>0
 | k+1,c=>hmostF cost (fun d=>far c d+hF k d) 0 0 (tsort (fun d=>far c d+hF k d) (ch c))
def hh(c:Int):Int:=hF far cost ch 4 c
end
section
variable {far:Int→Int→Int}{cost:Int}{ch:Int→List Int}
end
set_option maxHeartbeats 8000000
attribute [local irreducible] Calls
def coreIx(l:List CoreT)(id:Int):Int:=match l.findIdx? (fun x=>decide (x.ID=id)) with|some k=>k|none=>-1
def findC(l:List CoreT)(id:Int):CoreT×Bool:=match l.find? (fun x=>decide (x.ID=id)) with|some c=>(c,true)|none=>(⟨0,0,0,0⟩,false)
theorem coreIx_some{l:List CoreT}{id:Int}{k:Nat}{x:CoreT}(hx:l[k]? = some x)(he:x.ID=id)(hl:∀j y,j<k→l[j]? = some y→y.ID≠id):coreIx l id=k∧findC l id=(x,true):=by
 obtain⟨hk,hxk⟩:=List.getElem?_eq_some_iff.1 hx
 have h1:l.findIdx? (fun x=>decide (x.ID=id))=some k:=by
  rw[List.findIdx?_eq_some_iff_getElem];refine⟨hk,by rw[hxk];simpa using he,fun j hj=>?_⟩
  have:=hl j l[j] hj (List.getElem?_eq_getElem ..)
  simpa using this
 have h2:l.find? (fun x=>decide (x.ID=id))=some x:=by
  rw[List.find?_eq_some_iff_getElem];refine⟨by simpa using he,k,hk,hxk,fun j hj=>?_⟩
  have:=hl j l[j] hj (List.getElem?_eq_getElem ..)
  simpa using this
 unfold coreIx findC;rw[h1,h2];exact⟨rfl,rfl⟩
theorem coreIx_none{l:List CoreT}{id:Int}(hl:∀y∈l,y.ID≠id):coreIx l id = -1∧findC l id=(⟨0,0,0,0⟩,false):=by
 have h1:l.findIdx? (fun x=>decide (x.ID=id))=none:=by
  rw[List.findIdx?_eq_none_iff];intro x hx;simpa using hl x hx
 have h2:l.find? (fun x=>decide (x.ID=id))=none:=by
  rw[List.find?_eq_none];intro x hx;simpa using hl x hx
 unfold coreIx findC;rw[h1,h2];exact⟨rfl,rfl⟩
theorem coreIx_cases(l:List CoreT)(id:Int):(coreIx l id = -1∧findC l id=(⟨0,0,0,0⟩,false)∧∀y∈l,y.ID≠id)∨∃(k:Nat) (x:CoreT),coreIx l id=k∧l[k]? = some x∧x.ID=id∧findC l id=(x,true):=by
 by_cases h:∀y∈l,y.ID≠id
 ·have:=coreIx_none h
  exact .inl ⟨this.1,this.2,h⟩
 ·right
  cases hq:l.findIdx? (fun x=>decide (x.ID=id)) with
  | none=>
   exfalso;apply h
   intro y hy he;have:=List.findIdx?_eq_none_iff.1 hq y hy
   simp[he]at this
  | some k=>
   obtain⟨hk,h1,h2⟩:=List.findIdx?_eq_some_iff_getElem.1 hq
   have hx:=List.getElem?_eq_getElem hk
   have h1:l[k].ID=id:=by simpa using h1
   have:=coreIx_some hx h1 (fun j y hj hy=>by
    obtain⟨hj2,e⟩:=List.getElem?_eq_some_iff.1 hy
    have:=h2 j hj
    rw[←e];simpa using this)
   exact⟨k,l[k],this.1,hx,h1,this.2⟩
noncomputable def coreN(H:HwT)(x:Int):Int:=(findC H.Cores x).1.Node
theorem ints1(xs:List Int):(intRows xs).flatten.all (·.oneCell')=true:=by
 induction xs with
 | nil=>rfl
 | cons x xs ih=>simp only[intRows,List.map_cons,List.flatten_cons,List.all_append]at ih ⊢;rw[ih];rfl
end Go.Proofs.YthgighljhoneeaaGreat
end
section
open Go Mk
namespace Go.Proofs.YthgighljhoneeaaGreat
theorem findC_mem{l:List CoreT}{id:Int}(h:(findC l id).2=true):(findC l id).1∈l∧(findC l id).1.ID=id:=by
 rcases coreIx_cases l id with⟨-,h2,-⟩|⟨k,x,-,hx,he,h2⟩
 ·rw[h2]at h;cases h
 ·rw[h2];exact⟨List.mem_of_getElem? hx,he⟩
theorem core_node{H:HwT}(hv:validS H=0){c:CoreT}(hc:c∈H.Cores):0≤c.Node∧c.Node<64:=by
 obtain⟨-,-,h3,-⟩:=valid_all hv
 unfold coresRB at h3;simp only[Bool.and_eq_true]at h3
 have:=List.all_eq_true.1 h3.1.1 c hc
 simp[coreRB,isNodeB]at this
 omega
theorem core_reach{H:HwT}(hv:validS H=0){c:CoreT}(hc:c∈H.Cores):Reach H.Links ((usedN H).headD 0) c.Node:=by
 obtain⟨-,-,-,-,-,-,-,-,h9⟩:=valid_all hv
 have hP:ConnP H:=by
  by_cases h:ConnP H
  ·exact h
  ·unfold connB at h9;rw[decP_f h]at h9;cases h9
 refine hP c.Node ?_
 unfold usedN;exact List.mem_append_left _ (List.mem_append_left _ (List.mem_map.2 ⟨c,hc,rfl⟩))
def updI(f:Int→Int)(a v:Int):Int→Int:=fun x=>if a=x then v else f x
end Go.Proofs.YthgighljhoneeaaGreat
end
section
open Go Mk
namespace Mk
section
variable {α:Type}{lt:α→α→Bool}
def bubC(lt:α→α→Bool):Nat→List α→List α
 | 0,l=>l
 | j+1,l=>match l[j+1]?,l[j]? with
  | some x,some y=>if lt x y then bubC lt j ((l.set (j+1) y).set j x) else l
  | _,_=>l
def isF(lt:α→α→Bool):Nat→Nat→List α→List α
 | 0,_,l=>l
 | m+1,i,l=>isF lt m (i+1) (bubC lt i l)
def isort(lt:α→α→Bool)(l:List α):List α:=isF lt (l.length-1) 1 l
theorem bubC_step{j:Nat}{l:List α}{x y:α}(hx:l[j+1]? = some x)(hy:l[j]? = some y)(h:lt x y=true):bubC lt (j+1) l=bubC lt j ((l.set (j+1) y).set j x):=by
 simp[bubC,hx,hy,h]
theorem bubC_stop{j:Nat}{l:List α}{x y:α}(hx:l[j+1]? = some x)(hy:l[j]? = some y)(h:lt x y=false):bubC lt (j+1) l=l:=by
 simp[bubC,hx,hy,h]
theorem bubC_spec:∀(A:List α) (x:α) (B:List α),∃C D,A=C++D∧bubC lt A.length (A++x::B)=C++x::(D++B)∧(∀d∈D,lt x d=true)∧(∀c,C.getLast? = some c→lt x c=false):=by
 intro A;generalize hn:A.length=n
 induction n generalizing A with
 | zero=>
  intro x B;obtain rfl:A=[]:=List.eq_nil_of_length_eq_zero hn
  exact⟨[],[],rfl,rfl,by simp,by simp⟩
 | succ j ih=>
  intro x B;have hne:A≠[]:=by intro e;subst e;simp at hn
  obtain⟨A',y,rfl⟩:∃A' y,A=A'++[y]:=⟨A.dropLast,A.getLast hne,(List.dropLast_concat_getLast hne).symm⟩
  have hA':A'.length=j:=by simpa using hn
  have hx:(A'++[y]++x::B)[j+1]? = some x:=by
   rw[List.getElem?_append_right (by simp[hA'])];simp[hA']
  have hy:(A'++[y]++x::B)[j]? = some y:=by
   rw[List.append_assoc,List.getElem?_append_right (by omega)];simp[hA']
  by_cases h:lt x y=true
  ·rw[bubC_step hx hy h];have hs:((A'++[y]++x::B).set (j+1) y).set j x=A'++x::(y::B):=by
    rw[List.append_assoc,List.set_append_right _ _ (by omega),List.set_append_right _ _ (by omega)]
    simp[hA']
   rw[hs];obtain⟨C,D,h1,h2,h3,h4⟩:=ih A' hA' x (y::B)
   refine⟨C,D++[y],by rw[h1];simp,by rw[h2];simp,fun d hd=>?_,h4⟩
   rcases List.mem_append.1 hd with hd|hd
   ·exact h3 d hd
   ·rw[List.mem_singleton.1 hd];exact h
  ·have h:lt x y=false:=by simpa using h
   rw[bubC_stop hx hy h];refine⟨A'++[y],[],by simp,by simp,by simp,fun c hc=>?_⟩
   rw[List.getLast?_append]at hc;simp at hc
   subst hc;exact h
structure Lt3(lt:α→α→Bool):Prop where
 asymm:∀x y,lt x y=true→lt y x=false
 ntrans:∀x y z,lt y x=false→lt z y=false→lt z x=false
theorem bubC_perm(A:List α)(x:α)(B:List α):(bubC lt A.length (A++x::B)).Perm (A++x::B):=by
 obtain⟨C,D,h1,h2,-,-⟩:=bubC_spec (lt:=lt) A x B
 rw[h2,h1,List.append_assoc];exact List.Perm.append_left C (List.perm_middle.symm)
theorem bubC_sorted(hl:Lt3 lt)(A:List α)(x:α)(B:List α)(hA:A.Pairwise fun a b=>lt b a=false):∃A',A'.length=A.length+1∧bubC lt A.length (A++x::B)=A'++B∧A'.Pairwise fun a b=>lt b a=false:=by
 obtain⟨C,D,h1,h2,h3,h4⟩:=bubC_spec (lt:=lt) A x B
 subst h1;refine⟨C++x::D,by simp;omega,by rw[h2];simp,?_⟩
 obtain⟨p1,p2,p3⟩:=List.pairwise_append.1 hA
 have hC:∀c∈C,lt x c=false:=fun c hc=>by
  have hne:C≠[]:=fun e=>by subst e;cases hc
  have hlast:=h4 (C.getLast hne) (List.getLast?_eq_some_getLast hne)
  have hsp:C=C.dropLast++[C.getLast hne]:=(List.dropLast_concat_getLast hne).symm
  rw[hsp]at hc p1
  rcases List.mem_append.1 hc with hc|hc
  ·exact hl.ntrans _ _ _ ((List.pairwise_append.1 p1).2.2 c hc _ (List.mem_singleton.2 rfl)) hlast
  ·rw[List.mem_singleton.1 hc];exact hlast
 refine List.pairwise_append.2 ⟨p1,List.pairwise_cons.2 ⟨fun d hd=>hl.asymm _ _ (h3 d hd),p2⟩,fun c hc b hb=>?_⟩
 rcases List.mem_cons.1 hb with rfl|hb
 ·exact hC c hc
 ·exact p3 c hc b hb
theorem isF_spec(hl:Lt3 lt):∀(m:Nat) (A B:List α),B.length=m→(A.Pairwise fun a b=>lt b a=false)→(isF lt m A.length (A++B)).Perm (A++B)∧(isF lt m A.length (A++B)).Pairwise fun a b=>lt b a=false
 | 0,A,B,hB,hA=>by
  obtain rfl:B=[]:=List.eq_nil_of_length_eq_zero hB
  simpa[isF] using hA
 | m+1,A,[],hB,_=>by simp at hB
 | m+1,A,x::B,hB,hA=>by
  show (isF lt m (A.length+1) (bubC lt A.length (A++x::B))).Perm _∧(isF lt m (A.length+1) (bubC lt A.length (A++x::B))).Pairwise _
  have hp:=bubC_perm (lt:=lt) A x B
  obtain⟨A',h1,h2,h3⟩:=bubC_sorted hl A x B hA
  rw[h2]at hp ⊢
  rw[←h1];obtain⟨q1,q2⟩:=isF_spec hl m A' B (by simpa using hB) h3
  exact⟨q1.trans hp,q2⟩
theorem isort_spec(hl:Lt3 lt)(l:List α):(isort lt l).Perm l∧(isort lt l).Pairwise fun a b=>lt b a=false:=by
 cases l with
 | nil=>exact⟨.refl _,.nil⟩
 | cons x l=>exact isF_spec hl l.length [x] l rfl (List.pairwise_singleton ..)
theorem sorted_uniq:∀ {xs ys:List α},(∀x∈xs,∀y∈xs,lt x y=false→lt y x=false→x=y)→(xs.Pairwise fun a b=>lt b a=false)→(ys.Pairwise fun a b=>lt b a=false)→ys.Perm xs→ys=xs
 | [],_,_,_,_,h=>List.perm_nil.1 h
 | x::xs,[],_,_,_,h=>absurd h.length_eq (by simp)
 | x::xs,y::ys,he,hx,hy,h=>by
  have hy1:y∈x::xs:=h.subset (List.mem_cons_self ..)
  have hx1:x∈y::ys:=h.symm.subset (List.mem_cons_self ..)
  have hxy:x=y:=by
   rcases List.mem_cons.1 hy1 with e|e
   ·exact e.symm
   ·rcases List.mem_cons.1 hx1 with e2|e2
    ·exact e2
    ·exact he x (List.mem_cons_self ..) y hy1 ((List.pairwise_cons.1 hy).1 x e2) ((List.pairwise_cons.1 hx).1 y e)
  subst hxy;rw[sorted_uniq (fun a ha b hb=>he a (List.mem_cons_of_mem _ ha) b (List.mem_cons_of_mem _ hb)) (List.pairwise_cons.1 hx).2 (List.pairwise_cons.1 hy).2 (List.Perm.cons_inv h)]
end
end Mk
end
section
open Go Mk
namespace Go.Proofs.YthgighljhoneeaaGreat
set_option maxHeartbeats 16000000
attribute [local irreducible] Calls
def ltC{α:Type}(c:α→α→Int)(x y:α):Bool:=decide (c x y<0)
theorem ltC_lt3{α β:Type}{c:β→β→Int}(h:Ord3 c)(f:α→β):Lt3 (ltC fun x y:α=>c (f x) (f y)) where
 asymm x y e:=by
  have h1:c (f x) (f y)<0:=of_decide_eq_true e
  have h2:=h.anti (f x) (f y)
  refine decide_eq_false ?_
  show ¬c (f y) (f x)<0
  omega
 ntrans x y z e1 e2:=by
  have h1:¬c (f y) (f x)<0:=of_decide_eq_false e1
  have h2:¬c (f z) (f y)<0:=of_decide_eq_false e2
  refine decide_eq_false fun h3=>?_
  have h3:c (f z) (f x)<0:=h3
  have r1:=h.rng (f y) (f x)
  have r2:=h.rng (f z) (f y)
  have r3:=h.rng (f z) (f x)
  have a1:=h.anti (f y) (f x)
  have a2:=h.anti (f z) (f y)
  have h3':c (f z) (f x) = -1:=by omega
  rcases r1 with r1|r1|r1
  ·omega
  ·have e:=h.eq0 r1
   rw[←e]at h3;exact h2 h3
  ·have h4:c (f x) (f y) = -1:=by omega
   have h5:=h.trans h3' h4
   omega
instance pc_cmpi(a b:Int):PC Tryz.prog 49 [.int .i64 a,.int .i64 b] (.int .i64 (cI a b)):=⟨fun w=>by
 refine calls_of_W Tryz.func49 rfl rfl ?_
 refine byG ?_;refine W_cond_false rfl ?_
 refine byG ?_;refine W_cond_false rfl ?_
 refine byG ?_;refine W_cond rfl (fun h=>?_) (fun h=>?_)
 ·refine byG ?_;exact⟨_,rfl,ret_i rfl (by simp at h;simp[cI,h]),rfl⟩
 refine byG ?_;refine W_cond rfl (fun h2=>?_) (fun h2=>?_)
 ·refine byG ?_;exact⟨_,rfl,ret_i rfl (by simp at h h2;unfold cI;rw[if_neg (by omega),if_pos h2]),rfl⟩
 ·refine byG ?_;exact⟨_,rfl,ret_i rfl (by simp at h h2;unfold cI;rw[if_neg (by omega),if_neg (by omega)]),rfl⟩⟩
def cCore(x y:CoreT):Int:=cI x.ID y.ID
def cCache(x y:CacheH):Int:=orI (cI x.Level y.Level) (cB x.Name y.Name)
def cLink(x y:LinkT):Int:=orI (cI x.A y.A) (cI x.B y.B)
def cMem(x y:MemT):Int:=cI x.Base y.Base
def cDev(x y:DevT):Int:=cI x.IRQ y.IRQ
end Go.Proofs.YthgighljhoneeaaGreat
end
section
open Go Mk
namespace Go.Proofs.YthgighljhoneeaaGreat
def lay_dvs_ren:Go.Shelf.Ren:=⟨fun|6=>47|15=>78|14=>77|28=>116|29=>117|20=>108|21=>109|22=>110|23=>111|24=>112|25=>113|26=>114|27=>115|46=>141|47=>142|48=>143|49=>144|50=>145|57=>158|n=>n,fun|22=>36|24=>72|25=>98|3=>3|39=>121|0=>0|53=>172|55=>70|4=>4|46=>165|45=>164|50=>169|5=>5|9=>9|66=>195|70=>199|76=>208|77=>209|n=>n,fun|n=>n⟩
theorem lay_dvs:Go.Proofs.SlLaysF0.n6 Tryz.prog lay_dvs_ren:={
 mixed:=by kernel_rfl
 f6:=⟨Tryz.f47.name,by decide,Tryz.func47.trans (congrArg some (by kernel_rfl))⟩
 f14:=⟨Tryz.f77.name,by decide,Tryz.func77.trans (congrArg some (by kernel_rfl))⟩
 f15:=Tryz.func78.trans (congrArg some (by kernel_rfl))
 f20:=⟨Tryz.f108.name,by decide,Tryz.func108.trans (congrArg some (by kernel_rfl))⟩
 f21:=⟨Tryz.f109.name,by decide,Tryz.func109.trans (congrArg some (by kernel_rfl))⟩
 f22:=⟨Tryz.f110.name,by decide,Tryz.func110.trans (congrArg some (by kernel_rfl))⟩
 f23:=⟨Tryz.f111.name,by decide,Tryz.func111.trans (congrArg some (by kernel_rfl))⟩
 f24:=⟨Tryz.f112.name,by decide,Tryz.func112.trans (congrArg some (by kernel_rfl))⟩
 f25:=⟨Tryz.f113.name,by decide,Tryz.func113.trans (congrArg some (by kernel_rfl))⟩
 f26:=⟨Tryz.f114.name,by decide,Tryz.func114.trans (congrArg some (by kernel_rfl))⟩
 f27:=⟨Tryz.f115.name,by decide,Tryz.func115.trans (congrArg some (by kernel_rfl))⟩
 f28:=Tryz.func116.trans (congrArg some (by kernel_rfl))
 f29:=Tryz.func117.trans (congrArg some (by kernel_rfl))
 f46:=⟨Tryz.f141.name,by decide,Tryz.func141.trans (congrArg some (by kernel_rfl))⟩
 f47:=Tryz.func142.trans (congrArg some (by kernel_rfl))
 f48:=Tryz.func143.trans (congrArg some (by kernel_rfl))
 f49:=⟨Tryz.f144.name,by decide,Tryz.func144.trans (congrArg some (by kernel_rfl))⟩
 f50:=⟨Tryz.f145.name,by decide,Tryz.func145.trans (congrArg some (by kernel_rfl))⟩
 f57:=⟨Tryz.f158.name,by decide,Tryz.func158.trans (congrArg some (by kernel_rfl))⟩
 t0:=Tryz.underlying0
 a0:=Tryz.isAgg0
 z0:=Tryz.sizeOf0
 v0:=Tryz.zeroValue0
 t3:=Tryz.underlying3
 a3:=Tryz.isAgg3
 z3:=Tryz.sizeOf3
 v3:=Tryz.zeroValue3
 t4:=Tryz.underlying4
 a4:=Tryz.isAgg4
 z4:=Tryz.sizeOf4
 v4:=Tryz.zeroValue4
 t5:=Tryz.underlying5
 a5:=Tryz.isAgg5
 z5:=Tryz.sizeOf5
 v5:=Tryz.zeroValue5
 t9:=Tryz.underlying9
 a9:=Tryz.isAgg9
 z9:=Tryz.sizeOf9
 v9:=Tryz.zeroValue9
 t22:=Tryz.underlying36
 a22:=Tryz.isAgg36
 z22:=Tryz.sizeOf36
 v22:=Tryz.zeroValue36
 t25:=Tryz.underlying98
 a25:=Tryz.isAgg98
 z25:=Tryz.sizeOf98
 v25:=Tryz.zeroValue98
 t39:=Tryz.underlying121
 a39:=Tryz.isAgg121
 z39:=Tryz.sizeOf121
 v39:=Tryz.zeroValue121
 t45:=Tryz.underlying164
 a45:=Tryz.isAgg164
 z45:=Tryz.sizeOf164
 v45:=Tryz.zeroValue164
 t46:=Tryz.underlying165
 a46:=Tryz.isAgg165
 z46:=Tryz.sizeOf165
 v46:=Tryz.zeroValue165
 t50:=Tryz.underlying169
 a50:=Tryz.isAgg169
 z50:=Tryz.sizeOf169
 v50:=Tryz.zeroValue169
 t53:=Tryz.underlying172
 a53:=Tryz.isAgg172
 z53:=Tryz.sizeOf172
 v53:=Tryz.zeroValue172
 t55:=Tryz.underlying70
 a55:=Tryz.isAgg70
 z55:=Tryz.sizeOf70
 v55:=Tryz.zeroValue70
 t66:=Tryz.underlying195
 a66:=Tryz.isAgg195
 z66:=Tryz.sizeOf195
 v66:=Tryz.zeroValue195
 t70:=Tryz.underlying199
 a70:=Tryz.isAgg199
 z70:=Tryz.sizeOf199
 v70:=Tryz.zeroValue199
 t76:=Tryz.underlying208
 a76:=Tryz.isAgg208
 z76:=Tryz.sizeOf208
 v76:=Tryz.zeroValue208
 t77:=Tryz.underlying209
 a77:=Tryz.isAgg209
 z77:=Tryz.sizeOf209
 v77:=Tryz.zeroValue209 }
section
variable {H:HwT}{r:Int}{ms:List Int}
def blocks(K:Int→List Int)(fs:List Int):List Pl:=fs.flatMap fun f=>(K f).map fun t=>(f,t)
end
def stL(l:List (Pl×Int))(st:Int→Int):Int→Int:=l.foldl (fun f p=>updI f p.1.2 p.2) st
section
variable {far:Int→Int→Int}{cost:Int}
end
set_option maxHeartbeats 8000000
attribute [local irreducible] Calls
section
variable {P:Program}{n:Nat}{ops:List Oper}{Γ:Gho}{K:List Res}{wr tc stab:List (List Nat)}{Q:Fr→World→Prop}{i:Nat}{rest:List Oper}{ρ:Fr}{M:Nat→Fr→List Res}
theorem mCallD{c f:Nat}{d:Option Tmp}{ty:TypeId}{pos:String}{es:Array Edge}{args:List Operand}{tys:Array TypeId}{vs:List Value}{v:Value}{X X':List Res}[FnOk P f]
  (hcall:∀S w,Wd Γ (X++S) w→Calls P f vs.toArray w fun e w'=>e=.returned v∧Wd Γ (X'++S) w') (h:MSw (mV P n ops Γ K wr tc stab) Q (i+1) rest ⟨putO ρ d v,setC M c fun _=>X'⟩)
  (ht:tc.getD i []=[c]:=by exact rfl) (hM:M c=(fun _=>X):=by first|exact setC_self|exact rfl) (hw0:wr.getD i []=[c]:=by exact rfl) (ha:∀g,EvL (ovr stab.flatten g ρ) args vs:=by intro g;exact byEV) :
  MSw (mV P n ops Γ K wr tc stab) Q i (⟨d,.call { callee:=.value (.func f),args:=args.toArray,argTypes:=tys },ty,pos,es,none⟩::rest) ⟨ρ,M⟩:=by
 refine mM (v:=v) _ (fun Y w g hw=>?_) h hw0 rfl
 rw[cells1 ht,hM]at hw;refine s_call (ha g).eqA ((hcall _ _ hw.swapApp).mono fun e w' ⟨h1,h2⟩=>⟨v,h1,?_,fun _=>rfl⟩)
 rw[cells1 ht,setC_self];exact h2.swapApp
end
def nx(L:List Int)(k:Nat)(n:Int):Int:=((if L=[] then 0 else (L.getD (k%L.length) 0)%1073741824)+7*((k / max L.length 1:Nat):Int))%n
theorem nx_range{L:List Int}{k:Nat}{n:Int}(h:0<n):0≤nx L k n∧nx L k n<n:=⟨Int.emod_nonneg _ (by omega),Int.emod_lt_of_pos _ h⟩
instance:PosL 1073741824:=⟨by decide⟩
def drwB(bs:Nat)(a:Option Addr)(m c k:Nat):Res:=.blk bs (.cells #[.slice a m c,.int .i64 k] 116)
theorem Next_any{Γ:Gho}{S:List Res}{w:World}{bs:Nat}{a:Option Addr}{m c k:Nat}{L:List Int}{n:Int}(hn0:0<n)(hk:k≤1000000)(hr:RepS Γ (.slice a m c) 1 (intRows L))(hw:Wd Γ (drwB bs a m c k::S) w) :
  Calls Tryz.prog 57 #[.pointer (some ⟨bs,0,none⟩),.int .i64 n] w fun e w'=>e=.returned (.int .i64 (nx L k n))∧Wd Γ (drwB bs a m c (k+1)::S) w':=by
 obtain⟨hn,hnc,hc⟩:=rep_facts hr
 simp only[intRows,List.length_map]at hn
 unfold drwB at hw;refine calls_of_W Tryz.func57 rfl rfl ?_
 iterate 8 (first|refine byW ?_|(refine byV ?_;intro w hw))
 obtain⟨v0,hv0⟩:∃v0:Int,v0=(if L=[] then 0 else (L.getD (k%L.length) 0)%1073741824):=⟨_,rfl⟩
 have hvb:0≤v0∧v0<1073741824:=by
  rw[hv0];split
  ·omega
  ·exact⟨Int.emod_nonneg _ (by omega),Int.emod_lt_of_pos _ (by omega)⟩
 refine W_cut (fun ρ w=>Has ρ [(0,.pointer (some ⟨bs,0,none⟩)),(1,.int .i64 n),(5,.int .i64 v0)]∧Wd Γ (.blk bs (.cells #[.slice a m c,.int .i64 k] 116)::S) w) ?_ ?_
 ·refine byG ?_;refine W_cond rfl (fun h=>?_) (fun h=>?_)
  ·have hm:0<m:=by simp at h;omega
   have hkm:(k:Int).tmod m=((k%m:Nat):Int):=by rw[Int.tmod_eq_emod_of_nonneg (by omega)];exact(Int.natCast_emod k m).symm
   have hlt:k%m<m:=Nat.mod_lt _ hm
   obtain⟨x,hx⟩:=get_lt (l:=L) (k:=k%m) (by omega)
   have hx':L[((k%m:Nat):Int).toNat]? = some x:=hx
   have hvx:v0=x%1073741824:=by
    rw[hv0,if_neg (fun e=>by rw[e]at hn;simp at hn;omega),←hn,List.getD_eq_getElem?_getD,hx];rfl
   refine byG ?_;refine W_quiet (by kernel_rfl) (by kernel_rfl) hw ?_
   iterate 13 (first|refine Q_nil ?_|(apply Q_plain;first|(apply Q_go;first|refine qP ?_|refine qPg ?_)|refine qY ?_)|(apply Q_guarded;first|(apply Q_go;first|refine qPG ?_|refine qPgG ?_)|refine qG ?_))
   refine qY (v:=.int .i64 ((k%m:Nat):Int)) ?_ (hy:=fun w hw=>by
    rw[←hkm];exact y_rem rfl rfl (by omega))
   refine byQ ?_;clear hw;intro w hw;refine byG ?_;exact⟨⟨rfl,rfl,by rw[hvx];rfl,trivial⟩,hw⟩
  ·have hm:m=0:=by simp at h;omega
   have hL:L=[]:=List.eq_nil_of_length_eq_zero (by omega)
   refine byG ?_;exact⟨⟨rfl,rfl,by rw[hv0,if_pos hL];rfl,trivial⟩,hw⟩
 ·rintro ρ w ⟨hρ,hw⟩
  rw[hρ.eq];clear hρ;have hlen:max L.length 1=max m 1:=by rw[hn]
  have hnx:nx L k n=(v0+7*((k / max m 1:Nat):Int))%n:=by unfold nx;rw[←hv0,hlen]
  rw[hnx];clear hnx hlen;have hM:(if (m:Int)<1 then 1 else (m:Int))=((max m 1:Nat):Int):=by
   split <;> omega
  have hMp:0<max m 1:=by omega
  have hq1:(k:Int).tdiv ((max m 1:Nat):Int)=((k / max m 1:Nat):Int):=by rw[Int.tdiv_eq_ediv_of_nonneg (by omega)];rfl
  have hqk:k / max m 1≤k:=Nat.div_le_self _ _
  generalize k / max m 1=q at *
  generalize max m 1=M at *
  have hw1:IntKind.i64.wrap ((q:Nat):Int)=((q:Nat):Int):=wrap_i64 (by omega) (by omega)
  refine W_seq ?_
  refine W_quiet (by kernel_rfl) (by kernel_rfl) hw ?_
  iterate 10 (first|refine Q_nil ?_|(apply Q_plain;first|(apply Q_go;first|refine qP ?_|refine qPg ?_)|refine qY ?_)|(apply Q_guarded;first|(apply Q_go;first|refine qPG ?_|refine qPgG ?_)|refine qG ?_))
  refine qY (v:=.int .i64 ((M:Nat):Int)) ?_ (hy:=fun w hw=>by rw[←hM];exact y_max2 rfl rfl)
  refine qY (v:=.int .i64 ((q:Nat):Int)) ?_ (hy:=fun w hw=>by
   rw[←hw1,←hq1];exact y_quo rfl rfl (by omega))
  refine byQ ?_;clear hw;intro w hw;refine byG ?_;refine lStore ?_;intro w hw;have hw:Wd Γ (drwB bs a m c (k+1)::S) w:=hw
  refine byG ?_;refine⟨_,rfl,ret_i rfl ?_,hw⟩
  rw[Int.tmod_eq_emod_of_nonneg (by omega)]
def bub{α:Type}(lt:α→α→Bool):Nat→List α→List α
 | 0,l=>l
 | k+1,l=>match l[k+1]?,l[k]? with
  | some x,some y=>if lt x y=true then bub lt k ((l.set (k+1) y).set k x) else l
  | _,_=>l
def bsFrom{α:Type}(lt:α→α→Bool):Nat→Nat→List α→List α
 | 0,_,l=>l
 | f+1,i,l=>bsFrom lt f (i+1) (bub lt i l)
def bsort{α:Type}(lt:α→α→Bool)(l:List α):List α:=bsFrom lt (l.length-1) 1 l
theorem bub_step{α:Type}{lt:α→α→Bool}{k:Nat}{l:List α}{x y:α}(hx:l[k+1]? = some x)(hy:l[k]? = some y)(h:lt x y=true):bub lt (k+1) l=bub lt k ((l.set (k+1) y).set k x):=by
 unfold bub;rw[hx,hy];simp only[if_pos h];cases k <;> rfl
theorem bub_stop{α:Type}{lt:α→α→Bool}{k:Nat}{l:List α}{x y:α}(hx:l[k+1]? = some x)(hy:l[k]? = some y)(h:¬lt x y=true):bub lt (k+1) l=l:=by
 unfold bub;rw[hx,hy];simp only[if_neg h]
theorem bub_len{α:Type}{lt:α→α→Bool}:∀(k:Nat) (l:List α),(bub lt k l).length=l.length
 | 0,l=>rfl
 | k+1,l=>by
  unfold bub;split
  ·split
   ·rw[bub_len k];simp
   ·rfl
  ·rfl
theorem bsFrom_len{α:Type}{lt:α→α→Bool}:∀(f i:Nat) (l:List α),(bsFrom lt f i l).length=l.length
 | 0,_,_=>rfl
 | f+1,i,l=>by show (bsFrom lt f (i+1) (bub lt i l)).length=_;rw[bsFrom_len f,bub_len]
theorem bsort_len{α:Type}{lt:α→α→Bool}(l:List α):(bsort lt l).length=l.length:=bsFrom_len _ _ _
def ltI(a b:Int):Bool:=decide (a<b)
theorem ints_one(xs:List Int):(intRows xs).flatten.all (·.oneCell')=true:=by
 unfold intRows;induction xs with
 | nil=>rfl
 | cons x l ih=>simp only[List.map_cons,List.flatten_cons,List.all_append,ih];rfl
theorem set_rows{xs:List Int}{k:Nat}{x:Int}:(intRows xs).set k [.int .i64 x]=intRows (xs.set k x):=by unfold intRows;rw[List.map_set]
theorem SortInts_any{Γ : Gho}{S : List Res}{w : World}{v : Value}{xs : List Int}(hr : RdS Γ S v 1 (intRows xs))(hl : xs.length ≤ 1000000)(hw : Wd Γ S w) :
    Calls Tryz.prog 58 #[v] w fun e w'=>∃v',e=.returned v'∧Wd Γ (.own v' 3 1 (intRows (bsort ltI xs))::S) w':=by
  obtain⟨a,n,c,rfl,hn,hnc,hc⟩:=hr.shape;simp only[intRows,List.length_map]at hn
  refine calls_of_W Tryz.func58 rfl rfl ?_
  refine byG ?_;have hw:Wd Γ (.own (.slice none 0 0) 3 1 []::S) w:=Wd.addNil hw
  refine lApp (i:=0) (rows2:=intRows xs) ?_ (hr.cons.rd hw) (h1:=ints_one xs) (hm:=by simp[intRows];exact hn)
  intro v' w hw;obtain⟨q,m,d,rfl,hm,-,-⟩:=hw.own_shape (i:=0) rfl
  simp[intRows]at hm
  have hw:Wd Γ (.own (.slice q m d) 3 1 (intRows xs)::S) w:=hw
  refine byG ?_;refine W_loop (fun μ ρ w=>∃(i:Nat) (Y:List Int),1≤i∧(m≤i+μ)∧Y.length=m∧bsort ltI xs=bsFrom ltI (m-i) i Y∧Has ρ [(3,.slice q m d),(4,.int .i64 i)]∧Wd Γ (.own (.slice q m d) 3 1 (intRows Y)::S) w) m ⟨1,xs,by omega,by omega,hm.symm,by unfold bsort;rw[←hm],⟨rfl,rfl,trivial⟩,hw⟩ ?_
  clear hw;rintro μ ρ w ⟨i,Y,hi,hμ,hY,hB,hρ,hw⟩
  rw[hρ.eq];refine byG ?_;refine W_cond rfl (fun h=>?_) (fun h=>?_)
  · have him:i<m:=by simpa using h
    have hB2:bsort ltI xs=bsFrom ltI (m-(i+1)) (i+1) (bub ltI i Y):=by
      rw[hB,show m-i=(m-(i+1))+1 by omega];rfl
    refine byG ?_;refine W_loop (fun μ2 ρ w=>∃(k:Nat) (Z:List Int),μ2=k∧k≤i∧Z.length=m∧bub ltI i Y=bub ltI k Z∧Has ρ [(3,.slice q m d),(4,.int .i64 i),(5,.int .i64 k)]∧Wd Γ (.own (.slice q m d) 3 1 (intRows Z)::S) w) i ⟨i,Y,rfl,Nat.le_refl _,hY,rfl,⟨rfl,rfl,rfl,trivial⟩,hw⟩ ?_
    clear hw;rintro μ2 ρ w ⟨k,Z,rfl,hk,hZ,hC,hρ,hw⟩
    rw[hρ.eq];refine W_seq ?_
    refine W_seq ?_
    have hnr:m=(intRows Z).length:=by simp[intRows];omega
    cases μ2 with
    | zero=>
      refine W_quiet (by kernel_rfl) (by kernel_rfl) hw ?_
      iterate 3 (first|refine Q_nil ?_|(apply Q_plain;first|(apply Q_go;first|refine qP ?_|refine qPg ?_)|refine qY ?_)|(apply Q_guarded;first|(apply Q_go;first|refine qPG ?_|refine qPgG ?_)|refine qG ?_))
      iterate 10 (refine qGF ?_ rfl)
      refine qY (v:=.bool false) ?_ (hy:=fun w hw=>y_pickF rfl rfl)
      refine Q_nil ?_
      clear hw;intro w hw;refine W_cond rfl (fun h=>by cases h) (fun _=>?_)
      refine byG ?_;exact⟨μ-1,by omega,i+1,Z,by omega,by omega,hZ,by rw[hB2,hC];rfl,⟨rfl,rfl,trivial⟩,hw⟩
    | succ k=>
      obtain⟨x,hx⟩:=get_lt (l:=Z) (k:=k+1) (by omega)
      obtain⟨y,hy⟩:=get_lt (l:=Z) (k:=k) (by omega)
      have e1:(((k+1:Nat):Int)-1)=(k:Int):=by omega
      have hx':Z[((k+1:Nat):Int).toNat]? = some x:=hx
      have hy':Z[(((k+1:Nat):Int)-1).toNat]? = some y:=by rw[e1];exact hy
      refine W_quiet (by kernel_rfl) (by kernel_rfl) hw ?_
      iterate 1 (first|refine Q_nil ?_|(apply Q_plain;first|(apply Q_go;first|refine qP ?_|refine qPg ?_)|refine qY ?_)|(apply Q_guarded;first|(apply Q_go;first|refine qPG ?_|refine qPgG ?_)|refine qG ?_))
      refine qT (b:=decide ((0:Int)<((k+1:Nat):Int))) (decide_eq_true (by omega)) ?_
      refine byQ ?_;clear hw;intro w hw;refine W_cond rfl (fun h2=>?_) (fun h2=>?_)
      · have h2:ltI x y=true:=by simpa[ltI] using h2
        rw[bub_step hx hy h2]at hC;refine byG ?_;refine lStoreE (k:=k+1) (i:=0) ?_
        intro w hw;have hw:Wd Γ (.own (.slice q m d) 3 1 ((intRows Z).set (k+1) [.int .i64 y])::S) w:=hw
        rw[set_rows]at hw;have hnr:m=(intRows (Z.set (k+1) y)).length:=by simp[intRows];omega
        refine byG ?_;refine lStoreE (k:=k) (i:=0) ?_ (hx:=by show Value.pointer _=_;rw[show (((k+1:Nat):Int)-1).toNat=k by omega])
        intro w hw;have hw:Wd Γ (.own (.slice q m d) 3 1 ((intRows (Z.set (k+1) y)).set k [.int .i64 x])::S) w:=hw
        rw[set_rows]at hw;refine byG ?_;exact⟨k,by omega,k,_,rfl,by omega,by simp;omega,hC,⟨rfl,rfl,by show Value.int .i64 (((k+1:Nat):Int)-1)=_;rw[e1],trivial⟩,hw⟩
      · have h2 : ¬ ltI x y = true := by have : ltI x y = false := by simpa [ltI] using h2
                                         rw[this];simp
        rw[bub_stop hx hy h2]at hC;refine byG ?_;exact⟨μ-1,by omega,i+1,Z,by omega,by omega,hZ,by rw[hB2,hC],⟨rfl,rfl,trivial⟩,hw⟩
  · have him:¬i<m:=by simpa using h
    refine byG ?_;refine⟨_,rfl,_,rfl,?_⟩
    rw[hB,show m-i=0 by omega];exact hw
theorem IDs_any{Γ:Gho}{S:List Res}{w:World}{xs:List CoreT}{nm:ByteArray}{v1 v2 v3 v4 v5:Value}(hr:RdS Γ S v1 4 (xs.map enc))(hl:xs.length≤1000000)(hw:Wd Γ S w) :
  Calls Tryz.prog 28 #[.agg #[.string nm,v1,v2,v3,v4,v5]] w fun e w'=>∃v',e=.returned v'∧Wd Γ (.own v' 3 1 (intRows (xs.map (·.ID)))::S) w':=by
 obtain⟨a,n,c,rfl,hn,hnc,hc⟩:=hr.shape;have hnr:=hn
 simp only[List.length_map]at hn
 refine calls_of_W Tryz.func28 rfl rfl ?_
 refine byG ?_;refine lBox ?_;intro b1 w hw;have hw:Wd Γ (.blk b1 (.cells #[.string nm,.slice a n c,v2,v3,v4,v5] 38)::S) w:=hw
 have hw:Wd Γ (.own (.slice none 0 0) 3 1 (intRows ((xs.take 0).map (·.ID)))::.blk b1 (.cells #[.string nm,.slice a n c,v2,v3,v4,v5] 38)::S) w:=Wd.addNil hw
 refine byG ?_;refine W_loop (fun μ ρ w=>∃(k:Nat) (q:Option Addr) (m d:Nat),μ+k=n∧Has ρ [(1,.pointer (some ⟨b1,0,none⟩)),(3,.slice q m d),(4,.int .i64 k)]∧Wd Γ (.own (.slice q m d) 3 1 (intRows ((xs.take k).map (·.ID)))::.blk b1 (.cells #[.string nm,.slice a n c,v2,v3,v4,v5] 38)::S) w) n ⟨0,none,0,0,by omega,⟨rfl,rfl,rfl,trivial⟩,hw⟩ ?_
 clear hw;rintro μ ρ w ⟨k,q,m,d,hk,hρ,hw⟩
 have hm:=own_len (i:=0) hw rfl
 simp only[intRows,List.length_map,List.length_take]at hm
 have hr1:RdS Γ (.own (.slice q m d) 3 1 (intRows ((xs.take k).map (·.ID)))::.blk b1 (.cells #[.string nm,.slice a n c,v2,v3,v4,v5] 38)::S) (.slice a n c) 4 (xs.map enc):=hr.cons.cons
 rw[hρ.eq];refine byG ?_;refine W_cond rfl (fun h=>?_) (fun h=>?_)
 ·have hkn:k<n:=by simpa using h
  obtain⟨x,hx⟩:=get_lt (l:=xs) (k:=k) (by omega)
  refine byG ?_;refine lBuildSlice [[.int .i64 x.ID]] ?_
  intro ab w hw;refine lApp (i:=1) (rows2:=[[.int .i64 x.ID]]) ?_ (Wd.own_rd (i:=0) hw rfl)
  intro v' w hw;obtain⟨q',m',d',rfl,-,-,-⟩:=hw.own_shape (i:=1) rfl
  have hw:Wd Γ (.own (.slice q' m' d') 3 1 (intRows ((xs.take (k+1)).map (·.ID)))::.blk b1 (.cells #[.string nm,.slice a n c,v2,v3,v4,v5] 38)::S) w:=by
   rw[←rows_snocI (f:=fun c:CoreT=>c.ID) hx];exact hw.drop
  refine byG ?_;exact⟨μ-1,by omega,k+1,_,_,_,by omega,⟨rfl,rfl,rfl,trivial⟩,hw⟩
 ·have hkn:¬k<n:=by simpa using h
  rw[List.take_of_length_le (by omega)]at hw
  refine byG ?_;exact⟨_,rfl,_,rfl,hw.dropAt 1⟩
def nodeG(sh:Int)(j:Int):Int:=(5*j+sh)%64
def IsNodeG(nodes sh n:Int):Prop:=∃j:Int,0≤j∧j<nodes∧n=nodeG sh j
def CoresG(nodes sh first:Int)(l:List CoreT):Prop:=∀(i:Nat) (x:CoreT),l[i]? = some x→x.ID=(3*i+first)%32∧(x.Width=32∨x.Width=39)∧IsNodeG nodes sh x.Node∧1≤x.Speed∧x.Speed≤4
def LinkIs(sh:Int)(l:LinkT)(p:Nat×Nat):Prop:=(l.A=nodeG sh p.1∧l.B=nodeG sh p.2∨l.A=nodeG sh p.2∧l.B=nodeG sh p.1)∧1≤l.Latency∧l.Latency≤9
def LinksG(sh:Int)(k:Nat)(l:List LinkT):Prop:=l.length≤2*k∧∃P:List (Nat×Nat),P.length=l.length∧P.Nodup∧(∀p∈P,p.2<p.1∧p.1<k)∧(∀(i:Nat) (x:LinkT) (p:Nat×Nat),l[i]? = some x→P[i]? = some p→LinkIs sh x p)∧∀i,1≤i→i<k→∃j,(i,j)∈P
def ramN(i:Nat):ByteArray:=⟨#[114,97,109,UInt8.ofNat (48+i)]⟩
def devN(i:Nat):ByteArray:=⟨#[100,101,118,UInt8.ofNat (48+i)]⟩
def pairN(i:Nat):ByteArray:=⟨#[112,97,105,114,UInt8.ofNat (48+i)]⟩
def ownN(i:Nat):ByteArray:=⟨#[111,119,110,UInt8.ofNat (48+i)]⟩
def MemsG(nodes sh:Int)(l:List MemT):Prop:=∀(i:Nat) (x:MemT),l[i]? = some x→x.Name=ramN i∧x.Base=(5-i)*16777216∧(∃e:Nat,12≤e∧e≤19∧x.Size=2 ^ e)∧IsNodeG nodes sh x.Node∧1≤x.Latency∧x.Latency≤9
def DevsG(nodes sh irq:Int)(l:List DevT):Prop:=∀(i:Nat) (x:DevT),l[i]? = some x→x.Name=devN i∧IsNodeG nodes sh x.Node∧x.IRQ=(7*i+irq)%256∧x.Base=4294967296+i*65536∧(∃t:Int,1≤t∧t≤3∧x.Size=4096*t)
def allB:ByteArray:=⟨#[97,108,108]⟩
def cacheG(ids:List Int)(p:Nat×Nat):CacheT:=
 if p.1=3 then ⟨allB,3,64,1048576,ids⟩ else if p.1=2 then ⟨pairN p.2,2,64,65536,(ids.drop (2*p.2)).take 2⟩ else ⟨ownN p.2,1,32,4096,(ids.drop (2*p.2)).take 1⟩
def TagsG(ids:List Int)(k:Nat)(T:List (Nat×Nat)):Prop:=T.Nodup∧T.length≤1+2*k∧∀p∈T,p=(3,0)∨((p.1=2∨p.1=1)∧p.2<k∧2*p.2<ids.length)
def CachesG(ids:List Int)(l:List CacheT):Prop:=∃k T,TagsG ids k T∧k≤4∧l=T.map (cacheG ids)
structure Gen(H:HwT)(nodes sh first irq:Int):Prop where
 nd:1≤nodes∧nodes≤6
 sr:0≤sh∧sh<64
 fi:0≤first∧first<32
 iq:0≤irq∧irq<256
 nm:H.Name=⟨#[109]⟩
 nc:1≤H.Cores.length∧H.Cores.length≤8
 co:CoresG nodes sh first H.Cores
 li:LinksG sh nodes.toNat H.Links
 nm':H.Mems.length≤4
 me:MemsG nodes sh H.Mems
 nd':H.Devs.length≤4
 de:DevsG nodes sh irq H.Devs
 ca:CachesG (bsort ltI (H.Cores.map (·.ID))) H.Caches
theorem get_snoc{α:Type}{l:List α}{y x:α}{i:Nat}(h:(l++[y])[i]? = some x):l[i]? = some x∨(i=l.length∧x=y):=by
 rw[List.getElem?_append]at h;split at h
 ·exact .inl h
 ·rename_i h2
  rcases Nat.eq_or_lt_of_le (Nat.not_lt.1 h2) with e|e
  ·subst e;simp at h;exact .inr ⟨rfl,h.symm⟩
  ·rw[List.getElem?_eq_none (by simp;omega)]at h;cases h
theorem CoresG.snoc{nodes sh first:Int}{l:List CoreT}{x:CoreT}(h:CoresG nodes sh first l)(hx:x.ID=(3*l.length+first)%32∧(x.Width=32∨x.Width=39)∧IsNodeG nodes sh x.Node∧1≤x.Speed∧x.Speed≤4):CoresG nodes sh first (l++[x]):=fun i y hy=>by
 rcases get_snoc hy with h1|⟨rfl,rfl⟩
 ·exact h i y h1
 ·exact hx
theorem MemsG.snoc{nodes sh:Int}{l:List MemT}{x:MemT}(h:MemsG nodes sh l)(hx:x.Name=ramN l.length∧x.Base=(5-l.length)*16777216∧(∃e:Nat,12≤e∧e≤19∧x.Size=2 ^ e)∧IsNodeG nodes sh x.Node∧1≤x.Latency∧x.Latency≤9):MemsG nodes sh (l++[x]):=fun i y hy=>by
 rcases get_snoc hy with h1|⟨rfl,rfl⟩
 ·exact h i y h1
 ·exact hx
theorem DevsG.snoc{nodes sh irq:Int}{l:List DevT}{x:DevT}(h:DevsG nodes sh irq l)(hx:x.Name=devN l.length∧IsNodeG nodes sh x.Node∧x.IRQ=(7*l.length+irq)%256∧x.Base=4294967296+l.length*65536∧(∃t:Int,1≤t∧t≤3∧x.Size=4096*t)):DevsG nodes sh irq (l++[x]):=fun i y hy=>by
 rcases get_snoc hy with h1|⟨rfl,rfl⟩
 ·exact h i y h1
 ·exact hx
theorem LinksG.start{sh:Int}:LinksG sh 1 []:=⟨by simp,[],rfl,List.nodup_nil,by simp,by simp,fun i h1 h2=>by omega⟩
theorem LinksG.one{sh:Int}{k up:Nat}{l:List LinkT}{x:LinkT}(h:LinksG sh k l)(hup:up<k)(hx:LinkIs sh x (k,up)):LinksG sh (k+1) (l++[x]):=by
 obtain⟨h1,P,h2,h3,h4,h5,h6⟩:=h;refine⟨by simp;omega,P++[(k,up)],by simp[h2],nodup_snoc.2 ⟨h3,fun hm=>by have:=h4 _ hm;simp at this⟩,fun p hp=>?_,fun i y p hy hp=>?_,fun i hi hk=>?_⟩
 ·rcases List.mem_append.1 hp with hp|hp
  ·have:=h4 p hp;omega
  ·cases List.mem_singleton.1 hp;dsimp;omega
 ·rcases get_snoc hy with a|⟨a,rfl⟩
  ·rcases get_snoc hp with b|⟨b,rfl⟩
   ·exact h5 i y p a b
   ·have:=(List.getElem?_eq_some_iff.1 a).1;omega
  ·subst a;rw[←h2]at hp;simp at hp;subst hp;exact hx
 ·by_cases e:i=k
  ·subst e;exact⟨up,by simp⟩
  ·obtain⟨j,hj⟩:=h6 i hi (by omega);exact⟨j,List.mem_append_left _ hj⟩
theorem LinksG.two{sh:Int}{k up mo:Nat}{l:List LinkT}{x y:LinkT}(h:LinksG sh k l)(hk1:1≤k)(hup:up<k)(hmo:mo<k)(hne:mo≠up)(hx:LinkIs sh x (k,up))(hy:LinkIs sh y (k,mo)):LinksG sh (k+1) (l++[x]++[y]):=by
 obtain⟨h1,P,h2,h3,h4,h5,h6⟩:=h;have hfresh:∀j,(k,j)∉P:=fun j hm=>by have:=h4 _ hm;simp at this
 refine⟨by simp;omega,P++[(k,up)]++[(k,mo)],by simp[h2],nodup_snoc.2 ⟨nodup_snoc.2 ⟨h3,hfresh up⟩,fun hm=>?_⟩,fun p hp=>?_,fun i z p hz hp=>?_,fun i hi hk=>?_⟩
 ·rcases List.mem_append.1 hm with hm|hm
  ·exact hfresh mo hm
  ·simp at hm;exact hne hm
 ·rcases List.mem_append.1 hp with hp|hp
  ·rcases List.mem_append.1 hp with hp|hp
   ·have:=h4 p hp;omega
   ·cases List.mem_singleton.1 hp;dsimp;omega
  ·cases List.mem_singleton.1 hp;dsimp;omega
 ·rcases get_snoc hz with a|⟨a,rfl⟩
  ·have ha:=(List.getElem?_eq_some_iff.1 a).1
   simp at ha
   rcases get_snoc hp with b|⟨b,rfl⟩
   ·rcases get_snoc a with a2|⟨a2,rfl⟩
    ·rcases get_snoc b with b2|⟨b2,rfl⟩
     ·exact h5 i z p a2 b2
     ·have:=(List.getElem?_eq_some_iff.1 a2).1;omega
    ·subst a2;rw[←h2]at b;simp at b;subst b;exact hx
   ·simp at b;omega
  ·simp at a;subst a
   rw[←h2]at hp;simp[List.getElem?_append]at hp;subst hp;exact hy
 ·by_cases e:i=k
  ·subst e;exact⟨up,by simp⟩
  ·obtain⟨j,hj⟩:=h6 i hi (by omega);exact⟨j,List.mem_append_left _ (List.mem_append_left _ hj)⟩
theorem TagsG.start{ids:List Int}:TagsG ids 0 []:=⟨List.nodup_nil,by simp,by simp⟩
theorem TagsG.all{ids:List Int}:TagsG ids 0 [(3,0)]:=⟨by simp,by simp,by simp⟩
theorem TagsG.step{ids:List Int}{k:Nat}{T:List (Nat×Nat)}(h:TagsG ids k T)(hk:2*k<ids.length)(b1 b2:Bool):TagsG ids (k+1) (T++(if b1=true then [(2,k)] else [])++(if b2=true then [(1,k)] else [])):=by
 obtain⟨h1,h2,h3⟩:=h;have hfr:∀t,t≠3→(t,k)∉T:=fun t ht hm=>by
  rcases h3 _ hm with h|h
  ·injection h with h4 _;exact ht h4
  ·have:=h.2.1;dsimp at this;omega
 have hold:∀p∈T,p=(3,0)∨((p.1=2∨p.1=1)∧p.2<k+1∧2*p.2<ids.length):=fun p hp=>by
  rcases h3 p hp with h|⟨a,b,c⟩
  ·exact .inl h
  ·exact .inr ⟨a,by omega,c⟩
 cases b1 <;> cases b2 <;> simp only[if_true,if_false,List.append_nil,Bool.false_eq_true]
 ·exact⟨h1,by omega,hold⟩
 ·refine⟨nodup_snoc.2 ⟨h1,hfr 1 (by decide)⟩,by simp;omega,fun p hp=>?_⟩
  rcases List.mem_append.1 hp with hp|hp
  ·exact hold p hp
  ·cases List.mem_singleton.1 hp;exact .inr ⟨.inr rfl,by dsimp;omega,by dsimp;omega⟩
 ·refine⟨nodup_snoc.2 ⟨h1,hfr 2 (by decide)⟩,by simp;omega,fun p hp=>?_⟩
  rcases List.mem_append.1 hp with hp|hp
  ·exact hold p hp
  ·cases List.mem_singleton.1 hp;exact .inr ⟨.inl rfl,by dsimp;omega,by dsimp;omega⟩
 ·refine⟨nodup_snoc.2 ⟨nodup_snoc.2 ⟨h1,hfr 2 (by decide)⟩,fun hm=>?_⟩,by simp;omega,fun p hp=>?_⟩
  ·rcases List.mem_append.1 hm with hm|hm
   ·exact hfr 1 (by decide) hm
   ·simp at hm
  ·rcases List.mem_append.1 hp with hp|hp
   ·rcases List.mem_append.1 hp with hp|hp
    ·exact hold p hp
    ·cases List.mem_singleton.1 hp;exact .inr ⟨.inl rfl,by dsimp;omega,by dsimp;omega⟩
   ·cases List.mem_singleton.1 hp;exact .inr ⟨.inr rfl,by dsimp;omega,by dsimp;omega⟩
set_option maxHeartbeats 4000000
theorem swap_perm{α:Type}{l:List α}{k:Nat}{x y:α}(hx:l[k+1]? = some x)(hy:l[k]? = some y):((l.set (k+1) y).set k x).Perm l:=by
 induction l generalizing k with
 | nil=>simp at hx
 | cons a l ih=>
  cases k with
  | zero=>
   cases l with
   | nil=>simp at hx
   | cons b l=>
    simp at hx hy
    subst hx hy;exact List.Perm.swap _ _ _
  | succ k=>
   simp only[List.getElem?_cons_succ]at hx hy
   simp only[List.set_cons_succ]
   exact List.Perm.cons _ (ih hx hy)
theorem bub_perm{α:Type}{lt:α→α→Bool}:∀(k:Nat) (l:List α),(bub lt k l).Perm l
 | 0,l=>List.Perm.refl _
 | k+1,l=>by
  unfold bub;split
  ·rename_i x y hx hy
   split
   ·exact(bub_perm k _).trans (swap_perm hx hy)
   ·exact List.Perm.refl _
  ·exact List.Perm.refl _
theorem bsFrom_perm{α:Type}{lt:α→α→Bool}:∀(f i:Nat) (l:List α),(bsFrom lt f i l).Perm l
 | 0,_,l=>List.Perm.refl _
 | f+1,i,l=>(bsFrom_perm f (i+1) _).trans (bub_perm i l)
theorem bsort_perm{α:Type}{lt:α→α→Bool}(l:List α):(bsort lt l).Perm l:=bsFrom_perm _ _ _
def leAt{α:Type}(le:α→α→Prop)(l:List α)(p q:Nat):Prop:=∀x y,l[p]? = some x→l[q]? = some y→le x y
structure LeLt{α:Type}(le:α→α→Prop)(lt:α→α→Bool):Prop where
 t:∀ {x y},lt x y=true→le x y
 f:∀ {x y},lt x y=false→le y x
 tr:∀ {x y z},le x y→le y z→le x z
theorem bub_sorted{α:Type}{le:α→α→Prop}{lt:α→α→Bool}(hl:LeLt le lt):∀(k i:Nat) (l:List α),k≤i→i<l.length→(∀p q,p<q→q≤i→p≠k→q≠k→leAt le l p q)→(∀q,k<q→q≤i→leAt le l k q)→∀p q,p<q→q≤i→leAt le (bub lt k l) p q
 | 0,i,l,hk,hi,h1,h2,p,q,hpq,hq=>by
  show leAt le l p q
  by_cases e:p=0
  ·subst e;exact h2 q hpq hq
  ·exact h1 p q hpq hq e (by omega)
 | k+1,i,l,hk,hi,h1,h2,p,q,hpq,hq=>by
  obtain⟨x,hx⟩:=get_lt (l:=l) (k:=k+1) (by omega)
  obtain⟨y,hy⟩:=get_lt (l:=l) (k:=k) (by omega)
  by_cases hlt:lt x y=true
  ·rw[bub_step hx hy hlt];have g0:∀r,r≠k→r≠k+1→((l.set (k+1) y).set k x)[r]? = l[r]?:=fun r a b=>by
    rw[List.getElem?_set_ne (by omega),List.getElem?_set_ne (by omega)]
   have g1:((l.set (k+1) y).set k x)[k]? = some x:=by rw[List.getElem?_set_self (by simp;omega)]
   have g2:((l.set (k+1) y).set k x)[k+1]? = some y:=by rw[List.getElem?_set_ne (by omega),List.getElem?_set_self (by omega)]
   refine bub_sorted hl k i _ (by omega) (by simp;omega) (fun p q hpq hq hp1 hq1=>?_) (fun q hkq hq=>?_) p q hpq hq
   ·intro u v hu hv;by_cases e1:q=k+1
    ·subst e1;rw[g2]at hv;cases hv
     rw[g0 p hp1 (by omega)]at hu
     exact h1 p k (by omega) (by omega) (by omega) (by omega) u y hu hy
    ·rw[g0 q hq1 e1]at hv;by_cases e2:p=k+1
     ·subst e2;rw[g2]at hu;cases hu
      exact h1 k q (by omega) hq (by omega) e1 y v hy hv
     ·rw[g0 p hp1 e2]at hu;exact h1 p q hpq hq e2 e1 u v hu hv
   ·intro u v hu hv;rw[g1]at hu;cases hu
    by_cases e1:q=k+1
    ·subst e1;rw[g2]at hv;cases hv;exact hl.t hlt
    ·rw[g0 q (by omega) e1]at hv
     exact h2 q (by omega) hq x v hx hv
  ·rw[bub_stop hx hy hlt];have hge:le y x:=hl.f (by simpa using hlt)
   by_cases e1:p=k+1
   ·subst e1;exact h2 q hpq hq
   ·by_cases e2:q=k+1
    ·subst e2;intro u v hu hv;rw[hx]at hv;cases hv
     by_cases e3:p=k
     ·subst e3;rw[hy]at hu;cases hu;exact hge
     ·exact hl.tr (h1 p k (by omega) (by omega) e1 (by omega) u y hu hy) hge
    ·exact h1 p q hpq hq e1 e2
theorem bsFrom_sorted{α:Type}{le:α→α→Prop}{lt:α→α→Bool}(hl:LeLt le lt):∀(f i:Nat) (l:List α),l.length≤i+f→(∀p q,p<q→q<i→leAt le l p q)→∀p q,p<q→leAt le (bsFrom lt f i l) p q
 | 0,i,l,hf,h,p,q,hpq=>by
  intro u v hu hv;have:q<l.length:=(List.getElem?_eq_some_iff.1 hv).1
  exact h p q hpq (by omega) u v hu hv
 | f+1,i,l,hf,h,p,q,hpq=>by
  by_cases hi:i<l.length
  ·refine bsFrom_sorted hl f (i+1) (bub lt i l) (by rw[bub_len];omega) (fun p q hpq hq=>?_) p q hpq
   exact bub_sorted hl i i l (Nat.le_refl _) hi (fun p q a b c d=>h p q a (by omega)) (fun q a b=>by omega) p q hpq (by omega)
  ·refine bsFrom_sorted hl f (i+1) (bub lt i l) (by rw[bub_len];omega) (fun p q hpq hq=>?_) p q hpq
   have hb:bub lt i l=l:=by
    cases i with
    | zero=>rfl
    | succ i=>unfold bub;rw[List.getElem?_eq_none (by omega)]
   rw[hb];intro u v hu hv;have:q<l.length:=(List.getElem?_eq_some_iff.1 hv).1
   exact h p q hpq (by omega) u v hu hv
theorem bsort_sorted{α:Type}{le:α→α→Prop}{lt:α→α→Bool}(hl:LeLt le lt)(l:List α){p q:Nat}(hpq:p<q):leAt le (bsort lt l) p q:=
 bsFrom_sorted hl _ 1 l (by omega) (fun p q a b=>by omega) p q hpq
theorem leLtI:LeLt (fun a b:Int=>a≤b) ltI:=⟨fun h=>by unfold ltI at h;simp at h;omega,fun h=>by unfold ltI at h;simp at h;omega,fun a b=>Int.le_trans a b⟩
theorem sortI{l:List Int}:sortedP (bsort ltI l):=fun i a b ha hb=>bsort_sorted leLtI l (Nat.lt_succ_self i) a b ha hb
section
variable {H:HwT}{nodes sh first irq:Int}
theorem nodeG_in(sh j:Int):0≤nodeG sh j∧nodeG sh j<64:=by unfold nodeG;omega
theorem nodeG_inj{sh:Int}{i j:Int}(h0:0≤i)(h1:i<6)(h2:0≤j)(h3:j<6)(h:nodeG sh i=nodeG sh j):i=j:=by unfold nodeG at h;omega
theorem isNode_G(sh j:Int):isNodeB (nodeG sh j)=true:=by
 have:=nodeG_in sh j
 simp[isNodeB];omega
theorem IsNodeG.ok{n:Int}(h:IsNodeG nodes sh n):isNodeB n=true:=by obtain⟨j,-,-,rfl⟩:=h;exact isNode_G sh j
theorem mem_get{α:Type}{l:List α}{x:α}(h:x∈l):∃i,i<l.length∧l[i]? = some x:=by
 obtain⟨i,hi,he⟩:=List.getElem_of_mem h
 exact⟨i,hi,by rw[List.getElem?_eq_getElem hi,he]⟩
theorem tags_lt{ids:List Int}{k:Nat}{T:List (Nat×Nat)}(h:TagsG ids k T)(hk:k≤4){p:Nat×Nat}(hp:p∈T):p=(3,0)∨((p.1=2∨p.1=1)∧p.2<4∧2*p.2<ids.length):=by
 rcases h.2.2 p hp with h|⟨a,b,c⟩
 ·exact .inl h
 ·exact .inr ⟨a,by omega,c⟩
theorem ramN_ok{i:Nat}(h:i<4):nameS (ramN i)=true:=by
 have:i=0∨i=1∨i=2∨i=3:=by omega
 rcases this with rfl|rfl|rfl|rfl <;> decide +kernel
theorem devN_ok{i:Nat}(h:i<4):nameS (devN i)=true:=by
 have:i=0∨i=1∨i=2∨i=3:=by omega
 rcases this with rfl|rfl|rfl|rfl <;> decide +kernel
theorem pairN_ok{i:Nat}(h:i<4):nameS (pairN i)=true:=by
 have:i=0∨i=1∨i=2∨i=3:=by omega
 rcases this with rfl|rfl|rfl|rfl <;> decide +kernel
theorem ownN_ok{i:Nat}(h:i<4):nameS (ownN i)=true:=by
 have:i=0∨i=1∨i=2∨i=3:=by omega
 rcases this with rfl|rfl|rfl|rfl <;> decide +kernel
inductive CacheK (ids:List Int):CacheT→Nat×Nat→Prop
 | all:CacheK ids ⟨allB,3,64,1048576,ids⟩ (3,0)
 | pair {t:Nat}:t<4→2*t<ids.length→CacheK ids ⟨pairN t,2,64,65536,(ids.drop (2*t)).take 2⟩ (2,t)
 | own {t:Nat}:t<4→2*t<ids.length→CacheK ids ⟨ownN t,1,32,4096,(ids.drop (2*t)).take 1⟩ (1,t)
theorem cacheK{ids:List Int}{k:Nat}{T:List (Nat×Nat)}(h:TagsG ids k T)(hk:k≤4){p:Nat×Nat}(hp:p∈T):CacheK ids (cacheG ids p) p:=by
 rcases tags_lt h hk hp with rfl|⟨a,b,c⟩
 ·exact .all
 ·obtain⟨p1,p2⟩:=p;rcases a with rfl|rfl
  ·exact .pair b c
  ·exact .own b c
theorem cacheK_name{ids:List Int}{c:CacheT}{p:Nat×Nat}(h:CacheK ids c p):nameS c.Name=true:=by
 cases h with
 | all=>show nameS allB=true;decide +kernel
 | pair h=>exact pairN_ok h
 | own h=>exact ownN_ok h
theorem cacheK_rng{ids:List Int}{c:CacheT}{p:Nat×Nat}(h:CacheK ids c p)(hi:0<ids.length):cacheRB c=true:=by
 have e64:decide (bitsZ .and .i64 64 (IntKind.i64.wrap (64-1))=0)=true:=by decide +kernel
 have e32:decide (bitsZ .and .i64 32 (IntKind.i64.wrap (32-1))=0)=true:=by decide +kernel
 have w64:IntKind.u64.wrap 64=64:=by decide +kernel
 have w32:IntKind.u64.wrap 32=32:=by decide +kernel
 cases h with
 | all=>unfold cacheRB;dsimp only;rw[e64,w64];simp;omega
 | pair h1 h2=>unfold cacheRB;dsimp only;rw[e64,w64];simp;omega
 | own h1 h2=>unfold cacheRB;dsimp only;rw[e32,w32];simp;omega
theorem gen_ids(g:Gen H nodes sh first irq):(bsort ltI (H.Cores.map (·.ID))).length=H.Cores.length:=by rw[bsort_len];simp
theorem gen_names(g:Gen H nodes sh first irq):namesB H=true:=by
 have hh:headB H=true:=by unfold headB;rw[g.nm];decide +kernel
 obtain⟨k,T,hT,hk,hc⟩:=g.ca;unfold namesB;rw[hh];simp only[Bool.true_and,Bool.and_eq_true,List.all_eq_true]
 refine⟨⟨fun c hcm=>?_,fun x hx=>?_⟩,fun x hx=>?_⟩
 ·rw[hc]at hcm;obtain⟨p,hp,rfl⟩:=List.mem_map.1 hcm
  exact cacheK_name (cacheK hT hk hp)
 ·obtain⟨i,hi,he⟩:=mem_get hx
  rw[(g.me i x he).1];exact ramN_ok (by have:=g.nm';omega)
 ·obtain⟨i,hi,he⟩:=mem_get hx
  rw[(g.de i x he).1];exact devN_ok (by have:=g.nd';omega)
theorem gen_counts(g:Gen H nodes sh first irq):countsB H=true:=by
 obtain⟨k,T,hT,hk,hc⟩:=g.ca;have h1:=g.nc
 have h2:=g.nm'
 have h3:=g.nd'
 have h4:=g.li.1
 have h5:=g.nd
 have h6:=hT.2.1
 have h7:H.Caches.length=T.length:=by rw[hc];simp
 unfold countsB;simp only[Bool.and_eq_true,decide_eq_true_eq]
 omega
theorem wrap_top{s:Int}(h0:0≤s)(h:s≤1099511627776):IntKind.u64.wrap (1099511627776-s)=1099511627776-s:=by simp[IntKind.wrap,IntKind.bits,IntKind.signed];omega
theorem pow_rng{e:Nat}(h1:12≤e)(h2:e≤19):(4096:Int)≤2 ^ e∧(2:Int) ^ e≤524288:=by
 have:e=12∨e=13∨e=14∨e=15∨e=16∨e=17∨e=18∨e=19:=by omega
 rcases this with rfl|rfl|rfl|rfl|rfl|rfl|rfl|rfl <;> decide
theorem link_of(g:LinksG sh nodes.toNat H.Links){i:Nat}{x:LinkT}(hx:H.Links[i]? = some x):∃P:List (Nat×Nat),P.length=H.Links.length∧P.Nodup∧(∃p,P[i]? = some p)∧∀(i:Nat) (x:LinkT),H.Links[i]? = some x→∃p,P[i]? = some p∧LinkIs sh x p∧p.2<p.1∧p.1<nodes.toNat:=by
 obtain⟨-,P,h2,h3,h4,h5,-⟩:=g;refine⟨P,h2,h3,?_,fun i x hx=>?_⟩
 ·exact get_lt (by have:=(List.getElem?_eq_some_iff.1 hx).1;omega)
 ·obtain⟨p,hp⟩:=get_lt (l:=P) (k:=i) (by have:=(List.getElem?_eq_some_iff.1 hx).1;omega)
  exact⟨p,hp,h5 i x p hx hp,h4 p (List.mem_of_getElem? hp)⟩
theorem gen_cores(g:Gen H nodes sh first irq):coresRB H=true:=by
 obtain⟨k,T,hT,hk,hc⟩:=g.ca;have hfi:=g.fi
 have hnd:=g.nd
 unfold coresRB;simp only[Bool.and_eq_true,List.all_eq_true]
 refine⟨fun x hx=>?_,fun c hcm=>?_,fun x hx=>?_⟩
 ·obtain⟨i,hi,he⟩:=mem_get hx
  obtain⟨h1,h2,h3,h4,h5⟩:=g.co i x he
  have:=h3.ok
  unfold coreRB;rw[this];simp;omega
 ·rw[hc]at hcm;obtain⟨p,hp,rfl⟩:=List.mem_map.1 hcm
  exact cacheK_rng (cacheK hT hk hp) (by rw[gen_ids g];have:=g.nc;omega)
 ·obtain⟨i,hi,he⟩:=mem_get hx
  obtain⟨P,-,-,-,hP⟩:=link_of g.li he
  obtain⟨p,hp,⟨h1,h2,h3⟩,h4,h5⟩:=hP i x he
  have hne:nodeG sh p.1≠nodeG sh p.2:=fun e=>by
   have:=nodeG_inj (by omega) (by omega) (by omega) (by omega) e
   omega
  unfold linkRB;rcases h1 with⟨a,b⟩|⟨a,b⟩
  ·rw[a,b,isNode_G,isNode_G];simp[isLatB];exact⟨hne,by omega⟩
  ·rw[a,b,isNode_G,isNode_G];simp[isLatB];exact⟨fun e=>hne e.symm,by omega⟩
theorem gen_regions(g:Gen H nodes sh first irq):regionsRB H=true:=by
 have h7:=g.nm'
 have h8:=g.nd'
 unfold regionsRB;simp only[Bool.and_eq_true,List.all_eq_true]
 refine⟨fun x hx=>?_,fun x hx=>?_⟩
 ·obtain⟨i,hi,he⟩:=mem_get hx
  obtain⟨h1,h2,⟨e,e1,e2,h3⟩,h4,h5,h6⟩:=g.me i x he
  obtain⟨p1,p2⟩:=pow_rng e1 e2
  unfold memRB inSpaceB;rw[h4.ok,wrap_top (by omega) (by omega)]
  simp[isLatB];omega
 ·obtain⟨i,hi,he⟩:=mem_get hx
  obtain⟨h1,h2,h3,h4,t,t1,t2,h5⟩:=g.de i x he
  have:=g.iq
  unfold devRB inSpaceB;rw[h2.ok,wrap_top (by omega) (by omega)]
  simp;omega
theorem align_mem{i e:Nat}(hi:i<4)(h1:12≤e)(h2:e≤19):(decide (bitsZ .and .u64 (2 ^ e) (IntKind.u64.wrap (2 ^ e-1))=0)&&decide (bitsZ .and .u64 ((5-(i:Int))*16777216) (IntKind.u64.wrap (2 ^ e-1))=0))=true:=by
 have a:i=0∨i=1∨i=2∨i=3:=by omega
 have b:e=12∨e=13∨e=14∨e=15∨e=16∨e=17∨e=18∨e=19:=by omega
 rcases a with rfl|rfl|rfl|rfl <;> rcases b with rfl|rfl|rfl|rfl|rfl|rfl|rfl|rfl <;> decide +kernel
theorem gen_align(g:Gen H nodes sh first irq):alignRB H=true:=by
 have h7:=g.nm'
 have h8:=g.nd'
 unfold alignRB;simp only[Bool.and_eq_true,List.all_eq_true]
 refine⟨fun x hx=>?_,fun x hx=>?_⟩
 ·obtain⟨i,hi,he⟩:=mem_get hx
  obtain⟨h1,h2,⟨e,e1,e2,h3⟩,-⟩:=g.me i x he
  unfold memAB;rw[h2,h3];exact align_mem (by omega) e1 e2
 ·obtain⟨i,hi,he⟩:=mem_get hx
  obtain⟨h1,h2,h3,h4,t,t1,t2,h5⟩:=g.de i x he
  unfold devAB;rw[h4,h5,Int.tmod_eq_emod_of_nonneg (by omega),Int.tmod_eq_emod_of_nonneg (by omega)]
  simp;omega
end
section
variable {H:HwT}{nodes sh first irq:Int}
theorem nodup_of{α:Type}:∀ {l:List α},(∀(i j:Nat) (x:α),l[i]? = some x→l[j]? = some x→i=j)→l.Nodup
 | [],_=>List.nodup_nil
 | a::l,h=>List.nodup_cons.2 ⟨fun hm=>by
   obtain⟨i,hi,he⟩:=mem_get hm
   have:=h 0 (i+1) a rfl (by simpa using he)
   omega,nodup_of fun i j x hi hj=>by
   have:=h (i+1) (j+1) x (by simpa using hi) (by simpa using hj)
   omega⟩
theorem nodup_get{α:Type}:∀ {l:List α},l.Nodup→∀ {i j:Nat} {x:α},l[i]? = some x→l[j]? = some x→i=j
 | [],_,i,j,x,h,_=>by simp at h
 | a::l,h,0,0,x,_,_=>rfl
 | a::l,h,0,j+1,x,h1,h2=>by
  simp at h1 h2;subst h1
  exact absurd (List.mem_of_getElem? h2) (List.nodup_cons.1 h).1
 | a::l,h,i+1,0,x,h1,h2=>by
  simp at h1 h2;subst h2
  exact absurd (List.mem_of_getElem? h1) (List.nodup_cons.1 h).1
 | a::l,h,i+1,j+1,x,h1,h2=>by
  simp at h1 h2
  rw[nodup_get (List.nodup_cons.1 h).2 h1 h2]
theorem map_get{α β:Type}{f:α→β}{l:List α}{i:Nat}{y:β}(h:(l.map f)[i]? = some y):∃x,l[i]? = some x∧f x=y:=by
 rw[List.getElem?_map]at h;exact Option.map_eq_some_iff.1 h
theorem ids_nodup(g:Gen H nodes sh first irq):(H.Cores.map (·.ID)).Nodup:=nodup_of fun i j x hi hj=>by
 obtain⟨a,ha,rfl⟩:=map_get hi
 obtain⟨b,hb,he⟩:=map_get hj
 have h1:=(g.co i a ha).1
 have h2:=(g.co j b hb).1
 have:=(List.getElem?_eq_some_iff.1 ha).1
 have:=(List.getElem?_eq_some_iff.1 hb).1
 have:=g.nc
 have:=g.fi
 rw[h1,h2]at he;omega
theorem ramN_inj{i j:Nat}(hi:i<4)(hj:j<4)(h:ramN i=ramN j):i=j:=by
 have a:i=0∨i=1∨i=2∨i=3:=by omega
 have b:j=0∨j=1∨j=2∨j=3:=by omega
 rcases a with rfl|rfl|rfl|rfl <;> rcases b with rfl|rfl|rfl|rfl <;> first|rfl|(revert h;decide +kernel)
theorem devN_inj{i j:Nat}(hi:i<4)(hj:j<4)(h:devN i=devN j):i=j:=by
 have a:i=0∨i=1∨i=2∨i=3:=by omega
 have b:j=0∨j=1∨j=2∨j=3:=by omega
 rcases a with rfl|rfl|rfl|rfl <;> rcases b with rfl|rfl|rfl|rfl <;> first|rfl|(revert h;decide +kernel)
theorem pairN_inj{i j:Nat}(hi:i<4)(hj:j<4)(h:pairN i=pairN j):i=j:=by
 have a:i=0∨i=1∨i=2∨i=3:=by omega
 have b:j=0∨j=1∨j=2∨j=3:=by omega
 rcases a with rfl|rfl|rfl|rfl <;> rcases b with rfl|rfl|rfl|rfl <;> first|rfl|(revert h;decide +kernel)
theorem ownN_inj{i j:Nat}(hi:i<4)(hj:j<4)(h:ownN i=ownN j):i=j:=by
 have a:i=0∨i=1∨i=2∨i=3:=by omega
 have b:j=0∨j=1∨j=2∨j=3:=by omega
 rcases a with rfl|rfl|rfl|rfl <;> rcases b with rfl|rfl|rfl|rfl <;> first|rfl|(revert h;decide +kernel)
theorem bytes_ne{a b:ByteArray}(h:a.data.toList.head?≠b.data.toList.head?):a≠b:=fun e=>h (by rw[e])
theorem cacheK_inj{ids:List Int}{c d:CacheT}{p q:Nat×Nat}(h:CacheK ids c p)(k:CacheK ids d q)(e:c.Name=d.Name):p=q:=by
 cases h with
 | all=>cases k with
  | all=>rfl
  | pair=>exact absurd e (bytes_ne (by show some (97:UInt8)≠some 112;decide))
  | own=>exact absurd e (bytes_ne (by show some (97:UInt8)≠some 111;decide))
 | pair h1=>cases k with
  | all=>exact absurd e (bytes_ne (by show some (112:UInt8)≠some 97;decide))
  | pair h2=>rw[pairN_inj h1 h2 e]
  | own=>exact absurd e (bytes_ne (by show some (112:UInt8)≠some 111;decide))
 | own h1=>cases k with
  | all=>exact absurd e (bytes_ne (by show some (111:UInt8)≠some 97;decide))
  | pair=>exact absurd e (bytes_ne (by show some (111:UInt8)≠some 112;decide))
  | own h2=>rw[ownN_inj h1 h2 e]
theorem cacheK_cores{ids:List Int}{c:CacheT}{p:Nat×Nat}(h:CacheK ids c p):c.Cores.Sublist ids:=by
 cases h with
 | all=>exact List.Sublist.refl _
 | pair=>exact(List.take_sublist _ _).trans (List.drop_sublist _ _)
 | own=>exact(List.take_sublist _ _).trans (List.drop_sublist _ _)
theorem linkKey_of{x:LinkT}{p:Nat×Nat}(h:LinkIs sh x p):linkKey x=(min (nodeG sh p.1) (nodeG sh p.2),max (nodeG sh p.1) (nodeG sh p.2)):=by
 obtain⟨h1,-⟩:=h;unfold linkKey;rcases h1 with⟨a,b⟩|⟨a,b⟩
 ·rw[a,b];congr 1 <;> split <;> omega
 ·rw[a,b];congr 1 <;> split <;> omega
theorem links_nodup(g:Gen H nodes sh first irq):(H.Links.map linkKey).Nodup:=nodup_of fun i j z hi hj=>by
 obtain⟨a,ha,rfl⟩:=map_get hi
 obtain⟨b,hb,he⟩:=map_get hj
 obtain⟨P,hl,hn,-,hP⟩:=link_of g.li ha
 obtain⟨p,hp,hp1,hp2,hp3⟩:=hP i a ha
 obtain⟨q,hq,hq1,hq2,hq3⟩:=hP j b hb
 have hnd:=g.nd
 rw[linkKey_of hp1,linkKey_of hq1]at he;injection he with e1 e2
 have hpq:p=q:=by
  have c:(nodeG sh p.1=nodeG sh q.1∧nodeG sh p.2=nodeG sh q.2)∨(nodeG sh p.1=nodeG sh q.2∧nodeG sh p.2=nodeG sh q.1):=by omega
  rcases c with⟨c1,c2⟩|⟨c1,c2⟩
  ·have d1:=nodeG_inj (by omega) (by omega) (by omega) (by omega) c1
   have d2:=nodeG_inj (by omega) (by omega) (by omega) (by omega) c2
   exact Prod.ext (by omega) (by omega)
  ·have d1:=nodeG_inj (by omega) (by omega) (by omega) (by omega) c1
   have d2:=nodeG_inj (by omega) (by omega) (by omega) (by omega) c2
   omega
 subst hpq;exact nodup_get hn hp hq
theorem gen_unique(g:Gen H nodes sh first irq):uniqueB H=true:=by
 obtain⟨k,T,hT,hk,hc⟩:=g.ca;have hids:(bsort ltI (H.Cores.map (·.ID))).Nodup:=(bsort_perm _).nodup_iff.2 (ids_nodup g)
 unfold uniqueB;simp only[Bool.and_eq_true,List.all_eq_true,decide_eq_true_eq]
 refine⟨fun c hcm=>?_,⟨⟨⟨⟨⟨ids_nodup g,?_⟩,?_⟩,?_⟩,?_⟩,links_nodup g⟩⟩
 ·rw[hc]at hcm;obtain⟨p,hp,rfl⟩:=List.mem_map.1 hcm
  exact hids.sublist (cacheK_cores (cacheK hT hk hp))
 ·rw[hc,List.map_map];refine nodup_of fun i j z hi hj=>?_
  obtain⟨p,hp,rfl⟩:=map_get hi
  obtain⟨q,hq,he⟩:=map_get hj
  have hpq:=cacheK_inj (cacheK hT hk (List.mem_of_getElem? hq)) (cacheK hT hk (List.mem_of_getElem? hp)) he
  subst hpq;exact nodup_get hT.1 hp hq
 ·refine nodup_of fun i j z hi hj=>?_
  obtain⟨a,ha,rfl⟩:=map_get hi
  obtain⟨b,hb,he⟩:=map_get hj
  rw[(g.me i a ha).1,(g.me j b hb).1]at he;have:=(List.getElem?_eq_some_iff.1 ha).1
  have:=(List.getElem?_eq_some_iff.1 hb).1
  have:=g.nm'
  exact(ramN_inj (by omega) (by omega) he).symm
 ·refine nodup_of fun i j z hi hj=>?_
  obtain⟨a,ha,rfl⟩:=map_get hi
  obtain⟨b,hb,he⟩:=map_get hj
  rw[(g.de i a ha).1,(g.de j b hb).1]at he;have:=(List.getElem?_eq_some_iff.1 ha).1
  have:=(List.getElem?_eq_some_iff.1 hb).1
  have:=g.nd'
  exact(devN_inj (by omega) (by omega) he).symm
 ·refine nodup_of fun i j z hi hj=>?_
  obtain⟨a,ha,rfl⟩:=map_get hi
  obtain⟨b,hb,he⟩:=map_get hj
  have h1:=(g.de i a ha).2.2.1
  have h2:=(g.de j b hb).2.2.1
  rw[h1,h2]at he;have:=(List.getElem?_eq_some_iff.1 ha).1
  have:=(List.getElem?_eq_some_iff.1 hb).1
  have:=g.nd'
  have:=g.iq
  omega
theorem gen_known(g:Gen H nodes sh first irq):knownB H=true:=by
 obtain⟨k,T,hT,hk,hc⟩:=g.ca;unfold knownB;simp only[List.all_eq_true,List.any_eq_true,decide_eq_true_eq]
 intro c hcm id hid;rw[hc]at hcm;obtain⟨p,hp,rfl⟩:=List.mem_map.1 hcm
 have h1:=(cacheK_cores (cacheK hT hk hp)).subset hid
 have h2:=(bsort_perm _).mem_iff.1 h1
 obtain⟨x,hx,he⟩:=List.mem_map.1 h2
 exact⟨x,hx,he⟩
theorem gen_disj(g:Gen H nodes sh first irq):disjB H=true:=decP_t fun i k a b hki ha hb=>by
 have h7:=g.nm'
 have h8:=g.nd'
 have hm:∀(i:Nat) (x:MemT),H.Mems[i]? = some x→i<4∧(memBlk x).1=(5-i)*16777216∧(memBlk x).2≤(5-i)*16777216+524288∧(memBlk x).1<(memBlk x).2:=fun i x hx=>by
  obtain⟨-,h2,⟨e,e1,e2,h3⟩,-⟩:=g.me i x hx
  obtain⟨p1,p2⟩:=pow_rng e1 e2
  have:=(List.getElem?_eq_some_iff.1 hx).1
  unfold memBlk;dsimp only
  rw[show IntKind.u64.wrap (x.Base+x.Size)=x.Base+x.Size from by simp[IntKind.wrap,IntKind.bits,IntKind.signed];omega]
  omega
 have hd:∀(i:Nat) (x:DevT),H.Devs[i]? = some x→i<4∧(devBlk x).1=4294967296+i*65536∧(devBlk x).2≤4294967296+i*65536+12288∧(devBlk x).1<(devBlk x).2:=fun i x hx=>by
  obtain⟨-,-,-,h2,t,t1,t2,h3⟩:=g.de i x hx
  have:=(List.getElem?_eq_some_iff.1 hx).1
  unfold devBlk;dsimp only
  rw[show IntKind.u64.wrap (x.Base+x.Size)=x.Base+x.Size from by simp[IntKind.wrap,IntKind.bits,IntKind.signed];omega]
  omega
 have hr:∀(i:Nat) (a:Int×Int),(regs H)[i]? = some a→(∃x,H.Mems[i]? = some x∧memBlk x=a)∨(∃j x,i=H.Mems.length+j∧H.Devs[j]? = some x∧devBlk x=a):=fun i a ha=>by
  unfold regs at ha;rw[List.getElem?_append]at ha;split at ha
  ·exact .inl (map_get ha)
  ·rename_i hlt
   obtain⟨x,hx,he⟩:=map_get ha
   simp at hlt hx
   exact .inr ⟨i-H.Mems.length,x,by omega,hx,he⟩
 have key:¬(a.1<b.2∧b.1<a.2):=by
  rcases hr i a ha with⟨x,hx,rfl⟩|⟨j,x,hj,hx,rfl⟩ <;> rcases hr k b hb with⟨y,hy,rfl⟩|⟨l,y,hl,hy,rfl⟩
  ·have:=hm i x hx;have:=hm k y hy;omega
  ·have:=(List.getElem?_eq_some_iff.1 hx).1;omega
  ·have:=hd j x hx;have:=hm k y hy;omega
  ·have:=hd j x hx;have:=hd l y hy;omega
 unfold apartB;simp only[Bool.not_eq_true',Bool.and_eq_false_iff,decide_eq_false_iff_not]
 omega
theorem reach_trans{ls:List LinkT}{a b c:Int}(h:Reach ls a b)(k:Reach ls b c):Reach ls a c:=by
 induction k with
 | refl=>exact h
 | ab hl _ ih=>exact .ab hl ih
 | ba hl _ ih=>exact .ba hl ih
theorem reach_symm{ls:List LinkT}{a b:Int}(h:Reach ls a b):Reach ls b a:=by
 induction h with
 | refl=>exact .refl
 | ab hl _ ih=>exact reach_trans (.ba hl .refl) ih
 | ba hl _ ih=>exact reach_trans (.ab hl .refl) ih
theorem gen_conn(g:Gen H nodes sh first irq):connB H=true:=by
 obtain⟨-,P,h2,h3,h4,h5,h6⟩:=g.li;have hnd:=g.nd
 have r0:∀i:Nat,i<nodes.toNat→Reach H.Links (nodeG sh 0) (nodeG sh i):=by
  intro i;induction i using Nat.strongRecOn with
  | ind i ih=>
   intro hi;by_cases e:i=0
   ·subst e;exact .refl
   ·obtain⟨j,hj⟩:=h6 i (by omega) hi
    have hji:=(h4 _ hj).1
    dsimp at hji
    obtain⟨n,hn,hp⟩:=mem_get hj
    obtain⟨x,hx⟩:=get_lt (l:=H.Links) (k:=n) (by omega)
    have hl:=h5 n x _ hx hp
    have hxm:=List.mem_of_getElem? hx
    have hr:=ih j hji (by omega)
    rcases hl.1 with⟨a,b⟩|⟨a,b⟩
    ·dsimp at a b;rw[←a];rw[←b]at hr;exact .ba hxm hr
    ·dsimp at a b;rw[←b];rw[←a]at hr;exact .ab hxm hr
 have hu:∀n∈usedN H,IsNodeG nodes sh n:=fun n hn=>by
  unfold usedN at hn;simp only[List.mem_append,List.mem_map]at hn
  rcases hn with (⟨x,hx,rfl⟩|⟨x,hx,rfl⟩)|⟨x,hx,rfl⟩
  ·obtain⟨i,hi,he⟩:=mem_get hx;exact(g.co i x he).2.2.1
  ·obtain⟨i,hi,he⟩:=mem_get hx;exact(g.me i x he).2.2.2.1
  ·obtain⟨i,hi,he⟩:=mem_get hx;exact(g.de i x he).2.1
 have hr:∀n∈usedN H,Reach H.Links (nodeG sh 0) n:=fun n hn=>by
  obtain⟨j,j0,j1,rfl⟩:=hu n hn
  have:=r0 j.toNat (by omega)
  rwa [Int.toNat_of_nonneg j0]at this
 have hlen:0<(usedN H).length:=by have:=g.nc;simp[usedN];omega
 obtain⟨s0,hs0⟩:=get_lt (l:=usedN H) (k:=0) hlen
 refine decP_t fun n hn=>?_
 rw[head_used hs0];exact reach_trans (reach_symm (hr s0 (List.mem_of_getElem? hs0))) (hr n hn)
end
set_option maxHeartbeats 16000000
theorem find_any(l:List CoreT)(id:Int):(findC l id).2=l.any fun x=>decide (x.ID=id):=by
 rcases coreIx_cases l id with⟨-,h2,h3⟩|⟨k,x,-,h2,h3,h4⟩
 ·rw[h2];symm
  rw[List.any_eq_false];intro x hx;simpa using h3 x hx
 ·rw[h4];symm
  exact List.any_eq_true.2 ⟨x,List.mem_of_getElem? h2,by simpa using h3⟩
theorem coreAt_lt{l:List CoreT}{id:Int}:decide (coreAt l id<0) = !(findC l id).2:=by rw[coreAt_neg,find_any]
theorem pg_NodeOf{Γ:Gho}{u:Value}{H:HwT}[hh:HwR Γ u H]{x:Int}(hx:(findC H.Cores x).2=true):PG Tryz.prog Γ 93 [u,.int .i64 x] (.int .i64 (coreN H x)):=⟨fun S w hw=>by
 have hh':=hh
 obtain⟨a1,n1,c1,a2,n2,c2,a3,n3,c3,a4,n4,c4,a5,n5,c5,cs,rfl,hcs,hok,hsz,r1,r2,r3,r4,r5⟩:=hh.h;obtain⟨hn1,hm1,hx1⟩:=rep_facts r1
 simp only[List.length_map]at hn1
 obtain⟨k,y,hk,hy,hyid,hf⟩:∃(k:Nat) (y:CoreT),coreAt H.Cores x=k∧H.Cores[k]? = some y∧y.ID=x∧findC H.Cores x=(y,true):=by
  rcases coreIx_cases H.Cores x with⟨-,h2,-⟩|h
  ·rw[h2]at hx;cases hx
  ·exact h
 have hkl:=(List.getElem?_eq_some_iff.1 hy).1
 have hcn:coreN H x=y.Node:=by unfold coreN;rw[hf]
 rw[hcn];haveI pc:PG Tryz.prog Γ 68 [.agg #[.string H.Name,.slice a1 n1 c1,.slice a2 n2 c2,.slice a3 n3 c3,.slice a4 n4 c4,.slice a5 n5 c5],.int .i64 x] (.int .i64 (k:Nat)):=by
  have:=pg_CoreAt (hh:=hh') (id:=x)
  rwa [hk]at this
 refine calls_of_W Tryz.func93 rfl rfl ?_
 refine byG ?_;refine lBox ?_;intro b2 w hw;have hw:Wd Γ (.blk b2 (hwC H a1 n1 c1 a2 n2 c2 a3 n3 c3 a4 n4 c4 a5 n5 c5)::S) w:=hw
 refine byG ?_;refine W_quiet (by kernel_rfl) (by kernel_rfl) hw ?_
 refine byQ ?_;intro w hw;refine byG ?_;exact⟨_,rfl,rfl,hw.drop⟩⟩
theorem intRows_app(a b:List Int):intRows (a++b)=intRows a++intRows b:=by unfold intRows;rw[List.map_append]
set_option maxHeartbeats 4000000
theorem memI_iff{x:Int}{l:List Int}:memI x l=true↔x∈l:=by
 unfold memI;rw[List.any_eq_true];exact⟨fun⟨y,hy,he⟩=>by rw[of_decide_eq_true he];exact hy,fun h=>⟨x,h,decide_eq_true rfl⟩⟩
theorem shared_all{a b:List Int}(h:∀x∈a,x∈b):sharedN a b=a.length:=by
 unfold sharedN;rw[List.filter_eq_self.2 fun x hx=>memI_iff.2 (h x hx)]
theorem shared_none{a b:List Int}(h:∀x∈a,x∉b):sharedN a b=0:=by
 unfold sharedN;rw[List.filter_eq_nil_iff.2 fun x hx=>by rw[memI_iff];exact h x hx];rfl
theorem sortedP.part{l:List Int}(h:sortedP l)(a b:Nat):sortedP ((l.drop a).take b):=fun i x y hx hy=>by
 rw[List.getElem?_take]at hx hy
 split at hx
 ·split at hy
  ·rw[List.getElem?_drop]at hx hy
   exact h (a+i) x y hx (by rw[show a+i+1=a+(i+1) by omega];exact hy)
  ·cases hy
 ·cases hx
theorem part_at{l:List Int}{t m:Nat}(hm:m≤2){x:Int}(h:x∈(l.drop (2*t)).take m):∃j,j / 2=t∧l[j]? = some x:=by
 obtain⟨i,hi,he⟩:=mem_get h
 rw[List.getElem?_take]at he;split at he
 ·rw[List.getElem?_drop]at he;exact⟨2*t+i,by omega,he⟩
 ·cases he
section
variable {H:HwT}{nodes sh first irq:Int}
theorem cacheK_pair{ids:List Int}(hn:ids.Nodup){c d:CacheT}{p q:Nat×Nat}(h:CacheK ids c p)(k:CacheK ids d q)(hne:p≠q)(hl:¬d.Level<c.Level):sharedN c.Cores d.Cores=0∨(c.Level≠d.Level∧sharedN c.Cores d.Cores=c.Cores.length):=by
 have apart:∀ {t s m n:Nat},t≠s→m≤2→n≤2→sharedN ((ids.drop (2*t)).take m) ((ids.drop (2*s)).take n)=0:=fun hts hm hn2=>shared_none fun x hx hx2=>by
  obtain⟨i,hi,hi2⟩:=part_at hm hx
  obtain⟨j,hj,hj2⟩:=part_at hn2 hx2
  have:=nodup_get hn hi2 hj2
  omega
 cases h with
 | all=>cases k with
  | all=>exact absurd rfl hne
  | pair=>exact absurd (by dsimp only;omega) hl
  | own=>exact absurd (by dsimp only;omega) hl
 | pair h1 h2=>cases k with
  | all=>exact .inr ⟨by dsimp only;omega,shared_all fun x hx=>List.mem_of_mem_drop (List.mem_of_mem_take hx)⟩
  | pair h3 h4=>exact .inl (apart (fun e=>hne (by rw[e])) (by omega) (by omega))
  | own=>exact absurd (by dsimp only;omega) hl
 | own h1 h2=>cases k with
  | all=>exact .inr ⟨by dsimp only;omega,shared_all fun x hx=>List.mem_of_mem_drop (List.mem_of_mem_take hx)⟩
  | @pair s h3 h4=>
   rename_i t
   by_cases e:t=s
   ·subst e;refine .inr ⟨by dsimp only;omega,shared_all fun x hx=>?_⟩
    exact(List.take_sublist_take_left (by omega)).subset hx
   ·exact .inl (apart e (by omega) (by omega))
  | own h3 h4=>exact .inl (apart (fun e=>hne (by rw[e])) (by omega) (by omega))
theorem cacheK_sorted{ids:List Int}(hs:sortedP ids){c:CacheT}{p:Nat×Nat}(h:CacheK ids c p):sortedP c.Cores:=by
 cases h with
 | all=>exact hs
 | pair=>exact hs.part _ _
 | own=>exact hs.part _ _
theorem gen_hier(g:Gen H nodes sh first irq):hierB H=true:=by
 obtain⟨k,T,hT,hk,hc⟩:=g.ca;have hids:(bsort ltI (H.Cores.map (·.ID))).Nodup:=(bsort_perm _).nodup_iff.2 (ids_nodup g)
 refine decP_t ⟨fun c hcm=>?_,fun i j a b ha hb=>?_⟩
 ·rw[hc]at hcm;obtain⟨p,hp,rfl⟩:=List.mem_map.1 hcm
  exact cacheK_sorted sortI (cacheK hT hk hp)
 ·rw[hc]at ha hb
  obtain⟨p,hp,rfl⟩:=map_get ha
  obtain⟨q,hq,rfl⟩:=map_get hb
  unfold pairB;by_cases e:i=j
  ·simp[e]
  ·have hne:p≠q:=fun h=>e (by subst h;exact nodup_get hT.1 hp hq)
   by_cases hl:(cacheG (bsort ltI (H.Cores.map (·.ID))) q).Level<(cacheG (bsort ltI (H.Cores.map (·.ID))) p).Level
   ·simp[hl]
   ·rcases cacheK_pair hids (cacheK hT hk (List.mem_of_getElem? hp)) (cacheK hT hk (List.mem_of_getElem? hq)) hne hl with h|⟨h1,h2⟩
    ·rw[h];simp
    ·rw[h2];simp[h1]
theorem gen_valid(g:Gen H nodes sh first irq):validS H=0:=by
 simp[validS,gen_names g,gen_counts g,gen_cores g,gen_regions g,gen_align g,gen_unique g,gen_known g,gen_hier g,gen_disj g,gen_conn g]
theorem name_small{s:ByteArray}(h:nameS s=true):s.size≤maxS:=by
 unfold nameS at h;simp only[Bool.and_eq_true,decide_eq_true_eq]at h
 unfold maxS;omega
theorem names_sz{H:HwT}(h:namesB H=true):HwSz H:=by
 unfold namesB headB at h;simp only[Bool.and_eq_true,List.all_eq_true,decide_eq_true_eq]at h
 obtain⟨⟨⟨⟨⟨-,h0⟩,-⟩,h1⟩,h2⟩,h3⟩:=h;exact⟨by unfold maxS;omega,fun c hc=>name_small (h1 c hc),fun c hc=>name_small (h2 c hc),fun c hc=>name_small (h3 c hc)⟩
theorem gen_sz(g:Gen H nodes sh first irq):HwSz H:=names_sz (gen_names g)
end
end Go.Proofs.YthgighljhoneeaaGreat
end
section
open Go Mk
namespace Go.Proofs.YthgighljhoneeaaGreat
theorem lats_ok{ls:List LinkT}(h:LinksOk ls):∀l∈ls,0≤l.Latency∧l.Latency≤1000000:=fun l hl=>by
 have:=h.2 l hl;omega
theorem valid_keys{H:HwT}(h:validS H=0):(H.Links.map linkKey).Nodup:=by
 obtain⟨-,-,-,-,h5,-⟩:=valid_all h
 unfold uniqueB at h5;simp only[Bool.and_eq_true,decide_eq_true_eq]at h5
 exact h5.2.2
end Go.Proofs.YthgighljhoneeaaGreat
end
