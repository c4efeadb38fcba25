/- Texts of this proof, one behind another. -/
import Derived.Test.YtlmiakjbogojgaaGreatDoorM3
import Derived.Test.YtlmiakjbogojgaaGreatDoorM2
import Derived.Shelf.SlLaysF0
set_option linter.unusedVariables false
set_option linter.unusedSimpArgs false
section
open Go Mk
namespace Go.Proofs.YtlmiakjbogojgaaGreatDoor
set_option maxHeartbeats 8000000
attribute [local irreducible] Calls
abbrev S5(l:List (Int×Int)):List (List Value):=l.map fun p=>[.int .u64 p.1,.int .u64 p.2]
def P6(m:I3):Int×Int:=(m.Base,IntKind.u64.wrap (m.Base+m.Size))
def f9(m:AA):Int×Int:=(m.Base,IntKind.u64.wrap (m.Base+m.Size))
def Ff(H:J6):List (Int×Int):=H.Mems.map P6++H.Devs.map f9
def q9(x y:Int×Int):Bool:=!(decide (x.1<y.2)&&decide (y.1<x.2))
def dN(H:J6):Prop:=∀(i k:Nat) (a b:Int×Int),k<i→(Ff H)[i]? = some a→(Ff H)[k]? = some b→q9 a b=true
noncomputable def KA(H:J6):Bool:=RY (dN H)
theorem Jt{α:Type}{f:α→Int×Int}{l:List α}{L:List (Int×Int)}{k:Nat}{x:α}(hx:l[k]? = some x):S5 (L++(l.take k).map f)++[[.int .u64 (f x).1,.int .u64 (f x).2]]=S5 (L++(l.take (k+1)).map f):=by rw[D4 hx];simp[S5]
theorem t8{α:Type}{f:α→Int}{l:List α}{L:List Int}{k:Nat}{x:α}(hx:l[k]? = some x):A8 (L++(l.take k).map f)++[[.int .i64 (f x)]]=A8 (L++(l.take (k+1)).map f):=by rw[D4 hx];simp[A8]
theorem Mp{Γ:C8}{S:List B6}{w:World}{u:Value}{H:J6}[hh:FG Γ u H](hcnt:S6 H=true)(hw:Wd Γ S w):Calls Tryz.prog 130 #[u] w fun e w'=>e=.returned (.bool (KA H))∧Wd Γ S w':=by
 obtain⟨-,l1,l2,l3,l4,l5⟩:=w5 hcnt
 obtain⟨a1,n1,c1,a2,n2,c2,a3,n3,c3,a4,n4,c4,a5,n5,c5,cs,rfl,hcs,hok,hsz,r1,r2,r3,r4,r5⟩:=hh.h;obtain⟨hn1,hm1,hx1⟩:=C0 r1
 obtain⟨hn2,hm2,hx2⟩:=C0 r2
 obtain⟨hn3,hm3,hx3⟩:=C0 r3
 obtain⟨hn4,hm4,hx4⟩:=C0 r4
 obtain⟨hn5,hm5,hx5⟩:=C0 r5
 simp only[List.length_map]at hn1 hn2 hn3 hn4 hn5
 refine A7 Tryz.func130 rfl rfl ?_
 refine A6 ?_;refine H2 ?_;intro b1 w hw;have hw:Wd Γ (.blk b1 (.cells #[.string H.Name,.slice a1 n1 c1,.slice a2 n2 c2,.slice a3 n3 c3,.slice a4 n4 c4,.slice a5 n5 c5] 44)::S) w:=hw
 obtain⟨q,m,d,hq⟩:∃(q:Option Addr) (m d:Nat),(.slice none 0 0:Value)=.slice q m d:=⟨_,_,_,rfl⟩
 have hw:Wd Γ (.own (.slice none 0 0) 249 2 (S5 [])::.blk b1 (.cells #[.string H.Name,.slice a1 n1 c1,.slice a2 n2 c2,.slice a3 n3 c3,.slice a4 n4 c4,.slice a5 n5 c5] 44)::S) w:=Wd.addNil hw
 refine A6 ?_;rw[hq] at *
 clear hq;rw[show ([]:List (Int×Int))=(([]:List (Int×Int))++(H.Mems.take 0).map P6) from by simp]at hw
 refine A6 ?_;refine B3 (fun μ ρ w=>∃(k:Nat) (q:Option Addr) (m d:Nat),μ+k=n4∧Has ρ [(1,.pointer (some ⟨b1,0,none⟩)),(3,.slice q m d),(11,.slice a4 n4 c4),(12,.int .i64 n4),(13,.int .i64 k)]∧Wd Γ (.own (.slice q m d) 249 2 (S5 (([]:List (Int×Int))++(H.Mems.take k).map P6))::.blk b1 (.cells #[.string H.Name,.slice a1 n1 c1,.slice a2 n2 c2,.slice a3 n3 c3,.slice a4 n4 c4,.slice a5 n5 c5] 44)::S) w) n4 ⟨0,q,m,d,by omega,⟨rfl,rfl,rfl,rfl,rfl,trivial⟩,hw⟩ ?_
 clear hw;rintro μ ρ w ⟨k,q,m,d,hk,hρ,hw⟩
 have hm:=Q8 (i:=0) hw rfl
 simp only[S5,List.length_map,List.length_append,List.length_nil,List.length_take]at hm
 rw[hρ.eq];refine A6 ?_;refine A0 rfl (fun h=>?_) (fun h=>?_)
 ·have hkn:k<n4:=by simpa using h
  obtain⟨x,hx⟩:=B2 (l:=H.Mems) (k:=k) (by omega)
  refine A6 ?_;refine B9 ?_;intro b9 w hw;refine B0 ?_;intro w hw;have hw:Wd Γ (.blk b9 (.cells (enc x).toArray 58)::.own (.slice q m d) 249 2 (S5 (([]:List (Int×Int))++(H.Mems.take k).map P6))::.blk b1 (.cells #[.string H.Name,.slice a1 n1 c1,.slice a2 n2 c2,.slice a3 n3 c3,.slice a4 n4 c4,.slice a5 n5 c5] 44)::S) w:=hw
  refine A6 ?_;refine B5 [[.int .u64 (P6 x).1,.int .u64 (P6 x).2]] ?_
  intro ab w hw;refine T3 (i:=2) (rows2:=[[.int .u64 (P6 x).1,.int .u64 (P6 x).2]]) ?_ (Wd.own_rd (i:=0) hw rfl)
  intro v' w hw;obtain⟨q',m',d',rfl,-,-,-⟩:=hw.own_shape (i:=2) rfl
  have hw:Wd Γ (.own (.slice q' m' d') 249 2 (S5 (([]:List (Int×Int))++(H.Mems.take (k+1)).map P6))::.blk b1 (.cells #[.string H.Name,.slice a1 n1 c1,.slice a2 n2 c2,.slice a3 n3 c3,.slice a4 n4 c4,.slice a5 n5 c5] 44)::S) w:=by
   rw[←Jt hx];exact hw.drop.drop
  refine A6 ?_;exact⟨μ-1,by omega,k+1,_,_,_,by omega,⟨rfl,rfl,rfl,rfl,rfl,trivial⟩,hw⟩
 have hkn:¬k<n4:=by simpa using h
 rw[List.take_of_length_le (l:=H.Mems) (by omega)]at hw
 clear h hkn hρ hk hm;rw[List.nil_append]at hw;rw[show H.Mems.map P6=(H.Mems.map P6++(H.Devs.take 0).map f9) from by simp]at hw
 refine A6 ?_;refine B3 (fun μ ρ w=>∃(k:Nat) (q:Option Addr) (m d:Nat),μ+k=n5∧Has ρ [(1,.pointer (some ⟨b1,0,none⟩)),(3,.slice q m d),(30,.slice a5 n5 c5),(31,.int .i64 n5),(32,.int .i64 k)]∧Wd Γ (.own (.slice q m d) 249 2 (S5 (H.Mems.map P6++(H.Devs.take k).map f9))::.blk b1 (.cells #[.string H.Name,.slice a1 n1 c1,.slice a2 n2 c2,.slice a3 n3 c3,.slice a4 n4 c4,.slice a5 n5 c5] 44)::S) w) n5 ⟨0,q,m,d,by omega,⟨rfl,rfl,rfl,rfl,rfl,trivial⟩,hw⟩ ?_
 clear hw;rintro μ ρ w ⟨k,q,m,d,hk,hρ,hw⟩
 have hm:=Q8 (i:=0) hw rfl
 simp only[S5,List.length_map,List.length_append,List.length_nil,List.length_take]at hm
 rw[hρ.eq];refine A6 ?_;refine A0 rfl (fun h=>?_) (fun h=>?_)
 ·have hkn:k<n5:=by simpa using h
  obtain⟨x,hx⟩:=B2 (l:=H.Devs) (k:=k) (by omega)
  refine A6 ?_;refine B9 ?_;intro b9 w hw;refine B0 ?_;intro w hw;have hw:Wd Γ (.blk b9 (.cells (enc x).toArray 131)::.own (.slice q m d) 249 2 (S5 (H.Mems.map P6++(H.Devs.take k).map f9))::.blk b1 (.cells #[.string H.Name,.slice a1 n1 c1,.slice a2 n2 c2,.slice a3 n3 c3,.slice a4 n4 c4,.slice a5 n5 c5] 44)::S) w:=hw
  refine A6 ?_;refine B5 [[.int .u64 (f9 x).1,.int .u64 (f9 x).2]] ?_
  intro ab w hw;refine T3 (i:=2) (rows2:=[[.int .u64 (f9 x).1,.int .u64 (f9 x).2]]) ?_ (Wd.own_rd (i:=0) hw rfl)
  intro v' w hw;obtain⟨q',m',d',rfl,-,-,-⟩:=hw.own_shape (i:=2) rfl
  have hw:Wd Γ (.own (.slice q' m' d') 249 2 (S5 (H.Mems.map P6++(H.Devs.take (k+1)).map f9))::.blk b1 (.cells #[.string H.Name,.slice a1 n1 c1,.slice a2 n2 c2,.slice a3 n3 c3,.slice a4 n4 c4,.slice a5 n5 c5] 44)::S) w:=by
   rw[←Jt hx];exact hw.drop.drop
  refine A6 ?_;exact⟨μ-1,by omega,k+1,_,_,_,by omega,⟨rfl,rfl,rfl,rfl,rfl,trivial⟩,hw⟩
 have hkn:¬k<n5:=by simpa using h
 rw[List.take_of_length_le (l:=H.Devs) (by omega)]at hw
 clear h hkn hρ hk hm;have hw:Wd Γ (.own (.slice q m d) 249 2 (S5 (Ff H))::.blk b1 (.cells #[.string H.Name,.slice a1 n1 c1,.slice a2 n2 c2,.slice a3 n3 c3,.slice a4 n4 c4,.slice a5 n5 c5] 44)::S) w:=hw
 have hm:=Q8 (i:=0) hw rfl
 simp only[S5,List.length_map]at hm
 have hmb:m≤96:=by rw[hm];simp[Ff];omega
 refine A6 ?_;refine B3 (fun μ ρ w=>∃(i:Nat),μ+i=m∧Has ρ [(3,.slice q m d),(49,.int .i64 m),(50,.int .i64 i)]∧(∀(i' k:Nat) (a b:Int×Int),i'<i→k<i'→(Ff H)[i']? = some a→(Ff H)[k]? = some b→q9 a b=true)∧Wd Γ (.own (.slice q m d) 249 2 (S5 (Ff H))::.blk b1 (.cells #[.string H.Name,.slice a1 n1 c1,.slice a2 n2 c2,.slice a3 n3 c3,.slice a4 n4 c4,.slice a5 n5 c5] 44)::S) w) m ⟨0,by omega,⟨rfl,rfl,rfl,trivial⟩,fun i' k a b h=>by omega,hw⟩ ?_
 clear hw;rintro μ ρ w ⟨i,hi,hρ,hall,hw⟩
 rw[hρ.eq];refine A6 ?_;refine A0 rfl (fun h=>?_) (fun h=>?_)
 ·have hin:i<m:=by simpa using h
  obtain⟨x,hx⟩:=B2 (l:=Ff H) (k:=i) (by omega)
  refine A6 ?_;refine B3 (fun μ2 ρ w=>∃(k:Nat),μ2+k=i∧Has ρ [(3,.slice q m d),(8,.int .i64 i),(9,.int .i64 k),(49,.int .i64 m),(50,.int .i64 i)]∧(∀(j:Nat) (b:Int×Int),j<k→(Ff H)[j]? = some b→q9 x b=true)∧Wd Γ (.own (.slice q m d) 249 2 (S5 (Ff H))::.blk b1 (.cells #[.string H.Name,.slice a1 n1 c1,.slice a2 n2 c2,.slice a3 n3 c3,.slice a4 n4 c4,.slice a5 n5 c5] 44)::S) w) i ⟨0,by omega,⟨rfl,rfl,rfl,rfl,rfl,trivial⟩,fun j b h=>by omega,hw⟩ ?_
  clear hw;rintro μ2 ρ w ⟨k,hk,hρ,hall2,hw⟩
  rw[hρ.eq];refine A6 ?_;refine A0 rfl (fun h2=>?_) (fun h2=>?_)
  ·have hki:k<i:=by simpa using h2
   obtain⟨y,hy⟩:=B2 (l:=Ff H) (k:=k) (by omega)
   refine A6 ?_;refine G9 (by kernel_rfl) (by kernel_rfl) hw ?_
   refine X3 ?_;intro w hw;refine A0 rfl (fun h3=>?_) (fun h3=>?_)
   ·have hp:q9 x y=false:=by unfold q9;exact congrArg (fun b=>!b) h3
    refine A6 ?_;refine⟨_,rfl,F2 rfl ?_,hw.drop.drop⟩
    refine(Fb fun hP=>?_).symm
    rw[hP i k x y hki hx hy]at hp;cases hp
   ·have hp:q9 x y=true:=by unfold q9;exact congrArg (fun b=>!b) h3
    refine A6 ?_;exact⟨μ2-1,by omega,k+1,by omega,⟨rfl,rfl,rfl,rfl,rfl,trivial⟩,O9 hall2 hy hp,hw⟩
  ·have hki:¬k<i:=by simpa using h2
   refine A6 ?_;refine⟨μ-1,by omega,i+1,by omega,⟨rfl,rfl,rfl,trivial⟩,fun i' j a b h1 h3 ha hb=>?_,hw⟩
   by_cases e:i'=i
   ·subst e;rw[hx]at ha;cases ha
    exact hall2 j b (by omega) hb
   ·exact hall i' j a b (by omega) h3 ha hb
 ·have hin:¬i<m:=by simpa using h
  refine A6 ?_;refine⟨_,rfl,F2 rfl ?_,hw.drop.drop⟩
  exact(Aw fun p q a b hpq ha hb=>hall p q a b (by have:=(List.getElem?_eq_some_iff.1 ha).1;omega) hpq ha hb).symm
inductive Reach (ls:List E9) (s:Int):Int→Prop
 | refl:Reach ls s s
 | ab {l:E9}:l∈ls→Reach ls s l.A→Reach ls s l.B
 | ba {l:E9}:l∈ls→Reach ls s l.B→Reach ls s l.A
def F9(H:J6):List Int:=(H.Cores.map (fun c=>c.Node)++H.Mems.map (fun c=>c.Node))++H.Devs.map (fun c=>c.Node)
def Po(H:J6):Prop:=∀n∈F9 H,Reach H.Links ((F9 H).headD 0) n
noncomputable def GR(H:J6):Bool:=RY (Po H)
theorem HS{H:J6}{s0:Int}(h:(F9 H)[0]? = some s0):(F9 H).headD 0=s0:=by
 cases hu:F9 H with
 | nil=>rw[hu]at h;cases h
 | cons a l=>rw[hu]at h;simpa using h
theorem Nt{H:J6}(h1:K3 H=true)(h2:H4 H=true):(∀n∈F9 H,0≤n∧n<64)∧∀l∈H.Links,0≤l.A∧l.A<64∧0≤l.B∧l.B<64:=by
 unfold K3 at h1;unfold H4 at h2;simp only[Bool.and_eq_true,List.all_eq_true]at h1 h2
 obtain⟨hc,-,hl⟩:=h1;obtain⟨hm,hd⟩:=h2;refine⟨fun n hn=>?_,fun l hl'=>?_⟩
 ·unfold F9 at hn;simp only[List.mem_append,List.mem_map]at hn
  rcases hn with (⟨c,hcm,rfl⟩|⟨c,hcm,rfl⟩)|⟨c,hcm,rfl⟩
  ·have:=hc c hcm;simp[BB,J3]at this;omega
  ·have:=hm c hcm;simp[CR,J3]at this;omega
  ·have:=hd c hcm;simp[FA,J3]at this;omega
 ·have:=hl l hl';simp[w3,J3]at this;omega
structure II(ls:List E9)(s:Int)(R:List Bool):Prop where
 len:R.length=64
 ok:∀(j:Nat),R[j]? = some true→∃n:Int,n.toNat=j∧0≤n∧Reach ls s n
theorem Na{ls:List E9}{s:Int}(h:0≤s∧s<64):II ls s ((List.replicate 64 false).set s.toNat true):=⟨by simp,fun j hj=>by
 rw[List.getElem?_set]at hj;split at hj
 ·rename_i e;exact⟨s,e,h.1,.refl⟩
 ·rw[List.getElem?_replicate]at hj;split at hj <;> simp at hj⟩
theorem II.set{ls:List E9}{s n:Int}{R:List Bool}(h:II ls s R)(hn:0≤n)(hr:Reach ls s n):II ls s (R.set n.toNat true):=⟨by simp[h.len],fun j hj=>by
 rw[List.getElem?_set]at hj;split at hj
 ·rename_i e;exact⟨n,e,hn,hr⟩
 ·exact h.ok j hj⟩
theorem Uq{ls:List E9}{s n:Int}{R:List Bool}(h:II ls s R)(h0:R[s.toNat]? = some true)(hs:0≤s)(hL:∀l∈ls,0≤l.A∧l.A<64∧0≤l.B∧l.B<64)(hcl:∀l∈ls,R.getD l.A.toNat false=R.getD l.B.toNat false)(hn:0≤n∧n<64):R.getD n.toNat false=true↔Reach ls s n:=by
 constructor
 ·intro hg;rw[List.getD_eq_getElem?_getD]at hg;obtain⟨b,hb⟩:=B2 (l:=R) (k:=n.toNat) (by rw[h.len];omega)
  rw[hb]at hg;have hg:b=true:=hg
  subst hg;obtain⟨x,hx,hx0,hr⟩:=h.ok _ hb
  have:x=n:=by omega
  subst this;exact hr
 ·intro hr;clear hn;induction hr with
  | refl=>rw[List.getD_eq_getElem?_getD,h0];rfl
  | ab hl _ ih=>rw[←hcl _ hl];exact ih
  | ba hl _ ih=>rw[hcl _ hl];exact ih
theorem set_self{R:List Bool}{k:Nat}{b:Bool}(h:k<R.length):(R.set k b)[k]? = some b:=by rw[List.getElem?_set_self h]
theorem NF{R:List Bool}{k:Nat}{b:Bool}(h:R[k]? = some b):((R.map Value.bool).toArray)[0+k*1]? = some (.bool b):=by simp[h]
theorem Ik{R:List Bool}{k:Nat}{b:Bool}(h:k<R.length):putCells (R.map Value.bool).toArray (0+k*1) [.bool b]=((R.set k b).map Value.bool).toArray:=by
 unfold putCells;rw[Nat.zero_add,Nat.mul_one,List.set_eq_take_append_cons_drop,if_pos h];simp
theorem UD{P:Program}{d:Option Tmp}{T U ty:TypeId}{pos:String}{es:Array Edge}{g:Option (Nat×Bool)}{x y:Operand}{ρ:Fr}{w:World}{a b:Bool}(hT:P.underlying T=some .bool)(hx:ev ρ x=.bool a)(hy:ev ρ y=.bool b):Mk.Yields P ⟨d,.binOp .neq T x y U,ty,pos,es,g⟩ ρ w (.bool (a != b)):=by
 unfold Mk.Yields;simp[execOp,go_sem,hx,hy,hT];cases a <;> cases b <;> rfl
theorem Gb{R:List Bool}{k:Nat}:(R.set k true).count false≤R.count false:=by
 induction R generalizing k with
 | nil=>simp
 | cons b l ih=>
  cases k with
  | zero=>cases b <;> simp
  | succ k=>simp only[List.set_cons_succ,List.count_cons];have:=ih (k:=k);omega
theorem Fy{R:List Bool}{k:Nat}(h:R[k]? = some false):(R.set k true).count false+1≤R.count false:=by
 induction R generalizing k with
 | nil=>simp at h
 | cons b l ih=>
  cases k with
  | zero=>simp at h;subst h;simp
  | succ k=>simp at h;simp only[List.set_cons_succ,List.count_cons];have:=ih (k:=k) (by simpa using h);omega
theorem Kb{Γ:C8}{S:List B6}{w:World}{u:Value}{H:J6}[hh:FG Γ u H](hcnt:S6 H=true)(hcr:K3 H=true)(hrr:H4 H=true)(hw:Wd Γ S w):Calls Tryz.prog 131 #[u] w fun e w'=>e=.returned (.bool (GR H))∧Wd Γ S w':=by
 obtain⟨l0,l1,l2,l3,l4,l5⟩:=w5 hcnt
 obtain⟨hNd,hLk⟩:=Nt hcr hrr
 obtain⟨a1,n1,c1,a2,n2,c2,a3,n3,c3,a4,n4,c4,a5,n5,c5,cs,rfl,hcs,hok,hsz,r1,r2,r3,r4,r5⟩:=hh.h;obtain⟨hn1,hm1,hx1⟩:=C0 r1
 obtain⟨hn2,hm2,hx2⟩:=C0 r2
 obtain⟨hn3,hm3,hx3⟩:=C0 r3
 obtain⟨hn4,hm4,hx4⟩:=C0 r4
 obtain⟨hn5,hm5,hx5⟩:=C0 r5
 simp only[List.length_map]at hn1 hn2 hn3 hn4 hn5
 refine A7 Tryz.func131 rfl rfl ?_
 refine A6 ?_;refine H2 ?_;intro b1 w hw;have hw:Wd Γ (.blk b1 (.cells #[.string H.Name,.slice a1 n1 c1,.slice a2 n2 c2,.slice a3 n3 c3,.slice a4 n4 c4,.slice a5 n5 c5] 44)::S) w:=hw
 obtain⟨q,m,d,hq⟩:∃(q:Option Addr) (m d:Nat),(.slice none 0 0:Value)=.slice q m d:=⟨_,_,_,rfl⟩
 have hw:Wd Γ (.own (.slice none 0 0) 3 1 (A8 [])::.blk b1 (.cells #[.string H.Name,.slice a1 n1 c1,.slice a2 n2 c2,.slice a3 n3 c3,.slice a4 n4 c4,.slice a5 n5 c5] 44)::S) w:=Wd.addNil hw
 refine A6 ?_;rw[hq] at *
 clear hq;rw[show ([]:List Int)=(([]:List Int)++(H.Cores.take 0).map (fun c=>c.Node)) from by simp]at hw
 refine A6 ?_;refine B3 (fun μ ρ w=>∃(k:Nat) (q:Option Addr) (m d:Nat),μ+k=n1∧Has ρ [(1,.pointer (some ⟨b1,0,none⟩)),(3,.slice q m d),(17,.slice a1 n1 c1),(18,.int .i64 n1),(19,.int .i64 k)]∧Wd Γ (.own (.slice q m d) 3 1 (A8 (([]:List Int)++(H.Cores.take k).map (fun c=>c.Node)))::.blk b1 (.cells #[.string H.Name,.slice a1 n1 c1,.slice a2 n2 c2,.slice a3 n3 c3,.slice a4 n4 c4,.slice a5 n5 c5] 44)::S) w) n1 ⟨0,q,m,d,by omega,⟨rfl,rfl,rfl,rfl,rfl,trivial⟩,hw⟩ ?_
 clear hw;rintro μ ρ w ⟨k,q,m,d,hk,hρ,hw⟩
 have hm:=Q8 (i:=0) hw rfl
 simp only[A8,List.length_map,List.length_append,List.length_nil,List.length_take]at hm
 rw[hρ.eq];refine A6 ?_;refine A0 rfl (fun h=>?_) (fun h=>?_)
 ·have hkn:k<n1:=by simpa using h
  obtain⟨x,hx⟩:=B2 (l:=H.Cores) (k:=k) (by omega)
  refine A6 ?_;refine B9 ?_;intro b9 w hw;refine B0 ?_;intro w hw;have hw:Wd Γ (.blk b9 (.cells (enc x).toArray 47)::.own (.slice q m d) 3 1 (A8 (([]:List Int)++(H.Cores.take k).map (fun c=>c.Node)))::.blk b1 (.cells #[.string H.Name,.slice a1 n1 c1,.slice a2 n2 c2,.slice a3 n3 c3,.slice a4 n4 c4,.slice a5 n5 c5] 44)::S) w:=hw
  refine A6 ?_;refine B5 [[.int .i64 x.Node]] ?_
  intro ab w hw;refine T3 (i:=2) (rows2:=[[.int .i64 x.Node]]) ?_ (Wd.own_rd (i:=0) hw rfl)
  intro v' w hw;obtain⟨q',m',d',rfl,-,-,-⟩:=hw.own_shape (i:=2) rfl
  have hw:Wd Γ (.own (.slice q' m' d') 3 1 (A8 (([]:List Int)++(H.Cores.take (k+1)).map (fun c=>c.Node)))::.blk b1 (.cells #[.string H.Name,.slice a1 n1 c1,.slice a2 n2 c2,.slice a3 n3 c3,.slice a4 n4 c4,.slice a5 n5 c5] 44)::S) w:=by
   rw[←t8 (f:=fun c:F0=>c.Node) hx];exact hw.drop.drop
  refine A6 ?_;exact⟨μ-1,by omega,k+1,_,_,_,by omega,⟨rfl,rfl,rfl,rfl,rfl,trivial⟩,hw⟩
 have hkn:¬k<n1:=by simpa using h
 rw[List.take_of_length_le (l:=H.Cores) (by omega)]at hw
 clear h hkn hρ hk hm;rw[List.nil_append]at hw;rw[show H.Cores.map (fun c=>c.Node)=(H.Cores.map (fun c=>c.Node)++(H.Mems.take 0).map (fun c=>c.Node)) from by simp]at hw
 refine A6 ?_;refine B3 (fun μ ρ w=>∃(k:Nat) (q:Option Addr) (m d:Nat),μ+k=n4∧Has ρ [(1,.pointer (some ⟨b1,0,none⟩)),(3,.slice q m d),(30,.slice a4 n4 c4),(31,.int .i64 n4),(32,.int .i64 k)]∧Wd Γ (.own (.slice q m d) 3 1 (A8 (H.Cores.map (fun c=>c.Node)++(H.Mems.take k).map (fun c=>c.Node)))::.blk b1 (.cells #[.string H.Name,.slice a1 n1 c1,.slice a2 n2 c2,.slice a3 n3 c3,.slice a4 n4 c4,.slice a5 n5 c5] 44)::S) w) n4 ⟨0,q,m,d,by omega,⟨rfl,rfl,rfl,rfl,rfl,trivial⟩,hw⟩ ?_
 clear hw;rintro μ ρ w ⟨k,q,m,d,hk,hρ,hw⟩
 have hm:=Q8 (i:=0) hw rfl
 simp only[A8,List.length_map,List.length_append,List.length_nil,List.length_take]at hm
 rw[hρ.eq];refine A6 ?_;refine A0 rfl (fun h=>?_) (fun h=>?_)
 ·have hkn:k<n4:=by simpa using h
  obtain⟨x,hx⟩:=B2 (l:=H.Mems) (k:=k) (by omega)
  refine A6 ?_;refine B9 ?_;intro b9 w hw;refine B0 ?_;intro w hw;have hw:Wd Γ (.blk b9 (.cells (enc x).toArray 58)::.own (.slice q m d) 3 1 (A8 (H.Cores.map (fun c=>c.Node)++(H.Mems.take k).map (fun c=>c.Node)))::.blk b1 (.cells #[.string H.Name,.slice a1 n1 c1,.slice a2 n2 c2,.slice a3 n3 c3,.slice a4 n4 c4,.slice a5 n5 c5] 44)::S) w:=hw
  refine A6 ?_;refine B5 [[.int .i64 x.Node]] ?_
  intro ab w hw;refine T3 (i:=2) (rows2:=[[.int .i64 x.Node]]) ?_ (Wd.own_rd (i:=0) hw rfl)
  intro v' w hw;obtain⟨q',m',d',rfl,-,-,-⟩:=hw.own_shape (i:=2) rfl
  have hw:Wd Γ (.own (.slice q' m' d') 3 1 (A8 (H.Cores.map (fun c=>c.Node)++(H.Mems.take (k+1)).map (fun c=>c.Node)))::.blk b1 (.cells #[.string H.Name,.slice a1 n1 c1,.slice a2 n2 c2,.slice a3 n3 c3,.slice a4 n4 c4,.slice a5 n5 c5] 44)::S) w:=by
   rw[←t8 (f:=fun c:I3=>c.Node) hx];exact hw.drop.drop
  refine A6 ?_;exact⟨μ-1,by omega,k+1,_,_,_,by omega,⟨rfl,rfl,rfl,rfl,rfl,trivial⟩,hw⟩
 have hkn:¬k<n4:=by simpa using h
 rw[List.take_of_length_le (l:=H.Mems) (by omega)]at hw
 clear h hkn hρ hk hm;rw[show (H.Cores.map (fun c=>c.Node)++H.Mems.map (fun c=>c.Node))=((H.Cores.map (fun c=>c.Node)++H.Mems.map (fun c=>c.Node))++(H.Devs.take 0).map (fun c=>c.Node)) from by simp]at hw
 refine A6 ?_;refine B3 (fun μ ρ w=>∃(k:Nat) (q:Option Addr) (m d:Nat),μ+k=n5∧Has ρ [(1,.pointer (some ⟨b1,0,none⟩)),(3,.slice q m d),(43,.slice a5 n5 c5),(44,.int .i64 n5),(45,.int .i64 k)]∧Wd Γ (.own (.slice q m d) 3 1 (A8 ((H.Cores.map (fun c=>c.Node)++H.Mems.map (fun c=>c.Node))++(H.Devs.take k).map (fun c=>c.Node)))::.blk b1 (.cells #[.string H.Name,.slice a1 n1 c1,.slice a2 n2 c2,.slice a3 n3 c3,.slice a4 n4 c4,.slice a5 n5 c5] 44)::S) w) n5 ⟨0,q,m,d,by omega,⟨rfl,rfl,rfl,rfl,rfl,trivial⟩,hw⟩ ?_
 clear hw;rintro μ ρ w ⟨k,q,m,d,hk,hρ,hw⟩
 have hm:=Q8 (i:=0) hw rfl
 simp only[A8,List.length_map,List.length_append,List.length_nil,List.length_take]at hm
 rw[hρ.eq];refine A6 ?_;refine A0 rfl (fun h=>?_) (fun h=>?_)
 ·have hkn:k<n5:=by simpa using h
  obtain⟨x,hx⟩:=B2 (l:=H.Devs) (k:=k) (by omega)
  refine A6 ?_;refine B9 ?_;intro b9 w hw;refine B0 ?_;intro w hw;have hw:Wd Γ (.blk b9 (.cells (enc x).toArray 131)::.own (.slice q m d) 3 1 (A8 ((H.Cores.map (fun c=>c.Node)++H.Mems.map (fun c=>c.Node))++(H.Devs.take k).map (fun c=>c.Node)))::.blk b1 (.cells #[.string H.Name,.slice a1 n1 c1,.slice a2 n2 c2,.slice a3 n3 c3,.slice a4 n4 c4,.slice a5 n5 c5] 44)::S) w:=hw
  refine A6 ?_;refine B5 [[.int .i64 x.Node]] ?_
  intro ab w hw;refine T3 (i:=2) (rows2:=[[.int .i64 x.Node]]) ?_ (Wd.own_rd (i:=0) hw rfl)
  intro v' w hw;obtain⟨q',m',d',rfl,-,-,-⟩:=hw.own_shape (i:=2) rfl
  have hw:Wd Γ (.own (.slice q' m' d') 3 1 (A8 ((H.Cores.map (fun c=>c.Node)++H.Mems.map (fun c=>c.Node))++(H.Devs.take (k+1)).map (fun c=>c.Node)))::.blk b1 (.cells #[.string H.Name,.slice a1 n1 c1,.slice a2 n2 c2,.slice a3 n3 c3,.slice a4 n4 c4,.slice a5 n5 c5] 44)::S) w:=by
   rw[←t8 (f:=fun c:AA=>c.Node) hx];exact hw.drop.drop
  refine A6 ?_;exact⟨μ-1,by omega,k+1,_,_,_,by omega,⟨rfl,rfl,rfl,rfl,rfl,trivial⟩,hw⟩
 have hkn:¬k<n5:=by simpa using h
 rw[List.take_of_length_le (l:=H.Devs) (by omega)]at hw
 clear h hkn hρ hk hm;have hw:Wd Γ (.own (.slice q m d) 3 1 (A8 (F9 H))::.blk b1 (.cells #[.string H.Name,.slice a1 n1 c1,.slice a2 n2 c2,.slice a3 n3 c3,.slice a4 n4 c4,.slice a5 n5 c5] 44)::S) w:=hw
 have hm:=Q8 (i:=0) hw rfl
 simp only[A8,List.length_map]at hm
 have hmb:1≤m∧m≤128:=by rw[hm];simp[F9];omega
 obtain⟨s0,hs0⟩:=B2 (l:=F9 H) (k:=0) (by omega)
 obtain⟨hs1,hs2⟩:=hNd s0 (List.mem_of_getElem? hs0)
 refine A6 ?_;refine B9 ?_;intro b10 w hw;have hw:Wd Γ (.blk b10 (.cells ((List.replicate 64 false).map Value.bool).toArray 250)::.own (.slice q m d) 3 1 (A8 (F9 H))::.blk b1 (.cells #[.string H.Name,.slice a1 n1 c1,.slice a2 n2 c2,.slice a3 n3 c3,.slice a4 n4 c4,.slice a5 n5 c5] 44)::S) w:=hw
 refine A6 ?_;refine B0 (o:=0+s0.toNat*1) (ho:=by simp;omega) ?_
 intro w hw;have hw:Wd Γ (.blk b10 (.cells (putCells ((List.replicate 64 false).map Value.bool).toArray (0+s0.toNat*1) [.bool true]) 250)::.own (.slice q m d) 3 1 (A8 (F9 H))::.blk b1 (.cells #[.string H.Name,.slice a1 n1 c1,.slice a2 n2 c2,.slice a3 n3 c3,.slice a4 n4 c4,.slice a5 n5 c5] 44)::S) w:=hw
 rw[Ik (by simp;omega)]at hw
 refine A6 ?_;have hst:II H.Links s0 ((List.replicate 64 false).set s0.toNat true):=Na (by omega)
 refine B3 (fun μ ρ w=>∃(R:List Bool) (ch:Bool),2*R.count false+(if ch=true then 1 else 0)≤μ∧II H.Links s0 R∧R[s0.toNat]? = some true∧(ch=false→∀l∈H.Links,R.getD l.A.toNat false=R.getD l.B.toNat false)∧Has ρ [(1,.pointer (some ⟨b1,0,none⟩)),(3,.slice q m d),(10,.pointer (some ⟨b10,0,none⟩)),(11,.bool ch)]∧Wd Γ (.blk b10 (.cells ((R).map Value.bool).toArray 250)::.own (.slice q m d) 3 1 (A8 (F9 H))::.blk b1 (.cells #[.string H.Name,.slice a1 n1 c1,.slice a2 n2 c2,.slice a3 n3 c3,.slice a4 n4 c4,.slice a5 n5 c5] 44)::S) w) 200 ⟨_,true,by have:=List.count_le_length (a:=false) (l:=(List.replicate 64 false).set s0.toNat true);simp at this ⊢;omega,hst,set_self (by simp;omega),(fun h=>by cases h),⟨rfl,rfl,rfl,rfl,trivial⟩,hw⟩ ?_
 clear hw;rintro μ ρ w ⟨R,ch,hμ,hkn,hR0,hcl,hρ,hw⟩
 have hRl:=hkn.len
 rw[hρ.eq];refine A6 ?_;refine A0 rfl (fun h=>?_) (fun h=>?_)
 ·subst h;clear hcl;refine A6 ?_;refine B3 (fun μ2 ρ w=>∃(k:Nat) (R2:List Bool) (ch:Bool),μ2+k=n3∧II H.Links s0 R2∧R2[s0.toNat]? = some true∧2*R2.count false+(if ch=true then 1 else 0)+1≤2*R.count false+1∧(ch=false→∀(i:Nat) (l:E9),i<k→H.Links[i]? = some l→R2.getD l.A.toNat false=R2.getD l.B.toNat false)∧Has ρ [(1,.pointer (some ⟨b1,0,none⟩)),(3,.slice q m d),(10,.pointer (some ⟨b10,0,none⟩)),(11,.bool ch),(61,.slice a3 n3 c3),(62,.int .i64 n3),(63,.int .i64 k)]∧Wd Γ (.blk b10 (.cells ((R2).map Value.bool).toArray 250)::.own (.slice q m d) 3 1 (A8 (F9 H))::.blk b1 (.cells #[.string H.Name,.slice a1 n1 c1,.slice a2 n2 c2,.slice a3 n3 c3,.slice a4 n4 c4,.slice a5 n5 c5] 44)::S) w) n3 ⟨0,R,false,by omega,hkn,hR0,by simp,fun _ i l h=>by omega,⟨rfl,rfl,rfl,rfl,rfl,rfl,rfl,trivial⟩,hw⟩ ?_
  clear hw hkn hR0 hRl;rintro μ2 ρ w ⟨k,R2,ch,hk,hkn,hR0,hcnt2,hcl,hρ,hw⟩
  have hRl:=hkn.len
  rw[hρ.eq];refine A6 ?_;refine A0 rfl (fun h2=>?_) (fun h2=>?_)
  ·have hkn3:k<n3:=by simpa using h2
   obtain⟨x,hx⟩:=B2 (l:=H.Links) (k:=k) (by omega)
   obtain⟨hA0,hA1,hB0,hB1⟩:=hLk x (List.mem_of_getElem? hx)
   obtain⟨ba,hba⟩:=B2 (l:=R2) (k:=x.A.toNat) (by omega)
   obtain⟨bb,hbb⟩:=B2 (l:=R2) (k:=x.B.toNat) (by omega)
   refine A6 ?_;refine B9 ?_;intro b13 w hw;refine B0 ?_;intro w hw;have hw:Wd Γ (.blk b13 (.cells (enc x).toArray 128)::.blk b10 (.cells ((R2).map Value.bool).toArray 250)::.own (.slice q m d) 3 1 (A8 (F9 H))::.blk b1 (.cells #[.string H.Name,.slice a1 n1 c1,.slice a2 n2 c2,.slice a3 n3 c3,.slice a4 n4 c4,.slice a5 n5 c5] 44)::S) w:=hw
   refine A6 ?_;refine G9 (by kernel_rfl) (by kernel_rfl) hw ?_
   refine X3 ?_;refine qY (v:=.bool ba) ?_ (hy:=fun w hw=>M7 (i:=1) hw rfl rfl (NF hba))
   refine X3 ?_;refine qY (v:=.bool bb) ?_ (hy:=fun w hw=>M7 (i:=1) hw rfl rfl (NF hbb))
   refine X3 ?_;refine qY (v:=.bool (ba != bb)) ?_ (hy:=fun w hw=>UD Tryz.underlying4 rfl rfl)
   refine X3 ?_;clear hw;intro w hw;refine A0 rfl (fun h3=>?_) (fun h3=>?_)
   ·refine A6 ?_;refine Cb [.blk b13 _] (.blk b10 _::.own _ _ _ _::.blk b1 _::S) [[],[],[],[],[],[0],[],[0]] [[],[],[],[],[],[0],[],[0]] hw ?_
    refine P3 ?_;refine U2 (o:=0+x.A.toNat*1) (ho:=by simp;omega) ?_
    refine P3 ?_;refine U2 (o:=0+x.B.toNat*1) (ho:=by
     show _≤(putCells (R2.map Value.bool).toArray (0+x.A.toNat*1) [.bool true]).size
     rw[Ik (by omega)];simp;omega) ?_
    refine W3 ?_
    clear hw;intro w hw;have hw:Wd Γ ([.blk b13 (.cells (enc x).toArray 128)]++((.blk b10 (.cells (putCells (putCells (R2.map Value.bool).toArray (0+x.A.toNat*1) [.bool true]) (0+x.B.toNat*1) [.bool true]) 250)::.own (.slice q m d) 3 1 (A8 (F9 H))::.blk b1 (.cells #[.string H.Name,.slice a1 n1 c1,.slice a2 n2 c2,.slice a3 n3 c3,.slice a4 n4 c4,.slice a5 n5 c5] 44)::S)++[])) w:=hw
    rw[Ik (by omega),Ik (by simp;omega),List.append_nil]at hw
    have hw:Wd Γ (.blk b10 (.cells (((R2.set x.A.toNat true).set x.B.toNat true).map Value.bool).toArray 250)::.own (.slice q m d) 3 1 (A8 (F9 H))::.blk b1 (.cells #[.string H.Name,.slice a1 n1 c1,.slice a2 n2 c2,.slice a3 n3 c3,.slice a4 n4 c4,.slice a5 n5 c5] 44)::S) w:=hw.drop
    refine A6 ?_;have hne:ba≠bb:=by cases ba <;> cases bb <;> simp_all
    have hRA:Reach H.Links s0 x.A∧Reach H.Links s0 x.B:=by
     have hxm:=List.mem_of_getElem? hx
     cases ba with
     | true=>
      obtain⟨n,hn,hn0,hr⟩:=hkn.ok _ hba
      have:n=x.A:=by omega
      subst this;exact⟨hr,.ab hxm hr⟩
     | false=>
      have:bb=true:=by cases bb <;> simp_all
      subst this;obtain⟨n,hn,hn0,hr⟩:=hkn.ok _ hbb
      have:n=x.B:=by omega
      subst this;exact⟨.ba hxm hr,hr⟩
    have hc2:2*((R2.set x.A.toNat true).set x.B.toNat true).count false+2≤2*R2.count false:=by
     cases ba with
     | false=>
      have h1:=Fy hba
      have h2:=Gb (R:=R2.set x.A.toNat true) (k:=x.B.toNat)
      omega
     | true=>
      have h5:bb=false:=by cases bb <;> simp_all
      subst h5;have h6:x.A.toNat≠x.B.toNat:=fun e=>by rw[e,hbb]at hba;cases hba
      have h1:=Fy (R:=R2.set x.A.toNat true) (k:=x.B.toNat) (by rw[List.getElem?_set_ne h6];exact hbb)
      have h2:=Gb (R:=R2) (k:=x.A.toNat)
      omega
    refine⟨μ2-1,by omega,k+1,_,true,by omega,(hkn.set hA0 hRA.1).set hB0 hRA.2,?_,by simp;omega,(fun h=>by cases h),⟨rfl,rfl,rfl,rfl,rfl,rfl,rfl,trivial⟩,hw⟩
    rw[List.getElem?_set,List.getElem?_set];split
    ·simp;omega
    ·split
     ·simp;omega
     ·exact hR0
   ·have hab:ba=bb:=by cases ba <;> cases bb <;> simp_all
    refine A6 ?_;refine⟨μ2-1,by omega,k+1,R2,ch,by omega,hkn,hR0,hcnt2,fun hc i l hi hl=>?_,⟨rfl,rfl,rfl,rfl,rfl,rfl,rfl,trivial⟩,hw.drop⟩
    by_cases e:i=k
    ·subst e;rw[hx]at hl;cases hl
     rw[List.getD_eq_getElem?_getD,List.getD_eq_getElem?_getD,hba,hbb,hab]
    ·exact hcl hc i l (by omega) hl
  ·have hkn3:¬k<n3:=by simpa using h2
   refine A6 ?_;refine⟨μ-1,by rw[if_pos rfl]at hμ;omega,R2,ch,by rw[if_pos rfl]at hμ;omega,hkn,hR0,fun hc l hl=>?_,⟨rfl,rfl,rfl,rfl,trivial⟩,hw⟩
   obtain⟨i,hi,he⟩:=List.getElem_of_mem hl
   exact hcl hc i l (by omega) (by rw[List.getElem?_eq_getElem hi,he])
 ·subst h;have hcl:=hcl rfl
  clear hμ;have hiff:∀n∈F9 H,(R.getD n.toNat false=true↔Reach H.Links s0 n):=fun n hn=>Uq hkn hR0 hs1 hLk hcl (hNd n hn)
  refine A6 ?_;refine B3 (fun μ ρ w=>∃(k:Nat),μ+k=m∧(∀(i:Nat) (n:Int),i<k→(F9 H)[i]? = some n→R.getD n.toNat false=true)∧Has ρ [(10,.pointer (some ⟨b10,0,none⟩)),(83,.slice q m d),(84,.int .i64 m),(85,.int .i64 k)]∧Wd Γ (.blk b10 (.cells ((R).map Value.bool).toArray 250)::.own (.slice q m d) 3 1 (A8 (F9 H))::.blk b1 (.cells #[.string H.Name,.slice a1 n1 c1,.slice a2 n2 c2,.slice a3 n3 c3,.slice a4 n4 c4,.slice a5 n5 c5] 44)::S) w) m ⟨0,by omega,fun i n h=>by omega,⟨rfl,rfl,rfl,rfl,trivial⟩,hw⟩ ?_
  clear hw;rintro μ ρ w ⟨k,hk,hall,hρ,hw⟩
  rw[hρ.eq];refine A6 ?_;refine A0 rfl (fun h2=>?_) (fun h2=>?_)
  ·have hkm:k<m:=by simpa using h2
   obtain⟨x,hx⟩:=B2 (l:=F9 H) (k:=k) (by omega)
   obtain⟨hx0,hx1⟩:=hNd x (List.mem_of_getElem? hx)
   obtain⟨bx,hbx⟩:=B2 (l:=R) (k:=x.toNat) (by omega)
   have hg:R.getD x.toNat false=bx:=by rw[List.getD_eq_getElem?_getD,hbx];rfl
   refine A6 ?_;refine lY (v:=.bool bx) ?_ (hy:=M7 (i:=0) hw rfl rfl (NF hbx))
   refine A6 ?_;refine A0 rfl (fun h3=>?_) (fun h3=>?_)
   ·have h3:bx=false:=by simpa using h3
    refine A6 ?_;refine⟨_,rfl,F2 rfl ?_,hw.drop.drop.drop⟩
    refine(Fb fun hP=>?_).symm
    have h4:=(hiff x (List.mem_of_getElem? hx)).2 (by rw[←HS hs0];exact hP x (List.mem_of_getElem? hx))
    rw[hg,h3]at h4;cases h4
   ·have h3:bx=true:=by simpa using h3
    refine A6 ?_;exact⟨μ-1,by omega,k+1,by omega,O9 (p:=fun n:Int=>R.getD n.toNat false) hall hx (hg.trans h3),⟨rfl,rfl,rfl,rfl,trivial⟩,hw⟩
  ·have hkm:¬k<m:=by simpa using h2
   refine A6 ?_;refine⟨_,rfl,F2 rfl ?_,hw.drop.drop.drop⟩
   refine(Aw fun n hn=>?_).symm
   rw[HS hs0];obtain⟨i,hi,he⟩:=List.getElem_of_mem hn
   exact(hiff n hn).1 (hall i n (by omega) (by rw[List.getElem?_eq_getElem hi,he]))
noncomputable def D8(H:J6):Int:=
 if t6 H=false then 63 else if S6 H=false then 15 else if (K3 H&&H4 H)=false then 6 else if o5 H=false then 59
 else if T6 H=false then 56 else if Ad H=false then 57 else if JF H=false then 73 else if KA H=false then 7 else if GR H=false then 60 else 0
instance Oy{Γ:C8}{u:Value}{H:J6}[hh:FG Γ u H]:PG Tryz.prog Γ 55 [u] (.int .i64 (D8 H)):=⟨fun S w hw=>by
 obtain⟨a1,n1,c1,a2,n2,c2,a3,n3,c3,a4,n4,c4,a5,n5,c5,cs,hu,-⟩:=hh.h;subst hu;refine A7 Tryz.func55 rfl rfl ?_
 refine A6 ?_;refine H2 ?_;intro b1 w hw;have hw:Wd Γ (.blk b1 (J2 H a1 n1 c1 a2 n2 c2 a3 n3 c3 a4 n4 c4 a5 n5 c5)::S) w:=hw
 unfold D8;repeat first|refine E6 ?_|refine E7 ?_;intro w hw
 refine A0 rfl (fun h=>?_) (fun h=>?_)
 ·rw[if_pos (by simpa using h)]
  refine A6 ?_;exact⟨_,rfl,rfl,hw.drop⟩
 rw[if_neg (by simpa using h)]
 clear h;repeat first|refine E6 ?_|refine E7 ?_;intro w hw
 refine A0 rfl (fun h=>?_) (fun h=>?_)
 ·rw[if_pos (by simpa using h)]
  refine A6 ?_;exact⟨_,rfl,rfl,hw.drop⟩
 have hcnt:S6 H=true:=by simpa using h
 rw[if_neg (by simpa using h)]
 clear h;repeat first|refine E6 ?_|refine E7 ?_;intro w hw
 refine A0 rfl (fun h=>?_) (fun h=>?_)
 ·have h:(!K3 H || !H4 H)=true:=h
  rw[if_pos (by revert h;cases K3 H <;> cases H4 H <;> simp)]
  refine A6 ?_;exact⟨_,rfl,rfl,hw.drop⟩
 have h:(!K3 H || !H4 H)=false:=h
 rw[←Bool.not_and]at h;have h:(K3 H&&H4 H)=true:=by simpa using h
 rw[if_neg (by rw[h];simp)]
 rw[Bool.and_eq_true]at h;obtain⟨hcr,hrr⟩:=h;repeat first|refine E6 ?_|refine E7 ?_;intro w hw
 refine A0 rfl (fun h=>?_) (fun h=>?_)
 ·rw[if_pos (by simpa using h)]
  refine A6 ?_;exact⟨_,rfl,rfl,hw.drop⟩
 rw[if_neg (by simpa using h)]
 clear h;refine A6 ?_;refine C9 ?_;refine(RU hcnt hw).mono ?_
 rintro r w ⟨rfl,hw⟩
 refine⟨_,rfl,?_⟩;refine A6 ?_;refine A0 rfl (fun h=>?_) (fun h=>?_)
 ·rw[if_pos (by simpa using h)]
  refine A6 ?_;exact⟨_,rfl,rfl,hw.drop⟩
 rw[if_neg (by simpa using h)]
 clear h;repeat first|refine E6 ?_|refine E7 ?_;intro w hw
 refine A0 rfl (fun h=>?_) (fun h=>?_)
 ·rw[if_pos (by simpa using h)]
  refine A6 ?_;exact⟨_,rfl,rfl,hw.drop⟩
 rw[if_neg (by simpa using h)]
 clear h;repeat first|refine E6 ?_|refine E7 ?_;intro w hw
 refine A0 rfl (fun h=>?_) (fun h=>?_)
 ·rw[if_pos (by simpa using h)]
  refine A6 ?_;exact⟨_,rfl,rfl,hw.drop⟩
 rw[if_neg (by simpa using h)]
 clear h;refine A6 ?_;refine C9 ?_;refine(Mp hcnt hw).mono ?_
 rintro r w ⟨rfl,hw⟩
 refine⟨_,rfl,?_⟩;refine A6 ?_;refine A0 rfl (fun h=>?_) (fun h=>?_)
 ·rw[if_pos (by simpa using h)]
  refine A6 ?_;exact⟨_,rfl,rfl,hw.drop⟩
 rw[if_neg (by simpa using h)]
 clear h;refine A6 ?_;refine C9 ?_;refine(Kb hcnt hcr hrr hw).mono ?_
 rintro r w ⟨rfl,hw⟩
 refine⟨_,rfl,?_⟩;refine A6 ?_;refine A0 rfl (fun h=>?_) (fun h=>?_)
 ·rw[if_pos (by simpa using h)]
  refine A6 ?_;exact⟨_,rfl,rfl,hw.drop⟩
 rw[if_neg (by simpa using h)]
 refine A6 ?_;exact⟨_,rfl,rfl,hw.drop⟩⟩
end Go.Proofs.YtlmiakjbogojgaaGreatDoor
end
section
open Go
namespace Mk
attribute [local irreducible] Calls
section
variable {α β:Type}[DecidableEq α]
theorem L9(a b:α)(v:β)(l:List (α×β)):G3 ((a,v)::l) b=if a=b then some v else G3 l b:=by
 unfold G3 Dc;by_cases h:a=b
 ·subst h;simp[List.findIdx?_cons]
 ·simp only[List.findIdx?_cons,decide_eq_true_eq,h,decide_false,Bool.false_eq_true,if_false]
  cases l.findIdx? (fun p=>decide (p.1=b)) <;> simp
theorem JC(a b:α)(v u:β)(l:List (α×β)):j6 ((a,v)::l) b u=if a=b then (b,u)::l else (a,v)::j6 l b u:=by
 unfold j6 Dc;by_cases h:a=b
 ·subst h;simp[List.findIdx?_cons]
 ·simp only[List.findIdx?_cons,h,decide_false,Bool.false_eq_true,if_false]
  cases l.findIdx? (fun p=>decide (p.1=b)) <;> simp
theorem RB{l:List (α×β)}{a:α}:G3 l a=none↔a∉l.map (·.1):=by
 induction l with
 | nil=>simp[G3,Dc]
 | cons p l ih=>
  obtain⟨x,v⟩:=p;rw[L9];by_cases h:x=a
  ·simp[h]
  ·rw[if_neg h,ih];simp[Ne.symm h]
theorem LM{l:List (α×β)}(h:(l.map (·.1)).Nodup)(a:α)(u:β):(j6 l a u).Perm ((a,u)::l.filter fun p=>!decide (p.1=a)):=by
 induction l with
 | nil=>simp[j6,Dc]
 | cons p l ih=>
  obtain⟨x,v⟩:=p;simp only[List.map_cons,List.nodup_cons]at h
  rw[JC];by_cases e:x=a
  ·subst e;rw[if_pos rfl];simp only[List.filter_cons,decide_true,Bool.not_true,Bool.false_eq_true,if_false]
   rw[List.filter_eq_self.2 (fun p hp=>by simp;intro e;exact h.1 (e ▸ List.mem_map_of_mem hp))]
  ·rw[if_neg e];simp only[List.filter_cons,decide_eq_false e,Bool.not_false,if_true]
   exact((ih h.2).cons _).trans (.swap _ _ _)
theorem Ld{l:List (α×β)}(h:(l.map (·.1)).Nodup){a:α}{v:β}(hg:G3 l a=some v):l.Perm ((a,v)::l.filter fun p=>!decide (p.1=a)):=by
 induction l with
 | nil=>simp[G3,Dc]at hg
 | cons p l ih=>
  obtain⟨x,u⟩:=p;simp only[List.map_cons,List.nodup_cons]at h
  rw[L9]at hg;by_cases e:x=a
  ·subst e;rw[if_pos rfl]at hg;cases hg
   simp only[List.filter_cons,decide_true,Bool.not_true,Bool.false_eq_true,if_false]
   rw[List.filter_eq_self.2 (fun p hp=>by simp;intro e;exact h.1 (e ▸ List.mem_map_of_mem hp))]
  ·rw[if_neg e]at hg;simp only[List.filter_cons,decide_eq_false e,Bool.not_false,if_true]
   exact((ih h.2 hg).cons _).trans (.swap _ _ _)
theorem HT{l:List (α×β)}{a:α}(hg:G3 l a=none):(l.filter fun p=>!decide (p.1=a))=l:=
 List.filter_eq_self.2 fun p hp=>by
  have:=RB.1 hg
  simp;intro e;exact this (e ▸ List.mem_map_of_mem hp)
theorem UY{l:List (α×β)}(h:(l.map (·.1)).Nodup)(a:α)(u:β):((j6 l a u).map (·.1)).Nodup:=by
 refine((LM h a u).map _).nodup_iff.2 ?_
 simp only[List.map_cons,List.nodup_cons]
 refine⟨fun hm=>?_,(List.filter_sublist.map _).nodup h⟩
 obtain⟨p,hp,e⟩:=List.mem_map.1 hm
 have:=(List.mem_filter.1 hp).2
 simp[e]at this
theorem Le(l:List (α×β))(a b:α)(u:β):G3 (j6 l a u) b=if a=b then some u else G3 l b:=by
 induction l with
 | nil=>simp only[j6,Dc,List.findIdx?_nil,List.nil_append];rw[L9]
 | cons p l ih=>
  obtain⟨x,v⟩:=p;rw[JC];by_cases e:x=a
  ·subst e;rw[if_pos rfl,L9,L9];by_cases e2:x=b <;> simp[e2]
  ·rw[if_neg e,L9,ih,L9];by_cases e2:x=b
   ·subst e2;rw[if_pos rfl,if_pos rfl,if_neg (Ne.symm e)]
   ·rw[if_neg e2,if_neg e2]
end
section
variable {P:Program}{n:Nat}{ops:List Oper}{Γ:C8}{K:List B6}{wr tc stab:List (List Nat)}{Q:Fr→World→Prop}{i:Nat}{rest:List Oper}{ρ:Fr}{M:Nat→Fr→List B6}
variable {ty T:TypeId}{pos:String}{es:Array Edge}{x y:Operand}
theorem ct{c b j dv:Nat}{l:List (Int×Value)}{a:Int}{k:IntKind}{X:Fr→List B6}{KT ET:TypeId}[hMp:BJ P T KT ET][hK:MP P KT k](h:MSw (mV P n ops Γ K wr tc stab) Q (i+1) rest ⟨ρ,M1 M c fun g=>(X g).set j (B6.mpT P KT (id:Value→Value) b (j6 l a (g dv)))⟩)
  (ht:tc.getD i []=[c]:=by exact rfl) (hM:M c=X:=by exact rfl) (hj:∀g,(X g)[j]? = some (B6.mpT P KT (id:Value→Value) b l):=by intro g;exact GZ) (hw0:wr.getD i []=[c]:=by exact rfl) (hx:∀g,ev (E8 stab.flatten g ρ) x=.map (some b):=by intro g;exact rfl) (hy:∀g,ev (E8 stab.flatten g ρ) y=.int k a:=by intro g;exact rfl)
  (hs:(stab.getD c []).contains dv=true:=by exact rfl) (hfv:stab.flatten.contains dv=true:=by exact rfl) :
  MSw (mV P n ops Γ K wr tc stab) Q i (⟨none,.mapUpdate T x y (.tmp dv),ty,pos,es,none⟩::rest) ⟨ρ,M⟩:=by
 refine mM (v:=undef) _ (fun Y w g hw=>?_) h hw0 rfl
 rw[Q7 ht,hM]at hw;have hz:ev (E8 stab.flatten g ρ) (.tmp dv)=g dv:=K0 (by simpa using hfv)
 have hg:E8 (stab.getD c []) g D5 dv=g dv:=K0 (by simpa using hs)
 have hjl:j<(X (E8 (stab.getD c []) g D5)).length:=(List.getElem?_eq_some_iff.1 (hj _)).1
 refine BP (f:=(id:Value→Value)) (v:=g dv) hw (hx g) (hy g) hz (i:=K.length+j) (by rw[List.getElem?_append_right (Nat.le_add_right _ _),Nat.add_sub_cancel_left,List.getElem?_append_left hjl];exact hj _) fun w' hw'=>⟨?_,fun _=>rfl⟩
 rw[Q7 ht,C6];rw[List.set_append_right _ _ (Nat.le_add_right _ _),Nat.add_sub_cancel_left,List.set_append_left _ _ hjl]at hw';simp only[D6,hg]
 exact hw'
end
def ed(Γ:C8)(w:World):C8:=⟨hp w,Γ.os,Γ.tape,Γ.out,Γ.dr⟩
theorem Xk{Γ:C8}{S:List B6}{w:World}(h:Wd Γ S w):Γ.le (ed Γ w):=⟨h.imm,rfl,rfl,rfl,rfl⟩
theorem XF{Γ:C8}{S:List B6}{w:World}(h:Wd Γ S w):Wd (ed Γ w) [] w:=⟨h.os,h.tape,h.out,h.dr,fun _ _ h=>h,[],trivial,by simp,by simp⟩
theorem Holds.noimm{m m' h}:∀(R:List B6) (bss:List (List Nat)),(∀r∈R,∀bs,r.holds m bs h→r.holds m' bs h)→Holds m R bss h→Holds m' R bss h
 | [],[],_,_=>trivial
 | r::R,bs::bss,hr,hh=>⟨hr r (by simp) bs hh.1,Holds.noimm R bss (fun r h=>hr r (by simp[h])) hh.2⟩
 | [],_::_,_,hh=>hh.elim
 | _::_,[],_,hh=>hh.elim
theorem Nr{Γ Γ':C8}{S R:List B6}{w w':World}(h:Wd Γ S w)(hle:(ed Γ w).le Γ')(hR:∀r∈R,∀bs,r.holds Γ'.imm bs (hp w')→r.holds Γ.imm bs (hp w'))(h':Wd Γ' R w'):Wd Γ (R++S) w':=by
 obtain⟨cs,k6,k7,k8⟩:=h'.own;have him:=h.imm
 obtain⟨h1,h2,h3,h4,h5,dss,d6,d7,d8⟩:=h;have hat:∀b∈dss.flatten,∃o,w.heap[b]? = some o:=fun b hbm=>⟨_,Array.getElem?_eq_getElem (d8 b hbm).1⟩
 have hnew:∀b∈cs.flatten,w.heap[b]? = none:=fun b hbm=>by
  cases hq:w.heap[b]? with
  | none=>rfl
  | some o=>have:=hle.imm b o hq;rw[(k8 b hbm).2]at this;cases this
 have hold:∀b∈dss.flatten,b∉cs.flatten:=fun b hbm hbs=>by
  obtain⟨o,ho⟩:=hat b hbm
  rw[hnew b hbs]at ho;cases ho
 have hkeep:∀b∈dss.flatten,w'.heap[b]? = w.heap[b]?:=fun b hbm=>by
  obtain⟨o,ho⟩:=hat b hbm
  rw[ho];exact h'.imm b o (hle.imm b o ho)
 refine⟨h'.os.trans hle.os,h'.tape.trans hle.tape,h'.out.trans hle.out,by have:=h'.dr;rw[hle.dr]at this;exact this,fun b o hb=>h'.imm b o (hle.imm b o (him b o hb)),cs++dss,Holds.append _ _ _ _ (Holds.noimm R cs hR k6) (Holds.loc (fun b o h=>h) S dss hkeep d6),?_,?_⟩
 ·rw[List.flatten_append,List.nodup_append];exact⟨k7,d7,fun a ha b hb' e=>hold b hb' (e ▸ ha)⟩
 ·intro b hbm;rw[List.flatten_append,List.mem_append]at hbm;rcases hbm with hbm|hbm
  ·refine⟨(k8 b hbm).1,?_⟩
   cases hq:Γ.imm b with
   | none=>rfl
   | some o=>have:=him b o hq;rw[hnew b hbm]at this;cases this
  ·obtain⟨o,ho⟩:=hat b hbm
   have:=hkeep b hbm
   rw[ho]at this;exact⟨(Array.getElem?_eq_some_iff.1 this).1,(d8 b hbm).2⟩
theorem Vb{m m':Hp}{h:Hp}{v:Value}{e sz:Nat}{rows:List (List Value)}:∀r∈[B6.own v e sz rows],∀bs,r.holds m bs h→r.holds m' bs h:=fun r hr bs hh=>by
 simp only[List.mem_singleton]at hr
 subst hr;unfold B6.own at hh ⊢
 exact hh
theorem EI{α:Type}{f:α→Value}{e sz:Nat}{g:α→List (List Value)}{S:List B6}{w:World}:∀(l:List α) {Γ:C8},Wd Γ (l.map (fun x=>B6.own (f x) e sz (g x))++S) w→∃Γ',Γ.le Γ'∧(∀x∈l,D7 Γ' (f x) sz (g x))∧Wd Γ' S w
 | [],Γ,hw=>⟨Γ,.refl _,by simp,hw⟩
 | x::l,Γ,hw=>by
  obtain⟨Γ1,h1,h2,hw⟩:=Wd.freeze (S:=l.map (fun x=>B6.own (f x) e sz (g x))++S) hw
  obtain⟨Γ2,h3,h4,hw⟩:=EI l hw
  refine⟨Γ2,h1.trans h3,fun y hy=>?_,hw⟩
  rcases List.mem_cons.1 hy with rfl|hy
  ·exact h2.mono h3
  ·exact h4 y hy
theorem WQ{Γ:C8}{a:Option Addr}{sz:Nat}:D7 Γ (.slice a 0 0) sz []:=by
 unfold D7;exact⟨by simp,a,0,0,rfl,rfl,Nat.le_refl _,by simp,fun h=>by simp at h⟩
end Mk
end
section
open Go Mk
namespace Go.Proofs.YtlmiakjbogojgaaGreatDoor
set_option maxHeartbeats 4000000
attribute [local irreducible] Calls
def G0(ls:List E9)(x:Int):List Pl:=ls.flatMap fun l=>(if l.A=x then [(l.B,l.Latency)] else [])++(if l.B=x then [(l.A,l.Latency)] else [])
def BW(N:Int→List Pl)(a:Int)(p:Pl):Int→List Pl:=fun x=>if a=x then N x++[p] else N x
theorem VK{ls:List E9}{k:Nat}{l:E9}(h:ls[k]? = some l):BW (BW (G0 (ls.take k)) l.A (l.B,l.Latency)) l.B (l.A,l.Latency)=G0 (ls.take (k+1)):=by
 funext x
 rw[D4 h];unfold BW G0;simp only[List.flatMap_append,List.flatMap_cons,List.flatMap_nil,List.append_nil]
 by_cases h1:l.A=x <;> by_cases h2:l.B=x <;> simp[h1,h2]
abbrev DK(bm:Nat)(l:List (Int×Value)):B6:=B6.mpT Tryz.prog 3 (id:Value→Value) bm l
def Tf(N:Int→List Pl)(e:Int×Value):B6:=.own e.2 216 2 ((N e.1).map f7)
def Mf(Γ:C8)(S:List B6)(bm:Nat)(N:Int→List Pl)(w:World):Prop:=
 ∃l:List (Int×Value),(l.map (·.1)).Nodup∧(∀x,G3 l x=none→N x=[])∧Wd Γ (DK bm l::(l.map (Tf N)++S)) w
def Jj(l:List (Int×Value))(a:Int):List (Int×Value):=l.filter fun p=>!decide (p.1=a)
def MZ(l:List (Int×Value))(a:Int)(v:Value):Prop:=G3 l a=some v∨(G3 l a=none∧v=.slice none 0 0)
theorem QL{Γ:C8}{S:List B6}{bm:Nat}{N:Int→List Pl}{w:World}{l:List (Int×Value)}(hn:(l.map (·.1)).Nodup)(h0:∀x,G3 l x=none→N x=[])(hw:Wd Γ (DK bm l::(l.map (Tf N)++S)) w)(a:Int) :
  ∃v,MZ l a v∧Wd Γ (DK bm l::.own v 216 2 ((N a).map f7)::((Jj l a).map (Tf N)++S)) w:=by
 cases hg:G3 l a with
 | some v=>
  refine⟨v,.inl hg,hw.perm (List.Perm.cons _ ?_)⟩
  exact((Ld hn hg).map (Tf N)).append_right S
 | none=>
  refine⟨.slice none 0 0,.inr ⟨hg,rfl⟩,?_⟩
  have h1:=(Wd.addNil (a:=none) (E:=216) (sz:=2) hw).ps [1]
  rw[h0 a hg];have:Jj l a=l:=HT hg
  rw[this];exact h1
theorem Lh{Γ:C8}{S:List B6}{bm:Nat}{N:Int→List Pl}{w:World}{l:List (Int×Value)}{a:Int}{p:Pl}{v:Value}(hn:(l.map (·.1)).Nodup)(h0:∀x,G3 l x=none→N x=[])(hw:Wd Γ (DK bm (j6 l a v)::.own v 216 2 ((N a).map f7++[f7 p])::((Jj l a).map (Tf N)++S)) w) :
  Mf Γ S bm (BW N a p) w:=by
 refine⟨j6 l a v,UY hn a v,fun x hx=>?_,hw.perm (List.Perm.cons _ ?_)⟩
 ·rw[Le]at hx;by_cases e:a=x
  ·rw[if_pos e]at hx;cases hx
  ·rw[if_neg e]at hx;unfold BW;rw[if_neg e];exact h0 x hx
 ·have h1:(Jj l a).map (Tf N)=(Jj l a).map (Tf (BW N a p)):=List.map_congr_left fun e he=>by
   have:=(List.mem_filter.1 he).2
   unfold Tf BW;rw[if_neg (by intro h;simp[h]at this)]
  have h2:B6.own v 216 2 ((N a).map f7++[f7 p])=Tf (BW N a p) (a,v):=by
   unfold Tf BW;simp
  rw[h1,h2];exact(((LM hn a v).map (Tf (BW N a p))).append_right S).symm
theorem Lb{Γ:C8}{S R:List B6}{A B b:B6}{w:World}(hw:Wd Γ (A::B::(R++b::S)) w):Wd Γ (b::A::B::(R++S)) w:=
 hw.perm (((List.perm_middle.cons _).cons _).trans (((List.Perm.swap _ _ _).cons _).trans (.swap _ _ _)))
theorem Pj{Γ:C8}{S R:List B6}{A B b:B6}{w:World}(hw:Wd Γ (b::A::B::(R++S)) w):Wd Γ (A::B::(R++b::S)) w:=
 hw.perm (((List.perm_middle.cons _).cons _).trans (((List.Perm.swap _ _ _).cons _).trans (.swap _ _ _))).symm
theorem MB{ls:List E9}{x:Int}:(G0 ls x).length≤2*ls.length:=by
 induction ls with
 | nil=>simp[G0]
 | cons l ls ih=>
  have:G0 (l::ls) x=((if l.A=x then [(l.B,l.Latency)] else [])++(if l.B=x then [(l.A,l.Latency)] else []))++G0 ls x:=by simp[G0]
  rw[this];simp only[List.length_append,List.length_cons]
  split <;> split <;> simp <;> omega
theorem XL{N:Int→List Pl}{a x:Int}{p:Pl}:(BW N a p x).length≤(N x).length+1:=by
 unfold BW;split <;> simp
theorem Mf.drop{Γ:C8}{S:List B6}{b:B6}{bm:Nat}{N:Int→List Pl}{w:World}(h:Mf Γ (b::S) bm N w):Mf Γ S bm N w:=by
 obtain⟨l,h1,h2,hw⟩:=h;exact⟨l,h1,h2,(hw.perm ((List.perm_middle.cons _).trans (.swap _ _ _))).drop⟩
theorem HH{Γ:C8}{S:List B6}{w:World}{ρ:Fr}{d:Option Tmp}{T ty ET:TypeId}{pos:String}{es:Array Edge}{g:Option (Nat×Bool)}{x y:Operand}{l:List (Int×Value)}{a:Int}{v:Value}{bm i:Nat}[hM:BJ Tryz.prog T 3 ET][hz:Zc Tryz.prog ET (.slice none 0 0)](hw:Wd Γ S w)(hv:MZ l a v)(hi:S[i]? = some (DK bm l))(hx:ev ρ x=.map (some bm))(hy:ev ρ y=.int .i64 a) :
  Mk.Yields Tryz.prog ⟨d,.lookup T x y false,ty,pos,es,g⟩ ρ w v:=by
 rcases hv with hv|⟨hv,rfl⟩
 ·exact Y9 (f:=(id:Value→Value)) hw hx hy hi hv false
 ·exact Z3 (f:=(id:Value→Value)) hw hx hy hi hv false
theorem Jg{Γ:C8}{u:Value}{H:J6}[hh:FG Γ u H](hc:H.Links.length≤1000){S:List B6}{w:World}(hw:Wd Γ S w) :
  Calls Tryz.prog 139 #[u] w fun e w'=>∃bm,e=.returned (.map (some bm))∧Mf Γ S bm (G0 H.Links) w':=by
 obtain⟨a1,n1,c1,a2,n2,c2,a3,n3,c3,a4,n4,c4,a5,n5,c5,cs,rfl,hcs,hok,hsz,r1,r2,r3,r4,r5⟩:=hh.h;obtain⟨hn3,hm3,hx3⟩:=C0 r3
 simp only[List.length_map]at hn3
 refine A7 Tryz.func139 rfl rfl ?_
 refine A6 ?_;refine H2 ?_;intro b1 w hw;refine A6 ?_;refine H5 rfl rfl (X8 (K:=3) (α:=Int) (f:=(id:Value→Value)) hw fun bm w hw=>?_)
 have hw:=hw.ps [1]
 have hw:Wd Γ (.blk b1 (.cells #[.string H.Name,.slice a1 n1 c1,.slice a2 n2 c2,.slice a3 n3 c3,.slice a4 n4 c4,.slice a5 n5 c5] 44)::DK bm []::S) w:=hw
 refine A6 ?_;refine B3 (fun μ ρ w=>∃(k:Nat),μ+k=n3∧Has ρ [(1,.pointer (some ⟨b1,0,none⟩)),(3,.map (some bm)),(8,.slice a3 n3 c3),(9,.int .i64 n3),(10,.int .i64 k)]∧Mf Γ (.blk b1 (.cells #[.string H.Name,.slice a1 n1 c1,.slice a2 n2 c2,.slice a3 n3 c3,.slice a4 n4 c4,.slice a5 n5 c5] 44)::S) bm (G0 (H.Links.take k)) w) n3 ⟨0,by omega,⟨rfl,rfl,rfl,rfl,rfl,trivial⟩,[],by simp,fun _ _=>rfl,hw.ps [1]⟩ ?_
 clear hw;rintro μ ρ w ⟨k,hk,hρ,l,hnd,h0,hw⟩
 rw[hρ.eq];clear hρ;refine A6 ?_;refine A0 rfl (fun h=>?_) (fun h=>?_)
 ·have hkn:k<n3:=by have:=of_decide_eq_true h;omega
  clear h;obtain⟨x,hx⟩:=B2 (l:=H.Links) (k:=k) (by omega)
  refine A6 ?_;refine B9 ?_;intro b5 w hw;refine B0 ?_;intro w hw;have hw:Wd Γ (.blk b5 (.cells (enc x).toArray 128)::DK bm l::(l.map (Tf (G0 (H.Links.take k)))++(.blk b1 (.cells #[.string H.Name,.slice a1 n1 c1,.slice a2 n2 c2,.slice a3 n3 c3,.slice a4 n4 c4,.slice a5 n5 c5] 44)::S))) w:=hw
  replace hw:=hw.perm ((List.Perm.swap _ _ _).trans (List.Perm.cons _ List.perm_middle.symm))
  obtain⟨v,hv,hw⟩:=QL hnd h0 hw x.A
  obtain⟨a0,m0,c0,rfl,hm0,hmc0,-⟩:=hw.own_shape (i:=1) rfl
  simp only[List.length_map]at hm0
  have hlen:m0≤4000:=by rw[hm0];have:=MB (ls:=H.Links.take k) (x:=x.A);simp at this;omega
  have hw:=Lb hw
  refine A6 ?_;refine JZ [.blk b5 (.cells (enc x).toArray 128)] _ [[],[],[],[],[],[],[],[],[],[],[],[],[1],[0],[0]] [[],[],[],[],[],[],[0],[],[],[],[],[],[1],[0,1],[0]] [[27],[26]] hw ?_
  refine P3 ?_;refine mY (v:=.slice a0 m0 c0) ?_ (hy:=fun Y w g hw=>HH hw hv (i:=1) rfl rfl rfl)
  refine P3 ?_;refine mY (v:=.agg (f7 (x.B,x.Latency)).toArray) ?_ (hy:=fun Y w g hw=>V8 rfl)
  refine p8 [f7 (x.B,x.Latency)] ?_
  refine IX (j:=1) ?_
  refine ct (j:=0) ?_
  refine V1 fun w g hw=>?_
  have hw:=Wd.dropEnd hw
  have hw:Wd Γ (.blk b5 (.cells (enc x).toArray 128)::DK bm (j6 l x.A (g 27))::.own (g 27) 216 2 ((G0 (H.Links.take k) x.A).map f7++[f7 (x.B,x.Latency)])::((Jj l x.A).map (Tf (G0 (H.Links.take k)))++.blk b1 (.cells #[.string H.Name,.slice a1 n1 c1,.slice a2 n2 c2,.slice a3 n3 c3,.slice a4 n4 c4,.slice a5 n5 c5] 44)::S)) w:=hw
  have hA:=Lh hnd h0 (Pj hw)
  generalize g 27=gg at *
  obtain⟨l,hnd,h0,hw⟩:=hA;obtain⟨v,hv,hw⟩:=QL hnd h0 hw x.B
  obtain⟨a0,m0,c0,rfl,hm0,hmc0,-⟩:=hw.own_shape (i:=1) rfl
  simp only[List.length_map]at hm0
  have hlen:m0≤4000:=by rw[hm0];have:=XL (N:=G0 (H.Links.take k)) (a:=x.A) (p:=(x.B,x.Latency)) (x:=x.B) ; have:=MB (ls:=H.Links.take k) (x:=x.B);simp at this;omega
  have hw:=Lb hw
  refine A6 ?_;refine JZ [.blk b5 (.cells (enc x).toArray 128)] _ [[],[],[],[],[],[],[],[],[],[],[],[],[1],[0],[0]] [[],[],[],[],[],[],[0],[],[],[],[],[],[1],[0,1],[0]] [[41],[40]] hw ?_
  refine P3 ?_;refine mY (v:=.slice a0 m0 c0) ?_ (hy:=fun Y w g hw=>HH hw hv (i:=1) rfl rfl rfl)
  refine P3 ?_;refine mY (v:=.agg (f7 (x.A,x.Latency)).toArray) ?_ (hy:=fun Y w g hw=>V8 rfl)
  refine p8 [f7 (x.A,x.Latency)] ?_
  refine IX (j:=1) ?_
  refine ct (j:=0) ?_
  refine V1 fun w g hw=>?_
  have hw:=Wd.dropEnd hw
  have hw:Wd Γ (.blk b5 (.cells (enc x).toArray 128)::DK bm (j6 l x.B (g 41))::.own (g 41) 216 2 ((BW (G0 (H.Links.take k)) x.A (x.B,x.Latency) x.B).map f7++[f7 (x.A,x.Latency)])::((Jj l x.B).map (Tf (BW (G0 (H.Links.take k)) x.A (x.B,x.Latency)))++.blk b1 (.cells #[.string H.Name,.slice a1 n1 c1,.slice a2 n2 c2,.slice a3 n3 c3,.slice a4 n4 c4,.slice a5 n5 c5] 44)::S)) w:=hw
  have hA:=Lh hnd h0 (Pj hw)
  generalize g 41=gg at *
  have hA:=Mf.drop hA
  rw[VK hx]at hA;refine A6 ?_;exact⟨μ-1,by omega,k+1,by omega,⟨rfl,rfl,rfl,rfl,rfl,trivial⟩,hA⟩
 ·have hkn:¬k<n3:=by have:=of_decide_eq_false h;omega
  have hA:Mf Γ (.blk b1 (.cells #[.string H.Name,.slice a1 n1 c1,.slice a2 n2 c2,.slice a3 n3 c3,.slice a4 n4 c4,.slice a5 n5 c5] 44)::S) bm (G0 (H.Links.take k)) w:=⟨l,hnd,h0,hw⟩
  rw[List.take_of_length_le (by omega)]at hA
  refine A6 ?_;exact⟨_,rfl,bm,rfl,hA.drop⟩
end Go.Proofs.YtlmiakjbogojgaaGreatDoor
end
section
namespace Go.Proofs.YtlmiakjbogojgaaGreatDoor
inductive Way (nb:Int→List Pl) (s:Int):Int→Int→Prop
 | refl:Way nb s s 0
 | step {x d:Int} {q:Pl}:Way nb s x d→q∈nb x→Way nb s q.1 (d+q.2)
def Da(O:List Int)(x:Int):Int:=O.getD x.toNat (-1)
def UA(nb:Int→List Pl)(s x d:Int):Prop:=(0≤d∧Way nb s x d∧∀d',Way nb s x d'→d≤d')∨(d = -1∧∀d',¬Way nb s x d')
theorem UA.uniq{nb:Int→List Pl}{s x d e:Int}(h:UA nb s x d)(k:UA nb s x e):d=e:=by
 rcases h with⟨h0,h1,h2⟩|⟨h1,h2⟩ <;> rcases k with⟨k0,k1,k2⟩|⟨k1,k2⟩
 ·have:=h2 _ k1;have:=k2 _ h1;omega
 ·exact(k2 _ h1).elim
 ·exact(h2 _ k1).elim
 ·rw[h1,k1]
structure PK(nb:Int→List Pl)(s L:Int):Prop where
 rng:∀x,∀q∈nb x,0≤q.1∧q.1<64∧0≤q.2∧q.2≤L
 st:0≤s∧s<64
theorem Way.nonneg{nb:Int→List Pl}{s L:Int}(hn:PK nb s L){x d:Int}(h:Way nb s x d):0≤d:=by
 induction h with
 | refl=>omega
 | step _ hq ih=>have:=hn.rng _ _ hq;omega
theorem Way.rng{nb:Int→List Pl}{s L:Int}(hn:PK nb s L){x d:Int}(h:Way nb s x d):0≤x∧x<64:=by
 cases h with
 | refl=>exact hn.st
 | step _ hq=>have:=hn.rng _ _ hq;omega
structure Sx(nb:Int→List Pl)(s:Int)(O:List Int)(xs:List Pl):Prop where
 len:O.length=64
 neg:∀x,Da O x = -1∨0≤Da O x
 way:∀p∈xs,Way nb s p.1 p.2
 done:∀x,0≤x→x<64→0≤Da O x→Way nb s x (Da O x)∧∀d,Way nb s x d→Da O x≤d
 closed:∀x,0≤x→x<64→0≤Da O x→∀q∈nb x,0≤Da O q.1∨(q.1,Da O x+q.2)∈xs
 start:0≤Da O s∨(s,0)∈xs
section
variable {nb:Int→List Pl}{s L:Int}{O:List Int}{xs ys:List Pl}
theorem GO(x:Int):Da (List.replicate 64 (-1)) x = -1:=by
 unfold Da;rw[List.getD_eq_getElem?_getD,List.getElem?_replicate];split <;> rfl
theorem TV{d p:Int}(hl:O.length=64)(h0:0≤p)(h1:p<64){x:Int}(hx:0≤x):Da (O.set p.toNat d) x=if x=p then d else Da O x:=by
 unfold Da;rw[List.getD_eq_getElem?_getD,List.getElem?_set,List.getD_eq_getElem?_getD];by_cases e:x=p
 ·subst e;rw[if_pos rfl,if_pos rfl,if_pos (by omega)];rfl
 ·rw[if_neg e,if_neg (by omega)]
theorem Sx.init:Sx nb s (List.replicate 64 (-1)) [(s,0)] where
 len:=by simp
 neg x:=.inl (GO x)
 way p hp:=by simp at hp;subst hp;exact .refl
 done x _ _ h:=by rw[GO]at h;omega
 closed x _ _ h:=by rw[GO]at h;omega
 start:=.inr (by simp)
theorem Sx.reach(hn:PK nb s L)(h:Sx nb s O xs){x d:Int}(hw:Way nb s x d):0≤Da O x∨∃q∈xs,q.2≤d:=by
 induction hw with
 | refl=>
  rcases h.start with h1|h1
  ·exact .inl h1
  ·exact .inr ⟨_,h1,Int.le_refl _⟩
 | @step x d q hx hq ih=>
  have hr:=hn.rng _ _ hq
  rcases ih with ih|⟨p,hp,hd⟩
  ·obtain⟨h0,h1⟩:=hx.rng hn
   rcases h.closed x h0 h1 ih q hq with h2|h2
   ·exact .inl h2
   ·have:=(h.done x h0 h1 ih).2 d hx
    exact .inr ⟨_,h2,by show Da O x+q.2≤d+q.2;omega⟩
  ·exact .inr ⟨p,hp,by omega⟩
theorem Sx.skip(h:Sx nb s O xs){p:Pl}(hp:(p::ys).Perm xs)(hs:0≤Da O p.1):Sx nb s O ys where
 len:=h.len
 neg:=h.neg
 way q hq:=h.way q (hp.mem_iff.1 (by simp[hq]))
 done:=h.done
 closed x h0 h1 hx q hq:=by
  rcases h.closed x h0 h1 hx q hq with h2|h2
  ·exact .inl h2
  ·rcases List.mem_cons.1 (hp.mem_iff.2 h2) with h3|h3
   ·left;rw[←h3]at hs;exact hs
   ·exact .inr h3
 start:=by
  rcases h.start with h2|h2
  ·exact .inl h2
  ·rcases List.mem_cons.1 (hp.mem_iff.2 h2) with h3|h3
   ·left;rw[←h3]at hs;exact hs
   ·exact .inr h3
theorem Sx.settle(hn:PK nb s L)(h:Sx nb s O xs){p:Pl}(hp:(p::ys).Perm xs)(hmin:∀q∈xs,p.2≤q.2)(hs:Da O p.1<0){zs:List Pl}(hz:zs.Perm ((nb p.1).map (fun q=>(q.1,p.2+q.2))++ys)) :
  Sx nb s (O.set p.1.toNat p.2) zs:=by
 have hpm:p∈xs:=hp.mem_iff.1 (by simp)
 have hwp:=h.way p hpm
 obtain⟨p0,p1⟩:=hwp.rng hn
 have hpn:=hwp.nonneg hn
 have hO:∀ {x:Int},0≤x→Da (O.set p.1.toNat p.2) x=if x=p.1 then p.2 else Da O x:=TV h.len p0 p1
 refine⟨by simp[h.len],fun x=>?_,fun q hq=>?_,fun x h0 h1 hx=>?_,fun x h0 h1 hx q hq=>?_,?_⟩
 ·by_cases hx:0≤x
  ·rw[hO hx];split
   ·exact .inr hpn
   ·exact h.neg x
  ·have hz:Da (O.set p.1.toNat p.2) x=Da (O.set p.1.toNat p.2) 0:=by unfold Da;rw[show x.toNat=(0:Int).toNat by omega]
   have hz2:Da O x=Da O 0:=by unfold Da;rw[show x.toNat=(0:Int).toNat by omega]
   rw[hz,hO (by omega)];split
   ·exact .inr hpn
   ·exact h.neg 0
 ·rcases List.mem_append.1 (hz.mem_iff.1 hq) with hq|hq
  ·obtain⟨r,hr,rfl⟩:=List.mem_map.1 hq
   exact hwp.step hr
  ·exact h.way q (hp.mem_iff.1 (by simp[hq]))
 ·rw[hO h0]at hx ⊢
  by_cases e:x=p.1
  ·subst e;rw[if_pos rfl]at hx ⊢
   refine⟨hwp,fun d hd=>?_⟩
   rcases h.reach hn hd with h2|⟨q,hq,h2⟩
   ·omega
   ·have:=hmin q hq;omega
  ·rw[if_neg e]at hx ⊢
   exact h.done x h0 h1 hx
 ·obtain⟨q0,q1,-⟩:=hn.rng _ _ hq
  rw[hO h0]at hx ⊢
  rw[hO q0];by_cases eq:q.1=p.1
  ·left;rw[if_pos eq];exact hpn
  ·rw[if_neg eq];by_cases e:x=p.1
   ·subst e;right
    rw[if_pos rfl];exact hz.mem_iff.2 (List.mem_append_left _ (List.mem_map.2 ⟨q,hq,rfl⟩))
   ·rw[if_neg e]at hx ⊢
    rcases h.closed x h0 h1 hx q hq with h2|h2
    ·exact .inl h2
    ·rcases List.mem_cons.1 (hp.mem_iff.2 h2) with h3|h3
     ·exact(eq (by rw[←h3])).elim
     ·exact .inr (hz.mem_iff.2 (List.mem_append_right _ h3))
 ·rw[hO hn.st.1];by_cases e:s=p.1
  ·left;rw[if_pos e];exact hpn
  ·rw[if_neg e];rcases h.start with h2|h2
   ·exact .inl h2
   ·rcases List.mem_cons.1 (hp.mem_iff.2 h2) with h3|h3
    ·exact(e (by rw[←h3])).elim
    ·exact .inr (hz.mem_iff.2 (List.mem_append_right _ h3))
theorem Sx.final(hn:PK nb s L)(h:Sx nb s O []){x:Int}(h0:0≤x)(h1:x<64):UA nb s x (Da O x):=by
 rcases h.neg x with h2|h2
 ·refine .inr ⟨h2,fun d hd=>?_⟩
  rcases h.reach hn hd with h3|⟨q,hq,-⟩
  ·omega
  ·simp at hq
 ·exact .inl ⟨h2,h.done x h0 h1 h2⟩
def KH(nb:Int→List Pl)(O:List Int):Nat→Nat
 | 0=>0
 | n+1=>KH nb O n+if O.getD n (-1)<0 then (nb n).length else 0
theorem Tr{B:Nat}(hB:∀x,(nb x).length≤B):∀n,KH nb O n≤n*B
 | 0=>by simp[KH]
 | n+1=>by
  have:=Tr hB n
  have:=hB n
  unfold KH;rw[Nat.add_mul,Nat.one_mul];split <;> omega
theorem NZ{p:Nat}{d:Int}(hl:O.length=64)(hp:p<64)(hs:O.getD p (-1)<0)(hd:0≤d):∀n,KH nb (O.set p d) n+(if p<n then (nb p).length else 0)=KH nb O n
 | 0=>by simp[KH]
 | n+1=>by
  have ih:=NZ hl hp hs hd n
  unfold KH;have hg:(O.set p d).getD n (-1)=if n=p then d else O.getD n (-1):=by
   rw[List.getD_eq_getElem?_getD,List.getElem?_set,List.getD_eq_getElem?_getD];by_cases e:n=p
   ·subst e;rw[if_pos rfl,if_pos rfl,if_pos (by omega)];rfl
   ·rw[if_neg e,if_neg (Ne.symm e)]
  rw[hg];by_cases e:n=p
  ·subst e;rw[if_pos rfl,if_neg (by omega),if_pos hs,if_pos (by omega)]
   rw[if_neg (by omega)]at ih
   omega
  ·rw[if_neg e];by_cases e2:p<n
   ·rw[if_pos e2]at ih;rw[if_pos (show p<n+1 by omega)];omega
   ·rw[if_neg e2]at ih;rw[if_neg (show ¬p<n+1 by omega)];omega
end
end Go.Proofs.YtlmiakjbogojgaaGreatDoor
end
section
open Go Mk
namespace Go.Proofs.YtlmiakjbogojgaaGreatDoor
set_option maxHeartbeats 8000000
attribute [local irreducible] Calls
theorem Qr{Γ:C8}{S:List B6}{bm:Nat}{N:Int→List Pl}{w:World}(h:Mf Γ S bm N w):∃Γ' l,Γ.le Γ'∧(∀x v,MZ l x v→D7 Γ' v 2 ((N x).map f7))∧Wd Γ' (DK bm l::S) w:=by
 obtain⟨l,hn,h0,hw⟩:=h;have ES:Wd Γ (l.map (fun e=>B6.own e.2 216 2 ((N e.1).map f7))++(DK bm l::S)) w:=hw.perm List.perm_middle.symm
 obtain⟨Γ',hle,hr,hw3⟩:=EI l ES
 refine⟨Γ',l,hle,fun x v hv=>?_,hw3⟩
 rcases hv with hv|⟨hv,rfl⟩
 ·have:=(Ld hn hv).mem_iff.2 (List.mem_cons_self ..)
  exact hr _ this
 ·rw[h0 x hv];exact WQ
theorem OI(l:List (Int×Value))(x:Int):∃v,MZ l x v:=by
 cases h:G3 l x with
 | some v=>exact⟨v,.inl h⟩
 | none=>exact⟨_,.inr ⟨h,rfl⟩⟩
def T8(ls:List E9):Prop:=ls.length≤1000∧∀l∈ls,0≤l.A∧l.A<64∧0≤l.B∧l.B<64∧1≤l.Latency∧l.Latency≤1000000
theorem Ci{ls:List E9}{s:Int}(h:T8 ls)(hs:0≤s∧s<64):PK (G0 ls) s 1000000:=⟨fun x q hq=>by
 unfold G0 at hq;obtain⟨l,hl,hq⟩:=List.mem_flatMap.1 hq
 have:=h.2 l hl
 rcases List.mem_append.1 hq with hq|hq
 ·split at hq
  ·simp only[List.mem_singleton]at hq;subst hq;simp only[];omega
  ·simp at hq
 ·split at hq
  ·simp only[List.mem_singleton]at hq;subst hq;simp only[];omega
  ·simp at hq,hs⟩
theorem KD{Γ:C8}{u:Value}{H:J6}[hh:FG Γ u H](hL:T8 H.Links){s:Int}(hs:0≤s∧s<64){w:World}(hw:Wd Γ [] w) :
  Calls Tryz.prog 71 #[u,.int .i64 s] w fun e w'=>∃Γ' v O,Γ.le Γ'∧e=.returned v∧O.length=64∧(∀x,0≤x→x<64→UA (G0 H.Links) s x (Da O x)∧Da O x≤128001000000)∧Wd Γ' [.own v 3 1 (A8 O)] w':=by
 have hc:=hL.1
 have hn:=Ci hL hs
 refine A7 Tryz.func71 rfl rfl ?_
 have hh':=hh
 obtain⟨a1,n1,c1,a2,n2,c2,a3,n3,c3,a4,n4,c4,a5,n5,c5,cs,rfl,-⟩:=hh.h;refine A6 ?_;refine H2 ?_;intro b2 w hw;have hw:Wd Γ [.blk b2 (.cells #[.string H.Name,.slice a1 n1 c1,.slice a2 n2 c2,.slice a3 n3 c3,.slice a4 n4 c4,.slice a5 n5 c5] 44)] w:=hw
 refine A6 ?_;refine Np ?_
 refine A6 ?_;refine C9 ((Jg (H:=H) hc hw).mono fun e w hq=>?_)
 obtain⟨bm,rfl,hA⟩:=hq;clear hw;obtain⟨Γ1,l,hle,hrep,hw⟩:=Qr hA
 refine⟨_,rfl,?_⟩;refine A6 ?_;refine FI (len:=64) ?_
 intro ao w hw;have hw:Wd Γ1 [.own (.slice (some ao) 64 64) 3 1 (A8 (List.replicate 64 0)),DK bm l,.blk b2 (.cells #[.string H.Name,.slice a1 n1 c1,.slice a2 n2 c2,.slice a3 n3 c3,.slice a4 n4 c4,.slice a5 n5 c5] 44)] w:=hw
 refine A6 ?_;refine B3 (fun μ ρ w=>∃(k:Nat) (O:List Int),μ+k=64∧O.length=64∧(∀i,i<k→O[i]? = some (-1))∧Has ρ [(1,.int .i64 s),(5,.map (some bm)),(6,.slice (some ao) 64 64),(17,.int .i64 (64:Nat)),(18,.int .i64 k)]∧Wd Γ1 [.own (.slice (some ao) 64 64) 3 1 (A8 O),DK bm l,.blk b2 (.cells #[.string H.Name,.slice a1 n1 c1,.slice a2 n2 c2,.slice a3 n3 c3,.slice a4 n4 c4,.slice a5 n5 c5] 44)] w) 64 ⟨0,_,by omega,by simp,fun i h=>by omega,⟨rfl,rfl,rfl,rfl,rfl,trivial⟩,hw⟩ ?_
 clear hw;rintro μ ρ w ⟨k,O,hk,hO,hall,hρ,hw⟩
 rw[hρ.eq];clear hρ;refine A6 ?_;refine A0 rfl (fun h=>?_) (fun h=>?_)
 ·have hkn:k<64:=by have:=of_decide_eq_true h;omega
  clear h;refine A6 ?_;refine DJ (k:=k) (r:=[.int .i64 (-1)]) ?_
  intro w hw;have hw:Wd Γ1 [.own (.slice (some ao) 64 64) 3 1 (A8 (O.set k (-1))),DK bm l,.blk b2 (.cells #[.string H.Name,.slice a1 n1 c1,.slice a2 n2 c2,.slice a3 n3 c3,.slice a4 n4 c4,.slice a5 n5 c5] 44)] w:=by
   have e:A8 (O.set k (-1))=(A8 O).set k [.int .i64 (-1)]:=by unfold A8;rw[List.map_set]
   rw[e];exact hw
  refine A6 ?_;refine⟨μ-1,by omega,k+1,O.set k (-1),by omega,by simp[hO],fun i hi=>?_,⟨rfl,rfl,rfl,rfl,rfl,trivial⟩,hw⟩
  rw[List.getElem?_set];by_cases e:k=i
  ·subst e;rw[if_pos rfl,if_pos (by omega)]
  ·rw[if_neg e];exact hall i (by omega)
 have hkn:¬k<64:=by have:=of_decide_eq_false h;omega
 have hO2:O=List.replicate 64 (-1):=by
  refine List.ext_getElem? fun i=>?_
  rw[List.getElem?_replicate];by_cases e:i<64
  ·rw[if_pos e];exact hall i (by omega)
  ·rw[if_neg e,List.getElem?_eq_none (by omega)]
 subst hO2;clear h hkn hall hO hk;refine A6 ?_;refine B5 [] ?_
 intro aq w hw;refine H2 ?_;intro bq w hw;have hw:Wd Γ1 [BM bq (.slice (some aq) 0 0),.own (.slice (some aq) 0 0) 216 2 (([]:List Pl).map f7),.own (.slice (some ao) 64 64) 3 1 (A8 (List.replicate 64 (-1))),DK bm l,.blk b2 (.cells #[.string H.Name,.slice a1 n1 c1,.slice a2 n2 c2,.slice a3 n3 c3,.slice a4 n4 c4,.slice a5 n5 c5] 44)] w:=hw
 refine lY (v:=UN bq) ?_ (hy:=R1 rfl)
 refine A6 ?_;refine UV ((Pm (n:=s) (d:=0) (by simp) (fun k h1 h2=>by simp at h2) hw).mono fun e w hq=>?_)
 obtain⟨rfl,v0,xs0,hp0,hh0,hw⟩:=hq;refine⟨_,rfl,?_⟩;refine A6 ?_;refine Sq ?_
 refine A6 ?_;generalize hM0:1+KH (G0 H.Links) (List.replicate 64 (-1)) 64=M0
 have hMb:M0≤128001:=by
  have:=Tr (nb:=G0 H.Links) (O:=List.replicate 64 (-1)) (B:=2000) (fun x=>by have:=MB (ls:=H.Links) (x:=x);omega) 64
  omega
 have hl0:=hp0.length_eq
 simp only[List.length_singleton]at hl0
 refine B3 (fun μ ρ w=>∃(v:Value) (xs:List Pl) (O:List Int),μ=xs.length+KH (G0 H.Links) O 64∧μ≤M0∧i6 xs xs.length∧Sx (G0 H.Links) s O xs∧(∀p∈xs,p.2+1000000*(μ:Int)≤1000000*(M0:Int))∧(∀z,0≤z→Da O z≤1000000*(M0:Int))∧Has ρ [(5,.map (some bm)),(6,.slice (some ao) 64 64),(8,UN bq)]∧Wd Γ1 [BM bq v,.own v 216 2 (xs.map f7),.own (.slice (some ao) 64 64) 3 1 (A8 O),DK bm l,.blk b2 (.cells #[.string H.Name,.slice a1 n1 c1,.slice a2 n2 c2,.slice a3 n3 c3,.slice a4 n4 c4,.slice a5 n5 c5] 44)] w) (xs0.length+KH (G0 H.Links) (List.replicate 64 (-1)) 64) ⟨v0,xs0,List.replicate 64 (-1),rfl,by omega,hh0,?_,?_,fun z _=>by rw[GO];omega,⟨rfl,rfl,rfl,trivial⟩,hw⟩ ?_
 ·have e:=List.perm_singleton.1 hp0
  rw[e];exact Sx.init
 ·intro p hp;have e:=List.perm_singleton.1 hp0
  rw[e]at hp;simp only[List.mem_singleton]at hp;subst hp
  simp only[]
  omega
 clear hw hp0 hh0 hl0;rintro μ ρ w ⟨v,xs,O,hμ,hμM,hheap,hD,hbd,hOb,hρ,hw⟩
 rw[hρ.eq];clear hρ;refine A6 ?_;refine UV ((SQ hw).mono fun e w hq=>?_)
 obtain⟨rfl,hw⟩:=hq;refine⟨_,rfl,?_⟩;refine A6 ?_;refine A0 rfl (fun h=>?_) (fun h=>?_)
 ·have h:(!decide ((xs.length:Int)=0))=true:=h
  have hne:xs≠[]:=fun e=>by subst e;simp at h
  clear h;refine A6 ?_;refine UV ((Uo (by omega) hne hheap hw).mono fun e w hq=>?_)
  obtain⟨x,v,ys,rfl,hp,hmin,hhy,hw⟩:=hq;refine⟨_,rfl,?_⟩;have hpl:=hp.length_eq
  simp only[List.length_cons]at hpl
  have hxm:x∈xs:=hp.mem_iff.1 (by simp)
  have hwx:=hD.way x hxm
  obtain⟨x0,x1⟩:=hwx.rng hn
  have hxn:=hwx.nonneg hn
  have hxb:=hbd x hxm
  obtain⟨y,hy⟩:=B2 (l:=O) (k:=x.1.toNat) (by have:=hD.len;omega)
  have hoy:Da O x.1=y:=by unfold Da;rw[List.getD_eq_getElem?_getD,hy];rfl
  refine A6 ?_;refine A0 rfl (fun h=>?_) (fun h=>?_)
  ·have h:0≤y:=of_decide_eq_true h
   refine A6 ?_;refine⟨μ-1,by omega,v,ys,O,by omega,by omega,hhy,hD.skip hp (by omega),fun p hpm=>?_,hOb,⟨rfl,rfl,rfl,trivial⟩,hw⟩
   have:=hbd p (hp.mem_iff.1 (by simp[hpm]))
   omega
  ·have h:¬0≤y:=of_decide_eq_false h
   refine A6 ?_;refine DJ (k:=x.1.toNat) (r:=[.int .i64 x.2]) ?_
   intro w hw;have hw:Wd Γ1 [BM bq v,.own v 216 2 (ys.map f7),.own (.slice (some ao) 64 64) 3 1 (A8 (O.set x.1.toNat x.2)),DK bm l,.blk b2 (.cells #[.string H.Name,.slice a1 n1 c1,.slice a2 n2 c2,.slice a3 n3 c3,.slice a4 n4 c4,.slice a5 n5 c5] 44)] w:=by
    have e:A8 (O.set x.1.toNat x.2)=(A8 O).set x.1.toNat [.int .i64 x.2]:=by unfold A8;rw[List.map_set]
    rw[e];exact hw
   obtain⟨va,hva⟩:=OI l x.1
   have hra:=hrep x.1 va hva
   obtain⟨aa,na,ca,rfl,hna,hnca,hca⟩:=hra.shape;simp only[List.length_map]at hna
   have hdeg:=NZ (nb:=G0 H.Links) (d:=x.2) hD.len (p:=x.1.toNat) (by omega) (by unfold Da at hoy;omega) hxn 64
   rw[if_pos (by omega),show ((x.1.toNat:Nat):Int)=x.1 by omega]at hdeg
   refine A6 ?_;refine lY (v:=.slice aa na ca) ?_ (hy:=HH hw hva (i:=3) rfl rfl rfl)
   refine A6 ?_;refine B3 (fun μ2 ρ w=>∃(k:Nat) (v:Value) (zs:List Pl),μ2+k=na∧zs.Perm (((G0 H.Links x.1).take k).map (fun q=>(q.1,x.2+q.2))++ys)∧i6 zs zs.length∧Has ρ [(5,.map (some bm)),(6,.slice (some ao) 64 64),(8,UN bq),(10,.int .i64 x.2),(50,.slice aa na ca),(51,.int .i64 na),(52,.int .i64 k)]∧Wd Γ1 [BM bq v,.own v 216 2 (zs.map f7),.own (.slice (some ao) 64 64) 3 1 (A8 (O.set x.1.toNat x.2)),DK bm l,.blk b2 (.cells #[.string H.Name,.slice a1 n1 c1,.slice a2 n2 c2,.slice a3 n3 c3,.slice a4 n4 c4,.slice a5 n5 c5] 44)] w) na ⟨0,v,ys,by omega,.refl _,hhy,⟨rfl,rfl,rfl,rfl,rfl,rfl,rfl,trivial⟩,hw⟩ ?_
   clear hw hhy;rintro μ2 ρ w ⟨k,v,zs,hk,hz,hhz,hρ,hw⟩
   have hzl:=hz.length_eq
   simp only[List.length_append,List.length_map,List.length_take]at hzl
   rw[hρ.eq];clear hρ;refine A6 ?_;refine A0 rfl (fun h=>?_) (fun h=>?_)
   ·have hkn:k<na:=by have:=of_decide_eq_true h;omega
    clear h;obtain⟨q,hq⟩:=B2 (l:=G0 H.Links x.1) (k:=k) (by omega)
    obtain⟨q0,q1,q2,q3⟩:=hn.rng x.1 q (List.mem_of_getElem? hq)
    refine A6 ?_;refine B9 ?_;intro b12 w hw;refine B0 ?_;intro w hw;have hw:Wd Γ1 [.blk b12 (.cells (f7 q).toArray 216),BM bq v,.own v 216 2 (zs.map f7),.own (.slice (some ao) 64 64) 3 1 (A8 (O.set x.1.toNat x.2)),DK bm l,.blk b2 (.cells #[.string H.Name,.slice a1 n1 c1,.slice a2 n2 c2,.slice a3 n3 c3,.slice a4 n4 c4,.slice a5 n5 c5] 44)] w:=hw
    refine A6 ?_;refine UV ((Pm (n:=q.1) (d:=x.2+q.2) (by omega) hhz (hw.ps [2,2])).mono fun e w hq2=>?_)
    obtain⟨rfl,v',ws,hp2,hh2,hw⟩:=hq2;refine⟨_,rfl,?_⟩;have hw:=hw.ds [2]
    refine A6 ?_;refine⟨μ2-1,by omega,k+1,v',ws,by omega,?_,hh2,⟨rfl,rfl,rfl,rfl,rfl,rfl,rfl,trivial⟩,hw⟩
    rw[D4 hq,List.map_append,List.append_assoc];exact hp2.trans ((hz.cons _).trans List.perm_middle.symm)
   ·have hkn:¬k<na:=by have:=of_decide_eq_false h;omega
    rw[List.take_of_length_le (by omega)]at hz
    have hzl:=hz.length_eq
    simp only[List.length_append,List.length_map]at hzl
    have hD2:=hD.settle hn hp hmin (by omega) hz
    refine A6 ?_;refine⟨μ-1,by omega,v,zs,O.set x.1.toNat x.2,by omega,by omega,hhz,hD2,fun p hpm=>?_,fun z hz0=>by rw[TV hD.len x0 x1 hz0];split;(· omega);exact hOb z hz0,⟨rfl,rfl,rfl,trivial⟩,hw⟩
    rcases List.mem_append.1 (hz.mem_iff.1 hpm) with hpm|hpm
    ·obtain⟨q,hq,rfl⟩:=List.mem_map.1 hpm
     have:=(hn.rng _ _ hq).2.2.2
     simp only[]
     omega
    ·have:=hbd p (hp.mem_iff.1 (by simp[hpm]))
     omega
 ·have h:(!decide ((xs.length:Int)=0))=false:=h
  have he:xs=[]:=by
   have h:decide ((xs.length:Int)=0)=true:=by simpa using h
   have:=of_decide_eq_true h
   exact List.length_eq_zero_iff.1 (by omega)
  subst he;refine A6 ?_;exact⟨_,rfl,Γ1,_,O,hle,rfl,hD.len,fun x h0 h1=>⟨hD.final hn h0 h1,by have:=hOb x h0;omega⟩,hw.ds [0,0,1,1]⟩
theorem Kl{Γ:C8}{u:Value}{H:J6}[hh:FG Γ u H](hL:T8 H.Links){s:Int}(hs:0≤s∧s<64){S:List B6}{w:World}(hw:Wd Γ S w) :
  Calls Tryz.prog 71 #[u,.int .i64 s] w fun e w'=>∃v O,e=.returned v∧O.length=64∧(∀x,0≤x→x<64→UA (G0 H.Links) s x (Da O x)∧Da O x≤128001000000)∧Wd Γ (.own v 3 1 (A8 O)::S) w':=by
 haveI:FG (ed Γ w) u H:=hh.mono (Xk hw)
 refine(KD (Γ:=ed Γ w) hL hs (XF hw)).mono fun e w' hq=>?_
 obtain⟨Γ',v,O,hle,rfl,hO,hd,hw'⟩:=hq;exact⟨v,O,rfl,hO,hd,Nr (R:=[_]) hw hle Vb hw'⟩
noncomputable def S2(nb:Int→List Pl)(s x:Int):Int:=@Classical.epsilon _ ⟨(0:Int)⟩ (UA nb s x)
theorem UA.eq{nb:Int→List Pl}{s x d:Int}(h:UA nb s x d):S2 nb s x=d:=(Classical.epsilon_spec_aux ⟨0⟩ (UA nb s x) ⟨d,h⟩).uniq h
theorem S9{H:J6}(h:D8 H=0):t6 H=true∧S6 H=true∧(K3 H&&H4 H)=true∧o5 H=true∧T6 H=true∧Ad H=true∧JF H=true∧KA H=true∧GR H=true:=by
 unfold D8 at h;by_cases e1:t6 H=false
 ·rw[if_pos e1]at h;cases h
 rw[if_neg e1]at h;by_cases e2:S6 H=false
 ·rw[if_pos e2]at h;cases h
 rw[if_neg e2]at h;by_cases e3:(K3 H&&H4 H)=false
 ·rw[if_pos e3]at h;cases h
 rw[if_neg e3]at h;by_cases e4:o5 H=false
 ·rw[if_pos e4]at h;cases h
 rw[if_neg e4]at h;by_cases e5:T6 H=false
 ·rw[if_pos e5]at h;cases h
 rw[if_neg e5]at h;by_cases e6:Ad H=false
 ·rw[if_pos e6]at h;cases h
 rw[if_neg e6]at h;by_cases e7:JF H=false
 ·rw[if_pos e7]at h;cases h
 rw[if_neg e7]at h;by_cases e8:KA H=false
 ·rw[if_pos e8]at h;cases h
 rw[if_neg e8]at h;by_cases e9:GR H=false
 ·rw[if_pos e9]at h;cases h
 exact⟨by simpa using e1,by simpa using e2,by simpa using e3,by simpa using e4,by simpa using e5,by simpa using e6,by simpa using e7,by simpa using e8,by simpa using e9⟩
theorem W4{H:J6}(h:D8 H=0):T8 H.Links:=by
 obtain⟨-,h2,h3,-⟩:=S9 h
 obtain⟨-,-,-,l3,-⟩:=w5 h2
 refine⟨by omega,fun l hl=>?_⟩
 unfold K3 at h3;simp only[Bool.and_eq_true]at h3
 have:=List.all_eq_true.1 h3.1.2.2 l hl
 simp[w3,J3,u7]at this
 omega
theorem Zw{ls:List E9}{x:Int}{q:Pl}(h:q∈G0 ls x):(x,q.2)∈G0 ls q.1:=by
 unfold G0 at h ⊢
 obtain⟨l,hl,hq⟩:=List.mem_flatMap.1 h
 refine List.mem_flatMap.2 ⟨l,hl,?_⟩
 rcases List.mem_append.1 hq with hq|hq
 ·split at hq
  ·rename_i e;simp only[List.mem_singleton]at hq;subst hq;subst e;simp
  ·simp at hq
 ·split at hq
  ·rename_i e;simp only[List.mem_singleton]at hq;subst hq;subst e;simp
  ·simp at hq
theorem bZ{ls:List E9}{x:Int}{q:Pl}(hL:T8 ls)(h:q∈G0 ls x):1≤q.2:=by
 unfold G0 at h;obtain⟨l,hl,hq⟩:=List.mem_flatMap.1 h
 have:=hL.2 l hl
 rcases List.mem_append.1 hq with hq|hq <;>
 ·split at hq
  ·simp only[List.mem_singleton]at hq;subst hq;simp only[];omega
  ·simp at hq
end Go.Proofs.YtlmiakjbogojgaaGreatDoor
end
section
open Go Mk
namespace Go.Proofs.YtlmiakjbogojgaaGreatDoor
theorem Way.least{nb:Int→List Pl}{s L:Int}(hn:PK nb s L){x:Int}:∀(n:Nat) (d:Int),Way nb s x d→d.toNat≤n→∃m,Way nb s x m∧∀d',Way nb s x d'→m≤d'
 | 0,d,h,hd=>⟨d,h,fun d' h'=>by have:=h'.nonneg hn;have:=h.nonneg hn;omega⟩
 | n+1,d,h,hd=>by
  by_cases e:∃d',Way nb s x d'∧d'<d
  ·obtain⟨d',h',hlt⟩:=e;have:=h'.nonneg hn
   exact Way.least hn n d' h' (by omega)
  ·exact⟨d,h,fun d' h'=>by
    by_cases hlt:d'<d
    ·exact(e ⟨d',h',hlt⟩).elim
    ·omega⟩
theorem Fa{nb:Int→List Pl}{s L:Int}(hn:PK nb s L)(x:Int):UA nb s x (S2 nb s x):=by
 have:∃d,UA nb s x d:=by
  by_cases h:∃d,Way nb s x d
  ·obtain⟨d,h⟩:=h;obtain⟨m,h1,h2⟩:=Way.least hn d.toNat d h (Nat.le_refl _)
   exact⟨m,.inl ⟨h1.nonneg hn,h1,h2⟩⟩
  ·exact⟨-1,.inr ⟨rfl,fun d hd=>h ⟨d,hd⟩⟩⟩
 obtain⟨d,hd⟩:=this;rw[hd.eq];exact hd
noncomputable def Pf(nb:Int→List Pl)(s k:Int):Nat:=(List.range 64).countP fun y:Nat=>decide (0≤S2 nb s y)&&decide (S2 nb s y≤k)
theorem Lc{α:Type}{p q:α→Bool}:∀(l:List α),(∀x∈l,p x=true→q x=true)→(∃x∈l,q x=true∧p x=false)→l.countP p+1≤l.countP q
 | [],_,⟨x,hx,_⟩=>by simp at hx
 | y::l,h,⟨x,hx,h1,h2⟩=>by
  rw[List.countP_cons,List.countP_cons];have hle:l.countP p≤l.countP q:=List.countP_mono_left fun x hx=>h x (by simp[hx])
  have hy:=h y (by simp)
  rcases List.mem_cons.1 hx with rfl|hx
  ·rw[h1,h2];simp;omega
  ·have ih:=Lc l (fun x hx=>h x (by simp[hx])) ⟨x,hx,h1,h2⟩
   by_cases e:p y=true
   ·rw[e,hy e];simp;omega
   ·have e:p y=false:=by simpa using e
    rw[e];simp only[Bool.false_eq_true,if_false];omega
theorem Ua{ls:List E9}{s:Int}(hL:T8 ls)(hs:0≤s∧s<64):∀(n:Nat) (x:Int),(S2 (G0 ls) s x).toNat≤n→0≤S2 (G0 ls) s x→S2 (G0 ls) s x+1000000≤1000000*(Pf (G0 ls) s (S2 (G0 ls) s x):Int):=by
 have hn:=Ci hL hs
 have hself:∀x,0≤x→x<64→0≤S2 (G0 ls) s x→1≤Pf (G0 ls) s (S2 (G0 ls) s x):=fun x h0 h1 hd=>by
  unfold Pf;refine List.countP_pos_iff.2 ⟨x.toNat,by simp;omega,?_⟩
  rw[show ((x.toNat:Nat):Int)=x by omega]
  simp[hd]
 intro n;induction n with
 | zero=>
  intro x hx h0;have hr:0≤x∧x<64:=by
   rcases Fa hn x with⟨-,h,-⟩|⟨h,-⟩
   ·exact h.rng hn
   ·omega
  have:=hself x hr.1 hr.2 h0
  omega
 | succ n ih=>
  intro x hx h0;rcases Fa hn x with⟨-,hw,hmin⟩|⟨h,-⟩
  ·have hr:=hw.rng hn
   generalize hd:S2 (G0 ls) s x=d at *
   cases hw with
   | refl=>
    have:=hself s hs.1 hs.2 (by omega)
    rw[hd]at this;omega
   | @step u d' q hu hq=>
    have hur:=hu.rng hn
    have hqp:=bZ hL hq
    have hqr:=hn.rng _ _ hq
    rcases Fa hn u with⟨hu0,hu1,hu2⟩|⟨-,h⟩
    ·have e1:=hu2 _ hu
     have e2:=hmin _ (hu1.step hq)
     have hi:=ih u (by omega) hu0
     have hc:Pf (G0 ls) s (S2 (G0 ls) s u)+1≤Pf (G0 ls) s (d'+q.2):=by
      unfold Pf;refine Lc _ (fun y _ hy=>?_) ⟨q.1.toNat,by simp;omega,?_,?_⟩
      ·simp at hy ⊢;omega
      ·rw[show ((q.1.toNat:Nat):Int)=q.1 by omega,hd];simp;omega
      ·rw[show ((q.1.toNat:Nat):Int)=q.1 by omega,hd];simp;omega
     omega
    ·exact(h _ hu).elim
  ·omega
theorem MO{ls:List E9}{s x:Int}(hL:T8 ls)(hs:0≤s∧s<64):-1≤S2 (G0 ls) s x∧S2 (G0 ls) s x≤63000000:=by
 have hn:=Ci hL hs
 rcases Fa hn x with⟨h0,-⟩|⟨h,-⟩
 ·have:=Ua hL hs _ x (Nat.le_refl _) h0
  have h64:Pf (G0 ls) s (S2 (G0 ls) s x)≤64:=by
   unfold Pf;exact Nat.le_trans List.countP_le_length (by simp)
  omega
 ·omega
theorem Way.trans{nb:Int→List Pl}{s x d:Int}(h:Way nb s x d){y e:Int}(k:Way nb x y e):Way nb s y (d+e):=by
 induction k with
 | refl=>rw[Int.add_zero];exact h
 | step _ hq ih=>rw[←Int.add_assoc];exact ih.step hq
theorem Way.one{nb:Int→List Pl}{x:Int}{q:Pl}(h:q∈nb x):Way nb x q.1 q.2:=by
 have:=(Way.refl (nb:=nb) (s:=x)).step h
 rwa [Int.zero_add]at this
theorem Way.symm{ls:List E9}{s x d:Int}(h:Way (G0 ls) s x d):Way (G0 ls) x s d:=by
 induction h with
 | refl=>exact .refl
 | @step x d q _ hq ih=>
  have:=(Way.one (Zw hq)).trans ih
  simp only[]at this
  rwa [Int.add_comm]at this
theorem Lu{ls:List E9}{a:Int}(hL:T8 ls)(ha:0≤a∧a<64):S2 (G0 ls) a a=0:=by
 refine UA.eq (.inl ⟨Int.le_refl _,.refl,fun d hd=>hd.nonneg (Ci hL ha)⟩)
theorem FY{ls:List E9}{l:E9}(h:l∈ls):(l.B,l.Latency)∈G0 ls l.A:=List.mem_flatMap.2 ⟨l,h,by simp⟩
theorem FU{ls:List E9}{l:E9}(h:l∈ls):(l.A,l.Latency)∈G0 ls l.B:=List.mem_flatMap.2 ⟨l,h,by simp⟩
theorem LB{ls:List E9}{s x:Int}(h:Reach ls s x):∃d,Way (G0 ls) s x d:=by
 induction h with
 | refl=>exact⟨0,.refl⟩
 | ab hl _ ih=>obtain⟨d,ih⟩:=ih;exact⟨_,ih.step (FY hl)⟩
 | ba hl _ ih=>obtain⟨d,ih⟩:=ih;exact⟨_,ih.step (FU hl)⟩
theorem RH{ls:List E9}{s a b:Int}(hL:T8 ls)(ha:0≤a∧a<64)(h1:Reach ls s a)(h2:Reach ls s b):0≤S2 (G0 ls) a b:=by
 obtain⟨d,h1⟩:=LB h1
 obtain⟨e,h2⟩:=LB h2
 rcases Fa (Ci hL ha) b with⟨h,-⟩|⟨-,h⟩
 ·exact h
 ·exact(h _ (h1.symm.trans h2)).elim
abbrev Mx:=Int→Int→Int
def V3(x:Int):Prop:=0≤x∧x<64
inductive WM (E:Mx) (m:Int):Int→Int→Int→Prop
 | base {i k:Int}:V3 i→V3 k→0≤E i k→WM E m i k (E i k)
 | join {i c k x y:Int}:c<m→WM E m i c x→WM E m c k y→WM E m i k (x+y)
section
variable {E:Mx}{m i k L:Int}
theorem WM.nonneg(h:WM E m i k L):0≤L:=by
 induction h with
 | base _ _ h=>exact h
 | join _ _ _ h1 h2=>omega
theorem WM.rng(h:WM E m i k L):V3 i∧V3 k:=by
 induction h with
 | base h1 h2 _=>exact⟨h1,h2⟩
 | join _ _ _ h1 h2=>exact⟨h1.1,h2.2⟩
theorem WM.more(h:WM E m i k L):WM E (m+1) i k L:=by
 induction h with
 | base h1 h2 h3=>exact .base h1 h2 h3
 | join hc _ _ h1 h2=>exact .join (by omega) h1 h2
theorem WM.step(h:WM E (m+1) i k L):∃L',L'≤L∧(WM E m i k L'∨∃a b,L'=a+b∧WM E m i m a∧WM E m m k b):=by
 induction h with
 | base h1 h2 h3=>exact⟨_,Int.le_refl _,.inl (.base h1 h2 h3)⟩
 | @join i c k x y hc _ _ ih1 ih2=>
  obtain⟨x',hx,h1⟩:=ih1;obtain⟨y',hy,h2⟩:=ih2;by_cases e:c<m
  ·rcases h1 with h1|⟨a,b,rfl,ha,hb⟩ <;> rcases h2 with h2|⟨a2,b2,rfl,ha2,hb2⟩
   ·exact⟨x'+y',by omega,.inl (.join e h1 h2)⟩
   ·exact⟨x'+a2+b2,by omega,.inr ⟨x'+a2,b2,rfl,.join e h1 ha2,hb2⟩⟩
   ·exact⟨a+(b+y'),by omega,.inr ⟨a,b+y',rfl,ha,.join e hb h2⟩⟩
   ·have:=hb.nonneg;have:=ha2.nonneg
    exact⟨a+b2,by omega,.inr ⟨a,b2,rfl,ha,hb2⟩⟩
  ·have e:c=m:=by omega
   subst e;rcases h1 with h1|⟨a,b,rfl,ha,hb⟩ <;> rcases h2 with h2|⟨a2,b2,rfl,ha2,hb2⟩
   ·exact⟨x'+y',by omega,.inr ⟨x',y',rfl,h1,h2⟩⟩
   ·have:=ha2.nonneg
    exact⟨x'+b2,by omega,.inr ⟨x',b2,rfl,h1,hb2⟩⟩
   ·have:=hb.nonneg
    exact⟨a+y',by omega,.inr ⟨a,y',rfl,ha,h2⟩⟩
   ·have:=hb.nonneg;have:=ha2.nonneg
    exact⟨a+b2,by omega,.inr ⟨a,b2,rfl,ha,hb2⟩⟩
end
def Zd(E:Mx)(m i k d:Int):Prop:=(d = -1∧∀L,¬WM E m i k L)∨(0≤d∧WM E m i k d∧∀L,WM E m i k L→d≤L)
theorem Zd.zero{E:Mx}(hE:∀i k,E i k = -1∨0≤E i k){i k:Int}(hi:V3 i)(hk:V3 k):Zd E 0 i k (E i k):=by
 have hb:∀ {i k L:Int},WM E 0 i k L→L=E i k:=fun {i k L} h=>by
  induction h with
  | base=>rfl
  | join hc h1 h2=>have:=h1.rng.2;unfold V3 at this;omega
 rcases hE i k with h|h
 ·refine .inl ⟨h,fun L hL=>?_⟩
  have h1:=hb hL
  have h2:=hL.nonneg
  omega
 ·exact .inr ⟨h,.base hi hk h,fun L hL=>by rw[hb hL];exact Int.le_refl _⟩
def FW(E D:Mx)(m i k:Int):Prop:=∀a b,V3 a→V3 b→if a<i∨(a=i∧b<k) then Zd E (m+1) a b (D a b) else Zd E m a b (D a b)
def Y8(D:Mx)(a b v:Int):Mx:=fun x y=>if x=a∧y=b then v else D x y
def AD(D:Mx)(m i k:Int):Bool:=(decide (0≤D i m)&&decide (0≤D m k))&&(decide (D i k<0)||decide (D i m+D m k<D i k))
section
variable {E D:Mx}{m i k:Int}
theorem FW.either(h:FW E D m i k){a b:Int}(ha:V3 a)(hb:V3 b):(D a b = -1∨0≤D a b)∧(0≤D a b→WM E (m+1) a b (D a b))∧(∀L,WM E m a b L→0≤D a b∧D a b≤L):=by
 have h1:=h a b ha hb
 split at h1
 ·rcases h1 with⟨h2,h3⟩|⟨h2,h3,h4⟩
  ·exact⟨.inl h2,fun h5=>by omega,fun L hL=>absurd hL.more (h3 L)⟩
  ·exact⟨.inr h2,fun _=>h3,fun L hL=>⟨h2,h4 L hL.more⟩⟩
 ·rcases h1 with⟨h2,h3⟩|⟨h2,h3,h4⟩
  ·exact⟨.inl h2,fun h5=>by omega,fun L hL=>absurd hL (h3 L)⟩
  ·exact⟨.inr h2,fun _=>h3.more,fun L hL=>⟨h2,h4 L hL⟩⟩
theorem FW.next(h:FW E D m i k)(hm:V3 m)(hi:V3 i)(hk:V3 k):FW E (if AD D m i k=true then Y8 D i k (D i m+D m k) else D) m i (k+1):=by
 intro a b ha hb;by_cases e:a=i∧b=k
 ·obtain⟨rfl,rfl⟩:=e;rw[if_pos (by omega)]
  obtain⟨p1,p2,p3⟩:=h.either hi hm
  obtain⟨q1,q2,q3⟩:=h.either hm hk
  have h0:=h a b hi hk
  rw[if_neg (by omega)]at h0
  by_cases c:AD D m a b=true
  ·rw[if_pos c];unfold AD at c;simp only[Bool.and_eq_true,Bool.or_eq_true,decide_eq_true_eq]at c
   obtain⟨⟨c1,c2⟩,c3⟩:=c;have hv:Y8 D a b (D a m+D m b) a b=D a m+D m b:=by unfold Y8;rw[if_pos ⟨rfl,rfl⟩]
   rw[hv];refine .inr ⟨by omega,.join (by omega) (p2 c1) (q2 c2),fun L hL=>?_⟩
   obtain⟨L',hL',hs⟩:=hL.step;rcases hs with hs|⟨x,y,rfl,hx,hy⟩
   ·rcases h0 with⟨g1,g2⟩|⟨g1,g2,g3⟩
    ·exact absurd hs (g2 L')
    ·have:=g3 L' hs;omega
   ·have:=p3 x hx;have:=q3 y hy;omega
  ·rw[if_neg c];unfold AD at c;simp only[Bool.and_eq_true,Bool.or_eq_true,decide_eq_true_eq]at c
   rcases h0 with⟨g1,g2⟩|⟨g1,g2,g3⟩
   ·refine .inl ⟨g1,fun L hL=>?_⟩
    obtain⟨L',hL',hs⟩:=hL.step;rcases hs with hs|⟨x,y,rfl,hx,hy⟩
    ·exact g2 L' hs
    ·have:=p3 x hx;have:=q3 y hy
     exact c ⟨⟨by omega,by omega⟩,.inl (by omega)⟩
   ·refine .inr ⟨g1,g2.more,fun L hL=>?_⟩
    obtain⟨L',hL',hs⟩:=hL.step;rcases hs with hs|⟨x,y,rfl,hx,hy⟩
    ·have:=g3 L' hs;omega
    ·have:=p3 x hx;have:=q3 y hy
     have:¬D a m+D m b<D a b:=fun hlt=>c ⟨⟨by omega,by omega⟩,.inr hlt⟩
     omega
 ·have hv:(if AD D m i k=true then Y8 D i k (D i m+D m k) else D) a b=D a b:=by
   split
   ·unfold Y8;rw[if_neg e]
   ·rfl
  rw[hv];have h0:=h a b ha hb
  by_cases c:a<i∨(a=i∧b<k)
  ·rw[if_pos c]at h0;rw[if_pos (by omega)];exact h0
  ·rw[if_neg c]at h0;rw[if_neg (by omega)];exact h0
theorem FW.row(h:FW E D m i 64):FW E D m (i+1) 0:=fun a b ha hb=>by
 have h0:=h a b ha hb
 unfold V3 at hb;by_cases c:a<i∨(a=i∧b<64)
 ·rw[if_pos c]at h0;rw[if_pos (by omega)];exact h0
 ·rw[if_neg c]at h0;rw[if_neg (by omega)];exact h0
theorem FW.phase(h:FW E D m 64 0):FW E D (m+1) 0 0:=fun a b ha hb=>by
 have h0:=h a b ha hb
 unfold V3 at ha hb;rw[if_pos (by omega)]at h0
 rw[if_neg (by omega)]
 exact h0
end
structure DR(ls:List E9)(E:Mx):Prop where
 neg:∀i k,E i k = -1∨0≤E i k
 self:∀i,V3 i→E i i=0
 link:∀i k,V3 i→V3 k→i≠k→0≤E i k→∃l∈ls,((l.A=i∧l.B=k)∨(l.A=k∧l.B=i))∧E i k=l.Latency
 has:∀l∈ls,E l.A l.B=l.Latency∧E l.B l.A=l.Latency
section
variable {ls:List E9}{E:Mx}{m i k L:Int}
theorem DR.nbr(h:DR ls E){q:Pl}(hq:q∈G0 ls i):E i q.1=q.2:=by
 obtain⟨l,hl,hq⟩:=List.mem_flatMap.1 hq
 have:=h.has l hl
 rcases List.mem_append.1 hq with h1|h1 <;> split at h1 <;> simp at h1
 ·rename_i e;subst e;rw[h1];exact this.1
 ·rename_i e;subst e;rw[h1];exact this.2
theorem DR.way(h:DR ls E)(hw:WM E m i k L):Way (G0 ls) i k L:=by
 induction hw with
 | @base i k hi hk h0=>
  by_cases e:i=k
  ·subst e;rw[h.self i hi];exact .refl
  ·obtain⟨l,hl,hc,hE⟩:=h.link i k hi hk e h0
   rw[hE];rcases hc with⟨rfl,rfl⟩|⟨rfl,rfl⟩
   ·have:=(Way.refl (nb:=G0 ls) (s:=l.A)).step (FY hl)
    simpa using this
   ·have:=(Way.refl (nb:=G0 ls) (s:=l.B)).step (FU hl)
    simpa using this
 | join _ _ _ h1 h2=>exact h1.trans h2
theorem DR.walk(h:DR ls E)(hL:T8 ls)(hi:V3 i)(hw:Way (G0 ls) i k L):WM E 64 i k L:=by
 induction hw with
 | refl=>
  have:=WM.base (E:=E) (m:=64) hi hi (by rw[h.self i hi];omega)
  rwa [h.self i hi]at this
 | @step x d q hx hq ih=>
  have hxr:=ih.rng.2
  have hr:=(Ci hL hi).rng x q hq
  have he:=h.nbr hq
  have h2:=WM.base (E:=E) (m:=64) hxr ⟨hr.1,hr.2.1⟩ (by rw[he];exact hr.2.2.1)
  rw[he]at h2;exact .join hxr.2 ih h2
theorem Zd.dst(h:DR ls E)(hL:T8 ls)(hi:V3 i){d:Int}(ho:Zd E 64 i k d):S2 (G0 ls) i k=d:=by
 refine UA.eq ?_
 rcases ho with⟨h1,h2⟩|⟨h1,h2,h3⟩
 ·exact .inr ⟨h1,fun d' hw=>h2 d' (h.walk hL hi hw)⟩
 ·exact .inl ⟨h1,h.way h2,fun d' hw=>h3 d' (h.walk hL hi hw)⟩
theorem WM.short(h:DR ls E)(hL:T8 ls)(hw:WM E m i k L):∃L',WM E m i k L'∧L'≤63000000:=by
 obtain⟨hi,hk⟩:=hw.rng;let ins:Int→Bool:=fun x=>decide (x<m)||decide (x=i)||decide (x=k)
 let ls':=ls.filter fun l=>ins l.A&&ins l.B
 have hL':T8 ls':=⟨Nat.le_trans (List.length_filter_le _ _) hL.1,fun l hl=>hL.2 l (List.mem_filter.1 hl).1⟩
 have hway:∀ {a b d:Int},WM E m a b d→ins a=true→ins b=true→Way (G0 ls') a b d:=fun {a b d} hw=>by
  induction hw with
  | @base a b ha hb h0=>
   intro h1 h2;by_cases e:a=b
   ·subst e;rw[h.self a ha];exact .refl
   ·obtain⟨l,hl,hc,hE⟩:=h.link a b ha hb e h0
    rw[hE];have hl':l∈ls':=List.mem_filter.2 ⟨hl,by rcases hc with⟨rfl,rfl⟩|⟨rfl,rfl⟩ <;> simp only[h1,h2,Bool.and_true]⟩
    rcases hc with⟨rfl,rfl⟩|⟨rfl,rfl⟩
    ·have:=(Way.refl (nb:=G0 ls') (s:=l.A)).step (FY hl')
     simpa using this
    ·have:=(Way.refl (nb:=G0 ls') (s:=l.B)).step (FU hl')
     simpa using this
  | @join a c b x y hc _ _ ih1 ih2=>
   intro h1 h2;have hci:ins c=true:=by show (decide _||decide _||decide _)=true;rw[decide_eq_true hc];simp
   exact(ih1 h1 hci).trans (ih2 hci h2)
 have hii:ins i=true:=by show (decide _||decide _||decide _)=true;simp
 have hkk:ins k=true:=by show (decide _||decide _||decide _)=true;simp
 have hwk:=hway hw hii hkk
 have key:∀ {x d:Int},Way (G0 ls') i x d→(∃L',L'≤d∧WM E m i x L')∨∃L',L'≤d∧WM E m i k L':=fun {x d} hx=>by
  induction hx with
  | refl=>
   have:=WM.base (E:=E) (m:=m) hi hi (by rw[h.self i hi];omega)
   rw[h.self i hi]at this;exact .inl ⟨0,Int.le_refl _,this⟩
  | @step x d q hx hq ih=>
   have hr:=(Ci hL' hi).rng x q hq
   rcases ih with⟨L',h1,h2⟩|⟨L',h1,h2⟩
   ·have hq2:q∈G0 ls x:=by
     obtain⟨l,hl,hq⟩:=List.mem_flatMap.1 hq
     exact List.mem_flatMap.2 ⟨l,(List.mem_filter.1 hl).1,hq⟩
    have he:=h.nbr hq2
    have hxr:=h2.rng.2
    have h3:=WM.base (E:=E) (m:=m) hxr ⟨hr.1,hr.2.1⟩ (by rw[he];exact hr.2.2.1)
    rw[he]at h3;have hxin:ins x=true:=by
     obtain⟨l,hl,hq⟩:=List.mem_flatMap.1 hq
     have hl2:=(List.mem_filter.1 hl).2
     rw[Bool.and_eq_true]at hl2;rcases List.mem_append.1 hq with g|g <;> split at g <;> simp at g
     ·rename_i e;rw[←e];exact hl2.1
     ·rename_i e;rw[←e];exact hl2.2
    have hxc:x<m∨x=i∨x=k:=by
     have:(decide (x<m)||decide (x=i)||decide (x=k))=true:=hxin
     simp only[Bool.or_eq_true,decide_eq_true_eq]at this;omega
    rcases hxc with e|e|e
    ·exact .inl ⟨L'+q.2,by omega,.join e h2 h3⟩
    ·rw[e]at h3;have:=h2.nonneg
     exact .inl ⟨q.2,by omega,h3⟩
    ·rw[e]at h2;exact .inr ⟨L',by omega,h2⟩
   ·exact .inr ⟨L',by omega,h2⟩
 have hd:=Fa (Ci hL' hi) k
 have hb:=(MO (x:=k) hL' hi).2
 rcases hd with⟨-,h1,-⟩|⟨-,h1⟩
 ·rcases key h1 with⟨L',g1,g2⟩|⟨L',g1,g2⟩ <;> exact⟨L',g2,by omega⟩
 ·exact absurd hwk (h1 _)
theorem FW.bound(h:DR ls E)(hL:T8 ls){D:Mx}(hF:FW E D m i k){a b:Int}(ha:V3 a)(hb:V3 b):-1≤D a b∧D a b≤63000000:=by
 have h1:=hF a b ha hb
 split at h1 <;> rcases h1 with⟨h2,h3⟩|⟨h2,h3,h4⟩
 ·omega
 ·obtain⟨L',g1,g2⟩:=h3.short h hL
  have:=h4 L' g1;omega
 ·omega
 ·obtain⟨L',g1,g2⟩:=h3.short h hL
  have:=h4 L' g1;omega
end
def CS(D:Mx)(l:E9):Mx:=Y8 (Y8 D l.A l.B l.Latency) l.B l.A l.Latency
def N9(ls:List E9):Mx:=ls.foldl CS fun i k=>if i=k then 0 else -1
theorem FV{ls:List E9}{k:Nat}{l:E9}(h:ls[k]? = some l):CS (N9 (ls.take k)) l=N9 (ls.take (k+1)):=by
 unfold N9;rw[D4 h,List.foldl_append];rfl
theorem KM:∀(n:Nat) {ls:List E9},ls.length=n→(∀l∈ls,l.A≠l.B∧0≤l.Latency)→(ls.map Q3).Nodup→DR ls (N9 ls)
 | 0,ls,hn,_,_=>by
  have:ls=[]:=List.eq_nil_of_length_eq_zero hn
  subst this;refine⟨fun i k=>?_,fun i _=>by unfold N9;simp,fun i k _ _ hne h0=>?_,by simp⟩
  ·unfold N9;by_cases e:i=k <;> simp[e]
  ·unfold N9 at h0;simp[hne]at h0
 | n+1,ls,hn,hA,hk=>by
  obtain⟨l,hl⟩:=B2 (l:=ls) (k:=n) (by omega)
  have hsp:ls=ls.take n++[l]:=by rw[←D4 hl,List.take_of_length_le (by omega)]
  have hlm:=List.mem_of_getElem? hl
  have ih:=KM n (ls:=ls.take n) (by simp;omega) (fun x hx=>hA x (List.mem_of_mem_take hx)) (hk.sublist ((List.take_sublist _ _).map _))
  have hD:N9 ls=CS (N9 (ls.take n)) l:=by rw[FV hl,List.take_of_length_le (by omega)]
  have hAB:=hA l hlm
  have hfresh:∀x∈ls.take n,Q3 x≠Q3 l:=fun x hx e=>by
   rw[hsp,List.map_append,List.nodup_append]at hk;exact hk.2.2 _ (List.mem_map_of_mem hx) _ (by simp) e
  have val:∀i k,N9 ls i k=if (i=l.B∧k=l.A)∨(i=l.A∧k=l.B) then l.Latency else N9 (ls.take n) i k:=fun i k=>by
   rw[hD];unfold CS Y8;by_cases e1:i=l.B∧k=l.A
   ·rw[if_pos e1,if_pos (.inl e1)]
   ·rw[if_neg e1];by_cases e2:i=l.A∧k=l.B
    ·rw[if_pos e2,if_pos (.inr e2)]
    ·rw[if_neg e2,if_neg (by rintro (h|h) <;> contradiction)]
  refine⟨fun i k=>?_,fun i hi=>?_,fun i k hi hk' hne h0=>?_,fun x hx=>?_⟩
  ·rw[val];split
   ·exact .inr hAB.2
   ·exact ih.neg i k
  ·rw[val,if_neg (by rintro (⟨h1,h2⟩|⟨h1,h2⟩) <;> exact hAB.1 (by omega))]
   exact ih.self i hi
  ·rw[val]at h0 ⊢
   split at h0
   ·rename_i e
    rw[if_pos e];exact⟨l,hlm,by omega,rfl⟩
   ·rename_i e
    rw[if_neg e];obtain⟨x,hx,h1,h2⟩:=ih.link i k hi hk' hne h0
    exact⟨x,List.mem_of_mem_take hx,h1,h2⟩
  ·rw[val,val];rw[hsp]at hx;rcases List.mem_append.1 hx with hx|hx
   ·have hne:=hfresh x hx
    have h1:¬((x.A=l.B∧x.B=l.A)∨(x.A=l.A∧x.B=l.B)):=fun e=>hne (by
     unfold Q3;rcases e with⟨e1,e2⟩|⟨e1,e2⟩
     ·rw[e1,e2];simp only[Prod.mk.injEq];omega
     ·rw[e1,e2])
    have h2:¬((x.B=l.B∧x.A=l.A)∨(x.B=l.A∧x.A=l.B)):=fun e=>h1 (by omega)
    rw[if_neg h1,if_neg h2];exact ih.has x hx
   ·have:=List.mem_singleton.1 hx
    subst this;rw[if_pos (.inr ⟨rfl,rfl⟩),if_pos (.inl ⟨rfl,rfl⟩)];exact⟨rfl,rfl⟩
def BY:Int:=1152921504606846976
def fM(D:Mx):Mx:=fun a b=>if D a b<0 then BY else D a b
theorem WK{D:Mx}{i k v:Int}(hv:0≤v):Y8 (fM D) i k v=fM (Y8 D i k v):=by
 funext a b
 unfold fM Y8;by_cases e:a=i∧b=k
 ·rw[if_pos e,if_pos e,if_neg (by omega)]
 ·rw[if_neg e,if_neg e]
theorem Fo{D:Mx}{a b B:Int}(h:-1≤D a b∧D a b≤B)(hB:B≤BY):0≤fM D a b∧fM D a b≤BY:=by
 unfold fM BY at *
 split <;> omega
theorem Yu{D:Mx}{m i k:Int}(h1:-1≤D i m∧D i m≤1000000000)(h2:-1≤D m k∧D m k≤1000000000)(h3:-1≤D i k∧D i k≤1000000000) :
  Y8 (fM D) i k (min (fM D i k) (fM D i m+fM D m k))=fM (if AD D m i k=true then Y8 D i k (D i m+D m k) else D):=by
 funext a b
 by_cases e:a=i∧b=k
 ·obtain⟨rfl,rfl⟩:=e;have hl:Y8 (fM D) a b (min (fM D a b) (fM D a m+fM D m b)) a b=min (fM D a b) (fM D a m+fM D m b):=by unfold Y8;rw[if_pos ⟨rfl,rfl⟩]
  rw[hl];by_cases c:AD D m a b=true
  ·rw[if_pos c];unfold AD at c;simp only[Bool.and_eq_true,Bool.or_eq_true,decide_eq_true_eq]at c
   have hr:fM (Y8 D a b (D a m+D m b)) a b=D a m+D m b:=by
    have e2:Y8 D a b (D a m+D m b) a b=D a m+D m b:=by unfold Y8;rw[if_pos ⟨rfl,rfl⟩]
    unfold fM;rw[e2,if_neg (by omega)]
   rw[hr];unfold fM BY;rw[if_neg (show ¬D a m<0 by omega),if_neg (show ¬D m b<0 by omega)]
   split <;> omega
  ·rw[if_neg c];unfold AD at c;simp only[Bool.and_eq_true,Bool.or_eq_true,decide_eq_true_eq]at c
   unfold fM BY;split <;> split <;> split <;> omega
 ·have hl:Y8 (fM D) i k (min (fM D i k) (fM D i m+fM D m k)) a b=fM D a b:=by unfold Y8;rw[if_neg e]
  rw[hl];have e2:(if AD D m i k=true then Y8 D i k (D i m+D m k) else D) a b=D a b:=by
   split
   ·unfold Y8;rw[if_neg e]
   ·rfl
  unfold fM;rw[e2]
end Go.Proofs.YtlmiakjbogojgaaGreatDoor
end
section
open Go
namespace Mk
def YI(w:World):C8:=⟨fun _=>none,w.os,w.tape,w.output,0⟩
theorem bS{Γ:C8}{S:List B6}{w w1:World}{i b:Nat}{l:List (Value×Value)}(hw:Wd Γ S w)(hi:S[i]? = some (.mp b l))(hk:w1.heap[b]? = w.heap[b]?):Wd (YI w1) [.mp b l] w1:=by
 obtain⟨en,clock,h1,h2,h6,h7⟩:=hw.at_mp hi
 have h1':w1.heap[b]? = some (.map en clock):=hk.trans h1
 have hr:(B6.mp b l).holds (YI w1).imm [b] (hp w1):=by
  unfold B6.mp;exact⟨rfl,en,clock,h1',h2,h6,h7⟩
 refine⟨rfl,rfl,rfl,Nat.zero_le _,fun b o h=>(by cases h),[[b]],⟨hr,trivial⟩,by simp,fun x hx=>?_⟩
 simp only[List.flatten_cons,List.flatten_nil,List.append_nil,List.mem_singleton]at hx
 subst hx;exact⟨(Array.getElem?_eq_some_iff.1 h1').1,rfl⟩
section
variable {P:Program}{Γ:C8}{S:List B6}{w:World}{E n c g i:Nat}{α:Type}[Inhabited α]{f:α→Value}
theorem Bo(d:Array α):Go.Sort.flatK (fun x=>[f x]) 1 d=d.map f:=by
 refine Array.ext (by simp) fun i h1 h2=>?_
 have h3:i<d.size*1:=by simpa using h1
 rw[←getElem!_pos _ i h1,Go.Sort.get_flatK _ _ _ _ h3];have h4:i<d.size:=by omega
 have e1:i / 1=i:=Nat.div_one i
 have e2:i%1=0:=Nat.mod_one i
 rw[e1,e2,getElem!_pos d i h4];simp
theorem l6(w:World)(g m:Nat)(dk:Array α)(os:Array Obj):Go.Proofs.sortWorld f w g 0 m dk os=Go.Proofs.sortWorldK (fun x=>[f x]) 1 w g 0 m dk os:=by
 unfold Go.Proofs.sortWorld Go.Proofs.sortWorldK Go.Sort.putRowK Go.Sort.putRow;congr 2
 funext cs
 refine Array.ext (by simp[Go.Sort.putCells]) fun i h1 h2=>?_
 simp only[Go.Sort.putCells,Array.getElem_mapIdx,Bo,Array.size_map,Nat.zero_le,Nat.zero_add,true_and,Nat.sub_zero,id]
 by_cases h:i<dk.size
 ·rw[if_pos h,if_pos h,getElem!_pos dk i h,getElem!_pos (dk.map f) i (by simpa using h)];simp
 ·rw[if_neg h,if_neg h]
end
attribute [local irreducible] Calls
section
variable {P:Program}{n:Nat}{ops:List Oper}{Γ:C8}{K:List B6}{wr tc stab:List (List Nat)}{Q:Fr→World→Prop}{i:Nat}{rest:List Oper}{ρ:Fr}{M:Nat→Fr→List B6}
variable {d:Option Tmp}{ty:TypeId}{pos:String}{es:Array Edge}{f:Nat}{args:List Operand}{tys:Array TypeId}{vs:List Value}{v:Value}
variable {x y:Operand}{T:TypeId}
end
theorem Qz{α:Type}{l l':List α}(h:∀(_:DecidableEq α) (a:α),l.count a=l'.count a):l.Perm l':=by
 classical
 exact List.perm_iff_count.2 fun a=>h _ a
theorem T1{l l':List B6}(h:∀(_:DecidableEq B6) (a:B6),l.count a=l'.count a:=by intro _ a;simp only[gk,ZE,List.getElem?_cons_zero,List.getElem?_cons_succ,List.eraseIdx_cons_succ,List.eraseIdx_cons_zero,List.cons_append,List.nil_append,List.count_append,List.count_cons,List.count_nil,List.map_cons,List.map_nil,Nat.add_zero,Nat.zero_add];ac_rfl):l.Perm l':=Qz h
end Mk
end
section
open Go
namespace Mk
theorem F5.u{want:Bool}:F5 undef want false:=by unfold F5;rfl
section
variable {P:Program}{n:Nat}{ops:List Oper}{Γ:C8}{K:List B6}{Q:Fr→World→Prop}{ρ:Fr}{rest:List Oper}{wr tc stab:List (List Nat)}{i:Nat}{M:Nat→Fr→List B6}
variable {ty:TypeId}{pos:String}{es:Array Edge}
end
section
variable {P:Program}{ρ:Fr}{w:World}{d:Option Tmp}{T U ty:TypeId}{pos:String}{es:Array Edge}{x y:Operand}{g:Option (Nat×Bool)}
theorem UD(hT:P.underlying T=some .bool){a b:Bool}(hx:ev ρ x=.bool a)(hy:ev ρ y=.bool b):Yields P ⟨d,.binOp .neq T x y U,ty,pos,es,g⟩ ρ w (.bool (!(a == b))):=by
 unfold Yields;simp[execOp,go_sem,hx,hy,hT]
end
attribute [local irreducible] Calls
class gG(Γ:C8)(b:Nat)(cs:outParam (Array Value))(E:outParam TypeId):Prop where h:Γ.imm b=some (.cells cs E (0,0))
theorem Wd.freezeB{Γ:C8}{S:List B6}{w:World}{b:Nat}{cs:Array Value}{E:TypeId}(h:Wd Γ (.blk b (.cells cs E)::S) w):∃Γ',Γ.le Γ'∧gG Γ' b cs E∧Wd Γ' S w:=by
 obtain⟨bss,h1,h2,h3⟩:=h.own;cases bss with
 | nil=>exact h1.elim
 | cons bs bss=>
  obtain⟨hr,h1⟩:=h1;obtain⟨e1,e2⟩:bs=[b]∧hp w b=some (.cells cs E):=by unfold B6.blk at hr;exact hr
  subst e1;have hg:=h3 b (by simp)
  have hnd:b∉bss.flatten∧bss.flatten.Nodup:=by simpa using h2
  have hle:∀x o,Γ.imm x=some o→(fun x=>if x=b then some (Obj.cells cs E (0,0)) else Γ.imm x) x=some o:=fun x o hx=>by
   show (if x=b then _ else _)=_
   rw[if_neg (fun hh=>by subst hh;rw[hg.2]at hx;cases hx)];exact hx
  refine⟨{ Γ with imm:=fun x=>if x=b then some (.cells cs E (0,0)) else Γ.imm x },⟨hle,rfl,rfl,rfl,rfl⟩,⟨if_pos rfl⟩,h.os,h.tape,h.out,h.dr,fun x o hb=>?_,bss,Holds.loc hle S bss (fun _ _=>rfl) h1,hnd.2,fun x hb=>⟨(h3 x (by simp[hb])).1,?_⟩⟩
  ·have hb:(if x=b then some (Obj.cells cs E (0,0)) else Γ.imm x)=some o:=hb
   by_cases hbg:x=b
   ·subst hbg;rw[if_pos rfl]at hb;cases hb
    exact e2
   ·rw[if_neg hbg]at hb;exact h.imm x o hb
  ·show (if x=b then _ else _)=none
   rw[if_neg (fun hh=>by subst hh;exact hnd.1 hb)]
   exact(h3 x (by simp[hb])).2
section
variable {P:Program}{Γ:C8}{S:List B6}{ρ:Fr}{w:World}{d:Option Tmp}{T ty:TypeId}{pos:String}{es:Array Edge}{g:Option (Nat×Bool)}{x:Operand}
theorem XP{b k:Nat}{v:Value}{cs:Array Value}{E:TypeId}[TS P T][hB:gG Γ b cs E](hw:Wd Γ S w)(hx:ev ρ x=.pointer (some ⟨b,k,none⟩))(hv:cs[k]? = some v) :
  Yields P ⟨d,.load T x,ty,pos,es,g⟩ ρ w v:=Gl hx (cell_of (hw.imm _ _ hB.h) hv)
end
section
variable {P:Program}{n:Nat}{ops:List Oper}{Γ:C8}{K:List B6}{wr tc stab:List (List Nat)}{Q:Fr→World→Prop}{i:Nat}{rest:List Oper}{ρ:Fr}{M:Nat→Fr→List B6}{T ty:TypeId}{pos:String}{es:Array Edge}{x:Operand}
end
section
variable {P:Program}{n:Nat}{ops:List Oper}{Γ:C8}{K:List B6}{wr tc stab:List (List Nat)}{Q:Fr→World→Prop}{i:Nat}{rest:List Oper}{ρ:Fr}{M:Nat→Fr→List B6}
variable {d:Option Tmp}{ty:TypeId}{pos:String}{es:Array Edge}{f:Nat}{args:List Operand}{tys:Array TypeId}{v:Value}
theorem dz{c:Nat}{F:Fr→List B6}(vs:Fr→List Value)[C7 P f]
  (hs:∀g w Y,Wd Γ (F (E8 (stab.getD c []) g D5)++(K++Y)) w→Calls P f (vs (E8 (stab.getD c []) g D5)).toArray w fun e w'=>e=.returned v∧Wd Γ (F (E8 (stab.getD c []) g D5)++(K++Y)) w')
  (h:MSw (mV P n ops Γ K wr tc stab) Q (i+1) rest ⟨D6 ρ d v,M⟩) (hM:M c=F:=by first|exact C6|exact VA|exact CX|exact((A9 (by decide)).trans C6)|exact rfl) (hw0:wr.getD i []=[]:=by exact rfl) (ht:tc.getD i []=[c]:=by exact rfl) (ho:FE tc stab i d=true:=by exact rfl) (ha:∀g,EvL (E8 stab.flatten g ρ) args (vs (E8 (stab.getD c []) g D5)):=by intro g;exact AB) :
  MSw (mV P n ops Γ K wr tc stab) Q i (⟨d,.call { callee:=.value (.func f),args:=args.toArray,argTypes:=tys },ty,pos,es,none⟩::rest) ⟨ρ,M⟩:=by
 refine mC (v:=v) (fun Y w g hw=>?_) hw0 rfl ho h
 rw[Q7 ht,hM]at hw ⊢
 exact Ba (ha g).eqA ((hs g w Y hw.swapApp).mono fun e w' ⟨h1,h2⟩=>⟨v,h1,rfl,h2.swapApp⟩)
end
def FC(E sz:Nat)(L:List (Value×List (List Value))):List B6:=L.map fun p=>B6.own p.1 E sz p.2
section
variable {Γ:C8}{S:List B6}{w:World}{E sz k:Nat}{L:List (Value×List (List Value))}{p q:Value×List (List Value)}
theorem Nc(h:L[k]? = some p):(FC E sz L).Perm (B6.own p.1 E sz p.2::FC E sz (L.eraseIdx k)):=(perm_pull h).map _ where
 perm_pull:∀ {L:List (Value×List (List Value))} {k:Nat} {p},L[k]? = some p→L.Perm (p::L.eraseIdx k)
 | [],_,_,h=>by simp at h
 | x::L,0,p,h=>by simp at h;subst h;exact .refl _
 | x::L,k+1,p,h=>by
  have:=perm_pull (L:=L) (k:=k) (p:=p) (by simpa using h)
  exact(this.cons x).trans (.swap _ _ _)
end
theorem Wd.rot{Γ:C8}{A B:List B6}{r:B6}{w:World}(h:Wd Γ (r::(A++B)) w):Wd Γ (A++(r::B)) w:=h.perm List.perm_middle.symm
theorem Wd.unrot{Γ:C8}{A B:List B6}{r:B6}{w:World}(h:Wd Γ (A++(r::B)) w):Wd Γ (r::(A++B)) w:=h.perm List.perm_middle
end Mk
end
section
open Go Mk
namespace Go.Proofs.YtlmiakjbogojgaaGreatDoor
set_option maxHeartbeats 16000000
attribute [local irreducible] Calls
def eZ(v:Int):Bool:=decide (0<v)&&decide (Z1 .and .u64 v (IntKind.u64.wrap (v-1))=0)
theorem JI:∀(n:Nat),0<n→n &&& (n-1)=0→∃e,n=2 ^ e:=by
 intro n;induction n using Nat.strongRecOn with
 | ind n ih=>
  intro h0 h;have h1:(n / 2) &&& ((n-1) / 2)=0:=by rw[←Nat.and_div_two,h]
  by_cases e:n%2=0
  ·have h2:(n-1) / 2=n / 2-1:=by omega
   rw[h2]at h1;obtain⟨e1,he⟩:=ih (n / 2) (by omega) (by omega) h1
   exact⟨e1+1,by rw[Nat.pow_succ,←he];omega⟩
  ·have h2:(n-1) / 2=n / 2:=by omega
   rw[h2,Nat.and_self]at h1;exact⟨0,by omega⟩
def Dv(n:Int):Prop:=0≤n∧n<18446744073709551616
theorem Ym{a b:Int}(ha:Dv a)(hb:Dv b):Z1 .and .u64 a b=((a.toNat &&& b.toNat:Nat):Int):=by
 unfold Dv at ha hb;have h1:(BitVec.ofInt 64 a).toNat=a.toNat:=by rw[BitVec.toNat_ofInt];omega
 have h2:(BitVec.ofInt 64 b).toNat=b.toNat:=by rw[BitVec.toNat_ofInt];omega
 have h3:(BitVec.ofInt 64 a &&& BitVec.ofInt 64 b).toNat=a.toNat &&& b.toNat:=by rw[BitVec.toNat_and,h1,h2]
 have h4:a.toNat &&& b.toNat≤a.toNat:=Nat.and_le_left
 show IntKind.u64.wrap ((BitVec.ofInt 64 a &&& BitVec.ofInt 64 b).toNat:Nat)=_
 rw[h3];simp[IntKind.wrap,IntKind.bits,IntKind.signed]
 omega
theorem WG{b s:Int}(hb:Dv b)(hs:4096≤s∧s≤1099511627776) :
  (eZ s&&decide (b.tmod s=0))=(decide (Z1 .and .u64 s (IntKind.u64.wrap (s-1))=0)&&decide (Z1 .and .u64 b (IntKind.u64.wrap (s-1))=0)):=by
 have hw:IntKind.u64.wrap (s-1)=s-1:=by simp[IntKind.wrap,IntKind.bits,IntKind.signed];omega
 have hs1:Dv s:=by unfold Dv;omega
 have hs2:Dv (s-1):=by unfold Dv;omega
 unfold eZ;rw[hw,Ym hs1 hs2,Ym hb hs2,decide_eq_true (show 0<s by omega),Bool.true_and]
 by_cases e:((s.toNat &&& (s-1).toNat:Nat):Int)=0
 ·rw[decide_eq_true e,Bool.true_and,Bool.true_and];have e0:s.toNat &&& (s.toNat-1)=0:=by
   have:(s-1).toNat=s.toNat-1:=by omega
   rw[this]at e;omega
  obtain⟨p,hp⟩:=JI s.toNat (by omega) e0
  have h1:(s-1).toNat=2 ^ p-1:=by omega
  rw[h1,Nat.and_two_pow_sub_one_eq_mod,←hp];unfold Dv at hb;rw[Int.tmod_eq_emod_of_nonneg hb.1];congr 1
  apply propext
  have h2:b%s=((b.toNat%s.toNat:Nat):Int):=by
   rw[Int.natCast_emod];congr 1 <;> omega
  rw[h2]
 ·rw[decide_eq_false e,Bool.false_and,Bool.false_and]
def Fv(H:J6):Prop:=∀x∈H.Mems,Dv x.Base
class fm(H:J6):Prop where h:Fv H
end Go.Proofs.YtlmiakjbogojgaaGreatDoor
end
section
open Go Mk
namespace Go.Proofs.YtlmiakjbogojgaaGreatDoor
def gq(t:Int→Int)(a b:Int):Int:=Ch (cI (t b) (t a)) (cI a b)
theorem cW{a b:Int}:cI a b<0↔a<b:=by unfold cI;split <;> (try split) <;> omega
def fJ(t:Int→Int)(l:List Int):List Int:=l.mergeSort fun x y=>!(Go.Proofs.ltOf (gq t)) y x
section
variable (far:Int→Int→Int)(cost:Int)(ch:Int→List Int)
def XW(cost:Int)(t:Int→Int):Nat→Int→List Int→Int
 | _,m,[]=>m
 | i,m,c::l=>XW cost t (i+1) (max m (((i:Int)+1)*cost+t c)) l
def hF:Nat→Int→Int
 | 0,_=>0
 | k+1,c=>XW cost (fun d=>far c d+hF k d) 0 0 (fJ (fun d=>far c d+hF k d) (ch c))
def hh(c:Int):Int:=hF far cost ch 4 c
end
section
variable {far:Int→Int→Int}{cost:Int}{ch:Int→List Int}
end
set_option maxHeartbeats 8000000
attribute [local irreducible] Calls
def Gv(l:List F0)(id:Int):Int:=match l.findIdx? (fun x=>decide (x.ID=id)) with|some k=>k|none=>-1
def H0(l:List F0)(id:Int):F0×Bool:=match l.find? (fun x=>decide (x.ID=id)) with|some c=>(c,true)|none=>(⟨0,0,0,0⟩,false)
theorem Ht{l:List F0}{id:Int}{k:Nat}{x:F0}(hx:l[k]? = some x)(he:x.ID=id)(hl:∀j y,j<k→l[j]? = some y→y.ID≠id):Gv l id=k∧H0 l id=(x,true):=by
 obtain⟨hk,hxk⟩:=List.getElem?_eq_some_iff.1 hx
 have h1:l.findIdx? (fun x=>decide (x.ID=id))=some k:=by
  rw[List.findIdx?_eq_some_iff_getElem];refine⟨hk,by rw[hxk];simpa using he,fun j hj=>?_⟩
  have:=hl j l[j] hj (List.getElem?_eq_getElem ..)
  simpa using this
 have h2:l.find? (fun x=>decide (x.ID=id))=some x:=by
  rw[List.find?_eq_some_iff_getElem];refine⟨by simpa using he,k,hk,hxk,fun j hj=>?_⟩
  have:=hl j l[j] hj (List.getElem?_eq_getElem ..)
  simpa using this
 unfold Gv H0;rw[h1,h2];exact⟨rfl,rfl⟩
theorem Hy{l:List F0}{id:Int}(hl:∀y∈l,y.ID≠id):Gv l id = -1∧H0 l id=(⟨0,0,0,0⟩,false):=by
 have h1:l.findIdx? (fun x=>decide (x.ID=id))=none:=by
  rw[List.findIdx?_eq_none_iff];intro x hx;simpa using hl x hx
 have h2:l.find? (fun x=>decide (x.ID=id))=none:=by
  rw[List.find?_eq_none];intro x hx;simpa using hl x hx
 unfold Gv H0;rw[h1,h2];exact⟨rfl,rfl⟩
theorem GF(l:List F0)(id:Int):(Gv l id = -1∧H0 l id=(⟨0,0,0,0⟩,false)∧∀y∈l,y.ID≠id)∨∃(k:Nat) (x:F0),Gv l id=k∧l[k]? = some x∧x.ID=id∧H0 l id=(x,true):=by
 by_cases h:∀y∈l,y.ID≠id
 ·have:=Hy h
  exact .inl ⟨this.1,this.2,h⟩
 ·right
  cases hq:l.findIdx? (fun x=>decide (x.ID=id)) with
  | none=>
   exfalso;apply h
   intro y hy he;have:=List.findIdx?_eq_none_iff.1 hq y hy
   simp[he]at this
  | some k=>
   obtain⟨hk,h1,h2⟩:=List.findIdx?_eq_some_iff_getElem.1 hq
   have hx:=List.getElem?_eq_getElem hk
   have h1:l[k].ID=id:=by simpa using h1
   have:=Ht hx h1 (fun j y hj hy=>by
    obtain⟨hj2,e⟩:=List.getElem?_eq_some_iff.1 hy
    have:=h2 j hj
    rw[←e];simpa using this)
   exact⟨k,l[k],this.1,hx,h1,this.2⟩
end Go.Proofs.YtlmiakjbogojgaaGreatDoor
end
section
open Go Mk
namespace Go.Proofs.YtlmiakjbogojgaaGreatDoor
theorem Bp{H:J6}(hv:D8 H=0){c:F0}(hc:c∈H.Cores):0≤c.Node∧c.Node<64:=by
 obtain⟨-,-,h3,-⟩:=S9 hv
 unfold K3 at h3;simp only[Bool.and_eq_true]at h3
 have:=List.all_eq_true.1 h3.1.1 c hc
 simp[BB,J3]at this
 omega
theorem Qx{H:J6}(hv:D8 H=0){c:F0}(hc:c∈H.Cores):Reach H.Links ((F9 H).headD 0) c.Node:=by
 obtain⟨-,-,-,-,-,-,-,-,h9⟩:=S9 hv
 have hP:Po H:=by
  by_cases h:Po H
  ·exact h
  ·unfold GR at h9;rw[Fb h]at h9;cases h9
 refine hP c.Node ?_
 unfold F9;exact List.mem_append_left _ (List.mem_append_left _ (List.mem_map.2 ⟨c,hc,rfl⟩))
def gd(f:Int→Int)(a v:Int):Int→Int:=fun x=>if a=x then v else f x
end Go.Proofs.YtlmiakjbogojgaaGreatDoor
end
section
open Go Mk
namespace Go.Proofs.YtlmiakjbogojgaaGreatDoor
set_option maxHeartbeats 4000000
attribute [local irreducible] Calls I6 Db
abbrev Cq:List Value:=[.string ⟨#[]⟩,.slice none 0 0,.slice none 0 0,.slice none 0 0,.slice none 0 0,.slice none 0 0]
section
variable {Γ:C8}{S:List B6}{w:World}{b2 b3 b4:Nat}{h0:Array Value}{p0:H9}{e0:Int}
end
section
variable {Γ:C8}{S:List B6}{w:World}
end
end Go.Proofs.YtlmiakjbogojgaaGreatDoor
end
section
open Go Mk
namespace Go.Proofs.YtlmiakjbogojgaaGreatDoor
set_option maxHeartbeats 8000000
attribute [local irreducible] Calls
theorem WE.freeze{Γ:C8}{S:List B6}{w:World}{H:J6}{u:Value}(h:WE Γ H S u w)(hsz:Ou H):∃Γ',Γ.le Γ'∧FG Γ' u H∧Wd Γ' S w:=by
 obtain⟨v1,v2,v3,v4,v5,cs,hcs,hok,rfl,hw⟩:=h;obtain⟨a1,n1,c1,rfl,-,-,-⟩:=hw.own_shape (i:=0) rfl
 obtain⟨a2,n2,c2,rfl,-,-,-⟩:=hw.own_shape (i:=1) rfl
 obtain⟨a3,n3,c3,rfl,-,-,-⟩:=hw.own_shape (i:=2) rfl
 obtain⟨a4,n4,c4,rfl,-,-,-⟩:=hw.own_shape (i:=3) rfl
 obtain⟨a5,n5,c5,rfl,-,-,-⟩:=hw.own_shape (i:=4) rfl
 obtain⟨Γ1,e1,r1,hw⟩:=hw.freeze;obtain⟨Γ2,e2,r2,hw⟩:=hw.freeze;obtain⟨Γ3,e3,r3,hw⟩:=hw.freeze;obtain⟨Γ4,e4,r4,hw⟩:=hw.freeze;obtain⟨Γ5,e5,r5,hw⟩:=hw.freeze;have f4:=e5
 have f3:=e4.trans f4
 have f2:=e3.trans f3
 have f1:=e2.trans f2
 exact⟨Γ5,e1.trans f1,⟨_,_,_,_,_,_,_,_,_,_,_,_,_,_,_,cs,rfl,hcs,fun c hc=>(hok c hc).mono (e1.trans f1),hsz,r1.mono f1,r2.mono f2,r3.mono f3,r4.mono f4,r5⟩,hw⟩
def S3:J6:=⟨⟨#[109]⟩,[⟨0,32,0,1⟩],[],[],[],[]⟩
def ES:J6:=⟨⟨#[109]⟩,[⟨0,33,0,1⟩],[],[],[],[]⟩
theorem eg:Ou ES:=by unfold Ou maxS;decide
set_option maxHeartbeats 4000000
structure Val where
 Kind:Int
 Num:Int
 Word:ByteArray
 deriving DecidableEq,Inhabited
instance:KV Val where
 enc a:=[.int .i64 a.Kind,.int .i64 a.Num,.string a.Word]
 inj a b h:=by cases a;cases b;simp at h;simp[h]
 ks:=[5,5,1]
 kinds a:=rfl
def cV(a b:Val):Int:=Ch (cI a.Kind b.Kind) (Ch (cI a.Num b.Num) (cB a.Word b.Word))
theorem He:U8 cV:=(Hf.prod (Hf.prod Xu)).map (fun v:Val=>(v.Kind,v.Num,v.Word)) fun a b h=>by cases a;cases b;simp at h;simp[h]
abbrev F3:=ByteArray×List Val
def I7(a b:F3):Int:=Ch (cB a.1 b.1) (Ch (cI a.2.length b.2.length) (cL cV a.2 b.2))
theorem J8:U8 I7:=(Xu.prod (Hf.prod He.list)).map (fun f:F3=>(f.1,((f.2.length:Int),f.2))) fun a b h=>by
 simp only[Prod.mk.injEq]at h;exact Prod.ext h.1 h.2.2
structure D1 where
 Rel:ByteArray
 A:Option Addr
 N:Nat
 C:Nat
 Args:List Val
def D1.hdr(f:D1):Value:=.slice f.A f.N f.C
def D1.fact(f:D1):F3:=(f.Rel,f.Args)
def cF(f:D1):List Value:=[.string f.Rel,f.hdr]
def BG(Γ:C8)(f:D1):Prop:=D7 Γ f.hdr 3 (f.Args.map enc)
theorem BG.len{Γ:C8}{f:D1}(h:BG Γ f):f.N=f.Args.length∧f.N≤f.C∧f.C≤9223372036854775807:=by
 obtain⟨a,n,c,h1,h2,h3,h4⟩:=D7.shape h
 unfold D1.hdr at h1;cases h1
 exact⟨by simpa using h2,h3,h4⟩
theorem Xa(f:D1):(cF f).all (·.oneCell')=true:=rfl
theorem Mq(fs:List D1):∀u∈(fs.map cF).flatten,u.oneCell'=true:=fun u hu=>by
 obtain⟨r,hr,hu⟩:=List.mem_flatten.1 hu
 obtain⟨f,_,rfl⟩:=List.mem_map.1 hr
 exact(List.all_eq_true.1 (Xa f)) u hu
instance ee(s:ByteArray):PC Tryz.prog 222 [.string s] (.bool false):=⟨fun w=>by
 refine A7 Tryz.func222 rfl rfl ?_
 refine A6 ?_;exact⟨_,rfl,F2 rfl (by simp),rfl⟩⟩
instance ec(s:Int):PC Tryz.prog 134 [.int .i64 s] (.bool false):=⟨fun w=>by
 refine A7 Tryz.func134 rfl rfl ?_
 refine A6 ?_;exact⟨_,rfl,F2 rfl (by simp),rfl⟩⟩
instance em(s:Int):PC Tryz.prog 280 [.int .i64 s] (.bool false):=⟨fun w=>by
 refine A7 Tryz.func280 rfl rfl ?_
 refine A6 ?_;exact⟨_,rfl,F2 rfl (by simp),rfl⟩⟩
instance gB(a b:ByteArray):PC Tryz.prog 141 [.string a,.string b] (.int .i64 (cB a b)):=⟨fun w=>by
 refine A7 Tryz.func141 rfl rfl ?_
 refine A6 ?_;refine N6 rfl ?_
 refine A6 ?_;refine N6 rfl ?_
 refine A6 ?_;refine A0 rfl (fun h=>?_) (fun h=>?_)
 ·refine A6 ?_;exact⟨_,rfl,G4 rfl (by simp[cB,h]),rfl⟩
 refine A6 ?_;refine A0 rfl (fun h2=>?_) (fun h2=>?_)
 ·refine A6 ?_;exact⟨_,rfl,G4 rfl (by simp[cB,h,h2]),rfl⟩
 ·refine A6 ?_;exact⟨_,rfl,G4 rfl (by simp[cB,h,h2]),rfl⟩⟩
instance gK(a b:Int):PC Tryz.prog 63 [.int .i64 a,.int .i64 b] (.int .i64 (cI a b)):=⟨fun w=>by
 refine A7 Tryz.func63 rfl rfl ?_
 refine A6 ?_;refine N6 rfl ?_
 refine A6 ?_;refine N6 rfl ?_
 refine A6 ?_;refine A0 rfl (fun h=>?_) (fun h=>?_)
 ·refine A6 ?_;exact⟨_,rfl,G4 rfl (by simp at h;simp[cI,h]),rfl⟩
 refine A6 ?_;refine A0 rfl (fun h2=>?_) (fun h2=>?_)
 ·refine A6 ?_;exact⟨_,rfl,G4 rfl (by simp at h h2;unfold cI;rw[if_neg (by omega),if_pos h2]),rfl⟩
 ·refine A6 ?_;exact⟨_,rfl,G4 rfl (by simp at h h2;unfold cI;rw[if_neg (by omega),if_neg (by omega)]),rfl⟩⟩
instance gH(a b:Int):PC Tryz.prog 223 [.int .i64 a,.int .i64 b] (.int .i64 (cI a b)):=⟨fun w=>by
 refine A7 Tryz.func223 rfl rfl ?_
 refine A6 ?_;refine N6 rfl ?_
 refine A6 ?_;refine N6 rfl ?_
 refine A6 ?_;refine A0 rfl (fun h=>?_) (fun h=>?_)
 ·refine A6 ?_;exact⟨_,rfl,G4 rfl (by simp at h;simp[cI,h]),rfl⟩
 refine A6 ?_;refine A0 rfl (fun h2=>?_) (fun h2=>?_)
 ·refine A6 ?_;exact⟨_,rfl,G4 rfl (by simp at h h2;unfold cI;rw[if_neg (by omega),if_pos h2]),rfl⟩
 ·refine A6 ?_;exact⟨_,rfl,G4 rfl (by simp at h h2;unfold cI;rw[if_neg (by omega),if_neg (by omega)]),rfl⟩⟩
theorem Mn{x y:Int}(h:¬x=0):Ch x y=x:=by unfold Ch;rw[if_neg h]
theorem JW{x y:Int}(h:x=0):Ch x y=y:=by unfold Ch;rw[if_pos h]
theorem G8{α:Type}(l:List α){k:Nat}(h:l.length≤k):l.drop k=[]:=List.drop_eq_nil_of_le h
theorem Q9{α:Type}{l:List α}{k:Nat}{x:α}(h:l[k]? = some x):l.drop k=x::l.drop (k+1):=by
 obtain⟨h1,h2⟩:=List.getElem?_eq_some_iff.1 h
 rw[←h2];exact List.drop_eq_getElem_cons h1
def NQ:List Int→Int
 | []=>0
 | x::l=>Ch x (NQ l)
theorem TU(x:Int):Ch x 0=x:=by unfold Ch;split <;> simp[*]
theorem MF{Γ:C8}{S:List B6}{w:World}{v:Value}(xs:List Int)(hw:Wd Γ S w)(hr:P4 Γ S v 1 (xs.map fun x=>[.int .i64 x])) :
  Calls Tryz.prog 62 #[v] w fun e w'=>e=.returned (.int .i64 (NQ xs))∧Wd Γ S w':=by
 obtain⟨a,n,c,rfl,hn,hnc,hc⟩:=hr.shape;simp only[List.length_map]at hn
 refine A7 Tryz.func62 rfl rfl ?_
 refine A6 ?_;refine B3 (fun μ ρ w=>∃(k:Nat),μ+k=n∧Has ρ [(3,.int .i64 0),(6,.slice a n c),(7,.int .i64 n),(8,.int .i64 k)]∧NQ xs=NQ (xs.drop k)∧Wd Γ S w) n ⟨0,by omega,⟨rfl,rfl,rfl,rfl,trivial⟩,rfl,hw⟩ ?_
 clear hw;rintro μ ρ w ⟨k,hk,hρ,ho,hw⟩
 rw[hρ.eq];refine A6 ?_;refine A0 rfl (fun h=>?_) (fun h=>?_)
 ·have hkn:k<n:=by simpa using h
  obtain⟨x,hx⟩:=B2 (l:=xs) (k:=k) (by omega)
  have hd:xs.drop k=x::xs.drop (k+1):=by
   obtain⟨h1,h2⟩:=List.getElem?_eq_some_iff.1 hx
   rw[←h2];exact(List.drop_eq_getElem_cons h1)
  rw[hd]at ho;refine A6 ?_;refine A0 rfl (fun h2=>?_) (fun h2=>?_)
  ·refine A6 ?_;have h2:¬x=0:=by simpa using h2
   refine⟨_,rfl,G4 rfl ?_,hw⟩
   rw[ho];unfold NQ Ch;rw[if_neg h2]
  ·refine A6 ?_;have h2:x=0:=by simpa using h2
   refine⟨μ-1,by omega,k+1,by omega,⟨rfl,rfl,rfl,rfl,trivial⟩,?_,hw⟩
   rw[ho];show Ch x _=_;unfold Ch;rw[if_pos h2]
 ·have hkn:¬k<n:=by simpa using h
  refine A6 ?_;refine⟨_,rfl,G4 rfl ?_,hw⟩
  rw[ho,List.drop_eq_nil_of_le (by omega)];rfl
set_option maxHeartbeats 16000000
instance ef(s:Int):PC Tryz.prog 135 [.int .u64 s] (.bool false):=⟨fun w=>by
 refine A7 Tryz.func135 rfl rfl ?_
 repeat first|refine E6 ?_|refine E7 ?_;intro w hw
 exact⟨_,rfl,F2 rfl (by simp),rfl⟩⟩
instance gI(a b:Int):PC Tryz.prog 64 [.int .u64 a,.int .u64 b] (.int .i64 (cI a b)):=⟨fun w=>by
 refine A7 Tryz.func64 rfl rfl ?_
 repeat first|refine E6 ?_|refine E7 ?_;intro w hw
 refine N6 rfl ?_
 repeat first|refine E6 ?_|refine E7 ?_;intro w hw
 refine N6 rfl ?_
 repeat first|refine E6 ?_|refine E7 ?_;intro w hw
 refine A0 rfl (fun h=>?_) (fun h=>?_)
 ·repeat first|refine E6 ?_|refine E7 ?_;intro w hw
  exact⟨_,rfl,G4 rfl (by simp at h;simp[cI,h]),rfl⟩
 repeat first|refine E6 ?_|refine E7 ?_;intro w hw
 refine A0 rfl (fun h2=>?_) (fun h2=>?_)
 ·repeat first|refine E6 ?_|refine E7 ?_;intro w hw
  exact⟨_,rfl,G4 rfl (by simp at h h2;unfold cI;rw[if_neg (by omega),if_pos h2]),rfl⟩
 ·repeat first|refine E6 ?_|refine E7 ?_;intro w hw
  exact⟨_,rfl,G4 rfl (by simp at h h2;unfold cI;rw[if_neg (by omega),if_neg (by omega)]),rfl⟩⟩
end Go.Proofs.YtlmiakjbogojgaaGreatDoor
end
section
open Go Mk
namespace Go.Proofs.YtlmiakjbogojgaaGreatDoor
def Pu:Go.Shelf.Ren:=⟨fun|6=>72|15=>133|14=>140|28=>201|29=>202|20=>214|21=>215|22=>216|23=>217|24=>218|25=>219|26=>220|27=>221|46=>277|47=>267|48=>268|49=>278|50=>279|57=>300|n=>n,fun|22=>60|24=>80|25=>153|3=>3|39=>129|0=>0|53=>260|55=>56|4=>4|46=>253|45=>252|50=>257|5=>5|9=>9|66=>306|70=>310|76=>330|77=>213|n=>n,fun|n=>n⟩
theorem bJ:Go.Proofs.SlLaysF0.n6 Tryz.prog Pu:={
 mixed:=by kernel_rfl
 f6:=⟨Tryz.f72.name,by decide,Tryz.func72.trans (congrArg some (by kernel_rfl))⟩
 f14:=⟨Tryz.f140.name,by decide,Tryz.func140.trans (congrArg some (by kernel_rfl))⟩
 f15:=Tryz.func133.trans (congrArg some (by kernel_rfl))
 f20:=⟨Tryz.f214.name,by decide,Tryz.func214.trans (congrArg some (by kernel_rfl))⟩
 f21:=⟨Tryz.f215.name,by decide,Tryz.func215.trans (congrArg some (by kernel_rfl))⟩
 f22:=⟨Tryz.f216.name,by decide,Tryz.func216.trans (congrArg some (by kernel_rfl))⟩
 f23:=⟨Tryz.f217.name,by decide,Tryz.func217.trans (congrArg some (by kernel_rfl))⟩
 f24:=⟨Tryz.f218.name,by decide,Tryz.func218.trans (congrArg some (by kernel_rfl))⟩
 f25:=⟨Tryz.f219.name,by decide,Tryz.func219.trans (congrArg some (by kernel_rfl))⟩
 f26:=⟨Tryz.f220.name,by decide,Tryz.func220.trans (congrArg some (by kernel_rfl))⟩
 f27:=⟨Tryz.f221.name,by decide,Tryz.func221.trans (congrArg some (by kernel_rfl))⟩
 f28:=Tryz.func201.trans (congrArg some (by kernel_rfl))
 f29:=Tryz.func202.trans (congrArg some (by kernel_rfl))
 f46:=⟨Tryz.f277.name,by decide,Tryz.func277.trans (congrArg some (by kernel_rfl))⟩
 f47:=Tryz.func267.trans (congrArg some (by kernel_rfl))
 f48:=Tryz.func268.trans (congrArg some (by kernel_rfl))
 f49:=⟨Tryz.f278.name,by decide,Tryz.func278.trans (congrArg some (by kernel_rfl))⟩
 f50:=⟨Tryz.f279.name,by decide,Tryz.func279.trans (congrArg some (by kernel_rfl))⟩
 f57:=⟨Tryz.f300.name,by decide,Tryz.func300.trans (congrArg some (by kernel_rfl))⟩
 t0:=Tryz.underlying0
 a0:=Tryz.isAgg0
 z0:=Tryz.sizeOf0
 v0:=Tryz.zeroValue0
 t3:=Tryz.underlying3
 a3:=Tryz.isAgg3
 z3:=Tryz.sizeOf3
 v3:=Tryz.zeroValue3
 t4:=Tryz.underlying4
 a4:=Tryz.isAgg4
 z4:=Tryz.sizeOf4
 v4:=Tryz.zeroValue4
 t5:=Tryz.underlying5
 a5:=Tryz.isAgg5
 z5:=Tryz.sizeOf5
 v5:=Tryz.zeroValue5
 t9:=Tryz.underlying9
 a9:=Tryz.isAgg9
 z9:=Tryz.sizeOf9
 v9:=Tryz.zeroValue9
 t22:=Tryz.underlying60
 a22:=Tryz.isAgg60
 z22:=Tryz.sizeOf60
 v22:=Tryz.zeroValue60
 t25:=Tryz.underlying153
 a25:=Tryz.isAgg153
 z25:=Tryz.sizeOf153
 v25:=Tryz.zeroValue153
 t39:=Tryz.underlying129
 a39:=Tryz.isAgg129
 z39:=Tryz.sizeOf129
 v39:=Tryz.zeroValue129
 t45:=Tryz.underlying252
 a45:=Tryz.isAgg252
 z45:=Tryz.sizeOf252
 v45:=Tryz.zeroValue252
 t46:=Tryz.underlying253
 a46:=Tryz.isAgg253
 z46:=Tryz.sizeOf253
 v46:=Tryz.zeroValue253
 t50:=Tryz.underlying257
 a50:=Tryz.isAgg257
 z50:=Tryz.sizeOf257
 v50:=Tryz.zeroValue257
 t53:=Tryz.underlying260
 a53:=Tryz.isAgg260
 z53:=Tryz.sizeOf260
 v53:=Tryz.zeroValue260
 t55:=Tryz.underlying56
 a55:=Tryz.isAgg56
 z55:=Tryz.sizeOf56
 v55:=Tryz.zeroValue56
 t66:=Tryz.underlying306
 a66:=Tryz.isAgg306
 z66:=Tryz.sizeOf306
 v66:=Tryz.zeroValue306
 t70:=Tryz.underlying310
 a70:=Tryz.isAgg310
 z70:=Tryz.sizeOf310
 v70:=Tryz.zeroValue310
 t76:=Tryz.underlying330
 a76:=Tryz.isAgg330
 z76:=Tryz.sizeOf330
 v76:=Tryz.zeroValue330
 t77:=Tryz.underlying213
 a77:=Tryz.isAgg213
 z77:=Tryz.sizeOf213
 v77:=Tryz.zeroValue213 }
def Oc:Go.Shelf.Ren:=⟨fun|6=>60|15=>133|14=>132|28=>201|29=>202|20=>193|21=>194|22=>195|23=>196|24=>197|25=>198|26=>199|27=>200|46=>266|47=>267|48=>268|49=>269|50=>270|57=>298|n=>n,fun|22=>41|24=>58|25=>147|3=>3|39=>129|0=>0|53=>260|55=>56|4=>4|46=>253|45=>252|50=>257|5=>5|9=>9|66=>306|70=>310|76=>330|77=>213|n=>n,fun|n=>n⟩
theorem ax:Go.Proofs.SlLaysF0.n6 Tryz.prog Oc:={
 mixed:=by kernel_rfl
 f6:=⟨Tryz.f60.name,by decide,Tryz.func60.trans (congrArg some (by kernel_rfl))⟩
 f14:=⟨Tryz.f132.name,by decide,Tryz.func132.trans (congrArg some (by kernel_rfl))⟩
 f15:=Tryz.func133.trans (congrArg some (by kernel_rfl))
 f20:=⟨Tryz.f193.name,by decide,Tryz.func193.trans (congrArg some (by kernel_rfl))⟩
 f21:=⟨Tryz.f194.name,by decide,Tryz.func194.trans (congrArg some (by kernel_rfl))⟩
 f22:=⟨Tryz.f195.name,by decide,Tryz.func195.trans (congrArg some (by kernel_rfl))⟩
 f23:=⟨Tryz.f196.name,by decide,Tryz.func196.trans (congrArg some (by kernel_rfl))⟩
 f24:=⟨Tryz.f197.name,by decide,Tryz.func197.trans (congrArg some (by kernel_rfl))⟩
 f25:=⟨Tryz.f198.name,by decide,Tryz.func198.trans (congrArg some (by kernel_rfl))⟩
 f26:=⟨Tryz.f199.name,by decide,Tryz.func199.trans (congrArg some (by kernel_rfl))⟩
 f27:=⟨Tryz.f200.name,by decide,Tryz.func200.trans (congrArg some (by kernel_rfl))⟩
 f28:=Tryz.func201.trans (congrArg some (by kernel_rfl))
 f29:=Tryz.func202.trans (congrArg some (by kernel_rfl))
 f46:=⟨Tryz.f266.name,by decide,Tryz.func266.trans (congrArg some (by kernel_rfl))⟩
 f47:=Tryz.func267.trans (congrArg some (by kernel_rfl))
 f48:=Tryz.func268.trans (congrArg some (by kernel_rfl))
 f49:=⟨Tryz.f269.name,by decide,Tryz.func269.trans (congrArg some (by kernel_rfl))⟩
 f50:=⟨Tryz.f270.name,by decide,Tryz.func270.trans (congrArg some (by kernel_rfl))⟩
 f57:=⟨Tryz.f298.name,by decide,Tryz.func298.trans (congrArg some (by kernel_rfl))⟩
 t0:=Tryz.underlying0
 a0:=Tryz.isAgg0
 z0:=Tryz.sizeOf0
 v0:=Tryz.zeroValue0
 t3:=Tryz.underlying3
 a3:=Tryz.isAgg3
 z3:=Tryz.sizeOf3
 v3:=Tryz.zeroValue3
 t4:=Tryz.underlying4
 a4:=Tryz.isAgg4
 z4:=Tryz.sizeOf4
 v4:=Tryz.zeroValue4
 t5:=Tryz.underlying5
 a5:=Tryz.isAgg5
 z5:=Tryz.sizeOf5
 v5:=Tryz.zeroValue5
 t9:=Tryz.underlying9
 a9:=Tryz.isAgg9
 z9:=Tryz.sizeOf9
 v9:=Tryz.zeroValue9
 t22:=Tryz.underlying41
 a22:=Tryz.isAgg41
 z22:=Tryz.sizeOf41
 v22:=Tryz.zeroValue41
 t25:=Tryz.underlying147
 a25:=Tryz.isAgg147
 z25:=Tryz.sizeOf147
 v25:=Tryz.zeroValue147
 t39:=Tryz.underlying129
 a39:=Tryz.isAgg129
 z39:=Tryz.sizeOf129
 v39:=Tryz.zeroValue129
 t45:=Tryz.underlying252
 a45:=Tryz.isAgg252
 z45:=Tryz.sizeOf252
 v45:=Tryz.zeroValue252
 t46:=Tryz.underlying253
 a46:=Tryz.isAgg253
 z46:=Tryz.sizeOf253
 v46:=Tryz.zeroValue253
 t50:=Tryz.underlying257
 a50:=Tryz.isAgg257
 z50:=Tryz.sizeOf257
 v50:=Tryz.zeroValue257
 t53:=Tryz.underlying260
 a53:=Tryz.isAgg260
 z53:=Tryz.sizeOf260
 v53:=Tryz.zeroValue260
 t55:=Tryz.underlying56
 a55:=Tryz.isAgg56
 z55:=Tryz.sizeOf56
 v55:=Tryz.zeroValue56
 t66:=Tryz.underlying306
 a66:=Tryz.isAgg306
 z66:=Tryz.sizeOf306
 v66:=Tryz.zeroValue306
 t70:=Tryz.underlying310
 a70:=Tryz.isAgg310
 z70:=Tryz.sizeOf310
 v70:=Tryz.zeroValue310
 t76:=Tryz.underlying330
 a76:=Tryz.isAgg330
 z76:=Tryz.sizeOf330
 v76:=Tryz.zeroValue330
 t77:=Tryz.underlying213
 a77:=Tryz.isAgg213
 z77:=Tryz.sizeOf213
 v77:=Tryz.zeroValue213 }
def OM:Go.Shelf.Ren:=⟨fun|6=>120|15=>133|14=>181|28=>201|29=>202|20=>256|21=>257|22=>258|23=>259|24=>260|25=>261|26=>262|27=>263|46=>295|47=>267|48=>268|49=>296|50=>297|57=>304|n=>n,fun|22=>117|24=>121|25=>196|3=>3|39=>129|0=>0|53=>260|55=>56|4=>4|46=>253|45=>252|50=>257|5=>5|9=>9|66=>306|70=>310|76=>330|77=>213|n=>n,fun|n=>n⟩
theorem bD:Go.Proofs.SlLaysF0.n6 Tryz.prog OM:={
 mixed:=by kernel_rfl
 f6:=⟨Tryz.f120.name,by decide,Tryz.func120.trans (congrArg some (by kernel_rfl))⟩
 f14:=⟨Tryz.f181.name,by decide,Tryz.func181.trans (congrArg some (by kernel_rfl))⟩
 f15:=Tryz.func133.trans (congrArg some (by kernel_rfl))
 f20:=⟨Tryz.f256.name,by decide,Tryz.func256.trans (congrArg some (by kernel_rfl))⟩
 f21:=⟨Tryz.f257.name,by decide,Tryz.func257.trans (congrArg some (by kernel_rfl))⟩
 f22:=⟨Tryz.f258.name,by decide,Tryz.func258.trans (congrArg some (by kernel_rfl))⟩
 f23:=⟨Tryz.f259.name,by decide,Tryz.func259.trans (congrArg some (by kernel_rfl))⟩
 f24:=⟨Tryz.f260.name,by decide,Tryz.func260.trans (congrArg some (by kernel_rfl))⟩
 f25:=⟨Tryz.f261.name,by decide,Tryz.func261.trans (congrArg some (by kernel_rfl))⟩
 f26:=⟨Tryz.f262.name,by decide,Tryz.func262.trans (congrArg some (by kernel_rfl))⟩
 f27:=⟨Tryz.f263.name,by decide,Tryz.func263.trans (congrArg some (by kernel_rfl))⟩
 f28:=Tryz.func201.trans (congrArg some (by kernel_rfl))
 f29:=Tryz.func202.trans (congrArg some (by kernel_rfl))
 f46:=⟨Tryz.f295.name,by decide,Tryz.func295.trans (congrArg some (by kernel_rfl))⟩
 f47:=Tryz.func267.trans (congrArg some (by kernel_rfl))
 f48:=Tryz.func268.trans (congrArg some (by kernel_rfl))
 f49:=⟨Tryz.f296.name,by decide,Tryz.func296.trans (congrArg some (by kernel_rfl))⟩
 f50:=⟨Tryz.f297.name,by decide,Tryz.func297.trans (congrArg some (by kernel_rfl))⟩
 f57:=⟨Tryz.f304.name,by decide,Tryz.func304.trans (congrArg some (by kernel_rfl))⟩
 t0:=Tryz.underlying0
 a0:=Tryz.isAgg0
 z0:=Tryz.sizeOf0
 v0:=Tryz.zeroValue0
 t3:=Tryz.underlying3
 a3:=Tryz.isAgg3
 z3:=Tryz.sizeOf3
 v3:=Tryz.zeroValue3
 t4:=Tryz.underlying4
 a4:=Tryz.isAgg4
 z4:=Tryz.sizeOf4
 v4:=Tryz.zeroValue4
 t5:=Tryz.underlying5
 a5:=Tryz.isAgg5
 z5:=Tryz.sizeOf5
 v5:=Tryz.zeroValue5
 t9:=Tryz.underlying9
 a9:=Tryz.isAgg9
 z9:=Tryz.sizeOf9
 v9:=Tryz.zeroValue9
 t22:=Tryz.underlying117
 a22:=Tryz.isAgg117
 z22:=Tryz.sizeOf117
 v22:=Tryz.zeroValue117
 t25:=Tryz.underlying196
 a25:=Tryz.isAgg196
 z25:=Tryz.sizeOf196
 v25:=Tryz.zeroValue196
 t39:=Tryz.underlying129
 a39:=Tryz.isAgg129
 z39:=Tryz.sizeOf129
 v39:=Tryz.zeroValue129
 t45:=Tryz.underlying252
 a45:=Tryz.isAgg252
 z45:=Tryz.sizeOf252
 v45:=Tryz.zeroValue252
 t46:=Tryz.underlying253
 a46:=Tryz.isAgg253
 z46:=Tryz.sizeOf253
 v46:=Tryz.zeroValue253
 t50:=Tryz.underlying257
 a50:=Tryz.isAgg257
 z50:=Tryz.sizeOf257
 v50:=Tryz.zeroValue257
 t53:=Tryz.underlying260
 a53:=Tryz.isAgg260
 z53:=Tryz.sizeOf260
 v53:=Tryz.zeroValue260
 t55:=Tryz.underlying56
 a55:=Tryz.isAgg56
 z55:=Tryz.sizeOf56
 v55:=Tryz.zeroValue56
 t66:=Tryz.underlying306
 a66:=Tryz.isAgg306
 z66:=Tryz.sizeOf306
 v66:=Tryz.zeroValue306
 t70:=Tryz.underlying310
 a70:=Tryz.isAgg310
 z70:=Tryz.sizeOf310
 v70:=Tryz.zeroValue310
 t76:=Tryz.underlying330
 a76:=Tryz.isAgg330
 z76:=Tryz.sizeOf330
 v76:=Tryz.zeroValue330
 t77:=Tryz.underlying213
 a77:=Tryz.isAgg213
 z77:=Tryz.sizeOf213
 v77:=Tryz.zeroValue213 }
section
variable {H:J6}{r:Int}{ms:List Int}
def gm(K:Int→List Int)(fs:List Int):List Pl:=fs.flatMap fun f=>(K f).map fun t=>(f,t)
end
def Gq(l:List (Pl×Int))(st:Int→Int):Int→Int:=l.foldl (fun f p=>gd f p.1.2 p.2) st
section
variable {far:Int→Int→Int}{cost:Int}
end
set_option maxHeartbeats 8000000
attribute [local irreducible] Calls
section
variable {P:Program}{n:Nat}{ops:List Oper}{Γ:C8}{K:List B6}{wr tc stab:List (List Nat)}{Q:Fr→World→Prop}{i:Nat}{rest:List Oper}{ρ:Fr}{M:Nat→Fr→List B6}
theorem Bm{c f:Nat}{d:Option Tmp}{ty:TypeId}{pos:String}{es:Array Edge}{args:List Operand}{tys:Array TypeId}{vs:List Value}{v:Value}{X X':List B6}[C7 P f]
  (hcall:∀S w,Wd Γ (X++S) w→Calls P f vs.toArray w fun e w'=>e=.returned v∧Wd Γ (X'++S) w') (h:MSw (mV P n ops Γ K wr tc stab) Q (i+1) rest ⟨D6 ρ d v,M1 M c fun _=>X'⟩)
  (ht:tc.getD i []=[c]:=by exact rfl) (hM:M c=(fun _=>X):=by first|exact C6|exact rfl) (hw0:wr.getD i []=[c]:=by exact rfl) (ha:∀g,EvL (E8 stab.flatten g ρ) args vs:=by intro g;exact AB) :
  MSw (mV P n ops Γ K wr tc stab) Q i (⟨d,.call { callee:=.value (.func f),args:=args.toArray,argTypes:=tys },ty,pos,es,none⟩::rest) ⟨ρ,M⟩:=by
 refine mM (v:=v) _ (fun Y w g hw=>?_) h hw0 rfl
 rw[Q7 ht,hM]at hw;refine Ba (ha g).eqA ((hcall _ _ hw.swapApp).mono fun e w' ⟨h1,h2⟩=>⟨v,h1,?_,fun _=>rfl⟩)
 rw[Q7 ht,C6];exact h2.swapApp
end
def nx(L:List Int)(k:Nat)(n:Int):Int:=((if L=[] then 0 else (L.getD (k%L.length) 0)%1073741824)+7*((k / max L.length 1:Nat):Int))%n
theorem J0{L:List Int}{k:Nat}{n:Int}(h:0<n):0≤nx L k n∧nx L k n<n:=⟨Int.emod_nonneg _ (by omega),Int.emod_lt_of_pos _ h⟩
instance:eF 1073741824:=⟨by decide⟩
def K7(bs:Nat)(a:Option Addr)(m c k:Nat):B6:=.blk bs (.cells #[.slice a m c,.int .i64 k] 124)
theorem J1{Γ:C8}{S:List B6}{w:World}{bs:Nat}{a:Option Addr}{m c k:Nat}{L:List Int}{n:Int}(hn0:0<n)(hk:k≤1000000)(hr:D7 Γ (.slice a m c) 1 (A8 L))(hw:Wd Γ (K7 bs a m c k::S) w) :
  Calls Tryz.prog 52 #[.pointer (some ⟨bs,0,none⟩),.int .i64 n] w fun e w'=>e=.returned (.int .i64 (nx L k n))∧Wd Γ (K7 bs a m c (k+1)::S) w':=by
 obtain⟨hn,hnc,hc⟩:=C0 hr
 simp only[A8,List.length_map]at hn
 unfold K7 at hw;refine A7 Tryz.func52 rfl rfl ?_
 iterate 8 (first|refine E6 ?_|(refine E7 ?_;intro w hw))
 obtain⟨v0,hv0⟩:∃v0:Int,v0=(if L=[] then 0 else (L.getD (k%L.length) 0)%1073741824):=⟨_,rfl⟩
 have hvb:0≤v0∧v0<1073741824:=by
  rw[hv0];split
  ·omega
  ·exact⟨Int.emod_nonneg _ (by omega),Int.emod_lt_of_pos _ (by omega)⟩
 refine BK (fun ρ w=>Has ρ [(0,.pointer (some ⟨bs,0,none⟩)),(1,.int .i64 n),(5,.int .i64 v0)]∧Wd Γ (.blk bs (.cells #[.slice a m c,.int .i64 k] 124)::S) w) ?_ ?_
 ·refine A6 ?_;refine A0 rfl (fun h=>?_) (fun h=>?_)
  ·have hm:0<m:=by simp at h;omega
   have hkm:(k:Int).tmod m=((k%m:Nat):Int):=by rw[Int.tmod_eq_emod_of_nonneg (by omega)];exact(Int.natCast_emod k m).symm
   have hlt:k%m<m:=Nat.mod_lt _ hm
   obtain⟨x,hx⟩:=B2 (l:=L) (k:=k%m) (by omega)
   have hx':L[((k%m:Nat):Int).toNat]? = some x:=hx
   have hvx:v0=x%1073741824:=by
    rw[hv0,if_neg (fun e=>by rw[e]at hn;simp at hn;omega),←hn,List.getD_eq_getElem?_getD,hx];rfl
   refine A6 ?_;refine G9 (by kernel_rfl) (by kernel_rfl) hw ?_
   iterate 13 (first|refine Bs ?_|(apply U3;first|(apply i9;first|refine qP ?_|refine Vs ?_)|refine qY ?_)|(apply M9;first|(apply i9;first|refine Vr ?_|refine IY ?_)|refine qG ?_))
   refine qY (v:=.int .i64 ((k%m:Nat):Int)) ?_ (hy:=fun w hw=>by
    rw[←hkm];exact Xm rfl rfl (by omega))
   refine X3 ?_;clear hw;intro w hw;refine A6 ?_;exact⟨⟨rfl,rfl,by rw[hvx];rfl,trivial⟩,hw⟩
  ·have hm:m=0:=by simp at h;omega
   have hL:L=[]:=List.eq_nil_of_length_eq_zero (by omega)
   refine A6 ?_;exact⟨⟨rfl,rfl,by rw[hv0,if_pos hL];rfl,trivial⟩,hw⟩
 ·rintro ρ w ⟨hρ,hw⟩
  rw[hρ.eq];clear hρ;have hlen:max L.length 1=max m 1:=by rw[hn]
  have hnx:nx L k n=(v0+7*((k / max m 1:Nat):Int))%n:=by unfold nx;rw[←hv0,hlen]
  rw[hnx];clear hnx hlen;have hM:(if (m:Int)<1 then 1 else (m:Int))=((max m 1:Nat):Int):=by
   split <;> omega
  have hMp:0<max m 1:=by omega
  have hq1:(k:Int).tdiv ((max m 1:Nat):Int)=((k / max m 1:Nat):Int):=by rw[Int.tdiv_eq_ediv_of_nonneg (by omega)];rfl
  have hqk:k / max m 1≤k:=Nat.div_le_self _ _
  generalize k / max m 1=q at *
  generalize max m 1=M at *
  have S3:IntKind.i64.wrap ((q:Nat):Int)=((q:Nat):Int):=wrap_i64 (by omega) (by omega)
  refine y0 ?_
  refine G9 (by kernel_rfl) (by kernel_rfl) hw ?_
  iterate 10 (first|refine Bs ?_|(apply U3;first|(apply i9;first|refine qP ?_|refine Vs ?_)|refine qY ?_)|(apply M9;first|(apply i9;first|refine Vr ?_|refine IY ?_)|refine qG ?_))
  refine qY (v:=.int .i64 ((M:Nat):Int)) ?_ (hy:=fun w hw=>by rw[←hM];exact Sd rfl rfl)
  refine qY (v:=.int .i64 ((q:Nat):Int)) ?_ (hy:=fun w hw=>by
   rw[←S3,←hq1];exact Tt rfl rfl (by omega))
  refine X3 ?_;clear hw;intro w hw;refine A6 ?_;refine B0 ?_;intro w hw;have hw:Wd Γ (K7 bs a m c (k+1)::S) w:=hw
  refine A6 ?_;refine⟨_,rfl,G4 rfl ?_,hw⟩
  rw[Int.tmod_eq_emod_of_nonneg (by omega)]
def Lk{α:Type}(lt:α→α→Bool):Nat→List α→List α
 | 0,l=>l
 | k+1,l=>match l[k+1]?,l[k]? with
  | some x,some y=>if lt x y=true then Lk lt k ((l.set (k+1) y).set k x) else l
  | _,_=>l
def Dx{α:Type}(lt:α→α→Bool):Nat→Nat→List α→List α
 | 0,_,l=>l
 | f+1,i,l=>Dx lt f (i+1) (Lk lt i l)
def z7{α:Type}(lt:α→α→Bool)(l:List α):List α:=Dx lt (l.length-1) 1 l
theorem OZ{α:Type}{lt:α→α→Bool}{k:Nat}{l:List α}{x y:α}(hx:l[k+1]? = some x)(hy:l[k]? = some y)(h:lt x y=true):Lk lt (k+1) l=Lk lt k ((l.set (k+1) y).set k x):=by
 unfold Lk;rw[hx,hy];simp only[if_pos h];cases k <;> rfl
theorem Pq{α:Type}{lt:α→α→Bool}{k:Nat}{l:List α}{x y:α}(hx:l[k+1]? = some x)(hy:l[k]? = some y)(h:¬lt x y=true):Lk lt (k+1) l=l:=by
 unfold Lk;rw[hx,hy];simp only[if_neg h]
theorem Ia{α:Type}{lt:α→α→Bool}:∀(k:Nat) (l:List α),(Lk lt k l).length=l.length
 | 0,l=>rfl
 | k+1,l=>by
  unfold Lk;split
  ·split
   ·rw[Ia k];simp
   ·rfl
  ·rfl
theorem JR{α:Type}{lt:α→α→Bool}:∀(f i:Nat) (l:List α),(Dx lt f i l).length=l.length
 | 0,_,_=>rfl
 | f+1,i,l=>by show (Dx lt f (i+1) (Lk lt i l)).length=_;rw[JR f,Ia]
theorem Lg{α:Type}{lt:α→α→Bool}(l:List α):(z7 lt l).length=l.length:=JR _ _ _
def IC(a b:Int):Bool:=decide (a<b)
theorem Is(xs:List Int):(A8 xs).flatten.all (·.oneCell')=true:=by
 unfold A8;induction xs with
 | nil=>rfl
 | cons x l ih=>simp only[List.map_cons,List.flatten_cons,List.all_append,ih];rfl
theorem QK{xs:List Int}{k:Nat}{x:Int}:(A8 xs).set k [.int .i64 x]=A8 (xs.set k x):=by unfold A8;rw[List.map_set]
theorem ME{Γ:C8}{S:List B6}{w:World}{v:Value}{xs:List Int}(hr:P4 Γ S v 1 (A8 xs))(hl:xs.length≤1000000)(hw:Wd Γ S w) :
  Calls Tryz.prog 53 #[v] w fun e w'=>∃v',e=.returned v'∧Wd Γ (.own v' 3 1 (A8 (z7 IC xs))::S) w':=by
 obtain⟨a,n,c,rfl,hn,hnc,hc⟩:=hr.shape;simp only[A8,List.length_map]at hn
 refine A7 Tryz.func53 rfl rfl ?_
 refine A6 ?_;have hw:Wd Γ (.own (.slice none 0 0) 3 1 []::S) w:=Wd.addNil hw
 refine T3 (i:=0) (rows2:=A8 xs) ?_ (hr.cons.rd hw) (h1:=Is xs) (hm:=by simp[A8];exact hn)
 intro v' w hw;obtain⟨q,m,d,rfl,hm,-,-⟩:=hw.own_shape (i:=0) rfl
 simp[A8]at hm
 have hw:Wd Γ (.own (.slice q m d) 3 1 (A8 xs)::S) w:=hw
 refine A6 ?_;refine B3 (fun μ ρ w=>∃(i:Nat) (Y:List Int),1≤i∧(m≤i+μ)∧Y.length=m∧z7 IC xs=Dx IC (m-i) i Y∧Has ρ [(3,.slice q m d),(4,.int .i64 i)]∧Wd Γ (.own (.slice q m d) 3 1 (A8 Y)::S) w) m ⟨1,xs,by omega,by omega,hm.symm,by unfold z7;rw[←hm],⟨rfl,rfl,trivial⟩,hw⟩ ?_
 clear hw;rintro μ ρ w ⟨i,Y,hi,hμ,hY,hB,hρ,hw⟩
 rw[hρ.eq];refine A6 ?_;refine A0 rfl (fun h=>?_) (fun h=>?_)
 ·have him:i<m:=by simpa using h
  have hB2:z7 IC xs=Dx IC (m-(i+1)) (i+1) (Lk IC i Y):=by
   rw[hB,show m-i=(m-(i+1))+1 by omega];rfl
  refine A6 ?_;refine B3 (fun μ2 ρ w=>∃(k:Nat) (Z:List Int),μ2=k∧k≤i∧Z.length=m∧Lk IC i Y=Lk IC k Z∧Has ρ [(3,.slice q m d),(4,.int .i64 i),(5,.int .i64 k)]∧Wd Γ (.own (.slice q m d) 3 1 (A8 Z)::S) w) i ⟨i,Y,rfl,Nat.le_refl _,hY,rfl,⟨rfl,rfl,rfl,trivial⟩,hw⟩ ?_
  clear hw;rintro μ2 ρ w ⟨k,Z,rfl,hk,hZ,hC,hρ,hw⟩
  rw[hρ.eq];refine y0 ?_
  refine y0 ?_
  have hnr:m=(A8 Z).length:=by simp[A8];omega
  cases μ2 with
  | zero=>
   refine G9 (by kernel_rfl) (by kernel_rfl) hw ?_
   iterate 3 (first|refine Bs ?_|(apply U3;first|(apply i9;first|refine qP ?_|refine Vs ?_)|refine qY ?_)|(apply M9;first|(apply i9;first|refine Vr ?_|refine IY ?_)|refine qG ?_))
   iterate 10 (refine qGF ?_ rfl)
   refine qY (v:=.bool false) ?_ (hy:=fun w hw=>BV rfl rfl)
   refine Bs ?_
   clear hw;intro w hw;refine A0 rfl (fun h=>by cases h) (fun _=>?_)
   refine A6 ?_;exact⟨μ-1,by omega,i+1,Z,by omega,by omega,hZ,by rw[hB2,hC];rfl,⟨rfl,rfl,trivial⟩,hw⟩
  | succ k=>
   obtain⟨x,hx⟩:=B2 (l:=Z) (k:=k+1) (by omega)
   obtain⟨y,hy⟩:=B2 (l:=Z) (k:=k) (by omega)
   have e1:(((k+1:Nat):Int)-1)=(k:Int):=by omega
   have hx':Z[((k+1:Nat):Int).toNat]? = some x:=hx
   have hy':Z[(((k+1:Nat):Int)-1).toNat]? = some y:=by rw[e1];exact hy
   refine G9 (by kernel_rfl) (by kernel_rfl) hw ?_
   iterate 1 (first|refine Bs ?_|(apply U3;first|(apply i9;first|refine qP ?_|refine Vs ?_)|refine qY ?_)|(apply M9;first|(apply i9;first|refine Vr ?_|refine IY ?_)|refine qG ?_))
   refine qT (b:=decide ((0:Int)<((k+1:Nat):Int))) (decide_eq_true (by omega)) ?_
   refine X3 ?_;clear hw;intro w hw;refine A0 rfl (fun h2=>?_) (fun h2=>?_)
   ·have h2:IC x y=true:=by simpa[IC] using h2
    rw[OZ hx hy h2]at hC;refine A6 ?_;refine DJ (k:=k+1) (i:=0) ?_
    intro w hw;have hw:Wd Γ (.own (.slice q m d) 3 1 ((A8 Z).set (k+1) [.int .i64 y])::S) w:=hw
    rw[QK]at hw;have hnr:m=(A8 (Z.set (k+1) y)).length:=by simp[A8];omega
    refine A6 ?_;refine DJ (k:=k) (i:=0) ?_ (hx:=by show Value.pointer _=_;rw[show (((k+1:Nat):Int)-1).toNat=k by omega])
    intro w hw;have hw:Wd Γ (.own (.slice q m d) 3 1 ((A8 (Z.set (k+1) y)).set k [.int .i64 x])::S) w:=hw
    rw[QK]at hw;refine A6 ?_;exact⟨k,by omega,k,_,rfl,by omega,by simp;omega,hC,⟨rfl,rfl,by show Value.int .i64 (((k+1:Nat):Int)-1)=_;rw[e1],trivial⟩,hw⟩
   ·have h2:¬IC x y=true:=by
     have:IC x y=false:=by simpa[IC] using h2
     rw[this];simp
    rw[Pq hx hy h2]at hC;refine A6 ?_;exact⟨μ-1,by omega,i+1,Z,by omega,by omega,hZ,by rw[hB2,hC],⟨rfl,rfl,trivial⟩,hw⟩
 ·have him:¬i<m:=by simpa using h
  refine A6 ?_;refine⟨_,rfl,_,rfl,?_⟩
  rw[hB,show m-i=0 by omega];exact hw
theorem bX{Γ:C8}{S:List B6}{w:World}{xs:List F0}{nm:ByteArray}{v1 v2 v3 v4 v5:Value}(hr:P4 Γ S v1 4 (xs.map enc))(hl:xs.length≤1000000)(hw:Wd Γ S w) :
  Calls Tryz.prog 54 #[.agg #[.string nm,v1,v2,v3,v4,v5]] w fun e w'=>∃v',e=.returned v'∧Wd Γ (.own v' 3 1 (A8 (xs.map (·.ID)))::S) w':=by
 obtain⟨a,n,c,rfl,hn,hnc,hc⟩:=hr.shape;have hnr:=hn
 simp only[List.length_map]at hn
 refine A7 Tryz.func54 rfl rfl ?_
 refine A6 ?_;refine H2 ?_;intro b1 w hw;have hw:Wd Γ (.blk b1 (.cells #[.string nm,.slice a n c,v2,v3,v4,v5] 44)::S) w:=hw
 have hw:Wd Γ (.own (.slice none 0 0) 3 1 (A8 ((xs.take 0).map (·.ID)))::.blk b1 (.cells #[.string nm,.slice a n c,v2,v3,v4,v5] 44)::S) w:=Wd.addNil hw
 refine A6 ?_;refine B3 (fun μ ρ w=>∃(k:Nat) (q:Option Addr) (m d:Nat),μ+k=n∧Has ρ [(1,.pointer (some ⟨b1,0,none⟩)),(3,.slice q m d),(4,.int .i64 k)]∧Wd Γ (.own (.slice q m d) 3 1 (A8 ((xs.take k).map (·.ID)))::.blk b1 (.cells #[.string nm,.slice a n c,v2,v3,v4,v5] 44)::S) w) n ⟨0,none,0,0,by omega,⟨rfl,rfl,rfl,trivial⟩,hw⟩ ?_
 clear hw;rintro μ ρ w ⟨k,q,m,d,hk,hρ,hw⟩
 have hm:=Q8 (i:=0) hw rfl
 simp only[A8,List.length_map,List.length_take]at hm
 have hr1:P4 Γ (.own (.slice q m d) 3 1 (A8 ((xs.take k).map (·.ID)))::.blk b1 (.cells #[.string nm,.slice a n c,v2,v3,v4,v5] 44)::S) (.slice a n c) 4 (xs.map enc):=hr.cons.cons
 rw[hρ.eq];refine A6 ?_;refine A0 rfl (fun h=>?_) (fun h=>?_)
 ·have hkn:k<n:=by simpa using h
  obtain⟨x,hx⟩:=B2 (l:=xs) (k:=k) (by omega)
  refine A6 ?_;refine B5 [[.int .i64 x.ID]] ?_
  intro ab w hw;refine T3 (i:=1) (rows2:=[[.int .i64 x.ID]]) ?_ (Wd.own_rd (i:=0) hw rfl)
  intro v' w hw;obtain⟨q',m',d',rfl,-,-,-⟩:=hw.own_shape (i:=1) rfl
  have hw:Wd Γ (.own (.slice q' m' d') 3 1 (A8 ((xs.take (k+1)).map (·.ID)))::.blk b1 (.cells #[.string nm,.slice a n c,v2,v3,v4,v5] 44)::S) w:=by
   rw[←FM (f:=fun c:F0=>c.ID) hx];exact hw.drop
  refine A6 ?_;exact⟨μ-1,by omega,k+1,_,_,_,by omega,⟨rfl,rfl,rfl,trivial⟩,hw⟩
 ·have hkn:¬k<n:=by simpa using h
  rw[List.take_of_length_le (by omega)]at hw
  refine A6 ?_;exact⟨_,rfl,_,rfl,hw.dropAt 1⟩
def E5(sh:Int)(j:Int):Int:=(5*j+sh)%64
def AM(nodes sh n:Int):Prop:=∃j:Int,0≤j∧j<nodes∧n=E5 sh j
def Jl(nodes sh first:Int)(l:List F0):Prop:=∀(i:Nat) (x:F0),l[i]? = some x→x.ID=(3*i+first)%32∧(x.Width=32∨x.Width=39)∧AM nodes sh x.Node∧1≤x.Speed∧x.Speed≤4
def FK(sh:Int)(l:E9)(p:Nat×Nat):Prop:=(l.A=E5 sh p.1∧l.B=E5 sh p.2∨l.A=E5 sh p.2∧l.B=E5 sh p.1)∧1≤l.Latency∧l.Latency≤9
def m9(sh:Int)(k:Nat)(l:List E9):Prop:=l.length≤2*k∧∃P:List (Nat×Nat),P.length=l.length∧P.Nodup∧(∀p∈P,p.2<p.1∧p.1<k)∧(∀(i:Nat) (x:E9) (p:Nat×Nat),l[i]? = some x→P[i]? = some p→FK sh x p)∧∀i,1≤i→i<k→∃j,(i,j)∈P
def IZ(i:Nat):ByteArray:=⟨#[114,97,109,UInt8.ofNat (48+i)]⟩
def IU(i:Nat):ByteArray:=⟨#[100,101,118,UInt8.ofNat (48+i)]⟩
def BN(i:Nat):ByteArray:=⟨#[112,97,105,114,UInt8.ofNat (48+i)]⟩
def Fu(i:Nat):ByteArray:=⟨#[111,119,110,UInt8.ofNat (48+i)]⟩
def PW(nodes sh:Int)(l:List I3):Prop:=∀(i:Nat) (x:I3),l[i]? = some x→x.Name=IZ i∧x.Base=(5-i)*16777216∧(∃e:Nat,12≤e∧e≤19∧x.Size=2 ^ e)∧AM nodes sh x.Node∧1≤x.Latency∧x.Latency≤9
def Nb(nodes sh irq:Int)(l:List AA):Prop:=∀(i:Nat) (x:AA),l[i]? = some x→x.Name=IU i∧AM nodes sh x.Node∧x.IRQ=(7*i+irq)%256∧x.Base=4294967296+i*65536∧(∃t:Int,1≤t∧t≤3∧x.Size=4096*t)
def Sb:ByteArray:=⟨#[97,108,108]⟩
def Bl(ids:List Int)(p:Nat×Nat):R5:=
 if p.1=3 then ⟨Sb,3,64,1048576,ids⟩ else if p.1=2 then ⟨BN p.2,2,64,65536,(ids.drop (2*p.2)).take 2⟩ else ⟨Fu p.2,1,32,4096,(ids.drop (2*p.2)).take 1⟩
def BR(ids:List Int)(k:Nat)(T:List (Nat×Nat)):Prop:=T.Nodup∧T.length≤1+2*k∧∀p∈T,p=(3,0)∨((p.1=2∨p.1=1)∧p.2<k∧2*p.2<ids.length)
def TK(ids:List Int)(l:List R5):Prop:=∃k T,BR ids k T∧k≤4∧l=T.map (Bl ids)
structure QJ(H:J6)(nodes sh first irq:Int):Prop where
 nd:1≤nodes∧nodes≤6
 sr:0≤sh∧sh<64
 fi:0≤first∧first<32
 iq:0≤irq∧irq<256
 nm:H.Name=⟨#[109]⟩
 nc:1≤H.Cores.length∧H.Cores.length≤8
 co:Jl nodes sh first H.Cores
 li:m9 sh nodes.toNat H.Links
 nm':H.Mems.length≤4
 me:PW nodes sh H.Mems
 nd':H.Devs.length≤4
 de:Nb nodes sh irq H.Devs
 ca:TK (z7 IC (H.Cores.map (·.ID))) H.Caches
theorem o8{α:Type}{l:List α}{y x:α}{i:Nat}(h:(l++[y])[i]? = some x):l[i]? = some x∨(i=l.length∧x=y):=by
 rw[List.getElem?_append]at h;split at h
 ·exact .inl h
 ·rename_i h2
  rcases Nat.eq_or_lt_of_le (Nat.not_lt.1 h2) with e|e
  ·subst e;simp at h;exact .inr ⟨rfl,h.symm⟩
  ·rw[List.getElem?_eq_none (by simp;omega)]at h;cases h
theorem Jl.snoc{nodes sh first:Int}{l:List F0}{x:F0}(h:Jl nodes sh first l)(hx:x.ID=(3*l.length+first)%32∧(x.Width=32∨x.Width=39)∧AM nodes sh x.Node∧1≤x.Speed∧x.Speed≤4):Jl nodes sh first (l++[x]):=fun i y hy=>by
 rcases o8 hy with h1|⟨rfl,rfl⟩
 ·exact h i y h1
 ·exact hx
theorem PW.snoc{nodes sh:Int}{l:List I3}{x:I3}(h:PW nodes sh l)(hx:x.Name=IZ l.length∧x.Base=(5-l.length)*16777216∧(∃e:Nat,12≤e∧e≤19∧x.Size=2 ^ e)∧AM nodes sh x.Node∧1≤x.Latency∧x.Latency≤9):PW nodes sh (l++[x]):=fun i y hy=>by
 rcases o8 hy with h1|⟨rfl,rfl⟩
 ·exact h i y h1
 ·exact hx
theorem Nb.snoc{nodes sh irq:Int}{l:List AA}{x:AA}(h:Nb nodes sh irq l)(hx:x.Name=IU l.length∧AM nodes sh x.Node∧x.IRQ=(7*l.length+irq)%256∧x.Base=4294967296+l.length*65536∧(∃t:Int,1≤t∧t≤3∧x.Size=4096*t)):Nb nodes sh irq (l++[x]):=fun i y hy=>by
 rcases o8 hy with h1|⟨rfl,rfl⟩
 ·exact h i y h1
 ·exact hx
theorem m9.start{sh:Int}:m9 sh 1 []:=⟨by simp,[],rfl,List.nodup_nil,by simp,by simp,fun i h1 h2=>by omega⟩
theorem m9.one{sh:Int}{k up:Nat}{l:List E9}{x:E9}(h:m9 sh k l)(hup:up<k)(hx:FK sh x (k,up)):m9 sh (k+1) (l++[x]):=by
 obtain⟨h1,P,h2,h3,h4,h5,h6⟩:=h;refine⟨by simp;omega,P++[(k,up)],by simp[h2],P8.2 ⟨h3,fun hm=>by have:=h4 _ hm;simp at this⟩,fun p hp=>?_,fun i y p hy hp=>?_,fun i hi hk=>?_⟩
 ·rcases List.mem_append.1 hp with hp|hp
  ·have:=h4 p hp;omega
  ·cases List.mem_singleton.1 hp;dsimp;omega
 ·rcases o8 hy with a|⟨a,rfl⟩
  ·rcases o8 hp with b|⟨b,rfl⟩
   ·exact h5 i y p a b
   ·have:=(List.getElem?_eq_some_iff.1 a).1;omega
  ·subst a;rw[←h2]at hp;simp at hp;subst hp;exact hx
 ·by_cases e:i=k
  ·subst e;exact⟨up,by simp⟩
  ·obtain⟨j,hj⟩:=h6 i hi (by omega);exact⟨j,List.mem_append_left _ hj⟩
theorem m9.two{sh:Int}{k up mo:Nat}{l:List E9}{x y:E9}(h:m9 sh k l)(hk1:1≤k)(hup:up<k)(hmo:mo<k)(hne:mo≠up)(hx:FK sh x (k,up))(hy:FK sh y (k,mo)):m9 sh (k+1) (l++[x]++[y]):=by
 obtain⟨h1,P,h2,h3,h4,h5,h6⟩:=h;have hfresh:∀j,(k,j)∉P:=fun j hm=>by have:=h4 _ hm;simp at this
 refine⟨by simp;omega,P++[(k,up)]++[(k,mo)],by simp[h2],P8.2 ⟨P8.2 ⟨h3,hfresh up⟩,fun hm=>?_⟩,fun p hp=>?_,fun i z p hz hp=>?_,fun i hi hk=>?_⟩
 ·rcases List.mem_append.1 hm with hm|hm
  ·exact hfresh mo hm
  ·simp at hm;exact hne hm
 ·rcases List.mem_append.1 hp with hp|hp
  ·rcases List.mem_append.1 hp with hp|hp
   ·have:=h4 p hp;omega
   ·cases List.mem_singleton.1 hp;dsimp;omega
  ·cases List.mem_singleton.1 hp;dsimp;omega
 ·rcases o8 hz with a|⟨a,rfl⟩
  ·have ha:=(List.getElem?_eq_some_iff.1 a).1
   simp at ha
   rcases o8 hp with b|⟨b,rfl⟩
   ·rcases o8 a with a2|⟨a2,rfl⟩
    ·rcases o8 b with b2|⟨b2,rfl⟩
     ·exact h5 i z p a2 b2
     ·have:=(List.getElem?_eq_some_iff.1 a2).1;omega
    ·subst a2;rw[←h2]at b;simp at b;subst b;exact hx
   ·simp at b;omega
  ·simp at a;subst a
   rw[←h2]at hp;simp[List.getElem?_append]at hp;subst hp;exact hy
 ·by_cases e:i=k
  ·subst e;exact⟨up,by simp⟩
  ·obtain⟨j,hj⟩:=h6 i hi (by omega);exact⟨j,List.mem_append_left _ (List.mem_append_left _ hj)⟩
theorem BR.start{ids:List Int}:BR ids 0 []:=⟨List.nodup_nil,by simp,by simp⟩
theorem BR.all{ids:List Int}:BR ids 0 [(3,0)]:=⟨by simp,by simp,by simp⟩
theorem BR.step{ids:List Int}{k:Nat}{T:List (Nat×Nat)}(h:BR ids k T)(hk:2*k<ids.length)(b1 b2:Bool):BR ids (k+1) (T++(if b1=true then [(2,k)] else [])++(if b2=true then [(1,k)] else [])):=by
 obtain⟨h1,h2,h3⟩:=h;have hfr:∀t,t≠3→(t,k)∉T:=fun t ht hm=>by
  rcases h3 _ hm with h|h
  ·injection h with h4 _;exact ht h4
  ·have:=h.2.1;dsimp at this;omega
 have hold:∀p∈T,p=(3,0)∨((p.1=2∨p.1=1)∧p.2<k+1∧2*p.2<ids.length):=fun p hp=>by
  rcases h3 p hp with h|⟨a,b,c⟩
  ·exact .inl h
  ·exact .inr ⟨a,by omega,c⟩
 cases b1 <;> cases b2 <;> simp only[if_true,if_false,List.append_nil,Bool.false_eq_true]
 ·exact⟨h1,by omega,hold⟩
 ·refine⟨P8.2 ⟨h1,hfr 1 (by decide)⟩,by simp;omega,fun p hp=>?_⟩
  rcases List.mem_append.1 hp with hp|hp
  ·exact hold p hp
  ·cases List.mem_singleton.1 hp;exact .inr ⟨.inr rfl,by dsimp;omega,by dsimp;omega⟩
 ·refine⟨P8.2 ⟨h1,hfr 2 (by decide)⟩,by simp;omega,fun p hp=>?_⟩
  rcases List.mem_append.1 hp with hp|hp
  ·exact hold p hp
  ·cases List.mem_singleton.1 hp;exact .inr ⟨.inl rfl,by dsimp;omega,by dsimp;omega⟩
 ·refine⟨P8.2 ⟨P8.2 ⟨h1,hfr 2 (by decide)⟩,fun hm=>?_⟩,by simp;omega,fun p hp=>?_⟩
  ·rcases List.mem_append.1 hm with hm|hm
   ·exact hfr 1 (by decide) hm
   ·simp at hm
  ·rcases List.mem_append.1 hp with hp|hp
   ·rcases List.mem_append.1 hp with hp|hp
    ·exact hold p hp
    ·cases List.mem_singleton.1 hp;exact .inr ⟨.inl rfl,by dsimp;omega,by dsimp;omega⟩
   ·cases List.mem_singleton.1 hp;exact .inr ⟨.inr rfl,by dsimp;omega,by dsimp;omega⟩
set_option maxHeartbeats 4000000
theorem Vh{α:Type}{l:List α}{k:Nat}{x y:α}(hx:l[k+1]? = some x)(hy:l[k]? = some y):((l.set (k+1) y).set k x).Perm l:=by
 induction l generalizing k with
 | nil=>simp at hx
 | cons a l ih=>
  cases k with
  | zero=>
   cases l with
   | nil=>simp at hx
   | cons b l=>
    simp at hx hy
    subst hx hy;exact List.Perm.swap _ _ _
  | succ k=>
   simp only[List.getElem?_cons_succ]at hx hy
   simp only[List.set_cons_succ]
   exact List.Perm.cons _ (ih hx hy)
theorem QC{α:Type}{lt:α→α→Bool}:∀(k:Nat) (l:List α),(Lk lt k l).Perm l
 | 0,l=>List.Perm.refl _
 | k+1,l=>by
  unfold Lk;split
  ·rename_i x y hx hy
   split
   ·exact(QC k _).trans (Vh hx hy)
   ·exact List.Perm.refl _
  ·exact List.Perm.refl _
theorem IJ{α:Type}{lt:α→α→Bool}:∀(f i:Nat) (l:List α),(Dx lt f i l).Perm l
 | 0,_,l=>List.Perm.refl _
 | f+1,i,l=>(IJ f (i+1) _).trans (QC i l)
theorem FP{α:Type}{lt:α→α→Bool}(l:List α):(z7 lt l).Perm l:=IJ _ _ _
def Qe{α:Type}(le:α→α→Prop)(l:List α)(p q:Nat):Prop:=∀x y,l[p]? = some x→l[q]? = some y→le x y
structure aL{α:Type}(le:α→α→Prop)(lt:α→α→Bool):Prop where
 t:∀ {x y},lt x y=true→le x y
 f:∀ {x y},lt x y=false→le y x
 tr:∀ {x y z},le x y→le y z→le x z
theorem JG{α:Type}{le:α→α→Prop}{lt:α→α→Bool}(hl:aL le lt):∀(k i:Nat) (l:List α),k≤i→i<l.length→(∀p q,p<q→q≤i→p≠k→q≠k→Qe le l p q)→(∀q,k<q→q≤i→Qe le l k q)→∀p q,p<q→q≤i→Qe le (Lk lt k l) p q
 | 0,i,l,hk,hi,h1,h2,p,q,hpq,hq=>by
  show Qe le l p q
  by_cases e:p=0
  ·subst e;exact h2 q hpq hq
  ·exact h1 p q hpq hq e (by omega)
 | k+1,i,l,hk,hi,h1,h2,p,q,hpq,hq=>by
  obtain⟨x,hx⟩:=B2 (l:=l) (k:=k+1) (by omega)
  obtain⟨y,hy⟩:=B2 (l:=l) (k:=k) (by omega)
  by_cases hlt:lt x y=true
  ·rw[OZ hx hy hlt];have g0:∀r,r≠k→r≠k+1→((l.set (k+1) y).set k x)[r]? = l[r]?:=fun r a b=>by
    rw[List.getElem?_set_ne (by omega),List.getElem?_set_ne (by omega)]
   have g1:((l.set (k+1) y).set k x)[k]? = some x:=by rw[List.getElem?_set_self (by simp;omega)]
   have g2:((l.set (k+1) y).set k x)[k+1]? = some y:=by rw[List.getElem?_set_ne (by omega),List.getElem?_set_self (by omega)]
   refine JG hl k i _ (by omega) (by simp;omega) (fun p q hpq hq hp1 hq1=>?_) (fun q hkq hq=>?_) p q hpq hq
   ·intro u v hu hv;by_cases e1:q=k+1
    ·subst e1;rw[g2]at hv;cases hv
     rw[g0 p hp1 (by omega)]at hu
     exact h1 p k (by omega) (by omega) (by omega) (by omega) u y hu hy
    ·rw[g0 q hq1 e1]at hv;by_cases e2:p=k+1
     ·subst e2;rw[g2]at hu;cases hu
      exact h1 k q (by omega) hq (by omega) e1 y v hy hv
     ·rw[g0 p hp1 e2]at hu;exact h1 p q hpq hq e2 e1 u v hu hv
   ·intro u v hu hv;rw[g1]at hu;cases hu
    by_cases e1:q=k+1
    ·subst e1;rw[g2]at hv;cases hv;exact hl.t hlt
    ·rw[g0 q (by omega) e1]at hv
     exact h2 q (by omega) hq x v hx hv
  ·rw[Pq hx hy hlt];have hge:le y x:=hl.f (by simpa using hlt)
   by_cases e1:p=k+1
   ·subst e1;exact h2 q hpq hq
   ·by_cases e2:q=k+1
    ·subst e2;intro u v hu hv;rw[hx]at hv;cases hv
     by_cases e3:p=k
     ·subst e3;rw[hy]at hu;cases hu;exact hge
     ·exact hl.tr (h1 p k (by omega) (by omega) e1 (by omega) u y hu hy) hge
    ·exact h1 p q hpq hq e1 e2
theorem Bh{α:Type}{le:α→α→Prop}{lt:α→α→Bool}(hl:aL le lt):∀(f i:Nat) (l:List α),l.length≤i+f→(∀p q,p<q→q<i→Qe le l p q)→∀p q,p<q→Qe le (Dx lt f i l) p q
 | 0,i,l,hf,h,p,q,hpq=>by
  intro u v hu hv;have:q<l.length:=(List.getElem?_eq_some_iff.1 hv).1
  exact h p q hpq (by omega) u v hu hv
 | f+1,i,l,hf,h,p,q,hpq=>by
  by_cases hi:i<l.length
  ·refine Bh hl f (i+1) (Lk lt i l) (by rw[Ia];omega) (fun p q hpq hq=>?_) p q hpq
   exact JG hl i i l (Nat.le_refl _) hi (fun p q a b c d=>h p q a (by omega)) (fun q a b=>by omega) p q hpq (by omega)
  ·refine Bh hl f (i+1) (Lk lt i l) (by rw[Ia];omega) (fun p q hpq hq=>?_) p q hpq
   have hb:Lk lt i l=l:=by
    cases i with
    | zero=>rfl
    | succ i=>unfold Lk;rw[List.getElem?_eq_none (by omega)]
   rw[hb];intro u v hu hv;have:q<l.length:=(List.getElem?_eq_some_iff.1 hv).1
   exact h p q hpq (by omega) u v hu hv
theorem Mj{α:Type}{le:α→α→Prop}{lt:α→α→Bool}(hl:aL le lt)(l:List α){p q:Nat}(hpq:p<q):Qe le (z7 lt l) p q:=
 Bh hl _ 1 l (by omega) (fun p q a b=>by omega) p q hpq
theorem fG:aL (fun a b:Int=>a≤b) IC:=⟨fun h=>by unfold IC at h;simp at h;omega,fun h=>by unfold IC at h;simp at h;omega,fun a b=>Int.le_trans a b⟩
theorem ft{l:List Int}:AQ (z7 IC l):=fun i a b ha hb=>Mj fG l (Nat.lt_succ_self i) a b ha hb
section
variable {H:J6}{nodes sh first irq:Int}
theorem Wj(sh j:Int):0≤E5 sh j∧E5 sh j<64:=by unfold E5;omega
theorem CL{sh:Int}{i j:Int}(h0:0≤i)(h1:i<6)(h2:0≤j)(h3:j<6)(h:E5 sh i=E5 sh j):i=j:=by unfold E5 at h;omega
theorem Di(sh j:Int):J3 (E5 sh j)=true:=by
 have:=Wj sh j
 simp[J3];omega
theorem AM.ok{n:Int}(h:AM nodes sh n):J3 n=true:=by obtain⟨j,-,-,rfl⟩:=h;exact Di sh j
theorem T7{α:Type}{l:List α}{x:α}(h:x∈l):∃i,i<l.length∧l[i]? = some x:=by
 obtain⟨i,hi,he⟩:=List.getElem_of_mem h
 exact⟨i,hi,by rw[List.getElem?_eq_getElem hi,he]⟩
theorem cN{ids:List Int}{k:Nat}{T:List (Nat×Nat)}(h:BR ids k T)(hk:k≤4){p:Nat×Nat}(hp:p∈T):p=(3,0)∨((p.1=2∨p.1=1)∧p.2<4∧2*p.2<ids.length):=by
 rcases h.2.2 p hp with h|⟨a,b,c⟩
 ·exact .inl h
 ·exact .inr ⟨a,by omega,c⟩
theorem aN{i:Nat}(h:i<4):F8 (IZ i)=true:=by
 have:i=0∨i=1∨i=2∨i=3:=by omega
 rcases this with rfl|rfl|rfl|rfl <;> decide +kernel
theorem Ze{i:Nat}(h:i<4):F8 (IU i)=true:=by
 have:i=0∨i=1∨i=2∨i=3:=by omega
 rcases this with rfl|rfl|rfl|rfl <;> decide +kernel
theorem Yg{i:Nat}(h:i<4):F8 (BN i)=true:=by
 have:i=0∨i=1∨i=2∨i=3:=by omega
 rcases this with rfl|rfl|rfl|rfl <;> decide +kernel
theorem aw{i:Nat}(h:i<4):F8 (Fu i)=true:=by
 have:i=0∨i=1∨i=2∨i=3:=by omega
 rcases this with rfl|rfl|rfl|rfl <;> decide +kernel
inductive AH (ids:List Int):R5→Nat×Nat→Prop
 | all:AH ids ⟨Sb,3,64,1048576,ids⟩ (3,0)
 | pair {t:Nat}:t<4→2*t<ids.length→AH ids ⟨BN t,2,64,65536,(ids.drop (2*t)).take 2⟩ (2,t)
 | own {t:Nat}:t<4→2*t<ids.length→AH ids ⟨Fu t,1,32,4096,(ids.drop (2*t)).take 1⟩ (1,t)
theorem Cn{ids:List Int}{k:Nat}{T:List (Nat×Nat)}(h:BR ids k T)(hk:k≤4){p:Nat×Nat}(hp:p∈T):AH ids (Bl ids p) p:=by
 rcases cN h hk hp with rfl|⟨a,b,c⟩
 ·exact .all
 ·obtain⟨p1,p2⟩:=p;rcases a with rfl|rfl
  ·exact .pair b c
  ·exact .own b c
theorem Nj{ids:List Int}{c:R5}{p:Nat×Nat}(h:AH ids c p):F8 c.Name=true:=by
 cases h with
 | all=>show F8 Sb=true;decide +kernel
 | pair h=>exact Yg h
 | own h=>exact aw h
theorem Qc{ids:List Int}{c:R5}{p:Nat×Nat}(h:AH ids c p)(hi:0<ids.length):BS c=true:=by
 have e64:decide (Z1 .and .i64 64 (IntKind.i64.wrap (64-1))=0)=true:=by decide +kernel
 have e32:decide (Z1 .and .i64 32 (IntKind.i64.wrap (32-1))=0)=true:=by decide +kernel
 have w64:IntKind.u64.wrap 64=64:=by decide +kernel
 have UK:IntKind.u64.wrap 32=32:=by decide +kernel
 cases h with
 | all=>unfold BS;dsimp only;rw[e64,w64];simp;omega
 | pair h1 h2=>unfold BS;dsimp only;rw[e64,w64];simp;omega
 | own h1 h2=>unfold BS;dsimp only;rw[e32,UK];simp;omega
theorem Zl(g:QJ H nodes sh first irq):(z7 IC (H.Cores.map (·.ID))).length=H.Cores.length:=by rw[Lg];simp
theorem Lo(g:QJ H nodes sh first irq):t6 H=true:=by
 have hh:AL H=true:=by unfold AL;rw[g.nm];decide +kernel
 obtain⟨k,T,hT,hk,hc⟩:=g.ca;unfold t6;rw[hh];simp only[Bool.true_and,Bool.and_eq_true,List.all_eq_true]
 refine⟨⟨fun c hcm=>?_,fun x hx=>?_⟩,fun x hx=>?_⟩
 ·rw[hc]at hcm;obtain⟨p,hp,rfl⟩:=List.mem_map.1 hcm
  exact Nj (Cn hT hk hp)
 ·obtain⟨i,hi,he⟩:=T7 hx
  rw[(g.me i x he).1];exact aN (by have:=g.nm';omega)
 ·obtain⟨i,hi,he⟩:=T7 hx
  rw[(g.de i x he).1];exact Ze (by have:=g.nd';omega)
theorem Rs(g:QJ H nodes sh first irq):S6 H=true:=by
 obtain⟨k,T,hT,hk,hc⟩:=g.ca;have h1:=g.nc
 have h2:=g.nm'
 have h3:=g.nd'
 have h4:=g.li.1
 have h5:=g.nd
 have h6:=hT.2.1
 have h7:H.Caches.length=T.length:=by rw[hc];simp
 unfold S6;simp only[Bool.and_eq_true,decide_eq_true_eq]
 omega
theorem Nl{s:Int}(h0:0≤s)(h:s≤1099511627776):IntKind.u64.wrap (1099511627776-s)=1099511627776-s:=by simp[IntKind.wrap,IntKind.bits,IntKind.signed];omega
theorem Tl{e:Nat}(h1:12≤e)(h2:e≤19):(4096:Int)≤2 ^ e∧(2:Int) ^ e≤524288:=by
 have:e=12∨e=13∨e=14∨e=15∨e=16∨e=17∨e=18∨e=19:=by omega
 rcases this with rfl|rfl|rfl|rfl|rfl|rfl|rfl|rfl <;> decide
theorem Tq(g:m9 sh nodes.toNat H.Links){i:Nat}{x:E9}(hx:H.Links[i]? = some x):∃P:List (Nat×Nat),P.length=H.Links.length∧P.Nodup∧(∃p,P[i]? = some p)∧∀(i:Nat) (x:E9),H.Links[i]? = some x→∃p,P[i]? = some p∧FK sh x p∧p.2<p.1∧p.1<nodes.toNat:=by
 obtain⟨-,P,h2,h3,h4,h5,-⟩:=g;refine⟨P,h2,h3,?_,fun i x hx=>?_⟩
 ·exact B2 (by have:=(List.getElem?_eq_some_iff.1 hx).1;omega)
 ·obtain⟨p,hp⟩:=B2 (l:=P) (k:=i) (by have:=(List.getElem?_eq_some_iff.1 hx).1;omega)
  exact⟨p,hp,h5 i x p hx hp,h4 p (List.mem_of_getElem? hp)⟩
theorem UO(g:QJ H nodes sh first irq):K3 H=true:=by
 obtain⟨k,T,hT,hk,hc⟩:=g.ca;have hfi:=g.fi
 have hnd:=g.nd
 unfold K3;simp only[Bool.and_eq_true,List.all_eq_true]
 refine⟨fun x hx=>?_,fun c hcm=>?_,fun x hx=>?_⟩
 ·obtain⟨i,hi,he⟩:=T7 hx
  obtain⟨h1,h2,h3,h4,h5⟩:=g.co i x he
  have:=h3.ok
  unfold BB;rw[this];simp;omega
 ·rw[hc]at hcm;obtain⟨p,hp,rfl⟩:=List.mem_map.1 hcm
  exact Qc (Cn hT hk hp) (by rw[Zl g];have:=g.nc;omega)
 ·obtain⟨i,hi,he⟩:=T7 hx
  obtain⟨P,-,-,-,hP⟩:=Tq g.li he
  obtain⟨p,hp,⟨h1,h2,h3⟩,h4,h5⟩:=hP i x he
  have hne:E5 sh p.1≠E5 sh p.2:=fun e=>by
   have:=CL (by omega) (by omega) (by omega) (by omega) e
   omega
  unfold w3;rcases h1 with⟨a,b⟩|⟨a,b⟩
  ·rw[a,b,Di,Di];simp[u7];exact⟨hne,by omega⟩
  ·rw[a,b,Di,Di];simp[u7];exact⟨fun e=>hne e.symm,by omega⟩
theorem Ph(g:QJ H nodes sh first irq):H4 H=true:=by
 have h7:=g.nm'
 have h8:=g.nd'
 unfold H4;simp only[Bool.and_eq_true,List.all_eq_true]
 refine⟨fun x hx=>?_,fun x hx=>?_⟩
 ·obtain⟨i,hi,he⟩:=T7 hx
  obtain⟨h1,h2,⟨e,e1,e2,h3⟩,h4,h5,h6⟩:=g.me i x he
  obtain⟨p1,p2⟩:=Tl e1 e2
  unfold CR l8;rw[h4.ok,Nl (by omega) (by omega)]
  simp[u7];omega
 ·obtain⟨i,hi,he⟩:=T7 hx
  obtain⟨h1,h2,h3,h4,t,t1,t2,h5⟩:=g.de i x he
  have:=g.iq
  unfold FA l8;rw[h2.ok,Nl (by omega) (by omega)]
  simp;omega
theorem Ud{i e:Nat}(hi:i<4)(h1:12≤e)(h2:e≤19):(decide (Z1 .and .u64 (2 ^ e) (IntKind.u64.wrap (2 ^ e-1))=0)&&decide (Z1 .and .u64 ((5-(i:Int))*16777216) (IntKind.u64.wrap (2 ^ e-1))=0))=true:=by
 have a:i=0∨i=1∨i=2∨i=3:=by omega
 have b:e=12∨e=13∨e=14∨e=15∨e=16∨e=17∨e=18∨e=19:=by omega
 rcases a with rfl|rfl|rfl|rfl <;> rcases b with rfl|rfl|rfl|rfl|rfl|rfl|rfl|rfl <;> decide +kernel
theorem Uh(g:QJ H nodes sh first irq):o5 H=true:=by
 have h7:=g.nm'
 have h8:=g.nd'
 unfold o5;simp only[Bool.and_eq_true,List.all_eq_true]
 refine⟨fun x hx=>?_,fun x hx=>?_⟩
 ·obtain⟨i,hi,he⟩:=T7 hx
  obtain⟨h1,h2,⟨e,e1,e2,h3⟩,-⟩:=g.me i x he
  unfold GP;rw[h2,h3];exact Ud (by omega) e1 e2
 ·obtain⟨i,hi,he⟩:=T7 hx
  obtain⟨h1,h2,h3,h4,t,t1,t2,h5⟩:=g.de i x he
  unfold Hm;rw[h4,h5,Int.tmod_eq_emod_of_nonneg (by omega),Int.tmod_eq_emod_of_nonneg (by omega)]
  simp;omega
end
section
variable {H:J6}{nodes sh first irq:Int}
theorem Ap{α:Type}:∀ {l:List α},(∀(i j:Nat) (x:α),l[i]? = some x→l[j]? = some x→i=j)→l.Nodup
 | [],_=>List.nodup_nil
 | a::l,h=>List.nodup_cons.2 ⟨fun hm=>by
   obtain⟨i,hi,he⟩:=T7 hm
   have:=h 0 (i+1) a rfl (by simpa using he)
   omega,Ap fun i j x hi hj=>by
   have:=h (i+1) (j+1) x (by simpa using hi) (by simpa using hj)
   omega⟩
theorem Bq{α:Type}:∀ {l:List α},l.Nodup→∀ {i j:Nat} {x:α},l[i]? = some x→l[j]? = some x→i=j
 | [],_,i,j,x,h,_=>by simp at h
 | a::l,h,0,0,x,_,_=>rfl
 | a::l,h,0,j+1,x,h1,h2=>by
  simp at h1 h2;subst h1
  exact absurd (List.mem_of_getElem? h2) (List.nodup_cons.1 h).1
 | a::l,h,i+1,0,x,h1,h2=>by
  simp at h1 h2;subst h2
  exact absurd (List.mem_of_getElem? h1) (List.nodup_cons.1 h).1
 | a::l,h,i+1,j+1,x,h1,h2=>by
  simp at h1 h2
  rw[Bq (List.nodup_cons.1 h).2 h1 h2]
theorem S4{α β:Type}{f:α→β}{l:List α}{i:Nat}{y:β}(h:(l.map f)[i]? = some y):∃x,l[i]? = some x∧f x=y:=by
 rw[List.getElem?_map]at h;exact Option.map_eq_some_iff.1 h
theorem HF(g:QJ H nodes sh first irq):(H.Cores.map (·.ID)).Nodup:=Ap fun i j x hi hj=>by
 obtain⟨a,ha,rfl⟩:=S4 hi
 obtain⟨b,hb,he⟩:=S4 hj
 have h1:=(g.co i a ha).1
 have h2:=(g.co j b hb).1
 have:=(List.getElem?_eq_some_iff.1 ha).1
 have:=(List.getElem?_eq_some_iff.1 hb).1
 have:=g.nc
 have:=g.fi
 rw[h1,h2]at he;omega
theorem ZB{i j:Nat}(hi:i<4)(hj:j<4)(h:IZ i=IZ j):i=j:=by
 have a:i=0∨i=1∨i=2∨i=3:=by omega
 have b:j=0∨j=1∨j=2∨j=3:=by omega
 rcases a with rfl|rfl|rfl|rfl <;> rcases b with rfl|rfl|rfl|rfl <;> first|rfl|(revert h;decide +kernel)
theorem Yv{i j:Nat}(hi:i<4)(hj:j<4)(h:IU i=IU j):i=j:=by
 have a:i=0∨i=1∨i=2∨i=3:=by omega
 have b:j=0∨j=1∨j=2∨j=3:=by omega
 rcases a with rfl|rfl|rfl|rfl <;> rcases b with rfl|rfl|rfl|rfl <;> first|rfl|(revert h;decide +kernel)
theorem UP{i j:Nat}(hi:i<4)(hj:j<4)(h:BN i=BN j):i=j:=by
 have a:i=0∨i=1∨i=2∨i=3:=by omega
 have b:j=0∨j=1∨j=2∨j=3:=by omega
 rcases a with rfl|rfl|rfl|rfl <;> rcases b with rfl|rfl|rfl|rfl <;> first|rfl|(revert h;decide +kernel)
theorem Wz{i j:Nat}(hi:i<4)(hj:j<4)(h:Fu i=Fu j):i=j:=by
 have a:i=0∨i=1∨i=2∨i=3:=by omega
 have b:j=0∨j=1∨j=2∨j=3:=by omega
 rcases a with rfl|rfl|rfl|rfl <;> rcases b with rfl|rfl|rfl|rfl <;> first|rfl|(revert h;decide +kernel)
theorem CI{a b:ByteArray}(h:a.data.toList.head?≠b.data.toList.head?):a≠b:=fun e=>h (by rw[e])
theorem Rq{ids:List Int}{c d:R5}{p q:Nat×Nat}(h:AH ids c p)(k:AH ids d q)(e:c.Name=d.Name):p=q:=by
 cases h with
 | all=>cases k with
  | all=>rfl
  | pair=>exact absurd e (CI (by show some (97:UInt8)≠some 112;decide))
  | own=>exact absurd e (CI (by show some (97:UInt8)≠some 111;decide))
 | pair h1=>cases k with
  | all=>exact absurd e (CI (by show some (112:UInt8)≠some 97;decide))
  | pair h2=>rw[UP h1 h2 e]
  | own=>exact absurd e (CI (by show some (112:UInt8)≠some 111;decide))
 | own h1=>cases k with
  | all=>exact absurd e (CI (by show some (111:UInt8)≠some 97;decide))
  | pair=>exact absurd e (CI (by show some (111:UInt8)≠some 112;decide))
  | own h2=>rw[Wz h1 h2 e]
theorem GN{ids:List Int}{c:R5}{p:Nat×Nat}(h:AH ids c p):c.Cores.Sublist ids:=by
 cases h with
 | all=>exact List.Sublist.refl _
 | pair=>exact(List.take_sublist _ _).trans (List.drop_sublist _ _)
 | own=>exact(List.take_sublist _ _).trans (List.drop_sublist _ _)
theorem Je{x:E9}{p:Nat×Nat}(h:FK sh x p):Q3 x=(min (E5 sh p.1) (E5 sh p.2),max (E5 sh p.1) (E5 sh p.2)):=by
 obtain⟨h1,-⟩:=h;unfold Q3;rcases h1 with⟨a,b⟩|⟨a,b⟩
 ·rw[a,b];congr 1 <;> split <;> omega
 ·rw[a,b];congr 1 <;> split <;> omega
theorem Ot(g:QJ H nodes sh first irq):(H.Links.map Q3).Nodup:=Ap fun i j z hi hj=>by
 obtain⟨a,ha,rfl⟩:=S4 hi
 obtain⟨b,hb,he⟩:=S4 hj
 obtain⟨P,hl,hn,-,hP⟩:=Tq g.li ha
 obtain⟨p,hp,hp1,hp2,hp3⟩:=hP i a ha
 obtain⟨q,hq,hq1,hq2,hq3⟩:=hP j b hb
 have hnd:=g.nd
 rw[Je hp1,Je hq1]at he;injection he with e1 e2
 have hpq:p=q:=by
  have c:(E5 sh p.1=E5 sh q.1∧E5 sh p.2=E5 sh q.2)∨(E5 sh p.1=E5 sh q.2∧E5 sh p.2=E5 sh q.1):=by omega
  rcases c with⟨c1,c2⟩|⟨c1,c2⟩
  ·have d1:=CL (by omega) (by omega) (by omega) (by omega) c1
   have d2:=CL (by omega) (by omega) (by omega) (by omega) c2
   exact Prod.ext (by omega) (by omega)
  ·have d1:=CL (by omega) (by omega) (by omega) (by omega) c1
   have d2:=CL (by omega) (by omega) (by omega) (by omega) c2
   omega
 subst hpq;exact Bq hn hp hq
theorem Rk(g:QJ H nodes sh first irq):T6 H=true:=by
 obtain⟨k,T,hT,hk,hc⟩:=g.ca;have hids:(z7 IC (H.Cores.map (·.ID))).Nodup:=(FP _).nodup_iff.2 (HF g)
 unfold T6;simp only[Bool.and_eq_true,List.all_eq_true,decide_eq_true_eq]
 refine⟨fun c hcm=>?_,⟨⟨⟨⟨⟨HF g,?_⟩,?_⟩,?_⟩,?_⟩,Ot g⟩⟩
 ·rw[hc]at hcm;obtain⟨p,hp,rfl⟩:=List.mem_map.1 hcm
  exact hids.sublist (GN (Cn hT hk hp))
 ·rw[hc,List.map_map];refine Ap fun i j z hi hj=>?_
  obtain⟨p,hp,rfl⟩:=S4 hi
  obtain⟨q,hq,he⟩:=S4 hj
  have hpq:=Rq (Cn hT hk (List.mem_of_getElem? hq)) (Cn hT hk (List.mem_of_getElem? hp)) he
  subst hpq;exact Bq hT.1 hp hq
 ·refine Ap fun i j z hi hj=>?_
  obtain⟨a,ha,rfl⟩:=S4 hi
  obtain⟨b,hb,he⟩:=S4 hj
  rw[(g.me i a ha).1,(g.me j b hb).1]at he;have:=(List.getElem?_eq_some_iff.1 ha).1
  have:=(List.getElem?_eq_some_iff.1 hb).1
  have:=g.nm'
  exact(ZB (by omega) (by omega) he).symm
 ·refine Ap fun i j z hi hj=>?_
  obtain⟨a,ha,rfl⟩:=S4 hi
  obtain⟨b,hb,he⟩:=S4 hj
  rw[(g.de i a ha).1,(g.de j b hb).1]at he;have:=(List.getElem?_eq_some_iff.1 ha).1
  have:=(List.getElem?_eq_some_iff.1 hb).1
  have:=g.nd'
  exact(Yv (by omega) (by omega) he).symm
 ·refine Ap fun i j z hi hj=>?_
  obtain⟨a,ha,rfl⟩:=S4 hi
  obtain⟨b,hb,he⟩:=S4 hj
  have h1:=(g.de i a ha).2.2.1
  have h2:=(g.de j b hb).2.2.1
  rw[h1,h2]at he;have:=(List.getElem?_eq_some_iff.1 ha).1
  have:=(List.getElem?_eq_some_iff.1 hb).1
  have:=g.nd'
  have:=g.iq
  omega
theorem VP(g:QJ H nodes sh first irq):Ad H=true:=by
 obtain⟨k,T,hT,hk,hc⟩:=g.ca;unfold Ad;simp only[List.all_eq_true,List.any_eq_true,decide_eq_true_eq]
 intro c hcm id hid;rw[hc]at hcm;obtain⟨p,hp,rfl⟩:=List.mem_map.1 hcm
 have h1:=(GN (Cn hT hk hp)).subset hid
 have h2:=(FP _).mem_iff.1 h1
 obtain⟨x,hx,he⟩:=List.mem_map.1 h2
 exact⟨x,hx,he⟩
theorem XD(g:QJ H nodes sh first irq):KA H=true:=Aw fun i k a b hki ha hb=>by
 have h7:=g.nm'
 have h8:=g.nd'
 have hm:∀(i:Nat) (x:I3),H.Mems[i]? = some x→i<4∧(P6 x).1=(5-i)*16777216∧(P6 x).2≤(5-i)*16777216+524288∧(P6 x).1<(P6 x).2:=fun i x hx=>by
  obtain⟨-,h2,⟨e,e1,e2,h3⟩,-⟩:=g.me i x hx
  obtain⟨p1,p2⟩:=Tl e1 e2
  have:=(List.getElem?_eq_some_iff.1 hx).1
  unfold P6;dsimp only
  rw[show IntKind.u64.wrap (x.Base+x.Size)=x.Base+x.Size from by simp[IntKind.wrap,IntKind.bits,IntKind.signed];omega]
  omega
 have hd:∀(i:Nat) (x:AA),H.Devs[i]? = some x→i<4∧(f9 x).1=4294967296+i*65536∧(f9 x).2≤4294967296+i*65536+12288∧(f9 x).1<(f9 x).2:=fun i x hx=>by
  obtain⟨-,-,-,h2,t,t1,t2,h3⟩:=g.de i x hx
  have:=(List.getElem?_eq_some_iff.1 hx).1
  unfold f9;dsimp only
  rw[show IntKind.u64.wrap (x.Base+x.Size)=x.Base+x.Size from by simp[IntKind.wrap,IntKind.bits,IntKind.signed];omega]
  omega
 have hr:∀(i:Nat) (a:Int×Int),(Ff H)[i]? = some a→(∃x,H.Mems[i]? = some x∧P6 x=a)∨(∃j x,i=H.Mems.length+j∧H.Devs[j]? = some x∧f9 x=a):=fun i a ha=>by
  unfold Ff at ha;rw[List.getElem?_append]at ha;split at ha
  ·exact .inl (S4 ha)
  ·rename_i hlt
   obtain⟨x,hx,he⟩:=S4 ha
   simp at hlt hx
   exact .inr ⟨i-H.Mems.length,x,by omega,hx,he⟩
 have key:¬(a.1<b.2∧b.1<a.2):=by
  rcases hr i a ha with⟨x,hx,rfl⟩|⟨j,x,hj,hx,rfl⟩ <;> rcases hr k b hb with⟨y,hy,rfl⟩|⟨l,y,hl,hy,rfl⟩
  ·have:=hm i x hx;have:=hm k y hy;omega
  ·have:=(List.getElem?_eq_some_iff.1 hx).1;omega
  ·have:=hd j x hx;have:=hm k y hy;omega
  ·have:=hd j x hx;have:=hd l y hy;omega
 unfold q9;simp only[Bool.not_eq_true',Bool.and_eq_false_iff,decide_eq_false_iff_not]
 omega
theorem Dt{ls:List E9}{a b c:Int}(h:Reach ls a b)(k:Reach ls b c):Reach ls a c:=by
 induction k with
 | refl=>exact h
 | ab hl _ ih=>exact .ab hl ih
 | ba hl _ ih=>exact .ba hl ih
theorem Qi{ls:List E9}{a b:Int}(h:Reach ls a b):Reach ls b a:=by
 induction h with
 | refl=>exact .refl
 | ab hl _ ih=>exact Dt (.ba hl .refl) ih
 | ba hl _ ih=>exact Dt (.ab hl .refl) ih
theorem Xf(g:QJ H nodes sh first irq):GR H=true:=by
 obtain⟨-,P,h2,h3,h4,h5,h6⟩:=g.li;have hnd:=g.nd
 have r0:∀i:Nat,i<nodes.toNat→Reach H.Links (E5 sh 0) (E5 sh i):=by
  intro i;induction i using Nat.strongRecOn with
  | ind i ih=>
   intro hi;by_cases e:i=0
   ·subst e;exact .refl
   ·obtain⟨j,hj⟩:=h6 i (by omega) hi
    have hji:=(h4 _ hj).1
    dsimp at hji
    obtain⟨n,hn,hp⟩:=T7 hj
    obtain⟨x,hx⟩:=B2 (l:=H.Links) (k:=n) (by omega)
    have hl:=h5 n x _ hx hp
    have hxm:=List.mem_of_getElem? hx
    have hr:=ih j hji (by omega)
    rcases hl.1 with⟨a,b⟩|⟨a,b⟩
    ·dsimp at a b;rw[←a];rw[←b]at hr;exact .ba hxm hr
    ·dsimp at a b;rw[←b];rw[←a]at hr;exact .ab hxm hr
 have hu:∀n∈F9 H,AM nodes sh n:=fun n hn=>by
  unfold F9 at hn;simp only[List.mem_append,List.mem_map]at hn
  rcases hn with (⟨x,hx,rfl⟩|⟨x,hx,rfl⟩)|⟨x,hx,rfl⟩
  ·obtain⟨i,hi,he⟩:=T7 hx;exact(g.co i x he).2.2.1
  ·obtain⟨i,hi,he⟩:=T7 hx;exact(g.me i x he).2.2.2.1
  ·obtain⟨i,hi,he⟩:=T7 hx;exact(g.de i x he).2.1
 have hr:∀n∈F9 H,Reach H.Links (E5 sh 0) n:=fun n hn=>by
  obtain⟨j,j0,j1,rfl⟩:=hu n hn
  have:=r0 j.toNat (by omega)
  rwa [Int.toNat_of_nonneg j0]at this
 have hlen:0<(F9 H).length:=by have:=g.nc;simp[F9];omega
 obtain⟨s0,hs0⟩:=B2 (l:=F9 H) (k:=0) hlen
 refine Aw fun n hn=>?_
 rw[HS hs0];exact Dt (Qi (hr s0 (List.mem_of_getElem? hs0))) (hr n hn)
end
theorem QD{x:Int}{l:List Int}:Om x l=true↔x∈l:=by
 unfold Om;rw[List.any_eq_true];exact⟨fun⟨y,hy,he⟩=>by rw[of_decide_eq_true he];exact hy,fun h=>⟨x,h,decide_eq_true rfl⟩⟩
theorem FF{a b:List Int}(h:∀x∈a,x∈b):O5 a b=a.length:=by
 unfold O5;rw[List.filter_eq_self.2 fun x hx=>QD.2 (h x hx)]
theorem Ni{a b:List Int}(h:∀x∈a,x∉b):O5 a b=0:=by
 unfold O5;rw[List.filter_eq_nil_iff.2 fun x hx=>by rw[QD];exact h x hx];rfl
theorem AQ.part{l:List Int}(h:AQ l)(a b:Nat):AQ ((l.drop a).take b):=fun i x y hx hy=>by
 rw[List.getElem?_take]at hx hy
 split at hx
 ·split at hy
  ·rw[List.getElem?_drop]at hx hy
   exact h (a+i) x y hx (by rw[show a+i+1=a+(i+1) by omega];exact hy)
  ·cases hy
 ·cases hx
theorem Tv{l:List Int}{t m:Nat}(hm:m≤2){x:Int}(h:x∈(l.drop (2*t)).take m):∃j,j / 2=t∧l[j]? = some x:=by
 obtain⟨i,hi,he⟩:=T7 h
 rw[List.getElem?_take]at he;split at he
 ·rw[List.getElem?_drop]at he;exact⟨2*t+i,by omega,he⟩
 ·cases he
section
variable {H:J6}{nodes sh first irq:Int}
theorem Ny{ids:List Int}(hn:ids.Nodup){c d:R5}{p q:Nat×Nat}(h:AH ids c p)(k:AH ids d q)(hne:p≠q)(hl:¬d.Level<c.Level):O5 c.Cores d.Cores=0∨(c.Level≠d.Level∧O5 c.Cores d.Cores=c.Cores.length):=by
 have apart:∀ {t s m n:Nat},t≠s→m≤2→n≤2→O5 ((ids.drop (2*t)).take m) ((ids.drop (2*s)).take n)=0:=fun hts hm hn2=>Ni fun x hx hx2=>by
  obtain⟨i,hi,hi2⟩:=Tv hm hx
  obtain⟨j,hj,hj2⟩:=Tv hn2 hx2
  have:=Bq hn hi2 hj2
  omega
 cases h with
 | all=>cases k with
  | all=>exact absurd rfl hne
  | pair=>exact absurd (by dsimp only;omega) hl
  | own=>exact absurd (by dsimp only;omega) hl
 | pair h1 h2=>cases k with
  | all=>exact .inr ⟨by dsimp only;omega,FF fun x hx=>List.mem_of_mem_drop (List.mem_of_mem_take hx)⟩
  | pair h3 h4=>exact .inl (apart (fun e=>hne (by rw[e])) (by omega) (by omega))
  | own=>exact absurd (by dsimp only;omega) hl
 | own h1 h2=>cases k with
  | all=>exact .inr ⟨by dsimp only;omega,FF fun x hx=>List.mem_of_mem_drop (List.mem_of_mem_take hx)⟩
  | @pair s h3 h4=>
   rename_i t
   by_cases e:t=s
   ·subst e;refine .inr ⟨by dsimp only;omega,FF fun x hx=>?_⟩
    exact(List.take_sublist_take_left (by omega)).subset hx
   ·exact .inl (apart e (by omega) (by omega))
  | own h3 h4=>exact .inl (apart (fun e=>hne (by rw[e])) (by omega) (by omega))
theorem Kq{ids:List Int}(hs:AQ ids){c:R5}{p:Nat×Nat}(h:AH ids c p):AQ c.Cores:=by
 cases h with
 | all=>exact hs
 | pair=>exact hs.part _ _
 | own=>exact hs.part _ _
theorem XJ(g:QJ H nodes sh first irq):JF H=true:=by
 obtain⟨k,T,hT,hk,hc⟩:=g.ca;have hids:(z7 IC (H.Cores.map (·.ID))).Nodup:=(FP _).nodup_iff.2 (HF g)
 refine Aw ⟨fun c hcm=>?_,fun i j a b ha hb=>?_⟩
 ·rw[hc]at hcm;obtain⟨p,hp,rfl⟩:=List.mem_map.1 hcm
  exact Kq ft (Cn hT hk hp)
 ·rw[hc]at ha hb
  obtain⟨p,hp,rfl⟩:=S4 ha
  obtain⟨q,hq,rfl⟩:=S4 hb
  unfold DT;by_cases e:i=j
  ·simp[e]
  ·have hne:p≠q:=fun h=>e (by subst h;exact Bq hT.1 hp hq)
   by_cases hl:(Bl (z7 IC (H.Cores.map (·.ID))) q).Level<(Bl (z7 IC (H.Cores.map (·.ID))) p).Level
   ·simp[hl]
   ·rcases Ny hids (Cn hT hk (List.mem_of_getElem? hp)) (Cn hT hk (List.mem_of_getElem? hq)) hne hl with h|⟨h1,h2⟩
    ·rw[h];simp
    ·rw[h2];simp[h1]
theorem LR(g:QJ H nodes sh first irq):D8 H=0:=by
 simp[D8,Lo g,Rs g,UO g,Ph g,Uh g,Rk g,VP g,XJ g,XD g,Xf g]
theorem FZ{s:ByteArray}(h:F8 s=true):s.size≤maxS:=by
 unfold F8 at h;simp only[Bool.and_eq_true,decide_eq_true_eq]at h
 unfold maxS;omega
theorem WB{H:J6}(h:t6 H=true):Ou H:=by
 unfold t6 AL at h;simp only[Bool.and_eq_true,List.all_eq_true,decide_eq_true_eq]at h
 obtain⟨⟨⟨⟨⟨-,h0⟩,-⟩,h1⟩,h2⟩,h3⟩:=h;exact⟨by unfold maxS;omega,fun c hc=>FZ (h1 c hc),fun c hc=>FZ (h2 c hc),fun c hc=>FZ (h3 c hc)⟩
theorem eT(g:QJ H nodes sh first irq):Ou H:=WB (Lo g)
end
end Go.Proofs.YtlmiakjbogojgaaGreatDoor
end
section
open Go Mk
namespace Go.Proofs.YtlmiakjbogojgaaGreatDoor
theorem MS{ls:List E9}(h:T8 ls):∀l∈ls,0≤l.Latency∧l.Latency≤1000000:=fun l hl=>by
 have:=h.2 l hl;omega
theorem JD{H:J6}(h:D8 H=0):(H.Links.map Q3).Nodup:=by
 obtain⟨-,-,-,-,h5,-⟩:=S9 h
 unfold T6 at h5;simp only[Bool.and_eq_true,decide_eq_true_eq]at h5
 exact h5.2.2
end Go.Proofs.YtlmiakjbogojgaaGreatDoor
end
