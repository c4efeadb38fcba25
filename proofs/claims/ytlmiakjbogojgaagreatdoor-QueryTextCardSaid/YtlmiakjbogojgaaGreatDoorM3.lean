/- Texts of this proof, one behind another. -/
import Derived.Test.YtlmiakjbogojgaaGreatDoorM2
import Derived.Laws.MakeOwn
import Derived.Lib.UnsafeStr
import Derived.Lib.Builder
import Derived.Below
import Derived.Shelf.SlLaysF0
import Derived.Shelf.Lays
import Derived.Shelf.LaysM
import Derived.Shelf.Strconv.Itoa4
import Derived.Room.Shelf.Join48
import Derived.Test.YtlmiakjbogojgaaGreatDoorRows
import Derived.Test.YtlmiakjbogojgaaGreatDoorTie
import Derived.Test.YtlmiakjbogojgaaGreatDoorCards
import Derived.ProofKit
import Derived.OpenShut
import Derived.LaidMore
import Derived.Stop.Joined
import Derived.Stop.LaidErr
import Derived.Deep.Slices
import Derived.ReadAgain
import Derived.ChangeMaps5
import Derived.Shelf.Slices.In.SortNone
import Derived.Shelf.Slices.CompactI
import Derived.Sort.EveryDepth
import Derived.Laws.CopyRow
set_option linter.unusedVariables false
set_option linter.unusedSimpArgs false
section
open Go Mk
namespace Go.Proofs.YtlmiakjbogojgaaGreatDoor
set_option maxHeartbeats 4000000
attribute [local irreducible] Calls
structure Val where
 Kind:Int
 Num:Int
 Word:ByteArray
 deriving DecidableEq,Inhabited
instance:Jo Val where
 enc a:=[.int .i64 a.Kind,.int .i64 a.Num,.string a.Word]
 inj a b h:=by cases a;cases b;simp at h;simp[h]
 ks:=[5,5,1]
 kinds a:=rfl
def cV(a b:Val):Int:=CH (cI a.Kind b.Kind) (CH (cI a.Num b.Num) (cB a.Word b.Word))
theorem FJ:T4 cV:=(KM.prod (KM.prod Oo)).map (fun v:Val=>(v.Kind,v.Num,v.Word)) fun a b h=>by cases a;cases b;simp at h;simp[h]
abbrev K3:=ByteArray×List Val
def K8(a b:K3):Int:=CH (cB a.1 b.1) (CH (cI a.2.length b.2.length) (cL cV a.2 b.2))
theorem BY:T4 K8:=(Oo.prod (KM.prod FJ.list)).map (fun f:K3=>(f.1,((f.2.length:Int),f.2))) fun a b h=>by
 simp only[Prod.mk.injEq]at h;exact Prod.ext h.1 h.2.2
structure D4 where
 Rel:ByteArray
 A:Option Addr
 N:Nat
 C:Nat
 Args:List Val
def D4.hdr(f:D4):Value:=.slice f.A f.N f.C
def D4.fact(f:D4):K3:=(f.Rel,f.Args)
def cF(f:D4):List Value:=[.string f.Rel,f.hdr]
def Cf(Γ:C4)(f:D4):Prop:=D6 Γ f.hdr 3 (f.Args.map enc)
theorem Cf.len{Γ:C4}{f:D4}(h:Cf Γ f):f.N=f.Args.length∧f.N≤f.C∧f.C≤9223372036854775807:=by
 obtain⟨a,n,c,h1,h2,h3,h4⟩:=D6.shape h
 unfold D4.hdr at h1;cases h1
 exact⟨by simpa using h2,h3,h4⟩
theorem ON(f:D4):(cF f).all (·.oneCell')=true:=rfl
theorem LU(fs:List D4):∀u∈(fs.map cF).flatten,u.oneCell'=true:=fun u hu=>by
 obtain⟨r,hr,hu⟩:=List.mem_flatten.1 hu
 obtain⟨f,_,rfl⟩:=List.mem_map.1 hr
 exact(List.all_eq_true.1 (ON f)) u hu
instance Tx(s:ByteArray):PC Tryz.prog 222 [.string s] (.bool false):=⟨fun w=>by
 refine A4 Tryz.func222 rfl rfl ?_
 refine A7 ?_;exact⟨_,rfl,F7 rfl (by simp),rfl⟩⟩
instance Tv(s:Int):PC Tryz.prog 134 [.int .i64 s] (.bool false):=⟨fun w=>by
 refine A4 Tryz.func134 rfl rfl ?_
 refine A7 ?_;exact⟨_,rfl,F7 rfl (by simp),rfl⟩⟩
instance Tw(s:Int):PC Tryz.prog 280 [.int .i64 s] (.bool false):=⟨fun w=>by
 refine A4 Tryz.func280 rfl rfl ?_
 refine A7 ?_;exact⟨_,rfl,F7 rfl (by simp),rfl⟩⟩
instance Uj(a b:ByteArray):PC Tryz.prog 141 [.string a,.string b] (.int .i64 (cB a b)):=⟨fun w=>by
 refine A4 Tryz.func141 rfl rfl ?_
 refine A7 ?_;refine L3 rfl ?_
 refine A7 ?_;refine L3 rfl ?_
 refine A7 ?_;refine A0 rfl (fun h=>?_) (fun h=>?_)
 ·refine A7 ?_;exact⟨_,rfl,F9 rfl (by simp[cB,h]),rfl⟩
 refine A7 ?_;refine A0 rfl (fun h2=>?_) (fun h2=>?_)
 ·refine A7 ?_;exact⟨_,rfl,F9 rfl (by simp[cB,h,h2]),rfl⟩
 ·refine A7 ?_;exact⟨_,rfl,F9 rfl (by simp[cB,h,h2]),rfl⟩⟩
instance Ug(a b:Int):PC Tryz.prog 63 [.int .i64 a,.int .i64 b] (.int .i64 (cI a b)):=⟨fun w=>by
 refine A4 Tryz.func63 rfl rfl ?_
 refine A7 ?_;refine L3 rfl ?_
 refine A7 ?_;refine L3 rfl ?_
 refine A7 ?_;refine A0 rfl (fun h=>?_) (fun h=>?_)
 ·refine A7 ?_;exact⟨_,rfl,F9 rfl (by simp at h;simp[cI,h]),rfl⟩
 refine A7 ?_;refine A0 rfl (fun h2=>?_) (fun h2=>?_)
 ·refine A7 ?_;exact⟨_,rfl,F9 rfl (by simp at h h2;unfold cI;rw[if_neg (by omega),if_pos h2]),rfl⟩
 ·refine A7 ?_;exact⟨_,rfl,F9 rfl (by simp at h h2;unfold cI;rw[if_neg (by omega),if_neg (by omega)]),rfl⟩⟩
instance Uu(a b:Int):PC Tryz.prog 223 [.int .i64 a,.int .i64 b] (.int .i64 (cI a b)):=⟨fun w=>by
 refine A4 Tryz.func223 rfl rfl ?_
 refine A7 ?_;refine L3 rfl ?_
 refine A7 ?_;refine L3 rfl ?_
 refine A7 ?_;refine A0 rfl (fun h=>?_) (fun h=>?_)
 ·refine A7 ?_;exact⟨_,rfl,F9 rfl (by simp at h;simp[cI,h]),rfl⟩
 refine A7 ?_;refine A0 rfl (fun h2=>?_) (fun h2=>?_)
 ·refine A7 ?_;exact⟨_,rfl,F9 rfl (by simp at h h2;unfold cI;rw[if_neg (by omega),if_pos h2]),rfl⟩
 ·refine A7 ?_;exact⟨_,rfl,F9 rfl (by simp at h h2;unfold cI;rw[if_neg (by omega),if_neg (by omega)]),rfl⟩⟩
theorem IK{x y:Int}(h:¬x=0):CH x y=x:=by unfold CH;rw[if_neg h]
theorem Fe{x y:Int}(h:x=0):CH x y=y:=by unfold CH;rw[if_pos h]
theorem E0{α:Type}(l:List α){k:Nat}(h:l.length≤k):l.drop k=[]:=List.drop_eq_nil_of_le h
theorem M8{α:Type}{l:List α}{k:Nat}{x:α}(h:l[k]? = some x):l.drop k=x::l.drop (k+1):=by
 obtain⟨h1,h2⟩:=List.getElem?_eq_some_iff.1 h
 rw[←h2];exact List.drop_eq_getElem_cons h1
def KA:List Int→Int
 | []=>0
 | x::l=>CH x (KA l)
theorem QJ(x:Int):CH x 0=x:=by unfold CH;split <;> simp[*]
theorem Kx{Γ:C4}{S:List B5}{w:World}{v:Value}(xs:List Int)(hw:Wd Γ S w)(hr:R8 Γ S v 1 (xs.map fun x=>[.int .i64 x])) :
  Calls Tryz.prog 62 #[v] w fun e w'=>e=.returned (.int .i64 (KA xs))∧Wd Γ S w':=by
 obtain⟨a,n,c,rfl,hn,hnc,hc⟩:=hr.shape;simp only[List.length_map]at hn
 refine A4 Tryz.func62 rfl rfl ?_
 refine A7 ?_;refine C1 (fun μ ρ w=>∃(k:Nat),μ+k=n∧Has ρ [(3,.int .i64 0),(6,.slice a n c),(7,.int .i64 n),(8,.int .i64 k)]∧KA xs=KA (xs.drop k)∧Wd Γ S w) n ⟨0,by omega,⟨rfl,rfl,rfl,rfl,trivial⟩,rfl,hw⟩ ?_
 clear hw;rintro μ ρ w ⟨k,hk,hρ,ho,hw⟩
 rw[hρ.eq];refine A7 ?_;refine A0 rfl (fun h=>?_) (fun h=>?_)
 ·have hkn:k<n:=by simpa using h
  obtain⟨x,hx⟩:=B8 (l:=xs) (k:=k) (by omega)
  have hd:xs.drop k=x::xs.drop (k+1):=by
   obtain⟨h1,h2⟩:=List.getElem?_eq_some_iff.1 hx
   rw[←h2];exact(List.drop_eq_getElem_cons h1)
  rw[hd]at ho;refine A7 ?_;refine A0 rfl (fun h2=>?_) (fun h2=>?_)
  ·refine A7 ?_;have h2:¬x=0:=by simpa using h2
   refine⟨_,rfl,F9 rfl ?_,hw⟩
   rw[ho];unfold KA CH;rw[if_neg h2]
  ·refine A7 ?_;have h2:x=0:=by simpa using h2
   refine⟨μ-1,by omega,k+1,by omega,⟨rfl,rfl,rfl,rfl,trivial⟩,?_,hw⟩
   rw[ho];show CH x _=_;unfold CH;rw[if_pos h2]
 ·have hkn:¬k<n:=by simpa using h
  refine A7 ?_;refine⟨_,rfl,F9 rfl ?_,hw⟩
  rw[ho,List.drop_eq_nil_of_le (by omega)];rfl
end Go.Proofs.YtlmiakjbogojgaaGreatDoor
end
section
open Go
namespace Mk
section
variable {P:Program}{n:Nat}{opa:Array Oper}{Γ:C4}{S:List B5}{QQ:Exit→Fr→World→Prop}{K:Value→World→Prop}{ρ:Fr}{w:World}{rest:List Oper}{sz:Nat}{rows:List (List Value)}
variable {d:Option Tmp}{T U ty:TypeId}{pos:String}{es:Array Edge}{g:Option (Nat×Bool)}{x y z:Operand}{v:Value}
theorem NX{L r:List Value}{p f m sz N:Nat}(hp:p+sz≤N)(hN:N≤L.length)(hr:r.length=m)(hfm:f+m≤sz) :
  (L.take (p+f)++r++L.drop (p+f+r.length)).take N=(L.take N).take p++(((L.drop p).take sz).take f++r++((L.drop p).take sz).drop (f+m))++(L.take N).drop (p+sz):=by
 refine List.ext_getElem? fun i=>?_
 simp only[List.getElem?_append,List.getElem?_take,List.getElem?_drop,List.length_append,List.length_take,List.length_drop,hr]
 repeat' split
 all_goals first|omega|rfl|(congr 1;omega)|skip
theorem Np{E k f m i n c:Nat}{a:Option Addr}{v:Value}{r row:List Value}(hn:(P.info? T).map (·.size)=some m)(hw:Wd Γ S w)(hx:ev ρ x=.pointer (some ⟨aB a,aO a+k*sz+f,none⟩))(hy:ev ρ y=v)(hv:v.cells.toList=r)(hl:r.length=m)
  (h1:r.all (·.oneCell')=true) (hi:S[i]? = some (.own (.slice a n c) E sz rows)) (hkl:k<n) (hrow:rows[k]? = some row) (hfm:f+m≤sz) (hk:∀w',Wd Γ (S.set i (.own (.slice a n c) E sz (rows.set k (row.take f++r++row.drop (f+m))))) w'→K undef w'):Step P ⟨d,.store T x y,ty,pos,es,g⟩ ρ w K:=by
 obtain⟨bs0,hr0⟩:=hw.own_holds hi
 unfold B5.own at hr0;obtain⟨q0,a',n',c',e1,e2,e3,e4,e5⟩:=hr0;cases e1
 rcases e5 with⟨hc,_⟩|⟨b,cur,g1,g2,g3,g4,g5⟩
 ·omega
 ·subst g1;have hrl:row.length=sz:=q0 row (List.mem_of_getElem? hrow)
  have hnew:(row.take f++r++row.drop (f+m)).length=sz:=by simp[hl,hrl];omega
  have hx':ev ρ x=.pointer (some ⟨b,k*sz+f,none⟩):=by rw[hx];simp[aB,aO]
  have hks:k*sz+sz≤cur.size:=by
   rw[g4,show k*sz+sz=(k+1)*sz from by rw[Nat.add_mul];omega];exact Nat.mul_le_mul_right _ (by omega)
  have hfit:k*sz+f+0+r.length≤cur.size:=by rw[hl];omega
  have hst:=run_storeCells_at P b (k*sz+f) E r 0 cur w g3 hfit (fun u hu=>(List.all_eq_true.1 h1) u hu)
  simp only[Nat.add_zero]at hst
  have hsz:v.cells.size=m:=by rw[←hl,←hv];simp
  have hr:(execOp (ev ρ) ⟨d,.store T x y,ty,pos,es,g⟩).run P w=.ok .skip (w.setRow b (cur.toList.take (k*sz+f)++r++cur.toList.drop (k*sz+f+r.length)).toArray):=by
   cases hq:P.info? T with
   | none=>simp[hq]at hn
   | some q=>
    have hs:q.size=m:=by simpa[hq] using hn
    have hz:(Go.sizeOf T).run P w=.ok m w:=by simp[Go.sizeOf,typeInfo,hq,hs]
    have hsv:(storeVar T ⟨b,k*sz+f,none⟩ v).run P w=.ok () (w.setRow b (cur.toList.take (k*sz+f)++r++cur.toList.drop (k*sz+f+r.length)).toArray):=by
     unfold storeVar;rw[Sem.run_bind,hz];simp only[Result.andThen_ok,hsz,ne_eq,not_true_eq_false,if_false,hv]
     exact hst
    simp only[execOp,hx',hy,Instr.storeAt,Instr.sureAddr,Sem.run_bind,Sem.run_pure,Result.andThen_ok,hsv]
  have hfin:=hk _ (hw.upd hi (w':=w.setRow b (cur.toList.take (k*sz+f)++r++cur.toList.drop (k*sz+f+r.length)).toArray) ⟨rfl,rfl,rfl,(by first|exact Nat.le_refl _|exact Nat.le_succ _),by simp⟩ fun bs hr' hnd hlt=>by
   unfold B5.own at hr' ⊢
   obtain⟨q0',a2,n2,c2,f1,f2,f3,f4,f5⟩:=hr';cases f1
   rcases f5 with⟨hc,_⟩|⟨b2,cur2,k1,k2,k3,k4,k5⟩
   ·omega
   ·cases k1
    rw[show hp w b=some (.cells cur E (0,0)) from g3]at k3;cases k3
    refine⟨bs,⟨?_,_,_,_,rfl,by simpa using f2,f3,f4,.inr ⟨b,_,rfl,k2,setRow_heap w b cur _ E _ g3,?_,?_⟩⟩,hnd,fun x hx=>⟨by have:=hlt x hx;simpa using this,.inl hx⟩,fun k' _ hne=>setRow_other w b k' _ (fun e=>hne (by simp[k2,e]))⟩
    ·intro r' hr';rcases List.mem_or_eq_of_mem_set hr' with h|rfl
     ·exact q0 r' h
     ·exact hnew
    ·simp only[List.size_toArray,List.length_append,List.length_take,List.length_drop,Array.length_toList];omega
    ·have hkn:k*sz+sz≤n*sz:=by rw[show k*sz+sz=(k+1)*sz from by rw[Nat.add_mul];omega];exact Nat.mul_le_mul_right _ (by omega)
     have hns:n*sz≤cur.toList.length:=by rw[Array.length_toList,g4];exact Nat.mul_le_mul_right _ e3
     have e0:=S6 (k:=k) (r:=row) q0 hrl (by omega)
     have e9:rows.set k row=rows:=by
      refine List.ext_getElem? fun i=>?_
      rw[List.getElem?_set];split
      ·rename_i h;subst h;rw[hrow];simp;omega
      ·rfl
     rw[e9]at e0;rw[S6 q0 hnew (by omega),←g5]
     have hrw:row=(cur.toList.drop (k*sz)).take sz:=by
      have:row=((cur.toList.take (n*sz)).drop (k*sz)).take sz:=by
       rw[g5,e0,List.append_assoc,List.drop_append_of_le_length (by rw[List.length_take,←g5,List.length_take];omega)]
       have:((rows.flatten.take (k*sz)).drop (k*sz))=[]:=by rw[List.drop_eq_nil_iff,List.length_take];omega
       rw[this,List.nil_append,List.take_append_of_le_length (by omega),List.take_of_length_le (by omega)]
      rw[this,List.drop_take,List.take_take,Nat.min_eq_left (by omega)]
     rw[hrw];exact NX hkn hns hl hfm
    )
  unfold Step;rw[hr];exact hfin
theorem Ov{E k f i m mm c sz:Nat}{a:Option Addr}{r row:List Value}{rows:List (List Value)}[hn:Ly P T m](h:∀w',Wd Γ (S.set i (.own (.slice a mm c) E sz (rows.set k (row.take f++r++row.drop (f+m))))) w'→L P n opa QQ rest ρ w')(hrow:rows[k]? = some row)(hw:Wd Γ S w:=by exact hw)(hx:ev ρ x=.pointer (some ⟨aB a,aO a+k*sz+f,none⟩):=by exact rfl)
  (hy:ev ρ y=v:=by exact Y1) (hv:v.cells.toList=r:=by exact rfl) (hl:r.length=m:=by exact rfl) (h1:r.all (·.oneCell')=true:=by exact rfl) (hi:S[i]? = some (.own (.slice a mm c) E sz rows):=by exact Gh) (hk:k<mm:=by omega) (hfm:f+m≤sz:=by omega) :
  L P n opa QQ (⟨none,.store T x y,ty,pos,es,none⟩::rest) ρ w:=K0 rfl rfl (Np hn.h hw hx hy hv hl h1 hi hk hrow hfm h)
end
attribute [local irreducible] Calls
theorem FZ{P:Program}{n id:Nat}{c:Code}{K:Fr→World→Prop}{Q:Exit→Fr→World→Prop}{ρ:Fr}{w:World}(I:Fr→World→Prop)(h1:W P n c (KI id (KU I Q)) ρ w)(h2:∀ρ w,I ρ w→K ρ w):W P n c (KI id (KU K Q)) ρ w:=
 h1.mono fun e ρ w h=>by
  cases e with
  | normal=>exact h2 ρ w h
  | exit i=>
   simp only[KI]at h ⊢
   split <;> rename_i hi <;> simp only[hi,if_true,if_false]at h
   ·exact h2 ρ w h
   ·exact h
  | _=>exact h
theorem J6{P:Program}{n:Nat}{c:Code}{K:Fr→World→Prop}{Q:Exit→Fr→World→Prop}{ρ:Fr}{w:World}(I:Fr→World→Prop)(h1:W P n c (KU I Q) ρ w)(h2:∀ρ w,I ρ w→K ρ w):W P n c (KU K Q) ρ w:=
 h1.mono fun e ρ w h=>by
  cases e with
  | normal=>exact h2 ρ w h
  | _=>exact h
section
variable {P:Program}{n:Nat}{ops:List Oper}{Γ:C4}{K:List B5}{wr tc stab:List (List Nat)}{Q:Fr→World→Prop}{i:Nat}{rest:List Oper}{ρ:Fr}{w:World}{M:Nat→Fr→List B5}{v:Value}{T T':Type}{o:Oper}
variable {ty:TypeId}{pos:String}{es:Array Edge}
theorem NL{a b d:Fr→List B5}:ML [a,b,d] 1=b:=rfl
theorem AW{a b d:Fr→List B5}:ML [a,b,d] 2=d:=rfl
theorem Y2{φ:T→Fr→Prop}{R:T→List B5}{g:Fr}{Z:List B5}(h:Wd Γ (P7 φ R g++Z) w):∃t,φ t g∧Wd Γ (R t++Z) w:=by
 obtain⟨⟨t,ht⟩,hw⟩:=Wd.openEx (S:=Z) h
 exact⟨t,ht,hw⟩
theorem t8{φ:T→Fr→Prop}{R:T→List B5}{g:Fr}{Z:List B5}(t:T)(ht:φ t g)(h:Wd Γ (R t++Z) w):Wd Γ (P7 φ R g++Z) w:=
 Wd.closeEx (X:=fun p:{t:T // φ t g}=>R p.1) ⟨t,ht⟩ h
theorem mM2{c c2:Nat}(m m2:Fr→List B5)(hs:∀Y w g,Wd Γ (K++(E9 tc stab i M g++Y)) w→Step P o (F3 stab.flatten g ρ) w fun u w'=>Wd Γ (K++(E9 tc stab i (M0 (M0 M c m) c2 m2) (C9 g o.dst u)++Y)) w'∧(U7 stab o.dst=false→u=v))
  (h:MSw (mV P n ops Γ K wr tc stab) Q (i+1) rest ⟨C9 ρ o.dst v,M0 (M0 M c m) c2 m2⟩) (hw0:wr.getD i []=[c,c2]) (hg:o.guard=none):MSw (mV P n ops Γ K wr tc stab) Q i (o::rest) ⟨ρ,M⟩:=by
 have hn:Mt.nxt (mV P n ops Γ K wr tc stab) i ⟨ρ,M⟩ ⟨v,M0 (M0 M c m) c2 m2⟩=M0 (M0 M c m) c2 m2:=by
  funext y
  simp only[Mt.nxt,R6.w,hw0]
  unfold M0;by_cases h1:y=c <;> by_cases h2:y=c2 <;> simp[h1,h2]
 refine⟨⟨v,M0 (M0 M c m) c2 m2⟩,⟨fun Γ' Y w g hr hw=>?_⟩,?_⟩
 ·have hΓ:Γ'=Γ:=hr
  subst hΓ;rw[hn];refine⟨fun _=>(hs Y w g hw).mono fun u w' ⟨h1,h2⟩=>⟨Γ',rfl,h1,h2⟩,fun hf=>?_⟩
  rw[O9 hg]at hf;cases hf
 ·simp only[Mt.next,hn];exact h
theorem mS{c:Nat}{F:Fr→List B5}(F':Fr→List B5)
  (hs:∀g w Y,Wd Γ (F (F3 (stab.getD c []) g D5)++(K++Y)) w→Step P o (F3 stab.flatten g ρ) w fun u w'=>(U7 stab o.dst=false→u=v)∧Wd Γ (F' (F3 (stab.getD c []) (C9 g o.dst u) D5)++(K++Y)) w')
  (h:MSw (mV P n ops Γ K wr tc stab) Q (i+1) rest ⟨C9 ρ o.dst v,M0 M c F'⟩) (hM:M c=F:=by first|exact B6|exact NL|exact AW|exact((A8 (by decide)).trans B6)|exact((A8 (by decide)).trans AW)|exact((A8 (by decide)).trans ((A8 (by decide)).trans AW))|exact((A8 (by decide)).trans ((A8 (by decide)).trans ((A8 (by decide)).trans AW)))|exact((A8 (by decide)).trans ((A8 (by decide)).trans B6))|exact rfl) (hw0:wr.getD i []=[c]:=by exact rfl) (ht:tc.getD i []=[c]:=by exact rfl) (hg:o.guard=none:=by exact rfl) :
  MSw (mV P n ops Γ K wr tc stab) Q i (o::rest) ⟨ρ,M⟩:=by
 refine mM _ (fun Y w g hw=>?_) h hw0 hg
 rw[l5 ht,hM]at hw;refine(hs g w Y hw.swapApp).mono ?_
 rintro u w' ⟨h2,h3⟩
 refine⟨?_,h2⟩
 rw[l5 ht,B6];exact h3.swapApp
theorem mS2{c c2:Nat}{F G:Fr→List B5}(F' G':Fr→List B5)
  (hs:∀g w Y,Wd Γ (F (F3 (stab.getD c []) g D5)++(G (F3 (stab.getD c2 []) g D5)++(K++Y))) w→Step P o (F3 stab.flatten g ρ) w fun u w'=>(U7 stab o.dst=false→u=v)∧Wd Γ (F' (F3 (stab.getD c []) (C9 g o.dst u) D5)++(G' (F3 (stab.getD c2 []) (C9 g o.dst u) D5)++(K++Y))) w')
  (h:MSw (mV P n ops Γ K wr tc stab) Q (i+1) rest ⟨C9 ρ o.dst v,M0 (M0 M c F') c2 G'⟩) (hM:M c=F:=by first|exact B6|exact NL|exact AW|exact((A8 (by decide)).trans B6)|exact((A8 (by decide)).trans AW)|exact((A8 (by decide)).trans ((A8 (by decide)).trans AW))|exact((A8 (by decide)).trans ((A8 (by decide)).trans ((A8 (by decide)).trans AW)))|exact((A8 (by decide)).trans ((A8 (by decide)).trans B6))|exact rfl) (hM2:M c2=G:=by first|exact B6|exact NL|exact AW|exact((A8 (by decide)).trans B6)|exact((A8 (by decide)).trans AW)|exact((A8 (by decide)).trans ((A8 (by decide)).trans AW))|exact((A8 (by decide)).trans ((A8 (by decide)).trans ((A8 (by decide)).trans AW)))|exact((A8 (by decide)).trans ((A8 (by decide)).trans B6))|exact rfl) (hw0:wr.getD i []=[c,c2]:=by exact rfl) (ht:tc.getD i []=[c,c2]:=by exact rfl) (hcc:Nat.beq c c2=false:=by exact rfl) (hg:o.guard=none:=by exact rfl) :
  MSw (mV P n ops Γ K wr tc stab) Q i (o::rest) ⟨ρ,M⟩:=by
 have hne:c≠c2:=fun e=>by subst e;simp at hcc
 refine mM2 _ _ (fun Y w g hw=>?_) h hw0 hg
 rw[Dv ht,hM,hM2]at hw;have hw1:=(hw.perm (by rw[List.append_assoc];exact(List.perm_append_comm_assoc _ _ _).trans (List.Perm.append_left _ (List.perm_append_comm_assoc _ _ _)))  : Wd Γ (F (F3 (stab.getD c []) g D5)++(G (F3 (stab.getD c2 []) g D5)++(K++Y))) w)
 refine(hs g w Y hw1).mono ?_
 rintro u w' ⟨h2,h3⟩
 refine⟨?_,h2⟩
 rw[Dv ht,B6,A8 hne,B6];exact h3.perm (by rw[List.append_assoc];exact((List.perm_append_comm_assoc _ _ _).trans (List.Perm.append_left _ (List.perm_append_comm_assoc _ _ _))).symm)
theorem R2{c dd E by' len sz:Nat}{zs:List Value}{parts:Array (Nat×Operand)}{TT:TypeId}{φ:T→Fr→Prop}{R:T→List B5}(rws:T→List (List Value))[TL P TT E sz by' zs]
  (h:MSw (mV P n ops Γ K wr tc stab) Q (i+1) rest ⟨C9 ρ (some dd) undef,M0 M c (P7 (fun (p:T×Addr) g=>φ p.1 g∧g dd=.slice (some p.2) len len) fun p=>.own (.slice (some p.2) len len) E sz (rws p.1)::R p.1)⟩)
  (hf:∀t g,φ t (F3 (stab.getD c []) g D5)→S1 (fun i=>some (i*sz,sz)) ((List.range (len*sz)).map fun i=>zs.getD (i%sz) undef) (parts.toList.map fun p=>(p.1,ev (F3 stab.flatten g ρ) p.2))=some (rws t).flatten)
  (hw0:wr.getD i []=[c]:=by exact rfl) (ht:tc.getD i []=[c]:=by exact rfl) (hM:M c=P7 φ R:=by first|exact B6|exact NL|exact AW|exact((A8 (by decide)).trans B6)|exact((A8 (by decide)).trans AW)|exact((A8 (by decide)).trans ((A8 (by decide)).trans AW))|exact((A8 (by decide)).trans ((A8 (by decide)).trans ((A8 (by decide)).trans AW)))|exact((A8 (by decide)).trans ((A8 (by decide)).trans B6))|exact rfl) (hφ:∀t g u,φ t (F3 (stab.getD c []) g D5)→φ t (F3 (stab.getD c []) (C9 g (some dd) u) D5):=by intro t g u h;exact h)
  (hlen:∀t,(rws t).length=len:=by intro t;rfl) (hr:∀t,(rws t).all (fun r=>Nat.beq r.length sz)=true:=by intro t;rfl) (hbig:Nat.ble (len*sz) 16777216=true:=by exact rfl)
  (hs:(stab.getD c []).contains dd=true:=by exact rfl) (hfr:U7 stab (some dd)=true:=by exact rfl) :
  MSw (mV P n ops Γ K wr tc stab) Q i (⟨some dd,.buildSlice TT len parts,ty,pos,es,none⟩::rest) ⟨ρ,M⟩:=
 mS (v:=undef) (P7 (fun (p:T×Addr) g=>φ p.1 g∧g dd=.slice (some p.2) len len) fun p=>.own (.slice (some p.2) len len) E sz (rws p.1)::R p.1) (fun g w Y hw=>by
  obtain⟨t,h1,hw⟩:=Y2 hw
  refine S8 (rws:=rws t) hw (hf t g h1) rfl (hlen t) (fun r hm=>Nat.eq_of_beq_eq_true ((List.all_eq_true.1 (hr t)) r hm)) (Nat.le_of_ble_eq_true hbig) fun a w' hw'=>⟨fun hh=>(by rw[hfr]at hh;cases hh),t8 (t,a) ⟨hφ t g _ h1,?_⟩ hw'⟩
  rw[L8 (by simpa using hs)];exact upd_same _ _ _) h hM hw0 ht rfl
theorem TG{c dd:Nat}{op:Op}{φ:T→Fr→Prop}{R:T→List B5}(u:T→Value)
  (hy:∀t g w Y,φ t (F3 (stab.getD c []) g D5)→Wd Γ (R t++(K++Y)) w→Yields P ⟨some dd,op,ty,pos,es,none⟩ (F3 stab.flatten g ρ) w (u t))
  (h:MSw (mV P n ops Γ K wr tc stab) Q (i+1) rest ⟨C9 ρ (some dd) undef,M0 M c (P7 (fun t g=>φ t g∧g dd=u t) R)⟩)
  (hw0:wr.getD i []=[c]:=by exact rfl) (ht:tc.getD i []=[c]:=by exact rfl) (hM:M c=P7 φ R:=by first|exact B6|exact NL|exact AW|exact((A8 (by decide)).trans B6)|exact((A8 (by decide)).trans AW)|exact((A8 (by decide)).trans ((A8 (by decide)).trans AW))|exact((A8 (by decide)).trans ((A8 (by decide)).trans ((A8 (by decide)).trans AW)))|exact((A8 (by decide)).trans ((A8 (by decide)).trans B6))|exact rfl) (hφ:∀t g u,φ t (F3 (stab.getD c []) g D5)→φ t (F3 (stab.getD c []) (C9 g (some dd) u) D5):=by intro t g u h;exact h)
  (hs:(stab.getD c []).contains dd=true:=by exact rfl) (hfr:U7 stab (some dd)=true:=by exact rfl) :
  MSw (mV P n ops Γ K wr tc stab) Q i (⟨some dd,op,ty,pos,es,none⟩::rest) ⟨ρ,M⟩:=
 mS (v:=undef) (P7 (fun t g=>φ t g∧g dd=u t) R) (fun g w Y hw=>by
  obtain⟨t,h1,hw⟩:=Y2 hw
  refine(hy t g w Y h1 hw).step ⟨fun hh=>(by rw[hfr]at hh;cases hh),t8 t ⟨hφ t g _ h1,?_⟩ hw⟩
  rw[L8 (by simpa using hs)];exact upd_same _ _ _) h hM hw0 ht rfl
theorem w5{c dd j j2 E by' sz m cc m2 c2:Nat}{zs:List Value}{a:Option Addr}{rows:List (List Value)}{TT:TypeId}{x y:Operand}{φ:T→Fr→Prop}{R:T→List B5}(a2:T→Option Addr)(rows2:T→List (List Value))[TL P TT E sz by' zs]
  (h:MSw (mV P n ops Γ K wr tc stab) Q (i+1) rest ⟨C9 ρ (some dd) undef,M0 M c (P7 (fun (p:T×Value) g=>φ p.1 g∧g dd=p.2) fun p=>(R p.1).set j (.own p.2 E sz (rows++rows2 p.1)))⟩)
  (hy:∀t g,φ t (F3 (stab.getD c []) g D5)→ev (F3 stab.flatten g ρ) y=.slice (a2 t) m2 c2) (hw0:wr.getD i []=[c]:=by exact rfl) (ht:tc.getD i []=[c]:=by exact rfl) (hM:M c=P7 φ R:=by first|exact B6|exact NL|exact AW|exact((A8 (by decide)).trans B6)|exact((A8 (by decide)).trans AW)|exact((A8 (by decide)).trans ((A8 (by decide)).trans AW))|exact((A8 (by decide)).trans ((A8 (by decide)).trans ((A8 (by decide)).trans AW)))|exact((A8 (by decide)).trans ((A8 (by decide)).trans B6))|exact rfl) (hj:∀t,(R t)[j]? = some (.own (.slice a m cc) E sz rows):=by intro t;exact rfl) (hj2:∀t,(R t)[j2]? = some (.own (.slice (a2 t) m2 c2) E sz (rows2 t)):=by intro t;exact rfl)
  (h1:∀t,(rows2 t).flatten.all (·.oneCell')=true:=by intro t;rfl) (hx:∀g,ev (F3 stab.flatten g ρ) x=.slice a m cc:=by intro g;exact rfl)
  (hφ:∀t g u,φ t (F3 (stab.getD c []) g D5)→φ t (F3 (stab.getD c []) (C9 g (some dd) u) D5):=by intro t g u h;exact h)
  (hb:(m+m2)*by'≤140737488355328:=by omega) (h63:m+m2≤9223372036854775807:=by omega) (hl2:∀t,m2=(rows2 t).length:=by intro t;rfl)
  (hs:(stab.getD c []).contains dd=true:=by exact rfl) (hfr:U7 stab (some dd)=true:=by exact rfl) :
  MSw (mV P n ops Γ K wr tc stab) Q i (⟨some dd,.call { callee:=.builtin .append,args:=#[x,y],argTypes:=#[TT,TT] },ty,pos,es,none⟩::rest) ⟨ρ,M⟩:=
 mS (v:=undef) (P7 (fun (p:T×Value) g=>φ p.1 g∧g dd=p.2) fun p=>(R p.1).set j (.own p.2 E sz (rows++rows2 p.1))) (fun g w Y hw=>by
  obtain⟨t,ht1,hw⟩:=Y2 hw
  have hjl:j<(R t).length:=(List.getElem?_eq_some_iff.1 (hj t)).1
  have hjl2:j2<(R t).length:=(List.getElem?_eq_some_iff.1 (hj2 t)).1
  have hi:(R t++(K++Y))[j]? = some (.own (.slice a m cc) E sz rows):=by rw[List.getElem?_append_left hjl];exact hj t
  have hi2:(R t++(K++Y))[j2]? = some (.own (.slice (a2 t) m2 c2) E sz (rows2 t)):=by rw[List.getElem?_append_left hjl2];exact hj2 t
  refine Cp hw (hx g) (hy t g ht1) hi (hw.own_rd hi2) (hl2 t) (fun u hu=>(List.all_eq_true.1 (h1 t)) u hu) hb h63 fun v' w' hw'=>⟨fun hh=>(by rw[hfr]at hh;cases hh),t8 (t,v') ⟨hφ t g _ ht1,?_⟩ ?_⟩
  ·rw[L8 (by simpa using hs)];exact upd_same _ _ _
  ·rw[List.set_append_left _ _ hjl]at hw';exact hw') h hM hw0 ht rfl
theorem Y3{c0 c b ob dv j:Nat}{cs:Array Value}{E E2 sz2:Nat}{TT:TypeId}{x:Operand}{φ:T→Fr→Prop}{R:T→List B5}{val:T→Value}{rows:T→List (List Value)}[hn:Ly P TT 1]
  (h:MSw (mV P n ops Γ K wr tc stab) Q (i+1) rest ⟨ρ,M0 (M0 M c0 fun _=>[]) c (P7 φ fun t=>.blk b (.cells (putCells cs ob [val t]) E)::R t)⟩)
  (hv:∀t g,φ t (F3 (stab.getD c []) g D5)→ev (F3 stab.flatten g ρ) (.tmp dv)=val t) (hw0:wr.getD i []=[c0,c]:=by exact rfl) (ht:tc.getD i []=[c0,c]:=by exact rfl) (hcc:Nat.beq c0 c=false:=by exact rfl) (hM2:M c=P7 φ R:=by first|exact B6|exact NL|exact AW|exact((A8 (by decide)).trans B6)|exact((A8 (by decide)).trans AW)|exact((A8 (by decide)).trans ((A8 (by decide)).trans AW))|exact((A8 (by decide)).trans ((A8 (by decide)).trans ((A8 (by decide)).trans AW)))|exact((A8 (by decide)).trans ((A8 (by decide)).trans B6))|exact rfl) (hj:∀t,(R t)[j]? = some (.own (val t) E2 sz2 (rows t)):=by intro t;exact rfl) (hx:∀g,ev (F3 stab.flatten g ρ) x=.pointer (some ⟨b,ob,none⟩):=by intro g;exact rfl)
  (hM:M c0=(fun _=>[.blk b (.cells cs E)]):=by exact rfl) (ho:ob+1≤cs.size:=by exact Nat.le_of_ble_eq_true rfl) :
  MSw (mV P n ops Γ K wr tc stab) Q i (⟨none,.store TT x (.tmp dv),ty,pos,es,none⟩::rest) ⟨ρ,M⟩:=
 mS2 (v:=undef) (fun _=>[]) (P7 φ fun t=>.blk b (.cells (putCells cs ob [val t]) E)::R t) (fun g w Y hw=>by
  have hw2:Wd Γ (P7 φ R (F3 (stab.getD c []) g D5)++(.blk b (.cells cs E)::(K++Y))) w:=hw.perm (List.perm_append_comm_assoc _ _ _)
  obtain⟨t,ht1,hw⟩:=Y2 hw2
  have hw:Wd Γ (.blk b (.cells cs E)::(R t++(K++Y))) w:=hw.perm List.perm_middle
  have hjl:j<(R t).length:=(List.getElem?_eq_some_iff.1 (hj t)).1
  obtain⟨q1,q2,q3,e1,-,-,-⟩:=hw.own_shape (i:=j+1) (v:=val t) (e:=E2) (sz:=sz2) (rows:=rows t) (by rw[List.getElem?_cons_succ,List.getElem?_append_left hjl];exact hj t)
  refine X4 hn.h hw (hx g) (hv t g ht1) (vs:=[val t]) (by rw[e1];rfl) rfl (fun u hu=>by simp at hu;subst hu;rw[e1];rfl) (i:=0) rfl ho fun w' hw'=>⟨fun _=>rfl,?_⟩
  exact t8 (R:=fun t=>.blk b (.cells (putCells cs ob [val t]) E)::R t) t ht1 hw') h hM hM2 hw0 ht hcc rfl
theorem Y7{id:Nat}{l:List Oper}{QQ:Exit→Fr→World→Prop}(K X0 X1 X2:List B5)(N1 N2:List Nat)(wr tc:List (List Nat))(hw:Wd Γ (K++(X0++(X1++X2))) w)
  (h:MSw (mV P n l Γ K wr tc [[],N1,N2]) (fun ρ w=>QQ .normal ρ w) 0 l ⟨ρ,ML [fun _=>X0,P7 (T:=Unit) (fun _ _=>True) (fun _=>X1),P7 (T:=Unit) (fun _ _=>True) (fun _=>X2)]⟩)
  (hm:P.follows .mixedOrders=true:=by kernel_rfl) (hk:O8 n l wr tc [[],N1,N2]=true:=by kernel_rfl):W P n (.region id l.toArray true) QQ ρ w:=
 Bj K [fun _=>X0,P7 (T:=Unit) (fun _ _=>True) (fun _=>X1),P7 (T:=Unit) (fun _ _=>True) (fun _=>X2)] wr tc [[],N1,N2] (by
  show Wd Γ (K++(X0++(P7 (T:=Unit) (fun _ _=>True) (fun _=>X1) (F3 N1 ρ D5)++(P7 (T:=Unit) (fun _ _=>True) (fun _=>X2) (F3 N2 ρ D5)++[])))) w
  rw[List.append_nil];have h1:Wd Γ (X1++(X2++(K++X0))) w:=hw.perm (by
   rw[←List.append_assoc,←List.append_assoc X1];exact List.perm_append_comm)
  have h2:Wd Γ (P7 (T:=Unit) (fun _ _=>True) (fun _=>X1) (F3 N1 ρ D5)++(X2++(K++X0))) w:=t8 () trivial h1
  have h3:Wd Γ (X2++(P7 (T:=Unit) (fun _ _=>True) (fun _=>X1) (F3 N1 ρ D5)++(K++X0))) w:=h2.perm (List.perm_append_comm_assoc _ _ _)
  have h4:Wd Γ (P7 (T:=Unit) (fun _ _=>True) (fun _=>X2) (F3 N2 ρ D5)++(P7 (T:=Unit) (fun _ _=>True) (fun _=>X1) (F3 N1 ρ D5)++(K++X0))) w:=t8 () trivial h3
  have h5:Wd Γ (P7 (T:=Unit) (fun _ _=>True) (fun _=>X1) (F3 N1 ρ D5)++(P7 (T:=Unit) (fun _ _=>True) (fun _=>X2) (F3 N2 ρ D5)++(K++X0))) w:=h4.perm (List.perm_append_comm_assoc _ _ _)
  exact h5.perm (by
   rw[←List.append_assoc,←List.append_assoc K];exact List.perm_append_comm)) h hm hk
theorem v7{N1 N2:List Nat}{φ:T→Fr→Prop}{R:T→List B5}(h:∀t w g,φ t (F3 N1 g D5)→Wd Γ (R t++K) w→Q (F3 [[],N1,N2].flatten g ρ) w)(hM0:M 0=fun _=>[]:=by exact rfl)(hM:M 1=P7 φ R:=by first|exact B6|exact NL|exact AW|exact((A8 (by decide)).trans B6)|exact((A8 (by decide)).trans AW)|exact((A8 (by decide)).trans ((A8 (by decide)).trans AW))|exact((A8 (by decide)).trans ((A8 (by decide)).trans ((A8 (by decide)).trans AW)))|exact((A8 (by decide)).trans ((A8 (by decide)).trans B6))|exact rfl):MSw (mV P n ops Γ K wr tc [[],N1,N2]) Q i [] ⟨ρ,M⟩:=
 X6 fun w g hw=>by
  have hw1:Wd Γ (K++(M 0 (F3 [] g D5)++(M 1 (F3 N1 g D5)++(M 2 (F3 N2 g D5)++[])))) w:=hw
  rw[hM0,hM,List.nil_append]at hw1;have hw2:Wd Γ (P7 φ R (F3 N1 g D5)++(K++(M 2 (F3 N2 g D5)++[]))) w:=hw1.swapApp
  obtain⟨t,ht,hw3⟩:=Y2 hw2
  exact h t w g ht (Wd.left (S:=R t++K) (by rw[List.append_assoc];exact hw3))
end
class PS(P:Program)(Γ:C4)(S:List B5)(f:Nat)(args:List Value)(v:outParam Value):Prop where
 h:∀Y w,Wd Γ (S++Y) w→Calls P f args.toArray w fun e w'=>e=.returned v∧Wd Γ (S++Y) w'
section
variable {P:Program}{n:Nat}{ops:List Oper}{opa:Array Oper}{Γ:C4}{S K:List B5}{Q:Fr→World→Prop}{QQ:Exit→Fr→World→Prop}{ρ:Fr}{w:World}{rest:List Oper}{wr tc stab:List (List Nat)}{i:Nat}{M:Nat→Fr→List B5}
variable {d:Option Tmp}{ty:TypeId}{pos:String}{es:Array Edge}{v:Value}{f:Nat}{args:List Operand}{tys:Array TypeId}{vs:List Value}{j dj:Nat}{want c:Bool}{g:Option (Nat×Bool)}
theorem TV{Y:List B5}[C3 P f](hp:PS P Γ S f vs v)(ha:EvL ρ args vs)(hw:Wd Γ (S++Y) w):Step P ⟨d,.call { callee:=.value (.func f),args:=args.toArray,argTypes:=tys },ty,pos,es,g⟩ ρ w fun u w'=>u=v∧Wd Γ (S++Y) w':=
 Ak ha.eqA ((hp.h Y w hw).mono fun _ _ ⟨h1,h2⟩=>⟨v,h1,rfl,h2⟩)
theorem MS[C3 P f](h:∀w',Wd Γ S w'→L P n opa QQ rest (C9 ρ d v) w')(hw:Wd Γ S w:=by exact hw)(ha:EvL ρ args vs:=by exact u6)(hd:H3 n d=true:=by exact rfl)(hp:PS P Γ S f vs v:=by infer_instance) :
  L P n opa QQ (⟨d,.call { callee:=.value (.func f),args:=args.toArray,argTypes:=tys },ty,pos,es,none⟩::rest) ρ w:=
 K0 rfl hd ((TV (Y:=[]) hp ha (by rw[List.append_nil];exact hw)).mono fun _ w' ⟨h1,h2⟩=>by subst h1;rw[List.append_nil]at h2;exact h w' h2)
theorem EF[C3 P f](h:∀w',Wd Γ S w'→L P n opa QQ rest (C9 ρ d (gv c v)) w')(hw:Wd Γ S w:=by exact hw)(hj:(opa[j]?).bind (·.dst)=some dj:=by exact rfl)(hjn:H3 n (some dj)=true:=by exact rfl)(hc:G3 (ρ dj) want c:=by exact Gi)(hd:H3 n d=true:=by exact rfl)(ha:c=true→EvL ρ args vs:=by intro hc;exact He)(hp:PS P Γ S f vs v:=by infer_instance) :
  L P n opa QQ (⟨d,.call { callee:=.value (.func f),args:=args.toArray,argTypes:=tys },ty,pos,es,some (j,want)⟩::rest) ρ w:=
 lGC hj hjn hd hc (fun hct=>MS (fun w' hw'=>by have:=h w' hw';rwa [Am hct rfl]at this) hw (ha hct) hd hp) (fun hcf=>by have:=h w hw;rwa [show gv c v=undef from by rw[hcf];unfold gv;rfl]at this)
theorem Fp[C3 P f](h:Qw P n ops Γ S Q rest (C9 ρ d v))(ha:EvL ρ args vs:=by exact u6)(hp:PS P Γ S f vs v:=by infer_instance) :
  Qw P n ops Γ S Q (⟨d,.call { callee:=.value (.func f),args:=args.toArray,argTypes:=tys },ty,pos,es,none⟩::rest) ρ:=
 UM rfl rfl (fun _ _ hw=>TV hp ha hw) h
theorem y7[C3 P f](h:Qw P n ops Γ S Q rest (C9 ρ d (gv c v)))(hj:(ops[j]?).bind (·.dst)=some dj:=by exact rfl)(hc:G3 (ρ dj) want c:=by exact Gi)(ha:c=true→EvL ρ args vs:=by intro hc;exact He)(hp:PS P Γ S f vs v:=by infer_instance) :
  Qw P n ops Γ S Q (⟨d,.call { callee:=.value (.func f),args:=args.toArray,argTypes:=tys },ty,pos,es,some (j,want)⟩::rest) ρ:=
 RG rfl hj hc rfl (fun ht _ _ hw=>TV hp (ha ht) hw) h
end
theorem Mm{zs:List Value}{sz:Nat}(hz:zs.length=sz)(h0:0<sz):∀n:Nat,(madeCells zs.toArray (n*sz)).toList=(List.replicate n zs).flatten:=fun n=>by
 unfold madeCells;simp only[Array.toList_map,Array.toList_range,List.size_toArray,hz]
 have hf:∀i:Nat,zs.toArray[i%sz]! = zs.getD (i%sz) undef:=fun i=>by
  have hlt:i%sz<zs.length:=by rw[hz];exact Nat.mod_lt _ h0
  rw[getElem!_pos (zs.toArray) _ (by simpa using hlt)]
  simp[List.getD_eq_getElem?_getD,List.getElem?_eq_getElem hlt]
 simp only[hf]
 induction n with
 | zero=>simp
 | succ n ih=>
  rw[show (n+1)*sz=sz+n*sz from by rw[Nat.add_mul];omega,List.range_add,List.map_append,List.map_map,List.replicate_succ,List.flatten_cons,←ih]
  congr 1
  ·refine List.ext_getElem? fun i=>?_
   rw[List.getElem?_map];by_cases hi:i<sz
   ·rw[List.getElem?_range hi];simp only[Option.map_some,Nat.mod_eq_of_lt hi]
    rw[List.getD_eq_getElem?_getD,List.getElem?_eq_getElem (by omega)];rfl
   ·rw[List.getElem?_eq_none (by simpa using hi),List.getElem?_eq_none (by omega)];rfl
  ·refine List.map_congr_left fun i _=>?_
   simp
section
variable {P:Program}{n:Nat}{opa:Array Oper}{Γ:C4}{S:List B5}{QQ:Exit→Fr→World→Prop}{ρ:Fr}{w:World}{rest:List Oper}{K:Value→World→Prop}
variable {d:Option Tmp}{T ty:TypeId}{pos:String}{es:Array Edge}{g:Option (Nat×Bool)}{x y:Operand}
theorem JY{E by' len sz:Nat}{zs:List Value}[hT:TL P T E sz by' zs](hw:Wd Γ S w)(hx:ev ρ x=.int .i64 (len:Nat))(hy:ev ρ y=.int .i64 (len:Nat))(hb:(by':Int)*len≤281474976710656)(h63:(len:Int)≤9223372036854775807)
  (hk:∀a w',Wd Γ (.own (.slice (some a) len len) E sz (List.replicate len zs)::S) w'→K (.slice (some a) len len) w'):Step P ⟨d,.makeSlice T x y,ty,pos,es,g⟩ ρ w K:=by
 obtain⟨q,z,hq,hz,hzc⟩:=W6 hT.z
 obtain⟨q',hq',hs,hb'⟩:=S4 hT.s
 rw[hq]at hq';cases hq'
 have hrun:=run_make (P:=P) w T E q z hT.h hq hz .i64 .i64 (len:Int) (len:Int) (by omega) (Int.le_refl _) (by rw[hb'];exact hb) h63
 rw[hzc,hs]at hrun;have hr0:(execOp (ev ρ) ⟨d,.makeSlice T x y,ty,pos,es,g⟩).run P w=.ok (.value (.slice (some ⟨w.heap.size,0,none⟩) len len)) (w.alloc (.cells (madeCells zs.toArray (len*sz)) E)):=by
  simp only[execOp,hx,hy,Sem.run_bind,hrun,Result.andThen_ok,Int.toNat_natCast]
  rfl
 have hrows:=Mm hT.n.1 hT.n.2 len
 have hfin:=hk ⟨w.heap.size,0,none⟩ (w.alloc (.cells (madeCells zs.toArray (len*sz)) E)) (hw.add (bs:=[w.heap.size]) ⟨rfl,rfl,rfl,(by first|exact Nat.le_refl _|exact Nat.le_succ _),by simp⟩ (by
  unfold B5.own;refine⟨fun r hr=>by rw[List.eq_of_mem_replicate hr];exact hT.n.1,_,_,_,rfl,(by simp),Nat.le_refl _,by simp[maxLen];omega,.inr ⟨w.heap.size,madeCells zs.toArray (len*sz),rfl,rfl,heap_alloc_new w _,size_madeCells _ _,?_⟩⟩
  rw[hrows,List.take_of_length_le];rw[←hrows,Array.length_toList,size_madeCells];exact Nat.le_refl _) (by simp) (by simp) fun k hk=>heap_alloc_old w _ hk)
 unfold Step;rw[hr0];exact hfin
theorem CS{E by' len sz:Nat}{zs:List Value}[hT:TL P T E sz by' zs](h:∀a w',Wd Γ (.own (.slice (some a) len len) E sz (List.replicate len zs)::S) w'→L P n opa QQ rest (C9 ρ d (.slice (some a) len len)) w')
  (hw:Wd Γ S w:=by exact hw) (hx:ev ρ x=.int .i64 (len:Nat):=by exact rfl) (hy:ev ρ y=.int .i64 (len:Nat):=by exact rfl) (hb:(by':Int)*len≤281474976710656:=by omega) (h63:(len:Int)≤9223372036854775807:=by omega) (hd:H3 n d=true:=by exact rfl) :
  L P n opa QQ (⟨d,.makeSlice T x y,ty,pos,es,none⟩::rest) ρ w:=K0 rfl hd (JY hw hx hy hb h63 h)
end
theorem Ls{Γ Γ':C4}{w:World}(hle:Γ.le Γ')(h:Wd Γ' [] w):Wd Γ [] w:=by
 obtain⟨h1,h2,h3,h4,h5,-⟩:=h;exact⟨h1.trans hle.os,h2.trans hle.tape,h3.trans hle.out,by rw[←hle.dr];exact h4,fun b o hb=>h5 b o (hle.imm b o hb),[],trivial,by simp,by simp⟩
section
variable {P:Program}{n:Nat}{ops:List Oper}{Γ:C4}{K:List B5}{wr tc stab:List (List Nat)}{Q:Fr→World→Prop}{i:Nat}{rest:List Oper}{ρ:Fr}{M:Nat→Fr→List B5}
variable {d:Option Tmp}{op:Op}{ty:TypeId}{pos:String}{es:Array Edge}{j dj:Nat}{want:Bool}
end
section
variable {P:Program}{n:Nat}{ops:List Oper}{Γ:C4}{K:List B5}{wr tc stab:List (List Nat)}{Q:Fr→World→Prop}{i:Nat}{rest:List Oper}{ρ:Fr}{M:Nat→Fr→List B5}
variable {d:Option Tmp}{op:Op}{ty:TypeId}{pos:String}{es:Array Edge}{j dj:Nat}{want:Bool}
end
theorem LK{P:Program}{ρ:Fr}{w:World}{d:Option Tmp}{T ty:TypeId}{pos:String}{es:Array Edge}{g:Option (Nat×Bool)}{x:Operand}{k:IntKind}{a:Int}(hx:ev ρ x=.int k a):Yields P ⟨d,.unOp .neg T x,ty,pos,es,g⟩ ρ w (.int k (k.wrap (-a))):=by
 unfold Yields;simp[execOp,go_sem,hx,Op.unary,Op.intArith]
end Mk
end
section
open Go Mk
namespace Go.Proofs.YtlmiakjbogojgaaGreatDoor
set_option maxHeartbeats 8000000
attribute [local irreducible] Calls
def pk(toks:List Tok)(k:Nat):Tok:=(toks[k]?).getD default
theorem Bn{toks:List Tok}{k:Nat}{t:Tok}(h:toks[k]? = some t):pk toks k=t:=by unfold pk;rw[h];rfl
theorem BC{toks:List Tok}{k:Nat}{kind:Int}{text:ByteArray}(h0:kind≠0):L5 toks k kind text=(decide ((pk toks k).Kind=kind)&&decide ((pk toks k).Text=text)):=by
 unfold L5 pk;cases toks[k]? with
 | none=>
  have:decide ((default:Tok).Kind=kind)=false:=decide_eq_false fun h=>h0 h.symm
  simp only[Option.getD_none,this,Bool.false_and]
 | some t=>rfl
def Pe(v:Int):Int:=IntKind.i64.wrap (-(IntKind.i64.wrap v))
def Rf(v:Int):Int:=IntKind.i64.wrap v
def Hv(toks:List Tok)(e:C8)(neg:Bool)(k:Nat):PR Int:=
 if (pk toks k).Kind≠2 then .error (G2 toks k e,50)
 else if (neg=true∧9223372036854775808<(pk toks k).Value)∨(neg=false∧9223372036854775808≤(pk toks k).Value) then .error (G2 toks k e,6)
 else .ok (if neg=true then Pe (pk toks k).Value else Rf (pk toks k).Value,k+1)
def J8:ByteArray:=⟨#[45]⟩
def argI:PR Int→PR Val
 | .ok (v,k1)=>.ok (⟨1,v,⟨#[]⟩⟩,k1)
 | .error q=>.error q
def Eo(toks:List Tok)(e:C8)(beyond:Bool)(k:Nat):PR Val:=
 if (pk toks k).Kind=2∧9223372036854775808≤(pk toks k).Value then .error (G2 toks k e,6)
 else if (pk toks k).Kind=1∨(pk toks k).Kind=3 then
  if (pk toks k).Text=⟨#[]⟩∨24<(pk toks k).Text.size then .error (G2 toks k e,63)
  else if beyond=true then .error (G2 toks k e,15)
  else .ok (⟨2,0,(pk toks k).Text⟩,k+1)
 else if (pk toks k).Kind≠2∧((pk toks k).Kind≠4∨(pk toks k).Text≠J8) then .error (G2 toks k e,50)
 else if beyond=true then .error (G2 toks k e,15)
 else argI (Hv toks e (decide ((pk toks k).Kind=4)) (if (pk toks k).Kind=4 then k+1 else k))
section
variable {Γ:C4}{S:List B5}{w:World}{bp:Nat}{a:Option Addr}{n c k:Nat}{e p:C8}{er:Int}{toks:List Tok}
end
end Go.Proofs.YtlmiakjbogojgaaGreatDoor
end
section
open Go Mk
namespace Go.Proofs.YtlmiakjbogojgaaGreatDoor
set_option maxHeartbeats 4000000
attribute [local irreducible] Calls cI cB
instance Qy(Γ:C4)(a b:Val):PG Tryz.prog Γ 143 [.agg (enc a).toArray,.agg (enc b).toArray] (.int .i64 (cV a b)):=⟨fun S w hw=>by
 refine A4 Tryz.func143 rfl rfl ?_
 refine A7 ?_;refine J5 ?_;intro b1 w hw;refine J5 ?_;intro b2 w hw;have hw:Wd Γ (.blk b2 (.cells (enc b).toArray 65)::.blk b1 (.cells (enc a).toArray 65)::S) w:=hw
 refine A7 ?_;refine A0 rfl (fun h=>?_) (fun h=>?_)
 ·refine A7 ?_;exact⟨_,rfl,F9 rfl (by have h:=of_decide_eq_true h;subst h;rw[FJ.refl]),hw.drop.drop⟩
 ·refine A7 ?_;refine p8 [.blk b2 _,.blk b1 _] S [23] [[],[],[],[],[],[],[],[],[],[],[],[],[],[],[],[0],[0],[]] hw ?_
  refine W9 ?_;refine V9 (v:=undef) (T':=Value) (fun t g=>g 23=t) (fun t=>.own t 3 1 ([cI a.Kind b.Kind,cI a.Num b.Num,cB a.Word b.Word].map fun x=>[.int .i64 x])::S) (fun t g w Y _ hw=>S8 (rws:=[cI a.Kind b.Kind,cI a.Num b.Num,cB a.Word b.Word].map fun x=>[.int .i64 x]) hw rfl rfl rfl (by simp) (by decide) fun q w' hw'=>⟨_,rfl,(fun h=>by cases h),hw'⟩) ?_
  refine FS (φ:=fun (t:Value) g=>g 23=t) (v:=.int .i64 (cV a b)) (T':=Value) (fun _ _=>True) (fun t=>.own t 3 1 ([cI a.Kind b.Kind,cI a.Num b.Num,cB a.Word b.Word].map fun x=>[.int .i64 x])::S) (fun t _=>[t]) (fun t g w Y ht hw=>?_) ?_ (ha:=fun t g ht=>EvL.cons ht EvL.nil)
  ·refine(Kx _ hw (R8.own (i:=0) hw rfl)).mono ?_
   rintro e w ⟨rfl,hw⟩
   refine⟨_,rfl,t,trivial,fun _=>?_,hw⟩
   unfold cV KA KA KA KA;rw[QJ]
  refine W9 ?_;refine Al fun t w g _ hw=>?_
  refine A7 ?_;exact⟨_,rfl,rfl,hw.drop.left⟩⟩
theorem En{Γ:C4}{va vb:Value}{xs ys:List Val}(ha:D6 Γ va 3 (xs.map enc))(hb:D6 Γ vb 3 (ys.map enc)) :
  PG Tryz.prog Γ 142 [va,vb,.func (.func 143) #[] #[]] (.int .i64 (cL cV xs ys)):=⟨fun S w hw=>by
 obtain⟨a,n,c,rfl,hn,hnc,hc⟩:=ha.shape;obtain⟨a2,n2,c2,rfl,hn2,hnc2,hc2⟩:=hb.shape;simp only[List.length_map]at hn hn2
 refine A4 Tryz.func142 rfl rfl ?_
 refine A7 ?_;refine C1 (fun μ ρ w=>∃(k:Nat),μ+k=n∧Has ρ [(0,.slice a n c),(1,.slice a2 n2 c2),(2,.func (.func 143) #[] #[]),(11,.slice a n c),(12,.int .i64 n),(13,.int .i64 k)]∧cL cV xs ys=cL cV (xs.drop k) (ys.drop k)∧Wd Γ S w) n ⟨0,by omega,⟨rfl,rfl,rfl,rfl,rfl,rfl,trivial⟩,rfl,hw⟩ ?_
 clear hw;rintro μ ρ w ⟨k,hk,hρ,ho,hw⟩
 rw[hρ.eq];refine A7 ?_;refine A0 rfl (fun h=>?_) (fun h=>?_)
 ·have hkn:k<n:=by simpa using h
  obtain⟨x,hx⟩:=B8 (l:=xs) (k:=k) (by omega)
  have hd:xs.drop k=x::xs.drop (k+1):=M8 hx
  rw[hd]at ho;refine A7 ?_;refine B7 ?_;intro b8 w hw;refine A7 ?_;refine A9 ?_;intro w hw;have hw:Wd Γ (.blk b8 (.cells (enc x).toArray 65)::S) w:=hw
  refine A7 ?_;refine A0 rfl (fun h2=>?_) (fun h2=>?_)
  ·refine A7 ?_;have h2:n2≤k:=by simpa using h2
   refine⟨_,rfl,F9 rfl ?_,hw.drop⟩
   rw[ho,E0 ys (by omega)];rfl
  ·have h2:k<n2:=by simpa using h2
   obtain⟨y,hy⟩:=B8 (l:=ys) (k:=k) (by omega)
   rw[M8 hy]at ho;have ho:cL cV xs ys=CH (cV x y) (cL cV (xs.drop (k+1)) (ys.drop (k+1))):=ho
   refine A7 ?_;refine B7 ?_;intro b9 w hw;refine A9 ?_;intro w hw;have hw:Wd Γ (.blk b9 (.cells (enc y).toArray 65)::.blk b8 (.cells (enc x).toArray 65)::S) w:=hw
   refine A7 ?_;refine Dp (fst:=[]) (cap:=[]) ?_
   refine((Qy Γ x y).h _ _ hw).mono ?_
   rintro e w ⟨rfl,hw⟩
   refine⟨_,rfl,?_⟩;refine A7 ?_;refine A0 rfl (fun h3=>?_) (fun h3=>?_)
   ·refine A7 ?_;have h3:¬cV x y=0:=by simpa using h3
    refine⟨_,rfl,F9 rfl ?_,hw.drop.drop⟩
    rw[ho,IK h3]
   ·refine A7 ?_;have h3:cV x y=0:=by simpa using h3
    refine⟨μ-1,by omega,k+1,by omega,⟨rfl,rfl,rfl,rfl,rfl,rfl,trivial⟩,?_,hw.drop.drop⟩
    rw[ho,Fe h3]
 ·have hkn:¬k<n:=by simpa using h
  rw[E0 xs (by omega)]at ho
  refine A7 ?_;refine A0 rfl (fun h2=>?_) (fun h2=>?_)
  ·refine A7 ?_;have h2:n<n2:=by simpa using h2
   obtain⟨y,hy⟩:=B8 (l:=ys) (k:=k) (by omega)
   rw[M8 hy]at ho;exact⟨_,rfl,F9 rfl (by rw[ho];rfl),hw⟩
  ·refine A7 ?_;have h2:¬n<n2:=by simpa using h2
   rw[E0 ys (by omega)]at ho
   exact⟨_,rfl,F9 rfl (by rw[ho];rfl),hw⟩⟩
theorem Lv{Γ:C4}{f g:D4}(hf:Cf Γ f)(hg:Cf Γ g):PG Tryz.prog Γ 73 [.agg (cF f).toArray,.agg (cF g).toArray] (.int .i64 (K8 f.fact g.fact)):=⟨fun S w hw=>by
 obtain⟨l1,l2,l3⟩:=hf.len;obtain⟨m1,m2,m3⟩:=hg.len;have hC:=En hf hg
 obtain⟨fr,fa,fn,fc,fs⟩:=f;obtain⟨gr,ga,gn,gc,gs⟩:=g;simp only at l1 l2 l3 m1 m2 m3
 refine A4 Tryz.func73 rfl rfl ?_
 refine A7 ?_;refine J5 ?_;intro b1 w hw;refine J5 ?_;intro b2 w hw;have hw:Wd Γ (.blk b2 (.cells #[.string gr,.slice ga gn gc] 80)::.blk b1 (.cells #[.string fr,.slice fa fn fc] 80)::S) w:=hw
 refine A7 ?_;refine p8 [.blk b2 _,.blk b1 _] S [18] [[],[],[],[],[],[],[],[],[],[],[],[],[0],[0],[]] hw ?_
 refine W9 ?_;refine V9 (v:=undef) (T':=Value) (fun t g=>g 18=t) (fun t=>.own t 3 1 ([cB fr gr,cI fn gn].map fun x=>[.int .i64 x])::S) (fun t g w Y _ hw=>S8 (rws:=[cB fr gr,cI fn gn].map fun x=>[.int .i64 x]) hw rfl rfl rfl (by simp) (by decide) fun q w' hw'=>⟨_,rfl,(fun h=>by cases h),hw'⟩) ?_
 refine FS (φ:=fun (t:Value) g=>g 18=t) (v:=.int .i64 (CH (cB fr gr) (cI fn gn))) (T':=Value) (fun _ _=>True) (fun t=>.own t 3 1 ([cB fr gr,cI fn gn].map fun x=>[.int .i64 x])::S) (fun t _=>[t]) (fun t g w Y ht hw=>?_) ?_ (ha:=fun t g ht=>EvL.cons ht EvL.nil)
 ·refine(Kx _ hw (R8.own (i:=0) hw rfl)).mono ?_
  rintro e w ⟨rfl,hw⟩
  refine⟨_,rfl,t,trivial,fun _=>?_,hw⟩
  unfold KA KA KA;rw[QJ]
 refine W9 ?_;refine Al fun t w g _ hw=>?_
 have hw:Wd Γ (.blk b2 (.cells #[.string gr,.slice ga gn gc] 80)::.blk b1 (.cells #[.string fr,.slice fa fn fc] 80)::S) w:=hw.drop.flip
 have hcf:K8 (fr,fs) (gr,gs)=CH (CH (cB fr gr) (cI fn gn)) (cL cV fs gs):=by
  unfold K8;rw[l1,m1];unfold CH;by_cases e:cB fr gr=0 <;> simp[e]
 refine A7 ?_;refine A0 rfl (fun h3=>?_) (fun h3=>?_)
 ·refine A7 ?_;have h3:¬CH (cB fr gr) (cI fn gn)=0:=by simpa using h3
  refine⟨_,rfl,F9 rfl ?_,hw.drop.drop⟩
  show _=K8 (fr,fs) (gr,gs)
  rw[hcf,IK h3]
 ·have h3:CH (cB fr gr) (cI fn gn)=0:=by simpa using h3
  refine A7 ?_;refine TD (hp:=hC) ?_
  intro w hw;refine A7 ?_;refine⟨_,rfl,F9 rfl ?_,hw.drop.drop⟩
  show _=K8 (fr,fs) (gr,gs)
  rw[hcf,Fe h3]⟩
end Go.Proofs.YtlmiakjbogojgaaGreatDoor
end
section
open Go Mk
namespace Go.Proofs.YtlmiakjbogojgaaGreatDoor
set_option maxHeartbeats 4000000
attribute [local irreducible] Calls cI cB
end Go.Proofs.YtlmiakjbogojgaaGreatDoor
end
section
open Go
namespace Mk
attribute [local irreducible] Calls
section
variable {P:Program}{n:Nat}{ops:List Oper}{Γ:C4}{K:List B5}{wr tc stab:List (List Nat)}{Q:Fr→World→Prop}{i:Nat}{rest:List Oper}{ρ:Fr}{M:Nat→Fr→List B5}
variable {d:Option Tmp}{ty:TypeId}{pos:String}{es:Array Edge}{f:Nat}{args:List Operand}{tys:Array TypeId}{vs:List Value}{v:Value}
theorem Tq{c:Nat}{X:List B5}(X':List B5)[C3 P f](hs:∀R w,Wd Γ (X++R) w→Calls P f vs.toArray w fun e w'=>e=.returned v∧Wd Γ (X'++R) w')
  (h:MSw (mV P n ops Γ K wr tc stab) Q (i+1) rest ⟨C9 ρ d v,M0 M c fun _=>X'⟩) (hM:M c=fun _=>X:=by first|exact B6|exact NL|exact AW|exact rfl) (hw0:wr.getD i []=[c]:=by exact rfl) (ht:tc.getD i []=[c]:=by exact rfl) (ha:∀g,EvL (F3 stab.flatten g ρ) args vs:=by intro g;exact u6) :
  MSw (mV P n ops Γ K wr tc stab) Q i (⟨d,.call { callee:=.value (.func f),args:=args.toArray,argTypes:=tys },ty,pos,es,none⟩::rest) ⟨ρ,M⟩:=
 mS (F:=fun _=>X) (fun _=>X') (fun g w Y hw=>Ak (ha g).eqA ((hs _ w hw).mono fun e w' ⟨h1,h2⟩=>⟨v,h1,fun _=>rfl,h2⟩)) h hM hw0 ht rfl
theorem Rs{S:List B5}{t:Tmp}{cap:List Value}[C3 P f](hc:∀Y w,Wd Γ (S++Y) w→Calls P f (vs++cap).toArray w fun e w'=>e=.returned v∧Wd Γ (S++Y) w')(h:Qw P n ops Γ S Q rest (C9 ρ d v))(ht:ρ t=.func (.func f) #[] cap.toArray:=by exact rfl)(ha:EvL ρ args vs:=by exact u6) :
  Qw P n ops Γ S Q (⟨d,.call { callee:=.value (.tmp t),args:=args.toArray,argTypes:=tys },ty,pos,es,none⟩::rest) ρ:=
 UM rfl rfl (fun Y w hw=>LX ht ha.eqA (by simpa using (hc Y w hw).mono fun e w' ⟨h1,h2⟩=>⟨v,h1,rfl,h2⟩)) h
theorem E8{S:List B5}{w:World}(hw:Wd Γ S w):Wd Γ [] w:=⟨hw.os,hw.tape,hw.out,hw.dr,hw.imm,[],trivial,by simp,by simp⟩
theorem IY{S:List B5}{w w':World}(h0:Γ.dr=0)(hw:Wd Γ S w)(h:Go.RowKit.Below w.heap.size w w'):Wd Γ S w':=by
 have hk:∀k,k<w.heap.size→w'.heap[k]? = w.heap[k]?:=h.block
 obtain⟨h1,h2,h3,h4,h5,bss,h6,h7,h8⟩:=hw;refine⟨h.os.trans h1,h.tape.trans h2,h.output.trans h3,by rw[h0];exact Nat.zero_le _,fun b o hb=>?_,bss,Holds.loc (fun b o h=>h) S bss (fun b hb=>hk b (h8 b hb).1) h6,h7,fun b hb=>⟨Nat.lt_of_lt_of_le (h8 b hb).1 h.size,(h8 b hb).2⟩⟩
 have h9:=h5 b o hb
 rw[hk b (Array.getElem?_eq_some_iff.1 h9).1];exact h9
end
end Mk
end
section
open Go Mk
namespace Go.Proofs.YtlmiakjbogojgaaGreatDoor
set_option maxHeartbeats 16000000
def AR:ByteArray:=⟨#[40]⟩
def Lr:ByteArray:=⟨#[41]⟩
attribute [local irreducible] Calls Eo L5
section
variable {Γ:C4}{S:List B5}{w:World}{bp:Nat}{a:Option Addr}{n c k:Nat}{e p:C8}{er:Int}{toks:List Tok}
end
end Go.Proofs.YtlmiakjbogojgaaGreatDoor
end
section
open Go Mk
namespace Go.Proofs.YtlmiakjbogojgaaGreatDoor
set_option maxHeartbeats 4000000
section
variable {α:Type}{c:α→α→Int}
structure Co(c:α→α→Int)(db l:List α):Prop where
 asc:l.Pairwise fun a b=>c a b = -1
 mem:∀x,x∈l↔x∈db
theorem Jl(h:T4 c):∀ {l k:List α},(l.Pairwise fun a b=>c a b = -1)→(k.Pairwise fun a b=>c a b = -1)→(∀x,x∈l↔x∈k)→l=k
 | [],[],_,_,_=>rfl
 | [],b::k,_,_,hm=>absurd ((hm b).2 (List.mem_cons_self)) (by simp)
 | a::l,[],_,_,hm=>absurd ((hm a).1 (List.mem_cons_self)) (by simp)
 | a::l,b::k,ha,hb,hm=>by
  have ha':=List.pairwise_cons.1 ha
  have hb':=List.pairwise_cons.1 hb
  have hab:a=b:=by
   rcases List.mem_cons.1 ((hm a).1 List.mem_cons_self) with e|e
   ·exact e
   rcases List.mem_cons.1 ((hm b).2 List.mem_cons_self) with e2|e2
   ·exact e2.symm
   have h1:=hb'.1 a e
   have h2:=ha'.1 b e2
   have:=h.trans h1 h2
   rw[h.refl]at this;exact absurd this (by decide)
  subst hab;congr 1
  refine Jl h ha'.2 hb'.2 fun x=>?_
  have hne:∀ {m:List α},(∀y∈m,c a y = -1)→x∈m→x≠a:=fun hh hx e=>by
   subst e;have:=hh _ hx
   rw[h.refl]at this;exact absurd this (by decide)
  constructor
  ·intro hx;rcases List.mem_cons.1 ((hm x).1 (List.mem_cons_of_mem _ hx)) with e|e
   ·exact absurd e (hne ha'.1 hx)
   ·exact e
  ·intro hx;rcases List.mem_cons.1 ((hm x).2 (List.mem_cons_of_mem _ hx)) with e|e
   ·exact absurd e (hne hb'.1 hx)
   ·exact e
theorem Co.uniq(h:T4 c){db l k:List α}(h1:Co c db l)(h2:Co c db k):l=k:=Jl h h1.asc h2.asc fun x=>(h1.mem x).trans (h2.mem x).symm
def Ei(c:α→α→Int)(f:α):List α→List α
 | []=>[f]
 | x::l=>if c f x = -1 then f::x::l else if c f x=0 then x::l else x::Ei c f l
def CU(c:α→α→Int):List α→List α
 | []=>[]
 | f::db=>Ei c f (CU c db)
theorem Fj(h:T4 c){f x:α}:∀ {l:List α},x∈Ei c f l↔x=f∨x∈l
 | []=>by simp[Ei]
 | y::l=>by
  unfold Ei;split
  ·simp
  ·split
   ·rename_i e
    have e:=h.eq0 e
    subst e;simp
   ·rw[List.mem_cons,Fj h,List.mem_cons];constructor
    ·rintro (h|h|h)
     ·exact .inr (.inl h)
     ·exact .inl h
     ·exact .inr (.inr h)
    ·rintro (h|h|h)
     ·exact .inr (.inl h)
     ·exact .inl h
     ·exact .inr (.inr h)
theorem Jv(h:T4 c){f:α}:∀ {l:List α},(l.Pairwise fun a b=>c a b = -1)→(Ei c f l).Pairwise fun a b=>c a b = -1
 | [],_=>by simp[Ei]
 | y::l,ha=>by
  have ha':=List.pairwise_cons.1 ha
  unfold Ei;split
  ·rename_i e
   refine List.pairwise_cons.2 ⟨fun z hz=>?_,ha⟩
   rcases List.mem_cons.1 hz with q|q
   ·rw[q];exact e
   ·exact h.trans e (ha'.1 z q)
  ·split
   ·exact ha
   ·rename_i e1 e2
    refine List.pairwise_cons.2 ⟨fun z hz=>?_,Jv h ha'.2⟩
    rcases (Fj h).1 hz with q|q
    ·rw[q,h.anti];rcases h.rng f y with r|r|r
     ·exact absurd r e1
     ·exact absurd r e2
     ·rw[r]
    ·exact ha'.1 z q
theorem Di(h:T4 c):∀db:List α,Co c db (CU c db)
 | []=>⟨List.Pairwise.nil,fun x=>Iff.rfl⟩
 | f::db=>⟨Jv h (Di h db).asc,fun x=>by
  show x∈Ei c f (CU c db)↔_
  rw[Fj h,(Di h db).mem,List.mem_cons]⟩
theorem Co.eq(h:T4 c){db l:List α}(h1:Co c db l):l=CU c db:=h1.uniq h (Di h db)
theorem Pn(h:T4 c){db:List α}{x:α}:x∈CU c db↔x∈db:=(Di h db).mem x
theorem JC{f:α}:∀ {l:List α},(Ei c f l).length≤l.length+1
 | []=>by simp[Ei]
 | y::l=>by
  have:=JC (f:=f) (l:=l)
  unfold Ei;split
  ·simp
  ·split
   ·simp
   ·simp;omega
theorem Fl:∀ {db:List α},(CU c db).length≤db.length
 | []=>by simp[CU]
 | f::db=>by
  have:=Fl (db:=db)
  have:=JC (c:=c) (f:=f) (l:=CU c db)
  simp only[CU,List.length_cons];omega
theorem Ib(h:T4 c)(p:α→Bool)(db:List α):CU c (db.filter p)=(CU c db).filter p:=by
 refine(Co.eq h (Co.mk ((Di h db).asc.filter _) fun x=>?_)).symm
 rw[List.mem_filter,List.mem_filter,Pn h]
end
def kp{α:Type}(p:α→α→Bool):α→List α→List α
 | _,[]=>[]
 | a,b::l=>if p b a=true then kp p b l else b::kp p b l
def Z2{α:Type}(p:α→α→Bool):List α→List α
 | []=>[]
 | a::l=>a::kp p a l
theorem Dy{α:Type}{p:α→α→Bool}{x:α}:∀ {l:List α} {a:α},x∈kp p a l→x∈l
 | [],_,h=>h
 | b::l,a,h=>by
  unfold kp at h;split at h
  ·exact List.mem_cons_of_mem _ (Dy h)
  ·rcases List.mem_cons.1 h with e|e
   ·rw[e];exact List.mem_cons_self
   ·exact List.mem_cons_of_mem _ (Dy e)
theorem Cy{α:Type}{p:α→α→Bool}{x:α}{l:List α}(h:x∈Z2 p l):x∈l:=by
 cases l with
 | nil=>exact h
 | cons a l=>
  rcases List.mem_cons.1 h with e|e
  ·rw[e];exact List.mem_cons_self
  ·exact List.mem_cons_of_mem _ (Dy e)
theorem Tb{α:Type}{p:α→α→Bool}:∀ {l:List α} {a:α},(kp p a l).length≤l.length
 | [],_=>Nat.le_refl _
 | b::l,a=>by
  unfold kp;have:=Tb (p:=p) (l:=l) (a:=b)
  split
  ·simp;omega
  ·simp;omega
theorem Le{α:Type}{p:α→α→Bool}{y:α}:∀(l:List α) (a:α),kp p a (l++[y])=kp p a l++(if p y (l.getLast?.getD a)=true then [] else [y])
 | [],a=>by
  show (if p y a=true then kp p y [] else y::kp p y [])=_
  rfl
 | b::l,a=>by
  have ih:=Le (p:=p) (y:=y) l b
  have hl:((b::l).getLast?).getD a=l.getLast?.getD b:=by
   cases l with
   | nil=>rfl
   | cons x l=>simp[List.getLast?_cons_cons];rw[List.getLast?_eq_some_getLast (by simp)];rfl
  rw[hl,List.cons_append];show (if p b a=true then kp p b (l++[y]) else b::kp p b (l++[y]))=(if p b a=true then kp p b l else b::kp p b l)++_
  rw[ih];split <;> simp
theorem Af{α:Type}{p:α→α→Bool}{fs:List α}{j:Nat}{x y:α}(h0:0<j)(hy:fs[j]? = some y)(hx:fs[j-1]? = some x):Z2 p (fs.take (j+1))=if p y x=true then Z2 p (fs.take j) else Z2 p (fs.take j)++[y]:=by
 have ht:fs.take (j+1)=fs.take j++[y]:=by rw[List.take_add_one,hy];rfl
 have hjl:=(List.getElem?_eq_some_iff.1 hy).1
 rw[ht];have hlast:(fs.take j).getLast? = some x:=by
  rw[List.getLast?_eq_getElem?,List.length_take,Nat.min_eq_left (by omega),List.getElem?_take,if_pos (by omega)]
  exact hx
 cases hl:fs.take j with
 | nil=>rw[hl]at hlast;cases hlast
 | cons a l=>
  rw[hl]at hlast;have hla:l.getLast?.getD a=x:=by
   cases l with
   | nil=>simpa using hlast
   | cons b l=>rw[List.getLast?_cons_cons]at hlast;rw[hlast];rfl
  show a::kp p a (l++[y])=_
  rw[Le,hla];split <;> simp[Z2]
section
variable {α β:Type}{c:α→α→Int}
theorem Lf(h:T4 c)(F:β→α):∀ {l:List β} {a:β},((a::l).Pairwise fun x y=>c (F y) (F x)≠-1) →
  ((kp (fun x y=>decide (c (F x) (F y)=0)) a l).map F).Pairwise (fun x y=>c x y = -1)∧(∀x∈(kp (fun x y=>decide (c (F x) (F y)=0)) a l).map F,c (F a) x = -1)∧∀x,x∈F a::(kp (fun x y=>decide (c (F x) (F y)=0)) a l).map F↔x∈F a::l.map F
 | [],a,_=>⟨List.Pairwise.nil,fun x hx=>absurd hx (by simp[kp]),fun x=>Iff.rfl⟩
 | b::l,a,hs=>by
  have hs':=List.pairwise_cons.1 hs
  obtain⟨k1,k2,k3⟩:=Lf h F hs'.2
  unfold kp;by_cases e:c (F b) (F a)=0
  ·have e2:=h.eq0 e
   rw[if_pos (decide_eq_true e)];rw[e2]at k2 k3
   refine⟨k1,k2,fun x=>?_⟩
   rw[k3 x,List.map_cons,e2];simp
  ·rw[if_neg (by simp[e])]
   have e3:c (F a) (F b) = -1:=by
    have h1:=hs'.1 b List.mem_cons_self
    rw[h.anti];rcases h.rng (F b) (F a) with r|r|r
    ·exact absurd r h1
    ·exact absurd r e
    ·rw[r]
   refine⟨?_,fun x hx=>?_,fun x=>?_⟩
   ·rw[List.map_cons];exact List.pairwise_cons.2 ⟨k2,k1⟩
   ·rw[List.map_cons]at hx;rcases List.mem_cons.1 hx with q|q
    ·rw[q];exact e3
    ·exact h.trans e3 (k2 x q)
   ·rw[List.map_cons,List.mem_cons,k3 x,List.map_cons,List.mem_cons (b:=F a)]
theorem HC(h:T4 c)(F:β→α){fs gs:List β}(hp:gs.Perm fs)(hs:gs.Pairwise fun x y=>c (F y) (F x)≠-1):(Z2 (fun x y=>decide (c (F x) (F y)=0)) gs).map F=CU c (fs.map F):=by
 refine Co.eq h ?_
 have hm:∀x,x∈gs.map F↔x∈fs.map F:=fun x=>(hp.map F).mem_iff
 cases gs with
 | nil=>exact⟨List.Pairwise.nil,hm⟩
 | cons a l=>
  obtain⟨k1,k2,k3⟩:=Lf h F hs
  refine⟨?_,fun x=>(k3 x).trans (hm x)⟩
  show ((F a::(kp _ a l).map F)).Pairwise _
  exact List.pairwise_cons.2 ⟨k2,k1⟩
end
end Go.Proofs.YtlmiakjbogojgaaGreatDoor
end
section
open Go Mk
namespace Go.Proofs.YtlmiakjbogojgaaGreatDoor
set_option maxHeartbeats 4000000
attribute [local irreducible] Calls cI cB K8
end Go.Proofs.YtlmiakjbogojgaaGreatDoor
end
section
open Go Mk
namespace Go.Proofs.YtlmiakjbogojgaaGreatDoor
set_option maxHeartbeats 4000000
attribute [local irreducible] Calls cI cB K8
instance Um(Γ:C4)(s:ByteArray):PG Tryz.prog Γ 24 [.string s] (.agg (enc (⟨2,0,s⟩:Val)).toArray):=⟨fun S w hw=>by
 refine F1 Tryz.func24 rfl rfl ?_
 repeat first|refine A5 ?_|refine A6 ?_;intro w hw
 refine B7 ?_;intro b w hw;repeat first|refine A5 ?_|refine A6 ?_;intro w hw
 refine A9 ?_;intro w hw;have hw:Wd Γ (.blk b (.cells (enc (⟨2,0,s⟩:Val)).toArray 65)::S) w:=hw
 repeat first|refine A5 ?_|refine A6 ?_;intro w hw
 exact⟨[.agg (enc (⟨2,0,s⟩:Val)).toArray],⟨J2 (i:=0) hw rfl rfl rfl,trivial⟩,rfl,hw.drop⟩⟩
instance VC(Γ:C4)(v:Int):PG Tryz.prog Γ 22 [.int .i64 v] (.agg (enc (⟨1,v,⟨#[]⟩⟩:Val)).toArray):=⟨fun S w hw=>by
 refine F1 Tryz.func22 rfl rfl ?_
 refine A7 ?_;refine B7 ?_;intro b w hw;refine A7 ?_;refine A9 ?_;intro w hw;have hw:Wd Γ (.blk b (.cells (enc (⟨1,v,⟨#[]⟩⟩:Val)).toArray 65)::S) w:=hw
 refine A7 ?_;exact⟨[.agg (enc (⟨1,v,⟨#[]⟩⟩:Val)).toArray],⟨J2 (i:=0) hw rfl rfl rfl,trivial⟩,rfl,hw.drop⟩⟩
theorem IW(Γ:C4)(S:List B5)(w:World)(va:Value)(rel:ByteArray)(vs:List Val)(hr:R8 Γ S va 3 (vs.map enc))(hl:vs.length≤100000)(hw:Wd Γ S w) :
  Calls Tryz.prog 26 #[.string rel,va] w fun e w'=>∃f:D4,e=.returned (.agg (cF f).toArray)∧f.fact=(rel,vs)∧Wd Γ (.own f.hdr 65 3 (f.Args.map enc)::S) w':=by
 obtain⟨a,n,c,rfl,hn,hnc,hc⟩:=hr.shape;simp only[List.length_map]at hn
 refine F1 Tryz.func26 rfl rfl ?_
 repeat first|refine A5 ?_|refine A6 ?_;intro w hw
 refine B7 ?_;intro b w hw;repeat first|refine A5 ?_|refine A6 ?_;intro w hw
 have hw:=Wd.addNil (a:=none) (E:=65) (sz:=3) hw
 refine Bv (i:=0) (rows2:=vs.map enc) ?_ (hr.cons.cons.rd hw) rfl rfl hw rfl (List.all_eq_true.2 (fun u hu=>(List.all_eq_true.1 (Dc vs)) u hu)) (by simpa using hn)
 intro v' w hw;obtain⟨a',n',c',rfl,hn',hnc',hc'⟩:=hw.own_shape (i:=0) rfl
 repeat first|refine A5 ?_|refine A6 ?_;intro w hw
 refine A9 ?_;intro w hw;have hw:Wd Γ (.own (.slice a' n' c') 65 3 (vs.map enc)::.blk b (.cells (cF ⟨rel,a',n',c',vs⟩).toArray 80)::S) w:=hw
 repeat first|refine A5 ?_|refine A6 ?_;intro w hw
 exact⟨[.agg (cF ⟨rel,a',n',c',vs⟩).toArray],⟨J2 (i:=1) hw rfl rfl rfl,trivial⟩,⟨rel,a',n',c',vs⟩,rfl,rfl,hw.dropAt 1⟩
end Go.Proofs.YtlmiakjbogojgaaGreatDoor
end
section
open Go Mk
namespace Go.Proofs.YtlmiakjbogojgaaGreatDoor
def JM:Go.Shelf.Ren:=⟨fun|6=>72|15=>133|14=>140|28=>201|29=>202|20=>214|21=>215|22=>216|23=>217|24=>218|25=>219|26=>220|27=>221|46=>277|47=>267|48=>268|49=>278|50=>279|57=>300|n=>n,fun|22=>60|24=>80|25=>153|3=>3|39=>129|0=>0|53=>260|55=>56|4=>4|46=>253|45=>252|50=>257|5=>5|9=>9|66=>306|70=>310|76=>330|77=>213|n=>n,fun|n=>n⟩
theorem Qs:Go.Proofs.SlLaysF0.n6 Tryz.prog JM:={
 mixed:=by kernel_rfl
 f6:=⟨Tryz.f72.name,by decide,Tryz.func72.trans (congrArg some (by kernel_rfl))⟩
 f14:=⟨Tryz.f140.name,by decide,Tryz.func140.trans (congrArg some (by kernel_rfl))⟩
 f15:=Tryz.func133.trans (congrArg some (by kernel_rfl))
 f20:=⟨Tryz.f214.name,by decide,Tryz.func214.trans (congrArg some (by kernel_rfl))⟩
 f21:=⟨Tryz.f215.name,by decide,Tryz.func215.trans (congrArg some (by kernel_rfl))⟩
 f22:=⟨Tryz.f216.name,by decide,Tryz.func216.trans (congrArg some (by kernel_rfl))⟩
 f23:=⟨Tryz.f217.name,by decide,Tryz.func217.trans (congrArg some (by kernel_rfl))⟩
 f24:=⟨Tryz.f218.name,by decide,Tryz.func218.trans (congrArg some (by kernel_rfl))⟩
 f25:=⟨Tryz.f219.name,by decide,Tryz.func219.trans (congrArg some (by kernel_rfl))⟩
 f26:=⟨Tryz.f220.name,by decide,Tryz.func220.trans (congrArg some (by kernel_rfl))⟩
 f27:=⟨Tryz.f221.name,by decide,Tryz.func221.trans (congrArg some (by kernel_rfl))⟩
 f28:=Tryz.func201.trans (congrArg some (by kernel_rfl))
 f29:=Tryz.func202.trans (congrArg some (by kernel_rfl))
 f46:=⟨Tryz.f277.name,by decide,Tryz.func277.trans (congrArg some (by kernel_rfl))⟩
 f47:=Tryz.func267.trans (congrArg some (by kernel_rfl))
 f48:=Tryz.func268.trans (congrArg some (by kernel_rfl))
 f49:=⟨Tryz.f278.name,by decide,Tryz.func278.trans (congrArg some (by kernel_rfl))⟩
 f50:=⟨Tryz.f279.name,by decide,Tryz.func279.trans (congrArg some (by kernel_rfl))⟩
 f57:=⟨Tryz.f300.name,by decide,Tryz.func300.trans (congrArg some (by kernel_rfl))⟩
 t0:=Tryz.underlying0
 a0:=Tryz.isAgg0
 z0:=Tryz.sizeOf0
 v0:=Tryz.zeroValue0
 t3:=Tryz.underlying3
 a3:=Tryz.isAgg3
 z3:=Tryz.sizeOf3
 v3:=Tryz.zeroValue3
 t4:=Tryz.underlying4
 a4:=Tryz.isAgg4
 z4:=Tryz.sizeOf4
 v4:=Tryz.zeroValue4
 t5:=Tryz.underlying5
 a5:=Tryz.isAgg5
 z5:=Tryz.sizeOf5
 v5:=Tryz.zeroValue5
 t9:=Tryz.underlying9
 a9:=Tryz.isAgg9
 z9:=Tryz.sizeOf9
 v9:=Tryz.zeroValue9
 t22:=Tryz.underlying60
 a22:=Tryz.isAgg60
 z22:=Tryz.sizeOf60
 v22:=Tryz.zeroValue60
 t25:=Tryz.underlying153
 a25:=Tryz.isAgg153
 z25:=Tryz.sizeOf153
 v25:=Tryz.zeroValue153
 t39:=Tryz.underlying129
 a39:=Tryz.isAgg129
 z39:=Tryz.sizeOf129
 v39:=Tryz.zeroValue129
 t45:=Tryz.underlying252
 a45:=Tryz.isAgg252
 z45:=Tryz.sizeOf252
 v45:=Tryz.zeroValue252
 t46:=Tryz.underlying253
 a46:=Tryz.isAgg253
 z46:=Tryz.sizeOf253
 v46:=Tryz.zeroValue253
 t50:=Tryz.underlying257
 a50:=Tryz.isAgg257
 z50:=Tryz.sizeOf257
 v50:=Tryz.zeroValue257
 t53:=Tryz.underlying260
 a53:=Tryz.isAgg260
 z53:=Tryz.sizeOf260
 v53:=Tryz.zeroValue260
 t55:=Tryz.underlying56
 a55:=Tryz.isAgg56
 z55:=Tryz.sizeOf56
 v55:=Tryz.zeroValue56
 t66:=Tryz.underlying306
 a66:=Tryz.isAgg306
 z66:=Tryz.sizeOf306
 v66:=Tryz.zeroValue306
 t70:=Tryz.underlying310
 a70:=Tryz.isAgg310
 z70:=Tryz.sizeOf310
 v70:=Tryz.zeroValue310
 t76:=Tryz.underlying330
 a76:=Tryz.isAgg330
 z76:=Tryz.sizeOf330
 v76:=Tryz.zeroValue330
 t77:=Tryz.underlying213
 a77:=Tryz.isAgg213
 z77:=Tryz.sizeOf213
 v77:=Tryz.zeroValue213 }
end Go.Proofs.YtlmiakjbogojgaaGreatDoor
end
section
open Go Mk
namespace Go.Proofs.YtlmiakjbogojgaaGreatDoor
set_option maxHeartbeats 4000000
attribute [local irreducible] Calls cI cB K8
theorem Cf.mono{Γ Γ':C4}{f:D4}(h:Cf Γ f)(hl:Γ.le Γ'):Cf Γ' f:=D6.mono h hl
theorem Ko{Γ:C4}{S:List B5}{w:World}(fs:List D4)(v:Value)(hok:∀f∈fs,Cf Γ f)(hl:fs.length≤1000000)(hw:Wd Γ (.own v 80 2 (fs.map cF)::S) w) :
  Calls Tryz.prog 72 #[v,.func (.func 73) #[] #[]] w fun e w'=>e=.returned (.tuple #[])∧∃gs:List D4,gs.Perm fs∧(gs.Pairwise fun a b=>Go.Proofs.ltOf (fun a b:D4=>K8 a.fact b.fact) b a=false)∧Wd Γ (.own v 80 2 (gs.map cF)::S) w':=by
 have hxs:(fs.attachWith (Cf Γ) hok).map Subtype.val=fs:=List.attachWith_map_subtype_val _
 have hrows:((fs.attachWith (Cf Γ) hok).map fun a=>cF a.1)=fs.map cF:=by
  conv=>rhs;rw[←hxs]
  rw[List.map_map];rfl
 rw[←hrows]at hw;haveI:Inhabited {f:D4 // Cf Γ f}:=⟨⟨⟨⟨#[]⟩,none,0,0,[]⟩,D6.nil⟩⟩
 have:=Ki (α:={f:D4 // Cf Γ f}) (enc:=fun a=>cF a.1) Qs (fun a b=>K8 a.1.fact b.1.fact) 73 [] (fs.attachWith (Cf Γ) hok) v hw (i:=0) rfl (fun _=>rfl) (fun x u hu=>(List.all_eq_true.1 (ON x.1)) u hu) (by show TA Tryz.prog 80 2;infer_instance)
  (OY BY fun a:{f:D4 // Cf Γ f}=>a.1.fact) (by simp;omega) (fun dk w' hw' x y=>by
   have h1:∀b o,Γ.imm b=some o→(IH w').imm b=some o:=fun b o hb=>hw'.imm b o hb
   have h2:=Lv (Γ:=IH w') (f:=x.1) (g:=y.1) (D6.imm x.2 h1) (D6.imm y.2 h1)
   refine(h2.h [] w' (Md w')).mono ?_
   rintro e w'' ⟨he,hw''⟩
   exact⟨he,[],hw''⟩)
 refine this.mono ?_
 rintro e w' ⟨he,ys,hp,hs,hw'⟩
 refine⟨he,ys.map Subtype.val,?_,?_,?_⟩
 ·have:=hp.map Subtype.val
  rwa [hxs]at this
 ·rw[List.pairwise_map];exact hs
 ·rw[List.map_map];exact hw'
end Go.Proofs.YtlmiakjbogojgaaGreatDoor
end
section
open Go Mk
namespace Go.Proofs.YtlmiakjbogojgaaGreatDoor
set_option maxHeartbeats 16000000
attribute [local irreducible] Calls K8
theorem EZ{Γ:C4}{S:List B5}{w:World}{v:Value}{xs:List D4}(hr:R8 Γ S v 2 (xs.map cF))(hN:xs.length≤1000000)(hw:Wd Γ S w) :
  Calls Tryz.prog 271 #[v] w fun e w'=>∃v',e=.returned v'∧Wd Γ (.own v' 80 2 (xs.map cF)::S) w':=by
 obtain⟨a,n,c,rfl,hn,hnc,hc⟩:=hr.shape;simp only[List.length_map]at hn
 refine A4 Tryz.func271 rfl rfl ?_
 refine A7 ?_;refine A0 rfl (fun h=>?_) (fun h=>?_)
 ·refine A7 ?_;have hx:xs=[]:=by
   cases a with
   | none=>
    cases xs with
    | nil=>rfl
    | cons x xs=>have:=(hr.rd hw).at_ (by simp);cases this
   | some a=>cases h
  subst hx;exact⟨_,rfl,_,rfl,Wd.addNil hw⟩
 ·refine A7 ?_;refine E4 [] ?_
  intro a2 w hw;refine A7 ?_;refine Bv (i:=0) (rows2:=xs.map cF) ?_ ((R8.cons hr).rd hw) rfl rfl hw rfl (List.all_eq_true.2 (LU xs)) (by simpa using hn)
  intro v' w hw;refine A7 ?_;exact⟨_,rfl,v',rfl,by simpa using hw⟩
theorem KY{Γ:C4}{S:List B5}{w:World}{v:Value}{xs:List Val}(hr:D6 Γ v 3 (xs.map enc))(hN:xs.length≤1000000)(hw:Wd Γ S w) :
  Calls Tryz.prog 204 #[v] w fun e w'=>∃v',e=.returned v'∧Wd Γ (.own v' 65 3 (xs.map enc)::S) w':=by
 obtain⟨a,n,c,rfl,hn,hnc,hc⟩:=hr.shape;simp only[List.length_map]at hn
 refine A4 Tryz.func204 rfl rfl ?_
 refine A7 ?_;refine A0 rfl (fun h=>?_) (fun h=>?_)
 ·refine A7 ?_;have hx:xs=[]:=by
   cases a with
   | none=>
    cases xs with
    | nil=>rfl
    | cons x xs=>have:=(hr.rd hw).at_ (by simp);cases this
   | some a=>cases h
  subst hx;exact⟨_,rfl,_,rfl,Wd.addNil hw⟩
 ·refine A7 ?_;refine E4 [] ?_
  intro a2 w hw;refine A7 ?_;refine Bv (i:=0) (rows2:=xs.map enc) ?_ (hr.rd hw) rfl rfl hw rfl (Dc xs) (by simpa using hn)
  intro v' w hw;refine A7 ?_;exact⟨_,rfl,v',rfl,by simpa using hw⟩
def Bu:Value:=.func (.func 73) #[] #[]
def NN(x y:D4):Bool:=decide (K8 x.fact y.fact=0)
theorem JN{Γ:C4}{S:List B5}{w:World}{b3:Nat}{f g:D4}(hf:Cf Γ f)(hg:Cf Γ g)(hw:Wd Γ (.blk b3 (.cells #[Bu] 153)::S) w) :
  Calls Tryz.prog 273 #[.agg (cF f).toArray,.agg (cF g).toArray,.pointer (some ⟨b3,0,none⟩)] w fun e w'=>e=.returned (.bool (NN f g))∧Wd Γ (.blk b3 (.cells #[Bu] 153)::S) w':=by
 have hC:=Lv hf hg
 obtain⟨fr,fa,fn,fc,fs⟩:=f;obtain⟨gr,ga,gn,gc,gs⟩:=g;refine A4 Tryz.func273 rfl rfl ?_
 refine A7 ?_;refine J5 ?_;intro b1 w hw;refine J5 ?_;intro b2 w hw;have hw:Wd Γ (.blk b2 (.cells #[.string gr,.slice ga gn gc] 80)::.blk b1 (.cells #[.string fr,.slice fa fn fc] 80)::.blk b3 (.cells #[Bu] 153)::S) w:=hw
 refine A7 ?_;refine Dp (fst:=[]) (cap:=[]) ?_
 refine(hC.h _ _ hw).mono ?_
 rintro e w ⟨rfl,hw⟩
 refine⟨_,rfl,?_⟩;refine A7 ?_;exact⟨_,rfl,rfl,hw.drop.drop⟩
theorem JI{Γ:C4}{S:List B5}{w:World}{b3:Nat}{v:Value}(fs:List D4)(hok:∀f∈fs,Cf Γ f)(hl:fs.length≤1000000)(hw:Wd Γ (.own v 80 2 (fs.map cF)::.blk b3 (.cells #[Bu] 153)::S) w) :
  Calls Tryz.prog 272 #[v,.func (.func 273) #[] #[.pointer (some ⟨b3,0,none⟩)]] w fun e w'=>∃v',e=.returned v'∧Wd Γ (.own v' 80 2 ((Z2 NN fs).map cF)::.blk b3 (.cells #[Bu] 153)::S) w':=by
 obtain⟨a,n,c,rfl,hn,hnc,hc⟩:=hw.own_shape (i:=0) rfl
 simp only[List.length_map]at hn
 refine A4 Tryz.func272 rfl rfl ?_
 refine A7 ?_;refine A0 rfl (fun h=>?_) (fun h=>?_)
 ·have h:n<2:=by have:=of_decide_eq_true h;omega
  refine A7 ?_;have hE:Z2 NN fs=fs:=by
   cases fs with
   | nil=>rfl
   | cons x fs=>
    cases fs with
    | nil=>rfl
    | cons y fs=>simp at hn;omega
  rw[hE];exact⟨_,rfl,_,rfl,hw⟩
 have h:2≤n:=by have:=of_decide_eq_false h;omega
 refine A7 ?_;refine C1 (fun μ ρ w=>∃(k:Nat),μ+k=n∧1≤k∧Has ρ [(0,.slice a n c),(1,.func (.func 273) #[] #[.pointer (some ⟨b3,0,none⟩)]),(5,.int .i64 k)]∧Z2 NN (fs.take k)=fs.take k∧Wd Γ (.own (.slice a n c) 80 2 (fs.map cF)::.blk b3 (.cells #[Bu] 153)::S) w) (n-1) ⟨1,by omega,by omega,⟨rfl,rfl,rfl,trivial⟩,?_,hw⟩ ?_
 ·cases fs with
  | nil=>rfl
  | cons x fs=>rfl
 clear hw;rintro μ ρ w ⟨k,hk,hk1,hρ,ho,hw⟩
 rw[hρ.eq];refine A7 ?_;refine A0 rfl (fun h=>?_) (fun h=>?_)
 ·have hkn:k<n:=by have:=of_decide_eq_true h;omega
  obtain⟨y,hy⟩:=B8 (l:=fs) (k:=k) (by omega)
  obtain⟨x,hx0⟩:=B8 (l:=fs) (k:=k-1) (by omega)
  have hx:fs[((k:Int)-1).toNat]? = some x:=by rw[show ((k:Int)-1).toNat=k-1 from by omega];exact hx0
  have hfy:=hok y (List.mem_of_getElem? hy)
  have hfx:=hok x (List.mem_of_getElem? hx0)
  have hsucc:=Af (p:=NN) (by omega) hy hx0
  refine A7 ?_;refine H0 (by kernel_rfl) (by kernel_rfl) hw ?_
  iterate 10 (first|refine P2 ?_|(apply D1;first|(apply F4;first|refine qP ?_|refine CO ?_)|refine qY ?_)|(apply B4;first|(apply F4;first|refine Dj ?_|refine Z0 ?_)|refine qG ?_))
  refine Rs (v:=.bool (NN y x)) (cap:=[.pointer (some ⟨b3,0,none⟩)]) (vs:=[.agg (cF y).toArray,.agg (cF x).toArray]) (fun Y w hw=>?_) ?_
  ·have hw:Wd Γ (.blk b3 (.cells #[Bu] 153)::(.own (.slice a n c) 80 2 (fs.map cF)::S++Y)) w:=hw.ps [1]
   refine(JN hfy hfx hw).mono ?_
   rintro e w ⟨rfl,hw⟩
   exact⟨rfl,hw.ps [1]⟩
  refine Bt ?_;intro w hw;refine A0 rfl (fun h2=>?_) (fun h2=>?_)
  ·rw[if_pos h2]at hsucc;refine A7 ?_;refine C1 (fun μ ρ w=>∃(m q:Nat) (cur:List D4),μ+(k+m)=n∧1≤m∧1≤q∧q<k+m∧Has ρ [(0,.slice a n c),(1,.func (.func 273) #[] #[.pointer (some ⟨b3,0,none⟩)]),(5,.int .i64 q),(6,.slice (AK a k c 2) (n-k) (c-k)),(7,.int .i64 m)]∧cur.length=n∧cur.take q=Z2 NN (fs.take (k+m))∧(∀i,k+m-1≤i→cur[i]? = fs[i]?)∧Wd Γ (.own (.slice a n c) 80 2 (cur.map cF)::.blk b3 (.cells #[Bu] 153)::S) w) (n-(k+1)) ⟨1,k,fs,by omega,by omega,by omega,by omega,⟨rfl,rfl,rfl,rfl,rfl,trivial⟩,hn.symm,by rw[hsucc,ho],fun i _=>rfl,hw⟩ ?_
   clear hw hρ hsucc;rintro μ2 ρ w ⟨m,q,cur,hm,hm1,hq1,hq2,hρ,hcl,hcur,hsame,hw⟩
   rw[hρ.eq];refine A7 ?_;refine A0 rfl (fun h3=>?_) (fun h3=>?_)
   ·have hmn:k+m<n:=by have:=of_decide_eq_true h3;omega
    obtain⟨y2,hy2⟩:=B8 (l:=fs) (k:=k+m) (by omega)
    obtain⟨x2,hx2⟩:=B8 (l:=fs) (k:=k+m-1) (by omega)
    have hcy:(cur.drop k)[m]? = some y2:=by rw[List.getElem?_drop,hsame _ (by omega)];exact hy2
    have hcx:(cur.drop k)[((m:Int)-1).toNat]? = some x2:=by
     rw[List.getElem?_drop,hsame _ (by omega),show k+((m:Int)-1).toNat=k+m-1 from by omega];exact hx2
    have hfy2:=hok y2 (List.mem_of_getElem? hy2)
    have hfx2:=hok x2 (List.mem_of_getElem? hx2)
    have hsucc:=Af (p:=NN) (by omega) hy2 hx2
    have hlen:n-k=((cur.drop k).map cF).length:=by simp[hcl]
    have hR2:R8 Γ (.own (.slice a n c) 80 2 (cur.map cF)::.blk b3 (.cells #[Bu] 153)::S) (.slice (AK a k c 2) (n-k) (c-k)) 2 ((cur.drop k).map cF):=⟨_,_,_,rfl,hlen,by omega,by omega,fun w hw=>by
     have:=(Wd.own_rd (i:=0) hw rfl).cut (c:=c) (by simp;omega) k (by simp;omega)
     rwa [←List.map_drop]at this⟩
    refine A7 ?_;refine H0 (by kernel_rfl) (by kernel_rfl) hw ?_
    iterate 10 (first|refine P2 ?_|(apply D1;first|(apply F4;first|refine qP ?_|refine CO ?_)|refine qY ?_)|(apply B4;first|(apply F4;first|refine Dj ?_|refine Z0 ?_)|refine qG ?_))
    refine Rs (v:=.bool (NN y2 x2)) (cap:=[.pointer (some ⟨b3,0,none⟩)]) (vs:=[.agg (cF y2).toArray,.agg (cF x2).toArray]) (fun Y w hw=>?_) ?_
    ·have hw:Wd Γ (.blk b3 (.cells #[Bu] 153)::(.own (.slice a n c) 80 2 (cur.map cF)::S++Y)) w:=hw.ps [1]
     refine(JN hfy2 hfx2 hw).mono ?_
     rintro e w ⟨rfl,hw⟩
     exact⟨rfl,hw.ps [1]⟩
    refine Bt ?_;intro w hw;refine A0 rfl (fun h4=>?_) (fun h4=>?_)
    ·have h4:NN y2 x2=false:=by simpa using h4
     rw[if_neg (by rw[h4];decide)]at hsucc
     refine A7 ?_;refine Cw ?_;intro w hw;have hw:Wd Γ (.own (.slice a n c) 80 2 ((cur.map cF).set q (cF y2))::.blk b3 (.cells #[Bu] 153)::S) w:=hw
     rw[←List.map_set]at hw;refine A7 ?_;refine⟨n-(k+(m+1)),by omega,m+1,q+1,cur.set q y2,by omega,by omega,by omega,by omega,⟨rfl,rfl,rfl,rfl,rfl,trivial⟩,by rw[List.length_set];exact hcl,?_,fun i hi=>?_,hw⟩
     ·rw[show k+(m+1)=k+m+1 from rfl,hsucc,←hcur,List.take_add_one,List.take_set_of_le (by omega),List.getElem?_set_self (by omega)];rfl
     ·rw[List.getElem?_set_ne (by omega)];exact hsame i (by omega)
    ·have h4:NN y2 x2=true:=by simpa using h4
     rw[if_pos h4]at hsucc;refine A7 ?_;exact⟨n-(k+(m+1)),by omega,m+1,q,cur,by omega,by omega,by omega,by omega,⟨rfl,rfl,rfl,rfl,rfl,trivial⟩,hcl,by rw[show k+(m+1)=k+m+1 from rfl,hsucc];exact hcur,fun i hi=>hsame i (by omega),hw⟩
   ·have hmn:k+m=n:=by have:=of_decide_eq_false h3;omega
    have hfn:fs.take n=fs:=List.take_of_length_le (by omega)
    rw[hmn,hfn]at hcur;have hqn:q≤n:=by omega
    have hw:=Wd.own_take (i:=0) (m:=q) hw rfl hqn
    rw[←List.map_take,hcur]at hw;have hw:Wd Γ (.own (.slice a q c) 80 2 ((Z2 NN fs).map cF)::.blk b3 (.cells #[Bu] 153)::S) w:=hw
    refine A7 ?_;refine QW ?_;intro w hw;refine A7 ?_;exact⟨_,rfl,_,rfl,hw⟩
  ·rw[if_neg (by rw[h2];decide)]at hsucc
   refine A7 ?_;refine⟨μ-1,by omega,k+1,by omega,by omega,⟨rfl,rfl,rfl,trivial⟩,?_,hw⟩
   rw[hsucc,ho,List.take_add_one,hy];rfl
 ·have hkn:¬k<n:=by have:=of_decide_eq_false h;omega
  rw[List.take_of_length_le (by omega)]at ho
  refine A7 ?_;rw[ho];exact⟨_,rfl,_,rfl,hw⟩
end Go.Proofs.YtlmiakjbogojgaaGreatDoor
end
section
open Go Mk
namespace Go.Proofs.YtlmiakjbogojgaaGreatDoor
set_option maxHeartbeats 16000000
attribute [local irreducible] Calls K8
def m0(v:Val):Prop:=(-9223372036854775808≤v.Num∧v.Num≤9223372036854775807)∧v.Word.size≤9223372036854775807
def y0(x:K3):Prop:=x.2.length≤100000∧x.1.size≤100000∧∀v∈x.2,m0 v
def GA(Γ:C4)(fs:List D4):Prop:=∀f∈fs,Cf Γ f∧y0 f.fact
theorem GA.mono{Γ Γ':C4}{fs:List D4}(h:GA Γ fs)(hl:Γ.le Γ'):GA Γ' fs:=fun f hf=>⟨(h f hf).1.mono hl,(h f hf).2⟩
def facts(fs:List D4):List K3:=fs.map D4.fact
def Df(l:List K3):List K3:=CU K8 l
theorem LH{Γ:C4}{S:List B5}{w:World}{v:Value}(fs:List D4)(hok:GA Γ fs)(hl:fs.length≤100000)(hr:R8 Γ S v 2 (fs.map cF))(hw:Wd Γ S w) :
  Calls Tryz.prog 203 #[v,Bu] w fun e w'=>∃v' gs,e=.returned v'∧facts gs=Df (facts fs)∧GA Γ gs∧Wd Γ (.own v' 80 2 (gs.map cF)::S) w':=by
 refine A4 Tryz.func203 rfl rfl ?_
 refine A7 ?_;refine J5 ?_;intro b3 w hw;have hw:Wd Γ (.blk b3 (.cells #[Bu] 153)::S) w:=hw
 refine A7 ?_;refine B9 (vs:=[v]) ?_
 refine(EZ hr.cons (by omega) hw).mono ?_
 rintro e w ⟨v1,rfl,hw⟩
 refine⟨_,rfl,?_⟩;refine A7 ?_;refine B9 (vs:=[v1,Bu]) ?_
 refine(Ko fs v1 (fun f hf=>(hok f hf).1) (by omega) hw).mono ?_
 rintro e w ⟨rfl,gs,hp,hs,hw⟩
 refine⟨_,rfl,?_⟩;have hokg:∀g∈gs,g∈fs:=fun g hg=>hp.mem_iff.1 hg
 have hgl:gs.length=fs.length:=hp.length_eq
 refine A7 ?_;refine B9 (vs:=[v1,.func (.func 273) #[] #[.pointer (some ⟨b3,0,none⟩)]]) ?_
 refine(JI gs (fun g hg=>(hok g (hokg g hg)).1) (by omega) hw).mono ?_
 rintro e w ⟨v2,rfl,hw⟩
 refine⟨_,rfl,?_⟩;refine A7 ?_;refine⟨_,rfl,v2,Z2 NN gs,rfl,?_,fun g hg=>hok g (hokg g (Cy hg)),hw.dropAt 1⟩
 refine HC BY D4.fact hp (hs.imp fun {a b} h q=>?_)
 have:Go.Proofs.ltOf K8 b.fact a.fact=true:=BY.lt_iff.2 q
 have h:Go.Proofs.ltOf K8 b.fact a.fact=false:=h
 rw[this]at h;cases h
end Go.Proofs.YtlmiakjbogojgaaGreatDoor
end
section
open Go Mk
namespace Go.Proofs.YtlmiakjbogojgaaGreatDoor
set_option maxHeartbeats 16000000
attribute [local irreducible] Calls K8
theorem r9(a:Int):-9223372036854775808≤IntKind.i64.wrap a∧IntKind.i64.wrap a≤9223372036854775807:=by
 rw[IntKind.wrap_i64];omega
section
variable {Γ:C4}{S:List B5}{w:World}
attribute [local irreducible] C7 C0 L5
end
end Go.Proofs.YtlmiakjbogojgaaGreatDoor
end
section
open Go Mk
namespace Go.Proofs.YtlmiakjbogojgaaGreatDoor
def DT:Go.Shelf.Ren:=⟨fun|156=>45|165=>106|166=>107|169=>108|240=>172|241=>173|276=>249|277=>250|n=>n,fun|31=>22|9=>9|3=>3|4=>4|0=>0|20=>20|72=>184|76=>187|70=>181|37=>182|75=>186|127=>235|164=>290|5=>5|80=>172|n=>n,fun|n=>n⟩
theorem JL:Go.Proofs.Lays.n156 Tryz.prog DT:={
 mixed:=by kernel_rfl
 f156:=Tryz.func45.trans (congrArg some (by kernel_rfl))
 f165:=Tryz.func106.trans (congrArg some (by kernel_rfl))
 f166:=Tryz.func107.trans (congrArg some (by kernel_rfl))
 f169:=Tryz.func108.trans (congrArg some (by kernel_rfl))
 f240:=Tryz.func172.trans (congrArg some (by kernel_rfl))
 f241:=Tryz.func173.trans (congrArg some (by kernel_rfl))
 f276:=Tryz.func249.trans (congrArg some (by kernel_rfl))
 f277:=Tryz.func250.trans (congrArg some (by kernel_rfl))
 t0:=Tryz.underlying0
 a0:=Tryz.isAgg0
 z0:=Tryz.sizeOf0
 v0:=Tryz.zeroValue0
 t3:=Tryz.underlying3
 a3:=Tryz.isAgg3
 z3:=Tryz.sizeOf3
 v3:=Tryz.zeroValue3
 t4:=Tryz.underlying4
 a4:=Tryz.isAgg4
 z4:=Tryz.sizeOf4
 v4:=Tryz.zeroValue4
 t9:=Tryz.underlying9
 a9:=Tryz.isAgg9
 z9:=Tryz.sizeOf9
 v9:=Tryz.zeroValue9
 t20:=Tryz.underlying20
 a20:=Tryz.isAgg20
 z20:=Tryz.sizeOf20
 v20:=Tryz.zeroValue20
 t31:=Tryz.underlying22
 a31:=Tryz.isAgg22
 z31:=Tryz.sizeOf22
 v31:=Tryz.zeroValue22
 t37:=Tryz.underlying182
 a37:=Tryz.isAgg182
 z37:=Tryz.sizeOf182
 v37:=Tryz.zeroValue182
 t70:=Tryz.underlying181
 a70:=Tryz.isAgg181
 z70:=Tryz.sizeOf181
 v70:=Tryz.zeroValue181
 t72:=Tryz.underlying184
 a72:=Tryz.isAgg184
 z72:=Tryz.sizeOf184
 v72:=Tryz.zeroValue184
 t75:=Tryz.underlying186
 a75:=Tryz.isAgg186
 z75:=Tryz.sizeOf186
 v75:=Tryz.zeroValue186
 t76:=Tryz.underlying187
 a76:=Tryz.isAgg187
 z76:=Tryz.sizeOf187
 v76:=Tryz.zeroValue187
 t127:=Tryz.underlying235
 a127:=Tryz.isAgg235
 z127:=Tryz.sizeOf235
 v127:=Tryz.zeroValue235
 t164:=Tryz.underlying290
 a164:=Tryz.isAgg290
 z164:=Tryz.sizeOf290
 v164:=Tryz.zeroValue290 }
def DG:Go.Shelf.Ren:=⟨fun|173=>111|246=>174|283=>251|284=>252|285=>253|286=>254|129=>202|317=>291|318=>292|319=>293|320=>294|337=>303|338=>119|n=>n,fun|2=>2|3=>3|9=>9|4=>4|171=>293|0=>0|53=>56|37=>182|5=>5|173=>295|212=>326|51=>260|20=>20|213=>327|46=>129|232=>336|233=>237|n=>n,fun|17=>2|18=>3|19=>1|n=>n⟩
theorem PH:Go.Proofs.LaysM.n173 Tryz.prog DG:={
 mixed:=by kernel_rfl
 f129:=Tryz.func202.trans (congrArg some (by kernel_rfl))
 f173:=Tryz.func111.trans (congrArg some (by kernel_rfl))
 f246:=Tryz.func174.trans (congrArg some (by kernel_rfl))
 f283:=Tryz.func251.trans (congrArg some (by kernel_rfl))
 f284:=Tryz.func252.trans (congrArg some (by kernel_rfl))
 f285:=Tryz.func253.trans (congrArg some (by kernel_rfl))
 f286:=Tryz.func254.trans (congrArg some (by kernel_rfl))
 f317:=Tryz.func291.trans (congrArg some (by kernel_rfl))
 f318:=Tryz.func292.trans (congrArg some (by kernel_rfl))
 f319:=Tryz.func293.trans (congrArg some (by kernel_rfl))
 f320:=Tryz.func294.trans (congrArg some (by kernel_rfl))
 f337:=Tryz.func303.trans (congrArg some (by kernel_rfl))
 f338:=Tryz.func119.trans (congrArg some (by kernel_rfl))
 t0:=Tryz.underlying0
 a0:=Tryz.isAgg0
 z0:=Tryz.sizeOf0
 v0:=Tryz.zeroValue0
 t2:=Tryz.underlying2
 a2:=Tryz.isAgg2
 z2:=Tryz.sizeOf2
 v2:=Tryz.zeroValue2
 t3:=Tryz.underlying3
 a3:=Tryz.isAgg3
 z3:=Tryz.sizeOf3
 v3:=Tryz.zeroValue3
 t4:=Tryz.underlying4
 a4:=Tryz.isAgg4
 z4:=Tryz.sizeOf4
 v4:=Tryz.zeroValue4
 t5:=Tryz.underlying5
 a5:=Tryz.isAgg5
 z5:=Tryz.sizeOf5
 v5:=Tryz.zeroValue5
 t9:=Tryz.underlying9
 a9:=Tryz.isAgg9
 z9:=Tryz.sizeOf9
 v9:=Tryz.zeroValue9
 t20:=Tryz.underlying20
 a20:=Tryz.isAgg20
 z20:=Tryz.sizeOf20
 v20:=Tryz.zeroValue20
 t37:=Tryz.underlying182
 a37:=Tryz.isAgg182
 z37:=Tryz.sizeOf182
 v37:=Tryz.zeroValue182
 t46:=Tryz.underlying129
 a46:=Tryz.isAgg129
 z46:=Tryz.sizeOf129
 v46:=Tryz.zeroValue129
 t51:=Tryz.underlying260
 a51:=Tryz.isAgg260
 z51:=Tryz.sizeOf260
 v51:=Tryz.zeroValue260
 t53:=Tryz.underlying56
 a53:=Tryz.isAgg56
 z53:=Tryz.sizeOf56
 v53:=Tryz.zeroValue56
 t171:=Tryz.underlying293
 a171:=Tryz.isAgg293
 z171:=Tryz.sizeOf293
 v171:=Tryz.zeroValue293
 t173:=Tryz.underlying295
 a173:=Tryz.isAgg295
 z173:=Tryz.sizeOf295
 v173:=Tryz.zeroValue295
 t212:=Tryz.underlying326
 a212:=Tryz.isAgg326
 z212:=Tryz.sizeOf326
 v212:=Tryz.zeroValue326
 t213:=Tryz.underlying327
 a213:=Tryz.isAgg327
 z213:=Tryz.sizeOf327
 t232:=Tryz.underlying336
 a232:=Tryz.isAgg336
 z232:=Tryz.sizeOf336
 v232:=Tryz.zeroValue336
 t233:=Tryz.underlying237
 a233:=Tryz.isAgg237
 z233:=Tryz.sizeOf237
 v233:=Tryz.zeroValue237
 g17:=by kernel_rfl
 g18:=by kernel_rfl
 g19:=by kernel_rfl
 i0:=by kernel_rfl
 i2:=by kernel_rfl
 i3:=by kernel_rfl
 i4:=by kernel_rfl
 i5:=by kernel_rfl
 i9:=by kernel_rfl
 i20:=by kernel_rfl
 i37:=by kernel_rfl
 i46:=by kernel_rfl
 i51:=by kernel_rfl
 i53:=by kernel_rfl
 i171:=by kernel_rfl
 i173:=by kernel_rfl
 i212:=by kernel_rfl
 i232:=by kernel_rfl
 i233:=by kernel_rfl
 m17:=by kernel_rfl
 m18:=by kernel_rfl
 m19:=by kernel_rfl }
end Go.Proofs.YtlmiakjbogojgaaGreatDoor
end
section
open Go Mk
namespace Go.Proofs.YtlmiakjbogojgaaGreatDoor
set_option maxHeartbeats 16000000
attribute [local irreducible] Calls K8
def y5(s:ByteArray):Bool:=(H6 s).all BP
def CC(s:ByteArray):Bool:=y5 s&&decide (0<s.size)&&decide (s.size≤24)
def I2(v:Val):Bool:=(decide (v.Kind=1)&&decide (v.Word=⟨#[]⟩))||(decide (v.Kind=2)&&decide (v.Num=0)&&CC v.Word)
def Aj(x:K3):Bool:=N8 x.1&&decide (1≤x.2.length)&&decide (x.2.length≤8)&&x.2.all I2
theorem Jh{s:ByteArray}{i:Nat}{b:UInt8}(h:(H6 s)[i]? = some b):W3 (A3 s i)=BP b:=by
 have:A3 s i=(b.toNat:Int):=by
  show ((s.data.toList.getD i 0).toNat:Int)=_
  rw[List.getD_eq_getElem?_getD,show s.data.toList[i]? = some b from h];rfl
 rw[this];rfl
theorem Ix{s:ByteArray}(h:∀i,i<s.size→W3 (A3 s i)=true):y5 s=true:=by
 refine List.all_eq_true.2 fun b hb=>?_
 obtain⟨i,hi⟩:=List.mem_iff_getElem?.1 hb
 have hlt:=(List.getElem?_eq_some_iff.1 hi).1
 rw[K9]at hlt;rw[←Jh hi];exact h i hlt
theorem JS{s:ByteArray}{i:Nat}(hi:i<s.size)(h:W3 (A3 s i)=false):y5 s=false:=by
 obtain⟨b,hb⟩:=B8 (l:=H6 s) (k:=i) (by rw[K9];exact hi)
 refine List.all_eq_false.2 ⟨b,List.mem_of_getElem? hb,?_⟩
 rw[←Jh hb,h];decide
theorem Kv(s:ByteArray)(hs:s.size≤9223372036854775807):PC Tryz.prog 302 [.string s] (.bool (CC s)):=⟨fun w=>by
 refine A4 Tryz.func302 rfl rfl ?_
 refine A7 ?_;refine C1 (fun μ ρ w'=>∃(k:Nat),μ+k=s.size∧Has ρ [(0,.string s),(3,.int .i64 k)]∧(∀i,i<k→W3 (A3 s i)=true)∧w'=w) s.size ⟨0,by omega,⟨rfl,rfl,trivial⟩,fun i hi=>by omega,rfl⟩ ?_
 rintro μ ρ w' ⟨k,hk,hρ,hall,rfl⟩
 rw[hρ.eq];refine A7 ?_;refine A0 rfl (fun h=>?_) (fun h=>?_)
 ·have hkn:k<s.size:=by have:=of_decide_eq_true h;omega
  refine A7 ?_;refine A0 rfl (fun h2=>?_) (fun h2=>?_)
  ·refine A7 ?_;refine⟨_,rfl,F7 rfl ?_,rfl⟩
   have h3:W3 (A3 s k)=false:=by
    have h2':(((decide (A3 s k<32)||decide (126<A3 s k))||decide (A3 s k=34))||decide (A3 s k=92))=true:=h2
    unfold W3;simp only[Bool.or_eq_true,decide_eq_true_eq]at h2'
    simp only[Bool.and_eq_false_iff,decide_eq_false_iff_not]
    omega
   unfold CC;rw[JS hkn h3];rfl
  ·refine A7 ?_;refine⟨μ-1,by omega,k+1,by omega,⟨rfl,rfl,trivial⟩,fun i hi=>?_,rfl⟩
   by_cases e:i=k
   ·subst e;have h2':(((decide (A3 s i<32)||decide (126<A3 s i))||decide (A3 s i=34))||decide (A3 s i=92))=false:=h2
    unfold W3;simp only[Bool.or_eq_false_iff,decide_eq_false_iff_not]at h2'
    simp only[Bool.and_eq_true,decide_eq_true_eq]
    omega
   ·exact hall i (by omega)
 ·have hkn:¬k<s.size:=by have:=of_decide_eq_false h;omega
  refine A7 ?_;refine⟨_,rfl,F7 rfl ?_,rfl⟩
  unfold CC;rw[Ix fun i hi=>hall i (by omega)]
  have e1:decide (s≠⟨#[]⟩)=decide (0<s.size):=by simp only[ne_nilB]
  rw[e1,Bool.true_and];congr 1
  rw[decide_eq_decide];omega⟩
theorem QB{Γ:C4}{f:D4}(hf:Cf Γ f)(ho:y0 f.fact):PG Tryz.prog Γ 290 [.agg (cF f).toArray] (.bool (Aj f.fact)):=⟨fun S w hw=>by
 obtain⟨l1,l2,l3⟩:=hf.len;obtain⟨o1,o2,o3⟩:=ho;have hr:=hf
 unfold Cf D4.hdr at hr;obtain⟨fr,fa,fn,fc,fs⟩:=f;simp only[D4.fact]at l1 l2 l3 o1 o2 o3 hr ⊢
 haveI:SB fr:=⟨by omega⟩
 refine A4 Tryz.func290 rfl rfl ?_
 refine A7 ?_;refine J5 ?_;intro b1 w hw;have hw:Wd Γ (.blk b1 (.cells #[.string fr,.slice fa fn fc] 80)::S) w:=hw
 refine A7 ?_;refine A0 rfl (fun h=>?_) (fun h=>?_)
 ·refine A7 ?_;refine⟨_,rfl,F7 rfl ?_,hw.drop⟩
  unfold Aj;have h':((!N8 fr||decide ((fn:Int)<1))||decide (8<(fn:Int)))=true:=h
  simp only[Bool.or_eq_true,Bool.not_eq_true',decide_eq_true_eq]at h'
  symm
  rcases h' with (q|q)|q
  ·rw[q];rfl
  ·rw[show decide (1≤fs.length)=false from decide_eq_false (by omega)];simp
  ·rw[show decide (fs.length≤8)=false from decide_eq_false (by omega)];simp
 have h':((!N8 fr||decide ((fn:Int)<1))||decide (8<(fn:Int)))=false:=h
 simp only[Bool.or_eq_false_iff,Bool.not_eq_false',decide_eq_false_iff_not]at h'
 obtain⟨⟨q1,q2⟩,q3⟩:=h';have hR:Aj (fr,fs)=fs.all I2:=by
  unfold Aj;rw[q1,show decide (1≤fs.length)=true from decide_eq_true (by omega),show decide (fs.length≤8)=true from decide_eq_true (by omega)];simp
 rw[hR];refine A7 ?_;refine C1 (fun μ ρ w=>∃(k:Nat),μ+k=fn∧Has ρ [(24,.slice fa fn fc),(25,.int .i64 fn),(26,.int .i64 k)]∧fs.all I2=(fs.drop k).all I2∧Wd Γ S w) fn ⟨0,by omega,⟨rfl,rfl,rfl,trivial⟩,rfl,hw.drop⟩ ?_
 clear hw;rintro μ ρ w ⟨k,hk,hρ,ho,hw⟩
 rw[hρ.eq];refine A7 ?_;refine A0 rfl (fun h2=>?_) (fun h2=>?_)
 ·have hkn:k<fn:=by have:=of_decide_eq_true h2;omega
  obtain⟨v,hv⟩:=B8 (l:=fs) (k:=k) (by omega)
  rw[M8 hv]at ho;have hvo:=o3 v (List.mem_of_getElem? hv)
  have hT:=Kv v.Word hvo.2
  refine A7 ?_;refine B7 ?_;intro b4 w hw;refine A9 ?_;intro w hw;have hw:Wd Γ (.blk b4 (.cells (enc v).toArray 65)::S) w:=hw
  refine A7 ?_;refine A0 rfl (fun h3=>?_) (fun h3=>?_)
  ·refine A7 ?_;refine⟨_,rfl,F7 rfl ?_,hw.drop⟩
   have h3':(!(decide (v.Kind=1)&&decide (v.Word=⟨#[]⟩)) && !(decide (v.Kind=2)&&decide (v.Num=0)&&CC v.Word))=true:=h3
   have:I2 v=false:=by
    unfold I2;simp only[Bool.and_eq_true,Bool.not_eq_true']at h3'
    rw[h3'.1,h3'.2];rfl
   rw[ho,List.all_cons,this];rfl
  ·refine A7 ?_;refine⟨μ-1,by omega,k+1,by omega,⟨rfl,rfl,rfl,trivial⟩,?_,hw.drop⟩
   have h3':(!(decide (v.Kind=1)&&decide (v.Word=⟨#[]⟩)) && !(decide (v.Kind=2)&&decide (v.Num=0)&&CC v.Word))=false:=h3
   have:I2 v=true:=by
    unfold I2;rw[Bool.and_eq_false_iff,Bool.not_eq_false',Bool.not_eq_false']at h3';rw[Bool.or_eq_true];exact h3'
   rw[ho,List.all_cons,this];rfl
 ·refine A7 ?_;refine⟨_,rfl,F7 rfl ?_,hw⟩
  rw[ho,E0 fs (by have:=of_decide_eq_false h2;omega)];rfl⟩
end Go.Proofs.YtlmiakjbogojgaaGreatDoor
end
section
open Go Mk
namespace Go.Proofs.YtlmiakjbogojgaaGreatDoor
set_option maxHeartbeats 16000000
attribute [local irreducible] Calls K8
class BM(Γ:C4):Prop where
 h:∀S w,Wd Γ S w→Lib.TabIs Tryz.prog w "internal/strconv.uint64pow10" .u64 Lib.pow10Tab
 dr:Γ.dr=0
theorem BM.mono{Γ Γ':C4}(h:BM Γ)(hl:Γ.le Γ'):BM Γ':=⟨fun S w hw=>h.h [] w (Ls hl (E8 hw)),hl.dr.trans h.dr⟩
def I6(n:Int):ByteArray:=⟨(Lib.itoa n).toArray⟩
theorem AI{Γ:C4}[hT:BM Γ](n:Int)(h0:-9223372036854775808≤n)(h1:n≤9223372036854775807):PG Tryz.prog Γ 111 [.int .i64 n,.int .i64 10] (.string (I6 n)):=⟨fun S w hw=>
 Calls.mono (Any.strconv_FormatInt_10 PH n h0 h1 w (hT.h S w hw)) fun e w' ⟨h,k,os,hw'⟩=>⟨h,by
  subst hw';refine IY hT.dr hw ⟨rfl,rfl,rfl,?_,fun k hk=>?_⟩
  ·simp[Go.Sort.grow,World.drewN]
  ·simp[Go.Sort.grow,World.drewN,Array.getElem?_append_left hk]⟩⟩
def U5:ByteArray:=⟨#[34]⟩
theorem NY{v:Val}(hr:I2 v=true):v.Word.size≤100000:=by
 unfold I2 CC at hr;simp only[Bool.or_eq_true,Bool.and_eq_true,decide_eq_true_eq]at hr
 rcases hr with q|q
 ·rw[q.2];decide
 ·have:=q.2.2;omega
theorem QD:Builder.Extra Tryz.prog DT:={
 sizeBuilder:=by kernel_rfl
 liesBuilder:=by kernel_rfl
 t5:=Tryz.underlying5
 a5:=Tryz.isAgg5
 z5:=Tryz.sizeOf5
 v5:=Tryz.zeroValue5
 infoByte:=by kernel_rfl
 cellsByte:=by kernel_rfl
 sizeByte:=by kernel_rfl
 neB5:=by decide }
def T7:ByteArray:=⟨#[44,32]⟩
def H1(xs:List ByteArray):ByteArray:=⟨(Lib.join (xs.map (·.data.toList)) T7.data.toList).toArray⟩
theorem Rx(xs:List ByteArray)(h:∀x∈xs,x.size≤1000):Lib.lens (xs.map (·.data.toList))≤xs.length*1000:=by
 induction xs with
 | nil=>simp[Lib.lens]
 | cons x xs ih=>
  have h1:=ih fun y hy=>h y (List.mem_cons_of_mem _ hy)
  have h2:=h x List.mem_cons_self
  have h3:x.data.toList.length=x.size:=by simp
  simp only[Lib.lens,List.map_cons,List.sum_cons,List.length_cons]at h1 ⊢
  rw[h3,Nat.add_mul];omega
theorem t6(xs:List ByteArray)(h:∀x∈xs,x.size≤1000):(H1 xs).size≤xs.length*1002:=by
 have hs:(H1 xs).size=(Lib.join (xs.map (·.data.toList)) T7.data.toList).length:=by show (List.toArray _).size=_;simp
 rw[hs];cases xs with
 | nil=>simp[Lib.join]
 | cons x r=>
  have h1:=Lib.join_length x.data.toList (r.map (·.data.toList)) T7.data.toList
  have h2:=Rx (x::r) h
  rw[List.map_cons]at h2 ⊢
  rw[h1,List.length_map,show T7.data.toList.length=2 from rfl];simp only[List.length_cons,Nat.add_mul]at h2 ⊢
  omega
theorem PX{Γ:C4}[hT:BM Γ]{S:List B5}{w:World}{v:Value}(xs:List ByteArray)(hr:R8 Γ S v 1 (xs.map fun s=>[.string s]))(hl:xs.length≤1000)(hsz:∀x∈xs,x.size≤1000)(hw:Wd Γ S w) :
  Calls Tryz.prog 45 #[v,.string T7] w fun e w'=>e=.returned (.string (H1 xs))∧Wd Γ S w':=by
 obtain⟨a,n,c,rfl,hn,hnc,hc⟩:=hr.shape;simp only[List.length_map]at hn
 have hrd:=hr.rd hw
 by_cases h0:xs=[]
 ·subst h0;simp only[List.length_nil]at hn
  subst hn;exact Calls.mono (Any.strings_Join_none JL QD a c T7 w) fun e w' ⟨h1,h2⟩=>⟨h1,by subst h2;exact hw⟩
 ·have hpos:0<xs.length:=List.length_pos_iff.2 h0
  have ha:=hrd.at_ (by simpa using hpos)
  have hcell:∀(j:Nat) x,xs[j]? = some x→w.cell? ⟨aB a,aO a+j,none⟩=some (.string x):=fun j x hx=>by
   have h1:=hrd.range (j*1) (.string x) (x5 hrd.len (by rw[List.getElem?_map,hx];rfl) 0 _ rfl)
   rwa [Nat.mul_one]at h1
  have hb:aB a<w.heap.size:=by
   obtain⟨x,hx⟩:=B8 (l:=xs) (k:=0) hpos
   have h1:=hcell 0 x hx
   unfold World.cell? at h1
   by_cases hlt:aB a<w.heap.size
   ·exact hlt
   ·rw[Array.getElem?_eq_none (show w.heap.size≤aB a by omega)]at h1;cases h1
  have hjl:=t6 xs hsz
  have hs:(H1 xs).size=(Lib.join (xs.map (·.data.toList)) T7.data.toList).length:=by show (List.toArray _).size=_;simp
  have:=Any.strings_Join_48 JL QD (aB a) (aO a) c xs T7 w hcell hb (by omega) (by omega) (by rw[←hs];omega)
  rw[ha,hn];exact Calls.mono this fun e w' ⟨h1,h2⟩=>⟨h1,IY hT.dr hw h2⟩
end Go.Proofs.YtlmiakjbogojgaaGreatDoor
end
section
open Go Mk
namespace Go.Proofs.YtlmiakjbogojgaaGreatDoor
set_option maxHeartbeats 16000000
attribute [local irreducible] Calls K8
section
variable {Γ:C4}{S:List B5}{w:World}{b:Nat}
end
end Go.Proofs.YtlmiakjbogojgaaGreatDoor
end
section
open Go Mk
namespace Go.Proofs.YtlmiakjbogojgaaGreatDoor
set_option maxHeartbeats 16000000
attribute [local irreducible] Calls K8
theorem Ac:∀(k u:Nat),u<10 ^ (k+1)→Lib.nDigits u≤k+1
 | 0,u,h=>by rw[Lib.nDigits_small (by simpa using h)];exact Nat.le_refl _
 | k+1,u,h=>by
  by_cases hu:u<10
  ·rw[Lib.nDigits_small hu];omega
  ·rw[Lib.nDigits_big hu];have:=Ac k (u / 10) (by rw[Nat.div_lt_iff_lt_mul (by decide)];rw[Nat.pow_succ]at h;exact h)
   omega
theorem Y0{n:Int}(h0:-9223372036854775808≤n)(h1:n≤9223372036854775807):(I6 n).size≤25:=by
 have hs:(I6 n).size=(Lib.itoa n).length:=by show (List.toArray _).size=_;simp
 have hd:∀u:Nat,u≤9223372036854775808→(Lib.decDigits u).length≤20:=fun u hu=>by
  rw[Lib.decDigits_length];exact Ac 19 u (by omega)
 rw[hs];unfold Lib.itoa;split
 ·have:=hd n.natAbs (by omega)
  simp only[List.length_cons];omega
 ·have:=hd n.toNat (by omega)
  omega
end Go.Proofs.YtlmiakjbogojgaaGreatDoor
end
section
open Go Mk
namespace Go.Proofs.YtlmiakjbogojgaaGreatDoor
set_option maxHeartbeats 16000000
attribute [local irreducible] Calls K8
section
variable {Γ:C4}{S:List B5}{w:World}{b:Nat}
abbrev Ii(b:Nat)(f:D4):B5:=.blk b (.cells (cF f).toArray 80)
end
end Go.Proofs.YtlmiakjbogojgaaGreatDoor
end
section
open Go Mk
namespace Go.Proofs.YtlmiakjbogojgaaGreatDoor
set_option maxHeartbeats 16000000
attribute [local irreducible] Calls K8
end Go.Proofs.YtlmiakjbogojgaaGreatDoor
end
section
open Go Mk
namespace Go.Proofs.YtlmiakjbogojgaaGreatDoor
set_option maxHeartbeats 16000000
attribute [local irreducible] Calls K8
def AN(w:World):C4:={ IH w with dr:=0 }
theorem PZ(w:World):Wd (AN w) [] w:=⟨rfl,rfl,rfl,Nat.zero_le _,fun b o h=>h,[],trivial,by simp,by simp⟩
theorem KE{P:Program}{w w':World}{name:String}{k:IntKind}{zs:List Int}(h:Lib.TabIs P w name k zs)(hk:∀(b:Nat) (o:Obj),w.heap[b]? = some o→w'.heap[b]? = some o):Lib.TabIs P w' name k zs:=by
 unfold Lib.TabIs World.var? at *
 cases hg:P.globalNamed name with
 | none=>rw[hg]at h;cases h
 | some g=>
  rw[hg]at h;simp only[Option.bind_some]at h ⊢
  cases hb:w.heap[g]? with
  | none=>rw[hb]at h;cases h
  | some o=>
   rw[hb]at h;rw[hk g o hb];exact h
theorem Pv{w:World}(h:Lib.TabIs Tryz.prog w "internal/strconv.uint64pow10" .u64 Lib.pow10Tab):BM (AN w):=⟨fun S w' hw=>KE h fun b o hb=>hw.imm b o hb,rfl⟩
end Go.Proofs.YtlmiakjbogojgaaGreatDoor
end
section
open Go Mk
open Go.ChangeShapes Go.WideShapes Go.ChangeAt Go.RowKit
namespace Go.Proofs.YtlmiakjbogojgaaGreatDoor
theorem Ow:ownKnob Tryz.prog.godebug=none:=by kernel_rfl
theorem KQ{W W':World}{S:List B5}(h:Wd (AN W) S W')(may:MemPlace→Prop):W.keptBut W' may:=by
 refine⟨h.os,h.out,fun i hi=>?_⟩
 have h1:W.heap[i]? = some W.heap[i]:=Array.getElem?_eq_getElem hi
 have h2:=h.imm i W.heap[i] h1
 rw[h1,h2];cases W.heap[i] <;> simp
theorem Rb{H:Type}{enc:TypeId×Value→H}{f:Func}{s:ChangeSpec}{W W':World}{S:List B5}{args:Array Value}{v:Value}{ds gs:List (DataW H)}{before pa pv:List MemPlace}{apart:Bool}
  (hW:DataW.Whole enc Tryz.prog f.params.toList s.vars apart W args.toList ds gs before)
  (hres:∀(b:Nat) (sp:Nat→Bool) (hd:Bool),DataW.TrodAll enc Tryz.prog W' b sp hd f.resultTypes.toList (v.resultList f.resultTypes.size) (s.fn H (ds++gs)).results [])
  (hargs:∀sp:Nat→Bool,(∀p∈before,sp p.block=true)→DataW.TrodAll enc Tryz.prog W' 0 sp true f.params.toList args.toList (s.fn H (ds++gs)).args pa)
  (hvars:∀sp:Nat→Bool,(∀p∈before,sp p.block=true)→DataW.TrodVars enc Tryz.prog W' sp s.vars (s.fn H (ds++gs)).vars pv)
  (hps:before=pa++pv) (hk:Wd (AN W) S W'):s.post enc Tryz.prog f apart true false false W args v W':=by
 have hold:∀p∈before,(fun b=>decide (b<W.heap.size)) p.block=true:=fun p hp=>by simpa using hW.lt p hp
 exact⟨ds,gs,before,[],pa,pv,hW,hres _ _ _,hargs _ hold,hvars _ hold,KQ hk _,fun h=>by cases h⟩
section
variable {H:Type}{en:TypeId×Value→H}{W W':World}{base:Nat}{sp:Nat→Bool}{held:Bool}{S:List B5}
theorem Ih{sz:Nat}:∀ {rows:List (List Value)},(∀r∈rows,r.length=sz)→∀ {j:Nat} {u:Value},rows.flatten[j]? = some u→∃i r row,rows[i]? = some row∧row[r]? = some u∧j=i*sz+r
 | [],_,j,u,h=>by simp at h
 | a::rows,hl,j,u,h=>by
  rw[List.flatten_cons]at h;by_cases hj:j<a.length
  ·rw[List.getElem?_append_left hj]at h;exact⟨0,j,a,rfl,h,by omega⟩
  ·rw[List.getElem?_append_right (by omega)]at h
   obtain⟨i,r,row,h1,h2,h3⟩:=Ih (fun r hr=>hl r (List.mem_cons_of_mem _ hr)) h
   have ha:=hl a (List.mem_cons_self ..)
   refine⟨i+1,r,row,by simpa using h1,h2,?_⟩
   rw[Nat.add_mul,Nat.one_mul];omega
theorem CZ{α:Type}[Inhabited α]{F:α→List Value}{p:α→Prop}{t e sz:Nat}(hc:Tryz.prog.cellsOf e=sz)(h0:0<sz)(hF:∀x,(F x).length=sz)(ht:Tryz.prog.underlying t=some (.slice e))
  (hel:∀ {n:Nat} {cs:List Value} {y:DataW H×List MemPlace},DataW.trod en Tryz.prog W base sp held n e cs=some y→∃x:α,cs=F x∧p x)
  {n:Nat} {v:Value} {y:DataW H×List MemPlace} (h:DataW.trod en Tryz.prog W base sp held n t [v]=some y):∃xs:List α,D6 (AN W) v sz (xs.map F)∧∀x∈xs,p x:=by
 rcases Deep.open_slice ht h with⟨h0,-⟩|⟨a,len,cap,m,k,D,Pl,h1,-,hlc,hcm,hm,-,hel2⟩
 ·cases h0
  exact⟨[],D6.nil,fun x hx=>by cases hx⟩
 ·cases h1
  have hlm:len≤m:=by rw[hm];split <;> omega
  have hx:∀i,i<len→∃x:α,p x∧∀j u,(F x)[j]? = some u→W.cell? (a.add (i*sz+j))=some u:=fun i hi=>by
   obtain⟨cs',h1,h2⟩:=hel2 i (by omega)
   rw[hc]at h1;obtain⟨-,hl,hat⟩:=World.cells?_some h1
   obtain⟨x,rfl,hp⟩:=hel h2
   refine⟨x,hp,fun j u hu=>?_⟩
   have hj:j<sz:=by rw[←hl];exact(List.getElem?_eq_some_iff.1 hu).1
   have:=hat j hj
   rw[hu,Go.Deep.add_add]at this;exact this
  obtain⟨f,hf⟩:∃f:Nat→α,∀i,i<len→p (f i)∧∀j u,(F (f i))[j]? = some u→W.cell? (a.add (i*sz+j))=some u:=by
   refine⟨fun i=>if hi:i<len then (hx i hi).choose else default,fun i hi=>?_⟩
   simp only[hi,dif_pos]
   exact(hx i hi).choose_spec
  refine⟨(List.range len).map f,?_,fun x hx=>?_⟩
  ·unfold D6;refine⟨fun r hr=>?_,some a,len,cap,rfl,by simp,hlc,hcm,fun hpos=>?_⟩
   ·obtain⟨x,-,rfl⟩:=List.mem_map.1 hr
    exact hF x
   ·have hpos:0<len:=by simpa using hpos
    obtain⟨u0,hu0⟩:∃u,(F (f 0))[0]? = some u:=⟨_,List.getElem?_eq_getElem (by rw[hF];exact h0)⟩
    have h00:=(hf 0 hpos).2 0 u0 hu0
    obtain⟨g,o,spt⟩:=a;have h01:W.cell? ⟨g,o,spt⟩=some u0:=by
     rw[Nat.zero_mul]at h00;simpa[Addr.add] using h00
    unfold World.cell? at h01
    cases hg:W.heap[g]? with
    | none=>rw[hg]at h01;simp at h01
    | some ob=>
     rw[hg]at h01;cases ob with
     | cells cur e fr=>
      cases spt with
      | some q=>simp at h01
      | none=>
       refine⟨g,o,cur,e,fr,rfl,hg,fun j u hj=>?_⟩
       obtain⟨i,r,row,h1,h2,h3⟩:=Ih (sz:=sz) (rows:=((List.range len).map f).map F) (fun r hr=>by
        obtain⟨x,-,rfl⟩:=List.mem_map.1 hr
        exact hF x) hj
       rw[List.getElem?_map,List.getElem?_map]at h1;have hi:i<len:=by
        by_cases hi:i<len
        ·exact hi
        ·rw[List.getElem?_eq_none (by simpa using hi)]at h1;simp at h1
       rw[List.getElem?_range hi]at h1;simp only[Option.map_some,Option.some.injEq]at h1
       subst h1;have h4:W.cell? ⟨g,o+(i*sz+r),none⟩=some u:=by
        have h5:=(hf i hi).2 r u h2
        rwa [show Addr.add ⟨g,o,none⟩ (i*sz+r)=⟨g,o+(i*sz+r),none⟩ from by
         unfold Addr.add;by_cases h0:i*sz+r=0
         ·rw[if_pos h0,h0];rfl
         ·rw[if_neg h0]]at h5
       unfold World.cell? at h4
       rw[hg]at h4;rw[h3];simpa using h4
     | _=>simp at h01
  ·obtain⟨i,hi,rfl⟩:=List.mem_map.1 hx
   exact(hf i (List.mem_range.1 hi)).1
theorem UY:∀cs:List Value,cs.length=3→∃a b c,cs=[a,b,c]
 | [a,b,c],_=>⟨a,b,c,rfl⟩
theorem UI:∀cs:List Value,cs.length=2→∃a b,cs=[a,b]
 | [a,b],_=>⟨a,b,rfl⟩
theorem Px{n:Nat}{cs:List Value}{y:DataW H×List MemPlace}(h:DataW.trod en Tryz.prog W base sp held n 65 cs=some y):∃x:Val,cs=enc x∧(-9223372036854775808≤x.Num∧x.Num≤9223372036854775807):=by
 obtain⟨xs,k,-,-,hl,hxl,hf⟩:=DataW.trod_struct Tryz.underlying65 h
 have hl:cs.length=3:=hl.trans (by kernel_rfl)
 obtain⟨c0,c1,c2,rfl⟩:=UY cs hl
 have e0:Tryz.prog.cellsOf 3=1:=by kernel_rfl
 have e1:Tryz.prog.cellsOf 2=1:=by kernel_rfl
 have e2:Tryz.prog.cellsOf 9=1:=by kernel_rfl
 have g0:DataW.trod en Tryz.prog W base sp held k 3 (([c0,c1,c2].drop 0).take (Tryz.prog.cellsOf 3))=xs[0]?:=hf 0 { name:= "Kind",type:=3,offset:=0,embedded:=false,tag:= "",pkgPath:= "",byteOffset:=0 } rfl
 have g1:DataW.trod en Tryz.prog W base sp held k 2 (([c0,c1,c2].drop 1).take (Tryz.prog.cellsOf 2))=xs[1]?:=hf 1 { name:= "Int",type:=2,offset:=1,embedded:=false,tag:= "",pkgPath:= "",byteOffset:=8 } rfl
 have g2:DataW.trod en Tryz.prog W base sp held k 9 (([c0,c1,c2].drop 2).take (Tryz.prog.cellsOf 9))=xs[2]?:=hf 2 { name:= "Word",type:=9,offset:=2,embedded:=false,tag:= "",pkgPath:= "",byteOffset:=16 } rfl
 rw[e0]at g0;rw[e1]at g1;rw[e2]at g2;have hxl:xs.length=3:=hxl
 rw[List.getElem?_eq_getElem (by omega)]at g0 g1 g2
 obtain⟨a,ha,-,-⟩:=DataW.trod_int Tryz.underlying3 g0
 obtain⟨b,hb,-,hw⟩:=DataW.trod_int Tryz.underlying2 g1
 obtain⟨s,hs,-,-⟩:=DataW.trod_string Tryz.underlying9 g2
 simp only[List.drop_zero,List.take_succ_cons,List.take_zero,List.drop_succ_cons,List.cons.injEq,and_true]at ha hb hs
 subst ha;subst hb;subst hs;refine⟨⟨a,b,s⟩,rfl,?_⟩
 simp only[Lit.wf,IntKind.min,IntKind.max,IntKind.bits,IntKind.signed]at hw
 simpa using hw
theorem HE(hk:Wd (AN W) S W'):∀ {ts:List TypeId} {vs:List Value} {ds:List (DataW H)} {ps:List MemPlace},DataW.TrodAll en Tryz.prog W base sp held ts vs ds ps→(∀p∈ps,p.block<W.heap.size)→DataW.TrodAll en Tryz.prog W' base sp held ts vs ds ps
 | [],[],[],_,h,_=>h
 | _::_,_::_,_::_,_,⟨p,q,⟨n,h1⟩,h2,e⟩,hs=>⟨p,q,⟨n,DataW.trod_carry n _ _ _ h1 fun x hx=>by
   have hb:=hs x (by rw[e];exact List.mem_append_left _ hx)
   cases x with
   | cell b off=>
    have h3:W'.heap[b]? = W.heap[b]?:=by
     have h4:W.heap[b]? = some (W.heap[b]'hb):=Array.getElem?_eq_getElem hb
     rw[h4];exact hk.imm b _ h4
    show W'.cell? _=W.cell? _
    unfold World.cell?
    rw[h3]
   | map b=>
    have h4:W.heap[b]? = some (W.heap[b]'hb):=Array.getElem?_eq_getElem hb
    show W'.heap[b]? = W.heap[b]?
    rw[h4];exact hk.imm b _ h4⟩,HE hk h2 (fun x hx=>hs x (by rw[e];exact List.mem_append_right _ hx)),e⟩
end
theorem Oz:Kids Tryz.prog (· < Tryz.prog.types.size):=kids_rows (by kernel_rfl) (by kernel_rfl)
theorem Qe:∀t e,t<Tryz.prog.types.size→Tryz.prog.underlying t=some (.slice e)→0<Tryz.prog.cellsOf e:=slices_full_of _ (by kernel_rfl)
abbrev LR:List (String×DataW Unit):=[("math/bits.deBruijn32tab",Rows.laid_math_bits_deBruijn32tab),("math/bits.deBruijn64tab",Rows.laid_math_bits_deBruijn64tab),("internal/strconv.uint64pow10",Rows.laid_internal_strconv_uint64pow10)]
theorem SA{W:World}(h:laidMetH Tryz.prog LR W):Lib.TabIs Tryz.prog W "internal/strconv.uint64pow10" .u64 Lib.pow10Tab:=by
 rw[MakeChecks.laidMetH_plain _ _ _ (by kernel_rfl)]at h
 have h3:=laidMet.tail (laidMet.tail h)
 exact Lib.tabIs_of_head (rest:=[]) (g:=DG.g 17) (by kernel_rfl) (by kernel_rfl) Tryz.underlying326 Tryz.underlying56 (by kernel_rfl) (by kernel_rfl) h3
end Go.Proofs.YtlmiakjbogojgaaGreatDoor
end
section
open Go
namespace Mk
attribute [local irreducible] Calls
section
variable {P:Program}{n:Nat}{ops:List Oper}{Γ:C4}{K:List B5}{wr tc stab:List (List Nat)}{Q:Fr→World→Prop}{i:Nat}{rest:List Oper}{ρ:Fr}{M:Nat→Fr→List B5}
variable {d:Option Tmp}{ty:TypeId}{pos:String}{es:Array Edge}{f:Nat}{args:List Operand}{tys:Array TypeId}
theorem QY{c:Nat}{F:Fr→List B5}(F':Fr→List B5)(vs:Fr→List Value)[C3 P f]
  (hs:∀g w Y,Wd Γ (F (F3 (stab.getD c []) g D5)++(K++Y)) w→Calls P f (vs (F3 (stab.getD c []) g D5)).toArray w fun e w'=>∃u,e=.returned u∧Wd Γ (F' (F3 (stab.getD c []) (C9 g d u) D5)++(K++Y)) w')
  (h:MSw (mV P n ops Γ K wr tc stab) Q (i+1) rest ⟨C9 ρ d undef,M0 M c F'⟩) (hM:M c=F:=by first|exact B6|exact NL|exact AW|exact((A8 (by decide)).trans B6)|exact rfl) (hw0:wr.getD i []=[c]:=by exact rfl) (ht:tc.getD i []=[c]:=by exact rfl) (hfr:U7 stab d=true:=by exact rfl) (ha:∀g,EvL (F3 stab.flatten g ρ) args (vs (F3 (stab.getD c []) g D5)):=by intro g;exact u6) :
  MSw (mV P n ops Γ K wr tc stab) Q i (⟨d,.call { callee:=.value (.func f),args:=args.toArray,argTypes:=tys },ty,pos,es,none⟩::rest) ⟨ρ,M⟩:=
 mS (v:=undef) F' (fun g w Y hw=>Ak (ha g).eqA ((hs g w Y hw).mono fun e w' ⟨u,h1,h2⟩=>⟨u,h1,fun hh=>(by rw[hfr]at hh;cases hh),h2⟩)) h hM hw0 ht rfl
end
end Mk
end
section
open Go Mk
namespace Go.Proofs.YtlmiakjbogojgaaGreatDoor
set_option maxHeartbeats 16000000
attribute [local irreducible] Calls K8
abbrev Bp(g:D4):B5:=.own g.hdr 65 3 (g.Args.map enc)
theorem Gv{Γ:C4}{S:List B5}{w:World}:∀(gs:List D4),Wd Γ (gs.map Bp++S) w→∃Γ',Γ.le Γ'∧(∀g∈gs,Cf Γ' g)∧Wd Γ' S w
 | [],h=>⟨Γ,C4.le.refl _,(fun g hg=>by cases hg),h⟩
 | g::gs,h=>by
  obtain⟨Γ1,l1,r1,h1⟩:=Wd.freeze (h:Wd Γ (Bp g::(gs.map Bp++S)) w)
  obtain⟨Γ2,l2,r2,h2⟩:=Gv gs h1
  refine⟨Γ2,l1.trans l2,fun x hx=>?_,h2⟩
  rcases List.mem_cons.1 hx with e|e
  ·rw[e];exact D6.mono r1 l2
  ·exact r2 x e
def EX(gs:List D4):Prop:=∀g∈gs,y0 g.fact
theorem Ja{Γ:C4}{S:List B5}{w:World}{v:Value}(fs:List D4)(hok:GA Γ fs)(hl:fs.length≤100000)(hr:R8 Γ S v 2 (fs.map cF))(hw:Wd Γ S w) :
  Calls Tryz.prog 137 #[v] w fun e w'=>∃v' gs,e=.returned v'∧facts gs=Df (facts fs)∧EX gs∧Wd Γ (.own v' 80 2 (gs.map cF)::(gs.map Bp++S)) w':=by
 refine A4 Tryz.func137 rfl rfl ?_
 refine A7 ?_;refine B9 (vs:=[v,Bu]) ?_
 refine(LH fs hok hl hr hw).mono ?_
 clear hw;rintro e w ⟨v1,gs0,rfl,hgs0,hok0,hw⟩
 refine⟨_,rfl,?_⟩;obtain⟨a,n,c,rfl,hn,hnc,hc⟩:=hw.own_shape (i:=0) rfl
 simp only[List.length_map]at hn
 refine A7 ?_;refine C1 (fun μ ρ w=>∃(gs hs:List D4),μ+gs.length=n∧gs.length+hs.length=n∧Has ρ [(3,.slice a n c),(8,.int .i64 n),(9,.int .i64 (gs.length:Nat))]∧facts (gs++hs)=Df (facts fs)∧GA Γ hs∧EX gs∧Wd Γ (.own (.slice a n c) 80 2 ((gs++hs).map cF)::(gs.map Bp++S)) w) n ⟨[],gs0,by simp,by simp[hn],⟨rfl,rfl,rfl,trivial⟩,hgs0,hok0,(fun g hg=>by cases hg),hw⟩ ?_
 clear hw hgs0 hok0 hn hok hr;rintro μ ρ w ⟨gs,hs,hk,hn,hρ,hgs,hok,hok1,hw⟩
 rw[hρ.eq];refine A7 ?_;refine A0 rfl (fun h=>?_) (fun h=>?_)
 ·have hkn:gs.length<n:=by have:=of_decide_eq_true h;omega
  cases hs with
  | nil=>simp at hn;omega
  | cons g hs=>
   have hg:(gs++g::hs)[gs.length]? = some g:=by rw[List.getElem?_append_right (Nat.le_refl _)];simp
   obtain⟨hf,hal⟩:=hok g (by simp)
   have hal1:g.Args.length≤100000:=hal.1
   have hll:(gs++g::hs).length=n:=by rw[List.length_append];exact hn
   refine A7 ?_;refine B9 (vs:=[g.hdr]) ?_
   refine(KY (S:=.own (.slice a n c) 80 2 ((gs++g::hs).map cF)::(gs.map Bp++S)) hf (by omega) hw).mono ?_
   clear hw;rintro e w ⟨v2,rfl,hw⟩
   refine⟨_,rfl,?_⟩;obtain⟨a2,n2,c2,rfl,-,-,-⟩:=hw.own_shape (i:=0) rfl
   refine A7 ?_;refine Ov (i:=1) (r:=[.slice a2 n2 c2]) ?_ (B2 hg)
   intro w hw;have hw:Wd Γ (.own (.slice a2 n2 c2) 65 3 (g.Args.map enc)::.own (.slice a n c) 80 2 (((gs++g::hs).map cF).set gs.length (cF ⟨g.Rel,a2,n2,c2,g.Args⟩))::(gs.map Bp++S)) w:=hw
   have e2:((gs++g::hs).map cF).set gs.length (cF ⟨g.Rel,a2,n2,c2,g.Args⟩)=((gs++[(⟨g.Rel,a2,n2,c2,g.Args⟩:D4)])++hs).map cF:=by
    rw[←List.map_set,List.set_append_right _ _ (Nat.le_refl _),Nat.sub_self,List.set_cons_zero,List.append_assoc];rfl
   rw[e2]at hw;refine A7 ?_;refine⟨μ-1,by omega,gs++[⟨g.Rel,a2,n2,c2,g.Args⟩],hs,by simp;omega,by simp at hn ⊢;omega,⟨rfl,rfl,by simp;rfl,trivial⟩,?_,fun x hx=>hok x (by simp[hx]),fun x hx=>?_,?_⟩
   ·rw[←hgs];unfold facts;simp[D4.fact]
   ·rcases List.mem_append.1 hx with q|q
    ·exact hok1 x q
    ·rw[List.mem_singleton.1 q];exact hal
   ·have e3:((gs++[(⟨g.Rel,a2,n2,c2,g.Args⟩:D4)]).map Bp++S)=gs.map Bp++(Bp ⟨g.Rel,a2,n2,c2,g.Args⟩::S):=by simp
    rw[e3];exact hw.perm ((List.Perm.swap _ _ _).trans (List.Perm.cons _ List.perm_middle.symm))
 ·have hkn:¬gs.length<n:=by have:=of_decide_eq_false h;omega
  have hs0:hs=[]:=List.eq_nil_of_length_eq_zero (by omega)
  subst hs0;rw[List.append_nil]at hw hgs
  refine A7 ?_;exact⟨_,rfl,_,gs,rfl,hgs,hok1,hw⟩
structure RL(Γ:C4)(v:Value)(fs:List D4):Prop where
 rep:D6 Γ v 2 (fs.map cF)
 ok:GA Γ fs
theorem RL.mono{Γ Γ':C4}{v:Value}{fs:List D4}(h:RL Γ v fs)(hl:Γ.le Γ'):RL Γ' v fs:=⟨h.rep.mono hl,h.ok.mono hl⟩
theorem RL.nil{Γ:C4}:RL Γ (.slice none 0 0) []:=⟨D6.nil,fun f hf=>by cases hf⟩
theorem RL.len{Γ:C4}{v:Value}{fs:List D4}(h:RL Γ v fs):∃a c,v=.slice a fs.length c∧fs.length≤c∧c≤9223372036854775807:=by
 obtain⟨a,n,c,h1,h2,h3,h4⟩:=h.rep.shape;simp only[List.length_map]at h2
 subst h2;exact⟨a,c,h1,h3,h4⟩
theorem Lp{Γ:C4}{S:List B5}{w:World}{v:Value}{gs:List D4}(hok:EX gs)(hw:Wd Γ (.own v 80 2 (gs.map cF)::(gs.map Bp++S)) w):∃Γ',Γ.le Γ'∧RL Γ' v gs∧Wd Γ' S w:=by
 obtain⟨Γ1,l1,r1,h1⟩:=hw.freeze;obtain⟨Γ2,l2,r2,h2⟩:=Gv gs h1
 exact⟨Γ2,l1.trans l2,⟨r1.mono l2,fun g hg=>⟨r2 g hg,hok g hg⟩⟩,h2⟩
def Hy(l:List K3)(f:K3):List K3×Int:=if Aj f=true then (if (Df (l++[f])).length≤8192 then (Df (l++[f]),0) else ([],15)) else ([],63)
section
variable {Γ:C4}{S:List B5}{w:World}
theorem Ke{v:Value}{f:D4}(fs:List D4)(hok:GA Γ fs)(hl:fs.length≤50000)(hf:Cf Γ f)(hfo:y0 f.fact)(hr:R8 Γ S v 2 (fs.map cF))(hw:Wd Γ S w) :
  Calls Tryz.prog 248 #[v,.agg (cF f).toArray] w fun e w'=>∃Γ' v' gs,Γ.le Γ'∧e=.returned (.tuple #[v',.int .i64 (Hy (facts fs) f.fact).2])∧facts gs=(Hy (facts fs) f.fact).1∧RL Γ' v' gs∧Wd Γ' S w':=by
 obtain⟨a,n,c,rfl,hn,hnc,hc⟩:=hr.shape;simp only[List.length_map]at hn
 have hR:=QB hf hfo
 have hall:GA Γ (fs++[f]):=fun x hx=>by
  rcases List.mem_append.1 hx with q|q
  ·exact hok x q
  ·rw[List.mem_singleton.1 q];exact⟨hf,hfo⟩
 refine A4 Tryz.func248 rfl rfl ?_
 refine A7 ?_;refine J5 ?_;intro b w hw;have hw:Wd Γ (Ii b f::S) w:=hw
 repeat first|refine A5 ?_|refine A6 ?_;intro w hw
 refine A0 rfl (fun h=>?_) (fun h=>?_)
 ·have h:Aj f.fact=false:=by simpa using h
  have hI:Hy (facts fs) f.fact=([],63):=if_neg (by rw[h];decide)
  rw[hI];refine A7 ?_;exact⟨_,rfl,Γ,_,[],C4.le.refl _,rfl,rfl,RL.nil,hw.drop⟩
 have h:Aj f.fact=true:=by simpa using h
 refine A7 ?_;refine Dx 2 [[],[0],[],[1],[0],[0],[0]] [[],[0],[],[1],[0,1],[0],[0]] [[11,14,15,6],[13]] ?_
 refine W9 ?_;refine QY (c:=0) (F:=fun _=>[]) (fun g=>[.own (g 11) 80 2 (fs.map cF)]) (fun _=>[.slice a n c]) (fun g w Y hw=>?_) ?_
 ·have hR2:R8 Γ ((Ii b f::S)++Y) (.slice a n c) 2 (fs.map cF):=R8.app (R8.cons hr)
  refine(EZ hR2 (by omega) hw).mono ?_
  rintro e w ⟨v1,rfl,hw⟩
  exact⟨v1,rfl,hw⟩
 refine W9 ?_;refine OK [cF f] ?_
 refine OP (rows2:=[cF f]) ?_ (LU [f]) (hb:=by simp;omega) (h63:=by simp;omega)
 refine QY (c:=0) (F:=fun g=>[.own (g 14) 80 2 (fs.map cF++[cF f])]) (P7 (fun (t:Value×List D4) g=>g 15=t.1∧facts t.2=Df (facts fs++[f.fact])∧EX t.2) fun t=>.own t.1 80 2 (t.2.map cF)::t.2.map Bp) (fun g=>[g 14]) (fun g w Y hw=>?_) ?_
 ·have hw:Wd Γ ([.own (F3 [11,14,15,6] g D5 14) 80 2 ((fs++[f]).map cF)]++((Ii b f::S)++Y)) w:=by rw[List.map_append];exact hw
  refine(Ja (fs++[f]) hall (by simp;omega) (R8.own (i:=0) hw rfl) hw).mono ?_
  clear hw;rintro e w ⟨v1,gs,rfl,h1,h2,hw⟩
  have h1:facts gs=Df (facts fs++[f.fact]):=by rw[h1];unfold facts;rw[List.map_append];rfl
  refine⟨v1,rfl,t8 (v1,gs) ⟨rfl,h1,h2⟩ ?_⟩
  have hw:Wd Γ ((.own v1 80 2 (gs.map cF)::gs.map Bp)++(.own (F3 [11,14,15,6] g D5 14) 80 2 ((fs++[f]).map cF)::((Ii b f::S)++Y))) w:=hw
  exact(hw.perm List.perm_middle).drop
 refine TG (c:=0) (T:=Value×List D4) (φ:=fun t g=>g 15=t.1∧facts t.2=Df (facts fs++[f.fact])∧EX t.2) (fun t=>t.1) (fun t g w Y ht _=>GC ht.1) ?_ (hφ:=fun t g u h=>h)
 refine X6 fun w g hw=>?_
 have hw:Wd Γ ((Ii b f::S)++(P7 (fun (t:Value×List D4) g=>(g 15=t.1∧facts t.2=Df (facts fs++[f.fact])∧EX t.2)∧g 6=t.1) (fun t=>.own t.1 80 2 (t.2.map cF)::t.2.map Bp) (F3 [11,14,15,6] g D5)++([.own (g 13) 80 2 [cF f]]++[]))) w:=hw
 obtain⟨⟨v1,gs⟩,⟨⟨-,h1,h2⟩,e6⟩,hw⟩:=Y2 hw.swapApp
 have e6:g 6=v1:=e6
 have h1:facts gs=Df (facts fs++[f.fact]):=h1
 have h2:EX gs:=h2
 obtain⟨Γ1,l1,hL,hw⟩:=Lp h2 hw
 have hw5:Wd Γ1 (Ii b f::S) w:=hw.left
 have hgl:gs.length=(Df (facts fs++[f.fact])).length:=by rw[←h1];unfold facts;rw[List.length_map]
 have hL:RL Γ1 v1 gs:=hL
 obtain⟨a6,c6,rfl,k1,k2⟩:=hL.len;have hw:Wd Γ1 (Ii b f::S) w:=hw5
 refine Oq (l:=[(6,.slice a6 gs.length c6)]) ⟨e6,trivial⟩ fun ρ hρ=>?_
 rw[hρ.eq];refine A7 ?_;refine A0 rfl (fun h5=>?_) (fun h5=>?_)
 ·have h5:8192<gs.length:=by have:=of_decide_eq_true h5;omega
  have hI:Hy (facts fs) f.fact=([],15):=by unfold Hy;rw[if_pos h,if_neg (by omega)]
  rw[hI];refine A7 ?_;exact⟨_,rfl,Γ1,_,[],l1,rfl,rfl,RL.nil,hw.drop⟩
 ·have h5:gs.length≤8192:=by have:=of_decide_eq_false h5;omega
  have hI:Hy (facts fs) f.fact=(Df (facts fs++[f.fact]),0):=by unfold Hy;rw[if_pos h,if_pos (by omega)]
  rw[hI];refine A7 ?_;exact⟨_,rfl,Γ1,_,gs,l1,rfl,h1,hL,hw.drop⟩
end
end Go.Proofs.YtlmiakjbogojgaaGreatDoor
end
section
open Go Mk
namespace Go.Proofs.YtlmiakjbogojgaaGreatDoor
set_option maxHeartbeats 4000000
attribute [local irreducible] Calls
instance Uy(b:UInt8):PC Tryz.prog 246 [.int .u8 ((b.toNat:Nat):Int)] (.int .i64 (W8 ((b.toNat:Nat):Int))):=⟨fun w=>by
 obtain⟨hc0,hc1⟩:=Lo b
 generalize ((b.toNat:Nat):Int)=c at *
 refine A4 Tryz.func246 rfl rfl ?_
 repeat first|refine A5 ?_|refine A6 ?_;intro w hw
 refine A0 rfl (fun h=>?_) (fun h=>?_)
 ·repeat first|refine A5 ?_|refine A6 ?_;intro w hw
  refine⟨_,rfl,F9 rfl ?_,rfl⟩
  have h1:48≤c∧c≤57:=by simpa[H2] using h
  rw[Bf (by omega) (by omega),wrap_i64 (by omega) (by omega)]
  unfold W8;rw[if_pos h]
 ·repeat first|refine A5 ?_|refine A6 ?_;intro w hw
  refine A0 rfl (fun h2=>?_) (fun h2=>?_)
  ·repeat first|refine A5 ?_|refine A6 ?_;intro w hw
   refine⟨_,rfl,F9 rfl ?_,rfl⟩
   have h1:97≤c∧c≤102:=by simpa using h2
   rw[Bf (by omega) (by omega),wrap_i64 (a:=c-97) (by omega) (by omega),wrap_i64 (by omega) (by omega)]
   unfold W8;rw[if_neg (by simp[h]),if_pos h2]
  ·repeat first|refine A5 ?_|refine A6 ?_;intro w hw
   refine A0 rfl (fun h3=>?_) (fun h3=>?_)
   ·repeat first|refine A5 ?_|refine A6 ?_;intro w hw
    refine⟨_,rfl,F9 rfl ?_,rfl⟩
    have h1:65≤c∧c≤70:=by simpa using h3
    rw[Bf (by omega) (by omega),wrap_i64 (a:=c-65) (by omega) (by omega),wrap_i64 (by omega) (by omega)]
    unfold W8;rw[if_neg (by simp[h]),if_neg (by simpa using h2),if_pos h3]
   ·repeat first|refine A5 ?_|refine A6 ?_;intro w hw
    refine⟨_,rfl,F9 rfl ?_,rfl⟩
    unfold W8;rw[if_neg (by simp[h]),if_neg (by simpa using h2),if_neg (by simpa using h3)]⟩
instance Ub(c:Int):PC Tryz.prog 244 [.int .u8 c] (.bool (W3 c)):=⟨fun w=>by
 refine A4 Tryz.func244 rfl rfl ?_
 repeat first|refine A5 ?_|refine A6 ?_;intro w hw
 exact⟨_,rfl,rfl,rfl⟩⟩
theorem Li(a:Int):0≤IntKind.u64.wrap a∧IntKind.u64.wrap a≤18446744073709551615:=by
 simp[IntKind.wrap,IntKind.bits,IntKind.signed];omega
theorem RX{c base:Int}(h0:0≤W8 c)(h1:W8 c<base):d5 c base=W8 c:=by unfold d5;rw[if_neg (by omega)]
theorem OX{c base:Int}(hb:0<base)(h:W8 c<0∨base≤W8 c):d5 c base<0:=by
 have:=CY c
 unfold d5;split
 ·decide
 ·omega
set_option maxRecDepth 4000 in
theorem If{Γ:C4}{S:List B5}{w:World}(s:ByteArray)(hs:s.size≤4611686018427387904)(h0:0<s.size)(hw:Wd Γ S w) :
  Calls Tryz.prog 166 #[.string s] w fun e w'=>e=.returned (.tuple #[.int .u64 (y9 s).1,.int .i64 (y9 s).2])∧Wd Γ S w':=by
 refine A4 Tryz.func166 rfl rfl ?_
 have e1:((s.size:Int)-1).toNat=s.size-1:=by omega
 repeat first|refine A5 ?_|refine A6 ?_;intro w hw
 refine FZ (fun ρ w'=>∃sh:Nat,Has ρ [(0,.string s),(4,.int .u64 sh)]∧Wd Γ S w'∧sh=Br (A3 s (s.size-1))) ?_ ?_
 ·rw[e1];refine A0 rfl (fun h=>?_) (fun h=>?_)
  ·have h:A3 s (s.size-1)=75:=of_decide_eq_true h
   repeat first|refine A5 ?_|refine A6 ?_;intro w hw
   exact⟨10,⟨rfl,rfl,trivial⟩,hw,by rw[h];rfl⟩
  repeat first|refine A5 ?_|refine A6 ?_;intro w hw
  refine A0 rfl (fun h2=>?_) (fun h2=>?_)
  ·have h:A3 s (s.size-1)=77:=of_decide_eq_true h2
   repeat first|refine A5 ?_|refine A6 ?_;intro w hw
   exact⟨20,⟨rfl,rfl,trivial⟩,hw,by rw[h];rfl⟩
  repeat first|refine A5 ?_|refine A6 ?_;intro w hw
  refine A0 rfl (fun h3=>?_) (fun h3=>?_)
  ·have h:A3 s (s.size-1)=71:=of_decide_eq_true h3
   repeat first|refine A5 ?_|refine A6 ?_;intro w hw
   exact⟨30,⟨rfl,rfl,trivial⟩,hw,by rw[h];rfl⟩
  ·have h:¬A3 s (s.size-1)=75:=of_decide_eq_false h
   have h2:¬A3 s (s.size-1)=77:=of_decide_eq_false h2
   have h3:¬A3 s (s.size-1)=71:=of_decide_eq_false h3
   repeat first|refine A5 ?_|refine A6 ?_;intro w hw
   exact⟨0,⟨rfl,rfl,trivial⟩,hw,by unfold Br;rw[if_neg h3,if_neg h2,if_neg h]⟩
 clear hw;rintro ρ w ⟨sh,hρ,hw,hsh⟩
 rw[hρ.eq];have hcase:=FX (A3 s (s.size-1))
 rw[←hsh]at hcase;repeat first|refine A5 ?_|refine A6 ?_;intro w hw
 refine J6 (fun ρ w''=>Has ρ [(0,.string (EJ s)),(4,.int .u64 sh)]∧Wd Γ S w'') ?_ ?_
 ·refine A0 rfl (fun h=>?_) (fun h=>?_)
  ·have h:0<sh:=by have:=of_decide_eq_true h;omega
   repeat first|refine A5 ?_|refine A6 ?_;intro w hw
   rw[e1];exact⟨⟨by unfold EJ;rw[←hsh,if_pos h];rfl,rfl,trivial⟩,hw⟩
  ·have h:¬0<sh:=by have:=of_decide_eq_false h;omega
   repeat first|refine A5 ?_|refine A6 ?_;intro w hw
   exact⟨⟨by unfold EJ;rw[←hsh,if_neg h];rfl,rfl,trivial⟩,hw⟩
 clear hw;rintro ρ w ⟨hρ,hw⟩
 rw[hρ.eq,Gy,←hsh];have hsz:(EJ s).size≤4611686018427387904:=by
  unfold EJ;split
  ·rw[O7 (by omega)];omega
  ·exact hs
 generalize EJ s=s' at *
 clear hsh hρ e1;have hx0:(2:Int)<s'.size→A3 s' ((0:Int).toNat)=A3 s' 0:=fun _=>rfl
 repeat first|refine A5 ?_|refine A6 ?_;intro w hw
 refine J6 (fun ρ w=>∃(s2:ByteArray) (base:Nat),Has ρ [(0,.string s2),(4,.int .u64 sh),(5,.int .u64 base)]∧Wd Γ S w∧Y8 sh s'=R3 base sh (H6 s2)∧(base=10∨base=16)∧s2.size≤4611686018427387904) ?_ ?_
 ·refine A0 rfl (fun h=>?_) (fun h=>?_)
  ·have h:2<s'.size∧A3 s' 0=48∧A3 s' 1=120:=by
    simp only[Bool.and_eq_true,decide_eq_true_eq]at h
    exact⟨by omega,h.1.2,h.2⟩
   refine H0 (by kernel_rfl) (by kernel_rfl) hw ?_
   refine Bt ?_;intro w hw;exact⟨D7 s' 2 s'.size,16,⟨rfl,rfl,rfl,trivial⟩,hw,by unfold Y8;rw[if_pos ⟨by omega,h.2⟩,if_neg (by omega)],.inr rfl,by rw[O7 (Nat.le_refl _)];omega⟩
  ·have h:¬(2<s'.size∧A3 s' 0=48∧A3 s' 1=120):=fun hh=>by
    have q:(decide ((2:Int)<s'.size)&&decide (A3 s' 0=48)&&decide (A3 s' 1=120))=true:=by
     simp only[Bool.and_eq_true,decide_eq_true_eq]
     exact⟨⟨by omega,hh.2.1⟩,hh.2.2⟩
    exact absurd (q.symm.trans h) (by decide)
   repeat first|refine A5 ?_|refine A6 ?_;intro w hw
   refine A0 rfl (fun h2=>?_) (fun h2=>?_)
   ·have h2:s'.size=0∨(1<s'.size∧A3 s' 0=48):=by
     simp only[Bool.or_eq_true,Bool.and_eq_true,decide_eq_true_eq]at h2
     rcases h2 with h2|h2
     ·exact .inl (by omega)
     ·exact .inr ⟨by omega,h2.2⟩
    have hb:Y8 sh s'=(0,50):=by
     unfold Y8;by_cases h3:2≤s'.size∧A3 s' 0=48∧A3 s' 1=120
     ·rw[if_pos h3,if_pos (by omega)]
     ·rw[if_neg h3,if_pos h2]
    rw[hb];repeat first|refine A5 ?_|refine A6 ?_;intro w hw
    exact⟨_,rfl,rfl,hw⟩
   ·have h2:¬(s'.size=0∨(1<s'.size∧A3 s' 0=48)):=fun hh=>by
     have q:(decide ((s'.size:Int)=0)||(decide ((1:Int)<s'.size)&&decide (A3 s' 0=48)))=true:=by
      simp only[Bool.or_eq_true,Bool.and_eq_true,decide_eq_true_eq]
      rcases hh with hh|hh
      ·exact .inl (by omega)
      ·exact .inr ⟨by omega,hh.2⟩
     exact absurd (q.symm.trans h2) (by decide)
    repeat first|refine A5 ?_|refine A6 ?_;intro w hw
    refine⟨s',10,⟨rfl,rfl,rfl,trivial⟩,hw,?_,.inl rfl,hsz⟩
    unfold Y8;rw[if_neg (fun hh=>h2 (.inr ⟨by omega,hh.2.1⟩)),if_neg h2]
 clear hw;rintro ρ w ⟨s2,base,hρ,hw,hN,hbase,hsz2⟩
 rw[hρ.eq,hN];clear hN hρ hsz hx0;have hbl:=K9 s2
 repeat first|refine A5 ?_|refine A6 ?_;intro w hw
 refine C1 (fun μ ρ w=>∃(k:Nat) (v:Int) (big:Bool),μ+k=s2.size∧Has ρ [(0,.string s2),(4,.int .u64 sh),(5,.int .u64 base),(6,.int .u64 v),(7,.bool big),(8,.int .i64 k)]∧((H6 s2).take k).all (fun c=>decide (0≤d5 c.toNat base))=true∧0≤v∧v≤18446744073709551615∧(if big=true then L9<p9 base (H6 s2) 0 else p9 base (H6 s2) 0=p9 base ((H6 s2).drop k) v.toNat)∧Wd Γ S w) s2.size ⟨0,0,false,by omega,⟨rfl,rfl,rfl,rfl,rfl,rfl,trivial⟩,rfl,by omega,by omega,rfl,hw⟩ ?_
 clear hw;rintro μ ρ w ⟨k,v,big,hk,hρ,hall,hv0,hv1,hbig,hw⟩
 rw[hρ.eq];have hmost:(L9:Int)=18446744073709551615:=rfl
 repeat first|refine A5 ?_|refine A6 ?_;intro w hw
 refine A0 rfl (fun h1=>?_) (fun h1=>?_)
 ·have hkn:k<s2.size:=by simpa using h1
  obtain⟨c,hc⟩:=B8 (l:=H6 s2) (k:=k) (by omega)
  have hg:s2.data.toList.getD (k:Int).toNat 0=c:=by
   show (H6 s2).getD k 0=c
   rw[List.getD_eq_getElem?_getD,hc];rfl
  have hmem:c∈H6 s2:=List.mem_of_getElem? hc
  have hr:=CY c.toNat
  repeat first|refine A5 ?_|refine A6 ?_;intro w hw
  rw[hg];refine A0 rfl (fun h2=>?_) (fun h2=>?_)
  ·have hbad:d5 c.toNat base<0:=by
    refine OX (by omega) ?_
    by_cases hn:W8 c.toNat<0
    ·exact .inl hn
    ·rw[O5 (a:=W8 c.toNat) (by omega) (by omega)]at h2
     simp only[Bool.or_eq_true,decide_eq_true_eq]at h2
     exact h2
   have hf:(H6 s2).all (fun c=>decide (0≤d5 c.toNat base))=false:=by
    rw[List.all_eq_false];exact⟨c,hmem,by simp;omega⟩
   repeat first|refine A5 ?_|refine A6 ?_;intro w hw
   exact⟨_,rfl,by unfold R3;rw[if_pos hf];rfl,hw⟩
  have hn:0≤W8 c.toNat∧W8 c.toNat<base:=by
   simp only[Bool.or_eq_false_iff,decide_eq_false_iff_not]at h2
   have h3:=h2.2
   rw[O5 (a:=W8 c.toNat) (by omega) (by omega)]at h3
   omega
  have hd0:=RX hn.1 hn.2
  obtain⟨d,hd⟩:∃d:Nat,W8 c.toNat=(d:Int):=⟨(W8 c.toNat).toNat,by omega⟩
  rw[hd]at hn hd0
  have hval1:p9 base ((H6 s2).drop k) v.toNat=p9 base ((H6 s2).drop (k+1)) (v.toNat*base+d):=by
   rw[drop_at hc];show p9 base _ (v.toNat*base+(d5 c.toNat base).toNat)=_
   rw[hd0];rfl
  have hall2:((H6 s2).take (k+1)).all (fun c=>decide (0≤d5 c.toNat base))=true:=by
   rw[List.take_add_one,hc,List.all_append,hall];simp[hd0]
  have hw1:IntKind.u64.wrap (d:Int)=d:=O5 (by omega) (by omega)
  have hw2:IntKind.u64.wrap (18446744073709551615-(d:Int))=18446744073709551615-d:=O5 (by omega) (by omega)
  have hdiv:(18446744073709551615-(d:Int)).tdiv base=(18446744073709551615-(d:Int)) / base:=Int.tdiv_eq_ediv_of_nonneg (by omega)
  have hq0:0≤(18446744073709551615-(d:Int)) / base:=Int.ediv_nonneg (by omega) (by omega)
  have hq1:(18446744073709551615-(d:Int)) / base≤18446744073709551615-(d:Int):=Int.ediv_le_self _ (by omega)
  have hw3:IntKind.u64.wrap ((18446744073709551615-(d:Int)) / base)=(18446744073709551615-(d:Int)) / base:=O5 hq0 (by omega)
  have hle:v≤(18446744073709551615-(d:Int)) / base↔v*base≤18446744073709551615-d:=Int.le_ediv_iff_mul_le (by omega)
  clear hall hmem;repeat first|refine A5 ?_|refine A6 ?_;intro w hw
  rw[hd,hw1,hw2,hdiv,hw3];refine J6 (fun ρ w=>∃big2:Bool,Has ρ [(0,.string s2),(4,.int .u64 sh),(5,.int .u64 base),(6,.int .u64 v),(7,.bool big2),(8,.int .i64 k),(9,.int .i64 d)]∧(if big2=true then L9<p9 base (H6 s2) 0 else p9 base (H6 s2) 0=p9 base ((H6 s2).drop (k+1)) (v.toNat*base+d)∧v*base≤18446744073709551615-d)∧Wd Γ S w) ?_ ?_
  ·refine A0 rfl (fun h3=>?_) (fun h3=>?_)
   ·have h3:(18446744073709551615-(d:Int)) / base<v:=of_decide_eq_true h3
    repeat first|refine A5 ?_|refine A6 ?_;intro w hw
    refine⟨true,⟨rfl,rfl,rfl,rfl,rfl,rfl,by rw[←hd];rfl,trivial⟩,?_,hw⟩
    rw[if_pos rfl];cases big with
    | true=>exact hbig
    | false=>
     rw[if_neg (by decide)]at hbig
     rw[hbig,hval1];have h4:¬v*base≤18446744073709551615-d:=fun hh=>by have:=hle.2 hh;omega
     have h5:=IA base (by omega) ((H6 s2).drop (k+1)) (v.toNat*base+d)
     have h6:((v.toNat*base+d:Nat):Int)=v*base+d:=by
      push_cast
      rw[Int.toNat_of_nonneg hv0]
     omega
   ·have h3:¬(18446744073709551615-(d:Int)) / base<v:=of_decide_eq_false h3
    repeat first|refine A5 ?_|refine A6 ?_;intro w hw
    refine⟨big,⟨rfl,rfl,rfl,rfl,rfl,rfl,by rw[←hd];rfl,trivial⟩,?_,hw⟩
    cases big with
    | true=>exact hbig
    | false=>
     rw[if_neg (by decide)]at hbig ⊢
     exact⟨hbig.trans hval1,hle.1 (by omega)⟩
  clear hw hρ hbig;rintro ρ w ⟨big2,hρ,hbig,hw⟩
  rw[hρ.eq];repeat first|refine A5 ?_|refine A6 ?_;intro w hw
  have r1:=Li (v*base)
  have r2:=Li (IntKind.u64.wrap (v*base)+d)
  refine⟨μ-1,by omega,k+1,IntKind.u64.wrap (IntKind.u64.wrap (v*base)+d),big2,by omega,⟨rfl,rfl,rfl,by rw[hw1];rfl,rfl,rfl,trivial⟩,hall2,r2.1,r2.2,?_,hw⟩
  cases big2 with
  | true=>exact hbig
  | false=>
   rw[if_neg (by decide)]at hbig ⊢
   have hm0:0≤v*base:=Int.mul_nonneg hv0 (by omega)
   rw[O5 (a:=v*base) hm0 (by omega),O5 (a:=v*base+d) (by omega) (by omega),hbig.1]
   congr 1
   have h6:((v.toNat*base+d:Nat):Int)=v*base+d:=by
    push_cast
    rw[Int.toNat_of_nonneg hv0]
   omega
 have hkn:¬k<s2.size:=by simpa using h1
 rw[List.take_of_length_le (by omega)]at hall
 rw[List.drop_eq_nil_of_le (by omega)]at hbig
 have hcore:R3 base sh (H6 s2)=if L9 >>> sh<p9 base (H6 s2) 0 then (0,6) else (p9 base (H6 s2) 0 <<< sh,0):=by
  unfold R3;rw[if_neg (by rw[hall];simp)]
 rw[hcore];have h6:L9 >>> sh≤L9:=Nat.shiftRight_le _ _
 have key1:(18446744073709551615:Int).fdiv (2 ^ (min (sh:Int).toNat IntKind.u64.bits))=((L9 >>> sh:Nat):Int):=by
  rcases hcase with rfl|rfl|rfl|rfl <;> decide +kernel
 have hmin:min (sh:Int).toNat IntKind.u64.bits=sh:=by
  rcases hcase with rfl|rfl|rfl|rfl <;> rfl
 repeat first|refine A5 ?_|refine A6 ?_;intro w hw
 rw[key1];refine A0 rfl (fun h2=>?_) (fun h2=>?_)
 ·have h3:L9 >>> sh<p9 base (H6 s2) 0:=by
   cases big with
   | true=>rw[if_pos rfl]at hbig;omega
   | false=>
    rw[if_neg (by decide)]at hbig
    have hbig:p9 base (H6 s2) 0=v.toNat:=hbig
    simp only[Bool.false_or,decide_eq_true_eq]at h2
    omega
  repeat first|refine A5 ?_|refine A6 ?_;intro w hw
  exact⟨_,rfl,by rw[if_pos h3];rfl,hw⟩
 ·have hb:big=false∧¬((L9 >>> sh:Nat):Int)<v:=by
   simp only[Bool.or_eq_false_iff,decide_eq_false_iff_not]at h2
   exact h2
  obtain⟨rfl,h2⟩:=hb;rw[if_neg (by decide)]at hbig
  have hbig:p9 base (H6 s2) 0=v.toNat:=hbig
  rw[hbig,if_neg (by omega)]
  have h3:v.toNat*2 ^ sh≤L9:=by
   rw[Nat.shiftRight_eq_div_pow]at h2;exact(Nat.le_div_iff_mul_le (Nat.two_pow_pos sh)).1 (by omega)
  have h4:IntKind.u64.wrap (v*2 ^ (min (sh:Int).toNat IntKind.u64.bits))=((v.toNat <<< sh:Nat):Int):=by
   rw[hmin,Nat.shiftLeft_eq];have e:((v.toNat*2 ^ sh:Nat):Int)=v*2 ^ sh:=by push_cast;rw[Int.toNat_of_nonneg hv0]
   rw[←e];have hmost:L9=18446744073709551615:=rfl
   exact O5 (by omega) (by omega)
  repeat first|refine A5 ?_|refine A6 ?_;intro w hw
  refine⟨_,rfl,?_,hw⟩
  show Ending.returned (.tuple #[.int .u64 (IntKind.u64.wrap (v*2 ^ (min (sh:Int).toNat IntKind.u64.bits))),.int .i64 0])=_
  rw[h4]
end Go.Proofs.YtlmiakjbogojgaaGreatDoor
end
section
open Go Mk
namespace Go.Proofs.YtlmiakjbogojgaaGreatDoor
set_option maxHeartbeats 16000000
attribute [local irreducible] Calls K8
section
variable {Γ:C4}
end
theorem OC(s:ByteArray)(hs:s.size≤9223372036854775807):PC Tryz.prog 255 [.string s] (.bool (y5 s)):=⟨fun w=>by
 refine A4 Tryz.func255 rfl rfl ?_
 repeat first|refine A5 ?_|refine A6 ?_;intro w hw
 refine C1 (fun μ ρ w'=>∃(k:Nat),μ+k=s.size∧Has ρ [(0,.string s),(3,.int .i64 k)]∧(∀i,i<k→W3 (A3 s i)=true)∧w'=w) s.size ⟨0,by omega,⟨rfl,rfl,trivial⟩,fun i hi=>by omega,rfl⟩ ?_
 rintro μ ρ w' ⟨k,hk,hρ,hall,rfl⟩
 rw[hρ.eq];repeat first|refine A5 ?_|refine A6 ?_;intro w hw
 refine A0 rfl (fun h=>?_) (fun h=>?_)
 ·have hkn:k<s.size:=by have:=of_decide_eq_true h;omega
  repeat first|refine A5 ?_|refine A6 ?_;intro w hw
  refine A0 rfl (fun h2=>?_) (fun h2=>?_)
  ·repeat first|refine A5 ?_|refine A6 ?_;intro w hw
   refine⟨_,rfl,F7 rfl ?_,rfl⟩
   have h2':(!W3 (A3 s k))=true:=h2
   rw[JS hkn (by simpa using h2')]
  ·repeat first|refine A5 ?_|refine A6 ?_;intro w hw
   refine⟨μ-1,by omega,k+1,by omega,⟨rfl,rfl,trivial⟩,fun i hi=>?_,rfl⟩
   by_cases e:i=k
   ·subst e;have h2':(!W3 (A3 s i))=false:=h2
    simpa using h2'
   ·exact hall i (by omega)
 ·have hkn:¬k<s.size:=by have:=of_decide_eq_false h;omega
  repeat first|refine A5 ?_|refine A6 ?_;intro w hw
  exact⟨_,rfl,F7 rfl (by rw[Ix fun i hi=>hall i (by omega)]),rfl⟩⟩
theorem NF{Γ:C4}{v:Val}(hv:m0 v):PG Tryz.prog Γ 179 [.agg (enc v).toArray] (.bool (I2 v)):=⟨fun S w hw=>by
 have hP:=OC v.Word hv.2
 have hsz:=hv.2
 obtain⟨k,x,t⟩:=v;dsimp only at hP hsz
 refine A4 Tryz.func179 rfl rfl ?_
 repeat first|refine A5 ?_|refine A6 ?_;intro w hw
 refine J5 ?_;intro b1 w hw;have hw:Wd Γ (.blk b1 (.cells (enc (⟨k,x,t⟩:Val)).toArray 65)::S) w:=hw
 repeat first|refine A5 ?_|refine A6 ?_;intro w hw
 refine A0 rfl (fun h=>?_) (fun h=>?_)
 ·have h:k=1:=of_decide_eq_true h
  repeat first|refine A5 ?_|refine A6 ?_;intro w hw
  refine⟨_,rfl,F7 rfl ?_,hw.drop⟩
  subst h;unfold I2;simp
 have h:¬k=1:=of_decide_eq_false h
 repeat first|refine A5 ?_|refine A6 ?_;intro w hw
 refine A0 rfl (fun h2=>?_) (fun h2=>?_)
 ·have h2:k=2:=of_decide_eq_true h2
  repeat first|refine A5 ?_|refine A6 ?_;intro w hw
  refine⟨_,rfl,F7 rfl ?_,hw.drop⟩
  subst h2;unfold I2 CC;show (((decide (x=0)&&decide (t≠⟨#[]⟩))&&decide ((t.size:Int)≤24))&&y5 t)=(decide ((2:Int)=1)&&decide (t=⟨#[]⟩)||decide ((2:Int)=2)&&decide (x=0)&&(y5 t&&decide (0<t.size)&&decide (t.size≤24)))
  rw[show decide (t≠⟨#[]⟩)=decide (0<t.size) from by simp only[ne_nilB],show decide ((t.size:Int)≤24)=decide (t.size≤24) from decide_eq_decide.2 (by omega),show decide ((2:Int)=1)=false from rfl,show decide ((2:Int)=2)=true from rfl]
  cases y5 t <;> cases decide (0<t.size) <;> cases decide (t.size≤24) <;> cases decide (x=0) <;> rfl
 have h2:¬k=2:=of_decide_eq_false h2
 repeat first|refine A5 ?_|refine A6 ?_;intro w hw
 refine⟨_,rfl,F7 rfl ?_,hw.drop⟩
 unfold I2;simp[h,h2]⟩
end Go.Proofs.YtlmiakjbogojgaaGreatDoor
end
section
open Go Mk
namespace Go.Proofs.YtlmiakjbogojgaaGreatDoor
set_option maxHeartbeats 16000000
attribute [local irreducible] Calls K8
theorem My{p:D4→Bool}{fs:List D4}{j:Nat}{x:D4}(h:fs[j]? = some x):(fs.take (j+1)).filter p=if p x=true then (fs.take j).filter p++[x] else (fs.take j).filter p:=by
 rw[List.take_add_one,h,List.filter_append];show _++[x].filter p=_
 rw[List.filter_cons];split <;> simp
section
variable {Γ:C4}{S:List B5}{w:World}{b:Nat}
end
end Go.Proofs.YtlmiakjbogojgaaGreatDoor
end
section
open Go Mk
namespace Go.Proofs.YtlmiakjbogojgaaGreatDoor
set_option maxHeartbeats 16000000
attribute [local irreducible] Calls K8
section
variable {Γ:C4}{S:List B5}{w:World}
end
end Go.Proofs.YtlmiakjbogojgaaGreatDoor
end
section
open Go Mk
namespace Go.Proofs.YtlmiakjbogojgaaGreatDoor
set_option maxHeartbeats 16000000
attribute [local irreducible] Calls K8
section
variable {Γ:C4}{S:List B5}{w:World}
end
end Go.Proofs.YtlmiakjbogojgaaGreatDoor
end
section
open Go Mk
namespace Go.Proofs.YtlmiakjbogojgaaGreatDoor
set_option maxHeartbeats 16000000
attribute [local irreducible] Calls K8
def NW(r:ByteArray)(m:Int)(x:K3):Bool:=decide (x.1=r)&&decide ((x.2.length:Int)=m)
def Bq(r:ByteArray)(m:Int)(x:D4):Bool:=decide (x.Rel=r)&&decide ((x.N:Int)=m)
def Ni(l:List K3)(r:ByteArray)(m:Int):List K3:=(Df l).filter (NW r m)
theorem SK{Γ:C4}{r:ByteArray}{m:Int}{x:D4}(h:Cf Γ x):Bq r m x=NW r m x.fact:=by
 have:=h.len.1
 unfold Bq NW;rw[this];rfl
theorem Gr{Γ:C4}{r:ByteArray}{m:Int}:∀ {fs:List D4},(∀x∈fs,Cf Γ x)→facts (fs.filter (Bq r m))=(facts fs).filter (NW r m)
 | [],_=>rfl
 | x::fs,h=>by
  have ih:=Gr (r:=r) (m:=m) (fs:=fs) fun y hy=>h y (List.mem_cons_of_mem _ hy)
  show facts ((x::fs).filter (Bq r m))=(x.fact::facts fs).filter (NW r m)
  rw[List.filter_cons,List.filter_cons,SK (h x List.mem_cons_self)];split
  ·show x.fact::facts _=_
   rw[ih]
  ·exact ih
section
variable {Γ:C4}{S:List B5}{w:World}
theorem KZ{v:Value}{r:ByteArray}{m:Int}(fs:List D4)(hok:GA Γ fs)(hl:fs.length≤50000)(hr:D6 Γ v 2 (fs.map cF))(hw:Wd Γ S w) :
  Calls Tryz.prog 78 #[v,.string r,.int .i64 m] w fun e w'=>∃v' gs,e=.returned v'∧facts gs=Ni (facts fs) r m∧EX gs∧Wd Γ (.own v' 80 2 (gs.map cF)::(gs.map Bp++S)) w':=by
 obtain⟨a,n,c,rfl,hn,hnc,hc⟩:=hr.shape;simp only[List.length_map]at hn
 refine A4 Tryz.func78 rfl rfl ?_
 refine A7 ?_;refine C1 (fun μ ρ w=>∃(k:Nat) (g:Value),μ+k=n∧Has ρ [(1,.string r),(2,.int .i64 m),(7,g),(10,.slice a n c),(11,.int .i64 n),(12,.int .i64 k)]∧Wd Γ (.own g 80 2 (((fs.take k).filter (Bq r m)).map cF)::S) w) n ⟨0,.slice none 0 0,by omega,⟨rfl,rfl,rfl,rfl,rfl,rfl,trivial⟩,Wd.addNil hw⟩ ?_
 clear hw;rintro μ ρ w ⟨k,g,hk,hρ,hw⟩
 rw[hρ.eq];refine A7 ?_;refine A0 rfl (fun h=>?_) (fun h=>?_)
 ·have hkn:k<n:=by have:=of_decide_eq_true h;omega
  obtain⟨x,hx⟩:=B8 (l:=fs) (k:=k) (by omega)
  have hxo:=(hok x (List.mem_of_getElem? hx)).1
  have hsucc:=My (p:=Bq r m) hx
  have hfl:=List.length_filter_le (Bq r m) (fs.take k)
  rw[List.length_take]at hfl;refine A7 ?_;refine B7 ?_;intro b9 w hw;refine A9 ?_;intro w hw;have hw:Wd Γ (Ii b9 x::.own g 80 2 (((fs.take k).filter (Bq r m)).map cF)::S) w:=hw
  refine A7 ?_;refine A0 rfl (fun h3=>?_) (fun h3=>?_)
  ·have h3:Bq r m x=true:=h3
   rw[if_pos h3]at hsucc;obtain⟨ag,ng,cg,rfl,hng,hngc,hcg⟩:=hw.own_shape (i:=1) rfl
   simp only[List.length_map]at hng
   refine A7 ?_;refine E4 [cF x] ?_
   intro a29 w hw;refine Bv (i:=2) (rows2:=[cF x]) ?_ (Wd.own_rd (i:=0) hw rfl)
   intro v' w hw;refine A7 ?_;have hw:Wd Γ (.own v' 80 2 (((fs.take k).filter (Bq r m)).map cF++[cF x])::S) w:=hw.ds [0,0]
   rw[show ((fs.take k).filter (Bq r m)).map cF++[cF x]=((fs.take (k+1)).filter (Bq r m)).map cF from by rw[hsucc];simp]at hw
   exact⟨μ-1,by omega,k+1,v',by omega,⟨rfl,rfl,rfl,rfl,rfl,rfl,trivial⟩,hw⟩
  ·have h3:Bq r m x=false:=h3
   rw[if_neg (by rw[h3];decide)]at hsucc
   refine A7 ?_;exact⟨μ-1,by omega,k+1,g,by omega,⟨rfl,rfl,rfl,rfl,rfl,rfl,trivial⟩,by rw[hsucc];exact hw.drop⟩
 ·have hkn:¬k<n:=by have:=of_decide_eq_false h;omega
  rw[List.take_of_length_le (show fs.length≤k by omega)]at hw
  have hfl:=List.length_filter_le (Bq r m) fs
  refine A7 ?_;refine B9 (vs:=[g]) ?_
  refine(Ja (fs.filter (Bq r m)) (fun x hx=>hok x (List.mem_filter.1 hx).1) (by omega) (R8.own (i:=0) hw rfl) hw).mono ?_
  clear hw;rintro e w ⟨v1,gs,rfl,h1,h2,hw⟩
  refine⟨_,rfl,?_⟩;refine A7 ?_;refine⟨_,rfl,v1,gs,rfl,?_,h2,?_⟩
  ·rw[h1,Gr (fun x hx=>(hok x hx).1)];exact Ib BY _ _
  ·have hw:Wd Γ ((.own v1 80 2 (gs.map cF)::gs.map Bp)++(.own g 80 2 ((fs.filter (Bq r m)).map cF)::S)) w:=hw
   exact(hw.perm List.perm_middle).drop
end
end Go.Proofs.YtlmiakjbogojgaaGreatDoor
end
section
open Go Mk
namespace Go.Proofs.YtlmiakjbogojgaaGreatDoor
set_option maxHeartbeats 4000000
structure G8 where
 Var:ByteArray
 Const:Val
 deriving DecidableEq,Inhabited
instance:Jo G8 where
 enc a:=[.string a.Var,.int .i64 a.Const.Kind,.int .i64 a.Const.Num,.string a.Const.Word]
 inj a b h:=by
  obtain⟨v,k,n,x⟩:=a;obtain⟨v',k',n',x'⟩:=b;simp at h
  simp[h]
 ks:=[1,5,5,1]
 kinds a:=rfl
structure F6 where
 Kind:Int
 Rel:ByteArray
 Args:List G8
 Op:Int
 L:G8
 R:G8
 Off:Int
 Low:Int
 High:Int
structure D8 where
 Sel:List ByteArray
 Goals:List F6
structure E6 where
 g:F6
 A:Option Addr
 N:Nat
 C:Nat
def E6.hdr(x:E6):Value:=.slice x.A x.N x.C
def cG(x:E6):List Value:=
 [.int .i64 x.g.Kind,.string x.g.Rel,x.hdr,.int .i64 x.g.Op,.string x.g.L.Var,.int .i64 x.g.L.Const.Kind,.int .i64 x.g.L.Const.Num,.string x.g.L.Const.Word,
  .string x.g.R.Var,.int .i64 x.g.R.Const.Kind,.int .i64 x.g.R.Const.Num,.string x.g.R.Const.Word,.int .i64 x.g.Off,.int .i64 x.g.Low,.int .i64 x.g.High]
def Eu(Γ:C4)(x:E6):Prop:=D6 Γ x.hdr 4 (x.g.Args.map enc)
theorem Eu.mono{Γ Γ':C4}{x:E6}(h:Eu Γ x)(hle:Γ.le Γ'):Eu Γ' x:=D6.mono h hle
theorem Eu.len{Γ:C4}{f:E6}(h:Eu Γ f):f.N=f.g.Args.length∧f.N≤f.C∧f.C≤9223372036854775807:=by
 obtain⟨a,n,c,h1,h2,h3,h4⟩:=D6.shape h
 unfold E6.hdr at h1;cases h1
 exact⟨by simpa using h2,h3,h4⟩
abbrev A1(l:List ByteArray):List (List Value):=l.map fun s=>[.string s]
structure QR(Γ:C4)(vs vg:Value)(gs:List E6)(q:D8):Prop where
 sel:D6 Γ vs 1 (A1 q.Sel)
 goals:D6 Γ vg 15 (gs.map cG)
 eq:gs.map (·.g)=q.Goals
 ok:∀x∈gs,Eu Γ x
theorem QR.mono{Γ Γ':C4}{vs vg:Value}{gs:List E6}{q:D8}(h:QR Γ vs vg gs q)(hle:Γ.le Γ'):QR Γ' vs vg gs q:=
 ⟨h.sel.mono hle,h.goals.mono hle,h.eq,fun x hx=>(h.ok x hx).mono hle⟩
def u5(v:Int):Prop:=-9223372036854775808≤v∧v≤9223372036854775807
def k0(o:G8):Prop:=o.Var.size≤9223372036854775807∧m0 o.Const
structure JP(N:Nat)(g:F6):Prop where
 rel:g.Rel.size≤9223372036854775807
 len:g.Args.length≤N
 args:∀o∈g.Args,k0 o
 l:k0 g.L
 r:k0 g.R
 off:u5 g.Off
 low:u5 g.Low
 high:u5 g.High
abbrev t7:F6→Prop:=JP 1000
structure l8(N:Nat)(q:D8):Prop where
 sel:q.Sel.length≤1000
 names:∀s∈q.Sel,s.size≤9223372036854775807
 len:q.Goals.length≤1000
 goals:∀g∈q.Goals,JP N g
abbrev L0:D8→Prop:=l8 1000
def H8:Val:=⟨0,0,⟨#[]⟩⟩
def Q3:G8:=⟨⟨#[]⟩,H8⟩
def C5:ByteArray:=⟨#[]⟩
def J9:ByteArray:=⟨#[95]⟩
def E3(g:F6):Bool:=decide (g.Kind=1)||decide (g.Kind=2)
def E7(g:F6):List G8:=if g.Kind=1∨g.Kind=2 then g.Args else if g.Kind=3 then [g.L,g.R] else if g.Kind=4 then [g.L] else []
def P9(l:List ByteArray)(s:ByteArray):Bool:=l.any fun t=>decide (t=s)
theorem V1{l:List ByteArray}{s:ByteArray}:P9 l s=true↔s∈l:=by
 unfold P9;rw[List.any_eq_true];exact⟨fun⟨x,hx,he⟩=>by rw[←of_decide_eq_true he];exact hx,fun h=>⟨s,h,decide_eq_true rfl⟩⟩
def addN(l:List ByteArray)(s:ByteArray):List ByteArray:=if P9 l s=true then l else l++[s]
def El(s:ByteArray):Bool:=decide (s≠C5)&&decide (s≠J9)
def Ed(q:D8):List ByteArray:=q.Sel++q.Goals.flatMap fun g=>(E7 g).map (·.Var)
def T5(q:D8):List ByteArray:=((Ed q).filter El).foldl addN []
def Z7(q:D8):Bool:=decide (1≤q.Goals.length)&&decide (q.Goals.length≤16)&&decide (q.Sel.length≤8)&&(q.Goals.all fun g=>!E3 g||(decide (1≤g.Args.length)&&decide (g.Args.length≤8)))&&decide ((T5 q).length≤8)
def J0(g:F6):Bool:=
 if g.Kind=1∨g.Kind=2 then decide (g.Op=0)&&decide (g.L=Q3)&&decide (g.R=Q3)&&decide (g.Off=0)&&decide (g.Low=0)&&decide (g.High=0)
 else if g.Kind=3 then decide (g.Rel=C5)&&decide (g.Args.length=0)&&decide (g.Low=0)&&decide (g.High=0)
 else if g.Kind=4 then decide (g.Rel=C5)&&decide (g.Args.length=0)&&decide (g.Op=0)&&decide (g.R=Q3)&&decide (g.Off=0)&&decide (g.L.Var≠C5)
 else false
def plainO(o:G8):Bool:=decide (o.Var=C5)||decide (o.Const=H8)
def S7(q:D8):Bool:=q.Goals.all fun g=>J0 g&&(E7 g).all plainO
def UB(s:ByteArray):Int:=A3 s 0
def V7(s:ByteArray):Bool:=N8 s&&decide (65≤UB s)&&decide (UB s≤90)
def u3(s:ByteArray):Bool:=decide (s=⟨#[115,101,108,101,99,116]⟩)||decide (s=⟨#[119,104,101,114,101]⟩)||decide (s=⟨#[110,111,116]⟩)||decide (s=⟨#[105,110]⟩)
def BE(g:F6)(o:G8):Bool:=!(decide (o.Var=C5) && !I2 o.Const) && !(decide (o.Var=J9) && !E3 g) && !(decide (o.Var≠C5)&&decide (o.Var≠J9) && !V7 o.Var)
def Z5(g:F6):Bool:=!(E3 g&&(!N8 g.Rel||u3 g.Rel))&&(E7 g).all (BE g)
def O1(q:D8):Bool:=q.Sel.all V7&&q.Goals.all Z5
def Z1(g:F6):Bool:=
 if g.Kind=3 then decide (1≤g.Op)&&decide (g.Op≤6)&&decide (g.Off≠-9223372036854775808)
 else if g.Kind=4 then decide (g.Low≤g.High)&&decide (g.High-g.Low≤1000000) else true
def Ap(q:D8):Bool:=q.Goals.all Z1
def Az(q:D8):List ByteArray:=q.Goals.flatMap fun g=>if g.Kind=1∨g.Kind=4 then (E7 g).map (·.Var) else []
def u1(q:D8):Bool:=(T5 q).all fun s=>P9 (Az q) s
def T8(q:D8):Int:=
 if Z7 q=false then 15 else if S7 q=false then 50 else if O1 q=false then 63 else if Ap q=false then 6 else if ¬q.Sel.Nodup then 56 else if u1 q=false then 62 else 0
abbrev Env:=List (ByteArray×Val)
def Ns(l r off:Int):Int:=cI l (r+off)
def VI(op c:Int):Bool:=if op=1 then decide (c=0) else if op=2 then decide (c≠0) else if op=3 then decide (c<0) else if op=4 then decide (c≤0) else if op=5 then decide (0<c) else decide (0≤c)
def BU(g:F6)(l r:Val):Bool:=
 if g.Off=0∧g.Op=1 then decide (l=r) else if g.Off=0∧g.Op=2 then decide (l≠r)
 else if l.Kind≠1∨r.Kind≠1 then false else VI g.Op (Ns l.Num r.Num g.Off)
def As(e:Env)(s:ByteArray):Val:=(I3 e s).getD H8
def Eb(e:Env)(o:G8):Val:=if o.Var≠C5 then As e o.Var else o.Const
def Ir(e:Env)(o:G8)(v:Val):Bool:=
 if o.Var=J9 then true else if o.Var=C5 then decide (o.Const=v) else match I3 e o.Var with|some u=>decide (u=v)|none=>I2 v
def P3(e:Env):List G8→List Val→Bool
 | o::os,v::vs=>Ir e o v&&P3 e os vs
 | [],_=>true
 | _::_,[]=>false
def Z4(e:Env):List G8→List Val→Option Env
 | o::os,v::vs=>if o.Var=C5∨o.Var=J9 then Z4 e os vs else match I3 e o.Var with
  | some u=>if u=v then Z4 e os vs else none
  | none=>Z4 (e++[(o.Var,v)]) os vs
 | _,_=>some e
def r8(e:Env)(gt:F6×List K3):Bool:=
 if gt.1.Kind=3 then BU gt.1 (Eb e gt.1.L) (Eb e gt.1.R) else if gt.1.Kind=2 then !(gt.2.any fun f=>P3 e gt.1.Args f.2) else true
def Dt(sel:List ByteArray)(e:Env):List Val:=sel.map (As e)
def Ci(all:List (F6×List K3))(sel:List ByteArray)(e:Env):List (List Val):=if all.all (r8 e) then [Dt sel e] else []
def M1(f:Env→List (List Val))(e:Env)(os:List G8)(vs:List Val):List (List Val):=match Z4 e os vs with|some e'=>f e'|none=>[]
def u4(low:Int)(n:Nat):Val:=⟨1,low+n,⟨#[]⟩⟩
def Ee(fin:Env→List (List Val)):List (F6×List K3)→Env→List (List Val)
 | [],e=>fin e
 | (g,t)::r,e=>
  if g.Kind=1 then t.flatMap fun f=>if P3 e g.Args f.2 then M1 (Ee fin r) e g.Args f.2 else []
  else if g.Kind=4 then match I3 e g.L.Var with
   | some v=>if v.Kind=1∧g.Low≤v.Num∧v.Num≤g.High then Ee fin r e else []
   | none=>(List.range (g.High-g.Low+1).toNat).flatMap fun n=>M1 (Ee fin r) e [g.L] [u4 g.Low n]
  else Ee fin r e
def W7(db:List K3)(g:F6):List K3:=if g.Kind=1∨g.Kind=2 then Ni db g.Rel g.Args.length else []
def L6(db:List K3)(q:D8):List (F6×List K3):=q.Goals.map fun g=>(g,W7 db g)
def S3(db:List K3)(g:F6):Nat:=if g.Kind=1 then max (W7 db g).length 1 else if g.Kind=4 then (g.High-g.Low+1).toNat else 1
def Q5(db:List K3)(gs:List F6):Nat:=gs.foldl (fun n g=>n*S3 db g) 1
def Js(db:List K3)(q:D8):List (List Val):=Ee (Ci (L6 db q) q.Sel) (L6 db q) []
def UA(db:List K3)(q:D8):List (List Val):=CU (cL cV) (Js db q)
def x9(db:List K3)(q:D8):Int:=if T8 q≠0 then T8 q else if 1000000<Q5 db q.Goals then 15 else 0
def BK(db:List K3)(q:D8):List (List Val):=if x9 db q=0 then UA db q else []
theorem j6{α β:Type}{f:α→List β}{m:Nat}:∀ {l:List α},(∀x∈l,(f x).length≤m)→(l.flatMap f).length≤l.length*m
 | [],_=>by simp
 | x::l,h=>by
  rw[List.flatMap_cons,List.length_append,List.length_cons,Nat.succ_mul];have h1:=h x (by simp)
  have h2:=j6 (f:=f) (m:=m) (l:=l) fun y hy=>h y (by simp[hy])
  omega
def Qo(gt:F6×List K3):Nat:=if gt.1.Kind=1 then max gt.2.length 1 else if gt.1.Kind=4 then (gt.1.High-gt.1.Low+1).toNat else 1
def Av:List (F6×List K3)→Nat
 | []=>1
 | gt::r=>Qo gt*Av r
theorem Gx{f:Env→List (List Val)}{m:Nat}(h:∀e,(f e).length≤m){e:Env}{os:List G8}{vs:List Val}:(M1 f e os vs).length≤m:=by
 unfold M1;split
 ·exact h _
 ·exact Nat.zero_le _
theorem JF{fin:Env→List (List Val)}(h:∀e,(fin e).length≤1):∀(r:List (F6×List K3)),(∀gt∈r,gt.1.Kind=4→gt.1.Low≤gt.1.High)→∀e,(Ee fin r e).length≤Av r
 | [],_,e=>h e
 | (g,t)::r,hr,e=>by
  have ih:=JF h r fun gt hg=>hr gt (by simp[hg])
  have hp:Av ((g,t)::r)=Qo (g,t)*Av r:=rfl
  rw[hp];unfold Ee Qo;by_cases k1:g.Kind=1
  ·rw[if_pos k1,if_pos (show (g,t).1.Kind=1 from k1)];refine Nat.le_trans (j6 (m:=Av r) fun f _=>?_) (Nat.mul_le_mul_right _ (Nat.le_max_left ..))
   split
   ·exact Gx ih
   ·exact Nat.zero_le _
  rw[if_neg k1,if_neg (show ¬(g,t).1.Kind=1 from k1)];by_cases k4:g.Kind=4
  ·rw[if_pos k4,if_pos (show (g,t).1.Kind=4 from k4)];have hlh:=hr (g,t) (by simp) k4
   split
   ·split
    ·refine Nat.le_trans (ih e) ?_
     have:1≤(g.High-g.Low+1).toNat:=by
      have:g.Low≤g.High:=hlh
      omega
     exact Nat.le_trans (by omega) (Nat.mul_le_mul_right (Av r) this)
    ·exact Nat.zero_le _
   ·have:=j6 (m:=Av r) (f:=fun n=>M1 (Ee fin r) e [g.L] [u4 g.Low n]) (l:=List.range (g.High-g.Low+1).toNat) fun n _=>Gx ih
    rw[List.length_range]at this;exact this
  rw[if_neg k4,if_neg (show ¬(g,t).1.Kind=4 from k4),Nat.one_mul];exact ih e
theorem Fu{db:List K3}:∀(gs:List F6) (n:Nat),gs.foldl (fun n g=>n*S3 db g) n=n*Av (gs.map fun g=>(g,W7 db g))
 | [],n=>by simp[Av]
 | g::gs,n=>by
  rw[List.foldl_cons,Fu gs];show n*S3 db g*_=n*(Qo (g,W7 db g)*Av (gs.map fun g=>(g,W7 db g)))
  rw[Nat.mul_assoc];rfl
theorem Kj{db:List K3}{q:D8}:Q5 db q.Goals=Av (L6 db q):=by
 unfold Q5 L6;rw[Fu,Nat.one_mul]
theorem Qa{all:List (F6×List K3)}{sel:List ByteArray}(e:Env):(Ci all sel e).length≤1:=by
 unfold Ci;split <;> simp
end Go.Proofs.YtlmiakjbogojgaaGreatDoor
end
section
open Go
namespace Mk
attribute [local irreducible] Calls
section
variable {α β:Type}[DecidableEq α]
end
section
variable {P:Program}{n:Nat}{ops:List Oper}{Γ:C4}{K:List B5}{wr tc stab:List (List Nat)}{Q:Fr→World→Prop}{i:Nat}{rest:List Oper}{ρ:Fr}{M:Nat→Fr→List B5}
variable {ty T:TypeId}{pos:String}{es:Array Edge}{x y:Operand}
end
def Ui(Γ:C4)(w:World):C4:=⟨hp w,Γ.os,Γ.tape,Γ.out,Γ.dr⟩
theorem TQ{Γ:C4}{S:List B5}{w:World}(h:Wd Γ S w):Γ.le (Ui Γ w):=⟨h.imm,rfl,rfl,rfl,rfl⟩
theorem TH{Γ:C4}{S:List B5}{w:World}(h:Wd Γ S w):Wd (Ui Γ w) [] w:=⟨h.os,h.tape,h.out,h.dr,fun _ _ h=>h,[],trivial,by simp,by simp⟩
theorem Holds.noimm{m m' h}:∀(R:List B5) (bss:List (List Nat)),(∀r∈R,∀bs,r.holds m bs h→r.holds m' bs h)→Holds m R bss h→Holds m' R bss h
 | [],[],_,_=>trivial
 | r::R,bs::bss,hr,hh=>⟨hr r (by simp) bs hh.1,Holds.noimm R bss (fun r h=>hr r (by simp[h])) hh.2⟩
 | [],_::_,_,hh=>hh.elim
 | _::_,[],_,hh=>hh.elim
theorem Oa{Γ Γ':C4}{S R:List B5}{w w':World}(h:Wd Γ S w)(hle:(Ui Γ w).le Γ')(hR:∀r∈R,∀bs,r.holds Γ'.imm bs (hp w')→r.holds Γ.imm bs (hp w'))(h':Wd Γ' R w'):Wd Γ (R++S) w':=by
 obtain⟨cs,k6,k7,k8⟩:=h'.own;have him:=h.imm
 obtain⟨h1,h2,h3,h4,h5,dss,d6,d7,d8⟩:=h;have hat:∀b∈dss.flatten,∃o,w.heap[b]? = some o:=fun b hbm=>⟨_,Array.getElem?_eq_getElem (d8 b hbm).1⟩
 have hnew:∀b∈cs.flatten,w.heap[b]? = none:=fun b hbm=>by
  cases hq:w.heap[b]? with
  | none=>rfl
  | some o=>have:=hle.imm b o hq;rw[(k8 b hbm).2]at this;cases this
 have hold:∀b∈dss.flatten,b∉cs.flatten:=fun b hbm hbs=>by
  obtain⟨o,ho⟩:=hat b hbm
  rw[hnew b hbs]at ho;cases ho
 have hkeep:∀b∈dss.flatten,w'.heap[b]? = w.heap[b]?:=fun b hbm=>by
  obtain⟨o,ho⟩:=hat b hbm
  rw[ho];exact h'.imm b o (hle.imm b o ho)
 refine⟨h'.os.trans hle.os,h'.tape.trans hle.tape,h'.out.trans hle.out,by have:=h'.dr;rw[hle.dr]at this;exact this,fun b o hb=>h'.imm b o (hle.imm b o (him b o hb)),cs++dss,Holds.append _ _ _ _ (Holds.noimm R cs hR k6) (Holds.loc (fun b o h=>h) S dss hkeep d6),?_,?_⟩
 ·rw[List.flatten_append,List.nodup_append];exact⟨k7,d7,fun a ha b hb' e=>hold b hb' (e ▸ ha)⟩
 ·intro b hbm;rw[List.flatten_append,List.mem_append]at hbm;rcases hbm with hbm|hbm
  ·refine⟨(k8 b hbm).1,?_⟩
   cases hq:Γ.imm b with
   | none=>rfl
   | some o=>have:=him b o hq;rw[hnew b hbm]at this;cases this
  ·obtain⟨o,ho⟩:=hat b hbm
   have:=hkeep b hbm
   rw[ho]at this;exact⟨(Array.getElem?_eq_some_iff.1 this).1,(d8 b hbm).2⟩
theorem EP{α:Type}{f:α→Value}{e sz:Nat}{g:α→List (List Value)}{S:List B5}{w:World}:∀(l:List α) {Γ:C4},Wd Γ (l.map (fun x=>B5.own (f x) e sz (g x))++S) w→∃Γ',Γ.le Γ'∧(∀x∈l,D6 Γ' (f x) sz (g x))∧Wd Γ' S w
 | [],Γ,hw=>⟨Γ,.refl _,by simp,hw⟩
 | x::l,Γ,hw=>by
  obtain⟨Γ1,h1,h2,hw⟩:=Wd.freeze (S:=l.map (fun x=>B5.own (f x) e sz (g x))++S) hw
  obtain⟨Γ2,h3,h4,hw⟩:=EP l hw
  refine⟨Γ2,h1.trans h3,fun y hy=>?_,hw⟩
  rcases List.mem_cons.1 hy with rfl|hy
  ·exact h2.mono h3
  ·exact h4 y hy
end Mk
end
section
open Go
namespace Mk
section
variable {P:Program}{Γ:C4}{S:List B5}{w:World}{E n c g i:Nat}{α:Type}[Inhabited α]{f:α→Value}
theorem HK(d:Array α):Go.Sort.flatK (fun x=>[f x]) 1 d=d.map f:=by
 refine Array.ext (by simp) fun i h1 h2=>?_
 have h3:i<d.size*1:=by simpa using h1
 rw[←getElem!_pos _ i h1,Go.Sort.get_flatK _ _ _ _ h3];have h4:i<d.size:=by omega
 have e1:i / 1=i:=Nat.div_one i
 have e2:i%1=0:=Nat.mod_one i
 rw[e1,e2,getElem!_pos d i h4];simp
theorem DW(w:World)(g m:Nat)(dk:Array α)(os:Array Obj):Go.Proofs.sortWorld f w g 0 m dk os=Go.Proofs.sortWorldK (fun x=>[f x]) 1 w g 0 m dk os:=by
 unfold Go.Proofs.sortWorld Go.Proofs.sortWorldK Go.Sort.putRowK Go.Sort.putRow;congr 2
 funext cs
 refine Array.ext (by simp[Go.Sort.putCells]) fun i h1 h2=>?_
 simp only[Go.Sort.putCells,Array.getElem_mapIdx,HK,Array.size_map,Nat.zero_le,Nat.zero_add,true_and,Nat.sub_zero,id]
 by_cases h:i<dk.size
 ·rw[if_pos h,if_pos h,getElem!_pos dk i h,getElem!_pos (dk.map f) i (by simpa using h)];simp
 ·rw[if_neg h,if_neg h]
end
attribute [local irreducible] Calls
section
variable {P:Program}{n:Nat}{ops:List Oper}{Γ:C4}{K:List B5}{wr tc stab:List (List Nat)}{Q:Fr→World→Prop}{i:Nat}{rest:List Oper}{ρ:Fr}{M:Nat→Fr→List B5}
variable {d:Option Tmp}{ty:TypeId}{pos:String}{es:Array Edge}{f:Nat}{args:List Operand}{tys:Array TypeId}{vs:List Value}{v:Value}
variable {x y:Operand}{T:TypeId}
end
theorem Kf{α:Type}{l l':List α}(h:∀(_:DecidableEq α) (a:α),l.count a=l'.count a):l.Perm l':=by
 classical
 exact List.perm_iff_count.2 fun a=>h _ a
theorem L2{l l':List B5}(h:∀(_:DecidableEq B5) (a:B5),l.count a=l'.count a:=by intro _ a;simp only[VB,Oe,List.getElem?_cons_zero,List.getElem?_cons_succ,List.eraseIdx_cons_succ,List.eraseIdx_cons_zero,List.cons_append,List.nil_append,List.count_append,List.count_cons,List.count_nil,List.map_cons,List.map_nil,Nat.add_zero,Nat.zero_add];ac_rfl):l.Perm l':=Kf h
end Mk
end
section
open Go
namespace Mk
theorem G3.u{want:Bool}:G3 undef want false:=by unfold G3;rfl
section
variable {P:Program}{n:Nat}{ops:List Oper}{Γ:C4}{K:List B5}{Q:Fr→World→Prop}{ρ:Fr}{rest:List Oper}{wr tc stab:List (List Nat)}{i:Nat}{M:Nat→Fr→List B5}
variable {ty:TypeId}{pos:String}{es:Array Edge}
end
section
variable {P:Program}{ρ:Fr}{w:World}{d:Option Tmp}{T U ty:TypeId}{pos:String}{es:Array Edge}{x y:Operand}{g:Option (Nat×Bool)}
end
attribute [local irreducible] Calls
section
variable {P:Program}{n:Nat}{ops:List Oper}{Γ:C4}{K:List B5}{wr tc stab:List (List Nat)}{Q:Fr→World→Prop}{i:Nat}{rest:List Oper}{ρ:Fr}{M:Nat→Fr→List B5}
variable {d:Option Tmp}{ty:TypeId}{pos:String}{es:Array Edge}{f:Nat}{args:List Operand}{tys:Array TypeId}{v:Value}
end
def OM(E sz:Nat)(L:List (Value×List (List Value))):List B5:=L.map fun p=>B5.own p.1 E sz p.2
section
variable {Γ:C4}{S:List B5}{w:World}{E sz k:Nat}{L:List (Value×List (List Value))}{p q:Value×List (List Value)}
end
section
variable {P:Program}{n:Nat}{ops:List Oper}{Γ:C4}{K:List B5}{wr tc stab:List (List Nat)}{Q:Fr→World→Prop}{i:Nat}{rest:List Oper}{ρ:Fr}{M:Nat→Fr→List B5}{T:Type}
variable {ty:TypeId}{pos:String}{es:Array Edge}
abbrev EN:=Option Addr×Nat×Nat
def Ef(t:EN):Value:=.slice t.1 t.2.1 t.2.2
end
abbrev Gp(P:Program)(n:Nat)(ops:List Oper)(Γ:C4)(K:List B5)(wr tc stab:List (List Nat)):R6:=⟨P,n,ops,Γ,K,wr,tc,stab,false⟩
section
variable {P:Program}{n:Nat}{ops:List Oper}{Γ:C4}{K X:List B5}{wr tc stab:List (List Nat)}{N:List Nat}{Q:Fr→World→Prop}{i:Nat}{rest:List Oper}{ρ:Fr}{w:World}{M:Nat→Fr→List B5}{v:Value}{T T':Type}{o:Oper}
theorem Ql{id:Nat}{l:List Oper}{QQ:Exit→Fr→World→Prop}(K X:List B5)(N:List Nat)(wr:List (List Nat))(hw:Wd Γ (K++X) w)
  (h:MSw (Gp P n l Γ K wr wr [N]) (fun ρ w=>QQ .normal ρ w) 0 l ⟨ρ,fun _=>P7 (T:=Unit) (fun _ _=>True) (fun _=>X)⟩)
  (hm:P.follows .mixedOrders=true:=by kernel_rfl) (hk:O8 n l wr wr [N]=true:=by kernel_rfl):W P n (.region id l.toArray true) QQ ρ w:=
 Qb K (fun _=>P7 (T:=Unit) (fun _ _=>True) (fun _=>X)) wr wr [N] false hm hk (by
  have e:cellsOf (Gp P n l Γ K wr wr [N]) (List.range [N].length) (fun _=>P7 (T:=Unit) (fun _ _=>True) (fun _=>X)) ρ=P7 (T:=Unit) (fun _ _=>True) (fun _=>X) (F3 N ρ D5):=by
   show _++[]=_
   rw[List.append_nil];rfl
  show Wd Γ (K++cellsOf (Gp P n l Γ K wr wr [N]) (List.range [N].length) (fun _=>P7 (T:=Unit) (fun _ _=>True) (fun _=>X)) ρ) w
  rw[e];have h1:Wd Γ (X++K) w:=hw.perm List.perm_append_comm
  have h2:=Wd.closeEx (α:={t:Unit // True}) (X:=fun _=>X) ⟨(),trivial⟩ h1
  exact(h2.perm (List.perm_append_singleton _ K).symm:_)) h
theorem gY(h:MSw (Gp P n ops Γ K wr tc stab) Q (i+1) rest ⟨C9 ρ o.dst v,M⟩)(hw0:wr.getD i []=[]:=by exact rfl)(hg:o.guard=none:=by exact rfl)(ho:CL tc stab i o.dst=true:=by exact rfl)
  (hy:∀Γ' Y w g,Γ.le Γ'→Wd Γ' (K++(E9 tc stab i M g++Y)) w→Yields P o (F3 stab.flatten g ρ) w v:=by (intro Γ' Y w g hle hw;exact Kd)):MSw (Gp P n ops Γ K wr tc stab) Q i (o::rest) ⟨ρ,M⟩:=by
 have hn:∀c,Mt.nxt (Gp P n ops Γ K wr tc stab) i ⟨ρ,M⟩ c=M:=fun c=>by
  funext x;simp only[Mt.nxt,R6.w,hw0];rfl
 refine⟨⟨v,M⟩,⟨fun Γ' Y w g hr hw=>?_⟩,?_⟩
 ·have hle:Γ.le Γ':=hr
  rw[hn];refine⟨fun _=>(hy Γ' Y w g hle hw).step ⟨Γ',C4.le.refl _,?_,fun _=>rfl⟩,fun hf=>?_⟩
  ·have:=Cu (g:=g) (v:=v) ho M
   show Wd Γ' (K++(E9 tc stab i M (C9 g o.dst v)++Y)) w
   rw[this];exact hw
  ·rw[O9 hg]at hf;cases hf
 ·simp only[Mt.next,hn];exact h
theorem gM{x:Nat}(m:Fr→List B5)(hs:∀Γ' Y w g,Γ.le Γ'→Wd Γ' (K++(E9 tc stab i M g++Y)) w→Step P o (F3 stab.flatten g ρ) w fun u w'=>∃Γ'',Γ'.le Γ''∧Wd Γ'' (K++(E9 tc stab i (M0 M x m) (C9 g o.dst u)++Y)) w'∧(U7 stab o.dst=false→u=v))
  (h:MSw (Gp P n ops Γ K wr tc stab) Q (i+1) rest ⟨C9 ρ o.dst v,M0 M x m⟩) (hw0:wr.getD i []=[x]:=by exact rfl) (hg:o.guard=none:=by exact rfl):MSw (Gp P n ops Γ K wr tc stab) Q i (o::rest) ⟨ρ,M⟩:=by
 have hn:Mt.nxt (Gp P n ops Γ K wr tc stab) i ⟨ρ,M⟩ ⟨v,fun _=>m⟩=M0 M x m:=by
  funext y;simp only[Mt.nxt,R6.w,hw0];rfl
 refine⟨⟨v,fun _=>m⟩,⟨fun Γ' Y w g hr hw=>?_⟩,?_⟩
 ·have hle:Γ.le Γ':=hr
  rw[hn];refine⟨fun _=>(hs Γ' Y w g hle hw).mono fun u w' ⟨Γ'',h0,h1,h2⟩=>⟨Γ'',h0,h1,h2⟩,fun hf=>?_⟩
  rw[O9 hg]at hf;cases hf
 ·simp only[Mt.next,hn];exact h
theorem Tn{φ:T→Fr→Prop}{R:T→List B5}{o:Oper}(φ':T'→Fr→Prop)(R':T'→List B5)
  (hs:∀Γ' t g w Y,Γ.le Γ'→φ t (F3 N g D5)→Wd Γ' (R t++(K++Y)) w→Step P o (F3 N g ρ) w fun u w'=>∃Γ'' t',Γ'.le Γ''∧φ' t' (F3 N (C9 g o.dst u) D5)∧(U7 [N] o.dst=false→u=v)∧Wd Γ'' (R' t'++(K++Y)) w')
  (h:MSw (Gp P n ops Γ K wr wr [N]) Q (i+1) rest ⟨C9 ρ o.dst v,M0 M 0 (P7 φ' R')⟩) (hM:M 0=P7 φ R:=by first|exact B6|exact rfl) (hw0:wr.getD i []=[0]:=by exact rfl) (hg:o.guard=none:=by exact rfl) :
  MSw (Gp P n ops Γ K wr wr [N]) Q i (o::rest) ⟨ρ,M⟩:=by
 refine gM _ (fun Γ' Y w g hle hw=>?_) h hw0 hg
 have e:E9 wr [N] i M g=P7 φ R (F3 N g D5):=by
  rw[l5 hw0,hM];rfl
 rw[e]at hw;have e0:([N].flatten:List Nat)=N:=by simp
 rw[e0];obtain⟨⟨t,ht⟩,hw1⟩:=(Wd.mid hw).openEx
 refine(hs Γ' t g w Y hle ht hw1).mono ?_
 rintro u w' ⟨Γ'',t',h0,h1,h2,h3⟩
 refine⟨Γ'',h0,?_,h2⟩
 have e2:E9 wr [N] i (M0 M 0 (P7 φ' R')) (C9 g o.dst u)=P7 φ' R' (F3 N (C9 g o.dst u) D5):=by
  rw[l5 hw0,B6];rfl
 rw[e2];exact Wd.unmid (Wd.closeEx (X:=fun p:{t:T' // φ' t (F3 N (C9 g o.dst u) D5)}=>R' p.1) ⟨t',h1⟩ h3)
theorem Pj{φ:T→Fr→Prop}{R:T→List B5}{f:Nat}{d:Option Tmp}{ty:TypeId}{pos:String}{es:Array Edge}{args:List Operand}{tys:Array TypeId}[C3 P f](φ':T'→Fr→Prop)(R':T'→List B5)(vs:T→Fr→List Value)
  (hs:∀Γ' t g w Y,Γ.le Γ'→φ t (F3 N g D5)→Wd Γ' (R t++(K++Y)) w→Calls P f (vs t (F3 N g D5)).toArray w fun e w'=>∃u,e=.returned u∧∃Γ'' t',Γ'.le Γ''∧φ' t' (F3 N (C9 g d u) D5)∧(U7 [N] d=false→u=v)∧Wd Γ'' (R' t'++(K++Y)) w')
  (h:MSw (Gp P n ops Γ K wr wr [N]) Q (i+1) rest ⟨C9 ρ d v,M0 M 0 (P7 φ' R')⟩) (ha:∀t g,φ t (F3 N g D5)→EvL (F3 N g ρ) args (vs t (F3 N g D5)):=by (intro t g ht;exact u6)) (hM:M 0=P7 φ R:=by first|exact B6|exact rfl) (hw0:wr.getD i []=[0]:=by exact rfl) :
  MSw (Gp P n ops Γ K wr wr [N]) Q i (⟨d,.call { callee:=.value (.func f),args:=args.toArray,argTypes:=tys },ty,pos,es,none⟩::rest) ⟨ρ,M⟩:=
 Tn φ' R' (fun Γ' t g w Y hle ht hw=>Ak (ha t g ht).eqA (hs Γ' t g w Y hle ht hw)) h hM hw0 rfl
theorem Ty{φ:T→Fr→Prop}{R:T→List B5}(h:∀Γ' t w g,Γ.le Γ'→φ t (F3 N g D5)→Wd Γ' (R t++K) w→Q (F3 N g ρ) w)(hM:M 0=P7 φ R:=by first|exact B6|exact rfl):MSw (Gp P n ops Γ K wr tc [N]) Q i [] ⟨ρ,M⟩:=fun Γ' w g hr hw=>by
 have hle:Γ.le Γ':=hr
 have e:((List.range [N].length).flatMap fun x=>M x (F3 ([N].getD x []) g D5))=P7 φ R (F3 N g D5):=by
  show M 0 _++[]=_
  rw[List.append_nil,hM];rfl
 have hw:Wd Γ' (K++((List.range [N].length).flatMap fun x=>M x (F3 ([N].getD x []) g D5))) w:=hw
 rw[e]at hw;show Q (F3 ([N].flatten) g ρ) w
 have e0:([N].flatten:List Nat)=N:=by simp
 rw[e0];obtain⟨⟨t,ht⟩,hw1⟩:=(Wd.mid (Y:=[]) hw).openEx
 exact h Γ' t w g hle ht (by simpa using hw1)
end
section
variable {P:Program}{n:Nat}{ops:List Oper}{Γ:C4}{K:List B5}{wr tc stab:List (List Nat)}{Q:Fr→World→Prop}{i:Nat}{rest:List Oper}{ρ:Fr}{M:Nat→Fr→List B5}
variable {d:Option Tmp}{op:Op}{ty:TypeId}{pos:String}{es:Array Edge}{j dj:Nat}{want:Bool}
theorem o9(h:MSw (Gp P n ops Γ K wr tc stab) Q i (⟨d,op,ty,pos,es,none⟩::rest) ⟨ρ,M⟩)(hj:(ops[j]?).bind (·.dst)=some dj:=by exact rfl)(hv:∀g,(Dd (F3 stab.flatten g ρ dj) == some want)=true:=by intro g;exact rfl) :
  MSw (Gp P n ops Γ K wr tc stab) Q i (⟨d,op,ty,pos,es,some (j,want)⟩::rest) ⟨ρ,M⟩:=by
 obtain⟨c,hg,hr⟩:=h;refine⟨c,⟨fun Γ' Y w g hrl hw=>⟨fun _=>?_,fun hf=>?_⟩⟩,hr⟩
 ·have h0:=(hg.run Γ' Y w g hrl hw).1 (O9 rfl)
  unfold Step execOp at h0 ⊢
  exact h0
 have h1:=hv g
 have h2:R4 ops (⟨d,op,ty,pos,es,some (j,want)⟩:Oper) (F3 stab.flatten g ρ)=true:=by
  simp only[R4,hj]
  exact h1
 have hf:R4 ops (⟨d,op,ty,pos,es,some (j,want)⟩:Oper) (F3 stab.flatten g ρ)=false:=hf
 rw[h2]at hf;cases hf
end
section
variable {P:Program}{n:Nat}{ops:List Oper}{Γ:C4}{K:List B5}{wr tc stab:List (List Nat)}{Q:Fr→World→Prop}{i:Nat}{rest:List Oper}{ρ:Fr}{M:Nat→Fr→List B5}{v:Value}{o:Oper}
theorem gC(hy:∀Γ' Y w g,Γ.le Γ'→Wd Γ' (K++(E9 tc stab i M g++Y)) w→Step P o (F3 stab.flatten g ρ) w fun u w'=>u=v∧Wd Γ' (K++(E9 tc stab i M g++Y)) w')(hw0:wr.getD i []=[])(hg:o.guard=none)(ho:CL tc stab i o.dst=true)
  (h:MSw (Gp P n ops Γ K wr tc stab) Q (i+1) rest ⟨C9 ρ o.dst v,M⟩):MSw (Gp P n ops Γ K wr tc stab) Q i (o::rest) ⟨ρ,M⟩:=by
 have hn:∀c,Mt.nxt (Gp P n ops Γ K wr tc stab) i ⟨ρ,M⟩ c=M:=fun c=>by
  funext x;simp only[Mt.nxt,R6.w,hw0];rfl
 refine⟨⟨v,M⟩,⟨fun Γ' Y w g hr hw=>?_⟩,?_⟩
 ·have hle:Γ.le Γ':=hr
  rw[hn];refine⟨fun _=>(hy Γ' Y w g hle hw).mono fun u w' ⟨h1,h2⟩=>⟨Γ',C4.le.refl _,?_,fun _=>h1⟩,fun hf=>?_⟩
  ·have:=Cu (g:=g) (v:=u) ho M
   show Wd Γ' (K++(E9 tc stab i M (C9 g o.dst u)++Y)) w'
   rw[this];exact h2
  ·rw[O9 hg]at hf;cases hf
 ·simp only[Mt.next,hn];exact h
end
end Mk
end
section
open Go
namespace Mk
section
variable {P:Program}{Γ:C4}{S:List B5}{w:World}{E n c g i:Nat}{α:Type}[Inhabited α]{f:α→Value}
theorem Kz{ρ:Go.Shelf.Ren}(L:Go.Proofs.SlLaysF.n6 P ρ)(hf1:∀x,(f x).oneCell'=true)(cf:α→α→Int)(fn:Nat)(cap:List Value)[C3 P fn](xs:List α)(v:Value)(hw:Wd Γ S w)(hi:S[i]? = some (.own v E 1 (xs.map fun x=>[f x])))
  (hO:Go.Sort.SWO (Go.Proofs.ltOf cf)) (hlen:xs.length<4611686018427387904)
  (hcmp:∀(dk:List α) w',Wd Γ (S.set i (.own v E 1 (dk.map fun x=>[f x]))) w'→∀x y,Calls P fn (#[f x,f y]++cap.toArray) w' fun e w''=>e=.returned (.int .i64 (cf x y))∧∃S'',Wd (IH w') S'' w'') :
  Calls P (ρ.f 6) #[v,.func (.func fn) #[] cap.toArray] w fun e w'=>e=.returned (.tuple #[])∧∃ys:List α,ys.Perm xs∧(ys.Pairwise fun a b=>Go.Proofs.ltOf cf b a=false)∧Wd Γ (S.set i (.own v E 1 (ys.map fun x=>[f x]))) w':=by
 obtain⟨a,n,c,rfl,e2,e3,e4,e5⟩:=Dn hw hi
 have hn:n=xs.length:=by simpa using e2
 by_cases h0:n=0
 ·have hx:xs=[]:=List.eq_nil_of_length_eq_zero (by omega)
  subst h0;refine(Go.Proofs.AnyF.slices_SortFunc_none (P:=P) (ρ:=ρ) { L with } a c _ w).mono ?_
  rintro e w' ⟨he,rfl⟩
  refine⟨he,[],by rw[hx],List.Pairwise.nil,?_⟩
  rw[hx]at hi;have hset:S.set i (.own (.slice a 0 c) E 1 (([]:List α).map fun x=>[f x]))=S:=by
   obtain⟨hil,hie⟩:=List.getElem?_eq_some_iff.1 hi
   rw[←hie];exact List.set_getElem_self hil
  rw[hset];exact hw
 ·have hc:0<c:=by omega
  rcases e5 with e5|⟨g,cur,rfl,hg,hcur,hcs,htk⟩
  ·omega
  obtain⟨hH,hgl⟩:=FV (enc:=fun x:α=>[f x]) (k:=1) (fun _=>rfl) hw hi hc
  have hH1:Go.Sort.Holds f w g 0 xs.toArray:=fun j hj=>by
   have:=hH j (by simpa using hj)
   rw[HK]at this;have hj:j<xs.length:=by simpa using hj
   simpa[hj] using this
  have:=Go.Proofs.Any.slices_SortFunc L f hf1 cf hO fn cap.toArray g 0 c xs.toArray w (fun args w=>Q2 args) (fun m os dk hdk x y=>?_) hH1 hgl (by simpa using hlen)
  ·simp only[List.size_toArray]at this
   rw[←hn]at this;refine this.mono ?_
   rintro e w' ⟨he,d',n',os,hp,hs,rfl⟩
   have hd:d'.size=xs.length:=by have:=hp.1;simpa using this
   refine⟨he,d'.toList,by simpa using Ea (d:=xs.toArray) (by simpa[←hn] using hp),Bz (m:=n) (by omega) hs,?_⟩
   rw[DW];exact g9 (enc:=fun x:α=>[f x]) (k:=1) (fun _=>rfl) hw hi hc d' hd n' os
  ·have hw1:=g9 (enc:=fun x:α=>[f x]) (k:=1) (fun _=>rfl) hw hi hc dk (by simpa using hdk) m os
   rw[←DW]at hw1;refine(hcmp dk.toList _ hw1 x y).mono ?_
   rintro e w'' ⟨he,S'',hw2⟩
   exact⟨he,HN hw2⟩
end
def Sk(id:Nat)(Q:List Deferred→Exit→Fr→World→Prop):List Deferred→Exit→Fr→World→Prop:=fun D=>KI id (Q D)
section
variable {P:Program}{n:Nat}{Q:List Deferred→Exit→Fr→World→Prop}{D:List Deferred}{ρ:Fr}{w:World}
theorem Rl(h:Q D .normal ρ w):WX P n .skip Q D ρ w:=fun a hd hs hf=>wp_skip ⟨hs,by rw[hd,hf];exact h⟩
theorem Rr{id:Nat}(h:Q D (.exit id) ρ w):WX P n (.exit id) Q D ρ w:=fun a hd hs hf=>wp_exit ⟨hs,by rw[hd,hf];exact h⟩
theorem Qd{id:Nat}{c:Code}(h:WX P n c (Sk id Q) D ρ w):WX P n (.block id c) Q D ρ w:=fun a hd hs hf=>
 wp_block (Code.wp_mono (fun e a w ⟨q,r⟩=>by
  cases e <;> first|exact⟨q,r⟩|(simp only[Sk,KI]at r;simp only[Exit.inBlock];split <;> rename_i h <;> simp only[h,if_true,if_false]at r <;> exact⟨q,r⟩)) (h a hd hs hf))
theorem Rz{c:Code}(I:Nat→Fr→World→Prop)(m₀:Nat)(h0:I m₀ ρ w)
  (round:∀m ρ w,I m ρ w→WX P n c (Si (fun D' ρ' w'=>D'=D∧∃m'<m,I m' ρ' w') Q) D ρ w):WX P n (.loop c) Q D ρ w:=fun a hd hs hf=>
 wp_loop_ghost (fun m a w=>a.defers=D∧a.tmps.size=n∧I m (D9 a) w) m₀ ⟨hd,hs,hf ▸ h0⟩ fun m a w ⟨p,q,r⟩=>
  Code.wp_mono (fun e a w ⟨q,r⟩=>by
   cases e <;> first|exact⟨q,r⟩|(obtain⟨hD,m',h1,h2⟩:=r;exact⟨m',h1,hD,q,h2⟩)) (round m _ w r a p q rfl)
theorem AD{p G:Prop}(h:G)(e:G→p:=by intro h;first|exact S2 h|exact Qd h|exact e7 h|exact Rl h|exact Kn h|exact Rr h):p:=e h
end
section
variable {P:Program}
attribute [local semireducible] W
theorem IV{f:FuncId}{fn:Func}{c:Code}{args:Array Value}{u:FrameMode}{w:World}{R:Ending→World→Prop}(hf:P.funcs[f]? = some fn)(hb:fn.body=some c)
  (hn:Nat.ble args.size fn.ntmps=true) (h:W P fn.ntmps c (TU fn.results R) (V3 args) w):CallsD P f args u w fun e u' w'=>u'=u∧R e w':=by
 have hle:args.size≤fn.ntmps:=Nat.le_of_ble_eq_true hn
 refine callsD_of_wp hf hb (Code.wp_mono ?_ (h _ rfl (by simp;omega) (Kb hn)))
 rintro e a w ⟨hd,hs,hq⟩
 cases e with
 | normal=>obtain⟨v,hv,hR⟩:=hq;exact⟨hd,v,N4 hv,hR⟩
 | ret=>obtain⟨v,hv,hR⟩:=hq;exact⟨hd,v,N4 hv,hR⟩
 | panic ch=>exact⟨hd,hq⟩
 | outgrown=>exact hq
 | exit id=>exact hq.elim
 | goto l=>exact hq.elim
theorem LO{fn:Func}{tmps:Array Value}{R:Ending→World→Prop}{f:Nat}{fst cap:Array Value}{w:World}[C3 P f](h:CallsD P f (fst++cap) .returning w fun e u' w'=>u'=.returning∧(∃v,e=.returned v)∧∃v,(results fn tmps).run P w'=.ok v w'∧R (.returned v) w') :
  Leaves P fn tmps R [⟨.fn (.func f) cap,fst⟩] .returning w:=
 leaves_cons (by intro h;cases h) (Q2 _) (h.mono fun e u' w' ⟨h1,⟨v,h2⟩,h3⟩=>by subst h1;subst h2;exact h3)
end
end Mk
end
section
open Go Mk
namespace Go.Proofs.YtlmiakjbogojgaaGreatDoor
set_option maxHeartbeats 16000000
attribute [local irreducible] Calls cI cB
theorem Ip{s:ByteArray}(h:s.size≤9223372036854775807):SB s:=⟨by omega⟩
instance SX(s:ByteArray):PC Tryz.prog 161 [.string s] (.bool (u3 s)):=⟨fun w=>by
 refine A4 Tryz.func161 rfl rfl ?_
 refine A7 ?_;exact⟨_,rfl,rfl,rfl⟩⟩
theorem AA{s:ByteArray}(h:s.size≤9223372036854775807):PC Tryz.prog 169 [.string s] (.bool (V7 s)):=⟨fun w=>by
 haveI:=Ip h
 have hs0:N8 s=true→0<s.size:=fun hn=>by
  unfold N8 u7 at hn;simp only[Bool.and_eq_true,decide_eq_true_eq]at hn
  exact hn.1.1.1
 refine A4 Tryz.func169 rfl rfl ?_
 refine A7 ?_;refine lG ?_ (hv:=fun hc=>by exact AX B1 B1 (by omega) (by have:=hs0 hc;omega))
 refine A7 ?_;refine lG ?_ (hv:=fun hc=>by exact AX B1 B1 (by omega) (by have:=hs0 (H4 hc);omega))
 refine A7 ?_;exact⟨_,rfl,rfl,rfl⟩⟩
instance Tu(Γ:C4)(x:E6):PG Tryz.prog Γ 77 [.agg (cG x).toArray] (.bool (E3 x.g)):=⟨fun S w hw=>by
 refine A4 Tryz.func77 rfl rfl ?_
 refine A7 ?_;refine J5 ?_;intro b1 w hw;have hw:Wd Γ (.blk b1 (.cells (cG x).toArray 77)::S) w:=hw
 refine A7 ?_;exact⟨_,rfl,rfl,hw.drop⟩⟩
instance Qg(Γ:C4)(a b:Val):PG Tryz.prog Γ 152 [.agg (enc a).toArray,.agg (enc b).toArray] (.int .i64 (cV a b)):=⟨fun S w hw=>by
 refine A4 Tryz.func152 rfl rfl ?_
 refine A7 ?_;refine J5 ?_;intro b1 w hw;refine J5 ?_;intro b2 w hw;have hw:Wd Γ (.blk b2 (.cells (enc b).toArray 65)::.blk b1 (.cells (enc a).toArray 65)::S) w:=hw
 refine A7 ?_;refine p8 [.blk b2 _,.blk b1 _] S [20] [[],[],[],[],[],[],[],[],[],[],[],[],[],[],[],[0],[0],[]] hw ?_
 refine W9 ?_;refine V9 (v:=undef) (T':=Value) (fun t g=>g 20=t) (fun t=>.own t 3 1 ([cI a.Kind b.Kind,cI a.Num b.Num,cB a.Word b.Word].map fun x=>[.int .i64 x])::S) (fun t g w Y _ hw=>S8 (rws:=[cI a.Kind b.Kind,cI a.Num b.Num,cB a.Word b.Word].map fun x=>[.int .i64 x]) hw rfl rfl rfl (by simp) (by decide) fun q w' hw'=>⟨_,rfl,(fun h=>by cases h),hw'⟩) ?_
 refine FS (φ:=fun (t:Value) g=>g 20=t) (v:=.int .i64 (cV a b)) (T':=Value) (fun _ _=>True) (fun t=>.own t 3 1 ([cI a.Kind b.Kind,cI a.Num b.Num,cB a.Word b.Word].map fun x=>[.int .i64 x])::S) (fun t _=>[t]) (fun t g w Y ht hw=>?_) ?_ (ha:=fun t g ht=>EvL.cons ht EvL.nil)
 ·refine(Kx _ hw (R8.own (i:=0) hw rfl)).mono ?_
  rintro e w ⟨rfl,hw⟩
  refine⟨_,rfl,t,trivial,fun _=>?_,hw⟩
  unfold cV KA KA KA KA;rw[QJ]
 refine W9 ?_;refine Al fun t w g _ hw=>?_
 refine A7 ?_;exact⟨_,rfl,rfl,hw.drop.left⟩⟩
theorem Gg{Γ:C4}{q:Nat}[C3 Tryz.prog q](hq:∀a b:Val,PG Tryz.prog Γ q [.agg (enc a).toArray,.agg (enc b).toArray] (.int .i64 (cV a b))){va vb:Value}{xs ys:List Val}(ha:D6 Γ va 3 (xs.map enc))(hb:D6 Γ vb 3 (ys.map enc)) :
  PG Tryz.prog Γ 142 [va,vb,.func (.func q) #[] #[]] (.int .i64 (cL cV xs ys)):=⟨fun S w hw=>by
 obtain⟨a,n,c,rfl,hn,hnc,hc⟩:=ha.shape;obtain⟨a2,n2,c2,rfl,hn2,hnc2,hc2⟩:=hb.shape;simp only[List.length_map]at hn hn2
 refine A4 Tryz.func142 rfl rfl ?_
 refine A7 ?_;refine C1 (fun μ ρ w=>∃(k:Nat),μ+k=n∧Has ρ [(0,.slice a n c),(1,.slice a2 n2 c2),(2,.func (.func q) #[] #[]),(11,.slice a n c),(12,.int .i64 n),(13,.int .i64 k)]∧cL cV xs ys=cL cV (xs.drop k) (ys.drop k)∧Wd Γ S w) n ⟨0,by omega,⟨rfl,rfl,rfl,rfl,rfl,rfl,trivial⟩,rfl,hw⟩ ?_
 clear hw;rintro μ ρ w ⟨k,hk,hρ,ho,hw⟩
 rw[hρ.eq];refine A7 ?_;refine A0 rfl (fun h=>?_) (fun h=>?_)
 ·have hkn:k<n:=by simpa using h
  obtain⟨x,hx⟩:=B8 (l:=xs) (k:=k) (by omega)
  have hd:xs.drop k=x::xs.drop (k+1):=M8 hx
  rw[hd]at ho;refine A7 ?_;refine B7 ?_;intro b8 w hw;refine A7 ?_;refine A9 ?_;intro w hw;have hw:Wd Γ (.blk b8 (.cells (enc x).toArray 65)::S) w:=hw
  refine A7 ?_;refine A0 rfl (fun h2=>?_) (fun h2=>?_)
  ·refine A7 ?_;have h2:n2≤k:=by simpa using h2
   refine⟨_,rfl,F9 rfl ?_,hw.drop⟩
   rw[ho,E0 ys (by omega)];rfl
  ·have h2:k<n2:=by simpa using h2
   obtain⟨y,hy⟩:=B8 (l:=ys) (k:=k) (by omega)
   rw[M8 hy]at ho;have ho:cL cV xs ys=CH (cV x y) (cL cV (xs.drop (k+1)) (ys.drop (k+1))):=ho
   refine A7 ?_;refine B7 ?_;intro b9 w hw;refine A9 ?_;intro w hw;have hw:Wd Γ (.blk b9 (.cells (enc y).toArray 65)::.blk b8 (.cells (enc x).toArray 65)::S) w:=hw
   refine A7 ?_;refine Dp (fst:=[]) (cap:=[]) ?_
   refine((hq x y).h _ _ hw).mono ?_
   rintro e w ⟨rfl,hw⟩
   refine⟨_,rfl,?_⟩;refine A7 ?_;refine A0 rfl (fun h3=>?_) (fun h3=>?_)
   ·refine A7 ?_;have h3:¬cV x y=0:=by simpa using h3
    refine⟨_,rfl,F9 rfl ?_,hw.drop.drop⟩
    rw[ho,IK h3]
   ·refine A7 ?_;have h3:cV x y=0:=by simpa using h3
    refine⟨μ-1,by omega,k+1,by omega,⟨rfl,rfl,rfl,rfl,rfl,rfl,trivial⟩,?_,hw.drop.drop⟩
    rw[ho,Fe h3]
 ·have hkn:¬k<n:=by simpa using h
  rw[E0 xs (by omega)]at ho
  refine A7 ?_;refine A0 rfl (fun h2=>?_) (fun h2=>?_)
  ·refine A7 ?_;have h2:n<n2:=by simpa using h2
   obtain⟨y,hy⟩:=B8 (l:=ys) (k:=k) (by omega)
   rw[M8 hy]at ho;exact⟨_,rfl,F9 rfl (by rw[ho];rfl),hw⟩
  ·refine A7 ?_;have h2:¬n<n2:=by simpa using h2
   rw[E0 ys (by omega)]at ho
   exact⟨_,rfl,F9 rfl (by rw[ho];rfl),hw⟩⟩
theorem Mf{Γ:C4}{va vb:Value}{xs ys:List Val}(ha:D6 Γ va 3 (xs.map enc))(hb:D6 Γ vb 3 (ys.map enc)):PG Tryz.prog Γ 81 [va,vb] (.int .i64 (cL cV xs ys)):=⟨fun S w hw=>by
 have hC:=Gg (q:=152) (fun a b=>Qg Γ a b) ha hb
 obtain⟨a,n,c,rfl,hn,hnc,hc⟩:=ha.shape;obtain⟨a2,n2,c2,rfl,hn2,hnc2,hc2⟩:=hb.shape;refine A4 Tryz.func81 rfl rfl ?_
 repeat first|refine A5 ?_|refine A6 ?_;intro w hw
 exact⟨_,rfl,rfl,hw⟩⟩
theorem Fq{Γ:C4}{va vb:Value}{xs ys:List Val}(ha:D6 Γ va 3 (xs.map enc))(hb:D6 Γ vb 3 (ys.map enc)):PG Tryz.prog Γ 82 [va,vb] (.bool (decide (cL cV xs ys=0))):=⟨fun S w hw=>by
 have hC:=Mf ha hb
 obtain⟨a,n,c,rfl,hn,hnc,hc⟩:=ha.shape;obtain⟨a2,n2,c2,rfl,hn2,hnc2,hc2⟩:=hb.shape;refine A4 Tryz.func82 rfl rfl ?_
 repeat first|refine A5 ?_|refine A6 ?_;intro w hw
 exact⟨_,rfl,rfl,hw⟩⟩
theorem GY(l r off:Int)(hl:u5 l)(hr:u5 r)(ho:u5 off):PC Tryz.prog 281 [.int .i64 l,.int .i64 r,.int .i64 off] (.int .i64 (Ns l r off)):=⟨fun w=>by
 have hwr:=r9 (r+off)
 have hmod:IntKind.i64.wrap (r+off)=r+off∨(9223372036854775807<r+off∧IntKind.i64.wrap (r+off)=r+off-18446744073709551616)∨(r+off < -9223372036854775808∧IntKind.i64.wrap (r+off)=r+off+18446744073709551616):=by
  unfold u5 at *
  simp only[IntKind.wrap,IntKind.bits,IntKind.signed]
  simp
  split <;> omega
 obtain⟨s,hs⟩:∃s,s=IntKind.i64.wrap (r+off):=⟨_,rfl⟩
 refine A4 Tryz.func281 rfl rfl ?_
 first|refine A5 ?_|(refine A6 ?_;intro w hw)
 first|refine A5 ?_|(refine A6 ?_;intro w hw)
 first|refine A5 ?_|(refine A6 ?_;intro w hw)
 first|refine A5 ?_|(refine A6 ?_;intro w hw)
 first|refine A5 ?_|(refine A6 ?_;intro w hw)
 first|refine A5 ?_|(refine A6 ?_;intro w hw)
 first|refine A5 ?_|(refine A6 ?_;intro w hw)
 first|refine A5 ?_|(refine A6 ?_;intro w hw)
 refine lY (v:=.int .i64 s) ?_ (hy:=by rw[hs];exact MP rfl rfl)
 rw[←hs]at hmod hwr
 clear hs;unfold u5 at hl hr ho;refine A7 ?_;refine A0 rfl (fun h=>?_) (fun h=>?_)
 ·refine A7 ?_;simp only[Bool.and_eq_true,decide_eq_true_eq]at h
  refine⟨_,rfl,F9 rfl ?_,rfl⟩
  unfold Ns cI;rw[if_pos (by omega)]
 refine A7 ?_;refine A0 rfl (fun h2=>?_) (fun h2=>?_)
 ·refine A7 ?_;simp only[Bool.and_eq_true,decide_eq_true_eq]at h2
  refine⟨_,rfl,F9 rfl ?_,rfl⟩
  unfold Ns cI;rw[if_neg (by omega),if_pos (by omega)]
 have hsum:s=r+off:=by
  simp only[Bool.and_eq_false_iff,decide_eq_false_iff_not]at h h2
  omega
 refine A7 ?_;exact⟨_,rfl,F9 rfl (by rw[hsum];rfl),rfl⟩⟩
end Go.Proofs.YtlmiakjbogojgaaGreatDoor
end
section
open Go Mk
namespace Go.Proofs.YtlmiakjbogojgaaGreatDoor
set_option maxHeartbeats 16000000
attribute [local irreducible] Calls cI cB
theorem N6{Γ:C4}{f:Nat}{args:List Value}{v:Value}(h:∀(Γ1:C4) (w:World),Γ.le Γ1→Wd Γ1 [] w→Calls Tryz.prog f args.toArray w fun e w'=>∃Γ2,Γ1.le Γ2∧e=.returned v∧Wd Γ2 [] w'):PG Tryz.prog Γ f args v:=
 ⟨fun S w hw=>(h (Ui Γ w) w (TQ hw) (TH hw)).mono fun e w' ⟨Γ2,hle,he,hw'⟩=>⟨he,Oa (R:=[]) hw hle (by simp) hw'⟩⟩
theorem AL{g:F6}(h:t7 g):(E7 g).length≤1000:=by
 unfold E7;have:=h.len
 split
 ·exact this
 split
 ·simp
 split <;> simp
theorem AM{N:Nat}{g:F6}(h:JP N g)(hN:N≤9223372036854775807):(E7 g).length≤9223372036854775807:=by
 unfold E7;have:=h.len
 split
 ·omega
 split
 ·simp
 split <;> simp
theorem Lb{N:Nat}{g:F6}(h:JP N g):∀o∈E7 g,k0 o:=by
 unfold E7;intro o ho;split at ho
 ·exact h.args o ho
 split at ho
 ·simp only[List.mem_cons,List.not_mem_nil,or_false]at ho
  rcases ho with rfl|rfl
  ·exact h.l
  ·exact h.r
 split at ho
 ·simp only[List.mem_cons,List.not_mem_nil,or_false]at ho
  rw[ho];exact h.l
 ·cases ho
section
variable {Γ:C4}{S:List B5}{w:World}
theorem X3{x:E6}(hx:Eu Γ x)(hw:Wd Γ S w) :
  Calls Tryz.prog 168 #[.agg (cG x).toArray] w fun e w'=>∃Γ' v,Γ.le Γ'∧e=.returned v∧D6 Γ' v 4 ((E7 x.g).map enc)∧Wd Γ' S w':=by
 obtain⟨l1,l2,l3⟩:=hx.len;obtain⟨g,A,N,C⟩:=x;simp only at l1 l2 l3
 refine A4 Tryz.func168 rfl rfl ?_
 refine A7 ?_;refine J5 ?_;intro b1 w hw;have hw:Wd Γ (.blk b1 (.cells (cG ⟨g,A,N,C⟩).toArray 77)::S) w:=hw
 refine A7 ?_;refine A0 rfl (fun h=>?_) (fun h=>?_)
 ·have hk:g.Kind=1:=of_decide_eq_true h
  refine A7 ?_;refine G1 (congrArg Value.bool h) ?_
  refine A7 ?_;refine⟨_,rfl,Γ,_,C4.le.refl _,rfl,?_,hw.drop⟩
  unfold E7;rw[if_pos (Or.inl hk)];exact hx
 have hk1:¬g.Kind=1:=of_decide_eq_false h
 refine A7 ?_;refine A0 rfl (fun h=>?_) (fun h=>?_)
 ·have hk:g.Kind=2:=of_decide_eq_true h
  refine A7 ?_;refine⟨_,rfl,Γ,_,C4.le.refl _,rfl,?_,hw.drop⟩
  unfold E7;rw[if_pos (Or.inr hk)];exact hx
 have hk2:¬g.Kind=2:=of_decide_eq_false h
 refine A7 ?_;refine A0 rfl (fun h=>?_) (fun h=>?_)
 ·have hk:g.Kind=3:=of_decide_eq_true h
  refine A7 ?_;refine E4 [enc g.L,enc g.R] ?_
  intro q w hw;obtain⟨Γ',hle,hr,hw⟩:=hw.freeze;refine A7 ?_;refine⟨_,rfl,Γ',_,hle,rfl,?_,hw.drop⟩
  unfold E7;rw[if_neg (fun e=>e.elim hk1 hk2),if_pos hk];exact hr
 have hk3:¬g.Kind=3:=of_decide_eq_false h
 refine A7 ?_;refine A0 rfl (fun h=>?_) (fun h=>?_)
 ·have hk:g.Kind=4:=of_decide_eq_true h
  refine A7 ?_;refine E4 [enc g.L] ?_
  intro q w hw;obtain⟨Γ',hle,hr,hw⟩:=hw.freeze;refine A7 ?_;refine⟨_,rfl,Γ',_,hle,rfl,?_,hw.drop⟩
  unfold E7;rw[if_neg (fun e=>e.elim hk1 hk2),if_neg hk3,if_pos hk];exact hr
 have hk4:¬g.Kind=4:=of_decide_eq_false h
 refine A7 ?_;refine⟨_,rfl,Γ,_,C4.le.refl _,rfl,?_,hw.drop⟩
 unfold E7;rw[if_neg (fun e=>e.elim hk1 hk2),if_neg hk3,if_neg hk4];exact D6.nil
end
theorem KL{v:Val}:decide ((Hy [] (⟨#[118]⟩,[v])).2=0)=I2 v:=by
 have hn:N8 ⟨#[118]⟩=true:=by decide +kernel
 have hr:Aj (⟨#[118]⟩,[v])=I2 v:=by
  unfold Aj;simp only[hn,List.length_singleton,List.all_cons,List.all_nil,Bool.and_true]
  simp
 unfold Hy;rw[hr];cases h:I2 v with
 | true=>
  rw[if_pos rfl,if_pos]
  ·rfl
  ·have:(Df ([]++[((⟨#[118]⟩:ByteArray),[v])])).length≤([]++[((⟨#[118]⟩:ByteArray),[v])]).length:=Fl
   exact Nat.le_trans this (by simp)
 | false=>
  rw[if_neg (by simp)];rfl
theorem CG{Γ:C4}{v:Val}(hv:m0 v):PG Tryz.prog Γ 171 [.agg (enc v).toArray] (.bool (I2 v)):=N6 fun Γ w _ hw=>by
 refine A4 Tryz.func171 rfl rfl ?_
 refine A7 ?_;refine J5 ?_;intro b1 w hw;have hw:Wd Γ [.blk b1 (.cells (enc v).toArray 65)] w:=hw
 refine A7 ?_;refine E4 [enc v] ?_
 intro q w hw;obtain⟨Γ1,hle1,hr,hw⟩:=hw.freeze;refine A7 ?_;refine B9 (vs:=[.slice none 0 0,.agg (cF ⟨⟨#[118]⟩,some q,1,1,[v]⟩).toArray]) ((Ke (Γ:=Γ1) (f:=⟨⟨#[118]⟩,some q,1,1,[v]⟩) [] (fun f hf=>by cases hf) (by simp) hr ⟨by simp[D4.fact],by show 1≤100000;omega,fun u hu=>by
  have:u=v:=by simpa[D4.fact] using hu
  rw[this];exact hv⟩ D6.nil.rdS hw).mono fun e w hq=>?_)
 obtain⟨Γ2,v',gs,hle2,rfl,-,hRL,hw⟩:=hq;refine⟨_,rfl,?_⟩;refine A7 ?_;exact⟨_,rfl,Γ2,hle1.trans hle2,F7 rfl (KL (v:=v)),hw.drop⟩
end Go.Proofs.YtlmiakjbogojgaaGreatDoor
end
