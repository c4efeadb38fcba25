/- Texts of this proof, one behind another. -/
import Derived.Test.YtlimglpjpcfpdaaGreatM3
import Derived.Lib.UnsafeStr
import Derived.Lib.Builder
import Derived.Below
import Derived.Test.YtlimglpjpcfpdaaGreatM2
import Derived.Shelf.SlLaysF0
import Derived.Shelf.SlLaysF
import Derived.Shelf.Strconv.Itoa4
import Derived.Room.Shelf.Join48
import Derived.Shelf.Slices.In.SortNone
import Derived.Shelf.Slices.CompactI
import Derived.Sort.EveryDepth
import Derived.Laws.CopyRow
set_option linter.unusedVariables false
set_option linter.unusedSimpArgs false
section
open Go
namespace Mk
attribute [local irreducible] Calls
theorem aU{Γ:C8}{S:List B2}{w w':World}(h:Wd Γ S w)(h':Wd (EP w) [] w'):Wd Γ S w':=by
 obtain⟨h1,h2,h3,h4,h5,bss,h6,h7,h8⟩:=h;obtain⟨k1,k2,k3,k4,k5,-⟩:=h';have hk:∀b∈bss.flatten,w'.heap[b]? = w.heap[b]?:=fun b hb=>by
  have hl:=(h8 b hb).1
  have e:w.heap[b]? = some w.heap[b]:=Array.getElem?_eq_getElem hl
  rw[e];exact k5 b _ e
 refine⟨k1.trans h1,k2.trans h2,k3.trans h3,Nat.le_trans h4 k4,fun b o hb=>k5 b o (h5 b o hb),bss,Holds.loc (fun b o h=>h) S bss (fun b hb=>hk b hb) h6,h7,fun b hb=>⟨?_,(h8 b hb).2⟩⟩
 have hl:=(h8 b hb).1
 have e:w.heap[b]? = some w.heap[b]:=Array.getElem?_eq_getElem hl
 have:=hk b hb
 rw[e]at this;exact(Array.getElem?_eq_some_iff.1 this).1
theorem bP{Γ Γ':C8}{w:World}(hle:Γ.le Γ')(h:Wd Γ' [] w):Wd Γ [] w:=by
 obtain⟨h1,h2,h3,h4,h5,-⟩:=h;exact⟨h1.trans hle.os,h2.trans hle.tape,h3.trans hle.out,by rw[←hle.dr];exact h4,fun b o hb=>h5 b o (hle.imm b o hb),[],trivial,by simp,by simp⟩
section
variable {P:Program}{n:Nat}{ops:List Oper}{Γ:C8}{K:List B2}{wr tc stab:List (List Nat)}{Q:Fr→World→Prop}{i:Nat}{rest:List Oper}{ρ:Fr}{M:Nat→Fr→List B2}
variable {d:Option Tmp}{op:Op}{ty:TypeId}{pos:String}{es:Array Edge}{j dj:Nat}{want:Bool}
end
section
variable {P:Program}{n:Nat}{ops:List Oper}{Γ:C8}{K:List B2}{wr tc stab:List (List Nat)}{Q:Fr→World→Prop}{i:Nat}{rest:List Oper}{ρ:Fr}{M:Nat→Fr→List B2}
variable {d:Option Tmp}{op:Op}{ty:TypeId}{pos:String}{es:Array Edge}{j dj:Nat}{want:Bool}
end
theorem Xv{P:Program}{ρ:Fr}{w:World}{d:Option Tmp}{T ty:TypeId}{pos:String}{es:Array Edge}{g:Option (Nat×Bool)}{x:Operand}{k:IntKind}{a:Int}(hx:ev ρ x=.int k a):Yields P ⟨d,.unOp .neg T x,ty,pos,es,g⟩ ρ w (.int k (k.wrap (-a))):=by
 unfold Yields;simp[execOp,go_sem,hx,Op.unary,Op.intArith]
end Mk
end
section
open Go Mk
namespace Go.Proofs.YtlimglpjpcfpdaaGreat
set_option maxHeartbeats 4000000
attribute [local irreducible] Calls cI cB
instance aV(Γ:C8)(a b:Val):PG Tryz.prog Γ 120 [.agg (enc a).toArray,.agg (enc b).toArray] (.int .i64 (cV a b)):=⟨fun S w hw=>by
 refine A9 Tryz.func120 rfl rfl ?_
 refine A6 ?_;refine H9 ?_;intro b1 w hw;refine H9 ?_;intro b2 w hw;have hw:Wd Γ (.blk b2 (.cells (enc b).toArray 54)::.blk b1 (.cells (enc a).toArray 54)::S) w:=hw
 refine A6 ?_;refine A7 rfl (fun h=>?_) (fun h=>?_)
 ·refine A6 ?_;exact⟨_,rfl,H0 rfl (by have h:=of_decide_eq_true h;subst h;rw[Hm.refl]),hw.drop.drop⟩
 ·refine A6 ?_;refine Fi [.blk b2 _,.blk b1 _] S [23] [[],[],[],[],[],[],[],[],[],[],[],[],[],[],[],[0],[0],[]] hw ?_
  refine R1 ?_;refine Da (v:=undef) (T':=Value) (fun t g=>g 23=t) (fun t=>.own t 3 1 ([cI a.Kind b.Kind,cI a.Num b.Num,cB a.Word b.Word].map fun x=>[.int .i64 x])::S) (fun t g w Y _ hw=>R8 (rws:=[cI a.Kind b.Kind,cI a.Num b.Num,cB a.Word b.Word].map fun x=>[.int .i64 x]) hw rfl rfl rfl (by simp) (by decide) fun q w' hw'=>⟨_,rfl,(fun h=>by cases h),hw'⟩) ?_
  refine RJ (φ:=fun (t:Value) g=>g 23=t) (v:=.int .i64 (cV a b)) (T':=Value) (fun _ _=>True) (fun t=>.own t 3 1 ([cI a.Kind b.Kind,cI a.Num b.Num,cB a.Word b.Word].map fun x=>[.int .i64 x])::S) (fun t _=>[t]) (fun t g w Y ht hw=>?_) ?_ (ha:=fun t g ht=>EvL.cons ht EvL.nil)
  ·refine(Ja _ hw (P6.own (i:=0) hw rfl)).mono ?_
   rintro e w ⟨rfl,hw⟩
   refine⟨_,rfl,t,trivial,fun _=>?_,hw⟩
   unfold cV LR LR LR LR;rw[To]
  refine R1 ?_;refine IX fun t w g _ hw=>?_
  refine A6 ?_;exact⟨_,rfl,rfl,hw.drop.left⟩⟩
theorem It{Γ:C8}{va vb:Value}{xs ys:List Val}(ha:D9 Γ va 3 (xs.map enc))(hb:D9 Γ vb 3 (ys.map enc)) :
  PG Tryz.prog Γ 115 [va,vb,.func (.func 120) #[] #[]] (.int .i64 (cL cV xs ys)):=⟨fun S w hw=>by
 obtain⟨a,n,c,rfl,hn,hnc,hc⟩:=ha.shape;obtain⟨a2,n2,c2,rfl,hn2,hnc2,hc2⟩:=hb.shape;simp only[List.length_map]at hn hn2
 refine A9 Tryz.func115 rfl rfl ?_
 refine A6 ?_;refine B5 (fun μ ρ w=>∃(k:Nat),μ+k=n∧Has ρ [(0,.slice a n c),(1,.slice a2 n2 c2),(2,.func (.func 120) #[] #[]),(11,.slice a n c),(12,.int .i64 n),(13,.int .i64 k)]∧cL cV xs ys=cL cV (xs.drop k) (ys.drop k)∧Wd Γ S w) n ⟨0,by omega,⟨rfl,rfl,rfl,rfl,rfl,rfl,trivial⟩,rfl,hw⟩ ?_
 clear hw;rintro μ ρ w ⟨k,hk,hρ,ho,hw⟩
 rw[hρ.eq];refine A6 ?_;refine A7 rfl (fun h=>?_) (fun h=>?_)
 ·have hkn:k<n:=by simpa using h
  obtain⟨x,hx⟩:=B4 (l:=xs) (k:=k) (by omega)
  have hd:xs.drop k=x::xs.drop (k+1):=R9 hx
  rw[hd]at ho;refine A6 ?_;refine C0 ?_;intro b8 w hw;refine A6 ?_;refine B1 ?_;intro w hw;have hw:Wd Γ (.blk b8 (.cells (enc x).toArray 54)::S) w:=hw
  refine A6 ?_;refine A7 rfl (fun h2=>?_) (fun h2=>?_)
  ·refine A6 ?_;have h2:n2≤k:=by simpa using h2
   refine⟨_,rfl,H0 rfl ?_,hw.drop⟩
   rw[ho,G9 ys (by omega)];rfl
  ·have h2:k<n2:=by simpa using h2
   obtain⟨y,hy⟩:=B4 (l:=ys) (k:=k) (by omega)
   rw[R9 hy]at ho;have ho:cL cV xs ys=Ew (cV x y) (cL cV (xs.drop (k+1)) (ys.drop (k+1))):=ho
   refine A6 ?_;refine C0 ?_;intro b9 w hw;refine B1 ?_;intro w hw;have hw:Wd Γ (.blk b9 (.cells (enc y).toArray 54)::.blk b8 (.cells (enc x).toArray 54)::S) w:=hw
   refine A6 ?_;refine Cp (fst:=[]) (cap:=[]) ?_
   refine((aV Γ x y).h _ _ hw).mono ?_
   rintro e w ⟨rfl,hw⟩
   refine⟨_,rfl,?_⟩;refine A6 ?_;refine A7 rfl (fun h3=>?_) (fun h3=>?_)
   ·refine A6 ?_;have h3:¬cV x y=0:=by simpa using h3
    refine⟨_,rfl,H0 rfl ?_,hw.drop.drop⟩
    rw[ho,Nq h3]
   ·refine A6 ?_;have h3:cV x y=0:=by simpa using h3
    refine⟨μ-1,by omega,k+1,by omega,⟨rfl,rfl,rfl,rfl,rfl,rfl,trivial⟩,?_,hw.drop.drop⟩
    rw[ho,KI h3]
 ·have hkn:¬k<n:=by simpa using h
  rw[G9 xs (by omega)]at ho
  refine A6 ?_;refine A7 rfl (fun h2=>?_) (fun h2=>?_)
  ·refine A6 ?_;have h2:n<n2:=by simpa using h2
   obtain⟨y,hy⟩:=B4 (l:=ys) (k:=k) (by omega)
   rw[R9 hy]at ho;exact⟨_,rfl,H0 rfl (by rw[ho];rfl),hw⟩
  ·refine A6 ?_;have h2:¬n<n2:=by simpa using h2
   rw[G9 ys (by omega)]at ho
   exact⟨_,rfl,H0 rfl (by rw[ho];rfl),hw⟩⟩
theorem UL{Γ:C8}{f g:D1}(hf:BS Γ f)(hg:BS Γ g):PG Tryz.prog Γ 57 [.agg (cF f).toArray,.agg (cF g).toArray] (.int .i64 (I3 f.fact g.fact)):=⟨fun S w hw=>by
 obtain⟨l1,l2,l3⟩:=hf.len;obtain⟨m1,m2,m3⟩:=hg.len;have hC:=It hf hg
 obtain⟨fr,fa,fn,fc,fs⟩:=f;obtain⟨gr,ga,gn,gc,gs⟩:=g;simp only at l1 l2 l3 m1 m2 m3
 refine A9 Tryz.func57 rfl rfl ?_
 refine A6 ?_;refine H9 ?_;intro b1 w hw;refine H9 ?_;intro b2 w hw;have hw:Wd Γ (.blk b2 (.cells #[.string gr,.slice ga gn gc] 135)::.blk b1 (.cells #[.string fr,.slice fa fn fc] 135)::S) w:=hw
 refine A6 ?_;refine Fi [.blk b2 _,.blk b1 _] S [18] [[],[],[],[],[],[],[],[],[],[],[],[],[0],[0],[]] hw ?_
 refine R1 ?_;refine Da (v:=undef) (T':=Value) (fun t g=>g 18=t) (fun t=>.own t 3 1 ([cB fr gr,cI fn gn].map fun x=>[.int .i64 x])::S) (fun t g w Y _ hw=>R8 (rws:=[cB fr gr,cI fn gn].map fun x=>[.int .i64 x]) hw rfl rfl rfl (by simp) (by decide) fun q w' hw'=>⟨_,rfl,(fun h=>by cases h),hw'⟩) ?_
 refine RJ (φ:=fun (t:Value) g=>g 18=t) (v:=.int .i64 (Ew (cB fr gr) (cI fn gn))) (T':=Value) (fun _ _=>True) (fun t=>.own t 3 1 ([cB fr gr,cI fn gn].map fun x=>[.int .i64 x])::S) (fun t _=>[t]) (fun t g w Y ht hw=>?_) ?_ (ha:=fun t g ht=>EvL.cons ht EvL.nil)
 ·refine(Ja _ hw (P6.own (i:=0) hw rfl)).mono ?_
  rintro e w ⟨rfl,hw⟩
  refine⟨_,rfl,t,trivial,fun _=>?_,hw⟩
  unfold LR LR LR;rw[To]
 refine R1 ?_;refine IX fun t w g _ hw=>?_
 have hw:Wd Γ (.blk b2 (.cells #[.string gr,.slice ga gn gc] 135)::.blk b1 (.cells #[.string fr,.slice fa fn fc] 135)::S) w:=hw.drop.flip
 have hcf:I3 (fr,fs) (gr,gs)=Ew (Ew (cB fr gr) (cI fn gn)) (cL cV fs gs):=by
  unfold I3;rw[l1,m1];unfold Ew;by_cases e:cB fr gr=0 <;> simp[e]
 refine A6 ?_;refine A7 rfl (fun h3=>?_) (fun h3=>?_)
 ·refine A6 ?_;have h3:¬Ew (cB fr gr) (cI fn gn)=0:=by simpa using h3
  refine⟨_,rfl,H0 rfl ?_,hw.drop.drop⟩
  show _=I3 (fr,fs) (gr,gs)
  rw[hcf,Nq h3]
 ·have h3:Ew (cB fr gr) (cI fn gn)=0:=by simpa using h3
  refine A6 ?_;refine Zx (hp:=hC) ?_
  intro w hw;refine A6 ?_;refine⟨_,rfl,H0 rfl ?_,hw.drop.drop⟩
  show _=I3 (fr,fs) (gr,gs)
  rw[hcf,KI h3]⟩
end Go.Proofs.YtlimglpjpcfpdaaGreat
end
section
open Go Mk
namespace Go.Proofs.YtlimglpjpcfpdaaGreat
set_option maxHeartbeats 4000000
attribute [local irreducible] Calls cI cB
end Go.Proofs.YtlimglpjpcfpdaaGreat
end
section
open Go
namespace Mk
attribute [local irreducible] Calls
section
variable {P:Program}{n:Nat}{ops:List Oper}{Γ:C8}{K:List B2}{wr tc stab:List (List Nat)}{Q:Fr→World→Prop}{i:Nat}{rest:List Oper}{ρ:Fr}{M:Nat→Fr→List B2}
variable {d:Option Tmp}{ty:TypeId}{pos:String}{es:Array Edge}{f:Nat}{args:List Operand}{tys:Array TypeId}{vs:List Value}{v:Value}
theorem eL{c:Nat}{X:List B2}(X':List B2)[C7 P f](hs:∀R w,Wd Γ (X++R) w→Calls P f vs.toArray w fun e w'=>e=.returned v∧Wd Γ (X'++R) w')
  (h:MSw (mV P n ops Γ K wr tc stab) Q (i+1) rest ⟨D2 ρ d v,H5 M c fun _=>X'⟩) (hM:M c=fun _=>X:=by first|exact B0|exact UY|exact Cm|exact rfl) (hw0:wr.getD i []=[c]:=by exact rfl) (ht:tc.getD i []=[c]:=by exact rfl) (ha:∀g,EvL (E7 stab.flatten g ρ) args vs:=by intro g;exact v7) :
  MSw (mV P n ops Γ K wr tc stab) Q i (⟨d,.call { callee:=.value (.func f),args:=args.toArray,argTypes:=tys },ty,pos,es,none⟩::rest) ⟨ρ,M⟩:=
 mS (F:=fun _=>X) (fun _=>X') (fun g w Y hw=>An (ha g).eqA ((hs _ w hw).mono fun e w' ⟨h1,h2⟩=>⟨v,h1,fun _=>rfl,h2⟩)) h hM hw0 ht rfl
theorem bj{S:List B2}{t:Tmp}{cap:List Value}[C7 P f](hc:∀Y w,Wd Γ (S++Y) w→Calls P f (vs++cap).toArray w fun e w'=>e=.returned v∧Wd Γ (S++Y) w')(h:Qw P n ops Γ S Q rest (D2 ρ d v))(ht:ρ t=.func (.func f) #[] cap.toArray:=by exact rfl)(ha:EvL ρ args vs:=by exact v7) :
  Qw P n ops Γ S Q (⟨d,.call { callee:=.value (.tmp t),args:=args.toArray,argTypes:=tys },ty,pos,es,none⟩::rest) ρ:=
 fo rfl rfl (fun Y w hw=>JR ht ha.eqA (by simpa using (hc Y w hw).mono fun e w' ⟨h1,h2⟩=>⟨v,h1,rfl,h2⟩)) h
theorem X7{S:List B2}{w:World}(hw:Wd Γ S w):Wd Γ [] w:=⟨hw.os,hw.tape,hw.out,hw.dr,hw.imm,[],trivial,by simp,by simp⟩
end
end Mk
end
section
open Go Mk
namespace Go.Proofs.YtlimglpjpcfpdaaGreat
set_option maxHeartbeats 16000000
attribute [local irreducible] Calls aA
section
variable {Γ:C8}{S:List B2}{w:World}{bp:Nat}{a:Option Addr}{n c k:Nat}{e p:F2}{er:Int}{toks:List Tok}
end
end Go.Proofs.YtlimglpjpcfpdaaGreat
end
section
open Go Mk
namespace Go.Proofs.YtlimglpjpcfpdaaGreat
set_option maxHeartbeats 4000000
section
variable {α:Type}{c:α→α→Int}
structure Bh(c:α→α→Int)(db l:List α):Prop where
 asc:l.Pairwise fun a b=>c a b = -1
 mem:∀x,x∈l↔x∈db
theorem VM(h:V0 c){l:List α}(ha:l.Pairwise fun a b=>c a b = -1):l.Nodup:=by
 refine List.Pairwise.imp (fun {a b} q e=>?_) ha
 subst e;rw[h.refl]at q;exact absurd q (by decide)
theorem Qh(h:V0 c):∀ {l k:List α},(l.Pairwise fun a b=>c a b = -1)→(k.Pairwise fun a b=>c a b = -1)→(∀x,x∈l↔x∈k)→l=k
 | [],[],_,_,_=>rfl
 | [],b::k,_,_,hm=>absurd ((hm b).2 (List.mem_cons_self)) (by simp)
 | a::l,[],_,_,hm=>absurd ((hm a).1 (List.mem_cons_self)) (by simp)
 | a::l,b::k,ha,hb,hm=>by
  have ha':=List.pairwise_cons.1 ha
  have hb':=List.pairwise_cons.1 hb
  have hab:a=b:=by
   rcases List.mem_cons.1 ((hm a).1 List.mem_cons_self) with e|e
   ·exact e
   rcases List.mem_cons.1 ((hm b).2 List.mem_cons_self) with e2|e2
   ·exact e2.symm
   have h1:=hb'.1 a e
   have h2:=ha'.1 b e2
   have:=h.trans h1 h2
   rw[h.refl]at this;exact absurd this (by decide)
  subst hab;congr 1
  refine Qh h ha'.2 hb'.2 fun x=>?_
  have hne:∀ {m:List α},(∀y∈m,c a y = -1)→x∈m→x≠a:=fun hh hx e=>by
   subst e;have:=hh _ hx
   rw[h.refl]at this;exact absurd this (by decide)
  constructor
  ·intro hx;rcases List.mem_cons.1 ((hm x).1 (List.mem_cons_of_mem _ hx)) with e|e
   ·exact absurd e (hne ha'.1 hx)
   ·exact e
  ·intro hx;rcases List.mem_cons.1 ((hm x).2 (List.mem_cons_of_mem _ hx)) with e|e
   ·exact absurd e (hne hb'.1 hx)
   ·exact e
theorem Bh.uniq(h:V0 c){db l k:List α}(h1:Bh c db l)(h2:Bh c db k):l=k:=Qh h h1.asc h2.asc fun x=>(h1.mem x).trans (h2.mem x).symm
def JC(c:α→α→Int)(f:α):List α→List α
 | []=>[f]
 | x::l=>if c f x = -1 then f::x::l else if c f x=0 then x::l else x::JC c f l
def Cf(c:α→α→Int):List α→List α
 | []=>[]
 | f::db=>JC c f (Cf c db)
theorem Kd(h:V0 c){f x:α}:∀ {l:List α},x∈JC c f l↔x=f∨x∈l
 | []=>by simp[JC]
 | y::l=>by
  unfold JC;split
  ·simp
  ·split
   ·rename_i e
    have e:=h.eq0 e
    subst e;simp
   ·rw[List.mem_cons,Kd h,List.mem_cons];constructor
    ·rintro (h|h|h)
     ·exact .inr (.inl h)
     ·exact .inl h
     ·exact .inr (.inr h)
    ·rintro (h|h|h)
     ·exact .inr (.inl h)
     ·exact .inl h
     ·exact .inr (.inr h)
theorem QJ(h:V0 c){f:α}:∀ {l:List α},(l.Pairwise fun a b=>c a b = -1)→(JC c f l).Pairwise fun a b=>c a b = -1
 | [],_=>by simp[JC]
 | y::l,ha=>by
  have ha':=List.pairwise_cons.1 ha
  unfold JC;split
  ·rename_i e
   refine List.pairwise_cons.2 ⟨fun z hz=>?_,ha⟩
   rcases List.mem_cons.1 hz with q|q
   ·rw[q];exact e
   ·exact h.trans e (ha'.1 z q)
  ·split
   ·exact ha
   ·rename_i e1 e2
    refine List.pairwise_cons.2 ⟨fun z hz=>?_,QJ h ha'.2⟩
    rcases (Kd h).1 hz with q|q
    ·rw[q,h.anti];rcases h.rng f y with r|r|r
     ·exact absurd r e1
     ·exact absurd r e2
     ·rw[r]
    ·exact ha'.1 z q
theorem w8(h:V0 c):∀db:List α,Bh c db (Cf c db)
 | []=>⟨List.Pairwise.nil,fun x=>Iff.rfl⟩
 | f::db=>⟨QJ h (w8 h db).asc,fun x=>by
  show x∈JC c f (Cf c db)↔_
  rw[Kd h,(w8 h db).mem,List.mem_cons]⟩
theorem Bh.eq(h:V0 c){db l:List α}(h1:Bh c db l):l=Cf c db:=h1.uniq h (w8 h db)
theorem Ju(h:V0 c){db db':List α}(hm:∀x,x∈db↔x∈db'):Cf c db=Cf c db':=
 (Bh.mk (w8 h db).asc fun x=>((w8 h db).mem x).trans (hm x)).eq h
theorem Aq(h:V0 c){db:List α}{x:α}:x∈Cf c db↔x∈db:=(w8 h db).mem x
theorem Pr{f:α}:∀ {l:List α},(JC c f l).length≤l.length+1
 | []=>by simp[JC]
 | y::l=>by
  have:=Pr (f:=f) (l:=l)
  unfold JC;split
  ·simp
  ·split
   ·simp
   ·simp;omega
theorem Al:∀ {db:List α},(Cf c db).length≤db.length
 | []=>by simp[Cf]
 | f::db=>by
  have:=Al (db:=db)
  have:=Pr (c:=c) (f:=f) (l:=Cf c db)
  simp only[Cf,List.length_cons];omega
theorem VB(h:V0 c)(db:List α):Cf c (Cf c db)=Cf c db:=Ju h fun x=>Aq h
theorem OQ(h:V0 c)(p:α→Bool)(db:List α):Cf c (db.filter p)=(Cf c db).filter p:=by
 refine(Bh.eq h (Bh.mk ((w8 h db).asc.filter _) fun x=>?_)).symm
 rw[List.mem_filter,List.mem_filter,Aq h]
end
def kp{α:Type}(p:α→α→Bool):α→List α→List α
 | _,[]=>[]
 | a,b::l=>if p b a=true then kp p b l else b::kp p b l
def s6{α:Type}(p:α→α→Bool):List α→List α
 | []=>[]
 | a::l=>a::kp p a l
theorem Hw{α:Type}{p:α→α→Bool}{x:α}:∀ {l:List α} {a:α},x∈kp p a l→x∈l
 | [],_,h=>h
 | b::l,a,h=>by
  unfold kp at h;split at h
  ·exact List.mem_cons_of_mem _ (Hw h)
  ·rcases List.mem_cons.1 h with e|e
   ·rw[e];exact List.mem_cons_self
   ·exact List.mem_cons_of_mem _ (Hw e)
theorem HL{α:Type}{p:α→α→Bool}{x:α}{l:List α}(h:x∈s6 p l):x∈l:=by
 cases l with
 | nil=>exact h
 | cons a l=>
  rcases List.mem_cons.1 h with e|e
  ·rw[e];exact List.mem_cons_self
  ·exact List.mem_cons_of_mem _ (Hw e)
theorem ef{α:Type}{p:α→α→Bool}:∀ {l:List α} {a:α},(kp p a l).length≤l.length
 | [],_=>Nat.le_refl _
 | b::l,a=>by
  unfold kp;have:=ef (p:=p) (l:=l) (a:=b)
  split
  ·simp;omega
  ·simp;omega
theorem UN{α:Type}{p:α→α→Bool}{y:α}:∀(l:List α) (a:α),kp p a (l++[y])=kp p a l++(if p y (l.getLast?.getD a)=true then [] else [y])
 | [],a=>by
  show (if p y a=true then kp p y [] else y::kp p y [])=_
  rfl
 | b::l,a=>by
  have ih:=UN (p:=p) (y:=y) l b
  have hl:((b::l).getLast?).getD a=l.getLast?.getD b:=by
   cases l with
   | nil=>rfl
   | cons x l=>simp[List.getLast?_cons_cons];rw[List.getLast?_eq_some_getLast (by simp)];rfl
  rw[hl,List.cons_append];show (if p b a=true then kp p b (l++[y]) else b::kp p b (l++[y]))=(if p b a=true then kp p b l else b::kp p b l)++_
  rw[ih];split <;> simp
theorem DR{α:Type}{p:α→α→Bool}{fs:List α}{j:Nat}{x y:α}(h0:0<j)(hy:fs[j]? = some y)(hx:fs[j-1]? = some x):s6 p (fs.take (j+1))=if p y x=true then s6 p (fs.take j) else s6 p (fs.take j)++[y]:=by
 have ht:fs.take (j+1)=fs.take j++[y]:=by rw[List.take_add_one,hy];rfl
 have hjl:=(List.getElem?_eq_some_iff.1 hy).1
 rw[ht];have hlast:(fs.take j).getLast? = some x:=by
  rw[List.getLast?_eq_getElem?,List.length_take,Nat.min_eq_left (by omega),List.getElem?_take,if_pos (by omega)]
  exact hx
 cases hl:fs.take j with
 | nil=>rw[hl]at hlast;cases hlast
 | cons a l=>
  rw[hl]at hlast;have hla:l.getLast?.getD a=x:=by
   cases l with
   | nil=>simpa using hlast
   | cons b l=>rw[List.getLast?_cons_cons]at hlast;rw[hlast];rfl
  show a::kp p a (l++[y])=_
  rw[UN,hla];split <;> simp[s6]
section
variable {α β:Type}{c:α→α→Int}
theorem UB(h:V0 c)(F:β→α):∀ {l:List β} {a:β},((a::l).Pairwise fun x y=>c (F y) (F x)≠-1) →
  ((kp (fun x y=>decide (c (F x) (F y)=0)) a l).map F).Pairwise (fun x y=>c x y = -1)∧(∀x∈(kp (fun x y=>decide (c (F x) (F y)=0)) a l).map F,c (F a) x = -1)∧∀x,x∈F a::(kp (fun x y=>decide (c (F x) (F y)=0)) a l).map F↔x∈F a::l.map F
 | [],a,_=>⟨List.Pairwise.nil,fun x hx=>absurd hx (by simp[kp]),fun x=>Iff.rfl⟩
 | b::l,a,hs=>by
  have hs':=List.pairwise_cons.1 hs
  obtain⟨k1,k2,k3⟩:=UB h F hs'.2
  unfold kp;by_cases e:c (F b) (F a)=0
  ·have e2:=h.eq0 e
   rw[if_pos (decide_eq_true e)];rw[e2]at k2 k3
   refine⟨k1,k2,fun x=>?_⟩
   rw[k3 x,List.map_cons,e2];simp
  ·rw[if_neg (by simp[e])]
   have e3:c (F a) (F b) = -1:=by
    have h1:=hs'.1 b List.mem_cons_self
    rw[h.anti];rcases h.rng (F b) (F a) with r|r|r
    ·exact absurd r h1
    ·exact absurd r e
    ·rw[r]
   refine⟨?_,fun x hx=>?_,fun x=>?_⟩
   ·rw[List.map_cons];exact List.pairwise_cons.2 ⟨k2,k1⟩
   ·rw[List.map_cons]at hx;rcases List.mem_cons.1 hx with q|q
    ·rw[q];exact e3
    ·exact h.trans e3 (k2 x q)
   ·rw[List.map_cons,List.mem_cons,k3 x,List.map_cons,List.mem_cons (b:=F a)]
theorem MZ(h:V0 c)(F:β→α){fs gs:List β}(hp:gs.Perm fs)(hs:gs.Pairwise fun x y=>c (F y) (F x)≠-1):(s6 (fun x y=>decide (c (F x) (F y)=0)) gs).map F=Cf c (fs.map F):=by
 refine Bh.eq h ?_
 have hm:∀x,x∈gs.map F↔x∈fs.map F:=fun x=>(hp.map F).mem_iff
 cases gs with
 | nil=>exact⟨List.Pairwise.nil,hm⟩
 | cons a l=>
  obtain⟨k1,k2,k3⟩:=UB h F hs
  refine⟨?_,fun x=>(k3 x).trans (hm x)⟩
  show ((F a::(kp _ a l).map F)).Pairwise _
  exact List.pairwise_cons.2 ⟨k2,k1⟩
end
end Go.Proofs.YtlimglpjpcfpdaaGreat
end
section
open Go Mk
namespace Go.Proofs.YtlimglpjpcfpdaaGreat
set_option maxHeartbeats 4000000
attribute [local irreducible] Calls cI cB I3
end Go.Proofs.YtlimglpjpcfpdaaGreat
end
section
open Go Mk
namespace Go.Proofs.YtlimglpjpcfpdaaGreat
set_option maxHeartbeats 4000000
attribute [local irreducible] Calls cI cB I3
instance iQ(Γ:C8)(v:Int):PG Tryz.prog Γ 13 [.int .i64 v] (.agg (enc (⟨1,v,⟨#[]⟩⟩:Val)).toArray):=⟨fun S w hw=>by
 refine K9 Tryz.func13 rfl rfl ?_
 refine A6 ?_;refine C0 ?_;intro b w hw;refine A6 ?_;refine B1 ?_;intro w hw;have hw:Wd Γ (.blk b (.cells (enc (⟨1,v,⟨#[]⟩⟩:Val)).toArray 54)::S) w:=hw
 refine A6 ?_;exact⟨[.agg (enc (⟨1,v,⟨#[]⟩⟩:Val)).toArray],⟨T4 (i:=0) hw rfl rfl rfl,trivial⟩,rfl,hw.drop⟩⟩
end Go.Proofs.YtlimglpjpcfpdaaGreat
end
section
open Go Mk
namespace Go.Proofs.YtlimglpjpcfpdaaGreat
def Pw:Go.Shelf.Ren:=⟨fun|6=>56|15=>114|14=>117|28=>171|29=>172|20=>174|21=>175|22=>176|23=>177|24=>178|25=>179|26=>180|27=>181|46=>235|47=>230|48=>231|49=>236|50=>237|57=>261|n=>n,fun|22=>58|24=>135|25=>137|3=>3|39=>155|0=>0|53=>260|55=>122|4=>4|46=>253|45=>252|50=>257|5=>5|9=>9|66=>292|70=>296|76=>320|77=>228|n=>n,fun|n=>n⟩
theorem bY:Go.Proofs.SlLaysF0.n6 Tryz.prog Pw:={
 mixed:=by kernel_rfl
 f6:=⟨Tryz.f56.name,by decide,Tryz.func56.trans (congrArg some (by kernel_rfl))⟩
 f14:=⟨Tryz.f117.name,by decide,Tryz.func117.trans (congrArg some (by kernel_rfl))⟩
 f15:=Tryz.func114.trans (congrArg some (by kernel_rfl))
 f20:=⟨Tryz.f174.name,by decide,Tryz.func174.trans (congrArg some (by kernel_rfl))⟩
 f21:=⟨Tryz.f175.name,by decide,Tryz.func175.trans (congrArg some (by kernel_rfl))⟩
 f22:=⟨Tryz.f176.name,by decide,Tryz.func176.trans (congrArg some (by kernel_rfl))⟩
 f23:=⟨Tryz.f177.name,by decide,Tryz.func177.trans (congrArg some (by kernel_rfl))⟩
 f24:=⟨Tryz.f178.name,by decide,Tryz.func178.trans (congrArg some (by kernel_rfl))⟩
 f25:=⟨Tryz.f179.name,by decide,Tryz.func179.trans (congrArg some (by kernel_rfl))⟩
 f26:=⟨Tryz.f180.name,by decide,Tryz.func180.trans (congrArg some (by kernel_rfl))⟩
 f27:=⟨Tryz.f181.name,by decide,Tryz.func181.trans (congrArg some (by kernel_rfl))⟩
 f28:=Tryz.func171.trans (congrArg some (by kernel_rfl))
 f29:=Tryz.func172.trans (congrArg some (by kernel_rfl))
 f46:=⟨Tryz.f235.name,by decide,Tryz.func235.trans (congrArg some (by kernel_rfl))⟩
 f47:=Tryz.func230.trans (congrArg some (by kernel_rfl))
 f48:=Tryz.func231.trans (congrArg some (by kernel_rfl))
 f49:=⟨Tryz.f236.name,by decide,Tryz.func236.trans (congrArg some (by kernel_rfl))⟩
 f50:=⟨Tryz.f237.name,by decide,Tryz.func237.trans (congrArg some (by kernel_rfl))⟩
 f57:=⟨Tryz.f261.name,by decide,Tryz.func261.trans (congrArg some (by kernel_rfl))⟩
 t0:=Tryz.underlying0
 a0:=Tryz.isAgg0
 z0:=Tryz.sizeOf0
 v0:=Tryz.zeroValue0
 t3:=Tryz.underlying3
 a3:=Tryz.isAgg3
 z3:=Tryz.sizeOf3
 v3:=Tryz.zeroValue3
 t4:=Tryz.underlying4
 a4:=Tryz.isAgg4
 z4:=Tryz.sizeOf4
 v4:=Tryz.zeroValue4
 t5:=Tryz.underlying5
 a5:=Tryz.isAgg5
 z5:=Tryz.sizeOf5
 v5:=Tryz.zeroValue5
 t9:=Tryz.underlying9
 a9:=Tryz.isAgg9
 z9:=Tryz.sizeOf9
 v9:=Tryz.zeroValue9
 t22:=Tryz.underlying58
 a22:=Tryz.isAgg58
 z22:=Tryz.sizeOf58
 v22:=Tryz.zeroValue58
 t25:=Tryz.underlying137
 a25:=Tryz.isAgg137
 z25:=Tryz.sizeOf137
 v25:=Tryz.zeroValue137
 t39:=Tryz.underlying155
 a39:=Tryz.isAgg155
 z39:=Tryz.sizeOf155
 v39:=Tryz.zeroValue155
 t45:=Tryz.underlying252
 a45:=Tryz.isAgg252
 z45:=Tryz.sizeOf252
 v45:=Tryz.zeroValue252
 t46:=Tryz.underlying253
 a46:=Tryz.isAgg253
 z46:=Tryz.sizeOf253
 v46:=Tryz.zeroValue253
 t50:=Tryz.underlying257
 a50:=Tryz.isAgg257
 z50:=Tryz.sizeOf257
 v50:=Tryz.zeroValue257
 t53:=Tryz.underlying260
 a53:=Tryz.isAgg260
 z53:=Tryz.sizeOf260
 v53:=Tryz.zeroValue260
 t55:=Tryz.underlying122
 a55:=Tryz.isAgg122
 z55:=Tryz.sizeOf122
 v55:=Tryz.zeroValue122
 t66:=Tryz.underlying292
 a66:=Tryz.isAgg292
 z66:=Tryz.sizeOf292
 v66:=Tryz.zeroValue292
 t70:=Tryz.underlying296
 a70:=Tryz.isAgg296
 z70:=Tryz.sizeOf296
 v70:=Tryz.zeroValue296
 t76:=Tryz.underlying320
 a76:=Tryz.isAgg320
 z76:=Tryz.sizeOf320
 v76:=Tryz.zeroValue320
 t77:=Tryz.underlying228
 a77:=Tryz.isAgg228
 z77:=Tryz.sizeOf228
 v77:=Tryz.zeroValue228 }
def Pk:Go.Shelf.Ren:=⟨fun|6=>196|15=>114|14=>249|28=>171|29=>172|20=>263|21=>264|22=>265|23=>266|24=>267|25=>268|26=>269|27=>270|46=>274|47=>230|48=>231|49=>275|50=>276|57=>277|n=>n,fun|22=>62|24=>3|25=>42|3=>3|39=>155|0=>0|53=>260|55=>122|4=>4|46=>253|45=>252|50=>257|5=>5|9=>9|66=>292|70=>296|76=>320|77=>228|n=>n,fun|n=>n⟩
theorem cD:Go.Proofs.SlLaysF.n6 Tryz.prog Pk:={
 mixed:=by kernel_rfl
 f6:=⟨Tryz.f196.name,by decide,Tryz.func196.trans (congrArg some (by kernel_rfl))⟩
 f14:=⟨Tryz.f249.name,by decide,Tryz.func249.trans (congrArg some (by kernel_rfl))⟩
 f15:=Tryz.func114.trans (congrArg some (by kernel_rfl))
 f20:=⟨Tryz.f263.name,by decide,Tryz.func263.trans (congrArg some (by kernel_rfl))⟩
 f21:=⟨Tryz.f264.name,by decide,Tryz.func264.trans (congrArg some (by kernel_rfl))⟩
 f22:=⟨Tryz.f265.name,by decide,Tryz.func265.trans (congrArg some (by kernel_rfl))⟩
 f23:=⟨Tryz.f266.name,by decide,Tryz.func266.trans (congrArg some (by kernel_rfl))⟩
 f24:=⟨Tryz.f267.name,by decide,Tryz.func267.trans (congrArg some (by kernel_rfl))⟩
 f25:=⟨Tryz.f268.name,by decide,Tryz.func268.trans (congrArg some (by kernel_rfl))⟩
 f26:=⟨Tryz.f269.name,by decide,Tryz.func269.trans (congrArg some (by kernel_rfl))⟩
 f27:=⟨Tryz.f270.name,by decide,Tryz.func270.trans (congrArg some (by kernel_rfl))⟩
 f28:=Tryz.func171.trans (congrArg some (by kernel_rfl))
 f29:=Tryz.func172.trans (congrArg some (by kernel_rfl))
 f46:=⟨Tryz.f274.name,by decide,Tryz.func274.trans (congrArg some (by kernel_rfl))⟩
 f47:=Tryz.func230.trans (congrArg some (by kernel_rfl))
 f48:=Tryz.func231.trans (congrArg some (by kernel_rfl))
 f49:=⟨Tryz.f275.name,by decide,Tryz.func275.trans (congrArg some (by kernel_rfl))⟩
 f50:=⟨Tryz.f276.name,by decide,Tryz.func276.trans (congrArg some (by kernel_rfl))⟩
 f57:=⟨Tryz.f277.name,by decide,Tryz.func277.trans (congrArg some (by kernel_rfl))⟩
 t0:=Tryz.underlying0
 a0:=Tryz.isAgg0
 z0:=Tryz.sizeOf0
 v0:=Tryz.zeroValue0
 t3:=Tryz.underlying3
 a3:=Tryz.isAgg3
 z3:=Tryz.sizeOf3
 v3:=Tryz.zeroValue3
 t4:=Tryz.underlying4
 a4:=Tryz.isAgg4
 z4:=Tryz.sizeOf4
 v4:=Tryz.zeroValue4
 t5:=Tryz.underlying5
 a5:=Tryz.isAgg5
 z5:=Tryz.sizeOf5
 v5:=Tryz.zeroValue5
 t9:=Tryz.underlying9
 a9:=Tryz.isAgg9
 z9:=Tryz.sizeOf9
 v9:=Tryz.zeroValue9
 t22:=Tryz.underlying62
 a22:=Tryz.isAgg62
 z22:=Tryz.sizeOf62
 v22:=Tryz.zeroValue62
 a24:=Tryz.isAgg3
 z24:=Tryz.sizeOf3
 t25:=Tryz.underlying42
 a25:=Tryz.isAgg42
 z25:=Tryz.sizeOf42
 v25:=Tryz.zeroValue42
 t39:=Tryz.underlying155
 a39:=Tryz.isAgg155
 z39:=Tryz.sizeOf155
 v39:=Tryz.zeroValue155
 t45:=Tryz.underlying252
 a45:=Tryz.isAgg252
 z45:=Tryz.sizeOf252
 v45:=Tryz.zeroValue252
 t46:=Tryz.underlying253
 a46:=Tryz.isAgg253
 z46:=Tryz.sizeOf253
 v46:=Tryz.zeroValue253
 t50:=Tryz.underlying257
 a50:=Tryz.isAgg257
 z50:=Tryz.sizeOf257
 v50:=Tryz.zeroValue257
 t53:=Tryz.underlying260
 a53:=Tryz.isAgg260
 z53:=Tryz.sizeOf260
 v53:=Tryz.zeroValue260
 t55:=Tryz.underlying122
 a55:=Tryz.isAgg122
 z55:=Tryz.sizeOf122
 v55:=Tryz.zeroValue122
 t66:=Tryz.underlying292
 a66:=Tryz.isAgg292
 z66:=Tryz.sizeOf292
 v66:=Tryz.zeroValue292
 t70:=Tryz.underlying296
 a70:=Tryz.isAgg296
 z70:=Tryz.sizeOf296
 v70:=Tryz.zeroValue296
 t76:=Tryz.underlying320
 a76:=Tryz.isAgg320
 z76:=Tryz.sizeOf320
 v76:=Tryz.zeroValue320
 t77:=Tryz.underlying228
 a77:=Tryz.isAgg228
 z77:=Tryz.sizeOf228
 v77:=Tryz.zeroValue228 }
end Go.Proofs.YtlimglpjpcfpdaaGreat
end
section
open Go Mk
namespace Go.Proofs.YtlimglpjpcfpdaaGreat
set_option maxHeartbeats 4000000
attribute [local irreducible] Calls cI cB I3
theorem BS.mono{Γ Γ':C8}{f:D1}(h:BS Γ f)(hl:Γ.le Γ'):BS Γ' f:=D9.mono h hl
theorem Jo{Γ:C8}{S:List B2}{w:World}(fs:List D1)(v:Value)(hok:∀f∈fs,BS Γ f)(hl:fs.length≤1000000)(hw:Wd Γ (.own v 135 2 (fs.map cF)::S) w) :
  Calls Tryz.prog 56 #[v,.func (.func 57) #[] #[]] w fun e w'=>e=.returned (.tuple #[])∧∃gs:List D1,gs.Perm fs∧(gs.Pairwise fun a b=>Go.Proofs.ltOf (fun a b:D1=>I3 a.fact b.fact) b a=false)∧Wd Γ (.own v 135 2 (gs.map cF)::S) w':=by
 have hxs:(fs.attachWith (BS Γ) hok).map Subtype.val=fs:=List.attachWith_map_subtype_val _
 have hrows:((fs.attachWith (BS Γ) hok).map fun a=>cF a.1)=fs.map cF:=by
  conv=>rhs;rw[←hxs]
  rw[List.map_map];rfl
 rw[←hrows]at hw;haveI:Inhabited {f:D1 // BS Γ f}:=⟨⟨⟨⟨#[]⟩,none,0,0,[]⟩,D9.nil⟩⟩
 have:=SS (α:={f:D1 // BS Γ f}) (enc:=fun a=>cF a.1) bY (fun a b=>I3 a.1.fact b.1.fact) 57 [] (fs.attachWith (BS Γ) hok) v hw (i:=0) rfl (fun _=>rfl) (fun x u hu=>(List.all_eq_true.1 (Zb x.1)) u hu) (by show TA Tryz.prog 135 2;infer_instance)
  (Xp I0 fun a:{f:D1 // BS Γ f}=>a.1.fact) (by simp;omega) (fun dk w' hw' x y=>by
   have h1:∀b o,Γ.imm b=some o→(EP w').imm b=some o:=fun b o hb=>hw'.imm b o hb
   have h2:=UL (Γ:=EP w') (f:=x.1) (g:=y.1) (D9.imm x.2 h1) (D9.imm y.2 h1)
   refine(h2.h [] w' (HE w')).mono ?_
   rintro e w'' ⟨he,hw''⟩
   exact⟨he,[],hw''⟩)
 refine this.mono ?_
 rintro e w' ⟨he,ys,hp,hs,hw'⟩
 refine⟨he,ys.map Subtype.val,?_,?_,?_⟩
 ·have:=hp.map Subtype.val
  rwa [hxs]at this
 ·rw[List.pairwise_map];exact hs
 ·rw[List.map_map];exact hw'
end Go.Proofs.YtlimglpjpcfpdaaGreat
end
section
open Go Mk
namespace Go.Proofs.YtlimglpjpcfpdaaGreat
set_option maxHeartbeats 16000000
attribute [local irreducible] Calls I3
theorem Ik{Γ:C8}{S:List B2}{w:World}{v:Value}{xs:List D1}(hr:P6 Γ S v 2 (xs.map cF))(hN:xs.length≤1000000)(hw:Wd Γ S w) :
  Calls Tryz.prog 224 #[v] w fun e w'=>∃v',e=.returned v'∧Wd Γ (.own v' 135 2 (xs.map cF)::S) w':=by
 obtain⟨a,n,c,rfl,hn,hnc,hc⟩:=hr.shape;simp only[List.length_map]at hn
 refine A9 Tryz.func224 rfl rfl ?_
 refine A6 ?_;refine A7 rfl (fun h=>?_) (fun h=>?_)
 ·refine A6 ?_;have hx:xs=[]:=by
   cases a with
   | none=>
    cases xs with
    | nil=>rfl
    | cons x xs=>have:=(hr.rd hw).at_ (by simp);cases this
   | some a=>cases h
  subst hx;exact⟨_,rfl,_,rfl,Wd.addNil hw⟩
 ·refine A6 ?_;refine B6 [] ?_
  intro a2 w hw;refine A6 ?_;refine V7 (i:=0) (rows2:=xs.map cF) ?_ ((P6.cons hr).rd hw) rfl rfl hw rfl (List.all_eq_true.2 (Nm xs)) (by simpa using hn)
  intro v' w hw;refine A6 ?_;exact⟨_,rfl,v',rfl,by simpa using hw⟩
theorem KJ{Γ:C8}{S:List B2}{w:World}{v:Value}{xs:List Val}(hr:D9 Γ v 3 (xs.map enc))(hN:xs.length≤1000000)(hw:Wd Γ S w) :
  Calls Tryz.prog 157 #[v] w fun e w'=>∃v',e=.returned v'∧Wd Γ (.own v' 54 3 (xs.map enc)::S) w':=by
 obtain⟨a,n,c,rfl,hn,hnc,hc⟩:=hr.shape;simp only[List.length_map]at hn
 refine A9 Tryz.func157 rfl rfl ?_
 refine A6 ?_;refine A7 rfl (fun h=>?_) (fun h=>?_)
 ·refine A6 ?_;have hx:xs=[]:=by
   cases a with
   | none=>
    cases xs with
    | nil=>rfl
    | cons x xs=>have:=(hr.rd hw).at_ (by simp);cases this
   | some a=>cases h
  subst hx;exact⟨_,rfl,_,rfl,Wd.addNil hw⟩
 ·refine A6 ?_;refine B6 [] ?_
  intro a2 w hw;refine A6 ?_;refine V7 (i:=0) (rows2:=xs.map enc) ?_ (hr.rd hw) rfl rfl hw rfl (We xs) (by simpa using hn)
  intro v' w hw;refine A6 ?_;exact⟨_,rfl,v',rfl,by simpa using hw⟩
def Ea:Value:=.func (.func 57) #[] #[]
def Vf(x y:D1):Bool:=decide (I3 x.fact y.fact=0)
theorem PW{Γ:C8}{S:List B2}{w:World}{b3:Nat}{f g:D1}(hf:BS Γ f)(hg:BS Γ g)(hw:Wd Γ (.blk b3 (.cells #[Ea] 137)::S) w) :
  Calls Tryz.prog 226 #[.agg (cF f).toArray,.agg (cF g).toArray,.pointer (some ⟨b3,0,none⟩)] w fun e w'=>e=.returned (.bool (Vf f g))∧Wd Γ (.blk b3 (.cells #[Ea] 137)::S) w':=by
 have hC:=UL hf hg
 obtain⟨fr,fa,fn,fc,fs⟩:=f;obtain⟨gr,ga,gn,gc,gs⟩:=g;refine A9 Tryz.func226 rfl rfl ?_
 refine A6 ?_;refine H9 ?_;intro b1 w hw;refine H9 ?_;intro b2 w hw;have hw:Wd Γ (.blk b2 (.cells #[.string gr,.slice ga gn gc] 135)::.blk b1 (.cells #[.string fr,.slice fa fn fc] 135)::.blk b3 (.cells #[Ea] 137)::S) w:=hw
 refine A6 ?_;refine Cp (fst:=[]) (cap:=[]) ?_
 refine(hC.h _ _ hw).mono ?_
 rintro e w ⟨rfl,hw⟩
 refine⟨_,rfl,?_⟩;refine A6 ?_;exact⟨_,rfl,rfl,hw.drop.drop⟩
theorem PQ{Γ:C8}{S:List B2}{w:World}{b3:Nat}{v:Value}(fs:List D1)(hok:∀f∈fs,BS Γ f)(hl:fs.length≤1000000)(hw:Wd Γ (.own v 135 2 (fs.map cF)::.blk b3 (.cells #[Ea] 137)::S) w) :
  Calls Tryz.prog 225 #[v,.func (.func 226) #[] #[.pointer (some ⟨b3,0,none⟩)]] w fun e w'=>∃v',e=.returned v'∧Wd Γ (.own v' 135 2 ((s6 Vf fs).map cF)::.blk b3 (.cells #[Ea] 137)::S) w':=by
 obtain⟨a,n,c,rfl,hn,hnc,hc⟩:=hw.own_shape (i:=0) rfl
 simp only[List.length_map]at hn
 refine A9 Tryz.func225 rfl rfl ?_
 refine A6 ?_;refine A7 rfl (fun h=>?_) (fun h=>?_)
 ·have h:n<2:=by have:=of_decide_eq_true h;omega
  refine A6 ?_;have hE:s6 Vf fs=fs:=by
   cases fs with
   | nil=>rfl
   | cons x fs=>
    cases fs with
    | nil=>rfl
    | cons y fs=>simp at hn;omega
  rw[hE];exact⟨_,rfl,_,rfl,hw⟩
 have h:2≤n:=by have:=of_decide_eq_false h;omega
 refine A6 ?_;refine B5 (fun μ ρ w=>∃(k:Nat),μ+k=n∧1≤k∧Has ρ [(0,.slice a n c),(1,.func (.func 226) #[] #[.pointer (some ⟨b3,0,none⟩)]),(5,.int .i64 k)]∧s6 Vf (fs.take k)=fs.take k∧Wd Γ (.own (.slice a n c) 135 2 (fs.map cF)::.blk b3 (.cells #[Ea] 137)::S) w) (n-1) ⟨1,by omega,by omega,⟨rfl,rfl,rfl,trivial⟩,?_,hw⟩ ?_
 ·cases fs with
  | nil=>rfl
  | cons x fs=>rfl
 clear hw;rintro μ ρ w ⟨k,hk,hk1,hρ,ho,hw⟩
 rw[hρ.eq];refine A6 ?_;refine A7 rfl (fun h=>?_) (fun h=>?_)
 ·have hkn:k<n:=by have:=of_decide_eq_true h;omega
  obtain⟨y,hy⟩:=B4 (l:=fs) (k:=k) (by omega)
  obtain⟨x,hx0⟩:=B4 (l:=fs) (k:=k-1) (by omega)
  have hx:fs[((k:Int)-1).toNat]? = some x:=by rw[show ((k:Int)-1).toNat=k-1 from by omega];exact hx0
  have hfy:=hok y (List.mem_of_getElem? hy)
  have hfx:=hok x (List.mem_of_getElem? hx0)
  have hsucc:=DR (p:=Vf) (by omega) hy hx0
  refine A6 ?_;refine I5 (by kernel_rfl) (by kernel_rfl) hw ?_
  iterate 10 (first|refine Bq ?_|(apply S6;first|(apply Z1;first|refine qP ?_|refine Ut ?_)|refine qY ?_)|(apply L1;first|(apply Z1;first|refine Vo ?_|refine Hr ?_)|refine qG ?_))
  refine bj (v:=.bool (Vf y x)) (cap:=[.pointer (some ⟨b3,0,none⟩)]) (vs:=[.agg (cF y).toArray,.agg (cF x).toArray]) (fun Y w hw=>?_) ?_
  ·have hw:Wd Γ (.blk b3 (.cells #[Ea] 137)::(.own (.slice a n c) 135 2 (fs.map cF)::S++Y)) w:=hw.ps [1]
   refine(PW hfy hfx hw).mono ?_
   rintro e w ⟨rfl,hw⟩
   exact⟨rfl,hw.ps [1]⟩
  refine EX ?_;intro w hw;refine A7 rfl (fun h2=>?_) (fun h2=>?_)
  ·rw[if_pos h2]at hsucc;refine A6 ?_;refine B5 (fun μ ρ w=>∃(m q:Nat) (cur:List D1),μ+(k+m)=n∧1≤m∧1≤q∧q<k+m∧Has ρ [(0,.slice a n c),(1,.func (.func 226) #[] #[.pointer (some ⟨b3,0,none⟩)]),(5,.int .i64 q),(6,.slice (Bu a k c 2) (n-k) (c-k)),(7,.int .i64 m)]∧cur.length=n∧cur.take q=s6 Vf (fs.take (k+m))∧(∀i,k+m-1≤i→cur[i]? = fs[i]?)∧Wd Γ (.own (.slice a n c) 135 2 (cur.map cF)::.blk b3 (.cells #[Ea] 137)::S) w) (n-(k+1)) ⟨1,k,fs,by omega,by omega,by omega,by omega,⟨rfl,rfl,rfl,rfl,rfl,trivial⟩,hn.symm,by rw[hsucc,ho],fun i _=>rfl,hw⟩ ?_
   clear hw hρ hsucc;rintro μ2 ρ w ⟨m,q,cur,hm,hm1,hq1,hq2,hρ,hcl,hcur,hsame,hw⟩
   rw[hρ.eq];refine A6 ?_;refine A7 rfl (fun h3=>?_) (fun h3=>?_)
   ·have hmn:k+m<n:=by have:=of_decide_eq_true h3;omega
    obtain⟨y2,hy2⟩:=B4 (l:=fs) (k:=k+m) (by omega)
    obtain⟨x2,hx2⟩:=B4 (l:=fs) (k:=k+m-1) (by omega)
    have hcy:(cur.drop k)[m]? = some y2:=by rw[List.getElem?_drop,hsame _ (by omega)];exact hy2
    have hcx:(cur.drop k)[((m:Int)-1).toNat]? = some x2:=by
     rw[List.getElem?_drop,hsame _ (by omega),show k+((m:Int)-1).toNat=k+m-1 from by omega];exact hx2
    have hfy2:=hok y2 (List.mem_of_getElem? hy2)
    have hfx2:=hok x2 (List.mem_of_getElem? hx2)
    have hsucc:=DR (p:=Vf) (by omega) hy2 hx2
    have hlen:n-k=((cur.drop k).map cF).length:=by simp[hcl]
    have hR2:P6 Γ (.own (.slice a n c) 135 2 (cur.map cF)::.blk b3 (.cells #[Ea] 137)::S) (.slice (Bu a k c 2) (n-k) (c-k)) 2 ((cur.drop k).map cF):=⟨_,_,_,rfl,hlen,by omega,by omega,fun w hw=>by
     have:=(Wd.own_rd (i:=0) hw rfl).cut (c:=c) (by simp;omega) k (by simp;omega)
     rwa [←List.map_drop]at this⟩
    refine A6 ?_;refine I5 (by kernel_rfl) (by kernel_rfl) hw ?_
    iterate 10 (first|refine Bq ?_|(apply S6;first|(apply Z1;first|refine qP ?_|refine Ut ?_)|refine qY ?_)|(apply L1;first|(apply Z1;first|refine Vo ?_|refine Hr ?_)|refine qG ?_))
    refine bj (v:=.bool (Vf y2 x2)) (cap:=[.pointer (some ⟨b3,0,none⟩)]) (vs:=[.agg (cF y2).toArray,.agg (cF x2).toArray]) (fun Y w hw=>?_) ?_
    ·have hw:Wd Γ (.blk b3 (.cells #[Ea] 137)::(.own (.slice a n c) 135 2 (cur.map cF)::S++Y)) w:=hw.ps [1]
     refine(PW hfy2 hfx2 hw).mono ?_
     rintro e w ⟨rfl,hw⟩
     exact⟨rfl,hw.ps [1]⟩
    refine EX ?_;intro w hw;refine A7 rfl (fun h4=>?_) (fun h4=>?_)
    ·have h4:Vf y2 x2=false:=by simpa using h4
     rw[if_neg (by rw[h4];decide)]at hsucc
     refine A6 ?_;refine Cq ?_;intro w hw;have hw:Wd Γ (.own (.slice a n c) 135 2 ((cur.map cF).set q (cF y2))::.blk b3 (.cells #[Ea] 137)::S) w:=hw
     rw[←List.map_set]at hw;refine A6 ?_;refine⟨n-(k+(m+1)),by omega,m+1,q+1,cur.set q y2,by omega,by omega,by omega,by omega,⟨rfl,rfl,rfl,rfl,rfl,trivial⟩,by rw[List.length_set];exact hcl,?_,fun i hi=>?_,hw⟩
     ·rw[show k+(m+1)=k+m+1 from rfl,hsucc,←hcur,List.take_add_one,List.take_set_of_le (by omega),List.getElem?_set_self (by omega)];rfl
     ·rw[List.getElem?_set_ne (by omega)];exact hsame i (by omega)
    ·have h4:Vf y2 x2=true:=by simpa using h4
     rw[if_pos h4]at hsucc;refine A6 ?_;exact⟨n-(k+(m+1)),by omega,m+1,q,cur,by omega,by omega,by omega,by omega,⟨rfl,rfl,rfl,rfl,rfl,trivial⟩,hcl,by rw[show k+(m+1)=k+m+1 from rfl,hsucc];exact hcur,fun i hi=>hsame i (by omega),hw⟩
   ·have hmn:k+m=n:=by have:=of_decide_eq_false h3;omega
    have hfn:fs.take n=fs:=List.take_of_length_le (by omega)
    rw[hmn,hfn]at hcur;have hqn:q≤n:=by omega
    have hw:=Wd.own_take (i:=0) (m:=q) hw rfl hqn
    rw[←List.map_take,hcur]at hw;have hw:Wd Γ (.own (.slice a q c) 135 2 ((s6 Vf fs).map cF)::.blk b3 (.cells #[Ea] 137)::S) w:=hw
    refine A6 ?_;refine ZC ?_;intro w hw;refine A6 ?_;exact⟨_,rfl,_,rfl,hw⟩
  ·rw[if_neg (by rw[h2];decide)]at hsucc
   refine A6 ?_;refine⟨μ-1,by omega,k+1,by omega,by omega,⟨rfl,rfl,rfl,trivial⟩,?_,hw⟩
   rw[hsucc,ho,List.take_add_one,hy];rfl
 ·have hkn:¬k<n:=by have:=of_decide_eq_false h;omega
  rw[List.take_of_length_le (by omega)]at ho
  refine A6 ?_;rw[ho];exact⟨_,rfl,_,rfl,hw⟩
end Go.Proofs.YtlimglpjpcfpdaaGreat
end
section
open Go Mk
namespace Go.Proofs.YtlimglpjpcfpdaaGreat
set_option maxHeartbeats 16000000
attribute [local irreducible] Calls I3
def o6(v:Val):Prop:=(-9223372036854775808≤v.Num∧v.Num≤9223372036854775807)∧v.Word.size≤9223372036854775807
def Dc(x:F9):Prop:=x.2.length≤100000∧x.1.size≤100000∧∀v∈x.2,o6 v
def EM(Γ:C8)(fs:List D1):Prop:=∀f∈fs,BS Γ f∧Dc f.fact
theorem EM.mono{Γ Γ':C8}{fs:List D1}(h:EM Γ fs)(hl:Γ.le Γ'):EM Γ' fs:=fun f hf=>⟨(h f hf).1.mono hl,(h f hf).2⟩
def facts(fs:List D1):List F9:=fs.map D1.fact
def N8(l:List F9):List F9:=Cf I3 l
theorem Jr{Γ:C8}{S:List B2}{w:World}{v:Value}(fs:List D1)(hok:EM Γ fs)(hl:fs.length≤100000)(hr:P6 Γ S v 2 (fs.map cF))(hw:Wd Γ S w) :
  Calls Tryz.prog 156 #[v,Ea] w fun e w'=>∃v' gs,e=.returned v'∧facts gs=N8 (facts fs)∧EM Γ gs∧Wd Γ (.own v' 135 2 (gs.map cF)::S) w':=by
 refine A9 Tryz.func156 rfl rfl ?_
 refine A6 ?_;refine H9 ?_;intro b3 w hw;have hw:Wd Γ (.blk b3 (.cells #[Ea] 137)::S) w:=hw
 refine A6 ?_;refine D3 (vs:=[v]) ?_
 refine(Ik hr.cons (by omega) hw).mono ?_
 rintro e w ⟨v1,rfl,hw⟩
 refine⟨_,rfl,?_⟩;refine A6 ?_;refine D3 (vs:=[v1,Ea]) ?_
 refine(Jo fs v1 (fun f hf=>(hok f hf).1) (by omega) hw).mono ?_
 rintro e w ⟨rfl,gs,hp,hs,hw⟩
 refine⟨_,rfl,?_⟩;have hokg:∀g∈gs,g∈fs:=fun g hg=>hp.mem_iff.1 hg
 have hgl:gs.length=fs.length:=hp.length_eq
 refine A6 ?_;refine D3 (vs:=[v1,.func (.func 226) #[] #[.pointer (some ⟨b3,0,none⟩)]]) ?_
 refine(PQ gs (fun g hg=>(hok g (hokg g hg)).1) (by omega) hw).mono ?_
 rintro e w ⟨v2,rfl,hw⟩
 refine⟨_,rfl,?_⟩;refine A6 ?_;refine⟨_,rfl,v2,s6 Vf gs,rfl,?_,fun g hg=>hok g (hokg g (HL hg)),hw.dropAt 1⟩
 refine MZ I0 D1.fact hp (hs.imp fun {a b} h q=>?_)
 have:Go.Proofs.ltOf I3 b.fact a.fact=true:=I0.lt_iff.2 q
 have h:Go.Proofs.ltOf I3 b.fact a.fact=false:=h
 rw[this]at h;cases h
theorem aj{Γ:C8}{S:List B2}{w:World}{v:Value}(fs:List D1)(hok:EM Γ fs)(hl:fs.length≤100000)(hr:P6 Γ S v 2 (fs.map cF))(hw:Wd Γ S w) :
  Calls Tryz.prog 107 #[v] w fun e w'=>∃Γ' v' gs,Γ.le Γ'∧e=.returned v'∧facts gs=N8 (facts fs)∧EM Γ' gs∧Wd Γ' (.own v' 135 2 (gs.map cF)::S) w':=by
 refine A9 Tryz.func107 rfl rfl ?_
 refine A6 ?_;refine D3 (vs:=[v,Ea]) ?_
 refine(Jr fs hok hl hr hw).mono ?_
 clear hw;rintro e w ⟨v1,gs0,rfl,hgs0,hok0,hw⟩
 refine⟨_,rfl,?_⟩;obtain⟨a,n,c,rfl,hn,hnc,hc⟩:=hw.own_shape (i:=0) rfl
 simp only[List.length_map]at hn
 refine A6 ?_;refine B5 (fun μ ρ w=>∃(Γ':C8) (k:Nat) (gs:List D1),μ+k=n∧Γ.le Γ'∧gs.length=n∧Has ρ [(3,.slice a n c),(8,.int .i64 n),(9,.int .i64 k)]∧facts gs=N8 (facts fs)∧EM Γ' gs∧Wd Γ' (.own (.slice a n c) 135 2 (gs.map cF)::S) w) n ⟨Γ,0,gs0,by omega,C8.le.refl _,hn.symm,⟨rfl,rfl,rfl,trivial⟩,hgs0,hok0,hw⟩ ?_
 clear hw hgs0 hok0 hn hok hr;rintro μ ρ w ⟨Γ',k,gs,hk,hle,hn,hρ,hgs,hok,hw⟩
 rw[hρ.eq];refine A6 ?_;refine A7 rfl (fun h=>?_) (fun h=>?_)
 ·have hkn:k<n:=by have:=of_decide_eq_true h;omega
  obtain⟨g,hg⟩:=B4 (l:=gs) (k:=k) (by omega)
  obtain⟨hf,hal⟩:=hok g (List.mem_of_getElem? hg)
  have hal1:g.Args.length≤100000:=hal.1
  refine A6 ?_;refine D3 (vs:=[g.hdr]) ?_
  refine(KJ (S:=.own (.slice a n c) 135 2 (gs.map cF)::S) hf (by omega) hw).mono ?_
  clear hw;rintro e w ⟨v2,rfl,hw⟩
  refine⟨_,rfl,?_⟩;obtain⟨a2,n2,c2,rfl,-,-,-⟩:=hw.own_shape (i:=0) rfl
  obtain⟨Γ2,hle2,hr2,hw⟩:=hw.freeze;refine A6 ?_;refine Oo (i:=0) (r:=[.slice a2 n2 c2]) ?_ (B9 hg)
  intro w hw;have hw:Wd Γ2 (.own (.slice a n c) 135 2 ((gs.map cF).set k (cF ⟨g.Rel,a2,n2,c2,g.Args⟩))::S) w:=hw
  rw[←List.map_set]at hw;refine A6 ?_;refine⟨μ-1,by omega,Γ2,k+1,gs.set k ⟨g.Rel,a2,n2,c2,g.Args⟩,by omega,hle.trans hle2,by rw[List.length_set];exact hn,⟨rfl,rfl,rfl,trivial⟩,?_,fun f hf2=>?_,hw⟩
  ·rw[←hgs];unfold facts;rw[List.map_set];refine List.ext_getElem? fun i=>?_
   rw[List.getElem?_set];split
   ·rename_i e;subst e
    rw[List.getElem?_map,hg];simp[hn,hkn,D1.fact]
   ·rfl
  ·rcases List.mem_or_eq_of_mem_set hf2 with q|q
   ·exact⟨(hok f q).1.mono hle2,(hok f q).2⟩
   ·subst q;exact⟨hr2,hal⟩
 ·refine A6 ?_;exact⟨_,rfl,Γ',_,gs,hle,rfl,hgs,hok,hw⟩
end Go.Proofs.YtlimglpjpcfpdaaGreat
end
section
open Go Mk
namespace Go.Proofs.YtlimglpjpcfpdaaGreat
set_option maxHeartbeats 16000000
attribute [local irreducible] Calls I3
theorem XH(a:Int):-9223372036854775808≤IntKind.i64.wrap a∧IntKind.i64.wrap a≤9223372036854775807:=by
 rw[IntKind.wrap_i64];omega
section
variable {Γ:C8}{S:List B2}{w:World}
attribute [local irreducible] I8 Dv aA
end
end Go.Proofs.YtlimglpjpcfpdaaGreat
end
section
open Go Mk
namespace Go.Proofs.YtlimglpjpcfpdaaGreat
set_option maxHeartbeats 16000000
attribute [local irreducible] Calls I3
def Hb(s:ByteArray):Bool:=(M8 s).all AI
def FX(s:ByteArray):Bool:=Hb s&&decide (0<s.size)&&decide (s.size≤24)
def M1(v:Val):Bool:=(decide (v.Kind=1)&&decide (v.Word=⟨#[]⟩))||(decide (v.Kind=2)&&decide (v.Num=0)&&FX v.Word)
def DX(x:F9):Bool:=G7 x.1&&decide (1≤x.2.length)&&decide (x.2.length≤8)&&x.2.all M1
theorem PX{s:ByteArray}{i:Nat}{b:UInt8}(h:(M8 s)[i]? = some b):BX (B3 s i)=AI b:=by
 have:B3 s i=(b.toNat:Int):=by
  show ((s.data.toList.getD i 0).toNat:Int)=_
  rw[List.getD_eq_getElem?_getD,show s.data.toList[i]? = some b from h];rfl
 rw[this];rfl
theorem YI{s:ByteArray}(h:∀i,i<s.size→BX (B3 s i)=true):Hb s=true:=by
 refine List.all_eq_true.2 fun b hb=>?_
 obtain⟨i,hi⟩:=List.mem_iff_getElem?.1 hb
 have hlt:=(List.getElem?_eq_some_iff.1 hi).1
 rw[P8]at hlt;rw[←PX hi];exact h i hlt
theorem Xf{s:ByteArray}{i:Nat}(hi:i<s.size)(h:BX (B3 s i)=false):Hb s=false:=by
 obtain⟨b,hb⟩:=B4 (l:=M8 s) (k:=i) (by rw[P8];exact hi)
 refine List.all_eq_false.2 ⟨b,List.mem_of_getElem? hb,?_⟩
 rw[←PX hb,h];decide
theorem SY(s:ByteArray)(hs:s.size≤9223372036854775807):PC Tryz.prog 273 [.string s] (.bool (FX s)):=⟨fun w=>by
 refine A9 Tryz.func273 rfl rfl ?_
 refine A6 ?_;refine B5 (fun μ ρ w'=>∃(k:Nat),μ+k=s.size∧Has ρ [(0,.string s),(3,.int .i64 k)]∧(∀i,i<k→BX (B3 s i)=true)∧w'=w) s.size ⟨0,by omega,⟨rfl,rfl,trivial⟩,fun i hi=>by omega,rfl⟩ ?_
 rintro μ ρ w' ⟨k,hk,hρ,hall,rfl⟩
 rw[hρ.eq];refine A6 ?_;refine A7 rfl (fun h=>?_) (fun h=>?_)
 ·have hkn:k<s.size:=by have:=of_decide_eq_true h;omega
  refine A6 ?_;refine A7 rfl (fun h2=>?_) (fun h2=>?_)
  ·refine A6 ?_;refine⟨_,rfl,F6 rfl ?_,rfl⟩
   have h3:BX (B3 s k)=false:=by
    have h2':(((decide (B3 s k<32)||decide (126<B3 s k))||decide (B3 s k=34))||decide (B3 s k=92))=true:=h2
    unfold BX;simp only[Bool.or_eq_true,decide_eq_true_eq]at h2'
    simp only[Bool.and_eq_false_iff,decide_eq_false_iff_not]
    omega
   unfold FX;rw[Xf hkn h3];rfl
  ·refine A6 ?_;refine⟨μ-1,by omega,k+1,by omega,⟨rfl,rfl,trivial⟩,fun i hi=>?_,rfl⟩
   by_cases e:i=k
   ·subst e;have h2':(((decide (B3 s i<32)||decide (126<B3 s i))||decide (B3 s i=34))||decide (B3 s i=92))=false:=h2
    unfold BX;simp only[Bool.or_eq_false_iff,decide_eq_false_iff_not]at h2'
    simp only[Bool.and_eq_true,decide_eq_true_eq]
    omega
   ·exact hall i (by omega)
 ·have hkn:¬k<s.size:=by have:=of_decide_eq_false h;omega
  refine A6 ?_;refine⟨_,rfl,F6 rfl ?_,rfl⟩
  unfold FX;rw[YI fun i hi=>hall i (by omega)]
  have e1:decide (s≠⟨#[]⟩)=decide (0<s.size):=by simp only[ne_nilB]
  rw[e1,Bool.true_and];congr 1
  rw[decide_eq_decide];omega⟩
theorem XW{Γ:C8}{f:D1}(hf:BS Γ f)(ho:Dc f.fact):PG Tryz.prog Γ 259 [.agg (cF f).toArray] (.bool (DX f.fact)):=⟨fun S w hw=>by
 obtain⟨l1,l2,l3⟩:=hf.len;obtain⟨o1,o2,o3⟩:=ho;have hr:=hf
 unfold BS D1.hdr at hr;obtain⟨fr,fa,fn,fc,fs⟩:=f;simp only[D1.fact]at l1 l2 l3 o1 o2 o3 hr ⊢
 haveI:SB fr:=⟨by omega⟩
 refine A9 Tryz.func259 rfl rfl ?_
 refine A6 ?_;refine H9 ?_;intro b1 w hw;have hw:Wd Γ (.blk b1 (.cells #[.string fr,.slice fa fn fc] 135)::S) w:=hw
 refine A6 ?_;refine A7 rfl (fun h=>?_) (fun h=>?_)
 ·refine A6 ?_;refine⟨_,rfl,F6 rfl ?_,hw.drop⟩
  unfold DX;have h':((!G7 fr||decide ((fn:Int)<1))||decide (8<(fn:Int)))=true:=h
  simp only[Bool.or_eq_true,Bool.not_eq_true',decide_eq_true_eq]at h'
  symm
  rcases h' with (q|q)|q
  ·rw[q];rfl
  ·rw[show decide (1≤fs.length)=false from decide_eq_false (by omega)];simp
  ·rw[show decide (fs.length≤8)=false from decide_eq_false (by omega)];simp
 have h':((!G7 fr||decide ((fn:Int)<1))||decide (8<(fn:Int)))=false:=h
 simp only[Bool.or_eq_false_iff,Bool.not_eq_false',decide_eq_false_iff_not]at h'
 obtain⟨⟨q1,q2⟩,q3⟩:=h';have hR:DX (fr,fs)=fs.all M1:=by
  unfold DX;rw[q1,show decide (1≤fs.length)=true from decide_eq_true (by omega),show decide (fs.length≤8)=true from decide_eq_true (by omega)];simp
 rw[hR];refine A6 ?_;refine B5 (fun μ ρ w=>∃(k:Nat),μ+k=fn∧Has ρ [(24,.slice fa fn fc),(25,.int .i64 fn),(26,.int .i64 k)]∧fs.all M1=(fs.drop k).all M1∧Wd Γ S w) fn ⟨0,by omega,⟨rfl,rfl,rfl,trivial⟩,rfl,hw.drop⟩ ?_
 clear hw;rintro μ ρ w ⟨k,hk,hρ,ho,hw⟩
 rw[hρ.eq];refine A6 ?_;refine A7 rfl (fun h2=>?_) (fun h2=>?_)
 ·have hkn:k<fn:=by have:=of_decide_eq_true h2;omega
  obtain⟨v,hv⟩:=B4 (l:=fs) (k:=k) (by omega)
  rw[R9 hv]at ho;have hvo:=o3 v (List.mem_of_getElem? hv)
  have hT:=SY v.Word hvo.2
  refine A6 ?_;refine C0 ?_;intro b4 w hw;refine B1 ?_;intro w hw;have hw:Wd Γ (.blk b4 (.cells (enc v).toArray 54)::S) w:=hw
  refine A6 ?_;refine A7 rfl (fun h3=>?_) (fun h3=>?_)
  ·refine A6 ?_;refine⟨_,rfl,F6 rfl ?_,hw.drop⟩
   have h3':(!(decide (v.Kind=1)&&decide (v.Word=⟨#[]⟩)) && !(decide (v.Kind=2)&&decide (v.Num=0)&&FX v.Word))=true:=h3
   have:M1 v=false:=by
    unfold M1;simp only[Bool.and_eq_true,Bool.not_eq_true']at h3'
    rw[h3'.1,h3'.2];rfl
   rw[ho,List.all_cons,this];rfl
  ·refine A6 ?_;refine⟨μ-1,by omega,k+1,by omega,⟨rfl,rfl,rfl,trivial⟩,?_,hw.drop⟩
   have h3':(!(decide (v.Kind=1)&&decide (v.Word=⟨#[]⟩)) && !(decide (v.Kind=2)&&decide (v.Num=0)&&FX v.Word))=false:=h3
   have:M1 v=true:=by
    unfold M1;rw[Bool.and_eq_false_iff,Bool.not_eq_false',Bool.not_eq_false']at h3';rw[Bool.or_eq_true];exact h3'
   rw[ho,List.all_cons,this];rfl
 ·refine A6 ?_;refine⟨_,rfl,F6 rfl ?_,hw⟩
  rw[ho,G9 fs (by have:=of_decide_eq_false h2;omega)];rfl⟩
end Go.Proofs.YtlimglpjpcfpdaaGreat
end
section
open Go Mk
namespace Go.Proofs.YtlimglpjpcfpdaaGreat
set_option maxHeartbeats 16000000
attribute [local irreducible] Calls I3
def z7(n:Int):ByteArray:=⟨(Lib.itoa n).toArray⟩
def Cr:ByteArray:=⟨#[34]⟩
def Mo(v:Val):ByteArray:=if v.Kind=1 then z7 v.Num else if G7 v.Word=true then v.Word else (Cr++v.Word)++Cr
theorem Ui{v:Val}(hr:M1 v=true):v.Word.size≤100000:=by
 unfold M1 FX at hr;simp only[Bool.or_eq_true,Bool.and_eq_true,decide_eq_true_eq]at hr
 rcases hr with q|q
 ·rw[q.2];decide
 ·have:=q.2.2;omega
end Go.Proofs.YtlimglpjpcfpdaaGreat
end
section
open Go Mk
namespace Go.Proofs.YtlimglpjpcfpdaaGreat
set_option maxHeartbeats 16000000
attribute [local irreducible] Calls I3
section
variable {Γ:C8}{S:List B2}{w:World}{b:Nat}
end
end Go.Proofs.YtlimglpjpcfpdaaGreat
end
section
open Go Mk
namespace Go.Proofs.YtlimglpjpcfpdaaGreat
set_option maxHeartbeats 16000000
attribute [local irreducible] Calls I3
theorem GE:∀(k u:Nat),u<10 ^ (k+1)→Lib.nDigits u≤k+1
 | 0,u,h=>by rw[Lib.nDigits_small (by simpa using h)];exact Nat.le_refl _
 | k+1,u,h=>by
  by_cases hu:u<10
  ·rw[Lib.nDigits_small hu];omega
  ·rw[Lib.nDigits_big hu];have:=GE k (u / 10) (by rw[Nat.div_lt_iff_lt_mul (by decide)];rw[Nat.pow_succ]at h;exact h)
   omega
theorem QM{n:Int}(h0:-9223372036854775808≤n)(h1:n≤9223372036854775807):(z7 n).size≤25:=by
 have hs:(z7 n).size=(Lib.itoa n).length:=by show (List.toArray _).size=_;simp
 have hd:∀u:Nat,u≤9223372036854775808→(Lib.decDigits u).length≤20:=fun u hu=>by
  rw[Lib.decDigits_length];exact GE 19 u (by omega)
 rw[hs];unfold Lib.itoa;split
 ·have:=hd n.natAbs (by omega)
  simp only[List.length_cons];omega
 ·have:=hd n.toNat (by omega)
  omega
end Go.Proofs.YtlimglpjpcfpdaaGreat
end
section
open Go Mk
namespace Go.Proofs.YtlimglpjpcfpdaaGreat
set_option maxHeartbeats 16000000
attribute [local irreducible] Calls I3
section
variable {Γ:C8}{S:List B2}{w:World}{b:Nat}
abbrev On(b:Nat)(f:D1):B2:=.blk b (.cells (cF f).toArray 135)
end
end Go.Proofs.YtlimglpjpcfpdaaGreat
end
section
open Go Mk
namespace Go.Proofs.YtlimglpjpcfpdaaGreat
set_option maxHeartbeats 16000000
attribute [local irreducible] Calls I3
end Go.Proofs.YtlimglpjpcfpdaaGreat
end
section
open Go Mk
namespace Go.Proofs.YtlimglpjpcfpdaaGreat
set_option maxHeartbeats 16000000
attribute [local irreducible] Calls I3
end Go.Proofs.YtlimglpjpcfpdaaGreat
end
section
open Go
namespace Mk
attribute [local irreducible] Calls
section
variable {P:Program}{n:Nat}{ops:List Oper}{Γ:C8}{K:List B2}{wr tc stab:List (List Nat)}{Q:Fr→World→Prop}{i:Nat}{rest:List Oper}{ρ:Fr}{M:Nat→Fr→List B2}
variable {d:Option Tmp}{ty:TypeId}{pos:String}{es:Array Edge}{f:Nat}{args:List Operand}{tys:Array TypeId}
theorem Rz{c:Nat}{F:Fr→List B2}(F':Fr→List B2)(vs:Fr→List Value)[C7 P f]
  (hs:∀g w Y,Wd Γ (F (E7 (stab.getD c []) g D4)++(K++Y)) w→Calls P f (vs (E7 (stab.getD c []) g D4)).toArray w fun e w'=>∃u,e=.returned u∧Wd Γ (F' (E7 (stab.getD c []) (D2 g d u) D4)++(K++Y)) w')
  (h:MSw (mV P n ops Γ K wr tc stab) Q (i+1) rest ⟨D2 ρ d undef,H5 M c F'⟩) (hM:M c=F:=by first|exact B0|exact UY|exact Cm|exact((A0 (by decide)).trans B0)|exact rfl) (hw0:wr.getD i []=[c]:=by exact rfl) (ht:tc.getD i []=[c]:=by exact rfl) (hfr:T8 stab d=true:=by exact rfl) (ha:∀g,EvL (E7 stab.flatten g ρ) args (vs (E7 (stab.getD c []) g D4)):=by intro g;exact v7) :
  MSw (mV P n ops Γ K wr tc stab) Q i (⟨d,.call { callee:=.value (.func f),args:=args.toArray,argTypes:=tys },ty,pos,es,none⟩::rest) ⟨ρ,M⟩:=
 mS (v:=undef) F' (fun g w Y hw=>An (ha g).eqA ((hs g w Y hw).mono fun e w' ⟨u,h1,h2⟩=>⟨u,h1,fun hh=>(by rw[hfr]at hh;cases hh),h2⟩)) h hM hw0 ht rfl
end
end Mk
end
section
open Go Mk
namespace Go.Proofs.YtlimglpjpcfpdaaGreat
set_option maxHeartbeats 16000000
attribute [local irreducible] Calls I3
abbrev FU(g:D1):B2:=.own g.hdr 54 3 (g.Args.map enc)
theorem MR{Γ:C8}{S:List B2}{w:World}:∀(gs:List D1),Wd Γ (gs.map FU++S) w→∃Γ',Γ.le Γ'∧(∀g∈gs,BS Γ' g)∧Wd Γ' S w
 | [],h=>⟨Γ,C8.le.refl _,(fun g hg=>by cases hg),h⟩
 | g::gs,h=>by
  obtain⟨Γ1,l1,r1,h1⟩:=Wd.freeze (h:Wd Γ (FU g::(gs.map FU++S)) w)
  obtain⟨Γ2,l2,r2,h2⟩:=MR gs h1
  refine⟨Γ2,l1.trans l2,fun x hx=>?_,h2⟩
  rcases List.mem_cons.1 hx with e|e
  ·rw[e];exact D9.mono r1 l2
  ·exact r2 x e
def Ic(gs:List D1):Prop:=∀g∈gs,Dc g.fact
theorem Oh{Γ:C8}{S:List B2}{w:World}{v:Value}(fs:List D1)(hok:EM Γ fs)(hl:fs.length≤100000)(hr:P6 Γ S v 2 (fs.map cF))(hw:Wd Γ S w) :
  Calls Tryz.prog 107 #[v] w fun e w'=>∃v' gs,e=.returned v'∧facts gs=N8 (facts fs)∧Ic gs∧Wd Γ (.own v' 135 2 (gs.map cF)::(gs.map FU++S)) w':=by
 refine A9 Tryz.func107 rfl rfl ?_
 refine A6 ?_;refine D3 (vs:=[v,Ea]) ?_
 refine(Jr fs hok hl hr hw).mono ?_
 clear hw;rintro e w ⟨v1,gs0,rfl,hgs0,hok0,hw⟩
 refine⟨_,rfl,?_⟩;obtain⟨a,n,c,rfl,hn,hnc,hc⟩:=hw.own_shape (i:=0) rfl
 simp only[List.length_map]at hn
 refine A6 ?_;refine B5 (fun μ ρ w=>∃(gs hs:List D1),μ+gs.length=n∧gs.length+hs.length=n∧Has ρ [(3,.slice a n c),(8,.int .i64 n),(9,.int .i64 (gs.length:Nat))]∧facts (gs++hs)=N8 (facts fs)∧EM Γ hs∧Ic gs∧Wd Γ (.own (.slice a n c) 135 2 ((gs++hs).map cF)::(gs.map FU++S)) w) n ⟨[],gs0,by simp,by simp[hn],⟨rfl,rfl,rfl,trivial⟩,hgs0,hok0,(fun g hg=>by cases hg),hw⟩ ?_
 clear hw hgs0 hok0 hn hok hr;rintro μ ρ w ⟨gs,hs,hk,hn,hρ,hgs,hok,hok1,hw⟩
 rw[hρ.eq];refine A6 ?_;refine A7 rfl (fun h=>?_) (fun h=>?_)
 ·have hkn:gs.length<n:=by have:=of_decide_eq_true h;omega
  cases hs with
  | nil=>simp at hn;omega
  | cons g hs=>
   have hg:(gs++g::hs)[gs.length]? = some g:=by rw[List.getElem?_append_right (Nat.le_refl _)];simp
   obtain⟨hf,hal⟩:=hok g (by simp)
   have hal1:g.Args.length≤100000:=hal.1
   have hll:(gs++g::hs).length=n:=by rw[List.length_append];exact hn
   refine A6 ?_;refine D3 (vs:=[g.hdr]) ?_
   refine(KJ (S:=.own (.slice a n c) 135 2 ((gs++g::hs).map cF)::(gs.map FU++S)) hf (by omega) hw).mono ?_
   clear hw;rintro e w ⟨v2,rfl,hw⟩
   refine⟨_,rfl,?_⟩;obtain⟨a2,n2,c2,rfl,-,-,-⟩:=hw.own_shape (i:=0) rfl
   refine A6 ?_;refine Oo (i:=1) (r:=[.slice a2 n2 c2]) ?_ (B9 hg)
   intro w hw;have hw:Wd Γ (.own (.slice a2 n2 c2) 54 3 (g.Args.map enc)::.own (.slice a n c) 135 2 (((gs++g::hs).map cF).set gs.length (cF ⟨g.Rel,a2,n2,c2,g.Args⟩))::(gs.map FU++S)) w:=hw
   have e2:((gs++g::hs).map cF).set gs.length (cF ⟨g.Rel,a2,n2,c2,g.Args⟩)=((gs++[(⟨g.Rel,a2,n2,c2,g.Args⟩:D1)])++hs).map cF:=by
    rw[←List.map_set,List.set_append_right _ _ (Nat.le_refl _),Nat.sub_self,List.set_cons_zero,List.append_assoc];rfl
   rw[e2]at hw;refine A6 ?_;refine⟨μ-1,by omega,gs++[⟨g.Rel,a2,n2,c2,g.Args⟩],hs,by simp;omega,by simp at hn ⊢;omega,⟨rfl,rfl,by simp;rfl,trivial⟩,?_,fun x hx=>hok x (by simp[hx]),fun x hx=>?_,?_⟩
   ·rw[←hgs];unfold facts;simp[D1.fact]
   ·rcases List.mem_append.1 hx with q|q
    ·exact hok1 x q
    ·rw[List.mem_singleton.1 q];exact hal
   ·have e3:((gs++[(⟨g.Rel,a2,n2,c2,g.Args⟩:D1)]).map FU++S)=gs.map FU++(FU ⟨g.Rel,a2,n2,c2,g.Args⟩::S):=by simp
    rw[e3];exact hw.perm ((List.Perm.swap _ _ _).trans (List.Perm.cons _ List.perm_middle.symm))
 ·have hkn:¬gs.length<n:=by have:=of_decide_eq_false h;omega
  have hs0:hs=[]:=List.eq_nil_of_length_eq_zero (by omega)
  subst hs0;rw[List.append_nil]at hw hgs
  refine A6 ?_;exact⟨_,rfl,_,gs,rfl,hgs,hok1,hw⟩
structure RL(Γ:C8)(v:Value)(fs:List D1):Prop where
 rep:D9 Γ v 2 (fs.map cF)
 ok:EM Γ fs
theorem RL.mono{Γ Γ':C8}{v:Value}{fs:List D1}(h:RL Γ v fs)(hl:Γ.le Γ'):RL Γ' v fs:=⟨h.rep.mono hl,h.ok.mono hl⟩
theorem RL.nil{Γ:C8}:RL Γ (.slice none 0 0) []:=⟨D9.nil,fun f hf=>by cases hf⟩
theorem RL.len{Γ:C8}{v:Value}{fs:List D1}(h:RL Γ v fs):∃a c,v=.slice a fs.length c∧fs.length≤c∧c≤9223372036854775807:=by
 obtain⟨a,n,c,h1,h2,h3,h4⟩:=h.rep.shape;simp only[List.length_map]at h2
 subst h2;exact⟨a,c,h1,h3,h4⟩
theorem Tp{Γ:C8}{S:List B2}{w:World}{v:Value}{gs:List D1}(hok:Ic gs)(hw:Wd Γ (.own v 135 2 (gs.map cF)::(gs.map FU++S)) w):∃Γ',Γ.le Γ'∧RL Γ' v gs∧Wd Γ' S w:=by
 obtain⟨Γ1,l1,r1,h1⟩:=hw.freeze;obtain⟨Γ2,l2,r2,h2⟩:=MR gs h1
 exact⟨Γ2,l1.trans l2,⟨r1.mono l2,fun g hg=>⟨r2 g hg,hok g hg⟩⟩,h2⟩
def NM(l:List F9)(f:F9):List F9×Int:=if DX f=true then (if (N8 (l++[f])).length≤8192 then (N8 (l++[f]),0) else ([],15)) else ([],63)
section
variable {Γ:C8}{S:List B2}{w:World}
theorem Rr{v:Value}{f:D1}(fs:List D1)(hok:EM Γ fs)(hl:fs.length≤50000)(hf:BS Γ f)(hfo:Dc f.fact)(hr:P6 Γ S v 2 (fs.map cF))(hw:Wd Γ S w) :
  Calls Tryz.prog 223 #[v,.agg (cF f).toArray] w fun e w'=>∃Γ' v' gs,Γ.le Γ'∧e=.returned (.tuple #[v',.int .i64 (NM (facts fs) f.fact).2])∧facts gs=(NM (facts fs) f.fact).1∧RL Γ' v' gs∧Wd Γ' S w':=by
 obtain⟨a,n,c,rfl,hn,hnc,hc⟩:=hr.shape;simp only[List.length_map]at hn
 have hR:=XW hf hfo
 have hall:EM Γ (fs++[f]):=fun x hx=>by
  rcases List.mem_append.1 hx with q|q
  ·exact hok x q
  ·rw[List.mem_singleton.1 q];exact⟨hf,hfo⟩
 refine A9 Tryz.func223 rfl rfl ?_
 refine A6 ?_;refine H9 ?_;intro b w hw;have hw:Wd Γ (On b f::S) w:=hw
 repeat first|refine U9 ?_|refine V5 ?_;intro w hw
 refine A7 rfl (fun h=>?_) (fun h=>?_)
 ·have h:DX f.fact=false:=by simpa using h
  have hI:NM (facts fs) f.fact=([],63):=if_neg (by rw[h];decide)
  rw[hI];refine A6 ?_;exact⟨_,rfl,Γ,_,[],C8.le.refl _,rfl,rfl,RL.nil,hw.drop⟩
 have h:DX f.fact=true:=by simpa using h
 refine A6 ?_;refine Jd 2 [[],[0],[],[1],[0],[0],[0]] [[],[0],[],[1],[0,1],[0],[0]] [[11,14,15,6],[13]] ?_
 refine R1 ?_;refine Rz (c:=0) (F:=fun _=>[]) (fun g=>[.own (g 11) 135 2 (fs.map cF)]) (fun _=>[.slice a n c]) (fun g w Y hw=>?_) ?_
 ·have hR2:P6 Γ ((On b f::S)++Y) (.slice a n c) 2 (fs.map cF):=P6.app (P6.cons hr)
  refine(Ik hR2 (by omega) hw).mono ?_
  rintro e w ⟨v1,rfl,hw⟩
  exact⟨v1,rfl,hw⟩
 refine R1 ?_;refine g8 [cF f] ?_
 refine Yv (rows2:=[cF f]) ?_ (Nm [f]) (hb:=by simp;omega) (h63:=by simp;omega)
 refine Rz (c:=0) (F:=fun g=>[.own (g 14) 135 2 (fs.map cF++[cF f])]) (P5 (fun (t:Value×List D1) g=>g 15=t.1∧facts t.2=N8 (facts fs++[f.fact])∧Ic t.2) fun t=>.own t.1 135 2 (t.2.map cF)::t.2.map FU) (fun g=>[g 14]) (fun g w Y hw=>?_) ?_
 ·have hw:Wd Γ ([.own (E7 [11,14,15,6] g D4 14) 135 2 ((fs++[f]).map cF)]++((On b f::S)++Y)) w:=by rw[List.map_append];exact hw
  refine(Oh (fs++[f]) hall (by simp;omega) (P6.own (i:=0) hw rfl) hw).mono ?_
  clear hw;rintro e w ⟨v1,gs,rfl,h1,h2,hw⟩
  have h1:facts gs=N8 (facts fs++[f.fact]):=by rw[h1];unfold facts;rw[List.map_append];rfl
  refine⟨v1,rfl,U2 (v1,gs) ⟨rfl,h1,h2⟩ ?_⟩
  have hw:Wd Γ ((.own v1 135 2 (gs.map cF)::gs.map FU)++(.own (E7 [11,14,15,6] g D4 14) 135 2 ((fs++[f]).map cF)::((On b f::S)++Y))) w:=hw
  exact(hw.perm List.perm_middle).drop
 refine fB (c:=0) (T:=Value×List D1) (φ:=fun t g=>g 15=t.1∧facts t.2=N8 (facts fs++[f.fact])∧Ic t.2) (fun t=>t.1) (fun t g w Y ht _=>HQ ht.1) ?_ (hφ:=fun t g u h=>h)
 refine S5 fun w g hw=>?_
 have hw:Wd Γ ((On b f::S)++(P5 (fun (t:Value×List D1) g=>(g 15=t.1∧facts t.2=N8 (facts fs++[f.fact])∧Ic t.2)∧g 6=t.1) (fun t=>.own t.1 135 2 (t.2.map cF)::t.2.map FU) (E7 [11,14,15,6] g D4)++([.own (g 13) 135 2 [cF f]]++[]))) w:=hw
 obtain⟨⟨v1,gs⟩,⟨⟨-,h1,h2⟩,e6⟩,hw⟩:=L9 hw.swapApp
 have e6:g 6=v1:=e6
 have h1:facts gs=N8 (facts fs++[f.fact]):=h1
 have h2:Ic gs:=h2
 obtain⟨Γ1,l1,hL,hw⟩:=Tp h2 hw
 have hw5:Wd Γ1 (On b f::S) w:=hw.left
 have hgl:gs.length=(N8 (facts fs++[f.fact])).length:=by rw[←h1];unfold facts;rw[List.length_map]
 have hL:RL Γ1 v1 gs:=hL
 obtain⟨a6,c6,rfl,k1,k2⟩:=hL.len;have hw:Wd Γ1 (On b f::S) w:=hw5
 refine Ob (l:=[(6,.slice a6 gs.length c6)]) ⟨e6,trivial⟩ fun ρ hρ=>?_
 rw[hρ.eq];refine A6 ?_;refine A7 rfl (fun h5=>?_) (fun h5=>?_)
 ·have h5:8192<gs.length:=by have:=of_decide_eq_true h5;omega
  have hI:NM (facts fs) f.fact=([],15):=by unfold NM;rw[if_pos h,if_neg (by omega)]
  rw[hI];refine A6 ?_;exact⟨_,rfl,Γ1,_,[],l1,rfl,rfl,RL.nil,hw.drop⟩
 ·have h5:gs.length≤8192:=by have:=of_decide_eq_false h5;omega
  have hI:NM (facts fs) f.fact=(N8 (facts fs++[f.fact]),0):=by unfold NM;rw[if_pos h,if_pos (by omega)]
  rw[hI];refine A6 ?_;exact⟨_,rfl,Γ1,_,gs,l1,rfl,h1,hL,hw.drop⟩
end
end Go.Proofs.YtlimglpjpcfpdaaGreat
end
section
open Go Mk
namespace Go.Proofs.YtlimglpjpcfpdaaGreat
set_option maxHeartbeats 16000000
attribute [local irreducible] Calls I3
section
variable {Γ:C8}
end
end Go.Proofs.YtlimglpjpcfpdaaGreat
end
section
open Go Mk
namespace Go.Proofs.YtlimglpjpcfpdaaGreat
set_option maxHeartbeats 16000000
attribute [local irreducible] Calls I3
theorem Ue{p:D1→Bool}{fs:List D1}{j:Nat}{x:D1}(h:fs[j]? = some x):(fs.take (j+1)).filter p=if p x=true then (fs.take j).filter p++[x] else (fs.take j).filter p:=by
 rw[List.take_add_one,h,List.filter_append];show _++[x].filter p=_
 rw[List.filter_cons];split <;> simp
section
variable {Γ:C8}{S:List B2}{w:World}{b:Nat}
end
end Go.Proofs.YtlimglpjpcfpdaaGreat
end
section
open Go Mk
namespace Go.Proofs.YtlimglpjpcfpdaaGreat
set_option maxHeartbeats 16000000
attribute [local irreducible] Calls I3
section
variable {Γ:C8}{S:List B2}{w:World}
end
end Go.Proofs.YtlimglpjpcfpdaaGreat
end
section
open Go Mk
namespace Go.Proofs.YtlimglpjpcfpdaaGreat
set_option maxHeartbeats 16000000
attribute [local irreducible] Calls I3
section
variable {Γ:C8}{S:List B2}{w:World}
end
end Go.Proofs.YtlimglpjpcfpdaaGreat
end
section
open Go Mk
namespace Go.Proofs.YtlimglpjpcfpdaaGreat
set_option maxHeartbeats 16000000
attribute [local irreducible] Calls I3
def FW(r:ByteArray)(m:Int)(x:F9):Bool:=decide (x.1=r)&&decide ((x.2.length:Int)=m)
def FR(r:ByteArray)(m:Int)(x:D1):Bool:=decide (x.Rel=r)&&decide ((x.N:Int)=m)
def Qt(l:List F9)(r:ByteArray)(m:Int):List F9:=(N8 l).filter (FW r m)
theorem bK{Γ:C8}{r:ByteArray}{m:Int}{x:D1}(h:BS Γ x):FR r m x=FW r m x.fact:=by
 have:=h.len.1
 unfold FR FW;rw[this];rfl
theorem Lv{Γ:C8}{r:ByteArray}{m:Int}:∀ {fs:List D1},(∀x∈fs,BS Γ x)→facts (fs.filter (FR r m))=(facts fs).filter (FW r m)
 | [],_=>rfl
 | x::fs,h=>by
  have ih:=Lv (r:=r) (m:=m) (fs:=fs) fun y hy=>h y (List.mem_cons_of_mem _ hy)
  show facts ((x::fs).filter (FR r m))=(x.fact::facts fs).filter (FW r m)
  rw[List.filter_cons,List.filter_cons,bK (h x List.mem_cons_self)];split
  ·show x.fact::facts _=_
   rw[ih]
  ·exact ih
section
variable {Γ:C8}{S:List B2}{w:World}
theorem SL{v:Value}{r:ByteArray}{m:Int}(fs:List D1)(hok:EM Γ fs)(hl:fs.length≤50000)(hr:D9 Γ v 2 (fs.map cF))(hw:Wd Γ S w) :
  Calls Tryz.prog 49 #[v,.string r,.int .i64 m] w fun e w'=>∃v' gs,e=.returned v'∧facts gs=Qt (facts fs) r m∧Ic gs∧Wd Γ (.own v' 135 2 (gs.map cF)::(gs.map FU++S)) w':=by
 obtain⟨a,n,c,rfl,hn,hnc,hc⟩:=hr.shape;simp only[List.length_map]at hn
 refine A9 Tryz.func49 rfl rfl ?_
 refine A6 ?_;refine B5 (fun μ ρ w=>∃(k:Nat) (g:Value),μ+k=n∧Has ρ [(1,.string r),(2,.int .i64 m),(7,g),(10,.slice a n c),(11,.int .i64 n),(12,.int .i64 k)]∧Wd Γ (.own g 135 2 (((fs.take k).filter (FR r m)).map cF)::S) w) n ⟨0,.slice none 0 0,by omega,⟨rfl,rfl,rfl,rfl,rfl,rfl,trivial⟩,Wd.addNil hw⟩ ?_
 clear hw;rintro μ ρ w ⟨k,g,hk,hρ,hw⟩
 rw[hρ.eq];refine A6 ?_;refine A7 rfl (fun h=>?_) (fun h=>?_)
 ·have hkn:k<n:=by have:=of_decide_eq_true h;omega
  obtain⟨x,hx⟩:=B4 (l:=fs) (k:=k) (by omega)
  have hxo:=(hok x (List.mem_of_getElem? hx)).1
  have hsucc:=Ue (p:=FR r m) hx
  have hfl:=List.length_filter_le (FR r m) (fs.take k)
  rw[List.length_take]at hfl;refine A6 ?_;refine C0 ?_;intro b9 w hw;refine B1 ?_;intro w hw;have hw:Wd Γ (On b9 x::.own g 135 2 (((fs.take k).filter (FR r m)).map cF)::S) w:=hw
  refine A6 ?_;refine A7 rfl (fun h3=>?_) (fun h3=>?_)
  ·have h3:FR r m x=true:=h3
   rw[if_pos h3]at hsucc;obtain⟨ag,ng,cg,rfl,hng,hngc,hcg⟩:=hw.own_shape (i:=1) rfl
   simp only[List.length_map]at hng
   refine A6 ?_;refine B6 [cF x] ?_
   intro a29 w hw;refine V7 (i:=2) (rows2:=[cF x]) ?_ (Wd.own_rd (i:=0) hw rfl)
   intro v' w hw;refine A6 ?_;have hw:Wd Γ (.own v' 135 2 (((fs.take k).filter (FR r m)).map cF++[cF x])::S) w:=hw.ds [0,0]
   rw[show ((fs.take k).filter (FR r m)).map cF++[cF x]=((fs.take (k+1)).filter (FR r m)).map cF from by rw[hsucc];simp]at hw
   exact⟨μ-1,by omega,k+1,v',by omega,⟨rfl,rfl,rfl,rfl,rfl,rfl,trivial⟩,hw⟩
  ·have h3:FR r m x=false:=h3
   rw[if_neg (by rw[h3];decide)]at hsucc
   refine A6 ?_;exact⟨μ-1,by omega,k+1,g,by omega,⟨rfl,rfl,rfl,rfl,rfl,rfl,trivial⟩,by rw[hsucc];exact hw.drop⟩
 ·have hkn:¬k<n:=by have:=of_decide_eq_false h;omega
  rw[List.take_of_length_le (show fs.length≤k by omega)]at hw
  have hfl:=List.length_filter_le (FR r m) fs
  refine A6 ?_;refine D3 (vs:=[g]) ?_
  refine(Oh (fs.filter (FR r m)) (fun x hx=>hok x (List.mem_filter.1 hx).1) (by omega) (P6.own (i:=0) hw rfl) hw).mono ?_
  clear hw;rintro e w ⟨v1,gs,rfl,h1,h2,hw⟩
  refine⟨_,rfl,?_⟩;refine A6 ?_;refine⟨_,rfl,v1,gs,rfl,?_,h2,?_⟩
  ·rw[h1,Lv (fun x hx=>(hok x hx).1)];exact OQ I0 _ _
  ·have hw:Wd Γ ((.own v1 135 2 (gs.map cF)::gs.map FU)++(.own g 135 2 ((fs.filter (FR r m)).map cF)::S)) w:=hw
   exact(hw.perm List.perm_middle).drop
end
end Go.Proofs.YtlimglpjpcfpdaaGreat
end
section
open Go Mk
namespace Go.Proofs.YtlimglpjpcfpdaaGreat
set_option maxHeartbeats 4000000
structure P1 where
 Var:ByteArray
 Const:Val
 deriving DecidableEq,Inhabited
instance:LC P1 where
 enc a:=[.string a.Var,.int .i64 a.Const.Kind,.int .i64 a.Const.Num,.string a.Const.Word]
 inj a b h:=by
  obtain⟨v,k,n,x⟩:=a;obtain⟨v',k',n',x'⟩:=b;simp at h
  simp[h]
 ks:=[1,5,5,1]
 kinds a:=rfl
structure H3 where
 Kind:Int
 Rel:ByteArray
 Args:List P1
 Op:Int
 L:P1
 R:P1
 Off:Int
 Low:Int
 High:Int
structure G4 where
 Sel:List ByteArray
 Goals:List H3
structure N6 where
 g:H3
 A:Option Addr
 N:Nat
 C:Nat
def N6.hdr(x:N6):Value:=.slice x.A x.N x.C
def cG(x:N6):List Value:=
 [.int .i64 x.g.Kind,.string x.g.Rel,x.hdr,.int .i64 x.g.Op,.string x.g.L.Var,.int .i64 x.g.L.Const.Kind,.int .i64 x.g.L.Const.Num,.string x.g.L.Const.Word,
  .string x.g.R.Var,.int .i64 x.g.R.Const.Kind,.int .i64 x.g.R.Const.Num,.string x.g.R.Const.Word,.int .i64 x.g.Off,.int .i64 x.g.Low,.int .i64 x.g.High]
def WL(Γ:C8)(x:N6):Prop:=D9 Γ x.hdr 4 (x.g.Args.map enc)
theorem WL.mono{Γ Γ':C8}{x:N6}(h:WL Γ x)(hle:Γ.le Γ'):WL Γ' x:=D9.mono h hle
theorem WL.len{Γ:C8}{f:N6}(h:WL Γ f):f.N=f.g.Args.length∧f.N≤f.C∧f.C≤9223372036854775807:=by
 obtain⟨a,n,c,h1,h2,h3,h4⟩:=D9.shape h
 unfold N6.hdr at h1;cases h1
 exact⟨by simpa using h2,h3,h4⟩
abbrev B7(l:List ByteArray):List (List Value):=l.map fun s=>[.string s]
structure QR(Γ:C8)(vs vg:Value)(gs:List N6)(q:G4):Prop where
 sel:D9 Γ vs 1 (B7 q.Sel)
 goals:D9 Γ vg 15 (gs.map cG)
 eq:gs.map (·.g)=q.Goals
 ok:∀x∈gs,WL Γ x
theorem QR.mono{Γ Γ':C8}{vs vg:Value}{gs:List N6}{q:G4}(h:QR Γ vs vg gs q)(hle:Γ.le Γ'):QR Γ' vs vg gs q:=
 ⟨h.sel.mono hle,h.goals.mono hle,h.eq,fun x hx=>(h.ok x hx).mono hle⟩
def GJ(v:Int):Prop:=-9223372036854775808≤v∧v≤9223372036854775807
def GU(o:P1):Prop:=o.Var.size≤9223372036854775807∧o6 o.Const
structure GB(g:H3):Prop where
 rel:g.Rel.size≤9223372036854775807
 len:g.Args.length≤1000
 args:∀o∈g.Args,GU o
 l:GU g.L
 r:GU g.R
 off:GJ g.Off
 low:GJ g.Low
 high:GJ g.High
structure Z7(q:G4):Prop where
 sel:q.Sel.length≤1000
 names:∀s∈q.Sel,s.size≤9223372036854775807
 len:q.Goals.length≤1000
 goals:∀g∈q.Goals,GB g
def O4:Val:=⟨0,0,⟨#[]⟩⟩
def AC:P1:=⟨⟨#[]⟩,O4⟩
def F4:ByteArray:=⟨#[]⟩
def H2:ByteArray:=⟨#[95]⟩
def J0(g:H3):Bool:=decide (g.Kind=1)||decide (g.Kind=2)
def J5(g:H3):List P1:=if g.Kind=1∨g.Kind=2 then g.Args else if g.Kind=3 then [g.L,g.R] else if g.Kind=4 then [g.L] else []
def BV(l:List ByteArray)(s:ByteArray):Bool:=l.any fun t=>decide (t=s)
theorem y9{l:List ByteArray}{s:ByteArray}:BV l s=true↔s∈l:=by
 unfold BV;rw[List.any_eq_true];exact⟨fun⟨x,hx,he⟩=>by rw[←of_decide_eq_true he];exact hx,fun h=>⟨s,h,decide_eq_true rfl⟩⟩
def addN(l:List ByteArray)(s:ByteArray):List ByteArray:=if BV l s=true then l else l++[s]
def cM(s:ByteArray):Bool:=decide (s≠F4)&&decide (s≠H2)
def JB(q:G4):List ByteArray:=q.Sel++q.Goals.flatMap fun g=>(J5 g).map (·.Var)
def AK(q:G4):List ByteArray:=((JB q).filter cM).foldl addN []
def BY(q:G4):Bool:=decide (1≤q.Goals.length)&&decide (q.Goals.length≤16)&&decide (q.Sel.length≤8)&&(q.Goals.all fun g=>!J0 g||(decide (1≤g.Args.length)&&decide (g.Args.length≤8)))&&decide ((AK q).length≤8)
def P2(g:H3):Bool:=
 if g.Kind=1∨g.Kind=2 then decide (g.Op=0)&&decide (g.L=AC)&&decide (g.R=AC)&&decide (g.Off=0)&&decide (g.Low=0)&&decide (g.High=0)
 else if g.Kind=3 then decide (g.Rel=F4)&&decide (g.Args.length=0)&&decide (g.Low=0)&&decide (g.High=0)
 else if g.Kind=4 then decide (g.Rel=F4)&&decide (g.Args.length=0)&&decide (g.Op=0)&&decide (g.R=AC)&&decide (g.Off=0)&&decide (g.L.Var≠F4)
 else false
def plainO(o:P1):Bool:=decide (o.Var=F4)||decide (o.Const=O4)
def w7(q:G4):Bool:=q.Goals.all fun g=>P2 g&&(J5 g).all plainO
def RP(s:ByteArray):Int:=B3 s 0
def Z0(s:ByteArray):Bool:=G7 s&&decide (65≤RP s)&&decide (RP s≤90)
def KM(s:ByteArray):Bool:=decide (s=⟨#[115,101,108,101,99,116]⟩)||decide (s=⟨#[119,104,101,114,101]⟩)||decide (s=⟨#[110,111,116]⟩)||decide (s=⟨#[105,110]⟩)
def GO(g:H3)(o:P1):Bool:=!(decide (o.Var=F4) && !M1 o.Const) && !(decide (o.Var=H2) && !J0 g) && !(decide (o.Var≠F4)&&decide (o.Var≠H2) && !Z0 o.Var)
def Dn(g:H3):Bool:=!(J0 g&&(!G7 g.Rel||KM g.Rel))&&(J5 g).all (GO g)
def U6(q:G4):Bool:=q.Sel.all Z0&&q.Goals.all Dn
def Cv(g:H3):Bool:=
 if g.Kind=3 then decide (1≤g.Op)&&decide (g.Op≤6)&&decide (g.Off≠-9223372036854775808)
 else if g.Kind=4 then decide (g.Low≤g.High)&&decide (g.High-g.Low≤1000000) else true
def Ci(q:G4):Bool:=q.Goals.all Cv
def Rc(q:G4):List ByteArray:=q.Goals.flatMap fun g=>if g.Kind=1∨g.Kind=4 then (J5 g).map (·.Var) else []
def Ay(q:G4):Bool:=(AK q).all fun s=>BV (Rc q) s
def DD(q:G4):Int:=
 if BY q=false then 15 else if w7 q=false then 50 else if U6 q=false then 63 else if Ci q=false then 6 else if ¬q.Sel.Nodup then 56 else if Ay q=false then 62 else 0
abbrev Env:=List (ByteArray×Val)
def Vg(l r off:Int):Int:=cI l (r+off)
def iH(op c:Int):Bool:=if op=1 then decide (c=0) else if op=2 then decide (c≠0) else if op=3 then decide (c<0) else if op=4 then decide (c≤0) else if op=5 then decide (0<c) else decide (0≤c)
def Dz(g:H3)(l r:Val):Bool:=
 if g.Off=0∧g.Op=1 then decide (l=r) else if g.Off=0∧g.Op=2 then decide (l≠r)
 else if l.Kind≠1∨r.Kind≠1 then false else iH g.Op (Vg l.Num r.Num g.Off)
def CY(e:Env)(s:ByteArray):Val:=(F1 e s).getD O4
def Ix(e:Env)(o:P1):Val:=if o.Var≠F4 then CY e o.Var else o.Const
def Ef(e:Env)(o:P1)(v:Val):Bool:=
 if o.Var=H2 then true else if o.Var=F4 then decide (o.Const=v) else match F1 e o.Var with|some u=>decide (u=v)|none=>M1 v
def P4(e:Env):List P1→List Val→Bool
 | o::os,v::vs=>Ef e o v&&P4 e os vs
 | [],_=>true
 | _::_,[]=>false
def T7(e:Env):List P1→List Val→Option Env
 | o::os,v::vs=>if o.Var=F4∨o.Var=H2 then T7 e os vs else match F1 e o.Var with
  | some u=>if u=v then T7 e os vs else none
  | none=>T7 (e++[(o.Var,v)]) os vs
 | _,_=>some e
def j9(e:Env)(gt:H3×List F9):Bool:=
 if gt.1.Kind=3 then Dz gt.1 (Ix e gt.1.L) (Ix e gt.1.R) else if gt.1.Kind=2 then !(gt.2.any fun f=>P4 e gt.1.Args f.2) else true
def Gl(sel:List ByteArray)(e:Env):List Val:=sel.map (CY e)
def EL(all:List (H3×List F9))(sel:List ByteArray)(e:Env):List (List Val):=if all.all (j9 e) then [Gl sel e] else []
def O3(f:Env→List (List Val))(e:Env)(os:List P1)(vs:List Val):List (List Val):=match T7 e os vs with|some e'=>f e'|none=>[]
def BR(low:Int)(n:Nat):Val:=⟨1,low+n,⟨#[]⟩⟩
def Dr(fin:Env→List (List Val)):List (H3×List F9)→Env→List (List Val)
 | [],e=>fin e
 | (g,t)::r,e=>
  if g.Kind=1 then t.flatMap fun f=>if P4 e g.Args f.2 then O3 (Dr fin r) e g.Args f.2 else []
  else if g.Kind=4 then match F1 e g.L.Var with
   | some v=>if v.Kind=1∧g.Low≤v.Num∧v.Num≤g.High then Dr fin r e else []
   | none=>(List.range (g.High-g.Low+1).toNat).flatMap fun n=>O3 (Dr fin r) e [g.L] [BR g.Low n]
  else Dr fin r e
def R7(db:List F9)(g:H3):List F9:=if g.Kind=1∨g.Kind=2 then Qt db g.Rel g.Args.length else []
def L2(db:List F9)(q:G4):List (H3×List F9):=q.Goals.map fun g=>(g,R7 db g)
def O1(db:List F9)(g:H3):Nat:=if g.Kind=1 then max (R7 db g).length 1 else if g.Kind=4 then (g.High-g.Low+1).toNat else 1
def R0(db:List F9)(gs:List H3):Nat:=gs.foldl (fun n g=>n*O1 db g) 1
def LB(db:List F9)(q:G4):List (List Val):=Dr (EL (L2 db q) q.Sel) (L2 db q) []
def cZ(db:List F9)(q:G4):List (List Val):=Cf (cL cV) (LB db q)
def V9(db:List F9)(q:G4):Int:=if DD q≠0 then DD q else if 1000000<R0 db q.Goals then 15 else 0
def p8(db:List F9)(q:G4):List (List Val):=if V9 db q=0 then cZ db q else []
theorem Eo{α β:Type}{f:α→List β}{m:Nat}:∀ {l:List α},(∀x∈l,(f x).length≤m)→(l.flatMap f).length≤l.length*m
 | [],_=>by simp
 | x::l,h=>by
  rw[List.flatMap_cons,List.length_append,List.length_cons,Nat.succ_mul];have h1:=h x (by simp)
  have h2:=Eo (f:=f) (m:=m) (l:=l) fun y hy=>h y (by simp[hy])
  omega
def cN(gt:H3×List F9):Nat:=if gt.1.Kind=1 then max gt.2.length 1 else if gt.1.Kind=4 then (gt.1.High-gt.1.Low+1).toNat else 1
def Em:List (H3×List F9)→Nat
 | []=>1
 | gt::r=>cN gt*Em r
theorem Lg{f:Env→List (List Val)}{m:Nat}(h:∀e,(f e).length≤m){e:Env}{os:List P1}{vs:List Val}:(O3 f e os vs).length≤m:=by
 unfold O3;split
 ·exact h _
 ·exact Nat.zero_le _
theorem OL{fin:Env→List (List Val)}(h:∀e,(fin e).length≤1):∀(r:List (H3×List F9)),(∀gt∈r,gt.1.Kind=4→gt.1.Low≤gt.1.High)→∀e,(Dr fin r e).length≤Em r
 | [],_,e=>h e
 | (g,t)::r,hr,e=>by
  have ih:=OL h r fun gt hg=>hr gt (by simp[hg])
  have hp:Em ((g,t)::r)=cN (g,t)*Em r:=rfl
  rw[hp];unfold Dr cN;by_cases k1:g.Kind=1
  ·rw[if_pos k1,if_pos (show (g,t).1.Kind=1 from k1)];refine Nat.le_trans (Eo (m:=Em r) fun f _=>?_) (Nat.mul_le_mul_right _ (Nat.le_max_left ..))
   split
   ·exact Lg ih
   ·exact Nat.zero_le _
  rw[if_neg k1,if_neg (show ¬(g,t).1.Kind=1 from k1)];by_cases k4:g.Kind=4
  ·rw[if_pos k4,if_pos (show (g,t).1.Kind=4 from k4)];have hlh:=hr (g,t) (by simp) k4
   split
   ·split
    ·refine Nat.le_trans (ih e) ?_
     have:1≤(g.High-g.Low+1).toNat:=by
      have:g.Low≤g.High:=hlh
      omega
     exact Nat.le_trans (by omega) (Nat.mul_le_mul_right (Em r) this)
    ·exact Nat.zero_le _
   ·have:=Eo (m:=Em r) (f:=fun n=>O3 (Dr fin r) e [g.L] [BR g.Low n]) (l:=List.range (g.High-g.Low+1).toNat) fun n _=>Lg ih
    rw[List.length_range]at this;exact this
  rw[if_neg k4,if_neg (show ¬(g,t).1.Kind=4 from k4),Nat.one_mul];exact ih e
theorem KF{db:List F9}:∀(gs:List H3) (n:Nat),gs.foldl (fun n g=>n*O1 db g) n=n*Em (gs.map fun g=>(g,R7 db g))
 | [],n=>by simp[Em]
 | g::gs,n=>by
  rw[List.foldl_cons,KF gs];show n*O1 db g*_=n*(cN (g,R7 db g)*Em (gs.map fun g=>(g,R7 db g)))
  rw[Nat.mul_assoc];rfl
theorem Sr{db:List F9}{q:G4}:R0 db q.Goals=Em (L2 db q):=by
 unfold R0 L2;rw[KF,Nat.one_mul]
theorem Zq{all:List (H3×List F9)}{sel:List ByteArray}(e:Env):(EL all sel e).length≤1:=by
 unfold EL;split <;> simp
end Go.Proofs.YtlimglpjpcfpdaaGreat
end
section
open Go
namespace Mk
def XL(done:List Nat):List Edge→Nat→Nat
 | [],m=>m
 | e::es,m=>XL done es (if Region.binds .any e then (m ||| (1 <<< e.on)) ||| done.getD e.on 0 else m)
def Wy:List Nat→List Oper→List Nat
 | done,[]=>done
 | done,o::l=>Wy (done++[XL done o.after.toList 0]) l
theorem Jg{done:List Nat}{dl:List (List Nat)}(h:∀j i,(done.getD j 0).testBit i=true→i∈dl.getD j []):∀(es:List Edge) (m i:Nat),(XL done es m).testBit i=true→m.testBit i=true∨i∈es.flatMap fun e=>if Region.binds .any e then e.on::(dl.getD e.on []) else []
 | [],m,i,hi=>.inl hi
 | e::es,m,i,hi=>by
  rw[List.flatMap_cons];rcases Jg h es _ i hi with q|q
  ·split at q
   ·rename_i hb
    rw[if_pos hb];rw[Nat.testBit_or,Nat.testBit_or,Bool.or_eq_true,Bool.or_eq_true]at q;rcases q with (q|q)|q
    ·exact .inl q
    ·rw[Nat.one_shiftLeft,Nat.testBit_two_pow]at q;have q:=of_decide_eq_true q
     exact .inr (by rw[q];simp)
    ·exact .inr (List.mem_append_left _ (List.mem_cons_of_mem _ (h _ _ q)))
   ·exact .inl q
  ·exact .inr (List.mem_append_right _ q)
theorem WC{α:Type}{l:List α}{x d:α}{j:Nat}:(l++[x]).getD j d=if j<l.length then l.getD j d else if j=l.length then x else d:=by
 rw[List.getD_eq_getElem?_getD,List.getD_eq_getElem?_getD];split
 ·rename_i h;rw[List.getElem?_append_left h]
 ·rename_i h
  rw[List.getElem?_append_right (by omega)]
  split
  ·rename_i e;rw[e,Nat.sub_self];rfl
  ·rw[List.getElem?_eq_none (by simp;omega)];rfl
theorem Ko:∀(ops:List Oper) (done:List Nat) (dl:List (List Nat)),done.length=dl.length→(∀j i,(done.getD j 0).testBit i=true→i∈dl.getD j [])→∀j i,((Wy done ops).getD j 0).testBit i=true→i∈(HU dl ops).getD j []
 | [],_,_,_,h,j,i,hi=>h j i hi
 | o::ops,done,dl,hl,h,j,i,hi=>by
  refine Ko ops _ _ (by simp[hl]) (fun j i hi=>?_) j i hi
  rw[WC]at hi ⊢
  rw[←hl];split
  ·rename_i hj;rw[if_pos hj]at hi;exact h j i hi
  ·rename_i hj
   rw[if_neg hj]at hi;split
   ·rename_i e
    rw[if_pos e]at hi;rcases Jg h _ _ _ hi with q|q
    ·simp at q
    ·exact q
   ·rename_i e
    rw[if_neg e]at hi;simp at hi
end Mk
end
section
open Go Mk
namespace Go.Proofs.YtlimglpjpcfpdaaGreat
def UZ(P:Program)(t:TypeId)(name:String):Option (Nat×Bool):=
 match P.info? t with
 | some i=>match i.methods.find? (·.name == name) with
  | some m=>if m.path.isEmpty then m.func else none
  | none=>none
 | none=>none
class Ry(P:Program)(t:TypeId)(name:String)(f:outParam Nat):Prop where
 h:UZ P t name=some (f,true)
 e:∃u,P.underlying t=some (.pointer u)
class RF(P:Program)(t:TypeId)(name:String)(f:outParam Nat)(u:outParam TypeId):Prop where
 h:UZ P t name=some (f,false)
 e:P.underlying t=some (.pointer u)
section
variable {P:Program}{t u:TypeId}{name:String}{f:Nat}{w:World}
theorem JZ{b:Bool}(h:UZ P t name=some (f,b)):∃i m,P.info? t=some i∧i.methods.find? (·.name == name)=some m∧m.path = #[]∧m.func=some (f,b):=by
 unfold UZ at h;cases hi:P.info? t with
 | none=>simp[hi]at h
 | some i=>
  simp only[hi]at h
  cases hm:i.methods.find? (·.name == name) with
  | none=>simp[hm]at h
  | some m=>
   simp only[hm]at h
   by_cases hp:m.path.isEmpty=true
   ·rw[if_pos hp]at h;exact⟨i,m,rfl,hm,by simpa using hp,h⟩
   ·rw[if_neg hp]at h;cases h
theorem KA:∃k,P.types.size+Made.depth=k+1:=⟨P.types.size+Made.depth-1,by unfold Made.depth;omega⟩
theorem XE[hm:Ry P t name f]{v:Value}:(method (P.types.size+Made.depth) t v name).run P w=.ok (f,v) w:=by
 obtain⟨u,hu⟩:=hm.e;obtain⟨i,m,hi,hf,hp,hg⟩:=JZ hm.h
 obtain⟨k,hk⟩:=KA (P:=P)
 rw[hk];unfold method;simp only[Sem.run_bind,typeInfo]
 simp[hi,hf,hp,hg,follow,receiverAt,run_underlying hu,Place.get]
theorem QW{T U:TypeId}{a:Addr}{s m:String}:(Builtin.ssaWrapNilChk_ #[T] U #[.pointer (some a),strVal s,strVal m]).run P w=.ok (.pointer (some a)) w:=rfl
theorem OR[hm:RF P t name f u]{a:Addr}{x:Value}(hl:(loadVar u a).run P w=.ok x w):(method (P.types.size+Made.depth) t (.pointer (some a)) name).run P w=.ok (f,x) w:=by
 obtain⟨i,m,hi,hf,hp,hg⟩:=JZ hm.h
 obtain⟨k,hk⟩:=KA (P:=P)
 rw[hk];unfold method;simp only[Sem.run_bind,typeInfo]
 simp[hi,hf,hp,hg,follow,receiverAt,run_underlying hm.e,Place.get,QW,asAddr,hl]
variable {n:Nat}{opa:Array Oper}{QQ:Exit→Fr→World→Prop}{ρ:Fr}{rest:List Oper}{K:Value→World→Prop}
variable {d:Option Tmp}{ty:TypeId}{pos:String}{es:Array Edge}{args:List Operand}{tys:Array TypeId}{vs:List Value}{r:Operand}{g:Option (Nat×Bool)}
theorem Zv{v:Value}{x:Value}[C7 P f](hr:ev ρ r=.iface t v)(hm:(method (P.types.size+Made.depth) t v name).run P w=.ok (f,x) w)(ha:args.toArray.map (ev ρ)=vs.toArray)(hc:Calls P f (x::vs).toArray w fun e w'=>∃v,e=.returned v∧K v w') :
  Step P ⟨d,.call { callee:=.invoke r name,args:=args.toArray,argTypes:=tys },ty,pos,es,g⟩ ρ w K:=by
 have hx:(#[x]++vs.toArray:Array Value)=(x::vs).toArray:=by simp
 have hr:(execOp (ev ρ) ⟨d,.call { callee:=.invoke r name,args:=args.toArray,argTypes:=tys },ty,pos,es,g⟩).run P w=.ok (.enter f (x::vs).toArray) w:=by
  have hq:∀l:Array Value,(#[Value.iface t v]++l)[0]? = some (Value.iface t v):=fun l=>by rw[Array.getElem?_append_left (by simp)];rfl
  have hq2:∀l:Array Value,(#[Value.iface t v]++l).extract 1 (#[Value.iface t v]++l).size=l:=fun l=>by
   apply Array.ext' ; simp
  simp only[execOp,resolve,ha,hr,Sem.run_bind,Sem.run_pure,Result.andThen_ok,invoke]
  simp only[hq,hq2,callMethod,Sem.run_bind,run_program,Result.andThen_ok,hm]
  simp only[hx]
  simp[P9]
 unfold Step;rw[hr];exact hc
theorem VH{v:Value}[Ry P t name f][C7 P f](hc:Calls P f (v::vs).toArray w fun e w'=>∃v,e=.returned v∧L P n opa QQ rest (D2 ρ d v) w')(hr:ev ρ r=.iface t v:=by exact rfl)(ha:EvL ρ args vs:=by exact v7)(hd:G8 n d=true:=by exact rfl) :
  L P n opa QQ (⟨d,.call { callee:=.invoke r name,args:=args.toArray,argTypes:=tys },ty,pos,es,none⟩::rest) ρ w:=F0 rfl hd (Zv hr XE ha.eqA hc)
theorem Oz{a:Addr}{x:Value}[RF P t name f u][C7 P f](hl:(loadVar u a).run P w=.ok x w)(hc:Calls P f (x::vs).toArray w fun e w'=>∃v,e=.returned v∧L P n opa QQ rest (D2 ρ d v) w')(hr:ev ρ r=.iface t (.pointer (some a)):=by exact rfl)(ha:EvL ρ args vs:=by exact v7)(hd:G8 n d=true:=by exact rfl) :
  L P n opa QQ (⟨d,.call { callee:=.invoke r name,args:=args.toArray,argTypes:=tys },ty,pos,es,none⟩::rest) ρ w:=F0 rfl hd (Zv hr (OR hl) ha.eqA hc)
theorem Ng{b:Nat}{o:Nat}{x:Value}{Γ:C8}{S:List B2}{i:Nat}{cs:Array Value}{E:TypeId}[hs:TS P u](hw:Wd Γ S w)(hi:S[i]? = some (.blk b (.cells cs E)))(hc:cs[o]? = some x):(loadVar u ⟨b,o,none⟩).run P w=.ok x w:=by
 have:=cell_of (hw.at_blk hi) hc
 simp[loadVar,go_sem,BC hs.h,this]
theorem Oc{T U:TypeId}{v:Value}{fs:Array Field}{xx:Operand}(hu:P.underlying U=some (.struct fs))(hx:ev ρ xx=.iface U v):Mk.Yields P ⟨d,.typeAssert xx T U false,ty,pos,es,g⟩ ρ w v:=by
 unfold Mk.Yields;simp[execOp,hx,Instr.typeAssert,run_underlying hu,Sem.run_bind,Sem.run_pure,Result.andThen]
theorem dM{Γ:C8}{S Y:List B2}{a:Addr}{x v:Value}[RF P t name f u][C7 P f](hp:PS P Γ S f (x::vs) v)(hl:(loadVar u a).run P w=.ok x w)(h:∀w',Wd Γ (S++Y) w'→L P n opa QQ rest (D2 ρ d v) w')(hw:Wd Γ (S++Y) w:=by exact hw)(hd:G8 n d=true:=by exact rfl)(hr:ev ρ r=.iface t (.pointer (some a)):=by exact rfl)(ha:EvL ρ args vs:=by exact v7) :
  L P n opa QQ (⟨d,.call { callee:=.invoke r name,args:=args.toArray,argTypes:=tys },ty,pos,es,none⟩::rest) ρ w:=
 F0 rfl hd (Zv hr (OR hl) ha.eqA ((hp.h Y w hw).mono fun _ w' ⟨h1,h2⟩=>⟨v,h1,h w' h2⟩))
theorem Wq{Γ:C8}{S Y:List B2}{a:Addr}{x v:Value}{j dj:Nat}{want c:Bool}[RF P t name f u][C7 P f](hp:c=true→PS P Γ S f (x::vs) v)(hl:(loadVar u a).run P w=.ok x w)(h:∀w',Wd Γ (S++Y) w'→L P n opa QQ rest (D2 ρ d (gv c v)) w')(hw:Wd Γ (S++Y) w:=by exact hw)(hj:(opa[j]?).bind (·.dst)=some dj:=by exact rfl)(hjn:G8 n (some dj)=true:=by exact rfl)(hc:G0 (ρ dj) want c:=by exact IN)(hd:G8 n d=true:=by exact rfl)(hr:c=true→ev ρ r=.iface t (.pointer (some a)):=by intro hc;exact B8)(ha:c=true→EvL ρ args vs:=by intro hc;exact Ii) :
  L P n opa QQ (⟨d,.call { callee:=.invoke r name,args:=args.toArray,argTypes:=tys },ty,pos,es,some (j,want)⟩::rest) ρ w:=
 hJ hj hjn hd hc (fun hct=>dM (hp hct) hl (fun w' hw'=>by have:=h w' hw';rwa [Co hct rfl]at this) hw hd (hr hct) (ha hct)) (fun hcf=>by have:=h w hw;rwa [show gv c v=undef from by rw[hcf];unfold gv;rfl]at this)
def TK(P:Program)(T:TypeId):Bool:=match P.underlying T with
 | some (.interface _)=>false
 | some _=>true
 | none=>false
class dB(P:Program)(T:TypeId):Prop where h:TK P T=true
theorem S0{T:TypeId}{v:Value}{xx:Operand}[hc:dB P T](hx:ev ρ xx=v):Mk.Yields P ⟨d,.makeInterface T xx,ty,pos,es,g⟩ ρ w (.iface T v):=by
 have h:=hc.h
 unfold TK at h;unfold Mk.Yields;cases hu:P.underlying T with
 | none=>simp[hu]at h
 | some t=>
  cases t <;> first|(simp[hu]at h;done)|simp[execOp,hx,Instr.makeInterface,run_underlying hu,Sem.run_bind,Sem.run_pure,Result.andThen]
end
end Go.Proofs.YtlimglpjpcfpdaaGreat
end
section
open Go
namespace Mk
attribute [local irreducible] Calls
section
variable {α β:Type}[DecidableEq α]
theorem J6(a b:α)(v:β)(l:List (α×β)):F1 ((a,v)::l) b=if a=b then some v else F1 l b:=by
 unfold F1 De;by_cases h:a=b
 ·subst h;simp[List.findIdx?_cons]
 ·simp only[List.findIdx?_cons,decide_eq_true_eq,h,decide_false,Bool.false_eq_true,if_false]
  cases l.findIdx? (fun p=>decide (p.1=b)) <;> simp
theorem KV(a b:α)(v u:β)(l:List (α×β)):Q3 ((a,v)::l) b u=if a=b then (b,u)::l else (a,v)::Q3 l b u:=by
 unfold Q3 De;by_cases h:a=b
 ·subst h;simp[List.findIdx?_cons]
 ·simp only[List.findIdx?_cons,h,decide_false,Bool.false_eq_true,if_false]
  cases l.findIdx? (fun p=>decide (p.1=b)) <;> simp
theorem SX{l:List (α×β)}{a:α}:F1 l a=none↔a∉l.map (·.1):=by
 induction l with
 | nil=>simp[F1,De]
 | cons p l ih=>
  obtain⟨x,v⟩:=p;rw[J6];by_cases h:x=a
  ·simp[h]
  ·rw[if_neg h,ih];simp[Ne.symm h]
theorem FQ{l:List (α×β)}(h:(l.map (·.1)).Nodup)(a:α)(u:β):(Q3 l a u).Perm ((a,u)::l.filter fun p=>!decide (p.1=a)):=by
 induction l with
 | nil=>simp[Q3,De]
 | cons p l ih=>
  obtain⟨x,v⟩:=p;simp only[List.map_cons,List.nodup_cons]at h
  rw[KV];by_cases e:x=a
  ·subst e;rw[if_pos rfl];simp only[List.filter_cons,decide_true,Bool.not_true,Bool.false_eq_true,if_false]
   rw[List.filter_eq_self.2 (fun p hp=>by simp;intro e;exact h.1 (e ▸ List.mem_map_of_mem hp))]
  ·rw[if_neg e];simp only[List.filter_cons,decide_eq_false e,Bool.not_false,if_true]
   exact((ih h.2).cons _).trans (.swap _ _ _)
theorem Ag{l:List (α×β)}(h:(l.map (·.1)).Nodup){a:α}{v:β}(hg:F1 l a=some v):l.Perm ((a,v)::l.filter fun p=>!decide (p.1=a)):=by
 induction l with
 | nil=>simp[F1,De]at hg
 | cons p l ih=>
  obtain⟨x,u⟩:=p;simp only[List.map_cons,List.nodup_cons]at h
  rw[J6]at hg;by_cases e:x=a
  ·subst e;rw[if_pos rfl]at hg;cases hg
   simp only[List.filter_cons,decide_true,Bool.not_true,Bool.false_eq_true,if_false]
   rw[List.filter_eq_self.2 (fun p hp=>by simp;intro e;exact h.1 (e ▸ List.mem_map_of_mem hp))]
  ·rw[if_neg e]at hg;simp only[List.filter_cons,decide_eq_false e,Bool.not_false,if_true]
   exact((ih h.2 hg).cons _).trans (.swap _ _ _)
theorem Y1{l:List (α×β)}{a:α}(hg:F1 l a=none):(l.filter fun p=>!decide (p.1=a))=l:=
 List.filter_eq_self.2 fun p hp=>by
  have:=SX.1 hg
  simp;intro e;exact this (e ▸ List.mem_map_of_mem hp)
theorem Hq{l:List (α×β)}(h:(l.map (·.1)).Nodup)(a:α)(u:β):((Q3 l a u).map (·.1)).Nodup:=by
 refine((FQ h a u).map _).nodup_iff.2 ?_
 simp only[List.map_cons,List.nodup_cons]
 refine⟨fun hm=>?_,(List.filter_sublist.map _).nodup h⟩
 obtain⟨p,hp,e⟩:=List.mem_map.1 hm
 have:=(List.mem_filter.1 hp).2
 simp[e]at this
theorem CP(l:List (α×β))(a b:α)(u:β):F1 (Q3 l a u) b=if a=b then some u else F1 l b:=by
 induction l with
 | nil=>simp only[Q3,De,List.findIdx?_nil,List.nil_append];rw[J6]
 | cons p l ih=>
  obtain⟨x,v⟩:=p;rw[KV];by_cases e:x=a
  ·subst e;rw[if_pos rfl,J6,J6];by_cases e2:x=b <;> simp[e2]
  ·rw[if_neg e,J6,ih,J6];by_cases e2:x=b
   ·subst e2;rw[if_pos rfl,if_pos rfl,if_neg (Ne.symm e)]
   ·rw[if_neg e2,if_neg e2]
end
section
variable {P:Program}{n:Nat}{ops:List Oper}{Γ:C8}{K:List B2}{wr tc stab:List (List Nat)}{Q:Fr→World→Prop}{i:Nat}{rest:List Oper}{ρ:Fr}{M:Nat→Fr→List B2}
variable {ty T:TypeId}{pos:String}{es:Array Edge}{x y:Operand}
theorem Je{c b j dv:Nat}{l:List (Int×Value)}{a:Int}{k:IntKind}{X:Fr→List B2}{KT ET:TypeId}[hMp:BU P T KT ET][hK:NQ P KT k](h:MSw (mV P n ops Γ K wr tc stab) Q (i+1) rest ⟨ρ,H5 M c fun g=>(X g).set j (B2.mpT P KT (id:Value→Value) b (Q3 l a (g dv)))⟩)
  (ht:tc.getD i []=[c]:=by exact rfl) (hM:M c=X:=by exact rfl) (hj:∀g,(X g)[j]? = some (B2.mpT P KT (id:Value→Value) b l):=by intro g;exact GW) (hw0:wr.getD i []=[c]:=by exact rfl) (hx:∀g,ev (E7 stab.flatten g ρ) x=.map (some b):=by intro g;exact rfl) (hy:∀g,ev (E7 stab.flatten g ρ) y=.int k a:=by intro g;exact rfl)
  (hs:(stab.getD c []).contains dv=true:=by exact rfl) (hfv:stab.flatten.contains dv=true:=by exact rfl) :
  MSw (mV P n ops Γ K wr tc stab) Q i (⟨none,.mapUpdate T x y (.tmp dv),ty,pos,es,none⟩::rest) ⟨ρ,M⟩:=by
 refine mM (v:=undef) _ (fun Y w g hw=>?_) h hw0 rfl
 rw[O2 ht,hM]at hw;have hz:ev (E7 stab.flatten g ρ) (.tmp dv)=g dv:=J7 (by simpa using hfv)
 have hg:E7 (stab.getD c []) g D4 dv=g dv:=J7 (by simpa using hs)
 have hjl:j<(X (E7 (stab.getD c []) g D4)).length:=(List.getElem?_eq_some_iff.1 (hj _)).1
 refine I7 (f:=(id:Value→Value)) (v:=g dv) hw (hx g) (hy g) hz (i:=K.length+j) (by rw[List.getElem?_append_right (Nat.le_add_right _ _),Nat.add_sub_cancel_left,List.getElem?_append_left hjl];exact hj _) fun w' hw'=>⟨?_,fun _=>rfl⟩
 rw[O2 ht,B0];rw[List.set_append_right _ _ (Nat.le_add_right _ _),Nat.add_sub_cancel_left,List.set_append_left _ _ hjl]at hw';simp only[D2,hg]
 exact hw'
end
def dn(Γ:C8)(w:World):C8:=⟨hp w,Γ.os,Γ.tape,Γ.out,Γ.dr⟩
theorem RS{Γ:C8}{S:List B2}{w:World}(h:Wd Γ S w):Γ.le (dn Γ w):=⟨h.imm,rfl,rfl,rfl,rfl⟩
theorem Ru{Γ:C8}{S:List B2}{w:World}(h:Wd Γ S w):Wd (dn Γ w) [] w:=⟨h.os,h.tape,h.out,h.dr,fun _ _ h=>h,[],trivial,by simp,by simp⟩
theorem Holds.noimm{m m' h}:∀(R:List B2) (bss:List (List Nat)),(∀r∈R,∀bs,r.holds m bs h→r.holds m' bs h)→Holds m R bss h→Holds m' R bss h
 | [],[],_,_=>trivial
 | r::R,bs::bss,hr,hh=>⟨hr r (by simp) bs hh.1,Holds.noimm R bss (fun r h=>hr r (by simp[h])) hh.2⟩
 | [],_::_,_,hh=>hh.elim
 | _::_,[],_,hh=>hh.elim
theorem Jw{Γ Γ':C8}{S R:List B2}{w w':World}(h:Wd Γ S w)(hle:(dn Γ w).le Γ')(hR:∀r∈R,∀bs,r.holds Γ'.imm bs (hp w')→r.holds Γ.imm bs (hp w'))(h':Wd Γ' R w'):Wd Γ (R++S) w':=by
 obtain⟨cs,k6,k7,k8⟩:=h'.own;have him:=h.imm
 obtain⟨h1,h2,h3,h4,h5,dss,d6,d7,d8⟩:=h;have hat:∀b∈dss.flatten,∃o,w.heap[b]? = some o:=fun b hbm=>⟨_,Array.getElem?_eq_getElem (d8 b hbm).1⟩
 have hnew:∀b∈cs.flatten,w.heap[b]? = none:=fun b hbm=>by
  cases hq:w.heap[b]? with
  | none=>rfl
  | some o=>have:=hle.imm b o hq;rw[(k8 b hbm).2]at this;cases this
 have hold:∀b∈dss.flatten,b∉cs.flatten:=fun b hbm hbs=>by
  obtain⟨o,ho⟩:=hat b hbm
  rw[hnew b hbs]at ho;cases ho
 have hkeep:∀b∈dss.flatten,w'.heap[b]? = w.heap[b]?:=fun b hbm=>by
  obtain⟨o,ho⟩:=hat b hbm
  rw[ho];exact h'.imm b o (hle.imm b o ho)
 refine⟨h'.os.trans hle.os,h'.tape.trans hle.tape,h'.out.trans hle.out,by have:=h'.dr;rw[hle.dr]at this;exact this,fun b o hb=>h'.imm b o (hle.imm b o (him b o hb)),cs++dss,Holds.append _ _ _ _ (Holds.noimm R cs hR k6) (Holds.loc (fun b o h=>h) S dss hkeep d6),?_,?_⟩
 ·rw[List.flatten_append,List.nodup_append];exact⟨k7,d7,fun a ha b hb' e=>hold b hb' (e ▸ ha)⟩
 ·intro b hbm;rw[List.flatten_append,List.mem_append]at hbm;rcases hbm with hbm|hbm
  ·refine⟨(k8 b hbm).1,?_⟩
   cases hq:Γ.imm b with
   | none=>rfl
   | some o=>have:=him b o hq;rw[hnew b hbm]at this;cases this
  ·obtain⟨o,ho⟩:=hat b hbm
   have:=hkeep b hbm
   rw[ho]at this;exact⟨(Array.getElem?_eq_some_iff.1 this).1,(d8 b hbm).2⟩
theorem Ld{m m':Hp}{h:Hp}{v:Value}{e sz:Nat}{rows:List (List Value)}:∀r∈[B2.own v e sz rows],∀bs,r.holds m bs h→r.holds m' bs h:=fun r hr bs hh=>by
 simp only[List.mem_singleton]at hr
 subst hr;unfold B2.own at hh ⊢
 exact hh
theorem Ei{α:Type}{f:α→Value}{e sz:Nat}{g:α→List (List Value)}{S:List B2}{w:World}:∀(l:List α) {Γ:C8},Wd Γ (l.map (fun x=>B2.own (f x) e sz (g x))++S) w→∃Γ',Γ.le Γ'∧(∀x∈l,D9 Γ' (f x) sz (g x))∧Wd Γ' S w
 | [],Γ,hw=>⟨Γ,.refl _,by simp,hw⟩
 | x::l,Γ,hw=>by
  obtain⟨Γ1,h1,h2,hw⟩:=Wd.freeze (S:=l.map (fun x=>B2.own (f x) e sz (g x))++S) hw
  obtain⟨Γ2,h3,h4,hw⟩:=Ei l hw
  refine⟨Γ2,h1.trans h3,fun y hy=>?_,hw⟩
  rcases List.mem_cons.1 hy with rfl|hy
  ·exact h2.mono h3
  ·exact h4 y hy
theorem Yy{Γ:C8}{a:Option Addr}{sz:Nat}:D9 Γ (.slice a 0 0) sz []:=by
 unfold D9;exact⟨by simp,a,0,0,rfl,rfl,Nat.le_refl _,by simp,fun h=>by simp at h⟩
end Mk
end
section
open Go
namespace Mk
def B2.pk{α:Type}(φ:α→Prop)(R:α→List B2):B2 where
 holds m bs h:=∃a bss,φ a∧Holds m (R a) bss h∧bs=bss.flatten
 loc m m' bs h h' hm hb:=by
  rintro⟨a,bss,h1,h2,rfl⟩;exact⟨a,bss,h1,Holds.loc hm (R a) bss hb h2,rfl⟩
theorem Wd.pack{Γ:C8}{S:List B2}{w:World}{α:Type}{φ:α→Prop}{R:α→List B2}(a:α)(ha:φ a)(h:Wd Γ (R a++S) w):Wd Γ (B2.pk φ R::S) w:=by
 obtain⟨bss,h1,h2,h3⟩:=h.own;obtain⟨x,y,rfl,hx,hy⟩:=Holds.split _ _ _ h1
 refine⟨h.os,h.tape,h.out,h.dr,h.imm,x.flatten::y,⟨⟨a,x,ha,hx,rfl⟩,hy⟩,by simpa using h2,fun b hb=>h3 b (by simpa using hb)⟩
theorem Wd.unpack{Γ:C8}{S:List B2}{w:World}{α:Type}{φ:α→Prop}{R:α→List B2}(h:Wd Γ (B2.pk φ R::S) w):∃a,φ a∧Wd Γ (R a++S) w:=by
 obtain⟨bss,h1,h2,h3⟩:=h.own;cases bss with
 | nil=>exact h1.elim
 | cons bs y=>
  obtain⟨⟨a,x,ha,hx,rfl⟩,hy⟩:=h1;exact⟨a,ha,h.os,h.tape,h.out,h.dr,h.imm,x++y,Holds.append _ _ _ _ hx hy,by simpa using h2,fun b hb=>h3 b (by simpa using hb)⟩
section
variable {P:Program}{Γ:C8}{S:List B2}{w:World}{E n c g i:Nat}{α:Type}[Inhabited α]{f:α→Value}
theorem CU(d:Array α):Go.Sort.flatK (fun x=>[f x]) 1 d=d.map f:=by
 refine Array.ext (by simp) fun i h1 h2=>?_
 have h3:i<d.size*1:=by simpa using h1
 rw[←getElem!_pos _ i h1,Go.Sort.get_flatK _ _ _ _ h3];have h4:i<d.size:=by omega
 have e1:i / 1=i:=Nat.div_one i
 have e2:i%1=0:=Nat.mod_one i
 rw[e1,e2,getElem!_pos d i h4];simp
theorem Y4(w:World)(g m:Nat)(dk:Array α)(os:Array Obj):Go.Proofs.sortWorld f w g 0 m dk os=Go.Proofs.sortWorldK (fun x=>[f x]) 1 w g 0 m dk os:=by
 unfold Go.Proofs.sortWorld Go.Proofs.sortWorldK Go.Sort.putRowK Go.Sort.putRow;congr 2
 funext cs
 refine Array.ext (by simp[Go.Sort.putCells]) fun i h1 h2=>?_
 simp only[Go.Sort.putCells,Array.getElem_mapIdx,CU,Array.size_map,Nat.zero_le,Nat.zero_add,true_and,Nat.sub_zero,id]
 by_cases h:i<dk.size
 ·rw[if_pos h,if_pos h,getElem!_pos dk i h,getElem!_pos (dk.map f) i (by simpa using h)];simp
 ·rw[if_neg h,if_neg h]
theorem Ra{ρ:Go.Shelf.Ren}(L:Go.Proofs.SlLaysF.n6 P ρ)(hf1:∀x,(f x).oneCell'=true)(cf:α→α→Int)(fn:Nat)(cap:List Value)[C7 P fn](xs:List α)(v:Value)(hw:Wd Γ S w)(hi:S[i]? = some (.own v E 1 (xs.map fun x=>[f x])))
  (hO:Go.Sort.SWO (Go.Proofs.ltOf cf)) (hT:∀x y,(Go.Proofs.ltOf cf) x y=false→(Go.Proofs.ltOf cf) y x=false→x=y) (hlen:xs.length<4611686018427387904)
  (hcmp:∀(dk:List α) w',Wd Γ (S.set i (.own v E 1 (dk.map fun x=>[f x]))) w'→∀x y,Calls P fn (#[f x,f y]++cap.toArray) w' fun e w''=>e=.returned (.int .i64 (cf x y))∧∃S'',Wd (EP w') S'' w'') :
  Calls P (ρ.f 6) #[v,.func (.func fn) #[] cap.toArray] w fun e w'=>e=.returned (.tuple #[])∧Wd Γ (S.set i (.own v E 1 ((xs.mergeSort fun x y=>!(Go.Proofs.ltOf cf) y x).map fun x=>[f x]))) w':=by
 obtain⟨a,n,c,rfl,e2,e3,e4,e5⟩:=Ad hw hi
 have hn:n=xs.length:=by simpa using e2
 by_cases h0:n=0
 ·have hx:xs=[]:=List.eq_nil_of_length_eq_zero (by omega)
  subst h0;refine(Go.Proofs.AnyF.slices_SortFunc_none (P:=P) (ρ:=ρ) { L with } a c _ w).mono ?_
  rintro e w' ⟨he,rfl⟩
  refine⟨he,?_⟩
  rw[hx]at hi;rw[hx];have hset:S.set i (.own (.slice a 0 c) E 1 ((([]:List α).mergeSort fun x y=>!(Go.Proofs.ltOf cf) y x).map fun x=>[f x]))=S:=by
   obtain⟨hil,hie⟩:=List.getElem?_eq_some_iff.1 hi
   rw[List.mergeSort_nil,←hie];exact List.set_getElem_self hil
  rw[hset];exact hw
 ·have hc:0<c:=by omega
  rcases e5 with e5|⟨g,cur,rfl,hg,hcur,hcs,htk⟩
  ·omega
  obtain⟨hH,hgl⟩:=BO (enc:=fun x:α=>[f x]) (k:=1) (fun _=>rfl) hw hi hc
  have hH1:Go.Sort.Holds f w g 0 xs.toArray:=fun j hj=>by
   have:=hH j (by simpa using hj)
   rw[CU]at this;have hj:j<xs.length:=by simpa using hj
   simpa[hj] using this
  have:=Go.Proofs.Any.slices_SortFunc_total L f hf1 cf hO fn cap.toArray g 0 c xs.toArray w (fun args w=>P9 args) (fun m os dk hdk x y=>?_) hH1 hgl (by simpa using hlen) hT
  ·simp only[List.size_toArray]at this
   rw[←hn]at this;refine this.mono ?_
   rintro e w' ⟨he,n',os,rfl⟩
   refine⟨he,?_⟩
   rw[Y4];have:=Q2 (enc:=fun x:α=>[f x]) (k:=1) (fun _=>rfl) hw hi hc (xs.mergeSort fun x y=>!(Go.Proofs.ltOf cf) y x).toArray (by simp) n' os
   exact this
  ·have W1:=Q2 (enc:=fun x:α=>[f x]) (k:=1) (fun _=>rfl) hw hi hc dk (by simpa using hdk) m os
   rw[←Y4]at W1;refine(hcmp dk.toList _ W1 x y).mono ?_
   rintro e w'' ⟨he,S'',Aj⟩
   exact⟨he,Hc Aj⟩
end
attribute [local irreducible] Calls
section
variable {P:Program}{n:Nat}{ops:List Oper}{Γ:C8}{K:List B2}{wr tc stab:List (List Nat)}{Q:Fr→World→Prop}{i:Nat}{rest:List Oper}{ρ:Fr}{M:Nat→Fr→List B2}
variable {d:Option Tmp}{ty:TypeId}{pos:String}{es:Array Edge}{f:Nat}{args:List Operand}{tys:Array TypeId}{vs:List Value}{v:Value}
theorem Tu{c:Nat}{X:List B2}(X':List B2)[C7 P f](hs:∀Y w,Wd Γ (X++(K++Y)) w→Calls P f vs.toArray w fun e w'=>e=.returned v∧Wd Γ (X'++(K++Y)) w')
  (h:MSw (mV P n ops Γ K wr tc stab) Q (i+1) rest ⟨D2 ρ d v,H5 M c fun _=>X'⟩) (hM:M c=fun _=>X:=by first|exact B0|exact UY|exact Cm|exact rfl) (hw0:wr.getD i []=[c]:=by exact rfl) (ht:tc.getD i []=[c]:=by exact rfl) (ha:∀g,EvL (E7 stab.flatten g ρ) args vs:=by intro g;exact v7) :
  MSw (mV P n ops Γ K wr tc stab) Q i (⟨d,.call { callee:=.value (.func f),args:=args.toArray,argTypes:=tys },ty,pos,es,none⟩::rest) ⟨ρ,M⟩:=
 mS (F:=fun _=>X) (fun _=>X') (fun g w Y hw=>An (ha g).eqA ((hs Y w hw).mono fun e w' ⟨h1,h2⟩=>⟨v,h1,fun _=>rfl,h2⟩)) h hM hw0 ht rfl
variable {x y:Operand}{T:TypeId}
theorem gT{c dd j E by' sz m cc m2 c3:Nat}{zs:List Value}{a a2:Option Addr}{rows rows2:List (List Value)}{X:List B2}[TL P T E sz by' zs](h:MSw (mV P n ops Γ K wr tc stab) Q (i+1) rest ⟨D2 ρ (some dd) undef,H5 M c fun g=>X.set j (.own (g dd) E sz (rows++rows2))⟩)
  (hrd:∀Y w,Wd Γ (K++Y) w→Rd w a2 sz rows2) (hl:m2=rows2.length) (h1:∀u∈rows2.flatten,u.oneCell'=true)
  (hx:∀g,ev (E7 stab.flatten g ρ) x=.slice a m cc:=by intro g;exact rfl) (hy:∀g,ev (E7 stab.flatten g ρ) y=.slice a2 m2 c3:=by intro g;exact rfl) (ht:tc.getD i []=[c]:=by exact rfl) (hM:M c=(fun _=>X):=by exact rfl) (hj:X[j]? = some (.own (.slice a m cc) E sz rows):=by exact GW)
  (hs:(stab.getD c []).contains dd=true:=by exact rfl) (hfr:T8 stab (some dd)=true:=by exact rfl) (hw0:wr.getD i []=[c]:=by exact rfl)
  (hb:(m+m2)*by'≤140737488355328:=by omega) (h63:m+m2≤9223372036854775807:=by omega) :
  MSw (mV P n ops Γ K wr tc stab) Q i (⟨some dd,.call { callee:=.builtin .append,args:=#[x,y],argTypes:=#[T,T] },ty,pos,es,none⟩::rest) ⟨ρ,M⟩:=by
 refine mM (v:=undef) _ (fun Y w g hw=>?_) h hw0 rfl
 rw[O2 ht,hM]at hw;have hjl:j<X.length:=(List.getElem?_eq_some_iff.1 hj).1
 have hi1:(K++(X++Y))[K.length+j]? = some (.own (.slice a m cc) E sz rows):=by
  rw[List.getElem?_append_right (Nat.le_add_right _ _),Nat.add_sub_cancel_left,List.getElem?_append_left hjl];exact hj
 refine Cb hw (hx g) (hy g) hi1 (hrd _ _ hw) hl h1 hb h63 fun v' w' hw'=>⟨?_,fun hh=>by rw[hfr]at hh;cases hh⟩
 rw[O2 ht,B0];have h3:E7 (stab.getD c []) (D2 g (some dd) v') D4 dd=v':=by
  rw[J7 (by simpa using hs)];exact upd_same _ _ _
 simp only[h3]
 rw[List.set_append_right _ _ (Nat.le_add_right _ _),Nat.add_sub_cancel_left,List.set_append_left _ _ hjl]at hw';exact hw'
end
theorem SO{α:Type}{l l':List α}(h:∀(_:DecidableEq α) (a:α),l.count a=l'.count a):l.Perm l':=by
 classical
 exact List.perm_iff_count.2 fun a=>h _ a
theorem K1{l l':List B2}(h:∀(_:DecidableEq B2) (a:B2),l.count a=l'.count a:=by intro _ a;simp only[iR,Xw,List.getElem?_cons_zero,List.getElem?_cons_succ,List.eraseIdx_cons_succ,List.eraseIdx_cons_zero,List.cons_append,List.nil_append,List.count_append,List.count_cons,List.count_nil,List.map_cons,List.map_nil,Nat.add_zero,Nat.zero_add];ac_rfl):l.Perm l':=SO h
end Mk
end
section
open Go
namespace Mk
theorem fw{P:Program}{n:Nat}{ops:Array Oper}{Q:Exit→Fr→World→Prop}{rest:List Oper}{ρ:Fr}{w:World}{l:List (Nat×Value)}(h:Has ρ l)(k:∀ρ',Has ρ' l→L P n ops Q rest ρ' w):L P n ops Q rest ρ w:=k ρ h
theorem G0.u{want:Bool}:G0 undef want false:=by unfold G0;rfl
theorem fe{v:Value}{a b:Bool}(h:v=.bool a)(hab:a=b):v=.bool b:=by rw[h,hab]
section
variable {P:Program}{n:Nat}{ops:List Oper}{Γ:C8}{K:List B2}{Q:Fr→World→Prop}{ρ:Fr}{rest:List Oper}{wr tc stab:List (List Nat)}{i:Nat}{M:Nat→Fr→List B2}
variable {ty:TypeId}{pos:String}{es:Array Edge}
end
section
variable {P:Program}{ρ:Fr}{w:World}{d:Option Tmp}{T U ty:TypeId}{pos:String}{es:Array Edge}{x y:Operand}{g:Option (Nat×Bool)}
theorem UU(hT:P.underlying T=some .bool){a b:Bool}(hx:ev ρ x=.bool a)(hy:ev ρ y=.bool b):Yields P ⟨d,.binOp .neq T x y U,ty,pos,es,g⟩ ρ w (.bool (!(a == b))):=by
 unfold Yields;simp[execOp,go_sem,hx,hy,hT]
end
attribute [local irreducible] Calls
section
variable {P:Program}{n:Nat}{ops:List Oper}{Γ:C8}{K:List B2}{wr tc stab:List (List Nat)}{Q:Fr→World→Prop}{i:Nat}{rest:List Oper}{ρ:Fr}{M:Nat→Fr→List B2}
variable {d:Option Tmp}{ty:TypeId}{pos:String}{es:Array Edge}{f:Nat}{args:List Operand}{tys:Array TypeId}{v:Value}
end
def YW(E sz:Nat)(L:List (Value×List (List Value))):List B2:=L.map fun p=>B2.own p.1 E sz p.2
section
variable {Γ:C8}{S:List B2}{w:World}{E sz k:Nat}{L:List (Value×List (List Value))}{p q:Value×List (List Value)}
end
end Mk
end
section
open Go
namespace Mk
def Bf(xs:List Int):List (List Value):=xs.map fun x=>[Value.int .i64 x]
section
variable {P:Program}{Γ:C8}{S:List B2}{w:World}{E i:Nat}
theorem VZ(w:World):Go.Sort.grow w #[]=w:=by
 unfold Go.Sort.grow;simp
theorem Sort_int{ρ:Go.Shelf.Ren}(L:Go.Proofs.Lays.n189 P ρ)(xs:List Int)(v:Value)(hw:Wd Γ S w)(hi:S[i]? = some (.own v E 1 (Bf xs)))(hlen:xs.length<4611686018427387904) :
  Calls P (ρ.f 189) #[v] w fun e w'=>e=.returned (.tuple #[])∧Wd Γ (S.set i (.own v E 1 (Bf (xs.mergeSort fun x y=>decide (x≤y))))) w':=by
 obtain⟨a,n,c,rfl,e2,e3,e4,e5⟩:=Ad hw hi
 have hn:n=xs.length:=by simpa[Bf] using e2
 by_cases h0:n=0
 ·have hx:xs=[]:=List.eq_nil_of_length_eq_zero (by omega)
  subst h0;refine(Go.calls_of_every_depth fun D=>Go.Proofs.AnyS.slices_Sort_int_none_alone L D a c w).mono ?_
  rintro e w' ⟨he,rfl⟩
  refine⟨he,?_⟩
  rw[hx]at hi ⊢
  have hset:S.set i (.own (.slice a 0 c) E 1 (Bf (([]:List Int).mergeSort fun x y=>decide (x≤y))))=S:=by
   obtain⟨hil,hie⟩:=List.getElem?_eq_some_iff.1 hi
   rw[List.mergeSort_nil,←hie];exact List.set_getElem_self hil
  rw[hset];exact hw
 ·have hc:0<c:=by omega
  rcases e5 with e5|⟨g,cur,rfl,hg,hcur,hcs,htk⟩
  ·omega
  obtain⟨hH,hgl⟩:=BO (enc:=fun x:Int=>[Value.int .i64 x]) (k:=1) (fun _=>rfl) hw hi hc
  have hH1:Go.Sort.Holds (Value.int .i64) w g 0 xs.toArray:=fun j hj=>by
   have:=hH j (by simpa using hj)
   rw[CU]at this;have hj:j<xs.length:=by simpa using hj
   simpa[hj] using this
  have:=Go.calls_of_every_depth fun D=>Go.Proofs.AnyS.slices_Sort_int_alone L D g 0 c xs w hH1 hgl hlen
  rw[←hn]at this;refine this.mono ?_
  rintro e w' ⟨he,n',os,rfl⟩
  refine⟨he,?_⟩
  have h1:Go.Sort.grow (Go.Sort.putRow (Value.int .i64) (Go.Sort.ahead w n') g 0 (xs.mergeSort fun x y=>decide (x≤y)).toArray) os=Go.Proofs.sortWorldK (fun x:Int=>[Value.int .i64 x]) 1 w g 0 n' (xs.mergeSort fun x y=>decide (x≤y)).toArray os:=Y4 w g n' _ os
  rw[h1];exact Q2 (enc:=fun x:Int=>[Value.int .i64 x]) (k:=1) (fun _=>rfl) hw hi hc (xs.mergeSort fun x y=>decide (x≤y)).toArray (by simp) n' os
end
attribute [local irreducible] Calls
section
variable {P:Program}{n:Nat}{ops:List Oper}{Γ:C8}{K:List B2}{wr tc stab:List (List Nat)}{Q:Fr→World→Prop}{i:Nat}{rest:List Oper}{ρ:Fr}{M:Nat→Fr→List B2}{T:Type}
variable {ty:TypeId}{pos:String}{es:Array Edge}
abbrev WO:=Option Addr×Nat×Nat
def En(t:WO):Value:=.slice t.1 t.2.1 t.2.2
end
abbrev MW(P:Program)(n:Nat)(ops:List Oper)(Γ:C8)(K:List B2)(wr tc stab:List (List Nat)):V4:=⟨P,n,ops,Γ,K,wr,tc,stab,false⟩
section
variable {P:Program}{n:Nat}{ops:List Oper}{Γ:C8}{K X:List B2}{wr tc stab:List (List Nat)}{N:List Nat}{Q:Fr→World→Prop}{i:Nat}{rest:List Oper}{ρ:Fr}{w:World}{M:Nat→Fr→List B2}{v:Value}{T T':Type}{o:Oper}
theorem gY(h:MSw (MW P n ops Γ K wr tc stab) Q (i+1) rest ⟨D2 ρ o.dst v,M⟩)(hw0:wr.getD i []=[]:=by exact rfl)(hg:o.guard=none:=by exact rfl)(ho:Dj tc stab i o.dst=true:=by exact rfl)
  (hy:∀Γ' Y w g,Γ.le Γ'→Wd Γ' (K++(E8 tc stab i M g++Y)) w→Yields P o (E7 stab.flatten g ρ) w v:=by (intro Γ' Y w g hle hw;exact Pu)):MSw (MW P n ops Γ K wr tc stab) Q i (o::rest) ⟨ρ,M⟩:=by
 have hn:∀c,Mt.nxt (MW P n ops Γ K wr tc stab) i ⟨ρ,M⟩ c=M:=fun c=>by
  funext x;simp only[Mt.nxt,V4.w,hw0];rfl
 refine⟨⟨v,M⟩,⟨fun Γ' Y w g hr hw=>?_⟩,?_⟩
 ·have hle:Γ.le Γ':=hr
  rw[hn];refine⟨fun _=>(hy Γ' Y w g hle hw).step ⟨Γ',C8.le.refl _,?_,fun _=>rfl⟩,fun hf=>?_⟩
  ·have:=Gc (g:=g) (v:=v) ho M
   show Wd Γ' (K++(E8 tc stab i M (D2 g o.dst v)++Y)) w
   rw[this];exact hw
  ·rw[Q4 hg]at hf;cases hf
 ·simp only[Mt.next,hn];exact h
theorem gM{x:Nat}(m:Fr→List B2)(hs:∀Γ' Y w g,Γ.le Γ'→Wd Γ' (K++(E8 tc stab i M g++Y)) w→Step P o (E7 stab.flatten g ρ) w fun u w'=>∃Γ'',Γ'.le Γ''∧Wd Γ'' (K++(E8 tc stab i (H5 M x m) (D2 g o.dst u)++Y)) w'∧(T8 stab o.dst=false→u=v))
  (h:MSw (MW P n ops Γ K wr tc stab) Q (i+1) rest ⟨D2 ρ o.dst v,H5 M x m⟩) (hw0:wr.getD i []=[x]:=by exact rfl) (hg:o.guard=none:=by exact rfl):MSw (MW P n ops Γ K wr tc stab) Q i (o::rest) ⟨ρ,M⟩:=by
 have hn:Mt.nxt (MW P n ops Γ K wr tc stab) i ⟨ρ,M⟩ ⟨v,fun _=>m⟩=H5 M x m:=by
  funext y;simp only[Mt.nxt,V4.w,hw0];rfl
 refine⟨⟨v,fun _=>m⟩,⟨fun Γ' Y w g hr hw=>?_⟩,?_⟩
 ·have hle:Γ.le Γ':=hr
  rw[hn];refine⟨fun _=>(hs Γ' Y w g hle hw).mono fun u w' ⟨Γ'',h0,h1,h2⟩=>⟨Γ'',h0,h1,h2⟩,fun hf=>?_⟩
  rw[Q4 hg]at hf;cases hf
 ·simp only[Mt.next,hn];exact h
end
section
variable {P:Program}{n:Nat}{ops:List Oper}{Γ:C8}{K:List B2}{wr tc stab:List (List Nat)}{Q:Fr→World→Prop}{i:Nat}{rest:List Oper}{ρ:Fr}{M:Nat→Fr→List B2}{v:Value}{o:Oper}
theorem XV{id:Nat}{l:List Oper}{QQ:Exit→Fr→World→Prop}{w:World}(K:List B2)(M:List (Fr→List B2))(wr tc stab:List (List Nat))(hw:Wd Γ (K++(List.range stab.length).flatMap fun x=>(ML M) x (E7 (stab.getD x []) ρ D4)) w)
  (h:MSw (MW P n l Γ K wr tc stab) (fun ρ w=>QQ .normal ρ w) 0 l ⟨ρ,ML M⟩) (hm:P.follows .mixedOrders=true:=by kernel_rfl) (hk:R3 n l wr tc stab=true:=by kernel_rfl):W P n (.region id l.toArray true) QQ ρ w:=
 Tc K (ML M) wr tc stab false hm hk hw h
theorem gS{c:Nat}{F:Fr→List B2}(F':Fr→List B2)
  (hs:∀Γ' g w Y,Γ.le Γ'→Wd Γ' (F (E7 (stab.getD c []) g D4)++(K++Y)) w→Step P o (E7 stab.flatten g ρ) w fun u w'=>∃Γ'',Γ'.le Γ''∧(T8 stab o.dst=false→u=v)∧Wd Γ'' (F' (E7 (stab.getD c []) (D2 g o.dst u) D4)++(K++Y)) w')
  (h:MSw (MW P n ops Γ K wr tc stab) Q (i+1) rest ⟨D2 ρ o.dst v,H5 M c F'⟩) (hM:M c=F) (hw0:wr.getD i []=[c]) (ht:tc.getD i []=[c]) (hg:o.guard=none) :
  MSw (MW P n ops Γ K wr tc stab) Q i (o::rest) ⟨ρ,M⟩:=by
 refine gM _ (fun Γ' Y w g hle hw=>?_) h hw0 hg
 rw[O2 ht,hM]at hw;refine(hs Γ' g w Y hle hw.swapApp).mono ?_
 rintro u w' ⟨Γ'',h0,h2,h3⟩
 refine⟨Γ'',h0,?_,h2⟩
 rw[O2 ht,B0];exact h3.swapApp
theorem gC(hy:∀Γ' Y w g,Γ.le Γ'→Wd Γ' (K++(E8 tc stab i M g++Y)) w→Step P o (E7 stab.flatten g ρ) w fun u w'=>u=v∧Wd Γ' (K++(E8 tc stab i M g++Y)) w')(hw0:wr.getD i []=[])(hg:o.guard=none)(ho:Dj tc stab i o.dst=true)
  (h:MSw (MW P n ops Γ K wr tc stab) Q (i+1) rest ⟨D2 ρ o.dst v,M⟩):MSw (MW P n ops Γ K wr tc stab) Q i (o::rest) ⟨ρ,M⟩:=by
 have hn:∀c,Mt.nxt (MW P n ops Γ K wr tc stab) i ⟨ρ,M⟩ c=M:=fun c=>by
  funext x;simp only[Mt.nxt,V4.w,hw0];rfl
 refine⟨⟨v,M⟩,⟨fun Γ' Y w g hr hw=>?_⟩,?_⟩
 ·have hle:Γ.le Γ':=hr
  rw[hn];refine⟨fun _=>(hy Γ' Y w g hle hw).mono fun u w' ⟨h1,h2⟩=>⟨Γ',C8.le.refl _,?_,fun _=>h1⟩,fun hf=>?_⟩
  ·have:=Gc (g:=g) (v:=u) ho M
   show Wd Γ' (K++(E8 tc stab i M (D2 g o.dst u)++Y)) w'
   rw[this];exact h2
  ·rw[Q4 hg]at hf;cases hf
 ·simp only[Mt.next,hn];exact h
theorem iJ(h:∀Γ' w g,Γ.le Γ'→Wd Γ' (K++(List.range stab.length).flatMap fun x=>M x (E7 (stab.getD x []) g D4)) w→Q (E7 stab.flatten g ρ) w):MSw (MW P n ops Γ K wr tc stab) Q i [] ⟨ρ,M⟩:=fun Γ' w g hr hw=>h Γ' w g hr hw
end
end Mk
end
section
open Go
namespace Mk
section
variable {P:Program}{Γ:C8}{S:List B2}{w:World}{E n c g i:Nat}{α:Type}[Inhabited α]{f:α→Value}
theorem Si{ρ:Go.Shelf.Ren}(L:Go.Proofs.SlLaysF.n6 P ρ)(hf1:∀x,(f x).oneCell'=true)(cf:α→α→Int)(fn:Nat)(cap:List Value)[C7 P fn](xs:List α)(v:Value)(hw:Wd Γ S w)(hi:S[i]? = some (.own v E 1 (xs.map fun x=>[f x])))
  (hO:Go.Sort.SWO (Go.Proofs.ltOf cf)) (hlen:xs.length<4611686018427387904)
  (hcmp:∀(dk:List α) w',Wd Γ (S.set i (.own v E 1 (dk.map fun x=>[f x]))) w'→∀x y,Calls P fn (#[f x,f y]++cap.toArray) w' fun e w''=>e=.returned (.int .i64 (cf x y))∧∃S'',Wd (EP w') S'' w'') :
  Calls P (ρ.f 6) #[v,.func (.func fn) #[] cap.toArray] w fun e w'=>e=.returned (.tuple #[])∧∃ys:List α,ys.Perm xs∧(ys.Pairwise fun a b=>Go.Proofs.ltOf cf b a=false)∧Wd Γ (S.set i (.own v E 1 (ys.map fun x=>[f x]))) w':=by
 obtain⟨a,n,c,rfl,e2,e3,e4,e5⟩:=Ad hw hi
 have hn:n=xs.length:=by simpa using e2
 by_cases h0:n=0
 ·have hx:xs=[]:=List.eq_nil_of_length_eq_zero (by omega)
  subst h0;refine(Go.Proofs.AnyF.slices_SortFunc_none (P:=P) (ρ:=ρ) { L with } a c _ w).mono ?_
  rintro e w' ⟨he,rfl⟩
  refine⟨he,[],by rw[hx],List.Pairwise.nil,?_⟩
  rw[hx]at hi;have hset:S.set i (.own (.slice a 0 c) E 1 (([]:List α).map fun x=>[f x]))=S:=by
   obtain⟨hil,hie⟩:=List.getElem?_eq_some_iff.1 hi
   rw[←hie];exact List.set_getElem_self hil
  rw[hset];exact hw
 ·have hc:0<c:=by omega
  rcases e5 with e5|⟨g,cur,rfl,hg,hcur,hcs,htk⟩
  ·omega
  obtain⟨hH,hgl⟩:=BO (enc:=fun x:α=>[f x]) (k:=1) (fun _=>rfl) hw hi hc
  have hH1:Go.Sort.Holds f w g 0 xs.toArray:=fun j hj=>by
   have:=hH j (by simpa using hj)
   rw[CU]at this;have hj:j<xs.length:=by simpa using hj
   simpa[hj] using this
  have:=Go.Proofs.Any.slices_SortFunc L f hf1 cf hO fn cap.toArray g 0 c xs.toArray w (fun args w=>P9 args) (fun m os dk hdk x y=>?_) hH1 hgl (by simpa using hlen)
  ·simp only[List.size_toArray]at this
   rw[←hn]at this;refine this.mono ?_
   rintro e w' ⟨he,d',n',os,hp,hs,rfl⟩
   have hd:d'.size=xs.length:=by have:=hp.1;simpa using this
   refine⟨he,d'.toList,by simpa using Ib (d:=xs.toArray) (by simpa[←hn] using hp),Fc (m:=n) (by omega) hs,?_⟩
   rw[Y4];exact Q2 (enc:=fun x:α=>[f x]) (k:=1) (fun _=>rfl) hw hi hc d' hd n' os
  ·have W1:=Q2 (enc:=fun x:α=>[f x]) (k:=1) (fun _=>rfl) hw hi hc dk (by simpa using hdk) m os
   rw[←Y4]at W1;refine(hcmp dk.toList _ W1 x y).mono ?_
   rintro e w'' ⟨he,S'',Aj⟩
   exact⟨he,Hc Aj⟩
end
def dp(id:Nat)(Q:List Deferred→Exit→Fr→World→Prop):List Deferred→Exit→Fr→World→Prop:=fun D=>ck id (Q D)
section
variable {P:Program}{n:Nat}{Q:List Deferred→Exit→Fr→World→Prop}{D:List Deferred}{ρ:Fr}{w:World}
theorem cH(h:Q D .normal ρ w):WX P n .skip Q D ρ w:=fun a hd hs hf=>wp_skip ⟨hs,by rw[hd,hf];exact h⟩
theorem cu{id:Nat}(h:Q D (.exit id) ρ w):WX P n (.exit id) Q D ρ w:=fun a hd hs hf=>wp_exit ⟨hs,by rw[hd,hf];exact h⟩
theorem Wx{id:Nat}{c:Code}(h:WX P n c (dp id Q) D ρ w):WX P n (.block id c) Q D ρ w:=fun a hd hs hf=>
 wp_block (Code.wp_mono (fun e a w ⟨q,r⟩=>by
  cases e <;> first|exact⟨q,r⟩|(simp only[dp,ck]at r;simp only[Exit.inBlock];split <;> rename_i h <;> simp only[h,if_true,if_false]at r <;> exact⟨q,r⟩)) (h a hd hs hf))
theorem al{c:Code}(I:Nat→Fr→World→Prop)(m₀:Nat)(h0:I m₀ ρ w)
  (round:∀m ρ w,I m ρ w→WX P n c (eA (fun D' ρ' w'=>D'=D∧∃m'<m,I m' ρ' w') Q) D ρ w):WX P n (.loop c) Q D ρ w:=fun a hd hs hf=>
 wp_loop_ghost (fun m a w=>a.defers=D∧a.tmps.size=n∧I m (E0 a) w) m₀ ⟨hd,hs,hf ▸ h0⟩ fun m a w ⟨p,q,r⟩=>
  Code.wp_mono (fun e a w ⟨q,r⟩=>by
   cases e <;> first|exact⟨q,r⟩|(obtain⟨hD,m',h1,h2⟩:=r;exact⟨m',h1,hD,q,h2⟩)) (round m _ w r a p q rfl)
theorem CB{p G:Prop}(h:G)(e:G→p:=by intro h;first|exact DK h|exact Wx h|exact FA h|exact cH h|exact Zj h|exact cu h):p:=e h
end
section
variable {P:Program}
attribute [local semireducible] W
theorem QB{f:FuncId}{fn:Func}{c:Code}{args:Array Value}{u:FrameMode}{w:World}{R:Ending→World→Prop}(hf:P.funcs[f]? = some fn)(hb:fn.body=some c)
  (hn:Nat.ble args.size fn.ntmps=true) (h:W P fn.ntmps c (ea fn.results R) (d9 args) w):CallsD P f args u w fun e u' w'=>u'=u∧R e w':=by
 have hle:args.size≤fn.ntmps:=Nat.le_of_ble_eq_true hn
 refine callsD_of_wp hf hb (Code.wp_mono ?_ (h _ rfl (by simp;omega) (RQ hn)))
 rintro e a w ⟨hd,hs,hq⟩
 cases e with
 | normal=>obtain⟨v,hv,hR⟩:=hq;exact⟨hd,v,Q5 hv,hR⟩
 | ret=>obtain⟨v,hv,hR⟩:=hq;exact⟨hd,v,Q5 hv,hR⟩
 | panic ch=>exact⟨hd,hq⟩
 | outgrown=>exact hq
 | exit id=>exact hq.elim
 | goto l=>exact hq.elim
theorem Sl{fn:Func}{tmps:Array Value}{R:Ending→World→Prop}{f:Nat}{fst cap:Array Value}{w:World}[C7 P f](h:CallsD P f (fst++cap) .returning w fun e u' w'=>u'=.returning∧(∃v,e=.returned v)∧∃v,(results fn tmps).run P w'=.ok v w'∧R (.returned v) w') :
  Leaves P fn tmps R [⟨.fn (.func f) cap,fst⟩] .returning w:=
 leaves_cons (by intro h;cases h) (P9 _) (h.mono fun e u' w' ⟨h1,⟨v,h2⟩,h3⟩=>by subst h1;subst h2;exact h3)
end
end Mk
end
section
open Go Mk
namespace Go.Proofs.YtlimglpjpcfpdaaGreat
set_option maxHeartbeats 16000000
attribute [local irreducible] Calls cI cB
theorem dJ{s:ByteArray}(h:s.size≤9223372036854775807):SB s:=⟨by omega⟩
instance dh(s:ByteArray):PC Tryz.prog 146 [.string s] (.bool (KM s)):=⟨fun w=>by
 refine A9 Tryz.func146 rfl rfl ?_
 refine A6 ?_;exact⟨_,rfl,rfl,rfl⟩⟩
theorem Ff{s:ByteArray}(h:s.size≤9223372036854775807):PC Tryz.prog 154 [.string s] (.bool (Z0 s)):=⟨fun w=>by
 haveI:=dJ h
 have hs0:G7 s=true→0<s.size:=fun hn=>by
  unfold G7 Ao at hn;simp only[Bool.and_eq_true,decide_eq_true_eq]at hn
  exact hn.1.1.1
 refine A9 Tryz.func154 rfl rfl ?_
 refine A6 ?_;refine lG ?_ (hv:=fun hc=>by exact KW B8 B8 (by omega) (by have:=hs0 hc;omega))
 refine A6 ?_;refine lG ?_ (hv:=fun hc=>by exact KW B8 B8 (by omega) (by have:=hs0 (L0 hc);omega))
 refine A6 ?_;exact⟨_,rfl,rfl,rfl⟩⟩
instance fK(Γ:C8)(x:N6):PG Tryz.prog Γ 48 [.agg (cG x).toArray] (.bool (J0 x.g)):=⟨fun S w hw=>by
 refine A9 Tryz.func48 rfl rfl ?_
 refine A6 ?_;refine H9 ?_;intro b1 w hw;have hw:Wd Γ (.blk b1 (.cells (cG x).toArray 127)::S) w:=hw
 refine A6 ?_;exact⟨_,rfl,rfl,hw.drop⟩⟩
instance Yd(Γ:C8)(a b:Val):PG Tryz.prog Γ 116 [.agg (enc a).toArray,.agg (enc b).toArray] (.int .i64 (cV a b)):=⟨fun S w hw=>by
 refine A9 Tryz.func116 rfl rfl ?_
 refine A6 ?_;refine H9 ?_;intro b1 w hw;refine H9 ?_;intro b2 w hw;have hw:Wd Γ (.blk b2 (.cells (enc b).toArray 54)::.blk b1 (.cells (enc a).toArray 54)::S) w:=hw
 refine A6 ?_;refine Fi [.blk b2 _,.blk b1 _] S [20] [[],[],[],[],[],[],[],[],[],[],[],[],[],[],[],[0],[0],[]] hw ?_
 refine R1 ?_;refine Da (v:=undef) (T':=Value) (fun t g=>g 20=t) (fun t=>.own t 3 1 ([cI a.Kind b.Kind,cI a.Num b.Num,cB a.Word b.Word].map fun x=>[.int .i64 x])::S) (fun t g w Y _ hw=>R8 (rws:=[cI a.Kind b.Kind,cI a.Num b.Num,cB a.Word b.Word].map fun x=>[.int .i64 x]) hw rfl rfl rfl (by simp) (by decide) fun q w' hw'=>⟨_,rfl,(fun h=>by cases h),hw'⟩) ?_
 refine RJ (φ:=fun (t:Value) g=>g 20=t) (v:=.int .i64 (cV a b)) (T':=Value) (fun _ _=>True) (fun t=>.own t 3 1 ([cI a.Kind b.Kind,cI a.Num b.Num,cB a.Word b.Word].map fun x=>[.int .i64 x])::S) (fun t _=>[t]) (fun t g w Y ht hw=>?_) ?_ (ha:=fun t g ht=>EvL.cons ht EvL.nil)
 ·refine(Ja _ hw (P6.own (i:=0) hw rfl)).mono ?_
  rintro e w ⟨rfl,hw⟩
  refine⟨_,rfl,t,trivial,fun _=>?_,hw⟩
  unfold cV LR LR LR LR;rw[To]
 refine R1 ?_;refine IX fun t w g _ hw=>?_
 refine A6 ?_;exact⟨_,rfl,rfl,hw.drop.left⟩⟩
theorem LE{Γ:C8}{q:Nat}[C7 Tryz.prog q](hq:∀a b:Val,PG Tryz.prog Γ q [.agg (enc a).toArray,.agg (enc b).toArray] (.int .i64 (cV a b))){va vb:Value}{xs ys:List Val}(ha:D9 Γ va 3 (xs.map enc))(hb:D9 Γ vb 3 (ys.map enc)) :
  PG Tryz.prog Γ 115 [va,vb,.func (.func q) #[] #[]] (.int .i64 (cL cV xs ys)):=⟨fun S w hw=>by
 obtain⟨a,n,c,rfl,hn,hnc,hc⟩:=ha.shape;obtain⟨a2,n2,c2,rfl,hn2,hnc2,hc2⟩:=hb.shape;simp only[List.length_map]at hn hn2
 refine A9 Tryz.func115 rfl rfl ?_
 refine A6 ?_;refine B5 (fun μ ρ w=>∃(k:Nat),μ+k=n∧Has ρ [(0,.slice a n c),(1,.slice a2 n2 c2),(2,.func (.func q) #[] #[]),(11,.slice a n c),(12,.int .i64 n),(13,.int .i64 k)]∧cL cV xs ys=cL cV (xs.drop k) (ys.drop k)∧Wd Γ S w) n ⟨0,by omega,⟨rfl,rfl,rfl,rfl,rfl,rfl,trivial⟩,rfl,hw⟩ ?_
 clear hw;rintro μ ρ w ⟨k,hk,hρ,ho,hw⟩
 rw[hρ.eq];refine A6 ?_;refine A7 rfl (fun h=>?_) (fun h=>?_)
 ·have hkn:k<n:=by simpa using h
  obtain⟨x,hx⟩:=B4 (l:=xs) (k:=k) (by omega)
  have hd:xs.drop k=x::xs.drop (k+1):=R9 hx
  rw[hd]at ho;refine A6 ?_;refine C0 ?_;intro b8 w hw;refine A6 ?_;refine B1 ?_;intro w hw;have hw:Wd Γ (.blk b8 (.cells (enc x).toArray 54)::S) w:=hw
  refine A6 ?_;refine A7 rfl (fun h2=>?_) (fun h2=>?_)
  ·refine A6 ?_;have h2:n2≤k:=by simpa using h2
   refine⟨_,rfl,H0 rfl ?_,hw.drop⟩
   rw[ho,G9 ys (by omega)];rfl
  ·have h2:k<n2:=by simpa using h2
   obtain⟨y,hy⟩:=B4 (l:=ys) (k:=k) (by omega)
   rw[R9 hy]at ho;have ho:cL cV xs ys=Ew (cV x y) (cL cV (xs.drop (k+1)) (ys.drop (k+1))):=ho
   refine A6 ?_;refine C0 ?_;intro b9 w hw;refine B1 ?_;intro w hw;have hw:Wd Γ (.blk b9 (.cells (enc y).toArray 54)::.blk b8 (.cells (enc x).toArray 54)::S) w:=hw
   refine A6 ?_;refine Cp (fst:=[]) (cap:=[]) ?_
   refine((hq x y).h _ _ hw).mono ?_
   rintro e w ⟨rfl,hw⟩
   refine⟨_,rfl,?_⟩;refine A6 ?_;refine A7 rfl (fun h3=>?_) (fun h3=>?_)
   ·refine A6 ?_;have h3:¬cV x y=0:=by simpa using h3
    refine⟨_,rfl,H0 rfl ?_,hw.drop.drop⟩
    rw[ho,Nq h3]
   ·refine A6 ?_;have h3:cV x y=0:=by simpa using h3
    refine⟨μ-1,by omega,k+1,by omega,⟨rfl,rfl,rfl,rfl,rfl,rfl,trivial⟩,?_,hw.drop.drop⟩
    rw[ho,KI h3]
 ·have hkn:¬k<n:=by simpa using h
  rw[G9 xs (by omega)]at ho
  refine A6 ?_;refine A7 rfl (fun h2=>?_) (fun h2=>?_)
  ·refine A6 ?_;have h2:n<n2:=by simpa using h2
   obtain⟨y,hy⟩:=B4 (l:=ys) (k:=k) (by omega)
   rw[R9 hy]at ho;exact⟨_,rfl,H0 rfl (by rw[ho];rfl),hw⟩
  ·refine A6 ?_;have h2:¬n<n2:=by simpa using h2
   rw[G9 ys (by omega)]at ho
   exact⟨_,rfl,H0 rfl (by rw[ho];rfl),hw⟩⟩
theorem Tm{Γ:C8}{va vb:Value}{xs ys:List Val}(ha:D9 Γ va 3 (xs.map enc))(hb:D9 Γ vb 3 (ys.map enc)):PG Tryz.prog Γ 52 [va,vb] (.int .i64 (cL cV xs ys)):=⟨fun S w hw=>by
 have hC:=LE (q:=116) (fun a b=>Yd Γ a b) ha hb
 obtain⟨a,n,c,rfl,hn,hnc,hc⟩:=ha.shape;obtain⟨a2,n2,c2,rfl,hn2,hnc2,hc2⟩:=hb.shape;refine A9 Tryz.func52 rfl rfl ?_
 repeat first|refine U9 ?_|refine V5 ?_;intro w hw
 exact⟨_,rfl,rfl,hw⟩⟩
theorem Jn{Γ:C8}{va vb:Value}{xs ys:List Val}(ha:D9 Γ va 3 (xs.map enc))(hb:D9 Γ vb 3 (ys.map enc)):PG Tryz.prog Γ 53 [va,vb] (.bool (decide (cL cV xs ys=0))):=⟨fun S w hw=>by
 have hC:=Tm ha hb
 obtain⟨a,n,c,rfl,hn,hnc,hc⟩:=ha.shape;obtain⟨a2,n2,c2,rfl,hn2,hnc2,hc2⟩:=hb.shape;refine A9 Tryz.func53 rfl rfl ?_
 repeat first|refine U9 ?_|refine V5 ?_;intro w hw
 exact⟨_,rfl,rfl,hw⟩⟩
theorem LJ(l r off:Int)(hl:GJ l)(hr:GJ r)(ho:GJ off):PC Tryz.prog 227 [.int .i64 l,.int .i64 r,.int .i64 off] (.int .i64 (Vg l r off)):=⟨fun w=>by
 have hwr:=XH (r+off)
 have hmod:IntKind.i64.wrap (r+off)=r+off∨(9223372036854775807<r+off∧IntKind.i64.wrap (r+off)=r+off-18446744073709551616)∨(r+off < -9223372036854775808∧IntKind.i64.wrap (r+off)=r+off+18446744073709551616):=by
  unfold GJ at *
  simp only[IntKind.wrap,IntKind.bits,IntKind.signed]
  simp
  split <;> omega
 obtain⟨s,hs⟩:∃s,s=IntKind.i64.wrap (r+off):=⟨_,rfl⟩
 refine A9 Tryz.func227 rfl rfl ?_
 first|refine U9 ?_|(refine V5 ?_;intro w hw)
 first|refine U9 ?_|(refine V5 ?_;intro w hw)
 first|refine U9 ?_|(refine V5 ?_;intro w hw)
 first|refine U9 ?_|(refine V5 ?_;intro w hw)
 first|refine U9 ?_|(refine V5 ?_;intro w hw)
 first|refine U9 ?_|(refine V5 ?_;intro w hw)
 first|refine U9 ?_|(refine V5 ?_;intro w hw)
 first|refine U9 ?_|(refine V5 ?_;intro w hw)
 refine lY (v:=.int .i64 s) ?_ (hy:=by rw[hs];exact Ty rfl rfl)
 rw[←hs]at hmod hwr
 clear hs;unfold GJ at hl hr ho;refine A6 ?_;refine A7 rfl (fun h=>?_) (fun h=>?_)
 ·refine A6 ?_;simp only[Bool.and_eq_true,decide_eq_true_eq]at h
  refine⟨_,rfl,H0 rfl ?_,rfl⟩
  unfold Vg cI;rw[if_pos (by omega)]
 refine A6 ?_;refine A7 rfl (fun h2=>?_) (fun h2=>?_)
 ·refine A6 ?_;simp only[Bool.and_eq_true,decide_eq_true_eq]at h2
  refine⟨_,rfl,H0 rfl ?_,rfl⟩
  unfold Vg cI;rw[if_neg (by omega),if_pos (by omega)]
 have hsum:s=r+off:=by
  simp only[Bool.and_eq_false_iff,decide_eq_false_iff_not]at h h2
  omega
 refine A6 ?_;exact⟨_,rfl,H0 rfl (by rw[hsum];rfl),rfl⟩⟩
end Go.Proofs.YtlimglpjpcfpdaaGreat
end
section
open Go Mk
namespace Go.Proofs.YtlimglpjpcfpdaaGreat
set_option maxHeartbeats 16000000
attribute [local irreducible] Calls cI cB
theorem DJ{Γ:C8}{f:Nat}{args:List Value}{v:Value}(h:∀(Γ1:C8) (w:World),Γ.le Γ1→Wd Γ1 [] w→Calls Tryz.prog f args.toArray w fun e w'=>∃Γ2,Γ1.le Γ2∧e=.returned v∧Wd Γ2 [] w'):PG Tryz.prog Γ f args v:=
 ⟨fun S w hw=>(h (dn Γ w) w (RS hw) (Ru hw)).mono fun e w' ⟨Γ2,hle,he,hw'⟩=>⟨he,Jw (R:=[]) hw hle (by simp) hw'⟩⟩
theorem ED{g:H3}(h:GB g):(J5 g).length≤1000:=by
 unfold J5;have:=h.len
 split
 ·exact this
 split
 ·simp
 split <;> simp
theorem bM{g:H3}(h:GB g):∀o∈J5 g,GU o:=by
 unfold J5;intro o ho;split at ho
 ·exact h.args o ho
 split at ho
 ·simp only[List.mem_cons,List.not_mem_nil,or_false]at ho
  rcases ho with rfl|rfl
  ·exact h.l
  ·exact h.r
 split at ho
 ·simp only[List.mem_cons,List.not_mem_nil,or_false]at ho
  rw[ho];exact h.l
 ·cases ho
section
variable {Γ:C8}{S:List B2}{w:World}
theorem o9{x:N6}(hx:WL Γ x)(hw:Wd Γ S w) :
  Calls Tryz.prog 153 #[.agg (cG x).toArray] w fun e w'=>∃Γ' v,Γ.le Γ'∧e=.returned v∧D9 Γ' v 4 ((J5 x.g).map enc)∧Wd Γ' S w':=by
 obtain⟨l1,l2,l3⟩:=hx.len;obtain⟨g,A,N,C⟩:=x;simp only at l1 l2 l3
 refine A9 Tryz.func153 rfl rfl ?_
 refine A6 ?_;refine H9 ?_;intro b1 w hw;have hw:Wd Γ (.blk b1 (.cells (cG ⟨g,A,N,C⟩).toArray 127)::S) w:=hw
 refine A6 ?_;refine A7 rfl (fun h=>?_) (fun h=>?_)
 ·have hk:g.Kind=1:=of_decide_eq_true h
  refine A6 ?_;refine M7 (congrArg Value.bool h) ?_
  refine A6 ?_;refine⟨_,rfl,Γ,_,C8.le.refl _,rfl,?_,hw.drop⟩
  unfold J5;rw[if_pos (Or.inl hk)];exact hx
 have hk1:¬g.Kind=1:=of_decide_eq_false h
 refine A6 ?_;refine A7 rfl (fun h=>?_) (fun h=>?_)
 ·have hk:g.Kind=2:=of_decide_eq_true h
  refine A6 ?_;refine⟨_,rfl,Γ,_,C8.le.refl _,rfl,?_,hw.drop⟩
  unfold J5;rw[if_pos (Or.inr hk)];exact hx
 have hk2:¬g.Kind=2:=of_decide_eq_false h
 refine A6 ?_;refine A7 rfl (fun h=>?_) (fun h=>?_)
 ·have hk:g.Kind=3:=of_decide_eq_true h
  refine A6 ?_;refine B6 [enc g.L,enc g.R] ?_
  intro q w hw;obtain⟨Γ',hle,hr,hw⟩:=hw.freeze;refine A6 ?_;refine⟨_,rfl,Γ',_,hle,rfl,?_,hw.drop⟩
  unfold J5;rw[if_neg (fun e=>e.elim hk1 hk2),if_pos hk];exact hr
 have hk3:¬g.Kind=3:=of_decide_eq_false h
 refine A6 ?_;refine A7 rfl (fun h=>?_) (fun h=>?_)
 ·have hk:g.Kind=4:=of_decide_eq_true h
  refine A6 ?_;refine B6 [enc g.L] ?_
  intro q w hw;obtain⟨Γ',hle,hr,hw⟩:=hw.freeze;refine A6 ?_;refine⟨_,rfl,Γ',_,hle,rfl,?_,hw.drop⟩
  unfold J5;rw[if_neg (fun e=>e.elim hk1 hk2),if_neg hk3,if_pos hk];exact hr
 have hk4:¬g.Kind=4:=of_decide_eq_false h
 refine A6 ?_;refine⟨_,rfl,Γ,_,C8.le.refl _,rfl,?_,hw.drop⟩
 unfold J5;rw[if_neg (fun e=>e.elim hk1 hk2),if_neg hk3,if_neg hk4];exact D9.nil
end
theorem Sp{v:Val}:decide ((NM [] (⟨#[118]⟩,[v])).2=0)=M1 v:=by
 have hn:G7 ⟨#[118]⟩=true:=by decide +kernel
 have hr:DX (⟨#[118]⟩,[v])=M1 v:=by
  unfold DX;simp only[hn,List.length_singleton,List.all_cons,List.all_nil,Bool.and_true]
  simp
 unfold NM;rw[hr];cases h:M1 v with
 | true=>
  rw[if_pos rfl,if_pos]
  ·rfl
  ·have:(N8 ([]++[((⟨#[118]⟩:ByteArray),[v])])).length≤([]++[((⟨#[118]⟩:ByteArray),[v])]).length:=Al
   exact Nat.le_trans this (by simp)
 | false=>
  rw[if_neg (by simp)];rfl
theorem Fa{Γ:C8}{v:Val}(hv:o6 v):PG Tryz.prog Γ 155 [.agg (enc v).toArray] (.bool (M1 v)):=DJ fun Γ w _ hw=>by
 refine A9 Tryz.func155 rfl rfl ?_
 refine A6 ?_;refine H9 ?_;intro b1 w hw;have hw:Wd Γ [.blk b1 (.cells (enc v).toArray 54)] w:=hw
 refine A6 ?_;refine B6 [enc v] ?_
 intro q w hw;obtain⟨Γ1,hle1,hr,hw⟩:=hw.freeze;refine A6 ?_;refine D3 (vs:=[.slice none 0 0,.agg (cF ⟨⟨#[118]⟩,some q,1,1,[v]⟩).toArray]) ((Rr (Γ:=Γ1) (f:=⟨⟨#[118]⟩,some q,1,1,[v]⟩) [] (fun f hf=>by cases hf) (by simp) hr ⟨by simp[D1.fact],by show 1≤100000;omega,fun u hu=>by
  have:u=v:=by simpa[D1.fact] using hu
  rw[this];exact hv⟩ D9.nil.rdS hw).mono fun e w hq=>?_)
 obtain⟨Γ2,v',gs,hle2,rfl,-,hRL,hw⟩:=hq;refine⟨_,rfl,?_⟩;refine A6 ?_;exact⟨_,rfl,Γ2,hle1.trans hle2,F6 rfl (Sp (v:=v)),hw.drop⟩
end Go.Proofs.YtlimglpjpcfpdaaGreat
end
section
open Go Mk
namespace Go.Proofs.YtlimglpjpcfpdaaGreat
set_option maxHeartbeats 16000000
attribute [local irreducible] Calls cI cB
def fP(v:Val):Value:=.agg (enc v).toArray
abbrev E4(bm:Nat)(e:Env):B2:=B2.ms fP bm e
def G2(vs vg vt vr:Value)(bm:Nat):Obj:=.cells #[vs,vg,vt,.map (some bm),vr] 121
section
variable {Γ:C8}{S:List B2}{w:World}{b bm:Nat}{vs vg vt vr:Value}{e:Env}
theorem Vw{o:P1}(hw:Wd Γ (.blk b (G2 vs vg vt vr bm)::E4 bm e::S) w):Calls Tryz.prog 159 #[.pointer (some ⟨b,0,none⟩),.agg (enc o).toArray] w fun r w'=>r=.returned (.agg (enc (Ix e o)).toArray)∧Wd Γ (.blk b (G2 vs vg vt vr bm)::E4 bm e::S) w':=by
 refine K9 Tryz.func159 rfl rfl ?_
 refine A6 ?_;refine H9 ?_;intro b3 w hw;refine C0 ?_;intro b4 w hw;have hw:Wd Γ (.blk b4 (.cells #[.int .i64 0,.int .i64 0,.string ⟨#[]⟩] 54)::.blk b3 (.cells (enc o).toArray 125)::.blk b (G2 vs vg vt vr bm)::E4 bm e::S) w:=hw
 refine A6 ?_;refine A7 rfl (fun h=>?_) (fun h=>?_)
 ·have hv:o.Var≠F4:=of_decide_eq_true h
  refine A6 ?_;refine Fi [.blk b3 (.cells (enc o).toArray 125),.blk b (G2 vs vg vt vr bm),E4 bm e] (.blk b4 (.cells #[.int .i64 0,.int .i64 0,.string ⟨#[]⟩] 54)::S) [] [[],[],[],[],[],[],[],[0]] (hw.perm K1) ?_
  refine R1 ?_;refine Da (v:=undef) (T':=Unit) (fun _ _=>True) (fun _=>.blk b4 (.cells (enc (CY e o.Var)).toArray 54)::S) (fun t g w Y _ hw=>?_) ?_
  ·exact m9 (i:=0) (vs:=enc (CY e o.Var)) (n:=3) (by kernel_rfl) hw rfl rfl rfl rfl (fun u hu=>(List.all_eq_true.1 (Ep (CY e o.Var))) u hu) rfl (by decide) fun w' hw'=>⟨(),trivial,(fun _=>rfl),hw'⟩
  refine IX fun t w g _ hw=>?_
  have hw:Wd Γ ((.blk b4 (.cells (enc (CY e o.Var)).toArray 54)::S)++[.blk b3 (.cells (enc o).toArray 125),.blk b (G2 vs vg vt vr bm),E4 bm e]) w:=hw
  have hw:Wd Γ (.blk b4 (.cells (enc (CY e o.Var)).toArray 54)::.blk b3 (.cells (enc o).toArray 125)::.blk b (G2 vs vg vt vr bm)::E4 bm e::S) w:=hw.perm K1
  refine A6 ?_;refine⟨[.agg (enc (CY e o.Var)).toArray],⟨T4 (i:=0) hw rfl rfl rfl,trivial⟩,?_,hw.drop.drop⟩
  unfold Ix;rw[if_pos hv];rfl
 ·have hv:¬o.Var≠F4:=of_decide_eq_false h
  refine A6 ?_;refine B1 ?_;intro w hw;have hw:Wd Γ (.blk b4 (.cells (enc o.Const).toArray 54)::.blk b3 (.cells (enc o).toArray 125)::.blk b (G2 vs vg vt vr bm)::E4 bm e::S) w:=hw
  refine A6 ?_;refine⟨[.agg (enc o.Const).toArray],⟨T4 (i:=0) hw rfl rfl rfl,trivial⟩,?_,hw.drop.drop⟩
  unfold Ix;rw[if_neg hv];rfl
theorem SE{os:List P1}{xs:List Val}{k:Nat}{o:P1}{x:Val}(ho:os[k]? = some o)(hx:xs[k]? = some x):P4 e (os.drop k) (xs.drop k)=(Ef e o x&&P4 e (os.drop (k+1)) (xs.drop (k+1))):=by
 rw[R9 ho,R9 hx];rfl
theorem TR{o:P1}{x:Val}(ha:o.Var≠H2)(hn:F1 e F4=none):(!Ef e o x)=(if o.Var=F4 then decide (o.Const≠x) else ((F1 e o.Var).isSome&&decide ((F1 e o.Var).getD default≠x))||(!(F1 e o.Var).isSome && !M1 x)):=by
 unfold Ef;rw[if_neg ha];by_cases h0:o.Var=F4
 ·rw[if_pos h0,if_pos h0];simp
 rw[if_neg h0,if_neg h0];cases F1 e o.Var with
 | none=>simp
 | some u=>simp
theorem OM{va:Value}{os:List P1}{f:D1}(hargs:D9 Γ va 4 (os.map enc))(hos:∀o∈os,GU o)(hf:BS Γ f)(hfo:Dc f.fact)(hlen:os.length=f.Args.length)(hn:F1 e F4=none)(hN:os.length≤1000)(hw:Wd Γ (.blk b (G2 vs vg vt vr bm)::E4 bm e::S) w) :
  Calls Tryz.prog 109 #[.pointer (some ⟨b,0,none⟩),va,.agg (cF f).toArray] w fun r w'=>r=.returned (.bool (P4 e os f.Args))∧Wd Γ (.blk b (G2 vs vg vt vr bm)::E4 bm e::S) w':=by
 obtain⟨a,n,c,rfl,hln,hnc,hc⟩:=hargs.shape;simp only[List.length_map]at hln
 obtain⟨l1,l2,l3⟩:=hf.len;have hfR:=hf
 unfold BS D1.hdr at hfR;obtain⟨-,-,hvo⟩:=hfo;obtain⟨fr,fa,fn,fc,xs⟩:=f;simp only[D1.fact]at l1 l2 l3 hfR hlen hvo ⊢
 refine A9 Tryz.func109 rfl rfl ?_
 refine A6 ?_;refine H9 ?_;intro b5 w hw;have hw:Wd Γ (.blk b5 (.cells #[.string fr,.slice fa fn fc] 135)::.blk b (G2 vs vg vt vr bm)::E4 bm e::S) w:=hw
 refine A6 ?_;refine B5 (fun μ ρ w=>∃(k:Nat),μ+k=n∧Has ρ [(0,.pointer (some ⟨b,0,none⟩)),(5,.pointer (some ⟨b5,0,none⟩)),(11,.slice a n c),(12,.int .i64 n),(13,.int .i64 k)]∧P4 e os xs=P4 e (os.drop k) (xs.drop k)∧Wd Γ (.blk b5 (.cells #[.string fr,.slice fa fn fc] 135)::.blk b (G2 vs vg vt vr bm)::E4 bm e::S) w) n ⟨0,by omega,⟨rfl,rfl,rfl,rfl,rfl,trivial⟩,rfl,hw⟩ ?_
 clear hw;rintro μ ρ w ⟨k,hk,hρ,hfit,hw⟩
 rw[hρ.eq];clear hρ;refine A6 ?_;refine A7 rfl (fun h=>?_) (fun h=>?_)
 ·have hkn:k<n:=by have:=of_decide_eq_true h;omega
  clear h;obtain⟨o,ho⟩:=B4 (l:=os) (k:=k) (by omega)
  obtain⟨x,hx⟩:=B4 (l:=xs) (k:=k) (by omega)
  have hxo:=hvo x (List.mem_of_getElem? hx)
  have hpw:=Fa (Γ:=Γ) hxo
  rw[SE ho hx]at hfit;refine A6 ?_;refine C0 ?_;intro b8 w hw;refine A6 ?_;refine B1 ?_;intro w hw;have hw:Wd Γ (.blk b8 (.cells (enc o).toArray 125)::.blk b5 (.cells #[.string fr,.slice fa fn fc] 135)::.blk b (G2 vs vg vt vr bm)::E4 bm e::S) w:=hw
  refine A6 ?_;refine A7 rfl (fun h=>?_) (fun h=>?_)
  ·have ha:o.Var=H2:=of_decide_eq_true h
   refine A6 ?_;refine⟨μ-1,by omega,k+1,by omega,⟨rfl,rfl,rfl,rfl,rfl,trivial⟩,?_,hw.drop⟩
   rw[hfit];unfold Ef;rw[if_pos ha,Bool.true_and]
  have ha:o.Var≠H2:=of_decide_eq_false h
  clear h;refine A6 ?_;refine Jd 1 [[],[],[],[],[],[],[],[],[],[],[0],[0],[]] [[],[],[],[],[],[],[],[],[],[],[0],[0],[]] [[9]] ?_ (hw:=hw)
  refine R1 ?_;refine R1 ?_;refine GD ?_
  refine BN ?_
  refine R1 ?_;refine U0 ?_
  clear hw;intro b9 w hw;have hw:Wd Γ (.blk b9 (.cells (enc ((F1 e o.Var).getD default)).toArray 54)::.blk b8 (.cells (enc o).toArray 125)::.blk b5 (.cells #[.string fr,.slice fa fn fc] 135)::.blk b (G2 vs vg vt vr bm)::E4 bm e::S) w:=hw
  refine A6 ?_;refine Ft (fun ρ w=>∃(u:Val) (t:Bool),Has ρ [(0,.pointer (some ⟨b,0,none⟩)),(5,.pointer (some ⟨b5,0,none⟩)),(7,.int .i64 k),(9,.pointer (some ⟨b9,0,none⟩)),(10,.bool t),(11,.slice a n c),(12,.int .i64 n),(13,.int .i64 k)]∧(!Ef e o x)=((t&&decide (u≠x))||(!t && !M1 x))∧Wd Γ (.blk b9 (.cells (enc u).toArray 54)::.blk b8 (.cells (enc o).toArray 125)::.blk b5 (.cells #[.string fr,.slice fa fn fc] 135)::.blk b (G2 vs vg vt vr bm)::E4 bm e::S) w) ?_ ?_
  ·refine A7 rfl (fun h=>?_) (fun h=>?_)
   ·have h0:o.Var=F4:=of_decide_eq_true h
    refine A6 ?_;refine B1 ?_;intro w hw;have hw:Wd Γ (.blk b9 (.cells (enc o.Const).toArray 54)::.blk b8 (.cells (enc o).toArray 125)::.blk b5 (.cells #[.string fr,.slice fa fn fc] 135)::.blk b (G2 vs vg vt vr bm)::E4 bm e::S) w:=hw
    refine A6 ?_;refine⟨o.Const,true,⟨rfl,rfl,rfl,rfl,rfl,rfl,rfl,rfl,trivial⟩,?_,hw⟩
    rw[TR ha hn,if_pos h0];simp
   ·have h0:¬o.Var=F4:=of_decide_eq_false h
    refine A6 ?_;refine⟨(F1 e o.Var).getD default,(F1 e o.Var).isSome,⟨rfl,rfl,rfl,rfl,rfl,rfl,rfl,rfl,trivial⟩,?_,hw⟩
    rw[TR ha hn,if_neg h0]
  clear hw;rintro ρ w ⟨u,t,hρ,hfu,hw⟩
  rw[hρ.eq];clear hρ;refine A6 ?_;refine I5 (by kernel_rfl) (by kernel_rfl) hw ?_
  refine EX ?_;refine qG ?_ (hy:=by intro hc w hw;exact Ml (a:=u) (b:=x) B8 B8 rfl)
  refine EX ?_;clear hw;intro w hw;refine A7 rfl (fun h=>?_) (fun h=>?_)
  ·have hff:Ef e o x=false:=by
    have:=hfu.trans h
    simpa using this
   refine A6 ?_;refine⟨_,rfl,F6 rfl ?_,hw.drop.drop.drop⟩
   rw[hfit,hff,Bool.false_and]
  ·have hff:Ef e o x=true:=by
    have:=hfu.trans h
    simpa using this
   rw[hff,Bool.true_and]at hfit;refine A6 ?_;exact⟨μ-1,by omega,k+1,by omega,⟨rfl,rfl,rfl,rfl,rfl,trivial⟩,hfit,hw.drop.drop⟩
 have hkn:k=n:=by have:=of_decide_eq_false h;omega
 refine A6 ?_;refine⟨_,rfl,F6 rfl ?_,hw.drop⟩
 rw[hfit,G9 os (by omega)];rfl
end
end Go.Proofs.YtlimglpjpcfpdaaGreat
end
section
open Go
namespace Mk
theorem Pi{P:Program}{ops:Array Oper}{D:List Deferred}{Q Q':Exit→Act→World→Prop}{K K':Act→World→Prop}(hQ:∀e a w,Q e a w→Q' e { a with defers:=a.defers++D } w)(hK:∀a w,K a w→K' { a with defers:=a.defers++D } w){i:Nat}{a:Act}{w:World}
  (h:wpOp P ops Q i K a w):wpOp P ops Q' i K' { a with defers:=a.defers++D } w:=by
 have hL:LetsOut Q→LetsOut Q':=fun⟨a,w,h⟩=>⟨_,_,hQ _ _ _ h⟩
 have nx:∀d v w,K (a.put d v) w→K' (({ a with defers:=a.defers++D }:Act).put d v) w:=fun d v w h=>by
  have:=hK _ _ h
  rw[put_defers];rw[K6]at this;exact this
 have he:({ a with defers:=a.defers++D }:Act).eval=a.eval:=rfl
 unfold wpOp at *
 split
 ·rename_i ho
  rw[ho]at h;exact hK _ _ h
 ·rename_i o ho
  rw[ho]at h;simp only at h ⊢
  show if Region.wanted o (yielded ops a.tmps) then _ else _
  by_cases hw:Region.wanted o (yielded ops a.tmps)
  ·rw[if_pos hw]at h ⊢
   rcases h with h|⟨h1,h2⟩
   ·refine .inl ?_
    unfold Oper.wp at h ⊢
    rw[he];generalize (execOp a.eval o).run P w=r at *
    cases r with
    | ok x w'=>
     cases x with
     | value v=>exact nx _ _ _ h
     | skip=>exact nx _ _ _ h
     | defer d=>
      have:=hK _ _ h
      rw[K6]at this;simp only[Oper.upon]
      rw[put_defers]at this ⊢
      exact this
     | enter f args=>
      refine Calls.mono h fun e w'' h=>?_
      cases e with
      | returned v=>exact nx _ _ _ h
      | panicked ch=>exact hQ _ _ _ h
      | outgrown=>exact hL h
     | row row args=>exact Rows.mono h fun v w'' h=>nx _ _ _ h
     | _=>exact h.elim
    | halt x w'=>
     cases x with
     | panic v=>exact hQ _ _ _ h
     | _=>exact h.elim
   ·exact .inr ⟨h1,hL h2⟩
  ·rw[if_neg hw]at h ⊢
   exact nx _ _ _ h
theorem Gs{P:Program}{ops:Array Oper}{D:List Deferred}{Q Q':Exit→Act→World→Prop}{md:Region.Mode}(hQ:∀e a w,Q e a w→Q' e { a with defers:=a.defers++D } w):∀(fuel:Nat) (listed:Array Bool) (a:Act) (w:World),wpAny P md ops Q fuel listed a w→wpAny P md ops Q' fuel listed { a with defers:=a.defers++D } w
 | 0,listed,a,w,h=>⟨h.1,hQ _ _ _ h.2⟩
 | fuel+1,listed,a,w,h=>⟨fun h0=>hQ _ _ _ (h.1 h0),fun i hi=>Pi hQ (fun a w h=>Gs hQ fuel _ a w h) (h.2 i hi)⟩
section
variable {P:Program}{n:Nat}{Q:List Deferred→Exit→Fr→World→Prop}{D:List Deferred}{ρ:Fr}{w:World}
theorem Zl{id:Nat}{l:List Oper}(hm:P.follows .mixedOrders=true)(h:∀a:Act,a.defers=[]→a.tmps.size=n→E0 a=ρ→wpAny P .any l.toArray (lift n (Q D)) l.toArray.size (Array.replicate l.toArray.size false) a { w with drawn:=w.drawn+1 }) :
  WX P n (.region id l.toArray true) Q D ρ w:=fun a hd hs hf=>wp_region_any hm (by
 have:=Gs (P:=P) (ops:=l.toArray) (D:=D) (md:=.any) (Q:=lift n (Q D)) (Q':=fun e a w=>a.tmps.size=n∧Q a.defers e (E0 a) w) (fun e a w ⟨x,y,z⟩=>⟨y,by
  show Q (a.defers++D) e (E0 a) w
  rw[x];exact z⟩) l.toArray.size (Array.replicate l.toArray.size false) { a with defers:=[] } { w with drawn:=w.drawn+1 } (h { a with defers:=[] } rfl hs hf)
 have e:({ ({ a with defers:=[] }:Act) with defers:=([]:List Deferred)++D }:Act)=a:=by subst hd;rfl
 exact e ▸ this)
variable {Γ:C8}{K S:List B2}
section
attribute [local semireducible] Qw
theorem Xe{id:Nat}{l:List Oper}(hm:P.follows .mixedOrders=true)(hk:FK n l=true)(hw:Wd Γ S w)(h:Qw P n l Γ S (fun ρ w=>Q D .normal ρ w) l ρ) :
  WX P n (.region id l.toArray true) Q D ρ w:=Zl hm fun a hda hs hf=>by
 simp only[FK,Bool.and_eq_true]at hk
 obtain⟨cs,hc⟩:=(h 0).chain
 have inv:Inv ⟨P,n,l,Γ,S,[],[],true⟩ ⟨ρ,[],[],[]⟩ cs (Array.replicate l.toArray.size false) a { w with drawn:=w.drawn+1 } [] (fun _=>undef) Γ:=by
  refine⟨hda,hs,by simp,by simp,by simp,fun i hi=>?_,fun _ _ _ h=>by simp at h,Env.rl.refl _ _,by simp,fun t _=>by rw[hf],by simp,0,Nat.zero_le _,by simp,?_⟩
  ·have:i<l.length:=hi
   simp[this]
  ·have:HX l cs ⟨ρ,[],[],[]⟩ 0=⟨ρ,[],[],[]⟩:=by cases l <;> cases cs <;> rfl
   simp only[this]
   simpa using hw.drawn
 exact Inv.any hc rfl rfl hk.1 hk.2 _ _ a _ [] _ Γ inv (by simp)
end
theorem OO{id:Nat}{l:List Oper}(K:List B2)(M:List (Fr→List B2))(wr tc stab:List (List Nat))(hw:Wd Γ (K++(List.range stab.length).flatMap fun x=>(ML M) x (E7 (stab.getD x []) ρ D4)) w)
  (h:MSw (mV P n l Γ K wr tc stab) (fun ρ w=>Q D .normal ρ w) 0 l ⟨ρ,ML M⟩) (hm:P.follows .mixedOrders=true:=by kernel_rfl) (hk:R3 n l wr tc stab=true:=by kernel_rfl):WX P n (.region id l.toArray true) Q D ρ w:=Zl hm fun a hda hs hf=>by
 obtain⟨cs,hc⟩:=h.chain;have inv:MInv ⟨P,n,l,Γ,K,wr,tc,stab,true⟩ ⟨ρ,ML M⟩ cs (Array.replicate l.toArray.size false) a { w with drawn:=w.drawn+1 } [] Γ:=by
  refine⟨hda,hs,by simp,by simp,by simp,fun i hi=>?_,fun _ _ _ h=>by simp at h,V4.rl_refl _,fun t _ _=>by rw[hf],by simp,fun _=>0,fun x=>⟨Nat.zero_le _,by simp⟩,?_⟩
  ·have:i<l.length:=hi
   simp[this]
  ·simp only[CI,hf]
   exact hw.drawn
 exact MInv.any hc hk _ _ a _ [] Γ inv (by simp)
theorem ah{id:Nat}{l:List Oper}(k:Nat)(wr tc stab:List (List Nat))(h:MSw (mV P n l Γ K wr tc stab) (fun ρ w=>Q D .normal ρ w) 0 l ⟨ρ,ML (List.replicate k fun _=>[])⟩)
  (hw:Wd Γ K w:=by exact hw) (hm:P.follows .mixedOrders=true:=by kernel_rfl) (hk:R3 n l wr tc stab=true:=by kernel_rfl):WX P n (.region id l.toArray true) Q D ρ w:=
 OO K _ wr tc stab (by
  have:((List.range stab.length).flatMap fun x=>ML (List.replicate k fun _=>[]) x (E7 (stab.getD x []) ρ D4))=[]:=by
   rw[List.flatMap_eq_nil_iff];intro x _;unfold ML;by_cases hx:x<k
   ·simp[List.getD_eq_getElem?_getD,List.getElem?_replicate,hx]
   ·simp[List.getD_eq_getElem?_getD,List.getElem?_replicate,hx]
  rw[this,List.append_nil];exact hw) h hm hk
theorem bS{id:Nat}{l:List Oper}(K X:List B2)(N:List Nat)(wr:List (List Nat))(hw:Wd Γ (K++X) w)
  (h:MSw (mV P n l Γ K wr wr [N]) (fun ρ w=>Q D .normal ρ w) 0 l ⟨ρ,ML [P5 (T:=Unit) (fun _ _=>True) (fun _=>X)]⟩)
  (hm:P.follows .mixedOrders=true:=by kernel_rfl) (hk:R3 n l wr wr [N]=true:=by kernel_rfl):WX P n (.region id l.toArray true) Q D ρ w:=
 OO K [P5 (T:=Unit) (fun _ _=>True) (fun _=>X)] wr wr [N] (by
  have h1:Wd Γ (X++K) w:=hw.perm List.perm_append_comm
  have h2:=Wd.closeEx (α:={t:Unit // True}) (X:=fun _=>X) ⟨(),trivial⟩ h1
  exact(h2.perm (List.perm_append_singleton _ K).symm:_)) h hm hk
end
end Mk
namespace Mk
section
variable {P:Program}{ρ:Fr}{w:World}{K:Value→World→Prop}{d:Option Tmp}{T ty:TypeId}{pos:String}{es:Array Edge}{g:Option (Nat×Bool)}{x y z:Operand}
attribute [local semireducible] Step
theorem Ox(h:Step P ⟨d,.mapUpdate T x y z,ty,pos,es,g⟩ ρ w K):Step P ⟨d,.insert T x y z,ty,pos,es,g⟩ ρ w K:=h
end
end Mk
end
section
open Go Mk
namespace Go.Proofs.YtlimglpjpcfpdaaGreat
set_option maxHeartbeats 16000000
attribute [local irreducible] Calls cI cB
theorem Yx{Γ:C8}{x:N6}{l r:Val}(hg:GJ x.g.Off)(hl:o6 l)(hr:o6 r):PG Tryz.prog Γ 158 [.agg (cG x).toArray,.agg (enc l).toArray,.agg (enc r).toArray] (.bool (Dz x.g l r)):=⟨fun S w hw=>by
 haveI:=LJ l.Num r.Num x.g.Off hl.1 hr.1 hg
 refine A9 Tryz.func158 rfl rfl ?_
 refine A6 ?_;refine H9 ?_;intro b3 w hw;refine H9 ?_;intro b4 w hw;refine H9 ?_;intro b5 w hw;have hw:Wd Γ (.blk b5 (.cells (enc r).toArray 54)::.blk b4 (.cells (enc l).toArray 54)::.blk b3 (.cells (cG x).toArray 127)::S) w:=hw
 refine A6 ?_;refine A7 rfl (fun h=>?_) (fun h=>?_)
 ·have h':x.g.Off=0∧x.g.Op=1:=by simpa using h
  refine A6 ?_;refine⟨_,rfl,F6 rfl ?_,hw.drop.drop.drop⟩
  unfold Dz;rw[if_pos h']
 have h1:¬(x.g.Off=0∧x.g.Op=1):=by simpa using h
 clear h;refine A6 ?_;refine A7 rfl (fun h=>?_) (fun h=>?_)
 ·have h':x.g.Off=0∧x.g.Op=2:=by simpa using h
  refine A6 ?_;refine⟨_,rfl,F6 rfl ?_,hw.drop.drop.drop⟩
  unfold Dz;rw[if_neg h1,if_pos h']
 have h2:¬(x.g.Off=0∧x.g.Op=2):=by simpa using h
 clear h;refine A6 ?_;refine A7 rfl (fun h=>?_) (fun h=>?_)
 ·have h':l.Kind≠1∨r.Kind≠1:=by simpa using h
  refine A6 ?_;refine⟨_,rfl,F6 rfl ?_,hw.drop.drop.drop⟩
  unfold Dz;rw[if_neg h1,if_neg h2,if_pos h']
 have h3:¬(l.Kind≠1∨r.Kind≠1):=by simpa using h
 clear h;have hf:Dz x.g l r=iH x.g.Op (Vg l.Num r.Num x.g.Off):=by
  unfold Dz;rw[if_neg h1,if_neg h2,if_neg h3]
 obtain⟨c,hc⟩:∃c,c=Vg l.Num r.Num x.g.Off:=⟨_,rfl⟩
 rw[hf];rw[←hc]at this ⊢
 clear hf hc h1 h2 h3;refine A6 ?_;unfold iH;refine A7 rfl (fun h=>?_) (fun h=>?_)
 ·have h:=of_decide_eq_true h
  refine A6 ?_;exact⟨_,rfl,F6 rfl (by rw[if_pos h]),hw.drop.drop.drop⟩
 have h1:=of_decide_eq_false h
 clear h;rw[if_neg h1];refine A6 ?_;refine A7 rfl (fun h=>?_) (fun h=>?_)
 ·have h:=of_decide_eq_true h
  refine A6 ?_;exact⟨_,rfl,F6 rfl (by rw[if_pos h]),hw.drop.drop.drop⟩
 have h1:=of_decide_eq_false h
 clear h;rw[if_neg h1];refine A6 ?_;refine A7 rfl (fun h=>?_) (fun h=>?_)
 ·have h:=of_decide_eq_true h
  refine A6 ?_;exact⟨_,rfl,F6 rfl (by rw[if_pos h]),hw.drop.drop.drop⟩
 have h1:=of_decide_eq_false h
 clear h;rw[if_neg h1];refine A6 ?_;refine A7 rfl (fun h=>?_) (fun h=>?_)
 ·have h:=of_decide_eq_true h
  refine A6 ?_;exact⟨_,rfl,F6 rfl (by rw[if_pos h]),hw.drop.drop.drop⟩
 have h1:=of_decide_eq_false h
 clear h;rw[if_neg h1];refine A6 ?_;refine A7 rfl (fun h=>?_) (fun h=>?_)
 ·have h:=of_decide_eq_true h
  refine A6 ?_;exact⟨_,rfl,F6 rfl (by rw[if_pos h]),hw.drop.drop.drop⟩
 have h1:=of_decide_eq_false h
 clear h;rw[if_neg h1];refine A6 ?_;exact⟨_,rfl,rfl,hw.drop.drop.drop⟩⟩
theorem KR{e:Env}{s:ByteArray}(h:s∉e.map (·.1)):De e s=none:=by
 unfold De;rw[List.findIdx?_eq_none_iff];intro p hp;simp only[decide_eq_false_iff_not]
 intro he;exact h (by rw[←he];exact List.mem_map_of_mem (f:=(·.1)) hp)
theorem aR{e r:Env}{s:ByteArray}{v:Val}(h:s∉e.map (·.1)):De (e++(s,v)::r) s=some e.length:=by
 have:=KR h
 unfold De at *
 rw[List.findIdx?_append,this];simp[List.findIdx?_cons]
theorem Wc{e r:Env}{s:ByteArray}{v:Val}(h:s∉e.map (·.1)):FV (e++(s,v)::r) s=e++r:=by
 unfold FV;rw[aR h];simp only
 rw[List.eraseIdx_append_of_length_le (Nat.le_refl _),Nat.sub_self];rfl
theorem Yf{e:Env}{s:ByteArray}{v:Val}(h:s∉e.map (·.1)):Q3 e s v=e++[(s,v)]:=by
 unfold Q3;rw[KR h]
theorem Sg{e:Env}{s:ByteArray}(h:s∉e.map (·.1)):F1 e s=none:=by
 unfold F1;rw[KR h];rfl
theorem Vr{e:Env}{s:ByteArray}{v:Val}(h:F1 e s=some v):(s,v)∈e:=by
 unfold F1 at h;cases hq:De e s with
 | none=>rw[hq]at h;cases h
 | some i=>
  rw[hq]at h;simp only[Option.bind_some]at h
  obtain⟨u,hu⟩:=DI hq
  rw[hu]at h;simp only[Option.map_some,Option.some.injEq]at h
  rw[←h];exact List.mem_of_getElem? hu
theorem QE{e:Env}{s:ByteArray}(h:F1 e s=none):s∉e.map (·.1):=fun hm=>by
 obtain⟨p,hp,he⟩:=List.mem_map.1 hm
 unfold F1 at h;cases hq:De e s with
 | none=>
  unfold De at hq;rw[List.findIdx?_eq_none_iff]at hq;have:=hq p hp
  simp[he]at this
 | some i=>
  obtain⟨u,hu⟩:=DI hq
  rw[hq]at h;simp[hu]at h
theorem fV{e:Env}:∀ {ps:Env},(∀p∈ps,p.1∉e.map (·.1))→(ps.map (·.1)).foldl FV (e++ps)=e
 | [],_=>by simp
 | (s,v)::ps,h=>by
  rw[List.map_cons,List.foldl_cons,Wc (h (s,v) (by simp))]
  exact fV fun p hp=>h p (by simp[hp])
theorem cU{Γ:C8}{S:List B2}{w:World}{b b8 b4 bm:Nat}{vs vg vt vr fv:Value}{e:Env}{ns:List ByteArray}(hw:Wd Γ (.blk b8 (.cells #[fv] 23)::.own fv 9 1 (B7 ns)::.blk b4 (.cells #[.pointer (some ⟨b,0,none⟩)] 117)::.blk b (G2 vs vg vt vr bm)::E4 bm e::S) w) :
  CallsD Tryz.prog 162 #[.pointer (some ⟨b8,0,none⟩),.pointer (some ⟨b4,0,none⟩)] .returning w fun r u' w'=>u'=.returning∧(∃v,r=.returned v)∧Wd Γ (.blk b8 (.cells #[fv] 23)::.own fv 9 1 (B7 ns)::.blk b4 (.cells #[.pointer (some ⟨b,0,none⟩)] 117)::.blk b (G2 vs vg vt vr bm)::E4 bm (ns.foldl FV e)::S) w':=by
 obtain⟨fa,fn,fc,rfl,hfn,hfc,hfb⟩:=hw.own_shape (i:=1) rfl
 simp only[List.length_map]at hfn
 refine(QB (R:=fun r w'=>(∃v,r=.returned v)∧Wd Γ (.blk b8 (.cells #[.slice fa fn fc] 23)::.own (.slice fa fn fc) 9 1 (B7 ns)::.blk b4 (.cells #[.pointer (some ⟨b,0,none⟩)] 117)::.blk b (G2 vs vg vt vr bm)::E4 bm (ns.foldl FV e)::S) w') Tryz.func162 rfl rfl ?_).mono fun r u w h=>h
 refine A6 ?_;refine B5 (fun μ ρ w=>∃(k:Nat),μ+k=fn∧Has ρ [(1,.pointer (some ⟨b4,0,none⟩)),(4,.slice fa fn fc),(5,.int .i64 fn),(6,.int .i64 k)]∧Wd Γ (.blk b8 (.cells #[.slice fa fn fc] 23)::.own (.slice fa fn fc) 9 1 (B7 ns)::.blk b4 (.cells #[.pointer (some ⟨b,0,none⟩)] 117)::.blk b (G2 vs vg vt vr bm)::E4 bm ((ns.take k).foldl FV e)::S) w) fn ⟨0,by omega,⟨rfl,rfl,rfl,rfl,trivial⟩,hw⟩ ?_
 clear hw;rintro μ ρ w ⟨k,hk,hρ,hw⟩
 rw[hρ.eq];clear hρ;refine A6 ?_;refine A7 rfl (fun h=>?_) (fun h=>?_)
 ·have hkn:k<fn:=by have:=of_decide_eq_true h;omega
  clear h;obtain⟨s,hs⟩:=B4 (l:=ns) (k:=k) (by omega)
  refine A6 ?_;refine F0 rfl rfl (Sf (i:=4) (l:=(ns.take k).foldl FV e) hw rfl rfl rfl fun w hw=>?_)
  have hw:Wd Γ (.blk b8 (.cells #[.slice fa fn fc] 23)::.own (.slice fa fn fc) 9 1 (B7 ns)::.blk b4 (.cells #[.pointer (some ⟨b,0,none⟩)] 117)::.blk b (G2 vs vg vt vr bm)::E4 bm ((ns.take (k+1)).foldl FV e)::S) w:=by
   rw[List.take_add_one,hs,List.foldl_append];exact hw
  refine A6 ?_;exact⟨μ-1,by omega,k+1,by omega,⟨rfl,rfl,rfl,rfl,trivial⟩,hw⟩
 have hkn:fn≤k:=by have:=of_decide_eq_false h;omega
 rw[List.take_of_length_le (by omega)]at hw
 refine A6 ?_;exact⟨_,rfl,⟨_,rfl⟩,hw⟩
end Go.Proofs.YtlimglpjpcfpdaaGreat
end
section
open Go Mk
namespace Go.Proofs.YtlimglpjpcfpdaaGreat
set_option maxHeartbeats 16000000
attribute [local irreducible] Calls cI cB
def H6(vr:Value)(L:List (Value×List (List Value))):List B2:=.own vr 52 1 (L.map fun x=>[x.1])::YW 54 3 L
def SV(b bm:Nat)(vs vg vt:Value)(rs:List (List Val)):B2:=B2.ex (α:={p:Value×List (Value×List (List Value)) // p.2.map (·.2)=rs.map fun r=>r.map enc}) fun p=>.blk b (G2 vs vg vt p.1.1 bm)::H6 p.1.1 p.1.2
section
variable {Γ:C8}{S:List B2}{w:World}{b bm:Nat}{vs vg vt:Value}{rs:List (List Val)}
theorem DL(hw:Wd Γ (SV b bm vs vg vt rs::S) w):∃vr L,L.map (·.2)=(rs.map fun r=>r.map enc)∧Wd Γ (.blk b (G2 vs vg vt vr bm)::(H6 vr L++S)) w:=by
 obtain⟨⟨⟨vr,L⟩,h⟩,hw⟩:=Wd.openEx hw
 exact⟨vr,L,h,hw⟩
theorem Z2{vr:Value}{L:List (Value×List (List Value))}(h:L.map (·.2)=rs.map fun r=>r.map enc)(hw:Wd Γ (.blk b (G2 vs vg vt vr bm)::(H6 vr L++S)) w):Wd Γ (SV b bm vs vg vt rs::S) w:=
 Wd.closeEx (α:={p:Value×List (Value×List (List Value)) // p.2.map (·.2)=rs.map fun r=>r.map enc}) (X:=fun p=>.blk b (G2 vs vg vt p.1.1 bm)::H6 p.1.1 p.1.2) ⟨(vr,L),h⟩ hw
end
structure y0(e:Env):Prop where
 key:∀p∈e,p.1≠F4
 val:∀p∈e,o6 p.2
theorem y0.nil:y0 []:=⟨fun p h=>(by cases h),fun p h=>(by cases h)⟩
theorem y0.snoc{e:Env}{s:ByteArray}{v:Val}(h:y0 e)(hs:s≠F4)(hv:o6 v):y0 (e++[(s,v)]):=
 ⟨fun p hp=>by
  rcases List.mem_append.1 hp with h1|h1
  ·exact h.key p h1
  ·rw[List.mem_singleton.1 h1];exact hs,fun p hp=>by
  rcases List.mem_append.1 hp with h1|h1
  ·exact h.val p h1
  ·rw[List.mem_singleton.1 h1];exact hv⟩
theorem y0.noKey{e:Env}(h:y0 e):F1 e F4=none:=Sg fun hm=>by
 obtain⟨p,hp,he⟩:=List.mem_map.1 hm
 exact h.key p hp he
theorem bZ:o6 O4:=⟨by decide,by decide⟩
theorem y0.get{e:Env}(h:y0 e)(s:ByteArray):o6 (CY e s):=by
 unfold CY;cases hq:F1 e s with
 | none=>exact bZ
 | some v=>exact h.val _ (Vr hq)
section
variable {e:Env}{o:P1}{os:List P1}{x:Val}{xs:List Val}
theorem RI(h:o.Var=F4∨o.Var=H2):T7 e (o::os) (x::xs)=T7 e os xs:=by
 rw[T7,if_pos h]
theorem Zk(h0:¬(o.Var=F4∨o.Var=H2))(h:((F1 e o.Var).isSome&&decide ((F1 e o.Var).getD default≠x))=true):T7 e (o::os) (x::xs)=none:=by
 rw[T7,if_neg h0];cases hq:F1 e o.Var with
 | none=>rw[hq]at h;simp at h
 | some u=>
  rw[hq]at h;have:u≠x:=by simpa using h
  simp[this]
theorem SJ(h0:¬(o.Var=F4∨o.Var=H2))(h:((F1 e o.Var).isSome&&decide ((F1 e o.Var).getD default≠x))=false)(h2:(F1 e o.Var).isSome=true):T7 e (o::os) (x::xs)=T7 e os xs:=by
 rw[T7,if_neg h0];cases hq:F1 e o.Var with
 | none=>rw[hq]at h2;simp at h2
 | some u=>
  rw[hq]at h;have:u=x:=by simpa using h
  simp[this]
theorem VP(h0:¬(o.Var=F4∨o.Var=H2))(h2:(F1 e o.Var).isSome=false):T7 e (o::os) (x::xs)=T7 (e++[(o.Var,x)]) os xs:=by
 rw[T7,if_neg h0];cases hq:F1 e o.Var with
 | none=>rfl
 | some u=>rw[hq]at h2;simp at h2
end
theorem Wd.tl5{Γ:C8}{w:World}{r1 r2 r3 r4 r5:B2}{X S:List B2}(h:Wd Γ (r1::r2::r3::r4::r5::(X++S)) w):Wd Γ S w:=Wd.right (S':=[r1,r2,r3,r4,r5]++X) (by simpa using h)
theorem Wd.tl6{Γ:C8}{w:World}{r1 r2 r3 r4 r5 r6:B2}{X S:List B2}(h:Wd Γ (r1::r2::r3::r4::r5::r6::(X++S)) w):Wd Γ S w:=Wd.right (S':=[r1,r2,r3,r4,r5,r6]++X) (by simpa using h)
theorem Wd.tl7{Γ:C8}{w:World}{r1 r2 r3 r4 r5 r6 r7:B2}{X S:List B2}(h:Wd Γ (r1::r2::r3::r4::r5::r6::r7::(X++S)) w):Wd Γ S w:=Wd.right (S':=[r1,r2,r3,r4,r5,r6,r7]++X) (by simpa using h)
theorem QO{Γ:C8}{S CAP:List B2}{w:World}{b bm:Nat}{vs vg vt:Value}{rs:List (List Val)}{e:Env}{q:Nat}[C7 Tryz.prog q]{cap:List Value}(φ:Env→List (List Val))
  (hq:∀(e':Env) (rs':List (List Val)) (S':List B2) (w:World),y0 e'→rs'.length+(φ e').length≤1000000→Wd Γ (SV b bm vs vg vt rs'::E4 bm e'::(CAP++S')) w→Calls Tryz.prog q cap.toArray w fun r w'=>r=.returned (.tuple #[])∧Wd Γ (SV b bm vs vg vt (rs'++φ e')::E4 bm e'::(CAP++S')) w')
  {va vv:Value} {os:List P1} {xs:List Val} (hA:P6 Γ (CAP++S) va 4 (os.map enc)) (hV:P6 Γ (CAP++S) vv 3 (xs.map enc)) (hlen:os.length=xs.length) (hN:os.length≤1000) (hx:∀v∈xs,o6 v) (he:y0 e) (hrs:rs.length+(O3 φ e os xs).length≤1000000)
  (hw:Wd Γ (SV b bm vs vg vt rs::E4 bm e::(CAP++S)) w) :
  Calls Tryz.prog 110 #[.pointer (some ⟨b,0,none⟩),va,vv,.func (.func q) #[] cap.toArray] w fun r w'=>r=.returned (.tuple #[])∧Wd Γ (SV b bm vs vg vt (rs++O3 φ e os xs)::E4 bm e::(CAP++S)) w':=by
 obtain⟨a,n,c,rfl,hln,hnc,hc⟩:=hA.shape;obtain⟨a2,n2,c2,rfl,hln2,hnc2,hc2⟩:=hV.shape;simp only[List.length_map]at hln hln2
 refine IT Tryz.func110 rfl rfl ?_
 repeat(first|refine CB ?_|refine U9 ?_|(refine V5 ?_;intro w hw))
 refine H9 ?_;intro b4 w hw;repeat(first|refine CB ?_|refine U9 ?_|(refine V5 ?_;intro w hw))
 refine C0 ?_;intro b8 w hw;refine U9 ?_
 refine CB ?_
 refine KX ?_
 refine TV (Yields.step (EJ (f1:=[]) (c1:=[.pointer (some ⟨b8,0,none⟩),.pointer (some ⟨b4,0,none⟩)]) EvL.nil (EvL.cons rfl (EvL.cons rfl EvL.nil))) ?_)
 refine MY ?_
 refine Zd ?_
 have fin:∀(ps:Env) (fv vr:Value) (L:List (Value×List (List Value))) (rs':List (List Val)) (w:World) (a:Act),(∀p∈ps,p.1∉e.map (·.1))→L.map (·.2)=(rs'.map fun r=>r.map enc)→rs'=rs++O3 φ e os xs→Wd Γ (.blk b8 (.cells #[fv] 23)::E4 bm (e++ps)::.blk b4 (.cells #[.pointer (some ⟨b,0,none⟩)] 117)::.blk b (G2 vs vg vt vr bm)::.own fv 9 1 (B7 (ps.map (·.1)))::(H6 vr L++(CAP++S))) w →
   Leaves Tryz.prog Tryz.f110 a.tmps (fun r w'=>r=.returned (.tuple #[])∧Wd Γ (SV b bm vs vg vt (rs++O3 φ e os xs)::E4 bm e::(CAP++S)) w') [⟨.fn (.func 162) #[.pointer (some ⟨b8,0,none⟩),.pointer (some ⟨b4,0,none⟩)],#[]⟩] .returning w:=by
  intro ps fv vr L rs' w a hps hL hrs' hw;have hw:Wd Γ (.blk b8 (.cells #[fv] 23)::.own fv 9 1 (B7 (ps.map (·.1)))::.blk b4 (.cells #[.pointer (some ⟨b,0,none⟩)] 117)::.blk b (G2 vs vg vt vr bm)::E4 bm (e++ps)::(H6 vr L++(CAP++S))) w:=hw.perm K1
  refine Sl ((cU hw).mono fun r u' w' ⟨h1,h2,hw'⟩=>⟨h1,h2,.tuple #[],Q5 rfl,rfl,?_⟩)
  rw[fV hps]at hw';rw[←hrs'];have W1:Wd Γ (.blk b (G2 vs vg vt vr bm)::E4 bm e::(H6 vr L++(CAP++S))) w':=hw'.ds [0,0,0]
  have Aj:Wd Γ (.blk b (G2 vs vg vt vr bm)::(H6 vr L++(E4 bm e::(CAP++S)))) w':=W1.perm K1
  exact Z2 hL Aj
 obtain⟨vr,L,hL,hw⟩:=DL (hw.ps [2])
 have hw:=Wd.addNil (a:=none) (E:=9) (sz:=1) hw
 have hw:Wd Γ (.own (.slice none 0 0) 9 1 (B7 [])::.blk b (G2 vs vg vt vr bm)::(H6 vr L++(.blk b8 (.cells #[.slice none 0 0] 23)::.blk b4 (.cells #[.pointer (some ⟨b,0,none⟩)] 117)::E4 bm e::(CAP++S)))) w:=hw
 have hw:Wd Γ (.blk b8 (.cells #[.slice none 0 0] 23)::E4 bm (e++[])::.blk b4 (.cells #[.pointer (some ⟨b,0,none⟩)] 117)::.blk b (G2 vs vg vt vr bm)::.own (.slice none 0 0) 9 1 (B7 (([]:Env).map (·.1)))::(H6 vr L++(CAP++S))) w:=by
  rw[List.append_nil];exact hw.perm K1
 repeat(first|refine CB ?_|refine U9 ?_|(refine V5 ?_;intro w hw))
 refine al (fun μ ρ w=>∃(k:Nat) (ps:Env) (fv:Value),μ+k=n∧Has ρ [(2,.slice a2 n2 c2),(3,.func (.func q) #[] cap.toArray),(4,.pointer (some ⟨b4,0,none⟩)),(8,.pointer (some ⟨b8,0,none⟩)),(14,.slice a n c),(15,.int .i64 n),(16,.int .i64 k)]∧(∀p∈ps,p.1∉e.map (·.1))∧ps.length≤k∧y0 (e++ps)∧T7 e os xs=T7 (e++ps) (os.drop k) (xs.drop k)∧Wd Γ (.blk b8 (.cells #[fv] 23)::E4 bm (e++ps)::.blk b4 (.cells #[.pointer (some ⟨b,0,none⟩)] 117)::.blk b (G2 vs vg vt vr bm)::.own fv 9 1 (B7 (ps.map (·.1)))::(H6 vr L++(CAP++S))) w) n ⟨0,[],.slice none 0 0,by omega,⟨rfl,rfl,rfl,rfl,rfl,rfl,rfl,trivial⟩,(fun p h=>(by cases h)),Nat.le_refl _,by rw[List.append_nil];exact he,by rw[List.append_nil];rfl,hw⟩ ?_
 clear hw;rintro μ ρ w ⟨k,ps,fv,hk,hρ,hps,hpl,hek,hbd,hw⟩
 rw[hρ.eq];clear hρ;repeat(first|refine CB ?_|refine U9 ?_|(refine V5 ?_;intro w hw))
 refine Gi rfl (fun h=>?_) (fun h=>?_)
 ·have hkn:k<n:=by have:=of_decide_eq_true h;omega
  clear h;obtain⟨o,ho⟩:=B4 (l:=os) (k:=k) (by omega)
  obtain⟨x,hxk⟩:=B4 (l:=xs) (k:=k) (by omega)
  have hxo:=hx x (List.mem_of_getElem? hxk)
  rw[R9 ho,R9 hxk]at hbd;repeat(first|refine CB ?_|refine U9 ?_|(refine V5 ?_;intro w hw))
  refine lY ?_ (hy:=BA (hA.rd (Wd.tl5 hw)) rfl rfl (by omega) (by omega))
  refine lY ?_ (hy:=Q6 rfl (hA.rd (Wd.tl5 hw)) (B9 ho))
  repeat(first|refine CB ?_|refine U9 ?_|(refine V5 ?_;intro w hw))
  refine C0 ?_;intro b10 w hw;repeat(first|refine CB ?_|refine U9 ?_|(refine V5 ?_;intro w hw))
  refine B1 ?_;intro w hw;have hw:Wd Γ (.blk b10 (.cells (enc o).toArray 125)::.blk b8 (.cells #[fv] 23)::E4 bm (e++ps)::.blk b4 (.cells #[.pointer (some ⟨b,0,none⟩)] 117)::.blk b (G2 vs vg vt vr bm)::.own fv 9 1 (B7 (ps.map (·.1)))::(H6 vr L++(CAP++S))) w:=hw
  repeat(first|refine CB ?_|refine U9 ?_|(refine V5 ?_;intro w hw))
  refine Gi rfl (fun h=>?_) (fun h=>?_)
  ·have h0:o.Var=F4∨o.Var=H2:=by simp only[Bool.or_eq_true,decide_eq_true_eq]at h;exact h
   rw[RI h0]at hbd;repeat(first|refine CB ?_|refine U9 ?_|(refine V5 ?_;intro w hw))
   exact⟨rfl,μ-1,by omega,k+1,ps,fv,by omega,⟨rfl,rfl,rfl,rfl,rfl,rfl,rfl,trivial⟩,hps,by omega,hek,hbd,hw.drop⟩
  have h0:¬(o.Var=F4∨o.Var=H2):=by rw[Bool.or_eq_false_iff,decide_eq_false_iff_not,decide_eq_false_iff_not]at h;exact fun e=>e.elim h.1 h.2
  clear h;repeat(first|refine CB ?_|refine U9 ?_|(refine V5 ?_;intro w hw))
  refine ah 1 [[],[],[],[],[],[],[],[],[],[],[0],[0],[]] [[],[],[],[],[],[],[],[],[],[],[0],[0],[]] [[11]] ?_ (hw:=hw)
  refine R1 ?_;refine GD ?_
  refine BN ?_
  refine R1 ?_;refine U0 ?_
  clear hw;intro b11 w hw;have hw:Wd Γ (.blk b11 (.cells (enc ((F1 (e++ps) o.Var).getD default)).toArray 54)::.blk b10 (.cells (enc o).toArray 125)::.blk b8 (.cells #[fv] 23)::E4 bm (e++ps)::.blk b4 (.cells #[.pointer (some ⟨b,0,none⟩)] 117)::.blk b (G2 vs vg vt vr bm)::.own fv 9 1 (B7 (ps.map (·.1)))::(H6 vr L++(CAP++S))) w:=hw
  repeat(first|refine CB ?_|refine U9 ?_|(refine V5 ?_;intro w hw))
  refine Xe (by kernel_rfl) (by kernel_rfl) hw ?_
  refine EX ?_;refine qG ?_ (hy:=by intro hc w hw;exact BA (hV.rd (Wd.tl7 hw)) B8 B8 O0 O0)
  refine qG ?_ (hy:=by intro hc w hw;exact Q6 B8 (hV.rd (Wd.tl7 hw)) (B9 hxk))
  refine qG ?_ (hy:=by intro hc w hw;exact Ml (a:=(F1 (e++ps) o.Var).getD default) (b:=x) B8 B8 rfl)
  refine EX ?_;clear hw;intro w hw;refine Gi rfl (fun h=>?_) (fun h=>?_)
  ·rw[Zk h0 h]at hbd;repeat(first|refine CB ?_|refine U9 ?_|(refine V5 ?_;intro w hw))
   refine fun a ha hs=>fin ps fv vr L rs w a hps hL ?_ hw.drop.drop
   unfold O3;rw[hbd,List.append_nil]
  have h1:=h
  clear h;repeat(first|refine CB ?_|refine U9 ?_|(refine V5 ?_;intro w hw))
  refine Gi rfl (fun h=>?_) (fun h=>?_)
  ·have hs:(F1 (e++ps) o.Var).isSome=false:=by simpa using h
   have hn:F1 (e++ps) o.Var=none:=by simpa using hs
   have hnk:=QE hn
   rw[VP h0 hs]at hbd;clear h;repeat(first|refine CB ?_|refine U9 ?_|(refine V5 ?_;intro w hw))
   refine bS (.blk b10 (.cells (enc o).toArray 125)::.blk b4 (.cells #[.pointer (some ⟨b,0,none⟩)] 117)::.blk b (G2 vs vg vt vr bm)::.blk b8 (.cells #[fv] 23)::.own fv 9 1 (B7 (ps.map (·.1)))::.blk b11 (.cells (enc ((F1 (e++ps) o.Var).getD default)).toArray 54)::(H6 vr L++(CAP++S))) [E4 bm (e++ps)] [] [[],[],[],[],[],[],[],[],[],[],[0]] (hw.perm K1) ?_
   refine R1 ?_;refine mY ?_ (hy:=fun Y w g hw=>BA (hV.rd (Wd.tl6 hw.left)) rfl rfl (by omega) (by omega))
   refine mY ?_ (hy:=fun Y w g hw=>Q6 rfl (hV.rd (Wd.tl6 hw.left)) (B9 hxk))
   refine Da (φ:=fun (_:Unit) _=>True) (R:=fun _=>[E4 bm (e++ps)]) (v:=undef) (T':=Unit) (fun _ _=>True) (fun _=>[E4 bm (e++(ps++[(o.Var,x)]))]) (fun t g w Y _ hw=>?_) ?_
   ·refine l7 (v:=x) (i:=0) (l:=e++ps) hw rfl rfl rfl rfl fun w' hw'=>⟨(),trivial,(fun _=>rfl),?_⟩
    rw[Yf hnk,List.append_assoc]at hw';exact hw'
   refine IX fun t w g _ hw=>?_
   have hw:Wd Γ ([E4 bm (e++(ps++[(o.Var,x)]))]++(.blk b10 (.cells (enc o).toArray 125)::.blk b4 (.cells #[.pointer (some ⟨b,0,none⟩)] 117)::.blk b (G2 vs vg vt vr bm)::.blk b8 (.cells #[fv] 23)::.own fv 9 1 (B7 (ps.map (·.1)))::.blk b11 (.cells (enc ((F1 (e++ps) o.Var).getD default)).toArray 54)::(H6 vr L++(CAP++S)))) w:=hw
   have hw:Wd Γ (.own fv 9 1 (B7 (ps.map (·.1)))::.blk b8 (.cells #[fv] 23)::.blk b11 (.cells (enc ((F1 (e++ps) o.Var).getD default)).toArray 54)::.blk b10 (.cells (enc o).toArray 125)::E4 bm (e++(ps++[(o.Var,x)]))::.blk b4 (.cells #[.pointer (some ⟨b,0,none⟩)] 117)::.blk b (G2 vs vg vt vr bm)::(H6 vr L++(CAP++S))) w:=hw.perm K1
   obtain⟨fa,fn,fc,rfl,hfn,hfc,hfb⟩:=hw.own_shape (i:=0) rfl
   simp only[List.length_map]at hfn
   repeat(first|refine CB ?_|refine U9 ?_|(refine V5 ?_;intro w hw))
   refine B6 [[.string o.Var]] ?_
   intro q2 w hw;refine V7 (i:=1) (rows2:=[[.string o.Var]]) ?_ (Wd.own_rd (i:=0) hw rfl)
   intro fv' w hw;have hw:Wd Γ (.own (.slice (some q2) 1 1) 9 1 [[.string o.Var]]::.own fv' 9 1 (B7 (ps.map (·.1))++[[.string o.Var]])::.blk b8 (.cells #[.slice fa fn fc] 23)::.blk b11 (.cells (enc ((F1 (e++ps) o.Var).getD default)).toArray 54)::.blk b10 (.cells (enc o).toArray 125)::E4 bm (e++(ps++[(o.Var,x)]))::.blk b4 (.cells #[.pointer (some ⟨b,0,none⟩)] 117)::.blk b (G2 vs vg vt vr bm)::(H6 vr L++(CAP++S))) w:=hw
   obtain⟨fa',fn',fc',rfl,-,-,-⟩:=hw.own_shape (i:=1) rfl
   repeat(first|refine CB ?_|refine U9 ?_|(refine V5 ?_;intro w hw))
   refine B1 (i:=2) ?_
   intro w hw;have hw:Wd Γ (.own (.slice (some q2) 1 1) 9 1 [[.string o.Var]]::.own (.slice fa' fn' fc') 9 1 (B7 (ps.map (·.1))++[[.string o.Var]])::.blk b8 (.cells #[(.slice fa' fn' fc')] 23)::.blk b11 (.cells (enc ((F1 (e++ps) o.Var).getD default)).toArray 54)::.blk b10 (.cells (enc o).toArray 125)::E4 bm (e++(ps++[(o.Var,x)]))::.blk b4 (.cells #[.pointer (some ⟨b,0,none⟩)] 117)::.blk b (G2 vs vg vt vr bm)::(H6 vr L++(CAP++S))) w:=hw
   have W1:Wd Γ (.own (.slice fa' fn' fc') 9 1 (B7 (ps.map (·.1))++[[.string o.Var]])::.blk b8 (.cells #[(.slice fa' fn' fc')] 23)::E4 bm (e++(ps++[(o.Var,x)]))::.blk b4 (.cells #[.pointer (some ⟨b,0,none⟩)] 117)::.blk b (G2 vs vg vt vr bm)::(H6 vr L++(CAP++S))) w:=hw.ds [0,2,2]
   have hrow:B7 (ps.map (·.1))++[[.string o.Var]]=B7 ((ps++[(o.Var,x)]).map (·.1)):=by
    unfold B7;rw[List.map_append,List.map_append];rfl
   rw[hrow]at W1;repeat(first|refine CB ?_|refine U9 ?_|(refine V5 ?_;intro w hw))
   refine⟨rfl,μ-1,by omega,k+1,ps++[(o.Var,x)],(.slice fa' fn' fc'),by omega,⟨rfl,rfl,rfl,rfl,rfl,rfl,rfl,trivial⟩,?_,by rw[List.length_append];simp;omega,?_,?_,W1.perm K1⟩
   ·intro p hp;rcases List.mem_append.1 hp with h1|h1
    ·exact hps p h1
    ·rw[List.mem_singleton.1 h1];exact fun hm=>hnk (by rw[List.map_append];exact List.mem_append_left _ hm)
   ·rw[←List.append_assoc];exact hek.snoc (fun e=>h0 (Or.inl e)) hxo
   ·rw[←List.append_assoc];exact hbd
  have hs:(F1 (e++ps) o.Var).isSome=true:=by simpa using h
  rw[SJ h0 h1 hs]at hbd;repeat(first|refine CB ?_|refine U9 ?_|(refine V5 ?_;intro w hw))
  exact⟨rfl,μ-1,by omega,k+1,ps,fv,by omega,⟨rfl,rfl,rfl,rfl,rfl,rfl,rfl,trivial⟩,hps,by omega,hek,hbd,hw.drop.drop⟩
 have hkn:n≤k:=by have:=of_decide_eq_false h;omega
 rw[G9 os (by omega),G9 xs (by omega)]at hbd
 have hbd:T7 e os xs=some (e++ps):=hbd.trans rfl
 have hwS:O3 φ e os xs=φ (e++ps):=by
  unfold O3;rw[hbd]
 repeat(first|refine CB ?_|refine U9 ?_|(refine V5 ?_;intro w hw))
 have W1:Wd Γ (.blk b (G2 vs vg vt vr bm)::(H6 vr L++(E4 bm (e++ps)::(CAP++(.blk b8 (.cells #[fv] 23)::.own fv 9 1 (B7 (ps.map (·.1)))::.blk b4 (.cells #[.pointer (some ⟨b,0,none⟩)] 117)::S))))) w:=hw.perm K1
 have Aj:Wd Γ (SV b bm vs vg vt rs::E4 bm (e++ps)::(CAP++(.blk b8 (.cells #[fv] 23)::.own fv 9 1 (B7 (ps.map (·.1)))::.blk b4 (.cells #[.pointer (some ⟨b,0,none⟩)] 117)::S))) w:=Z2 hL W1
 refine Cp (fst:=[]) (cap:=cap) ?_
 refine((hq (e++ps) rs (.blk b8 (.cells #[fv] 23)::.own fv 9 1 (B7 (ps.map (·.1)))::.blk b4 (.cells #[.pointer (some ⟨b,0,none⟩)] 117)::S) w hek (by rw[←hwS];exact hrs) Aj).mono fun r w hr=>?_)
 obtain⟨rfl,hw3⟩:=hr;refine⟨_,rfl,?_⟩;clear hw W1 Aj;obtain⟨vr',L',hL',hw⟩:=DL hw3
 clear hw3 hL;repeat(first|refine CB ?_|refine U9 ?_|(refine V5 ?_;intro w hw))
 refine fun a ha hs=>fin ps fv vr' L' (rs++φ (e++ps)) w a hps hL' (by rw[hwS]) ?_
 exact hw.perm K1
end Go.Proofs.YtlimglpjpcfpdaaGreat
end
