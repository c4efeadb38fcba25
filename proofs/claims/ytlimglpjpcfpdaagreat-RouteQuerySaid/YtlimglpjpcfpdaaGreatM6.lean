/- Texts of this proof, one behind another. -/
import Derived.Test.YtlimglpjpcfpdaaGreatM5
import Derived.Test.YtlimglpjpcfpdaaGreatM3
import Derived.Lib.ItoaNum
import Derived.Test.YtlimglpjpcfpdaaGreatM4
set_option linter.unusedVariables false
set_option linter.unusedSimpArgs false
section
open Go
namespace Mk
attribute [local irreducible] Calls
section
variable {PP:List PanicEntry→World→Prop}{P:Program}{n:Nat}{ops:List Oper}{Γ:C8}{K:List B2}{wr tc stab:List (List Nat)}{Q:Fr→World→Prop}{i:Nat}{rest:List Oper}{ρ:Fr}{M:Nat→Fr→List B2}{o:Oper}{v:Value}
theorem eC(hy:∀Y w g,Wd Γ (K++(E8 tc stab i M g++Y)) w→Step P o (E7 stab.flatten g ρ) w fun u w'=>u=v∧Wd Γ (K++(E8 tc stab i M g++Y)) w')(hw0:wr.getD i []=[])(hg:o.guard=none)(ho:Dj tc stab i o.dst=true)
  (h:MSwE PP (mV P n ops Γ K wr tc stab) Q (i+1) rest ⟨D2 ρ o.dst v,M⟩):MSwE PP (mV P n ops Γ K wr tc stab) Q i (o::rest) ⟨ρ,M⟩:=by
 have hn:∀c,Mt.nxt (mV P n ops Γ K wr tc stab) i ⟨ρ,M⟩ c=M:=fun c=>by
  funext x;simp only[Mt.nxt,V4.w,hw0];rfl
 refine⟨⟨v,M⟩,⟨fun Γ' Y w g hr hw=>?_⟩,?_⟩
 ·have hΓ:Γ'=Γ:=hr
  subst hΓ;rw[hn];refine⟨fun _=>Step.toE ((hy Y w g hw).mono fun u w' ⟨h1,h2⟩=>⟨Γ',rfl,?_,fun _=>h1⟩),fun hf=>?_⟩
  ·have:=Gc (g:=g) (v:=u) ho M
   show Wd Γ' (K++(E8 tc stab i M (D2 g o.dst u)++Y)) w'
   rw[this];exact h2
  ·rw[Q4 hg]at hf;cases hf
 ·simp only[Mt.next,hn];exact h
theorem eY(h:MSwE PP (mV P n ops Γ K wr tc stab) Q (i+1) rest ⟨D2 ρ o.dst v,M⟩)(hw0:wr.getD i []=[]:=by exact rfl)(hg:o.guard=none:=by exact rfl)(ho:Dj tc stab i o.dst=true:=by exact rfl)
  (hy:∀Y w g,Wd Γ (K++(E8 tc stab i M g++Y)) w→Yields P o (E7 stab.flatten g ρ) w v:=by (intro Y w g hw;exact Pu)):MSwE PP (mV P n ops Γ K wr tc stab) Q i (o::rest) ⟨ρ,M⟩:=
 eC (fun Y w g hw=>(hy Y w g hw).step ⟨rfl,hw⟩) hw0 hg ho h
theorem eM{x:Nat}(m:Fr→List B2)(hs:∀Y w g,Wd Γ (K++(E8 tc stab i M g++Y)) w→r9 PP P o (E7 stab.flatten g ρ) w fun u w'=>Wd Γ (K++(E8 tc stab i (H5 M x m) (D2 g o.dst u)++Y)) w'∧(T8 stab o.dst=false→u=v))
  (h:MSwE PP (mV P n ops Γ K wr tc stab) Q (i+1) rest ⟨D2 ρ o.dst v,H5 M x m⟩) (hw0:wr.getD i []=[x]:=by exact rfl) (hg:o.guard=none:=by exact rfl):MSwE PP (mV P n ops Γ K wr tc stab) Q i (o::rest) ⟨ρ,M⟩:=by
 have hn:Mt.nxt (mV P n ops Γ K wr tc stab) i ⟨ρ,M⟩ ⟨v,fun _=>m⟩=H5 M x m:=by
  funext y;simp only[Mt.nxt,V4.w,hw0];rfl
 refine⟨⟨v,fun _=>m⟩,⟨fun Γ' Y w g hr hw=>?_⟩,?_⟩
 ·have hΓ:Γ'=Γ:=hr
  subst hΓ;rw[hn];refine⟨fun _=>(hs Y w g hw).mono fun u w' ⟨h1,h2⟩=>⟨Γ',rfl,h1,h2⟩,fun hf=>?_⟩
  rw[Q4 hg]at hf;cases hf
 ·simp only[Mt.next,hn];exact h
theorem eS{c:Nat}{F:Fr→List B2}(F':Fr→List B2)
  (hs:∀g w Y,Wd Γ (F (E7 (stab.getD c []) g D4)++(K++Y)) w→r9 PP P o (E7 stab.flatten g ρ) w fun u w'=>(T8 stab o.dst=false→u=v)∧Wd Γ (F' (E7 (stab.getD c []) (D2 g o.dst u) D4)++(K++Y)) w')
  (h:MSwE PP (mV P n ops Γ K wr tc stab) Q (i+1) rest ⟨D2 ρ o.dst v,H5 M c F'⟩) (hM:M c=F:=by first|exact B0|exact UY|exact Cm|exact((A0 (by decide)).trans B0)|exact rfl) (hw0:wr.getD i []=[c]:=by exact rfl) (ht:tc.getD i []=[c]:=by exact rfl) (hg:o.guard=none:=by exact rfl) :
  MSwE PP (mV P n ops Γ K wr tc stab) Q i (o::rest) ⟨ρ,M⟩:=by
 refine eM _ (fun Y w g hw=>?_) h hw0 hg
 rw[O2 ht,hM]at hw;refine(hs g w Y hw.swapApp).mono ?_
 rintro u w' ⟨h2,h3⟩
 refine⟨?_,h2⟩
 rw[O2 ht,B0];exact h3.swapApp
theorem Lk{T T':Type}{c dd f:Nat}{args:List Operand}{tys:Array TypeId}{ty:TypeId}{pos:String}{es:Array Edge}{vs:List Value}{φ:T→Fr→Prop}{R:T→List B2}[C7 P f](val:T'→Value)(R':T'→List B2)
  (hcall:∀t Z w,Wd Γ (R t++Z) w→Calls P f vs.toArray w (Ends (fun u w'=>∃t':T',u=val t'∧Wd Γ (R' t'++Z) w') PP))
  (h:MSwE PP (mV P n ops Γ K wr tc stab) Q (i+1) rest ⟨D2 ρ (some dd) undef,H5 M c (P5 (fun (t:T') g=>g dd=val t) R')⟩)
  (hw0:wr.getD i []=[c]:=by exact rfl) (ht:tc.getD i []=[c]:=by exact rfl) (hM:M c=P5 φ R:=by first|exact B0|exact UY|exact Cm|exact((A0 (by decide)).trans B0)|exact((A0 (by decide)).trans Cm)|exact rfl)
  (hs:(stab.getD c []).contains dd=true:=by exact rfl) (hfr:T8 stab (some dd)=true:=by exact rfl) (ha:∀g,EvL (E7 stab.flatten g ρ) args vs:=by intro g;exact v7) :
  MSwE PP (mV P n ops Γ K wr tc stab) Q i (⟨some dd,.call { callee:=.value (.func f),args:=args.toArray,argTypes:=tys },ty,pos,es,none⟩::rest) ⟨ρ,M⟩:=
 eS (v:=undef) (P5 (fun (t:T') g=>g dd=val t) R') (fun g w Y hw=>by
  obtain⟨t,-,hw⟩:=L9 hw
  have hr:(execOp (ev (E7 stab.flatten g ρ)) ⟨some dd,.call { callee:=.value (.func f),args:=args.toArray,argTypes:=tys },ty,pos,es,none⟩).run P w=.ok (.enter f vs.toArray) w:=by
   simp only[execOp,resolve,(ha g).eqA,ev,Deferred.ofValue,Sem.run_bind,Sem.run_pure,Result.andThen_ok,invoke]
   simp[P9]
  unfold r9;rw[hr];refine(hcall t _ _ hw).mono ?_
  intro e w' he;refine he.mono ?_ fun ch w h=>h
  rintro u w' ⟨t',rfl,hw'⟩
  refine⟨fun hh=>(by rw[hfr]at hh;cases hh),U2 t' ?_ hw'⟩
  rw[J7 (by simpa using hs)];exact upd_same _ _ _) h hM hw0 ht rfl
theorem YE{id:Nat}{l:List Oper}{QQ:Exit→Fr→World→Prop}{w:World}(PP:List PanicEntry→World→Prop)(K:List B2)(M:List (Fr→List B2))(wr tc stab:List (List Nat))(hw:Wd Γ (K++(List.range stab.length).flatMap fun x=>(ML M) x (E7 (stab.getD x []) ρ D4)) w)
  (hPP:∀ch ρ w,PP ch w→QQ (.panic ch) ρ w)
  (h:MSwE PP (mV P n l Γ K wr tc stab) (fun ρ w=>QQ .normal ρ w) 0 l ⟨ρ,ML M⟩) (hm:P.follows .mixedOrders=true:=by kernel_rfl) (hk:R3 n l wr tc stab=true:=by kernel_rfl):W P n (.region id l.toArray true) QQ ρ w:=
 Yz K (ML M) wr tc stab true hm hk hPP hw h
theorem noCell{L:List Nat}{c:Nat}{w:World}{Y:List B2}{g:Fr}{N:Nat→List Nat}{φ:Empty→Fr→Prop}{R:Empty→List B2}(hc:c∈L)(hM:M c=P5 φ R)(hw:Wd Γ (K++((L.flatMap fun x=>M x (E7 (N x) g D4))++Y)) w):False:=by
 obtain⟨l1,l2,rfl⟩:=List.append_of_mem hc
 rw[List.flatMap_append,List.flatMap_cons,hM]at hw;have hw:Wd Γ (P5 φ R (E7 (N c) g D4)++(K++((l1.flatMap fun x=>M x (E7 (N x) g D4))++((l2.flatMap fun x=>M x (E7 (N x) g D4))++Y)))) w:=hw.perm (by
  rw[List.append_assoc,List.append_assoc];exact(List.Perm.append_left K (List.perm_append_comm_assoc _ _ _)).trans (List.perm_append_comm_assoc _ _ _))
 obtain⟨t,-,-⟩:=L9 hw
 exact t.elim
theorem Nw{c:Nat}{φ:Empty→Fr→Prop}{R:Empty→List B2}(h:MSwE PP (mV P n ops Γ K wr tc stab) Q (i+1) rest ⟨D2 ρ o.dst undef,M⟩)(hM:M c=P5 φ R:=by first|exact B0|exact rfl)(ht:(tc.getD i []).contains c=true:=by exact rfl) :
  MSwE PP (mV P n ops Γ K wr tc stab) Q i (o::rest) ⟨ρ,M⟩:=by
 have hn:Mt.nxt (mV P n ops Γ K wr tc stab) i ⟨ρ,M⟩ ⟨undef,M⟩=M:=by
  funext x;simp only[Mt.nxt];cases ((mV P n ops Γ K wr tc stab).w i).contains x <;> rfl
 refine⟨⟨undef,M⟩,⟨fun Γ' Y w g hr hw=>?_⟩,?_⟩
 ·exact(noCell (L:=tc.getD i []) (N:=fun x=>stab.getD x []) (by simpa using ht) hM hw).elim
 ·simp only[Mt.next,hn];exact h
theorem HZ{c:Nat}{φ:Empty→Fr→Prop}{R:Empty→List B2}(hM:M c=P5 φ R:=by first|exact B0|exact rfl)(hl:(List.range stab.length).contains c=true:=by exact rfl):MSwE PP (mV P n ops Γ K wr tc stab) Q i [] ⟨ρ,M⟩:=fun Γ' w g hr hw=>by
 refine(noCell (L:=List.range stab.length) (N:=fun x=>stab.getD x []) (Y:=[]) (K:=K) (Γ:=Γ') (w:=w) (g:=g) (by simpa using hl) hM ?_).elim
 rw[List.append_nil];exact hw
theorem Ey{id:Nat}{l:List Oper}{QQ:Exit→Fr→World→Prop}{w:World}(PP:List PanicEntry→World→Prop)(K X0 X1 X2:List B2)(N1 N2:List Nat)(wr tc:List (List Nat))(hw:Wd Γ (K++(X0++(X1++X2))) w)
  (hPP:∀ch ρ w,PP ch w→QQ (.panic ch) ρ w)
  (h:MSwE PP (mV P n l Γ K wr tc [[],N1,N2]) (fun ρ w=>QQ .normal ρ w) 0 l ⟨ρ,ML [fun _=>X0,P5 (T:=Unit) (fun _ _=>True) (fun _=>X1),P5 (T:=Unit) (fun _ _=>True) (fun _=>X2)]⟩)
  (hm:P.follows .mixedOrders=true:=by kernel_rfl) (hk:R3 n l wr tc [[],N1,N2]=true:=by kernel_rfl):W P n (.region id l.toArray true) QQ ρ w:=
 YE PP K [fun _=>X0,P5 (T:=Unit) (fun _ _=>True) (fun _=>X1),P5 (T:=Unit) (fun _ _=>True) (fun _=>X2)] wr tc [[],N1,N2] (by
  show Wd Γ (K++(X0++(P5 (T:=Unit) (fun _ _=>True) (fun _=>X1) (E7 N1 ρ D4)++(P5 (T:=Unit) (fun _ _=>True) (fun _=>X2) (E7 N2 ρ D4)++[])))) w
  rw[List.append_nil];have h1:Wd Γ (X1++(X2++(K++X0))) w:=hw.perm (by
   rw[←List.append_assoc,←List.append_assoc X1];exact List.perm_append_comm)
  have h2:Wd Γ (P5 (T:=Unit) (fun _ _=>True) (fun _=>X1) (E7 N1 ρ D4)++(X2++(K++X0))) w:=U2 () trivial h1
  have h3:Wd Γ (X2++(P5 (T:=Unit) (fun _ _=>True) (fun _=>X1) (E7 N1 ρ D4)++(K++X0))) w:=h2.perm (List.perm_append_comm_assoc _ _ _)
  have h4:Wd Γ (P5 (T:=Unit) (fun _ _=>True) (fun _=>X2) (E7 N2 ρ D4)++(P5 (T:=Unit) (fun _ _=>True) (fun _=>X1) (E7 N1 ρ D4)++(K++X0))) w:=U2 () trivial h3
  have h5:Wd Γ (P5 (T:=Unit) (fun _ _=>True) (fun _=>X1) (E7 N1 ρ D4)++(P5 (T:=Unit) (fun _ _=>True) (fun _=>X2) (E7 N2 ρ D4)++(K++X0))) w:=h4.perm (List.perm_append_comm_assoc _ _ _)
  exact h5.perm (by
   rw[←List.append_assoc,←List.append_assoc K];exact List.perm_append_comm)) hPP h hm hk
end
end Mk
end
section
open Go Mk
namespace Go.Proofs.YtlimglpjpcfpdaaGreat
set_option maxHeartbeats 32000000
def Ny:ByteArray:=⟨#[105,110]⟩
def IS:ByteArray:=⟨#[46,46]⟩
def LV:ByteArray:=⟨#[43]⟩
def gh:ByteArray:=⟨#[61]⟩
def gm:ByteArray:=⟨#[33,61]⟩
def gz:ByteArray:=⟨#[60]⟩
def gi:ByteArray:=⟨#[60,61]⟩
def gy:ByteArray:=⟨#[62]⟩
def ge:ByteArray:=⟨#[62,61]⟩
def Bs:List ByteArray:=[F4,gh,gm,gz,gi,gy,ge]
def opAt(toks:List Tok)(k:Nat):Nat:=if Q9 toks k 4 gh=true then 1 else if Q9 toks k 4 gm=true then 2 else if Q9 toks k 4 gz=true then 3 else if Q9 toks k 4 gi=true then 4 else if Q9 toks k 4 gy=true then 5 else if Q9 toks k 4 ge=true then 6 else 0
def O8{α β:Type}(x:PR α)(f:α→Nat→PR β):PR β:=match x with
 | .ok (a,k)=>f a k
 | .error q=>.error q
def EG(toks:List Tok)(e:F2):Nat→List P1→Nat→PR (List P1)
 | 0,acc,k=>.ok (acc,k)
 | f+1,acc,k=>if Q9 toks k 4 V8=true then O8 (Kz toks e (k+1)) fun o k1=>EG toks e f (acc++[o]) k1 else .ok (acc,k)
def Nf(toks:List Tok)(e:F2)(kind:Int)(k:Nat):PR H3:=
 O8 (z8 toks e k) fun s k1=>O8 (Dt toks e 4 Az k1) fun _ k2=>O8 (Kz toks e k2) fun o k3=>O8 (EG toks e (toks.length+1) [o] k3) fun os k4=>O8 (Dt toks e 4 Qi k4) fun _ k5=>.ok (⟨kind,s,os,0,I4,I4,0,0,0⟩,k5)
def Vy(toks:List Tok)(e:F2)(l:P1)(k:Nat):PR H3:=
 O8 (Gf toks e k) fun lo k1=>O8 (Dt toks e 4 IS k1) fun _ k2=>O8 (Gf toks e k2) fun hi k3=>.ok (⟨4,F4,[],0,l,I4,0,lo,hi⟩,k3)
def Vh(toks:List Tok)(e:F2)(k:Nat):PR Int:=
 if Q9 toks k 4 LV=true then Nv (fun v=>IntKind.i64.wrap v) (Dq toks e 9223372036854775807 (k+1))
 else if Q9 toks k 4 EW=true then Nv (fun v=>IntKind.i64.wrap (-(IntKind.i64.wrap v))) (Dq toks e 9223372036854775807 (k+1))
 else .ok (0,k)
def Vb(toks:List Tok)(e:F2)(l:P1)(k:Nat):PR H3:=
 if opAt toks k=0 then .error (S4 toks k e,50) else O8 (Kz toks e (k+1)) fun r k1=>O8 (Vh toks e k1) fun o k2=>.ok (⟨3,F4,[],opAt toks k,l,r,o,0,0⟩,k2)
def AL(toks:List Tok)(e:F2)(k:Nat):PR H3:=
 if Q9 toks k 1 Ab=true then Nf toks e 2 (k+1)
 else if (Q0 toks k).Kind=1∧Q9 toks (k+1) 4 Az=true then Nf toks e 1 k
 else O8 (Kz toks e k) fun l k1=>if (Q0 toks k).Kind=1∧Q9 toks k1 1 Ny=true then Vy toks e l (k1+1) else Vb toks e l k1
def bJ(Γ:C8)(S:List B2)(bp:Nat)(a:Option Addr)(n c:Nat)(e:F2):PR H3→Ending→World→Prop
 | .ok (g,k),r,w=>∃v:WO,r=.returned (.agg (cG ⟨g,v.1,v.2.1,v.2.2⟩).toArray)∧k≤n∧Wd Γ (.own (En v) 125 4 (g.Args.map enc)::D6 bp a n c k e.Line e.Col::S) w
 | .error (p,er),r,w=>r=.panicked [Dp p er]∧∃k,Wd Γ (D6 bp a n c k e.Line e.Col::S) w
section
variable {Γ:C8}{S:List B2}{w:World}{bp:Nat}{a:Option Addr}{n c at':Nat}{e:F2}{toks:List Tok}
theorem EH{k k':Nat}{s:ByteArray}(h:z8 toks e k=.ok (s,k')):k'=k+1:=by
 unfold z8 at h;split at h
 ·split at h
  ·cases h;rfl
  ·cases h
 ·cases h
theorem DY{most:Int}{k k':Nat}{v:Int}(h:Dq toks e most k=.ok (v,k')):k'=k+1:=by
 unfold Dq at h;split at h
 ·split at h
  ·cases h;rfl
  ·cases h
 ·cases h
theorem f8{α β:Type}{f:α→β}{x:PR α}{y:β}{k:Nat}(h:Nv f x=.ok (y,k)):∃z,x=.ok (z,k)∧y=f z:=by
 cases x with
 | error q=>cases h
 | ok q=>
  obtain⟨z,k'⟩:=q;cases h
  exact⟨z,rfl,rfl⟩
theorem IC{k k':Nat}{o:P1}(h:Kz toks e k=.ok (o,k')):k<k':=by
 unfold Kz at h;split at h
 ·obtain⟨z,hz,-⟩:=f8 h
  have:=EH hz
  omega
 ·split at h
  ·split at h
   ·cases h
   ·cases h;omega
  ·obtain⟨z,hz,-⟩:=f8 h
   unfold Gf at hz;split at hz
   ·obtain⟨z2,hz2,-⟩:=f8 hz
    have:=DY hz2
    omega
   ·obtain⟨z2,hz2,-⟩:=f8 hz
    have:=DY hz2
    omega
theorem YG{k k':Nat}{o:P1}(h:Kz toks e k=.ok (o,k')):k'≤toks.length:=by
 have num:∀ {most:Int} {j j':Nat} {v:Int},Dq toks e most j=.ok (v,j')→j'≤toks.length:=fun {most j j' v} h=>by
  have h1:=DY h
  unfold Dq at h;split at h
  ·rename_i hk
   have:=Cy (toks:=toks) (at':=j) (by omega)
   omega
  ·cases h
 unfold Kz at h;split at h
 ·rename_i hk
  obtain⟨z,hz,-⟩:=f8 h
  have h1:=EH hz
  have:=Cy (toks:=toks) (at':=k) (by omega)
  omega
 ·split at h
  ·rename_i hk
   split at h
   ·cases h
   ·cases h
    have:=Cy (toks:=toks) (at':=k) (by omega)
    omega
  ·obtain⟨z,hz,-⟩:=f8 h
   unfold Gf at hz;split at hz
   ·obtain⟨z2,hz2,-⟩:=f8 hz
    exact num hz2
   ·obtain⟨z2,hz2,-⟩:=f8 hz
    exact num hz2
theorem ai{k:Nat}(h:opAt toks k≠0):k<toks.length:=by
 by_cases hk:k<toks.length
 ·exact hk
 ·refine absurd ?_ h
  have hf:∀t,Q9 toks k 4 t=false:=fun t=>by
   cases hi:Q9 toks k 4 t with
   | true=>exact absurd (BM (by decide) hi) hk
   | false=>rfl
  unfold opAt;simp[hf]
theorem Ky{S:List B2}{w:World}(hw:Wd Γ S w):Calls Tryz.prog 149 #[] w fun r w'=>∃q:Addr,r=.returned (.slice (some q) 7 7)∧Wd Γ (.own (.slice (some q) 7 7) 9 1 (Bs.map fun s=>[.string s])::S) w':=by
 refine A9 Tryz.func149 rfl rfl ?_
 refine A6 ?_;refine B6 (Bs.map fun s=>[.string s]) ?_
 intro q w hw;refine A6 ?_;exact⟨_,rfl,q,rfl,hw⟩
def Jh(toks:List Tok)(k:Nat):Nat→Nat
 | 0=>0
 | j+1=>if Jh toks k j≠0 then Jh toks k j else if 0<j∧Q9 toks k 4 (Bs.getD j F4)=true then j else 0
theorem Zp{k:Nat}:Jh toks k 7=opAt toks k:=by
 have g0:Bs.getD 1 F4=gh:=rfl
 have g1:Bs.getD 2 F4=gm:=rfl
 have g2:Bs.getD 3 F4=gz:=rfl
 have g3:Bs.getD 4 F4=gi:=rfl
 have g4:Bs.getD 5 F4=gy:=rfl
 have g5:Bs.getD 6 F4=ge:=rfl
 simp only[Jh,opAt,g0,g1,g2,g3,g4,g5]
 cases Q9 toks k 4 gh <;> cases Q9 toks k 4 gm <;> cases Q9 toks k 4 gz <;> cases Q9 toks k 4 gi <;> cases Q9 toks k 4 gy <;> cases Q9 toks k 4 ge <;> simp
theorem UV(hW:JL toks)(hat:at'≤n)(hN:toks.length≤1000000)(ht:D9 Γ (.slice a n c) 5 (toks.map enc))(hw:Wd Γ (D6 bp a n c at' e.Line e.Col::S) w) :
  Calls Tryz.prog 96 #[.pointer (some ⟨bp,0,none⟩)] w (bJ Γ S bp a n c e (AL toks e at')):=by
 have hn:n=toks.length:=by obtain⟨_,_,_,h1,h2,h3⟩:=ht.shape;cases h1;simpa using h2
 refine K9 Tryz.func96 rfl rfl ?_
 refine A6 ?_;refine C0 ?_;intro b2 w hw;refine A6 ?_;refine C0 ?_;intro b3 w hw;refine B1 ?_;intro w hw;have hw:Wd Γ (D6 bp a n c at' e.Line e.Col::.blk b3 (.cells (cG ⟨aP F4 [],none,0,0⟩).toArray 127)::.blk b2 (.cells (cG ⟨⟨0,F4,[],0,I4,I4,0,0,0⟩,none,0,0⟩).toArray 127)::S) w:=hw.ps [2]
 refine A6 ?_;refine D3 (vs:=[.pointer (some ⟨bp,0,none⟩),.int .i64 1,.string Ab]) ?_
 refine(Z4 1 Ab hat hN ht hw).mono ?_
 clear hw;rintro r w ⟨rfl,hw⟩
 refine⟨_,rfl,?_⟩;refine A6 ?_;refine Ft (fun ρ w=>Has ρ [(0,.pointer (some ⟨bp,0,none⟩)),(2,.pointer (some ⟨b2,0,none⟩)),(3,.pointer (some ⟨b3,0,none⟩))]∧Wd Γ (D6 bp a n c (if Q9 toks at' 1 Ab=true then at'+1 else at') e.Line e.Col::.blk b3 (.cells (cG ⟨⟨if Q9 toks at' 1 Ab=true then 2 else 1,F4,[],0,I4,I4,0,0,0⟩,none,0,0⟩).toArray 127)::.blk b2 (.cells (cG ⟨⟨0,F4,[],0,I4,I4,0,0,0⟩,none,0,0⟩).toArray 127)::S) w) ?_ ?_
 ·refine A7 rfl (fun h=>?_) (fun h=>?_)
  ·have hwq:Wd Γ (D6 bp a n c (if Q9 toks at' 1 Ab=true then at'+1 else at') e.Line e.Col::.blk b3 (.cells (cG ⟨aP F4 [],none,0,0⟩).toArray 127)::.blk b2 (.cells (cG ⟨⟨0,F4,[],0,I4,I4,0,0,0⟩,none,0,0⟩).toArray 127)::S) w:=hw
   clear hw;have hw:=hwq
   clear hwq;rw[h]at hw ⊢
   simp only[if_true]at hw ⊢
   refine A6 ?_;refine B1 (i:=1) ?_
   intro w hw;have hw:Wd Γ (D6 bp a n c (at'+1) e.Line e.Col::.blk b3 (.cells (cG ⟨⟨2,F4,[],0,I4,I4,0,0,0⟩,none,0,0⟩).toArray 127)::.blk b2 (.cells (cG ⟨⟨0,F4,[],0,I4,I4,0,0,0⟩,none,0,0⟩).toArray 127)::S) w:=hw
   refine A6 ?_;exact⟨⟨rfl,rfl,rfl,trivial⟩,hw⟩
  ·rw[h]at hw ⊢
   refine A6 ?_;exact⟨⟨rfl,rfl,rfl,trivial⟩,hw⟩
 clear hw;rintro ρ w ⟨hρ,hw⟩
 rw[hρ.eq];clear hρ;have hk1:(if Q9 toks at' 1 Ab=true then at'+1 else at')≤n:=by
  split
  ·rename_i h;have:=BM (by decide) h;omega
  ·exact hat
 refine Br ?_
 refine BW (fun ρ w=>Has ρ [(0,.pointer (some ⟨bp,0,none⟩)),(2,.pointer (some ⟨b2,0,none⟩)),(3,.pointer (some ⟨b3,0,none⟩)),(23,.bool (Q9 toks at' 1 Ab||(decide ((Q0 toks at').Kind=1)&&Q9 toks (at'+1) 4 Az)))]∧Wd Γ (D6 bp a n c (if Q9 toks at' 1 Ab=true then at'+1 else at') e.Line e.Col::.blk b3 (.cells (cG ⟨⟨if Q9 toks at' 1 Ab=true then 2 else 1,F4,[],0,I4,I4,0,0,0⟩,none,0,0⟩).toArray 127)::.blk b2 (.cells (cG ⟨⟨0,F4,[],0,I4,I4,0,0,0⟩,none,0,0⟩).toArray 127)::S) w) ?_ ?_
 ·cases hi:Q9 toks at' 1 Ab with
  | true=>
   rw[hi]at hw;simp only[if_true]at hw ⊢
   refine A6 ?_;refine Tt ?_ (hct:=by decide)
   refine Tt ?_ (hct:=by decide)
   refine Tt ?_ (hct:=by decide)
   refine Tt ?_ (hct:=by decide)
   repeat(first|(first|refine Br ?_|refine FD ?_|refine AA ?_|refine GA ?_|refine Qn ?_|refine KO ?_)|((first|apply UM|apply JS);first|(refine lT ?_ ?_;(first|exact rfl|exact decide_eq_true rfl|exact hb1|exact hb2|exact hb3|exact hb4|(focus (simp;done))))|(refine lF ?_ ?_;(first|exact rfl|exact decide_eq_true rfl|exact hb1|exact hb2|exact hb3|exact hb4|(focus (simp;done)))))|(first|refine AM ?_|(apply FJ;first|(apply Iw;first|refine lP ?_|(refine Zx ?_;intro w hw))|(apply YC;refine Cd ?_)|refine lY ?_)|(apply v8;first|refine WP ?_ (hct:=rfl)|refine Tt ?_ (hct:=rfl)|(apply Iw;first|refine fW ?_|(refine VS ?_;intro w hw))|refine lG ?_))|(refine C0 ?_;intro _ w hw)|(refine H9 ?_;intro _ w hw)|(refine B1 ?_;intro w hw)|(apply v8;refine Tt ?_ (hc:=by exact G0.u) (hct:=rfl)))
   exact⟨⟨rfl,rfl,rfl,rfl,trivial⟩,hw⟩
  | false=>
   rw[hi]at hw;have hw:Wd Γ (D6 bp a n c at' e.Line e.Col::.blk b3 (.cells (cG ⟨aP F4 [],none,0,0⟩).toArray 127)::.blk b2 (.cells (cG ⟨⟨0,F4,[],0,I4,I4,0,0,0⟩,none,0,0⟩).toArray 127)::S) w:=hw
   refine A6 ?_;refine WP (hct:=by decide) ?_
   refine D3 (vs:=[.pointer (some ⟨bp,0,none⟩),.int .i64 0]) ?_ (ha:=EvL.cons (Kb (by decide)) (EvL.cons rfl EvL.nil))
   refine(FG (j:=0) (by decide) hat hN ht hw).mono ?_
   clear hw;rintro r w ⟨rfl,hw⟩
   rw[Nat.add_zero];refine⟨_,rfl,?_⟩;refine A6 ?_;refine lG ?_ (hv:=by intro hc;exact Pq Tryz.underlying178 rfl (by kernel_rfl) rfl rfl)
   refine A6 ?_;by_cases hk:(Q0 toks at').Kind=1
   ·have hkc:(!decide ((1:Int)=2)&&decide ((Q0 toks at').Kind=1))=true:=by rw[decide_eq_true hk];decide
    refine WP (hct:=hkc) ?_
    refine D3 (vs:=[.pointer (some ⟨bp,0,none⟩),.int .i64 1,.int .i64 4,.string Az]) ?_ (ha:=EvL.cons (Kb hkc) (EvL.cons rfl (EvL.cons rfl (EvL.cons rfl EvL.nil))))
    refine(eR (j:=1) (by decide) 4 Az hat hN ht hw).mono ?_
    clear hw;rintro r w ⟨rfl,hw⟩
    refine⟨_,rfl,?_⟩;generalize Q9 toks (at'+1) 4 Az=bl
    refine A6 ?_;refine WP (hct:=by decide) ?_
    refine lY (v:=.bool bl) ?_ (hy:=FN ((Kb (by decide)).trans (by rw[decide_eq_true hk])) rfl)
    refine lY (v:=.bool bl) ?_ (hy:=Bc (congrArg Value.bool (by decide)) rfl)
    refine A6 ?_;rw[decide_eq_true hk];exact⟨⟨rfl,rfl,rfl,rfl,trivial⟩,hw⟩
   ·have hkc:(!decide ((1:Int)=2)&&decide ((Q0 toks at').Kind=1))=false:=by rw[decide_eq_false hk];decide
    refine Tt (hct:=hkc) ?_
    refine WP (hct:=by decide) ?_
    refine lY (v:=.bool false) ?_ (hy:=Bc ((Kb (by decide)).trans (by rw[decide_eq_false hk])) rfl)
    refine lY (v:=.bool false) ?_ (hy:=Bc (congrArg Value.bool (by decide)) rfl)
    refine A6 ?_;rw[decide_eq_false hk];exact⟨⟨rfl,rfl,rfl,rfl,trivial⟩,hw⟩
 clear hw;rintro ρ w ⟨hρ,hw⟩
 rw[hρ.eq];clear hρ;have hopl:=fun k o k'=>IC (toks:=toks) (e:=e) (k:=k) (o:=o) (k':=k')
 refine A7 rfl (fun h=>?_) (fun h=>?_)
 ·obtain⟨kd,hkd⟩:∃kd:Int,kd=if Q9 toks at' 1 Ab=true then 2 else 1:=⟨_,rfl⟩
  obtain⟨k1,hk1d⟩:∃k1,k1=if Q9 toks at' 1 Ab=true then at'+1 else at':=⟨_,rfl⟩
  have hG:AL toks e at'=Nf toks e kd k1:=by
   unfold AL;rw[hkd,hk1d];cases hi:Q9 toks at' 1 Ab with
   | true=>simp
   | false=>
    rw[hi,Bool.false_or,Bool.and_eq_true,decide_eq_true_eq]at h;rw[if_neg (by decide),if_pos h,if_neg (by decide),if_neg (by decide)]
  rw[←hk1d]at hk1;rw[←hk1d,←hkd]at hw;rw[hG];clear h hG hkd hk1d;unfold Nf;refine A6 ?_;refine K4 (vs:=[.pointer (some ⟨bp,0,none⟩)]) ?_
  refine(MO hk1 hN ht hw).mono ?_
  clear hw;rintro r w hr
  cases hWd:z8 toks e k1 with
  | error q=>
   obtain⟨p,er⟩:=q;rw[hWd]at hr;obtain⟨rfl,k,hw⟩:=hr;exact⟨rfl,k,(hw.dropAt 1).dropAt 1⟩
  | ok q=>
  obtain⟨s,k2⟩:=q;rw[hWd]at hr;obtain⟨rfl,hk2,hw⟩:=hr;show L _ _ _ _ _ _ _
  simp only[O8]
  refine A6 ?_;refine B1 (i:=1) ?_
  intro w hw;have hw:Wd Γ (D6 bp a n c k2 e.Line e.Col::.blk b3 (.cells (cG ⟨⟨kd,s,[],0,I4,I4,0,0,0⟩,none,0,0⟩).toArray 127)::.blk b2 (.cells (cG ⟨⟨0,F4,[],0,I4,I4,0,0,0⟩,none,0,0⟩).toArray 127)::S) w:=hw
  refine A6 ?_;refine K4 (vs:=[.pointer (some ⟨bp,0,none⟩),.int .i64 4,.string Az]) ?_
  refine(GX 4 Az (by decide) hk2 hN ht hw).mono ?_
  clear hw;rintro r w hr
  cases hE:Dt toks e 4 Az k2 with
  | error q=>
   obtain⟨p,er⟩:=q;rw[hE]at hr;obtain⟨rfl,k,hw⟩:=hr;exact⟨rfl,k,(hw.dropAt 1).dropAt 1⟩
  | ok q=>
  obtain⟨_,k3⟩:=q;rw[hE]at hr;obtain⟨rfl,hk9,hw⟩:=hr;show L _ _ _ _ _ _ _
  simp only[O8]
  refine A6 ?_;have hw:=Wd.addNil (a:=none) (E:=125) (sz:=4) hw
  have hw:Wd Γ (.own (.slice none 0 0) 125 4 (([]:List P1).map enc)::D6 bp a n c k3 e.Line e.Col::.blk b3 (.cells (cG ⟨⟨kd,s,[],0,I4,I4,0,0,0⟩,none,0,0⟩).toArray 127)::.blk b2 (.cells (cG ⟨⟨0,F4,[],0,I4,I4,0,0,0⟩,none,0,0⟩).toArray 127)::S) w:=hw
  cases hO:Kz toks e k3 with
  | error q=>
   obtain⟨p,er⟩:=q;refine Ey (fun ch w=>ch=[Dp p er]∧∃k,Wd Γ (D6 bp a n c k e.Line e.Col::S) w) [.blk b2 (.cells (cG ⟨⟨0,F4,[],0,I4,I4,0,0,0⟩,none,0,0⟩).toArray 127)] [.blk b3 (.cells (cG ⟨(⟨kd,s,[],0,I4,I4,0,0,0⟩:H3),none,0,0⟩).toArray 127)] (.own (.slice none 0 0) 125 4 (([]:List P1).map enc)::D6 bp a n c k3 e.Line e.Col::S) [] [32,33,34] [] [[],[],[],[1],[1],[1],[],[0,1]] [[],[0],[],[1],[1],[1],[],[0,1]] (by rw[List.append_nil];exact hw.ps [2,3]) (fun ch ρ w ⟨h1,h2⟩=>by subst h1;exact⟨rfl,h2⟩) ?_
   refine eY ?_
   refine eY ?_
   refine eY ?_
   refine Lk (c:=1) (T:=Unit) (T':=Empty) (vs:=[.pointer (some ⟨bp,0,none⟩)]) (fun t=>t.elim) (fun t=>t.elim) (φ:=fun _ _=>True) (R:=fun _=>.own (.slice none 0 0) 125 4 (([]:List P1).map enc)::D6 bp a n c k3 e.Line e.Col::S) (fun _ Y w hw=>(CL hW hk9 hN ht (hw.ps [1]:Wd Γ (D6 bp a n c k3 e.Line e.Col::(.own (.slice none 0 0) 125 4 (([]:List P1).map enc)::(S++Y))) w)).mono fun r w h=>?_) ?_
   ·rw[hO]at h;obtain⟨rfl,k,hw⟩:=h;have hw:Wd Γ (D6 bp a n c k e.Line e.Col::(.own (.slice none 0 0) 125 4 (([]:List P1).map enc)::(S++Y))) w:=hw
    exact⟨rfl,k,Wd.left (S:=D6 bp a n c k e.Line e.Col::S) (hw.dropAt 1)⟩
   refine Nw (c:=1) ?_
   refine Nw (c:=1) ?_
   refine eY ?_
   refine Nw (c:=1) ?_
   exact HZ (c:=1)
  | ok q=>
  obtain⟨o,k9⟩:=q;refine IA [.blk b2 (.cells (cG ⟨⟨0,F4,[],0,I4,I4,0,0,0⟩,none,0,0⟩).toArray 127)] [.blk b3 (.cells (cG ⟨(⟨kd,s,[],0,I4,I4,0,0,0⟩:H3),none,0,0⟩).toArray 127)] (.own (.slice none 0 0) 125 4 (([]:List P1).map enc)::D6 bp a n c k3 e.Line e.Col::S) [] [32,33,34] [] [[],[],[],[1],[1],[1],[],[0,1]] [[],[0],[],[1],[1],[1],[],[0,1]] (by rw[List.append_nil];exact hw.ps [2,3]) ?_
  repeat(first|refine mY ?_|refine mP ?_|refine U0 ?_|refine s8 ?_|refine S5 ?_)
  refine II (c:=1) (T:=Unit) (T':=Unit) (vs:=[.pointer (some ⟨bp,0,none⟩)]) (fun _=>.agg (enc o).toArray) (fun _=>D6 bp a n c k9 e.Line e.Col::.own (.slice none 0 0) 125 4 (([]:List P1).map enc)::S) (R:=fun _=>.own (.slice none 0 0) 125 4 (([]:List P1).map enc)::D6 bp a n c k3 e.Line e.Col::S) (fun _ Y w hw=>(CL hW hk9 hN ht (hw.ps [1]:Wd Γ (D6 bp a n c k3 e.Line e.Col::(.own (.slice none 0 0) 125 4 (([]:List P1).map enc)::(S++Y))) w)).mono fun r w h=>by rw[hO]at h;exact⟨(),h.1,h.2.2⟩) ?_
  refine FE (T:=Unit) (fun _=>[enc o]) ?_ ?_
  rotate_left
  ·intro t g h;have h2:g 32=.agg (enc o).toArray:=h
   show t6 _ _ [(0,g 32)]=_
   rw[h2];rfl
  refine MF (T:=Unit×Addr) (j:=2) (j2:=0) (fun t=>some t.2) (fun _=>[enc o]) ?_ ?_
  rotate_left
  ·intro t g h;exact h.2
  refine R1 ?_;refine He (T:=(Unit×Addr)×Value) (j:=2) (val:=fun t=>t.2) ?_ ?_
  rotate_left
  ·intro t g h;exact h.2
  refine MH fun t w g h hw=>?_
  obtain⟨⟨⟨⟩,aB⟩,vv⟩:=t;have hw:Wd Γ (.blk b3 (.cells #[.int .i64 kd,.string s,vv,.int .i64 0,.string F4,.int .i64 0,.int .i64 0,.string F4,.string F4,.int .i64 0,.int .i64 0,.string F4,.int .i64 0,.int .i64 0,.int .i64 0] 127)::.own (.slice (some aB) 1 1) 125 4 [enc o]::D6 bp a n c k9 e.Line e.Col::.own vv 125 4 (([]:List P1).map enc++[enc o])::(S++[.blk b2 (.cells (cG ⟨⟨0,F4,[],0,I4,I4,0,0,0⟩,none,0,0⟩).toArray 127)])) w:=hw
  obtain⟨A2,N2,C2,hvv,hN2,hNC2,hC2⟩:=hw.own_shape (i:=3) rfl
  rw[hvv]at hw;rw[show ([]:List P1).map enc++[enc o]=(([]:List P1)++[o]).map enc from by rw[List.map_append];rfl]at hw hN2
  have hw:Wd Γ (.blk b2 (.cells (cG ⟨⟨0,F4,[],0,I4,I4,0,0,0⟩,none,0,0⟩).toArray 127)::.blk b3 (.cells (cG ⟨(⟨kd,s,([]++[o]),0,I4,I4,0,0,0⟩:H3),A2,N2,C2⟩).toArray 127)::D6 bp a n c k9 e.Line e.Col::.own (.slice A2 N2 C2) 125 4 ((([]:List P1)++[o]).map enc)::S) w:=(hw.dropAt 1).perm K1
  have hw:Wd Γ (.own (.slice A2 N2 C2) 125 4 ((([]:List P1)++[o]).map enc)::D6 bp a n c k9 e.Line e.Col::.blk b3 (.cells (cG ⟨(⟨kd,s,([]++[o]),0,I4,I4,0,0,0⟩:H3),A2,N2,C2⟩).toArray 127)::.blk b2 (.cells (cG ⟨⟨0,F4,[],0,I4,I4,0,0,0⟩,none,0,0⟩).toArray 127)::S) w:=hw.ps [1,2,3]
  have hk9':k9≤n:=by rw[hn];exact YG hO
  simp only[O8]
  obtain⟨tot,htot⟩:∃t,t=EG toks e (toks.length+1) [o] k9:=⟨_,rfl⟩
  rw[←htot];have hw:Wd Γ (.own (.slice A2 N2 C2) 125 4 (([o]:List P1).map enc)::D6 bp a n c k9 e.Line e.Col::.blk b3 (.cells (cG ⟨⟨kd,s,[o],0,I4,I4,0,0,0⟩,A2,N2,C2⟩).toArray 127)::.blk b2 (.cells (cG ⟨⟨0,F4,[],0,I4,I4,0,0,0⟩,none,0,0⟩).toArray 127)::S) w:=hw
  refine A6 ?_;refine B5 (fun μ ρ w=>∃(f:Nat) (acc:List P1) (k:Nat) (A:Option Addr) (N C:Nat),EG toks e f acc k=tot∧μ=n-k∧k≤n∧n<f+k∧acc.length≤1+k∧Has ρ [(0,.pointer (some ⟨bp,0,none⟩)),(2,.pointer (some ⟨b2,0,none⟩)),(3,.pointer (some ⟨b3,0,none⟩))]∧Wd Γ (.own (.slice A N C) 125 4 ((acc:List P1).map enc)::D6 bp a n c k e.Line e.Col::.blk b3 (.cells (cG ⟨⟨kd,s,acc,0,I4,I4,0,0,0⟩,A,N,C⟩).toArray 127)::.blk b2 (.cells (cG ⟨⟨0,F4,[],0,I4,I4,0,0,0⟩,none,0,0⟩).toArray 127)::S) w) (n-k9) ⟨toks.length+1,[o],k9,A2,N2,C2,htot.symm,rfl,hk9',by omega,by simp,⟨rfl,rfl,rfl,trivial⟩,hw⟩ ?_
  clear hw hO hk9;rintro μ ρ w ⟨f,acc,k,A,N,C,hf,hμ,hkn,hfk,hal,hρ,hw⟩
  rw[hρ.eq];clear hρ;have hNl:N=acc.length:=by
   obtain⟨_,_,_,hE,h2,-,-⟩:=hw.own_shape (i:=0) rfl
   cases hE
   simpa using h2
  obtain⟨f',rfl⟩:∃f',f=f'+1:=⟨f-1,by omega⟩
  unfold EG at hf;refine A6 ?_;refine D3 (vs:=[.pointer (some ⟨bp,0,none⟩),.int .i64 4,.string V8]) ?_
  refine(Z4 (S:=.own (.slice A N C) 125 4 ((acc:List P1).map enc)::.blk b3 (.cells (cG ⟨⟨kd,s,acc,0,I4,I4,0,0,0⟩,A,N,C⟩).toArray 127)::.blk b2 (.cells (cG ⟨⟨0,F4,[],0,I4,I4,0,0,0⟩,none,0,0⟩).toArray 127)::S) 4 V8 hkn hN ht (hw.ps [1])).mono ?_
  clear hw;rintro r w ⟨rfl,hw⟩
  refine⟨_,rfl,?_⟩;cases hi:Q9 toks k 4 V8 with
  | true=>
   have hlt:=BM (by decide) hi
   rw[hi,if_pos rfl]at hw hf
   have hk9:k+1≤n:=by omega
   have hw:Wd Γ (.own (.slice A N C) 125 4 ((acc:List P1).map enc)::D6 bp a n c (k+1) e.Line e.Col::.blk b3 (.cells (cG ⟨⟨kd,s,acc,0,I4,I4,0,0,0⟩,A,N,C⟩).toArray 127)::.blk b2 (.cells (cG ⟨⟨0,F4,[],0,I4,I4,0,0,0⟩,none,0,0⟩).toArray 127)::S) w:=hw.ps [1]
   refine A6 ?_;refine A7 rfl (fun _=>?_) (fun h=>by cases h)
   refine A6 ?_;cases hO:Kz toks e (k+1) with
   | error q=>
    obtain⟨p,er⟩:=q;have htE:tot=.error (p,er):=by rw[←hf,hO];rfl
    rw[htE];simp only[O8]
    refine Ey (fun ch w=>ch=[Dp p er]∧∃k,Wd Γ (D6 bp a n c k e.Line e.Col::S) w) [.blk b2 (.cells (cG ⟨⟨0,F4,[],0,I4,I4,0,0,0⟩,none,0,0⟩).toArray 127)] [.blk b3 (.cells (cG ⟨(⟨kd,s,acc,0,I4,I4,0,0,0⟩:H3),A,N,C⟩).toArray 127)] (.own (.slice A N C) 125 4 ((acc:List P1).map enc)::D6 bp a n c (k+1) e.Line e.Col::S) [] [41,42,43] [] [[],[],[],[1],[1],[1],[],[0,1]] [[],[0],[],[1],[1],[1],[],[0,1]] (by rw[List.append_nil];exact hw.ps [2,3]) (fun ch ρ w ⟨h1,h2⟩=>by subst h1;exact⟨rfl,h2⟩) ?_
    refine eY ?_
    refine eY ?_
    refine eY ?_
    refine Lk (c:=1) (T:=Unit) (T':=Empty) (vs:=[.pointer (some ⟨bp,0,none⟩)]) (fun t=>t.elim) (fun t=>t.elim) (φ:=fun _ _=>True) (R:=fun _=>.own (.slice A N C) 125 4 ((acc:List P1).map enc)::D6 bp a n c (k+1) e.Line e.Col::S) (fun _ Y w hw=>(CL hW hk9 hN ht (hw.ps [1]:Wd Γ (D6 bp a n c (k+1) e.Line e.Col::(.own (.slice A N C) 125 4 ((acc:List P1).map enc)::(S++Y))) w)).mono fun r w h=>?_) ?_
    ·rw[hO]at h;obtain⟨rfl,k,hw⟩:=h;have hw:Wd Γ (D6 bp a n c k e.Line e.Col::(.own (.slice A N C) 125 4 ((acc:List P1).map enc)::(S++Y))) w:=hw
     exact⟨rfl,k,Wd.left (S:=D6 bp a n c k e.Line e.Col::S) (hw.dropAt 1)⟩
    refine Nw (c:=1) ?_
    refine Nw (c:=1) ?_
    refine eY ?_
    refine Nw (c:=1) ?_
    exact HZ (c:=1)
   | ok q=>
   obtain⟨o,k9⟩:=q;have hk9':k9≤n:=by rw[hn];exact YG hO
   have hk9l:=IC hO
   refine IA [.blk b2 (.cells (cG ⟨⟨0,F4,[],0,I4,I4,0,0,0⟩,none,0,0⟩).toArray 127)] [.blk b3 (.cells (cG ⟨(⟨kd,s,acc,0,I4,I4,0,0,0⟩:H3),A,N,C⟩).toArray 127)] (.own (.slice A N C) 125 4 ((acc:List P1).map enc)::D6 bp a n c (k+1) e.Line e.Col::S) [] [41,42,43] [] [[],[],[],[1],[1],[1],[],[0,1]] [[],[0],[],[1],[1],[1],[],[0,1]] (by rw[List.append_nil];exact hw.ps [2,3]) ?_
   repeat(first|refine mY ?_|refine mP ?_|refine U0 ?_|refine s8 ?_|refine S5 ?_)
   refine II (c:=1) (T:=Unit) (T':=Unit) (vs:=[.pointer (some ⟨bp,0,none⟩)]) (fun _=>.agg (enc o).toArray) (fun _=>D6 bp a n c k9 e.Line e.Col::.own (.slice A N C) 125 4 ((acc:List P1).map enc)::S) (R:=fun _=>.own (.slice A N C) 125 4 ((acc:List P1).map enc)::D6 bp a n c (k+1) e.Line e.Col::S) (fun _ Y w hw=>(CL hW hk9 hN ht (hw.ps [1]:Wd Γ (D6 bp a n c (k+1) e.Line e.Col::(.own (.slice A N C) 125 4 ((acc:List P1).map enc)::(S++Y))) w)).mono fun r w h=>by rw[hO]at h;exact⟨(),h.1,h.2.2⟩) ?_
   refine FE (T:=Unit) (fun _=>[enc o]) ?_ ?_
   rotate_left
   ·intro t g h;have h2:g 41=.agg (enc o).toArray:=h
    show t6 _ _ [(0,g 41)]=_
    rw[h2];rfl
   refine MF (T:=Unit×Addr) (j:=2) (j2:=0) (fun t=>some t.2) (fun _=>[enc o]) ?_ ?_
   rotate_left
   ·intro t g h;exact h.2
   refine R1 ?_;refine He (T:=(Unit×Addr)×Value) (j:=2) (val:=fun t=>t.2) ?_ ?_
   rotate_left
   ·intro t g h;exact h.2
   refine MH fun t w g h hw=>?_
   obtain⟨⟨⟨⟩,aB⟩,vv⟩:=t;have hw:Wd Γ (.blk b3 (.cells #[.int .i64 kd,.string s,vv,.int .i64 0,.string F4,.int .i64 0,.int .i64 0,.string F4,.string F4,.int .i64 0,.int .i64 0,.string F4,.int .i64 0,.int .i64 0,.int .i64 0] 127)::.own (.slice (some aB) 1 1) 125 4 [enc o]::D6 bp a n c k9 e.Line e.Col::.own vv 125 4 ((acc:List P1).map enc++[enc o])::(S++[.blk b2 (.cells (cG ⟨⟨0,F4,[],0,I4,I4,0,0,0⟩,none,0,0⟩).toArray 127)])) w:=hw
   obtain⟨A2,N2,C2,hvv,hN2,hNC2,hC2⟩:=hw.own_shape (i:=3) rfl
   rw[hvv]at hw;rw[show (acc:List P1).map enc++[enc o]=((acc:List P1)++[o]).map enc from by rw[List.map_append];rfl]at hw hN2
   have hw:Wd Γ (.blk b2 (.cells (cG ⟨⟨0,F4,[],0,I4,I4,0,0,0⟩,none,0,0⟩).toArray 127)::.blk b3 (.cells (cG ⟨(⟨kd,s,(acc++[o]),0,I4,I4,0,0,0⟩:H3),A2,N2,C2⟩).toArray 127)::D6 bp a n c k9 e.Line e.Col::.own (.slice A2 N2 C2) 125 4 (((acc:List P1)++[o]).map enc)::S) w:=(hw.dropAt 1).perm K1
   have hw:Wd Γ (.own (.slice A2 N2 C2) 125 4 (((acc:List P1)++[o]).map enc)::D6 bp a n c k9 e.Line e.Col::.blk b3 (.cells (cG ⟨(⟨kd,s,(acc++[o]),0,I4,I4,0,0,0⟩:H3),A2,N2,C2⟩).toArray 127)::.blk b2 (.cells (cG ⟨⟨0,F4,[],0,I4,I4,0,0,0⟩,none,0,0⟩).toArray 127)::S) w:=hw.ps [1,2,3]
   refine A6 ?_;exact⟨n-k9,by omega,f',acc++[o],k9,A2,N2,C2,by rw[←hf,hO];rfl,rfl,hk9',by omega,by rw[List.length_append];simp;omega,⟨rfl,rfl,rfl,trivial⟩,hw⟩
  | false=>
   rw[hi,if_neg (by decide)]at hw hf
   rw[←hf];simp only[O8]
   refine A6 ?_;refine A7 rfl (fun h=>by cases h) (fun _=>?_)
   refine A6 ?_;refine K4 (vs:=[.pointer (some ⟨bp,0,none⟩),.int .i64 4,.string Qi]) ?_
   refine(GX 4 Qi (by decide) hkn hN ht hw).mono ?_
   clear hw;rintro r w hr
   cases hE:Dt toks e 4 Qi k with
   | error q=>
    obtain⟨p,er⟩:=q;rw[hE]at hr;obtain⟨rfl,k,hw⟩:=hr;exact⟨rfl,k,((hw.dropAt 1).dropAt 1).dropAt 1⟩
   | ok q=>
   obtain⟨_,k5⟩:=q;rw[hE]at hr;obtain⟨rfl,hk5,hw⟩:=hr;show L _ _ _ _ _ _ _
   refine A6 ?_;refine B1 (i:=3) ?_
   intro w hw;have hw:Wd Γ (D6 bp a n c k5 e.Line e.Col::.own (.slice A N C) 125 4 ((acc:List P1).map enc)::.blk b3 (.cells (cG ⟨⟨kd,s,acc,0,I4,I4,0,0,0⟩,A,N,C⟩).toArray 127)::.blk b2 (.cells (cG ⟨⟨kd,s,acc,0,I4,I4,0,0,0⟩,A,N,C⟩).toArray 127)::S) w:=hw
   refine A6 ?_;exact⟨[.agg (cG ⟨⟨kd,s,acc,0,I4,I4,0,0,0⟩,A,N,C⟩).toArray],⟨T4 (i:=3) hw rfl rfl rfl,trivial⟩,(A,N,C),rfl,hk5,((hw.ps [1,1]).dropAt 2).dropAt 2 |>.ps [1]⟩
 ·have h:(Q9 toks at' 1 Ab||(decide ((Q0 toks at').Kind=1)&&Q9 toks (at'+1) 4 Az))=false:=h
  obtain⟨hi,hrel⟩:=Bool.or_eq_false_iff.1 h
  have hG:AL toks e at'=O8 (Kz toks e at') fun l k1=>if (Q0 toks at').Kind=1∧Q9 toks k1 1 Ny=true then Vy toks e l (k1+1) else Vb toks e l k1:=by
   unfold AL;rw[hi,if_neg (by decide),if_neg (fun⟨h1,h2⟩=>by rw[decide_eq_true h1,h2]at hrel;cases hrel)]
  rw[hG];rw[hi]at hw;have hw:Wd Γ (D6 bp a n c at' e.Line e.Col::.blk b3 (.cells (cG ⟨aP F4 [],none,0,0⟩).toArray 127)::.blk b2 (.cells (cG ⟨⟨0,F4,[],0,I4,I4,0,0,0⟩,none,0,0⟩).toArray 127)::S) w:=hw
  clear h hG hk1 hrel;refine A6 ?_;refine B1 (i:=1) ?_
  intro w hw;have hw:Wd Γ (D6 bp a n c at' e.Line e.Col::.blk b3 (.cells (cG ⟨⟨3,F4,[],0,I4,I4,0,0,0⟩,none,0,0⟩).toArray 127)::.blk b2 (.cells (cG ⟨⟨0,F4,[],0,I4,I4,0,0,0⟩,none,0,0⟩).toArray 127)::S) w:=hw
  refine A6 ?_;refine D3 (vs:=[.pointer (some ⟨bp,0,none⟩),.int .i64 0]) ?_
  refine(FG (j:=0) (by decide) hat hN ht hw).mono ?_
  clear hw;rintro r w ⟨rfl,hw⟩
  rw[Nat.add_zero];refine⟨_,rfl,?_⟩;refine A6 ?_;refine lY (v:=.int .i64 (Q0 toks at').Kind) ?_ (hy:=Pq Tryz.underlying178 rfl (by kernel_rfl) rfl rfl)
  refine A6 ?_;refine K4 (vs:=[.pointer (some ⟨bp,0,none⟩)]) ?_
  refine(CL hW hat hN ht hw).mono ?_
  clear hw;rintro r w hr
  cases hO:Kz toks e at' with
  | error q=>
   obtain⟨p,er⟩:=q;rw[hO]at hr;obtain⟨rfl,k,hw⟩:=hr;exact⟨rfl,k,(hw.dropAt 1).dropAt 1⟩
  | ok q=>
  obtain⟨l,k1⟩:=q;rw[hO]at hr;obtain⟨rfl,hk1,hw⟩:=hr;show L _ _ _ _ _ _ _
  simp only[O8]
  generalize hkk:(Q0 toks at').Kind=kk
  refine A6 ?_;refine B1 (i:=1) ?_
  intro w hw;have hw:Wd Γ (D6 bp a n c k1 e.Line e.Col::.blk b3 (.cells (cG ⟨⟨3,F4,[],0,l,I4,0,0,0⟩,none,0,0⟩).toArray 127)::.blk b2 (.cells (cG ⟨⟨0,F4,[],0,I4,I4,0,0,0⟩,none,0,0⟩).toArray 127)::S) w:=hw
  refine AM ?_
  refine Br ?_
  refine BW (fun ρ w=>Has ρ [(0,.pointer (some ⟨bp,0,none⟩)),(2,.pointer (some ⟨b2,0,none⟩)),(3,.pointer (some ⟨b3,0,none⟩)),(60,.bool (decide (kk=1)&&Q9 toks k1 1 Ny))]∧Wd Γ (D6 bp a n c (if kk=1∧Q9 toks k1 1 Ny=true then k1+1 else k1) e.Line e.Col::.blk b3 (.cells (cG ⟨⟨3,F4,[],0,l,I4,0,0,0⟩,none,0,0⟩).toArray 127)::.blk b2 (.cells (cG ⟨⟨0,F4,[],0,I4,I4,0,0,0⟩,none,0,0⟩).toArray 127)::S) w) ?_ ?_
  ·by_cases hk:kk=1
   ·refine A6 ?_;refine WP (hct:=decide_eq_true hk) ?_
    refine D3 (vs:=[.pointer (some ⟨bp,0,none⟩),.int .i64 1,.string Ny]) ?_ (ha:=EvL.cons (Kb (decide_eq_true hk)) (EvL.cons rfl (EvL.cons rfl EvL.nil)))
    refine(Z4 1 Ny hk1 hN ht hw).mono ?_
    clear hw;rintro r w ⟨rfl,hw⟩
    refine⟨_,rfl,?_⟩;have e1:(kk=1∧Q9 toks k1 1 Ny=true)=(Q9 toks k1 1 Ny=true):=by simp[hk]
    simp only[e1]
    generalize Q9 toks k1 1 Ny=bi at *
    rw[decide_eq_true hk];refine lY (v:=.bool bi) ?_ (hy:=FN rfl rfl)
    refine A6 ?_;exact⟨⟨rfl,rfl,rfl,rfl,trivial⟩,hw⟩
   ·refine A6 ?_;refine Tt (hct:=decide_eq_false hk) ?_
    refine lY (v:=.bool false) ?_ (hy:=Bc (congrArg Value.bool (decide_eq_false hk)) rfl)
    refine A6 ?_;rw[decide_eq_false hk,if_neg (fun h=>hk h.1)];exact⟨⟨rfl,rfl,rfl,rfl,trivial⟩,hw⟩
  clear hw;rintro ρ w ⟨hρ,hw⟩
  rw[hρ.eq];clear hρ;refine A7 rfl (fun h=>?_) (fun h=>?_)
  ·have h:(decide (kk=1)&&Q9 toks k1 1 Ny)=true:=h
   rw[Bool.and_eq_true,decide_eq_true_eq]at h;have hlt:=BM (by decide) h.2
   rw[if_pos h]at hw ⊢
   have hk2:k1+1≤n:=by omega
   clear h;unfold Vy;refine A6 ?_;refine B1 (i:=1) ?_
   intro w hw;have hw:Wd Γ (D6 bp a n c (k1+1) e.Line e.Col::.blk b3 (.cells (cG ⟨⟨4,F4,[],0,l,I4,0,0,0⟩,none,0,0⟩).toArray 127)::.blk b2 (.cells (cG ⟨⟨0,F4,[],0,I4,I4,0,0,0⟩,none,0,0⟩).toArray 127)::S) w:=hw
   refine A6 ?_;refine K4 (vs:=[.pointer (some ⟨bp,0,none⟩)]) ?_
   refine(KL hk2 hN ht hw).mono ?_
   clear hw;rintro r w hr
   cases hI:Gf toks e (k1+1) with
   | error q=>
    obtain⟨p,er⟩:=q;rw[hI]at hr;obtain⟨rfl,k,hw⟩:=hr;exact⟨rfl,k,(hw.dropAt 1).dropAt 1⟩
   | ok q=>
   obtain⟨lo,k3⟩:=q;rw[hI]at hr;obtain⟨rfl,hk3,hw⟩:=hr;show L _ _ _ _ _ _ _
   simp only[O8]
   refine A6 ?_;refine B1 (i:=1) ?_
   intro w hw;have hw:Wd Γ (D6 bp a n c k3 e.Line e.Col::.blk b3 (.cells (cG ⟨⟨4,F4,[],0,l,I4,0,lo,0⟩,none,0,0⟩).toArray 127)::.blk b2 (.cells (cG ⟨⟨0,F4,[],0,I4,I4,0,0,0⟩,none,0,0⟩).toArray 127)::S) w:=hw
   refine A6 ?_;refine K4 (vs:=[.pointer (some ⟨bp,0,none⟩),.int .i64 4,.string IS]) ?_
   refine(GX 4 IS (by decide) hk3 hN ht hw).mono ?_
   clear hw;rintro r w hr
   cases hE:Dt toks e 4 IS k3 with
   | error q=>
    obtain⟨p,er⟩:=q;rw[hE]at hr;obtain⟨rfl,k,hw⟩:=hr;exact⟨rfl,k,(hw.dropAt 1).dropAt 1⟩
   | ok q=>
   obtain⟨_,k4⟩:=q;rw[hE]at hr;obtain⟨rfl,hk4,hw⟩:=hr;show L _ _ _ _ _ _ _
   simp only[O8]
   refine A6 ?_;refine K4 (vs:=[.pointer (some ⟨bp,0,none⟩)]) ?_
   refine(KL hk4 hN ht hw).mono ?_
   clear hw;rintro r w hr
   cases hI2:Gf toks e k4 with
   | error q=>
    obtain⟨p,er⟩:=q;rw[hI2]at hr;obtain⟨rfl,k,hw⟩:=hr;exact⟨rfl,k,(hw.dropAt 1).dropAt 1⟩
   | ok q=>
   obtain⟨hi',k5⟩:=q;rw[hI2]at hr;obtain⟨rfl,hk5,hw⟩:=hr;show L _ _ _ _ _ _ _
   simp only[O8]
   refine A6 ?_;refine B1 (i:=1) ?_
   intro w hw;have hw:Wd Γ (D6 bp a n c k5 e.Line e.Col::.blk b3 (.cells (cG ⟨⟨4,F4,[],0,l,I4,0,lo,hi'⟩,none,0,0⟩).toArray 127)::.blk b2 (.cells (cG ⟨⟨0,F4,[],0,I4,I4,0,0,0⟩,none,0,0⟩).toArray 127)::S) w:=hw
   refine A6 ?_;refine B1 (i:=2) ?_
   intro w hw;have hw:Wd Γ (D6 bp a n c k5 e.Line e.Col::.blk b3 (.cells (cG ⟨⟨4,F4,[],0,l,I4,0,lo,hi'⟩,none,0,0⟩).toArray 127)::.blk b2 (.cells (cG ⟨⟨4,F4,[],0,l,I4,0,lo,hi'⟩,none,0,0⟩).toArray 127)::S) w:=hw
   refine A6 ?_;exact⟨[.agg (cG ⟨⟨4,F4,[],0,l,I4,0,lo,hi'⟩,none,0,0⟩).toArray],⟨T4 (i:=2) hw rfl rfl rfl,trivial⟩,(none,0,0),rfl,hk5,Wd.addNil ((hw.dropAt 1).dropAt 1)⟩
  ·have h:(decide (kk=1)&&Q9 toks k1 1 Ny)=false:=h
   have hni:¬(kk=1∧Q9 toks k1 1 Ny=true):=fun⟨h1,h2⟩=>by rw[decide_eq_true h1,h2]at h;cases h
   rw[if_neg hni]at hw ⊢
   clear h hni;unfold Vb;refine A6 ?_;refine D3 (vs:=[]) ?_
   refine(Ky hw).mono ?_
   clear hw;rintro r w ⟨q,rfl,hw⟩
   refine⟨_,rfl,?_⟩;refine A6 ?_;refine B5 (fun μ ρ w=>∃(j:Nat),μ+j=7∧Has ρ [(0,.pointer (some ⟨bp,0,none⟩)),(2,.pointer (some ⟨b2,0,none⟩)),(3,.pointer (some ⟨b3,0,none⟩)),(71,.slice (some q) 7 7),(72,.int .i64 7),(73,.int .i64 j)]∧Wd Γ (.own (.slice (some q) 7 7) 9 1 (Bs.map fun s=>[.string s])::D6 bp a n c (if Jh toks k1 j≠0 then k1+1 else k1) e.Line e.Col::.blk b3 (.cells (cG ⟨⟨3,F4,[],(Jh toks k1 j:Nat),l,I4,0,0,0⟩,none,0,0⟩).toArray 127)::.blk b2 (.cells (cG ⟨⟨0,F4,[],0,I4,I4,0,0,0⟩,none,0,0⟩).toArray 127)::S) w) 7 ⟨0,by omega,⟨rfl,rfl,rfl,rfl,rfl,rfl,trivial⟩,hw⟩ ?_
   clear hw;rintro μ ρ w ⟨j,hj,hρ,hw⟩
   rw[hρ.eq];clear hρ;have hd:=P6.own (i:=0) hw rfl
   refine A6 ?_;refine A7 rfl (fun h=>?_) (fun h=>?_)
   ·have hj7:j<7:=by have:=of_decide_eq_true h;omega
    clear h;obtain⟨s,hs⟩:=B4 (l:=Bs) (k:=j) (by show j<7;omega)
    have hsd:Bs.getD j F4=s:=by rw[List.getD_eq_getElem?_getD,hs];rfl
    have hup:Jh toks k1 (j+1)=if Jh toks k1 j≠0 then Jh toks k1 j else if 0<j∧Q9 toks k1 4 s=true then j else 0:=by rw[←hsd];rfl
    generalize Jh toks k1 j=u at *
    refine A6 ?_;by_cases hc:0<j∧u=0
    ·have hkc:(decide ((0:Int)<(j:Int))&&decide ((u:Int)=0))=true:=by rw[decide_eq_true (by omega),decide_eq_true (by omega)];rfl
     obtain⟨hj0,rfl⟩:=hc;have hw:Wd Γ (.own (.slice (some q) 7 7) 9 1 (Bs.map fun s=>[.string s])::D6 bp a n c k1 e.Line e.Col::.blk b3 (.cells (cG ⟨⟨3,F4,[],((0:Nat):Int),l,I4,0,0,0⟩,none,0,0⟩).toArray 127)::.blk b2 (.cells (cG ⟨⟨0,F4,[],0,I4,I4,0,0,0⟩,none,0,0⟩).toArray 127)::S) w:=hw
     have hw:=hw.ps [1]
     refine WP (hct:=hkc) ?_
     refine D3 (vs:=[.pointer (some ⟨bp,0,none⟩),.int .i64 4,.string s]) ?_ (ha:=EvL.cons (Kb hkc) (EvL.cons rfl (EvL.cons (Kb hkc) EvL.nil)))
     refine(Z4 (S:=.own (.slice (some q) 7 7) 9 1 (Bs.map fun s=>[.string s])::.blk b3 (.cells (cG ⟨⟨3,F4,[],((0:Nat):Int),l,I4,0,0,0⟩,none,0,0⟩).toArray 127)::.blk b2 (.cells (cG ⟨⟨0,F4,[],0,I4,I4,0,0,0⟩,none,0,0⟩).toArray 127)::S) 4 s hk1 hN ht hw).mono ?_
     clear hw;rintro r w ⟨rfl,hw⟩
     refine⟨_,rfl,?_⟩;rw[if_neg (by omega)]at hup
     cases hbi:Q9 toks k1 4 s with
     | true=>
      rw[hbi,if_pos rfl]at hw;rw[if_pos ⟨hj0,hbi⟩]at hup;refine lY (v:=.bool true) ?_ (hy:=FN (congrArg Value.bool hkc) rfl)
      refine A6 ?_;refine A7 rfl (fun _=>?_) (fun h=>by cases h)
      refine A6 ?_;refine B1 (i:=2) ?_
      intro w hw;have hw:Wd Γ (D6 bp a n c (k1+1) e.Line e.Col::.own (.slice (some q) 7 7) 9 1 (Bs.map fun s=>[.string s])::.blk b3 (.cells (cG ⟨⟨3,F4,[],(j:Int),l,I4,0,0,0⟩,none,0,0⟩).toArray 127)::.blk b2 (.cells (cG ⟨⟨0,F4,[],0,I4,I4,0,0,0⟩,none,0,0⟩).toArray 127)::S) w:=hw
      refine A6 ?_;exact⟨μ-1,by omega,j+1,by omega,⟨rfl,rfl,rfl,rfl,rfl,rfl,trivial⟩,by rw[hup,if_pos (by omega)];exact hw.ps [1]⟩
     | false=>
      rw[hbi,if_neg (by decide)]at hw
      rw[if_neg (fun h=>by rw[hbi]at h;cases h.2)]at hup
      refine lY (v:=.bool false) ?_ (hy:=FN (congrArg Value.bool hkc) rfl)
      refine A6 ?_;refine A7 rfl (fun h=>by cases h) (fun _=>?_)
      refine A6 ?_;exact⟨μ-1,by omega,j+1,by omega,⟨rfl,rfl,rfl,rfl,rfl,rfl,trivial⟩,by rw[hup,if_neg (by omega)];exact hw.ps [1]⟩
    ·have hkc:(decide ((0:Int)<(j:Int))&&decide ((u:Int)=0))=false:=by
      by_cases h1:0<j
      ·rw[decide_eq_false (show ¬((u:Int)=0) from fun h=>hc ⟨h1,by omega⟩),Bool.and_false]
      ·rw[decide_eq_false (show ¬((0:Int)<(j:Int)) by omega),Bool.false_and]
     have hup2:Jh toks k1 (j+1)=u:=by
      rw[hup];by_cases hu:u≠0
      ·rw[if_pos hu]
      ·rw[if_neg hu,if_neg (fun h=>hc ⟨h.1,by omega⟩)];omega
     refine Tt (hct:=hkc) ?_
     refine lY (v:=.bool false) ?_ (hy:=Bc (congrArg Value.bool hkc) rfl)
     refine A6 ?_;refine A7 rfl (fun h=>by cases h) (fun _=>?_)
     refine A6 ?_;exact⟨μ-1,by omega,j+1,by omega,⟨rfl,rfl,rfl,rfl,rfl,rfl,trivial⟩,by rw[hup2];exact hw⟩
   ·have hj7:j=7:=by have:=of_decide_eq_false h;omega
    clear h hd;subst hj7;rw[Zp]at hw;have hol:=ai (toks:=toks) (k:=k1)
    generalize opAt toks k1=u at *
    have hw:=hw.drop
    refine A6 ?_;refine A7 rfl (fun h=>?_) (fun h=>?_)
    ·have h:u=0:=by
      have h2:(u:Int)=0:=of_decide_eq_true h
      omega
     subst h;rw[if_pos rfl];have hw:Wd Γ (D6 bp a n c k1 e.Line e.Col::.blk b3 (.cells (cG ⟨⟨3,F4,[],((0:Nat):Int),l,I4,0,0,0⟩,none,0,0⟩).toArray 127)::.blk b2 (.cells (cG ⟨⟨0,F4,[],0,I4,I4,0,0,0⟩,none,0,0⟩).toArray 127)::S) w:=hw
     refine A6 ?_;refine K4 ?_
     refine(EN 50 ht hw).mono ?_
     rintro r w ⟨rfl,hw⟩
     exact⟨rfl,k1,(hw.dropAt 1).dropAt 1⟩
    have hu:u≠0:=by
     have h2:¬(u:Int)=0:=of_decide_eq_false h
     omega
    clear h;rw[if_pos hu]at hw;rw[if_neg hu];have hk2:k1+1≤n:=by have:=hol hu;omega
    have hw:Wd Γ (D6 bp a n c (k1+1) e.Line e.Col::.blk b3 (.cells (cG ⟨⟨3,F4,[],(u:Int),l,I4,0,0,0⟩,none,0,0⟩).toArray 127)::.blk b2 (.cells (cG ⟨⟨0,F4,[],0,I4,I4,0,0,0⟩,none,0,0⟩).toArray 127)::S) w:=hw
    refine A6 ?_;refine K4 (vs:=[.pointer (some ⟨bp,0,none⟩)]) ?_
    refine(CL hW hk2 hN ht hw).mono ?_
    clear hw;rintro r w hr
    cases hR:Kz toks e (k1+1) with
    | error q=>
     obtain⟨p,er⟩:=q;rw[hR]at hr;obtain⟨rfl,k,hw⟩:=hr;exact⟨rfl,k,(hw.dropAt 1).dropAt 1⟩
    | ok q=>
    obtain⟨rr,k3⟩:=q;rw[hR]at hr;obtain⟨rfl,hk3,hw⟩:=hr;show L _ _ _ _ _ _ _
    simp only[O8]
    refine A6 ?_;refine B1 (i:=1) ?_
    intro w hw;have hw:Wd Γ (D6 bp a n c k3 e.Line e.Col::.blk b3 (.cells (cG ⟨⟨3,F4,[],(u:Int),l,rr,0,0,0⟩,none,0,0⟩).toArray 127)::.blk b2 (.cells (cG ⟨⟨0,F4,[],0,I4,I4,0,0,0⟩,none,0,0⟩).toArray 127)::S) w:=hw
    unfold Vh;refine A6 ?_;refine D3 (vs:=[.pointer (some ⟨bp,0,none⟩),.int .i64 4,.string LV]) ?_
    refine(Z4 4 LV hk3 hN ht hw).mono ?_
    clear hw;rintro r w ⟨rfl,hw⟩
    refine⟨_,rfl,?_⟩;cases hp:Q9 toks k3 4 LV with
    | true=>
     have hlt:=BM (by decide) hp
     rw[hp,if_pos rfl]at hw;rw[if_pos rfl];refine A6 ?_;refine A7 rfl (fun _=>?_) (fun h=>by cases h)
     refine A6 ?_;refine K4 (vs:=[.pointer (some ⟨bp,0,none⟩),.int .u64 9223372036854775807]) ?_
     refine(JI (at':=k3+1) 9223372036854775807 (by omega) hN ht hw).mono ?_
     clear hw;rintro r w hr
     cases hN2:Dq toks e 9223372036854775807 (k3+1) with
     | error q=>
      obtain⟨p,er⟩:=q;rw[hN2]at hr;obtain⟨rfl,k,hw⟩:=hr;exact⟨rfl,k,(hw.dropAt 1).dropAt 1⟩
     | ok q=>
     obtain⟨x,k4⟩:=q;rw[hN2]at hr;obtain⟨rfl,hk4,hw⟩:=hr;show L _ _ _ _ _ _ _
     simp only[Nv]
     refine A6 ?_;refine B1 (i:=1) ?_
     intro w hw;have hw:Wd Γ (D6 bp a n c k4 e.Line e.Col::.blk b3 (.cells (cG ⟨⟨3,F4,[],(u:Int),l,rr,(IntKind.i64.wrap x),0,0⟩,none,0,0⟩).toArray 127)::.blk b2 (.cells (cG ⟨⟨0,F4,[],0,I4,I4,0,0,0⟩,none,0,0⟩).toArray 127)::S) w:=hw
     refine A6 ?_;refine B1 (i:=2) ?_
     intro w hw;have hw:Wd Γ (D6 bp a n c k4 e.Line e.Col::.blk b3 (.cells (cG ⟨⟨3,F4,[],(u:Int),l,rr,(IntKind.i64.wrap x),0,0⟩,none,0,0⟩).toArray 127)::.blk b2 (.cells (cG ⟨⟨3,F4,[],(u:Int),l,rr,(IntKind.i64.wrap x),0,0⟩,none,0,0⟩).toArray 127)::S) w:=hw
     refine A6 ?_;exact⟨[.agg (cG ⟨⟨3,F4,[],(u:Int),l,rr,(IntKind.i64.wrap x),0,0⟩,none,0,0⟩).toArray],⟨T4 (i:=2) hw rfl rfl rfl,trivial⟩,(none,0,0),rfl,hk4,Wd.addNil ((hw.dropAt 1).dropAt 1)⟩
    | false=>
     rw[hp,if_neg (by decide)]at hw
     rw[if_neg (by decide)]
     refine A6 ?_;refine A7 rfl (fun h=>by cases h) (fun _=>?_)
     refine A6 ?_;refine D3 (vs:=[.pointer (some ⟨bp,0,none⟩),.int .i64 4,.string EW]) ?_
     refine(Z4 4 EW hk3 hN ht hw).mono ?_
     clear hw;rintro r w ⟨rfl,hw⟩
     refine⟨_,rfl,?_⟩;cases hm:Q9 toks k3 4 EW with
     | true=>
      have hlt:=BM (by decide) hm
      rw[hm,if_pos rfl]at hw;rw[if_pos rfl];refine A6 ?_;refine A7 rfl (fun _=>?_) (fun h=>by cases h)
      refine A6 ?_;refine K4 (vs:=[.pointer (some ⟨bp,0,none⟩),.int .u64 9223372036854775807]) ?_
      refine(JI (at':=k3+1) 9223372036854775807 (by omega) hN ht hw).mono ?_
      clear hw;rintro r w hr
      cases hN2:Dq toks e 9223372036854775807 (k3+1) with
      | error q=>
       obtain⟨p,er⟩:=q;rw[hN2]at hr;obtain⟨rfl,k,hw⟩:=hr;exact⟨rfl,k,(hw.dropAt 1).dropAt 1⟩
      | ok q=>
      obtain⟨x,k4⟩:=q;rw[hN2]at hr;obtain⟨rfl,hk4,hw⟩:=hr;show L _ _ _ _ _ _ _
      simp only[Nv]
      refine A6 ?_;refine lY (v:=.int .i64 (IntKind.i64.wrap (-(IntKind.i64.wrap x)))) ?_ (hy:=Xv rfl)
      refine A6 ?_;refine B1 (i:=1) ?_
      intro w hw;have hw:Wd Γ (D6 bp a n c k4 e.Line e.Col::.blk b3 (.cells (cG ⟨⟨3,F4,[],(u:Int),l,rr,(IntKind.i64.wrap (-(IntKind.i64.wrap x))),0,0⟩,none,0,0⟩).toArray 127)::.blk b2 (.cells (cG ⟨⟨0,F4,[],0,I4,I4,0,0,0⟩,none,0,0⟩).toArray 127)::S) w:=hw
      refine A6 ?_;refine B1 (i:=2) ?_
      intro w hw;have hw:Wd Γ (D6 bp a n c k4 e.Line e.Col::.blk b3 (.cells (cG ⟨⟨3,F4,[],(u:Int),l,rr,(IntKind.i64.wrap (-(IntKind.i64.wrap x))),0,0⟩,none,0,0⟩).toArray 127)::.blk b2 (.cells (cG ⟨⟨3,F4,[],(u:Int),l,rr,(IntKind.i64.wrap (-(IntKind.i64.wrap x))),0,0⟩,none,0,0⟩).toArray 127)::S) w:=hw
      refine A6 ?_;exact⟨[.agg (cG ⟨⟨3,F4,[],(u:Int),l,rr,(IntKind.i64.wrap (-(IntKind.i64.wrap x))),0,0⟩,none,0,0⟩).toArray],⟨T4 (i:=2) hw rfl rfl rfl,trivial⟩,(none,0,0),rfl,hk4,Wd.addNil ((hw.dropAt 1).dropAt 1)⟩
     | false=>
      rw[hm,if_neg (by decide)]at hw
      rw[if_neg (by decide)]
      refine A6 ?_;refine A7 rfl (fun h=>by cases h) (fun _=>?_)
      refine A6 ?_;refine B1 (i:=2) ?_
      intro w hw;have hw:Wd Γ (D6 bp a n c k3 e.Line e.Col::.blk b3 (.cells (cG ⟨⟨3,F4,[],(u:Int),l,rr,0,0,0⟩,none,0,0⟩).toArray 127)::.blk b2 (.cells (cG ⟨⟨3,F4,[],(u:Int),l,rr,0,0,0⟩,none,0,0⟩).toArray 127)::S) w:=hw
      refine A6 ?_;exact⟨[.agg (cG ⟨⟨3,F4,[],(u:Int),l,rr,0,0,0⟩,none,0,0⟩).toArray],⟨T4 (i:=2) hw rfl rfl rfl,trivial⟩,(none,0,0),rfl,hk3,Wd.addNil ((hw.dropAt 1).dropAt 1)⟩
end
end Go.Proofs.YtlimglpjpcfpdaaGreat
end
section
open Go Mk
namespace Go.Proofs.YtlimglpjpcfpdaaGreat
set_option maxHeartbeats 16000000
attribute [local irreducible] Calls cI cB
def Mp:ByteArray:=⟨#[115,101,108,101,99,116]⟩
def O7:ByteArray:=⟨#[119,104,101,114,101]⟩
section
variable {Γ:C8}{S:List B2}{w:World}{bp:Nat}{a:Option Addr}{n c:Nat}{e1 e2:Int}{toks:List Tok}
end
end Go.Proofs.YtlimglpjpcfpdaaGreat
end
section
open Go Mk
namespace Go.Proofs.YtlimglpjpcfpdaaGreat
set_option maxHeartbeats 32000000
def EC(toks:List Tok)(e:F2):Nat→List ByteArray→Nat→PR (List ByteArray)
 | 0,acc,k=>.ok (acc,k)
 | f+1,acc,k=>if Q9 toks k 4 V8=true then O8 (z8 toks e (k+1)) fun s k1=>EC toks e f (acc++[s]) k1 else .ok (acc,k)
def ZY(toks:List Tok)(e:F2)(k:Nat):PR (List ByteArray):=
 if Q9 toks k 1 O7=true then .ok ([],k) else O8 (z8 toks e k) fun s k1=>EC toks e (toks.length+1) [s] k1
def Ee(toks:List Tok)(e:F2):Nat→List H3→Nat→PR (List H3)
 | 0,acc,k=>.ok (acc,k)
 | f+1,acc,k=>if Q9 toks k 4 V8=true then O8 (AL toks e (k+1)) fun g k1=>Ee toks e f (acc++[g]) k1 else .ok (acc,k)
def ZL(toks:List Tok)(e:F2)(sel:List ByteArray)(k:Nat):PR G4:=
 O8 (Dt toks e 1 O7 k) fun _ k3=>O8 (AL toks e k3) fun g k4=>O8 (Ee toks e (toks.length+1) [g] k4) fun gs k5=>
  if k5<toks.length then .error (S4 toks k5 e,50) else .ok (⟨sel,gs⟩,k5)
def EQ(toks:List Tok)(e:F2)(k:Nat):PR G4:=
 O8 (Dt toks e 1 Mp k) fun _ k1=>O8 (ZY toks e k1) fun sel k2=>ZL toks e sel k2
def aJ(Γ:C8)(S:List B2)(bp:Nat)(a:Option Addr)(n c:Nat)(e:F2):PR G4→Ending→World→Prop
 | .ok (q,_),r,w=>∃Γ' vs vg gs,Γ.le Γ'∧r=.returned (.agg #[vs,vg])∧QR Γ' vs vg gs q∧Wd Γ' S w
 | .error (p,er),r,w=>∃Γ' k,Γ.le Γ'∧r=.panicked [Dp p er]∧Wd Γ' (D6 bp a n c k e.Line e.Col::S) w
section
variable {Γ:C8}{S:List B2}{w:World}{bp:Nat}{a:Option Addr}{n c at':Nat}{e:F2}{toks:List Tok}
theorem I9{α β:Type}{x:α}{k:Nat}{f:α→Nat→PR β}:O8 (.ok (x,k)) f=f x k:=rfl
theorem GT{α β:Type}{q:F2×Int}{f:α→Nat→PR β}:O8 (.error q) f=.error q:=rfl
theorem V1{α β:Type}{x:PR α}{f:α→Nat→PR β}{y:β×Nat}(h:O8 x f=.ok y):∃a k,x=.ok (a,k)∧f a k=.ok y:=by
 cases x with
 | error q=>cases h
 | ok q=>exact⟨q.1,q.2,rfl,h⟩
theorem NX{kind:Int}{text:ByteArray}{k k':Nat}{u:Unit}(h:Dt toks e kind text k=.ok (u,k')):k'=k+1:=by
 unfold Dt at h;split at h
 ·cases h;rfl
 ·cases h
theorem Tl{k k':Nat}{v:Int}(h:Gf toks e k=.ok (v,k')):k<k':=by
 unfold Gf at h;split at h
 ·obtain⟨z2,hz2,-⟩:=f8 h
  have:=DY hz2
  omega
 ·obtain⟨z2,hz2,-⟩:=f8 h
  have:=DY hz2
  omega
theorem Qo:∀(f:Nat) {acc os:List P1} {k k':Nat},EG toks e f acc k=.ok (os,k')→k≤k'
 | 0,acc,os,k,k',h=>by unfold EG at h;cases h;exact Nat.le_refl _
 | f+1,acc,os,k,k',h=>by
  unfold EG at h;split at h
  ·obtain⟨o,k1,h1,h2⟩:=V1 h
   have:=IC h1
   have:=Qo f h2
   omega
  ·cases h;exact Nat.le_refl _
theorem cr{k k':Nat}{v:Int}(h:Vh toks e k=.ok (v,k')):k≤k':=by
 unfold Vh at h;split at h
 ·obtain⟨z2,hz2,-⟩:=f8 h
  have:=DY hz2
  omega
 ·split at h
  ·obtain⟨z2,hz2,-⟩:=f8 h
   have:=DY hz2
   omega
  ·cases h;exact Nat.le_refl _
theorem Ss{kind:Int}{k k':Nat}{g:H3}(h:Nf toks e kind k=.ok (g,k')):k<k':=by
 unfold Nf at h;obtain⟨_,_,h1,h⟩:=V1 h
 obtain⟨_,_,h2,h⟩:=V1 h
 obtain⟨_,_,h3,h⟩:=V1 h
 obtain⟨_,_,h4,h⟩:=V1 h
 obtain⟨_,_,h5,h⟩:=V1 h
 cases h
 have:=EH h1
 have:=NX h2
 have:=IC h3
 have:=Qo _ h4
 have:=NX h5
 omega
theorem YJ{k k':Nat}{g:H3}(h:AL toks e k=.ok (g,k')):k<k':=by
 unfold AL at h;split at h
 ·have:=Ss h;omega
 ·split at h
  ·exact Ss h
  ·obtain⟨l,k1,h1,h⟩:=V1 h
   have:=IC h1
   split at h
   ·unfold Vy at h;obtain⟨_,_,h1,h⟩:=V1 h
    obtain⟨_,_,h2,h⟩:=V1 h
    obtain⟨_,_,h3,h⟩:=V1 h
    cases h
    have:=Tl h1
    have:=NX h2
    have:=Tl h3
    omega
   ·unfold Vb at h;split at h
    ·cases h
    ·obtain⟨_,_,h2,h⟩:=V1 h
     obtain⟨_,_,h3,h⟩:=V1 h
     cases h
     have:=IC h2
     have:=cr h3
     omega
theorem OX{k k':Nat}{s:ByteArray}(h:z8 toks e k=.ok (s,k')):k'≤toks.length:=by
 have h1:=EH h
 unfold z8 at h;split at h
 ·rename_i hk
  have:=Cy (toks:=toks) (at':=k) (by omega)
  omega
 ·cases h
theorem eQ(hW:JL toks)(hat:at'≤n)(hN:toks.length≤1000000)(ht:D9 Γ (.slice a n c) 5 (toks.map enc))(hw:Wd Γ (D6 bp a n c at' e.Line e.Col::S) w) :
  Calls Tryz.prog 42 #[.pointer (some ⟨bp,0,none⟩)] w (aJ Γ S bp a n c e (EQ toks e at')):=by
 have hn:n=toks.length:=by obtain⟨_,_,_,h1,h2,h3⟩:=ht.shape;cases h1;simpa using h2
 refine K9 Tryz.func42 rfl rfl ?_
 refine A6 ?_;refine C0 ?_;intro b2 w hw;refine A6 ?_;refine C0 ?_;intro b3 w hw;have hw:Wd Γ (D6 bp a n c at' e.Line e.Col::.blk b3 (.cells #[.slice none 0 0,.slice none 0 0] 26)::.blk b2 (.cells #[.slice none 0 0,.slice none 0 0] 26)::S) w:=hw.ps [2]
 unfold EQ;refine A6 ?_;refine K4 (vs:=[.pointer (some ⟨bp,0,none⟩),.int .i64 1,.string Mp]) ?_
 refine(GX 1 Mp (by decide) hat hN ht hw).mono ?_
 clear hw;rintro r w hr
 cases hE:Dt toks e 1 Mp at' with
 | error q=>
  obtain⟨p,er⟩:=q;rw[hE]at hr;obtain⟨rfl,k,hw⟩:=hr;exact⟨Γ,k,C8.le.refl _,rfl,(hw.dropAt 1).dropAt 1⟩
 | ok q=>
 obtain⟨_,k1⟩:=q;rw[hE]at hr;obtain⟨rfl,hk1,hw⟩:=hr;show L _ _ _ _ _ _ _
 rw[I9];clear hE hat;refine AM ?_
 refine BW (fun ρ w=>∃(sel:List ByteArray) (k:Nat) (sa:Option Addr) (sn sc:Nat),ZY toks e k1=.ok (sel,k)∧k≤n∧Has ρ [(0,.pointer (some ⟨bp,0,none⟩)),(2,.pointer (some ⟨b2,0,none⟩)),(3,.pointer (some ⟨b3,0,none⟩))]∧Wd Γ (D6 bp a n c k e.Line e.Col::.blk b3 (.cells #[.slice sa sn sc,.slice none 0 0] 26)::.blk b2 (.cells #[.slice none 0 0,.slice none 0 0] 26)::.own (.slice sa sn sc) 9 1 (B7 sel)::S) w) ?_ ?_
 ·refine A6 ?_;refine D3 (vs:=[.pointer (some ⟨bp,0,none⟩),.int .i64 0,.int .i64 1,.string O7]) ?_
  refine(eR (j:=0) (by decide) 1 O7 hk1 hN ht hw).mono ?_
  clear hw;rintro r w ⟨rfl,hw⟩
  rw[Nat.add_zero];refine⟨_,rfl,?_⟩;unfold ZY;generalize Q9 toks k1 1 O7=bi at *
  refine A6 ?_;cases bi with
  | true=>
   refine A7 rfl (fun h=>by cases h) (fun _=>?_)
   refine A6 ?_;have hw:=Wd.addNil (a:=none) (E:=9) (sz:=1) hw
   exact⟨[],k1,none,0,0,by rw[if_pos rfl],hk1,⟨rfl,rfl,rfl,trivial⟩,hw.ps [3,3,3]⟩
  | false=>
   refine A7 rfl (fun _=>?_) (fun h=>by cases h)
   rw[if_neg (by decide)]
   have hw:=Wd.addNil (a:=none) (E:=9) (sz:=1) hw
   have hw:Wd Γ (.own (.slice none 0 0) 9 1 (B7 [])::D6 bp a n c k1 e.Line e.Col::.blk b3 (.cells #[.slice none 0 0,.slice none 0 0] 26)::.blk b2 (.cells #[.slice none 0 0,.slice none 0 0] 26)::S) w:=hw
   refine A6 ?_;have hk9:k1≤n:=hk1
   cases hO:z8 toks e k1 with
   | error q=>
    obtain⟨p,er⟩:=q;rw[GT,GT];refine Ey (fun ch w=>ch=[Dp p er]∧∃k,Wd Γ (D6 bp a n c k e.Line e.Col::S) w) [.blk b2 (.cells #[.slice none 0 0,.slice none 0 0] 26)] [.blk b3 (.cells #[.slice none 0 0,.slice none 0 0] 26)] (.own (.slice none 0 0) 9 1 (B7 [])::D6 bp a n c k1 e.Line e.Col::S) [] [12,13,14] [] [[],[],[],[1],[1],[1],[],[0,1]] [[],[0],[],[1],[1],[1],[],[0,1]] (by rw[List.append_nil];exact hw.ps [2,3]) (fun ch ρ w ⟨h1,k,h2⟩=>by subst h1;exact⟨Γ,k,C8.le.refl _,rfl,h2⟩) ?_
    refine eY ?_
    refine eY ?_
    refine eY ?_
    refine Lk (c:=1) (T:=Unit) (T':=Empty) (vs:=[.pointer (some ⟨bp,0,none⟩)]) (fun t=>t.elim) (fun t=>t.elim) (φ:=fun _ _=>True) (R:=fun _=>.own (.slice none 0 0) 9 1 (B7 [])::D6 bp a n c k1 e.Line e.Col::S) (fun _ Y w hw=>(MO hk9 hN ht (hw.ps [1]:Wd Γ (D6 bp a n c k1 e.Line e.Col::(.own (.slice none 0 0) 9 1 (B7 [])::(S++Y))) w)).mono fun r w h=>?_) ?_
    ·rw[hO]at h;obtain⟨rfl,k,hw⟩:=h;have hw:Wd Γ (D6 bp a n c k e.Line e.Col::(.own (.slice none 0 0) 9 1 (B7 [])::(S++Y))) w:=hw
     exact⟨rfl,k,Wd.left (S:=D6 bp a n c k e.Line e.Col::S) (hw.dropAt 1)⟩
    refine Nw (c:=1) ?_
    refine Nw (c:=1) ?_
    refine eY ?_
    refine Nw (c:=1) ?_
    exact HZ (c:=1)
   | ok q=>
   obtain⟨s,k9⟩:=q;rw[I9];refine IA [.blk b2 (.cells #[.slice none 0 0,.slice none 0 0] 26)] [.blk b3 (.cells #[.slice none 0 0,.slice none 0 0] 26)] (.own (.slice none 0 0) 9 1 (B7 [])::D6 bp a n c k1 e.Line e.Col::S) [] [12,13,14] [] [[],[],[],[1],[1],[1],[],[0,1]] [[],[0],[],[1],[1],[1],[],[0,1]] (by rw[List.append_nil];exact hw.ps [2,3]) ?_
   repeat(first|refine mY ?_|refine mP ?_|refine U0 ?_|refine s8 ?_|refine S5 ?_)
   refine II (c:=1) (T:=Unit) (T':=Unit) (vs:=[.pointer (some ⟨bp,0,none⟩)]) (fun _=>.string s) (fun _=>D6 bp a n c k9 e.Line e.Col::.own (.slice none 0 0) 9 1 (B7 [])::S) (R:=fun _=>.own (.slice none 0 0) 9 1 (B7 [])::D6 bp a n c k1 e.Line e.Col::S) (fun _ Y w hw=>(MO hk9 hN ht (hw.ps [1]:Wd Γ (D6 bp a n c k1 e.Line e.Col::(.own (.slice none 0 0) 9 1 (B7 [])::(S++Y))) w)).mono fun r w h=>by rw[hO]at h;exact⟨(),h.1,h.2.2⟩) ?_
   refine FE (T:=Unit) (fun _=>[[.string s]]) ?_ ?_
   rotate_left
   ·intro t g h;have h2:g 12=.string s:=h
    show t6 _ _ [(0,g 12)]=_
    rw[h2];rfl
   refine MF (T:=Unit×Addr) (j:=2) (j2:=0) (fun t=>some t.2) (fun _=>[[.string s]]) ?_ ?_
   rotate_left
   ·intro t g h;exact h.2
   refine R1 ?_;refine He (T:=(Unit×Addr)×Value) (j:=2) (val:=fun t=>t.2) ?_ ?_
   rotate_left
   ·intro t g h;exact h.2
   refine MH fun t w g h hw=>?_
   obtain⟨⟨⟨⟩,aB⟩,vv⟩:=t;have hw:Wd Γ (.blk b3 (.cells #[vv,.slice none 0 0] 26)::.own (.slice (some aB) 1 1) 9 1 [[.string s]]::D6 bp a n c k9 e.Line e.Col::.own vv 9 1 (B7 []++[[.string s]])::(S++[.blk b2 (.cells #[.slice none 0 0,.slice none 0 0] 26)])) w:=hw
   obtain⟨A2,N2,C2,hvv,hN2,hNC2,hC2⟩:=hw.own_shape (i:=3) rfl
   rw[hvv]at hw;rw[show B7 []++[[.string s]]=B7 ([]++[s]) from by unfold B7;rw[List.map_append];rfl]at hw hN2
   have hw:Wd Γ (.own (.slice A2 N2 C2) 9 1 (B7 ([]++[s]))::D6 bp a n c k9 e.Line e.Col::.blk b3 (.cells #[.slice A2 N2 C2,.slice none 0 0] 26)::.blk b2 (.cells #[.slice none 0 0,.slice none 0 0] 26)::S) w:=(hw.dropAt 1).perm K1
   have hk9':k9≤n:=by rw[hn];exact OX hO
   obtain⟨tot,htot⟩:∃t,t=EC toks e (toks.length+1) [s] k9:=⟨_,rfl⟩
   rw[←htot];have hw:Wd Γ (.own (.slice A2 N2 C2) 9 1 (B7 [s])::D6 bp a n c k9 e.Line e.Col::.blk b3 (.cells #[.slice A2 N2 C2,.slice none 0 0] 26)::.blk b2 (.cells #[.slice none 0 0,.slice none 0 0] 26)::S) w:=hw
   refine A6 ?_;refine B5 (fun μ ρ w=>∃(f:Nat) (acc:List ByteArray) (k:Nat) (A:Option Addr) (N C:Nat),EC toks e f acc k=tot∧μ=n-k∧k≤n∧n<f+k∧acc.length≤1+k∧Has ρ [(0,.pointer (some ⟨bp,0,none⟩)),(2,.pointer (some ⟨b2,0,none⟩)),(3,.pointer (some ⟨b3,0,none⟩))]∧Wd Γ (.own (.slice A N C) 9 1 (B7 acc)::D6 bp a n c k e.Line e.Col::.blk b3 (.cells #[.slice A N C,.slice none 0 0] 26)::.blk b2 (.cells #[.slice none 0 0,.slice none 0 0] 26)::S) w) (n-k9) ⟨toks.length+1,[s],k9,A2,N2,C2,htot.symm,rfl,hk9',by omega,by simp,⟨rfl,rfl,rfl,trivial⟩,hw⟩ ?_
   clear hw hO hk9;rintro μ ρ w ⟨f,acc,k,A,N,C,hf,hμ,hkn,hfk,hal,hρ,hw⟩
   rw[hρ.eq];clear hρ;have hNl:N=acc.length:=by
    obtain⟨_,_,_,hE,h2,-,-⟩:=hw.own_shape (i:=0) rfl
    cases hE
    simpa[B7] using h2
   obtain⟨f',rfl⟩:∃f',f=f'+1:=⟨f-1,by omega⟩
   unfold EC at hf;refine A6 ?_;refine D3 (vs:=[.pointer (some ⟨bp,0,none⟩),.int .i64 4,.string V8]) ?_
   refine(Z4 (S:=.own (.slice A N C) 9 1 (B7 acc)::.blk b3 (.cells #[.slice A N C,.slice none 0 0] 26)::.blk b2 (.cells #[.slice none 0 0,.slice none 0 0] 26)::S) 4 V8 hkn hN ht (hw.ps [1])).mono ?_
   clear hw;rintro r w ⟨rfl,hw⟩
   refine⟨_,rfl,?_⟩;cases hi:Q9 toks k 4 V8 with
   | true=>
    have hlt:=BM (by decide) hi
    rw[hi,if_pos rfl]at hw hf
    have hk9:k+1≤n:=by omega
    have hw:Wd Γ (.own (.slice A N C) 9 1 (B7 acc)::D6 bp a n c (k+1) e.Line e.Col::.blk b3 (.cells #[.slice A N C,.slice none 0 0] 26)::.blk b2 (.cells #[.slice none 0 0,.slice none 0 0] 26)::S) w:=hw.ps [1]
    refine A6 ?_;refine A7 rfl (fun _=>?_) (fun h=>by cases h)
    refine A6 ?_;cases hO:z8 toks e (k+1) with
    | error q=>
     obtain⟨p,er⟩:=q;have htE:tot=.error (p,er):=by rw[←hf,hO];rfl
     rw[htE,GT];refine Ey (fun ch w=>ch=[Dp p er]∧∃k,Wd Γ (D6 bp a n c k e.Line e.Col::S) w) [.blk b2 (.cells #[.slice none 0 0,.slice none 0 0] 26)] [.blk b3 (.cells #[.slice A N C,.slice none 0 0] 26)] (.own (.slice A N C) 9 1 (B7 acc)::D6 bp a n c (k+1) e.Line e.Col::S) [] [21,22,23] [] [[],[],[],[1],[1],[1],[],[0,1]] [[],[0],[],[1],[1],[1],[],[0,1]] (by rw[List.append_nil];exact hw.ps [2,3]) (fun ch ρ w ⟨h1,k,h2⟩=>by subst h1;exact⟨Γ,k,C8.le.refl _,rfl,h2⟩) ?_
     refine eY ?_
     refine eY ?_
     refine eY ?_
     refine Lk (c:=1) (T:=Unit) (T':=Empty) (vs:=[.pointer (some ⟨bp,0,none⟩)]) (fun t=>t.elim) (fun t=>t.elim) (φ:=fun _ _=>True) (R:=fun _=>.own (.slice A N C) 9 1 (B7 acc)::D6 bp a n c (k+1) e.Line e.Col::S) (fun _ Y w hw=>(MO hk9 hN ht (hw.ps [1]:Wd Γ (D6 bp a n c (k+1) e.Line e.Col::(.own (.slice A N C) 9 1 (B7 acc)::(S++Y))) w)).mono fun r w h=>?_) ?_
     ·rw[hO]at h;obtain⟨rfl,k,hw⟩:=h;have hw:Wd Γ (D6 bp a n c k e.Line e.Col::(.own (.slice A N C) 9 1 (B7 acc)::(S++Y))) w:=hw
      exact⟨rfl,k,Wd.left (S:=D6 bp a n c k e.Line e.Col::S) (hw.dropAt 1)⟩
     refine Nw (c:=1) ?_
     refine Nw (c:=1) ?_
     refine eY ?_
     refine Nw (c:=1) ?_
     exact HZ (c:=1)
    | ok q=>
    obtain⟨s,k9⟩:=q;have hk9':k9≤n:=by rw[hn];exact OX hO
    have hk9l:=EH hO
    refine IA [.blk b2 (.cells #[.slice none 0 0,.slice none 0 0] 26)] [.blk b3 (.cells #[.slice A N C,.slice none 0 0] 26)] (.own (.slice A N C) 9 1 (B7 acc)::D6 bp a n c (k+1) e.Line e.Col::S) [] [21,22,23] [] [[],[],[],[1],[1],[1],[],[0,1]] [[],[0],[],[1],[1],[1],[],[0,1]] (by rw[List.append_nil];exact hw.ps [2,3]) ?_
    repeat(first|refine mY ?_|refine mP ?_|refine U0 ?_|refine s8 ?_|refine S5 ?_)
    refine II (c:=1) (T:=Unit) (T':=Unit) (vs:=[.pointer (some ⟨bp,0,none⟩)]) (fun _=>.string s) (fun _=>D6 bp a n c k9 e.Line e.Col::.own (.slice A N C) 9 1 (B7 acc)::S) (R:=fun _=>.own (.slice A N C) 9 1 (B7 acc)::D6 bp a n c (k+1) e.Line e.Col::S) (fun _ Y w hw=>(MO hk9 hN ht (hw.ps [1]:Wd Γ (D6 bp a n c (k+1) e.Line e.Col::(.own (.slice A N C) 9 1 (B7 acc)::(S++Y))) w)).mono fun r w h=>by rw[hO]at h;exact⟨(),h.1,h.2.2⟩) ?_
    refine FE (T:=Unit) (fun _=>[[.string s]]) ?_ ?_
    rotate_left
    ·intro t g h;have h2:g 21=.string s:=h
     show t6 _ _ [(0,g 21)]=_
     rw[h2];rfl
    refine MF (T:=Unit×Addr) (j:=2) (j2:=0) (fun t=>some t.2) (fun _=>[[.string s]]) ?_ ?_
    rotate_left
    ·intro t g h;exact h.2
    refine R1 ?_;refine He (T:=(Unit×Addr)×Value) (j:=2) (val:=fun t=>t.2) ?_ ?_
    rotate_left
    ·intro t g h;exact h.2
    refine MH fun t w g h hw=>?_
    obtain⟨⟨⟨⟩,aB⟩,vv⟩:=t;have hw:Wd Γ (.blk b3 (.cells #[vv,.slice none 0 0] 26)::.own (.slice (some aB) 1 1) 9 1 [[.string s]]::D6 bp a n c k9 e.Line e.Col::.own vv 9 1 (B7 acc++[[.string s]])::(S++[.blk b2 (.cells #[.slice none 0 0,.slice none 0 0] 26)])) w:=hw
    obtain⟨A2,N2,C2,hvv,hN2,hNC2,hC2⟩:=hw.own_shape (i:=3) rfl
    rw[hvv]at hw;rw[show B7 acc++[[.string s]]=B7 (acc++[s]) from by unfold B7;rw[List.map_append];rfl]at hw hN2
    have hw:Wd Γ (.own (.slice A2 N2 C2) 9 1 (B7 (acc++[s]))::D6 bp a n c k9 e.Line e.Col::.blk b3 (.cells #[.slice A2 N2 C2,.slice none 0 0] 26)::.blk b2 (.cells #[.slice none 0 0,.slice none 0 0] 26)::S) w:=(hw.dropAt 1).perm K1
    refine A6 ?_;exact⟨n-k9,by omega,f',acc++[s],k9,A2,N2,C2,by rw[←hf,hO];rfl,rfl,hk9',by omega,by rw[List.length_append];simp;omega,⟨rfl,rfl,rfl,trivial⟩,hw⟩
   | false=>
    rw[hi,if_neg (by decide)]at hw hf
    refine A6 ?_;refine A7 rfl (fun h=>by cases h) (fun _=>?_)
    refine A6 ?_;exact⟨acc,k,A,N,C,hf.symm,hkn,⟨rfl,rfl,rfl,trivial⟩,hw.ps [3,3,2]⟩
 clear hw hk1;rintro ρ w ⟨sel,k2,sa,sn,sc,hsel,hk2,hρ,hw⟩
 rw[hρ.eq];clear hρ;rw[hsel,I9];obtain⟨_,_,_,hE,hsn,hsc,hscc⟩:=hw.own_shape (i:=3) rfl
 cases hE
 clear hsel;unfold ZL;refine A6 ?_;refine K4 (vs:=[.pointer (some ⟨bp,0,none⟩),.int .i64 1,.string O7]) ?_
 refine(GX 1 O7 (by decide) hk2 hN ht hw).mono ?_
 clear hw;rintro r w hr
 cases hE:Dt toks e 1 O7 k2 with
 | error q=>
  obtain⟨p,er⟩:=q;rw[hE]at hr;obtain⟨rfl,k,hw⟩:=hr;exact⟨Γ,k,C8.le.refl _,rfl,((hw.dropAt 1).dropAt 1).dropAt 1⟩
 | ok q=>
 obtain⟨_,k3⟩:=q;rw[hE]at hr;obtain⟨rfl,hk9,hw⟩:=hr;show L _ _ _ _ _ _ _
 rw[I9];clear hE hk2;have hw:=Wd.addNil (a:=none) (E:=127) (sz:=15) hw
 obtain⟨gs,hgs⟩:∃gs:List N6,gs=[]:=⟨_,rfl⟩
 obtain⟨ga,gn,gc,hga,hgn,hgc⟩:∃(ga:Option Addr) (gn gc:Nat),ga=none∧gn=0∧gc=0:=⟨_,_,_,rfl,rfl,rfl⟩
 have hw:Wd Γ (.own (.slice ga gn gc) 127 15 (gs.map cG)::D6 bp a n c k3 e.Line e.Col::.blk b3 (.cells #[.slice sa sn sc,.slice ga gn gc] 26)::.blk b2 (.cells #[.slice none 0 0,.slice none 0 0] 26)::.own (.slice sa sn sc) 9 1 (B7 sel)::S) w:=by
  rw[hga,hgn,hgc,hgs];exact hw
 have hgl:gn=gs.length:=by rw[hgs,hgn];rfl
 have hok:∀x∈gs,WL Γ x:=fun x hx=>by rw[hgs]at hx;cases hx
 obtain⟨Γ1,hΓ1⟩:∃Γ1,Γ1=Γ:=⟨_,rfl⟩
 rw[←hΓ1]at hw hok
 have ht1:D9 Γ1 (.slice a n c) 5 (toks.map enc):=by rw[hΓ1];exact ht
 have hle1:Γ.le Γ1:=by rw[hΓ1];exact C8.le.refl _
 have hgl0:gn=0:=hgn
 clear hga hgn hgc hΓ1;refine AM ?_
 refine A6 ?_;cases hO:AL toks e k3 with
 | error q=>
  obtain⟨p,er⟩:=q;rw[GT];refine Ey (fun ch w=>ch=[Dp p er]∧∃k,Wd Γ1 (D6 bp a n c k e.Line e.Col::S) w) [.blk b2 (.cells #[.slice none 0 0,.slice none 0 0] 26)] [.blk b3 (.cells #[.slice sa sn sc,.slice ga gn gc] 26)] (.own (.slice ga gn gc) 127 15 (gs.map cG)::D6 bp a n c k3 e.Line e.Col::.own (.slice sa sn sc) 9 1 (B7 sel)::S) [] [30,31,32] [] [[],[],[],[1],[1],[1],[],[0,1]] [[],[0],[],[1],[1],[1],[],[0,1]] (by rw[List.append_nil];exact hw.ps [2,3]) (fun ch ρ w ⟨h1,k,h2⟩=>by subst h1;exact⟨Γ1,k,hle1,rfl,h2⟩) ?_
  refine eY ?_
  refine eY ?_
  refine eY ?_
  refine Lk (c:=1) (T:=Unit) (T':=Empty) (vs:=[.pointer (some ⟨bp,0,none⟩)]) (fun t=>t.elim) (fun t=>t.elim) (φ:=fun _ _=>True) (R:=fun _=>.own (.slice ga gn gc) 127 15 (gs.map cG)::D6 bp a n c k3 e.Line e.Col::.own (.slice sa sn sc) 9 1 (B7 sel)::S) (fun _ Y w hw=>(UV hW hk9 hN ht1 (hw.ps [1]:Wd Γ1 (D6 bp a n c k3 e.Line e.Col::(.own (.slice ga gn gc) 127 15 (gs.map cG)::.own (.slice sa sn sc) 9 1 (B7 sel)::(S++Y))) w)).mono fun r w h=>?_) ?_
  ·rw[hO]at h;obtain⟨rfl,k,hw⟩:=h;have hw:Wd Γ1 (D6 bp a n c k e.Line e.Col::(.own (.slice ga gn gc) 127 15 (gs.map cG)::.own (.slice sa sn sc) 9 1 (B7 sel)::(S++Y))) w:=hw
   exact⟨rfl,k,Wd.left (S:=D6 bp a n c k e.Line e.Col::S) ((hw.dropAt 1).dropAt 1)⟩
  refine Nw (c:=1) ?_
  refine Nw (c:=1) ?_
  refine eY ?_
  refine Nw (c:=1) ?_
  exact HZ (c:=1)
 | ok q=>
 obtain⟨g,k9⟩:=q;rw[I9];refine IA [.blk b2 (.cells #[.slice none 0 0,.slice none 0 0] 26)] [.blk b3 (.cells #[.slice sa sn sc,.slice ga gn gc] 26)] (.own (.slice ga gn gc) 127 15 (gs.map cG)::D6 bp a n c k3 e.Line e.Col::.own (.slice sa sn sc) 9 1 (B7 sel)::S) [] [30,31,32] [] [[],[],[],[1],[1],[1],[],[0,1]] [[],[0],[],[1],[1],[1],[],[0,1]] (by rw[List.append_nil];exact hw.ps [2,3]) ?_
 repeat(first|refine mY ?_|refine mP ?_|refine U0 ?_|refine s8 ?_|refine S5 ?_)
 refine II (c:=1) (T:=Unit) (T':={v:WO // k9≤n}) (vs:=[.pointer (some ⟨bp,0,none⟩)]) (fun v=>.agg (cG ⟨g,v.1.1,v.1.2.1,v.1.2.2⟩).toArray) (fun v=>.own (En v.1) 125 4 (g.Args.map enc)::D6 bp a n c k9 e.Line e.Col::.own (.slice ga gn gc) 127 15 (gs.map cG)::.own (.slice sa sn sc) 9 1 (B7 sel)::S) (R:=fun _=>.own (.slice ga gn gc) 127 15 (gs.map cG)::D6 bp a n c k3 e.Line e.Col::.own (.slice sa sn sc) 9 1 (B7 sel)::S) (fun _ Y w hw=>(UV hW hk9 hN ht1 (hw.ps [1]:Wd Γ1 (D6 bp a n c k3 e.Line e.Col::(.own (.slice ga gn gc) 127 15 (gs.map cG)::.own (.slice sa sn sc) 9 1 (B7 sel)::(S++Y))) w)).mono fun r w h=>by rw[hO]at h;obtain⟨v,h1,h2,h3⟩:=h;exact⟨⟨v,h2⟩,h1,h3⟩) ?_
 refine FE (T:={v:WO // k9≤n}) (fun v=>[cG ⟨g,v.1.1,v.1.2.1,v.1.2.2⟩]) ?_ ?_
 rotate_left
 ·intro t gg h;have h2:gg 30=.agg (cG ⟨g,t.1.1,t.1.2.1,t.1.2.2⟩).toArray:=h
  show t6 _ _ [(0,gg 30)]=_
  rw[h2];rfl
 refine MF (T:={v:WO // k9≤n} × Addr) (j:=3) (j2:=0) (fun t=>some t.2) (fun t=>[cG ⟨g,t.1.1.1,t.1.1.2.1,t.1.1.2.2⟩]) ?_ ?_
 rotate_left
 ·intro t g h;exact h.2
 refine R1 ?_;refine He (T:=({v:WO // k9≤n} × Addr)×Value) (j:=3) (val:=fun t=>t.2) ?_ ?_
 rotate_left
 ·intro t g h;exact h.2
 refine MH fun t w g' h hw=>?_
 obtain⟨⟨⟨⟨Ax,Nx,Cx⟩,hk9'⟩,aB⟩,vv⟩:=t;have hw:Wd Γ1 (.blk b3 (.cells #[.slice sa sn sc,vv] 26)::.own (.slice (some aB) 1 1) 127 15 [cG ⟨g,Ax,Nx,Cx⟩]::.own (.slice Ax Nx Cx) 125 4 (g.Args.map enc)::D6 bp a n c k9 e.Line e.Col::.own vv 127 15 (gs.map cG++[cG ⟨g,Ax,Nx,Cx⟩])::.own (.slice sa sn sc) 9 1 (B7 sel)::(S++[.blk b2 (.cells #[.slice none 0 0,.slice none 0 0] 26)])) w:=hw
 obtain⟨A2,N2,C2,hvv,hN2,hNC2,hC2⟩:=hw.own_shape (i:=4) rfl
 rw[hvv]at hw;obtain⟨Γ2,hle2,hfo,hw⟩:=Wd.freeze (hw.ps [2]:Wd Γ1 (.own (.slice Ax Nx Cx) 125 4 (g.Args.map enc)::.blk b3 (.cells #[.slice sa sn sc,.slice A2 N2 C2] 26)::.own (.slice (some aB) 1 1) 127 15 [cG ⟨g,Ax,Nx,Cx⟩]::D6 bp a n c k9 e.Line e.Col::.own (.slice A2 N2 C2) 127 15 (gs.map cG++[cG ⟨g,Ax,Nx,Cx⟩])::.own (.slice sa sn sc) 9 1 (B7 sel)::(S++[.blk b2 (.cells #[.slice none 0 0,.slice none 0 0] 26)])) w)
 have hw:Wd Γ2 (.own (.slice A2 N2 C2) 127 15 ((gs++[(⟨g,Ax,Nx,Cx⟩:N6)]).map cG)::D6 bp a n c k9 e.Line e.Col::.blk b3 (.cells #[.slice sa sn sc,.slice A2 N2 C2] 26)::.blk b2 (.cells #[.slice none 0 0,.slice none 0 0] 26)::.own (.slice sa sn sc) 9 1 (B7 sel)::S) w:=by
  rw[List.map_append];exact(hw.dropAt 1).perm K1
 have hok2:∀x∈gs++[(⟨g,Ax,Nx,Cx⟩:N6)],WL Γ2 x:=fun x hx=>by
  rcases List.mem_append.1 hx with hx|hx
  ·exact(hok x hx).mono hle2
  ·rw[List.mem_singleton.1 hx];exact hfo
 obtain⟨tot,htot⟩:∃t,t=Ee toks e (toks.length+1) [g] k9:=⟨_,rfl⟩
 rw[←htot];have hgs2:(gs++[(⟨g,Ax,Nx,Cx⟩:N6)]).map (·.g)=[g]:=by rw[hgs];rfl
 refine A6 ?_;refine B5 (fun μ ρ w=>∃(f:Nat) (acc:List H3) (k:Nat) (Γ1:C8) (ga:Option Addr) (gn gc:Nat) (gs:List N6),Ee toks e f acc k=tot∧μ=n-k∧k≤n∧n<f+k∧acc.length≤1+k∧Γ.le Γ1∧gs.map (·.g)=acc∧(∀x∈gs,WL Γ1 x)∧Has ρ [(0,.pointer (some ⟨bp,0,none⟩)),(2,.pointer (some ⟨b2,0,none⟩)),(3,.pointer (some ⟨b3,0,none⟩))]∧Wd Γ1 (.own (.slice ga gn gc) 127 15 (gs.map cG)::D6 bp a n c k e.Line e.Col::.blk b3 (.cells #[.slice sa sn sc,.slice ga gn gc] 26)::.blk b2 (.cells #[.slice none 0 0,.slice none 0 0] 26)::.own (.slice sa sn sc) 9 1 (B7 sel)::S) w) (n-k9) ⟨toks.length+1,[g],k9,Γ2,A2,N2,C2,_,htot.symm,rfl,hk9',by omega,by simp,hle1.trans hle2,hgs2,hok2,⟨rfl,rfl,rfl,trivial⟩,hw⟩ ?_
 clear hw hgs hok hgl hgl0 ht1 hle1 hle2 hfo hgs2 hok2 hN2 hNC2 hC2 hk9 hO;rintro μ ρ w ⟨f,acc,k,Γ1,ga,gn,gc,gs,hf,hμ,hkn,hfk,hal,hle1,hgs,hok,hρ,hw⟩
 rw[hρ.eq];clear hρ;have ht1:=ht.mono hle1
 have hgl:gs.length=acc.length:=by rw[←hgs,List.length_map]
 have hgb:gn=gs.length:=by obtain⟨_,_,_,h1,h2,_⟩:=hw.own_shape (i:=0) rfl;cases h1;simpa using h2
 obtain⟨f',rfl⟩:∃f',f=f'+1:=⟨f-1,by omega⟩
 unfold Ee at hf;refine A6 ?_;refine D3 (vs:=[.pointer (some ⟨bp,0,none⟩),.int .i64 4,.string V8]) ?_
 refine(Z4 4 V8 hkn hN ht1 (hw.ps [1])).mono ?_
 clear hw;rintro r w ⟨rfl,hw⟩
 refine⟨_,rfl,?_⟩;cases hi:Q9 toks k 4 V8 with
 | true=>
  have hlt:=BM (by decide) hi
  rw[hi,if_pos rfl]at hw hf
  have hk9:k+1≤n:=by omega
  have hw:Wd Γ1 (.own (.slice ga gn gc) 127 15 (gs.map cG)::D6 bp a n c (k+1) e.Line e.Col::.blk b3 (.cells #[.slice sa sn sc,.slice ga gn gc] 26)::.blk b2 (.cells #[.slice none 0 0,.slice none 0 0] 26)::.own (.slice sa sn sc) 9 1 (B7 sel)::S) w:=hw.ps [1]
  refine A6 ?_;refine A7 rfl (fun _=>?_) (fun h=>by cases h)
  refine A6 ?_;cases hO:AL toks e (k+1) with
  | error q=>
   obtain⟨p,er⟩:=q;have htE:tot=.error (p,er):=by rw[←hf,hO];rfl
   rw[htE,GT];refine Ey (fun ch w=>ch=[Dp p er]∧∃k,Wd Γ1 (D6 bp a n c k e.Line e.Col::S) w) [.blk b2 (.cells #[.slice none 0 0,.slice none 0 0] 26)] [.blk b3 (.cells #[.slice sa sn sc,.slice ga gn gc] 26)] (.own (.slice ga gn gc) 127 15 (gs.map cG)::D6 bp a n c (k+1) e.Line e.Col::.own (.slice sa sn sc) 9 1 (B7 sel)::S) [] [39,40,41] [] [[],[],[],[1],[1],[1],[],[0,1]] [[],[0],[],[1],[1],[1],[],[0,1]] (by rw[List.append_nil];exact hw.ps [2,3]) (fun ch ρ w ⟨h1,k,h2⟩=>by subst h1;exact⟨Γ1,k,hle1,rfl,h2⟩) ?_
   refine eY ?_
   refine eY ?_
   refine eY ?_
   refine Lk (c:=1) (T:=Unit) (T':=Empty) (vs:=[.pointer (some ⟨bp,0,none⟩)]) (fun t=>t.elim) (fun t=>t.elim) (φ:=fun _ _=>True) (R:=fun _=>.own (.slice ga gn gc) 127 15 (gs.map cG)::D6 bp a n c (k+1) e.Line e.Col::.own (.slice sa sn sc) 9 1 (B7 sel)::S) (fun _ Y w hw=>(UV hW hk9 hN ht1 (hw.ps [1]:Wd Γ1 (D6 bp a n c (k+1) e.Line e.Col::(.own (.slice ga gn gc) 127 15 (gs.map cG)::.own (.slice sa sn sc) 9 1 (B7 sel)::(S++Y))) w)).mono fun r w h=>?_) ?_
   ·rw[hO]at h;obtain⟨rfl,k,hw⟩:=h;have hw:Wd Γ1 (D6 bp a n c k e.Line e.Col::(.own (.slice ga gn gc) 127 15 (gs.map cG)::.own (.slice sa sn sc) 9 1 (B7 sel)::(S++Y))) w:=hw
    exact⟨rfl,k,Wd.left (S:=D6 bp a n c k e.Line e.Col::S) ((hw.dropAt 1).dropAt 1)⟩
   refine Nw (c:=1) ?_
   refine Nw (c:=1) ?_
   refine eY ?_
   refine Nw (c:=1) ?_
   exact HZ (c:=1)
  | ok q=>
  obtain⟨g,k9⟩:=q;have hk9l:=YJ hO
  refine IA [.blk b2 (.cells #[.slice none 0 0,.slice none 0 0] 26)] [.blk b3 (.cells #[.slice sa sn sc,.slice ga gn gc] 26)] (.own (.slice ga gn gc) 127 15 (gs.map cG)::D6 bp a n c (k+1) e.Line e.Col::.own (.slice sa sn sc) 9 1 (B7 sel)::S) [] [39,40,41] [] [[],[],[],[1],[1],[1],[],[0,1]] [[],[0],[],[1],[1],[1],[],[0,1]] (by rw[List.append_nil];exact hw.ps [2,3]) ?_
  repeat(first|refine mY ?_|refine mP ?_|refine U0 ?_|refine s8 ?_|refine S5 ?_)
  refine II (c:=1) (T:=Unit) (T':={v:WO // k9≤n}) (vs:=[.pointer (some ⟨bp,0,none⟩)]) (fun v=>.agg (cG ⟨g,v.1.1,v.1.2.1,v.1.2.2⟩).toArray) (fun v=>.own (En v.1) 125 4 (g.Args.map enc)::D6 bp a n c k9 e.Line e.Col::.own (.slice ga gn gc) 127 15 (gs.map cG)::.own (.slice sa sn sc) 9 1 (B7 sel)::S) (R:=fun _=>.own (.slice ga gn gc) 127 15 (gs.map cG)::D6 bp a n c (k+1) e.Line e.Col::.own (.slice sa sn sc) 9 1 (B7 sel)::S) (fun _ Y w hw=>(UV hW hk9 hN ht1 (hw.ps [1]:Wd Γ1 (D6 bp a n c (k+1) e.Line e.Col::(.own (.slice ga gn gc) 127 15 (gs.map cG)::.own (.slice sa sn sc) 9 1 (B7 sel)::(S++Y))) w)).mono fun r w h=>by rw[hO]at h;obtain⟨v,h1,h2,h3⟩:=h;exact⟨⟨v,h2⟩,h1,h3⟩) ?_
  refine FE (T:={v:WO // k9≤n}) (fun v=>[cG ⟨g,v.1.1,v.1.2.1,v.1.2.2⟩]) ?_ ?_
  rotate_left
  ·intro t gg h;have h2:gg 39=.agg (cG ⟨g,t.1.1,t.1.2.1,t.1.2.2⟩).toArray:=h
   show t6 _ _ [(0,gg 39)]=_
   rw[h2];rfl
  refine MF (T:={v:WO // k9≤n} × Addr) (j:=3) (j2:=0) (fun t=>some t.2) (fun t=>[cG ⟨g,t.1.1.1,t.1.1.2.1,t.1.1.2.2⟩]) ?_ ?_
  rotate_left
  ·intro t g h;exact h.2
  refine R1 ?_;refine He (T:=({v:WO // k9≤n} × Addr)×Value) (j:=3) (val:=fun t=>t.2) ?_ ?_
  rotate_left
  ·intro t g h;exact h.2
  refine MH fun t w g' h hw=>?_
  obtain⟨⟨⟨⟨Ax,Nx,Cx⟩,hk9'⟩,aB⟩,vv⟩:=t;have hw:Wd Γ1 (.blk b3 (.cells #[.slice sa sn sc,vv] 26)::.own (.slice (some aB) 1 1) 127 15 [cG ⟨g,Ax,Nx,Cx⟩]::.own (.slice Ax Nx Cx) 125 4 (g.Args.map enc)::D6 bp a n c k9 e.Line e.Col::.own vv 127 15 (gs.map cG++[cG ⟨g,Ax,Nx,Cx⟩])::.own (.slice sa sn sc) 9 1 (B7 sel)::(S++[.blk b2 (.cells #[.slice none 0 0,.slice none 0 0] 26)])) w:=hw
  obtain⟨A2,N2,C2,hvv,hN2,hNC2,hC2⟩:=hw.own_shape (i:=4) rfl
  rw[hvv]at hw;obtain⟨Γ2,hle2,hfo,hw⟩:=Wd.freeze (hw.ps [2]:Wd Γ1 (.own (.slice Ax Nx Cx) 125 4 (g.Args.map enc)::.blk b3 (.cells #[.slice sa sn sc,.slice A2 N2 C2] 26)::.own (.slice (some aB) 1 1) 127 15 [cG ⟨g,Ax,Nx,Cx⟩]::D6 bp a n c k9 e.Line e.Col::.own (.slice A2 N2 C2) 127 15 (gs.map cG++[cG ⟨g,Ax,Nx,Cx⟩])::.own (.slice sa sn sc) 9 1 (B7 sel)::(S++[.blk b2 (.cells #[.slice none 0 0,.slice none 0 0] 26)])) w)
  have hw:Wd Γ2 (.own (.slice A2 N2 C2) 127 15 ((gs++[(⟨g,Ax,Nx,Cx⟩:N6)]).map cG)::D6 bp a n c k9 e.Line e.Col::.blk b3 (.cells #[.slice sa sn sc,.slice A2 N2 C2] 26)::.blk b2 (.cells #[.slice none 0 0,.slice none 0 0] 26)::.own (.slice sa sn sc) 9 1 (B7 sel)::S) w:=by
   rw[List.map_append];exact(hw.dropAt 1).perm K1
  have hok2:∀x∈gs++[(⟨g,Ax,Nx,Cx⟩:N6)],WL Γ2 x:=fun x hx=>by
   rcases List.mem_append.1 hx with hx|hx
   ·exact(hok x hx).mono hle2
   ·rw[List.mem_singleton.1 hx];exact hfo
  refine A6 ?_;exact⟨n-k9,by omega,f',acc++[g],k9,Γ2,A2,N2,C2,_,by rw[←hf,hO];rfl,rfl,hk9',by omega,by rw[List.length_append];simp;omega,hle1.trans hle2,by rw[List.map_append,hgs];rfl,hok2,⟨rfl,rfl,rfl,trivial⟩,hw⟩
 | false=>
  rw[hi,if_neg (by decide)]at hw hf
  rw[←hf,I9];unfold D6 at hw;refine A6 ?_;refine A7 rfl (fun h=>by cases h) (fun _=>?_)
  refine A6 ?_;refine I5 (by kernel_rfl) (by kernel_rfl) hw ?_
  refine EX ?_;intro w hw;refine A7 rfl (fun h=>?_) (fun h=>?_)
  ·have h:k<toks.length:=by simp at h;omega
   rw[if_pos h];have hw:Wd Γ1 (D6 bp a n c k e.Line e.Col::.own (.slice ga gn gc) 127 15 (gs.map cG)::.blk b3 (.cells #[.slice sa sn sc,.slice ga gn gc] 26)::.blk b2 (.cells #[.slice none 0 0,.slice none 0 0] 26)::.own (.slice sa sn sc) 9 1 (B7 sel)::S) w:=hw
   refine A6 ?_;refine K4 ?_
   refine(EN 50 ht1 hw).mono ?_
   rintro r w ⟨rfl,hw⟩
   exact⟨Γ1,k,hle1,rfl,(((hw.dropAt 1).dropAt 1).dropAt 1).dropAt 1⟩
  ·have h:¬k<toks.length:=by simp at h;omega
   rw[if_neg h];have hw:Wd Γ1 (D6 bp a n c k e.Line e.Col::.own (.slice ga gn gc) 127 15 (gs.map cG)::.blk b3 (.cells #[.slice sa sn sc,.slice ga gn gc] 26)::.blk b2 (.cells #[.slice none 0 0,.slice none 0 0] 26)::.own (.slice sa sn sc) 9 1 (B7 sel)::S) w:=hw
   refine A6 ?_;refine B1 (i:=3) ?_
   intro w hw;have hw:Wd Γ1 (.blk b2 (.cells #[.slice sa sn sc,.slice ga gn gc] 26)::.own (.slice ga gn gc) 127 15 (gs.map cG)::.own (.slice sa sn sc) 9 1 (B7 sel)::D6 bp a n c k e.Line e.Col::.blk b3 (.cells #[.slice sa sn sc,.slice ga gn gc] 26)::S) w:=hw.ps [2,1,4,3,4]
   refine A6 ?_;refine⟨[.agg #[.slice sa sn sc,.slice ga gn gc]],⟨T4 (i:=0) hw rfl rfl rfl,trivial⟩,?_⟩
   obtain⟨Γ2,hle2,hg2,hw⟩:=hw.drop.freeze;obtain⟨Γ3,hle3,hs3,hw⟩:=hw.freeze;exact⟨Γ3,_,_,gs,hle1.trans (hle2.trans hle3),rfl,⟨hs3,hg2.mono hle3,hgs,fun x hx=>(hok x hx).mono (hle2.trans hle3)⟩,hw.ds [0,0]⟩
end
end Go.Proofs.YtlimglpjpcfpdaaGreat
end
section
open Go Mk
namespace Go.Proofs.YtlimglpjpcfpdaaGreat
set_option maxHeartbeats 16000000
attribute [local irreducible] Calls cI cB I8
section
variable {Γ:C8}{S:List B2}{w:World}
theorem ZF(hw:Wd Γ S w)(args:Array Value)(hn:Nat.ble args.size 22=true) :
  CallsD Tryz.prog 39 args .returning w fun e u' w'=>e=.returned (.tuple #[])∧u'=.returning∧Wd Γ S w':=by
 refine KH Tryz.func39 rfl hn rfl rfl ?_
 refine Br ?_
 refine AA ?_
 refine lY (v:=.nilIface) ?_ (hy:=GK rfl)
 refine lY (v:=.bool false) ?_ (hy:=cO Tryz.underlying20 rfl)
 refine AM ?_
 refine A7 rfl (fun h=>by cases h) (fun _=>?_)
 refine GA ?_
 exact⟨_,rfl,rfl,rfl,hw⟩
end
end Go.Proofs.YtlimglpjpcfpdaaGreat
end
section
open Go Mk
namespace Go.Proofs.YtlimglpjpcfpdaaGreat
set_option maxHeartbeats 4000000
attribute [local irreducible] Calls
theorem Hg(a b:ByteArray):M8 (a++b)=M8 a++M8 b:=by
 unfold M8;rw[ByteArray.data_append,Array.toList_append]
theorem X8(l:List UInt8):M8 ⟨l.toArray⟩=l:=by unfold M8;simp
abbrev x9:=Int×ByteArray×Int
def iB(t:Tok):x9:=(t.Kind,t.Text,t.Value)
def U8(l:List UInt8):ByteArray:=⟨l.toArray⟩
theorem My(s:ByteArray):U8 (M8 s)=s:=Ba (X8 _)
theorem BI(l:List UInt8):(U8 l).size=l.length:=by rw[←P8];unfold U8;rw[X8]
inductive Tz:List UInt8→List x9→Prop
 | nil:Tz [] []
 | sp {c:UInt8} {l:List UInt8} {ks:List x9}:BJ c.toNat=true→Tz l ks→Tz (c::l) ks
 | tok {c:UInt8} {p l:List UInt8} {k:Int} {t:ByteArray} {v:Nat} {ks:List x9}:BJ c.toNat=false→(c.toNat:Int)≠35→O9 (U8 ((c::p)++l))=⟨k,t,v,(c::p).length,0⟩→Tz l ks→Tz ((c::p)++l) ((k,t,v)::ks)
theorem Hj{s:ByteArray}{off:Nat}{c:UInt8}{l:List UInt8}(h:(M8 s).drop off=c::l):B3 s off=c.toNat:=by
 have h1:(M8 s)[off]? = some c:=by
  have:=List.getElem?_drop (xs:=M8 s) (i:=off) (j:=0)
  rw[h]at this;simpa using this.symm
 show (((M8 s).getD off 0).toNat:Int)=_
 rw[List.getD_eq_getElem?_getD,h1];rfl
theorem Yj{s:ByteArray}{off:Nat}:G5 s off s.size=U8 ((M8 s).drop off):=by
 refine Ba ?_
 rw[Bn];unfold U8;rw[X8,List.take_of_length_le (by rw[List.length_drop,P8];exact Nat.le_refl _)]
theorem Tq{s:ByteArray}{off:Nat}{c:UInt8}{l:List UInt8}(h:(M8 s).drop off=c::l):off<s.size:=by
 have:=congrArg List.length h
 rw[List.length_drop,P8,List.length_cons]at this;omega
theorem cA{s:ByteArray}:∀ {l:List UInt8} {ks:List x9},Tz l ks→∀(f off:Nat) (acc:List Tok),(M8 s).drop off=l→l.length<f→∃toks,toks.map iB=ks∧X9 s f off acc=(acc++toks,⟨0,0⟩,0):=by
 intro l ks h;induction h with
 | nil=>
  intro f off acc hd hf;obtain⟨f,rfl⟩:∃f',f=f'+1:=⟨f-1,by omega⟩
  refine⟨[],rfl,?_⟩
  have:s.size≤off:=by
   have:=congrArg List.length hd
   rw[List.length_drop,P8]at this;simp at this;omega
  unfold X9;rw[if_pos this,List.append_nil]
 | @sp c l ks hc _ ih=>
  intro f off acc hd hf;rw[List.length_cons]at hf;obtain⟨f,rfl⟩:∃f',f=f'+1:=⟨f-1,by omega⟩
  have hlt:=Tq hd
  obtain⟨toks,h1,h2⟩:=ih f (off+1) acc (by rw[←List.drop_drop,hd];rfl) (by omega)
  refine⟨toks,h1,?_⟩
  unfold X9;rw[if_neg (by omega),Hj hd,if_pos hc,h2]
 | @tok c p l k t v ks hc h35 ht _ ih=>
  intro f off acc hd hf;rw[List.length_append]at hf;have hp:0<(c::p).length:=by simp
  obtain⟨f,rfl⟩:∃f',f=f'+1:=⟨f-1,by omega⟩
  have hd':(M8 s).drop off=c::(p++l):=hd
  have hlt:=Tq hd'
  obtain⟨toks,h1,h2⟩:=ih f (off+(c::p).length) (acc++[⟨k,t,v,(D7 s off).Line,(D7 s off).Col⟩]) (by rw[←List.drop_drop,hd,List.drop_left]) (by omega)
  refine⟨⟨k,t,v,(D7 s off).Line,(D7 s off).Col⟩::toks,by rw[List.map_cons,h1];rfl,?_⟩
  unfold X9;rw[if_neg (by omega),Hj hd',if_neg (by rw[hc];decide),if_neg h35,Yj,hd,ht,if_pos rfl]
  dsimp only
  rw[h2,List.append_assoc];rfl
theorem Wl{l:List UInt8}{ks:List x9}(h:Tz l ks)(hl:l.length≤65536):∃toks,toks.map iB=ks∧I8 (U8 l)=(toks,⟨0,0⟩,0):=by
 obtain⟨toks,h1,h2⟩:=cA (s:=U8 l) h ((U8 l).size+1) 0 [] (by unfold U8;rw[X8];rfl) (by rw[BI];omega)
 refine⟨toks,h1,?_⟩
 unfold I8;rw[if_neg (by rw[BI];omega),h2];rfl
def GL(l:List UInt8):Prop:=match l with|[]=>True|c::_=>M9 c=false
theorem WR{p l:List UInt8}(hp:p.all M9=true)(hl:GL l):runN (U8 (p++l))=p.length:=by
 unfold runN;show ((M8 (U8 (p++l))).takeWhile M9).length=_
 unfold U8;rw[X8];have:(p++l).takeWhile M9=p:=by
  rw[List.takeWhile_append_of_pos (fun x hx=>List.all_eq_true.1 hp x hx)];cases l with
  | nil=>simp
  | cons c l=>have hl:M9 c=false:=hl;simp[hl]
 rw[this]
theorem Gh{p l:List UInt8}:G5 (U8 (p++l)) 0 p.length=U8 p:=by
 refine Ba ?_
 unfold U8;rw[Bn,X8,X8,List.drop_zero,Nat.sub_zero,List.take_left]
theorem WS{c:UInt8}{p l:List UInt8}(hc:H4 c.toNat=true)(hp:(c::p).all M9=true)(hl:GL l):O9 (U8 ((c::p)++l))=⟨1,U8 (c::p),0,(c::p).length,0⟩:=by
 unfold O9;rw[if_pos (show H4 (B3 (U8 ((c::p)++l)) 0)=true from hc),WR hp hl,Gh]
theorem XF{c:UInt8}{l:List UInt8}(hc:c=40∨c=41∨c=44):O9 (U8 ([c]++l))=⟨4,U8 [c],0,1,0⟩:=by
 have hs:(U8 ([c]++l)).size=l.length+1:=by rw[BI];simp
 have hb:B3 (U8 ([c]++l)) 0=c.toNat:=rfl
 have h2:∀b,Cg c.toNat b=false:=fun b=>by rcases hc with q|q|q <;> subst q <;> unfold Cg <;> simp
 have hP:I6 (U8 ([c]++l))=1:=by
  unfold I6;rw[hb,h2,if_neg (by simp),if_pos ⟨by omega,by show c∈NK;rcases hc with q|q|q <;> subst q <;> decide⟩]
 unfold O9;rw[hP,hb,if_neg (by rcases hc with q|q|q <;> subst q <;> decide),if_neg (by rcases hc with q|q|q <;> subst q <;> decide),if_neg (by rcases hc with q|q|q <;> subst q <;> decide),if_neg (by decide)]
 rw[show G5 (U8 ([c]++l)) 0 1=U8 [c] from Gh (p:=[c])]
theorem Ys{c d:UInt8}{l:List UInt8}(hc:(c=46∧d=10)∨(c=45∧N9 d.toNat=true)):O9 (U8 ([c]++d::l))=⟨4,U8 [c],0,1,0⟩:=by
 have hs:(U8 ([c]++d::l)).size=l.length+2:=by rw[BI];simp
 have hb:B3 (U8 ([c]++d::l)) 0=c.toNat:=rfl
 have hb1:B3 (U8 ([c]++d::l)) 1=d.toNat:=rfl
 have h2:Cg c.toNat d.toNat=false:=by
  rcases hc with⟨q,r⟩|⟨q,r⟩
  ·subst q;subst r;decide
  ·subst q;unfold N9 at r;simp only[Bool.and_eq_true,decide_eq_true_eq]at r
   unfold Cg;simp
   omega
 have hP:I6 (U8 ([c]++d::l))=1:=by
  unfold I6;rw[hb,hb1,h2,if_neg (by simp),if_pos ⟨by omega,by show c∈NK;rcases hc with⟨q,-⟩|⟨q,-⟩ <;> subst q <;> decide⟩]
 unfold O9;rw[hP,hb,if_neg (by rcases hc with⟨q,-⟩|⟨q,-⟩ <;> subst q <;> decide),if_neg (by rcases hc with⟨q,-⟩|⟨q,-⟩ <;> subst q <;> decide),if_neg (by rcases hc with⟨q,-⟩|⟨q,-⟩ <;> subst q <;> decide),if_neg (by decide)]
 rw[show G5 (U8 ([c]++d::l)) 0 1=U8 [c] from Gh (p:=[c])]
theorem cS{p l:List UInt8}(hp:p.all AI=true):O9 (U8 ((34::(p++[34]))++l))=⟨3,U8 p,0,(34::(p++[34])).length,0⟩:=by
 have hB:M8 (U8 ((34::(p++[34]))++l))=34::(p++34::l):=by unfold U8;rw[X8];simp
 have hS:BE (U8 ((34::(p++[34]))++l))=p.length+1:=by
  unfold BE;rw[hB];have:((34::(p++34::l)).drop 1).takeWhile AI=p:=by
   rw[List.drop_succ_cons,List.drop_zero,List.takeWhile_append_of_pos (fun x hx=>List.all_eq_true.1 hp x hx)];have:AI 34=false:=by decide
   simp[this]
  rw[this];omega
 have hz:(U8 ((34::(p++[34]))++l)).size=p.length+2+l.length:=by rw[BI];simp;omega
 have hq:B3 (U8 ((34::(p++[34]))++l)) (p.length+1)=34:=by
  refine Hj (c:=34) (l:=l) ?_
  rw[hB,List.drop_succ_cons,List.drop_left]
 unfold O9;rw[show B3 (U8 ((34::(p++[34]))++l)) 0=34 from rfl,if_neg (by decide),if_neg (by decide),if_pos rfl,hS,if_pos ⟨by omega,hq⟩]
 congr 1
 ·refine Ba ?_
  rw[Bn,hB];unfold U8;rw[X8,List.drop_succ_cons,List.drop_zero,Nat.add_sub_cancel,List.take_left]
 ·simp
theorem t8{d:Nat}(h:d<10):(UInt8.ofNat (48+d)).toNat=48+d:=by
 rw[UInt8.toNat_ofNat'];exact Nat.mod_eq_of_lt (by omega)
theorem JK:∀(u:Nat),∀c∈Lib.decDigits u,∃d,d<10∧c=UInt8.ofNat (48+d):=by
 intro u;induction u using Nat.strongRecOn with
 | _ u ih=>
  intro c hc;rw[Lib.decDigits]at hc;split at hc
  ·rename_i h
   exact⟨u,h,List.mem_singleton.1 hc⟩
  ·rename_i h
   rcases List.mem_append.1 hc with q|q
   ·exact ih (u / 10) (by omega) c q
   ·exact⟨u%10,by omega,List.mem_singleton.1 q⟩
theorem GP:∀(u:Nat),∃d p,d<10∧Lib.decDigits u=UInt8.ofNat (48+d)::p∧(d=0→p=[]):=by
 intro u;induction u using Nat.strongRecOn with
 | _ u ih=>
  rw[Lib.decDigits];split
  ·rename_i h
   exact⟨u,[],h,rfl,fun _=>rfl⟩
  ·rename_i h
   obtain⟨d,p,h1,h2,h3⟩:=ih (u / 10) (by omega)
   refine⟨d,p++[UInt8.ofNat (48+u%10)],h1,by rw[h2];rfl,fun q=>?_⟩
   exfalso
   have h4:=h3 q
   rw[q,h4,Lib.decDigits]at h2;split at h2
   ·rename_i h5
    have h6:=List.cons.inj h2
    have:=congrArg UInt8.toNat h6.1
    rw[t8 h5,t8 (by omega)]at this
    omega
   ·have:=congrArg List.length h2
    have h7:=Lib.nDigits_pos (u / 10 / 10)
    rw[List.length_append,Lib.decDigits_length]at this;simp at this;omega
theorem Jf{d:Nat}(h:d<10):BL ((UInt8.ofNat (48+d)).toNat:Int) 10=d:=by
 rw[t8 h];have hd:N9 ((48+d:Nat):Int)=true:=by
  unfold N9;rw[Bool.and_eq_true,decide_eq_true_eq,decide_eq_true_eq];omega
 unfold BL Gw;rw[if_pos hd,if_neg (by omega)];omega
theorem Lo(b:Nat)(c:UInt8):∀(l:List UInt8) (v:Nat),JE b (l++[c]) v=JE b l v*b+(BL c.toNat b).toNat
 | [],v=>rfl
 | x::l,v=>Lo b c l _
theorem YB:∀u:Nat,JE 10 (Lib.decDigits u) 0=u:=by
 intro u;induction u using Nat.strongRecOn with
 | _ u ih=>
  rw[Lib.decDigits];split
  ·rename_i h
   show 0*10+(BL ((UInt8.ofNat (48+u)).toNat:Int) ((10:Nat):Int)).toNat=u
   rw[show ((10:Nat):Int)=10 from rfl,Jf h];omega
  ·rename_i h
   rw[Lo,ih (u / 10) (by omega),show ((10:Nat):Int)=10 from rfl,Jf (by omega)];omega
theorem EE{d:Nat}(h:d<10):H4 ((UInt8.ofNat (48+d)).toNat:Int)=false∧N9 ((UInt8.ofNat (48+d)).toNat:Int)=true∧Dy ((UInt8.ofNat (48+d)).toNat:Int)=0∧((UInt8.ofNat (48+d)).toNat:Int)≠120:=by
 rw[t8 h];refine⟨?_,?_,?_,by omega⟩
 ·unfold H4;rw[decide_eq_false (show ¬(97:Int)≤((48+d:Nat):Int) by omega),decide_eq_false (show ¬(65:Int)≤((48+d:Nat):Int) by omega),decide_eq_false (show ¬((48+d:Nat):Int)=95 by omega)];rfl
 ·unfold N9;rw[Bool.and_eq_true,decide_eq_true_eq,decide_eq_true_eq];omega
 ·unfold Dy;rw[if_neg (by omega),if_neg (by omega),if_neg (by omega)]
theorem Yr(u:Nat):(Lib.decDigits u).all M9=true:=List.all_eq_true.2 fun c hc=>by
 obtain⟨d,h,rfl⟩:=JK u c hc
 obtain⟨h1,h2,-,-⟩:=EE h
 unfold M9;rw[h1,h2];rfl
theorem Pm{l:List UInt8}{i:Nat}(h:i<l.length):∃c∈l,B3 (U8 l) i=c.toNat:=by
 refine⟨l[i],List.getElem_mem h,?_⟩
 show (((M8 (U8 l)).getD i 0).toNat:Int)=_
 unfold U8;rw[X8,List.getD_eq_getElem?_getD,List.getElem?_eq_getElem h];rfl
theorem bz{u:Nat}(hu:u≤18446744073709551615):FT (U8 (Lib.decDigits u))=(u,0):=by
 obtain⟨d,p,hd,hp,h0⟩:=GP u
 have hl:0<(Lib.decDigits u).length:=by rw[hp];simp
 obtain⟨c,hc,hb⟩:=Pm (l:=Lib.decDigits u) (i:=(Lib.decDigits u).length-1) (by omega)
 have hsz:=BI (Lib.decDigits u)
 have hsh:Dy (B3 (U8 (Lib.decDigits u)) ((U8 (Lib.decDigits u)).size-1))=0:=by
  rw[hsz,hb];obtain⟨d2,h2,rfl⟩:=JK u c hc
  exact(EE h2).2.2.1
 have hno:¬(2≤(U8 (Lib.decDigits u)).size∧B3 (U8 (Lib.decDigits u)) 0=48∧B3 (U8 (Lib.decDigits u)) 1=120):=fun q=>by
  obtain⟨c2,hc2,hb2⟩:=Pm (l:=Lib.decDigits u) (i:=1) (by omega)
  obtain⟨d2,h2,rfl⟩:=JK u c2 hc2
  exact(EE h2).2.2.2 (hb2.symm.trans q.2.2)
 have hlz:¬((U8 (Lib.decDigits u)).size=0∨(1<(U8 (Lib.decDigits u)).size∧B3 (U8 (Lib.decDigits u)) 0=48)):=fun q=>by
  rcases q with q|⟨q1,q2⟩
  ·omega
  ·have hb0:B3 (U8 (Lib.decDigits u)) 0=((UInt8.ofNat (48+d)).toNat:Int):=by rw[hp];rfl
   rw[hb0,t8 hd]at q2;have:=h0 (by omega)
   rw[hsz,hp,this]at q1;simp at q1
 have hall:(Lib.decDigits u).all (fun c=>decide (0≤BL c.toNat ((10:Nat):Int)))=true:=List.all_eq_true.2 fun c hc=>by
  obtain⟨d2,h2,rfl⟩:=JK u c hc
  rw[show ((10:Nat):Int)=10 from rfl,Jf h2];exact decide_eq_true (by omega)
 have hcore:Z8 10 0 (Lib.decDigits u)=(u,0):=by
  unfold Z8;rw[hall,if_neg (by decide),YB,if_neg (by show ¬18446744073709551615 >>> 0<u;rw[Nat.shiftRight_zero];omega),Nat.shiftLeft_zero]
 unfold FT;simp only[hsh]
 rw[if_neg (show ¬(0:Nat)<0 by decide),if_neg hno,if_neg hlz]
 unfold U8;rw[X8];exact hcore
theorem bk{u:Nat}(hu:u≤18446744073709551615){l:List UInt8}(hl:GL l):O9 (U8 (Lib.decDigits u++l))=⟨2,⟨#[]⟩,u,(Lib.decDigits u).length,0⟩:=by
 have hr:=WR (Yr u) hl
 have hs:G5 (U8 (Lib.decDigits u++l)) 0 (Lib.decDigits u).length=U8 (Lib.decDigits u):=Gh
 have hn:=bz hu
 obtain⟨d,p,hd,hp,-⟩:=GP u
 have hb:B3 (U8 (Lib.decDigits u++l)) 0=((UInt8.ofNat (48+d)).toNat:Int):=by rw[hp];rfl
 obtain⟨h1,h2,-,-⟩:=EE hd
 unfold O9;rw[hr,hs,hn,hb,if_neg (by rw[h1];decide),if_pos h2,if_pos rfl]
theorem Tz.word{t:ByteArray}{l:List UInt8}{ks:List x9}(ht:Ao t=true)(hl:GL l)(h:Tz l ks):Tz (M8 t++l) ((1,t,0)::ks):=by
 unfold Ao at ht;simp only[Bool.and_eq_true,decide_eq_true_eq]at ht
 obtain⟨⟨h0,h1⟩,h2⟩:=ht;have hb:0<(M8 t).length:=by rw[P8];exact h0
 have h1:H4 (((M8 t).getD 0 0).toNat:Int)=true:=h1
 have h2:(M8 t).all M9=true:=h2
 have hm:=My t
 generalize M8 t=b at *
 cases b with
 | nil=>simp at hb
 | cons c p=>
  have hc:H4 (c.toNat:Int)=true:=h1
  have hk:=WS hc h2 hl
  rw[hm]at hk;have hsp:BJ (c.toNat:Int)=false∧(c.toNat:Int)≠35:=by
   unfold H4 at hc;simp only[Bool.or_eq_true,Bool.and_eq_true,decide_eq_true_eq]at hc
   unfold BJ;simp only[Bool.or_eq_false_iff,decide_eq_false_iff_not]
   omega
  exact Tz.tok (v:=0) hsp.1 hsp.2 hk h
theorem Tz.num{u:Nat}(hu:u≤18446744073709551615){l:List UInt8}{ks:List x9}(hl:GL l)(h:Tz l ks):Tz (Lib.decDigits u++l) ((2,⟨#[]⟩,(u:Nat))::ks):=by
 have hk:=bk hu hl
 obtain⟨d,p,hd,hp,-⟩:=GP u
 rw[hp]at hk ⊢
 refine Tz.tok (v:=u) ?_ ?_ hk h
 ·rw[t8 hd];unfold BJ;simp only[Bool.or_eq_false_iff,decide_eq_false_iff_not];omega
 ·rw[t8 hd];omega
theorem Tz.p1{c:UInt8}{l:List UInt8}{ks:List x9}(hc:c=40∨c=41∨c=44)(h:Tz l ks):Tz (c::l) ((4,U8 [c],0)::ks):=
 Tz.tok (c:=c) (p:=[]) (v:=0) (by rcases hc with q|q|q <;> subst q <;> decide) (by rcases hc with q|q|q <;> subst q <;> decide) (XF hc) h
theorem Tz.p2{c d:UInt8}{l:List UInt8}{ks:List x9}(hc:(c=46∧d=10)∨(c=45∧N9 d.toNat=true))(h:Tz (d::l) ks):Tz (c::d::l) ((4,U8 [c],0)::ks):=
 Tz.tok (c:=c) (p:=[]) (v:=0) (by rcases hc with⟨q,-⟩|⟨q,-⟩ <;> subst q <;> decide) (by rcases hc with⟨q,-⟩|⟨q,-⟩ <;> subst q <;> decide) (Ys hc) h
theorem Tz.str{t:ByteArray}{l:List UInt8}{ks:List x9}(ht:(M8 t).all AI=true)(h:Tz l ks):Tz ((34::(M8 t++[34]))++l) ((3,t,0)::ks):=by
 have hk:=cS (l:=l) (p:=M8 t) ht
 rw[My]at hk;exact Tz.tok (v:=0) (by decide) (by decide) hk h
def XO(t:Tok):Prop:=(t.Kind=1→Ao t.Text=true)∧(t.Kind=3→Hb t.Text=true)
theorem bU{s:ByteArray}{k:Nat}:M8 (G5 s 0 k)=(M8 s).take k:=by rw[Bn,List.drop_zero,Nat.sub_zero]
theorem k13:¬(1:Int)=3:=by decide
theorem k31:¬(3:Int)=1:=by decide
theorem k21:¬(2:Int)=1:=by decide
theorem k23:¬(2:Int)=3:=by decide
theorem iA:¬(0:Int)=1:=by decide
theorem iE:¬(0:Int)=3:=by decide
theorem k41:¬(4:Int)=1:=by decide
theorem k43:¬(4:Int)=3:=by decide
theorem aZ{s:ByteArray}(h0:0<s.size):((O9 s).kind=1→Ao (O9 s).text=true)∧((O9 s).kind=3→Hb (O9 s).text=true):=by
 unfold O9;by_cases h1:H4 (B3 s 0)=true
 ·rw[if_pos h1];refine⟨fun _=>?_,fun q=>absurd q k13⟩
  have hl:0<(M8 s).length:=by rw[P8];exact h0
  have htw:M8 (G5 s 0 (runN s))=(M8 s).takeWhile M9:=by
   rw[bU];unfold runN;exact(List.prefix_iff_eq_take.1 (List.takeWhile_prefix M9)).symm
  have h1':H4 (((M8 s).getD 0 0).toNat:Int)=true:=h1
  unfold Ao;show (decide (0<(G5 s 0 (runN s)).size)&&H4 (((M8 (G5 s 0 (runN s))).getD 0 0).toNat:Int)&&(M8 (G5 s 0 (runN s))).all M9)=true
  rw[←P8,htw];generalize M8 s=b at *
  cases b with
  | nil=>simp at hl
  | cons c p=>
   have hc:H4 (c.toNat:Int)=true:=h1'
   have hw:M9 c=true:=by unfold M9;rw[hc];rfl
   rw[List.takeWhile_cons,if_pos hw];simp only[Bool.and_eq_true,decide_eq_true_eq]
   refine⟨⟨by simp,hc⟩,?_⟩
   rw[List.all_cons,hw,Bool.true_and];exact List.all_eq_true.2 fun x hx=>List.all_eq_true.1 List.all_takeWhile x hx
 rw[if_neg h1];by_cases h2:N9 (B3 s 0)=true
 ·rw[if_pos h2];split
  ·exact⟨fun q=>absurd q k21,fun q=>absurd q k23⟩
  ·exact⟨fun q=>absurd q iA,fun q=>absurd q iE⟩
 rw[if_neg h2];by_cases h3:B3 s 0=34
 ·rw[if_pos h3];split
  ·refine⟨fun q=>absurd q k31,fun _=>?_⟩
   unfold Hb;have:M8 (G5 s 1 (BE s))=((M8 s).drop 1).takeWhile AI:=by
    rw[Bn];unfold BE;rw[Nat.add_sub_cancel_left];exact(List.prefix_iff_eq_take.1 (List.takeWhile_prefix AI)).symm
   show (M8 (G5 s 1 (BE s))).all AI=true
   rw[this];exact List.all_takeWhile
  ·exact⟨fun q=>absurd q iA,fun q=>absurd q iE⟩
 rw[if_neg h3];split
 ·exact⟨fun q=>absurd q iA,fun q=>absurd q iE⟩
 ·exact⟨fun q=>absurd q k41,fun q=>absurd q k43⟩
theorem Gk{s:ByteArray}:∀(f off:Nat) (acc:List Tok),(∀t∈acc,XO t)→∀t∈(X9 s f off acc).1,XO t
 | 0,off,acc,h=>h
 | f+1,off,acc,h=>by
  unfold X9;split
  ·exact h
  ·rename_i h0
   split
   ·exact Gk f _ acc h
   ·split
    ·exact Gk f _ acc h
    ·split
     ·refine Gk f _ _ fun t ht=>?_
      rcases List.mem_append.1 ht with q|q
      ·exact h t q
      ·rw[List.mem_singleton.1 q];exact aZ (by rw[y6 (Nat.le_refl _)];omega)
     ·exact fun t ht=>by cases ht
theorem Wu{s:ByteArray}:∀t∈(I8 s).1,XO t:=by
 unfold I8;split
 ·exact fun t ht=>by cases ht
 ·exact Gk _ _ [] fun t ht=>by cases ht
end Go.Proofs.YtlimglpjpcfpdaaGreat
end
section
open Go Mk
namespace Go.Proofs.YtlimglpjpcfpdaaGreat
set_option maxHeartbeats 16000000
attribute [local irreducible] Calls cI cB I8 EQ
def BF(s:ByteArray):G4×F2×Int:=if (I8 s).2.2=0 then (match EQ (I8 s).1 (Dv s) 0 with|.ok (q,_)=>(q,⟨0,0⟩,0)|.error (p,er)=>(⟨[],[]⟩,p,er)) else (⟨[],[]⟩,(I8 s).2.1,(I8 s).2.2)
def Fu(b2 b3 b4:Nat)(h0:Array Value)(p0:F2)(e0:Int)(S:List B2):List B2:=.blk b2 (.cells h0 26)::.blk b3 (.cells (enc p0).toArray 44)::.blk b4 (.cells #[.int .i64 e0] 45)::S
theorem Rl{s:ByteArray}:JL (I8 s).1:=fun k hk=>by
 have h:Q0 (I8 s).1 k∈(I8 s).1:=by
  have hl:=Cy (toks:=(I8 s).1) (at':=k) (by rw[hk];decide)
  unfold Q0;rw[List.getD_eq_getElem?_getD,List.getElem?_eq_getElem hl];exact List.getElem_mem hl
 have hw:=(Wu _ h).1 hk
 unfold Ao at hw;simp only[Bool.and_eq_true,decide_eq_true_eq]at hw
 exact hw.1.1
theorem Zc(Γ:C8):QR Γ (.slice none 0 0) (.slice none 0 0) [] ⟨[],[]⟩:=⟨D9.nil,D9.nil,rfl,fun x hx=>by cases hx⟩
section
variable {Γ:C8}{S:List B2}{w:World}{b2 b3 b4:Nat}{h0:Array Value}{p0:F2}{e0:Int}
theorem YZ{p:F2}{er:Int}(hz:h0.size=2)(hw:Wd Γ (Fu b2 b3 b4 h0 p0 e0 S) w) :
  CallsD Tryz.prog 39 #[.pointer (some ⟨b2,0,none⟩),.pointer (some ⟨b3,0,none⟩),.pointer (some ⟨b4,0,none⟩)] (.panicking [Dp p er]) w fun e u' w'=>
   e=.returned (.tuple #[])∧settle u'=.returning∧Wd Γ (Fu b2 b3 b4 #[.slice none 0 0,.slice none 0 0] p er S) w':=by
 refine KH Tryz.func39 rfl rfl rfl rfl ?_
 obtain⟨c1,c2,rfl⟩:∃c1 c2,h0 = #[c1,c2]:=by
  obtain⟨l⟩:=h0;match l,hz with
  | [c1,c2],_=>exact⟨c1,c2,rfl⟩
 unfold Fu at hw;have hv:(Gt (.panicking [Dp p er])).1=.iface 103 (.agg #[.int .i64 p.Line,.int .i64 p.Col,.int .i64 er]):=rfl
 rw[hv];refine Br ?_
 refine AA ?_
 refine lY (v:=.iface 103 (.agg #[.int .i64 p.Line,.int .i64 p.Col,.int .i64 er])) ?_ (hy:=GK rfl)
 refine lY (v:=.bool true) ?_ (hy:=cE Tryz.underlying20 rfl)
 refine AM ?_
 refine A7 rfl (fun _=>?_) (fun h=>by cases h)
 refine Br ?_
 refine AA ?_
 refine lY (v:=.iface 103 (.agg #[.int .i64 p.Line,.int .i64 p.Col,.int .i64 er])) ?_ (hy:=GK rfl)
 refine lY (v:=.tuple #[.agg #[.int .i64 p.Line,.int .i64 p.Col,.int .i64 er],.bool true]) ?_ (hy:=Sd Tryz.underlying103 rfl)
 refine A6 ?_;refine C0 ?_;intro b5 w hw;refine A6 ?_;refine B1 ?_;intro w hw;have hw:Wd Γ (.blk b5 (.cells #[.int .i64 p.Line,.int .i64 p.Col,.int .i64 er] 103)::.blk b2 (.cells #[c1,c2] 26)::.blk b3 (.cells (enc p0).toArray 44)::.blk b4 (.cells #[.int .i64 e0] 45)::S) w:=hw
 refine A6 ?_;refine A7 rfl (fun h=>by cases h) (fun _=>?_)
 refine A6 ?_;refine Q8 [] [fun _=>[.blk b5 _],fun _=>[.blk b2 _],fun _=>[.blk b3 _],fun _=>.blk b4 _::S] [[],[],[],[],[],[1],[2],[3]] [[],[],[0],[],[0],[1],[2],[3]] [[],[],[],[]] (by simpa[List.range,List.range.loop,ML] using hw) ?_
 refine R1 ?_;refine AX (c:=1) ?_
 refine AX (c:=2) ?_
 refine AX (c:=3) ?_
 refine s8 ?_
 intro w hw;have hw:Wd Γ ((.blk b5 (.cells #[.int .i64 p.Line,.int .i64 p.Col,.int .i64 er] 103)::Fu b2 b3 b4 #[.slice none 0 0,.slice none 0 0] p er S)++[]) w:=hw
 rw[List.append_nil]at hw;exact⟨_,rfl,rfl,rfl,hw.drop⟩
end
section
variable {Γ:C8}{S:List B2}{w:World}
set_option maxRecDepth 8000 in
theorem SC(s:ByteArray)(hs:s.size≤1000000)(hw:Wd Γ S w) :
  Calls Tryz.prog 9 #[.string s] w fun r w'=>∃Γ' vs vg gs,Γ.le Γ'∧r=.returned (.tuple #[.agg #[vs,vg],.agg (enc (BF s).2.1).toArray,.int .i64 (BF s).2.2])∧QR Γ' vs vg gs (BF s).1∧Wd Γ' S w':=by
 haveI hL:=Uy s (by omega)
 haveI hCn:=SQ s
 have hlin:=Tn (s:=s) (k:=s.size) (Nat.le_refl _)
 rw[List.take_of_length_le (by simp)]at hlin
 have hcnt:s.data.toList.count 10≤s.size:=by
  have:=List.count_le_length (a:=(10:UInt8)) (l:=s.data.toList)
  simpa using this
 have hcol:1≤(Dv s).Col∧(Dv s).Col≤s.size+1:=by
  have:∀k,1≤(D7 s k).Col∧(D7 s k).Col≤k+1:=fun k=>by
   induction k with
   | zero=>simp[D7]
   | succ k ih=>
    unfold D7;split
    ·simp;omega
    ·simp;omega
  exact this _
 refine IT Tryz.func9 rfl rfl ?_
 refine DK (HW ?_)
 refine A6 ?_;refine C0 ?_;intro b2 w hw;refine C0 ?_;intro b3 w hw;refine C0 ?_;intro b4 w hw;refine AM ?_
 have hw:Wd Γ (Fu b2 b3 b4 #[.slice none 0 0,.slice none 0 0] ⟨0,0⟩ 0 S) w:=hw.ps [1,2]
 unfold Fu at hw;refine DK (HW ?_)
 refine A6 ?_;refine D3 ?_;refine(Zh Γ _ w s (Nat.le_trans hs (by decide)) hw).mono ?_
 clear hw;rintro r w ⟨v,rfl,hw⟩
 refine⟨_,rfl,?_⟩;refine A6 ?_;refine B1 (i:=2) ?_
 intro w hw;refine B1 (i:=3) ?_
 intro w hw;refine AM ?_
 have hw:Wd Γ (.own v 178 5 ((I8 s).1.map enc)::Fu b2 b3 b4 #[.slice none 0 0,.slice none 0 0] (I8 s).2.1 (I8 s).2.2 S) w:=hw
 unfold Fu at hw;refine DK (DK (HW ?_))
 refine A6 ?_;refine Gi rfl (fun h=>?_) (fun h=>?_)
 ·have h:¬(I8 s).2.2=0:=by simpa using h
  have hP:BF s=(⟨[],[]⟩,(I8 s).2.1,(I8 s).2.2):=by unfold BF;rw[if_neg h]
  rw[hP];refine HW ?_
  refine A6 ?_;refine Q8 [] [fun _=>[.own v _ _ _],fun _=>[.blk b2 _],fun _=>[.blk b3 _],fun _=>.blk b4 _::S] [[],[],[],[1],[2],[3]] [[],[2],[3],[1],[2],[3]] [[],[],[],[]] (by simpa[List.range,List.range.loop,ML] using hw) ?_
  refine R1 ?_;refine AX (c:=1) ?_
  refine AX (c:=2) ?_
  refine AX (c:=3) ?_
  refine s8 ?_
  intro w hw;have hw:Wd Γ ((.own v 178 5 ((I8 s).1.map enc)::Fu b2 b3 b4 #[.slice none 0 0,.slice none 0 0] (I8 s).2.1 (I8 s).2.2 S)++[]) w:=hw
  rw[List.append_nil]at hw;refine A6 ?_;have hw:=hw.drop
  unfold Fu at hw;intro a ha hsz;exact⟨_,o4 (vs:=[.agg #[.slice none 0 0,.slice none 0 0],.agg (enc (I8 s).2.1).toArray,.int .i64 (I8 s).2.2]) (by decide) (by rw[ha];exact⟨T4 (i:=0) hw rfl rfl rfl,T4 (i:=1) hw rfl rfl rfl,eD (i:=2) hw rfl rfl rfl,trivial⟩),Γ,_,_,[],C8.le.refl _,rfl,Zc Γ,hw.ds [0,0,0]⟩
 have h:(I8 s).2.2=0:=by simpa using h
 have hP:BF s=(match EQ (I8 s).1 (Dv s) 0 with|.ok (q,_)=>(q,⟨0,0⟩,0)|.error (p,er)=>(⟨[],[]⟩,p,er)):=by unfold BF;rw[if_pos h]
 rw[hP];clear hP;have hwo:=Rl (s:=s)
 generalize (I8 s).2.1=p1 at *
 generalize (I8 s).2.2=e1 at *
 have hlen:=Ve (s:=s)
 generalize (I8 s).1=toks at *
 obtain⟨at',n,c,rfl,hn,-,-⟩:=hw.own_shape (i:=0) rfl
 simp only[List.length_map]at hn
 obtain⟨Γ1,hle,ht,hw⟩:=hw.freeze;refine HW (GA ?_)
 refine DK (KX ?_)
 refine TV ((EJ (first:=[]) (cap:=[.tmp 2,.tmp 3,.tmp 4]) (f1:=[]) (c1:=[.pointer (some ⟨b2,0,none⟩),.pointer (some ⟨b3,0,none⟩),.pointer (some ⟨b4,0,none⟩)]) EvL.nil (EvL.cons rfl (EvL.cons rfl (EvL.cons rfl EvL.nil)))).step ?_)
 refine MY ?_
 refine Zd ?_
 refine DK (FA ?_)
 refine A6 ?_;refine DK (FA ?_)
 refine A6 ?_;refine H9 ?_;intro bp w hw;refine A6 ?_;have hw:Wd Γ1 (D6 bp at' n c 0 (((s.data.toList.count 10:Nat):Int)+1) ((s.size:Int)-((s.size:Int)-(Dv s).Col))::Fu b2 b3 b4 #[.slice none 0 0,.slice none 0 0] p1 e1 S) w:=hw
 rw[show (((s.data.toList.count 10:Nat):Int)+1)=(Dv s).Line from by unfold Dv;rw[hlin];omega,show (s.size:Int)-((s.size:Int)-(Dv s).Col)=(Dv s).Col from by omega]at hw
 refine DK (FA ?_)
 refine A6 ?_;refine K4 ?_
 refine(eQ hwo (Nat.zero_le _) (by omega) ht hw).mono ?_
 clear hw;rintro r w hr
 cases hH:EQ toks (Dv s) 0 with
 | error q=>
  obtain⟨p,er⟩:=q;rw[hH]at hr;obtain⟨Γ2,k,hle2,rfl,hw⟩:=hr;have hw:=hw.drop
  intro a ha hsz;refine leaves_cons (by simp) rfl ((YZ rfl hw).mono ?_)
  rintro e u' w ⟨rfl,hu,hw⟩
  show Leaves _ _ _ _ [] (settle u') w
  rw[hu];unfold Fu at hw;exact⟨_,o4 (vs:=[.agg #[.slice none 0 0,.slice none 0 0],.agg (enc p).toArray,.int .i64 er]) (by decide) (by rw[ha];exact⟨T4 (i:=0) hw rfl rfl rfl,T4 (i:=1) hw rfl rfl rfl,eD (i:=2) hw rfl rfl rfl,trivial⟩),Γ2,_,_,[],hle.trans hle2,rfl,Zc Γ2,hw.ds [0,0,0]⟩
 | ok q=>
  obtain⟨q,k⟩:=q;rw[hH]at hr;obtain⟨Γ2,vs,vg,gs,hle2,rfl,hq,hw⟩:=hr;unfold Fu at hw;obtain⟨ga,gn,gc,rfl,hgn,hgnc,hgc⟩:=hq.goals.shape;obtain⟨sa,sn,sc,rfl,hsn,hsnc,hsc⟩:=hq.sel.shape;show L _ _ _ _ _ _ _
  refine A6 ?_;refine B1 (i:=0) ?_
  intro w hw;refine B1 (i:=1) ?_
  intro w hw;refine B1 (i:=2) ?_
  intro w hw;have hw:Wd Γ2 (Fu b2 b3 b4 #[.slice sa sn sc,.slice ga gn gc] ⟨0,0⟩ 0 S) w:=hw
  refine AM ?_
  refine Zj ?_
  intro a ha hsz;refine leaves_cons (by simp) rfl ((ZF hw _ rfl).mono ?_)
  rintro e u' w ⟨rfl,rfl,hw⟩
  show Leaves _ _ _ _ [] .returning w
  unfold Fu at hw;exact⟨_,o4 (vs:=[.agg #[.slice sa sn sc,.slice ga gn gc],.agg (enc (⟨0,0⟩:F2)).toArray,.int .i64 0]) (by decide) (by rw[ha];exact⟨T4 (i:=0) hw rfl rfl rfl,T4 (i:=1) hw rfl rfl rfl,eD (i:=2) hw rfl rfl rfl,trivial⟩),Γ2,_,_,gs,hle.trans hle2,rfl,hq,hw.ds [0,0,0]⟩
end
end Go.Proofs.YtlimglpjpcfpdaaGreat
end
section
open Go
namespace Mk
attribute [local irreducible] Calls
theorem ZO{A B C:List B2}:(A++((B++[])++C)).Perm (B++(A++C)):=by
 rw[List.append_nil];exact List.perm_append_comm_assoc _ _ _
section
variable {Γ0 Γ:C8}{p:C8→Prop}{hp:∀Γ Γ':C8,Γ.le Γ'→p Γ→p Γ'}{S:List B2}{w:World}
end
section
variable {P:Program}{n:Nat}{ops:List Oper}{Γ:C8}{K:List B2}{wr tc stab:List (List Nat)}{Q:Fr→World→Prop}{i:Nat}{rest:List Oper}{ρ:Fr}{M:Nat→Fr→List B2}{v:Value}{o:Oper}
theorem gM2{c c2:Nat}(m m2:Fr→List B2)(hs:∀Γ' Y w g,Γ.le Γ'→Wd Γ' (K++(E8 tc stab i M g++Y)) w→Step P o (E7 stab.flatten g ρ) w fun u w'=>∃Γ'',Γ'.le Γ''∧Wd Γ'' (K++(E8 tc stab i (H5 (H5 M c m) c2 m2) (D2 g o.dst u)++Y)) w'∧(T8 stab o.dst=false→u=v))
  (h:MSw (MW P n ops Γ K wr tc stab) Q (i+1) rest ⟨D2 ρ o.dst v,H5 (H5 M c m) c2 m2⟩) (hw0:wr.getD i []=[c,c2]) (hg:o.guard=none):MSw (MW P n ops Γ K wr tc stab) Q i (o::rest) ⟨ρ,M⟩:=by
 have hn:Mt.nxt (MW P n ops Γ K wr tc stab) i ⟨ρ,M⟩ ⟨v,H5 (H5 M c m) c2 m2⟩=H5 (H5 M c m) c2 m2:=by
  funext y
  simp only[Mt.nxt,V4.w,hw0]
  unfold H5;by_cases h1:y=c <;> by_cases h2:y=c2 <;> simp[h1,h2]
 refine⟨⟨v,H5 (H5 M c m) c2 m2⟩,⟨fun Γ' Y w g hr hw=>?_⟩,?_⟩
 ·have hle:Γ.le Γ':=hr
  rw[hn];refine⟨fun _=>(hs Γ' Y w g hle hw).mono fun u w' ⟨Γ'',h0,h1,h2⟩=>⟨Γ'',h0,h1,h2⟩,fun hf=>?_⟩
  rw[Q4 hg]at hf;cases hf
 ·simp only[Mt.next,hn];exact h
theorem gS2{c c2:Nat}{F G:Fr→List B2}(F' G':Fr→List B2)
  (hs:∀Γ' g w Y,Γ.le Γ'→Wd Γ' (F (E7 (stab.getD c []) g D4)++(G (E7 (stab.getD c2 []) g D4)++(K++Y))) w→Step P o (E7 stab.flatten g ρ) w fun u w'=>∃Γ'',Γ'.le Γ''∧(T8 stab o.dst=false→u=v)∧Wd Γ'' (F' (E7 (stab.getD c []) (D2 g o.dst u) D4)++(G' (E7 (stab.getD c2 []) (D2 g o.dst u) D4)++(K++Y))) w')
  (h:MSw (MW P n ops Γ K wr tc stab) Q (i+1) rest ⟨D2 ρ o.dst v,H5 (H5 M c F') c2 G'⟩) (hM:M c=F) (hM2:M c2=G) (hw0:wr.getD i []=[c,c2]:=by exact rfl) (ht:tc.getD i []=[c,c2]:=by exact rfl) (hcc:Nat.beq c c2=false:=by exact rfl) (hg:o.guard=none:=by exact rfl) :
  MSw (MW P n ops Γ K wr tc stab) Q i (o::rest) ⟨ρ,M⟩:=by
 have hne:c≠c2:=fun e=>by subst e;simp at hcc
 refine gM2 _ _ (fun Γ' Y w g hle hw=>?_) h hw0 hg
 rw[EY ht,hM,hM2]at hw;have W1:=(hw.perm (by rw[List.append_assoc];exact(List.perm_append_comm_assoc _ _ _).trans (List.Perm.append_left _ (List.perm_append_comm_assoc _ _ _)))  : Wd Γ' (F (E7 (stab.getD c []) g D4)++(G (E7 (stab.getD c2 []) g D4)++(K++Y))) w)
 refine(hs Γ' g w Y hle W1).mono ?_
 rintro u w' ⟨Γ'',h0,h2,h3⟩
 refine⟨Γ'',h0,?_,h2⟩
 rw[EY ht,B0,A0 hne,B0];exact h3.perm (by rw[List.append_assoc];exact((List.perm_append_comm_assoc _ _ _).trans (List.Perm.append_left _ (List.perm_append_comm_assoc _ _ _))).symm)
variable {d:Option Tmp}{ty:TypeId}{pos:String}{es:Array Edge}{f:Nat}{args:List Operand}{tys:Array TypeId}{vs:List Value}
theorem hU[C7 P f](hp:∀Γ',Γ.le Γ'→PG P Γ' f vs v)(h:MSw (MW P n ops Γ K wr tc stab) Q (i+1) rest ⟨D2 ρ d v,M⟩)(hw0:wr.getD i []=[]:=by exact rfl)(ho:Dj tc stab i d=true:=by exact rfl)(ha:∀g,EvL (E7 stab.flatten g ρ) args vs:=by intro g;exact v7) :
  MSw (MW P n ops Γ K wr tc stab) Q i (⟨d,.call { callee:=.value (.func f),args:=args.toArray,argTypes:=tys },ty,pos,es,none⟩::rest) ⟨ρ,M⟩:=
 gC (fun Γ' Y w g hle hw=>XB (hp Γ' hle) (ha g) hw) hw0 rfl ho h
end
end Mk
end
section
open Go Mk
namespace Go.Proofs.YtlimglpjpcfpdaaGreat
set_option maxHeartbeats 4000000
attribute [local irreducible] Calls
theorem D9.imm{Γ Γ0:C8}{v:Value}{sz:Nat}{rows:List (List Value)}(e:Γ0.imm=Γ.imm)(h:D9 Γ0 v sz rows):D9 Γ v sz rows:=by
 unfold D9 at h ⊢
 rw[e]at h;exact h
theorem QR.imm{Γ Γ0:C8}{vs vg:Value}{gs:List N6}{q:G4}(e:Γ0.imm=Γ.imm)(h:QR Γ0 vs vg gs q):QR Γ vs vg gs q:=
 ⟨D9.imm e h.sel,D9.imm e h.goals,h.eq,fun x hx=>D9.imm e (h.ok x hx)⟩
abbrev UT:Type:=WO×WO×List N6
def B2.qr(t:UT)(q:G4):B2 where
 holds m bs _:=bs=[]∧∃Γ:C8,Γ.imm=m∧QR Γ (En t.1) (En t.2.1) t.2.2 q
 loc m m' bs h h' hm _:=by
  rintro⟨h1,Γ,rfl,h2⟩;exact⟨h1,{ Γ with imm:=m' },rfl,h2.mono ⟨hm,rfl,rfl,rfl,rfl⟩⟩
theorem iO{Γ:C8}{S:List B2}{w:World}{t:UT}{q:G4}(hp:QR Γ (En t.1) (En t.2.1) t.2.2 q)(hw:Wd Γ S w):Wd Γ (B2.qr t q::S) w:=by
 obtain⟨bss,h1,h2,h3⟩:=hw.own;exact⟨hw.os,hw.tape,hw.out,hw.dr,hw.imm,[]::bss,⟨⟨rfl,Γ,rfl,hp⟩,h1⟩,by simpa using h2,by simpa using h3⟩
theorem gI{Γ:C8}{S:List B2}{w:World}{t:UT}{q:G4}{i:Nat}(hw:Wd Γ S w)(hi:S[i]? = some (B2.qr t q)):QR Γ (En t.1) (En t.2.1) t.2.2 q:=by
 obtain⟨bss,h1,h2,h3⟩:=hw.own;obtain⟨bs,_,hr⟩:=Holds.get S bss i _ h1 hi
 obtain⟨-,Γ0,e,h⟩:=hr;exact QR.imm e h
abbrev Fj(t:UT)(p:F2)(er:Int):Value:=.tuple #[.agg #[En t.1,En t.2.1],.agg (enc p).toArray,.int .i64 er]
theorem Qu{Γ:C8}{S:List B2}{w:World}(s:ByteArray)(hs:s.size≤1000000){q:G4}{p:F2}{er:Int}(hp:BF s=(q,p,er))(hw:Wd Γ S w) :
  Calls Tryz.prog 9 #[.string s] w fun r w'=>∃Γ' t,Γ.le Γ'∧r=.returned (Fj t p er)∧Wd Γ' (B2.qr t q::S) w':=
 (SC s hs hw).mono fun r w' ⟨Γ',vs,vg,gs,h1,h2,h3,h4⟩=>by
  rw[hp]at h2 h3
  obtain⟨a1,n1,c1,rfl,-,-⟩:=h3.sel.shape;obtain⟨a2,n2,c2,rfl,-,-⟩:=h3.goals.shape;exact⟨Γ',((a1,n1,c1),(a2,n2,c2),gs),h1,h2,iO h3 h4⟩
end Go.Proofs.YtlimglpjpcfpdaaGreat
end
section
open Go Mk
namespace Go.Proofs.YtlimglpjpcfpdaaGreat
set_option maxHeartbeats 16000000
attribute [local irreducible] Calls cI cB I8 V9 p8 I3
end Go.Proofs.YtlimglpjpcfpdaaGreat
end
section
open Go Mk
namespace Go.Proofs.YtlimglpjpcfpdaaGreat
set_option maxHeartbeats 4000000
theorem Ov{db:List F9}{g:H3}:R7 (N8 db) g=R7 db g:=by
 have:N8 (N8 db)=N8 db:=VB I0 db
 unfold R7 Qt;rw[this]
theorem VW{db:List F9}{gs:List H3}:R0 (N8 db) gs=R0 db gs:=by
 have:O1 (N8 db)=O1 db:=by
  funext g
  unfold O1;rw[Ov]
 unfold R0;rw[this]
theorem cn:V0 (cL cV):=Hm.list
end Go.Proofs.YtlimglpjpcfpdaaGreat
end
section
open Go Mk
namespace Go.Proofs.YtlimglpjpcfpdaaGreat
set_option maxHeartbeats 16000000
attribute [local irreducible] Calls cI cB I8 V9 p8 I3
end Go.Proofs.YtlimglpjpcfpdaaGreat
end
section
open Go Mk
namespace Go.Proofs.YtlimglpjpcfpdaaGreat
set_option maxHeartbeats 4000000
structure Valid(q:G4):Prop where
 lim:BY q=true
 shape:w7 q=true
 names:U6 q=true
 num:Ci q=true
 nodup:q.Sel.Nodup
 safe:Ay q=true
end Go.Proofs.YtlimglpjpcfpdaaGreat
end
section
open Go Mk
namespace Go.Proofs.YtlimglpjpcfpdaaGreat
set_option maxHeartbeats 16000000
attribute [local irreducible] Calls cI cB I8 V9 p8 I3 DD
end Go.Proofs.YtlimglpjpcfpdaaGreat
end
section
open Go Mk
namespace Go.Proofs.YtlimglpjpcfpdaaGreat
set_option maxHeartbeats 16000000
attribute [local irreducible] Calls cI cB I8 V9 p8 I3 DD
end Go.Proofs.YtlimglpjpcfpdaaGreat
end
section
open Go Mk
namespace Go.Proofs.YtlimglpjpcfpdaaGreat
set_option maxHeartbeats 16000000
attribute [local irreducible] Calls cI cB I8 V9 p8 I3 DD
end Go.Proofs.YtlimglpjpcfpdaaGreat
end
section
open Go Mk
namespace Go.Proofs.YtlimglpjpcfpdaaGreat
set_option maxHeartbeats 16000000
attribute [local irreducible] Calls
def fm(n:Int):Prop:=0≤n∧n<18446744073709551616
def TO(H:H1):Prop:=∀x∈H.Mems,fm x.Base
class fz(H:H1):Prop where h:TO H
end Go.Proofs.YtlimglpjpcfpdaaGreat
end
section
open Go Mk
namespace Go.Proofs.YtlimglpjpcfpdaaGreat
set_option maxHeartbeats 16000000
def iF(i:Int):Val:=⟨1,i,⟨#[]⟩⟩
def wF(s:ByteArray):Val:=⟨2,0,s⟩
def sF(n:Int):Val:=⟨1,IntKind.i64.wrap n,⟨#[]⟩⟩
def AO:ByteArray:=⟨#[109,97,99,104,105,110,101]⟩
def U3:ByteArray:=⟨#[115,104,97,114,101,115]⟩
def CJ(c:I1):F9:=(P3,[iF c.ID,iF c.Width,iF c.Node,iF c.Speed])
def Mi(c:S2):F9:=(i6,[wF c.Name,iF c.Level,sF c.Size,iF c.Line])
def RV(c:S2)(i:Int):F9:=(U3,[wF c.Name,iF i])
def Qf(l:G3):F9:=(Bd,[iF (if l.B<l.A then l.B else l.A),iF (if l.A<l.B then l.B else l.A),iF l.Latency])
def Zi(m:AW):F9:=(Y6,[wF m.Name,sF m.Base,sF m.Size,iF m.Node,iF m.Latency])
def cd(d:AY):F9:=(g7,[wF d.Name,iF d.Node,iF d.IRQ,sF d.Base,sF d.Size])
def I2(c:S2):List F9:=Mi c::c.Cores.map (RV c)
def Mn(H:H1):List F9:=[(AO,[wF H.Name])]
def Eb(H:H1):List F9:=Mn H++H.Cores.map CJ
def FS(H:H1):List F9:=Eb H++H.Caches.flatMap I2
def Fo(H:H1):List F9:=FS H++H.Links.map Qf
def GF(H:H1):List F9:=Fo H++H.Mems.map Zi
def F8(H:H1):List F9:=GF H++H.Devs.map cd
theorem IOo{α β:Type}{g:α→List β}{l:List α}(k:Nat):((l.take k).flatMap g).length≤(l.flatMap g).length:=by
 have h:(l.flatMap g).length=((l.take k++l.drop k).flatMap g).length:=by rw[List.take_append_drop]
 rw[List.flatMap_append,List.length_append]at h;omega
attribute [local irreducible] Calls I3 F3
end Go.Proofs.YtlimglpjpcfpdaaGreat
end
section
open Go Mk
namespace Go.Proofs.YtlimglpjpcfpdaaGreat
set_option maxHeartbeats 8000000
attribute [local irreducible] Calls
section
variable {P:Program}{n:Nat}{ops:List Oper}{Γ:C8}{K:List B2}{wr tc stab:List (List Nat)}{Q:Fr→World→Prop}{i:Nat}{rest:List Oper}{ρ:Fr}{M:Nat→Fr→List B2}
theorem Bz{c f:Nat}{d:Option Tmp}{ty:TypeId}{pos:String}{es:Array Edge}{args:List Operand}{tys:Array TypeId}{vs:List Value}{v:Value}{X X':List B2}[C7 P f]
  (hcall:∀S w,Wd Γ (X++S) w→Calls P f vs.toArray w fun e w'=>e=.returned v∧Wd Γ (X'++S) w') (h:MSw (mV P n ops Γ K wr tc stab) Q (i+1) rest ⟨D2 ρ d v,H5 M c fun _=>X'⟩)
  (ht:tc.getD i []=[c]:=by exact rfl) (hM:M c=(fun _=>X):=by first|exact B0|exact rfl) (hw0:wr.getD i []=[c]:=by exact rfl) (ha:∀g,EvL (E7 stab.flatten g ρ) args vs:=by intro g;exact v7) :
  MSw (mV P n ops Γ K wr tc stab) Q i (⟨d,.call { callee:=.value (.func f),args:=args.toArray,argTypes:=tys },ty,pos,es,none⟩::rest) ⟨ρ,M⟩:=by
 refine mM (v:=v) _ (fun Y w g hw=>?_) h hw0 rfl
 rw[O2 ht,hM]at hw;refine An (ha g).eqA ((hcall _ _ hw.swapApp).mono fun e w' ⟨h1,h2⟩=>⟨v,h1,?_,fun _=>rfl⟩)
 rw[O2 ht,B0];exact h2.swapApp
end
def nx(L:List Int)(k:Nat)(n:Int):Int:=((if L=[] then 0 else (L.getD (k%L.length) 0)%1073741824)+7*((k / max L.length 1:Nat):Int))%n
theorem J4{L:List Int}{k:Nat}{n:Int}(h:0<n):0≤nx L k n∧nx L k n<n:=⟨Int.emod_nonneg _ (by omega),Int.emod_lt_of_pos _ h⟩
instance:eu 1073741824:=⟨by decide⟩
def K8(bs:Nat)(a:Option Addr)(m c k:Nat):B2:=.blk bs (.cells #[.slice a m c,.int .i64 k] 152)
theorem J3{Γ:C8}{S:List B2}{w:World}{bs:Nat}{a:Option Addr}{m c k:Nat}{L:List Int}{n:Int}(hn0:0<n)(hk:k≤1000000)(hr:D9 Γ (.slice a m c) 1 (A8 L))(hw:Wd Γ (K8 bs a m c k::S) w) :
  Calls Tryz.prog 63 #[.pointer (some ⟨bs,0,none⟩),.int .i64 n] w fun e w'=>e=.returned (.int .i64 (nx L k n))∧Wd Γ (K8 bs a m c (k+1)::S) w':=by
 obtain⟨hn,hnc,hc⟩:=C6 hr
 simp only[A8,List.length_map]at hn
 unfold K8 at hw;refine A9 Tryz.func63 rfl rfl ?_
 iterate 8 (first|refine U9 ?_|(refine V5 ?_;intro w hw))
 obtain⟨v0,hv0⟩:∃v0:Int,v0=(if L=[] then 0 else (L.getD (k%L.length) 0)%1073741824):=⟨_,rfl⟩
 have hvb:0≤v0∧v0<1073741824:=by
  rw[hv0];split
  ·omega
  ·exact⟨Int.emod_nonneg _ (by omega),Int.emod_lt_of_pos _ (by omega)⟩
 refine BW (fun ρ w=>Has ρ [(0,.pointer (some ⟨bs,0,none⟩)),(1,.int .i64 n),(5,.int .i64 v0)]∧Wd Γ (.blk bs (.cells #[.slice a m c,.int .i64 k] 152)::S) w) ?_ ?_
 ·refine A6 ?_;refine A7 rfl (fun h=>?_) (fun h=>?_)
  ·have hm:0<m:=by simp at h;omega
   have hkm:(k:Int).tmod m=((k%m:Nat):Int):=by rw[Int.tmod_eq_emod_of_nonneg (by omega)];exact(Int.natCast_emod k m).symm
   have hlt:k%m<m:=Nat.mod_lt _ hm
   obtain⟨x,hx⟩:=B4 (l:=L) (k:=k%m) (by omega)
   have hx':L[((k%m:Nat):Int).toNat]? = some x:=hx
   have hvx:v0=x%1073741824:=by
    rw[hv0,if_neg (fun e=>by rw[e]at hn;simp at hn;omega),←hn,List.getD_eq_getElem?_getD,hx];rfl
   refine A6 ?_;refine I5 (by kernel_rfl) (by kernel_rfl) hw ?_
   iterate 13 (first|refine Bq ?_|(apply S6;first|(apply Z1;first|refine qP ?_|refine Ut ?_)|refine qY ?_)|(apply L1;first|(apply Z1;first|refine Vo ?_|refine Hr ?_)|refine qG ?_))
   refine qY (v:=.int .i64 ((k%m:Nat):Int)) ?_ (hy:=fun w hw=>by
    rw[←hkm];exact YV rfl rfl (by omega))
   refine EX ?_;clear hw;intro w hw;refine A6 ?_;exact⟨⟨rfl,rfl,by rw[hvx];rfl,trivial⟩,hw⟩
  ·have hm:m=0:=by simp at h;omega
   have hL:L=[]:=List.eq_nil_of_length_eq_zero (by omega)
   refine A6 ?_;exact⟨⟨rfl,rfl,by rw[hv0,if_pos hL];rfl,trivial⟩,hw⟩
 ·rintro ρ w ⟨hρ,hw⟩
  rw[hρ.eq];clear hρ;have hlen:max L.length 1=max m 1:=by rw[hn]
  have hnx:nx L k n=(v0+7*((k / max m 1:Nat):Int))%n:=by unfold nx;rw[←hv0,hlen]
  rw[hnx];clear hnx hlen;have hM:(if (m:Int)<1 then 1 else (m:Int))=((max m 1:Nat):Int):=by
   split <;> omega
  have hMp:0<max m 1:=by omega
  have hq1:(k:Int).tdiv ((max m 1:Nat):Int)=((k / max m 1:Nat):Int):=by rw[Int.tdiv_eq_ediv_of_nonneg (by omega)];rfl
  have hqk:k / max m 1≤k:=Nat.div_le_self _ _
  generalize k / max m 1=q at *
  generalize max m 1=M at *
  have W1:IntKind.i64.wrap ((q:Nat):Int)=((q:Nat):Int):=wrap_i64 (by omega) (by omega)
  refine Br ?_
  refine I5 (by kernel_rfl) (by kernel_rfl) hw ?_
  iterate 10 (first|refine Bq ?_|(apply S6;first|(apply Z1;first|refine qP ?_|refine Ut ?_)|refine qY ?_)|(apply L1;first|(apply Z1;first|refine Vo ?_|refine Hr ?_)|refine qG ?_))
  refine qY (v:=.int .i64 ((M:Nat):Int)) ?_ (hy:=fun w hw=>by rw[←hM];exact RU rfl rfl)
  refine qY (v:=.int .i64 ((q:Nat):Int)) ?_ (hy:=fun w hw=>by
   rw[←W1,←hq1];exact Tk rfl rfl (by omega))
  refine EX ?_;clear hw;intro w hw;refine A6 ?_;refine B1 ?_;intro w hw;have hw:Wd Γ (K8 bs a m c (k+1)::S) w:=hw
  refine A6 ?_;refine⟨_,rfl,H0 rfl ?_,hw⟩
  rw[Int.tmod_eq_emod_of_nonneg (by omega)]
def Lf{α:Type}(lt:α→α→Bool):Nat→List α→List α
 | 0,l=>l
 | k+1,l=>match l[k+1]?,l[k]? with
  | some x,some y=>if lt x y=true then Lf lt k ((l.set (k+1) y).set k x) else l
  | _,_=>l
def EZ{α:Type}(lt:α→α→Bool):Nat→Nat→List α→List α
 | 0,_,l=>l
 | f+1,i,l=>EZ lt f (i+1) (Lf lt i l)
def y7{α:Type}(lt:α→α→Bool)(l:List α):List α:=EZ lt (l.length-1) 1 l
theorem OP{α:Type}{lt:α→α→Bool}{k:Nat}{l:List α}{x y:α}(hx:l[k+1]? = some x)(hy:l[k]? = some y)(h:lt x y=true):Lf lt (k+1) l=Lf lt k ((l.set (k+1) y).set k x):=by
 unfold Lf;rw[hx,hy];simp only[if_pos h];cases k <;> rfl
theorem OK{α:Type}{lt:α→α→Bool}{k:Nat}{l:List α}{x y:α}(hx:l[k+1]? = some x)(hy:l[k]? = some y)(h:¬lt x y=true):Lf lt (k+1) l=l:=by
 unfold Lf;rw[hx,hy];simp only[if_neg h]
theorem JH{α:Type}{lt:α→α→Bool}:∀(k:Nat) (l:List α),(Lf lt k l).length=l.length
 | 0,l=>rfl
 | k+1,l=>by
  unfold Lf;split
  ·split
   ·rw[JH k];simp
   ·rfl
  ·rfl
theorem Jy{α:Type}{lt:α→α→Bool}:∀(f i:Nat) (l:List α),(EZ lt f i l).length=l.length
 | 0,_,_=>rfl
 | f+1,i,l=>by show (EZ lt f (i+1) (Lf lt i l)).length=_;rw[Jy f,JH]
theorem MX{α:Type}{lt:α→α→Bool}(l:List α):(y7 lt l).length=l.length:=Jy _ _ _
def Iq(a b:Int):Bool:=decide (a<b)
theorem QS(xs:List Int):(A8 xs).flatten.all (·.oneCell')=true:=by
 unfold A8;induction xs with
 | nil=>rfl
 | cons x l ih=>simp only[List.map_cons,List.flatten_cons,List.all_append,ih];rfl
theorem QK{xs:List Int}{k:Nat}{x:Int}:(A8 xs).set k [.int .i64 x]=A8 (xs.set k x):=by unfold A8;rw[List.map_set]
theorem Mm{Γ:C8}{S:List B2}{w:World}{v:Value}{xs:List Int}(hr:P6 Γ S v 1 (A8 xs))(hl:xs.length≤1000000)(hw:Wd Γ S w) :
  Calls Tryz.prog 64 #[v] w fun e w'=>∃v',e=.returned v'∧Wd Γ (.own v' 3 1 (A8 (y7 Iq xs))::S) w':=by
 obtain⟨a,n,c,rfl,hn,hnc,hc⟩:=hr.shape;simp only[A8,List.length_map]at hn
 refine A9 Tryz.func64 rfl rfl ?_
 refine A6 ?_;have hw:Wd Γ (.own (.slice none 0 0) 3 1 []::S) w:=Wd.addNil hw
 refine V7 (i:=0) (rows2:=A8 xs) ?_ (hr.cons.rd hw) (h1:=QS xs) (hm:=by simp[A8];exact hn)
 intro v' w hw;obtain⟨q,m,d,rfl,hm,-,-⟩:=hw.own_shape (i:=0) rfl
 simp[A8]at hm
 have hw:Wd Γ (.own (.slice q m d) 3 1 (A8 xs)::S) w:=hw
 refine A6 ?_;refine B5 (fun μ ρ w=>∃(i:Nat) (Y:List Int),1≤i∧(m≤i+μ)∧Y.length=m∧y7 Iq xs=EZ Iq (m-i) i Y∧Has ρ [(3,.slice q m d),(4,.int .i64 i)]∧Wd Γ (.own (.slice q m d) 3 1 (A8 Y)::S) w) m ⟨1,xs,by omega,by omega,hm.symm,by unfold y7;rw[←hm],⟨rfl,rfl,trivial⟩,hw⟩ ?_
 clear hw;rintro μ ρ w ⟨i,Y,hi,hμ,hY,hB,hρ,hw⟩
 rw[hρ.eq];refine A6 ?_;refine A7 rfl (fun h=>?_) (fun h=>?_)
 ·have him:i<m:=by simpa using h
  have hB2:y7 Iq xs=EZ Iq (m-(i+1)) (i+1) (Lf Iq i Y):=by
   rw[hB,show m-i=(m-(i+1))+1 by omega];rfl
  refine A6 ?_;refine B5 (fun μ2 ρ w=>∃(k:Nat) (Z:List Int),μ2=k∧k≤i∧Z.length=m∧Lf Iq i Y=Lf Iq k Z∧Has ρ [(3,.slice q m d),(4,.int .i64 i),(5,.int .i64 k)]∧Wd Γ (.own (.slice q m d) 3 1 (A8 Z)::S) w) i ⟨i,Y,rfl,Nat.le_refl _,hY,rfl,⟨rfl,rfl,rfl,trivial⟩,hw⟩ ?_
  clear hw;rintro μ2 ρ w ⟨k,Z,rfl,hk,hZ,hC,hρ,hw⟩
  rw[hρ.eq];refine Br ?_
  refine Br ?_
  have hnr:m=(A8 Z).length:=by simp[A8];omega
  cases μ2 with
  | zero=>
   refine I5 (by kernel_rfl) (by kernel_rfl) hw ?_
   iterate 3 (first|refine Bq ?_|(apply S6;first|(apply Z1;first|refine qP ?_|refine Ut ?_)|refine qY ?_)|(apply L1;first|(apply Z1;first|refine Vo ?_|refine Hr ?_)|refine qG ?_))
   iterate 10 (refine qGF ?_ rfl)
   refine qY (v:=.bool false) ?_ (hy:=fun w hw=>Bc rfl rfl)
   refine Bq ?_
   clear hw;intro w hw;refine A7 rfl (fun h=>by cases h) (fun _=>?_)
   refine A6 ?_;exact⟨μ-1,by omega,i+1,Z,by omega,by omega,hZ,by rw[hB2,hC];rfl,⟨rfl,rfl,trivial⟩,hw⟩
  | succ k=>
   obtain⟨x,hx⟩:=B4 (l:=Z) (k:=k+1) (by omega)
   obtain⟨y,hy⟩:=B4 (l:=Z) (k:=k) (by omega)
   have e1:(((k+1:Nat):Int)-1)=(k:Int):=by omega
   have hx':Z[((k+1:Nat):Int).toNat]? = some x:=hx
   have hy':Z[(((k+1:Nat):Int)-1).toNat]? = some y:=by rw[e1];exact hy
   refine I5 (by kernel_rfl) (by kernel_rfl) hw ?_
   iterate 1 (first|refine Bq ?_|(apply S6;first|(apply Z1;first|refine qP ?_|refine Ut ?_)|refine qY ?_)|(apply L1;first|(apply Z1;first|refine Vo ?_|refine Hr ?_)|refine qG ?_))
   refine qT (b:=decide ((0:Int)<((k+1:Nat):Int))) (decide_eq_true (by omega)) ?_
   refine EX ?_;clear hw;intro w hw;refine A7 rfl (fun h2=>?_) (fun h2=>?_)
   ·have h2:Iq x y=true:=by simpa[Iq] using h2
    rw[OP hx hy h2]at hC;refine A6 ?_;refine Cq (k:=k+1) (i:=0) ?_
    intro w hw;have hw:Wd Γ (.own (.slice q m d) 3 1 ((A8 Z).set (k+1) [.int .i64 y])::S) w:=hw
    rw[QK]at hw;have hnr:m=(A8 (Z.set (k+1) y)).length:=by simp[A8];omega
    refine A6 ?_;refine Cq (k:=k) (i:=0) ?_ (hx:=by show Value.pointer _=_;rw[show (((k+1:Nat):Int)-1).toNat=k by omega])
    intro w hw;have hw:Wd Γ (.own (.slice q m d) 3 1 ((A8 (Z.set (k+1) y)).set k [.int .i64 x])::S) w:=hw
    rw[QK]at hw;refine A6 ?_;exact⟨k,by omega,k,_,rfl,by omega,by simp;omega,hC,⟨rfl,rfl,by show Value.int .i64 (((k+1:Nat):Int)-1)=_;rw[e1],trivial⟩,hw⟩
   ·have h2:¬Iq x y=true:=by
     have:Iq x y=false:=by simpa[Iq] using h2
     rw[this];simp
    rw[OK hx hy h2]at hC;refine A6 ?_;exact⟨μ-1,by omega,i+1,Z,by omega,by omega,hZ,by rw[hB2,hC],⟨rfl,rfl,trivial⟩,hw⟩
 ·have him:¬i<m:=by simpa using h
  refine A6 ?_;refine⟨_,rfl,_,rfl,?_⟩
  rw[hB,show m-i=0 by omega];exact hw
theorem bO{Γ:C8}{S:List B2}{w:World}{xs:List I1}{nm:ByteArray}{v1 v2 v3 v4 v5:Value}(hr:P6 Γ S v1 4 (xs.map enc))(hl:xs.length≤1000000)(hw:Wd Γ S w) :
  Calls Tryz.prog 65 #[.agg #[.string nm,v1,v2,v3,v4,v5]] w fun e w'=>∃v',e=.returned v'∧Wd Γ (.own v' 3 1 (A8 (xs.map (·.ID)))::S) w':=by
 obtain⟨a,n,c,rfl,hn,hnc,hc⟩:=hr.shape;have hnr:=hn
 simp only[List.length_map]at hn
 refine A9 Tryz.func65 rfl rfl ?_
 refine A6 ?_;refine H9 ?_;intro b1 w hw;have hw:Wd Γ (.blk b1 (.cells #[.string nm,.slice a n c,v2,v3,v4,v5] 69)::S) w:=hw
 have hw:Wd Γ (.own (.slice none 0 0) 3 1 (A8 ((xs.take 0).map (·.ID)))::.blk b1 (.cells #[.string nm,.slice a n c,v2,v3,v4,v5] 69)::S) w:=Wd.addNil hw
 refine A6 ?_;refine B5 (fun μ ρ w=>∃(k:Nat) (q:Option Addr) (m d:Nat),μ+k=n∧Has ρ [(1,.pointer (some ⟨b1,0,none⟩)),(3,.slice q m d),(4,.int .i64 k)]∧Wd Γ (.own (.slice q m d) 3 1 (A8 ((xs.take k).map (·.ID)))::.blk b1 (.cells #[.string nm,.slice a n c,v2,v3,v4,v5] 69)::S) w) n ⟨0,none,0,0,by omega,⟨rfl,rfl,rfl,trivial⟩,hw⟩ ?_
 clear hw;rintro μ ρ w ⟨k,q,m,d,hk,hρ,hw⟩
 have hm:=Q7 (i:=0) hw rfl
 simp only[A8,List.length_map,List.length_take]at hm
 have hr1:P6 Γ (.own (.slice q m d) 3 1 (A8 ((xs.take k).map (·.ID)))::.blk b1 (.cells #[.string nm,.slice a n c,v2,v3,v4,v5] 69)::S) (.slice a n c) 4 (xs.map enc):=hr.cons.cons
 rw[hρ.eq];refine A6 ?_;refine A7 rfl (fun h=>?_) (fun h=>?_)
 ·have hkn:k<n:=by simpa using h
  obtain⟨x,hx⟩:=B4 (l:=xs) (k:=k) (by omega)
  refine A6 ?_;refine B6 [[.int .i64 x.ID]] ?_
  intro ab w hw;refine V7 (i:=1) (rows2:=[[.int .i64 x.ID]]) ?_ (Wd.own_rd (i:=0) hw rfl)
  intro v' w hw;obtain⟨q',m',d',rfl,-,-,-⟩:=hw.own_shape (i:=1) rfl
  have hw:Wd Γ (.own (.slice q' m' d') 3 1 (A8 ((xs.take (k+1)).map (·.ID)))::.blk b1 (.cells #[.string nm,.slice a n c,v2,v3,v4,v5] 69)::S) w:=by
   rw[←GC (f:=fun c:I1=>c.ID) hx];exact hw.drop
  refine A6 ?_;exact⟨μ-1,by omega,k+1,_,_,_,by omega,⟨rfl,rfl,rfl,trivial⟩,hw⟩
 ·have hkn:¬k<n:=by simpa using h
  rw[List.take_of_length_le (by omega)]at hw
  refine A6 ?_;exact⟨_,rfl,_,rfl,hw.dropAt 1⟩
def E5(sh:Int)(j:Int):Int:=(5*j+sh)%64
def Ac(nodes sh n:Int):Prop:=∃j:Int,0≤j∧j<nodes∧n=E5 sh j
def Ks(nodes sh first:Int)(l:List I1):Prop:=∀(i:Nat) (x:I1),l[i]? = some x→x.ID=(3*i+first)%32∧(x.Width=32∨x.Width=39)∧Ac nodes sh x.Node∧1≤x.Speed∧x.Speed≤4
def Fz(sh:Int)(l:G3)(p:Nat×Nat):Prop:=(l.A=E5 sh p.1∧l.B=E5 sh p.2∨l.A=E5 sh p.2∧l.B=E5 sh p.1)∧1≤l.Latency∧l.Latency≤9
def l9(sh:Int)(k:Nat)(l:List G3):Prop:=l.length≤2*k∧∃P:List (Nat×Nat),P.length=l.length∧P.Nodup∧(∀p∈P,p.2<p.1∧p.1<k)∧(∀(i:Nat) (x:G3) (p:Nat×Nat),l[i]? = some x→P[i]? = some p→Fz sh x p)∧∀i,1≤i→i<k→∃j,(i,j)∈P
def JD(i:Nat):ByteArray:=⟨#[114,97,109,UInt8.ofNat (48+i)]⟩
def JA(i:Nat):ByteArray:=⟨#[100,101,118,UInt8.ofNat (48+i)]⟩
def Bi(i:Nat):ByteArray:=⟨#[112,97,105,114,UInt8.ofNat (48+i)]⟩
def Gv(i:Nat):ByteArray:=⟨#[111,119,110,UInt8.ofNat (48+i)]⟩
def Ow(nodes sh:Int)(l:List AW):Prop:=∀(i:Nat) (x:AW),l[i]? = some x→x.Name=JD i∧x.Base=(5-i)*16777216∧(∃e:Nat,12≤e∧e≤19∧x.Size=2 ^ e)∧Ac nodes sh x.Node∧1≤x.Latency∧x.Latency≤9
def Ps(nodes sh irq:Int)(l:List AY):Prop:=∀(i:Nat) (x:AY),l[i]? = some x→x.Name=JA i∧Ac nodes sh x.Node∧x.IRQ=(7*i+irq)%256∧x.Base=4294967296+i*65536∧(∃t:Int,1≤t∧t≤3∧x.Size=4096*t)
def Sq:ByteArray:=⟨#[97,108,108]⟩
def CG(ids:List Int)(p:Nat×Nat):S2:=
 if p.1=3 then ⟨Sq,3,64,1048576,ids⟩ else if p.1=2 then ⟨Bi p.2,2,64,65536,(ids.drop (2*p.2)).take 2⟩ else ⟨Gv p.2,1,32,4096,(ids.drop (2*p.2)).take 1⟩
def Bm(ids:List Int)(k:Nat)(T:List (Nat×Nat)):Prop:=T.Nodup∧T.length≤1+2*k∧∀p∈T,p=(3,0)∨((p.1=2∨p.1=1)∧p.2<k∧2*p.2<ids.length)
def UQ(ids:List Int)(l:List S2):Prop:=∃k T,Bm ids k T∧k≤4∧l=T.map (CG ids)
structure Pb(H:H1)(nodes sh first irq:Int):Prop where
 nd:1≤nodes∧nodes≤6
 sr:0≤sh∧sh<64
 fi:0≤first∧first<32
 iq:0≤irq∧irq<256
 nm:H.Name=⟨#[109]⟩
 nc:1≤H.Cores.length∧H.Cores.length≤8
 co:Ks nodes sh first H.Cores
 li:l9 sh nodes.toNat H.Links
 nm':H.Mems.length≤4
 me:Ow nodes sh H.Mems
 nd':H.Devs.length≤4
 de:Ps nodes sh irq H.Devs
 ca:UQ (y7 Iq (H.Cores.map (·.ID))) H.Caches
theorem o0{α:Type}{l:List α}{y x:α}{i:Nat}(h:(l++[y])[i]? = some x):l[i]? = some x∨(i=l.length∧x=y):=by
 rw[List.getElem?_append]at h;split at h
 ·exact .inl h
 ·rename_i h2
  rcases Nat.eq_or_lt_of_le (Nat.not_lt.1 h2) with e|e
  ·subst e;simp at h;exact .inr ⟨rfl,h.symm⟩
  ·rw[List.getElem?_eq_none (by simp;omega)]at h;cases h
theorem Ks.snoc{nodes sh first:Int}{l:List I1}{x:I1}(h:Ks nodes sh first l)(hx:x.ID=(3*l.length+first)%32∧(x.Width=32∨x.Width=39)∧Ac nodes sh x.Node∧1≤x.Speed∧x.Speed≤4):Ks nodes sh first (l++[x]):=fun i y hy=>by
 rcases o0 hy with h1|⟨rfl,rfl⟩
 ·exact h i y h1
 ·exact hx
theorem Ow.snoc{nodes sh:Int}{l:List AW}{x:AW}(h:Ow nodes sh l)(hx:x.Name=JD l.length∧x.Base=(5-l.length)*16777216∧(∃e:Nat,12≤e∧e≤19∧x.Size=2 ^ e)∧Ac nodes sh x.Node∧1≤x.Latency∧x.Latency≤9):Ow nodes sh (l++[x]):=fun i y hy=>by
 rcases o0 hy with h1|⟨rfl,rfl⟩
 ·exact h i y h1
 ·exact hx
theorem Ps.snoc{nodes sh irq:Int}{l:List AY}{x:AY}(h:Ps nodes sh irq l)(hx:x.Name=JA l.length∧Ac nodes sh x.Node∧x.IRQ=(7*l.length+irq)%256∧x.Base=4294967296+l.length*65536∧(∃t:Int,1≤t∧t≤3∧x.Size=4096*t)):Ps nodes sh irq (l++[x]):=fun i y hy=>by
 rcases o0 hy with h1|⟨rfl,rfl⟩
 ·exact h i y h1
 ·exact hx
theorem l9.start{sh:Int}:l9 sh 1 []:=⟨by simp,[],rfl,List.nodup_nil,by simp,by simp,fun i h1 h2=>by omega⟩
theorem l9.one{sh:Int}{k up:Nat}{l:List G3}{x:G3}(h:l9 sh k l)(hup:up<k)(hx:Fz sh x (k,up)):l9 sh (k+1) (l++[x]):=by
 obtain⟨h1,P,h2,h3,h4,h5,h6⟩:=h;refine⟨by simp;omega,P++[(k,up)],by simp[h2],L8.2 ⟨h3,fun hm=>by have:=h4 _ hm;simp at this⟩,fun p hp=>?_,fun i y p hy hp=>?_,fun i hi hk=>?_⟩
 ·rcases List.mem_append.1 hp with hp|hp
  ·have:=h4 p hp;omega
  ·cases List.mem_singleton.1 hp;dsimp;omega
 ·rcases o0 hy with a|⟨a,rfl⟩
  ·rcases o0 hp with b|⟨b,rfl⟩
   ·exact h5 i y p a b
   ·have:=(List.getElem?_eq_some_iff.1 a).1;omega
  ·subst a;rw[←h2]at hp;simp at hp;subst hp;exact hx
 ·by_cases e:i=k
  ·subst e;exact⟨up,by simp⟩
  ·obtain⟨j,hj⟩:=h6 i hi (by omega);exact⟨j,List.mem_append_left _ hj⟩
theorem l9.two{sh:Int}{k up mo:Nat}{l:List G3}{x y:G3}(h:l9 sh k l)(hk1:1≤k)(hup:up<k)(hmo:mo<k)(hne:mo≠up)(hx:Fz sh x (k,up))(hy:Fz sh y (k,mo)):l9 sh (k+1) (l++[x]++[y]):=by
 obtain⟨h1,P,h2,h3,h4,h5,h6⟩:=h;have hfresh:∀j,(k,j)∉P:=fun j hm=>by have:=h4 _ hm;simp at this
 refine⟨by simp;omega,P++[(k,up)]++[(k,mo)],by simp[h2],L8.2 ⟨L8.2 ⟨h3,hfresh up⟩,fun hm=>?_⟩,fun p hp=>?_,fun i z p hz hp=>?_,fun i hi hk=>?_⟩
 ·rcases List.mem_append.1 hm with hm|hm
  ·exact hfresh mo hm
  ·simp at hm;exact hne hm
 ·rcases List.mem_append.1 hp with hp|hp
  ·rcases List.mem_append.1 hp with hp|hp
   ·have:=h4 p hp;omega
   ·cases List.mem_singleton.1 hp;dsimp;omega
  ·cases List.mem_singleton.1 hp;dsimp;omega
 ·rcases o0 hz with a|⟨a,rfl⟩
  ·have ha:=(List.getElem?_eq_some_iff.1 a).1
   simp at ha
   rcases o0 hp with b|⟨b,rfl⟩
   ·rcases o0 a with a2|⟨a2,rfl⟩
    ·rcases o0 b with b2|⟨b2,rfl⟩
     ·exact h5 i z p a2 b2
     ·have:=(List.getElem?_eq_some_iff.1 a2).1;omega
    ·subst a2;rw[←h2]at b;simp at b;subst b;exact hx
   ·simp at b;omega
  ·simp at a;subst a
   rw[←h2]at hp;simp[List.getElem?_append]at hp;subst hp;exact hy
 ·by_cases e:i=k
  ·subst e;exact⟨up,by simp⟩
  ·obtain⟨j,hj⟩:=h6 i hi (by omega);exact⟨j,List.mem_append_left _ (List.mem_append_left _ hj)⟩
theorem Bm.start{ids:List Int}:Bm ids 0 []:=⟨List.nodup_nil,by simp,by simp⟩
theorem Bm.all{ids:List Int}:Bm ids 0 [(3,0)]:=⟨by simp,by simp,by simp⟩
theorem Bm.step{ids:List Int}{k:Nat}{T:List (Nat×Nat)}(h:Bm ids k T)(hk:2*k<ids.length)(b1 b2:Bool):Bm ids (k+1) (T++(if b1=true then [(2,k)] else [])++(if b2=true then [(1,k)] else [])):=by
 obtain⟨h1,h2,h3⟩:=h;have hfr:∀t,t≠3→(t,k)∉T:=fun t ht hm=>by
  rcases h3 _ hm with h|h
  ·injection h with h4 _;exact ht h4
  ·have:=h.2.1;dsimp at this;omega
 have hold:∀p∈T,p=(3,0)∨((p.1=2∨p.1=1)∧p.2<k+1∧2*p.2<ids.length):=fun p hp=>by
  rcases h3 p hp with h|⟨a,b,c⟩
  ·exact .inl h
  ·exact .inr ⟨a,by omega,c⟩
 cases b1 <;> cases b2 <;> simp only[if_true,if_false,List.append_nil,Bool.false_eq_true]
 ·exact⟨h1,by omega,hold⟩
 ·refine⟨L8.2 ⟨h1,hfr 1 (by decide)⟩,by simp;omega,fun p hp=>?_⟩
  rcases List.mem_append.1 hp with hp|hp
  ·exact hold p hp
  ·cases List.mem_singleton.1 hp;exact .inr ⟨.inr rfl,by dsimp;omega,by dsimp;omega⟩
 ·refine⟨L8.2 ⟨h1,hfr 2 (by decide)⟩,by simp;omega,fun p hp=>?_⟩
  rcases List.mem_append.1 hp with hp|hp
  ·exact hold p hp
  ·cases List.mem_singleton.1 hp;exact .inr ⟨.inl rfl,by dsimp;omega,by dsimp;omega⟩
 ·refine⟨L8.2 ⟨L8.2 ⟨h1,hfr 2 (by decide)⟩,fun hm=>?_⟩,by simp;omega,fun p hp=>?_⟩
  ·rcases List.mem_append.1 hm with hm|hm
   ·exact hfr 1 (by decide) hm
   ·simp at hm
  ·rcases List.mem_append.1 hp with hp|hp
   ·rcases List.mem_append.1 hp with hp|hp
    ·exact hold p hp
    ·cases List.mem_singleton.1 hp;exact .inr ⟨.inl rfl,by dsimp;omega,by dsimp;omega⟩
   ·cases List.mem_singleton.1 hp;exact .inr ⟨.inr rfl,by dsimp;omega,by dsimp;omega⟩
set_option maxHeartbeats 4000000
theorem VL{α:Type}{l:List α}{k:Nat}{x y:α}(hx:l[k+1]? = some x)(hy:l[k]? = some y):((l.set (k+1) y).set k x).Perm l:=by
 induction l generalizing k with
 | nil=>simp at hx
 | cons a l ih=>
  cases k with
  | zero=>
   cases l with
   | nil=>simp at hx
   | cons b l=>
    simp at hx hy
    subst hx hy;exact List.Perm.swap _ _ _
  | succ k=>
   simp only[List.getElem?_cons_succ]at hx hy
   simp only[List.set_cons_succ]
   exact List.Perm.cons _ (ih hx hy)
theorem Pd{α:Type}{lt:α→α→Bool}:∀(k:Nat) (l:List α),(Lf lt k l).Perm l
 | 0,l=>List.Perm.refl _
 | k+1,l=>by
  unfold Lf;split
  ·rename_i x y hx hy
   split
   ·exact(Pd k _).trans (VL hx hy)
   ·exact List.Perm.refl _
  ·exact List.Perm.refl _
theorem Io{α:Type}{lt:α→α→Bool}:∀(f i:Nat) (l:List α),(EZ lt f i l).Perm l
 | 0,_,l=>List.Perm.refl _
 | f+1,i,l=>(Io f (i+1) _).trans (Pd i l)
theorem Fq{α:Type}{lt:α→α→Bool}(l:List α):(y7 lt l).Perm l:=Io _ _ _
def RR{α:Type}(le:α→α→Prop)(l:List α)(p q:Nat):Prop:=∀x y,l[p]? = some x→l[q]? = some y→le x y
structure aQ{α:Type}(le:α→α→Prop)(lt:α→α→Bool):Prop where
 t:∀ {x y},lt x y=true→le x y
 f:∀ {x y},lt x y=false→le y x
 tr:∀ {x y z},le x y→le y z→le x z
theorem Jx{α:Type}{le:α→α→Prop}{lt:α→α→Bool}(hl:aQ le lt):∀(k i:Nat) (l:List α),k≤i→i<l.length→(∀p q,p<q→q≤i→p≠k→q≠k→RR le l p q)→(∀q,k<q→q≤i→RR le l k q)→∀p q,p<q→q≤i→RR le (Lf lt k l) p q
 | 0,i,l,hk,hi,h1,h2,p,q,hpq,hq=>by
  show RR le l p q
  by_cases e:p=0
  ·subst e;exact h2 q hpq hq
  ·exact h1 p q hpq hq e (by omega)
 | k+1,i,l,hk,hi,h1,h2,p,q,hpq,hq=>by
  obtain⟨x,hx⟩:=B4 (l:=l) (k:=k+1) (by omega)
  obtain⟨y,hy⟩:=B4 (l:=l) (k:=k) (by omega)
  by_cases hlt:lt x y=true
  ·rw[OP hx hy hlt];have g0:∀r,r≠k→r≠k+1→((l.set (k+1) y).set k x)[r]? = l[r]?:=fun r a b=>by
    rw[List.getElem?_set_ne (by omega),List.getElem?_set_ne (by omega)]
   have g1:((l.set (k+1) y).set k x)[k]? = some x:=by rw[List.getElem?_set_self (by simp;omega)]
   have g2:((l.set (k+1) y).set k x)[k+1]? = some y:=by rw[List.getElem?_set_ne (by omega),List.getElem?_set_self (by omega)]
   refine Jx hl k i _ (by omega) (by simp;omega) (fun p q hpq hq hp1 hq1=>?_) (fun q hkq hq=>?_) p q hpq hq
   ·intro u v hu hv;by_cases e1:q=k+1
    ·subst e1;rw[g2]at hv;cases hv
     rw[g0 p hp1 (by omega)]at hu
     exact h1 p k (by omega) (by omega) (by omega) (by omega) u y hu hy
    ·rw[g0 q hq1 e1]at hv;by_cases e2:p=k+1
     ·subst e2;rw[g2]at hu;cases hu
      exact h1 k q (by omega) hq (by omega) e1 y v hy hv
     ·rw[g0 p hp1 e2]at hu;exact h1 p q hpq hq e2 e1 u v hu hv
   ·intro u v hu hv;rw[g1]at hu;cases hu
    by_cases e1:q=k+1
    ·subst e1;rw[g2]at hv;cases hv;exact hl.t hlt
    ·rw[g0 q (by omega) e1]at hv
     exact h2 q (by omega) hq x v hx hv
  ·rw[OK hx hy hlt];have hge:le y x:=hl.f (by simpa using hlt)
   by_cases e1:p=k+1
   ·subst e1;exact h2 q hpq hq
   ·by_cases e2:q=k+1
    ·subst e2;intro u v hu hv;rw[hx]at hv;cases hv
     by_cases e3:p=k
     ·subst e3;rw[hy]at hu;cases hu;exact hge
     ·exact hl.tr (h1 p k (by omega) (by omega) e1 (by omega) u y hu hy) hge
    ·exact h1 p q hpq hq e1 e2
theorem Bw{α:Type}{le:α→α→Prop}{lt:α→α→Bool}(hl:aQ le lt):∀(f i:Nat) (l:List α),l.length≤i+f→(∀p q,p<q→q<i→RR le l p q)→∀p q,p<q→RR le (EZ lt f i l) p q
 | 0,i,l,hf,h,p,q,hpq=>by
  intro u v hu hv;have:q<l.length:=(List.getElem?_eq_some_iff.1 hv).1
  exact h p q hpq (by omega) u v hu hv
 | f+1,i,l,hf,h,p,q,hpq=>by
  by_cases hi:i<l.length
  ·refine Bw hl f (i+1) (Lf lt i l) (by rw[JH];omega) (fun p q hpq hq=>?_) p q hpq
   exact Jx hl i i l (Nat.le_refl _) hi (fun p q a b c d=>h p q a (by omega)) (fun q a b=>by omega) p q hpq (by omega)
  ·refine Bw hl f (i+1) (Lf lt i l) (by rw[JH];omega) (fun p q hpq hq=>?_) p q hpq
   have hb:Lf lt i l=l:=by
    cases i with
    | zero=>rfl
    | succ i=>unfold Lf;rw[List.getElem?_eq_none (by omega)]
   rw[hb];intro u v hu hv;have:q<l.length:=(List.getElem?_eq_some_iff.1 hv).1
   exact h p q hpq (by omega) u v hu hv
theorem NI{α:Type}{le:α→α→Prop}{lt:α→α→Bool}(hl:aQ le lt)(l:List α){p q:Nat}(hpq:p<q):RR le (y7 lt l) p q:=
 Bw hl _ 1 l (by omega) (fun p q a b=>by omega) p q hpq
theorem fS:aQ (fun a b:Int=>a≤b) Iq:=⟨fun h=>by unfold Iq at h;simp at h;omega,fun h=>by unfold Iq at h;simp at h;omega,fun a b=>Int.le_trans a b⟩
theorem gF{l:List Int}:AT (y7 Iq l):=fun i a b ha hb=>NI fS l (Nat.lt_succ_self i) a b ha hb
section
variable {H:H1}{nodes sh first irq:Int}
theorem XY(sh j:Int):0≤E5 sh j∧E5 sh j<64:=by unfold E5;omega
theorem CM{sh:Int}{i j:Int}(h0:0≤i)(h1:i<6)(h2:0≤j)(h3:j<6)(h:E5 sh i=E5 sh j):i=j:=by unfold E5 at h;omega
theorem EK(sh j:Int):K3 (E5 sh j)=true:=by
 have:=XY sh j
 simp[K3];omega
theorem Ac.ok{n:Int}(h:Ac nodes sh n):K3 n=true:=by obtain⟨j,-,-,rfl⟩:=h;exact EK sh j
theorem W4{α:Type}{l:List α}{x:α}(h:x∈l):∃i,i<l.length∧l[i]? = some x:=by
 obtain⟨i,hi,he⟩:=List.getElem_of_mem h
 exact⟨i,hi,by rw[List.getElem?_eq_getElem hi,he]⟩
theorem bA{ids:List Int}{k:Nat}{T:List (Nat×Nat)}(h:Bm ids k T)(hk:k≤4){p:Nat×Nat}(hp:p∈T):p=(3,0)∨((p.1=2∨p.1=1)∧p.2<4∧2*p.2<ids.length):=by
 rcases h.2.2 p hp with h|⟨a,b,c⟩
 ·exact .inl h
 ·exact .inr ⟨a,by omega,c⟩
theorem aM{i:Nat}(h:i<4):G7 (JD i)=true:=by
 have:i=0∨i=1∨i=2∨i=3:=by omega
 rcases this with rfl|rfl|rfl|rfl <;> decide +kernel
theorem ce{i:Nat}(h:i<4):G7 (JA i)=true:=by
 have:i=0∨i=1∨i=2∨i=3:=by omega
 rcases this with rfl|rfl|rfl|rfl <;> decide +kernel
theorem Yq{i:Nat}(h:i<4):G7 (Bi i)=true:=by
 have:i=0∨i=1∨i=2∨i=3:=by omega
 rcases this with rfl|rfl|rfl|rfl <;> decide +kernel
theorem cW{i:Nat}(h:i<4):G7 (Gv i)=true:=by
 have:i=0∨i=1∨i=2∨i=3:=by omega
 rcases this with rfl|rfl|rfl|rfl <;> decide +kernel
inductive AJ (ids:List Int):S2→Nat×Nat→Prop
 | all:AJ ids ⟨Sq,3,64,1048576,ids⟩ (3,0)
 | pair {t:Nat}:t<4→2*t<ids.length→AJ ids ⟨Bi t,2,64,65536,(ids.drop (2*t)).take 2⟩ (2,t)
 | own {t:Nat}:t<4→2*t<ids.length→AJ ids ⟨Gv t,1,32,4096,(ids.drop (2*t)).take 1⟩ (1,t)
theorem DF{ids:List Int}{k:Nat}{T:List (Nat×Nat)}(h:Bm ids k T)(hk:k≤4){p:Nat×Nat}(hp:p∈T):AJ ids (CG ids p) p:=by
 rcases bA h hk hp with rfl|⟨a,b,c⟩
 ·exact .all
 ·obtain⟨p1,p2⟩:=p;rcases a with rfl|rfl
  ·exact .pair b c
  ·exact .own b c
theorem OS{ids:List Int}{c:S2}{p:Nat×Nat}(h:AJ ids c p):G7 c.Name=true:=by
 cases h with
 | all=>show G7 Sq=true;decide +kernel
 | pair h=>exact Yq h
 | own h=>exact cW h
theorem Sc{ids:List Int}{c:S2}{p:Nat×Nat}(h:AJ ids c p)(hi:0<ids.length):Bj c=true:=by
 have e64:decide (Ak .and .i64 64 (IntKind.i64.wrap (64-1))=0)=true:=by decide +kernel
 have e32:decide (Ak .and .i64 32 (IntKind.i64.wrap (32-1))=0)=true:=by decide +kernel
 have w64:IntKind.u64.wrap 64=64:=by decide +kernel
 have UW:IntKind.u64.wrap 32=32:=by decide +kernel
 cases h with
 | all=>unfold Bj;dsimp only;rw[e64,w64];simp;omega
 | pair h1 h2=>unfold Bj;dsimp only;rw[e64,w64];simp;omega
 | own h1 h2=>unfold Bj;dsimp only;rw[e32,UW];simp;omega
theorem aW(g:Pb H nodes sh first irq):(y7 Iq (H.Cores.map (·.ID))).length=H.Cores.length:=by rw[MX];simp
theorem Lh(g:Pb H nodes sh first irq):AF H=true:=by
 have hh:AP H=true:=by unfold AP;rw[g.nm];decide +kernel
 obtain⟨k,T,hT,hk,hc⟩:=g.ca;unfold AF;rw[hh];simp only[Bool.true_and,Bool.and_eq_true,List.all_eq_true]
 refine⟨⟨fun c hcm=>?_,fun x hx=>?_⟩,fun x hx=>?_⟩
 ·rw[hc]at hcm;obtain⟨p,hp,rfl⟩:=List.mem_map.1 hcm
  exact OS (DF hT hk hp)
 ·obtain⟨i,hi,he⟩:=W4 hx
  rw[(g.me i x he).1];exact aM (by have:=g.nm';omega)
 ·obtain⟨i,hi,he⟩:=W4 hx
  rw[(g.de i x he).1];exact ce (by have:=g.nd';omega)
theorem RN(g:Pb H nodes sh first irq):U1 H=true:=by
 obtain⟨k,T,hT,hk,hc⟩:=g.ca;have h1:=g.nc
 have h2:=g.nm'
 have h3:=g.nd'
 have h4:=g.li.1
 have h5:=g.nd
 have h6:=hT.2.1
 have h7:H.Caches.length=T.length:=by rw[hc];simp
 unfold U1;simp only[Bool.and_eq_true,decide_eq_true_eq]
 omega
theorem Qe{s:Int}(h0:0≤s)(h:s≤1099511627776):IntKind.u64.wrap (1099511627776-s)=1099511627776-s:=by simp[IntKind.wrap,IntKind.bits,IntKind.signed];omega
theorem TJ{e:Nat}(h1:12≤e)(h2:e≤19):(4096:Int)≤2 ^ e∧(2:Int) ^ e≤524288:=by
 have:e=12∨e=13∨e=14∨e=15∨e=16∨e=17∨e=18∨e=19:=by omega
 rcases this with rfl|rfl|rfl|rfl|rfl|rfl|rfl|rfl <;> decide
theorem Tv(g:l9 sh nodes.toNat H.Links){i:Nat}{x:G3}(hx:H.Links[i]? = some x):∃P:List (Nat×Nat),P.length=H.Links.length∧P.Nodup∧(∃p,P[i]? = some p)∧∀(i:Nat) (x:G3),H.Links[i]? = some x→∃p,P[i]? = some p∧Fz sh x p∧p.2<p.1∧p.1<nodes.toNat:=by
 obtain⟨-,P,h2,h3,h4,h5,-⟩:=g;refine⟨P,h2,h3,?_,fun i x hx=>?_⟩
 ·exact B4 (by have:=(List.getElem?_eq_some_iff.1 hx).1;omega)
 ·obtain⟨p,hp⟩:=B4 (l:=P) (k:=i) (by have:=(List.getElem?_eq_some_iff.1 hx).1;omega)
  exact⟨p,hp,h5 i x p hx hp,h4 p (List.mem_of_getElem? hp)⟩
theorem WB(g:Pb H nodes sh first irq):M4 H=true:=by
 obtain⟨k,T,hT,hk,hc⟩:=g.ca;have hfi:=g.fi
 have hnd:=g.nd
 unfold M4;simp only[Bool.and_eq_true,List.all_eq_true]
 refine⟨fun x hx=>?_,fun c hcm=>?_,fun x hx=>?_⟩
 ·obtain⟨i,hi,he⟩:=W4 hx
  obtain⟨h1,h2,h3,h4,h5⟩:=g.co i x he
  have:=h3.ok
  unfold Aw;rw[this];simp;omega
 ·rw[hc]at hcm;obtain⟨p,hp,rfl⟩:=List.mem_map.1 hcm
  exact Sc (DF hT hk hp) (by rw[aW g];have:=g.nc;omega)
 ·obtain⟨i,hi,he⟩:=W4 hx
  obtain⟨P,-,-,-,hP⟩:=Tv g.li he
  obtain⟨p,hp,⟨h1,h2,h3⟩,h4,h5⟩:=hP i x he
  have hne:E5 sh p.1≠E5 sh p.2:=fun e=>by
   have:=CM (by omega) (by omega) (by omega) (by omega) e
   omega
  unfold Au;rcases h1 with⟨a,b⟩|⟨a,b⟩
  ·rw[a,b,EK,EK];simp[AE];exact⟨hne,by omega⟩
  ·rw[a,b,EK,EK];simp[AE];exact⟨fun e=>hne e.symm,by omega⟩
theorem Ph(g:Pb H nodes sh first irq):J2 H=true:=by
 have h7:=g.nm'
 have h8:=g.nd'
 unfold J2;simp only[Bool.and_eq_true,List.all_eq_true]
 refine⟨fun x hx=>?_,fun x hx=>?_⟩
 ·obtain⟨i,hi,he⟩:=W4 hx
  obtain⟨h1,h2,⟨e,e1,e2,h3⟩,h4,h5,h6⟩:=g.me i x he
  obtain⟨p1,p2⟩:=TJ e1 e2
  unfold FY BB;rw[h4.ok,Qe (by omega) (by omega)]
  simp[AE];omega
 ·obtain⟨i,hi,he⟩:=W4 hx
  obtain⟨h1,h2,h3,h4,t,t1,t2,h5⟩:=g.de i x he
  have:=g.iq
  unfold Fe BB;rw[h2.ok,Qe (by omega) (by omega)]
  simp;omega
theorem VE{i e:Nat}(hi:i<4)(h1:12≤e)(h2:e≤19):(decide (Ak .and .u64 (2 ^ e) (IntKind.u64.wrap (2 ^ e-1))=0)&&decide (Ak .and .u64 ((5-(i:Int))*16777216) (IntKind.u64.wrap (2 ^ e-1))=0))=true:=by
 have a:i=0∨i=1∨i=2∨i=3:=by omega
 have b:e=12∨e=13∨e=14∨e=15∨e=16∨e=17∨e=18∨e=19:=by omega
 rcases a with rfl|rfl|rfl|rfl <;> rcases b with rfl|rfl|rfl|rfl|rfl|rfl|rfl|rfl <;> decide +kernel
theorem Vi(g:Pb H nodes sh first irq):x5 H=true:=by
 have h7:=g.nm'
 have h8:=g.nd'
 unfold x5;simp only[Bool.and_eq_true,List.all_eq_true]
 refine⟨fun x hx=>?_,fun x hx=>?_⟩
 ·obtain⟨i,hi,he⟩:=W4 hx
  obtain⟨h1,h2,⟨e,e1,e2,h3⟩,-⟩:=g.me i x he
  unfold Ia;rw[h2,h3];exact VE (by omega) e1 e2
 ·obtain⟨i,hi,he⟩:=W4 hx
  obtain⟨h1,h2,h3,h4,t,t1,t2,h5⟩:=g.de i x he
  unfold Ie;rw[h4,h5,Int.tmod_eq_emod_of_nonneg (by omega),Int.tmod_eq_emod_of_nonneg (by omega)]
  simp;omega
end
section
variable {H:H1}{nodes sh first irq:Int}
theorem Am{α:Type}:∀ {l:List α},(∀(i j:Nat) (x:α),l[i]? = some x→l[j]? = some x→i=j)→l.Nodup
 | [],_=>List.nodup_nil
 | a::l,h=>List.nodup_cons.2 ⟨fun hm=>by
   obtain⟨i,hi,he⟩:=W4 hm
   have:=h 0 (i+1) a rfl (by simpa using he)
   omega,Am fun i j x hi hj=>by
   have:=h (i+1) (j+1) x (by simpa using hi) (by simpa using hj)
   omega⟩
theorem CZ{α:Type}:∀ {l:List α},l.Nodup→∀ {i j:Nat} {x:α},l[i]? = some x→l[j]? = some x→i=j
 | [],_,i,j,x,h,_=>by simp at h
 | a::l,h,0,0,x,_,_=>rfl
 | a::l,h,0,j+1,x,h1,h2=>by
  simp at h1 h2;subst h1
  exact absurd (List.mem_of_getElem? h2) (List.nodup_cons.1 h).1
 | a::l,h,i+1,0,x,h1,h2=>by
  simp at h1 h2;subst h2
  exact absurd (List.mem_of_getElem? h1) (List.nodup_cons.1 h).1
 | a::l,h,i+1,j+1,x,h1,h2=>by
  simp at h1 h2
  rw[CZ (List.nodup_cons.1 h).2 h1 h2]
theorem S7{α β:Type}{f:α→β}{l:List α}{i:Nat}{y:β}(h:(l.map f)[i]? = some y):∃x,l[i]? = some x∧f x=y:=by
 rw[List.getElem?_map]at h;exact Option.map_eq_some_iff.1 h
theorem IH(g:Pb H nodes sh first irq):(H.Cores.map (·.ID)).Nodup:=Am fun i j x hi hj=>by
 obtain⟨a,ha,rfl⟩:=S7 hi
 obtain⟨b,hb,he⟩:=S7 hj
 have h1:=(g.co i a ha).1
 have h2:=(g.co j b hb).1
 have:=(List.getElem?_eq_some_iff.1 ha).1
 have:=(List.getElem?_eq_some_iff.1 hb).1
 have:=g.nc
 have:=g.fi
 rw[h1,h2]at he;omega
theorem Zu{i j:Nat}(hi:i<4)(hj:j<4)(h:JD i=JD j):i=j:=by
 have a:i=0∨i=1∨i=2∨i=3:=by omega
 have b:j=0∨j=1∨j=2∨j=3:=by omega
 rcases a with rfl|rfl|rfl|rfl <;> rcases b with rfl|rfl|rfl|rfl <;> first|rfl|(revert h;decide +kernel)
theorem XZ{i j:Nat}(hi:i<4)(hj:j<4)(h:JA i=JA j):i=j:=by
 have a:i=0∨i=1∨i=2∨i=3:=by omega
 have b:j=0∨j=1∨j=2∨j=3:=by omega
 rcases a with rfl|rfl|rfl|rfl <;> rcases b with rfl|rfl|rfl|rfl <;> first|rfl|(revert h;decide +kernel)
theorem Vl{i j:Nat}(hi:i<4)(hj:j<4)(h:Bi i=Bi j):i=j:=by
 have a:i=0∨i=1∨i=2∨i=3:=by omega
 have b:j=0∨j=1∨j=2∨j=3:=by omega
 rcases a with rfl|rfl|rfl|rfl <;> rcases b with rfl|rfl|rfl|rfl <;> first|rfl|(revert h;decide +kernel)
theorem ZH{i j:Nat}(hi:i<4)(hj:j<4)(h:Gv i=Gv j):i=j:=by
 have a:i=0∨i=1∨i=2∨i=3:=by omega
 have b:j=0∨j=1∨j=2∨j=3:=by omega
 rcases a with rfl|rfl|rfl|rfl <;> rcases b with rfl|rfl|rfl|rfl <;> first|rfl|(revert h;decide +kernel)
theorem CX{a b:ByteArray}(h:a.data.toList.head?≠b.data.toList.head?):a≠b:=fun e=>h (by rw[e])
theorem SR{ids:List Int}{c d:S2}{p q:Nat×Nat}(h:AJ ids c p)(k:AJ ids d q)(e:c.Name=d.Name):p=q:=by
 cases h with
 | all=>cases k with
  | all=>rfl
  | pair=>exact absurd e (CX (by show some (97:UInt8)≠some 112;decide))
  | own=>exact absurd e (CX (by show some (97:UInt8)≠some 111;decide))
 | pair h1=>cases k with
  | all=>exact absurd e (CX (by show some (112:UInt8)≠some 97;decide))
  | pair h2=>rw[Vl h1 h2 e]
  | own=>exact absurd e (CX (by show some (112:UInt8)≠some 111;decide))
 | own h1=>cases k with
  | all=>exact absurd e (CX (by show some (111:UInt8)≠some 97;decide))
  | pair=>exact absurd e (CX (by show some (111:UInt8)≠some 112;decide))
  | own h2=>rw[ZH h1 h2 e]
theorem Gn{ids:List Int}{c:S2}{p:Nat×Nat}(h:AJ ids c p):c.Cores.Sublist ids:=by
 cases h with
 | all=>exact List.Sublist.refl _
 | pair=>exact(List.take_sublist _ _).trans (List.drop_sublist _ _)
 | own=>exact(List.take_sublist _ _).trans (List.drop_sublist _ _)
theorem Ku{x:G3}{p:Nat×Nat}(h:Fz sh x p):Y2 x=(min (E5 sh p.1) (E5 sh p.2),max (E5 sh p.1) (E5 sh p.2)):=by
 obtain⟨h1,-⟩:=h;unfold Y2;rcases h1 with⟨a,b⟩|⟨a,b⟩
 ·rw[a,b];congr 1 <;> split <;> omega
 ·rw[a,b];congr 1 <;> split <;> omega
theorem OE(g:Pb H nodes sh first irq):(H.Links.map Y2).Nodup:=Am fun i j z hi hj=>by
 obtain⟨a,ha,rfl⟩:=S7 hi
 obtain⟨b,hb,he⟩:=S7 hj
 obtain⟨P,hl,hn,-,hP⟩:=Tv g.li ha
 obtain⟨p,hp,hp1,hp2,hp3⟩:=hP i a ha
 obtain⟨q,hq,hq1,hq2,hq3⟩:=hP j b hb
 have hnd:=g.nd
 rw[Ku hp1,Ku hq1]at he;injection he with e1 e2
 have hpq:p=q:=by
  have c:(E5 sh p.1=E5 sh q.1∧E5 sh p.2=E5 sh q.2)∨(E5 sh p.1=E5 sh q.2∧E5 sh p.2=E5 sh q.1):=by omega
  rcases c with⟨c1,c2⟩|⟨c1,c2⟩
  ·have d1:=CM (by omega) (by omega) (by omega) (by omega) c1
   have d2:=CM (by omega) (by omega) (by omega) (by omega) c2
   exact Prod.ext (by omega) (by omega)
  ·have d1:=CM (by omega) (by omega) (by omega) (by omega) c1
   have d2:=CM (by omega) (by omega) (by omega) (by omega) c2
   omega
 subst hpq;exact CZ hn hp hq
theorem Sm(g:Pb H nodes sh first irq):Y7 H=true:=by
 obtain⟨k,T,hT,hk,hc⟩:=g.ca;have hids:(y7 Iq (H.Cores.map (·.ID))).Nodup:=(Fq _).nodup_iff.2 (IH g)
 unfold Y7;simp only[Bool.and_eq_true,List.all_eq_true,decide_eq_true_eq]
 refine⟨fun c hcm=>?_,⟨⟨⟨⟨⟨IH g,?_⟩,?_⟩,?_⟩,?_⟩,OE g⟩⟩
 ·rw[hc]at hcm;obtain⟨p,hp,rfl⟩:=List.mem_map.1 hcm
  exact hids.sublist (Gn (DF hT hk hp))
 ·rw[hc,List.map_map];refine Am fun i j z hi hj=>?_
  obtain⟨p,hp,rfl⟩:=S7 hi
  obtain⟨q,hq,he⟩:=S7 hj
  have hpq:=SR (DF hT hk (List.mem_of_getElem? hq)) (DF hT hk (List.mem_of_getElem? hp)) he
  subst hpq;exact CZ hT.1 hp hq
 ·refine Am fun i j z hi hj=>?_
  obtain⟨a,ha,rfl⟩:=S7 hi
  obtain⟨b,hb,he⟩:=S7 hj
  rw[(g.me i a ha).1,(g.me j b hb).1]at he;have:=(List.getElem?_eq_some_iff.1 ha).1
  have:=(List.getElem?_eq_some_iff.1 hb).1
  have:=g.nm'
  exact(Zu (by omega) (by omega) he).symm
 ·refine Am fun i j z hi hj=>?_
  obtain⟨a,ha,rfl⟩:=S7 hi
  obtain⟨b,hb,he⟩:=S7 hj
  rw[(g.de i a ha).1,(g.de j b hb).1]at he;have:=(List.getElem?_eq_some_iff.1 ha).1
  have:=(List.getElem?_eq_some_iff.1 hb).1
  have:=g.nd'
  exact(XZ (by omega) (by omega) he).symm
 ·refine Am fun i j z hi hj=>?_
  obtain⟨a,ha,rfl⟩:=S7 hi
  obtain⟨b,hb,he⟩:=S7 hj
  have h1:=(g.de i a ha).2.2.1
  have h2:=(g.de j b hb).2.2.1
  rw[h1,h2]at he;have:=(List.getElem?_eq_some_iff.1 ha).1
  have:=(List.getElem?_eq_some_iff.1 hb).1
  have:=g.nd'
  have:=g.iq
  omega
theorem Um(g:Pb H nodes sh first irq):As H=true:=by
 obtain⟨k,T,hT,hk,hc⟩:=g.ca;unfold As;simp only[List.all_eq_true,List.any_eq_true,decide_eq_true_eq]
 intro c hcm id hid;rw[hc]at hcm;obtain⟨p,hp,rfl⟩:=List.mem_map.1 hcm
 have h1:=(Gn (DF hT hk hp)).subset hid
 have h2:=(Fq _).mem_iff.1 h1
 obtain⟨x,hx,he⟩:=List.mem_map.1 h2
 exact⟨x,hx,he⟩
theorem Yi(g:Pb H nodes sh first irq):Kj H=true:=W8 fun i k a b hki ha hb=>by
 have h7:=g.nm'
 have h8:=g.nd'
 have hm:∀(i:Nat) (x:AW),H.Mems[i]? = some x→i<4∧(T3 x).1=(5-i)*16777216∧(T3 x).2≤(5-i)*16777216+524288∧(T3 x).1<(T3 x).2:=fun i x hx=>by
  obtain⟨-,h2,⟨e,e1,e2,h3⟩,-⟩:=g.me i x hx
  obtain⟨p1,p2⟩:=TJ e1 e2
  have:=(List.getElem?_eq_some_iff.1 hx).1
  unfold T3;dsimp only
  rw[show IntKind.u64.wrap (x.Base+x.Size)=x.Base+x.Size from by simp[IntKind.wrap,IntKind.bits,IntKind.signed];omega]
  omega
 have hd:∀(i:Nat) (x:AY),H.Devs[i]? = some x→i<4∧(i7 x).1=4294967296+i*65536∧(i7 x).2≤4294967296+i*65536+12288∧(i7 x).1<(i7 x).2:=fun i x hx=>by
  obtain⟨-,-,-,h2,t,t1,t2,h3⟩:=g.de i x hx
  have:=(List.getElem?_eq_some_iff.1 hx).1
  unfold i7;dsimp only
  rw[show IntKind.u64.wrap (x.Base+x.Size)=x.Base+x.Size from by simp[IntKind.wrap,IntKind.bits,IntKind.signed];omega]
  omega
 have hr:∀(i:Nat) (a:Int×Int),(HP H)[i]? = some a→(∃x,H.Mems[i]? = some x∧T3 x=a)∨(∃j x,i=H.Mems.length+j∧H.Devs[j]? = some x∧i7 x=a):=fun i a ha=>by
  unfold HP at ha;rw[List.getElem?_append]at ha;split at ha
  ·exact .inl (S7 ha)
  ·rename_i hlt
   obtain⟨x,hx,he⟩:=S7 ha
   simp at hlt hx
   exact .inr ⟨i-H.Mems.length,x,by omega,hx,he⟩
 have key:¬(a.1<b.2∧b.1<a.2):=by
  rcases hr i a ha with⟨x,hx,rfl⟩|⟨j,x,hj,hx,rfl⟩ <;> rcases hr k b hb with⟨y,hy,rfl⟩|⟨l,y,hl,hy,rfl⟩
  ·have:=hm i x hx;have:=hm k y hy;omega
  ·have:=(List.getElem?_eq_some_iff.1 hx).1;omega
  ·have:=hd j x hx;have:=hm k y hy;omega
  ·have:=hd j x hx;have:=hd l y hy;omega
 unfold Ed;simp only[Bool.not_eq_true',Bool.and_eq_false_iff,decide_eq_false_iff_not]
 omega
theorem EF{ls:List G3}{a b c:Int}(h:Reach ls a b)(k:Reach ls b c):Reach ls a c:=by
 induction k with
 | refl=>exact h
 | ab hl _ ih=>exact .ab hl ih
 | ba hl _ ih=>exact .ba hl ih
theorem SH{ls:List G3}{a b:Int}(h:Reach ls a b):Reach ls b a:=by
 induction h with
 | refl=>exact .refl
 | ab hl _ ih=>exact EF (.ba hl .refl) ih
 | ba hl _ ih=>exact EF (.ab hl .refl) ih
theorem XU(g:Pb H nodes sh first irq):Ig H=true:=by
 obtain⟨-,P,h2,h3,h4,h5,h6⟩:=g.li;have hnd:=g.nd
 have r0:∀i:Nat,i<nodes.toNat→Reach H.Links (E5 sh 0) (E5 sh i):=by
  intro i;induction i using Nat.strongRecOn with
  | ind i ih=>
   intro hi;by_cases e:i=0
   ·subst e;exact .refl
   ·obtain⟨j,hj⟩:=h6 i (by omega) hi
    have hji:=(h4 _ hj).1
    dsimp at hji
    obtain⟨n,hn,hp⟩:=W4 hj
    obtain⟨x,hx⟩:=B4 (l:=H.Links) (k:=n) (by omega)
    have hl:=h5 n x _ hx hp
    have hxm:=List.mem_of_getElem? hx
    have hr:=ih j hji (by omega)
    rcases hl.1 with⟨a,b⟩|⟨a,b⟩
    ·dsimp at a b;rw[←a];rw[←b]at hr;exact .ba hxm hr
    ·dsimp at a b;rw[←b];rw[←a]at hr;exact .ab hxm hr
 have hu:∀n∈F7 H,Ac nodes sh n:=fun n hn=>by
  unfold F7 at hn;simp only[List.mem_append,List.mem_map]at hn
  rcases hn with (⟨x,hx,rfl⟩|⟨x,hx,rfl⟩)|⟨x,hx,rfl⟩
  ·obtain⟨i,hi,he⟩:=W4 hx;exact(g.co i x he).2.2.1
  ·obtain⟨i,hi,he⟩:=W4 hx;exact(g.me i x he).2.2.2.1
  ·obtain⟨i,hi,he⟩:=W4 hx;exact(g.de i x he).2.1
 have hr:∀n∈F7 H,Reach H.Links (E5 sh 0) n:=fun n hn=>by
  obtain⟨j,j0,j1,rfl⟩:=hu n hn
  have:=r0 j.toNat (by omega)
  rwa [Int.toNat_of_nonneg j0]at this
 have hlen:0<(F7 H).length:=by have:=g.nc;simp[F7];omega
 obtain⟨s0,hs0⟩:=B4 (l:=F7 H) (k:=0) hlen
 refine W8 fun n hn=>?_
 rw[Hi hs0];exact EF (SH (hr s0 (List.mem_of_getElem? hs0))) (hr n hn)
end
theorem Pf{x:Int}{l:List Int}:Pp x l=true↔x∈l:=by
 unfold Pp;rw[List.any_eq_true];exact⟨fun⟨y,hy,he⟩=>by rw[of_decide_eq_true he];exact hy,fun h=>⟨x,h,decide_eq_true rfl⟩⟩
theorem Fp{a b:List Int}(h:∀x∈a,x∈b):P0 a b=a.length:=by
 unfold P0;rw[List.filter_eq_self.2 fun x hx=>Pf.2 (h x hx)]
theorem QD{a b:List Int}(h:∀x∈a,x∉b):P0 a b=0:=by
 unfold P0;rw[List.filter_eq_nil_iff.2 fun x hx=>by rw[Pf];exact h x hx];rfl
theorem AT.part{l:List Int}(h:AT l)(a b:Nat):AT ((l.drop a).take b):=fun i x y hx hy=>by
 rw[List.getElem?_take]at hx hy
 split at hx
 ·split at hy
  ·rw[List.getElem?_drop]at hx hy
   exact h (a+i) x y hx (by rw[show a+i+1=a+(i+1) by omega];exact hy)
  ·cases hy
 ·cases hx
theorem TC{l:List Int}{t m:Nat}(hm:m≤2){x:Int}(h:x∈(l.drop (2*t)).take m):∃j,j / 2=t∧l[j]? = some x:=by
 obtain⟨i,hi,he⟩:=W4 h
 rw[List.getElem?_take]at he;split at he
 ·rw[List.getElem?_drop]at he;exact⟨2*t+i,by omega,he⟩
 ·cases he
section
variable {H:H1}{nodes sh first irq:Int}
theorem Py{ids:List Int}(hn:ids.Nodup){c d:S2}{p q:Nat×Nat}(h:AJ ids c p)(k:AJ ids d q)(hne:p≠q)(hl:¬d.Level<c.Level):P0 c.Cores d.Cores=0∨(c.Level≠d.Level∧P0 c.Cores d.Cores=c.Cores.length):=by
 have apart:∀ {t s m n:Nat},t≠s→m≤2→n≤2→P0 ((ids.drop (2*t)).take m) ((ids.drop (2*s)).take n)=0:=fun hts hm hn2=>QD fun x hx hx2=>by
  obtain⟨i,hi,hi2⟩:=TC hm hx
  obtain⟨j,hj,hj2⟩:=TC hn2 hx2
  have:=CZ hn hi2 hj2
  omega
 cases h with
 | all=>cases k with
  | all=>exact absurd rfl hne
  | pair=>exact absurd (by dsimp only;omega) hl
  | own=>exact absurd (by dsimp only;omega) hl
 | pair h1 h2=>cases k with
  | all=>exact .inr ⟨by dsimp only;omega,Fp fun x hx=>List.mem_of_mem_drop (List.mem_of_mem_take hx)⟩
  | pair h3 h4=>exact .inl (apart (fun e=>hne (by rw[e])) (by omega) (by omega))
  | own=>exact absurd (by dsimp only;omega) hl
 | own h1 h2=>cases k with
  | all=>exact .inr ⟨by dsimp only;omega,Fp fun x hx=>List.mem_of_mem_drop (List.mem_of_mem_take hx)⟩
  | @pair s h3 h4=>
   rename_i t
   by_cases e:t=s
   ·subst e;refine .inr ⟨by dsimp only;omega,Fp fun x hx=>?_⟩
    exact(List.take_sublist_take_left (by omega)).subset hx
   ·exact .inl (apart e (by omega) (by omega))
  | own h3 h4=>exact .inl (apart (fun e=>hne (by rw[e])) (by omega) (by omega))
theorem LO{ids:List Int}(hs:AT ids){c:S2}{p:Nat×Nat}(h:AJ ids c p):AT c.Cores:=by
 cases h with
 | all=>exact hs
 | pair=>exact hs.part _ _
 | own=>exact hs.part _ _
theorem Xy(g:Pb H nodes sh first irq):Jt H=true:=by
 obtain⟨k,T,hT,hk,hc⟩:=g.ca;have hids:(y7 Iq (H.Cores.map (·.ID))).Nodup:=(Fq _).nodup_iff.2 (IH g)
 refine W8 ⟨fun c hcm=>?_,fun i j a b ha hb=>?_⟩
 ·rw[hc]at hcm;obtain⟨p,hp,rfl⟩:=List.mem_map.1 hcm
  exact LO gF (DF hT hk hp)
 ·rw[hc]at ha hb
  obtain⟨p,hp,rfl⟩:=S7 ha
  obtain⟨q,hq,rfl⟩:=S7 hb
  unfold Dk;by_cases e:i=j
  ·simp[e]
  ·have hne:p≠q:=fun h=>e (by subst h;exact CZ hT.1 hp hq)
   by_cases hl:(CG (y7 Iq (H.Cores.map (·.ID))) q).Level<(CG (y7 Iq (H.Cores.map (·.ID))) p).Level
   ·simp[hl]
   ·rcases Py hids (DF hT hk (List.mem_of_getElem? hp)) (DF hT hk (List.mem_of_getElem? hq)) hne hl with h|⟨h1,h2⟩
    ·rw[h];simp
    ·rw[h2];simp[h1]
theorem Lx(g:Pb H nodes sh first irq):F3 H=0:=by
 simp[F3,Lh g,RN g,WB g,Ph g,Vi g,Sm g,Um g,Xy g,Yi g,XU g]
theorem GH{s:ByteArray}(h:G7 s=true):s.size≤maxS:=by
 unfold G7 at h;simp only[Bool.and_eq_true,decide_eq_true_eq]at h
 unfold maxS;omega
theorem YT{H:H1}(h:AF H=true):QA H:=by
 unfold AF AP at h;simp only[Bool.and_eq_true,List.all_eq_true,decide_eq_true_eq]at h
 obtain⟨⟨⟨⟨⟨-,h0⟩,-⟩,h1⟩,h2⟩,h3⟩:=h;exact⟨by unfold maxS;omega,fun c hc=>GH (h1 c hc),fun c hc=>GH (h2 c hc),fun c hc=>GH (h3 c hc)⟩
theorem eX(g:Pb H nodes sh first irq):QA H:=YT (Lh g)
end
set_option maxHeartbeats 8000000
section
variable {P:Program}{n:Nat}{ops:List Oper}{Γ:C8}{K:List B2}{wr tc stab:List (List Nat)}{Q:Fr→World→Prop}{i:Nat}{rest:List Oper}{ρ:Fr}{M:Nat→Fr→List B2}{T ty:TypeId}{pos:String}{es:Array Edge}{x:Operand}
end
structure V6(H:H1):Prop where
 n:AF H=true
 c:U1 H=true
 r:M4 H=true
 g:J2 H=true
 a:x5 H=true
 u:Y7 H=true
 k:As H=true
 h:Jt H=true
 d:Kj H=true
 o:Ig H=true
theorem Hs{H:H1}:F3 H=0↔V6 H:=by
 constructor
 ·intro h;unfold F3 at h;repeat' split at h
  all_goals first|(exact absurd h (by decide))|skip
  rename_i h1 h2 h3 h4 h5 h6 h7 h8 h9
  simp only[Bool.not_eq_false,Bool.and_eq_true]at h1 h2 h3 h4 h5 h6 h7 h8 h9
  exact⟨h1,h2,h3.1,h3.2,h4,h5,h6,h7,h8,h9⟩
 ·rintro⟨h1,h2,h3,h4,h5,h6,h7,h8,h9,h10⟩;simp[F3,h1,h2,h3,h4,h5,h6,h7,h8,h9,h10]
end Go.Proofs.YtlimglpjpcfpdaaGreat
end
section
open Go Mk
namespace Go.Proofs.YtlimglpjpcfpdaaGreat
set_option maxHeartbeats 4000000
theorem ee{H:H1}(v:V6 H):(H.Cores.map (·.ID)).Nodup:=by
 have h5:=v.u
 unfold Y7 at h5;simp only[Bool.and_eq_true,decide_eq_true_eq]at h5
 exact h5.2.1.1.1.1.1
theorem JO{H:H1}(v:V6 H){c:I1}(hc:c∈H.Cores):(0≤c.ID∧c.ID<32)∧(c.Width=32∨c.Width=39)∧(1≤c.Speed∧c.Speed≤1000000)∧0≤c.Node∧c.Node<64:=by
 have h:=v.r
 unfold M4 at h;simp only[Bool.and_eq_true,List.all_eq_true]at h
 have h:=h.1 c hc
 unfold Aw K3 at h;simp only[Bool.and_eq_true,Bool.or_eq_true,decide_eq_true_eq]at h
 omega
theorem Oj{H:H1}(v:V6 H){c:S2}(hc:c∈H.Caches):(1≤c.Level∧c.Level≤4)∧(16≤c.Line∧c.Line≤256)∧c.Cores.Nodup∧∀i∈c.Cores,i∈H.Cores.map (·.ID):=by
 have h:=v.r
 unfold M4 at h;simp only[Bool.and_eq_true,List.all_eq_true]at h
 have h:=h.2.1 c hc
 unfold Bj at h;simp only[Bool.and_eq_true,decide_eq_true_eq]at h
 have h5:=v.u
 unfold Y7 at h5;simp only[Bool.and_eq_true,List.all_eq_true,decide_eq_true_eq]at h5
 have h6:=v.k
 unfold As at h6;rw[List.all_eq_true]at h6;have h6:=h6 c hc
 rw[List.all_eq_true]at h6;refine⟨by omega,by omega,h5.1 c hc,fun i hi=>?_⟩
 have:=h6 i hi
 rw[List.any_eq_true]at this;obtain⟨x,hx,he⟩:=this;exact List.mem_map.2 ⟨x,hx,of_decide_eq_true he⟩
theorem an{H:H1}(v:V6 H){l:G3}(hl:l∈H.Links):(0≤l.A∧l.A<64)∧(0≤l.B∧l.B<64)∧1≤l.Latency∧l.Latency≤1000000:=by
 have h:=v.r
 unfold M4 at h;simp only[Bool.and_eq_true,List.all_eq_true]at h
 have h:=h.2.2 l hl
 unfold Au K3 AE at h;simp only[Bool.and_eq_true,decide_eq_true_eq]at h
 omega
theorem eZ{H:H1}(v:V6 H){m:AW}(hm:m∈H.Mems):(0≤m.Node∧m.Node<64)∧1≤m.Latency∧m.Latency≤1000000:=by
 have h:=v.g
 unfold J2 at h;simp only[Bool.and_eq_true,List.all_eq_true]at h
 have h:=h.1 m hm
 unfold FY K3 AE at h;simp only[Bool.and_eq_true,decide_eq_true_eq]at h
 omega
theorem eU{H:H1}(v:V6 H){d:AY}(hd:d∈H.Devs):(0≤d.Node∧d.Node<64)∧0≤d.IRQ∧d.IRQ<256:=by
 have h:=v.g
 unfold J2 at h;simp only[Bool.and_eq_true,List.all_eq_true]at h
 have h:=h.2 d hd
 unfold Fe K3 at h;simp only[Bool.and_eq_true,decide_eq_true_eq]at h
 omega
theorem Vj{H:H1}(v:V6 H){c:S2}(hc:c∈H.Caches):c.Cores.length≤32:=by
 obtain⟨-,-,h1,h2⟩:=Oj v hc
 have h3:=(w5 v.c).2.1
 have:=Go.Proofs.YtlimglpjpcfpdaaGreat.nodup_le _ _ h1 h2
 rw[List.length_map]at this;omega
theorem KU{α β:Type}{f:α→List β}{m:Nat}:∀ {l:List α},(∀x∈l,(f x).length≤m)→(l.flatMap f).length≤l.length*m
 | [],_=>by simp
 | x::l,h=>by
  rw[List.flatMap_cons,List.length_append,List.length_cons,Nat.succ_mul];have h1:=h x (by simp)
  have h2:=KU (f:=f) (m:=m) (l:=l) fun y hy=>h y (by simp[hy])
  omega
theorem SZ{H:H1}(v:V6 H):(F8 H).length≤2497:=by
 obtain⟨-,h1,h2,h3,h4,h5⟩:=w5 v.c
 have h6:(H.Caches.flatMap I2).length≤H.Caches.length*33:=KU fun c hc=>by
  have:=Vj v hc
  unfold I2;simp
  omega
 simp only[F8,GF,Fo,FS,Eb,Mn,List.length_append,List.length_map,List.length_singleton]
 omega
theorem XA{H:H1}(v:V6 H):H.Name.size≤24∧(∀c∈H.Caches,c.Name.size≤24)∧(∀c∈H.Mems,c.Name.size≤24)∧∀c∈H.Devs,c.Name.size≤24:=by
 have h:=v.n
 unfold AF AP at h;simp only[Bool.and_eq_true,List.all_eq_true,decide_eq_true_eq]at h
 have k:∀ {s:ByteArray},G7 s=true→s.size≤24:=fun {s} h=>by
  unfold G7 at h;simp only[Bool.and_eq_true,decide_eq_true_eq]at h
  exact h.2
 exact⟨h.1.1.1.1.2,fun c hc=>k (h.1.1.2 c hc),fun c hc=>k (h.1.2 c hc),fun c hc=>k (h.2 c hc)⟩
theorem y8{i:Int}(h:-9223372036854775808≤i∧i≤9223372036854775807):o6 (iF i):=⟨h,by show (⟨#[]⟩:ByteArray).size≤9223372036854775807;decide⟩
theorem Oa(i:Int):o6 (sF i):=y8 (by simp[IntKind.wrap,IntKind.bits,IntKind.signed];omega)
theorem Qg{s:ByteArray}(h:s.size≤24):o6 (wF s):=⟨by show (-9223372036854775808:Int)≤0∧(0:Int)≤9223372036854775807;decide,by show s.size≤9223372036854775807;omega⟩
theorem di{H:H1}(v:V6 H):∀f∈F8 H,Dc f:=by
 obtain⟨n0,n1,n2,n3⟩:=XA v
 intro f h;simp only[F8,GF,Fo,FS,Eb,Mn,List.mem_append,List.mem_map,List.mem_flatMap,List.mem_singleton]at h
 have key:∀ {r:ByteArray} {l:List Val},r.size≤100000→l.length≤100000→(∀v∈l,o6 v)→Dc (r,l):=fun a b c=>⟨b,a,c⟩
 rcases h with ((((h|⟨c,hc,h⟩)|⟨c,hc,h⟩)|⟨c,hc,h⟩)|⟨c,hc,h⟩)|⟨c,hc,h⟩
 ·rw[h];exact key (by decide) (by show 1≤100000;decide) fun x hx=>by rw[List.mem_singleton.1 hx];exact Qg n0
 ·obtain⟨a1,a2,a3,a4⟩:=JO v hc
  rw[←h];refine key (by decide) (by show 4≤100000;decide) fun x hx=>?_
  simp only[List.mem_cons,List.not_mem_nil,or_false]at hx
  rcases hx with rfl|rfl|rfl|rfl <;> exact y8 (by omega)
 ·obtain⟨a1,a2,a3,a4⟩:=Oj v hc
  unfold I2 at h;rcases List.mem_cons.1 h with h|h
  ·rw[h];refine key (by decide) (by show 4≤100000;decide) fun x hx=>?_
   simp only[List.mem_cons,List.not_mem_nil,or_false]at hx
   rcases hx with rfl|rfl|rfl|rfl
   ·exact Qg (n1 c hc)
   ·exact y8 (by omega)
   ·exact Oa _
   ·exact y8 (by omega)
  ·obtain⟨i,hi,rfl⟩:=List.mem_map.1 h
   obtain⟨x,hx,he⟩:=List.mem_map.1 (a4 i hi)
   have:=(JO v hx).1
   refine key (by decide) (by show 2≤100000;decide) fun y hy=>?_
   simp only[List.mem_cons,List.not_mem_nil,or_false]at hy
   rcases hy with rfl|rfl
   ·exact Qg (n1 c hc)
   ·exact y8 (by omega)
 ·obtain⟨a1,a2,a3⟩:=an v hc
  rw[←h];refine key (by decide) (by show 3≤100000;decide) fun x hx=>?_
  simp only[List.mem_cons,List.not_mem_nil,or_false]at hx
  rcases hx with rfl|rfl|rfl
  ·exact y8 (by split <;> omega)
  ·exact y8 (by split <;> omega)
  ·exact y8 (by omega)
 ·obtain⟨a1,a2⟩:=eZ v hc
  rw[←h];refine key (by decide) (by show 5≤100000;decide) fun x hx=>?_
  simp only[List.mem_cons,List.not_mem_nil,or_false]at hx
  rcases hx with rfl|rfl|rfl|rfl|rfl
  ·exact Qg (n2 c hc)
  ·exact Oa _
  ·exact Oa _
  ·exact y8 (by omega)
  ·exact y8 (by omega)
 ·obtain⟨a1,a2⟩:=eU v hc
  rw[←h];refine key (by decide) (by show 5≤100000;decide) fun x hx=>?_
  simp only[List.mem_cons,List.not_mem_nil,or_false]at hx
  rcases hx with rfl|rfl|rfl|rfl|rfl
  ·exact Qg (n3 c hc)
  ·exact y8 (by omega)
  ·exact y8 (by omega)
  ·exact Oa _
  ·exact Oa _
def Zw:ByteArray:=⟨#[67]⟩
def aC:ByteArray:=⟨#[87]⟩
def PU(n:Int):H3:=⟨1,P3,[⟨Zw,O4⟩,⟨aC,O4⟩,⟨F4,iF n⟩,⟨H2,O4⟩],0,AC,AC,0,0,0⟩
def OU(w:Int):H3:=⟨3,F4,[],1,⟨aC,O4⟩,⟨F4,iF w⟩,0,0,0⟩
def WM(n w:Int):G4:=⟨[Zw],[PU n,OU w]⟩
theorem CO(i:Int):M1 (iF i)=true:=by simp[M1,iF]
theorem ac{n w:Int}:JB (WM n w)=[Zw,Zw,aC,F4,H2,aC,F4]:=rfl
theorem Lm{n w:Int}:AK (WM n w)=[Zw,aC]:=by
 unfold AK;rw[ac];decide +kernel
theorem fU{n w:Int}:DD (WM n w)=0:=by
 have h1:BY (WM n w)=true:=by
  unfold BY;rw[Lm];rfl
 have h2:w7 (WM n w)=true:=by
  have e1:P2 (PU n)=true:=by
   simp[P2,PU,AC]
  have e2:P2 (OU w)=true:=by simp[P2,OU]
  show (P2 (PU n)&&(J5 (PU n)).all plainO&&(P2 (OU w)&&(J5 (OU w)).all plainO&&true))=true
  rw[e1,e2];simp[J5,PU,OU,plainO]
 have h3:U6 (WM n w)=true:=by
  have c1:Z0 Zw=true:=by decide +kernel
  have c2:Z0 aC=true:=by decide +kernel
  have c3:G7 P3=true:=by decide +kernel
  have c4:KM P3=false:=by decide +kernel
  have c5:Zw≠F4:=by decide +kernel
  have c6:aC≠F4:=by decide +kernel
  have c7:Zw≠H2:=by decide +kernel
  have c8:aC≠H2:=by decide +kernel
  have c9:H2≠F4:=by decide +kernel
  have c10:F4≠H2:=by decide +kernel
  simp[U6,WM,Dn,PU,OU,J5,GO,J0,CO,c1,c2,c3,c4,c5,c6,c7,c8,c9,c10]
 have h4:Ci (WM n w)=true:=by simp[Ci,WM,PU,OU,Cv]
 have h5:(WM n w).Sel.Nodup:=by simp[WM]
 have h6:Ay (WM n w)=true:=by
  unfold Ay;rw[Lm];show ([Zw,aC].all fun s=>BV ([Zw,aC,F4,H2]) s)=true
  decide +kernel
 simp[DD,h1,h2,h3,h4,h5,h6]
theorem Lt{H:H1}{f:F9}:f∈F8 H∧FW P3 4 f=true↔∃c∈H.Cores,f=CJ c:=by
 have d1:AO≠P3:=by decide +kernel
 have d2:i6≠P3:=by decide +kernel
 have d3:U3≠P3:=by decide +kernel
 have d4:Bd≠P3:=by decide +kernel
 have d5:Y6≠P3:=by decide +kernel
 have d6:g7≠P3:=by decide +kernel
 constructor
 ·rintro⟨h,hs⟩;have hs:f.1=P3:=by
   unfold FW at hs;simp at hs
   exact hs.1
  simp only[F8,GF,Fo,FS,Eb,Mn,List.mem_append,List.mem_map,List.mem_flatMap,List.mem_singleton]at h
  rcases h with ((((h|⟨c,hc,h⟩)|⟨c,hc,h⟩)|⟨c,hc,h⟩)|⟨c,hc,h⟩)|⟨c,hc,h⟩
  ·exact absurd (by rw[h]at hs;exact hs) d1
  ·exact⟨c,hc,h.symm⟩
  ·unfold I2 at h;rcases List.mem_cons.1 h with h|h
   ·exact absurd (by rw[h]at hs;exact hs) d2
   ·obtain⟨i,_,h⟩:=List.mem_map.1 h
    exact absurd (by rw[←h]at hs;exact hs) d3
  ·exact absurd (by rw[←h]at hs;exact hs) d4
  ·exact absurd (by rw[←h]at hs;exact hs) d5
  ·exact absurd (by rw[←h]at hs;exact hs) d6
 ·rintro⟨c,hc,rfl⟩;refine⟨?_,?_⟩
  ·simp only[F8,GF,Fo,FS,Eb,List.mem_append,List.mem_map]
   exact .inl (.inl (.inl (.inl (.inr ⟨c,hc,rfl⟩))))
  ·simp[FW,CJ]
theorem Qr{db:List F9}{q:G4}:L2 (N8 db) q=L2 db q:=by
 unfold L2;refine List.map_congr_left fun g _=>?_
 rw[Ov]
end Go.Proofs.YtlimglpjpcfpdaaGreat
end
section
namespace Go.Proofs.YtlimglpjpcfpdaaGreat
abbrev Pl:=Int×Int
def hk(l:List Pl)(i:Nat):Int:=(l.getD i (0,0)).2
theorem TY{l:List Pl}{i:Nat}{x:Pl}(h:l[i]? = some x):hk l i=x.2:=by unfold hk;rw[List.getD_eq_getElem?_getD,h];rfl
def swp(l:List Pl)(i j:Nat):List Pl:=(l.set i (l.getD j (0,0))).set j (l.getD i (0,0))
theorem FB(l:List Pl)(i j:Nat):(swp l i j).length=l.length:=by simp[swp]
theorem swp_get{l:List Pl}{i j:Nat}(hi:i<l.length)(hj:j<l.length)(k:Nat):(swp l i j)[k]? = if k=j then l[i]? else if k=i then l[j]? else l[k]?:=by
 unfold swp;rw[List.getElem?_set];by_cases h1:j=k
 ·subst h1;rw[if_pos rfl,if_pos (by simpa using hj),if_pos rfl]
  rw[List.getD_eq_getElem?_getD,List.getElem?_eq_getElem hi];rfl
 ·rw[if_neg h1,if_neg (Ne.symm h1),List.getElem?_set];by_cases h2:i=k
  ·subst h2;rw[if_pos rfl,if_pos hi,if_pos rfl,List.getD_eq_getElem?_getD,List.getElem?_eq_getElem hj];rfl
  ·rw[if_neg h2,if_neg (Ne.symm h2)]
theorem Bv{l:List Pl}{i j:Nat}(hi:i<l.length)(hj:j<l.length)(k:Nat):hk (swp l i j) k=if k=j then hk l i else if k=i then hk l j else hk l k:=by
 unfold hk;simp only[List.getD_eq_getElem?_getD,swp_get hi hj]
 split
 ·rfl
 ·split <;> rfl
theorem Jb{l:List Pl}{i j:Nat}(hi:i<l.length)(hj:j<l.length):(swp l i j).Perm l:=by
 rw[List.perm_iff_count];intro a;have e1:l.getD i (0,0)=l[i]:=by rw[List.getD_eq_getElem?_getD,List.getElem?_eq_getElem hi];rfl
 have e2:l.getD j (0,0)=l[j]:=by rw[List.getD_eq_getElem?_getD,List.getElem?_eq_getElem hj];rfl
 unfold swp;rw[e1,e2];by_cases e:i=j
 ·subst e;rw[List.set_set];simp
 ·rw[List.count_set (by simpa using hj),List.count_set hi]
  rw[List.getElem_set_ne e];have h1:(if l[i] == a then 1 else 0)≤l.count a:=by
   split
   ·rename_i h;exact List.one_le_count_iff.2 (by rw[←eq_of_beq h];exact List.getElem_mem ..)
   ·omega
  have h2:(if l[j] == a then 1 else 0)≤l.count a:=by
   split
   ·rename_i h;exact List.one_le_count_iff.2 (by rw[←eq_of_beq h];exact List.getElem_mem ..)
   ·omega
  omega
def l6(l:List Pl)(n:Nat):Prop:=∀k,0<k→k<n→hk l ((k-1) / 2)≤hk l k
def fN(l:List Pl)(j:Nat):Prop:=(∀k,0<k→k<l.length→k≠j→hk l ((k-1) / 2)≤hk l k)∧(0<j→∀k,0<k→k<l.length→(k-1) / 2=j→hk l ((j-1) / 2)≤hk l k)
def Lr(l:List Pl)(i n:Nat):Prop:=(∀k,0<k→k<n→(k-1) / 2≠i→hk l ((k-1) / 2)≤hk l k)∧(0<i→∀k,0<k→k<n→(k-1) / 2=i→hk l ((i-1) / 2)≤hk l k)
theorem ad{l:List Pl}{j:Nat}(h:fN l j)(h0:0<j)(hj:j<l.length)(hlt:hk l j<hk l ((j-1) / 2)):fN (swp l ((j-1) / 2) j) ((j-1) / 2):=by
 have hi:(j-1) / 2<l.length:=by omega
 refine⟨fun k k0 kn ki=>?_,fun i0 k k0 kn kp=>?_⟩
 ·rw[FB]at kn;rw[Bv hi hj,Bv hi hj];by_cases e:k=j
  ·subst e;rw[if_neg (by omega),if_pos rfl,if_pos rfl];omega
  ·rw[if_neg e,if_neg ki];have hd:=h.1 k k0 kn e
   by_cases e2:(k-1) / 2=j
   ·rw[if_pos e2];exact h.2 h0 k k0 kn e2
   ·rw[if_neg e2];by_cases e3:(k-1) / 2=(j-1) / 2
    ·rw[if_pos e3];rw[e3]at hd;omega
    ·rw[if_neg e3];exact hd
 ·rw[FB]at kn;rw[Bv hi hj,Bv hi hj];rw[if_neg (by omega),if_neg (by omega)]
  have hd:=h.1 _ i0 hi (by omega)
  by_cases e:k=j
  ·rw[if_pos e];exact hd
  ·rw[if_neg e,if_neg (by omega)]
   have:=h.1 k k0 kn e
   rw[kp]at this;omega
theorem aT{l:List Pl}{j:Nat}(h:fN l j)(hs:j=0∨hk l ((j-1) / 2)≤hk l j):l6 l l.length:=fun k k0 kn=>by
 by_cases e:k=j
 ·subst e;exact hs.resolve_left (by omega)
 ·exact h.1 k k0 kn e
theorem be{l:List Pl}{x:Pl}(h:l6 l l.length):fN (l++[x]) l.length:=by
 have hq:∀k,k<l.length→hk (l++[x]) k=hk l k:=fun k hk'=>by
  unfold hk;rw[List.getD_eq_getElem?_getD,List.getD_eq_getElem?_getD,List.getElem?_append_left hk']
 refine⟨fun k k0 kn ki=>?_,fun i0 k k0 kn kp=>?_⟩
 ·simp only[List.length_append,List.length_singleton]at kn
  rw[hq k (by omega),hq _ (by omega)];exact h k k0 (by omega)
 ·simp only[List.length_append,List.length_singleton]at kn;omega
theorem Ux{l:List Pl}{i j n:Nat}(h:Lr l i n)(hn:n≤l.length)(hj:j<n)(h0:0<j)(hp:(j-1) / 2=i)(hlt:hk l j<hk l i)(hmin:∀k,0<k→k<n→(k-1) / 2=i→hk l j≤hk l k):Lr (swp l i j) j n:=by
 have hi':i<l.length:=by omega
 have hj':j<l.length:=by omega
 refine⟨fun k k0 kn kp=>?_,fun _ k k0 kn kp=>?_⟩
 ·rw[Bv hi' hj',Bv hi' hj',if_neg kp];by_cases e:(k-1) / 2=i
  ·rw[if_pos e];by_cases e2:k=j
   ·rw[if_pos e2];omega
   ·rw[if_neg e2,if_neg (by omega)];exact hmin k k0 kn e
  ·rw[if_neg e,if_neg (fun e2=>e (by rw[e2];exact hp))]
   by_cases e2:k=i
   ·rw[if_pos e2];subst e2;exact h.2 k0 j h0 hj hp
   ·rw[if_neg e2];exact h.1 k k0 kn e
 ·rw[Bv hi' hj',Bv hi' hj',hp,if_neg (by omega),if_pos rfl,if_neg (by omega),if_neg (by omega)]
  have:=h.1 k k0 kn (by omega)
  rw[kp]at this;exact this
theorem LW{l:List Pl}{i n:Nat}(h:Lr l i n)(hs:∀k,0<k→k<n→(k-1) / 2=i→hk l i≤hk l k):l6 l n:=fun k k0 kn=>by
 by_cases e:(k-1) / 2=i
 ·rw[e];exact hs k k0 kn e
 ·exact h.1 k k0 kn e
theorem WH{l:List Pl}{n:Nat}(h:l6 l l.length)(hn:l.length=n+1):Lr (swp l 0 n) 0 n:=by
 refine⟨fun k k0 kn kp=>?_,fun h0=>absurd h0 (by omega)⟩
 rw[Bv (by omega) (by omega),Bv (by omega) (by omega),if_neg (by omega),if_neg kp,if_neg (by omega),if_neg (by omega)]
 exact h k k0 (by omega)
theorem Vu{l:List Pl}{n:Nat}(h:l6 l n):∀k,k<n→hk l 0≤hk l k:=by
 intro k;induction k using Nat.strongRecOn with
 | ind k ih=>
  intro hk';by_cases e:k=0
  ·subst e;exact Int.le_refl _
  ·have:=h k (by omega) hk'
   have:=ih ((k-1) / 2) (by omega) (by omega)
   omega
theorem Vk{l:List Pl}{n:Nat}(h:l6 l n)(hn:n≤l.length):l6 (l.take n) (l.take n).length:=fun k k0 kn=>by
 simp only[List.length_take]at kn
 have hq:∀m,m<n→hk (l.take n) m=hk l m:=fun m hm=>by
  unfold hk;rw[List.getD_eq_getElem?_getD,List.getD_eq_getElem?_getD,List.getElem?_take_of_lt hm]
 rw[hq k (by omega),hq _ (by omega)]
 exact h k k0 (by omega)
theorem Wk{l:List Pl}{x:Pl}(h:l6 l l.length)(hx:l[0]? = some x):∀y∈l,x.2≤y.2:=fun y hy=>by
 obtain⟨k,hk2⟩:=List.mem_iff_getElem?.1 hy
 have hk1:=(List.getElem?_eq_some_iff.1 hk2).1
 have:=Vu h k hk1
 rw[TY hx,TY hk2]at this;exact this
theorem Va{l L:List Pl}{n:Nat}{x:Pl}(hp:L.Perm l)(hn:L.length=n+1)(hx:L[n]? = some x):(x::L.take n).Perm l:=by
 have h1:L.take n++[x]=L:=by
  have:=List.take_append_drop n L
  obtain⟨hlt,he⟩:=List.getElem?_eq_some_iff.1 hx
  rw[List.drop_eq_getElem_cons hlt,he,List.drop_eq_nil_of_le (by omega)]at this
  exact this
 refine(List.Perm.trans ?_ hp)
 have h2:(x::L.take n).Perm (L.take n++[x]):=List.perm_append_comm (l₁:=[x])
 rw[h1]at h2;exact h2
end Go.Proofs.YtlimglpjpcfpdaaGreat
end
