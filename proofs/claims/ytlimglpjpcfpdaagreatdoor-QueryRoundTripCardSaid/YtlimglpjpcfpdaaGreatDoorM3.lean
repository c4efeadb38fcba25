/- Texts of this proof, one behind another. -/
import Derived.Test.YtlimglpjpcfpdaaGreatDoorM2
import Derived.Laws.MakeOwn
import Derived.Lib.UnsafeStr
import Derived.Lib.Builder
import Derived.Below
import Derived.Shelf.SlLaysF0
import Derived.Shelf.Lays
import Derived.Shelf.LaysM
import Derived.Shelf.Strconv.Itoa4
import Derived.Room.Shelf.Join48
import Derived.Test.YtlimglpjpcfpdaaGreatDoorRows
import Derived.Test.YtlimglpjpcfpdaaGreatDoorTie
import Derived.Test.YtlimglpjpcfpdaaGreatDoorCards
import Derived.ProofKit
import Derived.OpenShut
import Derived.LaidMore
import Derived.Stop.Joined
import Derived.Stop.LaidErr
import Derived.Deep.Slices
import Derived.ReadAgain
import Derived.ChangeMaps5
import Derived.Shelf.Slices.In.SortNone
import Derived.Shelf.Slices.CompactI
import Derived.Sort.EveryDepth
import Derived.Laws.CopyRow
set_option linter.unusedVariables false
set_option linter.unusedSimpArgs false
section
open Go
namespace Mk
attribute [local irreducible] Calls
theorem Mg{P:Program}{n id:Nat}{c:Code}{K:Fr→World→Prop}{Q:Exit→Fr→World→Prop}{ρ:Fr}{w:World}(I:Fr→World→Prop)(h1:W P n c (IQ id (Hs I Q)) ρ w)(h2:∀ρ w,I ρ w→K ρ w):W P n c (IQ id (Hs K Q)) ρ w:=
 h1.mono fun e ρ w h=>by
  cases e with
  | normal=>exact h2 ρ w h
  | exit i=>
   simp only[IQ]at h ⊢
   split <;> rename_i hi <;> simp only[hi,if_true,if_false]at h
   ·exact h2 ρ w h
   ·exact h
  | _=>exact h
theorem CQ{P:Program}{n:Nat}{c:Code}{K:Fr→World→Prop}{Q:Exit→Fr→World→Prop}{ρ:Fr}{w:World}(I:Fr→World→Prop)(h1:W P n c (Hs I Q) ρ w)(h2:∀ρ w,I ρ w→K ρ w):W P n c (Hs K Q) ρ w:=
 h1.mono fun e ρ w h=>by
  cases e with
  | normal=>exact h2 ρ w h
  | _=>exact h
section
variable {P:Program}{n:Nat}{ops:List Oper}{Γ:B5}{K:List B1}{wr tc stab:List (List Nat)}{Q:Fr→World→Prop}{i:Nat}{rest:List Oper}{ρ:Fr}{w:World}{M:Nat→Fr→List B1}{v:Value}{T T':Type}{o:Oper}
variable {ty:TypeId}{pos:String}{es:Array Edge}
theorem LQ{a b d:Fr→List B1}:ML [a,b,d] 1=b:=rfl
theorem t6{a b d:Fr→List B1}:ML [a,b,d] 2=d:=rfl
theorem R0{φ:T→Fr→Prop}{R:T→List B1}{g:Fr}{Z:List B1}(h:Wd Γ (N7 φ R g++Z) w):∃t,φ t g∧Wd Γ (R t++Z) w:=by
 obtain⟨⟨t,ht⟩,hw⟩:=Wd.openEx (S:=Z) h
 exact⟨t,ht,hw⟩
theorem W6{φ:T→Fr→Prop}{R:T→List B1}{g:Fr}{Z:List B1}(t:T)(ht:φ t g)(h:Wd Γ (R t++Z) w):Wd Γ (N7 φ R g++Z) w:=
 Wd.closeEx (X:=fun p:{t:T // φ t g}=>R p.1) ⟨t,ht⟩ h
theorem mM2{c c2:Nat}(m m2:Fr→List B1)(hs:∀Y w g,Wd Γ (K++(E1 tc stab i M g++Y)) w→Step P o (D9 stab.flatten g ρ) w fun u w'=>Wd Γ (K++(E1 tc stab i (K3 (K3 M c m) c2 m2) (C1 g o.dst u)++Y)) w'∧(S2 stab o.dst=false→u=v))
  (h:MSw (mV P n ops Γ K wr tc stab) Q (i+1) rest ⟨C1 ρ o.dst v,K3 (K3 M c m) c2 m2⟩) (hw0:wr.getD i []=[c,c2]) (hg:o.guard=none):MSw (mV P n ops Γ K wr tc stab) Q i (o::rest) ⟨ρ,M⟩:=by
 have hn:Mt.nxt (mV P n ops Γ K wr tc stab) i ⟨ρ,M⟩ ⟨v,K3 (K3 M c m) c2 m2⟩=K3 (K3 M c m) c2 m2:=by
  funext y
  simp only[Mt.nxt,O8.w,hw0]
  unfold K3;by_cases h1:y=c <;> by_cases h2:y=c2 <;> simp[h1,h2]
 refine⟨⟨v,K3 (K3 M c m) c2 m2⟩,⟨fun Γ' Y w g hr hw=>?_⟩,?_⟩
 ·have hΓ:Γ'=Γ:=hr
  subst hΓ;rw[hn];refine⟨fun _=>(hs Y w g hw).mono fun u w' ⟨h1,h2⟩=>⟨Γ',rfl,h1,h2⟩,fun hf=>?_⟩
  rw[S4 hg]at hf;cases hf
 ·simp only[Mt.next,hn];exact h
theorem mS{c:Nat}{F:Fr→List B1}(F':Fr→List B1)
  (hs:∀g w Y,Wd Γ (F (D9 (stab.getD c []) g C8)++(K++Y)) w→Step P o (D9 stab.flatten g ρ) w fun u w'=>(S2 stab o.dst=false→u=v)∧Wd Γ (F' (D9 (stab.getD c []) (C1 g o.dst u) C8)++(K++Y)) w')
  (h:MSw (mV P n ops Γ K wr tc stab) Q (i+1) rest ⟨C1 ρ o.dst v,K3 M c F'⟩) (hM:M c=F:=by first|exact B2|exact LQ|exact t6|exact((A4 (by decide)).trans B2)|exact((A4 (by decide)).trans t6)|exact((A4 (by decide)).trans ((A4 (by decide)).trans t6))|exact((A4 (by decide)).trans ((A4 (by decide)).trans ((A4 (by decide)).trans t6)))|exact((A4 (by decide)).trans ((A4 (by decide)).trans B2))|exact rfl) (hw0:wr.getD i []=[c]:=by exact rfl) (ht:tc.getD i []=[c]:=by exact rfl) (hg:o.guard=none:=by exact rfl) :
  MSw (mV P n ops Γ K wr tc stab) Q i (o::rest) ⟨ρ,M⟩:=by
 refine mM _ (fun Y w g hw=>?_) h hw0 hg
 rw[d9 ht,hM]at hw;refine(hs g w Y hw.swapApp).mono ?_
 rintro u w' ⟨h2,h3⟩
 refine⟨?_,h2⟩
 rw[d9 ht,B2];exact h3.swapApp
theorem mS2{c c2:Nat}{F G:Fr→List B1}(F' G':Fr→List B1)
  (hs:∀g w Y,Wd Γ (F (D9 (stab.getD c []) g C8)++(G (D9 (stab.getD c2 []) g C8)++(K++Y))) w→Step P o (D9 stab.flatten g ρ) w fun u w'=>(S2 stab o.dst=false→u=v)∧Wd Γ (F' (D9 (stab.getD c []) (C1 g o.dst u) C8)++(G' (D9 (stab.getD c2 []) (C1 g o.dst u) C8)++(K++Y))) w')
  (h:MSw (mV P n ops Γ K wr tc stab) Q (i+1) rest ⟨C1 ρ o.dst v,K3 (K3 M c F') c2 G'⟩) (hM:M c=F:=by first|exact B2|exact LQ|exact t6|exact((A4 (by decide)).trans B2)|exact((A4 (by decide)).trans t6)|exact((A4 (by decide)).trans ((A4 (by decide)).trans t6))|exact((A4 (by decide)).trans ((A4 (by decide)).trans ((A4 (by decide)).trans t6)))|exact((A4 (by decide)).trans ((A4 (by decide)).trans B2))|exact rfl) (hM2:M c2=G:=by first|exact B2|exact LQ|exact t6|exact((A4 (by decide)).trans B2)|exact((A4 (by decide)).trans t6)|exact((A4 (by decide)).trans ((A4 (by decide)).trans t6))|exact((A4 (by decide)).trans ((A4 (by decide)).trans ((A4 (by decide)).trans t6)))|exact((A4 (by decide)).trans ((A4 (by decide)).trans B2))|exact rfl) (hw0:wr.getD i []=[c,c2]:=by exact rfl) (ht:tc.getD i []=[c,c2]:=by exact rfl) (hcc:Nat.beq c c2=false:=by exact rfl) (hg:o.guard=none:=by exact rfl) :
  MSw (mV P n ops Γ K wr tc stab) Q i (o::rest) ⟨ρ,M⟩:=by
 have hne:c≠c2:=fun e=>by subst e;simp at hcc
 refine mM2 _ _ (fun Y w g hw=>?_) h hw0 hg
 rw[CV ht,hM,hM2]at hw;have hw1:=(hw.perm (by rw[List.append_assoc];exact(List.perm_append_comm_assoc _ _ _).trans (List.Perm.append_left _ (List.perm_append_comm_assoc _ _ _)))  : Wd Γ (F (D9 (stab.getD c []) g C8)++(G (D9 (stab.getD c2 []) g C8)++(K++Y))) w)
 refine(hs g w Y hw1).mono ?_
 rintro u w' ⟨h2,h3⟩
 refine⟨?_,h2⟩
 rw[CV ht,B2,A4 hne,B2];exact h3.perm (by rw[List.append_assoc];exact((List.perm_append_comm_assoc _ _ _).trans (List.Perm.append_left _ (List.perm_append_comm_assoc _ _ _))).symm)
theorem R5{c dd E by' len sz:Nat}{zs:List Value}{parts:Array (Nat×Operand)}{TT:TypeId}{φ:T→Fr→Prop}{R:T→List B1}(rws:T→List (List Value))[TL P TT E sz by' zs]
  (h:MSw (mV P n ops Γ K wr tc stab) Q (i+1) rest ⟨C1 ρ (some dd) undef,K3 M c (N7 (fun (p:T×Addr) g=>φ p.1 g∧g dd=.slice (some p.2) len len) fun p=>.own (.slice (some p.2) len len) E sz (rws p.1)::R p.1)⟩)
  (hf:∀t g,φ t (D9 (stab.getD c []) g C8)→Q1 (fun i=>some (i*sz,sz)) ((List.range (len*sz)).map fun i=>zs.getD (i%sz) undef) (parts.toList.map fun p=>(p.1,ev (D9 stab.flatten g ρ) p.2))=some (rws t).flatten)
  (hw0:wr.getD i []=[c]:=by exact rfl) (ht:tc.getD i []=[c]:=by exact rfl) (hM:M c=N7 φ R:=by first|exact B2|exact LQ|exact t6|exact((A4 (by decide)).trans B2)|exact((A4 (by decide)).trans t6)|exact((A4 (by decide)).trans ((A4 (by decide)).trans t6))|exact((A4 (by decide)).trans ((A4 (by decide)).trans ((A4 (by decide)).trans t6)))|exact((A4 (by decide)).trans ((A4 (by decide)).trans B2))|exact rfl) (hφ:∀t g u,φ t (D9 (stab.getD c []) g C8)→φ t (D9 (stab.getD c []) (C1 g (some dd) u) C8):=by intro t g u h;exact h)
  (hlen:∀t,(rws t).length=len:=by intro t;rfl) (hr:∀t,(rws t).all (fun r=>Nat.beq r.length sz)=true:=by intro t;rfl) (hbig:Nat.ble (len*sz) 16777216=true:=by exact rfl)
  (hs:(stab.getD c []).contains dd=true:=by exact rfl) (hfr:S2 stab (some dd)=true:=by exact rfl) :
  MSw (mV P n ops Γ K wr tc stab) Q i (⟨some dd,.buildSlice TT len parts,ty,pos,es,none⟩::rest) ⟨ρ,M⟩:=
 mS (v:=undef) (N7 (fun (p:T×Addr) g=>φ p.1 g∧g dd=.slice (some p.2) len len) fun p=>.own (.slice (some p.2) len len) E sz (rws p.1)::R p.1) (fun g w Y hw=>by
  obtain⟨t,h1,hw⟩:=R0 hw
  refine O5 (rws:=rws t) hw (hf t g h1) rfl (hlen t) (fun r hm=>Nat.eq_of_beq_eq_true ((List.all_eq_true.1 (hr t)) r hm)) (Nat.le_of_ble_eq_true hbig) fun a w' hw'=>⟨fun hh=>(by rw[hfr]at hh;cases hh),W6 (t,a) ⟨hφ t g _ h1,?_⟩ hw'⟩
  rw[I0 (by simpa using hs)];exact upd_same _ _ _) h hM hw0 ht rfl
theorem QM{c dd:Nat}{op:Op}{φ:T→Fr→Prop}{R:T→List B1}(u:T→Value)
  (hy:∀t g w Y,φ t (D9 (stab.getD c []) g C8)→Wd Γ (R t++(K++Y)) w→Yields P ⟨some dd,op,ty,pos,es,none⟩ (D9 stab.flatten g ρ) w (u t))
  (h:MSw (mV P n ops Γ K wr tc stab) Q (i+1) rest ⟨C1 ρ (some dd) undef,K3 M c (N7 (fun t g=>φ t g∧g dd=u t) R)⟩)
  (hw0:wr.getD i []=[c]:=by exact rfl) (ht:tc.getD i []=[c]:=by exact rfl) (hM:M c=N7 φ R:=by first|exact B2|exact LQ|exact t6|exact((A4 (by decide)).trans B2)|exact((A4 (by decide)).trans t6)|exact((A4 (by decide)).trans ((A4 (by decide)).trans t6))|exact((A4 (by decide)).trans ((A4 (by decide)).trans ((A4 (by decide)).trans t6)))|exact((A4 (by decide)).trans ((A4 (by decide)).trans B2))|exact rfl) (hφ:∀t g u,φ t (D9 (stab.getD c []) g C8)→φ t (D9 (stab.getD c []) (C1 g (some dd) u) C8):=by intro t g u h;exact h)
  (hs:(stab.getD c []).contains dd=true:=by exact rfl) (hfr:S2 stab (some dd)=true:=by exact rfl) :
  MSw (mV P n ops Γ K wr tc stab) Q i (⟨some dd,op,ty,pos,es,none⟩::rest) ⟨ρ,M⟩:=
 mS (v:=undef) (N7 (fun t g=>φ t g∧g dd=u t) R) (fun g w Y hw=>by
  obtain⟨t,h1,hw⟩:=R0 hw
  refine(hy t g w Y h1 hw).step ⟨fun hh=>(by rw[hfr]at hh;cases hh),W6 t ⟨hφ t g _ h1,?_⟩ hw⟩
  rw[I0 (by simpa using hs)];exact upd_same _ _ _) h hM hw0 ht rfl
theorem w9{c dd j j2 E by' sz m cc m2 c2:Nat}{zs:List Value}{a:Option Addr}{rows:List (List Value)}{TT:TypeId}{x y:Operand}{φ:T→Fr→Prop}{R:T→List B1}(a2:T→Option Addr)(rows2:T→List (List Value))[TL P TT E sz by' zs]
  (h:MSw (mV P n ops Γ K wr tc stab) Q (i+1) rest ⟨C1 ρ (some dd) undef,K3 M c (N7 (fun (p:T×Value) g=>φ p.1 g∧g dd=p.2) fun p=>(R p.1).set j (.own p.2 E sz (rows++rows2 p.1)))⟩)
  (hy:∀t g,φ t (D9 (stab.getD c []) g C8)→ev (D9 stab.flatten g ρ) y=.slice (a2 t) m2 c2) (hw0:wr.getD i []=[c]:=by exact rfl) (ht:tc.getD i []=[c]:=by exact rfl) (hM:M c=N7 φ R:=by first|exact B2|exact LQ|exact t6|exact((A4 (by decide)).trans B2)|exact((A4 (by decide)).trans t6)|exact((A4 (by decide)).trans ((A4 (by decide)).trans t6))|exact((A4 (by decide)).trans ((A4 (by decide)).trans ((A4 (by decide)).trans t6)))|exact((A4 (by decide)).trans ((A4 (by decide)).trans B2))|exact rfl) (hj:∀t,(R t)[j]? = some (.own (.slice a m cc) E sz rows):=by intro t;exact rfl) (hj2:∀t,(R t)[j2]? = some (.own (.slice (a2 t) m2 c2) E sz (rows2 t)):=by intro t;exact rfl)
  (h1:∀t,(rows2 t).flatten.all (·.oneCell')=true:=by intro t;rfl) (hx:∀g,ev (D9 stab.flatten g ρ) x=.slice a m cc:=by intro g;exact rfl)
  (hφ:∀t g u,φ t (D9 (stab.getD c []) g C8)→φ t (D9 (stab.getD c []) (C1 g (some dd) u) C8):=by intro t g u h;exact h)
  (hb:(m+m2)*by'≤140737488355328:=by omega) (h63:m+m2≤9223372036854775807:=by omega) (hl2:∀t,m2=(rows2 t).length:=by intro t;rfl)
  (hs:(stab.getD c []).contains dd=true:=by exact rfl) (hfr:S2 stab (some dd)=true:=by exact rfl) :
  MSw (mV P n ops Γ K wr tc stab) Q i (⟨some dd,.call { callee:=.builtin .append,args:=#[x,y],argTypes:=#[TT,TT] },ty,pos,es,none⟩::rest) ⟨ρ,M⟩:=
 mS (v:=undef) (N7 (fun (p:T×Value) g=>φ p.1 g∧g dd=p.2) fun p=>(R p.1).set j (.own p.2 E sz (rows++rows2 p.1))) (fun g w Y hw=>by
  obtain⟨t,ht1,hw⟩:=R0 hw
  have hjl:j<(R t).length:=(List.getElem?_eq_some_iff.1 (hj t)).1
  have hjl2:j2<(R t).length:=(List.getElem?_eq_some_iff.1 (hj2 t)).1
  have hi:(R t++(K++Y))[j]? = some (.own (.slice a m cc) E sz rows):=by rw[List.getElem?_append_left hjl];exact hj t
  have hi2:(R t++(K++Y))[j2]? = some (.own (.slice (a2 t) m2 c2) E sz (rows2 t)):=by rw[List.getElem?_append_left hjl2];exact hj2 t
  refine Bn hw (hx g) (hy t g ht1) hi (hw.own_rd hi2) (hl2 t) (fun u hu=>(List.all_eq_true.1 (h1 t)) u hu) hb h63 fun v' w' hw'=>⟨fun hh=>(by rw[hfr]at hh;cases hh),W6 (t,v') ⟨hφ t g _ ht1,?_⟩ ?_⟩
  ·rw[I0 (by simpa using hs)];exact upd_same _ _ _
  ·rw[List.set_append_left _ _ hjl]at hw';exact hw') h hM hw0 ht rfl
theorem X6{c0 c b ob dv j:Nat}{cs:Array Value}{E E2 sz2:Nat}{TT:TypeId}{x:Operand}{φ:T→Fr→Prop}{R:T→List B1}{val:T→Value}{rows:T→List (List Value)}[hn:LO P TT 1]
  (h:MSw (mV P n ops Γ K wr tc stab) Q (i+1) rest ⟨ρ,K3 (K3 M c0 fun _=>[]) c (N7 φ fun t=>.blk b (.cells (putCells cs ob [val t]) E)::R t)⟩)
  (hv:∀t g,φ t (D9 (stab.getD c []) g C8)→ev (D9 stab.flatten g ρ) (.tmp dv)=val t) (hw0:wr.getD i []=[c0,c]:=by exact rfl) (ht:tc.getD i []=[c0,c]:=by exact rfl) (hcc:Nat.beq c0 c=false:=by exact rfl) (hM2:M c=N7 φ R:=by first|exact B2|exact LQ|exact t6|exact((A4 (by decide)).trans B2)|exact((A4 (by decide)).trans t6)|exact((A4 (by decide)).trans ((A4 (by decide)).trans t6))|exact((A4 (by decide)).trans ((A4 (by decide)).trans ((A4 (by decide)).trans t6)))|exact((A4 (by decide)).trans ((A4 (by decide)).trans B2))|exact rfl) (hj:∀t,(R t)[j]? = some (.own (val t) E2 sz2 (rows t)):=by intro t;exact rfl) (hx:∀g,ev (D9 stab.flatten g ρ) x=.pointer (some ⟨b,ob,none⟩):=by intro g;exact rfl)
  (hM:M c0=(fun _=>[.blk b (.cells cs E)]):=by exact rfl) (ho:ob+1≤cs.size:=by exact Nat.le_of_ble_eq_true rfl) :
  MSw (mV P n ops Γ K wr tc stab) Q i (⟨none,.store TT x (.tmp dv),ty,pos,es,none⟩::rest) ⟨ρ,M⟩:=
 mS2 (v:=undef) (fun _=>[]) (N7 φ fun t=>.blk b (.cells (putCells cs ob [val t]) E)::R t) (fun g w Y hw=>by
  have hw2:Wd Γ (N7 φ R (D9 (stab.getD c []) g C8)++(.blk b (.cells cs E)::(K++Y))) w:=hw.perm (List.perm_append_comm_assoc _ _ _)
  obtain⟨t,ht1,hw⟩:=R0 hw2
  have hw:Wd Γ (.blk b (.cells cs E)::(R t++(K++Y))) w:=hw.perm List.perm_middle
  have hjl:j<(R t).length:=(List.getElem?_eq_some_iff.1 (hj t)).1
  obtain⟨q1,q2,q3,e1,-,-,-⟩:=hw.own_shape (i:=j+1) (v:=val t) (e:=E2) (sz:=sz2) (rows:=rows t) (by rw[List.getElem?_cons_succ,List.getElem?_append_left hjl];exact hj t)
  refine V6 hn.h hw (hx g) (hv t g ht1) (vs:=[val t]) (by rw[e1];rfl) rfl (fun u hu=>by simp at hu;subst hu;rw[e1];rfl) (i:=0) rfl ho fun w' hw'=>⟨fun _=>rfl,?_⟩
  exact W6 (R:=fun t=>.blk b (.cells (putCells cs ob [val t]) E)::R t) t ht1 hw') h hM hM2 hw0 ht hcc rfl
theorem W1{id:Nat}{l:List Oper}{QQ:Exit→Fr→World→Prop}(K X0 X1 X2:List B1)(N1 N2:List Nat)(wr tc:List (List Nat))(hw:Wd Γ (K++(X0++(X1++X2))) w)
  (h:MSw (mV P n l Γ K wr tc [[],N1,N2]) (fun ρ w=>QQ .normal ρ w) 0 l ⟨ρ,ML [fun _=>X0,N7 (T:=Unit) (fun _ _=>True) (fun _=>X1),N7 (T:=Unit) (fun _ _=>True) (fun _=>X2)]⟩)
  (hm:P.follows .mixedOrders=true:=by kernel_rfl) (hk:M1 n l wr tc [[],N1,N2]=true:=by kernel_rfl):W P n (.region id l.toArray true) QQ ρ w:=
 Bo K [fun _=>X0,N7 (T:=Unit) (fun _ _=>True) (fun _=>X1),N7 (T:=Unit) (fun _ _=>True) (fun _=>X2)] wr tc [[],N1,N2] (by
  show Wd Γ (K++(X0++(N7 (T:=Unit) (fun _ _=>True) (fun _=>X1) (D9 N1 ρ C8)++(N7 (T:=Unit) (fun _ _=>True) (fun _=>X2) (D9 N2 ρ C8)++[])))) w
  rw[List.append_nil];have h1:Wd Γ (X1++(X2++(K++X0))) w:=hw.perm (by
   rw[←List.append_assoc,←List.append_assoc X1];exact List.perm_append_comm)
  have h2:Wd Γ (N7 (T:=Unit) (fun _ _=>True) (fun _=>X1) (D9 N1 ρ C8)++(X2++(K++X0))) w:=W6 () trivial h1
  have h3:Wd Γ (X2++(N7 (T:=Unit) (fun _ _=>True) (fun _=>X1) (D9 N1 ρ C8)++(K++X0))) w:=h2.perm (List.perm_append_comm_assoc _ _ _)
  have h4:Wd Γ (N7 (T:=Unit) (fun _ _=>True) (fun _=>X2) (D9 N2 ρ C8)++(N7 (T:=Unit) (fun _ _=>True) (fun _=>X1) (D9 N1 ρ C8)++(K++X0))) w:=W6 () trivial h3
  have h5:Wd Γ (N7 (T:=Unit) (fun _ _=>True) (fun _=>X1) (D9 N1 ρ C8)++(N7 (T:=Unit) (fun _ _=>True) (fun _=>X2) (D9 N2 ρ C8)++(K++X0))) w:=h4.perm (List.perm_append_comm_assoc _ _ _)
  exact h5.perm (by
   rw[←List.append_assoc,←List.append_assoc K];exact List.perm_append_comm)) h hm hk
theorem x9{N1 N2:List Nat}{φ:T→Fr→Prop}{R:T→List B1}(h:∀t w g,φ t (D9 N1 g C8)→Wd Γ (R t++K) w→Q (D9 [[],N1,N2].flatten g ρ) w)(hM0:M 0=fun _=>[]:=by exact rfl)(hM:M 1=N7 φ R:=by first|exact B2|exact LQ|exact t6|exact((A4 (by decide)).trans B2)|exact((A4 (by decide)).trans t6)|exact((A4 (by decide)).trans ((A4 (by decide)).trans t6))|exact((A4 (by decide)).trans ((A4 (by decide)).trans ((A4 (by decide)).trans t6)))|exact((A4 (by decide)).trans ((A4 (by decide)).trans B2))|exact rfl):MSw (mV P n ops Γ K wr tc [[],N1,N2]) Q i [] ⟨ρ,M⟩:=
 j0 fun w g hw=>by
  have hw1:Wd Γ (K++(M 0 (D9 [] g C8)++(M 1 (D9 N1 g C8)++(M 2 (D9 N2 g C8)++[])))) w:=hw
  rw[hM0,hM,List.nil_append]at hw1;have hw2:Wd Γ (N7 φ R (D9 N1 g C8)++(K++(M 2 (D9 N2 g C8)++[]))) w:=hw1.swapApp
  obtain⟨t,ht,hw3⟩:=R0 hw2
  exact h t w g ht (Wd.left (S:=R t++K) (by rw[List.append_assoc];exact hw3))
end
class PS(P:Program)(Γ:B5)(S:List B1)(f:Nat)(args:List Value)(v:outParam Value):Prop where
 h:∀Y w,Wd Γ (S++Y) w→Calls P f args.toArray w fun e w'=>e=.returned v∧Wd Γ (S++Y) w'
section
variable {P:Program}{n:Nat}{ops:List Oper}{opa:Array Oper}{Γ:B5}{S K:List B1}{Q:Fr→World→Prop}{QQ:Exit→Fr→World→Prop}{ρ:Fr}{w:World}{rest:List Oper}{wr tc stab:List (List Nat)}{i:Nat}{M:Nat→Fr→List B1}
variable {d:Option Tmp}{ty:TypeId}{pos:String}{es:Array Edge}{v:Value}{f:Nat}{args:List Operand}{tys:Array TypeId}{vs:List Value}{j dj:Nat}{want c:Bool}{g:Option (Nat×Bool)}
theorem RE{Y:List B1}[B9 P f](hp:PS P Γ S f vs v)(ha:EvL ρ args vs)(hw:Wd Γ (S++Y) w):Step P ⟨d,.call { callee:=.value (.func f),args:=args.toArray,argTypes:=tys },ty,pos,es,g⟩ ρ w fun u w'=>u=v∧Wd Γ (S++Y) w':=
 Az ha.eqA ((hp.h Y w hw).mono fun _ _ ⟨h1,h2⟩=>⟨v,h1,rfl,h2⟩)
theorem RP[B9 P f](h:Qw P n ops Γ S Q rest (C1 ρ d v))(ha:EvL ρ args vs:=by exact u7)(hp:PS P Γ S f vs v:=by infer_instance) :
  Qw P n ops Γ S Q (⟨d,.call { callee:=.value (.func f),args:=args.toArray,argTypes:=tys },ty,pos,es,none⟩::rest) ρ:=
 RD rfl rfl (fun _ _ hw=>RE hp ha hw) h
theorem QI[B9 P f](h:Qw P n ops Γ S Q rest (C1 ρ d (gv c v)))(hj:(ops[j]?).bind (·.dst)=some dj:=by exact rfl)(hc:E4 (ρ dj) want c:=by exact GF)(ha:c=true→EvL ρ args vs:=by intro hc;exact Gf)(hp:PS P Γ S f vs v:=by infer_instance) :
  Qw P n ops Γ S Q (⟨d,.call { callee:=.value (.func f),args:=args.toArray,argTypes:=tys },ty,pos,es,some (j,want)⟩::rest) ρ:=
 OL rfl hj hc rfl (fun ht _ _ hw=>RE hp (ha ht) hw) h
end
theorem LA{zs:List Value}{sz:Nat}(hz:zs.length=sz)(h0:0<sz):∀n:Nat,(madeCells zs.toArray (n*sz)).toList=(List.replicate n zs).flatten:=fun n=>by
 unfold madeCells;simp only[Array.toList_map,Array.toList_range,List.size_toArray,hz]
 have hf:∀i:Nat,zs.toArray[i%sz]! = zs.getD (i%sz) undef:=fun i=>by
  have hlt:i%sz<zs.length:=by rw[hz];exact Nat.mod_lt _ h0
  rw[getElem!_pos (zs.toArray) _ (by simpa using hlt)]
  simp[List.getD_eq_getElem?_getD,List.getElem?_eq_getElem hlt]
 simp only[hf]
 induction n with
 | zero=>simp
 | succ n ih=>
  rw[show (n+1)*sz=sz+n*sz from by rw[Nat.add_mul];omega,List.range_add,List.map_append,List.map_map,List.replicate_succ,List.flatten_cons,←ih]
  congr 1
  ·refine List.ext_getElem? fun i=>?_
   rw[List.getElem?_map];by_cases hi:i<sz
   ·rw[List.getElem?_range hi];simp only[Option.map_some,Nat.mod_eq_of_lt hi]
    rw[List.getD_eq_getElem?_getD,List.getElem?_eq_getElem (by omega)];rfl
   ·rw[List.getElem?_eq_none (by simpa using hi),List.getElem?_eq_none (by omega)];rfl
  ·refine List.map_congr_left fun i _=>?_
   simp
section
variable {P:Program}{n:Nat}{opa:Array Oper}{Γ:B5}{S:List B1}{QQ:Exit→Fr→World→Prop}{ρ:Fr}{w:World}{rest:List Oper}{K:Value→World→Prop}
variable {d:Option Tmp}{T ty:TypeId}{pos:String}{es:Array Edge}{g:Option (Nat×Bool)}{x y:Operand}
theorem Gp{E by' len sz:Nat}{zs:List Value}[hT:TL P T E sz by' zs](hw:Wd Γ S w)(hx:ev ρ x=.int .i64 (len:Nat))(hy:ev ρ y=.int .i64 (len:Nat))(hb:(by':Int)*len≤281474976710656)(h63:(len:Int)≤9223372036854775807)
  (hk:∀a w',Wd Γ (.own (.slice (some a) len len) E sz (List.replicate len zs)::S) w'→K (.slice (some a) len len) w'):Step P ⟨d,.makeSlice T x y,ty,pos,es,g⟩ ρ w K:=by
 obtain⟨q,z,hq,hz,hzc⟩:=Q2 hT.z
 obtain⟨q',hq',hs,hb'⟩:=N5 hT.s
 rw[hq]at hq';cases hq'
 have hrun:=run_make (P:=P) w T E q z hT.h hq hz .i64 .i64 (len:Int) (len:Int) (by omega) (Int.le_refl _) (by rw[hb'];exact hb) h63
 rw[hzc,hs]at hrun;have hr0:(execOp (ev ρ) ⟨d,.makeSlice T x y,ty,pos,es,g⟩).run P w=.ok (.value (.slice (some ⟨w.heap.size,0,none⟩) len len)) (w.alloc (.cells (madeCells zs.toArray (len*sz)) E)):=by
  simp only[execOp,hx,hy,Sem.run_bind,hrun,Result.andThen_ok,Int.toNat_natCast]
  rfl
 have hrows:=LA hT.n.1 hT.n.2 len
 have hfin:=hk ⟨w.heap.size,0,none⟩ (w.alloc (.cells (madeCells zs.toArray (len*sz)) E)) (hw.add (bs:=[w.heap.size]) ⟨rfl,rfl,rfl,(by first|exact Nat.le_refl _|exact Nat.le_succ _),by simp⟩ (by
  unfold B1.own;refine⟨fun r hr=>by rw[List.eq_of_mem_replicate hr];exact hT.n.1,_,_,_,rfl,(by simp),Nat.le_refl _,by simp[maxLen];omega,.inr ⟨w.heap.size,madeCells zs.toArray (len*sz),rfl,rfl,heap_alloc_new w _,size_madeCells _ _,?_⟩⟩
  rw[hrows,List.take_of_length_le];rw[←hrows,Array.length_toList,size_madeCells];exact Nat.le_refl _) (by simp) (by simp) fun k hk=>heap_alloc_old w _ hk)
 unfold Step;rw[hr0];exact hfin
theorem Aq{E by' len sz:Nat}{zs:List Value}[hT:TL P T E sz by' zs](h:∀a w',Wd Γ (.own (.slice (some a) len len) E sz (List.replicate len zs)::S) w'→L P n opa QQ rest (C1 ρ d (.slice (some a) len len)) w')
  (hw:Wd Γ S w:=by exact hw) (hx:ev ρ x=.int .i64 (len:Nat):=by exact rfl) (hy:ev ρ y=.int .i64 (len:Nat):=by exact rfl) (hb:(by':Int)*len≤281474976710656:=by omega) (h63:(len:Int)≤9223372036854775807:=by omega) (hd:F5 n d=true:=by exact rfl) :
  L P n opa QQ (⟨d,.makeSlice T x y,ty,pos,es,none⟩::rest) ρ w:=H7 rfl hd (Gp hw hx hy hb h63 h)
end
theorem KE{Γ Γ':B5}{w:World}(hle:Γ.le Γ')(h:Wd Γ' [] w):Wd Γ [] w:=by
 obtain⟨h1,h2,h3,h4,h5,-⟩:=h;exact⟨h1.trans hle.os,h2.trans hle.tape,h3.trans hle.out,by rw[←hle.dr];exact h4,fun b o hb=>h5 b o (hle.imm b o hb),[],trivial,by simp,by simp⟩
section
variable {P:Program}{n:Nat}{ops:List Oper}{Γ:B5}{K:List B1}{wr tc stab:List (List Nat)}{Q:Fr→World→Prop}{i:Nat}{rest:List Oper}{ρ:Fr}{M:Nat→Fr→List B1}
variable {d:Option Tmp}{op:Op}{ty:TypeId}{pos:String}{es:Array Edge}{j dj:Nat}{want:Bool}
end
section
variable {P:Program}{n:Nat}{ops:List Oper}{Γ:B5}{K:List B1}{wr tc stab:List (List Nat)}{Q:Fr→World→Prop}{i:Nat}{rest:List Oper}{ρ:Fr}{M:Nat→Fr→List B1}
variable {d:Option Tmp}{op:Op}{ty:TypeId}{pos:String}{es:Array Edge}{j dj:Nat}{want:Bool}
end
theorem Mo{P:Program}{ρ:Fr}{w:World}{d:Option Tmp}{T ty:TypeId}{pos:String}{es:Array Edge}{g:Option (Nat×Bool)}{x:Operand}{k:IntKind}{a:Int}(hx:ev ρ x=.int k a):Yields P ⟨d,.unOp .neg T x,ty,pos,es,g⟩ ρ w (.int k (k.wrap (-a))):=by
 unfold Yields;simp[execOp,go_sem,hx,Op.unary,Op.intArith]
end Mk
end
section
open Go Mk
namespace Go.Proofs.YtlimglpjpcfpdaaGreatDoor
set_option maxHeartbeats 4000000
attribute [local irreducible] Calls cI cB
instance PL(Γ:B5)(a b:Val):PG Tryz.prog Γ 149 [.agg (enc a).toArray,.agg (enc b).toArray] (.int .i64 (cV a b)):=⟨fun S w hw=>by
 refine A5 Tryz.func149 rfl rfl ?_
 refine A1 ?_;refine K4 ?_;intro b1 w hw;refine K4 ?_;intro b2 w hw;have hw:Wd Γ (.blk b2 (.cells (enc b).toArray 67)::.blk b1 (.cells (enc a).toArray 67)::S) w:=hw
 refine A1 ?_;refine A0 rfl (fun h=>?_) (fun h=>?_)
 ·refine A1 ?_;exact⟨_,rfl,E9 rfl (by have h:=of_decide_eq_true h;subst h;rw[EH.refl]),hw.drop.drop⟩
 ·refine A1 ?_;refine v8 [.blk b2 _,.blk b1 _] S [23] [[],[],[],[],[],[],[],[],[],[],[],[],[],[],[],[0],[0],[]] hw ?_
  refine m4 ?_;refine Y0 (v:=undef) (T':=Value) (fun t g=>g 23=t) (fun t=>.own t 3 1 ([cI a.Kind b.Kind,cI a.Num b.Num,cB a.Word b.Word].map fun x=>[.int .i64 x])::S) (fun t g w Y _ hw=>O5 (rws:=[cI a.Kind b.Kind,cI a.Num b.Num,cB a.Word b.Word].map fun x=>[.int .i64 x]) hw rfl rfl rfl (by simp) (by decide) fun q w' hw'=>⟨_,rfl,(fun h=>by cases h),hw'⟩) ?_
  refine Fw (φ:=fun (t:Value) g=>g 23=t) (v:=.int .i64 (cV a b)) (T':=Value) (fun _ _=>True) (fun t=>.own t 3 1 ([cI a.Kind b.Kind,cI a.Num b.Num,cB a.Word b.Word].map fun x=>[.int .i64 x])::S) (fun t _=>[t]) (fun t g w Y ht hw=>?_) ?_ (ha:=fun t g ht=>EvL.cons ht EvL.nil)
  ·refine(Iq _ hw (O4.own (i:=0) hw rfl)).mono ?_
   rintro e w ⟨rfl,hw⟩
   refine⟨_,rfl,t,trivial,fun _=>?_,hw⟩
   unfold cV Hm Hm Hm Hm;rw[Lk]
  refine m4 ?_;refine BG fun t w g _ hw=>?_
  refine A1 ?_;exact⟨_,rfl,rfl,hw.drop.left⟩⟩
theorem Cv{Γ:B5}{va vb:Value}{xs ys:List Val}(ha:D2 Γ va 3 (xs.map enc))(hb:D2 Γ vb 3 (ys.map enc)) :
  PG Tryz.prog Γ 148 [va,vb,.func (.func 149) #[] #[]] (.int .i64 (cL cV xs ys)):=⟨fun S w hw=>by
 obtain⟨a,n,c,rfl,hn,hnc,hc⟩:=ha.shape;obtain⟨a2,n2,c2,rfl,hn2,hnc2,hc2⟩:=hb.shape;simp only[List.length_map]at hn hn2
 refine A5 Tryz.func148 rfl rfl ?_
 refine A1 ?_;refine C7 (fun μ ρ w=>∃(k:Nat),μ+k=n∧Has ρ [(0,.slice a n c),(1,.slice a2 n2 c2),(2,.func (.func 149) #[] #[]),(11,.slice a n c),(12,.int .i64 n),(13,.int .i64 k)]∧cL cV xs ys=cL cV (xs.drop k) (ys.drop k)∧Wd Γ S w) n ⟨0,by omega,⟨rfl,rfl,rfl,rfl,rfl,rfl,trivial⟩,rfl,hw⟩ ?_
 clear hw;rintro μ ρ w ⟨k,hk,hρ,ho,hw⟩
 rw[hρ.eq];refine A1 ?_;refine A0 rfl (fun h=>?_) (fun h=>?_)
 ·have hkn:k<n:=by simpa using h
  obtain⟨x,hx⟩:=B8 (l:=xs) (k:=k) (by omega)
  have hd:xs.drop k=x::xs.drop (k+1):=K6 hx
  rw[hd]at ho;refine A1 ?_;refine B4 ?_;intro b8 w hw;refine A1 ?_;refine B0 ?_;intro w hw;have hw:Wd Γ (.blk b8 (.cells (enc x).toArray 67)::S) w:=hw
  refine A1 ?_;refine A0 rfl (fun h2=>?_) (fun h2=>?_)
  ·refine A1 ?_;have h2:n2≤k:=by simpa using h2
   refine⟨_,rfl,E9 rfl ?_,hw.drop⟩
   rw[ho,D7 ys (by omega)];rfl
  ·have h2:k<n2:=by simpa using h2
   obtain⟨y,hy⟩:=B8 (l:=ys) (k:=k) (by omega)
   rw[K6 hy]at ho;have ho:cL cV xs ys=Ac (cV x y) (cL cV (xs.drop (k+1)) (ys.drop (k+1))):=ho
   refine A1 ?_;refine B4 ?_;intro b9 w hw;refine B0 ?_;intro w hw;have hw:Wd Γ (.blk b9 (.cells (enc y).toArray 67)::.blk b8 (.cells (enc x).toArray 67)::S) w:=hw
   refine A1 ?_;refine Cc (fst:=[]) (cap:=[]) ?_
   refine((PL Γ x y).h _ _ hw).mono ?_
   rintro e w ⟨rfl,hw⟩
   refine⟨_,rfl,?_⟩;refine A1 ?_;refine A0 rfl (fun h3=>?_) (fun h3=>?_)
   ·refine A1 ?_;have h3:¬cV x y=0:=by simpa using h3
    refine⟨_,rfl,E9 rfl ?_,hw.drop.drop⟩
    rw[ho,Fz h3]
   ·refine A1 ?_;have h3:cV x y=0:=by simpa using h3
    refine⟨μ-1,by omega,k+1,by omega,⟨rfl,rfl,rfl,rfl,rfl,rfl,trivial⟩,?_,hw.drop.drop⟩
    rw[ho,EB h3]
 ·have hkn:¬k<n:=by simpa using h
  rw[D7 xs (by omega)]at ho
  refine A1 ?_;refine A0 rfl (fun h2=>?_) (fun h2=>?_)
  ·refine A1 ?_;have h2:n<n2:=by simpa using h2
   obtain⟨y,hy⟩:=B8 (l:=ys) (k:=k) (by omega)
   rw[K6 hy]at ho;exact⟨_,rfl,E9 rfl (by rw[ho];rfl),hw⟩
  ·refine A1 ?_;have h2:¬n<n2:=by simpa using h2
   rw[D7 ys (by omega)]at ho
   exact⟨_,rfl,E9 rfl (by rw[ho];rfl),hw⟩⟩
theorem KH{Γ:B5}{f g:B6}(hf:BD Γ f)(hg:BD Γ g):PG Tryz.prog Γ 79 [.agg (cF f).toArray,.agg (cF g).toArray] (.int .i64 (J4 f.fact g.fact)):=⟨fun S w hw=>by
 obtain⟨l1,l2,l3⟩:=hf.len;obtain⟨m1,m2,m3⟩:=hg.len;have hC:=Cv hf hg
 obtain⟨fr,fa,fn,fc,fs⟩:=f;obtain⟨gr,ga,gn,gc,gs⟩:=g;simp only at l1 l2 l3 m1 m2 m3
 refine A5 Tryz.func79 rfl rfl ?_
 refine A1 ?_;refine K4 ?_;intro b1 w hw;refine K4 ?_;intro b2 w hw;have hw:Wd Γ (.blk b2 (.cells #[.string gr,.slice ga gn gc] 82)::.blk b1 (.cells #[.string fr,.slice fa fn fc] 82)::S) w:=hw
 refine A1 ?_;refine v8 [.blk b2 _,.blk b1 _] S [18] [[],[],[],[],[],[],[],[],[],[],[],[],[0],[0],[]] hw ?_
 refine m4 ?_;refine Y0 (v:=undef) (T':=Value) (fun t g=>g 18=t) (fun t=>.own t 3 1 ([cB fr gr,cI fn gn].map fun x=>[.int .i64 x])::S) (fun t g w Y _ hw=>O5 (rws:=[cB fr gr,cI fn gn].map fun x=>[.int .i64 x]) hw rfl rfl rfl (by simp) (by decide) fun q w' hw'=>⟨_,rfl,(fun h=>by cases h),hw'⟩) ?_
 refine Fw (φ:=fun (t:Value) g=>g 18=t) (v:=.int .i64 (Ac (cB fr gr) (cI fn gn))) (T':=Value) (fun _ _=>True) (fun t=>.own t 3 1 ([cB fr gr,cI fn gn].map fun x=>[.int .i64 x])::S) (fun t _=>[t]) (fun t g w Y ht hw=>?_) ?_ (ha:=fun t g ht=>EvL.cons ht EvL.nil)
 ·refine(Iq _ hw (O4.own (i:=0) hw rfl)).mono ?_
  rintro e w ⟨rfl,hw⟩
  refine⟨_,rfl,t,trivial,fun _=>?_,hw⟩
  unfold Hm Hm Hm;rw[Lk]
 refine m4 ?_;refine BG fun t w g _ hw=>?_
 have hw:Wd Γ (.blk b2 (.cells #[.string gr,.slice ga gn gc] 82)::.blk b1 (.cells #[.string fr,.slice fa fn fc] 82)::S) w:=hw.drop.flip
 have hcf:J4 (fr,fs) (gr,gs)=Ac (Ac (cB fr gr) (cI fn gn)) (cL cV fs gs):=by
  unfold J4;rw[l1,m1];unfold Ac;by_cases e:cB fr gr=0 <;> simp[e]
 refine A1 ?_;refine A0 rfl (fun h3=>?_) (fun h3=>?_)
 ·refine A1 ?_;have h3:¬Ac (cB fr gr) (cI fn gn)=0:=by simpa using h3
  refine⟨_,rfl,E9 rfl ?_,hw.drop.drop⟩
  show _=J4 (fr,fs) (gr,gs)
  rw[hcf,Fz h3]
 ·have h3:Ac (cB fr gr) (cI fn gn)=0:=by simpa using h3
  refine A1 ?_;refine QZ (hp:=hC) ?_
  intro w hw;refine A1 ?_;refine⟨_,rfl,E9 rfl ?_,hw.drop.drop⟩
  show _=J4 (fr,fs) (gr,gs)
  rw[hcf,EB h3]⟩
end Go.Proofs.YtlimglpjpcfpdaaGreatDoor
end
section
open Go Mk
namespace Go.Proofs.YtlimglpjpcfpdaaGreatDoor
set_option maxHeartbeats 4000000
attribute [local irreducible] Calls cI cB
end Go.Proofs.YtlimglpjpcfpdaaGreatDoor
end
section
open Go
namespace Mk
attribute [local irreducible] Calls
section
variable {P:Program}{n:Nat}{ops:List Oper}{Γ:B5}{K:List B1}{wr tc stab:List (List Nat)}{Q:Fr→World→Prop}{i:Nat}{rest:List Oper}{ρ:Fr}{M:Nat→Fr→List B1}
variable {d:Option Tmp}{ty:TypeId}{pos:String}{es:Array Edge}{f:Nat}{args:List Operand}{tys:Array TypeId}{vs:List Value}{v:Value}
theorem OZ{S:List B1}{t:Tmp}{cap:List Value}[B9 P f](hc:∀Y w,Wd Γ (S++Y) w→Calls P f (vs++cap).toArray w fun e w'=>e=.returned v∧Wd Γ (S++Y) w')(h:Qw P n ops Γ S Q rest (C1 ρ d v))(ht:ρ t=.func (.func f) #[] cap.toArray:=by exact rfl)(ha:EvL ρ args vs:=by exact u7) :
  Qw P n ops Γ S Q (⟨d,.call { callee:=.value (.tmp t),args:=args.toArray,argTypes:=tys },ty,pos,es,none⟩::rest) ρ:=
 RD rfl rfl (fun Y w hw=>Ji ht ha.eqA (by simpa using (hc Y w hw).mono fun e w' ⟨h1,h2⟩=>⟨v,h1,rfl,h2⟩)) h
theorem G3{S:List B1}{w:World}(hw:Wd Γ S w):Wd Γ [] w:=⟨hw.os,hw.tape,hw.out,hw.dr,hw.imm,[],trivial,by simp,by simp⟩
theorem HR{S:List B1}{w w':World}(h0:Γ.dr=0)(hw:Wd Γ S w)(h:Go.RowKit.Below w.heap.size w w'):Wd Γ S w':=by
 have hk:∀k,k<w.heap.size→w'.heap[k]? = w.heap[k]?:=h.block
 obtain⟨h1,h2,h3,h4,h5,bss,h6,h7,h8⟩:=hw;refine⟨h.os.trans h1,h.tape.trans h2,h.output.trans h3,by rw[h0];exact Nat.zero_le _,fun b o hb=>?_,bss,Holds.loc (fun b o h=>h) S bss (fun b hb=>hk b (h8 b hb).1) h6,h7,fun b hb=>⟨Nat.lt_of_lt_of_le (h8 b hb).1 h.size,(h8 b hb).2⟩⟩
 have h9:=h5 b o hb
 rw[hk b (Array.getElem?_eq_some_iff.1 h9).1];exact h9
end
end Mk
end
section
open Go Mk
namespace Go.Proofs.YtlimglpjpcfpdaaGreatDoor
set_option maxHeartbeats 16000000
attribute [local irreducible] Calls isS
section
variable {Γ:B5}{S:List B1}{w:World}{bp:Nat}{a:Option Addr}{n c k:Nat}{e p:F8}{er:Int}{toks:List Tok}
end
end Go.Proofs.YtlimglpjpcfpdaaGreatDoor
end
section
open Go Mk
namespace Go.Proofs.YtlimglpjpcfpdaaGreatDoor
set_option maxHeartbeats 4000000
section
variable {α:Type}{c:α→α→Int}
structure Ba(c:α→α→Int)(db l:List α):Prop where
 asc:l.Pairwise fun a b=>c a b = -1
 mem:∀x,x∈l↔x∈db
theorem Gw(h:O0 c):∀ {l k:List α},(l.Pairwise fun a b=>c a b = -1)→(k.Pairwise fun a b=>c a b = -1)→(∀x,x∈l↔x∈k)→l=k
 | [],[],_,_,_=>rfl
 | [],b::k,_,_,hm=>absurd ((hm b).2 (List.mem_cons_self)) (by simp)
 | a::l,[],_,_,hm=>absurd ((hm a).1 (List.mem_cons_self)) (by simp)
 | a::l,b::k,ha,hb,hm=>by
  have ha':=List.pairwise_cons.1 ha
  have hb':=List.pairwise_cons.1 hb
  have hab:a=b:=by
   rcases List.mem_cons.1 ((hm a).1 List.mem_cons_self) with e|e
   ·exact e
   rcases List.mem_cons.1 ((hm b).2 List.mem_cons_self) with e2|e2
   ·exact e2.symm
   have h1:=hb'.1 a e
   have h2:=ha'.1 b e2
   have:=h.trans h1 h2
   rw[h.refl]at this;exact absurd this (by decide)
  subst hab;congr 1
  refine Gw h ha'.2 hb'.2 fun x=>?_
  have hne:∀ {m:List α},(∀y∈m,c a y = -1)→x∈m→x≠a:=fun hh hx e=>by
   subst e;have:=hh _ hx
   rw[h.refl]at this;exact absurd this (by decide)
  constructor
  ·intro hx;rcases List.mem_cons.1 ((hm x).1 (List.mem_cons_of_mem _ hx)) with e|e
   ·exact absurd e (hne ha'.1 hx)
   ·exact e
  ·intro hx;rcases List.mem_cons.1 ((hm x).2 (List.mem_cons_of_mem _ hx)) with e|e
   ·exact absurd e (hne hb'.1 hx)
   ·exact e
theorem Ba.uniq(h:O0 c){db l k:List α}(h1:Ba c db l)(h2:Ba c db k):l=k:=Gw h h1.asc h2.asc fun x=>(h1.mem x).trans (h2.mem x).symm
def Cu(c:α→α→Int)(f:α):List α→List α
 | []=>[f]
 | x::l=>if c f x = -1 then f::x::l else if c f x=0 then x::l else x::Cu c f l
def BA(c:α→α→Int):List α→List α
 | []=>[]
 | f::db=>Cu c f (BA c db)
theorem Ds(h:O0 c){f x:α}:∀ {l:List α},x∈Cu c f l↔x=f∨x∈l
 | []=>by simp[Cu]
 | y::l=>by
  unfold Cu;split
  ·simp
  ·split
   ·rename_i e
    have e:=h.eq0 e
    subst e;simp
   ·rw[List.mem_cons,Ds h,List.mem_cons];constructor
    ·rintro (h|h|h)
     ·exact .inr (.inl h)
     ·exact .inl h
     ·exact .inr (.inr h)
    ·rintro (h|h|h)
     ·exact .inr (.inl h)
     ·exact .inl h
     ·exact .inr (.inr h)
theorem HO(h:O0 c){f:α}:∀ {l:List α},(l.Pairwise fun a b=>c a b = -1)→(Cu c f l).Pairwise fun a b=>c a b = -1
 | [],_=>by simp[Cu]
 | y::l,ha=>by
  have ha':=List.pairwise_cons.1 ha
  unfold Cu;split
  ·rename_i e
   refine List.pairwise_cons.2 ⟨fun z hz=>?_,ha⟩
   rcases List.mem_cons.1 hz with q|q
   ·rw[q];exact e
   ·exact h.trans e (ha'.1 z q)
  ·split
   ·exact ha
   ·rename_i e1 e2
    refine List.pairwise_cons.2 ⟨fun z hz=>?_,HO h ha'.2⟩
    rcases (Ds h).1 hz with q|q
    ·rw[q,h.anti];rcases h.rng f y with r|r|r
     ·exact absurd r e1
     ·exact absurd r e2
     ·rw[r]
    ·exact ha'.1 z q
theorem Bs(h:O0 c):∀db:List α,Ba c db (BA c db)
 | []=>⟨List.Pairwise.nil,fun x=>Iff.rfl⟩
 | f::db=>⟨HO h (Bs h db).asc,fun x=>by
  show x∈Cu c f (BA c db)↔_
  rw[Ds h,(Bs h db).mem,List.mem_cons]⟩
theorem Ba.eq(h:O0 c){db l:List α}(h1:Ba c db l):l=BA c db:=h1.uniq h (Bs h db)
theorem Mb(h:O0 c){db:List α}{x:α}:x∈BA c db↔x∈db:=(Bs h db).mem x
theorem Hl{f:α}:∀ {l:List α},(Cu c f l).length≤l.length+1
 | []=>by simp[Cu]
 | y::l=>by
  have:=Hl (f:=f) (l:=l)
  unfold Cu;split
  ·simp
  ·split
   ·simp
   ·simp;omega
theorem ES:∀ {db:List α},(BA c db).length≤db.length
 | []=>by simp[BA]
 | f::db=>by
  have:=ES (db:=db)
  have:=Hl (c:=c) (f:=f) (l:=BA c db)
  simp only[BA,List.length_cons];omega
theorem Hj(h:O0 c)(p:α→Bool)(db:List α):BA c (db.filter p)=(BA c db).filter p:=by
 refine(Ba.eq h (Ba.mk ((Bs h db).asc.filter _) fun x=>?_)).symm
 rw[List.mem_filter,List.mem_filter,Mb h]
end
def kp{α:Type}(p:α→α→Bool):α→List α→List α
 | _,[]=>[]
 | a,b::l=>if p b a=true then kp p b l else b::kp p b l
def R8{α:Type}(p:α→α→Bool):List α→List α
 | []=>[]
 | a::l=>a::kp p a l
theorem CZ{α:Type}{p:α→α→Bool}{x:α}:∀ {l:List α} {a:α},x∈kp p a l→x∈l
 | [],_,h=>h
 | b::l,a,h=>by
  unfold kp at h;split at h
  ·exact List.mem_cons_of_mem _ (CZ h)
  ·rcases List.mem_cons.1 h with e|e
   ·rw[e];exact List.mem_cons_self
   ·exact List.mem_cons_of_mem _ (CZ e)
theorem Bp{α:Type}{p:α→α→Bool}{x:α}{l:List α}(h:x∈R8 p l):x∈l:=by
 cases l with
 | nil=>exact h
 | cons a l=>
  rcases List.mem_cons.1 h with e|e
  ·rw[e];exact List.mem_cons_self
  ·exact List.mem_cons_of_mem _ (CZ e)
theorem Qf{α:Type}{p:α→α→Bool}:∀ {l:List α} {a:α},(kp p a l).length≤l.length
 | [],_=>Nat.le_refl _
 | b::l,a=>by
  unfold kp;have:=Qf (p:=p) (l:=l) (a:=b)
  split
  ·simp;omega
  ·simp;omega
theorem Jf{α:Type}{p:α→α→Bool}{y:α}:∀(l:List α) (a:α),kp p a (l++[y])=kp p a l++(if p y (l.getLast?.getD a)=true then [] else [y])
 | [],a=>by
  show (if p y a=true then kp p y [] else y::kp p y [])=_
  rfl
 | b::l,a=>by
  have ih:=Jf (p:=p) (y:=y) l b
  have hl:((b::l).getLast?).getD a=l.getLast?.getD b:=by
   cases l with
   | nil=>rfl
   | cons x l=>simp[List.getLast?_cons_cons];rw[List.getLast?_eq_some_getLast (by simp)];rfl
  rw[hl,List.cons_append];show (if p b a=true then kp p b (l++[y]) else b::kp p b (l++[y]))=(if p b a=true then kp p b l else b::kp p b l)++_
  rw[ih];split <;> simp
theorem m6{α:Type}{p:α→α→Bool}{fs:List α}{j:Nat}{x y:α}(h0:0<j)(hy:fs[j]? = some y)(hx:fs[j-1]? = some x):R8 p (fs.take (j+1))=if p y x=true then R8 p (fs.take j) else R8 p (fs.take j)++[y]:=by
 have ht:fs.take (j+1)=fs.take j++[y]:=by rw[List.take_add_one,hy];rfl
 have hjl:=(List.getElem?_eq_some_iff.1 hy).1
 rw[ht];have hlast:(fs.take j).getLast? = some x:=by
  rw[List.getLast?_eq_getElem?,List.length_take,Nat.min_eq_left (by omega),List.getElem?_take,if_pos (by omega)]
  exact hx
 cases hl:fs.take j with
 | nil=>rw[hl]at hlast;cases hlast
 | cons a l=>
  rw[hl]at hlast;have hla:l.getLast?.getD a=x:=by
   cases l with
   | nil=>simpa using hlast
   | cons b l=>rw[List.getLast?_cons_cons]at hlast;rw[hlast];rfl
  show a::kp p a (l++[y])=_
  rw[Jf,hla];split <;> simp[R8]
section
variable {α β:Type}{c:α→α→Int}
theorem KA(h:O0 c)(F:β→α):∀ {l:List β} {a:β},((a::l).Pairwise fun x y=>c (F y) (F x)≠-1) →
  ((kp (fun x y=>decide (c (F x) (F y)=0)) a l).map F).Pairwise (fun x y=>c x y = -1)∧(∀x∈(kp (fun x y=>decide (c (F x) (F y)=0)) a l).map F,c (F a) x = -1)∧∀x,x∈F a::(kp (fun x y=>decide (c (F x) (F y)=0)) a l).map F↔x∈F a::l.map F
 | [],a,_=>⟨List.Pairwise.nil,fun x hx=>absurd hx (by simp[kp]),fun x=>Iff.rfl⟩
 | b::l,a,hs=>by
  have hs':=List.pairwise_cons.1 hs
  obtain⟨k1,k2,k3⟩:=KA h F hs'.2
  unfold kp;by_cases e:c (F b) (F a)=0
  ·have e2:=h.eq0 e
   rw[if_pos (decide_eq_true e)];rw[e2]at k2 k3
   refine⟨k1,k2,fun x=>?_⟩
   rw[k3 x,List.map_cons,e2];simp
  ·rw[if_neg (by simp[e])]
   have e3:c (F a) (F b) = -1:=by
    have h1:=hs'.1 b List.mem_cons_self
    rw[h.anti];rcases h.rng (F b) (F a) with r|r|r
    ·exact absurd r h1
    ·exact absurd r e
    ·rw[r]
   refine⟨?_,fun x hx=>?_,fun x=>?_⟩
   ·rw[List.map_cons];exact List.pairwise_cons.2 ⟨k2,k1⟩
   ·rw[List.map_cons]at hx;rcases List.mem_cons.1 hx with q|q
    ·rw[q];exact e3
    ·exact h.trans e3 (k2 x q)
   ·rw[List.map_cons,List.mem_cons,k3 x,List.map_cons,List.mem_cons (b:=F a)]
theorem FG(h:O0 c)(F:β→α){fs gs:List β}(hp:gs.Perm fs)(hs:gs.Pairwise fun x y=>c (F y) (F x)≠-1):(R8 (fun x y=>decide (c (F x) (F y)=0)) gs).map F=BA c (fs.map F):=by
 refine Ba.eq h ?_
 have hm:∀x,x∈gs.map F↔x∈fs.map F:=fun x=>(hp.map F).mem_iff
 cases gs with
 | nil=>exact⟨List.Pairwise.nil,hm⟩
 | cons a l=>
  obtain⟨k1,k2,k3⟩:=KA h F hs
  refine⟨?_,fun x=>(k3 x).trans (hm x)⟩
  show ((F a::(kp _ a l).map F)).Pairwise _
  exact List.pairwise_cons.2 ⟨k2,k1⟩
end
end Go.Proofs.YtlimglpjpcfpdaaGreatDoor
end
section
open Go Mk
namespace Go.Proofs.YtlimglpjpcfpdaaGreatDoor
set_option maxHeartbeats 4000000
attribute [local irreducible] Calls cI cB J4
end Go.Proofs.YtlimglpjpcfpdaaGreatDoor
end
section
open Go Mk
namespace Go.Proofs.YtlimglpjpcfpdaaGreatDoor
set_option maxHeartbeats 4000000
attribute [local irreducible] Calls cI cB J4
instance Rr(Γ:B5)(v:Int):PG Tryz.prog Γ 24 [.int .i64 v] (.agg (enc (⟨1,v,⟨#[]⟩⟩:Val)).toArray):=⟨fun S w hw=>by
 refine H1 Tryz.func24 rfl rfl ?_
 refine A1 ?_;refine B4 ?_;intro b w hw;refine A1 ?_;refine B0 ?_;intro w hw;have hw:Wd Γ (.blk b (.cells (enc (⟨1,v,⟨#[]⟩⟩:Val)).toArray 67)::S) w:=hw
 refine A1 ?_;exact⟨[.agg (enc (⟨1,v,⟨#[]⟩⟩:Val)).toArray],⟨M3 (i:=0) hw rfl rfl rfl,trivial⟩,rfl,hw.drop⟩⟩
theorem Gr(Γ:B5)(S:List B1)(w:World)(va:Value)(rel:ByteArray)(vs:List Val)(hr:O4 Γ S va 3 (vs.map enc))(hl:vs.length≤100000)(hw:Wd Γ S w) :
  Calls Tryz.prog 28 #[.string rel,va] w fun e w'=>∃f:B6,e=.returned (.agg (cF f).toArray)∧f.fact=(rel,vs)∧Wd Γ (.own f.hdr 67 3 (f.Args.map enc)::S) w':=by
 obtain⟨a,n,c,rfl,hn,hnc,hc⟩:=hr.shape;simp only[List.length_map]at hn
 refine H1 Tryz.func28 rfl rfl ?_
 repeat first|refine C3 ?_|refine C4 ?_;intro w hw
 refine B4 ?_;intro b w hw;repeat first|refine C3 ?_|refine C4 ?_;intro w hw
 have hw:=Wd.addNil (a:=none) (E:=67) (sz:=3) hw
 refine Ie (i:=0) (rows2:=vs.map enc) ?_ (hr.cons.cons.rd hw) rfl rfl hw rfl (List.all_eq_true.2 (fun u hu=>(List.all_eq_true.1 (Hd vs)) u hu)) (by simpa using hn)
 intro v' w hw;obtain⟨a',n',c',rfl,hn',hnc',hc'⟩:=hw.own_shape (i:=0) rfl
 repeat first|refine C3 ?_|refine C4 ?_;intro w hw
 refine B0 ?_;intro w hw;have hw:Wd Γ (.own (.slice a' n' c') 67 3 (vs.map enc)::.blk b (.cells (cF ⟨rel,a',n',c',vs⟩).toArray 82)::S) w:=hw
 repeat first|refine C3 ?_|refine C4 ?_;intro w hw
 exact⟨[.agg (cF ⟨rel,a',n',c',vs⟩).toArray],⟨M3 (i:=1) hw rfl rfl rfl,trivial⟩,⟨rel,a',n',c',vs⟩,rfl,rfl,hw.dropAt 1⟩
end Go.Proofs.YtlimglpjpcfpdaaGreatDoor
end
section
open Go Mk
namespace Go.Proofs.YtlimglpjpcfpdaaGreatDoor
def Gx:Go.Shelf.Ren:=⟨fun|6=>78|15=>139|14=>146|28=>204|29=>205|20=>217|21=>218|22=>219|23=>220|24=>221|25=>222|26=>223|27=>224|46=>279|47=>270|48=>271|49=>280|50=>281|57=>302|n=>n,fun|22=>62|24=>82|25=>155|3=>3|39=>131|0=>0|53=>262|55=>58|4=>4|46=>255|45=>254|50=>259|5=>5|9=>9|66=>307|70=>311|76=>331|77=>217|n=>n,fun|n=>n⟩
theorem OY:Go.Proofs.SlLaysF0.n6 Tryz.prog Gx:={
 mixed:=by kernel_rfl
 f6:=⟨Tryz.f78.name,by decide,Tryz.func78.trans (congrArg some (by kernel_rfl))⟩
 f14:=⟨Tryz.f146.name,by decide,Tryz.func146.trans (congrArg some (by kernel_rfl))⟩
 f15:=Tryz.func139.trans (congrArg some (by kernel_rfl))
 f20:=⟨Tryz.f217.name,by decide,Tryz.func217.trans (congrArg some (by kernel_rfl))⟩
 f21:=⟨Tryz.f218.name,by decide,Tryz.func218.trans (congrArg some (by kernel_rfl))⟩
 f22:=⟨Tryz.f219.name,by decide,Tryz.func219.trans (congrArg some (by kernel_rfl))⟩
 f23:=⟨Tryz.f220.name,by decide,Tryz.func220.trans (congrArg some (by kernel_rfl))⟩
 f24:=⟨Tryz.f221.name,by decide,Tryz.func221.trans (congrArg some (by kernel_rfl))⟩
 f25:=⟨Tryz.f222.name,by decide,Tryz.func222.trans (congrArg some (by kernel_rfl))⟩
 f26:=⟨Tryz.f223.name,by decide,Tryz.func223.trans (congrArg some (by kernel_rfl))⟩
 f27:=⟨Tryz.f224.name,by decide,Tryz.func224.trans (congrArg some (by kernel_rfl))⟩
 f28:=Tryz.func204.trans (congrArg some (by kernel_rfl))
 f29:=Tryz.func205.trans (congrArg some (by kernel_rfl))
 f46:=⟨Tryz.f279.name,by decide,Tryz.func279.trans (congrArg some (by kernel_rfl))⟩
 f47:=Tryz.func270.trans (congrArg some (by kernel_rfl))
 f48:=Tryz.func271.trans (congrArg some (by kernel_rfl))
 f49:=⟨Tryz.f280.name,by decide,Tryz.func280.trans (congrArg some (by kernel_rfl))⟩
 f50:=⟨Tryz.f281.name,by decide,Tryz.func281.trans (congrArg some (by kernel_rfl))⟩
 f57:=⟨Tryz.f302.name,by decide,Tryz.func302.trans (congrArg some (by kernel_rfl))⟩
 t0:=Tryz.underlying0
 a0:=Tryz.isAgg0
 z0:=Tryz.sizeOf0
 v0:=Tryz.zeroValue0
 t3:=Tryz.underlying3
 a3:=Tryz.isAgg3
 z3:=Tryz.sizeOf3
 v3:=Tryz.zeroValue3
 t4:=Tryz.underlying4
 a4:=Tryz.isAgg4
 z4:=Tryz.sizeOf4
 v4:=Tryz.zeroValue4
 t5:=Tryz.underlying5
 a5:=Tryz.isAgg5
 z5:=Tryz.sizeOf5
 v5:=Tryz.zeroValue5
 t9:=Tryz.underlying9
 a9:=Tryz.isAgg9
 z9:=Tryz.sizeOf9
 v9:=Tryz.zeroValue9
 t22:=Tryz.underlying62
 a22:=Tryz.isAgg62
 z22:=Tryz.sizeOf62
 v22:=Tryz.zeroValue62
 t25:=Tryz.underlying155
 a25:=Tryz.isAgg155
 z25:=Tryz.sizeOf155
 v25:=Tryz.zeroValue155
 t39:=Tryz.underlying131
 a39:=Tryz.isAgg131
 z39:=Tryz.sizeOf131
 v39:=Tryz.zeroValue131
 t45:=Tryz.underlying254
 a45:=Tryz.isAgg254
 z45:=Tryz.sizeOf254
 v45:=Tryz.zeroValue254
 t46:=Tryz.underlying255
 a46:=Tryz.isAgg255
 z46:=Tryz.sizeOf255
 v46:=Tryz.zeroValue255
 t50:=Tryz.underlying259
 a50:=Tryz.isAgg259
 z50:=Tryz.sizeOf259
 v50:=Tryz.zeroValue259
 t53:=Tryz.underlying262
 a53:=Tryz.isAgg262
 z53:=Tryz.sizeOf262
 v53:=Tryz.zeroValue262
 t55:=Tryz.underlying58
 a55:=Tryz.isAgg58
 z55:=Tryz.sizeOf58
 v55:=Tryz.zeroValue58
 t66:=Tryz.underlying307
 a66:=Tryz.isAgg307
 z66:=Tryz.sizeOf307
 v66:=Tryz.zeroValue307
 t70:=Tryz.underlying311
 a70:=Tryz.isAgg311
 z70:=Tryz.sizeOf311
 v70:=Tryz.zeroValue311
 t76:=Tryz.underlying331
 a76:=Tryz.isAgg331
 z76:=Tryz.sizeOf331
 v76:=Tryz.zeroValue331
 t77:=Tryz.underlying217
 a77:=Tryz.isAgg217
 z77:=Tryz.sizeOf217
 v77:=Tryz.zeroValue217 }
end Go.Proofs.YtlimglpjpcfpdaaGreatDoor
end
section
open Go Mk
namespace Go.Proofs.YtlimglpjpcfpdaaGreatDoor
set_option maxHeartbeats 4000000
attribute [local irreducible] Calls cI cB J4
theorem BD.mono{Γ Γ':B5}{f:B6}(h:BD Γ f)(hl:Γ.le Γ'):BD Γ' f:=D2.mono h hl
theorem JC{Γ:B5}{S:List B1}{w:World}(fs:List B6)(v:Value)(hok:∀f∈fs,BD Γ f)(hl:fs.length≤1000000)(hw:Wd Γ (.own v 82 2 (fs.map cF)::S) w) :
  Calls Tryz.prog 78 #[v,.func (.func 79) #[] #[]] w fun e w'=>e=.returned (.tuple #[])∧∃gs:List B6,gs.Perm fs∧(gs.Pairwise fun a b=>Go.Proofs.ltOf (fun a b:B6=>J4 a.fact b.fact) b a=false)∧Wd Γ (.own v 82 2 (gs.map cF)::S) w':=by
 have hxs:(fs.attachWith (BD Γ) hok).map Subtype.val=fs:=List.attachWith_map_subtype_val _
 have hrows:((fs.attachWith (BD Γ) hok).map fun a=>cF a.1)=fs.map cF:=by
  conv=>rhs;rw[←hxs]
  rw[List.map_map];rfl
 rw[←hrows]at hw;haveI:Inhabited {f:B6 // BD Γ f}:=⟨⟨⟨⟨#[]⟩,none,0,0,[]⟩,D2.nil⟩⟩
 have:=Io (α:={f:B6 // BD Γ f}) (enc:=fun a=>cF a.1) OY (fun a b=>J4 a.1.fact b.1.fact) 79 [] (fs.attachWith (BD Γ) hok) v hw (i:=0) rfl (fun _=>rfl) (fun x u hu=>(List.all_eq_true.1 (MU x.1)) u hu) (by show TA Tryz.prog 82 2;infer_instance)
  (MO AM fun a:{f:B6 // BD Γ f}=>a.1.fact) (by simp;omega) (fun dk w' hw' x y=>by
   have h1:∀b o,Γ.imm b=some o→(Fu w').imm b=some o:=fun b o hb=>hw'.imm b o hb
   have h2:=KH (Γ:=Fu w') (f:=x.1) (g:=y.1) (D2.imm x.2 h1) (D2.imm y.2 h1)
   refine(h2.h [] w' (Ju w')).mono ?_
   rintro e w'' ⟨he,hw''⟩
   exact⟨he,[],hw''⟩)
 refine this.mono ?_
 rintro e w' ⟨he,ys,hp,hs,hw'⟩
 refine⟨he,ys.map Subtype.val,?_,?_,?_⟩
 ·have:=hp.map Subtype.val
  rwa [hxs]at this
 ·rw[List.pairwise_map];exact hs
 ·rw[List.map_map];exact hw'
end Go.Proofs.YtlimglpjpcfpdaaGreatDoor
end
section
open Go Mk
namespace Go.Proofs.YtlimglpjpcfpdaaGreatDoor
set_option maxHeartbeats 16000000
attribute [local irreducible] Calls J4
theorem Cd{Γ:B5}{S:List B1}{w:World}{v:Value}{xs:List B6}(hr:O4 Γ S v 2 (xs.map cF))(hN:xs.length≤1000000)(hw:Wd Γ S w) :
  Calls Tryz.prog 258 #[v] w fun e w'=>∃v',e=.returned v'∧Wd Γ (.own v' 82 2 (xs.map cF)::S) w':=by
 obtain⟨a,n,c,rfl,hn,hnc,hc⟩:=hr.shape;simp only[List.length_map]at hn
 refine A5 Tryz.func258 rfl rfl ?_
 refine A1 ?_;refine A0 rfl (fun h=>?_) (fun h=>?_)
 ·refine A1 ?_;have hx:xs=[]:=by
   cases a with
   | none=>
    cases xs with
    | nil=>rfl
    | cons x xs=>have:=(hr.rd hw).at_ (by simp);cases this
   | some a=>cases h
  subst hx;exact⟨_,rfl,_,rfl,Wd.addNil hw⟩
 ·refine A1 ?_;refine F0 [] ?_
  intro a2 w hw;refine A1 ?_;refine Ie (i:=0) (rows2:=xs.map cF) ?_ ((O4.cons hr).rd hw) rfl rfl hw rfl (List.all_eq_true.2 (JS xs)) (by simpa using hn)
  intro v' w hw;refine A1 ?_;exact⟨_,rfl,v',rfl,by simpa using hw⟩
theorem IB{Γ:B5}{S:List B1}{w:World}{v:Value}{xs:List Val}(hr:D2 Γ v 3 (xs.map enc))(hN:xs.length≤1000000)(hw:Wd Γ S w) :
  Calls Tryz.prog 207 #[v] w fun e w'=>∃v',e=.returned v'∧Wd Γ (.own v' 67 3 (xs.map enc)::S) w':=by
 obtain⟨a,n,c,rfl,hn,hnc,hc⟩:=hr.shape;simp only[List.length_map]at hn
 refine A5 Tryz.func207 rfl rfl ?_
 refine A1 ?_;refine A0 rfl (fun h=>?_) (fun h=>?_)
 ·refine A1 ?_;have hx:xs=[]:=by
   cases a with
   | none=>
    cases xs with
    | nil=>rfl
    | cons x xs=>have:=(hr.rd hw).at_ (by simp);cases this
   | some a=>cases h
  subst hx;exact⟨_,rfl,_,rfl,Wd.addNil hw⟩
 ·refine A1 ?_;refine F0 [] ?_
  intro a2 w hw;refine A1 ?_;refine Ie (i:=0) (rows2:=xs.map enc) ?_ (hr.rd hw) rfl rfl hw rfl (Hd xs) (by simpa using hn)
  intro v' w hw;refine A1 ?_;exact⟨_,rfl,v',rfl,by simpa using hw⟩
def AV:Value:=.func (.func 79) #[] #[]
def Kf(x y:B6):Bool:=decide (J4 x.fact y.fact=0)
theorem Hi{Γ:B5}{S:List B1}{w:World}{b3:Nat}{f g:B6}(hf:BD Γ f)(hg:BD Γ g)(hw:Wd Γ (.blk b3 (.cells #[AV] 155)::S) w) :
  Calls Tryz.prog 275 #[.agg (cF f).toArray,.agg (cF g).toArray,.pointer (some ⟨b3,0,none⟩)] w fun e w'=>e=.returned (.bool (Kf f g))∧Wd Γ (.blk b3 (.cells #[AV] 155)::S) w':=by
 have hC:=KH hf hg
 obtain⟨fr,fa,fn,fc,fs⟩:=f;obtain⟨gr,ga,gn,gc,gs⟩:=g;refine A5 Tryz.func275 rfl rfl ?_
 refine A1 ?_;refine K4 ?_;intro b1 w hw;refine K4 ?_;intro b2 w hw;have hw:Wd Γ (.blk b2 (.cells #[.string gr,.slice ga gn gc] 82)::.blk b1 (.cells #[.string fr,.slice fa fn fc] 82)::.blk b3 (.cells #[AV] 155)::S) w:=hw
 refine A1 ?_;refine Cc (fst:=[]) (cap:=[]) ?_
 refine(hC.h _ _ hw).mono ?_
 rintro e w ⟨rfl,hw⟩
 refine⟨_,rfl,?_⟩;refine A1 ?_;exact⟨_,rfl,rfl,hw.drop.drop⟩
theorem HI{Γ:B5}{S:List B1}{w:World}{b3:Nat}{v:Value}(fs:List B6)(hok:∀f∈fs,BD Γ f)(hl:fs.length≤1000000)(hw:Wd Γ (.own v 82 2 (fs.map cF)::.blk b3 (.cells #[AV] 155)::S) w) :
  Calls Tryz.prog 274 #[v,.func (.func 275) #[] #[.pointer (some ⟨b3,0,none⟩)]] w fun e w'=>∃v',e=.returned v'∧Wd Γ (.own v' 82 2 ((R8 Kf fs).map cF)::.blk b3 (.cells #[AV] 155)::S) w':=by
 obtain⟨a,n,c,rfl,hn,hnc,hc⟩:=hw.own_shape (i:=0) rfl
 simp only[List.length_map]at hn
 refine A5 Tryz.func274 rfl rfl ?_
 refine A1 ?_;refine A0 rfl (fun h=>?_) (fun h=>?_)
 ·have h:n<2:=by have:=of_decide_eq_true h;omega
  refine A1 ?_;have hE:R8 Kf fs=fs:=by
   cases fs with
   | nil=>rfl
   | cons x fs=>
    cases fs with
    | nil=>rfl
    | cons y fs=>simp at hn;omega
  rw[hE];exact⟨_,rfl,_,rfl,hw⟩
 have h:2≤n:=by have:=of_decide_eq_false h;omega
 refine A1 ?_;refine C7 (fun μ ρ w=>∃(k:Nat),μ+k=n∧1≤k∧Has ρ [(0,.slice a n c),(1,.func (.func 275) #[] #[.pointer (some ⟨b3,0,none⟩)]),(5,.int .i64 k)]∧R8 Kf (fs.take k)=fs.take k∧Wd Γ (.own (.slice a n c) 82 2 (fs.map cF)::.blk b3 (.cells #[AV] 155)::S) w) (n-1) ⟨1,by omega,by omega,⟨rfl,rfl,rfl,trivial⟩,?_,hw⟩ ?_
 ·cases fs with
  | nil=>rfl
  | cons x fs=>rfl
 clear hw;rintro μ ρ w ⟨k,hk,hk1,hρ,ho,hw⟩
 rw[hρ.eq];refine A1 ?_;refine A0 rfl (fun h=>?_) (fun h=>?_)
 ·have hkn:k<n:=by have:=of_decide_eq_true h;omega
  obtain⟨y,hy⟩:=B8 (l:=fs) (k:=k) (by omega)
  obtain⟨x,hx0⟩:=B8 (l:=fs) (k:=k-1) (by omega)
  have hx:fs[((k:Int)-1).toNat]? = some x:=by rw[show ((k:Int)-1).toNat=k-1 from by omega];exact hx0
  have hfy:=hok y (List.mem_of_getElem? hy)
  have hfx:=hok x (List.mem_of_getElem? hx0)
  have hsucc:=m6 (p:=Kf) (by omega) hy hx0
  refine A1 ?_;refine K5 (by kernel_rfl) (by kernel_rfl) hw ?_
  iterate 10 (first|refine Aa ?_|(apply O6;first|(apply T9;first|refine qP ?_|refine MG ?_)|refine qY ?_)|(apply J6;first|(apply T9;first|refine Nr ?_|refine En ?_)|refine qG ?_))
  refine OZ (v:=.bool (Kf y x)) (cap:=[.pointer (some ⟨b3,0,none⟩)]) (vs:=[.agg (cF y).toArray,.agg (cF x).toArray]) (fun Y w hw=>?_) ?_
  ·have hw:Wd Γ (.blk b3 (.cells #[AV] 155)::(.own (.slice a n c) 82 2 (fs.map cF)::S++Y)) w:=hw.ps [1]
   refine(Hi hfy hfx hw).mono ?_
   rintro e w ⟨rfl,hw⟩
   exact⟨rfl,hw.ps [1]⟩
  refine Ef ?_;intro w hw;refine A0 rfl (fun h2=>?_) (fun h2=>?_)
  ·rw[if_pos h2]at hsucc;refine A1 ?_;refine C7 (fun μ ρ w=>∃(m q:Nat) (cur:List B6),μ+(k+m)=n∧1≤m∧1≤q∧q<k+m∧Has ρ [(0,.slice a n c),(1,.func (.func 275) #[] #[.pointer (some ⟨b3,0,none⟩)]),(5,.int .i64 q),(6,.slice (t7 a k c 2) (n-k) (c-k)),(7,.int .i64 m)]∧cur.length=n∧cur.take q=R8 Kf (fs.take (k+m))∧(∀i,k+m-1≤i→cur[i]? = fs[i]?)∧Wd Γ (.own (.slice a n c) 82 2 (cur.map cF)::.blk b3 (.cells #[AV] 155)::S) w) (n-(k+1)) ⟨1,k,fs,by omega,by omega,by omega,by omega,⟨rfl,rfl,rfl,rfl,rfl,trivial⟩,hn.symm,by rw[hsucc,ho],fun i _=>rfl,hw⟩ ?_
   clear hw hρ hsucc;rintro μ2 ρ w ⟨m,q,cur,hm,hm1,hq1,hq2,hρ,hcl,hcur,hsame,hw⟩
   rw[hρ.eq];refine A1 ?_;refine A0 rfl (fun h3=>?_) (fun h3=>?_)
   ·have hmn:k+m<n:=by have:=of_decide_eq_true h3;omega
    obtain⟨y2,hy2⟩:=B8 (l:=fs) (k:=k+m) (by omega)
    obtain⟨x2,hx2⟩:=B8 (l:=fs) (k:=k+m-1) (by omega)
    have hcy:(cur.drop k)[m]? = some y2:=by rw[List.getElem?_drop,hsame _ (by omega)];exact hy2
    have hcx:(cur.drop k)[((m:Int)-1).toNat]? = some x2:=by
     rw[List.getElem?_drop,hsame _ (by omega),show k+((m:Int)-1).toNat=k+m-1 from by omega];exact hx2
    have hfy2:=hok y2 (List.mem_of_getElem? hy2)
    have hfx2:=hok x2 (List.mem_of_getElem? hx2)
    have hsucc:=m6 (p:=Kf) (by omega) hy2 hx2
    have hlen:n-k=((cur.drop k).map cF).length:=by simp[hcl]
    have hR2:O4 Γ (.own (.slice a n c) 82 2 (cur.map cF)::.blk b3 (.cells #[AV] 155)::S) (.slice (t7 a k c 2) (n-k) (c-k)) 2 ((cur.drop k).map cF):=⟨_,_,_,rfl,hlen,by omega,by omega,fun w hw=>by
     have:=(Wd.own_rd (i:=0) hw rfl).cut (c:=c) (by simp;omega) k (by simp;omega)
     rwa [←List.map_drop]at this⟩
    refine A1 ?_;refine K5 (by kernel_rfl) (by kernel_rfl) hw ?_
    iterate 10 (first|refine Aa ?_|(apply O6;first|(apply T9;first|refine qP ?_|refine MG ?_)|refine qY ?_)|(apply J6;first|(apply T9;first|refine Nr ?_|refine En ?_)|refine qG ?_))
    refine OZ (v:=.bool (Kf y2 x2)) (cap:=[.pointer (some ⟨b3,0,none⟩)]) (vs:=[.agg (cF y2).toArray,.agg (cF x2).toArray]) (fun Y w hw=>?_) ?_
    ·have hw:Wd Γ (.blk b3 (.cells #[AV] 155)::(.own (.slice a n c) 82 2 (cur.map cF)::S++Y)) w:=hw.ps [1]
     refine(Hi hfy2 hfx2 hw).mono ?_
     rintro e w ⟨rfl,hw⟩
     exact⟨rfl,hw.ps [1]⟩
    refine Ef ?_;intro w hw;refine A0 rfl (fun h4=>?_) (fun h4=>?_)
    ·have h4:Kf y2 x2=false:=by simpa using h4
     rw[if_neg (by rw[h4];decide)]at hsucc
     refine A1 ?_;refine Bq ?_;intro w hw;have hw:Wd Γ (.own (.slice a n c) 82 2 ((cur.map cF).set q (cF y2))::.blk b3 (.cells #[AV] 155)::S) w:=hw
     rw[←List.map_set]at hw;refine A1 ?_;refine⟨n-(k+(m+1)),by omega,m+1,q+1,cur.set q y2,by omega,by omega,by omega,by omega,⟨rfl,rfl,rfl,rfl,rfl,trivial⟩,by rw[List.length_set];exact hcl,?_,fun i hi=>?_,hw⟩
     ·rw[show k+(m+1)=k+m+1 from rfl,hsucc,←hcur,List.take_add_one,List.take_set_of_le (by omega),List.getElem?_set_self (by omega)];rfl
     ·rw[List.getElem?_set_ne (by omega)];exact hsame i (by omega)
    ·have h4:Kf y2 x2=true:=by simpa using h4
     rw[if_pos h4]at hsucc;refine A1 ?_;exact⟨n-(k+(m+1)),by omega,m+1,q,cur,by omega,by omega,by omega,by omega,⟨rfl,rfl,rfl,rfl,rfl,trivial⟩,hcl,by rw[show k+(m+1)=k+m+1 from rfl,hsucc];exact hcur,fun i hi=>hsame i (by omega),hw⟩
   ·have hmn:k+m=n:=by have:=of_decide_eq_false h3;omega
    have hfn:fs.take n=fs:=List.take_of_length_le (by omega)
    rw[hmn,hfn]at hcur;have hqn:q≤n:=by omega
    have hw:=Wd.own_take (i:=0) (m:=q) hw rfl hqn
    rw[←List.map_take,hcur]at hw;have hw:Wd Γ (.own (.slice a q c) 82 2 ((R8 Kf fs).map cF)::.blk b3 (.cells #[AV] 155)::S) w:=hw
    refine A1 ?_;refine NS ?_;intro w hw;refine A1 ?_;exact⟨_,rfl,_,rfl,hw⟩
  ·rw[if_neg (by rw[h2];decide)]at hsucc
   refine A1 ?_;refine⟨μ-1,by omega,k+1,by omega,by omega,⟨rfl,rfl,rfl,trivial⟩,?_,hw⟩
   rw[hsucc,ho,List.take_add_one,hy];rfl
 ·have hkn:¬k<n:=by have:=of_decide_eq_false h;omega
  rw[List.take_of_length_le (by omega)]at ho
  refine A1 ?_;rw[ho];exact⟨_,rfl,_,rfl,hw⟩
end Go.Proofs.YtlimglpjpcfpdaaGreatDoor
end
section
open Go Mk
namespace Go.Proofs.YtlimglpjpcfpdaaGreatDoor
set_option maxHeartbeats 16000000
attribute [local irreducible] Calls J4
def Y5(v:Val):Prop:=(-9223372036854775808≤v.Num∧v.Num≤9223372036854775807)∧v.Word.size≤9223372036854775807
def Z8(x:H3):Prop:=x.2.length≤100000∧x.1.size≤100000∧∀v∈x.2,Y5 v
def EV(Γ:B5)(fs:List B6):Prop:=∀f∈fs,BD Γ f∧Z8 f.fact
theorem EV.mono{Γ Γ':B5}{fs:List B6}(h:EV Γ fs)(hl:Γ.le Γ'):EV Γ' fs:=fun f hf=>⟨(h f hf).1.mono hl,(h f hf).2⟩
def facts(fs:List B6):List H3:=fs.map B6.fact
def BM(l:List H3):List H3:=BA J4 l
theorem Ib{Γ:B5}{S:List B1}{w:World}{v:Value}(fs:List B6)(hok:EV Γ fs)(hl:fs.length≤100000)(hr:O4 Γ S v 2 (fs.map cF))(hw:Wd Γ S w) :
  Calls Tryz.prog 206 #[v,AV] w fun e w'=>∃v' gs,e=.returned v'∧facts gs=BM (facts fs)∧EV Γ gs∧Wd Γ (.own v' 82 2 (gs.map cF)::S) w':=by
 refine A5 Tryz.func206 rfl rfl ?_
 refine A1 ?_;refine K4 ?_;intro b3 w hw;have hw:Wd Γ (.blk b3 (.cells #[AV] 155)::S) w:=hw
 refine A1 ?_;refine D1 (vs:=[v]) ?_
 refine(Cd hr.cons (by omega) hw).mono ?_
 rintro e w ⟨v1,rfl,hw⟩
 refine⟨_,rfl,?_⟩;refine A1 ?_;refine D1 (vs:=[v1,AV]) ?_
 refine(JC fs v1 (fun f hf=>(hok f hf).1) (by omega) hw).mono ?_
 rintro e w ⟨rfl,gs,hp,hs,hw⟩
 refine⟨_,rfl,?_⟩;have hokg:∀g∈gs,g∈fs:=fun g hg=>hp.mem_iff.1 hg
 have hgl:gs.length=fs.length:=hp.length_eq
 refine A1 ?_;refine D1 (vs:=[v1,.func (.func 275) #[] #[.pointer (some ⟨b3,0,none⟩)]]) ?_
 refine(HI gs (fun g hg=>(hok g (hokg g hg)).1) (by omega) hw).mono ?_
 rintro e w ⟨v2,rfl,hw⟩
 refine⟨_,rfl,?_⟩;refine A1 ?_;refine⟨_,rfl,v2,R8 Kf gs,rfl,?_,fun g hg=>hok g (hokg g (Bp hg)),hw.dropAt 1⟩
 refine FG AM B6.fact hp (hs.imp fun {a b} h q=>?_)
 have:Go.Proofs.ltOf J4 b.fact a.fact=true:=AM.lt_iff.2 q
 have h:Go.Proofs.ltOf J4 b.fact a.fact=false:=h
 rw[this]at h;cases h
end Go.Proofs.YtlimglpjpcfpdaaGreatDoor
end
section
open Go Mk
namespace Go.Proofs.YtlimglpjpcfpdaaGreatDoor
set_option maxHeartbeats 16000000
attribute [local irreducible] Calls J4
theorem y9(a:Int):-9223372036854775808≤IntKind.i64.wrap a∧IntKind.i64.wrap a≤9223372036854775807:=by
 rw[IntKind.wrap_i64];omega
section
variable {Γ:B5}{S:List B1}{w:World}
attribute [local irreducible] D4 u4 isS
end
end Go.Proofs.YtlimglpjpcfpdaaGreatDoor
end
section
open Go Mk
namespace Go.Proofs.YtlimglpjpcfpdaaGreatDoor
def Bg:Go.Shelf.Ren:=⟨fun|156=>46|165=>107|166=>108|169=>109|240=>173|241=>174|276=>250|277=>251|n=>n,fun|31=>22|9=>9|3=>3|4=>4|0=>0|20=>20|72=>185|76=>188|70=>182|37=>183|75=>187|127=>236|164=>291|5=>5|80=>174|n=>n,fun|n=>n⟩
theorem HF:Go.Proofs.Lays.n156 Tryz.prog Bg:={
 mixed:=by kernel_rfl
 f156:=Tryz.func46.trans (congrArg some (by kernel_rfl))
 f165:=Tryz.func107.trans (congrArg some (by kernel_rfl))
 f166:=Tryz.func108.trans (congrArg some (by kernel_rfl))
 f169:=Tryz.func109.trans (congrArg some (by kernel_rfl))
 f240:=Tryz.func173.trans (congrArg some (by kernel_rfl))
 f241:=Tryz.func174.trans (congrArg some (by kernel_rfl))
 f276:=Tryz.func250.trans (congrArg some (by kernel_rfl))
 f277:=Tryz.func251.trans (congrArg some (by kernel_rfl))
 t0:=Tryz.underlying0
 a0:=Tryz.isAgg0
 z0:=Tryz.sizeOf0
 v0:=Tryz.zeroValue0
 t3:=Tryz.underlying3
 a3:=Tryz.isAgg3
 z3:=Tryz.sizeOf3
 v3:=Tryz.zeroValue3
 t4:=Tryz.underlying4
 a4:=Tryz.isAgg4
 z4:=Tryz.sizeOf4
 v4:=Tryz.zeroValue4
 t9:=Tryz.underlying9
 a9:=Tryz.isAgg9
 z9:=Tryz.sizeOf9
 v9:=Tryz.zeroValue9
 t20:=Tryz.underlying20
 a20:=Tryz.isAgg20
 z20:=Tryz.sizeOf20
 v20:=Tryz.zeroValue20
 t31:=Tryz.underlying22
 a31:=Tryz.isAgg22
 z31:=Tryz.sizeOf22
 v31:=Tryz.zeroValue22
 t37:=Tryz.underlying183
 a37:=Tryz.isAgg183
 z37:=Tryz.sizeOf183
 v37:=Tryz.zeroValue183
 t70:=Tryz.underlying182
 a70:=Tryz.isAgg182
 z70:=Tryz.sizeOf182
 v70:=Tryz.zeroValue182
 t72:=Tryz.underlying185
 a72:=Tryz.isAgg185
 z72:=Tryz.sizeOf185
 v72:=Tryz.zeroValue185
 t75:=Tryz.underlying187
 a75:=Tryz.isAgg187
 z75:=Tryz.sizeOf187
 v75:=Tryz.zeroValue187
 t76:=Tryz.underlying188
 a76:=Tryz.isAgg188
 z76:=Tryz.sizeOf188
 v76:=Tryz.zeroValue188
 t127:=Tryz.underlying236
 a127:=Tryz.isAgg236
 z127:=Tryz.sizeOf236
 v127:=Tryz.zeroValue236
 t164:=Tryz.underlying291
 a164:=Tryz.isAgg291
 z164:=Tryz.sizeOf291
 v164:=Tryz.zeroValue291 }
def Bu:Go.Shelf.Ren:=⟨fun|173=>112|246=>175|283=>252|284=>253|285=>254|286=>255|129=>205|317=>292|318=>293|319=>294|320=>295|337=>304|338=>125|n=>n,fun|2=>2|3=>3|9=>9|4=>4|171=>294|0=>0|53=>58|37=>183|5=>5|173=>296|212=>327|51=>262|20=>20|213=>328|46=>131|232=>337|233=>239|n=>n,fun|17=>2|18=>3|19=>1|n=>n⟩
theorem MB:Go.Proofs.LaysM.n173 Tryz.prog Bu:={
 mixed:=by kernel_rfl
 f129:=Tryz.func205.trans (congrArg some (by kernel_rfl))
 f173:=Tryz.func112.trans (congrArg some (by kernel_rfl))
 f246:=Tryz.func175.trans (congrArg some (by kernel_rfl))
 f283:=Tryz.func252.trans (congrArg some (by kernel_rfl))
 f284:=Tryz.func253.trans (congrArg some (by kernel_rfl))
 f285:=Tryz.func254.trans (congrArg some (by kernel_rfl))
 f286:=Tryz.func255.trans (congrArg some (by kernel_rfl))
 f317:=Tryz.func292.trans (congrArg some (by kernel_rfl))
 f318:=Tryz.func293.trans (congrArg some (by kernel_rfl))
 f319:=Tryz.func294.trans (congrArg some (by kernel_rfl))
 f320:=Tryz.func295.trans (congrArg some (by kernel_rfl))
 f337:=Tryz.func304.trans (congrArg some (by kernel_rfl))
 f338:=Tryz.func125.trans (congrArg some (by kernel_rfl))
 t0:=Tryz.underlying0
 a0:=Tryz.isAgg0
 z0:=Tryz.sizeOf0
 v0:=Tryz.zeroValue0
 t2:=Tryz.underlying2
 a2:=Tryz.isAgg2
 z2:=Tryz.sizeOf2
 v2:=Tryz.zeroValue2
 t3:=Tryz.underlying3
 a3:=Tryz.isAgg3
 z3:=Tryz.sizeOf3
 v3:=Tryz.zeroValue3
 t4:=Tryz.underlying4
 a4:=Tryz.isAgg4
 z4:=Tryz.sizeOf4
 v4:=Tryz.zeroValue4
 t5:=Tryz.underlying5
 a5:=Tryz.isAgg5
 z5:=Tryz.sizeOf5
 v5:=Tryz.zeroValue5
 t9:=Tryz.underlying9
 a9:=Tryz.isAgg9
 z9:=Tryz.sizeOf9
 v9:=Tryz.zeroValue9
 t20:=Tryz.underlying20
 a20:=Tryz.isAgg20
 z20:=Tryz.sizeOf20
 v20:=Tryz.zeroValue20
 t37:=Tryz.underlying183
 a37:=Tryz.isAgg183
 z37:=Tryz.sizeOf183
 v37:=Tryz.zeroValue183
 t46:=Tryz.underlying131
 a46:=Tryz.isAgg131
 z46:=Tryz.sizeOf131
 v46:=Tryz.zeroValue131
 t51:=Tryz.underlying262
 a51:=Tryz.isAgg262
 z51:=Tryz.sizeOf262
 v51:=Tryz.zeroValue262
 t53:=Tryz.underlying58
 a53:=Tryz.isAgg58
 z53:=Tryz.sizeOf58
 v53:=Tryz.zeroValue58
 t171:=Tryz.underlying294
 a171:=Tryz.isAgg294
 z171:=Tryz.sizeOf294
 v171:=Tryz.zeroValue294
 t173:=Tryz.underlying296
 a173:=Tryz.isAgg296
 z173:=Tryz.sizeOf296
 v173:=Tryz.zeroValue296
 t212:=Tryz.underlying327
 a212:=Tryz.isAgg327
 z212:=Tryz.sizeOf327
 v212:=Tryz.zeroValue327
 t213:=Tryz.underlying328
 a213:=Tryz.isAgg328
 z213:=Tryz.sizeOf328
 t232:=Tryz.underlying337
 a232:=Tryz.isAgg337
 z232:=Tryz.sizeOf337
 v232:=Tryz.zeroValue337
 t233:=Tryz.underlying239
 a233:=Tryz.isAgg239
 z233:=Tryz.sizeOf239
 v233:=Tryz.zeroValue239
 g17:=by kernel_rfl
 g18:=by kernel_rfl
 g19:=by kernel_rfl
 i0:=by kernel_rfl
 i2:=by kernel_rfl
 i3:=by kernel_rfl
 i4:=by kernel_rfl
 i5:=by kernel_rfl
 i9:=by kernel_rfl
 i20:=by kernel_rfl
 i37:=by kernel_rfl
 i46:=by kernel_rfl
 i51:=by kernel_rfl
 i53:=by kernel_rfl
 i171:=by kernel_rfl
 i173:=by kernel_rfl
 i212:=by kernel_rfl
 i232:=by kernel_rfl
 i233:=by kernel_rfl
 m17:=by kernel_rfl
 m18:=by kernel_rfl
 m19:=by kernel_rfl }
end Go.Proofs.YtlimglpjpcfpdaaGreatDoor
end
section
open Go Mk
namespace Go.Proofs.YtlimglpjpcfpdaaGreatDoor
set_option maxHeartbeats 16000000
attribute [local irreducible] Calls J4
def CJ(s:ByteArray):Bool:=(F4 s).all U3
def Ag(s:ByteArray):Bool:=CJ s&&decide (0<s.size)&&decide (s.size≤24)
def I3(v:Val):Bool:=(decide (v.Kind=1)&&decide (v.Word=⟨#[]⟩))||(decide (v.Kind=2)&&decide (v.Num=0)&&Ag v.Word)
def o0(x:H3):Bool:=O7 x.1&&decide (1≤x.2.length)&&decide (x.2.length≤8)&&x.2.all I3
theorem GZ{s:ByteArray}{i:Nat}{b:UInt8}(h:(F4 s)[i]? = some b):Z1 (A6 s i)=U3 b:=by
 have:A6 s i=(b.toNat:Int):=by
  show ((s.data.toList.getD i 0).toNat:Int)=_
  rw[List.getD_eq_getElem?_getD,show s.data.toList[i]? = some b from h];rfl
 rw[this];rfl
theorem NT{s:ByteArray}(h:∀i,i<s.size→Z1 (A6 s i)=true):CJ s=true:=by
 refine List.all_eq_true.2 fun b hb=>?_
 obtain⟨i,hi⟩:=List.mem_iff_getElem?.1 hb
 have hlt:=(List.getElem?_eq_some_iff.1 hi).1
 rw[G1]at hlt;rw[←GZ hi];exact h i hlt
theorem MV{s:ByteArray}{i:Nat}(hi:i<s.size)(h:Z1 (A6 s i)=false):CJ s=false:=by
 obtain⟨b,hb⟩:=B8 (l:=F4 s) (k:=i) (by rw[G1];exact hi)
 refine List.all_eq_false.2 ⟨b,List.mem_of_getElem? hb,?_⟩
 rw[←GZ hb,h];decide
theorem JJ(s:ByteArray)(hs:s.size≤9223372036854775807):PC Tryz.prog 296 [.string s] (.bool (Ag s)):=⟨fun w=>by
 refine A5 Tryz.func296 rfl rfl ?_
 refine A1 ?_;refine C7 (fun μ ρ w'=>∃(k:Nat),μ+k=s.size∧Has ρ [(0,.string s),(3,.int .i64 k)]∧(∀i,i<k→Z1 (A6 s i)=true)∧w'=w) s.size ⟨0,by omega,⟨rfl,rfl,trivial⟩,fun i hi=>by omega,rfl⟩ ?_
 rintro μ ρ w' ⟨k,hk,hρ,hall,rfl⟩
 rw[hρ.eq];refine A1 ?_;refine A0 rfl (fun h=>?_) (fun h=>?_)
 ·have hkn:k<s.size:=by have:=of_decide_eq_true h;omega
  refine A1 ?_;refine A0 rfl (fun h2=>?_) (fun h2=>?_)
  ·refine A1 ?_;refine⟨_,rfl,J5 rfl ?_,rfl⟩
   have h3:Z1 (A6 s k)=false:=by
    have h2':(((decide (A6 s k<32)||decide (126<A6 s k))||decide (A6 s k=34))||decide (A6 s k=92))=true:=h2
    unfold Z1;simp only[Bool.or_eq_true,decide_eq_true_eq]at h2'
    simp only[Bool.and_eq_false_iff,decide_eq_false_iff_not]
    omega
   unfold Ag;rw[MV hkn h3];rfl
  ·refine A1 ?_;refine⟨μ-1,by omega,k+1,by omega,⟨rfl,rfl,trivial⟩,fun i hi=>?_,rfl⟩
   by_cases e:i=k
   ·subst e;have h2':(((decide (A6 s i<32)||decide (126<A6 s i))||decide (A6 s i=34))||decide (A6 s i=92))=false:=h2
    unfold Z1;simp only[Bool.or_eq_false_iff,decide_eq_false_iff_not]at h2'
    simp only[Bool.and_eq_true,decide_eq_true_eq]
    omega
   ·exact hall i (by omega)
 ·have hkn:¬k<s.size:=by have:=of_decide_eq_false h;omega
  refine A1 ?_;refine⟨_,rfl,J5 rfl ?_,rfl⟩
  unfold Ag;rw[NT fun i hi=>hall i (by omega)]
  have e1:decide (s≠⟨#[]⟩)=decide (0<s.size):=by simp only[ne_nilB]
  rw[e1,Bool.true_and];congr 1
  rw[decide_eq_decide];omega⟩
theorem LU{Γ:B5}{f:B6}(hf:BD Γ f)(ho:Z8 f.fact):PG Tryz.prog Γ 257 [.agg (cF f).toArray] (.bool (o0 f.fact)):=⟨fun S w hw=>by
 obtain⟨l1,l2,l3⟩:=hf.len;obtain⟨o1,o2,o3⟩:=ho;have hr:=hf
 unfold BD B6.hdr at hr;obtain⟨fr,fa,fn,fc,fs⟩:=f;simp only[B6.fact]at l1 l2 l3 o1 o2 o3 hr ⊢
 haveI:SB fr:=⟨by omega⟩
 refine A5 Tryz.func257 rfl rfl ?_
 refine A1 ?_;refine K4 ?_;intro b1 w hw;have hw:Wd Γ (.blk b1 (.cells #[.string fr,.slice fa fn fc] 82)::S) w:=hw
 refine A1 ?_;refine A0 rfl (fun h=>?_) (fun h=>?_)
 ·refine A1 ?_;refine⟨_,rfl,J5 rfl ?_,hw.drop⟩
  unfold o0;have h':((!O7 fr||decide ((fn:Int)<1))||decide (8<(fn:Int)))=true:=h
  simp only[Bool.or_eq_true,Bool.not_eq_true',decide_eq_true_eq]at h'
  symm
  rcases h' with (q|q)|q
  ·rw[q];rfl
  ·rw[show decide (1≤fs.length)=false from decide_eq_false (by omega)];simp
  ·rw[show decide (fs.length≤8)=false from decide_eq_false (by omega)];simp
 have h':((!O7 fr||decide ((fn:Int)<1))||decide (8<(fn:Int)))=false:=h
 simp only[Bool.or_eq_false_iff,Bool.not_eq_false',decide_eq_false_iff_not]at h'
 obtain⟨⟨q1,q2⟩,q3⟩:=h';have hR:o0 (fr,fs)=fs.all I3:=by
  unfold o0;rw[q1,show decide (1≤fs.length)=true from decide_eq_true (by omega),show decide (fs.length≤8)=true from decide_eq_true (by omega)];simp
 rw[hR];refine A1 ?_;refine C7 (fun μ ρ w=>∃(k:Nat),μ+k=fn∧Has ρ [(24,.slice fa fn fc),(25,.int .i64 fn),(26,.int .i64 k)]∧fs.all I3=(fs.drop k).all I3∧Wd Γ S w) fn ⟨0,by omega,⟨rfl,rfl,rfl,trivial⟩,rfl,hw.drop⟩ ?_
 clear hw;rintro μ ρ w ⟨k,hk,hρ,ho,hw⟩
 rw[hρ.eq];refine A1 ?_;refine A0 rfl (fun h2=>?_) (fun h2=>?_)
 ·have hkn:k<fn:=by have:=of_decide_eq_true h2;omega
  obtain⟨v,hv⟩:=B8 (l:=fs) (k:=k) (by omega)
  rw[K6 hv]at ho;have hvo:=o3 v (List.mem_of_getElem? hv)
  have hT:=JJ v.Word hvo.2
  refine A1 ?_;refine B4 ?_;intro b4 w hw;refine B0 ?_;intro w hw;have hw:Wd Γ (.blk b4 (.cells (enc v).toArray 67)::S) w:=hw
  refine A1 ?_;refine A0 rfl (fun h3=>?_) (fun h3=>?_)
  ·refine A1 ?_;refine⟨_,rfl,J5 rfl ?_,hw.drop⟩
   have h3':(!(decide (v.Kind=1)&&decide (v.Word=⟨#[]⟩)) && !(decide (v.Kind=2)&&decide (v.Num=0)&&Ag v.Word))=true:=h3
   have:I3 v=false:=by
    unfold I3;simp only[Bool.and_eq_true,Bool.not_eq_true']at h3'
    rw[h3'.1,h3'.2];rfl
   rw[ho,List.all_cons,this];rfl
  ·refine A1 ?_;refine⟨μ-1,by omega,k+1,by omega,⟨rfl,rfl,rfl,trivial⟩,?_,hw.drop⟩
   have h3':(!(decide (v.Kind=1)&&decide (v.Word=⟨#[]⟩)) && !(decide (v.Kind=2)&&decide (v.Num=0)&&Ag v.Word))=false:=h3
   have:I3 v=true:=by
    unfold I3;rw[Bool.and_eq_false_iff,Bool.not_eq_false',Bool.not_eq_false']at h3';rw[Bool.or_eq_true];exact h3'
   rw[ho,List.all_cons,this];rfl
 ·refine A1 ?_;refine⟨_,rfl,J5 rfl ?_,hw⟩
  rw[ho,D7 fs (by have:=of_decide_eq_false h2;omega)];rfl⟩
end Go.Proofs.YtlimglpjpcfpdaaGreatDoor
end
section
open Go Mk
namespace Go.Proofs.YtlimglpjpcfpdaaGreatDoor
set_option maxHeartbeats 16000000
attribute [local irreducible] Calls J4
class AQ(Γ:B5):Prop where
 h:∀S w,Wd Γ S w→Lib.TabIs Tryz.prog w "internal/strconv.uint64pow10" .u64 Lib.pow10Tab
 dr:Γ.dr=0
theorem AQ.mono{Γ Γ':B5}(h:AQ Γ)(hl:Γ.le Γ'):AQ Γ':=⟨fun S w hw=>h.h [] w (KE hl (G3 hw)),hl.dr.trans h.dr⟩
def L8(n:Int):ByteArray:=⟨(Lib.itoa n).toArray⟩
theorem l7{Γ:B5}[hT:AQ Γ](n:Int)(h0:-9223372036854775808≤n)(h1:n≤9223372036854775807):PG Tryz.prog Γ 112 [.int .i64 n,.int .i64 10] (.string (L8 n)):=⟨fun S w hw=>
 Calls.mono (Any.strconv_FormatInt_10 MB n h0 h1 w (hT.h S w hw)) fun e w' ⟨h,k,os,hw'⟩=>⟨h,by
  subst hw';refine HR hT.dr hw ⟨rfl,rfl,rfl,?_,fun k hk=>?_⟩
  ·simp[Go.Sort.grow,World.drewN]
  ·simp[Go.Sort.grow,World.drewN,Array.getElem?_append_left hk]⟩⟩
def Am:ByteArray:=⟨#[34]⟩
theorem KY{v:Val}(hr:I3 v=true):v.Word.size≤100000:=by
 unfold I3 Ag at hr;simp only[Bool.or_eq_true,Bool.and_eq_true,decide_eq_true_eq]at hr
 rcases hr with q|q
 ·rw[q.2];decide
 ·have:=q.2.2;omega
theorem Mu:Builder.Extra Tryz.prog Bg:={
 sizeBuilder:=by kernel_rfl
 liesBuilder:=by kernel_rfl
 t5:=Tryz.underlying5
 a5:=Tryz.isAgg5
 z5:=Tryz.sizeOf5
 v5:=Tryz.zeroValue5
 infoByte:=by kernel_rfl
 cellsByte:=by kernel_rfl
 sizeByte:=by kernel_rfl
 neB5:=by decide }
def k0:ByteArray:=⟨#[44,32]⟩
def L3(xs:List ByteArray):ByteArray:=⟨(Lib.join (xs.map (·.data.toList)) k0.data.toList).toArray⟩
theorem Ny(xs:List ByteArray)(h:∀x∈xs,x.size≤1000):Lib.lens (xs.map (·.data.toList))≤xs.length*1000:=by
 induction xs with
 | nil=>simp[Lib.lens]
 | cons x xs ih=>
  have h1:=ih fun y hy=>h y (List.mem_cons_of_mem _ hy)
  have h2:=h x List.mem_cons_self
  have h3:x.data.toList.length=x.size:=by simp
  simp only[Lib.lens,List.map_cons,List.sum_cons,List.length_cons]at h1 ⊢
  rw[h3,Nat.add_mul];omega
theorem Bf(xs:List ByteArray)(h:∀x∈xs,x.size≤1000):(L3 xs).size≤xs.length*1002:=by
 have hs:(L3 xs).size=(Lib.join (xs.map (·.data.toList)) k0.data.toList).length:=by show (List.toArray _).size=_;simp
 rw[hs];cases xs with
 | nil=>simp[Lib.join]
 | cons x r=>
  have h1:=Lib.join_length x.data.toList (r.map (·.data.toList)) k0.data.toList
  have h2:=Ny (x::r) h
  rw[List.map_cons]at h2 ⊢
  rw[h1,List.length_map,show k0.data.toList.length=2 from rfl];simp only[List.length_cons,Nat.add_mul]at h2 ⊢
  omega
theorem MF{Γ:B5}[hT:AQ Γ]{S:List B1}{w:World}{v:Value}(xs:List ByteArray)(hr:O4 Γ S v 1 (xs.map fun s=>[.string s]))(hl:xs.length≤1000)(hsz:∀x∈xs,x.size≤1000)(hw:Wd Γ S w) :
  Calls Tryz.prog 46 #[v,.string k0] w fun e w'=>e=.returned (.string (L3 xs))∧Wd Γ S w':=by
 obtain⟨a,n,c,rfl,hn,hnc,hc⟩:=hr.shape;simp only[List.length_map]at hn
 have hrd:=hr.rd hw
 by_cases h0:xs=[]
 ·subst h0;simp only[List.length_nil]at hn
  subst hn;exact Calls.mono (Any.strings_Join_none HF Mu a c k0 w) fun e w' ⟨h1,h2⟩=>⟨h1,by subst h2;exact hw⟩
 ·have hpos:0<xs.length:=List.length_pos_iff.2 h0
  have ha:=hrd.at_ (by simpa using hpos)
  have hcell:∀(j:Nat) x,xs[j]? = some x→w.cell? ⟨aB a,aO a+j,none⟩=some (.string x):=fun j x hx=>by
   have h1:=hrd.range (j*1) (.string x) (Y6 hrd.len (by rw[List.getElem?_map,hx];rfl) 0 _ rfl)
   rwa [Nat.mul_one]at h1
  have hb:aB a<w.heap.size:=by
   obtain⟨x,hx⟩:=B8 (l:=xs) (k:=0) hpos
   have h1:=hcell 0 x hx
   unfold World.cell? at h1
   by_cases hlt:aB a<w.heap.size
   ·exact hlt
   ·rw[Array.getElem?_eq_none (show w.heap.size≤aB a by omega)]at h1;cases h1
  have hjl:=Bf xs hsz
  have hs:(L3 xs).size=(Lib.join (xs.map (·.data.toList)) k0.data.toList).length:=by show (List.toArray _).size=_;simp
  have:=Any.strings_Join_48 HF Mu (aB a) (aO a) c xs k0 w hcell hb (by omega) (by omega) (by rw[←hs];omega)
  rw[ha,hn];exact Calls.mono this fun e w' ⟨h1,h2⟩=>⟨h1,HR hT.dr hw h2⟩
end Go.Proofs.YtlimglpjpcfpdaaGreatDoor
end
section
open Go Mk
namespace Go.Proofs.YtlimglpjpcfpdaaGreatDoor
set_option maxHeartbeats 16000000
attribute [local irreducible] Calls J4
section
variable {Γ:B5}{S:List B1}{w:World}{b:Nat}
end
end Go.Proofs.YtlimglpjpcfpdaaGreatDoor
end
section
open Go Mk
namespace Go.Proofs.YtlimglpjpcfpdaaGreatDoor
set_option maxHeartbeats 16000000
attribute [local irreducible] Calls J4
theorem BB:∀(k u:Nat),u<10 ^ (k+1)→Lib.nDigits u≤k+1
 | 0,u,h=>by rw[Lib.nDigits_small (by simpa using h)];exact Nat.le_refl _
 | k+1,u,h=>by
  by_cases hu:u<10
  ·rw[Lib.nDigits_small hu];omega
  ·rw[Lib.nDigits_big hu];have:=BB k (u / 10) (by rw[Nat.div_lt_iff_lt_mul (by decide)];rw[Nat.pow_succ]at h;exact h)
   omega
theorem x5{n:Int}(h0:-9223372036854775808≤n)(h1:n≤9223372036854775807):(L8 n).size≤25:=by
 have hs:(L8 n).size=(Lib.itoa n).length:=by show (List.toArray _).size=_;simp
 have hd:∀u:Nat,u≤9223372036854775808→(Lib.decDigits u).length≤20:=fun u hu=>by
  rw[Lib.decDigits_length];exact BB 19 u (by omega)
 rw[hs];unfold Lib.itoa;split
 ·have:=hd n.natAbs (by omega)
  simp only[List.length_cons];omega
 ·have:=hd n.toNat (by omega)
  omega
end Go.Proofs.YtlimglpjpcfpdaaGreatDoor
end
section
open Go Mk
namespace Go.Proofs.YtlimglpjpcfpdaaGreatDoor
set_option maxHeartbeats 16000000
attribute [local irreducible] Calls J4
section
variable {Γ:B5}{S:List B1}{w:World}{b:Nat}
abbrev HK(b:Nat)(f:B6):B1:=.blk b (.cells (cF f).toArray 82)
end
end Go.Proofs.YtlimglpjpcfpdaaGreatDoor
end
section
open Go Mk
namespace Go.Proofs.YtlimglpjpcfpdaaGreatDoor
set_option maxHeartbeats 16000000
attribute [local irreducible] Calls J4
end Go.Proofs.YtlimglpjpcfpdaaGreatDoor
end
section
open Go Mk
namespace Go.Proofs.YtlimglpjpcfpdaaGreatDoor
set_option maxHeartbeats 16000000
attribute [local irreducible] Calls J4
def l4(w:World):B5:={ Fu w with dr:=0 }
theorem NW(w:World):Wd (l4 w) [] w:=⟨rfl,rfl,rfl,Nat.zero_le _,fun b o h=>h,[],trivial,by simp,by simp⟩
theorem Ix{P:Program}{w w':World}{name:String}{k:IntKind}{zs:List Int}(h:Lib.TabIs P w name k zs)(hk:∀(b:Nat) (o:Obj),w.heap[b]? = some o→w'.heap[b]? = some o):Lib.TabIs P w' name k zs:=by
 unfold Lib.TabIs World.var? at *
 cases hg:P.globalNamed name with
 | none=>rw[hg]at h;cases h
 | some g=>
  rw[hg]at h;simp only[Option.bind_some]at h ⊢
  cases hb:w.heap[g]? with
  | none=>rw[hb]at h;cases h
  | some o=>
   rw[hb]at h;rw[hk g o hb];exact h
theorem Nj{w:World}(h:Lib.TabIs Tryz.prog w "internal/strconv.uint64pow10" .u64 Lib.pow10Tab):AQ (l4 w):=⟨fun S w' hw=>Ix h fun b o hb=>hw.imm b o hb,rfl⟩
end Go.Proofs.YtlimglpjpcfpdaaGreatDoor
end
section
open Go Mk
open Go.ChangeShapes Go.WideShapes Go.ChangeAt Go.RowKit
namespace Go.Proofs.YtlimglpjpcfpdaaGreatDoor
theorem LW:ownKnob Tryz.prog.godebug=none:=by kernel_rfl
theorem IR{W W':World}{S:List B1}(h:Wd (l4 W) S W')(may:MemPlace→Prop):W.keptBut W' may:=by
 refine⟨h.os,h.out,fun i hi=>?_⟩
 have h1:W.heap[i]? = some W.heap[i]:=Array.getElem?_eq_getElem hi
 have h2:=h.imm i W.heap[i] h1
 rw[h1,h2];cases W.heap[i] <;> simp
theorem PI{H:Type}{enc:TypeId×Value→H}{f:Func}{s:ChangeSpec}{W W':World}{S:List B1}{args:Array Value}{v:Value}{ds gs:List (DataW H)}{before pa pv:List MemPlace}{apart:Bool}
  (hW:DataW.Whole enc Tryz.prog f.params.toList s.vars apart W args.toList ds gs before)
  (hres:∀(b:Nat) (sp:Nat→Bool) (hd:Bool),DataW.TrodAll enc Tryz.prog W' b sp hd f.resultTypes.toList (v.resultList f.resultTypes.size) (s.fn H (ds++gs)).results [])
  (hargs:∀sp:Nat→Bool,(∀p∈before,sp p.block=true)→DataW.TrodAll enc Tryz.prog W' 0 sp true f.params.toList args.toList (s.fn H (ds++gs)).args pa)
  (hvars:∀sp:Nat→Bool,(∀p∈before,sp p.block=true)→DataW.TrodVars enc Tryz.prog W' sp s.vars (s.fn H (ds++gs)).vars pv)
  (hps:before=pa++pv) (hk:Wd (l4 W) S W'):s.post enc Tryz.prog f apart true false false W args v W':=by
 have hold:∀p∈before,(fun b=>decide (b<W.heap.size)) p.block=true:=fun p hp=>by simpa using hW.lt p hp
 exact⟨ds,gs,before,[],pa,pv,hW,hres _ _ _,hargs _ hold,hvars _ hold,IR hk _,fun h=>by cases h⟩
section
variable {H:Type}{en:TypeId×Value→H}{W W':World}{base:Nat}{sp:Nat→Bool}{held:Bool}{S:List B1}
theorem Gb{sz:Nat}:∀ {rows:List (List Value)},(∀r∈rows,r.length=sz)→∀ {j:Nat} {u:Value},rows.flatten[j]? = some u→∃i r row,rows[i]? = some row∧row[r]? = some u∧j=i*sz+r
 | [],_,j,u,h=>by simp at h
 | a::rows,hl,j,u,h=>by
  rw[List.flatten_cons]at h;by_cases hj:j<a.length
  ·rw[List.getElem?_append_left hj]at h;exact⟨0,j,a,rfl,h,by omega⟩
  ·rw[List.getElem?_append_right (by omega)]at h
   obtain⟨i,r,row,h1,h2,h3⟩:=Gb (fun r hr=>hl r (List.mem_cons_of_mem _ hr)) h
   have ha:=hl a (List.mem_cons_self ..)
   refine⟨i+1,r,row,by simpa using h1,h2,?_⟩
   rw[Nat.add_mul,Nat.one_mul];omega
theorem Al{α:Type}[Inhabited α]{F:α→List Value}{p:α→Prop}{t e sz:Nat}(hc:Tryz.prog.cellsOf e=sz)(h0:0<sz)(hF:∀x,(F x).length=sz)(ht:Tryz.prog.underlying t=some (.slice e))
  (hel:∀ {n:Nat} {cs:List Value} {y:DataW H×List MemPlace},DataW.trod en Tryz.prog W base sp held n e cs=some y→∃x:α,cs=F x∧p x)
  {n:Nat} {v:Value} {y:DataW H×List MemPlace} (h:DataW.trod en Tryz.prog W base sp held n t [v]=some y):∃xs:List α,D2 (l4 W) v sz (xs.map F)∧∀x∈xs,p x:=by
 rcases Deep.open_slice ht h with⟨h0,-⟩|⟨a,len,cap,m,k,D,Pl,h1,-,hlc,hcm,hm,-,hel2⟩
 ·cases h0
  exact⟨[],D2.nil,fun x hx=>by cases hx⟩
 ·cases h1
  have hlm:len≤m:=by rw[hm];split <;> omega
  have hx:∀i,i<len→∃x:α,p x∧∀j u,(F x)[j]? = some u→W.cell? (a.add (i*sz+j))=some u:=fun i hi=>by
   obtain⟨cs',h1,h2⟩:=hel2 i (by omega)
   rw[hc]at h1;obtain⟨-,hl,hat⟩:=World.cells?_some h1
   obtain⟨x,rfl,hp⟩:=hel h2
   refine⟨x,hp,fun j u hu=>?_⟩
   have hj:j<sz:=by rw[←hl];exact(List.getElem?_eq_some_iff.1 hu).1
   have:=hat j hj
   rw[hu,Go.Deep.add_add]at this;exact this
  obtain⟨f,hf⟩:∃f:Nat→α,∀i,i<len→p (f i)∧∀j u,(F (f i))[j]? = some u→W.cell? (a.add (i*sz+j))=some u:=by
   refine⟨fun i=>if hi:i<len then (hx i hi).choose else default,fun i hi=>?_⟩
   simp only[hi,dif_pos]
   exact(hx i hi).choose_spec
  refine⟨(List.range len).map f,?_,fun x hx=>?_⟩
  ·unfold D2;refine⟨fun r hr=>?_,some a,len,cap,rfl,by simp,hlc,hcm,fun hpos=>?_⟩
   ·obtain⟨x,-,rfl⟩:=List.mem_map.1 hr
    exact hF x
   ·have hpos:0<len:=by simpa using hpos
    obtain⟨u0,hu0⟩:∃u,(F (f 0))[0]? = some u:=⟨_,List.getElem?_eq_getElem (by rw[hF];exact h0)⟩
    have h00:=(hf 0 hpos).2 0 u0 hu0
    obtain⟨g,o,spt⟩:=a;have h01:W.cell? ⟨g,o,spt⟩=some u0:=by
     rw[Nat.zero_mul]at h00;simpa[Addr.add] using h00
    unfold World.cell? at h01
    cases hg:W.heap[g]? with
    | none=>rw[hg]at h01;simp at h01
    | some ob=>
     rw[hg]at h01;cases ob with
     | cells cur e fr=>
      cases spt with
      | some q=>simp at h01
      | none=>
       refine⟨g,o,cur,e,fr,rfl,hg,fun j u hj=>?_⟩
       obtain⟨i,r,row,h1,h2,h3⟩:=Gb (sz:=sz) (rows:=((List.range len).map f).map F) (fun r hr=>by
        obtain⟨x,-,rfl⟩:=List.mem_map.1 hr
        exact hF x) hj
       rw[List.getElem?_map,List.getElem?_map]at h1;have hi:i<len:=by
        by_cases hi:i<len
        ·exact hi
        ·rw[List.getElem?_eq_none (by simpa using hi)]at h1;simp at h1
       rw[List.getElem?_range hi]at h1;simp only[Option.map_some,Option.some.injEq]at h1
       subst h1;have h4:W.cell? ⟨g,o+(i*sz+r),none⟩=some u:=by
        have h5:=(hf i hi).2 r u h2
        rwa [show Addr.add ⟨g,o,none⟩ (i*sz+r)=⟨g,o+(i*sz+r),none⟩ from by
         unfold Addr.add;by_cases h0:i*sz+r=0
         ·rw[if_pos h0,h0];rfl
         ·rw[if_neg h0]]at h5
       unfold World.cell? at h4
       rw[hg]at h4;rw[h3];simpa using h4
     | _=>simp at h01
  ·obtain⟨i,hi,rfl⟩:=List.mem_map.1 hx
   exact(hf i (List.mem_range.1 hi)).1
theorem RO:∀cs:List Value,cs.length=3→∃a b c,cs=[a,b,c]
 | [a,b,c],_=>⟨a,b,c,rfl⟩
theorem RA:∀cs:List Value,cs.length=2→∃a b,cs=[a,b]
 | [a,b],_=>⟨a,b,rfl⟩
theorem MC{n:Nat}{cs:List Value}{y:DataW H×List MemPlace}(h:DataW.trod en Tryz.prog W base sp held n 67 cs=some y):∃x:Val,cs=enc x∧(-9223372036854775808≤x.Num∧x.Num≤9223372036854775807):=by
 obtain⟨xs,k,-,-,hl,hxl,hf⟩:=DataW.trod_struct Tryz.underlying67 h
 have hl:cs.length=3:=hl.trans (by kernel_rfl)
 obtain⟨c0,c1,c2,rfl⟩:=RO cs hl
 have e0:Tryz.prog.cellsOf 3=1:=by kernel_rfl
 have e1:Tryz.prog.cellsOf 2=1:=by kernel_rfl
 have e2:Tryz.prog.cellsOf 9=1:=by kernel_rfl
 have g0:DataW.trod en Tryz.prog W base sp held k 3 (([c0,c1,c2].drop 0).take (Tryz.prog.cellsOf 3))=xs[0]?:=hf 0 { name:= "Kind",type:=3,offset:=0,embedded:=false,tag:= "",pkgPath:= "",byteOffset:=0 } rfl
 have g1:DataW.trod en Tryz.prog W base sp held k 2 (([c0,c1,c2].drop 1).take (Tryz.prog.cellsOf 2))=xs[1]?:=hf 1 { name:= "Int",type:=2,offset:=1,embedded:=false,tag:= "",pkgPath:= "",byteOffset:=8 } rfl
 have g2:DataW.trod en Tryz.prog W base sp held k 9 (([c0,c1,c2].drop 2).take (Tryz.prog.cellsOf 9))=xs[2]?:=hf 2 { name:= "Word",type:=9,offset:=2,embedded:=false,tag:= "",pkgPath:= "",byteOffset:=16 } rfl
 rw[e0]at g0;rw[e1]at g1;rw[e2]at g2;have hxl:xs.length=3:=hxl
 rw[List.getElem?_eq_getElem (by omega)]at g0 g1 g2
 obtain⟨a,ha,-,-⟩:=DataW.trod_int Tryz.underlying3 g0
 obtain⟨b,hb,-,hw⟩:=DataW.trod_int Tryz.underlying2 g1
 obtain⟨s,hs,-,-⟩:=DataW.trod_string Tryz.underlying9 g2
 simp only[List.drop_zero,List.take_succ_cons,List.take_zero,List.drop_succ_cons,List.cons.injEq,and_true]at ha hb hs
 subst ha;subst hb;subst hs;refine⟨⟨a,b,s⟩,rfl,?_⟩
 simp only[Lit.wf,IntKind.min,IntKind.max,IntKind.bits,IntKind.signed]at hw
 simpa using hw
theorem FR(hk:Wd (l4 W) S W'):∀ {ts:List TypeId} {vs:List Value} {ds:List (DataW H)} {ps:List MemPlace},DataW.TrodAll en Tryz.prog W base sp held ts vs ds ps→(∀p∈ps,p.block<W.heap.size)→DataW.TrodAll en Tryz.prog W' base sp held ts vs ds ps
 | [],[],[],_,h,_=>h
 | _::_,_::_,_::_,_,⟨p,q,⟨n,h1⟩,h2,e⟩,hs=>⟨p,q,⟨n,DataW.trod_carry n _ _ _ h1 fun x hx=>by
   have hb:=hs x (by rw[e];exact List.mem_append_left _ hx)
   cases x with
   | cell b off=>
    have h3:W'.heap[b]? = W.heap[b]?:=by
     have h4:W.heap[b]? = some (W.heap[b]'hb):=Array.getElem?_eq_getElem hb
     rw[h4];exact hk.imm b _ h4
    show W'.cell? _=W.cell? _
    unfold World.cell?
    rw[h3]
   | map b=>
    have h4:W.heap[b]? = some (W.heap[b]'hb):=Array.getElem?_eq_getElem hb
    show W'.heap[b]? = W.heap[b]?
    rw[h4];exact hk.imm b _ h4⟩,FR hk h2 (fun x hx=>hs x (by rw[e];exact List.mem_append_right _ hx)),e⟩
end
theorem Mi:Kids Tryz.prog (· < Tryz.prog.types.size):=kids_rows (by kernel_rfl) (by kernel_rfl)
theorem Lz:∀t e,t<Tryz.prog.types.size→Tryz.prog.underlying t=some (.slice e)→0<Tryz.prog.cellsOf e:=slices_full_of _ (by kernel_rfl)
abbrev Je:List (String×DataW Unit):=[("math/bits.deBruijn32tab",Rows.laid_math_bits_deBruijn32tab),("math/bits.deBruijn64tab",Rows.laid_math_bits_deBruijn64tab),("internal/strconv.uint64pow10",Rows.laid_internal_strconv_uint64pow10)]
theorem OK{W:World}(h:laidMetH Tryz.prog Je W):Lib.TabIs Tryz.prog W "internal/strconv.uint64pow10" .u64 Lib.pow10Tab:=by
 rw[MakeChecks.laidMetH_plain _ _ _ (by kernel_rfl)]at h
 have h3:=laidMet.tail (laidMet.tail h)
 exact Lib.tabIs_of_head (rest:=[]) (g:=Bu.g 17) (by kernel_rfl) (by kernel_rfl) Tryz.underlying327 Tryz.underlying58 (by kernel_rfl) (by kernel_rfl) h3
end Go.Proofs.YtlimglpjpcfpdaaGreatDoor
end
section
open Go
namespace Mk
attribute [local irreducible] Calls
section
variable {P:Program}{n:Nat}{ops:List Oper}{Γ:B5}{K:List B1}{wr tc stab:List (List Nat)}{Q:Fr→World→Prop}{i:Nat}{rest:List Oper}{ρ:Fr}{M:Nat→Fr→List B1}
variable {d:Option Tmp}{ty:TypeId}{pos:String}{es:Array Edge}{f:Nat}{args:List Operand}{tys:Array TypeId}
theorem Lx{c:Nat}{F:Fr→List B1}(F':Fr→List B1)(vs:Fr→List Value)[B9 P f]
  (hs:∀g w Y,Wd Γ (F (D9 (stab.getD c []) g C8)++(K++Y)) w→Calls P f (vs (D9 (stab.getD c []) g C8)).toArray w fun e w'=>∃u,e=.returned u∧Wd Γ (F' (D9 (stab.getD c []) (C1 g d u) C8)++(K++Y)) w')
  (h:MSw (mV P n ops Γ K wr tc stab) Q (i+1) rest ⟨C1 ρ d undef,K3 M c F'⟩) (hM:M c=F:=by first|exact B2|exact LQ|exact t6|exact((A4 (by decide)).trans B2)|exact rfl) (hw0:wr.getD i []=[c]:=by exact rfl) (ht:tc.getD i []=[c]:=by exact rfl) (hfr:S2 stab d=true:=by exact rfl) (ha:∀g,EvL (D9 stab.flatten g ρ) args (vs (D9 (stab.getD c []) g C8)):=by intro g;exact u7) :
  MSw (mV P n ops Γ K wr tc stab) Q i (⟨d,.call { callee:=.value (.func f),args:=args.toArray,argTypes:=tys },ty,pos,es,none⟩::rest) ⟨ρ,M⟩:=
 mS (v:=undef) F' (fun g w Y hw=>Az (ha g).eqA ((hs g w Y hw).mono fun e w' ⟨u,h1,h2⟩=>⟨u,h1,fun hh=>(by rw[hfr]at hh;cases hh),h2⟩)) h hM hw0 ht rfl
end
end Mk
end
section
open Go Mk
namespace Go.Proofs.YtlimglpjpcfpdaaGreatDoor
set_option maxHeartbeats 16000000
attribute [local irreducible] Calls J4
abbrev AS(g:B6):B1:=.own g.hdr 67 3 (g.Args.map enc)
theorem Fe{Γ:B5}{S:List B1}{w:World}:∀(gs:List B6),Wd Γ (gs.map AS++S) w→∃Γ',Γ.le Γ'∧(∀g∈gs,BD Γ' g)∧Wd Γ' S w
 | [],h=>⟨Γ,B5.le.refl _,(fun g hg=>by cases hg),h⟩
 | g::gs,h=>by
  obtain⟨Γ1,l1,r1,h1⟩:=Wd.freeze (h:Wd Γ (AS g::(gs.map AS++S)) w)
  obtain⟨Γ2,l2,r2,h2⟩:=Fe gs h1
  refine⟨Γ2,l1.trans l2,fun x hx=>?_,h2⟩
  rcases List.mem_cons.1 hx with e|e
  ·rw[e];exact D2.mono r1 l2
  ·exact r2 x e
def Cn(gs:List B6):Prop:=∀g∈gs,Z8 g.fact
theorem Gu{Γ:B5}{S:List B1}{w:World}{v:Value}(fs:List B6)(hok:EV Γ fs)(hl:fs.length≤100000)(hr:O4 Γ S v 2 (fs.map cF))(hw:Wd Γ S w) :
  Calls Tryz.prog 143 #[v] w fun e w'=>∃v' gs,e=.returned v'∧facts gs=BM (facts fs)∧Cn gs∧Wd Γ (.own v' 82 2 (gs.map cF)::(gs.map AS++S)) w':=by
 refine A5 Tryz.func143 rfl rfl ?_
 refine A1 ?_;refine D1 (vs:=[v,AV]) ?_
 refine(Ib fs hok hl hr hw).mono ?_
 clear hw;rintro e w ⟨v1,gs0,rfl,hgs0,hok0,hw⟩
 refine⟨_,rfl,?_⟩;obtain⟨a,n,c,rfl,hn,hnc,hc⟩:=hw.own_shape (i:=0) rfl
 simp only[List.length_map]at hn
 refine A1 ?_;refine C7 (fun μ ρ w=>∃(gs hs:List B6),μ+gs.length=n∧gs.length+hs.length=n∧Has ρ [(3,.slice a n c),(8,.int .i64 n),(9,.int .i64 (gs.length:Nat))]∧facts (gs++hs)=BM (facts fs)∧EV Γ hs∧Cn gs∧Wd Γ (.own (.slice a n c) 82 2 ((gs++hs).map cF)::(gs.map AS++S)) w) n ⟨[],gs0,by simp,by simp[hn],⟨rfl,rfl,rfl,trivial⟩,hgs0,hok0,(fun g hg=>by cases hg),hw⟩ ?_
 clear hw hgs0 hok0 hn hok hr;rintro μ ρ w ⟨gs,hs,hk,hn,hρ,hgs,hok,hok1,hw⟩
 rw[hρ.eq];refine A1 ?_;refine A0 rfl (fun h=>?_) (fun h=>?_)
 ·have hkn:gs.length<n:=by have:=of_decide_eq_true h;omega
  cases hs with
  | nil=>simp at hn;omega
  | cons g hs=>
   have hg:(gs++g::hs)[gs.length]? = some g:=by rw[List.getElem?_append_right (Nat.le_refl _)];simp
   obtain⟨hf,hal⟩:=hok g (by simp)
   have hal1:g.Args.length≤100000:=hal.1
   have hll:(gs++g::hs).length=n:=by rw[List.length_append];exact hn
   refine A1 ?_;refine D1 (vs:=[g.hdr]) ?_
   refine(IB (S:=.own (.slice a n c) 82 2 ((gs++g::hs).map cF)::(gs.map AS++S)) hf (by omega) hw).mono ?_
   clear hw;rintro e w ⟨v2,rfl,hw⟩
   refine⟨_,rfl,?_⟩;obtain⟨a2,n2,c2,rfl,-,-,-⟩:=hw.own_shape (i:=0) rfl
   refine A1 ?_;refine Ln (i:=1) (r:=[.slice a2 n2 c2]) ?_ (A7 hg)
   intro w hw;have hw:Wd Γ (.own (.slice a2 n2 c2) 67 3 (g.Args.map enc)::.own (.slice a n c) 82 2 (((gs++g::hs).map cF).set gs.length (cF ⟨g.Rel,a2,n2,c2,g.Args⟩))::(gs.map AS++S)) w:=hw
   have e2:((gs++g::hs).map cF).set gs.length (cF ⟨g.Rel,a2,n2,c2,g.Args⟩)=((gs++[(⟨g.Rel,a2,n2,c2,g.Args⟩:B6)])++hs).map cF:=by
    rw[←List.map_set,List.set_append_right _ _ (Nat.le_refl _),Nat.sub_self,List.set_cons_zero,List.append_assoc];rfl
   rw[e2]at hw;refine A1 ?_;refine⟨μ-1,by omega,gs++[⟨g.Rel,a2,n2,c2,g.Args⟩],hs,by simp;omega,by simp at hn ⊢;omega,⟨rfl,rfl,by simp;rfl,trivial⟩,?_,fun x hx=>hok x (by simp[hx]),fun x hx=>?_,?_⟩
   ·rw[←hgs];unfold facts;simp[B6.fact]
   ·rcases List.mem_append.1 hx with q|q
    ·exact hok1 x q
    ·rw[List.mem_singleton.1 q];exact hal
   ·have e3:((gs++[(⟨g.Rel,a2,n2,c2,g.Args⟩:B6)]).map AS++S)=gs.map AS++(AS ⟨g.Rel,a2,n2,c2,g.Args⟩::S):=by simp
    rw[e3];exact hw.perm ((List.Perm.swap _ _ _).trans (List.Perm.cons _ List.perm_middle.symm))
 ·have hkn:¬gs.length<n:=by have:=of_decide_eq_false h;omega
  have hs0:hs=[]:=List.eq_nil_of_length_eq_zero (by omega)
  subst hs0;rw[List.append_nil]at hw hgs
  refine A1 ?_;exact⟨_,rfl,_,gs,rfl,hgs,hok1,hw⟩
structure RL(Γ:B5)(v:Value)(fs:List B6):Prop where
 rep:D2 Γ v 2 (fs.map cF)
 ok:EV Γ fs
theorem RL.mono{Γ Γ':B5}{v:Value}{fs:List B6}(h:RL Γ v fs)(hl:Γ.le Γ'):RL Γ' v fs:=⟨h.rep.mono hl,h.ok.mono hl⟩
theorem RL.nil{Γ:B5}:RL Γ (.slice none 0 0) []:=⟨D2.nil,fun f hf=>by cases hf⟩
theorem RL.len{Γ:B5}{v:Value}{fs:List B6}(h:RL Γ v fs):∃a c,v=.slice a fs.length c∧fs.length≤c∧c≤9223372036854775807:=by
 obtain⟨a,n,c,h1,h2,h3,h4⟩:=h.rep.shape;simp only[List.length_map]at h2
 subst h2;exact⟨a,c,h1,h3,h4⟩
theorem Jj{Γ:B5}{S:List B1}{w:World}{v:Value}{gs:List B6}(hok:Cn gs)(hw:Wd Γ (.own v 82 2 (gs.map cF)::(gs.map AS++S)) w):∃Γ',Γ.le Γ'∧RL Γ' v gs∧Wd Γ' S w:=by
 obtain⟨Γ1,l1,r1,h1⟩:=hw.freeze;obtain⟨Γ2,l2,r2,h2⟩:=Fe gs h1
 exact⟨Γ2,l1.trans l2,⟨r1.mono l2,fun g hg=>⟨r2 g hg,hok g hg⟩⟩,h2⟩
def GE(l:List H3)(f:H3):List H3×Int:=if o0 f=true then (if (BM (l++[f])).length≤8192 then (BM (l++[f]),0) else ([],15)) else ([],63)
section
variable {Γ:B5}{S:List B1}{w:World}
theorem Iv{v:Value}{f:B6}(fs:List B6)(hok:EV Γ fs)(hl:fs.length≤50000)(hf:BD Γ f)(hfo:Z8 f.fact)(hr:O4 Γ S v 2 (fs.map cF))(hw:Wd Γ S w) :
  Calls Tryz.prog 182 #[v,.agg (cF f).toArray] w fun e w'=>∃Γ' v' gs,Γ.le Γ'∧e=.returned (.tuple #[v',.int .i64 (GE (facts fs) f.fact).2])∧facts gs=(GE (facts fs) f.fact).1∧RL Γ' v' gs∧Wd Γ' S w':=by
 obtain⟨a,n,c,rfl,hn,hnc,hc⟩:=hr.shape;simp only[List.length_map]at hn
 have hR:=LU hf hfo
 have hall:EV Γ (fs++[f]):=fun x hx=>by
  rcases List.mem_append.1 hx with q|q
  ·exact hok x q
  ·rw[List.mem_singleton.1 q];exact⟨hf,hfo⟩
 refine A5 Tryz.func182 rfl rfl ?_
 refine A1 ?_;refine K4 ?_;intro b w hw;have hw:Wd Γ (HK b f::S) w:=hw
 repeat first|refine C3 ?_|refine C4 ?_;intro w hw
 refine A0 rfl (fun h=>?_) (fun h=>?_)
 ·have h:o0 f.fact=false:=by simpa using h
  have hI:GE (facts fs) f.fact=([],63):=if_neg (by rw[h];decide)
  rw[hI];refine A1 ?_;exact⟨_,rfl,Γ,_,[],B5.le.refl _,rfl,rfl,RL.nil,hw.drop⟩
 have h:o0 f.fact=true:=by simpa using h
 refine A1 ?_;refine Do 2 [[],[0],[],[1],[0],[0],[0]] [[],[0],[],[1],[0,1],[0],[0]] [[11,14,15,6],[13]] ?_
 refine m4 ?_;refine Lx (c:=0) (F:=fun _=>[]) (fun g=>[.own (g 11) 82 2 (fs.map cF)]) (fun _=>[.slice a n c]) (fun g w Y hw=>?_) ?_
 ·have hR2:O4 Γ ((HK b f::S)++Y) (.slice a n c) 2 (fs.map cF):=O4.app (O4.cons hr)
  refine(Cd hR2 (by omega) hw).mono ?_
  rintro e w ⟨v1,rfl,hw⟩
  exact⟨v1,rfl,hw⟩
 refine m4 ?_;refine Mz [cF f] ?_
 refine Np (rows2:=[cF f]) ?_ (JS [f]) (hb:=by simp;omega) (h63:=by simp;omega)
 refine Lx (c:=0) (F:=fun g=>[.own (g 14) 82 2 (fs.map cF++[cF f])]) (N7 (fun (t:Value×List B6) g=>g 15=t.1∧facts t.2=BM (facts fs++[f.fact])∧Cn t.2) fun t=>.own t.1 82 2 (t.2.map cF)::t.2.map AS) (fun g=>[g 14]) (fun g w Y hw=>?_) ?_
 ·have hw:Wd Γ ([.own (D9 [11,14,15,6] g C8 14) 82 2 ((fs++[f]).map cF)]++((HK b f::S)++Y)) w:=by rw[List.map_append];exact hw
  refine(Gu (fs++[f]) hall (by simp;omega) (O4.own (i:=0) hw rfl) hw).mono ?_
  clear hw;rintro e w ⟨v1,gs,rfl,h1,h2,hw⟩
  have h1:facts gs=BM (facts fs++[f.fact]):=by rw[h1];unfold facts;rw[List.map_append];rfl
  refine⟨v1,rfl,W6 (v1,gs) ⟨rfl,h1,h2⟩ ?_⟩
  have hw:Wd Γ ((.own v1 82 2 (gs.map cF)::gs.map AS)++(.own (D9 [11,14,15,6] g C8 14) 82 2 ((fs++[f]).map cF)::((HK b f::S)++Y))) w:=hw
  exact(hw.perm List.perm_middle).drop
 refine QM (c:=0) (T:=Value×List B6) (φ:=fun t g=>g 15=t.1∧facts t.2=BM (facts fs++[f.fact])∧Cn t.2) (fun t=>t.1) (fun t g w Y ht _=>EW ht.1) ?_ (hφ:=fun t g u h=>h)
 refine j0 fun w g hw=>?_
 have hw:Wd Γ ((HK b f::S)++(N7 (fun (t:Value×List B6) g=>(g 15=t.1∧facts t.2=BM (facts fs++[f.fact])∧Cn t.2)∧g 6=t.1) (fun t=>.own t.1 82 2 (t.2.map cF)::t.2.map AS) (D9 [11,14,15,6] g C8)++([.own (g 13) 82 2 [cF f]]++[]))) w:=hw
 obtain⟨⟨v1,gs⟩,⟨⟨-,h1,h2⟩,e6⟩,hw⟩:=R0 hw.swapApp
 have e6:g 6=v1:=e6
 have h1:facts gs=BM (facts fs++[f.fact]):=h1
 have h2:Cn gs:=h2
 obtain⟨Γ1,l1,hL,hw⟩:=Jj h2 hw
 have hw5:Wd Γ1 (HK b f::S) w:=hw.left
 have hgl:gs.length=(BM (facts fs++[f.fact])).length:=by rw[←h1];unfold facts;rw[List.length_map]
 have hL:RL Γ1 v1 gs:=hL
 obtain⟨a6,c6,rfl,k1,k2⟩:=hL.len;have hw:Wd Γ1 (HK b f::S) w:=hw5
 refine Lo (l:=[(6,.slice a6 gs.length c6)]) ⟨e6,trivial⟩ fun ρ hρ=>?_
 rw[hρ.eq];refine A1 ?_;refine A0 rfl (fun h5=>?_) (fun h5=>?_)
 ·have h5:8192<gs.length:=by have:=of_decide_eq_true h5;omega
  have hI:GE (facts fs) f.fact=([],15):=by unfold GE;rw[if_pos h,if_neg (by omega)]
  rw[hI];refine A1 ?_;exact⟨_,rfl,Γ1,_,[],l1,rfl,rfl,RL.nil,hw.drop⟩
 ·have h5:gs.length≤8192:=by have:=of_decide_eq_false h5;omega
  have hI:GE (facts fs) f.fact=(BM (facts fs++[f.fact]),0):=by unfold GE;rw[if_pos h,if_pos (by omega)]
  rw[hI];refine A1 ?_;exact⟨_,rfl,Γ1,_,gs,l1,rfl,h1,hL,hw.drop⟩
end
end Go.Proofs.YtlimglpjpcfpdaaGreatDoor
end
section
open Go Mk
namespace Go.Proofs.YtlimglpjpcfpdaaGreatDoor
set_option maxHeartbeats 16000000
attribute [local irreducible] Calls J4
section
variable {Γ:B5}
end
end Go.Proofs.YtlimglpjpcfpdaaGreatDoor
end
section
open Go Mk
namespace Go.Proofs.YtlimglpjpcfpdaaGreatDoor
set_option maxHeartbeats 16000000
attribute [local irreducible] Calls J4
theorem Kp{p:B6→Bool}{fs:List B6}{j:Nat}{x:B6}(h:fs[j]? = some x):(fs.take (j+1)).filter p=if p x=true then (fs.take j).filter p++[x] else (fs.take j).filter p:=by
 rw[List.take_add_one,h,List.filter_append];show _++[x].filter p=_
 rw[List.filter_cons];split <;> simp
section
variable {Γ:B5}{S:List B1}{w:World}{b:Nat}
end
end Go.Proofs.YtlimglpjpcfpdaaGreatDoor
end
section
open Go Mk
namespace Go.Proofs.YtlimglpjpcfpdaaGreatDoor
set_option maxHeartbeats 16000000
attribute [local irreducible] Calls J4
section
variable {Γ:B5}{S:List B1}{w:World}
end
end Go.Proofs.YtlimglpjpcfpdaaGreatDoor
end
section
open Go Mk
namespace Go.Proofs.YtlimglpjpcfpdaaGreatDoor
set_option maxHeartbeats 16000000
attribute [local irreducible] Calls J4
section
variable {Γ:B5}{S:List B1}{w:World}
end
end Go.Proofs.YtlimglpjpcfpdaaGreatDoor
end
section
open Go Mk
namespace Go.Proofs.YtlimglpjpcfpdaaGreatDoor
set_option maxHeartbeats 16000000
attribute [local irreducible] Calls J4
def LM(r:ByteArray)(m:Int)(x:H3):Bool:=decide (x.1=r)&&decide ((x.2.length:Int)=m)
def AT(r:ByteArray)(m:Int)(x:B6):Bool:=decide (x.Rel=r)&&decide ((x.N:Int)=m)
def LG(l:List H3)(r:ByteArray)(m:Int):List H3:=(BM l).filter (LM r m)
theorem Ou{Γ:B5}{r:ByteArray}{m:Int}{x:B6}(h:BD Γ x):AT r m x=LM r m x.fact:=by
 have:=h.len.1
 unfold AT LM;rw[this];rfl
theorem Fa{Γ:B5}{r:ByteArray}{m:Int}:∀ {fs:List B6},(∀x∈fs,BD Γ x)→facts (fs.filter (AT r m))=(facts fs).filter (LM r m)
 | [],_=>rfl
 | x::fs,h=>by
  have ih:=Fa (r:=r) (m:=m) (fs:=fs) fun y hy=>h y (List.mem_cons_of_mem _ hy)
  show facts ((x::fs).filter (AT r m))=(x.fact::facts fs).filter (LM r m)
  rw[List.filter_cons,List.filter_cons,Ou (h x List.mem_cons_self)];split
  ·show x.fact::facts _=_
   rw[ih]
  ·exact ih
section
variable {Γ:B5}{S:List B1}{w:World}
theorem It{v:Value}{r:ByteArray}{m:Int}(fs:List B6)(hok:EV Γ fs)(hl:fs.length≤50000)(hr:D2 Γ v 2 (fs.map cF))(hw:Wd Γ S w) :
  Calls Tryz.prog 84 #[v,.string r,.int .i64 m] w fun e w'=>∃v' gs,e=.returned v'∧facts gs=LG (facts fs) r m∧Cn gs∧Wd Γ (.own v' 82 2 (gs.map cF)::(gs.map AS++S)) w':=by
 obtain⟨a,n,c,rfl,hn,hnc,hc⟩:=hr.shape;simp only[List.length_map]at hn
 refine A5 Tryz.func84 rfl rfl ?_
 refine A1 ?_;refine C7 (fun μ ρ w=>∃(k:Nat) (g:Value),μ+k=n∧Has ρ [(1,.string r),(2,.int .i64 m),(7,g),(10,.slice a n c),(11,.int .i64 n),(12,.int .i64 k)]∧Wd Γ (.own g 82 2 (((fs.take k).filter (AT r m)).map cF)::S) w) n ⟨0,.slice none 0 0,by omega,⟨rfl,rfl,rfl,rfl,rfl,rfl,trivial⟩,Wd.addNil hw⟩ ?_
 clear hw;rintro μ ρ w ⟨k,g,hk,hρ,hw⟩
 rw[hρ.eq];refine A1 ?_;refine A0 rfl (fun h=>?_) (fun h=>?_)
 ·have hkn:k<n:=by have:=of_decide_eq_true h;omega
  obtain⟨x,hx⟩:=B8 (l:=fs) (k:=k) (by omega)
  have hxo:=(hok x (List.mem_of_getElem? hx)).1
  have hsucc:=Kp (p:=AT r m) hx
  have hfl:=List.length_filter_le (AT r m) (fs.take k)
  rw[List.length_take]at hfl;refine A1 ?_;refine B4 ?_;intro b9 w hw;refine B0 ?_;intro w hw;have hw:Wd Γ (HK b9 x::.own g 82 2 (((fs.take k).filter (AT r m)).map cF)::S) w:=hw
  refine A1 ?_;refine A0 rfl (fun h3=>?_) (fun h3=>?_)
  ·have h3:AT r m x=true:=h3
   rw[if_pos h3]at hsucc;obtain⟨ag,ng,cg,rfl,hng,hngc,hcg⟩:=hw.own_shape (i:=1) rfl
   simp only[List.length_map]at hng
   refine A1 ?_;refine F0 [cF x] ?_
   intro a29 w hw;refine Ie (i:=2) (rows2:=[cF x]) ?_ (Wd.own_rd (i:=0) hw rfl)
   intro v' w hw;refine A1 ?_;have hw:Wd Γ (.own v' 82 2 (((fs.take k).filter (AT r m)).map cF++[cF x])::S) w:=hw.ds [0,0]
   rw[show ((fs.take k).filter (AT r m)).map cF++[cF x]=((fs.take (k+1)).filter (AT r m)).map cF from by rw[hsucc];simp]at hw
   exact⟨μ-1,by omega,k+1,v',by omega,⟨rfl,rfl,rfl,rfl,rfl,rfl,trivial⟩,hw⟩
  ·have h3:AT r m x=false:=h3
   rw[if_neg (by rw[h3];decide)]at hsucc
   refine A1 ?_;exact⟨μ-1,by omega,k+1,g,by omega,⟨rfl,rfl,rfl,rfl,rfl,rfl,trivial⟩,by rw[hsucc];exact hw.drop⟩
 ·have hkn:¬k<n:=by have:=of_decide_eq_false h;omega
  rw[List.take_of_length_le (show fs.length≤k by omega)]at hw
  have hfl:=List.length_filter_le (AT r m) fs
  refine A1 ?_;refine D1 (vs:=[g]) ?_
  refine(Gu (fs.filter (AT r m)) (fun x hx=>hok x (List.mem_filter.1 hx).1) (by omega) (O4.own (i:=0) hw rfl) hw).mono ?_
  clear hw;rintro e w ⟨v1,gs,rfl,h1,h2,hw⟩
  refine⟨_,rfl,?_⟩;refine A1 ?_;refine⟨_,rfl,v1,gs,rfl,?_,h2,?_⟩
  ·rw[h1,Fa (fun x hx=>(hok x hx).1)];exact Hj AM _ _
  ·have hw:Wd Γ ((.own v1 82 2 (gs.map cF)::gs.map AS)++(.own g 82 2 ((fs.filter (AT r m)).map cF)::S)) w:=hw
   exact(hw.perm List.perm_middle).drop
end
end Go.Proofs.YtlimglpjpcfpdaaGreatDoor
end
section
open Go Mk
namespace Go.Proofs.YtlimglpjpcfpdaaGreatDoor
set_option maxHeartbeats 4000000
structure F1 where
 Var:ByteArray
 Const:Val
 deriving DecidableEq,Inhabited
instance:Gm F1 where
 enc a:=[.string a.Var,.int .i64 a.Const.Kind,.int .i64 a.Const.Num,.string a.Const.Word]
 inj a b h:=by
  obtain⟨v,k,n,x⟩:=a;obtain⟨v',k',n',x'⟩:=b;simp at h
  simp[h]
 ks:=[1,5,5,1]
 kinds a:=rfl
structure D6 where
 Kind:Int
 Rel:ByteArray
 Args:List F1
 Op:Int
 L:F1
 R:F1
 Off:Int
 Low:Int
 High:Int
structure D3 where
 Sel:List ByteArray
 Goals:List D6
structure E5 where
 g:D6
 A:Option Addr
 N:Nat
 C:Nat
def E5.hdr(x:E5):Value:=.slice x.A x.N x.C
def cG(x:E5):List Value:=
 [.int .i64 x.g.Kind,.string x.g.Rel,x.hdr,.int .i64 x.g.Op,.string x.g.L.Var,.int .i64 x.g.L.Const.Kind,.int .i64 x.g.L.Const.Num,.string x.g.L.Const.Word,
  .string x.g.R.Var,.int .i64 x.g.R.Const.Kind,.int .i64 x.g.R.Const.Num,.string x.g.R.Const.Word,.int .i64 x.g.Off,.int .i64 x.g.Low,.int .i64 x.g.High]
def GB(Γ:B5)(x:E5):Prop:=D2 Γ x.hdr 4 (x.g.Args.map enc)
theorem GB.mono{Γ Γ':B5}{x:E5}(h:GB Γ x)(hle:Γ.le Γ'):GB Γ' x:=D2.mono h hle
theorem GB.len{Γ:B5}{f:E5}(h:GB Γ f):f.N=f.g.Args.length∧f.N≤f.C∧f.C≤9223372036854775807:=by
 obtain⟨a,n,c,h1,h2,h3,h4⟩:=D2.shape h
 unfold E5.hdr at h1;cases h1
 exact⟨by simpa using h2,h3,h4⟩
abbrev A3(l:List ByteArray):List (List Value):=l.map fun s=>[.string s]
structure QR(Γ:B5)(vs vg:Value)(gs:List E5)(q:D3):Prop where
 sel:D2 Γ vs 1 (A3 q.Sel)
 goals:D2 Γ vg 15 (gs.map cG)
 eq:gs.map (·.g)=q.Goals
 ok:∀x∈gs,GB Γ x
theorem QR.mono{Γ Γ':B5}{vs vg:Value}{gs:List E5}{q:D3}(h:QR Γ vs vg gs q)(hle:Γ.le Γ'):QR Γ' vs vg gs q:=
 ⟨h.sel.mono hle,h.goals.mono hle,h.eq,fun x hx=>(h.ok x hx).mono hle⟩
def U8(v:Int):Prop:=-9223372036854775808≤v∧v≤9223372036854775807
def U5(o:F1):Prop:=o.Var.size≤9223372036854775807∧Y5 o.Const
structure S5(g:D6):Prop where
 rel:g.Rel.size≤9223372036854775807
 len:g.Args.length≤1000
 args:∀o∈g.Args,U5 o
 l:U5 g.L
 r:U5 g.R
 off:U8 g.Off
 low:U8 g.Low
 high:U8 g.High
structure J2(q:D3):Prop where
 sel:q.Sel.length≤1000
 names:∀s∈q.Sel,s.size≤9223372036854775807
 len:q.Goals.length≤1000
 goals:∀g∈q.Goals,S5 g
def H2:Val:=⟨0,0,⟨#[]⟩⟩
def j8:F1:=⟨⟨#[]⟩,H2⟩
def C9:ByteArray:=⟨#[]⟩
def I9:ByteArray:=⟨#[95]⟩
def E3(g:D6):Bool:=decide (g.Kind=1)||decide (g.Kind=2)
def F6(g:D6):List F1:=if g.Kind=1∨g.Kind=2 then g.Args else if g.Kind=3 then [g.L,g.R] else if g.Kind=4 then [g.L] else []
def l9(l:List ByteArray)(s:ByteArray):Bool:=l.any fun t=>decide (t=s)
theorem T7{l:List ByteArray}{s:ByteArray}:l9 l s=true↔s∈l:=by
 unfold l9;rw[List.any_eq_true];exact⟨fun⟨x,hx,he⟩=>by rw[←of_decide_eq_true he];exact hx,fun h=>⟨s,h,decide_eq_true rfl⟩⟩
def addN(l:List ByteArray)(s:ByteArray):List ByteArray:=if l9 l s=true then l else l++[s]
def Ow(s:ByteArray):Bool:=decide (s≠C9)&&decide (s≠I9)
def El(q:D3):List ByteArray:=q.Sel++q.Goals.flatMap fun g=>(F6 g).map (·.Var)
def v7(q:D3):List ByteArray:=((El q).filter Ow).foldl addN []
def AZ(q:D3):Bool:=decide (1≤q.Goals.length)&&decide (q.Goals.length≤16)&&decide (q.Sel.length≤8)&&(q.Goals.all fun g=>!E3 g||(decide (1≤g.Args.length)&&decide (g.Args.length≤8)))&&decide ((v7 q).length≤8)
def P9(g:D6):Bool:=
 if g.Kind=1∨g.Kind=2 then decide (g.Op=0)&&decide (g.L=j8)&&decide (g.R=j8)&&decide (g.Off=0)&&decide (g.Low=0)&&decide (g.High=0)
 else if g.Kind=3 then decide (g.Rel=C9)&&decide (g.Args.length=0)&&decide (g.Low=0)&&decide (g.High=0)
 else if g.Kind=4 then decide (g.Rel=C9)&&decide (g.Args.length=0)&&decide (g.Op=0)&&decide (g.R=j8)&&decide (g.Off=0)&&decide (g.L.Var≠C9)
 else false
def plainO(o:F1):Bool:=decide (o.Var=C9)||decide (o.Const=H2)
def o5(q:D3):Bool:=q.Goals.all fun g=>P9 g&&(F6 g).all plainO
def Hr(s:ByteArray):Int:=A6 s 0
def R6(s:ByteArray):Bool:=O7 s&&decide (65≤Hr s)&&decide (Hr s≤90)
def DJ(s:ByteArray):Bool:=decide (s=⟨#[115,101,108,101,99,116]⟩)||decide (s=⟨#[119,104,101,114,101]⟩)||decide (s=⟨#[110,111,116]⟩)||decide (s=⟨#[105,110]⟩)
def Ea(g:D6)(o:F1):Bool:=!(decide (o.Var=C9) && !I3 o.Const) && !(decide (o.Var=I9) && !E3 g) && !(decide (o.Var≠C9)&&decide (o.Var≠I9) && !R6 o.Var)
def Ad(g:D6):Bool:=!(E3 g&&(!O7 g.Rel||DJ g.Rel))&&(F6 g).all (Ea g)
def T4(q:D3):Bool:=q.Sel.all R6&&q.Goals.all Ad
def u1(g:D6):Bool:=
 if g.Kind=3 then decide (1≤g.Op)&&decide (g.Op≤6)&&decide (g.Off≠-9223372036854775808)
 else if g.Kind=4 then decide (g.Low≤g.High)&&decide (g.High-g.Low≤1000000) else true
def Ci(q:D3):Bool:=q.Goals.all u1
def JB(q:D3):List ByteArray:=q.Goals.flatMap fun g=>if g.Kind=1∨g.Kind=4 then (F6 g).map (·.Var) else []
def CO(q:D3):Bool:=(v7 q).all fun s=>l9 (JB q) s
def T8(q:D3):Int:=
 if AZ q=false then 15 else if o5 q=false then 50 else if T4 q=false then 63 else if Ci q=false then 6 else if ¬q.Sel.Nodup then 56 else if CO q=false then 62 else 0
abbrev Env:=List (ByteArray×Val)
def Kl(l r off:Int):Int:=cI l (r+off)
def Rj(op c:Int):Bool:=if op=1 then decide (c=0) else if op=2 then decide (c≠0) else if op=3 then decide (c<0) else if op=4 then decide (c≤0) else if op=5 then decide (0<c) else decide (0≤c)
def w5(g:D6)(l r:Val):Bool:=
 if g.Off=0∧g.Op=1 then decide (l=r) else if g.Off=0∧g.Op=2 then decide (l≠r)
 else if l.Kind≠1∨r.Kind≠1 then false else Rj g.Op (Kl l.Num r.Num g.Off)
def u2(e:Env)(s:ByteArray):Val:=(G4 e s).getD H2
def DD(e:Env)(o:F1):Val:=if o.Var≠C9 then u2 e o.Var else o.Const
def Gi(e:Env)(o:F1)(v:Val):Bool:=
 if o.Var=I9 then true else if o.Var=C9 then decide (o.Const=v) else match G4 e o.Var with|some u=>decide (u=v)|none=>I3 v
def L2(e:Env):List F1→List Val→Bool
 | o::os,v::vs=>Gi e o v&&L2 e os vs
 | [],_=>true
 | _::_,[]=>false
def R9(e:Env):List F1→List Val→Option Env
 | o::os,v::vs=>if o.Var=C9∨o.Var=I9 then R9 e os vs else match G4 e o.Var with
  | some u=>if u=v then R9 e os vs else none
  | none=>R9 (e++[(o.Var,v)]) os vs
 | _,_=>some e
def Y1(e:Env)(gt:D6×List H3):Bool:=
 if gt.1.Kind=3 then w5 gt.1 (DD e gt.1.L) (DD e gt.1.R) else if gt.1.Kind=2 then !(gt.2.any fun f=>L2 e gt.1.Args f.2) else true
def CW(sel:List ByteArray)(e:Env):List Val:=sel.map (u2 e)
def Br(all:List (D6×List H3))(sel:List ByteArray)(e:Env):List (List Val):=if all.all (Y1 e) then [CW sel e] else []
def I7(f:Env→List (List Val))(e:Env)(os:List F1)(vs:List Val):List (List Val):=match R9 e os vs with|some e'=>f e'|none=>[]
def Y2(low:Int)(n:Nat):Val:=⟨1,low+n,⟨#[]⟩⟩
def DC(fin:Env→List (List Val)):List (D6×List H3)→Env→List (List Val)
 | [],e=>fin e
 | (g,t)::r,e=>
  if g.Kind=1 then t.flatMap fun f=>if L2 e g.Args f.2 then I7 (DC fin r) e g.Args f.2 else []
  else if g.Kind=4 then match G4 e g.L.Var with
   | some v=>if v.Kind=1∧g.Low≤v.Num∧v.Num≤g.High then DC fin r e else []
   | none=>(List.range (g.High-g.Low+1).toNat).flatMap fun n=>I7 (DC fin r) e [g.L] [Y2 g.Low n]
  else DC fin r e
def Q5(db:List H3)(g:D6):List H3:=if g.Kind=1∨g.Kind=2 then LG db g.Rel g.Args.length else []
def I5(db:List H3)(q:D3):List (D6×List H3):=q.Goals.map fun g=>(g,Q5 db g)
def M8(db:List H3)(g:D6):Nat:=if g.Kind=1 then max (Q5 db g).length 1 else if g.Kind=4 then (g.High-g.Low+1).toNat else 1
def M2(db:List H3)(gs:List D6):Nat:=gs.foldl (fun n g=>n*M8 db g) 1
def Gn(db:List H3)(q:D3):List (List Val):=DC (Br (I5 db q) q.Sel) (I5 db q) []
def Qx(db:List H3)(q:D3):List (List Val):=BA (cL cV) (Gn db q)
def Z7(db:List H3)(q:D3):Int:=if T8 q≠0 then T8 q else if 1000000<M2 db q.Goals then 15 else 0
def u9(db:List H3)(q:D3):List (List Val):=if Z7 db q=0 then Qx db q else []
theorem w3{α β:Type}{f:α→List β}{m:Nat}:∀ {l:List α},(∀x∈l,(f x).length≤m)→(l.flatMap f).length≤l.length*m
 | [],_=>by simp
 | x::l,h=>by
  rw[List.flatMap_cons,List.length_append,List.length_cons,Nat.succ_mul];have h1:=h x (by simp)
  have h2:=w3 (f:=f) (m:=m) (l:=l) fun y hy=>h y (by simp[hy])
  omega
def PE(gt:D6×List H3):Nat:=if gt.1.Kind=1 then max gt.2.length 1 else if gt.1.Kind=4 then (gt.1.High-gt.1.Low+1).toNat else 1
def AA:List (D6×List H3)→Nat
 | []=>1
 | gt::r=>PE gt*AA r
theorem Ez{f:Env→List (List Val)}{m:Nat}(h:∀e,(f e).length≤m){e:Env}{os:List F1}{vs:List Val}:(I7 f e os vs).length≤m:=by
 unfold I7;split
 ·exact h _
 ·exact Nat.zero_le _
theorem HZ{fin:Env→List (List Val)}(h:∀e,(fin e).length≤1):∀(r:List (D6×List H3)),(∀gt∈r,gt.1.Kind=4→gt.1.Low≤gt.1.High)→∀e,(DC fin r e).length≤AA r
 | [],_,e=>h e
 | (g,t)::r,hr,e=>by
  have ih:=HZ h r fun gt hg=>hr gt (by simp[hg])
  have hp:AA ((g,t)::r)=PE (g,t)*AA r:=rfl
  rw[hp];unfold DC PE;by_cases k1:g.Kind=1
  ·rw[if_pos k1,if_pos (show (g,t).1.Kind=1 from k1)];refine Nat.le_trans (w3 (m:=AA r) fun f _=>?_) (Nat.mul_le_mul_right _ (Nat.le_max_left ..))
   split
   ·exact Ez ih
   ·exact Nat.zero_le _
  rw[if_neg k1,if_neg (show ¬(g,t).1.Kind=1 from k1)];by_cases k4:g.Kind=4
  ·rw[if_pos k4,if_pos (show (g,t).1.Kind=4 from k4)];have hlh:=hr (g,t) (by simp) k4
   split
   ·split
    ·refine Nat.le_trans (ih e) ?_
     have:1≤(g.High-g.Low+1).toNat:=by
      have:g.Low≤g.High:=hlh
      omega
     exact Nat.le_trans (by omega) (Nat.mul_le_mul_right (AA r) this)
    ·exact Nat.zero_le _
   ·have:=w3 (m:=AA r) (f:=fun n=>I7 (DC fin r) e [g.L] [Y2 g.Low n]) (l:=List.range (g.High-g.Low+1).toNat) fun n _=>Ez ih
    rw[List.length_range]at this;exact this
  rw[if_neg k4,if_neg (show ¬(g,t).1.Kind=4 from k4),Nat.one_mul];exact ih e
theorem EQ{db:List H3}:∀(gs:List D6) (n:Nat),gs.foldl (fun n g=>n*M8 db g) n=n*AA (gs.map fun g=>(g,Q5 db g))
 | [],n=>by simp[AA]
 | g::gs,n=>by
  rw[List.foldl_cons,EQ gs];show n*M8 db g*_=n*(PE (g,Q5 db g)*AA (gs.map fun g=>(g,Q5 db g)))
  rw[Nat.mul_assoc];rfl
theorem Ho{db:List H3}{q:D3}:M2 db q.Goals=AA (I5 db q):=by
 unfold M2 I5;rw[EQ,Nat.one_mul]
theorem MW{all:List (D6×List H3)}{sel:List ByteArray}(e:Env):(Br all sel e).length≤1:=by
 unfold Br;split <;> simp
end Go.Proofs.YtlimglpjpcfpdaaGreatDoor
end
section
open Go
namespace Mk
attribute [local irreducible] Calls
section
variable {α β:Type}[DecidableEq α]
end
section
variable {P:Program}{n:Nat}{ops:List Oper}{Γ:B5}{K:List B1}{wr tc stab:List (List Nat)}{Q:Fr→World→Prop}{i:Nat}{rest:List Oper}{ρ:Fr}{M:Nat→Fr→List B1}
variable {ty T:TypeId}{pos:String}{es:Array Edge}{x y:Operand}
end
def Ri(Γ:B5)(w:World):B5:=⟨hp w,Γ.os,Γ.tape,Γ.out,Γ.dr⟩
theorem QK{Γ:B5}{S:List B1}{w:World}(h:Wd Γ S w):Γ.le (Ri Γ w):=⟨h.imm,rfl,rfl,rfl,rfl⟩
theorem Qe{Γ:B5}{S:List B1}{w:World}(h:Wd Γ S w):Wd (Ri Γ w) [] w:=⟨h.os,h.tape,h.out,h.dr,fun _ _ h=>h,[],trivial,by simp,by simp⟩
theorem Holds.noimm{m m' h}:∀(R:List B1) (bss:List (List Nat)),(∀r∈R,∀bs,r.holds m bs h→r.holds m' bs h)→Holds m R bss h→Holds m' R bss h
 | [],[],_,_=>trivial
 | r::R,bs::bss,hr,hh=>⟨hr r (by simp) bs hh.1,Holds.noimm R bss (fun r h=>hr r (by simp[h])) hh.2⟩
 | [],_::_,_,hh=>hh.elim
 | _::_,[],_,hh=>hh.elim
theorem MH{Γ Γ':B5}{S R:List B1}{w w':World}(h:Wd Γ S w)(hle:(Ri Γ w).le Γ')(hR:∀r∈R,∀bs,r.holds Γ'.imm bs (hp w')→r.holds Γ.imm bs (hp w'))(h':Wd Γ' R w'):Wd Γ (R++S) w':=by
 obtain⟨cs,k6,k7,k8⟩:=h'.own;have him:=h.imm
 obtain⟨h1,h2,h3,h4,h5,dss,d6,d7,d8⟩:=h;have hat:∀b∈dss.flatten,∃o,w.heap[b]? = some o:=fun b hbm=>⟨_,Array.getElem?_eq_getElem (d8 b hbm).1⟩
 have hnew:∀b∈cs.flatten,w.heap[b]? = none:=fun b hbm=>by
  cases hq:w.heap[b]? with
  | none=>rfl
  | some o=>have:=hle.imm b o hq;rw[(k8 b hbm).2]at this;cases this
 have hold:∀b∈dss.flatten,b∉cs.flatten:=fun b hbm hbs=>by
  obtain⟨o,ho⟩:=hat b hbm
  rw[hnew b hbs]at ho;cases ho
 have hkeep:∀b∈dss.flatten,w'.heap[b]? = w.heap[b]?:=fun b hbm=>by
  obtain⟨o,ho⟩:=hat b hbm
  rw[ho];exact h'.imm b o (hle.imm b o ho)
 refine⟨h'.os.trans hle.os,h'.tape.trans hle.tape,h'.out.trans hle.out,by have:=h'.dr;rw[hle.dr]at this;exact this,fun b o hb=>h'.imm b o (hle.imm b o (him b o hb)),cs++dss,Holds.append _ _ _ _ (Holds.noimm R cs hR k6) (Holds.loc (fun b o h=>h) S dss hkeep d6),?_,?_⟩
 ·rw[List.flatten_append,List.nodup_append];exact⟨k7,d7,fun a ha b hb' e=>hold b hb' (e ▸ ha)⟩
 ·intro b hbm;rw[List.flatten_append,List.mem_append]at hbm;rcases hbm with hbm|hbm
  ·refine⟨(k8 b hbm).1,?_⟩
   cases hq:Γ.imm b with
   | none=>rfl
   | some o=>have:=him b o hq;rw[hnew b hbm]at this;cases this
  ·obtain⟨o,ho⟩:=hat b hbm
   have:=hkeep b hbm
   rw[ho]at this;exact⟨(Array.getElem?_eq_some_iff.1 this).1,(d8 b hbm).2⟩
theorem Cs{α:Type}{f:α→Value}{e sz:Nat}{g:α→List (List Value)}{S:List B1}{w:World}:∀(l:List α) {Γ:B5},Wd Γ (l.map (fun x=>B1.own (f x) e sz (g x))++S) w→∃Γ',Γ.le Γ'∧(∀x∈l,D2 Γ' (f x) sz (g x))∧Wd Γ' S w
 | [],Γ,hw=>⟨Γ,.refl _,by simp,hw⟩
 | x::l,Γ,hw=>by
  obtain⟨Γ1,h1,h2,hw⟩:=Wd.freeze (S:=l.map (fun x=>B1.own (f x) e sz (g x))++S) hw
  obtain⟨Γ2,h3,h4,hw⟩:=Cs l hw
  refine⟨Γ2,h1.trans h3,fun y hy=>?_,hw⟩
  rcases List.mem_cons.1 hy with rfl|hy
  ·exact h2.mono h3
  ·exact h4 y hy
end Mk
end
section
open Go
namespace Mk
section
variable {P:Program}{Γ:B5}{S:List B1}{w:World}{E n c g i:Nat}{α:Type}[Inhabited α]{f:α→Value}
theorem Fg(d:Array α):Go.Sort.flatK (fun x=>[f x]) 1 d=d.map f:=by
 refine Array.ext (by simp) fun i h1 h2=>?_
 have h3:i<d.size*1:=by simpa using h1
 rw[←getElem!_pos _ i h1,Go.Sort.get_flatK _ _ _ _ h3];have h4:i<d.size:=by omega
 have e1:i / 1=i:=Nat.div_one i
 have e2:i%1=0:=Nat.mod_one i
 rw[e1,e2,getElem!_pos d i h4];simp
theorem Bw(w:World)(g m:Nat)(dk:Array α)(os:Array Obj):Go.Proofs.sortWorld f w g 0 m dk os=Go.Proofs.sortWorldK (fun x=>[f x]) 1 w g 0 m dk os:=by
 unfold Go.Proofs.sortWorld Go.Proofs.sortWorldK Go.Sort.putRowK Go.Sort.putRow;congr 2
 funext cs
 refine Array.ext (by simp[Go.Sort.putCells]) fun i h1 h2=>?_
 simp only[Go.Sort.putCells,Array.getElem_mapIdx,Fg,Array.size_map,Nat.zero_le,Nat.zero_add,true_and,Nat.sub_zero,id]
 by_cases h:i<dk.size
 ·rw[if_pos h,if_pos h,getElem!_pos dk i h,getElem!_pos (dk.map f) i (by simpa using h)];simp
 ·rw[if_neg h,if_neg h]
end
attribute [local irreducible] Calls
section
variable {P:Program}{n:Nat}{ops:List Oper}{Γ:B5}{K:List B1}{wr tc stab:List (List Nat)}{Q:Fr→World→Prop}{i:Nat}{rest:List Oper}{ρ:Fr}{M:Nat→Fr→List B1}
variable {d:Option Tmp}{ty:TypeId}{pos:String}{es:Array Edge}{f:Nat}{args:List Operand}{tys:Array TypeId}{vs:List Value}{v:Value}
variable {x y:Operand}{T:TypeId}
end
theorem IU{α:Type}{l l':List α}(h:∀(_:DecidableEq α) (a:α),l.count a=l'.count a):l.Perm l':=by
 classical
 exact List.perm_iff_count.2 fun a=>h _ a
theorem K1{l l':List B1}(h:∀(_:DecidableEq B1) (a:B1),l.count a=l'.count a:=by intro _ a;simp only[Rn,LX,List.getElem?_cons_zero,List.getElem?_cons_succ,List.eraseIdx_cons_succ,List.eraseIdx_cons_zero,List.cons_append,List.nil_append,List.count_append,List.count_cons,List.count_nil,List.map_cons,List.map_nil,Nat.add_zero,Nat.zero_add];ac_rfl):l.Perm l':=IU h
end Mk
end
section
open Go
namespace Mk
theorem E4.u{want:Bool}:E4 undef want false:=by unfold E4;rfl
section
variable {P:Program}{n:Nat}{ops:List Oper}{Γ:B5}{K:List B1}{Q:Fr→World→Prop}{ρ:Fr}{rest:List Oper}{wr tc stab:List (List Nat)}{i:Nat}{M:Nat→Fr→List B1}
variable {ty:TypeId}{pos:String}{es:Array Edge}
end
section
variable {P:Program}{ρ:Fr}{w:World}{d:Option Tmp}{T U ty:TypeId}{pos:String}{es:Array Edge}{x y:Operand}{g:Option (Nat×Bool)}
end
attribute [local irreducible] Calls
section
variable {P:Program}{n:Nat}{ops:List Oper}{Γ:B5}{K:List B1}{wr tc stab:List (List Nat)}{Q:Fr→World→Prop}{i:Nat}{rest:List Oper}{ρ:Fr}{M:Nat→Fr→List B1}
variable {d:Option Tmp}{ty:TypeId}{pos:String}{es:Array Edge}{f:Nat}{args:List Operand}{tys:Array TypeId}{v:Value}
end
def Nm(E sz:Nat)(L:List (Value×List (List Value))):List B1:=L.map fun p=>B1.own p.1 E sz p.2
section
variable {Γ:B5}{S:List B1}{w:World}{E sz k:Nat}{L:List (Value×List (List Value))}{p q:Value×List (List Value)}
end
section
variable {P:Program}{n:Nat}{ops:List Oper}{Γ:B5}{K:List B1}{wr tc stab:List (List Nat)}{Q:Fr→World→Prop}{i:Nat}{rest:List Oper}{ρ:Fr}{M:Nat→Fr→List B1}{T:Type}
variable {ty:TypeId}{pos:String}{es:Array Edge}
abbrev GA:=Option Addr×Nat×Nat
def Ql(t:GA):Value:=.slice t.1 t.2.1 t.2.2
end
end Mk
end
section
open Go
namespace Mk
section
variable {P:Program}{Γ:B5}{S:List B1}{w:World}{E n c g i:Nat}{α:Type}[Inhabited α]{f:α→Value}
theorem Im{ρ:Go.Shelf.Ren}(L:Go.Proofs.SlLaysF.n6 P ρ)(hf1:∀x,(f x).oneCell'=true)(cf:α→α→Int)(fn:Nat)(cap:List Value)[B9 P fn](xs:List α)(v:Value)(hw:Wd Γ S w)(hi:S[i]? = some (.own v E 1 (xs.map fun x=>[f x])))
  (hO:Go.Sort.SWO (Go.Proofs.ltOf cf)) (hlen:xs.length<4611686018427387904)
  (hcmp:∀(dk:List α) w',Wd Γ (S.set i (.own v E 1 (dk.map fun x=>[f x]))) w'→∀x y,Calls P fn (#[f x,f y]++cap.toArray) w' fun e w''=>e=.returned (.int .i64 (cf x y))∧∃S'',Wd (Fu w') S'' w'') :
  Calls P (ρ.f 6) #[v,.func (.func fn) #[] cap.toArray] w fun e w'=>e=.returned (.tuple #[])∧∃ys:List α,ys.Perm xs∧(ys.Pairwise fun a b=>Go.Proofs.ltOf cf b a=false)∧Wd Γ (S.set i (.own v E 1 (ys.map fun x=>[f x]))) w':=by
 obtain⟨a,n,c,rfl,e2,e3,e4,e5⟩:=CM hw hi
 have hn:n=xs.length:=by simpa using e2
 by_cases h0:n=0
 ·have hx:xs=[]:=List.eq_nil_of_length_eq_zero (by omega)
  subst h0;refine(Go.Proofs.AnyF.slices_SortFunc_none (P:=P) (ρ:=ρ) { L with } a c _ w).mono ?_
  rintro e w' ⟨he,rfl⟩
  refine⟨he,[],by rw[hx],List.Pairwise.nil,?_⟩
  rw[hx]at hi;have hset:S.set i (.own (.slice a 0 c) E 1 (([]:List α).map fun x=>[f x]))=S:=by
   obtain⟨hil,hie⟩:=List.getElem?_eq_some_iff.1 hi
   rw[←hie];exact List.set_getElem_self hil
  rw[hset];exact hw
 ·have hc:0<c:=by omega
  rcases e5 with e5|⟨g,cur,rfl,hg,hcur,hcs,htk⟩
  ·omega
  obtain⟨hH,hgl⟩:=EF (enc:=fun x:α=>[f x]) (k:=1) (fun _=>rfl) hw hi hc
  have hH1:Go.Sort.Holds f w g 0 xs.toArray:=fun j hj=>by
   have:=hH j (by simpa using hj)
   rw[Fg]at this;have hj:j<xs.length:=by simpa using hj
   simpa[hj] using this
  have:=Go.Proofs.Any.slices_SortFunc L f hf1 cf hO fn cap.toArray g 0 c xs.toArray w (fun args w=>M0 args) (fun m os dk hdk x y=>?_) hH1 hgl (by simpa using hlen)
  ·simp only[List.size_toArray]at this
   rw[←hn]at this;refine this.mono ?_
   rintro e w' ⟨he,d',n',os,hp,hs,rfl⟩
   have hd:d'.size=xs.length:=by have:=hp.1;simpa using this
   refine⟨he,d'.toList,by simpa using Cg (d:=xs.toArray) (by simpa[←hn] using hp),AX (m:=n) (by omega) hs,?_⟩
   rw[Bw];exact S9 (enc:=fun x:α=>[f x]) (k:=1) (fun _=>rfl) hw hi hc d' hd n' os
  ·have hw1:=S9 (enc:=fun x:α=>[f x]) (k:=1) (fun _=>rfl) hw hi hc dk (by simpa using hdk) m os
   rw[←Bw]at hw1;refine(hcmp dk.toList _ hw1 x y).mono ?_
   rintro e w'' ⟨he,S'',hw2⟩
   exact⟨he,FI hw2⟩
end
def QD(id:Nat)(Q:List Deferred→Exit→Fr→World→Prop):List Deferred→Exit→Fr→World→Prop:=fun D=>IQ id (Q D)
section
variable {P:Program}{n:Nat}{Q:List Deferred→Exit→Fr→World→Prop}{D:List Deferred}{ρ:Fr}{w:World}
theorem Oe(h:Q D .normal ρ w):WX P n .skip Q D ρ w:=fun a hd hs hf=>wp_skip ⟨hs,by rw[hd,hf];exact h⟩
theorem OT{id:Nat}(h:Q D (.exit id) ρ w):WX P n (.exit id) Q D ρ w:=fun a hd hs hf=>wp_exit ⟨hs,by rw[hd,hf];exact h⟩
theorem MX{id:Nat}{c:Code}(h:WX P n c (QD id Q) D ρ w):WX P n (.block id c) Q D ρ w:=fun a hd hs hf=>
 wp_block (Code.wp_mono (fun e a w ⟨q,r⟩=>by
  cases e <;> first|exact⟨q,r⟩|(simp only[QD,IQ]at r;simp only[Exit.inBlock];split <;> rename_i h <;> simp only[h,if_true,if_false]at r <;> exact⟨q,r⟩)) (h a hd hs hf))
theorem Oq{c:Code}(I:Nat→Fr→World→Prop)(m₀:Nat)(h0:I m₀ ρ w)
  (round:∀m ρ w,I m ρ w→WX P n c (Pq (fun D' ρ' w'=>D'=D∧∃m'<m,I m' ρ' w') Q) D ρ w):WX P n (.loop c) Q D ρ w:=fun a hd hs hf=>
 wp_loop_ghost (fun m a w=>a.defers=D∧a.tmps.size=n∧I m (C0 a) w) m₀ ⟨hd,hs,hf ▸ h0⟩ fun m a w ⟨p,q,r⟩=>
  Code.wp_mono (fun e a w ⟨q,r⟩=>by
   cases e <;> first|exact⟨q,r⟩|(obtain⟨hD,m',h1,h2⟩:=r;exact⟨m',h1,hD,q,h2⟩)) (round m _ w r a p q rfl)
theorem f7{p G:Prop}(h:G)(e:G→p:=by intro h;first|exact N3 h|exact MX h|exact S6 h|exact Oe h|exact JD h|exact OT h):p:=e h
end
section
variable {P:Program}
attribute [local semireducible] W
theorem HN{f:FuncId}{fn:Func}{c:Code}{args:Array Value}{u:FrameMode}{w:World}{R:Ending→World→Prop}(hf:P.funcs[f]? = some fn)(hb:fn.body=some c)
  (hn:Nat.ble args.size fn.ntmps=true) (h:W P fn.ntmps c (Qg fn.results R) (P4 args) w):CallsD P f args u w fun e u' w'=>u'=u∧R e w':=by
 have hle:args.size≤fn.ntmps:=Nat.le_of_ble_eq_true hn
 refine callsD_of_wp hf hb (Code.wp_mono ?_ (h _ rfl (by simp;omega) (IS hn)))
 rintro e a w ⟨hd,hs,hq⟩
 cases e with
 | normal=>obtain⟨v,hv,hR⟩:=hq;exact⟨hd,v,J9 hv,hR⟩
 | ret=>obtain⟨v,hv,hR⟩:=hq;exact⟨hd,v,J9 hv,hR⟩
 | panic ch=>exact⟨hd,hq⟩
 | outgrown=>exact hq
 | exit id=>exact hq.elim
 | goto l=>exact hq.elim
theorem Ij{fn:Func}{tmps:Array Value}{R:Ending→World→Prop}{f:Nat}{fst cap:Array Value}{w:World}[B9 P f](h:CallsD P f (fst++cap) .returning w fun e u' w'=>u'=.returning∧(∃v,e=.returned v)∧∃v,(results fn tmps).run P w'=.ok v w'∧R (.returned v) w') :
  Leaves P fn tmps R [⟨.fn (.func f) cap,fst⟩] .returning w:=
 leaves_cons (by intro h;cases h) (M0 _) (h.mono fun e u' w' ⟨h1,⟨v,h2⟩,h3⟩=>by subst h1;subst h2;exact h3)
end
end Mk
end
section
open Go Mk
namespace Go.Proofs.YtlimglpjpcfpdaaGreatDoor
set_option maxHeartbeats 16000000
attribute [local irreducible] Calls cI cB
theorem Me{s:ByteArray}(h:s.size≤9223372036854775807):SB s:=⟨by omega⟩
instance Pz(s:ByteArray):PC Tryz.prog 122 [.string s] (.bool (DJ s)):=⟨fun w=>by
 refine A5 Tryz.func122 rfl rfl ?_
 refine A1 ?_;exact⟨_,rfl,rfl,rfl⟩⟩
theorem f0{s:ByteArray}(h:s.size≤9223372036854775807):PC Tryz.prog 120 [.string s] (.bool (R6 s)):=⟨fun w=>by
 haveI:=Me h
 have hs0:O7 s=true→0<s.size:=fun hn=>by
  unfold O7 Ai at hn;simp only[Bool.and_eq_true,decide_eq_true_eq]at hn
  exact hn.1.1.1
 refine A5 Tryz.func120 rfl rfl ?_
 refine A1 ?_;refine lG ?_ (hv:=fun hc=>by exact Db A8 A8 (by omega) (by have:=hs0 hc;omega))
 refine A1 ?_;refine lG ?_ (hv:=fun hc=>by exact Db A8 A8 (by omega) (by have:=hs0 (G7 hc);omega))
 refine A1 ?_;exact⟨_,rfl,rfl,rfl⟩⟩
instance Qk(Γ:B5)(x:E5):PG Tryz.prog Γ 83 [.agg (cG x).toArray] (.bool (E3 x.g)):=⟨fun S w hw=>by
 refine A5 Tryz.func83 rfl rfl ?_
 refine A1 ?_;refine K4 ?_;intro b1 w hw;have hw:Wd Γ (.blk b1 (.cells (cG x).toArray 79)::S) w:=hw
 refine A1 ?_;exact⟨_,rfl,rfl,hw.drop⟩⟩
instance Li(Γ:B5)(a b:Val):PG Tryz.prog Γ 158 [.agg (enc a).toArray,.agg (enc b).toArray] (.int .i64 (cV a b)):=⟨fun S w hw=>by
 refine A5 Tryz.func158 rfl rfl ?_
 refine A1 ?_;refine K4 ?_;intro b1 w hw;refine K4 ?_;intro b2 w hw;have hw:Wd Γ (.blk b2 (.cells (enc b).toArray 67)::.blk b1 (.cells (enc a).toArray 67)::S) w:=hw
 refine A1 ?_;refine v8 [.blk b2 _,.blk b1 _] S [20] [[],[],[],[],[],[],[],[],[],[],[],[],[],[],[],[0],[0],[]] hw ?_
 refine m4 ?_;refine Y0 (v:=undef) (T':=Value) (fun t g=>g 20=t) (fun t=>.own t 3 1 ([cI a.Kind b.Kind,cI a.Num b.Num,cB a.Word b.Word].map fun x=>[.int .i64 x])::S) (fun t g w Y _ hw=>O5 (rws:=[cI a.Kind b.Kind,cI a.Num b.Num,cB a.Word b.Word].map fun x=>[.int .i64 x]) hw rfl rfl rfl (by simp) (by decide) fun q w' hw'=>⟨_,rfl,(fun h=>by cases h),hw'⟩) ?_
 refine Fw (φ:=fun (t:Value) g=>g 20=t) (v:=.int .i64 (cV a b)) (T':=Value) (fun _ _=>True) (fun t=>.own t 3 1 ([cI a.Kind b.Kind,cI a.Num b.Num,cB a.Word b.Word].map fun x=>[.int .i64 x])::S) (fun t _=>[t]) (fun t g w Y ht hw=>?_) ?_ (ha:=fun t g ht=>EvL.cons ht EvL.nil)
 ·refine(Iq _ hw (O4.own (i:=0) hw rfl)).mono ?_
  rintro e w ⟨rfl,hw⟩
  refine⟨_,rfl,t,trivial,fun _=>?_,hw⟩
  unfold cV Hm Hm Hm Hm;rw[Lk]
 refine m4 ?_;refine BG fun t w g _ hw=>?_
 refine A1 ?_;exact⟨_,rfl,rfl,hw.drop.left⟩⟩
theorem Em{Γ:B5}{q:Nat}[B9 Tryz.prog q](hq:∀a b:Val,PG Tryz.prog Γ q [.agg (enc a).toArray,.agg (enc b).toArray] (.int .i64 (cV a b))){va vb:Value}{xs ys:List Val}(ha:D2 Γ va 3 (xs.map enc))(hb:D2 Γ vb 3 (ys.map enc)) :
  PG Tryz.prog Γ 148 [va,vb,.func (.func q) #[] #[]] (.int .i64 (cL cV xs ys)):=⟨fun S w hw=>by
 obtain⟨a,n,c,rfl,hn,hnc,hc⟩:=ha.shape;obtain⟨a2,n2,c2,rfl,hn2,hnc2,hc2⟩:=hb.shape;simp only[List.length_map]at hn hn2
 refine A5 Tryz.func148 rfl rfl ?_
 refine A1 ?_;refine C7 (fun μ ρ w=>∃(k:Nat),μ+k=n∧Has ρ [(0,.slice a n c),(1,.slice a2 n2 c2),(2,.func (.func q) #[] #[]),(11,.slice a n c),(12,.int .i64 n),(13,.int .i64 k)]∧cL cV xs ys=cL cV (xs.drop k) (ys.drop k)∧Wd Γ S w) n ⟨0,by omega,⟨rfl,rfl,rfl,rfl,rfl,rfl,trivial⟩,rfl,hw⟩ ?_
 clear hw;rintro μ ρ w ⟨k,hk,hρ,ho,hw⟩
 rw[hρ.eq];refine A1 ?_;refine A0 rfl (fun h=>?_) (fun h=>?_)
 ·have hkn:k<n:=by simpa using h
  obtain⟨x,hx⟩:=B8 (l:=xs) (k:=k) (by omega)
  have hd:xs.drop k=x::xs.drop (k+1):=K6 hx
  rw[hd]at ho;refine A1 ?_;refine B4 ?_;intro b8 w hw;refine A1 ?_;refine B0 ?_;intro w hw;have hw:Wd Γ (.blk b8 (.cells (enc x).toArray 67)::S) w:=hw
  refine A1 ?_;refine A0 rfl (fun h2=>?_) (fun h2=>?_)
  ·refine A1 ?_;have h2:n2≤k:=by simpa using h2
   refine⟨_,rfl,E9 rfl ?_,hw.drop⟩
   rw[ho,D7 ys (by omega)];rfl
  ·have h2:k<n2:=by simpa using h2
   obtain⟨y,hy⟩:=B8 (l:=ys) (k:=k) (by omega)
   rw[K6 hy]at ho;have ho:cL cV xs ys=Ac (cV x y) (cL cV (xs.drop (k+1)) (ys.drop (k+1))):=ho
   refine A1 ?_;refine B4 ?_;intro b9 w hw;refine B0 ?_;intro w hw;have hw:Wd Γ (.blk b9 (.cells (enc y).toArray 67)::.blk b8 (.cells (enc x).toArray 67)::S) w:=hw
   refine A1 ?_;refine Cc (fst:=[]) (cap:=[]) ?_
   refine((hq x y).h _ _ hw).mono ?_
   rintro e w ⟨rfl,hw⟩
   refine⟨_,rfl,?_⟩;refine A1 ?_;refine A0 rfl (fun h3=>?_) (fun h3=>?_)
   ·refine A1 ?_;have h3:¬cV x y=0:=by simpa using h3
    refine⟨_,rfl,E9 rfl ?_,hw.drop.drop⟩
    rw[ho,Fz h3]
   ·refine A1 ?_;have h3:cV x y=0:=by simpa using h3
    refine⟨μ-1,by omega,k+1,by omega,⟨rfl,rfl,rfl,rfl,rfl,rfl,trivial⟩,?_,hw.drop.drop⟩
    rw[ho,EB h3]
 ·have hkn:¬k<n:=by simpa using h
  rw[D7 xs (by omega)]at ho
  refine A1 ?_;refine A0 rfl (fun h2=>?_) (fun h2=>?_)
  ·refine A1 ?_;have h2:n<n2:=by simpa using h2
   obtain⟨y,hy⟩:=B8 (l:=ys) (k:=k) (by omega)
   rw[K6 hy]at ho;exact⟨_,rfl,E9 rfl (by rw[ho];rfl),hw⟩
  ·refine A1 ?_;have h2:¬n<n2:=by simpa using h2
   rw[D7 ys (by omega)]at ho
   exact⟨_,rfl,E9 rfl (by rw[ho];rfl),hw⟩⟩
theorem Jw{Γ:B5}{va vb:Value}{xs ys:List Val}(ha:D2 Γ va 3 (xs.map enc))(hb:D2 Γ vb 3 (ys.map enc)):PG Tryz.prog Γ 87 [va,vb] (.int .i64 (cL cV xs ys)):=⟨fun S w hw=>by
 have hC:=Em (q:=158) (fun a b=>Li Γ a b) ha hb
 obtain⟨a,n,c,rfl,hn,hnc,hc⟩:=ha.shape;obtain⟨a2,n2,c2,rfl,hn2,hnc2,hc2⟩:=hb.shape;refine A5 Tryz.func87 rfl rfl ?_
 repeat first|refine C3 ?_|refine C4 ?_;intro w hw
 exact⟨_,rfl,rfl,hw⟩⟩
theorem EG{Γ:B5}{va vb:Value}{xs ys:List Val}(ha:D2 Γ va 3 (xs.map enc))(hb:D2 Γ vb 3 (ys.map enc)):PG Tryz.prog Γ 88 [va,vb] (.bool (decide (cL cV xs ys=0))):=⟨fun S w hw=>by
 have hC:=Jw ha hb
 obtain⟨a,n,c,rfl,hn,hnc,hc⟩:=ha.shape;obtain⟨a2,n2,c2,rfl,hn2,hnc2,hc2⟩:=hb.shape;refine A5 Tryz.func88 rfl rfl ?_
 repeat first|refine C3 ?_|refine C4 ?_;intro w hw
 exact⟨_,rfl,rfl,hw⟩⟩
theorem Ep(l r off:Int)(hl:U8 l)(hr:U8 r)(ho:U8 off):PC Tryz.prog 283 [.int .i64 l,.int .i64 r,.int .i64 off] (.int .i64 (Kl l r off)):=⟨fun w=>by
 have hwr:=y9 (r+off)
 have hmod:IntKind.i64.wrap (r+off)=r+off∨(9223372036854775807<r+off∧IntKind.i64.wrap (r+off)=r+off-18446744073709551616)∨(r+off < -9223372036854775808∧IntKind.i64.wrap (r+off)=r+off+18446744073709551616):=by
  unfold U8 at *
  simp only[IntKind.wrap,IntKind.bits,IntKind.signed]
  simp
  split <;> omega
 obtain⟨s,hs⟩:∃s,s=IntKind.i64.wrap (r+off):=⟨_,rfl⟩
 refine A5 Tryz.func283 rfl rfl ?_
 first|refine C3 ?_|(refine C4 ?_;intro w hw)
 first|refine C3 ?_|(refine C4 ?_;intro w hw)
 first|refine C3 ?_|(refine C4 ?_;intro w hw)
 first|refine C3 ?_|(refine C4 ?_;intro w hw)
 first|refine C3 ?_|(refine C4 ?_;intro w hw)
 first|refine C3 ?_|(refine C4 ?_;intro w hw)
 first|refine C3 ?_|(refine C4 ?_;intro w hw)
 first|refine C3 ?_|(refine C4 ?_;intro w hw)
 refine lY (v:=.int .i64 s) ?_ (hy:=by rw[hs];exact JZ rfl rfl)
 rw[←hs]at hmod hwr
 clear hs;unfold U8 at hl hr ho;refine A1 ?_;refine A0 rfl (fun h=>?_) (fun h=>?_)
 ·refine A1 ?_;simp only[Bool.and_eq_true,decide_eq_true_eq]at h
  refine⟨_,rfl,E9 rfl ?_,rfl⟩
  unfold Kl cI;rw[if_pos (by omega)]
 refine A1 ?_;refine A0 rfl (fun h2=>?_) (fun h2=>?_)
 ·refine A1 ?_;simp only[Bool.and_eq_true,decide_eq_true_eq]at h2
  refine⟨_,rfl,E9 rfl ?_,rfl⟩
  unfold Kl cI;rw[if_neg (by omega),if_pos (by omega)]
 have hsum:s=r+off:=by
  simp only[Bool.and_eq_false_iff,decide_eq_false_iff_not]at h h2
  omega
 refine A1 ?_;exact⟨_,rfl,E9 rfl (by rw[hsum];rfl),rfl⟩⟩
end Go.Proofs.YtlimglpjpcfpdaaGreatDoor
end
section
open Go Mk
namespace Go.Proofs.YtlimglpjpcfpdaaGreatDoor
set_option maxHeartbeats 16000000
attribute [local irreducible] Calls cI cB
theorem R3{Γ:B5}{f:Nat}{args:List Value}{v:Value}(h:∀(Γ1:B5) (w:World),Γ.le Γ1→Wd Γ1 [] w→Calls Tryz.prog f args.toArray w fun e w'=>∃Γ2,Γ1.le Γ2∧e=.returned v∧Wd Γ2 [] w'):PG Tryz.prog Γ f args v:=
 ⟨fun S w hw=>(h (Ri Γ w) w (QK hw) (Qe hw)).mono fun e w' ⟨Γ2,hle,he,hw'⟩=>⟨he,MH (R:=[]) hw hle (by simp) hw'⟩⟩
theorem w6{g:D6}(h:S5 g):(F6 g).length≤1000:=by
 unfold F6;have:=h.len
 split
 ·exact this
 split
 ·simp
 split <;> simp
theorem Oz{g:D6}(h:S5 g):∀o∈F6 g,U5 o:=by
 unfold F6;intro o ho;split at ho
 ·exact h.args o ho
 split at ho
 ·simp only[List.mem_cons,List.not_mem_nil,or_false]at ho
  rcases ho with rfl|rfl
  ·exact h.l
  ·exact h.r
 split at ho
 ·simp only[List.mem_cons,List.not_mem_nil,or_false]at ho
  rw[ho];exact h.l
 ·cases ho
section
variable {Γ:B5}{S:List B1}{w:World}
theorem Q9{x:E5}(hx:GB Γ x)(hw:Wd Γ S w) :
  Calls Tryz.prog 119 #[.agg (cG x).toArray] w fun e w'=>∃Γ' v,Γ.le Γ'∧e=.returned v∧D2 Γ' v 4 ((F6 x.g).map enc)∧Wd Γ' S w':=by
 obtain⟨l1,l2,l3⟩:=hx.len;obtain⟨g,A,N,C⟩:=x;simp only at l1 l2 l3
 refine A5 Tryz.func119 rfl rfl ?_
 refine A1 ?_;refine K4 ?_;intro b1 w hw;have hw:Wd Γ (.blk b1 (.cells (cG ⟨g,A,N,C⟩).toArray 79)::S) w:=hw
 refine A1 ?_;refine A0 rfl (fun h=>?_) (fun h=>?_)
 ·have hk:g.Kind=1:=of_decide_eq_true h
  refine A1 ?_;refine I2 (congrArg Value.bool h) ?_
  refine A1 ?_;refine⟨_,rfl,Γ,_,B5.le.refl _,rfl,?_,hw.drop⟩
  unfold F6;rw[if_pos (Or.inl hk)];exact hx
 have hk1:¬g.Kind=1:=of_decide_eq_false h
 refine A1 ?_;refine A0 rfl (fun h=>?_) (fun h=>?_)
 ·have hk:g.Kind=2:=of_decide_eq_true h
  refine A1 ?_;refine⟨_,rfl,Γ,_,B5.le.refl _,rfl,?_,hw.drop⟩
  unfold F6;rw[if_pos (Or.inr hk)];exact hx
 have hk2:¬g.Kind=2:=of_decide_eq_false h
 refine A1 ?_;refine A0 rfl (fun h=>?_) (fun h=>?_)
 ·have hk:g.Kind=3:=of_decide_eq_true h
  refine A1 ?_;refine F0 [enc g.L,enc g.R] ?_
  intro q w hw;obtain⟨Γ',hle,hr,hw⟩:=hw.freeze;refine A1 ?_;refine⟨_,rfl,Γ',_,hle,rfl,?_,hw.drop⟩
  unfold F6;rw[if_neg (fun e=>e.elim hk1 hk2),if_pos hk];exact hr
 have hk3:¬g.Kind=3:=of_decide_eq_false h
 refine A1 ?_;refine A0 rfl (fun h=>?_) (fun h=>?_)
 ·have hk:g.Kind=4:=of_decide_eq_true h
  refine A1 ?_;refine F0 [enc g.L] ?_
  intro q w hw;obtain⟨Γ',hle,hr,hw⟩:=hw.freeze;refine A1 ?_;refine⟨_,rfl,Γ',_,hle,rfl,?_,hw.drop⟩
  unfold F6;rw[if_neg (fun e=>e.elim hk1 hk2),if_neg hk3,if_pos hk];exact hr
 have hk4:¬g.Kind=4:=of_decide_eq_false h
 refine A1 ?_;refine⟨_,rfl,Γ,_,B5.le.refl _,rfl,?_,hw.drop⟩
 unfold F6;rw[if_neg (fun e=>e.elim hk1 hk2),if_neg hk3,if_neg hk4];exact D2.nil
end
theorem IOo{v:Val}:decide ((GE [] (⟨#[118]⟩,[v])).2=0)=I3 v:=by
 have hn:O7 ⟨#[118]⟩=true:=by decide +kernel
 have hr:o0 (⟨#[118]⟩,[v])=I3 v:=by
  unfold o0;simp only[hn,List.length_singleton,List.all_cons,List.all_nil,Bool.and_true]
  simp
 unfold GE;rw[hr];cases h:I3 v with
 | true=>
  rw[if_pos rfl,if_pos]
  ·rfl
  ·have:(BM ([]++[((⟨#[118]⟩:ByteArray),[v])])).length≤([]++[((⟨#[118]⟩:ByteArray),[v])]).length:=ES
   exact Nat.le_trans this (by simp)
 | false=>
  rw[if_neg (by simp)];rfl
theorem AY{Γ:B5}{v:Val}(hv:Y5 v):PG Tryz.prog Γ 123 [.agg (enc v).toArray] (.bool (I3 v)):=R3 fun Γ w _ hw=>by
 refine A5 Tryz.func123 rfl rfl ?_
 refine A1 ?_;refine K4 ?_;intro b1 w hw;have hw:Wd Γ [.blk b1 (.cells (enc v).toArray 67)] w:=hw
 refine A1 ?_;refine F0 [enc v] ?_
 intro q w hw;obtain⟨Γ1,hle1,hr,hw⟩:=hw.freeze;refine A1 ?_;refine D1 (vs:=[.slice none 0 0,.agg (cF ⟨⟨#[118]⟩,some q,1,1,[v]⟩).toArray]) ((Iv (Γ:=Γ1) (f:=⟨⟨#[118]⟩,some q,1,1,[v]⟩) [] (fun f hf=>by cases hf) (by simp) hr ⟨by simp[B6.fact],by show 1≤100000;omega,fun u hu=>by
  have:u=v:=by simpa[B6.fact] using hu
  rw[this];exact hv⟩ D2.nil.rdS hw).mono fun e w hq=>?_)
 obtain⟨Γ2,v',gs,hle2,rfl,-,hRL,hw⟩:=hq;refine⟨_,rfl,?_⟩;refine A1 ?_;exact⟨_,rfl,Γ2,hle1.trans hle2,J5 rfl (IOo (v:=v)),hw.drop⟩
end Go.Proofs.YtlimglpjpcfpdaaGreatDoor
end
section
open Go Mk
namespace Go.Proofs.YtlimglpjpcfpdaaGreatDoor
set_option maxHeartbeats 16000000
attribute [local irreducible] Calls cI cB
def RQ(v:Val):Value:=.agg (enc v).toArray
abbrev C5(bm:Nat)(e:Env):B1:=B1.ms RQ bm e
def D8(vs vg vt vr:Value)(bm:Nat):Obj:=.cells #[vs,vg,vt,.map (some bm),vr] 162
section
variable {Γ:B5}{S:List B1}{w:World}{b bm:Nat}{vs vg vt vr:Value}{e:Env}
theorem Kd{o:F1}(hw:Wd Γ (.blk b (D8 vs vg vt vr bm)::C5 bm e::S) w):Calls Tryz.prog 228 #[.pointer (some ⟨b,0,none⟩),.agg (enc o).toArray] w fun r w'=>r=.returned (.agg (enc (DD e o)).toArray)∧Wd Γ (.blk b (D8 vs vg vt vr bm)::C5 bm e::S) w':=by
 refine H1 Tryz.func228 rfl rfl ?_
 refine A1 ?_;refine K4 ?_;intro b3 w hw;refine B4 ?_;intro b4 w hw;have hw:Wd Γ (.blk b4 (.cells #[.int .i64 0,.int .i64 0,.string ⟨#[]⟩] 67)::.blk b3 (.cells (enc o).toArray 77)::.blk b (D8 vs vg vt vr bm)::C5 bm e::S) w:=hw
 refine A1 ?_;refine A0 rfl (fun h=>?_) (fun h=>?_)
 ·have hv:o.Var≠C9:=of_decide_eq_true h
  refine A1 ?_;refine v8 [.blk b3 (.cells (enc o).toArray 77),.blk b (D8 vs vg vt vr bm),C5 bm e] (.blk b4 (.cells #[.int .i64 0,.int .i64 0,.string ⟨#[]⟩] 67)::S) [] [[],[],[],[],[],[],[],[0]] (hw.perm K1) ?_
  refine m4 ?_;refine Y0 (v:=undef) (T':=Unit) (fun _ _=>True) (fun _=>.blk b4 (.cells (enc (u2 e o.Var)).toArray 67)::S) (fun t g w Y _ hw=>?_) ?_
  ·exact V6 (i:=0) (vs:=enc (u2 e o.Var)) (n:=3) (by kernel_rfl) hw rfl rfl rfl rfl (fun u hu=>(List.all_eq_true.1 (Bd (u2 e o.Var))) u hu) rfl (by decide) fun w' hw'=>⟨(),trivial,(fun _=>rfl),hw'⟩
  refine BG fun t w g _ hw=>?_
  have hw:Wd Γ ((.blk b4 (.cells (enc (u2 e o.Var)).toArray 67)::S)++[.blk b3 (.cells (enc o).toArray 77),.blk b (D8 vs vg vt vr bm),C5 bm e]) w:=hw
  have hw:Wd Γ (.blk b4 (.cells (enc (u2 e o.Var)).toArray 67)::.blk b3 (.cells (enc o).toArray 77)::.blk b (D8 vs vg vt vr bm)::C5 bm e::S) w:=hw.perm K1
  refine A1 ?_;refine⟨[.agg (enc (u2 e o.Var)).toArray],⟨M3 (i:=0) hw rfl rfl rfl,trivial⟩,?_,hw.drop.drop⟩
  unfold DD;rw[if_pos hv];rfl
 ·have hv:¬o.Var≠C9:=of_decide_eq_false h
  refine A1 ?_;refine B0 ?_;intro w hw;have hw:Wd Γ (.blk b4 (.cells (enc o.Const).toArray 67)::.blk b3 (.cells (enc o).toArray 77)::.blk b (D8 vs vg vt vr bm)::C5 bm e::S) w:=hw
  refine A1 ?_;refine⟨[.agg (enc o.Const).toArray],⟨M3 (i:=0) hw rfl rfl rfl,trivial⟩,?_,hw.drop.drop⟩
  unfold DD;rw[if_neg hv];rfl
theorem IW{os:List F1}{xs:List Val}{k:Nat}{o:F1}{x:Val}(ho:os[k]? = some o)(hx:xs[k]? = some x):L2 e (os.drop k) (xs.drop k)=(Gi e o x&&L2 e (os.drop (k+1)) (xs.drop (k+1))):=by
 rw[K6 ho,K6 hx];rfl
theorem Jl{o:F1}{x:Val}(ha:o.Var≠I9)(hn:G4 e C9=none):(!Gi e o x)=(if o.Var=C9 then decide (o.Const≠x) else ((G4 e o.Var).isSome&&decide ((G4 e o.Var).getD default≠x))||(!(G4 e o.Var).isSome && !I3 x)):=by
 unfold Gi;rw[if_neg ha];by_cases h0:o.Var=C9
 ·rw[if_pos h0,if_pos h0];simp
 rw[if_neg h0,if_neg h0];cases G4 e o.Var with
 | none=>simp
 | some u=>simp
theorem HB{va:Value}{os:List F1}{f:B6}(hargs:D2 Γ va 4 (os.map enc))(hos:∀o∈os,U5 o)(hf:BD Γ f)(hfo:Z8 f.fact)(hlen:os.length=f.Args.length)(hn:G4 e C9=none)(hN:os.length≤1000)(hw:Wd Γ (.blk b (D8 vs vg vt vr bm)::C5 bm e::S) w) :
  Calls Tryz.prog 153 #[.pointer (some ⟨b,0,none⟩),va,.agg (cF f).toArray] w fun r w'=>r=.returned (.bool (L2 e os f.Args))∧Wd Γ (.blk b (D8 vs vg vt vr bm)::C5 bm e::S) w':=by
 obtain⟨a,n,c,rfl,hln,hnc,hc⟩:=hargs.shape;simp only[List.length_map]at hln
 obtain⟨l1,l2,l3⟩:=hf.len;have hfR:=hf
 unfold BD B6.hdr at hfR;obtain⟨-,-,hvo⟩:=hfo;obtain⟨fr,fa,fn,fc,xs⟩:=f;simp only[B6.fact]at l1 l2 l3 hfR hlen hvo ⊢
 refine A5 Tryz.func153 rfl rfl ?_
 refine A1 ?_;refine K4 ?_;intro b5 w hw;have hw:Wd Γ (.blk b5 (.cells #[.string fr,.slice fa fn fc] 82)::.blk b (D8 vs vg vt vr bm)::C5 bm e::S) w:=hw
 refine A1 ?_;refine C7 (fun μ ρ w=>∃(k:Nat),μ+k=n∧Has ρ [(0,.pointer (some ⟨b,0,none⟩)),(5,.pointer (some ⟨b5,0,none⟩)),(11,.slice a n c),(12,.int .i64 n),(13,.int .i64 k)]∧L2 e os xs=L2 e (os.drop k) (xs.drop k)∧Wd Γ (.blk b5 (.cells #[.string fr,.slice fa fn fc] 82)::.blk b (D8 vs vg vt vr bm)::C5 bm e::S) w) n ⟨0,by omega,⟨rfl,rfl,rfl,rfl,rfl,trivial⟩,rfl,hw⟩ ?_
 clear hw;rintro μ ρ w ⟨k,hk,hρ,hfit,hw⟩
 rw[hρ.eq];clear hρ;refine A1 ?_;refine A0 rfl (fun h=>?_) (fun h=>?_)
 ·have hkn:k<n:=by have:=of_decide_eq_true h;omega
  clear h;obtain⟨o,ho⟩:=B8 (l:=os) (k:=k) (by omega)
  obtain⟨x,hx⟩:=B8 (l:=xs) (k:=k) (by omega)
  have hxo:=hvo x (List.mem_of_getElem? hx)
  have hpw:=AY (Γ:=Γ) hxo
  rw[IW ho hx]at hfit;refine A1 ?_;refine B4 ?_;intro b8 w hw;refine A1 ?_;refine B0 ?_;intro w hw;have hw:Wd Γ (.blk b8 (.cells (enc o).toArray 77)::.blk b5 (.cells #[.string fr,.slice fa fn fc] 82)::.blk b (D8 vs vg vt vr bm)::C5 bm e::S) w:=hw
  refine A1 ?_;refine A0 rfl (fun h=>?_) (fun h=>?_)
  ·have ha:o.Var=I9:=of_decide_eq_true h
   refine A1 ?_;refine⟨μ-1,by omega,k+1,by omega,⟨rfl,rfl,rfl,rfl,rfl,trivial⟩,?_,hw.drop⟩
   rw[hfit];unfold Gi;rw[if_pos ha,Bool.true_and]
  have ha:o.Var≠I9:=of_decide_eq_false h
  clear h;refine A1 ?_;refine Do 1 [[],[],[],[],[],[],[],[],[],[],[0],[0],[]] [[],[],[],[],[],[],[],[],[],[],[0],[0],[]] [[9]] ?_ (hw:=hw)
  refine m4 ?_;refine m4 ?_;refine CH ?_
  refine j4 ?_
  refine m4 ?_;refine M9 ?_
  clear hw;intro b9 w hw;have hw:Wd Γ (.blk b9 (.cells (enc ((G4 e o.Var).getD default)).toArray 67)::.blk b8 (.cells (enc o).toArray 77)::.blk b5 (.cells #[.string fr,.slice fa fn fc] 82)::.blk b (D8 vs vg vt vr bm)::C5 bm e::S) w:=hw
  refine A1 ?_;refine CQ (fun ρ w=>∃(u:Val) (t:Bool),Has ρ [(0,.pointer (some ⟨b,0,none⟩)),(5,.pointer (some ⟨b5,0,none⟩)),(7,.int .i64 k),(9,.pointer (some ⟨b9,0,none⟩)),(10,.bool t),(11,.slice a n c),(12,.int .i64 n),(13,.int .i64 k)]∧(!Gi e o x)=((t&&decide (u≠x))||(!t && !I3 x))∧Wd Γ (.blk b9 (.cells (enc u).toArray 67)::.blk b8 (.cells (enc o).toArray 77)::.blk b5 (.cells #[.string fr,.slice fa fn fc] 82)::.blk b (D8 vs vg vt vr bm)::C5 bm e::S) w) ?_ ?_
  ·refine A0 rfl (fun h=>?_) (fun h=>?_)
   ·have h0:o.Var=C9:=of_decide_eq_true h
    refine A1 ?_;refine B0 ?_;intro w hw;have hw:Wd Γ (.blk b9 (.cells (enc o.Const).toArray 67)::.blk b8 (.cells (enc o).toArray 77)::.blk b5 (.cells #[.string fr,.slice fa fn fc] 82)::.blk b (D8 vs vg vt vr bm)::C5 bm e::S) w:=hw
    refine A1 ?_;refine⟨o.Const,true,⟨rfl,rfl,rfl,rfl,rfl,rfl,rfl,rfl,trivial⟩,?_,hw⟩
    rw[Jl ha hn,if_pos h0];simp
   ·have h0:¬o.Var=C9:=of_decide_eq_false h
    refine A1 ?_;refine⟨(G4 e o.Var).getD default,(G4 e o.Var).isSome,⟨rfl,rfl,rfl,rfl,rfl,rfl,rfl,rfl,trivial⟩,?_,hw⟩
    rw[Jl ha hn,if_neg h0]
  clear hw;rintro ρ w ⟨u,t,hρ,hfu,hw⟩
  rw[hρ.eq];clear hρ;refine A1 ?_;refine K5 (by kernel_rfl) (by kernel_rfl) hw ?_
  refine Ef ?_;refine qG ?_ (hy:=by intro hc w hw;exact An (a:=u) (b:=x) A8 A8 rfl)
  refine Ef ?_;clear hw;intro w hw;refine A0 rfl (fun h=>?_) (fun h=>?_)
  ·have hff:Gi e o x=false:=by
    have:=hfu.trans h
    simpa using this
   refine A1 ?_;refine⟨_,rfl,J5 rfl ?_,hw.drop.drop.drop⟩
   rw[hfit,hff,Bool.false_and]
  ·have hff:Gi e o x=true:=by
    have:=hfu.trans h
    simpa using this
   rw[hff,Bool.true_and]at hfit;refine A1 ?_;exact⟨μ-1,by omega,k+1,by omega,⟨rfl,rfl,rfl,rfl,rfl,trivial⟩,hfit,hw.drop.drop⟩
 have hkn:k=n:=by have:=of_decide_eq_false h;omega
 refine A1 ?_;refine⟨_,rfl,J5 rfl ?_,hw.drop⟩
 rw[hfit,D7 os (by omega)];rfl
end
end Go.Proofs.YtlimglpjpcfpdaaGreatDoor
end
section
open Go
namespace Mk
theorem Gl{P:Program}{ops:Array Oper}{D:List Deferred}{Q Q':Exit→Act→World→Prop}{K K':Act→World→Prop}(hQ:∀e a w,Q e a w→Q' e { a with defers:=a.defers++D } w)(hK:∀a w,K a w→K' { a with defers:=a.defers++D } w){i:Nat}{a:Act}{w:World}
  (h:wpOp P ops Q i K a w):wpOp P ops Q' i K' { a with defers:=a.defers++D } w:=by
 have hL:LetsOut Q→LetsOut Q':=fun⟨a,w,h⟩=>⟨_,_,hQ _ _ _ h⟩
 have nx:∀d v w,K (a.put d v) w→K' (({ a with defers:=a.defers++D }:Act).put d v) w:=fun d v w h=>by
  have:=hK _ _ h
  rw[put_defers];rw[G5]at this;exact this
 have he:({ a with defers:=a.defers++D }:Act).eval=a.eval:=rfl
 unfold wpOp at *
 split
 ·rename_i ho
  rw[ho]at h;exact hK _ _ h
 ·rename_i o ho
  rw[ho]at h;simp only at h ⊢
  show if Region.wanted o (yielded ops a.tmps) then _ else _
  by_cases hw:Region.wanted o (yielded ops a.tmps)
  ·rw[if_pos hw]at h ⊢
   rcases h with h|⟨h1,h2⟩
   ·refine .inl ?_
    unfold Oper.wp at h ⊢
    rw[he];generalize (execOp a.eval o).run P w=r at *
    cases r with
    | ok x w'=>
     cases x with
     | value v=>exact nx _ _ _ h
     | skip=>exact nx _ _ _ h
     | defer d=>
      have:=hK _ _ h
      rw[G5]at this;simp only[Oper.upon]
      rw[put_defers]at this ⊢
      exact this
     | enter f args=>
      refine Calls.mono h fun e w'' h=>?_
      cases e with
      | returned v=>exact nx _ _ _ h
      | panicked ch=>exact hQ _ _ _ h
      | outgrown=>exact hL h
     | row row args=>exact Rows.mono h fun v w'' h=>nx _ _ _ h
     | _=>exact h.elim
    | halt x w'=>
     cases x with
     | panic v=>exact hQ _ _ _ h
     | _=>exact h.elim
   ·exact .inr ⟨h1,hL h2⟩
  ·rw[if_neg hw]at h ⊢
   exact nx _ _ _ h
theorem BZ{P:Program}{ops:Array Oper}{D:List Deferred}{Q Q':Exit→Act→World→Prop}{md:Region.Mode}(hQ:∀e a w,Q e a w→Q' e { a with defers:=a.defers++D } w):∀(fuel:Nat) (listed:Array Bool) (a:Act) (w:World),wpAny P md ops Q fuel listed a w→wpAny P md ops Q' fuel listed { a with defers:=a.defers++D } w
 | 0,listed,a,w,h=>⟨h.1,hQ _ _ _ h.2⟩
 | fuel+1,listed,a,w,h=>⟨fun h0=>hQ _ _ _ (h.1 h0),fun i hi=>Gl hQ (fun a w h=>BZ hQ fuel _ a w h) (h.2 i hi)⟩
section
variable {P:Program}{n:Nat}{Q:List Deferred→Exit→Fr→World→Prop}{D:List Deferred}{ρ:Fr}{w:World}
theorem NN{id:Nat}{l:List Oper}(hm:P.follows .mixedOrders=true)(h:∀a:Act,a.defers=[]→a.tmps.size=n→C0 a=ρ→wpAny P .any l.toArray (lift n (Q D)) l.toArray.size (Array.replicate l.toArray.size false) a { w with drawn:=w.drawn+1 }) :
  WX P n (.region id l.toArray true) Q D ρ w:=fun a hd hs hf=>wp_region_any hm (by
 have:=BZ (P:=P) (ops:=l.toArray) (D:=D) (md:=.any) (Q:=lift n (Q D)) (Q':=fun e a w=>a.tmps.size=n∧Q a.defers e (C0 a) w) (fun e a w ⟨x,y,z⟩=>⟨y,by
  show Q (a.defers++D) e (C0 a) w
  rw[x];exact z⟩) l.toArray.size (Array.replicate l.toArray.size false) { a with defers:=[] } { w with drawn:=w.drawn+1 } (h { a with defers:=[] } rfl hs hf)
 have e:({ ({ a with defers:=[] }:Act) with defers:=([]:List Deferred)++D }:Act)=a:=by subst hd;rfl
 exact e ▸ this)
variable {Γ:B5}{K S:List B1}
section
attribute [local semireducible] Qw
theorem ND{id:Nat}{l:List Oper}(hm:P.follows .mixedOrders=true)(hk:DO n l=true)(hw:Wd Γ S w)(h:Qw P n l Γ S (fun ρ w=>Q D .normal ρ w) l ρ) :
  WX P n (.region id l.toArray true) Q D ρ w:=NN hm fun a hda hs hf=>by
 simp only[DO,Bool.and_eq_true]at hk
 obtain⟨cs,hc⟩:=(h 0).chain
 have inv:Inv ⟨P,n,l,Γ,S,[],[],true⟩ ⟨ρ,[],[],[]⟩ cs (Array.replicate l.toArray.size false) a { w with drawn:=w.drawn+1 } [] (fun _=>undef) Γ:=by
  refine⟨hda,hs,by simp,by simp,by simp,fun i hi=>?_,fun _ _ _ h=>by simp at h,Env.rl.refl _ _,by simp,fun t _=>by rw[hf],by simp,0,Nat.zero_le _,by simp,?_⟩
  ·have:i<l.length:=hi
   simp[this]
  ·have:CB l cs ⟨ρ,[],[],[]⟩ 0=⟨ρ,[],[],[]⟩:=by cases l <;> cases cs <;> rfl
   simp only[this]
   simpa using hw.drawn
 exact Inv.any hc rfl rfl hk.1 hk.2 _ _ a _ [] _ Γ inv (by simp)
end
theorem HT{id:Nat}{l:List Oper}(K:List B1)(M:List (Fr→List B1))(wr tc stab:List (List Nat))(hw:Wd Γ (K++(List.range stab.length).flatMap fun x=>(ML M) x (D9 (stab.getD x []) ρ C8)) w)
  (h:MSw (mV P n l Γ K wr tc stab) (fun ρ w=>Q D .normal ρ w) 0 l ⟨ρ,ML M⟩) (hm:P.follows .mixedOrders=true:=by kernel_rfl) (hk:M1 n l wr tc stab=true:=by kernel_rfl):WX P n (.region id l.toArray true) Q D ρ w:=NN hm fun a hda hs hf=>by
 obtain⟨cs,hc⟩:=h.chain;have inv:MInv ⟨P,n,l,Γ,K,wr,tc,stab,true⟩ ⟨ρ,ML M⟩ cs (Array.replicate l.toArray.size false) a { w with drawn:=w.drawn+1 } [] Γ:=by
  refine⟨hda,hs,by simp,by simp,by simp,fun i hi=>?_,fun _ _ _ h=>by simp at h,O8.rl_refl _,fun t _ _=>by rw[hf],by simp,fun _=>0,fun x=>⟨Nat.zero_le _,by simp⟩,?_⟩
  ·have:i<l.length:=hi
   simp[this]
  ·simp only[l5,hf]
   exact hw.drawn
 exact MInv.any hc hk _ _ a _ [] Γ inv (by simp)
theorem OO{id:Nat}{l:List Oper}(k:Nat)(wr tc stab:List (List Nat))(h:MSw (mV P n l Γ K wr tc stab) (fun ρ w=>Q D .normal ρ w) 0 l ⟨ρ,ML (List.replicate k fun _=>[])⟩)
  (hw:Wd Γ K w:=by exact hw) (hm:P.follows .mixedOrders=true:=by kernel_rfl) (hk:M1 n l wr tc stab=true:=by kernel_rfl):WX P n (.region id l.toArray true) Q D ρ w:=
 HT K _ wr tc stab (by
  have:((List.range stab.length).flatMap fun x=>ML (List.replicate k fun _=>[]) x (D9 (stab.getD x []) ρ C8))=[]:=by
   rw[List.flatMap_eq_nil_iff];intro x _;unfold ML;by_cases hx:x<k
   ·simp[List.getD_eq_getElem?_getD,List.getElem?_replicate,hx]
   ·simp[List.getD_eq_getElem?_getD,List.getElem?_replicate,hx]
  rw[this,List.append_nil];exact hw) h hm hk
theorem Oj{id:Nat}{l:List Oper}(K X:List B1)(N:List Nat)(wr:List (List Nat))(hw:Wd Γ (K++X) w)
  (h:MSw (mV P n l Γ K wr wr [N]) (fun ρ w=>Q D .normal ρ w) 0 l ⟨ρ,ML [N7 (T:=Unit) (fun _ _=>True) (fun _=>X)]⟩)
  (hm:P.follows .mixedOrders=true:=by kernel_rfl) (hk:M1 n l wr wr [N]=true:=by kernel_rfl):WX P n (.region id l.toArray true) Q D ρ w:=
 HT K [N7 (T:=Unit) (fun _ _=>True) (fun _=>X)] wr wr [N] (by
  have h1:Wd Γ (X++K) w:=hw.perm List.perm_append_comm
  have h2:=Wd.closeEx (α:={t:Unit // True}) (X:=fun _=>X) ⟨(),trivial⟩ h1
  exact(h2.perm (List.perm_append_singleton _ K).symm:_)) h hm hk
end
end Mk
namespace Mk
section
variable {P:Program}{ρ:Fr}{w:World}{K:Value→World→Prop}{d:Option Tmp}{T ty:TypeId}{pos:String}{es:Array Edge}{g:Option (Nat×Bool)}{x y z:Operand}
attribute [local semireducible] Step
theorem Ge(h:Step P ⟨d,.mapUpdate T x y z,ty,pos,es,g⟩ ρ w K):Step P ⟨d,.insert T x y z,ty,pos,es,g⟩ ρ w K:=h
end
end Mk
end
section
open Go Mk
namespace Go.Proofs.YtlimglpjpcfpdaaGreatDoor
set_option maxHeartbeats 16000000
attribute [local irreducible] Calls cI cB
theorem NV{Γ:B5}{x:E5}{l r:Val}(hg:U8 x.g.Off)(hl:Y5 l)(hr:Y5 r):PG Tryz.prog Γ 227 [.agg (cG x).toArray,.agg (enc l).toArray,.agg (enc r).toArray] (.bool (w5 x.g l r)):=⟨fun S w hw=>by
 haveI:=Ep l.Num r.Num x.g.Off hl.1 hr.1 hg
 refine A5 Tryz.func227 rfl rfl ?_
 refine A1 ?_;refine K4 ?_;intro b3 w hw;refine K4 ?_;intro b4 w hw;refine K4 ?_;intro b5 w hw;have hw:Wd Γ (.blk b5 (.cells (enc r).toArray 67)::.blk b4 (.cells (enc l).toArray 67)::.blk b3 (.cells (cG x).toArray 79)::S) w:=hw
 refine A1 ?_;refine A0 rfl (fun h=>?_) (fun h=>?_)
 ·have h':x.g.Off=0∧x.g.Op=1:=by simpa using h
  refine A1 ?_;refine⟨_,rfl,J5 rfl ?_,hw.drop.drop.drop⟩
  unfold w5;rw[if_pos h']
 have h1:¬(x.g.Off=0∧x.g.Op=1):=by simpa using h
 clear h;refine A1 ?_;refine A0 rfl (fun h=>?_) (fun h=>?_)
 ·have h':x.g.Off=0∧x.g.Op=2:=by simpa using h
  refine A1 ?_;refine⟨_,rfl,J5 rfl ?_,hw.drop.drop.drop⟩
  unfold w5;rw[if_neg h1,if_pos h']
 have h2:¬(x.g.Off=0∧x.g.Op=2):=by simpa using h
 clear h;refine A1 ?_;refine A0 rfl (fun h=>?_) (fun h=>?_)
 ·have h':l.Kind≠1∨r.Kind≠1:=by simpa using h
  refine A1 ?_;refine⟨_,rfl,J5 rfl ?_,hw.drop.drop.drop⟩
  unfold w5;rw[if_neg h1,if_neg h2,if_pos h']
 have h3:¬(l.Kind≠1∨r.Kind≠1):=by simpa using h
 clear h;have hf:w5 x.g l r=Rj x.g.Op (Kl l.Num r.Num x.g.Off):=by
  unfold w5;rw[if_neg h1,if_neg h2,if_neg h3]
 obtain⟨c,hc⟩:∃c,c=Kl l.Num r.Num x.g.Off:=⟨_,rfl⟩
 rw[hf];rw[←hc]at this ⊢
 clear hf hc h1 h2 h3;refine A1 ?_;unfold Rj;refine A0 rfl (fun h=>?_) (fun h=>?_)
 ·have h:=of_decide_eq_true h
  refine A1 ?_;exact⟨_,rfl,J5 rfl (by rw[if_pos h]),hw.drop.drop.drop⟩
 have h1:=of_decide_eq_false h
 clear h;rw[if_neg h1];refine A1 ?_;refine A0 rfl (fun h=>?_) (fun h=>?_)
 ·have h:=of_decide_eq_true h
  refine A1 ?_;exact⟨_,rfl,J5 rfl (by rw[if_pos h]),hw.drop.drop.drop⟩
 have h1:=of_decide_eq_false h
 clear h;rw[if_neg h1];refine A1 ?_;refine A0 rfl (fun h=>?_) (fun h=>?_)
 ·have h:=of_decide_eq_true h
  refine A1 ?_;exact⟨_,rfl,J5 rfl (by rw[if_pos h]),hw.drop.drop.drop⟩
 have h1:=of_decide_eq_false h
 clear h;rw[if_neg h1];refine A1 ?_;refine A0 rfl (fun h=>?_) (fun h=>?_)
 ·have h:=of_decide_eq_true h
  refine A1 ?_;exact⟨_,rfl,J5 rfl (by rw[if_pos h]),hw.drop.drop.drop⟩
 have h1:=of_decide_eq_false h
 clear h;rw[if_neg h1];refine A1 ?_;refine A0 rfl (fun h=>?_) (fun h=>?_)
 ·have h:=of_decide_eq_true h
  refine A1 ?_;exact⟨_,rfl,J5 rfl (by rw[if_pos h]),hw.drop.drop.drop⟩
 have h1:=of_decide_eq_false h
 clear h;rw[if_neg h1];refine A1 ?_;exact⟨_,rfl,rfl,hw.drop.drop.drop⟩⟩
theorem ED{e:Env}{s:ByteArray}(h:s∉e.map (·.1)):DF e s=none:=by
 unfold DF;rw[List.findIdx?_eq_none_iff];intro p hp;simp only[decide_eq_false_iff_not]
 intro he;exact h (by rw[←he];exact List.mem_map_of_mem (f:=(·.1)) hp)
theorem Of{e r:Env}{s:ByteArray}{v:Val}(h:s∉e.map (·.1)):DF (e++(s,v)::r) s=some e.length:=by
 have:=ED h
 unfold DF at *
 rw[List.findIdx?_append,this];simp[List.findIdx?_cons]
theorem Mq{e r:Env}{s:ByteArray}{v:Val}(h:s∉e.map (·.1)):AU (e++(s,v)::r) s=e++r:=by
 unfold AU;rw[Of h];simp only
 rw[List.eraseIdx_append_of_length_le (Nat.le_refl _),Nat.sub_self];rfl
theorem MN{e:Env}{s:ByteArray}{v:Val}(h:s∉e.map (·.1)):Er e s v=e++[(s,v)]:=by
 unfold Er;rw[ED h]
theorem JE{e:Env}{s:ByteArray}(h:s∉e.map (·.1)):G4 e s=none:=by
 unfold G4;rw[ED h];rfl
theorem Km{e:Env}{s:ByteArray}{v:Val}(h:G4 e s=some v):(s,v)∈e:=by
 unfold G4 at h;cases hq:DF e s with
 | none=>rw[hq]at h;cases h
 | some i=>
  rw[hq]at h;simp only[Option.bind_some]at h
  obtain⟨u,hu⟩:=Bl hq
  rw[hu]at h;simp only[Option.map_some,Option.some.injEq]at h
  rw[←h];exact List.mem_of_getElem? hu
theorem HV{e:Env}{s:ByteArray}(h:G4 e s=none):s∉e.map (·.1):=fun hm=>by
 obtain⟨p,hp,he⟩:=List.mem_map.1 hm
 unfold G4 at h;cases hq:DF e s with
 | none=>
  unfold DF at hq;rw[List.findIdx?_eq_none_iff]at hq;have:=hq p hp
  simp[he]at this
 | some i=>
  obtain⟨u,hu⟩:=Bl hq
  rw[hq]at h;simp[hu]at h
theorem RJ{e:Env}:∀ {ps:Env},(∀p∈ps,p.1∉e.map (·.1))→(ps.map (·.1)).foldl AU (e++ps)=e
 | [],_=>by simp
 | (s,v)::ps,h=>by
  rw[List.map_cons,List.foldl_cons,Mq (h (s,v) (by simp))]
  exact RJ fun p hp=>h p (by simp[hp])
theorem OB{Γ:B5}{S:List B1}{w:World}{b b8 b4 bm:Nat}{vs vg vt vr fv:Value}{e:Env}{ns:List ByteArray}(hw:Wd Γ (.blk b8 (.cells #[fv] 22)::.own fv 9 1 (A3 ns)::.blk b4 (.cells #[.pointer (some ⟨b,0,none⟩)] 158)::.blk b (D8 vs vg vt vr bm)::C5 bm e::S) w) :
  CallsD Tryz.prog 231 #[.pointer (some ⟨b8,0,none⟩),.pointer (some ⟨b4,0,none⟩)] .returning w fun r u' w'=>u'=.returning∧(∃v,r=.returned v)∧Wd Γ (.blk b8 (.cells #[fv] 22)::.own fv 9 1 (A3 ns)::.blk b4 (.cells #[.pointer (some ⟨b,0,none⟩)] 158)::.blk b (D8 vs vg vt vr bm)::C5 bm (ns.foldl AU e)::S) w':=by
 obtain⟨fa,fn,fc,rfl,hfn,hfc,hfb⟩:=hw.own_shape (i:=1) rfl
 simp only[List.length_map]at hfn
 refine(HN (R:=fun r w'=>(∃v,r=.returned v)∧Wd Γ (.blk b8 (.cells #[.slice fa fn fc] 22)::.own (.slice fa fn fc) 9 1 (A3 ns)::.blk b4 (.cells #[.pointer (some ⟨b,0,none⟩)] 158)::.blk b (D8 vs vg vt vr bm)::C5 bm (ns.foldl AU e)::S) w') Tryz.func231 rfl rfl ?_).mono fun r u w h=>h
 refine A1 ?_;refine C7 (fun μ ρ w=>∃(k:Nat),μ+k=fn∧Has ρ [(1,.pointer (some ⟨b4,0,none⟩)),(4,.slice fa fn fc),(5,.int .i64 fn),(6,.int .i64 k)]∧Wd Γ (.blk b8 (.cells #[.slice fa fn fc] 22)::.own (.slice fa fn fc) 9 1 (A3 ns)::.blk b4 (.cells #[.pointer (some ⟨b,0,none⟩)] 158)::.blk b (D8 vs vg vt vr bm)::C5 bm ((ns.take k).foldl AU e)::S) w) fn ⟨0,by omega,⟨rfl,rfl,rfl,rfl,trivial⟩,hw⟩ ?_
 clear hw;rintro μ ρ w ⟨k,hk,hρ,hw⟩
 rw[hρ.eq];clear hρ;refine A1 ?_;refine A0 rfl (fun h=>?_) (fun h=>?_)
 ·have hkn:k<fn:=by have:=of_decide_eq_true h;omega
  clear h;obtain⟨s,hs⟩:=B8 (l:=ns) (k:=k) (by omega)
  refine A1 ?_;refine H7 rfl rfl (IE (i:=4) (l:=(ns.take k).foldl AU e) hw rfl rfl rfl fun w hw=>?_)
  have hw:Wd Γ (.blk b8 (.cells #[.slice fa fn fc] 22)::.own (.slice fa fn fc) 9 1 (A3 ns)::.blk b4 (.cells #[.pointer (some ⟨b,0,none⟩)] 158)::.blk b (D8 vs vg vt vr bm)::C5 bm ((ns.take (k+1)).foldl AU e)::S) w:=by
   rw[List.take_add_one,hs,List.foldl_append];exact hw
  refine A1 ?_;exact⟨μ-1,by omega,k+1,by omega,⟨rfl,rfl,rfl,rfl,trivial⟩,hw⟩
 have hkn:fn≤k:=by have:=of_decide_eq_false h;omega
 rw[List.take_of_length_le (by omega)]at hw
 refine A1 ?_;exact⟨_,rfl,⟨_,rfl⟩,hw⟩
end Go.Proofs.YtlimglpjpcfpdaaGreatDoor
end
section
open Go Mk
namespace Go.Proofs.YtlimglpjpcfpdaaGreatDoor
set_option maxHeartbeats 16000000
attribute [local irreducible] Calls cI cB
def E8(vr:Value)(L:List (Value×List (List Value))):List B1:=.own vr 72 1 (L.map fun x=>[x.1])::Nm 67 3 L
def SV(b bm:Nat)(vs vg vt:Value)(rs:List (List Val)):B1:=B1.ex (α:={p:Value×List (Value×List (List Value)) // p.2.map (·.2)=rs.map fun r=>r.map enc}) fun p=>.blk b (D8 vs vg vt p.1.1 bm)::E8 p.1.1 p.1.2
section
variable {Γ:B5}{S:List B1}{w:World}{b bm:Nat}{vs vg vt:Value}{rs:List (List Val)}
theorem m8(hw:Wd Γ (SV b bm vs vg vt rs::S) w):∃vr L,L.map (·.2)=(rs.map fun r=>r.map enc)∧Wd Γ (.blk b (D8 vs vg vt vr bm)::(E8 vr L++S)) w:=by
 obtain⟨⟨⟨vr,L⟩,h⟩,hw⟩:=Wd.openEx hw
 exact⟨vr,L,h,hw⟩
theorem P1{vr:Value}{L:List (Value×List (List Value))}(h:L.map (·.2)=rs.map fun r=>r.map enc)(hw:Wd Γ (.blk b (D8 vs vg vt vr bm)::(E8 vr L++S)) w):Wd Γ (SV b bm vs vg vt rs::S) w:=
 Wd.closeEx (α:={p:Value×List (Value×List (List Value)) // p.2.map (·.2)=rs.map fun r=>r.map enc}) (X:=fun p=>.blk b (D8 vs vg vt p.1.1 bm)::E8 p.1.1 p.1.2) ⟨(vr,L),h⟩ hw
end
structure T6(e:Env):Prop where
 key:∀p∈e,p.1≠C9
 val:∀p∈e,Y5 p.2
theorem T6.nil:T6 []:=⟨fun p h=>(by cases h),fun p h=>(by cases h)⟩
theorem T6.snoc{e:Env}{s:ByteArray}{v:Val}(h:T6 e)(hs:s≠C9)(hv:Y5 v):T6 (e++[(s,v)]):=
 ⟨fun p hp=>by
  rcases List.mem_append.1 hp with h1|h1
  ·exact h.key p h1
  ·rw[List.mem_singleton.1 h1];exact hs,fun p hp=>by
  rcases List.mem_append.1 hp with h1|h1
  ·exact h.val p h1
  ·rw[List.mem_singleton.1 h1];exact hv⟩
theorem T6.noKey{e:Env}(h:T6 e):G4 e C9=none:=JE fun hm=>by
 obtain⟨p,hp,he⟩:=List.mem_map.1 hm
 exact h.key p hp he
theorem JN:Y5 H2:=⟨by decide,by decide⟩
theorem T6.get{e:Env}(h:T6 e)(s:ByteArray):Y5 (u2 e s):=by
 unfold u2;cases hq:G4 e s with
 | none=>exact JN
 | some v=>exact h.val _ (Km hq)
section
variable {e:Env}{o:F1}{os:List F1}{x:Val}{xs:List Val}
theorem IA(h:o.Var=C9∨o.Var=I9):R9 e (o::os) (x::xs)=R9 e os xs:=by
 rw[R9,if_pos h]
theorem Ms(h0:¬(o.Var=C9∨o.Var=I9))(h:((G4 e o.Var).isSome&&decide ((G4 e o.Var).getD default≠x))=true):R9 e (o::os) (x::xs)=none:=by
 rw[R9,if_neg h0];cases hq:G4 e o.Var with
 | none=>rw[hq]at h;simp at h
 | some u=>
  rw[hq]at h;have:u≠x:=by simpa using h
  simp[this]
theorem JL(h0:¬(o.Var=C9∨o.Var=I9))(h:((G4 e o.Var).isSome&&decide ((G4 e o.Var).getD default≠x))=false)(h2:(G4 e o.Var).isSome=true):R9 e (o::os) (x::xs)=R9 e os xs:=by
 rw[R9,if_neg h0];cases hq:G4 e o.Var with
 | none=>rw[hq]at h2;simp at h2
 | some u=>
  rw[hq]at h;have:u=x:=by simpa using h
  simp[this]
theorem KV(h0:¬(o.Var=C9∨o.Var=I9))(h2:(G4 e o.Var).isSome=false):R9 e (o::os) (x::xs)=R9 (e++[(o.Var,x)]) os xs:=by
 rw[R9,if_neg h0];cases hq:G4 e o.Var with
 | none=>rfl
 | some u=>rw[hq]at h2;simp at h2
end
theorem Wd.tl5{Γ:B5}{w:World}{r1 r2 r3 r4 r5:B1}{X S:List B1}(h:Wd Γ (r1::r2::r3::r4::r5::(X++S)) w):Wd Γ S w:=Wd.right (S':=[r1,r2,r3,r4,r5]++X) (by simpa using h)
theorem Wd.tl6{Γ:B5}{w:World}{r1 r2 r3 r4 r5 r6:B1}{X S:List B1}(h:Wd Γ (r1::r2::r3::r4::r5::r6::(X++S)) w):Wd Γ S w:=Wd.right (S':=[r1,r2,r3,r4,r5,r6]++X) (by simpa using h)
theorem Wd.tl7{Γ:B5}{w:World}{r1 r2 r3 r4 r5 r6 r7:B1}{X S:List B1}(h:Wd Γ (r1::r2::r3::r4::r5::r6::r7::(X++S)) w):Wd Γ S w:=Wd.right (S':=[r1,r2,r3,r4,r5,r6,r7]++X) (by simpa using h)
theorem HW{Γ:B5}{S CAP:List B1}{w:World}{b bm:Nat}{vs vg vt:Value}{rs:List (List Val)}{e:Env}{q:Nat}[B9 Tryz.prog q]{cap:List Value}(φ:Env→List (List Val))
  (hq:∀(e':Env) (rs':List (List Val)) (S':List B1) (w:World),T6 e'→rs'.length+(φ e').length≤1000000→Wd Γ (SV b bm vs vg vt rs'::C5 bm e'::(CAP++S')) w→Calls Tryz.prog q cap.toArray w fun r w'=>r=.returned (.tuple #[])∧Wd Γ (SV b bm vs vg vt (rs'++φ e')::C5 bm e'::(CAP++S')) w')
  {va vv:Value} {os:List F1} {xs:List Val} (hA:O4 Γ (CAP++S) va 4 (os.map enc)) (hV:O4 Γ (CAP++S) vv 3 (xs.map enc)) (hlen:os.length=xs.length) (hN:os.length≤1000) (hx:∀v∈xs,Y5 v) (he:T6 e) (hrs:rs.length+(I7 φ e os xs).length≤1000000)
  (hw:Wd Γ (SV b bm vs vg vt rs::C5 bm e::(CAP++S)) w) :
  Calls Tryz.prog 154 #[.pointer (some ⟨b,0,none⟩),va,vv,.func (.func q) #[] cap.toArray] w fun r w'=>r=.returned (.tuple #[])∧Wd Γ (SV b bm vs vg vt (rs++I7 φ e os xs)::C5 bm e::(CAP++S)) w':=by
 obtain⟨a,n,c,rfl,hln,hnc,hc⟩:=hA.shape;obtain⟨a2,n2,c2,rfl,hln2,hnc2,hc2⟩:=hV.shape;simp only[List.length_map]at hln hln2
 refine x6 Tryz.func154 rfl rfl ?_
 repeat(first|refine f7 ?_|refine C3 ?_|(refine C4 ?_;intro w hw))
 refine K4 ?_;intro b4 w hw;repeat(first|refine f7 ?_|refine C3 ?_|(refine C4 ?_;intro w hw))
 refine B4 ?_;intro b8 w hw;refine C3 ?_
 refine f7 ?_
 refine As ?_
 refine Ft (Yields.step (Z5 (f1:=[]) (c1:=[.pointer (some ⟨b8,0,none⟩),.pointer (some ⟨b4,0,none⟩)]) EvL.nil (EvL.cons rfl (EvL.cons rfl EvL.nil))) ?_)
 refine Cb ?_
 refine If ?_
 have fin:∀(ps:Env) (fv vr:Value) (L:List (Value×List (List Value))) (rs':List (List Val)) (w:World) (a:Act),(∀p∈ps,p.1∉e.map (·.1))→L.map (·.2)=(rs'.map fun r=>r.map enc)→rs'=rs++I7 φ e os xs→Wd Γ (.blk b8 (.cells #[fv] 22)::C5 bm (e++ps)::.blk b4 (.cells #[.pointer (some ⟨b,0,none⟩)] 158)::.blk b (D8 vs vg vt vr bm)::.own fv 9 1 (A3 (ps.map (·.1)))::(E8 vr L++(CAP++S))) w →
   Leaves Tryz.prog Tryz.f154 a.tmps (fun r w'=>r=.returned (.tuple #[])∧Wd Γ (SV b bm vs vg vt (rs++I7 φ e os xs)::C5 bm e::(CAP++S)) w') [⟨.fn (.func 231) #[.pointer (some ⟨b8,0,none⟩),.pointer (some ⟨b4,0,none⟩)],#[]⟩] .returning w:=by
  intro ps fv vr L rs' w a hps hL hrs' hw;have hw:Wd Γ (.blk b8 (.cells #[fv] 22)::.own fv 9 1 (A3 (ps.map (·.1)))::.blk b4 (.cells #[.pointer (some ⟨b,0,none⟩)] 158)::.blk b (D8 vs vg vt vr bm)::C5 bm (e++ps)::(E8 vr L++(CAP++S))) w:=hw.perm K1
  refine Ij ((OB hw).mono fun r u' w' ⟨h1,h2,hw'⟩=>⟨h1,h2,.tuple #[],J9 rfl,rfl,?_⟩)
  rw[RJ hps]at hw';rw[←hrs'];have hw1:Wd Γ (.blk b (D8 vs vg vt vr bm)::C5 bm e::(E8 vr L++(CAP++S))) w':=hw'.ds [0,0,0]
  have hw2:Wd Γ (.blk b (D8 vs vg vt vr bm)::(E8 vr L++(C5 bm e::(CAP++S)))) w':=hw1.perm K1
  exact P1 hL hw2
 obtain⟨vr,L,hL,hw⟩:=m8 (hw.ps [2])
 have hw:=Wd.addNil (a:=none) (E:=9) (sz:=1) hw
 have hw:Wd Γ (.own (.slice none 0 0) 9 1 (A3 [])::.blk b (D8 vs vg vt vr bm)::(E8 vr L++(.blk b8 (.cells #[.slice none 0 0] 22)::.blk b4 (.cells #[.pointer (some ⟨b,0,none⟩)] 158)::C5 bm e::(CAP++S)))) w:=hw
 have hw:Wd Γ (.blk b8 (.cells #[.slice none 0 0] 22)::C5 bm (e++[])::.blk b4 (.cells #[.pointer (some ⟨b,0,none⟩)] 158)::.blk b (D8 vs vg vt vr bm)::.own (.slice none 0 0) 9 1 (A3 (([]:Env).map (·.1)))::(E8 vr L++(CAP++S))) w:=by
  rw[List.append_nil];exact hw.perm K1
 repeat(first|refine f7 ?_|refine C3 ?_|(refine C4 ?_;intro w hw))
 refine Oq (fun μ ρ w=>∃(k:Nat) (ps:Env) (fv:Value),μ+k=n∧Has ρ [(2,.slice a2 n2 c2),(3,.func (.func q) #[] cap.toArray),(4,.pointer (some ⟨b4,0,none⟩)),(8,.pointer (some ⟨b8,0,none⟩)),(14,.slice a n c),(15,.int .i64 n),(16,.int .i64 k)]∧(∀p∈ps,p.1∉e.map (·.1))∧ps.length≤k∧T6 (e++ps)∧R9 e os xs=R9 (e++ps) (os.drop k) (xs.drop k)∧Wd Γ (.blk b8 (.cells #[fv] 22)::C5 bm (e++ps)::.blk b4 (.cells #[.pointer (some ⟨b,0,none⟩)] 158)::.blk b (D8 vs vg vt vr bm)::.own fv 9 1 (A3 (ps.map (·.1)))::(E8 vr L++(CAP++S))) w) n ⟨0,[],.slice none 0 0,by omega,⟨rfl,rfl,rfl,rfl,rfl,rfl,rfl,trivial⟩,(fun p h=>(by cases h)),Nat.le_refl _,by rw[List.append_nil];exact he,by rw[List.append_nil];rfl,hw⟩ ?_
 clear hw;rintro μ ρ w ⟨k,ps,fv,hk,hρ,hps,hpl,hek,hbd,hw⟩
 rw[hρ.eq];clear hρ;repeat(first|refine f7 ?_|refine C3 ?_|(refine C4 ?_;intro w hw))
 refine AE rfl (fun h=>?_) (fun h=>?_)
 ·have hkn:k<n:=by have:=of_decide_eq_true h;omega
  clear h;obtain⟨o,ho⟩:=B8 (l:=os) (k:=k) (by omega)
  obtain⟨x,hxk⟩:=B8 (l:=xs) (k:=k) (by omega)
  have hxo:=hx x (List.mem_of_getElem? hxk)
  rw[K6 ho,K6 hxk]at hbd;repeat(first|refine f7 ?_|refine C3 ?_|(refine C4 ?_;intro w hw))
  refine lY ?_ (hy:=Q7 (hA.rd (Wd.tl5 hw)) rfl rfl (by omega) (by omega))
  refine lY ?_ (hy:=H8 rfl (hA.rd (Wd.tl5 hw)) (A7 ho))
  repeat(first|refine f7 ?_|refine C3 ?_|(refine C4 ?_;intro w hw))
  refine B4 ?_;intro b10 w hw;repeat(first|refine f7 ?_|refine C3 ?_|(refine C4 ?_;intro w hw))
  refine B0 ?_;intro w hw;have hw:Wd Γ (.blk b10 (.cells (enc o).toArray 77)::.blk b8 (.cells #[fv] 22)::C5 bm (e++ps)::.blk b4 (.cells #[.pointer (some ⟨b,0,none⟩)] 158)::.blk b (D8 vs vg vt vr bm)::.own fv 9 1 (A3 (ps.map (·.1)))::(E8 vr L++(CAP++S))) w:=hw
  repeat(first|refine f7 ?_|refine C3 ?_|(refine C4 ?_;intro w hw))
  refine AE rfl (fun h=>?_) (fun h=>?_)
  ·have h0:o.Var=C9∨o.Var=I9:=by simp only[Bool.or_eq_true,decide_eq_true_eq]at h;exact h
   rw[IA h0]at hbd;repeat(first|refine f7 ?_|refine C3 ?_|(refine C4 ?_;intro w hw))
   exact⟨rfl,μ-1,by omega,k+1,ps,fv,by omega,⟨rfl,rfl,rfl,rfl,rfl,rfl,rfl,trivial⟩,hps,by omega,hek,hbd,hw.drop⟩
  have h0:¬(o.Var=C9∨o.Var=I9):=by rw[Bool.or_eq_false_iff,decide_eq_false_iff_not,decide_eq_false_iff_not]at h;exact fun e=>e.elim h.1 h.2
  clear h;repeat(first|refine f7 ?_|refine C3 ?_|(refine C4 ?_;intro w hw))
  refine OO 1 [[],[],[],[],[],[],[],[],[],[],[0],[0],[]] [[],[],[],[],[],[],[],[],[],[],[0],[0],[]] [[11]] ?_ (hw:=hw)
  refine m4 ?_;refine CH ?_
  refine j4 ?_
  refine m4 ?_;refine M9 ?_
  clear hw;intro b11 w hw;have hw:Wd Γ (.blk b11 (.cells (enc ((G4 (e++ps) o.Var).getD default)).toArray 67)::.blk b10 (.cells (enc o).toArray 77)::.blk b8 (.cells #[fv] 22)::C5 bm (e++ps)::.blk b4 (.cells #[.pointer (some ⟨b,0,none⟩)] 158)::.blk b (D8 vs vg vt vr bm)::.own fv 9 1 (A3 (ps.map (·.1)))::(E8 vr L++(CAP++S))) w:=hw
  repeat(first|refine f7 ?_|refine C3 ?_|(refine C4 ?_;intro w hw))
  refine ND (by kernel_rfl) (by kernel_rfl) hw ?_
  refine Ef ?_;refine qG ?_ (hy:=by intro hc w hw;exact Q7 (hV.rd (Wd.tl7 hw)) A8 A8 H5 H5)
  refine qG ?_ (hy:=by intro hc w hw;exact H8 A8 (hV.rd (Wd.tl7 hw)) (A7 hxk))
  refine qG ?_ (hy:=by intro hc w hw;exact An (a:=(G4 (e++ps) o.Var).getD default) (b:=x) A8 A8 rfl)
  refine Ef ?_;clear hw;intro w hw;refine AE rfl (fun h=>?_) (fun h=>?_)
  ·rw[Ms h0 h]at hbd;repeat(first|refine f7 ?_|refine C3 ?_|(refine C4 ?_;intro w hw))
   refine fun a ha hs=>fin ps fv vr L rs w a hps hL ?_ hw.drop.drop
   unfold I7;rw[hbd,List.append_nil]
  have h1:=h
  clear h;repeat(first|refine f7 ?_|refine C3 ?_|(refine C4 ?_;intro w hw))
  refine AE rfl (fun h=>?_) (fun h=>?_)
  ·have hs:(G4 (e++ps) o.Var).isSome=false:=by simpa using h
   have hn:G4 (e++ps) o.Var=none:=by simpa using hs
   have hnk:=HV hn
   rw[KV h0 hs]at hbd;clear h;repeat(first|refine f7 ?_|refine C3 ?_|(refine C4 ?_;intro w hw))
   refine Oj (.blk b10 (.cells (enc o).toArray 77)::.blk b4 (.cells #[.pointer (some ⟨b,0,none⟩)] 158)::.blk b (D8 vs vg vt vr bm)::.blk b8 (.cells #[fv] 22)::.own fv 9 1 (A3 (ps.map (·.1)))::.blk b11 (.cells (enc ((G4 (e++ps) o.Var).getD default)).toArray 67)::(E8 vr L++(CAP++S))) [C5 bm (e++ps)] [] [[],[],[],[],[],[],[],[],[],[],[0]] (hw.perm K1) ?_
   refine m4 ?_;refine mY ?_ (hy:=fun Y w g hw=>Q7 (hV.rd (Wd.tl6 hw.left)) rfl rfl (by omega) (by omega))
   refine mY ?_ (hy:=fun Y w g hw=>H8 rfl (hV.rd (Wd.tl6 hw.left)) (A7 hxk))
   refine Y0 (φ:=fun (_:Unit) _=>True) (R:=fun _=>[C5 bm (e++ps)]) (v:=undef) (T':=Unit) (fun _ _=>True) (fun _=>[C5 bm (e++(ps++[(o.Var,x)]))]) (fun t g w Y _ hw=>?_) ?_
   ·refine S3 (v:=x) (i:=0) (l:=e++ps) hw rfl rfl rfl rfl fun w' hw'=>⟨(),trivial,(fun _=>rfl),?_⟩
    rw[MN hnk,List.append_assoc]at hw';exact hw'
   refine BG fun t w g _ hw=>?_
   have hw:Wd Γ ([C5 bm (e++(ps++[(o.Var,x)]))]++(.blk b10 (.cells (enc o).toArray 77)::.blk b4 (.cells #[.pointer (some ⟨b,0,none⟩)] 158)::.blk b (D8 vs vg vt vr bm)::.blk b8 (.cells #[fv] 22)::.own fv 9 1 (A3 (ps.map (·.1)))::.blk b11 (.cells (enc ((G4 (e++ps) o.Var).getD default)).toArray 67)::(E8 vr L++(CAP++S)))) w:=hw
   have hw:Wd Γ (.own fv 9 1 (A3 (ps.map (·.1)))::.blk b8 (.cells #[fv] 22)::.blk b11 (.cells (enc ((G4 (e++ps) o.Var).getD default)).toArray 67)::.blk b10 (.cells (enc o).toArray 77)::C5 bm (e++(ps++[(o.Var,x)]))::.blk b4 (.cells #[.pointer (some ⟨b,0,none⟩)] 158)::.blk b (D8 vs vg vt vr bm)::(E8 vr L++(CAP++S))) w:=hw.perm K1
   obtain⟨fa,fn,fc,rfl,hfn,hfc,hfb⟩:=hw.own_shape (i:=0) rfl
   simp only[List.length_map]at hfn
   repeat(first|refine f7 ?_|refine C3 ?_|(refine C4 ?_;intro w hw))
   refine F0 [[.string o.Var]] ?_
   intro q2 w hw;refine Ie (i:=1) (rows2:=[[.string o.Var]]) ?_ (Wd.own_rd (i:=0) hw rfl)
   intro fv' w hw;have hw:Wd Γ (.own (.slice (some q2) 1 1) 9 1 [[.string o.Var]]::.own fv' 9 1 (A3 (ps.map (·.1))++[[.string o.Var]])::.blk b8 (.cells #[.slice fa fn fc] 22)::.blk b11 (.cells (enc ((G4 (e++ps) o.Var).getD default)).toArray 67)::.blk b10 (.cells (enc o).toArray 77)::C5 bm (e++(ps++[(o.Var,x)]))::.blk b4 (.cells #[.pointer (some ⟨b,0,none⟩)] 158)::.blk b (D8 vs vg vt vr bm)::(E8 vr L++(CAP++S))) w:=hw
   obtain⟨fa',fn',fc',rfl,-,-,-⟩:=hw.own_shape (i:=1) rfl
   repeat(first|refine f7 ?_|refine C3 ?_|(refine C4 ?_;intro w hw))
   refine B0 (i:=2) ?_
   intro w hw;have hw:Wd Γ (.own (.slice (some q2) 1 1) 9 1 [[.string o.Var]]::.own (.slice fa' fn' fc') 9 1 (A3 (ps.map (·.1))++[[.string o.Var]])::.blk b8 (.cells #[(.slice fa' fn' fc')] 22)::.blk b11 (.cells (enc ((G4 (e++ps) o.Var).getD default)).toArray 67)::.blk b10 (.cells (enc o).toArray 77)::C5 bm (e++(ps++[(o.Var,x)]))::.blk b4 (.cells #[.pointer (some ⟨b,0,none⟩)] 158)::.blk b (D8 vs vg vt vr bm)::(E8 vr L++(CAP++S))) w:=hw
   have hw1:Wd Γ (.own (.slice fa' fn' fc') 9 1 (A3 (ps.map (·.1))++[[.string o.Var]])::.blk b8 (.cells #[(.slice fa' fn' fc')] 22)::C5 bm (e++(ps++[(o.Var,x)]))::.blk b4 (.cells #[.pointer (some ⟨b,0,none⟩)] 158)::.blk b (D8 vs vg vt vr bm)::(E8 vr L++(CAP++S))) w:=hw.ds [0,2,2]
   have hrow:A3 (ps.map (·.1))++[[.string o.Var]]=A3 ((ps++[(o.Var,x)]).map (·.1)):=by
    unfold A3;rw[List.map_append,List.map_append];rfl
   rw[hrow]at hw1;repeat(first|refine f7 ?_|refine C3 ?_|(refine C4 ?_;intro w hw))
   refine⟨rfl,μ-1,by omega,k+1,ps++[(o.Var,x)],(.slice fa' fn' fc'),by omega,⟨rfl,rfl,rfl,rfl,rfl,rfl,rfl,trivial⟩,?_,by rw[List.length_append];simp;omega,?_,?_,hw1.perm K1⟩
   ·intro p hp;rcases List.mem_append.1 hp with h1|h1
    ·exact hps p h1
    ·rw[List.mem_singleton.1 h1];exact fun hm=>hnk (by rw[List.map_append];exact List.mem_append_left _ hm)
   ·rw[←List.append_assoc];exact hek.snoc (fun e=>h0 (Or.inl e)) hxo
   ·rw[←List.append_assoc];exact hbd
  have hs:(G4 (e++ps) o.Var).isSome=true:=by simpa using h
  rw[JL h0 h1 hs]at hbd;repeat(first|refine f7 ?_|refine C3 ?_|(refine C4 ?_;intro w hw))
  exact⟨rfl,μ-1,by omega,k+1,ps,fv,by omega,⟨rfl,rfl,rfl,rfl,rfl,rfl,rfl,trivial⟩,hps,by omega,hek,hbd,hw.drop.drop⟩
 have hkn:n≤k:=by have:=of_decide_eq_false h;omega
 rw[D7 os (by omega),D7 xs (by omega)]at hbd
 have hbd:R9 e os xs=some (e++ps):=hbd.trans rfl
 have hwS:I7 φ e os xs=φ (e++ps):=by
  unfold I7;rw[hbd]
 repeat(first|refine f7 ?_|refine C3 ?_|(refine C4 ?_;intro w hw))
 have hw1:Wd Γ (.blk b (D8 vs vg vt vr bm)::(E8 vr L++(C5 bm (e++ps)::(CAP++(.blk b8 (.cells #[fv] 22)::.own fv 9 1 (A3 (ps.map (·.1)))::.blk b4 (.cells #[.pointer (some ⟨b,0,none⟩)] 158)::S))))) w:=hw.perm K1
 have hw2:Wd Γ (SV b bm vs vg vt rs::C5 bm (e++ps)::(CAP++(.blk b8 (.cells #[fv] 22)::.own fv 9 1 (A3 (ps.map (·.1)))::.blk b4 (.cells #[.pointer (some ⟨b,0,none⟩)] 158)::S))) w:=P1 hL hw1
 refine Cc (fst:=[]) (cap:=cap) ?_
 refine((hq (e++ps) rs (.blk b8 (.cells #[fv] 22)::.own fv 9 1 (A3 (ps.map (·.1)))::.blk b4 (.cells #[.pointer (some ⟨b,0,none⟩)] 158)::S) w hek (by rw[←hwS];exact hrs) hw2).mono fun r w hr=>?_)
 obtain⟨rfl,hw3⟩:=hr;refine⟨_,rfl,?_⟩;clear hw hw1 hw2;obtain⟨vr',L',hL',hw⟩:=m8 hw3
 clear hw3 hL;repeat(first|refine f7 ?_|refine C3 ?_|(refine C4 ?_;intro w hw))
 refine fun a ha hs=>fin ps fv vr' L' (rs++φ (e++ps)) w a hps hL' (by rw[hwS]) ?_
 exact hw.perm K1
end Go.Proofs.YtlimglpjpcfpdaaGreatDoor
end
