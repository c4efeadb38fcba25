/- Texts of this proof, one behind another. -/
import Derived.Test.YtlimglpjpcfpdaaGreatM3
import Derived.Laws.MakeOwn
import Derived.Lib.UnsafeStr
import Derived.Lib.Builder
import Derived.Below
import Derived.Test.YtlimglpjpcfpdaaGreatM2
import Derived.Shelf.Strconv.Itoa4
import Derived.Room.Shelf.Join48
import Derived.Shelf.Slices.In.SortNone
import Derived.Shelf.Slices.CompactI
import Derived.Sort.EveryDepth
import Derived.Laws.CopyRow
set_option linter.unusedVariables false
set_option linter.unusedSimpArgs false
section
open Go
namespace Mk
attribute [local irreducible] Calls
theorem Gz{P:Program}{n:Nat}{c:Code}{K:Fr→World→Prop}{Q:Exit→Fr→World→Prop}{ρ:Fr}{w:World}(I:Fr→World→Prop)(h1:W P n c (My I Q) ρ w)(h2:∀ρ w,I ρ w→K ρ w):W P n c (My K Q) ρ w:=
 h1.mono fun e ρ w h=>by
  cases e with
  | normal=>exact h2 ρ w h
  | _=>exact h
section
variable {P:Program}{n:Nat}{ops:List Oper}{Γ:B8}{K:List A7}{wr tc stab:List (List Nat)}{Q:Fr→World→Prop}{i:Nat}{rest:List Oper}{ρ:Fr}{w:World}{M:Nat→Fr→List A7}{v:Value}{T T':Type}{o:Oper}
variable {ty:TypeId}{pos:String}{es:Array Edge}
theorem Mw{a b d:Fr→List A7}:ML [a,b,d] 1=b:=rfl
theorem y4{a b d:Fr→List A7}:ML [a,b,d] 2=d:=rfl
theorem G3{φ:T→Fr→Prop}{R:T→List A7}{g:Fr}{Z:List A7}(h:Wd Γ (L3 φ R g++Z) w):∃t,φ t g∧Wd Γ (R t++Z) w:=by
 obtain⟨⟨t,ht⟩,hw⟩:=Wd.openEx (S:=Z) h
 exact⟨t,ht,hw⟩
theorem L8{φ:T→Fr→Prop}{R:T→List A7}{g:Fr}{Z:List A7}(t:T)(ht:φ t g)(h:Wd Γ (R t++Z) w):Wd Γ (L3 φ R g++Z) w:=
 Wd.closeEx (X:=fun p:{t:T // φ t g}=>R p.1) ⟨t,ht⟩ h
theorem mM2{c c2:Nat}(m m2:Fr→List A7)(hs:∀Y w g,Wd Γ (K++(D5 tc stab i M g++Y)) w→Step P o (D6 stab.flatten g ρ) w fun u w'=>Wd Γ (K++(D5 tc stab i (G9 (G9 M c m) c2 m2) (C3 g o.dst u)++Y)) w'∧(Q6 stab o.dst=false→u=v))
  (h:MSw (mV P n ops Γ K wr tc stab) Q (i+1) rest ⟨C3 ρ o.dst v,G9 (G9 M c m) c2 m2⟩) (hw0:wr.getD i []=[c,c2]) (hg:o.guard=none):MSw (mV P n ops Γ K wr tc stab) Q i (o::rest) ⟨ρ,M⟩:=by
 have hn:Mt.nxt (mV P n ops Γ K wr tc stab) i ⟨ρ,M⟩ ⟨v,G9 (G9 M c m) c2 m2⟩=G9 (G9 M c m) c2 m2:=by
  funext y
  simp only[Mt.nxt,O4.w,hw0]
  unfold G9;by_cases h1:y=c <;> by_cases h2:y=c2 <;> simp[h1,h2]
 refine⟨⟨v,G9 (G9 M c m) c2 m2⟩,⟨fun Γ' Y w g hr hw=>?_⟩,?_⟩
 ·have hΓ:Γ'=Γ:=hr
  subst hΓ;rw[hn];refine⟨fun _=>(hs Y w g hw).mono fun u w' ⟨h1,h2⟩=>⟨Γ',rfl,h1,h2⟩,fun hf=>?_⟩
  rw[M5 hg]at hf;cases hf
 ·simp only[Mt.next,hn];exact h
theorem mS{c:Nat}{F:Fr→List A7}(F':Fr→List A7)
  (hs:∀g w Y,Wd Γ (F (D6 (stab.getD c []) g C6)++(K++Y)) w→Step P o (D6 stab.flatten g ρ) w fun u w'=>(Q6 stab o.dst=false→u=v)∧Wd Γ (F' (D6 (stab.getD c []) (C3 g o.dst u) C6)++(K++Y)) w')
  (h:MSw (mV P n ops Γ K wr tc stab) Q (i+1) rest ⟨C3 ρ o.dst v,G9 M c F'⟩) (hM:M c=F:=by first|exact A6|exact Mw|exact y4|exact((A1 (by decide)).trans A6)|exact((A1 (by decide)).trans y4)|exact((A1 (by decide)).trans ((A1 (by decide)).trans y4))|exact((A1 (by decide)).trans ((A1 (by decide)).trans ((A1 (by decide)).trans y4)))|exact((A1 (by decide)).trans ((A1 (by decide)).trans A6))|exact rfl) (hw0:wr.getD i []=[c]:=by exact rfl) (ht:tc.getD i []=[c]:=by exact rfl) (hg:o.guard=none:=by exact rfl) :
  MSw (mV P n ops Γ K wr tc stab) Q i (o::rest) ⟨ρ,M⟩:=by
 refine mM _ (fun Y w g hw=>?_) h hw0 hg
 rw[R4 ht,hM]at hw;refine(hs g w Y hw.swapApp).mono ?_
 rintro u w' ⟨h2,h3⟩
 refine⟨?_,h2⟩
 rw[R4 ht,A6];exact h3.swapApp
theorem mS2{c c2:Nat}{F G:Fr→List A7}(F' G':Fr→List A7)
  (hs:∀g w Y,Wd Γ (F (D6 (stab.getD c []) g C6)++(G (D6 (stab.getD c2 []) g C6)++(K++Y))) w→Step P o (D6 stab.flatten g ρ) w fun u w'=>(Q6 stab o.dst=false→u=v)∧Wd Γ (F' (D6 (stab.getD c []) (C3 g o.dst u) C6)++(G' (D6 (stab.getD c2 []) (C3 g o.dst u) C6)++(K++Y))) w')
  (h:MSw (mV P n ops Γ K wr tc stab) Q (i+1) rest ⟨C3 ρ o.dst v,G9 (G9 M c F') c2 G'⟩) (hM:M c=F:=by first|exact A6|exact Mw|exact y4|exact((A1 (by decide)).trans A6)|exact((A1 (by decide)).trans y4)|exact((A1 (by decide)).trans ((A1 (by decide)).trans y4))|exact((A1 (by decide)).trans ((A1 (by decide)).trans ((A1 (by decide)).trans y4)))|exact((A1 (by decide)).trans ((A1 (by decide)).trans A6))|exact rfl) (hM2:M c2=G:=by first|exact A6|exact Mw|exact y4|exact((A1 (by decide)).trans A6)|exact((A1 (by decide)).trans y4)|exact((A1 (by decide)).trans ((A1 (by decide)).trans y4))|exact((A1 (by decide)).trans ((A1 (by decide)).trans ((A1 (by decide)).trans y4)))|exact((A1 (by decide)).trans ((A1 (by decide)).trans A6))|exact rfl) (hw0:wr.getD i []=[c,c2]:=by exact rfl) (ht:tc.getD i []=[c,c2]:=by exact rfl) (hcc:Nat.beq c c2=false:=by exact rfl) (hg:o.guard=none:=by exact rfl) :
  MSw (mV P n ops Γ K wr tc stab) Q i (o::rest) ⟨ρ,M⟩:=by
 have hne:c≠c2:=fun e=>by subst e;simp at hcc
 refine mM2 _ _ (fun Y w g hw=>?_) h hw0 hg
 rw[AD ht,hM,hM2]at hw;have hw1:=(hw.perm (by rw[List.append_assoc];exact(List.perm_append_comm_assoc _ _ _).trans (List.Perm.append_left _ (List.perm_append_comm_assoc _ _ _)))  : Wd Γ (F (D6 (stab.getD c []) g C6)++(G (D6 (stab.getD c2 []) g C6)++(K++Y))) w)
 refine(hs g w Y hw1).mono ?_
 rintro u w' ⟨h2,h3⟩
 refine⟨?_,h2⟩
 rw[AD ht,A6,A1 hne,A6];exact h3.perm (by rw[List.append_assoc];exact((List.perm_append_comm_assoc _ _ _).trans (List.Perm.append_left _ (List.perm_append_comm_assoc _ _ _))).symm)
theorem As{c dd E by' len sz:Nat}{zs:List Value}{parts:Array (Nat×Operand)}{TT:TypeId}{φ:T→Fr→Prop}{R:T→List A7}(rws:T→List (List Value))[TL P TT E sz by' zs]
  (h:MSw (mV P n ops Γ K wr tc stab) Q (i+1) rest ⟨C3 ρ (some dd) undef,G9 M c (L3 (fun (p:T×Addr) g=>φ p.1 g∧g dd=.slice (some p.2) len len) fun p=>.own (.slice (some p.2) len len) E sz (rws p.1)::R p.1)⟩)
  (hf:∀t g,φ t (D6 (stab.getD c []) g C6)→W4 (fun i=>some (i*sz,sz)) ((List.range (len*sz)).map fun i=>zs.getD (i%sz) undef) (parts.toList.map fun p=>(p.1,ev (D6 stab.flatten g ρ) p.2))=some (rws t).flatten)
  (hw0:wr.getD i []=[c]:=by exact rfl) (ht:tc.getD i []=[c]:=by exact rfl) (hM:M c=L3 φ R:=by first|exact A6|exact Mw|exact y4|exact((A1 (by decide)).trans A6)|exact((A1 (by decide)).trans y4)|exact((A1 (by decide)).trans ((A1 (by decide)).trans y4))|exact((A1 (by decide)).trans ((A1 (by decide)).trans ((A1 (by decide)).trans y4)))|exact((A1 (by decide)).trans ((A1 (by decide)).trans A6))|exact rfl) (hφ:∀t g u,φ t (D6 (stab.getD c []) g C6)→φ t (D6 (stab.getD c []) (C3 g (some dd) u) C6):=by intro t g u h;exact h)
  (hlen:∀t,(rws t).length=len:=by intro t;rfl) (hr:∀t,(rws t).all (fun r=>Nat.beq r.length sz)=true:=by intro t;rfl) (hbig:Nat.ble (len*sz) 16777216=true:=by exact rfl)
  (hs:(stab.getD c []).contains dd=true:=by exact rfl) (hfr:Q6 stab (some dd)=true:=by exact rfl) :
  MSw (mV P n ops Γ K wr tc stab) Q i (⟨some dd,.buildSlice TT len parts,ty,pos,es,none⟩::rest) ⟨ρ,M⟩:=
 mS (v:=undef) (L3 (fun (p:T×Addr) g=>φ p.1 g∧g dd=.slice (some p.2) len len) fun p=>.own (.slice (some p.2) len len) E sz (rws p.1)::R p.1) (fun g w Y hw=>by
  obtain⟨t,h1,hw⟩:=G3 hw
  refine L9 (rws:=rws t) hw (hf t g h1) rfl (hlen t) (fun r hm=>Nat.eq_of_beq_eq_true ((List.all_eq_true.1 (hr t)) r hm)) (Nat.le_of_ble_eq_true hbig) fun a w' hw'=>⟨fun hh=>(by rw[hfr]at hh;cases hh),L8 (t,a) ⟨hφ t g _ h1,?_⟩ hw'⟩
  rw[J7 (by simpa using hs)];exact upd_same _ _ _) h hM hw0 ht rfl
theorem TQ{c dd:Nat}{op:Op}{φ:T→Fr→Prop}{R:T→List A7}(u:T→Value)
  (hy:∀t g w Y,φ t (D6 (stab.getD c []) g C6)→Wd Γ (R t++(K++Y)) w→Yields P ⟨some dd,op,ty,pos,es,none⟩ (D6 stab.flatten g ρ) w (u t))
  (h:MSw (mV P n ops Γ K wr tc stab) Q (i+1) rest ⟨C3 ρ (some dd) undef,G9 M c (L3 (fun t g=>φ t g∧g dd=u t) R)⟩)
  (hw0:wr.getD i []=[c]:=by exact rfl) (ht:tc.getD i []=[c]:=by exact rfl) (hM:M c=L3 φ R:=by first|exact A6|exact Mw|exact y4|exact((A1 (by decide)).trans A6)|exact((A1 (by decide)).trans y4)|exact((A1 (by decide)).trans ((A1 (by decide)).trans y4))|exact((A1 (by decide)).trans ((A1 (by decide)).trans ((A1 (by decide)).trans y4)))|exact((A1 (by decide)).trans ((A1 (by decide)).trans A6))|exact rfl) (hφ:∀t g u,φ t (D6 (stab.getD c []) g C6)→φ t (D6 (stab.getD c []) (C3 g (some dd) u) C6):=by intro t g u h;exact h)
  (hs:(stab.getD c []).contains dd=true:=by exact rfl) (hfr:Q6 stab (some dd)=true:=by exact rfl) :
  MSw (mV P n ops Γ K wr tc stab) Q i (⟨some dd,op,ty,pos,es,none⟩::rest) ⟨ρ,M⟩:=
 mS (v:=undef) (L3 (fun t g=>φ t g∧g dd=u t) R) (fun g w Y hw=>by
  obtain⟨t,h1,hw⟩:=G3 hw
  refine(hy t g w Y h1 hw).step ⟨fun hh=>(by rw[hfr]at hh;cases hh),L8 t ⟨hφ t g _ h1,?_⟩ hw⟩
  rw[J7 (by simpa using hs)];exact upd_same _ _ _) h hM hw0 ht rfl
theorem GQ{c dd j j2 E by' sz m cc m2 c2:Nat}{zs:List Value}{a:Option Addr}{rows:List (List Value)}{TT:TypeId}{x y:Operand}{φ:T→Fr→Prop}{R:T→List A7}(a2:T→Option Addr)(rows2:T→List (List Value))[TL P TT E sz by' zs]
  (h:MSw (mV P n ops Γ K wr tc stab) Q (i+1) rest ⟨C3 ρ (some dd) undef,G9 M c (L3 (fun (p:T×Value) g=>φ p.1 g∧g dd=p.2) fun p=>(R p.1).set j (.own p.2 E sz (rows++rows2 p.1)))⟩)
  (hy:∀t g,φ t (D6 (stab.getD c []) g C6)→ev (D6 stab.flatten g ρ) y=.slice (a2 t) m2 c2) (hw0:wr.getD i []=[c]:=by exact rfl) (ht:tc.getD i []=[c]:=by exact rfl) (hM:M c=L3 φ R:=by first|exact A6|exact Mw|exact y4|exact((A1 (by decide)).trans A6)|exact((A1 (by decide)).trans y4)|exact((A1 (by decide)).trans ((A1 (by decide)).trans y4))|exact((A1 (by decide)).trans ((A1 (by decide)).trans ((A1 (by decide)).trans y4)))|exact((A1 (by decide)).trans ((A1 (by decide)).trans A6))|exact rfl) (hj:∀t,(R t)[j]? = some (.own (.slice a m cc) E sz rows):=by intro t;exact rfl) (hj2:∀t,(R t)[j2]? = some (.own (.slice (a2 t) m2 c2) E sz (rows2 t)):=by intro t;exact rfl)
  (h1:∀t,(rows2 t).flatten.all (·.oneCell')=true:=by intro t;rfl) (hx:∀g,ev (D6 stab.flatten g ρ) x=.slice a m cc:=by intro g;exact rfl)
  (hφ:∀t g u,φ t (D6 (stab.getD c []) g C6)→φ t (D6 (stab.getD c []) (C3 g (some dd) u) C6):=by intro t g u h;exact h)
  (hb:(m+m2)*by'≤140737488355328:=by omega) (h63:m+m2≤9223372036854775807:=by omega) (hl2:∀t,m2=(rows2 t).length:=by intro t;rfl)
  (hs:(stab.getD c []).contains dd=true:=by exact rfl) (hfr:Q6 stab (some dd)=true:=by exact rfl) :
  MSw (mV P n ops Γ K wr tc stab) Q i (⟨some dd,.call { callee:=.builtin .append,args:=#[x,y],argTypes:=#[TT,TT] },ty,pos,es,none⟩::rest) ⟨ρ,M⟩:=
 mS (v:=undef) (L3 (fun (p:T×Value) g=>φ p.1 g∧g dd=p.2) fun p=>(R p.1).set j (.own p.2 E sz (rows++rows2 p.1))) (fun g w Y hw=>by
  obtain⟨t,ht1,hw⟩:=G3 hw
  have hjl:j<(R t).length:=(List.getElem?_eq_some_iff.1 (hj t)).1
  have hjl2:j2<(R t).length:=(List.getElem?_eq_some_iff.1 (hj2 t)).1
  have hi:(R t++(K++Y))[j]? = some (.own (.slice a m cc) E sz rows):=by rw[List.getElem?_append_left hjl];exact hj t
  have hi2:(R t++(K++Y))[j2]? = some (.own (.slice (a2 t) m2 c2) E sz (rows2 t)):=by rw[List.getElem?_append_left hjl2];exact hj2 t
  refine AN hw (hx g) (hy t g ht1) hi (hw.own_rd hi2) (hl2 t) (fun u hu=>(List.all_eq_true.1 (h1 t)) u hu) hb h63 fun v' w' hw'=>⟨fun hh=>(by rw[hfr]at hh;cases hh),L8 (t,v') ⟨hφ t g _ ht1,?_⟩ ?_⟩
  ·rw[J7 (by simpa using hs)];exact upd_same _ _ _
  ·rw[List.set_append_left _ _ hjl]at hw';exact hw') h hM hw0 ht rfl
theorem DV{c0 c b ob dv j:Nat}{cs:Array Value}{E E2 sz2:Nat}{TT:TypeId}{x:Operand}{φ:T→Fr→Prop}{R:T→List A7}{val:T→Value}{rows:T→List (List Value)}[hn:Kk P TT 1]
  (h:MSw (mV P n ops Γ K wr tc stab) Q (i+1) rest ⟨ρ,G9 (G9 M c0 fun _=>[]) c (L3 φ fun t=>.blk b (.cells (putCells cs ob [val t]) E)::R t)⟩)
  (hv:∀t g,φ t (D6 (stab.getD c []) g C6)→ev (D6 stab.flatten g ρ) (.tmp dv)=val t) (hw0:wr.getD i []=[c0,c]:=by exact rfl) (ht:tc.getD i []=[c0,c]:=by exact rfl) (hcc:Nat.beq c0 c=false:=by exact rfl) (hM2:M c=L3 φ R:=by first|exact A6|exact Mw|exact y4|exact((A1 (by decide)).trans A6)|exact((A1 (by decide)).trans y4)|exact((A1 (by decide)).trans ((A1 (by decide)).trans y4))|exact((A1 (by decide)).trans ((A1 (by decide)).trans ((A1 (by decide)).trans y4)))|exact((A1 (by decide)).trans ((A1 (by decide)).trans A6))|exact rfl) (hj:∀t,(R t)[j]? = some (.own (val t) E2 sz2 (rows t)):=by intro t;exact rfl) (hx:∀g,ev (D6 stab.flatten g ρ) x=.pointer (some ⟨b,ob,none⟩):=by intro g;exact rfl)
  (hM:M c0=(fun _=>[.blk b (.cells cs E)]):=by exact rfl) (ho:ob+1≤cs.size:=by exact Nat.le_of_ble_eq_true rfl) :
  MSw (mV P n ops Γ K wr tc stab) Q i (⟨none,.store TT x (.tmp dv),ty,pos,es,none⟩::rest) ⟨ρ,M⟩:=
 mS2 (v:=undef) (fun _=>[]) (L3 φ fun t=>.blk b (.cells (putCells cs ob [val t]) E)::R t) (fun g w Y hw=>by
  have hw2:Wd Γ (L3 φ R (D6 (stab.getD c []) g C6)++(.blk b (.cells cs E)::(K++Y))) w:=hw.perm (List.perm_append_comm_assoc _ _ _)
  obtain⟨t,ht1,hw⟩:=G3 hw2
  have hw:Wd Γ (.blk b (.cells cs E)::(R t++(K++Y))) w:=hw.perm List.perm_middle
  have hjl:j<(R t).length:=(List.getElem?_eq_some_iff.1 (hj t)).1
  obtain⟨q1,q2,q3,e1,-,-,-⟩:=hw.own_shape (i:=j+1) (v:=val t) (e:=E2) (sz:=sz2) (rows:=rows t) (by rw[List.getElem?_cons_succ,List.getElem?_append_left hjl];exact hj t)
  refine V6 hn.h hw (hx g) (hv t g ht1) (vs:=[val t]) (by rw[e1];rfl) rfl (fun u hu=>by simp at hu;subst hu;rw[e1];rfl) (i:=0) rfl ho fun w' hw'=>⟨fun _=>rfl,?_⟩
  exact L8 (R:=fun t=>.blk b (.cells (putCells cs ob [val t]) E)::R t) t ht1 hw') h hM hM2 hw0 ht hcc rfl
theorem Cy{id:Nat}{l:List Oper}{QQ:Exit→Fr→World→Prop}(K X0 X1 X2:List A7)(N1 N2:List Nat)(wr tc:List (List Nat))(hw:Wd Γ (K++(X0++(X1++X2))) w)
  (h:MSw (mV P n l Γ K wr tc [[],N1,N2]) (fun ρ w=>QQ .normal ρ w) 0 l ⟨ρ,ML [fun _=>X0,L3 (T:=Unit) (fun _ _=>True) (fun _=>X1),L3 (T:=Unit) (fun _ _=>True) (fun _=>X2)]⟩)
  (hm:P.follows .mixedOrders=true:=by kernel_rfl) (hk:M4 n l wr tc [[],N1,N2]=true:=by kernel_rfl):W P n (.region id l.toArray true) QQ ρ w:=
 BJ K [fun _=>X0,L3 (T:=Unit) (fun _ _=>True) (fun _=>X1),L3 (T:=Unit) (fun _ _=>True) (fun _=>X2)] wr tc [[],N1,N2] (by
  show Wd Γ (K++(X0++(L3 (T:=Unit) (fun _ _=>True) (fun _=>X1) (D6 N1 ρ C6)++(L3 (T:=Unit) (fun _ _=>True) (fun _=>X2) (D6 N2 ρ C6)++[])))) w
  rw[List.append_nil];have h1:Wd Γ (X1++(X2++(K++X0))) w:=hw.perm (by
   rw[←List.append_assoc,←List.append_assoc X1];exact List.perm_append_comm)
  have h2:Wd Γ (L3 (T:=Unit) (fun _ _=>True) (fun _=>X1) (D6 N1 ρ C6)++(X2++(K++X0))) w:=L8 () trivial h1
  have h3:Wd Γ (X2++(L3 (T:=Unit) (fun _ _=>True) (fun _=>X1) (D6 N1 ρ C6)++(K++X0))) w:=h2.perm (List.perm_append_comm_assoc _ _ _)
  have h4:Wd Γ (L3 (T:=Unit) (fun _ _=>True) (fun _=>X2) (D6 N2 ρ C6)++(L3 (T:=Unit) (fun _ _=>True) (fun _=>X1) (D6 N1 ρ C6)++(K++X0))) w:=L8 () trivial h3
  have h5:Wd Γ (L3 (T:=Unit) (fun _ _=>True) (fun _=>X1) (D6 N1 ρ C6)++(L3 (T:=Unit) (fun _ _=>True) (fun _=>X2) (D6 N2 ρ C6)++(K++X0))) w:=h4.perm (List.perm_append_comm_assoc _ _ _)
  exact h5.perm (by
   rw[←List.append_assoc,←List.append_assoc K];exact List.perm_append_comm)) h hm hk
theorem Gq{N1 N2:List Nat}{φ:T→Fr→Prop}{R:T→List A7}(h:∀t w g,φ t (D6 N1 g C6)→Wd Γ (R t++K) w→Q (D6 [[],N1,N2].flatten g ρ) w)(hM0:M 0=fun _=>[]:=by exact rfl)(hM:M 1=L3 φ R:=by first|exact A6|exact Mw|exact y4|exact((A1 (by decide)).trans A6)|exact((A1 (by decide)).trans y4)|exact((A1 (by decide)).trans ((A1 (by decide)).trans y4))|exact((A1 (by decide)).trans ((A1 (by decide)).trans ((A1 (by decide)).trans y4)))|exact((A1 (by decide)).trans ((A1 (by decide)).trans A6))|exact rfl):MSw (mV P n ops Γ K wr tc [[],N1,N2]) Q i [] ⟨ρ,M⟩:=
 K3 fun w g hw=>by
  have hw1:Wd Γ (K++(M 0 (D6 [] g C6)++(M 1 (D6 N1 g C6)++(M 2 (D6 N2 g C6)++[])))) w:=hw
  rw[hM0,hM,List.nil_append]at hw1;have hw2:Wd Γ (L3 φ R (D6 N1 g C6)++(K++(M 2 (D6 N2 g C6)++[]))) w:=hw1.swapApp
  obtain⟨t,ht,hw3⟩:=G3 hw2
  exact h t w g ht (Wd.left (S:=R t++K) (by rw[List.append_assoc];exact hw3))
end
class PS(P:Program)(Γ:B8)(S:List A7)(f:Nat)(args:List Value)(v:outParam Value):Prop where
 h:∀Y w,Wd Γ (S++Y) w→Calls P f args.toArray w fun e w'=>e=.returned v∧Wd Γ (S++Y) w'
section
variable {P:Program}{n:Nat}{ops:List Oper}{opa:Array Oper}{Γ:B8}{S K:List A7}{Q:Fr→World→Prop}{QQ:Exit→Fr→World→Prop}{ρ:Fr}{w:World}{rest:List Oper}{wr tc stab:List (List Nat)}{i:Nat}{M:Nat→Fr→List A7}
variable {d:Option Tmp}{ty:TypeId}{pos:String}{es:Array Edge}{v:Value}{f:Nat}{args:List Operand}{tys:Array TypeId}{vs:List Value}{j dj:Nat}{want c:Bool}{g:Option (Nat×Bool)}
theorem To{Y:List A7}[B5 P f](hp:PS P Γ S f vs v)(ha:EvL ρ args vs)(hw:Wd Γ (S++Y) w):Step P ⟨d,.call { callee:=.value (.func f),args:=args.toArray,argTypes:=tys },ty,pos,es,g⟩ ρ w fun u w'=>u=v∧Wd Γ (S++Y) w':=
 Y8 ha.eqA ((hp.h Y w hw).mono fun _ _ ⟨h1,h2⟩=>⟨v,h1,rfl,h2⟩)
theorem Tt[B5 P f](h:Qw P n ops Γ S Q rest (C3 ρ d v))(ha:EvL ρ args vs:=by exact r8)(hp:PS P Γ S f vs v:=by infer_instance) :
  Qw P n ops Γ S Q (⟨d,.call { callee:=.value (.func f),args:=args.toArray,argTypes:=tys },ty,pos,es,none⟩::rest) ρ:=
 Ty rfl rfl (fun _ _ hw=>To hp ha hw) h
theorem TO[B5 P f](h:Qw P n ops Γ S Q rest (C3 ρ d (gv c v)))(hj:(ops[j]?).bind (·.dst)=some dj:=by exact rfl)(hc:E8 (ρ dj) want c:=by exact Ha)(ha:c=true→EvL ρ args vs:=by intro hc;exact IH)(hp:PS P Γ S f vs v:=by infer_instance) :
  Qw P n ops Γ S Q (⟨d,.call { callee:=.value (.func f),args:=args.toArray,argTypes:=tys },ty,pos,es,some (j,want)⟩::rest) ρ:=
 RY rfl hj hc rfl (fun ht _ _ hw=>To hp (ha ht) hw) h
end
theorem Lz{zs:List Value}{sz:Nat}(hz:zs.length=sz)(h0:0<sz):∀n:Nat,(madeCells zs.toArray (n*sz)).toList=(List.replicate n zs).flatten:=fun n=>by
 unfold madeCells;simp only[Array.toList_map,Array.toList_range,List.size_toArray,hz]
 have hf:∀i:Nat,zs.toArray[i%sz]! = zs.getD (i%sz) undef:=fun i=>by
  have hlt:i%sz<zs.length:=by rw[hz];exact Nat.mod_lt _ h0
  rw[getElem!_pos (zs.toArray) _ (by simpa using hlt)]
  simp[List.getD_eq_getElem?_getD,List.getElem?_eq_getElem hlt]
 simp only[hf]
 induction n with
 | zero=>simp
 | succ n ih=>
  rw[show (n+1)*sz=sz+n*sz from by rw[Nat.add_mul];omega,List.range_add,List.map_append,List.map_map,List.replicate_succ,List.flatten_cons,←ih]
  congr 1
  ·refine List.ext_getElem? fun i=>?_
   rw[List.getElem?_map];by_cases hi:i<sz
   ·rw[List.getElem?_range hi];simp only[Option.map_some,Nat.mod_eq_of_lt hi]
    rw[List.getD_eq_getElem?_getD,List.getElem?_eq_getElem (by omega)];rfl
   ·rw[List.getElem?_eq_none (by simpa using hi),List.getElem?_eq_none (by omega)];rfl
  ·refine List.map_congr_left fun i _=>?_
   simp
section
variable {P:Program}{n:Nat}{opa:Array Oper}{Γ:B8}{S:List A7}{QQ:Exit→Fr→World→Prop}{ρ:Fr}{w:World}{rest:List Oper}{K:Value→World→Prop}
variable {d:Option Tmp}{T ty:TypeId}{pos:String}{es:Array Edge}{g:Option (Nat×Bool)}{x y:Operand}
theorem IE{E by' len sz:Nat}{zs:List Value}[hT:TL P T E sz by' zs](hw:Wd Γ S w)(hx:ev ρ x=.int .i64 (len:Nat))(hy:ev ρ y=.int .i64 (len:Nat))(hb:(by':Int)*len≤281474976710656)(h63:(len:Int)≤9223372036854775807)
  (hk:∀a w',Wd Γ (.own (.slice (some a) len len) E sz (List.replicate len zs)::S) w'→K (.slice (some a) len len) w'):Step P ⟨d,.makeSlice T x y,ty,pos,es,g⟩ ρ w K:=by
 obtain⟨q,z,hq,hz,hzc⟩:=P4 hT.z
 obtain⟨q',hq',hs,hb'⟩:=P6 hT.s
 rw[hq]at hq';cases hq'
 have hrun:=run_make (P:=P) w T E q z hT.h hq hz .i64 .i64 (len:Int) (len:Int) (by omega) (Int.le_refl _) (by rw[hb'];exact hb) h63
 rw[hzc,hs]at hrun;have hr0:(execOp (ev ρ) ⟨d,.makeSlice T x y,ty,pos,es,g⟩).run P w=.ok (.value (.slice (some ⟨w.heap.size,0,none⟩) len len)) (w.alloc (.cells (madeCells zs.toArray (len*sz)) E)):=by
  simp only[execOp,hx,hy,Sem.run_bind,hrun,Result.andThen_ok,Int.toNat_natCast]
  rfl
 have hrows:=Lz hT.n.1 hT.n.2 len
 have hfin:=hk ⟨w.heap.size,0,none⟩ (w.alloc (.cells (madeCells zs.toArray (len*sz)) E)) (hw.add (bs:=[w.heap.size]) ⟨rfl,rfl,rfl,(by first|exact Nat.le_refl _|exact Nat.le_succ _),by simp⟩ (by
  unfold A7.own;refine⟨fun r hr=>by rw[List.eq_of_mem_replicate hr];exact hT.n.1,_,_,_,rfl,(by simp),Nat.le_refl _,by simp[maxLen];omega,.inr ⟨w.heap.size,madeCells zs.toArray (len*sz),rfl,rfl,heap_alloc_new w _,size_madeCells _ _,?_⟩⟩
  rw[hrows,List.take_of_length_le];rw[←hrows,Array.length_toList,size_madeCells];exact Nat.le_refl _) (by simp) (by simp) fun k hk=>heap_alloc_old w _ hk)
 unfold Step;rw[hr0];exact hfin
theorem Js{E by' len sz:Nat}{zs:List Value}[hT:TL P T E sz by' zs](h:∀a w',Wd Γ (.own (.slice (some a) len len) E sz (List.replicate len zs)::S) w'→L P n opa QQ rest (C3 ρ d (.slice (some a) len len)) w')
  (hw:Wd Γ S w:=by exact hw) (hx:ev ρ x=.int .i64 (len:Nat):=by exact rfl) (hy:ev ρ y=.int .i64 (len:Nat):=by exact rfl) (hb:(by':Int)*len≤281474976710656:=by omega) (h63:(len:Int)≤9223372036854775807:=by omega) (hd:E4 n d=true:=by exact rfl) :
  L P n opa QQ (⟨d,.makeSlice T x y,ty,pos,es,none⟩::rest) ρ w:=H1 rfl hd (IE hw hx hy hb h63 h)
end
theorem RA{Γ:B8}{S:List A7}{w w':World}(h:Wd Γ S w)(h':Wd (d9 w) [] w'):Wd Γ S w':=by
 obtain⟨h1,h2,h3,h4,h5,bss,h6,h7,h8⟩:=h;obtain⟨k1,k2,k3,k4,k5,-⟩:=h';have hk:∀b∈bss.flatten,w'.heap[b]? = w.heap[b]?:=fun b hb=>by
  have hl:=(h8 b hb).1
  have e:w.heap[b]? = some w.heap[b]:=Array.getElem?_eq_getElem hl
  rw[e];exact k5 b _ e
 refine⟨k1.trans h1,k2.trans h2,k3.trans h3,Nat.le_trans h4 k4,fun b o hb=>k5 b o (h5 b o hb),bss,Holds.loc (fun b o h=>h) S bss (fun b hb=>hk b hb) h6,h7,fun b hb=>⟨?_,(h8 b hb).2⟩⟩
 have hl:=(h8 b hb).1
 have e:w.heap[b]? = some w.heap[b]:=Array.getElem?_eq_getElem hl
 have:=hk b hb
 rw[e]at this;exact(Array.getElem?_eq_some_iff.1 this).1
section
variable {P:Program}{n:Nat}{ops:List Oper}{Γ:B8}{K:List A7}{wr tc stab:List (List Nat)}{Q:Fr→World→Prop}{i:Nat}{rest:List Oper}{ρ:Fr}{M:Nat→Fr→List A7}
variable {d:Option Tmp}{op:Op}{ty:TypeId}{pos:String}{es:Array Edge}{j dj:Nat}{want:Bool}
end
section
variable {P:Program}{n:Nat}{ops:List Oper}{Γ:B8}{K:List A7}{wr tc stab:List (List Nat)}{Q:Fr→World→Prop}{i:Nat}{rest:List Oper}{ρ:Fr}{M:Nat→Fr→List A7}
variable {d:Option Tmp}{op:Op}{ty:TypeId}{pos:String}{es:Array Edge}{j dj:Nat}{want:Bool}
end
theorem Ny{P:Program}{ρ:Fr}{w:World}{d:Option Tmp}{T ty:TypeId}{pos:String}{es:Array Edge}{g:Option (Nat×Bool)}{x:Operand}{k:IntKind}{a:Int}(hx:ev ρ x=.int k a):Yields P ⟨d,.unOp .neg T x,ty,pos,es,g⟩ ρ w (.int k (k.wrap (-a))):=by
 unfold Yields;simp[execOp,go_sem,hx,Op.unary,Op.intArith]
end Mk
end
section
open Go Mk
namespace Go.Proofs.YtlimglpjpcfpdaaGreat
set_option maxHeartbeats 4000000
attribute [local irreducible] Calls cI cB
instance Qr(Γ:B8)(a b:Val):PG Tryz.prog Γ 120 [.agg (enc a).toArray,.agg (enc b).toArray] (.int .i64 (cV a b)):=⟨fun S w hw=>by
 refine A3 Tryz.func120 rfl rfl ?_
 refine A4 ?_;refine E5 ?_;intro b1 w hw;refine E5 ?_;intro b2 w hw;have hw:Wd Γ (.blk b2 (.cells (enc b).toArray 54)::.blk b1 (.cells (enc a).toArray 54)::S) w:=hw
 refine A4 ?_;refine A0 rfl (fun h=>?_) (fun h=>?_)
 ·refine A4 ?_;exact⟨_,rfl,C9 rfl (by have h:=of_decide_eq_true h;subst h;rw[DX.refl]),hw.drop.drop⟩
 ·refine A4 ?_;refine Z7 [.blk b2 _,.blk b1 _] S [23] [[],[],[],[],[],[],[],[],[],[],[],[],[],[],[],[0],[0],[]] hw ?_
  refine i9 ?_;refine Z2 (v:=undef) (T':=Value) (fun t g=>g 23=t) (fun t=>.own t 3 1 ([cI a.Kind b.Kind,cI a.Num b.Num,cB a.Word b.Word].map fun x=>[.int .i64 x])::S) (fun t g w Y _ hw=>L9 (rws:=[cI a.Kind b.Kind,cI a.Num b.Num,cB a.Word b.Word].map fun x=>[.int .i64 x]) hw rfl rfl rfl (by simp) (by decide) fun q w' hw'=>⟨_,rfl,(fun h=>by cases h),hw'⟩) ?_
  refine j7 (φ:=fun (t:Value) g=>g 23=t) (v:=.int .i64 (cV a b)) (T':=Value) (fun _ _=>True) (fun t=>.own t 3 1 ([cI a.Kind b.Kind,cI a.Num b.Num,cB a.Word b.Word].map fun x=>[.int .i64 x])::S) (fun t _=>[t]) (fun t g w Y ht hw=>?_) ?_ (ha:=fun t g ht=>EvL.cons ht EvL.nil)
  ·refine(Jr _ hw (O9.own (i:=0) hw rfl)).mono ?_
   rintro e w ⟨rfl,hw⟩
   refine⟨_,rfl,t,trivial,fun _=>?_,hw⟩
   unfold cV JQ JQ JQ JQ;rw[NW]
  refine i9 ?_;refine y6 fun t w g _ hw=>?_
  refine A4 ?_;exact⟨_,rfl,rfl,hw.drop.left⟩⟩
theorem EB{Γ:B8}{va vb:Value}{xs ys:List Val}(ha:D3 Γ va 3 (xs.map enc))(hb:D3 Γ vb 3 (ys.map enc)) :
  PG Tryz.prog Γ 115 [va,vb,.func (.func 120) #[] #[]] (.int .i64 (cL cV xs ys)):=⟨fun S w hw=>by
 obtain⟨a,n,c,rfl,hn,hnc,hc⟩:=ha.shape;obtain⟨a2,n2,c2,rfl,hn2,hnc2,hc2⟩:=hb.shape;simp only[List.length_map]at hn hn2
 refine A3 Tryz.func115 rfl rfl ?_
 refine A4 ?_;refine C8 (fun μ ρ w=>∃(k:Nat),μ+k=n∧Has ρ [(0,.slice a n c),(1,.slice a2 n2 c2),(2,.func (.func 120) #[] #[]),(11,.slice a n c),(12,.int .i64 n),(13,.int .i64 k)]∧cL cV xs ys=cL cV (xs.drop k) (ys.drop k)∧Wd Γ S w) n ⟨0,by omega,⟨rfl,rfl,rfl,rfl,rfl,rfl,trivial⟩,rfl,hw⟩ ?_
 clear hw;rintro μ ρ w ⟨k,hk,hρ,ho,hw⟩
 rw[hρ.eq];refine A4 ?_;refine A0 rfl (fun h=>?_) (fun h=>?_)
 ·have hkn:k<n:=by simpa using h
  obtain⟨x,hx⟩:=C0 (l:=xs) (k:=k) (by omega)
  have hd:xs.drop k=x::xs.drop (k+1):=K5 hx
  rw[hd]at ho;refine A4 ?_;refine B2 ?_;intro b8 w hw;refine A4 ?_;refine B0 ?_;intro w hw;have hw:Wd Γ (.blk b8 (.cells (enc x).toArray 54)::S) w:=hw
  refine A4 ?_;refine A0 rfl (fun h2=>?_) (fun h2=>?_)
  ·refine A4 ?_;have h2:n2≤k:=by simpa using h2
   refine⟨_,rfl,C9 rfl ?_,hw.drop⟩
   rw[ho,E3 ys (by omega)];rfl
  ·have h2:k<n2:=by simpa using h2
   obtain⟨y,hy⟩:=C0 (l:=ys) (k:=k) (by omega)
   rw[K5 hy]at ho;have ho:cL cV xs ys=z8 (cV x y) (cL cV (xs.drop (k+1)) (ys.drop (k+1))):=ho
   refine A4 ?_;refine B2 ?_;intro b9 w hw;refine B0 ?_;intro w hw;have hw:Wd Γ (.blk b9 (.cells (enc y).toArray 54)::.blk b8 (.cells (enc x).toArray 54)::S) w:=hw
   refine A4 ?_;refine Ae (fst:=[]) (cap:=[]) ?_
   refine((Qr Γ x y).h _ _ hw).mono ?_
   rintro e w ⟨rfl,hw⟩
   refine⟨_,rfl,?_⟩;refine A4 ?_;refine A0 rfl (fun h3=>?_) (fun h3=>?_)
   ·refine A4 ?_;have h3:¬cV x y=0:=by simpa using h3
    refine⟨_,rfl,C9 rfl ?_,hw.drop.drop⟩
    rw[ho,Au h3]
   ·refine A4 ?_;have h3:cV x y=0:=by simpa using h3
    refine⟨μ-1,by omega,k+1,by omega,⟨rfl,rfl,rfl,rfl,rfl,rfl,trivial⟩,?_,hw.drop.drop⟩
    rw[ho,Q1 h3]
 ·have hkn:¬k<n:=by simpa using h
  rw[E3 xs (by omega)]at ho
  refine A4 ?_;refine A0 rfl (fun h2=>?_) (fun h2=>?_)
  ·refine A4 ?_;have h2:n<n2:=by simpa using h2
   obtain⟨y,hy⟩:=C0 (l:=ys) (k:=k) (by omega)
   rw[K5 hy]at ho;exact⟨_,rfl,C9 rfl (by rw[ho];rfl),hw⟩
  ·refine A4 ?_;have h2:¬n<n2:=by simpa using h2
   rw[E3 ys (by omega)]at ho
   exact⟨_,rfl,C9 rfl (by rw[ho];rfl),hw⟩⟩
theorem LO{Γ:B8}{f g:C1}(hf:Bt Γ f)(hg:Bt Γ g):PG Tryz.prog Γ 57 [.agg (cF f).toArray,.agg (cF g).toArray] (.int .i64 (I1 f.fact g.fact)):=⟨fun S w hw=>by
 obtain⟨l1,l2,l3⟩:=hf.len;obtain⟨m1,m2,m3⟩:=hg.len;have hC:=EB hf hg
 obtain⟨fr,fa,fn,fc,fs⟩:=f;obtain⟨gr,ga,gn,gc,gs⟩:=g;simp only at l1 l2 l3 m1 m2 m3
 refine A3 Tryz.func57 rfl rfl ?_
 refine A4 ?_;refine E5 ?_;intro b1 w hw;refine E5 ?_;intro b2 w hw;have hw:Wd Γ (.blk b2 (.cells #[.string gr,.slice ga gn gc] 135)::.blk b1 (.cells #[.string fr,.slice fa fn fc] 135)::S) w:=hw
 refine A4 ?_;refine Z7 [.blk b2 _,.blk b1 _] S [18] [[],[],[],[],[],[],[],[],[],[],[],[],[0],[0],[]] hw ?_
 refine i9 ?_;refine Z2 (v:=undef) (T':=Value) (fun t g=>g 18=t) (fun t=>.own t 3 1 ([cB fr gr,cI fn gn].map fun x=>[.int .i64 x])::S) (fun t g w Y _ hw=>L9 (rws:=[cB fr gr,cI fn gn].map fun x=>[.int .i64 x]) hw rfl rfl rfl (by simp) (by decide) fun q w' hw'=>⟨_,rfl,(fun h=>by cases h),hw'⟩) ?_
 refine j7 (φ:=fun (t:Value) g=>g 18=t) (v:=.int .i64 (z8 (cB fr gr) (cI fn gn))) (T':=Value) (fun _ _=>True) (fun t=>.own t 3 1 ([cB fr gr,cI fn gn].map fun x=>[.int .i64 x])::S) (fun t _=>[t]) (fun t g w Y ht hw=>?_) ?_ (ha:=fun t g ht=>EvL.cons ht EvL.nil)
 ·refine(Jr _ hw (O9.own (i:=0) hw rfl)).mono ?_
  rintro e w ⟨rfl,hw⟩
  refine⟨_,rfl,t,trivial,fun _=>?_,hw⟩
  unfold JQ JQ JQ;rw[NW]
 refine i9 ?_;refine y6 fun t w g _ hw=>?_
 have hw:Wd Γ (.blk b2 (.cells #[.string gr,.slice ga gn gc] 135)::.blk b1 (.cells #[.string fr,.slice fa fn fc] 135)::S) w:=hw.drop.flip
 have hcf:I1 (fr,fs) (gr,gs)=z8 (z8 (cB fr gr) (cI fn gn)) (cL cV fs gs):=by
  unfold I1;rw[l1,m1];unfold z8;by_cases e:cB fr gr=0 <;> simp[e]
 refine A4 ?_;refine A0 rfl (fun h3=>?_) (fun h3=>?_)
 ·refine A4 ?_;have h3:¬z8 (cB fr gr) (cI fn gn)=0:=by simpa using h3
  refine⟨_,rfl,C9 rfl ?_,hw.drop.drop⟩
  show _=I1 (fr,fs) (gr,gs)
  rw[hcf,Au h3]
 ·have h3:z8 (cB fr gr) (cI fn gn)=0:=by simpa using h3
  refine A4 ?_;refine PN (hp:=hC) ?_
  intro w hw;refine A4 ?_;refine⟨_,rfl,C9 rfl ?_,hw.drop.drop⟩
  show _=I1 (fr,fs) (gr,gs)
  rw[hcf,Q1 h3]⟩
end Go.Proofs.YtlimglpjpcfpdaaGreat
end
section
open Go Mk
namespace Go.Proofs.YtlimglpjpcfpdaaGreat
set_option maxHeartbeats 4000000
attribute [local irreducible] Calls cI cB
instance UU(Γ:B8)(a b:Val):PG Tryz.prog Γ 58 [.agg (enc a).toArray,.agg (enc b).toArray] (.int .i64 (cV a b)):=⟨fun S w hw=>by
 refine A3 Tryz.func58 rfl rfl ?_
 repeat first|refine B6 ?_|refine B7 ?_;intro w hw
 refine E5 ?_;intro b1 w hw;refine E5 ?_;intro b2 w hw;have hw:Wd Γ (.blk b2 (.cells (enc b).toArray 54)::.blk b1 (.cells (enc a).toArray 54)::S) w:=hw
 repeat first|refine B6 ?_|refine B7 ?_;intro w hw
 refine A0 rfl (fun h=>?_) (fun h=>?_)
 ·repeat first|refine B6 ?_|refine B7 ?_;intro w hw
  have h:¬cI a.Kind b.Kind=0:=by simpa using h
  exact⟨_,rfl,C9 rfl (by unfold cV;rw[Au h]),hw.drop.drop⟩
 have h:cI a.Kind b.Kind=0:=by simpa using h
 repeat first|refine B6 ?_|refine B7 ?_;intro w hw
 refine A0 rfl (fun h2=>?_) (fun h2=>?_)
 ·repeat first|refine B6 ?_|refine B7 ?_;intro w hw
  have h2:¬cI a.Num b.Num=0:=by simpa using h2
  exact⟨_,rfl,C9 rfl (by unfold cV;rw[Q1 h,Au h2]),hw.drop.drop⟩
 have h2:cI a.Num b.Num=0:=by simpa using h2
 repeat first|refine B6 ?_|refine B7 ?_;intro w hw
 exact⟨_,rfl,C9 rfl (by unfold cV;rw[Q1 h,Q1 h2]),hw.drop.drop⟩⟩
theorem QN{Γ:B8}{va vb:Value}{xs ys:List Val}(ha:D3 Γ va 3 (xs.map enc))(hb:D3 Γ vb 3 (ys.map enc))(hl:xs.length=ys.length) :
  PG Tryz.prog Γ 16 [va,vb] (.int .i64 (cL cV xs ys)):=⟨fun S w hw=>by
 obtain⟨a,n,c,rfl,hn,hnc,hc⟩:=ha.shape;obtain⟨a2,n2,c2,rfl,hn2,hnc2,hc2⟩:=hb.shape;simp only[List.length_map]at hn hn2
 refine A3 Tryz.func16 rfl rfl ?_
 repeat first|refine B6 ?_|refine B7 ?_;intro w hw
 refine C8 (fun μ ρ w=>∃(k:Nat),μ+k=n∧Has ρ [(0,.slice a n c),(1,.slice a2 n2 c2),(5,.int .i64 k)]∧cL cV xs ys=cL cV (xs.drop k) (ys.drop k)∧Wd Γ S w) n ⟨0,by omega,⟨rfl,rfl,rfl,trivial⟩,rfl,hw⟩ ?_
 clear hw;rintro μ ρ w ⟨k,hk,hρ,ho,hw⟩
 rw[hρ.eq];repeat first|refine B6 ?_|refine B7 ?_;intro w hw
 refine A0 rfl (fun h=>?_) (fun h=>?_)
 ·have hkn:k<n:=by simp only[Bool.and_eq_true,decide_eq_true_eq]at h;omega
  obtain⟨x,hx⟩:=C0 (l:=xs) (k:=k) (by omega)
  obtain⟨y,hy⟩:=C0 (l:=ys) (k:=k) (by omega)
  rw[K5 hx,K5 hy]at ho;have ho:cL cV xs ys=z8 (cV x y) (cL cV (xs.drop (k+1)) (ys.drop (k+1))):=ho
  have hk2:k<n2:=by omega
  repeat first|refine B6 ?_|refine B7 ?_;intro w hw
  refine L4 (by kernel_rfl) (by kernel_rfl) hw ?_
  refine Hd ?_;intro w hw;repeat first|refine B6 ?_|refine B7 ?_;intro w hw
  refine A0 rfl (fun h3=>?_) (fun h3=>?_)
  ·repeat first|refine B6 ?_|refine B7 ?_;intro w hw
   have h3:¬cV x y=0:=by simpa using h3
   exact⟨_,rfl,C9 rfl (by rw[ho,Au h3]),hw⟩
  ·repeat first|refine B6 ?_|refine B7 ?_;intro w hw
   have h3:cV x y=0:=by simpa using h3
   exact⟨μ-1,by omega,k+1,by omega,⟨rfl,rfl,rfl,trivial⟩,by rw[ho,Q1 h3],hw⟩
 ·have hkn:¬k<n:=by
   intro hh;have:k<n2:=by omega
   simp[hh,this]at h
  rw[E3 xs (by omega),E3 ys (by omega)]at ho
  repeat first|refine B6 ?_|refine B7 ?_;intro w hw
  exact⟨_,rfl,C9 rfl (by rw[ho];rfl),hw⟩⟩
end Go.Proofs.YtlimglpjpcfpdaaGreat
end
section
open Go
namespace Mk
attribute [local irreducible] Calls
section
variable {P:Program}{n:Nat}{ops:List Oper}{Γ:B8}{K:List A7}{wr tc stab:List (List Nat)}{Q:Fr→World→Prop}{i:Nat}{rest:List Oper}{ρ:Fr}{M:Nat→Fr→List A7}
variable {d:Option Tmp}{ty:TypeId}{pos:String}{es:Array Edge}{f:Nat}{args:List Operand}{tys:Array TypeId}{vs:List Value}{v:Value}
theorem Qp{S:List A7}{t:Tmp}{cap:List Value}[B5 P f](hc:∀Y w,Wd Γ (S++Y) w→Calls P f (vs++cap).toArray w fun e w'=>e=.returned v∧Wd Γ (S++Y) w')(h:Qw P n ops Γ S Q rest (C3 ρ d v))(ht:ρ t=.func (.func f) #[] cap.toArray:=by exact rfl)(ha:EvL ρ args vs:=by exact r8) :
  Qw P n ops Γ S Q (⟨d,.call { callee:=.value (.tmp t),args:=args.toArray,argTypes:=tys },ty,pos,es,none⟩::rest) ρ:=
 Ty rfl rfl (fun Y w hw=>HP ht ha.eqA (by simpa using (hc Y w hw).mono fun e w' ⟨h1,h2⟩=>⟨v,h1,rfl,h2⟩)) h
theorem O1{S:List A7}{w:World}(hw:Wd Γ S w):Wd Γ [] w:=⟨hw.os,hw.tape,hw.out,hw.dr,hw.imm,[],trivial,by simp,by simp⟩
end
end Mk
end
section
open Go Mk
namespace Go.Proofs.YtlimglpjpcfpdaaGreat
set_option maxHeartbeats 16000000
attribute [local irreducible] Calls isS
section
variable {Γ:B8}{S:List A7}{w:World}{bp:Nat}{a:Option Addr}{n c k:Nat}{e p:F1}{er:Int}{toks:List Tok}
end
end Go.Proofs.YtlimglpjpcfpdaaGreat
end
section
open Go Mk
namespace Go.Proofs.YtlimglpjpcfpdaaGreat
set_option maxHeartbeats 4000000
section
variable {α:Type}{c:α→α→Int}
structure Bh(c:α→α→Int)(db l:List α):Prop where
 asc:l.Pairwise fun a b=>c a b = -1
 mem:∀x,x∈l↔x∈db
theorem JI(h:P1 c):∀ {l k:List α},(l.Pairwise fun a b=>c a b = -1)→(k.Pairwise fun a b=>c a b = -1)→(∀x,x∈l↔x∈k)→l=k
 | [],[],_,_,_=>rfl
 | [],b::k,_,_,hm=>absurd ((hm b).2 (List.mem_cons_self)) (by simp)
 | a::l,[],_,_,hm=>absurd ((hm a).1 (List.mem_cons_self)) (by simp)
 | a::l,b::k,ha,hb,hm=>by
  have ha':=List.pairwise_cons.1 ha
  have hb':=List.pairwise_cons.1 hb
  have hab:a=b:=by
   rcases List.mem_cons.1 ((hm a).1 List.mem_cons_self) with e|e
   ·exact e
   rcases List.mem_cons.1 ((hm b).2 List.mem_cons_self) with e2|e2
   ·exact e2.symm
   have h1:=hb'.1 a e
   have h2:=ha'.1 b e2
   have:=h.trans h1 h2
   rw[h.refl]at this;exact absurd this (by decide)
  subst hab;congr 1
  refine JI h ha'.2 hb'.2 fun x=>?_
  have hne:∀ {m:List α},(∀y∈m,c a y = -1)→x∈m→x≠a:=fun hh hx e=>by
   subst e;have:=hh _ hx
   rw[h.refl]at this;exact absurd this (by decide)
  constructor
  ·intro hx;rcases List.mem_cons.1 ((hm x).1 (List.mem_cons_of_mem _ hx)) with e|e
   ·exact absurd e (hne ha'.1 hx)
   ·exact e
  ·intro hx;rcases List.mem_cons.1 ((hm x).2 (List.mem_cons_of_mem _ hx)) with e|e
   ·exact absurd e (hne hb'.1 hx)
   ·exact e
theorem Bh.uniq(h:P1 c){db l k:List α}(h1:Bh c db l)(h2:Bh c db k):l=k:=JI h h1.asc h2.asc fun x=>(h1.mem x).trans (h2.mem x).symm
def Dw(c:α→α→Int)(f:α):List α→List α
 | []=>[f]
 | x::l=>if c f x = -1 then f::x::l else if c f x=0 then x::l else x::Dw c f l
def Bn(c:α→α→Int):List α→List α
 | []=>[]
 | f::db=>Dw c f (Bn c db)
theorem Er(h:P1 c){f x:α}:∀ {l:List α},x∈Dw c f l↔x=f∨x∈l
 | []=>by simp[Dw]
 | y::l=>by
  unfold Dw;split
  ·simp
  ·split
   ·rename_i e
    have e:=h.eq0 e
    subst e;simp
   ·rw[List.mem_cons,Er h,List.mem_cons];constructor
    ·rintro (h|h|h)
     ·exact .inr (.inl h)
     ·exact .inl h
     ·exact .inr (.inr h)
    ·rintro (h|h|h)
     ·exact .inr (.inl h)
     ·exact .inl h
     ·exact .inr (.inr h)
theorem IM(h:P1 c){f:α}:∀ {l:List α},(l.Pairwise fun a b=>c a b = -1)→(Dw c f l).Pairwise fun a b=>c a b = -1
 | [],_=>by simp[Dw]
 | y::l,ha=>by
  have ha':=List.pairwise_cons.1 ha
  unfold Dw;split
  ·rename_i e
   refine List.pairwise_cons.2 ⟨fun z hz=>?_,ha⟩
   rcases List.mem_cons.1 hz with q|q
   ·rw[q];exact e
   ·exact h.trans e (ha'.1 z q)
  ·split
   ·exact ha
   ·rename_i e1 e2
    refine List.pairwise_cons.2 ⟨fun z hz=>?_,IM h ha'.2⟩
    rcases (Er h).1 hz with q|q
    ·rw[q,h.anti];rcases h.rng f y with r|r|r
     ·exact absurd r e1
     ·exact absurd r e2
     ·rw[r]
    ·exact ha'.1 z q
theorem Cj(h:P1 c):∀db:List α,Bh c db (Bn c db)
 | []=>⟨List.Pairwise.nil,fun x=>Iff.rfl⟩
 | f::db=>⟨IM h (Cj h db).asc,fun x=>by
  show x∈Dw c f (Bn c db)↔_
  rw[Er h,(Cj h db).mem,List.mem_cons]⟩
theorem Bh.eq(h:P1 c){db l:List α}(h1:Bh c db l):l=Bn c db:=h1.uniq h (Cj h db)
theorem IF(h:P1 c){db:List α}{x:α}:x∈Bn c db↔x∈db:=(Cj h db).mem x
theorem IP{f:α}:∀ {l:List α},(Dw c f l).length≤l.length+1
 | []=>by simp[Dw]
 | y::l=>by
  have:=IP (f:=f) (l:=l)
  unfold Dw;split
  ·simp
  ·split
   ·simp
   ·simp;omega
theorem Ew:∀ {db:List α},(Bn c db).length≤db.length
 | []=>by simp[Bn]
 | f::db=>by
  have:=Ew (db:=db)
  have:=IP (c:=c) (f:=f) (l:=Bn c db)
  simp only[Bn,List.length_cons];omega
theorem It(h:P1 c)(p:α→Bool)(db:List α):Bn c (db.filter p)=(Bn c db).filter p:=by
 refine(Bh.eq h (Bh.mk ((Cj h db).asc.filter _) fun x=>?_)).symm
 rw[List.mem_filter,List.mem_filter,IF h]
end
def kp{α:Type}(p:α→α→Bool):α→List α→List α
 | _,[]=>[]
 | a,b::l=>if p b a=true then kp p b l else b::kp p b l
def U4{α:Type}(p:α→α→Bool):List α→List α
 | []=>[]
 | a::l=>a::kp p a l
theorem DW{α:Type}{p:α→α→Bool}{x:α}:∀ {l:List α} {a:α},x∈kp p a l→x∈l
 | [],_,h=>h
 | b::l,a,h=>by
  unfold kp at h;split at h
  ·exact List.mem_cons_of_mem _ (DW h)
  ·rcases List.mem_cons.1 h with e|e
   ·rw[e];exact List.mem_cons_self
   ·exact List.mem_cons_of_mem _ (DW e)
theorem Ce{α:Type}{p:α→α→Bool}{x:α}{l:List α}(h:x∈U4 p l):x∈l:=by
 cases l with
 | nil=>exact h
 | cons a l=>
  rcases List.mem_cons.1 h with e|e
  ·rw[e];exact List.mem_cons_self
  ·exact List.mem_cons_of_mem _ (DW e)
theorem SZ{α:Type}{p:α→α→Bool}:∀ {l:List α} {a:α},(kp p a l).length≤l.length
 | [],_=>Nat.le_refl _
 | b::l,a=>by
  unfold kp;have:=SZ (p:=p) (l:=l) (a:=b)
  split
  ·simp;omega
  ·simp;omega
theorem Ky{α:Type}{p:α→α→Bool}{y:α}:∀(l:List α) (a:α),kp p a (l++[y])=kp p a l++(if p y (l.getLast?.getD a)=true then [] else [y])
 | [],a=>by
  show (if p y a=true then kp p y [] else y::kp p y [])=_
  rfl
 | b::l,a=>by
  have ih:=Ky (p:=p) (y:=y) l b
  have hl:((b::l).getLast?).getD a=l.getLast?.getD b:=by
   cases l with
   | nil=>rfl
   | cons x l=>simp[List.getLast?_cons_cons];rw[List.getLast?_eq_some_getLast (by simp)];rfl
  rw[hl,List.cons_append];show (if p b a=true then kp p b (l++[y]) else b::kp p b (l++[y]))=(if p b a=true then kp p b l else b::kp p b l)++_
  rw[ih];split <;> simp
theorem u2{α:Type}{p:α→α→Bool}{fs:List α}{j:Nat}{x y:α}(h0:0<j)(hy:fs[j]? = some y)(hx:fs[j-1]? = some x):U4 p (fs.take (j+1))=if p y x=true then U4 p (fs.take j) else U4 p (fs.take j)++[y]:=by
 have ht:fs.take (j+1)=fs.take j++[y]:=by rw[List.take_add_one,hy];rfl
 have hjl:=(List.getElem?_eq_some_iff.1 hy).1
 rw[ht];have hlast:(fs.take j).getLast? = some x:=by
  rw[List.getLast?_eq_getElem?,List.length_take,Nat.min_eq_left (by omega),List.getElem?_take,if_pos (by omega)]
  exact hx
 cases hl:fs.take j with
 | nil=>rw[hl]at hlast;cases hlast
 | cons a l=>
  rw[hl]at hlast;have hla:l.getLast?.getD a=x:=by
   cases l with
   | nil=>simpa using hlast
   | cons b l=>rw[List.getLast?_cons_cons]at hlast;rw[hlast];rfl
  show a::kp p a (l++[y])=_
  rw[Ky,hla];split <;> simp[U4]
section
variable {α β:Type}{c:α→α→Int}
theorem Ko(h:P1 c)(F:β→α):∀ {l:List β} {a:β},((a::l).Pairwise fun x y=>c (F y) (F x)≠-1) →
  ((kp (fun x y=>decide (c (F x) (F y)=0)) a l).map F).Pairwise (fun x y=>c x y = -1)∧(∀x∈(kp (fun x y=>decide (c (F x) (F y)=0)) a l).map F,c (F a) x = -1)∧∀x,x∈F a::(kp (fun x y=>decide (c (F x) (F y)=0)) a l).map F↔x∈F a::l.map F
 | [],a,_=>⟨List.Pairwise.nil,fun x hx=>absurd hx (by simp[kp]),fun x=>Iff.rfl⟩
 | b::l,a,hs=>by
  have hs':=List.pairwise_cons.1 hs
  obtain⟨k1,k2,k3⟩:=Ko h F hs'.2
  unfold kp;by_cases e:c (F b) (F a)=0
  ·have e2:=h.eq0 e
   rw[if_pos (decide_eq_true e)];rw[e2]at k2 k3
   refine⟨k1,k2,fun x=>?_⟩
   rw[k3 x,List.map_cons,e2];simp
  ·rw[if_neg (by simp[e])]
   have e3:c (F a) (F b) = -1:=by
    have h1:=hs'.1 b List.mem_cons_self
    rw[h.anti];rcases h.rng (F b) (F a) with r|r|r
    ·exact absurd r h1
    ·exact absurd r e
    ·rw[r]
   refine⟨?_,fun x hx=>?_,fun x=>?_⟩
   ·rw[List.map_cons];exact List.pairwise_cons.2 ⟨k2,k1⟩
   ·rw[List.map_cons]at hx;rcases List.mem_cons.1 hx with q|q
    ·rw[q];exact e3
    ·exact h.trans e3 (k2 x q)
   ·rw[List.map_cons,List.mem_cons,k3 x,List.map_cons,List.mem_cons (b:=F a)]
theorem GR(h:P1 c)(F:β→α){fs gs:List β}(hp:gs.Perm fs)(hs:gs.Pairwise fun x y=>c (F y) (F x)≠-1):(U4 (fun x y=>decide (c (F x) (F y)=0)) gs).map F=Bn c (fs.map F):=by
 refine Bh.eq h ?_
 have hm:∀x,x∈gs.map F↔x∈fs.map F:=fun x=>(hp.map F).mem_iff
 cases gs with
 | nil=>exact⟨List.Pairwise.nil,hm⟩
 | cons a l=>
  obtain⟨k1,k2,k3⟩:=Ko h F hs
  refine⟨?_,fun x=>(k3 x).trans (hm x)⟩
  show ((F a::(kp _ a l).map F)).Pairwise _
  exact List.pairwise_cons.2 ⟨k2,k1⟩
end
end Go.Proofs.YtlimglpjpcfpdaaGreat
end
section
open Go Mk
namespace Go.Proofs.YtlimglpjpcfpdaaGreat
set_option maxHeartbeats 4000000
attribute [local irreducible] Calls cI cB I1
end Go.Proofs.YtlimglpjpcfpdaaGreat
end
section
open Go Mk
namespace Go.Proofs.YtlimglpjpcfpdaaGreat
set_option maxHeartbeats 4000000
attribute [local irreducible] Calls cI cB I1
instance UP(Γ:B8)(s:ByteArray):PG Tryz.prog Γ 12 [.string s] (.agg (enc (⟨2,0,s⟩:Val)).toArray):=⟨fun S w hw=>by
 refine F8 Tryz.func12 rfl rfl ?_
 repeat first|refine B6 ?_|refine B7 ?_;intro w hw
 refine B2 ?_;intro b w hw;repeat first|refine B6 ?_|refine B7 ?_;intro w hw
 refine B0 ?_;intro w hw;have hw:Wd Γ (.blk b (.cells (enc (⟨2,0,s⟩:Val)).toArray 54)::S) w:=hw
 repeat first|refine B6 ?_|refine B7 ?_;intro w hw
 exact⟨[.agg (enc (⟨2,0,s⟩:Val)).toArray],⟨J6 (i:=0) hw rfl rfl rfl,trivial⟩,rfl,hw.drop⟩⟩
instance Uc(Γ:B8)(v:Int):PG Tryz.prog Γ 13 [.int .i64 v] (.agg (enc (⟨1,v,⟨#[]⟩⟩:Val)).toArray):=⟨fun S w hw=>by
 refine F8 Tryz.func13 rfl rfl ?_
 refine A4 ?_;refine B2 ?_;intro b w hw;refine A4 ?_;refine B0 ?_;intro w hw;have hw:Wd Γ (.blk b (.cells (enc (⟨1,v,⟨#[]⟩⟩:Val)).toArray 54)::S) w:=hw
 refine A4 ?_;exact⟨[.agg (enc (⟨1,v,⟨#[]⟩⟩:Val)).toArray],⟨J6 (i:=0) hw rfl rfl rfl,trivial⟩,rfl,hw.drop⟩⟩
end Go.Proofs.YtlimglpjpcfpdaaGreat
end
section
open Go Mk
namespace Go.Proofs.YtlimglpjpcfpdaaGreat
set_option maxHeartbeats 4000000
attribute [local irreducible] Calls cI cB I1
theorem Bt.mono{Γ Γ':B8}{f:C1}(h:Bt Γ f)(hl:Γ.le Γ'):Bt Γ' f:=D3.mono h hl
theorem Ez{Γ:B8}{S:List A7}{w:World}(fs:List C1)(v:Value)(hok:∀f∈fs,Bt Γ f)(hl:fs.length≤1000000)(hw:Wd Γ (.own v 135 2 (fs.map cF)::S) w) :
  Calls Tryz.prog 56 #[v,.func (.func 57) #[] #[]] w fun e w'=>e=.returned (.tuple #[])∧∃gs:List C1,gs.Perm fs∧(gs.Pairwise fun a b=>Go.Proofs.ltOf (fun a b:C1=>I1 a.fact b.fact) b a=false)∧Wd Γ (.own v 135 2 (gs.map cF)::S) w':=by
 have hxs:(fs.attachWith (Bt Γ) hok).map Subtype.val=fs:=List.attachWith_map_subtype_val _
 have hrows:((fs.attachWith (Bt Γ) hok).map fun a=>cF a.1)=fs.map cF:=by
  conv=>rhs;rw[←hxs]
  rw[List.map_map];rfl
 rw[←hrows]at hw;haveI:Inhabited {f:C1 // Bt Γ f}:=⟨⟨⟨⟨#[]⟩,none,0,0,[]⟩,D3.nil⟩⟩
 have:=Ep (α:={f:C1 // Bt Γ f}) (enc:=fun a=>cF a.1) QA (fun a b=>I1 a.1.fact b.1.fact) 57 [] (fs.attachWith (Bt Γ) hok) v hw (i:=0) rfl (fun _=>rfl) (fun x u hu=>(List.all_eq_true.1 (Pt x.1)) u hu) (by show TA Tryz.prog 135 2;infer_instance)
  (Nh Y4 fun a:{f:C1 // Bt Γ f}=>a.1.fact) (by simp;omega) (fun dk w' hw' x y=>by
   have h1:∀b o,Γ.imm b=some o→(d9 w').imm b=some o:=fun b o hb=>hw'.imm b o hb
   have h2:=LO (Γ:=d9 w') (f:=x.1) (g:=y.1) (D3.imm x.2 h1) (D3.imm y.2 h1)
   refine(h2.h [] w' (Cf w')).mono ?_
   rintro e w'' ⟨he,hw''⟩
   exact⟨he,[],hw''⟩)
 refine this.mono ?_
 rintro e w' ⟨he,ys,hp,hs,hw'⟩
 refine⟨he,ys.map Subtype.val,?_,?_,?_⟩
 ·have:=hp.map Subtype.val
  rwa [hxs]at this
 ·rw[List.pairwise_map];exact hs
 ·rw[List.map_map];exact hw'
end Go.Proofs.YtlimglpjpcfpdaaGreat
end
section
open Go Mk
namespace Go.Proofs.YtlimglpjpcfpdaaGreat
set_option maxHeartbeats 16000000
attribute [local irreducible] Calls I1
theorem Df{Γ:B8}{S:List A7}{w:World}{v:Value}{xs:List C1}(hr:O9 Γ S v 2 (xs.map cF))(hN:xs.length≤1000000)(hw:Wd Γ S w) :
  Calls Tryz.prog 224 #[v] w fun e w'=>∃v',e=.returned v'∧Wd Γ (.own v' 135 2 (xs.map cF)::S) w':=by
 obtain⟨a,n,c,rfl,hn,hnc,hc⟩:=hr.shape;simp only[List.length_map]at hn
 refine A3 Tryz.func224 rfl rfl ?_
 refine A4 ?_;refine A0 rfl (fun h=>?_) (fun h=>?_)
 ·refine A4 ?_;have hx:xs=[]:=by
   cases a with
   | none=>
    cases xs with
    | nil=>rfl
    | cons x xs=>have:=(hr.rd hw).at_ (by simp);cases this
   | some a=>cases h
  subst hx;exact⟨_,rfl,_,rfl,Wd.addNil hw⟩
 ·refine A4 ?_;refine D7 [] ?_
  intro a2 w hw;refine A4 ?_;refine Bp (i:=0) (rows2:=xs.map cF) ?_ ((O9.cons hr).rd hw) rfl rfl hw rfl (List.all_eq_true.2 (LV xs)) (by simpa using hn)
  intro v' w hw;refine A4 ?_;exact⟨_,rfl,v',rfl,by simpa using hw⟩
theorem KA{Γ:B8}{S:List A7}{w:World}{v:Value}{xs:List Val}(hr:D3 Γ v 3 (xs.map enc))(hN:xs.length≤1000000)(hw:Wd Γ S w) :
  Calls Tryz.prog 157 #[v] w fun e w'=>∃v',e=.returned v'∧Wd Γ (.own v' 54 3 (xs.map enc)::S) w':=by
 obtain⟨a,n,c,rfl,hn,hnc,hc⟩:=hr.shape;simp only[List.length_map]at hn
 refine A3 Tryz.func157 rfl rfl ?_
 refine A4 ?_;refine A0 rfl (fun h=>?_) (fun h=>?_)
 ·refine A4 ?_;have hx:xs=[]:=by
   cases a with
   | none=>
    cases xs with
    | nil=>rfl
    | cons x xs=>have:=(hr.rd hw).at_ (by simp);cases this
   | some a=>cases h
  subst hx;exact⟨_,rfl,_,rfl,Wd.addNil hw⟩
 ·refine A4 ?_;refine D7 [] ?_
  intro a2 w hw;refine A4 ?_;refine Bp (i:=0) (rows2:=xs.map enc) ?_ (hr.rd hw) rfl rfl hw rfl (CV xs) (by simpa using hn)
  intro v' w hw;refine A4 ?_;exact⟨_,rfl,v',rfl,by simpa using hw⟩
def BK:Value:=.func (.func 57) #[] #[]
def MV(x y:C1):Bool:=decide (I1 x.fact y.fact=0)
theorem JJ{Γ:B8}{S:List A7}{w:World}{b3:Nat}{f g:C1}(hf:Bt Γ f)(hg:Bt Γ g)(hw:Wd Γ (.blk b3 (.cells #[BK] 137)::S) w) :
  Calls Tryz.prog 226 #[.agg (cF f).toArray,.agg (cF g).toArray,.pointer (some ⟨b3,0,none⟩)] w fun e w'=>e=.returned (.bool (MV f g))∧Wd Γ (.blk b3 (.cells #[BK] 137)::S) w':=by
 have hC:=LO hf hg
 obtain⟨fr,fa,fn,fc,fs⟩:=f;obtain⟨gr,ga,gn,gc,gs⟩:=g;refine A3 Tryz.func226 rfl rfl ?_
 refine A4 ?_;refine E5 ?_;intro b1 w hw;refine E5 ?_;intro b2 w hw;have hw:Wd Γ (.blk b2 (.cells #[.string gr,.slice ga gn gc] 135)::.blk b1 (.cells #[.string fr,.slice fa fn fc] 135)::.blk b3 (.cells #[BK] 137)::S) w:=hw
 refine A4 ?_;refine Ae (fst:=[]) (cap:=[]) ?_
 refine(hC.h _ _ hw).mono ?_
 rintro e w ⟨rfl,hw⟩
 refine⟨_,rfl,?_⟩;refine A4 ?_;exact⟨_,rfl,rfl,hw.drop.drop⟩
theorem Iz{Γ:B8}{S:List A7}{w:World}{b3:Nat}{v:Value}(fs:List C1)(hok:∀f∈fs,Bt Γ f)(hl:fs.length≤1000000)(hw:Wd Γ (.own v 135 2 (fs.map cF)::.blk b3 (.cells #[BK] 137)::S) w) :
  Calls Tryz.prog 225 #[v,.func (.func 226) #[] #[.pointer (some ⟨b3,0,none⟩)]] w fun e w'=>∃v',e=.returned v'∧Wd Γ (.own v' 135 2 ((U4 MV fs).map cF)::.blk b3 (.cells #[BK] 137)::S) w':=by
 obtain⟨a,n,c,rfl,hn,hnc,hc⟩:=hw.own_shape (i:=0) rfl
 simp only[List.length_map]at hn
 refine A3 Tryz.func225 rfl rfl ?_
 refine A4 ?_;refine A0 rfl (fun h=>?_) (fun h=>?_)
 ·have h:n<2:=by have:=of_decide_eq_true h;omega
  refine A4 ?_;have hE:U4 MV fs=fs:=by
   cases fs with
   | nil=>rfl
   | cons x fs=>
    cases fs with
    | nil=>rfl
    | cons y fs=>simp at hn;omega
  rw[hE];exact⟨_,rfl,_,rfl,hw⟩
 have h:2≤n:=by have:=of_decide_eq_false h;omega
 refine A4 ?_;refine C8 (fun μ ρ w=>∃(k:Nat),μ+k=n∧1≤k∧Has ρ [(0,.slice a n c),(1,.func (.func 226) #[] #[.pointer (some ⟨b3,0,none⟩)]),(5,.int .i64 k)]∧U4 MV (fs.take k)=fs.take k∧Wd Γ (.own (.slice a n c) 135 2 (fs.map cF)::.blk b3 (.cells #[BK] 137)::S) w) (n-1) ⟨1,by omega,by omega,⟨rfl,rfl,rfl,trivial⟩,?_,hw⟩ ?_
 ·cases fs with
  | nil=>rfl
  | cons x fs=>rfl
 clear hw;rintro μ ρ w ⟨k,hk,hk1,hρ,ho,hw⟩
 rw[hρ.eq];refine A4 ?_;refine A0 rfl (fun h=>?_) (fun h=>?_)
 ·have hkn:k<n:=by have:=of_decide_eq_true h;omega
  obtain⟨y,hy⟩:=C0 (l:=fs) (k:=k) (by omega)
  obtain⟨x,hx0⟩:=C0 (l:=fs) (k:=k-1) (by omega)
  have hx:fs[((k:Int)-1).toNat]? = some x:=by rw[show ((k:Int)-1).toNat=k-1 from by omega];exact hx0
  have hfy:=hok y (List.mem_of_getElem? hy)
  have hfx:=hok x (List.mem_of_getElem? hx0)
  have hsucc:=u2 (p:=MV) (by omega) hy hx0
  refine A4 ?_;refine L4 (by kernel_rfl) (by kernel_rfl) hw ?_
  iterate 10 (first|refine Al ?_|(apply O5;first|(apply U3;first|refine qP ?_|refine OD ?_)|refine qY ?_)|(apply J0;first|(apply U3;first|refine NG ?_|refine FX ?_)|refine qG ?_))
  refine Qp (v:=.bool (MV y x)) (cap:=[.pointer (some ⟨b3,0,none⟩)]) (vs:=[.agg (cF y).toArray,.agg (cF x).toArray]) (fun Y w hw=>?_) ?_
  ·have hw:Wd Γ (.blk b3 (.cells #[BK] 137)::(.own (.slice a n c) 135 2 (fs.map cF)::S++Y)) w:=hw.ps [1]
   refine(JJ hfy hfx hw).mono ?_
   rintro e w ⟨rfl,hw⟩
   exact⟨rfl,hw.ps [1]⟩
  refine Hd ?_;intro w hw;refine A0 rfl (fun h2=>?_) (fun h2=>?_)
  ·rw[if_pos h2]at hsucc;refine A4 ?_;refine C8 (fun μ ρ w=>∃(m q:Nat) (cur:List C1),μ+(k+m)=n∧1≤m∧1≤q∧q<k+m∧Has ρ [(0,.slice a n c),(1,.func (.func 226) #[] #[.pointer (some ⟨b3,0,none⟩)]),(5,.int .i64 q),(6,.slice (m9 a k c 2) (n-k) (c-k)),(7,.int .i64 m)]∧cur.length=n∧cur.take q=U4 MV (fs.take (k+m))∧(∀i,k+m-1≤i→cur[i]? = fs[i]?)∧Wd Γ (.own (.slice a n c) 135 2 (cur.map cF)::.blk b3 (.cells #[BK] 137)::S) w) (n-(k+1)) ⟨1,k,fs,by omega,by omega,by omega,by omega,⟨rfl,rfl,rfl,rfl,rfl,trivial⟩,hn.symm,by rw[hsucc,ho],fun i _=>rfl,hw⟩ ?_
   clear hw hρ hsucc;rintro μ2 ρ w ⟨m,q,cur,hm,hm1,hq1,hq2,hρ,hcl,hcur,hsame,hw⟩
   rw[hρ.eq];refine A4 ?_;refine A0 rfl (fun h3=>?_) (fun h3=>?_)
   ·have hmn:k+m<n:=by have:=of_decide_eq_true h3;omega
    obtain⟨y2,hy2⟩:=C0 (l:=fs) (k:=k+m) (by omega)
    obtain⟨x2,hx2⟩:=C0 (l:=fs) (k:=k+m-1) (by omega)
    have hcy:(cur.drop k)[m]? = some y2:=by rw[List.getElem?_drop,hsame _ (by omega)];exact hy2
    have hcx:(cur.drop k)[((m:Int)-1).toNat]? = some x2:=by
     rw[List.getElem?_drop,hsame _ (by omega),show k+((m:Int)-1).toNat=k+m-1 from by omega];exact hx2
    have hfy2:=hok y2 (List.mem_of_getElem? hy2)
    have hfx2:=hok x2 (List.mem_of_getElem? hx2)
    have hsucc:=u2 (p:=MV) (by omega) hy2 hx2
    have hlen:n-k=((cur.drop k).map cF).length:=by simp[hcl]
    have hR2:O9 Γ (.own (.slice a n c) 135 2 (cur.map cF)::.blk b3 (.cells #[BK] 137)::S) (.slice (m9 a k c 2) (n-k) (c-k)) 2 ((cur.drop k).map cF):=⟨_,_,_,rfl,hlen,by omega,by omega,fun w hw=>by
     have:=(Wd.own_rd (i:=0) hw rfl).cut (c:=c) (by simp;omega) k (by simp;omega)
     rwa [←List.map_drop]at this⟩
    refine A4 ?_;refine L4 (by kernel_rfl) (by kernel_rfl) hw ?_
    iterate 10 (first|refine Al ?_|(apply O5;first|(apply U3;first|refine qP ?_|refine OD ?_)|refine qY ?_)|(apply J0;first|(apply U3;first|refine NG ?_|refine FX ?_)|refine qG ?_))
    refine Qp (v:=.bool (MV y2 x2)) (cap:=[.pointer (some ⟨b3,0,none⟩)]) (vs:=[.agg (cF y2).toArray,.agg (cF x2).toArray]) (fun Y w hw=>?_) ?_
    ·have hw:Wd Γ (.blk b3 (.cells #[BK] 137)::(.own (.slice a n c) 135 2 (cur.map cF)::S++Y)) w:=hw.ps [1]
     refine(JJ hfy2 hfx2 hw).mono ?_
     rintro e w ⟨rfl,hw⟩
     exact⟨rfl,hw.ps [1]⟩
    refine Hd ?_;intro w hw;refine A0 rfl (fun h4=>?_) (fun h4=>?_)
    ·have h4:MV y2 x2=false:=by simpa using h4
     rw[if_neg (by rw[h4];decide)]at hsucc
     refine A4 ?_;refine EK ?_;intro w hw;have hw:Wd Γ (.own (.slice a n c) 135 2 ((cur.map cF).set q (cF y2))::.blk b3 (.cells #[BK] 137)::S) w:=hw
     rw[←List.map_set]at hw;refine A4 ?_;refine⟨n-(k+(m+1)),by omega,m+1,q+1,cur.set q y2,by omega,by omega,by omega,by omega,⟨rfl,rfl,rfl,rfl,rfl,trivial⟩,by rw[List.length_set];exact hcl,?_,fun i hi=>?_,hw⟩
     ·rw[show k+(m+1)=k+m+1 from rfl,hsucc,←hcur,List.take_add_one,List.take_set_of_le (by omega),List.getElem?_set_self (by omega)];rfl
     ·rw[List.getElem?_set_ne (by omega)];exact hsame i (by omega)
    ·have h4:MV y2 x2=true:=by simpa using h4
     rw[if_pos h4]at hsucc;refine A4 ?_;exact⟨n-(k+(m+1)),by omega,m+1,q,cur,by omega,by omega,by omega,by omega,⟨rfl,rfl,rfl,rfl,rfl,trivial⟩,hcl,by rw[show k+(m+1)=k+m+1 from rfl,hsucc];exact hcur,fun i hi=>hsame i (by omega),hw⟩
   ·have hmn:k+m=n:=by have:=of_decide_eq_false h3;omega
    have hfn:fs.take n=fs:=List.take_of_length_le (by omega)
    rw[hmn,hfn]at hcur;have hqn:q≤n:=by omega
    have hw:=Wd.own_take (i:=0) (m:=q) hw rfl hqn
    rw[←List.map_take,hcur]at hw;have hw:Wd Γ (.own (.slice a q c) 135 2 ((U4 MV fs).map cF)::.blk b3 (.cells #[BK] 137)::S) w:=hw
    refine A4 ?_;refine HG ?_;intro w hw;refine A4 ?_;exact⟨_,rfl,_,rfl,hw⟩
  ·rw[if_neg (by rw[h2];decide)]at hsucc
   refine A4 ?_;refine⟨μ-1,by omega,k+1,by omega,by omega,⟨rfl,rfl,rfl,trivial⟩,?_,hw⟩
   rw[hsucc,ho,List.take_add_one,hy];rfl
 ·have hkn:¬k<n:=by have:=of_decide_eq_false h;omega
  rw[List.take_of_length_le (by omega)]at ho
  refine A4 ?_;rw[ho];exact⟨_,rfl,_,rfl,hw⟩
end Go.Proofs.YtlimglpjpcfpdaaGreat
end
section
open Go Mk
namespace Go.Proofs.YtlimglpjpcfpdaaGreat
set_option maxHeartbeats 16000000
attribute [local irreducible] Calls I1
def d3(v:Val):Prop:=(-9223372036854775808≤v.Num∧v.Num≤9223372036854775807)∧v.Word.size≤9223372036854775807
def AU(x:I3):Prop:=x.2.length≤100000∧x.1.size≤100000∧∀v∈x.2,d3 v
def FK(Γ:B8)(fs:List C1):Prop:=∀f∈fs,Bt Γ f∧AU f.fact
theorem FK.mono{Γ Γ':B8}{fs:List C1}(h:FK Γ fs)(hl:Γ.le Γ'):FK Γ' fs:=fun f hf=>⟨(h f hf).1.mono hl,(h f hf).2⟩
def facts(fs:List C1):List I3:=fs.map C1.fact
def BS(l:List I3):List I3:=Bn I1 l
theorem KX{Γ:B8}{S:List A7}{w:World}{v:Value}(fs:List C1)(hok:FK Γ fs)(hl:fs.length≤100000)(hr:O9 Γ S v 2 (fs.map cF))(hw:Wd Γ S w) :
  Calls Tryz.prog 156 #[v,BK] w fun e w'=>∃v' gs,e=.returned v'∧facts gs=BS (facts fs)∧FK Γ gs∧Wd Γ (.own v' 135 2 (gs.map cF)::S) w':=by
 refine A3 Tryz.func156 rfl rfl ?_
 refine A4 ?_;refine E5 ?_;intro b3 w hw;have hw:Wd Γ (.blk b3 (.cells #[BK] 137)::S) w:=hw
 refine A4 ?_;refine C5 (vs:=[v]) ?_
 refine(Df hr.cons (by omega) hw).mono ?_
 rintro e w ⟨v1,rfl,hw⟩
 refine⟨_,rfl,?_⟩;refine A4 ?_;refine C5 (vs:=[v1,BK]) ?_
 refine(Ez fs v1 (fun f hf=>(hok f hf).1) (by omega) hw).mono ?_
 rintro e w ⟨rfl,gs,hp,hs,hw⟩
 refine⟨_,rfl,?_⟩;have hokg:∀g∈gs,g∈fs:=fun g hg=>hp.mem_iff.1 hg
 have hgl:gs.length=fs.length:=hp.length_eq
 refine A4 ?_;refine C5 (vs:=[v1,.func (.func 226) #[] #[.pointer (some ⟨b3,0,none⟩)]]) ?_
 refine(Iz gs (fun g hg=>(hok g (hokg g hg)).1) (by omega) hw).mono ?_
 rintro e w ⟨v2,rfl,hw⟩
 refine⟨_,rfl,?_⟩;refine A4 ?_;refine⟨_,rfl,v2,U4 MV gs,rfl,?_,fun g hg=>hok g (hokg g (Ce hg)),hw.dropAt 1⟩
 refine GR Y4 C1.fact hp (hs.imp fun {a b} h q=>?_)
 have:Go.Proofs.ltOf I1 b.fact a.fact=true:=Y4.lt_iff.2 q
 have h:Go.Proofs.ltOf I1 b.fact a.fact=false:=h
 rw[this]at h;cases h
end Go.Proofs.YtlimglpjpcfpdaaGreat
end
section
open Go Mk
namespace Go.Proofs.YtlimglpjpcfpdaaGreat
set_option maxHeartbeats 16000000
attribute [local irreducible] Calls I1
theorem Pm(a:Int):-9223372036854775808≤IntKind.i64.wrap a∧IntKind.i64.wrap a≤9223372036854775807:=by
 rw[IntKind.wrap_i64];omega
section
variable {Γ:B8}{S:List A7}{w:World}
attribute [local irreducible] H2 Ac isS
end
end Go.Proofs.YtlimglpjpcfpdaaGreat
end
section
open Go Mk
namespace Go.Proofs.YtlimglpjpcfpdaaGreat
set_option maxHeartbeats 16000000
attribute [local irreducible] Calls I1
def Af(s:ByteArray):Bool:=(I6 s).all V1
def CO(s:ByteArray):Bool:=Af s&&decide (0<s.size)&&decide (s.size≤24)
def J1(v:Val):Bool:=(decide (v.Kind=1)&&decide (v.Word=⟨#[]⟩))||(decide (v.Kind=2)&&decide (v.Num=0)&&CO v.Word)
def w8(x:I3):Bool:=F9 x.1&&decide (1≤x.2.length)&&decide (x.2.length≤8)&&x.2.all J1
theorem IK{s:ByteArray}{i:Nat}{b:UInt8}(h:(I6 s)[i]? = some b):Z5 (A5 s i)=V1 b:=by
 have:A5 s i=(b.toNat:Int):=by
  show ((s.data.toList.getD i 0).toNat:Int)=_
  rw[List.getD_eq_getElem?_getD,show s.data.toList[i]? = some b from h];rfl
 rw[this];rfl
theorem Oz{s:ByteArray}(h:∀i,i<s.size→Z5 (A5 s i)=true):Af s=true:=by
 refine List.all_eq_true.2 fun b hb=>?_
 obtain⟨i,hi⟩:=List.mem_iff_getElem?.1 hb
 have hlt:=(List.getElem?_eq_some_iff.1 hi).1
 rw[K9]at hlt;rw[←IK hi];exact h i hlt
theorem NY{s:ByteArray}{i:Nat}(hi:i<s.size)(h:Z5 (A5 s i)=false):Af s=false:=by
 obtain⟨b,hb⟩:=C0 (l:=I6 s) (k:=i) (by rw[K9];exact hi)
 refine List.all_eq_false.2 ⟨b,List.mem_of_getElem? hb,?_⟩
 rw[←IK hb,h];decide
theorem KP(s:ByteArray)(hs:s.size≤9223372036854775807):PC Tryz.prog 273 [.string s] (.bool (CO s)):=⟨fun w=>by
 refine A3 Tryz.func273 rfl rfl ?_
 refine A4 ?_;refine C8 (fun μ ρ w'=>∃(k:Nat),μ+k=s.size∧Has ρ [(0,.string s),(3,.int .i64 k)]∧(∀i,i<k→Z5 (A5 s i)=true)∧w'=w) s.size ⟨0,by omega,⟨rfl,rfl,trivial⟩,fun i hi=>by omega,rfl⟩ ?_
 rintro μ ρ w' ⟨k,hk,hρ,hall,rfl⟩
 rw[hρ.eq];refine A4 ?_;refine A0 rfl (fun h=>?_) (fun h=>?_)
 ·have hkn:k<s.size:=by have:=of_decide_eq_true h;omega
  refine A4 ?_;refine A0 rfl (fun h2=>?_) (fun h2=>?_)
  ·refine A4 ?_;refine⟨_,rfl,G7 rfl ?_,rfl⟩
   have h3:Z5 (A5 s k)=false:=by
    have h2':(((decide (A5 s k<32)||decide (126<A5 s k))||decide (A5 s k=34))||decide (A5 s k=92))=true:=h2
    unfold Z5;simp only[Bool.or_eq_true,decide_eq_true_eq]at h2'
    simp only[Bool.and_eq_false_iff,decide_eq_false_iff_not]
    omega
   unfold CO;rw[NY hkn h3];rfl
  ·refine A4 ?_;refine⟨μ-1,by omega,k+1,by omega,⟨rfl,rfl,trivial⟩,fun i hi=>?_,rfl⟩
   by_cases e:i=k
   ·subst e;have h2':(((decide (A5 s i<32)||decide (126<A5 s i))||decide (A5 s i=34))||decide (A5 s i=92))=false:=h2
    unfold Z5;simp only[Bool.or_eq_false_iff,decide_eq_false_iff_not]at h2'
    simp only[Bool.and_eq_true,decide_eq_true_eq]
    omega
   ·exact hall i (by omega)
 ·have hkn:¬k<s.size:=by have:=of_decide_eq_false h;omega
  refine A4 ?_;refine⟨_,rfl,G7 rfl ?_,rfl⟩
  unfold CO;rw[Oz fun i hi=>hall i (by omega)]
  have e1:decide (s≠⟨#[]⟩)=decide (0<s.size):=by simp only[ne_nilB]
  rw[e1,Bool.true_and];congr 1
  rw[decide_eq_decide];omega⟩
theorem Nt{Γ:B8}{f:C1}(hf:Bt Γ f)(ho:AU f.fact):PG Tryz.prog Γ 259 [.agg (cF f).toArray] (.bool (w8 f.fact)):=⟨fun S w hw=>by
 obtain⟨l1,l2,l3⟩:=hf.len;obtain⟨o1,o2,o3⟩:=ho;have hr:=hf
 unfold Bt C1.hdr at hr;obtain⟨fr,fa,fn,fc,fs⟩:=f;simp only[C1.fact]at l1 l2 l3 o1 o2 o3 hr ⊢
 haveI:SB fr:=⟨by omega⟩
 refine A3 Tryz.func259 rfl rfl ?_
 refine A4 ?_;refine E5 ?_;intro b1 w hw;have hw:Wd Γ (.blk b1 (.cells #[.string fr,.slice fa fn fc] 135)::S) w:=hw
 refine A4 ?_;refine A0 rfl (fun h=>?_) (fun h=>?_)
 ·refine A4 ?_;refine⟨_,rfl,G7 rfl ?_,hw.drop⟩
  unfold w8;have h':((!F9 fr||decide ((fn:Int)<1))||decide (8<(fn:Int)))=true:=h
  simp only[Bool.or_eq_true,Bool.not_eq_true',decide_eq_true_eq]at h'
  symm
  rcases h' with (q|q)|q
  ·rw[q];rfl
  ·rw[show decide (1≤fs.length)=false from decide_eq_false (by omega)];simp
  ·rw[show decide (fs.length≤8)=false from decide_eq_false (by omega)];simp
 have h':((!F9 fr||decide ((fn:Int)<1))||decide (8<(fn:Int)))=false:=h
 simp only[Bool.or_eq_false_iff,Bool.not_eq_false',decide_eq_false_iff_not]at h'
 obtain⟨⟨q1,q2⟩,q3⟩:=h';have hR:w8 (fr,fs)=fs.all J1:=by
  unfold w8;rw[q1,show decide (1≤fs.length)=true from decide_eq_true (by omega),show decide (fs.length≤8)=true from decide_eq_true (by omega)];simp
 rw[hR];refine A4 ?_;refine C8 (fun μ ρ w=>∃(k:Nat),μ+k=fn∧Has ρ [(24,.slice fa fn fc),(25,.int .i64 fn),(26,.int .i64 k)]∧fs.all J1=(fs.drop k).all J1∧Wd Γ S w) fn ⟨0,by omega,⟨rfl,rfl,rfl,trivial⟩,rfl,hw.drop⟩ ?_
 clear hw;rintro μ ρ w ⟨k,hk,hρ,ho,hw⟩
 rw[hρ.eq];refine A4 ?_;refine A0 rfl (fun h2=>?_) (fun h2=>?_)
 ·have hkn:k<fn:=by have:=of_decide_eq_true h2;omega
  obtain⟨v,hv⟩:=C0 (l:=fs) (k:=k) (by omega)
  rw[K5 hv]at ho;have hvo:=o3 v (List.mem_of_getElem? hv)
  have hT:=KP v.Word hvo.2
  refine A4 ?_;refine B2 ?_;intro b4 w hw;refine B0 ?_;intro w hw;have hw:Wd Γ (.blk b4 (.cells (enc v).toArray 54)::S) w:=hw
  refine A4 ?_;refine A0 rfl (fun h3=>?_) (fun h3=>?_)
  ·refine A4 ?_;refine⟨_,rfl,G7 rfl ?_,hw.drop⟩
   have h3':(!(decide (v.Kind=1)&&decide (v.Word=⟨#[]⟩)) && !(decide (v.Kind=2)&&decide (v.Num=0)&&CO v.Word))=true:=h3
   have:J1 v=false:=by
    unfold J1;simp only[Bool.and_eq_true,Bool.not_eq_true']at h3'
    rw[h3'.1,h3'.2];rfl
   rw[ho,List.all_cons,this];rfl
  ·refine A4 ?_;refine⟨μ-1,by omega,k+1,by omega,⟨rfl,rfl,rfl,trivial⟩,?_,hw.drop⟩
   have h3':(!(decide (v.Kind=1)&&decide (v.Word=⟨#[]⟩)) && !(decide (v.Kind=2)&&decide (v.Num=0)&&CO v.Word))=false:=h3
   have:J1 v=true:=by
    unfold J1;rw[Bool.and_eq_false_iff,Bool.not_eq_false',Bool.not_eq_false']at h3';rw[Bool.or_eq_true];exact h3'
   rw[ho,List.all_cons,this];rfl
 ·refine A4 ?_;refine⟨_,rfl,G7 rfl ?_,hw⟩
  rw[ho,E3 fs (by have:=of_decide_eq_false h2;omega)];rfl⟩
end Go.Proofs.YtlimglpjpcfpdaaGreat
end
section
open Go Mk
namespace Go.Proofs.YtlimglpjpcfpdaaGreat
set_option maxHeartbeats 16000000
attribute [local irreducible] Calls I1
end Go.Proofs.YtlimglpjpcfpdaaGreat
end
section
open Go Mk
namespace Go.Proofs.YtlimglpjpcfpdaaGreat
set_option maxHeartbeats 16000000
attribute [local irreducible] Calls I1
section
variable {Γ:B8}{S:List A7}{w:World}{b:Nat}
end
end Go.Proofs.YtlimglpjpcfpdaaGreat
end
section
open Go Mk
namespace Go.Proofs.YtlimglpjpcfpdaaGreat
set_option maxHeartbeats 16000000
attribute [local irreducible] Calls I1
end Go.Proofs.YtlimglpjpcfpdaaGreat
end
section
open Go Mk
namespace Go.Proofs.YtlimglpjpcfpdaaGreat
set_option maxHeartbeats 16000000
attribute [local irreducible] Calls I1
section
variable {Γ:B8}{S:List A7}{w:World}{b:Nat}
abbrev Hv(b:Nat)(f:C1):A7:=.blk b (.cells (cF f).toArray 135)
end
end Go.Proofs.YtlimglpjpcfpdaaGreat
end
section
open Go Mk
namespace Go.Proofs.YtlimglpjpcfpdaaGreat
set_option maxHeartbeats 16000000
attribute [local irreducible] Calls I1
end Go.Proofs.YtlimglpjpcfpdaaGreat
end
section
open Go Mk
namespace Go.Proofs.YtlimglpjpcfpdaaGreat
set_option maxHeartbeats 16000000
attribute [local irreducible] Calls I1
end Go.Proofs.YtlimglpjpcfpdaaGreat
end
section
open Go
namespace Mk
attribute [local irreducible] Calls
section
variable {P:Program}{n:Nat}{ops:List Oper}{Γ:B8}{K:List A7}{wr tc stab:List (List Nat)}{Q:Fr→World→Prop}{i:Nat}{rest:List Oper}{ρ:Fr}{M:Nat→Fr→List A7}
variable {d:Option Tmp}{ty:TypeId}{pos:String}{es:Array Edge}{f:Nat}{args:List Operand}{tys:Array TypeId}
theorem OM{c:Nat}{F:Fr→List A7}(F':Fr→List A7)(vs:Fr→List Value)[B5 P f]
  (hs:∀g w Y,Wd Γ (F (D6 (stab.getD c []) g C6)++(K++Y)) w→Calls P f (vs (D6 (stab.getD c []) g C6)).toArray w fun e w'=>∃u,e=.returned u∧Wd Γ (F' (D6 (stab.getD c []) (C3 g d u) C6)++(K++Y)) w')
  (h:MSw (mV P n ops Γ K wr tc stab) Q (i+1) rest ⟨C3 ρ d undef,G9 M c F'⟩) (hM:M c=F:=by first|exact A6|exact Mw|exact y4|exact((A1 (by decide)).trans A6)|exact rfl) (hw0:wr.getD i []=[c]:=by exact rfl) (ht:tc.getD i []=[c]:=by exact rfl) (hfr:Q6 stab d=true:=by exact rfl) (ha:∀g,EvL (D6 stab.flatten g ρ) args (vs (D6 (stab.getD c []) g C6)):=by intro g;exact r8) :
  MSw (mV P n ops Γ K wr tc stab) Q i (⟨d,.call { callee:=.value (.func f),args:=args.toArray,argTypes:=tys },ty,pos,es,none⟩::rest) ⟨ρ,M⟩:=
 mS (v:=undef) F' (fun g w Y hw=>Y8 (ha g).eqA ((hs g w Y hw).mono fun e w' ⟨u,h1,h2⟩=>⟨u,h1,fun hh=>(by rw[hfr]at hh;cases hh),h2⟩)) h hM hw0 ht rfl
end
end Mk
end
section
open Go Mk
namespace Go.Proofs.YtlimglpjpcfpdaaGreat
set_option maxHeartbeats 16000000
attribute [local irreducible] Calls I1
abbrev BO(g:C1):A7:=.own g.hdr 54 3 (g.Args.map enc)
theorem GY{Γ:B8}{S:List A7}{w:World}:∀(gs:List C1),Wd Γ (gs.map BO++S) w→∃Γ',Γ.le Γ'∧(∀g∈gs,Bt Γ' g)∧Wd Γ' S w
 | [],h=>⟨Γ,B8.le.refl _,(fun g hg=>by cases hg),h⟩
 | g::gs,h=>by
  obtain⟨Γ1,l1,r1,h1⟩:=Wd.freeze (h:Wd Γ (BO g::(gs.map BO++S)) w)
  obtain⟨Γ2,l2,r2,h2⟩:=GY gs h1
  refine⟨Γ2,l1.trans l2,fun x hx=>?_,h2⟩
  rcases List.mem_cons.1 hx with e|e
  ·rw[e];exact D3.mono r1 l2
  ·exact r2 x e
def Dq(gs:List C1):Prop:=∀g∈gs,AU g.fact
theorem Ig{Γ:B8}{S:List A7}{w:World}{v:Value}(fs:List C1)(hok:FK Γ fs)(hl:fs.length≤100000)(hr:O9 Γ S v 2 (fs.map cF))(hw:Wd Γ S w) :
  Calls Tryz.prog 107 #[v] w fun e w'=>∃v' gs,e=.returned v'∧facts gs=BS (facts fs)∧Dq gs∧Wd Γ (.own v' 135 2 (gs.map cF)::(gs.map BO++S)) w':=by
 refine A3 Tryz.func107 rfl rfl ?_
 refine A4 ?_;refine C5 (vs:=[v,BK]) ?_
 refine(KX fs hok hl hr hw).mono ?_
 clear hw;rintro e w ⟨v1,gs0,rfl,hgs0,hok0,hw⟩
 refine⟨_,rfl,?_⟩;obtain⟨a,n,c,rfl,hn,hnc,hc⟩:=hw.own_shape (i:=0) rfl
 simp only[List.length_map]at hn
 refine A4 ?_;refine C8 (fun μ ρ w=>∃(gs hs:List C1),μ+gs.length=n∧gs.length+hs.length=n∧Has ρ [(3,.slice a n c),(8,.int .i64 n),(9,.int .i64 (gs.length:Nat))]∧facts (gs++hs)=BS (facts fs)∧FK Γ hs∧Dq gs∧Wd Γ (.own (.slice a n c) 135 2 ((gs++hs).map cF)::(gs.map BO++S)) w) n ⟨[],gs0,by simp,by simp[hn],⟨rfl,rfl,rfl,trivial⟩,hgs0,hok0,(fun g hg=>by cases hg),hw⟩ ?_
 clear hw hgs0 hok0 hn hok hr;rintro μ ρ w ⟨gs,hs,hk,hn,hρ,hgs,hok,hok1,hw⟩
 rw[hρ.eq];refine A4 ?_;refine A0 rfl (fun h=>?_) (fun h=>?_)
 ·have hkn:gs.length<n:=by have:=of_decide_eq_true h;omega
  cases hs with
  | nil=>simp at hn;omega
  | cons g hs=>
   have hg:(gs++g::hs)[gs.length]? = some g:=by rw[List.getElem?_append_right (Nat.le_refl _)];simp
   obtain⟨hf,hal⟩:=hok g (by simp)
   have hal1:g.Args.length≤100000:=hal.1
   have hll:(gs++g::hs).length=n:=by rw[List.length_append];exact hn
   refine A4 ?_;refine C5 (vs:=[g.hdr]) ?_
   refine(KA (S:=.own (.slice a n c) 135 2 ((gs++g::hs).map cF)::(gs.map BO++S)) hf (by omega) hw).mono ?_
   clear hw;rintro e w ⟨v2,rfl,hw⟩
   refine⟨_,rfl,?_⟩;obtain⟨a2,n2,c2,rfl,-,-,-⟩:=hw.own_shape (i:=0) rfl
   refine A4 ?_;refine Pd (i:=1) (r:=[.slice a2 n2 c2]) ?_ (B1 hg)
   intro w hw;have hw:Wd Γ (.own (.slice a2 n2 c2) 54 3 (g.Args.map enc)::.own (.slice a n c) 135 2 (((gs++g::hs).map cF).set gs.length (cF ⟨g.Rel,a2,n2,c2,g.Args⟩))::(gs.map BO++S)) w:=hw
   have e2:((gs++g::hs).map cF).set gs.length (cF ⟨g.Rel,a2,n2,c2,g.Args⟩)=((gs++[(⟨g.Rel,a2,n2,c2,g.Args⟩:C1)])++hs).map cF:=by
    rw[←List.map_set,List.set_append_right _ _ (Nat.le_refl _),Nat.sub_self,List.set_cons_zero,List.append_assoc];rfl
   rw[e2]at hw;refine A4 ?_;refine⟨μ-1,by omega,gs++[⟨g.Rel,a2,n2,c2,g.Args⟩],hs,by simp;omega,by simp at hn ⊢;omega,⟨rfl,rfl,by simp;rfl,trivial⟩,?_,fun x hx=>hok x (by simp[hx]),fun x hx=>?_,?_⟩
   ·rw[←hgs];unfold facts;simp[C1.fact]
   ·rcases List.mem_append.1 hx with q|q
    ·exact hok1 x q
    ·rw[List.mem_singleton.1 q];exact hal
   ·have e3:((gs++[(⟨g.Rel,a2,n2,c2,g.Args⟩:C1)]).map BO++S)=gs.map BO++(BO ⟨g.Rel,a2,n2,c2,g.Args⟩::S):=by simp
    rw[e3];exact hw.perm ((List.Perm.swap _ _ _).trans (List.Perm.cons _ List.perm_middle.symm))
 ·have hkn:¬gs.length<n:=by have:=of_decide_eq_false h;omega
  have hs0:hs=[]:=List.eq_nil_of_length_eq_zero (by omega)
  subst hs0;rw[List.append_nil]at hw hgs
  refine A4 ?_;exact⟨_,rfl,_,gs,rfl,hgs,hok1,hw⟩
structure RL(Γ:B8)(v:Value)(fs:List C1):Prop where
 rep:D3 Γ v 2 (fs.map cF)
 ok:FK Γ fs
theorem RL.mono{Γ Γ':B8}{v:Value}{fs:List C1}(h:RL Γ v fs)(hl:Γ.le Γ'):RL Γ' v fs:=⟨h.rep.mono hl,h.ok.mono hl⟩
theorem RL.nil{Γ:B8}:RL Γ (.slice none 0 0) []:=⟨D3.nil,fun f hf=>by cases hf⟩
theorem RL.len{Γ:B8}{v:Value}{fs:List C1}(h:RL Γ v fs):∃a c,v=.slice a fs.length c∧fs.length≤c∧c≤9223372036854775807:=by
 obtain⟨a,n,c,h1,h2,h3,h4⟩:=h.rep.shape;simp only[List.length_map]at h2
 subst h2;exact⟨a,c,h1,h3,h4⟩
theorem Kw{Γ:B8}{S:List A7}{w:World}{v:Value}{gs:List C1}(hok:Dq gs)(hw:Wd Γ (.own v 135 2 (gs.map cF)::(gs.map BO++S)) w):∃Γ',Γ.le Γ'∧RL Γ' v gs∧Wd Γ' S w:=by
 obtain⟨Γ1,l1,r1,h1⟩:=hw.freeze;obtain⟨Γ2,l2,r2,h2⟩:=GY gs h1
 exact⟨Γ2,l1.trans l2,⟨r1.mono l2,fun g hg=>⟨r2 g hg,hok g hg⟩⟩,h2⟩
def HO(l:List I3)(f:I3):List I3×Int:=if w8 f=true then (if (BS (l++[f])).length≤8192 then (BS (l++[f]),0) else ([],15)) else ([],63)
section
variable {Γ:B8}{S:List A7}{w:World}
theorem Jm{v:Value}{f:C1}(fs:List C1)(hok:FK Γ fs)(hl:fs.length≤50000)(hf:Bt Γ f)(hfo:AU f.fact)(hr:O9 Γ S v 2 (fs.map cF))(hw:Wd Γ S w) :
  Calls Tryz.prog 223 #[v,.agg (cF f).toArray] w fun e w'=>∃Γ' v' gs,Γ.le Γ'∧e=.returned (.tuple #[v',.int .i64 (HO (facts fs) f.fact).2])∧facts gs=(HO (facts fs) f.fact).1∧RL Γ' v' gs∧Wd Γ' S w':=by
 obtain⟨a,n,c,rfl,hn,hnc,hc⟩:=hr.shape;simp only[List.length_map]at hn
 have hR:=Nt hf hfo
 have hall:FK Γ (fs++[f]):=fun x hx=>by
  rcases List.mem_append.1 hx with q|q
  ·exact hok x q
  ·rw[List.mem_singleton.1 q];exact⟨hf,hfo⟩
 refine A3 Tryz.func223 rfl rfl ?_
 refine A4 ?_;refine E5 ?_;intro b w hw;have hw:Wd Γ (Hv b f::S) w:=hw
 repeat first|refine B6 ?_|refine B7 ?_;intro w hw
 refine A0 rfl (fun h=>?_) (fun h=>?_)
 ·have h:w8 f.fact=false:=by simpa using h
  have hI:HO (facts fs) f.fact=([],63):=if_neg (by rw[h];decide)
  rw[hI];refine A4 ?_;exact⟨_,rfl,Γ,_,[],B8.le.refl _,rfl,rfl,RL.nil,hw.drop⟩
 have h:w8 f.fact=true:=by simpa using h
 refine A4 ?_;refine FC 2 [[],[0],[],[1],[0],[0],[0]] [[],[0],[],[1],[0,1],[0],[0]] [[11,14,15,6],[13]] ?_
 refine i9 ?_;refine OM (c:=0) (F:=fun _=>[]) (fun g=>[.own (g 11) 135 2 (fs.map cF)]) (fun _=>[.slice a n c]) (fun g w Y hw=>?_) ?_
 ·have hR2:O9 Γ ((Hv b f::S)++Y) (.slice a n c) 2 (fs.map cF):=O9.app (O9.cons hr)
  refine(Df hR2 (by omega) hw).mono ?_
  rintro e w ⟨v1,rfl,hw⟩
  exact⟨v1,rfl,hw⟩
 refine i9 ?_;refine FW [cF f] ?_
 refine Ow (rows2:=[cF f]) ?_ (LV [f]) (hb:=by simp;omega) (h63:=by simp;omega)
 refine OM (c:=0) (F:=fun g=>[.own (g 14) 135 2 (fs.map cF++[cF f])]) (L3 (fun (t:Value×List C1) g=>g 15=t.1∧facts t.2=BS (facts fs++[f.fact])∧Dq t.2) fun t=>.own t.1 135 2 (t.2.map cF)::t.2.map BO) (fun g=>[g 14]) (fun g w Y hw=>?_) ?_
 ·have hw:Wd Γ ([.own (D6 [11,14,15,6] g C6 14) 135 2 ((fs++[f]).map cF)]++((Hv b f::S)++Y)) w:=by rw[List.map_append];exact hw
  refine(Ig (fs++[f]) hall (by simp;omega) (O9.own (i:=0) hw rfl) hw).mono ?_
  clear hw;rintro e w ⟨v1,gs,rfl,h1,h2,hw⟩
  have h1:facts gs=BS (facts fs++[f.fact]):=by rw[h1];unfold facts;rw[List.map_append];rfl
  refine⟨v1,rfl,L8 (v1,gs) ⟨rfl,h1,h2⟩ ?_⟩
  have hw:Wd Γ ((.own v1 135 2 (gs.map cF)::gs.map BO)++(.own (D6 [11,14,15,6] g C6 14) 135 2 ((fs++[f]).map cF)::((Hv b f::S)++Y))) w:=hw
  exact(hw.perm List.perm_middle).drop
 refine TQ (c:=0) (T:=Value×List C1) (φ:=fun t g=>g 15=t.1∧facts t.2=BS (facts fs++[f.fact])∧Dq t.2) (fun t=>t.1) (fun t g w Y ht _=>p8 ht.1) ?_ (hφ:=fun t g u h=>h)
 refine K3 fun w g hw=>?_
 have hw:Wd Γ ((Hv b f::S)++(L3 (fun (t:Value×List C1) g=>(g 15=t.1∧facts t.2=BS (facts fs++[f.fact])∧Dq t.2)∧g 6=t.1) (fun t=>.own t.1 135 2 (t.2.map cF)::t.2.map BO) (D6 [11,14,15,6] g C6)++([.own (g 13) 135 2 [cF f]]++[]))) w:=hw
 obtain⟨⟨v1,gs⟩,⟨⟨-,h1,h2⟩,e6⟩,hw⟩:=G3 hw.swapApp
 have e6:g 6=v1:=e6
 have h1:facts gs=BS (facts fs++[f.fact]):=h1
 have h2:Dq gs:=h2
 obtain⟨Γ1,l1,hL,hw⟩:=Kw h2 hw
 have hw5:Wd Γ1 (Hv b f::S) w:=hw.left
 have hgl:gs.length=(BS (facts fs++[f.fact])).length:=by rw[←h1];unfold facts;rw[List.length_map]
 have hL:RL Γ1 v1 gs:=hL
 obtain⟨a6,c6,rfl,k1,k2⟩:=hL.len;have hw:Wd Γ1 (Hv b f::S) w:=hw5
 refine Kz (l:=[(6,.slice a6 gs.length c6)]) ⟨e6,trivial⟩ fun ρ hρ=>?_
 rw[hρ.eq];refine A4 ?_;refine A0 rfl (fun h5=>?_) (fun h5=>?_)
 ·have h5:8192<gs.length:=by have:=of_decide_eq_true h5;omega
  have hI:HO (facts fs) f.fact=([],15):=by unfold HO;rw[if_pos h,if_neg (by omega)]
  rw[hI];refine A4 ?_;exact⟨_,rfl,Γ1,_,[],l1,rfl,rfl,RL.nil,hw.drop⟩
 ·have h5:gs.length≤8192:=by have:=of_decide_eq_false h5;omega
  have hI:HO (facts fs) f.fact=(BS (facts fs++[f.fact]),0):=by unfold HO;rw[if_pos h,if_pos (by omega)]
  rw[hI];refine A4 ?_;exact⟨_,rfl,Γ1,_,gs,l1,rfl,h1,hL,hw.drop⟩
end
end Go.Proofs.YtlimglpjpcfpdaaGreat
end
section
open Go Mk
namespace Go.Proofs.YtlimglpjpcfpdaaGreat
set_option maxHeartbeats 16000000
attribute [local irreducible] Calls I1
section
variable {Γ:B8}
end
end Go.Proofs.YtlimglpjpcfpdaaGreat
end
section
open Go Mk
namespace Go.Proofs.YtlimglpjpcfpdaaGreat
set_option maxHeartbeats 16000000
attribute [local irreducible] Calls I1
theorem MO{p:C1→Bool}{fs:List C1}{j:Nat}{x:C1}(h:fs[j]? = some x):(fs.take (j+1)).filter p=if p x=true then (fs.take j).filter p++[x] else (fs.take j).filter p:=by
 rw[List.take_add_one,h,List.filter_append];show _++[x].filter p=_
 rw[List.filter_cons];split <;> simp
section
variable {Γ:B8}{S:List A7}{w:World}{b:Nat}
end
end Go.Proofs.YtlimglpjpcfpdaaGreat
end
section
open Go Mk
namespace Go.Proofs.YtlimglpjpcfpdaaGreat
set_option maxHeartbeats 16000000
attribute [local irreducible] Calls I1
section
variable {Γ:B8}{S:List A7}{w:World}
end
end Go.Proofs.YtlimglpjpcfpdaaGreat
end
section
open Go Mk
namespace Go.Proofs.YtlimglpjpcfpdaaGreat
set_option maxHeartbeats 16000000
attribute [local irreducible] Calls I1
section
variable {Γ:B8}{S:List A7}{w:World}
end
end Go.Proofs.YtlimglpjpcfpdaaGreat
end
section
open Go Mk
namespace Go.Proofs.YtlimglpjpcfpdaaGreat
set_option maxHeartbeats 16000000
attribute [local irreducible] Calls I1
def ID(r:ByteArray)(m:Int)(x:I3):Bool:=decide (x.1=r)&&decide ((x.2.length:Int)=m)
def BP(r:ByteArray)(m:Int)(x:C1):Bool:=decide (x.Rel=r)&&decide ((x.N:Int)=m)
def MA(l:List I3)(r:ByteArray)(m:Int):List I3:=(BS l).filter (ID r m)
theorem QS{Γ:B8}{r:ByteArray}{m:Int}{x:C1}(h:Bt Γ x):BP r m x=ID r m x.fact:=by
 have:=h.len.1
 unfold BP ID;rw[this];rfl
theorem Gn{Γ:B8}{r:ByteArray}{m:Int}:∀ {fs:List C1},(∀x∈fs,Bt Γ x)→facts (fs.filter (BP r m))=(facts fs).filter (ID r m)
 | [],_=>rfl
 | x::fs,h=>by
  have ih:=Gn (r:=r) (m:=m) (fs:=fs) fun y hy=>h y (List.mem_cons_of_mem _ hy)
  show facts ((x::fs).filter (BP r m))=(x.fact::facts fs).filter (ID r m)
  rw[List.filter_cons,List.filter_cons,QS (h x List.mem_cons_self)];split
  ·show x.fact::facts _=_
   rw[ih]
  ·exact ih
section
variable {Γ:B8}{S:List A7}{w:World}
theorem KC{v:Value}{r:ByteArray}{m:Int}(fs:List C1)(hok:FK Γ fs)(hl:fs.length≤50000)(hr:D3 Γ v 2 (fs.map cF))(hw:Wd Γ S w) :
  Calls Tryz.prog 49 #[v,.string r,.int .i64 m] w fun e w'=>∃v' gs,e=.returned v'∧facts gs=MA (facts fs) r m∧Dq gs∧Wd Γ (.own v' 135 2 (gs.map cF)::(gs.map BO++S)) w':=by
 obtain⟨a,n,c,rfl,hn,hnc,hc⟩:=hr.shape;simp only[List.length_map]at hn
 refine A3 Tryz.func49 rfl rfl ?_
 refine A4 ?_;refine C8 (fun μ ρ w=>∃(k:Nat) (g:Value),μ+k=n∧Has ρ [(1,.string r),(2,.int .i64 m),(7,g),(10,.slice a n c),(11,.int .i64 n),(12,.int .i64 k)]∧Wd Γ (.own g 135 2 (((fs.take k).filter (BP r m)).map cF)::S) w) n ⟨0,.slice none 0 0,by omega,⟨rfl,rfl,rfl,rfl,rfl,rfl,trivial⟩,Wd.addNil hw⟩ ?_
 clear hw;rintro μ ρ w ⟨k,g,hk,hρ,hw⟩
 rw[hρ.eq];refine A4 ?_;refine A0 rfl (fun h=>?_) (fun h=>?_)
 ·have hkn:k<n:=by have:=of_decide_eq_true h;omega
  obtain⟨x,hx⟩:=C0 (l:=fs) (k:=k) (by omega)
  have hxo:=(hok x (List.mem_of_getElem? hx)).1
  have hsucc:=MO (p:=BP r m) hx
  have hfl:=List.length_filter_le (BP r m) (fs.take k)
  rw[List.length_take]at hfl;refine A4 ?_;refine B2 ?_;intro b9 w hw;refine B0 ?_;intro w hw;have hw:Wd Γ (Hv b9 x::.own g 135 2 (((fs.take k).filter (BP r m)).map cF)::S) w:=hw
  refine A4 ?_;refine A0 rfl (fun h3=>?_) (fun h3=>?_)
  ·have h3:BP r m x=true:=h3
   rw[if_pos h3]at hsucc;obtain⟨ag,ng,cg,rfl,hng,hngc,hcg⟩:=hw.own_shape (i:=1) rfl
   simp only[List.length_map]at hng
   refine A4 ?_;refine D7 [cF x] ?_
   intro a29 w hw;refine Bp (i:=2) (rows2:=[cF x]) ?_ (Wd.own_rd (i:=0) hw rfl)
   intro v' w hw;refine A4 ?_;have hw:Wd Γ (.own v' 135 2 (((fs.take k).filter (BP r m)).map cF++[cF x])::S) w:=hw.ds [0,0]
   rw[show ((fs.take k).filter (BP r m)).map cF++[cF x]=((fs.take (k+1)).filter (BP r m)).map cF from by rw[hsucc];simp]at hw
   exact⟨μ-1,by omega,k+1,v',by omega,⟨rfl,rfl,rfl,rfl,rfl,rfl,trivial⟩,hw⟩
  ·have h3:BP r m x=false:=h3
   rw[if_neg (by rw[h3];decide)]at hsucc
   refine A4 ?_;exact⟨μ-1,by omega,k+1,g,by omega,⟨rfl,rfl,rfl,rfl,rfl,rfl,trivial⟩,by rw[hsucc];exact hw.drop⟩
 ·have hkn:¬k<n:=by have:=of_decide_eq_false h;omega
  rw[List.take_of_length_le (show fs.length≤k by omega)]at hw
  have hfl:=List.length_filter_le (BP r m) fs
  refine A4 ?_;refine C5 (vs:=[g]) ?_
  refine(Ig (fs.filter (BP r m)) (fun x hx=>hok x (List.mem_filter.1 hx).1) (by omega) (O9.own (i:=0) hw rfl) hw).mono ?_
  clear hw;rintro e w ⟨v1,gs,rfl,h1,h2,hw⟩
  refine⟨_,rfl,?_⟩;refine A4 ?_;refine⟨_,rfl,v1,gs,rfl,?_,h2,?_⟩
  ·rw[h1,Gn (fun x hx=>(hok x hx).1)];exact It Y4 _ _
  ·have hw:Wd Γ ((.own v1 135 2 (gs.map cF)::gs.map BO)++(.own g 135 2 ((fs.filter (BP r m)).map cF)::S)) w:=hw
   exact(hw.perm List.perm_middle).drop
end
end Go.Proofs.YtlimglpjpcfpdaaGreat
end
section
open Go Mk
namespace Go.Proofs.YtlimglpjpcfpdaaGreat
set_option maxHeartbeats 4000000
structure K0 where
 Var:ByteArray
 Const:Val
 deriving DecidableEq,Inhabited
instance:EF K0 where
 enc a:=[.string a.Var,.int .i64 a.Const.Kind,.int .i64 a.Const.Num,.string a.Const.Word]
 inj a b h:=by
  obtain⟨v,k,n,x⟩:=a;obtain⟨v',k',n',x'⟩:=b;simp at h
  simp[h]
 ks:=[1,5,5,1]
 kinds a:=rfl
structure F5 where
 Kind:Int
 Rel:ByteArray
 Args:List K0
 Op:Int
 L:K0
 R:K0
 Off:Int
 Low:Int
 High:Int
structure E7 where
 Sel:List ByteArray
 Goals:List F5
structure H4 where
 g:F5
 A:Option Addr
 N:Nat
 C:Nat
def H4.hdr(x:H4):Value:=.slice x.A x.N x.C
def cG(x:H4):List Value:=
 [.int .i64 x.g.Kind,.string x.g.Rel,x.hdr,.int .i64 x.g.Op,.string x.g.L.Var,.int .i64 x.g.L.Const.Kind,.int .i64 x.g.L.Const.Num,.string x.g.L.Const.Word,
  .string x.g.R.Var,.int .i64 x.g.R.Const.Kind,.int .i64 x.g.R.Const.Num,.string x.g.R.Const.Word,.int .i64 x.g.Off,.int .i64 x.g.Low,.int .i64 x.g.High]
def LB(Γ:B8)(x:H4):Prop:=D3 Γ x.hdr 4 (x.g.Args.map enc)
theorem LB.mono{Γ Γ':B8}{x:H4}(h:LB Γ x)(hle:Γ.le Γ'):LB Γ' x:=D3.mono h hle
theorem LB.len{Γ:B8}{f:H4}(h:LB Γ f):f.N=f.g.Args.length∧f.N≤f.C∧f.C≤9223372036854775807:=by
 obtain⟨a,n,c,h1,h2,h3,h4⟩:=D3.shape h
 unfold H4.hdr at h1;cases h1
 exact⟨by simpa using h2,h3,h4⟩
abbrev A8(l:List ByteArray):List (List Value):=l.map fun s=>[.string s]
structure QR(Γ:B8)(vs vg:Value)(gs:List H4)(q:E7):Prop where
 sel:D3 Γ vs 1 (A8 q.Sel)
 goals:D3 Γ vg 15 (gs.map cG)
 eq:gs.map (·.g)=q.Goals
 ok:∀x∈gs,LB Γ x
theorem QR.mono{Γ Γ':B8}{vs vg:Value}{gs:List H4}{q:E7}(h:QR Γ vs vg gs q)(hle:Γ.le Γ'):QR Γ' vs vg gs q:=
 ⟨h.sel.mono hle,h.goals.mono hle,h.eq,fun x hx=>(h.ok x hx).mono hle⟩
def Bq(v:Int):Prop:=-9223372036854775808≤v∧v≤9223372036854775807
def Ab(o:K0):Prop:=o.Var.size≤9223372036854775807∧d3 o.Const
structure FQ(N:Nat)(g:F5):Prop where
 rel:g.Rel.size≤9223372036854775807
 len:g.Args.length≤N
 args:∀o∈g.Args,Ab o
 l:Ab g.L
 r:Ab g.R
 off:Bq g.Off
 low:Bq g.Low
 high:Bq g.High
abbrev Og:F5→Prop:=FQ 1000
structure T4(N:Nat)(q:E7):Prop where
 sel:q.Sel.length≤1000
 names:∀s∈q.Sel,s.size≤9223372036854775807
 len:q.Goals.length≤1000
 goals:∀g∈q.Goals,FQ N g
abbrev CQ:E7→Prop:=T4 1000
def N3:Val:=⟨0,0,⟨#[]⟩⟩
def d5:K0:=⟨⟨#[]⟩,N3⟩
def D8:ByteArray:=⟨#[]⟩
def I8:ByteArray:=⟨#[95]⟩
def F7(g:F5):Bool:=decide (g.Kind=1)||decide (g.Kind=2)
def H3(g:F5):List K0:=if g.Kind=1∨g.Kind=2 then g.Args else if g.Kind=3 then [g.L,g.R] else if g.Kind=4 then [g.L] else []
def j8(l:List ByteArray)(s:ByteArray):Bool:=l.any fun t=>decide (t=s)
theorem W0{l:List ByteArray}{s:ByteArray}:j8 l s=true↔s∈l:=by
 unfold j8;rw[List.any_eq_true];exact⟨fun⟨x,hx,he⟩=>by rw[←of_decide_eq_true he];exact hx,fun h=>⟨s,h,decide_eq_true rfl⟩⟩
def addN(l:List ByteArray)(s:ByteArray):List ByteArray:=if j8 l s=true then l else l++[s]
def RN(s:ByteArray):Bool:=decide (s≠D8)&&decide (s≠I8)
def Ea(q:E7):List ByteArray:=q.Sel++q.Goals.flatMap fun g=>(H3 g).map (·.Var)
def l4(q:E7):List ByteArray:=((Ea q).filter RN).foldl addN []
def y5(q:E7):Bool:=decide (1≤q.Goals.length)&&decide (q.Goals.length≤16)&&decide (q.Sel.length≤8)&&(q.Goals.all fun g=>!F7 g||(decide (1≤g.Args.length)&&decide (g.Args.length≤8)))&&decide ((l4 q).length≤8)
def N4(g:F5):Bool:=
 if g.Kind=1∨g.Kind=2 then decide (g.Op=0)&&decide (g.L=d5)&&decide (g.R=d5)&&decide (g.Off=0)&&decide (g.Low=0)&&decide (g.High=0)
 else if g.Kind=3 then decide (g.Rel=D8)&&decide (g.Args.length=0)&&decide (g.Low=0)&&decide (g.High=0)
 else if g.Kind=4 then decide (g.Rel=D8)&&decide (g.Args.length=0)&&decide (g.Op=0)&&decide (g.R=d5)&&decide (g.Off=0)&&decide (g.L.Var≠D8)
 else false
def plainO(o:K0):Bool:=decide (o.Var=D8)||decide (o.Const=N3)
def f9(q:E7):Bool:=q.Goals.all fun g=>N4 g&&(H3 g).all plainO
def Jn(s:ByteArray):Int:=A5 s 0
def T0(s:ByteArray):Bool:=F9 s&&decide (65≤Jn s)&&decide (Jn s≤90)
def Fp(s:ByteArray):Bool:=decide (s=⟨#[115,101,108,101,99,116]⟩)||decide (s=⟨#[119,104,101,114,101]⟩)||decide (s=⟨#[110,111,116]⟩)||decide (s=⟨#[105,110]⟩)
def DZ(g:F5)(o:K0):Bool:=!(decide (o.Var=D8) && !J1 o.Const) && !(decide (o.Var=I8) && !F7 g) && !(decide (o.Var≠D8)&&decide (o.Var≠I8) && !T0 o.Var)
def AK(g:F5):Bool:=!(F7 g&&(!F9 g.Rel||Fp g.Rel))&&(H3 g).all (DZ g)
def S4(q:E7):Bool:=q.Sel.all T0&&q.Goals.all AK
def AB(g:F5):Bool:=
 if g.Kind=3 then decide (1≤g.Op)&&decide (g.Op≤6)&&decide (g.Off≠-9223372036854775808)
 else if g.Kind=4 then decide (g.Low≤g.High)&&decide (g.High-g.Low≤1000000) else true
def BX(q:E7):Bool:=q.Goals.all AB
def KW(q:E7):List ByteArray:=q.Goals.flatMap fun g=>if g.Kind=1∨g.Kind=4 then (H3 g).map (·.Var) else []
def AM(q:E7):Bool:=(l4 q).all fun s=>j8 (KW q) s
def BR(q:E7):Int:=
 if y5 q=false then 15 else if f9 q=false then 50 else if S4 q=false then 63 else if BX q=false then 6 else if ¬q.Sel.Nodup then 56 else if AM q=false then 62 else 0
abbrev Env:=List (ByteArray×Val)
def MI(l r off:Int):Int:=cI l (r+off)
def Ub(op c:Int):Bool:=if op=1 then decide (c=0) else if op=2 then decide (c≠0) else if op=3 then decide (c<0) else if op=4 then decide (c≤0) else if op=5 then decide (0<c) else decide (0≤c)
def w6(g:F5)(l r:Val):Bool:=
 if g.Off=0∧g.Op=1 then decide (l=r) else if g.Off=0∧g.Op=2 then decide (l≠r)
 else if l.Kind≠1∨r.Kind≠1 then false else Ub g.Op (MI l.Num r.Num g.Off)
def W6(e:Env)(s:ByteArray):Val:=(D2 e s).getD N3
def DG(e:Env)(o:K0):Val:=if o.Var≠D8 then W6 e o.Var else o.Const
def Cz(e:Env)(o:K0)(v:Val):Bool:=
 if o.Var=I8 then true else if o.Var=D8 then decide (o.Const=v) else match D2 e o.Var with|some u=>decide (u=v)|none=>J1 v
def L6(e:Env):List K0→List Val→Bool
 | o::os,v::vs=>Cz e o v&&L6 e os vs
 | [],_=>true
 | _::_,[]=>false
def Q8(e:Env):List K0→List Val→Option Env
 | o::os,v::vs=>if o.Var=D8∨o.Var=I8 then Q8 e os vs else match D2 e o.Var with
  | some u=>if u=v then Q8 e os vs else none
  | none=>Q8 (e++[(o.Var,v)]) os vs
 | _,_=>some e
def Q9(e:Env)(gt:F5×List I3):Bool:=
 if gt.1.Kind=3 then w6 gt.1 (DG e gt.1.L) (DG e gt.1.R) else if gt.1.Kind=2 then !(gt.2.any fun f=>L6 e gt.1.Args f.2) else true
def Cm(sel:List ByteArray)(e:Env):List Val:=sel.map (W6 e)
def u3(all:List (F5×List I3))(sel:List ByteArray)(e:Env):List (List Val):=if all.all (Q9 e) then [Cm sel e] else []
def J3(f:Env→List (List Val))(e:Env)(os:List K0)(vs:List Val):List (List Val):=match Q8 e os vs with|some e'=>f e'|none=>[]
def d4(low:Int)(n:Nat):Val:=⟨1,low+n,⟨#[]⟩⟩
def u4(fin:Env→List (List Val)):List (F5×List I3)→Env→List (List Val)
 | [],e=>fin e
 | (g,t)::r,e=>
  if g.Kind=1 then t.flatMap fun f=>if L6 e g.Args f.2 then J3 (u4 fin r) e g.Args f.2 else []
  else if g.Kind=4 then match D2 e g.L.Var with
   | some v=>if v.Kind=1∧g.Low≤v.Num∧v.Num≤g.High then u4 fin r e else []
   | none=>(List.range (g.High-g.Low+1).toNat).flatMap fun n=>J3 (u4 fin r) e [g.L] [d4 g.Low n]
  else u4 fin r e
def R5(db:List I3)(g:F5):List I3:=if g.Kind=1∨g.Kind=2 then MA db g.Rel g.Args.length else []
def J2(db:List I3)(q:E7):List (F5×List I3):=q.Goals.map fun g=>(g,R5 db g)
def P9(db:List I3)(g:F5):Nat:=if g.Kind=1 then max (R5 db g).length 1 else if g.Kind=4 then (g.High-g.Low+1).toNat else 1
def M9(db:List I3)(gs:List F5):Nat:=gs.foldl (fun n g=>n*P9 db g) 1
def HC(db:List I3)(q:E7):List (List Val):=u4 (u3 (J2 db q) q.Sel) (J2 db q) []
def Uf(db:List I3)(q:E7):List (List Val):=Bn (cL cV) (HC db q)
def E1(db:List I3)(q:E7):Int:=if BR q≠0 then BR q else if 1000000<M9 db q.Goals then 15 else 0
def G1(db:List I3)(q:E7):List (List Val):=if E1 db q=0 then Uf db q else []
theorem Ak{α β:Type}{f:α→List β}{m:Nat}:∀ {l:List α},(∀x∈l,(f x).length≤m)→(l.flatMap f).length≤l.length*m
 | [],_=>by simp
 | x::l,h=>by
  rw[List.flatMap_cons,List.length_append,List.length_cons,Nat.succ_mul];have h1:=h x (by simp)
  have h2:=Ak (f:=f) (m:=m) (l:=l) fun y hy=>h y (by simp[hy])
  omega
def QC(gt:F5×List I3):Nat:=if gt.1.Kind=1 then max gt.2.length 1 else if gt.1.Kind=4 then (gt.1.High-gt.1.Low+1).toNat else 1
def AO:List (F5×List I3)→Nat
 | []=>1
 | gt::r=>QC gt*AO r
theorem Ge{f:Env→List (List Val)}{m:Nat}(h:∀e,(f e).length≤m){e:Env}{os:List K0}{vs:List Val}:(J3 f e os vs).length≤m:=by
 unfold J3;split
 ·exact h _
 ·exact Nat.zero_le _
theorem IN{fin:Env→List (List Val)}(h:∀e,(fin e).length≤1):∀(r:List (F5×List I3)),(∀gt∈r,gt.1.Kind=4→gt.1.Low≤gt.1.High)→∀e,(u4 fin r e).length≤AO r
 | [],_,e=>h e
 | (g,t)::r,hr,e=>by
  have ih:=IN h r fun gt hg=>hr gt (by simp[hg])
  have hp:AO ((g,t)::r)=QC (g,t)*AO r:=rfl
  rw[hp];unfold u4 QC;by_cases k1:g.Kind=1
  ·rw[if_pos k1,if_pos (show (g,t).1.Kind=1 from k1)];refine Nat.le_trans (Ak (m:=AO r) fun f _=>?_) (Nat.mul_le_mul_right _ (Nat.le_max_left ..))
   split
   ·exact Ge ih
   ·exact Nat.zero_le _
  rw[if_neg k1,if_neg (show ¬(g,t).1.Kind=1 from k1)];by_cases k4:g.Kind=4
  ·rw[if_pos k4,if_pos (show (g,t).1.Kind=4 from k4)];have hlh:=hr (g,t) (by simp) k4
   split
   ·split
    ·refine Nat.le_trans (ih e) ?_
     have:1≤(g.High-g.Low+1).toNat:=by
      have:g.Low≤g.High:=hlh
      omega
     exact Nat.le_trans (by omega) (Nat.mul_le_mul_right (AO r) this)
    ·exact Nat.zero_le _
   ·have:=Ak (m:=AO r) (f:=fun n=>J3 (u4 fin r) e [g.L] [d4 g.Low n]) (l:=List.range (g.High-g.Low+1).toNat) fun n _=>Ge ih
    rw[List.length_range]at this;exact this
  rw[if_neg k4,if_neg (show ¬(g,t).1.Kind=4 from k4),Nat.one_mul];exact ih e
theorem Ev{db:List I3}:∀(gs:List F5) (n:Nat),gs.foldl (fun n g=>n*P9 db g) n=n*AO (gs.map fun g=>(g,R5 db g))
 | [],n=>by simp[AO]
 | g::gs,n=>by
  rw[List.foldl_cons,Ev gs];show n*P9 db g*_=n*(QC (g,R5 db g)*AO (gs.map fun g=>(g,R5 db g)))
  rw[Nat.mul_assoc];rfl
theorem Ji{db:List I3}{q:E7}:M9 db q.Goals=AO (J2 db q):=by
 unfold M9 J2;rw[Ev,Nat.one_mul]
theorem Oe{all:List (F5×List I3)}{sel:List ByteArray}(e:Env):(u3 all sel e).length≤1:=by
 unfold u3;split <;> simp
end Go.Proofs.YtlimglpjpcfpdaaGreat
end
section
open Go
namespace Mk
attribute [local irreducible] Calls
section
variable {α β:Type}[DecidableEq α]
theorem T1(a b:α)(v:β)(l:List (α×β)):D2 ((a,v)::l) b=if a=b then some v else D2 l b:=by
 unfold D2 BY;by_cases h:a=b
 ·subst h;simp[List.findIdx?_cons]
 ·simp only[List.findIdx?_cons,decide_eq_true_eq,h,decide_false,Bool.false_eq_true,if_false]
  cases l.findIdx? (fun p=>decide (p.1=b)) <;> simp
end
section
variable {P:Program}{n:Nat}{ops:List Oper}{Γ:B8}{K:List A7}{wr tc stab:List (List Nat)}{Q:Fr→World→Prop}{i:Nat}{rest:List Oper}{ρ:Fr}{M:Nat→Fr→List A7}
variable {ty T:TypeId}{pos:String}{es:Array Edge}{x y:Operand}
end
def UO(Γ:B8)(w:World):B8:=⟨hp w,Γ.os,Γ.tape,Γ.out,Γ.dr⟩
theorem Sm{Γ:B8}{S:List A7}{w:World}(h:Wd Γ S w):Γ.le (UO Γ w):=⟨h.imm,rfl,rfl,rfl,rfl⟩
theorem TR{Γ:B8}{S:List A7}{w:World}(h:Wd Γ S w):Wd (UO Γ w) [] w:=⟨h.os,h.tape,h.out,h.dr,fun _ _ h=>h,[],trivial,by simp,by simp⟩
theorem Holds.noimm{m m' h}:∀(R:List A7) (bss:List (List Nat)),(∀r∈R,∀bs,r.holds m bs h→r.holds m' bs h)→Holds m R bss h→Holds m' R bss h
 | [],[],_,_=>trivial
 | r::R,bs::bss,hr,hh=>⟨hr r (by simp) bs hh.1,Holds.noimm R bss (fun r h=>hr r (by simp[h])) hh.2⟩
 | [],_::_,_,hh=>hh.elim
 | _::_,[],_,hh=>hh.elim
theorem NZ{Γ Γ':B8}{S R:List A7}{w w':World}(h:Wd Γ S w)(hle:(UO Γ w).le Γ')(hR:∀r∈R,∀bs,r.holds Γ'.imm bs (hp w')→r.holds Γ.imm bs (hp w'))(h':Wd Γ' R w'):Wd Γ (R++S) w':=by
 obtain⟨cs,k6,k7,k8⟩:=h'.own;have him:=h.imm
 obtain⟨h1,h2,h3,h4,h5,dss,d6,d7,d8⟩:=h;have hat:∀b∈dss.flatten,∃o,w.heap[b]? = some o:=fun b hbm=>⟨_,Array.getElem?_eq_getElem (d8 b hbm).1⟩
 have hnew:∀b∈cs.flatten,w.heap[b]? = none:=fun b hbm=>by
  cases hq:w.heap[b]? with
  | none=>rfl
  | some o=>have:=hle.imm b o hq;rw[(k8 b hbm).2]at this;cases this
 have hold:∀b∈dss.flatten,b∉cs.flatten:=fun b hbm hbs=>by
  obtain⟨o,ho⟩:=hat b hbm
  rw[hnew b hbs]at ho;cases ho
 have hkeep:∀b∈dss.flatten,w'.heap[b]? = w.heap[b]?:=fun b hbm=>by
  obtain⟨o,ho⟩:=hat b hbm
  rw[ho];exact h'.imm b o (hle.imm b o ho)
 refine⟨h'.os.trans hle.os,h'.tape.trans hle.tape,h'.out.trans hle.out,by have:=h'.dr;rw[hle.dr]at this;exact this,fun b o hb=>h'.imm b o (hle.imm b o (him b o hb)),cs++dss,Holds.append _ _ _ _ (Holds.noimm R cs hR k6) (Holds.loc (fun b o h=>h) S dss hkeep d6),?_,?_⟩
 ·rw[List.flatten_append,List.nodup_append];exact⟨k7,d7,fun a ha b hb' e=>hold b hb' (e ▸ ha)⟩
 ·intro b hbm;rw[List.flatten_append,List.mem_append]at hbm;rcases hbm with hbm|hbm
  ·refine⟨(k8 b hbm).1,?_⟩
   cases hq:Γ.imm b with
   | none=>rfl
   | some o=>have:=him b o hq;rw[hnew b hbm]at this;cases this
  ·obtain⟨o,ho⟩:=hat b hbm
   have:=hkeep b hbm
   rw[ho]at this;exact⟨(Array.getElem?_eq_some_iff.1 this).1,(d8 b hbm).2⟩
theorem Ds{α:Type}{f:α→Value}{e sz:Nat}{g:α→List (List Value)}{S:List A7}{w:World}:∀(l:List α) {Γ:B8},Wd Γ (l.map (fun x=>A7.own (f x) e sz (g x))++S) w→∃Γ',Γ.le Γ'∧(∀x∈l,D3 Γ' (f x) sz (g x))∧Wd Γ' S w
 | [],Γ,hw=>⟨Γ,.refl _,by simp,hw⟩
 | x::l,Γ,hw=>by
  obtain⟨Γ1,h1,h2,hw⟩:=Wd.freeze (S:=l.map (fun x=>A7.own (f x) e sz (g x))++S) hw
  obtain⟨Γ2,h3,h4,hw⟩:=Ds l hw
  refine⟨Γ2,h1.trans h3,fun y hy=>?_,hw⟩
  rcases List.mem_cons.1 hy with rfl|hy
  ·exact h2.mono h3
  ·exact h4 y hy
end Mk
end
section
open Go
namespace Mk
section
variable {P:Program}{Γ:B8}{S:List A7}{w:World}{E n c g i:Nat}{α:Type}[Inhabited α]{f:α→Value}
theorem GO(d:Array α):Go.Sort.flatK (fun x=>[f x]) 1 d=d.map f:=by
 refine Array.ext (by simp) fun i h1 h2=>?_
 have h3:i<d.size*1:=by simpa using h1
 rw[←getElem!_pos _ i h1,Go.Sort.get_flatK _ _ _ _ h3];have h4:i<d.size:=by omega
 have e1:i / 1=i:=Nat.div_one i
 have e2:i%1=0:=Nat.mod_one i
 rw[e1,e2,getElem!_pos d i h4];simp
theorem Cg(w:World)(g m:Nat)(dk:Array α)(os:Array Obj):Go.Proofs.sortWorld f w g 0 m dk os=Go.Proofs.sortWorldK (fun x=>[f x]) 1 w g 0 m dk os:=by
 unfold Go.Proofs.sortWorld Go.Proofs.sortWorldK Go.Sort.putRowK Go.Sort.putRow;congr 2
 funext cs
 refine Array.ext (by simp[Go.Sort.putCells]) fun i h1 h2=>?_
 simp only[Go.Sort.putCells,Array.getElem_mapIdx,GO,Array.size_map,Nat.zero_le,Nat.zero_add,true_and,Nat.sub_zero,id]
 by_cases h:i<dk.size
 ·rw[if_pos h,if_pos h,getElem!_pos dk i h,getElem!_pos (dk.map f) i (by simpa using h)];simp
 ·rw[if_neg h,if_neg h]
end
attribute [local irreducible] Calls
section
variable {P:Program}{n:Nat}{ops:List Oper}{Γ:B8}{K:List A7}{wr tc stab:List (List Nat)}{Q:Fr→World→Prop}{i:Nat}{rest:List Oper}{ρ:Fr}{M:Nat→Fr→List A7}
variable {d:Option Tmp}{ty:TypeId}{pos:String}{es:Array Edge}{f:Nat}{args:List Operand}{tys:Array TypeId}{vs:List Value}{v:Value}
variable {x y:Operand}{T:TypeId}
end
theorem KG{α:Type}{l l':List α}(h:∀(_:DecidableEq α) (a:α),l.count a=l'.count a):l.Perm l':=by
 classical
 exact List.perm_iff_count.2 fun a=>h _ a
theorem M8{l l':List A7}(h:∀(_:DecidableEq A7) (a:A7),l.count a=l'.count a:=by intro _ a;simp only[UY,PH,List.getElem?_cons_zero,List.getElem?_cons_succ,List.eraseIdx_cons_succ,List.eraseIdx_cons_zero,List.cons_append,List.nil_append,List.count_append,List.count_cons,List.count_nil,List.map_cons,List.map_nil,Nat.add_zero,Nat.zero_add];ac_rfl):l.Perm l':=KG h
end Mk
end
section
open Go
namespace Mk
theorem E8.u{want:Bool}:E8 undef want false:=by unfold E8;rfl
section
variable {P:Program}{n:Nat}{ops:List Oper}{Γ:B8}{K:List A7}{Q:Fr→World→Prop}{ρ:Fr}{rest:List Oper}{wr tc stab:List (List Nat)}{i:Nat}{M:Nat→Fr→List A7}
variable {ty:TypeId}{pos:String}{es:Array Edge}
end
section
variable {P:Program}{ρ:Fr}{w:World}{d:Option Tmp}{T U ty:TypeId}{pos:String}{es:Array Edge}{x y:Operand}{g:Option (Nat×Bool)}
end
attribute [local irreducible] Calls
section
variable {P:Program}{n:Nat}{ops:List Oper}{Γ:B8}{K:List A7}{wr tc stab:List (List Nat)}{Q:Fr→World→Prop}{i:Nat}{rest:List Oper}{ρ:Fr}{M:Nat→Fr→List A7}
variable {d:Option Tmp}{ty:TypeId}{pos:String}{es:Array Edge}{f:Nat}{args:List Operand}{tys:Array TypeId}{v:Value}
end
def NP(E sz:Nat)(L:List (Value×List (List Value))):List A7:=L.map fun p=>A7.own p.1 E sz p.2
section
variable {Γ:B8}{S:List A7}{w:World}{E sz k:Nat}{L:List (Value×List (List Value))}{p q:Value×List (List Value)}
end
section
variable {P:Program}{n:Nat}{ops:List Oper}{Γ:B8}{K:List A7}{wr tc stab:List (List Nat)}{Q:Fr→World→Prop}{i:Nat}{rest:List Oper}{ρ:Fr}{M:Nat→Fr→List A7}{T:Type}
variable {ty:TypeId}{pos:String}{es:Array Edge}
abbrev Pv:=Option Addr×Nat×Nat
def Ug(t:Pv):Value:=.slice t.1 t.2.1 t.2.2
end
abbrev Hg(P:Program)(n:Nat)(ops:List Oper)(Γ:B8)(K:List A7)(wr tc stab:List (List Nat)):O4:=⟨P,n,ops,Γ,K,wr,tc,stab,false⟩
section
variable {P:Program}{n:Nat}{ops:List Oper}{Γ:B8}{K X:List A7}{wr tc stab:List (List Nat)}{N:List Nat}{Q:Fr→World→Prop}{i:Nat}{rest:List Oper}{ρ:Fr}{w:World}{M:Nat→Fr→List A7}{v:Value}{T T':Type}{o:Oper}
theorem gY(h:MSw (Hg P n ops Γ K wr tc stab) Q (i+1) rest ⟨C3 ρ o.dst v,M⟩)(hw0:wr.getD i []=[]:=by exact rfl)(hg:o.guard=none:=by exact rfl)(ho:Ai tc stab i o.dst=true:=by exact rfl)
  (hy:∀Γ' Y w g,Γ.le Γ'→Wd Γ' (K++(D5 tc stab i M g++Y)) w→Yields P o (D6 stab.flatten g ρ) w v:=by (intro Γ' Y w g hle hw;exact If)):MSw (Hg P n ops Γ K wr tc stab) Q i (o::rest) ⟨ρ,M⟩:=by
 have hn:∀c,Mt.nxt (Hg P n ops Γ K wr tc stab) i ⟨ρ,M⟩ c=M:=fun c=>by
  funext x;simp only[Mt.nxt,O4.w,hw0];rfl
 refine⟨⟨v,M⟩,⟨fun Γ' Y w g hr hw=>?_⟩,?_⟩
 ·have hle:Γ.le Γ':=hr
  rw[hn];refine⟨fun _=>(hy Γ' Y w g hle hw).step ⟨Γ',B8.le.refl _,?_,fun _=>rfl⟩,fun hf=>?_⟩
  ·have:=Aj (g:=g) (v:=v) ho M
   show Wd Γ' (K++(D5 tc stab i M (C3 g o.dst v)++Y)) w
   rw[this];exact hw
  ·rw[M5 hg]at hf;cases hf
 ·simp only[Mt.next,hn];exact h
theorem gM{x:Nat}(m:Fr→List A7)(hs:∀Γ' Y w g,Γ.le Γ'→Wd Γ' (K++(D5 tc stab i M g++Y)) w→Step P o (D6 stab.flatten g ρ) w fun u w'=>∃Γ'',Γ'.le Γ''∧Wd Γ'' (K++(D5 tc stab i (G9 M x m) (C3 g o.dst u)++Y)) w'∧(Q6 stab o.dst=false→u=v))
  (h:MSw (Hg P n ops Γ K wr tc stab) Q (i+1) rest ⟨C3 ρ o.dst v,G9 M x m⟩) (hw0:wr.getD i []=[x]:=by exact rfl) (hg:o.guard=none:=by exact rfl):MSw (Hg P n ops Γ K wr tc stab) Q i (o::rest) ⟨ρ,M⟩:=by
 have hn:Mt.nxt (Hg P n ops Γ K wr tc stab) i ⟨ρ,M⟩ ⟨v,fun _=>m⟩=G9 M x m:=by
  funext y;simp only[Mt.nxt,O4.w,hw0];rfl
 refine⟨⟨v,fun _=>m⟩,⟨fun Γ' Y w g hr hw=>?_⟩,?_⟩
 ·have hle:Γ.le Γ':=hr
  rw[hn];refine⟨fun _=>(hs Γ' Y w g hle hw).mono fun u w' ⟨Γ'',h0,h1,h2⟩=>⟨Γ'',h0,h1,h2⟩,fun hf=>?_⟩
  rw[M5 hg]at hf;cases hf
 ·simp only[Mt.next,hn];exact h
end
section
variable {P:Program}{n:Nat}{ops:List Oper}{Γ:B8}{K:List A7}{wr tc stab:List (List Nat)}{Q:Fr→World→Prop}{i:Nat}{rest:List Oper}{ρ:Fr}{M:Nat→Fr→List A7}{v:Value}{o:Oper}
theorem Hw{id:Nat}{l:List Oper}{QQ:Exit→Fr→World→Prop}{w:World}(K:List A7)(M:List (Fr→List A7))(wr tc stab:List (List Nat))(hw:Wd Γ (K++(List.range stab.length).flatMap fun x=>(ML M) x (D6 (stab.getD x []) ρ C6)) w)
  (h:MSw (Hg P n l Γ K wr tc stab) (fun ρ w=>QQ .normal ρ w) 0 l ⟨ρ,ML M⟩) (hm:P.follows .mixedOrders=true:=by kernel_rfl) (hk:M4 n l wr tc stab=true:=by kernel_rfl):W P n (.region id l.toArray true) QQ ρ w:=
 OE K (ML M) wr tc stab false hm hk hw h
theorem gS{c:Nat}{F:Fr→List A7}(F':Fr→List A7)
  (hs:∀Γ' g w Y,Γ.le Γ'→Wd Γ' (F (D6 (stab.getD c []) g C6)++(K++Y)) w→Step P o (D6 stab.flatten g ρ) w fun u w'=>∃Γ'',Γ'.le Γ''∧(Q6 stab o.dst=false→u=v)∧Wd Γ'' (F' (D6 (stab.getD c []) (C3 g o.dst u) C6)++(K++Y)) w')
  (h:MSw (Hg P n ops Γ K wr tc stab) Q (i+1) rest ⟨C3 ρ o.dst v,G9 M c F'⟩) (hM:M c=F) (hw0:wr.getD i []=[c]) (ht:tc.getD i []=[c]) (hg:o.guard=none) :
  MSw (Hg P n ops Γ K wr tc stab) Q i (o::rest) ⟨ρ,M⟩:=by
 refine gM _ (fun Γ' Y w g hle hw=>?_) h hw0 hg
 rw[R4 ht,hM]at hw;refine(hs Γ' g w Y hle hw.swapApp).mono ?_
 rintro u w' ⟨Γ'',h0,h2,h3⟩
 refine⟨Γ'',h0,?_,h2⟩
 rw[R4 ht,A6];exact h3.swapApp
theorem gC(hy:∀Γ' Y w g,Γ.le Γ'→Wd Γ' (K++(D5 tc stab i M g++Y)) w→Step P o (D6 stab.flatten g ρ) w fun u w'=>u=v∧Wd Γ' (K++(D5 tc stab i M g++Y)) w')(hw0:wr.getD i []=[])(hg:o.guard=none)(ho:Ai tc stab i o.dst=true)
  (h:MSw (Hg P n ops Γ K wr tc stab) Q (i+1) rest ⟨C3 ρ o.dst v,M⟩):MSw (Hg P n ops Γ K wr tc stab) Q i (o::rest) ⟨ρ,M⟩:=by
 have hn:∀c,Mt.nxt (Hg P n ops Γ K wr tc stab) i ⟨ρ,M⟩ c=M:=fun c=>by
  funext x;simp only[Mt.nxt,O4.w,hw0];rfl
 refine⟨⟨v,M⟩,⟨fun Γ' Y w g hr hw=>?_⟩,?_⟩
 ·have hle:Γ.le Γ':=hr
  rw[hn];refine⟨fun _=>(hy Γ' Y w g hle hw).mono fun u w' ⟨h1,h2⟩=>⟨Γ',B8.le.refl _,?_,fun _=>h1⟩,fun hf=>?_⟩
  ·have:=Aj (g:=g) (v:=u) ho M
   show Wd Γ' (K++(D5 tc stab i M (C3 g o.dst u)++Y)) w'
   rw[this];exact h2
  ·rw[M5 hg]at hf;cases hf
 ·simp only[Mt.next,hn];exact h
theorem UD(h:∀Γ' w g,Γ.le Γ'→Wd Γ' (K++(List.range stab.length).flatMap fun x=>M x (D6 (stab.getD x []) g C6)) w→Q (D6 stab.flatten g ρ) w):MSw (Hg P n ops Γ K wr tc stab) Q i [] ⟨ρ,M⟩:=fun Γ' w g hr hw=>h Γ' w g hr hw
end
end Mk
end
section
open Go
namespace Mk
section
variable {P:Program}{Γ:B8}{S:List A7}{w:World}{E n c g i:Nat}{α:Type}[Inhabited α]{f:α→Value}
theorem Jd{ρ:Go.Shelf.Ren}(L:Go.Proofs.SlLaysF.n6 P ρ)(hf1:∀x,(f x).oneCell'=true)(cf:α→α→Int)(fn:Nat)(cap:List Value)[B5 P fn](xs:List α)(v:Value)(hw:Wd Γ S w)(hi:S[i]? = some (.own v E 1 (xs.map fun x=>[f x])))
  (hO:Go.Sort.SWO (Go.Proofs.ltOf cf)) (hlen:xs.length<4611686018427387904)
  (hcmp:∀(dk:List α) w',Wd Γ (S.set i (.own v E 1 (dk.map fun x=>[f x]))) w'→∀x y,Calls P fn (#[f x,f y]++cap.toArray) w' fun e w''=>e=.returned (.int .i64 (cf x y))∧∃S'',Wd (d9 w') S'' w'') :
  Calls P (ρ.f 6) #[v,.func (.func fn) #[] cap.toArray] w fun e w'=>e=.returned (.tuple #[])∧∃ys:List α,ys.Perm xs∧(ys.Pairwise fun a b=>Go.Proofs.ltOf cf b a=false)∧Wd Γ (S.set i (.own v E 1 (ys.map fun x=>[f x]))) w':=by
 obtain⟨a,n,c,rfl,e2,e3,e4,e5⟩:=DU hw hi
 have hn:n=xs.length:=by simpa using e2
 by_cases h0:n=0
 ·have hx:xs=[]:=List.eq_nil_of_length_eq_zero (by omega)
  subst h0;refine(Go.Proofs.AnyF.slices_SortFunc_none (P:=P) (ρ:=ρ) { L with } a c _ w).mono ?_
  rintro e w' ⟨he,rfl⟩
  refine⟨he,[],by rw[hx],List.Pairwise.nil,?_⟩
  rw[hx]at hi;have hset:S.set i (.own (.slice a 0 c) E 1 (([]:List α).map fun x=>[f x]))=S:=by
   obtain⟨hil,hie⟩:=List.getElem?_eq_some_iff.1 hi
   rw[←hie];exact List.set_getElem_self hil
  rw[hset];exact hw
 ·have hc:0<c:=by omega
  rcases e5 with e5|⟨g,cur,rfl,hg,hcur,hcs,htk⟩
  ·omega
  obtain⟨hH,hgl⟩:=Eb (enc:=fun x:α=>[f x]) (k:=1) (fun _=>rfl) hw hi hc
  have hH1:Go.Sort.Holds f w g 0 xs.toArray:=fun j hj=>by
   have:=hH j (by simpa using hj)
   rw[GO]at this;have hj:j<xs.length:=by simpa using hj
   simpa[hj] using this
  have:=Go.Proofs.Any.slices_SortFunc L f hf1 cf hO fn cap.toArray g 0 c xs.toArray w (fun args w=>M0 args) (fun m os dk hdk x y=>?_) hH1 hgl (by simpa using hlen)
  ·simp only[List.size_toArray]at this
   rw[←hn]at this;refine this.mono ?_
   rintro e w' ⟨he,d',n',os,hp,hs,rfl⟩
   have hd:d'.size=xs.length:=by have:=hp.1;simpa using this
   refine⟨he,d'.toList,by simpa using Dp (d:=xs.toArray) (by simpa[←hn] using hp),Be (m:=n) (by omega) hs,?_⟩
   rw[Cg];exact V7 (enc:=fun x:α=>[f x]) (k:=1) (fun _=>rfl) hw hi hc d' hd n' os
  ·have hw1:=V7 (enc:=fun x:α=>[f x]) (k:=1) (fun _=>rfl) hw hi hc dk (by simpa using hdk) m os
   rw[←Cg]at hw1;refine(hcmp dk.toList _ hw1 x y).mono ?_
   rintro e w'' ⟨he,S'',hw2⟩
   exact⟨he,Ga hw2⟩
end
def SL(id:Nat)(Q:List Deferred→Exit→Fr→World→Prop):List Deferred→Exit→Fr→World→Prop:=fun D=>MF id (Q D)
section
variable {P:Program}{n:Nat}{Q:List Deferred→Exit→Fr→World→Prop}{D:List Deferred}{ρ:Fr}{w:World}
theorem Pw(h:Q D .normal ρ w):WX P n .skip Q D ρ w:=fun a hd hs hf=>wp_skip ⟨hs,by rw[hd,hf];exact h⟩
theorem QY{id:Nat}(h:Q D (.exit id) ρ w):WX P n (.exit id) Q D ρ w:=fun a hd hs hf=>wp_exit ⟨hs,by rw[hd,hf];exact h⟩
theorem Nk{id:Nat}{c:Code}(h:WX P n c (SL id Q) D ρ w):WX P n (.block id c) Q D ρ w:=fun a hd hs hf=>
 wp_block (Code.wp_mono (fun e a w ⟨q,r⟩=>by
  cases e <;> first|exact⟨q,r⟩|(simp only[SL,MF]at r;simp only[Exit.inBlock];split <;> rename_i h <;> simp only[h,if_true,if_false]at r <;> exact⟨q,r⟩)) (h a hd hs hf))
theorem QJ{c:Code}(I:Nat→Fr→World→Prop)(m₀:Nat)(h0:I m₀ ρ w)
  (round:∀m ρ w,I m ρ w→WX P n c (Rr (fun D' ρ' w'=>D'=D∧∃m'<m,I m' ρ' w') Q) D ρ w):WX P n (.loop c) Q D ρ w:=fun a hd hs hf=>
 wp_loop_ghost (fun m a w=>a.defers=D∧a.tmps.size=n∧I m (C4 a) w) m₀ ⟨hd,hs,hf ▸ h0⟩ fun m a w ⟨p,q,r⟩=>
  Code.wp_mono (fun e a w ⟨q,r⟩=>by
   cases e <;> first|exact⟨q,r⟩|(obtain⟨hD,m',h1,h2⟩:=r;exact⟨m',h1,hD,q,h2⟩)) (round m _ w r a p q rfl)
theorem l6{p G:Prop}(h:G)(e:G→p:=by intro h;first|exact x5 h|exact Nk h|exact Ap h|exact Pw h|exact Pg h|exact QY h):p:=e h
end
section
variable {P:Program}
attribute [local semireducible] W
theorem JC{f:FuncId}{fn:Func}{c:Code}{args:Array Value}{u:FrameMode}{w:World}{R:Ending→World→Prop}(hf:P.funcs[f]? = some fn)(hb:fn.body=some c)
  (hn:Nat.ble args.size fn.ntmps=true) (h:W P fn.ntmps c (TH fn.results R) (S9 args) w):CallsD P f args u w fun e u' w'=>u'=u∧R e w':=by
 have hle:args.size≤fn.ntmps:=Nat.le_of_ble_eq_true hn
 refine callsD_of_wp hf hb (Code.wp_mono ?_ (h _ rfl (by simp;omega) (Et hn)))
 rintro e a w ⟨hd,hs,hq⟩
 cases e with
 | normal=>obtain⟨v,hv,hR⟩:=hq;exact⟨hd,v,L2 hv,hR⟩
 | ret=>obtain⟨v,hv,hR⟩:=hq;exact⟨hd,v,L2 hv,hR⟩
 | panic ch=>exact⟨hd,hq⟩
 | outgrown=>exact hq
 | exit id=>exact hq.elim
 | goto l=>exact hq.elim
theorem Jw{fn:Func}{tmps:Array Value}{R:Ending→World→Prop}{f:Nat}{fst cap:Array Value}{w:World}[B5 P f](h:CallsD P f (fst++cap) .returning w fun e u' w'=>u'=.returning∧(∃v,e=.returned v)∧∃v,(results fn tmps).run P w'=.ok v w'∧R (.returned v) w') :
  Leaves P fn tmps R [⟨.fn (.func f) cap,fst⟩] .returning w:=
 leaves_cons (by intro h;cases h) (M0 _) (h.mono fun e u' w' ⟨h1,⟨v,h2⟩,h3⟩=>by subst h1;subst h2;exact h3)
end
end Mk
end
section
open Go Mk
namespace Go.Proofs.YtlimglpjpcfpdaaGreat
set_option maxHeartbeats 16000000
attribute [local irreducible] Calls cI cB
theorem SA{s:ByteArray}(h:s.size≤9223372036854775807):SB s:=⟨by omega⟩
instance Rz(s:ByteArray):PC Tryz.prog 146 [.string s] (.bool (Fp s)):=⟨fun w=>by
 refine A3 Tryz.func146 rfl rfl ?_
 refine A4 ?_;exact⟨_,rfl,rfl,rfl⟩⟩
theorem Bb{s:ByteArray}(h:s.size≤9223372036854775807):PC Tryz.prog 154 [.string s] (.bool (T0 s)):=⟨fun w=>by
 haveI:=SA h
 have hs0:F9 s=true→0<s.size:=fun hn=>by
  unfold F9 W2 at hn;simp only[Bool.and_eq_true,decide_eq_true_eq]at hn
  exact hn.1.1.1
 refine A3 Tryz.func154 rfl rfl ?_
 refine A4 ?_;refine lG ?_ (hv:=fun hc=>by exact FP A9 A9 (by omega) (by have:=hs0 hc;omega))
 refine A4 ?_;refine lG ?_ (hv:=fun hc=>by exact FP A9 A9 (by omega) (by have:=hs0 (H6 hc);omega))
 refine A4 ?_;exact⟨_,rfl,rfl,rfl⟩⟩
instance Tf(Γ:B8)(x:H4):PG Tryz.prog Γ 48 [.agg (cG x).toArray] (.bool (F7 x.g)):=⟨fun S w hw=>by
 refine A3 Tryz.func48 rfl rfl ?_
 refine A4 ?_;refine E5 ?_;intro b1 w hw;have hw:Wd Γ (.blk b1 (.cells (cG x).toArray 127)::S) w:=hw
 refine A4 ?_;exact⟨_,rfl,rfl,hw.drop⟩⟩
instance Pr(Γ:B8)(a b:Val):PG Tryz.prog Γ 116 [.agg (enc a).toArray,.agg (enc b).toArray] (.int .i64 (cV a b)):=⟨fun S w hw=>by
 refine A3 Tryz.func116 rfl rfl ?_
 refine A4 ?_;refine E5 ?_;intro b1 w hw;refine E5 ?_;intro b2 w hw;have hw:Wd Γ (.blk b2 (.cells (enc b).toArray 54)::.blk b1 (.cells (enc a).toArray 54)::S) w:=hw
 refine A4 ?_;refine Z7 [.blk b2 _,.blk b1 _] S [20] [[],[],[],[],[],[],[],[],[],[],[],[],[],[],[],[0],[0],[]] hw ?_
 refine i9 ?_;refine Z2 (v:=undef) (T':=Value) (fun t g=>g 20=t) (fun t=>.own t 3 1 ([cI a.Kind b.Kind,cI a.Num b.Num,cB a.Word b.Word].map fun x=>[.int .i64 x])::S) (fun t g w Y _ hw=>L9 (rws:=[cI a.Kind b.Kind,cI a.Num b.Num,cB a.Word b.Word].map fun x=>[.int .i64 x]) hw rfl rfl rfl (by simp) (by decide) fun q w' hw'=>⟨_,rfl,(fun h=>by cases h),hw'⟩) ?_
 refine j7 (φ:=fun (t:Value) g=>g 20=t) (v:=.int .i64 (cV a b)) (T':=Value) (fun _ _=>True) (fun t=>.own t 3 1 ([cI a.Kind b.Kind,cI a.Num b.Num,cB a.Word b.Word].map fun x=>[.int .i64 x])::S) (fun t _=>[t]) (fun t g w Y ht hw=>?_) ?_ (ha:=fun t g ht=>EvL.cons ht EvL.nil)
 ·refine(Jr _ hw (O9.own (i:=0) hw rfl)).mono ?_
  rintro e w ⟨rfl,hw⟩
  refine⟨_,rfl,t,trivial,fun _=>?_,hw⟩
  unfold cV JQ JQ JQ JQ;rw[NW]
 refine i9 ?_;refine y6 fun t w g _ hw=>?_
 refine A4 ?_;exact⟨_,rfl,rfl,hw.drop.left⟩⟩
theorem Fo{Γ:B8}{q:Nat}[B5 Tryz.prog q](hq:∀a b:Val,PG Tryz.prog Γ q [.agg (enc a).toArray,.agg (enc b).toArray] (.int .i64 (cV a b))){va vb:Value}{xs ys:List Val}(ha:D3 Γ va 3 (xs.map enc))(hb:D3 Γ vb 3 (ys.map enc)) :
  PG Tryz.prog Γ 115 [va,vb,.func (.func q) #[] #[]] (.int .i64 (cL cV xs ys)):=⟨fun S w hw=>by
 obtain⟨a,n,c,rfl,hn,hnc,hc⟩:=ha.shape;obtain⟨a2,n2,c2,rfl,hn2,hnc2,hc2⟩:=hb.shape;simp only[List.length_map]at hn hn2
 refine A3 Tryz.func115 rfl rfl ?_
 refine A4 ?_;refine C8 (fun μ ρ w=>∃(k:Nat),μ+k=n∧Has ρ [(0,.slice a n c),(1,.slice a2 n2 c2),(2,.func (.func q) #[] #[]),(11,.slice a n c),(12,.int .i64 n),(13,.int .i64 k)]∧cL cV xs ys=cL cV (xs.drop k) (ys.drop k)∧Wd Γ S w) n ⟨0,by omega,⟨rfl,rfl,rfl,rfl,rfl,rfl,trivial⟩,rfl,hw⟩ ?_
 clear hw;rintro μ ρ w ⟨k,hk,hρ,ho,hw⟩
 rw[hρ.eq];refine A4 ?_;refine A0 rfl (fun h=>?_) (fun h=>?_)
 ·have hkn:k<n:=by simpa using h
  obtain⟨x,hx⟩:=C0 (l:=xs) (k:=k) (by omega)
  have hd:xs.drop k=x::xs.drop (k+1):=K5 hx
  rw[hd]at ho;refine A4 ?_;refine B2 ?_;intro b8 w hw;refine A4 ?_;refine B0 ?_;intro w hw;have hw:Wd Γ (.blk b8 (.cells (enc x).toArray 54)::S) w:=hw
  refine A4 ?_;refine A0 rfl (fun h2=>?_) (fun h2=>?_)
  ·refine A4 ?_;have h2:n2≤k:=by simpa using h2
   refine⟨_,rfl,C9 rfl ?_,hw.drop⟩
   rw[ho,E3 ys (by omega)];rfl
  ·have h2:k<n2:=by simpa using h2
   obtain⟨y,hy⟩:=C0 (l:=ys) (k:=k) (by omega)
   rw[K5 hy]at ho;have ho:cL cV xs ys=z8 (cV x y) (cL cV (xs.drop (k+1)) (ys.drop (k+1))):=ho
   refine A4 ?_;refine B2 ?_;intro b9 w hw;refine B0 ?_;intro w hw;have hw:Wd Γ (.blk b9 (.cells (enc y).toArray 54)::.blk b8 (.cells (enc x).toArray 54)::S) w:=hw
   refine A4 ?_;refine Ae (fst:=[]) (cap:=[]) ?_
   refine((hq x y).h _ _ hw).mono ?_
   rintro e w ⟨rfl,hw⟩
   refine⟨_,rfl,?_⟩;refine A4 ?_;refine A0 rfl (fun h3=>?_) (fun h3=>?_)
   ·refine A4 ?_;have h3:¬cV x y=0:=by simpa using h3
    refine⟨_,rfl,C9 rfl ?_,hw.drop.drop⟩
    rw[ho,Au h3]
   ·refine A4 ?_;have h3:cV x y=0:=by simpa using h3
    refine⟨μ-1,by omega,k+1,by omega,⟨rfl,rfl,rfl,rfl,rfl,rfl,trivial⟩,?_,hw.drop.drop⟩
    rw[ho,Q1 h3]
 ·have hkn:¬k<n:=by simpa using h
  rw[E3 xs (by omega)]at ho
  refine A4 ?_;refine A0 rfl (fun h2=>?_) (fun h2=>?_)
  ·refine A4 ?_;have h2:n<n2:=by simpa using h2
   obtain⟨y,hy⟩:=C0 (l:=ys) (k:=k) (by omega)
   rw[K5 hy]at ho;exact⟨_,rfl,C9 rfl (by rw[ho];rfl),hw⟩
  ·refine A4 ?_;have h2:¬n<n2:=by simpa using h2
   rw[E3 ys (by omega)]at ho
   exact⟨_,rfl,C9 rfl (by rw[ho];rfl),hw⟩⟩
theorem LM{Γ:B8}{va vb:Value}{xs ys:List Val}(ha:D3 Γ va 3 (xs.map enc))(hb:D3 Γ vb 3 (ys.map enc)):PG Tryz.prog Γ 52 [va,vb] (.int .i64 (cL cV xs ys)):=⟨fun S w hw=>by
 have hC:=Fo (q:=116) (fun a b=>Pr Γ a b) ha hb
 obtain⟨a,n,c,rfl,hn,hnc,hc⟩:=ha.shape;obtain⟨a2,n2,c2,rfl,hn2,hnc2,hc2⟩:=hb.shape;refine A3 Tryz.func52 rfl rfl ?_
 repeat first|refine B6 ?_|refine B7 ?_;intro w hw
 exact⟨_,rfl,rfl,hw⟩⟩
theorem FJ{Γ:B8}{va vb:Value}{xs ys:List Val}(ha:D3 Γ va 3 (xs.map enc))(hb:D3 Γ vb 3 (ys.map enc)):PG Tryz.prog Γ 53 [va,vb] (.bool (decide (cL cV xs ys=0))):=⟨fun S w hw=>by
 have hC:=LM ha hb
 obtain⟨a,n,c,rfl,hn,hnc,hc⟩:=ha.shape;obtain⟨a2,n2,c2,rfl,hn2,hnc2,hc2⟩:=hb.shape;refine A3 Tryz.func53 rfl rfl ?_
 repeat first|refine B6 ?_|refine B7 ?_;intro w hw
 exact⟨_,rfl,rfl,hw⟩⟩
theorem Fw(l r off:Int)(hl:Bq l)(hr:Bq r)(ho:Bq off):PC Tryz.prog 227 [.int .i64 l,.int .i64 r,.int .i64 off] (.int .i64 (MI l r off)):=⟨fun w=>by
 have hwr:=Pm (r+off)
 have hmod:IntKind.i64.wrap (r+off)=r+off∨(9223372036854775807<r+off∧IntKind.i64.wrap (r+off)=r+off-18446744073709551616)∨(r+off < -9223372036854775808∧IntKind.i64.wrap (r+off)=r+off+18446744073709551616):=by
  unfold Bq at *
  simp only[IntKind.wrap,IntKind.bits,IntKind.signed]
  simp
  split <;> omega
 obtain⟨s,hs⟩:∃s,s=IntKind.i64.wrap (r+off):=⟨_,rfl⟩
 refine A3 Tryz.func227 rfl rfl ?_
 first|refine B6 ?_|(refine B7 ?_;intro w hw)
 first|refine B6 ?_|(refine B7 ?_;intro w hw)
 first|refine B6 ?_|(refine B7 ?_;intro w hw)
 first|refine B6 ?_|(refine B7 ?_;intro w hw)
 first|refine B6 ?_|(refine B7 ?_;intro w hw)
 first|refine B6 ?_|(refine B7 ?_;intro w hw)
 first|refine B6 ?_|(refine B7 ?_;intro w hw)
 first|refine B6 ?_|(refine B7 ?_;intro w hw)
 refine lY (v:=.int .i64 s) ?_ (hy:=by rw[hs];exact LP rfl rfl)
 rw[←hs]at hmod hwr
 clear hs;unfold Bq at hl hr ho;refine A4 ?_;refine A0 rfl (fun h=>?_) (fun h=>?_)
 ·refine A4 ?_;simp only[Bool.and_eq_true,decide_eq_true_eq]at h
  refine⟨_,rfl,C9 rfl ?_,rfl⟩
  unfold MI cI;rw[if_pos (by omega)]
 refine A4 ?_;refine A0 rfl (fun h2=>?_) (fun h2=>?_)
 ·refine A4 ?_;simp only[Bool.and_eq_true,decide_eq_true_eq]at h2
  refine⟨_,rfl,C9 rfl ?_,rfl⟩
  unfold MI cI;rw[if_neg (by omega),if_pos (by omega)]
 have hsum:s=r+off:=by
  simp only[Bool.and_eq_false_iff,decide_eq_false_iff_not]at h h2
  omega
 refine A4 ?_;exact⟨_,rfl,C9 rfl (by rw[hsum];rfl),rfl⟩⟩
end Go.Proofs.YtlimglpjpcfpdaaGreat
end
section
open Go Mk
namespace Go.Proofs.YtlimglpjpcfpdaaGreat
set_option maxHeartbeats 16000000
attribute [local irreducible] Calls cI cB
theorem r9{Γ:B8}{f:Nat}{args:List Value}{v:Value}(h:∀(Γ1:B8) (w:World),Γ.le Γ1→Wd Γ1 [] w→Calls Tryz.prog f args.toArray w fun e w'=>∃Γ2,Γ1.le Γ2∧e=.returned v∧Wd Γ2 [] w'):PG Tryz.prog Γ f args v:=
 ⟨fun S w hw=>(h (UO Γ w) w (Sm hw) (TR hw)).mono fun e w' ⟨Γ2,hle,he,hw'⟩=>⟨he,NZ (R:=[]) hw hle (by simp) hw'⟩⟩
theorem o4{N:Nat}{g:F5}(h:FQ N g)(hN:N≤9223372036854775807):(H3 g).length≤9223372036854775807:=by
 unfold H3;have:=h.len
 split
 ·omega
 split
 ·simp
 split <;> simp
theorem Qn{N:Nat}{g:F5}(h:FQ N g):∀o∈H3 g,Ab o:=by
 unfold H3;intro o ho;split at ho
 ·exact h.args o ho
 split at ho
 ·simp only[List.mem_cons,List.not_mem_nil,or_false]at ho
  rcases ho with rfl|rfl
  ·exact h.l
  ·exact h.r
 split at ho
 ·simp only[List.mem_cons,List.not_mem_nil,or_false]at ho
  rw[ho];exact h.l
 ·cases ho
section
variable {Γ:B8}{S:List A7}{w:World}
theorem U1{x:H4}(hx:LB Γ x)(hw:Wd Γ S w) :
  Calls Tryz.prog 153 #[.agg (cG x).toArray] w fun e w'=>∃Γ' v,Γ.le Γ'∧e=.returned v∧D3 Γ' v 4 ((H3 x.g).map enc)∧Wd Γ' S w':=by
 obtain⟨l1,l2,l3⟩:=hx.len;obtain⟨g,A,N,C⟩:=x;simp only at l1 l2 l3
 refine A3 Tryz.func153 rfl rfl ?_
 refine A4 ?_;refine E5 ?_;intro b1 w hw;have hw:Wd Γ (.blk b1 (.cells (cG ⟨g,A,N,C⟩).toArray 127)::S) w:=hw
 refine A4 ?_;refine A0 rfl (fun h=>?_) (fun h=>?_)
 ·have hk:g.Kind=1:=of_decide_eq_true h
  refine A4 ?_;refine E6 (congrArg Value.bool h) ?_
  refine A4 ?_;refine⟨_,rfl,Γ,_,B8.le.refl _,rfl,?_,hw.drop⟩
  unfold H3;rw[if_pos (Or.inl hk)];exact hx
 have hk1:¬g.Kind=1:=of_decide_eq_false h
 refine A4 ?_;refine A0 rfl (fun h=>?_) (fun h=>?_)
 ·have hk:g.Kind=2:=of_decide_eq_true h
  refine A4 ?_;refine⟨_,rfl,Γ,_,B8.le.refl _,rfl,?_,hw.drop⟩
  unfold H3;rw[if_pos (Or.inr hk)];exact hx
 have hk2:¬g.Kind=2:=of_decide_eq_false h
 refine A4 ?_;refine A0 rfl (fun h=>?_) (fun h=>?_)
 ·have hk:g.Kind=3:=of_decide_eq_true h
  refine A4 ?_;refine D7 [enc g.L,enc g.R] ?_
  intro q w hw;obtain⟨Γ',hle,hr,hw⟩:=hw.freeze;refine A4 ?_;refine⟨_,rfl,Γ',_,hle,rfl,?_,hw.drop⟩
  unfold H3;rw[if_neg (fun e=>e.elim hk1 hk2),if_pos hk];exact hr
 have hk3:¬g.Kind=3:=of_decide_eq_false h
 refine A4 ?_;refine A0 rfl (fun h=>?_) (fun h=>?_)
 ·have hk:g.Kind=4:=of_decide_eq_true h
  refine A4 ?_;refine D7 [enc g.L] ?_
  intro q w hw;obtain⟨Γ',hle,hr,hw⟩:=hw.freeze;refine A4 ?_;refine⟨_,rfl,Γ',_,hle,rfl,?_,hw.drop⟩
  unfold H3;rw[if_neg (fun e=>e.elim hk1 hk2),if_neg hk3,if_pos hk];exact hr
 have hk4:¬g.Kind=4:=of_decide_eq_false h
 refine A4 ?_;refine⟨_,rfl,Γ,_,B8.le.refl _,rfl,?_,hw.drop⟩
 unfold H3;rw[if_neg (fun e=>e.elim hk1 hk2),if_neg hk3,if_neg hk4];exact D3.nil
end
theorem Kb{v:Val}:decide ((HO [] (⟨#[118]⟩,[v])).2=0)=J1 v:=by
 have hn:F9 ⟨#[118]⟩=true:=by decide +kernel
 have hr:w8 (⟨#[118]⟩,[v])=J1 v:=by
  unfold w8;simp only[hn,List.length_singleton,List.all_cons,List.all_nil,Bool.and_true]
  simp
 unfold HO;rw[hr];cases h:J1 v with
 | true=>
  rw[if_pos rfl,if_pos]
  ·rfl
  ·have:(BS ([]++[((⟨#[118]⟩:ByteArray),[v])])).length≤([]++[((⟨#[118]⟩:ByteArray),[v])]).length:=Ew
   exact Nat.le_trans this (by simp)
 | false=>
  rw[if_neg (by simp)];rfl
theorem BU{Γ:B8}{v:Val}(hv:d3 v):PG Tryz.prog Γ 155 [.agg (enc v).toArray] (.bool (J1 v)):=r9 fun Γ w _ hw=>by
 refine A3 Tryz.func155 rfl rfl ?_
 refine A4 ?_;refine E5 ?_;intro b1 w hw;have hw:Wd Γ [.blk b1 (.cells (enc v).toArray 54)] w:=hw
 refine A4 ?_;refine D7 [enc v] ?_
 intro q w hw;obtain⟨Γ1,hle1,hr,hw⟩:=hw.freeze;refine A4 ?_;refine C5 (vs:=[.slice none 0 0,.agg (cF ⟨⟨#[118]⟩,some q,1,1,[v]⟩).toArray]) ((Jm (Γ:=Γ1) (f:=⟨⟨#[118]⟩,some q,1,1,[v]⟩) [] (fun f hf=>by cases hf) (by simp) hr ⟨by simp[C1.fact],by show 1≤100000;omega,fun u hu=>by
  have:u=v:=by simpa[C1.fact] using hu
  rw[this];exact hv⟩ D3.nil.rdS hw).mono fun e w hq=>?_)
 obtain⟨Γ2,v',gs,hle2,rfl,-,hRL,hw⟩:=hq;refine⟨_,rfl,?_⟩;refine A4 ?_;exact⟨_,rfl,Γ2,hle1.trans hle2,G7 rfl (Kb (v:=v)),hw.drop⟩
end Go.Proofs.YtlimglpjpcfpdaaGreat
end
section
open Go Mk
namespace Go.Proofs.YtlimglpjpcfpdaaGreat
set_option maxHeartbeats 16000000
attribute [local irreducible] Calls cI cB
def Tn(v:Val):Value:=.agg (enc v).toArray
abbrev D1(bm:Nat)(e:Env):A7:=A7.ms Tn bm e
def E0(vs vg vt vr:Value)(bm:Nat):Obj:=.cells #[vs,vg,vt,.map (some bm),vr] 121
section
variable {Γ:B8}{S:List A7}{w:World}{b bm:Nat}{vs vg vt vr:Value}{e:Env}
theorem MH{o:K0}(hw:Wd Γ (.blk b (E0 vs vg vt vr bm)::D1 bm e::S) w):Calls Tryz.prog 159 #[.pointer (some ⟨b,0,none⟩),.agg (enc o).toArray] w fun r w'=>r=.returned (.agg (enc (DG e o)).toArray)∧Wd Γ (.blk b (E0 vs vg vt vr bm)::D1 bm e::S) w':=by
 refine F8 Tryz.func159 rfl rfl ?_
 refine A4 ?_;refine E5 ?_;intro b3 w hw;refine B2 ?_;intro b4 w hw;have hw:Wd Γ (.blk b4 (.cells #[.int .i64 0,.int .i64 0,.string ⟨#[]⟩] 54)::.blk b3 (.cells (enc o).toArray 125)::.blk b (E0 vs vg vt vr bm)::D1 bm e::S) w:=hw
 refine A4 ?_;refine A0 rfl (fun h=>?_) (fun h=>?_)
 ·have hv:o.Var≠D8:=of_decide_eq_true h
  refine A4 ?_;refine Z7 [.blk b3 (.cells (enc o).toArray 125),.blk b (E0 vs vg vt vr bm),D1 bm e] (.blk b4 (.cells #[.int .i64 0,.int .i64 0,.string ⟨#[]⟩] 54)::S) [] [[],[],[],[],[],[],[],[0]] (hw.perm M8) ?_
  refine i9 ?_;refine Z2 (v:=undef) (T':=Unit) (fun _ _=>True) (fun _=>.blk b4 (.cells (enc (W6 e o.Var)).toArray 54)::S) (fun t g w Y _ hw=>?_) ?_
  ·exact V6 (i:=0) (vs:=enc (W6 e o.Var)) (n:=3) (by kernel_rfl) hw rfl rfl rfl rfl (fun u hu=>(List.all_eq_true.1 (Ca (W6 e o.Var))) u hu) rfl (by decide) fun w' hw'=>⟨(),trivial,(fun _=>rfl),hw'⟩
  refine y6 fun t w g _ hw=>?_
  have hw:Wd Γ ((.blk b4 (.cells (enc (W6 e o.Var)).toArray 54)::S)++[.blk b3 (.cells (enc o).toArray 125),.blk b (E0 vs vg vt vr bm),D1 bm e]) w:=hw
  have hw:Wd Γ (.blk b4 (.cells (enc (W6 e o.Var)).toArray 54)::.blk b3 (.cells (enc o).toArray 125)::.blk b (E0 vs vg vt vr bm)::D1 bm e::S) w:=hw.perm M8
  refine A4 ?_;refine⟨[.agg (enc (W6 e o.Var)).toArray],⟨J6 (i:=0) hw rfl rfl rfl,trivial⟩,?_,hw.drop.drop⟩
  unfold DG;rw[if_pos hv];rfl
 ·have hv:¬o.Var≠D8:=of_decide_eq_false h
  refine A4 ?_;refine B0 ?_;intro w hw;have hw:Wd Γ (.blk b4 (.cells (enc o.Const).toArray 54)::.blk b3 (.cells (enc o).toArray 125)::.blk b (E0 vs vg vt vr bm)::D1 bm e::S) w:=hw
  refine A4 ?_;refine⟨[.agg (enc o.Const).toArray],⟨J6 (i:=0) hw rfl rfl rfl,trivial⟩,?_,hw.drop.drop⟩
  unfold DG;rw[if_neg hv];rfl
theorem KS{os:List K0}{xs:List Val}{k:Nat}{o:K0}{x:Val}(ho:os[k]? = some o)(hx:xs[k]? = some x):L6 e (os.drop k) (xs.drop k)=(Cz e o x&&L6 e (os.drop (k+1)) (xs.drop (k+1))):=by
 rw[K5 ho,K5 hx];rfl
theorem LU{o:K0}{x:Val}(ha:o.Var≠I8)(hn:D2 e D8=none):(!Cz e o x)=(if o.Var=D8 then decide (o.Const≠x) else ((D2 e o.Var).isSome&&decide ((D2 e o.Var).getD default≠x))||(!(D2 e o.Var).isSome && !J1 x)):=by
 unfold Cz;rw[if_neg ha];by_cases h0:o.Var=D8
 ·rw[if_pos h0,if_pos h0];simp
 rw[if_neg h0,if_neg h0];cases D2 e o.Var with
 | none=>simp
 | some u=>simp
theorem JM{va:Value}{os:List K0}{f:C1}(hargs:D3 Γ va 4 (os.map enc))(hos:∀o∈os,Ab o)(hf:Bt Γ f)(hfo:AU f.fact)(hlen:os.length=f.Args.length)(hn:D2 e D8=none)(hN:os.length≤1000)(hw:Wd Γ (.blk b (E0 vs vg vt vr bm)::D1 bm e::S) w) :
  Calls Tryz.prog 109 #[.pointer (some ⟨b,0,none⟩),va,.agg (cF f).toArray] w fun r w'=>r=.returned (.bool (L6 e os f.Args))∧Wd Γ (.blk b (E0 vs vg vt vr bm)::D1 bm e::S) w':=by
 obtain⟨a,n,c,rfl,hln,hnc,hc⟩:=hargs.shape;simp only[List.length_map]at hln
 obtain⟨l1,l2,l3⟩:=hf.len;have hfR:=hf
 unfold Bt C1.hdr at hfR;obtain⟨-,-,hvo⟩:=hfo;obtain⟨fr,fa,fn,fc,xs⟩:=f;simp only[C1.fact]at l1 l2 l3 hfR hlen hvo ⊢
 refine A3 Tryz.func109 rfl rfl ?_
 refine A4 ?_;refine E5 ?_;intro b5 w hw;have hw:Wd Γ (.blk b5 (.cells #[.string fr,.slice fa fn fc] 135)::.blk b (E0 vs vg vt vr bm)::D1 bm e::S) w:=hw
 refine A4 ?_;refine C8 (fun μ ρ w=>∃(k:Nat),μ+k=n∧Has ρ [(0,.pointer (some ⟨b,0,none⟩)),(5,.pointer (some ⟨b5,0,none⟩)),(11,.slice a n c),(12,.int .i64 n),(13,.int .i64 k)]∧L6 e os xs=L6 e (os.drop k) (xs.drop k)∧Wd Γ (.blk b5 (.cells #[.string fr,.slice fa fn fc] 135)::.blk b (E0 vs vg vt vr bm)::D1 bm e::S) w) n ⟨0,by omega,⟨rfl,rfl,rfl,rfl,rfl,trivial⟩,rfl,hw⟩ ?_
 clear hw;rintro μ ρ w ⟨k,hk,hρ,hfit,hw⟩
 rw[hρ.eq];clear hρ;refine A4 ?_;refine A0 rfl (fun h=>?_) (fun h=>?_)
 ·have hkn:k<n:=by have:=of_decide_eq_true h;omega
  clear h;obtain⟨o,ho⟩:=C0 (l:=os) (k:=k) (by omega)
  obtain⟨x,hx⟩:=C0 (l:=xs) (k:=k) (by omega)
  have hxo:=hvo x (List.mem_of_getElem? hx)
  have hpw:=BU (Γ:=Γ) hxo
  rw[KS ho hx]at hfit;refine A4 ?_;refine B2 ?_;intro b8 w hw;refine A4 ?_;refine B0 ?_;intro w hw;have hw:Wd Γ (.blk b8 (.cells (enc o).toArray 125)::.blk b5 (.cells #[.string fr,.slice fa fn fc] 135)::.blk b (E0 vs vg vt vr bm)::D1 bm e::S) w:=hw
  refine A4 ?_;refine A0 rfl (fun h=>?_) (fun h=>?_)
  ·have ha:o.Var=I8:=of_decide_eq_true h
   refine A4 ?_;refine⟨μ-1,by omega,k+1,by omega,⟨rfl,rfl,rfl,rfl,rfl,trivial⟩,?_,hw.drop⟩
   rw[hfit];unfold Cz;rw[if_pos ha,Bool.true_and]
  have ha:o.Var≠I8:=of_decide_eq_false h
  clear h;refine A4 ?_;refine FC 1 [[],[],[],[],[],[],[],[],[],[],[0],[0],[]] [[],[],[],[],[],[],[],[],[],[],[0],[0],[]] [[9]] ?_ (hw:=hw)
  refine i9 ?_;refine i9 ?_;refine Eo ?_
  refine AG ?_
  refine i9 ?_;refine D9 ?_
  clear hw;intro b9 w hw;have hw:Wd Γ (.blk b9 (.cells (enc ((D2 e o.Var).getD default)).toArray 54)::.blk b8 (.cells (enc o).toArray 125)::.blk b5 (.cells #[.string fr,.slice fa fn fc] 135)::.blk b (E0 vs vg vt vr bm)::D1 bm e::S) w:=hw
  refine A4 ?_;refine Gz (fun ρ w=>∃(u:Val) (t:Bool),Has ρ [(0,.pointer (some ⟨b,0,none⟩)),(5,.pointer (some ⟨b5,0,none⟩)),(7,.int .i64 k),(9,.pointer (some ⟨b9,0,none⟩)),(10,.bool t),(11,.slice a n c),(12,.int .i64 n),(13,.int .i64 k)]∧(!Cz e o x)=((t&&decide (u≠x))||(!t && !J1 x))∧Wd Γ (.blk b9 (.cells (enc u).toArray 54)::.blk b8 (.cells (enc o).toArray 125)::.blk b5 (.cells #[.string fr,.slice fa fn fc] 135)::.blk b (E0 vs vg vt vr bm)::D1 bm e::S) w) ?_ ?_
  ·refine A0 rfl (fun h=>?_) (fun h=>?_)
   ·have h0:o.Var=D8:=of_decide_eq_true h
    refine A4 ?_;refine B0 ?_;intro w hw;have hw:Wd Γ (.blk b9 (.cells (enc o.Const).toArray 54)::.blk b8 (.cells (enc o).toArray 125)::.blk b5 (.cells #[.string fr,.slice fa fn fc] 135)::.blk b (E0 vs vg vt vr bm)::D1 bm e::S) w:=hw
    refine A4 ?_;refine⟨o.Const,true,⟨rfl,rfl,rfl,rfl,rfl,rfl,rfl,rfl,trivial⟩,?_,hw⟩
    rw[LU ha hn,if_pos h0];simp
   ·have h0:¬o.Var=D8:=of_decide_eq_false h
    refine A4 ?_;refine⟨(D2 e o.Var).getD default,(D2 e o.Var).isSome,⟨rfl,rfl,rfl,rfl,rfl,rfl,rfl,rfl,trivial⟩,?_,hw⟩
    rw[LU ha hn,if_neg h0]
  clear hw;rintro ρ w ⟨u,t,hρ,hfu,hw⟩
  rw[hρ.eq];clear hρ;refine A4 ?_;refine L4 (by kernel_rfl) (by kernel_rfl) hw ?_
  refine Hd ?_;refine qG ?_ (hy:=by intro hc w hw;exact Cp (a:=u) (b:=x) A9 A9 rfl)
  refine Hd ?_;clear hw;intro w hw;refine A0 rfl (fun h=>?_) (fun h=>?_)
  ·have hff:Cz e o x=false:=by
    have:=hfu.trans h
    simpa using this
   refine A4 ?_;refine⟨_,rfl,G7 rfl ?_,hw.drop.drop.drop⟩
   rw[hfit,hff,Bool.false_and]
  ·have hff:Cz e o x=true:=by
    have:=hfu.trans h
    simpa using this
   rw[hff,Bool.true_and]at hfit;refine A4 ?_;exact⟨μ-1,by omega,k+1,by omega,⟨rfl,rfl,rfl,rfl,rfl,trivial⟩,hfit,hw.drop.drop⟩
 have hkn:k=n:=by have:=of_decide_eq_false h;omega
 refine A4 ?_;refine⟨_,rfl,G7 rfl ?_,hw.drop⟩
 rw[hfit,E3 os (by omega)];rfl
end
end Go.Proofs.YtlimglpjpcfpdaaGreat
end
section
open Go
namespace Mk
theorem JE{P:Program}{ops:Array Oper}{D:List Deferred}{Q Q':Exit→Act→World→Prop}{K K':Act→World→Prop}(hQ:∀e a w,Q e a w→Q' e { a with defers:=a.defers++D } w)(hK:∀a w,K a w→K' { a with defers:=a.defers++D } w){i:Nat}{a:Act}{w:World}
  (h:wpOp P ops Q i K a w):wpOp P ops Q' i K' { a with defers:=a.defers++D } w:=by
 have hL:LetsOut Q→LetsOut Q':=fun⟨a,w,h⟩=>⟨_,_,hQ _ _ _ h⟩
 have nx:∀d v w,K (a.put d v) w→K' (({ a with defers:=a.defers++D }:Act).put d v) w:=fun d v w h=>by
  have:=hK _ _ h
  rw[put_defers];rw[G5]at this;exact this
 have he:({ a with defers:=a.defers++D }:Act).eval=a.eval:=rfl
 unfold wpOp at *
 split
 ·rename_i ho
  rw[ho]at h;exact hK _ _ h
 ·rename_i o ho
  rw[ho]at h;simp only at h ⊢
  show if Region.wanted o (yielded ops a.tmps) then _ else _
  by_cases hw:Region.wanted o (yielded ops a.tmps)
  ·rw[if_pos hw]at h ⊢
   rcases h with h|⟨h1,h2⟩
   ·refine .inl ?_
    unfold Oper.wp at h ⊢
    rw[he];generalize (execOp a.eval o).run P w=r at *
    cases r with
    | ok x w'=>
     cases x with
     | value v=>exact nx _ _ _ h
     | skip=>exact nx _ _ _ h
     | defer d=>
      have:=hK _ _ h
      rw[G5]at this;simp only[Oper.upon]
      rw[put_defers]at this ⊢
      exact this
     | enter f args=>
      refine Calls.mono h fun e w'' h=>?_
      cases e with
      | returned v=>exact nx _ _ _ h
      | panicked ch=>exact hQ _ _ _ h
      | outgrown=>exact hL h
     | row row args=>exact Rows.mono h fun v w'' h=>nx _ _ _ h
     | _=>exact h.elim
    | halt x w'=>
     cases x with
     | panic v=>exact hQ _ _ _ h
     | _=>exact h.elim
   ·exact .inr ⟨h1,hL h2⟩
  ·rw[if_neg hw]at h ⊢
   exact nx _ _ _ h
theorem CF{P:Program}{ops:Array Oper}{D:List Deferred}{Q Q':Exit→Act→World→Prop}{md:Region.Mode}(hQ:∀e a w,Q e a w→Q' e { a with defers:=a.defers++D } w):∀(fuel:Nat) (listed:Array Bool) (a:Act) (w:World),wpAny P md ops Q fuel listed a w→wpAny P md ops Q' fuel listed { a with defers:=a.defers++D } w
 | 0,listed,a,w,h=>⟨h.1,hQ _ _ _ h.2⟩
 | fuel+1,listed,a,w,h=>⟨fun h0=>hQ _ _ _ (h.1 h0),fun i hi=>JE hQ (fun a w h=>CF hQ fuel _ a w h) (h.2 i hi)⟩
section
variable {P:Program}{n:Nat}{Q:List Deferred→Exit→Fr→World→Prop}{D:List Deferred}{ρ:Fr}{w:World}
theorem Mx{id:Nat}{l:List Oper}(hm:P.follows .mixedOrders=true)(h:∀a:Act,a.defers=[]→a.tmps.size=n→C4 a=ρ→wpAny P .any l.toArray (lift n (Q D)) l.toArray.size (Array.replicate l.toArray.size false) a { w with drawn:=w.drawn+1 }) :
  WX P n (.region id l.toArray true) Q D ρ w:=fun a hd hs hf=>wp_region_any hm (by
 have:=CF (P:=P) (ops:=l.toArray) (D:=D) (md:=.any) (Q:=lift n (Q D)) (Q':=fun e a w=>a.tmps.size=n∧Q a.defers e (C4 a) w) (fun e a w ⟨x,y,z⟩=>⟨y,by
  show Q (a.defers++D) e (C4 a) w
  rw[x];exact z⟩) l.toArray.size (Array.replicate l.toArray.size false) { a with defers:=[] } { w with drawn:=w.drawn+1 } (h { a with defers:=[] } rfl hs hf)
 have e:({ ({ a with defers:=[] }:Act) with defers:=([]:List Deferred)++D }:Act)=a:=by subst hd;rfl
 exact e ▸ this)
variable {Γ:B8}{K S:List A7}
section
attribute [local semireducible] Qw
theorem PT{id:Nat}{l:List Oper}(hm:P.follows .mixedOrders=true)(hk:EL n l=true)(hw:Wd Γ S w)(h:Qw P n l Γ S (fun ρ w=>Q D .normal ρ w) l ρ) :
  WX P n (.region id l.toArray true) Q D ρ w:=Mx hm fun a hda hs hf=>by
 simp only[EL,Bool.and_eq_true]at hk
 obtain⟨cs,hc⟩:=(h 0).chain
 have inv:Inv ⟨P,n,l,Γ,S,[],[],true⟩ ⟨ρ,[],[],[]⟩ cs (Array.replicate l.toArray.size false) a { w with drawn:=w.drawn+1 } [] (fun _=>undef) Γ:=by
  refine⟨hda,hs,by simp,by simp,by simp,fun i hi=>?_,fun _ _ _ h=>by simp at h,Env.rl.refl _ _,by simp,fun t _=>by rw[hf],by simp,0,Nat.zero_le _,by simp,?_⟩
  ·have:i<l.length:=hi
   simp[this]
  ·have:DI l cs ⟨ρ,[],[],[]⟩ 0=⟨ρ,[],[],[]⟩:=by cases l <;> cases cs <;> rfl
   simp only[this]
   simpa using hw.drawn
 exact Inv.any hc rfl rfl hk.1 hk.2 _ _ a _ [] _ Γ inv (by simp)
end
theorem IZ{id:Nat}{l:List Oper}(K:List A7)(M:List (Fr→List A7))(wr tc stab:List (List Nat))(hw:Wd Γ (K++(List.range stab.length).flatMap fun x=>(ML M) x (D6 (stab.getD x []) ρ C6)) w)
  (h:MSw (mV P n l Γ K wr tc stab) (fun ρ w=>Q D .normal ρ w) 0 l ⟨ρ,ML M⟩) (hm:P.follows .mixedOrders=true:=by kernel_rfl) (hk:M4 n l wr tc stab=true:=by kernel_rfl):WX P n (.region id l.toArray true) Q D ρ w:=Mx hm fun a hda hs hf=>by
 obtain⟨cs,hc⟩:=h.chain;have inv:MInv ⟨P,n,l,Γ,K,wr,tc,stab,true⟩ ⟨ρ,ML M⟩ cs (Array.replicate l.toArray.size false) a { w with drawn:=w.drawn+1 } [] Γ:=by
  refine⟨hda,hs,by simp,by simp,by simp,fun i hi=>?_,fun _ _ _ h=>by simp at h,O4.rl_refl _,fun t _ _=>by rw[hf],by simp,fun _=>0,fun x=>⟨Nat.zero_le _,by simp⟩,?_⟩
  ·have:i<l.length:=hi
   simp[this]
  ·simp only[m0,hf]
   exact hw.drawn
 exact MInv.any hc hk _ _ a _ [] Γ inv (by simp)
theorem QL{id:Nat}{l:List Oper}(k:Nat)(wr tc stab:List (List Nat))(h:MSw (mV P n l Γ K wr tc stab) (fun ρ w=>Q D .normal ρ w) 0 l ⟨ρ,ML (List.replicate k fun _=>[])⟩)
  (hw:Wd Γ K w:=by exact hw) (hm:P.follows .mixedOrders=true:=by kernel_rfl) (hk:M4 n l wr tc stab=true:=by kernel_rfl):WX P n (.region id l.toArray true) Q D ρ w:=
 IZ K _ wr tc stab (by
  have:((List.range stab.length).flatMap fun x=>ML (List.replicate k fun _=>[]) x (D6 (stab.getD x []) ρ C6))=[]:=by
   rw[List.flatMap_eq_nil_iff];intro x _;unfold ML;by_cases hx:x<k
   ·simp[List.getD_eq_getElem?_getD,List.getElem?_replicate,hx]
   ·simp[List.getD_eq_getElem?_getD,List.getElem?_replicate,hx]
  rw[this,List.append_nil];exact hw) h hm hk
theorem RE{id:Nat}{l:List Oper}(K X:List A7)(N:List Nat)(wr:List (List Nat))(hw:Wd Γ (K++X) w)
  (h:MSw (mV P n l Γ K wr wr [N]) (fun ρ w=>Q D .normal ρ w) 0 l ⟨ρ,ML [L3 (T:=Unit) (fun _ _=>True) (fun _=>X)]⟩)
  (hm:P.follows .mixedOrders=true:=by kernel_rfl) (hk:M4 n l wr wr [N]=true:=by kernel_rfl):WX P n (.region id l.toArray true) Q D ρ w:=
 IZ K [L3 (T:=Unit) (fun _ _=>True) (fun _=>X)] wr wr [N] (by
  have h1:Wd Γ (X++K) w:=hw.perm List.perm_append_comm
  have h2:=Wd.closeEx (α:={t:Unit // True}) (X:=fun _=>X) ⟨(),trivial⟩ h1
  exact(h2.perm (List.perm_append_singleton _ K).symm:_)) h hm hk
end
end Mk
namespace Mk
section
variable {P:Program}{ρ:Fr}{w:World}{K:Value→World→Prop}{d:Option Tmp}{T ty:TypeId}{pos:String}{es:Array Edge}{g:Option (Nat×Bool)}{x y z:Operand}
attribute [local semireducible] Step
theorem Ik(h:Step P ⟨d,.mapUpdate T x y z,ty,pos,es,g⟩ ρ w K):Step P ⟨d,.insert T x y z,ty,pos,es,g⟩ ρ w K:=h
end
end Mk
end
section
open Go Mk
namespace Go.Proofs.YtlimglpjpcfpdaaGreat
set_option maxHeartbeats 16000000
attribute [local irreducible] Calls cI cB
theorem OO{Γ:B8}{x:H4}{l r:Val}(hg:Bq x.g.Off)(hl:d3 l)(hr:d3 r):PG Tryz.prog Γ 158 [.agg (cG x).toArray,.agg (enc l).toArray,.agg (enc r).toArray] (.bool (w6 x.g l r)):=⟨fun S w hw=>by
 haveI:=Fw l.Num r.Num x.g.Off hl.1 hr.1 hg
 refine A3 Tryz.func158 rfl rfl ?_
 refine A4 ?_;refine E5 ?_;intro b3 w hw;refine E5 ?_;intro b4 w hw;refine E5 ?_;intro b5 w hw;have hw:Wd Γ (.blk b5 (.cells (enc r).toArray 54)::.blk b4 (.cells (enc l).toArray 54)::.blk b3 (.cells (cG x).toArray 127)::S) w:=hw
 refine A4 ?_;refine A0 rfl (fun h=>?_) (fun h=>?_)
 ·have h':x.g.Off=0∧x.g.Op=1:=by simpa using h
  refine A4 ?_;refine⟨_,rfl,G7 rfl ?_,hw.drop.drop.drop⟩
  unfold w6;rw[if_pos h']
 have h1:¬(x.g.Off=0∧x.g.Op=1):=by simpa using h
 clear h;refine A4 ?_;refine A0 rfl (fun h=>?_) (fun h=>?_)
 ·have h':x.g.Off=0∧x.g.Op=2:=by simpa using h
  refine A4 ?_;refine⟨_,rfl,G7 rfl ?_,hw.drop.drop.drop⟩
  unfold w6;rw[if_neg h1,if_pos h']
 have h2:¬(x.g.Off=0∧x.g.Op=2):=by simpa using h
 clear h;refine A4 ?_;refine A0 rfl (fun h=>?_) (fun h=>?_)
 ·have h':l.Kind≠1∨r.Kind≠1:=by simpa using h
  refine A4 ?_;refine⟨_,rfl,G7 rfl ?_,hw.drop.drop.drop⟩
  unfold w6;rw[if_neg h1,if_neg h2,if_pos h']
 have h3:¬(l.Kind≠1∨r.Kind≠1):=by simpa using h
 clear h;have hf:w6 x.g l r=Ub x.g.Op (MI l.Num r.Num x.g.Off):=by
  unfold w6;rw[if_neg h1,if_neg h2,if_neg h3]
 obtain⟨c,hc⟩:∃c,c=MI l.Num r.Num x.g.Off:=⟨_,rfl⟩
 rw[hf];rw[←hc]at this ⊢
 clear hf hc h1 h2 h3;refine A4 ?_;unfold Ub;refine A0 rfl (fun h=>?_) (fun h=>?_)
 ·have h:=of_decide_eq_true h
  refine A4 ?_;exact⟨_,rfl,G7 rfl (by rw[if_pos h]),hw.drop.drop.drop⟩
 have h1:=of_decide_eq_false h
 clear h;rw[if_neg h1];refine A4 ?_;refine A0 rfl (fun h=>?_) (fun h=>?_)
 ·have h:=of_decide_eq_true h
  refine A4 ?_;exact⟨_,rfl,G7 rfl (by rw[if_pos h]),hw.drop.drop.drop⟩
 have h1:=of_decide_eq_false h
 clear h;rw[if_neg h1];refine A4 ?_;refine A0 rfl (fun h=>?_) (fun h=>?_)
 ·have h:=of_decide_eq_true h
  refine A4 ?_;exact⟨_,rfl,G7 rfl (by rw[if_pos h]),hw.drop.drop.drop⟩
 have h1:=of_decide_eq_false h
 clear h;rw[if_neg h1];refine A4 ?_;refine A0 rfl (fun h=>?_) (fun h=>?_)
 ·have h:=of_decide_eq_true h
  refine A4 ?_;exact⟨_,rfl,G7 rfl (by rw[if_pos h]),hw.drop.drop.drop⟩
 have h1:=of_decide_eq_false h
 clear h;rw[if_neg h1];refine A4 ?_;refine A0 rfl (fun h=>?_) (fun h=>?_)
 ·have h:=of_decide_eq_true h
  refine A4 ?_;exact⟨_,rfl,G7 rfl (by rw[if_pos h]),hw.drop.drop.drop⟩
 have h1:=of_decide_eq_false h
 clear h;rw[if_neg h1];refine A4 ?_;exact⟨_,rfl,rfl,hw.drop.drop.drop⟩⟩
theorem Ei{e:Env}{s:ByteArray}(h:s∉e.map (·.1)):BY e s=none:=by
 unfold BY;rw[List.findIdx?_eq_none_iff];intro p hp;simp only[decide_eq_false_iff_not]
 intro he;exact h (by rw[←he];exact List.mem_map_of_mem (f:=(·.1)) hp)
theorem QB{e r:Env}{s:ByteArray}{v:Val}(h:s∉e.map (·.1)):BY (e++(s,v)::r) s=some e.length:=by
 have:=Ei h
 unfold BY at *
 rw[List.findIdx?_append,this];simp[List.findIdx?_cons]
theorem Pe{e r:Env}{s:ByteArray}{v:Val}(h:s∉e.map (·.1)):U9 (e++(s,v)::r) s=e++r:=by
 unfold U9;rw[QB h];simp only
 rw[List.eraseIdx_append_of_length_le (Nat.le_refl _),Nat.sub_self];rfl
theorem OU{e:Env}{s:ByteArray}{v:Val}(h:s∉e.map (·.1)):AA e s v=e++[(s,v)]:=by
 unfold AA;rw[Ei h]
theorem KH{e:Env}{s:ByteArray}(h:s∉e.map (·.1)):D2 e s=none:=by
 unfold D2;rw[Ei h];rfl
theorem MY{e:Env}{s:ByteArray}{v:Val}(h:D2 e s=some v):(s,v)∈e:=by
 unfold D2 at h;cases hq:BY e s with
 | none=>rw[hq]at h;cases h
 | some i=>
  rw[hq]at h;simp only[Option.bind_some]at h
  obtain⟨u,hu⟩:=f0 hq
  rw[hu]at h;simp only[Option.map_some,Option.some.injEq]at h
  rw[←h];exact List.mem_of_getElem? hu
theorem IA{e:Env}{s:ByteArray}(h:D2 e s=none):s∉e.map (·.1):=fun hm=>by
 obtain⟨p,hp,he⟩:=List.mem_map.1 hm
 unfold D2 at h;cases hq:BY e s with
 | none=>
  unfold BY at hq;rw[List.findIdx?_eq_none_iff]at hq;have:=hq p hp
  simp[he]at this
 | some i=>
  obtain⟨u,hu⟩:=f0 hq
  rw[hq]at h;simp[hu]at h
theorem UB{e:Env}:∀ {ps:Env},(∀p∈ps,p.1∉e.map (·.1))→(ps.map (·.1)).foldl U9 (e++ps)=e
 | [],_=>by simp
 | (s,v)::ps,h=>by
  rw[List.map_cons,List.foldl_cons,Pe (h (s,v) (by simp))]
  exact UB fun p hp=>h p (by simp[hp])
theorem RZ{Γ:B8}{S:List A7}{w:World}{b b8 b4 bm:Nat}{vs vg vt vr fv:Value}{e:Env}{ns:List ByteArray}(hw:Wd Γ (.blk b8 (.cells #[fv] 23)::.own fv 9 1 (A8 ns)::.blk b4 (.cells #[.pointer (some ⟨b,0,none⟩)] 117)::.blk b (E0 vs vg vt vr bm)::D1 bm e::S) w) :
  CallsD Tryz.prog 162 #[.pointer (some ⟨b8,0,none⟩),.pointer (some ⟨b4,0,none⟩)] .returning w fun r u' w'=>u'=.returning∧(∃v,r=.returned v)∧Wd Γ (.blk b8 (.cells #[fv] 23)::.own fv 9 1 (A8 ns)::.blk b4 (.cells #[.pointer (some ⟨b,0,none⟩)] 117)::.blk b (E0 vs vg vt vr bm)::D1 bm (ns.foldl U9 e)::S) w':=by
 obtain⟨fa,fn,fc,rfl,hfn,hfc,hfb⟩:=hw.own_shape (i:=1) rfl
 simp only[List.length_map]at hfn
 refine(JC (R:=fun r w'=>(∃v,r=.returned v)∧Wd Γ (.blk b8 (.cells #[.slice fa fn fc] 23)::.own (.slice fa fn fc) 9 1 (A8 ns)::.blk b4 (.cells #[.pointer (some ⟨b,0,none⟩)] 117)::.blk b (E0 vs vg vt vr bm)::D1 bm (ns.foldl U9 e)::S) w') Tryz.func162 rfl rfl ?_).mono fun r u w h=>h
 refine A4 ?_;refine C8 (fun μ ρ w=>∃(k:Nat),μ+k=fn∧Has ρ [(1,.pointer (some ⟨b4,0,none⟩)),(4,.slice fa fn fc),(5,.int .i64 fn),(6,.int .i64 k)]∧Wd Γ (.blk b8 (.cells #[.slice fa fn fc] 23)::.own (.slice fa fn fc) 9 1 (A8 ns)::.blk b4 (.cells #[.pointer (some ⟨b,0,none⟩)] 117)::.blk b (E0 vs vg vt vr bm)::D1 bm ((ns.take k).foldl U9 e)::S) w) fn ⟨0,by omega,⟨rfl,rfl,rfl,rfl,trivial⟩,hw⟩ ?_
 clear hw;rintro μ ρ w ⟨k,hk,hρ,hw⟩
 rw[hρ.eq];clear hρ;refine A4 ?_;refine A0 rfl (fun h=>?_) (fun h=>?_)
 ·have hkn:k<fn:=by have:=of_decide_eq_true h;omega
  clear h;obtain⟨s,hs⟩:=C0 (l:=ns) (k:=k) (by omega)
  refine A4 ?_;refine H1 rfl rfl (FA (i:=4) (l:=(ns.take k).foldl U9 e) hw rfl rfl rfl fun w hw=>?_)
  have hw:Wd Γ (.blk b8 (.cells #[.slice fa fn fc] 23)::.own (.slice fa fn fc) 9 1 (A8 ns)::.blk b4 (.cells #[.pointer (some ⟨b,0,none⟩)] 117)::.blk b (E0 vs vg vt vr bm)::D1 bm ((ns.take (k+1)).foldl U9 e)::S) w:=by
   rw[List.take_add_one,hs,List.foldl_append];exact hw
  refine A4 ?_;exact⟨μ-1,by omega,k+1,by omega,⟨rfl,rfl,rfl,rfl,trivial⟩,hw⟩
 have hkn:fn≤k:=by have:=of_decide_eq_false h;omega
 rw[List.take_of_length_le (by omega)]at hw
 refine A4 ?_;exact⟨_,rfl,⟨_,rfl⟩,hw⟩
end Go.Proofs.YtlimglpjpcfpdaaGreat
end
section
open Go Mk
namespace Go.Proofs.YtlimglpjpcfpdaaGreat
set_option maxHeartbeats 16000000
attribute [local irreducible] Calls cI cB
def F4(vr:Value)(L:List (Value×List (List Value))):List A7:=.own vr 52 1 (L.map fun x=>[x.1])::NP 54 3 L
def SV(b bm:Nat)(vs vg vt:Value)(rs:List (List Val)):A7:=A7.ex (α:={p:Value×List (Value×List (List Value)) // p.2.map (·.2)=rs.map fun r=>r.map enc}) fun p=>.blk b (E0 vs vg vt p.1.1 bm)::F4 p.1.1 p.1.2
section
variable {Γ:B8}{S:List A7}{w:World}{b bm:Nat}{vs vg vt:Value}{rs:List (List Val)}
theorem s9(hw:Wd Γ (SV b bm vs vg vt rs::S) w):∃vr L,L.map (·.2)=(rs.map fun r=>r.map enc)∧Wd Γ (.blk b (E0 vs vg vt vr bm)::(F4 vr L++S)) w:=by
 obtain⟨⟨⟨vr,L⟩,h⟩,hw⟩:=Wd.openEx hw
 exact⟨vr,L,h,hw⟩
theorem R8{vr:Value}{L:List (Value×List (List Value))}(h:L.map (·.2)=rs.map fun r=>r.map enc)(hw:Wd Γ (.blk b (E0 vs vg vt vr bm)::(F4 vr L++S)) w):Wd Γ (SV b bm vs vg vt rs::S) w:=
 Wd.closeEx (α:={p:Value×List (Value×List (List Value)) // p.2.map (·.2)=rs.map fun r=>r.map enc}) (X:=fun p=>.blk b (E0 vs vg vt p.1.1 bm)::F4 p.1.1 p.1.2) ⟨(vr,L),h⟩ hw
end
structure W5(e:Env):Prop where
 key:∀p∈e,p.1≠D8
 val:∀p∈e,d3 p.2
theorem W5.nil:W5 []:=⟨fun p h=>(by cases h),fun p h=>(by cases h)⟩
theorem W5.snoc{e:Env}{s:ByteArray}{v:Val}(h:W5 e)(hs:s≠D8)(hv:d3 v):W5 (e++[(s,v)]):=
 ⟨fun p hp=>by
  rcases List.mem_append.1 hp with h1|h1
  ·exact h.key p h1
  ·rw[List.mem_singleton.1 h1];exact hs,fun p hp=>by
  rcases List.mem_append.1 hp with h1|h1
  ·exact h.val p h1
  ·rw[List.mem_singleton.1 h1];exact hv⟩
theorem W5.noKey{e:Env}(h:W5 e):D2 e D8=none:=KH fun hm=>by
 obtain⟨p,hp,he⟩:=List.mem_map.1 hm
 exact h.key p hp he
theorem QF:d3 N3:=⟨by decide,by decide⟩
theorem W5.get{e:Env}(h:W5 e)(s:ByteArray):d3 (W6 e s):=by
 unfold W6;cases hq:D2 e s with
 | none=>exact QF
 | some v=>exact h.val _ (MY hq)
section
variable {e:Env}{o:K0}{os:List K0}{x:Val}{xs:List Val}
theorem KD(h:o.Var=D8∨o.Var=I8):Q8 e (o::os) (x::xs)=Q8 e os xs:=by
 rw[Q8,if_pos h]
theorem PL(h0:¬(o.Var=D8∨o.Var=I8))(h:((D2 e o.Var).isSome&&decide ((D2 e o.Var).getD default≠x))=true):Q8 e (o::os) (x::xs)=none:=by
 rw[Q8,if_neg h0];cases hq:D2 e o.Var with
 | none=>rw[hq]at h;simp at h
 | some u=>
  rw[hq]at h;have:u≠x:=by simpa using h
  simp[this]
theorem Jk(h0:¬(o.Var=D8∨o.Var=I8))(h:((D2 e o.Var).isSome&&decide ((D2 e o.Var).getD default≠x))=false)(h2:(D2 e o.Var).isSome=true):Q8 e (o::os) (x::xs)=Q8 e os xs:=by
 rw[Q8,if_neg h0];cases hq:D2 e o.Var with
 | none=>rw[hq]at h2;simp at h2
 | some u=>
  rw[hq]at h;have:u=x:=by simpa using h
  simp[this]
theorem ME(h0:¬(o.Var=D8∨o.Var=I8))(h2:(D2 e o.Var).isSome=false):Q8 e (o::os) (x::xs)=Q8 (e++[(o.Var,x)]) os xs:=by
 rw[Q8,if_neg h0];cases hq:D2 e o.Var with
 | none=>rfl
 | some u=>rw[hq]at h2;simp at h2
end
theorem Wd.tl5{Γ:B8}{w:World}{r1 r2 r3 r4 r5:A7}{X S:List A7}(h:Wd Γ (r1::r2::r3::r4::r5::(X++S)) w):Wd Γ S w:=Wd.right (S':=[r1,r2,r3,r4,r5]++X) (by simpa using h)
theorem Wd.tl6{Γ:B8}{w:World}{r1 r2 r3 r4 r5 r6:A7}{X S:List A7}(h:Wd Γ (r1::r2::r3::r4::r5::r6::(X++S)) w):Wd Γ S w:=Wd.right (S':=[r1,r2,r3,r4,r5,r6]++X) (by simpa using h)
theorem Wd.tl7{Γ:B8}{w:World}{r1 r2 r3 r4 r5 r6 r7:A7}{X S:List A7}(h:Wd Γ (r1::r2::r3::r4::r5::r6::r7::(X++S)) w):Wd Γ S w:=Wd.right (S':=[r1,r2,r3,r4,r5,r6,r7]++X) (by simpa using h)
theorem JL{Γ:B8}{S CAP:List A7}{w:World}{b bm:Nat}{vs vg vt:Value}{rs:List (List Val)}{e:Env}{q:Nat}[B5 Tryz.prog q]{cap:List Value}(φ:Env→List (List Val))
  (hq:∀(e':Env) (rs':List (List Val)) (S':List A7) (w:World),W5 e'→rs'.length+(φ e').length≤1000000→Wd Γ (SV b bm vs vg vt rs'::D1 bm e'::(CAP++S')) w→Calls Tryz.prog q cap.toArray w fun r w'=>r=.returned (.tuple #[])∧Wd Γ (SV b bm vs vg vt (rs'++φ e')::D1 bm e'::(CAP++S')) w')
  {va vv:Value} {os:List K0} {xs:List Val} (hA:O9 Γ (CAP++S) va 4 (os.map enc)) (hV:O9 Γ (CAP++S) vv 3 (xs.map enc)) (hlen:os.length=xs.length) (hN:os.length≤1000) (hx:∀v∈xs,d3 v) (he:W5 e) (hrs:rs.length+(J3 φ e os xs).length≤1000000)
  (hw:Wd Γ (SV b bm vs vg vt rs::D1 bm e::(CAP++S)) w) :
  Calls Tryz.prog 110 #[.pointer (some ⟨b,0,none⟩),va,vv,.func (.func q) #[] cap.toArray] w fun r w'=>r=.returned (.tuple #[])∧Wd Γ (SV b bm vs vg vt (rs++J3 φ e os xs)::D1 bm e::(CAP++S)) w':=by
 obtain⟨a,n,c,rfl,hln,hnc,hc⟩:=hA.shape;obtain⟨a2,n2,c2,rfl,hln2,hnc2,hc2⟩:=hV.shape;simp only[List.length_map]at hln hln2
 refine Dn Tryz.func110 rfl rfl ?_
 repeat(first|refine l6 ?_|refine B6 ?_|(refine B7 ?_;intro w hw))
 refine E5 ?_;intro b4 w hw;repeat(first|refine l6 ?_|refine B6 ?_|(refine B7 ?_;intro w hw))
 refine B2 ?_;intro b8 w hw;refine B6 ?_
 refine l6 ?_
 refine EW ?_
 refine LI (Yields.step (AH (f1:=[]) (c1:=[.pointer (some ⟨b8,0,none⟩),.pointer (some ⟨b4,0,none⟩)]) EvL.nil (EvL.cons rfl (EvL.cons rfl EvL.nil))) ?_)
 refine Gi ?_
 refine OW ?_
 have fin:∀(ps:Env) (fv vr:Value) (L:List (Value×List (List Value))) (rs':List (List Val)) (w:World) (a:Act),(∀p∈ps,p.1∉e.map (·.1))→L.map (·.2)=(rs'.map fun r=>r.map enc)→rs'=rs++J3 φ e os xs→Wd Γ (.blk b8 (.cells #[fv] 23)::D1 bm (e++ps)::.blk b4 (.cells #[.pointer (some ⟨b,0,none⟩)] 117)::.blk b (E0 vs vg vt vr bm)::.own fv 9 1 (A8 (ps.map (·.1)))::(F4 vr L++(CAP++S))) w →
   Leaves Tryz.prog Tryz.f110 a.tmps (fun r w'=>r=.returned (.tuple #[])∧Wd Γ (SV b bm vs vg vt (rs++J3 φ e os xs)::D1 bm e::(CAP++S)) w') [⟨.fn (.func 162) #[.pointer (some ⟨b8,0,none⟩),.pointer (some ⟨b4,0,none⟩)],#[]⟩] .returning w:=by
  intro ps fv vr L rs' w a hps hL hrs' hw;have hw:Wd Γ (.blk b8 (.cells #[fv] 23)::.own fv 9 1 (A8 (ps.map (·.1)))::.blk b4 (.cells #[.pointer (some ⟨b,0,none⟩)] 117)::.blk b (E0 vs vg vt vr bm)::D1 bm (e++ps)::(F4 vr L++(CAP++S))) w:=hw.perm M8
  refine Jw ((RZ hw).mono fun r u' w' ⟨h1,h2,hw'⟩=>⟨h1,h2,.tuple #[],L2 rfl,rfl,?_⟩)
  rw[UB hps]at hw';rw[←hrs'];have hw1:Wd Γ (.blk b (E0 vs vg vt vr bm)::D1 bm e::(F4 vr L++(CAP++S))) w':=hw'.ds [0,0,0]
  have hw2:Wd Γ (.blk b (E0 vs vg vt vr bm)::(F4 vr L++(D1 bm e::(CAP++S)))) w':=hw1.perm M8
  exact R8 hL hw2
 obtain⟨vr,L,hL,hw⟩:=s9 (hw.ps [2])
 have hw:=Wd.addNil (a:=none) (E:=9) (sz:=1) hw
 have hw:Wd Γ (.own (.slice none 0 0) 9 1 (A8 [])::.blk b (E0 vs vg vt vr bm)::(F4 vr L++(.blk b8 (.cells #[.slice none 0 0] 23)::.blk b4 (.cells #[.pointer (some ⟨b,0,none⟩)] 117)::D1 bm e::(CAP++S)))) w:=hw
 have hw:Wd Γ (.blk b8 (.cells #[.slice none 0 0] 23)::D1 bm (e++[])::.blk b4 (.cells #[.pointer (some ⟨b,0,none⟩)] 117)::.blk b (E0 vs vg vt vr bm)::.own (.slice none 0 0) 9 1 (A8 (([]:Env).map (·.1)))::(F4 vr L++(CAP++S))) w:=by
  rw[List.append_nil];exact hw.perm M8
 repeat(first|refine l6 ?_|refine B6 ?_|(refine B7 ?_;intro w hw))
 refine QJ (fun μ ρ w=>∃(k:Nat) (ps:Env) (fv:Value),μ+k=n∧Has ρ [(2,.slice a2 n2 c2),(3,.func (.func q) #[] cap.toArray),(4,.pointer (some ⟨b4,0,none⟩)),(8,.pointer (some ⟨b8,0,none⟩)),(14,.slice a n c),(15,.int .i64 n),(16,.int .i64 k)]∧(∀p∈ps,p.1∉e.map (·.1))∧ps.length≤k∧W5 (e++ps)∧Q8 e os xs=Q8 (e++ps) (os.drop k) (xs.drop k)∧Wd Γ (.blk b8 (.cells #[fv] 23)::D1 bm (e++ps)::.blk b4 (.cells #[.pointer (some ⟨b,0,none⟩)] 117)::.blk b (E0 vs vg vt vr bm)::.own fv 9 1 (A8 (ps.map (·.1)))::(F4 vr L++(CAP++S))) w) n ⟨0,[],.slice none 0 0,by omega,⟨rfl,rfl,rfl,rfl,rfl,rfl,rfl,trivial⟩,(fun p h=>(by cases h)),Nat.le_refl _,by rw[List.append_nil];exact he,by rw[List.append_nil];rfl,hw⟩ ?_
 clear hw;rintro μ ρ w ⟨k,ps,fv,hk,hρ,hps,hpl,hek,hbd,hw⟩
 rw[hρ.eq];clear hρ;repeat(first|refine l6 ?_|refine B6 ?_|(refine B7 ?_;intro w hw))
 refine CW rfl (fun h=>?_) (fun h=>?_)
 ·have hkn:k<n:=by have:=of_decide_eq_true h;omega
  clear h;obtain⟨o,ho⟩:=C0 (l:=os) (k:=k) (by omega)
  obtain⟨x,hxk⟩:=C0 (l:=xs) (k:=k) (by omega)
  have hxo:=hx x (List.mem_of_getElem? hxk)
  rw[K5 ho,K5 hxk]at hbd;repeat(first|refine l6 ?_|refine B6 ?_|(refine B7 ?_;intro w hw))
  refine lY ?_ (hy:=T3 (hA.rd (Wd.tl5 hw)) rfl rfl (by omega) (by omega))
  refine lY ?_ (hy:=K7 rfl (hA.rd (Wd.tl5 hw)) (B1 ho))
  repeat(first|refine l6 ?_|refine B6 ?_|(refine B7 ?_;intro w hw))
  refine B2 ?_;intro b10 w hw;repeat(first|refine l6 ?_|refine B6 ?_|(refine B7 ?_;intro w hw))
  refine B0 ?_;intro w hw;have hw:Wd Γ (.blk b10 (.cells (enc o).toArray 125)::.blk b8 (.cells #[fv] 23)::D1 bm (e++ps)::.blk b4 (.cells #[.pointer (some ⟨b,0,none⟩)] 117)::.blk b (E0 vs vg vt vr bm)::.own fv 9 1 (A8 (ps.map (·.1)))::(F4 vr L++(CAP++S))) w:=hw
  repeat(first|refine l6 ?_|refine B6 ?_|(refine B7 ?_;intro w hw))
  refine CW rfl (fun h=>?_) (fun h=>?_)
  ·have h0:o.Var=D8∨o.Var=I8:=by simp only[Bool.or_eq_true,decide_eq_true_eq]at h;exact h
   rw[KD h0]at hbd;repeat(first|refine l6 ?_|refine B6 ?_|(refine B7 ?_;intro w hw))
   exact⟨rfl,μ-1,by omega,k+1,ps,fv,by omega,⟨rfl,rfl,rfl,rfl,rfl,rfl,rfl,trivial⟩,hps,by omega,hek,hbd,hw.drop⟩
  have h0:¬(o.Var=D8∨o.Var=I8):=by rw[Bool.or_eq_false_iff,decide_eq_false_iff_not,decide_eq_false_iff_not]at h;exact fun e=>e.elim h.1 h.2
  clear h;repeat(first|refine l6 ?_|refine B6 ?_|(refine B7 ?_;intro w hw))
  refine QL 1 [[],[],[],[],[],[],[],[],[],[],[0],[0],[]] [[],[],[],[],[],[],[],[],[],[],[0],[0],[]] [[11]] ?_ (hw:=hw)
  refine i9 ?_;refine Eo ?_
  refine AG ?_
  refine i9 ?_;refine D9 ?_
  clear hw;intro b11 w hw;have hw:Wd Γ (.blk b11 (.cells (enc ((D2 (e++ps) o.Var).getD default)).toArray 54)::.blk b10 (.cells (enc o).toArray 125)::.blk b8 (.cells #[fv] 23)::D1 bm (e++ps)::.blk b4 (.cells #[.pointer (some ⟨b,0,none⟩)] 117)::.blk b (E0 vs vg vt vr bm)::.own fv 9 1 (A8 (ps.map (·.1)))::(F4 vr L++(CAP++S))) w:=hw
  repeat(first|refine l6 ?_|refine B6 ?_|(refine B7 ?_;intro w hw))
  refine PT (by kernel_rfl) (by kernel_rfl) hw ?_
  refine Hd ?_;refine qG ?_ (hy:=by intro hc w hw;exact T3 (hV.rd (Wd.tl7 hw)) A9 A9 I9 I9)
  refine qG ?_ (hy:=by intro hc w hw;exact K7 A9 (hV.rd (Wd.tl7 hw)) (B1 hxk))
  refine qG ?_ (hy:=by intro hc w hw;exact Cp (a:=(D2 (e++ps) o.Var).getD default) (b:=x) A9 A9 rfl)
  refine Hd ?_;clear hw;intro w hw;refine CW rfl (fun h=>?_) (fun h=>?_)
  ·rw[PL h0 h]at hbd;repeat(first|refine l6 ?_|refine B6 ?_|(refine B7 ?_;intro w hw))
   refine fun a ha hs=>fin ps fv vr L rs w a hps hL ?_ hw.drop.drop
   unfold J3;rw[hbd,List.append_nil]
  have h1:=h
  clear h;repeat(first|refine l6 ?_|refine B6 ?_|(refine B7 ?_;intro w hw))
  refine CW rfl (fun h=>?_) (fun h=>?_)
  ·have hs:(D2 (e++ps) o.Var).isSome=false:=by simpa using h
   have hn:D2 (e++ps) o.Var=none:=by simpa using hs
   have hnk:=IA hn
   rw[ME h0 hs]at hbd;clear h;repeat(first|refine l6 ?_|refine B6 ?_|(refine B7 ?_;intro w hw))
   refine RE (.blk b10 (.cells (enc o).toArray 125)::.blk b4 (.cells #[.pointer (some ⟨b,0,none⟩)] 117)::.blk b (E0 vs vg vt vr bm)::.blk b8 (.cells #[fv] 23)::.own fv 9 1 (A8 (ps.map (·.1)))::.blk b11 (.cells (enc ((D2 (e++ps) o.Var).getD default)).toArray 54)::(F4 vr L++(CAP++S))) [D1 bm (e++ps)] [] [[],[],[],[],[],[],[],[],[],[],[0]] (hw.perm M8) ?_
   refine i9 ?_;refine mY ?_ (hy:=fun Y w g hw=>T3 (hV.rd (Wd.tl6 hw.left)) rfl rfl (by omega) (by omega))
   refine mY ?_ (hy:=fun Y w g hw=>K7 rfl (hV.rd (Wd.tl6 hw.left)) (B1 hxk))
   refine Z2 (φ:=fun (_:Unit) _=>True) (R:=fun _=>[D1 bm (e++ps)]) (v:=undef) (T':=Unit) (fun _ _=>True) (fun _=>[D1 bm (e++(ps++[(o.Var,x)]))]) (fun t g w Y _ hw=>?_) ?_
   ·refine T8 (v:=x) (i:=0) (l:=e++ps) hw rfl rfl rfl rfl fun w' hw'=>⟨(),trivial,(fun _=>rfl),?_⟩
    rw[OU hnk,List.append_assoc]at hw';exact hw'
   refine y6 fun t w g _ hw=>?_
   have hw:Wd Γ ([D1 bm (e++(ps++[(o.Var,x)]))]++(.blk b10 (.cells (enc o).toArray 125)::.blk b4 (.cells #[.pointer (some ⟨b,0,none⟩)] 117)::.blk b (E0 vs vg vt vr bm)::.blk b8 (.cells #[fv] 23)::.own fv 9 1 (A8 (ps.map (·.1)))::.blk b11 (.cells (enc ((D2 (e++ps) o.Var).getD default)).toArray 54)::(F4 vr L++(CAP++S)))) w:=hw
   have hw:Wd Γ (.own fv 9 1 (A8 (ps.map (·.1)))::.blk b8 (.cells #[fv] 23)::.blk b11 (.cells (enc ((D2 (e++ps) o.Var).getD default)).toArray 54)::.blk b10 (.cells (enc o).toArray 125)::D1 bm (e++(ps++[(o.Var,x)]))::.blk b4 (.cells #[.pointer (some ⟨b,0,none⟩)] 117)::.blk b (E0 vs vg vt vr bm)::(F4 vr L++(CAP++S))) w:=hw.perm M8
   obtain⟨fa,fn,fc,rfl,hfn,hfc,hfb⟩:=hw.own_shape (i:=0) rfl
   simp only[List.length_map]at hfn
   repeat(first|refine l6 ?_|refine B6 ?_|(refine B7 ?_;intro w hw))
   refine D7 [[.string o.Var]] ?_
   intro q2 w hw;refine Bp (i:=1) (rows2:=[[.string o.Var]]) ?_ (Wd.own_rd (i:=0) hw rfl)
   intro fv' w hw;have hw:Wd Γ (.own (.slice (some q2) 1 1) 9 1 [[.string o.Var]]::.own fv' 9 1 (A8 (ps.map (·.1))++[[.string o.Var]])::.blk b8 (.cells #[.slice fa fn fc] 23)::.blk b11 (.cells (enc ((D2 (e++ps) o.Var).getD default)).toArray 54)::.blk b10 (.cells (enc o).toArray 125)::D1 bm (e++(ps++[(o.Var,x)]))::.blk b4 (.cells #[.pointer (some ⟨b,0,none⟩)] 117)::.blk b (E0 vs vg vt vr bm)::(F4 vr L++(CAP++S))) w:=hw
   obtain⟨fa',fn',fc',rfl,-,-,-⟩:=hw.own_shape (i:=1) rfl
   repeat(first|refine l6 ?_|refine B6 ?_|(refine B7 ?_;intro w hw))
   refine B0 (i:=2) ?_
   intro w hw;have hw:Wd Γ (.own (.slice (some q2) 1 1) 9 1 [[.string o.Var]]::.own (.slice fa' fn' fc') 9 1 (A8 (ps.map (·.1))++[[.string o.Var]])::.blk b8 (.cells #[(.slice fa' fn' fc')] 23)::.blk b11 (.cells (enc ((D2 (e++ps) o.Var).getD default)).toArray 54)::.blk b10 (.cells (enc o).toArray 125)::D1 bm (e++(ps++[(o.Var,x)]))::.blk b4 (.cells #[.pointer (some ⟨b,0,none⟩)] 117)::.blk b (E0 vs vg vt vr bm)::(F4 vr L++(CAP++S))) w:=hw
   have hw1:Wd Γ (.own (.slice fa' fn' fc') 9 1 (A8 (ps.map (·.1))++[[.string o.Var]])::.blk b8 (.cells #[(.slice fa' fn' fc')] 23)::D1 bm (e++(ps++[(o.Var,x)]))::.blk b4 (.cells #[.pointer (some ⟨b,0,none⟩)] 117)::.blk b (E0 vs vg vt vr bm)::(F4 vr L++(CAP++S))) w:=hw.ds [0,2,2]
   have hrow:A8 (ps.map (·.1))++[[.string o.Var]]=A8 ((ps++[(o.Var,x)]).map (·.1)):=by
    unfold A8;rw[List.map_append,List.map_append];rfl
   rw[hrow]at hw1;repeat(first|refine l6 ?_|refine B6 ?_|(refine B7 ?_;intro w hw))
   refine⟨rfl,μ-1,by omega,k+1,ps++[(o.Var,x)],(.slice fa' fn' fc'),by omega,⟨rfl,rfl,rfl,rfl,rfl,rfl,rfl,trivial⟩,?_,by rw[List.length_append];simp;omega,?_,?_,hw1.perm M8⟩
   ·intro p hp;rcases List.mem_append.1 hp with h1|h1
    ·exact hps p h1
    ·rw[List.mem_singleton.1 h1];exact fun hm=>hnk (by rw[List.map_append];exact List.mem_append_left _ hm)
   ·rw[←List.append_assoc];exact hek.snoc (fun e=>h0 (Or.inl e)) hxo
   ·rw[←List.append_assoc];exact hbd
  have hs:(D2 (e++ps) o.Var).isSome=true:=by simpa using h
  rw[Jk h0 h1 hs]at hbd;repeat(first|refine l6 ?_|refine B6 ?_|(refine B7 ?_;intro w hw))
  exact⟨rfl,μ-1,by omega,k+1,ps,fv,by omega,⟨rfl,rfl,rfl,rfl,rfl,rfl,rfl,trivial⟩,hps,by omega,hek,hbd,hw.drop.drop⟩
 have hkn:n≤k:=by have:=of_decide_eq_false h;omega
 rw[E3 os (by omega),E3 xs (by omega)]at hbd
 have hbd:Q8 e os xs=some (e++ps):=hbd.trans rfl
 have hwS:J3 φ e os xs=φ (e++ps):=by
  unfold J3;rw[hbd]
 repeat(first|refine l6 ?_|refine B6 ?_|(refine B7 ?_;intro w hw))
 have hw1:Wd Γ (.blk b (E0 vs vg vt vr bm)::(F4 vr L++(D1 bm (e++ps)::(CAP++(.blk b8 (.cells #[fv] 23)::.own fv 9 1 (A8 (ps.map (·.1)))::.blk b4 (.cells #[.pointer (some ⟨b,0,none⟩)] 117)::S))))) w:=hw.perm M8
 have hw2:Wd Γ (SV b bm vs vg vt rs::D1 bm (e++ps)::(CAP++(.blk b8 (.cells #[fv] 23)::.own fv 9 1 (A8 (ps.map (·.1)))::.blk b4 (.cells #[.pointer (some ⟨b,0,none⟩)] 117)::S))) w:=R8 hL hw1
 refine Ae (fst:=[]) (cap:=cap) ?_
 refine((hq (e++ps) rs (.blk b8 (.cells #[fv] 23)::.own fv 9 1 (A8 (ps.map (·.1)))::.blk b4 (.cells #[.pointer (some ⟨b,0,none⟩)] 117)::S) w hek (by rw[←hwS];exact hrs) hw2).mono fun r w hr=>?_)
 obtain⟨rfl,hw3⟩:=hr;refine⟨_,rfl,?_⟩;clear hw hw1 hw2;obtain⟨vr',L',hL',hw⟩:=s9 hw3
 clear hw3 hL;repeat(first|refine l6 ?_|refine B6 ?_|(refine B7 ?_;intro w hw))
 refine fun a ha hs=>fin ps fv vr' L' (rs++φ (e++ps)) w a hps hL' (by rw[hwS]) ?_
 exact hw.perm M8
end Go.Proofs.YtlimglpjpcfpdaaGreat
end
section
open Go Mk
namespace Go.Proofs.YtlimglpjpcfpdaaGreat
set_option maxHeartbeats 16000000
attribute [local irreducible] Calls cI cB
theorem JH{Γ:B8}{S:List A7}{w:World}{q:Nat}[B5 Tryz.prog q]{cap:List Value}{v:Value}(p:C1→Bool)(fs:List C1)(hcl:∀x∈fs,∀w,Wd Γ S w→Calls Tryz.prog q (.agg (cF x).toArray::cap).toArray w fun e w'=>e=.returned (.bool (p x))∧Wd Γ S w')(hr:D3 Γ v 2 (fs.map cF))(hw:Wd Γ S w) :
  Calls Tryz.prog 228 #[v,.func (.func q) #[] cap.toArray] w fun e w'=>∃i:Int,e=.returned (.int .i64 i)∧decide (0≤i)=fs.any p∧Wd Γ S w':=by
 obtain⟨a,n,c,rfl,hn,hnc,hc⟩:=hr.shape;simp only[List.length_map]at hn
 refine A3 Tryz.func228 rfl rfl ?_
 refine A4 ?_;refine C8 (fun μ ρ w=>∃(k:Nat),μ+k=n∧Has ρ [(0,.slice a n c),(1,.func (.func q) #[] cap.toArray),(7,.int .i64 n),(8,.int .i64 k)]∧(∀j x,j<k→fs[j]? = some x→p x=false)∧Wd Γ S w) n ⟨0,by omega,⟨rfl,rfl,rfl,rfl,trivial⟩,fun j x hj=>by omega,hw⟩ ?_
 clear hw;rintro μ ρ w ⟨k,hk,hρ,hno,hw⟩
 rw[hρ.eq];refine A4 ?_;refine A0 rfl (fun h=>?_) (fun h=>?_)
 ·have hkn:k<n:=by have:=of_decide_eq_true h;omega
  obtain⟨x,hx⟩:=C0 (l:=fs) (k:=k) (by omega)
  refine A4 ?_;refine Ae (fst:=[]) (cap:=cap) (vs:=[.agg (cF x).toArray]) ?_
  refine(hcl x (List.mem_of_getElem? hx) w hw).mono ?_
  clear hw;rintro e w ⟨rfl,hw⟩
  refine⟨_,rfl,?_⟩;refine A4 ?_;refine A0 rfl (fun h2=>?_) (fun h2=>?_)
  ·refine A4 ?_;refine⟨_,rfl,_,rfl,?_,hw⟩
   rw[decide_eq_true (by omega:(0:Int)≤(k:Int)),List.any_eq_true.2 ⟨x,List.mem_of_getElem? hx,h2⟩]
  ·refine A4 ?_;refine⟨μ-1,by omega,k+1,by omega,⟨rfl,rfl,rfl,rfl,trivial⟩,fun j y hj hy=>?_,hw⟩
   by_cases e:j=k
   ·subst e;rw[hx]at hy;cases hy;exact h2
   ·exact hno j y (by omega) hy
 ·have hkn:¬k<n:=by have:=of_decide_eq_false h;omega
  refine A4 ?_;refine⟨_,rfl,-1,rfl,?_,hw⟩
  rw[decide_eq_false (by omega),eq_comm,List.any_eq_false]
  intro x hx;obtain⟨j,hj⟩:=List.mem_iff_getElem?.1 hx
  have hlt:=(List.getElem?_eq_some_iff.1 hj).1
  rw[hno j x (by omega) hj];simp
theorem En{Γ:B8}{S:List A7}{w:World}{q:Nat}[B5 Tryz.prog q]{cap:List Value}{v:Value}(p:C1→Bool)(fs:List C1)(hcl:∀x∈fs,∀w,Wd Γ S w→Calls Tryz.prog q (.agg (cF x).toArray::cap).toArray w fun e w'=>e=.returned (.bool (p x))∧Wd Γ S w')(hr:D3 Γ v 2 (fs.map cF))(hw:Wd Γ S w) :
  Calls Tryz.prog 160 #[v,.func (.func q) #[] cap.toArray] w fun e w'=>e=.returned (.bool (fs.any p))∧Wd Γ S w':=by
 obtain⟨a,n,c,rfl,-,-,-⟩:=hr.shape;refine A3 Tryz.func160 rfl rfl ?_
 refine A4 ?_;refine C5 (vs:=[.slice a n c,.func (.func q) #[] cap.toArray]) ((JH p fs hcl hr hw).mono fun e w hq=>?_)
 obtain⟨i,rfl,hi,hw⟩:=hq;refine⟨_,rfl,?_⟩;refine A4 ?_;exact⟨_,rfl,G7 rfl hi,hw⟩
structure Ql(Γ:B8)(vs vg vt:Value)(gs:List H4)(ts:List (Value×List C1))(db:List I3)(q:E7):Prop where
 qr:QR Γ vs vg gs q
 qok:CQ q
 tab:D3 Γ vt 1 (ts.map fun t=>[t.1])
 len:ts.length=gs.length
 rl:∀t∈ts,RL Γ t.1 t.2
 eq:∀(k:Nat) x t,gs[k]? = some x→ts[k]? = some t→facts t.2=R5 db x.g
 ar:∀x∈gs,F7 x.g=true→∀f∈R5 db x.g,x.g.Args.length=f.2.length
theorem EG{db:List I3}{g:F5}:∀f∈R5 db g,g.Args.length=f.2.length:=by
 intro f hf;unfold R5 at hf;split at hf
 ·unfold MA ID at hf;have:=(List.mem_filter.1 hf).2
  simp only[Bool.and_eq_true,decide_eq_true_eq]at this
  omega
 ·cases hf
theorem NE{α:Type}{A:List α}{z x:α}{k m:Nat}(h:A.length=k)(hm:0<m):(A++List.replicate m z).set k x=(A++[x])++List.replicate (m-1) z:=by
 obtain⟨m,rfl⟩:∃n,m=n+1:=⟨m-1,by omega⟩
 rw[List.set_append_right _ _ (by omega),h,Nat.sub_self,List.replicate_succ,List.set_cons_zero,List.append_assoc];rfl
section
variable {Γ:B8}{vs vg vt:Value}{gs:List H4}{ts:List (Value×List C1)}{db:List I3}{q:E7}
theorem Ql.glen(h:Ql Γ vs vg vt gs ts db q):gs.length≤1000:=by
 have:=h.qok.len
 rw[←h.qr.eq,List.length_map]at this;exact this
theorem Ql.goal(h:Ql Γ vs vg vt gs ts db q){x:H4}(hx:x∈gs):Og x.g:=
 h.qok.goals _ (by rw[←h.qr.eq];exact List.mem_map_of_mem (f:=(·.g)) hx)
theorem P7{α:Type}{p:α→Bool}{l:List α}{k:Nat}{x:α}(h:l[k]? = some x):(l.drop k).all p=(p x&&(l.drop (k+1)).all p):=by
 rw[K5 h,List.all_cons]
theorem Ek(h:Ql Γ vs vg vt gs ts db q){k:Nat}{x:H4}(hx:gs[k]? = some x):(J2 db q)[k]? = some (x.g,R5 db x.g):=by
 unfold J2;rw[←h.qr.eq,List.getElem?_map,List.getElem?_map,hx];rfl
theorem FB(h:Ql Γ vs vg vt gs ts db q):(J2 db q).length=gs.length:=by
 unfold J2;rw[←h.qr.eq,List.length_map,List.length_map]
theorem Lt{e:Env}{os:List K0}{fs:List C1}{tb:List I3}(h:facts fs=tb):(fs.any fun f=>L6 e os f.Args)=tb.any fun f=>L6 e os f.2:=by
 rw[←h];unfold facts;rw[List.any_map];rfl
end
theorem Ri{Γ:B8}{S:List A7}{w:World}{b b1 b3 bm:Nat}{vs vg vt vr:Value}{e:Env}{g:F5}{A:Option Addr}{N C:Nat}(hg:LB Γ ⟨g,A,N,C⟩)(hgo:Og g){f:C1}(hf:Bt Γ f)(hfo:AU f.fact)(hlen:g.Args.length=f.Args.length)(hn:D2 e D8=none)(hw:Wd Γ (.blk b3 (.cells (cG ⟨g,A,N,C⟩).toArray 127)::.blk b1 (.cells #[.pointer (some ⟨b,0,none⟩)] 117)::.blk b (E0 vs vg vt vr bm)::D1 bm e::S) w) :
  Calls Tryz.prog 161 #[.agg (cF f).toArray,.pointer (some ⟨b1,0,none⟩),.pointer (some ⟨b3,0,none⟩)] w fun r w'=>r=.returned (.bool (L6 e g.Args f.Args))∧Wd Γ (.blk b3 (.cells (cG ⟨g,A,N,C⟩).toArray 127)::.blk b1 (.cells #[.pointer (some ⟨b,0,none⟩)] 117)::.blk b (E0 vs vg vt vr bm)::D1 bm e::S) w':=by
 have hF:=fun (S':List A7) (w:World) (hw:Wd Γ (.blk b (E0 vs vg vt vr bm)::D1 bm e::S') w)=>JM (va:=.slice A N C) (os:=g.Args) (f:=f) hg hgo.args hf hfo hlen hn hgo.len hw
 obtain⟨fr,fa,fn,fc,xs⟩:=f;refine A3 Tryz.func161 rfl rfl ?_
 refine A4 ?_;refine E5 ?_;intro b4 w hw;have hw:Wd Γ (.blk b4 (.cells #[.string fr,.slice fa fn fc] 135)::.blk b3 (.cells (cG ⟨g,A,N,C⟩).toArray 127)::.blk b1 (.cells #[.pointer (some ⟨b,0,none⟩)] 117)::.blk b (E0 vs vg vt vr bm)::D1 bm e::S) w:=hw
 refine A4 ?_;have hw1:Wd Γ (.blk b (E0 vs vg vt vr bm)::D1 bm e::(.blk b4 (.cells #[.string fr,.slice fa fn fc] 135)::.blk b3 (.cells (cG ⟨g,A,N,C⟩).toArray 127)::.blk b1 (.cells #[.pointer (some ⟨b,0,none⟩)] 117)::S)) w:=hw.perm M8
 refine C5 (vs:=[.pointer (some ⟨b,0,none⟩),.slice A N C,.agg (cF ⟨fr,fa,fn,fc,xs⟩).toArray]) ((hF _ w hw1).mono fun r w hq=>?_)
 clear hw hw1;obtain⟨rfl,hw⟩:=hq;have hw:Wd Γ (.blk b4 (.cells #[.string fr,.slice fa fn fc] 135)::.blk b3 (.cells (cG ⟨g,A,N,C⟩).toArray 127)::.blk b1 (.cells #[.pointer (some ⟨b,0,none⟩)] 117)::.blk b (E0 vs vg vt vr bm)::D1 bm e::S) w:=hw.perm M8
 refine⟨_,rfl,?_⟩;refine A4 ?_;exact⟨_,rfl,rfl,hw.drop⟩
theorem Jh{Γ:B8}{S:List A7}{w:World}{b bm:Nat}{vs vg vt:Value}{gs:List H4}{ts:List (Value×List C1)}{db:List I3}{q:E7}{rs:List (List Val)}{e:Env}(hS:Ql Γ vs vg vt gs ts db q)(he:W5 e)(hrs:rs.length+(u3 (J2 db q) q.Sel e).length≤1000000)
  (hw:Wd Γ (SV b bm vs vg vt rs::D1 bm e::S) w) :
  Calls Tryz.prog 108 #[.pointer (some ⟨b,0,none⟩)] w fun r w'=>r=.returned (.tuple #[])∧Wd Γ (SV b bm vs vg vt (rs++u3 (J2 db q) q.Sel e)::D1 bm e::S) w':=by
 obtain⟨ga,gn,gc,rfl,hgn,hgnc,hgc⟩:=hS.qr.goals.shape;obtain⟨sa,sn,sc,rfl,hsn,hsnc,hsc⟩:=hS.qr.sel.shape;obtain⟨ta,tn,tc,rfl,htn,htnc,htc⟩:=hS.tab.shape;simp only[List.length_map]at hgn hsn htn
 have hrG:=hS.qr.goals
 have hrS:=hS.qr.sel
 have hrT:=hS.tab
 have hgl:=hS.glen
 have htl:=hS.len
 have hsl:=hS.qok.sel
 obtain⟨vr,L,hL,hw⟩:=s9 hw
 refine A3 Tryz.func108 rfl rfl ?_
 refine A4 ?_;refine E5 ?_;intro b1 w hw;have hw:Wd Γ (.blk b1 (.cells #[.pointer (some ⟨b,0,none⟩)] 117)::.blk b (E0 (.slice sa sn sc) (.slice ga gn gc) (.slice ta tn tc) vr bm)::(F4 vr L++(D1 bm e::S))) w:=hw
 have hw:Wd Γ (.blk b1 (.cells #[.pointer (some ⟨b,0,none⟩)] 117)::.blk b (E0 (.slice sa sn sc) (.slice ga gn gc) (.slice ta tn tc) vr bm)::D1 bm e::(F4 vr L++S)) w:=hw.perm M8
 refine A4 ?_;refine C8 (fun μ ρ w=>∃(k:Nat),μ+k=gn∧Has ρ [(1,.pointer (some ⟨b1,0,none⟩)),(11,.slice ga gn gc),(12,.int .i64 gn),(13,.int .i64 k)]∧(J2 db q).all (Q9 e)=((J2 db q).drop k).all (Q9 e)∧Wd Γ (.blk b1 (.cells #[.pointer (some ⟨b,0,none⟩)] 117)::.blk b (E0 (.slice sa sn sc) (.slice ga gn gc) (.slice ta tn tc) vr bm)::D1 bm e::(F4 vr L++S)) w) gn ⟨0,by omega,⟨rfl,rfl,rfl,rfl,trivial⟩,rfl,hw⟩ ?_
 clear hw;rintro μ ρ w ⟨k,hk,hρ,hall,hw⟩
 rw[hρ.eq];clear hρ;have stop:∀w,(J2 db q).all (Q9 e)=false→Wd Γ (.blk b1 (.cells #[.pointer (some ⟨b,0,none⟩)] 117)::.blk b (E0 (.slice sa sn sc) (.slice ga gn gc) (.slice ta tn tc) vr bm)::D1 bm e::(F4 vr L++S)) w→Wd Γ (SV b bm (.slice sa sn sc) (.slice ga gn gc) (.slice ta tn tc) (rs++u3 (J2 db q) q.Sel e)::D1 bm e::S) w:=by
  intro w h0 hw;unfold u3;rw[h0];simp only[Bool.false_eq_true,if_false,List.append_nil]
  refine R8 (vr:=vr) hL ?_
  have hw:Wd Γ (.blk b (E0 (.slice sa sn sc) (.slice ga gn gc) (.slice ta tn tc) vr bm)::D1 bm e::(F4 vr L++S)) w:=hw.drop
  exact hw.perm M8
 refine A4 ?_;refine A0 rfl (fun h=>?_) (fun h=>?_)
 ·have hkn:k<gn:=by have:=of_decide_eq_true h;omega
  clear h;obtain⟨x,hx⟩:=C0 (l:=gs) (k:=k) (by omega)
  obtain⟨t,ht⟩:=C0 (l:=ts) (k:=k) (by omega)
  have hxm:=List.mem_of_getElem? hx
  have htm:=List.mem_of_getElem? ht
  have hgok:=hS.qr.ok x hxm
  have hgoal:=hS.goal hxm
  have hRL:=hS.rl t htm
  have heq:=hS.eq k x t hx ht
  have har:=EG (db:=db) (g:=x.g)
  rw[P7 (Ek hS hx)]at hall;obtain⟨g,A,N,C⟩:=x;simp only at hgoal heq har
  refine A4 ?_;refine B2 ?_;intro b3 w hw;refine A4 ?_;refine B0 ?_;intro w hw;have hw:Wd Γ (.blk b3 (.cells (cG ⟨g,A,N,C⟩).toArray 127)::.blk b1 (.cells #[.pointer (some ⟨b,0,none⟩)] 117)::.blk b (E0 (.slice sa sn sc) (.slice ga gn gc) (.slice ta tn tc) vr bm)::D1 bm e::(F4 vr L++S)) w:=hw
  refine A4 ?_;refine A0 rfl (fun h=>?_) (fun h=>?_)
  ·have hk3:g.Kind=3:=of_decide_eq_true h
   have hdone:Q9 e (g,R5 db g)=w6 g (DG e g.L) (DG e g.R):=by
    unfold Q9;rw[if_pos hk3]
   have hvl:d3 (DG e g.L):=by
    unfold DG;split
    ·exact he.get _
    ·exact hgoal.l.2
   have hvr:d3 (DG e g.R):=by
    unfold DG;split
    ·exact he.get _
    ·exact hgoal.r.2
   have p1:∀o:K0,PS Tryz.prog Γ (.blk b3 (.cells (cG ⟨g,A,N,C⟩).toArray 127)::.blk b1 (.cells #[.pointer (some ⟨b,0,none⟩)] 117)::.blk b (E0 (.slice sa sn sc) (.slice ga gn gc) (.slice ta tn tc) vr bm)::D1 bm e::(F4 vr L++S)) 159 [.pointer (some ⟨b,0,none⟩),.agg (enc o).toArray] (.agg (enc (DG e o)).toArray):=fun o=>⟨fun Y w hw=>by
    have hw1:Wd Γ (.blk b (E0 (.slice sa sn sc) (.slice ga gn gc) (.slice ta tn tc) vr bm)::D1 bm e::(.blk b3 (.cells (cG ⟨g,A,N,C⟩).toArray 127)::.blk b1 (.cells #[.pointer (some ⟨b,0,none⟩)] 117)::(F4 vr L++(S++Y)))) w:=hw.perm M8
    exact(MH (o:=o) hw1).mono fun r w' ⟨h1,h2⟩=>⟨h1,h2.perm M8⟩⟩
   have p1l:=p1 g.L
   have p1r:=p1 g.R
   have p2:=OO (Γ:=Γ) (x:=⟨g,A,N,C⟩) hgoal.off hvl hvr
   refine A4 ?_;refine L4 (by kernel_rfl) (by kernel_rfl) hw ?_
   repeat(first|(first|refine Al ?_|(apply O5;first|(apply U3;first|refine qP ?_|refine OD ?_)|refine qY ?_)|(apply J0;first|(apply U3;first|refine NG ?_|refine FX ?_)|refine qG ?_))|(apply O5;apply U3;refine Tt ?_)|(apply J0;apply U3;refine TO ?_))
   refine Tt (hp:=p1l) ?_
   repeat(first|(first|refine Al ?_|(apply O5;first|(apply U3;first|refine qP ?_|refine OD ?_)|refine qY ?_)|(apply J0;first|(apply U3;first|refine NG ?_|refine FX ?_)|refine qG ?_))|(apply O5;apply U3;refine Tt ?_)|(apply J0;apply U3;refine TO ?_))
   refine Tt (hp:=p1r) ?_
   repeat(first|(first|refine Al ?_|(apply O5;first|(apply U3;first|refine qP ?_|refine OD ?_)|refine qY ?_)|(apply J0;first|(apply U3;first|refine NG ?_|refine FX ?_)|refine qG ?_))|(apply O5;apply U3;refine Tt ?_)|(apply J0;apply U3;refine TO ?_))
   clear hw;intro w hw;have hw:Wd Γ (.blk b3 (.cells (cG ⟨g,A,N,C⟩).toArray 127)::.blk b1 (.cells #[.pointer (some ⟨b,0,none⟩)] 117)::.blk b (E0 (.slice sa sn sc) (.slice ga gn gc) (.slice ta tn tc) vr bm)::D1 bm e::(F4 vr L++S)) w:=hw
   refine A0 rfl (fun h=>?_) (fun h=>?_)
   ·refine A4 ?_;refine⟨_,rfl,rfl,stop w ?_ hw.drop⟩
    have h0:Q9 e (g,R5 db g)=false:=by rw[hdone];simpa using h
    rw[hall,h0,Bool.false_and]
   ·have h0:Q9 e (g,R5 db g)=true:=by rw[hdone];simpa using h
    rw[h0,Bool.true_and]at hall;refine A4 ?_;exact⟨μ-1,by omega,k+1,by omega,⟨rfl,rfl,rfl,rfl,trivial⟩,hall,hw.drop⟩
  have hk3:¬g.Kind=3:=of_decide_eq_false h
  clear h;refine A4 ?_;refine A0 rfl (fun h=>?_) (fun h=>?_)
  ·have hk2:g.Kind=2:=of_decide_eq_true h
   have hdone:Q9 e (g,R5 db g) = !((R5 db g).any fun f=>L6 e g.Args f.2):=by
    unfold Q9;rw[if_neg hk3,if_pos hk2]
   obtain⟨tv,fs⟩:=t;obtain⟨fa,fc,htv,hfc1,hfc2⟩:=hRL.len;simp only at heq htv hfc1 hfc2
   subst htv;have hcl:∀f∈fs,∀w,Wd Γ (.blk b3 (.cells (cG ⟨g,A,N,C⟩).toArray 127)::.blk b1 (.cells #[.pointer (some ⟨b,0,none⟩)] 117)::.blk b (E0 (.slice sa sn sc) (.slice ga gn gc) (.slice ta tn tc) vr bm)::D1 bm e::(F4 vr L++S)) w→Calls Tryz.prog 161 (.agg (cF f).toArray::[.pointer (some ⟨b1,0,none⟩),.pointer (some ⟨b3,0,none⟩)]).toArray w fun r w'=>r=.returned (.bool (L6 e g.Args f.Args))∧Wd Γ (.blk b3 (.cells (cG ⟨g,A,N,C⟩).toArray 127)::.blk b1 (.cells #[.pointer (some ⟨b,0,none⟩)] 117)::.blk b (E0 (.slice sa sn sc) (.slice ga gn gc) (.slice ta tn tc) vr bm)::D1 bm e::(F4 vr L++S)) w':=fun f hf w hw=>by
    obtain⟨h1,h2⟩:=hRL.ok f hf
    refine Ri hgok hgoal h1 h2 ?_ he.noKey hw
    have hm:f.fact∈R5 db g:=by rw[←heq];exact List.mem_map_of_mem (f:=C1.fact) hf
    exact EG _ hm
   refine A4 ?_;refine C5 (vs:=[.slice fa fs.length fc,.func (.func 161) #[] #[.pointer (some ⟨b1,0,none⟩),.pointer (some ⟨b3,0,none⟩)]]) ((En (fun f=>L6 e g.Args f.Args) fs hcl hRL.rep hw).mono fun r w hq=>?_)
   clear hw;obtain⟨rfl,hw⟩:=hq;refine⟨_,rfl,?_⟩;rw[Lt heq];refine A4 ?_;refine A0 rfl (fun h=>?_) (fun h=>?_)
   ·refine A4 ?_;refine⟨_,rfl,rfl,stop w ?_ hw.drop⟩
    have h0:Q9 e (g,R5 db g)=false:=by rw[hdone,h];rfl
    rw[hall,h0,Bool.false_and]
   ·have h0:Q9 e (g,R5 db g)=true:=by rw[hdone,h];rfl
    rw[h0,Bool.true_and]at hall;refine A4 ?_;exact⟨μ-1,by omega,k+1,by omega,⟨rfl,rfl,rfl,rfl,trivial⟩,hall,hw.drop⟩
  have hk2:¬g.Kind=2:=of_decide_eq_false h
  have h0:Q9 e (g,R5 db g)=true:=by
   unfold Q9;rw[if_neg hk3,if_neg hk2]
  rw[h0,Bool.true_and]at hall;refine A4 ?_;exact⟨μ-1,by omega,k+1,by omega,⟨rfl,rfl,rfl,rfl,trivial⟩,hall,hw.drop⟩
 have hkn:gn≤k:=by have:=of_decide_eq_false h;omega
 rw[E3 _ (by rw[FB hS];omega)]at hall
 have hall:(J2 db q).all (Q9 e)=true:=hall
 have hfin:u3 (J2 db q) q.Sel e=[Cm q.Sel e]:=by
  unfold u3;rw[if_pos hall]
 rw[hfin]at hrs ⊢
 clear stop h;simp only[List.length_singleton]at hrs
 refine A4 ?_;refine Js (len:=sn) ?_
 intro q4 w hw;have hw:Wd Γ (.own (.slice (some q4) sn sn) 54 3 ((q.Sel.take 0).map (fun s=>enc (W6 e s))++List.replicate (sn-0) (enc N3))::.blk b1 (.cells #[.pointer (some ⟨b,0,none⟩)] 117)::.blk b (E0 (.slice sa sn sc) (.slice ga gn gc) (.slice ta tn tc) vr bm)::D1 bm e::(F4 vr L++S)) w:=hw
 refine A4 ?_;refine C8 (fun μ ρ w=>∃(k:Nat),μ+k=sn∧Has ρ [(1,.pointer (some ⟨b1,0,none⟩)),(4,.slice (some q4) sn sn),(56,.slice sa sn sc),(57,.int .i64 sn),(58,.int .i64 k)]∧Wd Γ (.own (.slice (some q4) sn sn) 54 3 ((q.Sel.take k).map (fun s=>enc (W6 e s))++List.replicate (sn-k) (enc N3))::.blk b1 (.cells #[.pointer (some ⟨b,0,none⟩)] 117)::.blk b (E0 (.slice sa sn sc) (.slice ga gn gc) (.slice ta tn tc) vr bm)::D1 bm e::(F4 vr L++S)) w) sn ⟨0,by omega,⟨rfl,rfl,rfl,rfl,rfl,trivial⟩,hw⟩ ?_
 clear hw;rintro μ ρ w ⟨k,hk,hρ,hw⟩
 rw[hρ.eq];clear hρ;refine A4 ?_;refine A0 rfl (fun h=>?_) (fun h=>?_)
 ·have hkn:k<sn:=by have:=of_decide_eq_true h;omega
  clear h;obtain⟨s,hs⟩:=C0 (l:=q.Sel) (k:=k) (by omega)
  refine A4 ?_;refine EK (k:=k) (r:=enc (W6 e s)) ?_
  intro w hw;have hset:((q.Sel.take k).map (fun s=>enc (W6 e s))++List.replicate (sn-k) (enc N3)).set k (enc (W6 e s))=(q.Sel.take (k+1)).map (fun s=>enc (W6 e s))++List.replicate (sn-(k+1)) (enc N3):=by
   rw[NE (by rw[List.length_map,List.length_take];omega) (by omega),List.take_add_one,hs,List.map_append];rfl
  rw[hset]at hw;have hw:Wd Γ (.own (.slice (some q4) sn sn) 54 3 ((q.Sel.take (k+1)).map (fun s=>enc (W6 e s))++List.replicate (sn-(k+1)) (enc N3))::.blk b1 (.cells #[.pointer (some ⟨b,0,none⟩)] 117)::.blk b (E0 (.slice sa sn sc) (.slice ga gn gc) (.slice ta tn tc) vr bm)::D1 bm e::(F4 vr L++S)) w:=hw
  refine A4 ?_;exact⟨μ-1,by omega,k+1,by omega,⟨rfl,rfl,rfl,rfl,rfl,trivial⟩,hw⟩
 have hkn:sn≤k:=by have:=of_decide_eq_false h;omega
 have hkk:sn=k:=by omega
 subst hkk;have hrow:(q.Sel.take sn).map (fun s=>enc (W6 e s))++List.replicate (sn-sn) (enc N3)=(Cm q.Sel e).map enc:=by
  rw[List.take_of_length_le (by omega),Nat.sub_self,List.replicate_zero,List.append_nil]
  unfold Cm;rw[List.map_map];rfl
 rw[hrow]at hw;have hw:Wd Γ (.own vr 52 1 (L.map fun x=>[x.1])::.blk b1 (.cells #[.pointer (some ⟨b,0,none⟩)] 117)::.blk b (E0 (.slice sa sn sc) (.slice ga gn gc) (.slice ta tn tc) vr bm)::D1 bm e::.own (.slice (some q4) sn sn) 54 3 ((Cm q.Sel e).map enc)::(NP 54 3 L++S)) w:=by
  have h1:Wd Γ (.own (.slice (some q4) sn sn) 54 3 ((Cm q.Sel e).map enc)::.blk b1 (.cells #[.pointer (some ⟨b,0,none⟩)] 117)::.blk b (E0 (.slice sa sn sc) (.slice ga gn gc) (.slice ta tn tc) vr bm)::D1 bm e::(.own vr 52 1 (L.map fun x=>[x.1])::NP 54 3 L++S)) w:=hw
  exact h1.perm M8
 obtain⟨va,vn,vc,rfl,hvn,hvnc,hvc⟩:=hw.own_shape (i:=0) rfl
 have hLl:L.length=rs.length:=by
  have:=congrArg List.length hL
  simpa using this
 simp only[List.length_map]at hvn
 refine A4 ?_;refine HW [.blk b1 (.cells #[.pointer (some ⟨b,0,none⟩)] 117)] (.own (.slice va vn vc) 52 1 (L.map fun x=>[x.1])::.blk b (E0 (.slice sa sn sc) (.slice ga gn gc) (.slice ta tn tc) (.slice va vn vc) bm)::D1 bm e::.own (.slice (some q4) sn sn) 54 3 ((Cm q.Sel e).map enc)::(NP 54 3 L++S)) [[],[],[],[],[],[],[1],[0],[],[],[0]] [[],[],[],[],[0],[],[1],[0,1],[],[],[0]] [[80],[79]] (hw.perm M8) ?_
 repeat(first|refine mY ?_|refine mP ?_|refine D9 ?_|refine G6 ?_|refine K3 ?_)
 refine FW (cells:=[.slice (some q4) sn sn]) [[.slice (some q4) sn sn]] ?_
 refine RQ ?_
 repeat(first|refine mY ?_|refine mP ?_|refine D9 ?_|refine G6 ?_|refine K3 ?_)
 refine EJ (b:=b) (j:=1) (j2:=0) ?_
 refine K3 fun w g hw=>?_
 have hw:=Wd.dropEnd hw
 have hw:Wd Γ (.blk b1 (.cells #[.pointer (some ⟨b,0,none⟩)] 117)::.own (g 80) 52 1 (L.map (fun x=>[x.1])++[[.slice (some q4) sn sn]])::.blk b (E0 (.slice sa sn sc) (.slice ga gn gc) (.slice ta tn tc) (g 80) bm)::D1 bm e::.own (.slice (some q4) sn sn) 54 3 ((Cm q.Sel e).map enc)::(NP 54 3 L++S)) w:=hw
 refine⟨_,rfl,rfl,R8 (vr:=g 80) (L:=L++[(.slice (some q4) sn sn,(Cm q.Sel e).map enc)]) ?_ ?_⟩
 ·rw[List.map_append,hL,List.map_append];rfl
 have hl:(L++[(Value.slice (some q4) sn sn,(Cm q.Sel e).map enc)]).map (fun x=>[x.1])=L.map (fun x=>[x.1])++[[.slice (some q4) sn sn]]:=by rw[List.map_append];rfl
 have hi:NP 54 3 (L++[(Value.slice (some q4) sn sn,(Cm q.Sel e).map enc)])=NP 54 3 L++[.own (.slice (some q4) sn sn) 54 3 ((Cm q.Sel e).map enc)]:=by unfold NP;rw[List.map_append];rfl
 unfold F4;rw[hl,hi];have h1:Wd Γ (.own (g 80) 52 1 (L.map (fun x=>[x.1])++[[.slice (some q4) sn sn]])::.blk b (E0 (.slice sa sn sc) (.slice ga gn gc) (.slice ta tn tc) (g 80) bm)::D1 bm e::.own (.slice (some q4) sn sn) 54 3 ((Cm q.Sel e).map enc)::(NP 54 3 L++S)) w:=hw.drop
 exact h1.perm M8
end Go.Proofs.YtlimglpjpcfpdaaGreat
end
