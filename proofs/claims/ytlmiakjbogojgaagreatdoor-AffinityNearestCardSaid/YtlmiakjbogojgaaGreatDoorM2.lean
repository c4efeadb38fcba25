/- Texts of this proof, one behind another. -/
import Derived.Test.YtlmiakjbogojgaaGreatDoorM1
import Derived.RangeFuncRecord
import Derived.Maps.RangeRun
import Derived.Shelf.SlSortCmp.NoneTotal
import Derived.Shelf.SlMaps.Clone
import Derived.Defers
import Derived.Recover
import Derived.WalkSmall
import Derived.Scope
import Derived.Test.YtlmiakjbogojgaaGreatDoorChecked
import Derived.Laws.MakeOwn
import Derived.Lib.UnsafeStr
import Derived.Lib.Builder
import Derived.Below
set_option linter.unusedVariables false
set_option linter.unusedSimpArgs false
section
open Go
namespace Mk
def E8:List Nat→Fr→Fr→Fr
 | [],_,ρ=>ρ
 | d::N,g,ρ=>upd (E8 N g ρ) d (g d)
theorem K0{d:Nat}{g ρ:Fr}:∀ {N:List Nat},d∈N→E8 N g ρ d=g d
 | e::N,h=>by
  by_cases he:d=e
  ·subst he;exact upd_same _ _ _
  ·exact(upd_ne _ _ he).trans (K0 ((List.mem_cons.1 h).resolve_left he))
theorem GJ{d:Nat}{g ρ:Fr}:∀ {N:List Nat},d∉N→E8 N g ρ d=ρ d
 | [],_=>rfl
 | e::N,h=>(upd_ne _ _ (fun he=>h (by simp[he]))).trans (GJ fun hm=>h (by simp[hm]))
def D5:Fr:=fun _=>undef
structure Mt where
 ρ:Fr
 M:Nat→Fr→List B6
structure Mc where
 x:Value
 m:Nat→Fr→List B6
structure Y5 where
 P:Program
 n:Nat
 ops:List Oper
 Γ:C8
 K:List B6
 wr:List (List Nat)
 tc:List (List Nat)
 stab:List (List Nat)
 fixed:Bool
section
variable (V:Y5)
def Y5.w(i:Nat):List Nat:=V.wr.getD i []
def Y5.t(i:Nat):List Nat:=V.tc.getD i []
def Y5.s(x:Nat):List Nat:=V.stab.getD x []
def Y5.N:List Nat:=V.stab.flatten
def Y5.free(o:Oper):Bool:=match o.dst with|some d=>V.N.contains d|none=>true
def Y5.rl(Γ Γ':C8):Prop:=match V.fixed with|true=>Γ'=Γ|false=>Γ.le Γ'
def cellsOf(l:List Nat)(M:Nat→Fr→List B6)(g:Fr):List B6:=l.flatMap fun x=>M x (E8 (V.s x) g D5)
def Mt.nxt(i:Nat)(st:Mt)(c:Mc):Nat→Fr→List B6:=fun x=>bif (V.w i).contains x then c.m x else st.M x
def Mt.next(i:Nat)(st:Mt)(o:Oper)(c:Mc):Mt:=⟨D6 st.ρ o.dst c.x,Mt.nxt V i st c⟩
structure XA(i:Nat)(o:Oper)(st:Mt)(c:Mc):Prop where
 run:∀Γ' Y w g,V.rl V.Γ Γ'→Wd Γ' (V.K++(cellsOf V (V.t i) st.M g++Y)) w →
  (Y6 V.ops o (E8 V.N g st.ρ)=true→Step V.P o (E8 V.N g st.ρ) w fun v w'=>∃Γ'',V.rl Γ' Γ''∧Wd Γ'' (V.K++(cellsOf V (V.t i) (Mt.nxt V i st c) (D6 g o.dst v)++Y)) w'∧(V.free o=false→v=c.x)) ∧
  (Y6 V.ops o (E8 V.N g st.ρ)=false→Wd Γ' (V.K++(cellsOf V (V.t i) (Mt.nxt V i st c) (D6 g o.dst undef)++Y)) w∧(V.free o=false→undef=c.x))
def Gr(Q:Fr→World→Prop)(st:Mt):Prop:=∀Γ' w g,V.rl V.Γ Γ'→Wd Γ' (V.K++cellsOf V (List.range V.stab.length) st.M g) w→Q (E8 V.N g st.ρ) w
def MSw(Q:Fr→World→Prop):Nat→List Oper→Mt→Prop
 | _,[],st=>Gr V Q st
 | i,o::l,st=>∃c,XA V i o st c∧MSw Q (i+1) l (Mt.next V i st o c)
end
def clash(wr tc:List (List Nat))(i j:Nat):Bool:=(wr.getD i []).any (fun x=>(tc.getD j []).contains x)||(wr.getD j []).any fun x=>(tc.getD i []).contains x
def dup:List Nat→Bool
 | []=>false
 | x::l=>l.contains x||dup l
def R6(n:Nat)(ops:List Oper)(wr tc stab:List (List Nat)):Bool:=
  let A:=Gx [] ops
  (List.range ops.length).all fun j=>match ops[j]? with
    | none=>true
    | some oj=>(oj.after.toList.all fun e=>!Region.binds .any e||Nat.blt e.on j)&&BE.okNoSel oj&&(match oj.guard with|some (g,_)=>((ops[g]?).bind (·.dst)).isSome|none=>true)&&G7 n oj.dst &&
      ((wr.getD j []).all fun x=>(tc.getD j []).contains x)&&((tc.getD j []).all fun x=>Nat.blt x stab.length) && !dup (tc.getD j []) &&
      (match oj.dst with|some d=>(List.range stab.length).all fun x=>!((stab.getD x []).contains d)||(wr.getD j []).contains x|none=>true) &&
      ((List.range j).all fun i=>match ops[i]? with
        | none=>true
        | some oi=>(HM ops oi oj && !clash wr tc i j)||(A.getD j []).contains i)
def j7(V:Y5)(Q:Fr→World→Prop):Nat→List Oper→List Mc→Mt→Prop
 | _,[],[],st=>Gr V Q st
 | i,o::l,c::cs,st=>XA V i o st c∧j7 V Q (i+1) l cs (Mt.next V i st o c)
 | _,_,_,_=>False
theorem MSw.chain{V:Y5}{Q:Fr→World→Prop}:∀(l:List Oper) (i:Nat) (st:Mt),MSw V Q i l st→∃cs,j7 V Q i l cs st
 | [],_,_,h=>⟨[],h⟩
 | _::l,i,st,⟨c,hg,h⟩=>by
  obtain⟨cs,hc⟩:=MSw.chain l (i+1) _ h
  exact⟨c::cs,hg,hc⟩
def L4(V:Y5):List Oper→List Mc→Nat→Mt→Nat→Mt
 | o::l,c::cs,i,st,k+1=>L4 V l cs (i+1) (Mt.next V i st o c) k
 | _,_,_,st,_=>st
section
variable {V:Y5}{Q:Fr→World→Prop}
theorem Y5.rl_refl(Γ:C8):V.rl Γ Γ:=by unfold Y5.rl;cases V.fixed <;> first|rfl|exact C8.le.refl _
theorem Y5.rl_trans{a b c:C8}(h:V.rl a b)(k:V.rl b c):V.rl a c:=by
 unfold Y5.rl at *;cases hf:V.fixed <;> simp only[hf] at * <;> first|exact k.trans h|exact C8.le.trans h k
theorem j7.good:∀ {l:List Oper} {i:Nat} {cs:List Mc} {st:Mt} (k:Nat) {o:Oper},j7 V Q i l cs st→l[k]? = some o→∃c,cs[k]? = some c∧XA V (i+k) o (L4 V l cs i st k) c
 | o'::l,i,c::cs,st,0,o,h,ho=>by
  simp at ho;subst ho
  exact⟨c,rfl,h.1⟩
 | o'::l,i,c::cs,st,k+1,o,h,ho=>by
  obtain⟨c',h1,h2⟩:=j7.good k h.2 (by simpa using ho)
  refine⟨c',by simpa using h1,?_⟩
  rw[show i+(k+1)=i+1+k from by omega]
  exact h2
 | [],_,_,_,_,_,_,ho=>by simp at ho
 | _::_,_,[],_,_,_,h,_=>h.elim
theorem j7.final:∀ {l:List Oper} {i:Nat} {cs:List Mc} {st:Mt},j7 V Q i l cs st→Gr V Q (L4 V l cs i st l.length)
 | [],_,[],_,h=>h
 | o::l,i,c::cs,st,h=>by
  have:=j7.final (l:=l) (cs:=cs) h.2
  simpa[L4] using this
 | [],_,_::_,_,h=>h.elim
 | _::_,_,[],_,h=>h.elim
theorem X6:∀ {l:List Oper} {cs:List Mc} {i:Nat} {st:Mt} {k:Nat} {o:Oper} {c:Mc},l[k]? = some o→cs[k]? = some c→L4 V l cs i st (k+1)=Mt.next V (i+k) (L4 V l cs i st k) o c
 | o'::l,c'::cs,i,st,0,o,c,ho,hc=>by
  simp at ho hc;subst ho;subst hc
  cases l <;> cases cs <;> rfl
 | o'::l,c'::cs,i,st,k+1,o,c,ho,hc=>by
  have:=X6 (l:=l) (cs:=cs) (i:=i+1) (st:=Mt.next V i st o' c') (k:=k) (by simpa using ho) (by simpa using hc)
  rw[show i+(k+1)=i+1+k from by omega]
  exact this
 | [],_,_,_,_,_,_,ho,_=>by simp at ho
 | _::_,[],_,_,_,_,_,_,hc=>by simp at hc
theorem CN{l:List Oper}{cs:List Mc}{i:Nat}{st:Mt}:L4 V l cs i st 0=st:=by cases l <;> cases cs <;> rfl
structure MInv(V:Y5)(st0:Mt)(cs:List Mc)(listed:Array Bool)(a:Act)(w:World)(done:List Nat)(Γ':C8):Prop where
 defers:a.defers=[]
 size:a.tmps.size=V.n
 lsz:listed.size=V.ops.length
 nd:done.Nodup
 lt:∀i∈done,i<V.ops.length
 ls:∀i,i<V.ops.length→(listed.getD i true=true↔i∈done)
 cl:Closed V.ops (·∈done)
 le:V.rl V.Γ Γ'
 init:∀t,t∉V.N→(∀i∈done,∀o,V.ops[i]? = some o→o.dst≠some t)→E0 a t=st0.ρ t
 last:∀i∈done,∀o t c,V.ops[i]? = some o→o.dst=some t→t∉V.N→cs[i]? = some c→(∀j∈done,∀o',V.ops[j]? = some o'→o'.dst=some t→j≤i)→E0 a t=c.x
 wd:∃p:Nat→Nat,(∀x,p x≤V.ops.length∧∀i,x∈V.w i→i<V.ops.length→(i∈done↔i<p x)) ∧
  Wd Γ' (V.K++(List.range V.stab.length).flatMap fun x=>(L4 V V.ops cs 0 st0 (p x)).M x (E8 (V.s x) (E0 a) D5)) w
theorem Kz:∀ {l:List Nat},dup l=false→l.Nodup
 | [],_=>List.nodup_nil
 | x::l,h=>by
  simp only[dup,Bool.or_eq_false_iff]at h
  exact List.nodup_cons.2 ⟨by simpa using h.1,Kz h.2⟩
theorem T2{n:Nat}{ops:List Oper}{wr tc stab:List (List Nat)}(h:R6 n ops wr tc stab=true){j:Nat}{oj:Oper}(hj:ops[j]? = some oj) :
  (∀e∈oj.after,Region.binds .any e=true→e.on<j)∧(∀cs b,oj.op≠.select cs b)∧(∀g want,oj.guard=some (g,want)→∃d,(ops[g]?).bind (·.dst)=some d)∧G7 n oj.dst=true ∧
  (∀x∈wr.getD j [],x∈tc.getD j [])∧(∀x∈tc.getD j [],x<stab.length)∧(tc.getD j []).Nodup∧(∀d x,oj.dst=some d→d∈stab.getD x []→x∈wr.getD j []) ∧
  ∀i oi,i<j→ops[i]? = some oi→(HM ops oi oj=true∧clash wr tc i j=false)∨i∈(Gx [] ops).getD j []:=by
 have hlt:j<ops.length:=(List.getElem?_eq_some_iff.1 hj).1
 unfold R6 at h;simp only[List.all_eq_true,List.mem_range]at h
 have h1:=h j hlt
 simp only[hj,Bool.and_eq_true]at h1
 obtain⟨⟨⟨⟨⟨⟨⟨⟨h2,h3⟩,h4⟩,h6⟩,h7⟩,h8⟩,h9⟩,h10⟩,h5⟩:=h1;refine⟨fun e he hb=>?_,fun c b hs=>?_,fun g want hg=>?_,h6,fun x hx=>?_,fun x hx=>?_,Kz (by simpa using h9),fun d x hd hx=>?_,fun i oi hi ho=>?_⟩
 ·have:=(List.all_eq_true.1 h2) e (by simpa using he)
  rw[hb]at this;simp at this;omega
 ·unfold BE.okNoSel at h3;rw[hs]at h3;simp at h3
 ·rw[hg]at h4;exact Option.isSome_iff_exists.1 h4
 ·simpa using (List.all_eq_true.1 h7) x hx
 ·exact Nat.le_of_ble_eq_true ((List.all_eq_true.1 h8) x hx)
 ·rw[hd]at h10;by_cases hl:x<stab.length
  ·have:=(List.all_eq_true.1 h10) x (List.mem_range.2 hl)
   simp[hx]at this
   exact(this.resolve_left (fun h=>h hx))
  ·rw[List.getD_eq_getElem?_getD,List.getElem?_eq_none (by omega)]at hx;simp at hx
 ·have:=(List.all_eq_true.1 h5) i (List.mem_range.2 hi)
  simp only[ho,Bool.and_eq_true,Bool.or_eq_true]at this
  exact this.imp (fun h=>⟨h.1,by simpa using h.2⟩) (fun h=>by simpa using h)
theorem Il{wr tc:List (List Nat)}{i j x:Nat}(h:clash wr tc i j=false)(h1:x∈wr.getD i [])(h2:x∈tc.getD j []):False:=by
 simp only[clash,Bool.or_eq_false_iff]at h
 have:=List.any_eq_false.1 h.1 x h1
 exact this (by simpa using h2)
theorem TC{wr tc:List (List Nat)}{i j x:Nat}(h:clash wr tc i j=false)(h1:x∈tc.getD i [])(h2:x∈wr.getD j []):False:=by
 simp only[clash,Bool.or_eq_false_iff]at h
 have:=List.any_eq_false.1 h.2 x h2
 exact this (by simpa using h1)
section
variable {st0:Mt}{cs:List Mc}{listed:Array Bool}{a:Act}{w:World}{done:List Nat}{Γ':C8}
theorem MG(hc:j7 V Q 0 V.ops cs st0){t j:Nat}:∀(m:Nat),j+m≤V.ops.length→(∀i,j≤i→i<j+m→∀o,V.ops[i]? = some o→o.dst≠some t)→(L4 V V.ops cs 0 st0 (j+m)).ρ t=(L4 V V.ops cs 0 st0 j).ρ t
 | 0,_,_=>rfl
 | m+1,hl,hn=>by
  have ih:=MG hc m (by omega) (fun i h1 h2=>hn i h1 (by omega))
  have ho:V.ops[j+m]? = some V.ops[j+m]:=List.getElem?_eq_getElem (by omega)
  obtain⟨c,h1,_⟩:=hc.good (j+m) ho
  rw[←Nat.add_assoc,X6 ho h1,←ih];have hne:=hn (j+m) (by omega) (by omega) _ ho
  simp only[Mt.next]
  cases hd:(V.ops[j+m]).dst with
  | none=>rfl
  | some d=>exact upd_ne _ _ (fun e=>hne (by rw[hd,e]))
theorem MInv.sat_at(hc:j7 V Q 0 V.ops cs st0)(inv:MInv V st0 cs listed a w done Γ'){k t:Nat}(hN:t∉V.N)(hk:k≤V.ops.length)(h1:∀j,j<k→∀o,V.ops[j]? = some o→o.dst=some t→j∈done)
  (h2:∀j∈done,∀o,V.ops[j]? = some o→o.dst=some t→j<k):E0 a t=(L4 V V.ops cs 0 st0 k).ρ t:=by
 rcases AS (fun j=>∃o,V.ops[j]? = some o∧o.dst=some t) k with hn|⟨j,hj,⟨o,ho,hd⟩,hlast⟩
 ·have:=MG (j:=0) (t:=t) hc k (by omega) (fun i _ hi o ho hd=>hn i (by omega) ⟨o,ho,hd⟩)
  rw[Nat.zero_add,CN]at this;rw[this];exact inv.init t hN fun i hi o ho hd=>hn i (h2 i hi o ho hd) ⟨o,ho,hd⟩
 ·have hin:=h1 j hj o ho hd
  obtain⟨c,hcj,hg⟩:=hc.good j ho
  have hval:=inv.last j hin o t c ho hd hN hcj fun i hi o' ho' hd'=>by
   have:=h2 i hi o' ho' hd'
   rcases Nat.lt_or_ge j i with h|h
   ·exact absurd ⟨o',ho',hd'⟩ (hlast i h this)
   ·exact h
  have hs:(L4 V V.ops cs 0 st0 (j+1)).ρ t=c.x:=by
   rw[X6 ho hcj];simp only[Mt.next,hd]
   exact upd_same _ _ _
  have:=MG (j:=j+1) (t:=t) hc (k-(j+1)) (by omega) (fun i h3 h4 o' ho' hd'=>hlast i (by omega) (by omega) ⟨o',ho',hd'⟩)
  rw[show j+1+(k-(j+1))=k from by omega]at this
  rw[hval,this,hs]
theorem Gj(hc:j7 V Q 0 V.ops cs st0){p x:Nat}:∀(m:Nat),p+m≤V.ops.length→(∀j,p≤j→j<p+m→x∉V.w j)→(L4 V V.ops cs 0 st0 (p+m)).M x=(L4 V V.ops cs 0 st0 p).M x
 | 0,_,_=>rfl
 | m+1,hl,hn=>by
  have ih:=Gj hc m (by omega) (fun i h1 h2=>hn i h1 (by omega))
  have ho:V.ops[p+m]? = some V.ops[p+m]:=List.getElem?_eq_getElem (by omega)
  obtain⟨c,h1,hg⟩:=hc.good (p+m) ho
  rw[←Nat.add_assoc,X6 ho h1,←ih];have:=hn (p+m) (by omega) (by omega)
  simp[Mt.next,Mt.nxt,this]
theorem EY{g g' ρ:Fr}:∀ {N:List Nat},(∀t∈N,g t=g' t)→E8 N g ρ=E8 N g' ρ
 | [],_=>rfl
 | d::N,h=>by
  simp only[E8]
  rw[h d (by simp),EY (N:=N) fun t ht=>h t (by simp[ht])]
theorem MInv.step{i:Nat}{QQ:Exit→Act→World→Prop}(hc:j7 V Q 0 V.ops cs st0)(hk:R6 V.n V.ops V.wr V.tc V.stab=true)(inv:MInv V st0 cs listed a w done Γ')
  (hr:i∈Region.ready .any V.ops.toArray listed):wpOp V.P V.ops.toArray QQ i (fun a' w'=>∃done' Γ'',MInv V st0 cs (listed.setIfInBounds i true) a' w' done' Γ''∧done'.length=done.length+1) a w∧i∉done:=by
 obtain⟨hun,o,hoa,hall⟩:=mem_ready.1 hr
 have ho:V.ops[i]? = some o:=by simpa using hoa
 have hil:i<V.ops.length:=(List.getElem?_eq_some_iff.1 ho).1
 have hni:i∉done:=fun h=>by rw[(inv.ls i hil).2 h]at hun;cases hun
 refine⟨?_,hni⟩
 obtain⟨c,hci,hg⟩:=hc.good i ho
 rw[Nat.zero_add]at hg;obtain⟨k1,k2,k3,kd,kw,kl,kn,ks,k4⟩:=T2 hk ho
 have hedges:∀e∈o.after,Region.binds .any e=true→e.on∈done:=fun e he hb=>by
  have h1:=hall e he hb
  have h2:=k1 e he hb
  have h3:e.on<listed.size:=by rw[inv.lsz];omega
  refine(inv.ls e.on (by omega)).1 ?_
  simp only[Array.getD_eq_getD_getElem?,Array.getElem?_eq_getElem h3,Option.getD_some]at h1 ⊢
  exact h1
 have hcl':Closed V.ops (·∈i::done):=fun j o' e hj ho' he hb=>by
  rcases List.mem_cons.1 hj with rfl|hj
  ·rw[ho]at ho';cases ho';exact List.mem_cons_of_mem _ (hedges e he hb)
  ·exact List.mem_cons_of_mem _ (inv.cl j o' e hj ho' he hb)
 have hanc:∀j,j∈(Gx [] V.ops).getD i []→j∈i::done:=fun j hj=>f8 hcl' V.ops [] (by simp) (by simp) i j hj (by simp)
 have hanc2:∀j k,j∈(Gx [] V.ops).getD k []→k∈done→j∈done:=fun j k hj hk=>f8 inv.cl V.ops [] (by simp) (by simp) k j hj hk
 have hsat:∀t∈looks V.ops o,t∉V.N→E0 a t=(L4 V V.ops cs 0 st0 i).ρ t:=fun t ht hN=>inv.sat_at hc hN (Nat.le_of_lt hil) (fun j hj oj hoj hdj=>by
   rcases k4 j oj hj hoj with h|h
   ·exact absurd ht ((R0 h.1).1 t hdj).1
   ·rcases List.mem_cons.1 (hanc j h) with h|h
    ·omega
    ·exact h) (fun j hj oj hoj hdj=>by
   rcases Nat.lt_or_ge j i with h|h
   ·exact h
   ·rcases Nat.eq_or_lt_of_le h with h|h
    ·subst h;exact absurd hj hni
    ·obtain⟨_,_,_,_,_,_,_,_,q4⟩:=T2 hk hoj
     rcases q4 i o h ho with h'|h'
     ·exact absurd ht ((R0 h'.1).2 t hdj)
     ·exact absurd (hanc2 i j h' hj) hni)
 have hlook:∀t∈looks V.ops o,E0 a t=E8 V.N (E0 a) (L4 V V.ops cs 0 st0 i).ρ t:=fun t ht=>by
  by_cases hN:t∈V.N
  ·rw[K0 hN]
  ·rw[GJ hN];exact hsat t ht hN
 obtain⟨p,hp,hwd⟩:=inv.wd;have htc:∀x∈V.t i,(L4 V V.ops cs 0 st0 i).M x=(L4 V V.ops cs 0 st0 (p x)).M x:=fun x hx=>by
  rcases Nat.lt_or_ge i (p x) with hlt|hge
  ·
   have:=Gj hc (p:=i) (x:=x) (p x-i) (by have:=(hp x).1;omega) (fun j h1 h2 hj=>by
    have hjl:j<V.ops.length:=by have:=(hp x).1;omega
    have hjd:=((hp x).2 j hj hjl).2 (by omega)
    have hoj:V.ops[j]? = some V.ops[j]:=List.getElem?_eq_getElem hjl
    rcases Nat.eq_or_lt_of_le h1 with h|h
    ·subst h;exact hni hjd
    ·obtain⟨_,_,_,_,_,_,_,_,q4⟩:=T2 hk hoj
     rcases q4 i o h ho with h'|h'
     ·exact TC h'.2 hx hj
     ·exact hni (hanc2 i j h' hjd))
   rw[show i+(p x-i)=p x from by omega]at this
   exact this.symm
  ·have:=Gj hc (p:=p x) (x:=x) (i-p x) (by omega) (fun j h1 h2 hj=>by
    have hoj:V.ops[j]? = some V.ops[j]:=List.getElem?_eq_getElem (by omega)
    rcases k4 j _ (by omega) hoj with h|h
    ·exact Il h.2 hj hx
    ·rcases List.mem_cons.1 (hanc j h) with h|h
     ·omega
     ·have:=((hp x).2 j hj (by omega)).1 h;omega)
   rwa [show p x+(i-p x)=i from by omega]at this
 let rest:=(List.range V.stab.length).filter fun x=>!(V.t i).contains x
 have hperm:(List.range V.stab.length).Perm (V.t i++rest):=by
  refine(List.perm_ext_iff_of_nodup List.nodup_range ?_).2 fun x=>?_
  ·refine List.nodup_append.2 ⟨kn,List.nodup_range.filter _,fun x hx y hy hxy=>?_⟩
   subst hxy;have:=(List.mem_filter.1 hy).2
   simp at this;exact this hx
  ·simp only[List.mem_append,List.mem_range,rest,List.mem_filter]
   constructor
   ·intro h;by_cases hx:x∈V.t i
    ·exact .inl hx
    ·exact .inr ⟨h,by simpa using hx⟩
   ·rintro (h|h)
    ·exact kl x h
    ·exact h.1
 have hfm:∀F:Nat→List B6,((List.range V.stab.length).flatMap F).Perm ((V.t i).flatMap F++rest.flatMap F):=fun F=>by
  rw[←List.flatMap_append];exact List.Perm.flatMap_right _ hperm
 have S3:Wd Γ' (V.K++(cellsOf V (V.t i) (L4 V V.ops cs 0 st0 i).M (E0 a)++rest.flatMap fun x=>(L4 V V.ops cs 0 st0 (p x)).M x (E8 (V.s x) (E0 a) D5))) w:=by
  have:=hwd.perm (List.Perm.append_left V.K (hfm _))
  rwa [show cellsOf V (V.t i) (L4 V V.ops cs 0 st0 i).M (E0 a)=(V.t i).flatMap fun x=>(L4 V V.ops cs 0 st0 (p x)).M x (E8 (V.s x) (E0 a) D5) from H7 fun x hx=>by rw[htc x hx]]
 have hrun:=hg.run Γ' _ w (E0 a) inv.le S3
 have next:∀v w' Γ'',V.rl Γ' Γ''→(V.free o=false→v=c.x)→Wd Γ'' (V.K++(cellsOf V (V.t i) (Mt.nxt V i (L4 V V.ops cs 0 st0 i) c) (D6 (E0 a) o.dst v)++rest.flatMap fun x=>(L4 V V.ops cs 0 st0 (p x)).M x (E8 (V.s x) (E0 a) D5))) w' →
   MInv V st0 cs (listed.setIfInBounds i true) (a.put o.dst v) w' (i::done) Γ'':=by
  intro v w' Γ'' hle he hwd';have hput:E0 (a.put o.dst v)=D6 (E0 a) o.dst v:=X5 a _ v (by rw[inv.size];exact K8 kd)
  refine⟨(K9 a _ v).trans inv.defers,(size_put a _ v).trans inv.size,by simpa using inv.lsz,List.nodup_cons.2 ⟨hni,inv.nd⟩,?_,?_,hcl',V.rl_trans inv.le hle,?_,?_,?_⟩
  ·intro j hj;rcases List.mem_cons.1 hj with rfl|hj
   ·exact hil
   ·exact inv.lt j hj
  ·intro j hj;by_cases hji:j=i
   ·subst hji;simp[inv.lsz,hil]
   ·rw[getD_set_ne true (Ne.symm hji),inv.ls j hj];simp[hji]
  ·intro t hN hn;rw[hput];have h1:o.dst≠some t:=hn i (by simp) o ho
   have:D6 (E0 a) o.dst v t=E0 a t:=by
    cases hd:o.dst with
    | none=>rfl
    | some d=>exact upd_ne _ _ (fun e=>h1 (by rw[hd,e]))
   rw[this];exact inv.init t hN fun j hj=>hn j (List.mem_cons_of_mem _ hj)
  ·intro j hj o' t c' ho' hd' hN hc' hmax;rw[hput];rcases List.mem_cons.1 hj with rfl|hj
   ·rw[ho]at ho';cases ho'
    rw[hci]at hc';cases hc'
    rw[hd',show D6 (E0 a) (some t) v t=v from upd_same _ _ _];exact he (by simp only[Y5.free,hd'];simpa using hN)
   ·have hji:j≠i:=fun e=>hni (e ▸ hj)
    have h1:o.dst≠some t:=fun e=>by
     have hle':=hmax i (by simp) o ho e
     have hlt:i<j:=by omega
     obtain⟨_,_,_,_,_,_,_,_,q4⟩:=T2 hk ho'
     rcases q4 i o hlt ho with h|h
     ·exact((R0 h.1).1 t e).2 hd'
     ·exact hni (hanc2 i j h hj)
    have:D6 (E0 a) o.dst v t=E0 a t:=by
     cases hd:o.dst with
     | none=>rfl
     | some d=>exact upd_ne _ _ (fun e=>h1 (by rw[hd,e]))
    rw[this];exact inv.last j hj o' t c' ho' hd' hN hc' fun k hk'=>hmax k (List.mem_cons_of_mem _ hk')
  ·refine⟨fun x=>if x∈V.w i then i+1 else p x,fun x=>⟨?_,fun j hj hjl=>?_⟩,?_⟩
   ·show (if x∈V.w i then i+1 else p x)≤V.ops.length
    have:=(hp x).1
    split <;> omega
   ·by_cases hx:x∈V.w i
    ·simp only[hx,if_true]
     by_cases hji:j=i
     ·subst hji;simp
     ·simp only[List.mem_cons,hji,false_or]
      have hpi:p x≤i:=Nat.le_of_not_lt fun h=>hni (((hp x).2 i hx hil).2 h)
      rw[(hp x).2 j hj hjl];constructor
      ·intro h;omega
      ·intro h;refine((hp x).2 j hj hjl).1 ?_
       have hoj:V.ops[j]? = some V.ops[j]:=List.getElem?_eq_getElem hjl
       rcases k4 j _ (by omega) hoj with h'|h'
       ·exact absurd (Il h'.2 hj (kw x hx)) id
       ·rcases List.mem_cons.1 (hanc j h') with h'|h'
        ·omega
        ·exact h'
    ·have hji:j≠i:=fun e=>hx (e ▸ hj)
     simp only[hx,if_false,List.mem_cons,hji,false_or]
     exact(hp x).2 j hj hjl
   ·refine Wd.perm ?_ (List.Perm.append_left V.K (hfm _)).symm
    have e1:cellsOf V (V.t i) (Mt.nxt V i (L4 V V.ops cs 0 st0 i) c) (D6 (E0 a) o.dst v)=(V.t i).flatMap fun x=>(L4 V V.ops cs 0 st0 (if x∈V.w i then i+1 else p x)).M x (E8 (V.s x) (E0 (a.put o.dst v)) D5):=H7 fun x hx=>by
     rw[hput];by_cases hxw:x∈V.w i
     ·simp only[hxw,if_true]
      rw[X6 ho hci,Nat.zero_add];rfl
     ·simp only[hxw,if_false,Mt.nxt]
      rw[←htc x hx];simp[hxw]
    have e2:(rest.flatMap fun x=>(L4 V V.ops cs 0 st0 (p x)).M x (E8 (V.s x) (E0 a) D5))=rest.flatMap fun x=>(L4 V V.ops cs 0 st0 (if x∈V.w i then i+1 else p x)).M x (E8 (V.s x) (E0 (a.put o.dst v)) D5):=H7 fun x hx=>by
     have hxt:x∉V.t i:=by have:=(List.mem_filter.1 hx).2;simpa using this
     have hxw:x∉V.w i:=fun h=>hxt (kw x h)
     simp only[hxw,if_false]
     rw[hput];congr 1
     refine EY fun t ht=>?_
     cases hd:o.dst with
     | none=>rfl
     | some d=>exact(upd_ne _ _ (fun e=>hxw (ks d x hd (by subst e;exact ht)))).symm
    rw[←e1,←e2];exact hwd'
 have hwant:Region.wanted o (yielded V.ops.toArray a.tmps)=Y6 V.ops o (E8 V.N (E0 a) (L4 V V.ops cs 0 st0 i).ρ):=by
  unfold Y6;cases hgd:o.guard with
  | none=>simp[Region.wanted,hgd]
  | some q=>
   obtain⟨j,want⟩:=q;obtain⟨dj,hdj⟩:=k3 j want hgd
   have hdn:dj<V.n:=by
    cases hoj:V.ops[j]? with
    | none=>simp[hoj]at hdj
    | some oj=>simp[hoj]at hdj;exact K8 ((T2 hk hoj).2.2.2.1) dj hdj
   simp only[hdj]
   rw[←hlook dj (List.mem_append_right _ (by simp only[hgd];simpa using hdj))]
   exact Aa o V.ops.toArray a j want hgd dj (by simpa using hdj) (by rw[inv.size];exact hdn)
 unfold wpOp;simp only[hoa,hwant]
 have hsel:AJ o=true:=by
  unfold AJ;split
  ·rename_i h;exact absurd h (k2 _ _)
  ·rfl
 cases hwt:Y6 V.ops o (E8 V.N (E0 a) (L4 V V.ops cs 0 st0 i).ρ) with
 | true=>
  simp only[if_true]
  have hst:=(hrun.1 hwt).congr (ops:=V.ops) hsel hlook
  exact .inl (Step.wp hst fun v w' ⟨Γ'',h1,h2,h3⟩=>⟨_,_,next v w' Γ'' h1 h3 h2,by simp⟩)
 | false=>
  obtain⟨h1,h2⟩:=hrun.2 hwt
  exact⟨_,_,next undef w Γ' (V.rl_refl _) h2 h1,by simp⟩
theorem MInv.fin(hc:j7 V Q 0 V.ops cs st0)(inv:MInv V st0 cs listed a w done Γ')(hall:∀i,i<V.ops.length→i∈done):Q (E0 a) w:=by
 have hfin:=hc.final
 obtain⟨p,hp,hwd⟩:=inv.wd;have hρ:E0 a=E8 V.N (E0 a) (L4 V V.ops cs 0 st0 V.ops.length).ρ:=by
  funext t
  by_cases hN:t∈V.N
  ·rw[K0 hN]
  ·rw[GJ hN];exact inv.sat_at hc hN (Nat.le_refl _) (fun j hj _ _ _=>hall j hj) (fun j hj _ _ _=>inv.lt j hj)
 rw[hρ];refine hfin Γ' w (E0 a) inv.le ?_
 have:cellsOf V (List.range V.stab.length) (L4 V V.ops cs 0 st0 V.ops.length).M (E0 a)=(List.range V.stab.length).flatMap fun x=>(L4 V V.ops cs 0 st0 (p x)).M x (E8 (V.s x) (E0 a) D5):=H7 fun x _=>by
  have:=Gj hc (p:=p x) (x:=x) (V.ops.length-p x) (by have:=(hp x).1;omega) (fun j h1 h2 hj=>by
   have hjl:j<V.ops.length:=by have:=(hp x).1;omega
   have:=((hp x).2 j hj hjl).1 (hall j hjl)
   omega)
  rw[show p x+(V.ops.length-p x)=V.ops.length from by have:=(hp x).1;omega]at this
  rw[this]
 rw[this];exact hwd
theorem Aj(hk:R6 V.n V.ops V.wr V.tc V.stab=true)(inv:MInv V st0 cs listed a w done Γ')(h:Region.ready .any V.ops.toArray listed=[]):∀i,i<V.ops.length→i∈done:=by
 intro i;induction i using Nat.strongRecOn with
 | _ i ih=>
  intro hi;refine Classical.byContradiction fun hn=>?_
  have hmem:i∈Region.ready .any V.ops.toArray listed:=mem_ready.2 ⟨?_,V.ops[i],by simp[hi],fun e he hb=>?_⟩
  ·rw[h]at hmem;cases hmem
  ·cases hb:listed.getD i true with
   | false=>rfl
   | true=>exact absurd ((inv.ls i hi).1 hb) hn
  ·have h1:=(T2 hk (List.getElem?_eq_getElem hi)).1 e he hb
   have h2:=(inv.ls e.on (by omega)).2 (ih e.on h1 (by omega))
   have h3:e.on<listed.size:=by rw[inv.lsz];omega
   simp only[Array.getD_eq_getD_getElem?,Array.getElem?_eq_getElem h3,Option.getD_some]at h2 ⊢
   exact h2
theorem MInv.any{QQ:Exit→Fr→World→Prop}(hc:j7 V (fun ρ w=>QQ .normal ρ w) 0 V.ops cs st0)(hk:R6 V.n V.ops V.wr V.tc V.stab=true) :
  ∀(fuel:Nat) (listed:Array Bool) (a:Act) (w:World) (done:List Nat) (Γ':C8),MInv V st0 cs listed a w done Γ'→fuel+done.length=V.ops.length→wpAny V.P .any V.ops.toArray (lift V.n QQ) fuel listed a w
 | 0,listed,a,w,done,Γ',inv,hf=>by
  have hall:∀i,i<V.ops.length→i∈done:=by
   intro i hi;refine Classical.byContradiction fun hn=>?_
   have:=nodup_le V.ops.length (i::done) (List.nodup_cons.2 ⟨hn,inv.nd⟩) (fun x hx=>by
    rcases List.mem_cons.1 hx with rfl|hx
    ·exact hi
    ·exact inv.lt x hx)
   simp at this;omega
  refine⟨?_,inv.defers,inv.size,inv.fin hc hall⟩
  refine List.eq_nil_iff_forall_not_mem.2 fun i hi=>?_
  obtain⟨hun,o,ho,_⟩:=mem_ready.1 hi
  have hil:i<V.ops.length:=by have:=(Array.getElem?_eq_some_iff.1 ho).1;simpa using this
  rw[(inv.ls i hil).2 (hall i hil)]at hun;cases hun
 | fuel+1,listed,a,w,done,Γ',inv,hf=>by
  refine⟨fun h=>⟨inv.defers,inv.size,inv.fin hc (Aj hk inv h)⟩,fun i hi=>?_⟩
  refine wpOp_mono ?_ (inv.step hc hk hi).1
  rintro a' w' ⟨done',Γ'',inv',hl⟩
  exact MInv.any hc hk fuel _ a' w' done' Γ'' inv' (by omega)
end
end
theorem ZR{P:Program}{n id:Nat}{l:List Oper}{Q:Exit→Fr→World→Prop}{ρ:Fr}{w:World}{Γ:C8}(K:List B6)(M:Nat→Fr→List B6)(wr tc stab:List (List Nat))(fixed:Bool)(hm:P.follows .mixedOrders=true)
  (hk:R6 n l wr tc stab=true) (hw:Wd Γ (K++cellsOf ⟨P,n,l,Γ,K,wr,tc,stab,fixed⟩ (List.range stab.length) M ρ) w) (h:MSw ⟨P,n,l,Γ,K,wr,tc,stab,fixed⟩ (fun ρ w=>Q .normal ρ w) 0 l ⟨ρ,M⟩):W P n (.region id l.toArray true) Q ρ w:=by
 unfold W;intro a hda hs hf;refine wp_region_any hm ?_
 obtain⟨cs,hc⟩:=h.chain;have inv:MInv ⟨P,n,l,Γ,K,wr,tc,stab,fixed⟩ ⟨ρ,M⟩ cs (Array.replicate l.toArray.size false) a { w with drawn:=w.drawn+1 } [] Γ:=by
  refine⟨hda,hs,by simp,by simp,by simp,fun i hi=>?_,fun _ _ _ h=>by simp at h,Y5.rl_refl _,fun t _ _=>by rw[hf],by simp,fun _=>0,fun x=>⟨Nat.zero_le _,by simp⟩,?_⟩
  ·have:i<l.length:=hi
   simp[this]
  ·simp only[CN,hf]
   exact hw.drawn
 exact MInv.any hc hk _ _ a _ [] Γ inv (by simp)
def P4(Γ:C8)(S:List B6)(v:Value)(sz:Nat)(rows:List (List Value)):Prop:=
 ∃a n c,v=.slice a n c∧n=rows.length∧n≤c∧c≤9223372036854775807∧∀w,Wd Γ S w→Rd w a sz rows
section
variable {P:Program}{Γ:C8}{S:List B6}{w:World}{sz e:Nat}{rows:List (List Value)}{v:Value}
theorem D7.rdS(h:D7 Γ v sz rows):P4 Γ S v sz rows:=by
 obtain⟨a,n,c,rfl,h1,h2,h3⟩:=h.shape;exact⟨a,n,c,rfl,h1,h2,h3,fun w hw=>h.rd hw⟩
theorem P4.own{w0:World}{i:Nat}(hw:Wd Γ S w0)(hi:S[i]? = some (.own v e sz rows)):P4 Γ S v sz rows:=by
 obtain⟨a,n,c,rfl,h1,h2,h3⟩:=hw.own_shape hi
 exact⟨a,n,c,rfl,h1,h2,h3,fun w hw=>hw.own_rd hi⟩
theorem P4.ownI{a:Option Addr}{n c i:Nat}(hi:S[i]? = some (.own (.slice a n c) e sz rows))(h1:n=rows.length)(h2:n≤c)(h3:c≤9223372036854775807):P4 Γ S (.slice a n c) sz rows:=
 ⟨a,n,c,rfl,h1,h2,h3,fun w hw=>hw.own_rd hi⟩
theorem P4.shape(h:P4 Γ S v sz rows):∃a n c,v=.slice a n c∧n=rows.length∧n≤c∧c≤9223372036854775807:=by
 obtain⟨a,n,c,h1,h2,h3,h4,_⟩:=h;exact⟨a,n,c,h1,h2,h3,h4⟩
theorem P4.rd{a:Option Addr}{n c:Nat}(h:P4 Γ S (.slice a n c) sz rows)(hw:Wd Γ S w):Rd w a sz rows:=by
 obtain⟨a',n',c',h1,h2,h3,h4,h5⟩:=h;cases h1
 exact h5 w hw
theorem P4.cons{r:B6}(h:P4 Γ S v sz rows):P4 Γ (r::S) v sz rows:=by
 obtain⟨a,n,c,h1,h2,h3,h4,h5⟩:=h;exact⟨a,n,c,h1,h2,h3,h4,fun w hw=>h5 w hw.drop⟩
theorem P4.app{S':List B6}(h:P4 Γ S v sz rows):P4 Γ (S++S') v sz rows:=by
 obtain⟨a,n,c,h1,h2,h3,h4,h5⟩:=h;exact⟨a,n,c,h1,h2,h3,h4,fun w hw=>h5 w hw.left⟩
end
section
variable {P:Program}{ρ:Fr}{w:World}{sz:Nat}{rows:List (List Value)}{d:Option Tmp}{T ty:TypeId}{pos:String}{es:Array Edge}{g:Option (Nat×Bool)}{x y:Operand}
theorem AF{E by':Nat}{zs:List Value}{a:Option Addr}{m c:Nat}{k:IntKind}{i:Int}[hT:TL P T E sz by' zs](hr:Rd w a sz rows)(hx:ev ρ x=.slice a m c)(hy:ev ρ y=.int k i)(h0:0≤i)(h1:i<m)(hm:m=rows.length:=by first|assumption|omega|(rw[List.length_map];omega)) :
  Yields P ⟨d,.indexAddr T x y,ty,pos,es,g⟩ ρ w (.pointer (some ⟨aB a,aO a+i.toNat*sz,none⟩)):=
 Dk hx hy h0 h1 (hr.at_ (by omega))
end
abbrev B6.ms{β:Type}(f:β→Value)(b:Nat)(l:List (ByteArray×β)):B6:=B6.mp b (l.map fun p=>(.string p.1,f p.2))
section
variable {P:Program}{n:Nat}{opa:Array Oper}{Γ:C8}{S:List B6}{QQ:Exit→Fr→World→Prop}{ρ:Fr}{w:World}{rest:List Oper}{KK:Value→World→Prop}
variable {d:Option Tmp}{T U ty K E:TypeId}{pos:String}{es:Array Edge}{g:Option (Nat×Bool)}{x y z:Operand}{v:Value}{β:Type}{f:β→Value}{b i:Nat}{a:ByteArray}{l:List (ByteArray×β)}
theorem R7[Inhabited β]{zz:Value}[hM:BJ P T K E][hK:En P K][hz:Zc P E zz](hw:Wd Γ S w)(hx:ev ρ x=.map (some b))(hy:ev ρ y=.string a)(hi:S[i]? = some (B6.ms f b l))(hd:f default=zz) :
  Yields P ⟨d,.lookup T x y true,ty,pos,es,g⟩ ρ w (.tuple #[f ((G3 l a).getD default),.bool (G3 l a).isSome]):=by
 cases hg:G3 l a with
 | some u=>
  have:=Y9 (P:=P) (K:=K) (α:=ByteArray) (d:=d) (T:=T) (ty:=ty) (pos:=pos) (es:=es) (g:=g) hw hx hy hi hg true
  simpa using this
 | none=>
  have:=Z3 (P:=P) (K:=K) (α:=ByteArray) (d:=d) (T:=T) (ty:=ty) (pos:=pos) (es:=es) (g:=g) hw hx hy hi hg true
  simpa[hd] using this
theorem O6[Inhabited β]{zz:Value}[hM:BJ P T K E][hK:En P K][hz:Zc P E zz](hw:Wd Γ S w)(hx:ev ρ x=.map (some b))(hy:ev ρ y=.string a)(hi:S[i]? = some (B6.ms f b l))(hd:f default=zz) :
  Yields P ⟨d,.lookup T x y false,ty,pos,es,g⟩ ρ w (f ((G3 l a).getD default)):=by
 cases hg:G3 l a with
 | some u=>
  have:=Y9 (P:=P) (K:=K) (α:=ByteArray) (d:=d) (T:=T) (ty:=ty) (pos:=pos) (es:=es) (g:=g) hw hx hy hi hg false
  simpa using this
 | none=>
  have:=Z3 (P:=P) (K:=K) (α:=ByteArray) (d:=d) (T:=T) (ty:=ty) (pos:=pos) (es:=es) (g:=g) hw hx hy hi hg false
  simpa[hd] using this
theorem w8[hM:BJ P T K E][hK:En P K](hw:Wd Γ S w)(hx:ev ρ x=.map (some b))(hi:S[i]? = some (B6.ms f b l)):Yields P ⟨d,.call { callee:=.builtin .len,args:=#[x],argTypes:=#[T] },ty,pos,es,g⟩ ρ w (.int .i64 l.length):=
 eW (P:=P) (K:=K) (α:=ByteArray) hw hx hi
theorem X9{v:β}[hM:BJ P T K E][hK:En P K](hw:Wd Γ S w)(hx:ev ρ x=.map (some b))(hy:ev ρ y=.string a)(hz:ev ρ z=f v)(hi:S[i]? = some (B6.ms f b l))
  (hk:∀w',Wd Γ (S.set i (B6.ms f b (j6 l a v))) w'→KK undef w'):Step P ⟨d,.mapUpdate T x y z,ty,pos,es,g⟩ ρ w KK:=
 BP (P:=P) (K:=K) (α:=ByteArray) hw hx hy hz hi hk
theorem SL[hM:BJ P T K E][hK:En P K](hw:Wd Γ S w)(hx:ev ρ x=.map (some b))(hy:ev ρ y=.string a)(hi:S[i]? = some (B6.ms f b l))
  (hk:∀w',Wd Γ (S.set i (B6.ms f b (Es l a))) w'→KK (.tuple #[]) w'):Step P ⟨d,.call { callee:=.builtin .delete,args:=#[x,y],argTypes:=#[T,U] },ty,pos,es,g⟩ ρ w KK:=
 Wy (P:=P) (K:=K) (α:=ByteArray) hw hx hy hi hk
theorem VN(f:β→Value)[hM:BJ P T K E][hK:En P K](h:∀b w',Wd Γ (B6.ms f b []::S) w'→L P n opa QQ rest (D6 ρ d (.map (some b))) w')(hd:G7 n d=true:=by exact rfl)(hw:Wd Γ S w:=by exact hw) :
  L P n opa QQ (⟨d,.makeMap T none,ty,pos,es,none⟩::rest) ρ w:=H5 rfl hd (X8 (K:=K) (α:=ByteArray) (f:=f) hw h)
theorem Xl{v:β}[hM:BJ P T K E][hK:En P K](h:∀w',Wd Γ (S.set i (B6.ms f b (j6 l a v))) w'→L P n opa QQ rest ρ w')(hw:Wd Γ S w:=by exact hw)(hx:ev ρ x=.map (some b):=by exact rfl)(hy:ev ρ y=.string a:=by exact rfl)(hi:S[i]? = some (B6.ms f b l):=by exact GZ)(hz:ev ρ z=f v:=by exact rfl) :
  L P n opa QQ (⟨none,.mapUpdate T x y z,ty,pos,es,none⟩::rest) ρ w:=H5 rfl rfl (X9 hw hx hy hz hi h)
end
def ML(l:List (Fr→List B6)):Nat→Fr→List B6:=fun x=>l.getD x (fun _=>[])
def M1(M:Nat→Fr→List B6)(x:Nat)(m:Fr→List B6):Nat→Fr→List B6:=fun y=>bif [x].contains y then m else M y
abbrev mV(P:Program)(n:Nat)(ops:List Oper)(Γ:C8)(K:List B6)(wr tc stab:List (List Nat)):Y5:=⟨P,n,ops,Γ,K,wr,tc,stab,true⟩
def F4(tc stab:List (List Nat))(i:Nat)(M:Nat→Fr→List B6)(g:Fr):List B6:=(tc.getD i []).flatMap fun x=>M x (E8 (stab.getD x []) g D5)
def FE(tc stab:List (List Nat))(i:Nat)(d:Option Tmp):Bool:=match d with|some d=>(tc.getD i []).all fun x=>!((stab.getD x []).contains d)|none=>true
def Y7(stab:List (List Nat))(d:Option Tmp):Bool:=match d with|some d=>stab.flatten.contains d|none=>true
section
variable {P:Program}{n:Nat}{ops:List Oper}{Γ:C8}{K:List B6}{wr tc stab:List (List Nat)}{Q:Fr→World→Prop}{i:Nat}{rest:List Oper}{ρ:Fr}{M:Nat→Fr→List B6}{o:Oper}{v:Value}
theorem Pd{g:Fr}{d:Option Tmp}{v:Value}(h:FE tc stab i d=true)(M:Nat→Fr→List B6):F4 tc stab i M (D6 g d v)=F4 tc stab i M g:=by
 refine H7 fun x hx=>?_
 cases d with
 | none=>rfl
 | some d=>
  congr 1
  refine EY fun t ht=>upd_ne _ _ fun e=>?_
  subst e;have:=(List.all_eq_true.1 h) x hx
  simp at this
  exact this ht
theorem mC(hy:∀Y w g,Wd Γ (K++(F4 tc stab i M g++Y)) w→Step P o (E8 stab.flatten g ρ) w fun u w'=>u=v∧Wd Γ (K++(F4 tc stab i M g++Y)) w')(hw0:wr.getD i []=[])(hg:o.guard=none)(ho:FE tc stab i o.dst=true)
  (h:MSw (mV P n ops Γ K wr tc stab) Q (i+1) rest ⟨D6 ρ o.dst v,M⟩):MSw (mV P n ops Γ K wr tc stab) Q i (o::rest) ⟨ρ,M⟩:=by
 have hn:∀c,Mt.nxt (mV P n ops Γ K wr tc stab) i ⟨ρ,M⟩ c=M:=fun c=>by
  funext x;simp only[Mt.nxt,Y5.w,hw0];rfl
 refine⟨⟨v,M⟩,⟨fun Γ' Y w g hr hw=>?_⟩,?_⟩
 ·have hΓ:Γ'=Γ:=hr
  subst hΓ;rw[hn];refine⟨fun _=>(hy Y w g hw).mono fun u w' ⟨h1,h2⟩=>⟨Γ',rfl,?_,fun _=>h1⟩,fun hf=>?_⟩
  ·have:=Pd (g:=g) (v:=u) ho M
   show Wd Γ' (K++(F4 tc stab i M (D6 g o.dst u)++Y)) w'
   rw[this];exact h2
  ·rw[g7 hg]at hf;cases hf
 ·simp only[Mt.next,hn];exact h
theorem mY(h:MSw (mV P n ops Γ K wr tc stab) Q (i+1) rest ⟨D6 ρ o.dst v,M⟩)(hw0:wr.getD i []=[]:=by exact rfl)(hg:o.guard=none:=by exact rfl)(ho:FE tc stab i o.dst=true:=by exact rfl)
  (hy:∀Y w g,Wd Γ (K++(F4 tc stab i M g++Y)) w→Yields P o (E8 stab.flatten g ρ) w v:=by (intro Y w g hw;exact SK)):MSw (mV P n ops Γ K wr tc stab) Q i (o::rest) ⟨ρ,M⟩:=
 mC (fun Y w g hw=>(hy Y w g hw).step ⟨rfl,hw⟩) hw0 hg ho h
theorem mM{x:Nat}(m:Fr→List B6)(hs:∀Y w g,Wd Γ (K++(F4 tc stab i M g++Y)) w→Step P o (E8 stab.flatten g ρ) w fun u w'=>Wd Γ (K++(F4 tc stab i (M1 M x m) (D6 g o.dst u)++Y)) w'∧(Y7 stab o.dst=false→u=v))
  (h:MSw (mV P n ops Γ K wr tc stab) Q (i+1) rest ⟨D6 ρ o.dst v,M1 M x m⟩) (hw0:wr.getD i []=[x]:=by exact rfl) (hg:o.guard=none:=by exact rfl):MSw (mV P n ops Γ K wr tc stab) Q i (o::rest) ⟨ρ,M⟩:=by
 have hn:Mt.nxt (mV P n ops Γ K wr tc stab) i ⟨ρ,M⟩ ⟨v,fun _=>m⟩=M1 M x m:=by
  funext y;simp only[Mt.nxt,Y5.w,hw0];rfl
 refine⟨⟨v,fun _=>m⟩,⟨fun Γ' Y w g hr hw=>?_⟩,?_⟩
 ·have hΓ:Γ'=Γ:=hr
  subst hΓ;rw[hn];refine⟨fun _=>(hs Y w g hw).mono fun u w' ⟨h1,h2⟩=>⟨Γ',rfl,h1,h2⟩,fun hf=>?_⟩
  rw[g7 hg]at hf;cases hf
 ·simp only[Mt.next,hn];exact h
theorem V1(h:∀w g,Wd Γ (K++(List.range stab.length).flatMap fun x=>M x (E8 (stab.getD x []) g D5)) w→Q (E8 stab.flatten g ρ) w):MSw (mV P n ops Γ K wr tc stab) Q i [] ⟨ρ,M⟩:=fun Γ' w g hr hw=>by
 have hΓ:Γ'=Γ:=hr
 subst hΓ;exact h w g hw
theorem U0{id:Nat}{l:List Oper}{QQ:Exit→Fr→World→Prop}{w:World}(K:List B6)(M:List (Fr→List B6))(wr tc stab:List (List Nat))(hw:Wd Γ (K++(List.range stab.length).flatMap fun x=>(ML M) x (E8 (stab.getD x []) ρ D5)) w)
  (h:MSw (mV P n l Γ K wr tc stab) (fun ρ w=>QQ .normal ρ w) 0 l ⟨ρ,ML M⟩) (hm:P.follows .mixedOrders=true:=by kernel_rfl) (hk:R6 n l wr tc stab=true:=by kernel_rfl):W P n (.region id l.toArray true) QQ ρ w:=
 ZR K (ML M) wr tc stab true hm hk hw h
end
attribute [local irreducible] Calls
theorem eq_nilB{s:ByteArray}:(s=⟨#[]⟩)↔s.size=0:=by
 constructor
 ·intro h;rw[h];rfl
 ·intro h;cases s with
  | mk d=>
   have:d.size=0:=h
   rw[Array.eq_empty_of_size_eq_zero this]
theorem ne_nilB{s:ByteArray}:(s≠⟨#[]⟩)↔0<s.size:=by
 rw[Ne,eq_nilB];omega
class PC(P:Program)(f:Nat)(args:List Value)(v:outParam Value):Prop where
 h:∀w,Calls P f args.toArray w fun e w'=>e=.returned v∧w'=w
section
variable {P:Program}{n:Nat}{ops:List Oper}{opa:Array Oper}{Γ:C8}{S K:List B6}{Q:Fr→World→Prop}{QQ:Exit→Fr→World→Prop}{ρ:Fr}{w:World}{rest:List Oper}{wr tc stab:List (List Nat)}{i:Nat}{M:Nat→Fr→List B6}
variable {d:Option Tmp}{ty:TypeId}{pos:String}{es:Array Edge}{v:Value}{f:Nat}{args:List Operand}{tys:Array TypeId}{vs:List Value}{j dj:Nat}{want c:Bool}{g:Option (Nat×Bool)}
theorem YL[C7 P f][hp:PC P f vs v](ha:EvL ρ args vs):Step P ⟨d,.call { callee:=.value (.func f),args:=args.toArray,argTypes:=tys },ty,pos,es,g⟩ ρ w fun u w'=>u=v∧w'=w:=
 Ba ha.eqA ((hp.h w).mono fun e w' ⟨h1,h2⟩=>⟨v,h1,rfl,h2⟩)
theorem lP[C7 P f](h:L P n opa QQ rest (D6 ρ d v) w)(ha:EvL ρ args vs:=by exact AB)(hd:G7 n d=true:=by exact rfl)(hp:PC P f vs v:=by infer_instance) :
  L P n opa QQ (⟨d,.call { callee:=.value (.func f),args:=args.toArray,argTypes:=tys },ty,pos,es,none⟩::rest) ρ w:=
 H5 rfl hd ((YL (hp:=hp) ha).mono fun u w' ⟨h1,h2⟩=>by subst h1;subst h2;exact h)
theorem cv[C7 P f](h:L P n opa QQ rest (D6 ρ d (gv c v)) w)(hj:(opa[j]?).bind (·.dst)=some dj:=by exact rfl)(hjn:G7 n (some dj)=true:=by exact rfl)(hc:F5 (ρ dj) want c:=by exact Hd)(hd:G7 n d=true:=by exact rfl)(ha:c=true→EvL ρ args vs:=by intro hc;exact Hj)(hp:PC P f vs v:=by infer_instance) :
  L P n opa QQ (⟨d,.call { callee:=.value (.func f),args:=args.toArray,argTypes:=tys },ty,pos,es,some (j,want)⟩::rest) ρ w:=
 UI rfl hj hjn hc hd (fun ht=>YL (hp:=hp) (ha ht)) h
theorem qP[C7 P f](h:Qw P n ops Γ S Q rest (D6 ρ d v))(ha:EvL ρ args vs:=by exact AB)(hp:PC P f vs v:=by infer_instance) :
  Qw P n ops Γ S Q (⟨d,.call { callee:=.value (.func f),args:=args.toArray,argTypes:=tys },ty,pos,es,none⟩::rest) ρ:=
 fA rfl rfl (fun Y w hw=>(YL (hp:=hp) ha).mono fun u w' ⟨h1,h2⟩=>⟨h1,by subst h2;exact hw⟩) h
theorem Vr[C7 P f](h:Qw P n ops Γ S Q rest (D6 ρ d (gv c v)))(hj:(ops[j]?).bind (·.dst)=some dj:=by exact rfl)(hc:F5 (ρ dj) want c:=by exact Hd)(ha:c=true→EvL ρ args vs:=by intro hc;exact Hj)(hp:PC P f vs v:=by infer_instance) :
  Qw P n ops Γ S Q (⟨d,.call { callee:=.value (.func f),args:=args.toArray,argTypes:=tys },ty,pos,es,some (j,want)⟩::rest) ρ:=
 bQ rfl hj hc rfl (fun ht Y w hw=>(YL (hp:=hp) (ha ht)).mono fun u w' ⟨h1,h2⟩=>⟨h1,by subst h2;exact hw⟩) h
theorem mP[C7 P f](h:MSw (mV P n ops Γ K wr tc stab) Q (i+1) rest ⟨D6 ρ d v,M⟩)(hw0:wr.getD i []=[]:=by exact rfl)(ho:FE tc stab i d=true:=by exact rfl)(ha:∀g,EvL (E8 stab.flatten g ρ) args vs:=by intro g;exact AB)(hp:PC P f vs v:=by infer_instance) :
  MSw (mV P n ops Γ K wr tc stab) Q i (⟨d,.call { callee:=.value (.func f),args:=args.toArray,argTypes:=tys },ty,pos,es,none⟩::rest) ⟨ρ,M⟩:=
 mC (fun Y w g hw=>(YL (hp:=hp) (ha g)).mono fun u w' ⟨h1,h2⟩=>⟨h1,by subst h2;exact hw⟩) hw0 rfl ho h
end
def Xz(P:Program)(ρ:Fr)(w:World):ResultVar→Value→Prop
 | .tmp t,v=>ρ t=v
 | .cell a T,v=>∃A,ρ a=.pointer (some A)∧(loadVar T A).run P w=.ok v w
def bO(P:Program)(ρ:Fr)(w:World):List ResultVar→List Value→Prop
 | [],[]=>True
 | r::rs,v::vs=>Xz P ρ w r v∧bO P ρ w rs vs
 | _,_=>False
def Up:List Value→Value
 | [v]=>v
 | vs=>.tuple vs.toArray
def fU(P:Program)(rs:Array ResultVar)(R:Ending→World→Prop):Exit→Fr→World→Prop
 | .normal,ρ,w|.ret,ρ,w=>∃vs,bO P ρ w rs.toList vs∧R (.returned (Up vs)) w
 | .panic ch,_,w=>R (.panicked ch) w
 | .outgrown,_,w=>R .outgrown w
 | _,_,_=>False
def OT(tmps:Array Value):ResultVar→Sem Value
 | .tmp t=>pure (tmps.getD t undef)
 | .cell a t=>do loadVar t (←asAddr (tmps.getD a undef))
theorem KX(fn:Func)(tmps:Array Value):results fn tmps=(do let vs ← fn.results.mapM (OT tmps);pure (if h:vs.size=1 then vs[0] else .tuple vs)):=by
 have:(fun r:ResultVar=>match r with|.tmp t=>(pure (tmps.getD t undef):Sem Value)|.cell a t=>do loadVar t (←asAddr (tmps.getD a undef)))=OT tmps:=by
  funext r;cases r <;> rfl
 rw[←this];rfl
theorem Xz.run{P:Program}{a:Act}{w:World}{r:ResultVar}{v:Value}(h:Xz P (E0 a) w r v):(OT a.tmps r).run P w=.ok v w:=by
 cases r with
 | tmp t=>have:a.tmps.getD t undef=v:=h;simp only[OT,Sem.run_pure,this]
 | cell x t=>
  obtain⟨A,h1,h2⟩:=h;have h3:a.tmps.getD x undef=.pointer (some A):=h1
  simp only[OT,h3]
  simpa[asAddr] using h2
theorem o6{P:Program}{fn:Func}{a:Act}{w:World}{vs:List Value}(hl:fn.results.size≤3)(h:bO P (E0 a) w fn.results.toList vs):(results fn a.tmps).run P w=.ok (Up vs) w:=by
 obtain⟨l,hfl⟩:∃l:List ResultVar,fn.results=l.toArray:=⟨fn.results.toList,by simp⟩
 rw[KX];rw[hfl]at h hl ⊢
 simp only at h
 rcases l with _|⟨x1,_|⟨x2,_|⟨x3,_|⟨x4,l⟩⟩⟩⟩ <;> rcases vs with _|⟨v1,_|⟨v2,_|⟨v3,_|⟨v4,vs⟩⟩⟩⟩ <;> simp only[bO,and_false]at h <;> try exact h.elim
 ·simp[Up]
 ·simp[Up,h.1.run]
 ·simp[Up,h.1.run,h.2.1.run]
 ·simp[Up,h.1.run,h.2.1.run,h.2.2.1.run]
 all_goals (simp at hl <;> omega)
theorem I4{P:Program}{f:FuncId}{fn:Func}{c:Code}{args:Array Value}{w:World}{R:Ending→World→Prop}(hf:P.funcs[f]? = some fn)(hb:fn.body=some c)
  (hn:(Nat.ble args.size fn.ntmps&&Nat.ble fn.results.size 3)=true) (h:W P fn.ntmps c (fU P fn.results R) (Z6 args) w):Calls P f args w R:=by
 rw[Bool.and_eq_true]at hn;have hle:args.size≤fn.ntmps:=Nat.le_of_ble_eq_true hn.1
 have hl3:fn.results.size≤3:=Nat.le_of_ble_eq_true hn.2
 unfold W at h;refine calls_of_wp hf hb (Code.wp_mono ?_ (h _ rfl (by simp;omega) ?_))
 ·rintro e a w ⟨hd,hs,hq⟩
  cases e with
  | normal=>obtain⟨v,hv,hR⟩:=hq;exact⟨hd,_,o6 hl3 hv,hR⟩
  | ret=>obtain⟨v,hv,hR⟩:=hq;exact⟨hd,_,o6 hl3 hv,hR⟩
  | panic ch=>exact⟨hd,hq⟩
  | outgrown=>exact hq
  | exit id=>exact hq.elim
  | goto l=>exact hq.elim
 ·funext t
  simp only[E0,Z6,Array.getD_eq_getD_getElem?,Array.getElem?_append]
  by_cases ht:t<args.size
  ·rw[if_pos ht]
  ·rw[if_neg ht,Array.getElem?_eq_none (by omega:args.size≤t)]
   simp only[Array.getElem?_replicate]
   split <;> rfl
theorem U4{P:Program}{Γ:C8}{S:List B6}{ρ:Fr}{w:World}{t T m i b:Nat}{cs:Array Value}{E:TypeId}{fr:Nat×Nat}[ha:TA P T m](hw:Wd Γ S w)(hi:S[i]? = some (.blk b (.cells cs E fr)))(hx:ρ t=.pointer (some ⟨b,0,none⟩))(hm:cs.size=m):Xz P ρ w (.cell t T) (.agg cs):=by
 refine⟨_,hx,?_⟩
 have h:=ha.h
 unfold JN at h;cases hu:P.underlying T with
 | none=>simp[hu]at h
 | some u=>
  simp[hu]at h
  have h2:=JX (o:=0) (n:=cs.size) (hw.at_blk hi)
  have h1:=run_loadAt_mid (P:=P) w b 0 T cs.toList u (by simpa using h2) hu h.1 (by simp[h.2,hm])
  simpa[Instr.loadAt,Instr.sureAddr,asAddr] using h1
end Mk
end
section
open Go
namespace Mk
def NX(v:Value)(F:Nat→List B6):B6:=B6.ex (α:={bb:Nat // v=.pointer (some ⟨bb,0,none⟩)}) fun p=>F p.1
section
variable {P:Program}{n:Nat}{ops:List Oper}{Γ:C8}{S K:List B6}{wr tc stab:List (List Nat)}{Q:Fr→World→Prop}{i:Nat}{rest:List Oper}{ρ:Fr}{w:World}{M:Nat→Fr→List B6}{v:Value}{F:Nat→List B6}
variable {d:Option Tmp}{T U ty:TypeId}{pos:String}{es:Array Edge}{x y z:Operand}
theorem Wd.mid{r:B6}{Y:List B6}(h:Wd Γ (K++(r::Y)) w):Wd Γ (r::(K++Y)) w:=h.perm List.perm_middle
theorem Wd.unmid{r:B6}{Y:List B6}(h:Wd Γ (r::(K++Y)) w):Wd Γ (K++(r::Y)) w:=h.perm List.perm_middle.symm
theorem Wd.swapApp{A B C:List B6}(h:Wd Γ (A++(B++C)) w):Wd Γ (B++(A++C)) w:=h.perm (by
 rw[←List.append_assoc,←List.append_assoc];exact List.perm_append_comm.append_right C)
theorem Wd.openAt(h:Wd Γ (NX v F::S) w):∃bb,v=.pointer (some ⟨bb,0,none⟩)∧Wd Γ (F bb++S) w:=by
 obtain⟨⟨bb,hb⟩,h'⟩:=h.openEx;exact⟨bb,hb,h'⟩
theorem Wd.closeAt{bb:Nat}(h:Wd Γ (F bb++S) w):Wd Γ (NX (.pointer (some ⟨bb,0,none⟩)) F::S) w:=Wd.closeEx (X:=fun p:{c:Nat // Value.pointer (some ⟨bb,0,none⟩)=.pointer (some ⟨c,0,none⟩)}=>F p.1) ⟨bb,rfl⟩ h
theorem C6{c:Nat}{m:Fr→List B6}:M1 M c m c=m:=by simp[M1]
theorem HG{c dd:Nat}{cs:List Value}[TZ P T cs](h:MSw (mV P n ops Γ K wr tc stab) Q (i+1) rest ⟨D6 ρ (some dd) undef,M1 M c fun g=>[NX (g dd) fun bb=>[.blk bb (.cells cs.toArray T)]]⟩)
  (ht:tc.getD i []=[c]:=by exact rfl) (hM:M c=(fun _=>[]):=by exact rfl) (hs:(stab.getD c []).contains dd=true:=by exact rfl) (hf:Y7 stab (some dd)=true:=by exact rfl) (hw0:wr.getD i []=[c]:=by exact rfl) :
  MSw (mV P n ops Γ K wr tc stab) Q i (⟨some dd,.alloc T,ty,pos,es,none⟩::rest) ⟨ρ,M⟩:=by
 refine mM _ (fun Y w g hw=>?_) h hw0 rfl
 have S3:Wd Γ (K++Y) w:=by
  have:F4 tc stab i M g=[]:=by unfold F4;rw[ht];simp[hM]
  rw[this]at hw;exact hw
 refine TE S3 fun b w' hw'=>⟨?_,fun hh=>by rw[hf]at hh;cases hh⟩
 have e:F4 tc stab i (M1 M c fun g=>[NX (g dd) fun bb=>[.blk bb (.cells cs.toArray T)]]) (D6 g (some dd) (.pointer (some ⟨b,0,none⟩)))=[NX (.pointer (some ⟨b,0,none⟩)) fun bb=>[.blk bb (.cells cs.toArray T)]]:=by
  unfold F4;rw[ht];have h1:E8 (stab.getD c []) (D6 g (some dd) (.pointer (some ⟨b,0,none⟩))) D5 dd=.pointer (some ⟨b,0,none⟩):=by
   rw[K0 (by simpa using hs)];exact upd_same _ _ _
  simp only[List.flatMap_cons,List.flatMap_nil,List.append_nil,C6,h1]
 rw[e];exact Wd.unmid (Wd.closeAt (F:=fun bb=>[.blk bb (.cells cs.toArray T)]) hw')
theorem Bv{c dd m:Nat}{cs:Array Value}{E:TypeId}{vs:List Value}[hn:Ti P T m](h:MSw (mV P n ops Γ K wr tc stab) Q (i+1) rest ⟨ρ,M1 M c fun g=>[NX (g dd) fun bb=>[.blk bb (.cells (putCells cs 0 vs) E)]]⟩)
  (hd:stab.flatten.contains dd=true:=by exact rfl) (ht:tc.getD i []=[c]:=by exact rfl) (hM:M c=(fun g=>[NX (g dd) fun bb=>[.blk bb (.cells cs E)]]):=by exact rfl) (hs:(stab.getD c []).contains dd=true:=by exact rfl) (hw0:wr.getD i []=[c]:=by exact rfl)
  (hy:∀g,ev (E8 stab.flatten g ρ) y=v:=by intro g;exact j4) (hv:v.cells.toList=vs:=by exact rfl) (hl:vs.length=m:=by exact rfl) (h1:vs.all (·.oneCell')=true:=by exact rfl) (ho:m≤cs.size:=by exact Nat.le_of_ble_eq_true rfl) :
  MSw (mV P n ops Γ K wr tc stab) Q i (⟨none,.store T (.tmp dd) y,ty,pos,es,none⟩::rest) ⟨ρ,M⟩:=by
 refine mM (v:=undef) _ (fun Y w g hw=>?_) h hw0 rfl
 have e:F4 tc stab i M g=[NX (g dd) fun bb=>[.blk bb (.cells cs E)]]:=by
  unfold F4;rw[ht];have h1:E8 (stab.getD c []) g D5 dd=g dd:=K0 (by simpa using hs)
  simp only[List.flatMap_cons,List.flatMap_nil,List.append_nil,hM,h1]
 rw[e]at hw;obtain⟨bb,hb,S3⟩:=(Wd.mid hw).openAt
 have hx:ev (E8 stab.flatten g ρ) (.tmp dd)=.pointer (some ⟨bb,0,none⟩):=by
  show E8 stab.flatten g ρ dd=_
  rw[K0 (by simpa using hd)];exact hb
 refine AR hn.h S3 hx (hy g) hv hl (fun u hu=>(List.all_eq_true.1 h1) u hu) (i:=0) rfl (by omega) fun w' hw'=>⟨?_,fun hh=>rfl⟩
 have e2:F4 tc stab i (M1 M c fun g=>[NX (g dd) fun bb=>[.blk bb (.cells (putCells cs 0 vs) E)]]) (D6 g none undef)=[NX (.pointer (some ⟨bb,0,none⟩)) fun bb=>[.blk bb (.cells (putCells cs 0 vs) E)]]:=by
  unfold F4;rw[ht];have h1:E8 (stab.getD c []) g D5 dd=.pointer (some ⟨bb,0,none⟩):=(K0 (by simpa using hs)).trans hb
  simp only[List.flatMap_cons,List.flatMap_nil,List.append_nil,C6,D6,h1]
 rw[e2];exact Wd.unmid (Wd.closeAt (F:=fun bb=>[.blk bb (.cells (putCells cs 0 vs) E)]) hw')
theorem T9{dd:Nat}(h:∀bb w,Wd Γ (F bb++K) w→Q (upd ρ dd (.pointer (some ⟨bb,0,none⟩))) w)(hM:M 0=(fun g=>[NX (g dd) F]):=by exact rfl):MSw (mV P n ops Γ K wr tc [[dd]]) Q i [] ⟨ρ,M⟩:=
 V1 fun w g hw=>by
  have h0:((List.range [[dd]].length).flatMap fun x=>M x (E8 ([[dd]].getD x []) g D5))=[NX (g dd) F]:=by
   show M 0 (E8 [dd] g D5)++[]=_
   rw[hM];show [NX (upd D5 dd (g dd) dd) F]++[]=_
   rw[upd_same];rfl
  rw[h0]at hw;obtain⟨bb,hb,S3⟩:=(Wd.mid hw).openAt
  have:=h bb w (by simpa using S3)
  rwa [←hb]at this
theorem W3(h:∀w,Wd Γ (K++(List.range stab.length).flatMap fun x=>M x D5) w→Q ρ w)(hs:stab.all (fun l=>l.isEmpty)=true:=by exact rfl):MSw (mV P n ops Γ K wr tc stab) Q i [] ⟨ρ,M⟩:=
 V1 fun w g hw=>by
  have h1:∀x,stab.getD x []=[]:=fun x=>by
   rw[List.getD_eq_getElem?_getD];cases hx:stab[x]? with
   | none=>rfl
   | some l=>
    have:=(List.all_eq_true.1 hs) l (List.mem_of_getElem? hx)
    simpa using this
  have h2:stab.flatten=[]:=by
   rw[List.flatten_eq_nil_iff];intro l hl;have:=(List.all_eq_true.1 hs) l hl
   simpa using this
  rw[h2];refine h w ?_
  have:((List.range stab.length).flatMap fun x=>M x (E8 (stab.getD x []) g D5))=(List.range stab.length).flatMap fun x=>M x D5:=H7 fun x _=>by rw[h1 x];rfl
  rwa [this]at hw
end
section
variable {P:Program}{n:Nat}{opa:Array Oper}{Γ:C8}{S:List B6}{QQ:Exit→Fr→World→Prop}{ρ:Fr}{w:World}{rest:List Oper}{d:Option Tmp}{T ty:TypeId}{pos:String}{es:Array Edge}{x y:Operand}
theorem T3{E by' i sz m c m2 c2:Nat}{zs:List Value}{a a2:Option Addr}{rows rows2:List (List Value)}[TL P T E sz by' zs](h:∀v' w',Wd Γ (S.set i (.own v' E sz (rows++rows2))) w'→L P n opa QQ rest (D6 ρ d v') w')(hr2:Rd w a2 sz rows2)(hx:ev ρ x=.slice a m c:=by exact rfl)(hy:ev ρ y=.slice a2 m2 c2:=by exact rfl)(hw:Wd Γ S w:=by exact hw)
  (hi:S[i]? = some (.own (.slice a m c) E sz rows):=by exact GZ) (h1:rows2.flatten.all (·.oneCell')=true:=by exact rfl) (hm:m2=rows2.length:=by exact rfl) (hb:(m+m2)*by'≤140737488355328:=by omega) (h63:m+m2≤9223372036854775807:=by omega) (hd:G7 n d=true:=by exact rfl) :
  L P n opa QQ (⟨d,.call { callee:=.builtin .append,args:=#[x,y],argTypes:=#[T,T] },ty,pos,es,none⟩::rest) ρ w:=bY h hr2 hm (fun u hu=>(List.all_eq_true.1 h1) u hu) hb h63 hw hx hy hi hd
end
end Mk
end
section
open Go
open Go.ChangeMaps (setBlock)
namespace Mk
section
variable {P:Program}{Γ:C8}{S:List B6}{w:World}{ρ:Fr}{K:Value→World→Prop}
variable {d:Option Tmp}{T ty:TypeId}{pos:String}{es:Array Edge}{g:Option (Nat×Bool)}{x y z:Operand}
end
section
variable {P:Program}{n:Nat}{opa:Array Oper}{Γ:C8}{S:List B6}{QQ:Exit→Fr→World→Prop}{ρ:Fr}{w:World}{rest:List Oper}
variable {d:Option Tmp}{T ty:TypeId}{pos:String}{es:Array Edge}{x:Operand}
end
section
attribute [local semireducible] Step L W
variable {P:Program}{n:Nat}{Q:Exit→Fr→World→Prop}{ρ:Fr}{w:World}{ro:Option Nat}{ds:List Deferred}
end
end Mk
namespace Mk
theorem QW{args:Array Value}{n:Nat}(hn:Nat.ble args.size n=true):E0 { tmps:=args++Array.replicate (n-args.size) undef,defers:=[] }=Z6 args:=by
 funext t
 simp only[E0,Z6,Array.getD_eq_getD_getElem?,Array.getElem?_append]
 have hle:args.size≤n:=Nat.le_of_ble_eq_true hn
 by_cases ht:t<args.size
 ·rw[if_pos ht]
 ·rw[if_neg ht,Array.getElem?_eq_none (by omega:args.size≤t)]
  simp only[Array.getElem?_replicate]
  split <;> rfl
end Mk
namespace Mk
section
variable {P:Program}{n:Nat}{Γ:C8}{S:List B6}{Q:Exit→Fr→World→Prop}{ρ:Fr}{w:World}{rest:List Oper}
variable {d:Option Tmp}{T U ty:TypeId}{pos:String}{es:Array Edge}{x y z:Operand}{v:Value}
end
end Mk
namespace Mk
end Mk
namespace Mk
end Mk
end
section
open Go
namespace Mk
def Ai(w:World):C8:=⟨fun b=>w.heap[b]?,w.os,w.tape,w.output,w.drawn⟩
theorem Ec(w:World):Wd (Ai w) [] w:=⟨rfl,rfl,rfl,Nat.le_refl _,fun b o h=>h,[],trivial,by simp,by simp⟩
theorem LL{w w':World}{S:List B6}(h:Wd (Ai w) S w'):∃q os',w'=Go.Sort.grow (w.drewN q) os':=by
 have hsz:w.heap.size≤w'.heap.size:=by
  by_cases h0:w.heap.size=0
  ·omega
  ·have hl:w.heap.size-1<w.heap.size:=by omega
   have:=h.imm (w.heap.size-1) w.heap[w.heap.size-1] (by show w.heap[_]? = _;simp)
   have:=(Array.getElem?_eq_some_iff.1 this).1
   omega
 refine⟨w'.drawn-w.drawn,w'.heap.extract w.heap.size w'.heap.size,?_⟩
 have hh:w'.heap=w.heap++w'.heap.extract w.heap.size w'.heap.size:=by
  refine Array.ext_getElem? fun i=>?_
  rw[Array.getElem?_append];split
  ·rename_i hi
   rw[h.imm i w.heap[i] (by show w.heap[i]? = _;simp[hi]),Array.getElem?_eq_getElem hi]
  ·rename_i hi
   simp only[Array.getElem?_extract]
   split
   ·congr 1;omega
   ·rw[Array.getElem?_eq_none (by omega)]
 have hd:w.drawn≤w'.drawn:=h.dr
 cases w' with
 | mk hp tp dr os out=>
  simp only at hh hd
  have e1:os=w.os:=h.os
  have e2:tp=w.tape:=h.tape
  have e3:out=w.output:=h.out
  subst e1 e2 e3;unfold Go.Sort.grow World.drewN;simp only[World.mk.injEq]
  exact⟨hh,trivial,by omega,trivial,trivial⟩
section
variable {P:Program}{Γ:C8}{S:List B6}{w:World}{α:Type}[Inhabited α]{E k n c g i:Nat}{enc:α→List Value}
attribute [local semireducible] B6.own
theorem AY{v:Value}{sz e:Nat}{rows:List (List Value)}(hw:Wd Γ S w)(hi:S[i]? = some (.own v e sz rows)):∃a n c,v=.slice a n c∧n=rows.length∧n≤c∧c≤maxLen∧(c=0∨∃g cur,a=some ⟨g,0,none⟩∧g<w.heap.size∧w.heap[g]? = some (.cells cur e (0,0))∧cur.size=c*sz∧cur.toList.take (n*sz)=rows.flatten):=by
 obtain⟨bs,_,a,n,c,h1,h2,h3,h4,h5⟩:=hw.own_holds hi
 refine⟨a,n,c,h1,h2,h3,h4,h5.imp (fun h=>h.1) ?_⟩
 rintro⟨g,cur,g1,g2,g3,g4,g5⟩;exact⟨g,cur,g1,(Array.getElem?_eq_some_iff.1 g3).1,g3,g4,g5⟩
theorem GE(hk:∀x,(enc x).length=k)(xs:List α):(Go.Sort.flatK enc k xs.toArray).toList=(xs.map enc).flatten:=by
 have hl:∀r∈xs.map enc,r.length=k:=fun r hr=>by obtain⟨x,_,rfl⟩:=List.mem_map.1 hr;exact hk x
 have h2:(xs.map enc).flatten.length=xs.length*k:=by rw[T5 hl,List.length_map]
 refine List.ext_getElem? fun t=>?_
 by_cases ht:t<xs.length*k
 ·have hk0:0<k:=by
   rcases Nat.eq_zero_or_pos k with h0|h0
   ·subst h0;simp at ht
   ·exact h0
  have h3:t / k<xs.length:=Nat.div_lt_of_lt_mul (by rw[Nat.mul_comm];exact ht)
  have h4:t%k<k:=Nat.mod_lt _ hk0
  have h5:(enc xs[t / k]).length=k:=hk _
  have h6:=EL (rows:=xs.map enc) (i:=t / k) (r:=enc xs[t / k]) hl (by simp[h3]) (t%k) ((enc xs[t / k])[t%k]'(by omega)) (by simp[h5,h4])
  have h7:t / k*k+t%k=t:=by rw[Nat.mul_comm];exact Nat.div_add_mod t k
  rw[h7]at h6;rw[h6];have hs:t<(Go.Sort.flatK enc k xs.toArray).size:=by simpa using ht
  rw[Array.getElem?_toList,Array.getElem?_eq_getElem hs,←getElem!_pos (Go.Sort.flatK enc k xs.toArray) t hs,Go.Sort.get_flatK _ _ _ _ (by simpa using ht)]
  simp[h3,h5,h4]
 ·rw[List.getElem?_eq_none (by simp;omega),List.getElem?_eq_none (by omega)]
theorem Ao{xs:List α}(hk:∀x,(enc x).length=k)(hw:Wd Γ S w)(hi:S[i]? = some (.own (.slice (some ⟨g,0,none⟩) n c) E k (xs.map enc)))(hc:0<c):Go.Sort.HoldsK enc k w g 0 xs.toArray∧g<w.heap.size:=by
 obtain⟨a,n',c',e1,e2,e3,e4,e5⟩:=AY hw hi
 cases e1
 rcases e5 with e5|⟨g',cur,g1,g2,g3,g4,g5⟩
 ·omega
 cases g1
 refine⟨fun j hj=>?_,g2⟩
 have hj':j<xs.length*k:=by simpa using hj
 rw[←GE hk]at g5;have hn:n=xs.length:=by simpa using e2
 subst hn;have h1:(cur.toList.take (xs.length*k))[j]? = cur[j]?:=by rw[List.getElem?_take_of_lt hj',Array.getElem?_toList]
 rw[g5,Array.getElem?_toList,Array.getElem?_eq_getElem hj]at h1;constructor
 ·simp only[World.cell?,g3,Nat.zero_add,id]
  simp only[Option.isSome_none,Bool.false_eq_true,if_false]
  rw[←h1,getElem!_pos _ j hj]
 ·simp[World.frozen?,g3]
theorem R8{xs:List α}(hk:∀x,(enc x).length=k)(hw:Wd Γ S w)(hi:S[i]? = some (.own (.slice (some ⟨g,0,none⟩) n c) E k (xs.map enc)))(hc:0<c)(dk:Array α)(hs:dk.size=xs.length)(m:Nat)(os:Array Obj) :
  Wd Γ (S.set i (.own (.slice (some ⟨g,0,none⟩) n c) E k (dk.toList.map enc))) (Go.Proofs.sortWorldK enc k w g 0 m dk os):=by
 have hsz:(Go.Proofs.sortWorldK enc k w g 0 m dk os).heap.size=w.heap.size+os.size:=by
  simp[Go.Proofs.sortWorldK,Go.Sort.grow,Go.Sort.putRowK,Go.Sort.putRow,Go.Sort.mapBlock,Go.Sort.ahead]
 refine hw.upd hi ⟨rfl,rfl,rfl,Nat.le_add_right _ _,by omega⟩ fun bs hr hnd hlt=>?_
 unfold B6.own at hr ⊢
 obtain⟨h0,a',n',c',e1,e2,e3,e4,e5⟩:=hr;cases e1
 rcases e5 with⟨e5,_⟩|⟨g',cur,g1,rfl,g3,g4,g5⟩
 ·omega
 cases g1
 have hn:n=xs.length:=by simpa using e2
 subst hn;have hglt:g<w.heap.size:=hlt g (by simp)
 have hkk:∀b,b<w.heap.size→(Go.Proofs.sortWorldK enc k w g 0 m dk os).heap[b]? = (w.heap.modify g (Go.Sort.onCells (Go.Sort.putCells id 0 (Go.Sort.flatK enc k dk))))[b]?:=fun b hb=>by
  show ((w.heap.modify g _)++os)[b]? = _
  rw[Array.getElem?_append_left (by simpa using hb)]
 refine⟨[g],⟨fun r hr=>?_,_,_,_,rfl,by simp[hs],e3,e4,.inr ⟨g,Go.Sort.putCells id 0 (Go.Sort.flatK enc k dk) cur,rfl,rfl,?_,?_,?_⟩⟩,by simp,fun b hb=>⟨by have:=hlt b hb;omega,.inl hb⟩,fun b hb hne=>?_⟩
 ·obtain⟨x,_,rfl⟩:=List.mem_map.1 hr;exact hk x
 ·show (Go.Proofs.sortWorldK enc k w g 0 m dk os).heap[g]? = _
  rw[hkk g hglt,Array.getElem?_modify,if_pos rfl];simp only[hp]at g3
  rw[g3];rfl
 ·rw[←g4];simp[Go.Sort.putCells]
 ·rw[show dk.toList.map enc=((dk.toList).map enc) from rfl,←GE hk];refine List.ext_getElem? fun j=>?_
  have hfs:(Go.Sort.flatK enc k dk.toList.toArray).size=xs.length*k:=by simp[hs]
  by_cases hj:j<xs.length*k
  ·have hjc:j<cur.size:=by
    rw[g4];exact Nat.lt_of_lt_of_le hj (Nat.mul_le_mul_right _ e3)
   rw[List.getElem?_take_of_lt hj,Array.getElem?_toList,Array.getElem?_toList,Array.getElem?_eq_getElem (by simpa[Go.Sort.putCells] using hjc),Array.getElem?_eq_getElem (by rw[hfs];exact hj)]
   simp only[Go.Sort.putCells,Array.getElem_mapIdx,Nat.zero_le,Nat.sub_zero,Nat.zero_add,true_and,id]
   rw[if_pos (by simpa[hs] using hj),getElem!_pos _ j (by simpa[hs] using hj)]
  ·rw[List.getElem?_eq_none (by simp;omega),List.getElem?_eq_none (by simp[hs];omega)]
 ·rw[hkk b hb,Array.getElem?_modify,if_neg (fun e=>hne (by simp[e]))]
theorem IG{d d':Array α}(h:Go.Sort.PermIn 0 d.size d d'):d'.toList.Perm d.toList:=by
 obtain⟨h1,_,h2⟩:=h;have e:∀x:Array α,x.size=d.size→x.extract 0 d.size=x:=fun x hx=>by rw[←hx];simp
 rwa [e d' h1,e d rfl]at h2
theorem Ez{lt:α→α→Bool}{d:Array α}{m:Nat}(hm:m=d.size)(h:Go.Sort.SortedIn lt 0 m d):d.toList.Pairwise fun a b=>lt b a=false:=by
 subst hm;rw[List.pairwise_iff_getElem];intro i j hi hj hij;have:=h i j (Nat.zero_le _) hij (by simpa using hj)
 simp only[Array.length_toList]at hi hj
 simpa[hi,hj] using this
theorem FH{ρ:Go.Shelf.Ren}(L:Go.Proofs.SlLaysF0.n6 P ρ)(cf:α→α→Int)(f:Nat)(cap:List Value)[C7 P f](xs:List α)(v:Value)(hw:Wd Γ S w)(hi:S[i]? = some (.own v E k (xs.map enc)))
  (hk:∀x,(enc x).length=k) (h1:∀x,∀u∈enc x,u.oneCell'=true) (hA:TA P (ρ.t 24) k) (hO:Go.Sort.SWO (Go.Proofs.ltOf cf)) (hlen:xs.length<4611686018427387904)
  (hcmp:∀(dk:List α) w',Wd Γ (S.set i (.own v E k (dk.map enc))) w'→∀x y,Calls P f (#[.agg (enc x).toArray,.agg (enc y).toArray]++cap.toArray) w' fun e w''=>e=.returned (.int .i64 (cf x y))∧∃S'',Wd (Ai w') S'' w'') :
  Calls P (ρ.f 6) #[v,.func (.func f) #[] cap.toArray] w fun e w'=>e=.returned (.tuple #[])∧∃ys:List α,ys.Perm xs∧(ys.Pairwise fun a b=>Go.Proofs.ltOf cf b a=false)∧Wd Γ (S.set i (.own v E k (ys.map enc))) w':=by
 obtain⟨a,n,c,rfl,e2,e3,e4,e5⟩:=AY hw hi
 have hn:n=xs.length:=by simpa using e2
 by_cases h0:n=0
 ·have hx:xs=[]:=List.eq_nil_of_length_eq_zero (by omega)
  subst h0;refine(Go.Proofs.AnyF.slices_SortFunc_none (P:=P) (ρ:=ρ) L a c _ w).mono ?_
  rintro e w' ⟨he,rfl⟩
  refine⟨he,[],by rw[hx],List.Pairwise.nil,?_⟩
  rw[hx]at hi;have hset:S.set i (.own (.slice a 0 c) E k (([]:List α).map enc))=S:=by
   obtain⟨hil,hie⟩:=List.getElem?_eq_some_iff.1 hi
   rw[←hie];exact List.set_getElem_self hil
  rw[hset];exact hw
 ·have hc:0<c:=by omega
  rcases e5 with e5|⟨g,cur,rfl,hg,hcur,hcs,htk⟩
  ·omega
  obtain⟨hH,hgl⟩:=Ao hk hw hi hc
  have haggz:(∀w,(isAgg (ρ.t 24)).run P w=.ok true w)∧∀w,(Go.sizeOf (ρ.t 24)).run P w=.ok k w:=by
   have h:=hA.h
   unfold JN at h;cases hu:P.underlying (ρ.t 24) with
   | none=>simp[hu]at h
   | some t=>
    simp[hu]at h
    cases hq:P.info? (ρ.t 24) with
    | none=>simp[hq]at h
    | some q=>
     simp[hq]at h
     refine⟨fun w=>?_,fun w=>by simp[Go.sizeOf,typeInfo,hq,h.2]⟩
     unfold isAgg;rw[Sem.run_bind,run_underlying hu w];cases t <;> simp_all [TypeDesc.isRow]
  have:=Go.Proofs.AnyQ.slices_SortFunc L k haggz.1 haggz.2 enc hk h1 cf hO f cap.toArray g 0 c xs.toArray w (fun args w=>R3 args) (fun m os dk hdk x y=>?_) hH hgl (by simpa using hlen)
  ·simp only[List.size_toArray]at this
   rw[←hn]at this;refine this.mono ?_
   rintro e w' ⟨he,d',n',os,hp,hs,rfl⟩
   have hd:d'.size=xs.length:=by have:=hp.1;simpa using this
   refine⟨he,d'.toList,by simpa using IG (d:=xs.toArray) (by simpa[←hn] using hp),Ez (m:=n) (by omega) hs,R8 hk hw hi hc d' hd n' os⟩
  ·have S3:=R8 hk hw hi hc dk (by simpa using hdk) m os
   refine(hcmp dk.toList _ S3 x y).mono ?_
   rintro e w'' ⟨he,S'',ES⟩
   exact⟨he,LL ES⟩
end
section
variable {P:Program}{n:Nat}{ops:List Oper}{Γ:C8}{S K:List B6}{wr tc stab:List (List Nat)}{Q:Fr→World→Prop}{QQ:Exit→Fr→World→Prop}{i:Nat}{rest:List Oper}{ρ:Fr}{w:World}{M:Nat→Fr→List B6}{v:Value}
variable {d:Option Tmp}{T U ty:TypeId}{pos:String}{es:Array Edge}{x y z:Operand}
theorem Wd.toEnd{r:B6}(h:Wd Γ (r::S) w):Wd Γ (S++[r]) w:=h.perm (List.perm_append_singleton r S).symm
def ZE(i:Nat)(S:List B6):List B6:=match S[i]? with|some r=>r::S.eraseIdx i|none=>S
def gk:List Nat→List B6→List B6
 | [],S=>S
 | i::is,S=>gk is (ZE i S)
theorem Wd.ps{Γ:C8}{w:World}:∀(is:List Nat) {S:List B6},Wd Γ S w→Wd Γ (gk is S) w
 | [],_,h=>h
 | i::is,S,h=>Wd.ps is (by
  unfold ZE;split
  ·rename_i r hr;exact h.pull hr
  ·exact h)
def dsL:List Nat→List B6→List B6
 | [],S=>S
 | i::is,S=>dsL is (S.eraseIdx i)
theorem Wd.ds{Γ:C8}{w:World}:∀(is:List Nat) {S:List B6},Wd Γ S w→Wd Γ (dsL is S) w
 | [],_,h=>h
 | i::is,_,h=>Wd.ds is (h.dropAt i)
theorem Wd.flip{A B:List B6}(h:Wd Γ (A++B) w):Wd Γ (B++A) w:=h.perm List.perm_append_comm
theorem Wd.dropEnd{A B C:List B6}(h:Wd Γ (A++(B++C)) w):Wd Γ (A++B) w:=by
 rw[←List.append_assoc]at h;exact h.left
theorem Wd.right{S':List B6}(h:Wd Γ (S'++S) w):Wd Γ S w:=(h.perm List.perm_append_comm).left
theorem Gy{id:Nat}{l:List Oper}(k:Nat)(wr tc stab:List (List Nat))(h:MSw (mV P n l Γ K wr tc stab) (fun ρ w=>QQ .normal ρ w) 0 l ⟨ρ,ML (List.replicate k fun _=>[])⟩)
  (hw:Wd Γ K w:=by exact hw) (hm:P.follows .mixedOrders=true:=by kernel_rfl) (hk:R6 n l wr tc stab=true:=by kernel_rfl):W P n (.region id l.toArray true) QQ ρ w:=
 U0 K _ wr tc stab (by
  have:((List.range stab.length).flatMap fun x=>ML (List.replicate k fun _=>[]) x (E8 (stab.getD x []) ρ D5))=[]:=by
   rw[List.flatMap_eq_nil_iff];intro x _;unfold ML;rw[List.getD_eq_getElem?_getD];cases hx:(List.replicate k fun _:Fr=>([]:List B6))[x]? with
   | none=>rfl
   | some q=>
    have:=List.mem_of_getElem? hx
    rw[List.mem_replicate]at this;rw[this.2];rfl
  rw[this,List.append_nil];exact hw) h hm hk
theorem Cb{id:Nat}{l:List Oper}(K X:List B6)(wr tc:List (List Nat))(hw:Wd Γ (K++X) w)(h:MSw (mV P n l Γ K wr tc [[]]) (fun ρ w=>QQ .normal ρ w) 0 l ⟨ρ,ML [fun _=>X]⟩)
  (hm:P.follows .mixedOrders=true:=by kernel_rfl) (hk:R6 n l wr tc [[]]=true:=by kernel_rfl):W P n (.region id l.toArray true) QQ ρ w:=
 U0 K [fun _=>X] wr tc [[]] (by
  show Wd Γ (K++(X++[])) w
  rw[List.append_nil];exact hw) h hm hk
theorem JZ{id:Nat}{l:List Oper}(K X:List B6)(wr tc stab:List (List Nat))(hw:Wd Γ (K++X) w)(h:MSw (mV P n l Γ K wr tc stab) (fun ρ w=>QQ .normal ρ w) 0 l ⟨ρ,ML [fun _=>X,fun _=>[]]⟩)(hs:stab.length=2:=by exact rfl)
  (hm:P.follows .mixedOrders=true:=by kernel_rfl) (hk:R6 n l wr tc stab=true:=by kernel_rfl):W P n (.region id l.toArray true) QQ ρ w:=
 U0 K [fun _=>X,fun _=>[]] wr tc stab (by
  have e:(List.range stab.length).flatMap (fun x=>(ML [fun _=>X,fun _=>[]]) x (E8 (stab.getD x []) ρ D5))=X:=by
   rw[hs];show X++([]++[])=X
   simp
  rw[e];exact hw) h hm hk
theorem U2{c b o j m:Nat}{cs:Array Value}{E:TypeId}{vs:List Value}{X:List B6}[hn:Ti P T m](h:MSw (mV P n ops Γ K wr tc stab) Q (i+1) rest ⟨ρ,M1 M c fun _=>X.set j (.blk b (.cells (putCells cs o vs) E))⟩)
  (ht:tc.getD i []=[c]:=by exact rfl) (hM:M c=(fun _=>X):=by exact rfl) (hj:X[j]? = some (.blk b (.cells cs E)):=by exact GZ) (hw0:wr.getD i []=[c]:=by exact rfl) (hx:∀g,ev (E8 stab.flatten g ρ) x=.pointer (some ⟨b,o,none⟩):=by intro g;exact rfl)
  (hy:∀g,ev (E8 stab.flatten g ρ) y=v:=by intro g;exact j4) (hv:v.cells.toList=vs:=by exact rfl) (hl:vs.length=m:=by exact rfl) (h1:vs.all (·.oneCell')=true:=by exact rfl) (ho:o+m≤cs.size:=by exact Nat.le_of_ble_eq_true rfl) :
  MSw (mV P n ops Γ K wr tc stab) Q i (⟨none,.store T x y,ty,pos,es,none⟩::rest) ⟨ρ,M⟩:=by
 refine mM (v:=undef) _ (fun Y w g hw=>?_) h hw0 rfl
 have e:∀M',F4 tc stab i M' g=M' c (E8 (stab.getD c []) g D5):=fun M'=>by
  unfold F4;rw[ht];simp
 rw[e,hM]at hw;have hjl:j<X.length:=(List.getElem?_eq_some_iff.1 hj).1
 refine AR hn.h hw (hx g) (hy g) hv hl (fun u hu=>(List.all_eq_true.1 h1) u hu) (i:=K.length+j) (by rw[List.getElem?_append_right (Nat.le_add_right _ _),Nat.add_sub_cancel_left,List.getElem?_append_left hjl];exact hj) ho fun w' hw'=>⟨?_,fun _=>rfl⟩
 have e2:F4 tc stab i (M1 M c fun _=>X.set j (.blk b (.cells (putCells cs o vs) E))) (D6 g none undef)=X.set j (.blk b (.cells (putCells cs o vs) E)):=by
  unfold F4;rw[ht];simp[C6]
 rw[e2];rw[List.set_append_right _ _ (Nat.le_add_right _ _),Nat.add_sub_cancel_left,List.set_append_left _ _ hjl]at hw';exact hw'
theorem Q7{c:Nat}{g:Fr}(ht:tc.getD i []=[c])(M:Nat→Fr→List B6):F4 tc stab i M g=M c (E8 (stab.getD c []) g D5):=by unfold F4;rw[ht];simp
theorem HL{c c2:Nat}{g:Fr}(ht:tc.getD i []=[c,c2])(M:Nat→Fr→List B6):F4 tc stab i M g=M c (E8 (stab.getD c []) g D5)++M c2 (E8 (stab.getD c2 []) g D5):=by unfold F4;rw[ht];simp
theorem A9{c c':Nat}{m:Fr→List B6}(h:c'≠c):M1 M c m c'=M c':=by simp[M1,h]
theorem fB{c b j:Nat}{β:Type}{f:β→Value}{l:List (ByteArray×β)}{a:ByteArray}{v:β}{X:List B6}{KT ET:TypeId}[hMp:BJ P T KT ET][hK:En P KT](h:MSw (mV P n ops Γ K wr tc stab) Q (i+1) rest ⟨ρ,M1 M c fun _=>X.set j (B6.ms f b (j6 l a v))⟩)
  (ht:tc.getD i []=[c]:=by exact rfl) (hM:M c=(fun _=>X):=by exact rfl) (hj:X[j]? = some (B6.ms f b l):=by exact GZ) (hw0:wr.getD i []=[c]:=by exact rfl) (hx:∀g,ev (E8 stab.flatten g ρ) x=.map (some b):=by intro g;exact rfl) (hy:∀g,ev (E8 stab.flatten g ρ) y=.string a:=by intro g;exact rfl) (hz:∀g,ev (E8 stab.flatten g ρ) z=f v:=by intro g;exact rfl) :
  MSw (mV P n ops Γ K wr tc stab) Q i (⟨none,.mapUpdate T x y z,ty,pos,es,none⟩::rest) ⟨ρ,M⟩:=by
 refine mM (v:=undef) _ (fun Y w g hw=>?_) h hw0 rfl
 rw[Q7 ht,hM]at hw;have hjl:j<X.length:=(List.getElem?_eq_some_iff.1 hj).1
 refine X9 hw (hx g) (hy g) (hz g) (i:=K.length+j) (by rw[List.getElem?_append_right (Nat.le_add_right _ _),Nat.add_sub_cancel_left,List.getElem?_append_left hjl];exact hj) fun w' hw'=>⟨?_,fun _=>rfl⟩
 rw[Q7 ht,C6];rw[List.set_append_right _ _ (Nat.le_add_right _ _),Nat.add_sub_cancel_left,List.set_append_left _ _ hjl]at hw';exact hw'
theorem TN{c k j m cc sz E:Nat}{a:Option Addr}{r:List Value}{rows:List (List Value)}{X:List B6}[hn:Ti P T sz](h:MSw (mV P n ops Γ K wr tc stab) Q (i+1) rest ⟨ρ,M1 M c fun _=>X.set j (.own (.slice a m cc) E sz (rows.set k r))⟩)
  (ht:tc.getD i []=[c]:=by exact rfl) (hM:M c=(fun _=>X):=by exact rfl) (hj:X[j]? = some (.own (.slice a m cc) E sz rows):=by exact GZ) (hw0:wr.getD i []=[c]:=by exact rfl) (hx:∀g,ev (E8 stab.flatten g ρ) x=.pointer (some ⟨aB a,aO a+k*sz,none⟩):=by intro g;exact rfl)
  (hy:∀g,ev (E8 stab.flatten g ρ) y=v:=by intro g;exact j4) (hv:v.cells.toList=r:=by exact rfl) (hl:r.length=sz:=by exact rfl) (h1:r.all (·.oneCell')=true:=by exact rfl) (hk:k<m:=by omega) :
  MSw (mV P n ops Γ K wr tc stab) Q i (⟨none,.store T x y,ty,pos,es,none⟩::rest) ⟨ρ,M⟩:=by
 refine mM (v:=undef) _ (fun Y w g hw=>?_) h hw0 rfl
 rw[Q7 ht,hM]at hw;have hjl:j<X.length:=(List.getElem?_eq_some_iff.1 hj).1
 refine Pi hn.h hw (hx g) (hy g) hv hl h1 (i:=K.length+j) (by rw[List.getElem?_append_right (Nat.le_add_right _ _),Nat.add_sub_cancel_left,List.getElem?_append_left hjl];exact hj) hk fun w' hw'=>⟨?_,fun _=>rfl⟩
 rw[Q7 ht,C6];rw[List.set_append_right _ _ (Nat.le_add_right _ _),Nat.add_sub_cancel_left,List.set_append_left _ _ hjl]at hw';exact hw'
theorem p8{c dd E by' len sz:Nat}{zs:List Value}{parts:Array (Nat×Operand)}{cells:List Value}(rws:List (List Value))[TL P T E sz by' zs](h:MSw (mV P n ops Γ K wr tc stab) Q (i+1) rest ⟨D6 ρ (some dd) undef,M1 M c fun g=>[.own (g dd) E sz rws]⟩)
  (hf:∀g,r8 (fun i=>some (i*sz,sz)) ((List.range (len*sz)).map fun i=>zs.getD (i%sz) undef) (parts.toList.map fun p=>(p.1,ev (E8 stab.flatten g ρ) p.2))=some cells:=by intro g;exact rfl)
  (ht:tc.getD i []=[c]:=by exact rfl) (hM:M c=(fun _=>[]):=by exact rfl) (hs:(stab.getD c []).contains dd=true:=by exact rfl) (hfr:Y7 stab (some dd)=true:=by exact rfl) (hw0:wr.getD i []=[c]:=by exact rfl)
  (hrw:rws.flatten=cells:=by exact rfl) (hlen:rws.length=len:=by exact rfl) (hr:rws.all (fun r=>Nat.beq r.length sz)=true:=by exact rfl) (hbig:Nat.ble (len*sz) 16777216=true:=by exact rfl) :
  MSw (mV P n ops Γ K wr tc stab) Q i (⟨some dd,.buildSlice T len parts,ty,pos,es,none⟩::rest) ⟨ρ,M⟩:=by
 refine mM (v:=undef) _ (fun Y w g hw=>?_) h hw0 rfl
 rw[Q7 ht,hM]at hw;refine R4 (rws:=rws) hw (hf g) hrw hlen (fun r hm=>Nat.eq_of_beq_eq_true ((List.all_eq_true.1 hr) r hm)) (Nat.le_of_ble_eq_true hbig) fun a w' hw'=>⟨?_,fun hh=>by rw[hfr]at hh;cases hh⟩
 rw[Q7 ht,C6];have h1:E8 (stab.getD c []) (D6 g (some dd) (.slice (some a) len len)) D5 dd=.slice (some a) len len:=by
  rw[K0 (by simpa using hs)];exact upd_same _ _ _
 rw[h1];exact Wd.unmid hw'
theorem IX{c c2 dd dy j E by' sz m cc:Nat}{zs:List Value}{a:Option Addr}{rows rows2:List (List Value)}{X:List B6}[TL P T E sz by' zs](h:MSw (mV P n ops Γ K wr tc stab) Q (i+1) rest ⟨D6 ρ (some dd) undef,M1 M c fun g=>X.set j (.own (g dd) E sz (rows++rows2))⟩)
  (hx:∀g,ev (E8 stab.flatten g ρ) x=.slice a m cc:=by intro g;exact rfl) (ht:tc.getD i []=[c,c2]:=by exact rfl) (hM:M c=(fun _=>X):=by exact rfl) (hM2:M c2=(fun g=>[.own (g dy) E sz rows2]):=by exact rfl) (hj:X[j]? = some (.own (.slice a m cc) E sz rows):=by exact GZ)
  (hs:(stab.getD c []).contains dd=true:=by exact rfl) (hs2:(stab.getD c2 []).contains dy=true:=by exact rfl) (hfr:Y7 stab (some dd)=true:=by exact rfl) (hfy:stab.flatten.contains dy=true:=by exact rfl) (hne:Nat.beq dy dd=false:=by exact rfl) (hcc:Nat.beq c2 c=false:=by exact rfl) (hw0:wr.getD i []=[c]:=by exact rfl)
  (h1:rows2.flatten.all (·.oneCell')=true:=by exact rfl) (hb:(m+rows2.length)*by'≤140737488355328:=by (simp only[List.length_cons,List.length_nil];omega)) (h63:m+rows2.length≤9223372036854775807:=by (simp only[List.length_cons,List.length_nil];omega)) :
  MSw (mV P n ops Γ K wr tc stab) Q i (⟨some dd,.call { callee:=.builtin .append,args:=#[x,.tmp dy],argTypes:=#[T,T] },ty,pos,es,none⟩::rest) ⟨ρ,M⟩:=by
 refine mM (v:=undef) _ (fun Y w g hw=>?_) h hw0 rfl
 have hyd:dy≠dd:=fun e=>by subst e;simp at hne
 have hcd:c2≠c:=fun e=>by subst e;simp at hcc
 rw[HL ht,hM,hM2]at hw;have h2:∀f:Fr,E8 (stab.getD c2 []) f D5 dy=f dy:=fun f=>K0 (by simpa using hs2)
 simp only[h2]at hw
 have hjl:j<X.length:=(List.getElem?_eq_some_iff.1 hj).1
 have hi1:(K++(X++[.own (g dy) E sz rows2]++Y))[K.length+j]? = some (.own (.slice a m cc) E sz rows):=by
  rw[List.getElem?_append_right (Nat.le_add_right _ _),Nat.add_sub_cancel_left,List.append_assoc,List.getElem?_append_left hjl];exact hj
 have hi2:(K++(X++[.own (g dy) E sz rows2]++Y))[K.length+X.length]? = some (.own (g dy) E sz rows2):=by
  rw[List.getElem?_append_right (Nat.le_add_right _ _),Nat.add_sub_cancel_left,List.append_assoc,List.getElem?_append_right (Nat.le_refl _)];simp
 obtain⟨a2,m2,c3,e1,e2,e3,e4⟩:=hw.own_shape hi2
 have hrd:Rd w a2 sz rows2:=by
  have ES:=hw
  have hi3:=hi2
  rw[e1]at ES hi3
  exact ES.own_rd hi3
 have hy:ev (E8 stab.flatten g ρ) (.tmp dy)=.slice a2 m2 c3:=by
  show E8 stab.flatten g ρ dy=_
  rw[K0 (by simpa using hfy)];exact e1
 refine EH hw (hx g) hy hi1 hrd e2 (fun u hu=>(List.all_eq_true.1 h1) u hu) (by rw[e2];exact hb) (by rw[e2];exact h63) fun v' w' hw'=>⟨?_,fun hh=>by rw[hfr]at hh;cases hh⟩
 rw[HL ht,C6,A9 hcd,hM2];have h3:E8 (stab.getD c []) (D6 g (some dd) v') D5 dd=v':=by
  rw[K0 (by simpa using hs)];exact upd_same _ _ _
 have h4:D6 g (some dd) v' dy=g dy:=upd_ne _ _ hyd
 simp only[h2,h3,h4]
 rw[List.append_assoc,List.set_append_right _ _ (Nat.le_add_right _ _),Nat.add_sub_cancel_left,List.set_append_left _ _ hjl]at hw';rw[List.append_assoc];exact hw'
theorem AO{c b o j j2 dv E2 eg:Nat}{cs:Array Value}{E:TypeId}{rows:List (List Value)}{X:Fr→List B6}[hn:Ti P T 1](h:MSw (mV P n ops Γ K wr tc stab) Q (i+1) rest ⟨ρ,M1 M c fun g=>(X g).set j (.blk b (.cells (putCells cs o [g dv]) E))⟩)
  (ht:tc.getD i []=[c]:=by exact rfl) (hM:M c=X:=by exact rfl) (hj:∀g,(X g)[j]? = some (.blk b (.cells cs E)):=by intro g;exact GZ) (hj2:∀g,(X g)[j2]? = some (.own (g dv) E2 eg rows):=by intro g;exact GZ) (hw0:wr.getD i []=[c]:=by exact rfl) (hx:∀g,ev (E8 stab.flatten g ρ) x=.pointer (some ⟨b,o,none⟩):=by intro g;exact rfl)
  (hs:(stab.getD c []).contains dv=true:=by exact rfl) (hfv:stab.flatten.contains dv=true:=by exact rfl) (ho:o+1≤cs.size:=by exact Nat.le_of_ble_eq_true rfl) :
  MSw (mV P n ops Γ K wr tc stab) Q i (⟨none,.store T x (.tmp dv),ty,pos,es,none⟩::rest) ⟨ρ,M⟩:=by
 refine mM (v:=undef) _ (fun Y w g hw=>?_) h hw0 rfl
 rw[Q7 ht,hM]at hw;have hy:ev (E8 stab.flatten g ρ) (.tmp dv)=g dv:=K0 (by simpa using hfv)
 have hg:E8 (stab.getD c []) g D5 dv=g dv:=K0 (by simpa using hs)
 have hjl:j<(X (E8 (stab.getD c []) g D5)).length:=(List.getElem?_eq_some_iff.1 (hj _)).1
 have hjl2:j2<(X (E8 (stab.getD c []) g D5)).length:=(List.getElem?_eq_some_iff.1 (hj2 _)).1
 obtain⟨a2,m2,c3,e1,-,-,-⟩:=hw.own_shape (i:=K.length+j2) (v:=g dv) (e:=E2) (sz:=eg) (rows:=rows) (by
  rw[List.getElem?_append_right (Nat.le_add_right _ _),Nat.add_sub_cancel_left,List.getElem?_append_left hjl2,hj2,hg])
 refine AR hn.h hw (hx g) hy (vs:=[g dv]) (by rw[e1];rfl) rfl (fun u hu=>by simp at hu;subst hu;rw[e1];rfl) (i:=K.length+j) (by rw[List.getElem?_append_right (Nat.le_add_right _ _),Nat.add_sub_cancel_left,List.getElem?_append_left hjl];exact hj _) ho fun w' hw'=>⟨?_,fun _=>rfl⟩
 rw[Q7 ht,C6];rw[List.set_append_right _ _ (Nat.le_add_right _ _),Nat.add_sub_cancel_left,List.set_append_left _ _ hjl]at hw';simp only[D6,hg]
 exact hw'
end
section
variable {P:Program}{n:Nat}{opa:Array Oper}{Γ:C8}{S:List B6}{QQ:Exit→Fr→World→Prop}{ρ:Fr}{w:World}{rest:List Oper}{j dj:Nat}{want c:Bool}
variable {d:Option Tmp}{op:Op}{T U ty:TypeId}{pos:String}{es:Array Edge}{x y z:Operand}
attribute [local semireducible] L Step gv F5
theorem QM(h:L P n opa QQ (⟨d,op,ty,pos,es,none⟩::rest) ρ w)(hj:(opa[j]?).bind (·.dst)=some dj:=by exact rfl)(hjn:G7 n (some dj)=true:=by exact rfl)(hc:F5 (ρ dj) want c:=by exact Hd)(hct:c=true:=by with_reducible rfl):L P n opa QQ (⟨d,op,ty,pos,es,some (j,want)⟩::rest) ρ w:=fun a hda hs hf=>by
 subst hct;have h1:=h a hda hs hf
 have hw:=Aa (⟨d,op,ty,pos,es,some (j,want)⟩:Oper) opa a j want rfl dj hj (by rw[hs];exact K8 hjn _ rfl)
 subst hf;rw[show (Hw (E0 a dj) == some want)=true from hc]at hw;unfold wpList at h1 ⊢
 rw[if_pos hw];rw[if_pos (by simp[Region.wanted])]at h1
 exact h1
theorem Py(h:L P n opa QQ rest (D6 ρ d undef) w)(hj:(opa[j]?).bind (·.dst)=some dj:=by exact rfl)(hjn:G7 n (some dj)=true:=by exact rfl)(hd:G7 n d=true:=by exact rfl)(hc:F5 (ρ dj) want c:=by exact Hd)(hct:c=false:=by with_reducible rfl):L P n opa QQ (⟨d,op,ty,pos,es,some (j,want)⟩::rest) ρ w:=fun a hda hs hf=>by
 subst hct;have hw:=Aa (⟨d,op,ty,pos,es,some (j,want)⟩:Oper) opa a j want rfl dj hj (by rw[hs];exact K8 hjn _ rfl)
 subst hf;rw[show (Hw (E0 a dj) == some want)=false from hc]at hw;unfold wpList;rw[if_neg (by rw[hw];simp)]
 exact h _ (by rw[K9];exact hda) (by rw[size_put];exact hs) (X5 a _ _ (by rw[hs];exact K8 hd))
theorem gQ(hj:(opa[j]?).bind (·.dst)=some dj)(hjn:G7 n (some dj)=true)(hd:G7 n d=true)(hc:F5 (ρ dj) want c)(ht:c=true→L P n opa QQ (⟨d,op,ty,pos,es,none⟩::rest) ρ w)(hf:c=false→L P n opa QQ rest (D6 ρ d undef) w):L P n opa QQ (⟨d,op,ty,pos,es,some (j,want)⟩::rest) ρ w:=by
 cases hcc:c with
 | true=>exact QM (ht hcc) hj hjn hc hcc
 | false=>exact Py (hf hcc) hj hjn hd hc hcc
theorem Jx{bo:BinOp}(h:L P n opa QQ (⟨d,.binOp bo T x y U,ty,pos,es,none⟩::rest) ρ w):L P n opa QQ (⟨d,.binOp bo T x y U,ty,pos,es,none⟩::rest) ρ w:=h
theorem CW(h:L P n opa QQ (⟨d,.unOp .not T x,ty,pos,es,none⟩::rest) ρ w):L P n opa QQ (⟨d,.unOp .not T x,ty,pos,es,none⟩::rest) ρ w:=h
theorem lT{b:Bool}{o:Oper}(hb:b=true)(h:L P n opa QQ rest (D6 ρ o.dst (.bool true)) w)(hg:o.guard=none:=by exact rfl)(hd:G7 n o.dst=true:=by exact rfl)(hw:Wd Γ S w:=by exact hw)(hy:Yields P o ρ w (.bool b):=by exact SK):L P n opa QQ (o::rest) ρ w:=eN hg hd (by rw[hb]at hy;exact hy) h
theorem lF{b:Bool}{o:Oper}(hb:b=false)(h:L P n opa QQ rest (D6 ρ o.dst (.bool false)) w)(hg:o.guard=none:=by exact rfl)(hd:G7 n o.dst=true:=by exact rfl)(hw:Wd Γ S w:=by exact hw)(hy:Yields P o ρ w (.bool b):=by exact SK):L P n opa QQ (o::rest) ρ w:=eN hg hd (by rw[hb]at hy;exact hy) h
end
section
variable {P:Program}{n:Nat}{ops:List Oper}{Γ:C8}{S:List B6}{Q:Fr→World→Prop}{ρ:Fr}{rest:List Oper}{j dj:Nat}{want c:Bool}
variable {d:Option Tmp}{op:Op}{T U ty:TypeId}{pos:String}{es:Array Edge}{x y z:Operand}
theorem qGF(h:Qw P n ops Γ S Q rest (D6 ρ d (gv c undef)))(hcf:c=false)(hj:(ops[j]?).bind (·.dst)=some dj:=by exact rfl)(hc:F5 (ρ dj) want c:=by exact Hd)(hsel:AJ ⟨d,op,ty,pos,es,some (j,want)⟩=true:=by exact rfl) :
  Qw P n ops Γ S Q (⟨d,op,ty,pos,es,some (j,want)⟩::rest) ρ:=fx rfl hj hc hsel (fun hct=>by rw[hcf]at hct;cases hct) h
theorem qT{b:Bool}{o:Oper}(hb:b=true)(h:Qw P n ops Γ S Q rest (D6 ρ o.dst (.bool true)))(hg:o.guard=none:=by exact rfl)(hsel:AJ o=true:=by exact rfl)(hy:∀w,Wd Γ S w→Yields P o ρ w (.bool b):=by (intro w hw;exact SK)):Qw P n ops Γ S Q (o::rest) ρ:=Q_y hg hsel (fun w hw=>by have:=hy w hw;rw[hb]at this;exact this) h
end
theorem Cc{α:Type}[KV α](a:α):(enc a).all (·.oneCell')=true:=by
 rw[List.all_eq_true];intro u hu;have h:KU u∈(KV.ks α).map some:=by rw[←KV.kinds a];exact List.mem_map.2 ⟨u,hu,rfl⟩
 obtain⟨k,_,hk⟩:=List.mem_map.1 h
 cases u <;> simp[KU]at hk <;> rfl
theorem Jb{α:Type}[KV α](xs:List α):(xs.map enc).flatten.all (·.oneCell')=true:=by
 rw[List.all_eq_true];intro u hu;obtain⟨r,hr,hur⟩:=List.mem_flatten.1 hu
 obtain⟨x,_,rfl⟩:=List.mem_map.1 hr
 exact(List.all_eq_true.1 (Cc x)) u hur
section
end
attribute [local irreducible] Calls
def T4{T:Type}(φ:T→Fr→Prop)(R:T→List B6):Fr→List B6:=fun g=>[B6.ex (α:={t:T // φ t g}) fun p=>R p.1]
section
variable {P:Program}{n:Nat}{ops:List Oper}{Γ:C8}{K X:List B6}{wr tc stab:List (List Nat)}{N:List Nat}{Q:Fr→World→Prop}{i:Nat}{rest:List Oper}{ρ:Fr}{w:World}{M:Nat→Fr→List B6}{v:Value}{T T':Type}
theorem FJ{id:Nat}{l:List Oper}{QQ:Exit→Fr→World→Prop}(K X:List B6)(N:List Nat)(wr:List (List Nat))(hw:Wd Γ (K++X) w)
  (h:MSw (mV P n l Γ K wr wr [N]) (fun ρ w=>QQ .normal ρ w) 0 l ⟨ρ,fun _=>T4 (T:=Unit) (fun _ _=>True) (fun _=>X)⟩)
  (hm:P.follows .mixedOrders=true:=by kernel_rfl) (hk:R6 n l wr wr [N]=true:=by kernel_rfl):W P n (.region id l.toArray true) QQ ρ w:=
 ZR K (fun _=>T4 (T:=Unit) (fun _ _=>True) (fun _=>X)) wr wr [N] true hm hk (by
  have e:cellsOf (mV P n l Γ K wr wr [N]) (List.range [N].length) (fun _=>T4 (T:=Unit) (fun _ _=>True) (fun _=>X)) ρ=T4 (T:=Unit) (fun _ _=>True) (fun _=>X) (E8 N ρ D5):=by
   show _++[]=_
   rw[List.append_nil];rfl
  show Wd Γ (K++cellsOf (mV P n l Γ K wr wr [N]) (List.range [N].length) (fun _=>T4 (T:=Unit) (fun _ _=>True) (fun _=>X)) ρ) w
  rw[e];have h1:Wd Γ (X++K) w:=hw.perm List.perm_append_comm
  have h2:=Wd.closeEx (α:={t:Unit // True}) (X:=fun _=>X) ⟨(),trivial⟩ h1
  exact(h2.perm (List.perm_append_singleton _ K).symm:_)) h
theorem Cy{φ:T→Fr→Prop}{R:T→List B6}{o:Oper}(φ':T'→Fr→Prop)(R':T'→List B6)
  (hs:∀t g w Y,φ t (E8 N g D5)→Wd Γ (R t++(K++Y)) w→Step P o (E8 N g ρ) w fun u w'=>∃t',φ' t' (E8 N (D6 g o.dst u) D5)∧(Y7 [N] o.dst=false→u=v)∧Wd Γ (R' t'++(K++Y)) w')
  (h:MSw (mV P n ops Γ K wr wr [N]) Q (i+1) rest ⟨D6 ρ o.dst v,M1 M 0 (T4 φ' R')⟩) (hM:M 0=T4 φ R:=by first|exact C6|exact rfl) (hw0:wr.getD i []=[0]:=by exact rfl) (hg:o.guard=none:=by exact rfl) :
  MSw (mV P n ops Γ K wr wr [N]) Q i (o::rest) ⟨ρ,M⟩:=by
 refine mM _ (fun Y w g hw=>?_) h hw0 hg
 have e:F4 wr [N] i M g=T4 φ R (E8 N g D5):=by
  rw[Q7 hw0,hM];rfl
 rw[e]at hw;have e0:([N].flatten:List Nat)=N:=by simp
 rw[e0];obtain⟨⟨t,ht⟩,S3⟩:=(Wd.mid hw).openEx
 refine(hs t g w Y ht S3).mono ?_
 rintro u w' ⟨t',h1,h2,h3⟩
 refine⟨?_,h2⟩
 have e2:F4 wr [N] i (M1 M 0 (T4 φ' R')) (D6 g o.dst u)=T4 φ' R' (E8 N (D6 g o.dst u) D5):=by
  rw[Q7 hw0,C6];rfl
 rw[e2];exact Wd.unmid (Wd.closeEx (X:=fun p:{t:T' // φ' t (E8 N (D6 g o.dst u) D5)}=>R' p.1) ⟨t',h1⟩ h3)
theorem RV{φ:T→Fr→Prop}{R:T→List B6}{f:Nat}{d:Option Tmp}{ty:TypeId}{pos:String}{es:Array Edge}{args:List Operand}{tys:Array TypeId}[C7 P f](φ':T'→Fr→Prop)(R':T'→List B6)(vs:T→Fr→List Value)
  (hs:∀t g w Y,φ t (E8 N g D5)→Wd Γ (R t++(K++Y)) w→Calls P f (vs t (E8 N g D5)).toArray w fun e w'=>∃u,e=.returned u∧∃t',φ' t' (E8 N (D6 g d u) D5)∧(Y7 [N] d=false→u=v)∧Wd Γ (R' t'++(K++Y)) w')
  (h:MSw (mV P n ops Γ K wr wr [N]) Q (i+1) rest ⟨D6 ρ d v,M1 M 0 (T4 φ' R')⟩) (ha:∀t g,φ t (E8 N g D5)→EvL (E8 N g ρ) args (vs t (E8 N g D5)):=by (intro t g ht;exact AB)) (hM:M 0=T4 φ R:=by first|exact C6|exact rfl) (hw0:wr.getD i []=[0]:=by exact rfl) :
  MSw (mV P n ops Γ K wr wr [N]) Q i (⟨d,.call { callee:=.value (.func f),args:=args.toArray,argTypes:=tys },ty,pos,es,none⟩::rest) ⟨ρ,M⟩:=
 Cy φ' R' (fun t g w Y ht hw=>Ba (ha t g ht).eqA (hs t g w Y ht hw)) h hM hw0 rfl
theorem IA{φ:T→Fr→Prop}{R:T→List B6}(h:∀t w g,φ t (E8 N g D5)→Wd Γ (R t++K) w→Q (E8 N g ρ) w)(hM:M 0=T4 φ R:=by first|exact C6|exact rfl):MSw (mV P n ops Γ K wr tc [N]) Q i [] ⟨ρ,M⟩:=
 V1 fun w g hw=>by
  have e:((List.range [N].length).flatMap fun x=>M x (E8 ([N].getD x []) g D5))=T4 φ R (E8 N g D5):=by
   show M 0 _++[]=_
   rw[List.append_nil,hM];rfl
  rw[e]at hw;have e0:([N].flatten:List Nat)=N:=by simp
  rw[e0];obtain⟨⟨t,ht⟩,S3⟩:=(Wd.mid (Y:=[]) hw).openEx
  exact h t w g ht (by simpa using S3)
end
end Mk
end
section
open Go
namespace Mk
def cI(a b:Int):Int:=if a<b then -1 else if b<a then 1 else 0
def cB(a b:ByteArray):Int:=if HE a b=true then -1 else if HE b a=true then 1 else 0
def Ch(x y:Int):Int:=if x=0 then y else x
def cL{α:Type}(c:α→α→Int):List α→List α→Int
 | [],[]=>0
 | [],_::_=>-1
 | _::_,[]=>1
 | a::l,b::k=>Ch (c a b) (cL c l k)
structure U8{α:Type}(c:α→α→Int):Prop where
 rng:∀a b,c a b = -1∨c a b=0∨c a b=1
 eq0:∀ {a b},c a b=0→a=b
 refl:∀a,c a a=0
 anti:∀a b,c b a = -(c a b)
 trans:∀ {a b d},c a b = -1→c b d = -1→c a d = -1
theorem cW{a b:Int}:cI a b = -1↔a<b:=by
 unfold cI;by_cases h:a<b
 ·simp[h]
 ·by_cases h2:b<a <;> simp[h,h2]
theorem Hf:U8 cI where
 rng a b:=by
  unfold cI;by_cases h:a<b
  ·simp[h]
  ·by_cases h2:b<a <;> simp[h,h2]
 eq0 {a b} e:=by
  unfold cI at e;by_cases h:a<b
  ·simp[h]at e
  ·by_cases h2:b<a
   ·simp[h,h2]at e
   ·omega
 refl a:=by unfold cI;simp
 anti a b:=by
  unfold cI;by_cases h:a<b
  ·rw[if_neg (by omega),if_pos h,if_pos h];rfl
  ·by_cases h2:b<a
   ·rw[if_pos h2,if_neg h,if_pos h2]
   ·rw[if_neg h2,if_neg h,if_neg h,if_neg h2];rfl
 trans {a b d} h k:=by rw[cW] at *;omega
theorem fF{a b:ByteArray}:cB a b = -1↔HE a b=true:=by
 unfold cB;cases h:HE a b with
 | true=>simp
 | false=>cases HE b a <;> simp
theorem Xu:U8 cB where
 rng a b:=by unfold cB;cases HE a b <;> cases HE b a <;> simp
 eq0 {a b} h:=by
  unfold cB at h;cases h1:HE a b with
  | true=>rw[h1]at h;cases h
  | false=>
   cases h2:HE b a with
   | true=>rw[h1,h2]at h;cases h
   | false=>exact LF h1 h2
 refl a:=by unfold cB;simp[Fe]
 anti a b:=by
  unfold cB;cases h1:HE a b with
  | true=>rw[Lf h1];rfl
  | false=>cases h2:HE b a <;> rfl
 trans {a b d} h k:=by rw[fF] at *;exact Kv h k
section
variable {α β:Type}{c:α→α→Int}{c2:β→β→Int}
theorem GB{x y:Int}:Ch x y=0↔x=0∧y=0:=by
 unfold Ch;split
 ·rename_i h;simp[h]
 ·rename_i h;simp[h]
theorem U8.map(h:U8 c)(f:β→α)(hf:∀a b,f a=f b→a=b):U8 (fun a b=>c (f a) (f b)):=
 ⟨fun _ _=>h.rng _ _,fun e=>hf _ _ (h.eq0 e),fun _=>h.refl _,fun _ _=>h.anti _ _,fun a b=>h.trans a b⟩
theorem Tx{x y:Int}:Ch x y = -1↔x = -1∨(x=0∧y = -1):=by
 unfold Ch;split
 ·rename_i h;subst h;simp
 ·rename_i h;simp[h]
theorem U8.prod(h:U8 c)(h2:U8 c2):U8 (fun (a b:α×β)=>Ch (c a.1 b.1) (c2 a.2 b.2)) where
 rng a b:=by
  unfold Ch;split
  ·exact h2.rng _ _
  ·exact h.rng _ _
 eq0 {a b} e:=by
  rw[GB]at e;exact Prod.ext (h.eq0 e.1) (h2.eq0 e.2)
 refl a:=by rw[GB];exact⟨h.refl _,h2.refl _⟩
 anti a b:=by
  unfold Ch;rw[h.anti a.1 b.1,h2.anti a.2 b.2];by_cases e:c a.1 b.1=0
  ·simp[e]
  ·rw[if_neg (by omega),if_neg e]
 trans {a b d} e k:=by
  rw[Tx] at *
  rcases e with e|⟨e,e'⟩ <;> rcases k with k|⟨k,k'⟩
  ·exact .inl (h.trans e k)
  ·rw[←h.eq0 k];exact .inl e
  ·rw[h.eq0 e];exact .inl k
  ·rw[h.eq0 e];exact .inr ⟨k,h2.trans e' k'⟩
theorem XG(h:U8 c):∀a b,cL c a b = -1∨cL c a b=0∨cL c a b=1
 | [],[]=>.inr (.inl rfl)
 | [],_::_=>.inl rfl
 | _::_,[]=>.inr (.inr rfl)
 | a::l,b::k=>by
  unfold cL Ch;split
  ·exact XG h l k
  ·exact h.rng _ _
theorem XU(h:U8 c):∀ {a b},cL c a b=0→a=b
 | [],[],_=>rfl
 | [],_::_,e=>by cases e
 | _::_,[],e=>by cases e
 | a::l,b::k,e=>by
  unfold cL at e;rw[GB]at e;rw[h.eq0 e.1,XU h e.2]
theorem Sp(h:U8 c):∀a,cL c a a=0
 | []=>rfl
 | a::l=>by unfold cL;rw[GB];exact⟨h.refl _,Sp h l⟩
theorem Tu(h:U8 c):∀a b,cL c b a = -(cL c a b)
 | [],[]=>rfl
 | [],_::_=>rfl
 | _::_,[]=>rfl
 | a::l,b::k=>by
  unfold cL Ch;rw[h.anti a b,Tu h l k];by_cases e:c a b=0
  ·simp[e]
  ·rw[if_neg (by omega),if_neg e]
theorem Pn(h:U8 c):∀ {a b d},cL c a b = -1→cL c b d = -1→cL c a d = -1
 | [],_,_::_,_,_=>rfl
 | [],[],[],e,_=>by cases e
 | [],_::_,[],_,k=>by cases k
 | _::_,[],_,e,_=>by cases e
 | _::_,_::_,[],_,k=>by cases k
 | a::l,b::m,d::n,e,k=>by
  unfold cL at *
  rw[Tx] at *
  rcases e with e|⟨e,e'⟩ <;> rcases k with k|⟨k,k'⟩
  ·exact .inl (h.trans e k)
  ·rw[←h.eq0 k];exact .inl e
  ·rw[h.eq0 e];exact .inl k
  ·rw[h.eq0 e];exact .inr ⟨k,Pn h e' k'⟩
theorem U8.list(h:U8 c):U8 (cL c):=⟨XG h,XU h,Sp h,Tu h,Pn h⟩
theorem U8.lt_iff(h:U8 c){a b:α}:Go.Proofs.ltOf c a b=true↔c a b = -1:=by
 unfold Go.Proofs.ltOf;rw[decide_eq_true_iff];rcases h.rng a b with e|e|e <;> rw[e] <;> simp
theorem U8.swo(h:U8 c):Go.Sort.SWO (Go.Proofs.ltOf c) where
 irrefl x:=by unfold Go.Proofs.ltOf;rw[h.refl];rfl
 trans x y z e k:=by rw[h.lt_iff] at *;exact h.trans e k
 ntrans x y z e k:=by
  cases q:Go.Proofs.ltOf c x z with
  | false=>rfl
  | true=>
   rw[h.lt_iff]at q;rcases h.rng x y with a|a|a
   ·rw[h.lt_iff.2 a]at e;cases e
   ·have:=h.eq0 a;subst this;rw[h.lt_iff.2 q]at k;cases k
   ·have:c y x = -1:=by rw[h.anti x y,a]
    rw[h.lt_iff.2 (h.trans this q)]at k;cases k
end
attribute [local irreducible] Calls
class PG(P:Program)(Γ:C8)(f:Nat)(args:List Value)(v:outParam Value):Prop where
 h:∀S w,Wd Γ S w→Calls P f args.toArray w fun e w'=>e=.returned v∧Wd Γ S w'
section
variable {P:Program}{n:Nat}{ops:List Oper}{opa:Array Oper}{Γ:C8}{S K:List B6}{Q:Fr→World→Prop}{QQ:Exit→Fr→World→Prop}{ρ:Fr}{w:World}{rest:List Oper}{wr tc stab:List (List Nat)}{i:Nat}{M:Nat→Fr→List B6}
variable {d:Option Tmp}{ty:TypeId}{pos:String}{es:Array Edge}{v:Value}{f:Nat}{args:List Operand}{tys:Array TypeId}{vs:List Value}{j dj:Nat}{want c:Bool}{g:Option (Nat×Bool)}
theorem bT[C7 P f](hp:PG P Γ f vs v)(ha:EvL ρ args vs)(hw:Wd Γ S w):Step P ⟨d,.call { callee:=.value (.func f),args:=args.toArray,argTypes:=tys },ty,pos,es,g⟩ ρ w fun u w'=>u=v∧Wd Γ S w':=
 Ba ha.eqA ((hp.h S w hw).mono fun _ _ ⟨h1,h2⟩=>⟨v,h1,rfl,h2⟩)
theorem XN[C7 P f](h:∀w',Wd Γ S w'→L P n opa QQ rest (D6 ρ d v) w')(hw:Wd Γ S w:=by exact hw)(ha:EvL ρ args vs:=by exact AB)(hd:G7 n d=true:=by exact rfl)(hp:PG P Γ f vs v:=by infer_instance) :
  L P n opa QQ (⟨d,.call { callee:=.value (.func f),args:=args.toArray,argTypes:=tys },ty,pos,es,none⟩::rest) ρ w:=
 H5 rfl hd ((bT hp ha hw).mono fun _ w' ⟨h1,h2⟩=>by subst h1;exact h w' h2)
theorem Vs[C7 P f](h:Qw P n ops Γ S Q rest (D6 ρ d v))(ha:EvL ρ args vs:=by exact AB)(hp:PG P Γ f vs v:=by infer_instance) :
  Qw P n ops Γ S Q (⟨d,.call { callee:=.value (.func f),args:=args.toArray,argTypes:=tys },ty,pos,es,none⟩::rest) ρ:=
 fA rfl rfl (fun _ _ hw=>bT hp ha hw) h
theorem IY[C7 P f](h:Qw P n ops Γ S Q rest (D6 ρ d (gv c v)))(hj:(ops[j]?).bind (·.dst)=some dj:=by exact rfl)(hc:F5 (ρ dj) want c:=by exact Hd)(ha:c=true→EvL ρ args vs:=by intro hc;exact Hj)(hp:PG P Γ f vs v:=by infer_instance) :
  Qw P n ops Γ S Q (⟨d,.call { callee:=.value (.func f),args:=args.toArray,argTypes:=tys },ty,pos,es,some (j,want)⟩::rest) ρ:=
 bQ rfl hj hc rfl (fun ht _ _ hw=>bT hp (ha ht) hw) h
theorem mPg[C7 P f](h:MSw (mV P n ops Γ K wr tc stab) Q (i+1) rest ⟨D6 ρ d v,M⟩)(hw0:wr.getD i []=[]:=by exact rfl)(ho:FE tc stab i d=true:=by exact rfl)(ha:∀g,EvL (E8 stab.flatten g ρ) args vs:=by intro g;exact AB)(hp:PG P Γ f vs v:=by infer_instance) :
  MSw (mV P n ops Γ K wr tc stab) Q i (⟨d,.call { callee:=.value (.func f),args:=args.toArray,argTypes:=tys },ty,pos,es,none⟩::rest) ⟨ρ,M⟩:=
 mC (fun _ _ g hw=>bT hp (ha g) hw) hw0 rfl ho h
end
theorem Wd.freeze{Γ:C8}{S:List B6}{w:World}{v:Value}{e sz:Nat}{rows:List (List Value)}(h:Wd Γ (.own v e sz rows::S) w):∃Γ',Γ.le Γ'∧D7 Γ' v sz rows∧Wd Γ' S w:=by
 obtain⟨bss,h1,h2,h3⟩:=h.own;cases bss with
 | nil=>exact h1.elim
 | cons bs bss=>
  obtain⟨hr,h1⟩:=h1;unfold B6.own at hr;obtain⟨e0,a,n,c,e1,e2,e3,e4,e5⟩:=hr;rcases e5 with⟨e5,e6⟩|⟨g,cur,g1,g2,g3,g4,g5⟩
  ·subst e6;refine⟨Γ,C8.le.refl _,by unfold D7;exact⟨e0,a,n,c,e1,e2,e3,e4,fun hl=>by omega⟩,h.os,h.tape,h.out,h.dr,h.imm,bss,h1,by simpa using h2,fun b hb=>h3 b (by simpa using hb)⟩
  ·subst g2;have hg:=h3 g (by simp)
   have hnd:g∉bss.flatten∧bss.flatten.Nodup:=by simpa using h2
   have hle:∀b o,Γ.imm b=some o→(fun b=>if b=g then some (Obj.cells cur e (0,0)) else Γ.imm b) b=some o:=fun b o hb=>by
    show (if b=g then _ else _)=_
    rw[if_neg (fun hh=>by subst hh;rw[hg.2]at hb;cases hb)];exact hb
   refine⟨{ Γ with imm:=fun b=>if b=g then some (.cells cur e (0,0)) else Γ.imm b },⟨hle,rfl,rfl,rfl,rfl⟩,?_,h.os,h.tape,h.out,h.dr,fun b o hb=>?_,bss,Holds.loc hle S bss (fun _ _=>rfl) h1,hnd.2,fun b hb=>⟨(h3 b (by simp[hb])).1,?_⟩⟩
   ·unfold D7;refine⟨e0,a,n,c,e1,e2,e3,e4,fun _=>⟨g,0,cur,e,(0,0),g1,if_pos rfl,fun j u hu=>?_⟩⟩
    rw[←g5]at hu;rw[List.getElem?_take]at hu;split at hu
    ·rw[Nat.zero_add];simpa using hu
    ·cases hu
   ·have hb:(if b=g then some (Obj.cells cur e (0,0)) else Γ.imm b)=some o:=hb
    by_cases hbg:b=g
    ·subst hbg;rw[if_pos rfl]at hb;cases hb
     exact g3
    ·rw[if_neg hbg]at hb;exact h.imm b o hb
   ·show (if b=g then _ else _)=none
    rw[if_neg (fun hh=>by subst hh;exact hnd.1 hb)]
    exact(h3 b (by simp[hb])).2
theorem Ty{P:Program}{n:Nat}{c:Code}{Q:Exit→Fr→World→Prop}{ρ:Fr}{w:World}{l:List (Nat×Value)}(h:Has ρ l)(k:∀ρ',Has ρ' l→W P n c Q ρ' w):W P n c Q ρ w:=k ρ h
theorem BK{P:Program}{n:Nat}{c1 c2:Code}{Q:Exit→Fr→World→Prop}{ρ:Fr}{w:World}(I:Fr→World→Prop)(h1:W P n c1 (RX I Q) ρ w)(h2:∀ρ w,I ρ w→W P n c2 Q ρ w):W P n (.seq c1 c2) Q ρ w:=
 y0 (h1.mono fun e ρ w h=>by cases e <;> first|exact h2 _ _ h|exact h)
section
variable {P:Program}{n:Nat}{ops:List Oper}{Γ:C8}{K:List B6}{Q:Fr→World→Prop}{ρ:Fr}{rest:List Oper}{wr tc stab:List (List Nat)}{i:Nat}{M:Nat→Fr→List B6}
variable {T ty:TypeId}{pos:String}{es:Array Edge}{x y:Operand}
theorem ZI{c c2 dx dy dd E by' sz:Nat}{zs:List Value}{rows rows2:List (List Value)}[TL P T E sz by' zs](h:MSw (mV P n ops Γ K wr tc stab) Q (i+1) rest ⟨D6 ρ (some dd) undef,M1 M c fun g=>[.own (g dd) E sz (rows++rows2)]⟩)
  (h1:∀u∈rows2.flatten,u.oneCell'=true) (ht:tc.getD i []=[c,c2]:=by exact rfl) (hM:M c=(fun g=>[.own (g dx) E sz rows]):=by exact rfl) (hM2:M c2=(fun g=>[.own (g dy) E sz rows2]):=by exact rfl) (hcc:c2≠c:=by decide) (hdd:dy≠dd:=by decide)
  (hs:(stab.getD c []).contains dd=true:=by exact rfl) (hsx:(stab.getD c []).contains dx=true:=by exact rfl) (hsy:(stab.getD c2 []).contains dy=true:=by exact rfl) (hfx:stab.flatten.contains dx=true:=by exact rfl) (hfy:stab.flatten.contains dy=true:=by exact rfl) (hfr:Y7 stab (some dd)=true:=by exact rfl) (hw0:wr.getD i []=[c]:=by exact rfl)
  (hb:(rows.length+rows2.length)*by'≤140737488355328:=by omega) (h63:rows.length+rows2.length≤9223372036854775807:=by omega) :
  MSw (mV P n ops Γ K wr tc stab) Q i (⟨some dd,.call { callee:=.builtin .append,args:=#[.tmp dx,.tmp dy],argTypes:=#[T,T] },ty,pos,es,none⟩::rest) ⟨ρ,M⟩:=by
 refine mM (v:=undef) _ (fun Y w g hw=>?_) h hw0 rfl
 rw[HL ht,hM,hM2]at hw;have h2:E8 (stab.getD c []) g D5 dx=g dx:=K0 (by simpa using hsx)
 have h2':E8 (stab.getD c2 []) g D5 dy=g dy:=K0 (by simpa using hsy)
 simp only[h2,h2']at hw
 have hi1:(K++(([.own (g dx) E sz rows]++[.own (g dy) E sz rows2])++Y))[K.length]? = some (.own (g dx) E sz rows):=by
  rw[List.getElem?_append_right (Nat.le_refl _)];simp
 have hj1:(K++(([.own (g dx) E sz rows]++[.own (g dy) E sz rows2])++Y))[K.length+1]? = some (.own (g dy) E sz rows2):=by
  rw[List.getElem?_append_right (by omega)];simp
 obtain⟨a,m1,c1,e1,e2,e3,e4⟩:=hw.own_shape hi1
 obtain⟨a2,m2,k2,f1,f2,f3,f4⟩:=hw.own_shape hj1
 have hx:ev (E8 stab.flatten g ρ) (.tmp dx)=.slice a m1 c1:=by
  show E8 stab.flatten g ρ dx=_
  rw[K0 (by simpa using hfx)];exact e1
 have hy:ev (E8 stab.flatten g ρ) (.tmp dy)=.slice a2 m2 k2:=by
  show E8 stab.flatten g ρ dy=_
  rw[K0 (by simpa using hfy)];exact f1
 have hr:Rd w a2 sz rows2:=by
  have hj2:=hj1
  rw[f1]at hj2;exact hw.own_rd (i:=K.length+1) (by rw[hj1,f1])
 refine EH (i:=K.length) (rows:=rows) hw hx hy (by rw[hi1,e1]) hr f2 h1 (by rw[e2,f2];exact hb) (by rw[e2,f2];exact h63) fun v' w' hw'=>⟨?_,fun hh=>by rw[hfr]at hh;cases hh⟩
 rw[HL ht,C6,A9 hcc,hM2];have h3:E8 (stab.getD c []) (D6 g (some dd) v') D5 dd=v':=by
  rw[K0 (by simpa using hs)];exact upd_same _ _ _
 have h4:E8 (stab.getD c2 []) (D6 g (some dd) v') D5 dy=g dy:=by
  rw[K0 (by simpa using hsy)];exact upd_ne _ _ hdd
 simp only[h3,h4]
 rw[List.set_append_right _ _ (Nat.le_refl _),Nat.sub_self]at hw';exact hw'
def B6.pure(p:Prop):B6 where
 holds _ bs _:=bs=[]∧p
 loc _ _ _ _ _ _ _ h:=h
theorem Wd.pureIn{p:Prop}{S:List B6}{w:World}(hp:p)(hw:Wd Γ S w):Wd Γ (B6.pure p::S) w:=by
 obtain⟨bss,h1,h2,h3⟩:=hw.own;exact⟨hw.os,hw.tape,hw.out,hw.dr,hw.imm,[]::bss,⟨⟨rfl,hp⟩,h1⟩,by simpa using h2,by simpa using h3⟩
theorem Wd.pureOut{p:Prop}{S:List B6}{w:World}{i:Nat}(hw:Wd Γ S w)(hi:S[i]? = some (B6.pure p)):p:=by
 obtain⟨bss,h1,h2,h3⟩:=hw.own;obtain⟨bs,_,hr⟩:=Holds.get S bss i _ h1 hi
 exact hr.2
theorem ea{c2 dd:Nat}{d:Option Tmp}{v0:Value}(h:MSw (mV P n ops Γ K wr tc stab) Q (i+1) rest ⟨D6 ρ d v0,M⟩)
  (ht:tc.getD i []=[c2]:=by exact rfl) (hM:M c2=(fun g=>[B6.pure (g dd=v0)]):=by exact rfl) (hs:(stab.getD c2 []).contains dd=true:=by exact rfl) (hf:stab.flatten.contains dd=true:=by exact rfl)
  (hw0:wr.getD i []=[]:=by exact rfl) (ho:FE tc stab i d=true:=by exact rfl):MSw (mV P n ops Γ K wr tc stab) Q i (⟨d,.move (.tmp dd),ty,pos,es,none⟩::rest) ⟨ρ,M⟩:=by
 refine mY (v:=v0) h hw0 rfl ho (fun Y w g hw=>?_)
 rw[Q7 ht,hM]at hw;have h2:E8 (stab.getD c2 []) g D5 dd=g dd:=K0 (by simpa using hs)
 have h3:=Wd.pureOut (p:=E8 (stab.getD c2 []) g D5 dd=v0) hw (i:=K.length) (by rw[List.getElem?_append_right (Nat.le_refl _)];simp)
 rw[h2]at h3;refine Hb ?_
 show E8 stab.flatten g ρ dd=_
 rw[K0 (by simpa using hf)];exact h3
end
section
variable {P:Program}{n:Nat}{ops:List Oper}{Γ:C8}{K X:List B6}{wr tc stab:List (List Nat)}{s0:List Nat}{Q:Fr→World→Prop}{i:Nat}{rest:List Oper}{ρ:Fr}{w:World}{M:Nat→Fr→List B6}{v:Value}{T T':Type}
variable {ty:TypeId}{pos:String}{es:Array Edge}
def M2(a b:Fr→List B6):Nat→Fr→List B6:=fun x=>match x with|0=>a|_=>b
theorem dm{id:Nat}{l:List Oper}{QQ:Exit→Fr→World→Prop}(K X:List B6)(s0:List Nat)(dd:Nat)(v0:Value)(wr tc:List (List Nat))(hw:Wd Γ (K++X) w)
  (h:MSw (mV P n l Γ K wr tc [s0,[dd]]) (fun ρ w=>QQ .normal ρ w) 0 l ⟨ρ,M2 (T4 (T:=Unit) (fun _ _=>True) (fun _=>X)) (fun g=>[B6.pure (g dd=v0)])⟩) (he:ρ dd=v0:=by exact rfl)
  (hm:P.follows .mixedOrders=true:=by kernel_rfl) (hk:R6 n l wr tc [s0,[dd]]=true:=by kernel_rfl):W P n (.region id l.toArray true) QQ ρ w:=
 ZR K _ wr tc [s0,[dd]] true hm hk (by
  show Wd Γ (K++(T4 (T:=Unit) (fun _ _=>True) (fun _=>X) (E8 s0 ρ D5)++([B6.pure (E8 [dd] ρ D5 dd=v0)]++[]))) w
  have h0:E8 [dd] ρ D5 dd=v0:=by rw[K0 (by simp)];exact he
  have h1:Wd Γ (X++K) w:=hw.perm List.perm_append_comm
  have h2:=Wd.closeEx (α:={t:Unit // True}) (X:=fun _=>X) ⟨(),trivial⟩ h1
  have h3:=Wd.pureIn h0 h2
  exact h3.perm (by
   show (B6.pure _::(B6.ex _::K)).Perm (K++([B6.ex _]++[B6.pure _]))
   have:(K++([B6.ex (α:={t:Unit // True}) fun _=>X]++[B6.pure (E8 [dd] ρ D5 dd=v0)])).Perm (([B6.ex (α:={t:Unit // True}) fun _=>X]++[B6.pure (E8 [dd] ρ D5 dd=v0)])++K):=List.perm_append_comm
   exact((List.Perm.swap _ _ _).trans this.symm))) h
theorem Mg{φ:T→Fr→Prop}{R:T→List B6}{o:Oper}(φ':T'→Fr→Prop)(R':T'→List B6)
  (hs:∀t g w Y,φ t (E8 (stab.getD 0 []) g D5)→Wd Γ (R t++(K++Y)) w→Step P o (E8 stab.flatten g ρ) w fun u w'=>∃t',φ' t' (E8 (stab.getD 0 []) (D6 g o.dst u) D5)∧(Y7 stab o.dst=false→u=v)∧Wd Γ (R' t'++(K++Y)) w')
  (h:MSw (mV P n ops Γ K wr tc stab) Q (i+1) rest ⟨D6 ρ o.dst v,M1 M 0 (T4 φ' R')⟩) (hM:M 0=T4 φ R:=by first|exact C6|exact rfl) (hw0:wr.getD i []=[0]:=by exact rfl) (ht:tc.getD i []=[0]:=by exact rfl) (hg:o.guard=none:=by exact rfl) :
  MSw (mV P n ops Γ K wr tc stab) Q i (o::rest) ⟨ρ,M⟩:=by
 refine mM _ (fun Y w g hw=>?_) h hw0 hg
 rw[Q7 ht,hM]at hw;obtain⟨⟨t,ht'⟩,S3⟩:=(Wd.mid hw).openEx
 refine(hs t g w Y ht' S3).mono ?_
 rintro u w' ⟨t',h1,h2,h3⟩
 refine⟨?_,h2⟩
 rw[Q7 ht,C6];exact Wd.unmid (Wd.closeEx (X:=fun p:{t:T' // φ' t (E8 (stab.getD 0 []) (D6 g o.dst u) D5)}=>R' p.1) ⟨t',h1⟩ h3)
theorem fS{φ:T→Fr→Prop}{R:T→List B6}{dx dd:Nat}{v0:Value}(φ':T→Fr→Prop)(hφ:∀t g,φ t (E8 (stab.getD 0 []) g D5)→φ' t (E8 (stab.getD 1 []) (D6 g (some dd) (g dx)) D5))
  (h:MSw (mV P n ops Γ K wr tc stab) Q (i+1) rest ⟨D6 ρ (some dd) undef,M1 (M1 M 0 fun _=>[]) 1 (T4 φ' R)⟩) (hM:M 0=T4 φ R:=by first|exact C6|exact rfl) (hM2:M 1=(fun g=>[B6.pure (g dd=v0)]):=by exact rfl)
  (ht:tc.getD i []=[0,1]:=by exact rfl) (hfx:stab.flatten.contains dx=true:=by exact rfl) (hfr:Y7 stab (some dd)=true:=by exact rfl) (hw0:wr.getD i []=[0,1]:=by exact rfl) :
  MSw (mV P n ops Γ K wr tc stab) Q i (⟨some dd,.assign (.tmp dx),ty,pos,es,none⟩::rest) ⟨ρ,M⟩:=by
 have hn:Mt.nxt (mV P n ops Γ K wr tc stab) i ⟨ρ,M⟩ ⟨undef,M1 (fun _ _=>[]) 1 (T4 φ' R)⟩=M1 (M1 M 0 fun _=>[]) 1 (T4 φ' R):=by
  funext y;simp only[Mt.nxt,Y5.w,hw0,M1]
  by_cases h0:y=0
  ·subst h0;rfl
  ·by_cases h1:y=1
   ·subst h1;rfl
   ·simp[h0,h1]
 refine⟨⟨undef,M1 (fun _ _=>[]) 1 (T4 φ' R)⟩,⟨fun Γ' Y w g hr hw=>?_⟩,?_⟩
 ·have hΓ:Γ'=Γ:=hr
  subst hΓ;rw[hn];refine⟨fun _=>?_,fun hf=>?_⟩
  ·have hw':Wd Γ' (K++(F4 tc stab i M g++Y)) w:=hw
   unfold F4 at hw';rw[ht]at hw';simp only[List.flatMap_cons,List.flatMap_nil,hM,hM2,List.append_nil]at hw'
   have hx:ev (E8 stab.flatten g ρ) (.tmp dx)=g dx:=by
    show E8 stab.flatten g ρ dx=_
    rw[K0 (by simpa using hfx)]
   refine(Gf (P:=P) (w:=w) hx).step ⟨Γ',rfl,?_,fun hh=>?_⟩
   ·show Wd Γ' (K++(F4 tc stab i _ _++Y)) w
    unfold F4;rw[ht];show Wd Γ' (K++(([]++(T4 φ' R (E8 (stab.getD 1 []) (D6 g (some dd) (g dx)) D5)++[]))++Y)) w
    have h4:=hw'.perm (S':=B6.ex (α:={t:T // φ t (E8 (stab.getD 0 []) g D5)}) (fun p=>R p.1)::(B6.pure (E8 (stab.getD 1 []) g D5 dd=v0)::(K++Y))) (by
     show (K++((([B6.ex (α:={t:T // φ t (E8 (stab.getD 0 []) g D5)}) (fun p=>R p.1)])++[B6.pure (E8 (stab.getD 1 []) g D5 dd=v0)])++Y)).Perm _
     rw[←List.append_assoc];exact(List.perm_append_comm (l₁:=K) (l₂:=[B6.ex (α:={t:T // φ t (E8 (stab.getD 0 []) g D5)}) (fun p=>R p.1)]++[B6.pure (E8 (stab.getD 1 []) g D5 dd=v0)])).append_right Y)
    obtain⟨⟨t,ht'⟩,h5⟩:=h4.openEx;have h6:Wd Γ' (R t++(K++Y)) w:=by
     have h7:=h5.perm (S':=B6.pure (E8 (stab.getD 1 []) g D5 dd=v0)::(R t++(K++Y))) List.perm_middle
     exact h7.drop
    exact Wd.unmid (Wd.closeEx (X:=fun p:{t:T // φ' t (E8 (stab.getD 1 []) (D6 g (some dd) (g dx)) D5)}=>R p.1) ⟨t,hφ t g ht'⟩ h6)
   ·have hh':Y7 stab (some dd)=false:=hh
    rw[hfr]at hh';cases hh'
  ·rw[g7 rfl]at hf;cases hf
 ·simp only[Mt.next,hn];exact h
theorem fb{φ:T→Fr→Prop}{R:T→List B6}{dd:Nat}(h:∀t w g,φ t (E8 [dd] g D5)→Wd Γ (R t++K) w→Q (E8 (s0++[dd]) g ρ) w)(hM:M 0=(fun _=>[]):=by exact rfl)(hM2:M 1=T4 φ R:=by first|exact C6|exact rfl):MSw (mV P n ops Γ K wr tc [s0,[dd]]) Q i [] ⟨ρ,M⟩:=
 V1 fun w g hw=>by
  have e:((List.range [s0,[dd]].length).flatMap fun x=>M x (E8 ([s0,[dd]].getD x []) g D5))=T4 φ R (E8 [dd] g D5):=by
   show M 0 _++(M 1 _++[])=_
   rw[hM,hM2,List.append_nil];rfl
  rw[e]at hw;have e0:([s0,[dd]].flatten:List Nat)=s0++[dd]:=by simp
  rw[e0];obtain⟨⟨t,ht⟩,S3⟩:=(Wd.mid (Y:=[]) hw).openEx
  exact h t w g ht (by simpa using S3)
theorem gi{f t:Nat}{d:Option Tmp}{args:List Operand}{tys:Array TypeId}{vs:List Value}[C7 P f](h:MSw (mV P n ops Γ K wr tc stab) Q (i+1) rest ⟨D6 ρ d v,M⟩)(ht:∀g,E8 stab.flatten g ρ t=.func (.func f) #[] #[]:=by intro g;exact rfl)(hw0:wr.getD i []=[]:=by exact rfl)(ho:FE tc stab i d=true:=by exact rfl)(ha:∀g,EvL (E8 stab.flatten g ρ) args vs:=by intro g;exact AB)(hp:PG P Γ f vs v:=by infer_instance) :
  MSw (mV P n ops Γ K wr tc stab) Q i (⟨d,.call { callee:=.value (.tmp t),args:=args.toArray,argTypes:=tys },ty,pos,es,none⟩::rest) ⟨ρ,M⟩:=
 mC (fun Y w g hw=>Ic (ht g) (ha g).eqA (by
  have h1:(#[]++vs.toArray++#[]:Array Value)=vs.toArray:=by simp
  rw[h1];exact(hp.h _ w hw).mono fun _ _ ⟨h1,h2⟩=>⟨v,h1,rfl,h2⟩)) hw0 rfl ho h
theorem D7.imm{Γ Γ':C8}{v:Value}{sz:Nat}{rows:List (List Value)}(h:D7 Γ v sz rows)(hi:∀b o,Γ.imm b=some o→Γ'.imm b=some o):D7 Γ' v sz rows:=by
 unfold D7 at *
 obtain⟨h0,a,n,c,h1,h2,h3,h4,h5⟩:=h;refine⟨h0,a,n,c,h1,h2,h3,h4,fun hl=>?_⟩
 obtain⟨g,o,cur,e,fr,k1,k2,k3⟩:=h5 hl
 exact⟨g,o,cur,e,fr,k1,hi _ _ k2,k3⟩
end
theorem Ly{α:Type}{lt:α→α→Bool}:∀ {xs ys:List α},(xs.Pairwise fun a b=>lt a b=true)→(ys.Pairwise fun a b=>lt b a=false)→ys.Perm xs→ys=xs
 | [],_,_,_,h=>List.perm_nil.1 h
 | x::xs,[],_,_,h=>absurd h.length_eq (by simp)
 | x::xs,y::ys,hx,hy,h=>by
  have hxy:x=y:=by
   have h1:y∈x::xs:=h.subset (List.mem_cons_self ..)
   have h2:x∈y::ys:=h.symm.subset (List.mem_cons_self ..)
   rcases List.mem_cons.1 h1 with e|e
   ·exact e.symm
   ·rcases List.mem_cons.1 h2 with e2|e2
    ·exact e2
    ·have a1:=(List.pairwise_cons.1 hx).1 y e
     have a2:=(List.pairwise_cons.1 hy).1 x e2
     rw[a1]at a2;cases a2
  subst hxy;rw[Ly (List.pairwise_cons.1 hx).2 (List.pairwise_cons.1 hy).2 (List.Perm.cons_inv h)]
theorem MM{α β:Type}{c:α→α→Int}(h:U8 c)(f:β→α):Go.Sort.SWO (Go.Proofs.ltOf fun a b=>c (f a) (f b)):=
 ⟨fun x=>h.swo.irrefl (f x),fun x y z=>h.swo.trans (f x) (f y) (f z),fun x y z=>h.swo.ntrans (f x) (f y) (f z)⟩
end Mk
end
section
open Go
namespace Mk
def Ends(K:Value→World→Prop)(Q:List PanicEntry→World→Prop):Ending→World→Prop
 | .returned v,w=>K v w
 | .panicked ch,w=>Q ch w
 | .outgrown,_=>False
section
variable {P:Program}{n:Nat}{opa:Array Oper}{QQ:Exit→Fr→World→Prop}{ρ:Fr}{w:World}{rest:List Oper}
variable {d:Option Tmp}{T ty:TypeId}{pos:String}{es:Array Edge}{x:Operand}
theorem Ends.mono{K K':Value→World→Prop}{Q Q':List PanicEntry→World→Prop}{e:Ending}{w:World}(h:Ends K Q e w)(h1:∀v w,K v w→K' v w)(h2:∀ch w,Q ch w→Q' ch w):Ends K' Q' e w:=by
 cases e with
 | returned v=>exact h1 _ _ h
 | panicked ch=>exact h2 _ _ h
 | outgrown=>exact h
attribute [local semireducible] L W Step
theorem K1{f:Nat}{args:List Operand}{tys:Array TypeId}{vs:List Value}[C7 P f](hc:Calls P f vs.toArray w (Ends (fun v w'=>L P n opa QQ rest (D6 ρ d v) w') (fun ch w'=>QQ (.panic ch) ρ w')))(ha:EvL ρ args vs:=by exact AB)(hd:G7 n d=true:=by exact rfl) :
  L P n opa QQ (⟨d,.call { callee:=.value (.func f),args:=args.toArray,argTypes:=tys },ty,pos,es,none⟩::rest) ρ w:=fun a hda hs hf=>
 wpList_plain rfl fun K hK=>by
  subst hf;have hr:(execOp (ev (E0 a)) ⟨d,.call { callee:=.value (.func f),args:=args.toArray,argTypes:=tys },ty,pos,es,none⟩).run P w=.ok (.enter f vs.toArray) w:=by
   simp only[execOp,resolve,ha.eqA,ev,Deferred.ofValue,Sem.run_bind,Sem.run_pure,Result.andThen_ok,invoke]
   simp[R3]
  unfold Oper.wp;rw[i7,hr,Oper.upon_enter];refine hc.mono fun e w' he=>?_
  cases e with
  | returned v=>exact hK _ _ (he _ (by rw[K9];exact hda) (by rw[size_put];exact hs) (X5 a _ v (by rw[hs];exact K8 hd)))
  | panicked ch=>exact⟨hda,hs,he⟩
  | outgrown=>exact he.elim
def gh(Q:Exit→Fr→World→Prop):Exit→Fr→World→Prop
 | .goto _,_,_=>False
 | e,ρ,w=>Q e ρ w
theorem Sq{l:Nat}(h:QQ .normal ρ w):W P n (.label l) QQ ρ w:=fun a hd hs hf=>wp_label ⟨hd,hs,hf ▸ h⟩
theorem Np{c:Code}(h:W P n c (gh QQ) ρ w):W P n (.scope c) QQ ρ w:=fun a hd hs hf=>wp_scope_straight (Code.wp_mono (fun e a w ⟨p,q,r⟩=>by cases e <;> first|exact⟨p,q,r⟩|exact r.elim) (h a hd hs hf))
theorem am{t:TypeId}{v:Value}(hq:QQ (.panic [{ v:=.iface t v,recovered:=false }]) ρ w)(hx:ev ρ x=.iface t v:=by exact rfl):L P n opa QQ (⟨d,.panic x,ty,pos,es,none⟩::rest) ρ w:=fun a hda hs hf=>
 wpList_plain rfl fun K hK=>by
  subst hf;have hr:(execOp (ev (E0 a)) ⟨d,.panic x,ty,pos,es,none⟩).run P w=.halt (.panic (.iface t v)) w:=by
   simp only[execOp,hx]
   simp[Go.run_panic_iface,Sem.run_bind,Result.andThen]
  unfold Oper.wp;rw[i7,hr,Oper.upon_panic];exact⟨hda,hs,hq⟩
end
theorem put_defers(a:Act)(d:Option Tmp)(v:Value)(D:List Deferred):({ a with defers:=D }:Act).put d v = { a.put d v with defers:=D }:=by cases d <;> rfl
theorem BZ{P:Program}{ops:Array Oper}{D:List Deferred}{Q Q':Exit→Act→World→Prop}(hQ:∀e a w,Q e a w→Q' e { a with defers:=a.defers++D } w):∀(l:List Oper) (a:Act) (w:World),wpList P ops Q l a w→wpList P ops Q' l { a with defers:=a.defers++D } w
 | [],a,w,h=>hQ _ _ _ h
 | o::l,a,w,h=>by
  have hL:LetsOut Q→LetsOut Q':=fun⟨a,w,h⟩=>⟨_,_,hQ _ _ _ h⟩
  have nx:∀d v w,wpList P ops Q l (a.put d v) w→wpList P ops Q' l (({ a with defers:=a.defers++D }:Act).put d v) w:=fun d v w h=>by
   have:=BZ hQ l _ _ h
   rw[put_defers];rw[K9]at this;exact this
  have he:({ a with defers:=a.defers++D }:Act).eval=a.eval:=rfl
  unfold wpList at h ⊢
  show if Region.wanted o (yielded ops a.tmps) then _ else _
  by_cases hw:Region.wanted o (yielded ops a.tmps)
  ·rw[if_pos hw]at h ⊢
   rcases h with h|⟨h1,h2⟩
   ·refine .inl ?_
    unfold Oper.wp at h ⊢
    rw[he];generalize (execOp a.eval o).run P w=r at *
    cases r with
    | ok x w'=>
     cases x with
     | value v=>exact nx _ _ _ h
     | skip=>exact nx _ _ _ h
     | defer d=>
      have:=BZ hQ l _ _ h
      rw[K9]at this;simp only[Oper.upon]
      rw[put_defers]at this ⊢
      exact this
     | enter f args=>
      refine Calls.mono h fun e w'' h=>?_
      cases e with
      | returned v=>exact nx _ _ _ h
      | panicked ch=>exact hQ _ _ _ h
      | outgrown=>exact hL h
     | row row args=>exact Rows.mono h fun v w'' h=>nx _ _ _ h
     | _=>exact h.elim
    | halt x w'=>
     cases x with
     | panic v=>exact hQ _ _ _ h
     | _=>exact h.elim
   ·exact .inr ⟨h1,hL h2⟩
  ·rw[if_neg hw]at h ⊢
   exact nx _ _ _ h
def WX(P:Program)(n:Nat)(c:Code)(Q:List Deferred→Exit→Fr→World→Prop)(D:List Deferred)(ρ:Fr)(w:World):Prop:=
 ∀a:Act,a.defers=D→a.tmps.size=n→E0 a=ρ→c.wp P (fun e a w=>a.tmps.size=n∧Q a.defers e (E0 a) w) a w
def LD(P:Program)(n:Nat)(ops:Array Oper)(Q:List Deferred→Exit→Fr→World→Prop)(l:List Oper)(D:List Deferred)(ρ:Fr)(w:World):Prop:=
 ∀a:Act,a.defers=D→a.tmps.size=n→E0 a=ρ→wpList P ops (fun e a w=>a.tmps.size=n∧Q a.defers e (E0 a) w) l a w
def dC(K:List Deferred→Fr→World→Prop)(Q:List Deferred→Exit→Fr→World→Prop):List Deferred→Exit→Fr→World→Prop
 | D,.normal,ρ,w=>K D ρ w
 | D,e,ρ,w=>Q D e ρ w
section
variable {P:Program}{n:Nat}{Q:List Deferred→Exit→Fr→World→Prop}{D:List Deferred}{ρ:Fr}{w:World}
attribute [local semireducible] L W Step
theorem Fj{c:Code}(h:W P n c (Q []) ρ w):WX P n c Q [] ρ w:=fun a hd hs hf=>Code.wp_mono (fun e a w ⟨x,y,z⟩=>⟨y,by rw[x];exact z⟩) (h a hd hs hf)
theorem Ca{x y:Code}(h:WX P n x (dC (fun D ρ w=>WX P n y Q D ρ w) Q) D ρ w):WX P n (.seq x y) Q D ρ w:=fun a hd hs hf=>
 wp_seq (Code.wp_mono (fun e a w ⟨q,r⟩=>by cases e <;> first|exact r a rfl q rfl|exact⟨q,r⟩) (h a hd hs hf))
theorem Wa(h:Q D .ret ρ w):WX P n .ret Q D ρ w:=fun a hd hs hf=>wp_ret ⟨hs,by rw[hd,hf];exact h⟩
theorem Gd{c:Operand}{x y:Code}{b:Bool}(hc:ev ρ c=.bool b)(ht:b=true→WX P n x Q D ρ w)(hf:b=false→WX P n y Q D ρ w):WX P n (.cond c x y) Q D ρ w:=fun a hd hs he=>
 wp_cond_split (t:=b) (by rw[i7,he];exact hc) (fun h=>ht h a hd hs he) (fun h=>hf h a hd hs he)
theorem Ea{id:Nat}{l:List Oper}(h:L P n l.toArray (Q D) l ρ w):WX P n (.region id l.toArray false) Q D ρ w:=fun a hd hs hf=>wp_region_lit (by
 have:=BZ (P:=P) (ops:=l.toArray) (D:=D) (Q:=lift n (Q D)) (Q':=fun e a w=>a.tmps.size=n∧Q a.defers e (E0 a) w) (fun e a w ⟨x,y,z⟩=>⟨y,by
  show Q (a.defers++D) e (E0 a) w
  rw[x];exact z⟩) l { a with defers:=[] } w (h { a with defers:=[] } rfl hs hf)
 have e:({ ({ a with defers:=[] }:Act) with defers:=([]:List Deferred)++D }:Act)=a:=by subst hd;rfl
 exact e ▸ this)
theorem Jv{id:Nat}{l:List Oper}(h:LD P n l.toArray Q l D ρ w):WX P n (.region id l.toArray false) Q D ρ w:=fun a hd hs hf=>wp_region_lit (h a hd hs hf)
theorem YJ{ops:Array Oper}(h:Q D .normal ρ w):LD P n ops Q [] D ρ w:=fun a hd hs hf=>⟨hs,by rw[hd,hf];exact h⟩
theorem TY{ops:Array Oper}{o:Oper}{rest:List Oper}(h:Step P o ρ w fun v w'=>LD P n ops Q rest D (D6 ρ o.dst v) w')(hg:o.guard=none:=by exact rfl)(hd:G7 n o.dst=true:=by exact rfl):LD P n ops Q (o::rest) D ρ w:=fun a hda hs hf=>
 wpList_plain hg fun K hK=>by
  subst hf;refine Step.wp h fun v w' hv=>hK _ _ (hv _ ?_ ?_ ?_)
  ·rw[K9];exact hda
  ·rw[size_put];exact hs
  ·exact X5 a _ v (by rw[hs];exact K8 hd)
theorem ZN{ops:Array Oper}{o:Oper}{rest:List Oper}{dd:Deferred}(hr:(execOp (ev ρ) o).run P w=.ok (.defer dd) w)(h:LD P n ops Q rest (dd::D) (D6 ρ o.dst undef) w)(hg:o.guard=none:=by exact rfl)(hd:G7 n o.dst=true:=by exact rfl):LD P n ops Q (o::rest) D ρ w:=fun a hda hs hf=>
 wpList_plain hg fun K hK=>by
  subst hf;unfold Oper.wp;rw[i7,hr];refine hK _ _ (h _ ?_ ?_ ?_)
  ·rw[K9,hda]
  ·rw[size_put];exact hs
  ·exact X5 ({ a with defers:=dd::a.defers }:Act) _ undef (by
    show ∀t,o.dst=some t→t<a.tmps.size
    rw[hs];exact K8 hd)
def fw(P:Program)(fn:Func)(R:Ending→World→Prop):List Deferred→Exit→Fr→World→Prop
 | D,.normal,ρ,w=>∀a:Act,E0 a=ρ→a.tmps.size=fn.ntmps→Leaves P fn a.tmps R D .returning w
 | D,.ret,ρ,w=>∀a:Act,E0 a=ρ→a.tmps.size=fn.ntmps→Leaves P fn a.tmps R D .returning w
 | D,.panic ch,ρ,w=>∀a:Act,E0 a=ρ→a.tmps.size=fn.ntmps→Leaves P fn a.tmps R D (.panicking ch) w
 | _,.outgrown,_,w=>R .outgrown w
 | _,_,_,_=>False
theorem Hr{f:FuncId}{fn:Func}{c:Code}{args:Array Value}{R:Ending→World→Prop}(hf:P.funcs[f]? = some fn)(hb:fn.body=some c)
  (hn:Nat.ble args.size fn.ntmps=true) (h:WX P fn.ntmps c (fw P fn R) [] (Z6 args) w):Calls P f args w R:=by
 have hle:args.size≤fn.ntmps:=Nat.le_of_ble_eq_true hn
 refine calls_of_wp_defers hf hb (Code.wp_mono ?_ (h _ rfl (by simp;omega) ?_))
 ·rintro e a w ⟨hs,hq⟩
  cases e with
  | normal=>exact hq a rfl hs
  | ret=>exact hq a rfl hs
  | panic ch=>exact hq a rfl hs
  | outgrown=>exact hq
  | exit id=>exact hq.elim
  | goto l=>exact hq.elim
 ·funext t
  simp only[E0,Z6,Array.getD_eq_getD_getElem?,Array.getElem?_append]
  by_cases ht:t<args.size
  ·rw[if_pos ht]
  ·rw[if_neg ht,Array.getElem?_eq_none (by omega:args.size≤t)]
   simp only[Array.getElem?_replicate]
   split <;> rfl
end
def GH:FrameMode→Value×FrameMode
 | .panicking ({ v,recovered:=false,goexit:=false }::older)=>(v,.panicking ({ v,recovered:=true }::older))
 | u=>(.nilIface,u)
theorem Kg(c:Frame)(cs:List Frame):(recoverD (c::cs)=some ((GH c.mode).1,{ c with mode:=(GH c.mode).2 }::cs))∨(recoverD (c::cs)=none∧GH c.mode=(.nilIface,c.mode)):=by
 obtain⟨fn,tmps,todo,defers,mode,kind,ro⟩:=c;cases mode with
 | run=>exact .inr ⟨rfl,rfl⟩
 | returning=>exact .inr ⟨rfl,rfl⟩
 | panicking ch=>
  match ch with
  | []=>exact .inr ⟨rfl,rfl⟩
  | ⟨v,true,g⟩::older=>exact .inr ⟨rfl,rfl⟩
  | ⟨v,false,true⟩::older=>exact .inr ⟨rfl,rfl⟩
  | ⟨v,false,false⟩::older=>exact .inl rfl
section
variable {P:Program}{n:Nat}{opa:Array Oper}{QQ:Exit→Fr→World→Prop}{ρ:Fr}{w:World}{rest:List Oper}
variable {d:Option Tmp}{T ty:TypeId}{pos:String}{es:Array Edge}{x:Operand}
attribute [local semireducible] L W Step
theorem KO{f:FuncId}{fn:Func}{cc:Code}{id d1 d2:Nat}{ty1 ty2:TypeId}{pos1 pos2:String}{es1 es2:Array Edge}{args:Array Value}{u:FrameMode}{R:Ending→FrameMode→World→Prop}(hf:P.funcs[f]? = some fn)
  (hb:fn.body=some (.seq (.region id #[⟨some d1,.call { callee:=.builtin .recover,args:=#[],argTypes:=#[] },ty1,pos1,es1,none⟩,⟨some d2,.assign (.tmp d1),ty2,pos2,es2,none⟩] false) cc))
  (hn:Nat.ble args.size fn.ntmps=true) (h1:Nat.ble (d1+1) fn.ntmps=true) (h2:Nat.ble (d2+1) fn.ntmps=true)
  (h:W P fn.ntmps cc (eL fn.results fun e w=>R e (GH u).2 w) (upd (upd (Z6 args) d1 (GH u).1) d2 (GH u).1) w):CallsD P f args u w R:=by
 have hle:args.size≤fn.ntmps:=Nat.le_of_ble_eq_true hn
 have h1:d1+1≤fn.ntmps:=Nat.le_of_ble_eq_true h1
 have h2:d2+1≤fn.ntmps:=Nat.le_of_ble_eq_true h2
 refine callsD_of_wpS hf hb fun c cs hu=>?_
 obtain⟨a,ha⟩:∃a:Act,a = { tmps:=args++Array.replicate (fn.ntmps-args.size) undef,defers:=[] }:=⟨_,rfl⟩
 have had:a.defers=[]:=by rw[ha]
 have has:a.tmps.size=fn.ntmps:=by rw[ha];simp;omega
 have hae:E0 a=Z6 args:=by
  rw[ha];funext t
  simp only[E0,Z6,Array.getD_eq_getD_getElem?,Array.getElem?_append]
  by_cases ht:t<args.size
  ·rw[if_pos ht]
  ·rw[if_neg ht,Array.getElem?_eq_none (by omega:args.size≤t)]
   simp only[Array.getElem?_replicate]
   split <;> rfl
 rw[←ha];have hcs:∀cs',(cs' = { c with mode:=(GH u).2 }::cs)→cc.wpS P (bodyPostS P fn c cs R) ((a.put (some d1) (GH u).1).put (some d2) (GH u).1) cs' w:=by
  rintro cs' rfl
  refine wpS_of_wp (Code.wp_mono ?_ (h _ ?_ ?_ ?_))
  ·rintro e a' w' ⟨p,q,r⟩
   cases e with
   | normal=>obtain⟨v,hv,hR⟩:=r;exact⟨p,_,rfl,v,P7 hv,hR⟩
   | ret=>obtain⟨v,hv,hR⟩:=r;exact⟨p,_,rfl,v,P7 hv,hR⟩
   | panic ch=>exact⟨p,_,rfl,r⟩
   | outgrown=>exact⟨_,r⟩
   | exit id=>exact r.elim
   | goto l=>exact r.elim
  ·rw[K9,K9];exact had
  ·rw[size_put,size_put];exact has
  ·rw[GT _ _ _ (by rw[size_put];omega),GT _ _ _ (by omega),hae]
 refine wpS_seq (wpS_region ?_)
 show wpOpsS P _ _ [0,1] a (c::cs) w
 have e1:∀(o:Oper),o.guard=none→∀q,Region.wanted o q=true:=fun o ho q=>by unfold Region.wanted;rw[ho]
 unfold wpOpsS;simp only[List.getElem?_toArray,List.getElem?_cons_zero]
 rw[if_pos (e1 _ rfl _)];have hr:(execOp a.eval ⟨some d1,.call { callee:=.builtin .recover,args:=#[],argTypes:=#[] },ty1,pos1,es1,none⟩).run P w=.ok .recover w:=by
  rfl
 simp only[hr]
 have last:∀cs' a',a'=a.put (some d1) (GH u).1→(cs' = { c with mode:=(GH u).2 }::cs)→wpOpsS P #[⟨some d1,.call { callee:=.builtin .recover,args:=#[],argTypes:=#[] },ty1,pos1,es1,none⟩,⟨some d2,.assign (.tmp d1),ty2,pos2,es2,none⟩] (Exit.thenS (cc.wpS P (bodyPostS P fn c cs R)) (bodyPostS P fn c cs R)) [1] a' cs' w:=by
  intro cs' a' ha' hcs';unfold wpOpsS;simp only[List.getElem?_toArray,List.getElem?_cons_succ,List.getElem?_cons_zero]
  rw[if_pos (e1 _ rfl _)];have hv:(execOp a'.eval ⟨some d2,.assign (.tmp d1),ty2,pos2,es2,none⟩).run P w=.ok (.value (GH u).1) w:=by
   have:a'.eval (.tmp d1)=(GH u).1:=by
    rw[i7,ha',GT _ _ _ (by omega)];exact upd_same _ _ _
   show (execOp a'.eval ⟨some d2,.assign (.tmp d1),ty2,pos2,es2,none⟩).run P w=_
   rw[←this];rfl
  simp only[hv,Oper.upon]
  unfold wpOpsS;rw[ha'];exact hcs _ hcs'
 rcases Kg c cs with hq|⟨hq,hm⟩
 ·rw[hq];refine last _ _ ?_ ?_
  ·rw[hu]
  ·rw[hu]
 ·rw[hq];rw[hu]at hm;refine last _ _ ?_ ?_
  ·rw[hm]
  ·rw[hm];show _ = { c with mode:=u }::cs
   rw[←hu]
theorem Li{ops:Array Oper}{Q:List Deferred→Exit→Fr→World→Prop}{D:List Deferred}{t:Tmp}{f:Nat}{fst cap:Array Value}(h:LD P n ops Q rest (⟨.fn (.func f) cap,fst⟩::D) (D6 ρ d undef) w)(ht:ρ t=.func (.func f) fst cap:=by exact rfl)(hd:G7 n d=true:=by exact rfl) :
  LD P n ops Q (⟨d,.defer { callee:=.value (.tmp t),args:=#[],argTypes:=#[] },ty,pos,es,none⟩::rest) D ρ w:=
 ZN (by
  have:ev ρ (.tmp t)=.func (.func f) fst cap:=ht
  simp[execOp,resolve,this,Deferred.ofValue,Sem.run_bind,Sem.run_pure,Result.andThen_ok]) h rfl hd
theorem RS{U:TypeId}{g:Option (Nat×Bool)}{v:Value}{fs:Array Field}(hu:P.underlying U=some (.struct fs))(hx:ev ρ x=.iface U v):Yields P ⟨d,.typeAssert x T U true,ty,pos,es,g⟩ ρ w (.tuple #[v,.bool true]):=by
 unfold Yields;simp[execOp,hx,Instr.typeAssert,run_underlying hu,Sem.run_bind,Sem.run_pure,Result.andThen]
theorem bB{U:TypeId}{g:Option (Nat×Bool)}{T':TypeId}{v:Value}{ms:Array (String×TypeId)}(hu:P.underlying T=some (.interface ms))(hx:ev ρ x=.iface U v):Yields P ⟨d,.binOp .neq T x (.const .nilIface) T',ty,pos,es,g⟩ ρ w (.bool true):=by
 have h:∀d:Nat,(Op.equalIn (d+1) T (.iface U v) .nilIface).run P w=.ok false w:=fun d=>by simp[Op.equalIn,run_underlying hu]
 have hy:ev ρ (.const .nilIface)=.nilIface:=rfl
 unfold Yields;simp[execOp,go_sem,hx,hy,binOp,Op.equal,Op.maxDepth,h 9999]
theorem Zp{g:Option (Nat×Bool)}{T':TypeId}{ms:Array (String×TypeId)}(hu:P.underlying T=some (.interface ms))(hx:ev ρ x=.nilIface):Yields P ⟨d,.binOp .neq T x (.const .nilIface) T',ty,pos,es,g⟩ ρ w (.bool false):=by
 have h:∀d:Nat,(Op.equalIn (d+1) T .nilIface .nilIface).run P w=.ok true w:=fun d=>by simp[Op.equalIn,run_underlying hu]
 have hy:ev ρ (.const .nilIface)=.nilIface:=rfl
 unfold Yields;simp[execOp,go_sem,hx,hy,binOp,Op.equal,Op.maxDepth,h 9999,eqGuard]
end
section
variable {P:Program}{n:Nat}{opa:Array Oper}{QQ:Exit→Fr→World→Prop}{ρ:Fr}{w:World}{rest:List Oper}{Γ:C8}{S:List B6}
variable {d:Option Tmp}{ty:TypeId}{pos:String}{es:Array Edge}{f j dj:Nat}{want c:Bool}{args:List Operand}{tys:Array TypeId}{vs:List Value}{v:Value}{t:Tmp}
attribute [local semireducible] gv
theorem Mw[C7 P f](h:∀w',Wd Γ S w'→L P n opa QQ rest (D6 ρ d (gv c v)) w')(hw:Wd Γ S w:=by exact hw)(hj:(opa[j]?).bind (·.dst)=some dj:=by exact rfl)(hjn:G7 n (some dj)=true:=by exact rfl)(hc:F5 (ρ dj) want c:=by exact Hd)(hd:G7 n d=true:=by exact rfl)(ha:c=true→EvL ρ args vs:=by intro hc;exact Hj)(hp:PG P Γ f vs v:=by infer_instance) :
  L P n opa QQ (⟨d,.call { callee:=.value (.func f),args:=args.toArray,argTypes:=tys },ty,pos,es,some (j,want)⟩::rest) ρ w:=
 gQ hj hjn hd hc (fun hct=>XN (fun w' hw'=>by have:=h w' hw';rw[hct]at this;exact this) hw (ha hct) hd hp) (fun hcf=>by have:=h w hw;rw[hcf]at this;exact this)
theorem fE[C7 P f](hp:PC P f vs v)(ht:ρ t=.func (.func f) #[] #[])(ha:EvL ρ args vs):Step P ⟨d,.call { callee:=.value (.tmp t),args:=args.toArray,argTypes:=tys },ty,pos,es,none⟩ ρ w fun u w'=>u=v∧w'=w:=
 Ic ht ha.eqA (by simpa using (hp.h w).mono fun e w' ⟨h1,h2⟩=>⟨v,h1,rfl,h2⟩)
theorem lPv[C7 P f](hp:PC P f vs v)(h:L P n opa QQ rest (D6 ρ d v) w)(ht:ρ t=.func (.func f) #[] #[]:=by exact rfl)(ha:EvL ρ args vs:=by exact AB)(hd:G7 n d=true:=by exact rfl) :
  L P n opa QQ (⟨d,.call { callee:=.value (.tmp t),args:=args.toArray,argTypes:=tys },ty,pos,es,none⟩::rest) ρ w:=
 H5 rfl hd ((fE hp ht ha).mono fun u w' ⟨h1,h2⟩=>by subst h1;subst h2;exact h)
theorem fL[C7 P f](hp:PC P f vs v)(h:L P n opa QQ rest (D6 ρ d (gv c v)) w)(ht:c=true→ρ t=.func (.func f) #[] #[]:=by intro hc;exact B4)(hj:(opa[j]?).bind (·.dst)=some dj:=by exact rfl)(hjn:G7 n (some dj)=true:=by exact rfl)(hc:F5 (ρ dj) want c:=by exact Hd)(hd:G7 n d=true:=by exact rfl)(ha:c=true→EvL ρ args vs:=by intro hc;exact Hj) :
  L P n opa QQ (⟨d,.call { callee:=.value (.tmp t),args:=args.toArray,argTypes:=tys },ty,pos,es,some (j,want)⟩::rest) ρ w:=
 gQ hj hjn hd hc (fun hct=>lPv hp (by have:=h;rw[hct]at this;exact this) (ht hct) (ha hct) hd) (fun hcf=>by have:=h;rw[hcf]at this;exact this)
end
class cm(P:Program)(K:TypeId):Prop where
 h:∃E,P.underlying K=some (.array 2 E)∧P.underlying E=some (.int .i64)∧Fw P E=true
theorem AZ{P:Program}{E:TypeId}(hs:Fw P E=true){cs:Array Value}{i:Nat}{v:Value}(hv:cs[i]? = some v)(w:World):(part E cs i).run P w=.ok v w:=by
 unfold part;rw[Sem.run_bind,w4 hs];simp[Result.andThen,hv]
section
variable {P:Program}{K E:TypeId}{w:World}
theorem cT(hs:Fw P E=true):(Go.sizeOf E).run P w=.ok 1 w:=Ks hs
theorem Pv(h:P.underlying E=some (.int .i64))(d:Nat)(a b:Int):(Op.equalIn (d+1) E (.int .i64 a) (.int .i64 b)).run P w=.ok (decide (a=b)) w:=by
 unfold Op.equalIn;rw[Sem.run_bind,run_underlying h];show (if IntKind.i64=IntKind.i64 then pure (a == b) else Go.stuck "==: kinds differ" : Sem Bool).run P w=_
 rw[if_pos rfl];by_cases e:a=b
 ·subst e;simp
 ·simp[e]
theorem bC{K E:TypeId}(hK:P.underlying K=some (.array 2 E))(hE:P.underlying E=some (.int .i64))(hs:Fw P E=true)(a b c d:Int) :
  (Op.equal K (.agg #[.int .i64 a,.int .i64 b]) (.agg #[.int .i64 c,.int .i64 d])).run P w=.ok (decide ((a,b)=(c,d))) w:=by
 show (Op.equalIn 10000 K _ _).run P w=_
 unfold Op.equalIn;rw[Sem.run_bind,run_underlying hK];simp only[Result.andThen]
 rw[Sem.run_bind,cT hs];simp only[Result.andThen]
 have p0:(part E #[.int .i64 a,.int .i64 b] 0).run P w=.ok (.int .i64 a) w:=AZ (P:=P) hs rfl w
 have p1:(part E #[.int .i64 a,.int .i64 b] 1).run P w=.ok (.int .i64 b) w:=AZ (P:=P) hs rfl w
 have q0:(part E #[.int .i64 c,.int .i64 d] 0).run P w=.ok (.int .i64 c) w:=AZ (P:=P) hs rfl w
 have q1:(part E #[.int .i64 c,.int .i64 d] 1).run P w=.ok (.int .i64 d) w:=AZ (P:=P) hs rfl w
 have e0:(Op.equalIn 9999 E (.int .i64 a) (.int .i64 c)).run P w=_:=Pv (w:=w) hE 9998 a c
 have e1:(Op.equalIn 9999 E (.int .i64 b) (.int .i64 d)).run P w=_:=Pv (w:=w) hE 9998 b d
 simp only[Std.Legacy.Range.forIn_eq_forIn_range',Std.Legacy.Range.size,List.range']
 simp only[List.forIn_cons,List.forIn_nil,Sem.run_bind,Sem.run_pure,Result.andThen,Nat.zero_mul,Nat.one_mul,Nat.mul_one,Nat.zero_add,p0,p1,q0,q1,e0]
 by_cases h1:a=c
 ·subst h1;by_cases h2:b=d
  ·subst h2;simp[Sem.run_bind,Sem.run_pure,Result.andThen,p1,e1]
  ·have e2:decide (b=d)=false:=decide_eq_false h2
   rw[e2]at e1;have e3:((a,b)=(a,d))=False:=by simp[h2]
   simp[Sem.run_bind,Sem.run_pure,Result.andThen,p1,q1,e1,h2]
 ·simp[h1,Sem.run_bind,Sem.run_pure,Result.andThen]
theorem SD{K E:TypeId}(hK:P.underlying K=some (.array 2 E))(hE:P.underlying E=some (.int .i64))(hs:Fw P E=true)(empty:Bool)(a b:Int):(Instr.checkKey empty 10000 K (.agg #[.int .i64 a,.int .i64 b])).run P w=.ok () w:=by
 unfold Instr.checkKey;rw[Sem.run_bind,run_underlying hK];simp only[Result.andThen]
 have p0:(part E #[.int .i64 a,.int .i64 b] 0).run P w=.ok (.int .i64 a) w:=AZ (P:=P) hs rfl w
 have p1:(part E #[.int .i64 a,.int .i64 b] 1).run P w=.ok (.int .i64 b) w:=AZ (P:=P) hs rfl w
 have c0:(Instr.checkKey empty 9999 E (.int .i64 a)).run P w=_:=HI (w:=w) hE empty a 9998
 have c1:(Instr.checkKey empty 9999 E (.int .i64 b)).run P w=_:=HI (w:=w) hE empty b 9998
 simp[Std.Legacy.Range.forIn_eq_forIn_range',Std.Legacy.Range.size,List.range',Sem.run_bind,Sem.run_pure,Result.andThen,cT hs,p0,p1,c0,c1]
theorem IE{K E:TypeId}(hK:P.underlying K=some (.array 2 E))(hE:P.underlying E=some (.int .i64))(hs:Fw P E=true)(a:Int×Int):∀(es:List MapEntry) (ks:List (Int×Int)) (i:Nat),es.map (·.key)=ks.map (fun p=>Value.agg #[.int .i64 p.1,.int .i64 p.2]) →
  (Instr.findAsking K (.agg #[.int .i64 a.1,.int .i64 a.2]) es i).run P w=.ok ((ks.findIdx? (fun k=>decide (k=a))).bind fun j=>(es[j]?).map fun e=>(i+j,e.val)) w
 | [],[],i,_=>by simp[Instr.findAsking]
 | [],_::_,_,h0=>by simp at h0
 | _::_,[],_,h0=>by simp at h0
 | e::es,k::ks,i,h0=>by
  simp only[List.map_cons,List.cons.injEq]at h0
  unfold Instr.findAsking;rw[h0.1,Sem.run_bind,bC hK hE hs];by_cases hk:k=a
  ·subst hk;simp[Result.andThen,List.findIdx?_cons]
  ·have hk2:¬(a.1,a.2)=(k.1,k.2):=fun h=>hk (Prod.ext (by injection h with h1 h2;exact h1.symm) (by injection h with h1 h2;exact h2.symm))
   simp only[hk2,decide_false,Result.andThen,Bool.false_eq_true,if_false]
   rw[IE hK hE hs a es ks (i+1) h0.2];simp only[List.findIdx?_cons,hk,decide_false,Bool.false_eq_true,if_false]
   cases ks.findIdx? (fun k=>decide (k=a)) with
   | none=>rfl
   | some j=>simp[Nat.add_comm,Nat.add_left_comm]
instance Zg[hT:cm P K]:M3 P K (Int×Int) where
 key p:=.agg #[.int .i64 p.1,.int .i64 p.2]
 inj a b h:=by cases a;cases b;simpa using h
 dec:=inferInstance
 check empty a w:=by
  obtain⟨E,hK,hE,hs⟩:=hT.h;exact SD hK hE hs empty a.1 a.2
 find a es ks w h:=by
  obtain⟨E,hK,hE,hs⟩:=hT.h;unfold Instr.findKey;rw[Sem.run_bind,run_underlying hK];match es,ks,h with
  | [],[],h=>simp[Instr.findNow,Result.andThen]
  | [],_::_,h=>simp at h
  | _::_,[],h=>simp at h
  | e::es,k::ks,h=>
   have hn:Instr.findNow (.array 2 E) (.agg #[.int .i64 a.1,.int .i64 a.2]) (e::es) 0=none:=by
    unfold Instr.findNow Instr.sameNow;rfl
   simp only[Result.andThen,hn]
   have:=IE (w:=w) hK hE hs a (e::es) (k::ks) 0 h
   simpa using this
 stays a w:=by
  unfold Instr.keyThatStays;have:Instr.sameBits 10000 (.agg #[.int .i64 a.1,.int .i64 a.2]) (.agg #[.int .i64 a.1,.int .i64 a.2])=true:=by
   unfold Instr.sameBits;simp[Instr.sameBits]
  rw[this];rfl
end
section
variable {P:Program}{ρ:Fr}{w:World}{d:Option Tmp}{T ty:TypeId}{pos:String}{es:Array Edge}{g:Option (Nat×Bool)}{x y:Operand}
theorem KP{E n sz b o:Nat}{k:IntKind}{i:Int}[hT:Ro P T n E sz](hx:ev ρ x=.pointer (some ⟨b,o,none⟩))(hy:ev ρ y=.int k i)(h0:0≤i)(h1:i<n) :
  Yields P ⟨d,.indexAddr T x y,ty,pos,es,g⟩ ρ w (.pointer (some ⟨b,o+i.toNat*sz,none⟩)):=by
 obtain⟨q,hq,hs⟩:∃q,P.info? E=some q∧q.size=sz:=by
  have:=hT.s
  cases hi:P.info? E with
  | none=>rw[hi]at this;simp at this
  | some q=>rw[hi]at this;exact⟨q,rfl,by simpa using this⟩
 have he:P.elem T=E:=by simp[Program.elem,hT.h]
 have hn:P.arrayLen T=n:=by simp[Program.arrayLen,hT.h]
 have hr:=run_indexAt_array (P:=P) w T ⟨b,o,none⟩ k i (by rw[he,hn];exact hT.h)
 rw[hn,if_pos ⟨h0,h1⟩,he]at hr;have hz:(Go.sizeOf E).run P w=.ok sz w:=by simp[Go.sizeOf,typeInfo,hq,hs]
 rw[hz,Result.andThen_ok,Addr.add_mid]at hr;unfold Yields;simp only[execOp,hx,hy,Sem.run_bind,hr,Result.andThen_ok]
 rfl
end
end Mk
end
section
open Go Mk
namespace Go.Proofs.YtlmiakjbogojgaaGreatDoor
instance:TS Tryz.prog 2:=⟨by kernel_rfl⟩
instance:MP Tryz.prog 2 .i64:=⟨by kernel_rfl⟩
instance:TZ Tryz.prog 3 [.int .i64 0]:=⟨by kernel_rfl⟩
instance:Zc Tryz.prog 3 (.int .i64 0):=⟨by kernel_rfl⟩
instance:TS Tryz.prog 3:=⟨by kernel_rfl⟩
instance:MP Tryz.prog 3 .i64:=⟨by kernel_rfl⟩
instance:Zc Tryz.prog 4 (.bool false):=⟨by kernel_rfl⟩
instance:TS Tryz.prog 4:=⟨by kernel_rfl⟩
instance:TS Tryz.prog 5:=⟨by kernel_rfl⟩
instance:MP Tryz.prog 5 .u8:=⟨by kernel_rfl⟩
instance:TS Tryz.prog 9:=⟨by kernel_rfl⟩
instance:En Tryz.prog 9:=⟨by kernel_rfl⟩
instance:TS Tryz.prog 20:=⟨by kernel_rfl⟩
instance:TZ Tryz.prog 22 [.slice none 0 0]:=⟨by kernel_rfl⟩
instance:TS Tryz.prog 22:=⟨by kernel_rfl⟩
instance:TL Tryz.prog 22 9 1 16 [.string ⟨#[]⟩]:=⟨by kernel_rfl,by kernel_rfl,by kernel_rfl,by decide⟩
instance:TS Tryz.prog 23:=⟨by kernel_rfl⟩
instance:TL Tryz.prog 23 77 15 176 [.int .i64 0,.string ⟨#[]⟩,.slice none 0 0,.int .i64 0,.string ⟨#[]⟩,.int .i64 0,.int .i64 0,.string ⟨#[]⟩,.string ⟨#[]⟩,.int .i64 0,.int .i64 0,.string ⟨#[]⟩,.int .i64 0,.int .i64 0,.int .i64 0]:=⟨by kernel_rfl,by kernel_rfl,by kernel_rfl,by decide⟩
instance:TZ Tryz.prog 25 [.slice none 0 0,.slice none 0 0]:=⟨by kernel_rfl⟩
instance:TA Tryz.prog 25 2:=⟨by kernel_rfl⟩
instance:TB Tryz.prog 25 [(0,1),(1,1)] [.slice none 0 0,.slice none 0 0]:=⟨by kernel_rfl,by kernel_rfl⟩
instance:TF Tryz.prog 25 0 0:=⟨by kernel_rfl⟩
instance:TF Tryz.prog 25 1 1:=⟨by kernel_rfl⟩
instance:TZ Tryz.prog 29 [.int .i64 0,.int .i64 0]:=⟨by kernel_rfl⟩
instance:TA Tryz.prog 29 2:=⟨by kernel_rfl⟩
instance:TB Tryz.prog 29 [(0,1),(1,1)] [.int .i64 0,.int .i64 0]:=⟨by kernel_rfl,by kernel_rfl⟩
instance:TZ Tryz.prog 30 [.int .i64 0]:=⟨by kernel_rfl⟩
instance:TS Tryz.prog 30:=⟨by kernel_rfl⟩
instance:TS Tryz.prog 37:=⟨by kernel_rfl⟩
instance:TL Tryz.prog 37 3 1 8 [.int .i64 0]:=⟨by kernel_rfl,by kernel_rfl,by kernel_rfl,by decide⟩
instance:TS Tryz.prog 38:=⟨by kernel_rfl⟩
instance:TL Tryz.prog 38 47 4 32 [.int .i64 0,.int .i64 0,.int .i64 0,.int .i64 0]:=⟨by kernel_rfl,by kernel_rfl,by kernel_rfl,by decide⟩
instance:TS Tryz.prog 39:=⟨by kernel_rfl⟩
instance:TL Tryz.prog 39 135 5 64 [.string ⟨#[]⟩,.int .i64 0,.int .i64 0,.int .u64 0,.slice none 0 0]:=⟨by kernel_rfl,by kernel_rfl,by kernel_rfl,by decide⟩
instance:TS Tryz.prog 40:=⟨by kernel_rfl⟩
instance:TL Tryz.prog 40 128 3 24 [.int .i64 0,.int .i64 0,.int .i64 0]:=⟨by kernel_rfl,by kernel_rfl,by kernel_rfl,by decide⟩
instance:TS Tryz.prog 41:=⟨by kernel_rfl⟩
instance:TL Tryz.prog 41 58 5 48 [.string ⟨#[]⟩,.int .u64 0,.int .u64 0,.int .i64 0,.int .i64 0]:=⟨by kernel_rfl,by kernel_rfl,by kernel_rfl,by decide⟩
instance:TS Tryz.prog 42:=⟨by kernel_rfl⟩
instance:TL Tryz.prog 42 131 5 48 [.string ⟨#[]⟩,.int .i64 0,.int .i64 0,.int .u64 0,.int .u64 0]:=⟨by kernel_rfl,by kernel_rfl,by kernel_rfl,by decide⟩
instance:TZ Tryz.prog 44 [.string ⟨#[]⟩,.slice none 0 0,.slice none 0 0,.slice none 0 0,.slice none 0 0,.slice none 0 0]:=⟨by kernel_rfl⟩
instance:TA Tryz.prog 44 6:=⟨by kernel_rfl⟩
instance:TB Tryz.prog 44 [(0,1),(1,1),(2,1),(3,1),(4,1),(5,1)] [.string ⟨#[]⟩,.slice none 0 0,.slice none 0 0,.slice none 0 0,.slice none 0 0,.slice none 0 0]:=⟨by kernel_rfl,by kernel_rfl⟩
instance:TF Tryz.prog 44 0 0:=⟨by kernel_rfl⟩
instance:TF Tryz.prog 44 1 1:=⟨by kernel_rfl⟩
instance:TF Tryz.prog 44 2 2:=⟨by kernel_rfl⟩
instance:TF Tryz.prog 44 3 3:=⟨by kernel_rfl⟩
instance:TF Tryz.prog 44 4 4:=⟨by kernel_rfl⟩
instance:TF Tryz.prog 44 5 5:=⟨by kernel_rfl⟩
instance:TZ Tryz.prog 47 [.int .i64 0,.int .i64 0,.int .i64 0,.int .i64 0]:=⟨by kernel_rfl⟩
instance:TA Tryz.prog 47 4:=⟨by kernel_rfl⟩
instance:TB Tryz.prog 47 [(0,1),(1,1),(2,1),(3,1)] [.int .i64 0,.int .i64 0,.int .i64 0,.int .i64 0]:=⟨by kernel_rfl,by kernel_rfl⟩
instance:TF Tryz.prog 47 0 0:=⟨by kernel_rfl⟩
instance:TF Tryz.prog 47 1 1:=⟨by kernel_rfl⟩
instance:TF Tryz.prog 47 2 2:=⟨by kernel_rfl⟩
instance:TF Tryz.prog 47 3 3:=⟨by kernel_rfl⟩
instance:TA Tryz.prog 53 64:=⟨by kernel_rfl⟩
instance:Ro Tryz.prog 53 64 3 1:=⟨by kernel_rfl,by kernel_rfl⟩
instance:TA Tryz.prog 54 4096:=⟨by kernel_rfl⟩
instance:Ro Tryz.prog 54 64 53 64:=⟨by kernel_rfl,by kernel_rfl⟩
instance:Zc Tryz.prog 56 (.int .u64 0):=⟨by kernel_rfl⟩
instance:TS Tryz.prog 56:=⟨by kernel_rfl⟩
instance:MP Tryz.prog 56 .u64:=⟨by kernel_rfl⟩
instance:TZ Tryz.prog 58 [.string ⟨#[]⟩,.int .u64 0,.int .u64 0,.int .i64 0,.int .i64 0]:=⟨by kernel_rfl⟩
instance:TA Tryz.prog 58 5:=⟨by kernel_rfl⟩
instance:TB Tryz.prog 58 [(0,1),(1,1),(2,1),(3,1),(4,1)] [.string ⟨#[]⟩,.int .u64 0,.int .u64 0,.int .i64 0,.int .i64 0]:=⟨by kernel_rfl,by kernel_rfl⟩
instance:TF Tryz.prog 58 0 0:=⟨by kernel_rfl⟩
instance:TF Tryz.prog 58 1 1:=⟨by kernel_rfl⟩
instance:TF Tryz.prog 58 2 2:=⟨by kernel_rfl⟩
instance:TF Tryz.prog 58 3 3:=⟨by kernel_rfl⟩
instance:TF Tryz.prog 58 4 4:=⟨by kernel_rfl⟩
instance:TS Tryz.prog 60:=⟨by kernel_rfl⟩
instance:TL Tryz.prog 60 80 2 40 [.string ⟨#[]⟩,.slice none 0 0]:=⟨by kernel_rfl,by kernel_rfl,by kernel_rfl,by decide⟩
instance:TZ Tryz.prog 65 [.int .i64 0,.int .i64 0,.string ⟨#[]⟩]:=⟨by kernel_rfl⟩
instance:Zc Tryz.prog 65 (.agg #[.int .i64 0,.int .i64 0,.string ⟨#[]⟩]):=⟨by kernel_rfl⟩
instance:TA Tryz.prog 65 3:=⟨by kernel_rfl⟩
instance:gA Tryz.prog 65 [5,5,1]:=⟨by kernel_rfl,by kernel_rfl,by kernel_rfl⟩
instance:TB Tryz.prog 65 [(0,1),(1,1),(2,1)] [.int .i64 0,.int .i64 0,.string ⟨#[]⟩]:=⟨by kernel_rfl,by kernel_rfl⟩
instance:TF Tryz.prog 65 0 0:=⟨by kernel_rfl⟩
instance:TF Tryz.prog 65 1 1:=⟨by kernel_rfl⟩
instance:TF Tryz.prog 65 2 2:=⟨by kernel_rfl⟩
instance:TS Tryz.prog 67:=⟨by kernel_rfl⟩
instance:TL Tryz.prog 67 70 1 24 [.slice none 0 0]:=⟨by kernel_rfl,by kernel_rfl,by kernel_rfl,by decide⟩
instance:TS Tryz.prog 70:=⟨by kernel_rfl⟩
instance:TL Tryz.prog 70 65 3 32 [.int .i64 0,.int .i64 0,.string ⟨#[]⟩]:=⟨by kernel_rfl,by kernel_rfl,by kernel_rfl,by decide⟩
instance:TS Tryz.prog 73:=⟨by kernel_rfl⟩
instance:TL Tryz.prog 73 75 4 48 [.string ⟨#[]⟩,.int .i64 0,.int .i64 0,.string ⟨#[]⟩]:=⟨by kernel_rfl,by kernel_rfl,by kernel_rfl,by decide⟩
instance:TZ Tryz.prog 75 [.string ⟨#[]⟩,.int .i64 0,.int .i64 0,.string ⟨#[]⟩]:=⟨by kernel_rfl⟩
instance:TA Tryz.prog 75 4:=⟨by kernel_rfl⟩
instance:gA Tryz.prog 75 [1,5,5,1]:=⟨by kernel_rfl,by kernel_rfl,by kernel_rfl⟩
instance:TB Tryz.prog 75 [(0,1),(1,3)] [.string ⟨#[]⟩,.int .i64 0,.int .i64 0,.string ⟨#[]⟩]:=⟨by kernel_rfl,by kernel_rfl⟩
instance:TF Tryz.prog 75 0 0:=⟨by kernel_rfl⟩
instance:TF Tryz.prog 75 1 1:=⟨by kernel_rfl⟩
instance:TZ Tryz.prog 77 [.int .i64 0,.string ⟨#[]⟩,.slice none 0 0,.int .i64 0,.string ⟨#[]⟩,.int .i64 0,.int .i64 0,.string ⟨#[]⟩,.string ⟨#[]⟩,.int .i64 0,.int .i64 0,.string ⟨#[]⟩,.int .i64 0,.int .i64 0,.int .i64 0]:=⟨by kernel_rfl⟩
instance:TA Tryz.prog 77 15:=⟨by kernel_rfl⟩
instance:TB Tryz.prog 77 [(0,1),(1,1),(2,1),(3,1),(4,4),(8,4),(12,1),(13,1),(14,1)] [.int .i64 0,.string ⟨#[]⟩,.slice none 0 0,.int .i64 0,.string ⟨#[]⟩,.int .i64 0,.int .i64 0,.string ⟨#[]⟩,.string ⟨#[]⟩,.int .i64 0,.int .i64 0,.string ⟨#[]⟩,.int .i64 0,.int .i64 0,.int .i64 0]:=⟨by kernel_rfl,by kernel_rfl⟩
instance:TF Tryz.prog 77 0 0:=⟨by kernel_rfl⟩
instance:TF Tryz.prog 77 1 1:=⟨by kernel_rfl⟩
instance:TF Tryz.prog 77 2 2:=⟨by kernel_rfl⟩
instance:TF Tryz.prog 77 3 3:=⟨by kernel_rfl⟩
instance:TF Tryz.prog 77 4 4:=⟨by kernel_rfl⟩
instance:TF Tryz.prog 77 5 8:=⟨by kernel_rfl⟩
instance:TF Tryz.prog 77 6 12:=⟨by kernel_rfl⟩
instance:TF Tryz.prog 77 7 13:=⟨by kernel_rfl⟩
instance:TF Tryz.prog 77 8 14:=⟨by kernel_rfl⟩
instance:TZ Tryz.prog 80 [.string ⟨#[]⟩,.slice none 0 0]:=⟨by kernel_rfl⟩
instance:TA Tryz.prog 80 2:=⟨by kernel_rfl⟩
instance:TB Tryz.prog 80 [(0,1),(1,1)] [.string ⟨#[]⟩,.slice none 0 0]:=⟨by kernel_rfl,by kernel_rfl⟩
instance:TF Tryz.prog 80 0 0:=⟨by kernel_rfl⟩
instance:TF Tryz.prog 80 1 1:=⟨by kernel_rfl⟩
instance:TS Tryz.prog 83:=⟨by kernel_rfl⟩
instance:TL Tryz.prog 83 102 5 48 [.int .i64 0,.string ⟨#[]⟩,.int .u64 0,.int .i64 0,.int .i64 0]:=⟨by kernel_rfl,by kernel_rfl,by kernel_rfl,by decide⟩
instance:TZ Tryz.prog 87 [.int .i64 0,.int .i64 0,.int .i64 0]:=⟨by kernel_rfl⟩
instance:TA Tryz.prog 87 3:=⟨by kernel_rfl⟩
instance:TB Tryz.prog 87 [(0,2),(2,1)] [.int .i64 0,.int .i64 0,.int .i64 0]:=⟨by kernel_rfl,by kernel_rfl⟩
instance:TF Tryz.prog 87 0 0:=⟨by kernel_rfl⟩
instance:TF Tryz.prog 87 1 2:=⟨by kernel_rfl⟩
instance:TB Tryz.prog 93 [(0,1),(1,1),(2,2)] [.slice none 0 0,.int .i64 0,.int .i64 0,.int .i64 0]:=⟨by kernel_rfl,by kernel_rfl⟩
instance:TF Tryz.prog 93 0 0:=⟨by kernel_rfl⟩
instance:TF Tryz.prog 93 1 1:=⟨by kernel_rfl⟩
instance:TF Tryz.prog 93 2 2:=⟨by kernel_rfl⟩
instance:TZ Tryz.prog 102 [.int .i64 0,.string ⟨#[]⟩,.int .u64 0,.int .i64 0,.int .i64 0]:=⟨by kernel_rfl⟩
instance:TA Tryz.prog 102 5:=⟨by kernel_rfl⟩
instance:TB Tryz.prog 102 [(0,1),(1,1),(2,1),(3,2)] [.int .i64 0,.string ⟨#[]⟩,.int .u64 0,.int .i64 0,.int .i64 0]:=⟨by kernel_rfl,by kernel_rfl⟩
instance:TF Tryz.prog 102 0 0:=⟨by kernel_rfl⟩
instance:TF Tryz.prog 102 1 1:=⟨by kernel_rfl⟩
instance:TF Tryz.prog 102 2 2:=⟨by kernel_rfl⟩
instance:TF Tryz.prog 102 3 3:=⟨by kernel_rfl⟩
instance:TS Tryz.prog 108:=⟨by kernel_rfl⟩
instance:TL Tryz.prog 114 119 2 32 [.int .i64 0,.slice none 0 0]:=⟨by kernel_rfl,by kernel_rfl,by kernel_rfl,by decide⟩
instance:TS Tryz.prog 117:=⟨by kernel_rfl⟩
instance:TL Tryz.prog 117 121 2 16 [.int .i64 0,.int .i64 0]:=⟨by kernel_rfl,by kernel_rfl,by kernel_rfl,by decide⟩
instance:TF Tryz.prog 119 0 0:=⟨by kernel_rfl⟩
instance:TF Tryz.prog 119 1 1:=⟨by kernel_rfl⟩
instance:TA Tryz.prog 121 2:=⟨by kernel_rfl⟩
instance:gA Tryz.prog 121 [5,5]:=⟨by kernel_rfl,by kernel_rfl,by kernel_rfl⟩
instance:TB Tryz.prog 121 [(0,1),(1,1)] [.int .i64 0,.int .i64 0]:=⟨by kernel_rfl,by kernel_rfl⟩
instance:TF Tryz.prog 121 0 0:=⟨by kernel_rfl⟩
instance:TB Tryz.prog 124 [(0,1),(1,1)] [.slice none 0 0,.int .i64 0]:=⟨by kernel_rfl,by kernel_rfl⟩
instance:TF Tryz.prog 124 0 0:=⟨by kernel_rfl⟩
instance:TF Tryz.prog 124 1 1:=⟨by kernel_rfl⟩
instance:TZ Tryz.prog 125 [.int .i64 0,.int .i64 0,.int .i64 0,.int .i64 0,.int .i64 0,.int .i64 0]:=⟨by kernel_rfl⟩
instance:Ro Tryz.prog 125 6 3 1:=⟨by kernel_rfl,by kernel_rfl⟩
instance:TZ Tryz.prog 128 [.int .i64 0,.int .i64 0,.int .i64 0]:=⟨by kernel_rfl⟩
instance:TA Tryz.prog 128 3:=⟨by kernel_rfl⟩
instance:TB Tryz.prog 128 [(0,1),(1,1),(2,1)] [.int .i64 0,.int .i64 0,.int .i64 0]:=⟨by kernel_rfl,by kernel_rfl⟩
instance:TF Tryz.prog 128 0 0:=⟨by kernel_rfl⟩
instance:TF Tryz.prog 128 1 1:=⟨by kernel_rfl⟩
instance:TF Tryz.prog 128 2 2:=⟨by kernel_rfl⟩
instance:MP Tryz.prog 129 .u64:=⟨by kernel_rfl⟩
instance:TZ Tryz.prog 131 [.string ⟨#[]⟩,.int .i64 0,.int .i64 0,.int .u64 0,.int .u64 0]:=⟨by kernel_rfl⟩
instance:TA Tryz.prog 131 5:=⟨by kernel_rfl⟩
instance:TB Tryz.prog 131 [(0,1),(1,1),(2,1),(3,1),(4,1)] [.string ⟨#[]⟩,.int .i64 0,.int .i64 0,.int .u64 0,.int .u64 0]:=⟨by kernel_rfl,by kernel_rfl⟩
instance:TF Tryz.prog 131 0 0:=⟨by kernel_rfl⟩
instance:TF Tryz.prog 131 1 1:=⟨by kernel_rfl⟩
instance:TF Tryz.prog 131 2 2:=⟨by kernel_rfl⟩
instance:TF Tryz.prog 131 3 3:=⟨by kernel_rfl⟩
instance:TF Tryz.prog 131 4 4:=⟨by kernel_rfl⟩
instance:TZ Tryz.prog 135 [.string ⟨#[]⟩,.int .i64 0,.int .i64 0,.int .u64 0,.slice none 0 0]:=⟨by kernel_rfl⟩
instance:TA Tryz.prog 135 5:=⟨by kernel_rfl⟩
instance:TB Tryz.prog 135 [(0,1),(1,1),(2,1),(3,1),(4,1)] [.string ⟨#[]⟩,.int .i64 0,.int .i64 0,.int .u64 0,.slice none 0 0]:=⟨by kernel_rfl,by kernel_rfl⟩
instance:TF Tryz.prog 135 0 0:=⟨by kernel_rfl⟩
instance:TF Tryz.prog 135 1 1:=⟨by kernel_rfl⟩
instance:TF Tryz.prog 135 2 2:=⟨by kernel_rfl⟩
instance:TF Tryz.prog 135 3 3:=⟨by kernel_rfl⟩
instance:TF Tryz.prog 135 4 4:=⟨by kernel_rfl⟩
instance:TZ Tryz.prog 140 [.map none]:=⟨by kernel_rfl⟩
instance:TS Tryz.prog 140:=⟨by kernel_rfl⟩
instance:BJ Tryz.prog 140 9 3:=⟨by kernel_rfl⟩
instance:TS Tryz.prog 153:=⟨by kernel_rfl⟩
instance:TS Tryz.prog 156:=⟨by kernel_rfl⟩
instance:TS Tryz.prog 157:=⟨by kernel_rfl⟩
instance:BJ Tryz.prog 157 9 65:=⟨by kernel_rfl⟩
instance:TS Tryz.prog 158:=⟨by kernel_rfl⟩
instance:TL Tryz.prog 158 60 1 24 [.slice none 0 0]:=⟨by kernel_rfl,by kernel_rfl,by kernel_rfl,by decide⟩
instance:TB Tryz.prog 160 [(0,2),(2,1),(3,1),(4,1)] [.slice none 0 0,.slice none 0 0,.slice none 0 0,.map none,.slice none 0 0]:=⟨by kernel_rfl,by kernel_rfl⟩
instance:TF Tryz.prog 160 0 0:=⟨by kernel_rfl⟩
instance:TF Tryz.prog 160 1 2:=⟨by kernel_rfl⟩
instance:TF Tryz.prog 160 2 3:=⟨by kernel_rfl⟩
instance:TF Tryz.prog 160 3 4:=⟨by kernel_rfl⟩
instance:TL Tryz.prog 180 108 1 8 [.nilFunc]:=⟨by kernel_rfl,by kernel_rfl,by kernel_rfl,by decide⟩
instance:Ro Tryz.prog 198 64 53 64:=⟨by kernel_rfl,by kernel_rfl⟩
instance:BJ Tryz.prog 205 3 208:=⟨by kernel_rfl⟩
instance:Ma Tryz.prog 207 209:=⟨by kernel_rfl⟩
instance:Zc Tryz.prog 208 (.slice none 0 0):=⟨by kernel_rfl⟩
instance:TL Tryz.prog 208 216 2 16 [.int .i64 0,.int .i64 0]:=⟨by kernel_rfl,by kernel_rfl,by kernel_rfl,by decide⟩
instance:TS Tryz.prog 209:=⟨by kernel_rfl⟩
instance:TL Tryz.prog 209 216 2 16 [.int .i64 0,.int .i64 0]:=⟨by kernel_rfl,by kernel_rfl,by kernel_rfl,by decide⟩
instance:TZ Tryz.prog 216 [.int .i64 0,.int .i64 0]:=⟨by kernel_rfl⟩
instance:TA Tryz.prog 216 2:=⟨by kernel_rfl⟩
instance:TB Tryz.prog 216 [(0,1),(1,1)] [.int .i64 0,.int .i64 0]:=⟨by kernel_rfl,by kernel_rfl⟩
instance:TF Tryz.prog 216 0 0:=⟨by kernel_rfl⟩
instance:TF Tryz.prog 216 1 1:=⟨by kernel_rfl⟩
instance:BJ Tryz.prog 232 9 4:=⟨by kernel_rfl⟩
instance:Ro Tryz.prog 237 64 5 1:=⟨by kernel_rfl,by kernel_rfl⟩
instance:TL Tryz.prog 240 242 2 16 [.int .i64 0,.int .i64 0]:=⟨by kernel_rfl,by kernel_rfl,by kernel_rfl,by decide⟩
instance:TZ Tryz.prog 242 [.int .i64 0,.int .i64 0]:=⟨by kernel_rfl⟩
instance:TA Tryz.prog 242 2:=⟨by kernel_rfl⟩
instance:TL Tryz.prog 247 249 2 16 [.int .u64 0,.int .u64 0]:=⟨by kernel_rfl,by kernel_rfl,by kernel_rfl,by decide⟩
instance:TB Tryz.prog 249 [(0,1),(1,1)] [.int .u64 0,.int .u64 0]:=⟨by kernel_rfl,by kernel_rfl⟩
instance:TF Tryz.prog 249 0 0:=⟨by kernel_rfl⟩
instance:TF Tryz.prog 249 1 1:=⟨by kernel_rfl⟩
instance:TZ Tryz.prog 250 [.bool false,.bool false,.bool false,.bool false,.bool false,.bool false,.bool false,.bool false,.bool false,.bool false,.bool false,.bool false,.bool false,.bool false,.bool false,.bool false,.bool false,.bool false,.bool false,.bool false,.bool false,.bool false,.bool false,.bool false,.bool false,.bool false,.bool false,.bool false,.bool false,.bool false,.bool false,.bool false,.bool false,.bool false,.bool false,.bool false,.bool false,.bool false,.bool false,.bool false,.bool false,.bool false,.bool false,.bool false,.bool false,.bool false,.bool false,.bool false,.bool false,.bool false,.bool false,.bool false,.bool false,.bool false,.bool false,.bool false,.bool false,.bool false,.bool false,.bool false,.bool false,.bool false,.bool false,.bool false]:=⟨by kernel_rfl⟩
instance:Ro Tryz.prog 250 64 4 1:=⟨by kernel_rfl,by kernel_rfl⟩
instance:TL Tryz.prog 261 20 1 16 [.nilIface]:=⟨by kernel_rfl,by kernel_rfl,by kernel_rfl,by decide⟩
instance:BJ Tryz.prog 302 3 4:=⟨by kernel_rfl⟩
instance:BJ Tryz.prog 303 242 4:=⟨by kernel_rfl⟩
instance:C7 Tryz.prog 7:=⟨by kernel_rfl⟩
instance:C7 Tryz.prog 13:=⟨by kernel_rfl⟩
instance:C7 Tryz.prog 14:=⟨by kernel_rfl⟩
instance:C7 Tryz.prog 15:=⟨by kernel_rfl⟩
instance:C7 Tryz.prog 16:=⟨by kernel_rfl⟩
instance:C7 Tryz.prog 17:=⟨by kernel_rfl⟩
instance:C7 Tryz.prog 18:=⟨by kernel_rfl⟩
instance:C7 Tryz.prog 19:=⟨by kernel_rfl⟩
instance:C7 Tryz.prog 20:=⟨by kernel_rfl⟩
instance:C7 Tryz.prog 21:=⟨by kernel_rfl⟩
instance:C7 Tryz.prog 22:=⟨by kernel_rfl⟩
instance:C7 Tryz.prog 23:=⟨by kernel_rfl⟩
instance:C7 Tryz.prog 24:=⟨by kernel_rfl⟩
instance:C7 Tryz.prog 27:=⟨by kernel_rfl⟩
instance:C7 Tryz.prog 28:=⟨by kernel_rfl⟩
instance:C7 Tryz.prog 30:=⟨by kernel_rfl⟩
instance:C7 Tryz.prog 31:=⟨by kernel_rfl⟩
instance:C7 Tryz.prog 32:=⟨by kernel_rfl⟩
instance:C7 Tryz.prog 44:=⟨by kernel_rfl⟩
instance:C7 Tryz.prog 51:=⟨by kernel_rfl⟩
instance:C7 Tryz.prog 52:=⟨by kernel_rfl⟩
instance:C7 Tryz.prog 53:=⟨by kernel_rfl⟩
instance:C7 Tryz.prog 54:=⟨by kernel_rfl⟩
instance:C7 Tryz.prog 55:=⟨by kernel_rfl⟩
instance:C7 Tryz.prog 56:=⟨by kernel_rfl⟩
instance:C7 Tryz.prog 57:=⟨by kernel_rfl⟩
instance:C7 Tryz.prog 58:=⟨by kernel_rfl⟩
instance:C7 Tryz.prog 59:=⟨by kernel_rfl⟩
instance:C7 Tryz.prog 60:=⟨by kernel_rfl⟩
instance:C7 Tryz.prog 61:=⟨by kernel_rfl⟩
instance:C7 Tryz.prog 62:=⟨by kernel_rfl⟩
instance:C7 Tryz.prog 63:=⟨by kernel_rfl⟩
instance:C7 Tryz.prog 64:=⟨by kernel_rfl⟩
instance:C7 Tryz.prog 65:=⟨by kernel_rfl⟩
instance:C7 Tryz.prog 66:=⟨by kernel_rfl⟩
instance:C7 Tryz.prog 67:=⟨by kernel_rfl⟩
instance:C7 Tryz.prog 68:=⟨by kernel_rfl⟩
instance:C7 Tryz.prog 69:=⟨by kernel_rfl⟩
instance:C7 Tryz.prog 70:=⟨by kernel_rfl⟩
instance:C7 Tryz.prog 71:=⟨by kernel_rfl⟩
instance:C7 Tryz.prog 72:=⟨by kernel_rfl⟩
instance:C7 Tryz.prog 73:=⟨by kernel_rfl⟩
instance:C7 Tryz.prog 74:=⟨by kernel_rfl⟩
instance:C7 Tryz.prog 75:=⟨by kernel_rfl⟩
instance:C7 Tryz.prog 76:=⟨by kernel_rfl⟩
instance:C7 Tryz.prog 77:=⟨by kernel_rfl⟩
instance:C7 Tryz.prog 78:=⟨by kernel_rfl⟩
instance:C7 Tryz.prog 79:=⟨by kernel_rfl⟩
instance:C7 Tryz.prog 80:=⟨by kernel_rfl⟩
instance:C7 Tryz.prog 81:=⟨by kernel_rfl⟩
instance:C7 Tryz.prog 82:=⟨by kernel_rfl⟩
instance:C7 Tryz.prog 83:=⟨by kernel_rfl⟩
instance:C7 Tryz.prog 84:=⟨by kernel_rfl⟩
instance:C7 Tryz.prog 85:=⟨by kernel_rfl⟩
instance:C7 Tryz.prog 89:=⟨by kernel_rfl⟩
instance:C7 Tryz.prog 90:=⟨by kernel_rfl⟩
instance:C7 Tryz.prog 91:=⟨by kernel_rfl⟩
instance:C7 Tryz.prog 92:=⟨by kernel_rfl⟩
instance:C7 Tryz.prog 93:=⟨by kernel_rfl⟩
instance:C7 Tryz.prog 94:=⟨by kernel_rfl⟩
instance:C7 Tryz.prog 101:=⟨by kernel_rfl⟩
instance:C7 Tryz.prog 102:=⟨by kernel_rfl⟩
instance:C7 Tryz.prog 103:=⟨by kernel_rfl⟩
instance:C7 Tryz.prog 104:=⟨by kernel_rfl⟩
instance:C7 Tryz.prog 105:=⟨by kernel_rfl⟩
instance:C7 Tryz.prog 110:=⟨by kernel_rfl⟩
instance:C7 Tryz.prog 118:=⟨by kernel_rfl⟩
instance:C7 Tryz.prog 119:=⟨by kernel_rfl⟩
instance:C7 Tryz.prog 120:=⟨by kernel_rfl⟩
instance:C7 Tryz.prog 121:=⟨by kernel_rfl⟩
instance:C7 Tryz.prog 122:=⟨by kernel_rfl⟩
instance:C7 Tryz.prog 123:=⟨by kernel_rfl⟩
instance:C7 Tryz.prog 124:=⟨by kernel_rfl⟩
instance:C7 Tryz.prog 125:=⟨by kernel_rfl⟩
instance:C7 Tryz.prog 126:=⟨by kernel_rfl⟩
instance:C7 Tryz.prog 127:=⟨by kernel_rfl⟩
instance:C7 Tryz.prog 128:=⟨by kernel_rfl⟩
instance:C7 Tryz.prog 129:=⟨by kernel_rfl⟩
instance:C7 Tryz.prog 130:=⟨by kernel_rfl⟩
instance:C7 Tryz.prog 131:=⟨by kernel_rfl⟩
instance:C7 Tryz.prog 134:=⟨by kernel_rfl⟩
instance:C7 Tryz.prog 135:=⟨by kernel_rfl⟩
instance:C7 Tryz.prog 136:=⟨by kernel_rfl⟩
instance:C7 Tryz.prog 137:=⟨by kernel_rfl⟩
instance:C7 Tryz.prog 139:=⟨by kernel_rfl⟩
instance:C7 Tryz.prog 141:=⟨by kernel_rfl⟩
instance:C7 Tryz.prog 142:=⟨by kernel_rfl⟩
instance:C7 Tryz.prog 143:=⟨by kernel_rfl⟩
instance:C7 Tryz.prog 144:=⟨by kernel_rfl⟩
instance:C7 Tryz.prog 145:=⟨by kernel_rfl⟩
instance:C7 Tryz.prog 146:=⟨by kernel_rfl⟩
instance:C7 Tryz.prog 147:=⟨by kernel_rfl⟩
instance:C7 Tryz.prog 148:=⟨by kernel_rfl⟩
instance:C7 Tryz.prog 149:=⟨by kernel_rfl⟩
instance:C7 Tryz.prog 150:=⟨by kernel_rfl⟩
instance:C7 Tryz.prog 152:=⟨by kernel_rfl⟩
instance:C7 Tryz.prog 153:=⟨by kernel_rfl⟩
instance:C7 Tryz.prog 154:=⟨by kernel_rfl⟩
instance:C7 Tryz.prog 155:=⟨by kernel_rfl⟩
instance:C7 Tryz.prog 156:=⟨by kernel_rfl⟩
instance:C7 Tryz.prog 157:=⟨by kernel_rfl⟩
instance:C7 Tryz.prog 158:=⟨by kernel_rfl⟩
instance:C7 Tryz.prog 160:=⟨by kernel_rfl⟩
instance:C7 Tryz.prog 161:=⟨by kernel_rfl⟩
instance:C7 Tryz.prog 162:=⟨by kernel_rfl⟩
instance:C7 Tryz.prog 163:=⟨by kernel_rfl⟩
instance:C7 Tryz.prog 164:=⟨by kernel_rfl⟩
instance:C7 Tryz.prog 168:=⟨by kernel_rfl⟩
instance:C7 Tryz.prog 169:=⟨by kernel_rfl⟩
instance:C7 Tryz.prog 170:=⟨by kernel_rfl⟩
instance:C7 Tryz.prog 171:=⟨by kernel_rfl⟩
instance:C7 Tryz.prog 180:=⟨by kernel_rfl⟩
instance:C7 Tryz.prog 182:=⟨by kernel_rfl⟩
instance:C7 Tryz.prog 183:=⟨by kernel_rfl⟩
instance:C7 Tryz.prog 184:=⟨by kernel_rfl⟩
instance:C7 Tryz.prog 185:=⟨by kernel_rfl⟩
instance:C7 Tryz.prog 186:=⟨by kernel_rfl⟩
instance:C7 Tryz.prog 187:=⟨by kernel_rfl⟩
instance:C7 Tryz.prog 188:=⟨by kernel_rfl⟩
instance:C7 Tryz.prog 189:=⟨by kernel_rfl⟩
instance:C7 Tryz.prog 190:=⟨by kernel_rfl⟩
instance:C7 Tryz.prog 191:=⟨by kernel_rfl⟩
instance:C7 Tryz.prog 192:=⟨by kernel_rfl⟩
instance:C7 Tryz.prog 203:=⟨by kernel_rfl⟩
instance:C7 Tryz.prog 204:=⟨by kernel_rfl⟩
instance:C7 Tryz.prog 211:=⟨by kernel_rfl⟩
instance:C7 Tryz.prog 222:=⟨by kernel_rfl⟩
instance:C7 Tryz.prog 223:=⟨by kernel_rfl⟩
instance:C7 Tryz.prog 224:=⟨by kernel_rfl⟩
instance:C7 Tryz.prog 225:=⟨by kernel_rfl⟩
instance:C7 Tryz.prog 226:=⟨by kernel_rfl⟩
instance:C7 Tryz.prog 227:=⟨by kernel_rfl⟩
instance:C7 Tryz.prog 228:=⟨by kernel_rfl⟩
instance:C7 Tryz.prog 237:=⟨by kernel_rfl⟩
instance:C7 Tryz.prog 238:=⟨by kernel_rfl⟩
instance:C7 Tryz.prog 239:=⟨by kernel_rfl⟩
instance:C7 Tryz.prog 240:=⟨by kernel_rfl⟩
instance:C7 Tryz.prog 247:=⟨by kernel_rfl⟩
instance:C7 Tryz.prog 248:=⟨by kernel_rfl⟩
instance:C7 Tryz.prog 264:=⟨by kernel_rfl⟩
instance:C7 Tryz.prog 265:=⟨by kernel_rfl⟩
instance:C7 Tryz.prog 271:=⟨by kernel_rfl⟩
instance:C7 Tryz.prog 272:=⟨by kernel_rfl⟩
instance:C7 Tryz.prog 273:=⟨by kernel_rfl⟩
instance:C7 Tryz.prog 280:=⟨by kernel_rfl⟩
instance:C7 Tryz.prog 281:=⟨by kernel_rfl⟩
instance:C7 Tryz.prog 282:=⟨by kernel_rfl⟩
instance:C7 Tryz.prog 286:=⟨by kernel_rfl⟩
instance:C7 Tryz.prog 290:=⟨by kernel_rfl⟩
instance:C7 Tryz.prog 302:=⟨by kernel_rfl⟩
instance:C7 Tryz.prog 321:=⟨by kernel_rfl⟩
instance:C7 Tryz.prog 322:=⟨by kernel_rfl⟩
instance:C7 Tryz.prog 323:=⟨by kernel_rfl⟩
instance:C7 Tryz.prog 324:=⟨by kernel_rfl⟩
instance:C7 Tryz.prog 325:=⟨by kernel_rfl⟩
instance:C7 Tryz.prog 326:=⟨by kernel_rfl⟩
instance:C7 Tryz.prog 327:=⟨by kernel_rfl⟩
instance:C7 Tryz.prog 328:=⟨by kernel_rfl⟩
instance:C7 Tryz.prog 329:=⟨by kernel_rfl⟩
instance:C7 Tryz.prog 330:=⟨by kernel_rfl⟩
instance:C7 Tryz.prog 334:=⟨by kernel_rfl⟩
instance:C7 Tryz.prog 335:=⟨by kernel_rfl⟩
end Go.Proofs.YtlmiakjbogojgaaGreatDoor
end
section
open Go
namespace Mk
section
variable {P:Program}{n:Nat}{opa:Array Oper}{Γ:C8}{S:List B6}{QQ:Exit→Fr→World→Prop}{K:Value→World→Prop}{ρ:Fr}{w:World}{rest:List Oper}{sz:Nat}{rows:List (List Value)}
variable {d:Option Tmp}{T U ty:TypeId}{pos:String}{es:Array Edge}{g:Option (Nat×Bool)}{x y z:Operand}{v:Value}
theorem VT{L r:List Value}{p f m sz N:Nat}(hp:p+sz≤N)(hN:N≤L.length)(hr:r.length=m)(hfm:f+m≤sz) :
  (L.take (p+f)++r++L.drop (p+f+r.length)).take N=(L.take N).take p++(((L.drop p).take sz).take f++r++((L.drop p).take sz).drop (f+m))++(L.take N).drop (p+sz):=by
 refine List.ext_getElem? fun i=>?_
 simp only[List.getElem?_append,List.getElem?_take,List.getElem?_drop,List.length_append,List.length_take,List.length_drop,hr]
 repeat' split
 all_goals first|omega|rfl|(congr 1;omega)|skip
theorem LE{E k f m i n c:Nat}{a:Option Addr}{v:Value}{r row:List Value}(hn:(P.info? T).map (·.size)=some m)(hw:Wd Γ S w)(hx:ev ρ x=.pointer (some ⟨aB a,aO a+k*sz+f,none⟩))(hy:ev ρ y=v)(hv:v.cells.toList=r)(hl:r.length=m)
  (h1:r.all (·.oneCell')=true) (hi:S[i]? = some (.own (.slice a n c) E sz rows)) (hkl:k<n) (hrow:rows[k]? = some row) (hfm:f+m≤sz) (hk:∀w',Wd Γ (S.set i (.own (.slice a n c) E sz (rows.set k (row.take f++r++row.drop (f+m))))) w'→K undef w'):Step P ⟨d,.store T x y,ty,pos,es,g⟩ ρ w K:=by
 obtain⟨bs0,hr0⟩:=hw.own_holds hi
 unfold B6.own at hr0;obtain⟨q0,a',n',c',e1,e2,e3,e4,e5⟩:=hr0;cases e1
 rcases e5 with⟨hc,_⟩|⟨b,cur,g1,g2,g3,g4,g5⟩
 ·omega
 ·subst g1;have hrl:row.length=sz:=q0 row (List.mem_of_getElem? hrow)
  have hnew:(row.take f++r++row.drop (f+m)).length=sz:=by simp[hl,hrl];omega
  have hx':ev ρ x=.pointer (some ⟨b,k*sz+f,none⟩):=by rw[hx];simp[aB,aO]
  have hks:k*sz+sz≤cur.size:=by
   rw[g4,show k*sz+sz=(k+1)*sz from by rw[Nat.add_mul];omega];exact Nat.mul_le_mul_right _ (by omega)
  have hfit:k*sz+f+0+r.length≤cur.size:=by rw[hl];omega
  have hst:=run_storeCells_at P b (k*sz+f) E r 0 cur w g3 hfit (fun u hu=>(List.all_eq_true.1 h1) u hu)
  simp only[Nat.add_zero]at hst
  have hsz:v.cells.size=m:=by rw[←hl,←hv];simp
  have hr:(execOp (ev ρ) ⟨d,.store T x y,ty,pos,es,g⟩).run P w=.ok .skip (w.setRow b (cur.toList.take (k*sz+f)++r++cur.toList.drop (k*sz+f+r.length)).toArray):=by
   cases hq:P.info? T with
   | none=>simp[hq]at hn
   | some q=>
    have hs:q.size=m:=by simpa[hq] using hn
    have hz:(Go.sizeOf T).run P w=.ok m w:=by simp[Go.sizeOf,typeInfo,hq,hs]
    have hsv:(storeVar T ⟨b,k*sz+f,none⟩ v).run P w=.ok () (w.setRow b (cur.toList.take (k*sz+f)++r++cur.toList.drop (k*sz+f+r.length)).toArray):=by
     unfold storeVar;rw[Sem.run_bind,hz];simp only[Result.andThen_ok,hsz,ne_eq,not_true_eq_false,if_false,hv]
     exact hst
    simp only[execOp,hx',hy,Instr.storeAt,Instr.sureAddr,Sem.run_bind,Sem.run_pure,Result.andThen_ok,hsv]
  have hfin:=hk _ (hw.upd hi (w':=w.setRow b (cur.toList.take (k*sz+f)++r++cur.toList.drop (k*sz+f+r.length)).toArray) ⟨rfl,rfl,rfl,(by first|exact Nat.le_refl _|exact Nat.le_succ _),by simp⟩ fun bs hr' hnd hlt=>by
   unfold B6.own at hr' ⊢
   obtain⟨q0',a2,n2,c2,f1,f2,f3,f4,f5⟩:=hr';cases f1
   rcases f5 with⟨hc,_⟩|⟨b2,cur2,k1,k2,k3,k4,k5⟩
   ·omega
   ·cases k1
    rw[show hp w b=some (.cells cur E (0,0)) from g3]at k3;cases k3
    refine⟨bs,⟨?_,_,_,_,rfl,by simpa using f2,f3,f4,.inr ⟨b,_,rfl,k2,setRow_heap w b cur _ E _ g3,?_,?_⟩⟩,hnd,fun x hx=>⟨by have:=hlt x hx;simpa using this,.inl hx⟩,fun k' _ hne=>setRow_other w b k' _ (fun e=>hne (by simp[k2,e]))⟩
    ·intro r' hr';rcases List.mem_or_eq_of_mem_set hr' with h|rfl
     ·exact q0 r' h
     ·exact hnew
    ·simp only[List.size_toArray,List.length_append,List.length_take,List.length_drop,Array.length_toList];omega
    ·have hkn:k*sz+sz≤n*sz:=by rw[show k*sz+sz=(k+1)*sz from by rw[Nat.add_mul];omega];exact Nat.mul_le_mul_right _ (by omega)
     have hns:n*sz≤cur.toList.length:=by rw[Array.length_toList,g4];exact Nat.mul_le_mul_right _ e3
     have e0:=X4 (k:=k) (r:=row) q0 hrl (by omega)
     have e9:rows.set k row=rows:=by
      refine List.ext_getElem? fun i=>?_
      rw[List.getElem?_set];split
      ·rename_i h;subst h;rw[hrow];simp;omega
      ·rfl
     rw[e9]at e0;rw[X4 q0 hnew (by omega),←g5]
     have hrw:row=(cur.toList.drop (k*sz)).take sz:=by
      have:row=((cur.toList.take (n*sz)).drop (k*sz)).take sz:=by
       rw[g5,e0,List.append_assoc,List.drop_append_of_le_length (by rw[List.length_take,←g5,List.length_take];omega)]
       have:((rows.flatten.take (k*sz)).drop (k*sz))=[]:=by rw[List.drop_eq_nil_iff,List.length_take];omega
       rw[this,List.nil_append,List.take_append_of_le_length (by omega),List.take_of_length_le (by omega)]
      rw[this,List.drop_take,List.take_take,Nat.min_eq_left (by omega)]
     rw[hrw];exact VT hkn hns hl hfm
    )
  unfold Step;rw[hr];exact hfin
theorem Jf{E k f i m mm c sz:Nat}{a:Option Addr}{r row:List Value}{rows:List (List Value)}[hn:Ti P T m](h:∀w',Wd Γ (S.set i (.own (.slice a mm c) E sz (rows.set k (row.take f++r++row.drop (f+m))))) w'→L P n opa QQ rest ρ w')(hrow:rows[k]? = some row)(hw:Wd Γ S w:=by exact hw)(hx:ev ρ x=.pointer (some ⟨aB a,aO a+k*sz+f,none⟩):=by exact rfl)
  (hy:ev ρ y=v:=by exact j4) (hv:v.cells.toList=r:=by exact rfl) (hl:r.length=m:=by exact rfl) (h1:r.all (·.oneCell')=true:=by exact rfl) (hi:S[i]? = some (.own (.slice a mm c) E sz rows):=by exact GZ) (hk:k<mm:=by omega) (hfm:f+m≤sz:=by omega) :
  L P n opa QQ (⟨none,.store T x y,ty,pos,es,none⟩::rest) ρ w:=H5 rfl rfl (LE hn.h hw hx hy hv hl h1 hi hk hrow hfm h)
end
attribute [local irreducible] Calls
theorem dT{P:Program}{n id:Nat}{c:Code}{K:Fr→World→Prop}{Q:Exit→Fr→World→Prop}{ρ:Fr}{w:World}(I:Fr→World→Prop)(h1:W P n c (Qu id (RX I Q)) ρ w)(h2:∀ρ w,I ρ w→K ρ w):W P n c (Qu id (RX K Q)) ρ w:=
 h1.mono fun e ρ w h=>by
  cases e with
  | normal=>exact h2 ρ w h
  | exit i=>
   simp only[Qu]at h ⊢
   split <;> rename_i hi <;> simp only[hi,if_true,if_false]at h
   ·exact h2 ρ w h
   ·exact h
  | _=>exact h
theorem JA{P:Program}{n:Nat}{c:Code}{K:Fr→World→Prop}{Q:Exit→Fr→World→Prop}{ρ:Fr}{w:World}(I:Fr→World→Prop)(h1:W P n c (RX I Q) ρ w)(h2:∀ρ w,I ρ w→K ρ w):W P n c (RX K Q) ρ w:=
 h1.mono fun e ρ w h=>by
  cases e with
  | normal=>exact h2 ρ w h
  | _=>exact h
section
variable {P:Program}{n:Nat}{ops:List Oper}{Γ:C8}{K:List B6}{wr tc stab:List (List Nat)}{Q:Fr→World→Prop}{i:Nat}{rest:List Oper}{ρ:Fr}{w:World}{M:Nat→Fr→List B6}{v:Value}{T T':Type}{o:Oper}
variable {ty:TypeId}{pos:String}{es:Array Edge}
theorem VA{a b d:Fr→List B6}:ML [a,b,d] 1=b:=rfl
theorem CX{a b d:Fr→List B6}:ML [a,b,d] 2=d:=rfl
theorem p7{φ:T→Fr→Prop}{R:T→List B6}{g:Fr}{Z:List B6}(h:Wd Γ (T4 φ R g++Z) w):∃t,φ t g∧Wd Γ (R t++Z) w:=by
 obtain⟨⟨t,ht⟩,hw⟩:=Wd.openEx (S:=Z) h
 exact⟨t,ht,hw⟩
theorem Ag{φ:T→Fr→Prop}{R:T→List B6}{g:Fr}{Z:List B6}(t:T)(ht:φ t g)(h:Wd Γ (R t++Z) w):Wd Γ (T4 φ R g++Z) w:=
 Wd.closeEx (X:=fun p:{t:T // φ t g}=>R p.1) ⟨t,ht⟩ h
theorem mM2{c c2:Nat}(m m2:Fr→List B6)(hs:∀Y w g,Wd Γ (K++(F4 tc stab i M g++Y)) w→Step P o (E8 stab.flatten g ρ) w fun u w'=>Wd Γ (K++(F4 tc stab i (M1 (M1 M c m) c2 m2) (D6 g o.dst u)++Y)) w'∧(Y7 stab o.dst=false→u=v))
  (h:MSw (mV P n ops Γ K wr tc stab) Q (i+1) rest ⟨D6 ρ o.dst v,M1 (M1 M c m) c2 m2⟩) (hw0:wr.getD i []=[c,c2]) (hg:o.guard=none):MSw (mV P n ops Γ K wr tc stab) Q i (o::rest) ⟨ρ,M⟩:=by
 have hn:Mt.nxt (mV P n ops Γ K wr tc stab) i ⟨ρ,M⟩ ⟨v,M1 (M1 M c m) c2 m2⟩=M1 (M1 M c m) c2 m2:=by
  funext y
  simp only[Mt.nxt,Y5.w,hw0]
  unfold M1;by_cases h1:y=c <;> by_cases h2:y=c2 <;> simp[h1,h2]
 refine⟨⟨v,M1 (M1 M c m) c2 m2⟩,⟨fun Γ' Y w g hr hw=>?_⟩,?_⟩
 ·have hΓ:Γ'=Γ:=hr
  subst hΓ;rw[hn];refine⟨fun _=>(hs Y w g hw).mono fun u w' ⟨h1,h2⟩=>⟨Γ',rfl,h1,h2⟩,fun hf=>?_⟩
  rw[g7 hg]at hf;cases hf
 ·simp only[Mt.next,hn];exact h
theorem mS{c:Nat}{F:Fr→List B6}(F':Fr→List B6)
  (hs:∀g w Y,Wd Γ (F (E8 (stab.getD c []) g D5)++(K++Y)) w→Step P o (E8 stab.flatten g ρ) w fun u w'=>(Y7 stab o.dst=false→u=v)∧Wd Γ (F' (E8 (stab.getD c []) (D6 g o.dst u) D5)++(K++Y)) w')
  (h:MSw (mV P n ops Γ K wr tc stab) Q (i+1) rest ⟨D6 ρ o.dst v,M1 M c F'⟩) (hM:M c=F:=by first|exact C6|exact VA|exact CX|exact((A9 (by decide)).trans C6)|exact((A9 (by decide)).trans CX)|exact((A9 (by decide)).trans ((A9 (by decide)).trans CX))|exact((A9 (by decide)).trans ((A9 (by decide)).trans ((A9 (by decide)).trans CX)))|exact((A9 (by decide)).trans ((A9 (by decide)).trans C6))|exact rfl) (hw0:wr.getD i []=[c]:=by exact rfl) (ht:tc.getD i []=[c]:=by exact rfl) (hg:o.guard=none:=by exact rfl) :
  MSw (mV P n ops Γ K wr tc stab) Q i (o::rest) ⟨ρ,M⟩:=by
 refine mM _ (fun Y w g hw=>?_) h hw0 hg
 rw[Q7 ht,hM]at hw;refine(hs g w Y hw.swapApp).mono ?_
 rintro u w' ⟨h2,h3⟩
 refine⟨?_,h2⟩
 rw[Q7 ht,C6];exact h3.swapApp
theorem mS2{c c2:Nat}{F G:Fr→List B6}(F' G':Fr→List B6)
  (hs:∀g w Y,Wd Γ (F (E8 (stab.getD c []) g D5)++(G (E8 (stab.getD c2 []) g D5)++(K++Y))) w→Step P o (E8 stab.flatten g ρ) w fun u w'=>(Y7 stab o.dst=false→u=v)∧Wd Γ (F' (E8 (stab.getD c []) (D6 g o.dst u) D5)++(G' (E8 (stab.getD c2 []) (D6 g o.dst u) D5)++(K++Y))) w')
  (h:MSw (mV P n ops Γ K wr tc stab) Q (i+1) rest ⟨D6 ρ o.dst v,M1 (M1 M c F') c2 G'⟩) (hM:M c=F:=by first|exact C6|exact VA|exact CX|exact((A9 (by decide)).trans C6)|exact((A9 (by decide)).trans CX)|exact((A9 (by decide)).trans ((A9 (by decide)).trans CX))|exact((A9 (by decide)).trans ((A9 (by decide)).trans ((A9 (by decide)).trans CX)))|exact((A9 (by decide)).trans ((A9 (by decide)).trans C6))|exact rfl) (hM2:M c2=G:=by first|exact C6|exact VA|exact CX|exact((A9 (by decide)).trans C6)|exact((A9 (by decide)).trans CX)|exact((A9 (by decide)).trans ((A9 (by decide)).trans CX))|exact((A9 (by decide)).trans ((A9 (by decide)).trans ((A9 (by decide)).trans CX)))|exact((A9 (by decide)).trans ((A9 (by decide)).trans C6))|exact rfl) (hw0:wr.getD i []=[c,c2]:=by exact rfl) (ht:tc.getD i []=[c,c2]:=by exact rfl) (hcc:Nat.beq c c2=false:=by exact rfl) (hg:o.guard=none:=by exact rfl) :
  MSw (mV P n ops Γ K wr tc stab) Q i (o::rest) ⟨ρ,M⟩:=by
 have hne:c≠c2:=fun e=>by subst e;simp at hcc
 refine mM2 _ _ (fun Y w g hw=>?_) h hw0 hg
 rw[HL ht,hM,hM2]at hw;have S3:=(hw.perm (by rw[List.append_assoc];exact(List.perm_append_comm_assoc _ _ _).trans (List.Perm.append_left _ (List.perm_append_comm_assoc _ _ _)))  : Wd Γ (F (E8 (stab.getD c []) g D5)++(G (E8 (stab.getD c2 []) g D5)++(K++Y))) w)
 refine(hs g w Y S3).mono ?_
 rintro u w' ⟨h2,h3⟩
 refine⟨?_,h2⟩
 rw[HL ht,C6,A9 hne,C6];exact h3.perm (by rw[List.append_assoc];exact((List.perm_append_comm_assoc _ _ _).trans (List.Perm.append_left _ (List.perm_append_comm_assoc _ _ _))).symm)
theorem EW{c dd E by' len sz:Nat}{zs:List Value}{parts:Array (Nat×Operand)}{TT:TypeId}{φ:T→Fr→Prop}{R:T→List B6}(rws:T→List (List Value))[TL P TT E sz by' zs]
  (h:MSw (mV P n ops Γ K wr tc stab) Q (i+1) rest ⟨D6 ρ (some dd) undef,M1 M c (T4 (fun (p:T×Addr) g=>φ p.1 g∧g dd=.slice (some p.2) len len) fun p=>.own (.slice (some p.2) len len) E sz (rws p.1)::R p.1)⟩)
  (hf:∀t g,φ t (E8 (stab.getD c []) g D5)→r8 (fun i=>some (i*sz,sz)) ((List.range (len*sz)).map fun i=>zs.getD (i%sz) undef) (parts.toList.map fun p=>(p.1,ev (E8 stab.flatten g ρ) p.2))=some (rws t).flatten)
  (hw0:wr.getD i []=[c]:=by exact rfl) (ht:tc.getD i []=[c]:=by exact rfl) (hM:M c=T4 φ R:=by first|exact C6|exact VA|exact CX|exact((A9 (by decide)).trans C6)|exact((A9 (by decide)).trans CX)|exact((A9 (by decide)).trans ((A9 (by decide)).trans CX))|exact((A9 (by decide)).trans ((A9 (by decide)).trans ((A9 (by decide)).trans CX)))|exact((A9 (by decide)).trans ((A9 (by decide)).trans C6))|exact rfl) (hφ:∀t g u,φ t (E8 (stab.getD c []) g D5)→φ t (E8 (stab.getD c []) (D6 g (some dd) u) D5):=by intro t g u h;exact h)
  (hlen:∀t,(rws t).length=len:=by intro t;rfl) (hr:∀t,(rws t).all (fun r=>Nat.beq r.length sz)=true:=by intro t;rfl) (hbig:Nat.ble (len*sz) 16777216=true:=by exact rfl)
  (hs:(stab.getD c []).contains dd=true:=by exact rfl) (hfr:Y7 stab (some dd)=true:=by exact rfl) :
  MSw (mV P n ops Γ K wr tc stab) Q i (⟨some dd,.buildSlice TT len parts,ty,pos,es,none⟩::rest) ⟨ρ,M⟩:=
 mS (v:=undef) (T4 (fun (p:T×Addr) g=>φ p.1 g∧g dd=.slice (some p.2) len len) fun p=>.own (.slice (some p.2) len len) E sz (rws p.1)::R p.1) (fun g w Y hw=>by
  obtain⟨t,h1,hw⟩:=p7 hw
  refine R4 (rws:=rws t) hw (hf t g h1) rfl (hlen t) (fun r hm=>Nat.eq_of_beq_eq_true ((List.all_eq_true.1 (hr t)) r hm)) (Nat.le_of_ble_eq_true hbig) fun a w' hw'=>⟨fun hh=>(by rw[hfr]at hh;cases hh),Ag (t,a) ⟨hφ t g _ h1,?_⟩ hw'⟩
  rw[K0 (by simpa using hs)];exact upd_same _ _ _) h hM hw0 ht rfl
theorem dZ{c dd:Nat}{op:Op}{φ:T→Fr→Prop}{R:T→List B6}(u:T→Value)
  (hy:∀t g w Y,φ t (E8 (stab.getD c []) g D5)→Wd Γ (R t++(K++Y)) w→Yields P ⟨some dd,op,ty,pos,es,none⟩ (E8 stab.flatten g ρ) w (u t))
  (h:MSw (mV P n ops Γ K wr tc stab) Q (i+1) rest ⟨D6 ρ (some dd) undef,M1 M c (T4 (fun t g=>φ t g∧g dd=u t) R)⟩)
  (hw0:wr.getD i []=[c]:=by exact rfl) (ht:tc.getD i []=[c]:=by exact rfl) (hM:M c=T4 φ R:=by first|exact C6|exact VA|exact CX|exact((A9 (by decide)).trans C6)|exact((A9 (by decide)).trans CX)|exact((A9 (by decide)).trans ((A9 (by decide)).trans CX))|exact((A9 (by decide)).trans ((A9 (by decide)).trans ((A9 (by decide)).trans CX)))|exact((A9 (by decide)).trans ((A9 (by decide)).trans C6))|exact rfl) (hφ:∀t g u,φ t (E8 (stab.getD c []) g D5)→φ t (E8 (stab.getD c []) (D6 g (some dd) u) D5):=by intro t g u h;exact h)
  (hs:(stab.getD c []).contains dd=true:=by exact rfl) (hfr:Y7 stab (some dd)=true:=by exact rfl) :
  MSw (mV P n ops Γ K wr tc stab) Q i (⟨some dd,op,ty,pos,es,none⟩::rest) ⟨ρ,M⟩:=
 mS (v:=undef) (T4 (fun t g=>φ t g∧g dd=u t) R) (fun g w Y hw=>by
  obtain⟨t,h1,hw⟩:=p7 hw
  refine(hy t g w Y h1 hw).step ⟨fun hh=>(by rw[hfr]at hh;cases hh),Ag t ⟨hφ t g _ h1,?_⟩ hw⟩
  rw[K0 (by simpa using hs)];exact upd_same _ _ _) h hM hw0 ht rfl
theorem LJ{c dd j j2 E by' sz m cc m2 c2:Nat}{zs:List Value}{a:Option Addr}{rows:List (List Value)}{TT:TypeId}{x y:Operand}{φ:T→Fr→Prop}{R:T→List B6}(a2:T→Option Addr)(rows2:T→List (List Value))[TL P TT E sz by' zs]
  (h:MSw (mV P n ops Γ K wr tc stab) Q (i+1) rest ⟨D6 ρ (some dd) undef,M1 M c (T4 (fun (p:T×Value) g=>φ p.1 g∧g dd=p.2) fun p=>(R p.1).set j (.own p.2 E sz (rows++rows2 p.1)))⟩)
  (hy:∀t g,φ t (E8 (stab.getD c []) g D5)→ev (E8 stab.flatten g ρ) y=.slice (a2 t) m2 c2) (hw0:wr.getD i []=[c]:=by exact rfl) (ht:tc.getD i []=[c]:=by exact rfl) (hM:M c=T4 φ R:=by first|exact C6|exact VA|exact CX|exact((A9 (by decide)).trans C6)|exact((A9 (by decide)).trans CX)|exact((A9 (by decide)).trans ((A9 (by decide)).trans CX))|exact((A9 (by decide)).trans ((A9 (by decide)).trans ((A9 (by decide)).trans CX)))|exact((A9 (by decide)).trans ((A9 (by decide)).trans C6))|exact rfl) (hj:∀t,(R t)[j]? = some (.own (.slice a m cc) E sz rows):=by intro t;exact rfl) (hj2:∀t,(R t)[j2]? = some (.own (.slice (a2 t) m2 c2) E sz (rows2 t)):=by intro t;exact rfl)
  (h1:∀t,(rows2 t).flatten.all (·.oneCell')=true:=by intro t;rfl) (hx:∀g,ev (E8 stab.flatten g ρ) x=.slice a m cc:=by intro g;exact rfl)
  (hφ:∀t g u,φ t (E8 (stab.getD c []) g D5)→φ t (E8 (stab.getD c []) (D6 g (some dd) u) D5):=by intro t g u h;exact h)
  (hb:(m+m2)*by'≤140737488355328:=by omega) (h63:m+m2≤9223372036854775807:=by omega) (hl2:∀t,m2=(rows2 t).length:=by intro t;rfl)
  (hs:(stab.getD c []).contains dd=true:=by exact rfl) (hfr:Y7 stab (some dd)=true:=by exact rfl) :
  MSw (mV P n ops Γ K wr tc stab) Q i (⟨some dd,.call { callee:=.builtin .append,args:=#[x,y],argTypes:=#[TT,TT] },ty,pos,es,none⟩::rest) ⟨ρ,M⟩:=
 mS (v:=undef) (T4 (fun (p:T×Value) g=>φ p.1 g∧g dd=p.2) fun p=>(R p.1).set j (.own p.2 E sz (rows++rows2 p.1))) (fun g w Y hw=>by
  obtain⟨t,ht1,hw⟩:=p7 hw
  have hjl:j<(R t).length:=(List.getElem?_eq_some_iff.1 (hj t)).1
  have hjl2:j2<(R t).length:=(List.getElem?_eq_some_iff.1 (hj2 t)).1
  have hi:(R t++(K++Y))[j]? = some (.own (.slice a m cc) E sz rows):=by rw[List.getElem?_append_left hjl];exact hj t
  have hi2:(R t++(K++Y))[j2]? = some (.own (.slice (a2 t) m2 c2) E sz (rows2 t)):=by rw[List.getElem?_append_left hjl2];exact hj2 t
  refine EH hw (hx g) (hy t g ht1) hi (hw.own_rd hi2) (hl2 t) (fun u hu=>(List.all_eq_true.1 (h1 t)) u hu) hb h63 fun v' w' hw'=>⟨fun hh=>(by rw[hfr]at hh;cases hh),Ag (t,v') ⟨hφ t g _ ht1,?_⟩ ?_⟩
  ·rw[K0 (by simpa using hs)];exact upd_same _ _ _
  ·rw[List.set_append_left _ _ hjl]at hw';exact hw') h hM hw0 ht rfl
theorem HX{c0 c b ob dv j:Nat}{cs:Array Value}{E E2 eg:Nat}{TT:TypeId}{x:Operand}{φ:T→Fr→Prop}{R:T→List B6}{val:T→Value}{rows:T→List (List Value)}[hn:Ti P TT 1]
  (h:MSw (mV P n ops Γ K wr tc stab) Q (i+1) rest ⟨ρ,M1 (M1 M c0 fun _=>[]) c (T4 φ fun t=>.blk b (.cells (putCells cs ob [val t]) E)::R t)⟩)
  (hv:∀t g,φ t (E8 (stab.getD c []) g D5)→ev (E8 stab.flatten g ρ) (.tmp dv)=val t) (hw0:wr.getD i []=[c0,c]:=by exact rfl) (ht:tc.getD i []=[c0,c]:=by exact rfl) (hcc:Nat.beq c0 c=false:=by exact rfl) (hM2:M c=T4 φ R:=by first|exact C6|exact VA|exact CX|exact((A9 (by decide)).trans C6)|exact((A9 (by decide)).trans CX)|exact((A9 (by decide)).trans ((A9 (by decide)).trans CX))|exact((A9 (by decide)).trans ((A9 (by decide)).trans ((A9 (by decide)).trans CX)))|exact((A9 (by decide)).trans ((A9 (by decide)).trans C6))|exact rfl) (hj:∀t,(R t)[j]? = some (.own (val t) E2 eg (rows t)):=by intro t;exact rfl) (hx:∀g,ev (E8 stab.flatten g ρ) x=.pointer (some ⟨b,ob,none⟩):=by intro g;exact rfl)
  (hM:M c0=(fun _=>[.blk b (.cells cs E)]):=by exact rfl) (ho:ob+1≤cs.size:=by exact Nat.le_of_ble_eq_true rfl) :
  MSw (mV P n ops Γ K wr tc stab) Q i (⟨none,.store TT x (.tmp dv),ty,pos,es,none⟩::rest) ⟨ρ,M⟩:=
 mS2 (v:=undef) (fun _=>[]) (T4 φ fun t=>.blk b (.cells (putCells cs ob [val t]) E)::R t) (fun g w Y hw=>by
  have ES:Wd Γ (T4 φ R (E8 (stab.getD c []) g D5)++(.blk b (.cells cs E)::(K++Y))) w:=hw.perm (List.perm_append_comm_assoc _ _ _)
  obtain⟨t,ht1,hw⟩:=p7 ES
  have hw:Wd Γ (.blk b (.cells cs E)::(R t++(K++Y))) w:=hw.perm List.perm_middle
  have hjl:j<(R t).length:=(List.getElem?_eq_some_iff.1 (hj t)).1
  obtain⟨q1,q2,q3,e1,-,-,-⟩:=hw.own_shape (i:=j+1) (v:=val t) (e:=E2) (sz:=eg) (rows:=rows t) (by rw[List.getElem?_cons_succ,List.getElem?_append_left hjl];exact hj t)
  refine AR hn.h hw (hx g) (hv t g ht1) (vs:=[val t]) (by rw[e1];rfl) rfl (fun u hu=>by simp at hu;subst hu;rw[e1];rfl) (i:=0) rfl ho fun w' hw'=>⟨fun _=>rfl,?_⟩
  exact Ag (R:=fun t=>.blk b (.cells (putCells cs ob [val t]) E)::R t) t ht1 hw') h hM hM2 hw0 ht hcc rfl
theorem Gw{id:Nat}{l:List Oper}{QQ:Exit→Fr→World→Prop}(K X0 X1 X2:List B6)(N1 N2:List Nat)(wr tc:List (List Nat))(hw:Wd Γ (K++(X0++(X1++X2))) w)
  (h:MSw (mV P n l Γ K wr tc [[],N1,N2]) (fun ρ w=>QQ .normal ρ w) 0 l ⟨ρ,ML [fun _=>X0,T4 (T:=Unit) (fun _ _=>True) (fun _=>X1),T4 (T:=Unit) (fun _ _=>True) (fun _=>X2)]⟩)
  (hm:P.follows .mixedOrders=true:=by kernel_rfl) (hk:R6 n l wr tc [[],N1,N2]=true:=by kernel_rfl):W P n (.region id l.toArray true) QQ ρ w:=
 U0 K [fun _=>X0,T4 (T:=Unit) (fun _ _=>True) (fun _=>X1),T4 (T:=Unit) (fun _ _=>True) (fun _=>X2)] wr tc [[],N1,N2] (by
  show Wd Γ (K++(X0++(T4 (T:=Unit) (fun _ _=>True) (fun _=>X1) (E8 N1 ρ D5)++(T4 (T:=Unit) (fun _ _=>True) (fun _=>X2) (E8 N2 ρ D5)++[])))) w
  rw[List.append_nil];have h1:Wd Γ (X1++(X2++(K++X0))) w:=hw.perm (by
   rw[←List.append_assoc,←List.append_assoc X1];exact List.perm_append_comm)
  have h2:Wd Γ (T4 (T:=Unit) (fun _ _=>True) (fun _=>X1) (E8 N1 ρ D5)++(X2++(K++X0))) w:=Ag () trivial h1
  have h3:Wd Γ (X2++(T4 (T:=Unit) (fun _ _=>True) (fun _=>X1) (E8 N1 ρ D5)++(K++X0))) w:=h2.perm (List.perm_append_comm_assoc _ _ _)
  have h4:Wd Γ (T4 (T:=Unit) (fun _ _=>True) (fun _=>X2) (E8 N2 ρ D5)++(T4 (T:=Unit) (fun _ _=>True) (fun _=>X1) (E8 N1 ρ D5)++(K++X0))) w:=Ag () trivial h3
  have h5:Wd Γ (T4 (T:=Unit) (fun _ _=>True) (fun _=>X1) (E8 N1 ρ D5)++(T4 (T:=Unit) (fun _ _=>True) (fun _=>X2) (E8 N2 ρ D5)++(K++X0))) w:=h4.perm (List.perm_append_comm_assoc _ _ _)
  exact h5.perm (by
   rw[←List.append_assoc,←List.append_assoc K];exact List.perm_append_comm)) h hm hk
theorem Ll{N1 N2:List Nat}{φ:T→Fr→Prop}{R:T→List B6}(h:∀t w g,φ t (E8 N1 g D5)→Wd Γ (R t++K) w→Q (E8 [[],N1,N2].flatten g ρ) w)(hM0:M 0=fun _=>[]:=by exact rfl)(hM:M 1=T4 φ R:=by first|exact C6|exact VA|exact CX|exact((A9 (by decide)).trans C6)|exact((A9 (by decide)).trans CX)|exact((A9 (by decide)).trans ((A9 (by decide)).trans CX))|exact((A9 (by decide)).trans ((A9 (by decide)).trans ((A9 (by decide)).trans CX)))|exact((A9 (by decide)).trans ((A9 (by decide)).trans C6))|exact rfl):MSw (mV P n ops Γ K wr tc [[],N1,N2]) Q i [] ⟨ρ,M⟩:=
 V1 fun w g hw=>by
  have S3:Wd Γ (K++(M 0 (E8 [] g D5)++(M 1 (E8 N1 g D5)++(M 2 (E8 N2 g D5)++[])))) w:=hw
  rw[hM0,hM,List.nil_append]at S3;have ES:Wd Γ (T4 φ R (E8 N1 g D5)++(K++(M 2 (E8 N2 g D5)++[]))) w:=S3.swapApp
  obtain⟨t,ht,hw3⟩:=p7 ES
  exact h t w g ht (Wd.left (S:=R t++K) (by rw[List.append_assoc];exact hw3))
end
class PS(P:Program)(Γ:C8)(S:List B6)(f:Nat)(args:List Value)(v:outParam Value):Prop where
 h:∀Y w,Wd Γ (S++Y) w→Calls P f args.toArray w fun e w'=>e=.returned v∧Wd Γ (S++Y) w'
section
variable {P:Program}{n:Nat}{ops:List Oper}{opa:Array Oper}{Γ:C8}{S K:List B6}{Q:Fr→World→Prop}{QQ:Exit→Fr→World→Prop}{ρ:Fr}{w:World}{rest:List Oper}{wr tc stab:List (List Nat)}{i:Nat}{M:Nat→Fr→List B6}
variable {d:Option Tmp}{ty:TypeId}{pos:String}{es:Array Edge}{v:Value}{f:Nat}{args:List Operand}{tys:Array TypeId}{vs:List Value}{j dj:Nat}{want c:Bool}{g:Option (Nat×Bool)}
theorem fh{Y:List B6}[C7 P f](hp:PS P Γ S f vs v)(ha:EvL ρ args vs)(hw:Wd Γ (S++Y) w):Step P ⟨d,.call { callee:=.value (.func f),args:=args.toArray,argTypes:=tys },ty,pos,es,g⟩ ρ w fun u w'=>u=v∧Wd Γ (S++Y) w':=
 Ba ha.eqA ((hp.h Y w hw).mono fun _ _ ⟨h1,h2⟩=>⟨v,h1,rfl,h2⟩)
theorem fI[C7 P f](h:Qw P n ops Γ S Q rest (D6 ρ d v))(ha:EvL ρ args vs:=by exact AB)(hp:PS P Γ S f vs v:=by infer_instance) :
  Qw P n ops Γ S Q (⟨d,.call { callee:=.value (.func f),args:=args.toArray,argTypes:=tys },ty,pos,es,none⟩::rest) ρ:=
 fA rfl rfl (fun _ _ hw=>fh hp ha hw) h
theorem di[C7 P f](h:Qw P n ops Γ S Q rest (D6 ρ d (gv c v)))(hj:(ops[j]?).bind (·.dst)=some dj:=by exact rfl)(hc:F5 (ρ dj) want c:=by exact Hd)(ha:c=true→EvL ρ args vs:=by intro hc;exact Hj)(hp:PS P Γ S f vs v:=by infer_instance) :
  Qw P n ops Γ S Q (⟨d,.call { callee:=.value (.func f),args:=args.toArray,argTypes:=tys },ty,pos,es,some (j,want)⟩::rest) ρ:=
 bQ rfl hj hc rfl (fun ht _ _ hw=>fh hp (ha ht) hw) h
end
theorem VJ{zs:List Value}{sz:Nat}(hz:zs.length=sz)(h0:0<sz):∀n:Nat,(madeCells zs.toArray (n*sz)).toList=(List.replicate n zs).flatten:=fun n=>by
 unfold madeCells;simp only[Array.toList_map,Array.toList_range,List.size_toArray,hz]
 have hf:∀i:Nat,zs.toArray[i%sz]! = zs.getD (i%sz) undef:=fun i=>by
  have hlt:i%sz<zs.length:=by rw[hz];exact Nat.mod_lt _ h0
  rw[getElem!_pos (zs.toArray) _ (by simpa using hlt)]
  simp[List.getD_eq_getElem?_getD,List.getElem?_eq_getElem hlt]
 simp only[hf]
 induction n with
 | zero=>simp
 | succ n ih=>
  rw[show (n+1)*sz=sz+n*sz from by rw[Nat.add_mul];omega,List.range_add,List.map_append,List.map_map,List.replicate_succ,List.flatten_cons,←ih]
  congr 1
  ·refine List.ext_getElem? fun i=>?_
   rw[List.getElem?_map];by_cases hi:i<sz
   ·rw[List.getElem?_range hi];simp only[Option.map_some,Nat.mod_eq_of_lt hi]
    rw[List.getD_eq_getElem?_getD,List.getElem?_eq_getElem (by omega)];rfl
   ·rw[List.getElem?_eq_none (by simpa using hi),List.getElem?_eq_none (by omega)];rfl
  ·refine List.map_congr_left fun i _=>?_
   simp
section
variable {P:Program}{n:Nat}{opa:Array Oper}{Γ:C8}{S:List B6}{QQ:Exit→Fr→World→Prop}{ρ:Fr}{w:World}{rest:List Oper}{K:Value→World→Prop}
variable {d:Option Tmp}{T ty:TypeId}{pos:String}{es:Array Edge}{g:Option (Nat×Bool)}{x y:Operand}
theorem Pt{E by' len sz:Nat}{zs:List Value}[hT:TL P T E sz by' zs](hw:Wd Γ S w)(hx:ev ρ x=.int .i64 (len:Nat))(hy:ev ρ y=.int .i64 (len:Nat))(hb:(by':Int)*len≤281474976710656)(h63:(len:Int)≤9223372036854775807)
  (hk:∀a w',Wd Γ (.own (.slice (some a) len len) E sz (List.replicate len zs)::S) w'→K (.slice (some a) len len) w'):Step P ⟨d,.makeSlice T x y,ty,pos,es,g⟩ ρ w K:=by
 obtain⟨q,z,hq,hz,hzc⟩:=W6 hT.z
 obtain⟨q',hq',hs,hb'⟩:=W8 hT.s
 rw[hq]at hq';cases hq'
 have hrun:=run_make (P:=P) w T E q z hT.h hq hz .i64 .i64 (len:Int) (len:Int) (by omega) (Int.le_refl _) (by rw[hb'];exact hb) h63
 rw[hzc,hs]at hrun;have hr0:(execOp (ev ρ) ⟨d,.makeSlice T x y,ty,pos,es,g⟩).run P w=.ok (.value (.slice (some ⟨w.heap.size,0,none⟩) len len)) (w.alloc (.cells (madeCells zs.toArray (len*sz)) E)):=by
  simp only[execOp,hx,hy,Sem.run_bind,hrun,Result.andThen_ok,Int.toNat_natCast]
  rfl
 have hrows:=VJ hT.n.1 hT.n.2 len
 have hfin:=hk ⟨w.heap.size,0,none⟩ (w.alloc (.cells (madeCells zs.toArray (len*sz)) E)) (hw.add (bs:=[w.heap.size]) ⟨rfl,rfl,rfl,(by first|exact Nat.le_refl _|exact Nat.le_succ _),by simp⟩ (by
  unfold B6.own;refine⟨fun r hr=>by rw[List.eq_of_mem_replicate hr];exact hT.n.1,_,_,_,rfl,(by simp),Nat.le_refl _,by simp[maxLen];omega,.inr ⟨w.heap.size,madeCells zs.toArray (len*sz),rfl,rfl,heap_alloc_new w _,size_madeCells _ _,?_⟩⟩
  rw[hrows,List.take_of_length_le];rw[←hrows,Array.length_toList,size_madeCells];exact Nat.le_refl _) (by simp) (by simp) fun k hk=>heap_alloc_old w _ hk)
 unfold Step;rw[hr0];exact hfin
theorem FI{E by' len sz:Nat}{zs:List Value}[hT:TL P T E sz by' zs](h:∀a w',Wd Γ (.own (.slice (some a) len len) E sz (List.replicate len zs)::S) w'→L P n opa QQ rest (D6 ρ d (.slice (some a) len len)) w')
  (hw:Wd Γ S w:=by exact hw) (hx:ev ρ x=.int .i64 (len:Nat):=by exact rfl) (hy:ev ρ y=.int .i64 (len:Nat):=by exact rfl) (hb:(by':Int)*len≤281474976710656:=by omega) (h63:(len:Int)≤9223372036854775807:=by omega) (hd:G7 n d=true:=by exact rfl) :
  L P n opa QQ (⟨d,.makeSlice T x y,ty,pos,es,none⟩::rest) ρ w:=H5 rfl hd (Pt hw hx hy hb h63 h)
end
theorem bz{Γ:C8}{S:List B6}{w w':World}(h:Wd Γ S w)(h':Wd (Ai w) [] w'):Wd Γ S w':=by
 obtain⟨h1,h2,h3,h4,h5,bss,h6,h7,h8⟩:=h;obtain⟨k1,k2,k3,k4,k5,-⟩:=h';have hk:∀b∈bss.flatten,w'.heap[b]? = w.heap[b]?:=fun b hb=>by
  have hl:=(h8 b hb).1
  have e:w.heap[b]? = some w.heap[b]:=Array.getElem?_eq_getElem hl
  rw[e];exact k5 b _ e
 refine⟨k1.trans h1,k2.trans h2,k3.trans h3,Nat.le_trans h4 k4,fun b o hb=>k5 b o (h5 b o hb),bss,Holds.loc (fun b o h=>h) S bss (fun b hb=>hk b hb) h6,h7,fun b hb=>⟨?_,(h8 b hb).2⟩⟩
 have hl:=(h8 b hb).1
 have e:w.heap[b]? = some w.heap[b]:=Array.getElem?_eq_getElem hl
 have:=hk b hb
 rw[e]at this;exact(Array.getElem?_eq_some_iff.1 this).1
theorem NN{Γ Γ':C8}{w:World}(hle:Γ.le Γ')(h:Wd Γ' [] w):Wd Γ [] w:=by
 obtain⟨h1,h2,h3,h4,h5,-⟩:=h;exact⟨h1.trans hle.os,h2.trans hle.tape,h3.trans hle.out,by rw[←hle.dr];exact h4,fun b o hb=>h5 b o (hle.imm b o hb),[],trivial,by simp,by simp⟩
section
variable {P:Program}{n:Nat}{ops:List Oper}{Γ:C8}{K:List B6}{wr tc stab:List (List Nat)}{Q:Fr→World→Prop}{i:Nat}{rest:List Oper}{ρ:Fr}{M:Nat→Fr→List B6}
variable {d:Option Tmp}{op:Op}{ty:TypeId}{pos:String}{es:Array Edge}{j dj:Nat}{want:Bool}
end
section
variable {P:Program}{n:Nat}{ops:List Oper}{Γ:C8}{K:List B6}{wr tc stab:List (List Nat)}{Q:Fr→World→Prop}{i:Nat}{rest:List Oper}{ρ:Fr}{M:Nat→Fr→List B6}
variable {d:Option Tmp}{op:Op}{ty:TypeId}{pos:String}{es:Array Edge}{j dj:Nat}{want:Bool}
end
theorem RO{P:Program}{ρ:Fr}{w:World}{d:Option Tmp}{T ty:TypeId}{pos:String}{es:Array Edge}{g:Option (Nat×Bool)}{x:Operand}{k:IntKind}{a:Int}(hx:ev ρ x=.int k a):Yields P ⟨d,.unOp .neg T x,ty,pos,es,g⟩ ρ w (.int k (k.wrap (-a))):=by
 unfold Yields;simp[execOp,go_sem,hx,Op.unary,Op.intArith]
section
variable {P:Program}{n:Nat}{ops:List Oper}{Γ:C8}{K:List B6}{wr tc stab:List (List Nat)}{Q:Fr→World→Prop}{i:Nat}{rest:List Oper}{ρ:Fr}{M:Nat→Fr→List B6}
variable {d:Option Tmp}{ty:TypeId}{pos:String}{es:Array Edge}{f:Nat}{args:List Operand}{tys:Array TypeId}{vs:List Value}{v:Value}
theorem cJ{S:List B6}{t:Tmp}{cap:List Value}[C7 P f](hc:∀Y w,Wd Γ (S++Y) w→Calls P f (vs++cap).toArray w fun e w'=>e=.returned v∧Wd Γ (S++Y) w')(h:Qw P n ops Γ S Q rest (D6 ρ d v))(ht:ρ t=.func (.func f) #[] cap.toArray:=by exact rfl)(ha:EvL ρ args vs:=by exact AB) :
  Qw P n ops Γ S Q (⟨d,.call { callee:=.value (.tmp t),args:=args.toArray,argTypes:=tys },ty,pos,es,none⟩::rest) ρ:=
 fA rfl rfl (fun Y w hw=>Ic ht ha.eqA (by simpa using (hc Y w hw).mono fun e w' ⟨h1,h2⟩=>⟨v,h1,rfl,h2⟩)) h
theorem V5{S:List B6}{w:World}(hw:Wd Γ S w):Wd Γ [] w:=⟨hw.os,hw.tape,hw.out,hw.dr,hw.imm,[],trivial,by simp,by simp⟩
end
section
variable {P:Program}{n:Nat}{ops:List Oper}{Γ:C8}{K:List B6}{wr tc stab:List (List Nat)}{Q:Fr→World→Prop}{i:Nat}{rest:List Oper}{ρ:Fr}{M:Nat→Fr→List B6}
variable {d:Option Tmp}{ty:TypeId}{pos:String}{es:Array Edge}{f:Nat}{args:List Operand}{tys:Array TypeId}
theorem Ry{c:Nat}{F:Fr→List B6}(F':Fr→List B6)(vs:Fr→List Value)[C7 P f]
  (hs:∀g w Y,Wd Γ (F (E8 (stab.getD c []) g D5)++(K++Y)) w→Calls P f (vs (E8 (stab.getD c []) g D5)).toArray w fun e w'=>∃u,e=.returned u∧Wd Γ (F' (E8 (stab.getD c []) (D6 g d u) D5)++(K++Y)) w')
  (h:MSw (mV P n ops Γ K wr tc stab) Q (i+1) rest ⟨D6 ρ d undef,M1 M c F'⟩) (hM:M c=F:=by first|exact C6|exact VA|exact CX|exact((A9 (by decide)).trans C6)|exact rfl) (hw0:wr.getD i []=[c]:=by exact rfl) (ht:tc.getD i []=[c]:=by exact rfl) (hfr:Y7 stab d=true:=by exact rfl) (ha:∀g,EvL (E8 stab.flatten g ρ) args (vs (E8 (stab.getD c []) g D5)):=by intro g;exact AB) :
  MSw (mV P n ops Γ K wr tc stab) Q i (⟨d,.call { callee:=.value (.func f),args:=args.toArray,argTypes:=tys },ty,pos,es,none⟩::rest) ⟨ρ,M⟩:=
 mS (v:=undef) F' (fun g w Y hw=>Ba (ha g).eqA ((hs g w Y hw).mono fun e w' ⟨u,h1,h2⟩=>⟨u,h1,fun hh=>(by rw[hfr]at hh;cases hh),h2⟩)) h hM hw0 ht rfl
end
end Mk
end
section
open Go Mk
namespace Go.Proofs.YtlmiakjbogojgaaGreatDoor
def Tm(P:Program)(t:TypeId)(name:String):Option (Nat×Bool):=
 match P.info? t with
 | some i=>match i.methods.find? (·.name == name) with
  | some m=>if m.path.isEmpty then m.func else none
  | none=>none
 | none=>none
class SX(P:Program)(t:TypeId)(name:String)(f:outParam Nat):Prop where
 h:Tm P t name=some (f,true)
 e:∃u,P.underlying t=some (.pointer u)
class Rl(P:Program)(t:TypeId)(name:String)(f:outParam Nat)(u:outParam TypeId):Prop where
 h:Tm P t name=some (f,false)
 e:P.underlying t=some (.pointer u)
section
variable {P:Program}{t u:TypeId}{name:String}{f:Nat}{w:World}
theorem Jp{b:Bool}(h:Tm P t name=some (f,b)):∃i m,P.info? t=some i∧i.methods.find? (·.name == name)=some m∧m.path = #[]∧m.func=some (f,b):=by
 unfold Tm at h;cases hi:P.info? t with
 | none=>simp[hi]at h
 | some i=>
  simp only[hi]at h
  cases hm:i.methods.find? (·.name == name) with
  | none=>simp[hm]at h
  | some m=>
   simp only[hm]at h
   by_cases hp:m.path.isEmpty=true
   ·rw[if_pos hp]at h;exact⟨i,m,rfl,hm,by simpa using hp,h⟩
   ·rw[if_neg hp]at h;cases h
theorem JL:∃k,P.types.size+Made.depth=k+1:=⟨P.types.size+Made.depth-1,by unfold Made.depth;omega⟩
theorem XT[hm:SX P t name f]{v:Value}:(method (P.types.size+Made.depth) t v name).run P w=.ok (f,v) w:=by
 obtain⟨u,hu⟩:=hm.e;obtain⟨i,m,hi,hf,hp,hg⟩:=Jp hm.h
 obtain⟨k,hk⟩:=JL (P:=P)
 rw[hk];unfold method;simp only[Sem.run_bind,typeInfo]
 simp[hi,hf,hp,hg,follow,receiverAt,run_underlying hu,Place.get]
theorem Oj{T U:TypeId}{a:Addr}{s m:String}:(Builtin.ssaWrapNilChk_ #[T] U #[.pointer (some a),strVal s,strVal m]).run P w=.ok (.pointer (some a)) w:=rfl
theorem QE[hm:Rl P t name f u]{a:Addr}{x:Value}(hl:(loadVar u a).run P w=.ok x w):(method (P.types.size+Made.depth) t (.pointer (some a)) name).run P w=.ok (f,x) w:=by
 obtain⟨i,m,hi,hf,hp,hg⟩:=Jp hm.h
 obtain⟨k,hk⟩:=JL (P:=P)
 rw[hk];unfold method;simp only[Sem.run_bind,typeInfo]
 simp[hi,hf,hp,hg,follow,receiverAt,run_underlying hm.e,Place.get,Oj,asAddr,hl]
variable {n:Nat}{opa:Array Oper}{QQ:Exit→Fr→World→Prop}{ρ:Fr}{rest:List Oper}{K:Value→World→Prop}
variable {d:Option Tmp}{ty:TypeId}{pos:String}{es:Array Edge}{args:List Operand}{tys:Array TypeId}{vs:List Value}{r:Operand}{g:Option (Nat×Bool)}
theorem WV{v:Value}{x:Value}[C7 P f](hr:ev ρ r=.iface t v)(hm:(method (P.types.size+Made.depth) t v name).run P w=.ok (f,x) w)(ha:args.toArray.map (ev ρ)=vs.toArray)(hc:Calls P f (x::vs).toArray w fun e w'=>∃v,e=.returned v∧K v w') :
  Step P ⟨d,.call { callee:=.invoke r name,args:=args.toArray,argTypes:=tys },ty,pos,es,g⟩ ρ w K:=by
 have hx:(#[x]++vs.toArray:Array Value)=(x::vs).toArray:=by simp
 have hr:(execOp (ev ρ) ⟨d,.call { callee:=.invoke r name,args:=args.toArray,argTypes:=tys },ty,pos,es,g⟩).run P w=.ok (.enter f (x::vs).toArray) w:=by
  have hq:∀l:Array Value,(#[Value.iface t v]++l)[0]? = some (Value.iface t v):=fun l=>by rw[Array.getElem?_append_left (by simp)];rfl
  have hq2:∀l:Array Value,(#[Value.iface t v]++l).extract 1 (#[Value.iface t v]++l).size=l:=fun l=>by
   apply Array.ext' ; simp
  simp only[execOp,resolve,ha,hr,Sem.run_bind,Sem.run_pure,Result.andThen_ok,invoke]
  simp only[hq,hq2,callMethod,Sem.run_bind,run_program,Result.andThen_ok,hm]
  simp only[hx]
  simp[R3]
 unfold Step;rw[hr];exact hc
theorem UV{v:Value}[SX P t name f][C7 P f](hc:Calls P f (v::vs).toArray w fun e w'=>∃v,e=.returned v∧L P n opa QQ rest (D6 ρ d v) w')(hr:ev ρ r=.iface t v:=by exact rfl)(ha:EvL ρ args vs:=by exact AB)(hd:G7 n d=true:=by exact rfl) :
  L P n opa QQ (⟨d,.call { callee:=.invoke r name,args:=args.toArray,argTypes:=tys },ty,pos,es,none⟩::rest) ρ w:=H5 rfl hd (WV hr XT ha.eqA hc)
theorem Pk{a:Addr}{x:Value}[Rl P t name f u][C7 P f](hl:(loadVar u a).run P w=.ok x w)(hc:Calls P f (x::vs).toArray w fun e w'=>∃v,e=.returned v∧L P n opa QQ rest (D6 ρ d v) w')(hr:ev ρ r=.iface t (.pointer (some a)):=by exact rfl)(ha:EvL ρ args vs:=by exact AB)(hd:G7 n d=true:=by exact rfl) :
  L P n opa QQ (⟨d,.call { callee:=.invoke r name,args:=args.toArray,argTypes:=tys },ty,pos,es,none⟩::rest) ρ w:=H5 rfl hd (WV hr (QE hl) ha.eqA hc)
theorem MV{b:Nat}{o:Nat}{x:Value}{Γ:C8}{S:List B6}{i:Nat}{cs:Array Value}{E:TypeId}[hs:TS P u](hw:Wd Γ S w)(hi:S[i]? = some (.blk b (.cells cs E)))(hc:cs[o]? = some x):(loadVar u ⟨b,o,none⟩).run P w=.ok x w:=by
 have:=cell_of (hw.at_blk hi) hc
 simp[loadVar,go_sem,w4 hs.h,this]
theorem PX{T U:TypeId}{v:Value}{fs:Array Field}{xx:Operand}(hu:P.underlying U=some (.struct fs))(hx:ev ρ xx=.iface U v):Mk.Yields P ⟨d,.typeAssert xx T U false,ty,pos,es,g⟩ ρ w v:=by
 unfold Mk.Yields;simp[execOp,hx,Instr.typeAssert,run_underlying hu,Sem.run_bind,Sem.run_pure,Result.andThen]
theorem cq{Γ:C8}{S Y:List B6}{a:Addr}{x v:Value}[Rl P t name f u][C7 P f](hp:PS P Γ S f (x::vs) v)(hl:(loadVar u a).run P w=.ok x w)(h:∀w',Wd Γ (S++Y) w'→L P n opa QQ rest (D6 ρ d v) w')(hw:Wd Γ (S++Y) w:=by exact hw)(hd:G7 n d=true:=by exact rfl)(hr:ev ρ r=.iface t (.pointer (some a)):=by exact rfl)(ha:EvL ρ args vs:=by exact AB) :
  L P n opa QQ (⟨d,.call { callee:=.invoke r name,args:=args.toArray,argTypes:=tys },ty,pos,es,none⟩::rest) ρ w:=
 H5 rfl hd (WV hr (QE hl) ha.eqA ((hp.h Y w hw).mono fun _ w' ⟨h1,h2⟩=>⟨v,h1,h w' h2⟩))
theorem Xn{Γ:C8}{S Y:List B6}{a:Addr}{x v:Value}{j dj:Nat}{want c:Bool}[Rl P t name f u][C7 P f](hp:c=true→PS P Γ S f (x::vs) v)(hl:(loadVar u a).run P w=.ok x w)(h:∀w',Wd Γ (S++Y) w'→L P n opa QQ rest (D6 ρ d (gv c v)) w')(hw:Wd Γ (S++Y) w:=by exact hw)(hj:(opa[j]?).bind (·.dst)=some dj:=by exact rfl)(hjn:G7 n (some dj)=true:=by exact rfl)(hc:F5 (ρ dj) want c:=by exact Hd)(hd:G7 n d=true:=by exact rfl)(hr:c=true→ev ρ r=.iface t (.pointer (some a)):=by intro hc;exact B4)(ha:c=true→EvL ρ args vs:=by intro hc;exact Hj) :
  L P n opa QQ (⟨d,.call { callee:=.invoke r name,args:=args.toArray,argTypes:=tys },ty,pos,es,some (j,want)⟩::rest) ρ w:=
 gQ hj hjn hd hc (fun hct=>cq (hp hct) hl (fun w' hw'=>by have:=h w' hw';rwa [Bi hct rfl]at this) hw hd (hr hct) (ha hct)) (fun hcf=>by have:=h w hw;rwa [show gv c v=undef from by rw[hcf];unfold gv;rfl]at this)
def Tb(P:Program)(T:TypeId):Bool:=match P.underlying T with
 | some (.interface _)=>false
 | some _=>true
 | none=>false
class dO(P:Program)(T:TypeId):Prop where h:Tb P T=true
theorem R1{T:TypeId}{v:Value}{xx:Operand}[hc:dO P T](hx:ev ρ xx=v):Mk.Yields P ⟨d,.makeInterface T xx,ty,pos,es,g⟩ ρ w (.iface T v):=by
 have h:=hc.h
 unfold Tb at h;unfold Mk.Yields;cases hu:P.underlying T with
 | none=>simp[hu]at h
 | some t=>
  cases t <;> first|(simp[hu]at h;done)|simp[execOp,hx,Instr.makeInterface,run_underlying hu,Sem.run_bind,Sem.run_pure,Result.andThen]
end
end Go.Proofs.YtlmiakjbogojgaaGreatDoor
end
section
namespace Go.Proofs.YtlmiakjbogojgaaGreatDoor
abbrev Pl:=Int×Int
def hk(l:List Pl)(i:Nat):Int:=(l.getD i (0,0)).2
theorem Sz{l:List Pl}{i:Nat}{x:Pl}(h:l[i]? = some x):hk l i=x.2:=by unfold hk;rw[List.getD_eq_getElem?_getD,h];rfl
def swp(l:List Pl)(i j:Nat):List Pl:=(l.set i (l.getD j (0,0))).set j (l.getD i (0,0))
theorem El(l:List Pl)(i j:Nat):(swp l i j).length=l.length:=by simp[swp]
theorem swp_get{l:List Pl}{i j:Nat}(hi:i<l.length)(hj:j<l.length)(k:Nat):(swp l i j)[k]? = if k=j then l[i]? else if k=i then l[j]? else l[k]?:=by
 unfold swp;rw[List.getElem?_set];by_cases h1:j=k
 ·subst h1;rw[if_pos rfl,if_pos (by simpa using hj),if_pos rfl]
  rw[List.getD_eq_getElem?_getD,List.getElem?_eq_getElem hi];rfl
 ·rw[if_neg h1,if_neg (Ne.symm h1),List.getElem?_set];by_cases h2:i=k
  ·subst h2;rw[if_pos rfl,if_pos hi,if_pos rfl,List.getD_eq_getElem?_getD,List.getElem?_eq_getElem hj];rfl
  ·rw[if_neg h2,if_neg (Ne.symm h2)]
theorem Bd{l:List Pl}{i j:Nat}(hi:i<l.length)(hj:j<l.length)(k:Nat):hk (swp l i j) k=if k=j then hk l i else if k=i then hk l j else hk l k:=by
 unfold hk;simp only[List.getD_eq_getElem?_getD,swp_get hi hj]
 split
 ·rfl
 ·split <;> rfl
theorem Jo{l:List Pl}{i j:Nat}(hi:i<l.length)(hj:j<l.length):(swp l i j).Perm l:=by
 rw[List.perm_iff_count];intro a;have e1:l.getD i (0,0)=l[i]:=by rw[List.getD_eq_getElem?_getD,List.getElem?_eq_getElem hi];rfl
 have e2:l.getD j (0,0)=l[j]:=by rw[List.getD_eq_getElem?_getD,List.getElem?_eq_getElem hj];rfl
 unfold swp;rw[e1,e2];by_cases e:i=j
 ·subst e;rw[List.set_set];simp
 ·rw[List.count_set (by simpa using hj),List.count_set hi]
  rw[List.getElem_set_ne e];have h1:(if l[i] == a then 1 else 0)≤l.count a:=by
   split
   ·rename_i h;exact List.one_le_count_iff.2 (by rw[←eq_of_beq h];exact List.getElem_mem ..)
   ·omega
  have h2:(if l[j] == a then 1 else 0)≤l.count a:=by
   split
   ·rename_i h;exact List.one_le_count_iff.2 (by rw[←eq_of_beq h];exact List.getElem_mem ..)
   ·omega
  omega
def i6(l:List Pl)(n:Nat):Prop:=∀k,0<k→k<n→hk l ((k-1) / 2)≤hk l k
def eb(l:List Pl)(j:Nat):Prop:=(∀k,0<k→k<l.length→k≠j→hk l ((k-1) / 2)≤hk l k)∧(0<j→∀k,0<k→k<l.length→(k-1) / 2=j→hk l ((j-1) / 2)≤hk l k)
def LC(l:List Pl)(i n:Nat):Prop:=(∀k,0<k→k<n→(k-1) / 2≠i→hk l ((k-1) / 2)≤hk l k)∧(0<i→∀k,0<k→k<n→(k-1) / 2=i→hk l ((i-1) / 2)≤hk l k)
theorem aI{l:List Pl}{j:Nat}(h:eb l j)(h0:0<j)(hj:j<l.length)(hlt:hk l j<hk l ((j-1) / 2)):eb (swp l ((j-1) / 2) j) ((j-1) / 2):=by
 have hi:(j-1) / 2<l.length:=by omega
 refine⟨fun k k0 kn ki=>?_,fun i0 k k0 kn kp=>?_⟩
 ·rw[El]at kn;rw[Bd hi hj,Bd hi hj];by_cases e:k=j
  ·subst e;rw[if_neg (by omega),if_pos rfl,if_pos rfl];omega
  ·rw[if_neg e,if_neg ki];have hd:=h.1 k k0 kn e
   by_cases e2:(k-1) / 2=j
   ·rw[if_pos e2];exact h.2 h0 k k0 kn e2
   ·rw[if_neg e2];by_cases e3:(k-1) / 2=(j-1) / 2
    ·rw[if_pos e3];rw[e3]at hd;omega
    ·rw[if_neg e3];exact hd
 ·rw[El]at kn;rw[Bd hi hj,Bd hi hj];rw[if_neg (by omega),if_neg (by omega)]
  have hd:=h.1 _ i0 hi (by omega)
  by_cases e:k=j
  ·rw[if_pos e];exact hd
  ·rw[if_neg e,if_neg (by omega)]
   have:=h.1 k k0 kn e
   rw[kp]at this;omega
theorem Zh{l:List Pl}{j:Nat}(h:eb l j)(hs:j=0∨hk l ((j-1) / 2)≤hk l j):i6 l l.length:=fun k k0 kn=>by
 by_cases e:k=j
 ·subst e;exact hs.resolve_left (by omega)
 ·exact h.1 k k0 kn e
theorem bN{l:List Pl}{x:Pl}(h:i6 l l.length):eb (l++[x]) l.length:=by
 have hq:∀k,k<l.length→hk (l++[x]) k=hk l k:=fun k hk'=>by
  unfold hk;rw[List.getD_eq_getElem?_getD,List.getD_eq_getElem?_getD,List.getElem?_append_left hk']
 refine⟨fun k k0 kn ki=>?_,fun i0 k k0 kn kp=>?_⟩
 ·simp only[List.length_append,List.length_singleton]at kn
  rw[hq k (by omega),hq _ (by omega)];exact h k k0 (by omega)
 ·simp only[List.length_append,List.length_singleton]at kn;omega
theorem Uz{l:List Pl}{i j n:Nat}(h:LC l i n)(hn:n≤l.length)(hj:j<n)(h0:0<j)(hp:(j-1) / 2=i)(hlt:hk l j<hk l i)(hmin:∀k,0<k→k<n→(k-1) / 2=i→hk l j≤hk l k):LC (swp l i j) j n:=by
 have hi':i<l.length:=by omega
 have hj':j<l.length:=by omega
 refine⟨fun k k0 kn kp=>?_,fun _ k k0 kn kp=>?_⟩
 ·rw[Bd hi' hj',Bd hi' hj',if_neg kp];by_cases e:(k-1) / 2=i
  ·rw[if_pos e];by_cases e2:k=j
   ·rw[if_pos e2];omega
   ·rw[if_neg e2,if_neg (by omega)];exact hmin k k0 kn e
  ·rw[if_neg e,if_neg (fun e2=>e (by rw[e2];exact hp))]
   by_cases e2:k=i
   ·rw[if_pos e2];subst e2;exact h.2 k0 j h0 hj hp
   ·rw[if_neg e2];exact h.1 k k0 kn e
 ·rw[Bd hi' hj',Bd hi' hj',hp,if_neg (by omega),if_pos rfl,if_neg (by omega),if_neg (by omega)]
  have:=h.1 k k0 kn (by omega)
  rw[kp]at this;exact this
theorem Kt{l:List Pl}{i n:Nat}(h:LC l i n)(hs:∀k,0<k→k<n→(k-1) / 2=i→hk l i≤hk l k):i6 l n:=fun k k0 kn=>by
 by_cases e:(k-1) / 2=i
 ·rw[e];exact hs k k0 kn e
 ·exact h.1 k k0 kn e
theorem US{l:List Pl}{n:Nat}(h:i6 l l.length)(hn:l.length=n+1):LC (swp l 0 n) 0 n:=by
 refine⟨fun k k0 kn kp=>?_,fun h0=>absurd h0 (by omega)⟩
 rw[Bd (by omega) (by omega),Bd (by omega) (by omega),if_neg (by omega),if_neg kp,if_neg (by omega),if_neg (by omega)]
 exact h k k0 (by omega)
theorem Vp{l:List Pl}{n:Nat}(h:i6 l n):∀k,k<n→hk l 0≤hk l k:=by
 intro k;induction k using Nat.strongRecOn with
 | ind k ih=>
  intro hk';by_cases e:k=0
  ·subst e;exact Int.le_refl _
  ·have:=h k (by omega) hk'
   have:=ih ((k-1) / 2) (by omega) (by omega)
   omega
theorem Uu{l:List Pl}{n:Nat}(h:i6 l n)(hn:n≤l.length):i6 (l.take n) (l.take n).length:=fun k k0 kn=>by
 simp only[List.length_take]at kn
 have hq:∀m,m<n→hk (l.take n) m=hk l m:=fun m hm=>by
  unfold hk;rw[List.getD_eq_getElem?_getD,List.getD_eq_getElem?_getD,List.getElem?_take_of_lt hm]
 rw[hq k (by omega),hq _ (by omega)]
 exact h k k0 (by omega)
theorem ZF{l:List Pl}{x:Pl}(h:i6 l l.length)(hx:l[0]? = some x):∀y∈l,x.2≤y.2:=fun y hy=>by
 obtain⟨k,hk2⟩:=List.mem_iff_getElem?.1 hy
 have hk1:=(List.getElem?_eq_some_iff.1 hk2).1
 have:=Vp h k hk1
 rw[Sz hx,Sz hk2]at this;exact this
theorem Uj{l L:List Pl}{n:Nat}{x:Pl}(hp:L.Perm l)(hn:L.length=n+1)(hx:L[n]? = some x):(x::L.take n).Perm l:=by
 have h1:L.take n++[x]=L:=by
  have:=List.take_append_drop n L
  obtain⟨hlt,he⟩:=List.getElem?_eq_some_iff.1 hx
  rw[List.drop_eq_getElem_cons hlt,he,List.drop_eq_nil_of_le (by omega)]at this
  exact this
 refine(List.Perm.trans ?_ hp)
 have h2:(x::L.take n).Perm (L.take n++[x]):=List.perm_append_comm (l₁:=[x])
 rw[h1]at h2;exact h2
end Go.Proofs.YtlmiakjbogojgaaGreatDoor
end
