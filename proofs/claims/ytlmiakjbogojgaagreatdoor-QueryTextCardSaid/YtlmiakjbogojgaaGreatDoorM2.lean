/- Texts of this proof, one behind another. -/
import Derived.Test.YtlmiakjbogojgaaGreatDoorM1
import Derived.RangeFuncRecord
import Derived.Maps.RangeRun
import Derived.Shelf.SlSortCmp.NoneTotal
import Derived.Shelf.SlMaps.Clone
import Derived.Defers
import Derived.Recover
import Derived.WalkSmall
import Derived.Scope
import Derived.Test.YtlmiakjbogojgaaGreatDoorChecked
import Derived.Laws.Externs
import Derived.Lib.Bytealg
set_option linter.unusedVariables false
set_option linter.unusedSimpArgs false
section
open Go
namespace Mk
def F3:List Nat→Fr→Fr→Fr
 | [],_,ρ=>ρ
 | d::N,g,ρ=>upd (F3 N g ρ) d (g d)
theorem L8{d:Nat}{g ρ:Fr}:∀ {N:List Nat},d∈N→F3 N g ρ d=g d
 | e::N,h=>by
  by_cases he:d=e
  ·subst he;exact upd_same _ _ _
  ·exact(upd_ne _ _ he).trans (L8 ((List.mem_cons.1 h).resolve_left he))
theorem Cm{d:Nat}{g ρ:Fr}:∀ {N:List Nat},d∉N→F3 N g ρ d=ρ d
 | [],_=>rfl
 | e::N,h=>(upd_ne _ _ (fun he=>h (by simp[he]))).trans (Cm fun hm=>h (by simp[hm]))
def D5:Fr:=fun _=>undef
structure Mt where
 ρ:Fr
 M:Nat→Fr→List B5
structure Mc where
 x:Value
 m:Nat→Fr→List B5
structure R6 where
 P:Program
 n:Nat
 ops:List Oper
 Γ:C4
 K:List B5
 wr:List (List Nat)
 tc:List (List Nat)
 stab:List (List Nat)
 fixed:Bool
section
variable (V:R6)
def R6.w(i:Nat):List Nat:=V.wr.getD i []
def R6.t(i:Nat):List Nat:=V.tc.getD i []
def R6.s(x:Nat):List Nat:=V.stab.getD x []
def R6.N:List Nat:=V.stab.flatten
def R6.free(o:Oper):Bool:=match o.dst with|some d=>V.N.contains d|none=>true
def R6.rl(Γ Γ':C4):Prop:=match V.fixed with|true=>Γ'=Γ|false=>Γ.le Γ'
def cellsOf(l:List Nat)(M:Nat→Fr→List B5)(g:Fr):List B5:=l.flatMap fun x=>M x (F3 (V.s x) g D5)
def Mt.nxt(i:Nat)(st:Mt)(c:Mc):Nat→Fr→List B5:=fun x=>bif (V.w i).contains x then c.m x else st.M x
def Mt.next(i:Nat)(st:Mt)(o:Oper)(c:Mc):Mt:=⟨C9 st.ρ o.dst c.x,Mt.nxt V i st c⟩
structure PT(i:Nat)(o:Oper)(st:Mt)(c:Mc):Prop where
 run:∀Γ' Y w g,V.rl V.Γ Γ'→Wd Γ' (V.K++(cellsOf V (V.t i) st.M g++Y)) w →
  (R4 V.ops o (F3 V.N g st.ρ)=true→Step V.P o (F3 V.N g st.ρ) w fun v w'=>∃Γ'',V.rl Γ' Γ''∧Wd Γ'' (V.K++(cellsOf V (V.t i) (Mt.nxt V i st c) (C9 g o.dst v)++Y)) w'∧(V.free o=false→v=c.x)) ∧
  (R4 V.ops o (F3 V.N g st.ρ)=false→Wd Γ' (V.K++(cellsOf V (V.t i) (Mt.nxt V i st c) (C9 g o.dst undef)++Y)) w∧(V.free o=false→undef=c.x))
def EI(Q:Fr→World→Prop)(st:Mt):Prop:=∀Γ' w g,V.rl V.Γ Γ'→Wd Γ' (V.K++cellsOf V (List.range V.stab.length) st.M g) w→Q (F3 V.N g st.ρ) w
def MSw(Q:Fr→World→Prop):Nat→List Oper→Mt→Prop
 | _,[],st=>EI V Q st
 | i,o::l,st=>∃c,PT V i o st c∧MSw Q (i+1) l (Mt.next V i st o c)
end
def clash(wr tc:List (List Nat))(i j:Nat):Bool:=(wr.getD i []).any (fun x=>(tc.getD j []).contains x)||(wr.getD j []).any fun x=>(tc.getD i []).contains x
def dup:List Nat→Bool
 | []=>false
 | x::l=>l.contains x||dup l
def O8(n:Nat)(ops:List Oper)(wr tc stab:List (List Nat)):Bool:=
  let A:=Du [] ops
  (List.range ops.length).all fun j=>match ops[j]? with
    | none=>true
    | some oj=>(oj.after.toList.all fun e=>!Region.binds .any e||Nat.blt e.on j)&&t1.okNoSel oj&&(match oj.guard with|some (g,_)=>((ops[g]?).bind (·.dst)).isSome|none=>true)&&H3 n oj.dst &&
      ((wr.getD j []).all fun x=>(tc.getD j []).contains x)&&((tc.getD j []).all fun x=>Nat.blt x stab.length) && !dup (tc.getD j []) &&
      (match oj.dst with|some d=>(List.range stab.length).all fun x=>!((stab.getD x []).contains d)||(wr.getD j []).contains x|none=>true) &&
      ((List.range j).all fun i=>match ops[i]? with
        | none=>true
        | some oi=>(EM ops oi oj && !clash wr tc i j)||(A.getD j []).contains i)
def Y4(V:R6)(Q:Fr→World→Prop):Nat→List Oper→List Mc→Mt→Prop
 | _,[],[],st=>EI V Q st
 | i,o::l,c::cs,st=>PT V i o st c∧Y4 V Q (i+1) l cs (Mt.next V i st o c)
 | _,_,_,_=>False
theorem MSw.chain{V:R6}{Q:Fr→World→Prop}:∀(l:List Oper) (i:Nat) (st:Mt),MSw V Q i l st→∃cs,Y4 V Q i l cs st
 | [],_,_,h=>⟨[],h⟩
 | _::l,i,st,⟨c,hg,h⟩=>by
  obtain⟨cs,hc⟩:=MSw.chain l (i+1) _ h
  exact⟨c::cs,hg,hc⟩
def I8(V:R6):List Oper→List Mc→Nat→Mt→Nat→Mt
 | o::l,c::cs,i,st,k+1=>I8 V l cs (i+1) (Mt.next V i st o c) k
 | _,_,_,st,_=>st
section
variable {V:R6}{Q:Fr→World→Prop}
theorem R6.rl_refl(Γ:C4):V.rl Γ Γ:=by unfold R6.rl;cases V.fixed <;> first|rfl|exact C4.le.refl _
theorem R6.rl_trans{a b c:C4}(h:V.rl a b)(k:V.rl b c):V.rl a c:=by
 unfold R6.rl at *;cases hf:V.fixed <;> simp only[hf] at * <;> first|exact k.trans h|exact C4.le.trans h k
theorem Y4.good:∀ {l:List Oper} {i:Nat} {cs:List Mc} {st:Mt} (k:Nat) {o:Oper},Y4 V Q i l cs st→l[k]? = some o→∃c,cs[k]? = some c∧PT V (i+k) o (I8 V l cs i st k) c
 | o'::l,i,c::cs,st,0,o,h,ho=>by
  simp at ho;subst ho
  exact⟨c,rfl,h.1⟩
 | o'::l,i,c::cs,st,k+1,o,h,ho=>by
  obtain⟨c',h1,h2⟩:=Y4.good k h.2 (by simpa using ho)
  refine⟨c',by simpa using h1,?_⟩
  rw[show i+(k+1)=i+1+k from by omega]
  exact h2
 | [],_,_,_,_,_,_,ho=>by simp at ho
 | _::_,_,[],_,_,_,h,_=>h.elim
theorem Y4.final:∀ {l:List Oper} {i:Nat} {cs:List Mc} {st:Mt},Y4 V Q i l cs st→EI V Q (I8 V l cs i st l.length)
 | [],_,[],_,h=>h
 | o::l,i,c::cs,st,h=>by
  have:=Y4.final (l:=l) (cs:=cs) h.2
  simpa[I8] using this
 | [],_,_::_,_,h=>h.elim
 | _::_,_,[],_,h=>h.elim
theorem T3:∀ {l:List Oper} {cs:List Mc} {i:Nat} {st:Mt} {k:Nat} {o:Oper} {c:Mc},l[k]? = some o→cs[k]? = some c→I8 V l cs i st (k+1)=Mt.next V (i+k) (I8 V l cs i st k) o c
 | o'::l,c'::cs,i,st,0,o,c,ho,hc=>by
  simp at ho hc;subst ho;subst hc
  cases l <;> cases cs <;> rfl
 | o'::l,c'::cs,i,st,k+1,o,c,ho,hc=>by
  have:=T3 (l:=l) (cs:=cs) (i:=i+1) (st:=Mt.next V i st o' c') (k:=k) (by simpa using ho) (by simpa using hc)
  rw[show i+(k+1)=i+1+k from by omega]
  exact this
 | [],_,_,_,_,_,_,ho,_=>by simp at ho
 | _::_,[],_,_,_,_,_,_,hc=>by simp at hc
theorem AG{l:List Oper}{cs:List Mc}{i:Nat}{st:Mt}:I8 V l cs i st 0=st:=by cases l <;> cases cs <;> rfl
structure MInv(V:R6)(st0:Mt)(cs:List Mc)(listed:Array Bool)(a:Act)(w:World)(done:List Nat)(Γ':C4):Prop where
 defers:a.defers=[]
 size:a.tmps.size=V.n
 lsz:listed.size=V.ops.length
 nd:done.Nodup
 lt:∀i∈done,i<V.ops.length
 ls:∀i,i<V.ops.length→(listed.getD i true=true↔i∈done)
 cl:Closed V.ops (·∈done)
 le:V.rl V.Γ Γ'
 init:∀t,t∉V.N→(∀i∈done,∀o,V.ops[i]? = some o→o.dst≠some t)→D9 a t=st0.ρ t
 last:∀i∈done,∀o t c,V.ops[i]? = some o→o.dst=some t→t∉V.N→cs[i]? = some c→(∀j∈done,∀o',V.ops[j]? = some o'→o'.dst=some t→j≤i)→D9 a t=c.x
 wd:∃p:Nat→Nat,(∀x,p x≤V.ops.length∧∀i,x∈V.w i→i<V.ops.length→(i∈done↔i<p x)) ∧
  Wd Γ' (V.K++(List.range V.stab.length).flatMap fun x=>(I8 V V.ops cs 0 st0 (p x)).M x (F3 (V.s x) (D9 a) D5)) w
theorem Gt:∀ {l:List Nat},dup l=false→l.Nodup
 | [],_=>List.nodup_nil
 | x::l,h=>by
  simp only[dup,Bool.or_eq_false_iff]at h
  exact List.nodup_cons.2 ⟨by simpa using h.1,Gt h.2⟩
theorem P8{n:Nat}{ops:List Oper}{wr tc stab:List (List Nat)}(h:O8 n ops wr tc stab=true){j:Nat}{oj:Oper}(hj:ops[j]? = some oj) :
  (∀e∈oj.after,Region.binds .any e=true→e.on<j)∧(∀cs b,oj.op≠.select cs b)∧(∀g want,oj.guard=some (g,want)→∃d,(ops[g]?).bind (·.dst)=some d)∧H3 n oj.dst=true ∧
  (∀x∈wr.getD j [],x∈tc.getD j [])∧(∀x∈tc.getD j [],x<stab.length)∧(tc.getD j []).Nodup∧(∀d x,oj.dst=some d→d∈stab.getD x []→x∈wr.getD j []) ∧
  ∀i oi,i<j→ops[i]? = some oi→(EM ops oi oj=true∧clash wr tc i j=false)∨i∈(Du [] ops).getD j []:=by
 have hlt:j<ops.length:=(List.getElem?_eq_some_iff.1 hj).1
 unfold O8 at h;simp only[List.all_eq_true,List.mem_range]at h
 have h1:=h j hlt
 simp only[hj,Bool.and_eq_true]at h1
 obtain⟨⟨⟨⟨⟨⟨⟨⟨h2,h3⟩,h4⟩,h6⟩,h7⟩,h8⟩,h9⟩,h10⟩,h5⟩:=h1;refine⟨fun e he hb=>?_,fun c b hs=>?_,fun g want hg=>?_,h6,fun x hx=>?_,fun x hx=>?_,Gt (by simpa using h9),fun d x hd hx=>?_,fun i oi hi ho=>?_⟩
 ·have:=(List.all_eq_true.1 h2) e (by simpa using he)
  rw[hb]at this;simp at this;omega
 ·unfold t1.okNoSel at h3;rw[hs]at h3;simp at h3
 ·rw[hg]at h4;exact Option.isSome_iff_exists.1 h4
 ·simpa using (List.all_eq_true.1 h7) x hx
 ·exact Nat.le_of_ble_eq_true ((List.all_eq_true.1 h8) x hx)
 ·rw[hd]at h10;by_cases hl:x<stab.length
  ·have:=(List.all_eq_true.1 h10) x (List.mem_range.2 hl)
   simp[hx]at this
   exact(this.resolve_left (fun h=>h hx))
  ·rw[List.getD_eq_getElem?_getD,List.getElem?_eq_none (by omega)]at hx;simp at hx
 ·have:=(List.all_eq_true.1 h5) i (List.mem_range.2 hi)
  simp only[ho,Bool.and_eq_true,Bool.or_eq_true]at this
  exact this.imp (fun h=>⟨h.1,by simpa using h.2⟩) (fun h=>by simpa using h)
theorem Ep{wr tc:List (List Nat)}{i j x:Nat}(h:clash wr tc i j=false)(h1:x∈wr.getD i [])(h2:x∈tc.getD j []):False:=by
 simp only[clash,Bool.or_eq_false_iff]at h
 have:=List.any_eq_false.1 h.1 x h1
 exact this (by simpa using h2)
theorem LS{wr tc:List (List Nat)}{i j x:Nat}(h:clash wr tc i j=false)(h1:x∈tc.getD i [])(h2:x∈wr.getD j []):False:=by
 simp only[clash,Bool.or_eq_false_iff]at h
 have:=List.any_eq_false.1 h.2 x h2
 exact this (by simpa using h1)
section
variable {st0:Mt}{cs:List Mc}{listed:Array Bool}{a:Act}{w:World}{done:List Nat}{Γ':C4}
theorem Hk(hc:Y4 V Q 0 V.ops cs st0){t j:Nat}:∀(m:Nat),j+m≤V.ops.length→(∀i,j≤i→i<j+m→∀o,V.ops[i]? = some o→o.dst≠some t)→(I8 V V.ops cs 0 st0 (j+m)).ρ t=(I8 V V.ops cs 0 st0 j).ρ t
 | 0,_,_=>rfl
 | m+1,hl,hn=>by
  have ih:=Hk hc m (by omega) (fun i h1 h2=>hn i h1 (by omega))
  have ho:V.ops[j+m]? = some V.ops[j+m]:=List.getElem?_eq_getElem (by omega)
  obtain⟨c,h1,_⟩:=hc.good (j+m) ho
  rw[←Nat.add_assoc,T3 ho h1,←ih];have hne:=hn (j+m) (by omega) (by omega) _ ho
  simp only[Mt.next]
  cases hd:(V.ops[j+m]).dst with
  | none=>rfl
  | some d=>exact upd_ne _ _ (fun e=>hne (by rw[hd,e]))
theorem MInv.sat_at(hc:Y4 V Q 0 V.ops cs st0)(inv:MInv V st0 cs listed a w done Γ'){k t:Nat}(hN:t∉V.N)(hk:k≤V.ops.length)(h1:∀j,j<k→∀o,V.ops[j]? = some o→o.dst=some t→j∈done)
  (h2:∀j∈done,∀o,V.ops[j]? = some o→o.dst=some t→j<k):D9 a t=(I8 V V.ops cs 0 st0 k).ρ t:=by
 rcases n3 (fun j=>∃o,V.ops[j]? = some o∧o.dst=some t) k with hn|⟨j,hj,⟨o,ho,hd⟩,hlast⟩
 ·have:=Hk (j:=0) (t:=t) hc k (by omega) (fun i _ hi o ho hd=>hn i (by omega) ⟨o,ho,hd⟩)
  rw[Nat.zero_add,AG]at this;rw[this];exact inv.init t hN fun i hi o ho hd=>hn i (h2 i hi o ho hd) ⟨o,ho,hd⟩
 ·have hin:=h1 j hj o ho hd
  obtain⟨c,hcj,hg⟩:=hc.good j ho
  have hval:=inv.last j hin o t c ho hd hN hcj fun i hi o' ho' hd'=>by
   have:=h2 i hi o' ho' hd'
   rcases Nat.lt_or_ge j i with h|h
   ·exact absurd ⟨o',ho',hd'⟩ (hlast i h this)
   ·exact h
  have hs:(I8 V V.ops cs 0 st0 (j+1)).ρ t=c.x:=by
   rw[T3 ho hcj];simp only[Mt.next,hd]
   exact upd_same _ _ _
  have:=Hk (j:=j+1) (t:=t) hc (k-(j+1)) (by omega) (fun i h3 h4 o' ho' hd'=>hlast i (by omega) (by omega) ⟨o',ho',hd'⟩)
  rw[show j+1+(k-(j+1))=k from by omega]at this
  rw[hval,this,hs]
theorem Cg(hc:Y4 V Q 0 V.ops cs st0){p x:Nat}:∀(m:Nat),p+m≤V.ops.length→(∀j,p≤j→j<p+m→x∉V.w j)→(I8 V V.ops cs 0 st0 (p+m)).M x=(I8 V V.ops cs 0 st0 p).M x
 | 0,_,_=>rfl
 | m+1,hl,hn=>by
  have ih:=Cg hc m (by omega) (fun i h1 h2=>hn i h1 (by omega))
  have ho:V.ops[p+m]? = some V.ops[p+m]:=List.getElem?_eq_getElem (by omega)
  obtain⟨c,h1,hg⟩:=hc.good (p+m) ho
  rw[←Nat.add_assoc,T3 ho h1,←ih];have:=hn (p+m) (by omega) (by omega)
  simp[Mt.next,Mt.nxt,this]
theorem Bi{g g' ρ:Fr}:∀ {N:List Nat},(∀t∈N,g t=g' t)→F3 N g ρ=F3 N g' ρ
 | [],_=>rfl
 | d::N,h=>by
  simp only[F3]
  rw[h d (by simp),Bi (N:=N) fun t ht=>h t (by simp[ht])]
theorem MInv.step{i:Nat}{QQ:Exit→Act→World→Prop}(hc:Y4 V Q 0 V.ops cs st0)(hk:O8 V.n V.ops V.wr V.tc V.stab=true)(inv:MInv V st0 cs listed a w done Γ')
  (hr:i∈Region.ready .any V.ops.toArray listed):wpOp V.P V.ops.toArray QQ i (fun a' w'=>∃done' Γ'',MInv V st0 cs (listed.setIfInBounds i true) a' w' done' Γ''∧done'.length=done.length+1) a w∧i∉done:=by
 obtain⟨hun,o,hoa,hall⟩:=mem_ready.1 hr
 have ho:V.ops[i]? = some o:=by simpa using hoa
 have hil:i<V.ops.length:=(List.getElem?_eq_some_iff.1 ho).1
 have hni:i∉done:=fun h=>by rw[(inv.ls i hil).2 h]at hun;cases hun
 refine⟨?_,hni⟩
 obtain⟨c,hci,hg⟩:=hc.good i ho
 rw[Nat.zero_add]at hg;obtain⟨k1,k2,k3,kd,kw,kl,kn,ks,k4⟩:=P8 hk ho
 have hedges:∀e∈o.after,Region.binds .any e=true→e.on∈done:=fun e he hb=>by
  have h1:=hall e he hb
  have h2:=k1 e he hb
  have h3:e.on<listed.size:=by rw[inv.lsz];omega
  refine(inv.ls e.on (by omega)).1 ?_
  simp only[Array.getD_eq_getD_getElem?,Array.getElem?_eq_getElem h3,Option.getD_some]at h1 ⊢
  exact h1
 have hcl':Closed V.ops (·∈i::done):=fun j o' e hj ho' he hb=>by
  rcases List.mem_cons.1 hj with rfl|hj
  ·rw[ho]at ho';cases ho';exact List.mem_cons_of_mem _ (hedges e he hb)
  ·exact List.mem_cons_of_mem _ (inv.cl j o' e hj ho' he hb)
 have hanc:∀j,j∈(Du [] V.ops).getD i []→j∈i::done:=fun j hj=>V6 hcl' V.ops [] (by simp) (by simp) i j hj (by simp)
 have hanc2:∀j k,j∈(Du [] V.ops).getD k []→k∈done→j∈done:=fun j k hj hk=>V6 inv.cl V.ops [] (by simp) (by simp) k j hj hk
 have hsat:∀t∈looks V.ops o,t∉V.N→D9 a t=(I8 V V.ops cs 0 st0 i).ρ t:=fun t ht hN=>inv.sat_at hc hN (Nat.le_of_lt hil) (fun j hj oj hoj hdj=>by
   rcases k4 j oj hj hoj with h|h
   ·exact absurd ht ((O2 h.1).1 t hdj).1
   ·rcases List.mem_cons.1 (hanc j h) with h|h
    ·omega
    ·exact h) (fun j hj oj hoj hdj=>by
   rcases Nat.lt_or_ge j i with h|h
   ·exact h
   ·rcases Nat.eq_or_lt_of_le h with h|h
    ·subst h;exact absurd hj hni
    ·obtain⟨_,_,_,_,_,_,_,_,q4⟩:=P8 hk hoj
     rcases q4 i o h ho with h'|h'
     ·exact absurd ht ((O2 h'.1).2 t hdj)
     ·exact absurd (hanc2 i j h' hj) hni)
 have hlook:∀t∈looks V.ops o,D9 a t=F3 V.N (D9 a) (I8 V V.ops cs 0 st0 i).ρ t:=fun t ht=>by
  by_cases hN:t∈V.N
  ·rw[L8 hN]
  ·rw[Cm hN];exact hsat t ht hN
 obtain⟨p,hp,hwd⟩:=inv.wd;have htc:∀x∈V.t i,(I8 V V.ops cs 0 st0 i).M x=(I8 V V.ops cs 0 st0 (p x)).M x:=fun x hx=>by
  rcases Nat.lt_or_ge i (p x) with hlt|hge
  ·
   have:=Cg hc (p:=i) (x:=x) (p x-i) (by have:=(hp x).1;omega) (fun j h1 h2 hj=>by
    have hjl:j<V.ops.length:=by have:=(hp x).1;omega
    have hjd:=((hp x).2 j hj hjl).2 (by omega)
    have hoj:V.ops[j]? = some V.ops[j]:=List.getElem?_eq_getElem hjl
    rcases Nat.eq_or_lt_of_le h1 with h|h
    ·subst h;exact hni hjd
    ·obtain⟨_,_,_,_,_,_,_,_,q4⟩:=P8 hk hoj
     rcases q4 i o h ho with h'|h'
     ·exact LS h'.2 hx hj
     ·exact hni (hanc2 i j h' hjd))
   rw[show i+(p x-i)=p x from by omega]at this
   exact this.symm
  ·have:=Cg hc (p:=p x) (x:=x) (i-p x) (by omega) (fun j h1 h2 hj=>by
    have hoj:V.ops[j]? = some V.ops[j]:=List.getElem?_eq_getElem (by omega)
    rcases k4 j _ (by omega) hoj with h|h
    ·exact Ep h.2 hj hx
    ·rcases List.mem_cons.1 (hanc j h) with h|h
     ·omega
     ·have:=((hp x).2 j hj (by omega)).1 h;omega)
   rwa [show p x+(i-p x)=i from by omega]at this
 let rest:=(List.range V.stab.length).filter fun x=>!(V.t i).contains x
 have hperm:(List.range V.stab.length).Perm (V.t i++rest):=by
  refine(List.perm_ext_iff_of_nodup List.nodup_range ?_).2 fun x=>?_
  ·refine List.nodup_append.2 ⟨kn,List.nodup_range.filter _,fun x hx y hy hxy=>?_⟩
   subst hxy;have:=(List.mem_filter.1 hy).2
   simp at this;exact this hx
  ·simp only[List.mem_append,List.mem_range,rest,List.mem_filter]
   constructor
   ·intro h;by_cases hx:x∈V.t i
    ·exact .inl hx
    ·exact .inr ⟨h,by simpa using hx⟩
   ·rintro (h|h)
    ·exact kl x h
    ·exact h.1
 have hfm:∀F:Nat→List B5,((List.range V.stab.length).flatMap F).Perm ((V.t i).flatMap F++rest.flatMap F):=fun F=>by
  rw[←List.flatMap_append];exact List.Perm.flatMap_right _ hperm
 have hw1:Wd Γ' (V.K++(cellsOf V (V.t i) (I8 V V.ops cs 0 st0 i).M (D9 a)++rest.flatMap fun x=>(I8 V V.ops cs 0 st0 (p x)).M x (F3 (V.s x) (D9 a) D5))) w:=by
  have:=hwd.perm (List.Perm.append_left V.K (hfm _))
  rwa [show cellsOf V (V.t i) (I8 V V.ops cs 0 st0 i).M (D9 a)=(V.t i).flatMap fun x=>(I8 V V.ops cs 0 st0 (p x)).M x (F3 (V.s x) (D9 a) D5) from G5 fun x hx=>by rw[htc x hx]]
 have hrun:=hg.run Γ' _ w (D9 a) inv.le hw1
 have next:∀v w' Γ'',V.rl Γ' Γ''→(V.free o=false→v=c.x)→Wd Γ'' (V.K++(cellsOf V (V.t i) (Mt.nxt V i (I8 V V.ops cs 0 st0 i) c) (C9 (D9 a) o.dst v)++rest.flatMap fun x=>(I8 V V.ops cs 0 st0 (p x)).M x (F3 (V.s x) (D9 a) D5))) w' →
   MInv V st0 cs (listed.setIfInBounds i true) (a.put o.dst v) w' (i::done) Γ'':=by
  intro v w' Γ'' hle he hwd';have hput:D9 (a.put o.dst v)=C9 (D9 a) o.dst v:=S9 a _ v (by rw[inv.size];exact I1 kd)
  refine⟨(I4 a _ v).trans inv.defers,(size_put a _ v).trans inv.size,by simpa using inv.lsz,List.nodup_cons.2 ⟨hni,inv.nd⟩,?_,?_,hcl',V.rl_trans inv.le hle,?_,?_,?_⟩
  ·intro j hj;rcases List.mem_cons.1 hj with rfl|hj
   ·exact hil
   ·exact inv.lt j hj
  ·intro j hj;by_cases hji:j=i
   ·subst hji;simp[inv.lsz,hil]
   ·rw[getD_set_ne true (Ne.symm hji),inv.ls j hj];simp[hji]
  ·intro t hN hn;rw[hput];have h1:o.dst≠some t:=hn i (by simp) o ho
   have:C9 (D9 a) o.dst v t=D9 a t:=by
    cases hd:o.dst with
    | none=>rfl
    | some d=>exact upd_ne _ _ (fun e=>h1 (by rw[hd,e]))
   rw[this];exact inv.init t hN fun j hj=>hn j (List.mem_cons_of_mem _ hj)
  ·intro j hj o' t c' ho' hd' hN hc' hmax;rw[hput];rcases List.mem_cons.1 hj with rfl|hj
   ·rw[ho]at ho';cases ho'
    rw[hci]at hc';cases hc'
    rw[hd',show C9 (D9 a) (some t) v t=v from upd_same _ _ _];exact he (by simp only[R6.free,hd'];simpa using hN)
   ·have hji:j≠i:=fun e=>hni (e ▸ hj)
    have h1:o.dst≠some t:=fun e=>by
     have hle':=hmax i (by simp) o ho e
     have hlt:i<j:=by omega
     obtain⟨_,_,_,_,_,_,_,_,q4⟩:=P8 hk ho'
     rcases q4 i o hlt ho with h|h
     ·exact((O2 h.1).1 t e).2 hd'
     ·exact hni (hanc2 i j h hj)
    have:C9 (D9 a) o.dst v t=D9 a t:=by
     cases hd:o.dst with
     | none=>rfl
     | some d=>exact upd_ne _ _ (fun e=>h1 (by rw[hd,e]))
    rw[this];exact inv.last j hj o' t c' ho' hd' hN hc' fun k hk'=>hmax k (List.mem_cons_of_mem _ hk')
  ·refine⟨fun x=>if x∈V.w i then i+1 else p x,fun x=>⟨?_,fun j hj hjl=>?_⟩,?_⟩
   ·show (if x∈V.w i then i+1 else p x)≤V.ops.length
    have:=(hp x).1
    split <;> omega
   ·by_cases hx:x∈V.w i
    ·simp only[hx,if_true]
     by_cases hji:j=i
     ·subst hji;simp
     ·simp only[List.mem_cons,hji,false_or]
      have hpi:p x≤i:=Nat.le_of_not_lt fun h=>hni (((hp x).2 i hx hil).2 h)
      rw[(hp x).2 j hj hjl];constructor
      ·intro h;omega
      ·intro h;refine((hp x).2 j hj hjl).1 ?_
       have hoj:V.ops[j]? = some V.ops[j]:=List.getElem?_eq_getElem hjl
       rcases k4 j _ (by omega) hoj with h'|h'
       ·exact absurd (Ep h'.2 hj (kw x hx)) id
       ·rcases List.mem_cons.1 (hanc j h') with h'|h'
        ·omega
        ·exact h'
    ·have hji:j≠i:=fun e=>hx (e ▸ hj)
     simp only[hx,if_false,List.mem_cons,hji,false_or]
     exact(hp x).2 j hj hjl
   ·refine Wd.perm ?_ (List.Perm.append_left V.K (hfm _)).symm
    have e1:cellsOf V (V.t i) (Mt.nxt V i (I8 V V.ops cs 0 st0 i) c) (C9 (D9 a) o.dst v)=(V.t i).flatMap fun x=>(I8 V V.ops cs 0 st0 (if x∈V.w i then i+1 else p x)).M x (F3 (V.s x) (D9 (a.put o.dst v)) D5):=G5 fun x hx=>by
     rw[hput];by_cases hxw:x∈V.w i
     ·simp only[hxw,if_true]
      rw[T3 ho hci,Nat.zero_add];rfl
     ·simp only[hxw,if_false,Mt.nxt]
      rw[←htc x hx];simp[hxw]
    have e2:(rest.flatMap fun x=>(I8 V V.ops cs 0 st0 (p x)).M x (F3 (V.s x) (D9 a) D5))=rest.flatMap fun x=>(I8 V V.ops cs 0 st0 (if x∈V.w i then i+1 else p x)).M x (F3 (V.s x) (D9 (a.put o.dst v)) D5):=G5 fun x hx=>by
     have hxt:x∉V.t i:=by have:=(List.mem_filter.1 hx).2;simpa using this
     have hxw:x∉V.w i:=fun h=>hxt (kw x h)
     simp only[hxw,if_false]
     rw[hput];congr 1
     refine Bi fun t ht=>?_
     cases hd:o.dst with
     | none=>rfl
     | some d=>exact(upd_ne _ _ (fun e=>hxw (ks d x hd (by subst e;exact ht)))).symm
    rw[←e1,←e2];exact hwd'
 have hwant:Region.wanted o (yielded V.ops.toArray a.tmps)=R4 V.ops o (F3 V.N (D9 a) (I8 V V.ops cs 0 st0 i).ρ):=by
  unfold R4;cases hgd:o.guard with
  | none=>simp[Region.wanted,hgd]
  | some q=>
   obtain⟨j,want⟩:=q;obtain⟨dj,hdj⟩:=k3 j want hgd
   have hdn:dj<V.n:=by
    cases hoj:V.ops[j]? with
    | none=>simp[hoj]at hdj
    | some oj=>simp[hoj]at hdj;exact I1 ((P8 hk hoj).2.2.2.1) dj hdj
   simp only[hdj]
   rw[←hlook dj (List.mem_append_right _ (by simp only[hgd];simpa using hdj))]
   exact o4 o V.ops.toArray a j want hgd dj (by simpa using hdj) (by rw[inv.size];exact hdn)
 unfold wpOp;simp only[hoa,hwant]
 have hsel:w9 o=true:=by
  unfold w9;split
  ·rename_i h;exact absurd h (k2 _ _)
  ·rfl
 cases hwt:R4 V.ops o (F3 V.N (D9 a) (I8 V V.ops cs 0 st0 i).ρ) with
 | true=>
  simp only[if_true]
  have hst:=(hrun.1 hwt).congr (ops:=V.ops) hsel hlook
  exact .inl (Step.wp hst fun v w' ⟨Γ'',h1,h2,h3⟩=>⟨_,_,next v w' Γ'' h1 h3 h2,by simp⟩)
 | false=>
  obtain⟨h1,h2⟩:=hrun.2 hwt
  exact⟨_,_,next undef w Γ' (V.rl_refl _) h2 h1,by simp⟩
theorem MInv.fin(hc:Y4 V Q 0 V.ops cs st0)(inv:MInv V st0 cs listed a w done Γ')(hall:∀i,i<V.ops.length→i∈done):Q (D9 a) w:=by
 have hfin:=hc.final
 obtain⟨p,hp,hwd⟩:=inv.wd;have hρ:D9 a=F3 V.N (D9 a) (I8 V V.ops cs 0 st0 V.ops.length).ρ:=by
  funext t
  by_cases hN:t∈V.N
  ·rw[L8 hN]
  ·rw[Cm hN];exact inv.sat_at hc hN (Nat.le_refl _) (fun j hj _ _ _=>hall j hj) (fun j hj _ _ _=>inv.lt j hj)
 rw[hρ];refine hfin Γ' w (D9 a) inv.le ?_
 have:cellsOf V (List.range V.stab.length) (I8 V V.ops cs 0 st0 V.ops.length).M (D9 a)=(List.range V.stab.length).flatMap fun x=>(I8 V V.ops cs 0 st0 (p x)).M x (F3 (V.s x) (D9 a) D5):=G5 fun x _=>by
  have:=Cg hc (p:=p x) (x:=x) (V.ops.length-p x) (by have:=(hp x).1;omega) (fun j h1 h2 hj=>by
   have hjl:j<V.ops.length:=by have:=(hp x).1;omega
   have:=((hp x).2 j hj hjl).1 (hall j hjl)
   omega)
  rw[show p x+(V.ops.length-p x)=V.ops.length from by have:=(hp x).1;omega]at this
  rw[this]
 rw[this];exact hwd
theorem q9(hk:O8 V.n V.ops V.wr V.tc V.stab=true)(inv:MInv V st0 cs listed a w done Γ')(h:Region.ready .any V.ops.toArray listed=[]):∀i,i<V.ops.length→i∈done:=by
 intro i;induction i using Nat.strongRecOn with
 | _ i ih=>
  intro hi;refine Classical.byContradiction fun hn=>?_
  have hmem:i∈Region.ready .any V.ops.toArray listed:=mem_ready.2 ⟨?_,V.ops[i],by simp[hi],fun e he hb=>?_⟩
  ·rw[h]at hmem;cases hmem
  ·cases hb:listed.getD i true with
   | false=>rfl
   | true=>exact absurd ((inv.ls i hi).1 hb) hn
  ·have h1:=(P8 hk (List.getElem?_eq_getElem hi)).1 e he hb
   have h2:=(inv.ls e.on (by omega)).2 (ih e.on h1 (by omega))
   have h3:e.on<listed.size:=by rw[inv.lsz];omega
   simp only[Array.getD_eq_getD_getElem?,Array.getElem?_eq_getElem h3,Option.getD_some]at h2 ⊢
   exact h2
theorem MInv.any{QQ:Exit→Fr→World→Prop}(hc:Y4 V (fun ρ w=>QQ .normal ρ w) 0 V.ops cs st0)(hk:O8 V.n V.ops V.wr V.tc V.stab=true) :
  ∀(fuel:Nat) (listed:Array Bool) (a:Act) (w:World) (done:List Nat) (Γ':C4),MInv V st0 cs listed a w done Γ'→fuel+done.length=V.ops.length→wpAny V.P .any V.ops.toArray (lift V.n QQ) fuel listed a w
 | 0,listed,a,w,done,Γ',inv,hf=>by
  have hall:∀i,i<V.ops.length→i∈done:=by
   intro i hi;refine Classical.byContradiction fun hn=>?_
   have:=DN V.ops.length (i::done) (List.nodup_cons.2 ⟨hn,inv.nd⟩) (fun x hx=>by
    rcases List.mem_cons.1 hx with rfl|hx
    ·exact hi
    ·exact inv.lt x hx)
   simp at this;omega
  refine⟨?_,inv.defers,inv.size,inv.fin hc hall⟩
  refine List.eq_nil_iff_forall_not_mem.2 fun i hi=>?_
  obtain⟨hun,o,ho,_⟩:=mem_ready.1 hi
  have hil:i<V.ops.length:=by have:=(Array.getElem?_eq_some_iff.1 ho).1;simpa using this
  rw[(inv.ls i hil).2 (hall i hil)]at hun;cases hun
 | fuel+1,listed,a,w,done,Γ',inv,hf=>by
  refine⟨fun h=>⟨inv.defers,inv.size,inv.fin hc (q9 hk inv h)⟩,fun i hi=>?_⟩
  refine wpOp_mono ?_ (inv.step hc hk hi).1
  rintro a' w' ⟨done',Γ'',inv',hl⟩
  exact MInv.any hc hk fuel _ a' w' done' Γ'' inv' (by omega)
end
end
theorem Qb{P:Program}{n id:Nat}{l:List Oper}{Q:Exit→Fr→World→Prop}{ρ:Fr}{w:World}{Γ:C4}(K:List B5)(M:Nat→Fr→List B5)(wr tc stab:List (List Nat))(fixed:Bool)(hm:P.follows .mixedOrders=true)
  (hk:O8 n l wr tc stab=true) (hw:Wd Γ (K++cellsOf ⟨P,n,l,Γ,K,wr,tc,stab,fixed⟩ (List.range stab.length) M ρ) w) (h:MSw ⟨P,n,l,Γ,K,wr,tc,stab,fixed⟩ (fun ρ w=>Q .normal ρ w) 0 l ⟨ρ,M⟩):W P n (.region id l.toArray true) Q ρ w:=by
 unfold W;intro a hda hs hf;refine wp_region_any hm ?_
 obtain⟨cs,hc⟩:=h.chain;have inv:MInv ⟨P,n,l,Γ,K,wr,tc,stab,fixed⟩ ⟨ρ,M⟩ cs (Array.replicate l.toArray.size false) a { w with drawn:=w.drawn+1 } [] Γ:=by
  refine⟨hda,hs,by simp,by simp,by simp,fun i hi=>?_,fun _ _ _ h=>by simp at h,R6.rl_refl _,fun t _ _=>by rw[hf],by simp,fun _=>0,fun x=>⟨Nat.zero_le _,by simp⟩,?_⟩
  ·have:i<l.length:=hi
   simp[this]
  ·simp only[AG,hf]
   exact hw.drawn
 exact MInv.any hc hk _ _ a _ [] Γ inv (by simp)
def R8(Γ:C4)(S:List B5)(v:Value)(sz:Nat)(rows:List (List Value)):Prop:=
 ∃a n c,v=.slice a n c∧n=rows.length∧n≤c∧c≤9223372036854775807∧∀w,Wd Γ S w→Rd w a sz rows
section
variable {P:Program}{Γ:C4}{S:List B5}{w:World}{sz e:Nat}{rows:List (List Value)}{v:Value}
theorem D6.rdS(h:D6 Γ v sz rows):R8 Γ S v sz rows:=by
 obtain⟨a,n,c,rfl,h1,h2,h3⟩:=h.shape;exact⟨a,n,c,rfl,h1,h2,h3,fun w hw=>h.rd hw⟩
theorem R8.own{w0:World}{i:Nat}(hw:Wd Γ S w0)(hi:S[i]? = some (.own v e sz rows)):R8 Γ S v sz rows:=by
 obtain⟨a,n,c,rfl,h1,h2,h3⟩:=hw.own_shape hi
 exact⟨a,n,c,rfl,h1,h2,h3,fun w hw=>hw.own_rd hi⟩
theorem R8.ownI{a:Option Addr}{n c i:Nat}(hi:S[i]? = some (.own (.slice a n c) e sz rows))(h1:n=rows.length)(h2:n≤c)(h3:c≤9223372036854775807):R8 Γ S (.slice a n c) sz rows:=
 ⟨a,n,c,rfl,h1,h2,h3,fun w hw=>hw.own_rd hi⟩
theorem R8.shape(h:R8 Γ S v sz rows):∃a n c,v=.slice a n c∧n=rows.length∧n≤c∧c≤9223372036854775807:=by
 obtain⟨a,n,c,h1,h2,h3,h4,_⟩:=h;exact⟨a,n,c,h1,h2,h3,h4⟩
theorem R8.rd{a:Option Addr}{n c:Nat}(h:R8 Γ S (.slice a n c) sz rows)(hw:Wd Γ S w):Rd w a sz rows:=by
 obtain⟨a',n',c',h1,h2,h3,h4,h5⟩:=h;cases h1
 exact h5 w hw
theorem R8.cons{r:B5}(h:R8 Γ S v sz rows):R8 Γ (r::S) v sz rows:=by
 obtain⟨a,n,c,h1,h2,h3,h4,h5⟩:=h;exact⟨a,n,c,h1,h2,h3,h4,fun w hw=>h5 w hw.drop⟩
theorem R8.app{S':List B5}(h:R8 Γ S v sz rows):R8 Γ (S++S') v sz rows:=by
 obtain⟨a,n,c,h1,h2,h3,h4,h5⟩:=h;exact⟨a,n,c,h1,h2,h3,h4,fun w hw=>h5 w hw.left⟩
end
section
variable {P:Program}{ρ:Fr}{w:World}{sz:Nat}{rows:List (List Value)}{d:Option Tmp}{T ty:TypeId}{pos:String}{es:Array Edge}{g:Option (Nat×Bool)}{x y:Operand}
theorem Y5{E by':Nat}{zs:List Value}{a:Option Addr}{m c:Nat}{k:IntKind}{i:Int}[hT:TL P T E sz by' zs](hr:Rd w a sz rows)(hx:ev ρ x=.slice a m c)(hy:ev ρ y=.int k i)(h0:0≤i)(h1:i<m)(hm:m=rows.length:=by first|assumption|omega|(rw[List.length_map];omega)) :
  Yields P ⟨d,.indexAddr T x y,ty,pos,es,g⟩ ρ w (.pointer (some ⟨aB a,aO a+i.toNat*sz,none⟩)):=
 Aw hx hy h0 h1 (hr.at_ (by omega))
end
abbrev B5.ms{β:Type}(f:β→Value)(b:Nat)(l:List (ByteArray×β)):B5:=B5.mp b (l.map fun p=>(.string p.1,f p.2))
section
variable {P:Program}{n:Nat}{opa:Array Oper}{Γ:C4}{S:List B5}{QQ:Exit→Fr→World→Prop}{ρ:Fr}{w:World}{rest:List Oper}{KK:Value→World→Prop}
variable {d:Option Tmp}{T U ty K E:TypeId}{pos:String}{es:Array Edge}{g:Option (Nat×Bool)}{x y z:Operand}{v:Value}{β:Type}{f:β→Value}{b i:Nat}{a:ByteArray}{l:List (ByteArray×β)}
theorem P0[Inhabited β]{zz:Value}[hM:EH P T K E][hK:Do P K][hz:UO P E zz](hw:Wd Γ S w)(hx:ev ρ x=.map (some b))(hy:ev ρ y=.string a)(hi:S[i]? = some (B5.ms f b l))(hd:f default=zz) :
  Yields P ⟨d,.lookup T x y true,ty,pos,es,g⟩ ρ w (.tuple #[f ((I3 l a).getD default),.bool (I3 l a).isSome]):=by
 cases hg:I3 l a with
 | some u=>
  have:=CM (P:=P) (K:=K) (α:=ByteArray) (d:=d) (T:=T) (ty:=ty) (pos:=pos) (es:=es) (g:=g) hw hx hy hi hg true
  simpa using this
 | none=>
  have:=Bw (P:=P) (K:=K) (α:=ByteArray) (d:=d) (T:=T) (ty:=ty) (pos:=pos) (es:=es) (g:=g) hw hx hy hi hg true
  simpa[hd] using this
theorem P1[Inhabited β]{zz:Value}[hM:EH P T K E][hK:Do P K][hz:UO P E zz](hw:Wd Γ S w)(hx:ev ρ x=.map (some b))(hy:ev ρ y=.string a)(hi:S[i]? = some (B5.ms f b l))(hd:f default=zz) :
  Yields P ⟨d,.lookup T x y false,ty,pos,es,g⟩ ρ w (f ((I3 l a).getD default)):=by
 cases hg:I3 l a with
 | some u=>
  have:=CM (P:=P) (K:=K) (α:=ByteArray) (d:=d) (T:=T) (ty:=ty) (pos:=pos) (es:=es) (g:=g) hw hx hy hi hg false
  simpa using this
 | none=>
  have:=Bw (P:=P) (K:=K) (α:=ByteArray) (d:=d) (T:=T) (ty:=ty) (pos:=pos) (es:=es) (g:=g) hw hx hy hi hg false
  simpa[hd] using this
theorem j4[hM:EH P T K E][hK:Do P K](hw:Wd Γ S w)(hx:ev ρ x=.map (some b))(hi:S[i]? = some (B5.ms f b l)):Yields P ⟨d,.call { callee:=.builtin .len,args:=#[x],argTypes:=#[T] },ty,pos,es,g⟩ ρ w (.int .i64 l.length):=
 TR (P:=P) (K:=K) (α:=ByteArray) hw hx hi
theorem d9{v:β}[hM:EH P T K E][hK:Do P K](hw:Wd Γ S w)(hx:ev ρ x=.map (some b))(hy:ev ρ y=.string a)(hz:ev ρ z=f v)(hi:S[i]? = some (B5.ms f b l))
  (hk:∀w',Wd Γ (S.set i (B5.ms f b (Gj l a v))) w'→KK undef w'):Step P ⟨d,.mapUpdate T x y z,ty,pos,es,g⟩ ρ w KK:=
 Jx (P:=P) (K:=K) (α:=ByteArray) hw hx hy hz hi hk
theorem KF[hM:EH P T K E][hK:Do P K](hw:Wd Γ S w)(hx:ev ρ x=.map (some b))(hy:ev ρ y=.string a)(hi:S[i]? = some (B5.ms f b l))
  (hk:∀w',Wd Γ (S.set i (B5.ms f b (Bs l a))) w'→KK (.tuple #[]) w'):Step P ⟨d,.call { callee:=.builtin .delete,args:=#[x,y],argTypes:=#[T,U] },ty,pos,es,g⟩ ρ w KK:=
 PM (P:=P) (K:=K) (α:=ByteArray) hw hx hy hi hk
end
def ML(l:List (Fr→List B5)):Nat→Fr→List B5:=fun x=>l.getD x (fun _=>[])
def M0(M:Nat→Fr→List B5)(x:Nat)(m:Fr→List B5):Nat→Fr→List B5:=fun y=>bif [x].contains y then m else M y
abbrev mV(P:Program)(n:Nat)(ops:List Oper)(Γ:C4)(K:List B5)(wr tc stab:List (List Nat)):R6:=⟨P,n,ops,Γ,K,wr,tc,stab,true⟩
def E9(tc stab:List (List Nat))(i:Nat)(M:Nat→Fr→List B5)(g:Fr):List B5:=(tc.getD i []).flatMap fun x=>M x (F3 (stab.getD x []) g D5)
def CL(tc stab:List (List Nat))(i:Nat)(d:Option Tmp):Bool:=match d with|some d=>(tc.getD i []).all fun x=>!((stab.getD x []).contains d)|none=>true
def U7(stab:List (List Nat))(d:Option Tmp):Bool:=match d with|some d=>stab.flatten.contains d|none=>true
section
variable {P:Program}{n:Nat}{ops:List Oper}{Γ:C4}{K:List B5}{wr tc stab:List (List Nat)}{Q:Fr→World→Prop}{i:Nat}{rest:List Oper}{ρ:Fr}{M:Nat→Fr→List B5}{o:Oper}{v:Value}
theorem Cu{g:Fr}{d:Option Tmp}{v:Value}(h:CL tc stab i d=true)(M:Nat→Fr→List B5):E9 tc stab i M (C9 g d v)=E9 tc stab i M g:=by
 refine G5 fun x hx=>?_
 cases d with
 | none=>rfl
 | some d=>
  congr 1
  refine Bi fun t ht=>upd_ne _ _ fun e=>?_
  subst e;have:=(List.all_eq_true.1 h) x hx
  simp at this
  exact this ht
theorem mC(hy:∀Y w g,Wd Γ (K++(E9 tc stab i M g++Y)) w→Step P o (F3 stab.flatten g ρ) w fun u w'=>u=v∧Wd Γ (K++(E9 tc stab i M g++Y)) w')(hw0:wr.getD i []=[])(hg:o.guard=none)(ho:CL tc stab i o.dst=true)
  (h:MSw (mV P n ops Γ K wr tc stab) Q (i+1) rest ⟨C9 ρ o.dst v,M⟩):MSw (mV P n ops Γ K wr tc stab) Q i (o::rest) ⟨ρ,M⟩:=by
 have hn:∀c,Mt.nxt (mV P n ops Γ K wr tc stab) i ⟨ρ,M⟩ c=M:=fun c=>by
  funext x;simp only[Mt.nxt,R6.w,hw0];rfl
 refine⟨⟨v,M⟩,⟨fun Γ' Y w g hr hw=>?_⟩,?_⟩
 ·have hΓ:Γ'=Γ:=hr
  subst hΓ;rw[hn];refine⟨fun _=>(hy Y w g hw).mono fun u w' ⟨h1,h2⟩=>⟨Γ',rfl,?_,fun _=>h1⟩,fun hf=>?_⟩
  ·have:=Cu (g:=g) (v:=u) ho M
   show Wd Γ' (K++(E9 tc stab i M (C9 g o.dst u)++Y)) w'
   rw[this];exact h2
  ·rw[O9 hg]at hf;cases hf
 ·simp only[Mt.next,hn];exact h
theorem mY(h:MSw (mV P n ops Γ K wr tc stab) Q (i+1) rest ⟨C9 ρ o.dst v,M⟩)(hw0:wr.getD i []=[]:=by exact rfl)(hg:o.guard=none:=by exact rfl)(ho:CL tc stab i o.dst=true:=by exact rfl)
  (hy:∀Y w g,Wd Γ (K++(E9 tc stab i M g++Y)) w→Yields P o (F3 stab.flatten g ρ) w v:=by (intro Y w g hw;exact Kd)):MSw (mV P n ops Γ K wr tc stab) Q i (o::rest) ⟨ρ,M⟩:=
 mC (fun Y w g hw=>(hy Y w g hw).step ⟨rfl,hw⟩) hw0 hg ho h
theorem mM{x:Nat}(m:Fr→List B5)(hs:∀Y w g,Wd Γ (K++(E9 tc stab i M g++Y)) w→Step P o (F3 stab.flatten g ρ) w fun u w'=>Wd Γ (K++(E9 tc stab i (M0 M x m) (C9 g o.dst u)++Y)) w'∧(U7 stab o.dst=false→u=v))
  (h:MSw (mV P n ops Γ K wr tc stab) Q (i+1) rest ⟨C9 ρ o.dst v,M0 M x m⟩) (hw0:wr.getD i []=[x]:=by exact rfl) (hg:o.guard=none:=by exact rfl):MSw (mV P n ops Γ K wr tc stab) Q i (o::rest) ⟨ρ,M⟩:=by
 have hn:Mt.nxt (mV P n ops Γ K wr tc stab) i ⟨ρ,M⟩ ⟨v,fun _=>m⟩=M0 M x m:=by
  funext y;simp only[Mt.nxt,R6.w,hw0];rfl
 refine⟨⟨v,fun _=>m⟩,⟨fun Γ' Y w g hr hw=>?_⟩,?_⟩
 ·have hΓ:Γ'=Γ:=hr
  subst hΓ;rw[hn];refine⟨fun _=>(hs Y w g hw).mono fun u w' ⟨h1,h2⟩=>⟨Γ',rfl,h1,h2⟩,fun hf=>?_⟩
  rw[O9 hg]at hf;cases hf
 ·simp only[Mt.next,hn];exact h
theorem X6(h:∀w g,Wd Γ (K++(List.range stab.length).flatMap fun x=>M x (F3 (stab.getD x []) g D5)) w→Q (F3 stab.flatten g ρ) w):MSw (mV P n ops Γ K wr tc stab) Q i [] ⟨ρ,M⟩:=fun Γ' w g hr hw=>by
 have hΓ:Γ'=Γ:=hr
 subst hΓ;exact h w g hw
theorem Bj{id:Nat}{l:List Oper}{QQ:Exit→Fr→World→Prop}{w:World}(K:List B5)(M:List (Fr→List B5))(wr tc stab:List (List Nat))(hw:Wd Γ (K++(List.range stab.length).flatMap fun x=>(ML M) x (F3 (stab.getD x []) ρ D5)) w)
  (h:MSw (mV P n l Γ K wr tc stab) (fun ρ w=>QQ .normal ρ w) 0 l ⟨ρ,ML M⟩) (hm:P.follows .mixedOrders=true:=by kernel_rfl) (hk:O8 n l wr tc stab=true:=by kernel_rfl):W P n (.region id l.toArray true) QQ ρ w:=
 Qb K (ML M) wr tc stab true hm hk hw h
end
attribute [local irreducible] Calls
theorem eq_nilB{s:ByteArray}:(s=⟨#[]⟩)↔s.size=0:=by
 constructor
 ·intro h;rw[h];rfl
 ·intro h;cases s with
  | mk d=>
   have:d.size=0:=h
   rw[Array.eq_empty_of_size_eq_zero this]
theorem ne_nilB{s:ByteArray}:(s≠⟨#[]⟩)↔0<s.size:=by
 rw[Ne,eq_nilB];omega
class PC(P:Program)(f:Nat)(args:List Value)(v:outParam Value):Prop where
 h:∀w,Calls P f args.toArray w fun e w'=>e=.returned v∧w'=w
section
variable {P:Program}{n:Nat}{ops:List Oper}{opa:Array Oper}{Γ:C4}{S K:List B5}{Q:Fr→World→Prop}{QQ:Exit→Fr→World→Prop}{ρ:Fr}{w:World}{rest:List Oper}{wr tc stab:List (List Nat)}{i:Nat}{M:Nat→Fr→List B5}
variable {d:Option Tmp}{ty:TypeId}{pos:String}{es:Array Edge}{v:Value}{f:Nat}{args:List Operand}{tys:Array TypeId}{vs:List Value}{j dj:Nat}{want c:Bool}{g:Option (Nat×Bool)}
theorem PQ[C3 P f][hp:PC P f vs v](ha:EvL ρ args vs):Step P ⟨d,.call { callee:=.value (.func f),args:=args.toArray,argTypes:=tys },ty,pos,es,g⟩ ρ w fun u w'=>u=v∧w'=w:=
 Ak ha.eqA ((hp.h w).mono fun e w' ⟨h1,h2⟩=>⟨v,h1,rfl,h2⟩)
theorem lP[C3 P f](h:L P n opa QQ rest (C9 ρ d v) w)(ha:EvL ρ args vs:=by exact u6)(hd:H3 n d=true:=by exact rfl)(hp:PC P f vs v:=by infer_instance) :
  L P n opa QQ (⟨d,.call { callee:=.value (.func f),args:=args.toArray,argTypes:=tys },ty,pos,es,none⟩::rest) ρ w:=
 K0 rfl hd ((PQ (hp:=hp) ha).mono fun u w' ⟨h1,h2⟩=>by subst h1;subst h2;exact h)
theorem lPG[C3 P f](h:L P n opa QQ rest (C9 ρ d (gv c v)) w)(hj:(opa[j]?).bind (·.dst)=some dj:=by exact rfl)(hjn:H3 n (some dj)=true:=by exact rfl)(hc:G3 (ρ dj) want c:=by exact Gi)(hd:H3 n d=true:=by exact rfl)(ha:c=true→EvL ρ args vs:=by intro hc;exact He)(hp:PC P f vs v:=by infer_instance) :
  L P n opa QQ (⟨d,.call { callee:=.value (.func f),args:=args.toArray,argTypes:=tys },ty,pos,es,some (j,want)⟩::rest) ρ w:=
 Lu rfl hj hjn hc hd (fun ht=>PQ (hp:=hp) (ha ht)) h
theorem qP[C3 P f](h:Qw P n ops Γ S Q rest (C9 ρ d v))(ha:EvL ρ args vs:=by exact u6)(hp:PC P f vs v:=by infer_instance) :
  Qw P n ops Γ S Q (⟨d,.call { callee:=.value (.func f),args:=args.toArray,argTypes:=tys },ty,pos,es,none⟩::rest) ρ:=
 UM rfl rfl (fun Y w hw=>(PQ (hp:=hp) ha).mono fun u w' ⟨h1,h2⟩=>⟨h1,by subst h2;exact hw⟩) h
theorem Dj[C3 P f](h:Qw P n ops Γ S Q rest (C9 ρ d (gv c v)))(hj:(ops[j]?).bind (·.dst)=some dj:=by exact rfl)(hc:G3 (ρ dj) want c:=by exact Gi)(ha:c=true→EvL ρ args vs:=by intro hc;exact He)(hp:PC P f vs v:=by infer_instance) :
  Qw P n ops Γ S Q (⟨d,.call { callee:=.value (.func f),args:=args.toArray,argTypes:=tys },ty,pos,es,some (j,want)⟩::rest) ρ:=
 RG rfl hj hc rfl (fun ht Y w hw=>(PQ (hp:=hp) (ha ht)).mono fun u w' ⟨h1,h2⟩=>⟨h1,by subst h2;exact hw⟩) h
theorem mP[C3 P f](h:MSw (mV P n ops Γ K wr tc stab) Q (i+1) rest ⟨C9 ρ d v,M⟩)(hw0:wr.getD i []=[]:=by exact rfl)(ho:CL tc stab i d=true:=by exact rfl)(ha:∀g,EvL (F3 stab.flatten g ρ) args vs:=by intro g;exact u6)(hp:PC P f vs v:=by infer_instance) :
  MSw (mV P n ops Γ K wr tc stab) Q i (⟨d,.call { callee:=.value (.func f),args:=args.toArray,argTypes:=tys },ty,pos,es,none⟩::rest) ⟨ρ,M⟩:=
 mC (fun Y w g hw=>(PQ (hp:=hp) (ha g)).mono fun u w' ⟨h1,h2⟩=>⟨h1,by subst h2;exact hw⟩) hw0 rfl ho h
end
def OR(P:Program)(ρ:Fr)(w:World):ResultVar→Value→Prop
 | .tmp t,v=>ρ t=v
 | .cell a T,v=>∃A,ρ a=.pointer (some A)∧(loadVar T A).run P w=.ok v w
def RO(P:Program)(ρ:Fr)(w:World):List ResultVar→List Value→Prop
 | [],[]=>True
 | r::rs,v::vs=>OR P ρ w r v∧RO P ρ w rs vs
 | _,_=>False
def Ms:List Value→Value
 | [v]=>v
 | vs=>.tuple vs.toArray
def UZ(P:Program)(rs:Array ResultVar)(R:Ending→World→Prop):Exit→Fr→World→Prop
 | .normal,ρ,w|.ret,ρ,w=>∃vs,RO P ρ w rs.toList vs∧R (.returned (Ms vs)) w
 | .panic ch,_,w=>R (.panicked ch) w
 | .outgrown,_,w=>R .outgrown w
 | _,_,_=>False
def Iw(tmps:Array Value):ResultVar→Sem Value
 | .tmp t=>pure (tmps.getD t undef)
 | .cell a t=>do loadVar t (←asAddr (tmps.getD a undef))
theorem GU(fn:Func)(tmps:Array Value):results fn tmps=(do let vs ← fn.results.mapM (Iw tmps);pure (if h:vs.size=1 then vs[0] else .tuple vs)):=by
 have:(fun r:ResultVar=>match r with|.tmp t=>(pure (tmps.getD t undef):Sem Value)|.cell a t=>do loadVar t (←asAddr (tmps.getD a undef)))=Iw tmps:=by
  funext r;cases r <;> rfl
 rw[←this];rfl
theorem OR.run{P:Program}{a:Act}{w:World}{r:ResultVar}{v:Value}(h:OR P (D9 a) w r v):(Iw a.tmps r).run P w=.ok v w:=by
 cases r with
 | tmp t=>have:a.tmps.getD t undef=v:=h;simp only[Iw,Sem.run_pure,this]
 | cell x t=>
  obtain⟨A,h1,h2⟩:=h;have h3:a.tmps.getD x undef=.pointer (some A):=h1
  simp only[Iw,h3]
  simpa[asAddr] using h2
theorem T2{P:Program}{fn:Func}{a:Act}{w:World}{vs:List Value}(hl:fn.results.size≤3)(h:RO P (D9 a) w fn.results.toList vs):(results fn a.tmps).run P w=.ok (Ms vs) w:=by
 obtain⟨l,hfl⟩:∃l:List ResultVar,fn.results=l.toArray:=⟨fn.results.toList,by simp⟩
 rw[GU];rw[hfl]at h hl ⊢
 simp only at h
 rcases l with _|⟨x1,_|⟨x2,_|⟨x3,_|⟨x4,l⟩⟩⟩⟩ <;> rcases vs with _|⟨v1,_|⟨v2,_|⟨v3,_|⟨v4,vs⟩⟩⟩⟩ <;> simp only[RO,and_false]at h <;> try exact h.elim
 ·simp[Ms]
 ·simp[Ms,h.1.run]
 ·simp[Ms,h.1.run,h.2.1.run]
 ·simp[Ms,h.1.run,h.2.1.run,h.2.2.1.run]
 all_goals (simp at hl <;> omega)
theorem F1{P:Program}{f:FuncId}{fn:Func}{c:Code}{args:Array Value}{w:World}{R:Ending→World→Prop}(hf:P.funcs[f]? = some fn)(hb:fn.body=some c)
  (hn:(Nat.ble args.size fn.ntmps&&Nat.ble fn.results.size 3)=true) (h:W P fn.ntmps c (UZ P fn.results R) (V3 args) w):Calls P f args w R:=by
 rw[Bool.and_eq_true]at hn;have hle:args.size≤fn.ntmps:=Nat.le_of_ble_eq_true hn.1
 have hl3:fn.results.size≤3:=Nat.le_of_ble_eq_true hn.2
 unfold W at h;refine calls_of_wp hf hb (Code.wp_mono ?_ (h _ rfl (by simp;omega) ?_))
 ·rintro e a w ⟨hd,hs,hq⟩
  cases e with
  | normal=>obtain⟨v,hv,hR⟩:=hq;exact⟨hd,_,T2 hl3 hv,hR⟩
  | ret=>obtain⟨v,hv,hR⟩:=hq;exact⟨hd,_,T2 hl3 hv,hR⟩
  | panic ch=>exact⟨hd,hq⟩
  | outgrown=>exact hq
  | exit id=>exact hq.elim
  | goto l=>exact hq.elim
 ·funext t
  simp only[D9,V3,Array.getD_eq_getD_getElem?,Array.getElem?_append]
  by_cases ht:t<args.size
  ·rw[if_pos ht]
  ·rw[if_neg ht,Array.getElem?_eq_none (by omega:args.size≤t)]
   simp only[Array.getElem?_replicate]
   split <;> rfl
theorem J2{P:Program}{Γ:C4}{S:List B5}{ρ:Fr}{w:World}{t T m i b:Nat}{cs:Array Value}{E:TypeId}{fr:Nat×Nat}[ha:TA P T m](hw:Wd Γ S w)(hi:S[i]? = some (.blk b (.cells cs E fr)))(hx:ρ t=.pointer (some ⟨b,0,none⟩))(hm:cs.size=m):OR P ρ w (.cell t T) (.agg cs):=by
 refine⟨_,hx,?_⟩
 have h:=ha.h
 unfold IZ at h;cases hu:P.underlying T with
 | none=>simp[hu]at h
 | some u=>
  simp[hu]at h
  have h2:=FY (o:=0) (n:=cs.size) (hw.at_blk hi)
  have h1:=run_loadAt_mid (P:=P) w b 0 T cs.toList u (by simpa using h2) hu h.1 (by simp[h.2,hm])
  simpa[Instr.loadAt,Instr.sureAddr,asAddr] using h1
end Mk
end
section
open Go
namespace Mk
def IT(v:Value)(F:Nat→List B5):B5:=B5.ex (α:={bb:Nat // v=.pointer (some ⟨bb,0,none⟩)}) fun p=>F p.1
section
variable {P:Program}{n:Nat}{ops:List Oper}{Γ:C4}{S K:List B5}{wr tc stab:List (List Nat)}{Q:Fr→World→Prop}{i:Nat}{rest:List Oper}{ρ:Fr}{w:World}{M:Nat→Fr→List B5}{v:Value}{F:Nat→List B5}
variable {d:Option Tmp}{T U ty:TypeId}{pos:String}{es:Array Edge}{x y z:Operand}
theorem Wd.mid{r:B5}{Y:List B5}(h:Wd Γ (K++(r::Y)) w):Wd Γ (r::(K++Y)) w:=h.perm List.perm_middle
theorem Wd.unmid{r:B5}{Y:List B5}(h:Wd Γ (r::(K++Y)) w):Wd Γ (K++(r::Y)) w:=h.perm List.perm_middle.symm
theorem Wd.swapApp{A B C:List B5}(h:Wd Γ (A++(B++C)) w):Wd Γ (B++(A++C)) w:=h.perm (by
 rw[←List.append_assoc,←List.append_assoc];exact List.perm_append_comm.append_right C)
theorem Wd.openAt(h:Wd Γ (IT v F::S) w):∃bb,v=.pointer (some ⟨bb,0,none⟩)∧Wd Γ (F bb++S) w:=by
 obtain⟨⟨bb,hb⟩,h'⟩:=h.openEx;exact⟨bb,hb,h'⟩
theorem Wd.closeAt{bb:Nat}(h:Wd Γ (F bb++S) w):Wd Γ (IT (.pointer (some ⟨bb,0,none⟩)) F::S) w:=Wd.closeEx (X:=fun p:{c:Nat // Value.pointer (some ⟨bb,0,none⟩)=.pointer (some ⟨c,0,none⟩)}=>F p.1) ⟨bb,rfl⟩ h
theorem B6{c:Nat}{m:Fr→List B5}:M0 M c m c=m:=by simp[M0]
theorem Ce{c dd:Nat}{cs:List Value}[TZ P T cs](h:MSw (mV P n ops Γ K wr tc stab) Q (i+1) rest ⟨C9 ρ (some dd) undef,M0 M c fun g=>[IT (g dd) fun bb=>[.blk bb (.cells cs.toArray T)]]⟩)
  (ht:tc.getD i []=[c]:=by exact rfl) (hM:M c=(fun _=>[]):=by exact rfl) (hs:(stab.getD c []).contains dd=true:=by exact rfl) (hf:U7 stab (some dd)=true:=by exact rfl) (hw0:wr.getD i []=[c]:=by exact rfl) :
  MSw (mV P n ops Γ K wr tc stab) Q i (⟨some dd,.alloc T,ty,pos,es,none⟩::rest) ⟨ρ,M⟩:=by
 refine mM _ (fun Y w g hw=>?_) h hw0 rfl
 have hw1:Wd Γ (K++Y) w:=by
  have:E9 tc stab i M g=[]:=by unfold E9;rw[ht];simp[hM]
  rw[this]at hw;exact hw
 refine LY hw1 fun b w' hw'=>⟨?_,fun hh=>by rw[hf]at hh;cases hh⟩
 have e:E9 tc stab i (M0 M c fun g=>[IT (g dd) fun bb=>[.blk bb (.cells cs.toArray T)]]) (C9 g (some dd) (.pointer (some ⟨b,0,none⟩)))=[IT (.pointer (some ⟨b,0,none⟩)) fun bb=>[.blk bb (.cells cs.toArray T)]]:=by
  unfold E9;rw[ht];have h1:F3 (stab.getD c []) (C9 g (some dd) (.pointer (some ⟨b,0,none⟩))) D5 dd=.pointer (some ⟨b,0,none⟩):=by
   rw[L8 (by simpa using hs)];exact upd_same _ _ _
  simp only[List.flatMap_cons,List.flatMap_nil,List.append_nil,B6,h1]
 rw[e];exact Wd.unmid (Wd.closeAt (F:=fun bb=>[.blk bb (.cells cs.toArray T)]) hw')
theorem o5{c dd m:Nat}{cs:Array Value}{E:TypeId}{vs:List Value}[hn:Ly P T m](h:MSw (mV P n ops Γ K wr tc stab) Q (i+1) rest ⟨ρ,M0 M c fun g=>[IT (g dd) fun bb=>[.blk bb (.cells (putCells cs 0 vs) E)]]⟩)
  (hd:stab.flatten.contains dd=true:=by exact rfl) (ht:tc.getD i []=[c]:=by exact rfl) (hM:M c=(fun g=>[IT (g dd) fun bb=>[.blk bb (.cells cs E)]]):=by exact rfl) (hs:(stab.getD c []).contains dd=true:=by exact rfl) (hw0:wr.getD i []=[c]:=by exact rfl)
  (hy:∀g,ev (F3 stab.flatten g ρ) y=v:=by intro g;exact Y1) (hv:v.cells.toList=vs:=by exact rfl) (hl:vs.length=m:=by exact rfl) (h1:vs.all (·.oneCell')=true:=by exact rfl) (ho:m≤cs.size:=by exact Nat.le_of_ble_eq_true rfl) :
  MSw (mV P n ops Γ K wr tc stab) Q i (⟨none,.store T (.tmp dd) y,ty,pos,es,none⟩::rest) ⟨ρ,M⟩:=by
 refine mM (v:=undef) _ (fun Y w g hw=>?_) h hw0 rfl
 have e:E9 tc stab i M g=[IT (g dd) fun bb=>[.blk bb (.cells cs E)]]:=by
  unfold E9;rw[ht];have h1:F3 (stab.getD c []) g D5 dd=g dd:=L8 (by simpa using hs)
  simp only[List.flatMap_cons,List.flatMap_nil,List.append_nil,hM,h1]
 rw[e]at hw;obtain⟨bb,hb,hw1⟩:=(Wd.mid hw).openAt
 have hx:ev (F3 stab.flatten g ρ) (.tmp dd)=.pointer (some ⟨bb,0,none⟩):=by
  show F3 stab.flatten g ρ dd=_
  rw[L8 (by simpa using hd)];exact hb
 refine X4 hn.h hw1 hx (hy g) hv hl (fun u hu=>(List.all_eq_true.1 h1) u hu) (i:=0) rfl (by omega) fun w' hw'=>⟨?_,fun hh=>rfl⟩
 have e2:E9 tc stab i (M0 M c fun g=>[IT (g dd) fun bb=>[.blk bb (.cells (putCells cs 0 vs) E)]]) (C9 g none undef)=[IT (.pointer (some ⟨bb,0,none⟩)) fun bb=>[.blk bb (.cells (putCells cs 0 vs) E)]]:=by
  unfold E9;rw[ht];have h1:F3 (stab.getD c []) g D5 dd=.pointer (some ⟨bb,0,none⟩):=(L8 (by simpa using hs)).trans hb
  simp only[List.flatMap_cons,List.flatMap_nil,List.append_nil,B6,C9,h1]
 rw[e2];exact Wd.unmid (Wd.closeAt (F:=fun bb=>[.blk bb (.cells (putCells cs 0 vs) E)]) hw')
theorem O0{dd:Nat}(h:∀bb w,Wd Γ (F bb++K) w→Q (upd ρ dd (.pointer (some ⟨bb,0,none⟩))) w)(hM:M 0=(fun g=>[IT (g dd) F]):=by exact rfl):MSw (mV P n ops Γ K wr tc [[dd]]) Q i [] ⟨ρ,M⟩:=
 X6 fun w g hw=>by
  have h0:((List.range [[dd]].length).flatMap fun x=>M x (F3 ([[dd]].getD x []) g D5))=[IT (g dd) F]:=by
   show M 0 (F3 [dd] g D5)++[]=_
   rw[hM];show [IT (upd D5 dd (g dd) dd) F]++[]=_
   rw[upd_same];rfl
  rw[h0]at hw;obtain⟨bb,hb,hw1⟩:=(Wd.mid hw).openAt
  have:=h bb w (by simpa using hw1)
  rwa [←hb]at this
theorem W0(h:∀w,Wd Γ (K++(List.range stab.length).flatMap fun x=>M x D5) w→Q ρ w)(hs:stab.all (fun l=>l.isEmpty)=true:=by exact rfl):MSw (mV P n ops Γ K wr tc stab) Q i [] ⟨ρ,M⟩:=
 X6 fun w g hw=>by
  have h1:∀x,stab.getD x []=[]:=fun x=>by
   rw[List.getD_eq_getElem?_getD];cases hx:stab[x]? with
   | none=>rfl
   | some l=>
    have:=(List.all_eq_true.1 hs) l (List.mem_of_getElem? hx)
    simpa using this
  have h2:stab.flatten=[]:=by
   rw[List.flatten_eq_nil_iff];intro l hl;have:=(List.all_eq_true.1 hs) l hl
   simpa using this
  rw[h2];refine h w ?_
  have:((List.range stab.length).flatMap fun x=>M x (F3 (stab.getD x []) g D5))=(List.range stab.length).flatMap fun x=>M x D5:=G5 fun x _=>by rw[h1 x];rfl
  rwa [this]at hw
end
section
variable {P:Program}{n:Nat}{opa:Array Oper}{Γ:C4}{S:List B5}{QQ:Exit→Fr→World→Prop}{ρ:Fr}{w:World}{rest:List Oper}{d:Option Tmp}{T ty:TypeId}{pos:String}{es:Array Edge}{x y:Operand}
theorem Bv{E by' i sz m c m2 c2:Nat}{zs:List Value}{a a2:Option Addr}{rows rows2:List (List Value)}[TL P T E sz by' zs](h:∀v' w',Wd Γ (S.set i (.own v' E sz (rows++rows2))) w'→L P n opa QQ rest (C9 ρ d v') w')(hr2:Rd w a2 sz rows2)(hx:ev ρ x=.slice a m c:=by exact rfl)(hy:ev ρ y=.slice a2 m2 c2:=by exact rfl)(hw:Wd Γ S w:=by exact hw)
  (hi:S[i]? = some (.own (.slice a m c) E sz rows):=by exact Gh) (h1:rows2.flatten.all (·.oneCell')=true:=by exact rfl) (hm:m2=rows2.length:=by exact rfl) (hb:(m+m2)*by'≤140737488355328:=by omega) (h63:m+m2≤9223372036854775807:=by omega) (hd:H3 n d=true:=by exact rfl) :
  L P n opa QQ (⟨d,.call { callee:=.builtin .append,args:=#[x,y],argTypes:=#[T,T] },ty,pos,es,none⟩::rest) ρ w:=Rv h hr2 hm (fun u hu=>(List.all_eq_true.1 h1) u hu) hb h63 hw hx hy hi hd
end
end Mk
end
section
open Go
open Go.ChangeMaps (setBlock)
namespace Mk
section
variable {P:Program}{Γ:C4}{S:List B5}{w:World}{ρ:Fr}{K:Value→World→Prop}
variable {d:Option Tmp}{T ty:TypeId}{pos:String}{es:Array Edge}{g:Option (Nat×Bool)}{x y z:Operand}
end
section
variable {P:Program}{n:Nat}{opa:Array Oper}{Γ:C4}{S:List B5}{QQ:Exit→Fr→World→Prop}{ρ:Fr}{w:World}{rest:List Oper}
variable {d:Option Tmp}{T ty:TypeId}{pos:String}{es:Array Edge}{x:Operand}
end
section
attribute [local semireducible] Step L W
variable {P:Program}{n:Nat}{Q:Exit→Fr→World→Prop}{ρ:Fr}{w:World}{ro:Option Nat}{ds:List Deferred}
end
end Mk
namespace Mk
theorem Kb{args:Array Value}{n:Nat}(hn:Nat.ble args.size n=true):D9 { tmps:=args++Array.replicate (n-args.size) undef,defers:=[] }=V3 args:=by
 funext t
 simp only[D9,V3,Array.getD_eq_getD_getElem?,Array.getElem?_append]
 have hle:args.size≤n:=Nat.le_of_ble_eq_true hn
 by_cases ht:t<args.size
 ·rw[if_pos ht]
 ·rw[if_neg ht,Array.getElem?_eq_none (by omega:args.size≤t)]
  simp only[Array.getElem?_replicate]
  split <;> rfl
end Mk
namespace Mk
section
variable {P:Program}{n:Nat}{Γ:C4}{S:List B5}{Q:Exit→Fr→World→Prop}{ρ:Fr}{w:World}{rest:List Oper}
variable {d:Option Tmp}{T U ty:TypeId}{pos:String}{es:Array Edge}{x y z:Operand}{v:Value}
end
end Mk
namespace Mk
end Mk
namespace Mk
end Mk
end
section
open Go
namespace Mk
def IH(w:World):C4:=⟨fun b=>w.heap[b]?,w.os,w.tape,w.output,w.drawn⟩
theorem Md(w:World):Wd (IH w) [] w:=⟨rfl,rfl,rfl,Nat.le_refl _,fun b o h=>h,[],trivial,by simp,by simp⟩
theorem HN{w w':World}{S:List B5}(h:Wd (IH w) S w'):∃q os',w'=Go.Sort.grow (w.drewN q) os':=by
 have hsz:w.heap.size≤w'.heap.size:=by
  by_cases h0:w.heap.size=0
  ·omega
  ·have hl:w.heap.size-1<w.heap.size:=by omega
   have:=h.imm (w.heap.size-1) w.heap[w.heap.size-1] (by show w.heap[_]? = _;simp)
   have:=(Array.getElem?_eq_some_iff.1 this).1
   omega
 refine⟨w'.drawn-w.drawn,w'.heap.extract w.heap.size w'.heap.size,?_⟩
 have hh:w'.heap=w.heap++w'.heap.extract w.heap.size w'.heap.size:=by
  refine Array.ext_getElem? fun i=>?_
  rw[Array.getElem?_append];split
  ·rename_i hi
   rw[h.imm i w.heap[i] (by show w.heap[i]? = _;simp[hi]),Array.getElem?_eq_getElem hi]
  ·rename_i hi
   simp only[Array.getElem?_extract]
   split
   ·congr 1;omega
   ·rw[Array.getElem?_eq_none (by omega)]
 have hd:w.drawn≤w'.drawn:=h.dr
 cases w' with
 | mk hp tp dr os out=>
  simp only at hh hd
  have e1:os=w.os:=h.os
  have e2:tp=w.tape:=h.tape
  have e3:out=w.output:=h.out
  subst e1 e2 e3;unfold Go.Sort.grow World.drewN;simp only[World.mk.injEq]
  exact⟨hh,trivial,by omega,trivial,trivial⟩
section
variable {P:Program}{Γ:C4}{S:List B5}{w:World}{α:Type}[Inhabited α]{E k n c g i:Nat}{enc:α→List Value}
attribute [local semireducible] B5.own
theorem Dn{v:Value}{sz e:Nat}{rows:List (List Value)}(hw:Wd Γ S w)(hi:S[i]? = some (.own v e sz rows)):∃a n c,v=.slice a n c∧n=rows.length∧n≤c∧c≤maxLen∧(c=0∨∃g cur,a=some ⟨g,0,none⟩∧g<w.heap.size∧w.heap[g]? = some (.cells cur e (0,0))∧cur.size=c*sz∧cur.toList.take (n*sz)=rows.flatten):=by
 obtain⟨bs,_,a,n,c,h1,h2,h3,h4,h5⟩:=hw.own_holds hi
 refine⟨a,n,c,h1,h2,h3,h4,h5.imp (fun h=>h.1) ?_⟩
 rintro⟨g,cur,g1,g2,g3,g4,g5⟩;exact⟨g,cur,g1,(Array.getElem?_eq_some_iff.1 g3).1,g3,g4,g5⟩
theorem Cv(hk:∀x,(enc x).length=k)(xs:List α):(Go.Sort.flatK enc k xs.toArray).toList=(xs.map enc).flatten:=by
 have hl:∀r∈xs.map enc,r.length=k:=fun r hr=>by obtain⟨x,_,rfl⟩:=List.mem_map.1 hr;exact hk x
 have h2:(xs.map enc).flatten.length=xs.length*k:=by rw[Q1 hl,List.length_map]
 refine List.ext_getElem? fun t=>?_
 by_cases ht:t<xs.length*k
 ·have hk0:0<k:=by
   rcases Nat.eq_zero_or_pos k with h0|h0
   ·subst h0;simp at ht
   ·exact h0
  have h3:t / k<xs.length:=Nat.div_lt_of_lt_mul (by rw[Nat.mul_comm];exact ht)
  have h4:t%k<k:=Nat.mod_lt _ hk0
  have h5:(enc xs[t / k]).length=k:=hk _
  have h6:=x5 (rows:=xs.map enc) (i:=t / k) (r:=enc xs[t / k]) hl (by simp[h3]) (t%k) ((enc xs[t / k])[t%k]'(by omega)) (by simp[h5,h4])
  have h7:t / k*k+t%k=t:=by rw[Nat.mul_comm];exact Nat.div_add_mod t k
  rw[h7]at h6;rw[h6];have hs:t<(Go.Sort.flatK enc k xs.toArray).size:=by simpa using ht
  rw[Array.getElem?_toList,Array.getElem?_eq_getElem hs,←getElem!_pos (Go.Sort.flatK enc k xs.toArray) t hs,Go.Sort.get_flatK _ _ _ _ (by simpa using ht)]
  simp[h3,h5,h4]
 ·rw[List.getElem?_eq_none (by simp;omega),List.getElem?_eq_none (by omega)]
theorem FV{xs:List α}(hk:∀x,(enc x).length=k)(hw:Wd Γ S w)(hi:S[i]? = some (.own (.slice (some ⟨g,0,none⟩) n c) E k (xs.map enc)))(hc:0<c):Go.Sort.HoldsK enc k w g 0 xs.toArray∧g<w.heap.size:=by
 obtain⟨a,n',c',e1,e2,e3,e4,e5⟩:=Dn hw hi
 cases e1
 rcases e5 with e5|⟨g',cur,g1,g2,g3,g4,g5⟩
 ·omega
 cases g1
 refine⟨fun j hj=>?_,g2⟩
 have hj':j<xs.length*k:=by simpa using hj
 rw[←Cv hk]at g5;have hn:n=xs.length:=by simpa using e2
 subst hn;have h1:(cur.toList.take (xs.length*k))[j]? = cur[j]?:=by rw[List.getElem?_take_of_lt hj',Array.getElem?_toList]
 rw[g5,Array.getElem?_toList,Array.getElem?_eq_getElem hj]at h1;constructor
 ·simp only[World.cell?,g3,Nat.zero_add,id]
  simp only[Option.isSome_none,Bool.false_eq_true,if_false]
  rw[←h1,getElem!_pos _ j hj]
 ·simp[World.frozen?,g3]
theorem g9{xs:List α}(hk:∀x,(enc x).length=k)(hw:Wd Γ S w)(hi:S[i]? = some (.own (.slice (some ⟨g,0,none⟩) n c) E k (xs.map enc)))(hc:0<c)(dk:Array α)(hs:dk.size=xs.length)(m:Nat)(os:Array Obj) :
  Wd Γ (S.set i (.own (.slice (some ⟨g,0,none⟩) n c) E k (dk.toList.map enc))) (Go.Proofs.sortWorldK enc k w g 0 m dk os):=by
 have hsz:(Go.Proofs.sortWorldK enc k w g 0 m dk os).heap.size=w.heap.size+os.size:=by
  simp[Go.Proofs.sortWorldK,Go.Sort.grow,Go.Sort.putRowK,Go.Sort.putRow,Go.Sort.mapBlock,Go.Sort.ahead]
 refine hw.upd hi ⟨rfl,rfl,rfl,Nat.le_add_right _ _,by omega⟩ fun bs hr hnd hlt=>?_
 unfold B5.own at hr ⊢
 obtain⟨h0,a',n',c',e1,e2,e3,e4,e5⟩:=hr;cases e1
 rcases e5 with⟨e5,_⟩|⟨g',cur,g1,rfl,g3,g4,g5⟩
 ·omega
 cases g1
 have hn:n=xs.length:=by simpa using e2
 subst hn;have hglt:g<w.heap.size:=hlt g (by simp)
 have hkk:∀b,b<w.heap.size→(Go.Proofs.sortWorldK enc k w g 0 m dk os).heap[b]? = (w.heap.modify g (Go.Sort.onCells (Go.Sort.putCells id 0 (Go.Sort.flatK enc k dk))))[b]?:=fun b hb=>by
  show ((w.heap.modify g _)++os)[b]? = _
  rw[Array.getElem?_append_left (by simpa using hb)]
 refine⟨[g],⟨fun r hr=>?_,_,_,_,rfl,by simp[hs],e3,e4,.inr ⟨g,Go.Sort.putCells id 0 (Go.Sort.flatK enc k dk) cur,rfl,rfl,?_,?_,?_⟩⟩,by simp,fun b hb=>⟨by have:=hlt b hb;omega,.inl hb⟩,fun b hb hne=>?_⟩
 ·obtain⟨x,_,rfl⟩:=List.mem_map.1 hr;exact hk x
 ·show (Go.Proofs.sortWorldK enc k w g 0 m dk os).heap[g]? = _
  rw[hkk g hglt,Array.getElem?_modify,if_pos rfl];simp only[hp]at g3
  rw[g3];rfl
 ·rw[←g4];simp[Go.Sort.putCells]
 ·rw[show dk.toList.map enc=((dk.toList).map enc) from rfl,←Cv hk];refine List.ext_getElem? fun j=>?_
  have hfs:(Go.Sort.flatK enc k dk.toList.toArray).size=xs.length*k:=by simp[hs]
  by_cases hj:j<xs.length*k
  ·have hjc:j<cur.size:=by
    rw[g4];exact Nat.lt_of_lt_of_le hj (Nat.mul_le_mul_right _ e3)
   rw[List.getElem?_take_of_lt hj,Array.getElem?_toList,Array.getElem?_toList,Array.getElem?_eq_getElem (by simpa[Go.Sort.putCells] using hjc),Array.getElem?_eq_getElem (by rw[hfs];exact hj)]
   simp only[Go.Sort.putCells,Array.getElem_mapIdx,Nat.zero_le,Nat.sub_zero,Nat.zero_add,true_and,id]
   rw[if_pos (by simpa[hs] using hj),getElem!_pos _ j (by simpa[hs] using hj)]
  ·rw[List.getElem?_eq_none (by simp;omega),List.getElem?_eq_none (by simp[hs];omega)]
 ·rw[hkk b hb,Array.getElem?_modify,if_neg (fun e=>hne (by simp[e]))]
theorem Ea{d d':Array α}(h:Go.Sort.PermIn 0 d.size d d'):d'.toList.Perm d.toList:=by
 obtain⟨h1,_,h2⟩:=h;have e:∀x:Array α,x.size=d.size→x.extract 0 d.size=x:=fun x hx=>by rw[←hx];simp
 rwa [e d' h1,e d rfl]at h2
theorem Bz{lt:α→α→Bool}{d:Array α}{m:Nat}(hm:m=d.size)(h:Go.Sort.SortedIn lt 0 m d):d.toList.Pairwise fun a b=>lt b a=false:=by
 subst hm;rw[List.pairwise_iff_getElem];intro i j hi hj hij;have:=h i j (Nat.zero_le _) hij (by simpa using hj)
 simp only[Array.length_toList]at hi hj
 simpa[hi,hj] using this
theorem Ki{ρ:Go.Shelf.Ren}(L:Go.Proofs.SlLaysF0.n6 P ρ)(cf:α→α→Int)(f:Nat)(cap:List Value)[C3 P f](xs:List α)(v:Value)(hw:Wd Γ S w)(hi:S[i]? = some (.own v E k (xs.map enc)))
  (hk:∀x,(enc x).length=k) (h1:∀x,∀u∈enc x,u.oneCell'=true) (hA:TA P (ρ.t 24) k) (hO:Go.Sort.SWO (Go.Proofs.ltOf cf)) (hlen:xs.length<4611686018427387904)
  (hcmp:∀(dk:List α) w',Wd Γ (S.set i (.own v E k (dk.map enc))) w'→∀x y,Calls P f (#[.agg (enc x).toArray,.agg (enc y).toArray]++cap.toArray) w' fun e w''=>e=.returned (.int .i64 (cf x y))∧∃S'',Wd (IH w') S'' w'') :
  Calls P (ρ.f 6) #[v,.func (.func f) #[] cap.toArray] w fun e w'=>e=.returned (.tuple #[])∧∃ys:List α,ys.Perm xs∧(ys.Pairwise fun a b=>Go.Proofs.ltOf cf b a=false)∧Wd Γ (S.set i (.own v E k (ys.map enc))) w':=by
 obtain⟨a,n,c,rfl,e2,e3,e4,e5⟩:=Dn hw hi
 have hn:n=xs.length:=by simpa using e2
 by_cases h0:n=0
 ·have hx:xs=[]:=List.eq_nil_of_length_eq_zero (by omega)
  subst h0;refine(Go.Proofs.AnyF.slices_SortFunc_none (P:=P) (ρ:=ρ) L a c _ w).mono ?_
  rintro e w' ⟨he,rfl⟩
  refine⟨he,[],by rw[hx],List.Pairwise.nil,?_⟩
  rw[hx]at hi;have hset:S.set i (.own (.slice a 0 c) E k (([]:List α).map enc))=S:=by
   obtain⟨hil,hie⟩:=List.getElem?_eq_some_iff.1 hi
   rw[←hie];exact List.set_getElem_self hil
  rw[hset];exact hw
 ·have hc:0<c:=by omega
  rcases e5 with e5|⟨g,cur,rfl,hg,hcur,hcs,htk⟩
  ·omega
  obtain⟨hH,hgl⟩:=FV hk hw hi hc
  have haggz:(∀w,(isAgg (ρ.t 24)).run P w=.ok true w)∧∀w,(Go.sizeOf (ρ.t 24)).run P w=.ok k w:=by
   have h:=hA.h
   unfold IZ at h;cases hu:P.underlying (ρ.t 24) with
   | none=>simp[hu]at h
   | some t=>
    simp[hu]at h
    cases hq:P.info? (ρ.t 24) with
    | none=>simp[hq]at h
    | some q=>
     simp[hq]at h
     refine⟨fun w=>?_,fun w=>by simp[Go.sizeOf,typeInfo,hq,h.2]⟩
     unfold isAgg;rw[Sem.run_bind,run_underlying hu w];cases t <;> simp_all [TypeDesc.isRow]
  have:=Go.Proofs.AnyQ.slices_SortFunc L k haggz.1 haggz.2 enc hk h1 cf hO f cap.toArray g 0 c xs.toArray w (fun args w=>Q2 args) (fun m os dk hdk x y=>?_) hH hgl (by simpa using hlen)
  ·simp only[List.size_toArray]at this
   rw[←hn]at this;refine this.mono ?_
   rintro e w' ⟨he,d',n',os,hp,hs,rfl⟩
   have hd:d'.size=xs.length:=by have:=hp.1;simpa using this
   refine⟨he,d'.toList,by simpa using Ea (d:=xs.toArray) (by simpa[←hn] using hp),Bz (m:=n) (by omega) hs,g9 hk hw hi hc d' hd n' os⟩
  ·have hw1:=g9 hk hw hi hc dk (by simpa using hdk) m os
   refine(hcmp dk.toList _ hw1 x y).mono ?_
   rintro e w'' ⟨he,S'',hw2⟩
   exact⟨he,HN hw2⟩
end
section
variable {P:Program}{n:Nat}{ops:List Oper}{Γ:C4}{S K:List B5}{wr tc stab:List (List Nat)}{Q:Fr→World→Prop}{QQ:Exit→Fr→World→Prop}{i:Nat}{rest:List Oper}{ρ:Fr}{w:World}{M:Nat→Fr→List B5}{v:Value}
variable {d:Option Tmp}{T U ty:TypeId}{pos:String}{es:Array Edge}{x y z:Operand}
def Oe(i:Nat)(S:List B5):List B5:=match S[i]? with|some r=>r::S.eraseIdx i|none=>S
def VB:List Nat→List B5→List B5
 | [],S=>S
 | i::is,S=>VB is (Oe i S)
theorem Wd.ps{Γ:C4}{w:World}:∀(is:List Nat) {S:List B5},Wd Γ S w→Wd Γ (VB is S) w
 | [],_,h=>h
 | i::is,S,h=>Wd.ps is (by
  unfold Oe;split
  ·rename_i r hr;exact h.pull hr
  ·exact h)
def dsL:List Nat→List B5→List B5
 | [],S=>S
 | i::is,S=>dsL is (S.eraseIdx i)
theorem Wd.ds{Γ:C4}{w:World}:∀(is:List Nat) {S:List B5},Wd Γ S w→Wd Γ (dsL is S) w
 | [],_,h=>h
 | i::is,_,h=>Wd.ds is (h.dropAt i)
theorem Wd.flip{A B:List B5}(h:Wd Γ (A++B) w):Wd Γ (B++A) w:=h.perm List.perm_append_comm
theorem Wd.dropEnd{A B C:List B5}(h:Wd Γ (A++(B++C)) w):Wd Γ (A++B) w:=by
 rw[←List.append_assoc]at h;exact h.left
theorem Wd.right{S':List B5}(h:Wd Γ (S'++S) w):Wd Γ S w:=(h.perm List.perm_append_comm).left
theorem Dx{id:Nat}{l:List Oper}(k:Nat)(wr tc stab:List (List Nat))(h:MSw (mV P n l Γ K wr tc stab) (fun ρ w=>QQ .normal ρ w) 0 l ⟨ρ,ML (List.replicate k fun _=>[])⟩)
  (hw:Wd Γ K w:=by exact hw) (hm:P.follows .mixedOrders=true:=by kernel_rfl) (hk:O8 n l wr tc stab=true:=by kernel_rfl):W P n (.region id l.toArray true) QQ ρ w:=
 Bj K _ wr tc stab (by
  have:((List.range stab.length).flatMap fun x=>ML (List.replicate k fun _=>[]) x (F3 (stab.getD x []) ρ D5))=[]:=by
   rw[List.flatMap_eq_nil_iff];intro x _;unfold ML;rw[List.getD_eq_getElem?_getD];cases hx:(List.replicate k fun _:Fr=>([]:List B5))[x]? with
   | none=>rfl
   | some q=>
    have:=List.mem_of_getElem? hx
    rw[List.mem_replicate]at this;rw[this.2];rfl
  rw[this,List.append_nil];exact hw) h hm hk
theorem IE{id:Nat}{l:List Oper}(K X:List B5)(wr tc:List (List Nat))(hw:Wd Γ (K++X) w)(h:MSw (mV P n l Γ K wr tc [[]]) (fun ρ w=>QQ .normal ρ w) 0 l ⟨ρ,ML [fun _=>X]⟩)
  (hm:P.follows .mixedOrders=true:=by kernel_rfl) (hk:O8 n l wr tc [[]]=true:=by kernel_rfl):W P n (.region id l.toArray true) QQ ρ w:=
 Bj K [fun _=>X] wr tc [[]] (by
  show Wd Γ (K++(X++[])) w
  rw[List.append_nil];exact hw) h hm hk
theorem Tj{id:Nat}{l:List Oper}(K X:List B5)(wr tc stab:List (List Nat))(hw:Wd Γ (K++X) w)(h:MSw (mV P n l Γ K wr tc stab) (fun ρ w=>QQ .normal ρ w) 0 l ⟨ρ,ML [fun _=>X,fun _=>[]]⟩)(hs:stab.length=2:=by exact rfl)
  (hm:P.follows .mixedOrders=true:=by kernel_rfl) (hk:O8 n l wr tc stab=true:=by kernel_rfl):W P n (.region id l.toArray true) QQ ρ w:=
 Bj K [fun _=>X,fun _=>[]] wr tc stab (by
  have e:(List.range stab.length).flatMap (fun x=>(ML [fun _=>X,fun _=>[]]) x (F3 (stab.getD x []) ρ D5))=X:=by
   rw[hs];show X++([]++[])=X
   simp
  rw[e];exact hw) h hm hk
theorem f7{c b o j m:Nat}{cs:Array Value}{E:TypeId}{vs:List Value}{X:List B5}[hn:Ly P T m](h:MSw (mV P n ops Γ K wr tc stab) Q (i+1) rest ⟨ρ,M0 M c fun _=>X.set j (.blk b (.cells (putCells cs o vs) E))⟩)
  (ht:tc.getD i []=[c]:=by exact rfl) (hM:M c=(fun _=>X):=by exact rfl) (hj:X[j]? = some (.blk b (.cells cs E)):=by exact Gh) (hw0:wr.getD i []=[c]:=by exact rfl) (hx:∀g,ev (F3 stab.flatten g ρ) x=.pointer (some ⟨b,o,none⟩):=by intro g;exact rfl)
  (hy:∀g,ev (F3 stab.flatten g ρ) y=v:=by intro g;exact Y1) (hv:v.cells.toList=vs:=by exact rfl) (hl:vs.length=m:=by exact rfl) (h1:vs.all (·.oneCell')=true:=by exact rfl) (ho:o+m≤cs.size:=by exact Nat.le_of_ble_eq_true rfl) :
  MSw (mV P n ops Γ K wr tc stab) Q i (⟨none,.store T x y,ty,pos,es,none⟩::rest) ⟨ρ,M⟩:=by
 refine mM (v:=undef) _ (fun Y w g hw=>?_) h hw0 rfl
 have e:∀M',E9 tc stab i M' g=M' c (F3 (stab.getD c []) g D5):=fun M'=>by
  unfold E9;rw[ht];simp
 rw[e,hM]at hw;have hjl:j<X.length:=(List.getElem?_eq_some_iff.1 hj).1
 refine X4 hn.h hw (hx g) (hy g) hv hl (fun u hu=>(List.all_eq_true.1 h1) u hu) (i:=K.length+j) (by rw[List.getElem?_append_right (Nat.le_add_right _ _),Nat.add_sub_cancel_left,List.getElem?_append_left hjl];exact hj) ho fun w' hw'=>⟨?_,fun _=>rfl⟩
 have e2:E9 tc stab i (M0 M c fun _=>X.set j (.blk b (.cells (putCells cs o vs) E))) (C9 g none undef)=X.set j (.blk b (.cells (putCells cs o vs) E)):=by
  unfold E9;rw[ht];simp[B6]
 rw[e2];rw[List.set_append_right _ _ (Nat.le_add_right _ _),Nat.add_sub_cancel_left,List.set_append_left _ _ hjl]at hw';exact hw'
theorem l5{c:Nat}{g:Fr}(ht:tc.getD i []=[c])(M:Nat→Fr→List B5):E9 tc stab i M g=M c (F3 (stab.getD c []) g D5):=by unfold E9;rw[ht];simp
theorem Dv{c c2:Nat}{g:Fr}(ht:tc.getD i []=[c,c2])(M:Nat→Fr→List B5):E9 tc stab i M g=M c (F3 (stab.getD c []) g D5)++M c2 (F3 (stab.getD c2 []) g D5):=by unfold E9;rw[ht];simp
theorem A8{c c':Nat}{m:Fr→List B5}(h:c'≠c):M0 M c m c'=M c':=by simp[M0,h]
theorem OK{c dd E by' len sz:Nat}{zs:List Value}{parts:Array (Nat×Operand)}{cells:List Value}(rws:List (List Value))[TL P T E sz by' zs](h:MSw (mV P n ops Γ K wr tc stab) Q (i+1) rest ⟨C9 ρ (some dd) undef,M0 M c fun g=>[.own (g dd) E sz rws]⟩)
  (hf:∀g,S1 (fun i=>some (i*sz,sz)) ((List.range (len*sz)).map fun i=>zs.getD (i%sz) undef) (parts.toList.map fun p=>(p.1,ev (F3 stab.flatten g ρ) p.2))=some cells:=by intro g;exact rfl)
  (ht:tc.getD i []=[c]:=by exact rfl) (hM:M c=(fun _=>[]):=by exact rfl) (hs:(stab.getD c []).contains dd=true:=by exact rfl) (hfr:U7 stab (some dd)=true:=by exact rfl) (hw0:wr.getD i []=[c]:=by exact rfl)
  (hrw:rws.flatten=cells:=by exact rfl) (hlen:rws.length=len:=by exact rfl) (hr:rws.all (fun r=>Nat.beq r.length sz)=true:=by exact rfl) (hbig:Nat.ble (len*sz) 16777216=true:=by exact rfl) :
  MSw (mV P n ops Γ K wr tc stab) Q i (⟨some dd,.buildSlice T len parts,ty,pos,es,none⟩::rest) ⟨ρ,M⟩:=by
 refine mM (v:=undef) _ (fun Y w g hw=>?_) h hw0 rfl
 rw[l5 ht,hM]at hw;refine S8 (rws:=rws) hw (hf g) hrw hlen (fun r hm=>Nat.eq_of_beq_eq_true ((List.all_eq_true.1 hr) r hm)) (Nat.le_of_ble_eq_true hbig) fun a w' hw'=>⟨?_,fun hh=>by rw[hfr]at hh;cases hh⟩
 rw[l5 ht,B6];have h1:F3 (stab.getD c []) (C9 g (some dd) (.slice (some a) len len)) D5 dd=.slice (some a) len len:=by
  rw[L8 (by simpa using hs)];exact upd_same _ _ _
 rw[h1];exact Wd.unmid hw'
theorem VA{c c2 dd dy j E by' sz m cc:Nat}{zs:List Value}{a:Option Addr}{rows rows2:List (List Value)}{X:List B5}[TL P T E sz by' zs](h:MSw (mV P n ops Γ K wr tc stab) Q (i+1) rest ⟨C9 ρ (some dd) undef,M0 M c fun g=>X.set j (.own (g dd) E sz (rows++rows2))⟩)
  (hx:∀g,ev (F3 stab.flatten g ρ) x=.slice a m cc:=by intro g;exact rfl) (ht:tc.getD i []=[c,c2]:=by exact rfl) (hM:M c=(fun _=>X):=by exact rfl) (hM2:M c2=(fun g=>[.own (g dy) E sz rows2]):=by exact rfl) (hj:X[j]? = some (.own (.slice a m cc) E sz rows):=by exact Gh)
  (hs:(stab.getD c []).contains dd=true:=by exact rfl) (hs2:(stab.getD c2 []).contains dy=true:=by exact rfl) (hfr:U7 stab (some dd)=true:=by exact rfl) (hfy:stab.flatten.contains dy=true:=by exact rfl) (hne:Nat.beq dy dd=false:=by exact rfl) (hcc:Nat.beq c2 c=false:=by exact rfl) (hw0:wr.getD i []=[c]:=by exact rfl)
  (h1:rows2.flatten.all (·.oneCell')=true:=by exact rfl) (hb:(m+rows2.length)*by'≤140737488355328:=by (simp only[List.length_cons,List.length_nil];omega)) (h63:m+rows2.length≤9223372036854775807:=by (simp only[List.length_cons,List.length_nil];omega)) :
  MSw (mV P n ops Γ K wr tc stab) Q i (⟨some dd,.call { callee:=.builtin .append,args:=#[x,.tmp dy],argTypes:=#[T,T] },ty,pos,es,none⟩::rest) ⟨ρ,M⟩:=by
 refine mM (v:=undef) _ (fun Y w g hw=>?_) h hw0 rfl
 have hyd:dy≠dd:=fun e=>by subst e;simp at hne
 have hcd:c2≠c:=fun e=>by subst e;simp at hcc
 rw[Dv ht,hM,hM2]at hw;have h2:∀f:Fr,F3 (stab.getD c2 []) f D5 dy=f dy:=fun f=>L8 (by simpa using hs2)
 simp only[h2]at hw
 have hjl:j<X.length:=(List.getElem?_eq_some_iff.1 hj).1
 have hi1:(K++(X++[.own (g dy) E sz rows2]++Y))[K.length+j]? = some (.own (.slice a m cc) E sz rows):=by
  rw[List.getElem?_append_right (Nat.le_add_right _ _),Nat.add_sub_cancel_left,List.append_assoc,List.getElem?_append_left hjl];exact hj
 have hi2:(K++(X++[.own (g dy) E sz rows2]++Y))[K.length+X.length]? = some (.own (g dy) E sz rows2):=by
  rw[List.getElem?_append_right (Nat.le_add_right _ _),Nat.add_sub_cancel_left,List.append_assoc,List.getElem?_append_right (Nat.le_refl _)];simp
 obtain⟨a2,m2,c3,e1,e2,e3,e4⟩:=hw.own_shape hi2
 have hrd:Rd w a2 sz rows2:=by
  have hw2:=hw
  have hi3:=hi2
  rw[e1]at hw2 hi3
  exact hw2.own_rd hi3
 have hy:ev (F3 stab.flatten g ρ) (.tmp dy)=.slice a2 m2 c3:=by
  show F3 stab.flatten g ρ dy=_
  rw[L8 (by simpa using hfy)];exact e1
 refine Cp hw (hx g) hy hi1 hrd e2 (fun u hu=>(List.all_eq_true.1 h1) u hu) (by rw[e2];exact hb) (by rw[e2];exact h63) fun v' w' hw'=>⟨?_,fun hh=>by rw[hfr]at hh;cases hh⟩
 rw[Dv ht,B6,A8 hcd,hM2];have h3:F3 (stab.getD c []) (C9 g (some dd) v') D5 dd=v':=by
  rw[L8 (by simpa using hs)];exact upd_same _ _ _
 have h4:C9 g (some dd) v' dy=g dy:=upd_ne _ _ hyd
 simp only[h2,h3,h4]
 rw[List.append_assoc,List.set_append_right _ _ (Nat.le_add_right _ _),Nat.add_sub_cancel_left,List.set_append_left _ _ hjl]at hw';rw[List.append_assoc];exact hw'
theorem RE{c b o j j2 dv E2 sz2:Nat}{cs:Array Value}{E:TypeId}{rows:List (List Value)}{X:Fr→List B5}[hn:Ly P T 1](h:MSw (mV P n ops Γ K wr tc stab) Q (i+1) rest ⟨ρ,M0 M c fun g=>(X g).set j (.blk b (.cells (putCells cs o [g dv]) E))⟩)
  (ht:tc.getD i []=[c]:=by exact rfl) (hM:M c=X:=by exact rfl) (hj:∀g,(X g)[j]? = some (.blk b (.cells cs E)):=by intro g;exact Gh) (hj2:∀g,(X g)[j2]? = some (.own (g dv) E2 sz2 rows):=by intro g;exact Gh) (hw0:wr.getD i []=[c]:=by exact rfl) (hx:∀g,ev (F3 stab.flatten g ρ) x=.pointer (some ⟨b,o,none⟩):=by intro g;exact rfl)
  (hs:(stab.getD c []).contains dv=true:=by exact rfl) (hfv:stab.flatten.contains dv=true:=by exact rfl) (ho:o+1≤cs.size:=by exact Nat.le_of_ble_eq_true rfl) :
  MSw (mV P n ops Γ K wr tc stab) Q i (⟨none,.store T x (.tmp dv),ty,pos,es,none⟩::rest) ⟨ρ,M⟩:=by
 refine mM (v:=undef) _ (fun Y w g hw=>?_) h hw0 rfl
 rw[l5 ht,hM]at hw;have hy:ev (F3 stab.flatten g ρ) (.tmp dv)=g dv:=L8 (by simpa using hfv)
 have hg:F3 (stab.getD c []) g D5 dv=g dv:=L8 (by simpa using hs)
 have hjl:j<(X (F3 (stab.getD c []) g D5)).length:=(List.getElem?_eq_some_iff.1 (hj _)).1
 have hjl2:j2<(X (F3 (stab.getD c []) g D5)).length:=(List.getElem?_eq_some_iff.1 (hj2 _)).1
 obtain⟨a2,m2,c3,e1,-,-,-⟩:=hw.own_shape (i:=K.length+j2) (v:=g dv) (e:=E2) (sz:=sz2) (rows:=rows) (by
  rw[List.getElem?_append_right (Nat.le_add_right _ _),Nat.add_sub_cancel_left,List.getElem?_append_left hjl2,hj2,hg])
 refine X4 hn.h hw (hx g) hy (vs:=[g dv]) (by rw[e1];rfl) rfl (fun u hu=>by simp at hu;subst hu;rw[e1];rfl) (i:=K.length+j) (by rw[List.getElem?_append_right (Nat.le_add_right _ _),Nat.add_sub_cancel_left,List.getElem?_append_left hjl];exact hj _) ho fun w' hw'=>⟨?_,fun _=>rfl⟩
 rw[l5 ht,B6];rw[List.set_append_right _ _ (Nat.le_add_right _ _),Nat.add_sub_cancel_left,List.set_append_left _ _ hjl]at hw';simp only[C9,hg]
 exact hw'
end
section
variable {P:Program}{n:Nat}{opa:Array Oper}{Γ:C4}{S:List B5}{QQ:Exit→Fr→World→Prop}{ρ:Fr}{w:World}{rest:List Oper}{j dj:Nat}{want c:Bool}
variable {d:Option Tmp}{op:Op}{T U ty:TypeId}{pos:String}{es:Array Edge}{x y z:Operand}
attribute [local semireducible] L Step gv G3
theorem Nv(h:L P n opa QQ (⟨d,op,ty,pos,es,none⟩::rest) ρ w)(hj:(opa[j]?).bind (·.dst)=some dj:=by exact rfl)(hjn:H3 n (some dj)=true:=by exact rfl)(hc:G3 (ρ dj) want c:=by exact Gi)(hct:c=true:=by with_reducible rfl):L P n opa QQ (⟨d,op,ty,pos,es,some (j,want)⟩::rest) ρ w:=fun a hda hs hf=>by
 subst hct;have h1:=h a hda hs hf
 have hw:=o4 (⟨d,op,ty,pos,es,some (j,want)⟩:Oper) opa a j want rfl dj hj (by rw[hs];exact I1 hjn _ rfl)
 subst hf;rw[show (Dd (D9 a dj) == some want)=true from hc]at hw;unfold wpList at h1 ⊢
 rw[if_pos hw];rw[if_pos (by simp[Region.wanted])]at h1
 exact h1
theorem Py(h:L P n opa QQ rest (C9 ρ d undef) w)(hj:(opa[j]?).bind (·.dst)=some dj:=by exact rfl)(hjn:H3 n (some dj)=true:=by exact rfl)(hd:H3 n d=true:=by exact rfl)(hc:G3 (ρ dj) want c:=by exact Gi)(hct:c=false:=by with_reducible rfl):L P n opa QQ (⟨d,op,ty,pos,es,some (j,want)⟩::rest) ρ w:=fun a hda hs hf=>by
 subst hct;have hw:=o4 (⟨d,op,ty,pos,es,some (j,want)⟩:Oper) opa a j want rfl dj hj (by rw[hs];exact I1 hjn _ rfl)
 subst hf;rw[show (Dd (D9 a dj) == some want)=false from hc]at hw;unfold wpList;rw[if_neg (by rw[hw];simp)]
 exact h _ (by rw[I4];exact hda) (by rw[size_put];exact hs) (S9 a _ _ (by rw[hs];exact I1 hd))
theorem lGC(hj:(opa[j]?).bind (·.dst)=some dj)(hjn:H3 n (some dj)=true)(hd:H3 n d=true)(hc:G3 (ρ dj) want c)(ht:c=true→L P n opa QQ (⟨d,op,ty,pos,es,none⟩::rest) ρ w)(hf:c=false→L P n opa QQ rest (C9 ρ d undef) w):L P n opa QQ (⟨d,op,ty,pos,es,some (j,want)⟩::rest) ρ w:=by
 cases hcc:c with
 | true=>exact Nv (ht hcc) hj hjn hc hcc
 | false=>exact Py (hf hcc) hj hjn hd hc hcc
theorem UC{bo:BinOp}(h:L P n opa QQ (⟨d,.binOp bo T x y U,ty,pos,es,none⟩::rest) ρ w):L P n opa QQ (⟨d,.binOp bo T x y U,ty,pos,es,none⟩::rest) ρ w:=h
theorem Rm(h:L P n opa QQ (⟨d,.unOp .not T x,ty,pos,es,none⟩::rest) ρ w):L P n opa QQ (⟨d,.unOp .not T x,ty,pos,es,none⟩::rest) ρ w:=h
theorem lT{b:Bool}{o:Oper}(hb:b=true)(h:L P n opa QQ rest (C9 ρ o.dst (.bool true)) w)(hg:o.guard=none:=by exact rfl)(hd:H3 n o.dst=true:=by exact rfl)(hw:Wd Γ S w:=by exact hw)(hy:Yields P o ρ w (.bool b):=by exact Kd):L P n opa QQ (o::rest) ρ w:=UP hg hd (by rw[hb]at hy;exact hy) h
theorem lF{b:Bool}{o:Oper}(hb:b=false)(h:L P n opa QQ rest (C9 ρ o.dst (.bool false)) w)(hg:o.guard=none:=by exact rfl)(hd:H3 n o.dst=true:=by exact rfl)(hw:Wd Γ S w:=by exact hw)(hy:Yields P o ρ w (.bool b):=by exact Kd):L P n opa QQ (o::rest) ρ w:=UP hg hd (by rw[hb]at hy;exact hy) h
end
section
variable {P:Program}{n:Nat}{ops:List Oper}{Γ:C4}{S:List B5}{Q:Fr→World→Prop}{ρ:Fr}{rest:List Oper}{j dj:Nat}{want c:Bool}
variable {d:Option Tmp}{op:Op}{T U ty:TypeId}{pos:String}{es:Array Edge}{x y z:Operand}
end
theorem Ag{α:Type}[Jo α](a:α):(enc a).all (·.oneCell')=true:=by
 rw[List.all_eq_true];intro u hu;have h:GT u∈(Jo.ks α).map some:=by rw[←Jo.kinds a];exact List.mem_map.2 ⟨u,hu,rfl⟩
 obtain⟨k,_,hk⟩:=List.mem_map.1 h
 cases u <;> simp[GT]at hk <;> rfl
theorem Dc{α:Type}[Jo α](xs:List α):(xs.map enc).flatten.all (·.oneCell')=true:=by
 rw[List.all_eq_true];intro u hu;obtain⟨r,hr,hur⟩:=List.mem_flatten.1 hu
 obtain⟨x,_,rfl⟩:=List.mem_map.1 hr
 exact(List.all_eq_true.1 (Ag x)) u hur
section
end
attribute [local irreducible] Calls
def P7{T:Type}(φ:T→Fr→Prop)(R:T→List B5):Fr→List B5:=fun g=>[B5.ex (α:={t:T // φ t g}) fun p=>R p.1]
section
variable {P:Program}{n:Nat}{ops:List Oper}{Γ:C4}{K X:List B5}{wr tc stab:List (List Nat)}{N:List Nat}{Q:Fr→World→Prop}{i:Nat}{rest:List Oper}{ρ:Fr}{w:World}{M:Nat→Fr→List B5}{v:Value}{T T':Type}
theorem p8{id:Nat}{l:List Oper}{QQ:Exit→Fr→World→Prop}(K X:List B5)(N:List Nat)(wr:List (List Nat))(hw:Wd Γ (K++X) w)
  (h:MSw (mV P n l Γ K wr wr [N]) (fun ρ w=>QQ .normal ρ w) 0 l ⟨ρ,fun _=>P7 (T:=Unit) (fun _ _=>True) (fun _=>X)⟩)
  (hm:P.follows .mixedOrders=true:=by kernel_rfl) (hk:O8 n l wr wr [N]=true:=by kernel_rfl):W P n (.region id l.toArray true) QQ ρ w:=
 Qb K (fun _=>P7 (T:=Unit) (fun _ _=>True) (fun _=>X)) wr wr [N] true hm hk (by
  have e:cellsOf (mV P n l Γ K wr wr [N]) (List.range [N].length) (fun _=>P7 (T:=Unit) (fun _ _=>True) (fun _=>X)) ρ=P7 (T:=Unit) (fun _ _=>True) (fun _=>X) (F3 N ρ D5):=by
   show _++[]=_
   rw[List.append_nil];rfl
  show Wd Γ (K++cellsOf (mV P n l Γ K wr wr [N]) (List.range [N].length) (fun _=>P7 (T:=Unit) (fun _ _=>True) (fun _=>X)) ρ) w
  rw[e];have h1:Wd Γ (X++K) w:=hw.perm List.perm_append_comm
  have h2:=Wd.closeEx (α:={t:Unit // True}) (X:=fun _=>X) ⟨(),trivial⟩ h1
  exact(h2.perm (List.perm_append_singleton _ K).symm:_)) h
theorem V9{φ:T→Fr→Prop}{R:T→List B5}{o:Oper}(φ':T'→Fr→Prop)(R':T'→List B5)
  (hs:∀t g w Y,φ t (F3 N g D5)→Wd Γ (R t++(K++Y)) w→Step P o (F3 N g ρ) w fun u w'=>∃t',φ' t' (F3 N (C9 g o.dst u) D5)∧(U7 [N] o.dst=false→u=v)∧Wd Γ (R' t'++(K++Y)) w')
  (h:MSw (mV P n ops Γ K wr wr [N]) Q (i+1) rest ⟨C9 ρ o.dst v,M0 M 0 (P7 φ' R')⟩) (hM:M 0=P7 φ R:=by first|exact B6|exact rfl) (hw0:wr.getD i []=[0]:=by exact rfl) (hg:o.guard=none:=by exact rfl) :
  MSw (mV P n ops Γ K wr wr [N]) Q i (o::rest) ⟨ρ,M⟩:=by
 refine mM _ (fun Y w g hw=>?_) h hw0 hg
 have e:E9 wr [N] i M g=P7 φ R (F3 N g D5):=by
  rw[l5 hw0,hM];rfl
 rw[e]at hw;have e0:([N].flatten:List Nat)=N:=by simp
 rw[e0];obtain⟨⟨t,ht⟩,hw1⟩:=(Wd.mid hw).openEx
 refine(hs t g w Y ht hw1).mono ?_
 rintro u w' ⟨t',h1,h2,h3⟩
 refine⟨?_,h2⟩
 have e2:E9 wr [N] i (M0 M 0 (P7 φ' R')) (C9 g o.dst u)=P7 φ' R' (F3 N (C9 g o.dst u) D5):=by
  rw[l5 hw0,B6];rfl
 rw[e2];exact Wd.unmid (Wd.closeEx (X:=fun p:{t:T' // φ' t (F3 N (C9 g o.dst u) D5)}=>R' p.1) ⟨t',h1⟩ h3)
theorem FS{φ:T→Fr→Prop}{R:T→List B5}{f:Nat}{d:Option Tmp}{ty:TypeId}{pos:String}{es:Array Edge}{args:List Operand}{tys:Array TypeId}[C3 P f](φ':T'→Fr→Prop)(R':T'→List B5)(vs:T→Fr→List Value)
  (hs:∀t g w Y,φ t (F3 N g D5)→Wd Γ (R t++(K++Y)) w→Calls P f (vs t (F3 N g D5)).toArray w fun e w'=>∃u,e=.returned u∧∃t',φ' t' (F3 N (C9 g d u) D5)∧(U7 [N] d=false→u=v)∧Wd Γ (R' t'++(K++Y)) w')
  (h:MSw (mV P n ops Γ K wr wr [N]) Q (i+1) rest ⟨C9 ρ d v,M0 M 0 (P7 φ' R')⟩) (ha:∀t g,φ t (F3 N g D5)→EvL (F3 N g ρ) args (vs t (F3 N g D5)):=by (intro t g ht;exact u6)) (hM:M 0=P7 φ R:=by first|exact B6|exact rfl) (hw0:wr.getD i []=[0]:=by exact rfl) :
  MSw (mV P n ops Γ K wr wr [N]) Q i (⟨d,.call { callee:=.value (.func f),args:=args.toArray,argTypes:=tys },ty,pos,es,none⟩::rest) ⟨ρ,M⟩:=
 V9 φ' R' (fun t g w Y ht hw=>Ak (ha t g ht).eqA (hs t g w Y ht hw)) h hM hw0 rfl
theorem Al{φ:T→Fr→Prop}{R:T→List B5}(h:∀t w g,φ t (F3 N g D5)→Wd Γ (R t++K) w→Q (F3 N g ρ) w)(hM:M 0=P7 φ R:=by first|exact B6|exact rfl):MSw (mV P n ops Γ K wr tc [N]) Q i [] ⟨ρ,M⟩:=
 X6 fun w g hw=>by
  have e:((List.range [N].length).flatMap fun x=>M x (F3 ([N].getD x []) g D5))=P7 φ R (F3 N g D5):=by
   show M 0 _++[]=_
   rw[List.append_nil,hM];rfl
  rw[e]at hw;have e0:([N].flatten:List Nat)=N:=by simp
  rw[e0];obtain⟨⟨t,ht⟩,hw1⟩:=(Wd.mid (Y:=[]) hw).openEx
  exact h t w g ht (by simpa using hw1)
end
end Mk
end
section
open Go
namespace Mk
def cI(a b:Int):Int:=if a<b then -1 else if b<a then 1 else 0
def cB(a b:ByteArray):Int:=if EG a b=true then -1 else if EG b a=true then 1 else 0
def CH(x y:Int):Int:=if x=0 then y else x
def cL{α:Type}(c:α→α→Int):List α→List α→Int
 | [],[]=>0
 | [],_::_=>-1
 | _::_,[]=>1
 | a::l,b::k=>CH (c a b) (cL c l k)
structure T4{α:Type}(c:α→α→Int):Prop where
 rng:∀a b,c a b = -1∨c a b=0∨c a b=1
 eq0:∀ {a b},c a b=0→a=b
 refl:∀a,c a a=0
 anti:∀a b,c b a = -(c a b)
 trans:∀ {a b d},c a b = -1→c b d = -1→c a d = -1
theorem UE{a b:Int}:cI a b = -1↔a<b:=by
 unfold cI;by_cases h:a<b
 ·simp[h]
 ·by_cases h2:b<a <;> simp[h,h2]
theorem KM:T4 cI where
 rng a b:=by
  unfold cI;by_cases h:a<b
  ·simp[h]
  ·by_cases h2:b<a <;> simp[h,h2]
 eq0 {a b} e:=by
  unfold cI at e;by_cases h:a<b
  ·simp[h]at e
  ·by_cases h2:b<a
   ·simp[h,h2]at e
   ·omega
 refl a:=by unfold cI;simp
 anti a b:=by
  unfold cI;by_cases h:a<b
  ·rw[if_neg (by omega),if_pos h,if_pos h];rfl
  ·by_cases h2:b<a
   ·rw[if_pos h2,if_neg h,if_pos h2]
   ·rw[if_neg h2,if_neg h,if_neg h,if_neg h2];rfl
 trans {a b d} h k:=by rw[UE] at *;omega
theorem UL{a b:ByteArray}:cB a b = -1↔EG a b=true:=by
 unfold cB;cases h:EG a b with
 | true=>simp
 | false=>cases EG b a <;> simp
theorem Oo:T4 cB where
 rng a b:=by unfold cB;cases EG a b <;> cases EG b a <;> simp
 eq0 {a b} h:=by
  unfold cB at h;cases h1:EG a b with
  | true=>rw[h1]at h;cases h
  | false=>
   cases h2:EG b a with
   | true=>rw[h1,h2]at h;cases h
   | false=>exact Hg h1 h2
 refl a:=by unfold cB;simp[CX]
 anti a b:=by
  unfold cB;cases h1:EG a b with
  | true=>rw[HX h1];rfl
  | false=>cases h2:EG b a <;> rfl
 trans {a b d} h k:=by rw[UL] at *;exact HV h k
section
variable {α β:Type}{c:α→α→Int}{c2:β→β→Int}
theorem Db{x y:Int}:CH x y=0↔x=0∧y=0:=by
 unfold CH;split
 ·rename_i h;simp[h]
 ·rename_i h;simp[h]
theorem T4.map(h:T4 c)(f:β→α)(hf:∀a b,f a=f b→a=b):T4 (fun a b=>c (f a) (f b)):=
 ⟨fun _ _=>h.rng _ _,fun e=>hf _ _ (h.eq0 e),fun _=>h.refl _,fun _ _=>h.anti _ _,fun a b=>h.trans a b⟩
theorem Ln{x y:Int}:CH x y = -1↔x = -1∨(x=0∧y = -1):=by
 unfold CH;split
 ·rename_i h;subst h;simp
 ·rename_i h;simp[h]
theorem T4.prod(h:T4 c)(h2:T4 c2):T4 (fun (a b:α×β)=>CH (c a.1 b.1) (c2 a.2 b.2)) where
 rng a b:=by
  unfold CH;split
  ·exact h2.rng _ _
  ·exact h.rng _ _
 eq0 {a b} e:=by
  rw[Db]at e;exact Prod.ext (h.eq0 e.1) (h2.eq0 e.2)
 refl a:=by rw[Db];exact⟨h.refl _,h2.refl _⟩
 anti a b:=by
  unfold CH;rw[h.anti a.1 b.1,h2.anti a.2 b.2];by_cases e:c a.1 b.1=0
  ·simp[e]
  ·rw[if_neg (by omega),if_neg e]
 trans {a b d} e k:=by
  rw[Ln] at *
  rcases e with e|⟨e,e'⟩ <;> rcases k with k|⟨k,k'⟩
  ·exact .inl (h.trans e k)
  ·rw[←h.eq0 k];exact .inl e
  ·rw[h.eq0 e];exact .inl k
  ·rw[h.eq0 e];exact .inr ⟨k,h2.trans e' k'⟩
theorem QF(h:T4 c):∀a b,cL c a b = -1∨cL c a b=0∨cL c a b=1
 | [],[]=>.inr (.inl rfl)
 | [],_::_=>.inl rfl
 | _::_,[]=>.inr (.inr rfl)
 | a::l,b::k=>by
  unfold cL CH;split
  ·exact QF h l k
  ·exact h.rng _ _
theorem Pq(h:T4 c):∀ {a b},cL c a b=0→a=b
 | [],[],_=>rfl
 | [],_::_,e=>by cases e
 | _::_,[],e=>by cases e
 | a::l,b::k,e=>by
  unfold cL at e;rw[Db]at e;rw[h.eq0 e.1,Pq h e.2]
theorem MY(h:T4 c):∀a,cL c a a=0
 | []=>rfl
 | a::l=>by unfold cL;rw[Db];exact⟨h.refl _,MY h l⟩
theorem MD(h:T4 c):∀a b,cL c b a = -(cL c a b)
 | [],[]=>rfl
 | [],_::_=>rfl
 | _::_,[]=>rfl
 | a::l,b::k=>by
  unfold cL CH;rw[h.anti a b,MD h l k];by_cases e:c a b=0
  ·simp[e]
  ·rw[if_neg (by omega),if_neg e]
theorem JK(h:T4 c):∀ {a b d},cL c a b = -1→cL c b d = -1→cL c a d = -1
 | [],_,_::_,_,_=>rfl
 | [],[],[],e,_=>by cases e
 | [],_::_,[],_,k=>by cases k
 | _::_,[],_,e,_=>by cases e
 | _::_,_::_,[],_,k=>by cases k
 | a::l,b::m,d::n,e,k=>by
  unfold cL at *
  rw[Ln] at *
  rcases e with e|⟨e,e'⟩ <;> rcases k with k|⟨k,k'⟩
  ·exact .inl (h.trans e k)
  ·rw[←h.eq0 k];exact .inl e
  ·rw[h.eq0 e];exact .inl k
  ·rw[h.eq0 e];exact .inr ⟨k,JK h e' k'⟩
theorem T4.list(h:T4 c):T4 (cL c):=⟨QF h,Pq h,MY h,MD h,JK h⟩
theorem T4.lt_iff(h:T4 c){a b:α}:Go.Proofs.ltOf c a b=true↔c a b = -1:=by
 unfold Go.Proofs.ltOf;rw[decide_eq_true_iff];rcases h.rng a b with e|e|e <;> rw[e] <;> simp
theorem T4.swo(h:T4 c):Go.Sort.SWO (Go.Proofs.ltOf c) where
 irrefl x:=by unfold Go.Proofs.ltOf;rw[h.refl];rfl
 trans x y z e k:=by rw[h.lt_iff] at *;exact h.trans e k
 ntrans x y z e k:=by
  cases q:Go.Proofs.ltOf c x z with
  | false=>rfl
  | true=>
   rw[h.lt_iff]at q;rcases h.rng x y with a|a|a
   ·rw[h.lt_iff.2 a]at e;cases e
   ·have:=h.eq0 a;subst this;rw[h.lt_iff.2 q]at k;cases k
   ·have:c y x = -1:=by rw[h.anti x y,a]
    rw[h.lt_iff.2 (h.trans this q)]at k;cases k
end
attribute [local irreducible] Calls
class PG(P:Program)(Γ:C4)(f:Nat)(args:List Value)(v:outParam Value):Prop where
 h:∀S w,Wd Γ S w→Calls P f args.toArray w fun e w'=>e=.returned v∧Wd Γ S w'
section
variable {P:Program}{n:Nat}{ops:List Oper}{opa:Array Oper}{Γ:C4}{S K:List B5}{Q:Fr→World→Prop}{QQ:Exit→Fr→World→Prop}{ρ:Fr}{w:World}{rest:List Oper}{wr tc stab:List (List Nat)}{i:Nat}{M:Nat→Fr→List B5}
variable {d:Option Tmp}{ty:TypeId}{pos:String}{es:Array Edge}{v:Value}{f:Nat}{args:List Operand}{tys:Array TypeId}{vs:List Value}{j dj:Nat}{want c:Bool}{g:Option (Nat×Bool)}
theorem Om[C3 P f](hp:PG P Γ f vs v)(ha:EvL ρ args vs)(hw:Wd Γ S w):Step P ⟨d,.call { callee:=.value (.func f),args:=args.toArray,argTypes:=tys },ty,pos,es,g⟩ ρ w fun u w'=>u=v∧Wd Γ S w':=
 Ak ha.eqA ((hp.h S w hw).mono fun _ _ ⟨h1,h2⟩=>⟨v,h1,rfl,h2⟩)
theorem TD[C3 P f](h:∀w',Wd Γ S w'→L P n opa QQ rest (C9 ρ d v) w')(hw:Wd Γ S w:=by exact hw)(ha:EvL ρ args vs:=by exact u6)(hd:H3 n d=true:=by exact rfl)(hp:PG P Γ f vs v:=by infer_instance) :
  L P n opa QQ (⟨d,.call { callee:=.value (.func f),args:=args.toArray,argTypes:=tys },ty,pos,es,none⟩::rest) ρ w:=
 K0 rfl hd ((Om hp ha hw).mono fun _ w' ⟨h1,h2⟩=>by subst h1;exact h w' h2)
theorem CO[C3 P f](h:Qw P n ops Γ S Q rest (C9 ρ d v))(ha:EvL ρ args vs:=by exact u6)(hp:PG P Γ f vs v:=by infer_instance) :
  Qw P n ops Γ S Q (⟨d,.call { callee:=.value (.func f),args:=args.toArray,argTypes:=tys },ty,pos,es,none⟩::rest) ρ:=
 UM rfl rfl (fun _ _ hw=>Om hp ha hw) h
theorem Z0[C3 P f](h:Qw P n ops Γ S Q rest (C9 ρ d (gv c v)))(hj:(ops[j]?).bind (·.dst)=some dj:=by exact rfl)(hc:G3 (ρ dj) want c:=by exact Gi)(ha:c=true→EvL ρ args vs:=by intro hc;exact He)(hp:PG P Γ f vs v:=by infer_instance) :
  Qw P n ops Γ S Q (⟨d,.call { callee:=.value (.func f),args:=args.toArray,argTypes:=tys },ty,pos,es,some (j,want)⟩::rest) ρ:=
 RG rfl hj hc rfl (fun ht _ _ hw=>Om hp (ha ht) hw) h
theorem UH[C3 P f](h:MSw (mV P n ops Γ K wr tc stab) Q (i+1) rest ⟨C9 ρ d v,M⟩)(hw0:wr.getD i []=[]:=by exact rfl)(ho:CL tc stab i d=true:=by exact rfl)(ha:∀g,EvL (F3 stab.flatten g ρ) args vs:=by intro g;exact u6)(hp:PG P Γ f vs v:=by infer_instance) :
  MSw (mV P n ops Γ K wr tc stab) Q i (⟨d,.call { callee:=.value (.func f),args:=args.toArray,argTypes:=tys },ty,pos,es,none⟩::rest) ⟨ρ,M⟩:=
 mC (fun _ _ g hw=>Om hp (ha g) hw) hw0 rfl ho h
end
theorem Wd.freeze{Γ:C4}{S:List B5}{w:World}{v:Value}{e sz:Nat}{rows:List (List Value)}(h:Wd Γ (.own v e sz rows::S) w):∃Γ',Γ.le Γ'∧D6 Γ' v sz rows∧Wd Γ' S w:=by
 obtain⟨bss,h1,h2,h3⟩:=h.own;cases bss with
 | nil=>exact h1.elim
 | cons bs bss=>
  obtain⟨hr,h1⟩:=h1;unfold B5.own at hr;obtain⟨e0,a,n,c,e1,e2,e3,e4,e5⟩:=hr;rcases e5 with⟨e5,e6⟩|⟨g,cur,g1,g2,g3,g4,g5⟩
  ·subst e6;refine⟨Γ,C4.le.refl _,by unfold D6;exact⟨e0,a,n,c,e1,e2,e3,e4,fun hl=>by omega⟩,h.os,h.tape,h.out,h.dr,h.imm,bss,h1,by simpa using h2,fun b hb=>h3 b (by simpa using hb)⟩
  ·subst g2;have hg:=h3 g (by simp)
   have hnd:g∉bss.flatten∧bss.flatten.Nodup:=by simpa using h2
   have hle:∀b o,Γ.imm b=some o→(fun b=>if b=g then some (Obj.cells cur e (0,0)) else Γ.imm b) b=some o:=fun b o hb=>by
    show (if b=g then _ else _)=_
    rw[if_neg (fun hh=>by subst hh;rw[hg.2]at hb;cases hb)];exact hb
   refine⟨{ Γ with imm:=fun b=>if b=g then some (.cells cur e (0,0)) else Γ.imm b },⟨hle,rfl,rfl,rfl,rfl⟩,?_,h.os,h.tape,h.out,h.dr,fun b o hb=>?_,bss,Holds.loc hle S bss (fun _ _=>rfl) h1,hnd.2,fun b hb=>⟨(h3 b (by simp[hb])).1,?_⟩⟩
   ·unfold D6;refine⟨e0,a,n,c,e1,e2,e3,e4,fun _=>⟨g,0,cur,e,(0,0),g1,if_pos rfl,fun j u hu=>?_⟩⟩
    rw[←g5]at hu;rw[List.getElem?_take]at hu;split at hu
    ·rw[Nat.zero_add];simpa using hu
    ·cases hu
   ·have hb:(if b=g then some (Obj.cells cur e (0,0)) else Γ.imm b)=some o:=hb
    by_cases hbg:b=g
    ·subst hbg;rw[if_pos rfl]at hb;cases hb
     exact g3
    ·rw[if_neg hbg]at hb;exact h.imm b o hb
   ·show (if b=g then _ else _)=none
    rw[if_neg (fun hh=>by subst hh;exact hnd.1 hb)]
    exact(h3 b (by simp[hb])).2
theorem Oq{P:Program}{n:Nat}{c:Code}{Q:Exit→Fr→World→Prop}{ρ:Fr}{w:World}{l:List (Nat×Value)}(h:Has ρ l)(k:∀ρ',Has ρ' l→W P n c Q ρ' w):W P n c Q ρ w:=k ρ h
theorem BL{P:Program}{n:Nat}{c1 c2:Code}{Q:Exit→Fr→World→Prop}{ρ:Fr}{w:World}(I:Fr→World→Prop)(h1:W P n c1 (KU I Q) ρ w)(h2:∀ρ w,I ρ w→W P n c2 Q ρ w):W P n (.seq c1 c2) Q ρ w:=
 Q7 (h1.mono fun e ρ w h=>by cases e <;> first|exact h2 _ _ h|exact h)
section
variable {P:Program}{n:Nat}{ops:List Oper}{Γ:C4}{K:List B5}{Q:Fr→World→Prop}{ρ:Fr}{rest:List Oper}{wr tc stab:List (List Nat)}{i:Nat}{M:Nat→Fr→List B5}
variable {T ty:TypeId}{pos:String}{es:Array Edge}{x y:Operand}
theorem OP{c c2 dx dy dd E by' sz:Nat}{zs:List Value}{rows rows2:List (List Value)}[TL P T E sz by' zs](h:MSw (mV P n ops Γ K wr tc stab) Q (i+1) rest ⟨C9 ρ (some dd) undef,M0 M c fun g=>[.own (g dd) E sz (rows++rows2)]⟩)
  (h1:∀u∈rows2.flatten,u.oneCell'=true) (ht:tc.getD i []=[c,c2]:=by exact rfl) (hM:M c=(fun g=>[.own (g dx) E sz rows]):=by exact rfl) (hM2:M c2=(fun g=>[.own (g dy) E sz rows2]):=by exact rfl) (hcc:c2≠c:=by decide) (hdd:dy≠dd:=by decide)
  (hs:(stab.getD c []).contains dd=true:=by exact rfl) (hsx:(stab.getD c []).contains dx=true:=by exact rfl) (hsy:(stab.getD c2 []).contains dy=true:=by exact rfl) (hfx:stab.flatten.contains dx=true:=by exact rfl) (hfy:stab.flatten.contains dy=true:=by exact rfl) (hfr:U7 stab (some dd)=true:=by exact rfl) (hw0:wr.getD i []=[c]:=by exact rfl)
  (hb:(rows.length+rows2.length)*by'≤140737488355328:=by omega) (h63:rows.length+rows2.length≤9223372036854775807:=by omega) :
  MSw (mV P n ops Γ K wr tc stab) Q i (⟨some dd,.call { callee:=.builtin .append,args:=#[.tmp dx,.tmp dy],argTypes:=#[T,T] },ty,pos,es,none⟩::rest) ⟨ρ,M⟩:=by
 refine mM (v:=undef) _ (fun Y w g hw=>?_) h hw0 rfl
 rw[Dv ht,hM,hM2]at hw;have h2:F3 (stab.getD c []) g D5 dx=g dx:=L8 (by simpa using hsx)
 have h2':F3 (stab.getD c2 []) g D5 dy=g dy:=L8 (by simpa using hsy)
 simp only[h2,h2']at hw
 have hi1:(K++(([.own (g dx) E sz rows]++[.own (g dy) E sz rows2])++Y))[K.length]? = some (.own (g dx) E sz rows):=by
  rw[List.getElem?_append_right (Nat.le_refl _)];simp
 have hj1:(K++(([.own (g dx) E sz rows]++[.own (g dy) E sz rows2])++Y))[K.length+1]? = some (.own (g dy) E sz rows2):=by
  rw[List.getElem?_append_right (by omega)];simp
 obtain⟨a,m1,c1,e1,e2,e3,e4⟩:=hw.own_shape hi1
 obtain⟨a2,m2,k2,f1,f2,f3,f4⟩:=hw.own_shape hj1
 have hx:ev (F3 stab.flatten g ρ) (.tmp dx)=.slice a m1 c1:=by
  show F3 stab.flatten g ρ dx=_
  rw[L8 (by simpa using hfx)];exact e1
 have hy:ev (F3 stab.flatten g ρ) (.tmp dy)=.slice a2 m2 k2:=by
  show F3 stab.flatten g ρ dy=_
  rw[L8 (by simpa using hfy)];exact f1
 have hr:Rd w a2 sz rows2:=by
  have hj2:=hj1
  rw[f1]at hj2;exact hw.own_rd (i:=K.length+1) (by rw[hj1,f1])
 refine Cp (i:=K.length) (rows:=rows) hw hx hy (by rw[hi1,e1]) hr f2 h1 (by rw[e2,f2];exact hb) (by rw[e2,f2];exact h63) fun v' w' hw'=>⟨?_,fun hh=>by rw[hfr]at hh;cases hh⟩
 rw[Dv ht,B6,A8 hcc,hM2];have h3:F3 (stab.getD c []) (C9 g (some dd) v') D5 dd=v':=by
  rw[L8 (by simpa using hs)];exact upd_same _ _ _
 have h4:F3 (stab.getD c2 []) (C9 g (some dd) v') D5 dy=g dy:=by
  rw[L8 (by simpa using hsy)];exact upd_ne _ _ hdd
 simp only[h3,h4]
 rw[List.set_append_right _ _ (Nat.le_refl _),Nat.sub_self]at hw';exact hw'
end
section
variable {P:Program}{n:Nat}{ops:List Oper}{Γ:C4}{K X:List B5}{wr tc stab:List (List Nat)}{s0:List Nat}{Q:Fr→World→Prop}{i:Nat}{rest:List Oper}{ρ:Fr}{w:World}{M:Nat→Fr→List B5}{v:Value}{T T':Type}
variable {ty:TypeId}{pos:String}{es:Array Edge}
theorem D6.imm{Γ Γ':C4}{v:Value}{sz:Nat}{rows:List (List Value)}(h:D6 Γ v sz rows)(hi:∀b o,Γ.imm b=some o→Γ'.imm b=some o):D6 Γ' v sz rows:=by
 unfold D6 at *
 obtain⟨h0,a,n,c,h1,h2,h3,h4,h5⟩:=h;refine⟨h0,a,n,c,h1,h2,h3,h4,fun hl=>?_⟩
 obtain⟨g,o,cur,e,fr,k1,k2,k3⟩:=h5 hl
 exact⟨g,o,cur,e,fr,k1,hi _ _ k2,k3⟩
end
theorem OY{α β:Type}{c:α→α→Int}(h:T4 c)(f:β→α):Go.Sort.SWO (Go.Proofs.ltOf fun a b=>c (f a) (f b)):=
 ⟨fun x=>h.swo.irrefl (f x),fun x y z=>h.swo.trans (f x) (f y) (f z),fun x y z=>h.swo.ntrans (f x) (f y) (f z)⟩
end Mk
end
section
open Go
namespace Mk
def Ends(K:Value→World→Prop)(Q:List PanicEntry→World→Prop):Ending→World→Prop
 | .returned v,w=>K v w
 | .panicked ch,w=>Q ch w
 | .outgrown,_=>False
section
variable {P:Program}{n:Nat}{opa:Array Oper}{QQ:Exit→Fr→World→Prop}{ρ:Fr}{w:World}{rest:List Oper}
variable {d:Option Tmp}{T ty:TypeId}{pos:String}{es:Array Edge}{x:Operand}
theorem Ends.mono{K K':Value→World→Prop}{Q Q':List PanicEntry→World→Prop}{e:Ending}{w:World}(h:Ends K Q e w)(h1:∀v w,K v w→K' v w)(h2:∀ch w,Q ch w→Q' ch w):Ends K' Q' e w:=by
 cases e with
 | returned v=>exact h1 _ _ h
 | panicked ch=>exact h2 _ _ h
 | outgrown=>exact h
attribute [local semireducible] L W Step
theorem I0{f:Nat}{args:List Operand}{tys:Array TypeId}{vs:List Value}[C3 P f](hc:Calls P f vs.toArray w (Ends (fun v w'=>L P n opa QQ rest (C9 ρ d v) w') (fun ch w'=>QQ (.panic ch) ρ w')))(ha:EvL ρ args vs:=by exact u6)(hd:H3 n d=true:=by exact rfl) :
  L P n opa QQ (⟨d,.call { callee:=.value (.func f),args:=args.toArray,argTypes:=tys },ty,pos,es,none⟩::rest) ρ w:=fun a hda hs hf=>
 wpList_plain rfl fun K hK=>by
  subst hf;have hr:(execOp (ev (D9 a)) ⟨d,.call { callee:=.value (.func f),args:=args.toArray,argTypes:=tys },ty,pos,es,none⟩).run P w=.ok (.enter f vs.toArray) w:=by
   simp only[execOp,resolve,ha.eqA,ev,Deferred.ofValue,Sem.run_bind,Sem.run_pure,Result.andThen_ok,invoke]
   simp[Q2]
  unfold Oper.wp;rw[W4,hr,Oper.upon_enter];refine hc.mono fun e w' he=>?_
  cases e with
  | returned v=>exact hK _ _ (he _ (by rw[I4];exact hda) (by rw[size_put];exact hs) (S9 a _ v (by rw[hs];exact I1 hd)))
  | panicked ch=>exact⟨hda,hs,he⟩
  | outgrown=>exact he.elim
def Uw(Q:Exit→Fr→World→Prop):Exit→Fr→World→Prop
 | .goto _,_,_=>False
 | e,ρ,w=>Q e ρ w
theorem RV{l:Nat}(h:QQ .normal ρ w):W P n (.label l) QQ ρ w:=fun a hd hs hf=>wp_label ⟨hd,hs,hf ▸ h⟩
theorem Ox{c:Code}(h:W P n c (Uw QQ) ρ w):W P n (.scope c) QQ ρ w:=fun a hd hs hf=>wp_scope_straight (Code.wp_mono (fun e a w ⟨p,q,r⟩=>by cases e <;> first|exact⟨p,q,r⟩|exact r.elim) (h a hd hs hf))
theorem RU{t:TypeId}{v:Value}(hq:QQ (.panic [{ v:=.iface t v,recovered:=false }]) ρ w)(hx:ev ρ x=.iface t v:=by exact rfl):L P n opa QQ (⟨d,.panic x,ty,pos,es,none⟩::rest) ρ w:=fun a hda hs hf=>
 wpList_plain rfl fun K hK=>by
  subst hf;have hr:(execOp (ev (D9 a)) ⟨d,.panic x,ty,pos,es,none⟩).run P w=.halt (.panic (.iface t v)) w:=by
   simp only[execOp,hx]
   simp[Go.run_panic_iface,Sem.run_bind,Result.andThen]
  unfold Oper.wp;rw[W4,hr,Oper.upon_panic];exact⟨hda,hs,hq⟩
end
theorem put_defers(a:Act)(d:Option Tmp)(v:Value)(D:List Deferred):({ a with defers:=D }:Act).put d v = { a.put d v with defers:=D }:=by cases d <;> rfl
theorem y6{P:Program}{ops:Array Oper}{D:List Deferred}{Q Q':Exit→Act→World→Prop}(hQ:∀e a w,Q e a w→Q' e { a with defers:=a.defers++D } w):∀(l:List Oper) (a:Act) (w:World),wpList P ops Q l a w→wpList P ops Q' l { a with defers:=a.defers++D } w
 | [],a,w,h=>hQ _ _ _ h
 | o::l,a,w,h=>by
  have hL:LetsOut Q→LetsOut Q':=fun⟨a,w,h⟩=>⟨_,_,hQ _ _ _ h⟩
  have nx:∀d v w,wpList P ops Q l (a.put d v) w→wpList P ops Q' l (({ a with defers:=a.defers++D }:Act).put d v) w:=fun d v w h=>by
   have:=y6 hQ l _ _ h
   rw[put_defers];rw[I4]at this;exact this
  have he:({ a with defers:=a.defers++D }:Act).eval=a.eval:=rfl
  unfold wpList at h ⊢
  show if Region.wanted o (yielded ops a.tmps) then _ else _
  by_cases hw:Region.wanted o (yielded ops a.tmps)
  ·rw[if_pos hw]at h ⊢
   rcases h with h|⟨h1,h2⟩
   ·refine .inl ?_
    unfold Oper.wp at h ⊢
    rw[he];generalize (execOp a.eval o).run P w=r at *
    cases r with
    | ok x w'=>
     cases x with
     | value v=>exact nx _ _ _ h
     | skip=>exact nx _ _ _ h
     | defer d=>
      have:=y6 hQ l _ _ h
      rw[I4]at this;simp only[Oper.upon]
      rw[put_defers]at this ⊢
      exact this
     | enter f args=>
      refine Calls.mono h fun e w'' h=>?_
      cases e with
      | returned v=>exact nx _ _ _ h
      | panicked ch=>exact hQ _ _ _ h
      | outgrown=>exact hL h
     | row row args=>exact Rows.mono h fun v w'' h=>nx _ _ _ h
     | _=>exact h.elim
    | halt x w'=>
     cases x with
     | panic v=>exact hQ _ _ _ h
     | _=>exact h.elim
   ·exact .inr ⟨h1,hL h2⟩
  ·rw[if_neg hw]at h ⊢
   exact nx _ _ _ h
def WX(P:Program)(n:Nat)(c:Code)(Q:List Deferred→Exit→Fr→World→Prop)(D:List Deferred)(ρ:Fr)(w:World):Prop:=
 ∀a:Act,a.defers=D→a.tmps.size=n→D9 a=ρ→c.wp P (fun e a w=>a.tmps.size=n∧Q a.defers e (D9 a) w) a w
def LD(P:Program)(n:Nat)(ops:Array Oper)(Q:List Deferred→Exit→Fr→World→Prop)(l:List Oper)(D:List Deferred)(ρ:Fr)(w:World):Prop:=
 ∀a:Act,a.defers=D→a.tmps.size=n→D9 a=ρ→wpList P ops (fun e a w=>a.tmps.size=n∧Q a.defers e (D9 a) w) l a w
def Si(K:List Deferred→Fr→World→Prop)(Q:List Deferred→Exit→Fr→World→Prop):List Deferred→Exit→Fr→World→Prop
 | D,.normal,ρ,w=>K D ρ w
 | D,e,ρ,w=>Q D e ρ w
section
variable {P:Program}{n:Nat}{Q:List Deferred→Exit→Fr→World→Prop}{D:List Deferred}{ρ:Fr}{w:World}
attribute [local semireducible] L W Step
theorem m7{c:Code}(h:W P n c (Q []) ρ w):WX P n c Q [] ρ w:=fun a hd hs hf=>Code.wp_mono (fun e a w ⟨x,y,z⟩=>⟨y,by rw[x];exact z⟩) (h a hd hs hf)
theorem S2{x y:Code}(h:WX P n x (Si (fun D ρ w=>WX P n y Q D ρ w) Q) D ρ w):WX P n (.seq x y) Q D ρ w:=fun a hd hs hf=>
 wp_seq (Code.wp_mono (fun e a w ⟨q,r⟩=>by cases e <;> first|exact r a rfl q rfl|exact⟨q,r⟩) (h a hd hs hf))
theorem Kn(h:Q D .ret ρ w):WX P n .ret Q D ρ w:=fun a hd hs hf=>wp_ret ⟨hs,by rw[hd,hf];exact h⟩
theorem BX{c:Operand}{x y:Code}{b:Bool}(hc:ev ρ c=.bool b)(ht:b=true→WX P n x Q D ρ w)(hf:b=false→WX P n y Q D ρ w):WX P n (.cond c x y) Q D ρ w:=fun a hd hs he=>
 wp_cond_split (t:=b) (by rw[W4,he];exact hc) (fun h=>ht h a hd hs he) (fun h=>hf h a hd hs he)
theorem e7{id:Nat}{l:List Oper}(h:L P n l.toArray (Q D) l ρ w):WX P n (.region id l.toArray false) Q D ρ w:=fun a hd hs hf=>wp_region_lit (by
 have:=y6 (P:=P) (ops:=l.toArray) (D:=D) (Q:=lift n (Q D)) (Q':=fun e a w=>a.tmps.size=n∧Q a.defers e (D9 a) w) (fun e a w ⟨x,y,z⟩=>⟨y,by
  show Q (a.defers++D) e (D9 a) w
  rw[x];exact z⟩) l { a with defers:=[] } w (h { a with defers:=[] } rfl hs hf)
 have e:({ ({ a with defers:=[] }:Act) with defers:=([]:List Deferred)++D }:Act)=a:=by subst hd;rfl
 exact e ▸ this)
theorem CV{id:Nat}{l:List Oper}(h:LD P n l.toArray Q l D ρ w):WX P n (.region id l.toArray false) Q D ρ w:=fun a hd hs hf=>wp_region_lit (h a hd hs hf)
theorem KH{ops:Array Oper}(h:Q D .normal ρ w):LD P n ops Q [] D ρ w:=fun a hd hs hf=>⟨hs,by rw[hd,hf];exact h⟩
theorem ID{ops:Array Oper}{o:Oper}{rest:List Oper}(h:Step P o ρ w fun v w'=>LD P n ops Q rest D (C9 ρ o.dst v) w')(hg:o.guard=none:=by exact rfl)(hd:H3 n o.dst=true:=by exact rfl):LD P n ops Q (o::rest) D ρ w:=fun a hda hs hf=>
 wpList_plain hg fun K hK=>by
  subst hf;refine Step.wp h fun v w' hv=>hK _ _ (hv _ ?_ ?_ ?_)
  ·rw[I4];exact hda
  ·rw[size_put];exact hs
  ·exact S9 a _ v (by rw[hs];exact I1 hd)
theorem Ob{ops:Array Oper}{o:Oper}{rest:List Oper}{dd:Deferred}(hr:(execOp (ev ρ) o).run P w=.ok (.defer dd) w)(h:LD P n ops Q rest (dd::D) (C9 ρ o.dst undef) w)(hg:o.guard=none:=by exact rfl)(hd:H3 n o.dst=true:=by exact rfl):LD P n ops Q (o::rest) D ρ w:=fun a hda hs hf=>
 wpList_plain hg fun K hK=>by
  subst hf;unfold Oper.wp;rw[W4,hr];refine hK _ _ (h _ ?_ ?_ ?_)
  ·rw[I4,hda]
  ·rw[size_put];exact hs
  ·exact S9 ({ a with defers:=dd::a.defers }:Act) _ undef (by
    show ∀t,o.dst=some t→t<a.tmps.size
    rw[hs];exact I1 hd)
def Uc(P:Program)(fn:Func)(R:Ending→World→Prop):List Deferred→Exit→Fr→World→Prop
 | D,.normal,ρ,w=>∀a:Act,D9 a=ρ→a.tmps.size=fn.ntmps→Leaves P fn a.tmps R D .returning w
 | D,.ret,ρ,w=>∀a:Act,D9 a=ρ→a.tmps.size=fn.ntmps→Leaves P fn a.tmps R D .returning w
 | D,.panic ch,ρ,w=>∀a:Act,D9 a=ρ→a.tmps.size=fn.ntmps→Leaves P fn a.tmps R D (.panicking ch) w
 | _,.outgrown,_,w=>R .outgrown w
 | _,_,_,_=>False
theorem BW{f:FuncId}{fn:Func}{c:Code}{args:Array Value}{R:Ending→World→Prop}(hf:P.funcs[f]? = some fn)(hb:fn.body=some c)
  (hn:Nat.ble args.size fn.ntmps=true) (h:WX P fn.ntmps c (Uc P fn R) [] (V3 args) w):Calls P f args w R:=by
 have hle:args.size≤fn.ntmps:=Nat.le_of_ble_eq_true hn
 refine calls_of_wp_defers hf hb (Code.wp_mono ?_ (h _ rfl (by simp;omega) ?_))
 ·rintro e a w ⟨hs,hq⟩
  cases e with
  | normal=>exact hq a rfl hs
  | ret=>exact hq a rfl hs
  | panic ch=>exact hq a rfl hs
  | outgrown=>exact hq
  | exit id=>exact hq.elim
  | goto l=>exact hq.elim
 ·funext t
  simp only[D9,V3,Array.getD_eq_getD_getElem?,Array.getElem?_append]
  by_cases ht:t<args.size
  ·rw[if_pos ht]
  ·rw[if_neg ht,Array.getElem?_eq_none (by omega:args.size≤t)]
   simp only[Array.getElem?_replicate]
   split <;> rfl
end
def DI:FrameMode→Value×FrameMode
 | .panicking ({ v,recovered:=false,goexit:=false }::older)=>(v,.panicking ({ v,recovered:=true }::older))
 | u=>(.nilIface,u)
theorem Gk(c:Frame)(cs:List Frame):(recoverD (c::cs)=some ((DI c.mode).1,{ c with mode:=(DI c.mode).2 }::cs))∨(recoverD (c::cs)=none∧DI c.mode=(.nilIface,c.mode)):=by
 obtain⟨fn,tmps,todo,defers,mode,kind,ro⟩:=c;cases mode with
 | run=>exact .inr ⟨rfl,rfl⟩
 | returning=>exact .inr ⟨rfl,rfl⟩
 | panicking ch=>
  match ch with
  | []=>exact .inr ⟨rfl,rfl⟩
  | ⟨v,true,g⟩::older=>exact .inr ⟨rfl,rfl⟩
  | ⟨v,false,true⟩::older=>exact .inr ⟨rfl,rfl⟩
  | ⟨v,false,false⟩::older=>exact .inl rfl
section
variable {P:Program}{n:Nat}{opa:Array Oper}{QQ:Exit→Fr→World→Prop}{ρ:Fr}{w:World}{rest:List Oper}
variable {d:Option Tmp}{T ty:TypeId}{pos:String}{es:Array Edge}{x:Operand}
attribute [local semireducible] L W Step
theorem GE{f:FuncId}{fn:Func}{cc:Code}{id d1 d2:Nat}{ty1 ty2:TypeId}{pos1 pos2:String}{es1 es2:Array Edge}{args:Array Value}{u:FrameMode}{R:Ending→FrameMode→World→Prop}(hf:P.funcs[f]? = some fn)
  (hb:fn.body=some (.seq (.region id #[⟨some d1,.call { callee:=.builtin .recover,args:=#[],argTypes:=#[] },ty1,pos1,es1,none⟩,⟨some d2,.assign (.tmp d1),ty2,pos2,es2,none⟩] false) cc))
  (hn:Nat.ble args.size fn.ntmps=true) (h1:Nat.ble (d1+1) fn.ntmps=true) (h2:Nat.ble (d2+1) fn.ntmps=true)
  (h:W P fn.ntmps cc (TU fn.results fun e w=>R e (DI u).2 w) (upd (upd (V3 args) d1 (DI u).1) d2 (DI u).1) w):CallsD P f args u w R:=by
 have hle:args.size≤fn.ntmps:=Nat.le_of_ble_eq_true hn
 have h1:d1+1≤fn.ntmps:=Nat.le_of_ble_eq_true h1
 have h2:d2+1≤fn.ntmps:=Nat.le_of_ble_eq_true h2
 refine callsD_of_wpS hf hb fun c cs hu=>?_
 obtain⟨a,ha⟩:∃a:Act,a = { tmps:=args++Array.replicate (fn.ntmps-args.size) undef,defers:=[] }:=⟨_,rfl⟩
 have had:a.defers=[]:=by rw[ha]
 have has:a.tmps.size=fn.ntmps:=by rw[ha];simp;omega
 have hae:D9 a=V3 args:=by
  rw[ha];funext t
  simp only[D9,V3,Array.getD_eq_getD_getElem?,Array.getElem?_append]
  by_cases ht:t<args.size
  ·rw[if_pos ht]
  ·rw[if_neg ht,Array.getElem?_eq_none (by omega:args.size≤t)]
   simp only[Array.getElem?_replicate]
   split <;> rfl
 rw[←ha];have hcs:∀cs',(cs' = { c with mode:=(DI u).2 }::cs)→cc.wpS P (bodyPostS P fn c cs R) ((a.put (some d1) (DI u).1).put (some d2) (DI u).1) cs' w:=by
  rintro cs' rfl
  refine wpS_of_wp (Code.wp_mono ?_ (h _ ?_ ?_ ?_))
  ·rintro e a' w' ⟨p,q,r⟩
   cases e with
   | normal=>obtain⟨v,hv,hR⟩:=r;exact⟨p,_,rfl,v,N4 hv,hR⟩
   | ret=>obtain⟨v,hv,hR⟩:=r;exact⟨p,_,rfl,v,N4 hv,hR⟩
   | panic ch=>exact⟨p,_,rfl,r⟩
   | outgrown=>exact⟨_,r⟩
   | exit id=>exact r.elim
   | goto l=>exact r.elim
  ·rw[I4,I4];exact had
  ·rw[size_put,size_put];exact has
  ·rw[Cz _ _ _ (by rw[size_put];omega),Cz _ _ _ (by omega),hae]
 refine wpS_seq (wpS_region ?_)
 show wpOpsS P _ _ [0,1] a (c::cs) w
 have e1:∀(o:Oper),o.guard=none→∀q,Region.wanted o q=true:=fun o ho q=>by unfold Region.wanted;rw[ho]
 unfold wpOpsS;simp only[List.getElem?_toArray,List.getElem?_cons_zero]
 rw[if_pos (e1 _ rfl _)];have hr:(execOp a.eval ⟨some d1,.call { callee:=.builtin .recover,args:=#[],argTypes:=#[] },ty1,pos1,es1,none⟩).run P w=.ok .recover w:=by
  rfl
 simp only[hr]
 have last:∀cs' a',a'=a.put (some d1) (DI u).1→(cs' = { c with mode:=(DI u).2 }::cs)→wpOpsS P #[⟨some d1,.call { callee:=.builtin .recover,args:=#[],argTypes:=#[] },ty1,pos1,es1,none⟩,⟨some d2,.assign (.tmp d1),ty2,pos2,es2,none⟩] (Exit.thenS (cc.wpS P (bodyPostS P fn c cs R)) (bodyPostS P fn c cs R)) [1] a' cs' w:=by
  intro cs' a' ha' hcs';unfold wpOpsS;simp only[List.getElem?_toArray,List.getElem?_cons_succ,List.getElem?_cons_zero]
  rw[if_pos (e1 _ rfl _)];have hv:(execOp a'.eval ⟨some d2,.assign (.tmp d1),ty2,pos2,es2,none⟩).run P w=.ok (.value (DI u).1) w:=by
   have:a'.eval (.tmp d1)=(DI u).1:=by
    rw[W4,ha',Cz _ _ _ (by omega)];exact upd_same _ _ _
   show (execOp a'.eval ⟨some d2,.assign (.tmp d1),ty2,pos2,es2,none⟩).run P w=_
   rw[←this];rfl
  simp only[hv,Oper.upon]
  unfold wpOpsS;rw[ha'];exact hcs _ hcs'
 rcases Gk c cs with hq|⟨hq,hm⟩
 ·rw[hq];refine last _ _ ?_ ?_
  ·rw[hu]
  ·rw[hu]
 ·rw[hq];rw[hu]at hm;refine last _ _ ?_ ?_
  ·rw[hm]
  ·rw[hm];show _ = { c with mode:=u }::cs
   rw[←hu]
theorem EK{ops:Array Oper}{Q:List Deferred→Exit→Fr→World→Prop}{D:List Deferred}{t:Tmp}{f:Nat}{fst cap:Array Value}(h:LD P n ops Q rest (⟨.fn (.func f) cap,fst⟩::D) (C9 ρ d undef) w)(ht:ρ t=.func (.func f) fst cap:=by exact rfl)(hd:H3 n d=true:=by exact rfl) :
  LD P n ops Q (⟨d,.defer { callee:=.value (.tmp t),args:=#[],argTypes:=#[] },ty,pos,es,none⟩::rest) D ρ w:=
 Ob (by
  have:ev ρ (.tmp t)=.func (.func f) fst cap:=ht
  simp[execOp,resolve,this,Deferred.ofValue,Sem.run_bind,Sem.run_pure,Result.andThen_ok]) h rfl hd
theorem KO{U:TypeId}{g:Option (Nat×Bool)}{v:Value}{fs:Array Field}(hu:P.underlying U=some (.struct fs))(hx:ev ρ x=.iface U v):Yields P ⟨d,.typeAssert x T U true,ty,pos,es,g⟩ ρ w (.tuple #[v,.bool true]):=by
 unfold Yields;simp[execOp,hx,Instr.typeAssert,run_underlying hu,Sem.run_bind,Sem.run_pure,Result.andThen]
theorem RZ{U:TypeId}{g:Option (Nat×Bool)}{T':TypeId}{v:Value}{ms:Array (String×TypeId)}(hu:P.underlying T=some (.interface ms))(hx:ev ρ x=.iface U v):Yields P ⟨d,.binOp .neq T x (.const .nilIface) T',ty,pos,es,g⟩ ρ w (.bool true):=by
 have h:∀d:Nat,(Op.equalIn (d+1) T (.iface U v) .nilIface).run P w=.ok false w:=fun d=>by simp[Op.equalIn,run_underlying hu]
 have hy:ev ρ (.const .nilIface)=.nilIface:=rfl
 unfold Yields;simp[execOp,go_sem,hx,hy,binOp,Op.equal,Op.maxDepth,h 9999]
theorem Qz{g:Option (Nat×Bool)}{T':TypeId}{ms:Array (String×TypeId)}(hu:P.underlying T=some (.interface ms))(hx:ev ρ x=.nilIface):Yields P ⟨d,.binOp .neq T x (.const .nilIface) T',ty,pos,es,g⟩ ρ w (.bool false):=by
 have h:∀d:Nat,(Op.equalIn (d+1) T .nilIface .nilIface).run P w=.ok true w:=fun d=>by simp[Op.equalIn,run_underlying hu]
 have hy:ev ρ (.const .nilIface)=.nilIface:=rfl
 unfold Yields;simp[execOp,go_sem,hx,hy,binOp,Op.equal,Op.maxDepth,h 9999,eqGuard]
end
section
variable {P:Program}{n:Nat}{opa:Array Oper}{QQ:Exit→Fr→World→Prop}{ρ:Fr}{w:World}{rest:List Oper}{Γ:C4}{S:List B5}
variable {d:Option Tmp}{ty:TypeId}{pos:String}{es:Array Edge}{f j dj:Nat}{want c:Bool}{args:List Operand}{tys:Array TypeId}{vs:List Value}{v:Value}{t:Tmp}
attribute [local semireducible] gv
theorem NV[C3 P f](h:∀w',Wd Γ S w'→L P n opa QQ rest (C9 ρ d (gv c v)) w')(hw:Wd Γ S w:=by exact hw)(hj:(opa[j]?).bind (·.dst)=some dj:=by exact rfl)(hjn:H3 n (some dj)=true:=by exact rfl)(hc:G3 (ρ dj) want c:=by exact Gi)(hd:H3 n d=true:=by exact rfl)(ha:c=true→EvL ρ args vs:=by intro hc;exact He)(hp:PG P Γ f vs v:=by infer_instance) :
  L P n opa QQ (⟨d,.call { callee:=.value (.func f),args:=args.toArray,argTypes:=tys },ty,pos,es,some (j,want)⟩::rest) ρ w:=
 lGC hj hjn hd hc (fun hct=>TD (fun w' hw'=>by have:=h w' hw';rw[hct]at this;exact this) hw (ha hct) hd hp) (fun hcf=>by have:=h w hw;rw[hcf]at this;exact this)
end
end Mk
end
section
open Go Mk
namespace Go.Proofs.YtlmiakjbogojgaaGreatDoor
instance:TS Tryz.prog 2:=⟨by kernel_rfl⟩
instance:Nk Tryz.prog 2 .i64:=⟨by kernel_rfl⟩
instance:TS Tryz.prog 3:=⟨by kernel_rfl⟩
instance:Nk Tryz.prog 3 .i64:=⟨by kernel_rfl⟩
instance:UO Tryz.prog 4 (.bool false):=⟨by kernel_rfl⟩
instance:Nk Tryz.prog 5 .u8:=⟨by kernel_rfl⟩
instance:TS Tryz.prog 9:=⟨by kernel_rfl⟩
instance:Do Tryz.prog 9:=⟨by kernel_rfl⟩
instance:TZ Tryz.prog 22 [.slice none 0 0]:=⟨by kernel_rfl⟩
instance:TS Tryz.prog 22:=⟨by kernel_rfl⟩
instance:TL Tryz.prog 22 9 1 16 [.string ⟨#[]⟩]:=⟨by kernel_rfl,by kernel_rfl,by kernel_rfl,by decide⟩
instance:TS Tryz.prog 23:=⟨by kernel_rfl⟩
instance:TL Tryz.prog 23 77 15 176 [.int .i64 0,.string ⟨#[]⟩,.slice none 0 0,.int .i64 0,.string ⟨#[]⟩,.int .i64 0,.int .i64 0,.string ⟨#[]⟩,.string ⟨#[]⟩,.int .i64 0,.int .i64 0,.string ⟨#[]⟩,.int .i64 0,.int .i64 0,.int .i64 0]:=⟨by kernel_rfl,by kernel_rfl,by kernel_rfl,by decide⟩
instance:TZ Tryz.prog 25 [.slice none 0 0,.slice none 0 0]:=⟨by kernel_rfl⟩
instance:TA Tryz.prog 25 2:=⟨by kernel_rfl⟩
instance:TB Tryz.prog 25 [(0,1),(1,1)] [.slice none 0 0,.slice none 0 0]:=⟨by kernel_rfl,by kernel_rfl⟩
instance:TF Tryz.prog 25 0 0:=⟨by kernel_rfl⟩
instance:TF Tryz.prog 25 1 1:=⟨by kernel_rfl⟩
instance:TZ Tryz.prog 29 [.int .i64 0,.int .i64 0]:=⟨by kernel_rfl⟩
instance:TA Tryz.prog 29 2:=⟨by kernel_rfl⟩
instance:Uq Tryz.prog 29 [5,5]:=⟨by kernel_rfl,by kernel_rfl,by kernel_rfl⟩
instance:TB Tryz.prog 29 [(0,1),(1,1)] [.int .i64 0,.int .i64 0]:=⟨by kernel_rfl,by kernel_rfl⟩
instance:TF Tryz.prog 29 0 0:=⟨by kernel_rfl⟩
instance:TF Tryz.prog 29 1 1:=⟨by kernel_rfl⟩
instance:TZ Tryz.prog 30 [.int .i64 0]:=⟨by kernel_rfl⟩
instance:TS Tryz.prog 30:=⟨by kernel_rfl⟩
instance:TL Tryz.prog 37 3 1 8 [.int .i64 0]:=⟨by kernel_rfl,by kernel_rfl,by kernel_rfl,by decide⟩
instance:TS Tryz.prog 56:=⟨by kernel_rfl⟩
instance:Nk Tryz.prog 56 .u64:=⟨by kernel_rfl⟩
instance:TS Tryz.prog 60:=⟨by kernel_rfl⟩
instance:TL Tryz.prog 60 80 2 40 [.string ⟨#[]⟩,.slice none 0 0]:=⟨by kernel_rfl,by kernel_rfl,by kernel_rfl,by decide⟩
instance:TZ Tryz.prog 65 [.int .i64 0,.int .i64 0,.string ⟨#[]⟩]:=⟨by kernel_rfl⟩
instance:UO Tryz.prog 65 (.agg #[.int .i64 0,.int .i64 0,.string ⟨#[]⟩]):=⟨by kernel_rfl⟩
instance:TA Tryz.prog 65 3:=⟨by kernel_rfl⟩
instance:Uq Tryz.prog 65 [5,5,1]:=⟨by kernel_rfl,by kernel_rfl,by kernel_rfl⟩
instance:TB Tryz.prog 65 [(0,1),(1,1),(2,1)] [.int .i64 0,.int .i64 0,.string ⟨#[]⟩]:=⟨by kernel_rfl,by kernel_rfl⟩
instance:TF Tryz.prog 65 0 0:=⟨by kernel_rfl⟩
instance:TF Tryz.prog 65 1 1:=⟨by kernel_rfl⟩
instance:TF Tryz.prog 65 2 2:=⟨by kernel_rfl⟩
instance:TS Tryz.prog 67:=⟨by kernel_rfl⟩
instance:TL Tryz.prog 67 70 1 24 [.slice none 0 0]:=⟨by kernel_rfl,by kernel_rfl,by kernel_rfl,by decide⟩
instance:TS Tryz.prog 70:=⟨by kernel_rfl⟩
instance:TL Tryz.prog 70 65 3 32 [.int .i64 0,.int .i64 0,.string ⟨#[]⟩]:=⟨by kernel_rfl,by kernel_rfl,by kernel_rfl,by decide⟩
instance:TS Tryz.prog 73:=⟨by kernel_rfl⟩
instance:TL Tryz.prog 73 75 4 48 [.string ⟨#[]⟩,.int .i64 0,.int .i64 0,.string ⟨#[]⟩]:=⟨by kernel_rfl,by kernel_rfl,by kernel_rfl,by decide⟩
instance:TZ Tryz.prog 75 [.string ⟨#[]⟩,.int .i64 0,.int .i64 0,.string ⟨#[]⟩]:=⟨by kernel_rfl⟩
instance:TA Tryz.prog 75 4:=⟨by kernel_rfl⟩
instance:Uq Tryz.prog 75 [1,5,5,1]:=⟨by kernel_rfl,by kernel_rfl,by kernel_rfl⟩
instance:TB Tryz.prog 75 [(0,1),(1,3)] [.string ⟨#[]⟩,.int .i64 0,.int .i64 0,.string ⟨#[]⟩]:=⟨by kernel_rfl,by kernel_rfl⟩
instance:TF Tryz.prog 75 0 0:=⟨by kernel_rfl⟩
instance:TF Tryz.prog 75 1 1:=⟨by kernel_rfl⟩
instance:TZ Tryz.prog 77 [.int .i64 0,.string ⟨#[]⟩,.slice none 0 0,.int .i64 0,.string ⟨#[]⟩,.int .i64 0,.int .i64 0,.string ⟨#[]⟩,.string ⟨#[]⟩,.int .i64 0,.int .i64 0,.string ⟨#[]⟩,.int .i64 0,.int .i64 0,.int .i64 0]:=⟨by kernel_rfl⟩
instance:TA Tryz.prog 77 15:=⟨by kernel_rfl⟩
instance:TB Tryz.prog 77 [(0,1),(1,1),(2,1),(3,1),(4,4),(8,4),(12,1),(13,1),(14,1)] [.int .i64 0,.string ⟨#[]⟩,.slice none 0 0,.int .i64 0,.string ⟨#[]⟩,.int .i64 0,.int .i64 0,.string ⟨#[]⟩,.string ⟨#[]⟩,.int .i64 0,.int .i64 0,.string ⟨#[]⟩,.int .i64 0,.int .i64 0,.int .i64 0]:=⟨by kernel_rfl,by kernel_rfl⟩
instance:TF Tryz.prog 77 0 0:=⟨by kernel_rfl⟩
instance:TF Tryz.prog 77 1 1:=⟨by kernel_rfl⟩
instance:TF Tryz.prog 77 2 2:=⟨by kernel_rfl⟩
instance:TF Tryz.prog 77 3 3:=⟨by kernel_rfl⟩
instance:TF Tryz.prog 77 4 4:=⟨by kernel_rfl⟩
instance:TF Tryz.prog 77 5 8:=⟨by kernel_rfl⟩
instance:TF Tryz.prog 77 6 12:=⟨by kernel_rfl⟩
instance:TF Tryz.prog 77 7 13:=⟨by kernel_rfl⟩
instance:TF Tryz.prog 77 8 14:=⟨by kernel_rfl⟩
instance:TZ Tryz.prog 80 [.string ⟨#[]⟩,.slice none 0 0]:=⟨by kernel_rfl⟩
instance:TA Tryz.prog 80 2:=⟨by kernel_rfl⟩
instance:TB Tryz.prog 80 [(0,1),(1,1)] [.string ⟨#[]⟩,.slice none 0 0]:=⟨by kernel_rfl,by kernel_rfl⟩
instance:TF Tryz.prog 80 0 0:=⟨by kernel_rfl⟩
instance:TF Tryz.prog 80 1 1:=⟨by kernel_rfl⟩
instance:TS Tryz.prog 83:=⟨by kernel_rfl⟩
instance:TL Tryz.prog 83 102 5 48 [.int .i64 0,.string ⟨#[]⟩,.int .u64 0,.int .i64 0,.int .i64 0]:=⟨by kernel_rfl,by kernel_rfl,by kernel_rfl,by decide⟩
instance:TZ Tryz.prog 87 [.int .i64 0,.int .i64 0,.int .i64 0]:=⟨by kernel_rfl⟩
instance:TA Tryz.prog 87 3:=⟨by kernel_rfl⟩
instance:TB Tryz.prog 87 [(0,2),(2,1)] [.int .i64 0,.int .i64 0,.int .i64 0]:=⟨by kernel_rfl,by kernel_rfl⟩
instance:TF Tryz.prog 87 0 0:=⟨by kernel_rfl⟩
instance:TF Tryz.prog 87 1 2:=⟨by kernel_rfl⟩
instance:TB Tryz.prog 93 [(0,1),(1,1),(2,2)] [.slice none 0 0,.int .i64 0,.int .i64 0,.int .i64 0]:=⟨by kernel_rfl,by kernel_rfl⟩
instance:TF Tryz.prog 93 0 0:=⟨by kernel_rfl⟩
instance:TF Tryz.prog 93 1 1:=⟨by kernel_rfl⟩
instance:TF Tryz.prog 93 2 2:=⟨by kernel_rfl⟩
instance:TZ Tryz.prog 102 [.int .i64 0,.string ⟨#[]⟩,.int .u64 0,.int .i64 0,.int .i64 0]:=⟨by kernel_rfl⟩
instance:TA Tryz.prog 102 5:=⟨by kernel_rfl⟩
instance:TB Tryz.prog 102 [(0,1),(1,1),(2,1),(3,2)] [.int .i64 0,.string ⟨#[]⟩,.int .u64 0,.int .i64 0,.int .i64 0]:=⟨by kernel_rfl,by kernel_rfl⟩
instance:TF Tryz.prog 102 0 0:=⟨by kernel_rfl⟩
instance:TF Tryz.prog 102 1 1:=⟨by kernel_rfl⟩
instance:TF Tryz.prog 102 2 2:=⟨by kernel_rfl⟩
instance:TF Tryz.prog 102 3 3:=⟨by kernel_rfl⟩
instance:TB Tryz.prog 104 [(0,1),(1,1),(2,1),(3,2),(5,1)] [.string ⟨#[]⟩,.slice none 0 0,.int .i64 0,.int .i64 0,.int .i64 0,.int .i64 0]:=⟨by kernel_rfl,by kernel_rfl⟩
instance:TF Tryz.prog 104 0 0:=⟨by kernel_rfl⟩
instance:TF Tryz.prog 104 1 1:=⟨by kernel_rfl⟩
instance:TF Tryz.prog 104 2 2:=⟨by kernel_rfl⟩
instance:TF Tryz.prog 104 3 3:=⟨by kernel_rfl⟩
instance:TF Tryz.prog 104 4 5:=⟨by kernel_rfl⟩
instance:TS Tryz.prog 108:=⟨by kernel_rfl⟩
instance:TS Tryz.prog 153:=⟨by kernel_rfl⟩
instance:TS Tryz.prog 156:=⟨by kernel_rfl⟩
instance:TS Tryz.prog 157:=⟨by kernel_rfl⟩
instance:EH Tryz.prog 157 9 65:=⟨by kernel_rfl⟩
instance:TS Tryz.prog 158:=⟨by kernel_rfl⟩
instance:TL Tryz.prog 158 60 1 24 [.slice none 0 0]:=⟨by kernel_rfl,by kernel_rfl,by kernel_rfl,by decide⟩
instance:TB Tryz.prog 160 [(0,2),(2,1),(3,1),(4,1)] [.slice none 0 0,.slice none 0 0,.slice none 0 0,.map none,.slice none 0 0]:=⟨by kernel_rfl,by kernel_rfl⟩
instance:TF Tryz.prog 160 0 0:=⟨by kernel_rfl⟩
instance:TF Tryz.prog 160 1 2:=⟨by kernel_rfl⟩
instance:TF Tryz.prog 160 2 3:=⟨by kernel_rfl⟩
instance:TF Tryz.prog 160 3 4:=⟨by kernel_rfl⟩
instance:TL Tryz.prog 180 108 1 8 [.nilFunc]:=⟨by kernel_rfl,by kernel_rfl,by kernel_rfl,by decide⟩
instance:EH Tryz.prog 232 9 4:=⟨by kernel_rfl⟩
instance:C3 Tryz.prog 5:=⟨by kernel_rfl⟩
instance:C3 Tryz.prog 6:=⟨by kernel_rfl⟩
instance:C3 Tryz.prog 7:=⟨by kernel_rfl⟩
instance:C3 Tryz.prog 8:=⟨by kernel_rfl⟩
instance:C3 Tryz.prog 9:=⟨by kernel_rfl⟩
instance:C3 Tryz.prog 10:=⟨by kernel_rfl⟩
instance:C3 Tryz.prog 11:=⟨by kernel_rfl⟩
instance:C3 Tryz.prog 12:=⟨by kernel_rfl⟩
instance:C3 Tryz.prog 21:=⟨by kernel_rfl⟩
instance:C3 Tryz.prog 22:=⟨by kernel_rfl⟩
instance:C3 Tryz.prog 24:=⟨by kernel_rfl⟩
instance:C3 Tryz.prog 25:=⟨by kernel_rfl⟩
instance:C3 Tryz.prog 26:=⟨by kernel_rfl⟩
instance:C3 Tryz.prog 27:=⟨by kernel_rfl⟩
instance:C3 Tryz.prog 28:=⟨by kernel_rfl⟩
instance:C3 Tryz.prog 30:=⟨by kernel_rfl⟩
instance:C3 Tryz.prog 31:=⟨by kernel_rfl⟩
instance:C3 Tryz.prog 32:=⟨by kernel_rfl⟩
instance:C3 Tryz.prog 33:=⟨by kernel_rfl⟩
instance:C3 Tryz.prog 34:=⟨by kernel_rfl⟩
instance:C3 Tryz.prog 35:=⟨by kernel_rfl⟩
instance:C3 Tryz.prog 36:=⟨by kernel_rfl⟩
instance:C3 Tryz.prog 37:=⟨by kernel_rfl⟩
instance:C3 Tryz.prog 38:=⟨by kernel_rfl⟩
instance:C3 Tryz.prog 39:=⟨by kernel_rfl⟩
instance:C3 Tryz.prog 40:=⟨by kernel_rfl⟩
instance:C3 Tryz.prog 41:=⟨by kernel_rfl⟩
instance:C3 Tryz.prog 42:=⟨by kernel_rfl⟩
instance:C3 Tryz.prog 43:=⟨by kernel_rfl⟩
instance:C3 Tryz.prog 44:=⟨by kernel_rfl⟩
instance:C3 Tryz.prog 45:=⟨by kernel_rfl⟩
instance:C3 Tryz.prog 46:=⟨by kernel_rfl⟩
instance:C3 Tryz.prog 47:=⟨by kernel_rfl⟩
instance:C3 Tryz.prog 48:=⟨by kernel_rfl⟩
instance:C3 Tryz.prog 49:=⟨by kernel_rfl⟩
instance:C3 Tryz.prog 50:=⟨by kernel_rfl⟩
instance:C3 Tryz.prog 62:=⟨by kernel_rfl⟩
instance:C3 Tryz.prog 63:=⟨by kernel_rfl⟩
instance:C3 Tryz.prog 72:=⟨by kernel_rfl⟩
instance:C3 Tryz.prog 73:=⟨by kernel_rfl⟩
instance:C3 Tryz.prog 74:=⟨by kernel_rfl⟩
instance:C3 Tryz.prog 75:=⟨by kernel_rfl⟩
instance:C3 Tryz.prog 77:=⟨by kernel_rfl⟩
instance:C3 Tryz.prog 78:=⟨by kernel_rfl⟩
instance:C3 Tryz.prog 79:=⟨by kernel_rfl⟩
instance:C3 Tryz.prog 80:=⟨by kernel_rfl⟩
instance:C3 Tryz.prog 81:=⟨by kernel_rfl⟩
instance:C3 Tryz.prog 82:=⟨by kernel_rfl⟩
instance:C3 Tryz.prog 83:=⟨by kernel_rfl⟩
instance:C3 Tryz.prog 84:=⟨by kernel_rfl⟩
instance:C3 Tryz.prog 85:=⟨by kernel_rfl⟩
instance:C3 Tryz.prog 89:=⟨by kernel_rfl⟩
instance:C3 Tryz.prog 90:=⟨by kernel_rfl⟩
instance:C3 Tryz.prog 91:=⟨by kernel_rfl⟩
instance:C3 Tryz.prog 92:=⟨by kernel_rfl⟩
instance:C3 Tryz.prog 93:=⟨by kernel_rfl⟩
instance:C3 Tryz.prog 94:=⟨by kernel_rfl⟩
instance:C3 Tryz.prog 95:=⟨by kernel_rfl⟩
instance:C3 Tryz.prog 96:=⟨by kernel_rfl⟩
instance:C3 Tryz.prog 97:=⟨by kernel_rfl⟩
instance:C3 Tryz.prog 98:=⟨by kernel_rfl⟩
instance:C3 Tryz.prog 99:=⟨by kernel_rfl⟩
instance:C3 Tryz.prog 100:=⟨by kernel_rfl⟩
instance:C3 Tryz.prog 101:=⟨by kernel_rfl⟩
instance:C3 Tryz.prog 102:=⟨by kernel_rfl⟩
instance:C3 Tryz.prog 103:=⟨by kernel_rfl⟩
instance:C3 Tryz.prog 104:=⟨by kernel_rfl⟩
instance:C3 Tryz.prog 105:=⟨by kernel_rfl⟩
instance:C3 Tryz.prog 109:=⟨by kernel_rfl⟩
instance:C3 Tryz.prog 110:=⟨by kernel_rfl⟩
instance:C3 Tryz.prog 111:=⟨by kernel_rfl⟩
instance:C3 Tryz.prog 112:=⟨by kernel_rfl⟩
instance:C3 Tryz.prog 113:=⟨by kernel_rfl⟩
instance:C3 Tryz.prog 114:=⟨by kernel_rfl⟩
instance:C3 Tryz.prog 115:=⟨by kernel_rfl⟩
instance:C3 Tryz.prog 116:=⟨by kernel_rfl⟩
instance:C3 Tryz.prog 117:=⟨by kernel_rfl⟩
instance:C3 Tryz.prog 134:=⟨by kernel_rfl⟩
instance:C3 Tryz.prog 137:=⟨by kernel_rfl⟩
instance:C3 Tryz.prog 141:=⟨by kernel_rfl⟩
instance:C3 Tryz.prog 142:=⟨by kernel_rfl⟩
instance:C3 Tryz.prog 143:=⟨by kernel_rfl⟩
instance:C3 Tryz.prog 144:=⟨by kernel_rfl⟩
instance:C3 Tryz.prog 145:=⟨by kernel_rfl⟩
instance:C3 Tryz.prog 146:=⟨by kernel_rfl⟩
instance:C3 Tryz.prog 147:=⟨by kernel_rfl⟩
instance:C3 Tryz.prog 148:=⟨by kernel_rfl⟩
instance:C3 Tryz.prog 149:=⟨by kernel_rfl⟩
instance:C3 Tryz.prog 150:=⟨by kernel_rfl⟩
instance:C3 Tryz.prog 152:=⟨by kernel_rfl⟩
instance:C3 Tryz.prog 153:=⟨by kernel_rfl⟩
instance:C3 Tryz.prog 154:=⟨by kernel_rfl⟩
instance:C3 Tryz.prog 155:=⟨by kernel_rfl⟩
instance:C3 Tryz.prog 156:=⟨by kernel_rfl⟩
instance:C3 Tryz.prog 157:=⟨by kernel_rfl⟩
instance:C3 Tryz.prog 158:=⟨by kernel_rfl⟩
instance:C3 Tryz.prog 160:=⟨by kernel_rfl⟩
instance:C3 Tryz.prog 161:=⟨by kernel_rfl⟩
instance:C3 Tryz.prog 162:=⟨by kernel_rfl⟩
instance:C3 Tryz.prog 163:=⟨by kernel_rfl⟩
instance:C3 Tryz.prog 164:=⟨by kernel_rfl⟩
instance:C3 Tryz.prog 165:=⟨by kernel_rfl⟩
instance:C3 Tryz.prog 166:=⟨by kernel_rfl⟩
instance:C3 Tryz.prog 167:=⟨by kernel_rfl⟩
instance:C3 Tryz.prog 168:=⟨by kernel_rfl⟩
instance:C3 Tryz.prog 169:=⟨by kernel_rfl⟩
instance:C3 Tryz.prog 170:=⟨by kernel_rfl⟩
instance:C3 Tryz.prog 171:=⟨by kernel_rfl⟩
instance:C3 Tryz.prog 175:=⟨by kernel_rfl⟩
instance:C3 Tryz.prog 176:=⟨by kernel_rfl⟩
instance:C3 Tryz.prog 177:=⟨by kernel_rfl⟩
instance:C3 Tryz.prog 178:=⟨by kernel_rfl⟩
instance:C3 Tryz.prog 179:=⟨by kernel_rfl⟩
instance:C3 Tryz.prog 203:=⟨by kernel_rfl⟩
instance:C3 Tryz.prog 204:=⟨by kernel_rfl⟩
instance:C3 Tryz.prog 222:=⟨by kernel_rfl⟩
instance:C3 Tryz.prog 223:=⟨by kernel_rfl⟩
instance:C3 Tryz.prog 224:=⟨by kernel_rfl⟩
instance:C3 Tryz.prog 225:=⟨by kernel_rfl⟩
instance:C3 Tryz.prog 226:=⟨by kernel_rfl⟩
instance:C3 Tryz.prog 227:=⟨by kernel_rfl⟩
instance:C3 Tryz.prog 228:=⟨by kernel_rfl⟩
instance:C3 Tryz.prog 237:=⟨by kernel_rfl⟩
instance:C3 Tryz.prog 238:=⟨by kernel_rfl⟩
instance:C3 Tryz.prog 239:=⟨by kernel_rfl⟩
instance:C3 Tryz.prog 240:=⟨by kernel_rfl⟩
instance:C3 Tryz.prog 244:=⟨by kernel_rfl⟩
instance:C3 Tryz.prog 245:=⟨by kernel_rfl⟩
instance:C3 Tryz.prog 246:=⟨by kernel_rfl⟩
instance:C3 Tryz.prog 247:=⟨by kernel_rfl⟩
instance:C3 Tryz.prog 248:=⟨by kernel_rfl⟩
instance:C3 Tryz.prog 255:=⟨by kernel_rfl⟩
instance:C3 Tryz.prog 271:=⟨by kernel_rfl⟩
instance:C3 Tryz.prog 272:=⟨by kernel_rfl⟩
instance:C3 Tryz.prog 273:=⟨by kernel_rfl⟩
instance:C3 Tryz.prog 280:=⟨by kernel_rfl⟩
instance:C3 Tryz.prog 281:=⟨by kernel_rfl⟩
instance:C3 Tryz.prog 282:=⟨by kernel_rfl⟩
instance:C3 Tryz.prog 286:=⟨by kernel_rfl⟩
instance:C3 Tryz.prog 289:=⟨by kernel_rfl⟩
instance:C3 Tryz.prog 290:=⟨by kernel_rfl⟩
instance:C3 Tryz.prog 302:=⟨by kernel_rfl⟩
attribute [local irreducible] Calls
def F2(c:Int):Bool:=decide (97≤c)&&decide (c≤122)||decide (65≤c)&&decide (c≤90)||decide (c=95)
def H2(c:Int):Bool:=decide (48≤c)&&decide (c≤57)
instance (c:Int):PC Tryz.prog 153 [.int .u8 c] (.bool (F2 c)):=⟨fun w=>by
 refine A4 Tryz.func153 rfl rfl ?_
 refine A7 ?_;exact⟨_,rfl,rfl,rfl⟩⟩
instance (c:Int):PC Tryz.prog 155 [.int .u8 c] (.bool (H2 c)):=⟨fun w=>by
 refine A4 Tryz.func155 rfl rfl ?_
 refine A7 ?_;exact⟨_,rfl,rfl,rfl⟩⟩
instance (c:Int):PC Tryz.prog 144 [.int .u8 c] (.bool (F2 c)):=⟨fun w=>by
 refine A4 Tryz.func144 rfl rfl ?_
 refine A7 ?_;exact⟨_,rfl,rfl,rfl⟩⟩
instance (c:Int):PC Tryz.prog 145 [.int .u8 c] (.bool (H2 c)):=⟨fun w=>by
 refine A4 Tryz.func145 rfl rfl ?_
 refine A7 ?_;exact⟨_,rfl,rfl,rfl⟩⟩
abbrev A3(s:ByteArray)(i:Nat):Int:=((s.data.toList.getD i 0).toNat:Int)
def O6(b:UInt8):Bool:=F2 b.toNat||H2 b.toNat
def runN(s:ByteArray):Nat:=(s.data.toList.takeWhile O6).length
def u7(s:ByteArray):Bool:=decide (0<s.size)&&F2 (A3 s 0)&&s.data.toList.all O6
def N8(s:ByteArray):Bool:=u7 s&&decide (s.size≤24)
theorem U8{p:UInt8→Bool}:∀ {l:List UInt8} {k:Nat},k≤l.length→(∀i,i<k→p (l.getD i 0)=true)→(k<l.length→p (l.getD k 0)=false)→(l.takeWhile p).length=k
 | [],k,h,_,_=>by simp at h;simp[h]
 | x::l,0,_,_,h2=>by
  have:=h2 (by simp)
  simp at this
  simp[this]
 | x::l,k+1,h,h1,h2=>by
  have h0:=h1 0 (by omega)
  simp at h0
  simp only[List.takeWhile_cons,h0,if_true,List.length_cons]
  rw[U8 (l:=l) (k:=k) (by simpa using h) (fun i hi=>h1 (i+1) (by omega)) (fun hk=>h2 (by simp only[List.length_cons];omega))]
theorem W5(s:ByteArray):s.data.toList.length=s.size:=Array.length_toList
class SB(s:ByteArray):Prop where h:s.size≤9223372036854775807
instance (s:ByteArray)[hs:SB s]:PC Tryz.prog 154 [.string s] (.int .i64 (runN s)):=⟨fun w=>by
 have h63:=hs.h
 refine A4 Tryz.func154 rfl rfl ?_
 refine A7 ?_;refine C1 (fun μ ρ w'=>∃k:Nat,μ+k=s.size∧Has ρ [(0,.string s),(3,.int .i64 k)]∧w'=w∧∀i,i<k→O6 (s.data.toList.getD i 0)=true) s.size ⟨0,rfl,⟨rfl,rfl,trivial⟩,rfl,fun i h=>absurd h (Nat.not_lt_zero i)⟩ ?_
 rintro μ ρ w' ⟨k,hk,hρ,rfl,hi⟩
 rw[hρ.eq];refine A7 ?_;refine A0 rfl (fun h=>?_) (fun h=>?_)
 ·have h':=H4 h
  simp only[decide_eq_true_eq]at h'
  refine A7 ?_;refine⟨μ-1,by omega,k+1,by omega,⟨rfl,rfl,trivial⟩,rfl,fun i hi'=>?_⟩
  by_cases e:i=k
  ·subst e;exact T9 h
  ·exact hi i (by omega)
 ·refine A7 ?_;refine⟨_,rfl,F9 rfl ?_,rfl⟩
  have:=U8 (p:=O6) (l:=s.data.toList) (k:=k) (by rw[W5];omega) hi (fun hk'=>by
   rw[W5]at hk';rw[show decide ((k:Int)<(s.size:Int))=true from by simp;omega]at h
   exact h)
  show (k:Int)=((s.data.toList.takeWhile O6).length:Int)
  rw[this]⟩
theorem Gn{p:UInt8→Bool}{l:List UInt8}:((l.takeWhile p).length=l.length)↔l.all p=true:=by
 induction l with
 | nil=>simp
 | cons x l ih=>
  simp only[List.takeWhile_cons,List.all_cons]
  cases p x with
  | true=>simp[ih]
  | false=>simp
instance (s:ByteArray)[hs:SB s]:PC Tryz.prog 247 [.string s] (.bool (u7 s)):=⟨fun w=>by
 refine A4 Tryz.func247 rfl rfl ?_
 refine A7 ?_;refine⟨_,rfl,F7 rfl ?_,rfl⟩
 have h1:decide (s≠⟨#[]⟩)=decide (0<s.size):=by simp only[ne_nilB]
 have h2:decide ((runN s:Int)=(s.size:Int))=s.data.toList.all O6:=by
  rw[Bool.eq_iff_iff,decide_eq_true_eq,←Gn,W5];unfold runN;omega
 rw[h1,h2];rfl⟩
instance (s:ByteArray)[hs:SB s]:PC Tryz.prog 170 [.string s] (.bool (N8 s)):=⟨fun w=>by
 refine A4 Tryz.func170 rfl rfl ?_
 refine A7 ?_;refine⟨_,rfl,F7 rfl ?_,rfl⟩
 unfold N8;congr 1
 rw[decide_eq_decide];omega⟩
instance (s:ByteArray)[hs:SB s]:PC Tryz.prog 75 [.string s] (.bool (u7 s)):=⟨fun w=>by
 have h63:=hs.h
 refine A4 Tryz.func75 rfl rfl ?_
 refine A7 ?_;refine A0 rfl (fun h=>?_) (fun h=>?_)
 ·refine A7 ?_;refine⟨_,rfl,F7 rfl ?_,rfl⟩
  unfold u7;by_cases h0:s=⟨#[]⟩
  ·subst h0;rfl
  ·rw[show decide (s=⟨#[]⟩)=false from by simpa using h0]at h
   have h1:F2 (A3 s 0)=false:=by have h':(false || !F2 (A3 s 0))=true:=h;simpa using h'
   rw[h1];simp
 ·simp only[Bool.or_eq_false_iff,Bool.not_eq_false',decide_eq_false_iff_not,eq_nilB]at h
  have h1:F2 (A3 s 0)=true:=h.2
  refine A7 ?_;refine C1 (fun μ ρ w'=>∃k:Nat,μ+k=s.size∧Has ρ [(0,.string s),(3,.int .i64 k)]∧w'=w∧0<k∧∀i,i<k→O6 (s.data.toList.getD i 0)=true) (s.size-1) ⟨1,by omega,⟨rfl,rfl,trivial⟩,rfl,by omega,fun i hi=>?_⟩ ?_
  ·have:i=0:=by omega
   subst this;show (F2 (A3 s 0)||_)=true
   rw[h1];rfl
  rintro μ ρ w' ⟨k,hk,hρ,rfl,hk0,hi⟩
  rw[hρ.eq];refine A7 ?_;refine A0 rfl (fun h2=>?_) (fun h2=>?_)
  ·have h':k<s.size:=by simpa using h2
   refine A7 ?_;refine A0 rfl (fun h3=>?_) (fun h3=>?_)
   ·refine A7 ?_;refine⟨_,rfl,F7 rfl ?_,rfl⟩
    have h4:O6 (s.data.toList.getD k 0)=false:=by
     show (F2 (A3 s k)||H2 (A3 s k))=false
     have h5:(!F2 (A3 s k) && !H2 (A3 s k))=true:=h3
     simpa using h5
    have h6:s.data.toList.all O6=false:=by
     rw[←Bool.not_eq_true,List.all_eq_true];intro hall;have hm:=hall (s.data.toList.getD k 0) (by
      rw[List.getD_eq_getElem?_getD,List.getElem?_eq_getElem (by rw[W5];exact h')]
      exact List.getElem_mem _)
     rw[h4]at hm;cases hm
    unfold u7;rw[h6];simp
   ·refine A7 ?_;refine⟨μ-1,by omega,k+1,by omega,⟨rfl,rfl,trivial⟩,rfl,by omega,fun i hi'=>?_⟩
    by_cases e:i=k
    ·subst e;have h5:(!F2 (A3 s i) && !H2 (A3 s i))=false:=h3
     show (F2 (A3 s i)||H2 (A3 s i))=true
     cases hl:F2 (A3 s i) <;> cases hd:H2 (A3 s i) <;> simp[hl,hd]at h5 ⊢
    ·exact hi i (by omega)
  ·refine A7 ?_;refine⟨_,rfl,F7 rfl ?_,rfl⟩
   have h':¬k<s.size:=by simpa using h2
   have h6:s.data.toList.all O6=true:=by
    rw[List.all_eq_true];intro x hx;obtain⟨i,hil,rfl⟩:=List.getElem_of_mem hx
    have:=hi i (by rw[W5]at hil;omega)
    rwa [List.getD_eq_getElem?_getD,List.getElem?_eq_getElem hil]at this
   unfold u7;rw[h6,h1];simp;omega⟩
instance (s:ByteArray)[hs:SB s]:PC Tryz.prog 178 [.string s] (.bool (N8 s)):=⟨fun w=>by
 refine A4 Tryz.func178 rfl rfl ?_
 refine A7 ?_;refine⟨_,rfl,F7 rfl ?_,rfl⟩
 unfold N8;congr 1
 rw[decide_eq_decide];omega⟩
set_option maxHeartbeats 400000
abbrev H6(s:ByteArray):List UInt8:=s.data.toList
theorem K9(s:ByteArray):(H6 s).length=s.size:=Array.length_toList
theorem o0(s:ByteArray)(a b:Nat):H6 (D7 s a b)=((H6 s).drop a).take (b-a):=by
 unfold D7;show (s.extract a b).data.toList=_
 rw[ByteArray.data_extract,Array.toList_extract,List.extract_eq_take_drop]
theorem N7{s t:ByteArray}(h:H6 s=H6 t):s=t:=by
 cases s;cases t
 congr 1
 exact Array.toList_inj.1 h
theorem O7{s:ByteArray}{a b:Nat}(h:b≤s.size):(D7 s a b).size=b-a:=by
 rw[←K9,o0,List.length_take,List.length_drop,K9];omega
theorem MB{s:ByteArray}{a b c d:Nat}(h:a+d≤b):D7 (D7 s a b) c d=D7 s (a+c) (a+d):=by
 apply N7
 rw[o0,o0,o0,List.drop_take,List.drop_drop,List.take_take];congr 1;omega
theorem FO{s:ByteArray}{a b j:Nat}(h:a+j<b):A3 (D7 s a b) j=A3 s (a+j):=by
 unfold A3;have:=o0 s a b
 unfold H6 at this;rw[this,List.getD_eq_getElem?_getD,List.getD_eq_getElem?_getD,List.getElem?_take_of_lt (by omega),List.getElem?_drop]
def W8(c:Int):Int:=if H2 c=true then c-48 else if decide (97≤c)&&decide (c≤102) then c-97+10 else if decide (65≤c)&&decide (c≤70) then c-65+10 else -1
def d5(c base:Int):Int:=if base≤W8 c then -1 else W8 c
def W3(c:Int):Bool:=decide (32≤c)&&decide (c≤126)&&decide (c≠34)&&decide (c≠92)
theorem CY(c:Int):-1≤W8 c∧W8 c<16:=by
 unfold W8 H2;split
 ·rename_i h;simp at h;omega
 ·split
  ·rename_i h;simp at h;omega
  ·split
   ·rename_i h;simp at h;omega
   ·omega
theorem KW(c base:Int)(hb:0<base):d5 c base = -1∨(0≤d5 c base∧d5 c base<base∧d5 c base<16):=by
 have:=CY c
 unfold d5;split
 ·exact .inl rfl
 ·by_cases h:W8 c = -1
  ·exact .inl h
  ·exact .inr ⟨by omega,by omega,this.2⟩
def p9(base:Nat):List UInt8→Nat→Nat
 | [],v=>v
 | c::l,v=>p9 base l (v*base+(d5 c.toNat base).toNat)
theorem IA(base:Nat)(hb:0<base):∀(l:List UInt8) (v:Nat),v≤p9 base l v
 | [],v=>Nat.le_refl v
 | c::l,v=>Nat.le_trans (by
   have:v≤v*base:=Nat.le_mul_of_pos_right v hb
   omega) (IA base hb l _)
def L9:Nat:=18446744073709551615
def R3(base sh:Nat)(l:List UInt8):Nat×Int:=
 if l.all (fun c=>decide (0≤d5 c.toNat base))=false then (0,50)
 else if L9 >>> sh<p9 base l 0 then (0,6) else (p9 base l 0 <<< sh,0)
def Br(c:Int):Nat:=if c=71 then 30 else if c=77 then 20 else if c=75 then 10 else 0
def y9(s:ByteArray):Nat×Int:=
 let sh:=Br (A3 s (s.size-1))
 let s:=if 0<sh then D7 s 0 (s.size-1) else s
 if 2≤s.size∧A3 s 0=48∧A3 s 1=120 then
  if s.size=2 then (0,50) else R3 16 sh (H6 (D7 s 2 s.size))
 else if s.size=0∨(1<s.size∧A3 s 0=48) then (0,50) else R3 10 sh (H6 s)
def Dr(a b:Int):Bool:=(decide (a=60)&&decide (b=61))||(decide (a=62)&&decide (b=61))||(decide (a=33)&&decide (b=61))||(decide (a=46)&&decide (b=46))||(decide (a=45)&&decide (b=62))
def OD:List UInt8:=[123,125,40,41,91,93,44,59,58,61,60,62,33,43,45,42,63,46,47]
def G4(s:ByteArray):Nat:=if 2≤s.size∧Dr (A3 s 0) (A3 s 1)=true then 2 else if 0<s.size∧(s.data.toList.getD 0 0)∈OD then 1 else 0
def BP(b:UInt8):Bool:=W3 b.toNat
def R7(s:ByteArray):Nat:=1+(((H6 s).drop 1).takeWhile BP).length
structure Tg where
 kind:Int
 text:ByteArray
 value:Nat
 n:Nat
 err:Int
def BJ(e:Int):Tg:=⟨0,⟨#[]⟩,0,0,e⟩
def J1(s:ByteArray):Tg:=
 if F2 (A3 s 0)=true then ⟨1,D7 s 0 (runN s),0,runN s,0⟩
 else if H2 (A3 s 0)=true then (if (y9 (D7 s 0 (runN s))).2=0 then ⟨2,⟨#[]⟩,(y9 (D7 s 0 (runN s))).1,runN s,0⟩ else BJ (y9 (D7 s 0 (runN s))).2)
 else if A3 s 0=34 then (if R7 s<s.size∧A3 s (R7 s)=34 then ⟨3,D7 s 1 (R7 s),0,R7 s+1,0⟩ else BJ 50)
 else if G4 s=0 then BJ 50 else ⟨4,D7 s 0 (G4 s),0,G4 s,0⟩
structure Tok where
 Kind:Int
 Text:ByteArray
 Value:Int
 Line:Int
 Col:Int
 deriving DecidableEq
instance:Inhabited Tok:=⟨⟨0,⟨#[]⟩,0,0,0⟩⟩
instance:Jo Tok where
 enc a:=[.int .i64 a.Kind,.string a.Text,.int .u64 a.Value,.int .i64 a.Line,.int .i64 a.Col]
 inj a b h:=by cases a;cases b;simp at h;simp[h]
 ks:=[5,1,9,5,5]
 kinds a:=rfl
structure C8 where
 Line:Int
 Col:Int
 deriving DecidableEq,Inhabited
instance:Jo C8 where
 enc a:=[.int .i64 a.Line,.int .i64 a.Col]
 inj a b h:=by cases a;cases b;simp at h;simp[h]
 ks:=[5,5]
 kinds a:=rfl
def B0(s:ByteArray):Nat→C8
 | 0=>⟨1,1⟩
 | k+1=>if A3 s k=10 then ⟨(B0 s k).Line+1,1⟩ else ⟨(B0 s k).Line,(B0 s k).Col+1⟩
def AQ(s:ByteArray)(off:Nat):Nat:=off+(((H6 s).drop off).takeWhile fun b=>decide ((b.toNat:Int)≠10)).length
def BR(c:Int):Bool:=decide (c=10)||decide (c=32)||decide (c=9)||decide (c=13)
def O4(s:ByteArray):Nat→Nat→List Tok→List Tok×C8×Int
 | 0,_,acc=>(acc,⟨0,0⟩,0)
 | f+1,off,acc=>
  if s.size≤off then (acc,⟨0,0⟩,0)
  else if BR (A3 s off)=true then O4 s f (off+1) acc
  else if A3 s off=35 then O4 s f (AQ s off) acc
  else if (J1 (D7 s off s.size)).err=0 then O4 s f (off+(J1 (D7 s off s.size)).n) (acc++[⟨(J1 (D7 s off s.size)).kind,(J1 (D7 s off s.size)).text,(J1 (D7 s off s.size)).value,(B0 s off).Line,(B0 s off).Col⟩])
  else ([],B0 s off,(J1 (D7 s off s.size)).err)
def C7(s:ByteArray):List Tok×C8×Int:=if 65536<s.size then ([],⟨0,0⟩,15) else O4 s (s.size+1) 0 []
set_option maxHeartbeats 4000000
theorem UF{P:Program}{n:Nat}{opa:Array Oper}{QQ:Exit→Fr→World→Prop}{rest:List Oper}{ρ:Fr}{w:World}{d:Option Tmp}{ty:TypeId}{pos:String}{es:Array Edge}{f:Nat}{args:List Operand}{tys:Array TypeId}{vs:List Value}{v:Value}
  (he:∀w,(callFunc f vs.toArray).run P w=.ok (.value v) w) (h:L P n opa QQ rest (C9 ρ d v) w) (ha:EvL ρ args vs:=by exact u6) (hd:H3 n d=true:=by exact rfl) :
  L P n opa QQ (⟨d,.call { callee:=.value (.func f),args:=args.toArray,argTypes:=tys },ty,pos,es,none⟩::rest) ρ w:=
 UP rfl hd (by
  unfold Mk.Yields;simp only[execOp,resolve,ha.eqA,ev,Deferred.ofValue,Sem.run_bind,Sem.run_pure,Result.andThen_ok,invoke]
  simp[he]) h
instance Sl(c:Int):PC Tryz.prog 157 [.int .u8 c] (.bool (W3 c)):=⟨fun w=>by
 refine A4 Tryz.func157 rfl rfl ?_
 refine A7 ?_;exact⟨_,rfl,rfl,rfl⟩⟩
class OG(b:Int):Prop where h:0<b∧b≤16
theorem Bf{a:Int}(h0:0≤a)(h1:a≤255):IntKind.u8.wrap a=a:=by
 simp[IntKind.wrap,IntKind.bits,IntKind.signed];omega
theorem Lo(b:UInt8):0≤((b.toNat:Nat):Int)∧((b.toNat:Nat):Int)≤255:=by
 have:=b.toNat_lt;omega
instance Up(b:UInt8)(base:Int)[hb:OG base]:PC Tryz.prog 238 [.int .u8 ((b.toNat:Nat):Int),.int .u64 base] (.int .i64 (d5 ((b.toNat:Nat):Int) base)):=⟨fun w=>by
 obtain⟨hb0,hb1⟩:=hb.h;obtain⟨hc0,hc1⟩:=Lo b
 generalize ((b.toNat:Nat):Int)=c at *
 have hbw:IntKind.i64.wrap base=base:=wrap_i64 (by omega) (by omega)
 refine A4 Tryz.func238 rfl rfl ?_
 iterate 8 (first|refine A5 ?_|(refine A6 ?_;intro w hw))
 refine BL (fun ρ w'=>Has ρ [(1,.int .u64 base),(5,.int .i64 (W8 c))]∧w'=w) ?_ ?_
 ·refine A7 ?_;refine A0 rfl (fun h=>?_) (fun h=>?_)
  ·refine A7 ?_;refine⟨⟨rfl,?_,trivial⟩,rfl⟩
   have h1:48≤c∧c≤57:=by simpa[H2] using h
   show Value.int .i64 (IntKind.i64.wrap (IntKind.u8.wrap (c-48)))=_
   rw[Bf (by omega) (by omega),wrap_i64 (by omega) (by omega)]
   unfold W8;rw[if_pos h]
  ·refine A7 ?_;refine A0 rfl (fun h2=>?_) (fun h2=>?_)
   ·refine A7 ?_;refine⟨⟨rfl,?_,trivial⟩,rfl⟩
    have h1:97≤c∧c≤102:=by simpa using h2
    show Value.int .i64 (IntKind.i64.wrap (IntKind.i64.wrap (IntKind.u8.wrap (c-97))+10))=_
    rw[Bf (by omega) (by omega),wrap_i64 (a:=c-97) (by omega) (by omega),wrap_i64 (by omega) (by omega)]
    unfold W8;rw[if_neg (by simp[h]),if_pos h2]
   ·refine A7 ?_;refine A0 rfl (fun h3=>?_) (fun h3=>?_)
    ·refine A7 ?_;refine⟨⟨rfl,?_,trivial⟩,rfl⟩
     have h1:65≤c∧c≤70:=by simpa using h3
     show Value.int .i64 (IntKind.i64.wrap (IntKind.i64.wrap (IntKind.u8.wrap (c-65))+10))=_
     rw[Bf (by omega) (by omega),wrap_i64 (a:=c-65) (by omega) (by omega),wrap_i64 (by omega) (by omega)]
     unfold W8;rw[if_neg (by simp[h]),if_neg (by simpa using h2),if_pos h3]
    ·refine A7 ?_;refine⟨⟨rfl,?_,trivial⟩,rfl⟩
     show Value.int .i64 (-1)=_
     unfold W8;rw[if_neg (by simp[h]),if_neg (by simpa using h2),if_neg (by simpa using h3)]
 ·rintro ρ w' ⟨hρ,rfl⟩
  rw[hρ.eq];refine A7 ?_;rw[hbw];refine A0 rfl (fun h=>?_) (fun h=>?_)
  ·refine A7 ?_;have h:base≤W8 c:=by simpa using h
   exact⟨_,rfl,F9 rfl (by unfold d5;rw[if_pos h]),rfl⟩
  ·refine A7 ?_;have h:¬base≤W8 c:=by simpa using h
   exact⟨_,rfl,F9 rfl (by unfold d5;rw[if_neg h]),rfl⟩⟩
instance Rp(s p:ByteArray):PC Tryz.prog 237 [.string s,.string p] (.bool (decide ((p.size:Int)≤s.size)&&decide (D7 s 0 p.size=p))):=⟨fun w=>by
 have h1:PC Tryz.prog 286 [.string s,.string p] (.bool (decide ((p.size:Int)≤s.size)&&decide (D7 s 0 p.size=p))):=⟨fun w=>by
  refine A4 Tryz.func286 rfl rfl ?_
  refine A7 ?_;exact⟨_,rfl,rfl,rfl⟩⟩
 refine A4 Tryz.func237 rfl rfl ?_
 refine A7 ?_;exact⟨_,rfl,rfl,rfl⟩⟩
theorem Gc(s:ByteArray)(c:Int)(w:World):(callFunc 287 #[.string s,.int .u8 c]).run Tryz.prog w=.ok (.value (.int .i64 (firstIdx s c.toNat.toUInt8))) w:=by
 rw[run_callFunc_extern Tryz.func287 (by kernel_rfl) (by kernel_rfl) (e:=Extern.BytealgIndexByte.indexByte) (by kernel_rfl) (by kernel_rfl),run_indexByte_string]
 rfl
instance Qu(s:ByteArray)(c:Int):PC Tryz.prog 239 [.string s,.int .u8 c] (.int .i64 (firstIdx s c.toNat.toUInt8)):=⟨fun w=>by
 have h1:PC Tryz.prog 240 [.string s,.int .u8 c] (.int .i64 (firstIdx s c.toNat.toUInt8)):=⟨fun w=>by
  refine A4 Tryz.func240 rfl rfl ?_
  refine A7 ?_;refine UF (vs:=[.string s,.int .u8 c]) (Gc s c) ?_
  refine A7 ?_;exact⟨_,rfl,rfl,rfl⟩⟩
 refine A4 Tryz.func239 rfl rfl ?_
 refine A7 ?_;exact⟨_,rfl,rfl,rfl⟩⟩
theorem two_bytes{s:ByteArray}(h:2≤s.size):∃x y:UInt8,A3 s 0=x.toNat∧A3 s 1=y.toNat∧D7 s 0 2=⟨#[x,y]⟩:=by
 have hl:=K9 s
 obtain⟨x,y,r,hr⟩:∃x y r,H6 s=x::y::r:=by
  match hb:H6 s with
  | []=>rw[hb]at hl;simp at hl;omega
  | [x]=>rw[hb]at hl;simp at hl;omega
  | x::y::r=>exact⟨x,y,r,rfl⟩
 refine⟨x,y,?_,?_,?_⟩
 ·show (((H6 s).getD 0 0).toNat:Int)=_;rw[hr];rfl
 ·show (((H6 s).getD 1 0).toNat:Int)=_;rw[hr];rfl
 ·apply N7;rw[o0,hr];rfl
theorem v6(x y a b:UInt8):((⟨#[x,y]⟩:ByteArray)=⟨#[a,b]⟩)↔(x.toNat=a.toNat∧y.toNat=b.toNat):=by
 simp[UInt8.toNat_inj]
theorem Nf:∀n:Fin 256,decide (0≤firstIdx ⟨#[123,125,40,41,91,93,44,59,58,61,60,62,33,43,45,42,63,46,47]⟩ (UInt8.ofNat n.1))=decide (UInt8.ofNat n.1∈OD):=by decide +kernel
instance Ua(s:ByteArray)[hs:SB s]:PC Tryz.prog 158 [.string s] (.int .i64 (G4 s)):=⟨fun w=>by
 have hs:=hs.h
 refine A4 Tryz.func158 rfl rfl ?_
 iterate 4 (first|refine A5 ?_|(refine A6 ?_;intro w hw))
 refine BL (fun ρ w'=>Has ρ [(0,.string s)]∧w'=w∧¬(2≤s.size∧Dr (A3 s 0) (A3 s 1)=true)) ?_ ?_
 ·refine A7 ?_;refine A0 rfl (fun h=>?_) (fun h=>?_)
  ·have h:2≤s.size:=by simp at h;omega
   obtain⟨x,y,hx,hy,hxy⟩:=two_bytes h
   have key:Dr (A3 s 0) (A3 s 1)=true→Ending.returned (.int .i64 2)=Ending.returned (.int .i64 (G4 s)):=fun ht=>by
    unfold G4;rw[if_pos ⟨h,ht⟩];rfl
   rw[hx,hy]at key;refine A7 ?_;rw[show (2:Int).toNat=2 from rfl,hxy];refine A0 rfl (fun h1=>?_) (fun h1=>?_)
   ·refine A7 ?_;refine G1 (by simp only[h1];rfl) ?_
    refine A7 ?_;have q:=(v6 _ _ _ _).1 (of_decide_eq_true h1)
    exact⟨_,rfl,key (by simp[Dr,q]),rfl⟩
   refine A7 ?_;refine A0 rfl (fun h2=>?_) (fun h2=>?_)
   ·refine A7 ?_;refine G1 (by simp only[h2];rfl) ?_
    refine A7 ?_;have q:=(v6 _ _ _ _).1 (of_decide_eq_true h2)
    exact⟨_,rfl,key (by simp[Dr,q]),rfl⟩
   refine A7 ?_;refine A0 rfl (fun h3=>?_) (fun h3=>?_)
   ·refine A7 ?_;refine G1 (by simp only[h3];rfl) ?_
    refine A7 ?_;have q:=(v6 _ _ _ _).1 (of_decide_eq_true h3)
    exact⟨_,rfl,key (by simp[Dr,q]),rfl⟩
   refine A7 ?_;refine A0 rfl (fun h4=>?_) (fun h4=>?_)
   ·refine A7 ?_;refine G1 (by simp only[h4];rfl) ?_
    refine A7 ?_;have q:=(v6 _ _ _ _).1 (of_decide_eq_true h4)
    exact⟨_,rfl,key (by simp[Dr,q]),rfl⟩
   refine A7 ?_;refine A0 rfl (fun h5=>?_) (fun h5=>?_)
   ·refine A7 ?_;have q:=(v6 _ _ _ _).1 (of_decide_eq_true h5)
    exact⟨_,rfl,key (by simp[Dr,q]),rfl⟩
   ·refine A7 ?_;refine⟨⟨rfl,trivial⟩,rfl,fun hh=>?_⟩
    have hh:=hh.2
    rw[hx,hy]at hh;have q:=fun a b (hq:decide ((⟨#[x,y]⟩:ByteArray)=⟨#[a,b]⟩)=false)=>mt (v6 x y a b).2 (of_decide_eq_false hq)
    have q1:=q _ _ h1
    have q2:=q _ _ h2
    have q3:=q _ _ h3
    have q4:=q _ _ h4
    have q5:=q _ _ h5
    simp[Dr]at hh q1 q2 q3 q4 q5
    omega
  ·have h:¬2≤s.size:=by simp at h;omega
   refine A7 ?_;exact⟨⟨rfl,trivial⟩,rfl,fun hh=>h hh.1⟩
 ·rintro ρ w' ⟨hρ,rfl,hn⟩
  rw[hρ.eq];have key:(decide (s≠⟨#[]⟩)&&decide (0≤firstIdx ⟨#[123,125,40,41,91,93,44,59,58,61,60,62,33,43,45,42,63,46,47]⟩ (A3 s 0).toNat.toUInt8))=decide (G4 s=1):=by
   have h1:=Nf ⟨(s.data.toList.getD 0 0).toNat,(s.data.toList.getD 0 0).toNat_lt⟩
   have h2:(A3 s 0).toNat.toUInt8=s.data.toList.getD 0 0:=by
    show (((s.data.toList.getD 0 0).toNat:Int).toNat).toUInt8=_
    rw[Int.toNat_natCast];simp
   have h3:UInt8.ofNat (s.data.toList.getD 0 0).toNat=s.data.toList.getD 0 0:=by simp
   rw[h3]at h1;rw[h2,h1];unfold G4;rw[if_neg hn];rw[show decide (s≠⟨#[]⟩)=decide (0<s.size) from decide_eq_decide.2 ne_nilB]
   by_cases e1:0<s.size <;> by_cases e2:s.data.toList.getD 0 0∈OD <;> simp[e1,e2]
  have hp:G4 s=1∨G4 s=0:=by
   unfold G4;rw[if_neg hn];split <;> simp
  refine A7 ?_;refine A0 rfl (fun h=>?_) (fun h=>?_)
  ·have h:=of_decide_eq_true (key.symm.trans h)
   refine A7 ?_;exact⟨_,rfl,F9 rfl (by rw[h];rfl),rfl⟩
  ·have h:=of_decide_eq_false (key.symm.trans h)
   have h0:=hp.resolve_left h
   refine A7 ?_;exact⟨_,rfl,F9 rfl (by rw[h0];rfl),rfl⟩⟩
theorem O5{a:Int}(h0:0≤a)(h1:a≤18446744073709551615):IntKind.u64.wrap a=a:=by
 simp[IntKind.wrap,IntKind.bits,IntKind.signed];omega
theorem FX(c:Int):Br c=0∨Br c=10∨Br c=20∨Br c=30:=by
 unfold Br;repeat(first|split|simp)
def Y8(sh:Nat)(s:ByteArray):Nat×Int:=
 if 2≤s.size∧A3 s 0=48∧A3 s 1=120 then
  if s.size=2 then (0,50) else R3 16 sh (H6 (D7 s 2 s.size))
 else if s.size=0∨(1<s.size∧A3 s 0=48) then (0,50) else R3 10 sh (H6 s)
def EJ(s:ByteArray):ByteArray:=if 0<Br (A3 s (s.size-1)) then D7 s 0 (s.size-1) else s
theorem Gy(s:ByteArray):y9 s=Y8 (Br (A3 s (s.size-1))) (EJ s):=rfl
def JX(base sh:Nat)(s:ByteArray):Nat×Int:=if s.size=0∨(base=10∧1<s.size∧A3 s 0=48) then (0,50) else R3 base sh (H6 s)
theorem Ud{s:ByteArray}:(decide (((⟨#[48,120]⟩:ByteArray).size:Int)≤s.size)&&decide (D7 s 0 (⟨#[48,120]⟩:ByteArray).size=⟨#[48,120]⟩))=decide (2≤s.size∧A3 s 0=48∧A3 s 1=120):=by
 show (decide ((2:Int)≤s.size)&&decide (D7 s 0 2=⟨#[48,120]⟩))=_
 by_cases h:2≤s.size
 ·obtain⟨x,y,hx,hy,hxy⟩:=two_bytes h
  rw[hxy,hx,hy];have h1:(2:Int)≤s.size:=by omega
  have h2:=v6 x y 48 120
  simp only[h,h1,h2,decide_true,Bool.true_and,true_and]
  congr 1
  simp
  omega
 ·have h1:¬(2:Int)≤s.size:=by omega
  simp[h,h1]
theorem Pb{sh:Nat}{s:ByteArray}(h:2≤s.size∧A3 s 0=48∧A3 s 1=120):Y8 sh s=JX 16 sh (D7 s 2 s.size):=by
 unfold Y8 JX;rw[if_pos h,O7 (Nat.le_refl _)];by_cases h2:s.size=2
 ·rw[if_pos h2,if_pos (.inl (by omega))]
 ·rw[if_neg h2,if_neg (by omega)]
theorem Rn{sh:Nat}{s:ByteArray}(h:¬(2≤s.size∧A3 s 0=48∧A3 s 1=120)):Y8 sh s=JX 10 sh s:=by
 unfold Y8 JX;rw[if_neg h];simp
theorem drop_at{α:Type}{l:List α}{k:Nat}{x:α}(h:l[k]? = some x):l.drop k=x::l.drop (k+1):=by
 obtain⟨h1,h2⟩:=List.getElem?_eq_some_iff.1 h
 rw[←h2];exact List.drop_eq_getElem_cons h1
theorem Kk(s:ByteArray)(hs:s.size≤4611686018427387904)(h0:0<s.size)(w:World) :
  Calls Tryz.prog 156 #[.string s] w fun e w'=>e=.returned (.tuple #[.int .u64 (y9 s).1,.int .i64 (y9 s).2])∧w'=w:=by
 refine A4 Tryz.func156 rfl rfl ?_
 iterate 9 (first|refine A5 ?_|(refine A6 ?_;intro w hw))
 refine BL (fun ρ w'=>∃s':ByteArray,∃sh:Nat,Has ρ [(0,.string s'),(4,.int .i64 sh)]∧w'=w∧s'=EJ s∧sh=Br (A3 s (s.size-1))) ?_ ?_
 ·have e1:((s.size:Int)-1).toNat=s.size-1:=by omega
  refine A7 ?_;rw[e1];refine A0 rfl (fun h=>?_) (fun h=>?_)
  ·have h:A3 s (s.size-1)=71:=of_decide_eq_true h
   have hk:Br (A3 s (s.size-1))=30:=by rw[h];rfl
   refine A7 ?_;rw[e1];exact⟨_,30,⟨rfl,rfl,trivial⟩,rfl,by unfold EJ;rw[hk];rfl,hk.symm⟩
  refine A7 ?_;refine A0 rfl (fun h2=>?_) (fun h2=>?_)
  ·have h2:A3 s (s.size-1)=77:=of_decide_eq_true h2
   have hk:Br (A3 s (s.size-1))=20:=by rw[h2];rfl
   refine A7 ?_;rw[e1];exact⟨_,20,⟨rfl,rfl,trivial⟩,rfl,by unfold EJ;rw[hk];rfl,hk.symm⟩
  refine A7 ?_;refine A0 rfl (fun h3=>?_) (fun h3=>?_)
  ·have h3:A3 s (s.size-1)=75:=of_decide_eq_true h3
   have hk:Br (A3 s (s.size-1))=10:=by rw[h3];rfl
   refine A7 ?_;rw[e1];exact⟨_,10,⟨rfl,rfl,trivial⟩,rfl,by unfold EJ;rw[hk];rfl,hk.symm⟩
  ·have h:¬A3 s (s.size-1)=71:=of_decide_eq_false h
   have h2:¬A3 s (s.size-1)=77:=of_decide_eq_false h2
   have h3:¬A3 s (s.size-1)=75:=of_decide_eq_false h3
   have hk:Br (A3 s (s.size-1))=0:=by unfold Br;rw[if_neg h,if_neg h2,if_neg h3]
   refine A7 ?_;exact⟨s,0,⟨rfl,rfl,trivial⟩,rfl,by unfold EJ;rw[hk];rfl,hk.symm⟩
 ·rintro ρ w' ⟨s',sh,hρ,rfl,hs',hsh⟩
  rw[hρ.eq,Gy,←hs',←hsh];have hcase:=FX (A3 s (s.size-1))
  rw[←hsh]at hcase;have hsz:s'.size≤4611686018427387904:=by
   rw[hs'];unfold EJ;split
   ·rw[O7 (by omega)];omega
   ·exact hs
  clear hs' hsh hρ;iterate 4 (first|refine A5 ?_|(refine A6 ?_;intro w hw))
  refine BL (fun ρ w''=>∃s2:ByteArray,∃base:Nat,Has ρ [(0,.string s2),(4,.int .i64 sh),(5,.int .u64 base)]∧w''=w'∧Y8 sh s'=JX base sh s2∧(base=10∨base=16)∧s2.size≤4611686018427387904) ?_ ?_
  ·refine A7 ?_;rw[Ud];refine A0 rfl (fun h=>?_) (fun h=>?_)
   ·have h:=of_decide_eq_true h
    obtain⟨hp1,hp2,hp3⟩:=h;refine A7 ?_;exact⟨D7 s' 2 s'.size,16,⟨rfl,rfl,rfl,trivial⟩,rfl,Pb ⟨hp1,hp2,hp3⟩,.inr rfl,by rw[O7 (Nat.le_refl _)];omega⟩
   ·have h:=of_decide_eq_false h
    refine A7 ?_;exact⟨s',10,⟨rfl,rfl,rfl,trivial⟩,rfl,Rn h,.inl rfl,hsz⟩
  ·rintro ρ w'' ⟨s2,base,hρ,rfl,hN,hbase,hsz2⟩
   rw[hρ.eq,hN];clear hN hρ hsz;have key:(decide (s2=⟨#[]⟩)||((decide ((base:Int)=10)&&decide ((1:Int)<s2.size))&&decide (A3 s2 0=48)))=decide (s2.size=0∨(base=10∧1<s2.size∧A3 s2 0=48)):=by
    rw[show decide (s2=⟨#[]⟩)=decide (s2.size=0) from decide_eq_decide.2 eq_nilB]
    rw[show decide ((base:Int)=10)=decide (base=10) from decide_eq_decide.2 (by omega),show decide ((1:Int)<s2.size)=decide (1<s2.size) from decide_eq_decide.2 (by omega)]
    by_cases e1:s2.size=0 <;> by_cases e2:base=10 <;> by_cases e3:1<s2.size <;> by_cases e4:A3 s2 0=48 <;> simp[e1,e2,e3,e4]
   refine A7 ?_;refine A0 rfl (fun h=>?_) (fun h=>?_)
   ·have h:=of_decide_eq_true (key.symm.trans h)
    refine A7 ?_;exact⟨_,rfl,by unfold JX;rw[if_pos h];rfl,rfl⟩
   have h:=of_decide_eq_false (key.symm.trans h)
   have hN:JX base sh s2=R3 base sh (H6 s2):=by unfold JX;rw[if_neg h]
   rw[hN];clear hN key;haveI:OG (base:Int):=⟨by omega⟩
   have hbl:=K9 s2
   refine A7 ?_;refine C1 (fun μ ρ w=>∃k:Nat,μ+k=s2.size∧Has ρ [(0,.string s2),(4,.int .i64 sh),(5,.int .u64 base),(6,.int .i64 k)]∧((H6 s2).take k).all (fun c=>decide (0≤d5 c.toNat base))=true∧w=w'') s2.size ⟨0,by omega,⟨rfl,rfl,rfl,rfl,trivial⟩,rfl,rfl⟩ ?_
   rintro μ ρ w ⟨k,hk,hρ,hall,rfl⟩
   rw[hρ.eq];refine A7 ?_;refine A0 rfl (fun h1=>?_) (fun h1=>?_)
   ·have hkn:k<s2.size:=by simpa using h1
    obtain⟨c,hc⟩:=B8 (l:=H6 s2) (k:=k) (by omega)
    have hg:s2.data.toList.getD (k:Int).toNat 0=c:=by
     show (H6 s2).getD k 0=c
     rw[List.getD_eq_getElem?_getD,hc];rfl
    have hmem:c∈H6 s2:=List.mem_of_getElem? hc
    refine A7 ?_;rw[hg];refine A0 rfl (fun h2=>?_) (fun h2=>?_)
    ·have h2:d5 c.toNat base<0:=of_decide_eq_true h2
     have hf:(H6 s2).all (fun c=>decide (0≤d5 c.toNat base))=false:=by
      rw[List.all_eq_false];exact⟨c,hmem,by simp;omega⟩
     refine A7 ?_;exact⟨_,rfl,by unfold R3;rw[if_pos hf];rfl,rfl⟩
    ·have h2:¬d5 c.toNat base<0:=of_decide_eq_false h2
     refine A7 ?_;refine⟨μ-1,by omega,k+1,by omega,⟨rfl,rfl,rfl,rfl,trivial⟩,?_,rfl⟩
     rw[List.take_add_one,hc,List.all_append,hall];simp;omega
   have hkn:¬k<s2.size:=by simpa using h1
   rw[List.take_of_length_le (by omega)]at hall
   clear h1 hkn;refine A7 ?_;refine C1 (fun μ ρ w'=>∃k v:Nat,μ+k=s2.size∧Has ρ [(0,.string s2),(4,.int .i64 sh),(5,.int .u64 base),(7,.int .u64 v),(8,.int .i64 k)]∧p9 base (H6 s2) 0=p9 base ((H6 s2).drop k) v∧v≤L9∧w'=w) s2.size ⟨0,0,by omega,⟨rfl,rfl,rfl,rfl,rfl,trivial⟩,rfl,by unfold L9;omega,rfl⟩ ?_
   rintro μ ρ w' ⟨k,v,hk,hρ,hval,hvm,rfl⟩
   rw[hρ.eq];refine A7 ?_;refine A0 rfl (fun h1=>?_) (fun h1=>?_)
   ·have hkn:k<s2.size:=by simpa using h1
    obtain⟨c,hc⟩:=B8 (l:=H6 s2) (k:=k) (by omega)
    have hg:s2.data.toList.getD (k:Int).toNat 0=c:=by
     show (H6 s2).getD k 0=c
     rw[List.getD_eq_getElem?_getD,hc];rfl
    have hd0:0≤d5 c.toNat base:=by
     have:=List.all_eq_true.1 hall c (List.mem_of_getElem? hc)
     simpa using this
    have hdr:=(KW c.toNat base (by omega)).resolve_left (by omega)
    rw[drop_at hc]at hval;have hval:p9 base (H6 s2) 0=p9 base ((H6 s2).drop (k+1)) (v*base+(d5 c.toNat base).toNat):=hval
    obtain⟨d,hd⟩:∃d:Nat,d5 c.toNat base=(d:Int):=⟨(d5 c.toNat base).toNat,by omega⟩
    rw[hd]at hval hdr
    rw[Int.toNat_natCast]at hval;have hmost:(L9:Int)=18446744073709551615:=rfl
    have hw1:IntKind.u64.wrap (d:Int)=d:=O5 (by omega) (by omega)
    have hw2:IntKind.u64.wrap (18446744073709551615-(d:Int))=18446744073709551615-d:=O5 (by omega) (by omega)
    have hdiv:(18446744073709551615-(d:Int)).tdiv base=(18446744073709551615-(d:Int)) / base:=Int.tdiv_eq_ediv_of_nonneg (by omega)
    have hq0:0≤(18446744073709551615-(d:Int)) / base:=Int.ediv_nonneg (by omega) (by omega)
    have hq1:(18446744073709551615-(d:Int)) / base≤18446744073709551615-(d:Int):=Int.ediv_le_self _ (by omega)
    have hw3:IntKind.u64.wrap ((18446744073709551615-(d:Int)) / base)=(18446744073709551615-(d:Int)) / base:=O5 hq0 (by omega)
    have hle:(v:Int)≤(18446744073709551615-(d:Int)) / base↔(v:Int)*base≤18446744073709551615-d:=Int.le_ediv_iff_mul_le (by omega)
    refine A7 ?_;rw[hg,hd,hw1,hw2,hdiv,hw3];refine A0 rfl (fun h2=>?_) (fun h2=>?_)
    ·have h2:(18446744073709551615-(d:Int)) / base<v:=of_decide_eq_true h2
     have h3:¬(v:Int)*base≤18446744073709551615-d:=fun hh=>by have:=hle.2 hh;omega
     have h4:L9<v*base+d:=by
      have:(L9:Int)<((v*base+d:Nat):Int):=by rw[hmost];push_cast;omega
      omega
     have h5:=IA base (by omega) ((H6 s2).drop (k+1)) (v*base+d)
     have h6:L9 >>> sh≤L9:=Nat.shiftRight_le _ _
     refine A7 ?_;refine⟨_,rfl,?_,rfl⟩
     unfold R3;rw[if_neg (by rw[hall];simp),if_pos (by rw[hval];omega)];rfl
    ·have h2:¬(18446744073709551615-(d:Int)) / base<v:=of_decide_eq_false h2
     have h3:(v:Int)*base≤18446744073709551615-d:=hle.1 (by omega)
     have h3':0≤(v:Int)*base:=Int.mul_nonneg (by omega) (by omega)
     have hw4:IntKind.u64.wrap ((v:Int)*base)=v*base:=O5 h3' (by omega)
     have hw5:IntKind.u64.wrap ((v:Int)*base+d)=v*base+d:=O5 (by omega) (by omega)
     refine A7 ?_;refine⟨μ-1,by omega,k+1,v*base+d,by omega,⟨rfl,rfl,rfl,?_,rfl,trivial⟩,hval,?_,rfl⟩
     ·show Value.int .u64 (IntKind.u64.wrap (IntKind.u64.wrap ((v:Int)*base)+d))=_
      rw[hw4,hw5];push_cast;rfl
     ·have:((v*base+d:Nat):Int)≤(L9:Int):=by rw[hmost];push_cast;omega
      omega
   have hkn:¬k<s2.size:=by simpa using h1
   rw[List.drop_eq_nil_of_le (by omega)]at hval
   have hval:p9 base (H6 s2) 0=v:=hval
   have hcore:R3 base sh (H6 s2)=if L9 >>> sh<v then (0,6) else (v <<< sh,0):=by
    unfold R3;rw[if_neg (by rw[hall];simp),hval]
   rw[hcore];have key1:(18446744073709551615:Int).fdiv (2 ^ (min (sh:Int).toNat IntKind.u64.bits))=((L9 >>> sh:Nat):Int):=by
    rcases hcase with rfl|rfl|rfl|rfl <;> decide +kernel
   have hmin:min (sh:Int).toNat IntKind.u64.bits=sh:=by
    rcases hcase with rfl|rfl|rfl|rfl <;> rfl
   refine A7 ?_;rw[key1];refine A0 rfl (fun h2=>?_) (fun h2=>?_)
   ·have h2:L9 >>> sh<v:=by have:=of_decide_eq_true h2;omega
    refine A7 ?_;refine⟨_,rfl,?_,rfl⟩
    rw[if_pos h2];rfl
   ·have h2:¬L9 >>> sh<v:=by have:=of_decide_eq_false h2;omega
    have h3:v*2 ^ sh≤L9:=by
     rw[Nat.shiftRight_eq_div_pow]at h2;exact(Nat.le_div_iff_mul_le (Nat.two_pow_pos sh)).1 (by omega)
    have h4:IntKind.u64.wrap ((v:Int)*2 ^ (min (sh:Int).toNat IntKind.u64.bits))=((v <<< sh:Nat):Int):=by
     rw[hmin,Nat.shiftLeft_eq];have e:((v*2 ^ sh:Nat):Int)=(v:Int)*2 ^ sh:=by push_cast;rfl
     rw[←e];have hmost:L9=18446744073709551615:=rfl
     exact O5 (by omega) (by omega)
    refine A7 ?_;refine⟨_,rfl,?_,rfl⟩
    rw[if_neg h2];show Ending.returned (.tuple #[.int .u64 (IntKind.u64.wrap ((v:Int)*2 ^ (min (sh:Int).toNat IntKind.u64.bits))),.int .i64 0])=_
    rw[h4]
end Go.Proofs.YtlmiakjbogojgaaGreatDoor
end
section
open Go Mk
namespace Go.Proofs.YtlmiakjbogojgaaGreatDoor
set_option maxHeartbeats 4000000
attribute [local irreducible] Calls y9 G4
def Sy(t:Tg):Tok:=⟨t.kind,t.text,t.value,0,0⟩
theorem IQ(s:ByteArray):runN s≤s.size:=by
 have:(s.data.toList.takeWhile O6).length≤s.data.toList.length:=(List.takeWhile_sublist _).length_le
 rw[←K9];exact this
theorem BB{s:ByteArray}(h0:0<s.size)(h:O6 (s.data.toList.getD 0 0)=true):0<runN s:=by
 have hl:=K9 s
 unfold runN;cases hb:s.data.toList with
 | nil=>rw[show H6 s=[] from hb]at hl;simp at hl;omega
 | cons c l=>
  rw[hb]at h;have h:O6 c=true:=h
  simp[List.takeWhile_cons,h]
theorem Lg{s:ByteArray}{k:Nat}(h1:1≤k)(hk:k≤s.size)(ha:∀i,1≤i→i<k→W3 (A3 s i)=true)(hn:k<s.size→W3 (A3 s k)=false):R7 s=k:=by
 have hl:=K9 s
 have hg:∀i,((H6 s).drop 1).getD i 0=(H6 s).getD (i+1) 0:=fun i=>by
  rw[List.getD_eq_getElem?_getD,List.getD_eq_getElem?_getD,List.getElem?_drop,Nat.add_comm]
 unfold R7;rw[U8 (k:=k-1) (by simp[hl];omega) (fun i hi=>by rw[hg];exact ha (i+1) (by omega) (by omega)) (fun hh=>by
  rw[hg,show k-1+1=k from by omega]
  exact hn (by simp[hl]at hh;omega))]
 omega
theorem Bg(s:ByteArray):G4 s≤s.size:=by
 unfold G4;split
 ·rename_i h;exact h.1
 ·split
  ·rename_i h;exact h.1
  ·omega
theorem OH(Γ:C4)(s:ByteArray)(hs:s.size≤4611686018427387904)(h0:0<s.size):PG Tryz.prog Γ 84 [.string s] (.tuple #[.agg (enc (Sy (J1 s))).toArray,.int .i64 (J1 s).n,.int .i64 (J1 s).err]):=⟨fun S w hw=>by
 haveI:SB s:=⟨by omega⟩
 have hrl:=IQ s
 refine F1 Tryz.func84 rfl rfl ?_
 refine A7 ?_;refine B7 ?_;intro b w hw;refine A7 ?_;refine A0 rfl (fun h=>?_) (fun h=>?_)
 ·have h:F2 (A3 s 0)=true:=h
  have hT:J1 s=⟨1,D7 s 0 (runN s),0,runN s,0⟩:=by unfold J1;rw[if_pos h]
  rw[hT];refine A7 ?_;refine A9 ?_;intro w hw;have hw:Wd Γ (.blk b (.cells (enc (⟨1,D7 s 0 (runN s),0,0,0⟩:Tok)).toArray 102)::S) w:=hw
  refine A7 ?_;exact⟨[.agg (enc (⟨1,D7 s 0 (runN s),0,0,0⟩:Tok)).toArray,.int .i64 (runN s),.int .i64 0],⟨J2 (i:=0) hw rfl rfl rfl,rfl,rfl,trivial⟩,rfl,hw.drop⟩
 have h:F2 (A3 s 0)=false:=h
 refine A7 ?_;refine A0 rfl (fun h2=>?_) (fun h2=>?_)
 ·have h2:H2 (A3 s 0)=true:=h2
  have hrp:0<runN s:=BB h0 (by unfold O6;rw[show H2 ((s.data.toList.getD 0 0).toNat:Int)=true from h2];simp)
  have hsz:(D7 s 0 (runN s)).size=runN s:=by rw[O7 hrl];omega
  have hT:J1 s=if (y9 (D7 s 0 (runN s))).2=0 then ⟨2,⟨#[]⟩,(y9 (D7 s 0 (runN s))).1,runN s,0⟩ else BJ (y9 (D7 s 0 (runN s))).2:=by unfold J1;rw[if_neg (by rw[h];simp),if_pos h2]
  rw[hT];refine A7 ?_;refine B9 ?_;refine(Kk (D7 s 0 (runN s)) (by omega) (by omega) w).mono ?_
  rintro e w' ⟨rfl,rfl⟩
  refine⟨_,rfl,?_⟩;generalize y9 (D7 s 0 (runN s))=r
  obtain⟨v,er⟩:=r;refine A7 ?_;refine A0 rfl (fun h3=>?_) (fun h3=>?_)
  ·have h3:¬er=0:=by simpa using h3
   refine A7 ?_;refine A9 ?_;intro w hw;have hw:Wd Γ (.blk b (.cells (enc (⟨0,⟨#[]⟩,0,0,0⟩:Tok)).toArray 102)::S) w:=hw
   refine A7 ?_;refine⟨[.agg (enc (⟨0,⟨#[]⟩,0,0,0⟩:Tok)).toArray,.int .i64 0,.int .i64 er],⟨J2 (i:=0) hw rfl rfl rfl,rfl,rfl,trivial⟩,?_,hw.drop⟩
   rw[if_neg h3];rfl
  ·have h3:er=0:=by simpa using h3
   refine A7 ?_;refine A9 ?_;intro w hw;have hw:Wd Γ (.blk b (.cells (enc (⟨2,⟨#[]⟩,v,0,0⟩:Tok)).toArray 102)::S) w:=hw
   refine A7 ?_;refine⟨[.agg (enc (⟨2,⟨#[]⟩,v,0,0⟩:Tok)).toArray,.int .i64 (runN s),.int .i64 0],⟨J2 (i:=0) hw rfl rfl rfl,rfl,rfl,trivial⟩,?_,hw.drop⟩
   rw[if_pos h3];rfl
 have h2:H2 (A3 s 0)=false:=h2
 refine A7 ?_;refine A0 rfl (fun h3=>?_) (fun h3=>?_)
 ·have h3:A3 s 0=34:=of_decide_eq_true h3
  have hT:J1 s=if R7 s<s.size∧A3 s (R7 s)=34 then ⟨3,D7 s 1 (R7 s),0,R7 s+1,0⟩ else BJ 50:=by unfold J1;rw[if_neg (by rw[h];simp),if_neg (by rw[h2];simp),if_pos h3]
  rw[hT];refine A7 ?_;refine C1 (fun μ ρ w=>∃k:Nat,μ+k=s.size∧1≤k∧Has ρ [(0,.string s),(2,.pointer (some ⟨b,0,none⟩)),(10,.int .i64 k)]∧(∀i,1≤i→i<k→W3 (A3 s i)=true)∧Wd Γ (.blk b (.cells (enc (⟨0,⟨#[]⟩,0,0,0⟩:Tok)).toArray 102)::S) w) (s.size-1) ⟨1,by omega,by omega,⟨rfl,rfl,rfl,trivial⟩,fun i h1 h2=>by omega,hw⟩ ?_
  clear hw;rintro μ ρ w ⟨k,hk,hk1,hρ,hall,hw⟩
  rw[hρ.eq];refine A7 ?_;refine A0 rfl (fun h4=>?_) (fun h4=>?_)
  ·have h4:k<s.size∧W3 (A3 s k)=true:=by
    rw[Bool.and_eq_true,decide_eq_true_eq]at h4;exact⟨by omega,h4.2⟩
   refine A7 ?_;refine⟨μ-1,by omega,k+1,by omega,by omega,⟨rfl,rfl,rfl,trivial⟩,fun i h1 h2=>?_,hw⟩
   by_cases e:i=k
   ·subst e;exact h4.2
   ·exact hall i h1 (by omega)
  ·have hS:R7 s=k:=Lg hk1 (by omega) hall (fun hlt=>by
    have e1:decide ((k:Int)<s.size)=true:=by simp;omega
    rw[e1,Bool.true_and]at h4;exact h4)
   rw[hS];clear h4;have hks:k≤s.size:=by omega
   refine A7 ?_;have key:(decide ((k:Int)=s.size)||decide (A3 s k≠34)) = !decide (k<s.size∧A3 s k=34):=by
    rw[show decide ((k:Int)=s.size)=decide (¬k<s.size) from decide_eq_decide.2 (by omega)]
    by_cases e1:k<s.size <;> by_cases e2:A3 s k=34 <;> simp[e1,e2]
   refine A0 rfl (fun h4=>?_) (fun h4=>?_)
   ·have h4:=key.symm.trans h4
    have h4:¬(k<s.size∧A3 s k=34):=fun hh=>by rw[decide_eq_true hh]at h4;cases h4
    refine A7 ?_;refine A9 ?_;intro w hw;have hw:Wd Γ (.blk b (.cells (enc (⟨0,⟨#[]⟩,0,0,0⟩:Tok)).toArray 102)::S) w:=hw
    refine A7 ?_;refine⟨[.agg (enc (⟨0,⟨#[]⟩,0,0,0⟩:Tok)).toArray,.int .i64 0,.int .i64 50],⟨J2 (i:=0) hw rfl rfl rfl,rfl,rfl,trivial⟩,?_,hw.drop⟩
    rw[if_neg h4];rfl
   ·have h4:=key.symm.trans h4
    have h4:k<s.size∧A3 s k=34:=by simpa using h4
    have hkl:=h4.1
    refine A7 ?_;refine A9 ?_;intro w hw;have hw:Wd Γ (.blk b (.cells (enc (⟨3,D7 s 1 k,0,0,0⟩:Tok)).toArray 102)::S) w:=hw
    refine A7 ?_;refine⟨[.agg (enc (⟨3,D7 s 1 k,0,0,0⟩:Tok)).toArray,.int .i64 ((k:Int)+1),.int .i64 0],⟨J2 (i:=0) hw rfl rfl rfl,rfl,rfl,trivial⟩,?_,hw.drop⟩
    rw[if_pos h4];rfl
 ·have h3:¬A3 s 0=34:=of_decide_eq_false h3
  have hT:J1 s=if G4 s=0 then BJ 50 else ⟨4,D7 s 0 (G4 s),0,G4 s,0⟩:=by unfold J1;rw[if_neg (by rw[h];simp),if_neg (by rw[h2];simp),if_neg h3]
  have hpl:=Bg s
  rw[hT];refine A7 ?_;refine A0 rfl (fun h4=>?_) (fun h4=>?_)
  ·have h4:G4 s=0:=by have:=of_decide_eq_true h4;omega
   refine A7 ?_;refine A9 ?_;intro w hw;have hw:Wd Γ (.blk b (.cells (enc (⟨0,⟨#[]⟩,0,0,0⟩:Tok)).toArray 102)::S) w:=hw
   refine A7 ?_;refine⟨[.agg (enc (⟨0,⟨#[]⟩,0,0,0⟩:Tok)).toArray,.int .i64 0,.int .i64 50],⟨J2 (i:=0) hw rfl rfl rfl,rfl,rfl,trivial⟩,?_,hw.drop⟩
   rw[if_pos h4];rfl
  ·have h4:¬G4 s=0:=by have:=of_decide_eq_false h4;omega
   refine A7 ?_;refine A9 ?_;intro w hw;have hw:Wd Γ (.blk b (.cells (enc (⟨4,D7 s 0 (G4 s),0,0,0⟩:Tok)).toArray 102)::S) w:=hw
   refine A7 ?_;refine⟨[.agg (enc (⟨4,D7 s 0 (G4 s),0,0,0⟩:Tok)).toArray,.int .i64 (G4 s),.int .i64 0],⟨J2 (i:=0) hw rfl rfl rfl,rfl,rfl,trivial⟩,?_,hw.drop⟩
   rw[if_neg h4];rfl⟩
end Go.Proofs.YtlmiakjbogojgaaGreatDoor
end
section
open Go Mk
namespace Go.Proofs.YtlmiakjbogojgaaGreatDoor
set_option maxHeartbeats 400000
attribute [local irreducible] Calls y9 G4
theorem RB{b:UInt8}(h:O6 b=true):((b.toNat:Nat):Int)≠10:=by
 intro e;unfold O6 F2 H2 at h;rw[e]at h;revert h;decide
theorem OL{c:Int}(h:W3 c=true):c≠10:=by
 intro e;rw[e]at h;revert h;decide
theorem AC{p:UInt8→Bool}:∀ {l:List UInt8} {i:Nat},i<(l.takeWhile p).length→p (l.getD i 0)=true
 | [],i,h=>by simp at h
 | x::l,i,h=>by
  by_cases hx:p x=true
  ·rw[List.takeWhile_cons,if_pos hx]at h;cases i with
   | zero=>simpa using hx
   | succ i=>exact AC (l:=l) (i:=i) (by simpa using h)
  ·rw[List.takeWhile_cons,if_neg hx]at h;simp at h
theorem Oi{s:ByteArray}(h0:0<s.size)(he:(J1 s).err=0):1≤(J1 s).n∧(J1 s).n≤s.size∧∀i,i<(J1 s).n→A3 s i≠10:=by
 have hrl:=IQ s
 have hrun:∀i,i<runN s→A3 s i≠10:=fun i hi=>RB (AC (p:=O6) hi)
 unfold J1 at he ⊢
 by_cases h1:F2 (A3 s 0)=true
 ·rw[if_pos h1];exact⟨BB h0 (by unfold O6;rw[show F2 ((s.data.toList.getD 0 0).toNat:Int)=true from h1];rfl),hrl,hrun⟩
 rw[if_neg h1]at he ⊢
 by_cases h2:H2 (A3 s 0)=true
 ·rw[if_pos h2]at he ⊢
  by_cases h3:(y9 (D7 s 0 (runN s))).2=0
  ·rw[if_pos h3];exact⟨BB h0 (by unfold O6;rw[show H2 ((s.data.toList.getD 0 0).toNat:Int)=true from h2];simp),hrl,hrun⟩
  ·rw[if_neg h3]at he;exact absurd he h3
 rw[if_neg h2]at he ⊢
 by_cases h3:A3 s 0=34
 ·rw[if_pos h3]at he ⊢
  by_cases h4:R7 s<s.size∧A3 s (R7 s)=34
  ·rw[if_pos h4];refine⟨by show 1≤R7 s+1;omega,by show R7 s+1≤s.size;omega,fun i hi=>?_⟩
   have hi:i<R7 s+1:=hi
   by_cases e0:i=0
   ·subst e0;rw[h3];decide
   ·by_cases e1:i=R7 s
    ·subst e1;rw[h4.2];decide
    ·have hi2:i-1<(((H6 s).drop 1).takeWhile BP).length:=by unfold R7 at hi e1;omega
     have:=AC (p:=BP) hi2
     rw[List.getD_eq_getElem?_getD,List.getElem?_drop,show 1+(i-1)=i from by omega,←List.getD_eq_getElem?_getD]at this
     exact OL this
  ·rw[if_neg h4]at he;exact absurd he (by decide)
 rw[if_neg h3]at he ⊢
 by_cases h4:G4 s=0
 ·rw[if_pos h4]at he;exact absurd he (by decide)
 rw[if_neg h4];refine⟨by show 1≤G4 s;omega,Bg s,fun i hi=>?_⟩
 have hi:i<G4 s:=hi
 unfold G4 at hi;by_cases h5:2≤s.size∧Dr (A3 s 0) (A3 s 1)=true
 ·rw[if_pos h5]at hi;have h6:=h5.2
  intro e;rcases (by omega:i=0∨i=1) with rfl|rfl <;> (rw[e]at h6;unfold Dr at h6;simp at h6)
 ·rw[if_neg h5]at hi;split at hi
  ·rename_i h6
   have hi0:i=0:=by omega
   subst hi0;intro e;have:s.data.toList.getD 0 0=10:=by
    apply UInt8.toNat_inj.1
    have e':((s.data.toList.getD 0 0).toNat:Int)=10:=e
    show _=10
    omega
   rw[this]at h6;exact absurd h6.2 (by decide)
  ·omega
theorem W1{s:ByteArray}{off:Nat}:∀(n:Nat),(∀i,i<n→A3 s (off+i)≠10)→B0 s (off+n)=⟨(B0 s off).Line,(B0 s off).Col+n⟩
 | 0,_=>by simp
 | n+1,h=>by
  have ih:=W1 n (fun i hi=>h i (by omega))
  rw[show off+(n+1)=(off+n)+1 from by omega]
  rw[show B0 s (off+n+1)=if A3 s (off+n)=10 then ⟨(B0 s (off+n)).Line+1,1⟩ else ⟨(B0 s (off+n)).Line,(B0 s (off+n)).Col+1⟩ from rfl,if_neg (h n (by omega)),ih]
  simp;omega
theorem BV{s:ByteArray}{k:Nat}(h:A3 s k=10):B0 s (k+1)=⟨(B0 s k).Line+1,1⟩:=by
 rw[show B0 s (k+1)=if A3 s k=10 then ⟨(B0 s k).Line+1,1⟩ else ⟨(B0 s k).Line,(B0 s k).Col+1⟩ from rfl,if_pos h]
theorem Ji{s:ByteArray}{off k:Nat}(h1:off≤k)(hk:k≤s.size)(ha:∀i,off≤i→i<k→A3 s i≠10)(hn:k<s.size→A3 s k=10):AQ s off=k:=by
 have hl:=K9 s
 have hg:∀i,((H6 s).drop off).getD i 0=(H6 s).getD (off+i) 0:=fun i=>by
  rw[List.getD_eq_getElem?_getD,List.getD_eq_getElem?_getD,List.getElem?_drop]
 unfold AQ;rw[U8 (k:=k-off) (by simp[hl];omega) (fun i hi=>by rw[hg];exact decide_eq_true (ha (off+i) (by omega) (by omega))) (fun hh=>by
  rw[hg,show off+(k-off)=k from by omega]
  have:=hn (by simp[hl]at hh;omega)
  exact decide_eq_false (fun q=>q this))]
 omega
end Go.Proofs.YtlmiakjbogojgaaGreatDoor
end
section
open Go Mk
namespace Go.Proofs.YtlmiakjbogojgaaGreatDoor
set_option maxHeartbeats 4000000
attribute [local irreducible] Calls y9 G4 J1 B0 AQ
theorem Jd(Γ:C4)(S:List B5)(w:World)(s:ByteArray)(hs:s.size≤4611686018427387904)(hw:Wd Γ S w) :
  Calls Tryz.prog 28 #[.string s] w fun e w'=>∃v,e=.returned (.tuple #[v,.agg (enc (C7 s).2.1).toArray,.int .i64 (C7 s).2.2])∧Wd Γ (.own v 102 5 ((C7 s).1.map enc)::S) w':=by
 refine F1 Tryz.func28 rfl rfl ?_
 refine A7 ?_;refine B7 ?_;intro bp w hw;have hw:Wd Γ (.blk bp (.cells (enc (⟨0,0⟩:C8)).toArray 29)::S) w:=hw
 refine A7 ?_;refine Ox ?_
 refine A7 ?_;refine A0 rfl (fun h=>?_) (fun h=>?_)
 ·have h:65536<s.size:=by simp at h;omega
  have hS:C7 s=([],⟨0,0⟩,15):=by unfold C7;rw[if_pos h]
  rw[hS];refine A7 ?_;refine A9 ?_;intro w hw;have hw:Wd Γ (.blk bp (.cells (enc (⟨0,0⟩:C8)).toArray 29)::S) w:=hw
  refine A7 ?_;exact⟨[.slice none 0 0,.agg (enc (⟨0,0⟩:C8)).toArray,.int .i64 15],⟨rfl,J2 (i:=0) hw rfl rfl rfl,rfl,trivial⟩,_,rfl,Wd.addNil hw.drop⟩
 have h:¬65536<s.size:=by simp at h;omega
 have hS:C7 s=O4 s (s.size+1) 0 []:=by unfold C7;rw[if_neg h]
 rw[hS];refine A7 ?_;refine RV ?_
 refine A7 ?_;refine C1 (fun μ ρ w=>∃(off start:Nat) (g:Value) (toks:List Tok),off≤s.size∧s.size<μ+off∧start≤off∧(B0 s off).Col=(off:Int)-start+1∧(B0 s off).Line≤1+off∧toks.length≤off∧Has ρ [(0,.string s),(3,.pointer (some ⟨bp,0,none⟩)),(5,g),(6,.int .i64 (B0 s off).Line),(7,.int .i64 start),(8,.int .i64 off)]∧O4 s (s.size+1) 0 []=O4 s μ off toks∧0≤(B0 s off).Line∧Wd Γ (.own g 102 5 (toks.map enc)::.blk bp (.cells (enc (⟨0,0⟩:C8)).toArray 29)::S) w) (s.size+1) ?_ ?_
 ·have p0:B0 s 0=⟨1,1⟩:=by unfold B0;rfl
  refine⟨0,0,.slice none 0 0,[],by omega,by omega,by omega,?_,?_,by simp,⟨rfl,rfl,rfl,?_,rfl,rfl,trivial⟩,rfl,?_,Wd.addNil hw⟩
  ·rw[p0];rfl
  ·rw[p0];decide
  ·rw[p0];rfl
  ·rw[p0];decide
 clear hw;rintro μ ρ w ⟨off,start,g,toks,ho,hμ,hst,hcol,hlin,htl,hρ,hN,hl0,hw⟩
 rw[hρ.eq];obtain⟨f,rfl⟩:∃f,μ=f+1:=⟨μ-1,by omega⟩
 rw[hN];clear hS;refine A7 ?_;refine A0 rfl (fun h1=>?_) (fun h1=>?_)
 ·have h1:off<s.size:=by simpa using h1
  have hsp:BR (A3 s off)=true→O4 s (f+1) off toks=O4 s f (off+1) toks:=fun q=>by
   show (if s.size≤off then _ else _)=_
   rw[if_neg (by omega),if_pos q]
  have hp1:A3 s off≠10→B0 s (off+1)=⟨(B0 s off).Line,(B0 s off).Col+1⟩:=fun q=>by
   have:=W1 (s:=s) (off:=off) 1 (fun i hi=>by rw[show off+i=off from by omega];exact q)
   simpa using this
  have hp2:A3 s off=10→B0 s (off+1)=⟨(B0 s off).Line+1,1⟩:=BV
  refine A7 ?_;refine A0 rfl (fun e1=>?_) (fun e1=>?_)
  ·have e1:A3 s off=10:=of_decide_eq_true e1
   have hq:=hp2 e1
   refine A7 ?_;refine⟨f,by omega,off+1,off+1,g,toks,by omega,by omega,by omega,by rw[hq];show (1:Int)=_;omega,by rw[hq];show (B0 s off).Line+1≤_;omega,by omega,⟨rfl,rfl,rfl,by rw[hq];rfl,rfl,rfl,trivial⟩,by rw[hsp (by rw[e1];rfl)],by rw[hq];show 0≤(B0 s off).Line+1;omega,hw⟩
  have e1:A3 s off≠10:=of_decide_eq_false e1
  have hq:=hp1 e1
  refine A7 ?_;refine A0 rfl (fun e2=>?_) (fun e2=>?_)
  ·refine A7 ?_;refine G1 (by simp only[e2];rfl) ?_
   have e2:A3 s off=32:=of_decide_eq_true e2
   refine A7 ?_;exact⟨f,by omega,off+1,start,g,toks,by omega,by omega,by omega,by rw[hq];show (B0 s off).Col+1=_;omega,by rw[hq];show (B0 s off).Line≤_;omega,by omega,⟨rfl,rfl,rfl,by rw[hq];rfl,rfl,rfl,trivial⟩,by rw[hsp (by rw[e2];rfl)],by rw[hq];exact hl0,hw⟩
  refine A7 ?_;refine A0 rfl (fun e3=>?_) (fun e3=>?_)
  ·refine A7 ?_;refine G1 (by simp only[e3];rfl) ?_
   have e3:A3 s off=9:=of_decide_eq_true e3
   refine A7 ?_;exact⟨f,by omega,off+1,start,g,toks,by omega,by omega,by omega,by rw[hq];show (B0 s off).Col+1=_;omega,by rw[hq];show (B0 s off).Line≤_;omega,by omega,⟨rfl,rfl,rfl,by rw[hq];rfl,rfl,rfl,trivial⟩,by rw[hsp (by rw[e3];rfl)],by rw[hq];exact hl0,hw⟩
  refine A7 ?_;refine A0 rfl (fun e4=>?_) (fun e4=>?_)
  ·have e4:A3 s off=13:=of_decide_eq_true e4
   refine A7 ?_;exact⟨f,by omega,off+1,start,g,toks,by omega,by omega,by omega,by rw[hq];show (B0 s off).Col+1=_;omega,by rw[hq];show (B0 s off).Line≤_;omega,by omega,⟨rfl,rfl,rfl,by rw[hq];rfl,rfl,rfl,trivial⟩,by rw[hsp (by rw[e4];rfl)],by rw[hq];exact hl0,hw⟩
  have e2:A3 s off≠32:=of_decide_eq_false e2
  have e3:A3 s off≠9:=of_decide_eq_false e3
  have e4:A3 s off≠13:=of_decide_eq_false e4
  have hns:¬BR (A3 s off)=true:=by simp[BR,e1,e2,e3,e4]
  refine A7 ?_;refine A0 rfl (fun e5=>?_) (fun e5=>?_)
  ·have e5:A3 s off=35:=of_decide_eq_true e5
   have hsk:O4 s (f+1) off toks=O4 s f (AQ s off) toks:=by
    show (if s.size≤off then _ else _)=_
    rw[if_neg (by omega),if_neg hns,if_pos e5]
   refine A7 ?_;refine C1 (fun μ ρ w=>∃k:Nat,μ+k=s.size∧off≤k∧Has ρ [(0,.string s),(3,.pointer (some ⟨bp,0,none⟩)),(5,g),(6,.int .i64 (B0 s off).Line),(7,.int .i64 start),(8,.int .i64 k)]∧(∀i,off≤i→i<k→A3 s i≠10)∧Wd Γ (.own g 102 5 (toks.map enc)::.blk bp (.cells (enc (⟨0,0⟩:C8)).toArray 29)::S) w) (s.size-off) ⟨off,by omega,by omega,⟨rfl,rfl,rfl,rfl,rfl,rfl,trivial⟩,fun i h1 h2=>by omega,hw⟩ ?_
   clear hw hρ;rintro μ2 ρ w ⟨k,hk,hk1,hρ,hall,hw⟩
   rw[hρ.eq];refine A7 ?_;refine A0 rfl (fun h4=>?_) (fun h4=>?_)
   ·have h4:k<s.size∧A3 s k≠10:=by
     rw[Bool.and_eq_true,decide_eq_true_eq]at h4;exact⟨by omega,of_decide_eq_true h4.2⟩
    have hkl:=h4.1
    refine A7 ?_;refine⟨μ2-1,by omega,k+1,by omega,by omega,⟨rfl,rfl,rfl,rfl,rfl,rfl,trivial⟩,fun i h1 h2=>?_,hw⟩
    by_cases e:i=k
    ·subst e;exact h4.2
    ·exact hall i h1 (by omega)
   ·have hend:k<s.size→A3 s k=10:=fun hlt=>by
     have q1:decide ((k:Int)<s.size)=true:=by simp;omega
     rw[q1,Bool.true_and]at h4;have:=of_decide_eq_false h4
     exact Classical.not_not.1 this
    have hkk:off<k:=by
     rcases Nat.lt_or_ge off k with q|q
     ·exact q
     ·have:k=off:=by omega
      subst this;have:=hend h1
      exact absurd this e1
    have hks:AQ s off=k:=Ji hk1 (by omega) hall hend
    have hpk:=W1 (s:=s) (off:=off) (k-off) (fun i hi=>hall (off+i) (by omega) (by omega))
    rw[show off+(k-off)=k from by omega]at hpk
    refine A7 ?_;exact⟨f,by omega,k,start,g,toks,by omega,by omega,by omega,by rw[hpk];show (B0 s off).Col+_=_;omega,by rw[hpk];show (B0 s off).Line≤_;omega,by omega,⟨rfl,rfl,rfl,by rw[hpk];rfl,rfl,rfl,trivial⟩,by rw[hsk,hks],by rw[hpk];exact hl0,hw⟩
  have e5:A3 s off≠35:=of_decide_eq_false e5
  have hsz:(D7 s off s.size).size=s.size-off:=O7 (Nat.le_refl _)
  have hok:=Oi (s:=D7 s off s.size) (by omega)
  have hstep:O4 s (f+1) off toks=if (J1 (D7 s off s.size)).err=0 then O4 s f (off+(J1 (D7 s off s.size)).n) (toks++[⟨(J1 (D7 s off s.size)).kind,(J1 (D7 s off s.size)).text,(J1 (D7 s off s.size)).value,(B0 s off).Line,(B0 s off).Col⟩]) else ([],B0 s off,(J1 (D7 s off s.size)).err):=by
   show (if s.size≤off then _ else _)=_
   rw[if_neg (by omega),if_neg hns,if_neg e5]
  have hbyte:∀i,i<s.size-off→A3 (D7 s off s.size) i=A3 s (off+i):=fun i hi=>FO (by omega)
  rw[hstep];obtain⟨ag,ng,cg,rfl,hng,hngc,hcg⟩:=hw.own_shape (i:=0) rfl
  simp only[List.length_map]at hng
  have hoz:(0:Int)≤off:=by omega
  refine A7 ?_;refine B7 ?_;intro b9 w hw;refine A9 ?_;intro w hw;have hw:Wd Γ (.blk b9 (.cells (enc (⟨(B0 s off).Line,(off:Int)-start+1⟩:C8)).toArray 29)::.own (.slice ag ng cg) 102 5 (toks.map enc)::.blk bp (.cells (enc (⟨0,0⟩:C8)).toArray 29)::S) w:=hw
  rw[←hcol]at hw;refine A7 ?_;refine TD (hp:=OH Γ (D7 s off s.size) (by omega) (by omega)) ?_
  intro w hw;generalize J1 (D7 s off s.size)=t at *
  refine A7 ?_;refine B7 ?_;intro b10 w hw;refine A9 ?_;intro w hw;have hw:Wd Γ (.blk b10 (.cells (enc (Sy t)).toArray 102)::.blk b9 (.cells (enc (⟨(B0 s off).Line,(B0 s off).Col⟩:C8)).toArray 29)::.own (.slice ag ng cg) 102 5 (toks.map enc)::.blk bp (.cells (enc (⟨0,0⟩:C8)).toArray 29)::S) w:=hw
  refine A7 ?_;refine A0 rfl (fun h6=>?_) (fun h6=>?_)
  ·have h6:¬t.err=0:=by simpa using h6
   rw[if_neg h6];refine A7 ?_;refine p8 [.blk b10 _,.blk b9 _,.own _ _ _ _] (.blk bp _::S) [] [[],[],[],[0],[]] hw ?_
   refine W9 ?_;refine V9 (φ:=fun (_:Unit) _=>True) (R:=fun _=>.blk bp (.cells (enc (⟨0,0⟩:C8)).toArray 29)::S) (v:=undef) (T':=Unit) (fun _ _=>True) (fun _=>.blk bp (.cells (enc (⟨(B0 s off).Line,(B0 s off).Col⟩:C8)).toArray 29)::S) (fun t' g w Y _ hw=>X4 (i:=0) (inferInstance:Ly Tryz.prog 29 2).h hw rfl rfl rfl rfl (fun u hu=>(List.all_eq_true.1 (Ag (⟨(B0 s off).Line,(B0 s off).Col⟩:C8))) u hu) rfl (Nat.le_refl 2) fun w' hw'=>⟨(),trivial,(fun _=>rfl),hw'⟩) ?_
   refine W9 ?_;refine Al fun t' w g _ hw=>?_
   have hw:Wd Γ (.blk bp (.cells (enc (B0 s off)).toArray 29)::S) w:=Wd.left (S:=.blk bp _::S) hw
   refine A7 ?_;exact⟨[.slice none 0 0,.agg (enc (B0 s off)).toArray,.int .i64 t.err],⟨rfl,J2 (i:=0) hw rfl rfl rfl,rfl,trivial⟩,_,rfl,Wd.addNil hw.drop⟩
  ·have h6:t.err=0:=by simpa using h6
   rw[if_pos h6];obtain⟨hn1,hn2,hnn⟩:=hok h6
   rw[hsz]at hn2;have hpn:=W1 (s:=s) (off:=off) t.n (fun i hi=>by rw[←hbyte i (by omega)];exact hnn i hi)
   refine A7 ?_;refine A9 ?_;intro w hw;have hw:Wd Γ (.blk b10 (.cells (enc (⟨t.kind,t.text,t.value,(B0 s off).Line,(B0 s off).Col⟩:Tok)).toArray 102)::.blk b9 (.cells (enc (⟨(B0 s off).Line,(B0 s off).Col⟩:C8)).toArray 29)::.own (.slice ag ng cg) 102 5 (toks.map enc)::.blk bp (.cells (enc (⟨0,0⟩:C8)).toArray 29)::S) w:=hw
   refine A7 ?_;refine E4 [enc (⟨t.kind,t.text,t.value,(B0 s off).Line,(B0 s off).Col⟩:Tok)] ?_
   intro a72 w hw;refine Bv (i:=3) (rows2:=[enc (⟨t.kind,t.text,t.value,(B0 s off).Line,(B0 s off).Col⟩:Tok)]) ?_ (Wd.own_rd (i:=0) hw rfl)
   intro v' w hw;refine A7 ?_;have hw:Wd Γ (.own v' 102 5 (toks.map enc++[enc (⟨t.kind,t.text,t.value,(B0 s off).Line,(B0 s off).Col⟩:Tok)])::.blk bp (.cells (enc (⟨0,0⟩:C8)).toArray 29)::S) w:=hw.drop.drop.drop
   rw[show toks.map enc++[enc (⟨t.kind,t.text,t.value,(B0 s off).Line,(B0 s off).Col⟩:Tok)]=(toks++[(⟨t.kind,t.text,t.value,(B0 s off).Line,(B0 s off).Col⟩:Tok)]).map enc from by simp]at hw
   exact⟨f,by omega,off+t.n,start,v',_,by omega,by omega,by omega,by rw[hpn];show (B0 s off).Col+_=_;omega,by rw[hpn];show (B0 s off).Line≤_;omega,by simp;omega,⟨rfl,rfl,rfl,by rw[hpn];rfl,rfl,rfl,trivial⟩,rfl,by rw[hpn];exact hl0,hw⟩
 ·have h1:¬off<s.size:=by simpa using h1
  have hend:O4 s (f+1) off toks=(toks,⟨0,0⟩,0):=by
   show (if s.size≤off then _ else _)=_
   rw[if_pos (by omega)]
  rw[hend];refine A7 ?_;refine A9 ?_;intro w hw;have hw:Wd Γ (.own g 102 5 (toks.map enc)::.blk bp (.cells (enc (⟨0,0⟩:C8)).toArray 29)::S) w:=hw
  refine A7 ?_;exact⟨[g,.agg (enc (⟨0,0⟩:C8)).toArray,.int .i64 0],⟨rfl,J2 (i:=1) hw rfl rfl rfl,rfl,trivial⟩,_,rfl,hw.dropAt 1⟩
end Go.Proofs.YtlmiakjbogojgaaGreatDoor
end
section
open Go Mk
namespace Go.Proofs.YtlmiakjbogojgaaGreatDoor
set_option maxHeartbeats 4000000
attribute [local irreducible] Calls
theorem Mr{P:Program}{d:Option Tmp}{T ty:TypeId}{pos:String}{es:Array Edge}{g:Option (Nat×Bool)}{x:Operand}{ρ:Fr}{w:World}{v:Value}{fs:Array Field}(hu:P.underlying T=some (.struct fs))(hx:ev ρ x=v):Mk.Yields P ⟨d,.makeInterface T x,ty,pos,es,g⟩ ρ w (.iface T v):=by
 unfold Mk.Yields;simp[execOp,hx,Instr.makeInterface,run_underlying hu,Result.andThen]
def L5(toks:List Tok)(at':Nat)(kind:Int)(text:ByteArray):Bool:=match toks[at']? with|some t=>decide (t.Kind=kind)&&decide (t.Text=text)|none=>false
def G2(toks:List Tok)(at':Nat)(e:C8):C8:=match toks[at']? with|some t=>⟨t.Line,t.Col⟩|none=>e
abbrev PR(α:Type):=Except (C8×Int) (α×Nat)
def I9:ByteArray:=⟨#[44]⟩
theorem CR{toks:List Tok}{k:Nat}{kind:Int}{text:ByteArray}(h:L5 toks k kind text=true):k<toks.length:=by
 unfold L5 at h;cases hg:toks[k]? with
 | none=>rw[hg]at h;cases h
 | some t=>exact(List.getElem?_eq_some_iff.1 hg).1
theorem LV{s:ByteArray}:∀ {k:Nat},k≤s.size→(B0 s k).Line=1+(((s.data.toList.take k).count 10:Nat):Int)
 | 0,_=>by simp[B0]
 | k+1,h=>by
  have ih:=LV (s:=s) (k:=k) (by omega)
  have hk:k<s.data.toList.length:=by rw[show s.data.toList.length=s.size from by simp];omega
  obtain⟨b,hb⟩:∃b,s.data.toList[k]? = some b:=⟨_,List.getElem?_eq_getElem hk⟩
  have hB:A3 s k=((b.toNat:Nat):Int):=by
   show ((s.data.toList.getD k 0).toNat:Int)=_
   rw[List.getD_eq_getElem?_getD,hb];rfl
  rw[List.take_add_one,hb];by_cases h1:b=10
  ·subst h1;rw[BV (by rw[hB];rfl)]
   simp[ih];omega
  ·have h2:A3 s k≠10:=by
    rw[hB];intro h2;exact h1 (UInt8.toNat_inj.1 (by simpa using (show b.toNat=10 by omega)))
   have:=W1 (s:=s) (off:=k) 1 (fun i hi=>by
    have:i=0:=by omega
    subst this;exact h2)
   rw[this];simp[ih,h1]
theorem Qf{s:ByteArray}{k:Nat}(h:∀i,k≤i→i<s.size→A3 s i≠10)(hk:k≤s.size):(B0 s s.size).Col=(B0 s k).Col+((s.size-k:Nat):Int):=by
 have:=W1 (s:=s) (off:=k) (s.size-k) (fun i hi=>h _ (by omega) (by omega))
 rw[show k+(s.size-k)=s.size by omega]at this
 rw[this]
def C0(s:ByteArray):C8:=B0 s s.size
theorem Oy(s:ByteArray)(hs:s.size≤4611686018427387904)(w:World):Calls Tryz.prog 85 #[.string s,.int .u8 10] w fun e w'=>e=.returned (.int .i64 ((s.size:Int)-(C0 s).Col))∧w'=w:=by
 refine A4 Tryz.func85 rfl rfl ?_
 refine A7 ?_;refine C1 (fun μ ρ w'=>∃(i:Int) (k:Nat),i+1=k∧μ=k∧k≤s.size∧Has ρ [(0,.string s),(1,.int .u8 10),(5,.int .i64 i)]∧(∀j,k≤j→j<s.size→A3 s j≠10)∧w'=w) s.size ⟨(s.size:Int)-1,s.size,by omega,rfl,Nat.le_refl _,⟨rfl,rfl,rfl,trivial⟩,fun j h1 h2=>by omega,rfl⟩ ?_
 rintro μ ρ w' ⟨i,k,hik,rfl,hk,hρ,hno,rfl⟩
 rw[hρ.eq];refine A7 ?_;refine A0 rfl (fun h=>?_) (fun h=>?_)
 ·have h:0≤i:=of_decide_eq_true h
  refine A7 ?_;have hi:i.toNat+1=μ:=by omega
  refine A0 rfl (fun h2=>?_) (fun h2=>?_)
  ·have h2:A3 s i.toNat=10:=of_decide_eq_true h2
   refine A7 ?_;refine⟨_,rfl,?_,rfl⟩
   have h3:=Qf (s:=s) (k:=μ) hno hk
   have h4:=BV h2
   rw[hi]at h4;rw[h4]at h3;unfold C0;rw[h3];show Ending.returned (.int .i64 i)=_
   congr 2;dsimp;omega
  ·have h2:¬A3 s i.toNat=10:=of_decide_eq_false h2
   refine A7 ?_;refine⟨i.toNat,by omega,i-1,i.toNat,by omega,rfl,by omega,⟨rfl,rfl,rfl,trivial⟩,fun j h3 h4=>?_,rfl⟩
   by_cases e:j=i.toNat
   ·subst e;exact h2
   ·exact hno j (by omega) h4
 ·have h:¬0≤i:=of_decide_eq_false h
  refine A7 ?_;refine⟨_,rfl,?_,rfl⟩
  have h3:=Qf (s:=s) (k:=0) (fun j h1 h2=>hno j (by omega) h2) (by omega)
  unfold C0;rw[h3];show Ending.returned (.int .i64 (-1))=_
  congr 2;simp[B0];omega
theorem ND(s:ByteArray)(c:Int)(w:World):(callFunc 87 #[.string s,.int .u8 c]).run Tryz.prog w=.ok (.value (.int .i64 (Go.Lib.countByte s.data.toList c.toNat.toUInt8))) w:=by
 rw[run_callFunc_extern Tryz.func87 (by kernel_rfl) (by kernel_rfl) (e:=Extern.BytealgCount.count) (by kernel_rfl) (by kernel_rfl),Go.Lib.run_countString]
 rfl
theorem Fx(s:ByteArray):PC Tryz.prog 31 [.string s,.string ⟨#[10]⟩] (.int .i64 (s.data.toList.count 10:Nat)):=⟨fun w=>by
 refine A4 Tryz.func31 rfl rfl ?_
 refine A7 ?_;refine A0 rfl (fun h=>absurd h (by decide)) (fun _=>?_)
 refine A7 ?_;refine A0 rfl (fun _=>?_) (fun h=>absurd h (by decide))
 refine A7 ?_;refine lY (v:=.int .u8 10) ?_ (hy:=AX (s:=⟨#[10]⟩) (k:=.i64) (i:=0) rfl rfl (by decide) (by decide))
 refine A7 ?_;refine UF (vs:=[.string s,.int .u8 10]) (ND s 10) ?_
 refine A7 ?_;exact⟨_,rfl,rfl,rfl⟩⟩
theorem HQ(s:ByteArray)(hs:s.size≤4611686018427387904):PC Tryz.prog 30 [.string s,.int .u8 10] (.int .i64 ((s.size:Int)-(C0 s).Col)):=⟨fun w=>by
 have hL3:PC Tryz.prog 85 [.string s,.int .u8 10] (.int .i64 ((s.size:Int)-(C0 s).Col)):=⟨fun w=>Oy s hs w⟩
 refine A4 Tryz.func30 rfl rfl ?_
 refine A7 ?_;exact⟨_,rfl,rfl,rfl⟩⟩
theorem RI{P:Program}{Γ:C4}{S:List B5}{ρ:Fr}{w:World}{t T i b k:Nat}{cs:Array Value}{E:TypeId}{fr:Nat×Nat}{v:Value}[ha:TS P T](hw:Wd Γ S w)(hi:S[i]? = some (.blk b (.cells cs E fr)))(hx:ρ t=.pointer (some ⟨b,k,none⟩))(hv:cs[k]? = some v):OR P ρ w (.cell t T) v:=by
 refine⟨_,hx,?_⟩
 have hc:=cell_of (hw.at_blk hi) hv
 simp[loadVar,Cd ha.h,hc,go_sem]
theorem AO{s:ByteArray}:∀ {f off:Nat} {acc:List Tok},off≤s.size→(O4 s f off acc).1.length≤acc.length+(s.size-off)
 | 0,off,acc,h=>by simp[O4]
 | f+1,off,acc,h=>by
  unfold O4;split
  ·simp
  ·rename_i h1
   split
   ·have:=AO (s:=s) (f:=f) (off:=off+1) (acc:=acc) (by omega)
    omega
   ·split
    ·have h2:off≤AQ s off∧AQ s off≤s.size:=by
      unfold AQ;have:(((H6 s).drop off).takeWhile fun b=>decide ((b.toNat:Int)≠10)).length≤((H6 s).drop off).length:=(List.takeWhile_sublist _).length_le
      rw[List.length_drop,K9]at this;omega
     have:=AO (s:=s) (f:=f) (off:=AQ s off) (acc:=acc) h2.2
     omega
    ·split
     ·rename_i h4
      have hsz:(D7 s off s.size).size=s.size-off:=O7 (Nat.le_refl _)
      obtain⟨a1,a2,-⟩:=Oi (s:=D7 s off s.size) (by omega) h4
      have:=AO (s:=s) (f:=f) (off:=off+(J1 (D7 s off s.size)).n) (acc:=acc++[⟨(J1 (D7 s off s.size)).kind,(J1 (D7 s off s.size)).text,(J1 (D7 s off s.size)).value,(B0 s off).Line,(B0 s off).Col⟩]) (by omega)
      simp at this;omega
     ·simp
theorem HH{s:ByteArray}:(C7 s).1.length≤65536:=by
 unfold C7;split
 ·simp
 ·have:=AO (s:=s) (f:=s.size+1) (off:=0) (acc:=[]) (by omega)
  simp at this;omega
class z8(Γ:C4)(a:Option Addr)(n c:Nat)(toks:outParam (List Tok)):Prop where
 h:D6 Γ (.slice a n c) 5 (toks.map enc)
 big:n≤1000000
theorem z8.len{Γ:C4}{a:Option Addr}{n c:Nat}{toks:List Tok}(h:z8 Γ a n c toks):n=toks.length∧n≤c∧c≤9223372036854775807:=by
 obtain⟨_,_,_,h1,h2,h3⟩:=h.h.shape;cases h1
 exact⟨by simpa using h2,h3⟩
theorem z8.mono{Γ Γ':C4}{a:Option Addr}{n c:Nat}{toks:List Tok}(h:z8 Γ a n c toks)(hle:Γ.le Γ'):z8 Γ' a n c toks:=⟨h.h.mono hle,h.big⟩
def F8(toks:List Tok)(k:Nat)(kind:Int):Bool:=match toks[k]? with|some t=>decide (t.Kind=kind)|none=>false
class SZ(s:ByteArray):Prop where h:s.size≤4611686018427387904
end Go.Proofs.YtlmiakjbogojgaaGreatDoor
end
