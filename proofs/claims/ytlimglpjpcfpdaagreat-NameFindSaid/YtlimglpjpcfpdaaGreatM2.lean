/- Texts of this proof, one behind another. -/
import Derived.Test.YtlimglpjpcfpdaaGreatM1
import Derived.RangeFuncRecord
import Derived.Maps.RangeRun
import Derived.Shelf.SlSortCmp.NoneTotal
import Derived.Shelf.SlMaps.Clone
import Derived.Defers
import Derived.Recover
import Derived.WalkSmall
import Derived.Scope
import Derived.Test.YtlimglpjpcfpdaaGreatChecked
import Derived.Shelf.SlLaysF0
import Derived.Shelf.SlLaysF
set_option linter.unusedVariables false
set_option linter.unusedSimpArgs false
section
open Go
namespace Mk
def D6:List Nat→Fr→Fr→Fr
 | [],_,ρ=>ρ
 | d::N,g,ρ=>upd (D6 N g ρ) d (g d)
theorem J7{d:Nat}{g ρ:Fr}:∀ {N:List Nat},d∈N→D6 N g ρ d=g d
 | e::N,h=>by
  by_cases he:d=e
  ·subst he;exact upd_same _ _ _
  ·exact(upd_ne _ _ he).trans (J7 ((List.mem_cons.1 h).resolve_left he))
theorem CX{d:Nat}{g ρ:Fr}:∀ {N:List Nat},d∉N→D6 N g ρ d=ρ d
 | [],_=>rfl
 | e::N,h=>(upd_ne _ _ (fun he=>h (by simp[he]))).trans (CX fun hm=>h (by simp[hm]))
def C6:Fr:=fun _=>undef
structure Mt where
 ρ:Fr
 M:Nat→Fr→List A7
structure Mc where
 x:Value
 m:Nat→Fr→List A7
structure O4 where
 P:Program
 n:Nat
 ops:List Oper
 Γ:B8
 K:List A7
 wr:List (List Nat)
 tc:List (List Nat)
 stab:List (List Nat)
 fixed:Bool
section
variable (V:O4)
def O4.w(i:Nat):List Nat:=V.wr.getD i []
def O4.t(i:Nat):List Nat:=V.tc.getD i []
def O4.s(x:Nat):List Nat:=V.stab.getD x []
def O4.N:List Nat:=V.stab.flatten
def O4.free(o:Oper):Bool:=match o.dst with|some d=>V.N.contains d|none=>true
def O4.rl(Γ Γ':B8):Prop:=match V.fixed with|true=>Γ'=Γ|false=>Γ.le Γ'
def cellsOf(l:List Nat)(M:Nat→Fr→List A7)(g:Fr):List A7:=l.flatMap fun x=>M x (D6 (V.s x) g C6)
def Mt.nxt(i:Nat)(st:Mt)(c:Mc):Nat→Fr→List A7:=fun x=>bif (V.w i).contains x then c.m x else st.M x
def Mt.next(i:Nat)(st:Mt)(o:Oper)(c:Mc):Mt:=⟨C3 st.ρ o.dst c.x,Mt.nxt V i st c⟩
structure OK(i:Nat)(o:Oper)(st:Mt)(c:Mc):Prop where
 run:∀Γ' Y w g,V.rl V.Γ Γ'→Wd Γ' (V.K++(cellsOf V (V.t i) st.M g++Y)) w →
  (R6 V.ops o (D6 V.N g st.ρ)=true→Step V.P o (D6 V.N g st.ρ) w fun v w'=>∃Γ'',V.rl Γ' Γ''∧Wd Γ'' (V.K++(cellsOf V (V.t i) (Mt.nxt V i st c) (C3 g o.dst v)++Y)) w'∧(V.free o=false→v=c.x)) ∧
  (R6 V.ops o (D6 V.N g st.ρ)=false→Wd Γ' (V.K++(cellsOf V (V.t i) (Mt.nxt V i st c) (C3 g o.dst undef)++Y)) w∧(V.free o=false→undef=c.x))
def DD(Q:Fr→World→Prop)(st:Mt):Prop:=∀Γ' w g,V.rl V.Γ Γ'→Wd Γ' (V.K++cellsOf V (List.range V.stab.length) st.M g) w→Q (D6 V.N g st.ρ) w
def MSw(Q:Fr→World→Prop):Nat→List Oper→Mt→Prop
 | _,[],st=>DD V Q st
 | i,o::l,st=>∃c,OK V i o st c∧MSw Q (i+1) l (Mt.next V i st o c)
end
def clash(wr tc:List (List Nat))(i j:Nat):Bool:=(wr.getD i []).any (fun x=>(tc.getD j []).contains x)||(wr.getD j []).any fun x=>(tc.getD i []).contains x
def dup:List Nat→Bool
 | []=>false
 | x::l=>l.contains x||dup l
def M4(n:Nat)(ops:List Oper)(wr tc stab:List (List Nat)):Bool:=
  let A:=DF [] ops
  (List.range ops.length).all fun j=>match ops[j]? with
    | none=>true
    | some oj=>(oj.after.toList.all fun e=>!Region.binds .any e||Nat.blt e.on j)&&Z1.okNoSel oj&&(match oj.guard with|some (g,_)=>((ops[g]?).bind (·.dst)).isSome|none=>true)&&E4 n oj.dst &&
      ((wr.getD j []).all fun x=>(tc.getD j []).contains x)&&((tc.getD j []).all fun x=>Nat.blt x stab.length) && !dup (tc.getD j []) &&
      (match oj.dst with|some d=>(List.range stab.length).all fun x=>!((stab.getD x []).contains d)||(wr.getD j []).contains x|none=>true) &&
      ((List.range j).all fun i=>match ops[i]? with
        | none=>true
        | some oi=>(Cv ops oi oj && !clash wr tc i j)||(A.getD j []).contains i)
def U2(V:O4)(Q:Fr→World→Prop):Nat→List Oper→List Mc→Mt→Prop
 | _,[],[],st=>DD V Q st
 | i,o::l,c::cs,st=>OK V i o st c∧U2 V Q (i+1) l cs (Mt.next V i st o c)
 | _,_,_,_=>False
theorem MSw.chain{V:O4}{Q:Fr→World→Prop}:∀(l:List Oper) (i:Nat) (st:Mt),MSw V Q i l st→∃cs,U2 V Q i l cs st
 | [],_,_,h=>⟨[],h⟩
 | _::l,i,st,⟨c,hg,h⟩=>by
  obtain⟨cs,hc⟩:=MSw.chain l (i+1) _ h
  exact⟨c::cs,hg,hc⟩
def H8(V:O4):List Oper→List Mc→Nat→Mt→Nat→Mt
 | o::l,c::cs,i,st,k+1=>H8 V l cs (i+1) (Mt.next V i st o c) k
 | _,_,_,st,_=>st
section
variable {V:O4}{Q:Fr→World→Prop}
theorem O4.rl_refl(Γ:B8):V.rl Γ Γ:=by unfold O4.rl;cases V.fixed <;> first|rfl|exact B8.le.refl _
theorem O4.rl_trans{a b c:B8}(h:V.rl a b)(k:V.rl b c):V.rl a c:=by
 unfold O4.rl at *;cases hf:V.fixed <;> simp only[hf] at * <;> first|exact k.trans h|exact B8.le.trans h k
theorem U2.good:∀ {l:List Oper} {i:Nat} {cs:List Mc} {st:Mt} (k:Nat) {o:Oper},U2 V Q i l cs st→l[k]? = some o→∃c,cs[k]? = some c∧OK V (i+k) o (H8 V l cs i st k) c
 | o'::l,i,c::cs,st,0,o,h,ho=>by
  simp at ho;subst ho
  exact⟨c,rfl,h.1⟩
 | o'::l,i,c::cs,st,k+1,o,h,ho=>by
  obtain⟨c',h1,h2⟩:=U2.good k h.2 (by simpa using ho)
  refine⟨c',by simpa using h1,?_⟩
  rw[show i+(k+1)=i+1+k from by omega]
  exact h2
 | [],_,_,_,_,_,_,ho=>by simp at ho
 | _::_,_,[],_,_,_,h,_=>h.elim
theorem U2.final:∀ {l:List Oper} {i:Nat} {cs:List Mc} {st:Mt},U2 V Q i l cs st→DD V Q (H8 V l cs i st l.length)
 | [],_,[],_,h=>h
 | o::l,i,c::cs,st,h=>by
  have:=U2.final (l:=l) (cs:=cs) h.2
  simpa[H8] using this
 | [],_,_::_,_,h=>h.elim
 | _::_,_,[],_,h=>h.elim
theorem Q3:∀ {l:List Oper} {cs:List Mc} {i:Nat} {st:Mt} {k:Nat} {o:Oper} {c:Mc},l[k]? = some o→cs[k]? = some c→H8 V l cs i st (k+1)=Mt.next V (i+k) (H8 V l cs i st k) o c
 | o'::l,c'::cs,i,st,0,o,c,ho,hc=>by
  simp at ho hc;subst ho;subst hc
  cases l <;> cases cs <;> rfl
 | o'::l,c'::cs,i,st,k+1,o,c,ho,hc=>by
  have:=Q3 (l:=l) (cs:=cs) (i:=i+1) (st:=Mt.next V i st o' c') (k:=k) (by simpa using ho) (by simpa using hc)
  rw[show i+(k+1)=i+1+k from by omega]
  exact this
 | [],_,_,_,_,_,_,ho,_=>by simp at ho
 | _::_,[],_,_,_,_,_,_,hc=>by simp at hc
theorem m0{l:List Oper}{cs:List Mc}{i:Nat}{st:Mt}:H8 V l cs i st 0=st:=by cases l <;> cases cs <;> rfl
structure MInv(V:O4)(st0:Mt)(cs:List Mc)(listed:Array Bool)(a:Act)(w:World)(done:List Nat)(Γ':B8):Prop where
 defers:a.defers=[]
 size:a.tmps.size=V.n
 lsz:listed.size=V.ops.length
 nd:done.Nodup
 lt:∀i∈done,i<V.ops.length
 ls:∀i,i<V.ops.length→(listed.getD i true=true↔i∈done)
 cl:Closed V.ops (·∈done)
 le:V.rl V.Γ Γ'
 init:∀t,t∉V.N→(∀i∈done,∀o,V.ops[i]? = some o→o.dst≠some t)→C4 a t=st0.ρ t
 last:∀i∈done,∀o t c,V.ops[i]? = some o→o.dst=some t→t∉V.N→cs[i]? = some c→(∀j∈done,∀o',V.ops[j]? = some o'→o'.dst=some t→j≤i)→C4 a t=c.x
 wd:∃p:Nat→Nat,(∀x,p x≤V.ops.length∧∀i,x∈V.w i→i<V.ops.length→(i∈done↔i<p x)) ∧
  Wd Γ' (V.K++(List.range V.stab.length).flatMap fun x=>(H8 V V.ops cs 0 st0 (p x)).M x (D6 (V.s x) (C4 a) C6)) w
theorem GG:∀ {l:List Nat},dup l=false→l.Nodup
 | [],_=>List.nodup_nil
 | x::l,h=>by
  simp only[dup,Bool.or_eq_false_iff]at h
  exact List.nodup_cons.2 ⟨by simpa using h.1,GG h.2⟩
theorem N0{n:Nat}{ops:List Oper}{wr tc stab:List (List Nat)}(h:M4 n ops wr tc stab=true){j:Nat}{oj:Oper}(hj:ops[j]? = some oj) :
  (∀e∈oj.after,Region.binds .any e=true→e.on<j)∧(∀cs b,oj.op≠.select cs b)∧(∀g want,oj.guard=some (g,want)→∃d,(ops[g]?).bind (·.dst)=some d)∧E4 n oj.dst=true ∧
  (∀x∈wr.getD j [],x∈tc.getD j [])∧(∀x∈tc.getD j [],x<stab.length)∧(tc.getD j []).Nodup∧(∀d x,oj.dst=some d→d∈stab.getD x []→x∈wr.getD j []) ∧
  ∀i oi,i<j→ops[i]? = some oi→(Cv ops oi oj=true∧clash wr tc i j=false)∨i∈(DF [] ops).getD j []:=by
 have hlt:j<ops.length:=(List.getElem?_eq_some_iff.1 hj).1
 unfold M4 at h;simp only[List.all_eq_true,List.mem_range]at h
 have h1:=h j hlt
 simp only[hj,Bool.and_eq_true]at h1
 obtain⟨⟨⟨⟨⟨⟨⟨⟨h2,h3⟩,h4⟩,h6⟩,h7⟩,h8⟩,h9⟩,h10⟩,h5⟩:=h1;refine⟨fun e he hb=>?_,fun c b hs=>?_,fun g want hg=>?_,h6,fun x hx=>?_,fun x hx=>?_,GG (by simpa using h9),fun d x hd hx=>?_,fun i oi hi ho=>?_⟩
 ·have:=(List.all_eq_true.1 h2) e (by simpa using he)
  rw[hb]at this;simp at this;omega
 ·unfold Z1.okNoSel at h3;rw[hs]at h3;simp at h3
 ·rw[hg]at h4;exact Option.isSome_iff_exists.1 h4
 ·simpa using (List.all_eq_true.1 h7) x hx
 ·exact Nat.le_of_ble_eq_true ((List.all_eq_true.1 h8) x hx)
 ·rw[hd]at h10;by_cases hl:x<stab.length
  ·have:=(List.all_eq_true.1 h10) x (List.mem_range.2 hl)
   simp[hx]at this
   exact(this.resolve_left (fun h=>h hx))
  ·rw[List.getD_eq_getElem?_getD,List.getElem?_eq_none (by omega)]at hx;simp at hx
 ·have:=(List.all_eq_true.1 h5) i (List.mem_range.2 hi)
  simp only[ho,Bool.and_eq_true,Bool.or_eq_true]at this
  exact this.imp (fun h=>⟨h.1,by simpa using h.2⟩) (fun h=>by simpa using h)
theorem EN{wr tc:List (List Nat)}{i j x:Nat}(h:clash wr tc i j=false)(h1:x∈wr.getD i [])(h2:x∈tc.getD j []):False:=by
 simp only[clash,Bool.or_eq_false_iff]at h
 have:=List.any_eq_false.1 h.1 x h1
 exact this (by simpa using h2)
theorem LG{wr tc:List (List Nat)}{i j x:Nat}(h:clash wr tc i j=false)(h1:x∈tc.getD i [])(h2:x∈wr.getD j []):False:=by
 simp only[clash,Bool.or_eq_false_iff]at h
 have:=List.any_eq_false.1 h.2 x h2
 exact this (by simpa using h1)
section
variable {st0:Mt}{cs:List Mc}{listed:Array Bool}{a:Act}{w:World}{done:List Nat}{Γ':B8}
theorem Gt(hc:U2 V Q 0 V.ops cs st0){t j:Nat}:∀(m:Nat),j+m≤V.ops.length→(∀i,j≤i→i<j+m→∀o,V.ops[i]? = some o→o.dst≠some t)→(H8 V V.ops cs 0 st0 (j+m)).ρ t=(H8 V V.ops cs 0 st0 j).ρ t
 | 0,_,_=>rfl
 | m+1,hl,hn=>by
  have ih:=Gt hc m (by omega) (fun i h1 h2=>hn i h1 (by omega))
  have ho:V.ops[j+m]? = some V.ops[j+m]:=List.getElem?_eq_getElem (by omega)
  obtain⟨c,h1,_⟩:=hc.good (j+m) ho
  rw[←Nat.add_assoc,Q3 ho h1,←ih];have hne:=hn (j+m) (by omega) (by omega) _ ho
  simp only[Mt.next]
  cases hd:(V.ops[j+m]).dst with
  | none=>rfl
  | some d=>exact upd_ne _ _ (fun e=>hne (by rw[hd,e]))
theorem MInv.sat_at(hc:U2 V Q 0 V.ops cs st0)(inv:MInv V st0 cs listed a w done Γ'){k t:Nat}(hN:t∉V.N)(hk:k≤V.ops.length)(h1:∀j,j<k→∀o,V.ops[j]? = some o→o.dst=some t→j∈done)
  (h2:∀j∈done,∀o,V.ops[j]? = some o→o.dst=some t→j<k):C4 a t=(H8 V V.ops cs 0 st0 k).ρ t:=by
 rcases X8 (fun j=>∃o,V.ops[j]? = some o∧o.dst=some t) k with hn|⟨j,hj,⟨o,ho,hd⟩,hlast⟩
 ·have:=Gt (j:=0) (t:=t) hc k (by omega) (fun i _ hi o ho hd=>hn i (by omega) ⟨o,ho,hd⟩)
  rw[Nat.zero_add,m0]at this;rw[this];exact inv.init t hN fun i hi o ho hd=>hn i (h2 i hi o ho hd) ⟨o,ho,hd⟩
 ·have hin:=h1 j hj o ho hd
  obtain⟨c,hcj,hg⟩:=hc.good j ho
  have hval:=inv.last j hin o t c ho hd hN hcj fun i hi o' ho' hd'=>by
   have:=h2 i hi o' ho' hd'
   rcases Nat.lt_or_ge j i with h|h
   ·exact absurd ⟨o',ho',hd'⟩ (hlast i h this)
   ·exact h
  have hs:(H8 V V.ops cs 0 st0 (j+1)).ρ t=c.x:=by
   rw[Q3 ho hcj];simp only[Mt.next,hd]
   exact upd_same _ _ _
  have:=Gt (j:=j+1) (t:=t) hc (k-(j+1)) (by omega) (fun i h3 h4 o' ho' hd'=>hlast i (by omega) (by omega) ⟨o',ho',hd'⟩)
  rw[show j+1+(k-(j+1))=k from by omega]at this
  rw[hval,this,hs]
theorem CP(hc:U2 V Q 0 V.ops cs st0){p x:Nat}:∀(m:Nat),p+m≤V.ops.length→(∀j,p≤j→j<p+m→x∉V.w j)→(H8 V V.ops cs 0 st0 (p+m)).M x=(H8 V V.ops cs 0 st0 p).M x
 | 0,_,_=>rfl
 | m+1,hl,hn=>by
  have ih:=CP hc m (by omega) (fun i h1 h2=>hn i h1 (by omega))
  have ho:V.ops[p+m]? = some V.ops[p+m]:=List.getElem?_eq_getElem (by omega)
  obtain⟨c,h1,hg⟩:=hc.good (p+m) ho
  rw[←Nat.add_assoc,Q3 ho h1,←ih];have:=hn (p+m) (by omega) (by omega)
  simp[Mt.next,Mt.nxt,this]
theorem BH{g g' ρ:Fr}:∀ {N:List Nat},(∀t∈N,g t=g' t)→D6 N g ρ=D6 N g' ρ
 | [],_=>rfl
 | d::N,h=>by
  simp only[D6]
  rw[h d (by simp),BH (N:=N) fun t ht=>h t (by simp[ht])]
theorem MInv.step{i:Nat}{QQ:Exit→Act→World→Prop}(hc:U2 V Q 0 V.ops cs st0)(hk:M4 V.n V.ops V.wr V.tc V.stab=true)(inv:MInv V st0 cs listed a w done Γ')
  (hr:i∈Region.ready .any V.ops.toArray listed):wpOp V.P V.ops.toArray QQ i (fun a' w'=>∃done' Γ'',MInv V st0 cs (listed.setIfInBounds i true) a' w' done' Γ''∧done'.length=done.length+1) a w∧i∉done:=by
 obtain⟨hun,o,hoa,hall⟩:=mem_ready.1 hr
 have ho:V.ops[i]? = some o:=by simpa using hoa
 have hil:i<V.ops.length:=(List.getElem?_eq_some_iff.1 ho).1
 have hni:i∉done:=fun h=>by rw[(inv.ls i hil).2 h]at hun;cases hun
 refine⟨?_,hni⟩
 obtain⟨c,hci,hg⟩:=hc.good i ho
 rw[Nat.zero_add]at hg;obtain⟨k1,k2,k3,kd,kw,kl,kn,ks,k4⟩:=N0 hk ho
 have hedges:∀e∈o.after,Region.binds .any e=true→e.on∈done:=fun e he hb=>by
  have h1:=hall e he hb
  have h2:=k1 e he hb
  have h3:e.on<listed.size:=by rw[inv.lsz];omega
  refine(inv.ls e.on (by omega)).1 ?_
  simp only[Array.getD_eq_getD_getElem?,Array.getElem?_eq_getElem h3,Option.getD_some]at h1 ⊢
  exact h1
 have hcl':Closed V.ops (·∈i::done):=fun j o' e hj ho' he hb=>by
  rcases List.mem_cons.1 hj with rfl|hj
  ·rw[ho]at ho';cases ho';exact List.mem_cons_of_mem _ (hedges e he hb)
  ·exact List.mem_cons_of_mem _ (inv.cl j o' e hj ho' he hb)
 have hanc:∀j,j∈(DF [] V.ops).getD i []→j∈i::done:=fun j hj=>T5 hcl' V.ops [] (by simp) (by simp) i j hj (by simp)
 have hanc2:∀j k,j∈(DF [] V.ops).getD k []→k∈done→j∈done:=fun j k hj hk=>T5 inv.cl V.ops [] (by simp) (by simp) k j hj hk
 have hsat:∀t∈looks V.ops o,t∉V.N→C4 a t=(H8 V V.ops cs 0 st0 i).ρ t:=fun t ht hN=>inv.sat_at hc hN (Nat.le_of_lt hil) (fun j hj oj hoj hdj=>by
   rcases k4 j oj hj hoj with h|h
   ·exact absurd ht ((M1 h.1).1 t hdj).1
   ·rcases List.mem_cons.1 (hanc j h) with h|h
    ·omega
    ·exact h) (fun j hj oj hoj hdj=>by
   rcases Nat.lt_or_ge j i with h|h
   ·exact h
   ·rcases Nat.eq_or_lt_of_le h with h|h
    ·subst h;exact absurd hj hni
    ·obtain⟨_,_,_,_,_,_,_,_,q4⟩:=N0 hk hoj
     rcases q4 i o h ho with h'|h'
     ·exact absurd ht ((M1 h'.1).2 t hdj)
     ·exact absurd (hanc2 i j h' hj) hni)
 have hlook:∀t∈looks V.ops o,C4 a t=D6 V.N (C4 a) (H8 V V.ops cs 0 st0 i).ρ t:=fun t ht=>by
  by_cases hN:t∈V.N
  ·rw[J7 hN]
  ·rw[CX hN];exact hsat t ht hN
 obtain⟨p,hp,hwd⟩:=inv.wd;have htc:∀x∈V.t i,(H8 V V.ops cs 0 st0 i).M x=(H8 V V.ops cs 0 st0 (p x)).M x:=fun x hx=>by
  rcases Nat.lt_or_ge i (p x) with hlt|hge
  ·
   have:=CP hc (p:=i) (x:=x) (p x-i) (by have:=(hp x).1;omega) (fun j h1 h2 hj=>by
    have hjl:j<V.ops.length:=by have:=(hp x).1;omega
    have hjd:=((hp x).2 j hj hjl).2 (by omega)
    have hoj:V.ops[j]? = some V.ops[j]:=List.getElem?_eq_getElem hjl
    rcases Nat.eq_or_lt_of_le h1 with h|h
    ·subst h;exact hni hjd
    ·obtain⟨_,_,_,_,_,_,_,_,q4⟩:=N0 hk hoj
     rcases q4 i o h ho with h'|h'
     ·exact LG h'.2 hx hj
     ·exact hni (hanc2 i j h' hjd))
   rw[show i+(p x-i)=p x from by omega]at this
   exact this.symm
  ·have:=CP hc (p:=p x) (x:=x) (i-p x) (by omega) (fun j h1 h2 hj=>by
    have hoj:V.ops[j]? = some V.ops[j]:=List.getElem?_eq_getElem (by omega)
    rcases k4 j _ (by omega) hoj with h|h
    ·exact EN h.2 hj hx
    ·rcases List.mem_cons.1 (hanc j h) with h|h
     ·omega
     ·have:=((hp x).2 j hj (by omega)).1 h;omega)
   rwa [show p x+(i-p x)=i from by omega]at this
 let rest:=(List.range V.stab.length).filter fun x=>!(V.t i).contains x
 have hperm:(List.range V.stab.length).Perm (V.t i++rest):=by
  refine(List.perm_ext_iff_of_nodup List.nodup_range ?_).2 fun x=>?_
  ·refine List.nodup_append.2 ⟨kn,List.nodup_range.filter _,fun x hx y hy hxy=>?_⟩
   subst hxy;have:=(List.mem_filter.1 hy).2
   simp at this;exact this hx
  ·simp only[List.mem_append,List.mem_range,rest,List.mem_filter]
   constructor
   ·intro h;by_cases hx:x∈V.t i
    ·exact .inl hx
    ·exact .inr ⟨h,by simpa using hx⟩
   ·rintro (h|h)
    ·exact kl x h
    ·exact h.1
 have hfm:∀F:Nat→List A7,((List.range V.stab.length).flatMap F).Perm ((V.t i).flatMap F++rest.flatMap F):=fun F=>by
  rw[←List.flatMap_append];exact List.Perm.flatMap_right _ hperm
 have hw1:Wd Γ' (V.K++(cellsOf V (V.t i) (H8 V V.ops cs 0 st0 i).M (C4 a)++rest.flatMap fun x=>(H8 V V.ops cs 0 st0 (p x)).M x (D6 (V.s x) (C4 a) C6))) w:=by
  have:=hwd.perm (List.Perm.append_left V.K (hfm _))
  rwa [show cellsOf V (V.t i) (H8 V V.ops cs 0 st0 i).M (C4 a)=(V.t i).flatMap fun x=>(H8 V V.ops cs 0 st0 (p x)).M x (D6 (V.s x) (C4 a) C6) from F3 fun x hx=>by rw[htc x hx]]
 have hrun:=hg.run Γ' _ w (C4 a) inv.le hw1
 have next:∀v w' Γ'',V.rl Γ' Γ''→(V.free o=false→v=c.x)→Wd Γ'' (V.K++(cellsOf V (V.t i) (Mt.nxt V i (H8 V V.ops cs 0 st0 i) c) (C3 (C4 a) o.dst v)++rest.flatMap fun x=>(H8 V V.ops cs 0 st0 (p x)).M x (D6 (V.s x) (C4 a) C6))) w' →
   MInv V st0 cs (listed.setIfInBounds i true) (a.put o.dst v) w' (i::done) Γ'':=by
  intro v w' Γ'' hle he hwd';have hput:C4 (a.put o.dst v)=C3 (C4 a) o.dst v:=N8 a _ v (by rw[inv.size];exact G4 kd)
  refine⟨(G5 a _ v).trans inv.defers,(size_put a _ v).trans inv.size,by simpa using inv.lsz,List.nodup_cons.2 ⟨hni,inv.nd⟩,?_,?_,hcl',V.rl_trans inv.le hle,?_,?_,?_⟩
  ·intro j hj;rcases List.mem_cons.1 hj with rfl|hj
   ·exact hil
   ·exact inv.lt j hj
  ·intro j hj;by_cases hji:j=i
   ·subst hji;simp[inv.lsz,hil]
   ·rw[getD_set_ne true (Ne.symm hji),inv.ls j hj];simp[hji]
  ·intro t hN hn;rw[hput];have h1:o.dst≠some t:=hn i (by simp) o ho
   have:C3 (C4 a) o.dst v t=C4 a t:=by
    cases hd:o.dst with
    | none=>rfl
    | some d=>exact upd_ne _ _ (fun e=>h1 (by rw[hd,e]))
   rw[this];exact inv.init t hN fun j hj=>hn j (List.mem_cons_of_mem _ hj)
  ·intro j hj o' t c' ho' hd' hN hc' hmax;rw[hput];rcases List.mem_cons.1 hj with rfl|hj
   ·rw[ho]at ho';cases ho'
    rw[hci]at hc';cases hc'
    rw[hd',show C3 (C4 a) (some t) v t=v from upd_same _ _ _];exact he (by simp only[O4.free,hd'];simpa using hN)
   ·have hji:j≠i:=fun e=>hni (e ▸ hj)
    have h1:o.dst≠some t:=fun e=>by
     have hle':=hmax i (by simp) o ho e
     have hlt:i<j:=by omega
     obtain⟨_,_,_,_,_,_,_,_,q4⟩:=N0 hk ho'
     rcases q4 i o hlt ho with h|h
     ·exact((M1 h.1).1 t e).2 hd'
     ·exact hni (hanc2 i j h hj)
    have:C3 (C4 a) o.dst v t=C4 a t:=by
     cases hd:o.dst with
     | none=>rfl
     | some d=>exact upd_ne _ _ (fun e=>h1 (by rw[hd,e]))
    rw[this];exact inv.last j hj o' t c' ho' hd' hN hc' fun k hk'=>hmax k (List.mem_cons_of_mem _ hk')
  ·refine⟨fun x=>if x∈V.w i then i+1 else p x,fun x=>⟨?_,fun j hj hjl=>?_⟩,?_⟩
   ·show (if x∈V.w i then i+1 else p x)≤V.ops.length
    have:=(hp x).1
    split <;> omega
   ·by_cases hx:x∈V.w i
    ·simp only[hx,if_true]
     by_cases hji:j=i
     ·subst hji;simp
     ·simp only[List.mem_cons,hji,false_or]
      have hpi:p x≤i:=Nat.le_of_not_lt fun h=>hni (((hp x).2 i hx hil).2 h)
      rw[(hp x).2 j hj hjl];constructor
      ·intro h;omega
      ·intro h;refine((hp x).2 j hj hjl).1 ?_
       have hoj:V.ops[j]? = some V.ops[j]:=List.getElem?_eq_getElem hjl
       rcases k4 j _ (by omega) hoj with h'|h'
       ·exact absurd (EN h'.2 hj (kw x hx)) id
       ·rcases List.mem_cons.1 (hanc j h') with h'|h'
        ·omega
        ·exact h'
    ·have hji:j≠i:=fun e=>hx (e ▸ hj)
     simp only[hx,if_false,List.mem_cons,hji,false_or]
     exact(hp x).2 j hj hjl
   ·refine Wd.perm ?_ (List.Perm.append_left V.K (hfm _)).symm
    have e1:cellsOf V (V.t i) (Mt.nxt V i (H8 V V.ops cs 0 st0 i) c) (C3 (C4 a) o.dst v)=(V.t i).flatMap fun x=>(H8 V V.ops cs 0 st0 (if x∈V.w i then i+1 else p x)).M x (D6 (V.s x) (C4 (a.put o.dst v)) C6):=F3 fun x hx=>by
     rw[hput];by_cases hxw:x∈V.w i
     ·simp only[hxw,if_true]
      rw[Q3 ho hci,Nat.zero_add];rfl
     ·simp only[hxw,if_false,Mt.nxt]
      rw[←htc x hx];simp[hxw]
    have e2:(rest.flatMap fun x=>(H8 V V.ops cs 0 st0 (p x)).M x (D6 (V.s x) (C4 a) C6))=rest.flatMap fun x=>(H8 V V.ops cs 0 st0 (if x∈V.w i then i+1 else p x)).M x (D6 (V.s x) (C4 (a.put o.dst v)) C6):=F3 fun x hx=>by
     have hxt:x∉V.t i:=by have:=(List.mem_filter.1 hx).2;simpa using this
     have hxw:x∉V.w i:=fun h=>hxt (kw x h)
     simp only[hxw,if_false]
     rw[hput];congr 1
     refine BH fun t ht=>?_
     cases hd:o.dst with
     | none=>rfl
     | some d=>exact(upd_ne _ _ (fun e=>hxw (ks d x hd (by subst e;exact ht)))).symm
    rw[←e1,←e2];exact hwd'
 have hwant:Region.wanted o (yielded V.ops.toArray a.tmps)=R6 V.ops o (D6 V.N (C4 a) (H8 V V.ops cs 0 st0 i).ρ):=by
  unfold R6;cases hgd:o.guard with
  | none=>simp[Region.wanted,hgd]
  | some q=>
   obtain⟨j,want⟩:=q;obtain⟨dj,hdj⟩:=k3 j want hgd
   have hdn:dj<V.n:=by
    cases hoj:V.ops[j]? with
    | none=>simp[hoj]at hdj
    | some oj=>simp[hoj]at hdj;exact G4 ((N0 hk hoj).2.2.2.1) dj hdj
   simp only[hdj]
   rw[←hlook dj (List.mem_append_right _ (by simp only[hgd];simpa using hdj))]
   exact Y1 o V.ops.toArray a j want hgd dj (by simpa using hdj) (by rw[inv.size];exact hdn)
 unfold wpOp;simp only[hoa,hwant]
 have hsel:f7 o=true:=by
  unfold f7;split
  ·rename_i h;exact absurd h (k2 _ _)
  ·rfl
 cases hwt:R6 V.ops o (D6 V.N (C4 a) (H8 V V.ops cs 0 st0 i).ρ) with
 | true=>
  simp only[if_true]
  have hst:=(hrun.1 hwt).congr (ops:=V.ops) hsel hlook
  exact .inl (Step.wp hst fun v w' ⟨Γ'',h1,h2,h3⟩=>⟨_,_,next v w' Γ'' h1 h3 h2,by simp⟩)
 | false=>
  obtain⟨h1,h2⟩:=hrun.2 hwt
  exact⟨_,_,next undef w Γ' (V.rl_refl _) h2 h1,by simp⟩
theorem MInv.fin(hc:U2 V Q 0 V.ops cs st0)(inv:MInv V st0 cs listed a w done Γ')(hall:∀i,i<V.ops.length→i∈done):Q (C4 a) w:=by
 have hfin:=hc.final
 obtain⟨p,hp,hwd⟩:=inv.wd;have hρ:C4 a=D6 V.N (C4 a) (H8 V V.ops cs 0 st0 V.ops.length).ρ:=by
  funext t
  by_cases hN:t∈V.N
  ·rw[J7 hN]
  ·rw[CX hN];exact inv.sat_at hc hN (Nat.le_refl _) (fun j hj _ _ _=>hall j hj) (fun j hj _ _ _=>inv.lt j hj)
 rw[hρ];refine hfin Γ' w (C4 a) inv.le ?_
 have:cellsOf V (List.range V.stab.length) (H8 V V.ops cs 0 st0 V.ops.length).M (C4 a)=(List.range V.stab.length).flatMap fun x=>(H8 V V.ops cs 0 st0 (p x)).M x (D6 (V.s x) (C4 a) C6):=F3 fun x _=>by
  have:=CP hc (p:=p x) (x:=x) (V.ops.length-p x) (by have:=(hp x).1;omega) (fun j h1 h2 hj=>by
   have hjl:j<V.ops.length:=by have:=(hp x).1;omega
   have:=((hp x).2 j hj hjl).1 (hall j hjl)
   omega)
  rw[show p x+(V.ops.length-p x)=V.ops.length from by have:=(hp x).1;omega]at this
  rw[this]
 rw[this];exact hwd
theorem Z8(hk:M4 V.n V.ops V.wr V.tc V.stab=true)(inv:MInv V st0 cs listed a w done Γ')(h:Region.ready .any V.ops.toArray listed=[]):∀i,i<V.ops.length→i∈done:=by
 intro i;induction i using Nat.strongRecOn with
 | _ i ih=>
  intro hi;refine Classical.byContradiction fun hn=>?_
  have hmem:i∈Region.ready .any V.ops.toArray listed:=mem_ready.2 ⟨?_,V.ops[i],by simp[hi],fun e he hb=>?_⟩
  ·rw[h]at hmem;cases hmem
  ·cases hb:listed.getD i true with
   | false=>rfl
   | true=>exact absurd ((inv.ls i hi).1 hb) hn
  ·have h1:=(N0 hk (List.getElem?_eq_getElem hi)).1 e he hb
   have h2:=(inv.ls e.on (by omega)).2 (ih e.on h1 (by omega))
   have h3:e.on<listed.size:=by rw[inv.lsz];omega
   simp only[Array.getD_eq_getD_getElem?,Array.getElem?_eq_getElem h3,Option.getD_some]at h2 ⊢
   exact h2
theorem MInv.any{QQ:Exit→Fr→World→Prop}(hc:U2 V (fun ρ w=>QQ .normal ρ w) 0 V.ops cs st0)(hk:M4 V.n V.ops V.wr V.tc V.stab=true) :
  ∀(fuel:Nat) (listed:Array Bool) (a:Act) (w:World) (done:List Nat) (Γ':B8),MInv V st0 cs listed a w done Γ'→fuel+done.length=V.ops.length→wpAny V.P .any V.ops.toArray (lift V.n QQ) fuel listed a w
 | 0,listed,a,w,done,Γ',inv,hf=>by
  have hall:∀i,i<V.ops.length→i∈done:=by
   intro i hi;refine Classical.byContradiction fun hn=>?_
   have:=AP V.ops.length (i::done) (List.nodup_cons.2 ⟨hn,inv.nd⟩) (fun x hx=>by
    rcases List.mem_cons.1 hx with rfl|hx
    ·exact hi
    ·exact inv.lt x hx)
   simp at this;omega
  refine⟨?_,inv.defers,inv.size,inv.fin hc hall⟩
  refine List.eq_nil_iff_forall_not_mem.2 fun i hi=>?_
  obtain⟨hun,o,ho,_⟩:=mem_ready.1 hi
  have hil:i<V.ops.length:=by have:=(Array.getElem?_eq_some_iff.1 ho).1;simpa using this
  rw[(inv.ls i hil).2 (hall i hil)]at hun;cases hun
 | fuel+1,listed,a,w,done,Γ',inv,hf=>by
  refine⟨fun h=>⟨inv.defers,inv.size,inv.fin hc (Z8 hk inv h)⟩,fun i hi=>?_⟩
  refine wpOp_mono ?_ (inv.step hc hk hi).1
  rintro a' w' ⟨done',Γ'',inv',hl⟩
  exact MInv.any hc hk fuel _ a' w' done' Γ'' inv' (by omega)
end
end
theorem OE{P:Program}{n id:Nat}{l:List Oper}{Q:Exit→Fr→World→Prop}{ρ:Fr}{w:World}{Γ:B8}(K:List A7)(M:Nat→Fr→List A7)(wr tc stab:List (List Nat))(fixed:Bool)(hm:P.follows .mixedOrders=true)
  (hk:M4 n l wr tc stab=true) (hw:Wd Γ (K++cellsOf ⟨P,n,l,Γ,K,wr,tc,stab,fixed⟩ (List.range stab.length) M ρ) w) (h:MSw ⟨P,n,l,Γ,K,wr,tc,stab,fixed⟩ (fun ρ w=>Q .normal ρ w) 0 l ⟨ρ,M⟩):W P n (.region id l.toArray true) Q ρ w:=by
 unfold W;intro a hda hs hf;refine wp_region_any hm ?_
 obtain⟨cs,hc⟩:=h.chain;have inv:MInv ⟨P,n,l,Γ,K,wr,tc,stab,fixed⟩ ⟨ρ,M⟩ cs (Array.replicate l.toArray.size false) a { w with drawn:=w.drawn+1 } [] Γ:=by
  refine⟨hda,hs,by simp,by simp,by simp,fun i hi=>?_,fun _ _ _ h=>by simp at h,O4.rl_refl _,fun t _ _=>by rw[hf],by simp,fun _=>0,fun x=>⟨Nat.zero_le _,by simp⟩,?_⟩
  ·have:i<l.length:=hi
   simp[this]
  ·simp only[m0,hf]
   exact hw.drawn
 exact MInv.any hc hk _ _ a _ [] Γ inv (by simp)
def O9(Γ:B8)(S:List A7)(v:Value)(sz:Nat)(rows:List (List Value)):Prop:=
 ∃a n c,v=.slice a n c∧n=rows.length∧n≤c∧c≤9223372036854775807∧∀w,Wd Γ S w→Rd w a sz rows
section
variable {P:Program}{Γ:B8}{S:List A7}{w:World}{sz e:Nat}{rows:List (List Value)}{v:Value}
theorem D3.rdS(h:D3 Γ v sz rows):O9 Γ S v sz rows:=by
 obtain⟨a,n,c,rfl,h1,h2,h3⟩:=h.shape;exact⟨a,n,c,rfl,h1,h2,h3,fun w hw=>h.rd hw⟩
theorem O9.own{w0:World}{i:Nat}(hw:Wd Γ S w0)(hi:S[i]? = some (.own v e sz rows)):O9 Γ S v sz rows:=by
 obtain⟨a,n,c,rfl,h1,h2,h3⟩:=hw.own_shape hi
 exact⟨a,n,c,rfl,h1,h2,h3,fun w hw=>hw.own_rd hi⟩
theorem O9.ownI{a:Option Addr}{n c i:Nat}(hi:S[i]? = some (.own (.slice a n c) e sz rows))(h1:n=rows.length)(h2:n≤c)(h3:c≤9223372036854775807):O9 Γ S (.slice a n c) sz rows:=
 ⟨a,n,c,rfl,h1,h2,h3,fun w hw=>hw.own_rd hi⟩
theorem O9.shape(h:O9 Γ S v sz rows):∃a n c,v=.slice a n c∧n=rows.length∧n≤c∧c≤9223372036854775807:=by
 obtain⟨a,n,c,h1,h2,h3,h4,_⟩:=h;exact⟨a,n,c,h1,h2,h3,h4⟩
theorem O9.rd{a:Option Addr}{n c:Nat}(h:O9 Γ S (.slice a n c) sz rows)(hw:Wd Γ S w):Rd w a sz rows:=by
 obtain⟨a',n',c',h1,h2,h3,h4,h5⟩:=h;cases h1
 exact h5 w hw
theorem O9.cons{r:A7}(h:O9 Γ S v sz rows):O9 Γ (r::S) v sz rows:=by
 obtain⟨a,n,c,h1,h2,h3,h4,h5⟩:=h;exact⟨a,n,c,h1,h2,h3,h4,fun w hw=>h5 w hw.drop⟩
theorem O9.app{S':List A7}(h:O9 Γ S v sz rows):O9 Γ (S++S') v sz rows:=by
 obtain⟨a,n,c,h1,h2,h3,h4,h5⟩:=h;exact⟨a,n,c,h1,h2,h3,h4,fun w hw=>h5 w hw.left⟩
end
section
variable {P:Program}{ρ:Fr}{w:World}{sz:Nat}{rows:List (List Value)}{d:Option Tmp}{T ty:TypeId}{pos:String}{es:Array Edge}{g:Option (Nat×Bool)}{x y:Operand}
theorem T3{E by':Nat}{zs:List Value}{a:Option Addr}{m c:Nat}{k:IntKind}{i:Int}[hT:TL P T E sz by' zs](hr:Rd w a sz rows)(hx:ev ρ x=.slice a m c)(hy:ev ρ y=.int k i)(h0:0≤i)(h1:i<m)(hm:m=rows.length:=by first|assumption|omega|(rw[List.length_map];omega)) :
  Yields P ⟨d,.indexAddr T x y,ty,pos,es,g⟩ ρ w (.pointer (some ⟨aB a,aO a+i.toNat*sz,none⟩)):=
 AT hx hy h0 h1 (hr.at_ (by omega))
end
abbrev A7.ms{β:Type}(f:β→Value)(b:Nat)(l:List (ByteArray×β)):A7:=A7.mp b (l.map fun p=>(.string p.1,f p.2))
section
variable {P:Program}{n:Nat}{opa:Array Oper}{Γ:B8}{S:List A7}{QQ:Exit→Fr→World→Prop}{ρ:Fr}{w:World}{rest:List Oper}{KK:Value→World→Prop}
variable {d:Option Tmp}{T U ty K E:TypeId}{pos:String}{es:Array Edge}{g:Option (Nat×Bool)}{x y z:Operand}{v:Value}{β:Type}{f:β→Value}{b i:Nat}{a:ByteArray}{l:List (ByteArray×β)}
theorem M2[Inhabited β]{zz:Value}[hM:u7 P T K E][hK:BN P K][hz:TW P E zz](hw:Wd Γ S w)(hx:ev ρ x=.map (some b))(hy:ev ρ y=.string a)(hi:S[i]? = some (A7.ms f b l))(hd:f default=zz) :
  Yields P ⟨d,.lookup T x y true,ty,pos,es,g⟩ ρ w (.tuple #[f ((D2 l a).getD default),.bool (D2 l a).isSome]):=by
 cases hg:D2 l a with
 | some u=>
  have:=Bf (P:=P) (K:=K) (α:=ByteArray) (d:=d) (T:=T) (ty:=ty) (pos:=pos) (es:=es) (g:=g) hw hx hy hi hg true
  simpa using this
 | none=>
  have:=BV (P:=P) (K:=K) (α:=ByteArray) (d:=d) (T:=T) (ty:=ty) (pos:=pos) (es:=es) (g:=g) hw hx hy hi hg true
  simpa[hd] using this
theorem M3[Inhabited β]{zz:Value}[hM:u7 P T K E][hK:BN P K][hz:TW P E zz](hw:Wd Γ S w)(hx:ev ρ x=.map (some b))(hy:ev ρ y=.string a)(hi:S[i]? = some (A7.ms f b l))(hd:f default=zz) :
  Yields P ⟨d,.lookup T x y false,ty,pos,es,g⟩ ρ w (f ((D2 l a).getD default)):=by
 cases hg:D2 l a with
 | some u=>
  have:=Bf (P:=P) (K:=K) (α:=ByteArray) (d:=d) (T:=T) (ty:=ty) (pos:=pos) (es:=es) (g:=g) hw hx hy hi hg false
  simpa using this
 | none=>
  have:=BV (P:=P) (K:=K) (α:=ByteArray) (d:=d) (T:=T) (ty:=ty) (pos:=pos) (es:=es) (g:=g) hw hx hy hi hg false
  simpa[hd] using this
theorem V3[hM:u7 P T K E][hK:BN P K](hw:Wd Γ S w)(hx:ev ρ x=.map (some b))(hi:S[i]? = some (A7.ms f b l)):Yields P ⟨d,.call { callee:=.builtin .len,args:=#[x],argTypes:=#[T] },ty,pos,es,g⟩ ρ w (.int .i64 l.length):=
 TJ (P:=P) (K:=K) (α:=ByteArray) hw hx hi
theorem T8{v:β}[hM:u7 P T K E][hK:BN P K](hw:Wd Γ S w)(hx:ev ρ x=.map (some b))(hy:ev ρ y=.string a)(hz:ev ρ z=f v)(hi:S[i]? = some (A7.ms f b l))
  (hk:∀w',Wd Γ (S.set i (A7.ms f b (AA l a v))) w'→KK undef w'):Step P ⟨d,.mapUpdate T x y z,ty,pos,es,g⟩ ρ w KK:=
 Ho (P:=P) (K:=K) (α:=ByteArray) hw hx hy hz hi hk
theorem FA[hM:u7 P T K E][hK:BN P K](hw:Wd Γ S w)(hx:ev ρ x=.map (some b))(hy:ev ρ y=.string a)(hi:S[i]? = some (A7.ms f b l))
  (hk:∀w',Wd Γ (S.set i (A7.ms f b (U9 l a))) w'→KK (.tuple #[]) w'):Step P ⟨d,.call { callee:=.builtin .delete,args:=#[x,y],argTypes:=#[T,U] },ty,pos,es,g⟩ ρ w KK:=
 NK (P:=P) (K:=K) (α:=ByteArray) hw hx hy hi hk
theorem Me(f:β→Value)[hM:u7 P T K E][hK:BN P K](h:∀b w',Wd Γ (A7.ms f b []::S) w'→L P n opa QQ rest (C3 ρ d (.map (some b))) w')(hd:E4 n d=true:=by exact rfl)(hw:Wd Γ S w:=by exact hw) :
  L P n opa QQ (⟨d,.makeMap T none,ty,pos,es,none⟩::rest) ρ w:=H1 rfl hd (m8 (K:=K) (α:=ByteArray) (f:=f) hw h)
theorem Ti[hM:u7 P T K E][hK:BN P K](h:∀w',Wd Γ (S.set i (A7.ms f b (U9 l a))) w'→L P n opa QQ rest (C3 ρ d (.tuple #[])) w')(hw:Wd Γ S w:=by exact hw)(hx:ev ρ x=.map (some b):=by exact rfl)(hy:ev ρ y=.string a:=by exact rfl)(hi:S[i]? = some (A7.ms f b l):=by exact p7)(hd:E4 n d=true:=by exact rfl) :
  L P n opa QQ (⟨d,.call { callee:=.builtin .delete,args:=#[x,y],argTypes:=#[T,U] },ty,pos,es,none⟩::rest) ρ w:=H1 rfl hd (FA hw hx hy hi h)
end
def ML(l:List (Fr→List A7)):Nat→Fr→List A7:=fun x=>l.getD x (fun _=>[])
def G9(M:Nat→Fr→List A7)(x:Nat)(m:Fr→List A7):Nat→Fr→List A7:=fun y=>bif [x].contains y then m else M y
abbrev mV(P:Program)(n:Nat)(ops:List Oper)(Γ:B8)(K:List A7)(wr tc stab:List (List Nat)):O4:=⟨P,n,ops,Γ,K,wr,tc,stab,true⟩
def D5(tc stab:List (List Nat))(i:Nat)(M:Nat→Fr→List A7)(g:Fr):List A7:=(tc.getD i []).flatMap fun x=>M x (D6 (stab.getD x []) g C6)
def Ai(tc stab:List (List Nat))(i:Nat)(d:Option Tmp):Bool:=match d with|some d=>(tc.getD i []).all fun x=>!((stab.getD x []).contains d)|none=>true
def Q6(stab:List (List Nat))(d:Option Tmp):Bool:=match d with|some d=>stab.flatten.contains d|none=>true
section
variable {P:Program}{n:Nat}{ops:List Oper}{Γ:B8}{K:List A7}{wr tc stab:List (List Nat)}{Q:Fr→World→Prop}{i:Nat}{rest:List Oper}{ρ:Fr}{M:Nat→Fr→List A7}{o:Oper}{v:Value}
theorem Aj{g:Fr}{d:Option Tmp}{v:Value}(h:Ai tc stab i d=true)(M:Nat→Fr→List A7):D5 tc stab i M (C3 g d v)=D5 tc stab i M g:=by
 refine F3 fun x hx=>?_
 cases d with
 | none=>rfl
 | some d=>
  congr 1
  refine BH fun t ht=>upd_ne _ _ fun e=>?_
  subst e;have:=(List.all_eq_true.1 h) x hx
  simp at this
  exact this ht
theorem mC(hy:∀Y w g,Wd Γ (K++(D5 tc stab i M g++Y)) w→Step P o (D6 stab.flatten g ρ) w fun u w'=>u=v∧Wd Γ (K++(D5 tc stab i M g++Y)) w')(hw0:wr.getD i []=[])(hg:o.guard=none)(ho:Ai tc stab i o.dst=true)
  (h:MSw (mV P n ops Γ K wr tc stab) Q (i+1) rest ⟨C3 ρ o.dst v,M⟩):MSw (mV P n ops Γ K wr tc stab) Q i (o::rest) ⟨ρ,M⟩:=by
 have hn:∀c,Mt.nxt (mV P n ops Γ K wr tc stab) i ⟨ρ,M⟩ c=M:=fun c=>by
  funext x;simp only[Mt.nxt,O4.w,hw0];rfl
 refine⟨⟨v,M⟩,⟨fun Γ' Y w g hr hw=>?_⟩,?_⟩
 ·have hΓ:Γ'=Γ:=hr
  subst hΓ;rw[hn];refine⟨fun _=>(hy Y w g hw).mono fun u w' ⟨h1,h2⟩=>⟨Γ',rfl,?_,fun _=>h1⟩,fun hf=>?_⟩
  ·have:=Aj (g:=g) (v:=u) ho M
   show Wd Γ' (K++(D5 tc stab i M (C3 g o.dst u)++Y)) w'
   rw[this];exact h2
  ·rw[M5 hg]at hf;cases hf
 ·simp only[Mt.next,hn];exact h
theorem mY(h:MSw (mV P n ops Γ K wr tc stab) Q (i+1) rest ⟨C3 ρ o.dst v,M⟩)(hw0:wr.getD i []=[]:=by exact rfl)(hg:o.guard=none:=by exact rfl)(ho:Ai tc stab i o.dst=true:=by exact rfl)
  (hy:∀Y w g,Wd Γ (K++(D5 tc stab i M g++Y)) w→Yields P o (D6 stab.flatten g ρ) w v:=by (intro Y w g hw;exact If)):MSw (mV P n ops Γ K wr tc stab) Q i (o::rest) ⟨ρ,M⟩:=
 mC (fun Y w g hw=>(hy Y w g hw).step ⟨rfl,hw⟩) hw0 hg ho h
theorem mM{x:Nat}(m:Fr→List A7)(hs:∀Y w g,Wd Γ (K++(D5 tc stab i M g++Y)) w→Step P o (D6 stab.flatten g ρ) w fun u w'=>Wd Γ (K++(D5 tc stab i (G9 M x m) (C3 g o.dst u)++Y)) w'∧(Q6 stab o.dst=false→u=v))
  (h:MSw (mV P n ops Γ K wr tc stab) Q (i+1) rest ⟨C3 ρ o.dst v,G9 M x m⟩) (hw0:wr.getD i []=[x]:=by exact rfl) (hg:o.guard=none:=by exact rfl):MSw (mV P n ops Γ K wr tc stab) Q i (o::rest) ⟨ρ,M⟩:=by
 have hn:Mt.nxt (mV P n ops Γ K wr tc stab) i ⟨ρ,M⟩ ⟨v,fun _=>m⟩=G9 M x m:=by
  funext y;simp only[Mt.nxt,O4.w,hw0];rfl
 refine⟨⟨v,fun _=>m⟩,⟨fun Γ' Y w g hr hw=>?_⟩,?_⟩
 ·have hΓ:Γ'=Γ:=hr
  subst hΓ;rw[hn];refine⟨fun _=>(hs Y w g hw).mono fun u w' ⟨h1,h2⟩=>⟨Γ',rfl,h1,h2⟩,fun hf=>?_⟩
  rw[M5 hg]at hf;cases hf
 ·simp only[Mt.next,hn];exact h
theorem K3(h:∀w g,Wd Γ (K++(List.range stab.length).flatMap fun x=>M x (D6 (stab.getD x []) g C6)) w→Q (D6 stab.flatten g ρ) w):MSw (mV P n ops Γ K wr tc stab) Q i [] ⟨ρ,M⟩:=fun Γ' w g hr hw=>by
 have hΓ:Γ'=Γ:=hr
 subst hΓ;exact h w g hw
theorem BJ{id:Nat}{l:List Oper}{QQ:Exit→Fr→World→Prop}{w:World}(K:List A7)(M:List (Fr→List A7))(wr tc stab:List (List Nat))(hw:Wd Γ (K++(List.range stab.length).flatMap fun x=>(ML M) x (D6 (stab.getD x []) ρ C6)) w)
  (h:MSw (mV P n l Γ K wr tc stab) (fun ρ w=>QQ .normal ρ w) 0 l ⟨ρ,ML M⟩) (hm:P.follows .mixedOrders=true:=by kernel_rfl) (hk:M4 n l wr tc stab=true:=by kernel_rfl):W P n (.region id l.toArray true) QQ ρ w:=
 OE K (ML M) wr tc stab true hm hk hw h
end
attribute [local irreducible] Calls
theorem eq_nilB{s:ByteArray}:(s=⟨#[]⟩)↔s.size=0:=by
 constructor
 ·intro h;rw[h];rfl
 ·intro h;cases s with
  | mk d=>
   have:d.size=0:=h
   rw[Array.eq_empty_of_size_eq_zero this]
theorem ne_nilB{s:ByteArray}:(s≠⟨#[]⟩)↔0<s.size:=by
 rw[Ne,eq_nilB];omega
class PC(P:Program)(f:Nat)(args:List Value)(v:outParam Value):Prop where
 h:∀w,Calls P f args.toArray w fun e w'=>e=.returned v∧w'=w
section
variable {P:Program}{n:Nat}{ops:List Oper}{opa:Array Oper}{Γ:B8}{S K:List A7}{Q:Fr→World→Prop}{QQ:Exit→Fr→World→Prop}{ρ:Fr}{w:World}{rest:List Oper}{wr tc stab:List (List Nat)}{i:Nat}{M:Nat→Fr→List A7}
variable {d:Option Tmp}{ty:TypeId}{pos:String}{es:Array Edge}{v:Value}{f:Nat}{args:List Operand}{tys:Array TypeId}{vs:List Value}{j dj:Nat}{want c:Bool}{g:Option (Nat×Bool)}
theorem PK[B5 P f][hp:PC P f vs v](ha:EvL ρ args vs):Step P ⟨d,.call { callee:=.value (.func f),args:=args.toArray,argTypes:=tys },ty,pos,es,g⟩ ρ w fun u w'=>u=v∧w'=w:=
 Y8 ha.eqA ((hp.h w).mono fun e w' ⟨h1,h2⟩=>⟨v,h1,rfl,h2⟩)
theorem lP[B5 P f](h:L P n opa QQ rest (C3 ρ d v) w)(ha:EvL ρ args vs:=by exact r8)(hd:E4 n d=true:=by exact rfl)(hp:PC P f vs v:=by infer_instance) :
  L P n opa QQ (⟨d,.call { callee:=.value (.func f),args:=args.toArray,argTypes:=tys },ty,pos,es,none⟩::rest) ρ w:=
 H1 rfl hd ((PK (hp:=hp) ha).mono fun u w' ⟨h1,h2⟩=>by subst h1;subst h2;exact h)
theorem Rl[B5 P f](h:L P n opa QQ rest (C3 ρ d (gv c v)) w)(hj:(opa[j]?).bind (·.dst)=some dj:=by exact rfl)(hjn:E4 n (some dj)=true:=by exact rfl)(hc:E8 (ρ dj) want c:=by exact Ha)(hd:E4 n d=true:=by exact rfl)(ha:c=true→EvL ρ args vs:=by intro hc;exact IH)(hp:PC P f vs v:=by infer_instance) :
  L P n opa QQ (⟨d,.call { callee:=.value (.func f),args:=args.toArray,argTypes:=tys },ty,pos,es,some (j,want)⟩::rest) ρ w:=
 Km rfl hj hjn hc hd (fun ht=>PK (hp:=hp) (ha ht)) h
theorem qP[B5 P f](h:Qw P n ops Γ S Q rest (C3 ρ d v))(ha:EvL ρ args vs:=by exact r8)(hp:PC P f vs v:=by infer_instance) :
  Qw P n ops Γ S Q (⟨d,.call { callee:=.value (.func f),args:=args.toArray,argTypes:=tys },ty,pos,es,none⟩::rest) ρ:=
 Ty rfl rfl (fun Y w hw=>(PK (hp:=hp) ha).mono fun u w' ⟨h1,h2⟩=>⟨h1,by subst h2;exact hw⟩) h
theorem NG[B5 P f](h:Qw P n ops Γ S Q rest (C3 ρ d (gv c v)))(hj:(ops[j]?).bind (·.dst)=some dj:=by exact rfl)(hc:E8 (ρ dj) want c:=by exact Ha)(ha:c=true→EvL ρ args vs:=by intro hc;exact IH)(hp:PC P f vs v:=by infer_instance) :
  Qw P n ops Γ S Q (⟨d,.call { callee:=.value (.func f),args:=args.toArray,argTypes:=tys },ty,pos,es,some (j,want)⟩::rest) ρ:=
 RY rfl hj hc rfl (fun ht Y w hw=>(PK (hp:=hp) (ha ht)).mono fun u w' ⟨h1,h2⟩=>⟨h1,by subst h2;exact hw⟩) h
theorem mP[B5 P f](h:MSw (mV P n ops Γ K wr tc stab) Q (i+1) rest ⟨C3 ρ d v,M⟩)(hw0:wr.getD i []=[]:=by exact rfl)(ho:Ai tc stab i d=true:=by exact rfl)(ha:∀g,EvL (D6 stab.flatten g ρ) args vs:=by intro g;exact r8)(hp:PC P f vs v:=by infer_instance) :
  MSw (mV P n ops Γ K wr tc stab) Q i (⟨d,.call { callee:=.value (.func f),args:=args.toArray,argTypes:=tys },ty,pos,es,none⟩::rest) ⟨ρ,M⟩:=
 mC (fun Y w g hw=>(PK (hp:=hp) (ha g)).mono fun u w' ⟨h1,h2⟩=>⟨h1,by subst h2;exact hw⟩) hw0 rfl ho h
end
def NM(P:Program)(ρ:Fr)(w:World):ResultVar→Value→Prop
 | .tmp t,v=>ρ t=v
 | .cell a T,v=>∃A,ρ a=.pointer (some A)∧(loadVar T A).run P w=.ok v w
def QK(P:Program)(ρ:Fr)(w:World):List ResultVar→List Value→Prop
 | [],[]=>True
 | r::rs,v::vs=>NM P ρ w r v∧QK P ρ w rs vs
 | _,_=>False
def Lw:List Value→Value
 | [v]=>v
 | vs=>.tuple vs.toArray
def UC(P:Program)(rs:Array ResultVar)(R:Ending→World→Prop):Exit→Fr→World→Prop
 | .normal,ρ,w|.ret,ρ,w=>∃vs,QK P ρ w rs.toList vs∧R (.returned (Lw vs)) w
 | .panic ch,_,w=>R (.panicked ch) w
 | .outgrown,_,w=>R .outgrown w
 | _,_,_=>False
def IR(tmps:Array Value):ResultVar→Sem Value
 | .tmp t=>pure (tmps.getD t undef)
 | .cell a t=>do loadVar t (←asAddr (tmps.getD a undef))
theorem Fu(fn:Func)(tmps:Array Value):results fn tmps=(do let vs ← fn.results.mapM (IR tmps);pure (if h:vs.size=1 then vs[0] else .tuple vs)):=by
 have:(fun r:ResultVar=>match r with|.tmp t=>(pure (tmps.getD t undef):Sem Value)|.cell a t=>do loadVar t (←asAddr (tmps.getD a undef)))=IR tmps:=by
  funext r;cases r <;> rfl
 rw[←this];rfl
theorem NM.run{P:Program}{a:Act}{w:World}{r:ResultVar}{v:Value}(h:NM P (C4 a) w r v):(IR a.tmps r).run P w=.ok v w:=by
 cases r with
 | tmp t=>have:a.tmps.getD t undef=v:=h;simp only[IR,Sem.run_pure,this]
 | cell x t=>
  obtain⟨A,h1,h2⟩:=h;have h3:a.tmps.getD x undef=.pointer (some A):=h1
  simp only[IR,h3]
  simpa[asAddr] using h2
theorem T9{P:Program}{fn:Func}{a:Act}{w:World}{vs:List Value}(hl:fn.results.size≤3)(h:QK P (C4 a) w fn.results.toList vs):(results fn a.tmps).run P w=.ok (Lw vs) w:=by
 obtain⟨l,hfl⟩:∃l:List ResultVar,fn.results=l.toArray:=⟨fn.results.toList,by simp⟩
 rw[Fu];rw[hfl]at h hl ⊢
 simp only at h
 rcases l with _|⟨x1,_|⟨x2,_|⟨x3,_|⟨x4,l⟩⟩⟩⟩ <;> rcases vs with _|⟨v1,_|⟨v2,_|⟨v3,_|⟨v4,vs⟩⟩⟩⟩ <;> simp only[QK,and_false]at h <;> try exact h.elim
 ·simp[Lw]
 ·simp[Lw,h.1.run]
 ·simp[Lw,h.1.run,h.2.1.run]
 ·simp[Lw,h.1.run,h.2.1.run,h.2.2.1.run]
 all_goals (simp at hl <;> omega)
theorem F8{P:Program}{f:FuncId}{fn:Func}{c:Code}{args:Array Value}{w:World}{R:Ending→World→Prop}(hf:P.funcs[f]? = some fn)(hb:fn.body=some c)
  (hn:(Nat.ble args.size fn.ntmps&&Nat.ble fn.results.size 3)=true) (h:W P fn.ntmps c (UC P fn.results R) (S9 args) w):Calls P f args w R:=by
 rw[Bool.and_eq_true]at hn;have hle:args.size≤fn.ntmps:=Nat.le_of_ble_eq_true hn.1
 have hl3:fn.results.size≤3:=Nat.le_of_ble_eq_true hn.2
 unfold W at h;refine calls_of_wp hf hb (Code.wp_mono ?_ (h _ rfl (by simp;omega) ?_))
 ·rintro e a w ⟨hd,hs,hq⟩
  cases e with
  | normal=>obtain⟨v,hv,hR⟩:=hq;exact⟨hd,_,T9 hl3 hv,hR⟩
  | ret=>obtain⟨v,hv,hR⟩:=hq;exact⟨hd,_,T9 hl3 hv,hR⟩
  | panic ch=>exact⟨hd,hq⟩
  | outgrown=>exact hq
  | exit id=>exact hq.elim
  | goto l=>exact hq.elim
 ·funext t
  simp only[C4,S9,Array.getD_eq_getD_getElem?,Array.getElem?_append]
  by_cases ht:t<args.size
  ·rw[if_pos ht]
  ·rw[if_neg ht,Array.getElem?_eq_none (by omega:args.size≤t)]
   simp only[Array.getElem?_replicate]
   split <;> rfl
theorem J6{P:Program}{Γ:B8}{S:List A7}{ρ:Fr}{w:World}{t T m i b:Nat}{cs:Array Value}{E:TypeId}{fr:Nat×Nat}[ha:TA P T m](hw:Wd Γ S w)(hi:S[i]? = some (.blk b (.cells cs E fr)))(hx:ρ t=.pointer (some ⟨b,0,none⟩))(hm:cs.size=m):NM P ρ w (.cell t T) (.agg cs):=by
 refine⟨_,hx,?_⟩
 have h:=ha.h
 unfold JN at h;cases hu:P.underlying T with
 | none=>simp[hu]at h
 | some u=>
  simp[hu]at h
  have h2:=Eg (o:=0) (n:=cs.size) (hw.at_blk hi)
  have h1:=run_loadAt_mid (P:=P) w b 0 T cs.toList u (by simpa using h2) hu h.1 (by simp[h.2,hm])
  simpa[Instr.loadAt,Instr.sureAddr,asAddr] using h1
end Mk
end
section
open Go
namespace Mk
def MJ(v:Value)(F:Nat→List A7):A7:=A7.ex (α:={bb:Nat // v=.pointer (some ⟨bb,0,none⟩)}) fun p=>F p.1
section
variable {P:Program}{n:Nat}{ops:List Oper}{Γ:B8}{S K:List A7}{wr tc stab:List (List Nat)}{Q:Fr→World→Prop}{i:Nat}{rest:List Oper}{ρ:Fr}{w:World}{M:Nat→Fr→List A7}{v:Value}{F:Nat→List A7}
variable {d:Option Tmp}{T U ty:TypeId}{pos:String}{es:Array Edge}{x y z:Operand}
theorem Wd.mid{r:A7}{Y:List A7}(h:Wd Γ (K++(r::Y)) w):Wd Γ (r::(K++Y)) w:=h.perm List.perm_middle
theorem Wd.unmid{r:A7}{Y:List A7}(h:Wd Γ (r::(K++Y)) w):Wd Γ (K++(r::Y)) w:=h.perm List.perm_middle.symm
theorem Wd.swapApp{A B C:List A7}(h:Wd Γ (A++(B++C)) w):Wd Γ (B++(A++C)) w:=h.perm (by
 rw[←List.append_assoc,←List.append_assoc];exact List.perm_append_comm.append_right C)
theorem Wd.openAt(h:Wd Γ (MJ v F::S) w):∃bb,v=.pointer (some ⟨bb,0,none⟩)∧Wd Γ (F bb++S) w:=by
 obtain⟨⟨bb,hb⟩,h'⟩:=h.openEx;exact⟨bb,hb,h'⟩
theorem Wd.closeAt{bb:Nat}(h:Wd Γ (F bb++S) w):Wd Γ (MJ (.pointer (some ⟨bb,0,none⟩)) F::S) w:=Wd.closeEx (X:=fun p:{c:Nat // Value.pointer (some ⟨bb,0,none⟩)=.pointer (some ⟨c,0,none⟩)}=>F p.1) ⟨bb,rfl⟩ h
theorem A6{c:Nat}{m:Fr→List A7}:G9 M c m c=m:=by simp[G9]
theorem Eo{c dd:Nat}{cs:List Value}[TZ P T cs](h:MSw (mV P n ops Γ K wr tc stab) Q (i+1) rest ⟨C3 ρ (some dd) undef,G9 M c fun g=>[MJ (g dd) fun bb=>[.blk bb (.cells cs.toArray T)]]⟩)
  (ht:tc.getD i []=[c]:=by exact rfl) (hM:M c=(fun _=>[]):=by exact rfl) (hs:(stab.getD c []).contains dd=true:=by exact rfl) (hf:Q6 stab (some dd)=true:=by exact rfl) (hw0:wr.getD i []=[c]:=by exact rfl) :
  MSw (mV P n ops Γ K wr tc stab) Q i (⟨some dd,.alloc T,ty,pos,es,none⟩::rest) ⟨ρ,M⟩:=by
 refine mM _ (fun Y w g hw=>?_) h hw0 rfl
 have hw1:Wd Γ (K++Y) w:=by
  have:D5 tc stab i M g=[]:=by unfold D5;rw[ht];simp[hM]
  rw[this]at hw;exact hw
 refine HJ hw1 fun b w' hw'=>⟨?_,fun hh=>by rw[hf]at hh;cases hh⟩
 have e:D5 tc stab i (G9 M c fun g=>[MJ (g dd) fun bb=>[.blk bb (.cells cs.toArray T)]]) (C3 g (some dd) (.pointer (some ⟨b,0,none⟩)))=[MJ (.pointer (some ⟨b,0,none⟩)) fun bb=>[.blk bb (.cells cs.toArray T)]]:=by
  unfold D5;rw[ht];have h1:D6 (stab.getD c []) (C3 g (some dd) (.pointer (some ⟨b,0,none⟩))) C6 dd=.pointer (some ⟨b,0,none⟩):=by
   rw[J7 (by simpa using hs)];exact upd_same _ _ _
  simp only[List.flatMap_cons,List.flatMap_nil,List.append_nil,A6,h1]
 rw[e];exact Wd.unmid (Wd.closeAt (F:=fun bb=>[.blk bb (.cells cs.toArray T)]) hw')
theorem AG{c dd m:Nat}{cs:Array Value}{E:TypeId}{vs:List Value}[hn:Kk P T m](h:MSw (mV P n ops Γ K wr tc stab) Q (i+1) rest ⟨ρ,G9 M c fun g=>[MJ (g dd) fun bb=>[.blk bb (.cells (putCells cs 0 vs) E)]]⟩)
  (hd:stab.flatten.contains dd=true:=by exact rfl) (ht:tc.getD i []=[c]:=by exact rfl) (hM:M c=(fun g=>[MJ (g dd) fun bb=>[.blk bb (.cells cs E)]]):=by exact rfl) (hs:(stab.getD c []).contains dd=true:=by exact rfl) (hw0:wr.getD i []=[c]:=by exact rfl)
  (hy:∀g,ev (D6 stab.flatten g ρ) y=v:=by intro g;exact R7) (hv:v.cells.toList=vs:=by exact rfl) (hl:vs.length=m:=by exact rfl) (h1:vs.all (·.oneCell')=true:=by exact rfl) (ho:m≤cs.size:=by exact Nat.le_of_ble_eq_true rfl) :
  MSw (mV P n ops Γ K wr tc stab) Q i (⟨none,.store T (.tmp dd) y,ty,pos,es,none⟩::rest) ⟨ρ,M⟩:=by
 refine mM (v:=undef) _ (fun Y w g hw=>?_) h hw0 rfl
 have e:D5 tc stab i M g=[MJ (g dd) fun bb=>[.blk bb (.cells cs E)]]:=by
  unfold D5;rw[ht];have h1:D6 (stab.getD c []) g C6 dd=g dd:=J7 (by simpa using hs)
  simp only[List.flatMap_cons,List.flatMap_nil,List.append_nil,hM,h1]
 rw[e]at hw;obtain⟨bb,hb,hw1⟩:=(Wd.mid hw).openAt
 have hx:ev (D6 stab.flatten g ρ) (.tmp dd)=.pointer (some ⟨bb,0,none⟩):=by
  show D6 stab.flatten g ρ dd=_
  rw[J7 (by simpa using hd)];exact hb
 refine V6 hn.h hw1 hx (hy g) hv hl (fun u hu=>(List.all_eq_true.1 h1) u hu) (i:=0) rfl (by omega) fun w' hw'=>⟨?_,fun hh=>rfl⟩
 have e2:D5 tc stab i (G9 M c fun g=>[MJ (g dd) fun bb=>[.blk bb (.cells (putCells cs 0 vs) E)]]) (C3 g none undef)=[MJ (.pointer (some ⟨bb,0,none⟩)) fun bb=>[.blk bb (.cells (putCells cs 0 vs) E)]]:=by
  unfold D5;rw[ht];have h1:D6 (stab.getD c []) g C6 dd=.pointer (some ⟨bb,0,none⟩):=(J7 (by simpa using hs)).trans hb
  simp only[List.flatMap_cons,List.flatMap_nil,List.append_nil,A6,C3,h1]
 rw[e2];exact Wd.unmid (Wd.closeAt (F:=fun bb=>[.blk bb (.cells (putCells cs 0 vs) E)]) hw')
theorem D9{dd:Nat}(h:∀bb w,Wd Γ (F bb++K) w→Q (upd ρ dd (.pointer (some ⟨bb,0,none⟩))) w)(hM:M 0=(fun g=>[MJ (g dd) F]):=by exact rfl):MSw (mV P n ops Γ K wr tc [[dd]]) Q i [] ⟨ρ,M⟩:=
 K3 fun w g hw=>by
  have h0:((List.range [[dd]].length).flatMap fun x=>M x (D6 ([[dd]].getD x []) g C6))=[MJ (g dd) F]:=by
   show M 0 (D6 [dd] g C6)++[]=_
   rw[hM];show [MJ (upd C6 dd (g dd) dd) F]++[]=_
   rw[upd_same];rfl
  rw[h0]at hw;obtain⟨bb,hb,hw1⟩:=(Wd.mid hw).openAt
  have:=h bb w (by simpa using hw1)
  rwa [←hb]at this
theorem G6(h:∀w,Wd Γ (K++(List.range stab.length).flatMap fun x=>M x C6) w→Q ρ w)(hs:stab.all (fun l=>l.isEmpty)=true:=by exact rfl):MSw (mV P n ops Γ K wr tc stab) Q i [] ⟨ρ,M⟩:=
 K3 fun w g hw=>by
  have h1:∀x,stab.getD x []=[]:=fun x=>by
   rw[List.getD_eq_getElem?_getD];cases hx:stab[x]? with
   | none=>rfl
   | some l=>
    have:=(List.all_eq_true.1 hs) l (List.mem_of_getElem? hx)
    simpa using this
  have h2:stab.flatten=[]:=by
   rw[List.flatten_eq_nil_iff];intro l hl;have:=(List.all_eq_true.1 hs) l hl
   simpa using this
  rw[h2];refine h w ?_
  have:((List.range stab.length).flatMap fun x=>M x (D6 (stab.getD x []) g C6))=(List.range stab.length).flatMap fun x=>M x C6:=F3 fun x _=>by rw[h1 x];rfl
  rwa [this]at hw
end
section
variable {P:Program}{n:Nat}{opa:Array Oper}{Γ:B8}{S:List A7}{QQ:Exit→Fr→World→Prop}{ρ:Fr}{w:World}{rest:List Oper}{d:Option Tmp}{T ty:TypeId}{pos:String}{es:Array Edge}{x y:Operand}
theorem Bp{E by' i sz m c m2 c2:Nat}{zs:List Value}{a a2:Option Addr}{rows rows2:List (List Value)}[TL P T E sz by' zs](h:∀v' w',Wd Γ (S.set i (.own v' E sz (rows++rows2))) w'→L P n opa QQ rest (C3 ρ d v') w')(hr2:Rd w a2 sz rows2)(hx:ev ρ x=.slice a m c:=by exact rfl)(hy:ev ρ y=.slice a2 m2 c2:=by exact rfl)(hw:Wd Γ S w:=by exact hw)
  (hi:S[i]? = some (.own (.slice a m c) E sz rows):=by exact p7) (h1:rows2.flatten.all (·.oneCell')=true:=by exact rfl) (hm:m2=rows2.length:=by exact rfl) (hb:(m+m2)*by'≤140737488355328:=by omega) (h63:m+m2≤9223372036854775807:=by omega) (hd:E4 n d=true:=by exact rfl) :
  L P n opa QQ (⟨d,.call { callee:=.builtin .append,args:=#[x,y],argTypes:=#[T,T] },ty,pos,es,none⟩::rest) ρ w:=QM h hr2 hm (fun u hu=>(List.all_eq_true.1 h1) u hu) hb h63 hw hx hy hi hd
end
end Mk
end
section
open Go
open Go.ChangeMaps (setBlock)
namespace Mk
section
variable {P:Program}{Γ:B8}{S:List A7}{w:World}{ρ:Fr}{K:Value→World→Prop}
variable {d:Option Tmp}{T ty:TypeId}{pos:String}{es:Array Edge}{g:Option (Nat×Bool)}{x y z:Operand}
theorem Wd.openMp{b:Nat}{l:List (Value×Value)}(h:Wd Γ (.mp b l::S) w):∃en clock,Wd Γ (.blk b (.map en clock)::S) w∧en.toList.map (fun e=>(e.key,e.val))=l∧(en.toList.map (·.born)).Nodup∧∀e∈en.toList,e.born<clock:=by
 obtain⟨en,clock,h1,h2,h3,h4⟩:=h.at_mp (i:=0) rfl
 refine⟨en,clock,?_,h2,h3,h4⟩
 have:=h.upd (i:=0) (r':=.blk b (.map en clock)) rfl ⟨rfl,rfl,rfl,Nat.le_refl _,Nat.le_refl _⟩ (w':=w) fun bs hr hnd hlt=>by
  unfold A7.mp at hr;obtain⟨rfl,_⟩:=hr;exact⟨[b],by unfold A7.blk;exact⟨rfl,h1⟩,by simp,fun k hk=>⟨hlt k hk,.inl hk⟩,fun _ _ _=>rfl⟩
 exact this
theorem Wd.closeMp{b clock:Nat}{en:Array MapEntry}{l:List (Value×Value)}(h:Wd Γ (.blk b (.map en clock)::S) w)(h2:en.toList.map (fun e=>(e.key,e.val))=l)(h3:(en.toList.map (·.born)).Nodup)(h4:∀e∈en.toList,e.born<clock):Wd Γ (.mp b l::S) w:=by
 have h1:=h.at_blk (i:=0) rfl
 have:=h.upd (i:=0) (r':=.mp b l) rfl ⟨rfl,rfl,rfl,Nat.le_refl _,Nat.le_refl _⟩ (w':=w) fun bs hr hnd hlt=>by
  unfold A7.blk at hr;obtain⟨rfl,_⟩:=hr;exact⟨[b],by unfold A7.mp;exact⟨rfl,en,clock,h1,h2,h3,h4⟩,by simp,fun k hk=>⟨hlt k hk,.inl hk⟩,fun _ _ _=>rfl⟩
 exact this
theorem Pz{bm clock i:Nat}{en:Array MapEntry}{KT ET:TypeId}[hM:u7 P T KT ET](hw:Wd Γ S w)(hx:ev ρ x=.map (some bm))(hi:S[i]? = some (.blk bm (.map en clock)))
  (hk:∀r w',Wd Γ (.blk r (.mapIter (some bm) clock #[] clock)::S) w'→K (.pointer (some ⟨r,0,none⟩)) w'):Step P ⟨d,.range T x,ty,pos,es,g⟩ ρ w K:=by
 have hb:=hw.at_blk hi
 have hr:(execOp (ev ρ) ⟨d,.range T x,ty,pos,es,g⟩).run P w=.ok (.value (.pointer (some ⟨w.heap.size,0,none⟩))) (w.alloc (.mapIter (some bm) clock #[] clock)):=by
  simp[execOp,Instr.range,hx,run_underlying hM.h,run_getObj_map hb,Sem.run_bind,run_newObj_alloc]
 have hfin:=hk _ _ (hw.alloc (.mapIter (some bm) clock #[] clock))
 unfold Step;rw[hr];exact hfin
theorem Hy{w:World}{r:Nat}{o:Obj}(h:r<w.heap.size):(setBlock w r o).heap[r]? = some o:=by simp[setBlock,h]
theorem JG{w:World}{r k:Nat}{o:Obj}(h:k≠r):(setBlock w r o).heap[k]? = w.heap[k]?:=by simp[setBlock,Array.getElem?_setIfInBounds,Ne.symm h]
theorem Sn{r bm since c0 clock i j:Nat}{seen:Array Nat}{en:Array MapEntry}(hw:Wd Γ S w)(hx:ev ρ x=.pointer (some ⟨r,0,none⟩))(hi:S[i]? = some (.blk r (.mapIter (some bm) since seen c0)))(hj:S[j]? = some (.blk bm (.map en clock)))
  (hold:∀x∈en.toList,x.born<since) (hsc:since≤c0)
  (h0:(leftOf en seen).size=0→K (.tuple #[.bool false]) w) (h1:∀e w',e∈(leftOf en seen).toList→Wd Γ (S.set i (.blk r (.mapIter (some bm) since (seen.push e.born) clock))) w'→K (.tuple #[.bool true,e.key,e.val]) w') :
  Step P ⟨d,.next x false,ty,pos,es,g⟩ ρ w K:=by
 have hr:=hw.at_blk hi
 have hb:=hw.at_blk hj
 unfold Step;have hrun:(execOp (ev ρ) ⟨d,.next x false,ty,pos,es,g⟩).run P w=((Instr.next (.pointer (some ⟨r,0,none⟩)) false ty).run P w).andThen fun v w'=>.ok (.value v) w':=by
  simp only[execOp,hx,Sem.run_bind]
  rfl
 rw[hrun];rcases run_next_at (P:=P) w ty r bm since c0 seen en clock hr hb hold hsc with⟨hz,he⟩|⟨e,hm,w1,hw1,he⟩
 ·rw[he];exact h0 hz
 ·rw[he];have hwd:Wd Γ S w1:=by
   rcases hw1 with rfl|rfl
   ·exact hw
   ·exact hw.drew
  have hlt:r<w1.heap.size:=(Array.getElem?_eq_some_iff.1 (hwd.at_blk hi)).1
  exact h1 e _ hm (hwd.set_blk hi ⟨rfl,rfl,rfl,Nat.le_refl _,by simp[setBlock]⟩ (Hy hlt) fun k _ hne=>JG hne)
theorem Qd{r bm since clock i j:Nat}{seen:Array Nat}{en:Array MapEntry}{e:MapEntry}(hw:Wd Γ S w)(hx:ev ρ x=.pointer (some ⟨r,0,none⟩))(hi:S[i]? = some (.blk r (.mapIter (some bm) since (seen.push e.born) clock)))(hj:S[j]? = some (.blk bm (.map en clock)))
  (he:e∈en.toList) (hn:(en.toList.map (·.born)).Nodup):Yields P ⟨d,.entry x,ty,pos,es,g⟩ ρ w (.tuple #[e.key,e.val]):=by
 have:=run_entry_at (P:=P) w r bm since seen en clock e (hw.at_blk hi) (hw.at_blk hj) he hn
 unfold Yields;simp only[execOp,hx,Sem.run_bind,this]
 rfl
end
section
variable {P:Program}{n:Nat}{opa:Array Oper}{Γ:B8}{S:List A7}{QQ:Exit→Fr→World→Prop}{ρ:Fr}{w:World}{rest:List Oper}
variable {d:Option Tmp}{T ty:TypeId}{pos:String}{es:Array Edge}{x:Operand}
theorem TN{bm clock i:Nat}{en:Array MapEntry}{KT ET:TypeId}[hM:u7 P T KT ET](h:∀r w',Wd Γ (.blk r (.mapIter (some bm) clock #[] clock)::S) w'→L P n opa QQ rest (C3 ρ d (.pointer (some ⟨r,0,none⟩))) w')(hw:Wd Γ S w:=by exact hw)(hx:ev ρ x=.map (some bm):=by exact rfl)(hi:S[i]? = some (.blk bm (.map en clock)):=by exact p7)(hd:E4 n d=true:=by exact rfl) :
  L P n opa QQ (⟨d,.range T x,ty,pos,es,none⟩::rest) ρ w:=H1 rfl hd (Pz hw hx hi h)
theorem Tg{r bm since c0 clock i j:Nat}{seen:Array Nat}{en:Array MapEntry}
  (h0:(leftOf en seen).size=0→L P n opa QQ rest (C3 ρ d (.tuple #[.bool false])) w) (h1:∀e w',e∈(leftOf en seen).toList→Wd Γ (S.set i (.blk r (.mapIter (some bm) since (seen.push e.born) clock))) w'→L P n opa QQ rest (C3 ρ d (.tuple #[.bool true,e.key,e.val])) w')
  (hold:∀x∈en.toList,x.born<since) (hsc:since≤c0) (hw:Wd Γ S w:=by exact hw) (hx:ev ρ x=.pointer (some ⟨r,0,none⟩):=by exact rfl) (hi:S[i]? = some (.blk r (.mapIter (some bm) since seen c0)):=by exact p7) (hj:S[j]? = some (.blk bm (.map en clock)):=by exact p7) (hd:E4 n d=true:=by exact rfl) :
  L P n opa QQ (⟨d,.next x false,ty,pos,es,none⟩::rest) ρ w:=H1 rfl hd (Sn hw hx hi hj hold hsc h0 h1)
theorem Sx{r bm since clock i j:Nat}{seen:Array Nat}{en:Array MapEntry}{e:MapEntry}(h:L P n opa QQ rest (C3 ρ d (.tuple #[e.key,e.val])) w)(he:e∈en.toList)(hn:(en.toList.map (·.born)).Nodup)
  (hw:Wd Γ S w:=by exact hw) (hx:ev ρ x=.pointer (some ⟨r,0,none⟩):=by exact rfl) (hi:S[i]? = some (.blk r (.mapIter (some bm) since (seen.push e.born) clock)):=by exact p7) (hj:S[j]? = some (.blk bm (.map en clock)):=by exact p7) (hd:E4 n d=true:=by exact rfl) :
  L P n opa QQ (⟨d,.entry x,ty,pos,es,none⟩::rest) ρ w:=Td rfl hd (Qd hw hx hi hj he hn) h
end
theorem FV{en:Array MapEntry}{seen:Array Nat}{e:MapEntry}:e∈(leftOf en seen).toList↔e∈en.toList∧e.born∉seen.toList:=by
 unfold leftOf;simp
abbrev FR(ro:Option Nat):Fence:={ Fence.wide with round:=ro }
def CL(P:Program)(o:Oper)(ρ:Fr)(w:World)(K:Value→World→Prop):Prop:=
 match (execOp (ev ρ) o).run P w with
 | .ok (.value v) w'=>K v w'
 | .ok .skip w'=>K undef w'
 | .ok (.enter f args) w'=>Calls P f args w' fun e w''=>∃v,e=.returned v∧K v w''
 | .ok (.row row args) w'=>Rows P row args w' K
 | .ok (.round l f tmps assign body) w'=>RoundIn Fence.wide 0 P l f tmps assign body w' fun e w''=>∃v,e=.returned v∧K v w''
 | _=>False
section
attribute [local semireducible] Step L W
theorem Step.x{P:Program}{o:Oper}{ρ:Fr}{w:World}{K:Value→World→Prop}(h:Step P o ρ w K):CL P o ρ w K:=by
 unfold Step at h;unfold CL;split at h <;> simp_all
theorem NV{P:Program}{ro:Option Nat}{n:Nat}{f:FuncId}{args:Array Value}{w:World}{R:Ending→World→Prop}(h:Calls P f args w R):CallsIn (FR ro) n P f args w R:=(callsIn_wide (n:=n)).2 h
theorem Rh{P:Program}{ro:Option Nat}{n:Nat}{row:String}{args:Array Value}{w:World}{R:Value→World→Prop}(h:Rows P row args w R):RowsIn (FR ro) n P row args w R:=fun c cs _=>by
 obtain⟨v,w',r,s⟩:=h c cs
 exact⟨v,w',r,stepsIn_wide.2 s⟩
theorem PZ{P:Program}{ro:Option Nat}{n l:Nat}{f:FuncId}{tmps:Array Value}{assign body:Code}{w:World}{R:Ending→World→Prop}(h:RoundIn Fence.wide 0 P l f tmps assign body w R):RoundIn (FR ro) n P l f tmps assign body w R:=
 ⟨trivial,fun c cs _=>h.2 c cs (room_wide _)⟩
def AF(o:Oper):Bool:=match o.op with|.defer _=>false|_=>true
theorem CL.upon{P:Program}{o:Oper}{ro:Option Nat}{a:Act}{w:World}{K:Value→World→Prop}{next:Act→World→Prop}{Q:Exit→Act→World→Prop}(hdf:AF o=true)(h:CL P o (C4 a) w K)(hk:∀v w,K v w→next (a.put o.dst v) w) :
  o.wpIn (FR ro) 0 P a w next Q:=by
 refine⟨fun _ _=>trivial,?_⟩
 rw[Oper.semAt_eq _ _ _ (fun c hc=>by simp[AF,hc]at hdf),N7]
 unfold CL at h;generalize (execOp (ev (C4 a)) o).run P w=r at *
 have hdep:∀(x:Nat),(FR ro).depth.isSome=true→1≤x:=fun x hx=>by simp[Fence.wide]at hx
 cases r with
 | ok x w'=>
  cases x <;> simp only[Oper.uponIn]at h ⊢ <;> first
   | exact hk _ _ h
   | exact⟨hdep _,(NV h).mono (fun e w'' he=>by obtain⟨v,rfl,hv⟩:=he;exact hk _ _ hv)⟩
   | exact⟨hdep _,(Rh h).mono hk⟩
   | exact⟨hdep _,(PZ h).mono (fun e w'' he=>by obtain⟨v,rfl,hv⟩:=he;exact hk _ _ hv)⟩
   | exact h.elim
 | halt x w'=>exact h.elim
def Ro(n:Nat)(ds:List Deferred)(Q:Exit→Fr→World→Prop):Exit→Act→World→Prop:=fun e a w=>a.defers=ds∧a.tmps.size=n∧Q e (C4 a) w
def WF(ro:Option Nat)(ds:List Deferred)(P:Program)(n:Nat)(c:Code)(Q:Exit→Fr→World→Prop)(ρ:Fr)(w:World):Prop:=
 ∀a:Act,a.defers=ds→a.tmps.size=n→C4 a=ρ→c.wpIn (FR ro) 0 P (Ro n ds Q) a w
def LX(P:Program)(n:Nat)(Q:Exit→Fr→World→Prop):List Oper→Fr→World→Prop
 | [],ρ,w=>Q .normal ρ w
 | o::l,ρ,w=>(o.guard=none∧E4 n o.dst=true∧AF o=true)∧CL P o ρ w fun v w'=>LX P n Q l (C3 ρ o.dst v) w'
variable {P:Program}{n:Nat}{Q:Exit→Fr→World→Prop}{ρ:Fr}{w:World}{ro:Option Nat}{ds:List Deferred}
theorem LX.ops{ops:Array Oper}:∀(l pre:List Oper) (ρ:Fr) (w:World) (a:Act),ops.toList=pre++l→a.defers=ds→a.tmps.size=n→C4 a=ρ→LX P n Q l ρ w →
  wpOpsIn (FR ro) 0 P ops (Ro n ds Q) (List.range' pre.length l.length) a w
 | [],pre,ρ,w,a,ho,h1,h2,h3,h=>⟨h1,h2,h3 ▸ h⟩
 | o::l,pre,ρ,w,a,ho,h1,h2,h3,h=>by
  obtain⟨⟨hg,hd,hdf⟩,hs⟩:=h;have hoi:ops[pre.length]? = some o:=by rw[←Array.getElem?_toList,ho];simp
  simp only[List.length_cons,List.range'_succ,wpOpsIn,hoi]
  have hwn:Region.wanted o (yielded ops a.tmps)=true:=by simp[Region.wanted,hg]
  rw[if_pos hwn];subst h3;refine CL.upon hdf hs fun v w' hv=>?_
  have:=LX.ops l (pre++[o]) _ w' (a.put o.dst v) (by rw[ho];simp) (by rw[G5];exact h1) (by rw[size_put];exact h2) (N8 a _ v (by rw[h2];exact G4 hd)) hv
  simpa using this
theorem Y5{id:Nat}{l:List Oper}(h:LX P n Q l ρ w):WF ro ds P n (.region id l.toArray false) Q ρ w:=fun a h1 h2 h3=>by
 refine wpIn_region ?_
 have:=LX.ops (ops:=l.toArray) (ro:=ro) (ds:=ds) l [] ρ w a (by simp) h1 h2 h3 h
 simpa[List.range_eq_range'] using this
theorem Np{id:Nat}{c:Code}(h:WF ro ds P n c (MF id Q) ρ w):WF ro ds P n (.block id c) Q ρ w:=fun a hd hs hf=>
 wpIn_block (wpIn_mono (h a hd hs hf) (fun e a w ⟨p,q,r⟩=>by
  cases e <;> first|exact⟨p,q,r⟩|(simp only[MF]at r;simp only[Exit.inBlock];split <;> rename_i h <;> simp only[h,if_true,if_false]at r <;> exact⟨p,q,r⟩)))
theorem Le{id:Nat}{l:List Oper}(h:LX P n Q l ρ w):W P n (.region id l.toArray false) Q ρ w:=fun a h1 h2 h3=>
 (wpIn_wide (n:=0)).1 (Y5 (ro:=none) (ds:=[]) h a h1 h2 h3)
theorem Cs(h:Q .normal ρ w):LX P n Q [] ρ w:=h
theorem BG{o:Oper}{l:List Oper}(h:Step P o ρ w fun v w'=>LX P n Q l (C3 ρ o.dst v) w')(hg:o.guard=none:=by exact rfl)(hd:E4 n o.dst=true:=by exact rfl)(hf:AF o=true:=by exact rfl):LX P n Q (o::l) ρ w:=⟨⟨hg,hd,hf⟩,h.x⟩
theorem xY{o:Oper}{l:List Oper}{v:Value}{Γ:B8}{S:List A7}(h:LX P n Q l (C3 ρ o.dst v) w)(hw:Wd Γ S w:=by exact hw)(hg:o.guard=none:=by exact rfl)(hd:E4 n o.dst=true:=by exact rfl)(hf:AF o=true:=by exact rfl)(hy:Yields P o ρ w v:=by exact If):LX P n Q (o::l) ρ w:=BG (hy.step h) hg hd hf
theorem MZ{Γ:B8}{S:List A7}{l fn:Nat}{r:Loop}{tmps:Array Value}{assign body:Code}{R:Ending→World→Prop}(hr:r.state=.ready)(hp:r.pending=none)(hn:tmps.size=n)(hw:Wd Γ (.blk l (.loop r)::S) w)
  (h:WF (some l) [] P n assign (fun e ρ1 w1=>e=.normal∧∃S1,Wd Γ (.blk l (.loop r)::S1) w1∧∀w2,Wd Γ (.blk l (.loop { r with state:=.busy })::S1) w2 →
   WF (some l) [] P n body (fun e _ w3=>e=.normal∧∃S2,Wd Γ (.blk l (.loop { r with state:=.busy })::S2) w3∧∀w4,Wd Γ (.blk l (.loop r)::S2) w4→R (.returned (.bool true)) w4) ρ1 w2) (fun t=>tmps.getD t undef) w) :
  RoundIn Fence.wide 0 P l fn tmps assign body w R:=by
 refine roundIn_of_wpIn trivial ?_
 have h1:=h { tmps:=tmps,defers:=[] } rfl hn rfl
 refine wpIn_mono h1 ?_
 rintro e a1 w1 ⟨hd1,hs1,he,S1,hw1,hrest⟩
 subst he;have hl1:=hw1.at_blk (i:=0) rfl
 have hlt1:l<w1.heap.size:=(Array.getElem?_eq_some_iff.1 hl1).1
 refine⟨_,run_beginRound hl1 hr,?_⟩
 have hw2:Wd Γ (.blk l (.loop { r with state:=.busy })::S1) (w1.putObj l (.loop { r with state:=.busy })):=
  hw1.set_blk (i:=0) rfl ⟨rfl,rfl,rfl,Nat.le_refl _,by simp⟩ (World.putObj_heap_same hlt1) fun k _ hne=>World.putObj_heap_other hne
 refine wpIn_mono (hrest _ hw2 a1 hd1 hs1 rfl) ?_
 rintro e a3 w3 ⟨hd3,hs3,he,S2,hw3,hfin⟩
 subst he;have hl3:=hw3.at_blk (i:=0) rfl
 have hlt3:l<w3.heap.size:=(Array.getElem?_eq_some_iff.1 hl3).1
 refine⟨_,_,run_endRound none hl3,?_⟩
 refine hfin _ ?_
 have hre:({ { r with state:=.busy } with state:=if (none:Option Code).isNone then .ready else .done,pending:=none }:Loop)=r:=by
  cases r;simp at hr hp ⊢;exact⟨hr.symm,hp.symm⟩
 have:=hw3.set_blk (i:=0) (w':=w3.putObj l (.loop { { r with state:=.busy } with state:=if (none:Option Code).isNone then .ready else .done,pending:=none })) rfl ⟨rfl,rfl,rfl,Nat.le_refl _,by simp⟩ (World.putObj_heap_same hlt3) fun k _ hne=>World.putObj_heap_other hne
 rw[hre]at this ⊢
 exact this
def Nj(P:Program)(Γ:B8)(l:Nat)(N:Nat){α:Type}(vl:α→Value)(I:List α→List A7):Prop:=
 ∀xs x R w,xs.length<N→Wd Γ (I xs++R) w→∃f tmps assign body,(Instr.yield l #[vl x]).run P w=.ok (.round l f tmps assign body) w ∧
  RoundIn Fence.wide 0 P l f tmps assign body w fun e w'=>e=.returned (.bool true)∧Wd Γ (I (xs++[x])++R) w'
theorem Pn{α:Type}{vl:α→Value}{I:List α→List A7}{R:List A7}{l N:Nat}{Γ:B8}{xs:List α}{x:α}{t:Tmp}{arg:Operand}{tys:Array TypeId}{d:Option Tmp}{ty:TypeId}{pos:String}{es:Array Edge}{rest:List Oper}
  (hY:Nj P Γ l N vl I) (hN:xs.length<N) (hw:Wd Γ (I xs++R) w) (h:∀w',Wd Γ (I (xs++[x])++R) w'→LX P n Q rest (C3 ρ d (.bool true)) w')
  (ht:ρ t=.func (.yield l) #[] #[]:=by exact rfl) (hx:ev ρ arg=vl x:=by exact rfl) (hd:E4 n d=true:=by exact rfl) :
  LX P n Q (⟨d,.call { callee:=.value (.tmp t),args:=#[arg],argTypes:=tys },ty,pos,es,none⟩::rest) ρ w:=by
 refine⟨⟨rfl,hd,rfl⟩,?_⟩
 obtain⟨f,tmps,assign,body,h1,h2⟩:=hY xs x R w hN hw
 have hr:(execOp (ev ρ) ⟨d,.call { callee:=.value (.tmp t),args:=#[arg],argTypes:=tys },ty,pos,es,none⟩).run P w=.ok (.round l f tmps assign body) w:=by
  simp only[execOp,resolve,ev,ht,Deferred.ofValue,Sem.run_bind,Sem.run_pure,Result.andThen_ok,invoke]
  have ha:(#[]++#[arg].map (ev ρ):Array Value) = #[vl x]:=by simp[hx]
  first|(rw[ha];exact h1)|(simp only[List.map_toArray,List.map_cons,List.map_nil,hx];exact h1)
 unfold CL;rw[hr];exact h2.mono fun e w' ⟨he,hw'⟩=>⟨_,he,h w' hw'⟩
theorem HQ{Γ:B8}{S:List A7}{g:Operand}{ps:Array Tmp}{assign body:Code}{Q:Exit→Act→World→Prop}{a:Act}{f:Nat}{fst cap:Array Value}[B5 P f](hw:Wd Γ S w)(hg:a.eval g=.func (.func f) fst cap)
  (h:∀(rc:Loop) r l w1,rc.state=.ready→rc.pending=none→rc.tmps=a.tmps→rc.params=ps→rc.assign=assign→rc.body=body→Wd Γ (.blk l (.loop rc)::.blk r (.deferred (some []))::S) w1 →
   Calls P f (fst++#[.func (.yield l) #[] #[]]++cap) w1 fun e w3=>(∃v,e=.returned v)∧∃S',Wd Γ (.blk l (.loop rc)::.blk r (.deferred (some []))::S') w3 ∧
    ∀w4,Wd Γ (.blk r (.deferred (some []))::S') w4→Q .normal { a with defers:={ target:=.collected r,args:=#[] }::a.defers } w4) :
  (Code.rangeFunc g ps assign body).wpIn Fence.wide 0 P Q a w:=by
 refine wpIn_rangeFunc fun fn _=>?_
 have hw1:=(hw.alloc (.deferred (some []))).alloc (.loop { state:=.ready,pending:=none,fn,tmps:=a.tmps,params:=ps,assign,body,defers:=w.heap.size })
 have hres:(resolve a.eval (rangeCall g (w.heap.size+1)) 0).run P ((w.alloc (.deferred (some []))).alloc (.loop { state:=.ready,pending:=none,fn,tmps:=a.tmps,params:=ps,assign,body,defers:=w.heap.size })) =
   .ok { target:=.fn (.func f) cap,args:=fst++#[.func (.yield (w.heap.size+1)) #[] #[]] } ((w.alloc (.deferred (some []))).alloc (.loop { state:=.ready,pending:=none,fn,tmps:=a.tmps,params:=ps,assign,body,defers:=w.heap.size })):=by
  have hmap:(#[Operand.const (Value.func (Fn.yield (w.heap.size+1)) #[] #[])]:Array Operand).map a.eval = #[Value.func (Fn.yield (w.heap.size+1)) #[] #[]]:=by simp[Act.eval]
  simp only[resolve,rangeCall,hg,Deferred.ofValue,Sem.run_pure,hmap]
 refine⟨_,_,_,_,_,f,_,_,run_enterLoop_outer fn a.tmps ps assign body,hres,fun _ _=>trivial,by simp only[invoke];exact M0 _,fun hx=>by simp[Fence.wide]at hx,?_⟩
 refine(callsIn_wide (n:=0-1)).2 ((h _ w.heap.size _ _ rfl rfl rfl rfl rfl rfl (by simpa using hw1)).mono ?_)
 rintro e w3 ⟨⟨v,rfl⟩,S',hw3,hfin⟩
 have hl3:=hw3.at_blk (i:=0) (by rfl)
 have hlt3:w.heap.size+1<w3.heap.size:=by
  have:=(Array.getElem?_eq_some_iff.1 hl3).1
  simpa using this
 refine⟨none,_,run_endLoop (by simpa using hl3) (by simp),?_⟩
 refine hfin _ ?_
 have:=hw3.set_blk (i:=0) (w':=w3.putObj (w.heap.size+1) (.loop { state:=.exhausted,pending:=none,fn,tmps:=a.tmps,params:=ps,assign,body,defers:=w.heap.size })) (by rfl) ⟨rfl,rfl,rfl,Nat.le_refl _,by simp⟩ (by simpa using World.putObj_heap_same hlt3) (fun k _ hne=>World.putObj_heap_other (by simpa using hne))
 exact this.drop
end
attribute [irreducible] CL
end Mk
namespace Mk
theorem HH{P:Program}{n:Nat}{ds:List Deferred}{c:Code}{a:Act}{w:World}{Q':Exit→Act→World→Prop}(h:WF none ds P n c (fun e ρ w=>∀a,a.defers=ds→a.tmps.size=n→C4 a=ρ→Q' e a w) (C4 a) w)(ha:a.defers=ds)(hs:a.tmps.size=n):c.wpIn Fence.wide 0 P Q' a w:=
 wpIn_mono (h a ha hs rfl) fun e a w ⟨x,y,z⟩=>z a x y rfl
theorem Et{args:Array Value}{n:Nat}(hn:Nat.ble args.size n=true):C4 { tmps:=args++Array.replicate (n-args.size) undef,defers:=[] }=S9 args:=by
 funext t
 simp only[C4,S9,Array.getD_eq_getD_getElem?,Array.getElem?_append]
 have hle:args.size≤n:=Nat.le_of_ble_eq_true hn
 by_cases ht:t<args.size
 ·rw[if_pos ht]
 ·rw[if_neg ht,Array.getElem?_eq_none (by omega:args.size≤t)]
  simp only[Array.getElem?_replicate]
  split <;> rfl
def SeqC(P:Program)(Γ:B8)(g:Nat)(fst cap:Array Value)(N:Nat){α:Type}(vl:α→Value)(R:List A7)(V:List α→Prop):Prop:=
 ∀l I w,Nj P Γ l N vl I→Wd Γ (I []++R) w→Calls P g (fst++#[.func (.yield l) #[] #[]]++cap) w fun e w'=>(∃v,e=.returned v)∧∃xs:List α,V xs∧Wd Γ (I xs++R) w'
end Mk
namespace Mk
section
variable {P:Program}{n:Nat}{Γ:B8}{S:List A7}{Q:Exit→Fr→World→Prop}{ρ:Fr}{w:World}{rest:List Oper}
variable {d:Option Tmp}{T U ty:TypeId}{pos:String}{es:Array Edge}{x y z:Operand}{v:Value}
theorem Se{cs:List Value}[TZ P T cs](h:∀b w',Wd Γ (.blk b (.cells cs.toArray T)::S) w'→LX P n Q rest (C3 ρ d (.pointer (some ⟨b,0,none⟩))) w')(hd:E4 n d=true:=by exact rfl)(hw:Wd Γ S w:=by exact hw) :
  LX P n Q (⟨d,.alloc T,ty,pos,es,none⟩::rest) ρ w:=BG (HJ hw h) rfl hd rfl
theorem Ud(h:∀b w',Wd Γ (.blk b (.cells v.cells T)::S) w'→LX P n Q rest (C3 ρ d (.pointer (some ⟨b,0,none⟩))) w')(hx:ev ρ x=v:=by exact R7)(hd:E4 n d=true:=by exact rfl)(hw:Wd Γ S w:=by exact hw) :
  LX P n Q (⟨d,.box T x,ty,pos,es,none⟩::rest) ρ w:=BG (Rv hw hx h) rfl hd rfl
theorem OP{b o i m:Nat}{vs:List Value}{cs:Array Value}{E:TypeId}[hn:Kk P T m](h:∀w',Wd Γ (S.set i (.blk b (.cells (putCells cs o vs) E))) w'→LX P n Q rest ρ w')(hw:Wd Γ S w:=by exact hw)(hx:ev ρ x=.pointer (some ⟨b,o,none⟩):=by exact rfl)
  (hy:ev ρ y=v:=by exact R7) (hv:v.cells.toList=vs:=by exact rfl) (hl:vs.length=m:=by exact rfl) (h1:vs.all (·.oneCell')=true:=by exact rfl) (hi:S[i]? = some (.blk b (.cells cs E)):=by exact p7) (ho:o+m≤cs.size:=by exact Nat.le_of_ble_eq_true rfl) :
  LX P n Q (⟨none,.store T x y,ty,pos,es,none⟩::rest) ρ w:=BG (V6 hn.h hw hx hy hv hl (fun u hu=>(List.all_eq_true.1 h1) u hu) hi ho h) rfl rfl rfl
theorem Io{E by' len sz:Nat}{zs:List Value}{parts:Array (Nat×Operand)}{cells:List Value}(rws:List (List Value))[TL P T E sz by' zs](h:∀a w',Wd Γ (.own (.slice (some a) len len) E sz rws::S) w'→LX P n Q rest (C3 ρ d (.slice (some a) len len)) w')
  (hf:W4 (fun i=>some (i*sz,sz)) ((List.range (len*sz)).map fun i=>zs.getD (i%sz) undef) (parts.toList.map fun p=>(p.1,ev ρ p.2))=some cells:=by exact rfl) (hrw:rws.flatten=cells:=by exact rfl) (hlen:rws.length=len:=by exact rfl) (hr:rws.all (fun r=>Nat.beq r.length sz)=true:=by exact rfl) (hbig:Nat.ble (len*sz) 16777216=true:=by exact rfl) (hw:Wd Γ S w:=by exact hw) (hd:E4 n d=true:=by exact rfl) :
  LX P n Q (⟨d,.buildSlice T len parts,ty,pos,es,none⟩::rest) ρ w:=BG (L9 hw hf hrw hlen (fun r hm=>Nat.eq_of_beq_eq_true ((List.all_eq_true.1 hr) r hm)) (Nat.le_of_ble_eq_true hbig) h) rfl hd rfl
theorem Ue{E by' i sz m c m2 c2:Nat}{zs:List Value}{a a2:Option Addr}{rows rows2:List (List Value)}[TL P T E sz by' zs](h:∀v' w',Wd Γ (S.set i (.own v' E sz (rows++rows2))) w'→LX P n Q rest (C3 ρ d v') w')(hr2:Rd w a2 sz rows2)(hx:ev ρ x=.slice a m c:=by exact rfl)(hy:ev ρ y=.slice a2 m2 c2:=by exact rfl)(hw:Wd Γ S w:=by exact hw)
  (hi:S[i]? = some (.own (.slice a m c) E sz rows):=by exact p7) (h1:rows2.flatten.all (·.oneCell')=true:=by exact rfl) (hm:m2=rows2.length:=by exact rfl) (hb:(m+m2)*by'≤140737488355328:=by omega) (h63:m+m2≤9223372036854775807:=by omega) (hd:E4 n d=true:=by exact rfl) :
  LX P n Q (⟨d,.call { callee:=.builtin .append,args:=#[x,y],argTypes:=#[T,T] },ty,pos,es,none⟩::rest) ρ w:=BG (AN hw hx hy hi hr2 hm (fun u hu=>(List.all_eq_true.1 h1) u hu) hb h63 h) rfl hd rfl
end
end Mk
namespace Mk
theorem ND(p:Nat)(v:Value)(tm:Array Value):((#[p]:Array Nat).zip #[v]).foldl (fun tmps (t,a)=>tmps.setIfInBounds t a) tm=tm.setIfInBounds p v:=by simp
theorem Rc(a:Act)(p:Nat)(v:Value)(h:p<a.tmps.size):(fun t=>(a.tmps.setIfInBounds p v).getD t undef)=upd (C4 a) p v:=Ad a p v h
end Mk
namespace Mk
structure Seen(en:Array MapEntry)(seen:Array Nat)(idx:List Nat):Prop where
 nd:idx.Nodup
 lt:∀i∈idx,i<en.size
 eq:seen.toList=idx.map fun i=>(en[i]?.map (·.born)).getD 0
theorem Seen.nil{en:Array MapEntry}:Seen en #[] []:=⟨List.nodup_nil,by simp,rfl⟩
theorem Seen.next{en:Array MapEntry}{seen:Array Nat}{idx:List Nat}{e:MapEntry}(h:Seen en seen idx)(he:e∈(leftOf en seen).toList):∃i,en[i]? = some e∧i∉idx∧i<en.size∧Seen en (seen.push e.born) (idx++[i]):=by
 obtain⟨h1,h2⟩:=FV.1 he
 obtain⟨i,hi,hie⟩:=List.getElem_of_mem h1
 simp only[Array.length_toList]at hi
 have hie':en[i]? = some e:=by rw[Array.getElem?_eq_getElem hi];simpa using hie
 have hn:i∉idx:=fun hin=>h2 (by
  rw[h.eq];exact List.mem_map.2 ⟨i,hin,by rw[hie'];rfl⟩)
 refine⟨i,hie',hn,hi,⟨?_,?_,?_⟩⟩
 ·rw[List.nodup_append];exact⟨h.nd,by simp,fun a ha b hb=>by simp at hb;subst hb;exact fun e=>hn (e ▸ ha)⟩
 ·intro j hj;rcases List.mem_append.1 hj with hj|hj
  ·exact h.lt j hj
  ·simp at hj;subst hj;exact hi
 ·rw[Array.toList_push,h.eq,List.map_append];simp[hie']
theorem Seen.all{en:Array MapEntry}{seen:Array Nat}{idx:List Nat}(h:Seen en seen idx)(hb:(en.toList.map (·.born)).Nodup)(h0:(leftOf en seen).size=0):idx.Perm (List.range en.size):=by
 refine(List.perm_ext_iff_of_nodup h.nd List.nodup_range).2 fun i=>⟨fun hi=>List.mem_range.2 (h.lt i hi),fun hi=>?_⟩
 have hi:=List.mem_range.1 hi
 have hnl:en[i]∉(leftOf en seen).toList:=fun hm=>by
  have:(leftOf en seen) = #[]:=Array.eq_empty_of_size_eq_zero h0
  rw[this]at hm;simp at hm
 have hb2:en[i].born∈seen.toList:=Classical.byContradiction fun hc=>hnl (FV.2 ⟨by simp,hc⟩)
 rw[h.eq]at hb2;obtain⟨j,hj,hje⟩:=List.mem_map.1 hb2
 have hjl:=h.lt j hj
 rw[Array.getElem?_eq_getElem hjl]at hje;simp only[Option.map_some,Option.getD_some]at hje
 have:j=i:=by
  have hp:=List.pairwise_iff_getElem.1 hb
  rcases Nat.lt_trichotomy j i with h1|h1|h1
  ·exact absurd (by rw[List.getElem_map,List.getElem_map];simpa using hje) (hp j i (by simpa using hjl) (by simpa using hi) h1)
  ·exact h1
  ·exact absurd (by rw[List.getElem_map,List.getElem_map];simpa using hje.symm) (hp i j (by simpa using hi) (by simpa using hjl) h1)
 rwa [this]at hj
theorem Seen.len{en:Array MapEntry}{seen:Array Nat}{idx:List Nat}(h:Seen en seen idx):idx.length≤en.size:=AP _ _ h.nd h.lt
theorem range_map_get{γ δ:Type}(l:List γ)(d:γ)(q:γ→δ):(List.range l.length).map (fun i=>q (l.getD i d))=l.map q:=by
 refine List.ext_getElem? fun i=>?_
 simp only[List.getElem?_map]
 by_cases hi:i<l.length
 ·simp[hi]
 ·rw[List.getElem?_eq_none (by simp;omega),List.getElem?_eq_none (by omega)];rfl
end Mk
end
section
open Go
namespace Mk
def d9(w:World):B8:=⟨fun b=>w.heap[b]?,w.os,w.tape,w.output,w.drawn⟩
theorem Cf(w:World):Wd (d9 w) [] w:=⟨rfl,rfl,rfl,Nat.le_refl _,fun b o h=>h,[],trivial,by simp,by simp⟩
theorem Ga{w w':World}{S:List A7}(h:Wd (d9 w) S w'):∃q os',w'=Go.Sort.grow (w.drewN q) os':=by
 have hsz:w.heap.size≤w'.heap.size:=by
  by_cases h0:w.heap.size=0
  ·omega
  ·have hl:w.heap.size-1<w.heap.size:=by omega
   have:=h.imm (w.heap.size-1) w.heap[w.heap.size-1] (by show w.heap[_]? = _;simp)
   have:=(Array.getElem?_eq_some_iff.1 this).1
   omega
 refine⟨w'.drawn-w.drawn,w'.heap.extract w.heap.size w'.heap.size,?_⟩
 have hh:w'.heap=w.heap++w'.heap.extract w.heap.size w'.heap.size:=by
  refine Array.ext_getElem? fun i=>?_
  rw[Array.getElem?_append];split
  ·rename_i hi
   rw[h.imm i w.heap[i] (by show w.heap[i]? = _;simp[hi]),Array.getElem?_eq_getElem hi]
  ·rename_i hi
   simp only[Array.getElem?_extract]
   split
   ·congr 1;omega
   ·rw[Array.getElem?_eq_none (by omega)]
 have hd:w.drawn≤w'.drawn:=h.dr
 cases w' with
 | mk hp tp dr os out=>
  simp only at hh hd
  have e1:os=w.os:=h.os
  have e2:tp=w.tape:=h.tape
  have e3:out=w.output:=h.out
  subst e1 e2 e3;unfold Go.Sort.grow World.drewN;simp only[World.mk.injEq]
  exact⟨hh,trivial,by omega,trivial,trivial⟩
section
variable {P:Program}{Γ:B8}{S:List A7}{w:World}{α:Type}[Inhabited α]{E k n c g i:Nat}{enc:α→List Value}
attribute [local semireducible] A7.own
theorem DU{v:Value}{sz e:Nat}{rows:List (List Value)}(hw:Wd Γ S w)(hi:S[i]? = some (.own v e sz rows)):∃a n c,v=.slice a n c∧n=rows.length∧n≤c∧c≤maxLen∧(c=0∨∃g cur,a=some ⟨g,0,none⟩∧g<w.heap.size∧w.heap[g]? = some (.cells cur e (0,0))∧cur.size=c*sz∧cur.toList.take (n*sz)=rows.flatten):=by
 obtain⟨bs,_,a,n,c,h1,h2,h3,h4,h5⟩:=hw.own_holds hi
 refine⟨a,n,c,h1,h2,h3,h4,h5.imp (fun h=>h.1) ?_⟩
 rintro⟨g,cur,g1,g2,g3,g4,g5⟩;exact⟨g,cur,g1,(Array.getElem?_eq_some_iff.1 g3).1,g3,g4,g5⟩
theorem CC(hk:∀x,(enc x).length=k)(xs:List α):(Go.Sort.flatK enc k xs.toArray).toList=(xs.map enc).flatten:=by
 have hl:∀r∈xs.map enc,r.length=k:=fun r hr=>by obtain⟨x,_,rfl⟩:=List.mem_map.1 hr;exact hk x
 have h2:(xs.map enc).flatten.length=xs.length*k:=by rw[P3 hl,List.length_map]
 refine List.ext_getElem? fun t=>?_
 by_cases ht:t<xs.length*k
 ·have hk0:0<k:=by
   rcases Nat.eq_zero_or_pos k with h0|h0
   ·subst h0;simp at ht
   ·exact h0
  have h3:t / k<xs.length:=Nat.div_lt_of_lt_mul (by rw[Nat.mul_comm];exact ht)
  have h4:t%k<k:=Nat.mod_lt _ hk0
  have h5:(enc xs[t / k]).length=k:=hk _
  have h6:=AX (rows:=xs.map enc) (i:=t / k) (r:=enc xs[t / k]) hl (by simp[h3]) (t%k) ((enc xs[t / k])[t%k]'(by omega)) (by simp[h5,h4])
  have h7:t / k*k+t%k=t:=by rw[Nat.mul_comm];exact Nat.div_add_mod t k
  rw[h7]at h6;rw[h6];have hs:t<(Go.Sort.flatK enc k xs.toArray).size:=by simpa using ht
  rw[Array.getElem?_toList,Array.getElem?_eq_getElem hs,←getElem!_pos (Go.Sort.flatK enc k xs.toArray) t hs,Go.Sort.get_flatK _ _ _ _ (by simpa using ht)]
  simp[h3,h5,h4]
 ·rw[List.getElem?_eq_none (by simp;omega),List.getElem?_eq_none (by omega)]
theorem Eb{xs:List α}(hk:∀x,(enc x).length=k)(hw:Wd Γ S w)(hi:S[i]? = some (.own (.slice (some ⟨g,0,none⟩) n c) E k (xs.map enc)))(hc:0<c):Go.Sort.HoldsK enc k w g 0 xs.toArray∧g<w.heap.size:=by
 obtain⟨a,n',c',e1,e2,e3,e4,e5⟩:=DU hw hi
 cases e1
 rcases e5 with e5|⟨g',cur,g1,g2,g3,g4,g5⟩
 ·omega
 cases g1
 refine⟨fun j hj=>?_,g2⟩
 have hj':j<xs.length*k:=by simpa using hj
 rw[←CC hk]at g5;have hn:n=xs.length:=by simpa using e2
 subst hn;have h1:(cur.toList.take (xs.length*k))[j]? = cur[j]?:=by rw[List.getElem?_take_of_lt hj',Array.getElem?_toList]
 rw[g5,Array.getElem?_toList,Array.getElem?_eq_getElem hj]at h1;constructor
 ·simp only[World.cell?,g3,Nat.zero_add,id]
  simp only[Option.isSome_none,Bool.false_eq_true,if_false]
  rw[←h1,getElem!_pos _ j hj]
 ·simp[World.frozen?,g3]
theorem V7{xs:List α}(hk:∀x,(enc x).length=k)(hw:Wd Γ S w)(hi:S[i]? = some (.own (.slice (some ⟨g,0,none⟩) n c) E k (xs.map enc)))(hc:0<c)(dk:Array α)(hs:dk.size=xs.length)(m:Nat)(os:Array Obj) :
  Wd Γ (S.set i (.own (.slice (some ⟨g,0,none⟩) n c) E k (dk.toList.map enc))) (Go.Proofs.sortWorldK enc k w g 0 m dk os):=by
 have hsz:(Go.Proofs.sortWorldK enc k w g 0 m dk os).heap.size=w.heap.size+os.size:=by
  simp[Go.Proofs.sortWorldK,Go.Sort.grow,Go.Sort.putRowK,Go.Sort.putRow,Go.Sort.mapBlock,Go.Sort.ahead]
 refine hw.upd hi ⟨rfl,rfl,rfl,Nat.le_add_right _ _,by omega⟩ fun bs hr hnd hlt=>?_
 unfold A7.own at hr ⊢
 obtain⟨h0,a',n',c',e1,e2,e3,e4,e5⟩:=hr;cases e1
 rcases e5 with⟨e5,_⟩|⟨g',cur,g1,rfl,g3,g4,g5⟩
 ·omega
 cases g1
 have hn:n=xs.length:=by simpa using e2
 subst hn;have hglt:g<w.heap.size:=hlt g (by simp)
 have hkk:∀b,b<w.heap.size→(Go.Proofs.sortWorldK enc k w g 0 m dk os).heap[b]? = (w.heap.modify g (Go.Sort.onCells (Go.Sort.putCells id 0 (Go.Sort.flatK enc k dk))))[b]?:=fun b hb=>by
  show ((w.heap.modify g _)++os)[b]? = _
  rw[Array.getElem?_append_left (by simpa using hb)]
 refine⟨[g],⟨fun r hr=>?_,_,_,_,rfl,by simp[hs],e3,e4,.inr ⟨g,Go.Sort.putCells id 0 (Go.Sort.flatK enc k dk) cur,rfl,rfl,?_,?_,?_⟩⟩,by simp,fun b hb=>⟨by have:=hlt b hb;omega,.inl hb⟩,fun b hb hne=>?_⟩
 ·obtain⟨x,_,rfl⟩:=List.mem_map.1 hr;exact hk x
 ·show (Go.Proofs.sortWorldK enc k w g 0 m dk os).heap[g]? = _
  rw[hkk g hglt,Array.getElem?_modify,if_pos rfl];simp only[hp]at g3
  rw[g3];rfl
 ·rw[←g4];simp[Go.Sort.putCells]
 ·rw[show dk.toList.map enc=((dk.toList).map enc) from rfl,←CC hk];refine List.ext_getElem? fun j=>?_
  have hfs:(Go.Sort.flatK enc k dk.toList.toArray).size=xs.length*k:=by simp[hs]
  by_cases hj:j<xs.length*k
  ·have hjc:j<cur.size:=by
    rw[g4];exact Nat.lt_of_lt_of_le hj (Nat.mul_le_mul_right _ e3)
   rw[List.getElem?_take_of_lt hj,Array.getElem?_toList,Array.getElem?_toList,Array.getElem?_eq_getElem (by simpa[Go.Sort.putCells] using hjc),Array.getElem?_eq_getElem (by rw[hfs];exact hj)]
   simp only[Go.Sort.putCells,Array.getElem_mapIdx,Nat.zero_le,Nat.sub_zero,Nat.zero_add,true_and,id]
   rw[if_pos (by simpa[hs] using hj),getElem!_pos _ j (by simpa[hs] using hj)]
  ·rw[List.getElem?_eq_none (by simp;omega),List.getElem?_eq_none (by simp[hs];omega)]
 ·rw[hkk b hb,Array.getElem?_modify,if_neg (fun e=>hne (by simp[e]))]
theorem Dp{d d':Array α}(h:Go.Sort.PermIn 0 d.size d d'):d'.toList.Perm d.toList:=by
 obtain⟨h1,_,h2⟩:=h;have e:∀x:Array α,x.size=d.size→x.extract 0 d.size=x:=fun x hx=>by rw[←hx];simp
 rwa [e d' h1,e d rfl]at h2
theorem Be{lt:α→α→Bool}{d:Array α}{m:Nat}(hm:m=d.size)(h:Go.Sort.SortedIn lt 0 m d):d.toList.Pairwise fun a b=>lt b a=false:=by
 subst hm;rw[List.pairwise_iff_getElem];intro i j hi hj hij;have:=h i j (Nat.zero_le _) hij (by simpa using hj)
 simp only[Array.length_toList]at hi hj
 simpa[hi,hj] using this
theorem Ep{ρ:Go.Shelf.Ren}(L:Go.Proofs.SlLaysF0.n6 P ρ)(cf:α→α→Int)(f:Nat)(cap:List Value)[B5 P f](xs:List α)(v:Value)(hw:Wd Γ S w)(hi:S[i]? = some (.own v E k (xs.map enc)))
  (hk:∀x,(enc x).length=k) (h1:∀x,∀u∈enc x,u.oneCell'=true) (hA:TA P (ρ.t 24) k) (hO:Go.Sort.SWO (Go.Proofs.ltOf cf)) (hlen:xs.length<4611686018427387904)
  (hcmp:∀(dk:List α) w',Wd Γ (S.set i (.own v E k (dk.map enc))) w'→∀x y,Calls P f (#[.agg (enc x).toArray,.agg (enc y).toArray]++cap.toArray) w' fun e w''=>e=.returned (.int .i64 (cf x y))∧∃S'',Wd (d9 w') S'' w'') :
  Calls P (ρ.f 6) #[v,.func (.func f) #[] cap.toArray] w fun e w'=>e=.returned (.tuple #[])∧∃ys:List α,ys.Perm xs∧(ys.Pairwise fun a b=>Go.Proofs.ltOf cf b a=false)∧Wd Γ (S.set i (.own v E k (ys.map enc))) w':=by
 obtain⟨a,n,c,rfl,e2,e3,e4,e5⟩:=DU hw hi
 have hn:n=xs.length:=by simpa using e2
 by_cases h0:n=0
 ·have hx:xs=[]:=List.eq_nil_of_length_eq_zero (by omega)
  subst h0;refine(Go.Proofs.AnyF.slices_SortFunc_none (P:=P) (ρ:=ρ) L a c _ w).mono ?_
  rintro e w' ⟨he,rfl⟩
  refine⟨he,[],by rw[hx],List.Pairwise.nil,?_⟩
  rw[hx]at hi;have hset:S.set i (.own (.slice a 0 c) E k (([]:List α).map enc))=S:=by
   obtain⟨hil,hie⟩:=List.getElem?_eq_some_iff.1 hi
   rw[←hie];exact List.set_getElem_self hil
  rw[hset];exact hw
 ·have hc:0<c:=by omega
  rcases e5 with e5|⟨g,cur,rfl,hg,hcur,hcs,htk⟩
  ·omega
  obtain⟨hH,hgl⟩:=Eb hk hw hi hc
  have haggz:(∀w,(isAgg (ρ.t 24)).run P w=.ok true w)∧∀w,(Go.sizeOf (ρ.t 24)).run P w=.ok k w:=by
   have h:=hA.h
   unfold JN at h;cases hu:P.underlying (ρ.t 24) with
   | none=>simp[hu]at h
   | some t=>
    simp[hu]at h
    cases hq:P.info? (ρ.t 24) with
    | none=>simp[hq]at h
    | some q=>
     simp[hq]at h
     refine⟨fun w=>?_,fun w=>by simp[Go.sizeOf,typeInfo,hq,h.2]⟩
     unfold isAgg;rw[Sem.run_bind,run_underlying hu w];cases t <;> simp_all [TypeDesc.isRow]
  have:=Go.Proofs.AnyQ.slices_SortFunc L k haggz.1 haggz.2 enc hk h1 cf hO f cap.toArray g 0 c xs.toArray w (fun args w=>M0 args) (fun m os dk hdk x y=>?_) hH hgl (by simpa using hlen)
  ·simp only[List.size_toArray]at this
   rw[←hn]at this;refine this.mono ?_
   rintro e w' ⟨he,d',n',os,hp,hs,rfl⟩
   have hd:d'.size=xs.length:=by have:=hp.1;simpa using this
   refine⟨he,d'.toList,by simpa using Dp (d:=xs.toArray) (by simpa[←hn] using hp),Be (m:=n) (by omega) hs,V7 hk hw hi hc d' hd n' os⟩
  ·have hw1:=V7 hk hw hi hc dk (by simpa using hdk) m os
   refine(hcmp dk.toList _ hw1 x y).mono ?_
   rintro e w'' ⟨he,S'',hw2⟩
   exact⟨he,Ga hw2⟩
end
section
variable {P:Program}{n:Nat}{ops:List Oper}{Γ:B8}{S K:List A7}{wr tc stab:List (List Nat)}{Q:Fr→World→Prop}{QQ:Exit→Fr→World→Prop}{i:Nat}{rest:List Oper}{ρ:Fr}{w:World}{M:Nat→Fr→List A7}{v:Value}
variable {d:Option Tmp}{T U ty:TypeId}{pos:String}{es:Array Edge}{x y z:Operand}
theorem Wd.toEnd{r:A7}(h:Wd Γ (r::S) w):Wd Γ (S++[r]) w:=h.perm (List.perm_append_singleton r S).symm
def PH(i:Nat)(S:List A7):List A7:=match S[i]? with|some r=>r::S.eraseIdx i|none=>S
def UY:List Nat→List A7→List A7
 | [],S=>S
 | i::is,S=>UY is (PH i S)
theorem Wd.ps{Γ:B8}{w:World}:∀(is:List Nat) {S:List A7},Wd Γ S w→Wd Γ (UY is S) w
 | [],_,h=>h
 | i::is,S,h=>Wd.ps is (by
  unfold PH;split
  ·rename_i r hr;exact h.pull hr
  ·exact h)
def dsL:List Nat→List A7→List A7
 | [],S=>S
 | i::is,S=>dsL is (S.eraseIdx i)
theorem Wd.ds{Γ:B8}{w:World}:∀(is:List Nat) {S:List A7},Wd Γ S w→Wd Γ (dsL is S) w
 | [],_,h=>h
 | i::is,_,h=>Wd.ds is (h.dropAt i)
theorem Wd.flip{A B:List A7}(h:Wd Γ (A++B) w):Wd Γ (B++A) w:=h.perm List.perm_append_comm
theorem Wd.dropEnd{A B C:List A7}(h:Wd Γ (A++(B++C)) w):Wd Γ (A++B) w:=by
 rw[←List.append_assoc]at h;exact h.left
theorem Wd.right{S':List A7}(h:Wd Γ (S'++S) w):Wd Γ S w:=(h.perm List.perm_append_comm).left
theorem Wd.toFront{r:A7}(h:Wd Γ (S++[r]) w):Wd Γ (r::S) w:=h.perm (List.perm_append_singleton r S)
theorem FC{id:Nat}{l:List Oper}(k:Nat)(wr tc stab:List (List Nat))(h:MSw (mV P n l Γ K wr tc stab) (fun ρ w=>QQ .normal ρ w) 0 l ⟨ρ,ML (List.replicate k fun _=>[])⟩)
  (hw:Wd Γ K w:=by exact hw) (hm:P.follows .mixedOrders=true:=by kernel_rfl) (hk:M4 n l wr tc stab=true:=by kernel_rfl):W P n (.region id l.toArray true) QQ ρ w:=
 BJ K _ wr tc stab (by
  have:((List.range stab.length).flatMap fun x=>ML (List.replicate k fun _=>[]) x (D6 (stab.getD x []) ρ C6))=[]:=by
   rw[List.flatMap_eq_nil_iff];intro x _;unfold ML;rw[List.getD_eq_getElem?_getD];cases hx:(List.replicate k fun _:Fr=>([]:List A7))[x]? with
   | none=>rfl
   | some q=>
    have:=List.mem_of_getElem? hx
    rw[List.mem_replicate]at this;rw[this.2];rfl
  rw[this,List.append_nil];exact hw) h hm hk
theorem j6{id:Nat}{l:List Oper}(K X:List A7)(wr tc:List (List Nat))(hw:Wd Γ (K++X) w)(h:MSw (mV P n l Γ K wr tc [[]]) (fun ρ w=>QQ .normal ρ w) 0 l ⟨ρ,ML [fun _=>X]⟩)
  (hm:P.follows .mixedOrders=true:=by kernel_rfl) (hk:M4 n l wr tc [[]]=true:=by kernel_rfl):W P n (.region id l.toArray true) QQ ρ w:=
 BJ K [fun _=>X] wr tc [[]] (by
  show Wd Γ (K++(X++[])) w
  rw[List.append_nil];exact hw) h hm hk
theorem HW{id:Nat}{l:List Oper}(K X:List A7)(wr tc stab:List (List Nat))(hw:Wd Γ (K++X) w)(h:MSw (mV P n l Γ K wr tc stab) (fun ρ w=>QQ .normal ρ w) 0 l ⟨ρ,ML [fun _=>X,fun _=>[]]⟩)(hs:stab.length=2:=by exact rfl)
  (hm:P.follows .mixedOrders=true:=by kernel_rfl) (hk:M4 n l wr tc stab=true:=by kernel_rfl):W P n (.region id l.toArray true) QQ ρ w:=
 BJ K [fun _=>X,fun _=>[]] wr tc stab (by
  have e:(List.range stab.length).flatMap (fun x=>(ML [fun _=>X,fun _=>[]]) x (D6 (stab.getD x []) ρ C6))=X:=by
   rw[hs];show X++([]++[])=X
   simp
  rw[e];exact hw) h hm hk
theorem Q2{c b o j m:Nat}{cs:Array Value}{E:TypeId}{vs:List Value}{X:List A7}[hn:Kk P T m](h:MSw (mV P n ops Γ K wr tc stab) Q (i+1) rest ⟨ρ,G9 M c fun _=>X.set j (.blk b (.cells (putCells cs o vs) E))⟩)
  (ht:tc.getD i []=[c]:=by exact rfl) (hM:M c=(fun _=>X):=by exact rfl) (hj:X[j]? = some (.blk b (.cells cs E)):=by exact p7) (hw0:wr.getD i []=[c]:=by exact rfl) (hx:∀g,ev (D6 stab.flatten g ρ) x=.pointer (some ⟨b,o,none⟩):=by intro g;exact rfl)
  (hy:∀g,ev (D6 stab.flatten g ρ) y=v:=by intro g;exact R7) (hv:v.cells.toList=vs:=by exact rfl) (hl:vs.length=m:=by exact rfl) (h1:vs.all (·.oneCell')=true:=by exact rfl) (ho:o+m≤cs.size:=by exact Nat.le_of_ble_eq_true rfl) :
  MSw (mV P n ops Γ K wr tc stab) Q i (⟨none,.store T x y,ty,pos,es,none⟩::rest) ⟨ρ,M⟩:=by
 refine mM (v:=undef) _ (fun Y w g hw=>?_) h hw0 rfl
 have e:∀M',D5 tc stab i M' g=M' c (D6 (stab.getD c []) g C6):=fun M'=>by
  unfold D5;rw[ht];simp
 rw[e,hM]at hw;have hjl:j<X.length:=(List.getElem?_eq_some_iff.1 hj).1
 refine V6 hn.h hw (hx g) (hy g) hv hl (fun u hu=>(List.all_eq_true.1 h1) u hu) (i:=K.length+j) (by rw[List.getElem?_append_right (Nat.le_add_right _ _),Nat.add_sub_cancel_left,List.getElem?_append_left hjl];exact hj) ho fun w' hw'=>⟨?_,fun _=>rfl⟩
 have e2:D5 tc stab i (G9 M c fun _=>X.set j (.blk b (.cells (putCells cs o vs) E))) (C3 g none undef)=X.set j (.blk b (.cells (putCells cs o vs) E)):=by
  unfold D5;rw[ht];simp[A6]
 rw[e2];rw[List.set_append_right _ _ (Nat.le_add_right _ _),Nat.add_sub_cancel_left,List.set_append_left _ _ hjl]at hw';exact hw'
theorem R4{c:Nat}{g:Fr}(ht:tc.getD i []=[c])(M:Nat→Fr→List A7):D5 tc stab i M g=M c (D6 (stab.getD c []) g C6):=by unfold D5;rw[ht];simp
theorem AD{c c2:Nat}{g:Fr}(ht:tc.getD i []=[c,c2])(M:Nat→Fr→List A7):D5 tc stab i M g=M c (D6 (stab.getD c []) g C6)++M c2 (D6 (stab.getD c2 []) g C6):=by unfold D5;rw[ht];simp
theorem A1{c c':Nat}{m:Fr→List A7}(h:c'≠c):G9 M c m c'=M c':=by simp[G9,h]
theorem Tm{c b j:Nat}{β:Type}{f:β→Value}{l:List (ByteArray×β)}{a:ByteArray}{X:List A7}{KT ET:TypeId}[hMp:u7 P T KT ET][hK:BN P KT](h:MSw (mV P n ops Γ K wr tc stab) Q (i+1) rest ⟨C3 ρ d (.tuple #[]),G9 M c fun _=>X.set j (A7.ms f b (U9 l a))⟩)
  (ht:tc.getD i []=[c]:=by exact rfl) (hM:M c=(fun _=>X):=by exact rfl) (hj:X[j]? = some (A7.ms f b l):=by exact p7) (hw0:wr.getD i []=[c]:=by exact rfl) (hst:Ai tc stab i d=true:=by exact rfl) (hx:∀g,ev (D6 stab.flatten g ρ) x=.map (some b):=by intro g;exact rfl) (hy:∀g,ev (D6 stab.flatten g ρ) y=.string a:=by intro g;exact rfl) :
  MSw (mV P n ops Γ K wr tc stab) Q i (⟨d,.call { callee:=.builtin .delete,args:=#[x,y],argTypes:=#[T,U] },ty,pos,es,none⟩::rest) ⟨ρ,M⟩:=by
 refine mM (v:=.tuple #[]) _ (fun Y w g hw=>?_) h hw0 rfl
 rw[R4 ht,hM]at hw;have hjl:j<X.length:=(List.getElem?_eq_some_iff.1 hj).1
 refine FA hw (hx g) (hy g) (i:=K.length+j) (by rw[List.getElem?_append_right (Nat.le_add_right _ _),Nat.add_sub_cancel_left,List.getElem?_append_left hjl];exact hj) fun w' hw'=>⟨?_,fun _=>rfl⟩
 rw[Aj hst,R4 ht,A6];rw[List.set_append_right _ _ (Nat.le_add_right _ _),Nat.add_sub_cancel_left,List.set_append_left _ _ hjl]at hw';exact hw'
theorem Kn{c k j m cc sz E:Nat}{a:Option Addr}{r:List Value}{rows:List (List Value)}{X:List A7}[hn:Kk P T sz](h:MSw (mV P n ops Γ K wr tc stab) Q (i+1) rest ⟨ρ,G9 M c fun _=>X.set j (.own (.slice a m cc) E sz (rows.set k r))⟩)
  (ht:tc.getD i []=[c]:=by exact rfl) (hM:M c=(fun _=>X):=by exact rfl) (hj:X[j]? = some (.own (.slice a m cc) E sz rows):=by exact p7) (hw0:wr.getD i []=[c]:=by exact rfl) (hx:∀g,ev (D6 stab.flatten g ρ) x=.pointer (some ⟨aB a,aO a+k*sz,none⟩):=by intro g;exact rfl)
  (hy:∀g,ev (D6 stab.flatten g ρ) y=v:=by intro g;exact R7) (hv:v.cells.toList=r:=by exact rfl) (hl:r.length=sz:=by exact rfl) (h1:r.all (·.oneCell')=true:=by exact rfl) (hk:k<m:=by omega) :
  MSw (mV P n ops Γ K wr tc stab) Q i (⟨none,.store T x y,ty,pos,es,none⟩::rest) ⟨ρ,M⟩:=by
 refine mM (v:=undef) _ (fun Y w g hw=>?_) h hw0 rfl
 rw[R4 ht,hM]at hw;have hjl:j<X.length:=(List.getElem?_eq_some_iff.1 hj).1
 refine Hr hn.h hw (hx g) (hy g) hv hl h1 (i:=K.length+j) (by rw[List.getElem?_append_right (Nat.le_add_right _ _),Nat.add_sub_cancel_left,List.getElem?_append_left hjl];exact hj) hk fun w' hw'=>⟨?_,fun _=>rfl⟩
 rw[R4 ht,A6];rw[List.set_append_right _ _ (Nat.le_add_right _ _),Nat.add_sub_cancel_left,List.set_append_left _ _ hjl]at hw';exact hw'
theorem FW{c dd E by' len sz:Nat}{zs:List Value}{parts:Array (Nat×Operand)}{cells:List Value}(rws:List (List Value))[TL P T E sz by' zs](h:MSw (mV P n ops Γ K wr tc stab) Q (i+1) rest ⟨C3 ρ (some dd) undef,G9 M c fun g=>[.own (g dd) E sz rws]⟩)
  (hf:∀g,W4 (fun i=>some (i*sz,sz)) ((List.range (len*sz)).map fun i=>zs.getD (i%sz) undef) (parts.toList.map fun p=>(p.1,ev (D6 stab.flatten g ρ) p.2))=some cells:=by intro g;exact rfl)
  (ht:tc.getD i []=[c]:=by exact rfl) (hM:M c=(fun _=>[]):=by exact rfl) (hs:(stab.getD c []).contains dd=true:=by exact rfl) (hfr:Q6 stab (some dd)=true:=by exact rfl) (hw0:wr.getD i []=[c]:=by exact rfl)
  (hrw:rws.flatten=cells:=by exact rfl) (hlen:rws.length=len:=by exact rfl) (hr:rws.all (fun r=>Nat.beq r.length sz)=true:=by exact rfl) (hbig:Nat.ble (len*sz) 16777216=true:=by exact rfl) :
  MSw (mV P n ops Γ K wr tc stab) Q i (⟨some dd,.buildSlice T len parts,ty,pos,es,none⟩::rest) ⟨ρ,M⟩:=by
 refine mM (v:=undef) _ (fun Y w g hw=>?_) h hw0 rfl
 rw[R4 ht,hM]at hw;refine L9 (rws:=rws) hw (hf g) hrw hlen (fun r hm=>Nat.eq_of_beq_eq_true ((List.all_eq_true.1 hr) r hm)) (Nat.le_of_ble_eq_true hbig) fun a w' hw'=>⟨?_,fun hh=>by rw[hfr]at hh;cases hh⟩
 rw[R4 ht,A6];have h1:D6 (stab.getD c []) (C3 g (some dd) (.slice (some a) len len)) C6 dd=.slice (some a) len len:=by
  rw[J7 (by simpa using hs)];exact upd_same _ _ _
 rw[h1];exact Wd.unmid hw'
theorem RQ{c c2 dd dy j E by' sz m cc:Nat}{zs:List Value}{a:Option Addr}{rows rows2:List (List Value)}{X:List A7}[TL P T E sz by' zs](h:MSw (mV P n ops Γ K wr tc stab) Q (i+1) rest ⟨C3 ρ (some dd) undef,G9 M c fun g=>X.set j (.own (g dd) E sz (rows++rows2))⟩)
  (hx:∀g,ev (D6 stab.flatten g ρ) x=.slice a m cc:=by intro g;exact rfl) (ht:tc.getD i []=[c,c2]:=by exact rfl) (hM:M c=(fun _=>X):=by exact rfl) (hM2:M c2=(fun g=>[.own (g dy) E sz rows2]):=by exact rfl) (hj:X[j]? = some (.own (.slice a m cc) E sz rows):=by exact p7)
  (hs:(stab.getD c []).contains dd=true:=by exact rfl) (hs2:(stab.getD c2 []).contains dy=true:=by exact rfl) (hfr:Q6 stab (some dd)=true:=by exact rfl) (hfy:stab.flatten.contains dy=true:=by exact rfl) (hne:Nat.beq dy dd=false:=by exact rfl) (hcc:Nat.beq c2 c=false:=by exact rfl) (hw0:wr.getD i []=[c]:=by exact rfl)
  (h1:rows2.flatten.all (·.oneCell')=true:=by exact rfl) (hb:(m+rows2.length)*by'≤140737488355328:=by (simp only[List.length_cons,List.length_nil];omega)) (h63:m+rows2.length≤9223372036854775807:=by (simp only[List.length_cons,List.length_nil];omega)) :
  MSw (mV P n ops Γ K wr tc stab) Q i (⟨some dd,.call { callee:=.builtin .append,args:=#[x,.tmp dy],argTypes:=#[T,T] },ty,pos,es,none⟩::rest) ⟨ρ,M⟩:=by
 refine mM (v:=undef) _ (fun Y w g hw=>?_) h hw0 rfl
 have hyd:dy≠dd:=fun e=>by subst e;simp at hne
 have hcd:c2≠c:=fun e=>by subst e;simp at hcc
 rw[AD ht,hM,hM2]at hw;have h2:∀f:Fr,D6 (stab.getD c2 []) f C6 dy=f dy:=fun f=>J7 (by simpa using hs2)
 simp only[h2]at hw
 have hjl:j<X.length:=(List.getElem?_eq_some_iff.1 hj).1
 have hi1:(K++(X++[.own (g dy) E sz rows2]++Y))[K.length+j]? = some (.own (.slice a m cc) E sz rows):=by
  rw[List.getElem?_append_right (Nat.le_add_right _ _),Nat.add_sub_cancel_left,List.append_assoc,List.getElem?_append_left hjl];exact hj
 have hi2:(K++(X++[.own (g dy) E sz rows2]++Y))[K.length+X.length]? = some (.own (g dy) E sz rows2):=by
  rw[List.getElem?_append_right (Nat.le_add_right _ _),Nat.add_sub_cancel_left,List.append_assoc,List.getElem?_append_right (Nat.le_refl _)];simp
 obtain⟨a2,m2,c3,e1,e2,e3,e4⟩:=hw.own_shape hi2
 have hrd:Rd w a2 sz rows2:=by
  have hw2:=hw
  have hi3:=hi2
  rw[e1]at hw2 hi3
  exact hw2.own_rd hi3
 have hy:ev (D6 stab.flatten g ρ) (.tmp dy)=.slice a2 m2 c3:=by
  show D6 stab.flatten g ρ dy=_
  rw[J7 (by simpa using hfy)];exact e1
 refine AN hw (hx g) hy hi1 hrd e2 (fun u hu=>(List.all_eq_true.1 h1) u hu) (by rw[e2];exact hb) (by rw[e2];exact h63) fun v' w' hw'=>⟨?_,fun hh=>by rw[hfr]at hh;cases hh⟩
 rw[AD ht,A6,A1 hcd,hM2];have h3:D6 (stab.getD c []) (C3 g (some dd) v') C6 dd=v':=by
  rw[J7 (by simpa using hs)];exact upd_same _ _ _
 have h4:C3 g (some dd) v' dy=g dy:=upd_ne _ _ hyd
 simp only[h2,h3,h4]
 rw[List.append_assoc,List.set_append_right _ _ (Nat.le_add_right _ _),Nat.add_sub_cancel_left,List.set_append_left _ _ hjl]at hw';rw[List.append_assoc];exact hw'
theorem EJ{c b o j j2 dv E2 sz2:Nat}{cs:Array Value}{E:TypeId}{rows:List (List Value)}{X:Fr→List A7}[hn:Kk P T 1](h:MSw (mV P n ops Γ K wr tc stab) Q (i+1) rest ⟨ρ,G9 M c fun g=>(X g).set j (.blk b (.cells (putCells cs o [g dv]) E))⟩)
  (ht:tc.getD i []=[c]:=by exact rfl) (hM:M c=X:=by exact rfl) (hj:∀g,(X g)[j]? = some (.blk b (.cells cs E)):=by intro g;exact p7) (hj2:∀g,(X g)[j2]? = some (.own (g dv) E2 sz2 rows):=by intro g;exact p7) (hw0:wr.getD i []=[c]:=by exact rfl) (hx:∀g,ev (D6 stab.flatten g ρ) x=.pointer (some ⟨b,o,none⟩):=by intro g;exact rfl)
  (hs:(stab.getD c []).contains dv=true:=by exact rfl) (hfv:stab.flatten.contains dv=true:=by exact rfl) (ho:o+1≤cs.size:=by exact Nat.le_of_ble_eq_true rfl) :
  MSw (mV P n ops Γ K wr tc stab) Q i (⟨none,.store T x (.tmp dv),ty,pos,es,none⟩::rest) ⟨ρ,M⟩:=by
 refine mM (v:=undef) _ (fun Y w g hw=>?_) h hw0 rfl
 rw[R4 ht,hM]at hw;have hy:ev (D6 stab.flatten g ρ) (.tmp dv)=g dv:=J7 (by simpa using hfv)
 have hg:D6 (stab.getD c []) g C6 dv=g dv:=J7 (by simpa using hs)
 have hjl:j<(X (D6 (stab.getD c []) g C6)).length:=(List.getElem?_eq_some_iff.1 (hj _)).1
 have hjl2:j2<(X (D6 (stab.getD c []) g C6)).length:=(List.getElem?_eq_some_iff.1 (hj2 _)).1
 obtain⟨a2,m2,c3,e1,-,-,-⟩:=hw.own_shape (i:=K.length+j2) (v:=g dv) (e:=E2) (sz:=sz2) (rows:=rows) (by
  rw[List.getElem?_append_right (Nat.le_add_right _ _),Nat.add_sub_cancel_left,List.getElem?_append_left hjl2,hj2,hg])
 refine V6 hn.h hw (hx g) hy (vs:=[g dv]) (by rw[e1];rfl) rfl (fun u hu=>by simp at hu;subst hu;rw[e1];rfl) (i:=K.length+j) (by rw[List.getElem?_append_right (Nat.le_add_right _ _),Nat.add_sub_cancel_left,List.getElem?_append_left hjl];exact hj _) ho fun w' hw'=>⟨?_,fun _=>rfl⟩
 rw[R4 ht,A6];rw[List.set_append_right _ _ (Nat.le_add_right _ _),Nat.add_sub_cancel_left,List.set_append_left _ _ hjl]at hw';simp only[C3,hg]
 exact hw'
end
section
variable {P:Program}{n:Nat}{opa:Array Oper}{Γ:B8}{S:List A7}{QQ:Exit→Fr→World→Prop}{ρ:Fr}{w:World}{rest:List Oper}{j dj:Nat}{want c:Bool}
variable {d:Option Tmp}{op:Op}{T U ty:TypeId}{pos:String}{es:Array Edge}{x y z:Operand}
attribute [local semireducible] L Step gv E8
theorem Jg(h:L P n opa QQ (⟨d,op,ty,pos,es,none⟩::rest) ρ w)(hj:(opa[j]?).bind (·.dst)=some dj:=by exact rfl)(hjn:E4 n (some dj)=true:=by exact rfl)(hc:E8 (ρ dj) want c:=by exact Ha)(hct:c=true:=by with_reducible rfl):L P n opa QQ (⟨d,op,ty,pos,es,some (j,want)⟩::rest) ρ w:=fun a hda hs hf=>by
 subst hct;have h1:=h a hda hs hf
 have hw:=Y1 (⟨d,op,ty,pos,es,some (j,want)⟩:Oper) opa a j want rfl dj hj (by rw[hs];exact G4 hjn _ rfl)
 subst hf;rw[show (Dm (C4 a dj) == some want)=true from hc]at hw;unfold wpList at h1 ⊢
 rw[if_pos hw];rw[if_pos (by simp[Region.wanted])]at h1
 exact h1
theorem JK(h:L P n opa QQ rest (C3 ρ d undef) w)(hj:(opa[j]?).bind (·.dst)=some dj:=by exact rfl)(hjn:E4 n (some dj)=true:=by exact rfl)(hd:E4 n d=true:=by exact rfl)(hc:E8 (ρ dj) want c:=by exact Ha)(hct:c=false:=by with_reducible rfl):L P n opa QQ (⟨d,op,ty,pos,es,some (j,want)⟩::rest) ρ w:=fun a hda hs hf=>by
 subst hct;have hw:=Y1 (⟨d,op,ty,pos,es,some (j,want)⟩:Oper) opa a j want rfl dj hj (by rw[hs];exact G4 hjn _ rfl)
 subst hf;rw[show (Dm (C4 a dj) == some want)=false from hc]at hw;unfold wpList;rw[if_neg (by rw[hw];simp)]
 exact h _ (by rw[G5];exact hda) (by rw[size_put];exact hs) (N8 a _ _ (by rw[hs];exact G4 hd))
theorem lGC(hj:(opa[j]?).bind (·.dst)=some dj)(hjn:E4 n (some dj)=true)(hd:E4 n d=true)(hc:E8 (ρ dj) want c)(ht:c=true→L P n opa QQ (⟨d,op,ty,pos,es,none⟩::rest) ρ w)(hf:c=false→L P n opa QQ rest (C3 ρ d undef) w):L P n opa QQ (⟨d,op,ty,pos,es,some (j,want)⟩::rest) ρ w:=by
 cases hcc:c with
 | true=>exact Jg (ht hcc) hj hjn hc hcc
 | false=>exact JK (hf hcc) hj hjn hd hc hcc
theorem FD{bo:BinOp}(h:L P n opa QQ (⟨d,.binOp bo T x y U,ty,pos,es,none⟩::rest) ρ w):L P n opa QQ (⟨d,.binOp bo T x y U,ty,pos,es,none⟩::rest) ρ w:=h
theorem v7(h:L P n opa QQ (⟨d,.unOp .not T x,ty,pos,es,none⟩::rest) ρ w):L P n opa QQ (⟨d,.unOp .not T x,ty,pos,es,none⟩::rest) ρ w:=h
theorem lT{b:Bool}{o:Oper}(hb:b=true)(h:L P n opa QQ rest (C3 ρ o.dst (.bool true)) w)(hg:o.guard=none:=by exact rfl)(hd:E4 n o.dst=true:=by exact rfl)(hw:Wd Γ S w:=by exact hw)(hy:Yields P o ρ w (.bool b):=by exact If):L P n opa QQ (o::rest) ρ w:=Td hg hd (by rw[hb]at hy;exact hy) h
theorem lF{b:Bool}{o:Oper}(hb:b=false)(h:L P n opa QQ rest (C3 ρ o.dst (.bool false)) w)(hg:o.guard=none:=by exact rfl)(hd:E4 n o.dst=true:=by exact rfl)(hw:Wd Γ S w:=by exact hw)(hy:Yields P o ρ w (.bool b):=by exact If):L P n opa QQ (o::rest) ρ w:=Td hg hd (by rw[hb]at hy;exact hy) h
end
section
variable {P:Program}{n:Nat}{ops:List Oper}{Γ:B8}{S:List A7}{Q:Fr→World→Prop}{ρ:Fr}{rest:List Oper}{j dj:Nat}{want c:Bool}
variable {d:Option Tmp}{op:Op}{T U ty:TypeId}{pos:String}{es:Array Edge}{x y z:Operand}
end
theorem Ca{α:Type}[EF α](a:α):(enc a).all (·.oneCell')=true:=by
 rw[List.all_eq_true];intro u hu;have h:FZ u∈(EF.ks α).map some:=by rw[←EF.kinds a];exact List.mem_map.2 ⟨u,hu,rfl⟩
 obtain⟨k,_,hk⟩:=List.mem_map.1 h
 cases u <;> simp[FZ]at hk <;> rfl
theorem CV{α:Type}[EF α](xs:List α):(xs.map enc).flatten.all (·.oneCell')=true:=by
 rw[List.all_eq_true];intro u hu;obtain⟨r,hr,hur⟩:=List.mem_flatten.1 hu
 obtain⟨x,_,rfl⟩:=List.mem_map.1 hr
 exact(List.all_eq_true.1 (Ca x)) u hur
section
end
attribute [local irreducible] Calls
def L3{T:Type}(φ:T→Fr→Prop)(R:T→List A7):Fr→List A7:=fun g=>[A7.ex (α:={t:T // φ t g}) fun p=>R p.1]
section
variable {P:Program}{n:Nat}{ops:List Oper}{Γ:B8}{K X:List A7}{wr tc stab:List (List Nat)}{N:List Nat}{Q:Fr→World→Prop}{i:Nat}{rest:List Oper}{ρ:Fr}{w:World}{M:Nat→Fr→List A7}{v:Value}{T T':Type}
theorem Wd.as{A B C:List A7}(h:Wd Γ ((A++B)++C) w):Wd Γ (A++(B++C)) w:=by rwa [List.append_assoc]at h
theorem Wd.sa{A B C:List A7}(h:Wd Γ (A++(B++C)) w):Wd Γ ((A++B)++C) w:=by rwa [List.append_assoc]
theorem Wd.tuck{A B C S:List A7}(h:Wd Γ ((A++(B++S))++C) w):Wd Γ (A++(B++(C++S))) w:=h.perm (by
 rw[List.append_assoc,List.append_assoc];exact List.Perm.append_left _ (List.Perm.append_left _ List.perm_append_comm))
theorem Z7{id:Nat}{l:List Oper}{QQ:Exit→Fr→World→Prop}(K X:List A7)(N:List Nat)(wr:List (List Nat))(hw:Wd Γ (K++X) w)
  (h:MSw (mV P n l Γ K wr wr [N]) (fun ρ w=>QQ .normal ρ w) 0 l ⟨ρ,fun _=>L3 (T:=Unit) (fun _ _=>True) (fun _=>X)⟩)
  (hm:P.follows .mixedOrders=true:=by kernel_rfl) (hk:M4 n l wr wr [N]=true:=by kernel_rfl):W P n (.region id l.toArray true) QQ ρ w:=
 OE K (fun _=>L3 (T:=Unit) (fun _ _=>True) (fun _=>X)) wr wr [N] true hm hk (by
  have e:cellsOf (mV P n l Γ K wr wr [N]) (List.range [N].length) (fun _=>L3 (T:=Unit) (fun _ _=>True) (fun _=>X)) ρ=L3 (T:=Unit) (fun _ _=>True) (fun _=>X) (D6 N ρ C6):=by
   show _++[]=_
   rw[List.append_nil];rfl
  show Wd Γ (K++cellsOf (mV P n l Γ K wr wr [N]) (List.range [N].length) (fun _=>L3 (T:=Unit) (fun _ _=>True) (fun _=>X)) ρ) w
  rw[e];have h1:Wd Γ (X++K) w:=hw.perm List.perm_append_comm
  have h2:=Wd.closeEx (α:={t:Unit // True}) (X:=fun _=>X) ⟨(),trivial⟩ h1
  exact(h2.perm (List.perm_append_singleton _ K).symm:_)) h
theorem Z2{φ:T→Fr→Prop}{R:T→List A7}{o:Oper}(φ':T'→Fr→Prop)(R':T'→List A7)
  (hs:∀t g w Y,φ t (D6 N g C6)→Wd Γ (R t++(K++Y)) w→Step P o (D6 N g ρ) w fun u w'=>∃t',φ' t' (D6 N (C3 g o.dst u) C6)∧(Q6 [N] o.dst=false→u=v)∧Wd Γ (R' t'++(K++Y)) w')
  (h:MSw (mV P n ops Γ K wr wr [N]) Q (i+1) rest ⟨C3 ρ o.dst v,G9 M 0 (L3 φ' R')⟩) (hM:M 0=L3 φ R:=by first|exact A6|exact rfl) (hw0:wr.getD i []=[0]:=by exact rfl) (hg:o.guard=none:=by exact rfl) :
  MSw (mV P n ops Γ K wr wr [N]) Q i (o::rest) ⟨ρ,M⟩:=by
 refine mM _ (fun Y w g hw=>?_) h hw0 hg
 have e:D5 wr [N] i M g=L3 φ R (D6 N g C6):=by
  rw[R4 hw0,hM];rfl
 rw[e]at hw;have e0:([N].flatten:List Nat)=N:=by simp
 rw[e0];obtain⟨⟨t,ht⟩,hw1⟩:=(Wd.mid hw).openEx
 refine(hs t g w Y ht hw1).mono ?_
 rintro u w' ⟨t',h1,h2,h3⟩
 refine⟨?_,h2⟩
 have e2:D5 wr [N] i (G9 M 0 (L3 φ' R')) (C3 g o.dst u)=L3 φ' R' (D6 N (C3 g o.dst u) C6):=by
  rw[R4 hw0,A6];rfl
 rw[e2];exact Wd.unmid (Wd.closeEx (X:=fun p:{t:T' // φ' t (D6 N (C3 g o.dst u) C6)}=>R' p.1) ⟨t',h1⟩ h3)
theorem j7{φ:T→Fr→Prop}{R:T→List A7}{f:Nat}{d:Option Tmp}{ty:TypeId}{pos:String}{es:Array Edge}{args:List Operand}{tys:Array TypeId}[B5 P f](φ':T'→Fr→Prop)(R':T'→List A7)(vs:T→Fr→List Value)
  (hs:∀t g w Y,φ t (D6 N g C6)→Wd Γ (R t++(K++Y)) w→Calls P f (vs t (D6 N g C6)).toArray w fun e w'=>∃u,e=.returned u∧∃t',φ' t' (D6 N (C3 g d u) C6)∧(Q6 [N] d=false→u=v)∧Wd Γ (R' t'++(K++Y)) w')
  (h:MSw (mV P n ops Γ K wr wr [N]) Q (i+1) rest ⟨C3 ρ d v,G9 M 0 (L3 φ' R')⟩) (ha:∀t g,φ t (D6 N g C6)→EvL (D6 N g ρ) args (vs t (D6 N g C6)):=by (intro t g ht;exact r8)) (hM:M 0=L3 φ R:=by first|exact A6|exact rfl) (hw0:wr.getD i []=[0]:=by exact rfl) :
  MSw (mV P n ops Γ K wr wr [N]) Q i (⟨d,.call { callee:=.value (.func f),args:=args.toArray,argTypes:=tys },ty,pos,es,none⟩::rest) ⟨ρ,M⟩:=
 Z2 φ' R' (fun t g w Y ht hw=>Y8 (ha t g ht).eqA (hs t g w Y ht hw)) h hM hw0 rfl
theorem y6{φ:T→Fr→Prop}{R:T→List A7}(h:∀t w g,φ t (D6 N g C6)→Wd Γ (R t++K) w→Q (D6 N g ρ) w)(hM:M 0=L3 φ R:=by first|exact A6|exact rfl):MSw (mV P n ops Γ K wr tc [N]) Q i [] ⟨ρ,M⟩:=
 K3 fun w g hw=>by
  have e:((List.range [N].length).flatMap fun x=>M x (D6 ([N].getD x []) g C6))=L3 φ R (D6 N g C6):=by
   show M 0 _++[]=_
   rw[List.append_nil,hM];rfl
  rw[e]at hw;have e0:([N].flatten:List Nat)=N:=by simp
  rw[e0];obtain⟨⟨t,ht⟩,hw1⟩:=(Wd.mid (Y:=[]) hw).openEx
  exact h t w g ht (by simpa using hw1)
end
end Mk
end
section
open Go
namespace Mk
def cI(a b:Int):Int:=if a<b then -1 else if b<a then 1 else 0
def cB(a b:ByteArray):Int:=if V9 a b=true then -1 else if V9 b a=true then 1 else 0
def z8(x y:Int):Int:=if x=0 then y else x
def cL{α:Type}(c:α→α→Int):List α→List α→Int
 | [],[]=>0
 | [],_::_=>-1
 | _::_,[]=>1
 | a::l,b::k=>z8 (c a b) (cL c l k)
structure P1{α:Type}(c:α→α→Int):Prop where
 rng:∀a b,c a b = -1∨c a b=0∨c a b=1
 eq0:∀ {a b},c a b=0→a=b
 refl:∀a,c a a=0
 anti:∀a b,c b a = -(c a b)
 trans:∀ {a b d},c a b = -1→c b d = -1→c a d = -1
theorem Tq{a b:Int}:cI a b = -1↔a<b:=by
 unfold cI;by_cases h:a<b
 ·simp[h]
 ·by_cases h2:b<a <;> simp[h,h2]
theorem Cn:P1 cI where
 rng a b:=by
  unfold cI;by_cases h:a<b
  ·simp[h]
  ·by_cases h2:b<a <;> simp[h,h2]
 eq0 {a b} e:=by
  unfold cI at e;by_cases h:a<b
  ·simp[h]at e
  ·by_cases h2:b<a
   ·simp[h,h2]at e
   ·omega
 refl a:=by unfold cI;simp
 anti a b:=by
  unfold cI;by_cases h:a<b
  ·rw[if_neg (by omega),if_pos h,if_pos h];rfl
  ·by_cases h2:b<a
   ·rw[if_pos h2,if_neg h,if_pos h2]
   ·rw[if_neg h2,if_neg h,if_neg h,if_neg h2];rfl
 trans {a b d} h k:=by rw[Tq] at *;omega
theorem SE{a b:ByteArray}:cB a b = -1↔V9 a b=true:=by
 unfold cB;cases h:V9 a b with
 | true=>simp
 | false=>cases V9 b a <;> simp
theorem KU:P1 cB where
 rng a b:=by unfold cB;cases V9 a b <;> cases V9 b a <;> simp
 eq0 {a b} h:=by
  unfold cB at h;cases h1:V9 a b with
  | true=>rw[h1]at h;cases h
  | false=>
   cases h2:V9 b a with
   | true=>rw[h1,h2]at h;cases h
   | false=>exact l7 h1 h2
 refl a:=by unfold cB;simp[P2]
 anti a b:=by
  unfold cB;cases h1:V9 a b with
  | true=>rw[BF h1];rfl
  | false=>cases h2:V9 b a <;> rfl
 trans {a b d} h k:=by rw[SE] at *;exact l9 h k
section
variable {α β:Type}{c:α→α→Int}{c2:β→β→Int}
theorem CN{x y:Int}:z8 x y=0↔x=0∧y=0:=by
 unfold z8;split
 ·rename_i h;simp[h]
 ·rename_i h;simp[h]
theorem P1.map(h:P1 c)(f:β→α)(hf:∀a b,f a=f b→a=b):P1 (fun a b=>c (f a) (f b)):=
 ⟨fun _ _=>h.rng _ _,fun e=>hf _ _ (h.eq0 e),fun _=>h.refl _,fun _ _=>h.anti _ _,fun a b=>h.trans a b⟩
theorem Kr{x y:Int}:z8 x y = -1↔x = -1∨(x=0∧y = -1):=by
 unfold z8;split
 ·rename_i h;subst h;simp
 ·rename_i h;simp[h]
theorem P1.prod(h:P1 c)(h2:P1 c2):P1 (fun (a b:α×β)=>z8 (c a.1 b.1) (c2 a.2 b.2)) where
 rng a b:=by
  unfold z8;split
  ·exact h2.rng _ _
  ·exact h.rng _ _
 eq0 {a b} e:=by
  rw[CN]at e;exact Prod.ext (h.eq0 e.1) (h2.eq0 e.2)
 refl a:=by rw[CN];exact⟨h.refl _,h2.refl _⟩
 anti a b:=by
  unfold z8;rw[h.anti a.1 b.1,h2.anti a.2 b.2];by_cases e:c a.1 b.1=0
  ·simp[e]
  ·rw[if_neg (by omega),if_neg e]
 trans {a b d} e k:=by
  rw[Kr] at *
  rcases e with e|⟨e,e'⟩ <;> rcases k with k|⟨k,k'⟩
  ·exact .inl (h.trans e k)
  ·rw[←h.eq0 k];exact .inl e
  ·rw[h.eq0 e];exact .inl k
  ·rw[h.eq0 e];exact .inr ⟨k,h2.trans e' k'⟩
theorem Pi(h:P1 c):∀a b,cL c a b = -1∨cL c a b=0∨cL c a b=1
 | [],[]=>.inr (.inl rfl)
 | [],_::_=>.inl rfl
 | _::_,[]=>.inr (.inr rfl)
 | a::l,b::k=>by
  unfold cL z8;split
  ·exact Pi h l k
  ·exact h.rng _ _
theorem OF(h:P1 c):∀ {a b},cL c a b=0→a=b
 | [],[],_=>rfl
 | [],_::_,e=>by cases e
 | _::_,[],e=>by cases e
 | a::l,b::k,e=>by
  unfold cL at e;rw[CN]at e;rw[h.eq0 e.1,OF h e.2]
theorem LS(h:P1 c):∀a,cL c a a=0
 | []=>rfl
 | a::l=>by unfold cL;rw[CN];exact⟨h.refl _,LS h l⟩
theorem Kp(h:P1 c):∀a b,cL c b a = -(cL c a b)
 | [],[]=>rfl
 | [],_::_=>rfl
 | _::_,[]=>rfl
 | a::l,b::k=>by
  unfold cL z8;rw[h.anti a b,Kp h l k];by_cases e:c a b=0
  ·simp[e]
  ·rw[if_neg (by omega),if_neg e]
theorem IV(h:P1 c):∀ {a b d},cL c a b = -1→cL c b d = -1→cL c a d = -1
 | [],_,_::_,_,_=>rfl
 | [],[],[],e,_=>by cases e
 | [],_::_,[],_,k=>by cases k
 | _::_,[],_,e,_=>by cases e
 | _::_,_::_,[],_,k=>by cases k
 | a::l,b::m,d::n,e,k=>by
  unfold cL at *
  rw[Kr] at *
  rcases e with e|⟨e,e'⟩ <;> rcases k with k|⟨k,k'⟩
  ·exact .inl (h.trans e k)
  ·rw[←h.eq0 k];exact .inl e
  ·rw[h.eq0 e];exact .inl k
  ·rw[h.eq0 e];exact .inr ⟨k,IV h e' k'⟩
theorem P1.list(h:P1 c):P1 (cL c):=⟨Pi h,OF h,LS h,Kp h,IV h⟩
theorem P1.lt_iff(h:P1 c){a b:α}:Go.Proofs.ltOf c a b=true↔c a b = -1:=by
 unfold Go.Proofs.ltOf;rw[decide_eq_true_iff];rcases h.rng a b with e|e|e <;> rw[e] <;> simp
theorem P1.swo(h:P1 c):Go.Sort.SWO (Go.Proofs.ltOf c) where
 irrefl x:=by unfold Go.Proofs.ltOf;rw[h.refl];rfl
 trans x y z e k:=by rw[h.lt_iff] at *;exact h.trans e k
 ntrans x y z e k:=by
  cases q:Go.Proofs.ltOf c x z with
  | false=>rfl
  | true=>
   rw[h.lt_iff]at q;rcases h.rng x y with a|a|a
   ·rw[h.lt_iff.2 a]at e;cases e
   ·have:=h.eq0 a;subst this;rw[h.lt_iff.2 q]at k;cases k
   ·have:c y x = -1:=by rw[h.anti x y,a]
    rw[h.lt_iff.2 (h.trans this q)]at k;cases k
end
attribute [local irreducible] Calls
class PG(P:Program)(Γ:B8)(f:Nat)(args:List Value)(v:outParam Value):Prop where
 h:∀S w,Wd Γ S w→Calls P f args.toArray w fun e w'=>e=.returned v∧Wd Γ S w'
section
variable {P:Program}{n:Nat}{ops:List Oper}{opa:Array Oper}{Γ:B8}{S K:List A7}{Q:Fr→World→Prop}{QQ:Exit→Fr→World→Prop}{ρ:Fr}{w:World}{rest:List Oper}{wr tc stab:List (List Nat)}{i:Nat}{M:Nat→Fr→List A7}
variable {d:Option Tmp}{ty:TypeId}{pos:String}{es:Array Edge}{v:Value}{f:Nat}{args:List Operand}{tys:Array TypeId}{vs:List Value}{j dj:Nat}{want c:Bool}{g:Option (Nat×Bool)}
theorem Qv[B5 P f](hp:PG P Γ f vs v)(ha:EvL ρ args vs)(hw:Wd Γ S w):Step P ⟨d,.call { callee:=.value (.func f),args:=args.toArray,argTypes:=tys },ty,pos,es,g⟩ ρ w fun u w'=>u=v∧Wd Γ S w':=
 Y8 ha.eqA ((hp.h S w hw).mono fun _ _ ⟨h1,h2⟩=>⟨v,h1,rfl,h2⟩)
theorem PN[B5 P f](h:∀w',Wd Γ S w'→L P n opa QQ rest (C3 ρ d v) w')(hw:Wd Γ S w:=by exact hw)(ha:EvL ρ args vs:=by exact r8)(hd:E4 n d=true:=by exact rfl)(hp:PG P Γ f vs v:=by infer_instance) :
  L P n opa QQ (⟨d,.call { callee:=.value (.func f),args:=args.toArray,argTypes:=tys },ty,pos,es,none⟩::rest) ρ w:=
 H1 rfl hd ((Qv hp ha hw).mono fun _ w' ⟨h1,h2⟩=>by subst h1;exact h w' h2)
theorem OD[B5 P f](h:Qw P n ops Γ S Q rest (C3 ρ d v))(ha:EvL ρ args vs:=by exact r8)(hp:PG P Γ f vs v:=by infer_instance) :
  Qw P n ops Γ S Q (⟨d,.call { callee:=.value (.func f),args:=args.toArray,argTypes:=tys },ty,pos,es,none⟩::rest) ρ:=
 Ty rfl rfl (fun _ _ hw=>Qv hp ha hw) h
theorem FX[B5 P f](h:Qw P n ops Γ S Q rest (C3 ρ d (gv c v)))(hj:(ops[j]?).bind (·.dst)=some dj:=by exact rfl)(hc:E8 (ρ dj) want c:=by exact Ha)(ha:c=true→EvL ρ args vs:=by intro hc;exact IH)(hp:PG P Γ f vs v:=by infer_instance) :
  Qw P n ops Γ S Q (⟨d,.call { callee:=.value (.func f),args:=args.toArray,argTypes:=tys },ty,pos,es,some (j,want)⟩::rest) ρ:=
 RY rfl hj hc rfl (fun ht _ _ hw=>Qv hp (ha ht) hw) h
theorem mPg[B5 P f](h:MSw (mV P n ops Γ K wr tc stab) Q (i+1) rest ⟨C3 ρ d v,M⟩)(hw0:wr.getD i []=[]:=by exact rfl)(ho:Ai tc stab i d=true:=by exact rfl)(ha:∀g,EvL (D6 stab.flatten g ρ) args vs:=by intro g;exact r8)(hp:PG P Γ f vs v:=by infer_instance) :
  MSw (mV P n ops Γ K wr tc stab) Q i (⟨d,.call { callee:=.value (.func f),args:=args.toArray,argTypes:=tys },ty,pos,es,none⟩::rest) ⟨ρ,M⟩:=
 mC (fun _ _ g hw=>Qv hp (ha g) hw) hw0 rfl ho h
end
theorem Wd.freeze{Γ:B8}{S:List A7}{w:World}{v:Value}{e sz:Nat}{rows:List (List Value)}(h:Wd Γ (.own v e sz rows::S) w):∃Γ',Γ.le Γ'∧D3 Γ' v sz rows∧Wd Γ' S w:=by
 obtain⟨bss,h1,h2,h3⟩:=h.own;cases bss with
 | nil=>exact h1.elim
 | cons bs bss=>
  obtain⟨hr,h1⟩:=h1;unfold A7.own at hr;obtain⟨e0,a,n,c,e1,e2,e3,e4,e5⟩:=hr;rcases e5 with⟨e5,e6⟩|⟨g,cur,g1,g2,g3,g4,g5⟩
  ·subst e6;refine⟨Γ,B8.le.refl _,by unfold D3;exact⟨e0,a,n,c,e1,e2,e3,e4,fun hl=>by omega⟩,h.os,h.tape,h.out,h.dr,h.imm,bss,h1,by simpa using h2,fun b hb=>h3 b (by simpa using hb)⟩
  ·subst g2;have hg:=h3 g (by simp)
   have hnd:g∉bss.flatten∧bss.flatten.Nodup:=by simpa using h2
   have hle:∀b o,Γ.imm b=some o→(fun b=>if b=g then some (Obj.cells cur e (0,0)) else Γ.imm b) b=some o:=fun b o hb=>by
    show (if b=g then _ else _)=_
    rw[if_neg (fun hh=>by subst hh;rw[hg.2]at hb;cases hb)];exact hb
   refine⟨{ Γ with imm:=fun b=>if b=g then some (.cells cur e (0,0)) else Γ.imm b },⟨hle,rfl,rfl,rfl,rfl⟩,?_,h.os,h.tape,h.out,h.dr,fun b o hb=>?_,bss,Holds.loc hle S bss (fun _ _=>rfl) h1,hnd.2,fun b hb=>⟨(h3 b (by simp[hb])).1,?_⟩⟩
   ·unfold D3;refine⟨e0,a,n,c,e1,e2,e3,e4,fun _=>⟨g,0,cur,e,(0,0),g1,if_pos rfl,fun j u hu=>?_⟩⟩
    rw[←g5]at hu;rw[List.getElem?_take]at hu;split at hu
    ·rw[Nat.zero_add];simpa using hu
    ·cases hu
   ·have hb:(if b=g then some (Obj.cells cur e (0,0)) else Γ.imm b)=some o:=hb
    by_cases hbg:b=g
    ·subst hbg;rw[if_pos rfl]at hb;cases hb
     exact g3
    ·rw[if_neg hbg]at hb;exact h.imm b o hb
   ·show (if b=g then _ else _)=none
    rw[if_neg (fun hh=>by subst hh;exact hnd.1 hb)]
    exact(h3 b (by simp[hb])).2
theorem Kz{P:Program}{n:Nat}{c:Code}{Q:Exit→Fr→World→Prop}{ρ:Fr}{w:World}{l:List (Nat×Value)}(h:Has ρ l)(k:∀ρ',Has ρ' l→W P n c Q ρ' w):W P n c Q ρ w:=k ρ h
theorem Ba{P:Program}{n:Nat}{c1 c2:Code}{Q:Exit→Fr→World→Prop}{ρ:Fr}{w:World}(I:Fr→World→Prop)(h1:W P n c1 (My I Q) ρ w)(h2:∀ρ w,I ρ w→W P n c2 Q ρ w):W P n (.seq c1 c2) Q ρ w:=
 W7 (h1.mono fun e ρ w h=>by cases e <;> first|exact h2 _ _ h|exact h)
section
variable {P:Program}{n:Nat}{ops:List Oper}{Γ:B8}{K:List A7}{Q:Fr→World→Prop}{ρ:Fr}{rest:List Oper}{wr tc stab:List (List Nat)}{i:Nat}{M:Nat→Fr→List A7}
variable {T ty:TypeId}{pos:String}{es:Array Edge}{x y:Operand}
theorem Ow{c c2 dx dy dd E by' sz:Nat}{zs:List Value}{rows rows2:List (List Value)}[TL P T E sz by' zs](h:MSw (mV P n ops Γ K wr tc stab) Q (i+1) rest ⟨C3 ρ (some dd) undef,G9 M c fun g=>[.own (g dd) E sz (rows++rows2)]⟩)
  (h1:∀u∈rows2.flatten,u.oneCell'=true) (ht:tc.getD i []=[c,c2]:=by exact rfl) (hM:M c=(fun g=>[.own (g dx) E sz rows]):=by exact rfl) (hM2:M c2=(fun g=>[.own (g dy) E sz rows2]):=by exact rfl) (hcc:c2≠c:=by decide) (hdd:dy≠dd:=by decide)
  (hs:(stab.getD c []).contains dd=true:=by exact rfl) (hsx:(stab.getD c []).contains dx=true:=by exact rfl) (hsy:(stab.getD c2 []).contains dy=true:=by exact rfl) (hfx:stab.flatten.contains dx=true:=by exact rfl) (hfy:stab.flatten.contains dy=true:=by exact rfl) (hfr:Q6 stab (some dd)=true:=by exact rfl) (hw0:wr.getD i []=[c]:=by exact rfl)
  (hb:(rows.length+rows2.length)*by'≤140737488355328:=by omega) (h63:rows.length+rows2.length≤9223372036854775807:=by omega) :
  MSw (mV P n ops Γ K wr tc stab) Q i (⟨some dd,.call { callee:=.builtin .append,args:=#[.tmp dx,.tmp dy],argTypes:=#[T,T] },ty,pos,es,none⟩::rest) ⟨ρ,M⟩:=by
 refine mM (v:=undef) _ (fun Y w g hw=>?_) h hw0 rfl
 rw[AD ht,hM,hM2]at hw;have h2:D6 (stab.getD c []) g C6 dx=g dx:=J7 (by simpa using hsx)
 have h2':D6 (stab.getD c2 []) g C6 dy=g dy:=J7 (by simpa using hsy)
 simp only[h2,h2']at hw
 have hi1:(K++(([.own (g dx) E sz rows]++[.own (g dy) E sz rows2])++Y))[K.length]? = some (.own (g dx) E sz rows):=by
  rw[List.getElem?_append_right (Nat.le_refl _)];simp
 have hj1:(K++(([.own (g dx) E sz rows]++[.own (g dy) E sz rows2])++Y))[K.length+1]? = some (.own (g dy) E sz rows2):=by
  rw[List.getElem?_append_right (by omega)];simp
 obtain⟨a,m1,c1,e1,e2,e3,e4⟩:=hw.own_shape hi1
 obtain⟨a2,m2,k2,f1,f2,f3,f4⟩:=hw.own_shape hj1
 have hx:ev (D6 stab.flatten g ρ) (.tmp dx)=.slice a m1 c1:=by
  show D6 stab.flatten g ρ dx=_
  rw[J7 (by simpa using hfx)];exact e1
 have hy:ev (D6 stab.flatten g ρ) (.tmp dy)=.slice a2 m2 k2:=by
  show D6 stab.flatten g ρ dy=_
  rw[J7 (by simpa using hfy)];exact f1
 have hr:Rd w a2 sz rows2:=by
  have hj2:=hj1
  rw[f1]at hj2;exact hw.own_rd (i:=K.length+1) (by rw[hj1,f1])
 refine AN (i:=K.length) (rows:=rows) hw hx hy (by rw[hi1,e1]) hr f2 h1 (by rw[e2,f2];exact hb) (by rw[e2,f2];exact h63) fun v' w' hw'=>⟨?_,fun hh=>by rw[hfr]at hh;cases hh⟩
 rw[AD ht,A6,A1 hcc,hM2];have h3:D6 (stab.getD c []) (C3 g (some dd) v') C6 dd=v':=by
  rw[J7 (by simpa using hs)];exact upd_same _ _ _
 have h4:D6 (stab.getD c2 []) (C3 g (some dd) v') C6 dy=g dy:=by
  rw[J7 (by simpa using hsy)];exact upd_ne _ _ hdd
 simp only[h3,h4]
 rw[List.set_append_right _ _ (Nat.le_refl _),Nat.sub_self]at hw';exact hw'
end
section
variable {P:Program}{n:Nat}{ops:List Oper}{Γ:B8}{K X:List A7}{wr tc stab:List (List Nat)}{s0:List Nat}{Q:Fr→World→Prop}{i:Nat}{rest:List Oper}{ρ:Fr}{w:World}{M:Nat→Fr→List A7}{v:Value}{T T':Type}
variable {ty:TypeId}{pos:String}{es:Array Edge}
theorem TE{f t:Nat}{d:Option Tmp}{args:List Operand}{tys:Array TypeId}{vs:List Value}[B5 P f](h:MSw (mV P n ops Γ K wr tc stab) Q (i+1) rest ⟨C3 ρ d v,M⟩)(ht:∀g,D6 stab.flatten g ρ t=.func (.func f) #[] #[]:=by intro g;exact rfl)(hw0:wr.getD i []=[]:=by exact rfl)(ho:Ai tc stab i d=true:=by exact rfl)(ha:∀g,EvL (D6 stab.flatten g ρ) args vs:=by intro g;exact r8)(hp:PG P Γ f vs v:=by infer_instance) :
  MSw (mV P n ops Γ K wr tc stab) Q i (⟨d,.call { callee:=.value (.tmp t),args:=args.toArray,argTypes:=tys },ty,pos,es,none⟩::rest) ⟨ρ,M⟩:=
 mC (fun Y w g hw=>HP (ht g) (ha g).eqA (by
  have h1:(#[]++vs.toArray++#[]:Array Value)=vs.toArray:=by simp
  rw[h1];exact(hp.h _ w hw).mono fun _ _ ⟨h1,h2⟩=>⟨v,h1,rfl,h2⟩)) hw0 rfl ho h
theorem D3.imm{Γ Γ':B8}{v:Value}{sz:Nat}{rows:List (List Value)}(h:D3 Γ v sz rows)(hi:∀b o,Γ.imm b=some o→Γ'.imm b=some o):D3 Γ' v sz rows:=by
 unfold D3 at *
 obtain⟨h0,a,n,c,h1,h2,h3,h4,h5⟩:=h;refine⟨h0,a,n,c,h1,h2,h3,h4,fun hl=>?_⟩
 obtain⟨g,o,cur,e,fr,k1,k2,k3⟩:=h5 hl
 exact⟨g,o,cur,e,fr,k1,hi _ _ k2,k3⟩
end
theorem Gr{α:Type}{lt:α→α→Bool}:∀ {xs ys:List α},(xs.Pairwise fun a b=>lt a b=true)→(ys.Pairwise fun a b=>lt b a=false)→ys.Perm xs→ys=xs
 | [],_,_,_,h=>List.perm_nil.1 h
 | x::xs,[],_,_,h=>absurd h.length_eq (by simp)
 | x::xs,y::ys,hx,hy,h=>by
  have hxy:x=y:=by
   have h1:y∈x::xs:=h.subset (List.mem_cons_self ..)
   have h2:x∈y::ys:=h.symm.subset (List.mem_cons_self ..)
   rcases List.mem_cons.1 h1 with e|e
   ·exact e.symm
   ·rcases List.mem_cons.1 h2 with e2|e2
    ·exact e2
    ·have a1:=(List.pairwise_cons.1 hx).1 y e
     have a2:=(List.pairwise_cons.1 hy).1 x e2
     rw[a1]at a2;cases a2
  subst hxy;rw[Gr (List.pairwise_cons.1 hx).2 (List.pairwise_cons.1 hy).2 (List.Perm.cons_inv h)]
theorem Nh{α β:Type}{c:α→α→Int}(h:P1 c)(f:β→α):Go.Sort.SWO (Go.Proofs.ltOf fun a b=>c (f a) (f b)):=
 ⟨fun x=>h.swo.irrefl (f x),fun x y z=>h.swo.trans (f x) (f y) (f z),fun x y z=>h.swo.ntrans (f x) (f y) (f z)⟩
end Mk
end
section
open Go
namespace Mk
def Ends(K:Value→World→Prop)(Q:List PanicEntry→World→Prop):Ending→World→Prop
 | .returned v,w=>K v w
 | .panicked ch,w=>Q ch w
 | .outgrown,_=>False
section
variable {P:Program}{n:Nat}{opa:Array Oper}{QQ:Exit→Fr→World→Prop}{ρ:Fr}{w:World}{rest:List Oper}
variable {d:Option Tmp}{T ty:TypeId}{pos:String}{es:Array Edge}{x:Operand}
theorem Ends.mono{K K':Value→World→Prop}{Q Q':List PanicEntry→World→Prop}{e:Ending}{w:World}(h:Ends K Q e w)(h1:∀v w,K v w→K' v w)(h2:∀ch w,Q ch w→Q' ch w):Ends K' Q' e w:=by
 cases e with
 | returned v=>exact h1 _ _ h
 | panicked ch=>exact h2 _ _ h
 | outgrown=>exact h
attribute [local semireducible] L W Step
theorem H0{f:Nat}{args:List Operand}{tys:Array TypeId}{vs:List Value}[B5 P f](hc:Calls P f vs.toArray w (Ends (fun v w'=>L P n opa QQ rest (C3 ρ d v) w') (fun ch w'=>QQ (.panic ch) ρ w')))(ha:EvL ρ args vs:=by exact r8)(hd:E4 n d=true:=by exact rfl) :
  L P n opa QQ (⟨d,.call { callee:=.value (.func f),args:=args.toArray,argTypes:=tys },ty,pos,es,none⟩::rest) ρ w:=fun a hda hs hf=>
 wpList_plain rfl fun K hK=>by
  subst hf;have hr:(execOp (ev (C4 a)) ⟨d,.call { callee:=.value (.func f),args:=args.toArray,argTypes:=tys },ty,pos,es,none⟩).run P w=.ok (.enter f vs.toArray) w:=by
   simp only[execOp,resolve,ha.eqA,ev,Deferred.ofValue,Sem.run_bind,Sem.run_pure,Result.andThen_ok,invoke]
   simp[M0]
  unfold Oper.wp;rw[N7,hr,Oper.upon_enter];refine hc.mono fun e w' he=>?_
  cases e with
  | returned v=>exact hK _ _ (he _ (by rw[G5];exact hda) (by rw[size_put];exact hs) (N8 a _ v (by rw[hs];exact G4 hd)))
  | panicked ch=>exact⟨hda,hs,he⟩
  | outgrown=>exact he.elim
def Ua(Q:Exit→Fr→World→Prop):Exit→Fr→World→Prop
 | .goto _,_,_=>False
 | e,ρ,w=>Q e ρ w
theorem Qg{l:Nat}(h:QQ .normal ρ w):W P n (.label l) QQ ρ w:=fun a hd hs hf=>wp_label ⟨hd,hs,hf ▸ h⟩
theorem PY{c:Code}(h:W P n c (Ua QQ) ρ w):W P n (.scope c) QQ ρ w:=fun a hd hs hf=>wp_scope_straight (Code.wp_mono (fun e a w ⟨p,q,r⟩=>by cases e <;> first|exact⟨p,q,r⟩|exact r.elim) (h a hd hs hf))
theorem Qz{t:TypeId}{v:Value}(hq:QQ (.panic [{ v:=.iface t v,recovered:=false }]) ρ w)(hx:ev ρ x=.iface t v:=by exact rfl):L P n opa QQ (⟨d,.panic x,ty,pos,es,none⟩::rest) ρ w:=fun a hda hs hf=>
 wpList_plain rfl fun K hK=>by
  subst hf;have hr:(execOp (ev (C4 a)) ⟨d,.panic x,ty,pos,es,none⟩).run P w=.halt (.panic (.iface t v)) w:=by
   simp only[execOp,hx]
   simp[Go.run_panic_iface,Sem.run_bind,Result.andThen]
  unfold Oper.wp;rw[N7,hr,Oper.upon_panic];exact⟨hda,hs,hq⟩
end
theorem put_defers(a:Act)(d:Option Tmp)(v:Value)(D:List Deferred):({ a with defers:=D }:Act).put d v = { a.put d v with defers:=D }:=by cases d <;> rfl
theorem j5{P:Program}{ops:Array Oper}{D:List Deferred}{Q Q':Exit→Act→World→Prop}(hQ:∀e a w,Q e a w→Q' e { a with defers:=a.defers++D } w):∀(l:List Oper) (a:Act) (w:World),wpList P ops Q l a w→wpList P ops Q' l { a with defers:=a.defers++D } w
 | [],a,w,h=>hQ _ _ _ h
 | o::l,a,w,h=>by
  have hL:LetsOut Q→LetsOut Q':=fun⟨a,w,h⟩=>⟨_,_,hQ _ _ _ h⟩
  have nx:∀d v w,wpList P ops Q l (a.put d v) w→wpList P ops Q' l (({ a with defers:=a.defers++D }:Act).put d v) w:=fun d v w h=>by
   have:=j5 hQ l _ _ h
   rw[put_defers];rw[G5]at this;exact this
  have he:({ a with defers:=a.defers++D }:Act).eval=a.eval:=rfl
  unfold wpList at h ⊢
  show if Region.wanted o (yielded ops a.tmps) then _ else _
  by_cases hw:Region.wanted o (yielded ops a.tmps)
  ·rw[if_pos hw]at h ⊢
   rcases h with h|⟨h1,h2⟩
   ·refine .inl ?_
    unfold Oper.wp at h ⊢
    rw[he];generalize (execOp a.eval o).run P w=r at *
    cases r with
    | ok x w'=>
     cases x with
     | value v=>exact nx _ _ _ h
     | skip=>exact nx _ _ _ h
     | defer d=>
      have:=j5 hQ l _ _ h
      rw[G5]at this;simp only[Oper.upon]
      rw[put_defers]at this ⊢
      exact this
     | enter f args=>
      refine Calls.mono h fun e w'' h=>?_
      cases e with
      | returned v=>exact nx _ _ _ h
      | panicked ch=>exact hQ _ _ _ h
      | outgrown=>exact hL h
     | row row args=>exact Rows.mono h fun v w'' h=>nx _ _ _ h
     | _=>exact h.elim
    | halt x w'=>
     cases x with
     | panic v=>exact hQ _ _ _ h
     | _=>exact h.elim
   ·exact .inr ⟨h1,hL h2⟩
  ·rw[if_neg hw]at h ⊢
   exact nx _ _ _ h
def WX(P:Program)(n:Nat)(c:Code)(Q:List Deferred→Exit→Fr→World→Prop)(D:List Deferred)(ρ:Fr)(w:World):Prop:=
 ∀a:Act,a.defers=D→a.tmps.size=n→C4 a=ρ→c.wp P (fun e a w=>a.tmps.size=n∧Q a.defers e (C4 a) w) a w
def LD(P:Program)(n:Nat)(ops:Array Oper)(Q:List Deferred→Exit→Fr→World→Prop)(l:List Oper)(D:List Deferred)(ρ:Fr)(w:World):Prop:=
 ∀a:Act,a.defers=D→a.tmps.size=n→C4 a=ρ→wpList P ops (fun e a w=>a.tmps.size=n∧Q a.defers e (C4 a) w) l a w
def Rr(K:List Deferred→Fr→World→Prop)(Q:List Deferred→Exit→Fr→World→Prop):List Deferred→Exit→Fr→World→Prop
 | D,.normal,ρ,w=>K D ρ w
 | D,e,ρ,w=>Q D e ρ w
section
variable {P:Program}{n:Nat}{Q:List Deferred→Exit→Fr→World→Prop}{D:List Deferred}{ρ:Fr}{w:World}
attribute [local semireducible] L W Step
theorem CM{c:Code}(h:W P n c (Q []) ρ w):WX P n c Q [] ρ w:=fun a hd hs hf=>Code.wp_mono (fun e a w ⟨x,y,z⟩=>⟨y,by rw[x];exact z⟩) (h a hd hs hf)
theorem x5{x y:Code}(h:WX P n x (Rr (fun D ρ w=>WX P n y Q D ρ w) Q) D ρ w):WX P n (.seq x y) Q D ρ w:=fun a hd hs hf=>
 wp_seq (Code.wp_mono (fun e a w ⟨q,r⟩=>by cases e <;> first|exact r a rfl q rfl|exact⟨q,r⟩) (h a hd hs hf))
theorem Pg(h:Q D .ret ρ w):WX P n .ret Q D ρ w:=fun a hd hs hf=>wp_ret ⟨hs,by rw[hd,hf];exact h⟩
theorem CW{c:Operand}{x y:Code}{b:Bool}(hc:ev ρ c=.bool b)(ht:b=true→WX P n x Q D ρ w)(hf:b=false→WX P n y Q D ρ w):WX P n (.cond c x y) Q D ρ w:=fun a hd hs he=>
 wp_cond_split (t:=b) (by rw[N7,he];exact hc) (fun h=>ht h a hd hs he) (fun h=>hf h a hd hs he)
theorem Ap{id:Nat}{l:List Oper}(h:L P n l.toArray (Q D) l ρ w):WX P n (.region id l.toArray false) Q D ρ w:=fun a hd hs hf=>wp_region_lit (by
 have:=j5 (P:=P) (ops:=l.toArray) (D:=D) (Q:=lift n (Q D)) (Q':=fun e a w=>a.tmps.size=n∧Q a.defers e (C4 a) w) (fun e a w ⟨x,y,z⟩=>⟨y,by
  show Q (a.defers++D) e (C4 a) w
  rw[x];exact z⟩) l { a with defers:=[] } w (h { a with defers:=[] } rfl hs hf)
 have e:({ ({ a with defers:=[] }:Act) with defers:=([]:List Deferred)++D }:Act)=a:=by subst hd;rfl
 exact e ▸ this)
theorem EW{id:Nat}{l:List Oper}(h:LD P n l.toArray Q l D ρ w):WX P n (.region id l.toArray false) Q D ρ w:=fun a hd hs hf=>wp_region_lit (h a hd hs hf)
theorem OW{ops:Array Oper}(h:Q D .normal ρ w):LD P n ops Q [] D ρ w:=fun a hd hs hf=>⟨hs,by rw[hd,hf];exact h⟩
theorem LI{ops:Array Oper}{o:Oper}{rest:List Oper}(h:Step P o ρ w fun v w'=>LD P n ops Q rest D (C3 ρ o.dst v) w')(hg:o.guard=none:=by exact rfl)(hd:E4 n o.dst=true:=by exact rfl):LD P n ops Q (o::rest) D ρ w:=fun a hda hs hf=>
 wpList_plain hg fun K hK=>by
  subst hf;refine Step.wp h fun v w' hv=>hK _ _ (hv _ ?_ ?_ ?_)
  ·rw[G5];exact hda
  ·rw[size_put];exact hs
  ·exact N8 a _ v (by rw[hs];exact G4 hd)
theorem Ps{ops:Array Oper}{o:Oper}{rest:List Oper}{dd:Deferred}(hr:(execOp (ev ρ) o).run P w=.ok (.defer dd) w)(h:LD P n ops Q rest (dd::D) (C3 ρ o.dst undef) w)(hg:o.guard=none:=by exact rfl)(hd:E4 n o.dst=true:=by exact rfl):LD P n ops Q (o::rest) D ρ w:=fun a hda hs hf=>
 wpList_plain hg fun K hK=>by
  subst hf;unfold Oper.wp;rw[N7,hr];refine hK _ _ (h _ ?_ ?_ ?_)
  ·rw[G5,hda]
  ·rw[size_put];exact hs
  ·exact N8 ({ a with defers:=dd::a.defers }:Act) _ undef (by
    show ∀t,o.dst=some t→t<a.tmps.size
    rw[hs];exact G4 hd)
def Tl(P:Program)(fn:Func)(R:Ending→World→Prop):List Deferred→Exit→Fr→World→Prop
 | D,.normal,ρ,w=>∀a:Act,C4 a=ρ→a.tmps.size=fn.ntmps→Leaves P fn a.tmps R D .returning w
 | D,.ret,ρ,w=>∀a:Act,C4 a=ρ→a.tmps.size=fn.ntmps→Leaves P fn a.tmps R D .returning w
 | D,.panic ch,ρ,w=>∀a:Act,C4 a=ρ→a.tmps.size=fn.ntmps→Leaves P fn a.tmps R D (.panicking ch) w
 | _,.outgrown,_,w=>R .outgrown w
 | _,_,_,_=>False
theorem Dn{f:FuncId}{fn:Func}{c:Code}{args:Array Value}{R:Ending→World→Prop}(hf:P.funcs[f]? = some fn)(hb:fn.body=some c)
  (hn:Nat.ble args.size fn.ntmps=true) (h:WX P fn.ntmps c (Tl P fn R) [] (S9 args) w):Calls P f args w R:=by
 have hle:args.size≤fn.ntmps:=Nat.le_of_ble_eq_true hn
 refine calls_of_wp_defers hf hb (Code.wp_mono ?_ (h _ rfl (by simp;omega) ?_))
 ·rintro e a w ⟨hs,hq⟩
  cases e with
  | normal=>exact hq a rfl hs
  | ret=>exact hq a rfl hs
  | panic ch=>exact hq a rfl hs
  | outgrown=>exact hq
  | exit id=>exact hq.elim
  | goto l=>exact hq.elim
 ·funext t
  simp only[C4,S9,Array.getD_eq_getD_getElem?,Array.getElem?_append]
  by_cases ht:t<args.size
  ·rw[if_pos ht]
  ·rw[if_neg ht,Array.getElem?_eq_none (by omega:args.size≤t)]
   simp only[Array.getElem?_replicate]
   split <;> rfl
end
def Cd:FrameMode→Value×FrameMode
 | .panicking ({ v,recovered:=false,goexit:=false }::older)=>(v,.panicking ({ v,recovered:=true }::older))
 | u=>(.nilIface,u)
theorem Fj(c:Frame)(cs:List Frame):(recoverD (c::cs)=some ((Cd c.mode).1,{ c with mode:=(Cd c.mode).2 }::cs))∨(recoverD (c::cs)=none∧Cd c.mode=(.nilIface,c.mode)):=by
 obtain⟨fn,tmps,todo,defers,mode,kind,ro⟩:=c;cases mode with
 | run=>exact .inr ⟨rfl,rfl⟩
 | returning=>exact .inr ⟨rfl,rfl⟩
 | panicking ch=>
  match ch with
  | []=>exact .inr ⟨rfl,rfl⟩
  | ⟨v,true,g⟩::older=>exact .inr ⟨rfl,rfl⟩
  | ⟨v,false,true⟩::older=>exact .inr ⟨rfl,rfl⟩
  | ⟨v,false,false⟩::older=>exact .inl rfl
section
variable {P:Program}{n:Nat}{opa:Array Oper}{QQ:Exit→Fr→World→Prop}{ρ:Fr}{w:World}{rest:List Oper}
variable {d:Option Tmp}{T ty:TypeId}{pos:String}{es:Array Edge}{x:Operand}
attribute [local semireducible] L W Step
theorem EX{f:FuncId}{fn:Func}{cc:Code}{id d1 d2:Nat}{ty1 ty2:TypeId}{pos1 pos2:String}{es1 es2:Array Edge}{args:Array Value}{u:FrameMode}{R:Ending→FrameMode→World→Prop}(hf:P.funcs[f]? = some fn)
  (hb:fn.body=some (.seq (.region id #[⟨some d1,.call { callee:=.builtin .recover,args:=#[],argTypes:=#[] },ty1,pos1,es1,none⟩,⟨some d2,.assign (.tmp d1),ty2,pos2,es2,none⟩] false) cc))
  (hn:Nat.ble args.size fn.ntmps=true) (h1:Nat.ble (d1+1) fn.ntmps=true) (h2:Nat.ble (d2+1) fn.ntmps=true)
  (h:W P fn.ntmps cc (TH fn.results fun e w=>R e (Cd u).2 w) (upd (upd (S9 args) d1 (Cd u).1) d2 (Cd u).1) w):CallsD P f args u w R:=by
 have hle:args.size≤fn.ntmps:=Nat.le_of_ble_eq_true hn
 have h1:d1+1≤fn.ntmps:=Nat.le_of_ble_eq_true h1
 have h2:d2+1≤fn.ntmps:=Nat.le_of_ble_eq_true h2
 refine callsD_of_wpS hf hb fun c cs hu=>?_
 obtain⟨a,ha⟩:∃a:Act,a = { tmps:=args++Array.replicate (fn.ntmps-args.size) undef,defers:=[] }:=⟨_,rfl⟩
 have had:a.defers=[]:=by rw[ha]
 have has:a.tmps.size=fn.ntmps:=by rw[ha];simp;omega
 have hae:C4 a=S9 args:=by
  rw[ha];funext t
  simp only[C4,S9,Array.getD_eq_getD_getElem?,Array.getElem?_append]
  by_cases ht:t<args.size
  ·rw[if_pos ht]
  ·rw[if_neg ht,Array.getElem?_eq_none (by omega:args.size≤t)]
   simp only[Array.getElem?_replicate]
   split <;> rfl
 rw[←ha];have hcs:∀cs',(cs' = { c with mode:=(Cd u).2 }::cs)→cc.wpS P (bodyPostS P fn c cs R) ((a.put (some d1) (Cd u).1).put (some d2) (Cd u).1) cs' w:=by
  rintro cs' rfl
  refine wpS_of_wp (Code.wp_mono ?_ (h _ ?_ ?_ ?_))
  ·rintro e a' w' ⟨p,q,r⟩
   cases e with
   | normal=>obtain⟨v,hv,hR⟩:=r;exact⟨p,_,rfl,v,L2 hv,hR⟩
   | ret=>obtain⟨v,hv,hR⟩:=r;exact⟨p,_,rfl,v,L2 hv,hR⟩
   | panic ch=>exact⟨p,_,rfl,r⟩
   | outgrown=>exact⟨_,r⟩
   | exit id=>exact r.elim
   | goto l=>exact r.elim
  ·rw[G5,G5];exact had
  ·rw[size_put,size_put];exact has
  ·rw[Ad _ _ _ (by rw[size_put];omega),Ad _ _ _ (by omega),hae]
 refine wpS_seq (wpS_region ?_)
 show wpOpsS P _ _ [0,1] a (c::cs) w
 have e1:∀(o:Oper),o.guard=none→∀q,Region.wanted o q=true:=fun o ho q=>by unfold Region.wanted;rw[ho]
 unfold wpOpsS;simp only[List.getElem?_toArray,List.getElem?_cons_zero]
 rw[if_pos (e1 _ rfl _)];have hr:(execOp a.eval ⟨some d1,.call { callee:=.builtin .recover,args:=#[],argTypes:=#[] },ty1,pos1,es1,none⟩).run P w=.ok .recover w:=by
  rfl
 simp only[hr]
 have last:∀cs' a',a'=a.put (some d1) (Cd u).1→(cs' = { c with mode:=(Cd u).2 }::cs)→wpOpsS P #[⟨some d1,.call { callee:=.builtin .recover,args:=#[],argTypes:=#[] },ty1,pos1,es1,none⟩,⟨some d2,.assign (.tmp d1),ty2,pos2,es2,none⟩] (Exit.thenS (cc.wpS P (bodyPostS P fn c cs R)) (bodyPostS P fn c cs R)) [1] a' cs' w:=by
  intro cs' a' ha' hcs';unfold wpOpsS;simp only[List.getElem?_toArray,List.getElem?_cons_succ,List.getElem?_cons_zero]
  rw[if_pos (e1 _ rfl _)];have hv:(execOp a'.eval ⟨some d2,.assign (.tmp d1),ty2,pos2,es2,none⟩).run P w=.ok (.value (Cd u).1) w:=by
   have:a'.eval (.tmp d1)=(Cd u).1:=by
    rw[N7,ha',Ad _ _ _ (by omega)];exact upd_same _ _ _
   show (execOp a'.eval ⟨some d2,.assign (.tmp d1),ty2,pos2,es2,none⟩).run P w=_
   rw[←this];rfl
  simp only[hv,Oper.upon]
  unfold wpOpsS;rw[ha'];exact hcs _ hcs'
 rcases Fj c cs with hq|⟨hq,hm⟩
 ·rw[hq];refine last _ _ ?_ ?_
  ·rw[hu]
  ·rw[hu]
 ·rw[hq];rw[hu]at hm;refine last _ _ ?_ ?_
  ·rw[hm]
  ·rw[hm];show _ = { c with mode:=u }::cs
   rw[←hu]
theorem Gi{ops:Array Oper}{Q:List Deferred→Exit→Fr→World→Prop}{D:List Deferred}{t:Tmp}{f:Nat}{fst cap:Array Value}(h:LD P n ops Q rest (⟨.fn (.func f) cap,fst⟩::D) (C3 ρ d undef) w)(ht:ρ t=.func (.func f) fst cap:=by exact rfl)(hd:E4 n d=true:=by exact rfl) :
  LD P n ops Q (⟨d,.defer { callee:=.value (.tmp t),args:=#[],argTypes:=#[] },ty,pos,es,none⟩::rest) D ρ w:=
 Ps (by
  have:ev ρ (.tmp t)=.func (.func f) fst cap:=ht
  simp[execOp,resolve,this,Deferred.ofValue,Sem.run_bind,Sem.run_pure,Result.andThen_ok]) h rfl hd
theorem Ka{U:TypeId}{g:Option (Nat×Bool)}{v:Value}{fs:Array Field}(hu:P.underlying U=some (.struct fs))(hx:ev ρ x=.iface U v):Yields P ⟨d,.typeAssert x T U true,ty,pos,es,g⟩ ρ w (.tuple #[v,.bool true]):=by
 unfold Yields;simp[execOp,hx,Instr.typeAssert,run_underlying hu,Sem.run_bind,Sem.run_pure,Result.andThen]
theorem Qa{U:TypeId}{g:Option (Nat×Bool)}{T':TypeId}{v:Value}{ms:Array (String×TypeId)}(hu:P.underlying T=some (.interface ms))(hx:ev ρ x=.iface U v):Yields P ⟨d,.binOp .neq T x (.const .nilIface) T',ty,pos,es,g⟩ ρ w (.bool true):=by
 have h:∀d:Nat,(Op.equalIn (d+1) T (.iface U v) .nilIface).run P w=.ok false w:=fun d=>by simp[Op.equalIn,run_underlying hu]
 have hy:ev ρ (.const .nilIface)=.nilIface:=rfl
 unfold Yields;simp[execOp,go_sem,hx,hy,binOp,Op.equal,Op.maxDepth,h 9999]
theorem Qk{g:Option (Nat×Bool)}{T':TypeId}{ms:Array (String×TypeId)}(hu:P.underlying T=some (.interface ms))(hx:ev ρ x=.nilIface):Yields P ⟨d,.binOp .neq T x (.const .nilIface) T',ty,pos,es,g⟩ ρ w (.bool false):=by
 have h:∀d:Nat,(Op.equalIn (d+1) T .nilIface .nilIface).run P w=.ok true w:=fun d=>by simp[Op.equalIn,run_underlying hu]
 have hy:ev ρ (.const .nilIface)=.nilIface:=rfl
 unfold Yields;simp[execOp,go_sem,hx,hy,binOp,Op.equal,Op.maxDepth,h 9999,eqGuard]
end
section
variable {P:Program}{n:Nat}{opa:Array Oper}{QQ:Exit→Fr→World→Prop}{ρ:Fr}{w:World}{rest:List Oper}{Γ:B8}{S:List A7}
variable {d:Option Tmp}{ty:TypeId}{pos:String}{es:Array Edge}{f j dj:Nat}{want c:Bool}{args:List Operand}{tys:Array TypeId}{vs:List Value}{v:Value}{t:Tmp}
attribute [local semireducible] gv
theorem Hb[B5 P f](h:∀w',Wd Γ S w'→L P n opa QQ rest (C3 ρ d (gv c v)) w')(hw:Wd Γ S w:=by exact hw)(hj:(opa[j]?).bind (·.dst)=some dj:=by exact rfl)(hjn:E4 n (some dj)=true:=by exact rfl)(hc:E8 (ρ dj) want c:=by exact Ha)(hd:E4 n d=true:=by exact rfl)(ha:c=true→EvL ρ args vs:=by intro hc;exact IH)(hp:PG P Γ f vs v:=by infer_instance) :
  L P n opa QQ (⟨d,.call { callee:=.value (.func f),args:=args.toArray,argTypes:=tys },ty,pos,es,some (j,want)⟩::rest) ρ w:=
 lGC hj hjn hd hc (fun hct=>PN (fun w' hw'=>by have:=h w' hw';rw[hct]at this;exact this) hw (ha hct) hd hp) (fun hcf=>by have:=h w hw;rw[hcf]at this;exact this)
end
end Mk
end
section
open Go Mk
namespace Go.Proofs.YtlimglpjpcfpdaaGreat
instance:TS Tryz.prog 2:=⟨by kernel_rfl⟩
instance:Ma Tryz.prog 2 .i64:=⟨by kernel_rfl⟩
instance:TS Tryz.prog 3:=⟨by kernel_rfl⟩
instance:Ma Tryz.prog 3 .i64:=⟨by kernel_rfl⟩
instance:TW Tryz.prog 4 (.bool false):=⟨by kernel_rfl⟩
instance:TS Tryz.prog 4:=⟨by kernel_rfl⟩
instance:SR Tryz.prog 4:=⟨by kernel_rfl⟩
instance:Ma Tryz.prog 5 .u8:=⟨by kernel_rfl⟩
instance:TS Tryz.prog 9:=⟨by kernel_rfl⟩
instance:BN Tryz.prog 9:=⟨by kernel_rfl⟩
instance:TL Tryz.prog 22 41 12 112 [.int .i64 0,.int .i64 0,.int .i64 0,.int .i64 0,.bool false,.string ⟨#[]⟩,.int .i64 0,.int .i64 0,.int .i64 0,.int .i64 0,.int .i64 0,.string ⟨#[]⟩]:=⟨by kernel_rfl,by kernel_rfl,by kernel_rfl,by decide⟩
instance:TZ Tryz.prog 23 [.slice none 0 0]:=⟨by kernel_rfl⟩
instance:TS Tryz.prog 23:=⟨by kernel_rfl⟩
instance:TL Tryz.prog 23 9 1 16 [.string ⟨#[]⟩]:=⟨by kernel_rfl,by kernel_rfl,by kernel_rfl,by decide⟩
instance:TS Tryz.prog 24:=⟨by kernel_rfl⟩
instance:TL Tryz.prog 24 127 15 176 [.int .i64 0,.string ⟨#[]⟩,.slice none 0 0,.int .i64 0,.string ⟨#[]⟩,.int .i64 0,.int .i64 0,.string ⟨#[]⟩,.string ⟨#[]⟩,.int .i64 0,.int .i64 0,.string ⟨#[]⟩,.int .i64 0,.int .i64 0,.int .i64 0]:=⟨by kernel_rfl,by kernel_rfl,by kernel_rfl,by decide⟩
instance:TZ Tryz.prog 26 [.slice none 0 0,.slice none 0 0]:=⟨by kernel_rfl⟩
instance:TA Tryz.prog 26 2:=⟨by kernel_rfl⟩
instance:TB Tryz.prog 26 [(0,1),(1,1)] [.slice none 0 0,.slice none 0 0]:=⟨by kernel_rfl,by kernel_rfl⟩
instance:TF Tryz.prog 26 0 0:=⟨by kernel_rfl⟩
instance:TF Tryz.prog 26 1 1:=⟨by kernel_rfl⟩
instance:Sp Tryz.prog 27 81:=⟨by kernel_rfl⟩
instance:TS Tryz.prog 30:=⟨by kernel_rfl⟩
instance:TL Tryz.prog 30 37 4 40 [.string ⟨#[]⟩,.int .i64 0,.int .i64 0,.int .i64 0]:=⟨by kernel_rfl,by kernel_rfl,by kernel_rfl,by decide⟩
instance:TS Tryz.prog 31:=⟨by kernel_rfl⟩
instance:TL Tryz.prog 31 39 3 32 [.int .i64 0,.int .i64 0,.string ⟨#[]⟩]:=⟨by kernel_rfl,by kernel_rfl,by kernel_rfl,by decide⟩
instance:TB Tryz.prog 33 [(0,1),(1,1)] [.slice none 0 0,.slice none 0 0]:=⟨by kernel_rfl,by kernel_rfl⟩
instance:TF Tryz.prog 33 0 0:=⟨by kernel_rfl⟩
instance:TF Tryz.prog 33 1 1:=⟨by kernel_rfl⟩
instance:TZ Tryz.prog 37 [.string ⟨#[]⟩,.int .i64 0,.int .i64 0,.int .i64 0]:=⟨by kernel_rfl⟩
instance:TW Tryz.prog 37 (.agg #[.string ⟨#[]⟩,.int .i64 0,.int .i64 0,.int .i64 0]):=⟨by kernel_rfl⟩
instance:TA Tryz.prog 37 4:=⟨by kernel_rfl⟩
instance:UG Tryz.prog 37 [1,5,5,5]:=⟨by kernel_rfl,by kernel_rfl,by kernel_rfl⟩
instance:TB Tryz.prog 37 [(0,1),(1,1),(2,1),(3,1)] [.string ⟨#[]⟩,.int .i64 0,.int .i64 0,.int .i64 0]:=⟨by kernel_rfl,by kernel_rfl⟩
instance:TF Tryz.prog 37 0 0:=⟨by kernel_rfl⟩
instance:TF Tryz.prog 37 1 1:=⟨by kernel_rfl⟩
instance:TF Tryz.prog 37 2 2:=⟨by kernel_rfl⟩
instance:TF Tryz.prog 37 3 3:=⟨by kernel_rfl⟩
instance:TZ Tryz.prog 39 [.int .i64 0,.int .i64 0,.string ⟨#[]⟩]:=⟨by kernel_rfl⟩
instance:TA Tryz.prog 39 3:=⟨by kernel_rfl⟩
instance:TB Tryz.prog 39 [(0,1),(1,1),(2,1)] [.int .i64 0,.int .i64 0,.string ⟨#[]⟩]:=⟨by kernel_rfl,by kernel_rfl⟩
instance:TF Tryz.prog 39 0 0:=⟨by kernel_rfl⟩
instance:TF Tryz.prog 39 1 1:=⟨by kernel_rfl⟩
instance:TF Tryz.prog 39 2 2:=⟨by kernel_rfl⟩
instance:TA Tryz.prog 41 12:=⟨by kernel_rfl⟩
instance:TF Tryz.prog 41 0 0:=⟨by kernel_rfl⟩
instance:TF Tryz.prog 41 1 1:=⟨by kernel_rfl⟩
instance:TF Tryz.prog 41 2 2:=⟨by kernel_rfl⟩
instance:TF Tryz.prog 41 3 3:=⟨by kernel_rfl⟩
instance:TF Tryz.prog 41 4 4:=⟨by kernel_rfl⟩
instance:TF Tryz.prog 41 5 5:=⟨by kernel_rfl⟩
instance:TF Tryz.prog 41 6 9:=⟨by kernel_rfl⟩
instance:TZ Tryz.prog 44 [.int .i64 0,.int .i64 0]:=⟨by kernel_rfl⟩
instance:TA Tryz.prog 44 2:=⟨by kernel_rfl⟩
instance:TB Tryz.prog 44 [(0,1),(1,1)] [.int .i64 0,.int .i64 0]:=⟨by kernel_rfl,by kernel_rfl⟩
instance:TZ Tryz.prog 45 [.int .i64 0]:=⟨by kernel_rfl⟩
instance:TS Tryz.prog 45:=⟨by kernel_rfl⟩
instance:TS Tryz.prog 48:=⟨by kernel_rfl⟩
instance:TL Tryz.prog 48 52 1 24 [.slice none 0 0]:=⟨by kernel_rfl,by kernel_rfl,by kernel_rfl,by decide⟩
instance:TS Tryz.prog 52:=⟨by kernel_rfl⟩
instance:TL Tryz.prog 52 54 3 32 [.int .i64 0,.int .i64 0,.string ⟨#[]⟩]:=⟨by kernel_rfl,by kernel_rfl,by kernel_rfl,by decide⟩
instance:TZ Tryz.prog 54 [.int .i64 0,.int .i64 0,.string ⟨#[]⟩]:=⟨by kernel_rfl⟩
instance:TW Tryz.prog 54 (.agg #[.int .i64 0,.int .i64 0,.string ⟨#[]⟩]):=⟨by kernel_rfl⟩
instance:TA Tryz.prog 54 3:=⟨by kernel_rfl⟩
instance:UG Tryz.prog 54 [5,5,1]:=⟨by kernel_rfl,by kernel_rfl,by kernel_rfl⟩
instance:TB Tryz.prog 54 [(0,1),(1,1),(2,1)] [.int .i64 0,.int .i64 0,.string ⟨#[]⟩]:=⟨by kernel_rfl,by kernel_rfl⟩
instance:TF Tryz.prog 54 0 0:=⟨by kernel_rfl⟩
instance:TF Tryz.prog 54 1 1:=⟨by kernel_rfl⟩
instance:TF Tryz.prog 54 2 2:=⟨by kernel_rfl⟩
instance:TS Tryz.prog 58:=⟨by kernel_rfl⟩
instance:TL Tryz.prog 58 135 2 40 [.string ⟨#[]⟩,.slice none 0 0]:=⟨by kernel_rfl,by kernel_rfl,by kernel_rfl,by decide⟩
instance:TL Tryz.prog 62 3 1 8 [.int .i64 0]:=⟨by kernel_rfl,by kernel_rfl,by kernel_rfl,by decide⟩
instance:TS Tryz.prog 79:=⟨by kernel_rfl⟩
instance:u7 Tryz.prog 79 9 37:=⟨by kernel_rfl⟩
instance:TB Tryz.prog 81 [(0,1),(1,1)] [.map none,.slice none 0 0]:=⟨by kernel_rfl,by kernel_rfl⟩
instance:TF Tryz.prog 81 0 0:=⟨by kernel_rfl⟩
instance:TF Tryz.prog 81 1 1:=⟨by kernel_rfl⟩
instance:TZ Tryz.prog 84 [.slice none 0 0]:=⟨by kernel_rfl⟩
instance:TS Tryz.prog 84:=⟨by kernel_rfl⟩
instance:TL Tryz.prog 84 88 6 56 [.int .i64 0,.int .i64 0,.string ⟨#[]⟩,.int .i64 0,.int .i64 0,.int .i64 0]:=⟨by kernel_rfl,by kernel_rfl,by kernel_rfl,by decide⟩
instance:TA Tryz.prog 88 6:=⟨by kernel_rfl⟩
instance:UG Tryz.prog 88 [5,5,1,5,5,5]:=⟨by kernel_rfl,by kernel_rfl,by kernel_rfl⟩
instance:TB Tryz.prog 88 [(0,1),(1,1),(2,4)] [.int .i64 0,.int .i64 0,.string ⟨#[]⟩,.int .i64 0,.int .i64 0,.int .i64 0]:=⟨by kernel_rfl,by kernel_rfl⟩
instance:TF Tryz.prog 88 0 0:=⟨by kernel_rfl⟩
instance:TF Tryz.prog 88 2 2:=⟨by kernel_rfl⟩
instance:TS Tryz.prog 99:=⟨by kernel_rfl⟩
instance:TL Tryz.prog 99 178 5 48 [.int .i64 0,.string ⟨#[]⟩,.int .u64 0,.int .i64 0,.int .i64 0]:=⟨by kernel_rfl,by kernel_rfl,by kernel_rfl,by decide⟩
instance:TZ Tryz.prog 103 [.int .i64 0,.int .i64 0,.int .i64 0]:=⟨by kernel_rfl⟩
instance:TA Tryz.prog 103 3:=⟨by kernel_rfl⟩
instance:TB Tryz.prog 103 [(0,2),(2,1)] [.int .i64 0,.int .i64 0,.int .i64 0]:=⟨by kernel_rfl,by kernel_rfl⟩
instance:TF Tryz.prog 103 0 0:=⟨by kernel_rfl⟩
instance:TF Tryz.prog 103 1 2:=⟨by kernel_rfl⟩
instance:TB Tryz.prog 109 [(0,1),(1,1),(2,2)] [.slice none 0 0,.int .i64 0,.int .i64 0,.int .i64 0]:=⟨by kernel_rfl,by kernel_rfl⟩
instance:TF Tryz.prog 109 0 0:=⟨by kernel_rfl⟩
instance:TF Tryz.prog 109 1 1:=⟨by kernel_rfl⟩
instance:TF Tryz.prog 109 2 2:=⟨by kernel_rfl⟩
instance:TS Tryz.prog 116:=⟨by kernel_rfl⟩
instance:TS Tryz.prog 117:=⟨by kernel_rfl⟩
instance:TS Tryz.prog 118:=⟨by kernel_rfl⟩
instance:u7 Tryz.prog 118 9 54:=⟨by kernel_rfl⟩
instance:TS Tryz.prog 119:=⟨by kernel_rfl⟩
instance:TL Tryz.prog 119 58 1 24 [.slice none 0 0]:=⟨by kernel_rfl,by kernel_rfl,by kernel_rfl,by decide⟩
instance:TB Tryz.prog 121 [(0,2),(2,1),(3,1),(4,1)] [.slice none 0 0,.slice none 0 0,.slice none 0 0,.map none,.slice none 0 0]:=⟨by kernel_rfl,by kernel_rfl⟩
instance:TF Tryz.prog 121 0 0:=⟨by kernel_rfl⟩
instance:TF Tryz.prog 121 1 2:=⟨by kernel_rfl⟩
instance:TF Tryz.prog 121 2 3:=⟨by kernel_rfl⟩
instance:TF Tryz.prog 121 3 4:=⟨by kernel_rfl⟩
instance:TS Tryz.prog 122:=⟨by kernel_rfl⟩
instance:Ma Tryz.prog 122 .u64:=⟨by kernel_rfl⟩
instance:TS Tryz.prog 123:=⟨by kernel_rfl⟩
instance:TL Tryz.prog 123 125 4 48 [.string ⟨#[]⟩,.int .i64 0,.int .i64 0,.string ⟨#[]⟩]:=⟨by kernel_rfl,by kernel_rfl,by kernel_rfl,by decide⟩
instance:TZ Tryz.prog 125 [.string ⟨#[]⟩,.int .i64 0,.int .i64 0,.string ⟨#[]⟩]:=⟨by kernel_rfl⟩
instance:TA Tryz.prog 125 4:=⟨by kernel_rfl⟩
instance:UG Tryz.prog 125 [1,5,5,1]:=⟨by kernel_rfl,by kernel_rfl,by kernel_rfl⟩
instance:TB Tryz.prog 125 [(0,1),(1,3)] [.string ⟨#[]⟩,.int .i64 0,.int .i64 0,.string ⟨#[]⟩]:=⟨by kernel_rfl,by kernel_rfl⟩
instance:TF Tryz.prog 125 0 0:=⟨by kernel_rfl⟩
instance:TF Tryz.prog 125 1 1:=⟨by kernel_rfl⟩
instance:TZ Tryz.prog 127 [.int .i64 0,.string ⟨#[]⟩,.slice none 0 0,.int .i64 0,.string ⟨#[]⟩,.int .i64 0,.int .i64 0,.string ⟨#[]⟩,.string ⟨#[]⟩,.int .i64 0,.int .i64 0,.string ⟨#[]⟩,.int .i64 0,.int .i64 0,.int .i64 0]:=⟨by kernel_rfl⟩
instance:TA Tryz.prog 127 15:=⟨by kernel_rfl⟩
instance:TB Tryz.prog 127 [(0,1),(1,1),(2,1),(3,1),(4,4),(8,4),(12,1),(13,1),(14,1)] [.int .i64 0,.string ⟨#[]⟩,.slice none 0 0,.int .i64 0,.string ⟨#[]⟩,.int .i64 0,.int .i64 0,.string ⟨#[]⟩,.string ⟨#[]⟩,.int .i64 0,.int .i64 0,.string ⟨#[]⟩,.int .i64 0,.int .i64 0,.int .i64 0]:=⟨by kernel_rfl,by kernel_rfl⟩
instance:TF Tryz.prog 127 0 0:=⟨by kernel_rfl⟩
instance:TF Tryz.prog 127 1 1:=⟨by kernel_rfl⟩
instance:TF Tryz.prog 127 2 2:=⟨by kernel_rfl⟩
instance:TF Tryz.prog 127 3 3:=⟨by kernel_rfl⟩
instance:TF Tryz.prog 127 4 4:=⟨by kernel_rfl⟩
instance:TF Tryz.prog 127 5 8:=⟨by kernel_rfl⟩
instance:TF Tryz.prog 127 6 12:=⟨by kernel_rfl⟩
instance:TF Tryz.prog 127 7 13:=⟨by kernel_rfl⟩
instance:TF Tryz.prog 127 8 14:=⟨by kernel_rfl⟩
instance:TZ Tryz.prog 135 [.string ⟨#[]⟩,.slice none 0 0]:=⟨by kernel_rfl⟩
instance:TA Tryz.prog 135 2:=⟨by kernel_rfl⟩
instance:TB Tryz.prog 135 [(0,1),(1,1)] [.string ⟨#[]⟩,.slice none 0 0]:=⟨by kernel_rfl,by kernel_rfl⟩
instance:TF Tryz.prog 135 0 0:=⟨by kernel_rfl⟩
instance:TF Tryz.prog 135 1 1:=⟨by kernel_rfl⟩
instance:TS Tryz.prog 137:=⟨by kernel_rfl⟩
instance:TZ Tryz.prog 178 [.int .i64 0,.string ⟨#[]⟩,.int .u64 0,.int .i64 0,.int .i64 0]:=⟨by kernel_rfl⟩
instance:TA Tryz.prog 178 5:=⟨by kernel_rfl⟩
instance:TB Tryz.prog 178 [(0,1),(1,1),(2,1),(3,2)] [.int .i64 0,.string ⟨#[]⟩,.int .u64 0,.int .i64 0,.int .i64 0]:=⟨by kernel_rfl,by kernel_rfl⟩
instance:TF Tryz.prog 178 0 0:=⟨by kernel_rfl⟩
instance:TF Tryz.prog 178 1 1:=⟨by kernel_rfl⟩
instance:TF Tryz.prog 178 2 2:=⟨by kernel_rfl⟩
instance:TF Tryz.prog 178 3 3:=⟨by kernel_rfl⟩
instance:TL Tryz.prog 190 116 1 8 [.nilFunc]:=⟨by kernel_rfl,by kernel_rfl,by kernel_rfl,by decide⟩
instance:UF Tryz.prog 232 8 9 1:=⟨by kernel_rfl,by kernel_rfl⟩
instance:u7 Tryz.prog 242 9 4:=⟨by kernel_rfl⟩
instance:B5 Tryz.prog 5:=⟨by kernel_rfl⟩
instance:B5 Tryz.prog 6:=⟨by kernel_rfl⟩
instance:B5 Tryz.prog 7:=⟨by kernel_rfl⟩
instance:B5 Tryz.prog 8:=⟨by kernel_rfl⟩
instance:B5 Tryz.prog 9:=⟨by kernel_rfl⟩
instance:B5 Tryz.prog 10:=⟨by kernel_rfl⟩
instance:B5 Tryz.prog 11:=⟨by kernel_rfl⟩
instance:B5 Tryz.prog 12:=⟨by kernel_rfl⟩
instance:B5 Tryz.prog 13:=⟨by kernel_rfl⟩
instance:B5 Tryz.prog 14:=⟨by kernel_rfl⟩
instance:B5 Tryz.prog 15:=⟨by kernel_rfl⟩
instance:B5 Tryz.prog 16:=⟨by kernel_rfl⟩
instance:B5 Tryz.prog 22:=⟨by kernel_rfl⟩
instance:B5 Tryz.prog 23:=⟨by kernel_rfl⟩
instance:B5 Tryz.prog 24:=⟨by kernel_rfl⟩
instance:B5 Tryz.prog 25:=⟨by kernel_rfl⟩
instance:B5 Tryz.prog 26:=⟨by kernel_rfl⟩
instance:B5 Tryz.prog 27:=⟨by kernel_rfl⟩
instance:B5 Tryz.prog 28:=⟨by kernel_rfl⟩
instance:B5 Tryz.prog 29:=⟨by kernel_rfl⟩
instance:B5 Tryz.prog 30:=⟨by kernel_rfl⟩
instance:B5 Tryz.prog 31:=⟨by kernel_rfl⟩
instance:B5 Tryz.prog 32:=⟨by kernel_rfl⟩
instance:B5 Tryz.prog 33:=⟨by kernel_rfl⟩
instance:B5 Tryz.prog 34:=⟨by kernel_rfl⟩
instance:B5 Tryz.prog 35:=⟨by kernel_rfl⟩
instance:B5 Tryz.prog 36:=⟨by kernel_rfl⟩
instance:B5 Tryz.prog 37:=⟨by kernel_rfl⟩
instance:B5 Tryz.prog 38:=⟨by kernel_rfl⟩
instance:B5 Tryz.prog 40:=⟨by kernel_rfl⟩
instance:B5 Tryz.prog 41:=⟨by kernel_rfl⟩
instance:B5 Tryz.prog 42:=⟨by kernel_rfl⟩
instance:B5 Tryz.prog 43:=⟨by kernel_rfl⟩
instance:B5 Tryz.prog 44:=⟨by kernel_rfl⟩
instance:B5 Tryz.prog 45:=⟨by kernel_rfl⟩
instance:B5 Tryz.prog 46:=⟨by kernel_rfl⟩
instance:B5 Tryz.prog 47:=⟨by kernel_rfl⟩
instance:B5 Tryz.prog 48:=⟨by kernel_rfl⟩
instance:B5 Tryz.prog 49:=⟨by kernel_rfl⟩
instance:B5 Tryz.prog 50:=⟨by kernel_rfl⟩
instance:B5 Tryz.prog 51:=⟨by kernel_rfl⟩
instance:B5 Tryz.prog 52:=⟨by kernel_rfl⟩
instance:B5 Tryz.prog 53:=⟨by kernel_rfl⟩
instance:B5 Tryz.prog 54:=⟨by kernel_rfl⟩
instance:B5 Tryz.prog 55:=⟨by kernel_rfl⟩
instance:B5 Tryz.prog 56:=⟨by kernel_rfl⟩
instance:B5 Tryz.prog 57:=⟨by kernel_rfl⟩
instance:B5 Tryz.prog 58:=⟨by kernel_rfl⟩
instance:B5 Tryz.prog 72:=⟨by kernel_rfl⟩
instance:B5 Tryz.prog 74:=⟨by kernel_rfl⟩
instance:B5 Tryz.prog 75:=⟨by kernel_rfl⟩
instance:B5 Tryz.prog 76:=⟨by kernel_rfl⟩
instance:B5 Tryz.prog 77:=⟨by kernel_rfl⟩
instance:B5 Tryz.prog 78:=⟨by kernel_rfl⟩
instance:B5 Tryz.prog 79:=⟨by kernel_rfl⟩
instance:B5 Tryz.prog 80:=⟨by kernel_rfl⟩
instance:B5 Tryz.prog 81:=⟨by kernel_rfl⟩
instance:B5 Tryz.prog 82:=⟨by kernel_rfl⟩
instance:B5 Tryz.prog 83:=⟨by kernel_rfl⟩
instance:B5 Tryz.prog 84:=⟨by kernel_rfl⟩
instance:B5 Tryz.prog 85:=⟨by kernel_rfl⟩
instance:B5 Tryz.prog 86:=⟨by kernel_rfl⟩
instance:B5 Tryz.prog 87:=⟨by kernel_rfl⟩
instance:B5 Tryz.prog 88:=⟨by kernel_rfl⟩
instance:B5 Tryz.prog 92:=⟨by kernel_rfl⟩
instance:B5 Tryz.prog 93:=⟨by kernel_rfl⟩
instance:B5 Tryz.prog 94:=⟨by kernel_rfl⟩
instance:B5 Tryz.prog 95:=⟨by kernel_rfl⟩
instance:B5 Tryz.prog 96:=⟨by kernel_rfl⟩
instance:B5 Tryz.prog 97:=⟨by kernel_rfl⟩
instance:B5 Tryz.prog 98:=⟨by kernel_rfl⟩
instance:B5 Tryz.prog 99:=⟨by kernel_rfl⟩
instance:B5 Tryz.prog 100:=⟨by kernel_rfl⟩
instance:B5 Tryz.prog 101:=⟨by kernel_rfl⟩
instance:B5 Tryz.prog 102:=⟨by kernel_rfl⟩
instance:B5 Tryz.prog 103:=⟨by kernel_rfl⟩
instance:B5 Tryz.prog 104:=⟨by kernel_rfl⟩
instance:B5 Tryz.prog 105:=⟨by kernel_rfl⟩
instance:B5 Tryz.prog 106:=⟨by kernel_rfl⟩
instance:B5 Tryz.prog 107:=⟨by kernel_rfl⟩
instance:B5 Tryz.prog 108:=⟨by kernel_rfl⟩
instance:B5 Tryz.prog 109:=⟨by kernel_rfl⟩
instance:B5 Tryz.prog 110:=⟨by kernel_rfl⟩
instance:B5 Tryz.prog 111:=⟨by kernel_rfl⟩
instance:B5 Tryz.prog 112:=⟨by kernel_rfl⟩
instance:B5 Tryz.prog 115:=⟨by kernel_rfl⟩
instance:B5 Tryz.prog 116:=⟨by kernel_rfl⟩
instance:B5 Tryz.prog 118:=⟨by kernel_rfl⟩
instance:B5 Tryz.prog 119:=⟨by kernel_rfl⟩
instance:B5 Tryz.prog 120:=⟨by kernel_rfl⟩
instance:B5 Tryz.prog 121:=⟨by kernel_rfl⟩
instance:B5 Tryz.prog 122:=⟨by kernel_rfl⟩
instance:B5 Tryz.prog 133:=⟨by kernel_rfl⟩
instance:B5 Tryz.prog 134:=⟨by kernel_rfl⟩
instance:B5 Tryz.prog 135:=⟨by kernel_rfl⟩
instance:B5 Tryz.prog 136:=⟨by kernel_rfl⟩
instance:B5 Tryz.prog 137:=⟨by kernel_rfl⟩
instance:B5 Tryz.prog 138:=⟨by kernel_rfl⟩
instance:B5 Tryz.prog 139:=⟨by kernel_rfl⟩
instance:B5 Tryz.prog 140:=⟨by kernel_rfl⟩
instance:B5 Tryz.prog 141:=⟨by kernel_rfl⟩
instance:B5 Tryz.prog 142:=⟨by kernel_rfl⟩
instance:B5 Tryz.prog 143:=⟨by kernel_rfl⟩
instance:B5 Tryz.prog 145:=⟨by kernel_rfl⟩
instance:B5 Tryz.prog 146:=⟨by kernel_rfl⟩
instance:B5 Tryz.prog 147:=⟨by kernel_rfl⟩
instance:B5 Tryz.prog 148:=⟨by kernel_rfl⟩
instance:B5 Tryz.prog 149:=⟨by kernel_rfl⟩
instance:B5 Tryz.prog 150:=⟨by kernel_rfl⟩
instance:B5 Tryz.prog 151:=⟨by kernel_rfl⟩
instance:B5 Tryz.prog 153:=⟨by kernel_rfl⟩
instance:B5 Tryz.prog 154:=⟨by kernel_rfl⟩
instance:B5 Tryz.prog 155:=⟨by kernel_rfl⟩
instance:B5 Tryz.prog 156:=⟨by kernel_rfl⟩
instance:B5 Tryz.prog 157:=⟨by kernel_rfl⟩
instance:B5 Tryz.prog 158:=⟨by kernel_rfl⟩
instance:B5 Tryz.prog 159:=⟨by kernel_rfl⟩
instance:B5 Tryz.prog 160:=⟨by kernel_rfl⟩
instance:B5 Tryz.prog 161:=⟨by kernel_rfl⟩
instance:B5 Tryz.prog 162:=⟨by kernel_rfl⟩
instance:B5 Tryz.prog 173:=⟨by kernel_rfl⟩
instance:B5 Tryz.prog 182:=⟨by kernel_rfl⟩
instance:B5 Tryz.prog 208:=⟨by kernel_rfl⟩
instance:B5 Tryz.prog 209:=⟨by kernel_rfl⟩
instance:B5 Tryz.prog 210:=⟨by kernel_rfl⟩
instance:B5 Tryz.prog 211:=⟨by kernel_rfl⟩
instance:B5 Tryz.prog 223:=⟨by kernel_rfl⟩
instance:B5 Tryz.prog 224:=⟨by kernel_rfl⟩
instance:B5 Tryz.prog 225:=⟨by kernel_rfl⟩
instance:B5 Tryz.prog 226:=⟨by kernel_rfl⟩
instance:B5 Tryz.prog 227:=⟨by kernel_rfl⟩
instance:B5 Tryz.prog 228:=⟨by kernel_rfl⟩
instance:B5 Tryz.prog 234:=⟨by kernel_rfl⟩
instance:B5 Tryz.prog 253:=⟨by kernel_rfl⟩
instance:B5 Tryz.prog 259:=⟨by kernel_rfl⟩
instance:B5 Tryz.prog 273:=⟨by kernel_rfl⟩
attribute [local irreducible] Calls
def F0(c:Int):Bool:=decide (97≤c)&&decide (c≤122)||decide (65≤c)&&decide (c≤90)||decide (c=95)
def I5(c:Int):Bool:=decide (48≤c)&&decide (c≤57)
instance (c:Int):PC Tryz.prog 138 [.int .u8 c] (.bool (F0 c)):=⟨fun w=>by
 refine A3 Tryz.func138 rfl rfl ?_
 refine A4 ?_;exact⟨_,rfl,rfl,rfl⟩⟩
instance (c:Int):PC Tryz.prog 140 [.int .u8 c] (.bool (I5 c)):=⟨fun w=>by
 refine A3 Tryz.func140 rfl rfl ?_
 refine A4 ?_;exact⟨_,rfl,rfl,rfl⟩⟩
instance (c:Int):PC Tryz.prog 133 [.int .u8 c] (.bool (F0 c)):=⟨fun w=>by
 refine A3 Tryz.func133 rfl rfl ?_
 refine A4 ?_;exact⟨_,rfl,rfl,rfl⟩⟩
instance (c:Int):PC Tryz.prog 134 [.int .u8 c] (.bool (I5 c)):=⟨fun w=>by
 refine A3 Tryz.func134 rfl rfl ?_
 refine A4 ?_;exact⟨_,rfl,rfl,rfl⟩⟩
abbrev A5(s:ByteArray)(i:Nat):Int:=((s.data.toList.getD i 0).toNat:Int)
def I0(b:UInt8):Bool:=F0 b.toNat||I5 b.toNat
def runN(s:ByteArray):Nat:=(s.data.toList.takeWhile I0).length
def W2(s:ByteArray):Bool:=decide (0<s.size)&&F0 (A5 s 0)&&s.data.toList.all I0
def F9(s:ByteArray):Bool:=W2 s&&decide (s.size≤24)
theorem V5{p:UInt8→Bool}:∀ {l:List UInt8} {k:Nat},k≤l.length→(∀i,i<k→p (l.getD i 0)=true)→(k<l.length→p (l.getD k 0)=false)→(l.takeWhile p).length=k
 | [],k,h,_,_=>by simp at h;simp[h]
 | x::l,0,_,_,h2=>by
  have:=h2 (by simp)
  simp at this
  simp[this]
 | x::l,k+1,h,h1,h2=>by
  have h0:=h1 0 (by omega)
  simp at h0
  simp only[List.takeWhile_cons,h0,if_true,List.length_cons]
  rw[V5 (l:=l) (k:=k) (by simpa using h) (fun i hi=>h1 (i+1) (by omega)) (fun hk=>h2 (by simp only[List.length_cons];omega))]
theorem W1(s:ByteArray):s.data.toList.length=s.size:=Array.length_toList
class SB(s:ByteArray):Prop where h:s.size≤9223372036854775807
instance (s:ByteArray)[hs:SB s]:PC Tryz.prog 139 [.string s] (.int .i64 (runN s)):=⟨fun w=>by
 have h63:=hs.h
 refine A3 Tryz.func139 rfl rfl ?_
 refine A4 ?_;refine C8 (fun μ ρ w'=>∃k:Nat,μ+k=s.size∧Has ρ [(0,.string s),(3,.int .i64 k)]∧w'=w∧∀i,i<k→I0 (s.data.toList.getD i 0)=true) s.size ⟨0,rfl,⟨rfl,rfl,trivial⟩,rfl,fun i h=>absurd h (Nat.not_lt_zero i)⟩ ?_
 rintro μ ρ w' ⟨k,hk,hρ,rfl,hi⟩
 rw[hρ.eq];refine A4 ?_;refine A0 rfl (fun h=>?_) (fun h=>?_)
 ·have h':=H6 h
  simp only[decide_eq_true_eq]at h'
  refine A4 ?_;refine⟨μ-1,by omega,k+1,by omega,⟨rfl,rfl,trivial⟩,rfl,fun i hi'=>?_⟩
  by_cases e:i=k
  ·subst e;exact UX h
  ·exact hi i (by omega)
 ·refine A4 ?_;refine⟨_,rfl,C9 rfl ?_,rfl⟩
  have:=V5 (p:=I0) (l:=s.data.toList) (k:=k) (by rw[W1];omega) hi (fun hk'=>by
   rw[W1]at hk';rw[show decide ((k:Int)<(s.size:Int))=true from by simp;omega]at h
   exact h)
  show (k:Int)=((s.data.toList.takeWhile I0).length:Int)
  rw[this]⟩
theorem Fs{p:UInt8→Bool}{l:List UInt8}:((l.takeWhile p).length=l.length)↔l.all p=true:=by
 induction l with
 | nil=>simp
 | cons x l ih=>
  simp only[List.takeWhile_cons,List.all_cons]
  cases p x with
  | true=>simp[ih]
  | false=>simp
instance (s:ByteArray)[hs:SB s]:PC Tryz.prog 135 [.string s] (.bool (W2 s)):=⟨fun w=>by
 refine A3 Tryz.func135 rfl rfl ?_
 refine A4 ?_;refine⟨_,rfl,G7 rfl ?_,rfl⟩
 have h1:decide (s≠⟨#[]⟩)=decide (0<s.size):=by simp only[ne_nilB]
 have h2:decide ((runN s:Int)=(s.size:Int))=s.data.toList.all I0:=by
  rw[Bool.eq_iff_iff,decide_eq_true_eq,←Fs,W1];unfold runN;omega
 rw[h1,h2];rfl⟩
instance (s:ByteArray)[hs:SB s]:PC Tryz.prog 74 [.string s] (.bool (F9 s)):=⟨fun w=>by
 refine A3 Tryz.func74 rfl rfl ?_
 refine A4 ?_;refine⟨_,rfl,G7 rfl ?_,rfl⟩
 unfold F9;congr 1
 rw[decide_eq_decide];omega⟩
instance (s:ByteArray)[hs:SB s]:PC Tryz.prog 72 [.string s] (.bool (W2 s)):=⟨fun w=>by
 have h63:=hs.h
 refine A3 Tryz.func72 rfl rfl ?_
 refine A4 ?_;refine A0 rfl (fun h=>?_) (fun h=>?_)
 ·refine A4 ?_;refine⟨_,rfl,G7 rfl ?_,rfl⟩
  unfold W2;by_cases h0:s=⟨#[]⟩
  ·subst h0;rfl
  ·rw[show decide (s=⟨#[]⟩)=false from by simpa using h0]at h
   have h1:F0 (A5 s 0)=false:=by have h':(false || !F0 (A5 s 0))=true:=h;simpa using h'
   rw[h1];simp
 ·simp only[Bool.or_eq_false_iff,Bool.not_eq_false',decide_eq_false_iff_not,eq_nilB]at h
  have h1:F0 (A5 s 0)=true:=h.2
  refine A4 ?_;refine C8 (fun μ ρ w'=>∃k:Nat,μ+k=s.size∧Has ρ [(0,.string s),(3,.int .i64 k)]∧w'=w∧0<k∧∀i,i<k→I0 (s.data.toList.getD i 0)=true) (s.size-1) ⟨1,by omega,⟨rfl,rfl,trivial⟩,rfl,by omega,fun i hi=>?_⟩ ?_
  ·have:i=0:=by omega
   subst this;show (F0 (A5 s 0)||_)=true
   rw[h1];rfl
  rintro μ ρ w' ⟨k,hk,hρ,rfl,hk0,hi⟩
  rw[hρ.eq];refine A4 ?_;refine A0 rfl (fun h2=>?_) (fun h2=>?_)
  ·have h':k<s.size:=by simpa using h2
   refine A4 ?_;refine A0 rfl (fun h3=>?_) (fun h3=>?_)
   ·refine A4 ?_;refine⟨_,rfl,G7 rfl ?_,rfl⟩
    have h4:I0 (s.data.toList.getD k 0)=false:=by
     show (F0 (A5 s k)||I5 (A5 s k))=false
     have h5:(!F0 (A5 s k) && !I5 (A5 s k))=true:=h3
     simpa using h5
    have h6:s.data.toList.all I0=false:=by
     rw[←Bool.not_eq_true,List.all_eq_true];intro hall;have hm:=hall (s.data.toList.getD k 0) (by
      rw[List.getD_eq_getElem?_getD,List.getElem?_eq_getElem (by rw[W1];exact h')]
      exact List.getElem_mem _)
     rw[h4]at hm;cases hm
    unfold W2;rw[h6];simp
   ·refine A4 ?_;refine⟨μ-1,by omega,k+1,by omega,⟨rfl,rfl,trivial⟩,rfl,by omega,fun i hi'=>?_⟩
    by_cases e:i=k
    ·subst e;have h5:(!F0 (A5 s i) && !I5 (A5 s i))=false:=h3
     show (F0 (A5 s i)||I5 (A5 s i))=true
     cases hl:F0 (A5 s i) <;> cases hd:I5 (A5 s i) <;> simp[hl,hd]at h5 ⊢
    ·exact hi i (by omega)
  ·refine A4 ?_;refine⟨_,rfl,G7 rfl ?_,rfl⟩
   have h':¬k<s.size:=by simpa using h2
   have h6:s.data.toList.all I0=true:=by
    rw[List.all_eq_true];intro x hx;obtain⟨i,hil,rfl⟩:=List.getElem_of_mem hx
    have:=hi i (by rw[W1]at hil;omega)
    rwa [List.getD_eq_getElem?_getD,List.getElem?_eq_getElem hil]at this
   unfold W2;rw[h6,h1];simp;omega⟩
instance (s:ByteArray)[hs:SB s]:PC Tryz.prog 81 [.string s] (.bool (F9 s)):=⟨fun w=>by
 refine A3 Tryz.func81 rfl rfl ?_
 refine A4 ?_;refine⟨_,rfl,G7 rfl ?_,rfl⟩
 unfold F9;congr 1
 rw[decide_eq_decide];omega⟩
class Jz(n:Int):Prop where h:0<n∧n≤1099511627776
instance:Jz 3:=⟨by decide⟩
instance:Jz 4:=⟨by decide⟩
instance:Jz 5:=⟨by decide⟩
instance:Jz 6:=⟨by decide⟩
instance:Jz 8:=⟨by decide⟩
instance:Jz 100:=⟨by decide⟩
instance (v n:Int)[hn:Jz n]:PC Tryz.prog 8 [.int .i64 v,.int .i64 n] (.int .i64 (v%n)):=⟨fun w=>by
 have h:=hn.h
 have hm:=Int.tmod_lt_of_pos v h.1
 have hm2:-n<v.tmod n:=by
  have:=Int.tmod_lt_of_pos (-v) h.1
  rw[Int.neg_tmod]at this;omega
 have he:v%n=if v.tmod n<0 then v.tmod n+n else v.tmod n:=by
  have h3:v%n=v.tmod n%n:=by
   have h4:=Int.mul_tdiv_add_tmod v n
   have h5:=Int.mul_add_emod_self_left n (v.tdiv n) (v.tmod n)
   rw[h4]at h5;exact h5
  rw[h3];split
  ·rw[←Int.add_emod_right];exact Int.emod_eq_of_lt (by omega) (by omega)
  ·exact Int.emod_eq_of_lt (by omega) hm
 refine A3 Tryz.func8 rfl rfl ?_
 refine A4 ?_;refine A0 rfl (fun h1=>?_) (fun h1=>?_)
 ·refine A4 ?_;refine⟨_,rfl,C9 rfl ?_,rfl⟩
  rw[he,if_pos (by simpa using h1)]
 ·refine A4 ?_;refine⟨_,rfl,C9 rfl ?_,rfl⟩
  rw[he,if_neg (by simpa using h1)]⟩
def BZ(n:Int):Bool:=decide (0≤n)&&decide (n<32)
instance (n:Int):PC Tryz.prog 75 [.int .i64 n] (.bool (BZ n)):=⟨fun w=>by
 refine A3 Tryz.func75 rfl rfl ?_
 repeat first|refine B6 ?_|refine B7 ?_;intro w hw
 exact⟨_,rfl,rfl,rfl⟩⟩
instance (n:Int):PC Tryz.prog 82 [.int .i64 n] (.bool (BZ n)):=⟨fun w=>by
 refine A3 Tryz.func82 rfl rfl ?_
 repeat first|refine B6 ?_|refine B7 ?_;intro w hw
 exact⟨_,rfl,rfl,rfl⟩⟩
structure B4 where
 Token:Int
 Core:Int
 Name:ByteArray
 deriving DecidableEq,Inhabited
instance:EF B4 where
 enc a:=[.int .i64 a.Token,.int .i64 a.Core,.string a.Name]
 inj a b h:=by cases a;cases b;simp at h;simp[h]
 ks:=[5,5,1]
 kinds a:=rfl
structure Service where
 Name:ByteArray
 Core:Int
 Object:Int
 Kind:Int
 deriving DecidableEq
instance:Inhabited Service:=⟨⟨⟨#[]⟩,0,0,0⟩⟩
instance:EF Service where
 enc a:=[.string a.Name,.int .i64 a.Core,.int .i64 a.Object,.int .i64 a.Kind]
 inj a b h:=by cases a;cases b;simp at h;simp[h]
 ks:=[1,5,5,5]
 kinds a:=rfl
structure Found where
 Token:Int
 Core:Int
 Service:Service
 deriving DecidableEq,Inhabited
instance:EF Found where
 enc a:=[.int .i64 a.Token,.int .i64 a.Core,.string a.Service.Name,.int .i64 a.Service.Core,.int .i64 a.Service.Object,.int .i64 a.Service.Kind]
 inj a b h:=by cases a with|mk a1 a2 a3=>cases b with|mk b1 b2 b3=>cases a3;cases b3;simp at h;simp[h]
 ks:=[5,5,1,5,5,5]
 kinds a:=rfl
def O3(s:Service):Value:=.agg (enc s).toArray
def Hf(o:Option Nat):Int:=match o with|some i=>i|none=>-1
theorem Bo{α:Type}{p:α→Bool}{l:List α}{k:Nat}{x:α}(h:l[k]? = some x)(hp:p x=true)(hi:∀i y,i<k→l[i]? = some y→p y=false):l.findIdx? p=some k:=by
 obtain⟨hk,rfl⟩:=List.getElem?_eq_some_iff.1 h
 rw[List.findIdx?_eq_some_iff_getElem];exact⟨hk,hp,fun j hj=>by have:=hi j _ hj (List.getElem?_eq_getElem (by omega));simp[this]⟩
theorem CI(SS:Nat→List A7)(Γ:B8)(w:World)(va:Value)(xs:List B4)(f:Nat)(fst cap:List Value)(p:B4→Bool)[B5 Tryz.prog f](hw:Wd Γ (SS 0) w)(ha:∀k,O9 Γ (SS k) va 3 (xs.map enc))
  (hp:∀k x w,xs[k]? = some x→Wd Γ (SS k) w→Calls Tryz.prog f (fst++[Value.agg (enc x).toArray]++cap).toArray w fun e w'=>e=.returned (.bool (p x))∧Wd Γ (SS (k+1)) w') :
  Calls Tryz.prog 136 #[va,.func (.func f) fst.toArray cap.toArray] w fun e w'=>e=.returned (.int .i64 (Hf (xs.findIdx? p)))∧Wd Γ (SS (match xs.findIdx? p with|some k=>k+1|none=>xs.length)) w':=by
 obtain⟨a,n,c,rfl,hn,hnc,hc⟩:=(ha 0).shape
 simp only[List.length_map]at hn
 refine A3 Tryz.func136 rfl rfl ?_
 repeat first|refine B6 ?_|refine B7 ?_;intro w hw
 refine C8 (fun μ ρ w=>∃k:Nat,μ+k=n∧Has ρ [(0,.slice a n c),(1,.func (.func f) fst.toArray cap.toArray),(7,.int .i64 n),(8,.int .i64 k)]∧Wd Γ (SS k) w∧∀i x,i<k→xs[i]? = some x→p x=false) n ⟨0,by omega,⟨rfl,rfl,rfl,rfl,trivial⟩,hw,fun i x h=>absurd h (Nat.not_lt_zero i)⟩ ?_
 rintro μ ρ w ⟨k,hk,hρ,hw,hi⟩
 rw[hρ.eq];have hr:=ha k
 repeat first|refine B6 ?_|refine B7 ?_;intro w hw
 refine A0 rfl (fun h=>?_) (fun h=>?_)
 ·have hkn:k<n:=by simpa using h
  obtain⟨x,hx⟩:=C0 (l:=xs) (k:=k) (by omega)
  repeat first|refine B6 ?_|refine B7 ?_;intro w hw
  refine Ae ?_;refine(hp k x _ hx hw).mono ?_
  rintro e w ⟨rfl,hw⟩
  refine⟨_,rfl,?_⟩;repeat first|refine B6 ?_|refine B7 ?_;intro w hw
  refine A0 rfl (fun h2=>?_) (fun h2=>?_)
  ·repeat first|refine B6 ?_|refine B7 ?_;intro w hw
   have hf:=Bo hx h2 hi
   rw[hf];exact⟨_,rfl,C9 rfl rfl,hw⟩
  ·repeat first|refine B6 ?_|refine B7 ?_;intro w hw
   refine⟨μ-1,by omega,k+1,by omega,⟨rfl,rfl,rfl,rfl,trivial⟩,hw,fun i y hi' hy=>?_⟩
   by_cases e:i=k
   ·subst e;rw[hx]at hy;cases hy;exact h2
   ·exact hi i y (by omega) hy
 ·repeat first|refine B6 ?_|refine B7 ?_;intro w hw
  have hkn:¬k<n:=by simpa using h
  have hf:xs.findIdx? p=none:=List.findIdx?_eq_none_iff.2 (fun x hx=>by
   obtain⟨i,hil,rfl⟩:=List.getElem_of_mem hx
   exact hi i _ (by omega) (List.getElem?_eq_getElem hil))
  rw[hf];refine⟨_,rfl,C9 rfl rfl,?_⟩
  have:k=xs.length:=by omega
  rw[this]at hw;exact hw
theorem GB(Γ:B8)(S:List A7)(w:World)(va:Value)(xs:List B4)(f:Nat)(fst cap:List Value)(p:B4→Bool)[B5 Tryz.prog f](hw:Wd Γ S w)(ha:O9 Γ S va 3 (xs.map enc))
  (hp:∀x w,Wd Γ S w→Calls Tryz.prog f (fst++[Value.agg (enc x).toArray]++cap).toArray w fun e w'=>e=.returned (.bool (p x))∧Wd Γ S w') :
  Calls Tryz.prog 136 #[va,.func (.func f) fst.toArray cap.toArray] w fun e w'=>e=.returned (.int .i64 (Hf (xs.findIdx? p)))∧Wd Γ S w':=
 CI (fun _=>S) Γ w va xs f fst cap p hw (fun _=>ha) (fun _ x w _ hw=>hp x w hw)
def KJ(token core:Int)(x:B4):Bool:=decide (x.Token=token)&&decide (x.Core=core)
theorem Hz(Γ:B8)(S:List A7)(w:World)(bt bc:Nat)(token core:Int)(x:B4)(hw:Wd Γ (.blk bc (.cells #[.int .i64 core] 3)::.blk bt (.cells #[.int .i64 token] 3)::S) w) :
  Calls Tryz.prog 137 #[.agg (enc x).toArray,.pointer (some ⟨bt,0,none⟩),.pointer (some ⟨bc,0,none⟩)] w fun e w'=>e=.returned (.bool (KJ token core x))∧Wd Γ (.blk bc (.cells #[.int .i64 core] 3)::.blk bt (.cells #[.int .i64 token] 3)::S) w':=by
 refine A3 Tryz.func137 rfl rfl ?_
 repeat first|refine B6 ?_|refine B7 ?_;intro w hw
 refine E5 ?_;intro b w hw;repeat first|refine B6 ?_|refine B7 ?_;intro w hw
 exact⟨_,rfl,rfl,hw.drop⟩
def D4(b bm:Nat)(vs:Value)(m:List (ByteArray×Service))(ws:List B4):List A7:=[.blk b (.cells #[.map (some bm),vs] 81),A7.ms O3 bm m,.own vs 39 3 (ws.map enc)]
theorem Ee(Γ:B8)(S:List A7)(w:World)(b bm:Nat)(vs:Value)(m:List (ByteArray×Service))(ws:List B4)(token core:Int)(hw:Wd Γ (D4 b bm vs m ws++S) w) :
  Calls Tryz.prog 76 #[.pointer (some ⟨b,0,none⟩),.int .i64 token,.int .i64 core] w fun e w'=>e=.returned (.int .i64 (Hf (ws.findIdx? (KJ token core))))∧Wd Γ (D4 b bm vs m ws++S) w':=by
 unfold D4 at *
 refine A3 Tryz.func76 rfl rfl ?_
 repeat first|refine B6 ?_|refine B7 ?_;intro w hw
 refine E5 ?_;intro bt w hw;refine E5 ?_;intro bc w hw;repeat first|refine B6 ?_|refine B7 ?_;intro w hw
 refine C5 ?_;refine(GB Γ _ w _ ws 137 [] [.pointer (some ⟨bt,0,none⟩),.pointer (some ⟨bc,0,none⟩)] (KJ token core) hw (O9.own (i:=4) hw rfl) (fun x w hw=>Hz Γ _ w bt bc token core x hw)).mono ?_
 rintro e w ⟨rfl,hw⟩
 refine⟨_,rfl,?_⟩;repeat first|refine B6 ?_|refine B7 ?_;intro w hw
 exact⟨_,rfl,rfl,hw.drop.drop⟩
set_option maxHeartbeats 4000000
theorem AV(T:Nat→List A7)(Γ:B8)(w:World)(va:Value)(xs:List B4)(f:Nat)(fst cap:List Value)(p:B4→Bool)[B5 Tryz.prog f](hw:Wd Γ (.own va 39 3 (xs.map enc)::T 0) w)
  (hp:∀(R:List A7) k x w,xs[k]? = some x→Wd Γ (R++T k) w→Calls Tryz.prog f (fst++[Value.agg (enc x).toArray]++cap).toArray w fun e w'=>e=.returned (.bool (p x))∧Wd Γ (R++T (k+1)) w') :
  Calls Tryz.prog 77 #[va,.func (.func f) fst.toArray cap.toArray] w fun e w'=>∃v',e=.returned v'∧Wd Γ (.own v' 39 3 ((xs.filter fun x=>!p x).map enc)::T xs.length) w':=by
 obtain⟨a,n,c,rfl,hn,hnc,hc⟩:=hw.own_shape (i:=0) rfl
 simp only[List.length_map]at hn
 refine A3 Tryz.func77 rfl rfl ?_
 repeat first|refine B6 ?_|refine B7 ?_;intro w hw
 refine C5 ?_;refine(CI (fun k=>.own (.slice a n c) 39 3 (xs.map enc)::T k) Γ w _ xs f fst cap p hw (fun k=>?_) (fun k x w hx hw=>hp [_] k x w hx hw)).mono ?_
 ·exact O9.ownI (i:=0) rfl (by rw[List.length_map];exact hn) hnc hc
 rintro e w ⟨rfl,hw⟩
 refine⟨_,rfl,?_⟩;revert hw
 generalize hf:xs.findIdx? p=o
 intro hw;cases o with
 | none=>
  repeat first|refine B6 ?_|refine B7 ?_;intro w hw
  refine E6 rfl ?_
  repeat first|refine B6 ?_|refine B7 ?_;intro w hw
  have:(xs.filter fun x=>!p x)=xs:=List.filter_eq_self.2 fun x hx=>by
   have:=(List.findIdx?_eq_none_iff.1 hf) x hx
   simp[this]
  exact⟨_,rfl,_,rfl,by rw[this];exact hw⟩
 | some i0=>
  obtain⟨hi0,hpi,hbef⟩:=List.findIdx?_eq_some_iff_getElem.1 hf
  simp only at hw
  have hz:Hf (some i0)=(i0:Int):=rfl
  have ht0:xs.take i0=(xs.take (i0+1)).filter fun x=>!p x:=by
   rw[List.take_add_one,List.getElem?_eq_getElem hi0,List.filter_append];have h1:((xs.take i0).filter fun x=>!p x)=xs.take i0:=List.filter_eq_self.2 fun x hx=>by
    obtain⟨k,hk,rfl⟩:=List.getElem_of_mem hx
    simp only[List.length_take]at hk
    have:=hbef k (by omega)
    simp only[List.getElem_take]
    simpa using this
   rw[h1];simp[hpi]
  repeat first|refine B6 ?_|refine B7 ?_;intro w hw
  refine A0 rfl (fun h=>?_) (fun h=>?_)
  ·simp[Hf]at h
  repeat first|refine B6 ?_|refine B7 ?_;intro w hw
  refine C8 (fun μ ρ w=>∃(i j:Nat) (cur:List B4),μ+j=n∧i<j∧cur.length=n∧cur.take i=((xs.take j).filter fun x=>!p x)∧(∀k,j≤k→cur[k]? = xs[k]?)∧Has ρ [(0,.slice a n c),(1,.func (.func f) fst.toArray cap.toArray),(5,.int .i64 i),(6,.int .i64 j)]∧Wd Γ (.own (.slice a n c) 39 3 (cur.map enc)::T j) w) (n-(i0+1)) ⟨i0,i0+1,xs,by omega,by omega,hn.symm,ht0,fun _ _=>rfl,⟨rfl,rfl,rfl,rfl,trivial⟩,hw⟩ ?_
  rintro μ ρ w ⟨i,j,cur,hμ,hij,hcl,hcur,hrest,hρ,hw⟩
  rw[hρ.eq];have hcn:n=cur.length:=hcl.symm
  repeat first|refine B6 ?_|refine B7 ?_;intro w hw
  refine A0 rfl (fun h=>?_) (fun h=>?_)
  ·have hjn:j<n:=by simpa using h
   obtain⟨x,hx⟩:=C0 (l:=cur) (k:=j) (by omega)
   have hxx:xs[j]? = some x:=by rw[←hrest j (Nat.le_refl _)];exact hx
   have htk:xs.take (j+1)=xs.take j++[x]:=by rw[List.take_add_one,hxx];rfl
   repeat first|refine B6 ?_|refine B7 ?_;intro w hw
   refine B2 ?_;intro b w hw;refine B0 ?_;intro w hw;repeat first|refine B6 ?_|refine B7 ?_;intro w hw
   refine Ae ?_;refine(hp [_,_] j x w hxx hw).mono ?_
   rintro e w ⟨rfl,hw⟩
   have hw:Wd Γ (.blk b (.cells (enc x).toArray 39)::.own (.slice a n c) 39 3 (cur.map enc)::T (j+1)) w:=hw
   refine⟨_,rfl,?_⟩;repeat first|refine B6 ?_|refine B7 ?_;intro w hw
   refine A0 rfl (fun h2=>?_) (fun h2=>?_)
   ·have hpx:p x=false:=by simpa using h2
    repeat first|refine B6 ?_|refine B7 ?_;intro w hw
    refine EK ?_;intro w hw;repeat first|refine B6 ?_|refine B7 ?_;intro w hw
    refine⟨μ-1,by omega,i+1,j+1,cur.set i x,by omega,by omega,by simpa using hcl,?_,fun k hk=>?_,⟨rfl,rfl,rfl,rfl,trivial⟩,?_⟩
    ·have hij2:i<cur.length:=by omega
     rw[List.take_add_one,List.getElem?_set_self hij2,htk,List.filter_append,←hcur,List.take_set_of_le (Nat.le_refl _)];simp[hpx]
    ·rw[List.getElem?_set_ne (by omega)]
     exact hrest k (by omega)
    ·rw[List.map_set];exact hw.drop
   ·have hpx:p x=true:=by simpa using h2
    repeat first|refine B6 ?_|refine B7 ?_;intro w hw
    refine⟨μ-1,by omega,i,j+1,cur,by omega,by omega,hcl,?_,fun k hk=>hrest k (by omega),⟨rfl,rfl,rfl,rfl,trivial⟩,hw.drop⟩
    rw[hcur,htk,List.filter_append];simp[hpx]
  ·have hjn:¬j<n:=by simpa using h
   repeat first|refine B6 ?_|refine B7 ?_;intro w hw
   have hw:=Wd.own_take (i:=0) hw rfl (show i≤n by omega)
   refine HG ?_;intro w hw;repeat first|refine B6 ?_|refine B7 ?_;intro w hw
   refine⟨_,rfl,_,rfl,?_⟩
   have hj:j=xs.length:=by omega
   rw[hj]at hw;rw[hj,List.take_length]at hcur;rw[←hcur,List.map_take];exact hw
def Rf(bf:Nat)(l:List Found):A7:=A7.ex fun fv:Value=>[.blk bf (.cells #[fv] 84),.own fv 88 6 (l.map enc)]
def SH(v:Service)(x:B4):Found:=⟨x.Token,x.Core,v⟩
def K1(v:Service)(ws:List B4):List Found:=(ws.filter fun x=>decide (x.Name=v.Name)).map (SH v)
theorem Fy(Γ:B8)(S:List A7)(w:World)(bf bv:Nat)(v:Service)(l:List Found)(x:B4)(hl:l.length≤1000)(hw:Wd Γ (Rf bf l::.blk bv (.cells (enc v).toArray 37)::S) w) :
  Calls Tryz.prog 78 #[.agg (enc x).toArray,.pointer (some ⟨bv,0,none⟩),.pointer (some ⟨bf,0,none⟩)] w fun e w'=>e=.returned (.bool (decide (x.Name=v.Name)))∧Wd Γ (Rf bf (l++if x.Name=v.Name then [SH v x] else [])::.blk bv (.cells (enc v).toArray 37)::S) w':=by
 obtain⟨fv,hw⟩:=hw.openEx;obtain⟨a,n,c,rfl,hn,hnc,hc⟩:=hw.own_shape (i:=1) rfl
 simp only[List.length_map]at hn
 refine A3 Tryz.func78 rfl rfl ?_
 repeat first|refine B6 ?_|refine B7 ?_;intro w hw
 refine E5 ?_;intro b w hw;repeat first|refine B6 ?_|refine B7 ?_;intro w hw
 refine A0 rfl (fun h=>?_) (fun h=>?_)
 ·have hne:¬x.Name=v.Name:=by simpa using h
  repeat first|refine B6 ?_|refine B7 ?_;intro w hw
  refine⟨_,rfl,G7 rfl (by simp[hne]),?_⟩
  rw[if_neg hne,List.append_nil];exact Wd.closeEx (X:=fun fv:Value=>[.blk bf (.cells #[fv] 84),.own fv 88 6 (l.map enc)]) _ hw.drop
 ·have he:x.Name=v.Name:=by simpa using h
  repeat first|refine B6 ?_|refine B7 ?_;intro w hw
  refine D7 [enc (SH v x)] ?_
  intro a2 w hw;refine Bp (rows2:=[enc (SH v x)]) ?_ (Wd.own_rd (i:=0) hw rfl)
  intro v' w hw;obtain⟨a3,n3,c3,rfl,-,-,-⟩:=hw.own_shape (i:=3) rfl
  refine B0 ?_;intro w hw;repeat first|refine B6 ?_|refine B7 ?_;intro w hw
  refine⟨_,rfl,G7 rfl (by simp[he]),?_⟩
  rw[if_pos he];refine Wd.closeEx (X:=fun fv:Value=>[.blk bf (.cells #[fv] 84),.own fv 88 6 ((l++[SH v x]).map enc)]) (.slice a3 n3 c3) ?_
  rw[List.map_append];exact hw.drop.drop
def S6(v:Service):Bool:=!BZ v.Core||decide (v.Object<0)||decide (1099511627775<v.Object)||decide (v.Kind<0)||decide (65535<v.Kind)
def H7(m:List (ByteArray×Service))(v:Service):Int:=
 if F9 v.Name=false then 63 else if S6 v=true then 1 else if (D2 m v.Name).isSome=true then 56 else if m.length=64 then 15 else 0
def V2(m:List (ByteArray×Service))(v:Service):List (ByteArray×Service):=if H7 m v=0 then AA m v.Name v else m
def j9(m:List (ByteArray×Service))(ws:List B4)(v:Service):List B4:=if H7 m v=0 then ws.filter fun x=>!decide (x.Name=v.Name) else ws
def BL(m:List (ByteArray×Service))(ws:List B4)(v:Service):List Found:=if H7 m v=0 then K1 v ws else []
theorem CG(Γ:B8)(S:List A7)(w:World)(b bm:Nat)(vs:Value)(m:List (ByteArray×Service))(ws:List B4)(v:Service)[SB v.Name](hws:ws.length≤64)(hw:Wd Γ (D4 b bm vs m ws++S) w) :
  Calls Tryz.prog 23 #[.pointer (some ⟨b,0,none⟩),.agg (enc v).toArray] w fun e w'=>∃fv vs',e=.returned (.tuple #[fv,.int .i64 (H7 m v)]) ∧
   Wd Γ (.own fv 88 6 ((BL m ws v).map enc)::(D4 b bm vs' (V2 m v) (j9 m ws v)++S)) w':=by
 unfold D4 at *
 obtain⟨a,n,c,rfl,hn,hnc,hc⟩:=hw.own_shape (i:=2) rfl
 simp only[List.length_map]at hn
 refine A3 Tryz.func23 rfl rfl ?_
 repeat first|refine B6 ?_|refine B7 ?_;intro w hw
 refine E5 ?_;intro bv w hw;repeat first|refine B6 ?_|refine B7 ?_;intro w hw
 refine FC 1 [[],[],[],[],[],[],[],[],[],[],[0],[0],[]] [[],[],[],[],[],[],[],[],[],[],[0],[0],[]] [[6]] ?_
 repeat(first|refine mY ?_|refine mP ?_|refine D9 ?_|refine G6 ?_|refine K3 ?_)
 refine Eo ?_
 refine AG ?_
 repeat(first|refine mY ?_|refine mP ?_|refine D9 ?_|refine G6 ?_|refine K3 ?_)
 intro be w hw;repeat first|refine B6 ?_|refine B7 ?_;intro w hw
 have nil:∀ {w} {S':List A7},Wd Γ ([A7.blk be (.cells (enc ((D2 m v.Name).getD default)).toArray 37)]++A7.blk bv (.cells (enc v).toArray 37)::S') w→Wd Γ (.own (.slice none 0 0) 88 6 []::S') w:=fun h=>Wd.addNil h.drop.drop
 refine A0 rfl (fun h1=>?_) (fun h1=>?_)
 ·repeat first|refine B6 ?_|refine B7 ?_;intro w hw
  have hE:H7 m v=63:=by simp[H7,show F9 v.Name=false from by simpa using h1]
  refine⟨_,rfl,.slice none 0 0,.slice a n c,by rw[hE];rfl,?_⟩
  rw[show V2 m v=m from by simp[V2,hE],show j9 m ws v=ws from by simp[j9,hE],show BL m ws v=[] from by simp[BL,hE]]
  exact nil hw
 have h1:F9 v.Name=true:=by simpa using h1
 repeat first|refine B6 ?_|refine B7 ?_;intro w hw
 refine A0 rfl (fun h2=>?_) (fun h2=>?_)
 ·have h2:S6 v=true:=h2
  repeat first|refine B6 ?_|refine B7 ?_;intro w hw
  have hE:H7 m v=1:=by simp[H7,h1,h2]
  refine⟨_,rfl,.slice none 0 0,.slice a n c,by rw[hE];rfl,?_⟩
  rw[show V2 m v=m from by simp[V2,hE],show j9 m ws v=ws from by simp[j9,hE],show BL m ws v=[] from by simp[BL,hE]]
  exact nil hw
 have h2:S6 v=false:=h2
 repeat first|refine B6 ?_|refine B7 ?_;intro w hw
 refine A0 rfl (fun h3=>?_) (fun h3=>?_)
 ·have h3:(D2 m v.Name).isSome=true:=h3
  repeat first|refine B6 ?_|refine B7 ?_;intro w hw
  have hE:H7 m v=56:=by simp[H7,h1,h2,h3]
  refine⟨_,rfl,.slice none 0 0,.slice a n c,by rw[hE];rfl,?_⟩
  rw[show V2 m v=m from by simp[V2,hE],show j9 m ws v=ws from by simp[j9,hE],show BL m ws v=[] from by simp[BL,hE]]
  exact nil hw
 have h3:(D2 m v.Name).isSome=false:=h3
 repeat first|refine B6 ?_|refine B7 ?_;intro w hw
 refine A0 rfl (fun h4=>?_) (fun h4=>?_)
 ·have h4:m.length=64:=by have h5:=of_decide_eq_true h4;omega
  repeat first|refine B6 ?_|refine B7 ?_;intro w hw
  have hE:H7 m v=15:=by simp[H7,h1,h2,h3,h4]
  refine⟨_,rfl,.slice none 0 0,.slice a n c,by rw[hE];rfl,?_⟩
  rw[show V2 m v=m from by simp[V2,hE],show j9 m ws v=ws from by simp[j9,hE],show BL m ws v=[] from by simp[BL,hE]]
  exact nil hw
 have h4:¬m.length=64:=by have h5:=of_decide_eq_false h4;omega
 have hE:H7 m v=0:=by simp[H7,h1,h2,h3,h4]
 repeat first|refine B6 ?_|refine B7 ?_;intro w hw
 have hw:Wd Γ ([A7.blk be (.cells (enc ((D2 m v.Name).getD default)).toArray 37),A7.blk bv (.cells (enc v).toArray 37),.blk b (.cells #[.map (some bm),.slice a n c] 81),.own (.slice a n c) 39 3 (ws.map enc)]++(A7.ms O3 bm m::S)) w:=
  hw.perm ((((List.Perm.swap _ _ _).cons _).cons _).cons _)
 refine j6 _ _ [[],[],[],[],[],[],[],[0]] [[],[],[],[],[],[],[],[0]] hw ?_
 repeat(first|refine mY ?_|refine mP ?_|refine D9 ?_|refine G6 ?_|refine K3 ?_)
 refine mM (v:=undef) (fun _=>A7.ms O3 bm (AA m v.Name v)::S) (fun Y w g hw=>?_) ?_
 ·exact T8 (f:=O3) (v:=v) (a:=v.Name) (l:=m) (i:=4) hw rfl rfl rfl rfl (fun w' hw'=>⟨hw',fun _=>rfl⟩)
 repeat(first|refine mY ?_|refine mP ?_|refine D9 ?_|refine G6 ?_|refine K3 ?_)
 intro w hw;have hw:Wd Γ ([A7.blk be (.cells (enc ((D2 m v.Name).getD default)).toArray 37),A7.blk bv (.cells (enc v).toArray 37),.blk b (.cells #[.map (some bm),.slice a n c] 81),.own (.slice a n c) 39 3 (ws.map enc)]++(A7.ms O3 bm (AA m v.Name v)::S++[])) w:=hw
 rw[List.append_nil]at hw;repeat first|refine B6 ?_|refine B7 ?_;intro w hw
 refine B2 ?_;intro bf w hw;repeat first|refine B6 ?_|refine B7 ?_;intro w hw
 refine C5 ?_;have hw:=Wd.closeEx (X:=fun fv:Value=>[.blk bf (.cells #[fv] 84),.own fv 88 6 (([]:List Found).map enc)]) (.slice none 0 0) ((Wd.addNil (a:=none) (E:=88) (sz:=6) hw).perm (.swap _ _ _))
 have hw:Wd Γ (.own (.slice a n c) 39 3 (ws.map enc)::Rf bf []::.blk bv (.cells (enc v).toArray 37)::.blk be (.cells (enc ((D2 m v.Name).getD default)).toArray 37)::.blk b (.cells #[.map (some bm),.slice a n c] 81)::A7.ms O3 bm (AA m v.Name v)::S) w:=((hw.pull (i:=2) rfl).pull (i:=1) rfl).pull (i:=4) rfl
 refine(AV (fun k=>Rf bf (K1 v (ws.take k))::.blk bv (.cells (enc v).toArray 37)::.blk be (.cells (enc ((D2 m v.Name).getD default)).toArray 37)::.blk b (.cells #[.map (some bm),.slice a n c] 81)::A7.ms O3 bm (AA m v.Name v)::S) Γ w _ ws 78 [] [.pointer (some ⟨bv,0,none⟩),.pointer (some ⟨bf,0,none⟩)] (fun x=>decide (x.Name=v.Name)) hw (fun R k x w hx hw=>?_)).mono ?_
 ·have hl:(K1 v (ws.take k)).length≤1000:=by
   have:=List.length_filter_le (fun x:B4=>decide (x.Name=v.Name)) (ws.take k)
   simp only[K1,List.length_map,List.length_take] at *;omega
  refine(Fy Γ _ w bf bv v (K1 v (ws.take k)) x hl ((Wd.swapApp (B:=[_,_]) hw))).mono ?_
  rintro e w' ⟨he,hw'⟩
  refine⟨he,?_⟩
  have h5:K1 v (ws.take (k+1))=K1 v (ws.take k)++(if x.Name=v.Name then [SH v x] else []):=by
   rw[List.take_add_one,hx];unfold K1;rw[List.filter_append,List.map_append];congr 1
   by_cases h6:x.Name=v.Name <;> simp[h6]
  rw[h5];exact Wd.swapApp (A:=[_,_]) hw'
 rintro e w ⟨vs',rfl,hw⟩
 refine⟨_,rfl,?_⟩;rw[List.take_length]at hw;obtain⟨a',n',c',rfl,-,-,-⟩:=hw.own_shape (i:=0) rfl
 repeat first|refine B6 ?_|refine B7 ?_;intro w hw
 refine B0 ?_;intro w hw;obtain⟨fv,hw⟩:=(hw.pull (i:=1) rfl).openEx
 repeat first|refine B6 ?_|refine B7 ?_;intro w hw
 refine⟨_,rfl,fv,.slice a' n' c',by rw[hE];rfl,?_⟩
 rw[show V2 m v=AA m v.Name v from by simp[V2,hE],show j9 m ws v=ws.filter (fun x=>!decide (x.Name=v.Name)) from by simp[j9,hE],show BL m ws v=K1 v ws from by simp[BL,hE]]
 exact(((((hw.dropAt 0).dropAt 2).dropAt 2).pull (i:=3) rfl).pull (i:=3) rfl).pull (i:=2) rfl
end Go.Proofs.YtlimglpjpcfpdaaGreat
end
section
open Go Mk
namespace Go.Proofs.YtlimglpjpcfpdaaGreat
def Hl:Go.Shelf.Ren:=⟨fun|6=>56|15=>114|14=>117|28=>171|29=>172|20=>174|21=>175|22=>176|23=>177|24=>178|25=>179|26=>180|27=>181|46=>235|47=>230|48=>231|49=>236|50=>237|57=>261|n=>n,fun|22=>58|24=>135|25=>137|3=>3|39=>155|0=>0|53=>260|55=>122|4=>4|46=>253|45=>252|50=>257|5=>5|9=>9|66=>292|70=>296|76=>320|77=>228|n=>n,fun|n=>n⟩
theorem QA:Go.Proofs.SlLaysF0.n6 Tryz.prog Hl:={
 mixed:=by kernel_rfl
 f6:=⟨Tryz.f56.name,by decide,Tryz.func56.trans (congrArg some (by kernel_rfl))⟩
 f14:=⟨Tryz.f117.name,by decide,Tryz.func117.trans (congrArg some (by kernel_rfl))⟩
 f15:=Tryz.func114.trans (congrArg some (by kernel_rfl))
 f20:=⟨Tryz.f174.name,by decide,Tryz.func174.trans (congrArg some (by kernel_rfl))⟩
 f21:=⟨Tryz.f175.name,by decide,Tryz.func175.trans (congrArg some (by kernel_rfl))⟩
 f22:=⟨Tryz.f176.name,by decide,Tryz.func176.trans (congrArg some (by kernel_rfl))⟩
 f23:=⟨Tryz.f177.name,by decide,Tryz.func177.trans (congrArg some (by kernel_rfl))⟩
 f24:=⟨Tryz.f178.name,by decide,Tryz.func178.trans (congrArg some (by kernel_rfl))⟩
 f25:=⟨Tryz.f179.name,by decide,Tryz.func179.trans (congrArg some (by kernel_rfl))⟩
 f26:=⟨Tryz.f180.name,by decide,Tryz.func180.trans (congrArg some (by kernel_rfl))⟩
 f27:=⟨Tryz.f181.name,by decide,Tryz.func181.trans (congrArg some (by kernel_rfl))⟩
 f28:=Tryz.func171.trans (congrArg some (by kernel_rfl))
 f29:=Tryz.func172.trans (congrArg some (by kernel_rfl))
 f46:=⟨Tryz.f235.name,by decide,Tryz.func235.trans (congrArg some (by kernel_rfl))⟩
 f47:=Tryz.func230.trans (congrArg some (by kernel_rfl))
 f48:=Tryz.func231.trans (congrArg some (by kernel_rfl))
 f49:=⟨Tryz.f236.name,by decide,Tryz.func236.trans (congrArg some (by kernel_rfl))⟩
 f50:=⟨Tryz.f237.name,by decide,Tryz.func237.trans (congrArg some (by kernel_rfl))⟩
 f57:=⟨Tryz.f261.name,by decide,Tryz.func261.trans (congrArg some (by kernel_rfl))⟩
 t0:=Tryz.underlying0
 a0:=Tryz.isAgg0
 z0:=Tryz.sizeOf0
 v0:=Tryz.zeroValue0
 t3:=Tryz.underlying3
 a3:=Tryz.isAgg3
 z3:=Tryz.sizeOf3
 v3:=Tryz.zeroValue3
 t4:=Tryz.underlying4
 a4:=Tryz.isAgg4
 z4:=Tryz.sizeOf4
 v4:=Tryz.zeroValue4
 t5:=Tryz.underlying5
 a5:=Tryz.isAgg5
 z5:=Tryz.sizeOf5
 v5:=Tryz.zeroValue5
 t9:=Tryz.underlying9
 a9:=Tryz.isAgg9
 z9:=Tryz.sizeOf9
 v9:=Tryz.zeroValue9
 t22:=Tryz.underlying58
 a22:=Tryz.isAgg58
 z22:=Tryz.sizeOf58
 v22:=Tryz.zeroValue58
 t25:=Tryz.underlying137
 a25:=Tryz.isAgg137
 z25:=Tryz.sizeOf137
 v25:=Tryz.zeroValue137
 t39:=Tryz.underlying155
 a39:=Tryz.isAgg155
 z39:=Tryz.sizeOf155
 v39:=Tryz.zeroValue155
 t45:=Tryz.underlying252
 a45:=Tryz.isAgg252
 z45:=Tryz.sizeOf252
 v45:=Tryz.zeroValue252
 t46:=Tryz.underlying253
 a46:=Tryz.isAgg253
 z46:=Tryz.sizeOf253
 v46:=Tryz.zeroValue253
 t50:=Tryz.underlying257
 a50:=Tryz.isAgg257
 z50:=Tryz.sizeOf257
 v50:=Tryz.zeroValue257
 t53:=Tryz.underlying260
 a53:=Tryz.isAgg260
 z53:=Tryz.sizeOf260
 v53:=Tryz.zeroValue260
 t55:=Tryz.underlying122
 a55:=Tryz.isAgg122
 z55:=Tryz.sizeOf122
 v55:=Tryz.zeroValue122
 t66:=Tryz.underlying292
 a66:=Tryz.isAgg292
 z66:=Tryz.sizeOf292
 v66:=Tryz.zeroValue292
 t70:=Tryz.underlying296
 a70:=Tryz.isAgg296
 z70:=Tryz.sizeOf296
 v70:=Tryz.zeroValue296
 t76:=Tryz.underlying320
 a76:=Tryz.isAgg320
 z76:=Tryz.sizeOf320
 v76:=Tryz.zeroValue320
 t77:=Tryz.underlying228
 a77:=Tryz.isAgg228
 z77:=Tryz.sizeOf228
 v77:=Tryz.zeroValue228 }
def Iv:Go.Shelf.Ren:=⟨fun|6=>99|15=>114|14=>152|28=>171|29=>172|20=>215|21=>216|22=>217|23=>218|24=>219|25=>220|26=>221|27=>222|46=>256|47=>230|48=>231|49=>257|50=>258|57=>272|n=>n,fun|22=>30|24=>37|25=>115|3=>3|39=>155|0=>0|53=>260|55=>122|4=>4|46=>253|45=>252|50=>257|5=>5|9=>9|66=>292|70=>296|76=>320|77=>228|n=>n,fun|n=>n⟩
theorem Re:Go.Proofs.SlLaysF0.n6 Tryz.prog Iv:={
 mixed:=by kernel_rfl
 f6:=⟨Tryz.f99.name,by decide,Tryz.func99.trans (congrArg some (by kernel_rfl))⟩
 f14:=⟨Tryz.f152.name,by decide,Tryz.func152.trans (congrArg some (by kernel_rfl))⟩
 f15:=Tryz.func114.trans (congrArg some (by kernel_rfl))
 f20:=⟨Tryz.f215.name,by decide,Tryz.func215.trans (congrArg some (by kernel_rfl))⟩
 f21:=⟨Tryz.f216.name,by decide,Tryz.func216.trans (congrArg some (by kernel_rfl))⟩
 f22:=⟨Tryz.f217.name,by decide,Tryz.func217.trans (congrArg some (by kernel_rfl))⟩
 f23:=⟨Tryz.f218.name,by decide,Tryz.func218.trans (congrArg some (by kernel_rfl))⟩
 f24:=⟨Tryz.f219.name,by decide,Tryz.func219.trans (congrArg some (by kernel_rfl))⟩
 f25:=⟨Tryz.f220.name,by decide,Tryz.func220.trans (congrArg some (by kernel_rfl))⟩
 f26:=⟨Tryz.f221.name,by decide,Tryz.func221.trans (congrArg some (by kernel_rfl))⟩
 f27:=⟨Tryz.f222.name,by decide,Tryz.func222.trans (congrArg some (by kernel_rfl))⟩
 f28:=Tryz.func171.trans (congrArg some (by kernel_rfl))
 f29:=Tryz.func172.trans (congrArg some (by kernel_rfl))
 f46:=⟨Tryz.f256.name,by decide,Tryz.func256.trans (congrArg some (by kernel_rfl))⟩
 f47:=Tryz.func230.trans (congrArg some (by kernel_rfl))
 f48:=Tryz.func231.trans (congrArg some (by kernel_rfl))
 f49:=⟨Tryz.f257.name,by decide,Tryz.func257.trans (congrArg some (by kernel_rfl))⟩
 f50:=⟨Tryz.f258.name,by decide,Tryz.func258.trans (congrArg some (by kernel_rfl))⟩
 f57:=⟨Tryz.f272.name,by decide,Tryz.func272.trans (congrArg some (by kernel_rfl))⟩
 t0:=Tryz.underlying0
 a0:=Tryz.isAgg0
 z0:=Tryz.sizeOf0
 v0:=Tryz.zeroValue0
 t3:=Tryz.underlying3
 a3:=Tryz.isAgg3
 z3:=Tryz.sizeOf3
 v3:=Tryz.zeroValue3
 t4:=Tryz.underlying4
 a4:=Tryz.isAgg4
 z4:=Tryz.sizeOf4
 v4:=Tryz.zeroValue4
 t5:=Tryz.underlying5
 a5:=Tryz.isAgg5
 z5:=Tryz.sizeOf5
 v5:=Tryz.zeroValue5
 t9:=Tryz.underlying9
 a9:=Tryz.isAgg9
 z9:=Tryz.sizeOf9
 v9:=Tryz.zeroValue9
 t22:=Tryz.underlying30
 a22:=Tryz.isAgg30
 z22:=Tryz.sizeOf30
 v22:=Tryz.zeroValue30
 t25:=Tryz.underlying115
 a25:=Tryz.isAgg115
 z25:=Tryz.sizeOf115
 v25:=Tryz.zeroValue115
 t39:=Tryz.underlying155
 a39:=Tryz.isAgg155
 z39:=Tryz.sizeOf155
 v39:=Tryz.zeroValue155
 t45:=Tryz.underlying252
 a45:=Tryz.isAgg252
 z45:=Tryz.sizeOf252
 v45:=Tryz.zeroValue252
 t46:=Tryz.underlying253
 a46:=Tryz.isAgg253
 z46:=Tryz.sizeOf253
 v46:=Tryz.zeroValue253
 t50:=Tryz.underlying257
 a50:=Tryz.isAgg257
 z50:=Tryz.sizeOf257
 v50:=Tryz.zeroValue257
 t53:=Tryz.underlying260
 a53:=Tryz.isAgg260
 z53:=Tryz.sizeOf260
 v53:=Tryz.zeroValue260
 t55:=Tryz.underlying122
 a55:=Tryz.isAgg122
 z55:=Tryz.sizeOf122
 v55:=Tryz.zeroValue122
 t66:=Tryz.underlying292
 a66:=Tryz.isAgg292
 z66:=Tryz.sizeOf292
 v66:=Tryz.zeroValue292
 t70:=Tryz.underlying296
 a70:=Tryz.isAgg296
 z70:=Tryz.sizeOf296
 v70:=Tryz.zeroValue296
 t76:=Tryz.underlying320
 a76:=Tryz.isAgg320
 z76:=Tryz.sizeOf320
 v76:=Tryz.zeroValue320
 t77:=Tryz.underlying228
 a77:=Tryz.isAgg228
 z77:=Tryz.sizeOf228
 v77:=Tryz.zeroValue228 }
end Go.Proofs.YtlimglpjpcfpdaaGreat
end
