/- Texts of this proof, one behind another. -/
import Derived.Test.YtlimglpjpcfpdaaGreatM1
import Derived.RangeFuncRecord
import Derived.Maps.RangeRun
import Derived.Shelf.SlSortCmp.NoneTotal
import Derived.Shelf.SlMaps.Clone
import Derived.Defers
import Derived.Recover
import Derived.WalkSmall
import Derived.Scope
import Derived.Test.YtlimglpjpcfpdaaGreatChecked
import Derived.Laws.Externs
set_option linter.unusedVariables false
set_option linter.unusedSimpArgs false
section
open Go
namespace Mk
def E7:List Nat→Fr→Fr→Fr
 | [],_,ρ=>ρ
 | d::N,g,ρ=>upd (E7 N g ρ) d (g d)
theorem J7{d:Nat}{g ρ:Fr}:∀ {N:List Nat},d∈N→E7 N g ρ d=g d
 | e::N,h=>by
  by_cases he:d=e
  ·subst he;exact upd_same _ _ _
  ·exact(upd_ne _ _ he).trans (J7 ((List.mem_cons.1 h).resolve_left he))
theorem Gm{d:Nat}{g ρ:Fr}:∀ {N:List Nat},d∉N→E7 N g ρ d=ρ d
 | [],_=>rfl
 | e::N,h=>(upd_ne _ _ (fun he=>h (by simp[he]))).trans (Gm fun hm=>h (by simp[hm]))
def D4:Fr:=fun _=>undef
structure Mt where
 ρ:Fr
 M:Nat→Fr→List B2
structure Mc where
 x:Value
 m:Nat→Fr→List B2
structure V4 where
 P:Program
 n:Nat
 ops:List Oper
 Γ:C8
 K:List B2
 wr:List (List Nat)
 tc:List (List Nat)
 stab:List (List Nat)
 fixed:Bool
section
variable (V:V4)
def V4.w(i:Nat):List Nat:=V.wr.getD i []
def V4.t(i:Nat):List Nat:=V.tc.getD i []
def V4.s(x:Nat):List Nat:=V.stab.getD x []
def V4.N:List Nat:=V.stab.flatten
def V4.free(o:Oper):Bool:=match o.dst with|some d=>V.N.contains d|none=>true
def V4.rl(Γ Γ':C8):Prop:=match V.fixed with|true=>Γ'=Γ|false=>Γ.le Γ'
def cellsOf(l:List Nat)(M:Nat→Fr→List B2)(g:Fr):List B2:=l.flatMap fun x=>M x (E7 (V.s x) g D4)
def Mt.nxt(i:Nat)(st:Mt)(c:Mc):Nat→Fr→List B2:=fun x=>bif (V.w i).contains x then c.m x else st.M x
def Mt.next(i:Nat)(st:Mt)(o:Oper)(c:Mc):Mt:=⟨D2 st.ρ o.dst c.x,Mt.nxt V i st c⟩
structure Wn(i:Nat)(o:Oper)(st:Mt)(c:Mc):Prop where
 run:∀Γ' Y w g,V.rl V.Γ Γ'→Wd Γ' (V.K++(cellsOf V (V.t i) st.M g++Y)) w →
  (Z6 V.ops o (E7 V.N g st.ρ)=true→Step V.P o (E7 V.N g st.ρ) w fun v w'=>∃Γ'',V.rl Γ' Γ''∧Wd Γ'' (V.K++(cellsOf V (V.t i) (Mt.nxt V i st c) (D2 g o.dst v)++Y)) w'∧(V.free o=false→v=c.x)) ∧
  (Z6 V.ops o (E7 V.N g st.ρ)=false→Wd Γ' (V.K++(cellsOf V (V.t i) (Mt.nxt V i st c) (D2 g o.dst undef)++Y)) w∧(V.free o=false→undef=c.x))
def Hl(Q:Fr→World→Prop)(st:Mt):Prop:=∀Γ' w g,V.rl V.Γ Γ'→Wd Γ' (V.K++cellsOf V (List.range V.stab.length) st.M g) w→Q (E7 V.N g st.ρ) w
def MSw(Q:Fr→World→Prop):Nat→List Oper→Mt→Prop
 | _,[],st=>Hl V Q st
 | i,o::l,st=>∃c,Wn V i o st c∧MSw Q (i+1) l (Mt.next V i st o c)
end
def clash(wr tc:List (List Nat))(i j:Nat):Bool:=(wr.getD i []).any (fun x=>(tc.getD j []).contains x)||(wr.getD j []).any fun x=>(tc.getD i []).contains x
def dup:List Nat→Bool
 | []=>false
 | x::l=>l.contains x||dup l
def R3(n:Nat)(ops:List Oper)(wr tc stab:List (List Nat)):Bool:=
  let A:=HU [] ops
  (List.range ops.length).all fun j=>match ops[j]? with
    | none=>true
    | some oj=>(oj.after.toList.all fun e=>!Region.binds .any e||Nat.blt e.on j)&&p7.okNoSel oj&&(match oj.guard with|some (g,_)=>((ops[g]?).bind (·.dst)).isSome|none=>true)&&G8 n oj.dst &&
      ((wr.getD j []).all fun x=>(tc.getD j []).contains x)&&((tc.getD j []).all fun x=>Nat.blt x stab.length) && !dup (tc.getD j []) &&
      (match oj.dst with|some d=>(List.range stab.length).all fun x=>!((stab.getD x []).contains d)||(wr.getD j []).contains x|none=>true) &&
      ((List.range j).all fun i=>match ops[i]? with
        | none=>true
        | some oi=>(Fy ops oi oj && !clash wr tc i j)||(A.getD j []).contains i)
def o5(V:V4)(Q:Fr→World→Prop):Nat→List Oper→List Mc→Mt→Prop
 | _,[],[],st=>Hl V Q st
 | i,o::l,c::cs,st=>Wn V i o st c∧o5 V Q (i+1) l cs (Mt.next V i st o c)
 | _,_,_,_=>False
theorem MSw.chain{V:V4}{Q:Fr→World→Prop}:∀(l:List Oper) (i:Nat) (st:Mt),MSw V Q i l st→∃cs,o5 V Q i l cs st
 | [],_,_,h=>⟨[],h⟩
 | _::l,i,st,⟨c,hg,h⟩=>by
  obtain⟨cs,hc⟩:=MSw.chain l (i+1) _ h
  exact⟨c::cs,hg,hc⟩
def L3(V:V4):List Oper→List Mc→Nat→Mt→Nat→Mt
 | o::l,c::cs,i,st,k+1=>L3 V l cs (i+1) (Mt.next V i st o c) k
 | _,_,_,st,_=>st
section
variable {V:V4}{Q:Fr→World→Prop}
theorem V4.rl_refl(Γ:C8):V.rl Γ Γ:=by unfold V4.rl;cases V.fixed <;> first|rfl|exact C8.le.refl _
theorem V4.rl_trans{a b c:C8}(h:V.rl a b)(k:V.rl b c):V.rl a c:=by
 unfold V4.rl at *;cases hf:V.fixed <;> simp only[hf] at * <;> first|exact k.trans h|exact C8.le.trans h k
theorem o5.good:∀ {l:List Oper} {i:Nat} {cs:List Mc} {st:Mt} (k:Nat) {o:Oper},o5 V Q i l cs st→l[k]? = some o→∃c,cs[k]? = some c∧Wn V (i+k) o (L3 V l cs i st k) c
 | o'::l,i,c::cs,st,0,o,h,ho=>by
  simp at ho;subst ho
  exact⟨c,rfl,h.1⟩
 | o'::l,i,c::cs,st,k+1,o,h,ho=>by
  obtain⟨c',h1,h2⟩:=o5.good k h.2 (by simpa using ho)
  refine⟨c',by simpa using h1,?_⟩
  rw[show i+(k+1)=i+1+k from by omega]
  exact h2
 | [],_,_,_,_,_,_,ho=>by simp at ho
 | _::_,_,[],_,_,_,h,_=>h.elim
theorem o5.final:∀ {l:List Oper} {i:Nat} {cs:List Mc} {st:Mt},o5 V Q i l cs st→Hl V Q (L3 V l cs i st l.length)
 | [],_,[],_,h=>h
 | o::l,i,c::cs,st,h=>by
  have:=o5.final (l:=l) (cs:=cs) h.2
  simpa[L3] using this
 | [],_,_::_,_,h=>h.elim
 | _::_,_,[],_,h=>h.elim
theorem Y0:∀ {l:List Oper} {cs:List Mc} {i:Nat} {st:Mt} {k:Nat} {o:Oper} {c:Mc},l[k]? = some o→cs[k]? = some c→L3 V l cs i st (k+1)=Mt.next V (i+k) (L3 V l cs i st k) o c
 | o'::l,c'::cs,i,st,0,o,c,ho,hc=>by
  simp at ho hc;subst ho;subst hc
  cases l <;> cases cs <;> rfl
 | o'::l,c'::cs,i,st,k+1,o,c,ho,hc=>by
  have:=Y0 (l:=l) (cs:=cs) (i:=i+1) (st:=Mt.next V i st o' c') (k:=k) (by simpa using ho) (by simpa using hc)
  rw[show i+(k+1)=i+1+k from by omega]
  exact this
 | [],_,_,_,_,_,_,ho,_=>by simp at ho
 | _::_,[],_,_,_,_,_,_,hc=>by simp at hc
theorem CI{l:List Oper}{cs:List Mc}{i:Nat}{st:Mt}:L3 V l cs i st 0=st:=by cases l <;> cases cs <;> rfl
structure MInv(V:V4)(st0:Mt)(cs:List Mc)(listed:Array Bool)(a:Act)(w:World)(done:List Nat)(Γ':C8):Prop where
 defers:a.defers=[]
 size:a.tmps.size=V.n
 lsz:listed.size=V.ops.length
 nd:done.Nodup
 lt:∀i∈done,i<V.ops.length
 ls:∀i,i<V.ops.length→(listed.getD i true=true↔i∈done)
 cl:Closed V.ops (·∈done)
 le:V.rl V.Γ Γ'
 init:∀t,t∉V.N→(∀i∈done,∀o,V.ops[i]? = some o→o.dst≠some t)→E0 a t=st0.ρ t
 last:∀i∈done,∀o t c,V.ops[i]? = some o→o.dst=some t→t∉V.N→cs[i]? = some c→(∀j∈done,∀o',V.ops[j]? = some o'→o'.dst=some t→j≤i)→E0 a t=c.x
 wd:∃p:Nat→Nat,(∀x,p x≤V.ops.length∧∀i,x∈V.w i→i<V.ops.length→(i∈done↔i<p x)) ∧
  Wd Γ' (V.K++(List.range V.stab.length).flatMap fun x=>(L3 V V.ops cs 0 st0 (p x)).M x (E7 (V.s x) (E0 a) D4)) w
theorem Ll:∀ {l:List Nat},dup l=false→l.Nodup
 | [],_=>List.nodup_nil
 | x::l,h=>by
  simp only[dup,Bool.or_eq_false_iff]at h
  exact List.nodup_cons.2 ⟨by simpa using h.1,Ll h.2⟩
theorem T1{n:Nat}{ops:List Oper}{wr tc stab:List (List Nat)}(h:R3 n ops wr tc stab=true){j:Nat}{oj:Oper}(hj:ops[j]? = some oj) :
  (∀e∈oj.after,Region.binds .any e=true→e.on<j)∧(∀cs b,oj.op≠.select cs b)∧(∀g want,oj.guard=some (g,want)→∃d,(ops[g]?).bind (·.dst)=some d)∧G8 n oj.dst=true ∧
  (∀x∈wr.getD j [],x∈tc.getD j [])∧(∀x∈tc.getD j [],x<stab.length)∧(tc.getD j []).Nodup∧(∀d x,oj.dst=some d→d∈stab.getD x []→x∈wr.getD j []) ∧
  ∀i oi,i<j→ops[i]? = some oi→(Fy ops oi oj=true∧clash wr tc i j=false)∨i∈(HU [] ops).getD j []:=by
 have hlt:j<ops.length:=(List.getElem?_eq_some_iff.1 hj).1
 unfold R3 at h;simp only[List.all_eq_true,List.mem_range]at h
 have h1:=h j hlt
 simp only[hj,Bool.and_eq_true]at h1
 obtain⟨⟨⟨⟨⟨⟨⟨⟨h2,h3⟩,h4⟩,h6⟩,h7⟩,h8⟩,h9⟩,h10⟩,h5⟩:=h1;refine⟨fun e he hb=>?_,fun c b hs=>?_,fun g want hg=>?_,h6,fun x hx=>?_,fun x hx=>?_,Ll (by simpa using h9),fun d x hd hx=>?_,fun i oi hi ho=>?_⟩
 ·have:=(List.all_eq_true.1 h2) e (by simpa using he)
  rw[hb]at this;simp at this;omega
 ·unfold p7.okNoSel at h3;rw[hs]at h3;simp at h3
 ·rw[hg]at h4;exact Option.isSome_iff_exists.1 h4
 ·simpa using (List.all_eq_true.1 h7) x hx
 ·exact Nat.le_of_ble_eq_true ((List.all_eq_true.1 h8) x hx)
 ·rw[hd]at h10;by_cases hl:x<stab.length
  ·have:=(List.all_eq_true.1 h10) x (List.mem_range.2 hl)
   simp[hx]at this
   exact(this.resolve_left (fun h=>h hx))
  ·rw[List.getD_eq_getElem?_getD,List.getElem?_eq_none (by omega)]at hx;simp at hx
 ·have:=(List.all_eq_true.1 h5) i (List.mem_range.2 hi)
  simp only[ho,Bool.and_eq_true,Bool.or_eq_true]at this
  exact this.imp (fun h=>⟨h.1,by simpa using h.2⟩) (fun h=>by simpa using h)
theorem JP{wr tc:List (List Nat)}{i j x:Nat}(h:clash wr tc i j=false)(h1:x∈wr.getD i [])(h2:x∈tc.getD j []):False:=by
 simp only[clash,Bool.or_eq_false_iff]at h
 have:=List.any_eq_false.1 h.1 x h1
 exact this (by simpa using h2)
theorem TH{wr tc:List (List Nat)}{i j x:Nat}(h:clash wr tc i j=false)(h1:x∈tc.getD i [])(h2:x∈wr.getD j []):False:=by
 simp only[clash,Bool.or_eq_false_iff]at h
 have:=List.any_eq_false.1 h.2 x h2
 exact this (by simpa using h1)
section
variable {st0:Mt}{cs:List Mc}{listed:Array Bool}{a:Act}{w:World}{done:List Nat}{Γ':C8}
theorem NL(hc:o5 V Q 0 V.ops cs st0){t j:Nat}:∀(m:Nat),j+m≤V.ops.length→(∀i,j≤i→i<j+m→∀o,V.ops[i]? = some o→o.dst≠some t)→(L3 V V.ops cs 0 st0 (j+m)).ρ t=(L3 V V.ops cs 0 st0 j).ρ t
 | 0,_,_=>rfl
 | m+1,hl,hn=>by
  have ih:=NL hc m (by omega) (fun i h1 h2=>hn i h1 (by omega))
  have ho:V.ops[j+m]? = some V.ops[j+m]:=List.getElem?_eq_getElem (by omega)
  obtain⟨c,h1,_⟩:=hc.good (j+m) ho
  rw[←Nat.add_assoc,Y0 ho h1,←ih];have hne:=hn (j+m) (by omega) (by omega) _ ho
  simp only[Mt.next]
  cases hd:(V.ops[j+m]).dst with
  | none=>rfl
  | some d=>exact upd_ne _ _ (fun e=>hne (by rw[hd,e]))
theorem MInv.sat_at(hc:o5 V Q 0 V.ops cs st0)(inv:MInv V st0 cs listed a w done Γ'){k t:Nat}(hN:t∉V.N)(hk:k≤V.ops.length)(h1:∀j,j<k→∀o,V.ops[j]? = some o→o.dst=some t→j∈done)
  (h2:∀j∈done,∀o,V.ops[j]? = some o→o.dst=some t→j<k):E0 a t=(L3 V V.ops cs 0 st0 k).ρ t:=by
 rcases AZ (fun j=>∃o,V.ops[j]? = some o∧o.dst=some t) k with hn|⟨j,hj,⟨o,ho,hd⟩,hlast⟩
 ·have:=NL (j:=0) (t:=t) hc k (by omega) (fun i _ hi o ho hd=>hn i (by omega) ⟨o,ho,hd⟩)
  rw[Nat.zero_add,CI]at this;rw[this];exact inv.init t hN fun i hi o ho hd=>hn i (h2 i hi o ho hd) ⟨o,ho,hd⟩
 ·have hin:=h1 j hj o ho hd
  obtain⟨c,hcj,hg⟩:=hc.good j ho
  have hval:=inv.last j hin o t c ho hd hN hcj fun i hi o' ho' hd'=>by
   have:=h2 i hi o' ho' hd'
   rcases Nat.lt_or_ge j i with h|h
   ·exact absurd ⟨o',ho',hd'⟩ (hlast i h this)
   ·exact h
  have hs:(L3 V V.ops cs 0 st0 (j+1)).ρ t=c.x:=by
   rw[Y0 ho hcj];simp only[Mt.next,hd]
   exact upd_same _ _ _
  have:=NL (j:=j+1) (t:=t) hc (k-(j+1)) (by omega) (fun i h3 h4 o' ho' hd'=>hlast i (by omega) (by omega) ⟨o',ho',hd'⟩)
  rw[show j+1+(k-(j+1))=k from by omega]at this
  rw[hval,this,hs]
theorem Gp(hc:o5 V Q 0 V.ops cs st0){p x:Nat}:∀(m:Nat),p+m≤V.ops.length→(∀j,p≤j→j<p+m→x∉V.w j)→(L3 V V.ops cs 0 st0 (p+m)).M x=(L3 V V.ops cs 0 st0 p).M x
 | 0,_,_=>rfl
 | m+1,hl,hn=>by
  have ih:=Gp hc m (by omega) (fun i h1 h2=>hn i h1 (by omega))
  have ho:V.ops[p+m]? = some V.ops[p+m]:=List.getElem?_eq_getElem (by omega)
  obtain⟨c,h1,hg⟩:=hc.good (p+m) ho
  rw[←Nat.add_assoc,Y0 ho h1,←ih];have:=hn (p+m) (by omega) (by omega)
  simp[Mt.next,Mt.nxt,this]
theorem FO{g g' ρ:Fr}:∀ {N:List Nat},(∀t∈N,g t=g' t)→E7 N g ρ=E7 N g' ρ
 | [],_=>rfl
 | d::N,h=>by
  simp only[E7]
  rw[h d (by simp),FO (N:=N) fun t ht=>h t (by simp[ht])]
theorem MInv.step{i:Nat}{QQ:Exit→Act→World→Prop}(hc:o5 V Q 0 V.ops cs st0)(hk:R3 V.n V.ops V.wr V.tc V.stab=true)(inv:MInv V st0 cs listed a w done Γ')
  (hr:i∈Region.ready .any V.ops.toArray listed):wpOp V.P V.ops.toArray QQ i (fun a' w'=>∃done' Γ'',MInv V st0 cs (listed.setIfInBounds i true) a' w' done' Γ''∧done'.length=done.length+1) a w∧i∉done:=by
 obtain⟨hun,o,hoa,hall⟩:=mem_ready.1 hr
 have ho:V.ops[i]? = some o:=by simpa using hoa
 have hil:i<V.ops.length:=(List.getElem?_eq_some_iff.1 ho).1
 have hni:i∉done:=fun h=>by rw[(inv.ls i hil).2 h]at hun;cases hun
 refine⟨?_,hni⟩
 obtain⟨c,hci,hg⟩:=hc.good i ho
 rw[Nat.zero_add]at hg;obtain⟨k1,k2,k3,kd,kw,kl,kn,ks,k4⟩:=T1 hk ho
 have hedges:∀e∈o.after,Region.binds .any e=true→e.on∈done:=fun e he hb=>by
  have h1:=hall e he hb
  have h2:=k1 e he hb
  have h3:e.on<listed.size:=by rw[inv.lsz];omega
  refine(inv.ls e.on (by omega)).1 ?_
  simp only[Array.getD_eq_getD_getElem?,Array.getElem?_eq_getElem h3,Option.getD_some]at h1 ⊢
  exact h1
 have hcl':Closed V.ops (·∈i::done):=fun j o' e hj ho' he hb=>by
  rcases List.mem_cons.1 hj with rfl|hj
  ·rw[ho]at ho';cases ho';exact List.mem_cons_of_mem _ (hedges e he hb)
  ·exact List.mem_cons_of_mem _ (inv.cl j o' e hj ho' he hb)
 have hanc:∀j,j∈(HU [] V.ops).getD i []→j∈i::done:=fun j hj=>j4 hcl' V.ops [] (by simp) (by simp) i j hj (by simp)
 have hanc2:∀j k,j∈(HU [] V.ops).getD k []→k∈done→j∈done:=fun j k hj hk=>j4 inv.cl V.ops [] (by simp) (by simp) k j hj hk
 have hsat:∀t∈looks V.ops o,t∉V.N→E0 a t=(L3 V V.ops cs 0 st0 i).ρ t:=fun t ht hN=>inv.sat_at hc hN (Nat.le_of_lt hil) (fun j hj oj hoj hdj=>by
   rcases k4 j oj hj hoj with h|h
   ·exact absurd ht ((R5 h.1).1 t hdj).1
   ·rcases List.mem_cons.1 (hanc j h) with h|h
    ·omega
    ·exact h) (fun j hj oj hoj hdj=>by
   rcases Nat.lt_or_ge j i with h|h
   ·exact h
   ·rcases Nat.eq_or_lt_of_le h with h|h
    ·subst h;exact absurd hj hni
    ·obtain⟨_,_,_,_,_,_,_,_,q4⟩:=T1 hk hoj
     rcases q4 i o h ho with h'|h'
     ·exact absurd ht ((R5 h'.1).2 t hdj)
     ·exact absurd (hanc2 i j h' hj) hni)
 have hlook:∀t∈looks V.ops o,E0 a t=E7 V.N (E0 a) (L3 V V.ops cs 0 st0 i).ρ t:=fun t ht=>by
  by_cases hN:t∈V.N
  ·rw[J7 hN]
  ·rw[Gm hN];exact hsat t ht hN
 obtain⟨p,hp,hwd⟩:=inv.wd;have htc:∀x∈V.t i,(L3 V V.ops cs 0 st0 i).M x=(L3 V V.ops cs 0 st0 (p x)).M x:=fun x hx=>by
  rcases Nat.lt_or_ge i (p x) with hlt|hge
  ·
   have:=Gp hc (p:=i) (x:=x) (p x-i) (by have:=(hp x).1;omega) (fun j h1 h2 hj=>by
    have hjl:j<V.ops.length:=by have:=(hp x).1;omega
    have hjd:=((hp x).2 j hj hjl).2 (by omega)
    have hoj:V.ops[j]? = some V.ops[j]:=List.getElem?_eq_getElem hjl
    rcases Nat.eq_or_lt_of_le h1 with h|h
    ·subst h;exact hni hjd
    ·obtain⟨_,_,_,_,_,_,_,_,q4⟩:=T1 hk hoj
     rcases q4 i o h ho with h'|h'
     ·exact TH h'.2 hx hj
     ·exact hni (hanc2 i j h' hjd))
   rw[show i+(p x-i)=p x from by omega]at this
   exact this.symm
  ·have:=Gp hc (p:=p x) (x:=x) (i-p x) (by omega) (fun j h1 h2 hj=>by
    have hoj:V.ops[j]? = some V.ops[j]:=List.getElem?_eq_getElem (by omega)
    rcases k4 j _ (by omega) hoj with h|h
    ·exact JP h.2 hj hx
    ·rcases List.mem_cons.1 (hanc j h) with h|h
     ·omega
     ·have:=((hp x).2 j hj (by omega)).1 h;omega)
   rwa [show p x+(i-p x)=i from by omega]at this
 let rest:=(List.range V.stab.length).filter fun x=>!(V.t i).contains x
 have hperm:(List.range V.stab.length).Perm (V.t i++rest):=by
  refine(List.perm_ext_iff_of_nodup List.nodup_range ?_).2 fun x=>?_
  ·refine List.nodup_append.2 ⟨kn,List.nodup_range.filter _,fun x hx y hy hxy=>?_⟩
   subst hxy;have:=(List.mem_filter.1 hy).2
   simp at this;exact this hx
  ·simp only[List.mem_append,List.mem_range,rest,List.mem_filter]
   constructor
   ·intro h;by_cases hx:x∈V.t i
    ·exact .inl hx
    ·exact .inr ⟨h,by simpa using hx⟩
   ·rintro (h|h)
    ·exact kl x h
    ·exact h.1
 have hfm:∀F:Nat→List B2,((List.range V.stab.length).flatMap F).Perm ((V.t i).flatMap F++rest.flatMap F):=fun F=>by
  rw[←List.flatMap_append];exact List.Perm.flatMap_right _ hperm
 have W1:Wd Γ' (V.K++(cellsOf V (V.t i) (L3 V V.ops cs 0 st0 i).M (E0 a)++rest.flatMap fun x=>(L3 V V.ops cs 0 st0 (p x)).M x (E7 (V.s x) (E0 a) D4))) w:=by
  have:=hwd.perm (List.Perm.append_left V.K (hfm _))
  rwa [show cellsOf V (V.t i) (L3 V V.ops cs 0 st0 i).M (E0 a)=(V.t i).flatMap fun x=>(L3 V V.ops cs 0 st0 (p x)).M x (E7 (V.s x) (E0 a) D4) from H8 fun x hx=>by rw[htc x hx]]
 have hrun:=hg.run Γ' _ w (E0 a) inv.le W1
 have next:∀v w' Γ'',V.rl Γ' Γ''→(V.free o=false→v=c.x)→Wd Γ'' (V.K++(cellsOf V (V.t i) (Mt.nxt V i (L3 V V.ops cs 0 st0 i) c) (D2 (E0 a) o.dst v)++rest.flatMap fun x=>(L3 V V.ops cs 0 st0 (p x)).M x (E7 (V.s x) (E0 a) D4))) w' →
   MInv V st0 cs (listed.setIfInBounds i true) (a.put o.dst v) w' (i::done) Γ'':=by
  intro v w' Γ'' hle he hwd';have hput:E0 (a.put o.dst v)=D2 (E0 a) o.dst v:=Y3 a _ v (by rw[inv.size];exact K7 kd)
  refine⟨(K6 a _ v).trans inv.defers,(size_put a _ v).trans inv.size,by simpa using inv.lsz,List.nodup_cons.2 ⟨hni,inv.nd⟩,?_,?_,hcl',V.rl_trans inv.le hle,?_,?_,?_⟩
  ·intro j hj;rcases List.mem_cons.1 hj with rfl|hj
   ·exact hil
   ·exact inv.lt j hj
  ·intro j hj;by_cases hji:j=i
   ·subst hji;simp[inv.lsz,hil]
   ·rw[getD_set_ne true (Ne.symm hji),inv.ls j hj];simp[hji]
  ·intro t hN hn;rw[hput];have h1:o.dst≠some t:=hn i (by simp) o ho
   have:D2 (E0 a) o.dst v t=E0 a t:=by
    cases hd:o.dst with
    | none=>rfl
    | some d=>exact upd_ne _ _ (fun e=>h1 (by rw[hd,e]))
   rw[this];exact inv.init t hN fun j hj=>hn j (List.mem_cons_of_mem _ hj)
  ·intro j hj o' t c' ho' hd' hN hc' hmax;rw[hput];rcases List.mem_cons.1 hj with rfl|hj
   ·rw[ho]at ho';cases ho'
    rw[hci]at hc';cases hc'
    rw[hd',show D2 (E0 a) (some t) v t=v from upd_same _ _ _];exact he (by simp only[V4.free,hd'];simpa using hN)
   ·have hji:j≠i:=fun e=>hni (e ▸ hj)
    have h1:o.dst≠some t:=fun e=>by
     have hle':=hmax i (by simp) o ho e
     have hlt:i<j:=by omega
     obtain⟨_,_,_,_,_,_,_,_,q4⟩:=T1 hk ho'
     rcases q4 i o hlt ho with h|h
     ·exact((R5 h.1).1 t e).2 hd'
     ·exact hni (hanc2 i j h hj)
    have:D2 (E0 a) o.dst v t=E0 a t:=by
     cases hd:o.dst with
     | none=>rfl
     | some d=>exact upd_ne _ _ (fun e=>h1 (by rw[hd,e]))
    rw[this];exact inv.last j hj o' t c' ho' hd' hN hc' fun k hk'=>hmax k (List.mem_cons_of_mem _ hk')
  ·refine⟨fun x=>if x∈V.w i then i+1 else p x,fun x=>⟨?_,fun j hj hjl=>?_⟩,?_⟩
   ·show (if x∈V.w i then i+1 else p x)≤V.ops.length
    have:=(hp x).1
    split <;> omega
   ·by_cases hx:x∈V.w i
    ·simp only[hx,if_true]
     by_cases hji:j=i
     ·subst hji;simp
     ·simp only[List.mem_cons,hji,false_or]
      have hpi:p x≤i:=Nat.le_of_not_lt fun h=>hni (((hp x).2 i hx hil).2 h)
      rw[(hp x).2 j hj hjl];constructor
      ·intro h;omega
      ·intro h;refine((hp x).2 j hj hjl).1 ?_
       have hoj:V.ops[j]? = some V.ops[j]:=List.getElem?_eq_getElem hjl
       rcases k4 j _ (by omega) hoj with h'|h'
       ·exact absurd (JP h'.2 hj (kw x hx)) id
       ·rcases List.mem_cons.1 (hanc j h') with h'|h'
        ·omega
        ·exact h'
    ·have hji:j≠i:=fun e=>hx (e ▸ hj)
     simp only[hx,if_false,List.mem_cons,hji,false_or]
     exact(hp x).2 j hj hjl
   ·refine Wd.perm ?_ (List.Perm.append_left V.K (hfm _)).symm
    have e1:cellsOf V (V.t i) (Mt.nxt V i (L3 V V.ops cs 0 st0 i) c) (D2 (E0 a) o.dst v)=(V.t i).flatMap fun x=>(L3 V V.ops cs 0 st0 (if x∈V.w i then i+1 else p x)).M x (E7 (V.s x) (E0 (a.put o.dst v)) D4):=H8 fun x hx=>by
     rw[hput];by_cases hxw:x∈V.w i
     ·simp only[hxw,if_true]
      rw[Y0 ho hci,Nat.zero_add];rfl
     ·simp only[hxw,if_false,Mt.nxt]
      rw[←htc x hx];simp[hxw]
    have e2:(rest.flatMap fun x=>(L3 V V.ops cs 0 st0 (p x)).M x (E7 (V.s x) (E0 a) D4))=rest.flatMap fun x=>(L3 V V.ops cs 0 st0 (if x∈V.w i then i+1 else p x)).M x (E7 (V.s x) (E0 (a.put o.dst v)) D4):=H8 fun x hx=>by
     have hxt:x∉V.t i:=by have:=(List.mem_filter.1 hx).2;simpa using this
     have hxw:x∉V.w i:=fun h=>hxt (kw x h)
     simp only[hxw,if_false]
     rw[hput];congr 1
     refine FO fun t ht=>?_
     cases hd:o.dst with
     | none=>rfl
     | some d=>exact(upd_ne _ _ (fun e=>hxw (ks d x hd (by subst e;exact ht)))).symm
    rw[←e1,←e2];exact hwd'
 have hwant:Region.wanted o (yielded V.ops.toArray a.tmps)=Z6 V.ops o (E7 V.N (E0 a) (L3 V V.ops cs 0 st0 i).ρ):=by
  unfold Z6;cases hgd:o.guard with
  | none=>simp[Region.wanted,hgd]
  | some q=>
   obtain⟨j,want⟩:=q;obtain⟨dj,hdj⟩:=k3 j want hgd
   have hdn:dj<V.n:=by
    cases hoj:V.ops[j]? with
    | none=>simp[hoj]at hdj
    | some oj=>simp[hoj]at hdj;exact K7 ((T1 hk hoj).2.2.2.1) dj hdj
   simp only[hdj]
   rw[←hlook dj (List.mem_append_right _ (by simp only[hgd];simpa using hdj))]
   exact Ah o V.ops.toArray a j want hgd dj (by simpa using hdj) (by rw[inv.size];exact hdn)
 unfold wpOp;simp only[hoa,hwant]
 have hsel:AN o=true:=by
  unfold AN;split
  ·rename_i h;exact absurd h (k2 _ _)
  ·rfl
 cases hwt:Z6 V.ops o (E7 V.N (E0 a) (L3 V V.ops cs 0 st0 i).ρ) with
 | true=>
  simp only[if_true]
  have hst:=(hrun.1 hwt).congr (ops:=V.ops) hsel hlook
  exact .inl (Step.wp hst fun v w' ⟨Γ'',h1,h2,h3⟩=>⟨_,_,next v w' Γ'' h1 h3 h2,by simp⟩)
 | false=>
  obtain⟨h1,h2⟩:=hrun.2 hwt
  exact⟨_,_,next undef w Γ' (V.rl_refl _) h2 h1,by simp⟩
theorem MInv.fin(hc:o5 V Q 0 V.ops cs st0)(inv:MInv V st0 cs listed a w done Γ')(hall:∀i,i<V.ops.length→i∈done):Q (E0 a) w:=by
 have hfin:=hc.final
 obtain⟨p,hp,hwd⟩:=inv.wd;have hρ:E0 a=E7 V.N (E0 a) (L3 V V.ops cs 0 st0 V.ops.length).ρ:=by
  funext t
  by_cases hN:t∈V.N
  ·rw[J7 hN]
  ·rw[Gm hN];exact inv.sat_at hc hN (Nat.le_refl _) (fun j hj _ _ _=>hall j hj) (fun j hj _ _ _=>inv.lt j hj)
 rw[hρ];refine hfin Γ' w (E0 a) inv.le ?_
 have:cellsOf V (List.range V.stab.length) (L3 V V.ops cs 0 st0 V.ops.length).M (E0 a)=(List.range V.stab.length).flatMap fun x=>(L3 V V.ops cs 0 st0 (p x)).M x (E7 (V.s x) (E0 a) D4):=H8 fun x _=>by
  have:=Gp hc (p:=p x) (x:=x) (V.ops.length-p x) (by have:=(hp x).1;omega) (fun j h1 h2 hj=>by
   have hjl:j<V.ops.length:=by have:=(hp x).1;omega
   have:=((hp x).2 j hj hjl).1 (hall j hjl)
   omega)
  rw[show p x+(V.ops.length-p x)=V.ops.length from by have:=(hp x).1;omega]at this
  rw[this]
 rw[this];exact hwd
theorem BG(hk:R3 V.n V.ops V.wr V.tc V.stab=true)(inv:MInv V st0 cs listed a w done Γ')(h:Region.ready .any V.ops.toArray listed=[]):∀i,i<V.ops.length→i∈done:=by
 intro i;induction i using Nat.strongRecOn with
 | _ i ih=>
  intro hi;refine Classical.byContradiction fun hn=>?_
  have hmem:i∈Region.ready .any V.ops.toArray listed:=mem_ready.2 ⟨?_,V.ops[i],by simp[hi],fun e he hb=>?_⟩
  ·rw[h]at hmem;cases hmem
  ·cases hb:listed.getD i true with
   | false=>rfl
   | true=>exact absurd ((inv.ls i hi).1 hb) hn
  ·have h1:=(T1 hk (List.getElem?_eq_getElem hi)).1 e he hb
   have h2:=(inv.ls e.on (by omega)).2 (ih e.on h1 (by omega))
   have h3:e.on<listed.size:=by rw[inv.lsz];omega
   simp only[Array.getD_eq_getD_getElem?,Array.getElem?_eq_getElem h3,Option.getD_some]at h2 ⊢
   exact h2
theorem MInv.any{QQ:Exit→Fr→World→Prop}(hc:o5 V (fun ρ w=>QQ .normal ρ w) 0 V.ops cs st0)(hk:R3 V.n V.ops V.wr V.tc V.stab=true) :
  ∀(fuel:Nat) (listed:Array Bool) (a:Act) (w:World) (done:List Nat) (Γ':C8),MInv V st0 cs listed a w done Γ'→fuel+done.length=V.ops.length→wpAny V.P .any V.ops.toArray (lift V.n QQ) fuel listed a w
 | 0,listed,a,w,done,Γ',inv,hf=>by
  have hall:∀i,i<V.ops.length→i∈done:=by
   intro i hi;refine Classical.byContradiction fun hn=>?_
   have:=nodup_le V.ops.length (i::done) (List.nodup_cons.2 ⟨hn,inv.nd⟩) (fun x hx=>by
    rcases List.mem_cons.1 hx with rfl|hx
    ·exact hi
    ·exact inv.lt x hx)
   simp at this;omega
  refine⟨?_,inv.defers,inv.size,inv.fin hc hall⟩
  refine List.eq_nil_iff_forall_not_mem.2 fun i hi=>?_
  obtain⟨hun,o,ho,_⟩:=mem_ready.1 hi
  have hil:i<V.ops.length:=by have:=(Array.getElem?_eq_some_iff.1 ho).1;simpa using this
  rw[(inv.ls i hil).2 (hall i hil)]at hun;cases hun
 | fuel+1,listed,a,w,done,Γ',inv,hf=>by
  refine⟨fun h=>⟨inv.defers,inv.size,inv.fin hc (BG hk inv h)⟩,fun i hi=>?_⟩
  refine wpOp_mono ?_ (inv.step hc hk hi).1
  rintro a' w' ⟨done',Γ'',inv',hl⟩
  exact MInv.any hc hk fuel _ a' w' done' Γ'' inv' (by omega)
end
end
theorem Tc{P:Program}{n id:Nat}{l:List Oper}{Q:Exit→Fr→World→Prop}{ρ:Fr}{w:World}{Γ:C8}(K:List B2)(M:Nat→Fr→List B2)(wr tc stab:List (List Nat))(fixed:Bool)(hm:P.follows .mixedOrders=true)
  (hk:R3 n l wr tc stab=true) (hw:Wd Γ (K++cellsOf ⟨P,n,l,Γ,K,wr,tc,stab,fixed⟩ (List.range stab.length) M ρ) w) (h:MSw ⟨P,n,l,Γ,K,wr,tc,stab,fixed⟩ (fun ρ w=>Q .normal ρ w) 0 l ⟨ρ,M⟩):W P n (.region id l.toArray true) Q ρ w:=by
 unfold W;intro a hda hs hf;refine wp_region_any hm ?_
 obtain⟨cs,hc⟩:=h.chain;have inv:MInv ⟨P,n,l,Γ,K,wr,tc,stab,fixed⟩ ⟨ρ,M⟩ cs (Array.replicate l.toArray.size false) a { w with drawn:=w.drawn+1 } [] Γ:=by
  refine⟨hda,hs,by simp,by simp,by simp,fun i hi=>?_,fun _ _ _ h=>by simp at h,V4.rl_refl _,fun t _ _=>by rw[hf],by simp,fun _=>0,fun x=>⟨Nat.zero_le _,by simp⟩,?_⟩
  ·have:i<l.length:=hi
   simp[this]
  ·simp only[CI,hf]
   exact hw.drawn
 exact MInv.any hc hk _ _ a _ [] Γ inv (by simp)
def P6(Γ:C8)(S:List B2)(v:Value)(sz:Nat)(rows:List (List Value)):Prop:=
 ∃a n c,v=.slice a n c∧n=rows.length∧n≤c∧c≤9223372036854775807∧∀w,Wd Γ S w→Rd w a sz rows
section
variable {P:Program}{Γ:C8}{S:List B2}{w:World}{sz e:Nat}{rows:List (List Value)}{v:Value}
theorem D9.rdS(h:D9 Γ v sz rows):P6 Γ S v sz rows:=by
 obtain⟨a,n,c,rfl,h1,h2,h3⟩:=h.shape;exact⟨a,n,c,rfl,h1,h2,h3,fun w hw=>h.rd hw⟩
theorem P6.own{w0:World}{i:Nat}(hw:Wd Γ S w0)(hi:S[i]? = some (.own v e sz rows)):P6 Γ S v sz rows:=by
 obtain⟨a,n,c,rfl,h1,h2,h3⟩:=hw.own_shape hi
 exact⟨a,n,c,rfl,h1,h2,h3,fun w hw=>hw.own_rd hi⟩
theorem P6.ownI{a:Option Addr}{n c i:Nat}(hi:S[i]? = some (.own (.slice a n c) e sz rows))(h1:n=rows.length)(h2:n≤c)(h3:c≤9223372036854775807):P6 Γ S (.slice a n c) sz rows:=
 ⟨a,n,c,rfl,h1,h2,h3,fun w hw=>hw.own_rd hi⟩
theorem P6.shape(h:P6 Γ S v sz rows):∃a n c,v=.slice a n c∧n=rows.length∧n≤c∧c≤9223372036854775807:=by
 obtain⟨a,n,c,h1,h2,h3,h4,_⟩:=h;exact⟨a,n,c,h1,h2,h3,h4⟩
theorem P6.rd{a:Option Addr}{n c:Nat}(h:P6 Γ S (.slice a n c) sz rows)(hw:Wd Γ S w):Rd w a sz rows:=by
 obtain⟨a',n',c',h1,h2,h3,h4,h5⟩:=h;cases h1
 exact h5 w hw
theorem P6.cons{r:B2}(h:P6 Γ S v sz rows):P6 Γ (r::S) v sz rows:=by
 obtain⟨a,n,c,h1,h2,h3,h4,h5⟩:=h;exact⟨a,n,c,h1,h2,h3,h4,fun w hw=>h5 w hw.drop⟩
theorem P6.app{S':List B2}(h:P6 Γ S v sz rows):P6 Γ (S++S') v sz rows:=by
 obtain⟨a,n,c,h1,h2,h3,h4,h5⟩:=h;exact⟨a,n,c,h1,h2,h3,h4,fun w hw=>h5 w hw.left⟩
end
section
variable {P:Program}{ρ:Fr}{w:World}{sz:Nat}{rows:List (List Value)}{d:Option Tmp}{T ty:TypeId}{pos:String}{es:Array Edge}{g:Option (Nat×Bool)}{x y:Operand}
theorem BA{E by':Nat}{zs:List Value}{a:Option Addr}{m c:Nat}{k:IntKind}{i:Int}[hT:TL P T E sz by' zs](hr:Rd w a sz rows)(hx:ev ρ x=.slice a m c)(hy:ev ρ y=.int k i)(h0:0≤i)(h1:i<m)(hm:m=rows.length:=by first|assumption|omega|(rw[List.length_map];omega)) :
  Yields P ⟨d,.indexAddr T x y,ty,pos,es,g⟩ ρ w (.pointer (some ⟨aB a,aO a+i.toNat*sz,none⟩)):=
 EI hx hy h0 h1 (hr.at_ (by omega))
end
abbrev B2.ms{β:Type}(f:β→Value)(b:Nat)(l:List (ByteArray×β)):B2:=B2.mp b (l.map fun p=>(.string p.1,f p.2))
section
variable {P:Program}{n:Nat}{opa:Array Oper}{Γ:C8}{S:List B2}{QQ:Exit→Fr→World→Prop}{ρ:Fr}{w:World}{rest:List Oper}{KK:Value→World→Prop}
variable {d:Option Tmp}{T U ty K E:TypeId}{pos:String}{es:Array Edge}{g:Option (Nat×Bool)}{x y z:Operand}{v:Value}{β:Type}{f:β→Value}{b i:Nat}{a:ByteArray}{l:List (ByteArray×β)}
theorem S1[Inhabited β]{zz:Value}[hM:BU P T K E][hK:GR P K][hz:WN P E zz](hw:Wd Γ S w)(hx:ev ρ x=.map (some b))(hy:ev ρ y=.string a)(hi:S[i]? = some (B2.ms f b l))(hd:f default=zz) :
  Yields P ⟨d,.lookup T x y true,ty,pos,es,g⟩ ρ w (.tuple #[f ((F1 l a).getD default),.bool (F1 l a).isSome]):=by
 cases hg:F1 l a with
 | some u=>
  have:=L6 (P:=P) (K:=K) (α:=ByteArray) (d:=d) (T:=T) (ty:=ty) (pos:=pos) (es:=es) (g:=g) hw hx hy hi hg true
  simpa using this
 | none=>
  have:=L5 (P:=P) (K:=K) (α:=ByteArray) (d:=d) (T:=T) (ty:=ty) (pos:=pos) (es:=es) (g:=g) hw hx hy hi hg true
  simpa[hd] using this
theorem S3[Inhabited β]{zz:Value}[hM:BU P T K E][hK:GR P K][hz:WN P E zz](hw:Wd Γ S w)(hx:ev ρ x=.map (some b))(hy:ev ρ y=.string a)(hi:S[i]? = some (B2.ms f b l))(hd:f default=zz) :
  Yields P ⟨d,.lookup T x y false,ty,pos,es,g⟩ ρ w (f ((F1 l a).getD default)):=by
 cases hg:F1 l a with
 | some u=>
  have:=L6 (P:=P) (K:=K) (α:=ByteArray) (d:=d) (T:=T) (ty:=ty) (pos:=pos) (es:=es) (g:=g) hw hx hy hi hg false
  simpa using this
 | none=>
  have:=L5 (P:=P) (K:=K) (α:=ByteArray) (d:=d) (T:=T) (ty:=ty) (pos:=pos) (es:=es) (g:=g) hw hx hy hi hg false
  simpa[hd] using this
theorem w9[hM:BU P T K E][hK:GR P K](hw:Wd Γ S w)(hx:ev ρ x=.map (some b))(hi:S[i]? = some (B2.ms f b l)):Yields P ⟨d,.call { callee:=.builtin .len,args:=#[x],argTypes:=#[T] },ty,pos,es,g⟩ ρ w (.int .i64 l.length):=
 ek (P:=P) (K:=K) (α:=ByteArray) hw hx hi
theorem l7{v:β}[hM:BU P T K E][hK:GR P K](hw:Wd Γ S w)(hx:ev ρ x=.map (some b))(hy:ev ρ y=.string a)(hz:ev ρ z=f v)(hi:S[i]? = some (B2.ms f b l))
  (hk:∀w',Wd Γ (S.set i (B2.ms f b (Q3 l a v))) w'→KK undef w'):Step P ⟨d,.mapUpdate T x y z,ty,pos,es,g⟩ ρ w KK:=
 I7 (P:=P) (K:=K) (α:=ByteArray) hw hx hy hz hi hk
theorem Sf[hM:BU P T K E][hK:GR P K](hw:Wd Γ S w)(hx:ev ρ x=.map (some b))(hy:ev ρ y=.string a)(hi:S[i]? = some (B2.ms f b l))
  (hk:∀w',Wd Γ (S.set i (B2.ms f b (FV l a))) w'→KK (.tuple #[]) w'):Step P ⟨d,.call { callee:=.builtin .delete,args:=#[x,y],argTypes:=#[T,U] },ty,pos,es,g⟩ ρ w KK:=
 Xd (P:=P) (K:=K) (α:=ByteArray) hw hx hy hi hk
theorem Xt{v:β}[hM:BU P T K E][hK:GR P K](h:∀w',Wd Γ (S.set i (B2.ms f b (Q3 l a v))) w'→L P n opa QQ rest ρ w')(hw:Wd Γ S w:=by exact hw)(hx:ev ρ x=.map (some b):=by exact rfl)(hy:ev ρ y=.string a:=by exact rfl)(hi:S[i]? = some (B2.ms f b l):=by exact GW)(hz:ev ρ z=f v:=by exact rfl) :
  L P n opa QQ (⟨none,.mapUpdate T x y z,ty,pos,es,none⟩::rest) ρ w:=F0 rfl rfl (l7 hw hx hy hz hi h)
end
def ML(l:List (Fr→List B2)):Nat→Fr→List B2:=fun x=>l.getD x (fun _=>[])
def H5(M:Nat→Fr→List B2)(x:Nat)(m:Fr→List B2):Nat→Fr→List B2:=fun y=>bif [x].contains y then m else M y
abbrev mV(P:Program)(n:Nat)(ops:List Oper)(Γ:C8)(K:List B2)(wr tc stab:List (List Nat)):V4:=⟨P,n,ops,Γ,K,wr,tc,stab,true⟩
def E8(tc stab:List (List Nat))(i:Nat)(M:Nat→Fr→List B2)(g:Fr):List B2:=(tc.getD i []).flatMap fun x=>M x (E7 (stab.getD x []) g D4)
def Dj(tc stab:List (List Nat))(i:Nat)(d:Option Tmp):Bool:=match d with|some d=>(tc.getD i []).all fun x=>!((stab.getD x []).contains d)|none=>true
def T8(stab:List (List Nat))(d:Option Tmp):Bool:=match d with|some d=>stab.flatten.contains d|none=>true
section
variable {P:Program}{n:Nat}{ops:List Oper}{Γ:C8}{K:List B2}{wr tc stab:List (List Nat)}{Q:Fr→World→Prop}{i:Nat}{rest:List Oper}{ρ:Fr}{M:Nat→Fr→List B2}{o:Oper}{v:Value}
theorem Gc{g:Fr}{d:Option Tmp}{v:Value}(h:Dj tc stab i d=true)(M:Nat→Fr→List B2):E8 tc stab i M (D2 g d v)=E8 tc stab i M g:=by
 refine H8 fun x hx=>?_
 cases d with
 | none=>rfl
 | some d=>
  congr 1
  refine FO fun t ht=>upd_ne _ _ fun e=>?_
  subst e;have:=(List.all_eq_true.1 h) x hx
  simp at this
  exact this ht
theorem mC(hy:∀Y w g,Wd Γ (K++(E8 tc stab i M g++Y)) w→Step P o (E7 stab.flatten g ρ) w fun u w'=>u=v∧Wd Γ (K++(E8 tc stab i M g++Y)) w')(hw0:wr.getD i []=[])(hg:o.guard=none)(ho:Dj tc stab i o.dst=true)
  (h:MSw (mV P n ops Γ K wr tc stab) Q (i+1) rest ⟨D2 ρ o.dst v,M⟩):MSw (mV P n ops Γ K wr tc stab) Q i (o::rest) ⟨ρ,M⟩:=by
 have hn:∀c,Mt.nxt (mV P n ops Γ K wr tc stab) i ⟨ρ,M⟩ c=M:=fun c=>by
  funext x;simp only[Mt.nxt,V4.w,hw0];rfl
 refine⟨⟨v,M⟩,⟨fun Γ' Y w g hr hw=>?_⟩,?_⟩
 ·have hΓ:Γ'=Γ:=hr
  subst hΓ;rw[hn];refine⟨fun _=>(hy Y w g hw).mono fun u w' ⟨h1,h2⟩=>⟨Γ',rfl,?_,fun _=>h1⟩,fun hf=>?_⟩
  ·have:=Gc (g:=g) (v:=u) ho M
   show Wd Γ' (K++(E8 tc stab i M (D2 g o.dst u)++Y)) w'
   rw[this];exact h2
  ·rw[Q4 hg]at hf;cases hf
 ·simp only[Mt.next,hn];exact h
theorem mY(h:MSw (mV P n ops Γ K wr tc stab) Q (i+1) rest ⟨D2 ρ o.dst v,M⟩)(hw0:wr.getD i []=[]:=by exact rfl)(hg:o.guard=none:=by exact rfl)(ho:Dj tc stab i o.dst=true:=by exact rfl)
  (hy:∀Y w g,Wd Γ (K++(E8 tc stab i M g++Y)) w→Yields P o (E7 stab.flatten g ρ) w v:=by (intro Y w g hw;exact Pu)):MSw (mV P n ops Γ K wr tc stab) Q i (o::rest) ⟨ρ,M⟩:=
 mC (fun Y w g hw=>(hy Y w g hw).step ⟨rfl,hw⟩) hw0 hg ho h
theorem mM{x:Nat}(m:Fr→List B2)(hs:∀Y w g,Wd Γ (K++(E8 tc stab i M g++Y)) w→Step P o (E7 stab.flatten g ρ) w fun u w'=>Wd Γ (K++(E8 tc stab i (H5 M x m) (D2 g o.dst u)++Y)) w'∧(T8 stab o.dst=false→u=v))
  (h:MSw (mV P n ops Γ K wr tc stab) Q (i+1) rest ⟨D2 ρ o.dst v,H5 M x m⟩) (hw0:wr.getD i []=[x]:=by exact rfl) (hg:o.guard=none:=by exact rfl):MSw (mV P n ops Γ K wr tc stab) Q i (o::rest) ⟨ρ,M⟩:=by
 have hn:Mt.nxt (mV P n ops Γ K wr tc stab) i ⟨ρ,M⟩ ⟨v,fun _=>m⟩=H5 M x m:=by
  funext y;simp only[Mt.nxt,V4.w,hw0];rfl
 refine⟨⟨v,fun _=>m⟩,⟨fun Γ' Y w g hr hw=>?_⟩,?_⟩
 ·have hΓ:Γ'=Γ:=hr
  subst hΓ;rw[hn];refine⟨fun _=>(hs Y w g hw).mono fun u w' ⟨h1,h2⟩=>⟨Γ',rfl,h1,h2⟩,fun hf=>?_⟩
  rw[Q4 hg]at hf;cases hf
 ·simp only[Mt.next,hn];exact h
theorem S5(h:∀w g,Wd Γ (K++(List.range stab.length).flatMap fun x=>M x (E7 (stab.getD x []) g D4)) w→Q (E7 stab.flatten g ρ) w):MSw (mV P n ops Γ K wr tc stab) Q i [] ⟨ρ,M⟩:=fun Γ' w g hr hw=>by
 have hΓ:Γ'=Γ:=hr
 subst hΓ;exact h w g hw
theorem Q8{id:Nat}{l:List Oper}{QQ:Exit→Fr→World→Prop}{w:World}(K:List B2)(M:List (Fr→List B2))(wr tc stab:List (List Nat))(hw:Wd Γ (K++(List.range stab.length).flatMap fun x=>(ML M) x (E7 (stab.getD x []) ρ D4)) w)
  (h:MSw (mV P n l Γ K wr tc stab) (fun ρ w=>QQ .normal ρ w) 0 l ⟨ρ,ML M⟩) (hm:P.follows .mixedOrders=true:=by kernel_rfl) (hk:R3 n l wr tc stab=true:=by kernel_rfl):W P n (.region id l.toArray true) QQ ρ w:=
 Tc K (ML M) wr tc stab true hm hk hw h
end
attribute [local irreducible] Calls
theorem eq_nilB{s:ByteArray}:(s=⟨#[]⟩)↔s.size=0:=by
 constructor
 ·intro h;rw[h];rfl
 ·intro h;cases s with
  | mk d=>
   have:d.size=0:=h
   rw[Array.eq_empty_of_size_eq_zero this]
theorem ne_nilB{s:ByteArray}:(s≠⟨#[]⟩)↔0<s.size:=by
 rw[Ne,eq_nilB];omega
class PC(P:Program)(f:Nat)(args:List Value)(v:outParam Value):Prop where
 h:∀w,Calls P f args.toArray w fun e w'=>e=.returned v∧w'=w
section
variable {P:Program}{n:Nat}{ops:List Oper}{opa:Array Oper}{Γ:C8}{S K:List B2}{Q:Fr→World→Prop}{QQ:Exit→Fr→World→Prop}{ρ:Fr}{w:World}{rest:List Oper}{wr tc stab:List (List Nat)}{i:Nat}{M:Nat→Fr→List B2}
variable {d:Option Tmp}{ty:TypeId}{pos:String}{es:Array Edge}{v:Value}{f:Nat}{args:List Operand}{tys:Array TypeId}{vs:List Value}{j dj:Nat}{want c:Bool}{g:Option (Nat×Bool)}
theorem Zr[C7 P f][hp:PC P f vs v](ha:EvL ρ args vs):Step P ⟨d,.call { callee:=.value (.func f),args:=args.toArray,argTypes:=tys },ty,pos,es,g⟩ ρ w fun u w'=>u=v∧w'=w:=
 An ha.eqA ((hp.h w).mono fun e w' ⟨h1,h2⟩=>⟨v,h1,rfl,h2⟩)
theorem lP[C7 P f](h:L P n opa QQ rest (D2 ρ d v) w)(ha:EvL ρ args vs:=by exact v7)(hd:G8 n d=true:=by exact rfl)(hp:PC P f vs v:=by infer_instance) :
  L P n opa QQ (⟨d,.call { callee:=.value (.func f),args:=args.toArray,argTypes:=tys },ty,pos,es,none⟩::rest) ρ w:=
 F0 rfl hd ((Zr (hp:=hp) ha).mono fun u w' ⟨h1,h2⟩=>by subst h1;subst h2;exact h)
theorem fW[C7 P f](h:L P n opa QQ rest (D2 ρ d (gv c v)) w)(hj:(opa[j]?).bind (·.dst)=some dj:=by exact rfl)(hjn:G8 n (some dj)=true:=by exact rfl)(hc:G0 (ρ dj) want c:=by exact IN)(hd:G8 n d=true:=by exact rfl)(ha:c=true→EvL ρ args vs:=by intro hc;exact Ii)(hp:PC P f vs v:=by infer_instance) :
  L P n opa QQ (⟨d,.call { callee:=.value (.func f),args:=args.toArray,argTypes:=tys },ty,pos,es,some (j,want)⟩::rest) ρ w:=
 Ta rfl hj hjn hc hd (fun ht=>Zr (hp:=hp) (ha ht)) h
theorem qP[C7 P f](h:Qw P n ops Γ S Q rest (D2 ρ d v))(ha:EvL ρ args vs:=by exact v7)(hp:PC P f vs v:=by infer_instance) :
  Qw P n ops Γ S Q (⟨d,.call { callee:=.value (.func f),args:=args.toArray,argTypes:=tys },ty,pos,es,none⟩::rest) ρ:=
 fo rfl rfl (fun Y w hw=>(Zr (hp:=hp) ha).mono fun u w' ⟨h1,h2⟩=>⟨h1,by subst h2;exact hw⟩) h
theorem Vo[C7 P f](h:Qw P n ops Γ S Q rest (D2 ρ d (gv c v)))(hj:(ops[j]?).bind (·.dst)=some dj:=by exact rfl)(hc:G0 (ρ dj) want c:=by exact IN)(ha:c=true→EvL ρ args vs:=by intro hc;exact Ii)(hp:PC P f vs v:=by infer_instance) :
  Qw P n ops Γ S Q (⟨d,.call { callee:=.value (.func f),args:=args.toArray,argTypes:=tys },ty,pos,es,some (j,want)⟩::rest) ρ:=
 bB rfl hj hc rfl (fun ht Y w hw=>(Zr (hp:=hp) (ha ht)).mono fun u w' ⟨h1,h2⟩=>⟨h1,by subst h2;exact hw⟩) h
theorem mP[C7 P f](h:MSw (mV P n ops Γ K wr tc stab) Q (i+1) rest ⟨D2 ρ d v,M⟩)(hw0:wr.getD i []=[]:=by exact rfl)(ho:Dj tc stab i d=true:=by exact rfl)(ha:∀g,EvL (E7 stab.flatten g ρ) args vs:=by intro g;exact v7)(hp:PC P f vs v:=by infer_instance) :
  MSw (mV P n ops Γ K wr tc stab) Q i (⟨d,.call { callee:=.value (.func f),args:=args.toArray,argTypes:=tys },ty,pos,es,none⟩::rest) ⟨ρ,M⟩:=
 mC (fun Y w g hw=>(Zr (hp:=hp) (ha g)).mono fun u w' ⟨h1,h2⟩=>⟨h1,by subst h2;exact hw⟩) hw0 rfl ho h
end
def Yn(P:Program)(ρ:Fr)(w:World):ResultVar→Value→Prop
 | .tmp t,v=>ρ t=v
 | .cell a T,v=>∃A,ρ a=.pointer (some A)∧(loadVar T A).run P w=.ok v w
def bR(P:Program)(ρ:Fr)(w:World):List ResultVar→List Value→Prop
 | [],[]=>True
 | r::rs,v::vs=>Yn P ρ w r v∧bR P ρ w rs vs
 | _,_=>False
def Ug:List Value→Value
 | [v]=>v
 | vs=>.tuple vs.toArray
def fb(P:Program)(rs:Array ResultVar)(R:Ending→World→Prop):Exit→Fr→World→Prop
 | .normal,ρ,w|.ret,ρ,w=>∃vs,bR P ρ w rs.toList vs∧R (.returned (Ug vs)) w
 | .panic ch,_,w=>R (.panicked ch) w
 | .outgrown,_,w=>R .outgrown w
 | _,_,_=>False
def PF(tmps:Array Value):ResultVar→Sem Value
 | .tmp t=>pure (tmps.getD t undef)
 | .cell a t=>do loadVar t (←asAddr (tmps.getD a undef))
theorem LN(fn:Func)(tmps:Array Value):results fn tmps=(do let vs ← fn.results.mapM (PF tmps);pure (if h:vs.size=1 then vs[0] else .tuple vs)):=by
 have:(fun r:ResultVar=>match r with|.tmp t=>(pure (tmps.getD t undef):Sem Value)|.cell a t=>do loadVar t (←asAddr (tmps.getD a undef)))=PF tmps:=by
  funext r;cases r <;> rfl
 rw[←this];rfl
theorem Yn.run{P:Program}{a:Act}{w:World}{r:ResultVar}{v:Value}(h:Yn P (E0 a) w r v):(PF a.tmps r).run P w=.ok v w:=by
 cases r with
 | tmp t=>have:a.tmps.getD t undef=v:=h;simp only[PF,Sem.run_pure,this]
 | cell x t=>
  obtain⟨A,h1,h2⟩:=h;have h3:a.tmps.getD x undef=.pointer (some A):=h1
  simp only[PF,h3]
  simpa[asAddr] using h2
theorem o4{P:Program}{fn:Func}{a:Act}{w:World}{vs:List Value}(hl:fn.results.size≤3)(h:bR P (E0 a) w fn.results.toList vs):(results fn a.tmps).run P w=.ok (Ug vs) w:=by
 obtain⟨l,hfl⟩:∃l:List ResultVar,fn.results=l.toArray:=⟨fn.results.toList,by simp⟩
 rw[LN];rw[hfl]at h hl ⊢
 simp only at h
 rcases l with _|⟨x1,_|⟨x2,_|⟨x3,_|⟨x4,l⟩⟩⟩⟩ <;> rcases vs with _|⟨v1,_|⟨v2,_|⟨v3,_|⟨v4,vs⟩⟩⟩⟩ <;> simp only[bR,and_false]at h <;> try exact h.elim
 ·simp[Ug]
 ·simp[Ug,h.1.run]
 ·simp[Ug,h.1.run,h.2.1.run]
 ·simp[Ug,h.1.run,h.2.1.run,h.2.2.1.run]
 all_goals (simp at hl <;> omega)
theorem K9{P:Program}{f:FuncId}{fn:Func}{c:Code}{args:Array Value}{w:World}{R:Ending→World→Prop}(hf:P.funcs[f]? = some fn)(hb:fn.body=some c)
  (hn:(Nat.ble args.size fn.ntmps&&Nat.ble fn.results.size 3)=true) (h:W P fn.ntmps c (fb P fn.results R) (d9 args) w):Calls P f args w R:=by
 rw[Bool.and_eq_true]at hn;have hle:args.size≤fn.ntmps:=Nat.le_of_ble_eq_true hn.1
 have hl3:fn.results.size≤3:=Nat.le_of_ble_eq_true hn.2
 unfold W at h;refine calls_of_wp hf hb (Code.wp_mono ?_ (h _ rfl (by simp;omega) ?_))
 ·rintro e a w ⟨hd,hs,hq⟩
  cases e with
  | normal=>obtain⟨v,hv,hR⟩:=hq;exact⟨hd,_,o4 hl3 hv,hR⟩
  | ret=>obtain⟨v,hv,hR⟩:=hq;exact⟨hd,_,o4 hl3 hv,hR⟩
  | panic ch=>exact⟨hd,hq⟩
  | outgrown=>exact hq
  | exit id=>exact hq.elim
  | goto l=>exact hq.elim
 ·funext t
  simp only[E0,d9,Array.getD_eq_getD_getElem?,Array.getElem?_append]
  by_cases ht:t<args.size
  ·rw[if_pos ht]
  ·rw[if_neg ht,Array.getElem?_eq_none (by omega:args.size≤t)]
   simp only[Array.getElem?_replicate]
   split <;> rfl
theorem T4{P:Program}{Γ:C8}{S:List B2}{ρ:Fr}{w:World}{t T m i b:Nat}{cs:Array Value}{E:TypeId}{fr:Nat×Nat}[ha:TA P T m](hw:Wd Γ S w)(hi:S[i]? = some (.blk b (.cells cs E fr)))(hx:ρ t=.pointer (some ⟨b,0,none⟩))(hm:cs.size=m):Yn P ρ w (.cell t T) (.agg cs):=by
 refine⟨_,hx,?_⟩
 have h:=ha.h
 unfold OB at h;cases hu:P.underlying T with
 | none=>simp[hu]at h
 | some u=>
  simp[hu]at h
  have h2:=Ke (o:=0) (n:=cs.size) (hw.at_blk hi)
  have h1:=run_loadAt_mid (P:=P) w b 0 T cs.toList u (by simpa using h2) hu h.1 (by simp[h.2,hm])
  simpa[Instr.loadAt,Instr.sureAddr,asAddr] using h1
end Mk
end
section
open Go
namespace Mk
def Mw(v:Value)(F:Nat→List B2):B2:=B2.ex (α:={bb:Nat // v=.pointer (some ⟨bb,0,none⟩)}) fun p=>F p.1
section
variable {P:Program}{n:Nat}{ops:List Oper}{Γ:C8}{S K:List B2}{wr tc stab:List (List Nat)}{Q:Fr→World→Prop}{i:Nat}{rest:List Oper}{ρ:Fr}{w:World}{M:Nat→Fr→List B2}{v:Value}{F:Nat→List B2}
variable {d:Option Tmp}{T U ty:TypeId}{pos:String}{es:Array Edge}{x y z:Operand}
theorem Wd.mid{r:B2}{Y:List B2}(h:Wd Γ (K++(r::Y)) w):Wd Γ (r::(K++Y)) w:=h.perm List.perm_middle
theorem Wd.unmid{r:B2}{Y:List B2}(h:Wd Γ (r::(K++Y)) w):Wd Γ (K++(r::Y)) w:=h.perm List.perm_middle.symm
theorem Wd.swapApp{A B C:List B2}(h:Wd Γ (A++(B++C)) w):Wd Γ (B++(A++C)) w:=h.perm (by
 rw[←List.append_assoc,←List.append_assoc];exact List.perm_append_comm.append_right C)
theorem Wd.openAt(h:Wd Γ (Mw v F::S) w):∃bb,v=.pointer (some ⟨bb,0,none⟩)∧Wd Γ (F bb++S) w:=by
 obtain⟨⟨bb,hb⟩,h'⟩:=h.openEx;exact⟨bb,hb,h'⟩
theorem Wd.closeAt{bb:Nat}(h:Wd Γ (F bb++S) w):Wd Γ (Mw (.pointer (some ⟨bb,0,none⟩)) F::S) w:=Wd.closeEx (X:=fun p:{c:Nat // Value.pointer (some ⟨bb,0,none⟩)=.pointer (some ⟨c,0,none⟩)}=>F p.1) ⟨bb,rfl⟩ h
theorem B0{c:Nat}{m:Fr→List B2}:H5 M c m c=m:=by simp[H5]
theorem GD{c dd:Nat}{cs:List Value}[TZ P T cs](h:MSw (mV P n ops Γ K wr tc stab) Q (i+1) rest ⟨D2 ρ (some dd) undef,H5 M c fun g=>[Mw (g dd) fun bb=>[.blk bb (.cells cs.toArray T)]]⟩)
  (ht:tc.getD i []=[c]:=by exact rfl) (hM:M c=(fun _=>[]):=by exact rfl) (hs:(stab.getD c []).contains dd=true:=by exact rfl) (hf:T8 stab (some dd)=true:=by exact rfl) (hw0:wr.getD i []=[c]:=by exact rfl) :
  MSw (mV P n ops Γ K wr tc stab) Q i (⟨some dd,.alloc T,ty,pos,es,none⟩::rest) ⟨ρ,M⟩:=by
 refine mM _ (fun Y w g hw=>?_) h hw0 rfl
 have W1:Wd Γ (K++Y) w:=by
  have:E8 tc stab i M g=[]:=by unfold E8;rw[ht];simp[hM]
  rw[this]at hw;exact hw
 refine JU W1 fun b w' hw'=>⟨?_,fun hh=>by rw[hf]at hh;cases hh⟩
 have e:E8 tc stab i (H5 M c fun g=>[Mw (g dd) fun bb=>[.blk bb (.cells cs.toArray T)]]) (D2 g (some dd) (.pointer (some ⟨b,0,none⟩)))=[Mw (.pointer (some ⟨b,0,none⟩)) fun bb=>[.blk bb (.cells cs.toArray T)]]:=by
  unfold E8;rw[ht];have h1:E7 (stab.getD c []) (D2 g (some dd) (.pointer (some ⟨b,0,none⟩))) D4 dd=.pointer (some ⟨b,0,none⟩):=by
   rw[J7 (by simpa using hs)];exact upd_same _ _ _
  simp only[List.flatMap_cons,List.flatMap_nil,List.append_nil,B0,h1]
 rw[e];exact Wd.unmid (Wd.closeAt (F:=fun bb=>[.blk bb (.cells cs.toArray T)]) hw')
theorem BN{c dd m:Nat}{cs:Array Value}{E:TypeId}{vs:List Value}[hn:Rp P T m](h:MSw (mV P n ops Γ K wr tc stab) Q (i+1) rest ⟨ρ,H5 M c fun g=>[Mw (g dd) fun bb=>[.blk bb (.cells (putCells cs 0 vs) E)]]⟩)
  (hd:stab.flatten.contains dd=true:=by exact rfl) (ht:tc.getD i []=[c]:=by exact rfl) (hM:M c=(fun g=>[Mw (g dd) fun bb=>[.blk bb (.cells cs E)]]):=by exact rfl) (hs:(stab.getD c []).contains dd=true:=by exact rfl) (hw0:wr.getD i []=[c]:=by exact rfl)
  (hy:∀g,ev (E7 stab.flatten g ρ) y=v:=by intro g;exact l8) (hv:v.cells.toList=vs:=by exact rfl) (hl:vs.length=m:=by exact rfl) (h1:vs.all (·.oneCell')=true:=by exact rfl) (ho:m≤cs.size:=by exact Nat.le_of_ble_eq_true rfl) :
  MSw (mV P n ops Γ K wr tc stab) Q i (⟨none,.store T (.tmp dd) y,ty,pos,es,none⟩::rest) ⟨ρ,M⟩:=by
 refine mM (v:=undef) _ (fun Y w g hw=>?_) h hw0 rfl
 have e:E8 tc stab i M g=[Mw (g dd) fun bb=>[.blk bb (.cells cs E)]]:=by
  unfold E8;rw[ht];have h1:E7 (stab.getD c []) g D4 dd=g dd:=J7 (by simpa using hs)
  simp only[List.flatMap_cons,List.flatMap_nil,List.append_nil,hM,h1]
 rw[e]at hw;obtain⟨bb,hb,W1⟩:=(Wd.mid hw).openAt
 have hx:ev (E7 stab.flatten g ρ) (.tmp dd)=.pointer (some ⟨bb,0,none⟩):=by
  show E7 stab.flatten g ρ dd=_
  rw[J7 (by simpa using hd)];exact hb
 refine m9 hn.h W1 hx (hy g) hv hl (fun u hu=>(List.all_eq_true.1 h1) u hu) (i:=0) rfl (by omega) fun w' hw'=>⟨?_,fun hh=>rfl⟩
 have e2:E8 tc stab i (H5 M c fun g=>[Mw (g dd) fun bb=>[.blk bb (.cells (putCells cs 0 vs) E)]]) (D2 g none undef)=[Mw (.pointer (some ⟨bb,0,none⟩)) fun bb=>[.blk bb (.cells (putCells cs 0 vs) E)]]:=by
  unfold E8;rw[ht];have h1:E7 (stab.getD c []) g D4 dd=.pointer (some ⟨bb,0,none⟩):=(J7 (by simpa using hs)).trans hb
  simp only[List.flatMap_cons,List.flatMap_nil,List.append_nil,B0,D2,h1]
 rw[e2];exact Wd.unmid (Wd.closeAt (F:=fun bb=>[.blk bb (.cells (putCells cs 0 vs) E)]) hw')
theorem U0{dd:Nat}(h:∀bb w,Wd Γ (F bb++K) w→Q (upd ρ dd (.pointer (some ⟨bb,0,none⟩))) w)(hM:M 0=(fun g=>[Mw (g dd) F]):=by exact rfl):MSw (mV P n ops Γ K wr tc [[dd]]) Q i [] ⟨ρ,M⟩:=
 S5 fun w g hw=>by
  have h0:((List.range [[dd]].length).flatMap fun x=>M x (E7 ([[dd]].getD x []) g D4))=[Mw (g dd) F]:=by
   show M 0 (E7 [dd] g D4)++[]=_
   rw[hM];show [Mw (upd D4 dd (g dd) dd) F]++[]=_
   rw[upd_same];rfl
  rw[h0]at hw;obtain⟨bb,hb,W1⟩:=(Wd.mid hw).openAt
  have:=h bb w (by simpa using W1)
  rwa [←hb]at this
theorem s8(h:∀w,Wd Γ (K++(List.range stab.length).flatMap fun x=>M x D4) w→Q ρ w)(hs:stab.all (fun l=>l.isEmpty)=true:=by exact rfl):MSw (mV P n ops Γ K wr tc stab) Q i [] ⟨ρ,M⟩:=
 S5 fun w g hw=>by
  have h1:∀x,stab.getD x []=[]:=fun x=>by
   rw[List.getD_eq_getElem?_getD];cases hx:stab[x]? with
   | none=>rfl
   | some l=>
    have:=(List.all_eq_true.1 hs) l (List.mem_of_getElem? hx)
    simpa using this
  have h2:stab.flatten=[]:=by
   rw[List.flatten_eq_nil_iff];intro l hl;have:=(List.all_eq_true.1 hs) l hl
   simpa using this
  rw[h2];refine h w ?_
  have:((List.range stab.length).flatMap fun x=>M x (E7 (stab.getD x []) g D4))=(List.range stab.length).flatMap fun x=>M x D4:=H8 fun x _=>by rw[h1 x];rfl
  rwa [this]at hw
end
section
variable {P:Program}{n:Nat}{opa:Array Oper}{Γ:C8}{S:List B2}{QQ:Exit→Fr→World→Prop}{ρ:Fr}{w:World}{rest:List Oper}{d:Option Tmp}{T ty:TypeId}{pos:String}{es:Array Edge}{x y:Operand}
theorem V7{E by' i sz m c m2 c2:Nat}{zs:List Value}{a a2:Option Addr}{rows rows2:List (List Value)}[TL P T E sz by' zs](h:∀v' w',Wd Γ (S.set i (.own v' E sz (rows++rows2))) w'→L P n opa QQ rest (D2 ρ d v') w')(hr2:Rd w a2 sz rows2)(hx:ev ρ x=.slice a m c:=by exact rfl)(hy:ev ρ y=.slice a2 m2 c2:=by exact rfl)(hw:Wd Γ S w:=by exact hw)
  (hi:S[i]? = some (.own (.slice a m c) E sz rows):=by exact GW) (h1:rows2.flatten.all (·.oneCell')=true:=by exact rfl) (hm:m2=rows2.length:=by exact rfl) (hb:(m+m2)*by'≤140737488355328:=by omega) (h63:m+m2≤9223372036854775807:=by omega) (hd:G8 n d=true:=by exact rfl) :
  L P n opa QQ (⟨d,.call { callee:=.builtin .append,args:=#[x,y],argTypes:=#[T,T] },ty,pos,es,none⟩::rest) ρ w:=bw h hr2 hm (fun u hu=>(List.all_eq_true.1 h1) u hu) hb h63 hw hx hy hi hd
end
end Mk
end
section
open Go
open Go.ChangeMaps (setBlock)
namespace Mk
section
variable {P:Program}{Γ:C8}{S:List B2}{w:World}{ρ:Fr}{K:Value→World→Prop}
variable {d:Option Tmp}{T ty:TypeId}{pos:String}{es:Array Edge}{g:Option (Nat×Bool)}{x y z:Operand}
end
section
variable {P:Program}{n:Nat}{opa:Array Oper}{Γ:C8}{S:List B2}{QQ:Exit→Fr→World→Prop}{ρ:Fr}{w:World}{rest:List Oper}
variable {d:Option Tmp}{T ty:TypeId}{pos:String}{es:Array Edge}{x:Operand}
end
section
attribute [local semireducible] Step L W
variable {P:Program}{n:Nat}{Q:Exit→Fr→World→Prop}{ρ:Fr}{w:World}{ro:Option Nat}{ds:List Deferred}
end
end Mk
namespace Mk
theorem RQ{args:Array Value}{n:Nat}(hn:Nat.ble args.size n=true):E0 { tmps:=args++Array.replicate (n-args.size) undef,defers:=[] }=d9 args:=by
 funext t
 simp only[E0,d9,Array.getD_eq_getD_getElem?,Array.getElem?_append]
 have hle:args.size≤n:=Nat.le_of_ble_eq_true hn
 by_cases ht:t<args.size
 ·rw[if_pos ht]
 ·rw[if_neg ht,Array.getElem?_eq_none (by omega:args.size≤t)]
  simp only[Array.getElem?_replicate]
  split <;> rfl
end Mk
namespace Mk
section
variable {P:Program}{n:Nat}{Γ:C8}{S:List B2}{Q:Exit→Fr→World→Prop}{ρ:Fr}{w:World}{rest:List Oper}
variable {d:Option Tmp}{T U ty:TypeId}{pos:String}{es:Array Edge}{x y z:Operand}{v:Value}
end
end Mk
namespace Mk
end Mk
namespace Mk
end Mk
end
section
open Go
namespace Mk
def EP(w:World):C8:=⟨fun b=>w.heap[b]?,w.os,w.tape,w.output,w.drawn⟩
theorem HE(w:World):Wd (EP w) [] w:=⟨rfl,rfl,rfl,Nat.le_refl _,fun b o h=>h,[],trivial,by simp,by simp⟩
theorem Hc{w w':World}{S:List B2}(h:Wd (EP w) S w'):∃q os',w'=Go.Sort.grow (w.drewN q) os':=by
 have hsz:w.heap.size≤w'.heap.size:=by
  by_cases h0:w.heap.size=0
  ·omega
  ·have hl:w.heap.size-1<w.heap.size:=by omega
   have:=h.imm (w.heap.size-1) w.heap[w.heap.size-1] (by show w.heap[_]? = _;simp)
   have:=(Array.getElem?_eq_some_iff.1 this).1
   omega
 refine⟨w'.drawn-w.drawn,w'.heap.extract w.heap.size w'.heap.size,?_⟩
 have hh:w'.heap=w.heap++w'.heap.extract w.heap.size w'.heap.size:=by
  refine Array.ext_getElem? fun i=>?_
  rw[Array.getElem?_append];split
  ·rename_i hi
   rw[h.imm i w.heap[i] (by show w.heap[i]? = _;simp[hi]),Array.getElem?_eq_getElem hi]
  ·rename_i hi
   simp only[Array.getElem?_extract]
   split
   ·congr 1;omega
   ·rw[Array.getElem?_eq_none (by omega)]
 have hd:w.drawn≤w'.drawn:=h.dr
 cases w' with
 | mk hp tp dr os out=>
  simp only at hh hd
  have e1:os=w.os:=h.os
  have e2:tp=w.tape:=h.tape
  have e3:out=w.output:=h.out
  subst e1 e2 e3;unfold Go.Sort.grow World.drewN;simp only[World.mk.injEq]
  exact⟨hh,trivial,by omega,trivial,trivial⟩
section
variable {P:Program}{Γ:C8}{S:List B2}{w:World}{α:Type}[Inhabited α]{E k n c g i:Nat}{enc:α→List Value}
attribute [local semireducible] B2.own
theorem Ad{v:Value}{sz e:Nat}{rows:List (List Value)}(hw:Wd Γ S w)(hi:S[i]? = some (.own v e sz rows)):∃a n c,v=.slice a n c∧n=rows.length∧n≤c∧c≤maxLen∧(c=0∨∃g cur,a=some ⟨g,0,none⟩∧g<w.heap.size∧w.heap[g]? = some (.cells cur e (0,0))∧cur.size=c*sz∧cur.toList.take (n*sz)=rows.flatten):=by
 obtain⟨bs,_,a,n,c,h1,h2,h3,h4,h5⟩:=hw.own_holds hi
 refine⟨a,n,c,h1,h2,h3,h4,h5.imp (fun h=>h.1) ?_⟩
 rintro⟨g,cur,g1,g2,g3,g4,g5⟩;exact⟨g,cur,g1,(Array.getElem?_eq_some_iff.1 g3).1,g3,g4,g5⟩
theorem HS(hk:∀x,(enc x).length=k)(xs:List α):(Go.Sort.flatK enc k xs.toArray).toList=(xs.map enc).flatten:=by
 have hl:∀r∈xs.map enc,r.length=k:=fun r hr=>by obtain⟨x,_,rfl⟩:=List.mem_map.1 hr;exact hk x
 have h2:(xs.map enc).flatten.length=xs.length*k:=by rw[T9 hl,List.length_map]
 refine List.ext_getElem? fun t=>?_
 by_cases ht:t<xs.length*k
 ·have hk0:0<k:=by
   rcases Nat.eq_zero_or_pos k with h0|h0
   ·subst h0;simp at ht
   ·exact h0
  have h3:t / k<xs.length:=Nat.div_lt_of_lt_mul (by rw[Nat.mul_comm];exact ht)
  have h4:t%k<k:=Nat.mod_lt _ hk0
  have h5:(enc xs[t / k]).length=k:=hk _
  have h6:=Ec (rows:=xs.map enc) (i:=t / k) (r:=enc xs[t / k]) hl (by simp[h3]) (t%k) ((enc xs[t / k])[t%k]'(by omega)) (by simp[h5,h4])
  have h7:t / k*k+t%k=t:=by rw[Nat.mul_comm];exact Nat.div_add_mod t k
  rw[h7]at h6;rw[h6];have hs:t<(Go.Sort.flatK enc k xs.toArray).size:=by simpa using ht
  rw[Array.getElem?_toList,Array.getElem?_eq_getElem hs,←getElem!_pos (Go.Sort.flatK enc k xs.toArray) t hs,Go.Sort.get_flatK _ _ _ _ (by simpa using ht)]
  simp[h3,h5,h4]
 ·rw[List.getElem?_eq_none (by simp;omega),List.getElem?_eq_none (by omega)]
theorem BO{xs:List α}(hk:∀x,(enc x).length=k)(hw:Wd Γ S w)(hi:S[i]? = some (.own (.slice (some ⟨g,0,none⟩) n c) E k (xs.map enc)))(hc:0<c):Go.Sort.HoldsK enc k w g 0 xs.toArray∧g<w.heap.size:=by
 obtain⟨a,n',c',e1,e2,e3,e4,e5⟩:=Ad hw hi
 cases e1
 rcases e5 with e5|⟨g',cur,g1,g2,g3,g4,g5⟩
 ·omega
 cases g1
 refine⟨fun j hj=>?_,g2⟩
 have hj':j<xs.length*k:=by simpa using hj
 rw[←HS hk]at g5;have hn:n=xs.length:=by simpa using e2
 subst hn;have h1:(cur.toList.take (xs.length*k))[j]? = cur[j]?:=by rw[List.getElem?_take_of_lt hj',Array.getElem?_toList]
 rw[g5,Array.getElem?_toList,Array.getElem?_eq_getElem hj]at h1;constructor
 ·simp only[World.cell?,g3,Nat.zero_add,id]
  simp only[Option.isSome_none,Bool.false_eq_true,if_false]
  rw[←h1,getElem!_pos _ j hj]
 ·simp[World.frozen?,g3]
theorem Q2{xs:List α}(hk:∀x,(enc x).length=k)(hw:Wd Γ S w)(hi:S[i]? = some (.own (.slice (some ⟨g,0,none⟩) n c) E k (xs.map enc)))(hc:0<c)(dk:Array α)(hs:dk.size=xs.length)(m:Nat)(os:Array Obj) :
  Wd Γ (S.set i (.own (.slice (some ⟨g,0,none⟩) n c) E k (dk.toList.map enc))) (Go.Proofs.sortWorldK enc k w g 0 m dk os):=by
 have hsz:(Go.Proofs.sortWorldK enc k w g 0 m dk os).heap.size=w.heap.size+os.size:=by
  simp[Go.Proofs.sortWorldK,Go.Sort.grow,Go.Sort.putRowK,Go.Sort.putRow,Go.Sort.mapBlock,Go.Sort.ahead]
 refine hw.upd hi ⟨rfl,rfl,rfl,Nat.le_add_right _ _,by omega⟩ fun bs hr hnd hlt=>?_
 unfold B2.own at hr ⊢
 obtain⟨h0,a',n',c',e1,e2,e3,e4,e5⟩:=hr;cases e1
 rcases e5 with⟨e5,_⟩|⟨g',cur,g1,rfl,g3,g4,g5⟩
 ·omega
 cases g1
 have hn:n=xs.length:=by simpa using e2
 subst hn;have hglt:g<w.heap.size:=hlt g (by simp)
 have hkk:∀b,b<w.heap.size→(Go.Proofs.sortWorldK enc k w g 0 m dk os).heap[b]? = (w.heap.modify g (Go.Sort.onCells (Go.Sort.putCells id 0 (Go.Sort.flatK enc k dk))))[b]?:=fun b hb=>by
  show ((w.heap.modify g _)++os)[b]? = _
  rw[Array.getElem?_append_left (by simpa using hb)]
 refine⟨[g],⟨fun r hr=>?_,_,_,_,rfl,by simp[hs],e3,e4,.inr ⟨g,Go.Sort.putCells id 0 (Go.Sort.flatK enc k dk) cur,rfl,rfl,?_,?_,?_⟩⟩,by simp,fun b hb=>⟨by have:=hlt b hb;omega,.inl hb⟩,fun b hb hne=>?_⟩
 ·obtain⟨x,_,rfl⟩:=List.mem_map.1 hr;exact hk x
 ·show (Go.Proofs.sortWorldK enc k w g 0 m dk os).heap[g]? = _
  rw[hkk g hglt,Array.getElem?_modify,if_pos rfl];simp only[hp]at g3
  rw[g3];rfl
 ·rw[←g4];simp[Go.Sort.putCells]
 ·rw[show dk.toList.map enc=((dk.toList).map enc) from rfl,←HS hk];refine List.ext_getElem? fun j=>?_
  have hfs:(Go.Sort.flatK enc k dk.toList.toArray).size=xs.length*k:=by simp[hs]
  by_cases hj:j<xs.length*k
  ·have hjc:j<cur.size:=by
    rw[g4];exact Nat.lt_of_lt_of_le hj (Nat.mul_le_mul_right _ e3)
   rw[List.getElem?_take_of_lt hj,Array.getElem?_toList,Array.getElem?_toList,Array.getElem?_eq_getElem (by simpa[Go.Sort.putCells] using hjc),Array.getElem?_eq_getElem (by rw[hfs];exact hj)]
   simp only[Go.Sort.putCells,Array.getElem_mapIdx,Nat.zero_le,Nat.sub_zero,Nat.zero_add,true_and,id]
   rw[if_pos (by simpa[hs] using hj),getElem!_pos _ j (by simpa[hs] using hj)]
  ·rw[List.getElem?_eq_none (by simp;omega),List.getElem?_eq_none (by simp[hs];omega)]
 ·rw[hkk b hb,Array.getElem?_modify,if_neg (fun e=>hne (by simp[e]))]
theorem Ib{d d':Array α}(h:Go.Sort.PermIn 0 d.size d d'):d'.toList.Perm d.toList:=by
 obtain⟨h1,_,h2⟩:=h;have e:∀x:Array α,x.size=d.size→x.extract 0 d.size=x:=fun x hx=>by rw[←hx];simp
 rwa [e d' h1,e d rfl]at h2
theorem Fc{lt:α→α→Bool}{d:Array α}{m:Nat}(hm:m=d.size)(h:Go.Sort.SortedIn lt 0 m d):d.toList.Pairwise fun a b=>lt b a=false:=by
 subst hm;rw[List.pairwise_iff_getElem];intro i j hi hj hij;have:=h i j (Nat.zero_le _) hij (by simpa using hj)
 simp only[Array.length_toList]at hi hj
 simpa[hi,hj] using this
theorem SS{ρ:Go.Shelf.Ren}(L:Go.Proofs.SlLaysF0.n6 P ρ)(cf:α→α→Int)(f:Nat)(cap:List Value)[C7 P f](xs:List α)(v:Value)(hw:Wd Γ S w)(hi:S[i]? = some (.own v E k (xs.map enc)))
  (hk:∀x,(enc x).length=k) (h1:∀x,∀u∈enc x,u.oneCell'=true) (hA:TA P (ρ.t 24) k) (hO:Go.Sort.SWO (Go.Proofs.ltOf cf)) (hlen:xs.length<4611686018427387904)
  (hcmp:∀(dk:List α) w',Wd Γ (S.set i (.own v E k (dk.map enc))) w'→∀x y,Calls P f (#[.agg (enc x).toArray,.agg (enc y).toArray]++cap.toArray) w' fun e w''=>e=.returned (.int .i64 (cf x y))∧∃S'',Wd (EP w') S'' w'') :
  Calls P (ρ.f 6) #[v,.func (.func f) #[] cap.toArray] w fun e w'=>e=.returned (.tuple #[])∧∃ys:List α,ys.Perm xs∧(ys.Pairwise fun a b=>Go.Proofs.ltOf cf b a=false)∧Wd Γ (S.set i (.own v E k (ys.map enc))) w':=by
 obtain⟨a,n,c,rfl,e2,e3,e4,e5⟩:=Ad hw hi
 have hn:n=xs.length:=by simpa using e2
 by_cases h0:n=0
 ·have hx:xs=[]:=List.eq_nil_of_length_eq_zero (by omega)
  subst h0;refine(Go.Proofs.AnyF.slices_SortFunc_none (P:=P) (ρ:=ρ) L a c _ w).mono ?_
  rintro e w' ⟨he,rfl⟩
  refine⟨he,[],by rw[hx],List.Pairwise.nil,?_⟩
  rw[hx]at hi;have hset:S.set i (.own (.slice a 0 c) E k (([]:List α).map enc))=S:=by
   obtain⟨hil,hie⟩:=List.getElem?_eq_some_iff.1 hi
   rw[←hie];exact List.set_getElem_self hil
  rw[hset];exact hw
 ·have hc:0<c:=by omega
  rcases e5 with e5|⟨g,cur,rfl,hg,hcur,hcs,htk⟩
  ·omega
  obtain⟨hH,hgl⟩:=BO hk hw hi hc
  have haggz:(∀w,(isAgg (ρ.t 24)).run P w=.ok true w)∧∀w,(Go.sizeOf (ρ.t 24)).run P w=.ok k w:=by
   have h:=hA.h
   unfold OB at h;cases hu:P.underlying (ρ.t 24) with
   | none=>simp[hu]at h
   | some t=>
    simp[hu]at h
    cases hq:P.info? (ρ.t 24) with
    | none=>simp[hq]at h
    | some q=>
     simp[hq]at h
     refine⟨fun w=>?_,fun w=>by simp[Go.sizeOf,typeInfo,hq,h.2]⟩
     unfold isAgg;rw[Sem.run_bind,run_underlying hu w];cases t <;> simp_all [TypeDesc.isRow]
  have:=Go.Proofs.AnyQ.slices_SortFunc L k haggz.1 haggz.2 enc hk h1 cf hO f cap.toArray g 0 c xs.toArray w (fun args w=>P9 args) (fun m os dk hdk x y=>?_) hH hgl (by simpa using hlen)
  ·simp only[List.size_toArray]at this
   rw[←hn]at this;refine this.mono ?_
   rintro e w' ⟨he,d',n',os,hp,hs,rfl⟩
   have hd:d'.size=xs.length:=by have:=hp.1;simpa using this
   refine⟨he,d'.toList,by simpa using Ib (d:=xs.toArray) (by simpa[←hn] using hp),Fc (m:=n) (by omega) hs,Q2 hk hw hi hc d' hd n' os⟩
  ·have W1:=Q2 hk hw hi hc dk (by simpa using hdk) m os
   refine(hcmp dk.toList _ W1 x y).mono ?_
   rintro e w'' ⟨he,S'',Aj⟩
   exact⟨he,Hc Aj⟩
end
section
variable {P:Program}{n:Nat}{ops:List Oper}{Γ:C8}{S K:List B2}{wr tc stab:List (List Nat)}{Q:Fr→World→Prop}{QQ:Exit→Fr→World→Prop}{i:Nat}{rest:List Oper}{ρ:Fr}{w:World}{M:Nat→Fr→List B2}{v:Value}
variable {d:Option Tmp}{T U ty:TypeId}{pos:String}{es:Array Edge}{x y z:Operand}
theorem Wd.toEnd{r:B2}(h:Wd Γ (r::S) w):Wd Γ (S++[r]) w:=h.perm (List.perm_append_singleton r S).symm
def Xw(i:Nat)(S:List B2):List B2:=match S[i]? with|some r=>r::S.eraseIdx i|none=>S
def iR:List Nat→List B2→List B2
 | [],S=>S
 | i::is,S=>iR is (Xw i S)
theorem Wd.ps{Γ:C8}{w:World}:∀(is:List Nat) {S:List B2},Wd Γ S w→Wd Γ (iR is S) w
 | [],_,h=>h
 | i::is,S,h=>Wd.ps is (by
  unfold Xw;split
  ·rename_i r hr;exact h.pull hr
  ·exact h)
def dsL:List Nat→List B2→List B2
 | [],S=>S
 | i::is,S=>dsL is (S.eraseIdx i)
theorem Wd.ds{Γ:C8}{w:World}:∀(is:List Nat) {S:List B2},Wd Γ S w→Wd Γ (dsL is S) w
 | [],_,h=>h
 | i::is,_,h=>Wd.ds is (h.dropAt i)
theorem Wd.flip{A B:List B2}(h:Wd Γ (A++B) w):Wd Γ (B++A) w:=h.perm List.perm_append_comm
theorem Wd.dropEnd{A B C:List B2}(h:Wd Γ (A++(B++C)) w):Wd Γ (A++B) w:=by
 rw[←List.append_assoc]at h;exact h.left
theorem Wd.right{S':List B2}(h:Wd Γ (S'++S) w):Wd Γ S w:=(h.perm List.perm_append_comm).left
theorem Jd{id:Nat}{l:List Oper}(k:Nat)(wr tc stab:List (List Nat))(h:MSw (mV P n l Γ K wr tc stab) (fun ρ w=>QQ .normal ρ w) 0 l ⟨ρ,ML (List.replicate k fun _=>[])⟩)
  (hw:Wd Γ K w:=by exact hw) (hm:P.follows .mixedOrders=true:=by kernel_rfl) (hk:R3 n l wr tc stab=true:=by kernel_rfl):W P n (.region id l.toArray true) QQ ρ w:=
 Q8 K _ wr tc stab (by
  have:((List.range stab.length).flatMap fun x=>ML (List.replicate k fun _=>[]) x (E7 (stab.getD x []) ρ D4))=[]:=by
   rw[List.flatMap_eq_nil_iff];intro x _;unfold ML;rw[List.getD_eq_getElem?_getD];cases hx:(List.replicate k fun _:Fr=>([]:List B2))[x]? with
   | none=>rfl
   | some q=>
    have:=List.mem_of_getElem? hx
    rw[List.mem_replicate]at this;rw[this.2];rfl
  rw[this,List.append_nil];exact hw) h hm hk
theorem Qx{id:Nat}{l:List Oper}(K X:List B2)(wr tc:List (List Nat))(hw:Wd Γ (K++X) w)(h:MSw (mV P n l Γ K wr tc [[]]) (fun ρ w=>QQ .normal ρ w) 0 l ⟨ρ,ML [fun _=>X]⟩)
  (hm:P.follows .mixedOrders=true:=by kernel_rfl) (hk:R3 n l wr tc [[]]=true:=by kernel_rfl):W P n (.region id l.toArray true) QQ ρ w:=
 Q8 K [fun _=>X] wr tc [[]] (by
  show Wd Γ (K++(X++[])) w
  rw[List.append_nil];exact hw) h hm hk
theorem Eh{id:Nat}{l:List Oper}(K X:List B2)(wr tc stab:List (List Nat))(hw:Wd Γ (K++X) w)(h:MSw (mV P n l Γ K wr tc stab) (fun ρ w=>QQ .normal ρ w) 0 l ⟨ρ,ML [fun _=>X,fun _=>[]]⟩)(hs:stab.length=2:=by exact rfl)
  (hm:P.follows .mixedOrders=true:=by kernel_rfl) (hk:R3 n l wr tc stab=true:=by kernel_rfl):W P n (.region id l.toArray true) QQ ρ w:=
 Q8 K [fun _=>X,fun _=>[]] wr tc stab (by
  have e:(List.range stab.length).flatMap (fun x=>(ML [fun _=>X,fun _=>[]]) x (E7 (stab.getD x []) ρ D4))=X:=by
   rw[hs];show X++([]++[])=X
   simp
  rw[e];exact hw) h hm hk
theorem AX{c b o j m:Nat}{cs:Array Value}{E:TypeId}{vs:List Value}{X:List B2}[hn:Rp P T m](h:MSw (mV P n ops Γ K wr tc stab) Q (i+1) rest ⟨ρ,H5 M c fun _=>X.set j (.blk b (.cells (putCells cs o vs) E))⟩)
  (ht:tc.getD i []=[c]:=by exact rfl) (hM:M c=(fun _=>X):=by exact rfl) (hj:X[j]? = some (.blk b (.cells cs E)):=by exact GW) (hw0:wr.getD i []=[c]:=by exact rfl) (hx:∀g,ev (E7 stab.flatten g ρ) x=.pointer (some ⟨b,o,none⟩):=by intro g;exact rfl)
  (hy:∀g,ev (E7 stab.flatten g ρ) y=v:=by intro g;exact l8) (hv:v.cells.toList=vs:=by exact rfl) (hl:vs.length=m:=by exact rfl) (h1:vs.all (·.oneCell')=true:=by exact rfl) (ho:o+m≤cs.size:=by exact Nat.le_of_ble_eq_true rfl) :
  MSw (mV P n ops Γ K wr tc stab) Q i (⟨none,.store T x y,ty,pos,es,none⟩::rest) ⟨ρ,M⟩:=by
 refine mM (v:=undef) _ (fun Y w g hw=>?_) h hw0 rfl
 have e:∀M',E8 tc stab i M' g=M' c (E7 (stab.getD c []) g D4):=fun M'=>by
  unfold E8;rw[ht];simp
 rw[e,hM]at hw;have hjl:j<X.length:=(List.getElem?_eq_some_iff.1 hj).1
 refine m9 hn.h hw (hx g) (hy g) hv hl (fun u hu=>(List.all_eq_true.1 h1) u hu) (i:=K.length+j) (by rw[List.getElem?_append_right (Nat.le_add_right _ _),Nat.add_sub_cancel_left,List.getElem?_append_left hjl];exact hj) ho fun w' hw'=>⟨?_,fun _=>rfl⟩
 have e2:E8 tc stab i (H5 M c fun _=>X.set j (.blk b (.cells (putCells cs o vs) E))) (D2 g none undef)=X.set j (.blk b (.cells (putCells cs o vs) E)):=by
  unfold E8;rw[ht];simp[B0]
 rw[e2];rw[List.set_append_right _ _ (Nat.le_add_right _ _),Nat.add_sub_cancel_left,List.set_append_left _ _ hjl]at hw';exact hw'
theorem O2{c:Nat}{g:Fr}(ht:tc.getD i []=[c])(M:Nat→Fr→List B2):E8 tc stab i M g=M c (E7 (stab.getD c []) g D4):=by unfold E8;rw[ht];simp
theorem EY{c c2:Nat}{g:Fr}(ht:tc.getD i []=[c,c2])(M:Nat→Fr→List B2):E8 tc stab i M g=M c (E7 (stab.getD c []) g D4)++M c2 (E7 (stab.getD c2 []) g D4):=by unfold E8;rw[ht];simp
theorem A0{c c':Nat}{m:Fr→List B2}(h:c'≠c):H5 M c m c'=M c':=by simp[H5,h]
theorem NR{c k j m cc sz E:Nat}{a:Option Addr}{r:List Value}{rows:List (List Value)}{X:List B2}[hn:Rp P T sz](h:MSw (mV P n ops Γ K wr tc stab) Q (i+1) rest ⟨ρ,H5 M c fun _=>X.set j (.own (.slice a m cc) E sz (rows.set k r))⟩)
  (ht:tc.getD i []=[c]:=by exact rfl) (hM:M c=(fun _=>X):=by exact rfl) (hj:X[j]? = some (.own (.slice a m cc) E sz rows):=by exact GW) (hw0:wr.getD i []=[c]:=by exact rfl) (hx:∀g,ev (E7 stab.flatten g ρ) x=.pointer (some ⟨aB a,aO a+k*sz,none⟩):=by intro g;exact rfl)
  (hy:∀g,ev (E7 stab.flatten g ρ) y=v:=by intro g;exact l8) (hv:v.cells.toList=r:=by exact rfl) (hl:r.length=sz:=by exact rfl) (h1:r.all (·.oneCell')=true:=by exact rfl) (hk:k<m:=by omega) :
  MSw (mV P n ops Γ K wr tc stab) Q i (⟨none,.store T x y,ty,pos,es,none⟩::rest) ⟨ρ,M⟩:=by
 refine mM (v:=undef) _ (fun Y w g hw=>?_) h hw0 rfl
 rw[O2 ht,hM]at hw;have hjl:j<X.length:=(List.getElem?_eq_some_iff.1 hj).1
 refine QC hn.h hw (hx g) (hy g) hv hl h1 (i:=K.length+j) (by rw[List.getElem?_append_right (Nat.le_add_right _ _),Nat.add_sub_cancel_left,List.getElem?_append_left hjl];exact hj) hk fun w' hw'=>⟨?_,fun _=>rfl⟩
 rw[O2 ht,B0];rw[List.set_append_right _ _ (Nat.le_add_right _ _),Nat.add_sub_cancel_left,List.set_append_left _ _ hjl]at hw';exact hw'
theorem g8{c dd E by' len sz:Nat}{zs:List Value}{parts:Array (Nat×Operand)}{cells:List Value}(rws:List (List Value))[TL P T E sz by' zs](h:MSw (mV P n ops Γ K wr tc stab) Q (i+1) rest ⟨D2 ρ (some dd) undef,H5 M c fun g=>[.own (g dd) E sz rws]⟩)
  (hf:∀g,t6 (fun i=>some (i*sz,sz)) ((List.range (len*sz)).map fun i=>zs.getD (i%sz) undef) (parts.toList.map fun p=>(p.1,ev (E7 stab.flatten g ρ) p.2))=some cells:=by intro g;exact rfl)
  (ht:tc.getD i []=[c]:=by exact rfl) (hM:M c=(fun _=>[]):=by exact rfl) (hs:(stab.getD c []).contains dd=true:=by exact rfl) (hfr:T8 stab (some dd)=true:=by exact rfl) (hw0:wr.getD i []=[c]:=by exact rfl)
  (hrw:rws.flatten=cells:=by exact rfl) (hlen:rws.length=len:=by exact rfl) (hr:rws.all (fun r=>Nat.beq r.length sz)=true:=by exact rfl) (hbig:Nat.ble (len*sz) 16777216=true:=by exact rfl) :
  MSw (mV P n ops Γ K wr tc stab) Q i (⟨some dd,.buildSlice T len parts,ty,pos,es,none⟩::rest) ⟨ρ,M⟩:=by
 refine mM (v:=undef) _ (fun Y w g hw=>?_) h hw0 rfl
 rw[O2 ht,hM]at hw;refine R8 (rws:=rws) hw (hf g) hrw hlen (fun r hm=>Nat.eq_of_beq_eq_true ((List.all_eq_true.1 hr) r hm)) (Nat.le_of_ble_eq_true hbig) fun a w' hw'=>⟨?_,fun hh=>by rw[hfr]at hh;cases hh⟩
 rw[O2 ht,B0];have h1:E7 (stab.getD c []) (D2 g (some dd) (.slice (some a) len len)) D4 dd=.slice (some a) len len:=by
  rw[J7 (by simpa using hs)];exact upd_same _ _ _
 rw[h1];exact Wd.unmid hw'
theorem HF{c c2 dd dy j E by' sz m cc:Nat}{zs:List Value}{a:Option Addr}{rows rows2:List (List Value)}{X:List B2}[TL P T E sz by' zs](h:MSw (mV P n ops Γ K wr tc stab) Q (i+1) rest ⟨D2 ρ (some dd) undef,H5 M c fun g=>X.set j (.own (g dd) E sz (rows++rows2))⟩)
  (hx:∀g,ev (E7 stab.flatten g ρ) x=.slice a m cc:=by intro g;exact rfl) (ht:tc.getD i []=[c,c2]:=by exact rfl) (hM:M c=(fun _=>X):=by exact rfl) (hM2:M c2=(fun g=>[.own (g dy) E sz rows2]):=by exact rfl) (hj:X[j]? = some (.own (.slice a m cc) E sz rows):=by exact GW)
  (hs:(stab.getD c []).contains dd=true:=by exact rfl) (hs2:(stab.getD c2 []).contains dy=true:=by exact rfl) (hfr:T8 stab (some dd)=true:=by exact rfl) (hfy:stab.flatten.contains dy=true:=by exact rfl) (hne:Nat.beq dy dd=false:=by exact rfl) (hcc:Nat.beq c2 c=false:=by exact rfl) (hw0:wr.getD i []=[c]:=by exact rfl)
  (h1:rows2.flatten.all (·.oneCell')=true:=by exact rfl) (hb:(m+rows2.length)*by'≤140737488355328:=by (simp only[List.length_cons,List.length_nil];omega)) (h63:m+rows2.length≤9223372036854775807:=by (simp only[List.length_cons,List.length_nil];omega)) :
  MSw (mV P n ops Γ K wr tc stab) Q i (⟨some dd,.call { callee:=.builtin .append,args:=#[x,.tmp dy],argTypes:=#[T,T] },ty,pos,es,none⟩::rest) ⟨ρ,M⟩:=by
 refine mM (v:=undef) _ (fun Y w g hw=>?_) h hw0 rfl
 have hyd:dy≠dd:=fun e=>by subst e;simp at hne
 have hcd:c2≠c:=fun e=>by subst e;simp at hcc
 rw[EY ht,hM,hM2]at hw;have h2:∀f:Fr,E7 (stab.getD c2 []) f D4 dy=f dy:=fun f=>J7 (by simpa using hs2)
 simp only[h2]at hw
 have hjl:j<X.length:=(List.getElem?_eq_some_iff.1 hj).1
 have hi1:(K++(X++[.own (g dy) E sz rows2]++Y))[K.length+j]? = some (.own (.slice a m cc) E sz rows):=by
  rw[List.getElem?_append_right (Nat.le_add_right _ _),Nat.add_sub_cancel_left,List.append_assoc,List.getElem?_append_left hjl];exact hj
 have hi2:(K++(X++[.own (g dy) E sz rows2]++Y))[K.length+X.length]? = some (.own (g dy) E sz rows2):=by
  rw[List.getElem?_append_right (Nat.le_add_right _ _),Nat.add_sub_cancel_left,List.append_assoc,List.getElem?_append_right (Nat.le_refl _)];simp
 obtain⟨a2,m2,c3,e1,e2,e3,e4⟩:=hw.own_shape hi2
 have hrd:Rd w a2 sz rows2:=by
  have Aj:=hw
  have hi3:=hi2
  rw[e1]at Aj hi3
  exact Aj.own_rd hi3
 have hy:ev (E7 stab.flatten g ρ) (.tmp dy)=.slice a2 m2 c3:=by
  show E7 stab.flatten g ρ dy=_
  rw[J7 (by simpa using hfy)];exact e1
 refine Cb hw (hx g) hy hi1 hrd e2 (fun u hu=>(List.all_eq_true.1 h1) u hu) (by rw[e2];exact hb) (by rw[e2];exact h63) fun v' w' hw'=>⟨?_,fun hh=>by rw[hfr]at hh;cases hh⟩
 rw[EY ht,B0,A0 hcd,hM2];have h3:E7 (stab.getD c []) (D2 g (some dd) v') D4 dd=v':=by
  rw[J7 (by simpa using hs)];exact upd_same _ _ _
 have h4:D2 g (some dd) v' dy=g dy:=upd_ne _ _ hyd
 simp only[h2,h3,h4]
 rw[List.append_assoc,List.set_append_right _ _ (Nat.le_add_right _ _),Nat.add_sub_cancel_left,List.set_append_left _ _ hjl]at hw';rw[List.append_assoc];exact hw'
theorem AU{c b o j j2 dv E2 fI:Nat}{cs:Array Value}{E:TypeId}{rows:List (List Value)}{X:Fr→List B2}[hn:Rp P T 1](h:MSw (mV P n ops Γ K wr tc stab) Q (i+1) rest ⟨ρ,H5 M c fun g=>(X g).set j (.blk b (.cells (putCells cs o [g dv]) E))⟩)
  (ht:tc.getD i []=[c]:=by exact rfl) (hM:M c=X:=by exact rfl) (hj:∀g,(X g)[j]? = some (.blk b (.cells cs E)):=by intro g;exact GW) (hj2:∀g,(X g)[j2]? = some (.own (g dv) E2 fI rows):=by intro g;exact GW) (hw0:wr.getD i []=[c]:=by exact rfl) (hx:∀g,ev (E7 stab.flatten g ρ) x=.pointer (some ⟨b,o,none⟩):=by intro g;exact rfl)
  (hs:(stab.getD c []).contains dv=true:=by exact rfl) (hfv:stab.flatten.contains dv=true:=by exact rfl) (ho:o+1≤cs.size:=by exact Nat.le_of_ble_eq_true rfl) :
  MSw (mV P n ops Γ K wr tc stab) Q i (⟨none,.store T x (.tmp dv),ty,pos,es,none⟩::rest) ⟨ρ,M⟩:=by
 refine mM (v:=undef) _ (fun Y w g hw=>?_) h hw0 rfl
 rw[O2 ht,hM]at hw;have hy:ev (E7 stab.flatten g ρ) (.tmp dv)=g dv:=J7 (by simpa using hfv)
 have hg:E7 (stab.getD c []) g D4 dv=g dv:=J7 (by simpa using hs)
 have hjl:j<(X (E7 (stab.getD c []) g D4)).length:=(List.getElem?_eq_some_iff.1 (hj _)).1
 have hjl2:j2<(X (E7 (stab.getD c []) g D4)).length:=(List.getElem?_eq_some_iff.1 (hj2 _)).1
 obtain⟨a2,m2,c3,e1,-,-,-⟩:=hw.own_shape (i:=K.length+j2) (v:=g dv) (e:=E2) (sz:=fI) (rows:=rows) (by
  rw[List.getElem?_append_right (Nat.le_add_right _ _),Nat.add_sub_cancel_left,List.getElem?_append_left hjl2,hj2,hg])
 refine m9 hn.h hw (hx g) hy (vs:=[g dv]) (by rw[e1];rfl) rfl (fun u hu=>by simp at hu;subst hu;rw[e1];rfl) (i:=K.length+j) (by rw[List.getElem?_append_right (Nat.le_add_right _ _),Nat.add_sub_cancel_left,List.getElem?_append_left hjl];exact hj _) ho fun w' hw'=>⟨?_,fun _=>rfl⟩
 rw[O2 ht,B0];rw[List.set_append_right _ _ (Nat.le_add_right _ _),Nat.add_sub_cancel_left,List.set_append_left _ _ hjl]at hw';simp only[D2,hg]
 exact hw'
end
section
variable {P:Program}{n:Nat}{opa:Array Oper}{Γ:C8}{S:List B2}{QQ:Exit→Fr→World→Prop}{ρ:Fr}{w:World}{rest:List Oper}{j dj:Nat}{want c:Bool}
variable {d:Option Tmp}{op:Op}{T U ty:TypeId}{pos:String}{es:Array Edge}{x y z:Operand}
attribute [local semireducible] L Step gv G0
theorem WP(h:L P n opa QQ (⟨d,op,ty,pos,es,none⟩::rest) ρ w)(hj:(opa[j]?).bind (·.dst)=some dj:=by exact rfl)(hjn:G8 n (some dj)=true:=by exact rfl)(hc:G0 (ρ dj) want c:=by exact IN)(hct:c=true:=by with_reducible rfl):L P n opa QQ (⟨d,op,ty,pos,es,some (j,want)⟩::rest) ρ w:=fun a hda hs hf=>by
 subst hct;have h1:=h a hda hs hf
 have hw:=Ah (⟨d,op,ty,pos,es,some (j,want)⟩:Oper) opa a j want rfl dj hj (by rw[hs];exact K7 hjn _ rfl)
 subst hf;rw[show (Ih (E0 a dj) == some want)=true from hc]at hw;unfold wpList at h1 ⊢
 rw[if_pos hw];rw[if_pos (by simp[Region.wanted])]at h1
 exact h1
theorem Tt(h:L P n opa QQ rest (D2 ρ d undef) w)(hj:(opa[j]?).bind (·.dst)=some dj:=by exact rfl)(hjn:G8 n (some dj)=true:=by exact rfl)(hd:G8 n d=true:=by exact rfl)(hc:G0 (ρ dj) want c:=by exact IN)(hct:c=false:=by with_reducible rfl):L P n opa QQ (⟨d,op,ty,pos,es,some (j,want)⟩::rest) ρ w:=fun a hda hs hf=>by
 subst hct;have hw:=Ah (⟨d,op,ty,pos,es,some (j,want)⟩:Oper) opa a j want rfl dj hj (by rw[hs];exact K7 hjn _ rfl)
 subst hf;rw[show (Ih (E0 a dj) == some want)=false from hc]at hw;unfold wpList;rw[if_neg (by rw[hw];simp)]
 exact h _ (by rw[K6];exact hda) (by rw[size_put];exact hs) (Y3 a _ _ (by rw[hs];exact K7 hd))
theorem hJ(hj:(opa[j]?).bind (·.dst)=some dj)(hjn:G8 n (some dj)=true)(hd:G8 n d=true)(hc:G0 (ρ dj) want c)(ht:c=true→L P n opa QQ (⟨d,op,ty,pos,es,none⟩::rest) ρ w)(hf:c=false→L P n opa QQ rest (D2 ρ d undef) w):L P n opa QQ (⟨d,op,ty,pos,es,some (j,want)⟩::rest) ρ w:=by
 cases hcc:c with
 | true=>exact WP (ht hcc) hj hjn hc hcc
 | false=>exact Tt (hf hcc) hj hjn hd hc hcc
theorem UM{bo:BinOp}(h:L P n opa QQ (⟨d,.binOp bo T x y U,ty,pos,es,none⟩::rest) ρ w):L P n opa QQ (⟨d,.binOp bo T x y U,ty,pos,es,none⟩::rest) ρ w:=h
theorem JS(h:L P n opa QQ (⟨d,.unOp .not T x,ty,pos,es,none⟩::rest) ρ w):L P n opa QQ (⟨d,.unOp .not T x,ty,pos,es,none⟩::rest) ρ w:=h
theorem lT{b:Bool}{o:Oper}(hb:b=true)(h:L P n opa QQ rest (D2 ρ o.dst (.bool true)) w)(hg:o.guard=none:=by exact rfl)(hd:G8 n o.dst=true:=by exact rfl)(hw:Wd Γ S w:=by exact hw)(hy:Yields P o ρ w (.bool b):=by exact Pu):L P n opa QQ (o::rest) ρ w:=Zz hg hd (by rw[hb]at hy;exact hy) h
theorem lF{b:Bool}{o:Oper}(hb:b=false)(h:L P n opa QQ rest (D2 ρ o.dst (.bool false)) w)(hg:o.guard=none:=by exact rfl)(hd:G8 n o.dst=true:=by exact rfl)(hw:Wd Γ S w:=by exact hw)(hy:Yields P o ρ w (.bool b):=by exact Pu):L P n opa QQ (o::rest) ρ w:=Zz hg hd (by rw[hb]at hy;exact hy) h
end
section
variable {P:Program}{n:Nat}{ops:List Oper}{Γ:C8}{S:List B2}{Q:Fr→World→Prop}{ρ:Fr}{rest:List Oper}{j dj:Nat}{want c:Bool}
variable {d:Option Tmp}{op:Op}{T U ty:TypeId}{pos:String}{es:Array Edge}{x y z:Operand}
theorem qGF(h:Qw P n ops Γ S Q rest (D2 ρ d (gv c undef)))(hcf:c=false)(hj:(ops[j]?).bind (·.dst)=some dj:=by exact rfl)(hc:G0 (ρ dj) want c:=by exact IN)(hsel:AN ⟨d,op,ty,pos,es,some (j,want)⟩=true:=by exact rfl) :
  Qw P n ops Γ S Q (⟨d,op,ty,pos,es,some (j,want)⟩::rest) ρ:=fx rfl hj hc hsel (fun hct=>by rw[hcf]at hct;cases hct) h
theorem qT{b:Bool}{o:Oper}(hb:b=true)(h:Qw P n ops Γ S Q rest (D2 ρ o.dst (.bool true)))(hg:o.guard=none:=by exact rfl)(hsel:AN o=true:=by exact rfl)(hy:∀w,Wd Γ S w→Yields P o ρ w (.bool b):=by (intro w hw;exact Pu)):Qw P n ops Γ S Q (o::rest) ρ:=Q_y hg hsel (fun w hw=>by have:=hy w hw;rw[hb]at this;exact this) h
end
theorem Ep{α:Type}[LC α](a:α):(enc a).all (·.oneCell')=true:=by
 rw[List.all_eq_true];intro u hu;have h:Kv u∈(LC.ks α).map some:=by rw[←LC.kinds a];exact List.mem_map.2 ⟨u,hu,rfl⟩
 obtain⟨k,_,hk⟩:=List.mem_map.1 h
 cases u <;> simp[Kv]at hk <;> rfl
theorem We{α:Type}[LC α](xs:List α):(xs.map enc).flatten.all (·.oneCell')=true:=by
 rw[List.all_eq_true];intro u hu;obtain⟨r,hr,hur⟩:=List.mem_flatten.1 hu
 obtain⟨x,_,rfl⟩:=List.mem_map.1 hr
 exact(List.all_eq_true.1 (Ep x)) u hur
section
end
attribute [local irreducible] Calls
def P5{T:Type}(φ:T→Fr→Prop)(R:T→List B2):Fr→List B2:=fun g=>[B2.ex (α:={t:T // φ t g}) fun p=>R p.1]
section
variable {P:Program}{n:Nat}{ops:List Oper}{Γ:C8}{K X:List B2}{wr tc stab:List (List Nat)}{N:List Nat}{Q:Fr→World→Prop}{i:Nat}{rest:List Oper}{ρ:Fr}{w:World}{M:Nat→Fr→List B2}{v:Value}{T T':Type}
theorem Fi{id:Nat}{l:List Oper}{QQ:Exit→Fr→World→Prop}(K X:List B2)(N:List Nat)(wr:List (List Nat))(hw:Wd Γ (K++X) w)
  (h:MSw (mV P n l Γ K wr wr [N]) (fun ρ w=>QQ .normal ρ w) 0 l ⟨ρ,fun _=>P5 (T:=Unit) (fun _ _=>True) (fun _=>X)⟩)
  (hm:P.follows .mixedOrders=true:=by kernel_rfl) (hk:R3 n l wr wr [N]=true:=by kernel_rfl):W P n (.region id l.toArray true) QQ ρ w:=
 Tc K (fun _=>P5 (T:=Unit) (fun _ _=>True) (fun _=>X)) wr wr [N] true hm hk (by
  have e:cellsOf (mV P n l Γ K wr wr [N]) (List.range [N].length) (fun _=>P5 (T:=Unit) (fun _ _=>True) (fun _=>X)) ρ=P5 (T:=Unit) (fun _ _=>True) (fun _=>X) (E7 N ρ D4):=by
   show _++[]=_
   rw[List.append_nil];rfl
  show Wd Γ (K++cellsOf (mV P n l Γ K wr wr [N]) (List.range [N].length) (fun _=>P5 (T:=Unit) (fun _ _=>True) (fun _=>X)) ρ) w
  rw[e];have h1:Wd Γ (X++K) w:=hw.perm List.perm_append_comm
  have h2:=Wd.closeEx (α:={t:Unit // True}) (X:=fun _=>X) ⟨(),trivial⟩ h1
  exact(h2.perm (List.perm_append_singleton _ K).symm:_)) h
theorem Da{φ:T→Fr→Prop}{R:T→List B2}{o:Oper}(φ':T'→Fr→Prop)(R':T'→List B2)
  (hs:∀t g w Y,φ t (E7 N g D4)→Wd Γ (R t++(K++Y)) w→Step P o (E7 N g ρ) w fun u w'=>∃t',φ' t' (E7 N (D2 g o.dst u) D4)∧(T8 [N] o.dst=false→u=v)∧Wd Γ (R' t'++(K++Y)) w')
  (h:MSw (mV P n ops Γ K wr wr [N]) Q (i+1) rest ⟨D2 ρ o.dst v,H5 M 0 (P5 φ' R')⟩) (hM:M 0=P5 φ R:=by first|exact B0|exact rfl) (hw0:wr.getD i []=[0]:=by exact rfl) (hg:o.guard=none:=by exact rfl) :
  MSw (mV P n ops Γ K wr wr [N]) Q i (o::rest) ⟨ρ,M⟩:=by
 refine mM _ (fun Y w g hw=>?_) h hw0 hg
 have e:E8 wr [N] i M g=P5 φ R (E7 N g D4):=by
  rw[O2 hw0,hM];rfl
 rw[e]at hw;have e0:([N].flatten:List Nat)=N:=by simp
 rw[e0];obtain⟨⟨t,ht⟩,W1⟩:=(Wd.mid hw).openEx
 refine(hs t g w Y ht W1).mono ?_
 rintro u w' ⟨t',h1,h2,h3⟩
 refine⟨?_,h2⟩
 have e2:E8 wr [N] i (H5 M 0 (P5 φ' R')) (D2 g o.dst u)=P5 φ' R' (E7 N (D2 g o.dst u) D4):=by
  rw[O2 hw0,B0];rfl
 rw[e2];exact Wd.unmid (Wd.closeEx (X:=fun p:{t:T' // φ' t (E7 N (D2 g o.dst u) D4)}=>R' p.1) ⟨t',h1⟩ h3)
theorem RJ{φ:T→Fr→Prop}{R:T→List B2}{f:Nat}{d:Option Tmp}{ty:TypeId}{pos:String}{es:Array Edge}{args:List Operand}{tys:Array TypeId}[C7 P f](φ':T'→Fr→Prop)(R':T'→List B2)(vs:T→Fr→List Value)
  (hs:∀t g w Y,φ t (E7 N g D4)→Wd Γ (R t++(K++Y)) w→Calls P f (vs t (E7 N g D4)).toArray w fun e w'=>∃u,e=.returned u∧∃t',φ' t' (E7 N (D2 g d u) D4)∧(T8 [N] d=false→u=v)∧Wd Γ (R' t'++(K++Y)) w')
  (h:MSw (mV P n ops Γ K wr wr [N]) Q (i+1) rest ⟨D2 ρ d v,H5 M 0 (P5 φ' R')⟩) (ha:∀t g,φ t (E7 N g D4)→EvL (E7 N g ρ) args (vs t (E7 N g D4)):=by (intro t g ht;exact v7)) (hM:M 0=P5 φ R:=by first|exact B0|exact rfl) (hw0:wr.getD i []=[0]:=by exact rfl) :
  MSw (mV P n ops Γ K wr wr [N]) Q i (⟨d,.call { callee:=.value (.func f),args:=args.toArray,argTypes:=tys },ty,pos,es,none⟩::rest) ⟨ρ,M⟩:=
 Da φ' R' (fun t g w Y ht hw=>An (ha t g ht).eqA (hs t g w Y ht hw)) h hM hw0 rfl
theorem IX{φ:T→Fr→Prop}{R:T→List B2}(h:∀t w g,φ t (E7 N g D4)→Wd Γ (R t++K) w→Q (E7 N g ρ) w)(hM:M 0=P5 φ R:=by first|exact B0|exact rfl):MSw (mV P n ops Γ K wr tc [N]) Q i [] ⟨ρ,M⟩:=
 S5 fun w g hw=>by
  have e:((List.range [N].length).flatMap fun x=>M x (E7 ([N].getD x []) g D4))=P5 φ R (E7 N g D4):=by
   show M 0 _++[]=_
   rw[List.append_nil,hM];rfl
  rw[e]at hw;have e0:([N].flatten:List Nat)=N:=by simp
  rw[e0];obtain⟨⟨t,ht⟩,W1⟩:=(Wd.mid (Y:=[]) hw).openEx
  exact h t w g ht (by simpa using W1)
end
end Mk
end
section
open Go
namespace Mk
def cI(a b:Int):Int:=if a<b then -1 else if b<a then 1 else 0
def cB(a b:ByteArray):Int:=if Hu a b=true then -1 else if Hu b a=true then 1 else 0
def Ew(x y:Int):Int:=if x=0 then y else x
def cL{α:Type}(c:α→α→Int):List α→List α→Int
 | [],[]=>0
 | [],_::_=>-1
 | _::_,[]=>1
 | a::l,b::k=>Ew (c a b) (cL c l k)
structure V0{α:Type}(c:α→α→Int):Prop where
 rng:∀a b,c a b = -1∨c a b=0∨c a b=1
 eq0:∀ {a b},c a b=0→a=b
 refl:∀a,c a a=0
 anti:∀a b,c b a = -(c a b)
 trans:∀ {a b d},c a b = -1→c b d = -1→c a d = -1
theorem Sv{a b:Int}:cI a b = -1↔a<b:=by
 unfold cI;by_cases h:a<b
 ·simp[h]
 ·by_cases h2:b<a <;> simp[h,h2]
theorem Rx:V0 cI where
 rng a b:=by
  unfold cI;by_cases h:a<b
  ·simp[h]
  ·by_cases h2:b<a <;> simp[h,h2]
 eq0 {a b} e:=by
  unfold cI at e;by_cases h:a<b
  ·simp[h]at e
  ·by_cases h2:b<a
   ·simp[h,h2]at e
   ·omega
 refl a:=by unfold cI;simp
 anti a b:=by
  unfold cI;by_cases h:a<b
  ·rw[if_neg (by omega),if_pos h,if_pos h];rfl
  ·by_cases h2:b<a
   ·rw[if_pos h2,if_neg h,if_pos h2]
   ·rw[if_neg h2,if_neg h,if_neg h,if_neg h2];rfl
 trans {a b d} h k:=by rw[Sv] at *;omega
theorem gd{a b:ByteArray}:cB a b = -1↔Hu a b=true:=by
 unfold cB;cases h:Hu a b with
 | true=>simp
 | false=>cases Hu b a <;> simp
theorem Wb:V0 cB where
 rng a b:=by unfold cB;cases Hu a b <;> cases Hu b a <;> simp
 eq0 {a b} h:=by
  unfold cB at h;cases h1:Hu a b with
  | true=>rw[h1]at h;cases h
  | false=>
   cases h2:Hu b a with
   | true=>rw[h1,h2]at h;cases h
   | false=>exact MP h1 h2
 refl a:=by unfold cB;simp[Fs]
 anti a b:=by
  unfold cB;cases h1:Hu a b with
  | true=>rw[MD h1];rfl
  | false=>cases h2:Hu b a <;> rfl
 trans {a b d} h k:=by rw[gd] at *;exact Lz h k
section
variable {α β:Type}{c:α→α→Int}{c2:β→β→Int}
theorem HA{x y:Int}:Ew x y=0↔x=0∧y=0:=by
 unfold Ew;split
 ·rename_i h;simp[h]
 ·rename_i h;simp[h]
theorem V0.map(h:V0 c)(f:β→α)(hf:∀a b,f a=f b→a=b):V0 (fun a b=>c (f a) (f b)):=
 ⟨fun _ _=>h.rng _ _,fun e=>hf _ _ (h.eq0 e),fun _=>h.refl _,fun _ _=>h.anti _ _,fun a b=>h.trans a b⟩
theorem TE{x y:Int}:Ew x y = -1↔x = -1∨(x=0∧y = -1):=by
 unfold Ew;split
 ·rename_i h;subst h;simp
 ·rename_i h;simp[h]
theorem V0.prod(h:V0 c)(h2:V0 c2):V0 (fun (a b:α×β)=>Ew (c a.1 b.1) (c2 a.2 b.2)) where
 rng a b:=by
  unfold Ew;split
  ·exact h2.rng _ _
  ·exact h.rng _ _
 eq0 {a b} e:=by
  rw[HA]at e;exact Prod.ext (h.eq0 e.1) (h2.eq0 e.2)
 refl a:=by rw[HA];exact⟨h.refl _,h2.refl _⟩
 anti a b:=by
  unfold Ew;rw[h.anti a.1 b.1,h2.anti a.2 b.2];by_cases e:c a.1 b.1=0
  ·simp[e]
  ·rw[if_neg (by omega),if_neg e]
 trans {a b d} e k:=by
  rw[TE] at *
  rcases e with e|⟨e,e'⟩ <;> rcases k with k|⟨k,k'⟩
  ·exact .inl (h.trans e k)
  ·rw[←h.eq0 k];exact .inl e
  ·rw[h.eq0 e];exact .inl k
  ·rw[h.eq0 e];exact .inr ⟨k,h2.trans e' k'⟩
theorem ZR(h:V0 c):∀a b,cL c a b = -1∨cL c a b=0∨cL c a b=1
 | [],[]=>.inr (.inl rfl)
 | [],_::_=>.inl rfl
 | _::_,[]=>.inr (.inr rfl)
 | a::l,b::k=>by
  unfold cL Ew;split
  ·exact ZR h l k
  ·exact h.rng _ _
theorem Xq(h:V0 c):∀ {a b},cL c a b=0→a=b
 | [],[],_=>rfl
 | [],_::_,e=>by cases e
 | _::_,[],e=>by cases e
 | a::l,b::k,e=>by
  unfold cL at e;rw[HA]at e;rw[h.eq0 e.1,Xq h e.2]
theorem UA(h:V0 c):∀a,cL c a a=0
 | []=>rfl
 | a::l=>by unfold cL;rw[HA];exact⟨h.refl _,UA h l⟩
theorem UP(h:V0 c):∀a b,cL c b a = -(cL c a b)
 | [],[]=>rfl
 | [],_::_=>rfl
 | _::_,[]=>rfl
 | a::l,b::k=>by
  unfold cL Ew;rw[h.anti a b,UP h l k];by_cases e:c a b=0
  ·simp[e]
  ·rw[if_neg (by omega),if_neg e]
theorem Pt(h:V0 c):∀ {a b d},cL c a b = -1→cL c b d = -1→cL c a d = -1
 | [],_,_::_,_,_=>rfl
 | [],[],[],e,_=>by cases e
 | [],_::_,[],_,k=>by cases k
 | _::_,[],_,e,_=>by cases e
 | _::_,_::_,[],_,k=>by cases k
 | a::l,b::m,d::n,e,k=>by
  unfold cL at *
  rw[TE] at *
  rcases e with e|⟨e,e'⟩ <;> rcases k with k|⟨k,k'⟩
  ·exact .inl (h.trans e k)
  ·rw[←h.eq0 k];exact .inl e
  ·rw[h.eq0 e];exact .inl k
  ·rw[h.eq0 e];exact .inr ⟨k,Pt h e' k'⟩
theorem V0.list(h:V0 c):V0 (cL c):=⟨ZR h,Xq h,UA h,UP h,Pt h⟩
theorem V0.lt_iff(h:V0 c){a b:α}:Go.Proofs.ltOf c a b=true↔c a b = -1:=by
 unfold Go.Proofs.ltOf;rw[decide_eq_true_iff];rcases h.rng a b with e|e|e <;> rw[e] <;> simp
theorem V0.swo(h:V0 c):Go.Sort.SWO (Go.Proofs.ltOf c) where
 irrefl x:=by unfold Go.Proofs.ltOf;rw[h.refl];rfl
 trans x y z e k:=by rw[h.lt_iff] at *;exact h.trans e k
 ntrans x y z e k:=by
  cases q:Go.Proofs.ltOf c x z with
  | false=>rfl
  | true=>
   rw[h.lt_iff]at q;rcases h.rng x y with a|a|a
   ·rw[h.lt_iff.2 a]at e;cases e
   ·have:=h.eq0 a;subst this;rw[h.lt_iff.2 q]at k;cases k
   ·have:c y x = -1:=by rw[h.anti x y,a]
    rw[h.lt_iff.2 (h.trans this q)]at k;cases k
end
attribute [local irreducible] Calls
class PG(P:Program)(Γ:C8)(f:Nat)(args:List Value)(v:outParam Value):Prop where
 h:∀S w,Wd Γ S w→Calls P f args.toArray w fun e w'=>e=.returned v∧Wd Γ S w'
section
variable {P:Program}{n:Nat}{ops:List Oper}{opa:Array Oper}{Γ:C8}{S K:List B2}{Q:Fr→World→Prop}{QQ:Exit→Fr→World→Prop}{ρ:Fr}{w:World}{rest:List Oper}{wr tc stab:List (List Nat)}{i:Nat}{M:Nat→Fr→List B2}
variable {d:Option Tmp}{ty:TypeId}{pos:String}{es:Array Edge}{v:Value}{f:Nat}{args:List Operand}{tys:Array TypeId}{vs:List Value}{j dj:Nat}{want c:Bool}{g:Option (Nat×Bool)}
theorem XB[C7 P f](hp:PG P Γ f vs v)(ha:EvL ρ args vs)(hw:Wd Γ S w):Step P ⟨d,.call { callee:=.value (.func f),args:=args.toArray,argTypes:=tys },ty,pos,es,g⟩ ρ w fun u w'=>u=v∧Wd Γ S w':=
 An ha.eqA ((hp.h S w hw).mono fun _ _ ⟨h1,h2⟩=>⟨v,h1,rfl,h2⟩)
theorem Zx[C7 P f](h:∀w',Wd Γ S w'→L P n opa QQ rest (D2 ρ d v) w')(hw:Wd Γ S w:=by exact hw)(ha:EvL ρ args vs:=by exact v7)(hd:G8 n d=true:=by exact rfl)(hp:PG P Γ f vs v:=by infer_instance) :
  L P n opa QQ (⟨d,.call { callee:=.value (.func f),args:=args.toArray,argTypes:=tys },ty,pos,es,none⟩::rest) ρ w:=
 F0 rfl hd ((XB hp ha hw).mono fun _ w' ⟨h1,h2⟩=>by subst h1;exact h w' h2)
theorem Ut[C7 P f](h:Qw P n ops Γ S Q rest (D2 ρ d v))(ha:EvL ρ args vs:=by exact v7)(hp:PG P Γ f vs v:=by infer_instance) :
  Qw P n ops Γ S Q (⟨d,.call { callee:=.value (.func f),args:=args.toArray,argTypes:=tys },ty,pos,es,none⟩::rest) ρ:=
 fo rfl rfl (fun _ _ hw=>XB hp ha hw) h
theorem Hr[C7 P f](h:Qw P n ops Γ S Q rest (D2 ρ d (gv c v)))(hj:(ops[j]?).bind (·.dst)=some dj:=by exact rfl)(hc:G0 (ρ dj) want c:=by exact IN)(ha:c=true→EvL ρ args vs:=by intro hc;exact Ii)(hp:PG P Γ f vs v:=by infer_instance) :
  Qw P n ops Γ S Q (⟨d,.call { callee:=.value (.func f),args:=args.toArray,argTypes:=tys },ty,pos,es,some (j,want)⟩::rest) ρ:=
 bB rfl hj hc rfl (fun ht _ _ hw=>XB hp (ha ht) hw) h
theorem mPg[C7 P f](h:MSw (mV P n ops Γ K wr tc stab) Q (i+1) rest ⟨D2 ρ d v,M⟩)(hw0:wr.getD i []=[]:=by exact rfl)(ho:Dj tc stab i d=true:=by exact rfl)(ha:∀g,EvL (E7 stab.flatten g ρ) args vs:=by intro g;exact v7)(hp:PG P Γ f vs v:=by infer_instance) :
  MSw (mV P n ops Γ K wr tc stab) Q i (⟨d,.call { callee:=.value (.func f),args:=args.toArray,argTypes:=tys },ty,pos,es,none⟩::rest) ⟨ρ,M⟩:=
 mC (fun _ _ g hw=>XB hp (ha g) hw) hw0 rfl ho h
end
theorem Wd.freeze{Γ:C8}{S:List B2}{w:World}{v:Value}{e sz:Nat}{rows:List (List Value)}(h:Wd Γ (.own v e sz rows::S) w):∃Γ',Γ.le Γ'∧D9 Γ' v sz rows∧Wd Γ' S w:=by
 obtain⟨bss,h1,h2,h3⟩:=h.own;cases bss with
 | nil=>exact h1.elim
 | cons bs bss=>
  obtain⟨hr,h1⟩:=h1;unfold B2.own at hr;obtain⟨e0,a,n,c,e1,e2,e3,e4,e5⟩:=hr;rcases e5 with⟨e5,e6⟩|⟨g,cur,g1,g2,g3,g4,g5⟩
  ·subst e6;refine⟨Γ,C8.le.refl _,by unfold D9;exact⟨e0,a,n,c,e1,e2,e3,e4,fun hl=>by omega⟩,h.os,h.tape,h.out,h.dr,h.imm,bss,h1,by simpa using h2,fun b hb=>h3 b (by simpa using hb)⟩
  ·subst g2;have hg:=h3 g (by simp)
   have hnd:g∉bss.flatten∧bss.flatten.Nodup:=by simpa using h2
   have hle:∀b o,Γ.imm b=some o→(fun b=>if b=g then some (Obj.cells cur e (0,0)) else Γ.imm b) b=some o:=fun b o hb=>by
    show (if b=g then _ else _)=_
    rw[if_neg (fun hh=>by subst hh;rw[hg.2]at hb;cases hb)];exact hb
   refine⟨{ Γ with imm:=fun b=>if b=g then some (.cells cur e (0,0)) else Γ.imm b },⟨hle,rfl,rfl,rfl,rfl⟩,?_,h.os,h.tape,h.out,h.dr,fun b o hb=>?_,bss,Holds.loc hle S bss (fun _ _=>rfl) h1,hnd.2,fun b hb=>⟨(h3 b (by simp[hb])).1,?_⟩⟩
   ·unfold D9;refine⟨e0,a,n,c,e1,e2,e3,e4,fun _=>⟨g,0,cur,e,(0,0),g1,if_pos rfl,fun j u hu=>?_⟩⟩
    rw[←g5]at hu;rw[List.getElem?_take]at hu;split at hu
    ·rw[Nat.zero_add];simpa using hu
    ·cases hu
   ·have hb:(if b=g then some (Obj.cells cur e (0,0)) else Γ.imm b)=some o:=hb
    by_cases hbg:b=g
    ·subst hbg;rw[if_pos rfl]at hb;cases hb
     exact g3
    ·rw[if_neg hbg]at hb;exact h.imm b o hb
   ·show (if b=g then _ else _)=none
    rw[if_neg (fun hh=>by subst hh;exact hnd.1 hb)]
    exact(h3 b (by simp[hb])).2
theorem Ob{P:Program}{n:Nat}{c:Code}{Q:Exit→Fr→World→Prop}{ρ:Fr}{w:World}{l:List (Nat×Value)}(h:Has ρ l)(k:∀ρ',Has ρ' l→W P n c Q ρ' w):W P n c Q ρ w:=k ρ h
theorem BW{P:Program}{n:Nat}{c1 c2:Code}{Q:Exit→Fr→World→Prop}{ρ:Fr}{w:World}(I:Fr→World→Prop)(h1:W P n c1 (YM I Q) ρ w)(h2:∀ρ w,I ρ w→W P n c2 Q ρ w):W P n (.seq c1 c2) Q ρ w:=
 Br (h1.mono fun e ρ w h=>by cases e <;> first|exact h2 _ _ h|exact h)
section
variable {P:Program}{n:Nat}{ops:List Oper}{Γ:C8}{K:List B2}{Q:Fr→World→Prop}{ρ:Fr}{rest:List Oper}{wr tc stab:List (List Nat)}{i:Nat}{M:Nat→Fr→List B2}
variable {T ty:TypeId}{pos:String}{es:Array Edge}{x y:Operand}
theorem Yv{c c2 dx dy dd E by' sz:Nat}{zs:List Value}{rows rows2:List (List Value)}[TL P T E sz by' zs](h:MSw (mV P n ops Γ K wr tc stab) Q (i+1) rest ⟨D2 ρ (some dd) undef,H5 M c fun g=>[.own (g dd) E sz (rows++rows2)]⟩)
  (h1:∀u∈rows2.flatten,u.oneCell'=true) (ht:tc.getD i []=[c,c2]:=by exact rfl) (hM:M c=(fun g=>[.own (g dx) E sz rows]):=by exact rfl) (hM2:M c2=(fun g=>[.own (g dy) E sz rows2]):=by exact rfl) (hcc:c2≠c:=by decide) (hdd:dy≠dd:=by decide)
  (hs:(stab.getD c []).contains dd=true:=by exact rfl) (hsx:(stab.getD c []).contains dx=true:=by exact rfl) (hsy:(stab.getD c2 []).contains dy=true:=by exact rfl) (hfx:stab.flatten.contains dx=true:=by exact rfl) (hfy:stab.flatten.contains dy=true:=by exact rfl) (hfr:T8 stab (some dd)=true:=by exact rfl) (hw0:wr.getD i []=[c]:=by exact rfl)
  (hb:(rows.length+rows2.length)*by'≤140737488355328:=by omega) (h63:rows.length+rows2.length≤9223372036854775807:=by omega) :
  MSw (mV P n ops Γ K wr tc stab) Q i (⟨some dd,.call { callee:=.builtin .append,args:=#[.tmp dx,.tmp dy],argTypes:=#[T,T] },ty,pos,es,none⟩::rest) ⟨ρ,M⟩:=by
 refine mM (v:=undef) _ (fun Y w g hw=>?_) h hw0 rfl
 rw[EY ht,hM,hM2]at hw;have h2:E7 (stab.getD c []) g D4 dx=g dx:=J7 (by simpa using hsx)
 have h2':E7 (stab.getD c2 []) g D4 dy=g dy:=J7 (by simpa using hsy)
 simp only[h2,h2']at hw
 have hi1:(K++(([.own (g dx) E sz rows]++[.own (g dy) E sz rows2])++Y))[K.length]? = some (.own (g dx) E sz rows):=by
  rw[List.getElem?_append_right (Nat.le_refl _)];simp
 have hj1:(K++(([.own (g dx) E sz rows]++[.own (g dy) E sz rows2])++Y))[K.length+1]? = some (.own (g dy) E sz rows2):=by
  rw[List.getElem?_append_right (by omega)];simp
 obtain⟨a,m1,c1,e1,e2,e3,e4⟩:=hw.own_shape hi1
 obtain⟨a2,m2,k2,f1,f2,f3,f4⟩:=hw.own_shape hj1
 have hx:ev (E7 stab.flatten g ρ) (.tmp dx)=.slice a m1 c1:=by
  show E7 stab.flatten g ρ dx=_
  rw[J7 (by simpa using hfx)];exact e1
 have hy:ev (E7 stab.flatten g ρ) (.tmp dy)=.slice a2 m2 k2:=by
  show E7 stab.flatten g ρ dy=_
  rw[J7 (by simpa using hfy)];exact f1
 have hr:Rd w a2 sz rows2:=by
  have hj2:=hj1
  rw[f1]at hj2;exact hw.own_rd (i:=K.length+1) (by rw[hj1,f1])
 refine Cb (i:=K.length) (rows:=rows) hw hx hy (by rw[hi1,e1]) hr f2 h1 (by rw[e2,f2];exact hb) (by rw[e2,f2];exact h63) fun v' w' hw'=>⟨?_,fun hh=>by rw[hfr]at hh;cases hh⟩
 rw[EY ht,B0,A0 hcc,hM2];have h3:E7 (stab.getD c []) (D2 g (some dd) v') D4 dd=v':=by
  rw[J7 (by simpa using hs)];exact upd_same _ _ _
 have h4:E7 (stab.getD c2 []) (D2 g (some dd) v') D4 dy=g dy:=by
  rw[J7 (by simpa using hsy)];exact upd_ne _ _ hdd
 simp only[h3,h4]
 rw[List.set_append_right _ _ (Nat.le_refl _),Nat.sub_self]at hw';exact hw'
def B2.pure(p:Prop):B2 where
 holds _ bs _:=bs=[]∧p
 loc _ _ _ _ _ _ _ h:=h
theorem Wd.pureIn{p:Prop}{S:List B2}{w:World}(hp:p)(hw:Wd Γ S w):Wd Γ (B2.pure p::S) w:=by
 obtain⟨bss,h1,h2,h3⟩:=hw.own;exact⟨hw.os,hw.tape,hw.out,hw.dr,hw.imm,[]::bss,⟨⟨rfl,hp⟩,h1⟩,by simpa using h2,by simpa using h3⟩
theorem Wd.pureOut{p:Prop}{S:List B2}{w:World}{i:Nat}(hw:Wd Γ S w)(hi:S[i]? = some (B2.pure p)):p:=by
 obtain⟨bss,h1,h2,h3⟩:=hw.own;obtain⟨bs,_,hr⟩:=Holds.get S bss i _ h1 hi
 exact hr.2
theorem fD{c2 dd:Nat}{d:Option Tmp}{v0:Value}(h:MSw (mV P n ops Γ K wr tc stab) Q (i+1) rest ⟨D2 ρ d v0,M⟩)
  (ht:tc.getD i []=[c2]:=by exact rfl) (hM:M c2=(fun g=>[B2.pure (g dd=v0)]):=by exact rfl) (hs:(stab.getD c2 []).contains dd=true:=by exact rfl) (hf:stab.flatten.contains dd=true:=by exact rfl)
  (hw0:wr.getD i []=[]:=by exact rfl) (ho:Dj tc stab i d=true:=by exact rfl):MSw (mV P n ops Γ K wr tc stab) Q i (⟨d,.move (.tmp dd),ty,pos,es,none⟩::rest) ⟨ρ,M⟩:=by
 refine mY (v:=v0) h hw0 rfl ho (fun Y w g hw=>?_)
 rw[O2 ht,hM]at hw;have h2:E7 (stab.getD c2 []) g D4 dd=g dd:=J7 (by simpa using hs)
 have h3:=Wd.pureOut (p:=E7 (stab.getD c2 []) g D4 dd=v0) hw (i:=K.length) (by rw[List.getElem?_append_right (Nat.le_refl _)];simp)
 rw[h2]at h3;refine GK ?_
 show E7 stab.flatten g ρ dd=_
 rw[J7 (by simpa using hf)];exact h3
end
section
variable {P:Program}{n:Nat}{ops:List Oper}{Γ:C8}{K X:List B2}{wr tc stab:List (List Nat)}{s0:List Nat}{Q:Fr→World→Prop}{i:Nat}{rest:List Oper}{ρ:Fr}{w:World}{M:Nat→Fr→List B2}{v:Value}{T T':Type}
variable {ty:TypeId}{pos:String}{es:Array Edge}
def M2(a b:Fr→List B2):Nat→Fr→List B2:=fun x=>match x with|0=>a|_=>b
theorem eH{id:Nat}{l:List Oper}{QQ:Exit→Fr→World→Prop}(K X:List B2)(s0:List Nat)(dd:Nat)(v0:Value)(wr tc:List (List Nat))(hw:Wd Γ (K++X) w)
  (h:MSw (mV P n l Γ K wr tc [s0,[dd]]) (fun ρ w=>QQ .normal ρ w) 0 l ⟨ρ,M2 (P5 (T:=Unit) (fun _ _=>True) (fun _=>X)) (fun g=>[B2.pure (g dd=v0)])⟩) (he:ρ dd=v0:=by exact rfl)
  (hm:P.follows .mixedOrders=true:=by kernel_rfl) (hk:R3 n l wr tc [s0,[dd]]=true:=by kernel_rfl):W P n (.region id l.toArray true) QQ ρ w:=
 Tc K _ wr tc [s0,[dd]] true hm hk (by
  show Wd Γ (K++(P5 (T:=Unit) (fun _ _=>True) (fun _=>X) (E7 s0 ρ D4)++([B2.pure (E7 [dd] ρ D4 dd=v0)]++[]))) w
  have h0:E7 [dd] ρ D4 dd=v0:=by rw[J7 (by simp)];exact he
  have h1:Wd Γ (X++K) w:=hw.perm List.perm_append_comm
  have h2:=Wd.closeEx (α:={t:Unit // True}) (X:=fun _=>X) ⟨(),trivial⟩ h1
  have h3:=Wd.pureIn h0 h2
  exact h3.perm (by
   show (B2.pure _::(B2.ex _::K)).Perm (K++([B2.ex _]++[B2.pure _]))
   have:(K++([B2.ex (α:={t:Unit // True}) fun _=>X]++[B2.pure (E7 [dd] ρ D4 dd=v0)])).Perm (([B2.ex (α:={t:Unit // True}) fun _=>X]++[B2.pure (E7 [dd] ρ D4 dd=v0)])++K):=List.perm_append_comm
   exact((List.Perm.swap _ _ _).trans this.symm))) h
theorem NA{φ:T→Fr→Prop}{R:T→List B2}{o:Oper}(φ':T'→Fr→Prop)(R':T'→List B2)
  (hs:∀t g w Y,φ t (E7 (stab.getD 0 []) g D4)→Wd Γ (R t++(K++Y)) w→Step P o (E7 stab.flatten g ρ) w fun u w'=>∃t',φ' t' (E7 (stab.getD 0 []) (D2 g o.dst u) D4)∧(T8 stab o.dst=false→u=v)∧Wd Γ (R' t'++(K++Y)) w')
  (h:MSw (mV P n ops Γ K wr tc stab) Q (i+1) rest ⟨D2 ρ o.dst v,H5 M 0 (P5 φ' R')⟩) (hM:M 0=P5 φ R:=by first|exact B0|exact rfl) (hw0:wr.getD i []=[0]:=by exact rfl) (ht:tc.getD i []=[0]:=by exact rfl) (hg:o.guard=none:=by exact rfl) :
  MSw (mV P n ops Γ K wr tc stab) Q i (o::rest) ⟨ρ,M⟩:=by
 refine mM _ (fun Y w g hw=>?_) h hw0 hg
 rw[O2 ht,hM]at hw;obtain⟨⟨t,ht'⟩,W1⟩:=(Wd.mid hw).openEx
 refine(hs t g w Y ht' W1).mono ?_
 rintro u w' ⟨t',h1,h2,h3⟩
 refine⟨?_,h2⟩
 rw[O2 ht,B0];exact Wd.unmid (Wd.closeEx (X:=fun p:{t:T' // φ' t (E7 (stab.getD 0 []) (D2 g o.dst u) D4)}=>R' p.1) ⟨t',h1⟩ h3)
theorem fX{φ:T→Fr→Prop}{R:T→List B2}{dx dd:Nat}{v0:Value}(φ':T→Fr→Prop)(hφ:∀t g,φ t (E7 (stab.getD 0 []) g D4)→φ' t (E7 (stab.getD 1 []) (D2 g (some dd) (g dx)) D4))
  (h:MSw (mV P n ops Γ K wr tc stab) Q (i+1) rest ⟨D2 ρ (some dd) undef,H5 (H5 M 0 fun _=>[]) 1 (P5 φ' R)⟩) (hM:M 0=P5 φ R:=by first|exact B0|exact rfl) (hM2:M 1=(fun g=>[B2.pure (g dd=v0)]):=by exact rfl)
  (ht:tc.getD i []=[0,1]:=by exact rfl) (hfx:stab.flatten.contains dx=true:=by exact rfl) (hfr:T8 stab (some dd)=true:=by exact rfl) (hw0:wr.getD i []=[0,1]:=by exact rfl) :
  MSw (mV P n ops Γ K wr tc stab) Q i (⟨some dd,.assign (.tmp dx),ty,pos,es,none⟩::rest) ⟨ρ,M⟩:=by
 have hn:Mt.nxt (mV P n ops Γ K wr tc stab) i ⟨ρ,M⟩ ⟨undef,H5 (fun _ _=>[]) 1 (P5 φ' R)⟩=H5 (H5 M 0 fun _=>[]) 1 (P5 φ' R):=by
  funext y;simp only[Mt.nxt,V4.w,hw0,H5]
  by_cases h0:y=0
  ·subst h0;rfl
  ·by_cases h1:y=1
   ·subst h1;rfl
   ·simp[h0,h1]
 refine⟨⟨undef,H5 (fun _ _=>[]) 1 (P5 φ' R)⟩,⟨fun Γ' Y w g hr hw=>?_⟩,?_⟩
 ·have hΓ:Γ'=Γ:=hr
  subst hΓ;rw[hn];refine⟨fun _=>?_,fun hf=>?_⟩
  ·have hw':Wd Γ' (K++(E8 tc stab i M g++Y)) w:=hw
   unfold E8 at hw';rw[ht]at hw';simp only[List.flatMap_cons,List.flatMap_nil,hM,hM2,List.append_nil]at hw'
   have hx:ev (E7 stab.flatten g ρ) (.tmp dx)=g dx:=by
    show E7 stab.flatten g ρ dx=_
    rw[J7 (by simpa using hfx)]
   refine(HQ (P:=P) (w:=w) hx).step ⟨Γ',rfl,?_,fun hh=>?_⟩
   ·show Wd Γ' (K++(E8 tc stab i _ _++Y)) w
    unfold E8;rw[ht];show Wd Γ' (K++(([]++(P5 φ' R (E7 (stab.getD 1 []) (D2 g (some dd) (g dx)) D4)++[]))++Y)) w
    have h4:=hw'.perm (S':=B2.ex (α:={t:T // φ t (E7 (stab.getD 0 []) g D4)}) (fun p=>R p.1)::(B2.pure (E7 (stab.getD 1 []) g D4 dd=v0)::(K++Y))) (by
     show (K++((([B2.ex (α:={t:T // φ t (E7 (stab.getD 0 []) g D4)}) (fun p=>R p.1)])++[B2.pure (E7 (stab.getD 1 []) g D4 dd=v0)])++Y)).Perm _
     rw[←List.append_assoc];exact(List.perm_append_comm (l₁:=K) (l₂:=[B2.ex (α:={t:T // φ t (E7 (stab.getD 0 []) g D4)}) (fun p=>R p.1)]++[B2.pure (E7 (stab.getD 1 []) g D4 dd=v0)])).append_right Y)
    obtain⟨⟨t,ht'⟩,h5⟩:=h4.openEx;have h6:Wd Γ' (R t++(K++Y)) w:=by
     have h7:=h5.perm (S':=B2.pure (E7 (stab.getD 1 []) g D4 dd=v0)::(R t++(K++Y))) List.perm_middle
     exact h7.drop
    exact Wd.unmid (Wd.closeEx (X:=fun p:{t:T // φ' t (E7 (stab.getD 1 []) (D2 g (some dd) (g dx)) D4)}=>R p.1) ⟨t,hφ t g ht'⟩ h6)
   ·have hh':T8 stab (some dd)=false:=hh
    rw[hfr]at hh';cases hh'
  ·rw[Q4 rfl]at hf;cases hf
 ·simp only[Mt.next,hn];exact h
theorem gJ{φ:T→Fr→Prop}{R:T→List B2}{dd:Nat}(h:∀t w g,φ t (E7 [dd] g D4)→Wd Γ (R t++K) w→Q (E7 (s0++[dd]) g ρ) w)(hM:M 0=(fun _=>[]):=by exact rfl)(hM2:M 1=P5 φ R:=by first|exact B0|exact rfl):MSw (mV P n ops Γ K wr tc [s0,[dd]]) Q i [] ⟨ρ,M⟩:=
 S5 fun w g hw=>by
  have e:((List.range [s0,[dd]].length).flatMap fun x=>M x (E7 ([s0,[dd]].getD x []) g D4))=P5 φ R (E7 [dd] g D4):=by
   show M 0 _++(M 1 _++[])=_
   rw[hM,hM2,List.append_nil];rfl
  rw[e]at hw;have e0:([s0,[dd]].flatten:List Nat)=s0++[dd]:=by simp
  rw[e0];obtain⟨⟨t,ht⟩,W1⟩:=(Wd.mid (Y:=[]) hw).openEx
  exact h t w g ht (by simpa using W1)
theorem iM{f t:Nat}{d:Option Tmp}{args:List Operand}{tys:Array TypeId}{vs:List Value}[C7 P f](h:MSw (mV P n ops Γ K wr tc stab) Q (i+1) rest ⟨D2 ρ d v,M⟩)(ht:∀g,E7 stab.flatten g ρ t=.func (.func f) #[] #[]:=by intro g;exact rfl)(hw0:wr.getD i []=[]:=by exact rfl)(ho:Dj tc stab i d=true:=by exact rfl)(ha:∀g,EvL (E7 stab.flatten g ρ) args vs:=by intro g;exact v7)(hp:PG P Γ f vs v:=by infer_instance) :
  MSw (mV P n ops Γ K wr tc stab) Q i (⟨d,.call { callee:=.value (.tmp t),args:=args.toArray,argTypes:=tys },ty,pos,es,none⟩::rest) ⟨ρ,M⟩:=
 mC (fun Y w g hw=>JR (ht g) (ha g).eqA (by
  have h1:(#[]++vs.toArray++#[]:Array Value)=vs.toArray:=by simp
  rw[h1];exact(hp.h _ w hw).mono fun _ _ ⟨h1,h2⟩=>⟨v,h1,rfl,h2⟩)) hw0 rfl ho h
theorem D9.imm{Γ Γ':C8}{v:Value}{sz:Nat}{rows:List (List Value)}(h:D9 Γ v sz rows)(hi:∀b o,Γ.imm b=some o→Γ'.imm b=some o):D9 Γ' v sz rows:=by
 unfold D9 at *
 obtain⟨h0,a,n,c,h1,h2,h3,h4,h5⟩:=h;refine⟨h0,a,n,c,h1,h2,h3,h4,fun hl=>?_⟩
 obtain⟨g,o,cur,e,fr,k1,k2,k3⟩:=h5 hl
 exact⟨g,o,cur,e,fr,k1,hi _ _ k2,k3⟩
end
theorem Xp{α β:Type}{c:α→α→Int}(h:V0 c)(f:β→α):Go.Sort.SWO (Go.Proofs.ltOf fun a b=>c (f a) (f b)):=
 ⟨fun x=>h.swo.irrefl (f x),fun x y z=>h.swo.trans (f x) (f y) (f z),fun x y z=>h.swo.ntrans (f x) (f y) (f z)⟩
end Mk
end
section
open Go
namespace Mk
def Ends(K:Value→World→Prop)(Q:List PanicEntry→World→Prop):Ending→World→Prop
 | .returned v,w=>K v w
 | .panicked ch,w=>Q ch w
 | .outgrown,_=>False
section
variable {P:Program}{n:Nat}{opa:Array Oper}{QQ:Exit→Fr→World→Prop}{ρ:Fr}{w:World}{rest:List Oper}
variable {d:Option Tmp}{T ty:TypeId}{pos:String}{es:Array Edge}{x:Operand}
theorem Ends.mono{K K':Value→World→Prop}{Q Q':List PanicEntry→World→Prop}{e:Ending}{w:World}(h:Ends K Q e w)(h1:∀v w,K v w→K' v w)(h2:∀ch w,Q ch w→Q' ch w):Ends K' Q' e w:=by
 cases e with
 | returned v=>exact h1 _ _ h
 | panicked ch=>exact h2 _ _ h
 | outgrown=>exact h
attribute [local semireducible] L W Step
theorem K4{f:Nat}{args:List Operand}{tys:Array TypeId}{vs:List Value}[C7 P f](hc:Calls P f vs.toArray w (Ends (fun v w'=>L P n opa QQ rest (D2 ρ d v) w') (fun ch w'=>QQ (.panic ch) ρ w')))(ha:EvL ρ args vs:=by exact v7)(hd:G8 n d=true:=by exact rfl) :
  L P n opa QQ (⟨d,.call { callee:=.value (.func f),args:=args.toArray,argTypes:=tys },ty,pos,es,none⟩::rest) ρ w:=fun a hda hs hf=>
 wpList_plain rfl fun K hK=>by
  subst hf;have hr:(execOp (ev (E0 a)) ⟨d,.call { callee:=.value (.func f),args:=args.toArray,argTypes:=tys },ty,pos,es,none⟩).run P w=.ok (.enter f vs.toArray) w:=by
   simp only[execOp,resolve,ha.eqA,ev,Deferred.ofValue,Sem.run_bind,Sem.run_pure,Result.andThen_ok,invoke]
   simp[P9]
  unfold Oper.wp;rw[j7,hr,Oper.upon_enter];refine hc.mono fun e w' he=>?_
  cases e with
  | returned v=>exact hK _ _ (he _ (by rw[K6];exact hda) (by rw[size_put];exact hs) (Y3 a _ v (by rw[hs];exact K7 hd)))
  | panicked ch=>exact⟨hda,hs,he⟩
  | outgrown=>exact he.elim
def iK(Q:Exit→Fr→World→Prop):Exit→Fr→World→Prop
 | .goto _,_,_=>False
 | e,ρ,w=>Q e ρ w
theorem Te{l:Nat}(h:QQ .normal ρ w):W P n (.label l) QQ ρ w:=fun a hd hs hf=>wp_label ⟨hd,hs,hf ▸ h⟩
theorem OT{c:Code}(h:W P n c (iK QQ) ρ w):W P n (.scope c) QQ ρ w:=fun a hd hs hf=>wp_scope_straight (Code.wp_mono (fun e a w ⟨p,q,r⟩=>by cases e <;> first|exact⟨p,q,r⟩|exact r.elim) (h a hd hs hf))
theorem cx{t:TypeId}{v:Value}(hq:QQ (.panic [{ v:=.iface t v,recovered:=false }]) ρ w)(hx:ev ρ x=.iface t v:=by exact rfl):L P n opa QQ (⟨d,.panic x,ty,pos,es,none⟩::rest) ρ w:=fun a hda hs hf=>
 wpList_plain rfl fun K hK=>by
  subst hf;have hr:(execOp (ev (E0 a)) ⟨d,.panic x,ty,pos,es,none⟩).run P w=.halt (.panic (.iface t v)) w:=by
   simp only[execOp,hx]
   simp[Go.run_panic_iface,Sem.run_bind,Result.andThen]
  unfold Oper.wp;rw[j7,hr,Oper.upon_panic];exact⟨hda,hs,hq⟩
end
theorem put_defers(a:Act)(d:Option Tmp)(v:Value)(D:List Deferred):({ a with defers:=D }:Act).put d v = { a.put d v with defers:=D }:=by cases d <;> rfl
theorem CC{P:Program}{ops:Array Oper}{D:List Deferred}{Q Q':Exit→Act→World→Prop}(hQ:∀e a w,Q e a w→Q' e { a with defers:=a.defers++D } w):∀(l:List Oper) (a:Act) (w:World),wpList P ops Q l a w→wpList P ops Q' l { a with defers:=a.defers++D } w
 | [],a,w,h=>hQ _ _ _ h
 | o::l,a,w,h=>by
  have hL:LetsOut Q→LetsOut Q':=fun⟨a,w,h⟩=>⟨_,_,hQ _ _ _ h⟩
  have nx:∀d v w,wpList P ops Q l (a.put d v) w→wpList P ops Q' l (({ a with defers:=a.defers++D }:Act).put d v) w:=fun d v w h=>by
   have:=CC hQ l _ _ h
   rw[put_defers];rw[K6]at this;exact this
  have he:({ a with defers:=a.defers++D }:Act).eval=a.eval:=rfl
  unfold wpList at h ⊢
  show if Region.wanted o (yielded ops a.tmps) then _ else _
  by_cases hw:Region.wanted o (yielded ops a.tmps)
  ·rw[if_pos hw]at h ⊢
   rcases h with h|⟨h1,h2⟩
   ·refine .inl ?_
    unfold Oper.wp at h ⊢
    rw[he];generalize (execOp a.eval o).run P w=r at *
    cases r with
    | ok x w'=>
     cases x with
     | value v=>exact nx _ _ _ h
     | skip=>exact nx _ _ _ h
     | defer d=>
      have:=CC hQ l _ _ h
      rw[K6]at this;simp only[Oper.upon]
      rw[put_defers]at this ⊢
      exact this
     | enter f args=>
      refine Calls.mono h fun e w'' h=>?_
      cases e with
      | returned v=>exact nx _ _ _ h
      | panicked ch=>exact hQ _ _ _ h
      | outgrown=>exact hL h
     | row row args=>exact Rows.mono h fun v w'' h=>nx _ _ _ h
     | _=>exact h.elim
    | halt x w'=>
     cases x with
     | panic v=>exact hQ _ _ _ h
     | _=>exact h.elim
   ·exact .inr ⟨h1,hL h2⟩
  ·rw[if_neg hw]at h ⊢
   exact nx _ _ _ h
def WX(P:Program)(n:Nat)(c:Code)(Q:List Deferred→Exit→Fr→World→Prop)(D:List Deferred)(ρ:Fr)(w:World):Prop:=
 ∀a:Act,a.defers=D→a.tmps.size=n→E0 a=ρ→c.wp P (fun e a w=>a.tmps.size=n∧Q a.defers e (E0 a) w) a w
def LD(P:Program)(n:Nat)(ops:Array Oper)(Q:List Deferred→Exit→Fr→World→Prop)(l:List Oper)(D:List Deferred)(ρ:Fr)(w:World):Prop:=
 ∀a:Act,a.defers=D→a.tmps.size=n→E0 a=ρ→wpList P ops (fun e a w=>a.tmps.size=n∧Q a.defers e (E0 a) w) l a w
def eA(K:List Deferred→Fr→World→Prop)(Q:List Deferred→Exit→Fr→World→Prop):List Deferred→Exit→Fr→World→Prop
 | D,.normal,ρ,w=>K D ρ w
 | D,e,ρ,w=>Q D e ρ w
section
variable {P:Program}{n:Nat}{Q:List Deferred→Exit→Fr→World→Prop}{D:List Deferred}{ρ:Fr}{w:World}
attribute [local semireducible] L W Step
theorem HW{c:Code}(h:W P n c (Q []) ρ w):WX P n c Q [] ρ w:=fun a hd hs hf=>Code.wp_mono (fun e a w ⟨x,y,z⟩=>⟨y,by rw[x];exact z⟩) (h a hd hs hf)
theorem DK{x y:Code}(h:WX P n x (eA (fun D ρ w=>WX P n y Q D ρ w) Q) D ρ w):WX P n (.seq x y) Q D ρ w:=fun a hd hs hf=>
 wp_seq (Code.wp_mono (fun e a w ⟨q,r⟩=>by cases e <;> first|exact r a rfl q rfl|exact⟨q,r⟩) (h a hd hs hf))
theorem Zj(h:Q D .ret ρ w):WX P n .ret Q D ρ w:=fun a hd hs hf=>wp_ret ⟨hs,by rw[hd,hf];exact h⟩
theorem Gi{c:Operand}{x y:Code}{b:Bool}(hc:ev ρ c=.bool b)(ht:b=true→WX P n x Q D ρ w)(hf:b=false→WX P n y Q D ρ w):WX P n (.cond c x y) Q D ρ w:=fun a hd hs he=>
 wp_cond_split (t:=b) (by rw[j7,he];exact hc) (fun h=>ht h a hd hs he) (fun h=>hf h a hd hs he)
theorem FA{id:Nat}{l:List Oper}(h:L P n l.toArray (Q D) l ρ w):WX P n (.region id l.toArray false) Q D ρ w:=fun a hd hs hf=>wp_region_lit (by
 have:=CC (P:=P) (ops:=l.toArray) (D:=D) (Q:=lift n (Q D)) (Q':=fun e a w=>a.tmps.size=n∧Q a.defers e (E0 a) w) (fun e a w ⟨x,y,z⟩=>⟨y,by
  show Q (a.defers++D) e (E0 a) w
  rw[x];exact z⟩) l { a with defers:=[] } w (h { a with defers:=[] } rfl hs hf)
 have e:({ ({ a with defers:=[] }:Act) with defers:=([]:List Deferred)++D }:Act)=a:=by subst hd;rfl
 exact e ▸ this)
theorem KX{id:Nat}{l:List Oper}(h:LD P n l.toArray Q l D ρ w):WX P n (.region id l.toArray false) Q D ρ w:=fun a hd hs hf=>wp_region_lit (h a hd hs hf)
theorem Zd{ops:Array Oper}(h:Q D .normal ρ w):LD P n ops Q [] D ρ w:=fun a hd hs hf=>⟨hs,by rw[hd,hf];exact h⟩
theorem TV{ops:Array Oper}{o:Oper}{rest:List Oper}(h:Step P o ρ w fun v w'=>LD P n ops Q rest D (D2 ρ o.dst v) w')(hg:o.guard=none:=by exact rfl)(hd:G8 n o.dst=true:=by exact rfl):LD P n ops Q (o::rest) D ρ w:=fun a hda hs hf=>
 wpList_plain hg fun K hK=>by
  subst hf;refine Step.wp h fun v w' hv=>hK _ _ (hv _ ?_ ?_ ?_)
  ·rw[K6];exact hda
  ·rw[size_put];exact hs
  ·exact Y3 a _ v (by rw[hs];exact K7 hd)
theorem YN{ops:Array Oper}{o:Oper}{rest:List Oper}{dd:Deferred}(hr:(execOp (ev ρ) o).run P w=.ok (.defer dd) w)(h:LD P n ops Q rest (dd::D) (D2 ρ o.dst undef) w)(hg:o.guard=none:=by exact rfl)(hd:G8 n o.dst=true:=by exact rfl):LD P n ops Q (o::rest) D ρ w:=fun a hda hs hf=>
 wpList_plain hg fun K hK=>by
  subst hf;unfold Oper.wp;rw[j7,hr];refine hK _ _ (h _ ?_ ?_ ?_)
  ·rw[K6,hda]
  ·rw[size_put];exact hs
  ·exact Y3 ({ a with defers:=dd::a.defers }:Act) _ undef (by
    show ∀t,o.dst=some t→t<a.tmps.size
    rw[hs];exact K7 hd)
def fR(P:Program)(fn:Func)(R:Ending→World→Prop):List Deferred→Exit→Fr→World→Prop
 | D,.normal,ρ,w=>∀a:Act,E0 a=ρ→a.tmps.size=fn.ntmps→Leaves P fn a.tmps R D .returning w
 | D,.ret,ρ,w=>∀a:Act,E0 a=ρ→a.tmps.size=fn.ntmps→Leaves P fn a.tmps R D .returning w
 | D,.panic ch,ρ,w=>∀a:Act,E0 a=ρ→a.tmps.size=fn.ntmps→Leaves P fn a.tmps R D (.panicking ch) w
 | _,.outgrown,_,w=>R .outgrown w
 | _,_,_,_=>False
theorem IT{f:FuncId}{fn:Func}{c:Code}{args:Array Value}{R:Ending→World→Prop}(hf:P.funcs[f]? = some fn)(hb:fn.body=some c)
  (hn:Nat.ble args.size fn.ntmps=true) (h:WX P fn.ntmps c (fR P fn R) [] (d9 args) w):Calls P f args w R:=by
 have hle:args.size≤fn.ntmps:=Nat.le_of_ble_eq_true hn
 refine calls_of_wp_defers hf hb (Code.wp_mono ?_ (h _ rfl (by simp;omega) ?_))
 ·rintro e a w ⟨hs,hq⟩
  cases e with
  | normal=>exact hq a rfl hs
  | ret=>exact hq a rfl hs
  | panic ch=>exact hq a rfl hs
  | outgrown=>exact hq
  | exit id=>exact hq.elim
  | goto l=>exact hq.elim
 ·funext t
  simp only[E0,d9,Array.getD_eq_getD_getElem?,Array.getElem?_append]
  by_cases ht:t<args.size
  ·rw[if_pos ht]
  ·rw[if_neg ht,Array.getElem?_eq_none (by omega:args.size≤t)]
   simp only[Array.getElem?_replicate]
   split <;> rfl
end
def Gt:FrameMode→Value×FrameMode
 | .panicking ({ v,recovered:=false,goexit:=false }::older)=>(v,.panicking ({ v,recovered:=true }::older))
 | u=>(.nilIface,u)
theorem LM(c:Frame)(cs:List Frame):(recoverD (c::cs)=some ((Gt c.mode).1,{ c with mode:=(Gt c.mode).2 }::cs))∨(recoverD (c::cs)=none∧Gt c.mode=(.nilIface,c.mode)):=by
 obtain⟨fn,tmps,todo,defers,mode,kind,ro⟩:=c;cases mode with
 | run=>exact .inr ⟨rfl,rfl⟩
 | returning=>exact .inr ⟨rfl,rfl⟩
 | panicking ch=>
  match ch with
  | []=>exact .inr ⟨rfl,rfl⟩
  | ⟨v,true,g⟩::older=>exact .inr ⟨rfl,rfl⟩
  | ⟨v,false,true⟩::older=>exact .inr ⟨rfl,rfl⟩
  | ⟨v,false,false⟩::older=>exact .inl rfl
section
variable {P:Program}{n:Nat}{opa:Array Oper}{QQ:Exit→Fr→World→Prop}{ρ:Fr}{w:World}{rest:List Oper}
variable {d:Option Tmp}{T ty:TypeId}{pos:String}{es:Array Edge}{x:Operand}
attribute [local semireducible] L W Step
theorem KH{f:FuncId}{fn:Func}{cc:Code}{id d1 d2:Nat}{ty1 ty2:TypeId}{pos1 pos2:String}{es1 es2:Array Edge}{args:Array Value}{u:FrameMode}{R:Ending→FrameMode→World→Prop}(hf:P.funcs[f]? = some fn)
  (hb:fn.body=some (.seq (.region id #[⟨some d1,.call { callee:=.builtin .recover,args:=#[],argTypes:=#[] },ty1,pos1,es1,none⟩,⟨some d2,.assign (.tmp d1),ty2,pos2,es2,none⟩] false) cc))
  (hn:Nat.ble args.size fn.ntmps=true) (h1:Nat.ble (d1+1) fn.ntmps=true) (h2:Nat.ble (d2+1) fn.ntmps=true)
  (h:W P fn.ntmps cc (ea fn.results fun e w=>R e (Gt u).2 w) (upd (upd (d9 args) d1 (Gt u).1) d2 (Gt u).1) w):CallsD P f args u w R:=by
 have hle:args.size≤fn.ntmps:=Nat.le_of_ble_eq_true hn
 have h1:d1+1≤fn.ntmps:=Nat.le_of_ble_eq_true h1
 have h2:d2+1≤fn.ntmps:=Nat.le_of_ble_eq_true h2
 refine callsD_of_wpS hf hb fun c cs hu=>?_
 obtain⟨a,ha⟩:∃a:Act,a = { tmps:=args++Array.replicate (fn.ntmps-args.size) undef,defers:=[] }:=⟨_,rfl⟩
 have had:a.defers=[]:=by rw[ha]
 have has:a.tmps.size=fn.ntmps:=by rw[ha];simp;omega
 have hae:E0 a=d9 args:=by
  rw[ha];funext t
  simp only[E0,d9,Array.getD_eq_getD_getElem?,Array.getElem?_append]
  by_cases ht:t<args.size
  ·rw[if_pos ht]
  ·rw[if_neg ht,Array.getElem?_eq_none (by omega:args.size≤t)]
   simp only[Array.getElem?_replicate]
   split <;> rfl
 rw[←ha];have hcs:∀cs',(cs' = { c with mode:=(Gt u).2 }::cs)→cc.wpS P (bodyPostS P fn c cs R) ((a.put (some d1) (Gt u).1).put (some d2) (Gt u).1) cs' w:=by
  rintro cs' rfl
  refine wpS_of_wp (Code.wp_mono ?_ (h _ ?_ ?_ ?_))
  ·rintro e a' w' ⟨p,q,r⟩
   cases e with
   | normal=>obtain⟨v,hv,hR⟩:=r;exact⟨p,_,rfl,v,Q5 hv,hR⟩
   | ret=>obtain⟨v,hv,hR⟩:=r;exact⟨p,_,rfl,v,Q5 hv,hR⟩
   | panic ch=>exact⟨p,_,rfl,r⟩
   | outgrown=>exact⟨_,r⟩
   | exit id=>exact r.elim
   | goto l=>exact r.elim
  ·rw[K6,K6];exact had
  ·rw[size_put,size_put];exact has
  ·rw[Gx _ _ _ (by rw[size_put];omega),Gx _ _ _ (by omega),hae]
 refine wpS_seq (wpS_region ?_)
 show wpOpsS P _ _ [0,1] a (c::cs) w
 have e1:∀(o:Oper),o.guard=none→∀q,Region.wanted o q=true:=fun o ho q=>by unfold Region.wanted;rw[ho]
 unfold wpOpsS;simp only[List.getElem?_toArray,List.getElem?_cons_zero]
 rw[if_pos (e1 _ rfl _)];have hr:(execOp a.eval ⟨some d1,.call { callee:=.builtin .recover,args:=#[],argTypes:=#[] },ty1,pos1,es1,none⟩).run P w=.ok .recover w:=by
  rfl
 simp only[hr]
 have last:∀cs' a',a'=a.put (some d1) (Gt u).1→(cs' = { c with mode:=(Gt u).2 }::cs)→wpOpsS P #[⟨some d1,.call { callee:=.builtin .recover,args:=#[],argTypes:=#[] },ty1,pos1,es1,none⟩,⟨some d2,.assign (.tmp d1),ty2,pos2,es2,none⟩] (Exit.thenS (cc.wpS P (bodyPostS P fn c cs R)) (bodyPostS P fn c cs R)) [1] a' cs' w:=by
  intro cs' a' ha' hcs';unfold wpOpsS;simp only[List.getElem?_toArray,List.getElem?_cons_succ,List.getElem?_cons_zero]
  rw[if_pos (e1 _ rfl _)];have hv:(execOp a'.eval ⟨some d2,.assign (.tmp d1),ty2,pos2,es2,none⟩).run P w=.ok (.value (Gt u).1) w:=by
   have:a'.eval (.tmp d1)=(Gt u).1:=by
    rw[j7,ha',Gx _ _ _ (by omega)];exact upd_same _ _ _
   show (execOp a'.eval ⟨some d2,.assign (.tmp d1),ty2,pos2,es2,none⟩).run P w=_
   rw[←this];rfl
  simp only[hv,Oper.upon]
  unfold wpOpsS;rw[ha'];exact hcs _ hcs'
 rcases LM c cs with hq|⟨hq,hm⟩
 ·rw[hq];refine last _ _ ?_ ?_
  ·rw[hu]
  ·rw[hu]
 ·rw[hq];rw[hu]at hm;refine last _ _ ?_ ?_
  ·rw[hm]
  ·rw[hm];show _ = { c with mode:=u }::cs
   rw[←hu]
theorem MY{ops:Array Oper}{Q:List Deferred→Exit→Fr→World→Prop}{D:List Deferred}{t:Tmp}{f:Nat}{fst cap:Array Value}(h:LD P n ops Q rest (⟨.fn (.func f) cap,fst⟩::D) (D2 ρ d undef) w)(ht:ρ t=.func (.func f) fst cap:=by exact rfl)(hd:G8 n d=true:=by exact rfl) :
  LD P n ops Q (⟨d,.defer { callee:=.value (.tmp t),args:=#[],argTypes:=#[] },ty,pos,es,none⟩::rest) D ρ w:=
 YN (by
  have:ev ρ (.tmp t)=.func (.func f) fst cap:=ht
  simp[execOp,resolve,this,Deferred.ofValue,Sem.run_bind,Sem.run_pure,Result.andThen_ok]) h rfl hd
theorem Sd{U:TypeId}{g:Option (Nat×Bool)}{v:Value}{fs:Array Field}(hu:P.underlying U=some (.struct fs))(hx:ev ρ x=.iface U v):Yields P ⟨d,.typeAssert x T U true,ty,pos,es,g⟩ ρ w (.tuple #[v,.bool true]):=by
 unfold Yields;simp[execOp,hx,Instr.typeAssert,run_underlying hu,Sem.run_bind,Sem.run_pure,Result.andThen]
theorem cE{U:TypeId}{g:Option (Nat×Bool)}{T':TypeId}{v:Value}{ms:Array (String×TypeId)}(hu:P.underlying T=some (.interface ms))(hx:ev ρ x=.iface U v):Yields P ⟨d,.binOp .neq T x (.const .nilIface) T',ty,pos,es,g⟩ ρ w (.bool true):=by
 have h:∀d:Nat,(Op.equalIn (d+1) T (.iface U v) .nilIface).run P w=.ok false w:=fun d=>by simp[Op.equalIn,run_underlying hu]
 have hy:ev ρ (.const .nilIface)=.nilIface:=rfl
 unfold Yields;simp[execOp,go_sem,hx,hy,binOp,Op.equal,Op.maxDepth,h 9999]
theorem cO{g:Option (Nat×Bool)}{T':TypeId}{ms:Array (String×TypeId)}(hu:P.underlying T=some (.interface ms))(hx:ev ρ x=.nilIface):Yields P ⟨d,.binOp .neq T x (.const .nilIface) T',ty,pos,es,g⟩ ρ w (.bool false):=by
 have h:∀d:Nat,(Op.equalIn (d+1) T .nilIface .nilIface).run P w=.ok true w:=fun d=>by simp[Op.equalIn,run_underlying hu]
 have hy:ev ρ (.const .nilIface)=.nilIface:=rfl
 unfold Yields;simp[execOp,go_sem,hx,hy,binOp,Op.equal,Op.maxDepth,h 9999,eqGuard]
end
section
variable {P:Program}{n:Nat}{opa:Array Oper}{QQ:Exit→Fr→World→Prop}{ρ:Fr}{w:World}{rest:List Oper}{Γ:C8}{S:List B2}
variable {d:Option Tmp}{ty:TypeId}{pos:String}{es:Array Edge}{f j dj:Nat}{want c:Bool}{args:List Operand}{tys:Array TypeId}{vs:List Value}{v:Value}{t:Tmp}
attribute [local semireducible] gv
theorem VS[C7 P f](h:∀w',Wd Γ S w'→L P n opa QQ rest (D2 ρ d (gv c v)) w')(hw:Wd Γ S w:=by exact hw)(hj:(opa[j]?).bind (·.dst)=some dj:=by exact rfl)(hjn:G8 n (some dj)=true:=by exact rfl)(hc:G0 (ρ dj) want c:=by exact IN)(hd:G8 n d=true:=by exact rfl)(ha:c=true→EvL ρ args vs:=by intro hc;exact Ii)(hp:PG P Γ f vs v:=by infer_instance) :
  L P n opa QQ (⟨d,.call { callee:=.value (.func f),args:=args.toArray,argTypes:=tys },ty,pos,es,some (j,want)⟩::rest) ρ w:=
 hJ hj hjn hd hc (fun hct=>Zx (fun w' hw'=>by have:=h w' hw';rw[hct]at this;exact this) hw (ha hct) hd hp) (fun hcf=>by have:=h w hw;rw[hcf]at this;exact this)
theorem fu[C7 P f](hp:PC P f vs v)(ht:ρ t=.func (.func f) #[] #[])(ha:EvL ρ args vs):Step P ⟨d,.call { callee:=.value (.tmp t),args:=args.toArray,argTypes:=tys },ty,pos,es,none⟩ ρ w fun u w'=>u=v∧w'=w:=
 JR ht ha.eqA (by simpa using (hp.h w).mono fun e w' ⟨h1,h2⟩=>⟨v,h1,rfl,h2⟩)
theorem lPv[C7 P f](hp:PC P f vs v)(h:L P n opa QQ rest (D2 ρ d v) w)(ht:ρ t=.func (.func f) #[] #[]:=by exact rfl)(ha:EvL ρ args vs:=by exact v7)(hd:G8 n d=true:=by exact rfl) :
  L P n opa QQ (⟨d,.call { callee:=.value (.tmp t),args:=args.toArray,argTypes:=tys },ty,pos,es,none⟩::rest) ρ w:=
 F0 rfl hd ((fu hp ht ha).mono fun u w' ⟨h1,h2⟩=>by subst h1;subst h2;exact h)
theorem gO[C7 P f](hp:PC P f vs v)(h:L P n opa QQ rest (D2 ρ d (gv c v)) w)(ht:c=true→ρ t=.func (.func f) #[] #[]:=by intro hc;exact B8)(hj:(opa[j]?).bind (·.dst)=some dj:=by exact rfl)(hjn:G8 n (some dj)=true:=by exact rfl)(hc:G0 (ρ dj) want c:=by exact IN)(hd:G8 n d=true:=by exact rfl)(ha:c=true→EvL ρ args vs:=by intro hc;exact Ii) :
  L P n opa QQ (⟨d,.call { callee:=.value (.tmp t),args:=args.toArray,argTypes:=tys },ty,pos,es,some (j,want)⟩::rest) ρ w:=
 hJ hj hjn hd hc (fun hct=>lPv hp (by have:=h;rw[hct]at this;exact this) (ht hct) (ha hct) hd) (fun hcf=>by have:=h;rw[hcf]at this;exact this)
end
class df(P:Program)(K:TypeId):Prop where
 h:∃E,P.underlying K=some (.array 2 E)∧P.underlying E=some (.int .i64)∧Ha P E=true
theorem Ae{P:Program}{E:TypeId}(hs:Ha P E=true){cs:Array Value}{i:Nat}{v:Value}(hv:cs[i]? = some v)(w:World):(part E cs i).run P w=.ok v w:=by
 unfold part;rw[Sem.run_bind,BC hs];simp[Result.andThen,hv]
section
variable {P:Program}{K E:TypeId}{w:World}
theorem dC(hs:Ha P E=true):(Go.sizeOf E).run P w=.ok 1 w:=Uo hs
theorem QL(h:P.underlying E=some (.int .i64))(d:Nat)(a b:Int):(Op.equalIn (d+1) E (.int .i64 a) (.int .i64 b)).run P w=.ok (decide (a=b)) w:=by
 unfold Op.equalIn;rw[Sem.run_bind,run_underlying h];show (if IntKind.i64=IntKind.i64 then pure (a == b) else Go.stuck "==: kinds differ" : Sem Bool).run P w=_
 rw[if_pos rfl];by_cases e:a=b
 ·subst e;simp
 ·simp[e]
theorem aH{K E:TypeId}(hK:P.underlying K=some (.array 2 E))(hE:P.underlying E=some (.int .i64))(hs:Ha P E=true)(a b c d:Int) :
  (Op.equal K (.agg #[.int .i64 a,.int .i64 b]) (.agg #[.int .i64 c,.int .i64 d])).run P w=.ok (decide ((a,b)=(c,d))) w:=by
 show (Op.equalIn 10000 K _ _).run P w=_
 unfold Op.equalIn;rw[Sem.run_bind,run_underlying hK];simp only[Result.andThen]
 rw[Sem.run_bind,dC hs];simp only[Result.andThen]
 have p0:(part E #[.int .i64 a,.int .i64 b] 0).run P w=.ok (.int .i64 a) w:=Ae (P:=P) hs rfl w
 have p1:(part E #[.int .i64 a,.int .i64 b] 1).run P w=.ok (.int .i64 b) w:=Ae (P:=P) hs rfl w
 have q0:(part E #[.int .i64 c,.int .i64 d] 0).run P w=.ok (.int .i64 c) w:=Ae (P:=P) hs rfl w
 have q1:(part E #[.int .i64 c,.int .i64 d] 1).run P w=.ok (.int .i64 d) w:=Ae (P:=P) hs rfl w
 have e0:(Op.equalIn 9999 E (.int .i64 a) (.int .i64 c)).run P w=_:=QL (w:=w) hE 9998 a c
 have e1:(Op.equalIn 9999 E (.int .i64 b) (.int .i64 d)).run P w=_:=QL (w:=w) hE 9998 b d
 simp only[Std.Legacy.Range.forIn_eq_forIn_range',Std.Legacy.Range.size,List.range']
 simp only[List.forIn_cons,List.forIn_nil,Sem.run_bind,Sem.run_pure,Result.andThen,Nat.zero_mul,Nat.one_mul,Nat.mul_one,Nat.zero_add,p0,p1,q0,q1,e0]
 by_cases h1:a=c
 ·subst h1;by_cases h2:b=d
  ·subst h2;simp[Sem.run_bind,Sem.run_pure,Result.andThen,p1,e1]
  ·have e2:decide (b=d)=false:=decide_eq_false h2
   rw[e2]at e1;have e3:((a,b)=(a,d))=False:=by simp[h2]
   simp[Sem.run_bind,Sem.run_pure,Result.andThen,p1,q1,e1,h2]
 ·simp[h1,Sem.run_bind,Sem.run_pure,Result.andThen]
theorem Sk{K E:TypeId}(hK:P.underlying K=some (.array 2 E))(hE:P.underlying E=some (.int .i64))(hs:Ha P E=true)(empty:Bool)(a b:Int):(Instr.checkKey empty 10000 K (.agg #[.int .i64 a,.int .i64 b])).run P w=.ok () w:=by
 unfold Instr.checkKey;rw[Sem.run_bind,run_underlying hK];simp only[Result.andThen]
 have p0:(part E #[.int .i64 a,.int .i64 b] 0).run P w=.ok (.int .i64 a) w:=Ae (P:=P) hs rfl w
 have p1:(part E #[.int .i64 a,.int .i64 b] 1).run P w=.ok (.int .i64 b) w:=Ae (P:=P) hs rfl w
 have c0:(Instr.checkKey empty 9999 E (.int .i64 a)).run P w=_:=Hy (w:=w) hE empty a 9998
 have c1:(Instr.checkKey empty 9999 E (.int .i64 b)).run P w=_:=Hy (w:=w) hE empty b 9998
 simp[Std.Legacy.Range.forIn_eq_forIn_range',Std.Legacy.Range.size,List.range',Sem.run_bind,Sem.run_pure,Result.andThen,dC hs,p0,p1,c0,c1]
theorem Im{K E:TypeId}(hK:P.underlying K=some (.array 2 E))(hE:P.underlying E=some (.int .i64))(hs:Ha P E=true)(a:Int×Int):∀(es:List MapEntry) (ks:List (Int×Int)) (i:Nat),es.map (·.key)=ks.map (fun p=>Value.agg #[.int .i64 p.1,.int .i64 p.2]) →
  (Instr.findAsking K (.agg #[.int .i64 a.1,.int .i64 a.2]) es i).run P w=.ok ((ks.findIdx? (fun k=>decide (k=a))).bind fun j=>(es[j]?).map fun e=>(i+j,e.val)) w
 | [],[],i,_=>by simp[Instr.findAsking]
 | [],_::_,_,h0=>by simp at h0
 | _::_,[],_,h0=>by simp at h0
 | e::es,k::ks,i,h0=>by
  simp only[List.map_cons,List.cons.injEq]at h0
  unfold Instr.findAsking;rw[h0.1,Sem.run_bind,aH hK hE hs];by_cases hk:k=a
  ·subst hk;simp[Result.andThen,List.findIdx?_cons]
  ·have hk2:¬(a.1,a.2)=(k.1,k.2):=fun h=>hk (Prod.ext (by injection h with h1 h2;exact h1.symm) (by injection h with h1 h2;exact h2.symm))
   simp only[hk2,decide_false,Result.andThen,Bool.false_eq_true,if_false]
   rw[Im hK hE hs a es ks (i+1) h0.2];simp only[List.findIdx?_cons,hk,decide_false,Bool.false_eq_true,if_false]
   cases ks.findIdx? (fun k=>decide (k=a)) with
   | none=>rfl
   | some j=>simp[Nat.add_comm,Nat.add_left_comm]
instance bu[hT:df P K]:M6 P K (Int×Int) where
 key p:=.agg #[.int .i64 p.1,.int .i64 p.2]
 inj a b h:=by cases a;cases b;simpa using h
 dec:=inferInstance
 check empty a w:=by
  obtain⟨E,hK,hE,hs⟩:=hT.h;exact Sk hK hE hs empty a.1 a.2
 find a es ks w h:=by
  obtain⟨E,hK,hE,hs⟩:=hT.h;unfold Instr.findKey;rw[Sem.run_bind,run_underlying hK];match es,ks,h with
  | [],[],h=>simp[Instr.findNow,Result.andThen]
  | [],_::_,h=>simp at h
  | _::_,[],h=>simp at h
  | e::es,k::ks,h=>
   have hn:Instr.findNow (.array 2 E) (.agg #[.int .i64 a.1,.int .i64 a.2]) (e::es) 0=none:=by
    unfold Instr.findNow Instr.sameNow;rfl
   simp only[Result.andThen,hn]
   have:=Im (w:=w) hK hE hs a (e::es) (k::ks) 0 h
   simpa using this
 stays a w:=by
  unfold Instr.keyThatStays;have:Instr.sameBits 10000 (.agg #[.int .i64 a.1,.int .i64 a.2]) (.agg #[.int .i64 a.1,.int .i64 a.2])=true:=by
   unfold Instr.sameBits;simp[Instr.sameBits]
  rw[this];rfl
end
section
variable {P:Program}{ρ:Fr}{w:World}{d:Option Tmp}{T ty:TypeId}{pos:String}{es:Array Edge}{g:Option (Nat×Bool)}{x y:Operand}
theorem Pn{E n sz b o:Nat}{k:IntKind}{i:Int}[hT:fE P T n E sz](hx:ev ρ x=.pointer (some ⟨b,o,none⟩))(hy:ev ρ y=.int k i)(h0:0≤i)(h1:i<n) :
  Yields P ⟨d,.indexAddr T x y,ty,pos,es,g⟩ ρ w (.pointer (some ⟨b,o+i.toNat*sz,none⟩)):=by
 obtain⟨q,hq,hs⟩:∃q,P.info? E=some q∧q.size=sz:=by
  have:=hT.s
  cases hi:P.info? E with
  | none=>rw[hi]at this;simp at this
  | some q=>rw[hi]at this;exact⟨q,rfl,by simpa using this⟩
 have he:P.elem T=E:=by simp[Program.elem,hT.h]
 have hn:P.arrayLen T=n:=by simp[Program.arrayLen,hT.h]
 have hr:=run_indexAt_array (P:=P) w T ⟨b,o,none⟩ k i (by rw[he,hn];exact hT.h)
 rw[hn,if_pos ⟨h0,h1⟩,he]at hr;have hz:(Go.sizeOf E).run P w=.ok sz w:=by simp[Go.sizeOf,typeInfo,hq,hs]
 rw[hz,Result.andThen_ok,Addr.add_mid]at hr;unfold Yields;simp only[execOp,hx,hy,Sem.run_bind,hr,Result.andThen_ok]
 rfl
end
end Mk
end
section
open Go Mk
namespace Go.Proofs.YtlimglpjpcfpdaaGreat
instance:TS Tryz.prog 2:=⟨by kernel_rfl⟩
instance:NQ Tryz.prog 2 .i64:=⟨by kernel_rfl⟩
instance:TZ Tryz.prog 3 [.int .i64 0]:=⟨by kernel_rfl⟩
instance:WN Tryz.prog 3 (.int .i64 0):=⟨by kernel_rfl⟩
instance:TS Tryz.prog 3:=⟨by kernel_rfl⟩
instance:NQ Tryz.prog 3 .i64:=⟨by kernel_rfl⟩
instance:WN Tryz.prog 4 (.bool false):=⟨by kernel_rfl⟩
instance:TS Tryz.prog 4:=⟨by kernel_rfl⟩
instance:NQ Tryz.prog 5 .u8:=⟨by kernel_rfl⟩
instance:TS Tryz.prog 9:=⟨by kernel_rfl⟩
instance:GR Tryz.prog 9:=⟨by kernel_rfl⟩
instance:TS Tryz.prog 20:=⟨by kernel_rfl⟩
instance:TZ Tryz.prog 23 [.slice none 0 0]:=⟨by kernel_rfl⟩
instance:TS Tryz.prog 23:=⟨by kernel_rfl⟩
instance:TL Tryz.prog 23 9 1 16 [.string ⟨#[]⟩]:=⟨by kernel_rfl,by kernel_rfl,by kernel_rfl,by decide⟩
instance:TS Tryz.prog 24:=⟨by kernel_rfl⟩
instance:TL Tryz.prog 24 127 15 176 [.int .i64 0,.string ⟨#[]⟩,.slice none 0 0,.int .i64 0,.string ⟨#[]⟩,.int .i64 0,.int .i64 0,.string ⟨#[]⟩,.string ⟨#[]⟩,.int .i64 0,.int .i64 0,.string ⟨#[]⟩,.int .i64 0,.int .i64 0,.int .i64 0]:=⟨by kernel_rfl,by kernel_rfl,by kernel_rfl,by decide⟩
instance:TZ Tryz.prog 26 [.slice none 0 0,.slice none 0 0]:=⟨by kernel_rfl⟩
instance:TA Tryz.prog 26 2:=⟨by kernel_rfl⟩
instance:TB Tryz.prog 26 [(0,1),(1,1)] [.slice none 0 0,.slice none 0 0]:=⟨by kernel_rfl,by kernel_rfl⟩
instance:TF Tryz.prog 26 0 0:=⟨by kernel_rfl⟩
instance:TF Tryz.prog 26 1 1:=⟨by kernel_rfl⟩
instance:TZ Tryz.prog 44 [.int .i64 0,.int .i64 0]:=⟨by kernel_rfl⟩
instance:TA Tryz.prog 44 2:=⟨by kernel_rfl⟩
instance:TB Tryz.prog 44 [(0,1),(1,1)] [.int .i64 0,.int .i64 0]:=⟨by kernel_rfl,by kernel_rfl⟩
instance:TZ Tryz.prog 45 [.int .i64 0]:=⟨by kernel_rfl⟩
instance:TS Tryz.prog 45:=⟨by kernel_rfl⟩
instance:TS Tryz.prog 48:=⟨by kernel_rfl⟩
instance:TL Tryz.prog 48 52 1 24 [.slice none 0 0]:=⟨by kernel_rfl,by kernel_rfl,by kernel_rfl,by decide⟩
instance:TS Tryz.prog 52:=⟨by kernel_rfl⟩
instance:TL Tryz.prog 52 54 3 32 [.int .i64 0,.int .i64 0,.string ⟨#[]⟩]:=⟨by kernel_rfl,by kernel_rfl,by kernel_rfl,by decide⟩
instance:TZ Tryz.prog 54 [.int .i64 0,.int .i64 0,.string ⟨#[]⟩]:=⟨by kernel_rfl⟩
instance:WN Tryz.prog 54 (.agg #[.int .i64 0,.int .i64 0,.string ⟨#[]⟩]):=⟨by kernel_rfl⟩
instance:TA Tryz.prog 54 3:=⟨by kernel_rfl⟩
instance:iP Tryz.prog 54 [5,5,1]:=⟨by kernel_rfl,by kernel_rfl,by kernel_rfl⟩
instance:TB Tryz.prog 54 [(0,1),(1,1),(2,1)] [.int .i64 0,.int .i64 0,.string ⟨#[]⟩]:=⟨by kernel_rfl,by kernel_rfl⟩
instance:TF Tryz.prog 54 0 0:=⟨by kernel_rfl⟩
instance:TF Tryz.prog 54 1 1:=⟨by kernel_rfl⟩
instance:TF Tryz.prog 54 2 2:=⟨by kernel_rfl⟩
instance:TS Tryz.prog 58:=⟨by kernel_rfl⟩
instance:TL Tryz.prog 58 135 2 40 [.string ⟨#[]⟩,.slice none 0 0]:=⟨by kernel_rfl,by kernel_rfl,by kernel_rfl,by decide⟩
instance:WN Tryz.prog 62 (.slice none 0 0):=⟨by kernel_rfl⟩
instance:TS Tryz.prog 62:=⟨by kernel_rfl⟩
instance:TL Tryz.prog 62 3 1 8 [.int .i64 0]:=⟨by kernel_rfl,by kernel_rfl,by kernel_rfl,by decide⟩
instance:TS Tryz.prog 63:=⟨by kernel_rfl⟩
instance:TL Tryz.prog 63 72 4 32 [.int .i64 0,.int .i64 0,.int .i64 0,.int .i64 0]:=⟨by kernel_rfl,by kernel_rfl,by kernel_rfl,by decide⟩
instance:TS Tryz.prog 64:=⟨by kernel_rfl⟩
instance:TL Tryz.prog 64 163 5 64 [.string ⟨#[]⟩,.int .i64 0,.int .i64 0,.int .u64 0,.slice none 0 0]:=⟨by kernel_rfl,by kernel_rfl,by kernel_rfl,by decide⟩
instance:TS Tryz.prog 65:=⟨by kernel_rfl⟩
instance:TL Tryz.prog 65 140 3 24 [.int .i64 0,.int .i64 0,.int .i64 0]:=⟨by kernel_rfl,by kernel_rfl,by kernel_rfl,by decide⟩
instance:TS Tryz.prog 66:=⟨by kernel_rfl⟩
instance:TL Tryz.prog 66 157 5 48 [.string ⟨#[]⟩,.int .u64 0,.int .u64 0,.int .i64 0,.int .i64 0]:=⟨by kernel_rfl,by kernel_rfl,by kernel_rfl,by decide⟩
instance:TS Tryz.prog 67:=⟨by kernel_rfl⟩
instance:TL Tryz.prog 67 159 5 48 [.string ⟨#[]⟩,.int .i64 0,.int .i64 0,.int .u64 0,.int .u64 0]:=⟨by kernel_rfl,by kernel_rfl,by kernel_rfl,by decide⟩
instance:TZ Tryz.prog 69 [.string ⟨#[]⟩,.slice none 0 0,.slice none 0 0,.slice none 0 0,.slice none 0 0,.slice none 0 0]:=⟨by kernel_rfl⟩
instance:TA Tryz.prog 69 6:=⟨by kernel_rfl⟩
instance:TB Tryz.prog 69 [(0,1),(1,1),(2,1),(3,1),(4,1),(5,1)] [.string ⟨#[]⟩,.slice none 0 0,.slice none 0 0,.slice none 0 0,.slice none 0 0,.slice none 0 0]:=⟨by kernel_rfl,by kernel_rfl⟩
instance:TF Tryz.prog 69 0 0:=⟨by kernel_rfl⟩
instance:TF Tryz.prog 69 1 1:=⟨by kernel_rfl⟩
instance:TF Tryz.prog 69 2 2:=⟨by kernel_rfl⟩
instance:TF Tryz.prog 69 3 3:=⟨by kernel_rfl⟩
instance:TF Tryz.prog 69 4 4:=⟨by kernel_rfl⟩
instance:TF Tryz.prog 69 5 5:=⟨by kernel_rfl⟩
instance:TZ Tryz.prog 72 [.int .i64 0,.int .i64 0,.int .i64 0,.int .i64 0]:=⟨by kernel_rfl⟩
instance:TA Tryz.prog 72 4:=⟨by kernel_rfl⟩
instance:TB Tryz.prog 72 [(0,1),(1,1),(2,1),(3,1)] [.int .i64 0,.int .i64 0,.int .i64 0,.int .i64 0]:=⟨by kernel_rfl,by kernel_rfl⟩
instance:TF Tryz.prog 72 0 0:=⟨by kernel_rfl⟩
instance:TF Tryz.prog 72 1 1:=⟨by kernel_rfl⟩
instance:TF Tryz.prog 72 2 2:=⟨by kernel_rfl⟩
instance:TF Tryz.prog 72 3 3:=⟨by kernel_rfl⟩
instance:TS Tryz.prog 99:=⟨by kernel_rfl⟩
instance:TL Tryz.prog 99 178 5 48 [.int .i64 0,.string ⟨#[]⟩,.int .u64 0,.int .i64 0,.int .i64 0]:=⟨by kernel_rfl,by kernel_rfl,by kernel_rfl,by decide⟩
instance:TZ Tryz.prog 103 [.int .i64 0,.int .i64 0,.int .i64 0]:=⟨by kernel_rfl⟩
instance:TA Tryz.prog 103 3:=⟨by kernel_rfl⟩
instance:TB Tryz.prog 103 [(0,2),(2,1)] [.int .i64 0,.int .i64 0,.int .i64 0]:=⟨by kernel_rfl,by kernel_rfl⟩
instance:TF Tryz.prog 103 0 0:=⟨by kernel_rfl⟩
instance:TF Tryz.prog 103 1 2:=⟨by kernel_rfl⟩
instance:TB Tryz.prog 109 [(0,1),(1,1),(2,2)] [.slice none 0 0,.int .i64 0,.int .i64 0,.int .i64 0]:=⟨by kernel_rfl,by kernel_rfl⟩
instance:TF Tryz.prog 109 0 0:=⟨by kernel_rfl⟩
instance:TF Tryz.prog 109 1 1:=⟨by kernel_rfl⟩
instance:TF Tryz.prog 109 2 2:=⟨by kernel_rfl⟩
instance:TS Tryz.prog 116:=⟨by kernel_rfl⟩
instance:TS Tryz.prog 117:=⟨by kernel_rfl⟩
instance:TS Tryz.prog 118:=⟨by kernel_rfl⟩
instance:BU Tryz.prog 118 9 54:=⟨by kernel_rfl⟩
instance:TS Tryz.prog 119:=⟨by kernel_rfl⟩
instance:TL Tryz.prog 119 58 1 24 [.slice none 0 0]:=⟨by kernel_rfl,by kernel_rfl,by kernel_rfl,by decide⟩
instance:TB Tryz.prog 121 [(0,2),(2,1),(3,1),(4,1)] [.slice none 0 0,.slice none 0 0,.slice none 0 0,.map none,.slice none 0 0]:=⟨by kernel_rfl,by kernel_rfl⟩
instance:TF Tryz.prog 121 0 0:=⟨by kernel_rfl⟩
instance:TF Tryz.prog 121 1 2:=⟨by kernel_rfl⟩
instance:TF Tryz.prog 121 2 3:=⟨by kernel_rfl⟩
instance:TF Tryz.prog 121 3 4:=⟨by kernel_rfl⟩
instance:WN Tryz.prog 122 (.int .u64 0):=⟨by kernel_rfl⟩
instance:TS Tryz.prog 122:=⟨by kernel_rfl⟩
instance:NQ Tryz.prog 122 .u64:=⟨by kernel_rfl⟩
instance:TS Tryz.prog 123:=⟨by kernel_rfl⟩
instance:TL Tryz.prog 123 125 4 48 [.string ⟨#[]⟩,.int .i64 0,.int .i64 0,.string ⟨#[]⟩]:=⟨by kernel_rfl,by kernel_rfl,by kernel_rfl,by decide⟩
instance:TZ Tryz.prog 125 [.string ⟨#[]⟩,.int .i64 0,.int .i64 0,.string ⟨#[]⟩]:=⟨by kernel_rfl⟩
instance:TA Tryz.prog 125 4:=⟨by kernel_rfl⟩
instance:iP Tryz.prog 125 [1,5,5,1]:=⟨by kernel_rfl,by kernel_rfl,by kernel_rfl⟩
instance:TB Tryz.prog 125 [(0,1),(1,3)] [.string ⟨#[]⟩,.int .i64 0,.int .i64 0,.string ⟨#[]⟩]:=⟨by kernel_rfl,by kernel_rfl⟩
instance:TF Tryz.prog 125 0 0:=⟨by kernel_rfl⟩
instance:TF Tryz.prog 125 1 1:=⟨by kernel_rfl⟩
instance:TZ Tryz.prog 127 [.int .i64 0,.string ⟨#[]⟩,.slice none 0 0,.int .i64 0,.string ⟨#[]⟩,.int .i64 0,.int .i64 0,.string ⟨#[]⟩,.string ⟨#[]⟩,.int .i64 0,.int .i64 0,.string ⟨#[]⟩,.int .i64 0,.int .i64 0,.int .i64 0]:=⟨by kernel_rfl⟩
instance:TA Tryz.prog 127 15:=⟨by kernel_rfl⟩
instance:TB Tryz.prog 127 [(0,1),(1,1),(2,1),(3,1),(4,4),(8,4),(12,1),(13,1),(14,1)] [.int .i64 0,.string ⟨#[]⟩,.slice none 0 0,.int .i64 0,.string ⟨#[]⟩,.int .i64 0,.int .i64 0,.string ⟨#[]⟩,.string ⟨#[]⟩,.int .i64 0,.int .i64 0,.string ⟨#[]⟩,.int .i64 0,.int .i64 0,.int .i64 0]:=⟨by kernel_rfl,by kernel_rfl⟩
instance:TF Tryz.prog 127 0 0:=⟨by kernel_rfl⟩
instance:TF Tryz.prog 127 1 1:=⟨by kernel_rfl⟩
instance:TF Tryz.prog 127 2 2:=⟨by kernel_rfl⟩
instance:TF Tryz.prog 127 3 3:=⟨by kernel_rfl⟩
instance:TF Tryz.prog 127 4 4:=⟨by kernel_rfl⟩
instance:TF Tryz.prog 127 5 8:=⟨by kernel_rfl⟩
instance:TF Tryz.prog 127 6 12:=⟨by kernel_rfl⟩
instance:TF Tryz.prog 127 7 13:=⟨by kernel_rfl⟩
instance:TF Tryz.prog 127 8 14:=⟨by kernel_rfl⟩
instance:TZ Tryz.prog 135 [.string ⟨#[]⟩,.slice none 0 0]:=⟨by kernel_rfl⟩
instance:TA Tryz.prog 135 2:=⟨by kernel_rfl⟩
instance:TB Tryz.prog 135 [(0,1),(1,1)] [.string ⟨#[]⟩,.slice none 0 0]:=⟨by kernel_rfl,by kernel_rfl⟩
instance:TF Tryz.prog 135 0 0:=⟨by kernel_rfl⟩
instance:TF Tryz.prog 135 1 1:=⟨by kernel_rfl⟩
instance:TS Tryz.prog 137:=⟨by kernel_rfl⟩
instance:TZ Tryz.prog 140 [.int .i64 0,.int .i64 0,.int .i64 0]:=⟨by kernel_rfl⟩
instance:TA Tryz.prog 140 3:=⟨by kernel_rfl⟩
instance:TB Tryz.prog 140 [(0,1),(1,1),(2,1)] [.int .i64 0,.int .i64 0,.int .i64 0]:=⟨by kernel_rfl,by kernel_rfl⟩
instance:TF Tryz.prog 140 0 0:=⟨by kernel_rfl⟩
instance:TF Tryz.prog 140 1 1:=⟨by kernel_rfl⟩
instance:TF Tryz.prog 140 2 2:=⟨by kernel_rfl⟩
instance:TS Tryz.prog 143:=⟨by kernel_rfl⟩
instance:TL Tryz.prog 143 219 2 16 [.int .i64 0,.int .i64 0]:=⟨by kernel_rfl,by kernel_rfl,by kernel_rfl,by decide⟩
instance:TZ Tryz.prog 145 [.int .i64 0,.slice none 0 0]:=⟨by kernel_rfl⟩
instance:TA Tryz.prog 145 2:=⟨by kernel_rfl⟩
instance:TB Tryz.prog 145 [(0,1),(1,1)] [.int .i64 0,.slice none 0 0]:=⟨by kernel_rfl,by kernel_rfl⟩
instance:TF Tryz.prog 145 0 0:=⟨by kernel_rfl⟩
instance:TF Tryz.prog 145 1 1:=⟨by kernel_rfl⟩
instance:TB Tryz.prog 152 [(0,1),(1,1)] [.slice none 0 0,.int .i64 0]:=⟨by kernel_rfl,by kernel_rfl⟩
instance:TF Tryz.prog 152 0 0:=⟨by kernel_rfl⟩
instance:TF Tryz.prog 152 1 1:=⟨by kernel_rfl⟩
instance:TZ Tryz.prog 153 [.int .i64 0,.int .i64 0,.int .i64 0,.int .i64 0,.int .i64 0,.int .i64 0]:=⟨by kernel_rfl⟩
instance:fE Tryz.prog 153 6 3 1:=⟨by kernel_rfl,by kernel_rfl⟩
instance:NQ Tryz.prog 155 .u64:=⟨by kernel_rfl⟩
instance:TZ Tryz.prog 157 [.string ⟨#[]⟩,.int .u64 0,.int .u64 0,.int .i64 0,.int .i64 0]:=⟨by kernel_rfl⟩
instance:TA Tryz.prog 157 5:=⟨by kernel_rfl⟩
instance:TB Tryz.prog 157 [(0,1),(1,1),(2,1),(3,1),(4,1)] [.string ⟨#[]⟩,.int .u64 0,.int .u64 0,.int .i64 0,.int .i64 0]:=⟨by kernel_rfl,by kernel_rfl⟩
instance:TF Tryz.prog 157 0 0:=⟨by kernel_rfl⟩
instance:TF Tryz.prog 157 1 1:=⟨by kernel_rfl⟩
instance:TF Tryz.prog 157 2 2:=⟨by kernel_rfl⟩
instance:TF Tryz.prog 157 3 3:=⟨by kernel_rfl⟩
instance:TF Tryz.prog 157 4 4:=⟨by kernel_rfl⟩
instance:TZ Tryz.prog 159 [.string ⟨#[]⟩,.int .i64 0,.int .i64 0,.int .u64 0,.int .u64 0]:=⟨by kernel_rfl⟩
instance:TA Tryz.prog 159 5:=⟨by kernel_rfl⟩
instance:TB Tryz.prog 159 [(0,1),(1,1),(2,1),(3,1),(4,1)] [.string ⟨#[]⟩,.int .i64 0,.int .i64 0,.int .u64 0,.int .u64 0]:=⟨by kernel_rfl,by kernel_rfl⟩
instance:TF Tryz.prog 159 0 0:=⟨by kernel_rfl⟩
instance:TF Tryz.prog 159 1 1:=⟨by kernel_rfl⟩
instance:TF Tryz.prog 159 2 2:=⟨by kernel_rfl⟩
instance:TF Tryz.prog 159 3 3:=⟨by kernel_rfl⟩
instance:TF Tryz.prog 159 4 4:=⟨by kernel_rfl⟩
instance:TZ Tryz.prog 163 [.string ⟨#[]⟩,.int .i64 0,.int .i64 0,.int .u64 0,.slice none 0 0]:=⟨by kernel_rfl⟩
instance:TA Tryz.prog 163 5:=⟨by kernel_rfl⟩
instance:TB Tryz.prog 163 [(0,1),(1,1),(2,1),(3,1),(4,1)] [.string ⟨#[]⟩,.int .i64 0,.int .i64 0,.int .u64 0,.slice none 0 0]:=⟨by kernel_rfl,by kernel_rfl⟩
instance:TF Tryz.prog 163 0 0:=⟨by kernel_rfl⟩
instance:TF Tryz.prog 163 1 1:=⟨by kernel_rfl⟩
instance:TF Tryz.prog 163 2 2:=⟨by kernel_rfl⟩
instance:TF Tryz.prog 163 3 3:=⟨by kernel_rfl⟩
instance:TF Tryz.prog 163 4 4:=⟨by kernel_rfl⟩
instance:TZ Tryz.prog 178 [.int .i64 0,.string ⟨#[]⟩,.int .u64 0,.int .i64 0,.int .i64 0]:=⟨by kernel_rfl⟩
instance:TA Tryz.prog 178 5:=⟨by kernel_rfl⟩
instance:TB Tryz.prog 178 [(0,1),(1,1),(2,1),(3,2)] [.int .i64 0,.string ⟨#[]⟩,.int .u64 0,.int .i64 0,.int .i64 0]:=⟨by kernel_rfl,by kernel_rfl⟩
instance:TF Tryz.prog 178 0 0:=⟨by kernel_rfl⟩
instance:TF Tryz.prog 178 1 1:=⟨by kernel_rfl⟩
instance:TF Tryz.prog 178 2 2:=⟨by kernel_rfl⟩
instance:TF Tryz.prog 178 3 3:=⟨by kernel_rfl⟩
instance:TL Tryz.prog 190 116 1 8 [.nilFunc]:=⟨by kernel_rfl,by kernel_rfl,by kernel_rfl,by decide⟩
instance:BU Tryz.prog 201 3 203:=⟨by kernel_rfl⟩
instance:WN Tryz.prog 203 (.slice none 0 0):=⟨by kernel_rfl⟩
instance:TL Tryz.prog 203 205 2 16 [.int .i64 0,.int .i64 0]:=⟨by kernel_rfl,by kernel_rfl,by kernel_rfl,by decide⟩
instance:TZ Tryz.prog 205 [.int .i64 0,.int .i64 0]:=⟨by kernel_rfl⟩
instance:TA Tryz.prog 205 2:=⟨by kernel_rfl⟩
instance:TB Tryz.prog 205 [(0,1),(1,1)] [.int .i64 0,.int .i64 0]:=⟨by kernel_rfl,by kernel_rfl⟩
instance:TF Tryz.prog 205 0 0:=⟨by kernel_rfl⟩
instance:TF Tryz.prog 205 1 1:=⟨by kernel_rfl⟩
instance:TS Tryz.prog 208:=⟨by kernel_rfl⟩
instance:BU Tryz.prog 208 3 62:=⟨by kernel_rfl⟩
instance:TS Tryz.prog 212:=⟨by kernel_rfl⟩
instance:TB Tryz.prog 214 [(0,6),(6,1)] [.string ⟨#[]⟩,.slice none 0 0,.slice none 0 0,.slice none 0 0,.slice none 0 0,.slice none 0 0,.map none]:=⟨by kernel_rfl,by kernel_rfl⟩
instance:TF Tryz.prog 214 0 0:=⟨by kernel_rfl⟩
instance:TF Tryz.prog 214 1 6:=⟨by kernel_rfl⟩
instance:TB Tryz.prog 216 [(0,1),(1,1),(2,1)] [.pointer none,.int .i64 0,.map none]:=⟨by kernel_rfl,by kernel_rfl⟩
instance:TF Tryz.prog 216 0 0:=⟨by kernel_rfl⟩
instance:TF Tryz.prog 216 1 1:=⟨by kernel_rfl⟩
instance:TF Tryz.prog 216 2 2:=⟨by kernel_rfl⟩
instance:TZ Tryz.prog 219 [.int .i64 0,.int .i64 0]:=⟨by kernel_rfl⟩
instance:TA Tryz.prog 219 2:=⟨by kernel_rfl⟩
instance:TB Tryz.prog 219 [(0,1),(1,1)] [.int .i64 0,.int .i64 0]:=⟨by kernel_rfl,by kernel_rfl⟩
instance:TF Tryz.prog 219 0 0:=⟨by kernel_rfl⟩
instance:TF Tryz.prog 219 1 1:=⟨by kernel_rfl⟩
instance:NU Tryz.prog 223 224:=⟨by kernel_rfl⟩
instance:TS Tryz.prog 224:=⟨by kernel_rfl⟩
instance:TL Tryz.prog 224 205 2 16 [.int .i64 0,.int .i64 0]:=⟨by kernel_rfl,by kernel_rfl,by kernel_rfl,by decide⟩
instance:BU Tryz.prog 242 9 4:=⟨by kernel_rfl⟩
instance:BU Tryz.prog 268 3 4:=⟨by kernel_rfl⟩
instance:TZ Tryz.prog 271 [.map none]:=⟨by kernel_rfl⟩
instance:TS Tryz.prog 271:=⟨by kernel_rfl⟩
instance:BU Tryz.prog 271 3 3:=⟨by kernel_rfl⟩
instance:TL Tryz.prog 274 20 1 16 [.nilIface]:=⟨by kernel_rfl,by kernel_rfl,by kernel_rfl,by decide⟩
instance:TL Tryz.prog 302 304 2 16 [.int .i64 0,.int .i64 0]:=⟨by kernel_rfl,by kernel_rfl,by kernel_rfl,by decide⟩
instance:TZ Tryz.prog 304 [.int .i64 0,.int .i64 0]:=⟨by kernel_rfl⟩
instance:TA Tryz.prog 304 2:=⟨by kernel_rfl⟩
instance:TL Tryz.prog 309 311 2 16 [.int .u64 0,.int .u64 0]:=⟨by kernel_rfl,by kernel_rfl,by kernel_rfl,by decide⟩
instance:TB Tryz.prog 311 [(0,1),(1,1)] [.int .u64 0,.int .u64 0]:=⟨by kernel_rfl,by kernel_rfl⟩
instance:TF Tryz.prog 311 0 0:=⟨by kernel_rfl⟩
instance:TF Tryz.prog 311 1 1:=⟨by kernel_rfl⟩
instance:TZ Tryz.prog 312 [.bool false,.bool false,.bool false,.bool false,.bool false,.bool false,.bool false,.bool false,.bool false,.bool false,.bool false,.bool false,.bool false,.bool false,.bool false,.bool false,.bool false,.bool false,.bool false,.bool false,.bool false,.bool false,.bool false,.bool false,.bool false,.bool false,.bool false,.bool false,.bool false,.bool false,.bool false,.bool false,.bool false,.bool false,.bool false,.bool false,.bool false,.bool false,.bool false,.bool false,.bool false,.bool false,.bool false,.bool false,.bool false,.bool false,.bool false,.bool false,.bool false,.bool false,.bool false,.bool false,.bool false,.bool false,.bool false,.bool false,.bool false,.bool false,.bool false,.bool false,.bool false,.bool false,.bool false,.bool false]:=⟨by kernel_rfl⟩
instance:fE Tryz.prog 312 64 4 1:=⟨by kernel_rfl,by kernel_rfl⟩
instance:BU Tryz.prog 323 304 4:=⟨by kernel_rfl⟩
instance:C7 Tryz.prog 8:=⟨by kernel_rfl⟩
instance:C7 Tryz.prog 9:=⟨by kernel_rfl⟩
instance:C7 Tryz.prog 13:=⟨by kernel_rfl⟩
instance:C7 Tryz.prog 14:=⟨by kernel_rfl⟩
instance:C7 Tryz.prog 17:=⟨by kernel_rfl⟩
instance:C7 Tryz.prog 18:=⟨by kernel_rfl⟩
instance:C7 Tryz.prog 19:=⟨by kernel_rfl⟩
instance:C7 Tryz.prog 20:=⟨by kernel_rfl⟩
instance:C7 Tryz.prog 21:=⟨by kernel_rfl⟩
instance:C7 Tryz.prog 38:=⟨by kernel_rfl⟩
instance:C7 Tryz.prog 40:=⟨by kernel_rfl⟩
instance:C7 Tryz.prog 41:=⟨by kernel_rfl⟩
instance:C7 Tryz.prog 42:=⟨by kernel_rfl⟩
instance:C7 Tryz.prog 46:=⟨by kernel_rfl⟩
instance:C7 Tryz.prog 47:=⟨by kernel_rfl⟩
instance:C7 Tryz.prog 48:=⟨by kernel_rfl⟩
instance:C7 Tryz.prog 49:=⟨by kernel_rfl⟩
instance:C7 Tryz.prog 50:=⟨by kernel_rfl⟩
instance:C7 Tryz.prog 51:=⟨by kernel_rfl⟩
instance:C7 Tryz.prog 52:=⟨by kernel_rfl⟩
instance:C7 Tryz.prog 53:=⟨by kernel_rfl⟩
instance:C7 Tryz.prog 54:=⟨by kernel_rfl⟩
instance:C7 Tryz.prog 56:=⟨by kernel_rfl⟩
instance:C7 Tryz.prog 57:=⟨by kernel_rfl⟩
instance:C7 Tryz.prog 59:=⟨by kernel_rfl⟩
instance:C7 Tryz.prog 60:=⟨by kernel_rfl⟩
instance:C7 Tryz.prog 61:=⟨by kernel_rfl⟩
instance:C7 Tryz.prog 62:=⟨by kernel_rfl⟩
instance:C7 Tryz.prog 63:=⟨by kernel_rfl⟩
instance:C7 Tryz.prog 64:=⟨by kernel_rfl⟩
instance:C7 Tryz.prog 65:=⟨by kernel_rfl⟩
instance:C7 Tryz.prog 66:=⟨by kernel_rfl⟩
instance:C7 Tryz.prog 67:=⟨by kernel_rfl⟩
instance:C7 Tryz.prog 68:=⟨by kernel_rfl⟩
instance:C7 Tryz.prog 69:=⟨by kernel_rfl⟩
instance:C7 Tryz.prog 70:=⟨by kernel_rfl⟩
instance:C7 Tryz.prog 71:=⟨by kernel_rfl⟩
instance:C7 Tryz.prog 72:=⟨by kernel_rfl⟩
instance:C7 Tryz.prog 73:=⟨by kernel_rfl⟩
instance:C7 Tryz.prog 74:=⟨by kernel_rfl⟩
instance:C7 Tryz.prog 87:=⟨by kernel_rfl⟩
instance:C7 Tryz.prog 88:=⟨by kernel_rfl⟩
instance:C7 Tryz.prog 92:=⟨by kernel_rfl⟩
instance:C7 Tryz.prog 93:=⟨by kernel_rfl⟩
instance:C7 Tryz.prog 94:=⟨by kernel_rfl⟩
instance:C7 Tryz.prog 95:=⟨by kernel_rfl⟩
instance:C7 Tryz.prog 96:=⟨by kernel_rfl⟩
instance:C7 Tryz.prog 97:=⟨by kernel_rfl⟩
instance:C7 Tryz.prog 101:=⟨by kernel_rfl⟩
instance:C7 Tryz.prog 102:=⟨by kernel_rfl⟩
instance:C7 Tryz.prog 103:=⟨by kernel_rfl⟩
instance:C7 Tryz.prog 104:=⟨by kernel_rfl⟩
instance:C7 Tryz.prog 105:=⟨by kernel_rfl⟩
instance:C7 Tryz.prog 106:=⟨by kernel_rfl⟩
instance:C7 Tryz.prog 107:=⟨by kernel_rfl⟩
instance:C7 Tryz.prog 108:=⟨by kernel_rfl⟩
instance:C7 Tryz.prog 109:=⟨by kernel_rfl⟩
instance:C7 Tryz.prog 110:=⟨by kernel_rfl⟩
instance:C7 Tryz.prog 111:=⟨by kernel_rfl⟩
instance:C7 Tryz.prog 112:=⟨by kernel_rfl⟩
instance:C7 Tryz.prog 115:=⟨by kernel_rfl⟩
instance:C7 Tryz.prog 116:=⟨by kernel_rfl⟩
instance:C7 Tryz.prog 118:=⟨by kernel_rfl⟩
instance:C7 Tryz.prog 119:=⟨by kernel_rfl⟩
instance:C7 Tryz.prog 120:=⟨by kernel_rfl⟩
instance:C7 Tryz.prog 123:=⟨by kernel_rfl⟩
instance:C7 Tryz.prog 124:=⟨by kernel_rfl⟩
instance:C7 Tryz.prog 125:=⟨by kernel_rfl⟩
instance:C7 Tryz.prog 126:=⟨by kernel_rfl⟩
instance:C7 Tryz.prog 127:=⟨by kernel_rfl⟩
instance:C7 Tryz.prog 128:=⟨by kernel_rfl⟩
instance:C7 Tryz.prog 129:=⟨by kernel_rfl⟩
instance:C7 Tryz.prog 130:=⟨by kernel_rfl⟩
instance:C7 Tryz.prog 131:=⟨by kernel_rfl⟩
instance:C7 Tryz.prog 133:=⟨by kernel_rfl⟩
instance:C7 Tryz.prog 134:=⟨by kernel_rfl⟩
instance:C7 Tryz.prog 135:=⟨by kernel_rfl⟩
instance:C7 Tryz.prog 138:=⟨by kernel_rfl⟩
instance:C7 Tryz.prog 139:=⟨by kernel_rfl⟩
instance:C7 Tryz.prog 140:=⟨by kernel_rfl⟩
instance:C7 Tryz.prog 141:=⟨by kernel_rfl⟩
instance:C7 Tryz.prog 142:=⟨by kernel_rfl⟩
instance:C7 Tryz.prog 143:=⟨by kernel_rfl⟩
instance:C7 Tryz.prog 145:=⟨by kernel_rfl⟩
instance:C7 Tryz.prog 146:=⟨by kernel_rfl⟩
instance:C7 Tryz.prog 147:=⟨by kernel_rfl⟩
instance:C7 Tryz.prog 148:=⟨by kernel_rfl⟩
instance:C7 Tryz.prog 149:=⟨by kernel_rfl⟩
instance:C7 Tryz.prog 150:=⟨by kernel_rfl⟩
instance:C7 Tryz.prog 153:=⟨by kernel_rfl⟩
instance:C7 Tryz.prog 154:=⟨by kernel_rfl⟩
instance:C7 Tryz.prog 155:=⟨by kernel_rfl⟩
instance:C7 Tryz.prog 156:=⟨by kernel_rfl⟩
instance:C7 Tryz.prog 157:=⟨by kernel_rfl⟩
instance:C7 Tryz.prog 158:=⟨by kernel_rfl⟩
instance:C7 Tryz.prog 159:=⟨by kernel_rfl⟩
instance:C7 Tryz.prog 160:=⟨by kernel_rfl⟩
instance:C7 Tryz.prog 161:=⟨by kernel_rfl⟩
instance:C7 Tryz.prog 162:=⟨by kernel_rfl⟩
instance:C7 Tryz.prog 173:=⟨by kernel_rfl⟩
instance:C7 Tryz.prog 182:=⟨by kernel_rfl⟩
instance:C7 Tryz.prog 183:=⟨by kernel_rfl⟩
instance:C7 Tryz.prog 184:=⟨by kernel_rfl⟩
instance:C7 Tryz.prog 185:=⟨by kernel_rfl⟩
instance:C7 Tryz.prog 186:=⟨by kernel_rfl⟩
instance:C7 Tryz.prog 187:=⟨by kernel_rfl⟩
instance:C7 Tryz.prog 188:=⟨by kernel_rfl⟩
instance:C7 Tryz.prog 189:=⟨by kernel_rfl⟩
instance:C7 Tryz.prog 190:=⟨by kernel_rfl⟩
instance:C7 Tryz.prog 191:=⟨by kernel_rfl⟩
instance:C7 Tryz.prog 192:=⟨by kernel_rfl⟩
instance:C7 Tryz.prog 193:=⟨by kernel_rfl⟩
instance:C7 Tryz.prog 194:=⟨by kernel_rfl⟩
instance:C7 Tryz.prog 195:=⟨by kernel_rfl⟩
instance:C7 Tryz.prog 196:=⟨by kernel_rfl⟩
instance:C7 Tryz.prog 197:=⟨by kernel_rfl⟩
instance:C7 Tryz.prog 198:=⟨by kernel_rfl⟩
instance:C7 Tryz.prog 205:=⟨by kernel_rfl⟩
instance:C7 Tryz.prog 208:=⟨by kernel_rfl⟩
instance:C7 Tryz.prog 209:=⟨by kernel_rfl⟩
instance:C7 Tryz.prog 210:=⟨by kernel_rfl⟩
instance:C7 Tryz.prog 211:=⟨by kernel_rfl⟩
instance:C7 Tryz.prog 223:=⟨by kernel_rfl⟩
instance:C7 Tryz.prog 224:=⟨by kernel_rfl⟩
instance:C7 Tryz.prog 225:=⟨by kernel_rfl⟩
instance:C7 Tryz.prog 226:=⟨by kernel_rfl⟩
instance:C7 Tryz.prog 227:=⟨by kernel_rfl⟩
instance:C7 Tryz.prog 228:=⟨by kernel_rfl⟩
instance:C7 Tryz.prog 234:=⟨by kernel_rfl⟩
instance:C7 Tryz.prog 238:=⟨by kernel_rfl⟩
instance:C7 Tryz.prog 239:=⟨by kernel_rfl⟩
instance:C7 Tryz.prog 240:=⟨by kernel_rfl⟩
instance:C7 Tryz.prog 241:=⟨by kernel_rfl⟩
instance:C7 Tryz.prog 242:=⟨by kernel_rfl⟩
instance:C7 Tryz.prog 243:=⟨by kernel_rfl⟩
instance:C7 Tryz.prog 244:=⟨by kernel_rfl⟩
instance:C7 Tryz.prog 245:=⟨by kernel_rfl⟩
instance:C7 Tryz.prog 246:=⟨by kernel_rfl⟩
instance:C7 Tryz.prog 247:=⟨by kernel_rfl⟩
instance:C7 Tryz.prog 248:=⟨by kernel_rfl⟩
instance:C7 Tryz.prog 253:=⟨by kernel_rfl⟩
instance:C7 Tryz.prog 259:=⟨by kernel_rfl⟩
instance:C7 Tryz.prog 262:=⟨by kernel_rfl⟩
instance:C7 Tryz.prog 273:=⟨by kernel_rfl⟩
instance:C7 Tryz.prog 293:=⟨by kernel_rfl⟩
instance:C7 Tryz.prog 294:=⟨by kernel_rfl⟩
instance:C7 Tryz.prog 295:=⟨by kernel_rfl⟩
instance:C7 Tryz.prog 296:=⟨by kernel_rfl⟩
instance:C7 Tryz.prog 297:=⟨by kernel_rfl⟩
instance:C7 Tryz.prog 298:=⟨by kernel_rfl⟩
instance:C7 Tryz.prog 299:=⟨by kernel_rfl⟩
instance:C7 Tryz.prog 300:=⟨by kernel_rfl⟩
instance:C7 Tryz.prog 301:=⟨by kernel_rfl⟩
instance:C7 Tryz.prog 302:=⟨by kernel_rfl⟩
instance:C7 Tryz.prog 305:=⟨by kernel_rfl⟩
instance:C7 Tryz.prog 306:=⟨by kernel_rfl⟩
attribute [local irreducible] Calls
def H4(c:Int):Bool:=decide (97≤c)&&decide (c≤122)||decide (65≤c)&&decide (c≤90)||decide (c=95)
def N9(c:Int):Bool:=decide (48≤c)&&decide (c≤57)
instance (c:Int):PC Tryz.prog 138 [.int .u8 c] (.bool (H4 c)):=⟨fun w=>by
 refine A9 Tryz.func138 rfl rfl ?_
 refine A6 ?_;exact⟨_,rfl,rfl,rfl⟩⟩
instance (c:Int):PC Tryz.prog 140 [.int .u8 c] (.bool (N9 c)):=⟨fun w=>by
 refine A9 Tryz.func140 rfl rfl ?_
 refine A6 ?_;exact⟨_,rfl,rfl,rfl⟩⟩
instance (c:Int):PC Tryz.prog 133 [.int .u8 c] (.bool (H4 c)):=⟨fun w=>by
 refine A9 Tryz.func133 rfl rfl ?_
 refine A6 ?_;exact⟨_,rfl,rfl,rfl⟩⟩
instance (c:Int):PC Tryz.prog 134 [.int .u8 c] (.bool (N9 c)):=⟨fun w=>by
 refine A9 Tryz.func134 rfl rfl ?_
 refine A6 ?_;exact⟨_,rfl,rfl,rfl⟩⟩
abbrev B3(s:ByteArray)(i:Nat):Int:=((s.data.toList.getD i 0).toNat:Int)
def M9(b:UInt8):Bool:=H4 b.toNat||N9 b.toNat
def runN(s:ByteArray):Nat:=(s.data.toList.takeWhile M9).length
def Ao(s:ByteArray):Bool:=decide (0<s.size)&&H4 (B3 s 0)&&s.data.toList.all M9
def G7(s:ByteArray):Bool:=Ao s&&decide (s.size≤24)
theorem x6{p:UInt8→Bool}:∀ {l:List UInt8} {k:Nat},k≤l.length→(∀i,i<k→p (l.getD i 0)=true)→(k<l.length→p (l.getD k 0)=false)→(l.takeWhile p).length=k
 | [],k,h,_,_=>by simp at h;simp[h]
 | x::l,0,_,_,h2=>by
  have:=h2 (by simp)
  simp at this
  simp[this]
 | x::l,k+1,h,h1,h2=>by
  have h0:=h1 0 (by omega)
  simp at h0
  simp only[List.takeWhile_cons,h0,if_true,List.length_cons]
  rw[x6 (l:=l) (k:=k) (by simpa using h) (fun i hi=>h1 (i+1) (by omega)) (fun hk=>h2 (by simp only[List.length_cons];omega))]
theorem z6(s:ByteArray):s.data.toList.length=s.size:=Array.length_toList
class SB(s:ByteArray):Prop where h:s.size≤9223372036854775807
instance (s:ByteArray)[hs:SB s]:PC Tryz.prog 139 [.string s] (.int .i64 (runN s)):=⟨fun w=>by
 have h63:=hs.h
 refine A9 Tryz.func139 rfl rfl ?_
 refine A6 ?_;refine B5 (fun μ ρ w'=>∃k:Nat,μ+k=s.size∧Has ρ [(0,.string s),(3,.int .i64 k)]∧w'=w∧∀i,i<k→M9 (s.data.toList.getD i 0)=true) s.size ⟨0,rfl,⟨rfl,rfl,trivial⟩,rfl,fun i h=>absurd h (Nat.not_lt_zero i)⟩ ?_
 rintro μ ρ w' ⟨k,hk,hρ,rfl,hi⟩
 rw[hρ.eq];refine A6 ?_;refine A7 rfl (fun h=>?_) (fun h=>?_)
 ·have h':=L0 h
  simp only[decide_eq_true_eq]at h'
  refine A6 ?_;refine⟨μ-1,by omega,k+1,by omega,⟨rfl,rfl,trivial⟩,rfl,fun i hi'=>?_⟩
  by_cases e:i=k
  ·subst e;exact iI h
  ·exact hi i (by omega)
 ·refine A6 ?_;refine⟨_,rfl,H0 rfl ?_,rfl⟩
  have:=x6 (p:=M9) (l:=s.data.toList) (k:=k) (by rw[z6];omega) hi (fun hk'=>by
   rw[z6]at hk';rw[show decide ((k:Int)<(s.size:Int))=true from by simp;omega]at h
   exact h)
  show (k:Int)=((s.data.toList.takeWhile M9).length:Int)
  rw[this]⟩
theorem LH{p:UInt8→Bool}{l:List UInt8}:((l.takeWhile p).length=l.length)↔l.all p=true:=by
 induction l with
 | nil=>simp
 | cons x l ih=>
  simp only[List.takeWhile_cons,List.all_cons]
  cases p x with
  | true=>simp[ih]
  | false=>simp
instance (s:ByteArray)[hs:SB s]:PC Tryz.prog 135 [.string s] (.bool (Ao s)):=⟨fun w=>by
 refine A9 Tryz.func135 rfl rfl ?_
 refine A6 ?_;refine⟨_,rfl,F6 rfl ?_,rfl⟩
 have h1:decide (s≠⟨#[]⟩)=decide (0<s.size):=by simp only[ne_nilB]
 have h2:decide ((runN s:Int)=(s.size:Int))=s.data.toList.all M9:=by
  rw[Bool.eq_iff_iff,decide_eq_true_eq,←LH,z6];unfold runN;omega
 rw[h1,h2];rfl⟩
instance (s:ByteArray)[hs:SB s]:PC Tryz.prog 74 [.string s] (.bool (G7 s)):=⟨fun w=>by
 refine A9 Tryz.func74 rfl rfl ?_
 refine A6 ?_;refine⟨_,rfl,F6 rfl ?_,rfl⟩
 unfold G7;congr 1
 rw[decide_eq_decide];omega⟩
instance (s:ByteArray)[hs:SB s]:PC Tryz.prog 72 [.string s] (.bool (Ao s)):=⟨fun w=>by
 have h63:=hs.h
 refine A9 Tryz.func72 rfl rfl ?_
 refine A6 ?_;refine A7 rfl (fun h=>?_) (fun h=>?_)
 ·refine A6 ?_;refine⟨_,rfl,F6 rfl ?_,rfl⟩
  unfold Ao;by_cases h0:s=⟨#[]⟩
  ·subst h0;rfl
  ·rw[show decide (s=⟨#[]⟩)=false from by simpa using h0]at h
   have h1:H4 (B3 s 0)=false:=by have h':(false || !H4 (B3 s 0))=true:=h;simpa using h'
   rw[h1];simp
 ·simp only[Bool.or_eq_false_iff,Bool.not_eq_false',decide_eq_false_iff_not,eq_nilB]at h
  have h1:H4 (B3 s 0)=true:=h.2
  refine A6 ?_;refine B5 (fun μ ρ w'=>∃k:Nat,μ+k=s.size∧Has ρ [(0,.string s),(3,.int .i64 k)]∧w'=w∧0<k∧∀i,i<k→M9 (s.data.toList.getD i 0)=true) (s.size-1) ⟨1,by omega,⟨rfl,rfl,trivial⟩,rfl,by omega,fun i hi=>?_⟩ ?_
  ·have:i=0:=by omega
   subst this;show (H4 (B3 s 0)||_)=true
   rw[h1];rfl
  rintro μ ρ w' ⟨k,hk,hρ,rfl,hk0,hi⟩
  rw[hρ.eq];refine A6 ?_;refine A7 rfl (fun h2=>?_) (fun h2=>?_)
  ·have h':k<s.size:=by simpa using h2
   refine A6 ?_;refine A7 rfl (fun h3=>?_) (fun h3=>?_)
   ·refine A6 ?_;refine⟨_,rfl,F6 rfl ?_,rfl⟩
    have h4:M9 (s.data.toList.getD k 0)=false:=by
     show (H4 (B3 s k)||N9 (B3 s k))=false
     have h5:(!H4 (B3 s k) && !N9 (B3 s k))=true:=h3
     simpa using h5
    have h6:s.data.toList.all M9=false:=by
     rw[←Bool.not_eq_true,List.all_eq_true];intro hall;have hm:=hall (s.data.toList.getD k 0) (by
      rw[List.getD_eq_getElem?_getD,List.getElem?_eq_getElem (by rw[z6];exact h')]
      exact List.getElem_mem _)
     rw[h4]at hm;cases hm
    unfold Ao;rw[h6];simp
   ·refine A6 ?_;refine⟨μ-1,by omega,k+1,by omega,⟨rfl,rfl,trivial⟩,rfl,by omega,fun i hi'=>?_⟩
    by_cases e:i=k
    ·subst e;have h5:(!H4 (B3 s i) && !N9 (B3 s i))=false:=h3
     show (H4 (B3 s i)||N9 (B3 s i))=true
     cases hl:H4 (B3 s i) <;> cases hd:N9 (B3 s i) <;> simp[hl,hd]at h5 ⊢
    ·exact hi i (by omega)
  ·refine A6 ?_;refine⟨_,rfl,F6 rfl ?_,rfl⟩
   have h':¬k<s.size:=by simpa using h2
   have h6:s.data.toList.all M9=true:=by
    rw[List.all_eq_true];intro x hx;obtain⟨i,hil,rfl⟩:=List.getElem_of_mem hx
    have:=hi i (by rw[z6]at hil;omega)
    rwa [List.getD_eq_getElem?_getD,List.getElem?_eq_getElem hil]at this
   unfold Ao;rw[h6,h1];simp;omega⟩
class eu(n:Int):Prop where h:0<n∧n≤1099511627776
instance (v n:Int)[hn:eu n]:PC Tryz.prog 8 [.int .i64 v,.int .i64 n] (.int .i64 (v%n)):=⟨fun w=>by
 have h:=hn.h
 have hm:=Int.tmod_lt_of_pos v h.1
 have hm2:-n<v.tmod n:=by
  have:=Int.tmod_lt_of_pos (-v) h.1
  rw[Int.neg_tmod]at this;omega
 have he:v%n=if v.tmod n<0 then v.tmod n+n else v.tmod n:=by
  have h3:v%n=v.tmod n%n:=by
   have h4:=Int.mul_tdiv_add_tmod v n
   have h5:=Int.mul_add_emod_self_left n (v.tdiv n) (v.tmod n)
   rw[h4]at h5;exact h5
  rw[h3];split
  ·rw[←Int.add_emod_right];exact Int.emod_eq_of_lt (by omega) (by omega)
  ·exact Int.emod_eq_of_lt (by omega) hm
 refine A9 Tryz.func8 rfl rfl ?_
 refine A6 ?_;refine A7 rfl (fun h1=>?_) (fun h1=>?_)
 ·refine A6 ?_;refine⟨_,rfl,H0 rfl ?_,rfl⟩
  rw[he,if_pos (by simpa using h1)]
 ·refine A6 ?_;refine⟨_,rfl,H0 rfl ?_,rfl⟩
  rw[he,if_neg (by simpa using h1)]⟩
set_option maxHeartbeats 400000
abbrev M8(s:ByteArray):List UInt8:=s.data.toList
theorem P8(s:ByteArray):(M8 s).length=s.size:=Array.length_toList
theorem Bn(s:ByteArray)(a b:Nat):M8 (G5 s a b)=((M8 s).drop a).take (b-a):=by
 unfold G5;show (s.extract a b).data.toList=_
 rw[ByteArray.data_extract,Array.toList_extract,List.extract_eq_take_drop]
theorem Ba{s t:ByteArray}(h:M8 s=M8 t):s=t:=by
 cases s;cases t
 congr 1
 exact Array.toList_inj.1 h
theorem y6{s:ByteArray}{a b:Nat}(h:b≤s.size):(G5 s a b).size=b-a:=by
 rw[←P8,Bn,List.length_take,List.length_drop,P8];omega
theorem Xs{s:ByteArray}{a b j:Nat}(h:a+j<b):B3 (G5 s a b) j=B3 s (a+j):=by
 unfold B3;have:=Bn s a b
 unfold M8 at this;rw[this,List.getD_eq_getElem?_getD,List.getD_eq_getElem?_getD,List.getElem?_take_of_lt (by omega),List.getElem?_drop]
def Gw(c:Int):Int:=if N9 c=true then c-48 else if decide (97≤c)&&decide (c≤102) then c-97+10 else if decide (65≤c)&&decide (c≤70) then c-65+10 else -1
def BL(c base:Int):Int:=if base≤Gw c then -1 else Gw c
def BX(c:Int):Bool:=decide (32≤c)&&decide (c≤126)&&decide (c≠34)&&decide (c≠92)
theorem Rf(c:Int):-1≤Gw c∧Gw c<16:=by
 unfold Gw N9;split
 ·rename_i h;simp at h;omega
 ·split
  ·rename_i h;simp at h;omega
  ·split
   ·rename_i h;simp at h;omega
   ·omega
theorem Se(c base:Int)(hb:0<base):BL c base = -1∨(0≤BL c base∧BL c base<base∧BL c base<16):=by
 have:=Rf c
 unfold BL;split
 ·exact .inl rfl
 ·by_cases h:Gw c = -1
  ·exact .inl h
  ·exact .inr ⟨by omega,by omega,this.2⟩
def JE(base:Nat):List UInt8→Nat→Nat
 | [],v=>v
 | c::l,v=>JE base l (v*base+(BL c.toNat base).toNat)
theorem TN(base:Nat)(hb:0<base):∀(l:List UInt8) (v:Nat),v≤JE base l v
 | [],v=>Nat.le_refl v
 | c::l,v=>Nat.le_trans (by
   have:v≤v*base:=Nat.le_mul_of_pos_right v hb
   omega) (TN base hb l _)
def i9:Nat:=18446744073709551615
def Z8(base sh:Nat)(l:List UInt8):Nat×Int:=
 if l.all (fun c=>decide (0≤BL c.toNat base))=false then (0,50)
 else if i9 >>> sh<JE base l 0 then (0,6) else (JE base l 0 <<< sh,0)
def Dy(c:Int):Nat:=if c=71 then 30 else if c=77 then 20 else if c=75 then 10 else 0
def FT(s:ByteArray):Nat×Int:=
 let sh:=Dy (B3 s (s.size-1))
 let s:=if 0<sh then G5 s 0 (s.size-1) else s
 if 2≤s.size∧B3 s 0=48∧B3 s 1=120 then
  if s.size=2 then (0,50) else Z8 16 sh (M8 (G5 s 2 s.size))
 else if s.size=0∨(1<s.size∧B3 s 0=48) then (0,50) else Z8 10 sh (M8 s)
def Cg(a b:Int):Bool:=(decide (a=60)&&decide (b=61))||(decide (a=62)&&decide (b=61))||(decide (a=33)&&decide (b=61))||(decide (a=46)&&decide (b=46))||(decide (a=45)&&decide (b=62))
def NK:List UInt8:=[123,125,40,41,91,93,44,59,58,61,60,62,33,43,45,42,63,46,47]
def I6(s:ByteArray):Nat:=if 2≤s.size∧Cg (B3 s 0) (B3 s 1)=true then 2 else if 0<s.size∧(s.data.toList.getD 0 0)∈NK then 1 else 0
def AI(b:UInt8):Bool:=BX b.toNat
def BE(s:ByteArray):Nat:=1+(((M8 s).drop 1).takeWhile AI).length
structure eb where
 kind:Int
 text:ByteArray
 value:Nat
 n:Nat
 err:Int
def IL(e:Int):eb:=⟨0,⟨#[]⟩,0,0,e⟩
def O9(s:ByteArray):eb:=
 if H4 (B3 s 0)=true then ⟨1,G5 s 0 (runN s),0,runN s,0⟩
 else if N9 (B3 s 0)=true then (if (FT (G5 s 0 (runN s))).2=0 then ⟨2,⟨#[]⟩,(FT (G5 s 0 (runN s))).1,runN s,0⟩ else IL (FT (G5 s 0 (runN s))).2)
 else if B3 s 0=34 then (if BE s<s.size∧B3 s (BE s)=34 then ⟨3,G5 s 1 (BE s),0,BE s+1,0⟩ else IL 50)
 else if I6 s=0 then IL 50 else ⟨4,G5 s 0 (I6 s),0,I6 s,0⟩
structure Tok where
 Kind:Int
 Text:ByteArray
 Value:Int
 Line:Int
 Col:Int
 deriving DecidableEq
instance:Inhabited Tok:=⟨⟨0,⟨#[]⟩,0,0,0⟩⟩
instance:LC Tok where
 enc a:=[.int .i64 a.Kind,.string a.Text,.int .u64 a.Value,.int .i64 a.Line,.int .i64 a.Col]
 inj a b h:=by cases a;cases b;simp at h;simp[h]
 ks:=[5,1,9,5,5]
 kinds a:=rfl
structure F2 where
 Line:Int
 Col:Int
 deriving DecidableEq,Inhabited
instance:LC F2 where
 enc a:=[.int .i64 a.Line,.int .i64 a.Col]
 inj a b h:=by cases a;cases b;simp at h;simp[h]
 ks:=[5,5]
 kinds a:=rfl
def D7(s:ByteArray):Nat→F2
 | 0=>⟨1,1⟩
 | k+1=>if B3 s k=10 then ⟨(D7 s k).Line+1,1⟩ else ⟨(D7 s k).Line,(D7 s k).Col+1⟩
def FZ(s:ByteArray)(off:Nat):Nat:=off+(((M8 s).drop off).takeWhile fun b=>decide ((b.toNat:Int)≠10)).length
def BJ(c:Int):Bool:=decide (c=10)||decide (c=32)||decide (c=9)||decide (c=13)
def X9(s:ByteArray):Nat→Nat→List Tok→List Tok×F2×Int
 | 0,_,acc=>(acc,⟨0,0⟩,0)
 | f+1,off,acc=>
  if s.size≤off then (acc,⟨0,0⟩,0)
  else if BJ (B3 s off)=true then X9 s f (off+1) acc
  else if B3 s off=35 then X9 s f (FZ s off) acc
  else if (O9 (G5 s off s.size)).err=0 then X9 s f (off+(O9 (G5 s off s.size)).n) (acc++[⟨(O9 (G5 s off s.size)).kind,(O9 (G5 s off s.size)).text,(O9 (G5 s off s.size)).value,(D7 s off).Line,(D7 s off).Col⟩])
  else ([],D7 s off,(O9 (G5 s off s.size)).err)
def I8(s:ByteArray):List Tok×F2×Int:=if 65536<s.size then ([],⟨0,0⟩,15) else X9 s (s.size+1) 0 []
set_option maxHeartbeats 4000000
theorem fQ{P:Program}{n:Nat}{opa:Array Oper}{QQ:Exit→Fr→World→Prop}{rest:List Oper}{ρ:Fr}{w:World}{d:Option Tmp}{ty:TypeId}{pos:String}{es:Array Edge}{f:Nat}{args:List Operand}{tys:Array TypeId}{vs:List Value}{v:Value}
  (he:∀w,(callFunc f vs.toArray).run P w=.ok (.value v) w) (h:L P n opa QQ rest (D2 ρ d v) w) (ha:EvL ρ args vs:=by exact v7) (hd:G8 n d=true:=by exact rfl) :
  L P n opa QQ (⟨d,.call { callee:=.value (.func f),args:=args.toArray,argTypes:=tys },ty,pos,es,none⟩::rest) ρ w:=
 Zz rfl hd (by
  unfold Mk.Yields;simp only[execOp,resolve,ha.eqA,ev,Deferred.ofValue,Sem.run_bind,Sem.run_pure,Result.andThen_ok,invoke]
  simp[he]) h
instance dq(c:Int):PC Tryz.prog 142 [.int .u8 c] (.bool (BX c)):=⟨fun w=>by
 refine A9 Tryz.func142 rfl rfl ?_
 refine A6 ?_;exact⟨_,rfl,rfl,rfl⟩⟩
class YX(b:Int):Prop where h:0<b∧b≤16
theorem Mu{a:Int}(h0:0≤a)(h1:a≤255):IntKind.u8.wrap a=a:=by
 simp[IntKind.wrap,IntKind.bits,IntKind.signed];omega
theorem bT(b:UInt8):0≤((b.toNat:Nat):Int)∧((b.toNat:Nat):Int)≤255:=by
 have:=b.toNat_lt;omega
instance gq(b:UInt8)(base:Int)[hb:YX base]:PC Tryz.prog 209 [.int .u8 ((b.toNat:Nat):Int),.int .u64 base] (.int .i64 (BL ((b.toNat:Nat):Int) base)):=⟨fun w=>by
 obtain⟨hb0,hb1⟩:=hb.h;obtain⟨hc0,hc1⟩:=bT b
 generalize ((b.toNat:Nat):Int)=c at *
 have hbw:IntKind.i64.wrap base=base:=wrap_i64 (by omega) (by omega)
 refine A9 Tryz.func209 rfl rfl ?_
 iterate 8 (first|refine U9 ?_|(refine V5 ?_;intro w hw))
 refine BW (fun ρ w'=>Has ρ [(1,.int .u64 base),(5,.int .i64 (Gw c))]∧w'=w) ?_ ?_
 ·refine A6 ?_;refine A7 rfl (fun h=>?_) (fun h=>?_)
  ·refine A6 ?_;refine⟨⟨rfl,?_,trivial⟩,rfl⟩
   have h1:48≤c∧c≤57:=by simpa[N9] using h
   show Value.int .i64 (IntKind.i64.wrap (IntKind.u8.wrap (c-48)))=_
   rw[Mu (by omega) (by omega),wrap_i64 (by omega) (by omega)]
   unfold Gw;rw[if_pos h]
  ·refine A6 ?_;refine A7 rfl (fun h2=>?_) (fun h2=>?_)
   ·refine A6 ?_;refine⟨⟨rfl,?_,trivial⟩,rfl⟩
    have h1:97≤c∧c≤102:=by simpa using h2
    show Value.int .i64 (IntKind.i64.wrap (IntKind.i64.wrap (IntKind.u8.wrap (c-97))+10))=_
    rw[Mu (by omega) (by omega),wrap_i64 (a:=c-97) (by omega) (by omega),wrap_i64 (by omega) (by omega)]
    unfold Gw;rw[if_neg (by simp[h]),if_pos h2]
   ·refine A6 ?_;refine A7 rfl (fun h3=>?_) (fun h3=>?_)
    ·refine A6 ?_;refine⟨⟨rfl,?_,trivial⟩,rfl⟩
     have h1:65≤c∧c≤70:=by simpa using h3
     show Value.int .i64 (IntKind.i64.wrap (IntKind.i64.wrap (IntKind.u8.wrap (c-65))+10))=_
     rw[Mu (by omega) (by omega),wrap_i64 (a:=c-65) (by omega) (by omega),wrap_i64 (by omega) (by omega)]
     unfold Gw;rw[if_neg (by simp[h]),if_neg (by simpa using h2),if_pos h3]
    ·refine A6 ?_;refine⟨⟨rfl,?_,trivial⟩,rfl⟩
     show Value.int .i64 (-1)=_
     unfold Gw;rw[if_neg (by simp[h]),if_neg (by simpa using h2),if_neg (by simpa using h3)]
 ·rintro ρ w' ⟨hρ,rfl⟩
  rw[hρ.eq];refine A6 ?_;rw[hbw];refine A7 rfl (fun h=>?_) (fun h=>?_)
  ·refine A6 ?_;have h:base≤Gw c:=by simpa using h
   exact⟨_,rfl,H0 rfl (by unfold BL;rw[if_pos h]),rfl⟩
  ·refine A6 ?_;have h:¬base≤Gw c:=by simpa using h
   exact⟨_,rfl,H0 rfl (by unfold BL;rw[if_neg h]),rfl⟩⟩
instance cY(s p:ByteArray):PC Tryz.prog 208 [.string s,.string p] (.bool (decide ((p.size:Int)≤s.size)&&decide (G5 s 0 p.size=p))):=⟨fun w=>by
 have h1:PC Tryz.prog 253 [.string s,.string p] (.bool (decide ((p.size:Int)≤s.size)&&decide (G5 s 0 p.size=p))):=⟨fun w=>by
  refine A9 Tryz.func253 rfl rfl ?_
  refine A6 ?_;exact⟨_,rfl,rfl,rfl⟩⟩
 refine A9 Tryz.func208 rfl rfl ?_
 refine A6 ?_;exact⟨_,rfl,rfl,rfl⟩⟩
theorem LK(s:ByteArray)(c:Int)(w:World):(callFunc 254 #[.string s,.int .u8 c]).run Tryz.prog w=.ok (.value (.int .i64 (firstIdx s c.toNat.toUInt8))) w:=by
 rw[run_callFunc_extern Tryz.func254 (by kernel_rfl) (by kernel_rfl) (e:=Extern.BytealgIndexByte.indexByte) (by kernel_rfl) (by kernel_rfl),run_indexByte_string]
 rfl
instance bv(s:ByteArray)(c:Int):PC Tryz.prog 210 [.string s,.int .u8 c] (.int .i64 (firstIdx s c.toNat.toUInt8)):=⟨fun w=>by
 have h1:PC Tryz.prog 211 [.string s,.int .u8 c] (.int .i64 (firstIdx s c.toNat.toUInt8)):=⟨fun w=>by
  refine A9 Tryz.func211 rfl rfl ?_
  refine A6 ?_;refine fQ (vs:=[.string s,.int .u8 c]) (LK s c) ?_
  refine A6 ?_;exact⟨_,rfl,rfl,rfl⟩⟩
 refine A9 Tryz.func210 rfl rfl ?_
 refine A6 ?_;exact⟨_,rfl,rfl,rfl⟩⟩
theorem two_bytes{s:ByteArray}(h:2≤s.size):∃x y:UInt8,B3 s 0=x.toNat∧B3 s 1=y.toNat∧G5 s 0 2=⟨#[x,y]⟩:=by
 have hl:=P8 s
 obtain⟨x,y,r,hr⟩:∃x y r,M8 s=x::y::r:=by
  match hb:M8 s with
  | []=>rw[hb]at hl;simp at hl;omega
  | [x]=>rw[hb]at hl;simp at hl;omega
  | x::y::r=>exact⟨x,y,r,rfl⟩
 refine⟨x,y,?_,?_,?_⟩
 ·show (((M8 s).getD 0 0).toNat:Int)=_;rw[hr];rfl
 ·show (((M8 s).getD 1 0).toNat:Int)=_;rw[hr];rfl
 ·apply Ba;rw[Bn,hr];rfl
theorem DW(x y a b:UInt8):((⟨#[x,y]⟩:ByteArray)=⟨#[a,b]⟩)↔(x.toNat=a.toNat∧y.toNat=b.toNat):=by
 simp[UInt8.toNat_inj]
theorem VX:∀n:Fin 256,decide (0≤firstIdx ⟨#[123,125,40,41,91,93,44,59,58,61,60,62,33,43,45,42,63,46,47]⟩ (UInt8.ofNat n.1))=decide (UInt8.ofNat n.1∈NK):=by decide +kernel
instance fk(s:ByteArray)[hs:SB s]:PC Tryz.prog 143 [.string s] (.int .i64 (I6 s)):=⟨fun w=>by
 have hs:=hs.h
 refine A9 Tryz.func143 rfl rfl ?_
 iterate 4 (first|refine U9 ?_|(refine V5 ?_;intro w hw))
 refine BW (fun ρ w'=>Has ρ [(0,.string s)]∧w'=w∧¬(2≤s.size∧Cg (B3 s 0) (B3 s 1)=true)) ?_ ?_
 ·refine A6 ?_;refine A7 rfl (fun h=>?_) (fun h=>?_)
  ·have h:2≤s.size:=by simp at h;omega
   obtain⟨x,y,hx,hy,hxy⟩:=two_bytes h
   have key:Cg (B3 s 0) (B3 s 1)=true→Ending.returned (.int .i64 2)=Ending.returned (.int .i64 (I6 s)):=fun ht=>by
    unfold I6;rw[if_pos ⟨h,ht⟩];rfl
   rw[hx,hy]at key;refine A6 ?_;rw[show (2:Int).toNat=2 from rfl,hxy];refine A7 rfl (fun h1=>?_) (fun h1=>?_)
   ·refine A6 ?_;refine M7 (by simp only[h1];rfl) ?_
    refine A6 ?_;have q:=(DW _ _ _ _).1 (of_decide_eq_true h1)
    exact⟨_,rfl,key (by simp[Cg,q]),rfl⟩
   refine A6 ?_;refine A7 rfl (fun h2=>?_) (fun h2=>?_)
   ·refine A6 ?_;refine M7 (by simp only[h2];rfl) ?_
    refine A6 ?_;have q:=(DW _ _ _ _).1 (of_decide_eq_true h2)
    exact⟨_,rfl,key (by simp[Cg,q]),rfl⟩
   refine A6 ?_;refine A7 rfl (fun h3=>?_) (fun h3=>?_)
   ·refine A6 ?_;refine M7 (by simp only[h3];rfl) ?_
    refine A6 ?_;have q:=(DW _ _ _ _).1 (of_decide_eq_true h3)
    exact⟨_,rfl,key (by simp[Cg,q]),rfl⟩
   refine A6 ?_;refine A7 rfl (fun h4=>?_) (fun h4=>?_)
   ·refine A6 ?_;refine M7 (by simp only[h4];rfl) ?_
    refine A6 ?_;have q:=(DW _ _ _ _).1 (of_decide_eq_true h4)
    exact⟨_,rfl,key (by simp[Cg,q]),rfl⟩
   refine A6 ?_;refine A7 rfl (fun h5=>?_) (fun h5=>?_)
   ·refine A6 ?_;have q:=(DW _ _ _ _).1 (of_decide_eq_true h5)
    exact⟨_,rfl,key (by simp[Cg,q]),rfl⟩
   ·refine A6 ?_;refine⟨⟨rfl,trivial⟩,rfl,fun hh=>?_⟩
    have hh:=hh.2
    rw[hx,hy]at hh;have q:=fun a b (hq:decide ((⟨#[x,y]⟩:ByteArray)=⟨#[a,b]⟩)=false)=>mt (DW x y a b).2 (of_decide_eq_false hq)
    have q1:=q _ _ h1
    have q2:=q _ _ h2
    have q3:=q _ _ h3
    have q4:=q _ _ h4
    have q5:=q _ _ h5
    simp[Cg]at hh q1 q2 q3 q4 q5
    omega
  ·have h:¬2≤s.size:=by simp at h;omega
   refine A6 ?_;exact⟨⟨rfl,trivial⟩,rfl,fun hh=>h hh.1⟩
 ·rintro ρ w' ⟨hρ,rfl,hn⟩
  rw[hρ.eq];have key:(decide (s≠⟨#[]⟩)&&decide (0≤firstIdx ⟨#[123,125,40,41,91,93,44,59,58,61,60,62,33,43,45,42,63,46,47]⟩ (B3 s 0).toNat.toUInt8))=decide (I6 s=1):=by
   have h1:=VX ⟨(s.data.toList.getD 0 0).toNat,(s.data.toList.getD 0 0).toNat_lt⟩
   have h2:(B3 s 0).toNat.toUInt8=s.data.toList.getD 0 0:=by
    show (((s.data.toList.getD 0 0).toNat:Int).toNat).toUInt8=_
    rw[Int.toNat_natCast];simp
   have h3:UInt8.ofNat (s.data.toList.getD 0 0).toNat=s.data.toList.getD 0 0:=by simp
   rw[h3]at h1;rw[h2,h1];unfold I6;rw[if_neg hn];rw[show decide (s≠⟨#[]⟩)=decide (0<s.size) from decide_eq_decide.2 ne_nilB]
   by_cases e1:0<s.size <;> by_cases e2:s.data.toList.getD 0 0∈NK <;> simp[e1,e2]
  have hp:I6 s=1∨I6 s=0:=by
   unfold I6;rw[if_neg hn];split <;> simp
  refine A6 ?_;refine A7 rfl (fun h=>?_) (fun h=>?_)
  ·have h:=of_decide_eq_true (key.symm.trans h)
   refine A6 ?_;exact⟨_,rfl,H0 rfl (by rw[h];rfl),rfl⟩
  ·have h:=of_decide_eq_false (key.symm.trans h)
   have h0:=hp.resolve_left h
   refine A6 ?_;exact⟨_,rfl,H0 rfl (by rw[h0];rfl),rfl⟩⟩
theorem CV{a:Int}(h0:0≤a)(h1:a≤18446744073709551615):IntKind.u64.wrap a=a:=by
 simp[IntKind.wrap,IntKind.bits,IntKind.signed];omega
theorem Sb(c:Int):Dy c=0∨Dy c=10∨Dy c=20∨Dy c=30:=by
 unfold Dy;repeat(first|split|simp)
def FF(sh:Nat)(s:ByteArray):Nat×Int:=
 if 2≤s.size∧B3 s 0=48∧B3 s 1=120 then
  if s.size=2 then (0,50) else Z8 16 sh (M8 (G5 s 2 s.size))
 else if s.size=0∨(1<s.size∧B3 s 0=48) then (0,50) else Z8 10 sh (M8 s)
def RZ(s:ByteArray):ByteArray:=if 0<Dy (B3 s (s.size-1)) then G5 s 0 (s.size-1) else s
theorem Uv(s:ByteArray):FT s=FF (Dy (B3 s (s.size-1))) (RZ s):=rfl
def PK(base sh:Nat)(s:ByteArray):Nat×Int:=if s.size=0∨(base=10∧1<s.size∧B3 s 0=48) then (0,50) else Z8 base sh (M8 s)
theorem fq{s:ByteArray}:(decide (((⟨#[48,120]⟩:ByteArray).size:Int)≤s.size)&&decide (G5 s 0 (⟨#[48,120]⟩:ByteArray).size=⟨#[48,120]⟩))=decide (2≤s.size∧B3 s 0=48∧B3 s 1=120):=by
 show (decide ((2:Int)≤s.size)&&decide (G5 s 0 2=⟨#[48,120]⟩))=_
 by_cases h:2≤s.size
 ·obtain⟨x,y,hx,hy,hxy⟩:=two_bytes h
  rw[hxy,hx,hy];have h1:(2:Int)≤s.size:=by omega
  have h2:=DW x y 48 120
  simp only[h,h1,h2,decide_true,Bool.true_and,true_and]
  congr 1
  simp
  omega
 ·have h1:¬(2:Int)≤s.size:=by omega
  simp[h,h1]
theorem Zm{sh:Nat}{s:ByteArray}(h:2≤s.size∧B3 s 0=48∧B3 s 1=120):FF sh s=PK 16 sh (G5 s 2 s.size):=by
 unfold FF PK;rw[if_pos h,y6 (Nat.le_refl _)];by_cases h2:s.size=2
 ·rw[if_pos h2,if_pos (.inl (by omega))]
 ·rw[if_neg h2,if_neg (by omega)]
theorem cy{sh:Nat}{s:ByteArray}(h:¬(2≤s.size∧B3 s 0=48∧B3 s 1=120)):FF sh s=PK 10 sh s:=by
 unfold FF PK;rw[if_neg h];simp
theorem drop_at{α:Type}{l:List α}{k:Nat}{x:α}(h:l[k]? = some x):l.drop k=x::l.drop (k+1):=by
 obtain⟨h1,h2⟩:=List.getElem?_eq_some_iff.1 h
 rw[←h2];exact List.drop_eq_getElem_cons h1
theorem RO(s:ByteArray)(hs:s.size≤4611686018427387904)(h0:0<s.size)(w:World) :
  Calls Tryz.prog 141 #[.string s] w fun e w'=>e=.returned (.tuple #[.int .u64 (FT s).1,.int .i64 (FT s).2])∧w'=w:=by
 refine A9 Tryz.func141 rfl rfl ?_
 iterate 9 (first|refine U9 ?_|(refine V5 ?_;intro w hw))
 refine BW (fun ρ w'=>∃s':ByteArray,∃sh:Nat,Has ρ [(0,.string s'),(4,.int .i64 sh)]∧w'=w∧s'=RZ s∧sh=Dy (B3 s (s.size-1))) ?_ ?_
 ·have e1:((s.size:Int)-1).toNat=s.size-1:=by omega
  refine A6 ?_;rw[e1];refine A7 rfl (fun h=>?_) (fun h=>?_)
  ·have h:B3 s (s.size-1)=71:=of_decide_eq_true h
   have hk:Dy (B3 s (s.size-1))=30:=by rw[h];rfl
   refine A6 ?_;rw[e1];exact⟨_,30,⟨rfl,rfl,trivial⟩,rfl,by unfold RZ;rw[hk];rfl,hk.symm⟩
  refine A6 ?_;refine A7 rfl (fun h2=>?_) (fun h2=>?_)
  ·have h2:B3 s (s.size-1)=77:=of_decide_eq_true h2
   have hk:Dy (B3 s (s.size-1))=20:=by rw[h2];rfl
   refine A6 ?_;rw[e1];exact⟨_,20,⟨rfl,rfl,trivial⟩,rfl,by unfold RZ;rw[hk];rfl,hk.symm⟩
  refine A6 ?_;refine A7 rfl (fun h3=>?_) (fun h3=>?_)
  ·have h3:B3 s (s.size-1)=75:=of_decide_eq_true h3
   have hk:Dy (B3 s (s.size-1))=10:=by rw[h3];rfl
   refine A6 ?_;rw[e1];exact⟨_,10,⟨rfl,rfl,trivial⟩,rfl,by unfold RZ;rw[hk];rfl,hk.symm⟩
  ·have h:¬B3 s (s.size-1)=71:=of_decide_eq_false h
   have h2:¬B3 s (s.size-1)=77:=of_decide_eq_false h2
   have h3:¬B3 s (s.size-1)=75:=of_decide_eq_false h3
   have hk:Dy (B3 s (s.size-1))=0:=by unfold Dy;rw[if_neg h,if_neg h2,if_neg h3]
   refine A6 ?_;exact⟨s,0,⟨rfl,rfl,trivial⟩,rfl,by unfold RZ;rw[hk];rfl,hk.symm⟩
 ·rintro ρ w' ⟨s',sh,hρ,rfl,hs',hsh⟩
  rw[hρ.eq,Uv,←hs',←hsh];have hcase:=Sb (B3 s (s.size-1))
  rw[←hsh]at hcase;have hsz:s'.size≤4611686018427387904:=by
   rw[hs'];unfold RZ;split
   ·rw[y6 (by omega)];omega
   ·exact hs
  clear hs' hsh hρ;iterate 4 (first|refine U9 ?_|(refine V5 ?_;intro w hw))
  refine BW (fun ρ w''=>∃s2:ByteArray,∃base:Nat,Has ρ [(0,.string s2),(4,.int .i64 sh),(5,.int .u64 base)]∧w''=w'∧FF sh s'=PK base sh s2∧(base=10∨base=16)∧s2.size≤4611686018427387904) ?_ ?_
  ·refine A6 ?_;rw[fq];refine A7 rfl (fun h=>?_) (fun h=>?_)
   ·have h:=of_decide_eq_true h
    obtain⟨hp1,hp2,hp3⟩:=h;refine A6 ?_;exact⟨G5 s' 2 s'.size,16,⟨rfl,rfl,rfl,trivial⟩,rfl,Zm ⟨hp1,hp2,hp3⟩,.inr rfl,by rw[y6 (Nat.le_refl _)];omega⟩
   ·have h:=of_decide_eq_false h
    refine A6 ?_;exact⟨s',10,⟨rfl,rfl,rfl,trivial⟩,rfl,cy h,.inl rfl,hsz⟩
  ·rintro ρ w'' ⟨s2,base,hρ,rfl,hN,hbase,hsz2⟩
   rw[hρ.eq,hN];clear hN hρ hsz;have key:(decide (s2=⟨#[]⟩)||((decide ((base:Int)=10)&&decide ((1:Int)<s2.size))&&decide (B3 s2 0=48)))=decide (s2.size=0∨(base=10∧1<s2.size∧B3 s2 0=48)):=by
    rw[show decide (s2=⟨#[]⟩)=decide (s2.size=0) from decide_eq_decide.2 eq_nilB]
    rw[show decide ((base:Int)=10)=decide (base=10) from decide_eq_decide.2 (by omega),show decide ((1:Int)<s2.size)=decide (1<s2.size) from decide_eq_decide.2 (by omega)]
    by_cases e1:s2.size=0 <;> by_cases e2:base=10 <;> by_cases e3:1<s2.size <;> by_cases e4:B3 s2 0=48 <;> simp[e1,e2,e3,e4]
   refine A6 ?_;refine A7 rfl (fun h=>?_) (fun h=>?_)
   ·have h:=of_decide_eq_true (key.symm.trans h)
    refine A6 ?_;exact⟨_,rfl,by unfold PK;rw[if_pos h];rfl,rfl⟩
   have h:=of_decide_eq_false (key.symm.trans h)
   have hN:PK base sh s2=Z8 base sh (M8 s2):=by unfold PK;rw[if_neg h]
   rw[hN];clear hN key;haveI:YX (base:Int):=⟨by omega⟩
   have hbl:=P8 s2
   refine A6 ?_;refine B5 (fun μ ρ w=>∃k:Nat,μ+k=s2.size∧Has ρ [(0,.string s2),(4,.int .i64 sh),(5,.int .u64 base),(6,.int .i64 k)]∧((M8 s2).take k).all (fun c=>decide (0≤BL c.toNat base))=true∧w=w'') s2.size ⟨0,by omega,⟨rfl,rfl,rfl,rfl,trivial⟩,rfl,rfl⟩ ?_
   rintro μ ρ w ⟨k,hk,hρ,hall,rfl⟩
   rw[hρ.eq];refine A6 ?_;refine A7 rfl (fun h1=>?_) (fun h1=>?_)
   ·have hkn:k<s2.size:=by simpa using h1
    obtain⟨c,hc⟩:=B4 (l:=M8 s2) (k:=k) (by omega)
    have hg:s2.data.toList.getD (k:Int).toNat 0=c:=by
     show (M8 s2).getD k 0=c
     rw[List.getD_eq_getElem?_getD,hc];rfl
    have hmem:c∈M8 s2:=List.mem_of_getElem? hc
    refine A6 ?_;rw[hg];refine A7 rfl (fun h2=>?_) (fun h2=>?_)
    ·have h2:BL c.toNat base<0:=of_decide_eq_true h2
     have hf:(M8 s2).all (fun c=>decide (0≤BL c.toNat base))=false:=by
      rw[List.all_eq_false];exact⟨c,hmem,by simp;omega⟩
     refine A6 ?_;exact⟨_,rfl,by unfold Z8;rw[if_pos hf];rfl,rfl⟩
    ·have h2:¬BL c.toNat base<0:=of_decide_eq_false h2
     refine A6 ?_;refine⟨μ-1,by omega,k+1,by omega,⟨rfl,rfl,rfl,rfl,trivial⟩,?_,rfl⟩
     rw[List.take_add_one,hc,List.all_append,hall];simp;omega
   have hkn:¬k<s2.size:=by simpa using h1
   rw[List.take_of_length_le (by omega)]at hall
   clear h1 hkn;refine A6 ?_;refine B5 (fun μ ρ w'=>∃k v:Nat,μ+k=s2.size∧Has ρ [(0,.string s2),(4,.int .i64 sh),(5,.int .u64 base),(7,.int .u64 v),(8,.int .i64 k)]∧JE base (M8 s2) 0=JE base ((M8 s2).drop k) v∧v≤i9∧w'=w) s2.size ⟨0,0,by omega,⟨rfl,rfl,rfl,rfl,rfl,trivial⟩,rfl,by unfold i9;omega,rfl⟩ ?_
   rintro μ ρ w' ⟨k,v,hk,hρ,hval,hvm,rfl⟩
   rw[hρ.eq];refine A6 ?_;refine A7 rfl (fun h1=>?_) (fun h1=>?_)
   ·have hkn:k<s2.size:=by simpa using h1
    obtain⟨c,hc⟩:=B4 (l:=M8 s2) (k:=k) (by omega)
    have hg:s2.data.toList.getD (k:Int).toNat 0=c:=by
     show (M8 s2).getD k 0=c
     rw[List.getD_eq_getElem?_getD,hc];rfl
    have hd0:0≤BL c.toNat base:=by
     have:=List.all_eq_true.1 hall c (List.mem_of_getElem? hc)
     simpa using this
    have hdr:=(Se c.toNat base (by omega)).resolve_left (by omega)
    rw[drop_at hc]at hval;have hval:JE base (M8 s2) 0=JE base ((M8 s2).drop (k+1)) (v*base+(BL c.toNat base).toNat):=hval
    obtain⟨d,hd⟩:∃d:Nat,BL c.toNat base=(d:Int):=⟨(BL c.toNat base).toNat,by omega⟩
    rw[hd]at hval hdr
    rw[Int.toNat_natCast]at hval;have hmost:(i9:Int)=18446744073709551615:=rfl
    have W1:IntKind.u64.wrap (d:Int)=d:=CV (by omega) (by omega)
    have Aj:IntKind.u64.wrap (18446744073709551615-(d:Int))=18446744073709551615-d:=CV (by omega) (by omega)
    have hdiv:(18446744073709551615-(d:Int)).tdiv base=(18446744073709551615-(d:Int)) / base:=Int.tdiv_eq_ediv_of_nonneg (by omega)
    have hq0:0≤(18446744073709551615-(d:Int)) / base:=Int.ediv_nonneg (by omega) (by omega)
    have hq1:(18446744073709551615-(d:Int)) / base≤18446744073709551615-(d:Int):=Int.ediv_le_self _ (by omega)
    have hw3:IntKind.u64.wrap ((18446744073709551615-(d:Int)) / base)=(18446744073709551615-(d:Int)) / base:=CV hq0 (by omega)
    have hle:(v:Int)≤(18446744073709551615-(d:Int)) / base↔(v:Int)*base≤18446744073709551615-d:=Int.le_ediv_iff_mul_le (by omega)
    refine A6 ?_;rw[hg,hd,W1,Aj,hdiv,hw3];refine A7 rfl (fun h2=>?_) (fun h2=>?_)
    ·have h2:(18446744073709551615-(d:Int)) / base<v:=of_decide_eq_true h2
     have h3:¬(v:Int)*base≤18446744073709551615-d:=fun hh=>by have:=hle.2 hh;omega
     have h4:i9<v*base+d:=by
      have:(i9:Int)<((v*base+d:Nat):Int):=by rw[hmost];push_cast;omega
      omega
     have h5:=TN base (by omega) ((M8 s2).drop (k+1)) (v*base+d)
     have h6:i9 >>> sh≤i9:=Nat.shiftRight_le _ _
     refine A6 ?_;refine⟨_,rfl,?_,rfl⟩
     unfold Z8;rw[if_neg (by rw[hall];simp),if_pos (by rw[hval];omega)];rfl
    ·have h2:¬(18446744073709551615-(d:Int)) / base<v:=of_decide_eq_false h2
     have h3:(v:Int)*base≤18446744073709551615-d:=hle.1 (by omega)
     have h3':0≤(v:Int)*base:=Int.mul_nonneg (by omega) (by omega)
     have hw4:IntKind.u64.wrap ((v:Int)*base)=v*base:=CV h3' (by omega)
     have hw5:IntKind.u64.wrap ((v:Int)*base+d)=v*base+d:=CV (by omega) (by omega)
     refine A6 ?_;refine⟨μ-1,by omega,k+1,v*base+d,by omega,⟨rfl,rfl,rfl,?_,rfl,trivial⟩,hval,?_,rfl⟩
     ·show Value.int .u64 (IntKind.u64.wrap (IntKind.u64.wrap ((v:Int)*base)+d))=_
      rw[hw4,hw5];push_cast;rfl
     ·have:((v*base+d:Nat):Int)≤(i9:Int):=by rw[hmost];push_cast;omega
      omega
   have hkn:¬k<s2.size:=by simpa using h1
   rw[List.drop_eq_nil_of_le (by omega)]at hval
   have hval:JE base (M8 s2) 0=v:=hval
   have hcore:Z8 base sh (M8 s2)=if i9 >>> sh<v then (0,6) else (v <<< sh,0):=by
    unfold Z8;rw[if_neg (by rw[hall];simp),hval]
   rw[hcore];have key1:(18446744073709551615:Int).fdiv (2 ^ (min (sh:Int).toNat IntKind.u64.bits))=((i9 >>> sh:Nat):Int):=by
    rcases hcase with rfl|rfl|rfl|rfl <;> decide +kernel
   have hmin:min (sh:Int).toNat IntKind.u64.bits=sh:=by
    rcases hcase with rfl|rfl|rfl|rfl <;> rfl
   refine A6 ?_;rw[key1];refine A7 rfl (fun h2=>?_) (fun h2=>?_)
   ·have h2:i9 >>> sh<v:=by have:=of_decide_eq_true h2;omega
    refine A6 ?_;refine⟨_,rfl,?_,rfl⟩
    rw[if_pos h2];rfl
   ·have h2:¬i9 >>> sh<v:=by have:=of_decide_eq_false h2;omega
    have h3:v*2 ^ sh≤i9:=by
     rw[Nat.shiftRight_eq_div_pow]at h2;exact(Nat.le_div_iff_mul_le (Nat.two_pow_pos sh)).1 (by omega)
    have h4:IntKind.u64.wrap ((v:Int)*2 ^ (min (sh:Int).toNat IntKind.u64.bits))=((v <<< sh:Nat):Int):=by
     rw[hmin,Nat.shiftLeft_eq];have e:((v*2 ^ sh:Nat):Int)=(v:Int)*2 ^ sh:=by push_cast;rfl
     rw[←e];have hmost:i9=18446744073709551615:=rfl
     exact CV (by omega) (by omega)
    refine A6 ?_;refine⟨_,rfl,?_,rfl⟩
    rw[if_neg h2];show Ending.returned (.tuple #[.int .u64 (IntKind.u64.wrap ((v:Int)*2 ^ (min (sh:Int).toNat IntKind.u64.bits))),.int .i64 0])=_
    rw[h4]
end Go.Proofs.YtlimglpjpcfpdaaGreat
end
section
open Go Mk
namespace Go.Proofs.YtlimglpjpcfpdaaGreat
set_option maxHeartbeats 4000000
attribute [local irreducible] Calls FT I6
def dP(t:eb):Tok:=⟨t.kind,t.text,t.value,0,0⟩
theorem Tb(s:ByteArray):runN s≤s.size:=by
 have:(s.data.toList.takeWhile M9).length≤s.data.toList.length:=(List.takeWhile_sublist _).length_le
 rw[←P8];exact this
theorem Jc{s:ByteArray}(h0:0<s.size)(h:M9 (s.data.toList.getD 0 0)=true):0<runN s:=by
 have hl:=P8 s
 unfold runN;cases hb:s.data.toList with
 | nil=>rw[show M8 s=[] from hb]at hl;simp at hl;omega
 | cons c l=>
  rw[hb]at h;have h:M9 c=true:=h
  simp[List.takeWhile_cons,h]
theorem bQ{s:ByteArray}{k:Nat}(h1:1≤k)(hk:k≤s.size)(ha:∀i,1≤i→i<k→BX (B3 s i)=true)(hn:k<s.size→BX (B3 s k)=false):BE s=k:=by
 have hl:=P8 s
 have hg:∀i,((M8 s).drop 1).getD i 0=(M8 s).getD (i+1) 0:=fun i=>by
  rw[List.getD_eq_getElem?_getD,List.getD_eq_getElem?_getD,List.getElem?_drop,Nat.add_comm]
 unfold BE;rw[x6 (k:=k-1) (by simp[hl];omega) (fun i hi=>by rw[hg];exact ha (i+1) (by omega) (by omega)) (fun hh=>by
  rw[hg,show k-1+1=k from by omega]
  exact hn (by simp[hl]at hh;omega))]
 omega
theorem Le(s:ByteArray):I6 s≤s.size:=by
 unfold I6;split
 ·rename_i h;exact h.1
 ·split
  ·rename_i h;exact h.1
  ·omega
theorem Xi(Γ:C8)(s:ByteArray)(hs:s.size≤4611686018427387904)(h0:0<s.size):PG Tryz.prog Γ 87 [.string s] (.tuple #[.agg (enc (dP (O9 s))).toArray,.int .i64 (O9 s).n,.int .i64 (O9 s).err]):=⟨fun S w hw=>by
 haveI:SB s:=⟨by omega⟩
 have hrl:=Tb s
 refine K9 Tryz.func87 rfl rfl ?_
 refine A6 ?_;refine C0 ?_;intro b w hw;refine A6 ?_;refine A7 rfl (fun h=>?_) (fun h=>?_)
 ·have h:H4 (B3 s 0)=true:=h
  have hT:O9 s=⟨1,G5 s 0 (runN s),0,runN s,0⟩:=by unfold O9;rw[if_pos h]
  rw[hT];refine A6 ?_;refine B1 ?_;intro w hw;have hw:Wd Γ (.blk b (.cells (enc (⟨1,G5 s 0 (runN s),0,0,0⟩:Tok)).toArray 178)::S) w:=hw
  refine A6 ?_;exact⟨[.agg (enc (⟨1,G5 s 0 (runN s),0,0,0⟩:Tok)).toArray,.int .i64 (runN s),.int .i64 0],⟨T4 (i:=0) hw rfl rfl rfl,rfl,rfl,trivial⟩,rfl,hw.drop⟩
 have h:H4 (B3 s 0)=false:=h
 refine A6 ?_;refine A7 rfl (fun h2=>?_) (fun h2=>?_)
 ·have h2:N9 (B3 s 0)=true:=h2
  have hrp:0<runN s:=Jc h0 (by unfold M9;rw[show N9 ((s.data.toList.getD 0 0).toNat:Int)=true from h2];simp)
  have hsz:(G5 s 0 (runN s)).size=runN s:=by rw[y6 hrl];omega
  have hT:O9 s=if (FT (G5 s 0 (runN s))).2=0 then ⟨2,⟨#[]⟩,(FT (G5 s 0 (runN s))).1,runN s,0⟩ else IL (FT (G5 s 0 (runN s))).2:=by unfold O9;rw[if_neg (by rw[h];simp),if_pos h2]
  rw[hT];refine A6 ?_;refine D3 ?_;refine(RO (G5 s 0 (runN s)) (by omega) (by omega) w).mono ?_
  rintro e w' ⟨rfl,rfl⟩
  refine⟨_,rfl,?_⟩;generalize FT (G5 s 0 (runN s))=r
  obtain⟨v,er⟩:=r;refine A6 ?_;refine A7 rfl (fun h3=>?_) (fun h3=>?_)
  ·have h3:¬er=0:=by simpa using h3
   refine A6 ?_;refine B1 ?_;intro w hw;have hw:Wd Γ (.blk b (.cells (enc (⟨0,⟨#[]⟩,0,0,0⟩:Tok)).toArray 178)::S) w:=hw
   refine A6 ?_;refine⟨[.agg (enc (⟨0,⟨#[]⟩,0,0,0⟩:Tok)).toArray,.int .i64 0,.int .i64 er],⟨T4 (i:=0) hw rfl rfl rfl,rfl,rfl,trivial⟩,?_,hw.drop⟩
   rw[if_neg h3];rfl
  ·have h3:er=0:=by simpa using h3
   refine A6 ?_;refine B1 ?_;intro w hw;have hw:Wd Γ (.blk b (.cells (enc (⟨2,⟨#[]⟩,v,0,0⟩:Tok)).toArray 178)::S) w:=hw
   refine A6 ?_;refine⟨[.agg (enc (⟨2,⟨#[]⟩,v,0,0⟩:Tok)).toArray,.int .i64 (runN s),.int .i64 0],⟨T4 (i:=0) hw rfl rfl rfl,rfl,rfl,trivial⟩,?_,hw.drop⟩
   rw[if_pos h3];rfl
 have h2:N9 (B3 s 0)=false:=h2
 refine A6 ?_;refine A7 rfl (fun h3=>?_) (fun h3=>?_)
 ·have h3:B3 s 0=34:=of_decide_eq_true h3
  have hT:O9 s=if BE s<s.size∧B3 s (BE s)=34 then ⟨3,G5 s 1 (BE s),0,BE s+1,0⟩ else IL 50:=by unfold O9;rw[if_neg (by rw[h];simp),if_neg (by rw[h2];simp),if_pos h3]
  rw[hT];refine A6 ?_;refine B5 (fun μ ρ w=>∃k:Nat,μ+k=s.size∧1≤k∧Has ρ [(0,.string s),(2,.pointer (some ⟨b,0,none⟩)),(10,.int .i64 k)]∧(∀i,1≤i→i<k→BX (B3 s i)=true)∧Wd Γ (.blk b (.cells (enc (⟨0,⟨#[]⟩,0,0,0⟩:Tok)).toArray 178)::S) w) (s.size-1) ⟨1,by omega,by omega,⟨rfl,rfl,rfl,trivial⟩,fun i h1 h2=>by omega,hw⟩ ?_
  clear hw;rintro μ ρ w ⟨k,hk,hk1,hρ,hall,hw⟩
  rw[hρ.eq];refine A6 ?_;refine A7 rfl (fun h4=>?_) (fun h4=>?_)
  ·have h4:k<s.size∧BX (B3 s k)=true:=by
    rw[Bool.and_eq_true,decide_eq_true_eq]at h4;exact⟨by omega,h4.2⟩
   refine A6 ?_;refine⟨μ-1,by omega,k+1,by omega,by omega,⟨rfl,rfl,rfl,trivial⟩,fun i h1 h2=>?_,hw⟩
   by_cases e:i=k
   ·subst e;exact h4.2
   ·exact hall i h1 (by omega)
  ·have hS:BE s=k:=bQ hk1 (by omega) hall (fun hlt=>by
    have e1:decide ((k:Int)<s.size)=true:=by simp;omega
    rw[e1,Bool.true_and]at h4;exact h4)
   rw[hS];clear h4;have hks:k≤s.size:=by omega
   refine A6 ?_;have key:(decide ((k:Int)=s.size)||decide (B3 s k≠34)) = !decide (k<s.size∧B3 s k=34):=by
    rw[show decide ((k:Int)=s.size)=decide (¬k<s.size) from decide_eq_decide.2 (by omega)]
    by_cases e1:k<s.size <;> by_cases e2:B3 s k=34 <;> simp[e1,e2]
   refine A7 rfl (fun h4=>?_) (fun h4=>?_)
   ·have h4:=key.symm.trans h4
    have h4:¬(k<s.size∧B3 s k=34):=fun hh=>by rw[decide_eq_true hh]at h4;cases h4
    refine A6 ?_;refine B1 ?_;intro w hw;have hw:Wd Γ (.blk b (.cells (enc (⟨0,⟨#[]⟩,0,0,0⟩:Tok)).toArray 178)::S) w:=hw
    refine A6 ?_;refine⟨[.agg (enc (⟨0,⟨#[]⟩,0,0,0⟩:Tok)).toArray,.int .i64 0,.int .i64 50],⟨T4 (i:=0) hw rfl rfl rfl,rfl,rfl,trivial⟩,?_,hw.drop⟩
    rw[if_neg h4];rfl
   ·have h4:=key.symm.trans h4
    have h4:k<s.size∧B3 s k=34:=by simpa using h4
    have hkl:=h4.1
    refine A6 ?_;refine B1 ?_;intro w hw;have hw:Wd Γ (.blk b (.cells (enc (⟨3,G5 s 1 k,0,0,0⟩:Tok)).toArray 178)::S) w:=hw
    refine A6 ?_;refine⟨[.agg (enc (⟨3,G5 s 1 k,0,0,0⟩:Tok)).toArray,.int .i64 ((k:Int)+1),.int .i64 0],⟨T4 (i:=0) hw rfl rfl rfl,rfl,rfl,trivial⟩,?_,hw.drop⟩
    rw[if_pos h4];rfl
 ·have h3:¬B3 s 0=34:=of_decide_eq_false h3
  have hT:O9 s=if I6 s=0 then IL 50 else ⟨4,G5 s 0 (I6 s),0,I6 s,0⟩:=by unfold O9;rw[if_neg (by rw[h];simp),if_neg (by rw[h2];simp),if_neg h3]
  have hpl:=Le s
  rw[hT];refine A6 ?_;refine A7 rfl (fun h4=>?_) (fun h4=>?_)
  ·have h4:I6 s=0:=by have:=of_decide_eq_true h4;omega
   refine A6 ?_;refine B1 ?_;intro w hw;have hw:Wd Γ (.blk b (.cells (enc (⟨0,⟨#[]⟩,0,0,0⟩:Tok)).toArray 178)::S) w:=hw
   refine A6 ?_;refine⟨[.agg (enc (⟨0,⟨#[]⟩,0,0,0⟩:Tok)).toArray,.int .i64 0,.int .i64 50],⟨T4 (i:=0) hw rfl rfl rfl,rfl,rfl,trivial⟩,?_,hw.drop⟩
   rw[if_pos h4];rfl
  ·have h4:¬I6 s=0:=by have:=of_decide_eq_false h4;omega
   refine A6 ?_;refine B1 ?_;intro w hw;have hw:Wd Γ (.blk b (.cells (enc (⟨4,G5 s 0 (I6 s),0,0,0⟩:Tok)).toArray 178)::S) w:=hw
   refine A6 ?_;refine⟨[.agg (enc (⟨4,G5 s 0 (I6 s),0,0,0⟩:Tok)).toArray,.int .i64 (I6 s),.int .i64 0],⟨T4 (i:=0) hw rfl rfl rfl,rfl,rfl,trivial⟩,?_,hw.drop⟩
   rw[if_neg h4];rfl⟩
end Go.Proofs.YtlimglpjpcfpdaaGreat
end
