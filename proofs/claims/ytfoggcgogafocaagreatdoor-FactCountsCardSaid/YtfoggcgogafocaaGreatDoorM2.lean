/- Texts of this proof, one behind another. -/
import Derived.Test.YtfoggcgogafocaaGreatDoorM1
import Derived.RangeFuncRecord
import Derived.Maps.RangeRun
import Derived.Shelf.SlSortCmp.NoneTotal
import Derived.Shelf.SlMaps.Clone
import Derived.Defers
import Derived.Recover
import Derived.WalkSmall
import Derived.Scope
import Derived.Test.YtfoggcgogafocaaGreatDoorChecked
import Derived.Laws.Externs
import Derived.Lib.Bytealg
set_option linter.unusedVariables false
set_option linter.unusedSimpArgs false
section
open Go
namespace Mk
def ovr:List Nat→Fr→Fr→Fr
 | [],_,ρ=>ρ
 | d::N,g,ρ=>upd (ovr N g ρ) d (g d)
theorem ovr_in{d:Nat}{g ρ:Fr}:∀ {N:List Nat},d∈N→ovr N g ρ d=g d
 | e::N,h=>by
  by_cases he:d=e
  ·subst he;exact upd_same _ _ _
  ·exact(upd_ne _ _ he).trans (ovr_in ((List.mem_cons.1 h).resolve_left he))
theorem ovr_out{d:Nat}{g ρ:Fr}:∀ {N:List Nat},d∉N→ovr N g ρ d=ρ d
 | [],_=>rfl
 | e::N,h=>(upd_ne _ _ (fun he=>h (by simp[he]))).trans (ovr_out fun hm=>h (by simp[hm]))
def noFr:Fr:=fun _=>undef
structure Mt where
 ρ:Fr
 M:Nat→Fr→List Res
structure Mc where
 x:Value
 m:Nat→Fr→List Res
structure MEnv where
 P:Program
 n:Nat
 ops:List Oper
 Γ:Gho
 K:List Res
 wr:List (List Nat)
 tc:List (List Nat)
 stab:List (List Nat)
 fixed:Bool
section
variable (V:MEnv)
def MEnv.w(i:Nat):List Nat:=V.wr.getD i []
def MEnv.t(i:Nat):List Nat:=V.tc.getD i []
def MEnv.s(x:Nat):List Nat:=V.stab.getD x []
def MEnv.N:List Nat:=V.stab.flatten
def MEnv.free(o:Oper):Bool:=match o.dst with|some d=>V.N.contains d|none=>true
def MEnv.rl(Γ Γ':Gho):Prop:=match V.fixed with|true=>Γ'=Γ|false=>Γ.le Γ'
def cellsOf(l:List Nat)(M:Nat→Fr→List Res)(g:Fr):List Res:=l.flatMap fun x=>M x (ovr (V.s x) g noFr)
def Mt.nxt(i:Nat)(st:Mt)(c:Mc):Nat→Fr→List Res:=fun x=>bif (V.w i).contains x then c.m x else st.M x
def Mt.next(i:Nat)(st:Mt)(o:Oper)(c:Mc):Mt:=⟨putO st.ρ o.dst c.x,Mt.nxt V i st c⟩
structure MGood(i:Nat)(o:Oper)(st:Mt)(c:Mc):Prop where
 run:∀Γ' Y w g,V.rl V.Γ Γ'→Wd Γ' (V.K++(cellsOf V (V.t i) st.M g++Y)) w →
  (wantF V.ops o (ovr V.N g st.ρ)=true→Step V.P o (ovr V.N g st.ρ) w fun v w'=>∃Γ'',V.rl Γ' Γ''∧Wd Γ'' (V.K++(cellsOf V (V.t i) (Mt.nxt V i st c) (putO g o.dst v)++Y)) w'∧(V.free o=false→v=c.x)) ∧
  (wantF V.ops o (ovr V.N g st.ρ)=false→Wd Γ' (V.K++(cellsOf V (V.t i) (Mt.nxt V i st c) (putO g o.dst undef)++Y)) w∧(V.free o=false→undef=c.x))
def MFinal(Q:Fr→World→Prop)(st:Mt):Prop:=∀Γ' w g,V.rl V.Γ Γ'→Wd Γ' (V.K++cellsOf V (List.range V.stab.length) st.M g) w→Q (ovr V.N g st.ρ) w
def MSw(Q:Fr→World→Prop):Nat→List Oper→Mt→Prop
 | _,[],st=>MFinal V Q st
 | i,o::l,st=>∃c,MGood V i o st c∧MSw Q (i+1) l (Mt.next V i st o c)
end
def clash(wr tc:List (List Nat))(i j:Nat):Bool:=(wr.getD i []).any (fun x=>(tc.getD j []).contains x)||(wr.getD j []).any fun x=>(tc.getD i []).contains x
def dup:List Nat→Bool
 | []=>false
 | x::l=>l.contains x||dup l
def checkM(n:Nat)(ops:List Oper)(wr tc stab:List (List Nat)):Bool:=
  let A:=ancs [] ops
  (List.range ops.length).all fun j=>match ops[j]? with
    | none=>true
    | some oj=>(oj.after.toList.all fun e=>!Region.binds .any e||Nat.blt e.on j)&&checkR.okNoSel oj&&(match oj.guard with|some (g,_)=>((ops[g]?).bind (·.dst)).isSome|none=>true)&&okDst n oj.dst &&
      ((wr.getD j []).all fun x=>(tc.getD j []).contains x)&&((tc.getD j []).all fun x=>Nat.blt x stab.length) && !dup (tc.getD j []) &&
      (match oj.dst with|some d=>(List.range stab.length).all fun x=>!((stab.getD x []).contains d)||(wr.getD j []).contains x|none=>true) &&
      ((List.range j).all fun i=>match ops[i]? with
        | none=>true
        | some oi=>(apartR ops oi oj && !clash wr tc i j)||(A.getD j []).contains i)
def MChain(V:MEnv)(Q:Fr→World→Prop):Nat→List Oper→List Mc→Mt→Prop
 | _,[],[],st=>MFinal V Q st
 | i,o::l,c::cs,st=>MGood V i o st c∧MChain V Q (i+1) l cs (Mt.next V i st o c)
 | _,_,_,_=>False
theorem MSw.chain{V:MEnv}{Q:Fr→World→Prop}:∀(l:List Oper) (i:Nat) (st:Mt),MSw V Q i l st→∃cs,MChain V Q i l cs st
 | [],_,_,h=>⟨[],h⟩
 | _::l,i,st,⟨c,hg,h⟩=>by
  obtain⟨cs,hc⟩:=MSw.chain l (i+1) _ h
  exact⟨c::cs,hg,hc⟩
def mstL(V:MEnv):List Oper→List Mc→Nat→Mt→Nat→Mt
 | o::l,c::cs,i,st,k+1=>mstL V l cs (i+1) (Mt.next V i st o c) k
 | _,_,_,st,_=>st
section
variable {V:MEnv}{Q:Fr→World→Prop}
theorem MEnv.rl_refl(Γ:Gho):V.rl Γ Γ:=by unfold MEnv.rl;cases V.fixed <;> first|rfl|exact Gho.le.refl _
theorem MEnv.rl_trans{a b c:Gho}(h:V.rl a b)(k:V.rl b c):V.rl a c:=by
 unfold MEnv.rl at *;cases hf:V.fixed <;> simp only[hf] at * <;> first|exact k.trans h|exact Gho.le.trans h k
theorem MChain.good:∀ {l:List Oper} {i:Nat} {cs:List Mc} {st:Mt} (k:Nat) {o:Oper},MChain V Q i l cs st→l[k]? = some o→∃c,cs[k]? = some c∧MGood V (i+k) o (mstL V l cs i st k) c
 | o'::l,i,c::cs,st,0,o,h,ho=>by
  simp at ho;subst ho
  exact⟨c,rfl,h.1⟩
 | o'::l,i,c::cs,st,k+1,o,h,ho=>by
  obtain⟨c',h1,h2⟩:=MChain.good k h.2 (by simpa using ho)
  refine⟨c',by simpa using h1,?_⟩
  rw[show i+(k+1)=i+1+k from by omega]
  exact h2
 | [],_,_,_,_,_,_,ho=>by simp at ho
 | _::_,_,[],_,_,_,h,_=>h.elim
theorem MChain.final:∀ {l:List Oper} {i:Nat} {cs:List Mc} {st:Mt},MChain V Q i l cs st→MFinal V Q (mstL V l cs i st l.length)
 | [],_,[],_,h=>h
 | o::l,i,c::cs,st,h=>by
  have:=MChain.final (l:=l) (cs:=cs) h.2
  simpa[mstL] using this
 | [],_,_::_,_,h=>h.elim
 | _::_,_,[],_,h=>h.elim
theorem mstL_succ:∀ {l:List Oper} {cs:List Mc} {i:Nat} {st:Mt} {k:Nat} {o:Oper} {c:Mc},l[k]? = some o→cs[k]? = some c→mstL V l cs i st (k+1)=Mt.next V (i+k) (mstL V l cs i st k) o c
 | o'::l,c'::cs,i,st,0,o,c,ho,hc=>by
  simp at ho hc;subst ho;subst hc
  cases l <;> cases cs <;> rfl
 | o'::l,c'::cs,i,st,k+1,o,c,ho,hc=>by
  have:=mstL_succ (l:=l) (cs:=cs) (i:=i+1) (st:=Mt.next V i st o' c') (k:=k) (by simpa using ho) (by simpa using hc)
  rw[show i+(k+1)=i+1+k from by omega]
  exact this
 | [],_,_,_,_,_,_,ho,_=>by simp at ho
 | _::_,[],_,_,_,_,_,_,hc=>by simp at hc
theorem mstL_zero{l:List Oper}{cs:List Mc}{i:Nat}{st:Mt}:mstL V l cs i st 0=st:=by cases l <;> cases cs <;> rfl
structure MInv(V:MEnv)(st0:Mt)(cs:List Mc)(listed:Array Bool)(a:Act)(w:World)(done:List Nat)(Γ':Gho):Prop where
 defers:a.defers=[]
 size:a.tmps.size=V.n
 lsz:listed.size=V.ops.length
 nd:done.Nodup
 lt:∀i∈done,i<V.ops.length
 ls:∀i,i<V.ops.length→(listed.getD i true=true↔i∈done)
 cl:Closed V.ops (·∈done)
 le:V.rl V.Γ Γ'
 init:∀t,t∉V.N→(∀i∈done,∀o,V.ops[i]? = some o→o.dst≠some t)→fnOf a t=st0.ρ t
 last:∀i∈done,∀o t c,V.ops[i]? = some o→o.dst=some t→t∉V.N→cs[i]? = some c→(∀j∈done,∀o',V.ops[j]? = some o'→o'.dst=some t→j≤i)→fnOf a t=c.x
 wd:∃p:Nat→Nat,(∀x,p x≤V.ops.length∧∀i,x∈V.w i→i<V.ops.length→(i∈done↔i<p x)) ∧
  Wd Γ' (V.K++(List.range V.stab.length).flatMap fun x=>(mstL V V.ops cs 0 st0 (p x)).M x (ovr (V.s x) (fnOf a) noFr)) w
theorem dup_nodup:∀ {l:List Nat},dup l=false→l.Nodup
 | [],_=>List.nodup_nil
 | x::l,h=>by
  simp only[dup,Bool.or_eq_false_iff]at h
  exact List.nodup_cons.2 ⟨by simpa using h.1,dup_nodup h.2⟩
theorem checkM_at{n:Nat}{ops:List Oper}{wr tc stab:List (List Nat)}(h:checkM n ops wr tc stab=true){j:Nat}{oj:Oper}(hj:ops[j]? = some oj) :
  (∀e∈oj.after,Region.binds .any e=true→e.on<j)∧(∀cs b,oj.op≠.select cs b)∧(∀g want,oj.guard=some (g,want)→∃d,(ops[g]?).bind (·.dst)=some d)∧okDst n oj.dst=true ∧
  (∀x∈wr.getD j [],x∈tc.getD j [])∧(∀x∈tc.getD j [],x<stab.length)∧(tc.getD j []).Nodup∧(∀d x,oj.dst=some d→d∈stab.getD x []→x∈wr.getD j []) ∧
  ∀i oi,i<j→ops[i]? = some oi→(apartR ops oi oj=true∧clash wr tc i j=false)∨i∈(ancs [] ops).getD j []:=by
 have hlt:j<ops.length:=(List.getElem?_eq_some_iff.1 hj).1
 unfold checkM at h;simp only[List.all_eq_true,List.mem_range]at h
 have h1:=h j hlt
 simp only[hj,Bool.and_eq_true]at h1
 obtain⟨⟨⟨⟨⟨⟨⟨⟨h2,h3⟩,h4⟩,h6⟩,h7⟩,h8⟩,h9⟩,h10⟩,h5⟩:=h1;refine⟨fun e he hb=>?_,fun c b hs=>?_,fun g want hg=>?_,h6,fun x hx=>?_,fun x hx=>?_,dup_nodup (by simpa using h9),fun d x hd hx=>?_,fun i oi hi ho=>?_⟩
 ·have:=(List.all_eq_true.1 h2) e (by simpa using he)
  rw[hb]at this;simp at this;omega
 ·unfold checkR.okNoSel at h3;rw[hs]at h3;simp at h3
 ·rw[hg]at h4;exact Option.isSome_iff_exists.1 h4
 ·simpa using (List.all_eq_true.1 h7) x hx
 ·exact Nat.le_of_ble_eq_true ((List.all_eq_true.1 h8) x hx)
 ·rw[hd]at h10;by_cases hl:x<stab.length
  ·have:=(List.all_eq_true.1 h10) x (List.mem_range.2 hl)
   simp[hx]at this
   exact(this.resolve_left (fun h=>h hx))
  ·rw[List.getD_eq_getElem?_getD,List.getElem?_eq_none (by omega)]at hx;simp at hx
 ·have:=(List.all_eq_true.1 h5) i (List.mem_range.2 hi)
  simp only[ho,Bool.and_eq_true,Bool.or_eq_true]at this
  exact this.imp (fun h=>⟨h.1,by simpa using h.2⟩) (fun h=>by simpa using h)
theorem clash_w{wr tc:List (List Nat)}{i j x:Nat}(h:clash wr tc i j=false)(h1:x∈wr.getD i [])(h2:x∈tc.getD j []):False:=by
 simp only[clash,Bool.or_eq_false_iff]at h
 have:=List.any_eq_false.1 h.1 x h1
 exact this (by simpa using h2)
theorem clash_t{wr tc:List (List Nat)}{i j x:Nat}(h:clash wr tc i j=false)(h1:x∈tc.getD i [])(h2:x∈wr.getD j []):False:=by
 simp only[clash,Bool.or_eq_false_iff]at h
 have:=List.any_eq_false.1 h.2 x h2
 exact this (by simpa using h1)
section
variable {st0:Mt}{cs:List Mc}{listed:Array Bool}{a:Act}{w:World}{done:List Nat}{Γ':Gho}
theorem mρ_from(hc:MChain V Q 0 V.ops cs st0){t j:Nat}:∀(m:Nat),j+m≤V.ops.length→(∀i,j≤i→i<j+m→∀o,V.ops[i]? = some o→o.dst≠some t)→(mstL V V.ops cs 0 st0 (j+m)).ρ t=(mstL V V.ops cs 0 st0 j).ρ t
 | 0,_,_=>rfl
 | m+1,hl,hn=>by
  have ih:=mρ_from hc m (by omega) (fun i h1 h2=>hn i h1 (by omega))
  have ho:V.ops[j+m]? = some V.ops[j+m]:=List.getElem?_eq_getElem (by omega)
  obtain⟨c,h1,_⟩:=hc.good (j+m) ho
  rw[←Nat.add_assoc,mstL_succ ho h1,←ih];have hne:=hn (j+m) (by omega) (by omega) _ ho
  simp only[Mt.next]
  cases hd:(V.ops[j+m]).dst with
  | none=>rfl
  | some d=>exact upd_ne _ _ (fun e=>hne (by rw[hd,e]))
theorem MInv.sat_at(hc:MChain V Q 0 V.ops cs st0)(inv:MInv V st0 cs listed a w done Γ'){k t:Nat}(hN:t∉V.N)(hk:k≤V.ops.length)(h1:∀j,j<k→∀o,V.ops[j]? = some o→o.dst=some t→j∈done)
  (h2:∀j∈done,∀o,V.ops[j]? = some o→o.dst=some t→j<k):fnOf a t=(mstL V V.ops cs 0 st0 k).ρ t:=by
 rcases last_or_none (fun j=>∃o,V.ops[j]? = some o∧o.dst=some t) k with hn|⟨j,hj,⟨o,ho,hd⟩,hlast⟩
 ·have:=mρ_from (j:=0) (t:=t) hc k (by omega) (fun i _ hi o ho hd=>hn i (by omega) ⟨o,ho,hd⟩)
  rw[Nat.zero_add,mstL_zero]at this;rw[this];exact inv.init t hN fun i hi o ho hd=>hn i (h2 i hi o ho hd) ⟨o,ho,hd⟩
 ·have hin:=h1 j hj o ho hd
  obtain⟨c,hcj,hg⟩:=hc.good j ho
  have hval:=inv.last j hin o t c ho hd hN hcj fun i hi o' ho' hd'=>by
   have:=h2 i hi o' ho' hd'
   rcases Nat.lt_or_ge j i with h|h
   ·exact absurd ⟨o',ho',hd'⟩ (hlast i h this)
   ·exact h
  have hs:(mstL V V.ops cs 0 st0 (j+1)).ρ t=c.x:=by
   rw[mstL_succ ho hcj];simp only[Mt.next,hd]
   exact upd_same _ _ _
  have:=mρ_from (j:=j+1) (t:=t) hc (k-(j+1)) (by omega) (fun i h3 h4 o' ho' hd'=>hlast i (by omega) (by omega) ⟨o',ho',hd'⟩)
  rw[show j+1+(k-(j+1))=k from by omega]at this
  rw[hval,this,hs]
theorem mM_const(hc:MChain V Q 0 V.ops cs st0){p x:Nat}:∀(m:Nat),p+m≤V.ops.length→(∀j,p≤j→j<p+m→x∉V.w j)→(mstL V V.ops cs 0 st0 (p+m)).M x=(mstL V V.ops cs 0 st0 p).M x
 | 0,_,_=>rfl
 | m+1,hl,hn=>by
  have ih:=mM_const hc m (by omega) (fun i h1 h2=>hn i h1 (by omega))
  have ho:V.ops[p+m]? = some V.ops[p+m]:=List.getElem?_eq_getElem (by omega)
  obtain⟨c,h1,hg⟩:=hc.good (p+m) ho
  rw[←Nat.add_assoc,mstL_succ ho h1,←ih];have:=hn (p+m) (by omega) (by omega)
  simp[Mt.next,Mt.nxt,this]
theorem ovr_congr{g g' ρ:Fr}:∀ {N:List Nat},(∀t∈N,g t=g' t)→ovr N g ρ=ovr N g' ρ
 | [],_=>rfl
 | d::N,h=>by
  simp only[ovr]
  rw[h d (by simp),ovr_congr (N:=N) fun t ht=>h t (by simp[ht])]
theorem MInv.step{i:Nat}{QQ:Exit→Act→World→Prop}(hc:MChain V Q 0 V.ops cs st0)(hk:checkM V.n V.ops V.wr V.tc V.stab=true)(inv:MInv V st0 cs listed a w done Γ')
  (hr:i∈Region.ready .any V.ops.toArray listed):wpOp V.P V.ops.toArray QQ i (fun a' w'=>∃done' Γ'',MInv V st0 cs (listed.setIfInBounds i true) a' w' done' Γ''∧done'.length=done.length+1) a w∧i∉done:=by
 obtain⟨hun,o,hoa,hall⟩:=mem_ready.1 hr
 have ho:V.ops[i]? = some o:=by simpa using hoa
 have hil:i<V.ops.length:=(List.getElem?_eq_some_iff.1 ho).1
 have hni:i∉done:=fun h=>by rw[(inv.ls i hil).2 h]at hun;cases hun
 refine⟨?_,hni⟩
 obtain⟨c,hci,hg⟩:=hc.good i ho
 rw[Nat.zero_add]at hg;obtain⟨k1,k2,k3,kd,kw,kl,kn,ks,k4⟩:=checkM_at hk ho
 have hedges:∀e∈o.after,Region.binds .any e=true→e.on∈done:=fun e he hb=>by
  have h1:=hall e he hb
  have h2:=k1 e he hb
  have h3:e.on<listed.size:=by rw[inv.lsz];omega
  refine(inv.ls e.on (by omega)).1 ?_
  simp only[Array.getD_eq_getD_getElem?,Array.getElem?_eq_getElem h3,Option.getD_some]at h1 ⊢
  exact h1
 have hcl':Closed V.ops (·∈i::done):=fun j o' e hj ho' he hb=>by
  rcases List.mem_cons.1 hj with rfl|hj
  ·rw[ho]at ho';cases ho';exact List.mem_cons_of_mem _ (hedges e he hb)
  ·exact List.mem_cons_of_mem _ (inv.cl j o' e hj ho' he hb)
 have hanc:∀j,j∈(ancs [] V.ops).getD i []→j∈i::done:=fun j hj=>ancs_sound hcl' V.ops [] (by simp) (by simp) i j hj (by simp)
 have hanc2:∀j k,j∈(ancs [] V.ops).getD k []→k∈done→j∈done:=fun j k hj hk=>ancs_sound inv.cl V.ops [] (by simp) (by simp) k j hj hk
 have hsat:∀t∈looks V.ops o,t∉V.N→fnOf a t=(mstL V V.ops cs 0 st0 i).ρ t:=fun t ht hN=>inv.sat_at hc hN (Nat.le_of_lt hil) (fun j hj oj hoj hdj=>by
   rcases k4 j oj hj hoj with h|h
   ·exact absurd ht ((apartR_spec h.1).1 t hdj).1
   ·rcases List.mem_cons.1 (hanc j h) with h|h
    ·omega
    ·exact h) (fun j hj oj hoj hdj=>by
   rcases Nat.lt_or_ge j i with h|h
   ·exact h
   ·rcases Nat.eq_or_lt_of_le h with h|h
    ·subst h;exact absurd hj hni
    ·obtain⟨_,_,_,_,_,_,_,_,q4⟩:=checkM_at hk hoj
     rcases q4 i o h ho with h'|h'
     ·exact absurd ht ((apartR_spec h'.1).2 t hdj)
     ·exact absurd (hanc2 i j h' hj) hni)
 have hlook:∀t∈looks V.ops o,fnOf a t=ovr V.N (fnOf a) (mstL V V.ops cs 0 st0 i).ρ t:=fun t ht=>by
  by_cases hN:t∈V.N
  ·rw[ovr_in hN]
  ·rw[ovr_out hN];exact hsat t ht hN
 obtain⟨p,hp,hwd⟩:=inv.wd;have htc:∀x∈V.t i,(mstL V V.ops cs 0 st0 i).M x=(mstL V V.ops cs 0 st0 (p x)).M x:=fun x hx=>by
  rcases Nat.lt_or_ge i (p x) with hlt|hge
  ·
   have:=mM_const hc (p:=i) (x:=x) (p x-i) (by have:=(hp x).1;omega) (fun j h1 h2 hj=>by
    have hjl:j<V.ops.length:=by have:=(hp x).1;omega
    have hjd:=((hp x).2 j hj hjl).2 (by omega)
    have hoj:V.ops[j]? = some V.ops[j]:=List.getElem?_eq_getElem hjl
    rcases Nat.eq_or_lt_of_le h1 with h|h
    ·subst h;exact hni hjd
    ·obtain⟨_,_,_,_,_,_,_,_,q4⟩:=checkM_at hk hoj
     rcases q4 i o h ho with h'|h'
     ·exact clash_t h'.2 hx hj
     ·exact hni (hanc2 i j h' hjd))
   rw[show i+(p x-i)=p x from by omega]at this
   exact this.symm
  ·have:=mM_const hc (p:=p x) (x:=x) (i-p x) (by omega) (fun j h1 h2 hj=>by
    have hoj:V.ops[j]? = some V.ops[j]:=List.getElem?_eq_getElem (by omega)
    rcases k4 j _ (by omega) hoj with h|h
    ·exact clash_w h.2 hj hx
    ·rcases List.mem_cons.1 (hanc j h) with h|h
     ·omega
     ·have:=((hp x).2 j hj (by omega)).1 h;omega)
   rwa [show p x+(i-p x)=i from by omega]at this
 let rest:=(List.range V.stab.length).filter fun x=>!(V.t i).contains x
 have hperm:(List.range V.stab.length).Perm (V.t i++rest):=by
  refine(List.perm_ext_iff_of_nodup List.nodup_range ?_).2 fun x=>?_
  ·refine List.nodup_append.2 ⟨kn,List.nodup_range.filter _,fun x hx y hy hxy=>?_⟩
   subst hxy;have:=(List.mem_filter.1 hy).2
   simp at this;exact this hx
  ·simp only[List.mem_append,List.mem_range,rest,List.mem_filter]
   constructor
   ·intro h;by_cases hx:x∈V.t i
    ·exact .inl hx
    ·exact .inr ⟨h,by simpa using hx⟩
   ·rintro (h|h)
    ·exact kl x h
    ·exact h.1
 have hfm:∀F:Nat→List Res,((List.range V.stab.length).flatMap F).Perm ((V.t i).flatMap F++rest.flatMap F):=fun F=>by
  rw[←List.flatMap_append];exact List.Perm.flatMap_right _ hperm
 have hw1:Wd Γ' (V.K++(cellsOf V (V.t i) (mstL V V.ops cs 0 st0 i).M (fnOf a)++rest.flatMap fun x=>(mstL V V.ops cs 0 st0 (p x)).M x (ovr (V.s x) (fnOf a) noFr))) w:=by
  have:=hwd.perm (List.Perm.append_left V.K (hfm _))
  rwa [show cellsOf V (V.t i) (mstL V V.ops cs 0 st0 i).M (fnOf a)=(V.t i).flatMap fun x=>(mstL V V.ops cs 0 st0 (p x)).M x (ovr (V.s x) (fnOf a) noFr) from flatMap_congr' fun x hx=>by rw[htc x hx]]
 have hrun:=hg.run Γ' _ w (fnOf a) inv.le hw1
 have next:∀v w' Γ'',V.rl Γ' Γ''→(V.free o=false→v=c.x)→Wd Γ'' (V.K++(cellsOf V (V.t i) (Mt.nxt V i (mstL V V.ops cs 0 st0 i) c) (putO (fnOf a) o.dst v)++rest.flatMap fun x=>(mstL V V.ops cs 0 st0 (p x)).M x (ovr (V.s x) (fnOf a) noFr))) w' →
   MInv V st0 cs (listed.setIfInBounds i true) (a.put o.dst v) w' (i::done) Γ'':=by
  intro v w' Γ'' hle he hwd';have hput:fnOf (a.put o.dst v)=putO (fnOf a) o.dst v:=fnOf_putO a _ v (by rw[inv.size];exact okDst_spec kd)
  refine⟨(defers_put a _ v).trans inv.defers,(size_put a _ v).trans inv.size,by simpa using inv.lsz,List.nodup_cons.2 ⟨hni,inv.nd⟩,?_,?_,hcl',V.rl_trans inv.le hle,?_,?_,?_⟩
  ·intro j hj;rcases List.mem_cons.1 hj with rfl|hj
   ·exact hil
   ·exact inv.lt j hj
  ·intro j hj;by_cases hji:j=i
   ·subst hji;simp[inv.lsz,hil]
   ·rw[getD_set_ne true (Ne.symm hji),inv.ls j hj];simp[hji]
  ·intro t hN hn;rw[hput];have h1:o.dst≠some t:=hn i (by simp) o ho
   have:putO (fnOf a) o.dst v t=fnOf a t:=by
    cases hd:o.dst with
    | none=>rfl
    | some d=>exact upd_ne _ _ (fun e=>h1 (by rw[hd,e]))
   rw[this];exact inv.init t hN fun j hj=>hn j (List.mem_cons_of_mem _ hj)
  ·intro j hj o' t c' ho' hd' hN hc' hmax;rw[hput];rcases List.mem_cons.1 hj with rfl|hj
   ·rw[ho]at ho';cases ho'
    rw[hci]at hc';cases hc'
    rw[hd',show putO (fnOf a) (some t) v t=v from upd_same _ _ _];exact he (by simp only[MEnv.free,hd'];simpa using hN)
   ·have hji:j≠i:=fun e=>hni (e ▸ hj)
    have h1:o.dst≠some t:=fun e=>by
     have hle':=hmax i (by simp) o ho e
     have hlt:i<j:=by omega
     obtain⟨_,_,_,_,_,_,_,_,q4⟩:=checkM_at hk ho'
     rcases q4 i o hlt ho with h|h
     ·exact((apartR_spec h.1).1 t e).2 hd'
     ·exact hni (hanc2 i j h hj)
    have:putO (fnOf a) o.dst v t=fnOf a t:=by
     cases hd:o.dst with
     | none=>rfl
     | some d=>exact upd_ne _ _ (fun e=>h1 (by rw[hd,e]))
    rw[this];exact inv.last j hj o' t c' ho' hd' hN hc' fun k hk'=>hmax k (List.mem_cons_of_mem _ hk')
  ·refine⟨fun x=>if x∈V.w i then i+1 else p x,fun x=>⟨?_,fun j hj hjl=>?_⟩,?_⟩
   ·show (if x∈V.w i then i+1 else p x)≤V.ops.length
    have:=(hp x).1
    split <;> omega
   ·by_cases hx:x∈V.w i
    ·simp only[hx,if_true]
     by_cases hji:j=i
     ·subst hji;simp
     ·simp only[List.mem_cons,hji,false_or]
      have hpi:p x≤i:=Nat.le_of_not_lt fun h=>hni (((hp x).2 i hx hil).2 h)
      rw[(hp x).2 j hj hjl];constructor
      ·intro h;omega
      ·intro h;refine((hp x).2 j hj hjl).1 ?_
       have hoj:V.ops[j]? = some V.ops[j]:=List.getElem?_eq_getElem hjl
       rcases k4 j _ (by omega) hoj with h'|h'
       ·exact absurd (clash_w h'.2 hj (kw x hx)) id
       ·rcases List.mem_cons.1 (hanc j h') with h'|h'
        ·omega
        ·exact h'
    ·have hji:j≠i:=fun e=>hx (e ▸ hj)
     simp only[hx,if_false,List.mem_cons,hji,false_or]
     exact(hp x).2 j hj hjl
   ·refine Wd.perm ?_ (List.Perm.append_left V.K (hfm _)).symm
    have e1:cellsOf V (V.t i) (Mt.nxt V i (mstL V V.ops cs 0 st0 i) c) (putO (fnOf a) o.dst v)=(V.t i).flatMap fun x=>(mstL V V.ops cs 0 st0 (if x∈V.w i then i+1 else p x)).M x (ovr (V.s x) (fnOf (a.put o.dst v)) noFr):=flatMap_congr' fun x hx=>by
     rw[hput];by_cases hxw:x∈V.w i
     ·simp only[hxw,if_true]
      rw[mstL_succ ho hci,Nat.zero_add];rfl
     ·simp only[hxw,if_false,Mt.nxt]
      rw[←htc x hx];simp[hxw]
    have e2:(rest.flatMap fun x=>(mstL V V.ops cs 0 st0 (p x)).M x (ovr (V.s x) (fnOf a) noFr))=rest.flatMap fun x=>(mstL V V.ops cs 0 st0 (if x∈V.w i then i+1 else p x)).M x (ovr (V.s x) (fnOf (a.put o.dst v)) noFr):=flatMap_congr' fun x hx=>by
     have hxt:x∉V.t i:=by have:=(List.mem_filter.1 hx).2;simpa using this
     have hxw:x∉V.w i:=fun h=>hxt (kw x h)
     simp only[hxw,if_false]
     rw[hput];congr 1
     refine ovr_congr fun t ht=>?_
     cases hd:o.dst with
     | none=>rfl
     | some d=>exact(upd_ne _ _ (fun e=>hxw (ks d x hd (by subst e;exact ht)))).symm
    rw[←e1,←e2];exact hwd'
 have hwant:Region.wanted o (yielded V.ops.toArray a.tmps)=wantF V.ops o (ovr V.N (fnOf a) (mstL V V.ops cs 0 st0 i).ρ):=by
  unfold wantF;cases hgd:o.guard with
  | none=>simp[Region.wanted,hgd]
  | some q=>
   obtain⟨j,want⟩:=q;obtain⟨dj,hdj⟩:=k3 j want hgd
   have hdn:dj<V.n:=by
    cases hoj:V.ops[j]? with
    | none=>simp[hoj]at hdj
    | some oj=>simp[hoj]at hdj;exact okDst_spec ((checkM_at hk hoj).2.2.2.1) dj hdj
   simp only[hdj]
   rw[←hlook dj (List.mem_append_right _ (by simp only[hgd];simpa using hdj))]
   exact wanted_fn o V.ops.toArray a j want hgd dj (by simpa using hdj) (by rw[inv.size];exact hdn)
 unfold wpOp;simp only[hoa,hwant]
 have hsel:noSel o=true:=by
  unfold noSel;split
  ·rename_i h;exact absurd h (k2 _ _)
  ·rfl
 cases hwt:wantF V.ops o (ovr V.N (fnOf a) (mstL V V.ops cs 0 st0 i).ρ) with
 | true=>
  simp only[if_true]
  have hst:=(hrun.1 hwt).congr (ops:=V.ops) hsel hlook
  exact .inl (Step.wp hst fun v w' ⟨Γ'',h1,h2,h3⟩=>⟨_,_,next v w' Γ'' h1 h3 h2,by simp⟩)
 | false=>
  obtain⟨h1,h2⟩:=hrun.2 hwt
  exact⟨_,_,next undef w Γ' (V.rl_refl _) h2 h1,by simp⟩
theorem MInv.fin(hc:MChain V Q 0 V.ops cs st0)(inv:MInv V st0 cs listed a w done Γ')(hall:∀i,i<V.ops.length→i∈done):Q (fnOf a) w:=by
 have hfin:=hc.final
 obtain⟨p,hp,hwd⟩:=inv.wd;have hρ:fnOf a=ovr V.N (fnOf a) (mstL V V.ops cs 0 st0 V.ops.length).ρ:=by
  funext t
  by_cases hN:t∈V.N
  ·rw[ovr_in hN]
  ·rw[ovr_out hN];exact inv.sat_at hc hN (Nat.le_refl _) (fun j hj _ _ _=>hall j hj) (fun j hj _ _ _=>inv.lt j hj)
 rw[hρ];refine hfin Γ' w (fnOf a) inv.le ?_
 have:cellsOf V (List.range V.stab.length) (mstL V V.ops cs 0 st0 V.ops.length).M (fnOf a)=(List.range V.stab.length).flatMap fun x=>(mstL V V.ops cs 0 st0 (p x)).M x (ovr (V.s x) (fnOf a) noFr):=flatMap_congr' fun x _=>by
  have:=mM_const hc (p:=p x) (x:=x) (V.ops.length-p x) (by have:=(hp x).1;omega) (fun j h1 h2 hj=>by
   have hjl:j<V.ops.length:=by have:=(hp x).1;omega
   have:=((hp x).2 j hj hjl).1 (hall j hjl)
   omega)
  rw[show p x+(V.ops.length-p x)=V.ops.length from by have:=(hp x).1;omega]at this
  rw[this]
 rw[this];exact hwd
theorem m_all_of_not_ready(hk:checkM V.n V.ops V.wr V.tc V.stab=true)(inv:MInv V st0 cs listed a w done Γ')(h:Region.ready .any V.ops.toArray listed=[]):∀i,i<V.ops.length→i∈done:=by
 intro i;induction i using Nat.strongRecOn with
 | _ i ih=>
  intro hi;refine Classical.byContradiction fun hn=>?_
  have hmem:i∈Region.ready .any V.ops.toArray listed:=mem_ready.2 ⟨?_,V.ops[i],by simp[hi],fun e he hb=>?_⟩
  ·rw[h]at hmem;cases hmem
  ·cases hb:listed.getD i true with
   | false=>rfl
   | true=>exact absurd ((inv.ls i hi).1 hb) hn
  ·have h1:=(checkM_at hk (List.getElem?_eq_getElem hi)).1 e he hb
   have h2:=(inv.ls e.on (by omega)).2 (ih e.on h1 (by omega))
   have h3:e.on<listed.size:=by rw[inv.lsz];omega
   simp only[Array.getD_eq_getD_getElem?,Array.getElem?_eq_getElem h3,Option.getD_some]at h2 ⊢
   exact h2
theorem MInv.any{QQ:Exit→Fr→World→Prop}(hc:MChain V (fun ρ w=>QQ .normal ρ w) 0 V.ops cs st0)(hk:checkM V.n V.ops V.wr V.tc V.stab=true) :
  ∀(fuel:Nat) (listed:Array Bool) (a:Act) (w:World) (done:List Nat) (Γ':Gho),MInv V st0 cs listed a w done Γ'→fuel+done.length=V.ops.length→wpAny V.P .any V.ops.toArray (lift V.n QQ) fuel listed a w
 | 0,listed,a,w,done,Γ',inv,hf=>by
  have hall:∀i,i<V.ops.length→i∈done:=by
   intro i hi;refine Classical.byContradiction fun hn=>?_
   have:=nodup_le V.ops.length (i::done) (List.nodup_cons.2 ⟨hn,inv.nd⟩) (fun x hx=>by
    rcases List.mem_cons.1 hx with rfl|hx
    ·exact hi
    ·exact inv.lt x hx)
   simp at this;omega
  refine⟨?_,inv.defers,inv.size,inv.fin hc hall⟩
  refine List.eq_nil_iff_forall_not_mem.2 fun i hi=>?_
  obtain⟨hun,o,ho,_⟩:=mem_ready.1 hi
  have hil:i<V.ops.length:=by have:=(Array.getElem?_eq_some_iff.1 ho).1;simpa using this
  rw[(inv.ls i hil).2 (hall i hil)]at hun;cases hun
 | fuel+1,listed,a,w,done,Γ',inv,hf=>by
  refine⟨fun h=>⟨inv.defers,inv.size,inv.fin hc (m_all_of_not_ready hk inv h)⟩,fun i hi=>?_⟩
  refine wpOp_mono ?_ (inv.step hc hk hi).1
  rintro a' w' ⟨done',Γ'',inv',hl⟩
  exact MInv.any hc hk fuel _ a' w' done' Γ'' inv' (by omega)
end
end
theorem W_mix{P:Program}{n id:Nat}{l:List Oper}{Q:Exit→Fr→World→Prop}{ρ:Fr}{w:World}{Γ:Gho}(K:List Res)(M:Nat→Fr→List Res)(wr tc stab:List (List Nat))(fixed:Bool)(hm:P.follows .mixedOrders=true)
  (hk:checkM n l wr tc stab=true) (hw:Wd Γ (K++cellsOf ⟨P,n,l,Γ,K,wr,tc,stab,fixed⟩ (List.range stab.length) M ρ) w) (h:MSw ⟨P,n,l,Γ,K,wr,tc,stab,fixed⟩ (fun ρ w=>Q .normal ρ w) 0 l ⟨ρ,M⟩):W P n (.region id l.toArray true) Q ρ w:=by
 unfold W;intro a hda hs hf;refine wp_region_any hm ?_
 obtain⟨cs,hc⟩:=h.chain;have inv:MInv ⟨P,n,l,Γ,K,wr,tc,stab,fixed⟩ ⟨ρ,M⟩ cs (Array.replicate l.toArray.size false) a { w with drawn:=w.drawn+1 } [] Γ:=by
  refine⟨hda,hs,by simp,by simp,by simp,fun i hi=>?_,fun _ _ _ h=>by simp at h,MEnv.rl_refl _,fun t _ _=>by rw[hf],by simp,fun _=>0,fun x=>⟨Nat.zero_le _,by simp⟩,?_⟩
  ·have:i<l.length:=hi
   simp[this]
  ·simp only[mstL_zero,hf]
   exact hw.drawn
 exact MInv.any hc hk _ _ a _ [] Γ inv (by simp)
def RdS(Γ:Gho)(S:List Res)(v:Value)(sz:Nat)(rows:List (List Value)):Prop:=
 ∃a n c,v=.slice a n c∧n=rows.length∧n≤c∧c≤9223372036854775807∧∀w,Wd Γ S w→Rd w a sz rows
section
variable {P:Program}{Γ:Gho}{S:List Res}{w:World}{sz e:Nat}{rows:List (List Value)}{v:Value}
theorem RepS.rdS(h:RepS Γ v sz rows):RdS Γ S v sz rows:=by
 obtain⟨a,n,c,rfl,h1,h2,h3⟩:=h.shape;exact⟨a,n,c,rfl,h1,h2,h3,fun w hw=>h.rd hw⟩
theorem RdS.own{w0:World}{i:Nat}(hw:Wd Γ S w0)(hi:S[i]? = some (.own v e sz rows)):RdS Γ S v sz rows:=by
 obtain⟨a,n,c,rfl,h1,h2,h3⟩:=hw.own_shape hi
 exact⟨a,n,c,rfl,h1,h2,h3,fun w hw=>hw.own_rd hi⟩
theorem RdS.ownI{a:Option Addr}{n c i:Nat}(hi:S[i]? = some (.own (.slice a n c) e sz rows))(h1:n=rows.length)(h2:n≤c)(h3:c≤9223372036854775807):RdS Γ S (.slice a n c) sz rows:=
 ⟨a,n,c,rfl,h1,h2,h3,fun w hw=>hw.own_rd hi⟩
theorem RdS.shape(h:RdS Γ S v sz rows):∃a n c,v=.slice a n c∧n=rows.length∧n≤c∧c≤9223372036854775807:=by
 obtain⟨a,n,c,h1,h2,h3,h4,_⟩:=h;exact⟨a,n,c,h1,h2,h3,h4⟩
theorem RdS.rd{a:Option Addr}{n c:Nat}(h:RdS Γ S (.slice a n c) sz rows)(hw:Wd Γ S w):Rd w a sz rows:=by
 obtain⟨a',n',c',h1,h2,h3,h4,h5⟩:=h;cases h1
 exact h5 w hw
theorem RdS.cons{r:Res}(h:RdS Γ S v sz rows):RdS Γ (r::S) v sz rows:=by
 obtain⟨a,n,c,h1,h2,h3,h4,h5⟩:=h;exact⟨a,n,c,h1,h2,h3,h4,fun w hw=>h5 w hw.drop⟩
end
section
variable {P:Program}{ρ:Fr}{w:World}{sz:Nat}{rows:List (List Value)}{d:Option Tmp}{T ty:TypeId}{pos:String}{es:Array Edge}{g:Option (Nat×Bool)}{x y:Operand}
theorem y_idxD{E by':Nat}{zs:List Value}{a:Option Addr}{m c:Nat}{k:IntKind}{i:Int}[hT:TL P T E sz by' zs](hr:Rd w a sz rows)(hx:ev ρ x=.slice a m c)(hy:ev ρ y=.int k i)(h0:0≤i)(h1:i<m)(hm:m=rows.length:=by first|assumption|omega|(rw[List.length_map];omega)) :
  Yields P ⟨d,.indexAddr T x y,ty,pos,es,g⟩ ρ w (.pointer (some ⟨aB a,aO a+i.toNat*sz,none⟩)):=
 y_indexAddr hx hy h0 h1 (hr.at_ (by omega))
end
abbrev Res.ms{β:Type}(f:β→Value)(b:Nat)(l:List (ByteArray×β)):Res:=Res.mp b (l.map fun p=>(.string p.1,f p.2))
section
variable {P:Program}{n:Nat}{opa:Array Oper}{Γ:Gho}{S:List Res}{QQ:Exit→Fr→World→Prop}{ρ:Fr}{w:World}{rest:List Oper}{KK:Value→World→Prop}
variable {d:Option Tmp}{T U ty K E:TypeId}{pos:String}{es:Array Edge}{g:Option (Nat×Bool)}{x y z:Operand}{v:Value}{β:Type}{f:β→Value}{b i:Nat}{a:ByteArray}{l:List (ByteArray×β)}
theorem y_lookupS1[Inhabited β]{zz:Value}[hM:TMap P T K E][hK:TStr P K][hz:TZV P E zz](hw:Wd Γ S w)(hx:ev ρ x=.map (some b))(hy:ev ρ y=.string a)(hi:S[i]? = some (Res.ms f b l))(hd:f default=zz) :
  Yields P ⟨d,.lookup T x y false,ty,pos,es,g⟩ ρ w (f ((aGet l a).getD default)):=by
 cases hg:aGet l a with
 | some u=>
  have:=y_lookup_some (P:=P) (K:=K) (α:=ByteArray) (d:=d) (T:=T) (ty:=ty) (pos:=pos) (es:=es) (g:=g) hw hx hy hi hg false
  simpa using this
 | none=>
  have:=y_lookup_none (P:=P) (K:=K) (α:=ByteArray) (d:=d) (T:=T) (ty:=ty) (pos:=pos) (es:=es) (g:=g) hw hx hy hi hg false
  simpa[hd] using this
theorem s_mapUpdS{v:β}[hM:TMap P T K E][hK:TStr P K](hw:Wd Γ S w)(hx:ev ρ x=.map (some b))(hy:ev ρ y=.string a)(hz:ev ρ z=f v)(hi:S[i]? = some (Res.ms f b l))
  (hk:∀w',Wd Γ (S.set i (Res.ms f b (aSet l a v))) w'→KK undef w'):Step P ⟨d,.mapUpdate T x y z,ty,pos,es,g⟩ ρ w KK:=
 s_mapUpdate (P:=P) (K:=K) (α:=ByteArray) hw hx hy hz hi hk
theorem lMapUpdS{v:β}[hM:TMap P T K E][hK:TStr P K](h:∀w',Wd Γ (S.set i (Res.ms f b (aSet l a v))) w'→L P n opa QQ rest ρ w')(hw:Wd Γ S w:=by exact hw)(hx:ev ρ x=.map (some b):=by exact rfl)(hy:ev ρ y=.string a:=by exact rfl)(hi:S[i]? = some (Res.ms f b l):=by exact byIX)(hz:ev ρ z=f v:=by exact rfl) :
  L P n opa QQ (⟨none,.mapUpdate T x y z,ty,pos,es,none⟩::rest) ρ w:=L_step rfl rfl (s_mapUpdS hw hx hy hz hi h)
end
def ML(l:List (Fr→List Res)):Nat→Fr→List Res:=fun x=>l.getD x (fun _=>[])
def setC(M:Nat→Fr→List Res)(x:Nat)(m:Fr→List Res):Nat→Fr→List Res:=fun y=>bif [x].contains y then m else M y
abbrev mV(P:Program)(n:Nat)(ops:List Oper)(Γ:Gho)(K:List Res)(wr tc stab:List (List Nat)):MEnv:=⟨P,n,ops,Γ,K,wr,tc,stab,true⟩
def cellsAt(tc stab:List (List Nat))(i:Nat)(M:Nat→Fr→List Res)(g:Fr):List Res:=(tc.getD i []).flatMap fun x=>M x (ovr (stab.getD x []) g noFr)
def outOf(tc stab:List (List Nat))(i:Nat)(d:Option Tmp):Bool:=match d with|some d=>(tc.getD i []).all fun x=>!((stab.getD x []).contains d)|none=>true
def freeD(stab:List (List Nat))(d:Option Tmp):Bool:=match d with|some d=>stab.flatten.contains d|none=>true
section
variable {P:Program}{n:Nat}{ops:List Oper}{Γ:Gho}{K:List Res}{wr tc stab:List (List Nat)}{Q:Fr→World→Prop}{i:Nat}{rest:List Oper}{ρ:Fr}{M:Nat→Fr→List Res}{o:Oper}{v:Value}
theorem outOf_eq{g:Fr}{d:Option Tmp}{v:Value}(h:outOf tc stab i d=true)(M:Nat→Fr→List Res):cellsAt tc stab i M (putO g d v)=cellsAt tc stab i M g:=by
 refine flatMap_congr' fun x hx=>?_
 cases d with
 | none=>rfl
 | some d=>
  congr 1
  refine ovr_congr fun t ht=>upd_ne _ _ fun e=>?_
  subst e;have:=(List.all_eq_true.1 h) x hx
  simp at this
  exact this ht
theorem mC(hy:∀Y w g,Wd Γ (K++(cellsAt tc stab i M g++Y)) w→Step P o (ovr stab.flatten g ρ) w fun u w'=>u=v∧Wd Γ (K++(cellsAt tc stab i M g++Y)) w')(hw0:wr.getD i []=[])(hg:o.guard=none)(ho:outOf tc stab i o.dst=true)
  (h:MSw (mV P n ops Γ K wr tc stab) Q (i+1) rest ⟨putO ρ o.dst v,M⟩):MSw (mV P n ops Γ K wr tc stab) Q i (o::rest) ⟨ρ,M⟩:=by
 have hn:∀c,Mt.nxt (mV P n ops Γ K wr tc stab) i ⟨ρ,M⟩ c=M:=fun c=>by
  funext x;simp only[Mt.nxt,MEnv.w,hw0];rfl
 refine⟨⟨v,M⟩,⟨fun Γ' Y w g hr hw=>?_⟩,?_⟩
 ·have hΓ:Γ'=Γ:=hr
  subst hΓ;rw[hn];refine⟨fun _=>(hy Y w g hw).mono fun u w' ⟨h1,h2⟩=>⟨Γ',rfl,?_,fun _=>h1⟩,fun hf=>?_⟩
  ·have:=outOf_eq (g:=g) (v:=u) ho M
   show Wd Γ' (K++(cellsAt tc stab i M (putO g o.dst u)++Y)) w'
   rw[this];exact h2
  ·rw[wantF_none hg]at hf;cases hf
 ·simp only[Mt.next,hn];exact h
theorem mY(h:MSw (mV P n ops Γ K wr tc stab) Q (i+1) rest ⟨putO ρ o.dst v,M⟩)(hw0:wr.getD i []=[]:=by exact rfl)(hg:o.guard=none:=by exact rfl)(ho:outOf tc stab i o.dst=true:=by exact rfl)
  (hy:∀Y w g,Wd Γ (K++(cellsAt tc stab i M g++Y)) w→Yields P o (ovr stab.flatten g ρ) w v:=by (intro Y w g hw;exact byPU)):MSw (mV P n ops Γ K wr tc stab) Q i (o::rest) ⟨ρ,M⟩:=
 mC (fun Y w g hw=>(hy Y w g hw).step ⟨rfl,hw⟩) hw0 hg ho h
theorem mM{x:Nat}(m:Fr→List Res)(hs:∀Y w g,Wd Γ (K++(cellsAt tc stab i M g++Y)) w→Step P o (ovr stab.flatten g ρ) w fun u w'=>Wd Γ (K++(cellsAt tc stab i (setC M x m) (putO g o.dst u)++Y)) w'∧(freeD stab o.dst=false→u=v))
  (h:MSw (mV P n ops Γ K wr tc stab) Q (i+1) rest ⟨putO ρ o.dst v,setC M x m⟩) (hw0:wr.getD i []=[x]:=by exact rfl) (hg:o.guard=none:=by exact rfl):MSw (mV P n ops Γ K wr tc stab) Q i (o::rest) ⟨ρ,M⟩:=by
 have hn:Mt.nxt (mV P n ops Γ K wr tc stab) i ⟨ρ,M⟩ ⟨v,fun _=>m⟩=setC M x m:=by
  funext y;simp only[Mt.nxt,MEnv.w,hw0];rfl
 refine⟨⟨v,fun _=>m⟩,⟨fun Γ' Y w g hr hw=>?_⟩,?_⟩
 ·have hΓ:Γ'=Γ:=hr
  subst hΓ;rw[hn];refine⟨fun _=>(hs Y w g hw).mono fun u w' ⟨h1,h2⟩=>⟨Γ',rfl,h1,h2⟩,fun hf=>?_⟩
  rw[wantF_none hg]at hf;cases hf
 ·simp only[Mt.next,hn];exact h
theorem mEnd(h:∀w g,Wd Γ (K++(List.range stab.length).flatMap fun x=>M x (ovr (stab.getD x []) g noFr)) w→Q (ovr stab.flatten g ρ) w):MSw (mV P n ops Γ K wr tc stab) Q i [] ⟨ρ,M⟩:=fun Γ' w g hr hw=>by
 have hΓ:Γ'=Γ:=hr
 subst hΓ;exact h w g hw
theorem W_mixed{id:Nat}{l:List Oper}{QQ:Exit→Fr→World→Prop}{w:World}(K:List Res)(M:List (Fr→List Res))(wr tc stab:List (List Nat))(hw:Wd Γ (K++(List.range stab.length).flatMap fun x=>(ML M) x (ovr (stab.getD x []) ρ noFr)) w)
  (h:MSw (mV P n l Γ K wr tc stab) (fun ρ w=>QQ .normal ρ w) 0 l ⟨ρ,ML M⟩) (hm:P.follows .mixedOrders=true:=by kernel_rfl) (hk:checkM n l wr tc stab=true:=by kernel_rfl):W P n (.region id l.toArray true) QQ ρ w:=
 W_mix K (ML M) wr tc stab true hm hk hw h
end
attribute [local irreducible] Calls
theorem eq_nilB{s:ByteArray}:(s=⟨#[]⟩)↔s.size=0:=by
 constructor
 ·intro h;rw[h];rfl
 ·intro h;cases s with
  | mk d=>
   have:d.size=0:=h
   rw[Array.eq_empty_of_size_eq_zero this]
theorem ne_nilB{s:ByteArray}:(s≠⟨#[]⟩)↔0<s.size:=by
 rw[Ne,eq_nilB];omega
class PC(P:Program)(f:Nat)(args:List Value)(v:outParam Value):Prop where
 h:∀w,Calls P f args.toArray w fun e w'=>e=.returned v∧w'=w
section
variable {P:Program}{n:Nat}{ops:List Oper}{opa:Array Oper}{Γ:Gho}{S K:List Res}{Q:Fr→World→Prop}{QQ:Exit→Fr→World→Prop}{ρ:Fr}{w:World}{rest:List Oper}{wr tc stab:List (List Nat)}{i:Nat}{M:Nat→Fr→List Res}
variable {d:Option Tmp}{ty:TypeId}{pos:String}{es:Array Edge}{v:Value}{f:Nat}{args:List Operand}{tys:Array TypeId}{vs:List Value}{j dj:Nat}{want c:Bool}{g:Option (Nat×Bool)}
theorem s_pc[FnOk P f][hp:PC P f vs v](ha:EvL ρ args vs):Step P ⟨d,.call { callee:=.value (.func f),args:=args.toArray,argTypes:=tys },ty,pos,es,g⟩ ρ w fun u w'=>u=v∧w'=w:=
 s_call ha.eqA ((hp.h w).mono fun e w' ⟨h1,h2⟩=>⟨v,h1,rfl,h2⟩)
theorem lP[FnOk P f](h:L P n opa QQ rest (putO ρ d v) w)(ha:EvL ρ args vs:=by exact byEV)(hd:okDst n d=true:=by exact rfl)(hp:PC P f vs v:=by infer_instance) :
  L P n opa QQ (⟨d,.call { callee:=.value (.func f),args:=args.toArray,argTypes:=tys },ty,pos,es,none⟩::rest) ρ w:=
 L_step rfl hd ((s_pc (hp:=hp) ha).mono fun u w' ⟨h1,h2⟩=>by subst h1;subst h2;exact h)
theorem lPG[FnOk P f](h:L P n opa QQ rest (putO ρ d (gv c v)) w)(hj:(opa[j]?).bind (·.dst)=some dj:=by exact rfl)(hjn:okDst n (some dj)=true:=by exact rfl)(hc:GuardIs (ρ dj) want c:=by exact byGC)(hd:okDst n d=true:=by exact rfl)(ha:c=true→EvL ρ args vs:=by intro hc;exact byEVG)(hp:PC P f vs v:=by infer_instance) :
  L P n opa QQ (⟨d,.call { callee:=.value (.func f),args:=args.toArray,argTypes:=tys },ty,pos,es,some (j,want)⟩::rest) ρ w:=
 L_guard rfl hj hjn hc hd (fun ht=>s_pc (hp:=hp) (ha ht)) h
theorem qP[FnOk P f](h:Qw P n ops Γ S Q rest (putO ρ d v))(ha:EvL ρ args vs:=by exact byEV)(hp:PC P f vs v:=by infer_instance) :
  Qw P n ops Γ S Q (⟨d,.call { callee:=.value (.func f),args:=args.toArray,argTypes:=tys },ty,pos,es,none⟩::rest) ρ:=
 Q_c rfl rfl (fun Y w hw=>(s_pc (hp:=hp) ha).mono fun u w' ⟨h1,h2⟩=>⟨h1,by subst h2;exact hw⟩) h
theorem qPG[FnOk P f](h:Qw P n ops Γ S Q rest (putO ρ d (gv c v)))(hj:(ops[j]?).bind (·.dst)=some dj:=by exact rfl)(hc:GuardIs (ρ dj) want c:=by exact byGC)(ha:c=true→EvL ρ args vs:=by intro hc;exact byEVG)(hp:PC P f vs v:=by infer_instance) :
  Qw P n ops Γ S Q (⟨d,.call { callee:=.value (.func f),args:=args.toArray,argTypes:=tys },ty,pos,es,some (j,want)⟩::rest) ρ:=
 Q_gc rfl hj hc rfl (fun ht Y w hw=>(s_pc (hp:=hp) (ha ht)).mono fun u w' ⟨h1,h2⟩=>⟨h1,by subst h2;exact hw⟩) h
theorem mP[FnOk P f](h:MSw (mV P n ops Γ K wr tc stab) Q (i+1) rest ⟨putO ρ d v,M⟩)(hw0:wr.getD i []=[]:=by exact rfl)(ho:outOf tc stab i d=true:=by exact rfl)(ha:∀g,EvL (ovr stab.flatten g ρ) args vs:=by intro g;exact byEV)(hp:PC P f vs v:=by infer_instance) :
  MSw (mV P n ops Γ K wr tc stab) Q i (⟨d,.call { callee:=.value (.func f),args:=args.toArray,argTypes:=tys },ty,pos,es,none⟩::rest) ⟨ρ,M⟩:=
 mC (fun Y w g hw=>(s_pc (hp:=hp) (ha g)).mono fun u w' ⟨h1,h2⟩=>⟨h1,by subst h2;exact hw⟩) hw0 rfl ho h
end
def ResV(P:Program)(ρ:Fr)(w:World):ResultVar→Value→Prop
 | .tmp t,v=>ρ t=v
 | .cell a T,v=>∃A,ρ a=.pointer (some A)∧(loadVar T A).run P w=.ok v w
def ResL(P:Program)(ρ:Fr)(w:World):List ResultVar→List Value→Prop
 | [],[]=>True
 | r::rs,v::vs=>ResV P ρ w r v∧ResL P ρ w rs vs
 | _,_=>False
def tupV:List Value→Value
 | [v]=>v
 | vs=>.tuple vs.toArray
def PostC(P:Program)(rs:Array ResultVar)(R:Ending→World→Prop):Exit→Fr→World→Prop
 | .normal,ρ,w|.ret,ρ,w=>∃vs,ResL P ρ w rs.toList vs∧R (.returned (tupV vs)) w
 | .panic ch,_,w=>R (.panicked ch) w
 | .outgrown,_,w=>R .outgrown w
 | _,_,_=>False
def evalR(tmps:Array Value):ResultVar→Sem Value
 | .tmp t=>pure (tmps.getD t undef)
 | .cell a t=>do loadVar t (←asAddr (tmps.getD a undef))
theorem results_evalR(fn:Func)(tmps:Array Value):results fn tmps=(do let vs ← fn.results.mapM (evalR tmps);pure (if h:vs.size=1 then vs[0] else .tuple vs)):=by
 have:(fun r:ResultVar=>match r with|.tmp t=>(pure (tmps.getD t undef):Sem Value)|.cell a t=>do loadVar t (←asAddr (tmps.getD a undef)))=evalR tmps:=by
  funext r;cases r <;> rfl
 rw[←this];rfl
theorem ResV.run{P:Program}{a:Act}{w:World}{r:ResultVar}{v:Value}(h:ResV P (fnOf a) w r v):(evalR a.tmps r).run P w=.ok v w:=by
 cases r with
 | tmp t=>have:a.tmps.getD t undef=v:=h;simp only[evalR,Sem.run_pure,this]
 | cell x t=>
  obtain⟨A,h1,h2⟩:=h;have h3:a.tmps.getD x undef=.pointer (some A):=h1
  simp only[evalR,h3]
  simpa[asAddr] using h2
theorem results_resL{P:Program}{fn:Func}{a:Act}{w:World}{vs:List Value}(hl:fn.results.size≤3)(h:ResL P (fnOf a) w fn.results.toList vs):(results fn a.tmps).run P w=.ok (tupV vs) w:=by
 obtain⟨l,hfl⟩:∃l:List ResultVar,fn.results=l.toArray:=⟨fn.results.toList,by simp⟩
 rw[results_evalR];rw[hfl]at h hl ⊢
 simp only at h
 rcases l with _|⟨x1,_|⟨x2,_|⟨x3,_|⟨x4,l⟩⟩⟩⟩ <;> rcases vs with _|⟨v1,_|⟨v2,_|⟨v3,_|⟨v4,vs⟩⟩⟩⟩ <;> simp only[ResL,and_false]at h <;> try exact h.elim
 ·simp[tupV]
 ·simp[tupV,h.1.run]
 ·simp[tupV,h.1.run,h.2.1.run]
 ·simp[tupV,h.1.run,h.2.1.run,h.2.2.1.run]
 all_goals (simp at hl <;> omega)
theorem calls_of_WC{P:Program}{f:FuncId}{fn:Func}{c:Code}{args:Array Value}{w:World}{R:Ending→World→Prop}(hf:P.funcs[f]? = some fn)(hb:fn.body=some c)
  (hn:(Nat.ble args.size fn.ntmps&&Nat.ble fn.results.size 3)=true) (h:W P fn.ntmps c (PostC P fn.results R) (entryFr args) w):Calls P f args w R:=by
 rw[Bool.and_eq_true]at hn;have hle:args.size≤fn.ntmps:=Nat.le_of_ble_eq_true hn.1
 have hl3:fn.results.size≤3:=Nat.le_of_ble_eq_true hn.2
 unfold W at h;refine calls_of_wp hf hb (Code.wp_mono ?_ (h _ rfl (by simp;omega) ?_))
 ·rintro e a w ⟨hd,hs,hq⟩
  cases e with
  | normal=>obtain⟨v,hv,hR⟩:=hq;exact⟨hd,_,results_resL hl3 hv,hR⟩
  | ret=>obtain⟨v,hv,hR⟩:=hq;exact⟨hd,_,results_resL hl3 hv,hR⟩
  | panic ch=>exact⟨hd,hq⟩
  | outgrown=>exact hq
  | exit id=>exact hq.elim
  | goto l=>exact hq.elim
 ·funext t
  simp only[fnOf,entryFr,Array.getD_eq_getD_getElem?,Array.getElem?_append]
  by_cases ht:t<args.size
  ·rw[if_pos ht]
  ·rw[if_neg ht,Array.getElem?_eq_none (by omega:args.size≤t)]
   simp only[Array.getElem?_replicate]
   split <;> rfl
theorem resC{P:Program}{Γ:Gho}{S:List Res}{ρ:Fr}{w:World}{t T m i b:Nat}{cs:Array Value}{E:TypeId}{fr:Nat×Nat}[ha:TA P T m](hw:Wd Γ S w)(hi:S[i]? = some (.blk b (.cells cs E fr)))(hx:ρ t=.pointer (some ⟨b,0,none⟩))(hm:cs.size=m):ResV P ρ w (.cell t T) (.agg cs):=by
 refine⟨_,hx,?_⟩
 have h:=ha.h
 unfold aggSz at h;cases hu:P.underlying T with
 | none=>simp[hu]at h
 | some u=>
  simp[hu]at h
  have h2:=range_of (o:=0) (n:=cs.size) (hw.at_blk hi)
  have h1:=run_loadAt_mid (P:=P) w b 0 T cs.toList u (by simpa using h2) hu h.1 (by simp[h.2,hm])
  simpa[Instr.loadAt,Instr.sureAddr,asAddr] using h1
end Mk
end
section
open Go
namespace Mk
def atP(v:Value)(F:Nat→List Res):Res:=Res.ex (α:={bb:Nat // v=.pointer (some ⟨bb,0,none⟩)}) fun p=>F p.1
section
variable {P:Program}{n:Nat}{ops:List Oper}{Γ:Gho}{S K:List Res}{wr tc stab:List (List Nat)}{Q:Fr→World→Prop}{i:Nat}{rest:List Oper}{ρ:Fr}{w:World}{M:Nat→Fr→List Res}{v:Value}{F:Nat→List Res}
variable {d:Option Tmp}{T U ty:TypeId}{pos:String}{es:Array Edge}{x y z:Operand}
theorem Wd.mid{r:Res}{Y:List Res}(h:Wd Γ (K++(r::Y)) w):Wd Γ (r::(K++Y)) w:=h.perm List.perm_middle
theorem Wd.unmid{r:Res}{Y:List Res}(h:Wd Γ (r::(K++Y)) w):Wd Γ (K++(r::Y)) w:=h.perm List.perm_middle.symm
theorem Wd.swapApp{A B C:List Res}(h:Wd Γ (A++(B++C)) w):Wd Γ (B++(A++C)) w:=h.perm (by
 rw[←List.append_assoc,←List.append_assoc];exact List.perm_append_comm.append_right C)
theorem Wd.openAt(h:Wd Γ (atP v F::S) w):∃bb,v=.pointer (some ⟨bb,0,none⟩)∧Wd Γ (F bb++S) w:=by
 obtain⟨⟨bb,hb⟩,h'⟩:=h.openEx;exact⟨bb,hb,h'⟩
theorem Wd.closeAt{bb:Nat}(h:Wd Γ (F bb++S) w):Wd Γ (atP (.pointer (some ⟨bb,0,none⟩)) F::S) w:=Wd.closeEx (X:=fun p:{c:Nat // Value.pointer (some ⟨bb,0,none⟩)=.pointer (some ⟨c,0,none⟩)}=>F p.1) ⟨bb,rfl⟩ h
theorem setC_self{c:Nat}{m:Fr→List Res}:setC M c m c=m:=by simp[setC]
theorem mAlloc{c dd:Nat}{cs:List Value}[TZ P T cs](h:MSw (mV P n ops Γ K wr tc stab) Q (i+1) rest ⟨putO ρ (some dd) undef,setC M c fun g=>[atP (g dd) fun bb=>[.blk bb (.cells cs.toArray T)]]⟩)
  (ht:tc.getD i []=[c]:=by exact rfl) (hM:M c=(fun _=>[]):=by exact rfl) (hs:(stab.getD c []).contains dd=true:=by exact rfl) (hf:freeD stab (some dd)=true:=by exact rfl) (hw0:wr.getD i []=[c]:=by exact rfl) :
  MSw (mV P n ops Γ K wr tc stab) Q i (⟨some dd,.alloc T,ty,pos,es,none⟩::rest) ⟨ρ,M⟩:=by
 refine mM _ (fun Y w g hw=>?_) h hw0 rfl
 have hw1:Wd Γ (K++Y) w:=by
  have:cellsAt tc stab i M g=[]:=by unfold cellsAt;rw[ht];simp[hM]
  rw[this]at hw;exact hw
 refine s_alloc hw1 fun b w' hw'=>⟨?_,fun hh=>by rw[hf]at hh;cases hh⟩
 have e:cellsAt tc stab i (setC M c fun g=>[atP (g dd) fun bb=>[.blk bb (.cells cs.toArray T)]]) (putO g (some dd) (.pointer (some ⟨b,0,none⟩)))=[atP (.pointer (some ⟨b,0,none⟩)) fun bb=>[.blk bb (.cells cs.toArray T)]]:=by
  unfold cellsAt;rw[ht];have h1:ovr (stab.getD c []) (putO g (some dd) (.pointer (some ⟨b,0,none⟩))) noFr dd=.pointer (some ⟨b,0,none⟩):=by
   rw[ovr_in (by simpa using hs)];exact upd_same _ _ _
  simp only[List.flatMap_cons,List.flatMap_nil,List.append_nil,setC_self,h1]
 rw[e];exact Wd.unmid (Wd.closeAt (F:=fun bb=>[.blk bb (.cells cs.toArray T)]) hw')
theorem mEnd0(h:∀w,Wd Γ (K++(List.range stab.length).flatMap fun x=>M x noFr) w→Q ρ w)(hs:stab.all (fun l=>l.isEmpty)=true:=by exact rfl):MSw (mV P n ops Γ K wr tc stab) Q i [] ⟨ρ,M⟩:=
 mEnd fun w g hw=>by
  have h1:∀x,stab.getD x []=[]:=fun x=>by
   rw[List.getD_eq_getElem?_getD];cases hx:stab[x]? with
   | none=>rfl
   | some l=>
    have:=(List.all_eq_true.1 hs) l (List.mem_of_getElem? hx)
    simpa using this
  have h2:stab.flatten=[]:=by
   rw[List.flatten_eq_nil_iff];intro l hl;have:=(List.all_eq_true.1 hs) l hl
   simpa using this
  rw[h2];refine h w ?_
  have:((List.range stab.length).flatMap fun x=>M x (ovr (stab.getD x []) g noFr))=(List.range stab.length).flatMap fun x=>M x noFr:=flatMap_congr' fun x _=>by rw[h1 x];rfl
  rwa [this]at hw
end
section
variable {P:Program}{n:Nat}{opa:Array Oper}{Γ:Gho}{S:List Res}{QQ:Exit→Fr→World→Prop}{ρ:Fr}{w:World}{rest:List Oper}{d:Option Tmp}{T ty:TypeId}{pos:String}{es:Array Edge}{x y:Operand}
theorem lApp{E by' i sz m c m2 c2:Nat}{zs:List Value}{a a2:Option Addr}{rows rows2:List (List Value)}[TL P T E sz by' zs](h:∀v' w',Wd Γ (S.set i (.own v' E sz (rows++rows2))) w'→L P n opa QQ rest (putO ρ d v') w')(hr2:Rd w a2 sz rows2)(hx:ev ρ x=.slice a m c:=by exact rfl)(hy:ev ρ y=.slice a2 m2 c2:=by exact rfl)(hw:Wd Γ S w:=by exact hw)
  (hi:S[i]? = some (.own (.slice a m c) E sz rows):=by exact byIX) (h1:rows2.flatten.all (·.oneCell')=true:=by exact rfl) (hm:m2=rows2.length:=by exact rfl) (hb:(m+m2)*by'≤140737488355328:=by omega) (h63:m+m2≤9223372036854775807:=by omega) (hd:okDst n d=true:=by exact rfl) :
  L P n opa QQ (⟨d,.call { callee:=.builtin .append,args:=#[x,y],argTypes:=#[T,T] },ty,pos,es,none⟩::rest) ρ w:=lAppend h hr2 hm (fun u hu=>(List.all_eq_true.1 h1) u hu) hb h63 hw hx hy hi hd
end
end Mk
end
section
open Go
open Go.ChangeMaps (setBlock)
namespace Mk
section
variable {P:Program}{Γ:Gho}{S:List Res}{w:World}{ρ:Fr}{K:Value→World→Prop}
variable {d:Option Tmp}{T ty:TypeId}{pos:String}{es:Array Edge}{g:Option (Nat×Bool)}{x y z:Operand}
end
section
variable {P:Program}{n:Nat}{opa:Array Oper}{Γ:Gho}{S:List Res}{QQ:Exit→Fr→World→Prop}{ρ:Fr}{w:World}{rest:List Oper}
variable {d:Option Tmp}{T ty:TypeId}{pos:String}{es:Array Edge}{x:Operand}
end
section
attribute [local semireducible] Step L W
variable {P:Program}{n:Nat}{Q:Exit→Fr→World→Prop}{ρ:Fr}{w:World}{ro:Option Nat}{ds:List Deferred}
end
end Mk
namespace Mk
end Mk
namespace Mk
section
variable {P:Program}{n:Nat}{Γ:Gho}{S:List Res}{Q:Exit→Fr→World→Prop}{ρ:Fr}{w:World}{rest:List Oper}
variable {d:Option Tmp}{T U ty:TypeId}{pos:String}{es:Array Edge}{x y z:Operand}{v:Value}
end
end Mk
namespace Mk
end Mk
namespace Mk
end Mk
end
section
open Go
namespace Mk
def allG(w:World):Gho:=⟨fun b=>w.heap[b]?,w.os,w.tape,w.output,w.drawn⟩
theorem allG_wd(w:World):Wd (allG w) [] w:=⟨rfl,rfl,rfl,Nat.le_refl _,fun b o h=>h,[],trivial,by simp,by simp⟩
theorem allG_grow{w w':World}{S:List Res}(h:Wd (allG w) S w'):∃q os',w'=Go.Sort.grow (w.drewN q) os':=by
 have hsz:w.heap.size≤w'.heap.size:=by
  by_cases h0:w.heap.size=0
  ·omega
  ·have hl:w.heap.size-1<w.heap.size:=by omega
   have:=h.imm (w.heap.size-1) w.heap[w.heap.size-1] (by show w.heap[_]? = _;simp)
   have:=(Array.getElem?_eq_some_iff.1 this).1
   omega
 refine⟨w'.drawn-w.drawn,w'.heap.extract w.heap.size w'.heap.size,?_⟩
 have hh:w'.heap=w.heap++w'.heap.extract w.heap.size w'.heap.size:=by
  refine Array.ext_getElem? fun i=>?_
  rw[Array.getElem?_append];split
  ·rename_i hi
   rw[h.imm i w.heap[i] (by show w.heap[i]? = _;simp[hi]),Array.getElem?_eq_getElem hi]
  ·rename_i hi
   simp only[Array.getElem?_extract]
   split
   ·congr 1;omega
   ·rw[Array.getElem?_eq_none (by omega)]
 have hd:w.drawn≤w'.drawn:=h.dr
 cases w' with
 | mk hp tp dr os out=>
  simp only at hh hd
  have e1:os=w.os:=h.os
  have e2:tp=w.tape:=h.tape
  have e3:out=w.output:=h.out
  subst e1 e2 e3;unfold Go.Sort.grow World.drewN;simp only[World.mk.injEq]
  exact⟨hh,trivial,by omega,trivial,trivial⟩
section
variable {P:Program}{Γ:Gho}{S:List Res}{w:World}{α:Type}[Inhabited α]{E k n c g i:Nat}{enc:α→List Value}
attribute [local semireducible] Res.own
theorem own_block{v:Value}{sz e:Nat}{rows:List (List Value)}(hw:Wd Γ S w)(hi:S[i]? = some (.own v e sz rows)):∃a n c,v=.slice a n c∧n=rows.length∧n≤c∧c≤maxLen∧(c=0∨∃g cur,a=some ⟨g,0,none⟩∧g<w.heap.size∧w.heap[g]? = some (.cells cur e (0,0))∧cur.size=c*sz∧cur.toList.take (n*sz)=rows.flatten):=by
 obtain⟨bs,_,a,n,c,h1,h2,h3,h4,h5⟩:=hw.own_holds hi
 refine⟨a,n,c,h1,h2,h3,h4,h5.imp (fun h=>h.1) ?_⟩
 rintro⟨g,cur,g1,g2,g3,g4,g5⟩;exact⟨g,cur,g1,(Array.getElem?_eq_some_iff.1 g3).1,g3,g4,g5⟩
theorem flatK_toList(hk:∀x,(enc x).length=k)(xs:List α):(Go.Sort.flatK enc k xs.toArray).toList=(xs.map enc).flatten:=by
 have hl:∀r∈xs.map enc,r.length=k:=fun r hr=>by obtain⟨x,_,rfl⟩:=List.mem_map.1 hr;exact hk x
 have h2:(xs.map enc).flatten.length=xs.length*k:=by rw[flatten_len hl,List.length_map]
 refine List.ext_getElem? fun t=>?_
 by_cases ht:t<xs.length*k
 ·have hk0:0<k:=by
   rcases Nat.eq_zero_or_pos k with h0|h0
   ·subst h0;simp at ht
   ·exact h0
  have h3:t / k<xs.length:=Nat.div_lt_of_lt_mul (by rw[Nat.mul_comm];exact ht)
  have h4:t%k<k:=Nat.mod_lt _ hk0
  have h5:(enc xs[t / k]).length=k:=hk _
  have h6:=flatten_get (rows:=xs.map enc) (i:=t / k) (r:=enc xs[t / k]) hl (by simp[h3]) (t%k) ((enc xs[t / k])[t%k]'(by omega)) (by simp[h5,h4])
  have h7:t / k*k+t%k=t:=by rw[Nat.mul_comm];exact Nat.div_add_mod t k
  rw[h7]at h6;rw[h6];have hs:t<(Go.Sort.flatK enc k xs.toArray).size:=by simpa using ht
  rw[Array.getElem?_toList,Array.getElem?_eq_getElem hs,←getElem!_pos (Go.Sort.flatK enc k xs.toArray) t hs,Go.Sort.get_flatK _ _ _ _ (by simpa using ht)]
  simp[h3,h5,h4]
 ·rw[List.getElem?_eq_none (by simp;omega),List.getElem?_eq_none (by omega)]
theorem own_holdsK{xs:List α}(hk:∀x,(enc x).length=k)(hw:Wd Γ S w)(hi:S[i]? = some (.own (.slice (some ⟨g,0,none⟩) n c) E k (xs.map enc)))(hc:0<c):Go.Sort.HoldsK enc k w g 0 xs.toArray∧g<w.heap.size:=by
 obtain⟨a,n',c',e1,e2,e3,e4,e5⟩:=own_block hw hi
 cases e1
 rcases e5 with e5|⟨g',cur,g1,g2,g3,g4,g5⟩
 ·omega
 cases g1
 refine⟨fun j hj=>?_,g2⟩
 have hj':j<xs.length*k:=by simpa using hj
 rw[←flatK_toList hk]at g5;have hn:n=xs.length:=by simpa using e2
 subst hn;have h1:(cur.toList.take (xs.length*k))[j]? = cur[j]?:=by rw[List.getElem?_take_of_lt hj',Array.getElem?_toList]
 rw[g5,Array.getElem?_toList,Array.getElem?_eq_getElem hj]at h1;constructor
 ·simp only[World.cell?,g3,Nat.zero_add,id]
  simp only[Option.isSome_none,Bool.false_eq_true,if_false]
  rw[←h1,getElem!_pos _ j hj]
 ·simp[World.frozen?,g3]
theorem own_sortWorld{xs:List α}(hk:∀x,(enc x).length=k)(hw:Wd Γ S w)(hi:S[i]? = some (.own (.slice (some ⟨g,0,none⟩) n c) E k (xs.map enc)))(hc:0<c)(dk:Array α)(hs:dk.size=xs.length)(m:Nat)(os:Array Obj) :
  Wd Γ (S.set i (.own (.slice (some ⟨g,0,none⟩) n c) E k (dk.toList.map enc))) (Go.Proofs.sortWorldK enc k w g 0 m dk os):=by
 have hsz:(Go.Proofs.sortWorldK enc k w g 0 m dk os).heap.size=w.heap.size+os.size:=by
  simp[Go.Proofs.sortWorldK,Go.Sort.grow,Go.Sort.putRowK,Go.Sort.putRow,Go.Sort.mapBlock,Go.Sort.ahead]
 refine hw.upd hi ⟨rfl,rfl,rfl,Nat.le_add_right _ _,by omega⟩ fun bs hr hnd hlt=>?_
 unfold Res.own at hr ⊢
 obtain⟨h0,a',n',c',e1,e2,e3,e4,e5⟩:=hr;cases e1
 rcases e5 with⟨e5,_⟩|⟨g',cur,g1,rfl,g3,g4,g5⟩
 ·omega
 cases g1
 have hn:n=xs.length:=by simpa using e2
 subst hn;have hglt:g<w.heap.size:=hlt g (by simp)
 have hkk:∀b,b<w.heap.size→(Go.Proofs.sortWorldK enc k w g 0 m dk os).heap[b]? = (w.heap.modify g (Go.Sort.onCells (Go.Sort.putCells id 0 (Go.Sort.flatK enc k dk))))[b]?:=fun b hb=>by
  show ((w.heap.modify g _)++os)[b]? = _
  rw[Array.getElem?_append_left (by simpa using hb)]
 refine⟨[g],⟨fun r hr=>?_,_,_,_,rfl,by simp[hs],e3,e4,.inr ⟨g,Go.Sort.putCells id 0 (Go.Sort.flatK enc k dk) cur,rfl,rfl,?_,?_,?_⟩⟩,by simp,fun b hb=>⟨by have:=hlt b hb;omega,.inl hb⟩,fun b hb hne=>?_⟩
 ·obtain⟨x,_,rfl⟩:=List.mem_map.1 hr;exact hk x
 ·show (Go.Proofs.sortWorldK enc k w g 0 m dk os).heap[g]? = _
  rw[hkk g hglt,Array.getElem?_modify,if_pos rfl];simp only[hp]at g3
  rw[g3];rfl
 ·rw[←g4];simp[Go.Sort.putCells]
 ·rw[show dk.toList.map enc=((dk.toList).map enc) from rfl,←flatK_toList hk];refine List.ext_getElem? fun j=>?_
  have hfs:(Go.Sort.flatK enc k dk.toList.toArray).size=xs.length*k:=by simp[hs]
  by_cases hj:j<xs.length*k
  ·have hjc:j<cur.size:=by
    rw[g4];exact Nat.lt_of_lt_of_le hj (Nat.mul_le_mul_right _ e3)
   rw[List.getElem?_take_of_lt hj,Array.getElem?_toList,Array.getElem?_toList,Array.getElem?_eq_getElem (by simpa[Go.Sort.putCells] using hjc),Array.getElem?_eq_getElem (by rw[hfs];exact hj)]
   simp only[Go.Sort.putCells,Array.getElem_mapIdx,Nat.zero_le,Nat.sub_zero,Nat.zero_add,true_and,id]
   rw[if_pos (by simpa[hs] using hj),getElem!_pos _ j (by simpa[hs] using hj)]
  ·rw[List.getElem?_eq_none (by simp;omega),List.getElem?_eq_none (by simp[hs];omega)]
 ·rw[hkk b hb,Array.getElem?_modify,if_neg (fun e=>hne (by simp[e]))]
theorem permIn_list{d d':Array α}(h:Go.Sort.PermIn 0 d.size d d'):d'.toList.Perm d.toList:=by
 obtain⟨h1,_,h2⟩:=h;have e:∀x:Array α,x.size=d.size→x.extract 0 d.size=x:=fun x hx=>by rw[←hx];simp
 rwa [e d' h1,e d rfl]at h2
theorem sortedIn_list{lt:α→α→Bool}{d:Array α}{m:Nat}(hm:m=d.size)(h:Go.Sort.SortedIn lt 0 m d):d.toList.Pairwise fun a b=>lt b a=false:=by
 subst hm;rw[List.pairwise_iff_getElem];intro i j hi hj hij;have:=h i j (Nat.zero_le _) hij (by simpa using hj)
 simp only[Array.length_toList]at hi hj
 simpa[hi,hj] using this
theorem SortFunc_K{ρ:Go.Shelf.Ren}(L:Go.Proofs.SlLaysF0.n6 P ρ)(cf:α→α→Int)(f:Nat)(cap:List Value)[FnOk P f](xs:List α)(v:Value)(hw:Wd Γ S w)(hi:S[i]? = some (.own v E k (xs.map enc)))
  (hk:∀x,(enc x).length=k) (h1:∀x,∀u∈enc x,u.oneCell'=true) (hA:TA P (ρ.t 24) k) (hO:Go.Sort.SWO (Go.Proofs.ltOf cf)) (hlen:xs.length<4611686018427387904)
  (hcmp:∀(dk:List α) w',Wd Γ (S.set i (.own v E k (dk.map enc))) w'→∀x y,Calls P f (#[.agg (enc x).toArray,.agg (enc y).toArray]++cap.toArray) w' fun e w''=>e=.returned (.int .i64 (cf x y))∧∃S'',Wd (allG w') S'' w'') :
  Calls P (ρ.f 6) #[v,.func (.func f) #[] cap.toArray] w fun e w'=>e=.returned (.tuple #[])∧∃ys:List α,ys.Perm xs∧(ys.Pairwise fun a b=>Go.Proofs.ltOf cf b a=false)∧Wd Γ (S.set i (.own v E k (ys.map enc))) w':=by
 obtain⟨a,n,c,rfl,e2,e3,e4,e5⟩:=own_block hw hi
 have hn:n=xs.length:=by simpa using e2
 by_cases h0:n=0
 ·have hx:xs=[]:=List.eq_nil_of_length_eq_zero (by omega)
  subst h0;refine(Go.Proofs.AnyF.slices_SortFunc_none (P:=P) (ρ:=ρ) L a c _ w).mono ?_
  rintro e w' ⟨he,rfl⟩
  refine⟨he,[],by rw[hx],List.Pairwise.nil,?_⟩
  rw[hx]at hi;have hset:S.set i (.own (.slice a 0 c) E k (([]:List α).map enc))=S:=by
   obtain⟨hil,hie⟩:=List.getElem?_eq_some_iff.1 hi
   rw[←hie];exact List.set_getElem_self hil
  rw[hset];exact hw
 ·have hc:0<c:=by omega
  rcases e5 with e5|⟨g,cur,rfl,hg,hcur,hcs,htk⟩
  ·omega
  obtain⟨hH,hgl⟩:=own_holdsK hk hw hi hc
  have haggz:(∀w,(isAgg (ρ.t 24)).run P w=.ok true w)∧∀w,(Go.sizeOf (ρ.t 24)).run P w=.ok k w:=by
   have h:=hA.h
   unfold aggSz at h;cases hu:P.underlying (ρ.t 24) with
   | none=>simp[hu]at h
   | some t=>
    simp[hu]at h
    cases hq:P.info? (ρ.t 24) with
    | none=>simp[hq]at h
    | some q=>
     simp[hq]at h
     refine⟨fun w=>?_,fun w=>by simp[Go.sizeOf,typeInfo,hq,h.2]⟩
     unfold isAgg;rw[Sem.run_bind,run_underlying hu w];cases t <;> simp_all [TypeDesc.isRow]
  have:=Go.Proofs.AnyQ.slices_SortFunc L k haggz.1 haggz.2 enc hk h1 cf hO f cap.toArray g 0 c xs.toArray w (fun args w=>run_callFunc args) (fun m os dk hdk x y=>?_) hH hgl (by simpa using hlen)
  ·simp only[List.size_toArray]at this
   rw[←hn]at this;refine this.mono ?_
   rintro e w' ⟨he,d',n',os,hp,hs,rfl⟩
   have hd:d'.size=xs.length:=by have:=hp.1;simpa using this
   refine⟨he,d'.toList,by simpa using permIn_list (d:=xs.toArray) (by simpa[←hn] using hp),sortedIn_list (m:=n) (by omega) hs,own_sortWorld hk hw hi hc d' hd n' os⟩
  ·have hw1:=own_sortWorld hk hw hi hc dk (by simpa using hdk) m os
   refine(hcmp dk.toList _ hw1 x y).mono ?_
   rintro e w'' ⟨he,S'',hw2⟩
   exact⟨he,allG_grow hw2⟩
end
section
variable {P:Program}{n:Nat}{ops:List Oper}{Γ:Gho}{S K:List Res}{wr tc stab:List (List Nat)}{Q:Fr→World→Prop}{QQ:Exit→Fr→World→Prop}{i:Nat}{rest:List Oper}{ρ:Fr}{w:World}{M:Nat→Fr→List Res}{v:Value}
variable {d:Option Tmp}{T U ty:TypeId}{pos:String}{es:Array Edge}{x y z:Operand}
theorem Wd.toEnd{r:Res}(h:Wd Γ (r::S) w):Wd Γ (S++[r]) w:=h.perm (List.perm_append_singleton r S).symm
def pullL(i:Nat)(S:List Res):List Res:=match S[i]? with|some r=>r::S.eraseIdx i|none=>S
def psL:List Nat→List Res→List Res
 | [],S=>S
 | i::is,S=>psL is (pullL i S)
theorem Wd.ps{Γ:Gho}{w:World}:∀(is:List Nat) {S:List Res},Wd Γ S w→Wd Γ (psL is S) w
 | [],_,h=>h
 | i::is,S,h=>Wd.ps is (by
  unfold pullL;split
  ·rename_i r hr;exact h.pull hr
  ·exact h)
def dsL:List Nat→List Res→List Res
 | [],S=>S
 | i::is,S=>dsL is (S.eraseIdx i)
theorem Wd.ds{Γ:Gho}{w:World}:∀(is:List Nat) {S:List Res},Wd Γ S w→Wd Γ (dsL is S) w
 | [],_,h=>h
 | i::is,_,h=>Wd.ds is (h.dropAt i)
theorem Wd.flip{A B:List Res}(h:Wd Γ (A++B) w):Wd Γ (B++A) w:=h.perm List.perm_append_comm
theorem W_mixE{id:Nat}{l:List Oper}(k:Nat)(wr tc stab:List (List Nat))(h:MSw (mV P n l Γ K wr tc stab) (fun ρ w=>QQ .normal ρ w) 0 l ⟨ρ,ML (List.replicate k fun _=>[])⟩)
  (hw:Wd Γ K w:=by exact hw) (hm:P.follows .mixedOrders=true:=by kernel_rfl) (hk:checkM n l wr tc stab=true:=by kernel_rfl):W P n (.region id l.toArray true) QQ ρ w:=
 W_mixed K _ wr tc stab (by
  have:((List.range stab.length).flatMap fun x=>ML (List.replicate k fun _=>[]) x (ovr (stab.getD x []) ρ noFr))=[]:=by
   rw[List.flatMap_eq_nil_iff];intro x _;unfold ML;rw[List.getD_eq_getElem?_getD];cases hx:(List.replicate k fun _:Fr=>([]:List Res))[x]? with
   | none=>rfl
   | some q=>
    have:=List.mem_of_getElem? hx
    rw[List.mem_replicate]at this;rw[this.2];rfl
  rw[this,List.append_nil];exact hw) h hm hk
theorem W_mix1{id:Nat}{l:List Oper}(K X:List Res)(wr tc:List (List Nat))(hw:Wd Γ (K++X) w)(h:MSw (mV P n l Γ K wr tc [[]]) (fun ρ w=>QQ .normal ρ w) 0 l ⟨ρ,ML [fun _=>X]⟩)
  (hm:P.follows .mixedOrders=true:=by kernel_rfl) (hk:checkM n l wr tc [[]]=true:=by kernel_rfl):W P n (.region id l.toArray true) QQ ρ w:=
 W_mixed K [fun _=>X] wr tc [[]] (by
  show Wd Γ (K++(X++[])) w
  rw[List.append_nil];exact hw) h hm hk
theorem mStoreC{c b o j m:Nat}{cs:Array Value}{E:TypeId}{vs:List Value}{X:List Res}[hn:TSz P T m](h:MSw (mV P n ops Γ K wr tc stab) Q (i+1) rest ⟨ρ,setC M c fun _=>X.set j (.blk b (.cells (putCells cs o vs) E))⟩)
  (ht:tc.getD i []=[c]:=by exact rfl) (hM:M c=(fun _=>X):=by exact rfl) (hj:X[j]? = some (.blk b (.cells cs E)):=by exact byIX) (hw0:wr.getD i []=[c]:=by exact rfl) (hx:∀g,ev (ovr stab.flatten g ρ) x=.pointer (some ⟨b,o,none⟩):=by intro g;exact rfl)
  (hy:∀g,ev (ovr stab.flatten g ρ) y=v:=by intro g;exact byMV) (hv:v.cells.toList=vs:=by exact rfl) (hl:vs.length=m:=by exact rfl) (h1:vs.all (·.oneCell')=true:=by exact rfl) (ho:o+m≤cs.size:=by exact Nat.le_of_ble_eq_true rfl) :
  MSw (mV P n ops Γ K wr tc stab) Q i (⟨none,.store T x y,ty,pos,es,none⟩::rest) ⟨ρ,M⟩:=by
 refine mM (v:=undef) _ (fun Y w g hw=>?_) h hw0 rfl
 have e:∀M',cellsAt tc stab i M' g=M' c (ovr (stab.getD c []) g noFr):=fun M'=>by
  unfold cellsAt;rw[ht];simp
 rw[e,hM]at hw;have hjl:j<X.length:=(List.getElem?_eq_some_iff.1 hj).1
 refine s_store hn.h hw (hx g) (hy g) hv hl (fun u hu=>(List.all_eq_true.1 h1) u hu) (i:=K.length+j) (by rw[List.getElem?_append_right (Nat.le_add_right _ _),Nat.add_sub_cancel_left,List.getElem?_append_left hjl];exact hj) ho fun w' hw'=>⟨?_,fun _=>rfl⟩
 have e2:cellsAt tc stab i (setC M c fun _=>X.set j (.blk b (.cells (putCells cs o vs) E))) (putO g none undef)=X.set j (.blk b (.cells (putCells cs o vs) E)):=by
  unfold cellsAt;rw[ht];simp[setC_self]
 rw[e2];rw[List.set_append_right _ _ (Nat.le_add_right _ _),Nat.add_sub_cancel_left,List.set_append_left _ _ hjl]at hw';exact hw'
theorem cells1{c:Nat}{g:Fr}(ht:tc.getD i []=[c])(M:Nat→Fr→List Res):cellsAt tc stab i M g=M c (ovr (stab.getD c []) g noFr):=by unfold cellsAt;rw[ht];simp
theorem cells2{c c2:Nat}{g:Fr}(ht:tc.getD i []=[c,c2])(M:Nat→Fr→List Res):cellsAt tc stab i M g=M c (ovr (stab.getD c []) g noFr)++M c2 (ovr (stab.getD c2 []) g noFr):=by unfold cellsAt;rw[ht];simp
theorem setC_other{c c':Nat}{m:Fr→List Res}(h:c'≠c):setC M c m c'=M c':=by simp[setC,h]
theorem mBuild{c dd E by' len sz:Nat}{zs:List Value}{parts:Array (Nat×Operand)}{cells:List Value}(rws:List (List Value))[TL P T E sz by' zs](h:MSw (mV P n ops Γ K wr tc stab) Q (i+1) rest ⟨putO ρ (some dd) undef,setC M c fun g=>[.own (g dd) E sz rws]⟩)
  (hf:∀g,fillL (fun i=>some (i*sz,sz)) ((List.range (len*sz)).map fun i=>zs.getD (i%sz) undef) (parts.toList.map fun p=>(p.1,ev (ovr stab.flatten g ρ) p.2))=some cells:=by intro g;exact rfl)
  (ht:tc.getD i []=[c]:=by exact rfl) (hM:M c=(fun _=>[]):=by exact rfl) (hs:(stab.getD c []).contains dd=true:=by exact rfl) (hfr:freeD stab (some dd)=true:=by exact rfl) (hw0:wr.getD i []=[c]:=by exact rfl)
  (hrw:rws.flatten=cells:=by exact rfl) (hlen:rws.length=len:=by exact rfl) (hr:rws.all (fun r=>Nat.beq r.length sz)=true:=by exact rfl) (hbig:Nat.ble (len*sz) 16777216=true:=by exact rfl) :
  MSw (mV P n ops Γ K wr tc stab) Q i (⟨some dd,.buildSlice T len parts,ty,pos,es,none⟩::rest) ⟨ρ,M⟩:=by
 refine mM (v:=undef) _ (fun Y w g hw=>?_) h hw0 rfl
 rw[cells1 ht,hM]at hw;refine s_buildSlice (rws:=rws) hw (hf g) hrw hlen (fun r hm=>Nat.eq_of_beq_eq_true ((List.all_eq_true.1 hr) r hm)) (Nat.le_of_ble_eq_true hbig) fun a w' hw'=>⟨?_,fun hh=>by rw[hfr]at hh;cases hh⟩
 rw[cells1 ht,setC_self];have h1:ovr (stab.getD c []) (putO g (some dd) (.slice (some a) len len)) noFr dd=.slice (some a) len len:=by
  rw[ovr_in (by simpa using hs)];exact upd_same _ _ _
 rw[h1];exact Wd.unmid hw'
theorem mApp{c c2 dd dy j E by' sz m cc:Nat}{zs:List Value}{a:Option Addr}{rows rows2:List (List Value)}{X:List Res}[TL P T E sz by' zs](h:MSw (mV P n ops Γ K wr tc stab) Q (i+1) rest ⟨putO ρ (some dd) undef,setC M c fun g=>X.set j (.own (g dd) E sz (rows++rows2))⟩)
  (hx:∀g,ev (ovr stab.flatten g ρ) x=.slice a m cc:=by intro g;exact rfl) (ht:tc.getD i []=[c,c2]:=by exact rfl) (hM:M c=(fun _=>X):=by exact rfl) (hM2:M c2=(fun g=>[.own (g dy) E sz rows2]):=by exact rfl) (hj:X[j]? = some (.own (.slice a m cc) E sz rows):=by exact byIX)
  (hs:(stab.getD c []).contains dd=true:=by exact rfl) (hs2:(stab.getD c2 []).contains dy=true:=by exact rfl) (hfr:freeD stab (some dd)=true:=by exact rfl) (hfy:stab.flatten.contains dy=true:=by exact rfl) (hne:Nat.beq dy dd=false:=by exact rfl) (hcc:Nat.beq c2 c=false:=by exact rfl) (hw0:wr.getD i []=[c]:=by exact rfl)
  (h1:rows2.flatten.all (·.oneCell')=true:=by exact rfl) (hb:(m+rows2.length)*by'≤140737488355328:=by (simp only[List.length_cons,List.length_nil];omega)) (h63:m+rows2.length≤9223372036854775807:=by (simp only[List.length_cons,List.length_nil];omega)) :
  MSw (mV P n ops Γ K wr tc stab) Q i (⟨some dd,.call { callee:=.builtin .append,args:=#[x,.tmp dy],argTypes:=#[T,T] },ty,pos,es,none⟩::rest) ⟨ρ,M⟩:=by
 refine mM (v:=undef) _ (fun Y w g hw=>?_) h hw0 rfl
 have hyd:dy≠dd:=fun e=>by subst e;simp at hne
 have hcd:c2≠c:=fun e=>by subst e;simp at hcc
 rw[cells2 ht,hM,hM2]at hw;have h2:∀f:Fr,ovr (stab.getD c2 []) f noFr dy=f dy:=fun f=>ovr_in (by simpa using hs2)
 simp only[h2]at hw
 have hjl:j<X.length:=(List.getElem?_eq_some_iff.1 hj).1
 have hi1:(K++(X++[.own (g dy) E sz rows2]++Y))[K.length+j]? = some (.own (.slice a m cc) E sz rows):=by
  rw[List.getElem?_append_right (Nat.le_add_right _ _),Nat.add_sub_cancel_left,List.append_assoc,List.getElem?_append_left hjl];exact hj
 have hi2:(K++(X++[.own (g dy) E sz rows2]++Y))[K.length+X.length]? = some (.own (g dy) E sz rows2):=by
  rw[List.getElem?_append_right (Nat.le_add_right _ _),Nat.add_sub_cancel_left,List.append_assoc,List.getElem?_append_right (Nat.le_refl _)];simp
 obtain⟨a2,m2,c3,e1,e2,e3,e4⟩:=hw.own_shape hi2
 have hrd:Rd w a2 sz rows2:=by
  have hw2:=hw
  have hi3:=hi2
  rw[e1]at hw2 hi3
  exact hw2.own_rd hi3
 have hy:ev (ovr stab.flatten g ρ) (.tmp dy)=.slice a2 m2 c3:=by
  show ovr stab.flatten g ρ dy=_
  rw[ovr_in (by simpa using hfy)];exact e1
 refine s_append hw (hx g) hy hi1 hrd e2 (fun u hu=>(List.all_eq_true.1 h1) u hu) (by rw[e2];exact hb) (by rw[e2];exact h63) fun v' w' hw'=>⟨?_,fun hh=>by rw[hfr]at hh;cases hh⟩
 rw[cells2 ht,setC_self,setC_other hcd,hM2];have h3:ovr (stab.getD c []) (putO g (some dd) v') noFr dd=v':=by
  rw[ovr_in (by simpa using hs)];exact upd_same _ _ _
 have h4:putO g (some dd) v' dy=g dy:=upd_ne _ _ hyd
 simp only[h2,h3,h4]
 rw[List.append_assoc,List.set_append_right _ _ (Nat.le_add_right _ _),Nat.add_sub_cancel_left,List.set_append_left _ _ hjl]at hw';rw[List.append_assoc];exact hw'
theorem mStoreV{c b o j j2 dv E2 sz2:Nat}{cs:Array Value}{E:TypeId}{rows:List (List Value)}{X:Fr→List Res}[hn:TSz P T 1](h:MSw (mV P n ops Γ K wr tc stab) Q (i+1) rest ⟨ρ,setC M c fun g=>(X g).set j (.blk b (.cells (putCells cs o [g dv]) E))⟩)
  (ht:tc.getD i []=[c]:=by exact rfl) (hM:M c=X:=by exact rfl) (hj:∀g,(X g)[j]? = some (.blk b (.cells cs E)):=by intro g;exact byIX) (hj2:∀g,(X g)[j2]? = some (.own (g dv) E2 sz2 rows):=by intro g;exact byIX) (hw0:wr.getD i []=[c]:=by exact rfl) (hx:∀g,ev (ovr stab.flatten g ρ) x=.pointer (some ⟨b,o,none⟩):=by intro g;exact rfl)
  (hs:(stab.getD c []).contains dv=true:=by exact rfl) (hfv:stab.flatten.contains dv=true:=by exact rfl) (ho:o+1≤cs.size:=by exact Nat.le_of_ble_eq_true rfl) :
  MSw (mV P n ops Γ K wr tc stab) Q i (⟨none,.store T x (.tmp dv),ty,pos,es,none⟩::rest) ⟨ρ,M⟩:=by
 refine mM (v:=undef) _ (fun Y w g hw=>?_) h hw0 rfl
 rw[cells1 ht,hM]at hw;have hy:ev (ovr stab.flatten g ρ) (.tmp dv)=g dv:=ovr_in (by simpa using hfv)
 have hg:ovr (stab.getD c []) g noFr dv=g dv:=ovr_in (by simpa using hs)
 have hjl:j<(X (ovr (stab.getD c []) g noFr)).length:=(List.getElem?_eq_some_iff.1 (hj _)).1
 have hjl2:j2<(X (ovr (stab.getD c []) g noFr)).length:=(List.getElem?_eq_some_iff.1 (hj2 _)).1
 obtain⟨a2,m2,c3,e1,-,-,-⟩:=hw.own_shape (i:=K.length+j2) (v:=g dv) (e:=E2) (sz:=sz2) (rows:=rows) (by
  rw[List.getElem?_append_right (Nat.le_add_right _ _),Nat.add_sub_cancel_left,List.getElem?_append_left hjl2,hj2,hg])
 refine s_store hn.h hw (hx g) hy (vs:=[g dv]) (by rw[e1];rfl) rfl (fun u hu=>by simp at hu;subst hu;rw[e1];rfl) (i:=K.length+j) (by rw[List.getElem?_append_right (Nat.le_add_right _ _),Nat.add_sub_cancel_left,List.getElem?_append_left hjl];exact hj _) ho fun w' hw'=>⟨?_,fun _=>rfl⟩
 rw[cells1 ht,setC_self];rw[List.set_append_right _ _ (Nat.le_add_right _ _),Nat.add_sub_cancel_left,List.set_append_left _ _ hjl]at hw';simp only[putO,hg]
 exact hw'
end
section
variable {P:Program}{n:Nat}{opa:Array Oper}{Γ:Gho}{S:List Res}{QQ:Exit→Fr→World→Prop}{ρ:Fr}{w:World}{rest:List Oper}{j dj:Nat}{want c:Bool}
variable {d:Option Tmp}{op:Op}{T U ty:TypeId}{pos:String}{es:Array Edge}{x y z:Operand}
attribute [local semireducible] L Step gv GuardIs
theorem lGT(h:L P n opa QQ (⟨d,op,ty,pos,es,none⟩::rest) ρ w)(hj:(opa[j]?).bind (·.dst)=some dj:=by exact rfl)(hjn:okDst n (some dj)=true:=by exact rfl)(hc:GuardIs (ρ dj) want c:=by exact byGC)(hct:c=true:=by with_reducible rfl):L P n opa QQ (⟨d,op,ty,pos,es,some (j,want)⟩::rest) ρ w:=fun a hda hs hf=>by
 subst hct;have h1:=h a hda hs hf
 have hw:=wanted_fn (⟨d,op,ty,pos,es,some (j,want)⟩:Oper) opa a j want rfl dj hj (by rw[hs];exact okDst_spec hjn _ rfl)
 subst hf;rw[show (saysB (fnOf a dj) == some want)=true from hc]at hw;unfold wpList at h1 ⊢
 rw[if_pos hw];rw[if_pos (by simp[Region.wanted])]at h1
 exact h1
theorem lGF(h:L P n opa QQ rest (putO ρ d undef) w)(hj:(opa[j]?).bind (·.dst)=some dj:=by exact rfl)(hjn:okDst n (some dj)=true:=by exact rfl)(hd:okDst n d=true:=by exact rfl)(hc:GuardIs (ρ dj) want c:=by exact byGC)(hct:c=false:=by with_reducible rfl):L P n opa QQ (⟨d,op,ty,pos,es,some (j,want)⟩::rest) ρ w:=fun a hda hs hf=>by
 subst hct;have hw:=wanted_fn (⟨d,op,ty,pos,es,some (j,want)⟩:Oper) opa a j want rfl dj hj (by rw[hs];exact okDst_spec hjn _ rfl)
 subst hf;rw[show (saysB (fnOf a dj) == some want)=false from hc]at hw;unfold wpList;rw[if_neg (by rw[hw];simp)]
 exact h _ (by rw[defers_put];exact hda) (by rw[size_put];exact hs) (fnOf_putO a _ _ (by rw[hs];exact okDst_spec hd))
theorem lGC(hj:(opa[j]?).bind (·.dst)=some dj)(hjn:okDst n (some dj)=true)(hd:okDst n d=true)(hc:GuardIs (ρ dj) want c)(ht:c=true→L P n opa QQ (⟨d,op,ty,pos,es,none⟩::rest) ρ w)(hf:c=false→L P n opa QQ rest (putO ρ d undef) w):L P n opa QQ (⟨d,op,ty,pos,es,some (j,want)⟩::rest) ρ w:=by
 cases hcc:c with
 | true=>exact lGT (ht hcc) hj hjn hc hcc
 | false=>exact lGF (hf hcc) hj hjn hd hc hcc
theorem L_bin{bo:BinOp}(h:L P n opa QQ (⟨d,.binOp bo T x y U,ty,pos,es,none⟩::rest) ρ w):L P n opa QQ (⟨d,.binOp bo T x y U,ty,pos,es,none⟩::rest) ρ w:=h
theorem L_notop(h:L P n opa QQ (⟨d,.unOp .not T x,ty,pos,es,none⟩::rest) ρ w):L P n opa QQ (⟨d,.unOp .not T x,ty,pos,es,none⟩::rest) ρ w:=h
theorem lT{b:Bool}{o:Oper}(hb:b=true)(h:L P n opa QQ rest (putO ρ o.dst (.bool true)) w)(hg:o.guard=none:=by exact rfl)(hd:okDst n o.dst=true:=by exact rfl)(hw:Wd Γ S w:=by exact hw)(hy:Yields P o ρ w (.bool b):=by exact byPU):L P n opa QQ (o::rest) ρ w:=L_y hg hd (by rw[hb]at hy;exact hy) h
theorem lF{b:Bool}{o:Oper}(hb:b=false)(h:L P n opa QQ rest (putO ρ o.dst (.bool false)) w)(hg:o.guard=none:=by exact rfl)(hd:okDst n o.dst=true:=by exact rfl)(hw:Wd Γ S w:=by exact hw)(hy:Yields P o ρ w (.bool b):=by exact byPU):L P n opa QQ (o::rest) ρ w:=L_y hg hd (by rw[hb]at hy;exact hy) h
end
section
variable {P:Program}{n:Nat}{ops:List Oper}{Γ:Gho}{S:List Res}{Q:Fr→World→Prop}{ρ:Fr}{rest:List Oper}{j dj:Nat}{want c:Bool}
variable {d:Option Tmp}{op:Op}{T U ty:TypeId}{pos:String}{es:Array Edge}{x y z:Operand}
theorem qGF(h:Qw P n ops Γ S Q rest (putO ρ d (gv c undef)))(hcf:c=false)(hj:(ops[j]?).bind (·.dst)=some dj:=by exact rfl)(hc:GuardIs (ρ dj) want c:=by exact byGC)(hsel:noSel ⟨d,op,ty,pos,es,some (j,want)⟩=true:=by exact rfl) :
  Qw P n ops Γ S Q (⟨d,op,ty,pos,es,some (j,want)⟩::rest) ρ:=Q_gy rfl hj hc hsel (fun hct=>by rw[hcf]at hct;cases hct) h
theorem qT{b:Bool}{o:Oper}(hb:b=true)(h:Qw P n ops Γ S Q rest (putO ρ o.dst (.bool true)))(hg:o.guard=none:=by exact rfl)(hsel:noSel o=true:=by exact rfl)(hy:∀w,Wd Γ S w→Yields P o ρ w (.bool b):=by (intro w hw;exact byPU)):Qw P n ops Γ S Q (o::rest) ρ:=Q_y hg hsel (fun w hw=>by have:=hy w hw;rw[hb]at this;exact this) h
end
theorem enc_one{α:Type}[GoT α](a:α):(enc a).all (·.oneCell')=true:=by
 rw[List.all_eq_true];intro u hu;have h:kOf u∈(GoT.ks α).map some:=by rw[←GoT.kinds a];exact List.mem_map.2 ⟨u,hu,rfl⟩
 obtain⟨k,_,hk⟩:=List.mem_map.1 h
 cases u <;> simp[kOf]at hk <;> rfl
theorem encs_one{α:Type}[GoT α](xs:List α):(xs.map enc).flatten.all (·.oneCell')=true:=by
 rw[List.all_eq_true];intro u hu;obtain⟨r,hr,hur⟩:=List.mem_flatten.1 hu
 obtain⟨x,_,rfl⟩:=List.mem_map.1 hr
 exact(List.all_eq_true.1 (enc_one x)) u hur
section
end
attribute [local irreducible] Calls
def exC{T:Type}(φ:T→Fr→Prop)(R:T→List Res):Fr→List Res:=fun g=>[Res.ex (α:={t:T // φ t g}) fun p=>R p.1]
section
variable {P:Program}{n:Nat}{ops:List Oper}{Γ:Gho}{K X:List Res}{wr tc stab:List (List Nat)}{N:List Nat}{Q:Fr→World→Prop}{i:Nat}{rest:List Oper}{ρ:Fr}{w:World}{M:Nat→Fr→List Res}{v:Value}{T T':Type}
theorem W_mixC{id:Nat}{l:List Oper}{QQ:Exit→Fr→World→Prop}(K X:List Res)(N:List Nat)(wr:List (List Nat))(hw:Wd Γ (K++X) w)
  (h:MSw (mV P n l Γ K wr wr [N]) (fun ρ w=>QQ .normal ρ w) 0 l ⟨ρ,fun _=>exC (T:=Unit) (fun _ _=>True) (fun _=>X)⟩)
  (hm:P.follows .mixedOrders=true:=by kernel_rfl) (hk:checkM n l wr wr [N]=true:=by kernel_rfl):W P n (.region id l.toArray true) QQ ρ w:=
 W_mix K (fun _=>exC (T:=Unit) (fun _ _=>True) (fun _=>X)) wr wr [N] true hm hk (by
  have e:cellsOf (mV P n l Γ K wr wr [N]) (List.range [N].length) (fun _=>exC (T:=Unit) (fun _ _=>True) (fun _=>X)) ρ=exC (T:=Unit) (fun _ _=>True) (fun _=>X) (ovr N ρ noFr):=by
   show _++[]=_
   rw[List.append_nil];rfl
  show Wd Γ (K++cellsOf (mV P n l Γ K wr wr [N]) (List.range [N].length) (fun _=>exC (T:=Unit) (fun _ _=>True) (fun _=>X)) ρ) w
  rw[e];have h1:Wd Γ (X++K) w:=hw.perm List.perm_append_comm
  have h2:=Wd.closeEx (α:={t:Unit // True}) (X:=fun _=>X) ⟨(),trivial⟩ h1
  exact(h2.perm (List.perm_append_singleton _ K).symm:_)) h
theorem mStepX{φ:T→Fr→Prop}{R:T→List Res}{o:Oper}(φ':T'→Fr→Prop)(R':T'→List Res)
  (hs:∀t g w Y,φ t (ovr N g noFr)→Wd Γ (R t++(K++Y)) w→Step P o (ovr N g ρ) w fun u w'=>∃t',φ' t' (ovr N (putO g o.dst u) noFr)∧(freeD [N] o.dst=false→u=v)∧Wd Γ (R' t'++(K++Y)) w')
  (h:MSw (mV P n ops Γ K wr wr [N]) Q (i+1) rest ⟨putO ρ o.dst v,setC M 0 (exC φ' R')⟩) (hM:M 0=exC φ R:=by first|exact setC_self|exact rfl) (hw0:wr.getD i []=[0]:=by exact rfl) (hg:o.guard=none:=by exact rfl) :
  MSw (mV P n ops Γ K wr wr [N]) Q i (o::rest) ⟨ρ,M⟩:=by
 refine mM _ (fun Y w g hw=>?_) h hw0 hg
 have e:cellsAt wr [N] i M g=exC φ R (ovr N g noFr):=by
  rw[cells1 hw0,hM];rfl
 rw[e]at hw;have e0:([N].flatten:List Nat)=N:=by simp
 rw[e0];obtain⟨⟨t,ht⟩,hw1⟩:=(Wd.mid hw).openEx
 refine(hs t g w Y ht hw1).mono ?_
 rintro u w' ⟨t',h1,h2,h3⟩
 refine⟨?_,h2⟩
 have e2:cellsAt wr [N] i (setC M 0 (exC φ' R')) (putO g o.dst u)=exC φ' R' (ovr N (putO g o.dst u) noFr):=by
  rw[cells1 hw0,setC_self];rfl
 rw[e2];exact Wd.unmid (Wd.closeEx (X:=fun p:{t:T' // φ' t (ovr N (putO g o.dst u) noFr)}=>R' p.1) ⟨t',h1⟩ h3)
theorem mCallX{φ:T→Fr→Prop}{R:T→List Res}{f:Nat}{d:Option Tmp}{ty:TypeId}{pos:String}{es:Array Edge}{args:List Operand}{tys:Array TypeId}[FnOk P f](φ':T'→Fr→Prop)(R':T'→List Res)(vs:T→Fr→List Value)
  (hs:∀t g w Y,φ t (ovr N g noFr)→Wd Γ (R t++(K++Y)) w→Calls P f (vs t (ovr N g noFr)).toArray w fun e w'=>∃u,e=.returned u∧∃t',φ' t' (ovr N (putO g d u) noFr)∧(freeD [N] d=false→u=v)∧Wd Γ (R' t'++(K++Y)) w')
  (h:MSw (mV P n ops Γ K wr wr [N]) Q (i+1) rest ⟨putO ρ d v,setC M 0 (exC φ' R')⟩) (ha:∀t g,φ t (ovr N g noFr)→EvL (ovr N g ρ) args (vs t (ovr N g noFr)):=by (intro t g ht;exact byEV)) (hM:M 0=exC φ R:=by first|exact setC_self|exact rfl) (hw0:wr.getD i []=[0]:=by exact rfl) :
  MSw (mV P n ops Γ K wr wr [N]) Q i (⟨d,.call { callee:=.value (.func f),args:=args.toArray,argTypes:=tys },ty,pos,es,none⟩::rest) ⟨ρ,M⟩:=
 mStepX φ' R' (fun t g w Y ht hw=>s_call (ha t g ht).eqA (hs t g w Y ht hw)) h hM hw0 rfl
theorem mEndX{φ:T→Fr→Prop}{R:T→List Res}(h:∀t w g,φ t (ovr N g noFr)→Wd Γ (R t++K) w→Q (ovr N g ρ) w)(hM:M 0=exC φ R:=by first|exact setC_self|exact rfl):MSw (mV P n ops Γ K wr tc [N]) Q i [] ⟨ρ,M⟩:=
 mEnd fun w g hw=>by
  have e:((List.range [N].length).flatMap fun x=>M x (ovr ([N].getD x []) g noFr))=exC φ R (ovr N g noFr):=by
   show M 0 _++[]=_
   rw[List.append_nil,hM];rfl
  rw[e]at hw;have e0:([N].flatten:List Nat)=N:=by simp
  rw[e0];obtain⟨⟨t,ht⟩,hw1⟩:=(Wd.mid (Y:=[]) hw).openEx
  exact h t w g ht (by simpa using hw1)
end
end Mk
end
section
open Go
namespace Mk
def cI(a b:Int):Int:=if a<b then -1 else if b<a then 1 else 0
def cB(a b:ByteArray):Int:=if bLt a b=true then -1 else if bLt b a=true then 1 else 0
def orI(x y:Int):Int:=if x=0 then y else x
def cL{α:Type}(c:α→α→Int):List α→List α→Int
 | [],[]=>0
 | [],_::_=>-1
 | _::_,[]=>1
 | a::l,b::k=>orI (c a b) (cL c l k)
structure Ord3{α:Type}(c:α→α→Int):Prop where
 rng:∀a b,c a b = -1∨c a b=0∨c a b=1
 eq0:∀ {a b},c a b=0→a=b
 refl:∀a,c a a=0
 anti:∀a b,c b a = -(c a b)
 trans:∀ {a b d},c a b = -1→c b d = -1→c a d = -1
theorem cI_lt{a b:Int}:cI a b = -1↔a<b:=by
 unfold cI;by_cases h:a<b
 ·simp[h]
 ·by_cases h2:b<a <;> simp[h,h2]
theorem cI_ord:Ord3 cI where
 rng a b:=by
  unfold cI;by_cases h:a<b
  ·simp[h]
  ·by_cases h2:b<a <;> simp[h,h2]
 eq0 {a b} e:=by
  unfold cI at e;by_cases h:a<b
  ·simp[h]at e
  ·by_cases h2:b<a
   ·simp[h,h2]at e
   ·omega
 refl a:=by unfold cI;simp
 anti a b:=by
  unfold cI;by_cases h:a<b
  ·rw[if_neg (by omega),if_pos h,if_pos h];rfl
  ·by_cases h2:b<a
   ·rw[if_pos h2,if_neg h,if_pos h2]
   ·rw[if_neg h2,if_neg h,if_neg h,if_neg h2];rfl
 trans {a b d} h k:=by rw[cI_lt] at *;omega
theorem cB_lt{a b:ByteArray}:cB a b = -1↔bLt a b=true:=by
 unfold cB;cases h:bLt a b with
 | true=>simp
 | false=>cases bLt b a <;> simp
theorem cB_ord:Ord3 cB where
 rng a b:=by unfold cB;cases bLt a b <;> cases bLt b a <;> simp
 eq0 {a b} h:=by
  unfold cB at h;cases h1:bLt a b with
  | true=>rw[h1]at h;cases h
  | false=>
   cases h2:bLt b a with
   | true=>rw[h1,h2]at h;cases h
   | false=>exact bLt_total h1 h2
 refl a:=by unfold cB;simp[bLt_irrefl]
 anti a b:=by
  unfold cB;cases h1:bLt a b with
  | true=>rw[bLt_asymm h1];rfl
  | false=>cases h2:bLt b a <;> rfl
 trans {a b d} h k:=by rw[cB_lt] at *;exact bLt_trans h k
section
variable {α β:Type}{c:α→α→Int}{c2:β→β→Int}
theorem orI_zero{x y:Int}:orI x y=0↔x=0∧y=0:=by
 unfold orI;split
 ·rename_i h;simp[h]
 ·rename_i h;simp[h]
theorem Ord3.map(h:Ord3 c)(f:β→α)(hf:∀a b,f a=f b→a=b):Ord3 (fun a b=>c (f a) (f b)):=
 ⟨fun _ _=>h.rng _ _,fun e=>hf _ _ (h.eq0 e),fun _=>h.refl _,fun _ _=>h.anti _ _,fun a b=>h.trans a b⟩
theorem orI_neg{x y:Int}:orI x y = -1↔x = -1∨(x=0∧y = -1):=by
 unfold orI;split
 ·rename_i h;subst h;simp
 ·rename_i h;simp[h]
theorem Ord3.prod(h:Ord3 c)(h2:Ord3 c2):Ord3 (fun (a b:α×β)=>orI (c a.1 b.1) (c2 a.2 b.2)) where
 rng a b:=by
  unfold orI;split
  ·exact h2.rng _ _
  ·exact h.rng _ _
 eq0 {a b} e:=by
  rw[orI_zero]at e;exact Prod.ext (h.eq0 e.1) (h2.eq0 e.2)
 refl a:=by rw[orI_zero];exact⟨h.refl _,h2.refl _⟩
 anti a b:=by
  unfold orI;rw[h.anti a.1 b.1,h2.anti a.2 b.2];by_cases e:c a.1 b.1=0
  ·simp[e]
  ·rw[if_neg (by omega),if_neg e]
 trans {a b d} e k:=by
  rw[orI_neg] at *
  rcases e with e|⟨e,e'⟩ <;> rcases k with k|⟨k,k'⟩
  ·exact .inl (h.trans e k)
  ·rw[←h.eq0 k];exact .inl e
  ·rw[h.eq0 e];exact .inl k
  ·rw[h.eq0 e];exact .inr ⟨k,h2.trans e' k'⟩
theorem cL_rng(h:Ord3 c):∀a b,cL c a b = -1∨cL c a b=0∨cL c a b=1
 | [],[]=>.inr (.inl rfl)
 | [],_::_=>.inl rfl
 | _::_,[]=>.inr (.inr rfl)
 | a::l,b::k=>by
  unfold cL orI;split
  ·exact cL_rng h l k
  ·exact h.rng _ _
theorem cL_eq0(h:Ord3 c):∀ {a b},cL c a b=0→a=b
 | [],[],_=>rfl
 | [],_::_,e=>by cases e
 | _::_,[],e=>by cases e
 | a::l,b::k,e=>by
  unfold cL at e;rw[orI_zero]at e;rw[h.eq0 e.1,cL_eq0 h e.2]
theorem cL_refl(h:Ord3 c):∀a,cL c a a=0
 | []=>rfl
 | a::l=>by unfold cL;rw[orI_zero];exact⟨h.refl _,cL_refl h l⟩
theorem cL_anti(h:Ord3 c):∀a b,cL c b a = -(cL c a b)
 | [],[]=>rfl
 | [],_::_=>rfl
 | _::_,[]=>rfl
 | a::l,b::k=>by
  unfold cL orI;rw[h.anti a b,cL_anti h l k];by_cases e:c a b=0
  ·simp[e]
  ·rw[if_neg (by omega),if_neg e]
theorem cL_trans(h:Ord3 c):∀ {a b d},cL c a b = -1→cL c b d = -1→cL c a d = -1
 | [],_,_::_,_,_=>rfl
 | [],[],[],e,_=>by cases e
 | [],_::_,[],_,k=>by cases k
 | _::_,[],_,e,_=>by cases e
 | _::_,_::_,[],_,k=>by cases k
 | a::l,b::m,d::n,e,k=>by
  unfold cL at *
  rw[orI_neg] at *
  rcases e with e|⟨e,e'⟩ <;> rcases k with k|⟨k,k'⟩
  ·exact .inl (h.trans e k)
  ·rw[←h.eq0 k];exact .inl e
  ·rw[h.eq0 e];exact .inl k
  ·rw[h.eq0 e];exact .inr ⟨k,cL_trans h e' k'⟩
theorem Ord3.list(h:Ord3 c):Ord3 (cL c):=⟨cL_rng h,cL_eq0 h,cL_refl h,cL_anti h,cL_trans h⟩
theorem Ord3.lt_iff(h:Ord3 c){a b:α}:Go.Proofs.ltOf c a b=true↔c a b = -1:=by
 unfold Go.Proofs.ltOf;rw[decide_eq_true_iff];rcases h.rng a b with e|e|e <;> rw[e] <;> simp
theorem Ord3.swo(h:Ord3 c):Go.Sort.SWO (Go.Proofs.ltOf c) where
 irrefl x:=by unfold Go.Proofs.ltOf;rw[h.refl];rfl
 trans x y z e k:=by rw[h.lt_iff] at *;exact h.trans e k
 ntrans x y z e k:=by
  cases q:Go.Proofs.ltOf c x z with
  | false=>rfl
  | true=>
   rw[h.lt_iff]at q;rcases h.rng x y with a|a|a
   ·rw[h.lt_iff.2 a]at e;cases e
   ·have:=h.eq0 a;subst this;rw[h.lt_iff.2 q]at k;cases k
   ·have:c y x = -1:=by rw[h.anti x y,a]
    rw[h.lt_iff.2 (h.trans this q)]at k;cases k
end
attribute [local irreducible] Calls
class PG(P:Program)(Γ:Gho)(f:Nat)(args:List Value)(v:outParam Value):Prop where
 h:∀S w,Wd Γ S w→Calls P f args.toArray w fun e w'=>e=.returned v∧Wd Γ S w'
section
variable {P:Program}{n:Nat}{ops:List Oper}{opa:Array Oper}{Γ:Gho}{S K:List Res}{Q:Fr→World→Prop}{QQ:Exit→Fr→World→Prop}{ρ:Fr}{w:World}{rest:List Oper}{wr tc stab:List (List Nat)}{i:Nat}{M:Nat→Fr→List Res}
variable {d:Option Tmp}{ty:TypeId}{pos:String}{es:Array Edge}{v:Value}{f:Nat}{args:List Operand}{tys:Array TypeId}{vs:List Value}{j dj:Nat}{want c:Bool}{g:Option (Nat×Bool)}
theorem s_pg[FnOk P f](hp:PG P Γ f vs v)(ha:EvL ρ args vs)(hw:Wd Γ S w):Step P ⟨d,.call { callee:=.value (.func f),args:=args.toArray,argTypes:=tys },ty,pos,es,g⟩ ρ w fun u w'=>u=v∧Wd Γ S w':=
 s_call ha.eqA ((hp.h S w hw).mono fun _ _ ⟨h1,h2⟩=>⟨v,h1,rfl,h2⟩)
theorem lPg[FnOk P f](h:∀w',Wd Γ S w'→L P n opa QQ rest (putO ρ d v) w')(hw:Wd Γ S w:=by exact hw)(ha:EvL ρ args vs:=by exact byEV)(hd:okDst n d=true:=by exact rfl)(hp:PG P Γ f vs v:=by infer_instance) :
  L P n opa QQ (⟨d,.call { callee:=.value (.func f),args:=args.toArray,argTypes:=tys },ty,pos,es,none⟩::rest) ρ w:=
 L_step rfl hd ((s_pg hp ha hw).mono fun _ w' ⟨h1,h2⟩=>by subst h1;exact h w' h2)
theorem qPg[FnOk P f](h:Qw P n ops Γ S Q rest (putO ρ d v))(ha:EvL ρ args vs:=by exact byEV)(hp:PG P Γ f vs v:=by infer_instance) :
  Qw P n ops Γ S Q (⟨d,.call { callee:=.value (.func f),args:=args.toArray,argTypes:=tys },ty,pos,es,none⟩::rest) ρ:=
 Q_c rfl rfl (fun _ _ hw=>s_pg hp ha hw) h
theorem qPgG[FnOk P f](h:Qw P n ops Γ S Q rest (putO ρ d (gv c v)))(hj:(ops[j]?).bind (·.dst)=some dj:=by exact rfl)(hc:GuardIs (ρ dj) want c:=by exact byGC)(ha:c=true→EvL ρ args vs:=by intro hc;exact byEVG)(hp:PG P Γ f vs v:=by infer_instance) :
  Qw P n ops Γ S Q (⟨d,.call { callee:=.value (.func f),args:=args.toArray,argTypes:=tys },ty,pos,es,some (j,want)⟩::rest) ρ:=
 Q_gc rfl hj hc rfl (fun ht _ _ hw=>s_pg hp (ha ht) hw) h
theorem mPg[FnOk P f](h:MSw (mV P n ops Γ K wr tc stab) Q (i+1) rest ⟨putO ρ d v,M⟩)(hw0:wr.getD i []=[]:=by exact rfl)(ho:outOf tc stab i d=true:=by exact rfl)(ha:∀g,EvL (ovr stab.flatten g ρ) args vs:=by intro g;exact byEV)(hp:PG P Γ f vs v:=by infer_instance) :
  MSw (mV P n ops Γ K wr tc stab) Q i (⟨d,.call { callee:=.value (.func f),args:=args.toArray,argTypes:=tys },ty,pos,es,none⟩::rest) ⟨ρ,M⟩:=
 mC (fun _ _ g hw=>s_pg hp (ha g) hw) hw0 rfl ho h
end
theorem Wd.freeze{Γ:Gho}{S:List Res}{w:World}{v:Value}{e sz:Nat}{rows:List (List Value)}(h:Wd Γ (.own v e sz rows::S) w):∃Γ',Γ.le Γ'∧RepS Γ' v sz rows∧Wd Γ' S w:=by
 obtain⟨bss,h1,h2,h3⟩:=h.own;cases bss with
 | nil=>exact h1.elim
 | cons bs bss=>
  obtain⟨hr,h1⟩:=h1;unfold Res.own at hr;obtain⟨e0,a,n,c,e1,e2,e3,e4,e5⟩:=hr;rcases e5 with⟨e5,e6⟩|⟨g,cur,g1,g2,g3,g4,g5⟩
  ·subst e6;refine⟨Γ,Gho.le.refl _,by unfold RepS;exact⟨e0,a,n,c,e1,e2,e3,e4,fun hl=>by omega⟩,h.os,h.tape,h.out,h.dr,h.imm,bss,h1,by simpa using h2,fun b hb=>h3 b (by simpa using hb)⟩
  ·subst g2;have hg:=h3 g (by simp)
   have hnd:g∉bss.flatten∧bss.flatten.Nodup:=by simpa using h2
   have hle:∀b o,Γ.imm b=some o→(fun b=>if b=g then some (Obj.cells cur e (0,0)) else Γ.imm b) b=some o:=fun b o hb=>by
    show (if b=g then _ else _)=_
    rw[if_neg (fun hh=>by subst hh;rw[hg.2]at hb;cases hb)];exact hb
   refine⟨{ Γ with imm:=fun b=>if b=g then some (.cells cur e (0,0)) else Γ.imm b },⟨hle,rfl,rfl,rfl,rfl⟩,?_,h.os,h.tape,h.out,h.dr,fun b o hb=>?_,bss,Holds.loc hle S bss (fun _ _=>rfl) h1,hnd.2,fun b hb=>⟨(h3 b (by simp[hb])).1,?_⟩⟩
   ·unfold RepS;refine⟨e0,a,n,c,e1,e2,e3,e4,fun _=>⟨g,0,cur,e,(0,0),g1,if_pos rfl,fun j u hu=>?_⟩⟩
    rw[←g5]at hu;rw[List.getElem?_take]at hu;split at hu
    ·rw[Nat.zero_add];simpa using hu
    ·cases hu
   ·have hb:(if b=g then some (Obj.cells cur e (0,0)) else Γ.imm b)=some o:=hb
    by_cases hbg:b=g
    ·subst hbg;rw[if_pos rfl]at hb;cases hb
     exact g3
    ·rw[if_neg hbg]at hb;exact h.imm b o hb
   ·show (if b=g then _ else _)=none
    rw[if_neg (fun hh=>by subst hh;exact hnd.1 hb)]
    exact(h3 b (by simp[hb])).2
theorem W_has{P:Program}{n:Nat}{c:Code}{Q:Exit→Fr→World→Prop}{ρ:Fr}{w:World}{l:List (Nat×Value)}(h:Has ρ l)(k:∀ρ',Has ρ' l→W P n c Q ρ' w):W P n c Q ρ w:=k ρ h
theorem W_cut{P:Program}{n:Nat}{c1 c2:Code}{Q:Exit→Fr→World→Prop}{ρ:Fr}{w:World}(I:Fr→World→Prop)(h1:W P n c1 (Then I Q) ρ w)(h2:∀ρ w,I ρ w→W P n c2 Q ρ w):W P n (.seq c1 c2) Q ρ w:=
 W_seq (h1.mono fun e ρ w h=>by cases e <;> first|exact h2 _ _ h|exact h)
section
variable {P:Program}{n:Nat}{ops:List Oper}{Γ:Gho}{K:List Res}{Q:Fr→World→Prop}{ρ:Fr}{rest:List Oper}{wr tc stab:List (List Nat)}{i:Nat}{M:Nat→Fr→List Res}
variable {T ty:TypeId}{pos:String}{es:Array Edge}{x y:Operand}
end
section
variable {P:Program}{n:Nat}{ops:List Oper}{Γ:Gho}{K X:List Res}{wr tc stab:List (List Nat)}{s0:List Nat}{Q:Fr→World→Prop}{i:Nat}{rest:List Oper}{ρ:Fr}{w:World}{M:Nat→Fr→List Res}{v:Value}{T T':Type}
variable {ty:TypeId}{pos:String}{es:Array Edge}
theorem RepS.imm{Γ Γ':Gho}{v:Value}{sz:Nat}{rows:List (List Value)}(h:RepS Γ v sz rows)(hi:∀b o,Γ.imm b=some o→Γ'.imm b=some o):RepS Γ' v sz rows:=by
 unfold RepS at *
 obtain⟨h0,a,n,c,h1,h2,h3,h4,h5⟩:=h;refine⟨h0,a,n,c,h1,h2,h3,h4,fun hl=>?_⟩
 obtain⟨g,o,cur,e,fr,k1,k2,k3⟩:=h5 hl
 exact⟨g,o,cur,e,fr,k1,hi _ _ k2,k3⟩
end
theorem swo_on{α β:Type}{c:α→α→Int}(h:Ord3 c)(f:β→α):Go.Sort.SWO (Go.Proofs.ltOf fun a b=>c (f a) (f b)):=
 ⟨fun x=>h.swo.irrefl (f x),fun x y z=>h.swo.trans (f x) (f y) (f z),fun x y z=>h.swo.ntrans (f x) (f y) (f z)⟩
end Mk
end
section
open Go
namespace Mk
section
variable {P:Program}{n:Nat}{opa:Array Oper}{QQ:Exit→Fr→World→Prop}{ρ:Fr}{w:World}{rest:List Oper}
variable {d:Option Tmp}{T ty:TypeId}{pos:String}{es:Array Edge}{x:Operand}
attribute [local semireducible] L W Step
def NoGo(Q:Exit→Fr→World→Prop):Exit→Fr→World→Prop
 | .goto _,_,_=>False
 | e,ρ,w=>Q e ρ w
theorem W_label{l:Nat}(h:QQ .normal ρ w):W P n (.label l) QQ ρ w:=fun a hd hs hf=>wp_label ⟨hd,hs,hf ▸ h⟩
theorem W_scopeS{c:Code}(h:W P n c (NoGo QQ) ρ w):W P n (.scope c) QQ ρ w:=fun a hd hs hf=>wp_scope_straight (Code.wp_mono (fun e a w ⟨p,q,r⟩=>by cases e <;> first|exact⟨p,q,r⟩|exact r.elim) (h a hd hs hf))
end
section
variable {P:Program}{n:Nat}{Q:List Deferred→Exit→Fr→World→Prop}{D:List Deferred}{ρ:Fr}{w:World}
attribute [local semireducible] L W Step
end
section
variable {P:Program}{n:Nat}{opa:Array Oper}{QQ:Exit→Fr→World→Prop}{ρ:Fr}{w:World}{rest:List Oper}
variable {d:Option Tmp}{T ty:TypeId}{pos:String}{es:Array Edge}{x:Operand}
attribute [local semireducible] L W Step
end
section
variable {P:Program}{n:Nat}{opa:Array Oper}{QQ:Exit→Fr→World→Prop}{ρ:Fr}{w:World}{rest:List Oper}{Γ:Gho}{S:List Res}
variable {d:Option Tmp}{ty:TypeId}{pos:String}{es:Array Edge}{f j dj:Nat}{want c:Bool}{args:List Operand}{tys:Array TypeId}{vs:List Value}{v:Value}{t:Tmp}
attribute [local semireducible] gv
theorem lPgG[FnOk P f](h:∀w',Wd Γ S w'→L P n opa QQ rest (putO ρ d (gv c v)) w')(hw:Wd Γ S w:=by exact hw)(hj:(opa[j]?).bind (·.dst)=some dj:=by exact rfl)(hjn:okDst n (some dj)=true:=by exact rfl)(hc:GuardIs (ρ dj) want c:=by exact byGC)(hd:okDst n d=true:=by exact rfl)(ha:c=true→EvL ρ args vs:=by intro hc;exact byEVG)(hp:PG P Γ f vs v:=by infer_instance) :
  L P n opa QQ (⟨d,.call { callee:=.value (.func f),args:=args.toArray,argTypes:=tys },ty,pos,es,some (j,want)⟩::rest) ρ w:=
 lGC hj hjn hd hc (fun hct=>lPg (fun w' hw'=>by have:=h w' hw';rw[hct]at this;exact this) hw (ha hct) hd hp) (fun hcf=>by have:=h w hw;rw[hcf]at this;exact this)
theorem s_pcv[FnOk P f](hp:PC P f vs v)(ht:ρ t=.func (.func f) #[] #[])(ha:EvL ρ args vs):Step P ⟨d,.call { callee:=.value (.tmp t),args:=args.toArray,argTypes:=tys },ty,pos,es,none⟩ ρ w fun u w'=>u=v∧w'=w:=
 s_callv ht ha.eqA (by simpa using (hp.h w).mono fun e w' ⟨h1,h2⟩=>⟨v,h1,rfl,h2⟩)
theorem lPv[FnOk P f](hp:PC P f vs v)(h:L P n opa QQ rest (putO ρ d v) w)(ht:ρ t=.func (.func f) #[] #[]:=by exact rfl)(ha:EvL ρ args vs:=by exact byEV)(hd:okDst n d=true:=by exact rfl) :
  L P n opa QQ (⟨d,.call { callee:=.value (.tmp t),args:=args.toArray,argTypes:=tys },ty,pos,es,none⟩::rest) ρ w:=
 L_step rfl hd ((s_pcv hp ht ha).mono fun u w' ⟨h1,h2⟩=>by subst h1;subst h2;exact h)
theorem lPvG[FnOk P f](hp:PC P f vs v)(h:L P n opa QQ rest (putO ρ d (gv c v)) w)(ht:c=true→ρ t=.func (.func f) #[] #[]:=by intro hc;exact byOP)(hj:(opa[j]?).bind (·.dst)=some dj:=by exact rfl)(hjn:okDst n (some dj)=true:=by exact rfl)(hc:GuardIs (ρ dj) want c:=by exact byGC)(hd:okDst n d=true:=by exact rfl)(ha:c=true→EvL ρ args vs:=by intro hc;exact byEVG) :
  L P n opa QQ (⟨d,.call { callee:=.value (.tmp t),args:=args.toArray,argTypes:=tys },ty,pos,es,some (j,want)⟩::rest) ρ w:=
 lGC hj hjn hd hc (fun hct=>lPv hp (by have:=h;rw[hct]at this;exact this) (ht hct) (ha hct) hd) (fun hcf=>by have:=h;rw[hcf]at this;exact this)
end
class TPair(P:Program)(K:TypeId):Prop where
 h:∃E,P.underlying K=some (.array 2 E)∧P.underlying E=some (.int .i64)∧scal P E=true
theorem run_part1{P:Program}{E:TypeId}(hs:scal P E=true){cs:Array Value}{i:Nat}{v:Value}(hv:cs[i]? = some v)(w:World):(part E cs i).run P w=.ok v w:=by
 unfold part;rw[Sem.run_bind,scal_isAgg hs];simp[Result.andThen,hv]
section
variable {P:Program}{K E:TypeId}{w:World}
theorem size1(hs:scal P E=true):(Go.sizeOf E).run P w=.ok 1 w:=scal_size hs
theorem eq_int64(h:P.underlying E=some (.int .i64))(d:Nat)(a b:Int):(Op.equalIn (d+1) E (.int .i64 a) (.int .i64 b)).run P w=.ok (decide (a=b)) w:=by
 unfold Op.equalIn;rw[Sem.run_bind,run_underlying h];show (if IntKind.i64=IntKind.i64 then pure (a == b) else Go.stuck "==: kinds differ" : Sem Bool).run P w=_
 rw[if_pos rfl];by_cases e:a=b
 ·subst e;simp
 ·simp[e]
theorem eq_pair{K E:TypeId}(hK:P.underlying K=some (.array 2 E))(hE:P.underlying E=some (.int .i64))(hs:scal P E=true)(a b c d:Int) :
  (Op.equal K (.agg #[.int .i64 a,.int .i64 b]) (.agg #[.int .i64 c,.int .i64 d])).run P w=.ok (decide ((a,b)=(c,d))) w:=by
 show (Op.equalIn 10000 K _ _).run P w=_
 unfold Op.equalIn;rw[Sem.run_bind,run_underlying hK];simp only[Result.andThen]
 rw[Sem.run_bind,size1 hs];simp only[Result.andThen]
 have p0:(part E #[.int .i64 a,.int .i64 b] 0).run P w=.ok (.int .i64 a) w:=run_part1 (P:=P) hs rfl w
 have p1:(part E #[.int .i64 a,.int .i64 b] 1).run P w=.ok (.int .i64 b) w:=run_part1 (P:=P) hs rfl w
 have q0:(part E #[.int .i64 c,.int .i64 d] 0).run P w=.ok (.int .i64 c) w:=run_part1 (P:=P) hs rfl w
 have q1:(part E #[.int .i64 c,.int .i64 d] 1).run P w=.ok (.int .i64 d) w:=run_part1 (P:=P) hs rfl w
 have e0:(Op.equalIn 9999 E (.int .i64 a) (.int .i64 c)).run P w=_:=eq_int64 (w:=w) hE 9998 a c
 have e1:(Op.equalIn 9999 E (.int .i64 b) (.int .i64 d)).run P w=_:=eq_int64 (w:=w) hE 9998 b d
 simp only[Std.Legacy.Range.forIn_eq_forIn_range',Std.Legacy.Range.size,List.range']
 simp only[List.forIn_cons,List.forIn_nil,Sem.run_bind,Sem.run_pure,Result.andThen,Nat.zero_mul,Nat.one_mul,Nat.mul_one,Nat.zero_add,p0,p1,q0,q1,e0]
 by_cases h1:a=c
 ·subst h1;by_cases h2:b=d
  ·subst h2;simp[Sem.run_bind,Sem.run_pure,Result.andThen,p1,e1]
  ·have e2:decide (b=d)=false:=decide_eq_false h2
   rw[e2]at e1;have e3:((a,b)=(a,d))=False:=by simp[h2]
   simp[Sem.run_bind,Sem.run_pure,Result.andThen,p1,q1,e1,h2]
 ·simp[h1,Sem.run_bind,Sem.run_pure,Result.andThen]
theorem check_pair{K E:TypeId}(hK:P.underlying K=some (.array 2 E))(hE:P.underlying E=some (.int .i64))(hs:scal P E=true)(empty:Bool)(a b:Int):(Instr.checkKey empty 10000 K (.agg #[.int .i64 a,.int .i64 b])).run P w=.ok () w:=by
 unfold Instr.checkKey;rw[Sem.run_bind,run_underlying hK];simp only[Result.andThen]
 have p0:(part E #[.int .i64 a,.int .i64 b] 0).run P w=.ok (.int .i64 a) w:=run_part1 (P:=P) hs rfl w
 have p1:(part E #[.int .i64 a,.int .i64 b] 1).run P w=.ok (.int .i64 b) w:=run_part1 (P:=P) hs rfl w
 have c0:(Instr.checkKey empty 9999 E (.int .i64 a)).run P w=_:=check_int (w:=w) hE empty a 9998
 have c1:(Instr.checkKey empty 9999 E (.int .i64 b)).run P w=_:=check_int (w:=w) hE empty b 9998
 simp[Std.Legacy.Range.forIn_eq_forIn_range',Std.Legacy.Range.size,List.range',Sem.run_bind,Sem.run_pure,Result.andThen,size1 hs,p0,p1,c0,c1]
theorem asking_pair{K E:TypeId}(hK:P.underlying K=some (.array 2 E))(hE:P.underlying E=some (.int .i64))(hs:scal P E=true)(a:Int×Int):∀(es:List MapEntry) (ks:List (Int×Int)) (i:Nat),es.map (·.key)=ks.map (fun p=>Value.agg #[.int .i64 p.1,.int .i64 p.2]) →
  (Instr.findAsking K (.agg #[.int .i64 a.1,.int .i64 a.2]) es i).run P w=.ok ((ks.findIdx? (fun k=>decide (k=a))).bind fun j=>(es[j]?).map fun e=>(i+j,e.val)) w
 | [],[],i,_=>by simp[Instr.findAsking]
 | [],_::_,_,h0=>by simp at h0
 | _::_,[],_,h0=>by simp at h0
 | e::es,k::ks,i,h0=>by
  simp only[List.map_cons,List.cons.injEq]at h0
  unfold Instr.findAsking;rw[h0.1,Sem.run_bind,eq_pair hK hE hs];by_cases hk:k=a
  ·subst hk;simp[Result.andThen,List.findIdx?_cons]
  ·have hk2:¬(a.1,a.2)=(k.1,k.2):=fun h=>hk (Prod.ext (by injection h with h1 h2;exact h1.symm) (by injection h with h1 h2;exact h2.symm))
   simp only[hk2,decide_false,Result.andThen,Bool.false_eq_true,if_false]
   rw[asking_pair hK hE hs a es ks (i+1) h0.2];simp only[List.findIdx?_cons,hk,decide_false,Bool.false_eq_true,if_false]
   cases ks.findIdx? (fun k=>decide (k=a)) with
   | none=>rfl
   | some j=>simp[Nat.add_comm,Nat.add_left_comm]
instance instMKeyPair[hT:TPair P K]:MKey P K (Int×Int) where
 key p:=.agg #[.int .i64 p.1,.int .i64 p.2]
 inj a b h:=by cases a;cases b;simpa using h
 dec:=inferInstance
 check empty a w:=by
  obtain⟨E,hK,hE,hs⟩:=hT.h;exact check_pair hK hE hs empty a.1 a.2
 find a es ks w h:=by
  obtain⟨E,hK,hE,hs⟩:=hT.h;unfold Instr.findKey;rw[Sem.run_bind,run_underlying hK];match es,ks,h with
  | [],[],h=>simp[Instr.findNow,Result.andThen]
  | [],_::_,h=>simp at h
  | _::_,[],h=>simp at h
  | e::es,k::ks,h=>
   have hn:Instr.findNow (.array 2 E) (.agg #[.int .i64 a.1,.int .i64 a.2]) (e::es) 0=none:=by
    unfold Instr.findNow Instr.sameNow;rfl
   simp only[Result.andThen,hn]
   have:=asking_pair (w:=w) hK hE hs a (e::es) (k::ks) 0 h
   simpa using this
 stays a w:=by
  unfold Instr.keyThatStays;have:Instr.sameBits 10000 (.agg #[.int .i64 a.1,.int .i64 a.2]) (.agg #[.int .i64 a.1,.int .i64 a.2])=true:=by
   unfold Instr.sameBits;simp[Instr.sameBits]
  rw[this];rfl
end
section
variable {P:Program}{ρ:Fr}{w:World}{d:Option Tmp}{T ty:TypeId}{pos:String}{es:Array Edge}{g:Option (Nat×Bool)}{x y:Operand}
theorem y_idxArr{E n sz b o:Nat}{k:IntKind}{i:Int}[hT:TArr P T n E sz](hx:ev ρ x=.pointer (some ⟨b,o,none⟩))(hy:ev ρ y=.int k i)(h0:0≤i)(h1:i<n) :
  Yields P ⟨d,.indexAddr T x y,ty,pos,es,g⟩ ρ w (.pointer (some ⟨b,o+i.toNat*sz,none⟩)):=by
 obtain⟨q,hq,hs⟩:∃q,P.info? E=some q∧q.size=sz:=by
  have:=hT.s
  cases hi:P.info? E with
  | none=>rw[hi]at this;simp at this
  | some q=>rw[hi]at this;exact⟨q,rfl,by simpa using this⟩
 have he:P.elem T=E:=by simp[Program.elem,hT.h]
 have hn:P.arrayLen T=n:=by simp[Program.arrayLen,hT.h]
 have hr:=run_indexAt_array (P:=P) w T ⟨b,o,none⟩ k i (by rw[he,hn];exact hT.h)
 rw[hn,if_pos ⟨h0,h1⟩,he]at hr;have hz:(Go.sizeOf E).run P w=.ok sz w:=by simp[Go.sizeOf,typeInfo,hq,hs]
 rw[hz,Result.andThen_ok,Addr.add_mid]at hr;unfold Yields;simp only[execOp,hx,hy,Sem.run_bind,hr,Result.andThen_ok]
 rfl
end
end Mk
end
section
open Go Mk
namespace Go.Proofs.YtfoggcgogafocaaGreatDoor
instance:TS Tryz.prog 2:=⟨by kernel_rfl⟩
instance:TInt Tryz.prog 2 .i64:=⟨by kernel_rfl⟩
instance:TZ Tryz.prog 3 [.int .i64 0]:=⟨by kernel_rfl⟩
instance:TZV Tryz.prog 3 (.int .i64 0):=⟨by kernel_rfl⟩
instance:TS Tryz.prog 3:=⟨by kernel_rfl⟩
instance:TInt Tryz.prog 3 .i64:=⟨by kernel_rfl⟩
instance:TZV Tryz.prog 4 (.bool false):=⟨by kernel_rfl⟩
instance:TS Tryz.prog 4:=⟨by kernel_rfl⟩
instance:TInt Tryz.prog 5 .u8:=⟨by kernel_rfl⟩
instance:TS Tryz.prog 9:=⟨by kernel_rfl⟩
instance:TStr Tryz.prog 9:=⟨by kernel_rfl⟩
instance:TS Tryz.prog 20:=⟨by kernel_rfl⟩
instance:TS Tryz.prog 22:=⟨by kernel_rfl⟩
instance:TL Tryz.prog 22 3 1 8 [.int .i64 0]:=⟨by kernel_rfl,by kernel_rfl,by kernel_rfl,by decide⟩
instance:TS Tryz.prog 24:=⟨by kernel_rfl⟩
instance:TL Tryz.prog 24 74 4 32 [.int .i64 0,.int .i64 0,.int .i64 0,.int .i64 0]:=⟨by kernel_rfl,by kernel_rfl,by kernel_rfl,by decide⟩
instance:TS Tryz.prog 25:=⟨by kernel_rfl⟩
instance:TL Tryz.prog 25 38 5 64 [.string ⟨#[]⟩,.int .i64 0,.int .i64 0,.int .u64 0,.slice none 0 0]:=⟨by kernel_rfl,by kernel_rfl,by kernel_rfl,by decide⟩
instance:TS Tryz.prog 26:=⟨by kernel_rfl⟩
instance:TL Tryz.prog 26 76 3 24 [.int .i64 0,.int .i64 0,.int .i64 0]:=⟨by kernel_rfl,by kernel_rfl,by kernel_rfl,by decide⟩
instance:TS Tryz.prog 27:=⟨by kernel_rfl⟩
instance:TL Tryz.prog 27 42 5 48 [.string ⟨#[]⟩,.int .u64 0,.int .u64 0,.int .i64 0,.int .i64 0]:=⟨by kernel_rfl,by kernel_rfl,by kernel_rfl,by decide⟩
instance:TS Tryz.prog 28:=⟨by kernel_rfl⟩
instance:TL Tryz.prog 28 79 5 48 [.string ⟨#[]⟩,.int .i64 0,.int .i64 0,.int .u64 0,.int .u64 0]:=⟨by kernel_rfl,by kernel_rfl,by kernel_rfl,by decide⟩
instance:TZ Tryz.prog 30 [.string ⟨#[]⟩,.slice none 0 0,.slice none 0 0,.slice none 0 0,.slice none 0 0,.slice none 0 0]:=⟨by kernel_rfl⟩
instance:TA Tryz.prog 30 6:=⟨by kernel_rfl⟩
instance:TB Tryz.prog 30 [(0,1),(1,1),(2,1),(3,1),(4,1),(5,1)] [.string ⟨#[]⟩,.slice none 0 0,.slice none 0 0,.slice none 0 0,.slice none 0 0,.slice none 0 0]:=⟨by kernel_rfl,by kernel_rfl⟩
instance:TF Tryz.prog 30 0 0:=⟨by kernel_rfl⟩
instance:TF Tryz.prog 30 1 1:=⟨by kernel_rfl⟩
instance:TF Tryz.prog 30 2 2:=⟨by kernel_rfl⟩
instance:TF Tryz.prog 30 3 3:=⟨by kernel_rfl⟩
instance:TF Tryz.prog 30 4 4:=⟨by kernel_rfl⟩
instance:TF Tryz.prog 30 5 5:=⟨by kernel_rfl⟩
instance:TL Tryz.prog 32 45 2 40 [.string ⟨#[]⟩,.slice none 0 0]:=⟨by kernel_rfl,by kernel_rfl,by kernel_rfl,by decide⟩
instance:TS Tryz.prog 33:=⟨by kernel_rfl⟩
instance:TZV Tryz.prog 36 (.int .u64 0):=⟨by kernel_rfl⟩
instance:TS Tryz.prog 36:=⟨by kernel_rfl⟩
instance:TInt Tryz.prog 36 .u64:=⟨by kernel_rfl⟩
instance:TZ Tryz.prog 38 [.string ⟨#[]⟩,.int .i64 0,.int .i64 0,.int .u64 0,.slice none 0 0]:=⟨by kernel_rfl⟩
instance:TA Tryz.prog 38 5:=⟨by kernel_rfl⟩
instance:TB Tryz.prog 38 [(0,1),(1,1),(2,1),(3,1),(4,1)] [.string ⟨#[]⟩,.int .i64 0,.int .i64 0,.int .u64 0,.slice none 0 0]:=⟨by kernel_rfl,by kernel_rfl⟩
instance:TF Tryz.prog 38 0 0:=⟨by kernel_rfl⟩
instance:TF Tryz.prog 38 1 1:=⟨by kernel_rfl⟩
instance:TF Tryz.prog 38 2 2:=⟨by kernel_rfl⟩
instance:TF Tryz.prog 38 3 3:=⟨by kernel_rfl⟩
instance:TF Tryz.prog 38 4 4:=⟨by kernel_rfl⟩
instance:TZ Tryz.prog 42 [.string ⟨#[]⟩,.int .u64 0,.int .u64 0,.int .i64 0,.int .i64 0]:=⟨by kernel_rfl⟩
instance:TA Tryz.prog 42 5:=⟨by kernel_rfl⟩
instance:TB Tryz.prog 42 [(0,1),(1,1),(2,1),(3,1),(4,1)] [.string ⟨#[]⟩,.int .u64 0,.int .u64 0,.int .i64 0,.int .i64 0]:=⟨by kernel_rfl,by kernel_rfl⟩
instance:TF Tryz.prog 42 0 0:=⟨by kernel_rfl⟩
instance:TF Tryz.prog 42 1 1:=⟨by kernel_rfl⟩
instance:TF Tryz.prog 42 2 2:=⟨by kernel_rfl⟩
instance:TF Tryz.prog 42 3 3:=⟨by kernel_rfl⟩
instance:TF Tryz.prog 42 4 4:=⟨by kernel_rfl⟩
instance:TS Tryz.prog 43:=⟨by kernel_rfl⟩
instance:TL Tryz.prog 43 48 3 32 [.int .i64 0,.int .i64 0,.string ⟨#[]⟩]:=⟨by kernel_rfl,by kernel_rfl,by kernel_rfl,by decide⟩
instance:TZ Tryz.prog 45 [.string ⟨#[]⟩,.slice none 0 0]:=⟨by kernel_rfl⟩
instance:TA Tryz.prog 45 2:=⟨by kernel_rfl⟩
instance:TB Tryz.prog 45 [(0,1),(1,1)] [.string ⟨#[]⟩,.slice none 0 0]:=⟨by kernel_rfl,by kernel_rfl⟩
instance:TF Tryz.prog 45 0 0:=⟨by kernel_rfl⟩
instance:TF Tryz.prog 45 1 1:=⟨by kernel_rfl⟩
instance:TZ Tryz.prog 48 [.int .i64 0,.int .i64 0,.string ⟨#[]⟩]:=⟨by kernel_rfl⟩
instance:TA Tryz.prog 48 3:=⟨by kernel_rfl⟩
instance:TEq Tryz.prog 48 [5,5,1]:=⟨by kernel_rfl,by kernel_rfl,by kernel_rfl⟩
instance:TB Tryz.prog 48 [(0,1),(1,1),(2,1)] [.int .i64 0,.int .i64 0,.string ⟨#[]⟩]:=⟨by kernel_rfl,by kernel_rfl⟩
instance:TF Tryz.prog 48 0 0:=⟨by kernel_rfl⟩
instance:TF Tryz.prog 48 1 1:=⟨by kernel_rfl⟩
instance:TF Tryz.prog 48 2 2:=⟨by kernel_rfl⟩
instance:TZ Tryz.prog 63 [.int .i64 0,.int .i64 0]:=⟨by kernel_rfl⟩
instance:TA Tryz.prog 63 2:=⟨by kernel_rfl⟩
instance:TB Tryz.prog 63 [(0,1),(1,1)] [.int .i64 0,.int .i64 0]:=⟨by kernel_rfl,by kernel_rfl⟩
instance:TS Tryz.prog 67:=⟨by kernel_rfl⟩
instance:TB Tryz.prog 70 [(0,1),(1,1)] [.slice none 0 0,.int .i64 0]:=⟨by kernel_rfl,by kernel_rfl⟩
instance:TF Tryz.prog 70 0 0:=⟨by kernel_rfl⟩
instance:TF Tryz.prog 70 1 1:=⟨by kernel_rfl⟩
instance:TZ Tryz.prog 71 [.int .i64 0,.int .i64 0,.int .i64 0,.int .i64 0,.int .i64 0,.int .i64 0]:=⟨by kernel_rfl⟩
instance:TArr Tryz.prog 71 6 3 1:=⟨by kernel_rfl,by kernel_rfl⟩
instance:TZ Tryz.prog 74 [.int .i64 0,.int .i64 0,.int .i64 0,.int .i64 0]:=⟨by kernel_rfl⟩
instance:TA Tryz.prog 74 4:=⟨by kernel_rfl⟩
instance:TB Tryz.prog 74 [(0,1),(1,1),(2,1),(3,1)] [.int .i64 0,.int .i64 0,.int .i64 0,.int .i64 0]:=⟨by kernel_rfl,by kernel_rfl⟩
instance:TF Tryz.prog 74 0 0:=⟨by kernel_rfl⟩
instance:TF Tryz.prog 74 1 1:=⟨by kernel_rfl⟩
instance:TF Tryz.prog 74 2 2:=⟨by kernel_rfl⟩
instance:TF Tryz.prog 74 3 3:=⟨by kernel_rfl⟩
instance:TZ Tryz.prog 76 [.int .i64 0,.int .i64 0,.int .i64 0]:=⟨by kernel_rfl⟩
instance:TA Tryz.prog 76 3:=⟨by kernel_rfl⟩
instance:TB Tryz.prog 76 [(0,1),(1,1),(2,1)] [.int .i64 0,.int .i64 0,.int .i64 0]:=⟨by kernel_rfl,by kernel_rfl⟩
instance:TF Tryz.prog 76 0 0:=⟨by kernel_rfl⟩
instance:TF Tryz.prog 76 1 1:=⟨by kernel_rfl⟩
instance:TF Tryz.prog 76 2 2:=⟨by kernel_rfl⟩
instance:TInt Tryz.prog 77 .u64:=⟨by kernel_rfl⟩
instance:TZ Tryz.prog 79 [.string ⟨#[]⟩,.int .i64 0,.int .i64 0,.int .u64 0,.int .u64 0]:=⟨by kernel_rfl⟩
instance:TA Tryz.prog 79 5:=⟨by kernel_rfl⟩
instance:TB Tryz.prog 79 [(0,1),(1,1),(2,1),(3,1),(4,1)] [.string ⟨#[]⟩,.int .i64 0,.int .i64 0,.int .u64 0,.int .u64 0]:=⟨by kernel_rfl,by kernel_rfl⟩
instance:TF Tryz.prog 79 0 0:=⟨by kernel_rfl⟩
instance:TF Tryz.prog 79 1 1:=⟨by kernel_rfl⟩
instance:TF Tryz.prog 79 2 2:=⟨by kernel_rfl⟩
instance:TF Tryz.prog 79 3 3:=⟨by kernel_rfl⟩
instance:TF Tryz.prog 79 4 4:=⟨by kernel_rfl⟩
instance:TS Tryz.prog 95:=⟨by kernel_rfl⟩
instance:TL Tryz.prog 95 161 5 48 [.int .i64 0,.string ⟨#[]⟩,.int .u64 0,.int .i64 0,.int .i64 0]:=⟨by kernel_rfl,by kernel_rfl,by kernel_rfl,by decide⟩
instance:TB Tryz.prog 102 [(0,1),(1,1),(2,2),(4,2),(6,1)] [.slice none 0 0,.int .i64 0,.int .i64 0,.int .i64 0,.int .i64 0,.int .i64 0,.int .i64 0]:=⟨by kernel_rfl,by kernel_rfl⟩
instance:TF Tryz.prog 102 0 0:=⟨by kernel_rfl⟩
instance:TF Tryz.prog 102 1 1:=⟨by kernel_rfl⟩
instance:TF Tryz.prog 102 2 2:=⟨by kernel_rfl⟩
instance:TF Tryz.prog 102 3 4:=⟨by kernel_rfl⟩
instance:TF Tryz.prog 102 4 6:=⟨by kernel_rfl⟩
instance:TS Tryz.prog 105:=⟨by kernel_rfl⟩
instance:TPtr Tryz.prog 105 108:=⟨by kernel_rfl⟩
instance:TS Tryz.prog 106:=⟨by kernel_rfl⟩
instance:TL Tryz.prog 106 5 1 1 [.int .u8 0]:=⟨by kernel_rfl,by kernel_rfl,by kernel_rfl,by decide⟩
instance:TZ Tryz.prog 108 [.pointer none,.slice none 0 0]:=⟨by kernel_rfl⟩
instance:TA Tryz.prog 108 2:=⟨by kernel_rfl⟩
instance:TF Tryz.prog 108 0 0:=⟨by kernel_rfl⟩
instance:TF Tryz.prog 108 1 1:=⟨by kernel_rfl⟩
instance:TL Tryz.prog 109 9 1 16 [.string ⟨#[]⟩]:=⟨by kernel_rfl,by kernel_rfl,by kernel_rfl,by decide⟩
instance:TL Tryz.prog 121 20 1 16 [.nilIface]:=⟨by kernel_rfl,by kernel_rfl,by kernel_rfl,by decide⟩
instance:TL Tryz.prog 127 128 2 16 [.int .i64 0,.int .i64 0]:=⟨by kernel_rfl,by kernel_rfl,by kernel_rfl,by decide⟩
instance:TZ Tryz.prog 128 [.int .i64 0,.int .i64 0]:=⟨by kernel_rfl⟩
instance:TA Tryz.prog 128 2:=⟨by kernel_rfl⟩
instance:TL Tryz.prog 134 136 2 16 [.int .u64 0,.int .u64 0]:=⟨by kernel_rfl,by kernel_rfl,by kernel_rfl,by decide⟩
instance:TB Tryz.prog 136 [(0,1),(1,1)] [.int .u64 0,.int .u64 0]:=⟨by kernel_rfl,by kernel_rfl⟩
instance:TF Tryz.prog 136 0 0:=⟨by kernel_rfl⟩
instance:TF Tryz.prog 136 1 1:=⟨by kernel_rfl⟩
instance:TZ Tryz.prog 137 [.bool false,.bool false,.bool false,.bool false,.bool false,.bool false,.bool false,.bool false,.bool false,.bool false,.bool false,.bool false,.bool false,.bool false,.bool false,.bool false,.bool false,.bool false,.bool false,.bool false,.bool false,.bool false,.bool false,.bool false,.bool false,.bool false,.bool false,.bool false,.bool false,.bool false,.bool false,.bool false,.bool false,.bool false,.bool false,.bool false,.bool false,.bool false,.bool false,.bool false,.bool false,.bool false,.bool false,.bool false,.bool false,.bool false,.bool false,.bool false,.bool false,.bool false,.bool false,.bool false,.bool false,.bool false,.bool false,.bool false,.bool false,.bool false,.bool false,.bool false,.bool false,.bool false,.bool false,.bool false]:=⟨by kernel_rfl⟩
instance:TArr Tryz.prog 137 64 4 1:=⟨by kernel_rfl,by kernel_rfl⟩
instance:TZ Tryz.prog 161 [.int .i64 0,.string ⟨#[]⟩,.int .u64 0,.int .i64 0,.int .i64 0]:=⟨by kernel_rfl⟩
instance:TA Tryz.prog 161 5:=⟨by kernel_rfl⟩
instance:TB Tryz.prog 161 [(0,1),(1,1),(2,1),(3,2)] [.int .i64 0,.string ⟨#[]⟩,.int .u64 0,.int .i64 0,.int .i64 0]:=⟨by kernel_rfl,by kernel_rfl⟩
instance:TF Tryz.prog 161 0 0:=⟨by kernel_rfl⟩
instance:TF Tryz.prog 161 1 1:=⟨by kernel_rfl⟩
instance:TF Tryz.prog 161 2 2:=⟨by kernel_rfl⟩
instance:TF Tryz.prog 161 3 3:=⟨by kernel_rfl⟩
instance:TMap Tryz.prog 174 3 4:=⟨by kernel_rfl⟩
instance:TMap Tryz.prog 175 9 4:=⟨by kernel_rfl⟩
instance:TMap Tryz.prog 176 128 4:=⟨by kernel_rfl⟩
instance:FnOk Tryz.prog 5:=⟨by kernel_rfl⟩
instance:FnOk Tryz.prog 6:=⟨by kernel_rfl⟩
instance:FnOk Tryz.prog 7:=⟨by kernel_rfl⟩
instance:FnOk Tryz.prog 8:=⟨by kernel_rfl⟩
instance:FnOk Tryz.prog 9:=⟨by kernel_rfl⟩
instance:FnOk Tryz.prog 10:=⟨by kernel_rfl⟩
instance:FnOk Tryz.prog 11:=⟨by kernel_rfl⟩
instance:FnOk Tryz.prog 12:=⟨by kernel_rfl⟩
instance:FnOk Tryz.prog 13:=⟨by kernel_rfl⟩
instance:FnOk Tryz.prog 23:=⟨by kernel_rfl⟩
instance:FnOk Tryz.prog 24:=⟨by kernel_rfl⟩
instance:FnOk Tryz.prog 25:=⟨by kernel_rfl⟩
instance:FnOk Tryz.prog 26:=⟨by kernel_rfl⟩
instance:FnOk Tryz.prog 27:=⟨by kernel_rfl⟩
instance:FnOk Tryz.prog 28:=⟨by kernel_rfl⟩
instance:FnOk Tryz.prog 29:=⟨by kernel_rfl⟩
instance:FnOk Tryz.prog 30:=⟨by kernel_rfl⟩
instance:FnOk Tryz.prog 31:=⟨by kernel_rfl⟩
instance:FnOk Tryz.prog 32:=⟨by kernel_rfl⟩
instance:FnOk Tryz.prog 33:=⟨by kernel_rfl⟩
instance:FnOk Tryz.prog 34:=⟨by kernel_rfl⟩
instance:FnOk Tryz.prog 35:=⟨by kernel_rfl⟩
instance:FnOk Tryz.prog 36:=⟨by kernel_rfl⟩
instance:FnOk Tryz.prog 37:=⟨by kernel_rfl⟩
instance:FnOk Tryz.prog 38:=⟨by kernel_rfl⟩
instance:FnOk Tryz.prog 39:=⟨by kernel_rfl⟩
instance:FnOk Tryz.prog 40:=⟨by kernel_rfl⟩
instance:FnOk Tryz.prog 41:=⟨by kernel_rfl⟩
instance:FnOk Tryz.prog 42:=⟨by kernel_rfl⟩
instance:FnOk Tryz.prog 57:=⟨by kernel_rfl⟩
instance:FnOk Tryz.prog 58:=⟨by kernel_rfl⟩
instance:FnOk Tryz.prog 59:=⟨by kernel_rfl⟩
instance:FnOk Tryz.prog 60:=⟨by kernel_rfl⟩
instance:FnOk Tryz.prog 61:=⟨by kernel_rfl⟩
instance:FnOk Tryz.prog 62:=⟨by kernel_rfl⟩
instance:FnOk Tryz.prog 63:=⟨by kernel_rfl⟩
instance:FnOk Tryz.prog 64:=⟨by kernel_rfl⟩
instance:FnOk Tryz.prog 65:=⟨by kernel_rfl⟩
instance:FnOk Tryz.prog 66:=⟨by kernel_rfl⟩
instance:FnOk Tryz.prog 67:=⟨by kernel_rfl⟩
instance:FnOk Tryz.prog 68:=⟨by kernel_rfl⟩
instance:FnOk Tryz.prog 69:=⟨by kernel_rfl⟩
instance:FnOk Tryz.prog 70:=⟨by kernel_rfl⟩
instance:FnOk Tryz.prog 71:=⟨by kernel_rfl⟩
instance:FnOk Tryz.prog 72:=⟨by kernel_rfl⟩
instance:FnOk Tryz.prog 73:=⟨by kernel_rfl⟩
instance:FnOk Tryz.prog 74:=⟨by kernel_rfl⟩
instance:FnOk Tryz.prog 75:=⟨by kernel_rfl⟩
instance:FnOk Tryz.prog 76:=⟨by kernel_rfl⟩
instance:FnOk Tryz.prog 77:=⟨by kernel_rfl⟩
instance:FnOk Tryz.prog 78:=⟨by kernel_rfl⟩
instance:FnOk Tryz.prog 79:=⟨by kernel_rfl⟩
instance:FnOk Tryz.prog 80:=⟨by kernel_rfl⟩
instance:FnOk Tryz.prog 81:=⟨by kernel_rfl⟩
instance:FnOk Tryz.prog 82:=⟨by kernel_rfl⟩
instance:FnOk Tryz.prog 83:=⟨by kernel_rfl⟩
instance:FnOk Tryz.prog 84:=⟨by kernel_rfl⟩
instance:FnOk Tryz.prog 85:=⟨by kernel_rfl⟩
instance:FnOk Tryz.prog 86:=⟨by kernel_rfl⟩
instance:FnOk Tryz.prog 117:=⟨by kernel_rfl⟩
instance:FnOk Tryz.prog 118:=⟨by kernel_rfl⟩
instance:FnOk Tryz.prog 122:=⟨by kernel_rfl⟩
instance:FnOk Tryz.prog 123:=⟨by kernel_rfl⟩
instance:FnOk Tryz.prog 124:=⟨by kernel_rfl⟩
instance:FnOk Tryz.prog 125:=⟨by kernel_rfl⟩
instance:FnOk Tryz.prog 126:=⟨by kernel_rfl⟩
instance:FnOk Tryz.prog 127:=⟨by kernel_rfl⟩
instance:FnOk Tryz.prog 128:=⟨by kernel_rfl⟩
instance:FnOk Tryz.prog 130:=⟨by kernel_rfl⟩
instance:FnOk Tryz.prog 131:=⟨by kernel_rfl⟩
instance:FnOk Tryz.prog 132:=⟨by kernel_rfl⟩
instance:FnOk Tryz.prog 133:=⟨by kernel_rfl⟩
instance:FnOk Tryz.prog 134:=⟨by kernel_rfl⟩
instance:FnOk Tryz.prog 135:=⟨by kernel_rfl⟩
instance:FnOk Tryz.prog 136:=⟨by kernel_rfl⟩
instance:FnOk Tryz.prog 137:=⟨by kernel_rfl⟩
instance:FnOk Tryz.prog 138:=⟨by kernel_rfl⟩
instance:FnOk Tryz.prog 139:=⟨by kernel_rfl⟩
instance:FnOk Tryz.prog 140:=⟨by kernel_rfl⟩
instance:FnOk Tryz.prog 159:=⟨by kernel_rfl⟩
instance:FnOk Tryz.prog 160:=⟨by kernel_rfl⟩
instance:FnOk Tryz.prog 161:=⟨by kernel_rfl⟩
instance:FnOk Tryz.prog 162:=⟨by kernel_rfl⟩
instance:FnOk Tryz.prog 163:=⟨by kernel_rfl⟩
instance:FnOk Tryz.prog 164:=⟨by kernel_rfl⟩
instance:FnOk Tryz.prog 166:=⟨by kernel_rfl⟩
instance:FnOk Tryz.prog 170:=⟨by kernel_rfl⟩
instance:FnOk Tryz.prog 194:=⟨by kernel_rfl⟩
instance:FnOk Tryz.prog 195:=⟨by kernel_rfl⟩
instance:FnOk Tryz.prog 196:=⟨by kernel_rfl⟩
instance:FnOk Tryz.prog 197:=⟨by kernel_rfl⟩
instance:FnOk Tryz.prog 226:=⟨by kernel_rfl⟩
attribute [local irreducible] Calls
def letterB(c:Int):Bool:=decide (97≤c)&&decide (c≤122)||decide (65≤c)&&decide (c≤90)||decide (c=95)
def digitB(c:Int):Bool:=decide (48≤c)&&decide (c≤57)
instance (c:Int):PC Tryz.prog 159 [.int .u8 c] (.bool (letterB c)):=⟨fun w=>by
 refine calls_of_W Tryz.func159 rfl rfl ?_
 refine byG ?_;exact⟨_,rfl,rfl,rfl⟩⟩
instance (c:Int):PC Tryz.prog 161 [.int .u8 c] (.bool (digitB c)):=⟨fun w=>by
 refine calls_of_W Tryz.func161 rfl rfl ?_
 refine byG ?_;exact⟨_,rfl,rfl,rfl⟩⟩
abbrev byteAt(s:ByteArray)(i:Nat):Int:=((s.data.toList.getD i 0).toNat:Int)
def wordC(b:UInt8):Bool:=letterB b.toNat||digitB b.toNat
def runN(s:ByteArray):Nat:=(s.data.toList.takeWhile wordC).length
def wordS(s:ByteArray):Bool:=decide (0<s.size)&&letterB (byteAt s 0)&&s.data.toList.all wordC
def nameS(s:ByteArray):Bool:=wordS s&&decide (s.size≤24)
theorem takeWhile_len{p:UInt8→Bool}:∀ {l:List UInt8} {k:Nat},k≤l.length→(∀i,i<k→p (l.getD i 0)=true)→(k<l.length→p (l.getD k 0)=false)→(l.takeWhile p).length=k
 | [],k,h,_,_=>by simp at h;simp[h]
 | x::l,0,_,_,h2=>by
  have:=h2 (by simp)
  simp at this
  simp[this]
 | x::l,k+1,h,h1,h2=>by
  have h0:=h1 0 (by omega)
  simp at h0
  simp only[List.takeWhile_cons,h0,if_true,List.length_cons]
  rw[takeWhile_len (l:=l) (k:=k) (by simpa using h) (fun i hi=>h1 (i+1) (by omega)) (fun hk=>h2 (by simp only[List.length_cons];omega))]
theorem size_toList(s:ByteArray):s.data.toList.length=s.size:=Array.length_toList
class SB(s:ByteArray):Prop where h:s.size≤4611686018427387904
instance (s:ByteArray)[hs:SB s]:PC Tryz.prog 160 [.string s] (.int .i64 (runN s)):=⟨fun w=>by
 have h63:=hs.h
 refine calls_of_W Tryz.func160 rfl rfl ?_
 refine byG ?_;refine W_loop (fun μ ρ w'=>∃k:Nat,μ+k=s.size∧Has ρ [(0,.string s),(3,.int .i64 k)]∧w'=w∧∀i,i<k→wordC (s.data.toList.getD i 0)=true) s.size ⟨0,rfl,⟨rfl,rfl,trivial⟩,rfl,fun i h=>absurd h (Nat.not_lt_zero i)⟩ ?_
 rintro μ ρ w' ⟨k,hk,hρ,rfl,hi⟩
 rw[hρ.eq];refine byG ?_;refine W_cond rfl (fun h=>?_) (fun h=>?_)
 ·have h':=andL h
  simp only[decide_eq_true_eq]at h'
  refine byG ?_;refine⟨μ-1,by omega,k+1,by omega,⟨rfl,rfl,trivial⟩,rfl,fun i hi'=>?_⟩
  by_cases e:i=k
  ·subst e;exact andR h
  ·exact hi i (by omega)
 ·refine byG ?_;refine⟨_,rfl,ret_i rfl ?_,rfl⟩
  have:=takeWhile_len (p:=wordC) (l:=s.data.toList) (k:=k) (by rw[size_toList];omega) hi (fun hk'=>by
   rw[size_toList]at hk';rw[show decide ((k:Int)<(s.size:Int))=true from by simp;omega]at h
   exact h)
  show (k:Int)=((s.data.toList.takeWhile wordC).length:Int)
  rw[this]⟩
theorem takeWhile_all{p:UInt8→Bool}{l:List UInt8}:((l.takeWhile p).length=l.length)↔l.all p=true:=by
 induction l with
 | nil=>simp
 | cons x l ih=>
  simp only[List.takeWhile_cons,List.all_cons]
  cases p x with
  | true=>simp[ih]
  | false=>simp
instance (s:ByteArray)[hs:SB s]:PC Tryz.prog 137 [.string s] (.bool (wordS s)):=⟨fun w=>by
 refine calls_of_W Tryz.func137 rfl rfl ?_
 refine byG ?_;refine⟨_,rfl,ret_b rfl ?_,rfl⟩
 have h1:decide (s≠⟨#[]⟩)=decide (0<s.size):=by simp only[ne_nilB]
 have h2:decide ((runN s:Int)=(s.size:Int))=s.data.toList.all wordC:=by
  rw[Bool.eq_iff_iff,decide_eq_true_eq,←takeWhile_all,size_toList];unfold runN;omega
 rw[h1,h2];rfl⟩
instance (s:ByteArray)[hs:SB s]:PC Tryz.prog 75 [.string s] (.bool (nameS s)):=⟨fun w=>by
 refine calls_of_W Tryz.func75 rfl rfl ?_
 refine byG ?_;refine⟨_,rfl,ret_b rfl ?_,rfl⟩
 unfold nameS;congr 1
 rw[decide_eq_decide];omega⟩
class PosL(n:Int):Prop where h:0<n∧n≤1099511627776
instance (v n:Int)[hn:PosL n]:PC Tryz.prog 71 [.int .i64 v,.int .i64 n] (.int .i64 (v%n)):=⟨fun w=>by
 have h:=hn.h
 have hm:=Int.tmod_lt_of_pos v h.1
 have hm2:-n<v.tmod n:=by
  have:=Int.tmod_lt_of_pos (-v) h.1
  rw[Int.neg_tmod]at this;omega
 have he:v%n=if v.tmod n<0 then v.tmod n+n else v.tmod n:=by
  have h3:v%n=v.tmod n%n:=by
   have h4:=Int.mul_tdiv_add_tmod v n
   have h5:=Int.mul_add_emod_self_left n (v.tdiv n) (v.tmod n)
   rw[h4]at h5;exact h5
  rw[h3];split
  ·rw[←Int.add_emod_right];exact Int.emod_eq_of_lt (by omega) (by omega)
  ·exact Int.emod_eq_of_lt (by omega) hm
 refine calls_of_W Tryz.func71 rfl rfl ?_
 refine byG ?_;refine W_cond rfl (fun h1=>?_) (fun h1=>?_)
 ·refine byG ?_;refine⟨_,rfl,ret_i rfl ?_,rfl⟩
  rw[he,if_pos (by simpa using h1)]
 ·refine byG ?_;refine⟨_,rfl,ret_i rfl ?_,rfl⟩
  rw[he,if_neg (by simpa using h1)]⟩
set_option maxHeartbeats 400000
abbrev bts(s:ByteArray):List UInt8:=s.data.toList
theorem bts_len(s:ByteArray):(bts s).length=s.size:=Array.length_toList
theorem bts_sub(s:ByteArray)(a b:Nat):bts (bSub s a b)=((bts s).drop a).take (b-a):=by
 unfold bSub;show (s.extract a b).data.toList=_
 rw[ByteArray.data_extract,Array.toList_extract,List.extract_eq_take_drop]
theorem bts_ext{s t:ByteArray}(h:bts s=bts t):s=t:=by
 cases s;cases t
 congr 1
 exact Array.toList_inj.1 h
theorem sub_size{s:ByteArray}{a b:Nat}(h:b≤s.size):(bSub s a b).size=b-a:=by
 rw[←bts_len,bts_sub,List.length_take,List.length_drop,bts_len];omega
theorem byte_sub{s:ByteArray}{a b j:Nat}(h:a+j<b):byteAt (bSub s a b) j=byteAt s (a+j):=by
 unfold byteAt;have:=bts_sub s a b
 unfold bts at this;rw[this,List.getD_eq_getElem?_getD,List.getD_eq_getElem?_getD,List.getElem?_take_of_lt (by omega),List.getElem?_drop]
def hexV(c:Int):Int:=if digitB c=true then c-48 else if decide (97≤c)&&decide (c≤102) then c-97+10 else if decide (65≤c)&&decide (c≤70) then c-65+10 else -1
def digV(c base:Int):Int:=if base≤hexV c then -1 else hexV c
def inStr(c:Int):Bool:=decide (32≤c)&&decide (c≤126)&&decide (c≠34)&&decide (c≠92)
theorem hexV_range(c:Int):-1≤hexV c∧hexV c<16:=by
 unfold hexV digitB;split
 ·rename_i h;simp at h;omega
 ·split
  ·rename_i h;simp at h;omega
  ·split
   ·rename_i h;simp at h;omega
   ·omega
theorem digV_range(c base:Int)(hb:0<base):digV c base = -1∨(0≤digV c base∧digV c base<base∧digV c base<16):=by
 have:=hexV_range c
 unfold digV;split
 ·exact .inl rfl
 ·by_cases h:hexV c = -1
  ·exact .inl h
  ·exact .inr ⟨by omega,by omega,this.2⟩
def valL(base:Nat):List UInt8→Nat→Nat
 | [],v=>v
 | c::l,v=>valL base l (v*base+(digV c.toNat base).toNat)
theorem valL_le(base:Nat)(hb:0<base):∀(l:List UInt8) (v:Nat),v≤valL base l v
 | [],v=>Nat.le_refl v
 | c::l,v=>Nat.le_trans (by
   have:v≤v*base:=Nat.le_mul_of_pos_right v hb
   omega) (valL_le base hb l _)
def most64:Nat:=18446744073709551615
def numCore(base sh:Nat)(l:List UInt8):Nat×Int:=
 if l.all (fun c=>decide (0≤digV c.toNat base))=false then (0,50)
 else if most64 >>> sh<valL base l 0 then (0,6) else (valL base l 0 <<< sh,0)
def sufK(c:Int):Nat:=if c=71 then 30 else if c=77 then 20 else if c=75 then 10 else 0
def numS(s:ByteArray):Nat×Int:=
 let sh:=sufK (byteAt s (s.size-1))
 let s:=if 0<sh then bSub s 0 (s.size-1) else s
 if 2≤s.size∧byteAt s 0=48∧byteAt s 1=120 then
  if s.size=2 then (0,50) else numCore 16 sh (bts (bSub s 2 s.size))
 else if s.size=0∨(1<s.size∧byteAt s 0=48) then (0,50) else numCore 10 sh (bts s)
def two2(a b:Int):Bool:=(decide (a=60)&&decide (b=61))||(decide (a=62)&&decide (b=61))||(decide (a=33)&&decide (b=61))||(decide (a=46)&&decide (b=46))||(decide (a=45)&&decide (b=62))
def oneB:List UInt8:=[123,125,40,41,91,93,44,59,58,61,60,62,33,43,45,42,63,46,47]
def punctN(s:ByteArray):Nat:=if 2≤s.size∧two2 (byteAt s 0) (byteAt s 1)=true then 2 else if 0<s.size∧(s.data.toList.getD 0 0)∈oneB then 1 else 0
def inStrC(b:UInt8):Bool:=inStr b.toNat
def strN(s:ByteArray):Nat:=1+(((bts s).drop 1).takeWhile inStrC).length
structure TokR where
 kind:Int
 text:ByteArray
 value:Nat
 n:Nat
 err:Int
def tokErr(e:Int):TokR:=⟨0,⟨#[]⟩,0,0,e⟩
def tokS(s:ByteArray):TokR:=
 if letterB (byteAt s 0)=true then ⟨1,bSub s 0 (runN s),0,runN s,0⟩
 else if digitB (byteAt s 0)=true then (if (numS (bSub s 0 (runN s))).2=0 then ⟨2,⟨#[]⟩,(numS (bSub s 0 (runN s))).1,runN s,0⟩ else tokErr (numS (bSub s 0 (runN s))).2)
 else if byteAt s 0=34 then (if strN s<s.size∧byteAt s (strN s)=34 then ⟨3,bSub s 1 (strN s),0,strN s+1,0⟩ else tokErr 50)
 else if punctN s=0 then tokErr 50 else ⟨4,bSub s 0 (punctN s),0,punctN s,0⟩
structure Tok where
 Kind:Int
 Text:ByteArray
 Value:Int
 Line:Int
 Col:Int
 deriving DecidableEq
instance:Inhabited Tok:=⟨⟨0,⟨#[]⟩,0,0,0⟩⟩
instance:GoT Tok where
 enc a:=[.int .i64 a.Kind,.string a.Text,.int .u64 a.Value,.int .i64 a.Line,.int .i64 a.Col]
 inj a b h:=by cases a;cases b;simp at h;simp[h]
 ks:=[5,1,9,5,5]
 kinds a:=rfl
structure PosT where
 Line:Int
 Col:Int
 deriving DecidableEq,Inhabited
instance:GoT PosT where
 enc a:=[.int .i64 a.Line,.int .i64 a.Col]
 inj a b h:=by cases a;cases b;simp at h;simp[h]
 ks:=[5,5]
 kinds a:=rfl
def posAt(s:ByteArray):Nat→PosT
 | 0=>⟨1,1⟩
 | k+1=>if byteAt s k=10 then ⟨(posAt s k).Line+1,1⟩ else ⟨(posAt s k).Line,(posAt s k).Col+1⟩
def skipN(s:ByteArray)(off:Nat):Nat:=off+(((bts s).drop off).takeWhile fun b=>decide ((b.toNat:Int)≠10)).length
def spaceB(c:Int):Bool:=decide (c=10)||decide (c=32)||decide (c=9)||decide (c=13)
def scanN(s:ByteArray):Nat→Nat→List Tok→List Tok×PosT×Int
 | 0,_,acc=>(acc,⟨0,0⟩,0)
 | f+1,off,acc=>
  if s.size≤off then (acc,⟨0,0⟩,0)
  else if spaceB (byteAt s off)=true then scanN s f (off+1) acc
  else if byteAt s off=35 then scanN s f (skipN s off) acc
  else if (tokS (bSub s off s.size)).err=0 then scanN s f (off+(tokS (bSub s off s.size)).n) (acc++[⟨(tokS (bSub s off s.size)).kind,(tokS (bSub s off s.size)).text,(tokS (bSub s off s.size)).value,(posAt s off).Line,(posAt s off).Col⟩])
  else ([],posAt s off,(tokS (bSub s off s.size)).err)
def scanS(s:ByteArray):List Tok×PosT×Int:=if 65536<s.size then ([],⟨0,0⟩,15) else scanN s (s.size+1) 0 []
set_option maxHeartbeats 4000000
theorem lExt{P:Program}{n:Nat}{opa:Array Oper}{QQ:Exit→Fr→World→Prop}{rest:List Oper}{ρ:Fr}{w:World}{d:Option Tmp}{ty:TypeId}{pos:String}{es:Array Edge}{f:Nat}{args:List Operand}{tys:Array TypeId}{vs:List Value}{v:Value}
  (he:∀w,(callFunc f vs.toArray).run P w=.ok (.value v) w) (h:L P n opa QQ rest (putO ρ d v) w) (ha:EvL ρ args vs:=by exact byEV) (hd:okDst n d=true:=by exact rfl) :
  L P n opa QQ (⟨d,.call { callee:=.value (.func f),args:=args.toArray,argTypes:=tys },ty,pos,es,none⟩::rest) ρ w:=
 L_y rfl hd (by
  unfold Mk.Yields;simp only[execOp,resolve,ha.eqA,ev,Deferred.ofValue,Sem.run_bind,Sem.run_pure,Result.andThen_ok,invoke]
  simp[he]) h
instance pc_inString(c:Int):PC Tryz.prog 163 [.int .u8 c] (.bool (inStr c)):=⟨fun w=>by
 refine calls_of_W Tryz.func163 rfl rfl ?_
 repeat first|refine byW ?_|refine byV ?_;intro w hw
 exact⟨_,rfl,rfl,rfl⟩⟩
class SmallB(b:Int):Prop where h:0<b∧b≤16
theorem u8_wrap{a:Int}(h0:0≤a)(h1:a≤255):IntKind.u8.wrap a=a:=by
 simp[IntKind.wrap,IntKind.bits,IntKind.signed];omega
theorem byte_le(b:UInt8):0≤((b.toNat:Nat):Int)∧((b.toNat:Nat):Int)≤255:=by
 have:=b.toNat_lt;omega
instance pc_digV(b:UInt8)(base:Int)[hb:SmallB base]:PC Tryz.prog 195 [.int .u8 ((b.toNat:Nat):Int),.int .u64 base] (.int .i64 (digV ((b.toNat:Nat):Int) base)):=⟨fun w=>by
 obtain⟨hb0,hb1⟩:=hb.h;obtain⟨hc0,hc1⟩:=byte_le b
 generalize ((b.toNat:Nat):Int)=c at *
 have hbw:IntKind.i64.wrap base=base:=wrap_i64 (by omega) (by omega)
 refine calls_of_W Tryz.func195 rfl rfl ?_
 iterate 8 (first|refine byW ?_|(refine byV ?_;intro w hw))
 refine W_cut (fun ρ w'=>Has ρ [(1,.int .u64 base),(5,.int .i64 (hexV c))]∧w'=w) ?_ ?_
 ·repeat first|refine byW ?_|refine byV ?_;intro w hw
  refine W_cond rfl (fun h=>?_) (fun h=>?_)
  ·repeat first|refine byW ?_|refine byV ?_;intro w hw
   refine⟨⟨rfl,?_,trivial⟩,rfl⟩
   have h1:48≤c∧c≤57:=by simpa[digitB] using h
   show Value.int .i64 (IntKind.i64.wrap (IntKind.u8.wrap (c-48)))=_
   rw[u8_wrap (by omega) (by omega),wrap_i64 (by omega) (by omega)]
   unfold hexV;rw[if_pos h]
  ·repeat first|refine byW ?_|refine byV ?_;intro w hw
   refine W_cond rfl (fun h2=>?_) (fun h2=>?_)
   ·repeat first|refine byW ?_|refine byV ?_;intro w hw
    refine⟨⟨rfl,?_,trivial⟩,rfl⟩
    have h1:97≤c∧c≤102:=by simpa using h2
    show Value.int .i64 (IntKind.i64.wrap (IntKind.i64.wrap (IntKind.u8.wrap (c-97))+10))=_
    rw[u8_wrap (by omega) (by omega),wrap_i64 (a:=c-97) (by omega) (by omega),wrap_i64 (by omega) (by omega)]
    unfold hexV;rw[if_neg (by simp[h]),if_pos h2]
   ·repeat first|refine byW ?_|refine byV ?_;intro w hw
    refine W_cond rfl (fun h3=>?_) (fun h3=>?_)
    ·repeat first|refine byW ?_|refine byV ?_;intro w hw
     refine⟨⟨rfl,?_,trivial⟩,rfl⟩
     have h1:65≤c∧c≤70:=by simpa using h3
     show Value.int .i64 (IntKind.i64.wrap (IntKind.i64.wrap (IntKind.u8.wrap (c-65))+10))=_
     rw[u8_wrap (by omega) (by omega),wrap_i64 (a:=c-65) (by omega) (by omega),wrap_i64 (by omega) (by omega)]
     unfold hexV;rw[if_neg (by simp[h]),if_neg (by simpa using h2),if_pos h3]
    ·repeat first|refine byW ?_|refine byV ?_;intro w hw
     refine⟨⟨rfl,?_,trivial⟩,rfl⟩
     show Value.int .i64 (-1)=_
     unfold hexV;rw[if_neg (by simp[h]),if_neg (by simpa using h2),if_neg (by simpa using h3)]
 ·rintro ρ w' ⟨hρ,rfl⟩
  rw[hρ.eq];repeat first|refine byW ?_|refine byV ?_;intro w hw
  rw[hbw];refine W_cond rfl (fun h=>?_) (fun h=>?_)
  ·repeat first|refine byW ?_|refine byV ?_;intro w hw
   have h:base≤hexV c:=by simpa using h
   exact⟨_,rfl,ret_i rfl (by unfold digV;rw[if_pos h]),rfl⟩
  ·repeat first|refine byW ?_|refine byV ?_;intro w hw
   have h:¬base≤hexV c:=by simpa using h
   exact⟨_,rfl,ret_i rfl (by unfold digV;rw[if_neg h]),rfl⟩⟩
instance pc_HasPrefix(s p:ByteArray):PC Tryz.prog 194 [.string s,.string p] (.bool (decide ((p.size:Int)≤s.size)&&decide (bSub s 0 p.size=p))):=⟨fun w=>by
 have h1:PC Tryz.prog 226 [.string s,.string p] (.bool (decide ((p.size:Int)≤s.size)&&decide (bSub s 0 p.size=p))):=⟨fun w=>by
  refine calls_of_W Tryz.func226 rfl rfl ?_
  repeat first|refine byW ?_|refine byV ?_;intro w hw
  exact⟨_,rfl,rfl,rfl⟩⟩
 refine calls_of_W Tryz.func194 rfl rfl ?_
 repeat first|refine byW ?_|refine byV ?_;intro w hw
 exact⟨_,rfl,rfl,rfl⟩⟩
theorem ext_IndexByte(s:ByteArray)(c:Int)(w:World):(callFunc 227 #[.string s,.int .u8 c]).run Tryz.prog w=.ok (.value (.int .i64 (firstIdx s c.toNat.toUInt8))) w:=by
 rw[run_callFunc_extern Tryz.func227 (by kernel_rfl) (by kernel_rfl) (e:=Extern.BytealgIndexByte.indexByte) (by kernel_rfl) (by kernel_rfl),run_indexByte_string]
 rfl
instance pc_IndexByte(s:ByteArray)(c:Int):PC Tryz.prog 196 [.string s,.int .u8 c] (.int .i64 (firstIdx s c.toNat.toUInt8)):=⟨fun w=>by
 have h1:PC Tryz.prog 197 [.string s,.int .u8 c] (.int .i64 (firstIdx s c.toNat.toUInt8)):=⟨fun w=>by
  refine calls_of_W Tryz.func197 rfl rfl ?_
  repeat first|refine byW ?_|refine byV ?_;intro w hw
  refine lExt (vs:=[.string s,.int .u8 c]) (ext_IndexByte s c) ?_
  repeat first|refine byW ?_|refine byV ?_;intro w hw
  exact⟨_,rfl,rfl,rfl⟩⟩
 refine calls_of_W Tryz.func196 rfl rfl ?_
 repeat first|refine byW ?_|refine byV ?_;intro w hw
 exact⟨_,rfl,rfl,rfl⟩⟩
theorem two_bytes{s:ByteArray}(h:2≤s.size):∃x y:UInt8,byteAt s 0=x.toNat∧byteAt s 1=y.toNat∧bSub s 0 2=⟨#[x,y]⟩:=by
 have hl:=bts_len s
 obtain⟨x,y,r,hr⟩:∃x y r,bts s=x::y::r:=by
  match hb:bts s with
  | []=>rw[hb]at hl;simp at hl;omega
  | [x]=>rw[hb]at hl;simp at hl;omega
  | x::y::r=>exact⟨x,y,r,rfl⟩
 refine⟨x,y,?_,?_,?_⟩
 ·show (((bts s).getD 0 0).toNat:Int)=_;rw[hr];rfl
 ·show (((bts s).getD 1 0).toNat:Int)=_;rw[hr];rfl
 ·apply bts_ext;rw[bts_sub,hr];rfl
theorem pair_eq(x y a b:UInt8):((⟨#[x,y]⟩:ByteArray)=⟨#[a,b]⟩)↔(x.toNat=a.toNat∧y.toNat=b.toNat):=by
 simp[UInt8.toNat_inj]
theorem one_punct:∀n:Fin 256,decide (0≤firstIdx ⟨#[123,125,40,41,91,93,44,59,58,61,60,62,33,43,45,42,63,46,47]⟩ (UInt8.ofNat n.1))=decide (UInt8.ofNat n.1∈oneB):=by decide +kernel
instance pc_punct(s:ByteArray)[hs:SB s]:PC Tryz.prog 164 [.string s] (.int .i64 (punctN s)):=⟨fun w=>by
 have hs:=hs.h
 refine calls_of_W Tryz.func164 rfl rfl ?_
 iterate 4 (first|refine byW ?_|(refine byV ?_;intro w hw))
 refine W_cut (fun ρ w'=>Has ρ [(0,.string s)]∧w'=w∧¬(2≤s.size∧two2 (byteAt s 0) (byteAt s 1)=true)) ?_ ?_
 ·repeat first|refine byW ?_|refine byV ?_;intro w hw
  refine W_cond rfl (fun h=>?_) (fun h=>?_)
  ·have h:2≤s.size:=by simp at h;omega
   obtain⟨x,y,hx,hy,hxy⟩:=two_bytes h
   have key:two2 (byteAt s 0) (byteAt s 1)=true→Ending.returned (.int .i64 2)=Ending.returned (.int .i64 (punctN s)):=fun ht=>by
    unfold punctN;rw[if_pos ⟨h,ht⟩];rfl
   rw[hx,hy]at key;repeat first|refine byW ?_|refine byV ?_;intro w hw
   rw[show (2:Int).toNat=2 from rfl,hxy];refine W_cond rfl (fun h1=>?_) (fun h1=>?_)
   ·repeat first|refine byW ?_|refine byV ?_;intro w hw
    refine W_cond_true (by simp only[h1];rfl) ?_
    repeat first|refine byW ?_|refine byV ?_;intro w hw
    have q:=(pair_eq _ _ _ _).1 (of_decide_eq_true h1)
    exact⟨_,rfl,key (by simp[two2,q]),rfl⟩
   repeat first|refine byW ?_|refine byV ?_;intro w hw
   refine W_cond rfl (fun h2=>?_) (fun h2=>?_)
   ·repeat first|refine byW ?_|refine byV ?_;intro w hw
    refine W_cond_true (by simp only[h2];rfl) ?_
    repeat first|refine byW ?_|refine byV ?_;intro w hw
    have q:=(pair_eq _ _ _ _).1 (of_decide_eq_true h2)
    exact⟨_,rfl,key (by simp[two2,q]),rfl⟩
   repeat first|refine byW ?_|refine byV ?_;intro w hw
   refine W_cond rfl (fun h3=>?_) (fun h3=>?_)
   ·repeat first|refine byW ?_|refine byV ?_;intro w hw
    refine W_cond_true (by simp only[h3];rfl) ?_
    repeat first|refine byW ?_|refine byV ?_;intro w hw
    have q:=(pair_eq _ _ _ _).1 (of_decide_eq_true h3)
    exact⟨_,rfl,key (by simp[two2,q]),rfl⟩
   repeat first|refine byW ?_|refine byV ?_;intro w hw
   refine W_cond rfl (fun h4=>?_) (fun h4=>?_)
   ·repeat first|refine byW ?_|refine byV ?_;intro w hw
    refine W_cond_true (by simp only[h4];rfl) ?_
    repeat first|refine byW ?_|refine byV ?_;intro w hw
    have q:=(pair_eq _ _ _ _).1 (of_decide_eq_true h4)
    exact⟨_,rfl,key (by simp[two2,q]),rfl⟩
   repeat first|refine byW ?_|refine byV ?_;intro w hw
   refine W_cond rfl (fun h5=>?_) (fun h5=>?_)
   ·repeat first|refine byW ?_|refine byV ?_;intro w hw
    have q:=(pair_eq _ _ _ _).1 (of_decide_eq_true h5)
    exact⟨_,rfl,key (by simp[two2,q]),rfl⟩
   ·repeat first|refine byW ?_|refine byV ?_;intro w hw
    refine⟨⟨rfl,trivial⟩,rfl,fun hh=>?_⟩
    have hh:=hh.2
    rw[hx,hy]at hh;have q:=fun a b (hq:decide ((⟨#[x,y]⟩:ByteArray)=⟨#[a,b]⟩)=false)=>mt (pair_eq x y a b).2 (of_decide_eq_false hq)
    have q1:=q _ _ h1
    have q2:=q _ _ h2
    have q3:=q _ _ h3
    have q4:=q _ _ h4
    have q5:=q _ _ h5
    simp[two2]at hh q1 q2 q3 q4 q5
    omega
  ·have h:¬2≤s.size:=by simp at h;omega
   repeat first|refine byW ?_|refine byV ?_;intro w hw
   exact⟨⟨rfl,trivial⟩,rfl,fun hh=>h hh.1⟩
 ·rintro ρ w' ⟨hρ,rfl,hn⟩
  rw[hρ.eq];have key:(decide (s≠⟨#[]⟩)&&decide (0≤firstIdx ⟨#[123,125,40,41,91,93,44,59,58,61,60,62,33,43,45,42,63,46,47]⟩ (byteAt s 0).toNat.toUInt8))=decide (punctN s=1):=by
   have h1:=one_punct ⟨(s.data.toList.getD 0 0).toNat,(s.data.toList.getD 0 0).toNat_lt⟩
   have h2:(byteAt s 0).toNat.toUInt8=s.data.toList.getD 0 0:=by
    show (((s.data.toList.getD 0 0).toNat:Int).toNat).toUInt8=_
    rw[Int.toNat_natCast];simp
   have h3:UInt8.ofNat (s.data.toList.getD 0 0).toNat=s.data.toList.getD 0 0:=by simp
   rw[h3]at h1;rw[h2,h1];unfold punctN;rw[if_neg hn];rw[show decide (s≠⟨#[]⟩)=decide (0<s.size) from decide_eq_decide.2 ne_nilB]
   by_cases e1:0<s.size <;> by_cases e2:s.data.toList.getD 0 0∈oneB <;> simp[e1,e2]
  have hp:punctN s=1∨punctN s=0:=by
   unfold punctN;rw[if_neg hn];split <;> simp
  repeat first|refine byW ?_|refine byV ?_;intro w hw
  refine W_cond rfl (fun h=>?_) (fun h=>?_)
  ·have h:=of_decide_eq_true (key.symm.trans h)
   repeat first|refine byW ?_|refine byV ?_;intro w hw
   exact⟨_,rfl,ret_i rfl (by rw[h];rfl),rfl⟩
  ·have h:=of_decide_eq_false (key.symm.trans h)
   have h0:=hp.resolve_left h
   repeat first|refine byW ?_|refine byV ?_;intro w hw
   exact⟨_,rfl,ret_i rfl (by rw[h0];rfl),rfl⟩⟩
theorem u64_wrap{a:Int}(h0:0≤a)(h1:a≤18446744073709551615):IntKind.u64.wrap a=a:=by
 simp[IntKind.wrap,IntKind.bits,IntKind.signed];omega
theorem sufK_cases(c:Int):sufK c=0∨sufK c=10∨sufK c=20∨sufK c=30:=by
 unfold sufK;repeat(first|split|simp)
def numBody(sh:Nat)(s:ByteArray):Nat×Int:=
 if 2≤s.size∧byteAt s 0=48∧byteAt s 1=120 then
  if s.size=2 then (0,50) else numCore 16 sh (bts (bSub s 2 s.size))
 else if s.size=0∨(1<s.size∧byteAt s 0=48) then (0,50) else numCore 10 sh (bts s)
def cutS(s:ByteArray):ByteArray:=if 0<sufK (byteAt s (s.size-1)) then bSub s 0 (s.size-1) else s
theorem numS_body(s:ByteArray):numS s=numBody (sufK (byteAt s (s.size-1))) (cutS s):=rfl
def numB(base sh:Nat)(s:ByteArray):Nat×Int:=if s.size=0∨(base=10∧1<s.size∧byteAt s 0=48) then (0,50) else numCore base sh (bts s)
theorem pre0x{s:ByteArray}:(decide (((⟨#[48,120]⟩:ByteArray).size:Int)≤s.size)&&decide (bSub s 0 (⟨#[48,120]⟩:ByteArray).size=⟨#[48,120]⟩))=decide (2≤s.size∧byteAt s 0=48∧byteAt s 1=120):=by
 show (decide ((2:Int)≤s.size)&&decide (bSub s 0 2=⟨#[48,120]⟩))=_
 by_cases h:2≤s.size
 ·obtain⟨x,y,hx,hy,hxy⟩:=two_bytes h
  rw[hxy,hx,hy];have h1:(2:Int)≤s.size:=by omega
  have h2:=pair_eq x y 48 120
  simp only[h,h1,h2,decide_true,Bool.true_and,true_and]
  congr 1
  simp
  omega
 ·have h1:¬(2:Int)≤s.size:=by omega
  simp[h,h1]
theorem numB_pre{sh:Nat}{s:ByteArray}(h:2≤s.size∧byteAt s 0=48∧byteAt s 1=120):numBody sh s=numB 16 sh (bSub s 2 s.size):=by
 unfold numBody numB;rw[if_pos h,sub_size (Nat.le_refl _)];by_cases h2:s.size=2
 ·rw[if_pos h2,if_pos (.inl (by omega))]
 ·rw[if_neg h2,if_neg (by omega)]
theorem numB_no{sh:Nat}{s:ByteArray}(h:¬(2≤s.size∧byteAt s 0=48∧byteAt s 1=120)):numBody sh s=numB 10 sh s:=by
 unfold numBody numB;rw[if_neg h];simp
theorem drop_at{α:Type}{l:List α}{k:Nat}{x:α}(h:l[k]? = some x):l.drop k=x::l.drop (k+1):=by
 obtain⟨h1,h2⟩:=List.getElem?_eq_some_iff.1 h
 rw[←h2];exact List.drop_eq_getElem_cons h1
theorem number_any(s:ByteArray)(hs:s.size≤4611686018427387904)(h0:0<s.size)(w:World) :
  Calls Tryz.prog 162 #[.string s] w fun e w'=>e=.returned (.tuple #[.int .u64 (numS s).1,.int .i64 (numS s).2])∧w'=w:=by
 refine calls_of_W Tryz.func162 rfl rfl ?_
 iterate 9 (first|refine byW ?_|(refine byV ?_;intro w hw))
 refine W_cut (fun ρ w'=>∃s':ByteArray,∃sh:Nat,Has ρ [(0,.string s'),(4,.int .i64 sh)]∧w'=w∧s'=cutS s∧sh=sufK (byteAt s (s.size-1))) ?_ ?_
 ·have e1:((s.size:Int)-1).toNat=s.size-1:=by omega
  repeat first|refine byW ?_|refine byV ?_;intro w hw
  rw[e1];refine W_cond rfl (fun h=>?_) (fun h=>?_)
  ·have h:byteAt s (s.size-1)=71:=of_decide_eq_true h
   have hk:sufK (byteAt s (s.size-1))=30:=by rw[h];rfl
   repeat first|refine byW ?_|refine byV ?_;intro w hw
   rw[e1];exact⟨_,30,⟨rfl,rfl,trivial⟩,rfl,by unfold cutS;rw[hk];rfl,hk.symm⟩
  repeat first|refine byW ?_|refine byV ?_;intro w hw
  refine W_cond rfl (fun h2=>?_) (fun h2=>?_)
  ·have h2:byteAt s (s.size-1)=77:=of_decide_eq_true h2
   have hk:sufK (byteAt s (s.size-1))=20:=by rw[h2];rfl
   repeat first|refine byW ?_|refine byV ?_;intro w hw
   rw[e1];exact⟨_,20,⟨rfl,rfl,trivial⟩,rfl,by unfold cutS;rw[hk];rfl,hk.symm⟩
  repeat first|refine byW ?_|refine byV ?_;intro w hw
  refine W_cond rfl (fun h3=>?_) (fun h3=>?_)
  ·have h3:byteAt s (s.size-1)=75:=of_decide_eq_true h3
   have hk:sufK (byteAt s (s.size-1))=10:=by rw[h3];rfl
   repeat first|refine byW ?_|refine byV ?_;intro w hw
   rw[e1];exact⟨_,10,⟨rfl,rfl,trivial⟩,rfl,by unfold cutS;rw[hk];rfl,hk.symm⟩
  ·have h:¬byteAt s (s.size-1)=71:=of_decide_eq_false h
   have h2:¬byteAt s (s.size-1)=77:=of_decide_eq_false h2
   have h3:¬byteAt s (s.size-1)=75:=of_decide_eq_false h3
   have hk:sufK (byteAt s (s.size-1))=0:=by unfold sufK;rw[if_neg h,if_neg h2,if_neg h3]
   repeat first|refine byW ?_|refine byV ?_;intro w hw
   exact⟨s,0,⟨rfl,rfl,trivial⟩,rfl,by unfold cutS;rw[hk];rfl,hk.symm⟩
 ·rintro ρ w' ⟨s',sh,hρ,rfl,hs',hsh⟩
  rw[hρ.eq,numS_body,←hs',←hsh];have hcase:=sufK_cases (byteAt s (s.size-1))
  rw[←hsh]at hcase;have hsz:s'.size≤4611686018427387904:=by
   rw[hs'];unfold cutS;split
   ·rw[sub_size (by omega)];omega
   ·exact hs
  clear hs' hsh hρ;iterate 4 (first|refine byW ?_|(refine byV ?_;intro w hw))
  refine W_cut (fun ρ w''=>∃s2:ByteArray,∃base:Nat,Has ρ [(0,.string s2),(4,.int .i64 sh),(5,.int .u64 base)]∧w''=w'∧numBody sh s'=numB base sh s2∧(base=10∨base=16)∧s2.size≤4611686018427387904) ?_ ?_
  ·repeat first|refine byW ?_|refine byV ?_;intro w hw
   rw[pre0x];refine W_cond rfl (fun h=>?_) (fun h=>?_)
   ·have h:=of_decide_eq_true h
    obtain⟨hp1,hp2,hp3⟩:=h;repeat first|refine byW ?_|refine byV ?_;intro w hw
    exact⟨bSub s' 2 s'.size,16,⟨rfl,rfl,rfl,trivial⟩,rfl,numB_pre ⟨hp1,hp2,hp3⟩,.inr rfl,by rw[sub_size (Nat.le_refl _)];omega⟩
   ·have h:=of_decide_eq_false h
    repeat first|refine byW ?_|refine byV ?_;intro w hw
    exact⟨s',10,⟨rfl,rfl,rfl,trivial⟩,rfl,numB_no h,.inl rfl,hsz⟩
  ·rintro ρ w'' ⟨s2,base,hρ,rfl,hN,hbase,hsz2⟩
   rw[hρ.eq,hN];clear hN hρ hsz;have key:(decide (s2=⟨#[]⟩)||((decide ((base:Int)=10)&&decide ((1:Int)<s2.size))&&decide (byteAt s2 0=48)))=decide (s2.size=0∨(base=10∧1<s2.size∧byteAt s2 0=48)):=by
    rw[show decide (s2=⟨#[]⟩)=decide (s2.size=0) from decide_eq_decide.2 eq_nilB]
    rw[show decide ((base:Int)=10)=decide (base=10) from decide_eq_decide.2 (by omega),show decide ((1:Int)<s2.size)=decide (1<s2.size) from decide_eq_decide.2 (by omega)]
    by_cases e1:s2.size=0 <;> by_cases e2:base=10 <;> by_cases e3:1<s2.size <;> by_cases e4:byteAt s2 0=48 <;> simp[e1,e2,e3,e4]
   repeat first|refine byW ?_|refine byV ?_;intro w hw
   refine W_cond rfl (fun h=>?_) (fun h=>?_)
   ·have h:=of_decide_eq_true (key.symm.trans h)
    repeat first|refine byW ?_|refine byV ?_;intro w hw
    exact⟨_,rfl,by unfold numB;rw[if_pos h];rfl,rfl⟩
   have h:=of_decide_eq_false (key.symm.trans h)
   have hN:numB base sh s2=numCore base sh (bts s2):=by unfold numB;rw[if_neg h]
   rw[hN];clear hN key;haveI:SmallB (base:Int):=⟨by omega⟩
   have hbl:=bts_len s2
   repeat first|refine byW ?_|refine byV ?_;intro w hw
   refine W_loop (fun μ ρ w=>∃k:Nat,μ+k=s2.size∧Has ρ [(0,.string s2),(4,.int .i64 sh),(5,.int .u64 base),(6,.int .i64 k)]∧((bts s2).take k).all (fun c=>decide (0≤digV c.toNat base))=true∧w=w'') s2.size ⟨0,by omega,⟨rfl,rfl,rfl,rfl,trivial⟩,rfl,rfl⟩ ?_
   rintro μ ρ w ⟨k,hk,hρ,hall,rfl⟩
   rw[hρ.eq];repeat first|refine byW ?_|refine byV ?_;intro w hw
   refine W_cond rfl (fun h1=>?_) (fun h1=>?_)
   ·have hkn:k<s2.size:=by simpa using h1
    obtain⟨c,hc⟩:=get_lt (l:=bts s2) (k:=k) (by omega)
    have hg:s2.data.toList.getD (k:Int).toNat 0=c:=by
     show (bts s2).getD k 0=c
     rw[List.getD_eq_getElem?_getD,hc];rfl
    have hmem:c∈bts s2:=List.mem_of_getElem? hc
    repeat first|refine byW ?_|refine byV ?_;intro w hw
    rw[hg];refine W_cond rfl (fun h2=>?_) (fun h2=>?_)
    ·have h2:digV c.toNat base<0:=of_decide_eq_true h2
     have hf:(bts s2).all (fun c=>decide (0≤digV c.toNat base))=false:=by
      rw[List.all_eq_false];exact⟨c,hmem,by simp;omega⟩
     repeat first|refine byW ?_|refine byV ?_;intro w hw
     exact⟨_,rfl,by unfold numCore;rw[if_pos hf];rfl,rfl⟩
    ·have h2:¬digV c.toNat base<0:=of_decide_eq_false h2
     repeat first|refine byW ?_|refine byV ?_;intro w hw
     refine⟨μ-1,by omega,k+1,by omega,⟨rfl,rfl,rfl,rfl,trivial⟩,?_,rfl⟩
     rw[List.take_add_one,hc,List.all_append,hall];simp;omega
   have hkn:¬k<s2.size:=by simpa using h1
   rw[List.take_of_length_le (by omega)]at hall
   clear h1 hkn;repeat first|refine byW ?_|refine byV ?_;intro w hw
   refine W_loop (fun μ ρ w'=>∃k v:Nat,μ+k=s2.size∧Has ρ [(0,.string s2),(4,.int .i64 sh),(5,.int .u64 base),(7,.int .u64 v),(8,.int .i64 k)]∧valL base (bts s2) 0=valL base ((bts s2).drop k) v∧v≤most64∧w'=w) s2.size ⟨0,0,by omega,⟨rfl,rfl,rfl,rfl,rfl,trivial⟩,rfl,by unfold most64;omega,rfl⟩ ?_
   rintro μ ρ w' ⟨k,v,hk,hρ,hval,hvm,rfl⟩
   rw[hρ.eq];repeat first|refine byW ?_|refine byV ?_;intro w hw
   refine W_cond rfl (fun h1=>?_) (fun h1=>?_)
   ·have hkn:k<s2.size:=by simpa using h1
    obtain⟨c,hc⟩:=get_lt (l:=bts s2) (k:=k) (by omega)
    have hg:s2.data.toList.getD (k:Int).toNat 0=c:=by
     show (bts s2).getD k 0=c
     rw[List.getD_eq_getElem?_getD,hc];rfl
    have hd0:0≤digV c.toNat base:=by
     have:=List.all_eq_true.1 hall c (List.mem_of_getElem? hc)
     simpa using this
    have hdr:=(digV_range c.toNat base (by omega)).resolve_left (by omega)
    rw[drop_at hc]at hval;have hval:valL base (bts s2) 0=valL base ((bts s2).drop (k+1)) (v*base+(digV c.toNat base).toNat):=hval
    obtain⟨d,hd⟩:∃d:Nat,digV c.toNat base=(d:Int):=⟨(digV c.toNat base).toNat,by omega⟩
    rw[hd]at hval hdr
    rw[Int.toNat_natCast]at hval;have hmost:(most64:Int)=18446744073709551615:=rfl
    have hw1:IntKind.u64.wrap (d:Int)=d:=u64_wrap (by omega) (by omega)
    have hw2:IntKind.u64.wrap (18446744073709551615-(d:Int))=18446744073709551615-d:=u64_wrap (by omega) (by omega)
    have hdiv:(18446744073709551615-(d:Int)).tdiv base=(18446744073709551615-(d:Int)) / base:=Int.tdiv_eq_ediv_of_nonneg (by omega)
    have hq0:0≤(18446744073709551615-(d:Int)) / base:=Int.ediv_nonneg (by omega) (by omega)
    have hq1:(18446744073709551615-(d:Int)) / base≤18446744073709551615-(d:Int):=Int.ediv_le_self _ (by omega)
    have hw3:IntKind.u64.wrap ((18446744073709551615-(d:Int)) / base)=(18446744073709551615-(d:Int)) / base:=u64_wrap hq0 (by omega)
    have hle:(v:Int)≤(18446744073709551615-(d:Int)) / base↔(v:Int)*base≤18446744073709551615-d:=Int.le_ediv_iff_mul_le (by omega)
    repeat first|refine byW ?_|refine byV ?_;intro w hw
    rw[hg,hd,hw1,hw2,hdiv,hw3];refine W_cond rfl (fun h2=>?_) (fun h2=>?_)
    ·have h2:(18446744073709551615-(d:Int)) / base<v:=of_decide_eq_true h2
     have h3:¬(v:Int)*base≤18446744073709551615-d:=fun hh=>by have:=hle.2 hh;omega
     have h4:most64<v*base+d:=by
      have:(most64:Int)<((v*base+d:Nat):Int):=by rw[hmost];push_cast;omega
      omega
     have h5:=valL_le base (by omega) ((bts s2).drop (k+1)) (v*base+d)
     have h6:most64 >>> sh≤most64:=Nat.shiftRight_le _ _
     repeat first|refine byW ?_|refine byV ?_;intro w hw
     refine⟨_,rfl,?_,rfl⟩
     unfold numCore;rw[if_neg (by rw[hall];simp),if_pos (by rw[hval];omega)];rfl
    ·have h2:¬(18446744073709551615-(d:Int)) / base<v:=of_decide_eq_false h2
     have h3:(v:Int)*base≤18446744073709551615-d:=hle.1 (by omega)
     have h3':0≤(v:Int)*base:=Int.mul_nonneg (by omega) (by omega)
     have hw4:IntKind.u64.wrap ((v:Int)*base)=v*base:=u64_wrap h3' (by omega)
     have hw5:IntKind.u64.wrap ((v:Int)*base+d)=v*base+d:=u64_wrap (by omega) (by omega)
     repeat first|refine byW ?_|refine byV ?_;intro w hw
     refine⟨μ-1,by omega,k+1,v*base+d,by omega,⟨rfl,rfl,rfl,?_,rfl,trivial⟩,hval,?_,rfl⟩
     ·show Value.int .u64 (IntKind.u64.wrap (IntKind.u64.wrap ((v:Int)*base)+d))=_
      rw[hw4,hw5];push_cast;rfl
     ·have:((v*base+d:Nat):Int)≤(most64:Int):=by rw[hmost];push_cast;omega
      omega
   have hkn:¬k<s2.size:=by simpa using h1
   rw[List.drop_eq_nil_of_le (by omega)]at hval
   have hval:valL base (bts s2) 0=v:=hval
   have hcore:numCore base sh (bts s2)=if most64 >>> sh<v then (0,6) else (v <<< sh,0):=by
    unfold numCore;rw[if_neg (by rw[hall];simp),hval]
   rw[hcore];have key1:(18446744073709551615:Int).fdiv (2 ^ (min (sh:Int).toNat IntKind.u64.bits))=((most64 >>> sh:Nat):Int):=by
    rcases hcase with rfl|rfl|rfl|rfl <;> decide +kernel
   have hmin:min (sh:Int).toNat IntKind.u64.bits=sh:=by
    rcases hcase with rfl|rfl|rfl|rfl <;> rfl
   repeat first|refine byW ?_|refine byV ?_;intro w hw
   rw[key1];refine W_cond rfl (fun h2=>?_) (fun h2=>?_)
   ·have h2:most64 >>> sh<v:=by have:=of_decide_eq_true h2;omega
    repeat first|refine byW ?_|refine byV ?_;intro w hw
    refine⟨_,rfl,?_,rfl⟩
    rw[if_pos h2];rfl
   ·have h2:¬most64 >>> sh<v:=by have:=of_decide_eq_false h2;omega
    have h3:v*2 ^ sh≤most64:=by
     rw[Nat.shiftRight_eq_div_pow]at h2;exact(Nat.le_div_iff_mul_le (Nat.two_pow_pos sh)).1 (by omega)
    have h4:IntKind.u64.wrap ((v:Int)*2 ^ (min (sh:Int).toNat IntKind.u64.bits))=((v <<< sh:Nat):Int):=by
     rw[hmin,Nat.shiftLeft_eq];have e:((v*2 ^ sh:Nat):Int)=(v:Int)*2 ^ sh:=by push_cast;rfl
     rw[←e];have hmost:most64=18446744073709551615:=rfl
     exact u64_wrap (by omega) (by omega)
    repeat first|refine byW ?_|refine byV ?_;intro w hw
    refine⟨_,rfl,?_,rfl⟩
    rw[if_neg h2];show Ending.returned (.tuple #[.int .u64 (IntKind.u64.wrap ((v:Int)*2 ^ (min (sh:Int).toNat IntKind.u64.bits))),.int .i64 0])=_
    rw[h4]
end Go.Proofs.YtfoggcgogafocaaGreatDoor
end
section
open Go Mk
namespace Go.Proofs.YtfoggcgogafocaaGreatDoor
set_option maxHeartbeats 4000000
attribute [local irreducible] Calls numS punctN
def tokOf(t:TokR):Tok:=⟨t.kind,t.text,t.value,0,0⟩
theorem runN_le(s:ByteArray):runN s≤s.size:=by
 have:(s.data.toList.takeWhile wordC).length≤s.data.toList.length:=(List.takeWhile_sublist _).length_le
 rw[←bts_len];exact this
theorem runN_pos{s:ByteArray}(h0:0<s.size)(h:wordC (s.data.toList.getD 0 0)=true):0<runN s:=by
 have hl:=bts_len s
 unfold runN;cases hb:s.data.toList with
 | nil=>rw[show bts s=[] from hb]at hl;simp at hl;omega
 | cons c l=>
  rw[hb]at h;have h:wordC c=true:=h
  simp[List.takeWhile_cons,h]
theorem strN_eq{s:ByteArray}{k:Nat}(h1:1≤k)(hk:k≤s.size)(ha:∀i,1≤i→i<k→inStr (byteAt s i)=true)(hn:k<s.size→inStr (byteAt s k)=false):strN s=k:=by
 have hl:=bts_len s
 have hg:∀i,((bts s).drop 1).getD i 0=(bts s).getD (i+1) 0:=fun i=>by
  rw[List.getD_eq_getElem?_getD,List.getD_eq_getElem?_getD,List.getElem?_drop,Nat.add_comm]
 unfold strN;rw[takeWhile_len (k:=k-1) (by simp[hl];omega) (fun i hi=>by rw[hg];exact ha (i+1) (by omega) (by omega)) (fun hh=>by
  rw[hg,show k-1+1=k from by omega]
  exact hn (by simp[hl]at hh;omega))]
 omega
theorem punctN_le(s:ByteArray):punctN s≤s.size:=by
 unfold punctN;split
 ·rename_i h;exact h.1
 ·split
  ·rename_i h;exact h.1
  ·omega
theorem pg_token(Γ:Gho)(s:ByteArray)(hs:s.size≤4611686018427387904)(h0:0<s.size):PG Tryz.prog Γ 117 [.string s] (.tuple #[.agg (enc (tokOf (tokS s))).toArray,.int .i64 (tokS s).n,.int .i64 (tokS s).err]):=⟨fun S w hw=>by
 haveI:SB s:=⟨hs⟩
 have hrl:=runN_le s
 refine calls_of_WC Tryz.func117 rfl rfl ?_
 repeat first|refine byW ?_|refine byV ?_;intro w hw
 refine lAlloc ?_;intro b w hw;repeat first|refine byW ?_|refine byV ?_;intro w hw
 refine W_cond rfl (fun h=>?_) (fun h=>?_)
 ·have h:letterB (byteAt s 0)=true:=h
  have hT:tokS s=⟨1,bSub s 0 (runN s),0,runN s,0⟩:=by unfold tokS;rw[if_pos h]
  rw[hT];repeat first|refine byW ?_|refine byV ?_;intro w hw
  refine lStore ?_;intro w hw;have hw:Wd Γ (.blk b (.cells (enc (⟨1,bSub s 0 (runN s),0,0,0⟩:Tok)).toArray 161)::S) w:=hw
  repeat first|refine byW ?_|refine byV ?_;intro w hw
  exact⟨[.agg (enc (⟨1,bSub s 0 (runN s),0,0,0⟩:Tok)).toArray,.int .i64 (runN s),.int .i64 0],⟨resC (i:=0) hw rfl rfl rfl,rfl,rfl,trivial⟩,rfl,hw.drop⟩
 have h:letterB (byteAt s 0)=false:=h
 repeat first|refine byW ?_|refine byV ?_;intro w hw
 refine W_cond rfl (fun h2=>?_) (fun h2=>?_)
 ·have h2:digitB (byteAt s 0)=true:=h2
  have hrp:0<runN s:=runN_pos h0 (by unfold wordC;rw[show digitB ((s.data.toList.getD 0 0).toNat:Int)=true from h2];simp)
  have hsz:(bSub s 0 (runN s)).size=runN s:=by rw[sub_size hrl];omega
  have hT:tokS s=if (numS (bSub s 0 (runN s))).2=0 then ⟨2,⟨#[]⟩,(numS (bSub s 0 (runN s))).1,runN s,0⟩ else tokErr (numS (bSub s 0 (runN s))).2:=by unfold tokS;rw[if_neg (by rw[h];simp),if_pos h2]
  rw[hT];repeat first|refine byW ?_|refine byV ?_;intro w hw
  refine lCall ?_;refine(number_any (bSub s 0 (runN s)) (by omega) (by omega) w).mono ?_
  rintro e w' ⟨rfl,rfl⟩
  refine⟨_,rfl,?_⟩;generalize numS (bSub s 0 (runN s))=r
  obtain⟨v,er⟩:=r;repeat first|refine byW ?_|refine byV ?_;intro w hw
  refine W_cond rfl (fun h3=>?_) (fun h3=>?_)
  ·have h3:¬er=0:=by simpa using h3
   repeat first|refine byW ?_|refine byV ?_;intro w hw
   refine lStore ?_;intro w hw;have hw:Wd Γ (.blk b (.cells (enc (⟨0,⟨#[]⟩,0,0,0⟩:Tok)).toArray 161)::S) w:=hw
   repeat first|refine byW ?_|refine byV ?_;intro w hw
   refine⟨[.agg (enc (⟨0,⟨#[]⟩,0,0,0⟩:Tok)).toArray,.int .i64 0,.int .i64 er],⟨resC (i:=0) hw rfl rfl rfl,rfl,rfl,trivial⟩,?_,hw.drop⟩
   rw[if_neg h3];rfl
  ·have h3:er=0:=by simpa using h3
   repeat first|refine byW ?_|refine byV ?_;intro w hw
   refine lStore ?_;intro w hw;have hw:Wd Γ (.blk b (.cells (enc (⟨2,⟨#[]⟩,v,0,0⟩:Tok)).toArray 161)::S) w:=hw
   repeat first|refine byW ?_|refine byV ?_;intro w hw
   refine⟨[.agg (enc (⟨2,⟨#[]⟩,v,0,0⟩:Tok)).toArray,.int .i64 (runN s),.int .i64 0],⟨resC (i:=0) hw rfl rfl rfl,rfl,rfl,trivial⟩,?_,hw.drop⟩
   rw[if_pos h3];rfl
 have h2:digitB (byteAt s 0)=false:=h2
 repeat first|refine byW ?_|refine byV ?_;intro w hw
 refine W_cond rfl (fun h3=>?_) (fun h3=>?_)
 ·have h3:byteAt s 0=34:=of_decide_eq_true h3
  have hT:tokS s=if strN s<s.size∧byteAt s (strN s)=34 then ⟨3,bSub s 1 (strN s),0,strN s+1,0⟩ else tokErr 50:=by unfold tokS;rw[if_neg (by rw[h];simp),if_neg (by rw[h2];simp),if_pos h3]
  rw[hT];repeat first|refine byW ?_|refine byV ?_;intro w hw
  refine W_loop (fun μ ρ w=>∃k:Nat,μ+k=s.size∧1≤k∧Has ρ [(0,.string s),(2,.pointer (some ⟨b,0,none⟩)),(10,.int .i64 k)]∧(∀i,1≤i→i<k→inStr (byteAt s i)=true)∧Wd Γ (.blk b (.cells (enc (⟨0,⟨#[]⟩,0,0,0⟩:Tok)).toArray 161)::S) w) (s.size-1) ⟨1,by omega,by omega,⟨rfl,rfl,rfl,trivial⟩,fun i h1 h2=>by omega,hw⟩ ?_
  clear hw;rintro μ ρ w ⟨k,hk,hk1,hρ,hall,hw⟩
  rw[hρ.eq];repeat first|refine byW ?_|refine byV ?_;intro w hw
  refine W_cond rfl (fun h4=>?_) (fun h4=>?_)
  ·have h4:k<s.size∧inStr (byteAt s k)=true:=by
    rw[Bool.and_eq_true,decide_eq_true_eq]at h4;exact⟨by omega,h4.2⟩
   repeat first|refine byW ?_|refine byV ?_;intro w hw
   refine⟨μ-1,by omega,k+1,by omega,by omega,⟨rfl,rfl,rfl,trivial⟩,fun i h1 h2=>?_,hw⟩
   by_cases e:i=k
   ·subst e;exact h4.2
   ·exact hall i h1 (by omega)
  ·have hS:strN s=k:=strN_eq hk1 (by omega) hall (fun hlt=>by
    have e1:decide ((k:Int)<s.size)=true:=by simp;omega
    rw[e1,Bool.true_and]at h4;exact h4)
   rw[hS];clear h4;have hks:k≤s.size:=by omega
   repeat first|refine byW ?_|refine byV ?_;intro w hw
   have key:(decide ((k:Int)=s.size)||decide (byteAt s k≠34)) = !decide (k<s.size∧byteAt s k=34):=by
    rw[show decide ((k:Int)=s.size)=decide (¬k<s.size) from decide_eq_decide.2 (by omega)]
    by_cases e1:k<s.size <;> by_cases e2:byteAt s k=34 <;> simp[e1,e2]
   refine W_cond rfl (fun h4=>?_) (fun h4=>?_)
   ·have h4:=key.symm.trans h4
    have h4:¬(k<s.size∧byteAt s k=34):=fun hh=>by rw[decide_eq_true hh]at h4;cases h4
    repeat first|refine byW ?_|refine byV ?_;intro w hw
    refine lStore ?_;intro w hw;have hw:Wd Γ (.blk b (.cells (enc (⟨0,⟨#[]⟩,0,0,0⟩:Tok)).toArray 161)::S) w:=hw
    repeat first|refine byW ?_|refine byV ?_;intro w hw
    refine⟨[.agg (enc (⟨0,⟨#[]⟩,0,0,0⟩:Tok)).toArray,.int .i64 0,.int .i64 50],⟨resC (i:=0) hw rfl rfl rfl,rfl,rfl,trivial⟩,?_,hw.drop⟩
    rw[if_neg h4];rfl
   ·have h4:=key.symm.trans h4
    have h4:k<s.size∧byteAt s k=34:=by simpa using h4
    have hkl:=h4.1
    repeat first|refine byW ?_|refine byV ?_;intro w hw
    refine lStore ?_;intro w hw;have hw:Wd Γ (.blk b (.cells (enc (⟨3,bSub s 1 k,0,0,0⟩:Tok)).toArray 161)::S) w:=hw
    repeat first|refine byW ?_|refine byV ?_;intro w hw
    refine⟨[.agg (enc (⟨3,bSub s 1 k,0,0,0⟩:Tok)).toArray,.int .i64 ((k:Int)+1),.int .i64 0],⟨resC (i:=0) hw rfl rfl rfl,rfl,rfl,trivial⟩,?_,hw.drop⟩
    rw[if_pos h4];rfl
 ·have h3:¬byteAt s 0=34:=of_decide_eq_false h3
  have hT:tokS s=if punctN s=0 then tokErr 50 else ⟨4,bSub s 0 (punctN s),0,punctN s,0⟩:=by unfold tokS;rw[if_neg (by rw[h];simp),if_neg (by rw[h2];simp),if_neg h3]
  have hpl:=punctN_le s
  rw[hT];repeat first|refine byW ?_|refine byV ?_;intro w hw
  refine W_cond rfl (fun h4=>?_) (fun h4=>?_)
  ·have h4:punctN s=0:=by have:=of_decide_eq_true h4;omega
   repeat first|refine byW ?_|refine byV ?_;intro w hw
   refine lStore ?_;intro w hw;have hw:Wd Γ (.blk b (.cells (enc (⟨0,⟨#[]⟩,0,0,0⟩:Tok)).toArray 161)::S) w:=hw
   repeat first|refine byW ?_|refine byV ?_;intro w hw
   refine⟨[.agg (enc (⟨0,⟨#[]⟩,0,0,0⟩:Tok)).toArray,.int .i64 0,.int .i64 50],⟨resC (i:=0) hw rfl rfl rfl,rfl,rfl,trivial⟩,?_,hw.drop⟩
   rw[if_pos h4];rfl
  ·have h4:¬punctN s=0:=by have:=of_decide_eq_false h4;omega
   repeat first|refine byW ?_|refine byV ?_;intro w hw
   refine lStore ?_;intro w hw;have hw:Wd Γ (.blk b (.cells (enc (⟨4,bSub s 0 (punctN s),0,0,0⟩:Tok)).toArray 161)::S) w:=hw
   repeat first|refine byW ?_|refine byV ?_;intro w hw
   refine⟨[.agg (enc (⟨4,bSub s 0 (punctN s),0,0,0⟩:Tok)).toArray,.int .i64 (punctN s),.int .i64 0],⟨resC (i:=0) hw rfl rfl rfl,rfl,rfl,trivial⟩,?_,hw.drop⟩
   rw[if_neg h4];rfl⟩
end Go.Proofs.YtfoggcgogafocaaGreatDoor
end
section
open Go Mk
namespace Go.Proofs.YtfoggcgogafocaaGreatDoor
set_option maxHeartbeats 400000
attribute [local irreducible] Calls numS punctN
theorem word_nl{b:UInt8}(h:wordC b=true):((b.toNat:Nat):Int)≠10:=by
 intro e;unfold wordC letterB digitB at h;rw[e]at h;revert h;decide
theorem inStr_nl{c:Int}(h:inStr c=true):c≠10:=by
 intro e;rw[e]at h;revert h;decide
theorem takeWhile_get{p:UInt8→Bool}:∀ {l:List UInt8} {i:Nat},i<(l.takeWhile p).length→p (l.getD i 0)=true
 | [],i,h=>by simp at h
 | x::l,i,h=>by
  by_cases hx:p x=true
  ·rw[List.takeWhile_cons,if_pos hx]at h;cases i with
   | zero=>simpa using hx
   | succ i=>exact takeWhile_get (l:=l) (i:=i) (by simpa using h)
  ·rw[List.takeWhile_cons,if_neg hx]at h;simp at h
theorem tok_ok{s:ByteArray}(h0:0<s.size)(he:(tokS s).err=0):1≤(tokS s).n∧(tokS s).n≤s.size∧∀i,i<(tokS s).n→byteAt s i≠10:=by
 have hrl:=runN_le s
 have hrun:∀i,i<runN s→byteAt s i≠10:=fun i hi=>word_nl (takeWhile_get (p:=wordC) hi)
 unfold tokS at he ⊢
 by_cases h1:letterB (byteAt s 0)=true
 ·rw[if_pos h1];exact⟨runN_pos h0 (by unfold wordC;rw[show letterB ((s.data.toList.getD 0 0).toNat:Int)=true from h1];rfl),hrl,hrun⟩
 rw[if_neg h1]at he ⊢
 by_cases h2:digitB (byteAt s 0)=true
 ·rw[if_pos h2]at he ⊢
  by_cases h3:(numS (bSub s 0 (runN s))).2=0
  ·rw[if_pos h3];exact⟨runN_pos h0 (by unfold wordC;rw[show digitB ((s.data.toList.getD 0 0).toNat:Int)=true from h2];simp),hrl,hrun⟩
  ·rw[if_neg h3]at he;exact absurd he h3
 rw[if_neg h2]at he ⊢
 by_cases h3:byteAt s 0=34
 ·rw[if_pos h3]at he ⊢
  by_cases h4:strN s<s.size∧byteAt s (strN s)=34
  ·rw[if_pos h4];refine⟨by show 1≤strN s+1;omega,by show strN s+1≤s.size;omega,fun i hi=>?_⟩
   have hi:i<strN s+1:=hi
   by_cases e0:i=0
   ·subst e0;rw[h3];decide
   ·by_cases e1:i=strN s
    ·subst e1;rw[h4.2];decide
    ·have hi2:i-1<(((bts s).drop 1).takeWhile inStrC).length:=by unfold strN at hi e1;omega
     have:=takeWhile_get (p:=inStrC) hi2
     rw[List.getD_eq_getElem?_getD,List.getElem?_drop,show 1+(i-1)=i from by omega,←List.getD_eq_getElem?_getD]at this
     exact inStr_nl this
  ·rw[if_neg h4]at he;exact absurd he (by decide)
 rw[if_neg h3]at he ⊢
 by_cases h4:punctN s=0
 ·rw[if_pos h4]at he;exact absurd he (by decide)
 rw[if_neg h4];refine⟨by show 1≤punctN s;omega,punctN_le s,fun i hi=>?_⟩
 have hi:i<punctN s:=hi
 unfold punctN at hi;by_cases h5:2≤s.size∧two2 (byteAt s 0) (byteAt s 1)=true
 ·rw[if_pos h5]at hi;have h6:=h5.2
  intro e;rcases (by omega:i=0∨i=1) with rfl|rfl <;> (rw[e]at h6;unfold two2 at h6;simp at h6)
 ·rw[if_neg h5]at hi;split at hi
  ·rename_i h6
   have hi0:i=0:=by omega
   subst hi0;intro e;have:s.data.toList.getD 0 0=10:=by
    apply UInt8.toNat_inj.1
    have e':((s.data.toList.getD 0 0).toNat:Int)=10:=e
    show _=10
    omega
   rw[this]at h6;exact absurd h6.2 (by decide)
  ·omega
theorem posAt_run{s:ByteArray}{off:Nat}:∀(n:Nat),(∀i,i<n→byteAt s (off+i)≠10)→posAt s (off+n)=⟨(posAt s off).Line,(posAt s off).Col+n⟩
 | 0,_=>by simp
 | n+1,h=>by
  have ih:=posAt_run n (fun i hi=>h i (by omega))
  rw[show off+(n+1)=(off+n)+1 from by omega]
  rw[show posAt s (off+n+1)=if byteAt s (off+n)=10 then ⟨(posAt s (off+n)).Line+1,1⟩ else ⟨(posAt s (off+n)).Line,(posAt s (off+n)).Col+1⟩ from rfl,if_neg (h n (by omega)),ih]
  simp;omega
theorem posAt_nl{s:ByteArray}{k:Nat}(h:byteAt s k=10):posAt s (k+1)=⟨(posAt s k).Line+1,1⟩:=by
 rw[show posAt s (k+1)=if byteAt s k=10 then ⟨(posAt s k).Line+1,1⟩ else ⟨(posAt s k).Line,(posAt s k).Col+1⟩ from rfl,if_pos h]
theorem skipN_eq{s:ByteArray}{off k:Nat}(h1:off≤k)(hk:k≤s.size)(ha:∀i,off≤i→i<k→byteAt s i≠10)(hn:k<s.size→byteAt s k=10):skipN s off=k:=by
 have hl:=bts_len s
 have hg:∀i,((bts s).drop off).getD i 0=(bts s).getD (off+i) 0:=fun i=>by
  rw[List.getD_eq_getElem?_getD,List.getD_eq_getElem?_getD,List.getElem?_drop]
 unfold skipN;rw[takeWhile_len (k:=k-off) (by simp[hl];omega) (fun i hi=>by rw[hg];exact decide_eq_true (ha (off+i) (by omega) (by omega))) (fun hh=>by
  rw[hg,show off+(k-off)=k from by omega]
  have:=hn (by simp[hl]at hh;omega)
  exact decide_eq_false (fun q=>q this))]
 omega
end Go.Proofs.YtfoggcgogafocaaGreatDoor
end
section
open Go Mk
namespace Go.Proofs.YtfoggcgogafocaaGreatDoor
set_option maxHeartbeats 4000000
attribute [local irreducible] Calls numS punctN tokS posAt skipN
theorem Scan_any(Γ:Gho)(S:List Res)(w:World)(s:ByteArray)(hs:s.size≤4611686018427387904)(hw:Wd Γ S w) :
  Calls Tryz.prog 57 #[.string s] w fun e w'=>∃v,e=.returned (.tuple #[v,.agg (enc (scanS s).2.1).toArray,.int .i64 (scanS s).2.2])∧Wd Γ (.own v 161 5 ((scanS s).1.map enc)::S) w':=by
 refine calls_of_WC Tryz.func57 rfl rfl ?_
 repeat first|refine byW ?_|refine byV ?_;intro w hw
 refine lAlloc ?_;intro bp w hw;have hw:Wd Γ (.blk bp (.cells (enc (⟨0,0⟩:PosT)).toArray 63)::S) w:=hw
 repeat first|refine byW ?_|refine byV ?_;intro w hw
 refine W_scopeS ?_
 repeat first|refine byW ?_|refine byV ?_;intro w hw
 refine W_cond rfl (fun h=>?_) (fun h=>?_)
 ·have h:65536<s.size:=by simp at h;omega
  have hS:scanS s=([],⟨0,0⟩,15):=by unfold scanS;rw[if_pos h]
  rw[hS];repeat first|refine byW ?_|refine byV ?_;intro w hw
  refine lStore ?_;intro w hw;have hw:Wd Γ (.blk bp (.cells (enc (⟨0,0⟩:PosT)).toArray 63)::S) w:=hw
  repeat first|refine byW ?_|refine byV ?_;intro w hw
  exact⟨[.slice none 0 0,.agg (enc (⟨0,0⟩:PosT)).toArray,.int .i64 15],⟨rfl,resC (i:=0) hw rfl rfl rfl,rfl,trivial⟩,_,rfl,Wd.addNil hw.drop⟩
 have h:¬65536<s.size:=by simp at h;omega
 have hS:scanS s=scanN s (s.size+1) 0 []:=by unfold scanS;rw[if_neg h]
 rw[hS];repeat first|refine byW ?_|refine byV ?_;intro w hw
 refine W_label ?_
 repeat first|refine byW ?_|refine byV ?_;intro w hw
 refine W_loop (fun μ ρ w=>∃(off start:Nat) (g:Value) (toks:List Tok),off≤s.size∧s.size<μ+off∧start≤off∧(posAt s off).Col=(off:Int)-start+1∧(posAt s off).Line≤1+off∧toks.length≤off∧Has ρ [(0,.string s),(3,.pointer (some ⟨bp,0,none⟩)),(5,g),(6,.int .i64 (posAt s off).Line),(7,.int .i64 start),(8,.int .i64 off)]∧scanN s (s.size+1) 0 []=scanN s μ off toks∧0≤(posAt s off).Line∧Wd Γ (.own g 161 5 (toks.map enc)::.blk bp (.cells (enc (⟨0,0⟩:PosT)).toArray 63)::S) w) (s.size+1) ?_ ?_
 ·have p0:posAt s 0=⟨1,1⟩:=by unfold posAt;rfl
  refine⟨0,0,.slice none 0 0,[],by omega,by omega,by omega,?_,?_,by simp,⟨rfl,rfl,rfl,?_,rfl,rfl,trivial⟩,rfl,?_,Wd.addNil hw⟩
  ·rw[p0];rfl
  ·rw[p0];decide
  ·rw[p0];rfl
  ·rw[p0];decide
 clear hw;rintro μ ρ w ⟨off,start,g,toks,ho,hμ,hst,hcol,hlin,htl,hρ,hN,hl0,hw⟩
 rw[hρ.eq];obtain⟨f,rfl⟩:∃f,μ=f+1:=⟨μ-1,by omega⟩
 rw[hN];clear hS;repeat first|refine byW ?_|refine byV ?_;intro w hw
 refine W_cond rfl (fun h1=>?_) (fun h1=>?_)
 ·have h1:off<s.size:=by simpa using h1
  have hsp:spaceB (byteAt s off)=true→scanN s (f+1) off toks=scanN s f (off+1) toks:=fun q=>by
   show (if s.size≤off then _ else _)=_
   rw[if_neg (by omega),if_pos q]
  have hp1:byteAt s off≠10→posAt s (off+1)=⟨(posAt s off).Line,(posAt s off).Col+1⟩:=fun q=>by
   have:=posAt_run (s:=s) (off:=off) 1 (fun i hi=>by rw[show off+i=off from by omega];exact q)
   simpa using this
  have hp2:byteAt s off=10→posAt s (off+1)=⟨(posAt s off).Line+1,1⟩:=posAt_nl
  repeat first|refine byW ?_|refine byV ?_;intro w hw
  refine W_cond rfl (fun e1=>?_) (fun e1=>?_)
  ·have e1:byteAt s off=10:=of_decide_eq_true e1
   have hq:=hp2 e1
   repeat first|refine byW ?_|refine byV ?_;intro w hw
   refine⟨f,by omega,off+1,off+1,g,toks,by omega,by omega,by omega,by rw[hq];show (1:Int)=_;omega,by rw[hq];show (posAt s off).Line+1≤_;omega,by omega,⟨rfl,rfl,rfl,by rw[hq];rfl,rfl,rfl,trivial⟩,by rw[hsp (by rw[e1];rfl)],by rw[hq];show 0≤(posAt s off).Line+1;omega,hw⟩
  have e1:byteAt s off≠10:=of_decide_eq_false e1
  have hq:=hp1 e1
  repeat first|refine byW ?_|refine byV ?_;intro w hw
  refine W_cond rfl (fun e2=>?_) (fun e2=>?_)
  ·repeat first|refine byW ?_|refine byV ?_;intro w hw
   refine W_cond_true (by simp only[e2];rfl) ?_
   have e2:byteAt s off=32:=of_decide_eq_true e2
   repeat first|refine byW ?_|refine byV ?_;intro w hw
   exact⟨f,by omega,off+1,start,g,toks,by omega,by omega,by omega,by rw[hq];show (posAt s off).Col+1=_;omega,by rw[hq];show (posAt s off).Line≤_;omega,by omega,⟨rfl,rfl,rfl,by rw[hq];rfl,rfl,rfl,trivial⟩,by rw[hsp (by rw[e2];rfl)],by rw[hq];exact hl0,hw⟩
  repeat first|refine byW ?_|refine byV ?_;intro w hw
  refine W_cond rfl (fun e3=>?_) (fun e3=>?_)
  ·repeat first|refine byW ?_|refine byV ?_;intro w hw
   refine W_cond_true (by simp only[e3];rfl) ?_
   have e3:byteAt s off=9:=of_decide_eq_true e3
   repeat first|refine byW ?_|refine byV ?_;intro w hw
   exact⟨f,by omega,off+1,start,g,toks,by omega,by omega,by omega,by rw[hq];show (posAt s off).Col+1=_;omega,by rw[hq];show (posAt s off).Line≤_;omega,by omega,⟨rfl,rfl,rfl,by rw[hq];rfl,rfl,rfl,trivial⟩,by rw[hsp (by rw[e3];rfl)],by rw[hq];exact hl0,hw⟩
  repeat first|refine byW ?_|refine byV ?_;intro w hw
  refine W_cond rfl (fun e4=>?_) (fun e4=>?_)
  ·have e4:byteAt s off=13:=of_decide_eq_true e4
   repeat first|refine byW ?_|refine byV ?_;intro w hw
   exact⟨f,by omega,off+1,start,g,toks,by omega,by omega,by omega,by rw[hq];show (posAt s off).Col+1=_;omega,by rw[hq];show (posAt s off).Line≤_;omega,by omega,⟨rfl,rfl,rfl,by rw[hq];rfl,rfl,rfl,trivial⟩,by rw[hsp (by rw[e4];rfl)],by rw[hq];exact hl0,hw⟩
  have e2:byteAt s off≠32:=of_decide_eq_false e2
  have e3:byteAt s off≠9:=of_decide_eq_false e3
  have e4:byteAt s off≠13:=of_decide_eq_false e4
  have hns:¬spaceB (byteAt s off)=true:=by simp[spaceB,e1,e2,e3,e4]
  repeat first|refine byW ?_|refine byV ?_;intro w hw
  refine W_cond rfl (fun e5=>?_) (fun e5=>?_)
  ·have e5:byteAt s off=35:=of_decide_eq_true e5
   have hsk:scanN s (f+1) off toks=scanN s f (skipN s off) toks:=by
    show (if s.size≤off then _ else _)=_
    rw[if_neg (by omega),if_neg hns,if_pos e5]
   repeat first|refine byW ?_|refine byV ?_;intro w hw
   refine W_loop (fun μ ρ w=>∃k:Nat,μ+k=s.size∧off≤k∧Has ρ [(0,.string s),(3,.pointer (some ⟨bp,0,none⟩)),(5,g),(6,.int .i64 (posAt s off).Line),(7,.int .i64 start),(8,.int .i64 k)]∧(∀i,off≤i→i<k→byteAt s i≠10)∧Wd Γ (.own g 161 5 (toks.map enc)::.blk bp (.cells (enc (⟨0,0⟩:PosT)).toArray 63)::S) w) (s.size-off) ⟨off,by omega,by omega,⟨rfl,rfl,rfl,rfl,rfl,rfl,trivial⟩,fun i h1 h2=>by omega,hw⟩ ?_
   clear hw hρ;rintro μ2 ρ w ⟨k,hk,hk1,hρ,hall,hw⟩
   rw[hρ.eq];repeat first|refine byW ?_|refine byV ?_;intro w hw
   refine W_cond rfl (fun h4=>?_) (fun h4=>?_)
   ·have h4:k<s.size∧byteAt s k≠10:=by
     rw[Bool.and_eq_true,decide_eq_true_eq]at h4;exact⟨by omega,of_decide_eq_true h4.2⟩
    have hkl:=h4.1
    repeat first|refine byW ?_|refine byV ?_;intro w hw
    refine⟨μ2-1,by omega,k+1,by omega,by omega,⟨rfl,rfl,rfl,rfl,rfl,rfl,trivial⟩,fun i h1 h2=>?_,hw⟩
    by_cases e:i=k
    ·subst e;exact h4.2
    ·exact hall i h1 (by omega)
   ·have hend:k<s.size→byteAt s k=10:=fun hlt=>by
     have q1:decide ((k:Int)<s.size)=true:=by simp;omega
     rw[q1,Bool.true_and]at h4;have:=of_decide_eq_false h4
     exact Classical.not_not.1 this
    have hkk:off<k:=by
     rcases Nat.lt_or_ge off k with q|q
     ·exact q
     ·have:k=off:=by omega
      subst this;have:=hend h1
      exact absurd this e1
    have hks:skipN s off=k:=skipN_eq hk1 (by omega) hall hend
    have hpk:=posAt_run (s:=s) (off:=off) (k-off) (fun i hi=>hall (off+i) (by omega) (by omega))
    rw[show off+(k-off)=k from by omega]at hpk
    repeat first|refine byW ?_|refine byV ?_;intro w hw
    exact⟨f,by omega,k,start,g,toks,by omega,by omega,by omega,by rw[hpk];show (posAt s off).Col+_=_;omega,by rw[hpk];show (posAt s off).Line≤_;omega,by omega,⟨rfl,rfl,rfl,by rw[hpk];rfl,rfl,rfl,trivial⟩,by rw[hsk,hks],by rw[hpk];exact hl0,hw⟩
  have e5:byteAt s off≠35:=of_decide_eq_false e5
  have hsz:(bSub s off s.size).size=s.size-off:=sub_size (Nat.le_refl _)
  have hok:=tok_ok (s:=bSub s off s.size) (by omega)
  have hstep:scanN s (f+1) off toks=if (tokS (bSub s off s.size)).err=0 then scanN s f (off+(tokS (bSub s off s.size)).n) (toks++[⟨(tokS (bSub s off s.size)).kind,(tokS (bSub s off s.size)).text,(tokS (bSub s off s.size)).value,(posAt s off).Line,(posAt s off).Col⟩]) else ([],posAt s off,(tokS (bSub s off s.size)).err):=by
   show (if s.size≤off then _ else _)=_
   rw[if_neg (by omega),if_neg hns,if_neg e5]
  have hbyte:∀i,i<s.size-off→byteAt (bSub s off s.size) i=byteAt s (off+i):=fun i hi=>byte_sub (by omega)
  rw[hstep];obtain⟨ag,ng,cg,rfl,hng,hngc,hcg⟩:=hw.own_shape (i:=0) rfl
  simp only[List.length_map]at hng
  have hoz:(0:Int)≤off:=by omega
  repeat first|refine byW ?_|refine byV ?_;intro w hw
  refine lAlloc ?_;intro b9 w hw;refine lStore ?_;intro w hw;have hw:Wd Γ (.blk b9 (.cells (enc (⟨(posAt s off).Line,(off:Int)-start+1⟩:PosT)).toArray 63)::.own (.slice ag ng cg) 161 5 (toks.map enc)::.blk bp (.cells (enc (⟨0,0⟩:PosT)).toArray 63)::S) w:=hw
  rw[←hcol]at hw;repeat first|refine byW ?_|refine byV ?_;intro w hw
  refine lPg (hp:=pg_token Γ (bSub s off s.size) (by omega) (by omega)) ?_
  intro w hw;generalize tokS (bSub s off s.size)=t at *
  repeat first|refine byW ?_|refine byV ?_;intro w hw
  refine lAlloc ?_;intro b10 w hw;refine lStore ?_;intro w hw;have hw:Wd Γ (.blk b10 (.cells (enc (tokOf t)).toArray 161)::.blk b9 (.cells (enc (⟨(posAt s off).Line,(posAt s off).Col⟩:PosT)).toArray 63)::.own (.slice ag ng cg) 161 5 (toks.map enc)::.blk bp (.cells (enc (⟨0,0⟩:PosT)).toArray 63)::S) w:=hw
  repeat first|refine byW ?_|refine byV ?_;intro w hw
  refine W_cond rfl (fun h6=>?_) (fun h6=>?_)
  ·have h6:¬t.err=0:=by simpa using h6
   rw[if_neg h6];repeat first|refine byW ?_|refine byV ?_;intro w hw
   refine W_mixC [.blk b10 _,.blk b9 _,.own _ _ _ _] (.blk bp _::S) [] [[],[],[],[0],[]] hw ?_
   refine byM ?_;refine mStepX (φ:=fun (_:Unit) _=>True) (R:=fun _=>.blk bp (.cells (enc (⟨0,0⟩:PosT)).toArray 63)::S) (v:=undef) (T':=Unit) (fun _ _=>True) (fun _=>.blk bp (.cells (enc (⟨(posAt s off).Line,(posAt s off).Col⟩:PosT)).toArray 63)::S) (fun t' g w Y _ hw=>s_store (i:=0) (inferInstance:TSz Tryz.prog 63 2).h hw rfl rfl rfl rfl (fun u hu=>(List.all_eq_true.1 (enc_one (⟨(posAt s off).Line,(posAt s off).Col⟩:PosT))) u hu) rfl (Nat.le_refl 2) fun w' hw'=>⟨(),trivial,(fun _=>rfl),hw'⟩) ?_
   refine byM ?_;refine mEndX fun t' w g _ hw=>?_
   have hw:Wd Γ (.blk bp (.cells (enc (posAt s off)).toArray 63)::S) w:=Wd.left (S:=.blk bp _::S) hw
   repeat first|refine byW ?_|refine byV ?_;intro w hw
   exact⟨[.slice none 0 0,.agg (enc (posAt s off)).toArray,.int .i64 t.err],⟨rfl,resC (i:=0) hw rfl rfl rfl,rfl,trivial⟩,_,rfl,Wd.addNil hw.drop⟩
  ·have h6:t.err=0:=by simpa using h6
   rw[if_pos h6];obtain⟨hn1,hn2,hnn⟩:=hok h6
   rw[hsz]at hn2;have hpn:=posAt_run (s:=s) (off:=off) t.n (fun i hi=>by rw[←hbyte i (by omega)];exact hnn i hi)
   repeat first|refine byW ?_|refine byV ?_;intro w hw
   refine lStore ?_;intro w hw;have hw:Wd Γ (.blk b10 (.cells (enc (⟨t.kind,t.text,t.value,(posAt s off).Line,(posAt s off).Col⟩:Tok)).toArray 161)::.blk b9 (.cells (enc (⟨(posAt s off).Line,(posAt s off).Col⟩:PosT)).toArray 63)::.own (.slice ag ng cg) 161 5 (toks.map enc)::.blk bp (.cells (enc (⟨0,0⟩:PosT)).toArray 63)::S) w:=hw
   repeat first|refine byW ?_|refine byV ?_;intro w hw
   refine lBuildSlice [enc (⟨t.kind,t.text,t.value,(posAt s off).Line,(posAt s off).Col⟩:Tok)] ?_
   intro a72 w hw;refine lApp (i:=3) (rows2:=[enc (⟨t.kind,t.text,t.value,(posAt s off).Line,(posAt s off).Col⟩:Tok)]) ?_ (Wd.own_rd (i:=0) hw rfl)
   intro v' w hw;repeat first|refine byW ?_|refine byV ?_;intro w hw
   have hw:Wd Γ (.own v' 161 5 (toks.map enc++[enc (⟨t.kind,t.text,t.value,(posAt s off).Line,(posAt s off).Col⟩:Tok)])::.blk bp (.cells (enc (⟨0,0⟩:PosT)).toArray 63)::S) w:=hw.drop.drop.drop
   rw[show toks.map enc++[enc (⟨t.kind,t.text,t.value,(posAt s off).Line,(posAt s off).Col⟩:Tok)]=(toks++[(⟨t.kind,t.text,t.value,(posAt s off).Line,(posAt s off).Col⟩:Tok)]).map enc from by simp]at hw
   exact⟨f,by omega,off+t.n,start,v',_,by omega,by omega,by omega,by rw[hpn];show (posAt s off).Col+_=_;omega,by rw[hpn];show (posAt s off).Line≤_;omega,by simp;omega,⟨rfl,rfl,rfl,by rw[hpn];rfl,rfl,rfl,trivial⟩,rfl,by rw[hpn];exact hl0,hw⟩
 ·have h1:¬off<s.size:=by simpa using h1
  have hend:scanN s (f+1) off toks=(toks,⟨0,0⟩,0):=by
   show (if s.size≤off then _ else _)=_
   rw[if_pos (by omega)]
  rw[hend];repeat first|refine byW ?_|refine byV ?_;intro w hw
  refine lStore ?_;intro w hw;have hw:Wd Γ (.own g 161 5 (toks.map enc)::.blk bp (.cells (enc (⟨0,0⟩:PosT)).toArray 63)::S) w:=hw
  repeat first|refine byW ?_|refine byV ?_;intro w hw
  exact⟨[g,.agg (enc (⟨0,0⟩:PosT)).toArray,.int .i64 0],⟨rfl,resC (i:=1) hw rfl rfl rfl,rfl,trivial⟩,_,rfl,hw.dropAt 1⟩
end Go.Proofs.YtfoggcgogafocaaGreatDoor
end
section
open Go Mk
namespace Go.Proofs.YtfoggcgogafocaaGreatDoor
set_option maxHeartbeats 4000000
attribute [local irreducible] Calls
def isS(toks:List Tok)(at':Nat)(kind:Int)(text:ByteArray):Bool:=match toks[at']? with|some t=>decide (t.Kind=kind)&&decide (t.Text=text)|none=>false
def posOf(toks:List Tok)(at':Nat)(e:PosT):PosT:=match toks[at']? with|some t=>⟨t.Line,t.Col⟩|none=>e
abbrev PR(α:Type):=Except (PosT×Int) (α×Nat)
def nextP(toks:List Tok)(e:PosT)(kind:Int)(at':Nat):PR Tok:=match toks[at']? with|some t=>if t.Kind=kind then .ok (t,at') else .error (posOf toks at' e,50)|none=>.error (posOf toks at' e,50)
def expectP(toks:List Tok)(e:PosT)(kind:Int)(text:ByteArray)(at':Nat):PR Unit:=if isS toks at' kind text=true then .ok ((),at'+1) else .error (posOf toks at' e,50)
def nameP(toks:List Tok)(e:PosT)(kind:Int)(at':Nat):PR ByteArray:=match nextP toks e kind at' with|.ok (t,_)=>if 24<t.Text.size then .error (posOf toks at' e,63) else .ok (t.Text,at'+1)|.error q=>.error q
def numberP(toks:List Tok)(e:PosT)(limited:Bool)(at':Nat):PR Int:=match nextP toks e 2 at' with|.ok (t,_)=>if limited=true∧2147483647<t.Value then .error (posOf toks at' e,6) else .ok (t.Value,at'+1)|.error q=>.error q
def memB(s:ByteArray)(xs:List ByteArray):Bool:=xs.any fun x=>decide (s=x)
def commaB:ByteArray:=⟨#[44]⟩
def semiB:ByteArray:=⟨#[59]⟩
def closeB:ByteArray:=⟨#[125]⟩
theorem isS_lt{toks:List Tok}{k:Nat}{kind:Int}{text:ByteArray}(h:isS toks k kind text=true):k<toks.length:=by
 unfold isS at h;cases hg:toks[k]? with
 | none=>rw[hg]at h;cases h
 | some t=>exact(List.getElem?_eq_some_iff.1 hg).1
theorem posLine{s:ByteArray}:∀ {k:Nat},k≤s.size→(posAt s k).Line=1+(((s.data.toList.take k).count 10:Nat):Int)
 | 0,_=>by simp[posAt]
 | k+1,h=>by
  have ih:=posLine (s:=s) (k:=k) (by omega)
  have hk:k<s.data.toList.length:=by rw[show s.data.toList.length=s.size from by simp];omega
  obtain⟨b,hb⟩:∃b,s.data.toList[k]? = some b:=⟨_,List.getElem?_eq_getElem hk⟩
  have hB:byteAt s k=((b.toNat:Nat):Int):=by
   show ((s.data.toList.getD k 0).toNat:Int)=_
   rw[List.getD_eq_getElem?_getD,hb];rfl
  rw[List.take_add_one,hb];by_cases h1:b=10
  ·subst h1;rw[posAt_nl (by rw[hB];rfl)]
   simp[ih];omega
  ·have h2:byteAt s k≠10:=by
    rw[hB];intro h2;exact h1 (UInt8.toNat_inj.1 (by simpa using (show b.toNat=10 by omega)))
   have:=posAt_run (s:=s) (off:=k) 1 (fun i hi=>by
    have:i=0:=by omega
    subst this;exact h2)
   rw[this];simp[ih,h1]
theorem posCol{s:ByteArray}{k:Nat}(h:∀i,k≤i→i<s.size→byteAt s i≠10)(hk:k≤s.size):(posAt s s.size).Col=(posAt s k).Col+((s.size-k:Nat):Int):=by
 have:=posAt_run (s:=s) (off:=k) (s.size-k) (fun i hi=>h _ (by omega) (by omega))
 rw[show k+(s.size-k)=s.size by omega]at this
 rw[this]
def endP(s:ByteArray):PosT:=posAt s s.size
theorem Last_any(s:ByteArray)(hs:s.size≤4611686018427387904)(w:World):Calls Tryz.prog 118 #[.string s,.int .u8 10] w fun e w'=>e=.returned (.int .i64 ((s.size:Int)-(endP s).Col))∧w'=w:=by
 refine calls_of_W Tryz.func118 rfl rfl ?_
 repeat first|refine byW ?_|refine byV ?_;intro w hw
 refine W_loop (fun μ ρ w'=>∃(i:Int) (k:Nat),i+1=k∧μ=k∧k≤s.size∧Has ρ [(0,.string s),(1,.int .u8 10),(5,.int .i64 i)]∧(∀j,k≤j→j<s.size→byteAt s j≠10)∧w'=w) s.size ⟨(s.size:Int)-1,s.size,by omega,rfl,Nat.le_refl _,⟨rfl,rfl,rfl,trivial⟩,fun j h1 h2=>by omega,rfl⟩ ?_
 rintro μ ρ w' ⟨i,k,hik,rfl,hk,hρ,hno,rfl⟩
 rw[hρ.eq];repeat first|refine byW ?_|refine byV ?_;intro w hw
 refine W_cond rfl (fun h=>?_) (fun h=>?_)
 ·have h:0≤i:=of_decide_eq_true h
  repeat first|refine byW ?_|refine byV ?_;intro w hw
  have hi:i.toNat+1=μ:=by omega
  refine W_cond rfl (fun h2=>?_) (fun h2=>?_)
  ·have h2:byteAt s i.toNat=10:=of_decide_eq_true h2
   repeat first|refine byW ?_|refine byV ?_;intro w hw
   refine⟨_,rfl,?_,rfl⟩
   have h3:=posCol (s:=s) (k:=μ) hno hk
   have h4:=posAt_nl h2
   rw[hi]at h4;rw[h4]at h3;unfold endP;rw[h3];show Ending.returned (.int .i64 i)=_
   congr 2;dsimp;omega
  ·have h2:¬byteAt s i.toNat=10:=of_decide_eq_false h2
   repeat first|refine byW ?_|refine byV ?_;intro w hw
   refine⟨i.toNat,by omega,i-1,i.toNat,by omega,rfl,by omega,⟨rfl,rfl,rfl,trivial⟩,fun j h3 h4=>?_,rfl⟩
   by_cases e:j=i.toNat
   ·subst e;exact h2
   ·exact hno j (by omega) h4
 ·have h:¬0≤i:=of_decide_eq_false h
  repeat first|refine byW ?_|refine byV ?_;intro w hw
  refine⟨_,rfl,?_,rfl⟩
  have h3:=posCol (s:=s) (k:=0) (fun j h1 h2=>hno j (by omega) h2) (by omega)
  unfold endP;rw[h3];show Ending.returned (.int .i64 (-1))=_
  congr 2;simp[posAt];omega
theorem ext_Count(s:ByteArray)(c:Int)(w:World):(callFunc 120 #[.string s,.int .u8 c]).run Tryz.prog w=.ok (.value (.int .i64 (Go.Lib.countByte s.data.toList c.toNat.toUInt8))) w:=by
 rw[run_callFunc_extern Tryz.func120 (by kernel_rfl) (by kernel_rfl) (e:=Extern.BytealgCount.count) (by kernel_rfl) (by kernel_rfl),Go.Lib.run_countString]
 rfl
theorem pc_CountNl(s:ByteArray):PC Tryz.prog 59 [.string s,.string ⟨#[10]⟩] (.int .i64 (s.data.toList.count 10:Nat)):=⟨fun w=>by
 refine calls_of_W Tryz.func59 rfl rfl ?_
 repeat first|refine byW ?_|refine byV ?_;intro w hw
 refine W_cond rfl (fun h=>absurd h (by decide)) (fun _=>?_)
 repeat first|refine byW ?_|refine byV ?_;intro w hw
 refine W_cond rfl (fun _=>?_) (fun h=>absurd h (by decide))
 repeat first|refine byW ?_|refine byV ?_;intro w hw
 refine lY (v:=.int .u8 10) ?_ (hy:=y_idxS (s:=⟨#[10]⟩) (k:=.i64) (i:=0) rfl rfl (by decide) (by decide))
 repeat first|refine byW ?_|refine byV ?_;intro w hw
 refine lExt (vs:=[.string s,.int .u8 10]) (ext_Count s 10) ?_
 repeat first|refine byW ?_|refine byV ?_;intro w hw
 exact⟨_,rfl,rfl,rfl⟩⟩
theorem pc_LastNl(s:ByteArray)(hs:s.size≤4611686018427387904):PC Tryz.prog 58 [.string s,.int .u8 10] (.int .i64 ((s.size:Int)-(endP s).Col)):=⟨fun w=>by
 have hL3:PC Tryz.prog 118 [.string s,.int .u8 10] (.int .i64 ((s.size:Int)-(endP s).Col)):=⟨fun w=>Last_any s hs w⟩
 refine calls_of_W Tryz.func58 rfl rfl ?_
 repeat first|refine byW ?_|refine byV ?_;intro w hw
 exact⟨_,rfl,rfl,rfl⟩⟩
def maxS0:Nat:=4611686018427387904
theorem scanN_len{s:ByteArray}:∀ {f off:Nat} {acc:List Tok},off≤s.size→(scanN s f off acc).1.length≤acc.length+(s.size-off)
 | 0,off,acc,h=>by simp[scanN]
 | f+1,off,acc,h=>by
  unfold scanN;split
  ·simp
  ·rename_i h1
   split
   ·have:=scanN_len (s:=s) (f:=f) (off:=off+1) (acc:=acc) (by omega)
    omega
   ·split
    ·have h2:off≤skipN s off∧skipN s off≤s.size:=by
      unfold skipN;have:(((bts s).drop off).takeWhile fun b=>decide ((b.toNat:Int)≠10)).length≤((bts s).drop off).length:=(List.takeWhile_sublist _).length_le
      rw[List.length_drop,bts_len]at this;omega
     have:=scanN_len (s:=s) (f:=f) (off:=skipN s off) (acc:=acc) h2.2
     omega
    ·split
     ·rename_i h4
      have hsz:(bSub s off s.size).size=s.size-off:=sub_size (Nat.le_refl _)
      obtain⟨a1,a2,-⟩:=tok_ok (s:=bSub s off s.size) (by omega) h4
      have:=scanN_len (s:=s) (f:=f) (off:=off+(tokS (bSub s off s.size)).n) (acc:=acc++[⟨(tokS (bSub s off s.size)).kind,(tokS (bSub s off s.size)).text,(tokS (bSub s off s.size)).value,(posAt s off).Line,(posAt s off).Col⟩]) (by omega)
      simp at this;omega
     ·simp
theorem scanS_len{s:ByteArray}:(scanS s).1.length≤65536:=by
 unfold scanS;split
 ·simp
 ·have:=scanN_len (s:=s) (f:=s.size+1) (off:=0) (acc:=[]) (by omega)
  simp at this;omega
class RTok(Γ:Gho)(a:Option Addr)(n c:Nat)(toks:outParam (List Tok)):Prop where
 h:RepS Γ (.slice a n c) 5 (toks.map enc)
 big:n≤1000000
theorem RTok.len{Γ:Gho}{a:Option Addr}{n c:Nat}{toks:List Tok}(h:RTok Γ a n c toks):n=toks.length∧n≤c∧c≤9223372036854775807:=by
 obtain⟨_,_,_,h1,h2,h3⟩:=h.h.shape;cases h1
 exact⟨by simpa using h2,h3⟩
theorem RTok.mono{Γ Γ':Gho}{a:Option Addr}{n c:Nat}{toks:List Tok}(h:RTok Γ a n c toks)(hle:Γ.le Γ'):RTok Γ' a n c toks:=⟨h.h.mono hle,h.big⟩
structure Val where
 Kind:Int
 Num:Int
 Word:ByteArray
 deriving DecidableEq,Inhabited
instance:GoT Val where
 enc a:=[.int .i64 a.Kind,.int .i64 a.Num,.string a.Word]
 inj a b h:=by cases a;cases b;simp at h;simp[h]
 ks:=[5,5,1]
 kinds a:=rfl
def cV(a b:Val):Int:=orI (cI a.Kind b.Kind) (orI (cI a.Num b.Num) (cB a.Word b.Word))
theorem cV_ord:Ord3 cV:=(cI_ord.prod (cI_ord.prod cB_ord)).map (fun v:Val=>(v.Kind,v.Num,v.Word)) fun a b h=>by cases a;cases b;simp at h;simp[h]
abbrev Fact:=ByteArray×List Val
def cFact(a b:Fact):Int:=orI (cB a.1 b.1) (orI (cI a.2.length b.2.length) (cL cV a.2 b.2))
theorem cFact_ord:Ord3 cFact:=(cB_ord.prod (cI_ord.prod cV_ord.list)).map (fun f:Fact=>(f.1,((f.2.length:Int),f.2))) fun a b h=>by
 simp only[Prod.mk.injEq]at h;exact Prod.ext h.1 h.2.2
structure FactH where
 Rel:ByteArray
 A:Option Addr
 N:Nat
 C:Nat
 Args:List Val
def FactH.hdr(f:FactH):Value:=.slice f.A f.N f.C
def FactH.fact(f:FactH):Fact:=(f.Rel,f.Args)
def cF(f:FactH):List Value:=[.string f.Rel,f.hdr]
def FOk(Γ:Gho)(f:FactH):Prop:=RepS Γ f.hdr 3 (f.Args.map enc)
theorem FOk.len{Γ:Gho}{f:FactH}(h:FOk Γ f):f.N=f.Args.length∧f.N≤f.C∧f.C≤9223372036854775807:=by
 obtain⟨a,n,c,h1,h2,h3,h4⟩:=RepS.shape h
 unfold FactH.hdr at h1;cases h1
 exact⟨by simpa using h2,h3,h4⟩
theorem cF_one(f:FactH):(cF f).all (·.oneCell')=true:=rfl
theorem cFs_one(fs:List FactH):∀u∈(fs.map cF).flatten,u.oneCell'=true:=fun u hu=>by
 obtain⟨r,hr,hu⟩:=List.mem_flatten.1 hu
 obtain⟨f,_,rfl⟩:=List.mem_map.1 hr
 exact(List.all_eq_true.1 (cF_one f)) u hu
instance pc_isNaNs(s:ByteArray):PC Tryz.prog 130 [.string s] (.bool false):=⟨fun w=>by
 refine calls_of_W Tryz.func130 rfl rfl ?_
 repeat first|refine byW ?_|refine byV ?_;intro w hw
 exact⟨_,rfl,ret_b rfl (by simp),rfl⟩⟩
instance pc_isNaNi(s:Int):PC Tryz.prog 131 [.int .i64 s] (.bool false):=⟨fun w=>by
 refine calls_of_W Tryz.func131 rfl rfl ?_
 repeat first|refine byW ?_|refine byV ?_;intro w hw
 exact⟨_,rfl,ret_b rfl (by simp),rfl⟩⟩
instance pc_isNaNl(s:Int):PC Tryz.prog 170 [.int .i64 s] (.bool false):=⟨fun w=>by
 refine calls_of_W Tryz.func170 rfl rfl ?_
 repeat first|refine byW ?_|refine byV ?_;intro w hw
 exact⟨_,rfl,ret_b rfl (by simp),rfl⟩⟩
instance pc_cmps(a b:ByteArray):PC Tryz.prog 67 [.string a,.string b] (.int .i64 (cB a b)):=⟨fun w=>by
 refine calls_of_W Tryz.func67 rfl rfl ?_
 repeat first|refine byW ?_|refine byV ?_;intro w hw
 refine W_cond_false rfl ?_
 repeat first|refine byW ?_|refine byV ?_;intro w hw
 refine W_cond_false rfl ?_
 repeat first|refine byW ?_|refine byV ?_;intro w hw
 refine W_cond rfl (fun h=>?_) (fun h=>?_)
 ·repeat first|refine byW ?_|refine byV ?_;intro w hw
  exact⟨_,rfl,ret_i rfl (by simp[cB,h]),rfl⟩
 repeat first|refine byW ?_|refine byV ?_;intro w hw
 refine W_cond rfl (fun h2=>?_) (fun h2=>?_)
 ·repeat first|refine byW ?_|refine byV ?_;intro w hw
  exact⟨_,rfl,ret_i rfl (by simp[cB,h,h2]),rfl⟩
 ·repeat first|refine byW ?_|refine byV ?_;intro w hw
  exact⟨_,rfl,ret_i rfl (by simp[cB,h,h2]),rfl⟩⟩
instance pc_cmpi(a b:Int):PC Tryz.prog 68 [.int .i64 a,.int .i64 b] (.int .i64 (cI a b)):=⟨fun w=>by
 refine calls_of_W Tryz.func68 rfl rfl ?_
 refine byG ?_;refine W_cond_false rfl ?_
 refine byG ?_;refine W_cond_false rfl ?_
 refine byG ?_;refine W_cond rfl (fun h=>?_) (fun h=>?_)
 ·refine byG ?_;exact⟨_,rfl,ret_i rfl (by simp at h;simp[cI,h]),rfl⟩
 refine byG ?_;refine W_cond rfl (fun h2=>?_) (fun h2=>?_)
 ·refine byG ?_;exact⟨_,rfl,ret_i rfl (by simp at h h2;unfold cI;rw[if_neg (by omega),if_pos h2]),rfl⟩
 ·refine byG ?_;exact⟨_,rfl,ret_i rfl (by simp at h h2;unfold cI;rw[if_neg (by omega),if_neg (by omega)]),rfl⟩⟩
instance pc_cmpl(a b:Int):PC Tryz.prog 132 [.int .i64 a,.int .i64 b] (.int .i64 (cI a b)):=⟨fun w=>by
 refine calls_of_W Tryz.func132 rfl rfl ?_
 repeat first|refine byW ?_|refine byV ?_;intro w hw
 refine W_cond_false rfl ?_
 repeat first|refine byW ?_|refine byV ?_;intro w hw
 refine W_cond_false rfl ?_
 repeat first|refine byW ?_|refine byV ?_;intro w hw
 refine W_cond rfl (fun h=>?_) (fun h=>?_)
 ·repeat first|refine byW ?_|refine byV ?_;intro w hw
  exact⟨_,rfl,ret_i rfl (by simp at h;simp[cI,h]),rfl⟩
 repeat first|refine byW ?_|refine byV ?_;intro w hw
 refine W_cond rfl (fun h2=>?_) (fun h2=>?_)
 ·repeat first|refine byW ?_|refine byV ?_;intro w hw
  exact⟨_,rfl,ret_i rfl (by simp at h h2;unfold cI;rw[if_neg (by omega),if_pos h2]),rfl⟩
 ·repeat first|refine byW ?_|refine byV ?_;intro w hw
  exact⟨_,rfl,ret_i rfl (by simp at h h2;unfold cI;rw[if_neg (by omega),if_neg (by omega)]),rfl⟩⟩
theorem orI_pos{x y:Int}(h:¬x=0):orI x y=x:=by unfold orI;rw[if_neg h]
theorem orI_null{x y:Int}(h:x=0):orI x y=y:=by unfold orI;rw[if_pos h]
theorem drop_none{α:Type}(l:List α){k:Nat}(h:l.length≤k):l.drop k=[]:=List.drop_eq_nil_of_le h
theorem drop_get{α:Type}{l:List α}{k:Nat}{x:α}(h:l[k]? = some x):l.drop k=x::l.drop (k+1):=by
 obtain⟨h1,h2⟩:=List.getElem?_eq_some_iff.1 h
 rw[←h2];exact List.drop_eq_getElem_cons h1
def orL:List Int→Int
 | []=>0
 | x::l=>orI x (orL l)
theorem orI_r(x:Int):orI x 0=x:=by unfold orI;split <;> simp[*]
theorem Or_any{Γ:Gho}{S:List Res}{w:World}{v:Value}(xs:List Int)(hw:Wd Γ S w)(hr:RdS Γ S v 1 (xs.map fun x=>[.int .i64 x])) :
  Calls Tryz.prog 66 #[v] w fun e w'=>e=.returned (.int .i64 (orL xs))∧Wd Γ S w':=by
 obtain⟨a,n,c,rfl,hn,hnc,hc⟩:=hr.shape;simp only[List.length_map]at hn
 refine calls_of_W Tryz.func66 rfl rfl ?_
 repeat first|refine byW ?_|refine byV ?_;intro w hw
 refine W_loop (fun μ ρ w=>∃(k:Nat),μ+k=n∧Has ρ [(3,.int .i64 0),(6,.slice a n c),(7,.int .i64 n),(8,.int .i64 k)]∧orL xs=orL (xs.drop k)∧Wd Γ S w) n ⟨0,by omega,⟨rfl,rfl,rfl,rfl,trivial⟩,rfl,hw⟩ ?_
 clear hw;rintro μ ρ w ⟨k,hk,hρ,ho,hw⟩
 rw[hρ.eq];repeat first|refine byW ?_|refine byV ?_;intro w hw
 refine W_cond rfl (fun h=>?_) (fun h=>?_)
 ·have hkn:k<n:=by simpa using h
  obtain⟨x,hx⟩:=get_lt (l:=xs) (k:=k) (by omega)
  have hd:xs.drop k=x::xs.drop (k+1):=by
   obtain⟨h1,h2⟩:=List.getElem?_eq_some_iff.1 hx
   rw[←h2];exact(List.drop_eq_getElem_cons h1)
  rw[hd]at ho;repeat first|refine byW ?_|refine byV ?_;intro w hw
  refine W_cond rfl (fun h2=>?_) (fun h2=>?_)
  ·repeat first|refine byW ?_|refine byV ?_;intro w hw
   have h2:¬x=0:=by simpa using h2
   refine⟨_,rfl,ret_i rfl ?_,hw⟩
   rw[ho];unfold orL orI;rw[if_neg h2]
  ·repeat first|refine byW ?_|refine byV ?_;intro w hw
   have h2:x=0:=by simpa using h2
   refine⟨μ-1,by omega,k+1,by omega,⟨rfl,rfl,rfl,rfl,trivial⟩,?_,hw⟩
   rw[ho];show orI x _=_;unfold orI;rw[if_pos h2]
 ·have hkn:¬k<n:=by simpa using h
  repeat first|refine byW ?_|refine byV ?_;intro w hw
  refine⟨_,rfl,ret_i rfl ?_,hw⟩
  rw[ho,List.drop_eq_nil_of_le (by omega)];rfl
end Go.Proofs.YtfoggcgogafocaaGreatDoor
end
section
open Go
namespace Mk
section
variable {P:Program}{n:Nat}{opa:Array Oper}{Γ:Gho}{S:List Res}{QQ:Exit→Fr→World→Prop}{K:Value→World→Prop}{ρ:Fr}{w:World}{rest:List Oper}{sz:Nat}{rows:List (List Value)}
variable {d:Option Tmp}{T U ty:TypeId}{pos:String}{es:Array Edge}{g:Option (Nat×Bool)}{x y z:Operand}{v:Value}
theorem field_set{L r:List Value}{p f m sz N:Nat}(hp:p+sz≤N)(hN:N≤L.length)(hr:r.length=m)(hfm:f+m≤sz) :
  (L.take (p+f)++r++L.drop (p+f+r.length)).take N=(L.take N).take p++(((L.drop p).take sz).take f++r++((L.drop p).take sz).drop (f+m))++(L.take N).drop (p+sz):=by
 refine List.ext_getElem? fun i=>?_
 simp only[List.getElem?_append,List.getElem?_take,List.getElem?_drop,List.length_append,List.length_take,List.length_drop,hr]
 repeat' split
 all_goals first|omega|rfl|(congr 1;omega)|skip
theorem s_storeEf{E k f m i n c:Nat}{a:Option Addr}{v:Value}{r row:List Value}(hn:(P.info? T).map (·.size)=some m)(hw:Wd Γ S w)(hx:ev ρ x=.pointer (some ⟨aB a,aO a+k*sz+f,none⟩))(hy:ev ρ y=v)(hv:v.cells.toList=r)(hl:r.length=m)
  (h1:r.all (·.oneCell')=true) (hi:S[i]? = some (.own (.slice a n c) E sz rows)) (hkl:k<n) (hrow:rows[k]? = some row) (hfm:f+m≤sz) (hk:∀w',Wd Γ (S.set i (.own (.slice a n c) E sz (rows.set k (row.take f++r++row.drop (f+m))))) w'→K undef w'):Step P ⟨d,.store T x y,ty,pos,es,g⟩ ρ w K:=by
 obtain⟨bs0,hr0⟩:=hw.own_holds hi
 unfold Res.own at hr0;obtain⟨q0,a',n',c',e1,e2,e3,e4,e5⟩:=hr0;cases e1
 rcases e5 with⟨hc,_⟩|⟨b,cur,g1,g2,g3,g4,g5⟩
 ·omega
 ·subst g1;have hrl:row.length=sz:=q0 row (List.mem_of_getElem? hrow)
  have hnew:(row.take f++r++row.drop (f+m)).length=sz:=by simp[hl,hrl];omega
  have hx':ev ρ x=.pointer (some ⟨b,k*sz+f,none⟩):=by rw[hx];simp[aB,aO]
  have hks:k*sz+sz≤cur.size:=by
   rw[g4,show k*sz+sz=(k+1)*sz from by rw[Nat.add_mul];omega];exact Nat.mul_le_mul_right _ (by omega)
  have hfit:k*sz+f+0+r.length≤cur.size:=by rw[hl];omega
  have hst:=run_storeCells_at P b (k*sz+f) E r 0 cur w g3 hfit (fun u hu=>(List.all_eq_true.1 h1) u hu)
  simp only[Nat.add_zero]at hst
  have hsz:v.cells.size=m:=by rw[←hl,←hv];simp
  have hr:(execOp (ev ρ) ⟨d,.store T x y,ty,pos,es,g⟩).run P w=.ok .skip (w.setRow b (cur.toList.take (k*sz+f)++r++cur.toList.drop (k*sz+f+r.length)).toArray):=by
   cases hq:P.info? T with
   | none=>simp[hq]at hn
   | some q=>
    have hs:q.size=m:=by simpa[hq] using hn
    have hz:(Go.sizeOf T).run P w=.ok m w:=by simp[Go.sizeOf,typeInfo,hq,hs]
    have hsv:(storeVar T ⟨b,k*sz+f,none⟩ v).run P w=.ok () (w.setRow b (cur.toList.take (k*sz+f)++r++cur.toList.drop (k*sz+f+r.length)).toArray):=by
     unfold storeVar;rw[Sem.run_bind,hz];simp only[Result.andThen_ok,hsz,ne_eq,not_true_eq_false,if_false,hv]
     exact hst
    simp only[execOp,hx',hy,Instr.storeAt,Instr.sureAddr,Sem.run_bind,Sem.run_pure,Result.andThen_ok,hsv]
  have hfin:=hk _ (hw.upd hi (w':=w.setRow b (cur.toList.take (k*sz+f)++r++cur.toList.drop (k*sz+f+r.length)).toArray) ⟨rfl,rfl,rfl,(by first|exact Nat.le_refl _|exact Nat.le_succ _),by simp⟩ fun bs hr' hnd hlt=>by
   unfold Res.own at hr' ⊢
   obtain⟨q0',a2,n2,c2,f1,f2,f3,f4,f5⟩:=hr';cases f1
   rcases f5 with⟨hc,_⟩|⟨b2,cur2,k1,k2,k3,k4,k5⟩
   ·omega
   ·cases k1
    rw[show hp w b=some (.cells cur E (0,0)) from g3]at k3;cases k3
    refine⟨bs,⟨?_,_,_,_,rfl,by simpa using f2,f3,f4,.inr ⟨b,_,rfl,k2,setRow_heap w b cur _ E _ g3,?_,?_⟩⟩,hnd,fun x hx=>⟨by have:=hlt x hx;simpa using this,.inl hx⟩,fun k' _ hne=>setRow_other w b k' _ (fun e=>hne (by simp[k2,e]))⟩
    ·intro r' hr';rcases List.mem_or_eq_of_mem_set hr' with h|rfl
     ·exact q0 r' h
     ·exact hnew
    ·simp only[List.size_toArray,List.length_append,List.length_take,List.length_drop,Array.length_toList];omega
    ·have hkn:k*sz+sz≤n*sz:=by rw[show k*sz+sz=(k+1)*sz from by rw[Nat.add_mul];omega];exact Nat.mul_le_mul_right _ (by omega)
     have hns:n*sz≤cur.toList.length:=by rw[Array.length_toList,g4];exact Nat.mul_le_mul_right _ e3
     have e0:=rows_set_flatten (k:=k) (r:=row) q0 hrl (by omega)
     have e9:rows.set k row=rows:=by
      refine List.ext_getElem? fun i=>?_
      rw[List.getElem?_set];split
      ·rename_i h;subst h;rw[hrow];simp;omega
      ·rfl
     rw[e9]at e0;rw[rows_set_flatten q0 hnew (by omega),←g5]
     have hrw:row=(cur.toList.drop (k*sz)).take sz:=by
      have:row=((cur.toList.take (n*sz)).drop (k*sz)).take sz:=by
       rw[g5,e0,List.append_assoc,List.drop_append_of_le_length (by rw[List.length_take,←g5,List.length_take];omega)]
       have:((rows.flatten.take (k*sz)).drop (k*sz))=[]:=by rw[List.drop_eq_nil_iff,List.length_take];omega
       rw[this,List.nil_append,List.take_append_of_le_length (by omega),List.take_of_length_le (by omega)]
      rw[this,List.drop_take,List.take_take,Nat.min_eq_left (by omega)]
     rw[hrw];exact field_set hkn hns hl hfm
    )
  unfold Step;rw[hr];exact hfin
theorem lStoreEf{E k f i m mm c sz:Nat}{a:Option Addr}{r row:List Value}{rows:List (List Value)}[hn:TSz P T m](h:∀w',Wd Γ (S.set i (.own (.slice a mm c) E sz (rows.set k (row.take f++r++row.drop (f+m))))) w'→L P n opa QQ rest ρ w')(hrow:rows[k]? = some row)(hw:Wd Γ S w:=by exact hw)(hx:ev ρ x=.pointer (some ⟨aB a,aO a+k*sz+f,none⟩):=by exact rfl)
  (hy:ev ρ y=v:=by exact byMV) (hv:v.cells.toList=r:=by exact rfl) (hl:r.length=m:=by exact rfl) (h1:r.all (·.oneCell')=true:=by exact rfl) (hi:S[i]? = some (.own (.slice a mm c) E sz rows):=by exact byIX) (hk:k<mm:=by omega) (hfm:f+m≤sz:=by omega) :
  L P n opa QQ (⟨none,.store T x y,ty,pos,es,none⟩::rest) ρ w:=L_step rfl rfl (s_storeEf hn.h hw hx hy hv hl h1 hi hk hrow hfm h)
end
attribute [local irreducible] Calls
theorem W_cutB{P:Program}{n id:Nat}{c:Code}{K:Fr→World→Prop}{Q:Exit→Fr→World→Prop}{ρ:Fr}{w:World}(I:Fr→World→Prop)(h1:W P n c (InBl id (Then I Q)) ρ w)(h2:∀ρ w,I ρ w→K ρ w):W P n c (InBl id (Then K Q)) ρ w:=
 h1.mono fun e ρ w h=>by
  cases e with
  | normal=>exact h2 ρ w h
  | exit i=>
   simp only[InBl]at h ⊢
   split <;> rename_i hi <;> simp only[hi,if_true,if_false]at h
   ·exact h2 ρ w h
   ·exact h
  | _=>exact h
theorem W_cutT{P:Program}{n:Nat}{c:Code}{K:Fr→World→Prop}{Q:Exit→Fr→World→Prop}{ρ:Fr}{w:World}(I:Fr→World→Prop)(h1:W P n c (Then I Q) ρ w)(h2:∀ρ w,I ρ w→K ρ w):W P n c (Then K Q) ρ w:=
 h1.mono fun e ρ w h=>by
  cases e with
  | normal=>exact h2 ρ w h
  | _=>exact h
section
variable {P:Program}{n:Nat}{ops:List Oper}{Γ:Gho}{K:List Res}{wr tc stab:List (List Nat)}{Q:Fr→World→Prop}{i:Nat}{rest:List Oper}{ρ:Fr}{w:World}{M:Nat→Fr→List Res}{v:Value}{T T':Type}{o:Oper}
variable {ty:TypeId}{pos:String}{es:Array Edge}
theorem ml1{a b d:Fr→List Res}:ML [a,b,d] 1=b:=rfl
theorem ml2{a b d:Fr→List Res}:ML [a,b,d] 2=d:=rfl
theorem exC_open{φ:T→Fr→Prop}{R:T→List Res}{g:Fr}{Z:List Res}(h:Wd Γ (exC φ R g++Z) w):∃t,φ t g∧Wd Γ (R t++Z) w:=by
 obtain⟨⟨t,ht⟩,hw⟩:=Wd.openEx (S:=Z) h
 exact⟨t,ht,hw⟩
theorem exC_mk{φ:T→Fr→Prop}{R:T→List Res}{g:Fr}{Z:List Res}(t:T)(ht:φ t g)(h:Wd Γ (R t++Z) w):Wd Γ (exC φ R g++Z) w:=
 Wd.closeEx (X:=fun p:{t:T // φ t g}=>R p.1) ⟨t,ht⟩ h
theorem mM2{c c2:Nat}(m m2:Fr→List Res)(hs:∀Y w g,Wd Γ (K++(cellsAt tc stab i M g++Y)) w→Step P o (ovr stab.flatten g ρ) w fun u w'=>Wd Γ (K++(cellsAt tc stab i (setC (setC M c m) c2 m2) (putO g o.dst u)++Y)) w'∧(freeD stab o.dst=false→u=v))
  (h:MSw (mV P n ops Γ K wr tc stab) Q (i+1) rest ⟨putO ρ o.dst v,setC (setC M c m) c2 m2⟩) (hw0:wr.getD i []=[c,c2]) (hg:o.guard=none):MSw (mV P n ops Γ K wr tc stab) Q i (o::rest) ⟨ρ,M⟩:=by
 have hn:Mt.nxt (mV P n ops Γ K wr tc stab) i ⟨ρ,M⟩ ⟨v,setC (setC M c m) c2 m2⟩=setC (setC M c m) c2 m2:=by
  funext y
  simp only[Mt.nxt,MEnv.w,hw0]
  unfold setC;by_cases h1:y=c <;> by_cases h2:y=c2 <;> simp[h1,h2]
 refine⟨⟨v,setC (setC M c m) c2 m2⟩,⟨fun Γ' Y w g hr hw=>?_⟩,?_⟩
 ·have hΓ:Γ'=Γ:=hr
  subst hΓ;rw[hn];refine⟨fun _=>(hs Y w g hw).mono fun u w' ⟨h1,h2⟩=>⟨Γ',rfl,h1,h2⟩,fun hf=>?_⟩
  rw[wantF_none hg]at hf;cases hf
 ·simp only[Mt.next,hn];exact h
theorem mS{c:Nat}{F:Fr→List Res}(F':Fr→List Res)
  (hs:∀g w Y,Wd Γ (F (ovr (stab.getD c []) g noFr)++(K++Y)) w→Step P o (ovr stab.flatten g ρ) w fun u w'=>(freeD stab o.dst=false→u=v)∧Wd Γ (F' (ovr (stab.getD c []) (putO g o.dst u) noFr)++(K++Y)) w')
  (h:MSw (mV P n ops Γ K wr tc stab) Q (i+1) rest ⟨putO ρ o.dst v,setC M c F'⟩) (hM:M c=F:=by first|exact setC_self|exact ml1|exact ml2|exact((setC_other (by decide)).trans setC_self)|exact((setC_other (by decide)).trans ml2)|exact((setC_other (by decide)).trans ((setC_other (by decide)).trans ml2))|exact((setC_other (by decide)).trans ((setC_other (by decide)).trans ((setC_other (by decide)).trans ml2)))|exact((setC_other (by decide)).trans ((setC_other (by decide)).trans setC_self))|exact rfl) (hw0:wr.getD i []=[c]:=by exact rfl) (ht:tc.getD i []=[c]:=by exact rfl) (hg:o.guard=none:=by exact rfl) :
  MSw (mV P n ops Γ K wr tc stab) Q i (o::rest) ⟨ρ,M⟩:=by
 refine mM _ (fun Y w g hw=>?_) h hw0 hg
 rw[cells1 ht,hM]at hw;refine(hs g w Y hw.swapApp).mono ?_
 rintro u w' ⟨h2,h3⟩
 refine⟨?_,h2⟩
 rw[cells1 ht,setC_self];exact h3.swapApp
theorem mS2{c c2:Nat}{F G:Fr→List Res}(F' G':Fr→List Res)
  (hs:∀g w Y,Wd Γ (F (ovr (stab.getD c []) g noFr)++(G (ovr (stab.getD c2 []) g noFr)++(K++Y))) w→Step P o (ovr stab.flatten g ρ) w fun u w'=>(freeD stab o.dst=false→u=v)∧Wd Γ (F' (ovr (stab.getD c []) (putO g o.dst u) noFr)++(G' (ovr (stab.getD c2 []) (putO g o.dst u) noFr)++(K++Y))) w')
  (h:MSw (mV P n ops Γ K wr tc stab) Q (i+1) rest ⟨putO ρ o.dst v,setC (setC M c F') c2 G'⟩) (hM:M c=F:=by first|exact setC_self|exact ml1|exact ml2|exact((setC_other (by decide)).trans setC_self)|exact((setC_other (by decide)).trans ml2)|exact((setC_other (by decide)).trans ((setC_other (by decide)).trans ml2))|exact((setC_other (by decide)).trans ((setC_other (by decide)).trans ((setC_other (by decide)).trans ml2)))|exact((setC_other (by decide)).trans ((setC_other (by decide)).trans setC_self))|exact rfl) (hM2:M c2=G:=by first|exact setC_self|exact ml1|exact ml2|exact((setC_other (by decide)).trans setC_self)|exact((setC_other (by decide)).trans ml2)|exact((setC_other (by decide)).trans ((setC_other (by decide)).trans ml2))|exact((setC_other (by decide)).trans ((setC_other (by decide)).trans ((setC_other (by decide)).trans ml2)))|exact((setC_other (by decide)).trans ((setC_other (by decide)).trans setC_self))|exact rfl) (hw0:wr.getD i []=[c,c2]:=by exact rfl) (ht:tc.getD i []=[c,c2]:=by exact rfl) (hcc:Nat.beq c c2=false:=by exact rfl) (hg:o.guard=none:=by exact rfl) :
  MSw (mV P n ops Γ K wr tc stab) Q i (o::rest) ⟨ρ,M⟩:=by
 have hne:c≠c2:=fun e=>by subst e;simp at hcc
 refine mM2 _ _ (fun Y w g hw=>?_) h hw0 hg
 rw[cells2 ht,hM,hM2]at hw;have hw1:=(hw.perm (by rw[List.append_assoc];exact(List.perm_append_comm_assoc _ _ _).trans (List.Perm.append_left _ (List.perm_append_comm_assoc _ _ _)))  : Wd Γ (F (ovr (stab.getD c []) g noFr)++(G (ovr (stab.getD c2 []) g noFr)++(K++Y))) w)
 refine(hs g w Y hw1).mono ?_
 rintro u w' ⟨h2,h3⟩
 refine⟨?_,h2⟩
 rw[cells2 ht,setC_self,setC_other hne,setC_self];exact h3.perm (by rw[List.append_assoc];exact((List.perm_append_comm_assoc _ _ _).trans (List.Perm.append_left _ (List.perm_append_comm_assoc _ _ _))).symm)
end
class PS(P:Program)(Γ:Gho)(S:List Res)(f:Nat)(args:List Value)(v:outParam Value):Prop where
 h:∀Y w,Wd Γ (S++Y) w→Calls P f args.toArray w fun e w'=>e=.returned v∧Wd Γ (S++Y) w'
section
variable {P:Program}{n:Nat}{ops:List Oper}{opa:Array Oper}{Γ:Gho}{S K:List Res}{Q:Fr→World→Prop}{QQ:Exit→Fr→World→Prop}{ρ:Fr}{w:World}{rest:List Oper}{wr tc stab:List (List Nat)}{i:Nat}{M:Nat→Fr→List Res}
variable {d:Option Tmp}{ty:TypeId}{pos:String}{es:Array Edge}{v:Value}{f:Nat}{args:List Operand}{tys:Array TypeId}{vs:List Value}{j dj:Nat}{want c:Bool}{g:Option (Nat×Bool)}
theorem s_ps{Y:List Res}[FnOk P f](hp:PS P Γ S f vs v)(ha:EvL ρ args vs)(hw:Wd Γ (S++Y) w):Step P ⟨d,.call { callee:=.value (.func f),args:=args.toArray,argTypes:=tys },ty,pos,es,g⟩ ρ w fun u w'=>u=v∧Wd Γ (S++Y) w':=
 s_call ha.eqA ((hp.h Y w hw).mono fun _ _ ⟨h1,h2⟩=>⟨v,h1,rfl,h2⟩)
theorem lPs[FnOk P f](h:∀w',Wd Γ S w'→L P n opa QQ rest (putO ρ d v) w')(hw:Wd Γ S w:=by exact hw)(ha:EvL ρ args vs:=by exact byEV)(hd:okDst n d=true:=by exact rfl)(hp:PS P Γ S f vs v:=by infer_instance) :
  L P n opa QQ (⟨d,.call { callee:=.value (.func f),args:=args.toArray,argTypes:=tys },ty,pos,es,none⟩::rest) ρ w:=
 L_step rfl hd ((s_ps (Y:=[]) hp ha (by rw[List.append_nil];exact hw)).mono fun _ w' ⟨h1,h2⟩=>by subst h1;rw[List.append_nil]at h2;exact h w' h2)
theorem lPsG[FnOk P f](h:∀w',Wd Γ S w'→L P n opa QQ rest (putO ρ d (gv c v)) w')(hw:Wd Γ S w:=by exact hw)(hj:(opa[j]?).bind (·.dst)=some dj:=by exact rfl)(hjn:okDst n (some dj)=true:=by exact rfl)(hc:GuardIs (ρ dj) want c:=by exact byGC)(hd:okDst n d=true:=by exact rfl)(ha:c=true→EvL ρ args vs:=by intro hc;exact byEVG)(hp:PS P Γ S f vs v:=by infer_instance) :
  L P n opa QQ (⟨d,.call { callee:=.value (.func f),args:=args.toArray,argTypes:=tys },ty,pos,es,some (j,want)⟩::rest) ρ w:=
 lGC hj hjn hd hc (fun hct=>lPs (fun w' hw'=>by have:=h w' hw';rwa [gvT hct rfl]at this) hw (ha hct) hd hp) (fun hcf=>by have:=h w hw;rwa [show gv c v=undef from by rw[hcf];unfold gv;rfl]at this)
end
end Mk
end
