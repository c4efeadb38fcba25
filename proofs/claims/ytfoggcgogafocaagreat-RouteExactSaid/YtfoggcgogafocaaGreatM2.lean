/- Texts of this proof, one behind another. -/
import Derived.Test.YtfoggcgogafocaaGreatM1
import Derived.RangeFuncRecord
import Derived.Maps.RangeRun
import Derived.Shelf.SlSortCmp.NoneTotal
import Derived.Shelf.SlMaps.Clone
import Derived.Defers
import Derived.Recover
import Derived.WalkSmall
import Derived.Scope
import Derived.Test.YtfoggcgogafocaaGreatChecked
import Derived.Laws.Externs
import Derived.Lib.Bytealg
set_option linter.unusedVariables false
set_option linter.unusedSimpArgs false
section
open Go
namespace Mk
def ovr:List Nat→Fr→Fr→Fr
 | [],_,ρ=>ρ
 | d::N,g,ρ=>upd (ovr N g ρ) d (g d)
theorem ovr_in{d:Nat}{g ρ:Fr}:∀ {N:List Nat},d∈N→ovr N g ρ d=g d
 | e::N,h=>by
  by_cases he:d=e
  ·subst he;exact upd_same _ _ _
  ·exact(upd_ne _ _ he).trans (ovr_in ((List.mem_cons.1 h).resolve_left he))
theorem ovr_out{d:Nat}{g ρ:Fr}:∀ {N:List Nat},d∉N→ovr N g ρ d=ρ d
 | [],_=>rfl
 | e::N,h=>(upd_ne _ _ (fun he=>h (by simp[he]))).trans (ovr_out fun hm=>h (by simp[hm]))
def noFr:Fr:=fun _=>undef
structure Mt where
 ρ:Fr
 M:Nat→Fr→List Res
structure Mc where
 x:Value
 m:Nat→Fr→List Res
structure MEnv where
 P:Program
 n:Nat
 ops:List Oper
 Γ:Gho
 K:List Res
 wr:List (List Nat)
 tc:List (List Nat)
 stab:List (List Nat)
 fixed:Bool
section
variable (V:MEnv)
def MEnv.w(i:Nat):List Nat:=V.wr.getD i []
def MEnv.t(i:Nat):List Nat:=V.tc.getD i []
def MEnv.s(x:Nat):List Nat:=V.stab.getD x []
def MEnv.N:List Nat:=V.stab.flatten
def MEnv.free(o:Oper):Bool:=match o.dst with|some d=>V.N.contains d|none=>true
def MEnv.rl(Γ Γ':Gho):Prop:=match V.fixed with|true=>Γ'=Γ|false=>Γ.le Γ'
def cellsOf(l:List Nat)(M:Nat→Fr→List Res)(g:Fr):List Res:=l.flatMap fun x=>M x (ovr (V.s x) g noFr)
def Mt.nxt(i:Nat)(st:Mt)(c:Mc):Nat→Fr→List Res:=fun x=>bif (V.w i).contains x then c.m x else st.M x
def Mt.next(i:Nat)(st:Mt)(o:Oper)(c:Mc):Mt:=⟨putO st.ρ o.dst c.x,Mt.nxt V i st c⟩
structure MGood(i:Nat)(o:Oper)(st:Mt)(c:Mc):Prop where
 run:∀Γ' Y w g,V.rl V.Γ Γ'→Wd Γ' (V.K++(cellsOf V (V.t i) st.M g++Y)) w →
  (wantF V.ops o (ovr V.N g st.ρ)=true→Step V.P o (ovr V.N g st.ρ) w fun v w'=>∃Γ'',V.rl Γ' Γ''∧Wd Γ'' (V.K++(cellsOf V (V.t i) (Mt.nxt V i st c) (putO g o.dst v)++Y)) w'∧(V.free o=false→v=c.x)) ∧
  (wantF V.ops o (ovr V.N g st.ρ)=false→Wd Γ' (V.K++(cellsOf V (V.t i) (Mt.nxt V i st c) (putO g o.dst undef)++Y)) w∧(V.free o=false→undef=c.x))
def MFinal(Q:Fr→World→Prop)(st:Mt):Prop:=∀Γ' w g,V.rl V.Γ Γ'→Wd Γ' (V.K++cellsOf V (List.range V.stab.length) st.M g) w→Q (ovr V.N g st.ρ) w
def MSw(Q:Fr→World→Prop):Nat→List Oper→Mt→Prop
 | _,[],st=>MFinal V Q st
 | i,o::l,st=>∃c,MGood V i o st c∧MSw Q (i+1) l (Mt.next V i st o c)
end
def clash(wr tc:List (List Nat))(i j:Nat):Bool:=(wr.getD i []).any (fun x=>(tc.getD j []).contains x)||(wr.getD j []).any fun x=>(tc.getD i []).contains x
def dup:List Nat→Bool
 | []=>false
 | x::l=>l.contains x||dup l
def checkM(n:Nat)(ops:List Oper)(wr tc stab:List (List Nat)):Bool:=
  let A:=ancs [] ops
  (List.range ops.length).all fun j=>match ops[j]? with
    | none=>true
    | some oj=>(oj.after.toList.all fun e=>!Region.binds .any e||Nat.blt e.on j)&&checkR.okNoSel oj&&(match oj.guard with|some (g,_)=>((ops[g]?).bind (·.dst)).isSome|none=>true)&&okDst n oj.dst &&
      ((wr.getD j []).all fun x=>(tc.getD j []).contains x)&&((tc.getD j []).all fun x=>Nat.blt x stab.length) && !dup (tc.getD j []) &&
      (match oj.dst with|some d=>(List.range stab.length).all fun x=>!((stab.getD x []).contains d)||(wr.getD j []).contains x|none=>true) &&
      ((List.range j).all fun i=>match ops[i]? with
        | none=>true
        | some oi=>(apartR ops oi oj && !clash wr tc i j)||(A.getD j []).contains i)
def MChain(V:MEnv)(Q:Fr→World→Prop):Nat→List Oper→List Mc→Mt→Prop
 | _,[],[],st=>MFinal V Q st
 | i,o::l,c::cs,st=>MGood V i o st c∧MChain V Q (i+1) l cs (Mt.next V i st o c)
 | _,_,_,_=>False
theorem MSw.chain{V:MEnv}{Q:Fr→World→Prop}:∀(l:List Oper) (i:Nat) (st:Mt),MSw V Q i l st→∃cs,MChain V Q i l cs st
 | [],_,_,h=>⟨[],h⟩
 | _::l,i,st,⟨c,hg,h⟩=>by
  obtain⟨cs,hc⟩:=MSw.chain l (i+1) _ h
  exact⟨c::cs,hg,hc⟩
def mstL(V:MEnv):List Oper→List Mc→Nat→Mt→Nat→Mt
 | o::l,c::cs,i,st,k+1=>mstL V l cs (i+1) (Mt.next V i st o c) k
 | _,_,_,st,_=>st
section
variable {V:MEnv}{Q:Fr→World→Prop}
theorem MEnv.rl_refl(Γ:Gho):V.rl Γ Γ:=by unfold MEnv.rl;cases V.fixed <;> first|rfl|exact Gho.le.refl _
theorem MEnv.rl_trans{a b c:Gho}(h:V.rl a b)(k:V.rl b c):V.rl a c:=by
 unfold MEnv.rl at *;cases hf:V.fixed <;> simp only[hf] at * <;> first|exact k.trans h|exact Gho.le.trans h k
theorem MChain.good:∀ {l:List Oper} {i:Nat} {cs:List Mc} {st:Mt} (k:Nat) {o:Oper},MChain V Q i l cs st→l[k]? = some o→∃c,cs[k]? = some c∧MGood V (i+k) o (mstL V l cs i st k) c
 | o'::l,i,c::cs,st,0,o,h,ho=>by
  simp at ho;subst ho
  exact⟨c,rfl,h.1⟩
 | o'::l,i,c::cs,st,k+1,o,h,ho=>by
  obtain⟨c',h1,h2⟩:=MChain.good k h.2 (by simpa using ho)
  refine⟨c',by simpa using h1,?_⟩
  rw[show i+(k+1)=i+1+k from by omega]
  exact h2
 | [],_,_,_,_,_,_,ho=>by simp at ho
 | _::_,_,[],_,_,_,h,_=>h.elim
theorem MChain.final:∀ {l:List Oper} {i:Nat} {cs:List Mc} {st:Mt},MChain V Q i l cs st→MFinal V Q (mstL V l cs i st l.length)
 | [],_,[],_,h=>h
 | o::l,i,c::cs,st,h=>by
  have:=MChain.final (l:=l) (cs:=cs) h.2
  simpa[mstL] using this
 | [],_,_::_,_,h=>h.elim
 | _::_,_,[],_,h=>h.elim
theorem mstL_succ:∀ {l:List Oper} {cs:List Mc} {i:Nat} {st:Mt} {k:Nat} {o:Oper} {c:Mc},l[k]? = some o→cs[k]? = some c→mstL V l cs i st (k+1)=Mt.next V (i+k) (mstL V l cs i st k) o c
 | o'::l,c'::cs,i,st,0,o,c,ho,hc=>by
  simp at ho hc;subst ho;subst hc
  cases l <;> cases cs <;> rfl
 | o'::l,c'::cs,i,st,k+1,o,c,ho,hc=>by
  have:=mstL_succ (l:=l) (cs:=cs) (i:=i+1) (st:=Mt.next V i st o' c') (k:=k) (by simpa using ho) (by simpa using hc)
  rw[show i+(k+1)=i+1+k from by omega]
  exact this
 | [],_,_,_,_,_,_,ho,_=>by simp at ho
 | _::_,[],_,_,_,_,_,_,hc=>by simp at hc
theorem mstL_zero{l:List Oper}{cs:List Mc}{i:Nat}{st:Mt}:mstL V l cs i st 0=st:=by cases l <;> cases cs <;> rfl
structure MInv(V:MEnv)(st0:Mt)(cs:List Mc)(listed:Array Bool)(a:Act)(w:World)(done:List Nat)(Γ':Gho):Prop where
 defers:a.defers=[]
 size:a.tmps.size=V.n
 lsz:listed.size=V.ops.length
 nd:done.Nodup
 lt:∀i∈done,i<V.ops.length
 ls:∀i,i<V.ops.length→(listed.getD i true=true↔i∈done)
 cl:Closed V.ops (·∈done)
 le:V.rl V.Γ Γ'
 init:∀t,t∉V.N→(∀i∈done,∀o,V.ops[i]? = some o→o.dst≠some t)→fnOf a t=st0.ρ t
 last:∀i∈done,∀o t c,V.ops[i]? = some o→o.dst=some t→t∉V.N→cs[i]? = some c→(∀j∈done,∀o',V.ops[j]? = some o'→o'.dst=some t→j≤i)→fnOf a t=c.x
 wd:∃p:Nat→Nat,(∀x,p x≤V.ops.length∧∀i,x∈V.w i→i<V.ops.length→(i∈done↔i<p x)) ∧
  Wd Γ' (V.K++(List.range V.stab.length).flatMap fun x=>(mstL V V.ops cs 0 st0 (p x)).M x (ovr (V.s x) (fnOf a) noFr)) w
theorem dup_nodup:∀ {l:List Nat},dup l=false→l.Nodup
 | [],_=>List.nodup_nil
 | x::l,h=>by
  simp only[dup,Bool.or_eq_false_iff]at h
  exact List.nodup_cons.2 ⟨by simpa using h.1,dup_nodup h.2⟩
theorem checkM_at{n:Nat}{ops:List Oper}{wr tc stab:List (List Nat)}(h:checkM n ops wr tc stab=true){j:Nat}{oj:Oper}(hj:ops[j]? = some oj) :
  (∀e∈oj.after,Region.binds .any e=true→e.on<j)∧(∀cs b,oj.op≠.select cs b)∧(∀g want,oj.guard=some (g,want)→∃d,(ops[g]?).bind (·.dst)=some d)∧okDst n oj.dst=true ∧
  (∀x∈wr.getD j [],x∈tc.getD j [])∧(∀x∈tc.getD j [],x<stab.length)∧(tc.getD j []).Nodup∧(∀d x,oj.dst=some d→d∈stab.getD x []→x∈wr.getD j []) ∧
  ∀i oi,i<j→ops[i]? = some oi→(apartR ops oi oj=true∧clash wr tc i j=false)∨i∈(ancs [] ops).getD j []:=by
 have hlt:j<ops.length:=(List.getElem?_eq_some_iff.1 hj).1
 unfold checkM at h;simp only[List.all_eq_true,List.mem_range]at h
 have h1:=h j hlt
 simp only[hj,Bool.and_eq_true]at h1
 obtain⟨⟨⟨⟨⟨⟨⟨⟨h2,h3⟩,h4⟩,h6⟩,h7⟩,h8⟩,h9⟩,h10⟩,h5⟩:=h1;refine⟨fun e he hb=>?_,fun c b hs=>?_,fun g want hg=>?_,h6,fun x hx=>?_,fun x hx=>?_,dup_nodup (by simpa using h9),fun d x hd hx=>?_,fun i oi hi ho=>?_⟩
 ·have:=(List.all_eq_true.1 h2) e (by simpa using he)
  rw[hb]at this;simp at this;omega
 ·unfold checkR.okNoSel at h3;rw[hs]at h3;simp at h3
 ·rw[hg]at h4;exact Option.isSome_iff_exists.1 h4
 ·simpa using (List.all_eq_true.1 h7) x hx
 ·exact Nat.le_of_ble_eq_true ((List.all_eq_true.1 h8) x hx)
 ·rw[hd]at h10;by_cases hl:x<stab.length
  ·have:=(List.all_eq_true.1 h10) x (List.mem_range.2 hl)
   simp[hx]at this
   exact(this.resolve_left (fun h=>h hx))
  ·rw[List.getD_eq_getElem?_getD,List.getElem?_eq_none (by omega)]at hx;simp at hx
 ·have:=(List.all_eq_true.1 h5) i (List.mem_range.2 hi)
  simp only[ho,Bool.and_eq_true,Bool.or_eq_true]at this
  exact this.imp (fun h=>⟨h.1,by simpa using h.2⟩) (fun h=>by simpa using h)
theorem clash_w{wr tc:List (List Nat)}{i j x:Nat}(h:clash wr tc i j=false)(h1:x∈wr.getD i [])(h2:x∈tc.getD j []):False:=by
 simp only[clash,Bool.or_eq_false_iff]at h
 have:=List.any_eq_false.1 h.1 x h1
 exact this (by simpa using h2)
theorem clash_t{wr tc:List (List Nat)}{i j x:Nat}(h:clash wr tc i j=false)(h1:x∈tc.getD i [])(h2:x∈wr.getD j []):False:=by
 simp only[clash,Bool.or_eq_false_iff]at h
 have:=List.any_eq_false.1 h.2 x h2
 exact this (by simpa using h1)
section
variable {st0:Mt}{cs:List Mc}{listed:Array Bool}{a:Act}{w:World}{done:List Nat}{Γ':Gho}
theorem mρ_from(hc:MChain V Q 0 V.ops cs st0){t j:Nat}:∀(m:Nat),j+m≤V.ops.length→(∀i,j≤i→i<j+m→∀o,V.ops[i]? = some o→o.dst≠some t)→(mstL V V.ops cs 0 st0 (j+m)).ρ t=(mstL V V.ops cs 0 st0 j).ρ t
 | 0,_,_=>rfl
 | m+1,hl,hn=>by
  have ih:=mρ_from hc m (by omega) (fun i h1 h2=>hn i h1 (by omega))
  have ho:V.ops[j+m]? = some V.ops[j+m]:=List.getElem?_eq_getElem (by omega)
  obtain⟨c,h1,_⟩:=hc.good (j+m) ho
  rw[←Nat.add_assoc,mstL_succ ho h1,←ih];have hne:=hn (j+m) (by omega) (by omega) _ ho
  simp only[Mt.next]
  cases hd:(V.ops[j+m]).dst with
  | none=>rfl
  | some d=>exact upd_ne _ _ (fun e=>hne (by rw[hd,e]))
theorem MInv.sat_at(hc:MChain V Q 0 V.ops cs st0)(inv:MInv V st0 cs listed a w done Γ'){k t:Nat}(hN:t∉V.N)(hk:k≤V.ops.length)(h1:∀j,j<k→∀o,V.ops[j]? = some o→o.dst=some t→j∈done)
  (h2:∀j∈done,∀o,V.ops[j]? = some o→o.dst=some t→j<k):fnOf a t=(mstL V V.ops cs 0 st0 k).ρ t:=by
 rcases last_or_none (fun j=>∃o,V.ops[j]? = some o∧o.dst=some t) k with hn|⟨j,hj,⟨o,ho,hd⟩,hlast⟩
 ·have:=mρ_from (j:=0) (t:=t) hc k (by omega) (fun i _ hi o ho hd=>hn i (by omega) ⟨o,ho,hd⟩)
  rw[Nat.zero_add,mstL_zero]at this;rw[this];exact inv.init t hN fun i hi o ho hd=>hn i (h2 i hi o ho hd) ⟨o,ho,hd⟩
 ·have hin:=h1 j hj o ho hd
  obtain⟨c,hcj,hg⟩:=hc.good j ho
  have hval:=inv.last j hin o t c ho hd hN hcj fun i hi o' ho' hd'=>by
   have:=h2 i hi o' ho' hd'
   rcases Nat.lt_or_ge j i with h|h
   ·exact absurd ⟨o',ho',hd'⟩ (hlast i h this)
   ·exact h
  have hs:(mstL V V.ops cs 0 st0 (j+1)).ρ t=c.x:=by
   rw[mstL_succ ho hcj];simp only[Mt.next,hd]
   exact upd_same _ _ _
  have:=mρ_from (j:=j+1) (t:=t) hc (k-(j+1)) (by omega) (fun i h3 h4 o' ho' hd'=>hlast i (by omega) (by omega) ⟨o',ho',hd'⟩)
  rw[show j+1+(k-(j+1))=k from by omega]at this
  rw[hval,this,hs]
theorem mM_const(hc:MChain V Q 0 V.ops cs st0){p x:Nat}:∀(m:Nat),p+m≤V.ops.length→(∀j,p≤j→j<p+m→x∉V.w j)→(mstL V V.ops cs 0 st0 (p+m)).M x=(mstL V V.ops cs 0 st0 p).M x
 | 0,_,_=>rfl
 | m+1,hl,hn=>by
  have ih:=mM_const hc m (by omega) (fun i h1 h2=>hn i h1 (by omega))
  have ho:V.ops[p+m]? = some V.ops[p+m]:=List.getElem?_eq_getElem (by omega)
  obtain⟨c,h1,hg⟩:=hc.good (p+m) ho
  rw[←Nat.add_assoc,mstL_succ ho h1,←ih];have:=hn (p+m) (by omega) (by omega)
  simp[Mt.next,Mt.nxt,this]
theorem ovr_congr{g g' ρ:Fr}:∀ {N:List Nat},(∀t∈N,g t=g' t)→ovr N g ρ=ovr N g' ρ
 | [],_=>rfl
 | d::N,h=>by
  simp only[ovr]
  rw[h d (by simp),ovr_congr (N:=N) fun t ht=>h t (by simp[ht])]
theorem MInv.step{i:Nat}{QQ:Exit→Act→World→Prop}(hc:MChain V Q 0 V.ops cs st0)(hk:checkM V.n V.ops V.wr V.tc V.stab=true)(inv:MInv V st0 cs listed a w done Γ')
  (hr:i∈Region.ready .any V.ops.toArray listed):wpOp V.P V.ops.toArray QQ i (fun a' w'=>∃done' Γ'',MInv V st0 cs (listed.setIfInBounds i true) a' w' done' Γ''∧done'.length=done.length+1) a w∧i∉done:=by
 obtain⟨hun,o,hoa,hall⟩:=mem_ready.1 hr
 have ho:V.ops[i]? = some o:=by simpa using hoa
 have hil:i<V.ops.length:=(List.getElem?_eq_some_iff.1 ho).1
 have hni:i∉done:=fun h=>by rw[(inv.ls i hil).2 h]at hun;cases hun
 refine⟨?_,hni⟩
 obtain⟨c,hci,hg⟩:=hc.good i ho
 rw[Nat.zero_add]at hg;obtain⟨k1,k2,k3,kd,kw,kl,kn,ks,k4⟩:=checkM_at hk ho
 have hedges:∀e∈o.after,Region.binds .any e=true→e.on∈done:=fun e he hb=>by
  have h1:=hall e he hb
  have h2:=k1 e he hb
  have h3:e.on<listed.size:=by rw[inv.lsz];omega
  refine(inv.ls e.on (by omega)).1 ?_
  simp only[Array.getD_eq_getD_getElem?,Array.getElem?_eq_getElem h3,Option.getD_some]at h1 ⊢
  exact h1
 have hcl':Closed V.ops (·∈i::done):=fun j o' e hj ho' he hb=>by
  rcases List.mem_cons.1 hj with rfl|hj
  ·rw[ho]at ho';cases ho';exact List.mem_cons_of_mem _ (hedges e he hb)
  ·exact List.mem_cons_of_mem _ (inv.cl j o' e hj ho' he hb)
 have hanc:∀j,j∈(ancs [] V.ops).getD i []→j∈i::done:=fun j hj=>ancs_sound hcl' V.ops [] (by simp) (by simp) i j hj (by simp)
 have hanc2:∀j k,j∈(ancs [] V.ops).getD k []→k∈done→j∈done:=fun j k hj hk=>ancs_sound inv.cl V.ops [] (by simp) (by simp) k j hj hk
 have hsat:∀t∈looks V.ops o,t∉V.N→fnOf a t=(mstL V V.ops cs 0 st0 i).ρ t:=fun t ht hN=>inv.sat_at hc hN (Nat.le_of_lt hil) (fun j hj oj hoj hdj=>by
   rcases k4 j oj hj hoj with h|h
   ·exact absurd ht ((apartR_spec h.1).1 t hdj).1
   ·rcases List.mem_cons.1 (hanc j h) with h|h
    ·omega
    ·exact h) (fun j hj oj hoj hdj=>by
   rcases Nat.lt_or_ge j i with h|h
   ·exact h
   ·rcases Nat.eq_or_lt_of_le h with h|h
    ·subst h;exact absurd hj hni
    ·obtain⟨_,_,_,_,_,_,_,_,q4⟩:=checkM_at hk hoj
     rcases q4 i o h ho with h'|h'
     ·exact absurd ht ((apartR_spec h'.1).2 t hdj)
     ·exact absurd (hanc2 i j h' hj) hni)
 have hlook:∀t∈looks V.ops o,fnOf a t=ovr V.N (fnOf a) (mstL V V.ops cs 0 st0 i).ρ t:=fun t ht=>by
  by_cases hN:t∈V.N
  ·rw[ovr_in hN]
  ·rw[ovr_out hN];exact hsat t ht hN
 obtain⟨p,hp,hwd⟩:=inv.wd;have htc:∀x∈V.t i,(mstL V V.ops cs 0 st0 i).M x=(mstL V V.ops cs 0 st0 (p x)).M x:=fun x hx=>by
  rcases Nat.lt_or_ge i (p x) with hlt|hge
  ·
   have:=mM_const hc (p:=i) (x:=x) (p x-i) (by have:=(hp x).1;omega) (fun j h1 h2 hj=>by
    have hjl:j<V.ops.length:=by have:=(hp x).1;omega
    have hjd:=((hp x).2 j hj hjl).2 (by omega)
    have hoj:V.ops[j]? = some V.ops[j]:=List.getElem?_eq_getElem hjl
    rcases Nat.eq_or_lt_of_le h1 with h|h
    ·subst h;exact hni hjd
    ·obtain⟨_,_,_,_,_,_,_,_,q4⟩:=checkM_at hk hoj
     rcases q4 i o h ho with h'|h'
     ·exact clash_t h'.2 hx hj
     ·exact hni (hanc2 i j h' hjd))
   rw[show i+(p x-i)=p x from by omega]at this
   exact this.symm
  ·have:=mM_const hc (p:=p x) (x:=x) (i-p x) (by omega) (fun j h1 h2 hj=>by
    have hoj:V.ops[j]? = some V.ops[j]:=List.getElem?_eq_getElem (by omega)
    rcases k4 j _ (by omega) hoj with h|h
    ·exact clash_w h.2 hj hx
    ·rcases List.mem_cons.1 (hanc j h) with h|h
     ·omega
     ·have:=((hp x).2 j hj (by omega)).1 h;omega)
   rwa [show p x+(i-p x)=i from by omega]at this
 let rest:=(List.range V.stab.length).filter fun x=>!(V.t i).contains x
 have hperm:(List.range V.stab.length).Perm (V.t i++rest):=by
  refine(List.perm_ext_iff_of_nodup List.nodup_range ?_).2 fun x=>?_
  ·refine List.nodup_append.2 ⟨kn,List.nodup_range.filter _,fun x hx y hy hxy=>?_⟩
   subst hxy;have:=(List.mem_filter.1 hy).2
   simp at this;exact this hx
  ·simp only[List.mem_append,List.mem_range,rest,List.mem_filter]
   constructor
   ·intro h;by_cases hx:x∈V.t i
    ·exact .inl hx
    ·exact .inr ⟨h,by simpa using hx⟩
   ·rintro (h|h)
    ·exact kl x h
    ·exact h.1
 have hfm:∀F:Nat→List Res,((List.range V.stab.length).flatMap F).Perm ((V.t i).flatMap F++rest.flatMap F):=fun F=>by
  rw[←List.flatMap_append];exact List.Perm.flatMap_right _ hperm
 have hw1:Wd Γ' (V.K++(cellsOf V (V.t i) (mstL V V.ops cs 0 st0 i).M (fnOf a)++rest.flatMap fun x=>(mstL V V.ops cs 0 st0 (p x)).M x (ovr (V.s x) (fnOf a) noFr))) w:=by
  have:=hwd.perm (List.Perm.append_left V.K (hfm _))
  rwa [show cellsOf V (V.t i) (mstL V V.ops cs 0 st0 i).M (fnOf a)=(V.t i).flatMap fun x=>(mstL V V.ops cs 0 st0 (p x)).M x (ovr (V.s x) (fnOf a) noFr) from flatMap_congr' fun x hx=>by rw[htc x hx]]
 have hrun:=hg.run Γ' _ w (fnOf a) inv.le hw1
 have next:∀v w' Γ'',V.rl Γ' Γ''→(V.free o=false→v=c.x)→Wd Γ'' (V.K++(cellsOf V (V.t i) (Mt.nxt V i (mstL V V.ops cs 0 st0 i) c) (putO (fnOf a) o.dst v)++rest.flatMap fun x=>(mstL V V.ops cs 0 st0 (p x)).M x (ovr (V.s x) (fnOf a) noFr))) w' →
   MInv V st0 cs (listed.setIfInBounds i true) (a.put o.dst v) w' (i::done) Γ'':=by
  intro v w' Γ'' hle he hwd';have hput:fnOf (a.put o.dst v)=putO (fnOf a) o.dst v:=fnOf_putO a _ v (by rw[inv.size];exact okDst_spec kd)
  refine⟨(defers_put a _ v).trans inv.defers,(size_put a _ v).trans inv.size,by simpa using inv.lsz,List.nodup_cons.2 ⟨hni,inv.nd⟩,?_,?_,hcl',V.rl_trans inv.le hle,?_,?_,?_⟩
  ·intro j hj;rcases List.mem_cons.1 hj with rfl|hj
   ·exact hil
   ·exact inv.lt j hj
  ·intro j hj;by_cases hji:j=i
   ·subst hji;simp[inv.lsz,hil]
   ·rw[getD_set_ne true (Ne.symm hji),inv.ls j hj];simp[hji]
  ·intro t hN hn;rw[hput];have h1:o.dst≠some t:=hn i (by simp) o ho
   have:putO (fnOf a) o.dst v t=fnOf a t:=by
    cases hd:o.dst with
    | none=>rfl
    | some d=>exact upd_ne _ _ (fun e=>h1 (by rw[hd,e]))
   rw[this];exact inv.init t hN fun j hj=>hn j (List.mem_cons_of_mem _ hj)
  ·intro j hj o' t c' ho' hd' hN hc' hmax;rw[hput];rcases List.mem_cons.1 hj with rfl|hj
   ·rw[ho]at ho';cases ho'
    rw[hci]at hc';cases hc'
    rw[hd',show putO (fnOf a) (some t) v t=v from upd_same _ _ _];exact he (by simp only[MEnv.free,hd'];simpa using hN)
   ·have hji:j≠i:=fun e=>hni (e ▸ hj)
    have h1:o.dst≠some t:=fun e=>by
     have hle':=hmax i (by simp) o ho e
     have hlt:i<j:=by omega
     obtain⟨_,_,_,_,_,_,_,_,q4⟩:=checkM_at hk ho'
     rcases q4 i o hlt ho with h|h
     ·exact((apartR_spec h.1).1 t e).2 hd'
     ·exact hni (hanc2 i j h hj)
    have:putO (fnOf a) o.dst v t=fnOf a t:=by
     cases hd:o.dst with
     | none=>rfl
     | some d=>exact upd_ne _ _ (fun e=>h1 (by rw[hd,e]))
    rw[this];exact inv.last j hj o' t c' ho' hd' hN hc' fun k hk'=>hmax k (List.mem_cons_of_mem _ hk')
  ·refine⟨fun x=>if x∈V.w i then i+1 else p x,fun x=>⟨?_,fun j hj hjl=>?_⟩,?_⟩
   ·show (if x∈V.w i then i+1 else p x)≤V.ops.length
    have:=(hp x).1
    split <;> omega
   ·by_cases hx:x∈V.w i
    ·simp only[hx,if_true]
     by_cases hji:j=i
     ·subst hji;simp
     ·simp only[List.mem_cons,hji,false_or]
      have hpi:p x≤i:=Nat.le_of_not_lt fun h=>hni (((hp x).2 i hx hil).2 h)
      rw[(hp x).2 j hj hjl];constructor
      ·intro h;omega
      ·intro h;refine((hp x).2 j hj hjl).1 ?_
       have hoj:V.ops[j]? = some V.ops[j]:=List.getElem?_eq_getElem hjl
       rcases k4 j _ (by omega) hoj with h'|h'
       ·exact absurd (clash_w h'.2 hj (kw x hx)) id
       ·rcases List.mem_cons.1 (hanc j h') with h'|h'
        ·omega
        ·exact h'
    ·have hji:j≠i:=fun e=>hx (e ▸ hj)
     simp only[hx,if_false,List.mem_cons,hji,false_or]
     exact(hp x).2 j hj hjl
   ·refine Wd.perm ?_ (List.Perm.append_left V.K (hfm _)).symm
    have e1:cellsOf V (V.t i) (Mt.nxt V i (mstL V V.ops cs 0 st0 i) c) (putO (fnOf a) o.dst v)=(V.t i).flatMap fun x=>(mstL V V.ops cs 0 st0 (if x∈V.w i then i+1 else p x)).M x (ovr (V.s x) (fnOf (a.put o.dst v)) noFr):=flatMap_congr' fun x hx=>by
     rw[hput];by_cases hxw:x∈V.w i
     ·simp only[hxw,if_true]
      rw[mstL_succ ho hci,Nat.zero_add];rfl
     ·simp only[hxw,if_false,Mt.nxt]
      rw[←htc x hx];simp[hxw]
    have e2:(rest.flatMap fun x=>(mstL V V.ops cs 0 st0 (p x)).M x (ovr (V.s x) (fnOf a) noFr))=rest.flatMap fun x=>(mstL V V.ops cs 0 st0 (if x∈V.w i then i+1 else p x)).M x (ovr (V.s x) (fnOf (a.put o.dst v)) noFr):=flatMap_congr' fun x hx=>by
     have hxt:x∉V.t i:=by have:=(List.mem_filter.1 hx).2;simpa using this
     have hxw:x∉V.w i:=fun h=>hxt (kw x h)
     simp only[hxw,if_false]
     rw[hput];congr 1
     refine ovr_congr fun t ht=>?_
     cases hd:o.dst with
     | none=>rfl
     | some d=>exact(upd_ne _ _ (fun e=>hxw (ks d x hd (by subst e;exact ht)))).symm
    rw[←e1,←e2];exact hwd'
 have hwant:Region.wanted o (yielded V.ops.toArray a.tmps)=wantF V.ops o (ovr V.N (fnOf a) (mstL V V.ops cs 0 st0 i).ρ):=by
  unfold wantF;cases hgd:o.guard with
  | none=>simp[Region.wanted,hgd]
  | some q=>
   obtain⟨j,want⟩:=q;obtain⟨dj,hdj⟩:=k3 j want hgd
   have hdn:dj<V.n:=by
    cases hoj:V.ops[j]? with
    | none=>simp[hoj]at hdj
    | some oj=>simp[hoj]at hdj;exact okDst_spec ((checkM_at hk hoj).2.2.2.1) dj hdj
   simp only[hdj]
   rw[←hlook dj (List.mem_append_right _ (by simp only[hgd];simpa using hdj))]
   exact wanted_fn o V.ops.toArray a j want hgd dj (by simpa using hdj) (by rw[inv.size];exact hdn)
 unfold wpOp;simp only[hoa,hwant]
 have hsel:noSel o=true:=by
  unfold noSel;split
  ·rename_i h;exact absurd h (k2 _ _)
  ·rfl
 cases hwt:wantF V.ops o (ovr V.N (fnOf a) (mstL V V.ops cs 0 st0 i).ρ) with
 | true=>
  simp only[if_true]
  have hst:=(hrun.1 hwt).congr (ops:=V.ops) hsel hlook
  exact .inl (Step.wp hst fun v w' ⟨Γ'',h1,h2,h3⟩=>⟨_,_,next v w' Γ'' h1 h3 h2,by simp⟩)
 | false=>
  obtain⟨h1,h2⟩:=hrun.2 hwt
  exact⟨_,_,next undef w Γ' (V.rl_refl _) h2 h1,by simp⟩
theorem MInv.fin(hc:MChain V Q 0 V.ops cs st0)(inv:MInv V st0 cs listed a w done Γ')(hall:∀i,i<V.ops.length→i∈done):Q (fnOf a) w:=by
 have hfin:=hc.final
 obtain⟨p,hp,hwd⟩:=inv.wd;have hρ:fnOf a=ovr V.N (fnOf a) (mstL V V.ops cs 0 st0 V.ops.length).ρ:=by
  funext t
  by_cases hN:t∈V.N
  ·rw[ovr_in hN]
  ·rw[ovr_out hN];exact inv.sat_at hc hN (Nat.le_refl _) (fun j hj _ _ _=>hall j hj) (fun j hj _ _ _=>inv.lt j hj)
 rw[hρ];refine hfin Γ' w (fnOf a) inv.le ?_
 have:cellsOf V (List.range V.stab.length) (mstL V V.ops cs 0 st0 V.ops.length).M (fnOf a)=(List.range V.stab.length).flatMap fun x=>(mstL V V.ops cs 0 st0 (p x)).M x (ovr (V.s x) (fnOf a) noFr):=flatMap_congr' fun x _=>by
  have:=mM_const hc (p:=p x) (x:=x) (V.ops.length-p x) (by have:=(hp x).1;omega) (fun j h1 h2 hj=>by
   have hjl:j<V.ops.length:=by have:=(hp x).1;omega
   have:=((hp x).2 j hj hjl).1 (hall j hjl)
   omega)
  rw[show p x+(V.ops.length-p x)=V.ops.length from by have:=(hp x).1;omega]at this
  rw[this]
 rw[this];exact hwd
theorem m_all_of_not_ready(hk:checkM V.n V.ops V.wr V.tc V.stab=true)(inv:MInv V st0 cs listed a w done Γ')(h:Region.ready .any V.ops.toArray listed=[]):∀i,i<V.ops.length→i∈done:=by
 intro i;induction i using Nat.strongRecOn with
 | _ i ih=>
  intro hi;refine Classical.byContradiction fun hn=>?_
  have hmem:i∈Region.ready .any V.ops.toArray listed:=mem_ready.2 ⟨?_,V.ops[i],by simp[hi],fun e he hb=>?_⟩
  ·rw[h]at hmem;cases hmem
  ·cases hb:listed.getD i true with
   | false=>rfl
   | true=>exact absurd ((inv.ls i hi).1 hb) hn
  ·have h1:=(checkM_at hk (List.getElem?_eq_getElem hi)).1 e he hb
   have h2:=(inv.ls e.on (by omega)).2 (ih e.on h1 (by omega))
   have h3:e.on<listed.size:=by rw[inv.lsz];omega
   simp only[Array.getD_eq_getD_getElem?,Array.getElem?_eq_getElem h3,Option.getD_some]at h2 ⊢
   exact h2
theorem MInv.any{QQ:Exit→Fr→World→Prop}(hc:MChain V (fun ρ w=>QQ .normal ρ w) 0 V.ops cs st0)(hk:checkM V.n V.ops V.wr V.tc V.stab=true) :
  ∀(fuel:Nat) (listed:Array Bool) (a:Act) (w:World) (done:List Nat) (Γ':Gho),MInv V st0 cs listed a w done Γ'→fuel+done.length=V.ops.length→wpAny V.P .any V.ops.toArray (lift V.n QQ) fuel listed a w
 | 0,listed,a,w,done,Γ',inv,hf=>by
  have hall:∀i,i<V.ops.length→i∈done:=by
   intro i hi;refine Classical.byContradiction fun hn=>?_
   have:=nodup_le V.ops.length (i::done) (List.nodup_cons.2 ⟨hn,inv.nd⟩) (fun x hx=>by
    rcases List.mem_cons.1 hx with rfl|hx
    ·exact hi
    ·exact inv.lt x hx)
   simp at this;omega
  refine⟨?_,inv.defers,inv.size,inv.fin hc hall⟩
  refine List.eq_nil_iff_forall_not_mem.2 fun i hi=>?_
  obtain⟨hun,o,ho,_⟩:=mem_ready.1 hi
  have hil:i<V.ops.length:=by have:=(Array.getElem?_eq_some_iff.1 ho).1;simpa using this
  rw[(inv.ls i hil).2 (hall i hil)]at hun;cases hun
 | fuel+1,listed,a,w,done,Γ',inv,hf=>by
  refine⟨fun h=>⟨inv.defers,inv.size,inv.fin hc (m_all_of_not_ready hk inv h)⟩,fun i hi=>?_⟩
  refine wpOp_mono ?_ (inv.step hc hk hi).1
  rintro a' w' ⟨done',Γ'',inv',hl⟩
  exact MInv.any hc hk fuel _ a' w' done' Γ'' inv' (by omega)
end
end
theorem W_mix{P:Program}{n id:Nat}{l:List Oper}{Q:Exit→Fr→World→Prop}{ρ:Fr}{w:World}{Γ:Gho}(K:List Res)(M:Nat→Fr→List Res)(wr tc stab:List (List Nat))(fixed:Bool)(hm:P.follows .mixedOrders=true)
  (hk:checkM n l wr tc stab=true) (hw:Wd Γ (K++cellsOf ⟨P,n,l,Γ,K,wr,tc,stab,fixed⟩ (List.range stab.length) M ρ) w) (h:MSw ⟨P,n,l,Γ,K,wr,tc,stab,fixed⟩ (fun ρ w=>Q .normal ρ w) 0 l ⟨ρ,M⟩):W P n (.region id l.toArray true) Q ρ w:=by
 unfold W;intro a hda hs hf;refine wp_region_any hm ?_
 obtain⟨cs,hc⟩:=h.chain;have inv:MInv ⟨P,n,l,Γ,K,wr,tc,stab,fixed⟩ ⟨ρ,M⟩ cs (Array.replicate l.toArray.size false) a { w with drawn:=w.drawn+1 } [] Γ:=by
  refine⟨hda,hs,by simp,by simp,by simp,fun i hi=>?_,fun _ _ _ h=>by simp at h,MEnv.rl_refl _,fun t _ _=>by rw[hf],by simp,fun _=>0,fun x=>⟨Nat.zero_le _,by simp⟩,?_⟩
  ·have:i<l.length:=hi
   simp[this]
  ·simp only[mstL_zero,hf]
   exact hw.drawn
 exact MInv.any hc hk _ _ a _ [] Γ inv (by simp)
def RdS(Γ:Gho)(S:List Res)(v:Value)(sz:Nat)(rows:List (List Value)):Prop:=
 ∃a n c,v=.slice a n c∧n=rows.length∧n≤c∧c≤9223372036854775807∧∀w,Wd Γ S w→Rd w a sz rows
section
variable {P:Program}{Γ:Gho}{S:List Res}{w:World}{sz e:Nat}{rows:List (List Value)}{v:Value}
theorem RepS.rdS(h:RepS Γ v sz rows):RdS Γ S v sz rows:=by
 obtain⟨a,n,c,rfl,h1,h2,h3⟩:=h.shape;exact⟨a,n,c,rfl,h1,h2,h3,fun w hw=>h.rd hw⟩
theorem RdS.own{w0:World}{i:Nat}(hw:Wd Γ S w0)(hi:S[i]? = some (.own v e sz rows)):RdS Γ S v sz rows:=by
 obtain⟨a,n,c,rfl,h1,h2,h3⟩:=hw.own_shape hi
 exact⟨a,n,c,rfl,h1,h2,h3,fun w hw=>hw.own_rd hi⟩
theorem RdS.shape(h:RdS Γ S v sz rows):∃a n c,v=.slice a n c∧n=rows.length∧n≤c∧c≤9223372036854775807:=by
 obtain⟨a,n,c,h1,h2,h3,h4,_⟩:=h;exact⟨a,n,c,h1,h2,h3,h4⟩
theorem RdS.rd{a:Option Addr}{n c:Nat}(h:RdS Γ S (.slice a n c) sz rows)(hw:Wd Γ S w):Rd w a sz rows:=by
 obtain⟨a',n',c',h1,h2,h3,h4,h5⟩:=h;cases h1
 exact h5 w hw
theorem RdS.cons{r:Res}(h:RdS Γ S v sz rows):RdS Γ (r::S) v sz rows:=by
 obtain⟨a,n,c,h1,h2,h3,h4,h5⟩:=h;exact⟨a,n,c,h1,h2,h3,h4,fun w hw=>h5 w hw.drop⟩
end
section
variable {P:Program}{ρ:Fr}{w:World}{sz:Nat}{rows:List (List Value)}{d:Option Tmp}{T ty:TypeId}{pos:String}{es:Array Edge}{g:Option (Nat×Bool)}{x y:Operand}
theorem y_idxD{E by':Nat}{zs:List Value}{a:Option Addr}{m c:Nat}{k:IntKind}{i:Int}[hT:TL P T E sz by' zs](hr:Rd w a sz rows)(hx:ev ρ x=.slice a m c)(hy:ev ρ y=.int k i)(h0:0≤i)(h1:i<m)(hm:m=rows.length:=by first|assumption|omega|(rw[List.length_map];omega)) :
  Yields P ⟨d,.indexAddr T x y,ty,pos,es,g⟩ ρ w (.pointer (some ⟨aB a,aO a+i.toNat*sz,none⟩)):=
 y_indexAddr hx hy h0 h1 (hr.at_ (by omega))
end
abbrev Res.ms{β:Type}(f:β→Value)(b:Nat)(l:List (ByteArray×β)):Res:=Res.mp b (l.map fun p=>(.string p.1,f p.2))
section
variable {P:Program}{n:Nat}{opa:Array Oper}{Γ:Gho}{S:List Res}{QQ:Exit→Fr→World→Prop}{ρ:Fr}{w:World}{rest:List Oper}{KK:Value→World→Prop}
variable {d:Option Tmp}{T U ty K E:TypeId}{pos:String}{es:Array Edge}{g:Option (Nat×Bool)}{x y z:Operand}{v:Value}{β:Type}{f:β→Value}{b i:Nat}{a:ByteArray}{l:List (ByteArray×β)}
theorem y_lookupS1[Inhabited β]{zz:Value}[hM:TMap P T K E][hK:TStr P K][hz:TZV P E zz](hw:Wd Γ S w)(hx:ev ρ x=.map (some b))(hy:ev ρ y=.string a)(hi:S[i]? = some (Res.ms f b l))(hd:f default=zz) :
  Yields P ⟨d,.lookup T x y false,ty,pos,es,g⟩ ρ w (f ((aGet l a).getD default)):=by
 cases hg:aGet l a with
 | some u=>
  have:=y_lookup_some (P:=P) (K:=K) (α:=ByteArray) (d:=d) (T:=T) (ty:=ty) (pos:=pos) (es:=es) (g:=g) hw hx hy hi hg false
  simpa using this
 | none=>
  have:=y_lookup_none (P:=P) (K:=K) (α:=ByteArray) (d:=d) (T:=T) (ty:=ty) (pos:=pos) (es:=es) (g:=g) hw hx hy hi hg false
  simpa[hd] using this
theorem s_mapUpdS{v:β}[hM:TMap P T K E][hK:TStr P K](hw:Wd Γ S w)(hx:ev ρ x=.map (some b))(hy:ev ρ y=.string a)(hz:ev ρ z=f v)(hi:S[i]? = some (Res.ms f b l))
  (hk:∀w',Wd Γ (S.set i (Res.ms f b (aSet l a v))) w'→KK undef w'):Step P ⟨d,.mapUpdate T x y z,ty,pos,es,g⟩ ρ w KK:=
 s_mapUpdate (P:=P) (K:=K) (α:=ByteArray) hw hx hy hz hi hk
theorem lMapUpdS{v:β}[hM:TMap P T K E][hK:TStr P K](h:∀w',Wd Γ (S.set i (Res.ms f b (aSet l a v))) w'→L P n opa QQ rest ρ w')(hw:Wd Γ S w:=by exact hw)(hx:ev ρ x=.map (some b):=by exact rfl)(hy:ev ρ y=.string a:=by exact rfl)(hi:S[i]? = some (Res.ms f b l):=by exact byIX)(hz:ev ρ z=f v:=by exact rfl) :
  L P n opa QQ (⟨none,.mapUpdate T x y z,ty,pos,es,none⟩::rest) ρ w:=L_step rfl rfl (s_mapUpdS hw hx hy hz hi h)
end
def ML(l:List (Fr→List Res)):Nat→Fr→List Res:=fun x=>l.getD x (fun _=>[])
def setC(M:Nat→Fr→List Res)(x:Nat)(m:Fr→List Res):Nat→Fr→List Res:=fun y=>bif [x].contains y then m else M y
abbrev mV(P:Program)(n:Nat)(ops:List Oper)(Γ:Gho)(K:List Res)(wr tc stab:List (List Nat)):MEnv:=⟨P,n,ops,Γ,K,wr,tc,stab,true⟩
def cellsAt(tc stab:List (List Nat))(i:Nat)(M:Nat→Fr→List Res)(g:Fr):List Res:=(tc.getD i []).flatMap fun x=>M x (ovr (stab.getD x []) g noFr)
def outOf(tc stab:List (List Nat))(i:Nat)(d:Option Tmp):Bool:=match d with|some d=>(tc.getD i []).all fun x=>!((stab.getD x []).contains d)|none=>true
def freeD(stab:List (List Nat))(d:Option Tmp):Bool:=match d with|some d=>stab.flatten.contains d|none=>true
section
variable {P:Program}{n:Nat}{ops:List Oper}{Γ:Gho}{K:List Res}{wr tc stab:List (List Nat)}{Q:Fr→World→Prop}{i:Nat}{rest:List Oper}{ρ:Fr}{M:Nat→Fr→List Res}{o:Oper}{v:Value}
theorem outOf_eq{g:Fr}{d:Option Tmp}{v:Value}(h:outOf tc stab i d=true)(M:Nat→Fr→List Res):cellsAt tc stab i M (putO g d v)=cellsAt tc stab i M g:=by
 refine flatMap_congr' fun x hx=>?_
 cases d with
 | none=>rfl
 | some d=>
  congr 1
  refine ovr_congr fun t ht=>upd_ne _ _ fun e=>?_
  subst e;have:=(List.all_eq_true.1 h) x hx
  simp at this
  exact this ht
theorem mC(hy:∀Y w g,Wd Γ (K++(cellsAt tc stab i M g++Y)) w→Step P o (ovr stab.flatten g ρ) w fun u w'=>u=v∧Wd Γ (K++(cellsAt tc stab i M g++Y)) w')(hw0:wr.getD i []=[])(hg:o.guard=none)(ho:outOf tc stab i o.dst=true)
  (h:MSw (mV P n ops Γ K wr tc stab) Q (i+1) rest ⟨putO ρ o.dst v,M⟩):MSw (mV P n ops Γ K wr tc stab) Q i (o::rest) ⟨ρ,M⟩:=by
 have hn:∀c,Mt.nxt (mV P n ops Γ K wr tc stab) i ⟨ρ,M⟩ c=M:=fun c=>by
  funext x;simp only[Mt.nxt,MEnv.w,hw0];rfl
 refine⟨⟨v,M⟩,⟨fun Γ' Y w g hr hw=>?_⟩,?_⟩
 ·have hΓ:Γ'=Γ:=hr
  subst hΓ;rw[hn];refine⟨fun _=>(hy Y w g hw).mono fun u w' ⟨h1,h2⟩=>⟨Γ',rfl,?_,fun _=>h1⟩,fun hf=>?_⟩
  ·have:=outOf_eq (g:=g) (v:=u) ho M
   show Wd Γ' (K++(cellsAt tc stab i M (putO g o.dst u)++Y)) w'
   rw[this];exact h2
  ·rw[wantF_none hg]at hf;cases hf
 ·simp only[Mt.next,hn];exact h
theorem mY(h:MSw (mV P n ops Γ K wr tc stab) Q (i+1) rest ⟨putO ρ o.dst v,M⟩)(hw0:wr.getD i []=[]:=by exact rfl)(hg:o.guard=none:=by exact rfl)(ho:outOf tc stab i o.dst=true:=by exact rfl)
  (hy:∀Y w g,Wd Γ (K++(cellsAt tc stab i M g++Y)) w→Yields P o (ovr stab.flatten g ρ) w v:=by (intro Y w g hw;exact byPU)):MSw (mV P n ops Γ K wr tc stab) Q i (o::rest) ⟨ρ,M⟩:=
 mC (fun Y w g hw=>(hy Y w g hw).step ⟨rfl,hw⟩) hw0 hg ho h
theorem mM{x:Nat}(m:Fr→List Res)(hs:∀Y w g,Wd Γ (K++(cellsAt tc stab i M g++Y)) w→Step P o (ovr stab.flatten g ρ) w fun u w'=>Wd Γ (K++(cellsAt tc stab i (setC M x m) (putO g o.dst u)++Y)) w'∧(freeD stab o.dst=false→u=v))
  (h:MSw (mV P n ops Γ K wr tc stab) Q (i+1) rest ⟨putO ρ o.dst v,setC M x m⟩) (hw0:wr.getD i []=[x]:=by exact rfl) (hg:o.guard=none:=by exact rfl):MSw (mV P n ops Γ K wr tc stab) Q i (o::rest) ⟨ρ,M⟩:=by
 have hn:Mt.nxt (mV P n ops Γ K wr tc stab) i ⟨ρ,M⟩ ⟨v,fun _=>m⟩=setC M x m:=by
  funext y;simp only[Mt.nxt,MEnv.w,hw0];rfl
 refine⟨⟨v,fun _=>m⟩,⟨fun Γ' Y w g hr hw=>?_⟩,?_⟩
 ·have hΓ:Γ'=Γ:=hr
  subst hΓ;rw[hn];refine⟨fun _=>(hs Y w g hw).mono fun u w' ⟨h1,h2⟩=>⟨Γ',rfl,h1,h2⟩,fun hf=>?_⟩
  rw[wantF_none hg]at hf;cases hf
 ·simp only[Mt.next,hn];exact h
theorem mEnd(h:∀w g,Wd Γ (K++(List.range stab.length).flatMap fun x=>M x (ovr (stab.getD x []) g noFr)) w→Q (ovr stab.flatten g ρ) w):MSw (mV P n ops Γ K wr tc stab) Q i [] ⟨ρ,M⟩:=fun Γ' w g hr hw=>by
 have hΓ:Γ'=Γ:=hr
 subst hΓ;exact h w g hw
theorem W_mixed{id:Nat}{l:List Oper}{QQ:Exit→Fr→World→Prop}{w:World}(K:List Res)(M:List (Fr→List Res))(wr tc stab:List (List Nat))(hw:Wd Γ (K++(List.range stab.length).flatMap fun x=>(ML M) x (ovr (stab.getD x []) ρ noFr)) w)
  (h:MSw (mV P n l Γ K wr tc stab) (fun ρ w=>QQ .normal ρ w) 0 l ⟨ρ,ML M⟩) (hm:P.follows .mixedOrders=true:=by kernel_rfl) (hk:checkM n l wr tc stab=true:=by kernel_rfl):W P n (.region id l.toArray true) QQ ρ w:=
 W_mix K (ML M) wr tc stab true hm hk hw h
end
attribute [local irreducible] Calls
theorem eq_nilB{s:ByteArray}:(s=⟨#[]⟩)↔s.size=0:=by
 constructor
 ·intro h;rw[h];rfl
 ·intro h;cases s with
  | mk d=>
   have:d.size=0:=h
   rw[Array.eq_empty_of_size_eq_zero this]
theorem ne_nilB{s:ByteArray}:(s≠⟨#[]⟩)↔0<s.size:=by
 rw[Ne,eq_nilB];omega
class PC(P:Program)(f:Nat)(args:List Value)(v:outParam Value):Prop where
 h:∀w,Calls P f args.toArray w fun e w'=>e=.returned v∧w'=w
section
variable {P:Program}{n:Nat}{ops:List Oper}{opa:Array Oper}{Γ:Gho}{S K:List Res}{Q:Fr→World→Prop}{QQ:Exit→Fr→World→Prop}{ρ:Fr}{w:World}{rest:List Oper}{wr tc stab:List (List Nat)}{i:Nat}{M:Nat→Fr→List Res}
variable {d:Option Tmp}{ty:TypeId}{pos:String}{es:Array Edge}{v:Value}{f:Nat}{args:List Operand}{tys:Array TypeId}{vs:List Value}{j dj:Nat}{want c:Bool}{g:Option (Nat×Bool)}
theorem s_pc[FnOk P f][hp:PC P f vs v](ha:EvL ρ args vs):Step P ⟨d,.call { callee:=.value (.func f),args:=args.toArray,argTypes:=tys },ty,pos,es,g⟩ ρ w fun u w'=>u=v∧w'=w:=
 s_call ha.eqA ((hp.h w).mono fun e w' ⟨h1,h2⟩=>⟨v,h1,rfl,h2⟩)
theorem lP[FnOk P f](h:L P n opa QQ rest (putO ρ d v) w)(ha:EvL ρ args vs:=by exact byEV)(hd:okDst n d=true:=by exact rfl)(hp:PC P f vs v:=by infer_instance) :
  L P n opa QQ (⟨d,.call { callee:=.value (.func f),args:=args.toArray,argTypes:=tys },ty,pos,es,none⟩::rest) ρ w:=
 L_step rfl hd ((s_pc (hp:=hp) ha).mono fun u w' ⟨h1,h2⟩=>by subst h1;subst h2;exact h)
theorem lPG[FnOk P f](h:L P n opa QQ rest (putO ρ d (gv c v)) w)(hj:(opa[j]?).bind (·.dst)=some dj:=by exact rfl)(hjn:okDst n (some dj)=true:=by exact rfl)(hc:GuardIs (ρ dj) want c:=by exact byGC)(hd:okDst n d=true:=by exact rfl)(ha:c=true→EvL ρ args vs:=by intro hc;exact byEVG)(hp:PC P f vs v:=by infer_instance) :
  L P n opa QQ (⟨d,.call { callee:=.value (.func f),args:=args.toArray,argTypes:=tys },ty,pos,es,some (j,want)⟩::rest) ρ w:=
 L_guard rfl hj hjn hc hd (fun ht=>s_pc (hp:=hp) (ha ht)) h
theorem qP[FnOk P f](h:Qw P n ops Γ S Q rest (putO ρ d v))(ha:EvL ρ args vs:=by exact byEV)(hp:PC P f vs v:=by infer_instance) :
  Qw P n ops Γ S Q (⟨d,.call { callee:=.value (.func f),args:=args.toArray,argTypes:=tys },ty,pos,es,none⟩::rest) ρ:=
 Q_c rfl rfl (fun Y w hw=>(s_pc (hp:=hp) ha).mono fun u w' ⟨h1,h2⟩=>⟨h1,by subst h2;exact hw⟩) h
theorem qPG[FnOk P f](h:Qw P n ops Γ S Q rest (putO ρ d (gv c v)))(hj:(ops[j]?).bind (·.dst)=some dj:=by exact rfl)(hc:GuardIs (ρ dj) want c:=by exact byGC)(ha:c=true→EvL ρ args vs:=by intro hc;exact byEVG)(hp:PC P f vs v:=by infer_instance) :
  Qw P n ops Γ S Q (⟨d,.call { callee:=.value (.func f),args:=args.toArray,argTypes:=tys },ty,pos,es,some (j,want)⟩::rest) ρ:=
 Q_gc rfl hj hc rfl (fun ht Y w hw=>(s_pc (hp:=hp) (ha ht)).mono fun u w' ⟨h1,h2⟩=>⟨h1,by subst h2;exact hw⟩) h
theorem mP[FnOk P f](h:MSw (mV P n ops Γ K wr tc stab) Q (i+1) rest ⟨putO ρ d v,M⟩)(hw0:wr.getD i []=[]:=by exact rfl)(ho:outOf tc stab i d=true:=by exact rfl)(ha:∀g,EvL (ovr stab.flatten g ρ) args vs:=by intro g;exact byEV)(hp:PC P f vs v:=by infer_instance) :
  MSw (mV P n ops Γ K wr tc stab) Q i (⟨d,.call { callee:=.value (.func f),args:=args.toArray,argTypes:=tys },ty,pos,es,none⟩::rest) ⟨ρ,M⟩:=
 mC (fun Y w g hw=>(s_pc (hp:=hp) (ha g)).mono fun u w' ⟨h1,h2⟩=>⟨h1,by subst h2;exact hw⟩) hw0 rfl ho h
end
def ResV(P:Program)(ρ:Fr)(w:World):ResultVar→Value→Prop
 | .tmp t,v=>ρ t=v
 | .cell a T,v=>∃A,ρ a=.pointer (some A)∧(loadVar T A).run P w=.ok v w
def ResL(P:Program)(ρ:Fr)(w:World):List ResultVar→List Value→Prop
 | [],[]=>True
 | r::rs,v::vs=>ResV P ρ w r v∧ResL P ρ w rs vs
 | _,_=>False
def tupV:List Value→Value
 | [v]=>v
 | vs=>.tuple vs.toArray
def PostC(P:Program)(rs:Array ResultVar)(R:Ending→World→Prop):Exit→Fr→World→Prop
 | .normal,ρ,w|.ret,ρ,w=>∃vs,ResL P ρ w rs.toList vs∧R (.returned (tupV vs)) w
 | .panic ch,_,w=>R (.panicked ch) w
 | .outgrown,_,w=>R .outgrown w
 | _,_,_=>False
def evalR(tmps:Array Value):ResultVar→Sem Value
 | .tmp t=>pure (tmps.getD t undef)
 | .cell a t=>do loadVar t (←asAddr (tmps.getD a undef))
theorem results_evalR(fn:Func)(tmps:Array Value):results fn tmps=(do let vs ← fn.results.mapM (evalR tmps);pure (if h:vs.size=1 then vs[0] else .tuple vs)):=by
 have:(fun r:ResultVar=>match r with|.tmp t=>(pure (tmps.getD t undef):Sem Value)|.cell a t=>do loadVar t (←asAddr (tmps.getD a undef)))=evalR tmps:=by
  funext r;cases r <;> rfl
 rw[←this];rfl
theorem ResV.run{P:Program}{a:Act}{w:World}{r:ResultVar}{v:Value}(h:ResV P (fnOf a) w r v):(evalR a.tmps r).run P w=.ok v w:=by
 cases r with
 | tmp t=>have:a.tmps.getD t undef=v:=h;simp only[evalR,Sem.run_pure,this]
 | cell x t=>
  obtain⟨A,h1,h2⟩:=h;have h3:a.tmps.getD x undef=.pointer (some A):=h1
  simp only[evalR,h3]
  simpa[asAddr] using h2
theorem results_resL{P:Program}{fn:Func}{a:Act}{w:World}{vs:List Value}(hl:fn.results.size≤3)(h:ResL P (fnOf a) w fn.results.toList vs):(results fn a.tmps).run P w=.ok (tupV vs) w:=by
 obtain⟨l,hfl⟩:∃l:List ResultVar,fn.results=l.toArray:=⟨fn.results.toList,by simp⟩
 rw[results_evalR];rw[hfl]at h hl ⊢
 simp only at h
 rcases l with _|⟨x1,_|⟨x2,_|⟨x3,_|⟨x4,l⟩⟩⟩⟩ <;> rcases vs with _|⟨v1,_|⟨v2,_|⟨v3,_|⟨v4,vs⟩⟩⟩⟩ <;> simp only[ResL,and_false]at h <;> try exact h.elim
 ·simp[tupV]
 ·simp[tupV,h.1.run]
 ·simp[tupV,h.1.run,h.2.1.run]
 ·simp[tupV,h.1.run,h.2.1.run,h.2.2.1.run]
 all_goals (simp at hl <;> omega)
theorem calls_of_WC{P:Program}{f:FuncId}{fn:Func}{c:Code}{args:Array Value}{w:World}{R:Ending→World→Prop}(hf:P.funcs[f]? = some fn)(hb:fn.body=some c)
  (hn:(Nat.ble args.size fn.ntmps&&Nat.ble fn.results.size 3)=true) (h:W P fn.ntmps c (PostC P fn.results R) (entryFr args) w):Calls P f args w R:=by
 rw[Bool.and_eq_true]at hn;have hle:args.size≤fn.ntmps:=Nat.le_of_ble_eq_true hn.1
 have hl3:fn.results.size≤3:=Nat.le_of_ble_eq_true hn.2
 unfold W at h;refine calls_of_wp hf hb (Code.wp_mono ?_ (h _ rfl (by simp;omega) ?_))
 ·rintro e a w ⟨hd,hs,hq⟩
  cases e with
  | normal=>obtain⟨v,hv,hR⟩:=hq;exact⟨hd,_,results_resL hl3 hv,hR⟩
  | ret=>obtain⟨v,hv,hR⟩:=hq;exact⟨hd,_,results_resL hl3 hv,hR⟩
  | panic ch=>exact⟨hd,hq⟩
  | outgrown=>exact hq
  | exit id=>exact hq.elim
  | goto l=>exact hq.elim
 ·funext t
  simp only[fnOf,entryFr,Array.getD_eq_getD_getElem?,Array.getElem?_append]
  by_cases ht:t<args.size
  ·rw[if_pos ht]
  ·rw[if_neg ht,Array.getElem?_eq_none (by omega:args.size≤t)]
   simp only[Array.getElem?_replicate]
   split <;> rfl
theorem resC{P:Program}{Γ:Gho}{S:List Res}{ρ:Fr}{w:World}{t T m i b:Nat}{cs:Array Value}{E:TypeId}{fr:Nat×Nat}[ha:TA P T m](hw:Wd Γ S w)(hi:S[i]? = some (.blk b (.cells cs E fr)))(hx:ρ t=.pointer (some ⟨b,0,none⟩))(hm:cs.size=m):ResV P ρ w (.cell t T) (.agg cs):=by
 refine⟨_,hx,?_⟩
 have h:=ha.h
 unfold aggSz at h;cases hu:P.underlying T with
 | none=>simp[hu]at h
 | some u=>
  simp[hu]at h
  have h2:=range_of (o:=0) (n:=cs.size) (hw.at_blk hi)
  have h1:=run_loadAt_mid (P:=P) w b 0 T cs.toList u (by simpa using h2) hu h.1 (by simp[h.2,hm])
  simpa[Instr.loadAt,Instr.sureAddr,asAddr] using h1
end Mk
end
section
open Go
namespace Mk
def atP(v:Value)(F:Nat→List Res):Res:=Res.ex (α:={bb:Nat // v=.pointer (some ⟨bb,0,none⟩)}) fun p=>F p.1
section
variable {P:Program}{n:Nat}{ops:List Oper}{Γ:Gho}{S K:List Res}{wr tc stab:List (List Nat)}{Q:Fr→World→Prop}{i:Nat}{rest:List Oper}{ρ:Fr}{w:World}{M:Nat→Fr→List Res}{v:Value}{F:Nat→List Res}
variable {d:Option Tmp}{T U ty:TypeId}{pos:String}{es:Array Edge}{x y z:Operand}
theorem Wd.mid{r:Res}{Y:List Res}(h:Wd Γ (K++(r::Y)) w):Wd Γ (r::(K++Y)) w:=h.perm List.perm_middle
theorem Wd.unmid{r:Res}{Y:List Res}(h:Wd Γ (r::(K++Y)) w):Wd Γ (K++(r::Y)) w:=h.perm List.perm_middle.symm
theorem Wd.swapApp{A B C:List Res}(h:Wd Γ (A++(B++C)) w):Wd Γ (B++(A++C)) w:=h.perm (by
 rw[←List.append_assoc,←List.append_assoc];exact List.perm_append_comm.append_right C)
theorem Wd.openAt(h:Wd Γ (atP v F::S) w):∃bb,v=.pointer (some ⟨bb,0,none⟩)∧Wd Γ (F bb++S) w:=by
 obtain⟨⟨bb,hb⟩,h'⟩:=h.openEx;exact⟨bb,hb,h'⟩
theorem Wd.closeAt{bb:Nat}(h:Wd Γ (F bb++S) w):Wd Γ (atP (.pointer (some ⟨bb,0,none⟩)) F::S) w:=Wd.closeEx (X:=fun p:{c:Nat // Value.pointer (some ⟨bb,0,none⟩)=.pointer (some ⟨c,0,none⟩)}=>F p.1) ⟨bb,rfl⟩ h
theorem setC_self{c:Nat}{m:Fr→List Res}:setC M c m c=m:=by simp[setC]
theorem mAlloc{c dd:Nat}{cs:List Value}[TZ P T cs](h:MSw (mV P n ops Γ K wr tc stab) Q (i+1) rest ⟨putO ρ (some dd) undef,setC M c fun g=>[atP (g dd) fun bb=>[.blk bb (.cells cs.toArray T)]]⟩)
  (ht:tc.getD i []=[c]:=by exact rfl) (hM:M c=(fun _=>[]):=by exact rfl) (hs:(stab.getD c []).contains dd=true:=by exact rfl) (hf:freeD stab (some dd)=true:=by exact rfl) (hw0:wr.getD i []=[c]:=by exact rfl) :
  MSw (mV P n ops Γ K wr tc stab) Q i (⟨some dd,.alloc T,ty,pos,es,none⟩::rest) ⟨ρ,M⟩:=by
 refine mM _ (fun Y w g hw=>?_) h hw0 rfl
 have hw1:Wd Γ (K++Y) w:=by
  have:cellsAt tc stab i M g=[]:=by unfold cellsAt;rw[ht];simp[hM]
  rw[this]at hw;exact hw
 refine s_alloc hw1 fun b w' hw'=>⟨?_,fun hh=>by rw[hf]at hh;cases hh⟩
 have e:cellsAt tc stab i (setC M c fun g=>[atP (g dd) fun bb=>[.blk bb (.cells cs.toArray T)]]) (putO g (some dd) (.pointer (some ⟨b,0,none⟩)))=[atP (.pointer (some ⟨b,0,none⟩)) fun bb=>[.blk bb (.cells cs.toArray T)]]:=by
  unfold cellsAt;rw[ht];have h1:ovr (stab.getD c []) (putO g (some dd) (.pointer (some ⟨b,0,none⟩))) noFr dd=.pointer (some ⟨b,0,none⟩):=by
   rw[ovr_in (by simpa using hs)];exact upd_same _ _ _
  simp only[List.flatMap_cons,List.flatMap_nil,List.append_nil,setC_self,h1]
 rw[e];exact Wd.unmid (Wd.closeAt (F:=fun bb=>[.blk bb (.cells cs.toArray T)]) hw')
theorem mStoreAt{c dd m:Nat}{cs:Array Value}{E:TypeId}{vs:List Value}[hn:TSz P T m](h:MSw (mV P n ops Γ K wr tc stab) Q (i+1) rest ⟨ρ,setC M c fun g=>[atP (g dd) fun bb=>[.blk bb (.cells (putCells cs 0 vs) E)]]⟩)
  (hd:stab.flatten.contains dd=true:=by exact rfl) (ht:tc.getD i []=[c]:=by exact rfl) (hM:M c=(fun g=>[atP (g dd) fun bb=>[.blk bb (.cells cs E)]]):=by exact rfl) (hs:(stab.getD c []).contains dd=true:=by exact rfl) (hw0:wr.getD i []=[c]:=by exact rfl)
  (hy:∀g,ev (ovr stab.flatten g ρ) y=v:=by intro g;exact byMV) (hv:v.cells.toList=vs:=by exact rfl) (hl:vs.length=m:=by exact rfl) (h1:vs.all (·.oneCell')=true:=by exact rfl) (ho:m≤cs.size:=by exact Nat.le_of_ble_eq_true rfl) :
  MSw (mV P n ops Γ K wr tc stab) Q i (⟨none,.store T (.tmp dd) y,ty,pos,es,none⟩::rest) ⟨ρ,M⟩:=by
 refine mM (v:=undef) _ (fun Y w g hw=>?_) h hw0 rfl
 have e:cellsAt tc stab i M g=[atP (g dd) fun bb=>[.blk bb (.cells cs E)]]:=by
  unfold cellsAt;rw[ht];have h1:ovr (stab.getD c []) g noFr dd=g dd:=ovr_in (by simpa using hs)
  simp only[List.flatMap_cons,List.flatMap_nil,List.append_nil,hM,h1]
 rw[e]at hw;obtain⟨bb,hb,hw1⟩:=(Wd.mid hw).openAt
 have hx:ev (ovr stab.flatten g ρ) (.tmp dd)=.pointer (some ⟨bb,0,none⟩):=by
  show ovr stab.flatten g ρ dd=_
  rw[ovr_in (by simpa using hd)];exact hb
 refine s_store hn.h hw1 hx (hy g) hv hl (fun u hu=>(List.all_eq_true.1 h1) u hu) (i:=0) rfl (by omega) fun w' hw'=>⟨?_,fun hh=>rfl⟩
 have e2:cellsAt tc stab i (setC M c fun g=>[atP (g dd) fun bb=>[.blk bb (.cells (putCells cs 0 vs) E)]]) (putO g none undef)=[atP (.pointer (some ⟨bb,0,none⟩)) fun bb=>[.blk bb (.cells (putCells cs 0 vs) E)]]:=by
  unfold cellsAt;rw[ht];have h1:ovr (stab.getD c []) g noFr dd=.pointer (some ⟨bb,0,none⟩):=(ovr_in (by simpa using hs)).trans hb
  simp only[List.flatMap_cons,List.flatMap_nil,List.append_nil,setC_self,putO,h1]
 rw[e2];exact Wd.unmid (Wd.closeAt (F:=fun bb=>[.blk bb (.cells (putCells cs 0 vs) E)]) hw')
theorem mEndAt{dd:Nat}(h:∀bb w,Wd Γ (F bb++K) w→Q (upd ρ dd (.pointer (some ⟨bb,0,none⟩))) w)(hM:M 0=(fun g=>[atP (g dd) F]):=by exact rfl):MSw (mV P n ops Γ K wr tc [[dd]]) Q i [] ⟨ρ,M⟩:=
 mEnd fun w g hw=>by
  have h0:((List.range [[dd]].length).flatMap fun x=>M x (ovr ([[dd]].getD x []) g noFr))=[atP (g dd) F]:=by
   show M 0 (ovr [dd] g noFr)++[]=_
   rw[hM];show [atP (upd noFr dd (g dd) dd) F]++[]=_
   rw[upd_same];rfl
  rw[h0]at hw;obtain⟨bb,hb,hw1⟩:=(Wd.mid hw).openAt
  have:=h bb w (by simpa using hw1)
  rwa [←hb]at this
theorem mEnd0(h:∀w,Wd Γ (K++(List.range stab.length).flatMap fun x=>M x noFr) w→Q ρ w)(hs:stab.all (fun l=>l.isEmpty)=true:=by exact rfl):MSw (mV P n ops Γ K wr tc stab) Q i [] ⟨ρ,M⟩:=
 mEnd fun w g hw=>by
  have h1:∀x,stab.getD x []=[]:=fun x=>by
   rw[List.getD_eq_getElem?_getD];cases hx:stab[x]? with
   | none=>rfl
   | some l=>
    have:=(List.all_eq_true.1 hs) l (List.mem_of_getElem? hx)
    simpa using this
  have h2:stab.flatten=[]:=by
   rw[List.flatten_eq_nil_iff];intro l hl;have:=(List.all_eq_true.1 hs) l hl
   simpa using this
  rw[h2];refine h w ?_
  have:((List.range stab.length).flatMap fun x=>M x (ovr (stab.getD x []) g noFr))=(List.range stab.length).flatMap fun x=>M x noFr:=flatMap_congr' fun x _=>by rw[h1 x];rfl
  rwa [this]at hw
end
section
variable {P:Program}{n:Nat}{opa:Array Oper}{Γ:Gho}{S:List Res}{QQ:Exit→Fr→World→Prop}{ρ:Fr}{w:World}{rest:List Oper}{d:Option Tmp}{T ty:TypeId}{pos:String}{es:Array Edge}{x y:Operand}
theorem lApp{E by' i sz m c m2 c2:Nat}{zs:List Value}{a a2:Option Addr}{rows rows2:List (List Value)}[TL P T E sz by' zs](h:∀v' w',Wd Γ (S.set i (.own v' E sz (rows++rows2))) w'→L P n opa QQ rest (putO ρ d v') w')(hr2:Rd w a2 sz rows2)(hx:ev ρ x=.slice a m c:=by exact rfl)(hy:ev ρ y=.slice a2 m2 c2:=by exact rfl)(hw:Wd Γ S w:=by exact hw)
  (hi:S[i]? = some (.own (.slice a m c) E sz rows):=by exact byIX) (h1:rows2.flatten.all (·.oneCell')=true:=by exact rfl) (hm:m2=rows2.length:=by exact rfl) (hb:(m+m2)*by'≤140737488355328:=by omega) (h63:m+m2≤9223372036854775807:=by omega) (hd:okDst n d=true:=by exact rfl) :
  L P n opa QQ (⟨d,.call { callee:=.builtin .append,args:=#[x,y],argTypes:=#[T,T] },ty,pos,es,none⟩::rest) ρ w:=lAppend h hr2 hm (fun u hu=>(List.all_eq_true.1 h1) u hu) hb h63 hw hx hy hi hd
end
end Mk
end
section
open Go
open Go.ChangeMaps (setBlock)
namespace Mk
section
variable {P:Program}{Γ:Gho}{S:List Res}{w:World}{ρ:Fr}{K:Value→World→Prop}
variable {d:Option Tmp}{T ty:TypeId}{pos:String}{es:Array Edge}{g:Option (Nat×Bool)}{x y z:Operand}
end
section
variable {P:Program}{n:Nat}{opa:Array Oper}{Γ:Gho}{S:List Res}{QQ:Exit→Fr→World→Prop}{ρ:Fr}{w:World}{rest:List Oper}
variable {d:Option Tmp}{T ty:TypeId}{pos:String}{es:Array Edge}{x:Operand}
end
section
attribute [local semireducible] Step L W
variable {P:Program}{n:Nat}{Q:Exit→Fr→World→Prop}{ρ:Fr}{w:World}{ro:Option Nat}{ds:List Deferred}
end
end Mk
namespace Mk
end Mk
namespace Mk
section
variable {P:Program}{n:Nat}{Γ:Gho}{S:List Res}{Q:Exit→Fr→World→Prop}{ρ:Fr}{w:World}{rest:List Oper}
variable {d:Option Tmp}{T U ty:TypeId}{pos:String}{es:Array Edge}{x y z:Operand}{v:Value}
end
end Mk
namespace Mk
end Mk
namespace Mk
end Mk
end
section
open Go
namespace Mk
def allG(w:World):Gho:=⟨fun b=>w.heap[b]?,w.os,w.tape,w.output,w.drawn⟩
theorem allG_wd(w:World):Wd (allG w) [] w:=⟨rfl,rfl,rfl,Nat.le_refl _,fun b o h=>h,[],trivial,by simp,by simp⟩
theorem allG_grow{w w':World}{S:List Res}(h:Wd (allG w) S w'):∃q os',w'=Go.Sort.grow (w.drewN q) os':=by
 have hsz:w.heap.size≤w'.heap.size:=by
  by_cases h0:w.heap.size=0
  ·omega
  ·have hl:w.heap.size-1<w.heap.size:=by omega
   have:=h.imm (w.heap.size-1) w.heap[w.heap.size-1] (by show w.heap[_]? = _;simp)
   have:=(Array.getElem?_eq_some_iff.1 this).1
   omega
 refine⟨w'.drawn-w.drawn,w'.heap.extract w.heap.size w'.heap.size,?_⟩
 have hh:w'.heap=w.heap++w'.heap.extract w.heap.size w'.heap.size:=by
  refine Array.ext_getElem? fun i=>?_
  rw[Array.getElem?_append];split
  ·rename_i hi
   rw[h.imm i w.heap[i] (by show w.heap[i]? = _;simp[hi]),Array.getElem?_eq_getElem hi]
  ·rename_i hi
   simp only[Array.getElem?_extract]
   split
   ·congr 1;omega
   ·rw[Array.getElem?_eq_none (by omega)]
 have hd:w.drawn≤w'.drawn:=h.dr
 cases w' with
 | mk hp tp dr os out=>
  simp only at hh hd
  have e1:os=w.os:=h.os
  have e2:tp=w.tape:=h.tape
  have e3:out=w.output:=h.out
  subst e1 e2 e3;unfold Go.Sort.grow World.drewN;simp only[World.mk.injEq]
  exact⟨hh,trivial,by omega,trivial,trivial⟩
section
variable {P:Program}{Γ:Gho}{S:List Res}{w:World}{α:Type}[Inhabited α]{E k n c g i:Nat}{enc:α→List Value}
attribute [local semireducible] Res.own
theorem own_block{v:Value}{sz e:Nat}{rows:List (List Value)}(hw:Wd Γ S w)(hi:S[i]? = some (.own v e sz rows)):∃a n c,v=.slice a n c∧n=rows.length∧n≤c∧c≤maxLen∧(c=0∨∃g cur,a=some ⟨g,0,none⟩∧g<w.heap.size∧w.heap[g]? = some (.cells cur e (0,0))∧cur.size=c*sz∧cur.toList.take (n*sz)=rows.flatten):=by
 obtain⟨bs,_,a,n,c,h1,h2,h3,h4,h5⟩:=hw.own_holds hi
 refine⟨a,n,c,h1,h2,h3,h4,h5.imp (fun h=>h.1) ?_⟩
 rintro⟨g,cur,g1,g2,g3,g4,g5⟩;exact⟨g,cur,g1,(Array.getElem?_eq_some_iff.1 g3).1,g3,g4,g5⟩
theorem flatK_toList(hk:∀x,(enc x).length=k)(xs:List α):(Go.Sort.flatK enc k xs.toArray).toList=(xs.map enc).flatten:=by
 have hl:∀r∈xs.map enc,r.length=k:=fun r hr=>by obtain⟨x,_,rfl⟩:=List.mem_map.1 hr;exact hk x
 have h2:(xs.map enc).flatten.length=xs.length*k:=by rw[flatten_len hl,List.length_map]
 refine List.ext_getElem? fun t=>?_
 by_cases ht:t<xs.length*k
 ·have hk0:0<k:=by
   rcases Nat.eq_zero_or_pos k with h0|h0
   ·subst h0;simp at ht
   ·exact h0
  have h3:t / k<xs.length:=Nat.div_lt_of_lt_mul (by rw[Nat.mul_comm];exact ht)
  have h4:t%k<k:=Nat.mod_lt _ hk0
  have h5:(enc xs[t / k]).length=k:=hk _
  have h6:=flatten_get (rows:=xs.map enc) (i:=t / k) (r:=enc xs[t / k]) hl (by simp[h3]) (t%k) ((enc xs[t / k])[t%k]'(by omega)) (by simp[h5,h4])
  have h7:t / k*k+t%k=t:=by rw[Nat.mul_comm];exact Nat.div_add_mod t k
  rw[h7]at h6;rw[h6];have hs:t<(Go.Sort.flatK enc k xs.toArray).size:=by simpa using ht
  rw[Array.getElem?_toList,Array.getElem?_eq_getElem hs,←getElem!_pos (Go.Sort.flatK enc k xs.toArray) t hs,Go.Sort.get_flatK _ _ _ _ (by simpa using ht)]
  simp[h3,h5,h4]
 ·rw[List.getElem?_eq_none (by simp;omega),List.getElem?_eq_none (by omega)]
theorem own_holdsK{xs:List α}(hk:∀x,(enc x).length=k)(hw:Wd Γ S w)(hi:S[i]? = some (.own (.slice (some ⟨g,0,none⟩) n c) E k (xs.map enc)))(hc:0<c):Go.Sort.HoldsK enc k w g 0 xs.toArray∧g<w.heap.size:=by
 obtain⟨a,n',c',e1,e2,e3,e4,e5⟩:=own_block hw hi
 cases e1
 rcases e5 with e5|⟨g',cur,g1,g2,g3,g4,g5⟩
 ·omega
 cases g1
 refine⟨fun j hj=>?_,g2⟩
 have hj':j<xs.length*k:=by simpa using hj
 rw[←flatK_toList hk]at g5;have hn:n=xs.length:=by simpa using e2
 subst hn;have h1:(cur.toList.take (xs.length*k))[j]? = cur[j]?:=by rw[List.getElem?_take_of_lt hj',Array.getElem?_toList]
 rw[g5,Array.getElem?_toList,Array.getElem?_eq_getElem hj]at h1;constructor
 ·simp only[World.cell?,g3,Nat.zero_add,id]
  simp only[Option.isSome_none,Bool.false_eq_true,if_false]
  rw[←h1,getElem!_pos _ j hj]
 ·simp[World.frozen?,g3]
theorem own_sortWorld{xs:List α}(hk:∀x,(enc x).length=k)(hw:Wd Γ S w)(hi:S[i]? = some (.own (.slice (some ⟨g,0,none⟩) n c) E k (xs.map enc)))(hc:0<c)(dk:Array α)(hs:dk.size=xs.length)(m:Nat)(os:Array Obj) :
  Wd Γ (S.set i (.own (.slice (some ⟨g,0,none⟩) n c) E k (dk.toList.map enc))) (Go.Proofs.sortWorldK enc k w g 0 m dk os):=by
 have hsz:(Go.Proofs.sortWorldK enc k w g 0 m dk os).heap.size=w.heap.size+os.size:=by
  simp[Go.Proofs.sortWorldK,Go.Sort.grow,Go.Sort.putRowK,Go.Sort.putRow,Go.Sort.mapBlock,Go.Sort.ahead]
 refine hw.upd hi ⟨rfl,rfl,rfl,Nat.le_add_right _ _,by omega⟩ fun bs hr hnd hlt=>?_
 unfold Res.own at hr ⊢
 obtain⟨h0,a',n',c',e1,e2,e3,e4,e5⟩:=hr;cases e1
 rcases e5 with⟨e5,_⟩|⟨g',cur,g1,rfl,g3,g4,g5⟩
 ·omega
 cases g1
 have hn:n=xs.length:=by simpa using e2
 subst hn;have hglt:g<w.heap.size:=hlt g (by simp)
 have hkk:∀b,b<w.heap.size→(Go.Proofs.sortWorldK enc k w g 0 m dk os).heap[b]? = (w.heap.modify g (Go.Sort.onCells (Go.Sort.putCells id 0 (Go.Sort.flatK enc k dk))))[b]?:=fun b hb=>by
  show ((w.heap.modify g _)++os)[b]? = _
  rw[Array.getElem?_append_left (by simpa using hb)]
 refine⟨[g],⟨fun r hr=>?_,_,_,_,rfl,by simp[hs],e3,e4,.inr ⟨g,Go.Sort.putCells id 0 (Go.Sort.flatK enc k dk) cur,rfl,rfl,?_,?_,?_⟩⟩,by simp,fun b hb=>⟨by have:=hlt b hb;omega,.inl hb⟩,fun b hb hne=>?_⟩
 ·obtain⟨x,_,rfl⟩:=List.mem_map.1 hr;exact hk x
 ·show (Go.Proofs.sortWorldK enc k w g 0 m dk os).heap[g]? = _
  rw[hkk g hglt,Array.getElem?_modify,if_pos rfl];simp only[hp]at g3
  rw[g3];rfl
 ·rw[←g4];simp[Go.Sort.putCells]
 ·rw[show dk.toList.map enc=((dk.toList).map enc) from rfl,←flatK_toList hk];refine List.ext_getElem? fun j=>?_
  have hfs:(Go.Sort.flatK enc k dk.toList.toArray).size=xs.length*k:=by simp[hs]
  by_cases hj:j<xs.length*k
  ·have hjc:j<cur.size:=by
    rw[g4];exact Nat.lt_of_lt_of_le hj (Nat.mul_le_mul_right _ e3)
   rw[List.getElem?_take_of_lt hj,Array.getElem?_toList,Array.getElem?_toList,Array.getElem?_eq_getElem (by simpa[Go.Sort.putCells] using hjc),Array.getElem?_eq_getElem (by rw[hfs];exact hj)]
   simp only[Go.Sort.putCells,Array.getElem_mapIdx,Nat.zero_le,Nat.sub_zero,Nat.zero_add,true_and,id]
   rw[if_pos (by simpa[hs] using hj),getElem!_pos _ j (by simpa[hs] using hj)]
  ·rw[List.getElem?_eq_none (by simp;omega),List.getElem?_eq_none (by simp[hs];omega)]
 ·rw[hkk b hb,Array.getElem?_modify,if_neg (fun e=>hne (by simp[e]))]
theorem permIn_list{d d':Array α}(h:Go.Sort.PermIn 0 d.size d d'):d'.toList.Perm d.toList:=by
 obtain⟨h1,_,h2⟩:=h;have e:∀x:Array α,x.size=d.size→x.extract 0 d.size=x:=fun x hx=>by rw[←hx];simp
 rwa [e d' h1,e d rfl]at h2
theorem sortedIn_list{lt:α→α→Bool}{d:Array α}{m:Nat}(hm:m=d.size)(h:Go.Sort.SortedIn lt 0 m d):d.toList.Pairwise fun a b=>lt b a=false:=by
 subst hm;rw[List.pairwise_iff_getElem];intro i j hi hj hij;have:=h i j (Nat.zero_le _) hij (by simpa using hj)
 simp only[Array.length_toList]at hi hj
 simpa[hi,hj] using this
theorem SortFunc_K{ρ:Go.Shelf.Ren}(L:Go.Proofs.SlLaysF0.n6 P ρ)(cf:α→α→Int)(f:Nat)(cap:List Value)[FnOk P f](xs:List α)(v:Value)(hw:Wd Γ S w)(hi:S[i]? = some (.own v E k (xs.map enc)))
  (hk:∀x,(enc x).length=k) (h1:∀x,∀u∈enc x,u.oneCell'=true) (hA:TA P (ρ.t 24) k) (hO:Go.Sort.SWO (Go.Proofs.ltOf cf)) (hlen:xs.length<4611686018427387904)
  (hcmp:∀(dk:List α) w',Wd Γ (S.set i (.own v E k (dk.map enc))) w'→∀x y,Calls P f (#[.agg (enc x).toArray,.agg (enc y).toArray]++cap.toArray) w' fun e w''=>e=.returned (.int .i64 (cf x y))∧∃S'',Wd (allG w') S'' w'') :
  Calls P (ρ.f 6) #[v,.func (.func f) #[] cap.toArray] w fun e w'=>e=.returned (.tuple #[])∧∃ys:List α,ys.Perm xs∧(ys.Pairwise fun a b=>Go.Proofs.ltOf cf b a=false)∧Wd Γ (S.set i (.own v E k (ys.map enc))) w':=by
 obtain⟨a,n,c,rfl,e2,e3,e4,e5⟩:=own_block hw hi
 have hn:n=xs.length:=by simpa using e2
 by_cases h0:n=0
 ·have hx:xs=[]:=List.eq_nil_of_length_eq_zero (by omega)
  subst h0;refine(Go.Proofs.AnyF.slices_SortFunc_none (P:=P) (ρ:=ρ) L a c _ w).mono ?_
  rintro e w' ⟨he,rfl⟩
  refine⟨he,[],by rw[hx],List.Pairwise.nil,?_⟩
  rw[hx]at hi;have hset:S.set i (.own (.slice a 0 c) E k (([]:List α).map enc))=S:=by
   obtain⟨hil,hie⟩:=List.getElem?_eq_some_iff.1 hi
   rw[←hie];exact List.set_getElem_self hil
  rw[hset];exact hw
 ·have hc:0<c:=by omega
  rcases e5 with e5|⟨g,cur,rfl,hg,hcur,hcs,htk⟩
  ·omega
  obtain⟨hH,hgl⟩:=own_holdsK hk hw hi hc
  have haggz:(∀w,(isAgg (ρ.t 24)).run P w=.ok true w)∧∀w,(Go.sizeOf (ρ.t 24)).run P w=.ok k w:=by
   have h:=hA.h
   unfold aggSz at h;cases hu:P.underlying (ρ.t 24) with
   | none=>simp[hu]at h
   | some t=>
    simp[hu]at h
    cases hq:P.info? (ρ.t 24) with
    | none=>simp[hq]at h
    | some q=>
     simp[hq]at h
     refine⟨fun w=>?_,fun w=>by simp[Go.sizeOf,typeInfo,hq,h.2]⟩
     unfold isAgg;rw[Sem.run_bind,run_underlying hu w];cases t <;> simp_all [TypeDesc.isRow]
  have:=Go.Proofs.AnyQ.slices_SortFunc L k haggz.1 haggz.2 enc hk h1 cf hO f cap.toArray g 0 c xs.toArray w (fun args w=>run_callFunc args) (fun m os dk hdk x y=>?_) hH hgl (by simpa using hlen)
  ·simp only[List.size_toArray]at this
   rw[←hn]at this;refine this.mono ?_
   rintro e w' ⟨he,d',n',os,hp,hs,rfl⟩
   have hd:d'.size=xs.length:=by have:=hp.1;simpa using this
   refine⟨he,d'.toList,by simpa using permIn_list (d:=xs.toArray) (by simpa[←hn] using hp),sortedIn_list (m:=n) (by omega) hs,own_sortWorld hk hw hi hc d' hd n' os⟩
  ·have hw1:=own_sortWorld hk hw hi hc dk (by simpa using hdk) m os
   refine(hcmp dk.toList _ hw1 x y).mono ?_
   rintro e w'' ⟨he,S'',hw2⟩
   exact⟨he,allG_grow hw2⟩
end
section
variable {P:Program}{n:Nat}{ops:List Oper}{Γ:Gho}{S K:List Res}{wr tc stab:List (List Nat)}{Q:Fr→World→Prop}{QQ:Exit→Fr→World→Prop}{i:Nat}{rest:List Oper}{ρ:Fr}{w:World}{M:Nat→Fr→List Res}{v:Value}
variable {d:Option Tmp}{T U ty:TypeId}{pos:String}{es:Array Edge}{x y z:Operand}
def pullL(i:Nat)(S:List Res):List Res:=match S[i]? with|some r=>r::S.eraseIdx i|none=>S
def psL:List Nat→List Res→List Res
 | [],S=>S
 | i::is,S=>psL is (pullL i S)
theorem Wd.ps{Γ:Gho}{w:World}:∀(is:List Nat) {S:List Res},Wd Γ S w→Wd Γ (psL is S) w
 | [],_,h=>h
 | i::is,S,h=>Wd.ps is (by
  unfold pullL;split
  ·rename_i r hr;exact h.pull hr
  ·exact h)
def dsL:List Nat→List Res→List Res
 | [],S=>S
 | i::is,S=>dsL is (S.eraseIdx i)
theorem Wd.ds{Γ:Gho}{w:World}:∀(is:List Nat) {S:List Res},Wd Γ S w→Wd Γ (dsL is S) w
 | [],_,h=>h
 | i::is,_,h=>Wd.ds is (h.dropAt i)
theorem Wd.flip{A B:List Res}(h:Wd Γ (A++B) w):Wd Γ (B++A) w:=h.perm List.perm_append_comm
theorem Wd.dropEnd{A B C:List Res}(h:Wd Γ (A++(B++C)) w):Wd Γ (A++B) w:=by
 rw[←List.append_assoc]at h;exact h.left
theorem W_mixE{id:Nat}{l:List Oper}(k:Nat)(wr tc stab:List (List Nat))(h:MSw (mV P n l Γ K wr tc stab) (fun ρ w=>QQ .normal ρ w) 0 l ⟨ρ,ML (List.replicate k fun _=>[])⟩)
  (hw:Wd Γ K w:=by exact hw) (hm:P.follows .mixedOrders=true:=by kernel_rfl) (hk:checkM n l wr tc stab=true:=by kernel_rfl):W P n (.region id l.toArray true) QQ ρ w:=
 W_mixed K _ wr tc stab (by
  have:((List.range stab.length).flatMap fun x=>ML (List.replicate k fun _=>[]) x (ovr (stab.getD x []) ρ noFr))=[]:=by
   rw[List.flatMap_eq_nil_iff];intro x _;unfold ML;rw[List.getD_eq_getElem?_getD];cases hx:(List.replicate k fun _:Fr=>([]:List Res))[x]? with
   | none=>rfl
   | some q=>
    have:=List.mem_of_getElem? hx
    rw[List.mem_replicate]at this;rw[this.2];rfl
  rw[this,List.append_nil];exact hw) h hm hk
theorem W_mix1{id:Nat}{l:List Oper}(K X:List Res)(wr tc:List (List Nat))(hw:Wd Γ (K++X) w)(h:MSw (mV P n l Γ K wr tc [[]]) (fun ρ w=>QQ .normal ρ w) 0 l ⟨ρ,ML [fun _=>X]⟩)
  (hm:P.follows .mixedOrders=true:=by kernel_rfl) (hk:checkM n l wr tc [[]]=true:=by kernel_rfl):W P n (.region id l.toArray true) QQ ρ w:=
 W_mixed K [fun _=>X] wr tc [[]] (by
  show Wd Γ (K++(X++[])) w
  rw[List.append_nil];exact hw) h hm hk
theorem W_mix2{id:Nat}{l:List Oper}(K X:List Res)(wr tc stab:List (List Nat))(hw:Wd Γ (K++X) w)(h:MSw (mV P n l Γ K wr tc stab) (fun ρ w=>QQ .normal ρ w) 0 l ⟨ρ,ML [fun _=>X,fun _=>[]]⟩)(hs:stab.length=2:=by exact rfl)
  (hm:P.follows .mixedOrders=true:=by kernel_rfl) (hk:checkM n l wr tc stab=true:=by kernel_rfl):W P n (.region id l.toArray true) QQ ρ w:=
 W_mixed K [fun _=>X,fun _=>[]] wr tc stab (by
  have e:(List.range stab.length).flatMap (fun x=>(ML [fun _=>X,fun _=>[]]) x (ovr (stab.getD x []) ρ noFr))=X:=by
   rw[hs];show X++([]++[])=X
   simp
  rw[e];exact hw) h hm hk
theorem mStoreC{c b o j m:Nat}{cs:Array Value}{E:TypeId}{vs:List Value}{X:List Res}[hn:TSz P T m](h:MSw (mV P n ops Γ K wr tc stab) Q (i+1) rest ⟨ρ,setC M c fun _=>X.set j (.blk b (.cells (putCells cs o vs) E))⟩)
  (ht:tc.getD i []=[c]:=by exact rfl) (hM:M c=(fun _=>X):=by exact rfl) (hj:X[j]? = some (.blk b (.cells cs E)):=by exact byIX) (hw0:wr.getD i []=[c]:=by exact rfl) (hx:∀g,ev (ovr stab.flatten g ρ) x=.pointer (some ⟨b,o,none⟩):=by intro g;exact rfl)
  (hy:∀g,ev (ovr stab.flatten g ρ) y=v:=by intro g;exact byMV) (hv:v.cells.toList=vs:=by exact rfl) (hl:vs.length=m:=by exact rfl) (h1:vs.all (·.oneCell')=true:=by exact rfl) (ho:o+m≤cs.size:=by exact Nat.le_of_ble_eq_true rfl) :
  MSw (mV P n ops Γ K wr tc stab) Q i (⟨none,.store T x y,ty,pos,es,none⟩::rest) ⟨ρ,M⟩:=by
 refine mM (v:=undef) _ (fun Y w g hw=>?_) h hw0 rfl
 have e:∀M',cellsAt tc stab i M' g=M' c (ovr (stab.getD c []) g noFr):=fun M'=>by
  unfold cellsAt;rw[ht];simp
 rw[e,hM]at hw;have hjl:j<X.length:=(List.getElem?_eq_some_iff.1 hj).1
 refine s_store hn.h hw (hx g) (hy g) hv hl (fun u hu=>(List.all_eq_true.1 h1) u hu) (i:=K.length+j) (by rw[List.getElem?_append_right (Nat.le_add_right _ _),Nat.add_sub_cancel_left,List.getElem?_append_left hjl];exact hj) ho fun w' hw'=>⟨?_,fun _=>rfl⟩
 have e2:cellsAt tc stab i (setC M c fun _=>X.set j (.blk b (.cells (putCells cs o vs) E))) (putO g none undef)=X.set j (.blk b (.cells (putCells cs o vs) E)):=by
  unfold cellsAt;rw[ht];simp[setC_self]
 rw[e2];rw[List.set_append_right _ _ (Nat.le_add_right _ _),Nat.add_sub_cancel_left,List.set_append_left _ _ hjl]at hw';exact hw'
theorem cells1{c:Nat}{g:Fr}(ht:tc.getD i []=[c])(M:Nat→Fr→List Res):cellsAt tc stab i M g=M c (ovr (stab.getD c []) g noFr):=by unfold cellsAt;rw[ht];simp
theorem cells2{c c2:Nat}{g:Fr}(ht:tc.getD i []=[c,c2])(M:Nat→Fr→List Res):cellsAt tc stab i M g=M c (ovr (stab.getD c []) g noFr)++M c2 (ovr (stab.getD c2 []) g noFr):=by unfold cellsAt;rw[ht];simp
theorem setC_other{c c':Nat}{m:Fr→List Res}(h:c'≠c):setC M c m c'=M c':=by simp[setC,h]
theorem mStoreE{c k j m cc sz E:Nat}{a:Option Addr}{r:List Value}{rows:List (List Value)}{X:List Res}[hn:TSz P T sz](h:MSw (mV P n ops Γ K wr tc stab) Q (i+1) rest ⟨ρ,setC M c fun _=>X.set j (.own (.slice a m cc) E sz (rows.set k r))⟩)
  (ht:tc.getD i []=[c]:=by exact rfl) (hM:M c=(fun _=>X):=by exact rfl) (hj:X[j]? = some (.own (.slice a m cc) E sz rows):=by exact byIX) (hw0:wr.getD i []=[c]:=by exact rfl) (hx:∀g,ev (ovr stab.flatten g ρ) x=.pointer (some ⟨aB a,aO a+k*sz,none⟩):=by intro g;exact rfl)
  (hy:∀g,ev (ovr stab.flatten g ρ) y=v:=by intro g;exact byMV) (hv:v.cells.toList=r:=by exact rfl) (hl:r.length=sz:=by exact rfl) (h1:r.all (·.oneCell')=true:=by exact rfl) (hk:k<m:=by omega) :
  MSw (mV P n ops Γ K wr tc stab) Q i (⟨none,.store T x y,ty,pos,es,none⟩::rest) ⟨ρ,M⟩:=by
 refine mM (v:=undef) _ (fun Y w g hw=>?_) h hw0 rfl
 rw[cells1 ht,hM]at hw;have hjl:j<X.length:=(List.getElem?_eq_some_iff.1 hj).1
 refine s_storeE hn.h hw (hx g) (hy g) hv hl h1 (i:=K.length+j) (by rw[List.getElem?_append_right (Nat.le_add_right _ _),Nat.add_sub_cancel_left,List.getElem?_append_left hjl];exact hj) hk fun w' hw'=>⟨?_,fun _=>rfl⟩
 rw[cells1 ht,setC_self];rw[List.set_append_right _ _ (Nat.le_add_right _ _),Nat.add_sub_cancel_left,List.set_append_left _ _ hjl]at hw';exact hw'
theorem mBuild{c dd E by' len sz:Nat}{zs:List Value}{parts:Array (Nat×Operand)}{cells:List Value}(rws:List (List Value))[TL P T E sz by' zs](h:MSw (mV P n ops Γ K wr tc stab) Q (i+1) rest ⟨putO ρ (some dd) undef,setC M c fun g=>[.own (g dd) E sz rws]⟩)
  (hf:∀g,fillL (fun i=>some (i*sz,sz)) ((List.range (len*sz)).map fun i=>zs.getD (i%sz) undef) (parts.toList.map fun p=>(p.1,ev (ovr stab.flatten g ρ) p.2))=some cells:=by intro g;exact rfl)
  (ht:tc.getD i []=[c]:=by exact rfl) (hM:M c=(fun _=>[]):=by exact rfl) (hs:(stab.getD c []).contains dd=true:=by exact rfl) (hfr:freeD stab (some dd)=true:=by exact rfl) (hw0:wr.getD i []=[c]:=by exact rfl)
  (hrw:rws.flatten=cells:=by exact rfl) (hlen:rws.length=len:=by exact rfl) (hr:rws.all (fun r=>Nat.beq r.length sz)=true:=by exact rfl) (hbig:Nat.ble (len*sz) 16777216=true:=by exact rfl) :
  MSw (mV P n ops Γ K wr tc stab) Q i (⟨some dd,.buildSlice T len parts,ty,pos,es,none⟩::rest) ⟨ρ,M⟩:=by
 refine mM (v:=undef) _ (fun Y w g hw=>?_) h hw0 rfl
 rw[cells1 ht,hM]at hw;refine s_buildSlice (rws:=rws) hw (hf g) hrw hlen (fun r hm=>Nat.eq_of_beq_eq_true ((List.all_eq_true.1 hr) r hm)) (Nat.le_of_ble_eq_true hbig) fun a w' hw'=>⟨?_,fun hh=>by rw[hfr]at hh;cases hh⟩
 rw[cells1 ht,setC_self];have h1:ovr (stab.getD c []) (putO g (some dd) (.slice (some a) len len)) noFr dd=.slice (some a) len len:=by
  rw[ovr_in (by simpa using hs)];exact upd_same _ _ _
 rw[h1];exact Wd.unmid hw'
theorem mApp{c c2 dd dy j E by' sz m cc:Nat}{zs:List Value}{a:Option Addr}{rows rows2:List (List Value)}{X:List Res}[TL P T E sz by' zs](h:MSw (mV P n ops Γ K wr tc stab) Q (i+1) rest ⟨putO ρ (some dd) undef,setC M c fun g=>X.set j (.own (g dd) E sz (rows++rows2))⟩)
  (hx:∀g,ev (ovr stab.flatten g ρ) x=.slice a m cc:=by intro g;exact rfl) (ht:tc.getD i []=[c,c2]:=by exact rfl) (hM:M c=(fun _=>X):=by exact rfl) (hM2:M c2=(fun g=>[.own (g dy) E sz rows2]):=by exact rfl) (hj:X[j]? = some (.own (.slice a m cc) E sz rows):=by exact byIX)
  (hs:(stab.getD c []).contains dd=true:=by exact rfl) (hs2:(stab.getD c2 []).contains dy=true:=by exact rfl) (hfr:freeD stab (some dd)=true:=by exact rfl) (hfy:stab.flatten.contains dy=true:=by exact rfl) (hne:Nat.beq dy dd=false:=by exact rfl) (hcc:Nat.beq c2 c=false:=by exact rfl) (hw0:wr.getD i []=[c]:=by exact rfl)
  (h1:rows2.flatten.all (·.oneCell')=true:=by exact rfl) (hb:(m+rows2.length)*by'≤140737488355328:=by (simp only[List.length_cons,List.length_nil];omega)) (h63:m+rows2.length≤9223372036854775807:=by (simp only[List.length_cons,List.length_nil];omega)) :
  MSw (mV P n ops Γ K wr tc stab) Q i (⟨some dd,.call { callee:=.builtin .append,args:=#[x,.tmp dy],argTypes:=#[T,T] },ty,pos,es,none⟩::rest) ⟨ρ,M⟩:=by
 refine mM (v:=undef) _ (fun Y w g hw=>?_) h hw0 rfl
 have hyd:dy≠dd:=fun e=>by subst e;simp at hne
 have hcd:c2≠c:=fun e=>by subst e;simp at hcc
 rw[cells2 ht,hM,hM2]at hw;have h2:∀f:Fr,ovr (stab.getD c2 []) f noFr dy=f dy:=fun f=>ovr_in (by simpa using hs2)
 simp only[h2]at hw
 have hjl:j<X.length:=(List.getElem?_eq_some_iff.1 hj).1
 have hi1:(K++(X++[.own (g dy) E sz rows2]++Y))[K.length+j]? = some (.own (.slice a m cc) E sz rows):=by
  rw[List.getElem?_append_right (Nat.le_add_right _ _),Nat.add_sub_cancel_left,List.append_assoc,List.getElem?_append_left hjl];exact hj
 have hi2:(K++(X++[.own (g dy) E sz rows2]++Y))[K.length+X.length]? = some (.own (g dy) E sz rows2):=by
  rw[List.getElem?_append_right (Nat.le_add_right _ _),Nat.add_sub_cancel_left,List.append_assoc,List.getElem?_append_right (Nat.le_refl _)];simp
 obtain⟨a2,m2,c3,e1,e2,e3,e4⟩:=hw.own_shape hi2
 have hrd:Rd w a2 sz rows2:=by
  have hw2:=hw
  have hi3:=hi2
  rw[e1]at hw2 hi3
  exact hw2.own_rd hi3
 have hy:ev (ovr stab.flatten g ρ) (.tmp dy)=.slice a2 m2 c3:=by
  show ovr stab.flatten g ρ dy=_
  rw[ovr_in (by simpa using hfy)];exact e1
 refine s_append hw (hx g) hy hi1 hrd e2 (fun u hu=>(List.all_eq_true.1 h1) u hu) (by rw[e2];exact hb) (by rw[e2];exact h63) fun v' w' hw'=>⟨?_,fun hh=>by rw[hfr]at hh;cases hh⟩
 rw[cells2 ht,setC_self,setC_other hcd,hM2];have h3:ovr (stab.getD c []) (putO g (some dd) v') noFr dd=v':=by
  rw[ovr_in (by simpa using hs)];exact upd_same _ _ _
 have h4:putO g (some dd) v' dy=g dy:=upd_ne _ _ hyd
 simp only[h2,h3,h4]
 rw[List.append_assoc,List.set_append_right _ _ (Nat.le_add_right _ _),Nat.add_sub_cancel_left,List.set_append_left _ _ hjl]at hw';rw[List.append_assoc];exact hw'
theorem mStoreV{c b o j j2 dv E2 sz2:Nat}{cs:Array Value}{E:TypeId}{rows:List (List Value)}{X:Fr→List Res}[hn:TSz P T 1](h:MSw (mV P n ops Γ K wr tc stab) Q (i+1) rest ⟨ρ,setC M c fun g=>(X g).set j (.blk b (.cells (putCells cs o [g dv]) E))⟩)
  (ht:tc.getD i []=[c]:=by exact rfl) (hM:M c=X:=by exact rfl) (hj:∀g,(X g)[j]? = some (.blk b (.cells cs E)):=by intro g;exact byIX) (hj2:∀g,(X g)[j2]? = some (.own (g dv) E2 sz2 rows):=by intro g;exact byIX) (hw0:wr.getD i []=[c]:=by exact rfl) (hx:∀g,ev (ovr stab.flatten g ρ) x=.pointer (some ⟨b,o,none⟩):=by intro g;exact rfl)
  (hs:(stab.getD c []).contains dv=true:=by exact rfl) (hfv:stab.flatten.contains dv=true:=by exact rfl) (ho:o+1≤cs.size:=by exact Nat.le_of_ble_eq_true rfl) :
  MSw (mV P n ops Γ K wr tc stab) Q i (⟨none,.store T x (.tmp dv),ty,pos,es,none⟩::rest) ⟨ρ,M⟩:=by
 refine mM (v:=undef) _ (fun Y w g hw=>?_) h hw0 rfl
 rw[cells1 ht,hM]at hw;have hy:ev (ovr stab.flatten g ρ) (.tmp dv)=g dv:=ovr_in (by simpa using hfv)
 have hg:ovr (stab.getD c []) g noFr dv=g dv:=ovr_in (by simpa using hs)
 have hjl:j<(X (ovr (stab.getD c []) g noFr)).length:=(List.getElem?_eq_some_iff.1 (hj _)).1
 have hjl2:j2<(X (ovr (stab.getD c []) g noFr)).length:=(List.getElem?_eq_some_iff.1 (hj2 _)).1
 obtain⟨a2,m2,c3,e1,-,-,-⟩:=hw.own_shape (i:=K.length+j2) (v:=g dv) (e:=E2) (sz:=sz2) (rows:=rows) (by
  rw[List.getElem?_append_right (Nat.le_add_right _ _),Nat.add_sub_cancel_left,List.getElem?_append_left hjl2,hj2,hg])
 refine s_store hn.h hw (hx g) hy (vs:=[g dv]) (by rw[e1];rfl) rfl (fun u hu=>by simp at hu;subst hu;rw[e1];rfl) (i:=K.length+j) (by rw[List.getElem?_append_right (Nat.le_add_right _ _),Nat.add_sub_cancel_left,List.getElem?_append_left hjl];exact hj _) ho fun w' hw'=>⟨?_,fun _=>rfl⟩
 rw[cells1 ht,setC_self];rw[List.set_append_right _ _ (Nat.le_add_right _ _),Nat.add_sub_cancel_left,List.set_append_left _ _ hjl]at hw';simp only[putO,hg]
 exact hw'
end
section
variable {P:Program}{n:Nat}{opa:Array Oper}{Γ:Gho}{S:List Res}{QQ:Exit→Fr→World→Prop}{ρ:Fr}{w:World}{rest:List Oper}{j dj:Nat}{want c:Bool}
variable {d:Option Tmp}{op:Op}{T U ty:TypeId}{pos:String}{es:Array Edge}{x y z:Operand}
attribute [local semireducible] L Step gv GuardIs
theorem lGT(h:L P n opa QQ (⟨d,op,ty,pos,es,none⟩::rest) ρ w)(hj:(opa[j]?).bind (·.dst)=some dj:=by exact rfl)(hjn:okDst n (some dj)=true:=by exact rfl)(hc:GuardIs (ρ dj) want c:=by exact byGC)(hct:c=true:=by with_reducible rfl):L P n opa QQ (⟨d,op,ty,pos,es,some (j,want)⟩::rest) ρ w:=fun a hda hs hf=>by
 subst hct;have h1:=h a hda hs hf
 have hw:=wanted_fn (⟨d,op,ty,pos,es,some (j,want)⟩:Oper) opa a j want rfl dj hj (by rw[hs];exact okDst_spec hjn _ rfl)
 subst hf;rw[show (saysB (fnOf a dj) == some want)=true from hc]at hw;unfold wpList at h1 ⊢
 rw[if_pos hw];rw[if_pos (by simp[Region.wanted])]at h1
 exact h1
theorem lGF(h:L P n opa QQ rest (putO ρ d undef) w)(hj:(opa[j]?).bind (·.dst)=some dj:=by exact rfl)(hjn:okDst n (some dj)=true:=by exact rfl)(hd:okDst n d=true:=by exact rfl)(hc:GuardIs (ρ dj) want c:=by exact byGC)(hct:c=false:=by with_reducible rfl):L P n opa QQ (⟨d,op,ty,pos,es,some (j,want)⟩::rest) ρ w:=fun a hda hs hf=>by
 subst hct;have hw:=wanted_fn (⟨d,op,ty,pos,es,some (j,want)⟩:Oper) opa a j want rfl dj hj (by rw[hs];exact okDst_spec hjn _ rfl)
 subst hf;rw[show (saysB (fnOf a dj) == some want)=false from hc]at hw;unfold wpList;rw[if_neg (by rw[hw];simp)]
 exact h _ (by rw[defers_put];exact hda) (by rw[size_put];exact hs) (fnOf_putO a _ _ (by rw[hs];exact okDst_spec hd))
theorem lGC(hj:(opa[j]?).bind (·.dst)=some dj)(hjn:okDst n (some dj)=true)(hd:okDst n d=true)(hc:GuardIs (ρ dj) want c)(ht:c=true→L P n opa QQ (⟨d,op,ty,pos,es,none⟩::rest) ρ w)(hf:c=false→L P n opa QQ rest (putO ρ d undef) w):L P n opa QQ (⟨d,op,ty,pos,es,some (j,want)⟩::rest) ρ w:=by
 cases hcc:c with
 | true=>exact lGT (ht hcc) hj hjn hc hcc
 | false=>exact lGF (hf hcc) hj hjn hd hc hcc
theorem L_bin{bo:BinOp}(h:L P n opa QQ (⟨d,.binOp bo T x y U,ty,pos,es,none⟩::rest) ρ w):L P n opa QQ (⟨d,.binOp bo T x y U,ty,pos,es,none⟩::rest) ρ w:=h
theorem L_notop(h:L P n opa QQ (⟨d,.unOp .not T x,ty,pos,es,none⟩::rest) ρ w):L P n opa QQ (⟨d,.unOp .not T x,ty,pos,es,none⟩::rest) ρ w:=h
theorem lT{b:Bool}{o:Oper}(hb:b=true)(h:L P n opa QQ rest (putO ρ o.dst (.bool true)) w)(hg:o.guard=none:=by exact rfl)(hd:okDst n o.dst=true:=by exact rfl)(hw:Wd Γ S w:=by exact hw)(hy:Yields P o ρ w (.bool b):=by exact byPU):L P n opa QQ (o::rest) ρ w:=L_y hg hd (by rw[hb]at hy;exact hy) h
theorem lF{b:Bool}{o:Oper}(hb:b=false)(h:L P n opa QQ rest (putO ρ o.dst (.bool false)) w)(hg:o.guard=none:=by exact rfl)(hd:okDst n o.dst=true:=by exact rfl)(hw:Wd Γ S w:=by exact hw)(hy:Yields P o ρ w (.bool b):=by exact byPU):L P n opa QQ (o::rest) ρ w:=L_y hg hd (by rw[hb]at hy;exact hy) h
end
section
variable {P:Program}{n:Nat}{ops:List Oper}{Γ:Gho}{S:List Res}{Q:Fr→World→Prop}{ρ:Fr}{rest:List Oper}{j dj:Nat}{want c:Bool}
variable {d:Option Tmp}{op:Op}{T U ty:TypeId}{pos:String}{es:Array Edge}{x y z:Operand}
end
theorem enc_one{α:Type}[GoT α](a:α):(enc a).all (·.oneCell')=true:=by
 rw[List.all_eq_true];intro u hu;have h:kOf u∈(GoT.ks α).map some:=by rw[←GoT.kinds a];exact List.mem_map.2 ⟨u,hu,rfl⟩
 obtain⟨k,_,hk⟩:=List.mem_map.1 h
 cases u <;> simp[kOf]at hk <;> rfl
theorem encs_one{α:Type}[GoT α](xs:List α):(xs.map enc).flatten.all (·.oneCell')=true:=by
 rw[List.all_eq_true];intro u hu;obtain⟨r,hr,hur⟩:=List.mem_flatten.1 hu
 obtain⟨x,_,rfl⟩:=List.mem_map.1 hr
 exact(List.all_eq_true.1 (enc_one x)) u hur
section
end
attribute [local irreducible] Calls
def exC{T:Type}(φ:T→Fr→Prop)(R:T→List Res):Fr→List Res:=fun g=>[Res.ex (α:={t:T // φ t g}) fun p=>R p.1]
section
variable {P:Program}{n:Nat}{ops:List Oper}{Γ:Gho}{K X:List Res}{wr tc stab:List (List Nat)}{N:List Nat}{Q:Fr→World→Prop}{i:Nat}{rest:List Oper}{ρ:Fr}{w:World}{M:Nat→Fr→List Res}{v:Value}{T T':Type}
theorem W_mixC{id:Nat}{l:List Oper}{QQ:Exit→Fr→World→Prop}(K X:List Res)(N:List Nat)(wr:List (List Nat))(hw:Wd Γ (K++X) w)
  (h:MSw (mV P n l Γ K wr wr [N]) (fun ρ w=>QQ .normal ρ w) 0 l ⟨ρ,fun _=>exC (T:=Unit) (fun _ _=>True) (fun _=>X)⟩)
  (hm:P.follows .mixedOrders=true:=by kernel_rfl) (hk:checkM n l wr wr [N]=true:=by kernel_rfl):W P n (.region id l.toArray true) QQ ρ w:=
 W_mix K (fun _=>exC (T:=Unit) (fun _ _=>True) (fun _=>X)) wr wr [N] true hm hk (by
  have e:cellsOf (mV P n l Γ K wr wr [N]) (List.range [N].length) (fun _=>exC (T:=Unit) (fun _ _=>True) (fun _=>X)) ρ=exC (T:=Unit) (fun _ _=>True) (fun _=>X) (ovr N ρ noFr):=by
   show _++[]=_
   rw[List.append_nil];rfl
  show Wd Γ (K++cellsOf (mV P n l Γ K wr wr [N]) (List.range [N].length) (fun _=>exC (T:=Unit) (fun _ _=>True) (fun _=>X)) ρ) w
  rw[e];have h1:Wd Γ (X++K) w:=hw.perm List.perm_append_comm
  have h2:=Wd.closeEx (α:={t:Unit // True}) (X:=fun _=>X) ⟨(),trivial⟩ h1
  exact(h2.perm (List.perm_append_singleton _ K).symm:_)) h
theorem mStepX{φ:T→Fr→Prop}{R:T→List Res}{o:Oper}(φ':T'→Fr→Prop)(R':T'→List Res)
  (hs:∀t g w Y,φ t (ovr N g noFr)→Wd Γ (R t++(K++Y)) w→Step P o (ovr N g ρ) w fun u w'=>∃t',φ' t' (ovr N (putO g o.dst u) noFr)∧(freeD [N] o.dst=false→u=v)∧Wd Γ (R' t'++(K++Y)) w')
  (h:MSw (mV P n ops Γ K wr wr [N]) Q (i+1) rest ⟨putO ρ o.dst v,setC M 0 (exC φ' R')⟩) (hM:M 0=exC φ R:=by first|exact setC_self|exact rfl) (hw0:wr.getD i []=[0]:=by exact rfl) (hg:o.guard=none:=by exact rfl) :
  MSw (mV P n ops Γ K wr wr [N]) Q i (o::rest) ⟨ρ,M⟩:=by
 refine mM _ (fun Y w g hw=>?_) h hw0 hg
 have e:cellsAt wr [N] i M g=exC φ R (ovr N g noFr):=by
  rw[cells1 hw0,hM];rfl
 rw[e]at hw;have e0:([N].flatten:List Nat)=N:=by simp
 rw[e0];obtain⟨⟨t,ht⟩,hw1⟩:=(Wd.mid hw).openEx
 refine(hs t g w Y ht hw1).mono ?_
 rintro u w' ⟨t',h1,h2,h3⟩
 refine⟨?_,h2⟩
 have e2:cellsAt wr [N] i (setC M 0 (exC φ' R')) (putO g o.dst u)=exC φ' R' (ovr N (putO g o.dst u) noFr):=by
  rw[cells1 hw0,setC_self];rfl
 rw[e2];exact Wd.unmid (Wd.closeEx (X:=fun p:{t:T' // φ' t (ovr N (putO g o.dst u) noFr)}=>R' p.1) ⟨t',h1⟩ h3)
theorem mCallX{φ:T→Fr→Prop}{R:T→List Res}{f:Nat}{d:Option Tmp}{ty:TypeId}{pos:String}{es:Array Edge}{args:List Operand}{tys:Array TypeId}[FnOk P f](φ':T'→Fr→Prop)(R':T'→List Res)(vs:T→Fr→List Value)
  (hs:∀t g w Y,φ t (ovr N g noFr)→Wd Γ (R t++(K++Y)) w→Calls P f (vs t (ovr N g noFr)).toArray w fun e w'=>∃u,e=.returned u∧∃t',φ' t' (ovr N (putO g d u) noFr)∧(freeD [N] d=false→u=v)∧Wd Γ (R' t'++(K++Y)) w')
  (h:MSw (mV P n ops Γ K wr wr [N]) Q (i+1) rest ⟨putO ρ d v,setC M 0 (exC φ' R')⟩) (ha:∀t g,φ t (ovr N g noFr)→EvL (ovr N g ρ) args (vs t (ovr N g noFr)):=by (intro t g ht;exact byEV)) (hM:M 0=exC φ R:=by first|exact setC_self|exact rfl) (hw0:wr.getD i []=[0]:=by exact rfl) :
  MSw (mV P n ops Γ K wr wr [N]) Q i (⟨d,.call { callee:=.value (.func f),args:=args.toArray,argTypes:=tys },ty,pos,es,none⟩::rest) ⟨ρ,M⟩:=
 mStepX φ' R' (fun t g w Y ht hw=>s_call (ha t g ht).eqA (hs t g w Y ht hw)) h hM hw0 rfl
theorem mEndX{φ:T→Fr→Prop}{R:T→List Res}(h:∀t w g,φ t (ovr N g noFr)→Wd Γ (R t++K) w→Q (ovr N g ρ) w)(hM:M 0=exC φ R:=by first|exact setC_self|exact rfl):MSw (mV P n ops Γ K wr tc [N]) Q i [] ⟨ρ,M⟩:=
 mEnd fun w g hw=>by
  have e:((List.range [N].length).flatMap fun x=>M x (ovr ([N].getD x []) g noFr))=exC φ R (ovr N g noFr):=by
   show M 0 _++[]=_
   rw[List.append_nil,hM];rfl
  rw[e]at hw;have e0:([N].flatten:List Nat)=N:=by simp
  rw[e0];obtain⟨⟨t,ht⟩,hw1⟩:=(Wd.mid (Y:=[]) hw).openEx
  exact h t w g ht (by simpa using hw1)
end
end Mk
end
section
open Go
namespace Mk
def cI(a b:Int):Int:=if a<b then -1 else if b<a then 1 else 0
def cB(a b:ByteArray):Int:=if bLt a b=true then -1 else if bLt b a=true then 1 else 0
def orI(x y:Int):Int:=if x=0 then y else x
def cL{α:Type}(c:α→α→Int):List α→List α→Int
 | [],[]=>0
 | [],_::_=>-1
 | _::_,[]=>1
 | a::l,b::k=>orI (c a b) (cL c l k)
structure Ord3{α:Type}(c:α→α→Int):Prop where
 rng:∀a b,c a b = -1∨c a b=0∨c a b=1
 eq0:∀ {a b},c a b=0→a=b
 refl:∀a,c a a=0
 anti:∀a b,c b a = -(c a b)
 trans:∀ {a b d},c a b = -1→c b d = -1→c a d = -1
theorem cI_lt{a b:Int}:cI a b = -1↔a<b:=by
 unfold cI;by_cases h:a<b
 ·simp[h]
 ·by_cases h2:b<a <;> simp[h,h2]
theorem cI_ord:Ord3 cI where
 rng a b:=by
  unfold cI;by_cases h:a<b
  ·simp[h]
  ·by_cases h2:b<a <;> simp[h,h2]
 eq0 {a b} e:=by
  unfold cI at e;by_cases h:a<b
  ·simp[h]at e
  ·by_cases h2:b<a
   ·simp[h,h2]at e
   ·omega
 refl a:=by unfold cI;simp
 anti a b:=by
  unfold cI;by_cases h:a<b
  ·rw[if_neg (by omega),if_pos h,if_pos h];rfl
  ·by_cases h2:b<a
   ·rw[if_pos h2,if_neg h,if_pos h2]
   ·rw[if_neg h2,if_neg h,if_neg h,if_neg h2];rfl
 trans {a b d} h k:=by rw[cI_lt] at *;omega
theorem cB_lt{a b:ByteArray}:cB a b = -1↔bLt a b=true:=by
 unfold cB;cases h:bLt a b with
 | true=>simp
 | false=>cases bLt b a <;> simp
theorem cB_ord:Ord3 cB where
 rng a b:=by unfold cB;cases bLt a b <;> cases bLt b a <;> simp
 eq0 {a b} h:=by
  unfold cB at h;cases h1:bLt a b with
  | true=>rw[h1]at h;cases h
  | false=>
   cases h2:bLt b a with
   | true=>rw[h1,h2]at h;cases h
   | false=>exact bLt_total h1 h2
 refl a:=by unfold cB;simp[bLt_irrefl]
 anti a b:=by
  unfold cB;cases h1:bLt a b with
  | true=>rw[bLt_asymm h1];rfl
  | false=>cases h2:bLt b a <;> rfl
 trans {a b d} h k:=by rw[cB_lt] at *;exact bLt_trans h k
section
variable {α β:Type}{c:α→α→Int}{c2:β→β→Int}
theorem orI_zero{x y:Int}:orI x y=0↔x=0∧y=0:=by
 unfold orI;split
 ·rename_i h;simp[h]
 ·rename_i h;simp[h]
theorem Ord3.map(h:Ord3 c)(f:β→α)(hf:∀a b,f a=f b→a=b):Ord3 (fun a b=>c (f a) (f b)):=
 ⟨fun _ _=>h.rng _ _,fun e=>hf _ _ (h.eq0 e),fun _=>h.refl _,fun _ _=>h.anti _ _,fun a b=>h.trans a b⟩
theorem orI_neg{x y:Int}:orI x y = -1↔x = -1∨(x=0∧y = -1):=by
 unfold orI;split
 ·rename_i h;subst h;simp
 ·rename_i h;simp[h]
theorem Ord3.prod(h:Ord3 c)(h2:Ord3 c2):Ord3 (fun (a b:α×β)=>orI (c a.1 b.1) (c2 a.2 b.2)) where
 rng a b:=by
  unfold orI;split
  ·exact h2.rng _ _
  ·exact h.rng _ _
 eq0 {a b} e:=by
  rw[orI_zero]at e;exact Prod.ext (h.eq0 e.1) (h2.eq0 e.2)
 refl a:=by rw[orI_zero];exact⟨h.refl _,h2.refl _⟩
 anti a b:=by
  unfold orI;rw[h.anti a.1 b.1,h2.anti a.2 b.2];by_cases e:c a.1 b.1=0
  ·simp[e]
  ·rw[if_neg (by omega),if_neg e]
 trans {a b d} e k:=by
  rw[orI_neg] at *
  rcases e with e|⟨e,e'⟩ <;> rcases k with k|⟨k,k'⟩
  ·exact .inl (h.trans e k)
  ·rw[←h.eq0 k];exact .inl e
  ·rw[h.eq0 e];exact .inl k
  ·rw[h.eq0 e];exact .inr ⟨k,h2.trans e' k'⟩
theorem cL_rng(h:Ord3 c):∀a b,cL c a b = -1∨cL c a b=0∨cL c a b=1
 | [],[]=>.inr (.inl rfl)
 | [],_::_=>.inl rfl
 | _::_,[]=>.inr (.inr rfl)
 | a::l,b::k=>by
  unfold cL orI;split
  ·exact cL_rng h l k
  ·exact h.rng _ _
theorem cL_eq0(h:Ord3 c):∀ {a b},cL c a b=0→a=b
 | [],[],_=>rfl
 | [],_::_,e=>by cases e
 | _::_,[],e=>by cases e
 | a::l,b::k,e=>by
  unfold cL at e;rw[orI_zero]at e;rw[h.eq0 e.1,cL_eq0 h e.2]
theorem cL_refl(h:Ord3 c):∀a,cL c a a=0
 | []=>rfl
 | a::l=>by unfold cL;rw[orI_zero];exact⟨h.refl _,cL_refl h l⟩
theorem cL_anti(h:Ord3 c):∀a b,cL c b a = -(cL c a b)
 | [],[]=>rfl
 | [],_::_=>rfl
 | _::_,[]=>rfl
 | a::l,b::k=>by
  unfold cL orI;rw[h.anti a b,cL_anti h l k];by_cases e:c a b=0
  ·simp[e]
  ·rw[if_neg (by omega),if_neg e]
theorem cL_trans(h:Ord3 c):∀ {a b d},cL c a b = -1→cL c b d = -1→cL c a d = -1
 | [],_,_::_,_,_=>rfl
 | [],[],[],e,_=>by cases e
 | [],_::_,[],_,k=>by cases k
 | _::_,[],_,e,_=>by cases e
 | _::_,_::_,[],_,k=>by cases k
 | a::l,b::m,d::n,e,k=>by
  unfold cL at *
  rw[orI_neg] at *
  rcases e with e|⟨e,e'⟩ <;> rcases k with k|⟨k,k'⟩
  ·exact .inl (h.trans e k)
  ·rw[←h.eq0 k];exact .inl e
  ·rw[h.eq0 e];exact .inl k
  ·rw[h.eq0 e];exact .inr ⟨k,cL_trans h e' k'⟩
theorem Ord3.list(h:Ord3 c):Ord3 (cL c):=⟨cL_rng h,cL_eq0 h,cL_refl h,cL_anti h,cL_trans h⟩
theorem Ord3.lt_iff(h:Ord3 c){a b:α}:Go.Proofs.ltOf c a b=true↔c a b = -1:=by
 unfold Go.Proofs.ltOf;rw[decide_eq_true_iff];rcases h.rng a b with e|e|e <;> rw[e] <;> simp
theorem Ord3.swo(h:Ord3 c):Go.Sort.SWO (Go.Proofs.ltOf c) where
 irrefl x:=by unfold Go.Proofs.ltOf;rw[h.refl];rfl
 trans x y z e k:=by rw[h.lt_iff] at *;exact h.trans e k
 ntrans x y z e k:=by
  cases q:Go.Proofs.ltOf c x z with
  | false=>rfl
  | true=>
   rw[h.lt_iff]at q;rcases h.rng x y with a|a|a
   ·rw[h.lt_iff.2 a]at e;cases e
   ·have:=h.eq0 a;subst this;rw[h.lt_iff.2 q]at k;cases k
   ·have:c y x = -1:=by rw[h.anti x y,a]
    rw[h.lt_iff.2 (h.trans this q)]at k;cases k
end
attribute [local irreducible] Calls
class PG(P:Program)(Γ:Gho)(f:Nat)(args:List Value)(v:outParam Value):Prop where
 h:∀S w,Wd Γ S w→Calls P f args.toArray w fun e w'=>e=.returned v∧Wd Γ S w'
section
variable {P:Program}{n:Nat}{ops:List Oper}{opa:Array Oper}{Γ:Gho}{S K:List Res}{Q:Fr→World→Prop}{QQ:Exit→Fr→World→Prop}{ρ:Fr}{w:World}{rest:List Oper}{wr tc stab:List (List Nat)}{i:Nat}{M:Nat→Fr→List Res}
variable {d:Option Tmp}{ty:TypeId}{pos:String}{es:Array Edge}{v:Value}{f:Nat}{args:List Operand}{tys:Array TypeId}{vs:List Value}{j dj:Nat}{want c:Bool}{g:Option (Nat×Bool)}
theorem s_pg[FnOk P f](hp:PG P Γ f vs v)(ha:EvL ρ args vs)(hw:Wd Γ S w):Step P ⟨d,.call { callee:=.value (.func f),args:=args.toArray,argTypes:=tys },ty,pos,es,g⟩ ρ w fun u w'=>u=v∧Wd Γ S w':=
 s_call ha.eqA ((hp.h S w hw).mono fun _ _ ⟨h1,h2⟩=>⟨v,h1,rfl,h2⟩)
theorem lPg[FnOk P f](h:∀w',Wd Γ S w'→L P n opa QQ rest (putO ρ d v) w')(hw:Wd Γ S w:=by exact hw)(ha:EvL ρ args vs:=by exact byEV)(hd:okDst n d=true:=by exact rfl)(hp:PG P Γ f vs v:=by infer_instance) :
  L P n opa QQ (⟨d,.call { callee:=.value (.func f),args:=args.toArray,argTypes:=tys },ty,pos,es,none⟩::rest) ρ w:=
 L_step rfl hd ((s_pg hp ha hw).mono fun _ w' ⟨h1,h2⟩=>by subst h1;exact h w' h2)
theorem qPg[FnOk P f](h:Qw P n ops Γ S Q rest (putO ρ d v))(ha:EvL ρ args vs:=by exact byEV)(hp:PG P Γ f vs v:=by infer_instance) :
  Qw P n ops Γ S Q (⟨d,.call { callee:=.value (.func f),args:=args.toArray,argTypes:=tys },ty,pos,es,none⟩::rest) ρ:=
 Q_c rfl rfl (fun _ _ hw=>s_pg hp ha hw) h
theorem qPgG[FnOk P f](h:Qw P n ops Γ S Q rest (putO ρ d (gv c v)))(hj:(ops[j]?).bind (·.dst)=some dj:=by exact rfl)(hc:GuardIs (ρ dj) want c:=by exact byGC)(ha:c=true→EvL ρ args vs:=by intro hc;exact byEVG)(hp:PG P Γ f vs v:=by infer_instance) :
  Qw P n ops Γ S Q (⟨d,.call { callee:=.value (.func f),args:=args.toArray,argTypes:=tys },ty,pos,es,some (j,want)⟩::rest) ρ:=
 Q_gc rfl hj hc rfl (fun ht _ _ hw=>s_pg hp (ha ht) hw) h
theorem qPgH[FnOk P f](hp:c=true→PG P Γ f vs v)(h:Qw P n ops Γ S Q rest (putO ρ d (gv c v)))(hj:(ops[j]?).bind (·.dst)=some dj:=by exact rfl)(hc:GuardIs (ρ dj) want c:=by exact byGC)(ha:c=true→EvL ρ args vs:=by intro hc;exact byEVG) :
  Qw P n ops Γ S Q (⟨d,.call { callee:=.value (.func f),args:=args.toArray,argTypes:=tys },ty,pos,es,some (j,want)⟩::rest) ρ:=
 Q_gc rfl hj hc rfl (fun ht _ _ hw=>s_pg (hp ht) (ha ht) hw) h
theorem mPg[FnOk P f](h:MSw (mV P n ops Γ K wr tc stab) Q (i+1) rest ⟨putO ρ d v,M⟩)(hw0:wr.getD i []=[]:=by exact rfl)(ho:outOf tc stab i d=true:=by exact rfl)(ha:∀g,EvL (ovr stab.flatten g ρ) args vs:=by intro g;exact byEV)(hp:PG P Γ f vs v:=by infer_instance) :
  MSw (mV P n ops Γ K wr tc stab) Q i (⟨d,.call { callee:=.value (.func f),args:=args.toArray,argTypes:=tys },ty,pos,es,none⟩::rest) ⟨ρ,M⟩:=
 mC (fun _ _ g hw=>s_pg hp (ha g) hw) hw0 rfl ho h
end
theorem Wd.freeze{Γ:Gho}{S:List Res}{w:World}{v:Value}{e sz:Nat}{rows:List (List Value)}(h:Wd Γ (.own v e sz rows::S) w):∃Γ',Γ.le Γ'∧RepS Γ' v sz rows∧Wd Γ' S w:=by
 obtain⟨bss,h1,h2,h3⟩:=h.own;cases bss with
 | nil=>exact h1.elim
 | cons bs bss=>
  obtain⟨hr,h1⟩:=h1;unfold Res.own at hr;obtain⟨e0,a,n,c,e1,e2,e3,e4,e5⟩:=hr;rcases e5 with⟨e5,e6⟩|⟨g,cur,g1,g2,g3,g4,g5⟩
  ·subst e6;refine⟨Γ,Gho.le.refl _,by unfold RepS;exact⟨e0,a,n,c,e1,e2,e3,e4,fun hl=>by omega⟩,h.os,h.tape,h.out,h.dr,h.imm,bss,h1,by simpa using h2,fun b hb=>h3 b (by simpa using hb)⟩
  ·subst g2;have hg:=h3 g (by simp)
   have hnd:g∉bss.flatten∧bss.flatten.Nodup:=by simpa using h2
   have hle:∀b o,Γ.imm b=some o→(fun b=>if b=g then some (Obj.cells cur e (0,0)) else Γ.imm b) b=some o:=fun b o hb=>by
    show (if b=g then _ else _)=_
    rw[if_neg (fun hh=>by subst hh;rw[hg.2]at hb;cases hb)];exact hb
   refine⟨{ Γ with imm:=fun b=>if b=g then some (.cells cur e (0,0)) else Γ.imm b },⟨hle,rfl,rfl,rfl,rfl⟩,?_,h.os,h.tape,h.out,h.dr,fun b o hb=>?_,bss,Holds.loc hle S bss (fun _ _=>rfl) h1,hnd.2,fun b hb=>⟨(h3 b (by simp[hb])).1,?_⟩⟩
   ·unfold RepS;refine⟨e0,a,n,c,e1,e2,e3,e4,fun _=>⟨g,0,cur,e,(0,0),g1,if_pos rfl,fun j u hu=>?_⟩⟩
    rw[←g5]at hu;rw[List.getElem?_take]at hu;split at hu
    ·rw[Nat.zero_add];simpa using hu
    ·cases hu
   ·have hb:(if b=g then some (Obj.cells cur e (0,0)) else Γ.imm b)=some o:=hb
    by_cases hbg:b=g
    ·subst hbg;rw[if_pos rfl]at hb;cases hb
     exact g3
    ·rw[if_neg hbg]at hb;exact h.imm b o hb
   ·show (if b=g then _ else _)=none
    rw[if_neg (fun hh=>by subst hh;exact hnd.1 hb)]
    exact(h3 b (by simp[hb])).2
theorem W_has{P:Program}{n:Nat}{c:Code}{Q:Exit→Fr→World→Prop}{ρ:Fr}{w:World}{l:List (Nat×Value)}(h:Has ρ l)(k:∀ρ',Has ρ' l→W P n c Q ρ' w):W P n c Q ρ w:=k ρ h
theorem W_cut{P:Program}{n:Nat}{c1 c2:Code}{Q:Exit→Fr→World→Prop}{ρ:Fr}{w:World}(I:Fr→World→Prop)(h1:W P n c1 (Then I Q) ρ w)(h2:∀ρ w,I ρ w→W P n c2 Q ρ w):W P n (.seq c1 c2) Q ρ w:=
 W_seq (h1.mono fun e ρ w h=>by cases e <;> first|exact h2 _ _ h|exact h)
section
variable {P:Program}{n:Nat}{ops:List Oper}{Γ:Gho}{K:List Res}{Q:Fr→World→Prop}{ρ:Fr}{rest:List Oper}{wr tc stab:List (List Nat)}{i:Nat}{M:Nat→Fr→List Res}
variable {T ty:TypeId}{pos:String}{es:Array Edge}{x y:Operand}
theorem mAppNil{c dd E by' sz m cc:Nat}{zs:List Value}{a2:Option Addr}{rows2:List (List Value)}[TL P T E sz by' zs](h:MSw (mV P n ops Γ K wr tc stab) Q (i+1) rest ⟨putO ρ (some dd) undef,setC M c fun g=>[.own (g dd) E sz rows2]⟩)
  (hrd:∀Y w,Wd Γ (K++Y) w→Rd w a2 sz rows2) (hl:m=rows2.length) (h1:∀u∈rows2.flatten,u.oneCell'=true)
  (hx:∀g,ev (ovr stab.flatten g ρ) x=.slice none 0 0:=by intro g;exact rfl) (hy:∀g,ev (ovr stab.flatten g ρ) y=.slice a2 m cc:=by intro g;exact rfl)
  (ht:tc.getD i []=[c]:=by exact rfl) (hM:M c=(fun _=>[]):=by exact rfl)
  (hs:(stab.getD c []).contains dd=true:=by exact rfl) (hfr:freeD stab (some dd)=true:=by exact rfl) (hw0:wr.getD i []=[c]:=by exact rfl)
  (hb:m*by'≤140737488355328:=by omega) (h63:m≤9223372036854775807:=by omega) :
  MSw (mV P n ops Γ K wr tc stab) Q i (⟨some dd,.call { callee:=.builtin .append,args:=#[x,y],argTypes:=#[T,T] },ty,pos,es,none⟩::rest) ⟨ρ,M⟩:=by
 refine mM (v:=undef) _ (fun Y w g hw=>?_) h hw0 rfl
 rw[cells1 ht,hM]at hw;have hr:=hrd _ _ hw
 refine s_append (i:=0) (Wd.addNil (a:=none) (E:=E) (sz:=sz) hw) (hx g) (hy g) rfl hr hl h1 (by simpa using hb) (by simpa using h63) fun v' w' hw'=>⟨?_,fun hh=>by rw[hfr]at hh;cases hh⟩
 rw[cells1 ht,setC_self];have h3:ovr (stab.getD c []) (putO g (some dd) v') noFr dd=v':=by
  rw[ovr_in (by simpa using hs)];exact upd_same _ _ _
 rw[h3];exact Wd.unmid hw'
theorem mAppOwn2{c c2 dx dy dd E by' sz:Nat}{zs:List Value}{rows rows2:List (List Value)}[TL P T E sz by' zs](h:MSw (mV P n ops Γ K wr tc stab) Q (i+1) rest ⟨putO ρ (some dd) undef,setC M c fun g=>[.own (g dd) E sz (rows++rows2)]⟩)
  (h1:∀u∈rows2.flatten,u.oneCell'=true) (ht:tc.getD i []=[c,c2]:=by exact rfl) (hM:M c=(fun g=>[.own (g dx) E sz rows]):=by exact rfl) (hM2:M c2=(fun g=>[.own (g dy) E sz rows2]):=by exact rfl) (hcc:c2≠c:=by decide) (hdd:dy≠dd:=by decide)
  (hs:(stab.getD c []).contains dd=true:=by exact rfl) (hsx:(stab.getD c []).contains dx=true:=by exact rfl) (hsy:(stab.getD c2 []).contains dy=true:=by exact rfl) (hfx:stab.flatten.contains dx=true:=by exact rfl) (hfy:stab.flatten.contains dy=true:=by exact rfl) (hfr:freeD stab (some dd)=true:=by exact rfl) (hw0:wr.getD i []=[c]:=by exact rfl)
  (hb:(rows.length+rows2.length)*by'≤140737488355328:=by omega) (h63:rows.length+rows2.length≤9223372036854775807:=by omega) :
  MSw (mV P n ops Γ K wr tc stab) Q i (⟨some dd,.call { callee:=.builtin .append,args:=#[.tmp dx,.tmp dy],argTypes:=#[T,T] },ty,pos,es,none⟩::rest) ⟨ρ,M⟩:=by
 refine mM (v:=undef) _ (fun Y w g hw=>?_) h hw0 rfl
 rw[cells2 ht,hM,hM2]at hw;have h2:ovr (stab.getD c []) g noFr dx=g dx:=ovr_in (by simpa using hsx)
 have h2':ovr (stab.getD c2 []) g noFr dy=g dy:=ovr_in (by simpa using hsy)
 simp only[h2,h2']at hw
 have hi1:(K++(([.own (g dx) E sz rows]++[.own (g dy) E sz rows2])++Y))[K.length]? = some (.own (g dx) E sz rows):=by
  rw[List.getElem?_append_right (Nat.le_refl _)];simp
 have hj1:(K++(([.own (g dx) E sz rows]++[.own (g dy) E sz rows2])++Y))[K.length+1]? = some (.own (g dy) E sz rows2):=by
  rw[List.getElem?_append_right (by omega)];simp
 obtain⟨a,m1,c1,e1,e2,e3,e4⟩:=hw.own_shape hi1
 obtain⟨a2,m2,k2,f1,f2,f3,f4⟩:=hw.own_shape hj1
 have hx:ev (ovr stab.flatten g ρ) (.tmp dx)=.slice a m1 c1:=by
  show ovr stab.flatten g ρ dx=_
  rw[ovr_in (by simpa using hfx)];exact e1
 have hy:ev (ovr stab.flatten g ρ) (.tmp dy)=.slice a2 m2 k2:=by
  show ovr stab.flatten g ρ dy=_
  rw[ovr_in (by simpa using hfy)];exact f1
 have hr:Rd w a2 sz rows2:=by
  have hj2:=hj1
  rw[f1]at hj2;exact hw.own_rd (i:=K.length+1) (by rw[hj1,f1])
 refine s_append (i:=K.length) (rows:=rows) hw hx hy (by rw[hi1,e1]) hr f2 h1 (by rw[e2,f2];exact hb) (by rw[e2,f2];exact h63) fun v' w' hw'=>⟨?_,fun hh=>by rw[hfr]at hh;cases hh⟩
 rw[cells2 ht,setC_self,setC_other hcc,hM2];have h3:ovr (stab.getD c []) (putO g (some dd) v') noFr dd=v':=by
  rw[ovr_in (by simpa using hs)];exact upd_same _ _ _
 have h4:ovr (stab.getD c2 []) (putO g (some dd) v') noFr dy=g dy:=by
  rw[ovr_in (by simpa using hsy)];exact upd_ne _ _ hdd
 simp only[h3,h4]
 rw[List.set_append_right _ _ (Nat.le_refl _),Nat.sub_self]at hw';exact hw'
theorem mAssV{c dx dd E sz:Nat}{rows:List (List Value)}(h:MSw (mV P n ops Γ K wr tc stab) Q (i+1) rest ⟨putO ρ (some dd) undef,setC M c fun g=>[.own (g dd) E sz rows]⟩)
  (ht:tc.getD i []=[c]:=by exact rfl) (hM:M c=(fun g=>[.own (g dx) E sz rows]):=by exact rfl)
  (hs:(stab.getD c []).contains dd=true:=by exact rfl) (hsx:(stab.getD c []).contains dx=true:=by exact rfl) (hfx:stab.flatten.contains dx=true:=by exact rfl) (hfr:freeD stab (some dd)=true:=by exact rfl) (hw0:wr.getD i []=[c]:=by exact rfl) :
  MSw (mV P n ops Γ K wr tc stab) Q i (⟨some dd,.assign (.tmp dx),ty,pos,es,none⟩::rest) ⟨ρ,M⟩:=by
 refine mM (v:=undef) _ (fun Y w g hw=>?_) h hw0 rfl
 rw[cells1 ht,hM]at hw;have h2:ovr (stab.getD c []) g noFr dx=g dx:=ovr_in (by simpa using hsx)
 simp only[h2]at hw
 have hx:ev (ovr stab.flatten g ρ) (.tmp dx)=g dx:=by
  show ovr stab.flatten g ρ dx=_
  rw[ovr_in (by simpa using hfx)]
 refine(y_assign (P:=P) (w:=w) hx).step ⟨?_,fun hh=>by rw[hfr]at hh;cases hh⟩
 rw[cells1 ht,setC_self];have h3:ovr (stab.getD c []) (putO g (some dd) (g dx)) noFr dd=g dx:=by
  rw[ovr_in (by simpa using hs)];exact upd_same _ _ _
 rw[h3];exact hw
def Res.pure(p:Prop):Res where
 holds _ bs _:=bs=[]∧p
 loc _ _ _ _ _ _ _ h:=h
theorem Wd.pureIn{p:Prop}{S:List Res}{w:World}(hp:p)(hw:Wd Γ S w):Wd Γ (Res.pure p::S) w:=by
 obtain⟨bss,h1,h2,h3⟩:=hw.own;exact⟨hw.os,hw.tape,hw.out,hw.dr,hw.imm,[]::bss,⟨⟨rfl,hp⟩,h1⟩,by simpa using h2,by simpa using h3⟩
theorem Wd.pureOut{p:Prop}{S:List Res}{w:World}{i:Nat}(hw:Wd Γ S w)(hi:S[i]? = some (Res.pure p)):p:=by
 obtain⟨bss,h1,h2,h3⟩:=hw.own;obtain⟨bs,_,hr⟩:=Holds.get S bss i _ h1 hi
 exact hr.2
theorem mMoveR{c2 dd:Nat}{d:Option Tmp}{v0:Value}(h:MSw (mV P n ops Γ K wr tc stab) Q (i+1) rest ⟨putO ρ d v0,M⟩)
  (ht:tc.getD i []=[c2]:=by exact rfl) (hM:M c2=(fun g=>[Res.pure (g dd=v0)]):=by exact rfl) (hs:(stab.getD c2 []).contains dd=true:=by exact rfl) (hf:stab.flatten.contains dd=true:=by exact rfl)
  (hw0:wr.getD i []=[]:=by exact rfl) (ho:outOf tc stab i d=true:=by exact rfl):MSw (mV P n ops Γ K wr tc stab) Q i (⟨d,.move (.tmp dd),ty,pos,es,none⟩::rest) ⟨ρ,M⟩:=by
 refine mY (v:=v0) h hw0 rfl ho (fun Y w g hw=>?_)
 rw[cells1 ht,hM]at hw;have h2:ovr (stab.getD c2 []) g noFr dd=g dd:=ovr_in (by simpa using hs)
 have h3:=Wd.pureOut (p:=ovr (stab.getD c2 []) g noFr dd=v0) hw (i:=K.length) (by rw[List.getElem?_append_right (Nat.le_refl _)];simp)
 rw[h2]at h3;refine y_move ?_
 show ovr stab.flatten g ρ dd=_
 rw[ovr_in (by simpa using hf)];exact h3
end
section
variable {P:Program}{n:Nat}{ops:List Oper}{Γ:Gho}{K X:List Res}{wr tc stab:List (List Nat)}{s0:List Nat}{Q:Fr→World→Prop}{i:Nat}{rest:List Oper}{ρ:Fr}{w:World}{M:Nat→Fr→List Res}{v:Value}{T T':Type}
variable {ty:TypeId}{pos:String}{es:Array Edge}
def M2(a b:Fr→List Res):Nat→Fr→List Res:=fun x=>match x with|0=>a|_=>b
theorem W_mixQ{id:Nat}{l:List Oper}{QQ:Exit→Fr→World→Prop}(K X:List Res)(s0:List Nat)(dd:Nat)(v0:Value)(wr tc:List (List Nat))(hw:Wd Γ (K++X) w)
  (h:MSw (mV P n l Γ K wr tc [s0,[dd]]) (fun ρ w=>QQ .normal ρ w) 0 l ⟨ρ,M2 (exC (T:=Unit) (fun _ _=>True) (fun _=>X)) (fun g=>[Res.pure (g dd=v0)])⟩) (he:ρ dd=v0:=by exact rfl)
  (hm:P.follows .mixedOrders=true:=by kernel_rfl) (hk:checkM n l wr tc [s0,[dd]]=true:=by kernel_rfl):W P n (.region id l.toArray true) QQ ρ w:=
 W_mix K _ wr tc [s0,[dd]] true hm hk (by
  show Wd Γ (K++(exC (T:=Unit) (fun _ _=>True) (fun _=>X) (ovr s0 ρ noFr)++([Res.pure (ovr [dd] ρ noFr dd=v0)]++[]))) w
  have h0:ovr [dd] ρ noFr dd=v0:=by rw[ovr_in (by simp)];exact he
  have h1:Wd Γ (X++K) w:=hw.perm List.perm_append_comm
  have h2:=Wd.closeEx (α:={t:Unit // True}) (X:=fun _=>X) ⟨(),trivial⟩ h1
  have h3:=Wd.pureIn h0 h2
  exact h3.perm (by
   show (Res.pure _::(Res.ex _::K)).Perm (K++([Res.ex _]++[Res.pure _]))
   have:(K++([Res.ex (α:={t:Unit // True}) fun _=>X]++[Res.pure (ovr [dd] ρ noFr dd=v0)])).Perm (([Res.ex (α:={t:Unit // True}) fun _=>X]++[Res.pure (ovr [dd] ρ noFr dd=v0)])++K):=List.perm_append_comm
   exact((List.Perm.swap _ _ _).trans this.symm))) h
theorem mStepY{φ:T→Fr→Prop}{R:T→List Res}{o:Oper}(φ':T'→Fr→Prop)(R':T'→List Res)
  (hs:∀t g w Y,φ t (ovr (stab.getD 0 []) g noFr)→Wd Γ (R t++(K++Y)) w→Step P o (ovr stab.flatten g ρ) w fun u w'=>∃t',φ' t' (ovr (stab.getD 0 []) (putO g o.dst u) noFr)∧(freeD stab o.dst=false→u=v)∧Wd Γ (R' t'++(K++Y)) w')
  (h:MSw (mV P n ops Γ K wr tc stab) Q (i+1) rest ⟨putO ρ o.dst v,setC M 0 (exC φ' R')⟩) (hM:M 0=exC φ R:=by first|exact setC_self|exact rfl) (hw0:wr.getD i []=[0]:=by exact rfl) (ht:tc.getD i []=[0]:=by exact rfl) (hg:o.guard=none:=by exact rfl) :
  MSw (mV P n ops Γ K wr tc stab) Q i (o::rest) ⟨ρ,M⟩:=by
 refine mM _ (fun Y w g hw=>?_) h hw0 hg
 rw[cells1 ht,hM]at hw;obtain⟨⟨t,ht'⟩,hw1⟩:=(Wd.mid hw).openEx
 refine(hs t g w Y ht' hw1).mono ?_
 rintro u w' ⟨t',h1,h2,h3⟩
 refine⟨?_,h2⟩
 rw[cells1 ht,setC_self];exact Wd.unmid (Wd.closeEx (X:=fun p:{t:T' // φ' t (ovr (stab.getD 0 []) (putO g o.dst u) noFr)}=>R' p.1) ⟨t',h1⟩ h3)
theorem mCallY{φ:T→Fr→Prop}{R:T→List Res}{f:Nat}{d:Option Tmp}{args:List Operand}{tys:Array TypeId}[FnOk P f](φ':T'→Fr→Prop)(R':T'→List Res)(vs:T→Fr→List Value)
  (hs:∀t g w Y,φ t (ovr (stab.getD 0 []) g noFr)→Wd Γ (R t++(K++Y)) w→Calls P f (vs t (ovr (stab.getD 0 []) g noFr)).toArray w fun e w'=>∃u,e=.returned u∧∃t',φ' t' (ovr (stab.getD 0 []) (putO g d u) noFr)∧(freeD stab d=false→u=v)∧Wd Γ (R' t'++(K++Y)) w')
  (h:MSw (mV P n ops Γ K wr tc stab) Q (i+1) rest ⟨putO ρ d v,setC M 0 (exC φ' R')⟩) (ha:∀t g,φ t (ovr (stab.getD 0 []) g noFr)→EvL (ovr stab.flatten g ρ) args (vs t (ovr (stab.getD 0 []) g noFr)):=by (intro t g ht;exact byEV)) (hM:M 0=exC φ R:=by first|exact setC_self|exact rfl) (hw0:wr.getD i []=[0]:=by exact rfl) (ht:tc.getD i []=[0]:=by exact rfl) :
  MSw (mV P n ops Γ K wr tc stab) Q i (⟨d,.call { callee:=.value (.func f),args:=args.toArray,argTypes:=tys },ty,pos,es,none⟩::rest) ⟨ρ,M⟩:=
 mStepY φ' R' (fun t g w Y ht hw=>s_call (ha t g ht).eqA (hs t g w Y ht hw)) h hM hw0 ht rfl
theorem mAssY{φ:T→Fr→Prop}{R:T→List Res}{dx dd:Nat}{v0:Value}(φ':T→Fr→Prop)(hφ:∀t g,φ t (ovr (stab.getD 0 []) g noFr)→φ' t (ovr (stab.getD 1 []) (putO g (some dd) (g dx)) noFr))
  (h:MSw (mV P n ops Γ K wr tc stab) Q (i+1) rest ⟨putO ρ (some dd) undef,setC (setC M 0 fun _=>[]) 1 (exC φ' R)⟩) (hM:M 0=exC φ R:=by first|exact setC_self|exact rfl) (hM2:M 1=(fun g=>[Res.pure (g dd=v0)]):=by exact rfl)
  (ht:tc.getD i []=[0,1]:=by exact rfl) (hfx:stab.flatten.contains dx=true:=by exact rfl) (hfr:freeD stab (some dd)=true:=by exact rfl) (hw0:wr.getD i []=[0,1]:=by exact rfl) :
  MSw (mV P n ops Γ K wr tc stab) Q i (⟨some dd,.assign (.tmp dx),ty,pos,es,none⟩::rest) ⟨ρ,M⟩:=by
 have hn:Mt.nxt (mV P n ops Γ K wr tc stab) i ⟨ρ,M⟩ ⟨undef,setC (fun _ _=>[]) 1 (exC φ' R)⟩=setC (setC M 0 fun _=>[]) 1 (exC φ' R):=by
  funext y;simp only[Mt.nxt,MEnv.w,hw0,setC]
  by_cases h0:y=0
  ·subst h0;rfl
  ·by_cases h1:y=1
   ·subst h1;rfl
   ·simp[h0,h1]
 refine⟨⟨undef,setC (fun _ _=>[]) 1 (exC φ' R)⟩,⟨fun Γ' Y w g hr hw=>?_⟩,?_⟩
 ·have hΓ:Γ'=Γ:=hr
  subst hΓ;rw[hn];refine⟨fun _=>?_,fun hf=>?_⟩
  ·have hw':Wd Γ' (K++(cellsAt tc stab i M g++Y)) w:=hw
   unfold cellsAt at hw';rw[ht]at hw';simp only[List.flatMap_cons,List.flatMap_nil,hM,hM2,List.append_nil]at hw'
   have hx:ev (ovr stab.flatten g ρ) (.tmp dx)=g dx:=by
    show ovr stab.flatten g ρ dx=_
    rw[ovr_in (by simpa using hfx)]
   refine(y_assign (P:=P) (w:=w) hx).step ⟨Γ',rfl,?_,fun hh=>?_⟩
   ·show Wd Γ' (K++(cellsAt tc stab i _ _++Y)) w
    unfold cellsAt;rw[ht];show Wd Γ' (K++(([]++(exC φ' R (ovr (stab.getD 1 []) (putO g (some dd) (g dx)) noFr)++[]))++Y)) w
    have h4:=hw'.perm (S':=Res.ex (α:={t:T // φ t (ovr (stab.getD 0 []) g noFr)}) (fun p=>R p.1)::(Res.pure (ovr (stab.getD 1 []) g noFr dd=v0)::(K++Y))) (by
     show (K++((([Res.ex (α:={t:T // φ t (ovr (stab.getD 0 []) g noFr)}) (fun p=>R p.1)])++[Res.pure (ovr (stab.getD 1 []) g noFr dd=v0)])++Y)).Perm _
     rw[←List.append_assoc];exact(List.perm_append_comm (l₁:=K) (l₂:=[Res.ex (α:={t:T // φ t (ovr (stab.getD 0 []) g noFr)}) (fun p=>R p.1)]++[Res.pure (ovr (stab.getD 1 []) g noFr dd=v0)])).append_right Y)
    obtain⟨⟨t,ht'⟩,h5⟩:=h4.openEx;have h6:Wd Γ' (R t++(K++Y)) w:=by
     have h7:=h5.perm (S':=Res.pure (ovr (stab.getD 1 []) g noFr dd=v0)::(R t++(K++Y))) List.perm_middle
     exact h7.drop
    exact Wd.unmid (Wd.closeEx (X:=fun p:{t:T // φ' t (ovr (stab.getD 1 []) (putO g (some dd) (g dx)) noFr)}=>R p.1) ⟨t,hφ t g ht'⟩ h6)
   ·have hh':freeD stab (some dd)=false:=hh
    rw[hfr]at hh';cases hh'
  ·rw[wantF_none rfl]at hf;cases hf
 ·simp only[Mt.next,hn];exact h
theorem mEndQ{φ:T→Fr→Prop}{R:T→List Res}{dd:Nat}(h:∀t w g,φ t (ovr [dd] g noFr)→Wd Γ (R t++K) w→Q (ovr (s0++[dd]) g ρ) w)(hM:M 0=(fun _=>[]):=by exact rfl)(hM2:M 1=exC φ R:=by first|exact setC_self|exact rfl):MSw (mV P n ops Γ K wr tc [s0,[dd]]) Q i [] ⟨ρ,M⟩:=
 mEnd fun w g hw=>by
  have e:((List.range [s0,[dd]].length).flatMap fun x=>M x (ovr ([s0,[dd]].getD x []) g noFr))=exC φ R (ovr [dd] g noFr):=by
   show M 0 _++(M 1 _++[])=_
   rw[hM,hM2,List.append_nil];rfl
  rw[e]at hw;have e0:([s0,[dd]].flatten:List Nat)=s0++[dd]:=by simp
  rw[e0];obtain⟨⟨t,ht⟩,hw1⟩:=(Wd.mid (Y:=[]) hw).openEx
  exact h t w g ht (by simpa using hw1)
theorem mPgv{f t:Nat}{d:Option Tmp}{args:List Operand}{tys:Array TypeId}{vs:List Value}[FnOk P f](h:MSw (mV P n ops Γ K wr tc stab) Q (i+1) rest ⟨putO ρ d v,M⟩)(ht:∀g,ovr stab.flatten g ρ t=.func (.func f) #[] #[]:=by intro g;exact rfl)(hw0:wr.getD i []=[]:=by exact rfl)(ho:outOf tc stab i d=true:=by exact rfl)(ha:∀g,EvL (ovr stab.flatten g ρ) args vs:=by intro g;exact byEV)(hp:PG P Γ f vs v:=by infer_instance) :
  MSw (mV P n ops Γ K wr tc stab) Q i (⟨d,.call { callee:=.value (.tmp t),args:=args.toArray,argTypes:=tys },ty,pos,es,none⟩::rest) ⟨ρ,M⟩:=
 mC (fun Y w g hw=>s_callv (ht g) (ha g).eqA (by
  have h1:(#[]++vs.toArray++#[]:Array Value)=vs.toArray:=by simp
  rw[h1];exact(hp.h _ w hw).mono fun _ _ ⟨h1,h2⟩=>⟨v,h1,rfl,h2⟩)) hw0 rfl ho h
theorem RepS.imm{Γ Γ':Gho}{v:Value}{sz:Nat}{rows:List (List Value)}(h:RepS Γ v sz rows)(hi:∀b o,Γ.imm b=some o→Γ'.imm b=some o):RepS Γ' v sz rows:=by
 unfold RepS at *
 obtain⟨h0,a,n,c,h1,h2,h3,h4,h5⟩:=h;refine⟨h0,a,n,c,h1,h2,h3,h4,fun hl=>?_⟩
 obtain⟨g,o,cur,e,fr,k1,k2,k3⟩:=h5 hl
 exact⟨g,o,cur,e,fr,k1,hi _ _ k2,k3⟩
end
theorem swo_on{α β:Type}{c:α→α→Int}(h:Ord3 c)(f:β→α):Go.Sort.SWO (Go.Proofs.ltOf fun a b=>c (f a) (f b)):=
 ⟨fun x=>h.swo.irrefl (f x),fun x y z=>h.swo.trans (f x) (f y) (f z),fun x y z=>h.swo.ntrans (f x) (f y) (f z)⟩
end Mk
end
section
open Go
namespace Mk
section
variable {P:Program}{n:Nat}{opa:Array Oper}{QQ:Exit→Fr→World→Prop}{ρ:Fr}{w:World}{rest:List Oper}
variable {d:Option Tmp}{T ty:TypeId}{pos:String}{es:Array Edge}{x:Operand}
attribute [local semireducible] L W Step
def NoGo(Q:Exit→Fr→World→Prop):Exit→Fr→World→Prop
 | .goto _,_,_=>False
 | e,ρ,w=>Q e ρ w
theorem W_label{l:Nat}(h:QQ .normal ρ w):W P n (.label l) QQ ρ w:=fun a hd hs hf=>wp_label ⟨hd,hs,hf ▸ h⟩
theorem W_scopeS{c:Code}(h:W P n c (NoGo QQ) ρ w):W P n (.scope c) QQ ρ w:=fun a hd hs hf=>wp_scope_straight (Code.wp_mono (fun e a w ⟨p,q,r⟩=>by cases e <;> first|exact⟨p,q,r⟩|exact r.elim) (h a hd hs hf))
end
section
variable {P:Program}{n:Nat}{Q:List Deferred→Exit→Fr→World→Prop}{D:List Deferred}{ρ:Fr}{w:World}
attribute [local semireducible] L W Step
end
section
variable {P:Program}{n:Nat}{opa:Array Oper}{QQ:Exit→Fr→World→Prop}{ρ:Fr}{w:World}{rest:List Oper}
variable {d:Option Tmp}{T ty:TypeId}{pos:String}{es:Array Edge}{x:Operand}
attribute [local semireducible] L W Step
end
section
variable {P:Program}{n:Nat}{opa:Array Oper}{QQ:Exit→Fr→World→Prop}{ρ:Fr}{w:World}{rest:List Oper}{Γ:Gho}{S:List Res}
variable {d:Option Tmp}{ty:TypeId}{pos:String}{es:Array Edge}{f j dj:Nat}{want c:Bool}{args:List Operand}{tys:Array TypeId}{vs:List Value}{v:Value}{t:Tmp}
attribute [local semireducible] gv
theorem lPgG[FnOk P f](h:∀w',Wd Γ S w'→L P n opa QQ rest (putO ρ d (gv c v)) w')(hw:Wd Γ S w:=by exact hw)(hj:(opa[j]?).bind (·.dst)=some dj:=by exact rfl)(hjn:okDst n (some dj)=true:=by exact rfl)(hc:GuardIs (ρ dj) want c:=by exact byGC)(hd:okDst n d=true:=by exact rfl)(ha:c=true→EvL ρ args vs:=by intro hc;exact byEVG)(hp:PG P Γ f vs v:=by infer_instance) :
  L P n opa QQ (⟨d,.call { callee:=.value (.func f),args:=args.toArray,argTypes:=tys },ty,pos,es,some (j,want)⟩::rest) ρ w:=
 lGC hj hjn hd hc (fun hct=>lPg (fun w' hw'=>by have:=h w' hw';rw[hct]at this;exact this) hw (ha hct) hd hp) (fun hcf=>by have:=h w hw;rw[hcf]at this;exact this)
theorem s_pcv[FnOk P f](hp:PC P f vs v)(ht:ρ t=.func (.func f) #[] #[])(ha:EvL ρ args vs):Step P ⟨d,.call { callee:=.value (.tmp t),args:=args.toArray,argTypes:=tys },ty,pos,es,none⟩ ρ w fun u w'=>u=v∧w'=w:=
 s_callv ht ha.eqA (by simpa using (hp.h w).mono fun e w' ⟨h1,h2⟩=>⟨v,h1,rfl,h2⟩)
theorem lPv[FnOk P f](hp:PC P f vs v)(h:L P n opa QQ rest (putO ρ d v) w)(ht:ρ t=.func (.func f) #[] #[]:=by exact rfl)(ha:EvL ρ args vs:=by exact byEV)(hd:okDst n d=true:=by exact rfl) :
  L P n opa QQ (⟨d,.call { callee:=.value (.tmp t),args:=args.toArray,argTypes:=tys },ty,pos,es,none⟩::rest) ρ w:=
 L_step rfl hd ((s_pcv hp ht ha).mono fun u w' ⟨h1,h2⟩=>by subst h1;subst h2;exact h)
theorem lPvG[FnOk P f](hp:PC P f vs v)(h:L P n opa QQ rest (putO ρ d (gv c v)) w)(ht:c=true→ρ t=.func (.func f) #[] #[]:=by intro hc;exact byOP)(hj:(opa[j]?).bind (·.dst)=some dj:=by exact rfl)(hjn:okDst n (some dj)=true:=by exact rfl)(hc:GuardIs (ρ dj) want c:=by exact byGC)(hd:okDst n d=true:=by exact rfl)(ha:c=true→EvL ρ args vs:=by intro hc;exact byEVG) :
  L P n opa QQ (⟨d,.call { callee:=.value (.tmp t),args:=args.toArray,argTypes:=tys },ty,pos,es,some (j,want)⟩::rest) ρ w:=
 lGC hj hjn hd hc (fun hct=>lPv hp (by have:=h;rw[hct]at this;exact this) (ht hct) (ha hct) hd) (fun hcf=>by have:=h;rw[hcf]at this;exact this)
end
class TPair(P:Program)(K:TypeId):Prop where
 h:∃E,P.underlying K=some (.array 2 E)∧P.underlying E=some (.int .i64)∧scal P E=true
theorem run_part1{P:Program}{E:TypeId}(hs:scal P E=true){cs:Array Value}{i:Nat}{v:Value}(hv:cs[i]? = some v)(w:World):(part E cs i).run P w=.ok v w:=by
 unfold part;rw[Sem.run_bind,scal_isAgg hs];simp[Result.andThen,hv]
section
variable {P:Program}{K E:TypeId}{w:World}
theorem size1(hs:scal P E=true):(Go.sizeOf E).run P w=.ok 1 w:=scal_size hs
theorem eq_int64(h:P.underlying E=some (.int .i64))(d:Nat)(a b:Int):(Op.equalIn (d+1) E (.int .i64 a) (.int .i64 b)).run P w=.ok (decide (a=b)) w:=by
 unfold Op.equalIn;rw[Sem.run_bind,run_underlying h];show (if IntKind.i64=IntKind.i64 then pure (a == b) else Go.stuck "==: kinds differ" : Sem Bool).run P w=_
 rw[if_pos rfl];by_cases e:a=b
 ·subst e;simp
 ·simp[e]
theorem eq_pair{K E:TypeId}(hK:P.underlying K=some (.array 2 E))(hE:P.underlying E=some (.int .i64))(hs:scal P E=true)(a b c d:Int) :
  (Op.equal K (.agg #[.int .i64 a,.int .i64 b]) (.agg #[.int .i64 c,.int .i64 d])).run P w=.ok (decide ((a,b)=(c,d))) w:=by
 show (Op.equalIn 10000 K _ _).run P w=_
 unfold Op.equalIn;rw[Sem.run_bind,run_underlying hK];simp only[Result.andThen]
 rw[Sem.run_bind,size1 hs];simp only[Result.andThen]
 have p0:(part E #[.int .i64 a,.int .i64 b] 0).run P w=.ok (.int .i64 a) w:=run_part1 (P:=P) hs rfl w
 have p1:(part E #[.int .i64 a,.int .i64 b] 1).run P w=.ok (.int .i64 b) w:=run_part1 (P:=P) hs rfl w
 have q0:(part E #[.int .i64 c,.int .i64 d] 0).run P w=.ok (.int .i64 c) w:=run_part1 (P:=P) hs rfl w
 have q1:(part E #[.int .i64 c,.int .i64 d] 1).run P w=.ok (.int .i64 d) w:=run_part1 (P:=P) hs rfl w
 have e0:(Op.equalIn 9999 E (.int .i64 a) (.int .i64 c)).run P w=_:=eq_int64 (w:=w) hE 9998 a c
 have e1:(Op.equalIn 9999 E (.int .i64 b) (.int .i64 d)).run P w=_:=eq_int64 (w:=w) hE 9998 b d
 simp only[Std.Legacy.Range.forIn_eq_forIn_range',Std.Legacy.Range.size,List.range']
 simp only[List.forIn_cons,List.forIn_nil,Sem.run_bind,Sem.run_pure,Result.andThen,Nat.zero_mul,Nat.one_mul,Nat.mul_one,Nat.zero_add,p0,p1,q0,q1,e0]
 by_cases h1:a=c
 ·subst h1;by_cases h2:b=d
  ·subst h2;simp[Sem.run_bind,Sem.run_pure,Result.andThen,p1,e1]
  ·have e2:decide (b=d)=false:=decide_eq_false h2
   rw[e2]at e1;have e3:((a,b)=(a,d))=False:=by simp[h2]
   simp[Sem.run_bind,Sem.run_pure,Result.andThen,p1,q1,e1,h2]
 ·simp[h1,Sem.run_bind,Sem.run_pure,Result.andThen]
theorem check_pair{K E:TypeId}(hK:P.underlying K=some (.array 2 E))(hE:P.underlying E=some (.int .i64))(hs:scal P E=true)(empty:Bool)(a b:Int):(Instr.checkKey empty 10000 K (.agg #[.int .i64 a,.int .i64 b])).run P w=.ok () w:=by
 unfold Instr.checkKey;rw[Sem.run_bind,run_underlying hK];simp only[Result.andThen]
 have p0:(part E #[.int .i64 a,.int .i64 b] 0).run P w=.ok (.int .i64 a) w:=run_part1 (P:=P) hs rfl w
 have p1:(part E #[.int .i64 a,.int .i64 b] 1).run P w=.ok (.int .i64 b) w:=run_part1 (P:=P) hs rfl w
 have c0:(Instr.checkKey empty 9999 E (.int .i64 a)).run P w=_:=check_int (w:=w) hE empty a 9998
 have c1:(Instr.checkKey empty 9999 E (.int .i64 b)).run P w=_:=check_int (w:=w) hE empty b 9998
 simp[Std.Legacy.Range.forIn_eq_forIn_range',Std.Legacy.Range.size,List.range',Sem.run_bind,Sem.run_pure,Result.andThen,size1 hs,p0,p1,c0,c1]
theorem asking_pair{K E:TypeId}(hK:P.underlying K=some (.array 2 E))(hE:P.underlying E=some (.int .i64))(hs:scal P E=true)(a:Int×Int):∀(es:List MapEntry) (ks:List (Int×Int)) (i:Nat),es.map (·.key)=ks.map (fun p=>Value.agg #[.int .i64 p.1,.int .i64 p.2]) →
  (Instr.findAsking K (.agg #[.int .i64 a.1,.int .i64 a.2]) es i).run P w=.ok ((ks.findIdx? (fun k=>decide (k=a))).bind fun j=>(es[j]?).map fun e=>(i+j,e.val)) w
 | [],[],i,_=>by simp[Instr.findAsking]
 | [],_::_,_,h0=>by simp at h0
 | _::_,[],_,h0=>by simp at h0
 | e::es,k::ks,i,h0=>by
  simp only[List.map_cons,List.cons.injEq]at h0
  unfold Instr.findAsking;rw[h0.1,Sem.run_bind,eq_pair hK hE hs];by_cases hk:k=a
  ·subst hk;simp[Result.andThen,List.findIdx?_cons]
  ·have hk2:¬(a.1,a.2)=(k.1,k.2):=fun h=>hk (Prod.ext (by injection h with h1 h2;exact h1.symm) (by injection h with h1 h2;exact h2.symm))
   simp only[hk2,decide_false,Result.andThen,Bool.false_eq_true,if_false]
   rw[asking_pair hK hE hs a es ks (i+1) h0.2];simp only[List.findIdx?_cons,hk,decide_false,Bool.false_eq_true,if_false]
   cases ks.findIdx? (fun k=>decide (k=a)) with
   | none=>rfl
   | some j=>simp[Nat.add_comm,Nat.add_left_comm]
instance instMKeyPair[hT:TPair P K]:MKey P K (Int×Int) where
 key p:=.agg #[.int .i64 p.1,.int .i64 p.2]
 inj a b h:=by cases a;cases b;simpa using h
 dec:=inferInstance
 check empty a w:=by
  obtain⟨E,hK,hE,hs⟩:=hT.h;exact check_pair hK hE hs empty a.1 a.2
 find a es ks w h:=by
  obtain⟨E,hK,hE,hs⟩:=hT.h;unfold Instr.findKey;rw[Sem.run_bind,run_underlying hK];match es,ks,h with
  | [],[],h=>simp[Instr.findNow,Result.andThen]
  | [],_::_,h=>simp at h
  | _::_,[],h=>simp at h
  | e::es,k::ks,h=>
   have hn:Instr.findNow (.array 2 E) (.agg #[.int .i64 a.1,.int .i64 a.2]) (e::es) 0=none:=by
    unfold Instr.findNow Instr.sameNow;rfl
   simp only[Result.andThen,hn]
   have:=asking_pair (w:=w) hK hE hs a (e::es) (k::ks) 0 h
   simpa using this
 stays a w:=by
  unfold Instr.keyThatStays;have:Instr.sameBits 10000 (.agg #[.int .i64 a.1,.int .i64 a.2]) (.agg #[.int .i64 a.1,.int .i64 a.2])=true:=by
   unfold Instr.sameBits;simp[Instr.sameBits]
  rw[this];rfl
end
section
variable {P:Program}{ρ:Fr}{w:World}{d:Option Tmp}{T ty:TypeId}{pos:String}{es:Array Edge}{g:Option (Nat×Bool)}{x y:Operand}
theorem y_idxArr{E n sz b o:Nat}{k:IntKind}{i:Int}[hT:TArr P T n E sz](hx:ev ρ x=.pointer (some ⟨b,o,none⟩))(hy:ev ρ y=.int k i)(h0:0≤i)(h1:i<n) :
  Yields P ⟨d,.indexAddr T x y,ty,pos,es,g⟩ ρ w (.pointer (some ⟨b,o+i.toNat*sz,none⟩)):=by
 obtain⟨q,hq,hs⟩:∃q,P.info? E=some q∧q.size=sz:=by
  have:=hT.s
  cases hi:P.info? E with
  | none=>rw[hi]at this;simp at this
  | some q=>rw[hi]at this;exact⟨q,rfl,by simpa using this⟩
 have he:P.elem T=E:=by simp[Program.elem,hT.h]
 have hn:P.arrayLen T=n:=by simp[Program.arrayLen,hT.h]
 have hr:=run_indexAt_array (P:=P) w T ⟨b,o,none⟩ k i (by rw[he,hn];exact hT.h)
 rw[hn,if_pos ⟨h0,h1⟩,he]at hr;have hz:(Go.sizeOf E).run P w=.ok sz w:=by simp[Go.sizeOf,typeInfo,hq,hs]
 rw[hz,Result.andThen_ok,Addr.add_mid]at hr;unfold Yields;simp only[execOp,hx,hy,Sem.run_bind,hr,Result.andThen_ok]
 rfl
end
end Mk
end
section
open Go Mk
namespace Go.Proofs.YtfoggcgogafocaaGreat
instance:TS Tryz.prog 2:=⟨by kernel_rfl⟩
instance:TInt Tryz.prog 2 .i64:=⟨by kernel_rfl⟩
instance:TZ Tryz.prog 3 [.int .i64 0]:=⟨by kernel_rfl⟩
instance:TZV Tryz.prog 3 (.int .i64 0):=⟨by kernel_rfl⟩
instance:TS Tryz.prog 3:=⟨by kernel_rfl⟩
instance:TInt Tryz.prog 3 .i64:=⟨by kernel_rfl⟩
instance:TZV Tryz.prog 4 (.bool false):=⟨by kernel_rfl⟩
instance:TS Tryz.prog 4:=⟨by kernel_rfl⟩
instance:TS Tryz.prog 9:=⟨by kernel_rfl⟩
instance:TStr Tryz.prog 9:=⟨by kernel_rfl⟩
instance:TS Tryz.prog 20:=⟨by kernel_rfl⟩
instance:TZV Tryz.prog 22 (.slice none 0 0):=⟨by kernel_rfl⟩
instance:TS Tryz.prog 22:=⟨by kernel_rfl⟩
instance:TL Tryz.prog 22 3 1 8 [.int .i64 0]:=⟨by kernel_rfl,by kernel_rfl,by kernel_rfl,by decide⟩
instance:TS Tryz.prog 24:=⟨by kernel_rfl⟩
instance:TL Tryz.prog 24 37 4 32 [.int .i64 0,.int .i64 0,.int .i64 0,.int .i64 0]:=⟨by kernel_rfl,by kernel_rfl,by kernel_rfl,by decide⟩
instance:TS Tryz.prog 25:=⟨by kernel_rfl⟩
instance:TL Tryz.prog 25 89 5 64 [.string ⟨#[]⟩,.int .i64 0,.int .i64 0,.int .u64 0,.slice none 0 0]:=⟨by kernel_rfl,by kernel_rfl,by kernel_rfl,by decide⟩
instance:TS Tryz.prog 26:=⟨by kernel_rfl⟩
instance:TL Tryz.prog 26 79 3 24 [.int .i64 0,.int .i64 0,.int .i64 0]:=⟨by kernel_rfl,by kernel_rfl,by kernel_rfl,by decide⟩
instance:TS Tryz.prog 27:=⟨by kernel_rfl⟩
instance:TL Tryz.prog 27 83 5 48 [.string ⟨#[]⟩,.int .u64 0,.int .u64 0,.int .i64 0,.int .i64 0]:=⟨by kernel_rfl,by kernel_rfl,by kernel_rfl,by decide⟩
instance:TS Tryz.prog 28:=⟨by kernel_rfl⟩
instance:TL Tryz.prog 28 85 5 48 [.string ⟨#[]⟩,.int .i64 0,.int .i64 0,.int .u64 0,.int .u64 0]:=⟨by kernel_rfl,by kernel_rfl,by kernel_rfl,by decide⟩
instance:TZ Tryz.prog 30 [.string ⟨#[]⟩,.slice none 0 0,.slice none 0 0,.slice none 0 0,.slice none 0 0,.slice none 0 0]:=⟨by kernel_rfl⟩
instance:TA Tryz.prog 30 6:=⟨by kernel_rfl⟩
instance:TB Tryz.prog 30 [(0,1),(1,1),(2,1),(3,1),(4,1),(5,1)] [.string ⟨#[]⟩,.slice none 0 0,.slice none 0 0,.slice none 0 0,.slice none 0 0,.slice none 0 0]:=⟨by kernel_rfl,by kernel_rfl⟩
instance:TF Tryz.prog 30 0 0:=⟨by kernel_rfl⟩
instance:TF Tryz.prog 30 1 1:=⟨by kernel_rfl⟩
instance:TF Tryz.prog 30 2 2:=⟨by kernel_rfl⟩
instance:TF Tryz.prog 30 3 3:=⟨by kernel_rfl⟩
instance:TF Tryz.prog 30 4 4:=⟨by kernel_rfl⟩
instance:TF Tryz.prog 30 5 5:=⟨by kernel_rfl⟩
instance:TL Tryz.prog 32 67 2 40 [.string ⟨#[]⟩,.slice none 0 0]:=⟨by kernel_rfl,by kernel_rfl,by kernel_rfl,by decide⟩
instance:TZ Tryz.prog 37 [.int .i64 0,.int .i64 0,.int .i64 0,.int .i64 0]:=⟨by kernel_rfl⟩
instance:TA Tryz.prog 37 4:=⟨by kernel_rfl⟩
instance:TEq Tryz.prog 37 [5,5,5,5]:=⟨by kernel_rfl,by kernel_rfl,by kernel_rfl⟩
instance:TB Tryz.prog 37 [(0,1),(1,1),(2,1),(3,1)] [.int .i64 0,.int .i64 0,.int .i64 0,.int .i64 0]:=⟨by kernel_rfl,by kernel_rfl⟩
instance:TF Tryz.prog 37 0 0:=⟨by kernel_rfl⟩
instance:TF Tryz.prog 37 1 1:=⟨by kernel_rfl⟩
instance:TF Tryz.prog 37 2 2:=⟨by kernel_rfl⟩
instance:TF Tryz.prog 37 3 3:=⟨by kernel_rfl⟩
instance:TL Tryz.prog 39 9 1 16 [.string ⟨#[]⟩]:=⟨by kernel_rfl,by kernel_rfl,by kernel_rfl,by decide⟩
instance:TZ Tryz.prog 41 [.int .i64 0,.int .i64 0,.string ⟨#[]⟩]:=⟨by kernel_rfl⟩
instance:TA Tryz.prog 41 3:=⟨by kernel_rfl⟩
instance:TEq Tryz.prog 41 [5,5,1]:=⟨by kernel_rfl,by kernel_rfl,by kernel_rfl⟩
instance:TB Tryz.prog 41 [(0,1),(1,1),(2,1)] [.int .i64 0,.int .i64 0,.string ⟨#[]⟩]:=⟨by kernel_rfl,by kernel_rfl⟩
instance:TF Tryz.prog 41 0 0:=⟨by kernel_rfl⟩
instance:TF Tryz.prog 41 1 1:=⟨by kernel_rfl⟩
instance:TF Tryz.prog 41 2 2:=⟨by kernel_rfl⟩
instance:TS Tryz.prog 54:=⟨by kernel_rfl⟩
instance:TL Tryz.prog 54 41 3 32 [.int .i64 0,.int .i64 0,.string ⟨#[]⟩]:=⟨by kernel_rfl,by kernel_rfl,by kernel_rfl,by decide⟩
instance:TZ Tryz.prog 67 [.string ⟨#[]⟩,.slice none 0 0]:=⟨by kernel_rfl⟩
instance:TA Tryz.prog 67 2:=⟨by kernel_rfl⟩
instance:TB Tryz.prog 67 [(0,1),(1,1)] [.string ⟨#[]⟩,.slice none 0 0]:=⟨by kernel_rfl,by kernel_rfl⟩
instance:TF Tryz.prog 67 0 0:=⟨by kernel_rfl⟩
instance:TF Tryz.prog 67 1 1:=⟨by kernel_rfl⟩
instance:TZ Tryz.prog 79 [.int .i64 0,.int .i64 0,.int .i64 0]:=⟨by kernel_rfl⟩
instance:TA Tryz.prog 79 3:=⟨by kernel_rfl⟩
instance:TEq Tryz.prog 79 [5,5,5]:=⟨by kernel_rfl,by kernel_rfl,by kernel_rfl⟩
instance:TB Tryz.prog 79 [(0,1),(1,1),(2,1)] [.int .i64 0,.int .i64 0,.int .i64 0]:=⟨by kernel_rfl,by kernel_rfl⟩
instance:TF Tryz.prog 79 0 0:=⟨by kernel_rfl⟩
instance:TF Tryz.prog 79 1 1:=⟨by kernel_rfl⟩
instance:TF Tryz.prog 79 2 2:=⟨by kernel_rfl⟩
instance:TZV Tryz.prog 80 (.int .u64 0):=⟨by kernel_rfl⟩
instance:TS Tryz.prog 80:=⟨by kernel_rfl⟩
instance:TInt Tryz.prog 80 .u64:=⟨by kernel_rfl⟩
instance:TZ Tryz.prog 83 [.string ⟨#[]⟩,.int .u64 0,.int .u64 0,.int .i64 0,.int .i64 0]:=⟨by kernel_rfl⟩
instance:TA Tryz.prog 83 5:=⟨by kernel_rfl⟩
instance:TEq Tryz.prog 83 [1,9,9,5,5]:=⟨by kernel_rfl,by kernel_rfl,by kernel_rfl⟩
instance:TF Tryz.prog 83 0 0:=⟨by kernel_rfl⟩
instance:TF Tryz.prog 83 1 1:=⟨by kernel_rfl⟩
instance:TF Tryz.prog 83 2 2:=⟨by kernel_rfl⟩
instance:TF Tryz.prog 83 3 3:=⟨by kernel_rfl⟩
instance:TF Tryz.prog 83 4 4:=⟨by kernel_rfl⟩
instance:TZ Tryz.prog 85 [.string ⟨#[]⟩,.int .i64 0,.int .i64 0,.int .u64 0,.int .u64 0]:=⟨by kernel_rfl⟩
instance:TA Tryz.prog 85 5:=⟨by kernel_rfl⟩
instance:TEq Tryz.prog 85 [1,5,5,9,9]:=⟨by kernel_rfl,by kernel_rfl,by kernel_rfl⟩
instance:TF Tryz.prog 85 0 0:=⟨by kernel_rfl⟩
instance:TF Tryz.prog 85 1 1:=⟨by kernel_rfl⟩
instance:TF Tryz.prog 85 2 2:=⟨by kernel_rfl⟩
instance:TF Tryz.prog 85 3 3:=⟨by kernel_rfl⟩
instance:TF Tryz.prog 85 4 4:=⟨by kernel_rfl⟩
instance:TZ Tryz.prog 89 [.string ⟨#[]⟩,.int .i64 0,.int .i64 0,.int .u64 0,.slice none 0 0]:=⟨by kernel_rfl⟩
instance:TA Tryz.prog 89 5:=⟨by kernel_rfl⟩
instance:TF Tryz.prog 89 0 0:=⟨by kernel_rfl⟩
instance:TF Tryz.prog 89 1 1:=⟨by kernel_rfl⟩
instance:TF Tryz.prog 89 2 2:=⟨by kernel_rfl⟩
instance:TF Tryz.prog 89 3 3:=⟨by kernel_rfl⟩
instance:TF Tryz.prog 89 4 4:=⟨by kernel_rfl⟩
instance:TS Tryz.prog 107:=⟨by kernel_rfl⟩
instance:TL Tryz.prog 107 164 2 16 [.int .i64 0,.int .i64 0]:=⟨by kernel_rfl,by kernel_rfl,by kernel_rfl,by decide⟩
instance:TZ Tryz.prog 109 [.int .i64 0,.slice none 0 0]:=⟨by kernel_rfl⟩
instance:TA Tryz.prog 109 2:=⟨by kernel_rfl⟩
instance:TB Tryz.prog 109 [(0,1),(1,1)] [.int .i64 0,.slice none 0 0]:=⟨by kernel_rfl,by kernel_rfl⟩
instance:TF Tryz.prog 109 0 0:=⟨by kernel_rfl⟩
instance:TF Tryz.prog 109 1 1:=⟨by kernel_rfl⟩
instance:TArr Tryz.prog 115 64 3 1:=⟨by kernel_rfl,by kernel_rfl⟩
instance:TA Tryz.prog 116 4096:=⟨by kernel_rfl⟩
instance:TArr Tryz.prog 116 64 115 64:=⟨by kernel_rfl,by kernel_rfl⟩
instance:TMap Tryz.prog 118 3 120:=⟨by kernel_rfl⟩
instance:TZV Tryz.prog 120 (.slice none 0 0):=⟨by kernel_rfl⟩
instance:TL Tryz.prog 120 122 2 16 [.int .i64 0,.int .i64 0]:=⟨by kernel_rfl,by kernel_rfl,by kernel_rfl,by decide⟩
instance:TZ Tryz.prog 122 [.int .i64 0,.int .i64 0]:=⟨by kernel_rfl⟩
instance:TA Tryz.prog 122 2:=⟨by kernel_rfl⟩
instance:TB Tryz.prog 122 [(0,1),(1,1)] [.int .i64 0,.int .i64 0]:=⟨by kernel_rfl,by kernel_rfl⟩
instance:TF Tryz.prog 122 0 0:=⟨by kernel_rfl⟩
instance:TF Tryz.prog 122 1 1:=⟨by kernel_rfl⟩
instance:TS Tryz.prog 126:=⟨by kernel_rfl⟩
instance:TZ Tryz.prog 127 [.bool false,.bool false,.bool false,.bool false,.bool false,.bool false,.bool false,.bool false,.bool false,.bool false,.bool false,.bool false,.bool false,.bool false,.bool false,.bool false,.bool false,.bool false,.bool false,.bool false,.bool false,.bool false,.bool false,.bool false,.bool false,.bool false,.bool false,.bool false,.bool false,.bool false,.bool false,.bool false,.bool false,.bool false,.bool false,.bool false,.bool false,.bool false,.bool false,.bool false,.bool false,.bool false,.bool false,.bool false,.bool false,.bool false,.bool false,.bool false,.bool false,.bool false,.bool false,.bool false,.bool false,.bool false,.bool false,.bool false,.bool false,.bool false,.bool false,.bool false,.bool false,.bool false,.bool false,.bool false]:=⟨by kernel_rfl⟩
instance:TA Tryz.prog 127 64:=⟨by kernel_rfl⟩
instance:TArr Tryz.prog 127 64 4 1:=⟨by kernel_rfl,by kernel_rfl⟩
instance:TS Tryz.prog 152:=⟨by kernel_rfl⟩
instance:TMap Tryz.prog 152 3 22:=⟨by kernel_rfl⟩
instance:TS Tryz.prog 156:=⟨by kernel_rfl⟩
instance:TB Tryz.prog 158 [(0,6),(6,1)] [.string ⟨#[]⟩,.slice none 0 0,.slice none 0 0,.slice none 0 0,.slice none 0 0,.slice none 0 0,.map none]:=⟨by kernel_rfl,by kernel_rfl⟩
instance:TF Tryz.prog 158 0 0:=⟨by kernel_rfl⟩
instance:TF Tryz.prog 158 1 6:=⟨by kernel_rfl⟩
instance:TB Tryz.prog 160 [(0,1),(1,1),(2,1)] [.pointer none,.int .i64 0,.map none]:=⟨by kernel_rfl,by kernel_rfl⟩
instance:TF Tryz.prog 160 0 0:=⟨by kernel_rfl⟩
instance:TF Tryz.prog 160 1 1:=⟨by kernel_rfl⟩
instance:TF Tryz.prog 160 2 2:=⟨by kernel_rfl⟩
instance:TZ Tryz.prog 164 [.int .i64 0,.int .i64 0]:=⟨by kernel_rfl⟩
instance:TA Tryz.prog 164 2:=⟨by kernel_rfl⟩
instance:TB Tryz.prog 164 [(0,1),(1,1)] [.int .i64 0,.int .i64 0]:=⟨by kernel_rfl,by kernel_rfl⟩
instance:TF Tryz.prog 164 0 0:=⟨by kernel_rfl⟩
instance:TF Tryz.prog 164 1 1:=⟨by kernel_rfl⟩
instance:TPtr Tryz.prog 166 167:=⟨by kernel_rfl⟩
instance:TS Tryz.prog 167:=⟨by kernel_rfl⟩
instance:TL Tryz.prog 167 122 2 16 [.int .i64 0,.int .i64 0]:=⟨by kernel_rfl,by kernel_rfl,by kernel_rfl,by decide⟩
instance:TL Tryz.prog 194 80 1 8 [.int .u64 0]:=⟨by kernel_rfl,by kernel_rfl,by kernel_rfl,by decide⟩
instance:TMap Tryz.prog 195 9 4:=⟨by kernel_rfl⟩
instance:TMap Tryz.prog 215 3 4:=⟨by kernel_rfl⟩
instance:TZ Tryz.prog 218 [.map none]:=⟨by kernel_rfl⟩
instance:TS Tryz.prog 218:=⟨by kernel_rfl⟩
instance:TMap Tryz.prog 218 3 3:=⟨by kernel_rfl⟩
instance:TL Tryz.prog 221 20 1 16 [.nilIface]:=⟨by kernel_rfl,by kernel_rfl,by kernel_rfl,by decide⟩
instance:TL Tryz.prog 253 254 2 16 [.int .i64 0,.int .i64 0]:=⟨by kernel_rfl,by kernel_rfl,by kernel_rfl,by decide⟩
instance:TZ Tryz.prog 254 [.int .i64 0,.int .i64 0]:=⟨by kernel_rfl⟩
instance:TA Tryz.prog 254 2:=⟨by kernel_rfl⟩
instance:TL Tryz.prog 258 260 2 16 [.int .u64 0,.int .u64 0]:=⟨by kernel_rfl,by kernel_rfl,by kernel_rfl,by decide⟩
instance:TB Tryz.prog 260 [(0,1),(1,1)] [.int .u64 0,.int .u64 0]:=⟨by kernel_rfl,by kernel_rfl⟩
instance:TF Tryz.prog 260 0 0:=⟨by kernel_rfl⟩
instance:TF Tryz.prog 260 1 1:=⟨by kernel_rfl⟩
instance:TMap Tryz.prog 270 254 4:=⟨by kernel_rfl⟩
instance:FnOk Tryz.prog 7:=⟨by kernel_rfl⟩
instance:FnOk Tryz.prog 9:=⟨by kernel_rfl⟩
instance:FnOk Tryz.prog 11:=⟨by kernel_rfl⟩
instance:FnOk Tryz.prog 12:=⟨by kernel_rfl⟩
instance:FnOk Tryz.prog 13:=⟨by kernel_rfl⟩
instance:FnOk Tryz.prog 14:=⟨by kernel_rfl⟩
instance:FnOk Tryz.prog 15:=⟨by kernel_rfl⟩
instance:FnOk Tryz.prog 16:=⟨by kernel_rfl⟩
instance:FnOk Tryz.prog 17:=⟨by kernel_rfl⟩
instance:FnOk Tryz.prog 18:=⟨by kernel_rfl⟩
instance:FnOk Tryz.prog 19:=⟨by kernel_rfl⟩
instance:FnOk Tryz.prog 20:=⟨by kernel_rfl⟩
instance:FnOk Tryz.prog 21:=⟨by kernel_rfl⟩
instance:FnOk Tryz.prog 22:=⟨by kernel_rfl⟩
instance:FnOk Tryz.prog 23:=⟨by kernel_rfl⟩
instance:FnOk Tryz.prog 28:=⟨by kernel_rfl⟩
instance:FnOk Tryz.prog 29:=⟨by kernel_rfl⟩
instance:FnOk Tryz.prog 30:=⟨by kernel_rfl⟩
instance:FnOk Tryz.prog 31:=⟨by kernel_rfl⟩
instance:FnOk Tryz.prog 40:=⟨by kernel_rfl⟩
instance:FnOk Tryz.prog 41:=⟨by kernel_rfl⟩
instance:FnOk Tryz.prog 42:=⟨by kernel_rfl⟩
instance:FnOk Tryz.prog 43:=⟨by kernel_rfl⟩
instance:FnOk Tryz.prog 44:=⟨by kernel_rfl⟩
instance:FnOk Tryz.prog 45:=⟨by kernel_rfl⟩
instance:FnOk Tryz.prog 46:=⟨by kernel_rfl⟩
instance:FnOk Tryz.prog 47:=⟨by kernel_rfl⟩
instance:FnOk Tryz.prog 48:=⟨by kernel_rfl⟩
instance:FnOk Tryz.prog 49:=⟨by kernel_rfl⟩
instance:FnOk Tryz.prog 50:=⟨by kernel_rfl⟩
instance:FnOk Tryz.prog 51:=⟨by kernel_rfl⟩
instance:FnOk Tryz.prog 52:=⟨by kernel_rfl⟩
instance:FnOk Tryz.prog 53:=⟨by kernel_rfl⟩
instance:FnOk Tryz.prog 54:=⟨by kernel_rfl⟩
instance:FnOk Tryz.prog 60:=⟨by kernel_rfl⟩
instance:FnOk Tryz.prog 61:=⟨by kernel_rfl⟩
instance:FnOk Tryz.prog 62:=⟨by kernel_rfl⟩
instance:FnOk Tryz.prog 63:=⟨by kernel_rfl⟩
instance:FnOk Tryz.prog 64:=⟨by kernel_rfl⟩
instance:FnOk Tryz.prog 65:=⟨by kernel_rfl⟩
instance:FnOk Tryz.prog 66:=⟨by kernel_rfl⟩
instance:FnOk Tryz.prog 67:=⟨by kernel_rfl⟩
instance:FnOk Tryz.prog 68:=⟨by kernel_rfl⟩
instance:FnOk Tryz.prog 74:=⟨by kernel_rfl⟩
instance:FnOk Tryz.prog 82:=⟨by kernel_rfl⟩
instance:FnOk Tryz.prog 84:=⟨by kernel_rfl⟩
instance:FnOk Tryz.prog 85:=⟨by kernel_rfl⟩
instance:FnOk Tryz.prog 86:=⟨by kernel_rfl⟩
instance:FnOk Tryz.prog 87:=⟨by kernel_rfl⟩
instance:FnOk Tryz.prog 88:=⟨by kernel_rfl⟩
instance:FnOk Tryz.prog 89:=⟨by kernel_rfl⟩
instance:FnOk Tryz.prog 90:=⟨by kernel_rfl⟩
instance:FnOk Tryz.prog 91:=⟨by kernel_rfl⟩
instance:FnOk Tryz.prog 92:=⟨by kernel_rfl⟩
instance:FnOk Tryz.prog 93:=⟨by kernel_rfl⟩
instance:FnOk Tryz.prog 96:=⟨by kernel_rfl⟩
instance:FnOk Tryz.prog 97:=⟨by kernel_rfl⟩
instance:FnOk Tryz.prog 98:=⟨by kernel_rfl⟩
instance:FnOk Tryz.prog 99:=⟨by kernel_rfl⟩
instance:FnOk Tryz.prog 100:=⟨by kernel_rfl⟩
instance:FnOk Tryz.prog 112:=⟨by kernel_rfl⟩
instance:FnOk Tryz.prog 113:=⟨by kernel_rfl⟩
instance:FnOk Tryz.prog 114:=⟨by kernel_rfl⟩
instance:FnOk Tryz.prog 115:=⟨by kernel_rfl⟩
instance:FnOk Tryz.prog 116:=⟨by kernel_rfl⟩
instance:FnOk Tryz.prog 117:=⟨by kernel_rfl⟩
instance:FnOk Tryz.prog 118:=⟨by kernel_rfl⟩
instance:FnOk Tryz.prog 119:=⟨by kernel_rfl⟩
instance:FnOk Tryz.prog 122:=⟨by kernel_rfl⟩
instance:FnOk Tryz.prog 125:=⟨by kernel_rfl⟩
instance:FnOk Tryz.prog 126:=⟨by kernel_rfl⟩
instance:FnOk Tryz.prog 142:=⟨by kernel_rfl⟩
instance:FnOk Tryz.prog 143:=⟨by kernel_rfl⟩
instance:FnOk Tryz.prog 144:=⟨by kernel_rfl⟩
instance:FnOk Tryz.prog 145:=⟨by kernel_rfl⟩
instance:FnOk Tryz.prog 146:=⟨by kernel_rfl⟩
instance:FnOk Tryz.prog 147:=⟨by kernel_rfl⟩
instance:FnOk Tryz.prog 148:=⟨by kernel_rfl⟩
instance:FnOk Tryz.prog 149:=⟨by kernel_rfl⟩
instance:FnOk Tryz.prog 150:=⟨by kernel_rfl⟩
instance:FnOk Tryz.prog 151:=⟨by kernel_rfl⟩
instance:FnOk Tryz.prog 152:=⟨by kernel_rfl⟩
instance:FnOk Tryz.prog 153:=⟨by kernel_rfl⟩
instance:FnOk Tryz.prog 154:=⟨by kernel_rfl⟩
instance:FnOk Tryz.prog 155:=⟨by kernel_rfl⟩
instance:FnOk Tryz.prog 156:=⟨by kernel_rfl⟩
instance:FnOk Tryz.prog 157:=⟨by kernel_rfl⟩
instance:FnOk Tryz.prog 158:=⟨by kernel_rfl⟩
instance:FnOk Tryz.prog 159:=⟨by kernel_rfl⟩
instance:FnOk Tryz.prog 166:=⟨by kernel_rfl⟩
instance:FnOk Tryz.prog 177:=⟨by kernel_rfl⟩
instance:FnOk Tryz.prog 178:=⟨by kernel_rfl⟩
instance:FnOk Tryz.prog 179:=⟨by kernel_rfl⟩
instance:FnOk Tryz.prog 180:=⟨by kernel_rfl⟩
instance:FnOk Tryz.prog 181:=⟨by kernel_rfl⟩
instance:FnOk Tryz.prog 191:=⟨by kernel_rfl⟩
instance:FnOk Tryz.prog 192:=⟨by kernel_rfl⟩
instance:FnOk Tryz.prog 193:=⟨by kernel_rfl⟩
instance:FnOk Tryz.prog 195:=⟨by kernel_rfl⟩
instance:FnOk Tryz.prog 196:=⟨by kernel_rfl⟩
instance:FnOk Tryz.prog 197:=⟨by kernel_rfl⟩
instance:FnOk Tryz.prog 205:=⟨by kernel_rfl⟩
instance:FnOk Tryz.prog 206:=⟨by kernel_rfl⟩
instance:FnOk Tryz.prog 207:=⟨by kernel_rfl⟩
instance:FnOk Tryz.prog 208:=⟨by kernel_rfl⟩
instance:FnOk Tryz.prog 209:=⟨by kernel_rfl⟩
instance:FnOk Tryz.prog 210:=⟨by kernel_rfl⟩
instance:FnOk Tryz.prog 211:=⟨by kernel_rfl⟩
instance:FnOk Tryz.prog 212:=⟨by kernel_rfl⟩
instance:FnOk Tryz.prog 213:=⟨by kernel_rfl⟩
instance:FnOk Tryz.prog 214:=⟨by kernel_rfl⟩
instance:FnOk Tryz.prog 215:=⟨by kernel_rfl⟩
instance:FnOk Tryz.prog 216:=⟨by kernel_rfl⟩
instance:FnOk Tryz.prog 231:=⟨by kernel_rfl⟩
instance:FnOk Tryz.prog 232:=⟨by kernel_rfl⟩
instance:FnOk Tryz.prog 235:=⟨by kernel_rfl⟩
instance:FnOk Tryz.prog 269:=⟨by kernel_rfl⟩
instance:FnOk Tryz.prog 270:=⟨by kernel_rfl⟩
instance:FnOk Tryz.prog 271:=⟨by kernel_rfl⟩
instance:FnOk Tryz.prog 272:=⟨by kernel_rfl⟩
instance:FnOk Tryz.prog 273:=⟨by kernel_rfl⟩
instance:FnOk Tryz.prog 274:=⟨by kernel_rfl⟩
instance:FnOk Tryz.prog 275:=⟨by kernel_rfl⟩
instance:FnOk Tryz.prog 276:=⟨by kernel_rfl⟩
instance:FnOk Tryz.prog 277:=⟨by kernel_rfl⟩
instance:FnOk Tryz.prog 278:=⟨by kernel_rfl⟩
instance:FnOk Tryz.prog 281:=⟨by kernel_rfl⟩
instance:FnOk Tryz.prog 282:=⟨by kernel_rfl⟩
attribute [local irreducible] Calls
def letterB(c:Int):Bool:=decide (97≤c)&&decide (c≤122)||decide (65≤c)&&decide (c≤90)||decide (c=95)
def digitB(c:Int):Bool:=decide (48≤c)&&decide (c≤57)
instance (c:Int):PC Tryz.prog 179 [.int .u8 c] (.bool (letterB c)):=⟨fun w=>by
 refine calls_of_W Tryz.func179 rfl rfl ?_
 refine byG ?_;exact⟨_,rfl,rfl,rfl⟩⟩
instance (c:Int):PC Tryz.prog 181 [.int .u8 c] (.bool (digitB c)):=⟨fun w=>by
 refine calls_of_W Tryz.func181 rfl rfl ?_
 refine byG ?_;exact⟨_,rfl,rfl,rfl⟩⟩
instance (c:Int):PC Tryz.prog 231 [.int .u8 c] (.bool (letterB c)):=⟨fun w=>by
 refine calls_of_W Tryz.func231 rfl rfl ?_
 refine byG ?_;exact⟨_,rfl,rfl,rfl⟩⟩
instance (c:Int):PC Tryz.prog 232 [.int .u8 c] (.bool (digitB c)):=⟨fun w=>by
 refine calls_of_W Tryz.func232 rfl rfl ?_
 refine byG ?_;exact⟨_,rfl,rfl,rfl⟩⟩
abbrev byteAt(s:ByteArray)(i:Nat):Int:=((s.data.toList.getD i 0).toNat:Int)
def wordC(b:UInt8):Bool:=letterB b.toNat||digitB b.toNat
def runN(s:ByteArray):Nat:=(s.data.toList.takeWhile wordC).length
def wordS(s:ByteArray):Bool:=decide (0<s.size)&&letterB (byteAt s 0)&&s.data.toList.all wordC
def nameS(s:ByteArray):Bool:=wordS s&&decide (s.size≤24)
theorem takeWhile_len{p:UInt8→Bool}:∀ {l:List UInt8} {k:Nat},k≤l.length→(∀i,i<k→p (l.getD i 0)=true)→(k<l.length→p (l.getD k 0)=false)→(l.takeWhile p).length=k
 | [],k,h,_,_=>by simp at h;simp[h]
 | x::l,0,_,_,h2=>by
  have:=h2 (by simp)
  simp at this
  simp[this]
 | x::l,k+1,h,h1,h2=>by
  have h0:=h1 0 (by omega)
  simp at h0
  simp only[List.takeWhile_cons,h0,if_true,List.length_cons]
  rw[takeWhile_len (l:=l) (k:=k) (by simpa using h) (fun i hi=>h1 (i+1) (by omega)) (fun hk=>h2 (by simp only[List.length_cons];omega))]
theorem size_toList(s:ByteArray):s.data.toList.length=s.size:=Array.length_toList
class SB(s:ByteArray):Prop where h:s.size≤4611686018427387904
instance (s:ByteArray)[hs:SB s]:PC Tryz.prog 180 [.string s] (.int .i64 (runN s)):=⟨fun w=>by
 have h63:=hs.h
 refine calls_of_W Tryz.func180 rfl rfl ?_
 refine byG ?_;refine W_loop (fun μ ρ w'=>∃k:Nat,μ+k=s.size∧Has ρ [(0,.string s),(3,.int .i64 k)]∧w'=w∧∀i,i<k→wordC (s.data.toList.getD i 0)=true) s.size ⟨0,rfl,⟨rfl,rfl,trivial⟩,rfl,fun i h=>absurd h (Nat.not_lt_zero i)⟩ ?_
 rintro μ ρ w' ⟨k,hk,hρ,rfl,hi⟩
 rw[hρ.eq];refine byG ?_;refine W_cond rfl (fun h=>?_) (fun h=>?_)
 ·have h':=andL h
  simp only[decide_eq_true_eq]at h'
  refine byG ?_;refine⟨μ-1,by omega,k+1,by omega,⟨rfl,rfl,trivial⟩,rfl,fun i hi'=>?_⟩
  by_cases e:i=k
  ·subst e;exact andR h
  ·exact hi i (by omega)
 ·refine byG ?_;refine⟨_,rfl,ret_i rfl ?_,rfl⟩
  have:=takeWhile_len (p:=wordC) (l:=s.data.toList) (k:=k) (by rw[size_toList];omega) hi (fun hk'=>by
   rw[size_toList]at hk';rw[show decide ((k:Int)<(s.size:Int))=true from by simp;omega]at h
   exact h)
  show (k:Int)=((s.data.toList.takeWhile wordC).length:Int)
  rw[this]⟩
theorem takeWhile_all{p:UInt8→Bool}{l:List UInt8}:((l.takeWhile p).length=l.length)↔l.all p=true:=by
 induction l with
 | nil=>simp
 | cons x l ih=>
  simp only[List.takeWhile_cons,List.all_cons]
  cases p x with
  | true=>simp[ih]
  | false=>simp
instance (s:ByteArray)[hs:SB s]:PC Tryz.prog 193 [.string s] (.bool (wordS s)):=⟨fun w=>by
 refine calls_of_W Tryz.func193 rfl rfl ?_
 refine byG ?_;refine⟨_,rfl,ret_b rfl ?_,rfl⟩
 have h1:decide (s≠⟨#[]⟩)=decide (0<s.size):=by simp only[ne_nilB]
 have h2:decide ((runN s:Int)=(s.size:Int))=s.data.toList.all wordC:=by
  rw[Bool.eq_iff_iff,decide_eq_true_eq,←takeWhile_all,size_toList];unfold runN;omega
 rw[h1,h2];rfl⟩
instance (s:ByteArray)[hs:SB s]:PC Tryz.prog 122 [.string s] (.bool (nameS s)):=⟨fun w=>by
 refine calls_of_W Tryz.func122 rfl rfl ?_
 refine byG ?_;refine⟨_,rfl,ret_b rfl ?_,rfl⟩
 unfold nameS;congr 1
 rw[decide_eq_decide];omega⟩
instance (s:ByteArray)[hs:SB s]:PC Tryz.prog 192 [.string s] (.bool (wordS s)):=⟨fun w=>by
 have h63:=hs.h
 refine calls_of_W Tryz.func192 rfl rfl ?_
 refine byG ?_;refine W_cond rfl (fun h=>?_) (fun h=>?_)
 ·refine byG ?_;refine⟨_,rfl,ret_b rfl ?_,rfl⟩
  unfold wordS;by_cases h0:s=⟨#[]⟩
  ·subst h0;rfl
  ·rw[show decide (s=⟨#[]⟩)=false from by simpa using h0]at h
   have h1:letterB (byteAt s 0)=false:=by have h':(false || !letterB (byteAt s 0))=true:=h;simpa using h'
   rw[h1];simp
 ·simp only[Bool.or_eq_false_iff,Bool.not_eq_false',decide_eq_false_iff_not,eq_nilB]at h
  have h1:letterB (byteAt s 0)=true:=h.2
  refine byG ?_;refine W_loop (fun μ ρ w'=>∃k:Nat,μ+k=s.size∧Has ρ [(0,.string s),(3,.int .i64 k)]∧w'=w∧0<k∧∀i,i<k→wordC (s.data.toList.getD i 0)=true) (s.size-1) ⟨1,by omega,⟨rfl,rfl,trivial⟩,rfl,by omega,fun i hi=>?_⟩ ?_
  ·have:i=0:=by omega
   subst this;show (letterB (byteAt s 0)||_)=true
   rw[h1];rfl
  rintro μ ρ w' ⟨k,hk,hρ,rfl,hk0,hi⟩
  rw[hρ.eq];refine byG ?_;refine W_cond rfl (fun h2=>?_) (fun h2=>?_)
  ·have h':k<s.size:=by simpa using h2
   refine byG ?_;refine W_cond rfl (fun h3=>?_) (fun h3=>?_)
   ·refine byG ?_;refine⟨_,rfl,ret_b rfl ?_,rfl⟩
    have h4:wordC (s.data.toList.getD k 0)=false:=by
     show (letterB (byteAt s k)||digitB (byteAt s k))=false
     have h5:(!letterB (byteAt s k) && !digitB (byteAt s k))=true:=h3
     simpa using h5
    have h6:s.data.toList.all wordC=false:=by
     rw[←Bool.not_eq_true,List.all_eq_true];intro hall;have hm:=hall (s.data.toList.getD k 0) (by
      rw[List.getD_eq_getElem?_getD,List.getElem?_eq_getElem (by rw[size_toList];exact h')]
      exact List.getElem_mem _)
     rw[h4]at hm;cases hm
    unfold wordS;rw[h6];simp
   ·refine byG ?_;refine⟨μ-1,by omega,k+1,by omega,⟨rfl,rfl,trivial⟩,rfl,by omega,fun i hi'=>?_⟩
    by_cases e:i=k
    ·subst e;have h5:(!letterB (byteAt s i) && !digitB (byteAt s i))=false:=h3
     show (letterB (byteAt s i)||digitB (byteAt s i))=true
     cases hl:letterB (byteAt s i) <;> cases hd:digitB (byteAt s i) <;> simp[hl,hd]at h5 ⊢
    ·exact hi i (by omega)
  ·refine byG ?_;refine⟨_,rfl,ret_b rfl ?_,rfl⟩
   have h':¬k<s.size:=by simpa using h2
   have h6:s.data.toList.all wordC=true:=by
    rw[List.all_eq_true];intro x hx;obtain⟨i,hil,rfl⟩:=List.getElem_of_mem hx
    have:=hi i (by rw[size_toList]at hil;omega)
    rwa [List.getD_eq_getElem?_getD,List.getElem?_eq_getElem hil]at this
   unfold wordS;rw[h6,h1];simp;omega⟩
instance (s:ByteArray)[hs:SB s]:PC Tryz.prog 113 [.string s] (.bool (nameS s)):=⟨fun w=>by
 refine calls_of_W Tryz.func113 rfl rfl ?_
 refine byG ?_;refine⟨_,rfl,ret_b rfl ?_,rfl⟩
 unfold nameS;congr 1
 rw[decide_eq_decide];omega⟩
set_option maxHeartbeats 400000
abbrev bts(s:ByteArray):List UInt8:=s.data.toList
theorem bts_len(s:ByteArray):(bts s).length=s.size:=Array.length_toList
structure Tok where
 Kind:Int
 Text:ByteArray
 Value:Int
 Line:Int
 Col:Int
 deriving DecidableEq
structure PosT where
 Line:Int
 Col:Int
 deriving DecidableEq,Inhabited
set_option maxHeartbeats 4000000
def isS(toks:List Tok)(at':Nat)(kind:Int)(text:ByteArray):Bool:=match toks[at']? with|some t=>decide (t.Kind=kind)&&decide (t.Text=text)|none=>false
def posOf(toks:List Tok)(at':Nat)(e:PosT):PosT:=match toks[at']? with|some t=>⟨t.Line,t.Col⟩|none=>e
abbrev PR(α:Type):=Except (PosT×Int) (α×Nat)
def nextP(toks:List Tok)(e:PosT)(kind:Int)(at':Nat):PR Tok:=match toks[at']? with|some t=>if t.Kind=kind then .ok (t,at') else .error (posOf toks at' e,50)|none=>.error (posOf toks at' e,50)
def expectP(toks:List Tok)(e:PosT)(kind:Int)(text:ByteArray)(at':Nat):PR Unit:=if isS toks at' kind text=true then .ok ((),at'+1) else .error (posOf toks at' e,50)
def nameP(toks:List Tok)(e:PosT)(kind:Int)(at':Nat):PR ByteArray:=match nextP toks e kind at' with|.ok (t,_)=>if 24<t.Text.size then .error (posOf toks at' e,63) else .ok (t.Text,at'+1)|.error q=>.error q
def numberP(toks:List Tok)(e:PosT)(limited:Bool)(at':Nat):PR Int:=match nextP toks e 2 at' with|.ok (t,_)=>if limited=true∧2147483647<t.Value then .error (posOf toks at' e,6) else .ok (t.Value,at'+1)|.error q=>.error q
def memB(s:ByteArray)(xs:List ByteArray):Bool:=xs.any fun x=>decide (s=x)
def commaB:ByteArray:=⟨#[44]⟩
def semiB:ByteArray:=⟨#[59]⟩
def closeB:ByteArray:=⟨#[125]⟩
end Go.Proofs.YtfoggcgogafocaaGreat
end
section
open Go Mk
namespace Go.Proofs.YtfoggcgogafocaaGreat
set_option maxHeartbeats 4000000
attribute [local irreducible] Calls nextP
section
variable {Γ:Gho}{S:List Res}{w:World}{bp:Nat}{a:Option Addr}{n c at':Nat}{e:PosT}{toks:List Tok}
end
end Go.Proofs.YtfoggcgogafocaaGreat
end
section
open Go Mk
namespace Go.Proofs.YtfoggcgogafocaaGreat
set_option maxHeartbeats 4000000
attribute [local irreducible] Calls nextP numberP expectP isS posOf
def baseB:ByteArray:=⟨#[98,97,115,101]⟩
def sizeB:ByteArray:=⟨#[115,105,122,101]⟩
def coresB:ByteArray:=⟨#[99,111,114,101,115]⟩
def moreN(toks:List Tok)(e:PosT)(limited cores:Bool):Nat→Nat→List Int→PR (List Int)
 | 0,k,acc=>.ok (acc,k)
 | f+1,k,acc=>if (cores&&isS toks k 4 commaB)=true then (match numberP toks e limited (k+1) with|.ok (v,k1)=>moreN toks e limited cores f k1 (acc++[v])|.error q=>.error q) else .ok (acc,k)
def limB(s:ByteArray):Bool:=decide (s≠baseB)&&decide (s≠sizeB)
def oneAttr(toks:List Tok)(e:PosT)(names:List ByteArray)(got:List (ByteArray×List Int))(k:Nat):PR (ByteArray×List Int):=
 match nextP toks e 1 k with
 | .error q=>.error q
 | .ok (t,_)=>
  if memB t.Text names=false then .error (posOf toks k e,50)
  else if memB t.Text (got.map (·.1))=true then .error (posOf toks k e,56)
  else match numberP toks e (limB t.Text) (k+1) with
   | .error q=>.error q
   | .ok (v,k1)=>match moreN toks e (limB t.Text) (decide (t.Text=coresB)) (toks.length+1) k1 [v] with
    | .error q=>.error q
    | .ok (l,k2)=>match expectP toks e 4 semiB k2 with
     | .error q=>.error q
     | .ok (_,k3)=>.ok ((t.Text,l),k3)
def attrN(toks:List Tok)(e:PosT)(names:List ByteArray):Nat→Nat→List (ByteArray×List Int)→PR (List (ByteArray×List Int))
 | 0,k,got=>.ok (got,k)
 | f+1,k,got=>if isS toks k 4 closeB=true then .ok (got,k) else
  match oneAttr toks e names got k with
  | .error q=>.error q
  | .ok (p,k3)=>attrN toks e names f k3 (got++[p])
end Go.Proofs.YtfoggcgogafocaaGreat
end
section
open Go Mk
namespace Go.Proofs.YtfoggcgogafocaaGreat
set_option maxHeartbeats 4000000
attribute [local irreducible] Calls nextP numberP expectP isS posOf moreN memB
abbrev strRows(l:List ByteArray):List (List Value):=l.map fun x=>[.string x]
section
variable {Γ:Gho}{S:List Res}{w:World}{bp:Nat}{a:Option Addr}{n c at':Nat}{e:PosT}{toks:List Tok}
end
end Go.Proofs.YtfoggcgogafocaaGreat
end
section
open Go Mk
namespace Go.Proofs.YtfoggcgogafocaaGreat
set_option maxHeartbeats 4000000
attribute [local irreducible] Calls nextP numberP expectP isS posOf memB nameP
structure CoreT where
 ID:Int
 Width:Int
 Node:Int
 Speed:Int
 deriving DecidableEq,Inhabited
instance:GoT CoreT where
 enc a:=[.int .i64 a.ID,.int .i64 a.Width,.int .i64 a.Node,.int .i64 a.Speed]
 inj a b h:=by cases a;cases b;simp at h;simp[h]
 ks:=[5,5,5,5]
 kinds a:=rfl
structure LinkT where
 A:Int
 B:Int
 Latency:Int
 deriving DecidableEq,Inhabited
instance:GoT LinkT where
 enc a:=[.int .i64 a.A,.int .i64 a.B,.int .i64 a.Latency]
 inj a b h:=by cases a;cases b;simp at h;simp[h]
 ks:=[5,5,5]
 kinds a:=rfl
structure MemT where
 Name:ByteArray
 Base:Int
 Size:Int
 Node:Int
 Latency:Int
 deriving DecidableEq,Inhabited
instance:GoT MemT where
 enc a:=[.string a.Name,.int .u64 a.Base,.int .u64 a.Size,.int .i64 a.Node,.int .i64 a.Latency]
 inj a b h:=by cases a;cases b;simp at h;simp[h]
 ks:=[1,9,9,5,5]
 kinds a:=rfl
structure DevT where
 Name:ByteArray
 Node:Int
 IRQ:Int
 Base:Int
 Size:Int
 deriving DecidableEq,Inhabited
instance:GoT DevT where
 enc a:=[.string a.Name,.int .i64 a.Node,.int .i64 a.IRQ,.int .u64 a.Base,.int .u64 a.Size]
 inj a b h:=by cases a;cases b;simp at h;simp[h]
 ks:=[1,5,5,9,9]
 kinds a:=rfl
structure CacheT where
 Name:ByteArray
 Level:Int
 Line:Int
 Size:Int
 Cores:List Int
 deriving DecidableEq,Inhabited
structure CacheH where
 Name:ByteArray
 Level:Int
 Line:Int
 Size:Int
 A:Option Addr
 N:Nat
 C:Nat
 Cores:List Int
instance:Inhabited CacheH:=⟨⟨⟨#[]⟩,0,0,0,none,0,0,[]⟩⟩
def CacheH.T(c:CacheH):CacheT:=⟨c.Name,c.Level,c.Line,c.Size,c.Cores⟩
def cC(c:CacheH):List Value:=[.string c.Name,.int .i64 c.Level,.int .i64 c.Line,.int .u64 c.Size,.slice c.A c.N c.C]
def intRows(l:List Int):List (List Value):=l.map fun x=>[.int .i64 x]
def COk(Γ:Gho)(c:CacheH):Prop:=RepS Γ (.slice c.A c.N c.C) 1 (intRows c.Cores)
structure HwT where
 Name:ByteArray
 Cores:List CoreT
 Caches:List CacheT
 Links:List LinkT
 Mems:List MemT
 Devs:List DevT
 deriving DecidableEq
def coreB:ByteArray:=⟨#[99,111,114,101]⟩
def cacheB:ByteArray:=⟨#[99,97,99,104,101]⟩
def linkB:ByteArray:=⟨#[108,105,110,107]⟩
def memoryB:ByteArray:=⟨#[109,101,109,111,114,121]⟩
def deviceB:ByteArray:=⟨#[100,101,118,105,99,101]⟩
theorem nodup_le{α:Type}[DecidableEq α]:∀(ks L:List α),ks.Nodup→(∀x∈ks,x∈L)→ks.length≤L.length
 | [],_,_,_=>Nat.zero_le _
 | k::ks,L,hn,hs=>by
  have hk:=hs k (List.mem_cons_self ..)
  have h1:=nodup_le ks (L.erase k) (List.nodup_cons.1 hn).2 fun x hx=>by
   refine(List.mem_erase_of_ne ?_).2 (hs x (List.mem_cons_of_mem _ hx))
   rintro rfl;exact(List.nodup_cons.1 hn).1 hx
  rw[List.length_erase_of_mem hk]at h1;have:=List.length_pos_of_mem hk
  simp;omega
end Go.Proofs.YtfoggcgogafocaaGreat
end
section
open Go Mk
namespace Go.Proofs.YtfoggcgogafocaaGreat
set_option maxHeartbeats 4000000
attribute [local irreducible] Calls nextP numberP expectP isS posOf moreN memB nameP
theorem COk.mono{Γ Γ':Gho}{c:CacheH}(h:COk Γ c)(hle:Γ.le Γ'):COk Γ' c:=RepS.mono h hle
section
variable {Γ:Gho}{S:List Res}{w:World}{bp hb:Nat}{a:Option Addr}{n c at':Nat}{e:PosT}{toks:List Tok}{H:HwT}
end
end Go.Proofs.YtfoggcgogafocaaGreat
end
section
open Go Mk
namespace Go.Proofs.YtfoggcgogafocaaGreat
set_option maxHeartbeats 4000000
attribute [local irreducible] Calls nextP numberP expectP isS posOf moreN memB nameP
def HwOut(Γ:Gho)(H:HwT)(S:List Res)(u:Value)(w:World):Prop:=∃(v1 v2 v3 v4 v5:Value) (cs:List CacheH),cs.map CacheH.T=H.Caches∧(∀c∈cs,COk Γ c)∧u=.agg #[.string H.Name,v1,v2,v3,v4,v5] ∧
 Wd Γ (.own v1 37 4 (H.Cores.map enc)::.own v2 89 5 (cs.map cC)::.own v3 79 3 (H.Links.map enc)::.own v4 83 5 (H.Mems.map enc)::.own v5 85 5 (H.Devs.map enc)::S) w
section
variable {Γ:Gho}{S:List Res}{w:World}{bp hb:Nat}{a:Option Addr}{n c:Nat}{e:PosT}{toks:List Tok}
end
end Go.Proofs.YtfoggcgogafocaaGreat
end
section
open Go Mk
namespace Go.Proofs.YtfoggcgogafocaaGreat
set_option maxHeartbeats 4000000
attribute [local irreducible] Calls
def maxS:Nat:=4611686018427387904
def HwSz(H:HwT):Prop:=H.Name.size≤maxS∧(∀c∈H.Caches,c.Name.size≤maxS)∧(∀c∈H.Mems,c.Name.size≤maxS)∧∀c∈H.Devs,c.Name.size≤maxS
class HwR(Γ:Gho)(u:Value)(H:outParam HwT):Prop where
 h:∃(a1:Option Addr) (n1 c1:Nat) (a2:Option Addr) (n2 c2:Nat) (a3:Option Addr) (n3 c3:Nat) (a4:Option Addr) (n4 c4:Nat) (a5:Option Addr) (n5 c5:Nat) (cs:List CacheH),
  u=.agg #[.string H.Name,.slice a1 n1 c1,.slice a2 n2 c2,.slice a3 n3 c3,.slice a4 n4 c4,.slice a5 n5 c5]∧cs.map CacheH.T=H.Caches∧(∀c∈cs,COk Γ c)∧HwSz H ∧
  RepS Γ (.slice a1 n1 c1) 4 (H.Cores.map enc)∧RepS Γ (.slice a2 n2 c2) 5 (cs.map cC)∧RepS Γ (.slice a3 n3 c3) 3 (H.Links.map enc)∧RepS Γ (.slice a4 n4 c4) 5 (H.Mems.map enc)∧RepS Γ (.slice a5 n5 c5) 5 (H.Devs.map enc)
theorem HwR.mono{Γ Γ':Gho}{u:Value}{H:HwT}(hh:HwR Γ u H)(hle:Γ.le Γ'):HwR Γ' u H:=by
 obtain⟨a1,n1,c1,a2,n2,c2,a3,n3,c3,a4,n4,c4,a5,n5,c5,cs,h1,h2,h3,h4,r1,r2,r3,r4,r5⟩:=hh.h;exact⟨a1,n1,c1,a2,n2,c2,a3,n3,c3,a4,n4,c4,a5,n5,c5,cs,h1,h2,fun c hc=>RepS.mono (h3 c hc) hle,h4,r1.mono hle,r2.mono hle,r3.mono hle,r4.mono hle,r5.mono hle⟩
theorem rep_facts{Γ:Gho}{a:Option Addr}{n c sz:Nat}{rows:List (List Value)}(h:RepS Γ (.slice a n c) sz rows):n=rows.length∧n≤c∧c≤9223372036854775807:=by
 obtain⟨_,_,_,h1,h2,h3⟩:=h.shape;cases h1;exact⟨h2,h3⟩
theorem COk.facts{Γ:Gho}{c:CacheH}(h:COk Γ c):c.N=c.Cores.length∧c.N≤c.C∧c.C≤9223372036854775807:=by
 have:=rep_facts h
 simpa[intRows] using this
section
variable {α:Type}{l:List α}{p:α→Bool}{k:Nat}{x:α}
theorem all_step(h:∀i x,i<k→l[i]? = some x→p x=true)(hx:l[k]? = some x)(ht:p x=true):∀i x,i<k+1→l[i]? = some x→p x=true:=fun i y hi hy=>by
 by_cases e:i=k
 ·subst e;rw[hx]at hy;cases hy;exact ht
 ·exact h i y (by omega) hy
theorem all_end(h:∀i x,i<k→l[i]? = some x→p x=true)(hk:l.length≤k):l.all p=true:=by
 rw[List.all_eq_true];intro x hm;obtain⟨i,hi,hx⟩:=List.getElem_of_mem hm
 exact h i x (by omega) (by rw[List.getElem?_eq_getElem hi,hx])
theorem all_no(hx:l[k]? = some x)(hf:p x=false):l.all p=false:=by
 rw[List.all_eq_false];exact⟨x,List.mem_of_getElem? hx,by rw[hf];simp⟩
theorem and_no1{a b:Bool}(h:a=false):(a&&b)=false:=by rw[h];rfl
theorem and_no2{a b:Bool}(h:b=false):(a&&b)=false:=by rw[h];simp
end
def isNodeB(n:Int):Bool:=decide (0≤n)&&decide (n<64)
def isLatB(n:Int):Bool:=decide (1≤n)&&decide (n≤1000000)
instance pc_isNode(n:Int):PC Tryz.prog 207 [.int .i64 n] (.bool (isNodeB n)):=⟨fun w=>by
 refine calls_of_W Tryz.func207 rfl rfl ?_
 refine byG ?_;exact⟨_,rfl,rfl,rfl⟩⟩
instance pc_isLatency(n:Int):PC Tryz.prog 208 [.int .i64 n] (.bool (isLatB n)):=⟨fun w=>by
 refine calls_of_W Tryz.func208 rfl rfl ?_
 refine byG ?_;exact⟨_,rfl,rfl,rfl⟩⟩
def inSpaceB(b s:Int):Bool:=(decide (4096≤s)&&decide (s≤1099511627776))&&decide (b≤IntKind.u64.wrap (1099511627776-s))
theorem pc_inSpace(b s:Int):PC Tryz.prog 209 [.int .u64 b,.int .u64 s] (.bool (inSpaceB b s)):=⟨fun w=>by
 refine calls_of_W Tryz.func209 rfl rfl ?_
 refine byG ?_;exact⟨_,rfl,rfl,rfl⟩⟩
def coreRB(c:CoreT):Bool:=decide (0≤c.ID)&&decide (c.ID<32)&&(decide (c.Width=32)||decide (c.Width=39))&&decide (1≤c.Speed)&&decide (c.Speed≤1000000)&&isNodeB c.Node
def cacheRB(c:CacheT):Bool:=decide (1≤c.Level)&&decide (c.Level≤4)&&decide (16≤c.Line)&&decide (c.Line≤256)&&decide (bitsZ .and .i64 c.Line (IntKind.i64.wrap (c.Line-1))=0)&&decide (IntKind.u64.wrap c.Line≤c.Size)&&decide (c.Size≤1099511627776)&&decide (0<c.Cores.length)
def cacheRH(c:CacheH):Bool:=cacheRB c.T
theorem all_cache(cs:List CacheH):(cs.map CacheH.T).all cacheRB=cs.all cacheRH:=by rw[List.all_map];rfl
def linkRB(l:LinkT):Bool:=isNodeB l.A&&isNodeB l.B&&decide (l.A≠l.B)&&isLatB l.Latency
def memRB(m:MemT):Bool:=isNodeB m.Node&&isLatB m.Latency&&inSpaceB m.Base m.Size
def devRB(d:DevT):Bool:=isNodeB d.Node&&decide (0≤d.IRQ)&&decide (d.IRQ<256)&&inSpaceB d.Base d.Size
def memAB(m:MemT):Bool:=decide (bitsZ .and .u64 m.Size (IntKind.u64.wrap (m.Size-1))=0)&&decide (bitsZ .and .u64 m.Base (IntKind.u64.wrap (m.Size-1))=0)
def devAB(d:DevT):Bool:=decide (d.Base.tmod 4096=0)&&decide (d.Size.tmod 4096=0)
def coresRB(H:HwT):Bool:=H.Cores.all coreRB&&(H.Caches.all cacheRB&&H.Links.all linkRB)
def regionsRB(H:HwT):Bool:=H.Mems.all memRB&&H.Devs.all devRB
def alignRB(H:HwT):Bool:=H.Mems.all memAB&&H.Devs.all devAB
def countsB(H:HwT):Bool:=decide (1≤H.Cores.length)&&decide (H.Cores.length≤32)&&decide (H.Caches.length≤64)&&decide (H.Links.length≤256)&&decide (H.Mems.length≤64)&&decide (H.Devs.length≤32)
theorem mem_key(x:MemT):(!isNodeB x.Node || !isLatB x.Latency || !inSpaceB x.Base x.Size) = !memRB x:=by
 simp only[memRB,Bool.not_and]
theorem dev_key(x:DevT):(!isNodeB x.Node||decide (x.IRQ<0)||decide (256≤x.IRQ) || !inSpaceB x.Base x.Size) = !devRB x:=by
 simp only[devRB,Bool.not_and,←decide_not,Int.not_le,Int.not_lt]
theorem mema_key(x:MemT):(decide (bitsZ .and .u64 x.Size (IntKind.u64.wrap (x.Size-1))≠0)||decide (bitsZ .and .u64 x.Base (IntKind.u64.wrap (x.Size-1))≠0)) = !memAB x:=by
 simp only[memAB,Bool.not_and,←decide_not,ne_eq]
theorem deva_key(x:DevT):(decide (x.Base.tmod 4096≠0)||decide (x.Size.tmod 4096≠0)) = !devAB x:=by
 simp only[devAB,Bool.not_and,←decide_not,ne_eq]
theorem cache_key(x:CacheH)(hn:x.N=x.Cores.length):(decide (x.Level<1)||decide (4<x.Level)||decide (x.Line<16)||decide (256<x.Line)||decide (bitsZ .and .i64 x.Line (IntKind.i64.wrap (x.Line-1))≠0)||decide (x.Size<IntKind.u64.wrap x.Line)||decide (1099511627776<x.Size)||decide ((x.N:Int)=0)) = !cacheRH x:=by
 have h:decide ((x.N:Int)=0) = !decide (0<x.Cores.length):=by rw[←decide_not];exact decide_eq_decide.2 (by omega)
 rw[h];have nle:∀a b:Int,decide (a≤b) = !decide (b<a):=fun a b=>by rw[←decide_not];exact decide_eq_decide.2 Int.not_lt.symm
 show _ = !(decide (1≤x.Level)&&decide (x.Level≤4)&&decide (16≤x.Line)&&decide (x.Line≤256)&&decide (bitsZ .and .i64 x.Line (IntKind.i64.wrap (x.Line-1))=0)&&decide (IntKind.u64.wrap x.Line≤x.Size)&&decide (x.Size≤1099511627776)&&decide (0<x.Cores.length))
 rw[nle 1,nle x.Level,nle 16,nle x.Line,nle (IntKind.u64.wrap x.Line),nle x.Size,show decide (bitsZ .and .i64 x.Line (IntKind.i64.wrap (x.Line-1))≠0) = !decide (bitsZ .and .i64 x.Line (IntKind.i64.wrap (x.Line-1))=0) from decide_not];simp only[Bool.not_and,Bool.not_not]
theorem key_no{a b:Bool}(h:a = !b)(h2:a=true):b=false:=by subst h;simpa using h2
theorem key_yes{a b:Bool}(h:a = !b)(h2:a=false):b=true:=by subst h;simpa using h2
instance pg_coresInRange{Γ:Gho}{u:Value}{H:HwT}[hh:HwR Γ u H]:PG Tryz.prog Γ 145 [u] (.bool (coresRB H)):=⟨fun S w hw=>by
 obtain⟨a1,n1,c1,a2,n2,c2,a3,n3,c3,a4,n4,c4,a5,n5,c5,cs,rfl,hcs,hok,hsz,r1,r2,r3,r4,r5⟩:=hh.h;obtain⟨hn1,hm1,hx1⟩:=rep_facts r1
 obtain⟨hn2,hm2,hx2⟩:=rep_facts r2
 obtain⟨hn3,hm3,hx3⟩:=rep_facts r3
 obtain⟨hn4,hm4,hx4⟩:=rep_facts r4
 obtain⟨hn5,hm5,hx5⟩:=rep_facts r5
 simp only[List.length_map]at hn1 hn2 hn3 hn4 hn5
 refine calls_of_W Tryz.func145 rfl rfl ?_
 refine byG ?_;refine lBox ?_;intro b1 w hw;have hw:Wd Γ (.blk b1 (.cells #[.string H.Name,.slice a1 n1 c1,.slice a2 n2 c2,.slice a3 n3 c3,.slice a4 n4 c4,.slice a5 n5 c5] 30)::S) w:=hw
 refine byG ?_;refine W_loop (fun μ ρ w=>∃(k:Nat),μ+k=n1∧Has ρ [(1,.pointer (some ⟨b1,0,none⟩)),(10,.slice a1 n1 c1),(11,.int .i64 n1),(12,.int .i64 k)]∧(∀i x,i<k→(H.Cores)[i]? = some x→coreRB x=true)∧Wd Γ (.blk b1 (.cells #[.string H.Name,.slice a1 n1 c1,.slice a2 n2 c2,.slice a3 n3 c3,.slice a4 n4 c4,.slice a5 n5 c5] 30)::S) w) n1 ⟨0,by omega,⟨rfl,rfl,rfl,rfl,trivial⟩,fun i x h=>by omega,hw⟩ ?_
 clear hw;rintro μ ρ w ⟨k,hk,hρ,hall,hw⟩
 rw[hρ.eq];refine byG ?_;refine W_cond rfl (fun h=>?_) (fun h=>?_)
 ·have hkn:k<n1:=by simpa using h
  obtain⟨x,hx⟩:=get_lt (l:=H.Cores) (k:=k) (by omega)
  refine byG ?_;refine lAlloc ?_;intro b9 w hw;refine lStore ?_;intro w hw;have hw:Wd Γ (.blk b9 (.cells (enc x).toArray 37)::.blk b1 (.cells #[.string H.Name,.slice a1 n1 c1,.slice a2 n2 c2,.slice a3 n3 c3,.slice a4 n4 c4,.slice a5 n5 c5] 30)::S) w:=hw
  refine byG ?_;refine W_cond rfl (fun h2=>?_) (fun h2=>?_)
  ·have hf:coreRB x=false:=by
    simp[coreRB,isNodeB]at h2 ⊢;omega
   refine byG ?_;exact⟨_,rfl,ret_b rfl (by exact(and_no1 (all_no hx hf)).symm),hw.drop.drop⟩
  ·have ht:coreRB x=true:=by
    simp[coreRB,isNodeB]at h2 ⊢;omega
   refine byG ?_;exact⟨μ-1,by omega,k+1,by omega,⟨rfl,rfl,rfl,rfl,trivial⟩,all_step hall hx ht,hw.drop⟩
 have hAc:(H.Cores).all coreRB=true:=all_end hall (by have hkn:¬k<n1:=(by simpa using h);omega)
 clear h hall hρ hk;refine byG ?_;refine W_loop (fun μ ρ w=>∃(k:Nat),μ+k=n2∧Has ρ [(1,.pointer (some ⟨b1,0,none⟩)),(52,.slice a2 n2 c2),(53,.int .i64 n2),(54,.int .i64 k)]∧(∀i x,i<k→(cs)[i]? = some x→cacheRH x=true)∧Wd Γ (.blk b1 (.cells #[.string H.Name,.slice a1 n1 c1,.slice a2 n2 c2,.slice a3 n3 c3,.slice a4 n4 c4,.slice a5 n5 c5] 30)::S) w) n2 ⟨0,by omega,⟨rfl,rfl,rfl,rfl,trivial⟩,fun i x h=>by omega,hw⟩ ?_
 clear hw;rintro μ ρ w ⟨k,hk,hρ,hall,hw⟩
 rw[hρ.eq];refine byG ?_;refine W_cond rfl (fun h=>?_) (fun h=>?_)
 ·have hkn:k<n2:=by simpa using h
  obtain⟨x,hx⟩:=get_lt (l:=cs) (k:=k) (by omega)
  have hcx:=(hok x (List.mem_of_getElem? hx)).facts
  refine byG ?_;refine lAlloc ?_;intro b9 w hw;refine lStore ?_;intro w hw;have hw:Wd Γ (.blk b9 (.cells (cC x).toArray 89)::.blk b1 (.cells #[.string H.Name,.slice a1 n1 c1,.slice a2 n2 c2,.slice a3 n3 c3,.slice a4 n4 c4,.slice a5 n5 c5] 30)::S) w:=hw
  refine byG ?_;refine W_cond rfl (fun h2=>?_) (fun h2=>?_)
  ·have hf:cacheRH x=false:=by
    exact key_no (cache_key x hcx.1) h2
   refine byG ?_;exact⟨_,rfl,ret_b rfl (by rw[coresRB,←hcs,all_cache,hAc];exact(and_no2 (and_no1 (all_no hx hf))).symm),hw.drop.drop⟩
  ·have ht:cacheRH x=true:=by
    exact key_yes (cache_key x hcx.1) h2
   refine byG ?_;exact⟨μ-1,by omega,k+1,by omega,⟨rfl,rfl,rfl,rfl,trivial⟩,all_step hall hx ht,hw.drop⟩
 have hAh:(cs).all cacheRH=true:=all_end hall (by have hkn:¬k<n2:=(by simpa using h);omega)
 clear h hall hρ hk;refine byG ?_;refine W_loop (fun μ ρ w=>∃(k:Nat),μ+k=n3∧Has ρ [(1,.pointer (some ⟨b1,0,none⟩)),(106,.slice a3 n3 c3),(107,.int .i64 n3),(108,.int .i64 k)]∧(∀i x,i<k→(H.Links)[i]? = some x→linkRB x=true)∧Wd Γ (.blk b1 (.cells #[.string H.Name,.slice a1 n1 c1,.slice a2 n2 c2,.slice a3 n3 c3,.slice a4 n4 c4,.slice a5 n5 c5] 30)::S) w) n3 ⟨0,by omega,⟨rfl,rfl,rfl,rfl,trivial⟩,fun i x h=>by omega,hw⟩ ?_
 clear hw;rintro μ ρ w ⟨k,hk,hρ,hall,hw⟩
 rw[hρ.eq];refine byG ?_;refine W_cond rfl (fun h=>?_) (fun h=>?_)
 ·have hkn:k<n3:=by simpa using h
  obtain⟨x,hx⟩:=get_lt (l:=H.Links) (k:=k) (by omega)
  refine byG ?_;refine lAlloc ?_;intro b9 w hw;refine lStore ?_;intro w hw;have hw:Wd Γ (.blk b9 (.cells (enc x).toArray 79)::.blk b1 (.cells #[.string H.Name,.slice a1 n1 c1,.slice a2 n2 c2,.slice a3 n3 c3,.slice a4 n4 c4,.slice a5 n5 c5] 30)::S) w:=hw
  refine byG ?_;refine W_cond rfl (fun h2=>?_) (fun h2=>?_)
  ·have hf:linkRB x=false:=by
    simp[linkRB,isNodeB,isLatB]at h2 ⊢;omega
   refine byG ?_;exact⟨_,rfl,ret_b rfl (by rw[coresRB,←hcs,all_cache,hAc,hAh];exact(and_no2 (and_no2 (all_no hx hf))).symm),hw.drop.drop⟩
  ·have ht:linkRB x=true:=by
    simp[linkRB,isNodeB,isLatB]at h2 ⊢;omega
   refine byG ?_;exact⟨μ-1,by omega,k+1,by omega,⟨rfl,rfl,rfl,rfl,trivial⟩,all_step hall hx ht,hw.drop⟩
 have hAl:(H.Links).all linkRB=true:=all_end hall (by have hkn:¬k<n3:=(by simpa using h);omega)
 clear h hall hρ hk;refine byG ?_;exact⟨_,rfl,ret_b rfl (by rw[coresRB,←hcs,all_cache,hAc,hAh,hAl];rfl),hw.drop⟩⟩
instance pg_regionsInRange{Γ:Gho}{u:Value}{H:HwT}[hh:HwR Γ u H]:PG Tryz.prog Γ 146 [u] (.bool (regionsRB H)):=⟨fun S w hw=>by
 obtain⟨a1,n1,c1,a2,n2,c2,a3,n3,c3,a4,n4,c4,a5,n5,c5,cs,rfl,hcs,hok,hsz,r1,r2,r3,r4,r5⟩:=hh.h;obtain⟨hn1,hm1,hx1⟩:=rep_facts r1
 obtain⟨hn2,hm2,hx2⟩:=rep_facts r2
 obtain⟨hn3,hm3,hx3⟩:=rep_facts r3
 obtain⟨hn4,hm4,hx4⟩:=rep_facts r4
 obtain⟨hn5,hm5,hx5⟩:=rep_facts r5
 simp only[List.length_map]at hn1 hn2 hn3 hn4 hn5
 refine calls_of_W Tryz.func146 rfl rfl ?_
 refine byG ?_;refine lBox ?_;intro b1 w hw;have hw:Wd Γ (.blk b1 (.cells #[.string H.Name,.slice a1 n1 c1,.slice a2 n2 c2,.slice a3 n3 c3,.slice a4 n4 c4,.slice a5 n5 c5] 30)::S) w:=hw
 refine byG ?_;refine W_loop (fun μ ρ w=>∃(k:Nat),μ+k=n4∧Has ρ [(1,.pointer (some ⟨b1,0,none⟩)),(3,.func (.func 209) #[] #[]),(9,.slice a4 n4 c4),(10,.int .i64 n4),(11,.int .i64 k)]∧(∀i x,i<k→(H.Mems)[i]? = some x→memRB x=true)∧Wd Γ (.blk b1 (.cells #[.string H.Name,.slice a1 n1 c1,.slice a2 n2 c2,.slice a3 n3 c3,.slice a4 n4 c4,.slice a5 n5 c5] 30)::S) w) n4 ⟨0,by omega,⟨rfl,rfl,rfl,rfl,rfl,trivial⟩,fun i x h=>by omega,hw⟩ ?_
 clear hw;rintro μ ρ w ⟨k,hk,hρ,hall,hw⟩
 rw[hρ.eq];refine byG ?_;refine W_cond rfl (fun h=>?_) (fun h=>?_)
 ·have hkn:k<n4:=by simpa using h
  obtain⟨x,hx⟩:=get_lt (l:=H.Mems) (k:=k) (by omega)
  refine byG ?_;refine lAlloc ?_;intro b9 w hw;refine lStore ?_;intro w hw;have hw:Wd Γ (.blk b9 (.cells (enc x).toArray 83)::.blk b1 (.cells #[.string H.Name,.slice a1 n1 c1,.slice a2 n2 c2,.slice a3 n3 c3,.slice a4 n4 c4,.slice a5 n5 c5] 30)::S) w:=hw
  refine byG ?_;refine lPvG (pc_inSpace x.Base x.Size) ?_
  refine byG ?_;refine W_cond rfl (fun h2=>?_) (fun h2=>?_)
  ·have hf:memRB x=false:=by
    exact key_no (mem_key x) h2
   refine byG ?_;exact⟨_,rfl,ret_b rfl (by exact(and_no1 (all_no hx hf)).symm),hw.drop.drop⟩
  ·have ht:memRB x=true:=by
    exact key_yes (mem_key x) h2
   refine byG ?_;exact⟨μ-1,by omega,k+1,by omega,⟨rfl,rfl,rfl,rfl,rfl,trivial⟩,all_step hall hx ht,hw.drop⟩
 have hAm:(H.Mems).all memRB=true:=all_end hall (by have hkn:¬k<n4:=(by simpa using h);omega)
 clear h hall hρ hk;refine byG ?_;refine W_loop (fun μ ρ w=>∃(k:Nat),μ+k=n5∧Has ρ [(1,.pointer (some ⟨b1,0,none⟩)),(3,.func (.func 209) #[] #[]),(36,.slice a5 n5 c5),(37,.int .i64 n5),(38,.int .i64 k)]∧(∀i x,i<k→(H.Devs)[i]? = some x→devRB x=true)∧Wd Γ (.blk b1 (.cells #[.string H.Name,.slice a1 n1 c1,.slice a2 n2 c2,.slice a3 n3 c3,.slice a4 n4 c4,.slice a5 n5 c5] 30)::S) w) n5 ⟨0,by omega,⟨rfl,rfl,rfl,rfl,rfl,trivial⟩,fun i x h=>by omega,hw⟩ ?_
 clear hw;rintro μ ρ w ⟨k,hk,hρ,hall,hw⟩
 rw[hρ.eq];refine byG ?_;refine W_cond rfl (fun h=>?_) (fun h=>?_)
 ·have hkn:k<n5:=by simpa using h
  obtain⟨x,hx⟩:=get_lt (l:=H.Devs) (k:=k) (by omega)
  refine byG ?_;refine lAlloc ?_;intro b9 w hw;refine lStore ?_;intro w hw;have hw:Wd Γ (.blk b9 (.cells (enc x).toArray 85)::.blk b1 (.cells #[.string H.Name,.slice a1 n1 c1,.slice a2 n2 c2,.slice a3 n3 c3,.slice a4 n4 c4,.slice a5 n5 c5] 30)::S) w:=hw
  refine byG ?_;refine lPvG (pc_inSpace x.Base x.Size) ?_
  refine byG ?_;refine W_cond rfl (fun h2=>?_) (fun h2=>?_)
  ·have hf:devRB x=false:=by
    exact key_no (dev_key x) h2
   refine byG ?_;exact⟨_,rfl,ret_b rfl (by rw[regionsRB,hAm];exact(all_no hx hf).symm),hw.drop.drop⟩
  ·have ht:devRB x=true:=by
    exact key_yes (dev_key x) h2
   refine byG ?_;exact⟨μ-1,by omega,k+1,by omega,⟨rfl,rfl,rfl,rfl,rfl,trivial⟩,all_step hall hx ht,hw.drop⟩
 have hAd:(H.Devs).all devRB=true:=all_end hall (by have hkn:¬k<n5:=(by simpa using h);omega)
 clear h hall hρ hk;refine byG ?_;exact⟨_,rfl,ret_b rfl (by rw[regionsRB,hAm,hAd];rfl),hw.drop⟩⟩
instance pg_alignedOK{Γ:Gho}{u:Value}{H:HwT}[hh:HwR Γ u H]:PG Tryz.prog Γ 147 [u] (.bool (alignRB H)):=⟨fun S w hw=>by
 obtain⟨a1,n1,c1,a2,n2,c2,a3,n3,c3,a4,n4,c4,a5,n5,c5,cs,rfl,hcs,hok,hsz,r1,r2,r3,r4,r5⟩:=hh.h;obtain⟨hn1,hm1,hx1⟩:=rep_facts r1
 obtain⟨hn2,hm2,hx2⟩:=rep_facts r2
 obtain⟨hn3,hm3,hx3⟩:=rep_facts r3
 obtain⟨hn4,hm4,hx4⟩:=rep_facts r4
 obtain⟨hn5,hm5,hx5⟩:=rep_facts r5
 simp only[List.length_map]at hn1 hn2 hn3 hn4 hn5
 refine calls_of_W Tryz.func147 rfl rfl ?_
 refine byG ?_;refine lBox ?_;intro b1 w hw;have hw:Wd Γ (.blk b1 (.cells #[.string H.Name,.slice a1 n1 c1,.slice a2 n2 c2,.slice a3 n3 c3,.slice a4 n4 c4,.slice a5 n5 c5] 30)::S) w:=hw
 refine byG ?_;refine W_loop (fun μ ρ w=>∃(k:Nat),μ+k=n4∧Has ρ [(1,.pointer (some ⟨b1,0,none⟩)),(8,.slice a4 n4 c4),(9,.int .i64 n4),(10,.int .i64 k)]∧(∀i x,i<k→(H.Mems)[i]? = some x→memAB x=true)∧Wd Γ (.blk b1 (.cells #[.string H.Name,.slice a1 n1 c1,.slice a2 n2 c2,.slice a3 n3 c3,.slice a4 n4 c4,.slice a5 n5 c5] 30)::S) w) n4 ⟨0,by omega,⟨rfl,rfl,rfl,rfl,trivial⟩,fun i x h=>by omega,hw⟩ ?_
 clear hw;rintro μ ρ w ⟨k,hk,hρ,hall,hw⟩
 rw[hρ.eq];refine byG ?_;refine W_cond rfl (fun h=>?_) (fun h=>?_)
 ·have hkn:k<n4:=by simpa using h
  obtain⟨x,hx⟩:=get_lt (l:=H.Mems) (k:=k) (by omega)
  refine byG ?_;refine lAlloc ?_;intro b9 w hw;refine lStore ?_;intro w hw;have hw:Wd Γ (.blk b9 (.cells (enc x).toArray 83)::.blk b1 (.cells #[.string H.Name,.slice a1 n1 c1,.slice a2 n2 c2,.slice a3 n3 c3,.slice a4 n4 c4,.slice a5 n5 c5] 30)::S) w:=hw
  refine byG ?_;refine W_cond rfl (fun h2=>?_) (fun h2=>?_)
  ·have hf:memAB x=false:=by
    exact key_no (mema_key x) h2
   refine byG ?_;exact⟨_,rfl,ret_b rfl (by exact(and_no1 (all_no hx hf)).symm),hw.drop.drop⟩
  ·have ht:memAB x=true:=by
    exact key_yes (mema_key x) h2
   refine byG ?_;exact⟨μ-1,by omega,k+1,by omega,⟨rfl,rfl,rfl,rfl,trivial⟩,all_step hall hx ht,hw.drop⟩
 have hAm:(H.Mems).all memAB=true:=all_end hall (by have hkn:¬k<n4:=(by simpa using h);omega)
 clear h hall hρ hk;refine byG ?_;refine W_loop (fun μ ρ w=>∃(k:Nat),μ+k=n5∧Has ρ [(1,.pointer (some ⟨b1,0,none⟩)),(32,.slice a5 n5 c5),(33,.int .i64 n5),(34,.int .i64 k)]∧(∀i x,i<k→(H.Devs)[i]? = some x→devAB x=true)∧Wd Γ (.blk b1 (.cells #[.string H.Name,.slice a1 n1 c1,.slice a2 n2 c2,.slice a3 n3 c3,.slice a4 n4 c4,.slice a5 n5 c5] 30)::S) w) n5 ⟨0,by omega,⟨rfl,rfl,rfl,rfl,trivial⟩,fun i x h=>by omega,hw⟩ ?_
 clear hw;rintro μ ρ w ⟨k,hk,hρ,hall,hw⟩
 rw[hρ.eq];refine byG ?_;refine W_cond rfl (fun h=>?_) (fun h=>?_)
 ·have hkn:k<n5:=by simpa using h
  obtain⟨x,hx⟩:=get_lt (l:=H.Devs) (k:=k) (by omega)
  refine byG ?_;refine lAlloc ?_;intro b9 w hw;refine lStore ?_;intro w hw;have hw:Wd Γ (.blk b9 (.cells (enc x).toArray 85)::.blk b1 (.cells #[.string H.Name,.slice a1 n1 c1,.slice a2 n2 c2,.slice a3 n3 c3,.slice a4 n4 c4,.slice a5 n5 c5] 30)::S) w:=hw
  refine byG ?_;refine W_cond rfl (fun h2=>?_) (fun h2=>?_)
  ·have hf:devAB x=false:=by
    exact key_no (deva_key x) h2
   refine byG ?_;exact⟨_,rfl,ret_b rfl (by rw[alignRB,hAm];exact(all_no hx hf).symm),hw.drop.drop⟩
  ·have ht:devAB x=true:=by
    exact key_yes (deva_key x) h2
   refine byG ?_;exact⟨μ-1,by omega,k+1,by omega,⟨rfl,rfl,rfl,rfl,trivial⟩,all_step hall hx ht,hw.drop⟩
 have hAd:(H.Devs).all devAB=true:=all_end hall (by have hkn:¬k<n5:=(by simpa using h);omega)
 clear h hall hρ hk;refine byG ?_;exact⟨_,rfl,ret_b rfl (by rw[alignRB,hAm,hAd];rfl),hw.drop⟩⟩
class SlC(Γ:Gho)(v:Value)(sz:outParam Nat)(rows:outParam (List (List Value))):Prop where
 h:RepS Γ v sz rows
instance:TPair Tryz.prog 254:=⟨⟨3,by kernel_rfl,by kernel_rfl,by kernel_rfl⟩⟩
abbrev pairRows(l:List (Int×Int)):List (List Value):=l.map fun p=>[.int .i64 p.1,.int .i64 p.2]
theorem take_succ_of{α:Type}{l:List α}{k:Nat}{x:α}(h:l[k]? = some x):l.take (k+1)=l.take k++[x]:=by rw[List.take_add_one,h];rfl
theorem nodup_snoc{α:Type}{l:List α}{x:α}:(l++[x]).Nodup↔l.Nodup∧x∉l:=by
 rw[List.nodup_append];constructor
 ·rintro⟨h1,-,h3⟩;exact⟨h1,fun hx=>h3 x hx x (by simp) rfl⟩
 ·rintro⟨h1,h2⟩;exact⟨h1,by simp,fun a ha b hb=>by simp at hb;subst hb;rintro rfl;exact h2 ha⟩
theorem not_nodup_at{α:Type}{l:List α}{k:Nat}{x:α}(h:l[k]? = some x)(hm:x∈l.take k):¬l.Nodup:=fun hn=>by
 have h1:(l.take (k+1)).Nodup:=hn.sublist (List.take_sublist _ _)
 rw[take_succ_of h,nodup_snoc]at h1;exact h1.2 hm
section
variable {α:Type}[DecidableEq α]{l:List α}{x:α}
abbrev seenL(l:List α):List (α×Bool):=l.map fun x=>(x,true)
theorem seen_ix:∀ {l:List α},(aIx (seenL l) x).isSome=true↔x∈l
 | []=>by simp[aIx,seenL]
 | y::l=>by
  have ih:=seen_ix (l:=l)
  unfold aIx at ih ⊢
  by_cases h:y=x
  ·simp[seenL,List.findIdx?_cons,h]
  ·simp only[seenL,List.map_cons,List.findIdx?_cons,h,decide_false,Bool.false_eq_true,if_false,Option.isSome_map]
   rw[ih];simp[Ne.symm h]
theorem seen_some(h:x∈l):aGet (seenL l) x=some true:=by
 have h2:=seen_ix.2 h
 unfold aGet;cases hi:aIx (seenL l) x with
 | none=>rw[hi]at h2;cases h2
 | some i=>
  obtain⟨v,hv⟩:=aIx_get hi
  obtain⟨y,hy,he⟩:=List.mem_map.1 (List.mem_of_getElem? hv)
  cases he
  simp only[Option.bind_some,hv];rfl
theorem seen_none(h:x∉l):aGet (seenL l) x=none:=by
 unfold aGet;cases hi:aIx (seenL l) x with
 | none=>rfl
 | some i=>exact absurd (seen_ix.1 (by rw[hi];rfl)) h
theorem seen_set(h:x∉l):aSet (seenL l) x true=seenL (l++[x]):=by
 unfold aSet;cases hi:aIx (seenL l) x with
 | none=>simp[seenL]
 | some i=>exact absurd (seen_ix.1 (by rw[hi];rfl)) h
end
theorem distinct_int_any{Γ:Gho}{S:List Res}{w:World}{v:Value}{xs:List (Int)}(hr:RdS Γ S v 1 (intRows xs))(hw:Wd Γ S w):Calls Tryz.prog 210 #[v] w fun e w'=>e=.returned (.bool (decide xs.Nodup))∧Wd Γ S w':=by
 obtain⟨a,n,c,rfl,hn,hnc,hc⟩:=hr.shape;have hnr:=hn
 simp only[intRows,List.length_map]at hn
 refine calls_of_W Tryz.func210 rfl rfl ?_
 refine byG ?_;refine L_step rfl rfl (s_makeMap (K:=3) (α:=Int) (f:=Value.bool) hw fun bm w hw=>?_)
 refine byG ?_;refine W_loop (fun μ ρ w=>∃(k:Nat),μ+k=n∧Has ρ [(3,.map (some bm)),(7,.slice a n c),(8,.int .i64 n),(9,.int .i64 k)]∧(xs.take k).Nodup∧Wd Γ (Res.mpT Tryz.prog 3 Value.bool bm (seenL (xs.take k))::S) w) n ⟨0,by omega,⟨rfl,rfl,rfl,rfl,trivial⟩,by simp,hw⟩ ?_
 clear hw;rintro μ ρ w ⟨k,hk,hρ,hnd,hw⟩
 have hr1:RdS Γ (Res.mpT Tryz.prog 3 Value.bool bm (seenL (xs.take k))::S) (.slice a n c) 1 (intRows xs):=hr.cons
 rw[hρ.eq];refine byG ?_;refine W_cond rfl (fun h=>?_) (fun h=>?_)
 ·have hkn:k<n:=by simpa using h
  obtain⟨x,hx⟩:=get_lt (l:=xs) (k:=k) (by omega)
  refine byG ?_;letI hdm:Decidable (x∈xs.take k):=Classical.propDecidable _
  refine L_y rfl rfl (v:=.bool (decide (x∈xs.take k))) ?_ ?_
  ·by_cases hm:x∈xs.take k
   ·rw[decide_eq_true hm];exact y_lookup_some (P:=Tryz.prog) (K:=3) (α:=Int) (f:=Value.bool) (i:=0) hw rfl rfl rfl (seen_some hm) false
   ·rw[decide_eq_false hm];exact y_lookup_none (P:=Tryz.prog) (K:=3) (α:=Int) (f:=Value.bool) (i:=0) hw rfl rfl rfl (seen_none hm) false
  refine byG ?_;refine W_cond rfl (fun h2=>?_) (fun h2=>?_)
  ·have hm:x∈xs.take k:=by simpa using h2
   refine byG ?_;exact⟨_,rfl,ret_b rfl (decide_eq_false (not_nodup_at hx hm)).symm,hw.drop⟩
  ·have hm:x∉xs.take k:=by simpa using h2
   refine byG ?_;refine L_step rfl rfl (s_mapUpdate (P:=Tryz.prog) (K:=3) (α:=Int) (f:=Value.bool) (i:=0) (v:=true) hw rfl rfl rfl rfl fun w hw=>?_)
   rw[seen_set hm,←take_succ_of hx]at hw;refine byG ?_;exact⟨μ-1,by omega,k+1,by omega,⟨rfl,rfl,rfl,rfl,trivial⟩,by rw[take_succ_of hx];exact nodup_snoc.2 ⟨hnd,hm⟩,hw⟩
 ·have hkn:¬k<n:=by simpa using h
  rw[List.take_of_length_le (by omega)]at hnd
  refine byG ?_;exact⟨_,rfl,ret_b rfl (decide_eq_true hnd).symm,hw.drop⟩
theorem distinct_string_any{Γ:Gho}{S:List Res}{w:World}{v:Value}{xs:List (ByteArray)}(hr:RdS Γ S v 1 (strRows xs))(hw:Wd Γ S w):Calls Tryz.prog 211 #[v] w fun e w'=>e=.returned (.bool (decide xs.Nodup))∧Wd Γ S w':=by
 obtain⟨a,n,c,rfl,hn,hnc,hc⟩:=hr.shape;have hnr:=hn
 simp only[List.length_map]at hn
 refine calls_of_W Tryz.func211 rfl rfl ?_
 refine byG ?_;refine L_step rfl rfl (s_makeMap (K:=9) (α:=ByteArray) (f:=Value.bool) hw fun bm w hw=>?_)
 refine byG ?_;refine W_loop (fun μ ρ w=>∃(k:Nat),μ+k=n∧Has ρ [(3,.map (some bm)),(7,.slice a n c),(8,.int .i64 n),(9,.int .i64 k)]∧(xs.take k).Nodup∧Wd Γ (Res.mpT Tryz.prog 9 Value.bool bm (seenL (xs.take k))::S) w) n ⟨0,by omega,⟨rfl,rfl,rfl,rfl,trivial⟩,by simp,hw⟩ ?_
 clear hw;rintro μ ρ w ⟨k,hk,hρ,hnd,hw⟩
 have hr1:RdS Γ (Res.mpT Tryz.prog 9 Value.bool bm (seenL (xs.take k))::S) (.slice a n c) 1 (strRows xs):=hr.cons
 rw[hρ.eq];refine byG ?_;refine W_cond rfl (fun h=>?_) (fun h=>?_)
 ·have hkn:k<n:=by simpa using h
  obtain⟨x,hx⟩:=get_lt (l:=xs) (k:=k) (by omega)
  refine byG ?_;refine W_cond rfl (fun h2=>?_) (fun h2=>?_)
  ·have hm:x∈xs.take k:=Classical.byContradiction fun hm=>by rw[seen_none hm]at h2;cases h2
   refine byG ?_;exact⟨_,rfl,ret_b rfl (decide_eq_false (not_nodup_at hx hm)).symm,hw.drop⟩
  ·have hm:x∉xs.take k:=fun hm=>by rw[seen_some hm]at h2;cases h2
   refine byG ?_;refine lMapUpdS (i:=0) (f:=Value.bool) (v:=true) ?_
   intro w hw;rw[seen_set hm,←take_succ_of hx]at hw;refine byG ?_;exact⟨μ-1,by omega,k+1,by omega,⟨rfl,rfl,rfl,rfl,trivial⟩,by rw[take_succ_of hx];exact nodup_snoc.2 ⟨hnd,hm⟩,hw⟩
 ·have hkn:¬k<n:=by simpa using h
  rw[List.take_of_length_le (by omega)]at hnd
  refine byG ?_;exact⟨_,rfl,ret_b rfl (decide_eq_true hnd).symm,hw.drop⟩
theorem distinct_pairint_any{Γ:Gho}{S:List Res}{w:World}{v:Value}{xs:List (Int×Int)}(hr:RdS Γ S v 2 (pairRows xs))(hw:Wd Γ S w):Calls Tryz.prog 212 #[v] w fun e w'=>e=.returned (.bool (decide xs.Nodup))∧Wd Γ S w':=by
 obtain⟨a,n,c,rfl,hn,hnc,hc⟩:=hr.shape;have hnr:=hn
 simp only[List.length_map]at hn
 refine calls_of_W Tryz.func212 rfl rfl ?_
 refine byG ?_;refine L_step rfl rfl (s_makeMap (K:=254) (α:=Int×Int) (f:=Value.bool) hw fun bm w hw=>?_)
 refine byG ?_;refine W_loop (fun μ ρ w=>∃(k:Nat),μ+k=n∧Has ρ [(3,.map (some bm)),(7,.slice a n c),(8,.int .i64 n),(9,.int .i64 k)]∧(xs.take k).Nodup∧Wd Γ (Res.mpT Tryz.prog 254 Value.bool bm (seenL (xs.take k))::S) w) n ⟨0,by omega,⟨rfl,rfl,rfl,rfl,trivial⟩,by simp,hw⟩ ?_
 clear hw;rintro μ ρ w ⟨k,hk,hρ,hnd,hw⟩
 have hr1:RdS Γ (Res.mpT Tryz.prog 254 Value.bool bm (seenL (xs.take k))::S) (.slice a n c) 2 (pairRows xs):=hr.cons
 rw[hρ.eq];refine byG ?_;refine W_cond rfl (fun h=>?_) (fun h=>?_)
 ·have hkn:k<n:=by simpa using h
  obtain⟨x,hx⟩:=get_lt (l:=xs) (k:=k) (by omega)
  refine byG ?_;refine lAlloc ?_;intro b5 w hw;refine lStore ?_;intro w hw;have hw:Wd Γ (.blk b5 (.cells #[.int .i64 x.1,.int .i64 x.2] 254)::Res.mpT Tryz.prog 254 Value.bool bm (seenL (xs.take k))::S) w:=hw
  refine byG ?_;letI hdm:Decidable (x∈xs.take k):=Classical.propDecidable _
  refine L_y rfl rfl (v:=.bool (decide (x∈xs.take k))) ?_ ?_
  ·by_cases hm:x∈xs.take k
   ·rw[decide_eq_true hm];exact y_lookup_some (P:=Tryz.prog) (K:=254) (α:=Int×Int) (f:=Value.bool) (i:=1) hw rfl rfl rfl (seen_some hm) false
   ·rw[decide_eq_false hm];exact y_lookup_none (P:=Tryz.prog) (K:=254) (α:=Int×Int) (f:=Value.bool) (i:=1) hw rfl rfl rfl (seen_none hm) false
  refine byG ?_;refine W_cond rfl (fun h2=>?_) (fun h2=>?_)
  ·have hm:x∈xs.take k:=by simpa using h2
   refine byG ?_;exact⟨_,rfl,ret_b rfl (decide_eq_false (not_nodup_at hx hm)).symm,hw.drop.drop⟩
  ·have hm:x∉xs.take k:=by simpa using h2
   refine byG ?_;refine L_step rfl rfl (s_mapUpdate (P:=Tryz.prog) (K:=254) (α:=Int×Int) (f:=Value.bool) (i:=1) (v:=true) hw rfl rfl rfl rfl fun w hw=>?_)
   rw[seen_set hm,←take_succ_of hx]at hw;refine byG ?_;exact⟨μ-1,by omega,k+1,by omega,⟨rfl,rfl,rfl,rfl,trivial⟩,by rw[take_succ_of hx];exact nodup_snoc.2 ⟨hnd,hm⟩,hw.drop⟩
 ·have hkn:¬k<n:=by simpa using h
  rw[List.take_of_length_le (by omega)]at hnd
  refine byG ?_;exact⟨_,rfl,ret_b rfl (decide_eq_true hnd).symm,hw.drop⟩
def inTextC(b:UInt8):Bool:=!(((decide (((b.toNat:Nat):Int)<32)||decide (126<((b.toNat:Nat):Int)))||decide (((b.toNat:Nat):Int)=34))||decide (((b.toNat:Nat):Int)=92))
def textB(s:ByteArray):Bool:=s.data.toList.all inTextC
instance pc_isText(s:ByteArray)[hs:SB s]:PC Tryz.prog 206 [.string s] (.bool (textB s)):=⟨fun w=>by
 have hs:=hs.h
 have hl:=bts_len s
 refine calls_of_W Tryz.func206 rfl rfl ?_
 refine byG ?_;refine W_loop (fun μ ρ w'=>∃k:Nat,μ+k=s.size∧Has ρ [(0,.string s),(3,.int .i64 k)]∧(∀i x,i<k→(bts s)[i]? = some x→inTextC x=true)∧w'=w) s.size ⟨0,by omega,⟨rfl,rfl,trivial⟩,fun i x h=>by omega,rfl⟩ ?_
 rintro μ ρ w' ⟨k,hk,hρ,hall,rfl⟩
 rw[hρ.eq];refine byG ?_;refine W_cond rfl (fun h=>?_) (fun h=>?_)
 ·have hkn:k<s.size:=by simpa using h
  obtain⟨c,hc⟩:=get_lt (l:=bts s) (k:=k) (by omega)
  have hg:s.data.toList.getD (k:Int).toNat 0=c:=by
   show (bts s).getD k 0=c
   rw[List.getD_eq_getElem?_getD,hc];rfl
  refine byG ?_;rw[hg];refine W_cond rfl (fun h2=>?_) (fun h2=>?_)
  ·have hf:inTextC c=false:=by unfold inTextC;rw[h2];rfl
   refine byG ?_;exact⟨_,rfl,ret_b rfl (all_no hc hf).symm,rfl⟩
  ·have hf:inTextC c=true:=by unfold inTextC;rw[h2];rfl
   refine byG ?_;exact⟨μ-1,by omega,k+1,by omega,⟨rfl,rfl,trivial⟩,all_step hall hc hf,rfl⟩
 ·have hkn:¬k<s.size:=by simpa using h
  refine byG ?_;exact⟨_,rfl,ret_b rfl (all_end hall (by omega)).symm,rfl⟩⟩
def headB(H:HwT):Bool:=(decide (H.Name≠⟨#[]⟩)&&decide (H.Name.size≤24))&&textB H.Name
def namesB(H:HwT):Bool:=((headB H&&H.Caches.all fun c=>nameS c.Name)&&H.Mems.all fun c=>nameS c.Name)&&H.Devs.all fun c=>nameS c.Name
theorem all_cnames(cs:List CacheH):((cs.map CacheH.T).all fun c=>nameS c.Name)=cs.all fun c=>nameS c.Name:=by rw[List.all_map];rfl
theorem take_all{α:Type}{l:List α}{k:Nat}{x:α}{p:α→Bool}{a:Bool}(hx:l[k]? = some x):Value.bool ((a&&(l.take k).all p)&&p x)=.bool (a&&(l.take (k+1)).all p):=by
 rw[take_succ_of hx,List.all_append];simp[Bool.and_assoc]
theorem andB{p q:Prop}[Decidable p][Decidable q]{a b:Bool}(h:p↔q)(h2:a=b):(decide p&&a)=(decide q&&b):=by rw[decide_eq_decide.2 h,h2]
instance pg_namesOK{Γ:Gho}{u:Value}{H:HwT}[hh:HwR Γ u H]:PG Tryz.prog Γ 143 [u] (.bool (namesB H)):=⟨fun S w hw=>by
 obtain⟨a1,n1,c1,a2,n2,c2,a3,n3,c3,a4,n4,c4,a5,n5,c5,cs,rfl,hcs,hok,hsz,r1,r2,r3,r4,r5⟩:=hh.h;obtain⟨hn1,hm1,hx1⟩:=rep_facts r1
 obtain⟨hn2,hm2,hx2⟩:=rep_facts r2
 obtain⟨hn3,hm3,hx3⟩:=rep_facts r3
 obtain⟨hn4,hm4,hx4⟩:=rep_facts r4
 obtain⟨hn5,hm5,hx5⟩:=rep_facts r5
 simp only[List.length_map]at hn1 hn2 hn3 hn4 hn5
 refine calls_of_W Tryz.func143 rfl rfl ?_
 refine byG ?_;refine lBox ?_;intro b1 w hw;have hw:Wd Γ (.blk b1 (.cells #[.string H.Name,.slice a1 n1 c1,.slice a2 n2 c2,.slice a3 n3 c3,.slice a4 n4 c4,.slice a5 n5 c5] 30)::S) w:=hw
 obtain⟨z1,z2,z3,z4⟩:=hsz;haveI:SB H.Name:=⟨z1⟩
 refine byG ?_;have hk0:((decide (H.Name≠⟨#[]⟩)&&decide ((H.Name.size:Int)≤24))&&textB H.Name)=headB H:=by
  unfold headB;rw[show decide ((H.Name.size:Int)≤24)=decide (H.Name.size≤24) from decide_eq_decide.2 (by omega)]
 rw[hk0];have hq:(headB H)=(headB H&&(cs.take 0).all fun c=>nameS c.Name):=by simp
 rw[hq];refine byG ?_;refine W_loop (fun μ ρ w=>∃(k:Nat),μ+k=n2∧Has ρ [(1,.pointer (some ⟨b1,0,none⟩)),(3,.bool (headB H&&(cs.take k).all fun c=>nameS c.Name)),(25,.slice a2 n2 c2),(26,.int .i64 n2),(27,.int .i64 k)]∧Wd Γ (.blk b1 (.cells #[.string H.Name,.slice a1 n1 c1,.slice a2 n2 c2,.slice a3 n3 c3,.slice a4 n4 c4,.slice a5 n5 c5] 30)::S) w) n2 ⟨0,by omega,⟨rfl,rfl,rfl,rfl,rfl,trivial⟩,hw⟩ ?_
 clear hw hq;rintro μ ρ w ⟨k,hk,hρ,hw⟩
 rw[hρ.eq];refine byG ?_;refine W_cond rfl (fun h=>?_) (fun h=>?_)
 ·have hkn:k<n2:=by simpa using h
  obtain⟨x,hx⟩:=get_lt (l:=cs) (k:=k) (by omega)
  haveI:SB x.Name:=⟨z2 x.T (by rw[←hcs];exact List.mem_map.2 ⟨x,List.mem_of_getElem? hx,rfl⟩)⟩
  refine byG ?_;refine lAlloc ?_;intro b9 w hw;refine lStore ?_;intro w hw;have hw:Wd Γ (.blk b9 (.cells (cC x).toArray 89)::.blk b1 (.cells #[.string H.Name,.slice a1 n1 c1,.slice a2 n2 c2,.slice a3 n3 c3,.slice a4 n4 c4,.slice a5 n5 c5] 30)::S) w:=hw
  refine byG ?_;exact⟨μ-1,by omega,k+1,by omega,⟨rfl,take_all hx,rfl,rfl,rfl,trivial⟩,hw.drop⟩
 have hkn:¬k<n2:=by simpa using h
 rw[List.take_of_length_le (l:=cs) (by omega)]
 clear h hkn hρ hk;have hq:((headB H&&cs.all fun c=>nameS c.Name))=((headB H&&cs.all fun c=>nameS c.Name)&&(H.Mems.take 0).all fun c=>nameS c.Name):=by simp
 rw[hq];refine byG ?_;refine W_loop (fun μ ρ w=>∃(k:Nat),μ+k=n4∧Has ρ [(1,.pointer (some ⟨b1,0,none⟩)),(3,.bool ((headB H&&cs.all fun c=>nameS c.Name)&&(H.Mems.take k).all fun c=>nameS c.Name)),(39,.slice a4 n4 c4),(40,.int .i64 n4),(41,.int .i64 k)]∧Wd Γ (.blk b1 (.cells #[.string H.Name,.slice a1 n1 c1,.slice a2 n2 c2,.slice a3 n3 c3,.slice a4 n4 c4,.slice a5 n5 c5] 30)::S) w) n4 ⟨0,by omega,⟨rfl,rfl,rfl,rfl,rfl,trivial⟩,hw⟩ ?_
 clear hw hq;rintro μ ρ w ⟨k,hk,hρ,hw⟩
 rw[hρ.eq];refine byG ?_;refine W_cond rfl (fun h=>?_) (fun h=>?_)
 ·have hkn:k<n4:=by simpa using h
  obtain⟨x,hx⟩:=get_lt (l:=H.Mems) (k:=k) (by omega)
  haveI:SB x.Name:=⟨z3 x (List.mem_of_getElem? hx)⟩
  refine byG ?_;refine lAlloc ?_;intro b9 w hw;refine lStore ?_;intro w hw;have hw:Wd Γ (.blk b9 (.cells (enc x).toArray 83)::.blk b1 (.cells #[.string H.Name,.slice a1 n1 c1,.slice a2 n2 c2,.slice a3 n3 c3,.slice a4 n4 c4,.slice a5 n5 c5] 30)::S) w:=hw
  refine byG ?_;exact⟨μ-1,by omega,k+1,by omega,⟨rfl,take_all hx,rfl,rfl,rfl,trivial⟩,hw.drop⟩
 have hkn:¬k<n4:=by simpa using h
 rw[List.take_of_length_le (l:=H.Mems) (by omega)]
 clear h hkn hρ hk;have hq:(((headB H&&cs.all fun c=>nameS c.Name)&&H.Mems.all fun c=>nameS c.Name))=(((headB H&&cs.all fun c=>nameS c.Name)&&H.Mems.all fun c=>nameS c.Name)&&(H.Devs.take 0).all fun c=>nameS c.Name):=by simp
 rw[hq];refine byG ?_;refine W_loop (fun μ ρ w=>∃(k:Nat),μ+k=n5∧Has ρ [(1,.pointer (some ⟨b1,0,none⟩)),(3,.bool (((headB H&&cs.all fun c=>nameS c.Name)&&H.Mems.all fun c=>nameS c.Name)&&(H.Devs.take k).all fun c=>nameS c.Name)),(53,.slice a5 n5 c5),(54,.int .i64 n5),(55,.int .i64 k)]∧Wd Γ (.blk b1 (.cells #[.string H.Name,.slice a1 n1 c1,.slice a2 n2 c2,.slice a3 n3 c3,.slice a4 n4 c4,.slice a5 n5 c5] 30)::S) w) n5 ⟨0,by omega,⟨rfl,rfl,rfl,rfl,rfl,trivial⟩,hw⟩ ?_
 clear hw hq;rintro μ ρ w ⟨k,hk,hρ,hw⟩
 rw[hρ.eq];refine byG ?_;refine W_cond rfl (fun h=>?_) (fun h=>?_)
 ·have hkn:k<n5:=by simpa using h
  obtain⟨x,hx⟩:=get_lt (l:=H.Devs) (k:=k) (by omega)
  haveI:SB x.Name:=⟨z4 x (List.mem_of_getElem? hx)⟩
  refine byG ?_;refine lAlloc ?_;intro b9 w hw;refine lStore ?_;intro w hw;have hw:Wd Γ (.blk b9 (.cells (enc x).toArray 85)::.blk b1 (.cells #[.string H.Name,.slice a1 n1 c1,.slice a2 n2 c2,.slice a3 n3 c3,.slice a4 n4 c4,.slice a5 n5 c5] 30)::S) w:=hw
  refine byG ?_;exact⟨μ-1,by omega,k+1,by omega,⟨rfl,take_all hx,rfl,rfl,rfl,trivial⟩,hw.drop⟩
 have hkn:¬k<n5:=by simpa using h
 rw[List.take_of_length_le (l:=H.Devs) (by omega)]
 clear h hkn hρ hk;refine byG ?_;refine⟨_,rfl,ret_b rfl ?_,hw.drop⟩
 unfold namesB;rw[←hcs,all_cnames]⟩
instance pg_countsOK{Γ:Gho}{u:Value}{H:HwT}[hh:HwR Γ u H]:PG Tryz.prog Γ 144 [u] (.bool (countsB H)):=⟨fun S w hw=>by
 obtain⟨a1,n1,c1,a2,n2,c2,a3,n3,c3,a4,n4,c4,a5,n5,c5,cs,rfl,hcs,hok,hsz,r1,r2,r3,r4,r5⟩:=hh.h;obtain⟨hn1,hm1,hx1⟩:=rep_facts r1
 obtain⟨hn2,hm2,hx2⟩:=rep_facts r2
 obtain⟨hn3,hm3,hx3⟩:=rep_facts r3
 obtain⟨hn4,hm4,hx4⟩:=rep_facts r4
 obtain⟨hn5,hm5,hx5⟩:=rep_facts r5
 simp only[List.length_map]at hn1 hn2 hn3 hn4 hn5
 refine calls_of_W Tryz.func144 rfl rfl ?_
 refine byG ?_;refine lBox ?_;intro b1 w hw;have hw:Wd Γ (.blk b1 (.cells #[.string H.Name,.slice a1 n1 c1,.slice a2 n2 c2,.slice a3 n3 c3,.slice a4 n4 c4,.slice a5 n5 c5] 30)::S) w:=hw
 refine byG ?_;refine⟨_,rfl,ret_b rfl ?_,hw.drop⟩
 have hl:H.Caches.length=cs.length:=by rw[←hcs];simp
 unfold countsB;rw[hl,hn1,hn2,hn3,hn4,hn5];simp only[Bool.and_assoc]
 refine andB (by omega) (andB (by omega) (andB (by omega) (andB (by omega) (andB (by omega) ?_))))
 exact decide_eq_decide.2 (by omega)⟩
end Go.Proofs.YtfoggcgogafocaaGreat
end
