/- Texts of this proof, one behind another. -/
import Derived.Test.YtlmiakjbogojgaaGreatDoorM3
import Derived.Test.YtlmiakjbogojgaaGreatDoorM2
import Derived.Shelf.SlLaysF
set_option linter.unusedVariables false
set_option linter.unusedSimpArgs false
section
open Go Mk
namespace Go.Proofs.YtlmiakjbogojgaaGreatDoor
set_option maxHeartbeats 16000000
attribute [local irreducible] Calls cI cB
def UD(v:Val):Value:=.agg (enc v).toArray
abbrev E1(bm:Nat)(e:Env):B5:=B5.ms UD bm e
def G0(vs vg vt vr:Value)(bm:Nat):Obj:=.cells #[vs,vg,vt,.map (some bm),vr] 160
section
variable {Γ:C4}{S:List B5}{w:World}{b bm:Nat}{vs vg vt vr:Value}{e:Env}
theorem NU{o:G8}(hw:Wd Γ (.blk b (G0 vs vg vt vr bm)::E1 bm e::S) w):Calls Tryz.prog 225 #[.pointer (some ⟨b,0,none⟩),.agg (enc o).toArray] w fun r w'=>r=.returned (.agg (enc (Eb e o)).toArray)∧Wd Γ (.blk b (G0 vs vg vt vr bm)::E1 bm e::S) w':=by
 refine F1 Tryz.func225 rfl rfl ?_
 refine A7 ?_;refine J5 ?_;intro b3 w hw;refine B7 ?_;intro b4 w hw;have hw:Wd Γ (.blk b4 (.cells #[.int .i64 0,.int .i64 0,.string ⟨#[]⟩] 65)::.blk b3 (.cells (enc o).toArray 75)::.blk b (G0 vs vg vt vr bm)::E1 bm e::S) w:=hw
 refine A7 ?_;refine A0 rfl (fun h=>?_) (fun h=>?_)
 ·have hv:o.Var≠C5:=of_decide_eq_true h
  refine A7 ?_;refine p8 [.blk b3 (.cells (enc o).toArray 75),.blk b (G0 vs vg vt vr bm),E1 bm e] (.blk b4 (.cells #[.int .i64 0,.int .i64 0,.string ⟨#[]⟩] 65)::S) [] [[],[],[],[],[],[],[],[0]] (hw.perm L2) ?_
  refine W9 ?_;refine V9 (v:=undef) (T':=Unit) (fun _ _=>True) (fun _=>.blk b4 (.cells (enc (As e o.Var)).toArray 65)::S) (fun t g w Y _ hw=>?_) ?_
  ·exact X4 (i:=0) (vs:=enc (As e o.Var)) (n:=3) (by kernel_rfl) hw rfl rfl rfl rfl (fun u hu=>(List.all_eq_true.1 (Ag (As e o.Var))) u hu) rfl (by decide) fun w' hw'=>⟨(),trivial,(fun _=>rfl),hw'⟩
  refine Al fun t w g _ hw=>?_
  have hw:Wd Γ ((.blk b4 (.cells (enc (As e o.Var)).toArray 65)::S)++[.blk b3 (.cells (enc o).toArray 75),.blk b (G0 vs vg vt vr bm),E1 bm e]) w:=hw
  have hw:Wd Γ (.blk b4 (.cells (enc (As e o.Var)).toArray 65)::.blk b3 (.cells (enc o).toArray 75)::.blk b (G0 vs vg vt vr bm)::E1 bm e::S) w:=hw.perm L2
  refine A7 ?_;refine⟨[.agg (enc (As e o.Var)).toArray],⟨J2 (i:=0) hw rfl rfl rfl,trivial⟩,?_,hw.drop.drop⟩
  unfold Eb;rw[if_pos hv];rfl
 ·have hv:¬o.Var≠C5:=of_decide_eq_false h
  refine A7 ?_;refine A9 ?_;intro w hw;have hw:Wd Γ (.blk b4 (.cells (enc o.Const).toArray 65)::.blk b3 (.cells (enc o).toArray 75)::.blk b (G0 vs vg vt vr bm)::E1 bm e::S) w:=hw
  refine A7 ?_;refine⟨[.agg (enc o.Const).toArray],⟨J2 (i:=0) hw rfl rfl rfl,trivial⟩,?_,hw.drop.drop⟩
  unfold Eb;rw[if_neg hv];rfl
theorem LG{os:List G8}{xs:List Val}{k:Nat}{o:G8}{x:Val}(ho:os[k]? = some o)(hx:xs[k]? = some x):P3 e (os.drop k) (xs.drop k)=(Ir e o x&&P3 e (os.drop (k+1)) (xs.drop (k+1))):=by
 rw[M8 ho,M8 hx];rfl
theorem Lh{o:G8}{x:Val}(ha:o.Var≠J9)(hn:I3 e C5=none):(!Ir e o x)=(if o.Var=C5 then decide (o.Const≠x) else ((I3 e o.Var).isSome&&decide ((I3 e o.Var).getD default≠x))||(!(I3 e o.Var).isSome && !I2 x)):=by
 unfold Ir;rw[if_neg ha];by_cases h0:o.Var=C5
 ·rw[if_pos h0,if_pos h0];simp
 rw[if_neg h0,if_neg h0];cases I3 e o.Var with
 | none=>simp
 | some u=>simp
theorem Jw{va:Value}{os:List G8}{f:D4}(hargs:D6 Γ va 4 (os.map enc))(hos:∀o∈os,k0 o)(hf:Cf Γ f)(hfo:y0 f.fact)(hlen:os.length=f.Args.length)(hn:I3 e C5=none)(hN:os.length≤1000)(hw:Wd Γ (.blk b (G0 vs vg vt vr bm)::E1 bm e::S) w) :
  Calls Tryz.prog 147 #[.pointer (some ⟨b,0,none⟩),va,.agg (cF f).toArray] w fun r w'=>r=.returned (.bool (P3 e os f.Args))∧Wd Γ (.blk b (G0 vs vg vt vr bm)::E1 bm e::S) w':=by
 obtain⟨a,n,c,rfl,hln,hnc,hc⟩:=hargs.shape;simp only[List.length_map]at hln
 obtain⟨l1,l2,l3⟩:=hf.len;have hfR:=hf
 unfold Cf D4.hdr at hfR;obtain⟨-,-,hvo⟩:=hfo;obtain⟨fr,fa,fn,fc,xs⟩:=f;simp only[D4.fact]at l1 l2 l3 hfR hlen hvo ⊢
 refine A4 Tryz.func147 rfl rfl ?_
 refine A7 ?_;refine J5 ?_;intro b5 w hw;have hw:Wd Γ (.blk b5 (.cells #[.string fr,.slice fa fn fc] 80)::.blk b (G0 vs vg vt vr bm)::E1 bm e::S) w:=hw
 refine A7 ?_;refine C1 (fun μ ρ w=>∃(k:Nat),μ+k=n∧Has ρ [(0,.pointer (some ⟨b,0,none⟩)),(5,.pointer (some ⟨b5,0,none⟩)),(11,.slice a n c),(12,.int .i64 n),(13,.int .i64 k)]∧P3 e os xs=P3 e (os.drop k) (xs.drop k)∧Wd Γ (.blk b5 (.cells #[.string fr,.slice fa fn fc] 80)::.blk b (G0 vs vg vt vr bm)::E1 bm e::S) w) n ⟨0,by omega,⟨rfl,rfl,rfl,rfl,rfl,trivial⟩,rfl,hw⟩ ?_
 clear hw;rintro μ ρ w ⟨k,hk,hρ,hfit,hw⟩
 rw[hρ.eq];clear hρ;refine A7 ?_;refine A0 rfl (fun h=>?_) (fun h=>?_)
 ·have hkn:k<n:=by have:=of_decide_eq_true h;omega
  clear h;obtain⟨o,ho⟩:=B8 (l:=os) (k:=k) (by omega)
  obtain⟨x,hx⟩:=B8 (l:=xs) (k:=k) (by omega)
  have hxo:=hvo x (List.mem_of_getElem? hx)
  have hpw:=CG (Γ:=Γ) hxo
  rw[LG ho hx]at hfit;refine A7 ?_;refine B7 ?_;intro b8 w hw;refine A7 ?_;refine A9 ?_;intro w hw;have hw:Wd Γ (.blk b8 (.cells (enc o).toArray 75)::.blk b5 (.cells #[.string fr,.slice fa fn fc] 80)::.blk b (G0 vs vg vt vr bm)::E1 bm e::S) w:=hw
  refine A7 ?_;refine A0 rfl (fun h=>?_) (fun h=>?_)
  ·have ha:o.Var=J9:=of_decide_eq_true h
   refine A7 ?_;refine⟨μ-1,by omega,k+1,by omega,⟨rfl,rfl,rfl,rfl,rfl,trivial⟩,?_,hw.drop⟩
   rw[hfit];unfold Ir;rw[if_pos ha,Bool.true_and]
  have ha:o.Var≠J9:=of_decide_eq_false h
  clear h;refine A7 ?_;refine Dx 1 [[],[],[],[],[],[],[],[],[],[],[0],[0],[]] [[],[],[],[],[],[],[],[],[],[],[0],[0],[]] [[9]] ?_ (hw:=hw)
  refine W9 ?_;refine W9 ?_;refine Ce ?_
  refine o5 ?_
  refine W9 ?_;refine O0 ?_
  clear hw;intro b9 w hw;have hw:Wd Γ (.blk b9 (.cells (enc ((I3 e o.Var).getD default)).toArray 65)::.blk b8 (.cells (enc o).toArray 75)::.blk b5 (.cells #[.string fr,.slice fa fn fc] 80)::.blk b (G0 vs vg vt vr bm)::E1 bm e::S) w:=hw
  refine A7 ?_;refine J6 (fun ρ w=>∃(u:Val) (t:Bool),Has ρ [(0,.pointer (some ⟨b,0,none⟩)),(5,.pointer (some ⟨b5,0,none⟩)),(7,.int .i64 k),(9,.pointer (some ⟨b9,0,none⟩)),(10,.bool t),(11,.slice a n c),(12,.int .i64 n),(13,.int .i64 k)]∧(!Ir e o x)=((t&&decide (u≠x))||(!t && !I2 x))∧Wd Γ (.blk b9 (.cells (enc u).toArray 65)::.blk b8 (.cells (enc o).toArray 75)::.blk b5 (.cells #[.string fr,.slice fa fn fc] 80)::.blk b (G0 vs vg vt vr bm)::E1 bm e::S) w) ?_ ?_
  ·refine A0 rfl (fun h=>?_) (fun h=>?_)
   ·have h0:o.Var=C5:=of_decide_eq_true h
    refine A7 ?_;refine A9 ?_;intro w hw;have hw:Wd Γ (.blk b9 (.cells (enc o.Const).toArray 65)::.blk b8 (.cells (enc o).toArray 75)::.blk b5 (.cells #[.string fr,.slice fa fn fc] 80)::.blk b (G0 vs vg vt vr bm)::E1 bm e::S) w:=hw
    refine A7 ?_;refine⟨o.Const,true,⟨rfl,rfl,rfl,rfl,rfl,rfl,rfl,rfl,trivial⟩,?_,hw⟩
    rw[Lh ha hn,if_pos h0];simp
   ·have h0:¬o.Var=C5:=of_decide_eq_false h
    refine A7 ?_;refine⟨(I3 e o.Var).getD default,(I3 e o.Var).isSome,⟨rfl,rfl,rfl,rfl,rfl,rfl,rfl,rfl,trivial⟩,?_,hw⟩
    rw[Lh ha hn,if_neg h0]
  clear hw;rintro ρ w ⟨u,t,hρ,hfu,hw⟩
  rw[hρ.eq];clear hρ;refine A7 ?_;refine H0 (by kernel_rfl) (by kernel_rfl) hw ?_
  refine Bt ?_;refine qG ?_ (hy:=by intro hc w hw;exact Z9 (a:=u) (b:=x) B1 B1 rfl)
  refine Bt ?_;clear hw;intro w hw;refine A0 rfl (fun h=>?_) (fun h=>?_)
  ·have hff:Ir e o x=false:=by
    have:=hfu.trans h
    simpa using this
   refine A7 ?_;refine⟨_,rfl,F7 rfl ?_,hw.drop.drop.drop⟩
   rw[hfit,hff,Bool.false_and]
  ·have hff:Ir e o x=true:=by
    have:=hfu.trans h
    simpa using this
   rw[hff,Bool.true_and]at hfit;refine A7 ?_;exact⟨μ-1,by omega,k+1,by omega,⟨rfl,rfl,rfl,rfl,rfl,trivial⟩,hfit,hw.drop.drop⟩
 have hkn:k=n:=by have:=of_decide_eq_false h;omega
 refine A7 ?_;refine⟨_,rfl,F7 rfl ?_,hw.drop⟩
 rw[hfit,E0 os (by omega)];rfl
end
end Go.Proofs.YtlmiakjbogojgaaGreatDoor
end
section
open Go
namespace Mk
theorem Ig{P:Program}{ops:Array Oper}{D:List Deferred}{Q Q':Exit→Act→World→Prop}{K K':Act→World→Prop}(hQ:∀e a w,Q e a w→Q' e { a with defers:=a.defers++D } w)(hK:∀a w,K a w→K' { a with defers:=a.defers++D } w){i:Nat}{a:Act}{w:World}
  (h:wpOp P ops Q i K a w):wpOp P ops Q' i K' { a with defers:=a.defers++D } w:=by
 have hL:LetsOut Q→LetsOut Q':=fun⟨a,w,h⟩=>⟨_,_,hQ _ _ _ h⟩
 have nx:∀d v w,K (a.put d v) w→K' (({ a with defers:=a.defers++D }:Act).put d v) w:=fun d v w h=>by
  have:=hK _ _ h
  rw[put_defers];rw[I4]at this;exact this
 have he:({ a with defers:=a.defers++D }:Act).eval=a.eval:=rfl
 unfold wpOp at *
 split
 ·rename_i ho
  rw[ho]at h;exact hK _ _ h
 ·rename_i o ho
  rw[ho]at h;simp only at h ⊢
  show if Region.wanted o (yielded ops a.tmps) then _ else _
  by_cases hw:Region.wanted o (yielded ops a.tmps)
  ·rw[if_pos hw]at h ⊢
   rcases h with h|⟨h1,h2⟩
   ·refine .inl ?_
    unfold Oper.wp at h ⊢
    rw[he];generalize (execOp a.eval o).run P w=r at *
    cases r with
    | ok x w'=>
     cases x with
     | value v=>exact nx _ _ _ h
     | skip=>exact nx _ _ _ h
     | defer d=>
      have:=hK _ _ h
      rw[I4]at this;simp only[Oper.upon]
      rw[put_defers]at this ⊢
      exact this
     | enter f args=>
      refine Calls.mono h fun e w'' h=>?_
      cases e with
      | returned v=>exact nx _ _ _ h
      | panicked ch=>exact hQ _ _ _ h
      | outgrown=>exact hL h
     | row row args=>exact Rows.mono h fun v w'' h=>nx _ _ _ h
     | _=>exact h.elim
    | halt x w'=>
     cases x with
     | panic v=>exact hQ _ _ _ h
     | _=>exact h.elim
   ·exact .inr ⟨h1,hL h2⟩
  ·rw[if_neg hw]at h ⊢
   exact nx _ _ _ h
theorem DK{P:Program}{ops:Array Oper}{D:List Deferred}{Q Q':Exit→Act→World→Prop}{md:Region.Mode}(hQ:∀e a w,Q e a w→Q' e { a with defers:=a.defers++D } w):∀(fuel:Nat) (listed:Array Bool) (a:Act) (w:World),wpAny P md ops Q fuel listed a w→wpAny P md ops Q' fuel listed { a with defers:=a.defers++D } w
 | 0,listed,a,w,h=>⟨h.1,hQ _ _ _ h.2⟩
 | fuel+1,listed,a,w,h=>⟨fun h0=>hQ _ _ _ (h.1 h0),fun i hi=>Ig hQ (fun a w h=>DK hQ fuel _ a w h) (h.2 i hi)⟩
section
variable {P:Program}{n:Nat}{Q:List Deferred→Exit→Fr→World→Prop}{D:List Deferred}{ρ:Fr}{w:World}
theorem Pt{id:Nat}{l:List Oper}(hm:P.follows .mixedOrders=true)(h:∀a:Act,a.defers=[]→a.tmps.size=n→D9 a=ρ→wpAny P .any l.toArray (lift n (Q D)) l.toArray.size (Array.replicate l.toArray.size false) a { w with drawn:=w.drawn+1 }) :
  WX P n (.region id l.toArray true) Q D ρ w:=fun a hd hs hf=>wp_region_any hm (by
 have:=DK (P:=P) (ops:=l.toArray) (D:=D) (md:=.any) (Q:=lift n (Q D)) (Q':=fun e a w=>a.tmps.size=n∧Q a.defers e (D9 a) w) (fun e a w ⟨x,y,z⟩=>⟨y,by
  show Q (a.defers++D) e (D9 a) w
  rw[x];exact z⟩) l.toArray.size (Array.replicate l.toArray.size false) { a with defers:=[] } { w with drawn:=w.drawn+1 } (h { a with defers:=[] } rfl hs hf)
 have e:({ ({ a with defers:=[] }:Act) with defers:=([]:List Deferred)++D }:Act)=a:=by subst hd;rfl
 exact e ▸ this)
variable {Γ:C4}{K S:List B5}
section
attribute [local semireducible] Qw
theorem Pp{id:Nat}{l:List Oper}(hm:P.follows .mixedOrders=true)(hk:Es n l=true)(hw:Wd Γ S w)(h:Qw P n l Γ S (fun ρ w=>Q D .normal ρ w) l ρ) :
  WX P n (.region id l.toArray true) Q D ρ w:=Pt hm fun a hda hs hf=>by
 simp only[Es,Bool.and_eq_true]at hk
 obtain⟨cs,hc⟩:=(h 0).chain
 have inv:Inv ⟨P,n,l,Γ,S,[],[],true⟩ ⟨ρ,[],[],[]⟩ cs (Array.replicate l.toArray.size false) a { w with drawn:=w.drawn+1 } [] (fun _=>undef) Γ:=by
  refine⟨hda,hs,by simp,by simp,by simp,fun i hi=>?_,fun _ _ _ h=>by simp at h,Env.rl.refl _ _,by simp,fun t _=>by rw[hf],by simp,0,Nat.zero_le _,by simp,?_⟩
  ·have:i<l.length:=hi
   simp[this]
  ·have:EB l cs ⟨ρ,[],[],[]⟩ 0=⟨ρ,[],[],[]⟩:=by cases l <;> cases cs <;> rfl
   simp only[this]
   simpa using hw.drawn
 exact Inv.any hc rfl rfl hk.1 hk.2 _ _ a _ [] _ Γ inv (by simp)
end
theorem Je{id:Nat}{l:List Oper}(K:List B5)(M:List (Fr→List B5))(wr tc stab:List (List Nat))(hw:Wd Γ (K++(List.range stab.length).flatMap fun x=>(ML M) x (F3 (stab.getD x []) ρ D5)) w)
  (h:MSw (mV P n l Γ K wr tc stab) (fun ρ w=>Q D .normal ρ w) 0 l ⟨ρ,ML M⟩) (hm:P.follows .mixedOrders=true:=by kernel_rfl) (hk:O8 n l wr tc stab=true:=by kernel_rfl):WX P n (.region id l.toArray true) Q D ρ w:=Pt hm fun a hda hs hf=>by
 obtain⟨cs,hc⟩:=h.chain;have inv:MInv ⟨P,n,l,Γ,K,wr,tc,stab,true⟩ ⟨ρ,ML M⟩ cs (Array.replicate l.toArray.size false) a { w with drawn:=w.drawn+1 } [] Γ:=by
  refine⟨hda,hs,by simp,by simp,by simp,fun i hi=>?_,fun _ _ _ h=>by simp at h,R6.rl_refl _,fun t _ _=>by rw[hf],by simp,fun _=>0,fun x=>⟨Nat.zero_le _,by simp⟩,?_⟩
  ·have:i<l.length:=hi
   simp[this]
  ·simp only[AG,hf]
   exact hw.drawn
 exact MInv.any hc hk _ _ a _ [] Γ inv (by simp)
theorem Qp{id:Nat}{l:List Oper}(k:Nat)(wr tc stab:List (List Nat))(h:MSw (mV P n l Γ K wr tc stab) (fun ρ w=>Q D .normal ρ w) 0 l ⟨ρ,ML (List.replicate k fun _=>[])⟩)
  (hw:Wd Γ K w:=by exact hw) (hm:P.follows .mixedOrders=true:=by kernel_rfl) (hk:O8 n l wr tc stab=true:=by kernel_rfl):WX P n (.region id l.toArray true) Q D ρ w:=
 Je K _ wr tc stab (by
  have:((List.range stab.length).flatMap fun x=>ML (List.replicate k fun _=>[]) x (F3 (stab.getD x []) ρ D5))=[]:=by
   rw[List.flatMap_eq_nil_iff];intro x _;unfold ML;by_cases hx:x<k
   ·simp[List.getD_eq_getElem?_getD,List.getElem?_replicate,hx]
   ·simp[List.getD_eq_getElem?_getD,List.getElem?_replicate,hx]
  rw[this,List.append_nil];exact hw) h hm hk
theorem Rc{id:Nat}{l:List Oper}(K X:List B5)(N:List Nat)(wr:List (List Nat))(hw:Wd Γ (K++X) w)
  (h:MSw (mV P n l Γ K wr wr [N]) (fun ρ w=>Q D .normal ρ w) 0 l ⟨ρ,ML [P7 (T:=Unit) (fun _ _=>True) (fun _=>X)]⟩)
  (hm:P.follows .mixedOrders=true:=by kernel_rfl) (hk:O8 n l wr wr [N]=true:=by kernel_rfl):WX P n (.region id l.toArray true) Q D ρ w:=
 Je K [P7 (T:=Unit) (fun _ _=>True) (fun _=>X)] wr wr [N] (by
  have h1:Wd Γ (X++K) w:=hw.perm List.perm_append_comm
  have h2:=Wd.closeEx (α:={t:Unit // True}) (X:=fun _=>X) ⟨(),trivial⟩ h1
  exact(h2.perm (List.perm_append_singleton _ K).symm:_)) h hm hk
end
end Mk
namespace Mk
section
variable {P:Program}{ρ:Fr}{w:World}{K:Value→World→Prop}{d:Option Tmp}{T ty:TypeId}{pos:String}{es:Array Edge}{g:Option (Nat×Bool)}{x y z:Operand}
attribute [local semireducible] Step
theorem Jj(h:Step P ⟨d,.mapUpdate T x y z,ty,pos,es,g⟩ ρ w K):Step P ⟨d,.insert T x y z,ty,pos,es,g⟩ ρ w K:=h
end
end Mk
end
section
open Go Mk
namespace Go.Proofs.YtlmiakjbogojgaaGreatDoor
set_option maxHeartbeats 16000000
attribute [local irreducible] Calls cI cB
theorem PV{Γ:C4}{x:E6}{l r:Val}(hg:u5 x.g.Off)(hl:m0 l)(hr:m0 r):PG Tryz.prog Γ 224 [.agg (cG x).toArray,.agg (enc l).toArray,.agg (enc r).toArray] (.bool (BU x.g l r)):=⟨fun S w hw=>by
 haveI:=GY l.Num r.Num x.g.Off hl.1 hr.1 hg
 refine A4 Tryz.func224 rfl rfl ?_
 refine A7 ?_;refine J5 ?_;intro b3 w hw;refine J5 ?_;intro b4 w hw;refine J5 ?_;intro b5 w hw;have hw:Wd Γ (.blk b5 (.cells (enc r).toArray 65)::.blk b4 (.cells (enc l).toArray 65)::.blk b3 (.cells (cG x).toArray 77)::S) w:=hw
 refine A7 ?_;refine A0 rfl (fun h=>?_) (fun h=>?_)
 ·have h':x.g.Off=0∧x.g.Op=1:=by simpa using h
  refine A7 ?_;refine⟨_,rfl,F7 rfl ?_,hw.drop.drop.drop⟩
  unfold BU;rw[if_pos h']
 have h1:¬(x.g.Off=0∧x.g.Op=1):=by simpa using h
 clear h;refine A7 ?_;refine A0 rfl (fun h=>?_) (fun h=>?_)
 ·have h':x.g.Off=0∧x.g.Op=2:=by simpa using h
  refine A7 ?_;refine⟨_,rfl,F7 rfl ?_,hw.drop.drop.drop⟩
  unfold BU;rw[if_neg h1,if_pos h']
 have h2:¬(x.g.Off=0∧x.g.Op=2):=by simpa using h
 clear h;refine A7 ?_;refine A0 rfl (fun h=>?_) (fun h=>?_)
 ·have h':l.Kind≠1∨r.Kind≠1:=by simpa using h
  refine A7 ?_;refine⟨_,rfl,F7 rfl ?_,hw.drop.drop.drop⟩
  unfold BU;rw[if_neg h1,if_neg h2,if_pos h']
 have h3:¬(l.Kind≠1∨r.Kind≠1):=by simpa using h
 clear h;have hf:BU x.g l r=VI x.g.Op (Ns l.Num r.Num x.g.Off):=by
  unfold BU;rw[if_neg h1,if_neg h2,if_neg h3]
 obtain⟨c,hc⟩:∃c,c=Ns l.Num r.Num x.g.Off:=⟨_,rfl⟩
 rw[hf];rw[←hc]at this ⊢
 clear hf hc h1 h2 h3;refine A7 ?_;unfold VI;refine A0 rfl (fun h=>?_) (fun h=>?_)
 ·have h:=of_decide_eq_true h
  refine A7 ?_;exact⟨_,rfl,F7 rfl (by rw[if_pos h]),hw.drop.drop.drop⟩
 have h1:=of_decide_eq_false h
 clear h;rw[if_neg h1];refine A7 ?_;refine A0 rfl (fun h=>?_) (fun h=>?_)
 ·have h:=of_decide_eq_true h
  refine A7 ?_;exact⟨_,rfl,F7 rfl (by rw[if_pos h]),hw.drop.drop.drop⟩
 have h1:=of_decide_eq_false h
 clear h;rw[if_neg h1];refine A7 ?_;refine A0 rfl (fun h=>?_) (fun h=>?_)
 ·have h:=of_decide_eq_true h
  refine A7 ?_;exact⟨_,rfl,F7 rfl (by rw[if_pos h]),hw.drop.drop.drop⟩
 have h1:=of_decide_eq_false h
 clear h;rw[if_neg h1];refine A7 ?_;refine A0 rfl (fun h=>?_) (fun h=>?_)
 ·have h:=of_decide_eq_true h
  refine A7 ?_;exact⟨_,rfl,F7 rfl (by rw[if_pos h]),hw.drop.drop.drop⟩
 have h1:=of_decide_eq_false h
 clear h;rw[if_neg h1];refine A7 ?_;refine A0 rfl (fun h=>?_) (fun h=>?_)
 ·have h:=of_decide_eq_true h
  refine A7 ?_;exact⟨_,rfl,F7 rfl (by rw[if_pos h]),hw.drop.drop.drop⟩
 have h1:=of_decide_eq_false h
 clear h;rw[if_neg h1];refine A7 ?_;exact⟨_,rfl,rfl,hw.drop.drop.drop⟩⟩
theorem GN{e:Env}{s:ByteArray}(h:s∉e.map (·.1)):Ec e s=none:=by
 unfold Ec;rw[List.findIdx?_eq_none_iff];intro p hp;simp only[decide_eq_false_iff_not]
 intro he;exact h (by rw[←he];exact List.mem_map_of_mem (f:=(·.1)) hp)
theorem Rw{e r:Env}{s:ByteArray}{v:Val}(h:s∉e.map (·.1)):Ec (e++(s,v)::r) s=some e.length:=by
 have:=GN h
 unfold Ec at *
 rw[List.findIdx?_append,this];simp[List.findIdx?_cons]
theorem OQ{e r:Env}{s:ByteArray}{v:Val}(h:s∉e.map (·.1)):Bs (e++(s,v)::r) s=e++r:=by
 unfold Bs;rw[Rw h];simp only
 rw[List.eraseIdx_append_of_length_le (Nat.le_refl _),Nat.sub_self];rfl
theorem OT{e:Env}{s:ByteArray}{v:Val}(h:s∉e.map (·.1)):Gj e s v=e++[(s,v)]:=by
 unfold Gj;rw[GN h]
theorem Kr{e:Env}{s:ByteArray}(h:s∉e.map (·.1)):I3 e s=none:=by
 unfold I3;rw[GN h];rfl
theorem Na{e:Env}{s:ByteArray}{v:Val}(h:I3 e s=some v):(s,v)∈e:=by
 unfold I3 at h;cases hq:Ec e s with
 | none=>rw[hq]at h;cases h
 | some i=>
  rw[hq]at h;simp only[Option.bind_some]at h
  obtain⟨u,hu⟩:=DZ hq
  rw[hu]at h;simp only[Option.map_some,Option.some.injEq]at h
  rw[←h];exact List.mem_of_getElem? hu
theorem Jm{e:Env}{s:ByteArray}(h:I3 e s=none):s∉e.map (·.1):=fun hm=>by
 obtain⟨p,hp,he⟩:=List.mem_map.1 hm
 unfold I3 at h;cases hq:Ec e s with
 | none=>
  unfold Ec at hq;rw[List.findIdx?_eq_none_iff]at hq;have:=hq p hp
  simp[he]at this
 | some i=>
  obtain⟨u,hu⟩:=DZ hq
  rw[hq]at h;simp[hu]at h
theorem UW{e:Env}:∀ {ps:Env},(∀p∈ps,p.1∉e.map (·.1))→(ps.map (·.1)).foldl Bs (e++ps)=e
 | [],_=>by simp
 | (s,v)::ps,h=>by
  rw[List.map_cons,List.foldl_cons,OQ (h (s,v) (by simp))]
  exact UW fun p hp=>h p (by simp[hp])
theorem Ro{Γ:C4}{S:List B5}{w:World}{b b8 b4 bm:Nat}{vs vg vt vr fv:Value}{e:Env}{ns:List ByteArray}(hw:Wd Γ (.blk b8 (.cells #[fv] 22)::.own fv 9 1 (A1 ns)::.blk b4 (.cells #[.pointer (some ⟨b,0,none⟩)] 156)::.blk b (G0 vs vg vt vr bm)::E1 bm e::S) w) :
  CallsD Tryz.prog 228 #[.pointer (some ⟨b8,0,none⟩),.pointer (some ⟨b4,0,none⟩)] .returning w fun r u' w'=>u'=.returning∧(∃v,r=.returned v)∧Wd Γ (.blk b8 (.cells #[fv] 22)::.own fv 9 1 (A1 ns)::.blk b4 (.cells #[.pointer (some ⟨b,0,none⟩)] 156)::.blk b (G0 vs vg vt vr bm)::E1 bm (ns.foldl Bs e)::S) w':=by
 obtain⟨fa,fn,fc,rfl,hfn,hfc,hfb⟩:=hw.own_shape (i:=1) rfl
 simp only[List.length_map]at hfn
 refine(IV (R:=fun r w'=>(∃v,r=.returned v)∧Wd Γ (.blk b8 (.cells #[.slice fa fn fc] 22)::.own (.slice fa fn fc) 9 1 (A1 ns)::.blk b4 (.cells #[.pointer (some ⟨b,0,none⟩)] 156)::.blk b (G0 vs vg vt vr bm)::E1 bm (ns.foldl Bs e)::S) w') Tryz.func228 rfl rfl ?_).mono fun r u w h=>h
 refine A7 ?_;refine C1 (fun μ ρ w=>∃(k:Nat),μ+k=fn∧Has ρ [(1,.pointer (some ⟨b4,0,none⟩)),(4,.slice fa fn fc),(5,.int .i64 fn),(6,.int .i64 k)]∧Wd Γ (.blk b8 (.cells #[.slice fa fn fc] 22)::.own (.slice fa fn fc) 9 1 (A1 ns)::.blk b4 (.cells #[.pointer (some ⟨b,0,none⟩)] 156)::.blk b (G0 vs vg vt vr bm)::E1 bm ((ns.take k).foldl Bs e)::S) w) fn ⟨0,by omega,⟨rfl,rfl,rfl,rfl,trivial⟩,hw⟩ ?_
 clear hw;rintro μ ρ w ⟨k,hk,hρ,hw⟩
 rw[hρ.eq];clear hρ;refine A7 ?_;refine A0 rfl (fun h=>?_) (fun h=>?_)
 ·have hkn:k<fn:=by have:=of_decide_eq_true h;omega
  clear h;obtain⟨s,hs⟩:=B8 (l:=ns) (k:=k) (by omega)
  refine A7 ?_;refine K0 rfl rfl (KF (i:=4) (l:=(ns.take k).foldl Bs e) hw rfl rfl rfl fun w hw=>?_)
  have hw:Wd Γ (.blk b8 (.cells #[.slice fa fn fc] 22)::.own (.slice fa fn fc) 9 1 (A1 ns)::.blk b4 (.cells #[.pointer (some ⟨b,0,none⟩)] 156)::.blk b (G0 vs vg vt vr bm)::E1 bm ((ns.take (k+1)).foldl Bs e)::S) w:=by
   rw[List.take_add_one,hs,List.foldl_append];exact hw
  refine A7 ?_;exact⟨μ-1,by omega,k+1,by omega,⟨rfl,rfl,rfl,rfl,trivial⟩,hw⟩
 have hkn:fn≤k:=by have:=of_decide_eq_false h;omega
 rw[List.take_of_length_le (by omega)]at hw
 refine A7 ?_;exact⟨_,rfl,⟨_,rfl⟩,hw⟩
end Go.Proofs.YtlmiakjbogojgaaGreatDoor
end
section
open Go Mk
namespace Go.Proofs.YtlmiakjbogojgaaGreatDoor
set_option maxHeartbeats 16000000
attribute [local irreducible] Calls cI cB
def G6(vr:Value)(L:List (Value×List (List Value))):List B5:=.own vr 70 1 (L.map fun x=>[x.1])::OM 65 3 L
def SV(b bm:Nat)(vs vg vt:Value)(rs:List (List Val)):B5:=B5.ex (α:={p:Value×List (Value×List (List Value)) // p.2.map (·.2)=rs.map fun r=>r.map enc}) fun p=>.blk b (G0 vs vg vt p.1.1 bm)::G6 p.1.1 p.1.2
section
variable {Γ:C4}{S:List B5}{w:World}{b bm:Nat}{vs vg vt:Value}{rs:List (List Val)}
theorem Ad(hw:Wd Γ (SV b bm vs vg vt rs::S) w):∃vr L,L.map (·.2)=(rs.map fun r=>r.map enc)∧Wd Γ (.blk b (G0 vs vg vt vr bm)::(G6 vr L++S)) w:=by
 obtain⟨⟨⟨vr,L⟩,h⟩,hw⟩:=Wd.openEx hw
 exact⟨vr,L,h,hw⟩
theorem V0{vr:Value}{L:List (Value×List (List Value))}(h:L.map (·.2)=rs.map fun r=>r.map enc)(hw:Wd Γ (.blk b (G0 vs vg vt vr bm)::(G6 vr L++S)) w):Wd Γ (SV b bm vs vg vt rs::S) w:=
 Wd.closeEx (α:={p:Value×List (Value×List (List Value)) // p.2.map (·.2)=rs.map fun r=>r.map enc}) (X:=fun p=>.blk b (G0 vs vg vt p.1.1 bm)::G6 p.1.1 p.1.2) ⟨(vr,L),h⟩ hw
end
structure j8(e:Env):Prop where
 key:∀p∈e,p.1≠C5
 val:∀p∈e,m0 p.2
theorem j8.nil:j8 []:=⟨fun p h=>(by cases h),fun p h=>(by cases h)⟩
theorem j8.snoc{e:Env}{s:ByteArray}{v:Val}(h:j8 e)(hs:s≠C5)(hv:m0 v):j8 (e++[(s,v)]):=
 ⟨fun p hp=>by
  rcases List.mem_append.1 hp with h1|h1
  ·exact h.key p h1
  ·rw[List.mem_singleton.1 h1];exact hs,fun p hp=>by
  rcases List.mem_append.1 hp with h1|h1
  ·exact h.val p h1
  ·rw[List.mem_singleton.1 h1];exact hv⟩
theorem j8.noKey{e:Env}(h:j8 e):I3 e C5=none:=Kr fun hm=>by
 obtain⟨p,hp,he⟩:=List.mem_map.1 hm
 exact h.key p hp he
theorem Lq:m0 H8:=⟨by decide,by decide⟩
theorem j8.get{e:Env}(h:j8 e)(s:ByteArray):m0 (As e s):=by
 unfold As;cases hq:I3 e s with
 | none=>exact Lq
 | some v=>exact h.val _ (Na hq)
section
variable {e:Env}{o:G8}{os:List G8}{x:Val}{xs:List Val}
theorem KX(h:o.Var=C5∨o.Var=J9):Z4 e (o::os) (x::xs)=Z4 e os xs:=by
 rw[Z4,if_pos h]
theorem Pf(h0:¬(o.Var=C5∨o.Var=J9))(h:((I3 e o.Var).isSome&&decide ((I3 e o.Var).getD default≠x))=true):Z4 e (o::os) (x::xs)=none:=by
 rw[Z4,if_neg h0];cases hq:I3 e o.Var with
 | none=>rw[hq]at h;simp at h
 | some u=>
  rw[hq]at h;have:u≠x:=by simpa using h
  simp[this]
theorem Km(h0:¬(o.Var=C5∨o.Var=J9))(h:((I3 e o.Var).isSome&&decide ((I3 e o.Var).getD default≠x))=false)(h2:(I3 e o.Var).isSome=true):Z4 e (o::os) (x::xs)=Z4 e os xs:=by
 rw[Z4,if_neg h0];cases hq:I3 e o.Var with
 | none=>rw[hq]at h2;simp at h2
 | some u=>
  rw[hq]at h;have:u=x:=by simpa using h
  simp[this]
theorem NP(h0:¬(o.Var=C5∨o.Var=J9))(h2:(I3 e o.Var).isSome=false):Z4 e (o::os) (x::xs)=Z4 (e++[(o.Var,x)]) os xs:=by
 rw[Z4,if_neg h0];cases hq:I3 e o.Var with
 | none=>rfl
 | some u=>rw[hq]at h2;simp at h2
end
theorem Wd.tl5{Γ:C4}{w:World}{r1 r2 r3 r4 r5:B5}{X S:List B5}(h:Wd Γ (r1::r2::r3::r4::r5::(X++S)) w):Wd Γ S w:=Wd.right (S':=[r1,r2,r3,r4,r5]++X) (by simpa using h)
theorem Wd.tl6{Γ:C4}{w:World}{r1 r2 r3 r4 r5 r6:B5}{X S:List B5}(h:Wd Γ (r1::r2::r3::r4::r5::r6::(X++S)) w):Wd Γ S w:=Wd.right (S':=[r1,r2,r3,r4,r5,r6]++X) (by simpa using h)
theorem Wd.tl7{Γ:C4}{w:World}{r1 r2 r3 r4 r5 r6 r7:B5}{X S:List B5}(h:Wd Γ (r1::r2::r3::r4::r5::r6::r7::(X++S)) w):Wd Γ S w:=Wd.right (S':=[r1,r2,r3,r4,r5,r6,r7]++X) (by simpa using h)
theorem JD{Γ:C4}{S CAP:List B5}{w:World}{b bm:Nat}{vs vg vt:Value}{rs:List (List Val)}{e:Env}{q:Nat}[C3 Tryz.prog q]{cap:List Value}(φ:Env→List (List Val))
  (hq:∀(e':Env) (rs':List (List Val)) (S':List B5) (w:World),j8 e'→rs'.length+(φ e').length≤1000000→Wd Γ (SV b bm vs vg vt rs'::E1 bm e'::(CAP++S')) w→Calls Tryz.prog q cap.toArray w fun r w'=>r=.returned (.tuple #[])∧Wd Γ (SV b bm vs vg vt (rs'++φ e')::E1 bm e'::(CAP++S')) w')
  {va vv:Value} {os:List G8} {xs:List Val} (hA:R8 Γ (CAP++S) va 4 (os.map enc)) (hV:R8 Γ (CAP++S) vv 3 (xs.map enc)) (hlen:os.length=xs.length) (hN:os.length≤1000) (hx:∀v∈xs,m0 v) (he:j8 e) (hrs:rs.length+(M1 φ e os xs).length≤1000000)
  (hw:Wd Γ (SV b bm vs vg vt rs::E1 bm e::(CAP++S)) w) :
  Calls Tryz.prog 148 #[.pointer (some ⟨b,0,none⟩),va,vv,.func (.func q) #[] cap.toArray] w fun r w'=>r=.returned (.tuple #[])∧Wd Γ (SV b bm vs vg vt (rs++M1 φ e os xs)::E1 bm e::(CAP++S)) w':=by
 obtain⟨a,n,c,rfl,hln,hnc,hc⟩:=hA.shape;obtain⟨a2,n2,c2,rfl,hln2,hnc2,hc2⟩:=hV.shape;simp only[List.length_map]at hln hln2
 refine BW Tryz.func148 rfl rfl ?_
 repeat(first|refine AD ?_|refine A5 ?_|(refine A6 ?_;intro w hw))
 refine J5 ?_;intro b4 w hw;repeat(first|refine AD ?_|refine A5 ?_|(refine A6 ?_;intro w hw))
 refine B7 ?_;intro b8 w hw;refine A5 ?_
 refine AD ?_
 refine CV ?_
 refine ID (Yields.step (x7 (f1:=[]) (c1:=[.pointer (some ⟨b8,0,none⟩),.pointer (some ⟨b4,0,none⟩)]) EvL.nil (EvL.cons rfl (EvL.cons rfl EvL.nil))) ?_)
 refine EK ?_
 refine KH ?_
 have fin:∀(ps:Env) (fv vr:Value) (L:List (Value×List (List Value))) (rs':List (List Val)) (w:World) (a:Act),(∀p∈ps,p.1∉e.map (·.1))→L.map (·.2)=(rs'.map fun r=>r.map enc)→rs'=rs++M1 φ e os xs→Wd Γ (.blk b8 (.cells #[fv] 22)::E1 bm (e++ps)::.blk b4 (.cells #[.pointer (some ⟨b,0,none⟩)] 156)::.blk b (G0 vs vg vt vr bm)::.own fv 9 1 (A1 (ps.map (·.1)))::(G6 vr L++(CAP++S))) w →
   Leaves Tryz.prog Tryz.f148 a.tmps (fun r w'=>r=.returned (.tuple #[])∧Wd Γ (SV b bm vs vg vt (rs++M1 φ e os xs)::E1 bm e::(CAP++S)) w') [⟨.fn (.func 228) #[.pointer (some ⟨b8,0,none⟩),.pointer (some ⟨b4,0,none⟩)],#[]⟩] .returning w:=by
  intro ps fv vr L rs' w a hps hL hrs' hw;have hw:Wd Γ (.blk b8 (.cells #[fv] 22)::.own fv 9 1 (A1 (ps.map (·.1)))::.blk b4 (.cells #[.pointer (some ⟨b,0,none⟩)] 156)::.blk b (G0 vs vg vt vr bm)::E1 bm (e++ps)::(G6 vr L++(CAP++S))) w:=hw.perm L2
  refine LO ((Ro hw).mono fun r u' w' ⟨h1,h2,hw'⟩=>⟨h1,h2,.tuple #[],N4 rfl,rfl,?_⟩)
  rw[UW hps]at hw';rw[←hrs'];have hw1:Wd Γ (.blk b (G0 vs vg vt vr bm)::E1 bm e::(G6 vr L++(CAP++S))) w':=hw'.ds [0,0,0]
  have hw2:Wd Γ (.blk b (G0 vs vg vt vr bm)::(G6 vr L++(E1 bm e::(CAP++S)))) w':=hw1.perm L2
  exact V0 hL hw2
 obtain⟨vr,L,hL,hw⟩:=Ad (hw.ps [2])
 have hw:=Wd.addNil (a:=none) (E:=9) (sz:=1) hw
 have hw:Wd Γ (.own (.slice none 0 0) 9 1 (A1 [])::.blk b (G0 vs vg vt vr bm)::(G6 vr L++(.blk b8 (.cells #[.slice none 0 0] 22)::.blk b4 (.cells #[.pointer (some ⟨b,0,none⟩)] 156)::E1 bm e::(CAP++S)))) w:=hw
 have hw:Wd Γ (.blk b8 (.cells #[.slice none 0 0] 22)::E1 bm (e++[])::.blk b4 (.cells #[.pointer (some ⟨b,0,none⟩)] 156)::.blk b (G0 vs vg vt vr bm)::.own (.slice none 0 0) 9 1 (A1 (([]:Env).map (·.1)))::(G6 vr L++(CAP++S))) w:=by
  rw[List.append_nil];exact hw.perm L2
 repeat(first|refine AD ?_|refine A5 ?_|(refine A6 ?_;intro w hw))
 refine Rz (fun μ ρ w=>∃(k:Nat) (ps:Env) (fv:Value),μ+k=n∧Has ρ [(2,.slice a2 n2 c2),(3,.func (.func q) #[] cap.toArray),(4,.pointer (some ⟨b4,0,none⟩)),(8,.pointer (some ⟨b8,0,none⟩)),(14,.slice a n c),(15,.int .i64 n),(16,.int .i64 k)]∧(∀p∈ps,p.1∉e.map (·.1))∧ps.length≤k∧j8 (e++ps)∧Z4 e os xs=Z4 (e++ps) (os.drop k) (xs.drop k)∧Wd Γ (.blk b8 (.cells #[fv] 22)::E1 bm (e++ps)::.blk b4 (.cells #[.pointer (some ⟨b,0,none⟩)] 156)::.blk b (G0 vs vg vt vr bm)::.own fv 9 1 (A1 (ps.map (·.1)))::(G6 vr L++(CAP++S))) w) n ⟨0,[],.slice none 0 0,by omega,⟨rfl,rfl,rfl,rfl,rfl,rfl,rfl,trivial⟩,(fun p h=>(by cases h)),Nat.le_refl _,by rw[List.append_nil];exact he,by rw[List.append_nil];rfl,hw⟩ ?_
 clear hw;rintro μ ρ w ⟨k,ps,fv,hk,hρ,hps,hpl,hek,hbd,hw⟩
 rw[hρ.eq];clear hρ;repeat(first|refine AD ?_|refine A5 ?_|(refine A6 ?_;intro w hw))
 refine BX rfl (fun h=>?_) (fun h=>?_)
 ·have hkn:k<n:=by have:=of_decide_eq_true h;omega
  clear h;obtain⟨o,ho⟩:=B8 (l:=os) (k:=k) (by omega)
  obtain⟨x,hxk⟩:=B8 (l:=xs) (k:=k) (by omega)
  have hxo:=hx x (List.mem_of_getElem? hxk)
  rw[M8 ho,M8 hxk]at hbd;repeat(first|refine AD ?_|refine A5 ?_|(refine A6 ?_;intro w hw))
  refine lY ?_ (hy:=Y5 (hA.rd (Wd.tl5 hw)) rfl rfl (by omega) (by omega))
  refine lY ?_ (hy:=L4 rfl (hA.rd (Wd.tl5 hw)) (B2 ho))
  repeat(first|refine AD ?_|refine A5 ?_|(refine A6 ?_;intro w hw))
  refine B7 ?_;intro b10 w hw;repeat(first|refine AD ?_|refine A5 ?_|(refine A6 ?_;intro w hw))
  refine A9 ?_;intro w hw;have hw:Wd Γ (.blk b10 (.cells (enc o).toArray 75)::.blk b8 (.cells #[fv] 22)::E1 bm (e++ps)::.blk b4 (.cells #[.pointer (some ⟨b,0,none⟩)] 156)::.blk b (G0 vs vg vt vr bm)::.own fv 9 1 (A1 (ps.map (·.1)))::(G6 vr L++(CAP++S))) w:=hw
  repeat(first|refine AD ?_|refine A5 ?_|(refine A6 ?_;intro w hw))
  refine BX rfl (fun h=>?_) (fun h=>?_)
  ·have h0:o.Var=C5∨o.Var=J9:=by simp only[Bool.or_eq_true,decide_eq_true_eq]at h;exact h
   rw[KX h0]at hbd;repeat(first|refine AD ?_|refine A5 ?_|(refine A6 ?_;intro w hw))
   exact⟨rfl,μ-1,by omega,k+1,ps,fv,by omega,⟨rfl,rfl,rfl,rfl,rfl,rfl,rfl,trivial⟩,hps,by omega,hek,hbd,hw.drop⟩
  have h0:¬(o.Var=C5∨o.Var=J9):=by rw[Bool.or_eq_false_iff,decide_eq_false_iff_not,decide_eq_false_iff_not]at h;exact fun e=>e.elim h.1 h.2
  clear h;repeat(first|refine AD ?_|refine A5 ?_|(refine A6 ?_;intro w hw))
  refine Qp 1 [[],[],[],[],[],[],[],[],[],[],[0],[0],[]] [[],[],[],[],[],[],[],[],[],[],[0],[0],[]] [[11]] ?_ (hw:=hw)
  refine W9 ?_;refine Ce ?_
  refine o5 ?_
  refine W9 ?_;refine O0 ?_
  clear hw;intro b11 w hw;have hw:Wd Γ (.blk b11 (.cells (enc ((I3 (e++ps) o.Var).getD default)).toArray 65)::.blk b10 (.cells (enc o).toArray 75)::.blk b8 (.cells #[fv] 22)::E1 bm (e++ps)::.blk b4 (.cells #[.pointer (some ⟨b,0,none⟩)] 156)::.blk b (G0 vs vg vt vr bm)::.own fv 9 1 (A1 (ps.map (·.1)))::(G6 vr L++(CAP++S))) w:=hw
  repeat(first|refine AD ?_|refine A5 ?_|(refine A6 ?_;intro w hw))
  refine Pp (by kernel_rfl) (by kernel_rfl) hw ?_
  refine Bt ?_;refine qG ?_ (hy:=by intro hc w hw;exact Y5 (hV.rd (Wd.tl7 hw)) B1 B1 K6 K6)
  refine qG ?_ (hy:=by intro hc w hw;exact L4 B1 (hV.rd (Wd.tl7 hw)) (B2 hxk))
  refine qG ?_ (hy:=by intro hc w hw;exact Z9 (a:=(I3 (e++ps) o.Var).getD default) (b:=x) B1 B1 rfl)
  refine Bt ?_;clear hw;intro w hw;refine BX rfl (fun h=>?_) (fun h=>?_)
  ·rw[Pf h0 h]at hbd;repeat(first|refine AD ?_|refine A5 ?_|(refine A6 ?_;intro w hw))
   refine fun a ha hs=>fin ps fv vr L rs w a hps hL ?_ hw.drop.drop
   unfold M1;rw[hbd,List.append_nil]
  have h1:=h
  clear h;repeat(first|refine AD ?_|refine A5 ?_|(refine A6 ?_;intro w hw))
  refine BX rfl (fun h=>?_) (fun h=>?_)
  ·have hs:(I3 (e++ps) o.Var).isSome=false:=by simpa using h
   have hn:I3 (e++ps) o.Var=none:=by simpa using hs
   have hnk:=Jm hn
   rw[NP h0 hs]at hbd;clear h;repeat(first|refine AD ?_|refine A5 ?_|(refine A6 ?_;intro w hw))
   refine Rc (.blk b10 (.cells (enc o).toArray 75)::.blk b4 (.cells #[.pointer (some ⟨b,0,none⟩)] 156)::.blk b (G0 vs vg vt vr bm)::.blk b8 (.cells #[fv] 22)::.own fv 9 1 (A1 (ps.map (·.1)))::.blk b11 (.cells (enc ((I3 (e++ps) o.Var).getD default)).toArray 65)::(G6 vr L++(CAP++S))) [E1 bm (e++ps)] [] [[],[],[],[],[],[],[],[],[],[],[0]] (hw.perm L2) ?_
   refine W9 ?_;refine mY ?_ (hy:=fun Y w g hw=>Y5 (hV.rd (Wd.tl6 hw.left)) rfl rfl (by omega) (by omega))
   refine mY ?_ (hy:=fun Y w g hw=>L4 rfl (hV.rd (Wd.tl6 hw.left)) (B2 hxk))
   refine V9 (φ:=fun (_:Unit) _=>True) (R:=fun _=>[E1 bm (e++ps)]) (v:=undef) (T':=Unit) (fun _ _=>True) (fun _=>[E1 bm (e++(ps++[(o.Var,x)]))]) (fun t g w Y _ hw=>?_) ?_
   ·refine d9 (v:=x) (i:=0) (l:=e++ps) hw rfl rfl rfl rfl fun w' hw'=>⟨(),trivial,(fun _=>rfl),?_⟩
    rw[OT hnk,List.append_assoc]at hw';exact hw'
   refine Al fun t w g _ hw=>?_
   have hw:Wd Γ ([E1 bm (e++(ps++[(o.Var,x)]))]++(.blk b10 (.cells (enc o).toArray 75)::.blk b4 (.cells #[.pointer (some ⟨b,0,none⟩)] 156)::.blk b (G0 vs vg vt vr bm)::.blk b8 (.cells #[fv] 22)::.own fv 9 1 (A1 (ps.map (·.1)))::.blk b11 (.cells (enc ((I3 (e++ps) o.Var).getD default)).toArray 65)::(G6 vr L++(CAP++S)))) w:=hw
   have hw:Wd Γ (.own fv 9 1 (A1 (ps.map (·.1)))::.blk b8 (.cells #[fv] 22)::.blk b11 (.cells (enc ((I3 (e++ps) o.Var).getD default)).toArray 65)::.blk b10 (.cells (enc o).toArray 75)::E1 bm (e++(ps++[(o.Var,x)]))::.blk b4 (.cells #[.pointer (some ⟨b,0,none⟩)] 156)::.blk b (G0 vs vg vt vr bm)::(G6 vr L++(CAP++S))) w:=hw.perm L2
   obtain⟨fa,fn,fc,rfl,hfn,hfc,hfb⟩:=hw.own_shape (i:=0) rfl
   simp only[List.length_map]at hfn
   repeat(first|refine AD ?_|refine A5 ?_|(refine A6 ?_;intro w hw))
   refine E4 [[.string o.Var]] ?_
   intro q2 w hw;refine Bv (i:=1) (rows2:=[[.string o.Var]]) ?_ (Wd.own_rd (i:=0) hw rfl)
   intro fv' w hw;have hw:Wd Γ (.own (.slice (some q2) 1 1) 9 1 [[.string o.Var]]::.own fv' 9 1 (A1 (ps.map (·.1))++[[.string o.Var]])::.blk b8 (.cells #[.slice fa fn fc] 22)::.blk b11 (.cells (enc ((I3 (e++ps) o.Var).getD default)).toArray 65)::.blk b10 (.cells (enc o).toArray 75)::E1 bm (e++(ps++[(o.Var,x)]))::.blk b4 (.cells #[.pointer (some ⟨b,0,none⟩)] 156)::.blk b (G0 vs vg vt vr bm)::(G6 vr L++(CAP++S))) w:=hw
   obtain⟨fa',fn',fc',rfl,-,-,-⟩:=hw.own_shape (i:=1) rfl
   repeat(first|refine AD ?_|refine A5 ?_|(refine A6 ?_;intro w hw))
   refine A9 (i:=2) ?_
   intro w hw;have hw:Wd Γ (.own (.slice (some q2) 1 1) 9 1 [[.string o.Var]]::.own (.slice fa' fn' fc') 9 1 (A1 (ps.map (·.1))++[[.string o.Var]])::.blk b8 (.cells #[(.slice fa' fn' fc')] 22)::.blk b11 (.cells (enc ((I3 (e++ps) o.Var).getD default)).toArray 65)::.blk b10 (.cells (enc o).toArray 75)::E1 bm (e++(ps++[(o.Var,x)]))::.blk b4 (.cells #[.pointer (some ⟨b,0,none⟩)] 156)::.blk b (G0 vs vg vt vr bm)::(G6 vr L++(CAP++S))) w:=hw
   have hw1:Wd Γ (.own (.slice fa' fn' fc') 9 1 (A1 (ps.map (·.1))++[[.string o.Var]])::.blk b8 (.cells #[(.slice fa' fn' fc')] 22)::E1 bm (e++(ps++[(o.Var,x)]))::.blk b4 (.cells #[.pointer (some ⟨b,0,none⟩)] 156)::.blk b (G0 vs vg vt vr bm)::(G6 vr L++(CAP++S))) w:=hw.ds [0,2,2]
   have hrow:A1 (ps.map (·.1))++[[.string o.Var]]=A1 ((ps++[(o.Var,x)]).map (·.1)):=by
    unfold A1;rw[List.map_append,List.map_append];rfl
   rw[hrow]at hw1;repeat(first|refine AD ?_|refine A5 ?_|(refine A6 ?_;intro w hw))
   refine⟨rfl,μ-1,by omega,k+1,ps++[(o.Var,x)],(.slice fa' fn' fc'),by omega,⟨rfl,rfl,rfl,rfl,rfl,rfl,rfl,trivial⟩,?_,by rw[List.length_append];simp;omega,?_,?_,hw1.perm L2⟩
   ·intro p hp;rcases List.mem_append.1 hp with h1|h1
    ·exact hps p h1
    ·rw[List.mem_singleton.1 h1];exact fun hm=>hnk (by rw[List.map_append];exact List.mem_append_left _ hm)
   ·rw[←List.append_assoc];exact hek.snoc (fun e=>h0 (Or.inl e)) hxo
   ·rw[←List.append_assoc];exact hbd
  have hs:(I3 (e++ps) o.Var).isSome=true:=by simpa using h
  rw[Km h0 h1 hs]at hbd;repeat(first|refine AD ?_|refine A5 ?_|(refine A6 ?_;intro w hw))
  exact⟨rfl,μ-1,by omega,k+1,ps,fv,by omega,⟨rfl,rfl,rfl,rfl,rfl,rfl,rfl,trivial⟩,hps,by omega,hek,hbd,hw.drop.drop⟩
 have hkn:n≤k:=by have:=of_decide_eq_false h;omega
 rw[E0 os (by omega),E0 xs (by omega)]at hbd
 have hbd:Z4 e os xs=some (e++ps):=hbd.trans rfl
 have hwS:M1 φ e os xs=φ (e++ps):=by
  unfold M1;rw[hbd]
 repeat(first|refine AD ?_|refine A5 ?_|(refine A6 ?_;intro w hw))
 have hw1:Wd Γ (.blk b (G0 vs vg vt vr bm)::(G6 vr L++(E1 bm (e++ps)::(CAP++(.blk b8 (.cells #[fv] 22)::.own fv 9 1 (A1 (ps.map (·.1)))::.blk b4 (.cells #[.pointer (some ⟨b,0,none⟩)] 156)::S))))) w:=hw.perm L2
 have hw2:Wd Γ (SV b bm vs vg vt rs::E1 bm (e++ps)::(CAP++(.blk b8 (.cells #[fv] 22)::.own fv 9 1 (A1 (ps.map (·.1)))::.blk b4 (.cells #[.pointer (some ⟨b,0,none⟩)] 156)::S))) w:=V0 hL hw1
 refine Dp (fst:=[]) (cap:=cap) ?_
 refine((hq (e++ps) rs (.blk b8 (.cells #[fv] 22)::.own fv 9 1 (A1 (ps.map (·.1)))::.blk b4 (.cells #[.pointer (some ⟨b,0,none⟩)] 156)::S) w hek (by rw[←hwS];exact hrs) hw2).mono fun r w hr=>?_)
 obtain⟨rfl,hw3⟩:=hr;refine⟨_,rfl,?_⟩;clear hw hw1 hw2;obtain⟨vr',L',hL',hw⟩:=Ad hw3
 clear hw3 hL;repeat(first|refine AD ?_|refine A5 ?_|(refine A6 ?_;intro w hw))
 refine fun a ha hs=>fin ps fv vr' L' (rs++φ (e++ps)) w a hps hL' (by rw[hwS]) ?_
 exact hw.perm L2
end Go.Proofs.YtlmiakjbogojgaaGreatDoor
end
section
open Go Mk
namespace Go.Proofs.YtlmiakjbogojgaaGreatDoor
set_option maxHeartbeats 16000000
attribute [local irreducible] Calls cI cB
theorem JO{Γ:C4}{S:List B5}{w:World}{q:Nat}[C3 Tryz.prog q]{cap:List Value}{v:Value}(p:D4→Bool)(fs:List D4)(hcl:∀x∈fs,∀w,Wd Γ S w→Calls Tryz.prog q (.agg (cF x).toArray::cap).toArray w fun e w'=>e=.returned (.bool (p x))∧Wd Γ S w')(hr:D6 Γ v 2 (fs.map cF))(hw:Wd Γ S w) :
  Calls Tryz.prog 282 #[v,.func (.func q) #[] cap.toArray] w fun e w'=>∃i:Int,e=.returned (.int .i64 i)∧decide (0≤i)=fs.any p∧Wd Γ S w':=by
 obtain⟨a,n,c,rfl,hn,hnc,hc⟩:=hr.shape;simp only[List.length_map]at hn
 refine A4 Tryz.func282 rfl rfl ?_
 refine A7 ?_;refine C1 (fun μ ρ w=>∃(k:Nat),μ+k=n∧Has ρ [(0,.slice a n c),(1,.func (.func q) #[] cap.toArray),(7,.int .i64 n),(8,.int .i64 k)]∧(∀j x,j<k→fs[j]? = some x→p x=false)∧Wd Γ S w) n ⟨0,by omega,⟨rfl,rfl,rfl,rfl,trivial⟩,fun j x hj=>by omega,hw⟩ ?_
 clear hw;rintro μ ρ w ⟨k,hk,hρ,hno,hw⟩
 rw[hρ.eq];refine A7 ?_;refine A0 rfl (fun h=>?_) (fun h=>?_)
 ·have hkn:k<n:=by have:=of_decide_eq_true h;omega
  obtain⟨x,hx⟩:=B8 (l:=fs) (k:=k) (by omega)
  refine A7 ?_;refine Dp (fst:=[]) (cap:=cap) (vs:=[.agg (cF x).toArray]) ?_
  refine(hcl x (List.mem_of_getElem? hx) w hw).mono ?_
  clear hw;rintro e w ⟨rfl,hw⟩
  refine⟨_,rfl,?_⟩;refine A7 ?_;refine A0 rfl (fun h2=>?_) (fun h2=>?_)
  ·refine A7 ?_;refine⟨_,rfl,_,rfl,?_,hw⟩
   rw[decide_eq_true (by omega:(0:Int)≤(k:Int)),List.any_eq_true.2 ⟨x,List.mem_of_getElem? hx,h2⟩]
  ·refine A7 ?_;refine⟨μ-1,by omega,k+1,by omega,⟨rfl,rfl,rfl,rfl,trivial⟩,fun j y hj hy=>?_,hw⟩
   by_cases e:j=k
   ·subst e;rw[hx]at hy;cases hy;exact h2
   ·exact hno j y (by omega) hy
 ·have hkn:¬k<n:=by have:=of_decide_eq_false h;omega
  refine A7 ?_;refine⟨_,rfl,-1,rfl,?_,hw⟩
  rw[decide_eq_false (by omega),eq_comm,List.any_eq_false]
  intro x hx;obtain⟨j,hj⟩:=List.mem_iff_getElem?.1 hx
  have hlt:=(List.getElem?_eq_some_iff.1 hj).1
  rw[hno j x (by omega) hj];simp
theorem Fc{Γ:C4}{S:List B5}{w:World}{q:Nat}[C3 Tryz.prog q]{cap:List Value}{v:Value}(p:D4→Bool)(fs:List D4)(hcl:∀x∈fs,∀w,Wd Γ S w→Calls Tryz.prog q (.agg (cF x).toArray::cap).toArray w fun e w'=>e=.returned (.bool (p x))∧Wd Γ S w')(hr:D6 Γ v 2 (fs.map cF))(hw:Wd Γ S w) :
  Calls Tryz.prog 226 #[v,.func (.func q) #[] cap.toArray] w fun e w'=>e=.returned (.bool (fs.any p))∧Wd Γ S w':=by
 obtain⟨a,n,c,rfl,-,-,-⟩:=hr.shape;refine A4 Tryz.func226 rfl rfl ?_
 refine A7 ?_;refine B9 (vs:=[.slice a n c,.func (.func q) #[] cap.toArray]) ((JO p fs hcl hr hw).mono fun e w hq=>?_)
 obtain⟨i,rfl,hi,hw⟩:=hq;refine⟨_,rfl,?_⟩;refine A7 ?_;exact⟨_,rfl,F7 rfl hi,hw⟩
structure RN(Γ:C4)(vs vg vt:Value)(gs:List E6)(ts:List (Value×List D4))(db:List K3)(q:D8):Prop where
 qr:QR Γ vs vg gs q
 qok:L0 q
 tab:D6 Γ vt 1 (ts.map fun t=>[t.1])
 len:ts.length=gs.length
 rl:∀t∈ts,RL Γ t.1 t.2
 eq:∀(k:Nat) x t,gs[k]? = some x→ts[k]? = some t→facts t.2=W7 db x.g
 ar:∀x∈gs,E3 x.g=true→∀f∈W7 db x.g,x.g.Args.length=f.2.length
theorem Ey{db:List K3}{g:F6}:∀f∈W7 db g,g.Args.length=f.2.length:=by
 intro f hf;unfold W7 at hf;split at hf
 ·unfold Ni NW at hf;have:=(List.mem_filter.1 hf).2
  simp only[Bool.and_eq_true,decide_eq_true_eq]at this
  omega
 ·cases hf
theorem OJ{α:Type}{A:List α}{z x:α}{k m:Nat}(h:A.length=k)(hm:0<m):(A++List.replicate m z).set k x=(A++[x])++List.replicate (m-1) z:=by
 obtain⟨m,rfl⟩:∃n,m=n+1:=⟨m-1,by omega⟩
 rw[List.set_append_right _ _ (by omega),h,Nat.sub_self,List.replicate_succ,List.set_cons_zero,List.append_assoc];rfl
section
variable {Γ:C4}{vs vg vt:Value}{gs:List E6}{ts:List (Value×List D4)}{db:List K3}{q:D8}
theorem RN.glen(h:RN Γ vs vg vt gs ts db q):gs.length≤1000:=by
 have:=h.qok.len
 rw[←h.qr.eq,List.length_map]at this;exact this
theorem RN.goal(h:RN Γ vs vg vt gs ts db q){x:E6}(hx:x∈gs):t7 x.g:=
 h.qok.goals _ (by rw[←h.qr.eq];exact List.mem_map_of_mem (f:=(·.g)) hx)
theorem H7{α:Type}{p:α→Bool}{l:List α}{k:Nat}{x:α}(h:l[k]? = some x):(l.drop k).all p=(p x&&(l.drop (k+1)).all p):=by
 rw[M8 h,List.all_cons]
theorem Fh(h:RN Γ vs vg vt gs ts db q){k:Nat}{x:E6}(hx:gs[k]? = some x):(L6 db q)[k]? = some (x.g,W7 db x.g):=by
 unfold L6;rw[←h.qr.eq,List.getElem?_map,List.getElem?_map,hx];rfl
theorem Fi(h:RN Γ vs vg vt gs ts db q):(L6 db q).length=gs.length:=by
 unfold L6;rw[←h.qr.eq,List.length_map,List.length_map]
theorem Mx{e:Env}{os:List G8}{fs:List D4}{tb:List K3}(h:facts fs=tb):(fs.any fun f=>P3 e os f.Args)=tb.any fun f=>P3 e os f.2:=by
 rw[←h];unfold facts;rw[List.any_map];rfl
end
theorem SG{Γ:C4}{S:List B5}{w:World}{b b1 b3 bm:Nat}{vs vg vt vr:Value}{e:Env}{g:F6}{A:Option Addr}{N C:Nat}(hg:Eu Γ ⟨g,A,N,C⟩)(hgo:t7 g){f:D4}(hf:Cf Γ f)(hfo:y0 f.fact)(hlen:g.Args.length=f.Args.length)(hn:I3 e C5=none)(hw:Wd Γ (.blk b3 (.cells (cG ⟨g,A,N,C⟩).toArray 77)::.blk b1 (.cells #[.pointer (some ⟨b,0,none⟩)] 156)::.blk b (G0 vs vg vt vr bm)::E1 bm e::S) w) :
  Calls Tryz.prog 227 #[.agg (cF f).toArray,.pointer (some ⟨b1,0,none⟩),.pointer (some ⟨b3,0,none⟩)] w fun r w'=>r=.returned (.bool (P3 e g.Args f.Args))∧Wd Γ (.blk b3 (.cells (cG ⟨g,A,N,C⟩).toArray 77)::.blk b1 (.cells #[.pointer (some ⟨b,0,none⟩)] 156)::.blk b (G0 vs vg vt vr bm)::E1 bm e::S) w':=by
 have hF:=fun (S':List B5) (w:World) (hw:Wd Γ (.blk b (G0 vs vg vt vr bm)::E1 bm e::S') w)=>Jw (va:=.slice A N C) (os:=g.Args) (f:=f) hg hgo.args hf hfo hlen hn hgo.len hw
 obtain⟨fr,fa,fn,fc,xs⟩:=f;refine A4 Tryz.func227 rfl rfl ?_
 refine A7 ?_;refine J5 ?_;intro b4 w hw;have hw:Wd Γ (.blk b4 (.cells #[.string fr,.slice fa fn fc] 80)::.blk b3 (.cells (cG ⟨g,A,N,C⟩).toArray 77)::.blk b1 (.cells #[.pointer (some ⟨b,0,none⟩)] 156)::.blk b (G0 vs vg vt vr bm)::E1 bm e::S) w:=hw
 refine A7 ?_;have hw1:Wd Γ (.blk b (G0 vs vg vt vr bm)::E1 bm e::(.blk b4 (.cells #[.string fr,.slice fa fn fc] 80)::.blk b3 (.cells (cG ⟨g,A,N,C⟩).toArray 77)::.blk b1 (.cells #[.pointer (some ⟨b,0,none⟩)] 156)::S)) w:=hw.perm L2
 refine B9 (vs:=[.pointer (some ⟨b,0,none⟩),.slice A N C,.agg (cF ⟨fr,fa,fn,fc,xs⟩).toArray]) ((hF _ w hw1).mono fun r w hq=>?_)
 clear hw hw1;obtain⟨rfl,hw⟩:=hq;have hw:Wd Γ (.blk b4 (.cells #[.string fr,.slice fa fn fc] 80)::.blk b3 (.cells (cG ⟨g,A,N,C⟩).toArray 77)::.blk b1 (.cells #[.pointer (some ⟨b,0,none⟩)] 156)::.blk b (G0 vs vg vt vr bm)::E1 bm e::S) w:=hw.perm L2
 refine⟨_,rfl,?_⟩;refine A7 ?_;exact⟨_,rfl,rfl,hw.drop⟩
theorem KR{Γ:C4}{S:List B5}{w:World}{b bm:Nat}{vs vg vt:Value}{gs:List E6}{ts:List (Value×List D4)}{db:List K3}{q:D8}{rs:List (List Val)}{e:Env}(hS:RN Γ vs vg vt gs ts db q)(he:j8 e)(hrs:rs.length+(Ci (L6 db q) q.Sel e).length≤1000000)
  (hw:Wd Γ (SV b bm vs vg vt rs::E1 bm e::S) w) :
  Calls Tryz.prog 146 #[.pointer (some ⟨b,0,none⟩)] w fun r w'=>r=.returned (.tuple #[])∧Wd Γ (SV b bm vs vg vt (rs++Ci (L6 db q) q.Sel e)::E1 bm e::S) w':=by
 obtain⟨ga,gn,gc,rfl,hgn,hgnc,hgc⟩:=hS.qr.goals.shape;obtain⟨sa,sn,sc,rfl,hsn,hsnc,hsc⟩:=hS.qr.sel.shape;obtain⟨ta,tn,tc,rfl,htn,htnc,htc⟩:=hS.tab.shape;simp only[List.length_map]at hgn hsn htn
 have hrG:=hS.qr.goals
 have hrS:=hS.qr.sel
 have hrT:=hS.tab
 have hgl:=hS.glen
 have htl:=hS.len
 have hsl:=hS.qok.sel
 obtain⟨vr,L,hL,hw⟩:=Ad hw
 refine A4 Tryz.func146 rfl rfl ?_
 refine A7 ?_;refine J5 ?_;intro b1 w hw;have hw:Wd Γ (.blk b1 (.cells #[.pointer (some ⟨b,0,none⟩)] 156)::.blk b (G0 (.slice sa sn sc) (.slice ga gn gc) (.slice ta tn tc) vr bm)::(G6 vr L++(E1 bm e::S))) w:=hw
 have hw:Wd Γ (.blk b1 (.cells #[.pointer (some ⟨b,0,none⟩)] 156)::.blk b (G0 (.slice sa sn sc) (.slice ga gn gc) (.slice ta tn tc) vr bm)::E1 bm e::(G6 vr L++S)) w:=hw.perm L2
 refine A7 ?_;refine C1 (fun μ ρ w=>∃(k:Nat),μ+k=gn∧Has ρ [(1,.pointer (some ⟨b1,0,none⟩)),(11,.slice ga gn gc),(12,.int .i64 gn),(13,.int .i64 k)]∧(L6 db q).all (r8 e)=((L6 db q).drop k).all (r8 e)∧Wd Γ (.blk b1 (.cells #[.pointer (some ⟨b,0,none⟩)] 156)::.blk b (G0 (.slice sa sn sc) (.slice ga gn gc) (.slice ta tn tc) vr bm)::E1 bm e::(G6 vr L++S)) w) gn ⟨0,by omega,⟨rfl,rfl,rfl,rfl,trivial⟩,rfl,hw⟩ ?_
 clear hw;rintro μ ρ w ⟨k,hk,hρ,hall,hw⟩
 rw[hρ.eq];clear hρ;have stop:∀w,(L6 db q).all (r8 e)=false→Wd Γ (.blk b1 (.cells #[.pointer (some ⟨b,0,none⟩)] 156)::.blk b (G0 (.slice sa sn sc) (.slice ga gn gc) (.slice ta tn tc) vr bm)::E1 bm e::(G6 vr L++S)) w→Wd Γ (SV b bm (.slice sa sn sc) (.slice ga gn gc) (.slice ta tn tc) (rs++Ci (L6 db q) q.Sel e)::E1 bm e::S) w:=by
  intro w h0 hw;unfold Ci;rw[h0];simp only[Bool.false_eq_true,if_false,List.append_nil]
  refine V0 (vr:=vr) hL ?_
  have hw:Wd Γ (.blk b (G0 (.slice sa sn sc) (.slice ga gn gc) (.slice ta tn tc) vr bm)::E1 bm e::(G6 vr L++S)) w:=hw.drop
  exact hw.perm L2
 refine A7 ?_;refine A0 rfl (fun h=>?_) (fun h=>?_)
 ·have hkn:k<gn:=by have:=of_decide_eq_true h;omega
  clear h;obtain⟨x,hx⟩:=B8 (l:=gs) (k:=k) (by omega)
  obtain⟨t,ht⟩:=B8 (l:=ts) (k:=k) (by omega)
  have hxm:=List.mem_of_getElem? hx
  have htm:=List.mem_of_getElem? ht
  have hgok:=hS.qr.ok x hxm
  have hgoal:=hS.goal hxm
  have hRL:=hS.rl t htm
  have heq:=hS.eq k x t hx ht
  have har:=Ey (db:=db) (g:=x.g)
  rw[H7 (Fh hS hx)]at hall;obtain⟨g,A,N,C⟩:=x;simp only at hgoal heq har
  refine A7 ?_;refine B7 ?_;intro b3 w hw;refine A7 ?_;refine A9 ?_;intro w hw;have hw:Wd Γ (.blk b3 (.cells (cG ⟨g,A,N,C⟩).toArray 77)::.blk b1 (.cells #[.pointer (some ⟨b,0,none⟩)] 156)::.blk b (G0 (.slice sa sn sc) (.slice ga gn gc) (.slice ta tn tc) vr bm)::E1 bm e::(G6 vr L++S)) w:=hw
  refine A7 ?_;refine A0 rfl (fun h=>?_) (fun h=>?_)
  ·have hk3:g.Kind=3:=of_decide_eq_true h
   have hdone:r8 e (g,W7 db g)=BU g (Eb e g.L) (Eb e g.R):=by
    unfold r8;rw[if_pos hk3]
   have hvl:m0 (Eb e g.L):=by
    unfold Eb;split
    ·exact he.get _
    ·exact hgoal.l.2
   have hvr:m0 (Eb e g.R):=by
    unfold Eb;split
    ·exact he.get _
    ·exact hgoal.r.2
   have p1:∀o:G8,PS Tryz.prog Γ (.blk b3 (.cells (cG ⟨g,A,N,C⟩).toArray 77)::.blk b1 (.cells #[.pointer (some ⟨b,0,none⟩)] 156)::.blk b (G0 (.slice sa sn sc) (.slice ga gn gc) (.slice ta tn tc) vr bm)::E1 bm e::(G6 vr L++S)) 225 [.pointer (some ⟨b,0,none⟩),.agg (enc o).toArray] (.agg (enc (Eb e o)).toArray):=fun o=>⟨fun Y w hw=>by
    have hw1:Wd Γ (.blk b (G0 (.slice sa sn sc) (.slice ga gn gc) (.slice ta tn tc) vr bm)::E1 bm e::(.blk b3 (.cells (cG ⟨g,A,N,C⟩).toArray 77)::.blk b1 (.cells #[.pointer (some ⟨b,0,none⟩)] 156)::(G6 vr L++(S++Y)))) w:=hw.perm L2
    exact(NU (o:=o) hw1).mono fun r w' ⟨h1,h2⟩=>⟨h1,h2.perm L2⟩⟩
   have p1l:=p1 g.L
   have p1r:=p1 g.R
   have p2:=PV (Γ:=Γ) (x:=⟨g,A,N,C⟩) hgoal.off hvl hvr
   refine A7 ?_;refine H0 (by kernel_rfl) (by kernel_rfl) hw ?_
   repeat(first|(first|refine P2 ?_|(apply D1;first|(apply F4;first|refine qP ?_|refine CO ?_)|refine qY ?_)|(apply B4;first|(apply F4;first|refine Dj ?_|refine Z0 ?_)|refine qG ?_))|(apply D1;apply F4;refine Fp ?_)|(apply B4;apply F4;refine y7 ?_))
   refine Fp (hp:=p1l) ?_
   repeat(first|(first|refine P2 ?_|(apply D1;first|(apply F4;first|refine qP ?_|refine CO ?_)|refine qY ?_)|(apply B4;first|(apply F4;first|refine Dj ?_|refine Z0 ?_)|refine qG ?_))|(apply D1;apply F4;refine Fp ?_)|(apply B4;apply F4;refine y7 ?_))
   refine Fp (hp:=p1r) ?_
   repeat(first|(first|refine P2 ?_|(apply D1;first|(apply F4;first|refine qP ?_|refine CO ?_)|refine qY ?_)|(apply B4;first|(apply F4;first|refine Dj ?_|refine Z0 ?_)|refine qG ?_))|(apply D1;apply F4;refine Fp ?_)|(apply B4;apply F4;refine y7 ?_))
   clear hw;intro w hw;have hw:Wd Γ (.blk b3 (.cells (cG ⟨g,A,N,C⟩).toArray 77)::.blk b1 (.cells #[.pointer (some ⟨b,0,none⟩)] 156)::.blk b (G0 (.slice sa sn sc) (.slice ga gn gc) (.slice ta tn tc) vr bm)::E1 bm e::(G6 vr L++S)) w:=hw
   refine A0 rfl (fun h=>?_) (fun h=>?_)
   ·refine A7 ?_;refine⟨_,rfl,rfl,stop w ?_ hw.drop⟩
    have h0:r8 e (g,W7 db g)=false:=by rw[hdone];simpa using h
    rw[hall,h0,Bool.false_and]
   ·have h0:r8 e (g,W7 db g)=true:=by rw[hdone];simpa using h
    rw[h0,Bool.true_and]at hall;refine A7 ?_;exact⟨μ-1,by omega,k+1,by omega,⟨rfl,rfl,rfl,rfl,trivial⟩,hall,hw.drop⟩
  have hk3:¬g.Kind=3:=of_decide_eq_false h
  clear h;refine A7 ?_;refine A0 rfl (fun h=>?_) (fun h=>?_)
  ·have hk2:g.Kind=2:=of_decide_eq_true h
   have hdone:r8 e (g,W7 db g) = !((W7 db g).any fun f=>P3 e g.Args f.2):=by
    unfold r8;rw[if_neg hk3,if_pos hk2]
   obtain⟨tv,fs⟩:=t;obtain⟨fa,fc,htv,hfc1,hfc2⟩:=hRL.len;simp only at heq htv hfc1 hfc2
   subst htv;have hcl:∀f∈fs,∀w,Wd Γ (.blk b3 (.cells (cG ⟨g,A,N,C⟩).toArray 77)::.blk b1 (.cells #[.pointer (some ⟨b,0,none⟩)] 156)::.blk b (G0 (.slice sa sn sc) (.slice ga gn gc) (.slice ta tn tc) vr bm)::E1 bm e::(G6 vr L++S)) w→Calls Tryz.prog 227 (.agg (cF f).toArray::[.pointer (some ⟨b1,0,none⟩),.pointer (some ⟨b3,0,none⟩)]).toArray w fun r w'=>r=.returned (.bool (P3 e g.Args f.Args))∧Wd Γ (.blk b3 (.cells (cG ⟨g,A,N,C⟩).toArray 77)::.blk b1 (.cells #[.pointer (some ⟨b,0,none⟩)] 156)::.blk b (G0 (.slice sa sn sc) (.slice ga gn gc) (.slice ta tn tc) vr bm)::E1 bm e::(G6 vr L++S)) w':=fun f hf w hw=>by
    obtain⟨h1,h2⟩:=hRL.ok f hf
    refine SG hgok hgoal h1 h2 ?_ he.noKey hw
    have hm:f.fact∈W7 db g:=by rw[←heq];exact List.mem_map_of_mem (f:=D4.fact) hf
    exact Ey _ hm
   refine A7 ?_;refine B9 (vs:=[.slice fa fs.length fc,.func (.func 227) #[] #[.pointer (some ⟨b1,0,none⟩),.pointer (some ⟨b3,0,none⟩)]]) ((Fc (fun f=>P3 e g.Args f.Args) fs hcl hRL.rep hw).mono fun r w hq=>?_)
   clear hw;obtain⟨rfl,hw⟩:=hq;refine⟨_,rfl,?_⟩;rw[Mx heq];refine A7 ?_;refine A0 rfl (fun h=>?_) (fun h=>?_)
   ·refine A7 ?_;refine⟨_,rfl,rfl,stop w ?_ hw.drop⟩
    have h0:r8 e (g,W7 db g)=false:=by rw[hdone,h];rfl
    rw[hall,h0,Bool.false_and]
   ·have h0:r8 e (g,W7 db g)=true:=by rw[hdone,h];rfl
    rw[h0,Bool.true_and]at hall;refine A7 ?_;exact⟨μ-1,by omega,k+1,by omega,⟨rfl,rfl,rfl,rfl,trivial⟩,hall,hw.drop⟩
  have hk2:¬g.Kind=2:=of_decide_eq_false h
  have h0:r8 e (g,W7 db g)=true:=by
   unfold r8;rw[if_neg hk3,if_neg hk2]
  rw[h0,Bool.true_and]at hall;refine A7 ?_;exact⟨μ-1,by omega,k+1,by omega,⟨rfl,rfl,rfl,rfl,trivial⟩,hall,hw.drop⟩
 have hkn:gn≤k:=by have:=of_decide_eq_false h;omega
 rw[E0 _ (by rw[Fi hS];omega)]at hall
 have hall:(L6 db q).all (r8 e)=true:=hall
 have hfin:Ci (L6 db q) q.Sel e=[Dt q.Sel e]:=by
  unfold Ci;rw[if_pos hall]
 rw[hfin]at hrs ⊢
 clear stop h;simp only[List.length_singleton]at hrs
 refine A7 ?_;refine CS (len:=sn) ?_
 intro q4 w hw;have hw:Wd Γ (.own (.slice (some q4) sn sn) 65 3 ((q.Sel.take 0).map (fun s=>enc (As e s))++List.replicate (sn-0) (enc H8))::.blk b1 (.cells #[.pointer (some ⟨b,0,none⟩)] 156)::.blk b (G0 (.slice sa sn sc) (.slice ga gn gc) (.slice ta tn tc) vr bm)::E1 bm e::(G6 vr L++S)) w:=hw
 refine A7 ?_;refine C1 (fun μ ρ w=>∃(k:Nat),μ+k=sn∧Has ρ [(1,.pointer (some ⟨b1,0,none⟩)),(4,.slice (some q4) sn sn),(56,.slice sa sn sc),(57,.int .i64 sn),(58,.int .i64 k)]∧Wd Γ (.own (.slice (some q4) sn sn) 65 3 ((q.Sel.take k).map (fun s=>enc (As e s))++List.replicate (sn-k) (enc H8))::.blk b1 (.cells #[.pointer (some ⟨b,0,none⟩)] 156)::.blk b (G0 (.slice sa sn sc) (.slice ga gn gc) (.slice ta tn tc) vr bm)::E1 bm e::(G6 vr L++S)) w) sn ⟨0,by omega,⟨rfl,rfl,rfl,rfl,rfl,trivial⟩,hw⟩ ?_
 clear hw;rintro μ ρ w ⟨k,hk,hρ,hw⟩
 rw[hρ.eq];clear hρ;refine A7 ?_;refine A0 rfl (fun h=>?_) (fun h=>?_)
 ·have hkn:k<sn:=by have:=of_decide_eq_true h;omega
  clear h;obtain⟨s,hs⟩:=B8 (l:=q.Sel) (k:=k) (by omega)
  refine A7 ?_;refine Cw (k:=k) (r:=enc (As e s)) ?_
  intro w hw;have hset:((q.Sel.take k).map (fun s=>enc (As e s))++List.replicate (sn-k) (enc H8)).set k (enc (As e s))=(q.Sel.take (k+1)).map (fun s=>enc (As e s))++List.replicate (sn-(k+1)) (enc H8):=by
   rw[OJ (by rw[List.length_map,List.length_take];omega) (by omega),List.take_add_one,hs,List.map_append];rfl
  rw[hset]at hw;have hw:Wd Γ (.own (.slice (some q4) sn sn) 65 3 ((q.Sel.take (k+1)).map (fun s=>enc (As e s))++List.replicate (sn-(k+1)) (enc H8))::.blk b1 (.cells #[.pointer (some ⟨b,0,none⟩)] 156)::.blk b (G0 (.slice sa sn sc) (.slice ga gn gc) (.slice ta tn tc) vr bm)::E1 bm e::(G6 vr L++S)) w:=hw
  refine A7 ?_;exact⟨μ-1,by omega,k+1,by omega,⟨rfl,rfl,rfl,rfl,rfl,trivial⟩,hw⟩
 have hkn:sn≤k:=by have:=of_decide_eq_false h;omega
 have hkk:sn=k:=by omega
 subst hkk;have hrow:(q.Sel.take sn).map (fun s=>enc (As e s))++List.replicate (sn-sn) (enc H8)=(Dt q.Sel e).map enc:=by
  rw[List.take_of_length_le (by omega),Nat.sub_self,List.replicate_zero,List.append_nil]
  unfold Dt;rw[List.map_map];rfl
 rw[hrow]at hw;have hw:Wd Γ (.own vr 70 1 (L.map fun x=>[x.1])::.blk b1 (.cells #[.pointer (some ⟨b,0,none⟩)] 156)::.blk b (G0 (.slice sa sn sc) (.slice ga gn gc) (.slice ta tn tc) vr bm)::E1 bm e::.own (.slice (some q4) sn sn) 65 3 ((Dt q.Sel e).map enc)::(OM 65 3 L++S)) w:=by
  have h1:Wd Γ (.own (.slice (some q4) sn sn) 65 3 ((Dt q.Sel e).map enc)::.blk b1 (.cells #[.pointer (some ⟨b,0,none⟩)] 156)::.blk b (G0 (.slice sa sn sc) (.slice ga gn gc) (.slice ta tn tc) vr bm)::E1 bm e::(.own vr 70 1 (L.map fun x=>[x.1])::OM 65 3 L++S)) w:=hw
  exact h1.perm L2
 obtain⟨va,vn,vc,rfl,hvn,hvnc,hvc⟩:=hw.own_shape (i:=0) rfl
 have hLl:L.length=rs.length:=by
  have:=congrArg List.length hL
  simpa using this
 simp only[List.length_map]at hvn
 refine A7 ?_;refine Tj [.blk b1 (.cells #[.pointer (some ⟨b,0,none⟩)] 156)] (.own (.slice va vn vc) 70 1 (L.map fun x=>[x.1])::.blk b (G0 (.slice sa sn sc) (.slice ga gn gc) (.slice ta tn tc) (.slice va vn vc) bm)::E1 bm e::.own (.slice (some q4) sn sn) 65 3 ((Dt q.Sel e).map enc)::(OM 65 3 L++S)) [[],[],[],[],[],[],[1],[0],[],[],[0]] [[],[],[],[],[0],[],[1],[0,1],[],[],[0]] [[80],[79]] (hw.perm L2) ?_
 repeat(first|refine mY ?_|refine mP ?_|refine O0 ?_|refine W0 ?_|refine X6 ?_)
 refine OK (cells:=[.slice (some q4) sn sn]) [[.slice (some q4) sn sn]] ?_
 refine VA ?_
 repeat(first|refine mY ?_|refine mP ?_|refine O0 ?_|refine W0 ?_|refine X6 ?_)
 refine RE (b:=b) (j:=1) (j2:=0) ?_
 refine X6 fun w g hw=>?_
 have hw:=Wd.dropEnd hw
 have hw:Wd Γ (.blk b1 (.cells #[.pointer (some ⟨b,0,none⟩)] 156)::.own (g 80) 70 1 (L.map (fun x=>[x.1])++[[.slice (some q4) sn sn]])::.blk b (G0 (.slice sa sn sc) (.slice ga gn gc) (.slice ta tn tc) (g 80) bm)::E1 bm e::.own (.slice (some q4) sn sn) 65 3 ((Dt q.Sel e).map enc)::(OM 65 3 L++S)) w:=hw
 refine⟨_,rfl,rfl,V0 (vr:=g 80) (L:=L++[(.slice (some q4) sn sn,(Dt q.Sel e).map enc)]) ?_ ?_⟩
 ·rw[List.map_append,hL,List.map_append];rfl
 have hl:(L++[(Value.slice (some q4) sn sn,(Dt q.Sel e).map enc)]).map (fun x=>[x.1])=L.map (fun x=>[x.1])++[[.slice (some q4) sn sn]]:=by rw[List.map_append];rfl
 have hi:OM 65 3 (L++[(Value.slice (some q4) sn sn,(Dt q.Sel e).map enc)])=OM 65 3 L++[.own (.slice (some q4) sn sn) 65 3 ((Dt q.Sel e).map enc)]:=by unfold OM;rw[List.map_append];rfl
 unfold G6;rw[hl,hi];have h1:Wd Γ (.own (g 80) 70 1 (L.map (fun x=>[x.1])++[[.slice (some q4) sn sn]])::.blk b (G0 (.slice sa sn sc) (.slice ga gn gc) (.slice ta tn tc) (g 80) bm)::E1 bm e::.own (.slice (some q4) sn sn) 65 3 ((Dt q.Sel e).map enc)::(OM 65 3 L++S)) w:=hw.drop
 exact h1.perm L2
end Go.Proofs.YtlmiakjbogojgaaGreatDoor
end
section
open Go Mk
namespace Go.Proofs.YtlmiakjbogojgaaGreatDoor
set_option maxHeartbeats 16000000
attribute [local irreducible] Calls cI cB
theorem SJ{Γ:C4}{S:List B5}{w:World}{b bm:Nat}{vs vg vt:Value}{rs:List (List Val)}{e:Env}{va:Value}{os:List G8}{f:D4}(hargs:D6 Γ va 4 (os.map enc))(hos:∀o∈os,k0 o)(hf:Cf Γ f)(hfo:y0 f.fact)(hlen:os.length=f.Args.length)(hn:I3 e C5=none)(hN:os.length≤1000)(hw:Wd Γ (SV b bm vs vg vt rs::E1 bm e::S) w) :
  Calls Tryz.prog 147 #[.pointer (some ⟨b,0,none⟩),va,.agg (cF f).toArray] w fun r w'=>r=.returned (.bool (P3 e os f.Args))∧Wd Γ (SV b bm vs vg vt rs::E1 bm e::S) w':=by
 obtain⟨vr,L,hL,hw⟩:=Ad hw
 have hw1:Wd Γ (.blk b (G0 vs vg vt vr bm)::E1 bm e::(G6 vr L++S)) w:=hw.perm L2
 refine(Jw hargs hos hf hfo hlen hn hN hw1).mono fun r w' ⟨h1,h2⟩=>⟨h1,V0 (vr:=vr) hL ?_⟩
 exact h2.perm L2
section
variable {α β:Type}{F:α→List β}{l:List α}{j:Nat}{x:α}
theorem Aa(h:l[j]? = some x):(l.take (j+1)).flatMap F=(l.take j).flatMap F++F x:=by
 rw[List.take_add_one,h,List.flatMap_append];simp
theorem TC(h:l[j]? = some x):((l.take j).flatMap F).length+(F x).length≤(l.flatMap F).length:=by
 have e:l.flatMap F=((l.take j).flatMap F++F x)++(l.drop (j+1)).flatMap F:=by
  rw[←Aa h,←List.flatMap_append,List.take_append_drop]
 rw[e,List.length_append,List.length_append];omega
end
theorem Ev{H L:Int}(h1:u5 H)(h2:u5 L)(h:L≤H):IntKind.u64.wrap (IntKind.u64.wrap H-IntKind.u64.wrap L)=H-L:=by
 unfold u5 at *
 simp only[IntKind.wrap,IntKind.bits,IntKind.signed]
 simp
 omega
theorem AE{a:Int}(h1:0≤a)(h2:a≤18446744073709551615):IntKind.u64.wrap a=a:=by
 simp only[IntKind.wrap,IntKind.bits,IntKind.signed]
 simp
 omega
def Tr(Γ:C4)(b bm:Nat)(vs vg vt:Value)(φ:Env→List (List Val))(k:Nat):Prop:=
 ∀(S:List B5) (e:Env) (rs:List (List Val)) (w:World),j8 e→rs.length+(φ e).length≤1000000→Wd Γ (SV b bm vs vg vt rs::E1 bm e::S) w →
  Calls Tryz.prog 79 #[.pointer (some ⟨b,0,none⟩),.int .i64 k] w fun r w'=>r=.returned (.tuple #[])∧Wd Γ (SV b bm vs vg vt (rs++φ e)::E1 bm e::S) w'
section
variable {Γ:C4}{b bm b2 b3 k:Nat}{vs vg vt:Value}{φ:Env→List (List Val)}
theorem Kc(hk:k≤1000)(ih:Tr Γ b bm vs vg vt φ (k+1))(e:Env)(rs:List (List Val))(S:List B5)(w:World)(he:j8 e)(hrs:rs.length+(φ e).length≤1000000)(hw:Wd Γ (SV b bm vs vg vt rs::E1 bm e::([.blk b2 (.cells #[.pointer (some ⟨b,0,none⟩)] 156),.blk b3 (.cells #[.int .i64 k] 3)]++S)) w) :
  Calls Tryz.prog 149 [.pointer (some ⟨b2,0,none⟩),.pointer (some ⟨b3,0,none⟩)].toArray w fun r w'=>r=.returned (.tuple #[])∧Wd Γ (SV b bm vs vg vt (rs++φ e)::E1 bm e::([.blk b2 (.cells #[.pointer (some ⟨b,0,none⟩)] 156),.blk b3 (.cells #[.int .i64 k] 3)]++S)) w':=by
 have hw:Wd Γ (SV b bm vs vg vt rs::E1 bm e::.blk b2 (.cells #[.pointer (some ⟨b,0,none⟩)] 156)::.blk b3 (.cells #[.int .i64 k] 3)::S) w:=hw
 refine A4 Tryz.func149 rfl rfl ?_
 refine A7 ?_;refine B9 (vs:=[.pointer (some ⟨b,0,none⟩),.int .i64 ((k+1:Nat):Int)]) ((ih _ e rs w he hrs hw).mono fun r w hq=>?_)
 obtain⟨rfl,hw⟩:=hq;refine⟨_,rfl,?_⟩;refine A7 ?_;exact⟨_,rfl,rfl,hw⟩
theorem LF(hk:k≤1000)(ih:Tr Γ b bm vs vg vt φ (k+1))(e:Env)(rs:List (List Val))(S:List B5)(w:World)(he:j8 e)(hrs:rs.length+(φ e).length≤1000000)(hw:Wd Γ (SV b bm vs vg vt rs::E1 bm e::([.blk b2 (.cells #[.pointer (some ⟨b,0,none⟩)] 156),.blk b3 (.cells #[.int .i64 k] 3)]++S)) w) :
  Calls Tryz.prog 150 [.pointer (some ⟨b2,0,none⟩),.pointer (some ⟨b3,0,none⟩)].toArray w fun r w'=>r=.returned (.tuple #[])∧Wd Γ (SV b bm vs vg vt (rs++φ e)::E1 bm e::([.blk b2 (.cells #[.pointer (some ⟨b,0,none⟩)] 156),.blk b3 (.cells #[.int .i64 k] 3)]++S)) w':=by
 have hw:Wd Γ (SV b bm vs vg vt rs::E1 bm e::.blk b2 (.cells #[.pointer (some ⟨b,0,none⟩)] 156)::.blk b3 (.cells #[.int .i64 k] 3)::S) w:=hw
 refine A4 Tryz.func150 rfl rfl ?_
 refine A7 ?_;refine B9 (vs:=[.pointer (some ⟨b,0,none⟩),.int .i64 ((k+1:Nat):Int)]) ((ih _ e rs w he hrs hw).mono fun r w hq=>?_)
 obtain⟨rfl,hw⟩:=hq;refine⟨_,rfl,?_⟩;refine A7 ?_;exact⟨_,rfl,rfl,hw⟩
end
theorem Kg{Γ:C4}{b bm:Nat}{vs vg vt:Value}{gs:List E6}{ts:List (Value×List D4)}{db:List K3}{q:D8}(hS:RN Γ vs vg vt gs ts db q)(hR:∀g∈q.Goals,g.Kind=4→g.Low≤g.High∧g.High-g.Low≤1000000) :
  ∀(m k:Nat),k+m=gs.length→Tr Γ b bm vs vg vt (Ee (Ci (L6 db q) q.Sel) ((L6 db q).drop k)) k:=by
 obtain⟨ga,gn,gc,rfl,hgn,hgnc,hgc⟩:=hS.qr.goals.shape;obtain⟨sa,sn,sc,rfl,hsn,hsnc,hsc⟩:=hS.qr.sel.shape;obtain⟨ta,tn,tc,rfl,htn,htnc,htc⟩:=hS.tab.shape;simp only[List.length_map]at hgn hsn htn
 have hrG:=hS.qr.goals
 have hrS:=hS.qr.sel
 have hrT:=hS.tab
 have hgl:=hS.glen
 have htl:=hS.len
 have hsl:=hS.qok.sel
 intro m;induction m with
 | zero=>
  intro k hk S e rs w he hrs hw;have hkn:k=gn:=by omega
  rw[E0 (L6 db q) (by rw[Fi hS];omega)]at hrs ⊢
  have hrs:rs.length+(Ci (L6 db q) q.Sel e).length≤1000000:=hrs
  show Calls _ _ _ _ fun r w'=>r=.returned (.tuple #[])∧Wd Γ (SV b bm (.slice sa sn sc) (.slice ga gn gc) (.slice ta tn tc) (rs++Ci (L6 db q) q.Sel e)::E1 bm e::S) w'
  obtain⟨vr,L,hL,hw⟩:=Ad hw
  refine A4 Tryz.func79 rfl rfl ?_
  refine A7 ?_;refine J5 ?_;intro b2 w hw;refine A7 ?_;refine J5 ?_;intro b3 w hw;have hw:Wd Γ (.blk b3 (.cells #[.int .i64 k] 3)::.blk b2 (.cells #[.pointer (some ⟨b,0,none⟩)] 156)::.blk b (G0 (.slice sa sn sc) (.slice ga gn gc) (.slice ta tn tc) vr bm)::(G6 vr L++(E1 bm e::S))) w:=hw
  have hw:Wd Γ (.blk b2 (.cells #[.pointer (some ⟨b,0,none⟩)] 156)::.blk b3 (.cells #[.int .i64 k] 3)::.blk b (G0 (.slice sa sn sc) (.slice ga gn gc) (.slice ta tn tc) vr bm)::E1 bm e::(G6 vr L++S)) w:=hw.perm L2
  refine A7 ?_;refine H0 (by kernel_rfl) (by kernel_rfl) hw ?_
  refine Bt ?_;clear hw;intro w hw;have hw:Wd Γ (.blk b2 (.cells #[.pointer (some ⟨b,0,none⟩)] 156)::.blk b3 (.cells #[.int .i64 k] 3)::.blk b (G0 (.slice sa sn sc) (.slice ga gn gc) (.slice ta tn tc) vr bm)::E1 bm e::(G6 vr L++S)) w:=hw
  refine G1 (congrArg Value.bool (decide_eq_true (by omega))) ?_
  refine A7 ?_;have hw1:Wd Γ (.blk b (G0 (.slice sa sn sc) (.slice ga gn gc) (.slice ta tn tc) vr bm)::(G6 vr L++(E1 bm e::(.blk b2 (.cells #[.pointer (some ⟨b,0,none⟩)] 156)::.blk b3 (.cells #[.int .i64 k] 3)::S)))) w:=hw.perm L2
  have hw2:=V0 (vr:=vr) hL hw1
  refine B9 (vs:=[.pointer (some ⟨b,0,none⟩)]) ((KR hS he hrs hw2).mono fun r w hq=>?_)
  clear hw hw1 hw2;obtain⟨rfl,hw⟩:=hq;refine⟨_,rfl,?_⟩;refine A7 ?_;exact⟨_,rfl,rfl,hw.ds [2,2]⟩
 | succ m ih=>
  intro k hk S e rs w he hrs hw;have hkn:k<gn:=by omega
  have ihk:=ih (k+1) (by omega)
  obtain⟨x,hx⟩:=B8 (l:=gs) (k:=k) (by omega)
  obtain⟨t,ht⟩:=B8 (l:=ts) (k:=k) (by omega)
  have hxm:=List.mem_of_getElem? hx
  have htm:=List.mem_of_getElem? ht
  have hgok:=hS.qr.ok x hxm
  have hgoal:=hS.goal hxm
  have hRL:=hS.rl t htm
  have heq:=hS.eq k x t hx ht
  have har:=Ey (db:=db) (g:=x.g)
  have hRx:=hR x.g (by rw[←hS.qr.eq];exact List.mem_map_of_mem (f:=(·.g)) hxm)
  rw[M8 (Fh hS hx)]at hrs ⊢
  obtain⟨φ,hφ⟩:∃φ,φ=Ee (Ci (L6 db q) q.Sel) ((L6 db q).drop (k+1)):=⟨_,rfl⟩
  rw[←hφ]at ihk;obtain⟨g,A,N,C⟩:=x;obtain⟨tv,fs⟩:=t;obtain⟨fa,fc,htv,hfc1,hfc2⟩:=hRL.len;simp only at hgoal heq har hRx htv hfc1 hfc2 hrs ⊢
  subst htv;obtain⟨R,hRe⟩:∃R,R=Ee (Ci (L6 db q) q.Sel) ((g,W7 db g)::(L6 db q).drop (k+1)) e:=⟨_,rfl⟩
  rw[←hRe]at hrs ⊢
  unfold Ee at hRe;rw[←hφ]at hRe;obtain⟨vr,L,hL,hw⟩:=Ad hw
  refine A4 Tryz.func79 rfl rfl ?_
  refine A7 ?_;refine J5 ?_;intro b2 w hw;refine A7 ?_;refine J5 ?_;intro b3 w hw;have hw:Wd Γ (.blk b3 (.cells #[.int .i64 k] 3)::.blk b2 (.cells #[.pointer (some ⟨b,0,none⟩)] 156)::.blk b (G0 (.slice sa sn sc) (.slice ga gn gc) (.slice ta tn tc) vr bm)::(G6 vr L++(E1 bm e::S))) w:=hw
  have hw:Wd Γ (.blk b2 (.cells #[.pointer (some ⟨b,0,none⟩)] 156)::.blk b3 (.cells #[.int .i64 k] 3)::.blk b (G0 (.slice sa sn sc) (.slice ga gn gc) (.slice ta tn tc) vr bm)::E1 bm e::(G6 vr L++S)) w:=hw.perm L2
  refine A7 ?_;refine H0 (by kernel_rfl) (by kernel_rfl) hw ?_
  refine Bt ?_;clear hw;intro w hw;have hw:Wd Γ (.blk b2 (.cells #[.pointer (some ⟨b,0,none⟩)] 156)::.blk b3 (.cells #[.int .i64 k] 3)::.blk b (G0 (.slice sa sn sc) (.slice ga gn gc) (.slice ta tn tc) vr bm)::E1 bm e::(G6 vr L++S)) w:=hw
  refine L3 (congrArg Value.bool (decide_eq_false (by omega))) ?_
  refine A7 ?_;refine Dx 1 [[],[],[],[],[],[],[],[],[0],[0]] [[],[],[],[],[],[],[],[],[0],[0]] [[4]] ?_ (hw:=hw)
  refine W9 ?_;refine Ce ?_
  refine o5 ?_
  refine O0 ?_
  clear hw;intro b4 w hw;have hw:Wd Γ (.blk b4 (.cells (cG ⟨g,A,N,C⟩).toArray 77)::.blk b2 (.cells #[.pointer (some ⟨b,0,none⟩)] 156)::.blk b3 (.cells #[.int .i64 k] 3)::.blk b (G0 (.slice sa sn sc) (.slice ga gn gc) (.slice ta tn tc) vr bm)::E1 bm e::(G6 vr L++S)) w:=hw
  refine A7 ?_;refine A0 rfl (fun h=>?_) (fun h=>?_)
  ·have hk1:g.Kind=1:=of_decide_eq_true h
   clear h;rw[if_pos hk1]at hRe;have hRe2:R=fs.flatMap fun f=>(fun f:K3=>if P3 e g.Args f.2 then M1 φ e g.Args f.2 else []) f.fact:=by
    rw[hRe,←heq];unfold facts;rw[List.flatMap_map]
   have hat:E3 g=true:=by unfold E3;rw[hk1];rfl
   refine A7 ?_;refine H0 (by kernel_rfl) (by kernel_rfl) hw ?_
   refine Bt ?_;clear hw;intro w hw;have hw:Wd Γ (.blk b (G0 (.slice sa sn sc) (.slice ga gn gc) (.slice ta tn tc) vr bm)::(G6 vr L++(E1 bm e::(.blk b2 (.cells #[.pointer (some ⟨b,0,none⟩)] 156)::.blk b3 (.cells #[.int .i64 k] 3)::.blk b4 (.cells (cG ⟨g,A,N,C⟩).toArray 77)::S)))) w:=hw.perm L2
   have hw:=V0 (vr:=vr) hL hw
   clear hL;refine A7 ?_;refine C1 (fun μ ρ w=>∃(j:Nat),μ+j=fs.length∧Has ρ [(2,.pointer (some ⟨b2,0,none⟩)),(3,.pointer (some ⟨b3,0,none⟩)),(4,.pointer (some ⟨b4,0,none⟩)),(43,.slice fa fs.length fc),(44,.int .i64 fs.length),(45,.int .i64 j)]∧Wd Γ (SV b bm (.slice sa sn sc) (.slice ga gn gc) (.slice ta tn tc) (rs++(fs.take j).flatMap fun f=>(fun f:K3=>if P3 e g.Args f.2 then M1 φ e g.Args f.2 else []) f.fact)::E1 bm e::.blk b2 (.cells #[.pointer (some ⟨b,0,none⟩)] 156)::.blk b3 (.cells #[.int .i64 k] 3)::.blk b4 (.cells (cG ⟨g,A,N,C⟩).toArray 77)::S) w) fs.length ⟨0,by omega,⟨rfl,rfl,rfl,rfl,rfl,rfl,trivial⟩,by rw[List.take_zero,List.flatMap_nil,List.append_nil];exact hw⟩ ?_
   clear hw;rintro μ ρ w ⟨j,hj,hρ,hw⟩
   rw[hρ.eq];clear hρ;refine A7 ?_;refine A0 rfl (fun h=>?_) (fun h=>?_)
   ·have hjn:j<fs.length:=by have:=of_decide_eq_true h;omega
    clear h;obtain⟨f,hf⟩:=B8 (l:=fs) (k:=j) hjn
    obtain⟨h1,h2⟩:=hRL.ok f (List.mem_of_getElem? hf)
    have hm:f.fact∈W7 db g:=by rw[←heq];exact List.mem_map_of_mem (f:=D4.fact) (List.mem_of_getElem? hf)
    have hfl:=har _ hm
    have hsu:=Aa (F:=fun f:D4=>(fun f:K3=>if P3 e g.Args f.2 then M1 φ e g.Args f.2 else []) f.fact) hf
    have hle:=TC (F:=fun f:D4=>(fun f:K3=>if P3 e g.Args f.2 then M1 φ e g.Args f.2 else []) f.fact) hf
    rw[←hRe2]at hle;have hrb:=hRL.rep
    refine A7 ?_;refine B7 ?_;intro b6 w hw;refine A9 ?_;intro w hw;obtain⟨fr,fa2,fn2,fc2,xs⟩:=f;have hw:Wd Γ (.blk b6 (.cells (cF ⟨fr,fa2,fn2,fc2,xs⟩).toArray 80)::SV b bm (.slice sa sn sc) (.slice ga gn gc) (.slice ta tn tc) (rs++(fs.take j).flatMap fun f=>(fun f:K3=>if P3 e g.Args f.2 then M1 φ e g.Args f.2 else []) f.fact)::E1 bm e::.blk b2 (.cells #[.pointer (some ⟨b,0,none⟩)] 156)::.blk b3 (.cells #[.int .i64 k] 3)::.blk b4 (.cells (cG ⟨g,A,N,C⟩).toArray 77)::S) w:=hw
    have hw:Wd Γ (SV b bm (.slice sa sn sc) (.slice ga gn gc) (.slice ta tn tc) (rs++(fs.take j).flatMap fun f=>(fun f:K3=>if P3 e g.Args f.2 then M1 φ e g.Args f.2 else []) f.fact)::E1 bm e::.blk b2 (.cells #[.pointer (some ⟨b,0,none⟩)] 156)::.blk b3 (.cells #[.int .i64 k] 3)::.blk b6 (.cells (cF ⟨fr,fa2,fn2,fc2,xs⟩).toArray 80)::.blk b4 (.cells (cG ⟨g,A,N,C⟩).toArray 77)::S) w:=hw.perm L2
    refine A7 ?_;refine B9 (vs:=[.pointer (some ⟨b,0,none⟩),.slice A N C,.agg (cF ⟨fr,fa2,fn2,fc2,xs⟩).toArray]) ((SJ (f:=⟨fr,fa2,fn2,fc2,xs⟩) (va:=.slice A N C) (os:=g.Args) hgok hgoal.args h1 h2 hfl he.noKey hgoal.len hw).mono fun r w hq=>?_)
    clear hw;obtain⟨rfl,hw⟩:=hq;refine⟨_,rfl,?_⟩;have hxl:((rs++(fs.take j).flatMap fun f=>(fun f:K3=>if P3 e g.Args f.2 then M1 φ e g.Args f.2 else []) f.fact).length=rs.length+((fs.take j).flatMap fun f=>(fun f:K3=>if P3 e g.Args f.2 then M1 φ e g.Args f.2 else []) f.fact).length):=List.length_append
    refine A7 ?_;refine A0 rfl (fun h=>?_) (fun h=>?_)
    ·have hF:(fun f:K3=>if P3 e g.Args f.2 then M1 φ e g.Args f.2 else []) (D4.fact ⟨fr,fa2,fn2,fc2,xs⟩)=M1 φ e g.Args xs:=if_pos h
     rw[hF]at hsu hle
     refine A7 ?_;refine B9 (vs:=[.pointer (some ⟨b,0,none⟩),.slice A N C,.slice fa2 fn2 fc2,.func (.func 149) #[] #[.pointer (some ⟨b2,0,none⟩),.pointer (some ⟨b3,0,none⟩)]]) ((JD (CAP:=[.blk b2 (.cells #[.pointer (some ⟨b,0,none⟩)] 156),.blk b3 (.cells #[.int .i64 k] 3)]) (S:=.blk b6 (.cells (cF ⟨fr,fa2,fn2,fc2,xs⟩).toArray 80)::.blk b4 (.cells (cG ⟨g,A,N,C⟩).toArray 77)::S) (rs:=rs++(fs.take j).flatMap fun f=>(fun f:K3=>if P3 e g.Args f.2 then M1 φ e g.Args f.2 else []) f.fact) (cap:=[.pointer (some ⟨b2,0,none⟩),.pointer (some ⟨b3,0,none⟩)]) (q:=149) (os:=g.Args) (xs:=xs) φ (fun e' rs' S' w h1 h2 h3=>Kc (by omega) ihk e' rs' S' w h1 h2 h3) (D6.rdS hgok) (D6.rdS h1) hfl hgoal.len h2.2.2 he (by rw[hxl];omega) hw).mono fun r w hq=>?_)
     clear hw;obtain⟨rfl,hw⟩:=hq;refine⟨_,rfl,?_⟩;rw[List.append_assoc,←hsu]at hw;refine A7 ?_;refine⟨fs.length-j-1,by omega,j+1,by omega,⟨rfl,rfl,rfl,rfl,rfl,rfl,trivial⟩,?_⟩
     exact hw.dropAt 4
    ·have hF:(fun f:K3=>if P3 e g.Args f.2 then M1 φ e g.Args f.2 else []) (D4.fact ⟨fr,fa2,fn2,fc2,xs⟩)=[]:=if_neg (by show ¬P3 e g.Args xs=true;rw[show P3 e g.Args xs=false from h];simp)
     rw[hF,List.append_nil]at hsu;rw[←hsu]at hw;refine A7 ?_;refine⟨fs.length-j-1,by omega,j+1,by omega,⟨rfl,rfl,rfl,rfl,rfl,rfl,trivial⟩,?_⟩
     exact hw.dropAt 4
   have hjn:fs.length≤j:=by have:=of_decide_eq_false h;omega
   rw[List.take_of_length_le hjn,←hRe2]at hw;refine A7 ?_;exact⟨_,rfl,rfl,hw.ds [2,2,2]⟩
  have hk1:¬g.Kind=1:=of_decide_eq_false h
  clear h;rw[if_neg hk1]at hRe;refine A7 ?_;refine A0 rfl (fun h=>?_) (fun h=>?_)
  ·have hk4:g.Kind=4:=of_decide_eq_true h
   clear h;rw[if_pos hk4]at hRe;obtain⟨hlh,hlh2⟩:=hRx hk4
   have hi1:=hgoal.low
   have hi2:=hgoal.high
   have hsub:=Ev hi2 hi1 hlh
   have hw:Wd Γ (.blk b4 (.cells (cG ⟨g,A,N,C⟩).toArray 77)::E1 bm e::.blk b2 (.cells #[.pointer (some ⟨b,0,none⟩)] 156)::.blk b3 (.cells #[.int .i64 k] 3)::.blk b (G0 (.slice sa sn sc) (.slice ga gn gc) (.slice ta tn tc) vr bm)::(G6 vr L++S)) w:=hw.perm L2
   refine A7 ?_;refine Dx 1 [[],[],[],[],[],[],[],[],[],[],[],[0],[0],[]] [[],[],[],[],[],[],[],[],[],[],[],[0],[0],[]] [[7]] ?_ (hw:=hw)
   refine W9 ?_;refine Ce ?_
   refine o5 ?_
   refine W9 ?_;refine O0 ?_
   clear hw;intro b7 w hw;have hw:Wd Γ (.blk b7 (.cells (enc ((I3 e g.L.Var).getD default)).toArray 65)::.blk b4 (.cells (cG ⟨g,A,N,C⟩).toArray 77)::E1 bm e::.blk b2 (.cells #[.pointer (some ⟨b,0,none⟩)] 156)::.blk b3 (.cells #[.int .i64 k] 3)::.blk b (G0 (.slice sa sn sc) (.slice ga gn gc) (.slice ta tn tc) vr bm)::(G6 vr L++S)) w:=hw
   have hw:Wd Γ (.blk b (G0 (.slice sa sn sc) (.slice ga gn gc) (.slice ta tn tc) vr bm)::(G6 vr L++(E1 bm e::.blk b2 (.cells #[.pointer (some ⟨b,0,none⟩)] 156)::.blk b3 (.cells #[.int .i64 k] 3)::.blk b7 (.cells (enc ((I3 e g.L.Var).getD default)).toArray 65)::.blk b4 (.cells (cG ⟨g,A,N,C⟩).toArray 77)::S))) w:=hw.perm L2
   have hw:=V0 (vr:=vr) hL hw
   clear hL;refine A7 ?_;refine A0 rfl (fun h=>?_) (fun h=>?_)
   ·obtain⟨v,hv⟩:=Option.isSome_iff_exists.1 h
    clear h;rw[hv]at hw hRe
    simp only at hRe
    have hw:Wd Γ (SV b bm (.slice sa sn sc) (.slice ga gn gc) (.slice ta tn tc) rs::E1 bm e::.blk b2 (.cells #[.pointer (some ⟨b,0,none⟩)] 156)::.blk b3 (.cells #[.int .i64 k] 3)::.blk b7 (.cells (enc v).toArray 65)::.blk b4 (.cells (cG ⟨g,A,N,C⟩).toArray 77)::S) w:=hw
    refine A7 ?_;refine A0 rfl (fun h=>?_) (fun h=>?_)
    ·have hc:v.Kind=1∧g.Low≤v.Num∧v.Num≤g.High:=by
      simp only[Bool.and_eq_true,decide_eq_true_eq]at h
      exact⟨h.1.1,h.1.2,h.2⟩
     rw[if_pos hc]at hRe;refine A7 ?_;refine B9 (vs:=[.pointer (some ⟨b,0,none⟩),.int .i64 ((k+1:Nat):Int)]) ((ihk _ e rs w he (by rw[←hRe];exact hrs) hw).mono fun r w hq=>?_)
     clear hw;obtain⟨rfl,hw⟩:=hq;refine⟨_,rfl,?_⟩;rw[←hRe]at hw;refine A7 ?_;exact⟨_,rfl,rfl,hw.ds [2,2,2,2]⟩
    ·have hc:¬(v.Kind=1∧g.Low≤v.Num∧v.Num≤g.High):=by
      intro hc;simp only[Bool.and_eq_false_iff,decide_eq_false_iff_not]at h
      rcases h with (h|h)|h
      ·exact h hc.1
      ·exact h hc.2.1
      ·exact h hc.2.2
     rw[if_neg hc]at hRe;refine A7 ?_;refine⟨_,rfl,rfl,?_⟩
     rw[hRe,List.append_nil];exact hw.ds [2,2,2,2]
   have hv:I3 e g.L.Var=none:=by simpa using h
   clear h;rw[hv]at hRe;simp only at hRe
   obtain⟨M,hM⟩:∃M,M=(g.High-g.Low+1).toNat:=⟨_,rfl⟩
   rw[←hM]at hRe;have hw:Wd Γ (SV b bm (.slice sa sn sc) (.slice ga gn gc) (.slice ta tn tc) rs::E1 bm e::.blk b2 (.cells #[.pointer (some ⟨b,0,none⟩)] 156)::.blk b3 (.cells #[.int .i64 k] 3)::.blk b4 (.cells (cG ⟨g,A,N,C⟩).toArray 77)::S) w:=hw.dropAt 4
   refine A7 ?_;refine C1 (fun μ ρ w=>∃(j:Nat),μ+j=M∧Has ρ [(2,.pointer (some ⟨b2,0,none⟩)),(3,.pointer (some ⟨b3,0,none⟩)),(4,.pointer (some ⟨b4,0,none⟩)),(9,.int .u64 j)]∧Wd Γ (SV b bm (.slice sa sn sc) (.slice ga gn gc) (.slice ta tn tc) (rs++((List.range M).take j).flatMap (fun n:Nat=>M1 φ e [g.L] [u4 g.Low n]))::E1 bm e::.blk b2 (.cells #[.pointer (some ⟨b,0,none⟩)] 156)::.blk b3 (.cells #[.int .i64 k] 3)::.blk b4 (.cells (cG ⟨g,A,N,C⟩).toArray 77)::S) w) M ⟨0,by omega,⟨rfl,rfl,rfl,rfl,trivial⟩,by rw[List.take_zero,List.flatMap_nil,List.append_nil];exact hw⟩ ?_
   clear hw;rintro μ ρ w ⟨j,hj,hρ,hw⟩
   rw[hρ.eq];clear hρ;refine A7 ?_;refine A0 rfl (fun h=>?_) (fun h=>?_)
   ·have h:(j:Int)≤IntKind.u64.wrap (IntKind.u64.wrap g.High-IntKind.u64.wrap g.Low):=of_decide_eq_true h
    rw[hsub]at h;have hjM:j<M:=by omega
    have hgj:(List.range M)[j]? = some j:=List.getElem?_range hjM
    have hsu:=Aa (F:=(fun n:Nat=>M1 φ e [g.L] [u4 g.Low n])) hgj
    have hle:=TC (F:=(fun n:Nat=>M1 φ e [g.L] [u4 g.Low n])) hgj
    rw[←hRe]at hle;have hxl:((rs++((List.range M).take j).flatMap (fun n:Nat=>M1 φ e [g.L] [u4 g.Low n])).length=rs.length+(((List.range M).take j).flatMap (fun n:Nat=>M1 φ e [g.L] [u4 g.Low n])).length):=List.length_append
    have hwj:IntKind.i64.wrap (j:Int)=j:=wrap_i64 (by omega) (by omega)
    unfold u5 at hi1 hi2;have hvok:m0 (u4 g.Low j):=⟨⟨by show _≤g.Low+(j:Int);omega,by show g.Low+(j:Int)≤_;omega⟩,by show (⟨#[]⟩:ByteArray).size≤9223372036854775807;decide⟩
    clear h hsub;refine A7 ?_;refine B7 ?_;intro b10 w hw;refine A9 ?_;intro w hw;have hw:Wd Γ (.blk b10 (.cells #[.int .i64 1,.int .i64 (IntKind.i64.wrap (g.Low+IntKind.i64.wrap (j:Int))),.string ⟨#[]⟩] 65)::SV b bm (.slice sa sn sc) (.slice ga gn gc) (.slice ta tn tc) (rs++((List.range M).take j).flatMap (fun n:Nat=>M1 φ e [g.L] [u4 g.Low n]))::E1 bm e::.blk b2 (.cells #[.pointer (some ⟨b,0,none⟩)] 156)::.blk b3 (.cells #[.int .i64 k] 3)::.blk b4 (.cells (cG ⟨g,A,N,C⟩).toArray 77)::S) w:=hw
    rw[hwj,wrap_i64 (by omega) (by omega)]at hw
    have hw:Wd Γ (.blk b10 (.cells (enc (u4 g.Low j)).toArray 65)::SV b bm (.slice sa sn sc) (.slice ga gn gc) (.slice ta tn tc) (rs++((List.range M).take j).flatMap (fun n:Nat=>M1 φ e [g.L] [u4 g.Low n]))::E1 bm e::.blk b2 (.cells #[.pointer (some ⟨b,0,none⟩)] 156)::.blk b3 (.cells #[.int .i64 k] 3)::.blk b4 (.cells (cG ⟨g,A,N,C⟩).toArray 77)::S) w:=hw
    refine A7 ?_;refine E4 [enc g.L] ?_
    intro q1 w hw;refine A7 ?_;refine E4 [enc (u4 g.Low j)] ?_
    intro q2 w hw;have hw:Wd Γ (.own (.slice (some q2) 1 1) 65 3 [enc (u4 g.Low j)]::.own (.slice (some q1) 1 1) 75 4 [enc g.L]::.blk b10 (.cells (enc (u4 g.Low j)).toArray 65)::SV b bm (.slice sa sn sc) (.slice ga gn gc) (.slice ta tn tc) (rs++((List.range M).take j).flatMap (fun n:Nat=>M1 φ e [g.L] [u4 g.Low n]))::E1 bm e::.blk b2 (.cells #[.pointer (some ⟨b,0,none⟩)] 156)::.blk b3 (.cells #[.int .i64 k] 3)::.blk b4 (.cells (cG ⟨g,A,N,C⟩).toArray 77)::S) w:=hw
    have hw:Wd Γ (SV b bm (.slice sa sn sc) (.slice ga gn gc) (.slice ta tn tc) (rs++((List.range M).take j).flatMap (fun n:Nat=>M1 φ e [g.L] [u4 g.Low n]))::E1 bm e::.blk b2 (.cells #[.pointer (some ⟨b,0,none⟩)] 156)::.blk b3 (.cells #[.int .i64 k] 3)::.own (.slice (some q1) 1 1) 75 4 [enc g.L]::.own (.slice (some q2) 1 1) 65 3 [enc (u4 g.Low j)]::.blk b10 (.cells (enc (u4 g.Low j)).toArray 65)::.blk b4 (.cells (cG ⟨g,A,N,C⟩).toArray 77)::S) w:=hw.perm L2
    refine A7 ?_;refine B9 (vs:=[.pointer (some ⟨b,0,none⟩),.slice (some q1) 1 1,.slice (some q2) 1 1,.func (.func 150) #[] #[.pointer (some ⟨b2,0,none⟩),.pointer (some ⟨b3,0,none⟩)]]) ((JD (CAP:=[.blk b2 (.cells #[.pointer (some ⟨b,0,none⟩)] 156),.blk b3 (.cells #[.int .i64 k] 3)]) (S:=.own (.slice (some q1) 1 1) 75 4 [enc g.L]::.own (.slice (some q2) 1 1) 65 3 [enc (u4 g.Low j)]::.blk b10 (.cells (enc (u4 g.Low j)).toArray 65)::.blk b4 (.cells (cG ⟨g,A,N,C⟩).toArray 77)::S) (rs:=rs++((List.range M).take j).flatMap (fun n:Nat=>M1 φ e [g.L] [u4 g.Low n])) (cap:=[.pointer (some ⟨b2,0,none⟩),.pointer (some ⟨b3,0,none⟩)]) (q:=150) (os:=[g.L]) (xs:=[u4 g.Low j]) φ (fun e' rs' S' w h1 h2 h3=>LF (by omega) ihk e' rs' S' w h1 h2 h3) (R8.ownI (i:=2) rfl rfl (Nat.le_refl _) (by omega)) (R8.ownI (i:=3) rfl rfl (Nat.le_refl _) (by omega)) rfl (by simp) (fun v hv=>by rw[List.mem_singleton.1 hv];exact hvok) he (by rw[hxl];omega) hw).mono fun r w hq=>?_)
    clear hw;obtain⟨rfl,hw⟩:=hq;refine⟨_,rfl,?_⟩;rw[List.append_assoc,←hsu]at hw;refine A7 ?_;refine⟨M-j-1,by omega,j+1,by omega,⟨rfl,rfl,rfl,(by show Value.int .u64 (IntKind.u64.wrap ((j:Int)+1))=_;rw[AE (by omega) (by omega)];rfl),trivial⟩,?_⟩
    exact hw.ds [4,4,4]
   have h:¬(j:Int)≤IntKind.u64.wrap (IntKind.u64.wrap g.High-IntKind.u64.wrap g.Low):=of_decide_eq_false h
   rw[hsub]at h;rw[List.take_of_length_le (by rw[List.length_range];omega),←hRe]at hw
   refine A7 ?_;exact⟨_,rfl,rfl,hw.ds [2,2,2]⟩
  have hk4:¬g.Kind=4:=of_decide_eq_false h
  clear h;rw[if_neg hk4]at hRe;have hw:Wd Γ (.blk b (G0 (.slice sa sn sc) (.slice ga gn gc) (.slice ta tn tc) vr bm)::(G6 vr L++(E1 bm e::.blk b2 (.cells #[.pointer (some ⟨b,0,none⟩)] 156)::.blk b3 (.cells #[.int .i64 k] 3)::.blk b4 (.cells (cG ⟨g,A,N,C⟩).toArray 77)::S))) w:=hw.perm L2
  have hw:=V0 (vr:=vr) hL hw
  refine A7 ?_;refine B9 (vs:=[.pointer (some ⟨b,0,none⟩),.int .i64 ((k+1:Nat):Int)]) ((ihk _ e rs w he (by rw[←hRe];exact hrs) hw).mono fun r w hq=>?_)
  clear hw;obtain⟨rfl,hw⟩:=hq;refine⟨_,rfl,?_⟩;rw[←hRe]at hw;refine A7 ?_;exact⟨_,rfl,rfl,hw.ds [2,2,2]⟩
end Go.Proofs.YtlmiakjbogojgaaGreatDoor
end
section
open Go Mk
namespace Go.Proofs.YtlmiakjbogojgaaGreatDoor
set_option maxHeartbeats 16000000
attribute [local irreducible] Calls cI cB
abbrev Ao(bm:Nat)(ks:List ByteArray):B5:=B5.ms Value.bool bm (ks.map fun s=>(s,true))
theorem QU{ks:List ByteArray}{s:ByteArray}:Ec (ks.map fun s=>(s,true)) s=ks.findIdx? fun t=>decide (t=s):=by
 unfold Ec;rw[List.findIdx?_map];rfl
theorem EC{ks:List ByteArray}{s:ByteArray}:(I3 (ks.map fun s=>(s,true)) s).getD default=P9 ks s:=by
 unfold I3 P9;rw[QU];cases h:ks.findIdx? fun t=>decide (t=s) with
 | none=>
  rw[List.findIdx?_eq_none_iff]at h;symm
  show _=false
  rw[List.any_eq_false];intro x hx;rw[h x hx];simp
 | some i=>
  have hh:=List.findIdx?_eq_some_iff_getElem.1 h
  obtain⟨h1,h2,-⟩:=hh;simp only[Option.bind_some]
  rw[List.getElem?_map,List.getElem?_eq_getElem h1];symm
  show _=true
  rw[List.any_eq_true];exact⟨ks[i],List.getElem_mem h1,h2⟩
theorem EL{ks:List ByteArray}{s:ByteArray}:Gj (ks.map fun s=>(s,true)) s true=(addN ks s).map fun s=>(s,true):=by
 unfold Gj addN P9;rw[QU];cases h:ks.findIdx? fun t=>decide (t=s) with
 | none=>
  rw[List.findIdx?_eq_none_iff]at h;have:(ks.any fun t=>decide (t=s))=false:=by
   rw[List.any_eq_false];intro x hx;rw[h x hx];simp
  rw[this];simp
 | some i=>
  have hh:=List.findIdx?_eq_some_iff_getElem.1 h
  obtain⟨h1,h2,-⟩:=hh;have h2:ks[i]=s:=of_decide_eq_true h2
  have:(ks.any fun t=>decide (t=s))=true:=List.any_eq_true.2 ⟨ks[i],List.getElem_mem h1,decide_eq_true h2⟩
  rw[this];simp only[if_true]
  have e:(s,true)=(ks.map fun s=>(s,true))[i]'(by rw[List.length_map];exact h1):=by simp[h2]
  rw[e];exact List.set_getElem_self _
theorem HU{α β:Type}(f:α→β):∀(l:List α) (i:Nat),(l.map f).eraseIdx i=(l.eraseIdx i).map f
 | [],_=>rfl
 | _::_,0=>rfl
 | a::l,i+1=>by
  show f a::(l.map f).eraseIdx i=f a::(l.eraseIdx i).map f
  rw[HU f l i]
theorem QP{ks:List ByteArray}{s:ByteArray}(hn:ks.Nodup):Bs (ks.map fun s=>(s,true)) s=(ks.filter fun t=>decide (t≠s)).map fun s=>(s,true):=by
 unfold Bs;rw[QU];have key:∀(ks:List ByteArray),ks.Nodup→(match ks.findIdx? (fun t=>decide (t=s)) with|some i=>ks.eraseIdx i|none=>ks)=ks.filter fun t=>decide (t≠s):=by
  intro ks;induction ks with
  | nil=>intro _;rfl
  | cons a l ih=>
   intro hn;rw[List.nodup_cons]at hn;rw[List.findIdx?_cons];by_cases h:a=s
   ·subst h;simp only[decide_true,if_true,List.eraseIdx_zero,List.tail_cons]
    rw[List.filter_cons,if_neg (by simp)]
    rw[List.filter_eq_self.2];intro x hx;simp only[ne_eq,decide_eq_true_eq]
    exact fun e=>hn.1 (e ▸ hx)
   ·rw[decide_eq_false h];simp only[Bool.false_eq_true,if_false]
    rw[List.filter_cons,if_pos (by simpa using h),←ih hn.2]
    cases hq:l.findIdx? fun t=>decide (t=s) with
    | none=>rfl
    | some i=>rfl
 rw[←key ks hn];cases hq:ks.findIdx? fun t=>decide (t=s) with
 | none=>rfl
 | some i=>
  show (ks.map _).eraseIdx i=(ks.eraseIdx i).map _
  exact HU _ _ _
theorem Oh{l:List ByteArray}{s t:ByteArray}:t∈addN l s↔t∈l∨t=s:=by
 unfold addN;split
 ·rename_i h
  rw[V1]at h;exact⟨Or.inl,fun h2=>h2.elim id fun e=>e ▸ h⟩
 ·simp
theorem KN{l:List ByteArray}{s:ByteArray}(h:l.Nodup):(addN l s).Nodup:=by
 unfold addN;split
 ·exact h
 ·rename_i h2
  rw[V1]at h2;rw[List.nodup_append];exact⟨h,by simp,fun a ha b hb=>by
   rw[List.mem_singleton.1 hb];exact fun e=>h2 (e ▸ ha)⟩
theorem Ft:∀ {ns ks:List ByteArray},ks.Nodup→(ns.foldl addN ks).Nodup
 | [],_,h=>h
 | _::ns,_,h=>Ft (ns:=ns) (KN h)
theorem Ch{s:ByteArray}:∀ {ns ks:List ByteArray},s∈ns.foldl addN ks↔s∈ks∨s∈ns
 | [],_=>by simp
 | n::ns,ks=>by
  rw[List.foldl_cons,Ch (ns:=ns),Oh,List.mem_cons,or_assoc]
theorem EU{p:ByteArray→Bool}:∀ {ns ks:List ByteArray},(ns.foldl addN ks).filter p=(ns.filter p).foldl addN (ks.filter p)
 | [],_=>rfl
 | n::ns,ks=>by
  have key:(addN ks n).filter p=if p n=true then addN (ks.filter p) n else ks.filter p:=by
   unfold addN;by_cases h:P9 ks n=true
   ·rw[if_pos h];by_cases hp:p n=true
    ·rw[if_pos hp,if_pos];rw[V1]at h ⊢
     exact List.mem_filter.2 ⟨h,hp⟩
    ·rw[if_neg hp]
   ·rw[if_neg h,List.filter_append];by_cases hp:p n=true
    ·rw[if_pos hp,if_neg]
     ·simp[hp]
     ·intro h2;rw[V1]at h h2
      exact h (List.mem_filter.1 h2).1
    ·rw[if_neg hp];simp[hp]
  rw[List.foldl_cons,EU (ns:=ns),key,List.filter_cons];by_cases hp:p n=true
  ·rw[if_pos hp,if_pos hp,List.foldl_cons]
  ·rw[if_neg hp,if_neg hp]
theorem NR{q:D8}:((((Ed q).foldl addN []).filter fun t=>decide (t≠C5)).filter fun t=>decide (t≠J9))=T5 q:=by
 rw[List.filter_filter];unfold T5;have e:(fun t:ByteArray=>decide (t≠J9)&&decide (t≠C5))=El:=by
  funext t
  unfold El;rw[Bool.and_comm]
 rw[e,EU];rfl
section
variable {Γ:C4}{vs vg:Value}{gs:List E6}{q:D8}
theorem QR.glen{N:Nat}(hq:QR Γ vs vg gs q)(hok:l8 N q):gs.length≤1000:=by
 have:=hok.len
 rw[←hq.eq,List.length_map]at this;exact this
theorem QR.goal{N:Nat}(hq:QR Γ vs vg gs q)(hok:l8 N q){x:E6}(hx:x∈gs):JP N x.g:=
 hok.goals _ (by rw[←hq.eq];exact List.mem_map_of_mem (f:=(·.g)) hx)
theorem QR.get(hq:QR Γ vs vg gs q){k:Nat}{x:E6}(hx:gs[k]? = some x):q.Goals[k]? = some x.g:=by
 rw[←hq.eq,List.getElem?_map,hx];rfl
theorem QR.nlen(hq:QR Γ vs vg gs q):q.Goals.length=gs.length:=by
 rw[←hq.eq,List.length_map]
end
theorem Ej{Γ:C4}{vs vg:Value}{gs:List E6}{q:D8}{N:Nat}(hq0:QR Γ vs vg gs q)(hok:l8 N q)(hN:N≤9223372036854775807:=by first|decide|assumption):PG Tryz.prog Γ 104 [.agg #[vs,vg]] (.int .i64 (if Ap q=true then 0 else 6)):=N6 fun Γ w hle hw=>by
 have hq:=hq0.mono hle
 obtain⟨ga,gn,gc,rfl,hgn,hgnc,hgc⟩:=hq.goals.shape;obtain⟨sa,sn,sc,rfl,hsn,hsnc,hsc⟩:=hq.sel.shape;simp only[List.length_map]at hgn hsn
 have hrG:=hq.goals
 have hgl:=hq.glen hok
 refine A4 Tryz.func104 rfl rfl ?_
 refine A7 ?_;refine J5 ?_;intro b1 w hw;have hw:Wd Γ [.blk b1 (.cells #[.slice sa sn sc,.slice ga gn gc] 25)] w:=hw
 refine A7 ?_;refine C1 (fun μ ρ w=>∃(k:Nat),μ+k=gn∧Has ρ [(1,.pointer (some ⟨b1,0,none⟩)),(6,.slice ga gn gc),(7,.int .i64 gn),(8,.int .i64 k)]∧Ap q=(q.Goals.drop k).all Z1∧Wd Γ [.blk b1 (.cells #[.slice sa sn sc,.slice ga gn gc] 25)] w) gn ⟨0,by omega,⟨rfl,rfl,rfl,rfl,trivial⟩,rfl,hw⟩ ?_
 clear hw;rintro μ ρ w ⟨k,hk,hρ,hall,hw⟩
 rw[hρ.eq];clear hρ;refine A7 ?_;refine A0 rfl (fun h=>?_) (fun h=>?_)
 ·have hkn:k<gn:=by have:=of_decide_eq_true h;omega
  clear h;obtain⟨x,hx⟩:=B8 (l:=gs) (k:=k) (by omega)
  have hgoal:=hq.goal hok (List.mem_of_getElem? hx)
  rw[H7 (hq.get hx)]at hall;obtain⟨g,A,N,C⟩:=x;simp only at hall hgoal
  obtain⟨hm1,hm2⟩:=hgoal.low;obtain⟨hm3,hm4⟩:=hgoal.high;refine A7 ?_;refine B7 ?_;intro b4 w hw;refine A7 ?_;refine A9 ?_;intro w hw;have hw:Wd Γ [.blk b4 (.cells (cG ⟨g,A,N,C⟩).toArray 77),.blk b1 (.cells #[.slice sa sn sc,.slice ga gn gc] 25)] w:=hw
  refine A7 ?_;refine A0 rfl (fun h=>?_) (fun h=>?_)
  ·have hk3:g.Kind=3:=of_decide_eq_true h
   clear h;have hn:Z1 g=(decide (1≤g.Op)&&decide (g.Op≤6)&&decide (g.Off≠-9223372036854775808)):=by unfold Z1;rw[if_pos hk3]
   refine A7 ?_;refine A0 rfl (fun h=>?_) (fun h=>?_)
   ·have hf:Z1 g=false:=by
     rw[hn];simp only[Bool.or_eq_true,decide_eq_true_eq]at h
     simp only[Bool.and_eq_false_iff,decide_eq_false_iff_not]
     rcases h with (h|h)|h
     ·exact .inl (.inl (by omega))
     ·exact .inl (.inr (by omega))
     ·exact .inr (by simpa using h)
    refine A7 ?_;refine⟨_,rfl,Γ,C4.le.refl _,F9 rfl ?_,hw.drop.drop⟩
    rw[hall,hf];rfl
   ·have hf:Z1 g=true:=by
     rw[hn];simp only[Bool.or_eq_false_iff,decide_eq_false_iff_not]at h
     simp only[Bool.and_eq_true,decide_eq_true_eq]
     exact⟨⟨by omega,by omega⟩,h.2⟩
    rw[hf,Bool.true_and]at hall;refine A7 ?_;exact⟨μ-1,by omega,k+1,by omega,⟨rfl,rfl,rfl,rfl,trivial⟩,hall,hw.drop⟩
  have hk3:¬g.Kind=3:=of_decide_eq_false h
  clear h;refine A7 ?_;refine A0 rfl (fun h=>?_) (fun h=>?_)
  ·have hk4:g.Kind=4:=of_decide_eq_true h
   clear h;have hn:Z1 g=(decide (g.Low≤g.High)&&decide (g.High-g.Low≤1000000)):=by unfold Z1;rw[if_neg hk3,if_pos hk4]
   have hsub:g.Low≤g.High→IntKind.u64.wrap (IntKind.u64.wrap g.High-IntKind.u64.wrap g.Low)=g.High-g.Low:=fun h=>Ev hgoal.high hgoal.low h
   refine A7 ?_;refine A0 rfl (fun h=>?_) (fun h=>?_)
   ·have hf:Z1 g=false:=by
     rw[hn];simp only[Bool.or_eq_true,decide_eq_true_eq]at h
     simp only[Bool.and_eq_false_iff,decide_eq_false_iff_not]
     by_cases hl:g.Low≤g.High
     ·refine .inr ?_
      rcases h with h|h
      ·have h:g.High<g.Low:=h
       omega
      ·have h:1000000<IntKind.u64.wrap (IntKind.u64.wrap g.High-IntKind.u64.wrap g.Low):=h
       rw[hsub hl]at h;omega
     ·exact .inl hl
    refine A7 ?_;refine⟨_,rfl,Γ,C4.le.refl _,F9 rfl ?_,hw.drop.drop⟩
    rw[hall,hf];rfl
   ·have hf:Z1 g=true:=by
     rw[hn];simp only[Bool.or_eq_false_iff,decide_eq_false_iff_not]at h
     obtain⟨h1,h2⟩:=h;have h1:¬g.High<g.Low:=h1
     have hl:g.Low≤g.High:=by omega
     have h2:¬1000000<IntKind.u64.wrap (IntKind.u64.wrap g.High-IntKind.u64.wrap g.Low):=h2
     rw[hsub hl]at h2;simp only[Bool.and_eq_true,decide_eq_true_eq]
     exact⟨hl,by omega⟩
    rw[hf,Bool.true_and]at hall;refine A7 ?_;exact⟨μ-1,by omega,k+1,by omega,⟨rfl,rfl,rfl,rfl,trivial⟩,hall,hw.drop⟩
  have hk4:¬g.Kind=4:=of_decide_eq_false h
  have hf:Z1 g=true:=by unfold Z1;rw[if_neg hk3,if_neg hk4]
  rw[hf,Bool.true_and]at hall;refine A7 ?_;exact⟨μ-1,by omega,k+1,by omega,⟨rfl,rfl,rfl,rfl,trivial⟩,hall,hw.drop⟩
 have hkn:gn≤k:=by have:=of_decide_eq_false h;omega
 rw[E0 _ (by rw[hq.nlen];omega)]at hall
 refine A7 ?_;refine⟨_,rfl,Γ,C4.le.refl _,F9 rfl ?_,hw.drop⟩
 rw[hall];rfl
def GX(g:F6):Bool:=!E3 g||(decide (1≤g.Args.length)&&decide (g.Args.length≤8))
theorem FF{Γ:C4}{vs vg:Value}{gs:List E6}{q:D8}{N:Nat}(hq0:QR Γ vs vg gs q)(hok:l8 N q)(hN:N≤9223372036854775807:=by first|decide|assumption):PG Tryz.prog Γ 101 [.agg #[vs,vg]] (.int .i64 (if Z7 q=true then 0 else 15)):=N6 fun Γ w hle hw=>by
 have hq:=hq0.mono hle
 obtain⟨ga,gn,gc,rfl,hgn,hgnc,hgc⟩:=hq.goals.shape;obtain⟨sa,sn,sc,rfl,hsn,hsnc,hsc⟩:=hq.sel.shape;simp only[List.length_map]at hgn hsn
 have hrG:=hq.goals
 have hrS:=hq.sel
 have hgl:=hq.glen hok
 have hsl:=hok.sel
 have hnl:=hq.nlen
 refine A4 Tryz.func101 rfl rfl ?_
 refine A7 ?_;refine J5 ?_;intro b1 w hw;have hw:Wd Γ [.blk b1 (.cells #[.slice sa sn sc,.slice ga gn gc] 25)] w:=hw
 refine A7 ?_;refine A0 rfl (fun h=>?_) (fun h=>?_)
 ·have hf:Z7 q=false:=by
   simp only[Bool.or_eq_true,decide_eq_true_eq]at h
   unfold Z7;rcases h with (h|h)|h
   ·rw[decide_eq_false (by omega)];rfl
   ·rw[decide_eq_false (p:=q.Goals.length≤16) (by omega),Bool.and_false];rfl
   ·rw[decide_eq_false (p:=q.Sel.length≤8) (by omega),Bool.and_false];rfl
  refine A7 ?_;refine⟨_,rfl,Γ,C4.le.refl _,F9 rfl ?_,hw.drop⟩
  rw[hf];rfl
 have hb:1≤gn∧gn≤16∧sn≤8:=by
  simp only[Bool.or_eq_false_iff,decide_eq_false_iff_not]at h
  obtain⟨⟨h1,h2⟩,h3⟩:=h;omega
 clear h;have hokl:Z7 q=((q.Goals.all GX)&&decide ((T5 q).length≤8)):=by
  unfold Z7;rw[decide_eq_true (by omega:1≤q.Goals.length),decide_eq_true (by omega:q.Goals.length≤16),decide_eq_true (by omega:q.Sel.length≤8)];rfl
 refine A7 ?_;refine K0 rfl rfl (Ba (K:=9) (α:=ByteArray) (f:=Value.bool) hw fun bm w hw=>?_)
 have hw:Wd Γ [Ao bm [],.blk b1 (.cells #[.slice sa sn sc,.slice ga gn gc] 25)] w:=hw
 refine A7 ?_;refine C1 (fun μ ρ w=>∃(k:Nat),μ+k=sn∧Has ρ [(1,.pointer (some ⟨b1,0,none⟩)),(3,.map (some bm)),(28,.slice sa sn sc),(29,.int .i64 sn),(30,.int .i64 k)]∧Wd Γ [Ao bm ((q.Sel.take k).foldl addN []),.blk b1 (.cells #[.slice sa sn sc,.slice ga gn gc] 25)] w) sn ⟨0,by omega,⟨rfl,rfl,rfl,rfl,rfl,trivial⟩,hw⟩ ?_
 clear hw;rintro μ ρ w ⟨k,hk,hρ,hw⟩
 rw[hρ.eq];clear hρ;refine A7 ?_;refine A0 rfl (fun h=>?_) (fun h=>?_)
 ·have hkn:k<sn:=by have:=of_decide_eq_true h;omega
  clear h;obtain⟨s,hs⟩:=B8 (l:=q.Sel) (k:=k) (by omega)
  refine A7 ?_;refine K0 rfl rfl (d9 (f:=Value.bool) (v:=true) (i:=0) (l:=((q.Sel.take k).foldl addN []).map fun s=>(s,true)) hw rfl rfl rfl rfl fun w hw=>?_)
  rw[EL]at hw;have hw:Wd Γ [Ao bm ((q.Sel.take (k+1)).foldl addN []),.blk b1 (.cells #[.slice sa sn sc,.slice ga gn gc] 25)] w:=by
   rw[List.take_add_one,hs,List.foldl_append];exact hw
  refine A7 ?_;exact⟨μ-1,by omega,k+1,by omega,⟨rfl,rfl,rfl,rfl,rfl,trivial⟩,hw⟩
 have hkn:sn≤k:=by have:=of_decide_eq_false h;omega
 clear h;rw[List.take_of_length_le (by omega)]at hw
 have hw:Wd Γ [Ao bm ((q.Sel++(q.Goals.take 0).flatMap fun g=>(E7 g).map (·.Var)).foldl addN []),.blk b1 (.cells #[.slice sa sn sc,.slice ga gn gc] 25)] w:=by
  rw[List.take_zero,List.flatMap_nil,List.append_nil];exact hw
 clear hk hkn;refine A7 ?_;refine C1 (fun μ ρ w=>∃(Γ':C4) (k:Nat),Γ.le Γ'∧μ+k=gn∧Has ρ [(1,.pointer (some ⟨b1,0,none⟩)),(3,.map (some bm)),(38,.slice ga gn gc),(39,.int .i64 gn),(40,.int .i64 k)]∧q.Goals.all GX=(q.Goals.drop k).all GX∧Wd Γ' [Ao bm ((q.Sel++(q.Goals.take k).flatMap fun g=>(E7 g).map (·.Var)).foldl addN []),.blk b1 (.cells #[.slice sa sn sc,.slice ga gn gc] 25)] w) gn ⟨Γ,0,C4.le.refl _,by omega,⟨rfl,rfl,rfl,rfl,rfl,trivial⟩,rfl,hw⟩ ?_
 clear hw;rintro μ ρ w ⟨Γ1,k,hle1,hk,hρ,hall,hw⟩
 rw[hρ.eq];clear hρ;have hq1:=hq.mono hle1
 have hrG1:=hq1.goals
 refine A7 ?_;refine A0 rfl (fun h=>?_) (fun h=>?_)
 ·have hkn:k<gn:=by have:=of_decide_eq_true h;omega
  clear h;obtain⟨x,hx⟩:=B8 (l:=gs) (k:=k) (by omega)
  have hxm:=List.mem_of_getElem? hx
  have hgoal:=hq.goal hok hxm
  have hgok:=hq1.ok x hxm
  have hgx:=hq.get hx
  rw[H7 hgx]at hall;obtain⟨l1,l2,l3⟩:=hgok.len;obtain⟨g,A,N,C⟩:=x;simp only at hall hgoal l1 l2 l3 hgx
  have hal:=hgoal.len
  refine A7 ?_;refine B7 ?_;intro b7 w hw;refine A7 ?_;refine A9 ?_;intro w hw;have hw:Wd Γ1 [.blk b7 (.cells (cG ⟨g,A,N,C⟩).toArray 77),Ao bm ((q.Sel++(q.Goals.take k).flatMap fun g=>(E7 g).map (·.Var)).foldl addN []),.blk b1 (.cells #[.slice sa sn sc,.slice ga gn gc] 25)] w:=hw
  repeat first|refine A5 ?_|refine A6 ?_;intro w hw
  refine A0 rfl (fun h=>?_) (fun h=>?_)
  ·have hf:GX g=false:=by
    have h:(E3 g&&(decide ((N:Int)<1)||decide (8<(N:Int))))=true:=h
    rw[Bool.and_eq_true,Bool.or_eq_true,decide_eq_true_eq,decide_eq_true_eq]at h;show (!E3 g||_)=false
    rw[h.1];simp only[Bool.not_true,Bool.false_or,Bool.and_eq_false_iff,decide_eq_false_iff_not]
    rcases h.2 with h2|h2
    ·exact .inl (by omega)
    ·exact .inr (by omega)
   refine A7 ?_;refine⟨_,rfl,Γ1,hle1,F9 rfl ?_,E8 hw⟩
   rw[hokl,hall,hf];rfl
  have hf:GX g=true:=by
   have h:(E3 g&&(decide ((N:Int)<1)||decide (8<(N:Int))))=false:=h
   show (!E3 g||_)=true
   cases hi:E3 g with
   | false=>rfl
   | true=>
    rw[hi,Bool.true_and,Bool.or_eq_false_iff,decide_eq_false_iff_not,decide_eq_false_iff_not]at h;rw[decide_eq_true (by omega),decide_eq_true (by omega)];rfl
  clear h;rw[hf,Bool.true_and]at hall;refine A7 ?_;refine B9 (vs:=[.agg (cG ⟨g,A,N,C⟩).toArray]) ((X3 hgok hw).mono fun e w hq2=>?_)
  clear hw;obtain⟨Γ2,v,hle2,rfl,hrv,hw⟩:=hq2;obtain⟨oa,on,oc,rfl,hon,honc,hoc⟩:=hrv.shape;simp only[List.length_map]at hon
  have hol:=AM hgoal hN
  refine⟨_,rfl,?_⟩;refine A7 ?_;refine C1 (fun μ ρ w=>∃(j:Nat),μ+j=on∧Has ρ [(1,.pointer (some ⟨b1,0,none⟩)),(3,.map (some bm)),(38,.slice ga gn gc),(39,.int .i64 gn),(40,.int .i64 k),(59,.slice oa on oc),(60,.int .i64 on),(61,.int .i64 j)]∧Wd Γ2 [.blk b7 (.cells (cG ⟨g,A,N,C⟩).toArray 77),Ao bm (((q.Sel++(q.Goals.take k).flatMap fun g=>(E7 g).map (·.Var))++((E7 g).take j).map (·.Var)).foldl addN []),.blk b1 (.cells #[.slice sa sn sc,.slice ga gn gc] 25)] w) on ⟨0,by omega,⟨rfl,rfl,rfl,rfl,rfl,rfl,rfl,rfl,trivial⟩,by rw[List.take_zero,List.map_nil,List.append_nil];exact hw⟩ ?_
  clear hw;rintro μ2 ρ w ⟨j,hj,hρ,hw⟩
  rw[hρ.eq];clear hρ;refine A7 ?_;refine A0 rfl (fun h=>?_) (fun h=>?_)
  ·have hjn:j<on:=by have:=of_decide_eq_true h;omega
   clear h;obtain⟨o,ho⟩:=B8 (l:=E7 g) (k:=j) (by omega)
   refine A7 ?_;refine B7 ?_;intro b9 w hw;refine A9 ?_;intro w hw;have hw:Wd Γ2 [.blk b9 (.cells (enc o).toArray 75),.blk b7 (.cells (cG ⟨g,A,N,C⟩).toArray 77),Ao bm (((q.Sel++(q.Goals.take k).flatMap fun g=>(E7 g).map (·.Var))++((E7 g).take j).map (·.Var)).foldl addN []),.blk b1 (.cells #[.slice sa sn sc,.slice ga gn gc] 25)] w:=hw
   refine A7 ?_;refine K0 rfl rfl (d9 (f:=Value.bool) (v:=true) (i:=2) (l:=(((q.Sel++(q.Goals.take k).flatMap fun g=>(E7 g).map (·.Var))++((E7 g).take j).map (·.Var)).foldl addN []).map fun s=>(s,true)) hw rfl rfl rfl rfl fun w hw=>?_)
   rw[EL]at hw;have hw:Wd Γ2 [.blk b9 (.cells (enc o).toArray 75),.blk b7 (.cells (cG ⟨g,A,N,C⟩).toArray 77),Ao bm (((q.Sel++(q.Goals.take k).flatMap fun g=>(E7 g).map (·.Var))++((E7 g).take (j+1)).map (·.Var)).foldl addN []),.blk b1 (.cells #[.slice sa sn sc,.slice ga gn gc] 25)] w:=by
    rw[List.take_add_one,ho,List.map_append,←List.append_assoc,List.foldl_append (l:=((q.Sel++(q.Goals.take k).flatMap fun g=>(E7 g).map (·.Var))++((E7 g).take j).map (·.Var)))];exact hw
   refine A7 ?_;exact⟨on-j-1,by omega,j+1,by omega,⟨rfl,rfl,rfl,rfl,rfl,rfl,rfl,rfl,trivial⟩,hw.drop⟩
  have hjn:on≤j:=by have:=of_decide_eq_false h;omega
  clear h;have ho2:(E7 g).take j=E7 g:=List.take_of_length_le (by omega)
  rw[ho2]at hw;have hw:Wd Γ2 [.blk b7 (.cells (cG ⟨g,A,N,C⟩).toArray 77),Ao bm ((q.Sel++(q.Goals.take (k+1)).flatMap fun g=>(E7 g).map (·.Var)).foldl addN []),.blk b1 (.cells #[.slice sa sn sc,.slice ga gn gc] 25)] w:=by
   rw[Aa (F:=fun g=>(E7 g).map (·.Var)) hgx,←List.append_assoc];exact hw
  refine A7 ?_;exact⟨gn-k-1,by omega,Γ2,k+1,hle1.trans hle2,by omega,⟨rfl,rfl,rfl,rfl,rfl,trivial⟩,hall,hw.drop⟩
 have hkn:gn≤k:=by have:=of_decide_eq_false h;omega
 clear h;rw[E0 _ (by rw[hnl];omega)]at hall
 rw[List.take_of_length_le (by omega)]at hw
 have hw:Wd Γ1 [Ao bm ((Ed q).foldl addN []),.blk b1 (.cells #[.slice sa sn sc,.slice ga gn gc] 25)] w:=hw
 have hnd:((Ed q).foldl addN []).Nodup:=Ft List.nodup_nil
 refine A7 ?_;refine K0 rfl rfl (KF (f:=Value.bool) (i:=0) (l:=((Ed q).foldl addN []).map fun s=>(s,true)) (a:=C5) hw rfl rfl rfl fun w hw=>?_)
 rw[QP hnd]at hw;have hw:Wd Γ1 [Ao bm (((Ed q).foldl addN []).filter fun t=>decide (t≠C5)),.blk b1 (.cells #[.slice sa sn sc,.slice ga gn gc] 25)] w:=hw
 refine A7 ?_;refine K0 rfl rfl (KF (f:=Value.bool) (i:=0) (l:=(((Ed q).foldl addN []).filter fun t=>decide (t≠C5)).map fun s=>(s,true)) (a:=J9) hw rfl rfl rfl fun w hw=>?_)
 rw[QP (hnd.filter _),NR]at hw;have hw:Wd Γ1 [Ao bm (T5 q),.blk b1 (.cells #[.slice sa sn sc,.slice ga gn gc] 25)] w:=hw
 refine A7 ?_;refine A0 rfl (fun h=>?_) (fun h=>?_)
 ·have h:=of_decide_eq_true h
  rw[List.length_map]at h;refine A7 ?_;refine⟨_,rfl,Γ1,hle1,F9 rfl ?_,E8 hw⟩
  rw[hokl,decide_eq_false (by omega),Bool.and_false];rfl
 ·have h:=of_decide_eq_false h
  rw[List.length_map]at h;refine A7 ?_;refine⟨_,rfl,Γ1,hle1,F9 rfl ?_,E8 hw⟩
  rw[hokl,hall,decide_eq_true (by omega)];rfl
end Go.Proofs.YtlmiakjbogojgaaGreatDoor
end
section
open Go Mk
namespace Go.Proofs.YtlmiakjbogojgaaGreatDoor
set_option maxHeartbeats 16000000
attribute [local irreducible] Calls cI cB
def Nt(g:F6):Bool:=J0 g&&(E7 g).all plainO
theorem GW{Γ:C4}{vs vg:Value}{gs:List E6}{q:D8}{N:Nat}(hq0:QR Γ vs vg gs q)(hok:l8 N q)(hN:N≤9223372036854775807:=by first|decide|assumption):PG Tryz.prog Γ 102 [.agg #[vs,vg]] (.int .i64 (if S7 q=true then 0 else 50)):=N6 fun Γ w hle hw=>by
 have hq:=hq0.mono hle
 obtain⟨ga,gn,gc,rfl,hgn,hgnc,hgc⟩:=hq.goals.shape;obtain⟨sa,sn,sc,rfl,hsn,hsnc,hsc⟩:=hq.sel.shape;simp only[List.length_map]at hgn hsn
 have hgl:=hq.glen hok
 have hnl:=hq.nlen
 have hall0:S7 q=q.Goals.all Nt:=rfl
 refine A4 Tryz.func102 rfl rfl ?_
 refine A7 ?_;refine J5 ?_;intro b1 w hw;have hw:Wd Γ [.blk b1 (.cells #[.slice sa sn sc,.slice ga gn gc] 25)] w:=hw
 refine A7 ?_;refine B7 ?_;intro b3 w hw;refine A9 ?_;intro w hw;have hw:Wd Γ [.blk b3 (.cells (enc Q3).toArray 75),.blk b1 (.cells #[.slice sa sn sc,.slice ga gn gc] 25)] w:=hw
 refine A7 ?_;refine C1 (fun μ ρ w=>∃(Γ':C4) (k:Nat),Γ.le Γ'∧μ+k=gn∧Has ρ [(1,.pointer (some ⟨b1,0,none⟩)),(3,.pointer (some ⟨b3,0,none⟩)),(11,.slice ga gn gc),(12,.int .i64 gn),(13,.int .i64 k)]∧S7 q=(q.Goals.drop k).all Nt∧Wd Γ' [.blk b3 (.cells (enc Q3).toArray 75),.blk b1 (.cells #[.slice sa sn sc,.slice ga gn gc] 25)] w) gn ⟨Γ,0,C4.le.refl _,by omega,⟨rfl,rfl,rfl,rfl,rfl,trivial⟩,hall0,hw⟩ ?_
 clear hw;rintro μ ρ w ⟨Γ1,k,hle1,hk,hρ,hall,hw⟩
 rw[hρ.eq];clear hρ;have hq1:=hq.mono hle1
 have hrG1:=hq1.goals
 refine A7 ?_;refine A0 rfl (fun h=>?_) (fun h=>?_)
 ·have hkn:k<gn:=by have:=of_decide_eq_true h;omega
  clear h;obtain⟨x,hx⟩:=B8 (l:=gs) (k:=k) (by omega)
  have hxm:=List.mem_of_getElem? hx
  have hgoal:=hq.goal hok hxm
  have hgok:=hq1.ok x hxm
  have hgx:=hq.get hx
  rw[H7 hgx]at hall;obtain⟨l1,l2,l3⟩:=hgok.len;obtain⟨g,A,N,C⟩:=x;simp only at hall hgoal l1 l2 l3 hgx
  have hal:=hgoal.len
  refine A7 ?_;refine B7 ?_;intro b5 w hw;refine A7 ?_;refine A9 ?_;intro w hw;have hw:Wd Γ1 [.blk b5 (.cells (cG ⟨g,A,N,C⟩).toArray 77),.blk b3 (.cells (enc Q3).toArray 75),.blk b1 (.cells #[.slice sa sn sc,.slice ga gn gc] 25)] w:=hw
  first|refine A5 ?_|(refine A6 ?_;intro w hw)
  first|refine A5 ?_|(refine A6 ?_;intro w hw)
  first|refine A5 ?_|(refine A6 ?_;intro w hw)
  first|refine A5 ?_|(refine A6 ?_;intro w hw)
  first|refine A5 ?_|(refine A6 ?_;intro w hw)
  refine BL (fun ρ w=>Has ρ [(1,.pointer (some ⟨b1,0,none⟩)),(3,.pointer (some ⟨b3,0,none⟩)),(5,.pointer (some ⟨b5,0,none⟩)),(6,.bool (J0 g)),(11,.slice ga gn gc),(12,.int .i64 gn),(13,.int .i64 k)]∧Wd Γ1 [.blk b5 (.cells (cG ⟨g,A,N,C⟩).toArray 77),.blk b3 (.cells (enc Q3).toArray 75),.blk b1 (.cells #[.slice sa sn sc,.slice ga gn gc] 25)] w) ?_ ?_
  ·have k12:∀h12:g.Kind=1∨g.Kind=2,J0 g=(decide (g.Op=0)&&decide (g.L=Q3)&&decide (g.R=Q3)&&decide (g.Off=0)&&decide (g.Low=0)&&decide (g.High=0)):=fun h12=>by unfold J0;rw[if_pos h12]
   refine A7 ?_;refine A0 rfl (fun h=>?_) (fun h=>?_)
   ·have hk1:g.Kind=1:=of_decide_eq_true h
    refine A7 ?_;refine G1 (congrArg Value.bool h) ?_
    refine A7 ?_;refine lG ?_ (hv:=fun hc=>by exact Dh (a:=g.L) (b:=Q3) B1 B1 rfl)
    refine A7 ?_;refine lG ?_ (hv:=fun hc=>by exact Dh (a:=g.R) (b:=Q3) B1 B1 rfl)
    refine A7 ?_;refine⟨⟨rfl,rfl,rfl,?_,rfl,rfl,rfl,trivial⟩,hw⟩
    rw[k12 (.inl hk1)];rfl
   have hk1:¬g.Kind=1:=of_decide_eq_false h
   clear h;refine A7 ?_;refine A0 rfl (fun h=>?_) (fun h=>?_)
   ·have hk2:g.Kind=2:=of_decide_eq_true h
    refine A7 ?_;refine lG ?_ (hv:=fun hc=>by exact Dh (a:=g.L) (b:=Q3) B1 B1 rfl)
    refine A7 ?_;refine lG ?_ (hv:=fun hc=>by exact Dh (a:=g.R) (b:=Q3) B1 B1 rfl)
    refine A7 ?_;refine⟨⟨rfl,rfl,rfl,?_,rfl,rfl,rfl,trivial⟩,hw⟩
    rw[k12 (.inr hk2)];rfl
   have hk2:¬g.Kind=2:=of_decide_eq_false h
   clear h;refine A7 ?_;refine A0 rfl (fun h=>?_) (fun h=>?_)
   ·have hk3:g.Kind=3:=of_decide_eq_true h
    refine A7 ?_;refine⟨⟨rfl,rfl,rfl,?_,rfl,rfl,rfl,trivial⟩,hw⟩
    unfold J0;rw[if_neg (fun e=>e.elim hk1 hk2),if_pos hk3];have e:decide ((N:Int)=0)=decide (g.Args.length=0):=decide_eq_decide.2 (by omega)
    show Value.bool (decide (g.Rel=C5)&&decide ((N:Int)=0)&&decide (g.Low=0)&&decide (g.High=0))=_
    rw[e]
   have hk3:¬g.Kind=3:=of_decide_eq_false h
   clear h;refine A7 ?_;refine A0 rfl (fun h=>?_) (fun h=>?_)
   ·have hk4:g.Kind=4:=of_decide_eq_true h
    refine A7 ?_;refine lG ?_ (hv:=fun hc=>by exact Dh (a:=g.R) (b:=Q3) B1 B1 rfl)
    refine A7 ?_;refine⟨⟨rfl,rfl,rfl,?_,rfl,rfl,rfl,trivial⟩,hw⟩
    unfold J0;rw[if_neg (fun e=>e.elim hk1 hk2),if_neg hk3,if_pos hk4];have e:decide ((N:Int)=0)=decide (g.Args.length=0):=decide_eq_decide.2 (by omega)
    show Value.bool (decide (g.Rel=C5)&&decide ((N:Int)=0)&&decide (g.Op=0)&&decide (g.R=Q3)&&decide (g.Off=0)&&decide (g.L.Var≠C5))=_
    rw[e]
   have hk4:¬g.Kind=4:=of_decide_eq_false h
   refine A7 ?_;refine⟨⟨rfl,rfl,rfl,?_,rfl,rfl,rfl,trivial⟩,hw⟩
   unfold J0;rw[if_neg (fun e=>e.elim hk1 hk2),if_neg hk3,if_neg hk4];rfl
  clear hw;rintro ρ w ⟨hρ,hw⟩
  rw[hρ.eq];clear hρ;refine A7 ?_;refine B9 (vs:=[.agg (cG ⟨g,A,N,C⟩).toArray]) ((X3 hgok hw).mono fun e w hq2=>?_)
  clear hw;obtain⟨Γ2,v,hle2,rfl,hrv,hw⟩:=hq2;obtain⟨oa,on,oc,rfl,hon,honc,hoc⟩:=hrv.shape;simp only[List.length_map]at hon
  have hol:=AM hgoal hN
  refine⟨_,rfl,?_⟩;refine A7 ?_;refine C1 (fun μ ρ w=>∃(j:Nat) (t:Bool),μ+j=on∧Has ρ [(1,.pointer (some ⟨b1,0,none⟩)),(3,.pointer (some ⟨b3,0,none⟩)),(6,.bool t),(11,.slice ga gn gc),(12,.int .i64 gn),(13,.int .i64 k),(107,.slice oa on oc),(108,.int .i64 on),(109,.int .i64 j)]∧Nt g=(t&&((E7 g).drop j).all plainO)∧Wd Γ2 [.blk b5 (.cells (cG ⟨g,A,N,C⟩).toArray 77),.blk b3 (.cells (enc Q3).toArray 75),.blk b1 (.cells #[.slice sa sn sc,.slice ga gn gc] 25)] w) on ⟨0,J0 g,by omega,⟨rfl,rfl,rfl,rfl,rfl,rfl,rfl,rfl,rfl,trivial⟩,rfl,hw⟩ ?_
  clear hw;rintro μ2 ρ w ⟨j,t,hj,hρ,hsh,hw⟩
  rw[hρ.eq];clear hρ;refine A7 ?_;refine A0 rfl (fun h=>?_) (fun h=>?_)
  ·have hjn:j<on:=by have:=of_decide_eq_true h;omega
   clear h;obtain⟨o,ho⟩:=B8 (l:=E7 g) (k:=j) (by omega)
   rw[H7 ho,←Bool.and_assoc]at hsh;refine A7 ?_;refine B7 ?_;intro b9 w hw;refine A9 ?_;intro w hw;have hw:Wd Γ2 (.blk b9 (.cells (enc o).toArray 75)::[.blk b5 (.cells (cG ⟨g,A,N,C⟩).toArray 77),.blk b3 (.cells (enc Q3).toArray 75),.blk b1 (.cells #[.slice sa sn sc,.slice ga gn gc] 25)]) w:=hw
   refine A7 ?_;refine lG ?_ (hv:=fun hc=>by exact Dh (a:=o.Const) (b:=H8) B1 B1 rfl)
   refine A7 ?_;exact⟨on-j-1,by omega,j+1,(t&&plainO o),by omega,⟨rfl,rfl,rfl,rfl,rfl,rfl,rfl,rfl,rfl,trivial⟩,hsh,hw.drop⟩
  have hjn:on≤j:=by have:=of_decide_eq_false h;omega
  clear h;rw[E0 (E7 g) (by omega),List.all_nil,Bool.and_true]at hsh
  subst hsh;refine A7 ?_;refine A0 rfl (fun h=>?_) (fun h=>?_)
  ·have hf:Nt g=false:=by simpa using h
   refine A7 ?_;refine⟨_,rfl,Γ2,hle1.trans hle2,F9 rfl ?_,E8 hw⟩
   rw[hall,hf];rfl
  ·have hf:Nt g=true:=by simpa using h
   rw[hf,Bool.true_and]at hall;refine A7 ?_;exact⟨gn-k-1,by omega,Γ2,k+1,hle1.trans hle2,by omega,⟨rfl,rfl,rfl,rfl,rfl,trivial⟩,hall,hw.drop⟩
 have hkn:gn≤k:=by have:=of_decide_eq_false h;omega
 rw[E0 _ (by rw[hnl];omega)]at hall
 refine A7 ?_;refine⟨_,rfl,Γ1,hle1,F9 rfl ?_,E8 hw⟩
 rw[hall];rfl
end Go.Proofs.YtlmiakjbogojgaaGreatDoor
end
section
open Go Mk
namespace Go.Proofs.YtlmiakjbogojgaaGreatDoor
set_option maxHeartbeats 16000000
attribute [local irreducible] Calls cI cB
theorem Gb{Γ:C4}{vs vg:Value}{gs:List E6}{q:D8}{N:Nat}(hq0:QR Γ vs vg gs q)(hok:l8 N q)(hN:N≤9223372036854775807:=by first|decide|assumption):PG Tryz.prog Γ 103 [.agg #[vs,vg]] (.int .i64 (if O1 q=true then 0 else 63)):=N6 fun Γ w hle hw=>by
 have hq:=hq0.mono hle
 obtain⟨ga,gn,gc,rfl,hgn,hgnc,hgc⟩:=hq.goals.shape;obtain⟨sa,sn,sc,rfl,hsn,hsnc,hsc⟩:=hq.sel.shape;simp only[List.length_map]at hgn hsn
 have hgl:=hq.glen hok
 have hsl:=hok.sel
 have hnl:=hq.nlen
 have hrS:=hq.sel
 refine A4 Tryz.func103 rfl rfl ?_
 refine A7 ?_;refine J5 ?_;intro b1 w hw;have hw:Wd Γ [.blk b1 (.cells #[.slice sa sn sc,.slice ga gn gc] 25)] w:=hw
 refine A7 ?_;refine C1 (fun μ ρ w=>∃(k:Nat),μ+k=sn∧Has ρ [(1,.pointer (some ⟨b1,0,none⟩)),(10,.slice sa sn sc),(11,.int .i64 sn),(12,.int .i64 k)]∧q.Sel.all V7=(q.Sel.drop k).all V7∧Wd Γ [.blk b1 (.cells #[.slice sa sn sc,.slice ga gn gc] 25)] w) sn ⟨0,by omega,⟨rfl,rfl,rfl,rfl,trivial⟩,rfl,hw⟩ ?_
 clear hw;rintro μ ρ w ⟨k,hk,hρ,hall,hw⟩
 rw[hρ.eq];clear hρ;refine A7 ?_;refine A0 rfl (fun h=>?_) (fun h=>?_)
 ·have hkn:k<sn:=by have:=of_decide_eq_true h;omega
  clear h;obtain⟨s,hs⟩:=B8 (l:=q.Sel) (k:=k) (by omega)
  rw[H7 hs]at hall;have p1:=AA (hok.names s (List.mem_of_getElem? hs))
  refine A7 ?_;refine A0 rfl (fun h=>?_) (fun h=>?_)
  ·have hf:V7 s=false:=by simpa using h
   refine A7 ?_;refine⟨_,rfl,Γ,C4.le.refl _,F9 rfl ?_,E8 hw⟩
   unfold O1;rw[hall,hf];rfl
  ·have hf:V7 s=true:=by simpa using h
   rw[hf,Bool.true_and]at hall;refine A7 ?_;exact⟨μ-1,by omega,k+1,by omega,⟨rfl,rfl,rfl,rfl,trivial⟩,hall,hw⟩
 have hkn:sn≤k:=by have:=of_decide_eq_false h;omega
 clear h;rw[E0 q.Sel (by omega)]at hall
 have hall0:O1 q=q.Goals.all Z5:=by unfold O1;rw[hall];rfl
 clear hall hkn hk;refine A7 ?_;refine C1 (fun μ ρ w=>∃(Γ':C4) (k:Nat),Γ.le Γ'∧μ+k=gn∧Has ρ [(1,.pointer (some ⟨b1,0,none⟩)),(21,.slice ga gn gc),(22,.int .i64 gn),(23,.int .i64 k)]∧O1 q=(q.Goals.drop k).all Z5∧Wd Γ' [.blk b1 (.cells #[.slice sa sn sc,.slice ga gn gc] 25)] w) gn ⟨Γ,0,C4.le.refl _,by omega,⟨rfl,rfl,rfl,rfl,trivial⟩,hall0,hw⟩ ?_
 clear hw;rintro μ ρ w ⟨Γ1,k,hle1,hk,hρ,hall,hw⟩
 rw[hρ.eq];clear hρ;have hq1:=hq.mono hle1
 have hrG1:=hq1.goals
 refine A7 ?_;refine A0 rfl (fun h=>?_) (fun h=>?_)
 ·have hkn:k<gn:=by have:=of_decide_eq_true h;omega
  clear h;obtain⟨x,hx⟩:=B8 (l:=gs) (k:=k) (by omega)
  have hxm:=List.mem_of_getElem? hx
  have hgoal:=hq.goal hok hxm
  have hgok:=hq1.ok x hxm
  have hgx:=hq.get hx
  rw[H7 hgx]at hall;obtain⟨l1,l2,l3⟩:=hgok.len;obtain⟨g,A,N,C⟩:=x;simp only at hall hgoal l1 l2 l3 hgx
  have hal:=hgoal.len
  haveI:=Ip hgoal.rel
  refine A7 ?_;refine B7 ?_;intro b6 w hw;refine A7 ?_;refine A9 ?_;intro w hw;have hw:Wd Γ1 [.blk b6 (.cells (cG ⟨g,A,N,C⟩).toArray 77),.blk b1 (.cells #[.slice sa sn sc,.slice ga gn gc] 25)] w:=hw
  repeat first|refine A5 ?_|refine A6 ?_;intro w hw
  refine A0 rfl (fun h=>?_) (fun h=>?_)
  ·have hf:Z5 g=false:=by
    have h:(E3 g&&(!N8 g.Rel||u3 g.Rel))=true:=h
    unfold Z5;rw[h];rfl
   refine A7 ?_;refine⟨_,rfl,Γ1,hle1,F9 rfl ?_,E8 hw⟩
   rw[hall,hf];rfl
  have hnG:Z5 g=(E7 g).all (BE g):=by
   have h:(E3 g&&(!N8 g.Rel||u3 g.Rel))=false:=h
   unfold Z5;rw[h];rfl
  clear h;refine A7 ?_;refine B9 (vs:=[.agg (cG ⟨g,A,N,C⟩).toArray]) ((X3 hgok hw).mono fun e w hq2=>?_)
  clear hw;obtain⟨Γ2,v,hle2,rfl,hrv,hw⟩:=hq2;obtain⟨oa,on,oc,rfl,hon,honc,hoc⟩:=hrv.shape;simp only[List.length_map]at hon
  have hol:=AM hgoal hN
  refine⟨_,rfl,?_⟩;refine A7 ?_;refine C1 (fun μ ρ w=>∃(j:Nat),μ+j=on∧Has ρ [(1,.pointer (some ⟨b1,0,none⟩)),(6,.pointer (some ⟨b6,0,none⟩)),(21,.slice ga gn gc),(22,.int .i64 gn),(23,.int .i64 k),(41,.slice oa on oc),(42,.int .i64 on),(43,.int .i64 j)]∧Z5 g=((E7 g).drop j).all (BE g)∧Wd Γ2 [.blk b6 (.cells (cG ⟨g,A,N,C⟩).toArray 77),.blk b1 (.cells #[.slice sa sn sc,.slice ga gn gc] 25)] w) on ⟨0,by omega,⟨rfl,rfl,rfl,rfl,rfl,rfl,rfl,rfl,trivial⟩,hnG,hw⟩ ?_
  clear hw;rintro μ2 ρ w ⟨j,hj,hρ,hsh,hw⟩
  rw[hρ.eq];clear hρ;refine A7 ?_;refine A0 rfl (fun h=>?_) (fun h=>?_)
  ·have hjn:j<on:=by have:=of_decide_eq_true h;omega
   clear h;obtain⟨o,ho⟩:=B8 (l:=E7 g) (k:=j) (by omega)
   obtain⟨hov,hoc2⟩:=Lb hgoal o (List.mem_of_getElem? ho)
   have p1:=AA hov
   have p2:=CG (Γ:=Γ2) hoc2
   rw[H7 ho]at hsh;have hno:BE g o=(!(decide (o.Var=C5) && !I2 o.Const) && !(decide (o.Var=J9) && !E3 g) && !(decide (o.Var≠C5)&&decide (o.Var≠J9) && !V7 o.Var)):=rfl
   refine A7 ?_;refine B7 ?_;intro b8 w hw;refine A9 ?_;intro w hw;have hw:Wd Γ2 [.blk b8 (.cells (enc o).toArray 75),.blk b6 (.cells (cG ⟨g,A,N,C⟩).toArray 77),.blk b1 (.cells #[.slice sa sn sc,.slice ga gn gc] 25)] w:=hw
   have fin:BE g o=false→O1 q=false:=fun hf=>by rw[hall,hsh,hf];rfl
   refine A7 ?_;refine NV (hp:=p2) ?_
   intro w hw;refine A7 ?_;refine A0 rfl (fun h=>?_) (fun h=>?_)
   ·refine A7 ?_;refine G1 (congrArg Value.bool h) ?_
    have h:(decide (o.Var=C5) && !I2 o.Const)=true:=h
    refine A7 ?_;refine⟨_,rfl,Γ2,hle1.trans hle2,F9 rfl ?_,E8 hw⟩
    rw[fin (by rw[hno,h];rfl)];rfl
   have h1:(decide (o.Var=C5) && !I2 o.Const)=false:=h
   clear h;repeat first|refine A5 ?_|refine A6 ?_;intro w hw
   refine A0 rfl (fun h=>?_) (fun h=>?_)
   ·refine A7 ?_;refine G1 (congrArg Value.bool h) ?_
    have h:(decide (o.Var=J9) && !E3 g)=true:=h
    refine A7 ?_;refine⟨_,rfl,Γ2,hle1.trans hle2,F9 rfl ?_,E8 hw⟩
    rw[fin (by rw[hno,h,Bool.not_true,Bool.and_false];rfl)];rfl
   have h2:(decide (o.Var=J9) && !E3 g)=false:=h
   clear h;refine A7 ?_;refine A0 rfl (fun h=>?_) (fun h=>?_)
   ·have h:(decide (o.Var≠C5)&&decide (o.Var≠J9) && !V7 o.Var)=true:=h
    refine A7 ?_;refine⟨_,rfl,Γ2,hle1.trans hle2,F9 rfl ?_,E8 hw⟩
    rw[fin (by rw[hno,h,Bool.not_true,Bool.and_false])];rfl
   ·have h:(decide (o.Var≠C5)&&decide (o.Var≠J9) && !V7 o.Var)=false:=h
    have hf:BE g o=true:=by rw[hno,h1,h2,h];rfl
    rw[hf,Bool.true_and]at hsh;refine A7 ?_;exact⟨on-j-1,by omega,j+1,by omega,⟨rfl,rfl,rfl,rfl,rfl,rfl,rfl,rfl,trivial⟩,hsh,hw.drop⟩
  have hjn:on≤j:=by have:=of_decide_eq_false h;omega
  clear h;rw[E0 (E7 g) (by omega)]at hsh
  have hsh:Z5 g=true:=hsh
  rw[hsh,Bool.true_and]at hall;refine A7 ?_;exact⟨gn-k-1,by omega,Γ2,k+1,hle1.trans hle2,by omega,⟨rfl,rfl,rfl,rfl,trivial⟩,hall,hw.drop⟩
 have hkn:gn≤k:=by have:=of_decide_eq_false h;omega
 rw[E0 _ (by rw[hnl];omega)]at hall
 refine A7 ?_;refine⟨_,rfl,Γ1,hle1,F9 rfl ?_,E8 hw⟩
 rw[hall];rfl
def l6(g:F6):List ByteArray:=if g.Kind=1∨g.Kind=4 then (E7 g).map (·.Var) else []
def BQ(q:D8):List ByteArray:=(Az q).foldl addN [C5,J9]
theorem Ng{q:D8}:u1 q=(Ed q).all (P9 (BQ q)):=by
 rw[Bool.eq_iff_iff];unfold u1;rw[List.all_eq_true,List.all_eq_true];have key:∀s,P9 (BQ q) s=true↔s=C5∨s=J9∨s∈Az q:=fun s=>by
  rw[V1];unfold BQ;rw[Ch];simp[or_assoc]
 have hmem:∀s,s∈T5 q↔s∈Ed q∧s≠C5∧s≠J9:=fun s=>by
  unfold T5;rw[Ch];unfold El;simp[List.mem_filter]
 constructor
 ·intro h s hs;rw[key];by_cases h1:s=C5
  ·exact .inl h1
  by_cases h2:s=J9
  ·exact .inr (.inl h2)
  exact .inr (.inr (V1.1 (h s ((hmem s).2 ⟨hs,h1,h2⟩))))
 ·intro h s hs;obtain⟨h1,h2,h3⟩:=(hmem s).1 hs
  have:=(key s).1 (h s h1)
  exact V1.2 ((this.resolve_left h2).resolve_left h3)
def NT(q:D8)(g:F6):Bool:=(E7 g).all fun o=>P9 (BQ q) o.Var
theorem LL{q:D8}:u1 q=(q.Sel.all (P9 (BQ q))&&q.Goals.all (NT q)):=by
 rw[Ng];unfold Ed;rw[List.all_append,List.all_flatMap];congr 2
 funext g
 rw[List.all_map];rfl
def FM(q:D8):Int:=if ¬q.Sel.Nodup then 56 else if u1 q=false then 62 else 0
theorem DL{Γ:C4}{vs vg:Value}{gs:List E6}{q:D8}{N:Nat}(hq0:QR Γ vs vg gs q)(hok:l8 N q)(hN:N≤9223372036854775807:=by first|decide|assumption):PG Tryz.prog Γ 105 [.agg #[vs,vg]] (.int .i64 (FM q)):=N6 fun Γ w hle hw=>by
 have hq:=hq0.mono hle
 obtain⟨ga,gn,gc,rfl,hgn,hgnc,hgc⟩:=hq.goals.shape;obtain⟨sa,sn,sc,rfl,hsn,hsnc,hsc⟩:=hq.sel.shape;simp only[List.length_map]at hgn hsn
 have hgl:=hq.glen hok
 have hsl:=hok.sel
 have hnl:=hq.nlen
 have hrS:=hq.sel
 refine A4 Tryz.func105 rfl rfl ?_
 refine A7 ?_;refine J5 ?_;intro b1 w hw;have hw:Wd Γ [.blk b1 (.cells #[.slice sa sn sc,.slice ga gn gc] 25)] w:=hw
 refine A7 ?_;refine K0 rfl rfl (Ba (K:=9) (α:=ByteArray) (f:=Value.bool) hw fun bm w hw=>?_)
 have hw:Wd Γ [Ao bm [],.blk b1 (.cells #[.slice sa sn sc,.slice ga gn gc] 25)] w:=hw
 refine A7 ?_;refine K0 rfl rfl (Jj (d9 (f:=Value.bool) (v:=true) (i:=0) (l:=([]:List ByteArray).map fun s=>(s,true)) (a:=C5) hw rfl rfl rfl rfl fun w hw=>?_))
 rw[EL]at hw;have hw:Wd Γ [Ao bm [C5],.blk b1 (.cells #[.slice sa sn sc,.slice ga gn gc] 25)] w:=hw
 refine K0 rfl rfl (Jj (d9 (f:=Value.bool) (v:=true) (i:=0) (l:=[C5].map fun s=>(s,true)) (a:=J9) hw rfl rfl rfl rfl fun w hw=>?_))
 rw[EL]at hw;have hw:Wd Γ [Ao bm [C5,J9],.blk b1 (.cells #[.slice sa sn sc,.slice ga gn gc] 25)] w:=hw
 refine A7 ?_;refine C1 (fun μ ρ w=>∃(Γ':C4) (k:Nat),Γ.le Γ'∧μ+k=gn∧Has ρ [(1,.pointer (some ⟨b1,0,none⟩)),(3,.map (some bm)),(20,.slice ga gn gc),(21,.int .i64 gn),(22,.int .i64 k)]∧Wd Γ' [Ao bm (((q.Goals.take k).flatMap l6).foldl addN [C5,J9]),.blk b1 (.cells #[.slice sa sn sc,.slice ga gn gc] 25)] w) gn ⟨Γ,0,C4.le.refl _,by omega,⟨rfl,rfl,rfl,rfl,rfl,trivial⟩,hw⟩ ?_
 clear hw;rintro μ ρ w ⟨Γ1,k,hle1,hk,hρ,hw⟩
 rw[hρ.eq];clear hρ;have hq1:=hq.mono hle1
 have hrG1:=hq1.goals
 have hrS1:=hq1.sel
 refine A7 ?_;refine A0 rfl (fun h=>?_) (fun h=>?_)
 ·have hkn:k<gn:=by have:=of_decide_eq_true h;omega
  clear h;obtain⟨x,hx⟩:=B8 (l:=gs) (k:=k) (by omega)
  have hxm:=List.mem_of_getElem? hx
  have hgoal:=hq.goal hok hxm
  have hgok:=hq1.ok x hxm
  have hgx:=hq.get hx
  have hsu:=Aa (F:=l6) hgx
  obtain⟨l1,l2,l3⟩:=hgok.len;obtain⟨g,A,N,C⟩:=x;simp only at hgoal l1 l2 l3 hgx hsu
  have hal:=hgoal.len
  refine A7 ?_;refine B7 ?_;intro b5 w hw;refine A7 ?_;refine A9 ?_;intro w hw;have hw:Wd Γ1 [.blk b5 (.cells (cG ⟨g,A,N,C⟩).toArray 77),Ao bm (((q.Goals.take k).flatMap l6).foldl addN [C5,J9]),.blk b1 (.cells #[.slice sa sn sc,.slice ga gn gc] 25)] w:=hw
  refine A7 ?_;refine A0 rfl (fun h=>?_) (fun h=>?_)
  ·have hkd:g.Kind=1∨g.Kind=4:=by
    have h:(decide (g.Kind=1)||decide (g.Kind=4))=true:=h
    simpa using h
   clear h;have hb:l6 g=(E7 g).map (·.Var):=if_pos hkd
   refine A7 ?_;refine B9 (vs:=[.agg (cG ⟨g,A,N,C⟩).toArray]) ((X3 hgok hw).mono fun e w hq2=>?_)
   clear hw;obtain⟨Γ2,v,hle2,rfl,hrv,hw⟩:=hq2;obtain⟨oa,on,oc,rfl,hon,honc,hoc⟩:=hrv.shape;simp only[List.length_map]at hon
   have hol:=AM hgoal hN
   refine⟨_,rfl,?_⟩;refine A7 ?_;refine C1 (fun μ ρ w=>∃(j:Nat),μ+j=on∧Has ρ [(1,.pointer (some ⟨b1,0,none⟩)),(3,.map (some bm)),(20,.slice ga gn gc),(21,.int .i64 gn),(22,.int .i64 k),(35,.slice oa on oc),(36,.int .i64 on),(37,.int .i64 j)]∧Wd Γ2 [.blk b5 (.cells (cG ⟨g,A,N,C⟩).toArray 77),Ao bm (((q.Goals.take k).flatMap l6++((E7 g).take j).map (·.Var)).foldl addN [C5,J9]),.blk b1 (.cells #[.slice sa sn sc,.slice ga gn gc] 25)] w) on ⟨0,by omega,⟨rfl,rfl,rfl,rfl,rfl,rfl,rfl,rfl,trivial⟩,by rw[List.take_zero,List.map_nil,List.append_nil];exact hw⟩ ?_
   clear hw;rintro μ2 ρ w ⟨j,hj,hρ,hw⟩
   rw[hρ.eq];clear hρ;refine A7 ?_;refine A0 rfl (fun h=>?_) (fun h=>?_)
   ·have hjn:j<on:=by have:=of_decide_eq_true h;omega
    clear h;obtain⟨o,ho⟩:=B8 (l:=E7 g) (k:=j) (by omega)
    refine A7 ?_;refine B7 ?_;intro b7 w hw;refine A9 ?_;intro w hw;have hw:Wd Γ2 [.blk b7 (.cells (enc o).toArray 75),.blk b5 (.cells (cG ⟨g,A,N,C⟩).toArray 77),Ao bm (((q.Goals.take k).flatMap l6++((E7 g).take j).map (·.Var)).foldl addN [C5,J9]),.blk b1 (.cells #[.slice sa sn sc,.slice ga gn gc] 25)] w:=hw
    refine A7 ?_;refine K0 rfl rfl (d9 (f:=Value.bool) (v:=true) (i:=2) (l:=(((q.Goals.take k).flatMap l6++((E7 g).take j).map (·.Var)).foldl addN [C5,J9]).map fun s=>(s,true)) hw rfl rfl rfl rfl fun w hw=>?_)
    rw[EL]at hw;have hw:Wd Γ2 [.blk b7 (.cells (enc o).toArray 75),.blk b5 (.cells (cG ⟨g,A,N,C⟩).toArray 77),Ao bm (((q.Goals.take k).flatMap l6++((E7 g).take (j+1)).map (·.Var)).foldl addN [C5,J9]),.blk b1 (.cells #[.slice sa sn sc,.slice ga gn gc] 25)] w:=by
     rw[List.take_add_one,ho,List.map_append,←List.append_assoc,List.foldl_append (l:=(q.Goals.take k).flatMap l6++((E7 g).take j).map (·.Var))];exact hw
    refine A7 ?_;exact⟨on-j-1,by omega,j+1,by omega,⟨rfl,rfl,rfl,rfl,rfl,rfl,rfl,rfl,trivial⟩,hw.drop⟩
   have hjn:on≤j:=by have:=of_decide_eq_false h;omega
   clear h;have ho2:(E7 g).take j=E7 g:=List.take_of_length_le (by omega)
   rw[ho2,←hb,←hsu]at hw;refine A7 ?_;exact⟨gn-k-1,by omega,Γ2,k+1,hle1.trans hle2,by omega,⟨rfl,rfl,rfl,rfl,rfl,trivial⟩,hw.drop⟩
  have hkd:¬(g.Kind=1∨g.Kind=4):=by
   have h:(decide (g.Kind=1)||decide (g.Kind=4))=false:=h
   simpa using h
  clear h;have hb:l6 g=[]:=if_neg hkd
  rw[hb,List.append_nil]at hsu;rw[←hsu]at hw;refine A7 ?_;exact⟨gn-k-1,by omega,Γ1,k+1,hle1,by omega,⟨rfl,rfl,rfl,rfl,rfl,trivial⟩,hw.drop⟩
 have hkn:gn≤k:=by have:=of_decide_eq_false h;omega
 clear h;rw[List.take_of_length_le (by omega)]at hw
 have hw:Wd Γ1 [Ao bm (BQ q),.blk b1 (.cells #[.slice sa sn sc,.slice ga gn gc] 25)] w:=hw
 clear hkn hk;refine A7 ?_;refine K0 rfl rfl (Ba (K:=9) (α:=ByteArray) (f:=Value.bool) hw fun bm2 w hw=>?_)
 have hw:Wd Γ1 [Ao bm2 [],Ao bm (BQ q),.blk b1 (.cells #[.slice sa sn sc,.slice ga gn gc] 25)] w:=hw
 refine A7 ?_;refine C1 (fun μ ρ w=>∃(k:Nat),μ+k=sn∧Has ρ [(1,.pointer (some ⟨b1,0,none⟩)),(3,.map (some bm)),(8,.map (some bm2)),(48,.slice sa sn sc),(49,.int .i64 sn),(50,.int .i64 k)]∧(q.Sel.take k).Nodup∧Wd Γ1 [Ao bm2 ((q.Sel.take k).foldl addN []),Ao bm (BQ q),.blk b1 (.cells #[.slice sa sn sc,.slice ga gn gc] 25)] w) sn ⟨0,by omega,⟨rfl,rfl,rfl,rfl,rfl,rfl,trivial⟩,List.nodup_nil,hw⟩ ?_
 clear hw;rintro μ ρ w ⟨k,hk,hρ,hnd,hw⟩
 rw[hρ.eq];clear hρ;refine A7 ?_;refine A0 rfl (fun h=>?_) (fun h=>?_)
 ·have hkn:k<sn:=by have:=of_decide_eq_true h;omega
  clear h;obtain⟨s,hs⟩:=B8 (l:=q.Sel) (k:=k) (by omega)
  have hmem:P9 ((q.Sel.take k).foldl addN []) s=true↔s∈q.Sel.take k:=by
   rw[V1,Ch];simp
  refine A7 ?_;refine A0 rfl (fun h=>?_) (fun h=>?_)
  ·have h:((I3 (((q.Sel.take k).foldl addN []).map fun s=>(s,true)) s).getD default)=true:=h
   rw[EC,hmem]at h;have hf:¬q.Sel.Nodup:=fun hn=>by
    obtain⟨i,hi⟩:=List.getElem?_of_mem h
    have hik:i<k:=by have:=(List.getElem?_eq_some_iff.1 hi).1;rw[List.length_take]at this;omega
    rw[List.getElem?_take,if_pos hik]at hi;have:=(List.getElem?_inj (by omega) hn).1 (hi.trans hs.symm)
    omega
   refine A7 ?_;refine⟨_,rfl,Γ1,hle1,F9 rfl ?_,E8 hw⟩
   unfold FM;rw[if_pos hf]
  ·have h:((I3 (((q.Sel.take k).foldl addN []).map fun s=>(s,true)) s).getD default)=false:=h
   rw[EC]at h;have hnm:s∉q.Sel.take k:=fun hm=>by rw[hmem.2 hm]at h;cases h
   refine A7 ?_;refine K0 rfl rfl (d9 (f:=Value.bool) (v:=true) (i:=0) (l:=((q.Sel.take k).foldl addN []).map fun s=>(s,true)) hw rfl rfl rfl rfl fun w hw=>?_)
   rw[EL]at hw;have hw:Wd Γ1 [Ao bm2 ((q.Sel.take (k+1)).foldl addN []),Ao bm (BQ q),.blk b1 (.cells #[.slice sa sn sc,.slice ga gn gc] 25)] w:=by
    rw[List.take_add_one,hs,List.foldl_append];exact hw
   refine A7 ?_;refine⟨sn-k-1,by omega,k+1,by omega,⟨rfl,rfl,rfl,rfl,rfl,rfl,trivial⟩,?_,hw⟩
   rw[List.take_add_one,hs,List.nodup_append];exact⟨hnd,by simp,fun a ha b hb e=>by
    have hb:b=s:=by simpa using hb
    exact hnm (by rw[←hb,←e];exact ha)⟩
 have hkn:sn≤k:=by have:=of_decide_eq_false h;omega
 clear h;rw[List.take_of_length_le (by omega)]at hnd
 have hv:FM q=if u1 q=false then 62 else 0:=by
  unfold FM;rw[if_neg (fun h=>h hnd)]
 rw[LL]at hv;clear hkn hk;refine A7 ?_;obtain⟨KK,hKK⟩:∃KK,KK=(q.Sel.take k).foldl addN []:=⟨_,rfl⟩
 rw[←hKK]at hw;clear hKK;refine C1 (fun μ ρ w=>∃(k:Nat),μ+k=sn∧Has ρ [(1,.pointer (some ⟨b1,0,none⟩)),(3,.map (some bm)),(61,.slice sa sn sc),(62,.int .i64 sn),(63,.int .i64 k)]∧q.Sel.all (P9 (BQ q))=(q.Sel.drop k).all (P9 (BQ q))∧Wd Γ1 [Ao bm2 KK,Ao bm (BQ q),.blk b1 (.cells #[.slice sa sn sc,.slice ga gn gc] 25)] w) sn ⟨0,by omega,⟨rfl,rfl,rfl,rfl,rfl,trivial⟩,rfl,hw⟩ ?_
 clear hw;rintro μ ρ w ⟨k,hk,hρ,hall,hw⟩
 rw[hρ.eq];clear hρ;refine A7 ?_;refine A0 rfl (fun h=>?_) (fun h=>?_)
 ·have hkn:k<sn:=by have:=of_decide_eq_true h;omega
  clear h;obtain⟨s,hs⟩:=B8 (l:=q.Sel) (k:=k) (by omega)
  rw[H7 hs]at hall;refine A7 ?_;refine A0 rfl (fun h=>?_) (fun h=>?_)
  ·have h:(!((I3 ((BQ q).map fun s=>(s,true)) s).getD default))=true:=h
   rw[EC]at h;have hf:P9 (BQ q) s=false:=by simpa using h
   refine A7 ?_;refine⟨_,rfl,Γ1,hle1,F9 rfl ?_,E8 hw⟩
   rw[hv,hall,hf];rfl
  ·have h:(!((I3 ((BQ q).map fun s=>(s,true)) s).getD default))=false:=h
   rw[EC]at h;have hf:P9 (BQ q) s=true:=by simpa using h
   rw[hf,Bool.true_and]at hall;refine A7 ?_;exact⟨sn-k-1,by omega,k+1,by omega,⟨rfl,rfl,rfl,rfl,rfl,trivial⟩,hall,hw⟩
 have hkn:sn≤k:=by have:=of_decide_eq_false h;omega
 clear h;rw[E0 q.Sel (by omega)]at hall
 have hv:FM q=if q.Goals.all (NT q)=false then 62 else 0:=by
  rw[hv,hall];rfl
 clear hkn hk hall;refine A7 ?_;refine C1 (fun μ ρ w=>∃(Γ':C4) (k:Nat),Γ1.le Γ'∧μ+k=gn∧Has ρ [(1,.pointer (some ⟨b1,0,none⟩)),(3,.map (some bm)),(73,.slice ga gn gc),(74,.int .i64 gn),(75,.int .i64 k)]∧q.Goals.all (NT q)=(q.Goals.drop k).all (NT q)∧Wd Γ' [Ao bm2 KK,Ao bm (BQ q),.blk b1 (.cells #[.slice sa sn sc,.slice ga gn gc] 25)] w) gn ⟨Γ1,0,C4.le.refl _,by omega,⟨rfl,rfl,rfl,rfl,rfl,trivial⟩,rfl,hw⟩ ?_
 clear hw;rintro μ ρ w ⟨Γ2,k,hle2,hk,hρ,hall,hw⟩
 rw[hρ.eq];clear hρ;have hq2:=hq1.mono hle2
 have hrG2:=hq2.goals
 refine A7 ?_;refine A0 rfl (fun h=>?_) (fun h=>?_)
 ·have hkn:k<gn:=by have:=of_decide_eq_true h;omega
  clear h;obtain⟨x,hx⟩:=B8 (l:=gs) (k:=k) (by omega)
  have hxm:=List.mem_of_getElem? hx
  have hgoal:=hq.goal hok hxm
  have hgok:=hq2.ok x hxm
  have hgx:=hq.get hx
  rw[H7 hgx]at hall;obtain⟨l1,l2,l3⟩:=hgok.len;obtain⟨g,A,N,C⟩:=x;simp only at hgoal l1 l2 l3 hgx hall
  have hal:=hgoal.len
  refine A7 ?_;refine B7 ?_;intro b14 w hw;refine A7 ?_;refine A9 ?_;intro w hw;have hw:Wd Γ2 (.blk b14 (.cells (cG ⟨g,A,N,C⟩).toArray 77)::[Ao bm2 KK,Ao bm (BQ q),.blk b1 (.cells #[.slice sa sn sc,.slice ga gn gc] 25)]) w:=hw
  refine A7 ?_;refine B9 (vs:=[.agg (cG ⟨g,A,N,C⟩).toArray]) ((X3 hgok hw).mono fun e w hq3=>?_)
  clear hw;obtain⟨Γ3,v,hle3,rfl,hrv,hw⟩:=hq3;obtain⟨oa,on,oc,rfl,hon,honc,hoc⟩:=hrv.shape;simp only[List.length_map]at hon
  have hol:=AM hgoal hN
  refine⟨_,rfl,?_⟩;refine A7 ?_;refine C1 (fun μ ρ w=>∃(j:Nat),μ+j=on∧Has ρ [(1,.pointer (some ⟨b1,0,none⟩)),(3,.map (some bm)),(73,.slice ga gn gc),(74,.int .i64 gn),(75,.int .i64 k),(80,.slice oa on oc),(81,.int .i64 on),(82,.int .i64 j)]∧NT q g=(((E7 g).drop j).all fun o=>P9 (BQ q) o.Var)∧Wd Γ3 (.blk b14 (.cells (cG ⟨g,A,N,C⟩).toArray 77)::[Ao bm2 KK,Ao bm (BQ q),.blk b1 (.cells #[.slice sa sn sc,.slice ga gn gc] 25)]) w) on ⟨0,by omega,⟨rfl,rfl,rfl,rfl,rfl,rfl,rfl,rfl,trivial⟩,rfl,hw⟩ ?_
  clear hw;rintro μ2 ρ w ⟨j,hj,hρ,hsh,hw⟩
  rw[hρ.eq];clear hρ;refine A7 ?_;refine A0 rfl (fun h=>?_) (fun h=>?_)
  ·have hjn:j<on:=by have:=of_decide_eq_true h;omega
   clear h;obtain⟨o,ho⟩:=B8 (l:=E7 g) (k:=j) (by omega)
   rw[H7 ho]at hsh;refine A7 ?_;refine B7 ?_;intro b16 w hw;refine A9 ?_;intro w hw;have hw:Wd Γ3 (.blk b16 (.cells (enc o).toArray 75)::.blk b14 (.cells (cG ⟨g,A,N,C⟩).toArray 77)::[Ao bm2 KK,Ao bm (BQ q),.blk b1 (.cells #[.slice sa sn sc,.slice ga gn gc] 25)]) w:=hw
   refine A7 ?_;refine A0 rfl (fun h=>?_) (fun h=>?_)
   ·have h:(!((I3 ((BQ q).map fun s=>(s,true)) o.Var).getD default))=true:=h
    rw[EC]at h;have hf:P9 (BQ q) o.Var=false:=by simpa using h
    refine A7 ?_;refine⟨_,rfl,Γ3,hle1.trans (hle2.trans hle3),F9 rfl ?_,E8 hw⟩
    rw[hv,hall,hsh,hf];rfl
   ·have h:(!((I3 ((BQ q).map fun s=>(s,true)) o.Var).getD default))=false:=h
    rw[EC]at h;have hf:P9 (BQ q) o.Var=true:=by simpa using h
    rw[hf,Bool.true_and]at hsh;refine A7 ?_;exact⟨on-j-1,by omega,j+1,by omega,⟨rfl,rfl,rfl,rfl,rfl,rfl,rfl,rfl,trivial⟩,hsh,hw.drop⟩
  have hjn:on≤j:=by have:=of_decide_eq_false h;omega
  clear h;rw[E0 (E7 g) (by omega)]at hsh
  have hsh:NT q g=true:=hsh
  rw[hsh,Bool.true_and]at hall;refine A7 ?_;exact⟨gn-k-1,by omega,Γ3,k+1,hle2.trans hle3,by omega,⟨rfl,rfl,rfl,rfl,rfl,trivial⟩,hall,hw.drop⟩
 have hkn:gn≤k:=by have:=of_decide_eq_false h;omega
 rw[E0 _ (by rw[hnl];omega)]at hall
 refine A7 ?_;refine⟨_,rfl,Γ2,hle1.trans hle2,F9 rfl ?_,E8 hw⟩
 rw[hv,hall];rfl
def l9:List (Nat×Int)→Int
 | []=>0
 | p::r=>if p.2≠0 then p.2 else l9 r
def NS(q:D8):List (Nat×Int):=[(101,if Z7 q=true then 0 else 15),(102,if S7 q=true then 0 else 50),(103,if O1 q=true then 0 else 63),(104,if Ap q=true then 0 else 6),(105,FM q)]
theorem Kt{q:D8}:T8 q=l9 (NS q):=by
 unfold T8 NS l9 l9 l9 l9 l9 l9 FM;cases Z7 q <;> cases S7 q <;> cases O1 q <;> cases Ap q <;> simp
theorem Ck{Γ:C4}{vs vg:Value}{gs:List E6}{q:D8}{N:Nat}(hq0:QR Γ vs vg gs q)(hok:l8 N q)(hN:N≤9223372036854775807:=by first|decide|assumption):PG Tryz.prog Γ 44 [.agg #[vs,vg]] (.int .i64 (T8 q)):=N6 fun Γ w hle hw=>by
 have hq:=hq0.mono hle
 obtain⟨ga,gn,gc,rfl,-,-,-⟩:=hq.goals.shape;obtain⟨sa,sn,sc,rfl,-,-,-⟩:=hq.sel.shape;have p1:=FF hq hok
 have p2:=GW hq hok
 have p3:=Gb hq hok
 have p4:=Ej hq hok
 have p5:=DL hq hok
 have hcl:∀(k:Nat) (p:Nat×Int),(NS q)[k]? = some p→C3 Tryz.prog p.1∧PG Tryz.prog Γ p.1 [.agg #[.slice sa sn sc,.slice ga gn gc]] (.int .i64 p.2):=by
  intro k p hp;match k,hp with
  | 0,hp=>cases hp;exact⟨inferInstance,p1⟩
  | 1,hp=>cases hp;exact⟨inferInstance,p2⟩
  | 2,hp=>cases hp;exact⟨inferInstance,p3⟩
  | 3,hp=>cases hp;exact⟨inferInstance,p4⟩
  | 4,hp=>cases hp;exact⟨inferInstance,p5⟩
 have hlen:(NS q).length=5:=rfl
 rw[Kt];refine A4 Tryz.func44 rfl rfl ?_
 refine A7 ?_;refine J5 ?_;intro b1 w hw;have hw:Wd Γ [.blk b1 (.cells #[.slice sa sn sc,.slice ga gn gc] 25)] w:=hw
 refine A7 ?_;refine E4 ((NS q).map fun p=>[.func (.func p.1) #[] #[]]) ?_
 intro q1 w hw;obtain⟨CK,hCK⟩:∃CK,CK=NS q:=⟨_,rfl⟩
 rw[←hCK]at hcl hlen hw ⊢
 clear hCK;have hw:Wd Γ [.own (.slice (some q1) 5 5) 108 1 (CK.map fun p=>[.func (.func p.1) #[] #[]]),.blk b1 (.cells #[.slice sa sn sc,.slice ga gn gc] 25)] w:=hw
 refine A7 ?_;refine C1 (fun μ ρ w=>∃(k:Nat),μ+k=5∧Has ρ [(1,.pointer (some ⟨b1,0,none⟩)),(8,.slice (some q1) 5 5),(9,.int .i64 5),(10,.int .i64 k)]∧l9 CK=l9 (CK.drop k)∧Wd Γ [.own (.slice (some q1) 5 5) 108 1 (CK.map fun p=>[.func (.func p.1) #[] #[]]),.blk b1 (.cells #[.slice sa sn sc,.slice ga gn gc] 25)] w) 5 ⟨0,by omega,⟨rfl,rfl,rfl,rfl,trivial⟩,rfl,hw⟩ ?_
 clear hw;rintro μ ρ w ⟨k,hk,hρ,hf,hw⟩
 rw[hρ.eq];clear hρ;refine A7 ?_;refine A0 rfl (fun h=>?_) (fun h=>?_)
 ·have hk5:k<5:=by have:=of_decide_eq_true h;omega
  clear h;obtain⟨p,hp⟩:=B8 (l:=CK) (k:=k) (by omega)
  obtain⟨hfn,hpg⟩:=hcl k p hp
  rw[M8 hp]at hf;refine A7 ?_;refine Dp (fst:=[]) (cap:=[]) (vs:=[.agg #[.slice sa sn sc,.slice ga gn gc]]) ?_
  refine(hpg.h _ _ hw).mono ?_
  clear hw;rintro e w ⟨rfl,hw⟩
  refine⟨_,rfl,?_⟩;refine A7 ?_;refine A0 rfl (fun h=>?_) (fun h=>?_)
  ·have h:p.2≠0:=of_decide_eq_true h
   refine A7 ?_;refine⟨_,rfl,Γ,C4.le.refl _,F9 rfl ?_,E8 hw⟩
   rw[hf,l9,if_pos h]
  ·have h:¬p.2≠0:=of_decide_eq_false h
   rw[l9,if_neg h]at hf;refine A7 ?_;exact⟨μ-1,by omega,k+1,by omega,⟨rfl,rfl,rfl,rfl,trivial⟩,hf,hw⟩
 have hk5:5≤k:=by have:=of_decide_eq_false h;omega
 rw[E0 CK (by omega)]at hf
 refine A7 ?_;exact⟨_,rfl,Γ,C4.le.refl _,F9 rfl hf.symm,E8 hw⟩
end Go.Proofs.YtlmiakjbogojgaaGreatDoor
end
section
open Go Mk
namespace Go.Proofs.YtlmiakjbogojgaaGreatDoor
def Jb:Go.Shelf.Ren:=⟨fun|6=>80|15=>133|14=>151|28=>201|29=>202|20=>229|21=>230|22=>231|23=>232|24=>233|25=>234|26=>235|27=>236|46=>283|47=>267|48=>268|49=>284|50=>285|57=>301|n=>n,fun|22=>67|24=>70|25=>165|3=>3|39=>129|0=>0|53=>260|55=>56|4=>4|46=>253|45=>252|50=>257|5=>5|9=>9|66=>306|70=>310|76=>330|77=>213|n=>n,fun|n=>n⟩
theorem Qr:Go.Proofs.SlLaysF.n6 Tryz.prog Jb:={
 mixed:=by kernel_rfl
 f6:=⟨Tryz.f80.name,by decide,Tryz.func80.trans (congrArg some (by kernel_rfl))⟩
 f14:=⟨Tryz.f151.name,by decide,Tryz.func151.trans (congrArg some (by kernel_rfl))⟩
 f15:=Tryz.func133.trans (congrArg some (by kernel_rfl))
 f20:=⟨Tryz.f229.name,by decide,Tryz.func229.trans (congrArg some (by kernel_rfl))⟩
 f21:=⟨Tryz.f230.name,by decide,Tryz.func230.trans (congrArg some (by kernel_rfl))⟩
 f22:=⟨Tryz.f231.name,by decide,Tryz.func231.trans (congrArg some (by kernel_rfl))⟩
 f23:=⟨Tryz.f232.name,by decide,Tryz.func232.trans (congrArg some (by kernel_rfl))⟩
 f24:=⟨Tryz.f233.name,by decide,Tryz.func233.trans (congrArg some (by kernel_rfl))⟩
 f25:=⟨Tryz.f234.name,by decide,Tryz.func234.trans (congrArg some (by kernel_rfl))⟩
 f26:=⟨Tryz.f235.name,by decide,Tryz.func235.trans (congrArg some (by kernel_rfl))⟩
 f27:=⟨Tryz.f236.name,by decide,Tryz.func236.trans (congrArg some (by kernel_rfl))⟩
 f28:=Tryz.func201.trans (congrArg some (by kernel_rfl))
 f29:=Tryz.func202.trans (congrArg some (by kernel_rfl))
 f46:=⟨Tryz.f283.name,by decide,Tryz.func283.trans (congrArg some (by kernel_rfl))⟩
 f47:=Tryz.func267.trans (congrArg some (by kernel_rfl))
 f48:=Tryz.func268.trans (congrArg some (by kernel_rfl))
 f49:=⟨Tryz.f284.name,by decide,Tryz.func284.trans (congrArg some (by kernel_rfl))⟩
 f50:=⟨Tryz.f285.name,by decide,Tryz.func285.trans (congrArg some (by kernel_rfl))⟩
 f57:=⟨Tryz.f301.name,by decide,Tryz.func301.trans (congrArg some (by kernel_rfl))⟩
 t0:=Tryz.underlying0
 a0:=Tryz.isAgg0
 z0:=Tryz.sizeOf0
 v0:=Tryz.zeroValue0
 t3:=Tryz.underlying3
 a3:=Tryz.isAgg3
 z3:=Tryz.sizeOf3
 v3:=Tryz.zeroValue3
 t4:=Tryz.underlying4
 a4:=Tryz.isAgg4
 z4:=Tryz.sizeOf4
 v4:=Tryz.zeroValue4
 t5:=Tryz.underlying5
 a5:=Tryz.isAgg5
 z5:=Tryz.sizeOf5
 v5:=Tryz.zeroValue5
 t9:=Tryz.underlying9
 a9:=Tryz.isAgg9
 z9:=Tryz.sizeOf9
 v9:=Tryz.zeroValue9
 t22:=Tryz.underlying67
 a22:=Tryz.isAgg67
 z22:=Tryz.sizeOf67
 v22:=Tryz.zeroValue67
 a24:=Tryz.isAgg70
 z24:=Tryz.sizeOf70
 t25:=Tryz.underlying165
 a25:=Tryz.isAgg165
 z25:=Tryz.sizeOf165
 v25:=Tryz.zeroValue165
 t39:=Tryz.underlying129
 a39:=Tryz.isAgg129
 z39:=Tryz.sizeOf129
 v39:=Tryz.zeroValue129
 t45:=Tryz.underlying252
 a45:=Tryz.isAgg252
 z45:=Tryz.sizeOf252
 v45:=Tryz.zeroValue252
 t46:=Tryz.underlying253
 a46:=Tryz.isAgg253
 z46:=Tryz.sizeOf253
 v46:=Tryz.zeroValue253
 t50:=Tryz.underlying257
 a50:=Tryz.isAgg257
 z50:=Tryz.sizeOf257
 v50:=Tryz.zeroValue257
 t53:=Tryz.underlying260
 a53:=Tryz.isAgg260
 z53:=Tryz.sizeOf260
 v53:=Tryz.zeroValue260
 t55:=Tryz.underlying56
 a55:=Tryz.isAgg56
 z55:=Tryz.sizeOf56
 v55:=Tryz.zeroValue56
 t66:=Tryz.underlying306
 a66:=Tryz.isAgg306
 z66:=Tryz.sizeOf306
 v66:=Tryz.zeroValue306
 t70:=Tryz.underlying310
 a70:=Tryz.isAgg310
 z70:=Tryz.sizeOf310
 v70:=Tryz.zeroValue310
 t76:=Tryz.underlying330
 a76:=Tryz.isAgg330
 z76:=Tryz.sizeOf330
 v76:=Tryz.zeroValue330
 t77:=Tryz.underlying213
 a77:=Tryz.isAgg213
 z77:=Tryz.sizeOf213
 v77:=Tryz.zeroValue213 }
end Go.Proofs.YtlmiakjbogojgaaGreatDoor
end
section
open Go Mk
namespace Go.Proofs.YtlmiakjbogojgaaGreatDoor
set_option maxHeartbeats 16000000
attribute [local irreducible] Calls cI cB
abbrev BA:=Value×List Val
def cR(p:BA):List Value:=[p.1]
def KB(Γ:C4)(p:BA):Prop:=D6 Γ p.1 3 (p.2.map enc)
def Nw(x y:BA):Bool:=decide (cL cV x.2 y.2=0)
theorem KB.one{Γ:C4}{p:BA}(h:KB Γ p):p.1.oneCell'=true:=by
 obtain⟨a,n,c,h1,-⟩:=D6.shape h
 rw[h1];rfl
theorem IB{Γ:C4}{S:List B5}{w:World}{v:Value}(fs:List BA)(hok:∀f∈fs,KB Γ f)(hl:fs.length≤1000000)(hw:Wd Γ (.own v 70 1 (fs.map cR)::S) w) :
  Calls Tryz.prog 83 #[v,.func (.func 82) #[] #[]] w fun e w'=>∃v',e=.returned v'∧Wd Γ (.own v' 70 1 ((Z2 Nw fs).map cR)::S) w':=by
 obtain⟨a,n,c,rfl,hn,hnc,hc⟩:=hw.own_shape (i:=0) rfl
 simp only[List.length_map]at hn
 refine A4 Tryz.func83 rfl rfl ?_
 refine A7 ?_;refine A0 rfl (fun h=>?_) (fun h=>?_)
 ·have h:n<2:=by have:=of_decide_eq_true h;omega
  refine A7 ?_;have hE:Z2 Nw fs=fs:=by
   cases fs with
   | nil=>rfl
   | cons x fs=>
    cases fs with
    | nil=>rfl
    | cons y fs=>simp at hn;omega
  rw[hE];exact⟨_,rfl,_,rfl,hw⟩
 have h:2≤n:=by have:=of_decide_eq_false h;omega
 refine A7 ?_;refine C1 (fun μ ρ w=>∃(k:Nat),μ+k=n∧1≤k∧Has ρ [(0,.slice a n c),(1,.func (.func 82) #[] #[]),(5,.int .i64 k)]∧Z2 Nw (fs.take k)=fs.take k∧Wd Γ (.own (.slice a n c) 70 1 (fs.map cR)::S) w) (n-1) ⟨1,by omega,by omega,⟨rfl,rfl,rfl,trivial⟩,?_,hw⟩ ?_
 ·cases fs with
  | nil=>rfl
  | cons x fs=>rfl
 clear hw;rintro μ ρ w ⟨k,hk,hk1,hρ,ho,hw⟩
 rw[hρ.eq];refine A7 ?_;refine A0 rfl (fun h=>?_) (fun h=>?_)
 ·have hkn:k<n:=by have:=of_decide_eq_true h;omega
  obtain⟨y,hy⟩:=B8 (l:=fs) (k:=k) (by omega)
  obtain⟨x,hx0⟩:=B8 (l:=fs) (k:=k-1) (by omega)
  have hx:fs[((k:Int)-1).toNat]? = some x:=by rw[show ((k:Int)-1).toNat=k-1 from by omega];exact hx0
  have hfy:=hok y (List.mem_of_getElem? hy)
  have hfx:=hok x (List.mem_of_getElem? hx0)
  have hsucc:=Af (p:=Nw) (by omega) hy hx0
  refine A7 ?_;refine H0 (by kernel_rfl) (by kernel_rfl) hw ?_
  iterate 10 (first|refine P2 ?_|(apply D1;first|(apply F4;first|refine qP ?_|refine CO ?_)|refine qY ?_)|(apply B4;first|(apply F4;first|refine Dj ?_|refine Z0 ?_)|refine qG ?_))
  refine Rs (v:=.bool (Nw y x)) (cap:=[]) (vs:=[y.1,x.1]) (fun Y w hw=>?_) ?_
  ·exact(Fq hfy hfx).h _ _ hw
  refine Bt ?_;intro w hw;refine A0 rfl (fun h2=>?_) (fun h2=>?_)
  ·rw[if_pos h2]at hsucc;refine A7 ?_;refine C1 (fun μ ρ w=>∃(m q:Nat) (cur:List BA),μ+(k+m)=n∧1≤m∧1≤q∧q<k+m∧Has ρ [(0,.slice a n c),(1,.func (.func 82) #[] #[]),(5,.int .i64 q),(6,.slice (AK a k c 1) (n-k) (c-k)),(7,.int .i64 m)]∧cur.length=n∧cur.take q=Z2 Nw (fs.take (k+m))∧(∀i,k+m-1≤i→cur[i]? = fs[i]?)∧Wd Γ (.own (.slice a n c) 70 1 (cur.map cR)::S) w) (n-(k+1)) ⟨1,k,fs,by omega,by omega,by omega,by omega,⟨rfl,rfl,rfl,rfl,rfl,trivial⟩,hn.symm,by rw[hsucc,ho],fun i _=>rfl,hw⟩ ?_
   clear hw hρ hsucc;rintro μ2 ρ w ⟨m,q,cur,hm,hm1,hq1,hq2,hρ,hcl,hcur,hsame,hw⟩
   rw[hρ.eq];refine A7 ?_;refine A0 rfl (fun h3=>?_) (fun h3=>?_)
   ·have hmn:k+m<n:=by have:=of_decide_eq_true h3;omega
    obtain⟨y2,hy2⟩:=B8 (l:=fs) (k:=k+m) (by omega)
    obtain⟨x2,hx2⟩:=B8 (l:=fs) (k:=k+m-1) (by omega)
    have hcy:(cur.drop k)[m]? = some y2:=by rw[List.getElem?_drop,hsame _ (by omega)];exact hy2
    have hcx:(cur.drop k)[((m:Int)-1).toNat]? = some x2:=by
     rw[List.getElem?_drop,hsame _ (by omega),show k+((m:Int)-1).toNat=k+m-1 from by omega];exact hx2
    have hfy2:=hok y2 (List.mem_of_getElem? hy2)
    have hfx2:=hok x2 (List.mem_of_getElem? hx2)
    have hsucc:=Af (p:=Nw) (by omega) hy2 hx2
    have hlen:n-k=((cur.drop k).map cR).length:=by simp[hcl]
    have hR2:R8 Γ (.own (.slice a n c) 70 1 (cur.map cR)::S) (.slice (AK a k c 1) (n-k) (c-k)) 1 ((cur.drop k).map cR):=⟨_,_,_,rfl,hlen,by omega,by omega,fun w hw=>by
     have:=(Wd.own_rd (i:=0) hw rfl).cut (c:=c) (by simp;omega) k (by simp;omega)
     rwa [←List.map_drop]at this⟩
    refine A7 ?_;refine H0 (by kernel_rfl) (by kernel_rfl) hw ?_
    iterate 10 (first|refine P2 ?_|(apply D1;first|(apply F4;first|refine qP ?_|refine CO ?_)|refine qY ?_)|(apply B4;first|(apply F4;first|refine Dj ?_|refine Z0 ?_)|refine qG ?_))
    refine Rs (v:=.bool (Nw y2 x2)) (cap:=[]) (vs:=[y2.1,x2.1]) (fun Y w hw=>?_) ?_
    ·exact(Fq hfy2 hfx2).h _ _ hw
    refine Bt ?_;intro w hw;refine A0 rfl (fun h4=>?_) (fun h4=>?_)
    ·have h4:Nw y2 x2=false:=by simpa using h4
     rw[if_neg (by rw[h4];decide)]at hsucc
     refine A7 ?_;have hcells:y2.1.cells.toList=[y2.1]:=by
      obtain⟨ya,yn,yc,hys,-⟩:=D6.shape hfy2
      rw[hys];rfl
     refine Cw (k:=q) (r:=[y2.1]) ?_ (hv:=hcells) (hl:=rfl) (h1:=by rw[List.all_cons,KB.one hfy2];rfl)
     intro w hw;have hw:Wd Γ (.own (.slice a n c) 70 1 ((cur.map cR).set q (cR y2))::S) w:=hw
     rw[←List.map_set]at hw;refine A7 ?_;refine⟨n-(k+(m+1)),by omega,m+1,q+1,cur.set q y2,by omega,by omega,by omega,by omega,⟨rfl,rfl,rfl,rfl,rfl,trivial⟩,by rw[List.length_set];exact hcl,?_,fun i hi=>?_,hw⟩
     ·rw[show k+(m+1)=k+m+1 from rfl,hsucc,←hcur,List.take_add_one,List.take_set_of_le (by omega),List.getElem?_set_self (by omega)];rfl
     ·rw[List.getElem?_set_ne (by omega)];exact hsame i (by omega)
    ·have h4:Nw y2 x2=true:=by simpa using h4
     rw[if_pos h4]at hsucc;refine A7 ?_;exact⟨n-(k+(m+1)),by omega,m+1,q,cur,by omega,by omega,by omega,by omega,⟨rfl,rfl,rfl,rfl,rfl,trivial⟩,hcl,by rw[show k+(m+1)=k+m+1 from rfl,hsucc];exact hcur,fun i hi=>hsame i (by omega),hw⟩
   ·have hmn:k+m=n:=by have:=of_decide_eq_false h3;omega
    have hfn:fs.take n=fs:=List.take_of_length_le (by omega)
    rw[hmn,hfn]at hcur;have hqn:q≤n:=by omega
    have hw:=Wd.own_take (i:=0) (m:=q) hw rfl hqn
    rw[←List.map_take,hcur]at hw;have hw:Wd Γ (.own (.slice a q c) 70 1 ((Z2 Nw fs).map cR)::S) w:=hw
    refine A7 ?_;refine QW ?_;intro w hw;refine A7 ?_;exact⟨_,rfl,_,rfl,hw⟩
  ·rw[if_neg (by rw[h2];decide)]at hsucc
   refine A7 ?_;refine⟨μ-1,by omega,k+1,by omega,by omega,⟨rfl,rfl,rfl,trivial⟩,?_,hw⟩
   rw[hsucc,ho,List.take_add_one,hy];rfl
 ·have hkn:¬k<n:=by have:=of_decide_eq_false h;omega
  rw[List.take_of_length_le (by omega)]at ho
  refine A7 ?_;rw[ho];exact⟨_,rfl,_,rfl,hw⟩
theorem Mw{Γ:C4}{S:List B5}{w:World}(fs:List BA)(v:Value)(hok:∀f∈fs,KB Γ f)(hl:fs.length≤1000000)(hw:Wd Γ (.own v 70 1 (fs.map cR)::S) w) :
  Calls Tryz.prog 80 #[v,.func (.func 81) #[] #[]] w fun e w'=>e=.returned (.tuple #[])∧∃gs:List BA,gs.Perm fs∧(gs.Pairwise fun a b=>Go.Proofs.ltOf (fun a b:BA=>cL cV a.2 b.2) b a=false)∧Wd Γ (.own v 70 1 (gs.map cR)::S) w':=by
 have hxs:(fs.attachWith (KB Γ) hok).map Subtype.val=fs:=List.attachWith_map_subtype_val _
 have hrows:((fs.attachWith (KB Γ) hok).map fun a=>[a.1.1])=fs.map cR:=by
  conv=>rhs;rw[←hxs]
  rw[List.map_map];rfl
 rw[←hrows]at hw;haveI:Inhabited {f:BA // KB Γ f}:=⟨⟨(.slice none 0 0,[]),D6.nil⟩⟩
 have:=Kz (α:={f:BA // KB Γ f}) (f:=fun a=>a.1.1) Qr (fun a=>KB.one a.2) (fun a b=>cL cV a.1.2 b.1.2) 81 [] (fs.attachWith (KB Γ) hok) v hw (i:=0) rfl
  (OY FJ.list fun a:{f:BA // KB Γ f}=>a.1.2) (by simp;omega) (fun dk w' hw' x y=>by
   have h1:∀b o,Γ.imm b=some o→(IH w').imm b=some o:=fun b o hb=>hw'.imm b o hb
   have h2:=Mf (Γ:=IH w') (D6.imm x.2 h1) (D6.imm y.2 h1)
   refine(h2.h [] w' (Md w')).mono ?_
   rintro e w'' ⟨he,hw''⟩
   exact⟨he,[],hw''⟩)
 refine this.mono ?_
 rintro e w' ⟨he,ys,hp,hs,hw'⟩
 refine⟨he,ys.map Subtype.val,?_,?_,?_⟩
 ·have:=hp.map Subtype.val
  rwa [hxs]at this
 ·rw[List.pairwise_map];exact hs
 ·rw[List.map_map];exact hw'
end Go.Proofs.YtlmiakjbogojgaaGreatDoor
end
section
open Go Mk
namespace Go.Proofs.YtlmiakjbogojgaaGreatDoor
set_option maxHeartbeats 16000000
attribute [local irreducible] Calls cI cB
structure RW(Γ:C4)(v:Value)(L:List BA):Prop where
 rep:D6 Γ v 1 (L.map cR)
 ok:∀p∈L,KB Γ p
theorem RW.nil{Γ:C4}:RW Γ (.slice none 0 0) []:=⟨D6.nil,fun p h=>(by cases h)⟩
def rowsOf(L:List BA):List (List Val):=L.map (·.2)
theorem JJ:∀ {L:List (Value×List (List Value))} {rs:List (List Val)},L.map (·.2)=(rs.map fun r=>r.map enc)→∃M:List BA,M.map cR=(L.map fun x=>[x.1])∧rowsOf M=rs∧∀p∈M,∃x∈L,x.1=p.1∧x.2=p.2.map enc
 | [],[],_=>⟨[],rfl,rfl,fun p h=>(by cases h)⟩
 | [],_::_,h=>by simp at h
 | _::_,[],h=>by simp at h
 | x::L,r::rs,h=>by
  simp only[List.map_cons,List.cons.injEq]at h
  obtain⟨M,h1,h2,h3⟩:=JJ (L:=L) (rs:=rs) h.2
  refine⟨(x.1,r)::M,by rw[List.map_cons,List.map_cons,h1];rfl,by unfold rowsOf at *;rw[List.map_cons,h2],fun p hp=>?_⟩
  rcases List.mem_cons.1 hp with rfl|hp
  ·exact⟨x,by simp,rfl,h.1⟩
  ·obtain⟨y,hy,h4⟩:=h3 p hp
   exact⟨y,by simp[hy],h4⟩
theorem KJ{db:List K3}{g:F6}(h:g.Kind=4→g.Low≤g.High):1≤S3 db g:=by
 unfold S3;split
 ·exact Nat.le_max_right ..
 split
 ·rename_i h4
  have:=h h4
  omega
 ·exact Nat.le_refl _
theorem LI{db:List K3}{l:List F6}{k:Nat}{g:F6}(h:l[k]? = some g):Q5 db (l.take (k+1))=Q5 db (l.take k)*S3 db g:=by
 unfold Q5;rw[List.take_add_one,h,List.foldl_append];rfl
theorem LA{db:List K3}{l:List F6}(h:∀g∈l,g.Kind=4→g.Low≤g.High)(k:Nat):Q5 db (l.take k)≤Q5 db l:=by
 have key:∀(r:List F6) (n:Nat),(∀g∈r,g.Kind=4→g.Low≤g.High)→n≤r.foldl (fun n g=>n*S3 db g) n:=by
  intro r;induction r with
  | nil=>intro n _;exact Nat.le_refl _
  | cons g r ih=>
   intro n hr;rw[List.foldl_cons];refine Nat.le_trans ?_ (ih _ fun g hg=>hr g (by simp[hg]))
   exact Nat.le_mul_of_pos_right n (KJ (hr g (by simp)))
 have e:Q5 db l=(l.drop k).foldl (fun n g=>n*S3 db g) (Q5 db (l.take k)):=by
  unfold Q5;rw[←List.foldl_append,List.take_append_drop]
 rw[e];exact key _ _ fun g hg=>h g (List.mem_of_mem_drop hg)
theorem OS{g:F6}(h:Z1 g=true)(h4:g.Kind=4):g.Low≤g.High∧g.High-g.Low≤1000000:=by
 unfold Z1 at h;rw[if_neg (by omega),if_pos h4]at h
 simpa using h
theorem PK{q:D8}(h:T8 q=0):∀g∈q.Goals,g.Kind=4→g.Low≤g.High∧g.High-g.Low≤1000000:=by
 intro g hg h4;refine OS ?_ h4
 have hn:Ap q=true:=by
  cases hq:Ap q with
  | true=>rfl
  | false=>
   unfold T8 at h;rw[hq]at h;split at h
   ·cases h
   split at h
   ·cases h
   split at h
   ·cases h
   simp at h
 exact List.all_eq_true.1 hn g hg
theorem PL{l:List K3}{r:ByteArray}{m:Int}:(Ni l r m).length≤l.length:=by
 unfold Ni;exact Nat.le_trans (List.length_filter_le ..) Fl
theorem Pu{db:List K3}{g:F6}:(W7 db g).length≤db.length:=by
 unfold W7;split
 ·exact PL
 ·exact Nat.zero_le _
theorem l8.small{N:Nat}{q:D8}(h:l8 N q)(hv:T8 q=0):L0 q:=by
 unfold T8 at hv;split at hv
 ·cases hv
 rename_i h1
 split at hv
 ·cases hv
 rename_i h2
 simp only[Bool.not_eq_false]at h1 h2
 unfold Z7 at h1;simp only[Bool.and_eq_true,decide_eq_true_eq]at h1
 refine⟨h.sel,h.names,h.len,fun g hg=>?_⟩
 have ho:=h.goals g hg
 have hl:g.Args.length≤1000:=by
  by_cases ha:E3 g=true
  ·have:=List.all_eq_true.1 h1.1.2 g hg
   rw[ha]at this;simp only[Bool.not_true,Bool.false_or,Bool.and_eq_true,decide_eq_true_eq]at this
   omega
  have hs:=List.all_eq_true.1 h2 g hg
  rw[Bool.and_eq_true]at hs;have hs:=hs.1
  unfold J0 at hs;unfold E3 at ha;simp only[Bool.or_eq_true,decide_eq_true_eq]at ha
  rw[if_neg ha]at hs;split at hs
  ·simp only[Bool.and_eq_true,decide_eq_true_eq]at hs;omega
  split at hs
  ·simp only[Bool.and_eq_true,decide_eq_true_eq]at hs;omega
  ·cases hs
 exact⟨ho.rel,hl,ho.args,ho.l,ho.r,ho.off,ho.low,ho.high⟩
theorem NO{N:Nat}{Γ:C4}{S:List B5}{w:World}{va vs vg:Value}{fs:List D4}{gs:List E6}{q:D8}(hF:RL Γ va fs)(hl:fs.length≤50000)(hq:QR Γ vs vg gs q)(hok:l8 N q)(hw:Wd Γ S w)(hN:N≤9223372036854775807:=by first|decide|assumption) :
  Calls Tryz.prog 27 #[va,.agg #[vs,vg]] w fun e w'=>∃(Γ':C4) (v:Value) (L:List BA),Γ.le Γ'∧e=.returned (.tuple #[v,.int .i64 (x9 (facts fs) q)])∧RW Γ' v L∧rowsOf L=BK (facts fs) q∧Wd Γ' S w':=by
 obtain⟨ga,gn,gc,rfl,hgn,hgnc,hgc⟩:=hq.goals.shape;obtain⟨sa,sn,sc,rfl,hsn,hsnc,hsc⟩:=hq.sel.shape;obtain⟨fa,fc,rfl,hfc1,hfc2⟩:=hF.len;simp only[List.length_map]at hgn hsn
 have hgl:=hq.glen hok
 have hnl:=hq.nlen
 have p1:=Ck hq hok
 obtain⟨db,hdb⟩:∃db,db=facts fs:=⟨_,rfl⟩
 have hdl:db.length≤50000:=by rw[hdb];unfold facts;rw[List.length_map];exact hl
 rw[←hdb];refine A4 Tryz.func27 rfl rfl ?_
 refine A7 ?_;refine J5 ?_;intro b3 w hw;have hw:Wd Γ (.blk b3 (.cells #[.slice sa sn sc,.slice ga gn gc] 25)::S) w:=hw
 repeat first|refine A5 ?_|refine A6 ?_;intro w hw
 refine A0 rfl (fun h=>?_) (fun h=>?_)
 ·have h:T8 q≠0:=of_decide_eq_true h
  have he:x9 db q=T8 q:=by unfold x9;rw[if_pos h]
  refine A7 ?_;refine⟨_,rfl,Γ,.slice none 0 0,[],C4.le.refl _,?_,RW.nil,?_,hw.drop⟩
  ·rw[he];rfl
  ·unfold BK;rw[he,if_neg h];rfl
 have hv:T8 q=0:=by
  have:=of_decide_eq_false h
  simpa using this
 have hok:L0 q:=hok.small hv
 have hR:=PK hv
 have hRl:∀g∈q.Goals,g.Kind=4→g.Low≤g.High:=fun g hg h4=>(hR g hg h4).1
 have hse:x9 db q=if 1000000<Q5 db q.Goals then 15 else 0:=by
  unfold x9;rw[if_neg (fun e=>e hv)]
 clear h p1;refine A7 ?_;refine K0 rfl rfl (Ba (K:=9) (α:=ByteArray) (f:=UD) hw fun bm w hw=>?_)
 have hw:Wd Γ (E1 bm []::.blk b3 (.cells #[.slice sa sn sc,.slice ga gn gc] 25)::S) w:=hw
 refine A7 ?_;refine J5 ?_;intro b7 w hw;have hw:=Wd.addNil (a:=none) (E:=60) (sz:=1) hw
 have hw:Wd Γ (.own (.slice none 0 0) 60 1 (([]:List (Value×List D4)).map fun t=>[t.1])::.blk b7 (G0 (.slice sa sn sc) (.slice ga gn gc) (.slice none 0 0) (.slice none 0 0) bm)::E1 bm []::.blk b3 (.cells #[.slice sa sn sc,.slice ga gn gc] 25)::S) w:=hw
 have hw:Wd Γ (.own (.slice none 0 0) 60 1 (([]:List (Value×List D4)).map fun t=>[t.1])::.blk b3 (.cells #[.slice sa sn sc,.slice ga gn gc] 25)::.blk b7 (G0 (.slice sa sn sc) (.slice ga gn gc) (.slice none 0 0) (.slice none 0 0) bm)::E1 bm []::S) w:=hw.perm L2
 refine A7 ?_;refine C1 (fun μ ρ w=>∃(Γ':C4) (k:Nat) (ts:List (Value×List D4)) (ta:Option Addr) (tn tc:Nat),Γ.le Γ'∧μ+k=gn∧Has ρ [(0,.slice fa fs.length fc),(3,.pointer (some ⟨b3,0,none⟩)),(7,.pointer (some ⟨b7,0,none⟩)),(8,.int .u64 (Q5 db (q.Goals.take k))),(23,.slice ga gn gc),(24,.int .i64 gn),(25,.int .i64 k)]∧ts.length=k∧(∀t∈ts,RL Γ' t.1 t.2)∧(∀(i:Nat) x t,gs[i]? = some x→ts[i]? = some t→facts t.2=W7 db x.g)∧Q5 db (q.Goals.take k)≤1000000∧Wd Γ' (.own (.slice ta tn tc) 60 1 (ts.map fun t=>[t.1])::.blk b3 (.cells #[.slice sa sn sc,.slice ga gn gc] 25)::.blk b7 (G0 (.slice sa sn sc) (.slice ga gn gc) (.slice ta tn tc) (.slice none 0 0) bm)::E1 bm []::S) w) gn ⟨Γ,0,[],none,0,0,C4.le.refl _,by omega,⟨rfl,rfl,rfl,rfl,rfl,rfl,rfl,trivial⟩,rfl,(fun t h=>(by cases h)),(fun i x t _ h=>(by simp at h)),(by show 1≤1000000;decide),hw⟩ ?_
 clear hw;rintro μ ρ w ⟨Γ1,k,ts,ta,tn,tc,hle1,hk,hρ,htl,hrl,heq,hwk,hw⟩
 rw[hρ.eq];clear hρ;have hq1:=hq.mono hle1
 have hrG1:=hq1.goals
 refine A7 ?_;refine A0 rfl (fun h=>?_) (fun h=>?_)
 ·have hkn:k<gn:=by have:=of_decide_eq_true h;omega
  clear h;obtain⟨x,hx⟩:=B8 (l:=gs) (k:=k) (by omega)
  have hxm:=List.mem_of_getElem? hx
  have hgoal:=hq.goal hok hxm
  have hgok:=hq1.ok x hxm
  have hgx:=hq.get hx
  have hws:=LI (db:=db) hgx
  have hwm:=LA (db:=db) hRl (k+1)
  have hRx:=hR x.g (List.mem_of_getElem? hgx)
  obtain⟨l1,l2,l3⟩:=hgok.len;obtain⟨g,A,N,C⟩:=x;simp only at hgoal l1 l2 l3 hgx hws hRx
  have hal:=hgoal.len
  refine A7 ?_;refine B7 ?_;intro b10 w hw;refine A7 ?_;refine A9 ?_;intro w hw;have hw:Wd Γ1 (.blk b10 (.cells (cG ⟨g,A,N,C⟩).toArray 77)::.own (.slice ta tn tc) 60 1 (ts.map fun t=>[t.1])::.blk b3 (.cells #[.slice sa sn sc,.slice ga gn gc] 25)::.blk b7 (G0 (.slice sa sn sc) (.slice ga gn gc) (.slice ta tn tc) (.slice none 0 0) bm)::E1 bm []::S) w:=hw
  repeat first|refine A5 ?_|refine A6 ?_;intro w hw
  refine J6 (fun ρ w=>∃(Γ':C4) (a:Option Addr) (c:Nat) (fs':List D4),Γ1.le Γ'∧RL Γ' (.slice a fs'.length c) fs'∧facts fs'=W7 db g∧Has ρ [(0,.slice fa fs.length fc),(3,.pointer (some ⟨b3,0,none⟩)),(7,.pointer (some ⟨b7,0,none⟩)),(8,.int .u64 (Q5 db (q.Goals.take k))),(10,.pointer (some ⟨b10,0,none⟩)),(11,.slice a fs'.length c),(23,.slice ga gn gc),(24,.int .i64 gn),(25,.int .i64 k)]∧Wd Γ' (.blk b10 (.cells (cG ⟨g,A,N,C⟩).toArray 77)::.own (.slice ta tn tc) 60 1 (ts.map fun t=>[t.1])::.blk b3 (.cells #[.slice sa sn sc,.slice ga gn gc] 25)::.blk b7 (G0 (.slice sa sn sc) (.slice ga gn gc) (.slice ta tn tc) (.slice none 0 0) bm)::E1 bm []::S) w) ?_ ?_
  ·refine A0 rfl (fun h=>?_) (fun h=>?_)
   ·have hat:g.Kind=1∨g.Kind=2:=by
     have h:E3 g=true:=h
     unfold E3 at h;simpa using h
    have ht:W7 db g=Ni db g.Rel N:=by unfold W7;rw[if_pos hat,l1]
    have hF1:=hF.mono hle1
    refine A7 ?_;refine B9 (vs:=[.slice fa fs.length fc,.string g.Rel,.int .i64 N]) ((KZ (r:=g.Rel) (m:=N) fs hF1.ok hl hF1.rep hw).mono fun e w hq2=>?_)
    clear hw;obtain⟨v',fs',rfl,hfs,hfo,hw⟩:=hq2;have hwf:=Lp hfo hw
    clear hw;obtain⟨Γ2,hle2,hrl2,hw⟩:=hwf;obtain⟨a,c,rfl,hc1,hc2⟩:=hrl2.len;refine⟨_,rfl,?_⟩;refine A7 ?_;exact⟨Γ2,a,c,fs',hle2,hrl2,by rw[hfs,ht,hdb],⟨rfl,rfl,rfl,rfl,rfl,rfl,rfl,rfl,rfl,trivial⟩,hw⟩
   ·have hat:¬(g.Kind=1∨g.Kind=2):=by
     have h:E3 g=false:=h
     unfold E3 at h;simpa using h
    have ht:W7 db g=[]:=by unfold W7;rw[if_neg hat]
    refine A7 ?_;exact⟨Γ1,none,0,[],C4.le.refl _,RL.nil,by rw[ht];rfl,⟨rfl,rfl,rfl,rfl,rfl,rfl,rfl,rfl,rfl,trivial⟩,hw⟩
  clear hw;rintro ρ w ⟨Γ2,a,c,fs',hle2,hrl2,hft,hρ,hw⟩
  rw[hρ.eq];clear hρ;obtain⟨-,-,-,hc1,hc2⟩:=hrl2.len;have hfl:fs'.length=(W7 db g).length:=by rw[←hft];unfold facts;rw[List.length_map]
  have htb:=Pu (db:=db) (g:=g)
  have hw:Wd Γ2 (.own (.slice ta tn tc) 60 1 (ts.map fun t=>[t.1])::.blk b7 (G0 (.slice sa sn sc) (.slice ga gn gc) (.slice ta tn tc) (.slice none 0 0) bm)::.blk b3 (.cells #[.slice sa sn sc,.slice ga gn gc] 25)::E1 bm []::.blk b10 (.cells (cG ⟨g,A,N,C⟩).toArray 77)::S) w:=hw.perm L2
  obtain⟨ta',tn',tc',hts,htn,htnc,htc⟩:=hw.own_shape (i:=0) rfl
  cases hts
  simp only[List.length_map]at htn
  refine A7 ?_;refine E4 [[.slice a fs'.length c]] ?_
  intro q2 w hw;refine Bv (i:=1) (rows2:=[[.slice a fs'.length c]]) ?_ (Wd.own_rd (i:=0) hw rfl)
  intro vt' w hw;obtain⟨tb,tm,td,rfl,-,-,-⟩:=hw.own_shape (i:=1) rfl
  refine A7 ?_;refine A9 (i:=2) ?_
  intro w hw;have hw:Wd Γ2 (.own (.slice (some q2) 1 1) 60 1 [[.slice a fs'.length c]]::.own (.slice tb tm td) 60 1 (ts.map (fun t=>[t.1])++[[.slice a fs'.length c]])::.blk b7 (G0 (.slice sa sn sc) (.slice ga gn gc) (.slice tb tm td) (.slice none 0 0) bm)::.blk b3 (.cells #[.slice sa sn sc,.slice ga gn gc] 25)::E1 bm []::.blk b10 (.cells (cG ⟨g,A,N,C⟩).toArray 77)::S) w:=hw
  rw[show ts.map (fun t=>[t.1])++[[Value.slice a fs'.length c]]=(ts++[(Value.slice a fs'.length c,fs')]).map (fun t=>[t.1]) from by rw[List.map_append];rfl]at hw
  have hw:Wd Γ2 (.blk b10 (.cells (cG ⟨g,A,N,C⟩).toArray 77)::.own (.slice tb tm td) 60 1 ((ts++[(Value.slice a fs'.length c,fs')]).map (fun t=>[t.1]))::.blk b3 (.cells #[.slice sa sn sc,.slice ga gn gc] 25)::.blk b7 (G0 (.slice sa sn sc) (.slice ga gn gc) (.slice tb tm td) (.slice none 0 0) bm)::E1 bm []::S) w:=(hw.dropAt 0).perm L2
  first|refine A5 ?_|(refine A6 ?_;intro w hw)
  refine BL (fun ρ w=>Has ρ [(0,.slice fa fs.length fc),(3,.pointer (some ⟨b3,0,none⟩)),(7,.pointer (some ⟨b7,0,none⟩)),(8,.int .u64 (Q5 db (q.Goals.take (k+1)))),(23,.slice ga gn gc),(24,.int .i64 gn),(25,.int .i64 k)]∧Wd Γ2 (.blk b10 (.cells (cG ⟨g,A,N,C⟩).toArray 77)::.own (.slice tb tm td) 60 1 ((ts++[(Value.slice a fs'.length c,fs')]).map (fun t=>[t.1]))::.blk b3 (.cells #[.slice sa sn sc,.slice ga gn gc] 25)::.blk b7 (G0 (.slice sa sn sc) (.slice ga gn gc) (.slice tb tm td) (.slice none 0 0) bm)::E1 bm []::S) w) ?_ ?_
  ·have hfac:S3 db g≤1000001:=by
    unfold S3;split
    ·omega
    split
    ·rename_i h4
     have:=hRx h4
     omega
    ·omega
   have hmul:Q5 db (q.Goals.take k)*S3 db g≤1000000*1000001:=Nat.mul_le_mul hwk hfac
   refine A7 ?_;refine A0 rfl (fun h=>?_) (fun h=>?_)
   ·have hk1:g.Kind=1:=of_decide_eq_true h
    have hfe:S3 db g=max fs'.length 1:=by unfold S3;rw[if_pos hk1,hfl]
    refine A7 ?_;refine⟨⟨rfl,rfl,rfl,?_,rfl,rfl,rfl,trivial⟩,hw⟩
    show Value.int .u64 (IntKind.u64.wrap ((Q5 db (q.Goals.take k):Int)*IntKind.u64.wrap (if (fs'.length:Int)<1 then 1 else (fs'.length:Int))))=_
    rw[show (if (fs'.length:Int)<1 then 1 else (fs'.length:Int))=max (fs'.length:Int) 1 from by split <;> omega]
    rw[AE (a:=max (fs'.length:Int) 1) (by omega) (by omega),hws,hfe]
    rw[hfe]at hmul;have e:(Q5 db (q.Goals.take k):Int)*max (fs'.length:Int) 1=((Q5 db (q.Goals.take k)*max fs'.length 1:Nat):Int):=by
     rw[Int.natCast_mul];congr 1;omega
    rw[e,AE (by omega) (by omega)]
   have hk1:¬g.Kind=1:=of_decide_eq_false h
   clear h;refine A7 ?_;refine A0 rfl (fun h=>?_) (fun h=>?_)
   ·have hk4:g.Kind=4:=of_decide_eq_true h
    obtain⟨hlh,hlh2⟩:=hRx hk4
    have hfe:S3 db g=(g.High-g.Low+1).toNat:=by unfold S3;rw[if_neg hk1,if_pos hk4]
    have hsub:=Ev hgoal.high hgoal.low hlh
    refine A7 ?_;refine⟨⟨rfl,rfl,rfl,?_,rfl,rfl,rfl,trivial⟩,hw⟩
    show Value.int .u64 (IntKind.u64.wrap ((Q5 db (q.Goals.take k):Int)*IntKind.u64.wrap (IntKind.u64.wrap (IntKind.u64.wrap g.High-IntKind.u64.wrap g.Low)+1)))=_
    rw[hsub,AE (a:=g.High-g.Low+1) (by omega) (by omega),hws,hfe]
    rw[hfe]at hmul;have e:(Q5 db (q.Goals.take k):Int)*(g.High-g.Low+1)=((Q5 db (q.Goals.take k)*(g.High-g.Low+1).toNat:Nat):Int):=by
     rw[Int.natCast_mul];congr 1;omega
    rw[e,AE (by omega) (by omega)]
   have hk4:¬g.Kind=4:=of_decide_eq_false h
   have hfe:S3 db g=1:=by unfold S3;rw[if_neg hk1,if_neg hk4]
   refine A7 ?_;refine⟨⟨rfl,rfl,rfl,?_,rfl,rfl,rfl,trivial⟩,hw⟩
   rw[hws,hfe,Nat.mul_one];rfl
  clear hw;rintro ρ w ⟨hρ,hw⟩
  rw[hρ.eq];clear hρ;have hle12:=hle1.trans hle2
  refine A7 ?_;refine A0 rfl (fun h=>?_) (fun h=>?_)
  ·have h:(1000000:Int)<(Q5 db (q.Goals.take (k+1)):Int):=of_decide_eq_true h
   have he:x9 db q=15:=by rw[hse,if_pos (by omega)]
   refine A7 ?_;refine⟨_,rfl,Γ2,.slice none 0 0,[],hle12,?_,RW.nil,?_,hw.ds [0,0,0,0,0]⟩
   ·rw[he];rfl
   ·unfold BK;rw[he,if_neg (by decide)];rfl
  have h:¬(1000000:Int)<(Q5 db (q.Goals.take (k+1)):Int):=of_decide_eq_false h
  refine A7 ?_;refine⟨gn-k-1,by omega,Γ2,k+1,ts++[(Value.slice a fs'.length c,fs')],tb,tm,td,hle12,by omega,⟨rfl,rfl,rfl,rfl,rfl,rfl,rfl,trivial⟩,by rw[List.length_append,htl];rfl,fun t ht=>?_,fun i x t hxi hti=>?_,by omega,hw.drop⟩
  ·rcases List.mem_append.1 ht with h1|h1
   ·exact(hrl t h1).mono hle2
   ·rw[List.mem_singleton.1 h1];exact hrl2
  ·by_cases hik:i<k
   ·rw[List.getElem?_append_left (by omega)]at hti
    exact heq i x t hxi hti
   ·rw[List.getElem?_append_right (by omega)]at hti
    have hi0:i-ts.length=0:=by
     have:=(List.getElem?_eq_some_iff.1 hti).1
     simp at this
     omega
    have hik:i=k:=by omega
    subst hik;rw[hi0]at hti;cases hti
    rw[hx]at hxi;cases hxi
    exact hft
 have hkn:gn≤k:=by have:=of_decide_eq_false h;omega
 clear h;rw[List.take_of_length_le (by omega)]at hwk
 have he:x9 db q=0:=by rw[hse,if_neg (by omega)]
 have hss:BK db q=CU (cL cV) (Js db q):=by
  unfold BK;rw[he,if_pos rfl];rfl
 rw[he,hss];have hwf:=hw.freeze
 clear hw;obtain⟨Γ2,hle2,hrT,hw⟩:=hwf;have hq2:=hq1.mono hle2
 have hS:RN Γ2 (.slice sa sn sc) (.slice ga gn gc) (.slice ta tn tc) gs ts db q:=⟨hq2,hok,hrT,by omega,fun t ht=>(hrl t ht).mono hle2,heq,fun x _ _=>Ey⟩
 have hraw:(Js db q).length≤1000000:=by
  refine Nat.le_trans (JF (fun e=>Qa e) (L6 db q) (fun gt hg h4=>?_) []) ?_
  ·obtain⟨g,hgm,rfl⟩:=List.mem_map.1 hg
   exact hRl g hgm h4
  ·rw[←Kj];exact hwk
 have hw:Wd Γ2 (.blk b7 (G0 (.slice sa sn sc) (.slice ga gn gc) (.slice ta tn tc) (.slice none 0 0) bm)::(G6 (.slice none 0 0) []++(E1 bm []::.blk b3 (.cells #[.slice sa sn sc,.slice ga gn gc] 25)::S))) w:=by
  have h1:=Wd.addNil (a:=none) (E:=70) (sz:=1) hw
  rw[show G6 (.slice none 0 0) []=[.own (.slice none 0 0) 70 1 []] from rfl]
  exact h1.perm L2
 have hw:=V0 (rs:=[]) (L:=[]) rfl hw
 refine A7 ?_;refine B9 (vs:=[.pointer (some ⟨b7,0,none⟩),.int .i64 ((0:Nat):Int)]) ((Kg hS hR gs.length 0 (by omega) (.blk b3 (.cells #[.slice sa sn sc,.slice ga gn gc] 25)::S) [] [] w j8.nil (by rw[List.drop_zero];show 0+(Js db q).length≤1000000;omega) hw).mono fun r w hq3=>?_)
 clear hw;obtain⟨rfl,hw⟩:=hq3;refine⟨_,rfl,?_⟩;rw[List.drop_zero,List.nil_append]at hw;have hw:Wd Γ2 (SV b7 bm (.slice sa sn sc) (.slice ga gn gc) (.slice ta tn tc) (Js db q)::E1 bm []::.blk b3 (.cells #[.slice sa sn sc,.slice ga gn gc] 25)::S) w:=hw
 obtain⟨vr,L,hL,hw⟩:=Ad hw
 obtain⟨M,hM1,hM2,hM3⟩:=JJ hL
 have hML:M.length=(Js db q).length:=by rw[←hM2];unfold rowsOf;rw[List.length_map]
 have hw1:Wd Γ2 (OM 65 3 L++(.own vr 70 1 (M.map cR)::.blk b7 (G0 (.slice sa sn sc) (.slice ga gn gc) (.slice ta tn tc) vr bm)::E1 bm []::.blk b3 (.cells #[.slice sa sn sc,.slice ga gn gc] 25)::S)) w:=by
  rw[hM1];have h1:Wd Γ2 (.blk b7 (G0 (.slice sa sn sc) (.slice ga gn gc) (.slice ta tn tc) vr bm)::((.own vr 70 1 (L.map fun x=>[x.1])::OM 65 3 L)++(E1 bm []::.blk b3 (.cells #[.slice sa sn sc,.slice ga gn gc] 25)::S))) w:=hw
  exact h1.perm L2
 clear hw;obtain⟨Γ3,hle3,hfr,hw⟩:=EP (f:=fun x:Value×List (List Value)=>x.1) (g:=fun x=>x.2) (e:=65) (sz:=3) L hw1
 clear hw1;have hRok:∀p∈M,KB Γ3 p:=fun p hp=>by
  obtain⟨x,hx,e1,e2⟩:=hM3 p hp
  have:=hfr x hx
  unfold KB;rw[←e1,←e2];exact this
 obtain⟨ra,rn,rc,rfl,-,-,-⟩:=hw.own_shape (i:=0) rfl
 have hw:Wd Γ3 (.own (.slice ra rn rc) 70 1 (M.map cR)::.blk b7 (G0 (.slice sa sn sc) (.slice ga gn gc) (.slice ta tn tc) (.slice ra rn rc) bm)::E1 bm []::.blk b3 (.cells #[.slice sa sn sc,.slice ga gn gc] 25)::S) w:=hw
 refine A7 ?_;refine B9 (vs:=[.slice ra rn rc,.func (.func 81) #[] #[]]) ((Mw M (.slice ra rn rc) hRok (by omega) hw).mono fun r w hq3=>?_)
 clear hw;obtain⟨rfl,G,hp,hs,hw⟩:=hq3;refine⟨_,rfl,?_⟩;have hGok:∀p∈G,KB Γ3 p:=fun p h=>hRok p (hp.mem_iff.1 h)
 have hGl:G.length≤1000000:=by rw[hp.length_eq];omega
 refine A7 ?_;refine B9 (vs:=[.slice ra rn rc,.func (.func 82) #[] #[]]) ((IB G hGok hGl hw).mono fun r w hq3=>?_)
 clear hw;obtain⟨v',rfl,hw⟩:=hq3;refine⟨_,rfl,?_⟩;have hwf:=hw.freeze
 clear hw;obtain⟨Γ4,hle4,hrr,hw⟩:=hwf;obtain⟨a4,n4,c4,rfl,-,-,-⟩:=hrr.shape;refine A7 ?_;refine⟨_,rfl,Γ4,.slice a4 n4 c4,Z2 Nw G,hle1.trans (hle2.trans (hle3.trans hle4)),rfl,⟨hrr,fun p hp2=>D6.mono (hGok p (Cy hp2)) hle4⟩,?_,hw.ds [0,0,0]⟩
 have hset:=HC FJ.list (fun p:BA=>p.2) hp (hs.imp fun {a b} h e=>by
  have h2:ltOf (cL cV) b.2 a.2=true:=FJ.list.lt_iff.2 e
  have h:ltOf (cL cV) b.2 a.2=false:=h
  rw[h2]at h;cases h)
 unfold rowsOf;have e2:M.map (·.2)=Js db q:=hM2
 rw[←e2];exact hset
end Go.Proofs.YtlmiakjbogojgaaGreatDoor
end
section
open Go Mk
namespace Go.Proofs.YtlmiakjbogojgaaGreatDoor
set_option maxHeartbeats 16000000
attribute [local irreducible] Calls cI cB
instance SP(s:ByteArray):PC Tryz.prog 38 [.string s] (.bool (u3 s)):=⟨fun w=>by
 refine A4 Tryz.func38 rfl rfl ?_
 repeat first|refine A5 ?_|refine A6 ?_;intro w hw
 exact⟨_,rfl,rfl,rfl⟩⟩
theorem ES{s:ByteArray}(h:s.size≤9223372036854775807):PC Tryz.prog 177 [.string s] (.bool (V7 s)):=⟨fun w=>by
 haveI:=Ip h
 have hs0:N8 s=true→0<s.size:=fun hn=>by
  unfold N8 u7 at hn;simp only[Bool.and_eq_true,decide_eq_true_eq]at hn
  exact hn.1.1.1
 refine A4 Tryz.func177 rfl rfl ?_
 repeat first|refine A5 ?_|refine A6 ?_;intro w hw
 refine lG ?_ (hv:=fun hc=>by exact AX B1 B1 (by omega) (by have:=hs0 hc;omega))
 repeat first|refine A5 ?_|refine A6 ?_;intro w hw
 refine lG ?_ (hv:=fun hc=>by exact AX B1 B1 (by omega) (by have:=hs0 (H4 hc);omega))
 repeat first|refine A5 ?_|refine A6 ?_;intro w hw
 exact⟨_,rfl,rfl,rfl⟩⟩
theorem Er{Γ:C4}{S:List B5}{w:World}{v:Value}{l:List ByteArray}{s:ByteArray}(hr:R8 Γ S v 1 (A1 l))(hw:Wd Γ S w) :
  Calls Tryz.prog 116 #[v,.string s] w fun e w'=>e=.returned (.bool (P9 l s))∧Wd Γ S w':=by
 obtain⟨a,n,c,rfl,hn,hnc,hc⟩:=hr.shape;simp only[List.length_map]at hn
 refine A4 Tryz.func116 rfl rfl ?_
 repeat first|refine A5 ?_|refine A6 ?_;intro w hw
 refine C1 (fun μ ρ w=>∃(k:Nat),μ+k=n∧Has ρ [(0,.slice a n c),(1,.string s),(5,.int .i64 k)]∧P9 l s=P9 (l.drop k) s∧Wd Γ S w) n ⟨0,by omega,⟨rfl,rfl,rfl,trivial⟩,rfl,hw⟩ ?_
 clear hw;rintro μ ρ w ⟨k,hk,hρ,ho,hw⟩
 rw[hρ.eq];clear hρ;repeat first|refine A5 ?_|refine A6 ?_;intro w hw
 refine A0 rfl (fun h=>?_) (fun h=>?_)
 ·have hkn:k<n:=by have:=of_decide_eq_true h;omega
  clear h;obtain⟨t,ht⟩:=B8 (l:=l) (k:=k) (by omega)
  have hd:P9 (l.drop k) s=(decide (t=s)||P9 (l.drop (k+1)) s):=by rw[M8 ht];rfl
  rw[hd]at ho;repeat first|refine A5 ?_|refine A6 ?_;intro w hw
  refine A0 rfl (fun h=>?_) (fun h=>?_)
  ·have h:decide (t=s)=true:=h
   rw[h]at ho;repeat first|refine A5 ?_|refine A6 ?_;intro w hw
   exact⟨_,rfl,F7 rfl ho.symm,hw⟩
  ·have h:decide (t=s)=false:=h
   rw[h,Bool.false_or]at ho;repeat first|refine A5 ?_|refine A6 ?_;intro w hw
   exact⟨μ-1,by omega,k+1,by omega,⟨rfl,rfl,rfl,trivial⟩,ho,hw⟩
 have hkn:n≤k:=by have:=of_decide_eq_false h;omega
 rw[E0 l (by omega)]at ho
 repeat first|refine A5 ?_|refine A6 ?_;intro w hw
 exact⟨_,rfl,F7 rfl ho.symm,hw⟩
section
variable {Γ:C4}{S:List B5}{w:World}
theorem j5{x:E6}(hx:Eu Γ x)(hl:x.g.Args.length≤1000)(hw:Wd Γ S w) :
  Calls Tryz.prog 176 #[.agg (cG x).toArray] w fun e w'=>∃Γ' v,Γ.le Γ'∧e=.returned v∧D6 Γ' v 4 ((E7 x.g).map enc)∧Wd Γ' S w':=by
 obtain⟨l1,l2,l3⟩:=hx.len;obtain⟨g,A,N,C⟩:=x;simp only at l1 l2 l3 hl
 refine A4 Tryz.func176 rfl rfl ?_
 repeat first|refine A5 ?_|refine A6 ?_;intro w hw
 refine J5 ?_;intro b1 w hw;have hw:Wd Γ (.blk b1 (.cells (cG ⟨g,A,N,C⟩).toArray 77)::S) w:=hw
 repeat first|refine A5 ?_|refine A6 ?_;intro w hw
 have app:∀w,Wd Γ (.blk b1 (.cells (cG ⟨g,A,N,C⟩).toArray 77)::S) w→Wd Γ (.own (.slice none 0 0) 75 4 []::.blk b1 (.cells (cG ⟨g,A,N,C⟩).toArray 77)::S) w:=fun w hw=>Wd.addNil (a:=none) (E:=75) (sz:=4) hw
 refine A0 rfl (fun h=>?_) (fun h=>?_)
 ·have hk:g.Kind=1:=of_decide_eq_true h
  repeat first|refine A5 ?_|refine A6 ?_;intro w hw
  refine G1 (congrArg Value.bool h) ?_
  have hw:=app w hw
  repeat first|refine A5 ?_|refine A6 ?_;intro w hw
  refine Bv (i:=0) (a2:=A) (m2:=N) (c2:=C) (rows2:=g.Args.map enc) ?_ (D6.rd hx hw) (h1:=Dc g.Args) (hm:=by rw[List.length_map];exact l1)
  intro v w hw;have hwf:=Wd.freeze hw
  clear hw;obtain⟨Γ',hle,hr,hw⟩:=hwf;obtain⟨a,n,c,rfl,-,-,-⟩:=hr.shape;repeat first|refine A5 ?_|refine A6 ?_;intro w hw
  refine⟨_,rfl,Γ',_,hle,rfl,?_,hw.drop⟩
  unfold E7;rw[if_pos (Or.inl hk)];exact hr
 have hk1:¬g.Kind=1:=of_decide_eq_false h
 repeat first|refine A5 ?_|refine A6 ?_;intro w hw
 refine A0 rfl (fun h=>?_) (fun h=>?_)
 ·have hk:g.Kind=2:=of_decide_eq_true h
  have hw:=app w hw
  repeat first|refine A5 ?_|refine A6 ?_;intro w hw
  refine Bv (i:=0) (a2:=A) (m2:=N) (c2:=C) (rows2:=g.Args.map enc) ?_ (D6.rd hx hw) (h1:=Dc g.Args) (hm:=by rw[List.length_map];exact l1)
  intro v w hw;have hwf:=Wd.freeze hw
  clear hw;obtain⟨Γ',hle,hr,hw⟩:=hwf;obtain⟨a,n,c,rfl,-,-,-⟩:=hr.shape;repeat first|refine A5 ?_|refine A6 ?_;intro w hw
  refine⟨_,rfl,Γ',_,hle,rfl,?_,hw.drop⟩
  unfold E7;rw[if_pos (Or.inr hk)];exact hr
 have hk2:¬g.Kind=2:=of_decide_eq_false h
 repeat first|refine A5 ?_|refine A6 ?_;intro w hw
 refine A0 rfl (fun h=>?_) (fun h=>?_)
 ·have hk:g.Kind=3:=of_decide_eq_true h
  repeat first|refine A5 ?_|refine A6 ?_;intro w hw
  refine E4 [enc g.L,enc g.R] ?_
  intro q w hw;obtain⟨Γ',hle,hr,hw⟩:=hw.freeze;repeat first|refine A5 ?_|refine A6 ?_;intro w hw
  refine⟨_,rfl,Γ',_,hle,rfl,?_,hw.drop⟩
  unfold E7;rw[if_neg (fun e=>e.elim hk1 hk2),if_pos hk];exact hr
 have hk3:¬g.Kind=3:=of_decide_eq_false h
 repeat first|refine A5 ?_|refine A6 ?_;intro w hw
 refine A0 rfl (fun h=>?_) (fun h=>?_)
 ·have hk:g.Kind=4:=of_decide_eq_true h
  repeat first|refine A5 ?_|refine A6 ?_;intro w hw
  refine E4 [enc g.L] ?_
  intro q w hw;obtain⟨Γ',hle,hr,hw⟩:=hw.freeze;repeat first|refine A5 ?_|refine A6 ?_;intro w hw
  refine⟨_,rfl,Γ',_,hle,rfl,?_,hw.drop⟩
  unfold E7;rw[if_neg (fun e=>e.elim hk1 hk2),if_neg hk3,if_pos hk];exact hr
 have hk4:¬g.Kind=4:=of_decide_eq_false h
 repeat first|refine A5 ?_|refine A6 ?_;intro w hw
 refine⟨_,rfl,Γ,_,C4.le.refl _,rfl,?_,hw.drop⟩
 unfold E7;rw[if_neg (fun e=>e.elim hk1 hk2),if_neg hk3,if_neg hk4];exact D6.nil
def W2(out:List ByteArray)(s:ByteArray):List ByteArray:=if El s=true then addN out s else out
theorem Iq{q:D8}:T5 q=(Ed q).foldl W2 []:=by
 unfold T5;rw[List.foldl_filter];rfl
theorem HY{out:List ByteArray}{s:ByteArray}(h:(El s && !P9 out s)=true):W2 out s=out++[s]:=by
 rw[Bool.and_eq_true]at h;unfold W2 addN;rw[if_pos h.1,if_neg (by have:=h.2;simpa using this)]
theorem JQ{out:List ByteArray}{s:ByteArray}(h:(El s && !P9 out s)=false):W2 out s=out:=by
 unfold W2 addN;by_cases h1:El s=true
 ·rw[if_pos h1];rw[h1,Bool.true_and]at h;rw[if_pos (by simpa using h)]
 ·rw[if_neg h1]
theorem HW{ns:List ByteArray}:∀ {out:List ByteArray},(ns.foldl W2 out).length≤out.length+ns.length:=by
 induction ns with
 | nil=>intro out;exact Nat.le_refl _
 | cons s ns ih=>
  intro out;rw[List.foldl_cons];refine Nat.le_trans ih ?_
  have:(W2 out s).length≤out.length+1:=by
   unfold W2 addN;split
   ·split
    ·omega
    ·simp
   ·omega
  rw[List.length_cons];omega
end
theorem NH{q:D8}(hok:L0 q):∀k,((q.Goals.take k).flatMap fun g=>(E7 g).map (·.Var)).length≤1000*k:=by
 intro k;refine Nat.le_trans (j6 (m:=1000) fun g hg=>?_) ?_
 ·rw[List.length_map];exact AL (hok.goals g (List.mem_of_mem_take hg))
 ·rw[List.length_take,Nat.mul_comm];exact Nat.mul_le_mul_left _ (Nat.min_le_left ..)
theorem Hc{Γ:C4}{S:List B5}{w:World}{vs vg:Value}{gs:List E6}{q:D8}(hq:QR Γ vs vg gs q)(hok:L0 q)(hw:Wd Γ S w) :
  Calls Tryz.prog 175 #[.agg #[vs,vg]] w fun e w'=>∃Γ' v,Γ.le Γ'∧e=.returned v∧D6 Γ' v 1 (A1 (T5 q))∧Wd Γ' S w':=by
 obtain⟨ga,gn,gc,rfl,hgn,hgnc,hgc⟩:=hq.goals.shape;obtain⟨sa,sn,sc,rfl,hsn,hsnc,hsc⟩:=hq.sel.shape;simp only[List.length_map]at hgn hsn
 have hrG:=hq.goals
 have hrS:=hq.sel
 have hgl:=hq.glen hok
 have hsl:=hok.sel
 have hnl:=hq.nlen
 refine A4 Tryz.func175 rfl rfl ?_
 repeat first|refine A5 ?_|refine A6 ?_;intro w hw
 refine J5 ?_;intro b1 w hw;have hw:=Wd.addNil (a:=none) (E:=9) (sz:=1) hw
 have hw:Wd Γ (.own (.slice none 0 0) 9 1 (A1 (([]:List ByteArray).foldl W2 []))::.blk b1 (.cells #[.slice sa sn sc,.slice ga gn gc] 25)::S) w:=hw
 repeat first|refine A5 ?_|refine A6 ?_;intro w hw
 refine C1 (fun μ ρ w=>∃(k:Nat) (va:Option Addr) (vn vc:Nat),μ+k=sn∧Has ρ [(1,.pointer (some ⟨b1,0,none⟩)),(3,.slice va vn vc),(4,.int .i64 k)]∧Wd Γ (.own (.slice va vn vc) 9 1 (A1 ((q.Sel.take k).foldl W2 []))::.blk b1 (.cells #[.slice sa sn sc,.slice ga gn gc] 25)::S) w) sn ⟨0,none,0,0,by omega,⟨rfl,rfl,rfl,trivial⟩,by rw[List.take_zero];exact hw⟩ ?_
 clear hw;rintro μ ρ w ⟨k,va,vn,vc,hk,hρ,hw⟩
 rw[hρ.eq];clear hρ;repeat first|refine A5 ?_|refine A6 ?_;intro w hw
 refine A0 rfl (fun h=>?_) (fun h=>?_)
 ·have hkn:k<sn:=by have:=of_decide_eq_true h;omega
  clear h;obtain⟨s,hs⟩:=B8 (l:=q.Sel) (k:=k) (by omega)
  obtain⟨out,hout⟩:∃out,out=(q.Sel.take k).foldl W2 []:=⟨_,rfl⟩
  have hol:out.length≤0+(q.Sel.take k).length:=by rw[hout];exact HW
  rw[List.length_take]at hol;have hsu:(q.Sel.take (k+1)).foldl W2 []=W2 out s:=by rw[List.take_add_one,hs,List.foldl_append,←hout];rfl
  rw[←hout]at hw;obtain⟨va',vn',vc',hve,hvn,hvc1,hvc2⟩:=hw.own_shape (i:=0) rfl
  cases hve
  simp only[List.length_map]at hvn
  have p1:PS Tryz.prog Γ (.own (.slice va vn vc) 9 1 (A1 out)::.blk b1 (.cells #[.slice sa sn sc,.slice ga gn gc] 25)::S) 116 [.slice va vn vc,.string s] (.bool (P9 out s)):=⟨fun Y w hw=>Er (R8.own (i:=0) hw rfl) hw⟩
  repeat(first|refine A5 ?_|(refine A6 ?_;intro w hw)|(apply P5;apply U9;refine MS ?_;intro w hw)|(apply I7;apply U9;refine EF ?_;intro w hw))
  refine A0 rfl (fun h=>?_) (fun h=>?_)
  ·have h:(El s && !P9 out s)=true:=h
   rw[HY h]at hsu;repeat first|refine A5 ?_|refine A6 ?_;intro w hw
   refine E4 [[.string s]] ?_
   intro q2 w hw;refine Bv (i:=1) (rows2:=[[.string s]]) ?_ (Wd.own_rd (i:=0) hw rfl)
   intro v' w hw;have hw:Wd Γ (.own (.slice (some q2) 1 1) 9 1 [[.string s]]::.own v' 9 1 (A1 out++[[.string s]])::.blk b1 (.cells #[.slice sa sn sc,.slice ga gn gc] 25)::S) w:=hw
   rw[show A1 out++[[.string s]]=A1 (out++[s]) from by unfold A1;rw[List.map_append];rfl,←hsu]at hw
   have hw:=hw.drop
   obtain⟨xa,xn,xc,rfl,-,-,-⟩:=hw.own_shape (i:=0) rfl
   repeat first|refine A5 ?_|refine A6 ?_;intro w hw
   exact⟨sn-k-1,by omega,k+1,xa,xn,xc,by omega,⟨rfl,rfl,rfl,trivial⟩,hw⟩
  ·have h:(El s && !P9 out s)=false:=h
   rw[JQ h]at hsu;rw[←hsu]at hw;repeat first|refine A5 ?_|refine A6 ?_;intro w hw
   exact⟨sn-k-1,by omega,k+1,va,vn,vc,by omega,⟨rfl,rfl,rfl,trivial⟩,hw⟩
 have hkn:sn≤k:=by have:=of_decide_eq_false h;omega
 clear h;rw[List.take_of_length_le (by omega)]at hw
 have hw:Wd Γ (.own (.slice va vn vc) 9 1 (A1 ((q.Sel++(q.Goals.take 0).flatMap fun g=>(E7 g).map (·.Var)).foldl W2 []))::.blk b1 (.cells #[.slice sa sn sc,.slice ga gn gc] 25)::S) w:=by
  rw[List.take_zero,List.flatMap_nil,List.append_nil];exact hw
 clear hkn hk;repeat first|refine A5 ?_|refine A6 ?_;intro w hw
 refine C1 (fun μ ρ w=>∃(Γ':C4) (k:Nat) (va:Option Addr) (vn vc:Nat),Γ.le Γ'∧μ+k=gn∧Has ρ [(1,.pointer (some ⟨b1,0,none⟩)),(3,.slice va vn vc),(6,.int .i64 k)]∧Wd Γ' (.own (.slice va vn vc) 9 1 (A1 ((q.Sel++(q.Goals.take k).flatMap fun g=>(E7 g).map (·.Var)).foldl W2 []))::.blk b1 (.cells #[.slice sa sn sc,.slice ga gn gc] 25)::S) w) gn ⟨Γ,0,va,vn,vc,C4.le.refl _,by omega,⟨rfl,rfl,rfl,trivial⟩,hw⟩ ?_
 clear hw;rintro μ ρ w ⟨Γ1,k,va,vn,vc,hle1,hk,hρ,hw⟩
 rw[hρ.eq];clear hρ;have hq1:=hq.mono hle1
 have hrG1:=hq1.goals
 repeat first|refine A5 ?_|refine A6 ?_;intro w hw
 refine A0 rfl (fun h=>?_) (fun h=>?_)
 ·have hkn:k<gn:=by have:=of_decide_eq_true h;omega
  clear h;obtain⟨x,hx⟩:=B8 (l:=gs) (k:=k) (by omega)
  have hxm:=List.mem_of_getElem? hx
  have hgoal:=hq.goal hok hxm
  have hgok:=hq1.ok x hxm
  have hgx:=hq.get hx
  have hsu0:=Aa (F:=fun g=>(E7 g).map (·.Var)) hgx
  have hbl:=NH hok k
  obtain⟨g,A,N,C⟩:=x;simp only at hgoal hgx hsu0
  have hop:=AL hgoal
  repeat first|refine A5 ?_|refine A6 ?_;intro w hw
  refine B9 (vs:=[.agg (cG ⟨g,A,N,C⟩).toArray]) ((j5 hgok hgoal.len hw).mono fun e w hq2=>?_)
  clear hw;obtain⟨Γ2,v,hle2,rfl,hrv,hw⟩:=hq2;obtain⟨oa,on,oc,rfl,hon,honc,hoc⟩:=hrv.shape;simp only[List.length_map]at hon
  refine⟨_,rfl,?_⟩;repeat first|refine A5 ?_|refine A6 ?_;intro w hw
  refine C1 (fun μ ρ w=>∃(j:Nat) (va:Option Addr) (vn vc:Nat),μ+j=on∧Has ρ [(1,.pointer (some ⟨b1,0,none⟩)),(3,.slice va vn vc),(6,.int .i64 k),(7,.slice oa on oc),(8,.int .i64 j)]∧Wd Γ2 (.own (.slice va vn vc) 9 1 (A1 (((q.Sel++(q.Goals.take k).flatMap fun g=>(E7 g).map (·.Var))++((E7 g).take j).map (·.Var)).foldl W2 []))::.blk b1 (.cells #[.slice sa sn sc,.slice ga gn gc] 25)::S) w) on ⟨0,va,vn,vc,by omega,⟨rfl,rfl,rfl,rfl,rfl,trivial⟩,by rw[List.take_zero,List.map_nil,List.append_nil];exact hw⟩ ?_
  clear hw;rintro μ2 ρ w ⟨j,va,vn,vc,hj,hρ,hw⟩
  rw[hρ.eq];clear hρ;repeat first|refine A5 ?_|refine A6 ?_;intro w hw
  refine A0 rfl (fun h=>?_) (fun h=>?_)
  ·have hjn:j<on:=by have:=of_decide_eq_true h;omega
   clear h;obtain⟨o,ho⟩:=B8 (l:=E7 g) (k:=j) (by omega)
   obtain⟨out,hout⟩:∃out,out=((q.Sel++(q.Goals.take k).flatMap fun g=>(E7 g).map (·.Var))++((E7 g).take j).map (·.Var)).foldl W2 []:=⟨_,rfl⟩
   have hol:out.length≤0+((q.Sel++(q.Goals.take k).flatMap fun g=>(E7 g).map (·.Var))++((E7 g).take j).map (·.Var)).length:=by rw[hout];exact HW
   rw[List.length_append,List.length_append,List.length_map,List.length_take]at hol;have hsu:((q.Sel++(q.Goals.take k).flatMap fun g=>(E7 g).map (·.Var))++((E7 g).take (j+1)).map (·.Var)).foldl W2 []=W2 out o.Var:=by rw[List.take_add_one,ho,List.map_append,←List.append_assoc,List.foldl_append (l:=((q.Sel++(q.Goals.take k).flatMap fun g=>(E7 g).map (·.Var))++((E7 g).take j).map (·.Var))),←hout];rfl
   rw[←hout]at hw;obtain⟨va',vn',vc',hve,hvn,hvc1,hvc2⟩:=hw.own_shape (i:=0) rfl
   cases hve
   simp only[List.length_map]at hvn
   have p1:PS Tryz.prog Γ2 (.own (.slice va vn vc) 9 1 (A1 out)::.blk b1 (.cells #[.slice sa sn sc,.slice ga gn gc] 25)::S) 116 [.slice va vn vc,.string o.Var] (.bool (P9 out o.Var)):=⟨fun Y w hw=>Er (R8.own (i:=0) hw rfl) hw⟩
   repeat(first|refine A5 ?_|(refine A6 ?_;intro w hw)|(apply P5;apply U9;refine MS ?_;intro w hw)|(apply I7;apply U9;refine EF ?_;intro w hw))
   refine A0 rfl (fun h=>?_) (fun h=>?_)
   ·have h:(El o.Var && !P9 out o.Var)=true:=h
    rw[HY h]at hsu;repeat first|refine A5 ?_|refine A6 ?_;intro w hw
    refine E4 [[.string o.Var]] ?_
    intro q2 w hw;refine Bv (i:=1) (rows2:=[[.string o.Var]]) ?_ (Wd.own_rd (i:=0) hw rfl)
    intro v' w hw;have hw:Wd Γ2 (.own (.slice (some q2) 1 1) 9 1 [[.string o.Var]]::.own v' 9 1 (A1 out++[[.string o.Var]])::.blk b1 (.cells #[.slice sa sn sc,.slice ga gn gc] 25)::S) w:=hw
    rw[show A1 out++[[.string o.Var]]=A1 (out++[o.Var]) from by unfold A1;rw[List.map_append];rfl,←hsu]at hw
    have hw:=hw.drop
    obtain⟨xa,xn,xc,rfl,-,-,-⟩:=hw.own_shape (i:=0) rfl
    repeat first|refine A5 ?_|refine A6 ?_;intro w hw
    exact⟨on-j-1,by omega,j+1,xa,xn,xc,by omega,⟨rfl,rfl,rfl,rfl,rfl,trivial⟩,hw⟩
   ·have h:(El o.Var && !P9 out o.Var)=false:=h
    rw[JQ h]at hsu;rw[←hsu]at hw;repeat first|refine A5 ?_|refine A6 ?_;intro w hw
    exact⟨on-j-1,by omega,j+1,va,vn,vc,by omega,⟨rfl,rfl,rfl,rfl,rfl,trivial⟩,hw⟩
  have hjn:on≤j:=by have:=of_decide_eq_false h;omega
  clear h;have ho2:(E7 g).take j=E7 g:=List.take_of_length_le (by omega)
  rw[ho2,List.append_assoc,←hsu0]at hw;repeat first|refine A5 ?_|refine A6 ?_;intro w hw
  exact⟨gn-k-1,by omega,Γ2,k+1,va,vn,vc,hle1.trans hle2,by omega,⟨rfl,rfl,rfl,trivial⟩,hw⟩
 have hkn:gn≤k:=by have:=of_decide_eq_false h;omega
 rw[List.take_of_length_le (by omega)]at hw
 have hw:Wd Γ1 (.own (.slice va vn vc) 9 1 (A1 ((Ed q).foldl W2 []))::.blk b1 (.cells #[.slice sa sn sc,.slice ga gn gc] 25)::S) w:=hw
 rw[←Iq]at hw;have hwf:=hw.freeze
 clear hw;obtain⟨Γ2,hle2,hr,hw⟩:=hwf;repeat first|refine A5 ?_|refine A6 ?_;intro w hw
 exact⟨_,rfl,Γ2,_,hle1.trans hle2,rfl,hr,hw.drop⟩
end Go.Proofs.YtlmiakjbogojgaaGreatDoor
end
