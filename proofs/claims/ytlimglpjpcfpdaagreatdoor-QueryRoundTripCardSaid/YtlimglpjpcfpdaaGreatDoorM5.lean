/- Texts of this proof, one behind another. -/
import Derived.Test.YtlimglpjpcfpdaaGreatDoorM4
import Derived.Test.YtlimglpjpcfpdaaGreatDoorM2
import Derived.Lib.ItoaNum
import Derived.Test.YtlimglpjpcfpdaaGreatDoorM3
set_option linter.unusedVariables false
set_option linter.unusedSimpArgs false
section
open Go Mk
namespace Go.Proofs.YtlimglpjpcfpdaaGreatDoor
set_option maxHeartbeats 16000000
attribute [local irreducible] Calls cI cB
def p9(p:F8)(er:Int):PanicEntry:={ v:=.iface 89 (.agg #[.int .i64 p.Line,.int .i64 p.Col,.int .i64 er]),recovered:=false }
def Fp{α β:Type}(f:α→β):PR α→PR β
 | .ok (x,k)=>.ok (f x,k)
 | .error q=>.error q
def o9(toks:List Tok)(e:F8)(kind:Int)(text:ByteArray)(k:Nat):PR Unit:=if I4 toks k kind text=true then .ok ((),k+1) else .error (U6 toks k e,50)
def R1(toks:List Tok)(e:F8)(k:Nat):PR ByteArray:=if (B3 toks k).Kind=1∧DJ (B3 toks k).Text=false then (if (B3 toks k).Text.size≤24 then .ok ((B3 toks k).Text,k+1) else .error (U6 toks k e,63)) else .error (U6 toks k e,50)
def Y3(toks:List Tok)(e:F8)(most:Int)(k:Nat):PR Int:=if (B3 toks k).Kind=2 then (if (B3 toks k).Value≤most then .ok ((B3 toks k).Value,k+1) else .error (U6 toks k e,6)) else .error (U6 toks k e,50)
def w8:ByteArray:=⟨#[45]⟩
def u5(toks:List Tok)(e:F8)(k:Nat):PR Int:=if I4 toks k 4 w8=true then Fp (fun v=>IntKind.i64.wrap (-(IntKind.i64.wrap v))) (Y3 toks e 9223372036854775808 (k+1)) else Fp (fun v=>IntKind.i64.wrap v) (Y3 toks e 9223372036854775807 k)
def Gz(s:ByteArray):Bool:=decide (s=⟨#[95]⟩)||(decide (65≤A6 s 0)&&decide (A6 s 0≤90))
def BI(s:ByteArray):F1:=if Gz s=true then ⟨s,H2⟩ else ⟨C9,⟨2,0,s⟩⟩
def ER(toks:List Tok)(e:F8)(k:Nat):PR F1:=
 if (B3 toks k).Kind=1 then Fp BI (R1 toks e k)
 else if (B3 toks k).Kind=3 then (if (B3 toks k).Text=⟨#[]⟩∨24<(B3 toks k).Text.size then .error (U6 toks k e,63) else .ok (⟨C9,⟨2,0,(B3 toks k).Text⟩⟩,k+1))
 else Fp (fun v=>⟨C9,⟨1,v,⟨#[]⟩⟩⟩) (u5 toks e k)
def m7{α:Type}(Γ:B5)(S:List B1)(bp:Nat)(a:Option Addr)(n c:Nat)(e:F8)(K:α→Value):PR α→Ending→World→Prop
 | .ok (x,k),r,w=>r=.returned (K x)∧k≤n∧Wd Γ (A9 bp a n c k e.Line e.Col::S) w
 | .error (p,er),r,w=>r=.panicked [p9 p er]∧∃k,Wd Γ (A9 bp a n c k e.Line e.Col::S) w
def DX(toks:List Tok):Prop:=∀k,(B3 toks k).Kind=1→0<(B3 toks k).Text.size
section
variable {Γ:B5}{S:List B1}{w:World}{bp:Nat}{a:Option Addr}{n c at':Nat}{e:F8}{toks:List Tok}
theorem W8(h:(B3 toks at').Kind≠0):at'<toks.length:=by
 by_cases hk:at'<toks.length
 ·exact hk
 ·unfold B3 at h;rw[List.getD_eq_getElem?_getD,List.getElem?_eq_none (by omega)]at h
  exact absurd rfl h
theorem U4{kind:Int}{text:ByteArray}(h0:kind≠0)(h:I4 toks at' kind text=true):at'<toks.length:=by
 unfold I4 at h;simp only[Bool.and_eq_true,decide_eq_true_eq]at h
 exact W8 (by omega)
theorem y7(er:Int)(ht:D2 Γ (.slice a n c) 5 (toks.map enc))(hw:Wd Γ (A9 bp a n c at' e.Line e.Col::S) w) :
  Calls Tryz.prog 100 #[.pointer (some ⟨bp,0,none⟩),.int .i64 er] w fun r w'=>r=.panicked [p9 (U6 toks at' e) er]∧Wd Γ (A9 bp a n c at' e.Line e.Col::S) w':=by
 have hn:n=toks.length:=by obtain⟨_,_,_,h1,h2,_⟩:=ht.shape;cases h1;simpa using h2
 unfold A9 at *
 refine A5 Tryz.func100 rfl rfl ?_
 refine A1 ?_;refine B4 ?_;intro b4 w hw;refine B0 ?_;intro w hw;refine Z2 ?_
 have hw:Wd Γ (.blk b4 (.cells (enc e).toArray 29)::.blk bp (.cells #[.slice a n c,.int .i64 at',.int .i64 e.Line,.int .i64 e.Col] 95)::S) w:=hw
 refine Ae (fun ρ w=>∃b4:Nat,Has ρ [(1,.int .i64 er),(4,.pointer (some ⟨b4,0,none⟩))]∧Wd Γ (.blk b4 (.cells (enc (U6 toks at' e)).toArray 29)::.blk bp (.cells #[.slice a n c,.int .i64 at',.int .i64 e.Line,.int .i64 e.Col] 95)::S) w) ?_ ?_
 ·refine A1 ?_;refine K5 (by kernel_rfl) (by kernel_rfl) hw ?_
  refine Ef ?_;intro w hw;refine A0 rfl (fun h=>?_) (fun h=>?_)
  ·have h:at'<n:=by simp at h;omega
   obtain⟨t,htk⟩:=B8 (l:=toks) (k:=at') (by omega)
   have hp:U6 toks at' e=⟨t.Line,t.Col⟩:=by unfold U6;rw[htk]
   refine A1 ?_;refine v8 [.blk bp _] (.blk b4 _::S) [] [[],[],[],[],[],[],[],[],[],[],[],[0]] (hw.ps [1]) ?_
   refine m4 ?_;refine Y0 (φ:=fun (_:Unit) _=>True) (R:=fun _=>.blk b4 (.cells (enc e).toArray 29)::S) (v:=undef) (T':=Unit) (fun _ _=>True) (fun _=>.blk b4 (.cells (enc (⟨t.Line,t.Col⟩:F8)).toArray 29)::S) (fun t' g w Y _ hw=>V6 (i:=0) (inferInstance:LO Tryz.prog 29 2).h hw rfl rfl rfl rfl (fun u hu=>(List.all_eq_true.1 (Bd (⟨t.Line,t.Col⟩:F8))) u hu) rfl (Nat.le_refl 2) fun w' hw'=>⟨(),trivial,(fun _=>rfl),hw'⟩) ?_
   refine BG fun t' w g _ hw=>?_
   refine A1 ?_;exact⟨b4,⟨rfl,rfl,trivial⟩,by rw[hp];exact hw.flip.ps [1]⟩
  ·have h:¬at'<n:=by simp at h;omega
   have hp:U6 toks at' e=e:=by unfold U6;rw[List.getElem?_eq_none (by omega)]
   refine A1 ?_;exact⟨b4,⟨rfl,rfl,trivial⟩,by rw[hp];exact hw⟩
 ·rintro ρ w ⟨b4,hρ,hw⟩
  rw[hρ.eq];refine A1 ?_;refine lY (v:=.iface 89 (.agg #[.int .i64 (U6 toks at' e).Line,.int .i64 (U6 toks at' e).Col,.int .i64 er])) ?_ (hy:=Ka Tryz.underlying89 rfl)
  refine PK ?_
  exact⟨rfl,hw.drop⟩
theorem BW(kind:Int)(text:ByteArray)(h0:kind≠0)(hat:at'≤n)(hN:toks.length≤1000000)(ht:D2 Γ (.slice a n c) 5 (toks.map enc))(hw:Wd Γ (A9 bp a n c at' e.Line e.Col::S) w) :
  Calls Tryz.prog 95 #[.pointer (some ⟨bp,0,none⟩),.int .i64 kind,.string text] w (m7 Γ S bp a n c e (fun _:Unit=>.tuple #[]) (o9 toks e kind text at')):=by
 have hn:n=toks.length:=by obtain⟨_,_,_,h1,h2,_⟩:=ht.shape;cases h1;simpa using h2
 refine A5 Tryz.func95 rfl rfl ?_
 refine A1 ?_;refine D1 (vs:=[.pointer (some ⟨bp,0,none⟩),.int .i64 kind,.string text]) ?_
 refine(J7 kind text hat hN ht hw).mono ?_
 clear hw;rintro r w ⟨rfl,hw⟩
 refine⟨_,rfl,?_⟩;unfold o9;cases hi:I4 toks at' kind text with
 | true=>
  have hlt:=U4 h0 hi
  rw[hi,if_pos rfl]at hw;rw[if_pos rfl];refine A1 ?_;refine A0 rfl (fun h=>by cases h) (fun h=>?_)
  refine A1 ?_;exact⟨_,rfl,rfl,by omega,hw⟩
 | false=>
  rw[hi,if_neg (by decide)]at hw
  rw[if_neg (by decide)]
  refine A1 ?_;refine A0 rfl (fun h=>?_) (fun h=>by cases h)
  refine A1 ?_;refine G0 ?_
  refine(y7 50 ht hw).mono ?_
  rintro r w ⟨rfl,hw⟩
  exact⟨rfl,at',hw⟩
theorem FK(hat:at'≤n)(hN:toks.length≤1000000)(ht:D2 Γ (.slice a n c) 5 (toks.map enc))(hw:Wd Γ (A9 bp a n c at' e.Line e.Col::S) w) :
  Calls Tryz.prog 97 #[.pointer (some ⟨bp,0,none⟩)] w (m7 Γ S bp a n c e (fun s:ByteArray=>.string s) (R1 toks e at')):=by
 have hn:n=toks.length:=by obtain⟨_,_,_,h1,h2,h3⟩:=ht.shape;cases h1;simpa using h2
 refine A5 Tryz.func97 rfl rfl ?_
 refine A1 ?_;refine D1 (vs:=[.pointer (some ⟨bp,0,none⟩),.int .i64 0]) ?_
 refine(V4 (j:=0) (by decide) hat hN ht hw).mono ?_
 clear hw;rintro r w ⟨rfl,hw⟩
 rw[Nat.add_zero];refine⟨_,rfl,?_⟩;have hlt:=W8 (toks:=toks) (at':=at')
 unfold R1;generalize B3 toks at'=t at *
 refine A1 ?_;refine B4 ?_;intro b3 w hw;refine B0 ?_;intro w hw;have hw:Wd Γ (.blk b3 (.cells (enc t).toArray 104)::.blk bp (.cells #[.slice a n c,.int .i64 at',.int .i64 e.Line,.int .i64 e.Col] 95)::S) w:=hw
 refine A1 ?_;refine A0 rfl (fun h=>?_) (fun h=>?_)
 ·have h:(decide (t.Kind≠1)||DJ t.Text)=true:=h
  rw[if_neg (fun⟨h1,h2⟩=>by rw[h1,h2]at h;cases h)]
  refine A1 ?_;refine G0 ?_
  refine(y7 (S:=.blk b3 _::S) 50 ht (hw.ps [1])).mono ?_
  rintro r w ⟨rfl,hw⟩
  exact⟨rfl,at',hw.dropAt 1⟩
 have h:(decide (t.Kind≠1)||DJ t.Text)=false:=h
 obtain⟨h1,h2⟩:=Bool.or_eq_false_iff.1 h
 have h1:t.Kind=1:=by simpa using h1
 rw[if_pos ⟨h1,h2⟩];have hlt:=hlt (by omega)
 clear h;refine A1 ?_;refine A0 rfl (fun h=>?_) (fun h=>?_)
 ·have h:=of_decide_eq_true h
  rw[if_neg (by omega)]
  refine A1 ?_;refine G0 ?_
  refine(y7 (S:=.blk b3 _::S) 63 ht (hw.ps [1])).mono ?_
  rintro r w ⟨rfl,hw⟩
  exact⟨rfl,at',hw.dropAt 1⟩
 have h:=of_decide_eq_false h
 rw[if_pos (by omega)]
 refine A1 ?_;refine B0 (i:=1) ?_
 intro w hw;have hw:Wd Γ (.blk b3 (.cells (enc t).toArray 104)::A9 bp a n c (at'+1) e.Line e.Col::S) w:=hw
 refine A1 ?_;exact⟨_,rfl,rfl,by omega,hw.drop⟩
theorem DU(most:Int)(hat:at'≤n)(hN:toks.length≤1000000)(ht:D2 Γ (.slice a n c) 5 (toks.map enc))(hw:Wd Γ (A9 bp a n c at' e.Line e.Col::S) w) :
  Calls Tryz.prog 169 #[.pointer (some ⟨bp,0,none⟩),.int .u64 most] w (m7 Γ S bp a n c e (fun v:Int=>.int .u64 v) (Y3 toks e most at')):=by
 have hn:n=toks.length:=by obtain⟨_,_,_,h1,h2,h3⟩:=ht.shape;cases h1;simpa using h2
 refine A5 Tryz.func169 rfl rfl ?_
 refine A1 ?_;refine D1 (vs:=[.pointer (some ⟨bp,0,none⟩),.int .i64 0]) ?_
 refine(V4 (j:=0) (by decide) hat hN ht hw).mono ?_
 clear hw;rintro r w ⟨rfl,hw⟩
 rw[Nat.add_zero];refine⟨_,rfl,?_⟩;have hlt:=W8 (toks:=toks) (at':=at')
 unfold Y3;generalize B3 toks at'=t at *
 refine A1 ?_;refine B4 ?_;intro b5 w hw;refine B0 ?_;intro w hw;have hw:Wd Γ (.blk b5 (.cells (enc t).toArray 104)::.blk bp (.cells #[.slice a n c,.int .i64 at',.int .i64 e.Line,.int .i64 e.Col] 95)::S) w:=hw
 refine A1 ?_;refine A0 rfl (fun h=>?_) (fun h=>?_)
 ·have h:t.Kind≠2:=of_decide_eq_true h
  rw[if_neg h];refine A1 ?_;refine G0 ?_
  refine(y7 (S:=.blk b5 _::S) 50 ht (hw.ps [1])).mono ?_
  rintro r w ⟨rfl,hw⟩
  exact⟨rfl,at',hw.dropAt 1⟩
 have h1:t.Kind=2:=by have:=of_decide_eq_false h;omega
 rw[if_pos h1];have hlt:=hlt (by omega)
 clear h;refine A1 ?_;refine A0 rfl (fun h=>?_) (fun h=>?_)
 ·have h:most<t.Value:=of_decide_eq_true h
  rw[if_neg (by omega)]
  refine A1 ?_;refine G0 ?_
  refine(y7 (S:=.blk b5 _::S) 6 ht (hw.ps [1])).mono ?_
  rintro r w ⟨rfl,hw⟩
  exact⟨rfl,at',hw.dropAt 1⟩
 have h:¬most<t.Value:=of_decide_eq_false h
 rw[if_pos (by omega)]
 refine A1 ?_;refine B0 (i:=1) ?_
 intro w hw;have hw:Wd Γ (.blk b5 (.cells (enc t).toArray 104)::A9 bp a n c (at'+1) e.Line e.Col::S) w:=hw
 refine A1 ?_;exact⟨_,rfl,rfl,by omega,hw.drop⟩
theorem Df(hat:at'≤n)(hN:toks.length≤1000000)(ht:D2 Γ (.slice a n c) 5 (toks.map enc))(hw:Wd Γ (A9 bp a n c at' e.Line e.Col::S) w) :
  Calls Tryz.prog 168 #[.pointer (some ⟨bp,0,none⟩)] w (m7 Γ S bp a n c e (fun v:Int=>.int .i64 v) (u5 toks e at')):=by
 have hn:n=toks.length:=by obtain⟨_,_,_,h1,h2,h3⟩:=ht.shape;cases h1;simpa using h2
 refine A5 Tryz.func168 rfl rfl ?_
 refine A1 ?_;refine D1 (vs:=[.pointer (some ⟨bp,0,none⟩),.int .i64 4,.string w8]) ?_
 refine(J7 4 w8 hat hN ht hw).mono ?_
 clear hw;rintro r w ⟨rfl,hw⟩
 refine⟨_,rfl,?_⟩;unfold u5;cases hi:I4 toks at' 4 w8 with
 | true=>
  have hlt:=U4 (by decide) hi
  rw[hi,if_pos rfl]at hw;rw[if_pos rfl];refine A1 ?_;refine A0 rfl (fun h=>?_) (fun h=>by cases h)
  refine A1 ?_;refine G0 (vs:=[.pointer (some ⟨bp,0,none⟩),.int .u64 9223372036854775808]) ?_
  refine(DU (at':=at'+1) 9223372036854775808 (by omega) hN ht hw).mono ?_
  clear hw;rintro r w hr
  cases hN2:Y3 toks e 9223372036854775808 (at'+1) with
  | error q=>
   obtain⟨p,er⟩:=q;rw[hN2]at hr;obtain⟨rfl,hw⟩:=hr;exact⟨rfl,hw⟩
  | ok q=>
   obtain⟨x,k⟩:=q;rw[hN2]at hr;obtain⟨rfl,hk,hw⟩:=hr;refine A1 ?_;refine lY (v:=.int .i64 (IntKind.i64.wrap (-(IntKind.i64.wrap x)))) ?_ (hy:=Mo rfl)
   refine A1 ?_;exact⟨_,rfl,rfl,hk,hw⟩
 | false=>
  rw[hi,if_neg (by decide)]at hw
  rw[if_neg (by decide)]
  refine A1 ?_;refine A0 rfl (fun h=>by cases h) (fun h=>?_)
  refine A1 ?_;refine G0 (vs:=[.pointer (some ⟨bp,0,none⟩),.int .u64 9223372036854775807]) ?_
  refine(DU 9223372036854775807 hat hN ht hw).mono ?_
  clear hw;rintro r w hr
  cases hN2:Y3 toks e 9223372036854775807 at' with
  | error q=>
   obtain⟨p,er⟩:=q;rw[hN2]at hr;obtain⟨rfl,hw⟩:=hr;exact⟨rfl,hw⟩
  | ok q=>
   obtain⟨x,k⟩:=q;rw[hN2]at hr;obtain⟨rfl,hk,hw⟩:=hr;refine A1 ?_;exact⟨_,rfl,rfl,hk,hw⟩
theorem f9(hW:DX toks)(hat:at'≤n)(hN:toks.length≤1000000)(ht:D2 Γ (.slice a n c) 5 (toks.map enc))(hw:Wd Γ (A9 bp a n c at' e.Line e.Col::S) w) :
  Calls Tryz.prog 167 #[.pointer (some ⟨bp,0,none⟩)] w (m7 Γ S bp a n c e (fun o:F1=>.agg (enc o).toArray) (ER toks e at')):=by
 have hn:n=toks.length:=by obtain⟨_,_,_,h1,h2,h3⟩:=ht.shape;cases h1;simpa using h2
 refine H1 Tryz.func167 rfl rfl ?_
 refine A1 ?_;refine B4 ?_;intro b2 w hw;have hw:Wd Γ (A9 bp a n c at' e.Line e.Col::.blk b2 (.cells (enc (⟨C9,H2⟩:F1)).toArray 77)::S) w:=hw.ps [1]
 refine A1 ?_;refine D1 (vs:=[.pointer (some ⟨bp,0,none⟩),.int .i64 0]) ?_
 refine(V4 (j:=0) (by decide) hat hN ht hw).mono ?_
 clear hw;rintro r w ⟨rfl,hw⟩
 rw[Nat.add_zero];refine⟨_,rfl,?_⟩;have hlt:=W8 (toks:=toks) (at':=at')
 have hpos:=hW at'
 have hWd:=fun (S:List B1) (w:World) hw=>FK (S:=S) (w:=w) (e:=e) (bp:=bp) hat hN ht hw
 unfold ER;unfold R1 at hWd;unfold R1;generalize B3 toks at'=t at *
 refine A1 ?_;refine B4 ?_;intro b3 w hw;refine B0 ?_;intro w hw;have hw:Wd Γ (A9 bp a n c at' e.Line e.Col::.blk b2 (.cells (enc (⟨C9,H2⟩:F1)).toArray 77)::.blk b3 (.cells (enc t).toArray 104)::S) w:=hw.ps [2,2]
 refine A1 ?_;refine A0 rfl (fun h=>?_) (fun h=>?_)
 ·have h1:t.Kind=1:=of_decide_eq_true h
  clear h;rw[if_pos h1];have hp0:=hpos h1
  refine A1 ?_;refine G0 (vs:=[.pointer (some ⟨bp,0,none⟩)]) ?_
  refine(hWd _ _ hw).mono ?_
  clear hw;rintro r w hr
  by_cases hc:t.Kind=1∧DJ t.Text=false
  rotate_left
  ·rw[if_neg hc]at hr ⊢
   obtain⟨rfl,k,hw⟩:=hr;exact⟨rfl,k,(hw.dropAt 1).dropAt 1⟩
  rw[if_pos hc]at hr ⊢
  by_cases hs:t.Text.size≤24
  rotate_left
  ·rw[if_neg hs]at hr ⊢
   obtain⟨rfl,k,hw⟩:=hr;exact⟨rfl,k,(hw.dropAt 1).dropAt 1⟩
  rw[if_pos hs]at hr ⊢
  obtain⟨rfl,hk,hw⟩:=hr;have hv:BI t.Text=if Gz t.Text=true then ⟨t.Text,H2⟩ else ⟨C9,⟨2,0,t.Text⟩⟩:=rfl
  refine A1 ?_;refine A0 rfl (fun h=>?_) (fun h=>?_)
  ·have h:Gz t.Text=true:=h
   rw[if_pos h]at hv;refine A1 ?_;refine B0 (i:=1) ?_
   intro w hw;have hw:Wd Γ (.blk b2 (.cells (enc (⟨t.Text,H2⟩:F1)).toArray 77)::A9 bp a n c (at'+1) e.Line e.Col::.blk b3 (.cells (enc t).toArray 104)::S) w:=hw.ps [1]
   refine A1 ?_;refine⟨[.agg (enc (⟨t.Text,H2⟩:F1)).toArray],⟨M3 (i:=0) hw rfl rfl rfl,trivial⟩,?_⟩
   show m7 Γ S bp a n c e (fun o:F1=>.agg (enc o).toArray) (.ok (BI t.Text,at'+1)) _ _
   rw[hv];exact⟨rfl,hk,hw.drop.dropAt 1⟩
  ·have h:Gz t.Text=false:=h
   rw[if_neg (by rw[h];decide)]at hv
   refine A1 ?_;refine B0 (i:=1) ?_
   intro w hw;have hw:Wd Γ (.blk b2 (.cells (enc (⟨C9,⟨2,0,t.Text⟩⟩:F1)).toArray 77)::A9 bp a n c (at'+1) e.Line e.Col::.blk b3 (.cells (enc t).toArray 104)::S) w:=hw.ps [1]
   refine A1 ?_;refine⟨[.agg (enc (⟨C9,⟨2,0,t.Text⟩⟩:F1)).toArray],⟨M3 (i:=0) hw rfl rfl rfl,trivial⟩,?_⟩
   show m7 Γ S bp a n c e (fun o:F1=>.agg (enc o).toArray) (.ok (BI t.Text,at'+1)) _ _
   rw[hv];exact⟨rfl,hk,hw.drop.dropAt 1⟩
 have h1:¬t.Kind=1:=of_decide_eq_false h
 clear h;rw[if_neg h1];refine A1 ?_;refine A0 rfl (fun h=>?_) (fun h=>?_)
 ·have h3:t.Kind=3:=of_decide_eq_true h
  clear h;rw[if_pos h3];have hlt:=hlt (by omega)
  refine A1 ?_;refine A0 rfl (fun h=>?_) (fun h=>?_)
  ·have h:(decide (t.Text=⟨#[]⟩)||decide ((24:Int)<(t.Text.size:Int)))=true:=h
   rw[if_pos (by simp only[Bool.or_eq_true,decide_eq_true_eq]at h;exact h.imp id fun h=>by omega)]
   refine A1 ?_;refine G0 ?_
   refine(y7 63 ht hw).mono ?_
   rintro r w ⟨rfl,hw⟩
   exact⟨rfl,at',(hw.dropAt 1).dropAt 1⟩
  ·have h:(decide (t.Text=⟨#[]⟩)||decide ((24:Int)<(t.Text.size:Int)))=false:=h
   rw[if_neg (by simp only[Bool.or_eq_false_iff,decide_eq_false_iff_not]at h;exact fun hh=>hh.elim h.1 fun h2=>h.2 (by omega))]
   unfold A9 at hw;refine A1 ?_;refine B0 ?_;intro w hw;refine A1 ?_;refine B0 (i:=1) ?_
   intro w hw;have hw:Wd Γ (.blk b2 (.cells (enc (⟨C9,⟨2,0,t.Text⟩⟩:F1)).toArray 77)::A9 bp a n c (at'+1) e.Line e.Col::.blk b3 (.cells (enc t).toArray 104)::S) w:=hw.ps [1]
   refine A1 ?_;exact⟨[.agg (enc (⟨C9,⟨2,0,t.Text⟩⟩:F1)).toArray],⟨M3 (i:=0) hw rfl rfl rfl,trivial⟩,rfl,by omega,hw.drop.dropAt 1⟩
 ·have h3:¬t.Kind=3:=of_decide_eq_false h
  clear h;rw[if_neg h3];refine A1 ?_;refine G0 (vs:=[.pointer (some ⟨bp,0,none⟩)]) ?_
  refine(Df hat hN ht hw).mono ?_
  clear hw;rintro r w hr
  cases hI:u5 toks e at' with
  | error q=>
   obtain⟨p,er⟩:=q;rw[hI]at hr;obtain⟨rfl,k,hw⟩:=hr;exact⟨rfl,k,(hw.dropAt 1).dropAt 1⟩
  | ok q=>
   obtain⟨x,k⟩:=q;rw[hI]at hr;obtain⟨rfl,hk,hw⟩:=hr;refine A1 ?_;refine B0 (i:=1) ?_
   intro w hw;have hw:Wd Γ (.blk b2 (.cells (enc (⟨C9,⟨1,x,⟨#[]⟩⟩⟩:F1)).toArray 77)::A9 bp a n c k e.Line e.Col::.blk b3 (.cells (enc t).toArray 104)::S) w:=hw.ps [1]
   refine A1 ?_;exact⟨[.agg (enc (⟨C9,⟨1,x,⟨#[]⟩⟩⟩:F1)).toArray],⟨M3 (i:=0) hw rfl rfl rfl,trivial⟩,rfl,hk,hw.drop.dropAt 1⟩
end
end Go.Proofs.YtlimglpjpcfpdaaGreatDoor
end
section
open Go Mk
namespace Go.Proofs.YtlimglpjpcfpdaaGreatDoor
set_option maxHeartbeats 16000000
attribute [local irreducible] Calls cI cB
section
variable {P:Program}{n:Nat}{ops:List Oper}{Γ:B5}{K:List B1}{wr tc stab:List (List Nat)}{Q:Fr→World→Prop}{i:Nat}{rest:List Oper}{ρ:Fr}{M:Nat→Fr→List B1}
variable {T T':Type}{ty:TypeId}{pos:String}{es:Array Edge}
theorem X8{c dd f:Nat}{args:List Operand}{tys:Array TypeId}{vs:List Value}{φ:T→Fr→Prop}{R:T→List B1}[B9 P f](val:T'→Value)(R':T'→List B1)
  (hcall:∀t S w,Wd Γ (R t++S) w→Calls P f vs.toArray w fun e w'=>∃t':T',e=.returned (val t')∧Wd Γ (R' t'++S) w')
  (h:MSw (mV P n ops Γ K wr tc stab) Q (i+1) rest ⟨C1 ρ (some dd) undef,K3 M c (N7 (fun (t:T') g=>g dd=val t) R')⟩)
  (hw0:wr.getD i []=[c]:=by exact rfl) (ht:tc.getD i []=[c]:=by exact rfl) (hM:M c=N7 φ R:=by first|exact B2|exact LQ|exact t6|exact((A4 (by decide)).trans B2)|exact((A4 (by decide)).trans t6)|exact rfl)
  (hs:(stab.getD c []).contains dd=true:=by exact rfl) (hfr:S2 stab (some dd)=true:=by exact rfl) (ha:∀g,EvL (D9 stab.flatten g ρ) args vs:=by intro g;exact u7) :
  MSw (mV P n ops Γ K wr tc stab) Q i (⟨some dd,.call { callee:=.value (.func f),args:=args.toArray,argTypes:=tys },ty,pos,es,none⟩::rest) ⟨ρ,M⟩:=
 mS (v:=undef) (N7 (fun (t:T') g=>g dd=val t) R') (fun g w Y hw=>by
  obtain⟨t,-,hw⟩:=R0 hw
  refine Az (ha g).eqA ((hcall t _ _ hw).mono ?_)
  rintro e w' ⟨t',rfl,hw'⟩
  refine⟨_,rfl,fun hh=>(by rw[hfr]at hh;cases hh),W6 t' ?_ hw'⟩
  rw[I0 (by simpa using hs)];exact upd_same _ _ _) h hM hw0 ht rfl
end
theorem Dl{P:Program}{d:Option Tmp}{T f:Nat}{x:Operand}{ty:TypeId}{pos:String}{es:Array Edge}{g:Option (Nat×Bool)}{ρ:Fr}{w:World}{cs:Array Value}{v:Value}{fs:Array Field}{fd:Field}(hu:P.underlying T=some (.struct fs))(hf:fs[f]? = some fd)(hs:Md P fd.type=true)(hc:cs[fd.offset]? = some v)(hx:ev ρ x=.agg cs) :
  Mk.Yields P ⟨d,.field T x f,ty,pos,es,g⟩ ρ w v:=by
 unfold Mk.Yields;simp[execOp,go_sem,hx,Instr.field,run_underlying hu,hf,part,Av hs,hc,asAgg]
theorem Af{c:Bool}{v:Value}(h:c=true):gv c v=v:=t8 h rfl
def G8:ByteArray:=⟨#[44]⟩
def Q0:ByteArray:=⟨#[40]⟩
def Ce:ByteArray:=⟨#[41]⟩
def S8:ByteArray:=⟨#[110,111,116]⟩
def E0:F1:=⟨C9,H2⟩
def J0(s:ByteArray)(os:List F1):D6:=⟨1,s,os,0,E0,E0,0,0,0⟩
def C6(toks:List Tok)(k m:Nat):List F1:=(List.range m).map fun i=>⟨(B3 toks (k+2*i)).Text,H2⟩
theorem ID{toks:List Tok}{k m:Nat}:C6 toks k (m+1)=C6 toks k m++[⟨(B3 toks (k+2*m)).Text,H2⟩]:=by
 unfold C6;rw[List.range_succ,List.map_append];rfl
theorem EJ{toks:List Tok}{p:Nat}(k:Nat):(C6 toks p k).map enc++[enc (⟨(B3 toks (p+2*k)).Text,H2⟩:F1)]=(C6 toks p (k+1)).map enc:=by rw[ID,List.map_append];rfl
structure PV(toks:List Tok)(k m:Nat):Prop where
 kind:(B3 toks k).Kind=1
 kw:DJ (B3 toks k).Text=false
 size:(B3 toks k).Text.size≤24
 lpar:I4 toks (k+1) 4 Q0=true
 one:1≤m
 many:m≤1000
 vars:∀i,i<m→NR (B3 toks (k+2+2*i))
 comma:∀i,i+1<m→I4 toks (k+3+2*i) 4 G8=true
 last:I4 toks (k+1+2*m) 4 G8=false
 rpar:I4 toks (k+1+2*m) 4 Ce=true
section
variable {Γ:B5}{S:List B1}{w:World}{bp:Nat}{a:Option Addr}{n c at':Nat}{e1 e2:Int}{toks:List Tok}
theorem Lm{m:Nat}(hr:PV toks at' m)(hat:at'+2*m+2≤n)(hN:toks.length≤1000000)(ht:D2 Γ (.slice a n c) 5 (toks.map enc))(hw:Wd Γ (A9 bp a n c at' e1 e2::S) w) :
  Calls Tryz.prog 99 #[.pointer (some ⟨bp,0,none⟩)] w fun r w'=>∃v:GA,r=.returned (.agg (cG ⟨J0 (B3 toks at').Text (C6 toks (at'+2) m),v.1,v.2.1,v.2.2⟩).toArray)∧Wd Γ (.own (Ql v) 77 4 ((C6 toks (at'+2) m).map enc)::A9 bp a n c (at'+2*m+2) e1 e2::S) w':=by
 have hn:n=toks.length:=by obtain⟨_,_,_,h1,h2,h3⟩:=ht.shape;cases h1;simpa using h2
 have hnot:I4 toks at' 1 S8=false:=by
  unfold I4;rw[Bool.and_eq_false_iff];refine Or.inr (decide_eq_false fun e=>?_)
  have:=hr.kw
  rw[e]at this;exact absurd this (by decide)
 refine H1 Tryz.func99 rfl rfl ?_
 repeat first|refine C3 ?_|refine C4 ?_;intro w hw
 refine B4 ?_;intro b2 w hw;repeat first|refine C3 ?_|refine C4 ?_;intro w hw
 refine B4 ?_;intro b3 w hw;refine B0 ?_;intro w hw;have hw:Wd Γ (A9 bp a n c at' e1 e2::.blk b3 (.cells (cG ⟨J0 C9 [],none,0,0⟩).toArray 79)::.blk b2 (.cells (cG ⟨⟨0,C9,[],0,E0,E0,0,0,0⟩,none,0,0⟩).toArray 79)::S) w:=hw.ps [2]
 repeat first|refine C3 ?_|refine C4 ?_;intro w hw
 refine D1 (vs:=[.pointer (some ⟨bp,0,none⟩),.int .i64 1,.string S8]) ?_
 refine(J7 1 S8 (by omega) hN ht hw).mono ?_
 clear hw;rintro r w ⟨rfl,hw⟩
 rw[hnot]at hw ⊢
 have hw:Wd Γ (A9 bp a n c at' e1 e2::.blk b3 (.cells (cG ⟨J0 C9 [],none,0,0⟩).toArray 79)::.blk b2 (.cells (cG ⟨⟨0,C9,[],0,E0,E0,0,0,0⟩,none,0,0⟩).toArray 79)::S) w:=hw
 refine⟨_,rfl,?_⟩;repeat first|refine C3 ?_|refine C4 ?_;intro w hw
 refine A0 rfl (fun h=>by cases h) (fun _=>?_)
 repeat first|refine C3 ?_|refine C4 ?_;intro w hw
 refine LP (hct:=by decide) ?_
 refine D1 (vs:=[.pointer (some ⟨bp,0,none⟩),.int .i64 0]) ?_ (ha:=EvL.cons (Af (by decide)) (EvL.cons rfl EvL.nil))
 refine(V4 (j:=0) (by decide) (by omega) hN ht hw).mono ?_
 clear hw;rintro r w ⟨rfl,hw⟩
 rw[Nat.add_zero];refine⟨_,rfl,?_⟩;repeat first|refine C3 ?_|refine C4 ?_;intro w hw
 refine lG ?_ (hv:=by intro hc;exact Dl Tryz.underlying104 rfl (by kernel_rfl) rfl rfl)
 repeat first|refine C3 ?_|refine C4 ?_;intro w hw
 have hkc:(!decide ((1:Int)=2)&&decide ((B3 toks at').Kind=1))=true:=by rw[decide_eq_true hr.kind];decide
 refine LP (hct:=hkc) ?_
 refine D1 (vs:=[.pointer (some ⟨bp,0,none⟩),.int .i64 1,.int .i64 4,.string Q0]) ?_ (ha:=EvL.cons (Af hkc) (EvL.cons rfl (EvL.cons rfl (EvL.cons rfl EvL.nil))))
 refine(NX (j:=1) (by decide) 4 Q0 (by omega) hN ht hw).mono ?_
 clear hw;rintro r w ⟨rfl,hw⟩
 rw[hr.lpar];refine⟨_,rfl,?_⟩;repeat first|refine C3 ?_|refine C4 ?_;intro w hw
 refine LP (hct:=by decide) ?_
 refine lY (v:=.bool true) ?_ (hy:=m9 ((Af (by decide)).trans (by rw[decide_eq_true hr.kind])) rfl)
 refine lY (v:=.bool true) ?_ (hy:=Z4 (congrArg Value.bool (by decide)) rfl)
 repeat first|refine C3 ?_|refine C4 ?_;intro w hw
 refine A0 rfl (fun _=>?_) (fun h=>by cases h)
 repeat first|refine C3 ?_|refine C4 ?_;intro w hw
 refine D1 (vs:=[.pointer (some ⟨bp,0,none⟩)]) ?_
 refine(JK hr.kind hr.kw hr.size (by omega) hN ht hw).mono ?_
 clear hw;rintro r w ⟨rfl,hw⟩
 refine⟨_,rfl,?_⟩;have hops:=hr.vars
 generalize (B3 toks at').Text=nm at *
 repeat first|refine C3 ?_|refine C4 ?_;intro w hw
 refine B0 (i:=1) ?_
 intro w hw;have hw:Wd Γ (A9 bp a n c (at'+1) e1 e2::.blk b3 (.cells (cG ⟨J0 nm [],none,0,0⟩).toArray 79)::.blk b2 (.cells (cG ⟨⟨0,C9,[],0,E0,E0,0,0,0⟩,none,0,0⟩).toArray 79)::S) w:=hw
 repeat first|refine C3 ?_|refine C4 ?_;intro w hw
 refine D1 (vs:=[.pointer (some ⟨bp,0,none⟩),.int .i64 4,.string Q0]) ?_
 refine(Bj 4 Q0 hr.lpar (by omega) hN ht hw).mono ?_
 clear hw;rintro r w ⟨rfl,hw⟩
 refine⟨_,rfl,?_⟩;repeat first|refine C3 ?_|refine C4 ?_;intro w hw
 have hw:=Wd.addNil (a:=none) (E:=77) (sz:=4) hw
 have hw:Wd Γ (.own (.slice none 0 0) 77 4 ((C6 toks (at'+2) 0).map enc)::A9 bp a n c (at'+2+2*0) e1 e2::.blk b3 (.cells (cG ⟨J0 nm (C6 toks (at'+2) 0),none,0,0⟩).toArray 79)::.blk b2 (.cells (cG ⟨⟨0,C9,[],0,E0,E0,0,0,0⟩,none,0,0⟩).toArray 79)::S) w:=hw
 have hm1:=hr.one
 have hop:NR (B3 toks (at'+2+2*0)):=hr.vars 0 (by omega)
 refine W1 [.blk b2 (.cells (cG ⟨⟨0,C9,[],0,E0,E0,0,0,0⟩,none,0,0⟩).toArray 79)] [.blk b3 (.cells (cG ⟨J0 nm (C6 toks (at'+2) 0),none,0,0⟩).toArray 79)] (.own (.slice none 0 0) 77 4 ((C6 toks (at'+2) 0).map enc)::A9 bp a n c (at'+2+2*0) e1 e2::S) [] [32,33,34] [] [[],[],[],[1],[1],[1],[],[0,1]] [[],[0],[],[1],[1],[1],[],[0,1]] (by rw[List.append_nil];exact hw.ps [2,3]) ?_
 repeat(first|refine mY ?_|refine mP ?_|refine M9 ?_|refine X3 ?_|refine j0 ?_)
 refine X8 (c:=1) (T:=Unit) (T':=Unit) (vs:=[.pointer (some ⟨bp,0,none⟩)]) (fun _=>.agg (enc (⟨(B3 toks (at'+2+2*0)).Text,H2⟩:F1)).toArray) (fun _=>A9 bp a n c (at'+2+2*0+1) e1 e2::.own (.slice none 0 0) 77 4 ((C6 toks (at'+2) 0).map enc)::S) (R:=fun _=>.own (.slice none 0 0) 77 4 ((C6 toks (at'+2) 0).map enc)::A9 bp a n c (at'+2+2*0) e1 e2::S) (fun _ Y w hw=>(FD hop (by omega) hN ht (hw.ps [1]:Wd Γ (A9 bp a n c (at'+2+2*0) e1 e2::(.own (.slice none 0 0) 77 4 ((C6 toks (at'+2) 0).map enc)::(S++Y))) w)).mono fun r w h=>⟨(),h.1,h.2⟩) ?_
 refine R5 (T:=Unit) (fun _=>[enc (⟨(B3 toks (at'+2+2*0)).Text,H2⟩:F1)]) ?_ ?_
 rotate_left
 ·intro t g h;have h2:g 32=_:=h
  show Q1 _ _ [(0,g 32)]=_
  rw[h2];rfl
 refine w9 (T:=Unit×Addr) (j:=2) (j2:=0) (fun t=>some t.2) (fun _=>[enc (⟨(B3 toks (at'+2+2*0)).Text,H2⟩:F1)]) ?_ ?_
 rotate_left
 ·intro t g h;exact h.2
 refine m4 ?_;refine X6 (T:=(Unit×Addr)×Value) (j:=2) (val:=fun t=>t.2) ?_ ?_
 rotate_left
 ·intro t g h;exact h.2
 refine x9 fun t w g h hw=>?_
 obtain⟨⟨⟨⟩,aB⟩,vv⟩:=t;have hw:Wd Γ (.blk b3 (.cells #[.int .i64 1,.string nm,vv,.int .i64 0,.string C9,.int .i64 0,.int .i64 0,.string C9,.string C9,.int .i64 0,.int .i64 0,.string C9,.int .i64 0,.int .i64 0,.int .i64 0] 79)::.own (.slice (some aB) 1 1) 77 4 [enc (⟨(B3 toks (at'+2+2*0)).Text,H2⟩:F1)]::A9 bp a n c (at'+2+2*0+1) e1 e2::.own vv 77 4 (((C6 toks (at'+2) 0).map enc)++[enc (⟨(B3 toks (at'+2+2*0)).Text,H2⟩:F1)])::(S++[.blk b2 (.cells (cG ⟨⟨0,C9,[],0,E0,E0,0,0,0⟩,none,0,0⟩).toArray 79)])) w:=hw
 obtain⟨A2,N2,C2,rfl,hN2,hNC2,hC2⟩:=hw.own_shape (i:=3) rfl
 rw[show ((C6 toks (at'+2) 0).map enc)++[enc (⟨(B3 toks (at'+2+2*0)).Text,H2⟩:F1)]=(C6 toks (at'+2) (0+1)).map enc from EJ _]at hw hN2
 have hw:Wd Γ (.blk b2 (.cells (cG ⟨⟨0,C9,[],0,E0,E0,0,0,0⟩,none,0,0⟩).toArray 79)::.blk b3 (.cells (cG ⟨J0 nm (C6 toks (at'+2) (0+1)),A2,N2,C2⟩).toArray 79)::A9 bp a n c (at'+2+2*0+1) e1 e2::.own (.slice A2 N2 C2) 77 4 ((C6 toks (at'+2) (0+1)).map enc)::S) w:=(hw.dropAt 1).perm K1
 have hw:Wd Γ (.own (.slice A2 N2 C2) 77 4 ((C6 toks (at'+2) (0+1)).map enc)::A9 bp a n c (at'+2+2*0+1) e1 e2::.blk b3 (.cells (cG ⟨J0 nm (C6 toks (at'+2) (0+1)),A2,N2,C2⟩).toArray 79)::.blk b2 (.cells (cG ⟨⟨0,C9,[],0,E0,E0,0,0,0⟩,none,0,0⟩).toArray 79)::S) w:=hw.ps [1,2,3]
 have key:∀k,I4 toks (at'+2+2*k+1) 4 G8=decide (k+1<m)∨¬k<m:=fun k=>by
  by_cases h1:k+1<m
  ·refine Or.inl ?_
   rw[decide_eq_true h1];have:=hr.comma k h1
   rwa [show at'+3+2*k=at'+2+2*k+1 from by omega]at this
  ·by_cases h2:k<m
   ·refine Or.inl ?_
    rw[decide_eq_false h1];have:=hr.last
    rwa [show at'+1+2*m=at'+2+2*k+1 from by omega]at this
   ·exact Or.inr h2
 repeat first|refine C3 ?_|refine C4 ?_;intro w hw
 refine C7 (fun μ ρ w=>∃(k:Nat) (A:Option Addr) (N C:Nat),μ+k=m∧k<m∧Has ρ [(0,.pointer (some ⟨bp,0,none⟩)),(2,.pointer (some ⟨b2,0,none⟩)),(3,.pointer (some ⟨b3,0,none⟩))]∧Wd Γ (.own (.slice A N C) 77 4 ((C6 toks (at'+2) (k+1)).map enc)::A9 bp a n c (at'+2+2*k+1) e1 e2::.blk b3 (.cells (cG ⟨J0 nm (C6 toks (at'+2) (k+1)),A,N,C⟩).toArray 79)::.blk b2 (.cells (cG ⟨⟨0,C9,[],0,E0,E0,0,0,0⟩,none,0,0⟩).toArray 79)::S) w) m ⟨0,A2,N2,C2,by omega,by omega,⟨rfl,rfl,rfl,trivial⟩,hw⟩ ?_
 clear hw;rintro μ ρ w ⟨k,A,N,C,hk,hkm,hρ,hw⟩
 rw[hρ.eq];clear hρ;obtain⟨A',N',C',hE,hNl,hNC,hC⟩:=hw.own_shape (i:=0) rfl
 cases hE
 have hlk:(C6 toks (at'+2) (k+1)).length=k+1:=by unfold C6;simp
 simp only[List.length_map,hlk]at hNl
 have hmm:=hr.many
 repeat first|refine C3 ?_|refine C4 ?_;intro w hw
 refine D1 (vs:=[.pointer (some ⟨bp,0,none⟩),.int .i64 4,.string G8]) ?_
 refine(J7 4 G8 (by omega) hN ht (hw.ps [1])).mono ?_
 clear hw;rintro r w ⟨rfl,hw⟩
 rw[(key k).resolve_right (by omega)]at hw ⊢
 refine⟨_,rfl,?_⟩;repeat first|refine C3 ?_|refine C4 ?_;intro w hw
 refine A0 rfl (fun h=>?_) (fun h=>?_)
 ·have h1:=of_decide_eq_true h
  rw[if_pos h]at hw;have hop:NR (B3 toks (at'+2+2*(k+1))):=hr.vars (k+1) h1
  have hw:Wd Γ (.own (.slice A N C) 77 4 ((C6 toks (at'+2) (k+1)).map enc)::A9 bp a n c (at'+2+2*(k+1)) e1 e2::.blk b3 (.cells (cG ⟨J0 nm (C6 toks (at'+2) (k+1)),A,N,C⟩).toArray 79)::.blk b2 (.cells (cG ⟨⟨0,C9,[],0,E0,E0,0,0,0⟩,none,0,0⟩).toArray 79)::S) w:=hw.ps [1]
  clear h;repeat first|refine C3 ?_|refine C4 ?_;intro w hw
  refine W1 [.blk b2 (.cells (cG ⟨⟨0,C9,[],0,E0,E0,0,0,0⟩,none,0,0⟩).toArray 79)] [.blk b3 (.cells (cG ⟨J0 nm (C6 toks (at'+2) (k+1)),A,N,C⟩).toArray 79)] (.own (.slice A N C) 77 4 ((C6 toks (at'+2) (k+1)).map enc)::A9 bp a n c (at'+2+2*(k+1)) e1 e2::S) [] [41,42,43] [] [[],[],[],[1],[1],[1],[],[0,1]] [[],[0],[],[1],[1],[1],[],[0,1]] (by rw[List.append_nil];exact hw.ps [2,3]) ?_
  repeat(first|refine mY ?_|refine mP ?_|refine M9 ?_|refine X3 ?_|refine j0 ?_)
  refine X8 (c:=1) (T:=Unit) (T':=Unit) (vs:=[.pointer (some ⟨bp,0,none⟩)]) (fun _=>.agg (enc (⟨(B3 toks (at'+2+2*(k+1))).Text,H2⟩:F1)).toArray) (fun _=>A9 bp a n c (at'+2+2*(k+1)+1) e1 e2::.own (.slice A N C) 77 4 ((C6 toks (at'+2) (k+1)).map enc)::S) (R:=fun _=>.own (.slice A N C) 77 4 ((C6 toks (at'+2) (k+1)).map enc)::A9 bp a n c (at'+2+2*(k+1)) e1 e2::S) (fun _ Y w hw=>(FD hop (by omega) hN ht (hw.ps [1]:Wd Γ (A9 bp a n c (at'+2+2*(k+1)) e1 e2::(.own (.slice A N C) 77 4 ((C6 toks (at'+2) (k+1)).map enc)::(S++Y))) w)).mono fun r w h=>⟨(),h.1,h.2⟩) ?_
  refine R5 (T:=Unit) (fun _=>[enc (⟨(B3 toks (at'+2+2*(k+1))).Text,H2⟩:F1)]) ?_ ?_
  rotate_left
  ·intro t g h;have h2:g 41=_:=h
   show Q1 _ _ [(0,g 41)]=_
   rw[h2];rfl
  refine w9 (T:=Unit×Addr) (j:=2) (j2:=0) (fun t=>some t.2) (fun _=>[enc (⟨(B3 toks (at'+2+2*(k+1))).Text,H2⟩:F1)]) ?_ ?_
  rotate_left
  ·intro t g h;exact h.2
  refine m4 ?_;refine X6 (T:=(Unit×Addr)×Value) (j:=2) (val:=fun t=>t.2) ?_ ?_
  rotate_left
  ·intro t g h;exact h.2
  refine x9 fun t w g h hw=>?_
  obtain⟨⟨⟨⟩,aB⟩,vv⟩:=t;have hw:Wd Γ (.blk b3 (.cells #[.int .i64 1,.string nm,vv,.int .i64 0,.string C9,.int .i64 0,.int .i64 0,.string C9,.string C9,.int .i64 0,.int .i64 0,.string C9,.int .i64 0,.int .i64 0,.int .i64 0] 79)::.own (.slice (some aB) 1 1) 77 4 [enc (⟨(B3 toks (at'+2+2*(k+1))).Text,H2⟩:F1)]::A9 bp a n c (at'+2+2*(k+1)+1) e1 e2::.own vv 77 4 (((C6 toks (at'+2) (k+1)).map enc)++[enc (⟨(B3 toks (at'+2+2*(k+1))).Text,H2⟩:F1)])::(S++[.blk b2 (.cells (cG ⟨⟨0,C9,[],0,E0,E0,0,0,0⟩,none,0,0⟩).toArray 79)])) w:=hw
  obtain⟨A2,N2,C2,rfl,hN2,hNC2,hC2⟩:=hw.own_shape (i:=3) rfl
  rw[show ((C6 toks (at'+2) (k+1)).map enc)++[enc (⟨(B3 toks (at'+2+2*(k+1))).Text,H2⟩:F1)]=(C6 toks (at'+2) ((k+1)+1)).map enc from EJ _]at hw hN2
  have hw:Wd Γ (.blk b2 (.cells (cG ⟨⟨0,C9,[],0,E0,E0,0,0,0⟩,none,0,0⟩).toArray 79)::.blk b3 (.cells (cG ⟨J0 nm (C6 toks (at'+2) ((k+1)+1)),A2,N2,C2⟩).toArray 79)::A9 bp a n c (at'+2+2*(k+1)+1) e1 e2::.own (.slice A2 N2 C2) 77 4 ((C6 toks (at'+2) ((k+1)+1)).map enc)::S) w:=(hw.dropAt 1).perm K1
  have hw:Wd Γ (.own (.slice A2 N2 C2) 77 4 ((C6 toks (at'+2) ((k+1)+1)).map enc)::A9 bp a n c (at'+2+2*(k+1)+1) e1 e2::.blk b3 (.cells (cG ⟨J0 nm (C6 toks (at'+2) ((k+1)+1)),A2,N2,C2⟩).toArray 79)::.blk b2 (.cells (cG ⟨⟨0,C9,[],0,E0,E0,0,0,0⟩,none,0,0⟩).toArray 79)::S) w:=hw.ps [1,2,3]
  repeat first|refine C3 ?_|refine C4 ?_;intro w hw
  exact⟨μ-1,by omega,k+1,A2,N2,C2,by omega,by omega,⟨rfl,rfl,rfl,trivial⟩,hw⟩
 ·have h1:=of_decide_eq_false h
  have hkm1:k+1=m:=by omega
  rw[if_neg (by rw[h];decide)]at hw
  subst hkm1;have hw:Wd Γ (A9 bp a n c (at'+1+2*(k+1)) e1 e2::.own (.slice A N C) 77 4 ((C6 toks (at'+2) (k+1)).map enc)::.blk b3 (.cells (cG ⟨J0 nm (C6 toks (at'+2) (k+1)),A,N,C⟩).toArray 79)::.blk b2 (.cells (cG ⟨⟨0,C9,[],0,E0,E0,0,0,0⟩,none,0,0⟩).toArray 79)::S) w:=by
   rw[show at'+1+2*(k+1)=at'+2+2*k+1 from by omega];exact hw
  clear h;repeat first|refine C3 ?_|refine C4 ?_;intro w hw
  refine D1 (vs:=[.pointer (some ⟨bp,0,none⟩),.int .i64 4,.string Ce]) ?_
  refine(Bj 4 Ce hr.rpar (by omega) hN ht hw).mono ?_
  clear hw;rintro r w ⟨rfl,hw⟩
  refine⟨_,rfl,?_⟩;repeat first|refine C3 ?_|refine C4 ?_;intro w hw
  refine B0 (i:=3) ?_
  intro w hw;have hw:Wd Γ (.blk b2 (.cells (cG ⟨J0 nm (C6 toks (at'+2) (k+1)),A,N,C⟩).toArray 79)::.own (.slice A N C) 77 4 ((C6 toks (at'+2) (k+1)).map enc)::A9 bp a n c (at'+1+2*(k+1)+1) e1 e2::.blk b3 (.cells (cG ⟨J0 nm (C6 toks (at'+2) (k+1)),A,N,C⟩).toArray 79)::S) w:=hw.ps [1,3]
  repeat first|refine C3 ?_|refine C4 ?_;intro w hw
  refine⟨[.agg (cG ⟨J0 nm (C6 toks (at'+2) (k+1)),A,N,C⟩).toArray],⟨M3 (i:=0) hw rfl rfl rfl,trivial⟩,(A,N,C),rfl,?_⟩
  rw[show at'+2*(k+1)+2=at'+1+2*(k+1)+1 from by omega]
  exact hw.drop.dropAt 2
end
end Go.Proofs.YtlimglpjpcfpdaaGreatDoor
end
section
open Go
namespace Mk
attribute [local irreducible] Calls
section
variable {PP:List PanicEntry→World→Prop}{P:Program}{n:Nat}{ops:List Oper}{Γ:B5}{K:List B1}{wr tc stab:List (List Nat)}{Q:Fr→World→Prop}{i:Nat}{rest:List Oper}{ρ:Fr}{M:Nat→Fr→List B1}{o:Oper}{v:Value}
theorem eC(hy:∀Y w g,Wd Γ (K++(E1 tc stab i M g++Y)) w→Step P o (D9 stab.flatten g ρ) w fun u w'=>u=v∧Wd Γ (K++(E1 tc stab i M g++Y)) w')(hw0:wr.getD i []=[])(hg:o.guard=none)(ho:EE tc stab i o.dst=true)
  (h:MSwE PP (mV P n ops Γ K wr tc stab) Q (i+1) rest ⟨C1 ρ o.dst v,M⟩):MSwE PP (mV P n ops Γ K wr tc stab) Q i (o::rest) ⟨ρ,M⟩:=by
 have hn:∀c,Mt.nxt (mV P n ops Γ K wr tc stab) i ⟨ρ,M⟩ c=M:=fun c=>by
  funext x;simp only[Mt.nxt,O8.w,hw0];rfl
 refine⟨⟨v,M⟩,⟨fun Γ' Y w g hr hw=>?_⟩,?_⟩
 ·have hΓ:Γ'=Γ:=hr
  subst hΓ;rw[hn];refine⟨fun _=>Step.toE ((hy Y w g hw).mono fun u w' ⟨h1,h2⟩=>⟨Γ',rfl,?_,fun _=>h1⟩),fun hf=>?_⟩
  ·have:=HL (g:=g) (v:=u) ho M
   show Wd Γ' (K++(E1 tc stab i M (C1 g o.dst u)++Y)) w'
   rw[this];exact h2
  ·rw[S4 hg]at hf;cases hf
 ·simp only[Mt.next,hn];exact h
theorem eY(h:MSwE PP (mV P n ops Γ K wr tc stab) Q (i+1) rest ⟨C1 ρ o.dst v,M⟩)(hw0:wr.getD i []=[]:=by exact rfl)(hg:o.guard=none:=by exact rfl)(ho:EE tc stab i o.dst=true:=by exact rfl)
  (hy:∀Y w g,Wd Γ (K++(E1 tc stab i M g++Y)) w→Yields P o (D9 stab.flatten g ρ) w v:=by (intro Y w g hw;exact LC)):MSwE PP (mV P n ops Γ K wr tc stab) Q i (o::rest) ⟨ρ,M⟩:=
 eC (fun Y w g hw=>(hy Y w g hw).step ⟨rfl,hw⟩) hw0 hg ho h
theorem eM{x:Nat}(m:Fr→List B1)(hs:∀Y w g,Wd Γ (K++(E1 tc stab i M g++Y)) w→S1 PP P o (D9 stab.flatten g ρ) w fun u w'=>Wd Γ (K++(E1 tc stab i (K3 M x m) (C1 g o.dst u)++Y)) w'∧(S2 stab o.dst=false→u=v))
  (h:MSwE PP (mV P n ops Γ K wr tc stab) Q (i+1) rest ⟨C1 ρ o.dst v,K3 M x m⟩) (hw0:wr.getD i []=[x]:=by exact rfl) (hg:o.guard=none:=by exact rfl):MSwE PP (mV P n ops Γ K wr tc stab) Q i (o::rest) ⟨ρ,M⟩:=by
 have hn:Mt.nxt (mV P n ops Γ K wr tc stab) i ⟨ρ,M⟩ ⟨v,fun _=>m⟩=K3 M x m:=by
  funext y;simp only[Mt.nxt,O8.w,hw0];rfl
 refine⟨⟨v,fun _=>m⟩,⟨fun Γ' Y w g hr hw=>?_⟩,?_⟩
 ·have hΓ:Γ'=Γ:=hr
  subst hΓ;rw[hn];refine⟨fun _=>(hs Y w g hw).mono fun u w' ⟨h1,h2⟩=>⟨Γ',rfl,h1,h2⟩,fun hf=>?_⟩
  rw[S4 hg]at hf;cases hf
 ·simp only[Mt.next,hn];exact h
theorem eS{c:Nat}{F:Fr→List B1}(F':Fr→List B1)
  (hs:∀g w Y,Wd Γ (F (D9 (stab.getD c []) g C8)++(K++Y)) w→S1 PP P o (D9 stab.flatten g ρ) w fun u w'=>(S2 stab o.dst=false→u=v)∧Wd Γ (F' (D9 (stab.getD c []) (C1 g o.dst u) C8)++(K++Y)) w')
  (h:MSwE PP (mV P n ops Γ K wr tc stab) Q (i+1) rest ⟨C1 ρ o.dst v,K3 M c F'⟩) (hM:M c=F:=by first|exact B2|exact LQ|exact t6|exact((A4 (by decide)).trans B2)|exact rfl) (hw0:wr.getD i []=[c]:=by exact rfl) (ht:tc.getD i []=[c]:=by exact rfl) (hg:o.guard=none:=by exact rfl) :
  MSwE PP (mV P n ops Γ K wr tc stab) Q i (o::rest) ⟨ρ,M⟩:=by
 refine eM _ (fun Y w g hw=>?_) h hw0 hg
 rw[d9 ht,hM]at hw;refine(hs g w Y hw.swapApp).mono ?_
 rintro u w' ⟨h2,h3⟩
 refine⟨?_,h2⟩
 rw[d9 ht,B2];exact h3.swapApp
theorem Fj{T T':Type}{c dd f:Nat}{args:List Operand}{tys:Array TypeId}{ty:TypeId}{pos:String}{es:Array Edge}{vs:List Value}{φ:T→Fr→Prop}{R:T→List B1}[B9 P f](val:T'→Value)(R':T'→List B1)
  (hcall:∀t Z w,Wd Γ (R t++Z) w→Calls P f vs.toArray w (Ends (fun u w'=>∃t':T',u=val t'∧Wd Γ (R' t'++Z) w') PP))
  (h:MSwE PP (mV P n ops Γ K wr tc stab) Q (i+1) rest ⟨C1 ρ (some dd) undef,K3 M c (N7 (fun (t:T') g=>g dd=val t) R')⟩)
  (hw0:wr.getD i []=[c]:=by exact rfl) (ht:tc.getD i []=[c]:=by exact rfl) (hM:M c=N7 φ R:=by first|exact B2|exact LQ|exact t6|exact((A4 (by decide)).trans B2)|exact((A4 (by decide)).trans t6)|exact rfl)
  (hs:(stab.getD c []).contains dd=true:=by exact rfl) (hfr:S2 stab (some dd)=true:=by exact rfl) (ha:∀g,EvL (D9 stab.flatten g ρ) args vs:=by intro g;exact u7) :
  MSwE PP (mV P n ops Γ K wr tc stab) Q i (⟨some dd,.call { callee:=.value (.func f),args:=args.toArray,argTypes:=tys },ty,pos,es,none⟩::rest) ⟨ρ,M⟩:=
 eS (v:=undef) (N7 (fun (t:T') g=>g dd=val t) R') (fun g w Y hw=>by
  obtain⟨t,-,hw⟩:=R0 hw
  have hr:(execOp (ev (D9 stab.flatten g ρ)) ⟨some dd,.call { callee:=.value (.func f),args:=args.toArray,argTypes:=tys },ty,pos,es,none⟩).run P w=.ok (.enter f vs.toArray) w:=by
   simp only[execOp,resolve,(ha g).eqA,ev,Deferred.ofValue,Sem.run_bind,Sem.run_pure,Result.andThen_ok,invoke]
   simp[M0]
  unfold S1;rw[hr];refine(hcall t _ _ hw).mono ?_
  intro e w' he;refine he.mono ?_ fun ch w h=>h
  rintro u w' ⟨t',rfl,hw'⟩
  refine⟨fun hh=>(by rw[hfr]at hh;cases hh),W6 t' ?_ hw'⟩
  rw[I0 (by simpa using hs)];exact upd_same _ _ _) h hM hw0 ht rfl
theorem Ls{id:Nat}{l:List Oper}{QQ:Exit→Fr→World→Prop}{w:World}(PP:List PanicEntry→World→Prop)(K:List B1)(M:List (Fr→List B1))(wr tc stab:List (List Nat))(hw:Wd Γ (K++(List.range stab.length).flatMap fun x=>(ML M) x (D9 (stab.getD x []) ρ C8)) w)
  (hPP:∀ch ρ w,PP ch w→QQ (.panic ch) ρ w)
  (h:MSwE PP (mV P n l Γ K wr tc stab) (fun ρ w=>QQ .normal ρ w) 0 l ⟨ρ,ML M⟩) (hm:P.follows .mixedOrders=true:=by kernel_rfl) (hk:M1 n l wr tc stab=true:=by kernel_rfl):W P n (.region id l.toArray true) QQ ρ w:=
 NG K (ML M) wr tc stab true hm hk hPP hw h
theorem noCell{L:List Nat}{c:Nat}{w:World}{Y:List B1}{g:Fr}{N:Nat→List Nat}{φ:Empty→Fr→Prop}{R:Empty→List B1}(hc:c∈L)(hM:M c=N7 φ R)(hw:Wd Γ (K++((L.flatMap fun x=>M x (D9 (N x) g C8))++Y)) w):False:=by
 obtain⟨l1,l2,rfl⟩:=List.append_of_mem hc
 rw[List.flatMap_append,List.flatMap_cons,hM]at hw;have hw:Wd Γ (N7 φ R (D9 (N c) g C8)++(K++((l1.flatMap fun x=>M x (D9 (N x) g C8))++((l2.flatMap fun x=>M x (D9 (N x) g C8))++Y)))) w:=hw.perm (by
  rw[List.append_assoc,List.append_assoc];exact(List.Perm.append_left K (List.perm_append_comm_assoc _ _ _)).trans (List.perm_append_comm_assoc _ _ _))
 obtain⟨t,-,-⟩:=R0 hw
 exact t.elim
theorem GT{c:Nat}{φ:Empty→Fr→Prop}{R:Empty→List B1}(h:MSwE PP (mV P n ops Γ K wr tc stab) Q (i+1) rest ⟨C1 ρ o.dst undef,M⟩)(hM:M c=N7 φ R:=by first|exact B2|exact rfl)(ht:(tc.getD i []).contains c=true:=by exact rfl) :
  MSwE PP (mV P n ops Γ K wr tc stab) Q i (o::rest) ⟨ρ,M⟩:=by
 have hn:Mt.nxt (mV P n ops Γ K wr tc stab) i ⟨ρ,M⟩ ⟨undef,M⟩=M:=by
  funext x;simp only[Mt.nxt];cases ((mV P n ops Γ K wr tc stab).w i).contains x <;> rfl
 refine⟨⟨undef,M⟩,⟨fun Γ' Y w g hr hw=>?_⟩,?_⟩
 ·exact(noCell (L:=tc.getD i []) (N:=fun x=>stab.getD x []) (by simpa using ht) hM hw).elim
 ·simp only[Mt.next,hn];exact h
theorem CE{c:Nat}{φ:Empty→Fr→Prop}{R:Empty→List B1}(hM:M c=N7 φ R:=by first|exact B2|exact rfl)(hl:(List.range stab.length).contains c=true:=by exact rfl):MSwE PP (mV P n ops Γ K wr tc stab) Q i [] ⟨ρ,M⟩:=fun Γ' w g hr hw=>by
 refine(noCell (L:=List.range stab.length) (N:=fun x=>stab.getD x []) (Y:=[]) (K:=K) (Γ:=Γ') (w:=w) (g:=g) (by simpa using hl) hM ?_).elim
 rw[List.append_nil];exact hw
theorem AO{id:Nat}{l:List Oper}{QQ:Exit→Fr→World→Prop}{w:World}(PP:List PanicEntry→World→Prop)(K X0 X1 X2:List B1)(N1 N2:List Nat)(wr tc:List (List Nat))(hw:Wd Γ (K++(X0++(X1++X2))) w)
  (hPP:∀ch ρ w,PP ch w→QQ (.panic ch) ρ w)
  (h:MSwE PP (mV P n l Γ K wr tc [[],N1,N2]) (fun ρ w=>QQ .normal ρ w) 0 l ⟨ρ,ML [fun _=>X0,N7 (T:=Unit) (fun _ _=>True) (fun _=>X1),N7 (T:=Unit) (fun _ _=>True) (fun _=>X2)]⟩)
  (hm:P.follows .mixedOrders=true:=by kernel_rfl) (hk:M1 n l wr tc [[],N1,N2]=true:=by kernel_rfl):W P n (.region id l.toArray true) QQ ρ w:=
 Ls PP K [fun _=>X0,N7 (T:=Unit) (fun _ _=>True) (fun _=>X1),N7 (T:=Unit) (fun _ _=>True) (fun _=>X2)] wr tc [[],N1,N2] (by
  show Wd Γ (K++(X0++(N7 (T:=Unit) (fun _ _=>True) (fun _=>X1) (D9 N1 ρ C8)++(N7 (T:=Unit) (fun _ _=>True) (fun _=>X2) (D9 N2 ρ C8)++[])))) w
  rw[List.append_nil];have h1:Wd Γ (X1++(X2++(K++X0))) w:=hw.perm (by
   rw[←List.append_assoc,←List.append_assoc X1];exact List.perm_append_comm)
  have h2:Wd Γ (N7 (T:=Unit) (fun _ _=>True) (fun _=>X1) (D9 N1 ρ C8)++(X2++(K++X0))) w:=W6 () trivial h1
  have h3:Wd Γ (X2++(N7 (T:=Unit) (fun _ _=>True) (fun _=>X1) (D9 N1 ρ C8)++(K++X0))) w:=h2.perm (List.perm_append_comm_assoc _ _ _)
  have h4:Wd Γ (N7 (T:=Unit) (fun _ _=>True) (fun _=>X2) (D9 N2 ρ C8)++(N7 (T:=Unit) (fun _ _=>True) (fun _=>X1) (D9 N1 ρ C8)++(K++X0))) w:=W6 () trivial h3
  have h5:Wd Γ (N7 (T:=Unit) (fun _ _=>True) (fun _=>X1) (D9 N1 ρ C8)++(N7 (T:=Unit) (fun _ _=>True) (fun _=>X2) (D9 N2 ρ C8)++(K++X0))) w:=h4.perm (List.perm_append_comm_assoc _ _ _)
  exact h5.perm (by
   rw[←List.append_assoc,←List.append_assoc K];exact List.perm_append_comm)) hPP h hm hk
end
end Mk
end
section
open Go Mk
namespace Go.Proofs.YtlimglpjpcfpdaaGreatDoor
set_option maxHeartbeats 32000000
def GQ:ByteArray:=⟨#[105,110]⟩
def Cp:ByteArray:=⟨#[46,46]⟩
def FU:ByteArray:=⟨#[43]⟩
def RU:ByteArray:=⟨#[61]⟩
def RS:ByteArray:=⟨#[33,61]⟩
def Rb:ByteArray:=⟨#[60]⟩
def Ra:ByteArray:=⟨#[60,61]⟩
def RY:ByteArray:=⟨#[62]⟩
def Rh:ByteArray:=⟨#[62,61]⟩
def Q6:List ByteArray:=[C9,RU,RS,Rb,Ra,RY,Rh]
def opAt(toks:List Tok)(k:Nat):Nat:=if I4 toks k 4 RU=true then 1 else if I4 toks k 4 RS=true then 2 else if I4 toks k 4 Rb=true then 3 else if I4 toks k 4 Ra=true then 4 else if I4 toks k 4 RY=true then 5 else if I4 toks k 4 Rh=true then 6 else 0
def I1{α β:Type}(x:PR α)(f:α→Nat→PR β):PR β:=match x with
 | .ok (a,k)=>f a k
 | .error q=>.error q
def Z0(toks:List Tok)(e:F8):Nat→List F1→Nat→PR (List F1)
 | 0,acc,k=>.ok (acc,k)
 | f+1,acc,k=>if I4 toks k 4 G8=true then I1 (ER toks e (k+1)) fun o k1=>Z0 toks e f (acc++[o]) k1 else .ok (acc,k)
def EO(toks:List Tok)(e:F8)(kind:Int)(k:Nat):PR D6:=
 I1 (R1 toks e k) fun s k1=>I1 (o9 toks e 4 Q0 k1) fun _ k2=>I1 (ER toks e k2) fun o k3=>I1 (Z0 toks e (toks.length+1) [o] k3) fun os k4=>I1 (o9 toks e 4 Ce k4) fun _ k5=>.ok (⟨kind,s,os,0,E0,E0,0,0,0⟩,k5)
def HH(toks:List Tok)(e:F8)(l:F1)(k:Nat):PR D6:=
 I1 (u5 toks e k) fun lo k1=>I1 (o9 toks e 4 Cp k1) fun _ k2=>I1 (u5 toks e k2) fun hi k3=>.ok (⟨4,C9,[],0,l,E0,0,lo,hi⟩,k3)
def Hh(toks:List Tok)(e:F8)(k:Nat):PR Int:=
 if I4 toks k 4 FU=true then Fp (fun v=>IntKind.i64.wrap v) (Y3 toks e 9223372036854775807 (k+1))
 else if I4 toks k 4 w8=true then Fp (fun v=>IntKind.i64.wrap (-(IntKind.i64.wrap v))) (Y3 toks e 9223372036854775807 (k+1))
 else .ok (0,k)
def HJ(toks:List Tok)(e:F8)(l:F1)(k:Nat):PR D6:=
 if opAt toks k=0 then .error (U6 toks k e,50) else I1 (ER toks e (k+1)) fun r k1=>I1 (Hh toks e k1) fun o k2=>.ok (⟨3,C9,[],opAt toks k,l,r,o,0,0⟩,k2)
def S0(toks:List Tok)(e:F8)(k:Nat):PR D6:=
 if I4 toks k 1 S8=true then EO toks e 2 (k+1)
 else if (B3 toks k).Kind=1∧I4 toks (k+1) 4 Q0=true then EO toks e 1 k
 else I1 (ER toks e k) fun l k1=>if (B3 toks k).Kind=1∧I4 toks k1 1 GQ=true then HH toks e l (k1+1) else HJ toks e l k1
def Ol(Γ:B5)(S:List B1)(bp:Nat)(a:Option Addr)(n c:Nat)(e:F8):PR D6→Ending→World→Prop
 | .ok (g,k),r,w=>∃v:GA,r=.returned (.agg (cG ⟨g,v.1,v.2.1,v.2.2⟩).toArray)∧k≤n∧Wd Γ (.own (Ql v) 77 4 (g.Args.map enc)::A9 bp a n c k e.Line e.Col::S) w
 | .error (p,er),r,w=>r=.panicked [p9 p er]∧∃k,Wd Γ (A9 bp a n c k e.Line e.Col::S) w
section
variable {Γ:B5}{S:List B1}{w:World}{bp:Nat}{a:Option Addr}{n c at':Nat}{e:F8}{toks:List Tok}
theorem W9{k k':Nat}{s:ByteArray}(h:R1 toks e k=.ok (s,k')):k'=k+1:=by
 unfold R1 at h;split at h
 ·split at h
  ·cases h;rfl
  ·cases h
 ·cases h
theorem V2{most:Int}{k k':Nat}{v:Int}(h:Y3 toks e most k=.ok (v,k')):k'=k+1:=by
 unfold Y3 at h;split at h
 ·split at h
  ·cases h;rfl
  ·cases h
 ·cases h
theorem I8{α β:Type}{f:α→β}{x:PR α}{y:β}{k:Nat}(h:Fp f x=.ok (y,k)):∃z,x=.ok (z,k)∧y=f z:=by
 cases x with
 | error q=>cases h
 | ok q=>
  obtain⟨z,k'⟩:=q;cases h
  exact⟨z,rfl,rfl⟩
theorem Aw{k k':Nat}{o:F1}(h:ER toks e k=.ok (o,k')):k<k':=by
 unfold ER at h;split at h
 ·obtain⟨z,hz,-⟩:=I8 h
  have:=W9 hz
  omega
 ·split at h
  ·split at h
   ·cases h
   ·cases h;omega
  ·obtain⟨z,hz,-⟩:=I8 h
   unfold u5 at hz;split at hz
   ·obtain⟨z2,hz2,-⟩:=I8 hz
    have:=V2 hz2
    omega
   ·obtain⟨z2,hz2,-⟩:=I8 hz
    have:=V2 hz2
    omega
theorem Hz{k k':Nat}{o:F1}(h:ER toks e k=.ok (o,k')):k'≤toks.length:=by
 have num:∀ {most:Int} {j j':Nat} {v:Int},Y3 toks e most j=.ok (v,j')→j'≤toks.length:=fun {most j j' v} h=>by
  have h1:=V2 h
  unfold Y3 at h;split at h
  ·rename_i hk
   have:=W8 (toks:=toks) (at':=j) (by omega)
   omega
  ·cases h
 unfold ER at h;split at h
 ·rename_i hk
  obtain⟨z,hz,-⟩:=I8 h
  have h1:=W9 hz
  have:=W8 (toks:=toks) (at':=k) (by omega)
  omega
 ·split at h
  ·rename_i hk
   split at h
   ·cases h
   ·cases h
    have:=W8 (toks:=toks) (at':=k) (by omega)
    omega
  ·obtain⟨z,hz,-⟩:=I8 h
   unfold u5 at hz;split at hz
   ·obtain⟨z2,hz2,-⟩:=I8 hz
    exact num hz2
   ·obtain⟨z2,hz2,-⟩:=I8 hz
    exact num hz2
theorem PO{k:Nat}(h:opAt toks k≠0):k<toks.length:=by
 by_cases hk:k<toks.length
 ·exact hk
 ·refine absurd ?_ h
  have hf:∀t,I4 toks k 4 t=false:=fun t=>by
   cases hi:I4 toks k 4 t with
   | true=>exact absurd (U4 (by decide) hi) hk
   | false=>rfl
  unfold opAt;simp[hf]
theorem Aj{S:List B1}{w:World}(hw:Wd Γ S w):Calls Tryz.prog 111 #[] w fun r w'=>∃q:Addr,r=.returned (.slice (some q) 7 7)∧Wd Γ (.own (.slice (some q) 7 7) 9 1 (Q6.map fun s=>[.string s])::S) w':=by
 refine A5 Tryz.func111 rfl rfl ?_
 refine A1 ?_;refine F0 (Q6.map fun s=>[.string s]) ?_
 intro q w hw;refine A1 ?_;exact⟨_,rfl,q,rfl,hw⟩
def Dz(toks:List Tok)(k:Nat):Nat→Nat
 | 0=>0
 | j+1=>if Dz toks k j≠0 then Dz toks k j else if 0<j∧I4 toks k 4 (Q6.getD j C9)=true then j else 0
theorem NF{k:Nat}:Dz toks k 7=opAt toks k:=by
 have g0:Q6.getD 1 C9=RU:=rfl
 have g1:Q6.getD 2 C9=RS:=rfl
 have g2:Q6.getD 3 C9=Rb:=rfl
 have g3:Q6.getD 4 C9=Ra:=rfl
 have g4:Q6.getD 5 C9=RY:=rfl
 have g5:Q6.getD 6 C9=Rh:=rfl
 simp only[Dz,opAt,g0,g1,g2,g3,g4,g5]
 cases I4 toks k 4 RU <;> cases I4 toks k 4 RS <;> cases I4 toks k 4 Rb <;> cases I4 toks k 4 Ra <;> cases I4 toks k 4 RY <;> cases I4 toks k 4 Rh <;> simp
theorem KC(hW:DX toks)(hat:at'≤n)(hN:toks.length≤1000000)(ht:D2 Γ (.slice a n c) 5 (toks.map enc))(hw:Wd Γ (A9 bp a n c at' e.Line e.Col::S) w) :
  Calls Tryz.prog 99 #[.pointer (some ⟨bp,0,none⟩)] w (Ol Γ S bp a n c e (S0 toks e at')):=by
 have hn:n=toks.length:=by obtain⟨_,_,_,h1,h2,h3⟩:=ht.shape;cases h1;simpa using h2
 refine H1 Tryz.func99 rfl rfl ?_
 refine A1 ?_;refine B4 ?_;intro b2 w hw;refine A1 ?_;refine B4 ?_;intro b3 w hw;refine B0 ?_;intro w hw;have hw:Wd Γ (A9 bp a n c at' e.Line e.Col::.blk b3 (.cells (cG ⟨J0 C9 [],none,0,0⟩).toArray 79)::.blk b2 (.cells (cG ⟨⟨0,C9,[],0,E0,E0,0,0,0⟩,none,0,0⟩).toArray 79)::S) w:=hw.ps [2]
 refine A1 ?_;refine D1 (vs:=[.pointer (some ⟨bp,0,none⟩),.int .i64 1,.string S8]) ?_
 refine(J7 1 S8 hat hN ht hw).mono ?_
 clear hw;rintro r w ⟨rfl,hw⟩
 refine⟨_,rfl,?_⟩;refine A1 ?_;refine CQ (fun ρ w=>Has ρ [(0,.pointer (some ⟨bp,0,none⟩)),(2,.pointer (some ⟨b2,0,none⟩)),(3,.pointer (some ⟨b3,0,none⟩))]∧Wd Γ (A9 bp a n c (if I4 toks at' 1 S8=true then at'+1 else at') e.Line e.Col::.blk b3 (.cells (cG ⟨⟨if I4 toks at' 1 S8=true then 2 else 1,C9,[],0,E0,E0,0,0,0⟩,none,0,0⟩).toArray 79)::.blk b2 (.cells (cG ⟨⟨0,C9,[],0,E0,E0,0,0,0⟩,none,0,0⟩).toArray 79)::S) w) ?_ ?_
 ·refine A0 rfl (fun h=>?_) (fun h=>?_)
  ·have hwq:Wd Γ (A9 bp a n c (if I4 toks at' 1 S8=true then at'+1 else at') e.Line e.Col::.blk b3 (.cells (cG ⟨J0 C9 [],none,0,0⟩).toArray 79)::.blk b2 (.cells (cG ⟨⟨0,C9,[],0,E0,E0,0,0,0⟩,none,0,0⟩).toArray 79)::S) w:=hw
   clear hw;have hw:=hwq
   clear hwq;rw[h]at hw ⊢
   simp only[if_true]at hw ⊢
   refine A1 ?_;refine B0 (i:=1) ?_
   intro w hw;have hw:Wd Γ (A9 bp a n c (at'+1) e.Line e.Col::.blk b3 (.cells (cG ⟨⟨2,C9,[],0,E0,E0,0,0,0⟩,none,0,0⟩).toArray 79)::.blk b2 (.cells (cG ⟨⟨0,C9,[],0,E0,E0,0,0,0⟩,none,0,0⟩).toArray 79)::S) w:=hw
   refine A1 ?_;exact⟨⟨rfl,rfl,rfl,trivial⟩,hw⟩
  ·rw[h]at hw ⊢
   refine A1 ?_;exact⟨⟨rfl,rfl,rfl,trivial⟩,hw⟩
 clear hw;rintro ρ w ⟨hρ,hw⟩
 rw[hρ.eq];clear hρ;have hk1:(if I4 toks at' 1 S8=true then at'+1 else at')≤n:=by
  split
  ·rename_i h;have:=U4 (by decide) h;omega
  ·exact hat
 refine Cq ?_
 refine Ae (fun ρ w=>Has ρ [(0,.pointer (some ⟨bp,0,none⟩)),(2,.pointer (some ⟨b2,0,none⟩)),(3,.pointer (some ⟨b3,0,none⟩)),(23,.bool (I4 toks at' 1 S8||(decide ((B3 toks at').Kind=1)&&I4 toks (at'+1) 4 Q0)))]∧Wd Γ (A9 bp a n c (if I4 toks at' 1 S8=true then at'+1 else at') e.Line e.Col::.blk b3 (.cells (cG ⟨⟨if I4 toks at' 1 S8=true then 2 else 1,C9,[],0,E0,E0,0,0,0⟩,none,0,0⟩).toArray 79)::.blk b2 (.cells (cG ⟨⟨0,C9,[],0,E0,E0,0,0,0⟩,none,0,0⟩).toArray 79)::S) w) ?_ ?_
 ·cases hi:I4 toks at' 1 S8 with
  | true=>
   rw[hi]at hw;simp only[if_true]at hw ⊢
   refine A1 ?_;refine Ma ?_ (hct:=by decide)
   refine Ma ?_ (hct:=by decide)
   refine Ma ?_ (hct:=by decide)
   refine Ma ?_ (hct:=by decide)
   repeat(first|(first|refine Cq ?_|refine KF ?_|refine v6 ?_|refine Du ?_|refine Pr ?_|refine Lq ?_)|((first|apply Qv|apply OF);first|(refine lT ?_ ?_;(first|exact rfl|exact decide_eq_true rfl|exact hb1|exact hb2|exact hb3|exact hb4|(focus (simp;done))))|(refine lF ?_ ?_;(first|exact rfl|exact decide_eq_true rfl|exact hb1|exact hb2|exact hb3|exact hb4|(focus (simp;done)))))|(first|refine Z2 ?_|(apply GG;first|(apply Ks;first|refine lP ?_|(refine QZ ?_;intro w hw))|(apply RF;refine Fh ?_)|refine lY ?_)|(apply AB;first|refine LP ?_ (hct:=rfl)|refine Ma ?_ (hct:=rfl)|(apply Ks;first|refine lPG ?_|(refine Lt ?_;intro w hw))|refine lG ?_))|(refine B4 ?_;intro _ w hw)|(refine K4 ?_;intro _ w hw)|(refine B0 ?_;intro w hw)|(apply AB;refine Ma ?_ (hc:=by exact E4.u) (hct:=rfl)))
   exact⟨⟨rfl,rfl,rfl,rfl,trivial⟩,hw⟩
  | false=>
   rw[hi]at hw;have hw:Wd Γ (A9 bp a n c at' e.Line e.Col::.blk b3 (.cells (cG ⟨J0 C9 [],none,0,0⟩).toArray 79)::.blk b2 (.cells (cG ⟨⟨0,C9,[],0,E0,E0,0,0,0⟩,none,0,0⟩).toArray 79)::S) w:=hw
   refine A1 ?_;refine LP (hct:=by decide) ?_
   refine D1 (vs:=[.pointer (some ⟨bp,0,none⟩),.int .i64 0]) ?_ (ha:=EvL.cons (Af (by decide)) (EvL.cons rfl EvL.nil))
   refine(V4 (j:=0) (by decide) hat hN ht hw).mono ?_
   clear hw;rintro r w ⟨rfl,hw⟩
   rw[Nat.add_zero];refine⟨_,rfl,?_⟩;refine A1 ?_;refine lG ?_ (hv:=by intro hc;exact Dl Tryz.underlying104 rfl (by kernel_rfl) rfl rfl)
   refine A1 ?_;by_cases hk:(B3 toks at').Kind=1
   ·have hkc:(!decide ((1:Int)=2)&&decide ((B3 toks at').Kind=1))=true:=by rw[decide_eq_true hk];decide
    refine LP (hct:=hkc) ?_
    refine D1 (vs:=[.pointer (some ⟨bp,0,none⟩),.int .i64 1,.int .i64 4,.string Q0]) ?_ (ha:=EvL.cons (Af hkc) (EvL.cons rfl (EvL.cons rfl (EvL.cons rfl EvL.nil))))
    refine(NX (j:=1) (by decide) 4 Q0 hat hN ht hw).mono ?_
    clear hw;rintro r w ⟨rfl,hw⟩
    refine⟨_,rfl,?_⟩;generalize I4 toks (at'+1) 4 Q0=bl
    refine A1 ?_;refine LP (hct:=by decide) ?_
    refine lY (v:=.bool bl) ?_ (hy:=m9 ((Af (by decide)).trans (by rw[decide_eq_true hk])) rfl)
    refine lY (v:=.bool bl) ?_ (hy:=Z4 (congrArg Value.bool (by decide)) rfl)
    refine A1 ?_;rw[decide_eq_true hk];exact⟨⟨rfl,rfl,rfl,rfl,trivial⟩,hw⟩
   ·have hkc:(!decide ((1:Int)=2)&&decide ((B3 toks at').Kind=1))=false:=by rw[decide_eq_false hk];decide
    refine Ma (hct:=hkc) ?_
    refine LP (hct:=by decide) ?_
    refine lY (v:=.bool false) ?_ (hy:=Z4 ((Af (by decide)).trans (by rw[decide_eq_false hk])) rfl)
    refine lY (v:=.bool false) ?_ (hy:=Z4 (congrArg Value.bool (by decide)) rfl)
    refine A1 ?_;rw[decide_eq_false hk];exact⟨⟨rfl,rfl,rfl,rfl,trivial⟩,hw⟩
 clear hw;rintro ρ w ⟨hρ,hw⟩
 rw[hρ.eq];clear hρ;have hopl:=fun k o k'=>Aw (toks:=toks) (e:=e) (k:=k) (o:=o) (k':=k')
 refine A0 rfl (fun h=>?_) (fun h=>?_)
 ·obtain⟨kd,hkd⟩:∃kd:Int,kd=if I4 toks at' 1 S8=true then 2 else 1:=⟨_,rfl⟩
  obtain⟨k1,hk1d⟩:∃k1,k1=if I4 toks at' 1 S8=true then at'+1 else at':=⟨_,rfl⟩
  have hG:S0 toks e at'=EO toks e kd k1:=by
   unfold S0;rw[hkd,hk1d];cases hi:I4 toks at' 1 S8 with
   | true=>simp
   | false=>
    rw[hi,Bool.false_or,Bool.and_eq_true,decide_eq_true_eq]at h;rw[if_neg (by decide),if_pos h,if_neg (by decide),if_neg (by decide)]
  rw[←hk1d]at hk1;rw[←hk1d,←hkd]at hw;rw[hG];clear h hG hkd hk1d;unfold EO;refine A1 ?_;refine G0 (vs:=[.pointer (some ⟨bp,0,none⟩)]) ?_
  refine(FK hk1 hN ht hw).mono ?_
  clear hw;rintro r w hr
  cases hWd:R1 toks e k1 with
  | error q=>
   obtain⟨p,er⟩:=q;rw[hWd]at hr;obtain⟨rfl,k,hw⟩:=hr;exact⟨rfl,k,(hw.dropAt 1).dropAt 1⟩
  | ok q=>
  obtain⟨s,k2⟩:=q;rw[hWd]at hr;obtain⟨rfl,hk2,hw⟩:=hr;show L _ _ _ _ _ _ _
  simp only[I1]
  refine A1 ?_;refine B0 (i:=1) ?_
  intro w hw;have hw:Wd Γ (A9 bp a n c k2 e.Line e.Col::.blk b3 (.cells (cG ⟨⟨kd,s,[],0,E0,E0,0,0,0⟩,none,0,0⟩).toArray 79)::.blk b2 (.cells (cG ⟨⟨0,C9,[],0,E0,E0,0,0,0⟩,none,0,0⟩).toArray 79)::S) w:=hw
  refine A1 ?_;refine G0 (vs:=[.pointer (some ⟨bp,0,none⟩),.int .i64 4,.string Q0]) ?_
  refine(BW 4 Q0 (by decide) hk2 hN ht hw).mono ?_
  clear hw;rintro r w hr
  cases hE:o9 toks e 4 Q0 k2 with
  | error q=>
   obtain⟨p,er⟩:=q;rw[hE]at hr;obtain⟨rfl,k,hw⟩:=hr;exact⟨rfl,k,(hw.dropAt 1).dropAt 1⟩
  | ok q=>
  obtain⟨_,k3⟩:=q;rw[hE]at hr;obtain⟨rfl,hk9,hw⟩:=hr;show L _ _ _ _ _ _ _
  simp only[I1]
  refine A1 ?_;have hw:=Wd.addNil (a:=none) (E:=77) (sz:=4) hw
  have hw:Wd Γ (.own (.slice none 0 0) 77 4 (([]:List F1).map enc)::A9 bp a n c k3 e.Line e.Col::.blk b3 (.cells (cG ⟨⟨kd,s,[],0,E0,E0,0,0,0⟩,none,0,0⟩).toArray 79)::.blk b2 (.cells (cG ⟨⟨0,C9,[],0,E0,E0,0,0,0⟩,none,0,0⟩).toArray 79)::S) w:=hw
  cases hO:ER toks e k3 with
  | error q=>
   obtain⟨p,er⟩:=q;refine AO (fun ch w=>ch=[p9 p er]∧∃k,Wd Γ (A9 bp a n c k e.Line e.Col::S) w) [.blk b2 (.cells (cG ⟨⟨0,C9,[],0,E0,E0,0,0,0⟩,none,0,0⟩).toArray 79)] [.blk b3 (.cells (cG ⟨(⟨kd,s,[],0,E0,E0,0,0,0⟩:D6),none,0,0⟩).toArray 79)] (.own (.slice none 0 0) 77 4 (([]:List F1).map enc)::A9 bp a n c k3 e.Line e.Col::S) [] [32,33,34] [] [[],[],[],[1],[1],[1],[],[0,1]] [[],[0],[],[1],[1],[1],[],[0,1]] (by rw[List.append_nil];exact hw.ps [2,3]) (fun ch ρ w ⟨h1,h2⟩=>by subst h1;exact⟨rfl,h2⟩) ?_
   refine eY ?_
   refine eY ?_
   refine eY ?_
   refine Fj (c:=1) (T:=Unit) (T':=Empty) (vs:=[.pointer (some ⟨bp,0,none⟩)]) (fun t=>t.elim) (fun t=>t.elim) (φ:=fun _ _=>True) (R:=fun _=>.own (.slice none 0 0) 77 4 (([]:List F1).map enc)::A9 bp a n c k3 e.Line e.Col::S) (fun _ Y w hw=>(f9 hW hk9 hN ht (hw.ps [1]:Wd Γ (A9 bp a n c k3 e.Line e.Col::(.own (.slice none 0 0) 77 4 (([]:List F1).map enc)::(S++Y))) w)).mono fun r w h=>?_) ?_
   ·rw[hO]at h;obtain⟨rfl,k,hw⟩:=h;have hw:Wd Γ (A9 bp a n c k e.Line e.Col::(.own (.slice none 0 0) 77 4 (([]:List F1).map enc)::(S++Y))) w:=hw
    exact⟨rfl,k,Wd.left (S:=A9 bp a n c k e.Line e.Col::S) (hw.dropAt 1)⟩
   refine GT (c:=1) ?_
   refine GT (c:=1) ?_
   refine eY ?_
   refine GT (c:=1) ?_
   exact CE (c:=1)
  | ok q=>
  obtain⟨o,k9⟩:=q;refine W1 [.blk b2 (.cells (cG ⟨⟨0,C9,[],0,E0,E0,0,0,0⟩,none,0,0⟩).toArray 79)] [.blk b3 (.cells (cG ⟨(⟨kd,s,[],0,E0,E0,0,0,0⟩:D6),none,0,0⟩).toArray 79)] (.own (.slice none 0 0) 77 4 (([]:List F1).map enc)::A9 bp a n c k3 e.Line e.Col::S) [] [32,33,34] [] [[],[],[],[1],[1],[1],[],[0,1]] [[],[0],[],[1],[1],[1],[],[0,1]] (by rw[List.append_nil];exact hw.ps [2,3]) ?_
  repeat(first|refine mY ?_|refine mP ?_|refine M9 ?_|refine X3 ?_|refine j0 ?_)
  refine X8 (c:=1) (T:=Unit) (T':=Unit) (vs:=[.pointer (some ⟨bp,0,none⟩)]) (fun _=>.agg (enc o).toArray) (fun _=>A9 bp a n c k9 e.Line e.Col::.own (.slice none 0 0) 77 4 (([]:List F1).map enc)::S) (R:=fun _=>.own (.slice none 0 0) 77 4 (([]:List F1).map enc)::A9 bp a n c k3 e.Line e.Col::S) (fun _ Y w hw=>(f9 hW hk9 hN ht (hw.ps [1]:Wd Γ (A9 bp a n c k3 e.Line e.Col::(.own (.slice none 0 0) 77 4 (([]:List F1).map enc)::(S++Y))) w)).mono fun r w h=>by rw[hO]at h;exact⟨(),h.1,h.2.2⟩) ?_
  refine R5 (T:=Unit) (fun _=>[enc o]) ?_ ?_
  rotate_left
  ·intro t g h;have h2:g 32=.agg (enc o).toArray:=h
   show Q1 _ _ [(0,g 32)]=_
   rw[h2];rfl
  refine w9 (T:=Unit×Addr) (j:=2) (j2:=0) (fun t=>some t.2) (fun _=>[enc o]) ?_ ?_
  rotate_left
  ·intro t g h;exact h.2
  refine m4 ?_;refine X6 (T:=(Unit×Addr)×Value) (j:=2) (val:=fun t=>t.2) ?_ ?_
  rotate_left
  ·intro t g h;exact h.2
  refine x9 fun t w g h hw=>?_
  obtain⟨⟨⟨⟩,aB⟩,vv⟩:=t;have hw:Wd Γ (.blk b3 (.cells #[.int .i64 kd,.string s,vv,.int .i64 0,.string C9,.int .i64 0,.int .i64 0,.string C9,.string C9,.int .i64 0,.int .i64 0,.string C9,.int .i64 0,.int .i64 0,.int .i64 0] 79)::.own (.slice (some aB) 1 1) 77 4 [enc o]::A9 bp a n c k9 e.Line e.Col::.own vv 77 4 (([]:List F1).map enc++[enc o])::(S++[.blk b2 (.cells (cG ⟨⟨0,C9,[],0,E0,E0,0,0,0⟩,none,0,0⟩).toArray 79)])) w:=hw
  obtain⟨A2,N2,C2,hvv,hN2,hNC2,hC2⟩:=hw.own_shape (i:=3) rfl
  rw[hvv]at hw;rw[show ([]:List F1).map enc++[enc o]=(([]:List F1)++[o]).map enc from by rw[List.map_append];rfl]at hw hN2
  have hw:Wd Γ (.blk b2 (.cells (cG ⟨⟨0,C9,[],0,E0,E0,0,0,0⟩,none,0,0⟩).toArray 79)::.blk b3 (.cells (cG ⟨(⟨kd,s,([]++[o]),0,E0,E0,0,0,0⟩:D6),A2,N2,C2⟩).toArray 79)::A9 bp a n c k9 e.Line e.Col::.own (.slice A2 N2 C2) 77 4 ((([]:List F1)++[o]).map enc)::S) w:=(hw.dropAt 1).perm K1
  have hw:Wd Γ (.own (.slice A2 N2 C2) 77 4 ((([]:List F1)++[o]).map enc)::A9 bp a n c k9 e.Line e.Col::.blk b3 (.cells (cG ⟨(⟨kd,s,([]++[o]),0,E0,E0,0,0,0⟩:D6),A2,N2,C2⟩).toArray 79)::.blk b2 (.cells (cG ⟨⟨0,C9,[],0,E0,E0,0,0,0⟩,none,0,0⟩).toArray 79)::S) w:=hw.ps [1,2,3]
  have hk9':k9≤n:=by rw[hn];exact Hz hO
  simp only[I1]
  obtain⟨tot,htot⟩:∃t,t=Z0 toks e (toks.length+1) [o] k9:=⟨_,rfl⟩
  rw[←htot];have hw:Wd Γ (.own (.slice A2 N2 C2) 77 4 (([o]:List F1).map enc)::A9 bp a n c k9 e.Line e.Col::.blk b3 (.cells (cG ⟨⟨kd,s,[o],0,E0,E0,0,0,0⟩,A2,N2,C2⟩).toArray 79)::.blk b2 (.cells (cG ⟨⟨0,C9,[],0,E0,E0,0,0,0⟩,none,0,0⟩).toArray 79)::S) w:=hw
  refine A1 ?_;refine C7 (fun μ ρ w=>∃(f:Nat) (acc:List F1) (k:Nat) (A:Option Addr) (N C:Nat),Z0 toks e f acc k=tot∧μ=n-k∧k≤n∧n<f+k∧acc.length≤1+k∧Has ρ [(0,.pointer (some ⟨bp,0,none⟩)),(2,.pointer (some ⟨b2,0,none⟩)),(3,.pointer (some ⟨b3,0,none⟩))]∧Wd Γ (.own (.slice A N C) 77 4 ((acc:List F1).map enc)::A9 bp a n c k e.Line e.Col::.blk b3 (.cells (cG ⟨⟨kd,s,acc,0,E0,E0,0,0,0⟩,A,N,C⟩).toArray 79)::.blk b2 (.cells (cG ⟨⟨0,C9,[],0,E0,E0,0,0,0⟩,none,0,0⟩).toArray 79)::S) w) (n-k9) ⟨toks.length+1,[o],k9,A2,N2,C2,htot.symm,rfl,hk9',by omega,by simp,⟨rfl,rfl,rfl,trivial⟩,hw⟩ ?_
  clear hw hO hk9;rintro μ ρ w ⟨f,acc,k,A,N,C,hf,hμ,hkn,hfk,hal,hρ,hw⟩
  rw[hρ.eq];clear hρ;have hNl:N=acc.length:=by
   obtain⟨_,_,_,hE,h2,-,-⟩:=hw.own_shape (i:=0) rfl
   cases hE
   simpa using h2
  obtain⟨f',rfl⟩:∃f',f=f'+1:=⟨f-1,by omega⟩
  unfold Z0 at hf;refine A1 ?_;refine D1 (vs:=[.pointer (some ⟨bp,0,none⟩),.int .i64 4,.string G8]) ?_
  refine(J7 (S:=.own (.slice A N C) 77 4 ((acc:List F1).map enc)::.blk b3 (.cells (cG ⟨⟨kd,s,acc,0,E0,E0,0,0,0⟩,A,N,C⟩).toArray 79)::.blk b2 (.cells (cG ⟨⟨0,C9,[],0,E0,E0,0,0,0⟩,none,0,0⟩).toArray 79)::S) 4 G8 hkn hN ht (hw.ps [1])).mono ?_
  clear hw;rintro r w ⟨rfl,hw⟩
  refine⟨_,rfl,?_⟩;cases hi:I4 toks k 4 G8 with
  | true=>
   have hlt:=U4 (by decide) hi
   rw[hi,if_pos rfl]at hw hf
   have hk9:k+1≤n:=by omega
   have hw:Wd Γ (.own (.slice A N C) 77 4 ((acc:List F1).map enc)::A9 bp a n c (k+1) e.Line e.Col::.blk b3 (.cells (cG ⟨⟨kd,s,acc,0,E0,E0,0,0,0⟩,A,N,C⟩).toArray 79)::.blk b2 (.cells (cG ⟨⟨0,C9,[],0,E0,E0,0,0,0⟩,none,0,0⟩).toArray 79)::S) w:=hw.ps [1]
   refine A1 ?_;refine A0 rfl (fun _=>?_) (fun h=>by cases h)
   refine A1 ?_;cases hO:ER toks e (k+1) with
   | error q=>
    obtain⟨p,er⟩:=q;have htE:tot=.error (p,er):=by rw[←hf,hO];rfl
    rw[htE];simp only[I1]
    refine AO (fun ch w=>ch=[p9 p er]∧∃k,Wd Γ (A9 bp a n c k e.Line e.Col::S) w) [.blk b2 (.cells (cG ⟨⟨0,C9,[],0,E0,E0,0,0,0⟩,none,0,0⟩).toArray 79)] [.blk b3 (.cells (cG ⟨(⟨kd,s,acc,0,E0,E0,0,0,0⟩:D6),A,N,C⟩).toArray 79)] (.own (.slice A N C) 77 4 ((acc:List F1).map enc)::A9 bp a n c (k+1) e.Line e.Col::S) [] [41,42,43] [] [[],[],[],[1],[1],[1],[],[0,1]] [[],[0],[],[1],[1],[1],[],[0,1]] (by rw[List.append_nil];exact hw.ps [2,3]) (fun ch ρ w ⟨h1,h2⟩=>by subst h1;exact⟨rfl,h2⟩) ?_
    refine eY ?_
    refine eY ?_
    refine eY ?_
    refine Fj (c:=1) (T:=Unit) (T':=Empty) (vs:=[.pointer (some ⟨bp,0,none⟩)]) (fun t=>t.elim) (fun t=>t.elim) (φ:=fun _ _=>True) (R:=fun _=>.own (.slice A N C) 77 4 ((acc:List F1).map enc)::A9 bp a n c (k+1) e.Line e.Col::S) (fun _ Y w hw=>(f9 hW hk9 hN ht (hw.ps [1]:Wd Γ (A9 bp a n c (k+1) e.Line e.Col::(.own (.slice A N C) 77 4 ((acc:List F1).map enc)::(S++Y))) w)).mono fun r w h=>?_) ?_
    ·rw[hO]at h;obtain⟨rfl,k,hw⟩:=h;have hw:Wd Γ (A9 bp a n c k e.Line e.Col::(.own (.slice A N C) 77 4 ((acc:List F1).map enc)::(S++Y))) w:=hw
     exact⟨rfl,k,Wd.left (S:=A9 bp a n c k e.Line e.Col::S) (hw.dropAt 1)⟩
    refine GT (c:=1) ?_
    refine GT (c:=1) ?_
    refine eY ?_
    refine GT (c:=1) ?_
    exact CE (c:=1)
   | ok q=>
   obtain⟨o,k9⟩:=q;have hk9':k9≤n:=by rw[hn];exact Hz hO
   have hk9l:=Aw hO
   refine W1 [.blk b2 (.cells (cG ⟨⟨0,C9,[],0,E0,E0,0,0,0⟩,none,0,0⟩).toArray 79)] [.blk b3 (.cells (cG ⟨(⟨kd,s,acc,0,E0,E0,0,0,0⟩:D6),A,N,C⟩).toArray 79)] (.own (.slice A N C) 77 4 ((acc:List F1).map enc)::A9 bp a n c (k+1) e.Line e.Col::S) [] [41,42,43] [] [[],[],[],[1],[1],[1],[],[0,1]] [[],[0],[],[1],[1],[1],[],[0,1]] (by rw[List.append_nil];exact hw.ps [2,3]) ?_
   repeat(first|refine mY ?_|refine mP ?_|refine M9 ?_|refine X3 ?_|refine j0 ?_)
   refine X8 (c:=1) (T:=Unit) (T':=Unit) (vs:=[.pointer (some ⟨bp,0,none⟩)]) (fun _=>.agg (enc o).toArray) (fun _=>A9 bp a n c k9 e.Line e.Col::.own (.slice A N C) 77 4 ((acc:List F1).map enc)::S) (R:=fun _=>.own (.slice A N C) 77 4 ((acc:List F1).map enc)::A9 bp a n c (k+1) e.Line e.Col::S) (fun _ Y w hw=>(f9 hW hk9 hN ht (hw.ps [1]:Wd Γ (A9 bp a n c (k+1) e.Line e.Col::(.own (.slice A N C) 77 4 ((acc:List F1).map enc)::(S++Y))) w)).mono fun r w h=>by rw[hO]at h;exact⟨(),h.1,h.2.2⟩) ?_
   refine R5 (T:=Unit) (fun _=>[enc o]) ?_ ?_
   rotate_left
   ·intro t g h;have h2:g 41=.agg (enc o).toArray:=h
    show Q1 _ _ [(0,g 41)]=_
    rw[h2];rfl
   refine w9 (T:=Unit×Addr) (j:=2) (j2:=0) (fun t=>some t.2) (fun _=>[enc o]) ?_ ?_
   rotate_left
   ·intro t g h;exact h.2
   refine m4 ?_;refine X6 (T:=(Unit×Addr)×Value) (j:=2) (val:=fun t=>t.2) ?_ ?_
   rotate_left
   ·intro t g h;exact h.2
   refine x9 fun t w g h hw=>?_
   obtain⟨⟨⟨⟩,aB⟩,vv⟩:=t;have hw:Wd Γ (.blk b3 (.cells #[.int .i64 kd,.string s,vv,.int .i64 0,.string C9,.int .i64 0,.int .i64 0,.string C9,.string C9,.int .i64 0,.int .i64 0,.string C9,.int .i64 0,.int .i64 0,.int .i64 0] 79)::.own (.slice (some aB) 1 1) 77 4 [enc o]::A9 bp a n c k9 e.Line e.Col::.own vv 77 4 ((acc:List F1).map enc++[enc o])::(S++[.blk b2 (.cells (cG ⟨⟨0,C9,[],0,E0,E0,0,0,0⟩,none,0,0⟩).toArray 79)])) w:=hw
   obtain⟨A2,N2,C2,hvv,hN2,hNC2,hC2⟩:=hw.own_shape (i:=3) rfl
   rw[hvv]at hw;rw[show (acc:List F1).map enc++[enc o]=((acc:List F1)++[o]).map enc from by rw[List.map_append];rfl]at hw hN2
   have hw:Wd Γ (.blk b2 (.cells (cG ⟨⟨0,C9,[],0,E0,E0,0,0,0⟩,none,0,0⟩).toArray 79)::.blk b3 (.cells (cG ⟨(⟨kd,s,(acc++[o]),0,E0,E0,0,0,0⟩:D6),A2,N2,C2⟩).toArray 79)::A9 bp a n c k9 e.Line e.Col::.own (.slice A2 N2 C2) 77 4 (((acc:List F1)++[o]).map enc)::S) w:=(hw.dropAt 1).perm K1
   have hw:Wd Γ (.own (.slice A2 N2 C2) 77 4 (((acc:List F1)++[o]).map enc)::A9 bp a n c k9 e.Line e.Col::.blk b3 (.cells (cG ⟨(⟨kd,s,(acc++[o]),0,E0,E0,0,0,0⟩:D6),A2,N2,C2⟩).toArray 79)::.blk b2 (.cells (cG ⟨⟨0,C9,[],0,E0,E0,0,0,0⟩,none,0,0⟩).toArray 79)::S) w:=hw.ps [1,2,3]
   refine A1 ?_;exact⟨n-k9,by omega,f',acc++[o],k9,A2,N2,C2,by rw[←hf,hO];rfl,rfl,hk9',by omega,by rw[List.length_append];simp;omega,⟨rfl,rfl,rfl,trivial⟩,hw⟩
  | false=>
   rw[hi,if_neg (by decide)]at hw hf
   rw[←hf];simp only[I1]
   refine A1 ?_;refine A0 rfl (fun h=>by cases h) (fun _=>?_)
   refine A1 ?_;refine G0 (vs:=[.pointer (some ⟨bp,0,none⟩),.int .i64 4,.string Ce]) ?_
   refine(BW 4 Ce (by decide) hkn hN ht hw).mono ?_
   clear hw;rintro r w hr
   cases hE:o9 toks e 4 Ce k with
   | error q=>
    obtain⟨p,er⟩:=q;rw[hE]at hr;obtain⟨rfl,k,hw⟩:=hr;exact⟨rfl,k,((hw.dropAt 1).dropAt 1).dropAt 1⟩
   | ok q=>
   obtain⟨_,k5⟩:=q;rw[hE]at hr;obtain⟨rfl,hk5,hw⟩:=hr;show L _ _ _ _ _ _ _
   refine A1 ?_;refine B0 (i:=3) ?_
   intro w hw;have hw:Wd Γ (A9 bp a n c k5 e.Line e.Col::.own (.slice A N C) 77 4 ((acc:List F1).map enc)::.blk b3 (.cells (cG ⟨⟨kd,s,acc,0,E0,E0,0,0,0⟩,A,N,C⟩).toArray 79)::.blk b2 (.cells (cG ⟨⟨kd,s,acc,0,E0,E0,0,0,0⟩,A,N,C⟩).toArray 79)::S) w:=hw
   refine A1 ?_;exact⟨[.agg (cG ⟨⟨kd,s,acc,0,E0,E0,0,0,0⟩,A,N,C⟩).toArray],⟨M3 (i:=3) hw rfl rfl rfl,trivial⟩,(A,N,C),rfl,hk5,((hw.ps [1,1]).dropAt 2).dropAt 2 |>.ps [1]⟩
 ·have h:(I4 toks at' 1 S8||(decide ((B3 toks at').Kind=1)&&I4 toks (at'+1) 4 Q0))=false:=h
  obtain⟨hi,hrel⟩:=Bool.or_eq_false_iff.1 h
  have hG:S0 toks e at'=I1 (ER toks e at') fun l k1=>if (B3 toks at').Kind=1∧I4 toks k1 1 GQ=true then HH toks e l (k1+1) else HJ toks e l k1:=by
   unfold S0;rw[hi,if_neg (by decide),if_neg (fun⟨h1,h2⟩=>by rw[decide_eq_true h1,h2]at hrel;cases hrel)]
  rw[hG];rw[hi]at hw;have hw:Wd Γ (A9 bp a n c at' e.Line e.Col::.blk b3 (.cells (cG ⟨J0 C9 [],none,0,0⟩).toArray 79)::.blk b2 (.cells (cG ⟨⟨0,C9,[],0,E0,E0,0,0,0⟩,none,0,0⟩).toArray 79)::S) w:=hw
  clear h hG hk1 hrel;refine A1 ?_;refine B0 (i:=1) ?_
  intro w hw;have hw:Wd Γ (A9 bp a n c at' e.Line e.Col::.blk b3 (.cells (cG ⟨⟨3,C9,[],0,E0,E0,0,0,0⟩,none,0,0⟩).toArray 79)::.blk b2 (.cells (cG ⟨⟨0,C9,[],0,E0,E0,0,0,0⟩,none,0,0⟩).toArray 79)::S) w:=hw
  refine A1 ?_;refine D1 (vs:=[.pointer (some ⟨bp,0,none⟩),.int .i64 0]) ?_
  refine(V4 (j:=0) (by decide) hat hN ht hw).mono ?_
  clear hw;rintro r w ⟨rfl,hw⟩
  rw[Nat.add_zero];refine⟨_,rfl,?_⟩;refine A1 ?_;refine lY (v:=.int .i64 (B3 toks at').Kind) ?_ (hy:=Dl Tryz.underlying104 rfl (by kernel_rfl) rfl rfl)
  refine A1 ?_;refine G0 (vs:=[.pointer (some ⟨bp,0,none⟩)]) ?_
  refine(f9 hW hat hN ht hw).mono ?_
  clear hw;rintro r w hr
  cases hO:ER toks e at' with
  | error q=>
   obtain⟨p,er⟩:=q;rw[hO]at hr;obtain⟨rfl,k,hw⟩:=hr;exact⟨rfl,k,(hw.dropAt 1).dropAt 1⟩
  | ok q=>
  obtain⟨l,k1⟩:=q;rw[hO]at hr;obtain⟨rfl,hk1,hw⟩:=hr;show L _ _ _ _ _ _ _
  simp only[I1]
  generalize hkk:(B3 toks at').Kind=kk
  refine A1 ?_;refine B0 (i:=1) ?_
  intro w hw;have hw:Wd Γ (A9 bp a n c k1 e.Line e.Col::.blk b3 (.cells (cG ⟨⟨3,C9,[],0,l,E0,0,0,0⟩,none,0,0⟩).toArray 79)::.blk b2 (.cells (cG ⟨⟨0,C9,[],0,E0,E0,0,0,0⟩,none,0,0⟩).toArray 79)::S) w:=hw
  refine Z2 ?_
  refine Cq ?_
  refine Ae (fun ρ w=>Has ρ [(0,.pointer (some ⟨bp,0,none⟩)),(2,.pointer (some ⟨b2,0,none⟩)),(3,.pointer (some ⟨b3,0,none⟩)),(60,.bool (decide (kk=1)&&I4 toks k1 1 GQ))]∧Wd Γ (A9 bp a n c (if kk=1∧I4 toks k1 1 GQ=true then k1+1 else k1) e.Line e.Col::.blk b3 (.cells (cG ⟨⟨3,C9,[],0,l,E0,0,0,0⟩,none,0,0⟩).toArray 79)::.blk b2 (.cells (cG ⟨⟨0,C9,[],0,E0,E0,0,0,0⟩,none,0,0⟩).toArray 79)::S) w) ?_ ?_
  ·by_cases hk:kk=1
   ·refine A1 ?_;refine LP (hct:=decide_eq_true hk) ?_
    refine D1 (vs:=[.pointer (some ⟨bp,0,none⟩),.int .i64 1,.string GQ]) ?_ (ha:=EvL.cons (Af (decide_eq_true hk)) (EvL.cons rfl (EvL.cons rfl EvL.nil)))
    refine(J7 1 GQ hk1 hN ht hw).mono ?_
    clear hw;rintro r w ⟨rfl,hw⟩
    refine⟨_,rfl,?_⟩;have e1:(kk=1∧I4 toks k1 1 GQ=true)=(I4 toks k1 1 GQ=true):=by simp[hk]
    simp only[e1]
    generalize I4 toks k1 1 GQ=bi at *
    rw[decide_eq_true hk];refine lY (v:=.bool bi) ?_ (hy:=m9 rfl rfl)
    refine A1 ?_;exact⟨⟨rfl,rfl,rfl,rfl,trivial⟩,hw⟩
   ·refine A1 ?_;refine Ma (hct:=decide_eq_false hk) ?_
    refine lY (v:=.bool false) ?_ (hy:=Z4 (congrArg Value.bool (decide_eq_false hk)) rfl)
    refine A1 ?_;rw[decide_eq_false hk,if_neg (fun h=>hk h.1)];exact⟨⟨rfl,rfl,rfl,rfl,trivial⟩,hw⟩
  clear hw;rintro ρ w ⟨hρ,hw⟩
  rw[hρ.eq];clear hρ;refine A0 rfl (fun h=>?_) (fun h=>?_)
  ·have h:(decide (kk=1)&&I4 toks k1 1 GQ)=true:=h
   rw[Bool.and_eq_true,decide_eq_true_eq]at h;have hlt:=U4 (by decide) h.2
   rw[if_pos h]at hw ⊢
   have hk2:k1+1≤n:=by omega
   clear h;unfold HH;refine A1 ?_;refine B0 (i:=1) ?_
   intro w hw;have hw:Wd Γ (A9 bp a n c (k1+1) e.Line e.Col::.blk b3 (.cells (cG ⟨⟨4,C9,[],0,l,E0,0,0,0⟩,none,0,0⟩).toArray 79)::.blk b2 (.cells (cG ⟨⟨0,C9,[],0,E0,E0,0,0,0⟩,none,0,0⟩).toArray 79)::S) w:=hw
   refine A1 ?_;refine G0 (vs:=[.pointer (some ⟨bp,0,none⟩)]) ?_
   refine(Df hk2 hN ht hw).mono ?_
   clear hw;rintro r w hr
   cases hI:u5 toks e (k1+1) with
   | error q=>
    obtain⟨p,er⟩:=q;rw[hI]at hr;obtain⟨rfl,k,hw⟩:=hr;exact⟨rfl,k,(hw.dropAt 1).dropAt 1⟩
   | ok q=>
   obtain⟨lo,k3⟩:=q;rw[hI]at hr;obtain⟨rfl,hk3,hw⟩:=hr;show L _ _ _ _ _ _ _
   simp only[I1]
   refine A1 ?_;refine B0 (i:=1) ?_
   intro w hw;have hw:Wd Γ (A9 bp a n c k3 e.Line e.Col::.blk b3 (.cells (cG ⟨⟨4,C9,[],0,l,E0,0,lo,0⟩,none,0,0⟩).toArray 79)::.blk b2 (.cells (cG ⟨⟨0,C9,[],0,E0,E0,0,0,0⟩,none,0,0⟩).toArray 79)::S) w:=hw
   refine A1 ?_;refine G0 (vs:=[.pointer (some ⟨bp,0,none⟩),.int .i64 4,.string Cp]) ?_
   refine(BW 4 Cp (by decide) hk3 hN ht hw).mono ?_
   clear hw;rintro r w hr
   cases hE:o9 toks e 4 Cp k3 with
   | error q=>
    obtain⟨p,er⟩:=q;rw[hE]at hr;obtain⟨rfl,k,hw⟩:=hr;exact⟨rfl,k,(hw.dropAt 1).dropAt 1⟩
   | ok q=>
   obtain⟨_,k4⟩:=q;rw[hE]at hr;obtain⟨rfl,hk4,hw⟩:=hr;show L _ _ _ _ _ _ _
   simp only[I1]
   refine A1 ?_;refine G0 (vs:=[.pointer (some ⟨bp,0,none⟩)]) ?_
   refine(Df hk4 hN ht hw).mono ?_
   clear hw;rintro r w hr
   cases hI2:u5 toks e k4 with
   | error q=>
    obtain⟨p,er⟩:=q;rw[hI2]at hr;obtain⟨rfl,k,hw⟩:=hr;exact⟨rfl,k,(hw.dropAt 1).dropAt 1⟩
   | ok q=>
   obtain⟨hi',k5⟩:=q;rw[hI2]at hr;obtain⟨rfl,hk5,hw⟩:=hr;show L _ _ _ _ _ _ _
   simp only[I1]
   refine A1 ?_;refine B0 (i:=1) ?_
   intro w hw;have hw:Wd Γ (A9 bp a n c k5 e.Line e.Col::.blk b3 (.cells (cG ⟨⟨4,C9,[],0,l,E0,0,lo,hi'⟩,none,0,0⟩).toArray 79)::.blk b2 (.cells (cG ⟨⟨0,C9,[],0,E0,E0,0,0,0⟩,none,0,0⟩).toArray 79)::S) w:=hw
   refine A1 ?_;refine B0 (i:=2) ?_
   intro w hw;have hw:Wd Γ (A9 bp a n c k5 e.Line e.Col::.blk b3 (.cells (cG ⟨⟨4,C9,[],0,l,E0,0,lo,hi'⟩,none,0,0⟩).toArray 79)::.blk b2 (.cells (cG ⟨⟨4,C9,[],0,l,E0,0,lo,hi'⟩,none,0,0⟩).toArray 79)::S) w:=hw
   refine A1 ?_;exact⟨[.agg (cG ⟨⟨4,C9,[],0,l,E0,0,lo,hi'⟩,none,0,0⟩).toArray],⟨M3 (i:=2) hw rfl rfl rfl,trivial⟩,(none,0,0),rfl,hk5,Wd.addNil ((hw.dropAt 1).dropAt 1)⟩
  ·have h:(decide (kk=1)&&I4 toks k1 1 GQ)=false:=h
   have hni:¬(kk=1∧I4 toks k1 1 GQ=true):=fun⟨h1,h2⟩=>by rw[decide_eq_true h1,h2]at h;cases h
   rw[if_neg hni]at hw ⊢
   clear h hni;unfold HJ;refine A1 ?_;refine D1 (vs:=[]) ?_
   refine(Aj hw).mono ?_
   clear hw;rintro r w ⟨q,rfl,hw⟩
   refine⟨_,rfl,?_⟩;refine A1 ?_;refine C7 (fun μ ρ w=>∃(j:Nat),μ+j=7∧Has ρ [(0,.pointer (some ⟨bp,0,none⟩)),(2,.pointer (some ⟨b2,0,none⟩)),(3,.pointer (some ⟨b3,0,none⟩)),(71,.slice (some q) 7 7),(72,.int .i64 7),(73,.int .i64 j)]∧Wd Γ (.own (.slice (some q) 7 7) 9 1 (Q6.map fun s=>[.string s])::A9 bp a n c (if Dz toks k1 j≠0 then k1+1 else k1) e.Line e.Col::.blk b3 (.cells (cG ⟨⟨3,C9,[],(Dz toks k1 j:Nat),l,E0,0,0,0⟩,none,0,0⟩).toArray 79)::.blk b2 (.cells (cG ⟨⟨0,C9,[],0,E0,E0,0,0,0⟩,none,0,0⟩).toArray 79)::S) w) 7 ⟨0,by omega,⟨rfl,rfl,rfl,rfl,rfl,rfl,trivial⟩,hw⟩ ?_
   clear hw;rintro μ ρ w ⟨j,hj,hρ,hw⟩
   rw[hρ.eq];clear hρ;have hd:=O4.own (i:=0) hw rfl
   refine A1 ?_;refine A0 rfl (fun h=>?_) (fun h=>?_)
   ·have hj7:j<7:=by have:=of_decide_eq_true h;omega
    clear h;obtain⟨s,hs⟩:=B8 (l:=Q6) (k:=j) (by show j<7;omega)
    have hsd:Q6.getD j C9=s:=by rw[List.getD_eq_getElem?_getD,hs];rfl
    have hup:Dz toks k1 (j+1)=if Dz toks k1 j≠0 then Dz toks k1 j else if 0<j∧I4 toks k1 4 s=true then j else 0:=by rw[←hsd];rfl
    generalize Dz toks k1 j=u at *
    refine A1 ?_;by_cases hc:0<j∧u=0
    ·have hkc:(decide ((0:Int)<(j:Int))&&decide ((u:Int)=0))=true:=by rw[decide_eq_true (by omega),decide_eq_true (by omega)];rfl
     obtain⟨hj0,rfl⟩:=hc;have hw:Wd Γ (.own (.slice (some q) 7 7) 9 1 (Q6.map fun s=>[.string s])::A9 bp a n c k1 e.Line e.Col::.blk b3 (.cells (cG ⟨⟨3,C9,[],((0:Nat):Int),l,E0,0,0,0⟩,none,0,0⟩).toArray 79)::.blk b2 (.cells (cG ⟨⟨0,C9,[],0,E0,E0,0,0,0⟩,none,0,0⟩).toArray 79)::S) w:=hw
     have hw:=hw.ps [1]
     refine LP (hct:=hkc) ?_
     refine D1 (vs:=[.pointer (some ⟨bp,0,none⟩),.int .i64 4,.string s]) ?_ (ha:=EvL.cons (Af hkc) (EvL.cons rfl (EvL.cons (Af hkc) EvL.nil)))
     refine(J7 (S:=.own (.slice (some q) 7 7) 9 1 (Q6.map fun s=>[.string s])::.blk b3 (.cells (cG ⟨⟨3,C9,[],((0:Nat):Int),l,E0,0,0,0⟩,none,0,0⟩).toArray 79)::.blk b2 (.cells (cG ⟨⟨0,C9,[],0,E0,E0,0,0,0⟩,none,0,0⟩).toArray 79)::S) 4 s hk1 hN ht hw).mono ?_
     clear hw;rintro r w ⟨rfl,hw⟩
     refine⟨_,rfl,?_⟩;rw[if_neg (by omega)]at hup
     cases hbi:I4 toks k1 4 s with
     | true=>
      rw[hbi,if_pos rfl]at hw;rw[if_pos ⟨hj0,hbi⟩]at hup;refine lY (v:=.bool true) ?_ (hy:=m9 (congrArg Value.bool hkc) rfl)
      refine A1 ?_;refine A0 rfl (fun _=>?_) (fun h=>by cases h)
      refine A1 ?_;refine B0 (i:=2) ?_
      intro w hw;have hw:Wd Γ (A9 bp a n c (k1+1) e.Line e.Col::.own (.slice (some q) 7 7) 9 1 (Q6.map fun s=>[.string s])::.blk b3 (.cells (cG ⟨⟨3,C9,[],(j:Int),l,E0,0,0,0⟩,none,0,0⟩).toArray 79)::.blk b2 (.cells (cG ⟨⟨0,C9,[],0,E0,E0,0,0,0⟩,none,0,0⟩).toArray 79)::S) w:=hw
      refine A1 ?_;exact⟨μ-1,by omega,j+1,by omega,⟨rfl,rfl,rfl,rfl,rfl,rfl,trivial⟩,by rw[hup,if_pos (by omega)];exact hw.ps [1]⟩
     | false=>
      rw[hbi,if_neg (by decide)]at hw
      rw[if_neg (fun h=>by rw[hbi]at h;cases h.2)]at hup
      refine lY (v:=.bool false) ?_ (hy:=m9 (congrArg Value.bool hkc) rfl)
      refine A1 ?_;refine A0 rfl (fun h=>by cases h) (fun _=>?_)
      refine A1 ?_;exact⟨μ-1,by omega,j+1,by omega,⟨rfl,rfl,rfl,rfl,rfl,rfl,trivial⟩,by rw[hup,if_neg (by omega)];exact hw.ps [1]⟩
    ·have hkc:(decide ((0:Int)<(j:Int))&&decide ((u:Int)=0))=false:=by
      by_cases h1:0<j
      ·rw[decide_eq_false (show ¬((u:Int)=0) from fun h=>hc ⟨h1,by omega⟩),Bool.and_false]
      ·rw[decide_eq_false (show ¬((0:Int)<(j:Int)) by omega),Bool.false_and]
     have hup2:Dz toks k1 (j+1)=u:=by
      rw[hup];by_cases hu:u≠0
      ·rw[if_pos hu]
      ·rw[if_neg hu,if_neg (fun h=>hc ⟨h.1,by omega⟩)];omega
     refine Ma (hct:=hkc) ?_
     refine lY (v:=.bool false) ?_ (hy:=Z4 (congrArg Value.bool hkc) rfl)
     refine A1 ?_;refine A0 rfl (fun h=>by cases h) (fun _=>?_)
     refine A1 ?_;exact⟨μ-1,by omega,j+1,by omega,⟨rfl,rfl,rfl,rfl,rfl,rfl,trivial⟩,by rw[hup2];exact hw⟩
   ·have hj7:j=7:=by have:=of_decide_eq_false h;omega
    clear h hd;subst hj7;rw[NF]at hw;have hol:=PO (toks:=toks) (k:=k1)
    generalize opAt toks k1=u at *
    have hw:=hw.drop
    refine A1 ?_;refine A0 rfl (fun h=>?_) (fun h=>?_)
    ·have h:u=0:=by
      have h2:(u:Int)=0:=of_decide_eq_true h
      omega
     subst h;rw[if_pos rfl];have hw:Wd Γ (A9 bp a n c k1 e.Line e.Col::.blk b3 (.cells (cG ⟨⟨3,C9,[],((0:Nat):Int),l,E0,0,0,0⟩,none,0,0⟩).toArray 79)::.blk b2 (.cells (cG ⟨⟨0,C9,[],0,E0,E0,0,0,0⟩,none,0,0⟩).toArray 79)::S) w:=hw
     refine A1 ?_;refine G0 ?_
     refine(y7 50 ht hw).mono ?_
     rintro r w ⟨rfl,hw⟩
     exact⟨rfl,k1,(hw.dropAt 1).dropAt 1⟩
    have hu:u≠0:=by
     have h2:¬(u:Int)=0:=of_decide_eq_false h
     omega
    clear h;rw[if_pos hu]at hw;rw[if_neg hu];have hk2:k1+1≤n:=by have:=hol hu;omega
    have hw:Wd Γ (A9 bp a n c (k1+1) e.Line e.Col::.blk b3 (.cells (cG ⟨⟨3,C9,[],(u:Int),l,E0,0,0,0⟩,none,0,0⟩).toArray 79)::.blk b2 (.cells (cG ⟨⟨0,C9,[],0,E0,E0,0,0,0⟩,none,0,0⟩).toArray 79)::S) w:=hw
    refine A1 ?_;refine G0 (vs:=[.pointer (some ⟨bp,0,none⟩)]) ?_
    refine(f9 hW hk2 hN ht hw).mono ?_
    clear hw;rintro r w hr
    cases hR:ER toks e (k1+1) with
    | error q=>
     obtain⟨p,er⟩:=q;rw[hR]at hr;obtain⟨rfl,k,hw⟩:=hr;exact⟨rfl,k,(hw.dropAt 1).dropAt 1⟩
    | ok q=>
    obtain⟨rr,k3⟩:=q;rw[hR]at hr;obtain⟨rfl,hk3,hw⟩:=hr;show L _ _ _ _ _ _ _
    simp only[I1]
    refine A1 ?_;refine B0 (i:=1) ?_
    intro w hw;have hw:Wd Γ (A9 bp a n c k3 e.Line e.Col::.blk b3 (.cells (cG ⟨⟨3,C9,[],(u:Int),l,rr,0,0,0⟩,none,0,0⟩).toArray 79)::.blk b2 (.cells (cG ⟨⟨0,C9,[],0,E0,E0,0,0,0⟩,none,0,0⟩).toArray 79)::S) w:=hw
    unfold Hh;refine A1 ?_;refine D1 (vs:=[.pointer (some ⟨bp,0,none⟩),.int .i64 4,.string FU]) ?_
    refine(J7 4 FU hk3 hN ht hw).mono ?_
    clear hw;rintro r w ⟨rfl,hw⟩
    refine⟨_,rfl,?_⟩;cases hp:I4 toks k3 4 FU with
    | true=>
     have hlt:=U4 (by decide) hp
     rw[hp,if_pos rfl]at hw;rw[if_pos rfl];refine A1 ?_;refine A0 rfl (fun _=>?_) (fun h=>by cases h)
     refine A1 ?_;refine G0 (vs:=[.pointer (some ⟨bp,0,none⟩),.int .u64 9223372036854775807]) ?_
     refine(DU (at':=k3+1) 9223372036854775807 (by omega) hN ht hw).mono ?_
     clear hw;rintro r w hr
     cases hN2:Y3 toks e 9223372036854775807 (k3+1) with
     | error q=>
      obtain⟨p,er⟩:=q;rw[hN2]at hr;obtain⟨rfl,k,hw⟩:=hr;exact⟨rfl,k,(hw.dropAt 1).dropAt 1⟩
     | ok q=>
     obtain⟨x,k4⟩:=q;rw[hN2]at hr;obtain⟨rfl,hk4,hw⟩:=hr;show L _ _ _ _ _ _ _
     simp only[Fp]
     refine A1 ?_;refine B0 (i:=1) ?_
     intro w hw;have hw:Wd Γ (A9 bp a n c k4 e.Line e.Col::.blk b3 (.cells (cG ⟨⟨3,C9,[],(u:Int),l,rr,(IntKind.i64.wrap x),0,0⟩,none,0,0⟩).toArray 79)::.blk b2 (.cells (cG ⟨⟨0,C9,[],0,E0,E0,0,0,0⟩,none,0,0⟩).toArray 79)::S) w:=hw
     refine A1 ?_;refine B0 (i:=2) ?_
     intro w hw;have hw:Wd Γ (A9 bp a n c k4 e.Line e.Col::.blk b3 (.cells (cG ⟨⟨3,C9,[],(u:Int),l,rr,(IntKind.i64.wrap x),0,0⟩,none,0,0⟩).toArray 79)::.blk b2 (.cells (cG ⟨⟨3,C9,[],(u:Int),l,rr,(IntKind.i64.wrap x),0,0⟩,none,0,0⟩).toArray 79)::S) w:=hw
     refine A1 ?_;exact⟨[.agg (cG ⟨⟨3,C9,[],(u:Int),l,rr,(IntKind.i64.wrap x),0,0⟩,none,0,0⟩).toArray],⟨M3 (i:=2) hw rfl rfl rfl,trivial⟩,(none,0,0),rfl,hk4,Wd.addNil ((hw.dropAt 1).dropAt 1)⟩
    | false=>
     rw[hp,if_neg (by decide)]at hw
     rw[if_neg (by decide)]
     refine A1 ?_;refine A0 rfl (fun h=>by cases h) (fun _=>?_)
     refine A1 ?_;refine D1 (vs:=[.pointer (some ⟨bp,0,none⟩),.int .i64 4,.string w8]) ?_
     refine(J7 4 w8 hk3 hN ht hw).mono ?_
     clear hw;rintro r w ⟨rfl,hw⟩
     refine⟨_,rfl,?_⟩;cases hm:I4 toks k3 4 w8 with
     | true=>
      have hlt:=U4 (by decide) hm
      rw[hm,if_pos rfl]at hw;rw[if_pos rfl];refine A1 ?_;refine A0 rfl (fun _=>?_) (fun h=>by cases h)
      refine A1 ?_;refine G0 (vs:=[.pointer (some ⟨bp,0,none⟩),.int .u64 9223372036854775807]) ?_
      refine(DU (at':=k3+1) 9223372036854775807 (by omega) hN ht hw).mono ?_
      clear hw;rintro r w hr
      cases hN2:Y3 toks e 9223372036854775807 (k3+1) with
      | error q=>
       obtain⟨p,er⟩:=q;rw[hN2]at hr;obtain⟨rfl,k,hw⟩:=hr;exact⟨rfl,k,(hw.dropAt 1).dropAt 1⟩
      | ok q=>
      obtain⟨x,k4⟩:=q;rw[hN2]at hr;obtain⟨rfl,hk4,hw⟩:=hr;show L _ _ _ _ _ _ _
      simp only[Fp]
      refine A1 ?_;refine lY (v:=.int .i64 (IntKind.i64.wrap (-(IntKind.i64.wrap x)))) ?_ (hy:=Mo rfl)
      refine A1 ?_;refine B0 (i:=1) ?_
      intro w hw;have hw:Wd Γ (A9 bp a n c k4 e.Line e.Col::.blk b3 (.cells (cG ⟨⟨3,C9,[],(u:Int),l,rr,(IntKind.i64.wrap (-(IntKind.i64.wrap x))),0,0⟩,none,0,0⟩).toArray 79)::.blk b2 (.cells (cG ⟨⟨0,C9,[],0,E0,E0,0,0,0⟩,none,0,0⟩).toArray 79)::S) w:=hw
      refine A1 ?_;refine B0 (i:=2) ?_
      intro w hw;have hw:Wd Γ (A9 bp a n c k4 e.Line e.Col::.blk b3 (.cells (cG ⟨⟨3,C9,[],(u:Int),l,rr,(IntKind.i64.wrap (-(IntKind.i64.wrap x))),0,0⟩,none,0,0⟩).toArray 79)::.blk b2 (.cells (cG ⟨⟨3,C9,[],(u:Int),l,rr,(IntKind.i64.wrap (-(IntKind.i64.wrap x))),0,0⟩,none,0,0⟩).toArray 79)::S) w:=hw
      refine A1 ?_;exact⟨[.agg (cG ⟨⟨3,C9,[],(u:Int),l,rr,(IntKind.i64.wrap (-(IntKind.i64.wrap x))),0,0⟩,none,0,0⟩).toArray],⟨M3 (i:=2) hw rfl rfl rfl,trivial⟩,(none,0,0),rfl,hk4,Wd.addNil ((hw.dropAt 1).dropAt 1)⟩
     | false=>
      rw[hm,if_neg (by decide)]at hw
      rw[if_neg (by decide)]
      refine A1 ?_;refine A0 rfl (fun h=>by cases h) (fun _=>?_)
      refine A1 ?_;refine B0 (i:=2) ?_
      intro w hw;have hw:Wd Γ (A9 bp a n c k3 e.Line e.Col::.blk b3 (.cells (cG ⟨⟨3,C9,[],(u:Int),l,rr,0,0,0⟩,none,0,0⟩).toArray 79)::.blk b2 (.cells (cG ⟨⟨3,C9,[],(u:Int),l,rr,0,0,0⟩,none,0,0⟩).toArray 79)::S) w:=hw
      refine A1 ?_;exact⟨[.agg (cG ⟨⟨3,C9,[],(u:Int),l,rr,0,0,0⟩,none,0,0⟩).toArray],⟨M3 (i:=2) hw rfl rfl rfl,trivial⟩,(none,0,0),rfl,hk3,Wd.addNil ((hw.dropAt 1).dropAt 1)⟩
end
end Go.Proofs.YtlimglpjpcfpdaaGreatDoor
end
section
open Go Mk
namespace Go.Proofs.YtlimglpjpcfpdaaGreatDoor
set_option maxHeartbeats 16000000
attribute [local irreducible] Calls cI cB
def l8:ByteArray:=⟨#[115,101,108,101,99,116]⟩
def F7:ByteArray:=⟨#[119,104,101,114,101]⟩
def U0(toks:List Tok)(k:Nat):List D6:=(List.range k).map fun i=>J0 (B3 toks (3+7*i)).Text (C6 toks (3+7*i+2) 2)
theorem Cr{toks:List Tok}{k:Nat}:U0 toks (k+1)=U0 toks k++[J0 (B3 toks (3+7*k)).Text (C6 toks (3+7*k+2) 2)]:=by
 unfold U0;rw[List.range_succ,List.map_append];rfl
structure QP(toks:List Tok):Prop where
 len:toks.length=16
 sel:I4 toks 0 1 l8=true
 now:I4 toks 1 1 F7=false
 kind:(B3 toks 1).Kind=1
 kw:DJ (B3 toks 1).Text=false
 size:(B3 toks 1).Text.size≤24
 noc:I4 toks 2 4 G8=false
 whe:I4 toks 2 1 F7=true
 rels:∀i,i<2→PV toks (3+7*i) 2
 com:∀i,i<2→I4 toks (3+7*i+2*2+2) 4 G8=decide (i+1<2)
section
variable {Γ:B5}{S:List B1}{w:World}{bp:Nat}{a:Option Addr}{n c:Nat}{e1 e2:Int}{toks:List Tok}
theorem Oi(hr:QP toks)(ht:D2 Γ (.slice a n c) 5 (toks.map enc))(hw:Wd Γ (A9 bp a n c 0 e1 e2::S) w) :
  Calls Tryz.prog 34 #[.pointer (some ⟨bp,0,none⟩)] w fun r w'=>∃Γ' vs vg gs,Γ.le Γ'∧r=.returned (.agg #[vs,vg])∧QR Γ' vs vg gs ⟨[(B3 toks 1).Text],U0 toks 2⟩∧Wd Γ' S w':=by
 have hn:n=16∧n≤c∧c≤9223372036854775807:=by obtain⟨_,_,_,h1,h2,h3⟩:=ht.shape;cases h1;exact⟨by rw[h2,List.length_map,hr.len],h3⟩
 obtain⟨hn,hnc,hc⟩:=hn;have hN:toks.length≤1000000:=by rw[hr.len];decide
 refine H1 Tryz.func34 rfl rfl ?_
 repeat first|refine C3 ?_|refine C4 ?_;intro w hw
 refine B4 ?_;intro b2 w hw;repeat first|refine C3 ?_|refine C4 ?_;intro w hw
 refine B4 ?_;intro b3 w hw;have hw:Wd Γ (A9 bp a n c 0 e1 e2::.blk b3 (.cells #[.slice none 0 0,.slice none 0 0] 25)::.blk b2 (.cells #[.slice none 0 0,.slice none 0 0] 25)::S) w:=hw.ps [2]
 repeat first|refine C3 ?_|refine C4 ?_;intro w hw
 refine D1 (vs:=[.pointer (some ⟨bp,0,none⟩),.int .i64 1,.string l8]) ?_
 refine(Bj 1 l8 hr.sel (by omega) hN ht hw).mono ?_
 clear hw;rintro r w ⟨rfl,hw⟩
 refine⟨_,rfl,?_⟩;repeat first|refine C3 ?_|refine C4 ?_;intro w hw
 refine D1 (vs:=[.pointer (some ⟨bp,0,none⟩),.int .i64 0,.int .i64 1,.string F7]) ?_
 refine(NX (j:=0) (by decide) 1 F7 (by omega) hN ht hw).mono ?_
 clear hw;rintro r w ⟨rfl,hw⟩
 rw[show I4 toks (0+1+0) 1 F7=false from hr.now];refine⟨_,rfl,?_⟩;repeat first|refine C3 ?_|refine C4 ?_;intro w hw
 refine A0 rfl (fun _=>?_) (fun h=>by cases h)
 have hw:=Wd.addNil (a:=none) (E:=9) (sz:=1) hw
 have hw:Wd Γ (.own (.slice none 0 0) 9 1 (A3 [])::A9 bp a n c 1 e1 e2::.blk b3 (.cells #[.slice none 0 0,.slice none 0 0] 25)::.blk b2 (.cells #[.slice none 0 0,.slice none 0 0] 25)::S) w:=hw
 repeat first|refine C3 ?_|refine C4 ?_;intro w hw
 refine W1 [.blk b2 (.cells #[.slice none 0 0,.slice none 0 0] 25)] [.blk b3 (.cells #[.slice none 0 0,.slice none 0 0] 25)] (.own (.slice none 0 0) 9 1 (A3 [])::A9 bp a n c 1 e1 e2::S) [] [12,13,14] [] [[],[],[],[1],[1],[1],[],[0,1]] [[],[0],[],[1],[1],[1],[],[0,1]] (by rw[List.append_nil];exact hw.ps [2,3]) ?_
 repeat(first|refine mY ?_|refine mP ?_|refine M9 ?_|refine X3 ?_|refine j0 ?_)
 refine X8 (c:=1) (T:=Unit) (T':=Unit) (vs:=[.pointer (some ⟨bp,0,none⟩)]) (fun _=>.string (B3 toks 1).Text) (fun _=>A9 bp a n c (1+1) e1 e2::.own (.slice none 0 0) 9 1 (A3 [])::S) (R:=fun _=>.own (.slice none 0 0) 9 1 (A3 [])::A9 bp a n c 1 e1 e2::S) (fun _ Y w hw=>(JK hr.kind hr.kw hr.size (by omega) hN ht (hw.ps [1]:Wd Γ (A9 bp a n c 1 e1 e2::(.own (.slice none 0 0) 9 1 (A3 [])::(S++Y))) w)).mono fun r w h=>⟨(),h.1,h.2⟩) ?_
 refine R5 (T:=Unit) (fun _=>[[.string (B3 toks 1).Text]]) ?_ ?_
 rotate_left
 ·intro t g h;have h2:g 12=_:=h
  show Q1 _ _ [(0,g 12)]=_
  rw[h2];rfl
 refine w9 (T:=Unit×Addr) (j:=2) (j2:=0) (fun t=>some t.2) (fun _=>[[.string (B3 toks 1).Text]]) ?_ ?_
 rotate_left
 ·intro t g h;exact h.2
 refine m4 ?_;refine X6 (T:=(Unit×Addr)×Value) (j:=2) (val:=fun t=>t.2) ?_ ?_
 rotate_left
 ·intro t g h;exact h.2
 refine x9 fun t w g h hw=>?_
 obtain⟨⟨⟨⟩,aB⟩,vv⟩:=t;have hw:Wd Γ (.blk b3 (.cells #[vv,.slice none 0 0] 25)::.own (.slice (some aB) 1 1) 9 1 [[.string (B3 toks 1).Text]]::A9 bp a n c (1+1) e1 e2::.own vv 9 1 (A3 [(B3 toks 1).Text])::(S++[.blk b2 (.cells #[.slice none 0 0,.slice none 0 0] 25)])) w:=hw
 obtain⟨sa,sn,sc,rfl,hsn,hsc,hscc⟩:=hw.own_shape (i:=3) rfl
 have hw:Wd Γ (A9 bp a n c 2 e1 e2::.blk b3 (.cells #[.slice sa sn sc,.slice none 0 0] 25)::.blk b2 (.cells #[.slice none 0 0,.slice none 0 0] 25)::.own (.slice sa sn sc) 9 1 (A3 [(B3 toks 1).Text])::S) w:=(hw.dropAt 1).perm K1
 repeat first|refine C3 ?_|refine C4 ?_;intro w hw
 refine C7 (fun μ ρ w=>Has ρ [(0,.pointer (some ⟨bp,0,none⟩)),(2,.pointer (some ⟨b2,0,none⟩)),(3,.pointer (some ⟨b3,0,none⟩))]∧Wd Γ (A9 bp a n c 2 e1 e2::.blk b3 (.cells #[.slice sa sn sc,.slice none 0 0] 25)::.blk b2 (.cells #[.slice none 0 0,.slice none 0 0] 25)::.own (.slice sa sn sc) 9 1 (A3 [(B3 toks 1).Text])::S) w) 1 ⟨⟨rfl,rfl,rfl,trivial⟩,hw⟩ ?_
 clear hw;rintro μ ρ w ⟨hρ,hw⟩
 rw[hρ.eq];clear hρ;repeat first|refine C3 ?_|refine C4 ?_;intro w hw
 refine D1 (vs:=[.pointer (some ⟨bp,0,none⟩),.int .i64 4,.string G8]) ?_
 refine(J7 4 G8 (by omega) hN ht hw).mono ?_
 clear hw;rintro r w ⟨rfl,hw⟩
 rw[hr.noc]at hw ⊢
 have hw:Wd Γ (A9 bp a n c 2 e1 e2::.blk b3 (.cells #[.slice sa sn sc,.slice none 0 0] 25)::.blk b2 (.cells #[.slice none 0 0,.slice none 0 0] 25)::.own (.slice sa sn sc) 9 1 (A3 [(B3 toks 1).Text])::S) w:=hw
 refine⟨_,rfl,?_⟩;repeat first|refine C3 ?_|refine C4 ?_;intro w hw
 refine A0 rfl (fun h=>by cases h) (fun _=>?_)
 repeat first|refine C3 ?_|refine C4 ?_;intro w hw
 refine D1 (vs:=[.pointer (some ⟨bp,0,none⟩),.int .i64 1,.string F7]) ?_
 refine(Bj 1 F7 hr.whe (by omega) hN ht hw).mono ?_
 clear hw;rintro r w ⟨rfl,hw⟩
 refine⟨_,rfl,?_⟩;have hw:=Wd.addNil (a:=none) (E:=79) (sz:=15) hw
 obtain⟨gs,hgs⟩:∃gs:List E5,gs=[]:=⟨_,rfl⟩
 obtain⟨ga,gn,gc,hga,hgn,hgc⟩:∃(ga:Option Addr) (gn gc:Nat),ga=none∧gn=0∧gc=0:=⟨_,_,_,rfl,rfl,rfl⟩
 have hw:Wd Γ (.own (.slice ga gn gc) 79 15 (gs.map cG)::A9 bp a n c (3+7*0) e1 e2::.blk b3 (.cells #[.slice sa sn sc,.slice ga gn gc] 25)::.blk b2 (.cells #[.slice none 0 0,.slice none 0 0] 25)::.own (.slice sa sn sc) 9 1 (A3 [(B3 toks 1).Text])::S) w:=by
  rw[hga,hgn,hgc,hgs];exact hw
 have hgl:gn=gs.length:=by rw[hgs,hgn];rfl
 have hgb:gn≤2:=by omega
 have hok:∀x∈gs,GB Γ x:=fun x hx=>by rw[hgs]at hx;cases hx
 have hgs:gs.map (·.g)=U0 toks 0:=by rw[hgs];rfl
 have hrel:PV toks (3+7*0) 2:=hr.rels 0 (by decide)
 obtain⟨Γ1,hΓ1⟩:∃Γ1,Γ1=Γ:=⟨_,rfl⟩
 rw[←hΓ1]at hw hok
 have ht1:D2 Γ1 (.slice a n c) 5 (toks.map enc):=by rw[hΓ1];exact ht
 have hle1:Γ.le Γ1:=by rw[hΓ1];exact B5.le.refl _
 clear hga hgn hgc hΓ1;repeat first|refine C3 ?_|refine C4 ?_;intro w hw
 refine W1 [.blk b2 (.cells #[.slice none 0 0,.slice none 0 0] 25)] [.blk b3 (.cells #[.slice sa sn sc,.slice ga gn gc] 25)] (.own (.slice ga gn gc) 79 15 (gs.map cG)::A9 bp a n c (3+7*0) e1 e2::.own (.slice sa sn sc) 9 1 (A3 [(B3 toks 1).Text])::S) [] [30,31,32] [] [[],[],[],[1],[1],[1],[],[0,1]] [[],[0],[],[1],[1],[1],[],[0,1]] (by rw[List.append_nil];exact hw.ps [2,3]) ?_
 repeat(first|refine mY ?_|refine mP ?_|refine M9 ?_|refine X3 ?_|refine j0 ?_)
 refine X8 (c:=1) (T:=Unit) (T':=GA) (vs:=[.pointer (some ⟨bp,0,none⟩)]) (fun v=>.agg (cG ⟨J0 (B3 toks (3+7*0)).Text (C6 toks (3+7*0+2) 2),v.1,v.2.1,v.2.2⟩).toArray) (fun v=>.own (Ql v) 77 4 ((C6 toks (3+7*0+2) 2).map enc)::A9 bp a n c (3+7*0+2*2+2) e1 e2::.own (.slice ga gn gc) 79 15 (gs.map cG)::.own (.slice sa sn sc) 9 1 (A3 [(B3 toks 1).Text])::S) (R:=fun _=>.own (.slice ga gn gc) 79 15 (gs.map cG)::A9 bp a n c (3+7*0) e1 e2::.own (.slice sa sn sc) 9 1 (A3 [(B3 toks 1).Text])::S) (fun _ Y w hw=>Lm hrel (by omega) hN ht1 (hw.ps [1]:Wd Γ1 (A9 bp a n c (3+7*0) e1 e2::(.own (.slice ga gn gc) 79 15 (gs.map cG)::.own (.slice sa sn sc) 9 1 (A3 [(B3 toks 1).Text])::(S++Y))) w)) ?_
 refine R5 (T:=GA) (fun v=>[cG ⟨J0 (B3 toks (3+7*0)).Text (C6 toks (3+7*0+2) 2),v.1,v.2.1,v.2.2⟩]) ?_ ?_
 rotate_left
 ·intro t g h;have h2:g 30=_:=h
  show Q1 _ _ [(0,g 30)]=_
  rw[h2];rfl
 refine w9 (T:=GA×Addr) (j:=3) (j2:=0) (fun t=>some t.2) (fun t=>[cG ⟨J0 (B3 toks (3+7*0)).Text (C6 toks (3+7*0+2) 2),t.1.1,t.1.2.1,t.1.2.2⟩]) ?_ ?_
 rotate_left
 ·intro t g h;exact h.2
 refine m4 ?_;refine X6 (T:=(GA×Addr)×Value) (j:=3) (val:=fun t=>t.2) ?_ ?_
 rotate_left
 ·intro t g h;exact h.2
 refine x9 fun t w g h hw=>?_
 obtain⟨⟨⟨Ax,Nx,Cx⟩,aB⟩,vv⟩:=t;have hw:Wd Γ1 (.blk b3 (.cells #[.slice sa sn sc,vv] 25)::.own (.slice (some aB) 1 1) 79 15 [cG ⟨J0 (B3 toks (3+7*0)).Text (C6 toks (3+7*0+2) 2),Ax,Nx,Cx⟩]::.own (.slice Ax Nx Cx) 77 4 ((C6 toks (3+7*0+2) 2).map enc)::A9 bp a n c (3+7*0+2*2+2) e1 e2::.own vv 79 15 (gs.map cG++[cG ⟨J0 (B3 toks (3+7*0)).Text (C6 toks (3+7*0+2) 2),Ax,Nx,Cx⟩])::.own (.slice sa sn sc) 9 1 (A3 [(B3 toks 1).Text])::(S++[.blk b2 (.cells #[.slice none 0 0,.slice none 0 0] 25)])) w:=hw
 obtain⟨A2,N2,C2,rfl,hN2,hNC2,hC2⟩:=hw.own_shape (i:=4) rfl
 obtain⟨Γ2,hle2,hfo,hw⟩:=Wd.freeze (hw.ps [2]:Wd Γ1 (.own (.slice Ax Nx Cx) 77 4 ((C6 toks (3+7*0+2) 2).map enc)::.blk b3 (.cells #[.slice sa sn sc,.slice A2 N2 C2] 25)::.own (.slice (some aB) 1 1) 79 15 [cG ⟨J0 (B3 toks (3+7*0)).Text (C6 toks (3+7*0+2) 2),Ax,Nx,Cx⟩]::A9 bp a n c (3+7*0+2*2+2) e1 e2::.own (.slice A2 N2 C2) 79 15 (gs.map cG++[cG ⟨J0 (B3 toks (3+7*0)).Text (C6 toks (3+7*0+2) 2),Ax,Nx,Cx⟩])::.own (.slice sa sn sc) 9 1 (A3 [(B3 toks 1).Text])::(S++[.blk b2 (.cells #[.slice none 0 0,.slice none 0 0] 25)])) w)
 have hw:Wd Γ2 (.own (.slice A2 N2 C2) 79 15 ((gs++[(⟨J0 (B3 toks (3+7*0)).Text (C6 toks (3+7*0+2) 2),Ax,Nx,Cx⟩:E5)]).map cG)::A9 bp a n c (3+7*0+2*2+2) e1 e2::.blk b3 (.cells #[.slice sa sn sc,.slice A2 N2 C2] 25)::.blk b2 (.cells #[.slice none 0 0,.slice none 0 0] 25)::.own (.slice sa sn sc) 9 1 (A3 [(B3 toks 1).Text])::S) w:=by
  rw[List.map_append];exact(hw.dropAt 1).perm K1
 have hgs2:(gs++[(⟨J0 (B3 toks (3+7*0)).Text (C6 toks (3+7*0+2) 2),Ax,Nx,Cx⟩:E5)]).map (·.g)=U0 toks (0+1):=by
  rw[List.map_append,hgs,Cr];rfl
 have hok2:∀x∈gs++[(⟨J0 (B3 toks (3+7*0)).Text (C6 toks (3+7*0+2) 2),Ax,Nx,Cx⟩:E5)],GB Γ2 x:=fun x hx=>by
  rcases List.mem_append.1 hx with hx|hx
  ·exact(hok x hx).mono hle2
  ·rw[List.mem_singleton.1 hx];exact hfo
 repeat first|refine C3 ?_|refine C4 ?_;intro w hw
 refine C7 (fun μ ρ w=>∃(k:Nat) (Γ1:B5) (ga:Option Addr) (gn gc:Nat) (gs:List E5),μ+k=2∧k<2∧Γ.le Γ1∧gs.map (·.g)=U0 toks (k+1)∧(∀x∈gs,GB Γ1 x)∧Has ρ [(0,.pointer (some ⟨bp,0,none⟩)),(2,.pointer (some ⟨b2,0,none⟩)),(3,.pointer (some ⟨b3,0,none⟩))]∧Wd Γ1 (.own (.slice ga gn gc) 79 15 (gs.map cG)::A9 bp a n c (3+7*k+2*2+2) e1 e2::.blk b3 (.cells #[.slice sa sn sc,.slice ga gn gc] 25)::.blk b2 (.cells #[.slice none 0 0,.slice none 0 0] 25)::.own (.slice sa sn sc) 9 1 (A3 [(B3 toks 1).Text])::S) w) 2 ⟨0,Γ2,A2,N2,C2,_,by omega,by omega,hle1.trans hle2,hgs2,hok2,⟨rfl,rfl,rfl,trivial⟩,hw⟩ ?_
 clear hw hgs hok hgl hgb hrel ht1 hle1 hle2 hfo hgs2 hok2 hN2 hNC2 hC2;rintro μ ρ w ⟨k,Γ1,ga,gn,gc,gs,hk,hk2,hle1,hgs,hok,hρ,hw⟩
 rw[hρ.eq];clear hρ;have ht1:=ht.mono hle1
 have hgl:gs.length=k+1:=by have:=congrArg List.length hgs;simpa[U0] using this
 have hgb:gn=gs.length:=by obtain⟨_,_,_,h1,h2,_⟩:=hw.own_shape (i:=0) rfl;cases h1;simpa using h2
 repeat first|refine C3 ?_|refine C4 ?_;intro w hw
 refine D1 (vs:=[.pointer (some ⟨bp,0,none⟩),.int .i64 4,.string G8]) ?_
 refine(J7 4 G8 (by omega) hN ht1 (hw.ps [1])).mono ?_
 clear hw;rintro r w ⟨rfl,hw⟩
 rw[hr.com k hk2]at hw ⊢
 refine⟨_,rfl,?_⟩;repeat first|refine C3 ?_|refine C4 ?_;intro w hw
 refine A0 rfl (fun h=>?_) (fun h=>?_)
 ·have h1:=of_decide_eq_true h
  rw[if_pos h]at hw;have hk0:k=0:=by omega
  subst hk0;have hrel:PV toks (3+7*(0+1)) 2:=hr.rels 1 (by decide)
  have hw:Wd Γ1 (.own (.slice ga gn gc) 79 15 (gs.map cG)::A9 bp a n c (3+7*(0+1)) e1 e2::.blk b3 (.cells #[.slice sa sn sc,.slice ga gn gc] 25)::.blk b2 (.cells #[.slice none 0 0,.slice none 0 0] 25)::.own (.slice sa sn sc) 9 1 (A3 [(B3 toks 1).Text])::S) w:=hw.ps [1]
  clear h;repeat first|refine C3 ?_|refine C4 ?_;intro w hw
  refine W1 [.blk b2 (.cells #[.slice none 0 0,.slice none 0 0] 25)] [.blk b3 (.cells #[.slice sa sn sc,.slice ga gn gc] 25)] (.own (.slice ga gn gc) 79 15 (gs.map cG)::A9 bp a n c (3+7*(0+1)) e1 e2::.own (.slice sa sn sc) 9 1 (A3 [(B3 toks 1).Text])::S) [] [39,40,41] [] [[],[],[],[1],[1],[1],[],[0,1]] [[],[0],[],[1],[1],[1],[],[0,1]] (by rw[List.append_nil];exact hw.ps [2,3]) ?_
  repeat(first|refine mY ?_|refine mP ?_|refine M9 ?_|refine X3 ?_|refine j0 ?_)
  refine X8 (c:=1) (T:=Unit) (T':=GA) (vs:=[.pointer (some ⟨bp,0,none⟩)]) (fun v=>.agg (cG ⟨J0 (B3 toks (3+7*(0+1))).Text (C6 toks (3+7*(0+1)+2) 2),v.1,v.2.1,v.2.2⟩).toArray) (fun v=>.own (Ql v) 77 4 ((C6 toks (3+7*(0+1)+2) 2).map enc)::A9 bp a n c (3+7*(0+1)+2*2+2) e1 e2::.own (.slice ga gn gc) 79 15 (gs.map cG)::.own (.slice sa sn sc) 9 1 (A3 [(B3 toks 1).Text])::S) (R:=fun _=>.own (.slice ga gn gc) 79 15 (gs.map cG)::A9 bp a n c (3+7*(0+1)) e1 e2::.own (.slice sa sn sc) 9 1 (A3 [(B3 toks 1).Text])::S) (fun _ Y w hw=>Lm hrel (by omega) hN ht1 (hw.ps [1]:Wd Γ1 (A9 bp a n c (3+7*(0+1)) e1 e2::(.own (.slice ga gn gc) 79 15 (gs.map cG)::.own (.slice sa sn sc) 9 1 (A3 [(B3 toks 1).Text])::(S++Y))) w)) ?_
  refine R5 (T:=GA) (fun v=>[cG ⟨J0 (B3 toks (3+7*(0+1))).Text (C6 toks (3+7*(0+1)+2) 2),v.1,v.2.1,v.2.2⟩]) ?_ ?_
  rotate_left
  ·intro t g h;have h2:g 39=_:=h
   show Q1 _ _ [(0,g 39)]=_
   rw[h2];rfl
  refine w9 (T:=GA×Addr) (j:=3) (j2:=0) (fun t=>some t.2) (fun t=>[cG ⟨J0 (B3 toks (3+7*(0+1))).Text (C6 toks (3+7*(0+1)+2) 2),t.1.1,t.1.2.1,t.1.2.2⟩]) ?_ ?_
  rotate_left
  ·intro t g h;exact h.2
  refine m4 ?_;refine X6 (T:=(GA×Addr)×Value) (j:=3) (val:=fun t=>t.2) ?_ ?_
  rotate_left
  ·intro t g h;exact h.2
  refine x9 fun t w g h hw=>?_
  obtain⟨⟨⟨Ax,Nx,Cx⟩,aB⟩,vv⟩:=t;have hw:Wd Γ1 (.blk b3 (.cells #[.slice sa sn sc,vv] 25)::.own (.slice (some aB) 1 1) 79 15 [cG ⟨J0 (B3 toks (3+7*(0+1))).Text (C6 toks (3+7*(0+1)+2) 2),Ax,Nx,Cx⟩]::.own (.slice Ax Nx Cx) 77 4 ((C6 toks (3+7*(0+1)+2) 2).map enc)::A9 bp a n c (3+7*(0+1)+2*2+2) e1 e2::.own vv 79 15 (gs.map cG++[cG ⟨J0 (B3 toks (3+7*(0+1))).Text (C6 toks (3+7*(0+1)+2) 2),Ax,Nx,Cx⟩])::.own (.slice sa sn sc) 9 1 (A3 [(B3 toks 1).Text])::(S++[.blk b2 (.cells #[.slice none 0 0,.slice none 0 0] 25)])) w:=hw
  obtain⟨A2,N2,C2,rfl,hN2,hNC2,hC2⟩:=hw.own_shape (i:=4) rfl
  obtain⟨Γ2,hle2,hfo,hw⟩:=Wd.freeze (hw.ps [2]:Wd Γ1 (.own (.slice Ax Nx Cx) 77 4 ((C6 toks (3+7*(0+1)+2) 2).map enc)::.blk b3 (.cells #[.slice sa sn sc,.slice A2 N2 C2] 25)::.own (.slice (some aB) 1 1) 79 15 [cG ⟨J0 (B3 toks (3+7*(0+1))).Text (C6 toks (3+7*(0+1)+2) 2),Ax,Nx,Cx⟩]::A9 bp a n c (3+7*(0+1)+2*2+2) e1 e2::.own (.slice A2 N2 C2) 79 15 (gs.map cG++[cG ⟨J0 (B3 toks (3+7*(0+1))).Text (C6 toks (3+7*(0+1)+2) 2),Ax,Nx,Cx⟩])::.own (.slice sa sn sc) 9 1 (A3 [(B3 toks 1).Text])::(S++[.blk b2 (.cells #[.slice none 0 0,.slice none 0 0] 25)])) w)
  have hw:Wd Γ2 (.own (.slice A2 N2 C2) 79 15 ((gs++[(⟨J0 (B3 toks (3+7*(0+1))).Text (C6 toks (3+7*(0+1)+2) 2),Ax,Nx,Cx⟩:E5)]).map cG)::A9 bp a n c (3+7*(0+1)+2*2+2) e1 e2::.blk b3 (.cells #[.slice sa sn sc,.slice A2 N2 C2] 25)::.blk b2 (.cells #[.slice none 0 0,.slice none 0 0] 25)::.own (.slice sa sn sc) 9 1 (A3 [(B3 toks 1).Text])::S) w:=by
   rw[List.map_append];exact(hw.dropAt 1).perm K1
  have hgs2:(gs++[(⟨J0 (B3 toks (3+7*(0+1))).Text (C6 toks (3+7*(0+1)+2) 2),Ax,Nx,Cx⟩:E5)]).map (·.g)=U0 toks ((0+1)+1):=by
   rw[List.map_append,hgs,Cr];rfl
  have hok2:∀x∈gs++[(⟨J0 (B3 toks (3+7*(0+1))).Text (C6 toks (3+7*(0+1)+2) 2),Ax,Nx,Cx⟩:E5)],GB Γ2 x:=fun x hx=>by
   rcases List.mem_append.1 hx with hx|hx
   ·exact(hok x hx).mono hle2
   ·rw[List.mem_singleton.1 hx];exact hfo
  repeat first|refine C3 ?_|refine C4 ?_;intro w hw
  exact⟨μ-1,by omega,0+1,Γ2,A2,N2,C2,_,by omega,by omega,hle1.trans hle2,hgs2,hok2,⟨rfl,rfl,rfl,trivial⟩,hw⟩
 ·have h1:=of_decide_eq_false h
  have hk1:k=1:=by omega
  subst hk1;rw[if_neg (by rw[h];decide)]at hw
  clear h;unfold A9 at hw;repeat first|refine C3 ?_|refine C4 ?_;intro w hw
  refine K5 (by kernel_rfl) (by kernel_rfl) hw ?_
  refine Ef ?_;intro w hw;refine A0 rfl (fun h=>absurd (of_decide_eq_true h) (by omega)) (fun _=>?_)
  repeat first|refine C3 ?_|refine C4 ?_;intro w hw
  refine B0 (i:=3) ?_
  intro w hw;have hw:Wd Γ1 (.blk b2 (.cells #[.slice sa sn sc,.slice ga gn gc] 25)::.own (.slice ga gn gc) 79 15 (gs.map cG)::.own (.slice sa sn sc) 9 1 (A3 [(B3 toks 1).Text])::A9 bp a n c (3+7*1+2*2+2) e1 e2::.blk b3 (.cells #[.slice sa sn sc,.slice ga gn gc] 25)::S) w:=hw.ps [2,1,4,3,4]
  repeat first|refine C3 ?_|refine C4 ?_;intro w hw
  refine⟨[.agg #[.slice sa sn sc,.slice ga gn gc]],⟨M3 (i:=0) hw rfl rfl rfl,trivial⟩,?_⟩
  obtain⟨Γ2,hle2,hg2,hw⟩:=hw.drop.freeze;obtain⟨Γ3,hle3,hs3,hw⟩:=hw.freeze;exact⟨Γ3,_,_,gs,hle1.trans (hle2.trans hle3),rfl,⟨hs3,hg2.mono hle3,hgs,fun x hx=>(hok x hx).mono (hle2.trans hle3)⟩,hw.ds [0,0]⟩
end
end Go.Proofs.YtlimglpjpcfpdaaGreatDoor
end
section
open Go Mk
namespace Go.Proofs.YtlimglpjpcfpdaaGreatDoor
set_option maxHeartbeats 32000000
def W7(toks:List Tok)(e:F8):Nat→List ByteArray→Nat→PR (List ByteArray)
 | 0,acc,k=>.ok (acc,k)
 | f+1,acc,k=>if I4 toks k 4 G8=true then I1 (R1 toks e (k+1)) fun s k1=>W7 toks e f (acc++[s]) k1 else .ok (acc,k)
def Kt(toks:List Tok)(e:F8)(k:Nat):PR (List ByteArray):=
 if I4 toks k 1 F7=true then .ok ([],k) else I1 (R1 toks e k) fun s k1=>W7 toks e (toks.length+1) [s] k1
def W3(toks:List Tok)(e:F8):Nat→List D6→Nat→PR (List D6)
 | 0,acc,k=>.ok (acc,k)
 | f+1,acc,k=>if I4 toks k 4 G8=true then I1 (S0 toks e (k+1)) fun g k1=>W3 toks e f (acc++[g]) k1 else .ok (acc,k)
def Jn(toks:List Tok)(e:F8)(sel:List ByteArray)(k:Nat):PR D3:=
 I1 (o9 toks e 1 F7 k) fun _ k3=>I1 (S0 toks e k3) fun g k4=>I1 (W3 toks e (toks.length+1) [g] k4) fun gs k5=>
  if k5<toks.length then .error (U6 toks k5 e,50) else .ok (⟨sel,gs⟩,k5)
def X5(toks:List Tok)(e:F8)(k:Nat):PR D3:=
 I1 (o9 toks e 1 l8 k) fun _ k1=>I1 (Kt toks e k1) fun sel k2=>Jn toks e sel k2
def Nw(Γ:B5)(S:List B1)(bp:Nat)(a:Option Addr)(n c:Nat)(e:F8):PR D3→Ending→World→Prop
 | .ok (q,_),r,w=>∃Γ' vs vg gs,Γ.le Γ'∧r=.returned (.agg #[vs,vg])∧QR Γ' vs vg gs q∧Wd Γ' S w
 | .error (p,er),r,w=>∃Γ' k,Γ.le Γ'∧r=.panicked [p9 p er]∧Wd Γ' (A9 bp a n c k e.Line e.Col::S) w
section
variable {Γ:B5}{S:List B1}{w:World}{bp:Nat}{a:Option Addr}{n c at':Nat}{e:F8}{toks:List Tok}
theorem F3{α β:Type}{x:α}{k:Nat}{f:α→Nat→PR β}:I1 (.ok (x,k)) f=f x k:=rfl
theorem Bv{α β:Type}{q:F8×Int}{f:α→Nat→PR β}:I1 (.error q) f=.error q:=rfl
theorem D5{α β:Type}{x:PR α}{f:α→Nat→PR β}{y:β×Nat}(h:I1 x f=.ok y):∃a k,x=.ok (a,k)∧f a k=.ok y:=by
 cases x with
 | error q=>cases h
 | ok q=>exact⟨q.1,q.2,rfl,h⟩
theorem DT{kind:Int}{text:ByteArray}{k k':Nat}{u:Unit}(h:o9 toks e kind text k=.ok (u,k')):k'=k+1:=by
 unfold o9 at h;split at h
 ·cases h;rfl
 ·cases h
theorem KB{k k':Nat}{v:Int}(h:u5 toks e k=.ok (v,k')):k<k':=by
 unfold u5 at h;split at h
 ·obtain⟨z2,hz2,-⟩:=I8 h
  have:=V2 hz2
  omega
 ·obtain⟨z2,hz2,-⟩:=I8 h
  have:=V2 hz2
  omega
theorem HM:∀(f:Nat) {acc os:List F1} {k k':Nat},Z0 toks e f acc k=.ok (os,k')→k≤k'
 | 0,acc,os,k,k',h=>by unfold Z0 at h;cases h;exact Nat.le_refl _
 | f+1,acc,os,k,k',h=>by
  unfold Z0 at h;split at h
  ·obtain⟨o,k1,h1,h2⟩:=D5 h
   have:=Aw h1
   have:=HM f h2
   omega
  ·cases h;exact Nat.le_refl _
theorem Ox{k k':Nat}{v:Int}(h:Hh toks e k=.ok (v,k')):k≤k':=by
 unfold Hh at h;split at h
 ·obtain⟨z2,hz2,-⟩:=I8 h
  have:=V2 hz2
  omega
 ·split at h
  ·obtain⟨z2,hz2,-⟩:=I8 h
   have:=V2 hz2
   omega
  ·cases h;exact Nat.le_refl _
theorem Jh{kind:Int}{k k':Nat}{g:D6}(h:EO toks e kind k=.ok (g,k')):k<k':=by
 unfold EO at h;obtain⟨_,_,h1,h⟩:=D5 h
 obtain⟨_,_,h2,h⟩:=D5 h
 obtain⟨_,_,h3,h⟩:=D5 h
 obtain⟨_,_,h4,h⟩:=D5 h
 obtain⟨_,_,h5,h⟩:=D5 h
 cases h
 have:=W9 h1
 have:=DT h2
 have:=Aw h3
 have:=HM _ h4
 have:=DT h5
 omega
theorem Dx{k k':Nat}{g:D6}(h:S0 toks e k=.ok (g,k')):k<k':=by
 unfold S0 at h;split at h
 ·have:=Jh h;omega
 ·split at h
  ·exact Jh h
  ·obtain⟨l,k1,h1,h⟩:=D5 h
   have:=Aw h1
   split at h
   ·unfold HH at h;obtain⟨_,_,h1,h⟩:=D5 h
    obtain⟨_,_,h2,h⟩:=D5 h
    obtain⟨_,_,h3,h⟩:=D5 h
    cases h
    have:=KB h1
    have:=DT h2
    have:=KB h3
    omega
   ·unfold HJ at h;split at h
    ·cases h
    ·obtain⟨_,_,h2,h⟩:=D5 h
     obtain⟨_,_,h3,h⟩:=D5 h
     cases h
     have:=Aw h2
     have:=Ox h3
     omega
theorem Bm{k k':Nat}{s:ByteArray}(h:R1 toks e k=.ok (s,k')):k'≤toks.length:=by
 have h1:=W9 h
 unfold R1 at h;split at h
 ·rename_i hk
  have:=W8 (toks:=toks) (at':=k) (by omega)
  omega
 ·cases h
theorem QG(hW:DX toks)(hat:at'≤n)(hN:toks.length≤1000000)(ht:D2 Γ (.slice a n c) 5 (toks.map enc))(hw:Wd Γ (A9 bp a n c at' e.Line e.Col::S) w) :
  Calls Tryz.prog 34 #[.pointer (some ⟨bp,0,none⟩)] w (Nw Γ S bp a n c e (X5 toks e at')):=by
 have hn:n=toks.length:=by obtain⟨_,_,_,h1,h2,h3⟩:=ht.shape;cases h1;simpa using h2
 refine H1 Tryz.func34 rfl rfl ?_
 refine A1 ?_;refine B4 ?_;intro b2 w hw;refine A1 ?_;refine B4 ?_;intro b3 w hw;have hw:Wd Γ (A9 bp a n c at' e.Line e.Col::.blk b3 (.cells #[.slice none 0 0,.slice none 0 0] 25)::.blk b2 (.cells #[.slice none 0 0,.slice none 0 0] 25)::S) w:=hw.ps [2]
 unfold X5;refine A1 ?_;refine G0 (vs:=[.pointer (some ⟨bp,0,none⟩),.int .i64 1,.string l8]) ?_
 refine(BW 1 l8 (by decide) hat hN ht hw).mono ?_
 clear hw;rintro r w hr
 cases hE:o9 toks e 1 l8 at' with
 | error q=>
  obtain⟨p,er⟩:=q;rw[hE]at hr;obtain⟨rfl,k,hw⟩:=hr;exact⟨Γ,k,B5.le.refl _,rfl,(hw.dropAt 1).dropAt 1⟩
 | ok q=>
 obtain⟨_,k1⟩:=q;rw[hE]at hr;obtain⟨rfl,hk1,hw⟩:=hr;show L _ _ _ _ _ _ _
 rw[F3];clear hE hat;refine Z2 ?_
 refine Ae (fun ρ w=>∃(sel:List ByteArray) (k:Nat) (sa:Option Addr) (sn sc:Nat),Kt toks e k1=.ok (sel,k)∧k≤n∧Has ρ [(0,.pointer (some ⟨bp,0,none⟩)),(2,.pointer (some ⟨b2,0,none⟩)),(3,.pointer (some ⟨b3,0,none⟩))]∧Wd Γ (A9 bp a n c k e.Line e.Col::.blk b3 (.cells #[.slice sa sn sc,.slice none 0 0] 25)::.blk b2 (.cells #[.slice none 0 0,.slice none 0 0] 25)::.own (.slice sa sn sc) 9 1 (A3 sel)::S) w) ?_ ?_
 ·refine A1 ?_;refine D1 (vs:=[.pointer (some ⟨bp,0,none⟩),.int .i64 0,.int .i64 1,.string F7]) ?_
  refine(NX (j:=0) (by decide) 1 F7 hk1 hN ht hw).mono ?_
  clear hw;rintro r w ⟨rfl,hw⟩
  rw[Nat.add_zero];refine⟨_,rfl,?_⟩;unfold Kt;generalize I4 toks k1 1 F7=bi at *
  refine A1 ?_;cases bi with
  | true=>
   refine A0 rfl (fun h=>by cases h) (fun _=>?_)
   refine A1 ?_;have hw:=Wd.addNil (a:=none) (E:=9) (sz:=1) hw
   exact⟨[],k1,none,0,0,by rw[if_pos rfl],hk1,⟨rfl,rfl,rfl,trivial⟩,hw.ps [3,3,3]⟩
  | false=>
   refine A0 rfl (fun _=>?_) (fun h=>by cases h)
   rw[if_neg (by decide)]
   have hw:=Wd.addNil (a:=none) (E:=9) (sz:=1) hw
   have hw:Wd Γ (.own (.slice none 0 0) 9 1 (A3 [])::A9 bp a n c k1 e.Line e.Col::.blk b3 (.cells #[.slice none 0 0,.slice none 0 0] 25)::.blk b2 (.cells #[.slice none 0 0,.slice none 0 0] 25)::S) w:=hw
   refine A1 ?_;have hk9:k1≤n:=hk1
   cases hO:R1 toks e k1 with
   | error q=>
    obtain⟨p,er⟩:=q;rw[Bv,Bv];refine AO (fun ch w=>ch=[p9 p er]∧∃k,Wd Γ (A9 bp a n c k e.Line e.Col::S) w) [.blk b2 (.cells #[.slice none 0 0,.slice none 0 0] 25)] [.blk b3 (.cells #[.slice none 0 0,.slice none 0 0] 25)] (.own (.slice none 0 0) 9 1 (A3 [])::A9 bp a n c k1 e.Line e.Col::S) [] [12,13,14] [] [[],[],[],[1],[1],[1],[],[0,1]] [[],[0],[],[1],[1],[1],[],[0,1]] (by rw[List.append_nil];exact hw.ps [2,3]) (fun ch ρ w ⟨h1,k,h2⟩=>by subst h1;exact⟨Γ,k,B5.le.refl _,rfl,h2⟩) ?_
    refine eY ?_
    refine eY ?_
    refine eY ?_
    refine Fj (c:=1) (T:=Unit) (T':=Empty) (vs:=[.pointer (some ⟨bp,0,none⟩)]) (fun t=>t.elim) (fun t=>t.elim) (φ:=fun _ _=>True) (R:=fun _=>.own (.slice none 0 0) 9 1 (A3 [])::A9 bp a n c k1 e.Line e.Col::S) (fun _ Y w hw=>(FK hk9 hN ht (hw.ps [1]:Wd Γ (A9 bp a n c k1 e.Line e.Col::(.own (.slice none 0 0) 9 1 (A3 [])::(S++Y))) w)).mono fun r w h=>?_) ?_
    ·rw[hO]at h;obtain⟨rfl,k,hw⟩:=h;have hw:Wd Γ (A9 bp a n c k e.Line e.Col::(.own (.slice none 0 0) 9 1 (A3 [])::(S++Y))) w:=hw
     exact⟨rfl,k,Wd.left (S:=A9 bp a n c k e.Line e.Col::S) (hw.dropAt 1)⟩
    refine GT (c:=1) ?_
    refine GT (c:=1) ?_
    refine eY ?_
    refine GT (c:=1) ?_
    exact CE (c:=1)
   | ok q=>
   obtain⟨s,k9⟩:=q;rw[F3];refine W1 [.blk b2 (.cells #[.slice none 0 0,.slice none 0 0] 25)] [.blk b3 (.cells #[.slice none 0 0,.slice none 0 0] 25)] (.own (.slice none 0 0) 9 1 (A3 [])::A9 bp a n c k1 e.Line e.Col::S) [] [12,13,14] [] [[],[],[],[1],[1],[1],[],[0,1]] [[],[0],[],[1],[1],[1],[],[0,1]] (by rw[List.append_nil];exact hw.ps [2,3]) ?_
   repeat(first|refine mY ?_|refine mP ?_|refine M9 ?_|refine X3 ?_|refine j0 ?_)
   refine X8 (c:=1) (T:=Unit) (T':=Unit) (vs:=[.pointer (some ⟨bp,0,none⟩)]) (fun _=>.string s) (fun _=>A9 bp a n c k9 e.Line e.Col::.own (.slice none 0 0) 9 1 (A3 [])::S) (R:=fun _=>.own (.slice none 0 0) 9 1 (A3 [])::A9 bp a n c k1 e.Line e.Col::S) (fun _ Y w hw=>(FK hk9 hN ht (hw.ps [1]:Wd Γ (A9 bp a n c k1 e.Line e.Col::(.own (.slice none 0 0) 9 1 (A3 [])::(S++Y))) w)).mono fun r w h=>by rw[hO]at h;exact⟨(),h.1,h.2.2⟩) ?_
   refine R5 (T:=Unit) (fun _=>[[.string s]]) ?_ ?_
   rotate_left
   ·intro t g h;have h2:g 12=.string s:=h
    show Q1 _ _ [(0,g 12)]=_
    rw[h2];rfl
   refine w9 (T:=Unit×Addr) (j:=2) (j2:=0) (fun t=>some t.2) (fun _=>[[.string s]]) ?_ ?_
   rotate_left
   ·intro t g h;exact h.2
   refine m4 ?_;refine X6 (T:=(Unit×Addr)×Value) (j:=2) (val:=fun t=>t.2) ?_ ?_
   rotate_left
   ·intro t g h;exact h.2
   refine x9 fun t w g h hw=>?_
   obtain⟨⟨⟨⟩,aB⟩,vv⟩:=t;have hw:Wd Γ (.blk b3 (.cells #[vv,.slice none 0 0] 25)::.own (.slice (some aB) 1 1) 9 1 [[.string s]]::A9 bp a n c k9 e.Line e.Col::.own vv 9 1 (A3 []++[[.string s]])::(S++[.blk b2 (.cells #[.slice none 0 0,.slice none 0 0] 25)])) w:=hw
   obtain⟨A2,N2,C2,hvv,hN2,hNC2,hC2⟩:=hw.own_shape (i:=3) rfl
   rw[hvv]at hw;rw[show A3 []++[[.string s]]=A3 ([]++[s]) from by unfold A3;rw[List.map_append];rfl]at hw hN2
   have hw:Wd Γ (.own (.slice A2 N2 C2) 9 1 (A3 ([]++[s]))::A9 bp a n c k9 e.Line e.Col::.blk b3 (.cells #[.slice A2 N2 C2,.slice none 0 0] 25)::.blk b2 (.cells #[.slice none 0 0,.slice none 0 0] 25)::S) w:=(hw.dropAt 1).perm K1
   have hk9':k9≤n:=by rw[hn];exact Bm hO
   obtain⟨tot,htot⟩:∃t,t=W7 toks e (toks.length+1) [s] k9:=⟨_,rfl⟩
   rw[←htot];have hw:Wd Γ (.own (.slice A2 N2 C2) 9 1 (A3 [s])::A9 bp a n c k9 e.Line e.Col::.blk b3 (.cells #[.slice A2 N2 C2,.slice none 0 0] 25)::.blk b2 (.cells #[.slice none 0 0,.slice none 0 0] 25)::S) w:=hw
   refine A1 ?_;refine C7 (fun μ ρ w=>∃(f:Nat) (acc:List ByteArray) (k:Nat) (A:Option Addr) (N C:Nat),W7 toks e f acc k=tot∧μ=n-k∧k≤n∧n<f+k∧acc.length≤1+k∧Has ρ [(0,.pointer (some ⟨bp,0,none⟩)),(2,.pointer (some ⟨b2,0,none⟩)),(3,.pointer (some ⟨b3,0,none⟩))]∧Wd Γ (.own (.slice A N C) 9 1 (A3 acc)::A9 bp a n c k e.Line e.Col::.blk b3 (.cells #[.slice A N C,.slice none 0 0] 25)::.blk b2 (.cells #[.slice none 0 0,.slice none 0 0] 25)::S) w) (n-k9) ⟨toks.length+1,[s],k9,A2,N2,C2,htot.symm,rfl,hk9',by omega,by simp,⟨rfl,rfl,rfl,trivial⟩,hw⟩ ?_
   clear hw hO hk9;rintro μ ρ w ⟨f,acc,k,A,N,C,hf,hμ,hkn,hfk,hal,hρ,hw⟩
   rw[hρ.eq];clear hρ;have hNl:N=acc.length:=by
    obtain⟨_,_,_,hE,h2,-,-⟩:=hw.own_shape (i:=0) rfl
    cases hE
    simpa[A3] using h2
   obtain⟨f',rfl⟩:∃f',f=f'+1:=⟨f-1,by omega⟩
   unfold W7 at hf;refine A1 ?_;refine D1 (vs:=[.pointer (some ⟨bp,0,none⟩),.int .i64 4,.string G8]) ?_
   refine(J7 (S:=.own (.slice A N C) 9 1 (A3 acc)::.blk b3 (.cells #[.slice A N C,.slice none 0 0] 25)::.blk b2 (.cells #[.slice none 0 0,.slice none 0 0] 25)::S) 4 G8 hkn hN ht (hw.ps [1])).mono ?_
   clear hw;rintro r w ⟨rfl,hw⟩
   refine⟨_,rfl,?_⟩;cases hi:I4 toks k 4 G8 with
   | true=>
    have hlt:=U4 (by decide) hi
    rw[hi,if_pos rfl]at hw hf
    have hk9:k+1≤n:=by omega
    have hw:Wd Γ (.own (.slice A N C) 9 1 (A3 acc)::A9 bp a n c (k+1) e.Line e.Col::.blk b3 (.cells #[.slice A N C,.slice none 0 0] 25)::.blk b2 (.cells #[.slice none 0 0,.slice none 0 0] 25)::S) w:=hw.ps [1]
    refine A1 ?_;refine A0 rfl (fun _=>?_) (fun h=>by cases h)
    refine A1 ?_;cases hO:R1 toks e (k+1) with
    | error q=>
     obtain⟨p,er⟩:=q;have htE:tot=.error (p,er):=by rw[←hf,hO];rfl
     rw[htE,Bv];refine AO (fun ch w=>ch=[p9 p er]∧∃k,Wd Γ (A9 bp a n c k e.Line e.Col::S) w) [.blk b2 (.cells #[.slice none 0 0,.slice none 0 0] 25)] [.blk b3 (.cells #[.slice A N C,.slice none 0 0] 25)] (.own (.slice A N C) 9 1 (A3 acc)::A9 bp a n c (k+1) e.Line e.Col::S) [] [21,22,23] [] [[],[],[],[1],[1],[1],[],[0,1]] [[],[0],[],[1],[1],[1],[],[0,1]] (by rw[List.append_nil];exact hw.ps [2,3]) (fun ch ρ w ⟨h1,k,h2⟩=>by subst h1;exact⟨Γ,k,B5.le.refl _,rfl,h2⟩) ?_
     refine eY ?_
     refine eY ?_
     refine eY ?_
     refine Fj (c:=1) (T:=Unit) (T':=Empty) (vs:=[.pointer (some ⟨bp,0,none⟩)]) (fun t=>t.elim) (fun t=>t.elim) (φ:=fun _ _=>True) (R:=fun _=>.own (.slice A N C) 9 1 (A3 acc)::A9 bp a n c (k+1) e.Line e.Col::S) (fun _ Y w hw=>(FK hk9 hN ht (hw.ps [1]:Wd Γ (A9 bp a n c (k+1) e.Line e.Col::(.own (.slice A N C) 9 1 (A3 acc)::(S++Y))) w)).mono fun r w h=>?_) ?_
     ·rw[hO]at h;obtain⟨rfl,k,hw⟩:=h;have hw:Wd Γ (A9 bp a n c k e.Line e.Col::(.own (.slice A N C) 9 1 (A3 acc)::(S++Y))) w:=hw
      exact⟨rfl,k,Wd.left (S:=A9 bp a n c k e.Line e.Col::S) (hw.dropAt 1)⟩
     refine GT (c:=1) ?_
     refine GT (c:=1) ?_
     refine eY ?_
     refine GT (c:=1) ?_
     exact CE (c:=1)
    | ok q=>
    obtain⟨s,k9⟩:=q;have hk9':k9≤n:=by rw[hn];exact Bm hO
    have hk9l:=W9 hO
    refine W1 [.blk b2 (.cells #[.slice none 0 0,.slice none 0 0] 25)] [.blk b3 (.cells #[.slice A N C,.slice none 0 0] 25)] (.own (.slice A N C) 9 1 (A3 acc)::A9 bp a n c (k+1) e.Line e.Col::S) [] [21,22,23] [] [[],[],[],[1],[1],[1],[],[0,1]] [[],[0],[],[1],[1],[1],[],[0,1]] (by rw[List.append_nil];exact hw.ps [2,3]) ?_
    repeat(first|refine mY ?_|refine mP ?_|refine M9 ?_|refine X3 ?_|refine j0 ?_)
    refine X8 (c:=1) (T:=Unit) (T':=Unit) (vs:=[.pointer (some ⟨bp,0,none⟩)]) (fun _=>.string s) (fun _=>A9 bp a n c k9 e.Line e.Col::.own (.slice A N C) 9 1 (A3 acc)::S) (R:=fun _=>.own (.slice A N C) 9 1 (A3 acc)::A9 bp a n c (k+1) e.Line e.Col::S) (fun _ Y w hw=>(FK hk9 hN ht (hw.ps [1]:Wd Γ (A9 bp a n c (k+1) e.Line e.Col::(.own (.slice A N C) 9 1 (A3 acc)::(S++Y))) w)).mono fun r w h=>by rw[hO]at h;exact⟨(),h.1,h.2.2⟩) ?_
    refine R5 (T:=Unit) (fun _=>[[.string s]]) ?_ ?_
    rotate_left
    ·intro t g h;have h2:g 21=.string s:=h
     show Q1 _ _ [(0,g 21)]=_
     rw[h2];rfl
    refine w9 (T:=Unit×Addr) (j:=2) (j2:=0) (fun t=>some t.2) (fun _=>[[.string s]]) ?_ ?_
    rotate_left
    ·intro t g h;exact h.2
    refine m4 ?_;refine X6 (T:=(Unit×Addr)×Value) (j:=2) (val:=fun t=>t.2) ?_ ?_
    rotate_left
    ·intro t g h;exact h.2
    refine x9 fun t w g h hw=>?_
    obtain⟨⟨⟨⟩,aB⟩,vv⟩:=t;have hw:Wd Γ (.blk b3 (.cells #[vv,.slice none 0 0] 25)::.own (.slice (some aB) 1 1) 9 1 [[.string s]]::A9 bp a n c k9 e.Line e.Col::.own vv 9 1 (A3 acc++[[.string s]])::(S++[.blk b2 (.cells #[.slice none 0 0,.slice none 0 0] 25)])) w:=hw
    obtain⟨A2,N2,C2,hvv,hN2,hNC2,hC2⟩:=hw.own_shape (i:=3) rfl
    rw[hvv]at hw;rw[show A3 acc++[[.string s]]=A3 (acc++[s]) from by unfold A3;rw[List.map_append];rfl]at hw hN2
    have hw:Wd Γ (.own (.slice A2 N2 C2) 9 1 (A3 (acc++[s]))::A9 bp a n c k9 e.Line e.Col::.blk b3 (.cells #[.slice A2 N2 C2,.slice none 0 0] 25)::.blk b2 (.cells #[.slice none 0 0,.slice none 0 0] 25)::S) w:=(hw.dropAt 1).perm K1
    refine A1 ?_;exact⟨n-k9,by omega,f',acc++[s],k9,A2,N2,C2,by rw[←hf,hO];rfl,rfl,hk9',by omega,by rw[List.length_append];simp;omega,⟨rfl,rfl,rfl,trivial⟩,hw⟩
   | false=>
    rw[hi,if_neg (by decide)]at hw hf
    refine A1 ?_;refine A0 rfl (fun h=>by cases h) (fun _=>?_)
    refine A1 ?_;exact⟨acc,k,A,N,C,hf.symm,hkn,⟨rfl,rfl,rfl,trivial⟩,hw.ps [3,3,2]⟩
 clear hw hk1;rintro ρ w ⟨sel,k2,sa,sn,sc,hsel,hk2,hρ,hw⟩
 rw[hρ.eq];clear hρ;rw[hsel,F3];obtain⟨_,_,_,hE,hsn,hsc,hscc⟩:=hw.own_shape (i:=3) rfl
 cases hE
 clear hsel;unfold Jn;refine A1 ?_;refine G0 (vs:=[.pointer (some ⟨bp,0,none⟩),.int .i64 1,.string F7]) ?_
 refine(BW 1 F7 (by decide) hk2 hN ht hw).mono ?_
 clear hw;rintro r w hr
 cases hE:o9 toks e 1 F7 k2 with
 | error q=>
  obtain⟨p,er⟩:=q;rw[hE]at hr;obtain⟨rfl,k,hw⟩:=hr;exact⟨Γ,k,B5.le.refl _,rfl,((hw.dropAt 1).dropAt 1).dropAt 1⟩
 | ok q=>
 obtain⟨_,k3⟩:=q;rw[hE]at hr;obtain⟨rfl,hk9,hw⟩:=hr;show L _ _ _ _ _ _ _
 rw[F3];clear hE hk2;have hw:=Wd.addNil (a:=none) (E:=79) (sz:=15) hw
 obtain⟨gs,hgs⟩:∃gs:List E5,gs=[]:=⟨_,rfl⟩
 obtain⟨ga,gn,gc,hga,hgn,hgc⟩:∃(ga:Option Addr) (gn gc:Nat),ga=none∧gn=0∧gc=0:=⟨_,_,_,rfl,rfl,rfl⟩
 have hw:Wd Γ (.own (.slice ga gn gc) 79 15 (gs.map cG)::A9 bp a n c k3 e.Line e.Col::.blk b3 (.cells #[.slice sa sn sc,.slice ga gn gc] 25)::.blk b2 (.cells #[.slice none 0 0,.slice none 0 0] 25)::.own (.slice sa sn sc) 9 1 (A3 sel)::S) w:=by
  rw[hga,hgn,hgc,hgs];exact hw
 have hgl:gn=gs.length:=by rw[hgs,hgn];rfl
 have hok:∀x∈gs,GB Γ x:=fun x hx=>by rw[hgs]at hx;cases hx
 obtain⟨Γ1,hΓ1⟩:∃Γ1,Γ1=Γ:=⟨_,rfl⟩
 rw[←hΓ1]at hw hok
 have ht1:D2 Γ1 (.slice a n c) 5 (toks.map enc):=by rw[hΓ1];exact ht
 have hle1:Γ.le Γ1:=by rw[hΓ1];exact B5.le.refl _
 have hgl0:gn=0:=hgn
 clear hga hgn hgc hΓ1;refine Z2 ?_
 refine A1 ?_;cases hO:S0 toks e k3 with
 | error q=>
  obtain⟨p,er⟩:=q;rw[Bv];refine AO (fun ch w=>ch=[p9 p er]∧∃k,Wd Γ1 (A9 bp a n c k e.Line e.Col::S) w) [.blk b2 (.cells #[.slice none 0 0,.slice none 0 0] 25)] [.blk b3 (.cells #[.slice sa sn sc,.slice ga gn gc] 25)] (.own (.slice ga gn gc) 79 15 (gs.map cG)::A9 bp a n c k3 e.Line e.Col::.own (.slice sa sn sc) 9 1 (A3 sel)::S) [] [30,31,32] [] [[],[],[],[1],[1],[1],[],[0,1]] [[],[0],[],[1],[1],[1],[],[0,1]] (by rw[List.append_nil];exact hw.ps [2,3]) (fun ch ρ w ⟨h1,k,h2⟩=>by subst h1;exact⟨Γ1,k,hle1,rfl,h2⟩) ?_
  refine eY ?_
  refine eY ?_
  refine eY ?_
  refine Fj (c:=1) (T:=Unit) (T':=Empty) (vs:=[.pointer (some ⟨bp,0,none⟩)]) (fun t=>t.elim) (fun t=>t.elim) (φ:=fun _ _=>True) (R:=fun _=>.own (.slice ga gn gc) 79 15 (gs.map cG)::A9 bp a n c k3 e.Line e.Col::.own (.slice sa sn sc) 9 1 (A3 sel)::S) (fun _ Y w hw=>(KC hW hk9 hN ht1 (hw.ps [1]:Wd Γ1 (A9 bp a n c k3 e.Line e.Col::(.own (.slice ga gn gc) 79 15 (gs.map cG)::.own (.slice sa sn sc) 9 1 (A3 sel)::(S++Y))) w)).mono fun r w h=>?_) ?_
  ·rw[hO]at h;obtain⟨rfl,k,hw⟩:=h;have hw:Wd Γ1 (A9 bp a n c k e.Line e.Col::(.own (.slice ga gn gc) 79 15 (gs.map cG)::.own (.slice sa sn sc) 9 1 (A3 sel)::(S++Y))) w:=hw
   exact⟨rfl,k,Wd.left (S:=A9 bp a n c k e.Line e.Col::S) ((hw.dropAt 1).dropAt 1)⟩
  refine GT (c:=1) ?_
  refine GT (c:=1) ?_
  refine eY ?_
  refine GT (c:=1) ?_
  exact CE (c:=1)
 | ok q=>
 obtain⟨g,k9⟩:=q;rw[F3];refine W1 [.blk b2 (.cells #[.slice none 0 0,.slice none 0 0] 25)] [.blk b3 (.cells #[.slice sa sn sc,.slice ga gn gc] 25)] (.own (.slice ga gn gc) 79 15 (gs.map cG)::A9 bp a n c k3 e.Line e.Col::.own (.slice sa sn sc) 9 1 (A3 sel)::S) [] [30,31,32] [] [[],[],[],[1],[1],[1],[],[0,1]] [[],[0],[],[1],[1],[1],[],[0,1]] (by rw[List.append_nil];exact hw.ps [2,3]) ?_
 repeat(first|refine mY ?_|refine mP ?_|refine M9 ?_|refine X3 ?_|refine j0 ?_)
 refine X8 (c:=1) (T:=Unit) (T':={v:GA // k9≤n}) (vs:=[.pointer (some ⟨bp,0,none⟩)]) (fun v=>.agg (cG ⟨g,v.1.1,v.1.2.1,v.1.2.2⟩).toArray) (fun v=>.own (Ql v.1) 77 4 (g.Args.map enc)::A9 bp a n c k9 e.Line e.Col::.own (.slice ga gn gc) 79 15 (gs.map cG)::.own (.slice sa sn sc) 9 1 (A3 sel)::S) (R:=fun _=>.own (.slice ga gn gc) 79 15 (gs.map cG)::A9 bp a n c k3 e.Line e.Col::.own (.slice sa sn sc) 9 1 (A3 sel)::S) (fun _ Y w hw=>(KC hW hk9 hN ht1 (hw.ps [1]:Wd Γ1 (A9 bp a n c k3 e.Line e.Col::(.own (.slice ga gn gc) 79 15 (gs.map cG)::.own (.slice sa sn sc) 9 1 (A3 sel)::(S++Y))) w)).mono fun r w h=>by rw[hO]at h;obtain⟨v,h1,h2,h3⟩:=h;exact⟨⟨v,h2⟩,h1,h3⟩) ?_
 refine R5 (T:={v:GA // k9≤n}) (fun v=>[cG ⟨g,v.1.1,v.1.2.1,v.1.2.2⟩]) ?_ ?_
 rotate_left
 ·intro t gg h;have h2:gg 30=.agg (cG ⟨g,t.1.1,t.1.2.1,t.1.2.2⟩).toArray:=h
  show Q1 _ _ [(0,gg 30)]=_
  rw[h2];rfl
 refine w9 (T:={v:GA // k9≤n} × Addr) (j:=3) (j2:=0) (fun t=>some t.2) (fun t=>[cG ⟨g,t.1.1.1,t.1.1.2.1,t.1.1.2.2⟩]) ?_ ?_
 rotate_left
 ·intro t g h;exact h.2
 refine m4 ?_;refine X6 (T:=({v:GA // k9≤n} × Addr)×Value) (j:=3) (val:=fun t=>t.2) ?_ ?_
 rotate_left
 ·intro t g h;exact h.2
 refine x9 fun t w g' h hw=>?_
 obtain⟨⟨⟨⟨Ax,Nx,Cx⟩,hk9'⟩,aB⟩,vv⟩:=t;have hw:Wd Γ1 (.blk b3 (.cells #[.slice sa sn sc,vv] 25)::.own (.slice (some aB) 1 1) 79 15 [cG ⟨g,Ax,Nx,Cx⟩]::.own (.slice Ax Nx Cx) 77 4 (g.Args.map enc)::A9 bp a n c k9 e.Line e.Col::.own vv 79 15 (gs.map cG++[cG ⟨g,Ax,Nx,Cx⟩])::.own (.slice sa sn sc) 9 1 (A3 sel)::(S++[.blk b2 (.cells #[.slice none 0 0,.slice none 0 0] 25)])) w:=hw
 obtain⟨A2,N2,C2,hvv,hN2,hNC2,hC2⟩:=hw.own_shape (i:=4) rfl
 rw[hvv]at hw;obtain⟨Γ2,hle2,hfo,hw⟩:=Wd.freeze (hw.ps [2]:Wd Γ1 (.own (.slice Ax Nx Cx) 77 4 (g.Args.map enc)::.blk b3 (.cells #[.slice sa sn sc,.slice A2 N2 C2] 25)::.own (.slice (some aB) 1 1) 79 15 [cG ⟨g,Ax,Nx,Cx⟩]::A9 bp a n c k9 e.Line e.Col::.own (.slice A2 N2 C2) 79 15 (gs.map cG++[cG ⟨g,Ax,Nx,Cx⟩])::.own (.slice sa sn sc) 9 1 (A3 sel)::(S++[.blk b2 (.cells #[.slice none 0 0,.slice none 0 0] 25)])) w)
 have hw:Wd Γ2 (.own (.slice A2 N2 C2) 79 15 ((gs++[(⟨g,Ax,Nx,Cx⟩:E5)]).map cG)::A9 bp a n c k9 e.Line e.Col::.blk b3 (.cells #[.slice sa sn sc,.slice A2 N2 C2] 25)::.blk b2 (.cells #[.slice none 0 0,.slice none 0 0] 25)::.own (.slice sa sn sc) 9 1 (A3 sel)::S) w:=by
  rw[List.map_append];exact(hw.dropAt 1).perm K1
 have hok2:∀x∈gs++[(⟨g,Ax,Nx,Cx⟩:E5)],GB Γ2 x:=fun x hx=>by
  rcases List.mem_append.1 hx with hx|hx
  ·exact(hok x hx).mono hle2
  ·rw[List.mem_singleton.1 hx];exact hfo
 obtain⟨tot,htot⟩:∃t,t=W3 toks e (toks.length+1) [g] k9:=⟨_,rfl⟩
 rw[←htot];have hgs2:(gs++[(⟨g,Ax,Nx,Cx⟩:E5)]).map (·.g)=[g]:=by rw[hgs];rfl
 refine A1 ?_;refine C7 (fun μ ρ w=>∃(f:Nat) (acc:List D6) (k:Nat) (Γ1:B5) (ga:Option Addr) (gn gc:Nat) (gs:List E5),W3 toks e f acc k=tot∧μ=n-k∧k≤n∧n<f+k∧acc.length≤1+k∧Γ.le Γ1∧gs.map (·.g)=acc∧(∀x∈gs,GB Γ1 x)∧Has ρ [(0,.pointer (some ⟨bp,0,none⟩)),(2,.pointer (some ⟨b2,0,none⟩)),(3,.pointer (some ⟨b3,0,none⟩))]∧Wd Γ1 (.own (.slice ga gn gc) 79 15 (gs.map cG)::A9 bp a n c k e.Line e.Col::.blk b3 (.cells #[.slice sa sn sc,.slice ga gn gc] 25)::.blk b2 (.cells #[.slice none 0 0,.slice none 0 0] 25)::.own (.slice sa sn sc) 9 1 (A3 sel)::S) w) (n-k9) ⟨toks.length+1,[g],k9,Γ2,A2,N2,C2,_,htot.symm,rfl,hk9',by omega,by simp,hle1.trans hle2,hgs2,hok2,⟨rfl,rfl,rfl,trivial⟩,hw⟩ ?_
 clear hw hgs hok hgl hgl0 ht1 hle1 hle2 hfo hgs2 hok2 hN2 hNC2 hC2 hk9 hO;rintro μ ρ w ⟨f,acc,k,Γ1,ga,gn,gc,gs,hf,hμ,hkn,hfk,hal,hle1,hgs,hok,hρ,hw⟩
 rw[hρ.eq];clear hρ;have ht1:=ht.mono hle1
 have hgl:gs.length=acc.length:=by rw[←hgs,List.length_map]
 have hgb:gn=gs.length:=by obtain⟨_,_,_,h1,h2,_⟩:=hw.own_shape (i:=0) rfl;cases h1;simpa using h2
 obtain⟨f',rfl⟩:∃f',f=f'+1:=⟨f-1,by omega⟩
 unfold W3 at hf;refine A1 ?_;refine D1 (vs:=[.pointer (some ⟨bp,0,none⟩),.int .i64 4,.string G8]) ?_
 refine(J7 4 G8 hkn hN ht1 (hw.ps [1])).mono ?_
 clear hw;rintro r w ⟨rfl,hw⟩
 refine⟨_,rfl,?_⟩;cases hi:I4 toks k 4 G8 with
 | true=>
  have hlt:=U4 (by decide) hi
  rw[hi,if_pos rfl]at hw hf
  have hk9:k+1≤n:=by omega
  have hw:Wd Γ1 (.own (.slice ga gn gc) 79 15 (gs.map cG)::A9 bp a n c (k+1) e.Line e.Col::.blk b3 (.cells #[.slice sa sn sc,.slice ga gn gc] 25)::.blk b2 (.cells #[.slice none 0 0,.slice none 0 0] 25)::.own (.slice sa sn sc) 9 1 (A3 sel)::S) w:=hw.ps [1]
  refine A1 ?_;refine A0 rfl (fun _=>?_) (fun h=>by cases h)
  refine A1 ?_;cases hO:S0 toks e (k+1) with
  | error q=>
   obtain⟨p,er⟩:=q;have htE:tot=.error (p,er):=by rw[←hf,hO];rfl
   rw[htE,Bv];refine AO (fun ch w=>ch=[p9 p er]∧∃k,Wd Γ1 (A9 bp a n c k e.Line e.Col::S) w) [.blk b2 (.cells #[.slice none 0 0,.slice none 0 0] 25)] [.blk b3 (.cells #[.slice sa sn sc,.slice ga gn gc] 25)] (.own (.slice ga gn gc) 79 15 (gs.map cG)::A9 bp a n c (k+1) e.Line e.Col::.own (.slice sa sn sc) 9 1 (A3 sel)::S) [] [39,40,41] [] [[],[],[],[1],[1],[1],[],[0,1]] [[],[0],[],[1],[1],[1],[],[0,1]] (by rw[List.append_nil];exact hw.ps [2,3]) (fun ch ρ w ⟨h1,k,h2⟩=>by subst h1;exact⟨Γ1,k,hle1,rfl,h2⟩) ?_
   refine eY ?_
   refine eY ?_
   refine eY ?_
   refine Fj (c:=1) (T:=Unit) (T':=Empty) (vs:=[.pointer (some ⟨bp,0,none⟩)]) (fun t=>t.elim) (fun t=>t.elim) (φ:=fun _ _=>True) (R:=fun _=>.own (.slice ga gn gc) 79 15 (gs.map cG)::A9 bp a n c (k+1) e.Line e.Col::.own (.slice sa sn sc) 9 1 (A3 sel)::S) (fun _ Y w hw=>(KC hW hk9 hN ht1 (hw.ps [1]:Wd Γ1 (A9 bp a n c (k+1) e.Line e.Col::(.own (.slice ga gn gc) 79 15 (gs.map cG)::.own (.slice sa sn sc) 9 1 (A3 sel)::(S++Y))) w)).mono fun r w h=>?_) ?_
   ·rw[hO]at h;obtain⟨rfl,k,hw⟩:=h;have hw:Wd Γ1 (A9 bp a n c k e.Line e.Col::(.own (.slice ga gn gc) 79 15 (gs.map cG)::.own (.slice sa sn sc) 9 1 (A3 sel)::(S++Y))) w:=hw
    exact⟨rfl,k,Wd.left (S:=A9 bp a n c k e.Line e.Col::S) ((hw.dropAt 1).dropAt 1)⟩
   refine GT (c:=1) ?_
   refine GT (c:=1) ?_
   refine eY ?_
   refine GT (c:=1) ?_
   exact CE (c:=1)
  | ok q=>
  obtain⟨g,k9⟩:=q;have hk9l:=Dx hO
  refine W1 [.blk b2 (.cells #[.slice none 0 0,.slice none 0 0] 25)] [.blk b3 (.cells #[.slice sa sn sc,.slice ga gn gc] 25)] (.own (.slice ga gn gc) 79 15 (gs.map cG)::A9 bp a n c (k+1) e.Line e.Col::.own (.slice sa sn sc) 9 1 (A3 sel)::S) [] [39,40,41] [] [[],[],[],[1],[1],[1],[],[0,1]] [[],[0],[],[1],[1],[1],[],[0,1]] (by rw[List.append_nil];exact hw.ps [2,3]) ?_
  repeat(first|refine mY ?_|refine mP ?_|refine M9 ?_|refine X3 ?_|refine j0 ?_)
  refine X8 (c:=1) (T:=Unit) (T':={v:GA // k9≤n}) (vs:=[.pointer (some ⟨bp,0,none⟩)]) (fun v=>.agg (cG ⟨g,v.1.1,v.1.2.1,v.1.2.2⟩).toArray) (fun v=>.own (Ql v.1) 77 4 (g.Args.map enc)::A9 bp a n c k9 e.Line e.Col::.own (.slice ga gn gc) 79 15 (gs.map cG)::.own (.slice sa sn sc) 9 1 (A3 sel)::S) (R:=fun _=>.own (.slice ga gn gc) 79 15 (gs.map cG)::A9 bp a n c (k+1) e.Line e.Col::.own (.slice sa sn sc) 9 1 (A3 sel)::S) (fun _ Y w hw=>(KC hW hk9 hN ht1 (hw.ps [1]:Wd Γ1 (A9 bp a n c (k+1) e.Line e.Col::(.own (.slice ga gn gc) 79 15 (gs.map cG)::.own (.slice sa sn sc) 9 1 (A3 sel)::(S++Y))) w)).mono fun r w h=>by rw[hO]at h;obtain⟨v,h1,h2,h3⟩:=h;exact⟨⟨v,h2⟩,h1,h3⟩) ?_
  refine R5 (T:={v:GA // k9≤n}) (fun v=>[cG ⟨g,v.1.1,v.1.2.1,v.1.2.2⟩]) ?_ ?_
  rotate_left
  ·intro t gg h;have h2:gg 39=.agg (cG ⟨g,t.1.1,t.1.2.1,t.1.2.2⟩).toArray:=h
   show Q1 _ _ [(0,gg 39)]=_
   rw[h2];rfl
  refine w9 (T:={v:GA // k9≤n} × Addr) (j:=3) (j2:=0) (fun t=>some t.2) (fun t=>[cG ⟨g,t.1.1.1,t.1.1.2.1,t.1.1.2.2⟩]) ?_ ?_
  rotate_left
  ·intro t g h;exact h.2
  refine m4 ?_;refine X6 (T:=({v:GA // k9≤n} × Addr)×Value) (j:=3) (val:=fun t=>t.2) ?_ ?_
  rotate_left
  ·intro t g h;exact h.2
  refine x9 fun t w g' h hw=>?_
  obtain⟨⟨⟨⟨Ax,Nx,Cx⟩,hk9'⟩,aB⟩,vv⟩:=t;have hw:Wd Γ1 (.blk b3 (.cells #[.slice sa sn sc,vv] 25)::.own (.slice (some aB) 1 1) 79 15 [cG ⟨g,Ax,Nx,Cx⟩]::.own (.slice Ax Nx Cx) 77 4 (g.Args.map enc)::A9 bp a n c k9 e.Line e.Col::.own vv 79 15 (gs.map cG++[cG ⟨g,Ax,Nx,Cx⟩])::.own (.slice sa sn sc) 9 1 (A3 sel)::(S++[.blk b2 (.cells #[.slice none 0 0,.slice none 0 0] 25)])) w:=hw
  obtain⟨A2,N2,C2,hvv,hN2,hNC2,hC2⟩:=hw.own_shape (i:=4) rfl
  rw[hvv]at hw;obtain⟨Γ2,hle2,hfo,hw⟩:=Wd.freeze (hw.ps [2]:Wd Γ1 (.own (.slice Ax Nx Cx) 77 4 (g.Args.map enc)::.blk b3 (.cells #[.slice sa sn sc,.slice A2 N2 C2] 25)::.own (.slice (some aB) 1 1) 79 15 [cG ⟨g,Ax,Nx,Cx⟩]::A9 bp a n c k9 e.Line e.Col::.own (.slice A2 N2 C2) 79 15 (gs.map cG++[cG ⟨g,Ax,Nx,Cx⟩])::.own (.slice sa sn sc) 9 1 (A3 sel)::(S++[.blk b2 (.cells #[.slice none 0 0,.slice none 0 0] 25)])) w)
  have hw:Wd Γ2 (.own (.slice A2 N2 C2) 79 15 ((gs++[(⟨g,Ax,Nx,Cx⟩:E5)]).map cG)::A9 bp a n c k9 e.Line e.Col::.blk b3 (.cells #[.slice sa sn sc,.slice A2 N2 C2] 25)::.blk b2 (.cells #[.slice none 0 0,.slice none 0 0] 25)::.own (.slice sa sn sc) 9 1 (A3 sel)::S) w:=by
   rw[List.map_append];exact(hw.dropAt 1).perm K1
  have hok2:∀x∈gs++[(⟨g,Ax,Nx,Cx⟩:E5)],GB Γ2 x:=fun x hx=>by
   rcases List.mem_append.1 hx with hx|hx
   ·exact(hok x hx).mono hle2
   ·rw[List.mem_singleton.1 hx];exact hfo
  refine A1 ?_;exact⟨n-k9,by omega,f',acc++[g],k9,Γ2,A2,N2,C2,_,by rw[←hf,hO];rfl,rfl,hk9',by omega,by rw[List.length_append];simp;omega,hle1.trans hle2,by rw[List.map_append,hgs];rfl,hok2,⟨rfl,rfl,rfl,trivial⟩,hw⟩
 | false=>
  rw[hi,if_neg (by decide)]at hw hf
  rw[←hf,F3];unfold A9 at hw;refine A1 ?_;refine A0 rfl (fun h=>by cases h) (fun _=>?_)
  refine A1 ?_;refine K5 (by kernel_rfl) (by kernel_rfl) hw ?_
  refine Ef ?_;intro w hw;refine A0 rfl (fun h=>?_) (fun h=>?_)
  ·have h:k<toks.length:=by simp at h;omega
   rw[if_pos h];have hw:Wd Γ1 (A9 bp a n c k e.Line e.Col::.own (.slice ga gn gc) 79 15 (gs.map cG)::.blk b3 (.cells #[.slice sa sn sc,.slice ga gn gc] 25)::.blk b2 (.cells #[.slice none 0 0,.slice none 0 0] 25)::.own (.slice sa sn sc) 9 1 (A3 sel)::S) w:=hw
   refine A1 ?_;refine G0 ?_
   refine(y7 50 ht1 hw).mono ?_
   rintro r w ⟨rfl,hw⟩
   exact⟨Γ1,k,hle1,rfl,(((hw.dropAt 1).dropAt 1).dropAt 1).dropAt 1⟩
  ·have h:¬k<toks.length:=by simp at h;omega
   rw[if_neg h];have hw:Wd Γ1 (A9 bp a n c k e.Line e.Col::.own (.slice ga gn gc) 79 15 (gs.map cG)::.blk b3 (.cells #[.slice sa sn sc,.slice ga gn gc] 25)::.blk b2 (.cells #[.slice none 0 0,.slice none 0 0] 25)::.own (.slice sa sn sc) 9 1 (A3 sel)::S) w:=hw
   refine A1 ?_;refine B0 (i:=3) ?_
   intro w hw;have hw:Wd Γ1 (.blk b2 (.cells #[.slice sa sn sc,.slice ga gn gc] 25)::.own (.slice ga gn gc) 79 15 (gs.map cG)::.own (.slice sa sn sc) 9 1 (A3 sel)::A9 bp a n c k e.Line e.Col::.blk b3 (.cells #[.slice sa sn sc,.slice ga gn gc] 25)::S) w:=hw.ps [2,1,4,3,4]
   refine A1 ?_;refine⟨[.agg #[.slice sa sn sc,.slice ga gn gc]],⟨M3 (i:=0) hw rfl rfl rfl,trivial⟩,?_⟩
   obtain⟨Γ2,hle2,hg2,hw⟩:=hw.drop.freeze;obtain⟨Γ3,hle3,hs3,hw⟩:=hw.freeze;exact⟨Γ3,_,_,gs,hle1.trans (hle2.trans hle3),rfl,⟨hs3,hg2.mono hle3,hgs,fun x hx=>(hok x hx).mono (hle2.trans hle3)⟩,hw.ds [0,0]⟩
end
set_option maxHeartbeats 4000000
attribute [local irreducible] Calls
theorem U2(a b:ByteArray):F4 (a++b)=F4 a++F4 b:=by
 unfold F4;rw[ByteArray.data_append,Array.toList_append]
theorem H6(l:List UInt8):F4 ⟨l.toArray⟩=l:=by unfold F4;simp
abbrev T1:=Int×ByteArray×Int
def Rl(t:Tok):T1:=(t.Kind,t.Text,t.Value)
def L5(l:List UInt8):ByteArray:=⟨l.toArray⟩
theorem GN(s:ByteArray):L5 (F4 s)=s:=M6 (H6 _)
theorem O9(l:List UInt8):(L5 l).size=l.length:=by rw[←G1];unfold L5;rw[H6]
inductive Tz:List UInt8→List T1→Prop
 | nil:Tz [] []
 | sp {c:UInt8} {l:List UInt8} {ks:List T1}:W2 c.toNat=true→Tz l ks→Tz (c::l) ks
 | tok {c:UInt8} {p l:List UInt8} {k:Int} {t:ByteArray} {v:Nat} {ks:List T1}:W2 c.toNat=false→(c.toNat:Int)≠35→I6 (L5 ((c::p)++l))=⟨k,t,v,(c::p).length,0⟩→Tz l ks→Tz ((c::p)++l) ((k,t,v)::ks)
theorem CY{s:ByteArray}{off:Nat}{c:UInt8}{l:List UInt8}(h:(F4 s).drop off=c::l):A6 s off=c.toNat:=by
 have h1:(F4 s)[off]? = some c:=by
  have:=List.getElem?_drop (xs:=F4 s) (i:=off) (j:=0)
  rw[h]at this;simpa using this.symm
 show (((F4 s).getD off 0).toNat:Int)=_
 rw[List.getD_eq_getElem?_getD,h1];rfl
theorem Ng{s:ByteArray}{off:Nat}:E6 s off s.size=L5 ((F4 s).drop off):=by
 refine M6 ?_
 rw[Y8];unfold L5;rw[H6,List.take_of_length_le (by rw[List.length_drop,G1];exact Nat.le_refl _)]
theorem JX{s:ByteArray}{off:Nat}{c:UInt8}{l:List UInt8}(h:(F4 s).drop off=c::l):off<s.size:=by
 have:=congrArg List.length h
 rw[List.length_drop,G1,List.length_cons]at this;omega
theorem Nt{s:ByteArray}:∀ {l:List UInt8} {ks:List T1},Tz l ks→∀(f off:Nat) (acc:List Tok),(F4 s).drop off=l→l.length<f→∃toks,toks.map Rl=ks∧N4 s f off acc=(acc++toks,⟨0,0⟩,0):=by
 intro l ks h;induction h with
 | nil=>
  intro f off acc hd hf;obtain⟨f,rfl⟩:∃f',f=f'+1:=⟨f-1,by omega⟩
  refine⟨[],rfl,?_⟩
  have:s.size≤off:=by
   have:=congrArg List.length hd
   rw[List.length_drop,G1]at this;simp at this;omega
  unfold N4;rw[if_pos this,List.append_nil]
 | @sp c l ks hc _ ih=>
  intro f off acc hd hf;rw[List.length_cons]at hf;obtain⟨f,rfl⟩:∃f',f=f'+1:=⟨f-1,by omega⟩
  have hlt:=JX hd
  obtain⟨toks,h1,h2⟩:=ih f (off+1) acc (by rw[←List.drop_drop,hd];rfl) (by omega)
  refine⟨toks,h1,?_⟩
  unfold N4;rw[if_neg (by omega),CY hd,if_pos hc,h2]
 | @tok c p l k t v ks hc h35 ht _ ih=>
  intro f off acc hd hf;rw[List.length_append]at hf;have hp:0<(c::p).length:=by simp
  obtain⟨f,rfl⟩:∃f',f=f'+1:=⟨f-1,by omega⟩
  have hd':(F4 s).drop off=c::(p++l):=hd
  have hlt:=JX hd'
  obtain⟨toks,h1,h2⟩:=ih f (off+(c::p).length) (acc++[⟨k,t,v,(B7 s off).Line,(B7 s off).Col⟩]) (by rw[←List.drop_drop,hd,List.drop_left]) (by omega)
  refine⟨⟨k,t,v,(B7 s off).Line,(B7 s off).Col⟩::toks,by rw[List.map_cons,h1];rfl,?_⟩
  unfold N4;rw[if_neg (by omega),CY hd',if_neg (by rw[hc];decide),if_neg h35,Ng,hd,ht,if_pos rfl]
  dsimp only
  rw[h2,List.append_assoc];rfl
theorem Lj{l:List UInt8}{ks:List T1}(h:Tz l ks)(hl:l.length≤65536):∃toks,toks.map Rl=ks∧D4 (L5 l)=(toks,⟨0,0⟩,0):=by
 obtain⟨toks,h1,h2⟩:=Nt (s:=L5 l) h ((L5 l).size+1) 0 [] (by unfold L5;rw[H6];rfl) (by rw[O9];omega)
 refine⟨toks,h1,?_⟩
 unfold D4;rw[if_neg (by rw[O9];omega),h2];rfl
def BE(l:List UInt8):Prop:=match l with|[]=>True|c::_=>J1 c=false
theorem MA{p l:List UInt8}(hp:p.all J1=true)(hl:BE l):runN (L5 (p++l))=p.length:=by
 unfold runN;show ((F4 (L5 (p++l))).takeWhile J1).length=_
 unfold L5;rw[H6];have:(p++l).takeWhile J1=p:=by
  rw[List.takeWhile_append_of_pos (fun x hx=>List.all_eq_true.1 hp x hx)];cases l with
  | nil=>simp
  | cons c l=>have hl:J1 c=false:=hl;simp[hl]
 rw[this]
theorem Bh{p l:List UInt8}:E6 (L5 (p++l)) 0 p.length=L5 p:=by
 refine M6 ?_
 unfold L5;rw[Y8,H6,H6,List.drop_zero,Nat.sub_zero,List.take_left]
theorem NL{c:UInt8}{p l:List UInt8}(hc:H9 c.toNat=true)(hp:(c::p).all J1=true)(hl:BE l):I6 (L5 ((c::p)++l))=⟨1,L5 (c::p),0,(c::p).length,0⟩:=by
 unfold I6;rw[if_pos (show H9 (A6 (L5 ((c::p)++l)) 0)=true from hc),MA hp hl,Bh]
theorem Mp{c:UInt8}{l:List UInt8}(hc:c=40∨c=41∨c=44):I6 (L5 ([c]++l))=⟨4,L5 [c],0,1,0⟩:=by
 have hs:(L5 ([c]++l)).size=l.length+1:=by rw[O9];simp
 have hb:A6 (L5 ([c]++l)) 0=c.toNat:=rfl
 have h2:∀b,g9 c.toNat b=false:=fun b=>by rcases hc with q|q|q <;> subst q <;> unfold g9 <;> simp
 have hP:F2 (L5 ([c]++l))=1:=by
  unfold F2;rw[hb,h2,if_neg (by simp),if_pos ⟨by omega,by show c∈GC;rcases hc with q|q|q <;> subst q <;> decide⟩]
 unfold I6;rw[hP,hb,if_neg (by rcases hc with q|q|q <;> subst q <;> decide),if_neg (by rcases hc with q|q|q <;> subst q <;> decide),if_neg (by rcases hc with q|q|q <;> subst q <;> decide),if_neg (by decide)]
 rw[show E6 (L5 ([c]++l)) 0 1=L5 [c] from Bh (p:=[c])]
theorem Ni{c d:UInt8}{l:List UInt8}(hc:(c=46∧d=10)∨(c=45∧K9 d.toNat=true)):I6 (L5 ([c]++d::l))=⟨4,L5 [c],0,1,0⟩:=by
 have hs:(L5 ([c]++d::l)).size=l.length+2:=by rw[O9];simp
 have hb:A6 (L5 ([c]++d::l)) 0=c.toNat:=rfl
 have hb1:A6 (L5 ([c]++d::l)) 1=d.toNat:=rfl
 have h2:g9 c.toNat d.toNat=false:=by
  rcases hc with⟨q,r⟩|⟨q,r⟩
  ·subst q;subst r;decide
  ·subst q;unfold K9 at r;simp only[Bool.and_eq_true,decide_eq_true_eq]at r
   unfold g9;simp
   omega
 have hP:F2 (L5 ([c]++d::l))=1:=by
  unfold F2;rw[hb,hb1,h2,if_neg (by simp),if_pos ⟨by omega,by show c∈GC;rcases hc with⟨q,-⟩|⟨q,-⟩ <;> subst q <;> decide⟩]
 unfold I6;rw[hP,hb,if_neg (by rcases hc with⟨q,-⟩|⟨q,-⟩ <;> subst q <;> decide),if_neg (by rcases hc with⟨q,-⟩|⟨q,-⟩ <;> subst q <;> decide),if_neg (by rcases hc with⟨q,-⟩|⟨q,-⟩ <;> subst q <;> decide),if_neg (by decide)]
 rw[show E6 (L5 ([c]++d::l)) 0 1=L5 [c] from Bh (p:=[c])]
theorem Ob{p l:List UInt8}(hp:p.all U3=true):I6 (L5 ((34::(p++[34]))++l))=⟨3,L5 p,0,(34::(p++[34])).length,0⟩:=by
 have hB:F4 (L5 ((34::(p++[34]))++l))=34::(p++34::l):=by unfold L5;rw[H6];simp
 have hS:W0 (L5 ((34::(p++[34]))++l))=p.length+1:=by
  unfold W0;rw[hB];have:((34::(p++34::l)).drop 1).takeWhile U3=p:=by
   rw[List.drop_succ_cons,List.drop_zero,List.takeWhile_append_of_pos (fun x hx=>List.all_eq_true.1 hp x hx)];have:U3 34=false:=by decide
   simp[this]
  rw[this];omega
 have hz:(L5 ((34::(p++[34]))++l)).size=p.length+2+l.length:=by rw[O9];simp;omega
 have hq:A6 (L5 ((34::(p++[34]))++l)) (p.length+1)=34:=by
  refine CY (c:=34) (l:=l) ?_
  rw[hB,List.drop_succ_cons,List.drop_left]
 unfold I6;rw[show A6 (L5 ((34::(p++[34]))++l)) 0=34 from rfl,if_neg (by decide),if_neg (by decide),if_pos rfl,hS,if_pos ⟨by omega,hq⟩]
 congr 1
 ·refine M6 ?_
  rw[Y8,hB];unfold L5;rw[H6,List.drop_succ_cons,List.drop_zero,Nat.add_sub_cancel,List.take_left]
 ·simp
theorem S7{d:Nat}(h:d<10):(UInt8.ofNat (48+d)).toNat=48+d:=by
 rw[UInt8.toNat_ofNat'];exact Nat.mod_eq_of_lt (by omega)
theorem DL:∀(u:Nat),∀c∈Lib.decDigits u,∃d,d<10∧c=UInt8.ofNat (48+d):=by
 intro u;induction u using Nat.strongRecOn with
 | _ u ih=>
  intro c hc;rw[Lib.decDigits]at hc;split at hc
  ·rename_i h
   exact⟨u,h,List.mem_singleton.1 hc⟩
  ·rename_i h
   rcases List.mem_append.1 hc with q|q
   ·exact ih (u / 10) (by omega) c q
   ·exact⟨u%10,by omega,List.mem_singleton.1 q⟩
theorem BF:∀(u:Nat),∃d p,d<10∧Lib.decDigits u=UInt8.ofNat (48+d)::p∧(d=0→p=[]):=by
 intro u;induction u using Nat.strongRecOn with
 | _ u ih=>
  rw[Lib.decDigits];split
  ·rename_i h
   exact⟨u,[],h,rfl,fun _=>rfl⟩
  ·rename_i h
   obtain⟨d,p,h1,h2,h3⟩:=ih (u / 10) (by omega)
   refine⟨d,p++[UInt8.ofNat (48+u%10)],h1,by rw[h2];rfl,fun q=>?_⟩
   exfalso
   have h4:=h3 q
   rw[q,h4,Lib.decDigits]at h2;split at h2
   ·rename_i h5
    have h6:=List.cons.inj h2
    have:=congrArg UInt8.toNat h6.1
    rw[S7 h5,S7 (by omega)]at this
    omega
   ·have:=congrArg List.length h2
    have h7:=Lib.nDigits_pos (u / 10 / 10)
    rw[List.length_append,Lib.decDigits_length]at this;simp at this;omega
theorem Ed{d:Nat}(h:d<10):X7 ((UInt8.ofNat (48+d)).toNat:Int) 10=d:=by
 rw[S7 h];have hd:K9 ((48+d:Nat):Int)=true:=by
  unfold K9;rw[Bool.and_eq_true,decide_eq_true_eq,decide_eq_true_eq];omega
 unfold X7 BJ;rw[if_pos hd,if_neg (by omega)];omega
theorem Fb(b:Nat)(c:UInt8):∀(l:List UInt8) (v:Nat),DG b (l++[c]) v=DG b l v*b+(X7 c.toNat b).toNat
 | [],v=>rfl
 | x::l,v=>Fb b c l _
theorem LV:∀u:Nat,DG 10 (Lib.decDigits u) 0=u:=by
 intro u;induction u using Nat.strongRecOn with
 | _ u ih=>
  rw[Lib.decDigits];split
  ·rename_i h
   show 0*10+(X7 ((UInt8.ofNat (48+u)).toNat:Int) ((10:Nat):Int)).toNat=u
   rw[show ((10:Nat):Int)=10 from rfl,Ed h];omega
  ·rename_i h
   rw[Fb,ih (u / 10) (by omega),show ((10:Nat):Int)=10 from rfl,Ed (by omega)];omega
theorem z8{d:Nat}(h:d<10):H9 ((UInt8.ofNat (48+d)).toNat:Int)=false∧K9 ((UInt8.ofNat (48+d)).toNat:Int)=true∧x8 ((UInt8.ofNat (48+d)).toNat:Int)=0∧((UInt8.ofNat (48+d)).toNat:Int)≠120:=by
 rw[S7 h];refine⟨?_,?_,?_,by omega⟩
 ·unfold H9;rw[decide_eq_false (show ¬(97:Int)≤((48+d:Nat):Int) by omega),decide_eq_false (show ¬(65:Int)≤((48+d:Nat):Int) by omega),decide_eq_false (show ¬((48+d:Nat):Int)=95 by omega)];rfl
 ·unfold K9;rw[Bool.and_eq_true,decide_eq_true_eq,decide_eq_true_eq];omega
 ·unfold x8;rw[if_neg (by omega),if_neg (by omega),if_neg (by omega)]
theorem NZ(u:Nat):(Lib.decDigits u).all J1=true:=List.all_eq_true.2 fun c hc=>by
 obtain⟨d,h,rfl⟩:=DL u c hc
 obtain⟨h1,h2,-,-⟩:=z8 h
 unfold J1;rw[h1,h2];rfl
theorem Ga{l:List UInt8}{i:Nat}(h:i<l.length):∃c∈l,A6 (L5 l) i=c.toNat:=by
 refine⟨l[i],List.getElem_mem h,?_⟩
 show (((F4 (L5 l)).getD i 0).toNat:Int)=_
 unfold L5;rw[H6,List.getD_eq_getElem?_getD,List.getElem?_eq_getElem h];rfl
theorem OU{u:Nat}(hu:u≤18446744073709551615):AR (L5 (Lib.decDigits u))=(u,0):=by
 obtain⟨d,p,hd,hp,h0⟩:=BF u
 have hl:0<(Lib.decDigits u).length:=by rw[hp];simp
 obtain⟨c,hc,hb⟩:=Ga (l:=Lib.decDigits u) (i:=(Lib.decDigits u).length-1) (by omega)
 have hsz:=O9 (Lib.decDigits u)
 have hsh:x8 (A6 (L5 (Lib.decDigits u)) ((L5 (Lib.decDigits u)).size-1))=0:=by
  rw[hsz,hb];obtain⟨d2,h2,rfl⟩:=DL u c hc
  exact(z8 h2).2.2.1
 have hno:¬(2≤(L5 (Lib.decDigits u)).size∧A6 (L5 (Lib.decDigits u)) 0=48∧A6 (L5 (Lib.decDigits u)) 1=120):=fun q=>by
  obtain⟨c2,hc2,hb2⟩:=Ga (l:=Lib.decDigits u) (i:=1) (by omega)
  obtain⟨d2,h2,rfl⟩:=DL u c2 hc2
  exact(z8 h2).2.2.2 (hb2.symm.trans q.2.2)
 have hlz:¬((L5 (Lib.decDigits u)).size=0∨(1<(L5 (Lib.decDigits u)).size∧A6 (L5 (Lib.decDigits u)) 0=48)):=fun q=>by
  rcases q with q|⟨q1,q2⟩
  ·omega
  ·have hb0:A6 (L5 (Lib.decDigits u)) 0=((UInt8.ofNat (48+d)).toNat:Int):=by rw[hp];rfl
   rw[hb0,S7 hd]at q2;have:=h0 (by omega)
   rw[hsz,hp,this]at q1;simp at q1
 have hall:(Lib.decDigits u).all (fun c=>decide (0≤X7 c.toNat ((10:Nat):Int)))=true:=List.all_eq_true.2 fun c hc=>by
  obtain⟨d2,h2,rfl⟩:=DL u c hc
  rw[show ((10:Nat):Int)=10 from rfl,Ed h2];exact decide_eq_true (by omega)
 have hcore:P5 10 0 (Lib.decDigits u)=(u,0):=by
  unfold P5;rw[hall,if_neg (by decide),LV,if_neg (by show ¬18446744073709551615 >>> 0<u;rw[Nat.shiftRight_zero];omega),Nat.shiftLeft_zero]
 unfold AR;simp only[hsh]
 rw[if_neg (show ¬(0:Nat)<0 by decide),if_neg hno,if_neg hlz]
 unfold L5;rw[H6];exact hcore
theorem OA{u:Nat}(hu:u≤18446744073709551615){l:List UInt8}(hl:BE l):I6 (L5 (Lib.decDigits u++l))=⟨2,⟨#[]⟩,u,(Lib.decDigits u).length,0⟩:=by
 have hr:=MA (NZ u) hl
 have hs:E6 (L5 (Lib.decDigits u++l)) 0 (Lib.decDigits u).length=L5 (Lib.decDigits u):=Bh
 have hn:=OU hu
 obtain⟨d,p,hd,hp,-⟩:=BF u
 have hb:A6 (L5 (Lib.decDigits u++l)) 0=((UInt8.ofNat (48+d)).toNat:Int):=by rw[hp];rfl
 obtain⟨h1,h2,-,-⟩:=z8 hd
 unfold I6;rw[hr,hs,hn,hb,if_neg (by rw[h1];decide),if_pos h2,if_pos rfl]
theorem Tz.word{t:ByteArray}{l:List UInt8}{ks:List T1}(ht:Ai t=true)(hl:BE l)(h:Tz l ks):Tz (F4 t++l) ((1,t,0)::ks):=by
 unfold Ai at ht;simp only[Bool.and_eq_true,decide_eq_true_eq]at ht
 obtain⟨⟨h0,h1⟩,h2⟩:=ht;have hb:0<(F4 t).length:=by rw[G1];exact h0
 have h1:H9 (((F4 t).getD 0 0).toNat:Int)=true:=h1
 have h2:(F4 t).all J1=true:=h2
 have hm:=GN t
 generalize F4 t=b at *
 cases b with
 | nil=>simp at hb
 | cons c p=>
  have hc:H9 (c.toNat:Int)=true:=h1
  have hk:=NL hc h2 hl
  rw[hm]at hk;have hsp:W2 (c.toNat:Int)=false∧(c.toNat:Int)≠35:=by
   unfold H9 at hc;simp only[Bool.or_eq_true,Bool.and_eq_true,decide_eq_true_eq]at hc
   unfold W2;simp only[Bool.or_eq_false_iff,decide_eq_false_iff_not]
   omega
  exact Tz.tok (v:=0) hsp.1 hsp.2 hk h
theorem Tz.num{u:Nat}(hu:u≤18446744073709551615){l:List UInt8}{ks:List T1}(hl:BE l)(h:Tz l ks):Tz (Lib.decDigits u++l) ((2,⟨#[]⟩,(u:Nat))::ks):=by
 have hk:=OA hu hl
 obtain⟨d,p,hd,hp,-⟩:=BF u
 rw[hp]at hk ⊢
 refine Tz.tok (v:=u) ?_ ?_ hk h
 ·rw[S7 hd];unfold W2;simp only[Bool.or_eq_false_iff,decide_eq_false_iff_not];omega
 ·rw[S7 hd];omega
theorem Tz.p1{c:UInt8}{l:List UInt8}{ks:List T1}(hc:c=40∨c=41∨c=44)(h:Tz l ks):Tz (c::l) ((4,L5 [c],0)::ks):=
 Tz.tok (c:=c) (p:=[]) (v:=0) (by rcases hc with q|q|q <;> subst q <;> decide) (by rcases hc with q|q|q <;> subst q <;> decide) (Mp hc) h
theorem Tz.p2{c d:UInt8}{l:List UInt8}{ks:List T1}(hc:(c=46∧d=10)∨(c=45∧K9 d.toNat=true))(h:Tz (d::l) ks):Tz (c::d::l) ((4,L5 [c],0)::ks):=
 Tz.tok (c:=c) (p:=[]) (v:=0) (by rcases hc with⟨q,-⟩|⟨q,-⟩ <;> subst q <;> decide) (by rcases hc with⟨q,-⟩|⟨q,-⟩ <;> subst q <;> decide) (Ni hc) h
theorem Tz.str{t:ByteArray}{l:List UInt8}{ks:List T1}(ht:(F4 t).all U3=true)(h:Tz l ks):Tz ((34::(F4 t++[34]))++l) ((3,t,0)::ks):=by
 have hk:=Ob (l:=l) (p:=F4 t) ht
 rw[GN]at hk;exact Tz.tok (v:=0) (by decide) (by decide) hk h
def Nb(t:Tok):Prop:=(t.Kind=1→Ai t.Text=true)∧(t.Kind=3→CJ t.Text=true)
theorem OI{s:ByteArray}{k:Nat}:F4 (E6 s 0 k)=(F4 s).take k:=by rw[Y8,List.drop_zero,Nat.sub_zero]
theorem k13:¬(1:Int)=3:=by decide
theorem k31:¬(3:Int)=1:=by decide
theorem k21:¬(2:Int)=1:=by decide
theorem k23:¬(2:Int)=3:=by decide
theorem Rw:¬(0:Int)=1:=by decide
theorem Rt:¬(0:Int)=3:=by decide
theorem k41:¬(4:Int)=1:=by decide
theorem k43:¬(4:Int)=3:=by decide
theorem OC{s:ByteArray}(h0:0<s.size):((I6 s).kind=1→Ai (I6 s).text=true)∧((I6 s).kind=3→CJ (I6 s).text=true):=by
 unfold I6;by_cases h1:H9 (A6 s 0)=true
 ·rw[if_pos h1];refine⟨fun _=>?_,fun q=>absurd q k13⟩
  have hl:0<(F4 s).length:=by rw[G1];exact h0
  have htw:F4 (E6 s 0 (runN s))=(F4 s).takeWhile J1:=by
   rw[OI];unfold runN;exact(List.prefix_iff_eq_take.1 (List.takeWhile_prefix J1)).symm
  have h1':H9 (((F4 s).getD 0 0).toNat:Int)=true:=h1
  unfold Ai;show (decide (0<(E6 s 0 (runN s)).size)&&H9 (((F4 (E6 s 0 (runN s))).getD 0 0).toNat:Int)&&(F4 (E6 s 0 (runN s))).all J1)=true
  rw[←G1,htw];generalize F4 s=b at *
  cases b with
  | nil=>simp at hl
  | cons c p=>
   have hc:H9 (c.toNat:Int)=true:=h1'
   have hw:J1 c=true:=by unfold J1;rw[hc];rfl
   rw[List.takeWhile_cons,if_pos hw];simp only[Bool.and_eq_true,decide_eq_true_eq]
   refine⟨⟨by simp,hc⟩,?_⟩
   rw[List.all_cons,hw,Bool.true_and];exact List.all_eq_true.2 fun x hx=>List.all_eq_true.1 List.all_takeWhile x hx
 rw[if_neg h1];by_cases h2:K9 (A6 s 0)=true
 ·rw[if_pos h2];split
  ·exact⟨fun q=>absurd q k21,fun q=>absurd q k23⟩
  ·exact⟨fun q=>absurd q Rw,fun q=>absurd q Rt⟩
 rw[if_neg h2];by_cases h3:A6 s 0=34
 ·rw[if_pos h3];split
  ·refine⟨fun q=>absurd q k31,fun _=>?_⟩
   unfold CJ;have:F4 (E6 s 1 (W0 s))=((F4 s).drop 1).takeWhile U3:=by
    rw[Y8];unfold W0;rw[Nat.add_sub_cancel_left];exact(List.prefix_iff_eq_take.1 (List.takeWhile_prefix U3)).symm
   show (F4 (E6 s 1 (W0 s))).all U3=true
   rw[this];exact List.all_takeWhile
  ·exact⟨fun q=>absurd q Rw,fun q=>absurd q Rt⟩
 rw[if_neg h3];split
 ·exact⟨fun q=>absurd q Rw,fun q=>absurd q Rt⟩
 ·exact⟨fun q=>absurd q k41,fun q=>absurd q k43⟩
theorem BP{s:ByteArray}:∀(f off:Nat) (acc:List Tok),(∀t∈acc,Nb t)→∀t∈(N4 s f off acc).1,Nb t
 | 0,off,acc,h=>h
 | f+1,off,acc,h=>by
  unfold N4;split
  ·exact h
  ·rename_i h0
   split
   ·exact BP f _ acc h
   ·split
    ·exact BP f _ acc h
    ·split
     ·refine BP f _ _ fun t ht=>?_
      rcases List.mem_append.1 ht with q|q
      ·exact h t q
      ·rw[List.mem_singleton.1 q];exact OC (by rw[V9 (Nat.le_refl _)];omega)
     ·exact fun t ht=>by cases ht
theorem NC{s:ByteArray}:∀t∈(D4 s).1,Nb t:=by
 unfold D4;split
 ·exact fun t ht=>by cases ht
 ·exact BP _ _ [] fun t ht=>by cases ht
def pT(c:UInt8):T1:=(4,L5 [c],0)
def L4(n:Int):List T1:=if n<0 then [pT 45,(2,⟨#[]⟩,(n.natAbs:Nat))] else [(2,⟨#[]⟩,(n.toNat:Nat))]
def X9(w:ByteArray):Bool:=O7 w && !DJ w && !decide (w=I9) && !R6 w
def AI(v:Val):List T1:=if v.Kind=1 then L4 v.Num else if X9 v.Word=true then [(1,v.Word,0)] else [(3,v.Word,0)]
def Q4(o:F1):List T1:=if o.Var≠C9 then [(1,o.Var,0)] else AI o.Const
def oTail(os:List F1):List T1:=os.flatMap fun o=>pT 44::Q4 o
def AG(v:Int):List T1:=if v=0 then [] else if 0<v then [pT 43,(2,⟨#[]⟩,(v.toNat:Nat))] else [pT 45,(2,⟨#[]⟩,(v.natAbs:Nat))]
def m5:List F1→List T1
 | []=>[]
 | o::os=>Q4 o++oTail os
def q9(g:D6):List T1:=
 if g.Kind=3 then Q4 g.L++(4,Q6.getD g.Op.toNat C9,0)::(Q4 g.R++AG g.Off)
 else if g.Kind=4 then (1,g.L.Var,0)::(1,GQ,0)::(L4 g.Low++(4,Cp,0)::L4 g.High)
 else (if g.Kind=2 then [(1,S8,0)] else [])++(1,g.Rel,0)::pT 40::(m5 g.Args++[pT 41])
def gTail(gs:List D6):List T1:=gs.flatMap fun g=>pT 44::q9 g
def sTail(ss:List ByteArray):List T1:=ss.flatMap fun s=>[pT 44,(1,s,0)]
def NO:List ByteArray→List T1
 | []=>[]
 | s::ss=>(1,s,0)::sTail ss
def V3:List D6→List T1
 | []=>[]
 | g::gs=>q9 g++gTail gs
def Jt(q:D3):List T1:=(1,l8,0)::(NO q.Sel++(1,F7,0)::V3 q.Goals)
section
variable {toks:List Tok}{e:F8}
def F9(toks:List Tok)(k:Nat)(ks:List T1):Prop:=(toks.drop k).map Rl=ks
theorem F9.tk{k:Nat}{kd v:Int}{tx:ByteArray}{ks:List T1}(h:F9 toks k ((kd,tx,v)::ks)):(B3 toks k).Kind=kd∧(B3 toks k).Text=tx∧(B3 toks k).Value=v∧k<toks.length:=by
 unfold F9 at h;cases hd:toks.drop k with
 | nil=>rw[hd]at h;cases h
 | cons x l=>
  rw[hd]at h;have h1:=(List.cons.inj h).1
  have hx:toks[k]? = some x:=by
   have:=List.getElem?_drop (xs:=toks) (i:=k) (j:=0)
   rw[hd]at this;simpa using this.symm
  have h2:(x.Kind,x.Text,x.Value)=(kd,tx,v):=h1
  obtain⟨rfl,h3⟩:=Prod.mk.inj h2
  obtain⟨rfl,rfl⟩:=Prod.mk.inj h3
  unfold B3;rw[List.getD_eq_getElem?_getD,hx];exact⟨rfl,rfl,rfl,(List.getElem?_eq_some_iff.1 hx).1⟩
theorem F9.next{k:Nat}{t:T1}{ks:List T1}(h:F9 toks k (t::ks)):F9 toks (k+1) ks:=by
 unfold F9 at *
 rw[←List.drop_drop,List.map_drop,h];rfl
theorem F9.iq{k:Nat}{kind:Int}{text:ByteArray}{v:Int}{ks:List T1}(h:F9 toks k ((kind,text,v)::ks))(k2:Int)(t2:ByteArray):I4 toks k k2 t2=(decide (kind=k2)&&decide (text=t2)):=by
 obtain⟨h1,h2,-,-⟩:=h.tk;unfold I4;rw[h1,h2]
theorem F9.end_{k:Nat}(h:F9 toks k []):toks.length≤k:=by
 unfold F9 at h;have:=congrArg List.length h
 rw[List.length_map,List.length_drop,List.length_nil]at this;omega
theorem F9.nil{k:Nat}(h:F9 toks k []){k2:Int}(h0:k2≠0)(t2:ByteArray):I4 toks k k2 t2=false:=by
 cases hi:I4 toks k k2 t2 with
 | false=>rfl
 | true=>
  have:=U4 h0 hi
  have:=h.end_
  omega
theorem F9.exp{k:Nat}{kind v:Int}{text:ByteArray}{ks:List T1}(h:F9 toks k ((kind,text,v)::ks)):o9 toks e kind text k=.ok ((),k+1):=by
 unfold o9;rw[h.iq];simp
theorem F9.int{k:Nat}{n:Int}{ks:List T1}(hn:U8 n)(h:F9 toks k (L4 n++ks)):u5 toks e k=.ok (n,k+(L4 n).length)∧F9 toks (k+(L4 n).length) ks:=by
 obtain⟨h0,h1⟩:=hn;unfold L4 at h ⊢
 unfold u5;by_cases hn:n<0
 ·rw[if_pos hn]at h ⊢
  have hd:I4 toks k 4 w8=true:=by rw[F9.iq h];rfl
  have h1':F9 toks (k+1) ((2,⟨#[]⟩,(n.natAbs:Nat))::ks):=F9.next h
  obtain⟨p1,-,p3,-⟩:=h1'.tk;refine⟨?_,h1'.next⟩
  rw[hd,if_pos rfl];unfold Y3;rw[if_pos p1,p3,if_pos (by omega)]
  show Except.ok (IntKind.i64.wrap (-(IntKind.i64.wrap ((n.natAbs:Nat):Int))),k+1+1)=Except.ok (_,_)
  have:IntKind.i64.wrap (-(IntKind.i64.wrap ((n.natAbs:Nat):Int)))=n:=by
   rw[IntKind.wrap_i64,IntKind.wrap_i64];omega
  rw[this];rfl
 ·rw[if_neg hn]at h ⊢
  obtain⟨p1,-,p3,-⟩:=h.tk;refine⟨?_,h.next⟩
  rw[show I4 toks k 4 w8=false by rw[F9.iq h];rfl,if_neg (by decide)]
  unfold Y3;rw[if_pos p1,p3,if_pos (by omega)]
  show Except.ok (IntKind.i64.wrap ((n.toNat:Nat):Int),k+1)=Except.ok (_,_)
  have:IntKind.i64.wrap ((n.toNat:Nat):Int)=n:=by
   rw[IntKind.wrap_i64];omega
  rw[this];rfl
theorem AJ{s:ByteArray}(h:O7 s=true):s.size≤24:=by
 unfold O7 at h;rw[Bool.and_eq_true,decide_eq_true_eq]at h;exact h.2
theorem QH:DJ I9=false:=by decide +kernel
theorem IJ{s:ByteArray}(h:R6 s=true):DJ s=false:=by
 unfold R6 at h;simp only[Bool.and_eq_true,decide_eq_true_eq]at h
 unfold DJ;simp only[Bool.or_eq_false_iff,decide_eq_false_iff_not]
 refine⟨⟨⟨fun q=>?_,fun q=>?_⟩,fun q=>?_⟩,fun q=>?_⟩ <;> subst q
 ·have:Hr ⟨#[115,101,108,101,99,116]⟩=115:=rfl
  omega
 ·have:Hr ⟨#[119,104,101,114,101]⟩=119:=rfl
  omega
 ·have:Hr ⟨#[110,111,116]⟩=110:=rfl
  omega
 ·have:Hr ⟨#[105,110]⟩=105:=rfl
  omega
theorem GK{s:ByteArray}(h:DJ s=false):s≠l8∧s≠F7∧s≠S8∧s≠GQ:=by
 unfold DJ at h;simp only[Bool.or_eq_false_iff,decide_eq_false_iff_not]at h
 exact⟨h.1.1.1,h.1.1.2,h.1.2,h.2⟩
theorem NJ{s:ByteArray}(h:s=I9∨R6 s=true):Gz s=true:=by
 unfold Gz;rcases h with rfl|h
 ·rfl
 ·unfold R6 at h;simp only[Bool.and_eq_true,decide_eq_true_eq]at h
  have h2:Hr s=A6 s 0:=rfl
  rw[←h2,decide_eq_true h.1.2,decide_eq_true h.2];simp
theorem Ki{s:ByteArray}(h:X9 s=true):Gz s=false:=by
 unfold X9 at h;simp only[Bool.and_eq_true,Bool.not_eq_true',decide_eq_false_iff_not]at h
 obtain⟨⟨⟨h1,h2⟩,h3⟩,h4⟩:=h;unfold R6 at h4;rw[h1,Bool.true_and]at h4;unfold Gz;rw[decide_eq_false (show ¬s=⟨#[95]⟩ from h3),Bool.false_or]
 exact h4
theorem F9.word{k:Nat}{s:ByteArray}{v:Int}{ks:List T1}(hk:DJ s=false)(hl:s.size≤24)(h:F9 toks k ((1,s,v)::ks)):R1 toks e k=.ok (s,k+1):=by
 obtain⟨p1,p2,-,-⟩:=h.tk;unfold R1;rw[p2,if_pos ⟨p1,hk⟩,if_pos hl]
def OV(o:F1):Prop:=(o.Var=C9∧I3 o.Const=true∧U8 o.Const.Num)∨((o.Var=I9∨R6 o.Var=true)∧o.Const=H2)
theorem QX:I9≠C9:=by decide +kernel
theorem Dp{s:ByteArray}(h:s=I9∨R6 s=true):s≠C9:=by
 rcases h with rfl|h
 ·exact QX
 ·intro q;subst q;have:R6 C9=false:=by decide +kernel
  rw[this]at h;cases h
theorem V5{s:ByteArray}(h:s=I9∨R6 s=true):s.size≤24:=by
 rcases h with rfl|h
 ·decide
 ·unfold R6 at h;simp only[Bool.and_eq_true]at h
  exact AJ h.1.1
theorem GL{s:ByteArray}(h:s=I9∨R6 s=true):DJ s=false:=by
 rcases h with rfl|h
 ·exact QH
 ·exact IJ h
theorem j9{o:F1}(h:o.Var≠C9):Q4 o=[(1,o.Var,0)]:=by unfold Q4;rw[if_pos h]
theorem CN{o:F1}(h:o.Var=C9):Q4 o=AI o.Const:=by unfold Q4;rw[if_neg (fun q=>q h)]
theorem Ip{o:F1}(hv:OV o):∃kd tx v r,Q4 o=(kd,tx,v)::r∧kd≠0∧(kd=1→DJ tx=false∧r=[]):=by
 rcases hv with⟨h1,h2,h3⟩|⟨h1,h2⟩
 ·rw[CN h1];unfold AI;split
  ·unfold L4;split
   ·exact⟨_,_,_,_,rfl,by decide,fun q=>absurd q (by decide)⟩
   ·exact⟨_,_,_,_,rfl,by decide,fun q=>absurd q (by decide)⟩
  ·split
   ·rename_i hb
    refine⟨_,_,_,_,rfl,by decide,fun _=>⟨?_,rfl⟩⟩
    unfold X9 at hb;simp only[Bool.and_eq_true,Bool.not_eq_true']at hb
    exact hb.1.1.2
   ·exact⟨_,_,_,_,rfl,by decide,fun q=>absurd q (by decide)⟩
 ·rw[j9 (Dp h1)];exact⟨_,_,_,_,rfl,by decide,fun _=>⟨GL h1,rfl⟩⟩
theorem F9.op{k:Nat}{o:F1}{ks:List T1}(hv:OV o)(h:F9 toks k (Q4 o++ks)):ER toks e k=.ok (o,k+(Q4 o).length)∧F9 toks (k+(Q4 o).length) ks:=by
 obtain⟨ov,vk,vn,vw⟩:=o;rcases hv with⟨h1,h2,h3⟩|⟨h1,h2⟩
 ·rw[CN h1]at h ⊢
  have h1:ov=C9:=h1
  subst h1;unfold I3 Ag at h2;simp only[Bool.or_eq_true,Bool.and_eq_true,decide_eq_true_eq]at h2
  dsimp only at h h2 h3 ⊢
  unfold AI at h ⊢
  dsimp only at h ⊢
  by_cases hk:vk=1
  ·have hw:vw=⟨#[]⟩:=h2.elim (fun q=>q.2) (fun q=>absurd (hk.symm.trans q.1.1) (by decide))
   subst hk;subst hw;rw[if_pos rfl]at h ⊢
   obtain⟨q1,q2⟩:=F9.int (e:=e) h3 h
   refine⟨?_,q2⟩
   have hkd:(B3 toks k).Kind≠1∧(B3 toks k).Kind≠3:=by
    unfold L4 at h;split at h
    ·obtain⟨p1,-,-,-⟩:=F9.tk h
     rw[p1];exact⟨by decide,by decide⟩
    ·obtain⟨p1,-,-,-⟩:=F9.tk h
     rw[p1];exact⟨by decide,by decide⟩
   unfold ER;rw[if_neg hkd.1,if_neg hkd.2,q1];rfl
  ·obtain⟨⟨k2,n0⟩,⟨-,t1⟩,t2⟩:=h2.resolve_left fun q=>hk q.1
   subst k2;subst n0;rw[if_neg hk]at h ⊢
   by_cases hb:X9 vw=true
   ·rw[if_pos hb]at h ⊢
    have hb':=hb
    unfold X9 at hb';simp only[Bool.and_eq_true,Bool.not_eq_true']at hb'
    obtain⟨p1,p2,-,-⟩:=F9.tk h
    refine⟨?_,F9.next h⟩
    unfold ER;rw[if_pos p1,F9.word hb'.1.1.2 t2 h];show Except.ok (BI vw,k+1)=_
    unfold BI;rw[Ki hb,if_neg (by decide)];rfl
   ·rw[if_neg hb]at h ⊢
    obtain⟨p1,p2,-,-⟩:=F9.tk h
    refine⟨?_,F9.next h⟩
    unfold ER;rw[if_neg (by rw[p1];decide),if_pos p1,p2,if_neg (by
     rintro (q|q)
     ·rw[q]at t1;exact absurd t1 (by decide)
     ·omega)];rfl
 ·have hne:=Dp h1
  rw[j9 hne]at h ⊢
  dsimp only at h h1 h2 ⊢
  obtain⟨p1,p2,-,-⟩:=F9.tk h
  refine⟨?_,F9.next h⟩
  unfold ER;rw[if_pos p1,F9.word (GL h1) (V5 h1) h];show Except.ok (BI ov,k+1)=_
  unfold BI;rw[NJ h1,if_pos rfl,←h2];rfl
def Rf(toks:List Tok)(ks:List T1):Prop:=∀k,F9 toks k ks→I4 toks k 4 G8=false
theorem Mn{kd v:Int}{tx:ByteArray}{ks:List T1}(h:¬(kd=4∧tx=G8)):Rf toks ((kd,tx,v)::ks):=fun k hk=>by
 rw[hk.iq];by_cases h1:kd=4
 ·rw[decide_eq_false (fun q=>h ⟨h1,q⟩),Bool.and_false]
 ·rw[decide_eq_false h1,Bool.false_and]
theorem OD:Rf toks []:=fun k hk=>hk.nil (by decide) _
theorem F9.args{ks:List T1}(hks:Rf toks ks):∀(os:List F1) (f k:Nat) (acc:List F1),(∀o∈os,OV o)→os.length≤f→F9 toks k (oTail os++ks)→∃k2,Z0 toks e f acc k=.ok (acc++os,k2)∧F9 toks k2 ks
 | [],f,k,acc,_,_,h=>by
  refine⟨k,?_,h⟩
  rw[List.append_nil];cases f with
  | zero=>rfl
  | succ f=>unfold Z0;rw[hks k h,if_neg (by decide)]
 | o::os,f,k,acc,ho,hf,h=>by
  obtain⟨f,rfl⟩:∃f',f=f'+1:=⟨f-1,by simp at hf;omega⟩
  have h:F9 toks k (pT 44::(Q4 o++(oTail os++ks))):=by
   have h2:oTail (o::os)++ks=pT 44::(Q4 o++(oTail os++ks)):=by
    unfold oTail;rw[List.flatMap_cons];simp
   rw[←h2];exact h
  obtain⟨h1,h2⟩:=F9.op (e:=e) (ho o (by simp)) h.next
  obtain⟨k2,h3,h4⟩:=F9.args hks os f _ (acc++[o]) (fun u hu=>ho u (List.mem_cons_of_mem _ hu)) (by simp at hf;omega) h2
  refine⟨k2,?_,h4⟩
  unfold Z0;rw[show I4 toks k 4 G8=true by rw[F9.iq h];rfl,if_pos rfl,h1,F3,h3,List.append_assoc];rfl
theorem F9.words{ks:List T1}(hks:Rf toks ks):∀(ss:List ByteArray) (f k:Nat) (acc:List ByteArray),(∀s∈ss,R6 s=true)→ss.length≤f→F9 toks k (sTail ss++ks)→∃k2,W7 toks e f acc k=.ok (acc++ss,k2)∧F9 toks k2 ks
 | [],f,k,acc,_,_,h=>by
  refine⟨k,?_,h⟩
  rw[List.append_nil];cases f with
  | zero=>rfl
  | succ f=>unfold W7;rw[hks k h,if_neg (by decide)]
 | s::ss,f,k,acc,ho,hf,h=>by
  obtain⟨f,rfl⟩:∃f',f=f'+1:=⟨f-1,by simp at hf;omega⟩
  have h:F9 toks k (pT 44::(1,s,0)::(sTail ss++ks)):=by
   have h2:sTail (s::ss)++ks=pT 44::(1,s,0)::(sTail ss++ks):=by
    unfold sTail;rw[List.flatMap_cons];simp
   rw[←h2];exact h
  have hs:=ho s (by simp)
  have h1:=F9.word (e:=e) (IJ hs) (V5 (.inr hs)) h.next
  obtain⟨k2,h3,h4⟩:=F9.words hks ss f _ (acc++[s]) (fun u hu=>ho u (List.mem_cons_of_mem _ hu)) (by simp at hf;omega) h.next.next
  refine⟨k2,?_,h4⟩
  unfold W7;rw[show I4 toks k 4 G8=true by rw[F9.iq h];rfl,if_pos rfl,h1,F3,h3,List.append_assoc];rfl
theorem Ey:∀os:List F1,os.length≤(oTail os).length
 | []=>Nat.le_refl _
 | o::os=>by
  have:=Ey os
  unfold oTail at *
  rw[List.flatMap_cons,List.length_append,List.length_cons,List.length_cons];omega
theorem FY:∀os:List ByteArray,os.length≤(sTail os).length
 | []=>Nat.le_refl _
 | o::os=>by
  have:=FY os
  unfold sTail at *
  rw[List.flatMap_cons,List.length_append,List.length_cons,List.length_cons];omega
theorem FH:∀os:List D6,os.length≤(gTail os).length
 | []=>Nat.le_refl _
 | o::os=>by
  have:=FH os
  unfold gTail at *
  rw[List.flatMap_cons,List.length_append,List.length_cons,List.length_cons];omega
theorem F9.len{k:Nat}{ks:List T1}(h:F9 toks k ks):ks.length≤toks.length:=by
 unfold F9 at h;rw[←h,List.length_map,List.length_drop];omega
def Kc(ks:List T1):Prop:=ks=[]∨∃r,ks=pT 44::r
theorem Kc.no{ks:List T1}(h:Kc ks){k:Nat}(hk:F9 toks k ks){t:ByteArray}(ht:t≠G8):I4 toks k 4 t=false:=by
 rcases h with rfl|⟨r,rfl⟩
 ·exact hk.nil (by decide) _
 ·rw[F9.iq hk,decide_eq_false (show ¬L5 [44]=t from fun q=>ht q.symm),Bool.and_false]
structure GV(g:D6):Prop where
 shape:P9 g=true
 ops:∀o∈F6 g,OV o
 rel:E3 g=true→O7 g.Rel=true∧DJ g.Rel=false∧g.Args≠[]
 num:u1 g=true
 off:U8 g.Off
 low:U8 g.Low
 high:U8 g.High
theorem Ns{k:Nat}{j:Nat}{v:Int}{ks:List T1}(h1:1≤j)(h2:j≤6)(h:F9 toks k ((4,Q6.getD j C9,v)::ks)):opAt toks k=j:=by
 have hc:j=1∨j=2∨j=3∨j=4∨j=5∨j=6:=by omega
 unfold opAt;rcases hc with rfl|rfl|rfl|rfl|rfl|rfl <;> simp only[h.iq] <;> rfl
theorem Gj{k:Nat}(h1:I4 toks k 1 S8=false)(h2:¬((B3 toks k).Kind=1∧I4 toks (k+1) 4 Q0=true)):S0 toks e k=I1 (ER toks e k) fun l k1=>if (B3 toks k).Kind=1∧I4 toks k1 1 GQ=true then HH toks e l (k1+1) else HJ toks e l k1:=by
 unfold S0;rw[h1,if_neg (by decide),if_neg h2]
theorem F9.rel{k:Nat}{kd:Int}{g:D6}{ks:List T1}(hn:O7 g.Rel=true)(hk:DJ g.Rel=false)(ha:g.Args≠[])(hv:∀o∈g.Args,OV o)(h:F9 toks k ((1,g.Rel,0)::pT 40::(m5 g.Args++pT 41::ks))):∃k2,EO toks e kd k=.ok (⟨kd,g.Rel,g.Args,0,E0,E0,0,0,0⟩,k2)∧F9 toks k2 ks:=by
 generalize g.Args=os at *
 cases os with
 | nil=>exact absurd rfl ha
 | cons o os=>
  have h3:F9 toks (k+1+1) (Q4 o++(oTail os++pT 41::ks)):=by
   have:=h.next.next
   unfold m5 at this;rw[List.append_assoc]at this;exact this
  obtain⟨h4,h5⟩:=F9.op (e:=e) (hv o (by simp)) h3
  obtain⟨k2,h6,h7⟩:=F9.args (e:=e) (ks:=pT 41::ks) (Mn (by rintro⟨-,q⟩;exact absurd q (by decide +kernel))) os (toks.length+1) _ [o] (fun u hu=>hv u (List.mem_cons_of_mem _ hu)) (by
   have:=h5.len
   have:=Ey os
   rw[List.length_append] at *
   omega) h5
  refine⟨k2+1,?_,h7.next⟩
  unfold EO;rw[F9.word hk (AJ hn) h,F3,show o9 toks e 4 Q0 (k+1)=.ok ((),k+1+1) from F9.exp h.next,F3,h4,F3,h6,F3,show o9 toks e 4 Ce k2=.ok ((),k2+1) from F9.exp h7,F3];rfl
theorem F9.off{k:Nat}{v:Int}{ks:List T1}(hv:U8 v)(hm:v≠-9223372036854775808)(hks:Kc ks)(h:F9 toks k (AG v++ks)):∃k2,Hh toks e k=.ok (v,k2)∧F9 toks k2 ks:=by
 obtain⟨v0,v1⟩:=hv;unfold AG at h;unfold Hh;by_cases h0:v=0
 ·rw[if_pos h0]at h;refine⟨k,?_,h⟩
  rw[hks.no h (by decide +kernel),hks.no h (by decide +kernel),if_neg (by decide),if_neg (by decide),h0]
 ·rw[if_neg h0]at h;by_cases hp:0<v
  ·rw[if_pos hp]at h;have hn:F9 toks (k+1) ((2,⟨#[]⟩,(v.toNat:Nat))::ks):=F9.next h
   obtain⟨p1,-,p3,-⟩:=hn.tk;refine⟨_,?_,hn.next⟩
   rw[show I4 toks k 4 FU=true by rw[F9.iq h];rfl,if_pos rfl]
   unfold Y3;rw[if_pos p1,p3,if_pos (by omega)]
   show Except.ok (IntKind.i64.wrap ((v.toNat:Nat):Int),k+1+1)=Except.ok (_,_)
   have:IntKind.i64.wrap ((v.toNat:Nat):Int)=v:=by
    rw[IntKind.wrap_i64];omega
   rw[this]
  ·rw[if_neg hp]at h;have hn:F9 toks (k+1) ((2,⟨#[]⟩,(v.natAbs:Nat))::ks):=F9.next h
   obtain⟨p1,-,p3,-⟩:=hn.tk;refine⟨_,?_,hn.next⟩
   rw[show I4 toks k 4 FU=false by rw[F9.iq h];rfl,if_neg (by decide),show I4 toks k 4 w8=true by rw[F9.iq h];rfl,if_pos rfl]
   unfold Y3;rw[if_pos p1,p3,if_pos (by omega)]
   show Except.ok (IntKind.i64.wrap (-(IntKind.i64.wrap ((v.natAbs:Nat):Int))),k+1+1)=Except.ok (_,_)
   have:IntKind.i64.wrap (-(IntKind.i64.wrap ((v.natAbs:Nat):Int)))=v:=by
    rw[IntKind.wrap_i64,IntKind.wrap_i64];omega
   rw[this]
theorem F9.goal{k:Nat}{g:D6}{ks:List T1}(hg:GV g)(hks:Kc ks)(h:F9 toks k (q9 g++ks)):∃k2,S0 toks e k=.ok (g,k2)∧F9 toks k2 ks:=by
 obtain⟨gs,go,gr,gn,h64,l64,u64⟩:=hg;obtain⟨kind,rel,args,op,l,r,off,low,high⟩:=g;dsimp only at *
 unfold P9 at gs;unfold F6 at go;unfold u1 at gn;unfold q9 at h;unfold E3 at gr;dsimp only at *
 by_cases k3:kind=3
 ·subst k3;rw[if_neg (by decide),if_pos rfl]at gs go
  rw[if_pos rfl]at gn h
  simp only[Bool.and_eq_true,decide_eq_true_eq]at gs gn
  obtain⟨⟨⟨rfl,g2⟩,rfl⟩,rfl⟩:=gs;have g2:args=[]:=List.length_eq_zero_iff.1 g2
  subst g2;have hl:=go l (by simp)
  have hr:=go r (by simp)
  have h:F9 toks k (Q4 l++((4,Q6.getD op.toNat C9,0)::(Q4 r++(AG off++ks)))):=by
   have:=h
   rw[List.append_assoc,List.cons_append,List.append_assoc]at this;exact this
  obtain⟨a1,a2⟩:=F9.op (e:=e) hl h
  obtain⟨kd,tx,v,rr,ht,hk0,hk1⟩:=Ip hl
  have hrest:=a2
  rw[ht]at h;obtain⟨p1,p2,-,-⟩:=F9.tk h
  have hno:I4 toks k 1 S8=false:=by
   rw[F9.iq h];by_cases q:kd=1
   ·rw[decide_eq_false (GK (hk1 q).1).2.2.1,Bool.and_false]
   ·rw[decide_eq_false q,Bool.false_and]
  have hpar:∀j:Nat,j=op.toNat→1≤j→j≤6→Q6.getD j C9≠Q0:=fun j _ h1 h2=>by
   have hc:j=1∨j=2∨j=3∨j=4∨j=5∨j=6:=by omega
   rcases hc with rfl|rfl|rfl|rfl|rfl|rfl <;> decide +kernel
  have hnp:¬((B3 toks k).Kind=1∧I4 toks (k+1) 4 Q0=true):=by
   rintro⟨q1,q2⟩;rw[p1]at q1;have hrr:=(hk1 q1).2
   subst hrr;have:=F9.next h
   rw[F9.iq this,decide_eq_false (hpar _ rfl (by omega) (by omega)),Bool.and_false]at q2
   cases q2
  rw[Gj hno hnp,a1,F3,if_neg (by rintro⟨-,q⟩;rw[F9.iq a2,decide_eq_false (show ¬(4:Int)=1 by decide),Bool.false_and]at q;cases q)]
  have ho:=Ns (by omega) (by omega) a2
  obtain⟨b1,b2⟩:=F9.op (e:=e) hr a2.next
  obtain⟨k2,c1,c2⟩:=F9.off (e:=e) h64 (by simpa using gn.2) hks b2
  refine⟨k2,?_,c2⟩
  unfold HJ;rw[ho,if_neg (by omega),b1,F3,c1,F3]
  have:((op.toNat:Nat):Int)=op:=by omega
  rw[this]
 ·by_cases k4:kind=4
  ·subst k4;rw[if_neg (by decide),if_neg (by decide),if_pos rfl]at gs go
   rw[if_neg (by decide),if_pos rfl]at gn h
   simp only[Bool.and_eq_true,decide_eq_true_eq]at gs gn
   obtain⟨⟨⟨⟨⟨rfl,g2⟩,rfl⟩,rfl⟩,rfl⟩,g6⟩:=gs;have g2:args=[]:=List.length_eq_zero_iff.1 g2
   subst g2;have hl:=go l (by simp)
   have h:F9 toks k (Q4 l++((1,GQ,0)::(L4 low++((4,Cp,0)::(L4 high++ks))))):=by
    rw[j9 g6];have:=h
    rw[List.cons_append,List.cons_append,List.append_assoc,List.cons_append]at this;exact this
   obtain⟨a1,a2⟩:=F9.op (e:=e) hl h
   rw[j9 g6]at h;obtain⟨p1,p2,-,-⟩:=F9.tk h
   have hkw:DJ l.Var=false:=by
    rcases hl with⟨q,-⟩|⟨q,-⟩
    ·exact absurd q g6
    ·exact GL q
   have hno:I4 toks k 1 S8=false:=by
    rw[F9.iq h,decide_eq_false (GK hkw).2.2.1,Bool.and_false]
   have hnp:¬((B3 toks k).Kind=1∧I4 toks (k+1) 4 Q0=true):=by
    rintro⟨-,q2⟩;have:=F9.next h
    rw[F9.iq this]at q2;exact absurd q2 (by decide)
   rw[Gj hno hnp,a1,F3,if_pos ⟨p1,by rw[F9.iq a2];rfl⟩]
   obtain⟨b1,b2⟩:=F9.int (e:=e) l64 a2.next
   obtain⟨c1,c2⟩:=F9.int (e:=e) u64 b2.next
   refine⟨_,?_,c2⟩
   unfold HH;rw[b1,F3,F9.exp b2,F3,c1,F3];rfl
  ·by_cases k12:kind=1∨kind=2
   ·rw[if_pos k12]at gs go
    rw[if_neg k3,if_neg k4]at h;simp only[Bool.and_eq_true,decide_eq_true_eq]at gs
    obtain⟨⟨⟨⟨⟨rfl,rfl⟩,rfl⟩,rfl⟩,rfl⟩,rfl⟩:=gs;obtain⟨q1,q2,q3⟩:=gr (by rcases k12 with rfl|rfl <;> rfl)
    have hrel:∀j,F9 toks j ((1,rel,0)::pT 40::(m5 args++pT 41::ks))→∃k2,EO toks e kind j=.ok (⟨kind,rel,args,0,E0,E0,0,0,0⟩,k2)∧F9 toks k2 ks:=fun j hj=>
     F9.rel (g:=⟨kind,rel,args,0,E0,E0,0,0,0⟩) q1 q2 q3 go hj
    have hz:j8=E0:=rfl
    rw[hz];rcases k12 with rfl|rfl
    ·have h:F9 toks k ((1,rel,0)::pT 40::(m5 args++pT 41::ks)):=by
      have:=h
      rw[if_neg (by decide),List.nil_append,List.cons_append,List.cons_append,List.append_assoc]at this
      exact this
     obtain⟨k2,c1,c2⟩:=hrel k h
     refine⟨k2,?_,c2⟩
     unfold S0;rw[show I4 toks k 1 S8=false by rw[F9.iq h,decide_eq_false (GK q2).2.2.1,Bool.and_false],if_neg (by decide),if_pos ⟨h.tk.1,by rw[F9.iq h.next];rfl⟩,c1]
    ·have h:F9 toks k ((1,S8,0)::(1,rel,0)::pT 40::(m5 args++pT 41::ks)):=by
      have:=h
      rw[if_pos rfl,List.cons_append,List.nil_append,List.cons_append,List.cons_append,List.cons_append,List.append_assoc]at this;exact this
     obtain⟨k2,c1,c2⟩:=hrel (k+1) h.next
     refine⟨k2,?_,c2⟩
     unfold S0;rw[show I4 toks k 1 S8=true by rw[F9.iq h];rfl,if_pos rfl,c1]
   ·rw[if_neg k12,if_neg k3,if_neg k4]at gs;cases gs
theorem F9.goals:∀(gs:List D6) (f k:Nat) (acc:List D6),(∀g∈gs,GV g)→gs.length≤f→F9 toks k (gTail gs)→∃k2,W3 toks e f acc k=.ok (acc++gs,k2)∧F9 toks k2 []
 | [],f,k,acc,_,_,h=>by
  refine⟨k,?_,h⟩
  rw[List.append_nil];cases f with
  | zero=>rfl
  | succ f=>unfold W3;rw[OD k h,if_neg (by decide)]
 | g::gs,f,k,acc,ho,hf,h=>by
  obtain⟨f,rfl⟩:∃f',f=f'+1:=⟨f-1,by simp at hf;omega⟩
  have h:F9 toks k (pT 44::(q9 g++gTail gs)):=by
   have h2:gTail (g::gs)=pT 44::(q9 g++gTail gs):=by
    unfold gTail;rw[List.flatMap_cons];simp
   rw[←h2];exact h
  have hend:Kc (gTail gs):=by
   cases gs with
   | nil=>exact .inl rfl
   | cons g2 gs=>exact .inr ⟨q9 g2++gTail gs,by unfold gTail;rw[List.flatMap_cons];simp⟩
  obtain⟨k1,h1,h2⟩:=F9.goal (e:=e) (ho g (by simp)) hend h.next
  obtain⟨k2,h3,h4⟩:=F9.goals gs f k1 (acc++[g]) (fun u hu=>ho u (List.mem_cons_of_mem _ hu)) (by simp at hf;omega) h2
  refine⟨k2,?_,h4⟩
  unfold W3;rw[show I4 toks k 4 G8=true by rw[F9.iq h];rfl,if_pos rfl,h1,F3,h3,List.append_assoc];rfl
structure QV(q:D3):Prop where
 sel:∀s∈q.Sel,R6 s=true
 goals:∀g∈q.Goals,GV g
 some:q.Goals≠[]
theorem F9.query{q:D3}(hq:QV q)(h:F9 toks 0 (Jt q)):∃k,X5 toks e 0=.ok (q,k):=by
 obtain⟨sel,gs⟩:=q;obtain⟨hs,hg,hne⟩:=hq;dsimp only at *
 unfold Jt at h;dsimp only at h
 unfold X5;rw[F9.exp h,F3];have h1:=h.next
 obtain⟨k2,h2,h3⟩:∃k2,Kt toks e (0+1)=.ok (sel,k2)∧F9 toks k2 ((1,F7,0)::V3 gs):=by
  unfold Kt;cases sel with
  | nil=>
   have h1:F9 toks (0+1) ((1,F7,0)::V3 gs):=h1
   rw[show I4 toks (0+1) 1 F7=true by rw[F9.iq h1];rfl,if_pos rfl]
   exact⟨_,rfl,h1⟩
  | cons s ss=>
   have h1:F9 toks (0+1) ((1,s,0)::(sTail ss++(1,F7,0)::V3 gs)):=h1
   have hv:=hs s (by simp)
   have hk:=IJ hv
   rw[show I4 toks (0+1) 1 F7=false by rw[F9.iq h1,decide_eq_false (GK hk).2.1,Bool.and_false],if_neg (by decide),F9.word hk (V5 (.inr hv)) h1,F3]
   obtain⟨k2,h2,h3⟩:=F9.words (e:=e) (ks:=(1,F7,0)::V3 gs) (Mn (by rintro⟨q,-⟩;exact absurd q (by decide))) ss (toks.length+1) _ [s] (fun u hu=>hs u (List.mem_cons_of_mem _ hu)) (by
    have:=h1.next.len
    have:=FY ss
    rw[List.length_append] at *
    omega) h1.next
   exact⟨k2,h2,h3⟩
 rw[h2,F3];unfold Jn;rw[F9.exp h3,F3];cases gs with
 | nil=>exact absurd rfl hne
 | cons g gs=>
  have h4:F9 toks (k2+1) (q9 g++gTail gs):=h3.next
  have hend:Kc (gTail gs):=by
   cases gs with
   | nil=>exact .inl rfl
   | cons g2 gs=>exact .inr ⟨q9 g2++gTail gs,by unfold gTail;rw[List.flatMap_cons];simp⟩
  obtain⟨k3,h5,h6⟩:=F9.goal (e:=e) (hg g (by simp)) hend h4
  obtain⟨k4,h7,h8⟩:=F9.goals (e:=e) gs (toks.length+1) k3 [g] (fun u hu=>hg u (List.mem_cons_of_mem _ hu)) (by
   have:=h6.len
   have:=FH gs
   omega) h6
  rw[h5,F3,h7,F3,if_neg (by have:=h8.end_;omega)]
  exact⟨k4,rfl⟩
end
set_option maxHeartbeats 1000000
def NK(p:List UInt8):Prop:=(∃c,p=[c]∧c∈GC)∨∃c d,p=[c,d]∧g9 c.toNat d.toNat=true
def Ro(l:List UInt8):Prop:=l=[]∨∃r,l=32::r
theorem OQ(a:Int):g9 a 32=false:=by unfold g9;simp
theorem OP:∀c∈GC,H9 (c.toNat:Int)=false∧K9 (c.toNat:Int)=false∧(c.toNat:Int)≠34∧W2 (c.toNat:Int)=false∧(c.toNat:Int)≠35:=by decide
theorem Mf{c d:UInt8}(h:g9 c.toNat d.toNat=true):c∈GC:=by
 unfold g9 at h;simp only[Bool.or_eq_true,Bool.and_eq_true,decide_eq_true_eq]at h
 have hc:c.toNat=60∨c.toNat=62∨c.toNat=33∨c.toNat=46∨c.toNat=45:=by omega
 have key:∀k:Nat,k<256→c.toNat=k→c=UInt8.ofNat k:=fun k hk e=>UInt8.toNat_inj.1 (by rw[UInt8.toNat_ofNat',Nat.mod_eq_of_lt (by omega)];exact e)
 rcases hc with q|q|q|q|q <;> rw[key _ (by decide) q] <;> decide
theorem Ot{c:UInt8}{p l:List UInt8}(hp:NK (c::p))(hl:Ro l):I6 (L5 ((c::p)++l))=⟨4,L5 (c::p),0,(c::p).length,0⟩∧W2 (c.toNat:Int)=false∧(c.toNat:Int)≠35:=by
 have hb:A6 (L5 ((c::p)++l)) 0=c.toNat:=rfl
 have hz:(L5 ((c::p)++l)).size=p.length+1+l.length:=by rw[O9];simp;omega
 have hP:F2 (L5 ((c::p)++l))=(c::p).length∧c∈GC:=by
  rcases hp with⟨c',e,hc⟩|⟨c',d,e,h2⟩
  ·obtain⟨rfl,rfl⟩:=List.cons.inj e
   refine⟨?_,hc⟩
   unfold F2;rw[if_neg (by
    rintro⟨q1,q2⟩;rcases hl with rfl|⟨r,rfl⟩
    ·rw[hz]at q1;simp at q1
    ·have:A6 (L5 ([c]++32::r)) 1=32:=rfl
     rw[this,OQ]at q2;cases q2),if_pos ⟨by rw[hz];omega,hc⟩];rfl
  ·obtain⟨rfl,e2⟩:=List.cons.inj e
   subst e2;refine⟨?_,Mf h2⟩
   unfold F2;rw[if_pos ⟨by rw[hz];show 2≤1+1+l.length;omega,h2⟩];rfl
 obtain⟨hP1,hc⟩:=hP;obtain⟨k1,k2,k3,k4,k5⟩:=OP c hc
 refine⟨?_,k4,k5⟩
 unfold I6;rw[hP1,hb,if_neg (by rw[k1];decide),if_neg (by rw[k2];decide),if_neg k3,if_neg (by simp),Bh]
end Go.Proofs.YtlimglpjpcfpdaaGreatDoor
end
section
open Go Mk
namespace Go.Proofs.YtlimglpjpcfpdaaGreatDoor
set_option maxHeartbeats 16000000
attribute [local irreducible] Calls cI cB D4
section
variable {Γ:B5}{S:List B1}{w:World}
theorem Gq(hw:Wd Γ S w)(args:Array Value)(hn:Nat.ble args.size 22=true) :
  CallsD Tryz.prog 31 args .returning w fun e u' w'=>e=.returned (.tuple #[])∧u'=.returning∧Wd Γ S w':=by
 refine EL Tryz.func31 rfl hn rfl rfl ?_
 refine Cq ?_
 refine v6 ?_
 refine lY (v:=.nilIface) ?_ (hy:=Dm rfl)
 refine lY (v:=.bool false) ?_ (hy:=OG Tryz.underlying20 rfl)
 refine Z2 ?_
 refine A0 rfl (fun h=>by cases h) (fun _=>?_)
 refine Du ?_
 exact⟨_,rfl,rfl,rfl,hw⟩
set_option maxRecDepth 8000 in
theorem IC(s:ByteArray)(hs:s.size≤1000000)(he:(D4 s).2.2=0)(hr:QP (D4 s).1)(hw:Wd Γ S w) :
  Calls Tryz.prog 8 #[.string s] w fun r w'=>∃Γ' vs vg gs,Γ.le Γ'∧r=.returned (.tuple #[.agg #[vs,vg],.agg (enc (⟨0,0⟩:F8)).toArray,.int .i64 0])∧QR Γ' vs vg gs ⟨[(B3 (D4 s).1 1).Text],U0 (D4 s).1 2⟩∧Wd Γ' S w':=by
 haveI hL:=FJ s (by omega)
 haveI hCn:=Da s
 refine x6 Tryz.func8 rfl rfl ?_
 refine N3 (V1 ?_)
 repeat first|refine C3 ?_|refine C4 ?_;intro w hw
 refine B4 ?_;intro b2 w hw;refine B4 ?_;intro b3 w hw;refine B4 ?_;intro b4 w hw;refine Z2 ?_
 have hw:Wd Γ (.blk b2 (.cells #[.slice none 0 0,.slice none 0 0] 25)::.blk b3 (.cells (enc (⟨0,0⟩:F8)).toArray 29)::.blk b4 (.cells #[.int .i64 0] 30)::S) w:=hw.ps [1,2]
 refine N3 (V1 ?_)
 repeat first|refine C3 ?_|refine C4 ?_;intro w hw
 refine D1 ?_;refine(HA Γ _ w s (Nat.le_trans hs (by decide)) hw).mono ?_
 clear hw;rintro r w ⟨v,rfl,hw⟩
 refine⟨_,rfl,?_⟩;repeat first|refine C3 ?_|refine C4 ?_;intro w hw
 refine B0 (i:=2) ?_
 intro w hw;refine B0 (i:=3) ?_
 intro w hw;refine Z2 ?_
 have hw:Wd Γ (.own v 104 5 ((D4 s).1.map enc)::.blk b2 (.cells #[.slice none 0 0,.slice none 0 0] 25)::.blk b3 (.cells (enc (D4 s).2.1).toArray 29)::.blk b4 (.cells #[.int .i64 (D4 s).2.2] 30)::S) w:=hw
 generalize (D4 s).2.1=p1 at *
 generalize (D4 s).2.2=e1 at *
 generalize (D4 s).1=toks at *
 refine N3 (N3 (V1 ?_))
 repeat first|refine C3 ?_|refine C4 ?_;intro w hw
 refine AE rfl (fun h=>absurd he (by simpa using h)) (fun _=>?_)
 obtain⟨at',n,c,rfl,hn,-,-⟩:=hw.own_shape (i:=0) rfl
 simp only[List.length_map]at hn
 obtain⟨Γ1,hle,ht,hw⟩:=hw.freeze;refine V1 (Du ?_)
 refine N3 (As ?_)
 refine Ft ((Z5 (first:=[]) (cap:=[.tmp 2,.tmp 3,.tmp 4]) (f1:=[]) (c1:=[.pointer (some ⟨b2,0,none⟩),.pointer (some ⟨b3,0,none⟩),.pointer (some ⟨b4,0,none⟩)]) EvL.nil (EvL.cons rfl (EvL.cons rfl (EvL.cons rfl EvL.nil)))).step ?_)
 refine Cb ?_
 refine If ?_
 refine N3 (S6 ?_)
 repeat first|refine C3 ?_|refine C4 ?_;intro w hw
 refine N3 (S6 ?_)
 repeat first|refine C3 ?_|refine C4 ?_;intro w hw
 refine K4 ?_;intro bp w hw;repeat first|refine C3 ?_|refine C4 ?_;intro w hw
 have hw:Wd Γ1 (A9 bp at' n c 0 _ _::.blk b2 (.cells #[.slice none 0 0,.slice none 0 0] 25)::.blk b3 (.cells (enc p1).toArray 29)::.blk b4 (.cells #[.int .i64 e1] 30)::S) w:=hw
 refine N3 (S6 ?_)
 repeat first|refine C3 ?_|refine C4 ?_;intro w hw
 refine D1 ?_;refine(Oi hr ht hw).mono ?_
 clear hw;rintro r w ⟨Γ2,vs,vg,gs,hle2,rfl,hq,hw⟩
 obtain⟨ga,gn,gc,rfl,hgn,hgnc,hgc⟩:=hq.goals.shape;obtain⟨sa,sn,sc,rfl,hsn,hsnc,hsc⟩:=hq.sel.shape;refine⟨_,rfl,?_⟩;repeat first|refine C3 ?_|refine C4 ?_;intro w hw
 refine B0 (i:=0) ?_
 intro w hw;refine B0 (i:=1) ?_
 intro w hw;refine B0 (i:=2) ?_
 intro w hw;have hw:Wd Γ2 (.blk b2 (.cells #[.slice sa sn sc,.slice ga gn gc] 25)::.blk b3 (.cells (enc (⟨0,0⟩:F8)).toArray 29)::.blk b4 (.cells #[.int .i64 0] 30)::S) w:=hw
 refine Z2 ?_
 refine JD ?_
 intro a ha hsz;refine leaves_cons (by simp) rfl ((Gq hw _ rfl).mono ?_)
 rintro e u' w ⟨rfl,rfl,hw⟩
 show Leaves _ _ _ _ [] .returning w
 exact⟨_,O2 (vs:=[.agg #[.slice sa sn sc,.slice ga gn gc],.agg (enc (⟨0,0⟩:F8)).toArray,.int .i64 0]) (by decide) (by rw[ha];exact⟨M3 (i:=0) hw rfl rfl rfl,M3 (i:=1) hw rfl rfl rfl,OE (i:=2) hw rfl rfl rfl,trivial⟩),Γ2,_,_,gs,hle.trans hle2,rfl,hq,hw.ds [0,0,0]⟩
end
end Go.Proofs.YtlimglpjpcfpdaaGreatDoor
end
section
open Go Mk
namespace Go.Proofs.YtlimglpjpcfpdaaGreatDoor
set_option maxHeartbeats 16000000
attribute [local irreducible] Calls cI cB D4 X5
def P6(s:ByteArray):D3×F8×Int:=if (D4 s).2.2=0 then (match X5 (D4 s).1 (u4 s) 0 with|.ok (q,_)=>(q,⟨0,0⟩,0)|.error (p,er)=>(⟨[],[]⟩,p,er)) else (⟨[],[]⟩,(D4 s).2.1,(D4 s).2.2)
def Ar(b2 b3 b4:Nat)(h0:Array Value)(p0:F8)(e0:Int)(S:List B1):List B1:=.blk b2 (.cells h0 25)::.blk b3 (.cells (enc p0).toArray 29)::.blk b4 (.cells #[.int .i64 e0] 30)::S
theorem IV{s:ByteArray}:DX (D4 s).1:=fun k hk=>by
 have h:B3 (D4 s).1 k∈(D4 s).1:=by
  have hl:=W8 (toks:=(D4 s).1) (at':=k) (by rw[hk];decide)
  unfold B3;rw[List.getD_eq_getElem?_getD,List.getElem?_eq_getElem hl];exact List.getElem_mem hl
 have hw:=(NC _ h).1 hk
 unfold Ai at hw;simp only[Bool.and_eq_true,decide_eq_true_eq]at hw
 exact hw.1.1
theorem Ml(Γ:B5):QR Γ (.slice none 0 0) (.slice none 0 0) [] ⟨[],[]⟩:=⟨D2.nil,D2.nil,rfl,fun x hx=>by cases hx⟩
section
variable {Γ:B5}{S:List B1}{w:World}{b2 b3 b4:Nat}{h0:Array Value}{p0:F8}{e0:Int}
theorem Mj{p:F8}{er:Int}(hz:h0.size=2)(hw:Wd Γ (Ar b2 b3 b4 h0 p0 e0 S) w) :
  CallsD Tryz.prog 31 #[.pointer (some ⟨b2,0,none⟩),.pointer (some ⟨b3,0,none⟩),.pointer (some ⟨b4,0,none⟩)] (.panicking [p9 p er]) w fun e u' w'=>
   e=.returned (.tuple #[])∧settle u'=.returning∧Wd Γ (Ar b2 b3 b4 #[.slice none 0 0,.slice none 0 0] p er S) w':=by
 refine EL Tryz.func31 rfl rfl rfl rfl ?_
 obtain⟨c1,c2,rfl⟩:∃c1 c2,h0 = #[c1,c2]:=by
  obtain⟨l⟩:=h0;match l,hz with
  | [c1,c2],_=>exact⟨c1,c2,rfl⟩
 unfold Ar at hw;have hv:(Bi (.panicking [p9 p er])).1=.iface 89 (.agg #[.int .i64 p.Line,.int .i64 p.Col,.int .i64 er]):=rfl
 rw[hv];refine Cq ?_
 refine v6 ?_
 refine lY (v:=.iface 89 (.agg #[.int .i64 p.Line,.int .i64 p.Col,.int .i64 er])) ?_ (hy:=Dm rfl)
 refine lY (v:=.bool true) ?_ (hy:=OM Tryz.underlying20 rfl)
 refine Z2 ?_
 refine A0 rfl (fun _=>?_) (fun h=>by cases h)
 refine Cq ?_
 refine v6 ?_
 refine lY (v:=.iface 89 (.agg #[.int .i64 p.Line,.int .i64 p.Col,.int .i64 er])) ?_ (hy:=Dm rfl)
 refine lY (v:=.tuple #[.agg #[.int .i64 p.Line,.int .i64 p.Col,.int .i64 er],.bool true]) ?_ (hy:=Ii Tryz.underlying89 rfl)
 refine A1 ?_;refine B4 ?_;intro b5 w hw;refine A1 ?_;refine B0 ?_;intro w hw;have hw:Wd Γ (.blk b5 (.cells #[.int .i64 p.Line,.int .i64 p.Col,.int .i64 er] 89)::.blk b2 (.cells #[c1,c2] 25)::.blk b3 (.cells (enc p0).toArray 29)::.blk b4 (.cells #[.int .i64 e0] 30)::S) w:=hw
 refine A1 ?_;refine A0 rfl (fun h=>by cases h) (fun _=>?_)
 refine A1 ?_;refine Bo [] [fun _=>[.blk b5 _],fun _=>[.blk b2 _],fun _=>[.blk b3 _],fun _=>.blk b4 _::S] [[],[],[],[],[],[1],[2],[3]] [[],[],[0],[],[0],[1],[2],[3]] [[],[],[],[]] (by simpa[List.range,List.range.loop,ML] using hw) ?_
 refine m4 ?_;refine AN (c:=1) ?_
 refine AN (c:=2) ?_
 refine AN (c:=3) ?_
 refine X3 ?_
 intro w hw;have hw:Wd Γ ((.blk b5 (.cells #[.int .i64 p.Line,.int .i64 p.Col,.int .i64 er] 89)::Ar b2 b3 b4 #[.slice none 0 0,.slice none 0 0] p er S)++[]) w:=hw
 rw[List.append_nil]at hw;exact⟨_,rfl,rfl,rfl,hw.drop⟩
end
section
variable {Γ:B5}{S:List B1}{w:World}
set_option maxRecDepth 8000 in
theorem BC(s:ByteArray)(hs:s.size≤1000000)(hw:Wd Γ S w) :
  Calls Tryz.prog 8 #[.string s] w fun r w'=>∃Γ' vs vg gs,Γ.le Γ'∧r=.returned (.tuple #[.agg #[vs,vg],.agg (enc (P6 s).2.1).toArray,.int .i64 (P6 s).2.2])∧QR Γ' vs vg gs (P6 s).1∧Wd Γ' S w':=by
 haveI hL:=FJ s (by omega)
 haveI hCn:=Da s
 have hlin:=JQ (s:=s) (k:=s.size) (Nat.le_refl _)
 rw[List.take_of_length_le (by simp)]at hlin
 have hcnt:s.data.toList.count 10≤s.size:=by
  have:=List.count_le_length (a:=(10:UInt8)) (l:=s.data.toList)
  simpa using this
 have hcol:1≤(u4 s).Col∧(u4 s).Col≤s.size+1:=by
  have:∀k,1≤(B7 s k).Col∧(B7 s k).Col≤k+1:=fun k=>by
   induction k with
   | zero=>simp[B7]
   | succ k ih=>
    unfold B7;split
    ·simp;omega
    ·simp;omega
  exact this _
 refine x6 Tryz.func8 rfl rfl ?_
 refine N3 (V1 ?_)
 refine A1 ?_;refine B4 ?_;intro b2 w hw;refine B4 ?_;intro b3 w hw;refine B4 ?_;intro b4 w hw;refine Z2 ?_
 have hw:Wd Γ (Ar b2 b3 b4 #[.slice none 0 0,.slice none 0 0] ⟨0,0⟩ 0 S) w:=hw.ps [1,2]
 unfold Ar at hw;refine N3 (V1 ?_)
 refine A1 ?_;refine D1 ?_;refine(HA Γ _ w s (Nat.le_trans hs (by decide)) hw).mono ?_
 clear hw;rintro r w ⟨v,rfl,hw⟩
 refine⟨_,rfl,?_⟩;refine A1 ?_;refine B0 (i:=2) ?_
 intro w hw;refine B0 (i:=3) ?_
 intro w hw;refine Z2 ?_
 have hw:Wd Γ (.own v 104 5 ((D4 s).1.map enc)::Ar b2 b3 b4 #[.slice none 0 0,.slice none 0 0] (D4 s).2.1 (D4 s).2.2 S) w:=hw
 unfold Ar at hw;refine N3 (N3 (V1 ?_))
 refine A1 ?_;refine AE rfl (fun h=>?_) (fun h=>?_)
 ·have h:¬(D4 s).2.2=0:=by simpa using h
  have hP:P6 s=(⟨[],[]⟩,(D4 s).2.1,(D4 s).2.2):=by unfold P6;rw[if_neg h]
  rw[hP];refine V1 ?_
  refine A1 ?_;refine Bo [] [fun _=>[.own v _ _ _],fun _=>[.blk b2 _],fun _=>[.blk b3 _],fun _=>.blk b4 _::S] [[],[],[],[1],[2],[3]] [[],[2],[3],[1],[2],[3]] [[],[],[],[]] (by simpa[List.range,List.range.loop,ML] using hw) ?_
  refine m4 ?_;refine AN (c:=1) ?_
  refine AN (c:=2) ?_
  refine AN (c:=3) ?_
  refine X3 ?_
  intro w hw;have hw:Wd Γ ((.own v 104 5 ((D4 s).1.map enc)::Ar b2 b3 b4 #[.slice none 0 0,.slice none 0 0] (D4 s).2.1 (D4 s).2.2 S)++[]) w:=hw
  rw[List.append_nil]at hw;refine A1 ?_;have hw:=hw.drop
  unfold Ar at hw;intro a ha hsz;exact⟨_,O2 (vs:=[.agg #[.slice none 0 0,.slice none 0 0],.agg (enc (D4 s).2.1).toArray,.int .i64 (D4 s).2.2]) (by decide) (by rw[ha];exact⟨M3 (i:=0) hw rfl rfl rfl,M3 (i:=1) hw rfl rfl rfl,OE (i:=2) hw rfl rfl rfl,trivial⟩),Γ,_,_,[],B5.le.refl _,rfl,Ml Γ,hw.ds [0,0,0]⟩
 have h:(D4 s).2.2=0:=by simpa using h
 have hP:P6 s=(match X5 (D4 s).1 (u4 s) 0 with|.ok (q,_)=>(q,⟨0,0⟩,0)|.error (p,er)=>(⟨[],[]⟩,p,er)):=by unfold P6;rw[if_pos h]
 rw[hP];clear hP;have hwo:=IV (s:=s)
 generalize (D4 s).2.1=p1 at *
 generalize (D4 s).2.2=e1 at *
 have hlen:=KZ (s:=s)
 generalize (D4 s).1=toks at *
 obtain⟨at',n,c,rfl,hn,-,-⟩:=hw.own_shape (i:=0) rfl
 simp only[List.length_map]at hn
 obtain⟨Γ1,hle,ht,hw⟩:=hw.freeze;refine V1 (Du ?_)
 refine N3 (As ?_)
 refine Ft ((Z5 (first:=[]) (cap:=[.tmp 2,.tmp 3,.tmp 4]) (f1:=[]) (c1:=[.pointer (some ⟨b2,0,none⟩),.pointer (some ⟨b3,0,none⟩),.pointer (some ⟨b4,0,none⟩)]) EvL.nil (EvL.cons rfl (EvL.cons rfl (EvL.cons rfl EvL.nil)))).step ?_)
 refine Cb ?_
 refine If ?_
 refine N3 (S6 ?_)
 refine A1 ?_;refine N3 (S6 ?_)
 refine A1 ?_;refine K4 ?_;intro bp w hw;refine A1 ?_;have hw:Wd Γ1 (A9 bp at' n c 0 (((s.data.toList.count 10:Nat):Int)+1) ((s.size:Int)-((s.size:Int)-(u4 s).Col))::Ar b2 b3 b4 #[.slice none 0 0,.slice none 0 0] p1 e1 S) w:=hw
 rw[show (((s.data.toList.count 10:Nat):Int)+1)=(u4 s).Line from by unfold u4;rw[hlin];omega,show (s.size:Int)-((s.size:Int)-(u4 s).Col)=(u4 s).Col from by omega]at hw
 refine N3 (S6 ?_)
 refine A1 ?_;refine G0 ?_
 refine(QG hwo (Nat.zero_le _) (by omega) ht hw).mono ?_
 clear hw;rintro r w hr
 cases hH:X5 toks (u4 s) 0 with
 | error q=>
  obtain⟨p,er⟩:=q;rw[hH]at hr;obtain⟨Γ2,k,hle2,rfl,hw⟩:=hr;have hw:=hw.drop
  intro a ha hsz;refine leaves_cons (by simp) rfl ((Mj rfl hw).mono ?_)
  rintro e u' w ⟨rfl,hu,hw⟩
  show Leaves _ _ _ _ [] (settle u') w
  rw[hu];unfold Ar at hw;exact⟨_,O2 (vs:=[.agg #[.slice none 0 0,.slice none 0 0],.agg (enc p).toArray,.int .i64 er]) (by decide) (by rw[ha];exact⟨M3 (i:=0) hw rfl rfl rfl,M3 (i:=1) hw rfl rfl rfl,OE (i:=2) hw rfl rfl rfl,trivial⟩),Γ2,_,_,[],hle.trans hle2,rfl,Ml Γ2,hw.ds [0,0,0]⟩
 | ok q=>
  obtain⟨q,k⟩:=q;rw[hH]at hr;obtain⟨Γ2,vs,vg,gs,hle2,rfl,hq,hw⟩:=hr;unfold Ar at hw;obtain⟨ga,gn,gc,rfl,hgn,hgnc,hgc⟩:=hq.goals.shape;obtain⟨sa,sn,sc,rfl,hsn,hsnc,hsc⟩:=hq.sel.shape;show L _ _ _ _ _ _ _
  refine A1 ?_;refine B0 (i:=0) ?_
  intro w hw;refine B0 (i:=1) ?_
  intro w hw;refine B0 (i:=2) ?_
  intro w hw;have hw:Wd Γ2 (Ar b2 b3 b4 #[.slice sa sn sc,.slice ga gn gc] ⟨0,0⟩ 0 S) w:=hw
  refine Z2 ?_
  refine JD ?_
  intro a ha hsz;refine leaves_cons (by simp) rfl ((Gq hw _ rfl).mono ?_)
  rintro e u' w ⟨rfl,rfl,hw⟩
  show Leaves _ _ _ _ [] .returning w
  unfold Ar at hw;exact⟨_,O2 (vs:=[.agg #[.slice sa sn sc,.slice ga gn gc],.agg (enc (⟨0,0⟩:F8)).toArray,.int .i64 0]) (by decide) (by rw[ha];exact⟨M3 (i:=0) hw rfl rfl rfl,M3 (i:=1) hw rfl rfl rfl,OE (i:=2) hw rfl rfl rfl,trivial⟩),Γ2,_,_,gs,hle.trans hle2,rfl,hq,hw.ds [0,0,0]⟩
end
end Go.Proofs.YtlimglpjpcfpdaaGreatDoor
end
