/- Texts of this proof, one behind another. -/
import Derived.Test.YtlimglpjpcfpdaaGreatM5
import Derived.Test.YtlimglpjpcfpdaaGreatM3
import Derived.Lib.ItoaNum
import Derived.Test.YtlimglpjpcfpdaaGreatM4
import Derived.Test.YtlimglpjpcfpdaaGreatM2
set_option linter.unusedVariables false
set_option linter.unusedSimpArgs false
section
open Go Mk
namespace Go.Proofs.YtlimglpjpcfpdaaGreat
set_option maxHeartbeats 32000000
def Hi:ByteArray:=⟨#[105,110]⟩
def Dj:ByteArray:=⟨#[46,46]⟩
def Gc:ByteArray:=⟨#[43]⟩
def Tb:ByteArray:=⟨#[61]⟩
def UR:ByteArray:=⟨#[33,61]⟩
def UT:ByteArray:=⟨#[60]⟩
def UI:ByteArray:=⟨#[60,61]⟩
def UL:ByteArray:=⟨#[62]⟩
def UJ:ByteArray:=⟨#[62,61]⟩
def j0:List ByteArray:=[D8,Tb,UR,UT,UI,UL,UJ]
def opAt(toks:List Tok)(k:Nat):Nat:=if L5 toks k 4 Tb=true then 1 else if L5 toks k 4 UR=true then 2 else if L5 toks k 4 UT=true then 3 else if L5 toks k 4 UI=true then 4 else if L5 toks k 4 UL=true then 5 else if L5 toks k 4 UJ=true then 6 else 0
def J5{α β:Type}(x:PR α)(f:α→Nat→PR β):PR β:=match x with
 | .ok (a,k)=>f a k
 | .error q=>.error q
def AI(toks:List Tok)(e:F1):Nat→List K0→Nat→PR (List K0)
 | 0,acc,k=>.ok (acc,k)
 | f+1,acc,k=>if L5 toks k 4 O2=true then J5 (Fe toks e (k+1)) fun o k1=>AI toks e f (acc++[o]) k1 else .ok (acc,k)
def HA(toks:List Tok)(e:F1)(kind:Int)(k:Nat):PR F5:=
 J5 (W3 toks e k) fun s k1=>J5 (z1 toks e 4 Y6 k1) fun _ k2=>J5 (Fe toks e k2) fun o k3=>J5 (AI toks e (toks.length+1) [o] k3) fun os k4=>J5 (z1 toks e 4 IC k4) fun _ k5=>.ok (⟨kind,s,os,0,F6,F6,0,0,0⟩,k5)
def Lh(toks:List Tok)(e:F1)(l:K0)(k:Nat):PR F5:=
 J5 (CU toks e k) fun lo k1=>J5 (z1 toks e 4 Dj k1) fun _ k2=>J5 (CU toks e k2) fun hi k3=>.ok (⟨4,D8,[],0,l,F6,0,lo,hi⟩,k3)
def Lj(toks:List Tok)(e:F1)(k:Nat):PR Int:=
 if L5 toks k 4 Gc=true then HU (fun v=>IntKind.i64.wrap v) (y9 toks e 9223372036854775807 (k+1))
 else if L5 toks k 4 AS=true then HU (fun v=>IntKind.i64.wrap (-(IntKind.i64.wrap v))) (y9 toks e 9223372036854775807 (k+1))
 else .ok (0,k)
def Ly(toks:List Tok)(e:F1)(l:K0)(k:Nat):PR F5:=
 if opAt toks k=0 then .error (X5 toks k e,50) else J5 (Fe toks e (k+1)) fun r k1=>J5 (Lj toks e k1) fun o k2=>.ok (⟨3,D8,[],opAt toks k,l,r,o,0,0⟩,k2)
def X3(toks:List Tok)(e:F1)(k:Nat):PR F5:=
 if L5 toks k 1 X7=true then HA toks e 2 (k+1)
 else if (K8 toks k).Kind=1∧L5 toks (k+1) 4 Y6=true then HA toks e 1 k
 else J5 (Fe toks e k) fun l k1=>if (K8 toks k).Kind=1∧L5 toks k1 1 Hi=true then Lh toks e l (k1+1) else Ly toks e l k1
def Qf(Γ:B8)(S:List A7)(bp:Nat)(a:Option Addr)(n c:Nat)(e:F1):PR F5→Ending→World→Prop
 | .ok (g,k),r,w=>∃v:Pv,r=.returned (.agg (cG ⟨g,v.1,v.2.1,v.2.2⟩).toArray)∧k≤n∧Wd Γ (.own (Ug v) 125 4 (g.Args.map enc)::B9 bp a n c k e.Line e.Col::S) w
 | .error (p,er),r,w=>r=.panicked [x7 p er]∧∃k,Wd Γ (B9 bp a n c k e.Line e.Col::S) w
section
variable {Γ:B8}{S:List A7}{w:World}{bp:Nat}{a:Option Addr}{n c at':Nat}{e:F1}{toks:List Tok}
theorem AL{k k':Nat}{s:ByteArray}(h:W3 toks e k=.ok (s,k')):k'=k+1:=by
 unfold W3 at h;split at h
 ·split at h
  ·cases h;rfl
  ·cases h
 ·cases h
theorem s6{most:Int}{k k':Nat}{v:Int}(h:y9 toks e most k=.ok (v,k')):k'=k+1:=by
 unfold y9 at h;split at h
 ·split at h
  ·cases h;rfl
  ·cases h
 ·cases h
theorem S7{α β:Type}{f:α→β}{x:PR α}{y:β}{k:Nat}(h:HU f x=.ok (y,k)):∃z,x=.ok (z,k)∧y=f z:=by
 cases x with
 | error q=>cases h
 | ok q=>
  obtain⟨z,k'⟩:=q;cases h
  exact⟨z,rfl,rfl⟩
theorem DC{k k':Nat}{o:K0}(h:Fe toks e k=.ok (o,k')):k<k':=by
 unfold Fe at h;split at h
 ·obtain⟨z,hz,-⟩:=S7 h
  have:=AL hz
  omega
 ·split at h
  ·split at h
   ·cases h
   ·cases h;omega
  ·obtain⟨z,hz,-⟩:=S7 h
   unfold CU at hz;split at hz
   ·obtain⟨z2,hz2,-⟩:=S7 hz
    have:=s6 hz2
    omega
   ·obtain⟨z2,hz2,-⟩:=S7 hz
    have:=s6 hz2
    omega
theorem PO{k k':Nat}{o:K0}(h:Fe toks e k=.ok (o,k')):k'≤toks.length:=by
 have num:∀ {most:Int} {j j':Nat} {v:Int},y9 toks e most j=.ok (v,j')→j'≤toks.length:=fun {most j j' v} h=>by
  have h1:=s6 h
  unfold y9 at h;split at h
  ·rename_i hk
   have:=u9 (toks:=toks) (at':=j) (by omega)
   omega
  ·cases h
 unfold Fe at h;split at h
 ·rename_i hk
  obtain⟨z,hz,-⟩:=S7 h
  have h1:=AL hz
  have:=u9 (toks:=toks) (at':=k) (by omega)
  omega
 ·split at h
  ·rename_i hk
   split at h
   ·cases h
   ·cases h
    have:=u9 (toks:=toks) (at':=k) (by omega)
    omega
  ·obtain⟨z,hz,-⟩:=S7 h
   unfold CU at hz;split at hz
   ·obtain⟨z2,hz2,-⟩:=S7 hz
    exact num hz2
   ·obtain⟨z2,hz2,-⟩:=S7 hz
    exact num hz2
theorem Qq{k:Nat}(h:opAt toks k≠0):k<toks.length:=by
 by_cases hk:k<toks.length
 ·exact hk
 ·refine absurd ?_ h
  have hf:∀t,L5 toks k 4 t=false:=fun t=>by
   cases hi:L5 toks k 4 t with
   | true=>exact absurd (Z0 (by decide) hi) hk
   | false=>rfl
  unfold opAt;simp[hf]
theorem Fz{S:List A7}{w:World}(hw:Wd Γ S w):Calls Tryz.prog 149 #[] w fun r w'=>∃q:Addr,r=.returned (.slice (some q) 7 7)∧Wd Γ (.own (.slice (some q) 7 7) 9 1 (j0.map fun s=>[.string s])::S) w':=by
 refine A3 Tryz.func149 rfl rfl ?_
 refine A4 ?_;refine D7 (j0.map fun s=>[.string s]) ?_
 intro q w hw;refine A4 ?_;exact⟨_,rfl,q,rfl,hw⟩
def Em(toks:List Tok)(k:Nat):Nat→Nat
 | 0=>0
 | j+1=>if Em toks k j≠0 then Em toks k j else if 0<j∧L5 toks k 4 (j0.getD j D8)=true then j else 0
theorem Nf{k:Nat}:Em toks k 7=opAt toks k:=by
 have g0:j0.getD 1 D8=Tb:=rfl
 have g1:j0.getD 2 D8=UR:=rfl
 have g2:j0.getD 3 D8=UT:=rfl
 have g3:j0.getD 4 D8=UI:=rfl
 have g4:j0.getD 5 D8=UL:=rfl
 have g5:j0.getD 6 D8=UJ:=rfl
 simp only[Em,opAt,g0,g1,g2,g3,g4,g5]
 cases L5 toks k 4 Tb <;> cases L5 toks k 4 UR <;> cases L5 toks k 4 UT <;> cases L5 toks k 4 UI <;> cases L5 toks k 4 UL <;> cases L5 toks k 4 UJ <;> simp
theorem LN(hW:EE toks)(hat:at'≤n)(hN:toks.length≤1000000)(ht:D3 Γ (.slice a n c) 5 (toks.map enc))(hw:Wd Γ (B9 bp a n c at' e.Line e.Col::S) w) :
  Calls Tryz.prog 96 #[.pointer (some ⟨bp,0,none⟩)] w (Qf Γ S bp a n c e (X3 toks e at')):=by
 have hn:n=toks.length:=by obtain⟨_,_,_,h1,h2,h3⟩:=ht.shape;cases h1;simpa using h2
 refine F8 Tryz.func96 rfl rfl ?_
 refine A4 ?_;refine B2 ?_;intro b2 w hw;refine A4 ?_;refine B2 ?_;intro b3 w hw;refine B0 ?_;intro w hw;have hw:Wd Γ (B9 bp a n c at' e.Line e.Col::.blk b3 (.cells (cG ⟨RD D8 [],none,0,0⟩).toArray 127)::.blk b2 (.cells (cG ⟨⟨0,D8,[],0,F6,F6,0,0,0⟩,none,0,0⟩).toArray 127)::S) w:=hw.ps [2]
 refine A4 ?_;refine C5 (vs:=[.pointer (some ⟨bp,0,none⟩),.int .i64 1,.string X7]) ?_
 refine(R9 1 X7 hat hN ht hw).mono ?_
 clear hw;rintro r w ⟨rfl,hw⟩
 refine⟨_,rfl,?_⟩;refine A4 ?_;refine Gz (fun ρ w=>Has ρ [(0,.pointer (some ⟨bp,0,none⟩)),(2,.pointer (some ⟨b2,0,none⟩)),(3,.pointer (some ⟨b3,0,none⟩))]∧Wd Γ (B9 bp a n c (if L5 toks at' 1 X7=true then at'+1 else at') e.Line e.Col::.blk b3 (.cells (cG ⟨⟨if L5 toks at' 1 X7=true then 2 else 1,D8,[],0,F6,F6,0,0,0⟩,none,0,0⟩).toArray 127)::.blk b2 (.cells (cG ⟨⟨0,D8,[],0,F6,F6,0,0,0⟩,none,0,0⟩).toArray 127)::S) w) ?_ ?_
 ·refine A0 rfl (fun h=>?_) (fun h=>?_)
  ·have hwq:Wd Γ (B9 bp a n c (if L5 toks at' 1 X7=true then at'+1 else at') e.Line e.Col::.blk b3 (.cells (cG ⟨RD D8 [],none,0,0⟩).toArray 127)::.blk b2 (.cells (cG ⟨⟨0,D8,[],0,F6,F6,0,0,0⟩,none,0,0⟩).toArray 127)::S) w:=hw
   clear hw;have hw:=hwq
   clear hwq;rw[h]at hw ⊢
   simp only[if_true]at hw ⊢
   refine A4 ?_;refine B0 (i:=1) ?_
   intro w hw;have hw:Wd Γ (B9 bp a n c (at'+1) e.Line e.Col::.blk b3 (.cells (cG ⟨⟨2,D8,[],0,F6,F6,0,0,0⟩,none,0,0⟩).toArray 127)::.blk b2 (.cells (cG ⟨⟨0,D8,[],0,F6,F6,0,0,0⟩,none,0,0⟩).toArray 127)::S) w:=hw
   refine A4 ?_;exact⟨⟨rfl,rfl,rfl,trivial⟩,hw⟩
  ·rw[h]at hw ⊢
   refine A4 ?_;exact⟨⟨rfl,rfl,rfl,trivial⟩,hw⟩
 clear hw;rintro ρ w ⟨hρ,hw⟩
 rw[hρ.eq];clear hρ;have hk1:(if L5 toks at' 1 X7=true then at'+1 else at')≤n:=by
  split
  ·rename_i h;have:=Z0 (by decide) h;omega
  ·exact hat
 refine W7 ?_
 refine Ba (fun ρ w=>Has ρ [(0,.pointer (some ⟨bp,0,none⟩)),(2,.pointer (some ⟨b2,0,none⟩)),(3,.pointer (some ⟨b3,0,none⟩)),(23,.bool (L5 toks at' 1 X7||(decide ((K8 toks at').Kind=1)&&L5 toks (at'+1) 4 Y6)))]∧Wd Γ (B9 bp a n c (if L5 toks at' 1 X7=true then at'+1 else at') e.Line e.Col::.blk b3 (.cells (cG ⟨⟨if L5 toks at' 1 X7=true then 2 else 1,D8,[],0,F6,F6,0,0,0⟩,none,0,0⟩).toArray 127)::.blk b2 (.cells (cG ⟨⟨0,D8,[],0,F6,F6,0,0,0⟩,none,0,0⟩).toArray 127)::S) w) ?_ ?_
 ·cases hi:L5 toks at' 1 X7 with
  | true=>
   rw[hi]at hw;simp only[if_true]at hw ⊢
   refine A4 ?_;refine JK ?_ (hct:=by decide)
   refine JK ?_ (hct:=by decide)
   refine JK ?_ (hct:=by decide)
   refine JK ?_ (hct:=by decide)
   repeat(first|(first|refine W7 ?_|refine i5 ?_|refine P5 ?_|refine k0 ?_|refine Dl ?_|refine Am ?_)|((first|apply FD|apply v7);first|(refine lT ?_ ?_;(first|exact rfl|exact decide_eq_true rfl|exact hb1|exact hb2|exact hb3|exact hb4|(focus (simp;done))))|(refine lF ?_ ?_;(first|exact rfl|exact decide_eq_true rfl|exact hb1|exact hb2|exact hb3|exact hb4|(focus (simp;done)))))|(first|refine U5 ?_|(apply X9;first|(apply y8;first|refine lP ?_|(refine PN ?_;intro w hw))|(apply Ij;refine T7 ?_)|refine lY ?_)|(apply N9;first|refine Jg ?_ (hct:=rfl)|refine JK ?_ (hct:=rfl)|(apply y8;first|refine Rl ?_|(refine Hb ?_;intro w hw))|refine lG ?_))|(refine B2 ?_;intro _ w hw)|(refine E5 ?_;intro _ w hw)|(refine B0 ?_;intro w hw)|(apply N9;refine JK ?_ (hc:=by exact E8.u) (hct:=rfl)))
   exact⟨⟨rfl,rfl,rfl,rfl,trivial⟩,hw⟩
  | false=>
   rw[hi]at hw;have hw:Wd Γ (B9 bp a n c at' e.Line e.Col::.blk b3 (.cells (cG ⟨RD D8 [],none,0,0⟩).toArray 127)::.blk b2 (.cells (cG ⟨⟨0,D8,[],0,F6,F6,0,0,0⟩,none,0,0⟩).toArray 127)::S) w:=hw
   refine A4 ?_;refine Jg (hct:=by decide) ?_
   refine C5 (vs:=[.pointer (some ⟨bp,0,none⟩),.int .i64 0]) ?_ (ha:=EvL.cons (FO (by decide)) (EvL.cons rfl EvL.nil))
   refine(Ao (j:=0) (by decide) hat hN ht hw).mono ?_
   clear hw;rintro r w ⟨rfl,hw⟩
   rw[Nat.add_zero];refine⟨_,rfl,?_⟩;refine A4 ?_;refine lG ?_ (hv:=by intro hc;exact Iq Tryz.underlying178 rfl (by kernel_rfl) rfl rfl)
   refine A4 ?_;by_cases hk:(K8 toks at').Kind=1
   ·have hkc:(!decide ((1:Int)=2)&&decide ((K8 toks at').Kind=1))=true:=by rw[decide_eq_true hk];decide
    refine Jg (hct:=hkc) ?_
    refine C5 (vs:=[.pointer (some ⟨bp,0,none⟩),.int .i64 1,.int .i64 4,.string Y6]) ?_ (ha:=EvL.cons (FO hkc) (EvL.cons rfl (EvL.cons rfl (EvL.cons rfl EvL.nil))))
    refine(Sv (j:=1) (by decide) 4 Y6 hat hN ht hw).mono ?_
    clear hw;rintro r w ⟨rfl,hw⟩
    refine⟨_,rfl,?_⟩;generalize L5 toks (at'+1) 4 Y6=bl
    refine A4 ?_;refine Jg (hct:=by decide) ?_
    refine lY (v:=.bool bl) ?_ (hy:=Ar ((FO (by decide)).trans (by rw[decide_eq_true hk])) rfl)
    refine lY (v:=.bool bl) ?_ (hy:=v6 (congrArg Value.bool (by decide)) rfl)
    refine A4 ?_;rw[decide_eq_true hk];exact⟨⟨rfl,rfl,rfl,rfl,trivial⟩,hw⟩
   ·have hkc:(!decide ((1:Int)=2)&&decide ((K8 toks at').Kind=1))=false:=by rw[decide_eq_false hk];decide
    refine JK (hct:=hkc) ?_
    refine Jg (hct:=by decide) ?_
    refine lY (v:=.bool false) ?_ (hy:=v6 ((FO (by decide)).trans (by rw[decide_eq_false hk])) rfl)
    refine lY (v:=.bool false) ?_ (hy:=v6 (congrArg Value.bool (by decide)) rfl)
    refine A4 ?_;rw[decide_eq_false hk];exact⟨⟨rfl,rfl,rfl,rfl,trivial⟩,hw⟩
 clear hw;rintro ρ w ⟨hρ,hw⟩
 rw[hρ.eq];clear hρ;have hopl:=fun k o k'=>DC (toks:=toks) (e:=e) (k:=k) (o:=o) (k':=k')
 refine A0 rfl (fun h=>?_) (fun h=>?_)
 ·obtain⟨kd,hkd⟩:∃kd:Int,kd=if L5 toks at' 1 X7=true then 2 else 1:=⟨_,rfl⟩
  obtain⟨k1,hk1d⟩:∃k1,k1=if L5 toks at' 1 X7=true then at'+1 else at':=⟨_,rfl⟩
  have hG:X3 toks e at'=HA toks e kd k1:=by
   unfold X3;rw[hkd,hk1d];cases hi:L5 toks at' 1 X7 with
   | true=>simp
   | false=>
    rw[hi,Bool.false_or,Bool.and_eq_true,decide_eq_true_eq]at h;rw[if_neg (by decide),if_pos h,if_neg (by decide),if_neg (by decide)]
  rw[←hk1d]at hk1;rw[←hk1d,←hkd]at hw;rw[hG];clear h hG hkd hk1d;unfold HA;refine A4 ?_;refine H0 (vs:=[.pointer (some ⟨bp,0,none⟩)]) ?_
  refine(GF hk1 hN ht hw).mono ?_
  clear hw;rintro r w hr
  cases hWd:W3 toks e k1 with
  | error q=>
   obtain⟨p,er⟩:=q;rw[hWd]at hr;obtain⟨rfl,k,hw⟩:=hr;exact⟨rfl,k,(hw.dropAt 1).dropAt 1⟩
  | ok q=>
  obtain⟨s,k2⟩:=q;rw[hWd]at hr;obtain⟨rfl,hk2,hw⟩:=hr;show L _ _ _ _ _ _ _
  simp only[J5]
  refine A4 ?_;refine B0 (i:=1) ?_
  intro w hw;have hw:Wd Γ (B9 bp a n c k2 e.Line e.Col::.blk b3 (.cells (cG ⟨⟨kd,s,[],0,F6,F6,0,0,0⟩,none,0,0⟩).toArray 127)::.blk b2 (.cells (cG ⟨⟨0,D8,[],0,F6,F6,0,0,0⟩,none,0,0⟩).toArray 127)::S) w:=hw
  refine A4 ?_;refine H0 (vs:=[.pointer (some ⟨bp,0,none⟩),.int .i64 4,.string Y6]) ?_
  refine(Ck 4 Y6 (by decide) hk2 hN ht hw).mono ?_
  clear hw;rintro r w hr
  cases hE:z1 toks e 4 Y6 k2 with
  | error q=>
   obtain⟨p,er⟩:=q;rw[hE]at hr;obtain⟨rfl,k,hw⟩:=hr;exact⟨rfl,k,(hw.dropAt 1).dropAt 1⟩
  | ok q=>
  obtain⟨_,k3⟩:=q;rw[hE]at hr;obtain⟨rfl,hk9,hw⟩:=hr;show L _ _ _ _ _ _ _
  simp only[J5]
  refine A4 ?_;have hw:=Wd.addNil (a:=none) (E:=125) (sz:=4) hw
  have hw:Wd Γ (.own (.slice none 0 0) 125 4 (([]:List K0).map enc)::B9 bp a n c k3 e.Line e.Col::.blk b3 (.cells (cG ⟨⟨kd,s,[],0,F6,F6,0,0,0⟩,none,0,0⟩).toArray 127)::.blk b2 (.cells (cG ⟨⟨0,D8,[],0,F6,F6,0,0,0⟩,none,0,0⟩).toArray 127)::S) w:=hw
  cases hO:Fe toks e k3 with
  | error q=>
   obtain⟨p,er⟩:=q;refine BD (fun ch w=>ch=[x7 p er]∧∃k,Wd Γ (B9 bp a n c k e.Line e.Col::S) w) [.blk b2 (.cells (cG ⟨⟨0,D8,[],0,F6,F6,0,0,0⟩,none,0,0⟩).toArray 127)] [.blk b3 (.cells (cG ⟨(⟨kd,s,[],0,F6,F6,0,0,0⟩:F5),none,0,0⟩).toArray 127)] (.own (.slice none 0 0) 125 4 (([]:List K0).map enc)::B9 bp a n c k3 e.Line e.Col::S) [] [32,33,34] [] [[],[],[],[1],[1],[1],[],[0,1]] [[],[0],[],[1],[1],[1],[],[0,1]] (by rw[List.append_nil];exact hw.ps [2,3]) (fun ch ρ w ⟨h1,h2⟩=>by subst h1;exact⟨rfl,h2⟩) ?_
   refine eY ?_
   refine eY ?_
   refine eY ?_
   refine GZ (c:=1) (T:=Unit) (T':=Empty) (vs:=[.pointer (some ⟨bp,0,none⟩)]) (fun t=>t.elim) (fun t=>t.elim) (φ:=fun _ _=>True) (R:=fun _=>.own (.slice none 0 0) 125 4 (([]:List K0).map enc)::B9 bp a n c k3 e.Line e.Col::S) (fun _ Y w hw=>(m4 hW hk9 hN ht (hw.ps [1]:Wd Γ (B9 bp a n c k3 e.Line e.Col::(.own (.slice none 0 0) 125 4 (([]:List K0).map enc)::(S++Y))) w)).mono fun r w h=>?_) ?_
   ·rw[hO]at h;obtain⟨rfl,k,hw⟩:=h;have hw:Wd Γ (B9 bp a n c k e.Line e.Col::(.own (.slice none 0 0) 125 4 (([]:List K0).map enc)::(S++Y))) w:=hw
    exact⟨rfl,k,Wd.left (S:=B9 bp a n c k e.Line e.Col::S) (hw.dropAt 1)⟩
   refine Hh (c:=1) ?_
   refine Hh (c:=1) ?_
   refine eY ?_
   refine Hh (c:=1) ?_
   exact DJ (c:=1)
  | ok q=>
  obtain⟨o,k9⟩:=q;refine Cy [.blk b2 (.cells (cG ⟨⟨0,D8,[],0,F6,F6,0,0,0⟩,none,0,0⟩).toArray 127)] [.blk b3 (.cells (cG ⟨(⟨kd,s,[],0,F6,F6,0,0,0⟩:F5),none,0,0⟩).toArray 127)] (.own (.slice none 0 0) 125 4 (([]:List K0).map enc)::B9 bp a n c k3 e.Line e.Col::S) [] [32,33,34] [] [[],[],[],[1],[1],[1],[],[0,1]] [[],[0],[],[1],[1],[1],[],[0,1]] (by rw[List.append_nil];exact hw.ps [2,3]) ?_
  repeat(first|refine mY ?_|refine mP ?_|refine D9 ?_|refine G6 ?_|refine K3 ?_)
  refine DT (c:=1) (T:=Unit) (T':=Unit) (vs:=[.pointer (some ⟨bp,0,none⟩)]) (fun _=>.agg (enc o).toArray) (fun _=>B9 bp a n c k9 e.Line e.Col::.own (.slice none 0 0) 125 4 (([]:List K0).map enc)::S) (R:=fun _=>.own (.slice none 0 0) 125 4 (([]:List K0).map enc)::B9 bp a n c k3 e.Line e.Col::S) (fun _ Y w hw=>(m4 hW hk9 hN ht (hw.ps [1]:Wd Γ (B9 bp a n c k3 e.Line e.Col::(.own (.slice none 0 0) 125 4 (([]:List K0).map enc)::(S++Y))) w)).mono fun r w h=>by rw[hO]at h;exact⟨(),h.1,h.2.2⟩) ?_
  refine As (T:=Unit) (fun _=>[enc o]) ?_ ?_
  rotate_left
  ·intro t g h;have h2:g 32=.agg (enc o).toArray:=h
   show W4 _ _ [(0,g 32)]=_
   rw[h2];rfl
  refine GQ (T:=Unit×Addr) (j:=2) (j2:=0) (fun t=>some t.2) (fun _=>[enc o]) ?_ ?_
  rotate_left
  ·intro t g h;exact h.2
  refine i9 ?_;refine DV (T:=(Unit×Addr)×Value) (j:=2) (val:=fun t=>t.2) ?_ ?_
  rotate_left
  ·intro t g h;exact h.2
  refine Gq fun t w g h hw=>?_
  obtain⟨⟨⟨⟩,aB⟩,vv⟩:=t;have hw:Wd Γ (.blk b3 (.cells #[.int .i64 kd,.string s,vv,.int .i64 0,.string D8,.int .i64 0,.int .i64 0,.string D8,.string D8,.int .i64 0,.int .i64 0,.string D8,.int .i64 0,.int .i64 0,.int .i64 0] 127)::.own (.slice (some aB) 1 1) 125 4 [enc o]::B9 bp a n c k9 e.Line e.Col::.own vv 125 4 (([]:List K0).map enc++[enc o])::(S++[.blk b2 (.cells (cG ⟨⟨0,D8,[],0,F6,F6,0,0,0⟩,none,0,0⟩).toArray 127)])) w:=hw
  obtain⟨A2,N2,C2,hvv,hN2,hNC2,hC2⟩:=hw.own_shape (i:=3) rfl
  rw[hvv]at hw;rw[show ([]:List K0).map enc++[enc o]=(([]:List K0)++[o]).map enc from by rw[List.map_append];rfl]at hw hN2
  have hw:Wd Γ (.blk b2 (.cells (cG ⟨⟨0,D8,[],0,F6,F6,0,0,0⟩,none,0,0⟩).toArray 127)::.blk b3 (.cells (cG ⟨(⟨kd,s,([]++[o]),0,F6,F6,0,0,0⟩:F5),A2,N2,C2⟩).toArray 127)::B9 bp a n c k9 e.Line e.Col::.own (.slice A2 N2 C2) 125 4 ((([]:List K0)++[o]).map enc)::S) w:=(hw.dropAt 1).perm M8
  have hw:Wd Γ (.own (.slice A2 N2 C2) 125 4 ((([]:List K0)++[o]).map enc)::B9 bp a n c k9 e.Line e.Col::.blk b3 (.cells (cG ⟨(⟨kd,s,([]++[o]),0,F6,F6,0,0,0⟩:F5),A2,N2,C2⟩).toArray 127)::.blk b2 (.cells (cG ⟨⟨0,D8,[],0,F6,F6,0,0,0⟩,none,0,0⟩).toArray 127)::S) w:=hw.ps [1,2,3]
  have hk9':k9≤n:=by rw[hn];exact PO hO
  simp only[J5]
  obtain⟨tot,htot⟩:∃t,t=AI toks e (toks.length+1) [o] k9:=⟨_,rfl⟩
  rw[←htot];have hw:Wd Γ (.own (.slice A2 N2 C2) 125 4 (([o]:List K0).map enc)::B9 bp a n c k9 e.Line e.Col::.blk b3 (.cells (cG ⟨⟨kd,s,[o],0,F6,F6,0,0,0⟩,A2,N2,C2⟩).toArray 127)::.blk b2 (.cells (cG ⟨⟨0,D8,[],0,F6,F6,0,0,0⟩,none,0,0⟩).toArray 127)::S) w:=hw
  refine A4 ?_;refine C8 (fun μ ρ w=>∃(f:Nat) (acc:List K0) (k:Nat) (A:Option Addr) (N C:Nat),AI toks e f acc k=tot∧μ=n-k∧k≤n∧n<f+k∧acc.length≤1+k∧Has ρ [(0,.pointer (some ⟨bp,0,none⟩)),(2,.pointer (some ⟨b2,0,none⟩)),(3,.pointer (some ⟨b3,0,none⟩))]∧Wd Γ (.own (.slice A N C) 125 4 ((acc:List K0).map enc)::B9 bp a n c k e.Line e.Col::.blk b3 (.cells (cG ⟨⟨kd,s,acc,0,F6,F6,0,0,0⟩,A,N,C⟩).toArray 127)::.blk b2 (.cells (cG ⟨⟨0,D8,[],0,F6,F6,0,0,0⟩,none,0,0⟩).toArray 127)::S) w) (n-k9) ⟨toks.length+1,[o],k9,A2,N2,C2,htot.symm,rfl,hk9',by omega,by simp,⟨rfl,rfl,rfl,trivial⟩,hw⟩ ?_
  clear hw hO hk9;rintro μ ρ w ⟨f,acc,k,A,N,C,hf,hμ,hkn,hfk,hal,hρ,hw⟩
  rw[hρ.eq];clear hρ;have hNl:N=acc.length:=by
   obtain⟨_,_,_,hE,h2,-,-⟩:=hw.own_shape (i:=0) rfl
   cases hE
   simpa using h2
  obtain⟨f',rfl⟩:∃f',f=f'+1:=⟨f-1,by omega⟩
  unfold AI at hf;refine A4 ?_;refine C5 (vs:=[.pointer (some ⟨bp,0,none⟩),.int .i64 4,.string O2]) ?_
  refine(R9 (S:=.own (.slice A N C) 125 4 ((acc:List K0).map enc)::.blk b3 (.cells (cG ⟨⟨kd,s,acc,0,F6,F6,0,0,0⟩,A,N,C⟩).toArray 127)::.blk b2 (.cells (cG ⟨⟨0,D8,[],0,F6,F6,0,0,0⟩,none,0,0⟩).toArray 127)::S) 4 O2 hkn hN ht (hw.ps [1])).mono ?_
  clear hw;rintro r w ⟨rfl,hw⟩
  refine⟨_,rfl,?_⟩;cases hi:L5 toks k 4 O2 with
  | true=>
   have hlt:=Z0 (by decide) hi
   rw[hi,if_pos rfl]at hw hf
   have hk9:k+1≤n:=by omega
   have hw:Wd Γ (.own (.slice A N C) 125 4 ((acc:List K0).map enc)::B9 bp a n c (k+1) e.Line e.Col::.blk b3 (.cells (cG ⟨⟨kd,s,acc,0,F6,F6,0,0,0⟩,A,N,C⟩).toArray 127)::.blk b2 (.cells (cG ⟨⟨0,D8,[],0,F6,F6,0,0,0⟩,none,0,0⟩).toArray 127)::S) w:=hw.ps [1]
   refine A4 ?_;refine A0 rfl (fun _=>?_) (fun h=>by cases h)
   refine A4 ?_;cases hO:Fe toks e (k+1) with
   | error q=>
    obtain⟨p,er⟩:=q;have htE:tot=.error (p,er):=by rw[←hf,hO];rfl
    rw[htE];simp only[J5]
    refine BD (fun ch w=>ch=[x7 p er]∧∃k,Wd Γ (B9 bp a n c k e.Line e.Col::S) w) [.blk b2 (.cells (cG ⟨⟨0,D8,[],0,F6,F6,0,0,0⟩,none,0,0⟩).toArray 127)] [.blk b3 (.cells (cG ⟨(⟨kd,s,acc,0,F6,F6,0,0,0⟩:F5),A,N,C⟩).toArray 127)] (.own (.slice A N C) 125 4 ((acc:List K0).map enc)::B9 bp a n c (k+1) e.Line e.Col::S) [] [41,42,43] [] [[],[],[],[1],[1],[1],[],[0,1]] [[],[0],[],[1],[1],[1],[],[0,1]] (by rw[List.append_nil];exact hw.ps [2,3]) (fun ch ρ w ⟨h1,h2⟩=>by subst h1;exact⟨rfl,h2⟩) ?_
    refine eY ?_
    refine eY ?_
    refine eY ?_
    refine GZ (c:=1) (T:=Unit) (T':=Empty) (vs:=[.pointer (some ⟨bp,0,none⟩)]) (fun t=>t.elim) (fun t=>t.elim) (φ:=fun _ _=>True) (R:=fun _=>.own (.slice A N C) 125 4 ((acc:List K0).map enc)::B9 bp a n c (k+1) e.Line e.Col::S) (fun _ Y w hw=>(m4 hW hk9 hN ht (hw.ps [1]:Wd Γ (B9 bp a n c (k+1) e.Line e.Col::(.own (.slice A N C) 125 4 ((acc:List K0).map enc)::(S++Y))) w)).mono fun r w h=>?_) ?_
    ·rw[hO]at h;obtain⟨rfl,k,hw⟩:=h;have hw:Wd Γ (B9 bp a n c k e.Line e.Col::(.own (.slice A N C) 125 4 ((acc:List K0).map enc)::(S++Y))) w:=hw
     exact⟨rfl,k,Wd.left (S:=B9 bp a n c k e.Line e.Col::S) (hw.dropAt 1)⟩
    refine Hh (c:=1) ?_
    refine Hh (c:=1) ?_
    refine eY ?_
    refine Hh (c:=1) ?_
    exact DJ (c:=1)
   | ok q=>
   obtain⟨o,k9⟩:=q;have hk9':k9≤n:=by rw[hn];exact PO hO
   have hk9l:=DC hO
   refine Cy [.blk b2 (.cells (cG ⟨⟨0,D8,[],0,F6,F6,0,0,0⟩,none,0,0⟩).toArray 127)] [.blk b3 (.cells (cG ⟨(⟨kd,s,acc,0,F6,F6,0,0,0⟩:F5),A,N,C⟩).toArray 127)] (.own (.slice A N C) 125 4 ((acc:List K0).map enc)::B9 bp a n c (k+1) e.Line e.Col::S) [] [41,42,43] [] [[],[],[],[1],[1],[1],[],[0,1]] [[],[0],[],[1],[1],[1],[],[0,1]] (by rw[List.append_nil];exact hw.ps [2,3]) ?_
   repeat(first|refine mY ?_|refine mP ?_|refine D9 ?_|refine G6 ?_|refine K3 ?_)
   refine DT (c:=1) (T:=Unit) (T':=Unit) (vs:=[.pointer (some ⟨bp,0,none⟩)]) (fun _=>.agg (enc o).toArray) (fun _=>B9 bp a n c k9 e.Line e.Col::.own (.slice A N C) 125 4 ((acc:List K0).map enc)::S) (R:=fun _=>.own (.slice A N C) 125 4 ((acc:List K0).map enc)::B9 bp a n c (k+1) e.Line e.Col::S) (fun _ Y w hw=>(m4 hW hk9 hN ht (hw.ps [1]:Wd Γ (B9 bp a n c (k+1) e.Line e.Col::(.own (.slice A N C) 125 4 ((acc:List K0).map enc)::(S++Y))) w)).mono fun r w h=>by rw[hO]at h;exact⟨(),h.1,h.2.2⟩) ?_
   refine As (T:=Unit) (fun _=>[enc o]) ?_ ?_
   rotate_left
   ·intro t g h;have h2:g 41=.agg (enc o).toArray:=h
    show W4 _ _ [(0,g 41)]=_
    rw[h2];rfl
   refine GQ (T:=Unit×Addr) (j:=2) (j2:=0) (fun t=>some t.2) (fun _=>[enc o]) ?_ ?_
   rotate_left
   ·intro t g h;exact h.2
   refine i9 ?_;refine DV (T:=(Unit×Addr)×Value) (j:=2) (val:=fun t=>t.2) ?_ ?_
   rotate_left
   ·intro t g h;exact h.2
   refine Gq fun t w g h hw=>?_
   obtain⟨⟨⟨⟩,aB⟩,vv⟩:=t;have hw:Wd Γ (.blk b3 (.cells #[.int .i64 kd,.string s,vv,.int .i64 0,.string D8,.int .i64 0,.int .i64 0,.string D8,.string D8,.int .i64 0,.int .i64 0,.string D8,.int .i64 0,.int .i64 0,.int .i64 0] 127)::.own (.slice (some aB) 1 1) 125 4 [enc o]::B9 bp a n c k9 e.Line e.Col::.own vv 125 4 ((acc:List K0).map enc++[enc o])::(S++[.blk b2 (.cells (cG ⟨⟨0,D8,[],0,F6,F6,0,0,0⟩,none,0,0⟩).toArray 127)])) w:=hw
   obtain⟨A2,N2,C2,hvv,hN2,hNC2,hC2⟩:=hw.own_shape (i:=3) rfl
   rw[hvv]at hw;rw[show (acc:List K0).map enc++[enc o]=((acc:List K0)++[o]).map enc from by rw[List.map_append];rfl]at hw hN2
   have hw:Wd Γ (.blk b2 (.cells (cG ⟨⟨0,D8,[],0,F6,F6,0,0,0⟩,none,0,0⟩).toArray 127)::.blk b3 (.cells (cG ⟨(⟨kd,s,(acc++[o]),0,F6,F6,0,0,0⟩:F5),A2,N2,C2⟩).toArray 127)::B9 bp a n c k9 e.Line e.Col::.own (.slice A2 N2 C2) 125 4 (((acc:List K0)++[o]).map enc)::S) w:=(hw.dropAt 1).perm M8
   have hw:Wd Γ (.own (.slice A2 N2 C2) 125 4 (((acc:List K0)++[o]).map enc)::B9 bp a n c k9 e.Line e.Col::.blk b3 (.cells (cG ⟨(⟨kd,s,(acc++[o]),0,F6,F6,0,0,0⟩:F5),A2,N2,C2⟩).toArray 127)::.blk b2 (.cells (cG ⟨⟨0,D8,[],0,F6,F6,0,0,0⟩,none,0,0⟩).toArray 127)::S) w:=hw.ps [1,2,3]
   refine A4 ?_;exact⟨n-k9,by omega,f',acc++[o],k9,A2,N2,C2,by rw[←hf,hO];rfl,rfl,hk9',by omega,by rw[List.length_append];simp;omega,⟨rfl,rfl,rfl,trivial⟩,hw⟩
  | false=>
   rw[hi,if_neg (by decide)]at hw hf
   rw[←hf];simp only[J5]
   refine A4 ?_;refine A0 rfl (fun h=>by cases h) (fun _=>?_)
   refine A4 ?_;refine H0 (vs:=[.pointer (some ⟨bp,0,none⟩),.int .i64 4,.string IC]) ?_
   refine(Ck 4 IC (by decide) hkn hN ht hw).mono ?_
   clear hw;rintro r w hr
   cases hE:z1 toks e 4 IC k with
   | error q=>
    obtain⟨p,er⟩:=q;rw[hE]at hr;obtain⟨rfl,k,hw⟩:=hr;exact⟨rfl,k,((hw.dropAt 1).dropAt 1).dropAt 1⟩
   | ok q=>
   obtain⟨_,k5⟩:=q;rw[hE]at hr;obtain⟨rfl,hk5,hw⟩:=hr;show L _ _ _ _ _ _ _
   refine A4 ?_;refine B0 (i:=3) ?_
   intro w hw;have hw:Wd Γ (B9 bp a n c k5 e.Line e.Col::.own (.slice A N C) 125 4 ((acc:List K0).map enc)::.blk b3 (.cells (cG ⟨⟨kd,s,acc,0,F6,F6,0,0,0⟩,A,N,C⟩).toArray 127)::.blk b2 (.cells (cG ⟨⟨kd,s,acc,0,F6,F6,0,0,0⟩,A,N,C⟩).toArray 127)::S) w:=hw
   refine A4 ?_;exact⟨[.agg (cG ⟨⟨kd,s,acc,0,F6,F6,0,0,0⟩,A,N,C⟩).toArray],⟨J6 (i:=3) hw rfl rfl rfl,trivial⟩,(A,N,C),rfl,hk5,((hw.ps [1,1]).dropAt 2).dropAt 2 |>.ps [1]⟩
 ·have h:(L5 toks at' 1 X7||(decide ((K8 toks at').Kind=1)&&L5 toks (at'+1) 4 Y6))=false:=h
  obtain⟨hi,hrel⟩:=Bool.or_eq_false_iff.1 h
  have hG:X3 toks e at'=J5 (Fe toks e at') fun l k1=>if (K8 toks at').Kind=1∧L5 toks k1 1 Hi=true then Lh toks e l (k1+1) else Ly toks e l k1:=by
   unfold X3;rw[hi,if_neg (by decide),if_neg (fun⟨h1,h2⟩=>by rw[decide_eq_true h1,h2]at hrel;cases hrel)]
  rw[hG];rw[hi]at hw;have hw:Wd Γ (B9 bp a n c at' e.Line e.Col::.blk b3 (.cells (cG ⟨RD D8 [],none,0,0⟩).toArray 127)::.blk b2 (.cells (cG ⟨⟨0,D8,[],0,F6,F6,0,0,0⟩,none,0,0⟩).toArray 127)::S) w:=hw
  clear h hG hk1 hrel;refine A4 ?_;refine B0 (i:=1) ?_
  intro w hw;have hw:Wd Γ (B9 bp a n c at' e.Line e.Col::.blk b3 (.cells (cG ⟨⟨3,D8,[],0,F6,F6,0,0,0⟩,none,0,0⟩).toArray 127)::.blk b2 (.cells (cG ⟨⟨0,D8,[],0,F6,F6,0,0,0⟩,none,0,0⟩).toArray 127)::S) w:=hw
  refine A4 ?_;refine C5 (vs:=[.pointer (some ⟨bp,0,none⟩),.int .i64 0]) ?_
  refine(Ao (j:=0) (by decide) hat hN ht hw).mono ?_
  clear hw;rintro r w ⟨rfl,hw⟩
  rw[Nat.add_zero];refine⟨_,rfl,?_⟩;refine A4 ?_;refine lY (v:=.int .i64 (K8 toks at').Kind) ?_ (hy:=Iq Tryz.underlying178 rfl (by kernel_rfl) rfl rfl)
  refine A4 ?_;refine H0 (vs:=[.pointer (some ⟨bp,0,none⟩)]) ?_
  refine(m4 hW hat hN ht hw).mono ?_
  clear hw;rintro r w hr
  cases hO:Fe toks e at' with
  | error q=>
   obtain⟨p,er⟩:=q;rw[hO]at hr;obtain⟨rfl,k,hw⟩:=hr;exact⟨rfl,k,(hw.dropAt 1).dropAt 1⟩
  | ok q=>
  obtain⟨l,k1⟩:=q;rw[hO]at hr;obtain⟨rfl,hk1,hw⟩:=hr;show L _ _ _ _ _ _ _
  simp only[J5]
  generalize hkk:(K8 toks at').Kind=kk
  refine A4 ?_;refine B0 (i:=1) ?_
  intro w hw;have hw:Wd Γ (B9 bp a n c k1 e.Line e.Col::.blk b3 (.cells (cG ⟨⟨3,D8,[],0,l,F6,0,0,0⟩,none,0,0⟩).toArray 127)::.blk b2 (.cells (cG ⟨⟨0,D8,[],0,F6,F6,0,0,0⟩,none,0,0⟩).toArray 127)::S) w:=hw
  refine U5 ?_
  refine W7 ?_
  refine Ba (fun ρ w=>Has ρ [(0,.pointer (some ⟨bp,0,none⟩)),(2,.pointer (some ⟨b2,0,none⟩)),(3,.pointer (some ⟨b3,0,none⟩)),(60,.bool (decide (kk=1)&&L5 toks k1 1 Hi))]∧Wd Γ (B9 bp a n c (if kk=1∧L5 toks k1 1 Hi=true then k1+1 else k1) e.Line e.Col::.blk b3 (.cells (cG ⟨⟨3,D8,[],0,l,F6,0,0,0⟩,none,0,0⟩).toArray 127)::.blk b2 (.cells (cG ⟨⟨0,D8,[],0,F6,F6,0,0,0⟩,none,0,0⟩).toArray 127)::S) w) ?_ ?_
  ·by_cases hk:kk=1
   ·refine A4 ?_;refine Jg (hct:=decide_eq_true hk) ?_
    refine C5 (vs:=[.pointer (some ⟨bp,0,none⟩),.int .i64 1,.string Hi]) ?_ (ha:=EvL.cons (FO (decide_eq_true hk)) (EvL.cons rfl (EvL.cons rfl EvL.nil)))
    refine(R9 1 Hi hk1 hN ht hw).mono ?_
    clear hw;rintro r w ⟨rfl,hw⟩
    refine⟨_,rfl,?_⟩;have e1:(kk=1∧L5 toks k1 1 Hi=true)=(L5 toks k1 1 Hi=true):=by simp[hk]
    simp only[e1]
    generalize L5 toks k1 1 Hi=bi at *
    rw[decide_eq_true hk];refine lY (v:=.bool bi) ?_ (hy:=Ar rfl rfl)
    refine A4 ?_;exact⟨⟨rfl,rfl,rfl,rfl,trivial⟩,hw⟩
   ·refine A4 ?_;refine JK (hct:=decide_eq_false hk) ?_
    refine lY (v:=.bool false) ?_ (hy:=v6 (congrArg Value.bool (decide_eq_false hk)) rfl)
    refine A4 ?_;rw[decide_eq_false hk,if_neg (fun h=>hk h.1)];exact⟨⟨rfl,rfl,rfl,rfl,trivial⟩,hw⟩
  clear hw;rintro ρ w ⟨hρ,hw⟩
  rw[hρ.eq];clear hρ;refine A0 rfl (fun h=>?_) (fun h=>?_)
  ·have h:(decide (kk=1)&&L5 toks k1 1 Hi)=true:=h
   rw[Bool.and_eq_true,decide_eq_true_eq]at h;have hlt:=Z0 (by decide) h.2
   rw[if_pos h]at hw ⊢
   have hk2:k1+1≤n:=by omega
   clear h;unfold Lh;refine A4 ?_;refine B0 (i:=1) ?_
   intro w hw;have hw:Wd Γ (B9 bp a n c (k1+1) e.Line e.Col::.blk b3 (.cells (cG ⟨⟨4,D8,[],0,l,F6,0,0,0⟩,none,0,0⟩).toArray 127)::.blk b2 (.cells (cG ⟨⟨0,D8,[],0,F6,F6,0,0,0⟩,none,0,0⟩).toArray 127)::S) w:=hw
   refine A4 ?_;refine H0 (vs:=[.pointer (some ⟨bp,0,none⟩)]) ?_
   refine(Ec hk2 hN ht hw).mono ?_
   clear hw;rintro r w hr
   cases hI:CU toks e (k1+1) with
   | error q=>
    obtain⟨p,er⟩:=q;rw[hI]at hr;obtain⟨rfl,k,hw⟩:=hr;exact⟨rfl,k,(hw.dropAt 1).dropAt 1⟩
   | ok q=>
   obtain⟨lo,k3⟩:=q;rw[hI]at hr;obtain⟨rfl,hk3,hw⟩:=hr;show L _ _ _ _ _ _ _
   simp only[J5]
   refine A4 ?_;refine B0 (i:=1) ?_
   intro w hw;have hw:Wd Γ (B9 bp a n c k3 e.Line e.Col::.blk b3 (.cells (cG ⟨⟨4,D8,[],0,l,F6,0,lo,0⟩,none,0,0⟩).toArray 127)::.blk b2 (.cells (cG ⟨⟨0,D8,[],0,F6,F6,0,0,0⟩,none,0,0⟩).toArray 127)::S) w:=hw
   refine A4 ?_;refine H0 (vs:=[.pointer (some ⟨bp,0,none⟩),.int .i64 4,.string Dj]) ?_
   refine(Ck 4 Dj (by decide) hk3 hN ht hw).mono ?_
   clear hw;rintro r w hr
   cases hE:z1 toks e 4 Dj k3 with
   | error q=>
    obtain⟨p,er⟩:=q;rw[hE]at hr;obtain⟨rfl,k,hw⟩:=hr;exact⟨rfl,k,(hw.dropAt 1).dropAt 1⟩
   | ok q=>
   obtain⟨_,k4⟩:=q;rw[hE]at hr;obtain⟨rfl,hk4,hw⟩:=hr;show L _ _ _ _ _ _ _
   simp only[J5]
   refine A4 ?_;refine H0 (vs:=[.pointer (some ⟨bp,0,none⟩)]) ?_
   refine(Ec hk4 hN ht hw).mono ?_
   clear hw;rintro r w hr
   cases hI2:CU toks e k4 with
   | error q=>
    obtain⟨p,er⟩:=q;rw[hI2]at hr;obtain⟨rfl,k,hw⟩:=hr;exact⟨rfl,k,(hw.dropAt 1).dropAt 1⟩
   | ok q=>
   obtain⟨hi',k5⟩:=q;rw[hI2]at hr;obtain⟨rfl,hk5,hw⟩:=hr;show L _ _ _ _ _ _ _
   simp only[J5]
   refine A4 ?_;refine B0 (i:=1) ?_
   intro w hw;have hw:Wd Γ (B9 bp a n c k5 e.Line e.Col::.blk b3 (.cells (cG ⟨⟨4,D8,[],0,l,F6,0,lo,hi'⟩,none,0,0⟩).toArray 127)::.blk b2 (.cells (cG ⟨⟨0,D8,[],0,F6,F6,0,0,0⟩,none,0,0⟩).toArray 127)::S) w:=hw
   refine A4 ?_;refine B0 (i:=2) ?_
   intro w hw;have hw:Wd Γ (B9 bp a n c k5 e.Line e.Col::.blk b3 (.cells (cG ⟨⟨4,D8,[],0,l,F6,0,lo,hi'⟩,none,0,0⟩).toArray 127)::.blk b2 (.cells (cG ⟨⟨4,D8,[],0,l,F6,0,lo,hi'⟩,none,0,0⟩).toArray 127)::S) w:=hw
   refine A4 ?_;exact⟨[.agg (cG ⟨⟨4,D8,[],0,l,F6,0,lo,hi'⟩,none,0,0⟩).toArray],⟨J6 (i:=2) hw rfl rfl rfl,trivial⟩,(none,0,0),rfl,hk5,Wd.addNil ((hw.dropAt 1).dropAt 1)⟩
  ·have h:(decide (kk=1)&&L5 toks k1 1 Hi)=false:=h
   have hni:¬(kk=1∧L5 toks k1 1 Hi=true):=fun⟨h1,h2⟩=>by rw[decide_eq_true h1,h2]at h;cases h
   rw[if_neg hni]at hw ⊢
   clear h hni;unfold Ly;refine A4 ?_;refine C5 (vs:=[]) ?_
   refine(Fz hw).mono ?_
   clear hw;rintro r w ⟨q,rfl,hw⟩
   refine⟨_,rfl,?_⟩;refine A4 ?_;refine C8 (fun μ ρ w=>∃(j:Nat),μ+j=7∧Has ρ [(0,.pointer (some ⟨bp,0,none⟩)),(2,.pointer (some ⟨b2,0,none⟩)),(3,.pointer (some ⟨b3,0,none⟩)),(71,.slice (some q) 7 7),(72,.int .i64 7),(73,.int .i64 j)]∧Wd Γ (.own (.slice (some q) 7 7) 9 1 (j0.map fun s=>[.string s])::B9 bp a n c (if Em toks k1 j≠0 then k1+1 else k1) e.Line e.Col::.blk b3 (.cells (cG ⟨⟨3,D8,[],(Em toks k1 j:Nat),l,F6,0,0,0⟩,none,0,0⟩).toArray 127)::.blk b2 (.cells (cG ⟨⟨0,D8,[],0,F6,F6,0,0,0⟩,none,0,0⟩).toArray 127)::S) w) 7 ⟨0,by omega,⟨rfl,rfl,rfl,rfl,rfl,rfl,trivial⟩,hw⟩ ?_
   clear hw;rintro μ ρ w ⟨j,hj,hρ,hw⟩
   rw[hρ.eq];clear hρ;have hd:=O9.own (i:=0) hw rfl
   refine A4 ?_;refine A0 rfl (fun h=>?_) (fun h=>?_)
   ·have hj7:j<7:=by have:=of_decide_eq_true h;omega
    clear h;obtain⟨s,hs⟩:=C0 (l:=j0) (k:=j) (by show j<7;omega)
    have hsd:j0.getD j D8=s:=by rw[List.getD_eq_getElem?_getD,hs];rfl
    have hup:Em toks k1 (j+1)=if Em toks k1 j≠0 then Em toks k1 j else if 0<j∧L5 toks k1 4 s=true then j else 0:=by rw[←hsd];rfl
    generalize Em toks k1 j=u at *
    refine A4 ?_;by_cases hc:0<j∧u=0
    ·have hkc:(decide ((0:Int)<(j:Int))&&decide ((u:Int)=0))=true:=by rw[decide_eq_true (by omega),decide_eq_true (by omega)];rfl
     obtain⟨hj0,rfl⟩:=hc;have hw:Wd Γ (.own (.slice (some q) 7 7) 9 1 (j0.map fun s=>[.string s])::B9 bp a n c k1 e.Line e.Col::.blk b3 (.cells (cG ⟨⟨3,D8,[],((0:Nat):Int),l,F6,0,0,0⟩,none,0,0⟩).toArray 127)::.blk b2 (.cells (cG ⟨⟨0,D8,[],0,F6,F6,0,0,0⟩,none,0,0⟩).toArray 127)::S) w:=hw
     have hw:=hw.ps [1]
     refine Jg (hct:=hkc) ?_
     refine C5 (vs:=[.pointer (some ⟨bp,0,none⟩),.int .i64 4,.string s]) ?_ (ha:=EvL.cons (FO hkc) (EvL.cons rfl (EvL.cons (FO hkc) EvL.nil)))
     refine(R9 (S:=.own (.slice (some q) 7 7) 9 1 (j0.map fun s=>[.string s])::.blk b3 (.cells (cG ⟨⟨3,D8,[],((0:Nat):Int),l,F6,0,0,0⟩,none,0,0⟩).toArray 127)::.blk b2 (.cells (cG ⟨⟨0,D8,[],0,F6,F6,0,0,0⟩,none,0,0⟩).toArray 127)::S) 4 s hk1 hN ht hw).mono ?_
     clear hw;rintro r w ⟨rfl,hw⟩
     refine⟨_,rfl,?_⟩;rw[if_neg (by omega)]at hup
     cases hbi:L5 toks k1 4 s with
     | true=>
      rw[hbi,if_pos rfl]at hw;rw[if_pos ⟨hj0,hbi⟩]at hup;refine lY (v:=.bool true) ?_ (hy:=Ar (congrArg Value.bool hkc) rfl)
      refine A4 ?_;refine A0 rfl (fun _=>?_) (fun h=>by cases h)
      refine A4 ?_;refine B0 (i:=2) ?_
      intro w hw;have hw:Wd Γ (B9 bp a n c (k1+1) e.Line e.Col::.own (.slice (some q) 7 7) 9 1 (j0.map fun s=>[.string s])::.blk b3 (.cells (cG ⟨⟨3,D8,[],(j:Int),l,F6,0,0,0⟩,none,0,0⟩).toArray 127)::.blk b2 (.cells (cG ⟨⟨0,D8,[],0,F6,F6,0,0,0⟩,none,0,0⟩).toArray 127)::S) w:=hw
      refine A4 ?_;exact⟨μ-1,by omega,j+1,by omega,⟨rfl,rfl,rfl,rfl,rfl,rfl,trivial⟩,by rw[hup,if_pos (by omega)];exact hw.ps [1]⟩
     | false=>
      rw[hbi,if_neg (by decide)]at hw
      rw[if_neg (fun h=>by rw[hbi]at h;cases h.2)]at hup
      refine lY (v:=.bool false) ?_ (hy:=Ar (congrArg Value.bool hkc) rfl)
      refine A4 ?_;refine A0 rfl (fun h=>by cases h) (fun _=>?_)
      refine A4 ?_;exact⟨μ-1,by omega,j+1,by omega,⟨rfl,rfl,rfl,rfl,rfl,rfl,trivial⟩,by rw[hup,if_neg (by omega)];exact hw.ps [1]⟩
    ·have hkc:(decide ((0:Int)<(j:Int))&&decide ((u:Int)=0))=false:=by
      by_cases h1:0<j
      ·rw[decide_eq_false (show ¬((u:Int)=0) from fun h=>hc ⟨h1,by omega⟩),Bool.and_false]
      ·rw[decide_eq_false (show ¬((0:Int)<(j:Int)) by omega),Bool.false_and]
     have hup2:Em toks k1 (j+1)=u:=by
      rw[hup];by_cases hu:u≠0
      ·rw[if_pos hu]
      ·rw[if_neg hu,if_neg (fun h=>hc ⟨h.1,by omega⟩)];omega
     refine JK (hct:=hkc) ?_
     refine lY (v:=.bool false) ?_ (hy:=v6 (congrArg Value.bool hkc) rfl)
     refine A4 ?_;refine A0 rfl (fun h=>by cases h) (fun _=>?_)
     refine A4 ?_;exact⟨μ-1,by omega,j+1,by omega,⟨rfl,rfl,rfl,rfl,rfl,rfl,trivial⟩,by rw[hup2];exact hw⟩
   ·have hj7:j=7:=by have:=of_decide_eq_false h;omega
    clear h hd;subst hj7;rw[Nf]at hw;have hol:=Qq (toks:=toks) (k:=k1)
    generalize opAt toks k1=u at *
    have hw:=hw.drop
    refine A4 ?_;refine A0 rfl (fun h=>?_) (fun h=>?_)
    ·have h:u=0:=by
      have h2:(u:Int)=0:=of_decide_eq_true h
      omega
     subst h;rw[if_pos rfl];have hw:Wd Γ (B9 bp a n c k1 e.Line e.Col::.blk b3 (.cells (cG ⟨⟨3,D8,[],((0:Nat):Int),l,F6,0,0,0⟩,none,0,0⟩).toArray 127)::.blk b2 (.cells (cG ⟨⟨0,D8,[],0,F6,F6,0,0,0⟩,none,0,0⟩).toArray 127)::S) w:=hw
     refine A4 ?_;refine H0 ?_
     refine(Aa 50 ht hw).mono ?_
     rintro r w ⟨rfl,hw⟩
     exact⟨rfl,k1,(hw.dropAt 1).dropAt 1⟩
    have hu:u≠0:=by
     have h2:¬(u:Int)=0:=of_decide_eq_false h
     omega
    clear h;rw[if_pos hu]at hw;rw[if_neg hu];have hk2:k1+1≤n:=by have:=hol hu;omega
    have hw:Wd Γ (B9 bp a n c (k1+1) e.Line e.Col::.blk b3 (.cells (cG ⟨⟨3,D8,[],(u:Int),l,F6,0,0,0⟩,none,0,0⟩).toArray 127)::.blk b2 (.cells (cG ⟨⟨0,D8,[],0,F6,F6,0,0,0⟩,none,0,0⟩).toArray 127)::S) w:=hw
    refine A4 ?_;refine H0 (vs:=[.pointer (some ⟨bp,0,none⟩)]) ?_
    refine(m4 hW hk2 hN ht hw).mono ?_
    clear hw;rintro r w hr
    cases hR:Fe toks e (k1+1) with
    | error q=>
     obtain⟨p,er⟩:=q;rw[hR]at hr;obtain⟨rfl,k,hw⟩:=hr;exact⟨rfl,k,(hw.dropAt 1).dropAt 1⟩
    | ok q=>
    obtain⟨rr,k3⟩:=q;rw[hR]at hr;obtain⟨rfl,hk3,hw⟩:=hr;show L _ _ _ _ _ _ _
    simp only[J5]
    refine A4 ?_;refine B0 (i:=1) ?_
    intro w hw;have hw:Wd Γ (B9 bp a n c k3 e.Line e.Col::.blk b3 (.cells (cG ⟨⟨3,D8,[],(u:Int),l,rr,0,0,0⟩,none,0,0⟩).toArray 127)::.blk b2 (.cells (cG ⟨⟨0,D8,[],0,F6,F6,0,0,0⟩,none,0,0⟩).toArray 127)::S) w:=hw
    unfold Lj;refine A4 ?_;refine C5 (vs:=[.pointer (some ⟨bp,0,none⟩),.int .i64 4,.string Gc]) ?_
    refine(R9 4 Gc hk3 hN ht hw).mono ?_
    clear hw;rintro r w ⟨rfl,hw⟩
    refine⟨_,rfl,?_⟩;cases hp:L5 toks k3 4 Gc with
    | true=>
     have hlt:=Z0 (by decide) hp
     rw[hp,if_pos rfl]at hw;rw[if_pos rfl];refine A4 ?_;refine A0 rfl (fun _=>?_) (fun h=>by cases h)
     refine A4 ?_;refine H0 (vs:=[.pointer (some ⟨bp,0,none⟩),.int .u64 9223372036854775807]) ?_
     refine(EM (at':=k3+1) 9223372036854775807 (by omega) hN ht hw).mono ?_
     clear hw;rintro r w hr
     cases hN2:y9 toks e 9223372036854775807 (k3+1) with
     | error q=>
      obtain⟨p,er⟩:=q;rw[hN2]at hr;obtain⟨rfl,k,hw⟩:=hr;exact⟨rfl,k,(hw.dropAt 1).dropAt 1⟩
     | ok q=>
     obtain⟨x,k4⟩:=q;rw[hN2]at hr;obtain⟨rfl,hk4,hw⟩:=hr;show L _ _ _ _ _ _ _
     simp only[HU]
     refine A4 ?_;refine B0 (i:=1) ?_
     intro w hw;have hw:Wd Γ (B9 bp a n c k4 e.Line e.Col::.blk b3 (.cells (cG ⟨⟨3,D8,[],(u:Int),l,rr,(IntKind.i64.wrap x),0,0⟩,none,0,0⟩).toArray 127)::.blk b2 (.cells (cG ⟨⟨0,D8,[],0,F6,F6,0,0,0⟩,none,0,0⟩).toArray 127)::S) w:=hw
     refine A4 ?_;refine B0 (i:=2) ?_
     intro w hw;have hw:Wd Γ (B9 bp a n c k4 e.Line e.Col::.blk b3 (.cells (cG ⟨⟨3,D8,[],(u:Int),l,rr,(IntKind.i64.wrap x),0,0⟩,none,0,0⟩).toArray 127)::.blk b2 (.cells (cG ⟨⟨3,D8,[],(u:Int),l,rr,(IntKind.i64.wrap x),0,0⟩,none,0,0⟩).toArray 127)::S) w:=hw
     refine A4 ?_;exact⟨[.agg (cG ⟨⟨3,D8,[],(u:Int),l,rr,(IntKind.i64.wrap x),0,0⟩,none,0,0⟩).toArray],⟨J6 (i:=2) hw rfl rfl rfl,trivial⟩,(none,0,0),rfl,hk4,Wd.addNil ((hw.dropAt 1).dropAt 1)⟩
    | false=>
     rw[hp,if_neg (by decide)]at hw
     rw[if_neg (by decide)]
     refine A4 ?_;refine A0 rfl (fun h=>by cases h) (fun _=>?_)
     refine A4 ?_;refine C5 (vs:=[.pointer (some ⟨bp,0,none⟩),.int .i64 4,.string AS]) ?_
     refine(R9 4 AS hk3 hN ht hw).mono ?_
     clear hw;rintro r w ⟨rfl,hw⟩
     refine⟨_,rfl,?_⟩;cases hm:L5 toks k3 4 AS with
     | true=>
      have hlt:=Z0 (by decide) hm
      rw[hm,if_pos rfl]at hw;rw[if_pos rfl];refine A4 ?_;refine A0 rfl (fun _=>?_) (fun h=>by cases h)
      refine A4 ?_;refine H0 (vs:=[.pointer (some ⟨bp,0,none⟩),.int .u64 9223372036854775807]) ?_
      refine(EM (at':=k3+1) 9223372036854775807 (by omega) hN ht hw).mono ?_
      clear hw;rintro r w hr
      cases hN2:y9 toks e 9223372036854775807 (k3+1) with
      | error q=>
       obtain⟨p,er⟩:=q;rw[hN2]at hr;obtain⟨rfl,k,hw⟩:=hr;exact⟨rfl,k,(hw.dropAt 1).dropAt 1⟩
      | ok q=>
      obtain⟨x,k4⟩:=q;rw[hN2]at hr;obtain⟨rfl,hk4,hw⟩:=hr;show L _ _ _ _ _ _ _
      simp only[HU]
      refine A4 ?_;refine lY (v:=.int .i64 (IntKind.i64.wrap (-(IntKind.i64.wrap x)))) ?_ (hy:=Ny rfl)
      refine A4 ?_;refine B0 (i:=1) ?_
      intro w hw;have hw:Wd Γ (B9 bp a n c k4 e.Line e.Col::.blk b3 (.cells (cG ⟨⟨3,D8,[],(u:Int),l,rr,(IntKind.i64.wrap (-(IntKind.i64.wrap x))),0,0⟩,none,0,0⟩).toArray 127)::.blk b2 (.cells (cG ⟨⟨0,D8,[],0,F6,F6,0,0,0⟩,none,0,0⟩).toArray 127)::S) w:=hw
      refine A4 ?_;refine B0 (i:=2) ?_
      intro w hw;have hw:Wd Γ (B9 bp a n c k4 e.Line e.Col::.blk b3 (.cells (cG ⟨⟨3,D8,[],(u:Int),l,rr,(IntKind.i64.wrap (-(IntKind.i64.wrap x))),0,0⟩,none,0,0⟩).toArray 127)::.blk b2 (.cells (cG ⟨⟨3,D8,[],(u:Int),l,rr,(IntKind.i64.wrap (-(IntKind.i64.wrap x))),0,0⟩,none,0,0⟩).toArray 127)::S) w:=hw
      refine A4 ?_;exact⟨[.agg (cG ⟨⟨3,D8,[],(u:Int),l,rr,(IntKind.i64.wrap (-(IntKind.i64.wrap x))),0,0⟩,none,0,0⟩).toArray],⟨J6 (i:=2) hw rfl rfl rfl,trivial⟩,(none,0,0),rfl,hk4,Wd.addNil ((hw.dropAt 1).dropAt 1)⟩
     | false=>
      rw[hm,if_neg (by decide)]at hw
      rw[if_neg (by decide)]
      refine A4 ?_;refine A0 rfl (fun h=>by cases h) (fun _=>?_)
      refine A4 ?_;refine B0 (i:=2) ?_
      intro w hw;have hw:Wd Γ (B9 bp a n c k3 e.Line e.Col::.blk b3 (.cells (cG ⟨⟨3,D8,[],(u:Int),l,rr,0,0,0⟩,none,0,0⟩).toArray 127)::.blk b2 (.cells (cG ⟨⟨3,D8,[],(u:Int),l,rr,0,0,0⟩,none,0,0⟩).toArray 127)::S) w:=hw
      refine A4 ?_;exact⟨[.agg (cG ⟨⟨3,D8,[],(u:Int),l,rr,0,0,0⟩,none,0,0⟩).toArray],⟨J6 (i:=2) hw rfl rfl rfl,trivial⟩,(none,0,0),rfl,hk3,Wd.addNil ((hw.dropAt 1).dropAt 1)⟩
end
end Go.Proofs.YtlimglpjpcfpdaaGreat
end
section
open Go Mk
namespace Go.Proofs.YtlimglpjpcfpdaaGreat
set_option maxHeartbeats 16000000
attribute [local irreducible] Calls cI cB
def HM:ByteArray:=⟨#[115,101,108,101,99,116]⟩
def J4:ByteArray:=⟨#[119,104,101,114,101]⟩
section
variable {Γ:B8}{S:List A7}{w:World}{bp:Nat}{a:Option Addr}{n c:Nat}{e1 e2:Int}{toks:List Tok}
end
end Go.Proofs.YtlimglpjpcfpdaaGreat
end
section
open Go Mk
namespace Go.Proofs.YtlimglpjpcfpdaaGreat
set_option maxHeartbeats 32000000
def AJ(toks:List Tok)(e:F1):Nat→List ByteArray→Nat→PR (List ByteArray)
 | 0,acc,k=>.ok (acc,k)
 | f+1,acc,k=>if L5 toks k 4 O2=true then J5 (W3 toks e (k+1)) fun s k1=>AJ toks e f (acc++[s]) k1 else .ok (acc,k)
def Nr(toks:List Tok)(e:F1)(k:Nat):PR (List ByteArray):=
 if L5 toks k 1 J4=true then .ok ([],k) else J5 (W3 toks e k) fun s k1=>AJ toks e (toks.length+1) [s] k1
def AQ(toks:List Tok)(e:F1):Nat→List F5→Nat→PR (List F5)
 | 0,acc,k=>.ok (acc,k)
 | f+1,acc,k=>if L5 toks k 4 O2=true then J5 (X3 toks e (k+1)) fun g k1=>AQ toks e f (acc++[g]) k1 else .ok (acc,k)
def OB(toks:List Tok)(e:F1)(sel:List ByteArray)(k:Nat):PR E7:=
 J5 (z1 toks e 1 J4 k) fun _ k3=>J5 (X3 toks e k3) fun g k4=>J5 (AQ toks e (toks.length+1) [g] k4) fun gs k5=>
  if k5<toks.length then .error (X5 toks k5 e,50) else .ok (⟨sel,gs⟩,k5)
def AW(toks:List Tok)(e:F1)(k:Nat):PR E7:=
 J5 (z1 toks e 1 HM k) fun _ k1=>J5 (Nr toks e k1) fun sel k2=>OB toks e sel k2
def RF(Γ:B8)(S:List A7)(bp:Nat)(a:Option Addr)(n c:Nat)(e:F1):PR E7→Ending→World→Prop
 | .ok (q,_),r,w=>∃Γ' vs vg gs,Γ.le Γ'∧r=.returned (.agg #[vs,vg])∧QR Γ' vs vg gs q∧Wd Γ' S w
 | .error (p,er),r,w=>∃Γ' k,Γ.le Γ'∧r=.panicked [x7 p er]∧Wd Γ' (B9 bp a n c k e.Line e.Col::S) w
section
variable {Γ:B8}{S:List A7}{w:World}{bp:Nat}{a:Option Addr}{n c at':Nat}{e:F1}{toks:List Tok}
theorem G2{α β:Type}{x:α}{k:Nat}{f:α→Nat→PR β}:J5 (.ok (x,k)) f=f x k:=rfl
theorem Bw{α β:Type}{q:F1×Int}{f:α→Nat→PR β}:J5 (.error q) f=.error q:=rfl
theorem N6{α β:Type}{x:PR α}{f:α→Nat→PR β}{y:β×Nat}(h:J5 x f=.ok y):∃a k,x=.ok (a,k)∧f a k=.ok y:=by
 cases x with
 | error q=>cases h
 | ok q=>exact⟨q.1,q.2,rfl,h⟩
theorem HT{kind:Int}{text:ByteArray}{k k':Nat}{u:Unit}(h:z1 toks e kind text k=.ok (u,k')):k'=k+1:=by
 unfold z1 at h;split at h
 ·cases h;rfl
 ·cases h
theorem LK{k k':Nat}{v:Int}(h:CU toks e k=.ok (v,k')):k<k':=by
 unfold CU at h;split at h
 ·obtain⟨z2,hz2,-⟩:=S7 h
  have:=s6 hz2
  omega
 ·obtain⟨z2,hz2,-⟩:=S7 h
  have:=s6 hz2
  omega
theorem IJ:∀(f:Nat) {acc os:List K0} {k k':Nat},AI toks e f acc k=.ok (os,k')→k≤k'
 | 0,acc,os,k,k',h=>by unfold AI at h;cases h;exact Nat.le_refl _
 | f+1,acc,os,k,k',h=>by
  unfold AI at h;split at h
  ·obtain⟨o,k1,h1,h2⟩:=N6 h
   have:=DC h1
   have:=IJ f h2
   omega
  ·cases h;exact Nat.le_refl _
theorem Qs{k k':Nat}{v:Int}(h:Lj toks e k=.ok (v,k')):k≤k':=by
 unfold Lj at h;split at h
 ·obtain⟨z2,hz2,-⟩:=S7 h
  have:=s6 hz2
  omega
 ·split at h
  ·obtain⟨z2,hz2,-⟩:=S7 h
   have:=s6 hz2
   omega
  ·cases h;exact Nat.le_refl _
theorem LR{kind:Int}{k k':Nat}{g:F5}(h:HA toks e kind k=.ok (g,k')):k<k':=by
 unfold HA at h;obtain⟨_,_,h1,h⟩:=N6 h
 obtain⟨_,_,h2,h⟩:=N6 h
 obtain⟨_,_,h3,h⟩:=N6 h
 obtain⟨_,_,h4,h⟩:=N6 h
 obtain⟨_,_,h5,h⟩:=N6 h
 cases h
 have:=AL h1
 have:=HT h2
 have:=DC h3
 have:=IJ _ h4
 have:=HT h5
 omega
theorem Nm{k k':Nat}{g:F5}(h:X3 toks e k=.ok (g,k')):k<k':=by
 unfold X3 at h;split at h
 ·have:=LR h;omega
 ·split at h
  ·exact LR h
  ·obtain⟨l,k1,h1,h⟩:=N6 h
   have:=DC h1
   split at h
   ·unfold Lh at h;obtain⟨_,_,h1,h⟩:=N6 h
    obtain⟨_,_,h2,h⟩:=N6 h
    obtain⟨_,_,h3,h⟩:=N6 h
    cases h
    have:=LK h1
    have:=HT h2
    have:=LK h3
    omega
   ·unfold Ly at h;split at h
    ·cases h
    ·obtain⟨_,_,h2,h⟩:=N6 h
     obtain⟨_,_,h3,h⟩:=N6 h
     cases h
     have:=DC h2
     have:=Qs h3
     omega
theorem Il{k k':Nat}{s:ByteArray}(h:W3 toks e k=.ok (s,k')):k'≤toks.length:=by
 have h1:=AL h
 unfold W3 at h;split at h
 ·rename_i hk
  have:=u9 (toks:=toks) (at':=k) (by omega)
  omega
 ·cases h
theorem TK(hW:EE toks)(hat:at'≤n)(hN:toks.length≤1000000)(ht:D3 Γ (.slice a n c) 5 (toks.map enc))(hw:Wd Γ (B9 bp a n c at' e.Line e.Col::S) w) :
  Calls Tryz.prog 42 #[.pointer (some ⟨bp,0,none⟩)] w (RF Γ S bp a n c e (AW toks e at')):=by
 have hn:n=toks.length:=by obtain⟨_,_,_,h1,h2,h3⟩:=ht.shape;cases h1;simpa using h2
 refine F8 Tryz.func42 rfl rfl ?_
 refine A4 ?_;refine B2 ?_;intro b2 w hw;refine A4 ?_;refine B2 ?_;intro b3 w hw;have hw:Wd Γ (B9 bp a n c at' e.Line e.Col::.blk b3 (.cells #[.slice none 0 0,.slice none 0 0] 26)::.blk b2 (.cells #[.slice none 0 0,.slice none 0 0] 26)::S) w:=hw.ps [2]
 unfold AW;refine A4 ?_;refine H0 (vs:=[.pointer (some ⟨bp,0,none⟩),.int .i64 1,.string HM]) ?_
 refine(Ck 1 HM (by decide) hat hN ht hw).mono ?_
 clear hw;rintro r w hr
 cases hE:z1 toks e 1 HM at' with
 | error q=>
  obtain⟨p,er⟩:=q;rw[hE]at hr;obtain⟨rfl,k,hw⟩:=hr;exact⟨Γ,k,B8.le.refl _,rfl,(hw.dropAt 1).dropAt 1⟩
 | ok q=>
 obtain⟨_,k1⟩:=q;rw[hE]at hr;obtain⟨rfl,hk1,hw⟩:=hr;show L _ _ _ _ _ _ _
 rw[G2];clear hE hat;refine U5 ?_
 refine Ba (fun ρ w=>∃(sel:List ByteArray) (k:Nat) (sa:Option Addr) (sn sc:Nat),Nr toks e k1=.ok (sel,k)∧k≤n∧Has ρ [(0,.pointer (some ⟨bp,0,none⟩)),(2,.pointer (some ⟨b2,0,none⟩)),(3,.pointer (some ⟨b3,0,none⟩))]∧Wd Γ (B9 bp a n c k e.Line e.Col::.blk b3 (.cells #[.slice sa sn sc,.slice none 0 0] 26)::.blk b2 (.cells #[.slice none 0 0,.slice none 0 0] 26)::.own (.slice sa sn sc) 9 1 (A8 sel)::S) w) ?_ ?_
 ·refine A4 ?_;refine C5 (vs:=[.pointer (some ⟨bp,0,none⟩),.int .i64 0,.int .i64 1,.string J4]) ?_
  refine(Sv (j:=0) (by decide) 1 J4 hk1 hN ht hw).mono ?_
  clear hw;rintro r w ⟨rfl,hw⟩
  rw[Nat.add_zero];refine⟨_,rfl,?_⟩;unfold Nr;generalize L5 toks k1 1 J4=bi at *
  refine A4 ?_;cases bi with
  | true=>
   refine A0 rfl (fun h=>by cases h) (fun _=>?_)
   refine A4 ?_;have hw:=Wd.addNil (a:=none) (E:=9) (sz:=1) hw
   exact⟨[],k1,none,0,0,by rw[if_pos rfl],hk1,⟨rfl,rfl,rfl,trivial⟩,hw.ps [3,3,3]⟩
  | false=>
   refine A0 rfl (fun _=>?_) (fun h=>by cases h)
   rw[if_neg (by decide)]
   have hw:=Wd.addNil (a:=none) (E:=9) (sz:=1) hw
   have hw:Wd Γ (.own (.slice none 0 0) 9 1 (A8 [])::B9 bp a n c k1 e.Line e.Col::.blk b3 (.cells #[.slice none 0 0,.slice none 0 0] 26)::.blk b2 (.cells #[.slice none 0 0,.slice none 0 0] 26)::S) w:=hw
   refine A4 ?_;have hk9:k1≤n:=hk1
   cases hO:W3 toks e k1 with
   | error q=>
    obtain⟨p,er⟩:=q;rw[Bw,Bw];refine BD (fun ch w=>ch=[x7 p er]∧∃k,Wd Γ (B9 bp a n c k e.Line e.Col::S) w) [.blk b2 (.cells #[.slice none 0 0,.slice none 0 0] 26)] [.blk b3 (.cells #[.slice none 0 0,.slice none 0 0] 26)] (.own (.slice none 0 0) 9 1 (A8 [])::B9 bp a n c k1 e.Line e.Col::S) [] [12,13,14] [] [[],[],[],[1],[1],[1],[],[0,1]] [[],[0],[],[1],[1],[1],[],[0,1]] (by rw[List.append_nil];exact hw.ps [2,3]) (fun ch ρ w ⟨h1,k,h2⟩=>by subst h1;exact⟨Γ,k,B8.le.refl _,rfl,h2⟩) ?_
    refine eY ?_
    refine eY ?_
    refine eY ?_
    refine GZ (c:=1) (T:=Unit) (T':=Empty) (vs:=[.pointer (some ⟨bp,0,none⟩)]) (fun t=>t.elim) (fun t=>t.elim) (φ:=fun _ _=>True) (R:=fun _=>.own (.slice none 0 0) 9 1 (A8 [])::B9 bp a n c k1 e.Line e.Col::S) (fun _ Y w hw=>(GF hk9 hN ht (hw.ps [1]:Wd Γ (B9 bp a n c k1 e.Line e.Col::(.own (.slice none 0 0) 9 1 (A8 [])::(S++Y))) w)).mono fun r w h=>?_) ?_
    ·rw[hO]at h;obtain⟨rfl,k,hw⟩:=h;have hw:Wd Γ (B9 bp a n c k e.Line e.Col::(.own (.slice none 0 0) 9 1 (A8 [])::(S++Y))) w:=hw
     exact⟨rfl,k,Wd.left (S:=B9 bp a n c k e.Line e.Col::S) (hw.dropAt 1)⟩
    refine Hh (c:=1) ?_
    refine Hh (c:=1) ?_
    refine eY ?_
    refine Hh (c:=1) ?_
    exact DJ (c:=1)
   | ok q=>
   obtain⟨s,k9⟩:=q;rw[G2];refine Cy [.blk b2 (.cells #[.slice none 0 0,.slice none 0 0] 26)] [.blk b3 (.cells #[.slice none 0 0,.slice none 0 0] 26)] (.own (.slice none 0 0) 9 1 (A8 [])::B9 bp a n c k1 e.Line e.Col::S) [] [12,13,14] [] [[],[],[],[1],[1],[1],[],[0,1]] [[],[0],[],[1],[1],[1],[],[0,1]] (by rw[List.append_nil];exact hw.ps [2,3]) ?_
   repeat(first|refine mY ?_|refine mP ?_|refine D9 ?_|refine G6 ?_|refine K3 ?_)
   refine DT (c:=1) (T:=Unit) (T':=Unit) (vs:=[.pointer (some ⟨bp,0,none⟩)]) (fun _=>.string s) (fun _=>B9 bp a n c k9 e.Line e.Col::.own (.slice none 0 0) 9 1 (A8 [])::S) (R:=fun _=>.own (.slice none 0 0) 9 1 (A8 [])::B9 bp a n c k1 e.Line e.Col::S) (fun _ Y w hw=>(GF hk9 hN ht (hw.ps [1]:Wd Γ (B9 bp a n c k1 e.Line e.Col::(.own (.slice none 0 0) 9 1 (A8 [])::(S++Y))) w)).mono fun r w h=>by rw[hO]at h;exact⟨(),h.1,h.2.2⟩) ?_
   refine As (T:=Unit) (fun _=>[[.string s]]) ?_ ?_
   rotate_left
   ·intro t g h;have h2:g 12=.string s:=h
    show W4 _ _ [(0,g 12)]=_
    rw[h2];rfl
   refine GQ (T:=Unit×Addr) (j:=2) (j2:=0) (fun t=>some t.2) (fun _=>[[.string s]]) ?_ ?_
   rotate_left
   ·intro t g h;exact h.2
   refine i9 ?_;refine DV (T:=(Unit×Addr)×Value) (j:=2) (val:=fun t=>t.2) ?_ ?_
   rotate_left
   ·intro t g h;exact h.2
   refine Gq fun t w g h hw=>?_
   obtain⟨⟨⟨⟩,aB⟩,vv⟩:=t;have hw:Wd Γ (.blk b3 (.cells #[vv,.slice none 0 0] 26)::.own (.slice (some aB) 1 1) 9 1 [[.string s]]::B9 bp a n c k9 e.Line e.Col::.own vv 9 1 (A8 []++[[.string s]])::(S++[.blk b2 (.cells #[.slice none 0 0,.slice none 0 0] 26)])) w:=hw
   obtain⟨A2,N2,C2,hvv,hN2,hNC2,hC2⟩:=hw.own_shape (i:=3) rfl
   rw[hvv]at hw;rw[show A8 []++[[.string s]]=A8 ([]++[s]) from by unfold A8;rw[List.map_append];rfl]at hw hN2
   have hw:Wd Γ (.own (.slice A2 N2 C2) 9 1 (A8 ([]++[s]))::B9 bp a n c k9 e.Line e.Col::.blk b3 (.cells #[.slice A2 N2 C2,.slice none 0 0] 26)::.blk b2 (.cells #[.slice none 0 0,.slice none 0 0] 26)::S) w:=(hw.dropAt 1).perm M8
   have hk9':k9≤n:=by rw[hn];exact Il hO
   obtain⟨tot,htot⟩:∃t,t=AJ toks e (toks.length+1) [s] k9:=⟨_,rfl⟩
   rw[←htot];have hw:Wd Γ (.own (.slice A2 N2 C2) 9 1 (A8 [s])::B9 bp a n c k9 e.Line e.Col::.blk b3 (.cells #[.slice A2 N2 C2,.slice none 0 0] 26)::.blk b2 (.cells #[.slice none 0 0,.slice none 0 0] 26)::S) w:=hw
   refine A4 ?_;refine C8 (fun μ ρ w=>∃(f:Nat) (acc:List ByteArray) (k:Nat) (A:Option Addr) (N C:Nat),AJ toks e f acc k=tot∧μ=n-k∧k≤n∧n<f+k∧acc.length≤1+k∧Has ρ [(0,.pointer (some ⟨bp,0,none⟩)),(2,.pointer (some ⟨b2,0,none⟩)),(3,.pointer (some ⟨b3,0,none⟩))]∧Wd Γ (.own (.slice A N C) 9 1 (A8 acc)::B9 bp a n c k e.Line e.Col::.blk b3 (.cells #[.slice A N C,.slice none 0 0] 26)::.blk b2 (.cells #[.slice none 0 0,.slice none 0 0] 26)::S) w) (n-k9) ⟨toks.length+1,[s],k9,A2,N2,C2,htot.symm,rfl,hk9',by omega,by simp,⟨rfl,rfl,rfl,trivial⟩,hw⟩ ?_
   clear hw hO hk9;rintro μ ρ w ⟨f,acc,k,A,N,C,hf,hμ,hkn,hfk,hal,hρ,hw⟩
   rw[hρ.eq];clear hρ;have hNl:N=acc.length:=by
    obtain⟨_,_,_,hE,h2,-,-⟩:=hw.own_shape (i:=0) rfl
    cases hE
    simpa[A8] using h2
   obtain⟨f',rfl⟩:∃f',f=f'+1:=⟨f-1,by omega⟩
   unfold AJ at hf;refine A4 ?_;refine C5 (vs:=[.pointer (some ⟨bp,0,none⟩),.int .i64 4,.string O2]) ?_
   refine(R9 (S:=.own (.slice A N C) 9 1 (A8 acc)::.blk b3 (.cells #[.slice A N C,.slice none 0 0] 26)::.blk b2 (.cells #[.slice none 0 0,.slice none 0 0] 26)::S) 4 O2 hkn hN ht (hw.ps [1])).mono ?_
   clear hw;rintro r w ⟨rfl,hw⟩
   refine⟨_,rfl,?_⟩;cases hi:L5 toks k 4 O2 with
   | true=>
    have hlt:=Z0 (by decide) hi
    rw[hi,if_pos rfl]at hw hf
    have hk9:k+1≤n:=by omega
    have hw:Wd Γ (.own (.slice A N C) 9 1 (A8 acc)::B9 bp a n c (k+1) e.Line e.Col::.blk b3 (.cells #[.slice A N C,.slice none 0 0] 26)::.blk b2 (.cells #[.slice none 0 0,.slice none 0 0] 26)::S) w:=hw.ps [1]
    refine A4 ?_;refine A0 rfl (fun _=>?_) (fun h=>by cases h)
    refine A4 ?_;cases hO:W3 toks e (k+1) with
    | error q=>
     obtain⟨p,er⟩:=q;have htE:tot=.error (p,er):=by rw[←hf,hO];rfl
     rw[htE,Bw];refine BD (fun ch w=>ch=[x7 p er]∧∃k,Wd Γ (B9 bp a n c k e.Line e.Col::S) w) [.blk b2 (.cells #[.slice none 0 0,.slice none 0 0] 26)] [.blk b3 (.cells #[.slice A N C,.slice none 0 0] 26)] (.own (.slice A N C) 9 1 (A8 acc)::B9 bp a n c (k+1) e.Line e.Col::S) [] [21,22,23] [] [[],[],[],[1],[1],[1],[],[0,1]] [[],[0],[],[1],[1],[1],[],[0,1]] (by rw[List.append_nil];exact hw.ps [2,3]) (fun ch ρ w ⟨h1,k,h2⟩=>by subst h1;exact⟨Γ,k,B8.le.refl _,rfl,h2⟩) ?_
     refine eY ?_
     refine eY ?_
     refine eY ?_
     refine GZ (c:=1) (T:=Unit) (T':=Empty) (vs:=[.pointer (some ⟨bp,0,none⟩)]) (fun t=>t.elim) (fun t=>t.elim) (φ:=fun _ _=>True) (R:=fun _=>.own (.slice A N C) 9 1 (A8 acc)::B9 bp a n c (k+1) e.Line e.Col::S) (fun _ Y w hw=>(GF hk9 hN ht (hw.ps [1]:Wd Γ (B9 bp a n c (k+1) e.Line e.Col::(.own (.slice A N C) 9 1 (A8 acc)::(S++Y))) w)).mono fun r w h=>?_) ?_
     ·rw[hO]at h;obtain⟨rfl,k,hw⟩:=h;have hw:Wd Γ (B9 bp a n c k e.Line e.Col::(.own (.slice A N C) 9 1 (A8 acc)::(S++Y))) w:=hw
      exact⟨rfl,k,Wd.left (S:=B9 bp a n c k e.Line e.Col::S) (hw.dropAt 1)⟩
     refine Hh (c:=1) ?_
     refine Hh (c:=1) ?_
     refine eY ?_
     refine Hh (c:=1) ?_
     exact DJ (c:=1)
    | ok q=>
    obtain⟨s,k9⟩:=q;have hk9':k9≤n:=by rw[hn];exact Il hO
    have hk9l:=AL hO
    refine Cy [.blk b2 (.cells #[.slice none 0 0,.slice none 0 0] 26)] [.blk b3 (.cells #[.slice A N C,.slice none 0 0] 26)] (.own (.slice A N C) 9 1 (A8 acc)::B9 bp a n c (k+1) e.Line e.Col::S) [] [21,22,23] [] [[],[],[],[1],[1],[1],[],[0,1]] [[],[0],[],[1],[1],[1],[],[0,1]] (by rw[List.append_nil];exact hw.ps [2,3]) ?_
    repeat(first|refine mY ?_|refine mP ?_|refine D9 ?_|refine G6 ?_|refine K3 ?_)
    refine DT (c:=1) (T:=Unit) (T':=Unit) (vs:=[.pointer (some ⟨bp,0,none⟩)]) (fun _=>.string s) (fun _=>B9 bp a n c k9 e.Line e.Col::.own (.slice A N C) 9 1 (A8 acc)::S) (R:=fun _=>.own (.slice A N C) 9 1 (A8 acc)::B9 bp a n c (k+1) e.Line e.Col::S) (fun _ Y w hw=>(GF hk9 hN ht (hw.ps [1]:Wd Γ (B9 bp a n c (k+1) e.Line e.Col::(.own (.slice A N C) 9 1 (A8 acc)::(S++Y))) w)).mono fun r w h=>by rw[hO]at h;exact⟨(),h.1,h.2.2⟩) ?_
    refine As (T:=Unit) (fun _=>[[.string s]]) ?_ ?_
    rotate_left
    ·intro t g h;have h2:g 21=.string s:=h
     show W4 _ _ [(0,g 21)]=_
     rw[h2];rfl
    refine GQ (T:=Unit×Addr) (j:=2) (j2:=0) (fun t=>some t.2) (fun _=>[[.string s]]) ?_ ?_
    rotate_left
    ·intro t g h;exact h.2
    refine i9 ?_;refine DV (T:=(Unit×Addr)×Value) (j:=2) (val:=fun t=>t.2) ?_ ?_
    rotate_left
    ·intro t g h;exact h.2
    refine Gq fun t w g h hw=>?_
    obtain⟨⟨⟨⟩,aB⟩,vv⟩:=t;have hw:Wd Γ (.blk b3 (.cells #[vv,.slice none 0 0] 26)::.own (.slice (some aB) 1 1) 9 1 [[.string s]]::B9 bp a n c k9 e.Line e.Col::.own vv 9 1 (A8 acc++[[.string s]])::(S++[.blk b2 (.cells #[.slice none 0 0,.slice none 0 0] 26)])) w:=hw
    obtain⟨A2,N2,C2,hvv,hN2,hNC2,hC2⟩:=hw.own_shape (i:=3) rfl
    rw[hvv]at hw;rw[show A8 acc++[[.string s]]=A8 (acc++[s]) from by unfold A8;rw[List.map_append];rfl]at hw hN2
    have hw:Wd Γ (.own (.slice A2 N2 C2) 9 1 (A8 (acc++[s]))::B9 bp a n c k9 e.Line e.Col::.blk b3 (.cells #[.slice A2 N2 C2,.slice none 0 0] 26)::.blk b2 (.cells #[.slice none 0 0,.slice none 0 0] 26)::S) w:=(hw.dropAt 1).perm M8
    refine A4 ?_;exact⟨n-k9,by omega,f',acc++[s],k9,A2,N2,C2,by rw[←hf,hO];rfl,rfl,hk9',by omega,by rw[List.length_append];simp;omega,⟨rfl,rfl,rfl,trivial⟩,hw⟩
   | false=>
    rw[hi,if_neg (by decide)]at hw hf
    refine A4 ?_;refine A0 rfl (fun h=>by cases h) (fun _=>?_)
    refine A4 ?_;exact⟨acc,k,A,N,C,hf.symm,hkn,⟨rfl,rfl,rfl,trivial⟩,hw.ps [3,3,2]⟩
 clear hw hk1;rintro ρ w ⟨sel,k2,sa,sn,sc,hsel,hk2,hρ,hw⟩
 rw[hρ.eq];clear hρ;rw[hsel,G2];obtain⟨_,_,_,hE,hsn,hsc,hscc⟩:=hw.own_shape (i:=3) rfl
 cases hE
 clear hsel;unfold OB;refine A4 ?_;refine H0 (vs:=[.pointer (some ⟨bp,0,none⟩),.int .i64 1,.string J4]) ?_
 refine(Ck 1 J4 (by decide) hk2 hN ht hw).mono ?_
 clear hw;rintro r w hr
 cases hE:z1 toks e 1 J4 k2 with
 | error q=>
  obtain⟨p,er⟩:=q;rw[hE]at hr;obtain⟨rfl,k,hw⟩:=hr;exact⟨Γ,k,B8.le.refl _,rfl,((hw.dropAt 1).dropAt 1).dropAt 1⟩
 | ok q=>
 obtain⟨_,k3⟩:=q;rw[hE]at hr;obtain⟨rfl,hk9,hw⟩:=hr;show L _ _ _ _ _ _ _
 rw[G2];clear hE hk2;have hw:=Wd.addNil (a:=none) (E:=127) (sz:=15) hw
 obtain⟨gs,hgs⟩:∃gs:List H4,gs=[]:=⟨_,rfl⟩
 obtain⟨ga,gn,gc,hga,hgn,hgc⟩:∃(ga:Option Addr) (gn gc:Nat),ga=none∧gn=0∧gc=0:=⟨_,_,_,rfl,rfl,rfl⟩
 have hw:Wd Γ (.own (.slice ga gn gc) 127 15 (gs.map cG)::B9 bp a n c k3 e.Line e.Col::.blk b3 (.cells #[.slice sa sn sc,.slice ga gn gc] 26)::.blk b2 (.cells #[.slice none 0 0,.slice none 0 0] 26)::.own (.slice sa sn sc) 9 1 (A8 sel)::S) w:=by
  rw[hga,hgn,hgc,hgs];exact hw
 have hgl:gn=gs.length:=by rw[hgs,hgn];rfl
 have hok:∀x∈gs,LB Γ x:=fun x hx=>by rw[hgs]at hx;cases hx
 obtain⟨Γ1,hΓ1⟩:∃Γ1,Γ1=Γ:=⟨_,rfl⟩
 rw[←hΓ1]at hw hok
 have ht1:D3 Γ1 (.slice a n c) 5 (toks.map enc):=by rw[hΓ1];exact ht
 have hle1:Γ.le Γ1:=by rw[hΓ1];exact B8.le.refl _
 have hgl0:gn=0:=hgn
 clear hga hgn hgc hΓ1;refine U5 ?_
 refine A4 ?_;cases hO:X3 toks e k3 with
 | error q=>
  obtain⟨p,er⟩:=q;rw[Bw];refine BD (fun ch w=>ch=[x7 p er]∧∃k,Wd Γ1 (B9 bp a n c k e.Line e.Col::S) w) [.blk b2 (.cells #[.slice none 0 0,.slice none 0 0] 26)] [.blk b3 (.cells #[.slice sa sn sc,.slice ga gn gc] 26)] (.own (.slice ga gn gc) 127 15 (gs.map cG)::B9 bp a n c k3 e.Line e.Col::.own (.slice sa sn sc) 9 1 (A8 sel)::S) [] [30,31,32] [] [[],[],[],[1],[1],[1],[],[0,1]] [[],[0],[],[1],[1],[1],[],[0,1]] (by rw[List.append_nil];exact hw.ps [2,3]) (fun ch ρ w ⟨h1,k,h2⟩=>by subst h1;exact⟨Γ1,k,hle1,rfl,h2⟩) ?_
  refine eY ?_
  refine eY ?_
  refine eY ?_
  refine GZ (c:=1) (T:=Unit) (T':=Empty) (vs:=[.pointer (some ⟨bp,0,none⟩)]) (fun t=>t.elim) (fun t=>t.elim) (φ:=fun _ _=>True) (R:=fun _=>.own (.slice ga gn gc) 127 15 (gs.map cG)::B9 bp a n c k3 e.Line e.Col::.own (.slice sa sn sc) 9 1 (A8 sel)::S) (fun _ Y w hw=>(LN hW hk9 hN ht1 (hw.ps [1]:Wd Γ1 (B9 bp a n c k3 e.Line e.Col::(.own (.slice ga gn gc) 127 15 (gs.map cG)::.own (.slice sa sn sc) 9 1 (A8 sel)::(S++Y))) w)).mono fun r w h=>?_) ?_
  ·rw[hO]at h;obtain⟨rfl,k,hw⟩:=h;have hw:Wd Γ1 (B9 bp a n c k e.Line e.Col::(.own (.slice ga gn gc) 127 15 (gs.map cG)::.own (.slice sa sn sc) 9 1 (A8 sel)::(S++Y))) w:=hw
   exact⟨rfl,k,Wd.left (S:=B9 bp a n c k e.Line e.Col::S) ((hw.dropAt 1).dropAt 1)⟩
  refine Hh (c:=1) ?_
  refine Hh (c:=1) ?_
  refine eY ?_
  refine Hh (c:=1) ?_
  exact DJ (c:=1)
 | ok q=>
 obtain⟨g,k9⟩:=q;rw[G2];refine Cy [.blk b2 (.cells #[.slice none 0 0,.slice none 0 0] 26)] [.blk b3 (.cells #[.slice sa sn sc,.slice ga gn gc] 26)] (.own (.slice ga gn gc) 127 15 (gs.map cG)::B9 bp a n c k3 e.Line e.Col::.own (.slice sa sn sc) 9 1 (A8 sel)::S) [] [30,31,32] [] [[],[],[],[1],[1],[1],[],[0,1]] [[],[0],[],[1],[1],[1],[],[0,1]] (by rw[List.append_nil];exact hw.ps [2,3]) ?_
 repeat(first|refine mY ?_|refine mP ?_|refine D9 ?_|refine G6 ?_|refine K3 ?_)
 refine DT (c:=1) (T:=Unit) (T':={v:Pv // k9≤n}) (vs:=[.pointer (some ⟨bp,0,none⟩)]) (fun v=>.agg (cG ⟨g,v.1.1,v.1.2.1,v.1.2.2⟩).toArray) (fun v=>.own (Ug v.1) 125 4 (g.Args.map enc)::B9 bp a n c k9 e.Line e.Col::.own (.slice ga gn gc) 127 15 (gs.map cG)::.own (.slice sa sn sc) 9 1 (A8 sel)::S) (R:=fun _=>.own (.slice ga gn gc) 127 15 (gs.map cG)::B9 bp a n c k3 e.Line e.Col::.own (.slice sa sn sc) 9 1 (A8 sel)::S) (fun _ Y w hw=>(LN hW hk9 hN ht1 (hw.ps [1]:Wd Γ1 (B9 bp a n c k3 e.Line e.Col::(.own (.slice ga gn gc) 127 15 (gs.map cG)::.own (.slice sa sn sc) 9 1 (A8 sel)::(S++Y))) w)).mono fun r w h=>by rw[hO]at h;obtain⟨v,h1,h2,h3⟩:=h;exact⟨⟨v,h2⟩,h1,h3⟩) ?_
 refine As (T:={v:Pv // k9≤n}) (fun v=>[cG ⟨g,v.1.1,v.1.2.1,v.1.2.2⟩]) ?_ ?_
 rotate_left
 ·intro t gg h;have h2:gg 30=.agg (cG ⟨g,t.1.1,t.1.2.1,t.1.2.2⟩).toArray:=h
  show W4 _ _ [(0,gg 30)]=_
  rw[h2];rfl
 refine GQ (T:={v:Pv // k9≤n} × Addr) (j:=3) (j2:=0) (fun t=>some t.2) (fun t=>[cG ⟨g,t.1.1.1,t.1.1.2.1,t.1.1.2.2⟩]) ?_ ?_
 rotate_left
 ·intro t g h;exact h.2
 refine i9 ?_;refine DV (T:=({v:Pv // k9≤n} × Addr)×Value) (j:=3) (val:=fun t=>t.2) ?_ ?_
 rotate_left
 ·intro t g h;exact h.2
 refine Gq fun t w g' h hw=>?_
 obtain⟨⟨⟨⟨Ax,Nx,Cx⟩,hk9'⟩,aB⟩,vv⟩:=t;have hw:Wd Γ1 (.blk b3 (.cells #[.slice sa sn sc,vv] 26)::.own (.slice (some aB) 1 1) 127 15 [cG ⟨g,Ax,Nx,Cx⟩]::.own (.slice Ax Nx Cx) 125 4 (g.Args.map enc)::B9 bp a n c k9 e.Line e.Col::.own vv 127 15 (gs.map cG++[cG ⟨g,Ax,Nx,Cx⟩])::.own (.slice sa sn sc) 9 1 (A8 sel)::(S++[.blk b2 (.cells #[.slice none 0 0,.slice none 0 0] 26)])) w:=hw
 obtain⟨A2,N2,C2,hvv,hN2,hNC2,hC2⟩:=hw.own_shape (i:=4) rfl
 rw[hvv]at hw;obtain⟨Γ2,hle2,hfo,hw⟩:=Wd.freeze (hw.ps [2]:Wd Γ1 (.own (.slice Ax Nx Cx) 125 4 (g.Args.map enc)::.blk b3 (.cells #[.slice sa sn sc,.slice A2 N2 C2] 26)::.own (.slice (some aB) 1 1) 127 15 [cG ⟨g,Ax,Nx,Cx⟩]::B9 bp a n c k9 e.Line e.Col::.own (.slice A2 N2 C2) 127 15 (gs.map cG++[cG ⟨g,Ax,Nx,Cx⟩])::.own (.slice sa sn sc) 9 1 (A8 sel)::(S++[.blk b2 (.cells #[.slice none 0 0,.slice none 0 0] 26)])) w)
 have hw:Wd Γ2 (.own (.slice A2 N2 C2) 127 15 ((gs++[(⟨g,Ax,Nx,Cx⟩:H4)]).map cG)::B9 bp a n c k9 e.Line e.Col::.blk b3 (.cells #[.slice sa sn sc,.slice A2 N2 C2] 26)::.blk b2 (.cells #[.slice none 0 0,.slice none 0 0] 26)::.own (.slice sa sn sc) 9 1 (A8 sel)::S) w:=by
  rw[List.map_append];exact(hw.dropAt 1).perm M8
 have hok2:∀x∈gs++[(⟨g,Ax,Nx,Cx⟩:H4)],LB Γ2 x:=fun x hx=>by
  rcases List.mem_append.1 hx with hx|hx
  ·exact(hok x hx).mono hle2
  ·rw[List.mem_singleton.1 hx];exact hfo
 obtain⟨tot,htot⟩:∃t,t=AQ toks e (toks.length+1) [g] k9:=⟨_,rfl⟩
 rw[←htot];have hgs2:(gs++[(⟨g,Ax,Nx,Cx⟩:H4)]).map (·.g)=[g]:=by rw[hgs];rfl
 refine A4 ?_;refine C8 (fun μ ρ w=>∃(f:Nat) (acc:List F5) (k:Nat) (Γ1:B8) (ga:Option Addr) (gn gc:Nat) (gs:List H4),AQ toks e f acc k=tot∧μ=n-k∧k≤n∧n<f+k∧acc.length≤1+k∧Γ.le Γ1∧gs.map (·.g)=acc∧(∀x∈gs,LB Γ1 x)∧Has ρ [(0,.pointer (some ⟨bp,0,none⟩)),(2,.pointer (some ⟨b2,0,none⟩)),(3,.pointer (some ⟨b3,0,none⟩))]∧Wd Γ1 (.own (.slice ga gn gc) 127 15 (gs.map cG)::B9 bp a n c k e.Line e.Col::.blk b3 (.cells #[.slice sa sn sc,.slice ga gn gc] 26)::.blk b2 (.cells #[.slice none 0 0,.slice none 0 0] 26)::.own (.slice sa sn sc) 9 1 (A8 sel)::S) w) (n-k9) ⟨toks.length+1,[g],k9,Γ2,A2,N2,C2,_,htot.symm,rfl,hk9',by omega,by simp,hle1.trans hle2,hgs2,hok2,⟨rfl,rfl,rfl,trivial⟩,hw⟩ ?_
 clear hw hgs hok hgl hgl0 ht1 hle1 hle2 hfo hgs2 hok2 hN2 hNC2 hC2 hk9 hO;rintro μ ρ w ⟨f,acc,k,Γ1,ga,gn,gc,gs,hf,hμ,hkn,hfk,hal,hle1,hgs,hok,hρ,hw⟩
 rw[hρ.eq];clear hρ;have ht1:=ht.mono hle1
 have hgl:gs.length=acc.length:=by rw[←hgs,List.length_map]
 have hgb:gn=gs.length:=by obtain⟨_,_,_,h1,h2,_⟩:=hw.own_shape (i:=0) rfl;cases h1;simpa using h2
 obtain⟨f',rfl⟩:∃f',f=f'+1:=⟨f-1,by omega⟩
 unfold AQ at hf;refine A4 ?_;refine C5 (vs:=[.pointer (some ⟨bp,0,none⟩),.int .i64 4,.string O2]) ?_
 refine(R9 4 O2 hkn hN ht1 (hw.ps [1])).mono ?_
 clear hw;rintro r w ⟨rfl,hw⟩
 refine⟨_,rfl,?_⟩;cases hi:L5 toks k 4 O2 with
 | true=>
  have hlt:=Z0 (by decide) hi
  rw[hi,if_pos rfl]at hw hf
  have hk9:k+1≤n:=by omega
  have hw:Wd Γ1 (.own (.slice ga gn gc) 127 15 (gs.map cG)::B9 bp a n c (k+1) e.Line e.Col::.blk b3 (.cells #[.slice sa sn sc,.slice ga gn gc] 26)::.blk b2 (.cells #[.slice none 0 0,.slice none 0 0] 26)::.own (.slice sa sn sc) 9 1 (A8 sel)::S) w:=hw.ps [1]
  refine A4 ?_;refine A0 rfl (fun _=>?_) (fun h=>by cases h)
  refine A4 ?_;cases hO:X3 toks e (k+1) with
  | error q=>
   obtain⟨p,er⟩:=q;have htE:tot=.error (p,er):=by rw[←hf,hO];rfl
   rw[htE,Bw];refine BD (fun ch w=>ch=[x7 p er]∧∃k,Wd Γ1 (B9 bp a n c k e.Line e.Col::S) w) [.blk b2 (.cells #[.slice none 0 0,.slice none 0 0] 26)] [.blk b3 (.cells #[.slice sa sn sc,.slice ga gn gc] 26)] (.own (.slice ga gn gc) 127 15 (gs.map cG)::B9 bp a n c (k+1) e.Line e.Col::.own (.slice sa sn sc) 9 1 (A8 sel)::S) [] [39,40,41] [] [[],[],[],[1],[1],[1],[],[0,1]] [[],[0],[],[1],[1],[1],[],[0,1]] (by rw[List.append_nil];exact hw.ps [2,3]) (fun ch ρ w ⟨h1,k,h2⟩=>by subst h1;exact⟨Γ1,k,hle1,rfl,h2⟩) ?_
   refine eY ?_
   refine eY ?_
   refine eY ?_
   refine GZ (c:=1) (T:=Unit) (T':=Empty) (vs:=[.pointer (some ⟨bp,0,none⟩)]) (fun t=>t.elim) (fun t=>t.elim) (φ:=fun _ _=>True) (R:=fun _=>.own (.slice ga gn gc) 127 15 (gs.map cG)::B9 bp a n c (k+1) e.Line e.Col::.own (.slice sa sn sc) 9 1 (A8 sel)::S) (fun _ Y w hw=>(LN hW hk9 hN ht1 (hw.ps [1]:Wd Γ1 (B9 bp a n c (k+1) e.Line e.Col::(.own (.slice ga gn gc) 127 15 (gs.map cG)::.own (.slice sa sn sc) 9 1 (A8 sel)::(S++Y))) w)).mono fun r w h=>?_) ?_
   ·rw[hO]at h;obtain⟨rfl,k,hw⟩:=h;have hw:Wd Γ1 (B9 bp a n c k e.Line e.Col::(.own (.slice ga gn gc) 127 15 (gs.map cG)::.own (.slice sa sn sc) 9 1 (A8 sel)::(S++Y))) w:=hw
    exact⟨rfl,k,Wd.left (S:=B9 bp a n c k e.Line e.Col::S) ((hw.dropAt 1).dropAt 1)⟩
   refine Hh (c:=1) ?_
   refine Hh (c:=1) ?_
   refine eY ?_
   refine Hh (c:=1) ?_
   exact DJ (c:=1)
  | ok q=>
  obtain⟨g,k9⟩:=q;have hk9l:=Nm hO
  refine Cy [.blk b2 (.cells #[.slice none 0 0,.slice none 0 0] 26)] [.blk b3 (.cells #[.slice sa sn sc,.slice ga gn gc] 26)] (.own (.slice ga gn gc) 127 15 (gs.map cG)::B9 bp a n c (k+1) e.Line e.Col::.own (.slice sa sn sc) 9 1 (A8 sel)::S) [] [39,40,41] [] [[],[],[],[1],[1],[1],[],[0,1]] [[],[0],[],[1],[1],[1],[],[0,1]] (by rw[List.append_nil];exact hw.ps [2,3]) ?_
  repeat(first|refine mY ?_|refine mP ?_|refine D9 ?_|refine G6 ?_|refine K3 ?_)
  refine DT (c:=1) (T:=Unit) (T':={v:Pv // k9≤n}) (vs:=[.pointer (some ⟨bp,0,none⟩)]) (fun v=>.agg (cG ⟨g,v.1.1,v.1.2.1,v.1.2.2⟩).toArray) (fun v=>.own (Ug v.1) 125 4 (g.Args.map enc)::B9 bp a n c k9 e.Line e.Col::.own (.slice ga gn gc) 127 15 (gs.map cG)::.own (.slice sa sn sc) 9 1 (A8 sel)::S) (R:=fun _=>.own (.slice ga gn gc) 127 15 (gs.map cG)::B9 bp a n c (k+1) e.Line e.Col::.own (.slice sa sn sc) 9 1 (A8 sel)::S) (fun _ Y w hw=>(LN hW hk9 hN ht1 (hw.ps [1]:Wd Γ1 (B9 bp a n c (k+1) e.Line e.Col::(.own (.slice ga gn gc) 127 15 (gs.map cG)::.own (.slice sa sn sc) 9 1 (A8 sel)::(S++Y))) w)).mono fun r w h=>by rw[hO]at h;obtain⟨v,h1,h2,h3⟩:=h;exact⟨⟨v,h2⟩,h1,h3⟩) ?_
  refine As (T:={v:Pv // k9≤n}) (fun v=>[cG ⟨g,v.1.1,v.1.2.1,v.1.2.2⟩]) ?_ ?_
  rotate_left
  ·intro t gg h;have h2:gg 39=.agg (cG ⟨g,t.1.1,t.1.2.1,t.1.2.2⟩).toArray:=h
   show W4 _ _ [(0,gg 39)]=_
   rw[h2];rfl
  refine GQ (T:={v:Pv // k9≤n} × Addr) (j:=3) (j2:=0) (fun t=>some t.2) (fun t=>[cG ⟨g,t.1.1.1,t.1.1.2.1,t.1.1.2.2⟩]) ?_ ?_
  rotate_left
  ·intro t g h;exact h.2
  refine i9 ?_;refine DV (T:=({v:Pv // k9≤n} × Addr)×Value) (j:=3) (val:=fun t=>t.2) ?_ ?_
  rotate_left
  ·intro t g h;exact h.2
  refine Gq fun t w g' h hw=>?_
  obtain⟨⟨⟨⟨Ax,Nx,Cx⟩,hk9'⟩,aB⟩,vv⟩:=t;have hw:Wd Γ1 (.blk b3 (.cells #[.slice sa sn sc,vv] 26)::.own (.slice (some aB) 1 1) 127 15 [cG ⟨g,Ax,Nx,Cx⟩]::.own (.slice Ax Nx Cx) 125 4 (g.Args.map enc)::B9 bp a n c k9 e.Line e.Col::.own vv 127 15 (gs.map cG++[cG ⟨g,Ax,Nx,Cx⟩])::.own (.slice sa sn sc) 9 1 (A8 sel)::(S++[.blk b2 (.cells #[.slice none 0 0,.slice none 0 0] 26)])) w:=hw
  obtain⟨A2,N2,C2,hvv,hN2,hNC2,hC2⟩:=hw.own_shape (i:=4) rfl
  rw[hvv]at hw;obtain⟨Γ2,hle2,hfo,hw⟩:=Wd.freeze (hw.ps [2]:Wd Γ1 (.own (.slice Ax Nx Cx) 125 4 (g.Args.map enc)::.blk b3 (.cells #[.slice sa sn sc,.slice A2 N2 C2] 26)::.own (.slice (some aB) 1 1) 127 15 [cG ⟨g,Ax,Nx,Cx⟩]::B9 bp a n c k9 e.Line e.Col::.own (.slice A2 N2 C2) 127 15 (gs.map cG++[cG ⟨g,Ax,Nx,Cx⟩])::.own (.slice sa sn sc) 9 1 (A8 sel)::(S++[.blk b2 (.cells #[.slice none 0 0,.slice none 0 0] 26)])) w)
  have hw:Wd Γ2 (.own (.slice A2 N2 C2) 127 15 ((gs++[(⟨g,Ax,Nx,Cx⟩:H4)]).map cG)::B9 bp a n c k9 e.Line e.Col::.blk b3 (.cells #[.slice sa sn sc,.slice A2 N2 C2] 26)::.blk b2 (.cells #[.slice none 0 0,.slice none 0 0] 26)::.own (.slice sa sn sc) 9 1 (A8 sel)::S) w:=by
   rw[List.map_append];exact(hw.dropAt 1).perm M8
  have hok2:∀x∈gs++[(⟨g,Ax,Nx,Cx⟩:H4)],LB Γ2 x:=fun x hx=>by
   rcases List.mem_append.1 hx with hx|hx
   ·exact(hok x hx).mono hle2
   ·rw[List.mem_singleton.1 hx];exact hfo
  refine A4 ?_;exact⟨n-k9,by omega,f',acc++[g],k9,Γ2,A2,N2,C2,_,by rw[←hf,hO];rfl,rfl,hk9',by omega,by rw[List.length_append];simp;omega,hle1.trans hle2,by rw[List.map_append,hgs];rfl,hok2,⟨rfl,rfl,rfl,trivial⟩,hw⟩
 | false=>
  rw[hi,if_neg (by decide)]at hw hf
  rw[←hf,G2];unfold B9 at hw;refine A4 ?_;refine A0 rfl (fun h=>by cases h) (fun _=>?_)
  refine A4 ?_;refine L4 (by kernel_rfl) (by kernel_rfl) hw ?_
  refine Hd ?_;intro w hw;refine A0 rfl (fun h=>?_) (fun h=>?_)
  ·have h:k<toks.length:=by simp at h;omega
   rw[if_pos h];have hw:Wd Γ1 (B9 bp a n c k e.Line e.Col::.own (.slice ga gn gc) 127 15 (gs.map cG)::.blk b3 (.cells #[.slice sa sn sc,.slice ga gn gc] 26)::.blk b2 (.cells #[.slice none 0 0,.slice none 0 0] 26)::.own (.slice sa sn sc) 9 1 (A8 sel)::S) w:=hw
   refine A4 ?_;refine H0 ?_
   refine(Aa 50 ht1 hw).mono ?_
   rintro r w ⟨rfl,hw⟩
   exact⟨Γ1,k,hle1,rfl,(((hw.dropAt 1).dropAt 1).dropAt 1).dropAt 1⟩
  ·have h:¬k<toks.length:=by simp at h;omega
   rw[if_neg h];have hw:Wd Γ1 (B9 bp a n c k e.Line e.Col::.own (.slice ga gn gc) 127 15 (gs.map cG)::.blk b3 (.cells #[.slice sa sn sc,.slice ga gn gc] 26)::.blk b2 (.cells #[.slice none 0 0,.slice none 0 0] 26)::.own (.slice sa sn sc) 9 1 (A8 sel)::S) w:=hw
   refine A4 ?_;refine B0 (i:=3) ?_
   intro w hw;have hw:Wd Γ1 (.blk b2 (.cells #[.slice sa sn sc,.slice ga gn gc] 26)::.own (.slice ga gn gc) 127 15 (gs.map cG)::.own (.slice sa sn sc) 9 1 (A8 sel)::B9 bp a n c k e.Line e.Col::.blk b3 (.cells #[.slice sa sn sc,.slice ga gn gc] 26)::S) w:=hw.ps [2,1,4,3,4]
   refine A4 ?_;refine⟨[.agg #[.slice sa sn sc,.slice ga gn gc]],⟨J6 (i:=0) hw rfl rfl rfl,trivial⟩,?_⟩
   obtain⟨Γ2,hle2,hg2,hw⟩:=hw.drop.freeze;obtain⟨Γ3,hle3,hs3,hw⟩:=hw.freeze;exact⟨Γ3,_,_,gs,hle1.trans (hle2.trans hle3),rfl,⟨hs3,hg2.mono hle3,hgs,fun x hx=>(hok x hx).mono (hle2.trans hle3)⟩,hw.ds [0,0]⟩
end
end Go.Proofs.YtlimglpjpcfpdaaGreat
end
section
open Go Mk
namespace Go.Proofs.YtlimglpjpcfpdaaGreat
set_option maxHeartbeats 16000000
attribute [local irreducible] Calls cI cB H2
section
variable {Γ:B8}{S:List A7}{w:World}
theorem PQ(hw:Wd Γ S w)(args:Array Value)(hn:Nat.ble args.size 22=true) :
  CallsD Tryz.prog 39 args .returning w fun e u' w'=>e=.returned (.tuple #[])∧u'=.returning∧Wd Γ S w':=by
 refine EX Tryz.func39 rfl hn rfl rfl ?_
 refine W7 ?_
 refine P5 ?_
 refine lY (v:=.nilIface) ?_ (hy:=DK rfl)
 refine lY (v:=.bool false) ?_ (hy:=Qk Tryz.underlying20 rfl)
 refine U5 ?_
 refine A0 rfl (fun h=>by cases h) (fun _=>?_)
 refine k0 ?_
 exact⟨_,rfl,rfl,rfl,hw⟩
end
end Go.Proofs.YtlimglpjpcfpdaaGreat
end
section
open Go Mk
namespace Go.Proofs.YtlimglpjpcfpdaaGreat
set_option maxHeartbeats 4000000
attribute [local irreducible] Calls
theorem Si(a b:ByteArray):I6 (a++b)=I6 a++I6 b:=by
 unfold I6;rw[ByteArray.data_append,Array.toList_append]
theorem W8(l:List UInt8):I6 ⟨l.toArray⟩=l:=by unfold I6;simp
abbrev V8:=Int×ByteArray×Int
def Uk(t:Tok):V8:=(t.Kind,t.Text,t.Value)
def N5(l:List UInt8):ByteArray:=⟨l.toArray⟩
theorem Gs(s:ByteArray):N5 (I6 s)=s:=Ay (W8 _)
theorem Z4(l:List UInt8):(N5 l).size=l.length:=by rw[←K9];unfold N5;rw[W8]
inductive Tz:List UInt8→List V8→Prop
 | nil:Tz [] []
 | sp {c:UInt8} {l:List UInt8} {ks:List V8}:Z3 c.toNat=true→Tz l ks→Tz (c::l) ks
 | tok {c:UInt8} {p l:List UInt8} {k:Int} {t:ByteArray} {v:Nat} {ks:List V8}:Z3 c.toNat=false→(c.toNat:Int)≠35→J8 (N5 ((c::p)++l))=⟨k,t,v,(c::p).length,0⟩→Tz l ks→Tz ((c::p)++l) ((k,t,v)::ks)
theorem DO{s:ByteArray}{off:Nat}{c:UInt8}{l:List UInt8}(h:(I6 s).drop off=c::l):A5 s off=c.toNat:=by
 have h1:(I6 s)[off]? = some c:=by
  have:=List.getElem?_drop (xs:=I6 s) (i:=off) (j:=0)
  rw[h]at this;simpa using this.symm
 show (((I6 s).getD off 0).toNat:Int)=_
 rw[List.getD_eq_getElem?_getD,h1];rfl
theorem OG{s:ByteArray}{off:Nat}:E9 s off s.size=N5 ((I6 s).drop off):=by
 refine Ay ?_
 rw[f8];unfold N5;rw[W8,List.take_of_length_le (by rw[List.length_drop,K9];exact Nat.le_refl _)]
theorem LH{s:ByteArray}{off:Nat}{c:UInt8}{l:List UInt8}(h:(I6 s).drop off=c::l):off<s.size:=by
 have:=congrArg List.length h
 rw[List.length_drop,K9,List.length_cons]at this;omega
theorem RS{s:ByteArray}:∀ {l:List UInt8} {ks:List V8},Tz l ks→∀(f off:Nat) (acc:List Tok),(I6 s).drop off=l→l.length<f→∃toks,toks.map Uk=ks∧P0 s f off acc=(acc++toks,⟨0,0⟩,0):=by
 intro l ks h;induction h with
 | nil=>
  intro f off acc hd hf;obtain⟨f,rfl⟩:∃f',f=f'+1:=⟨f-1,by omega⟩
  refine⟨[],rfl,?_⟩
  have:s.size≤off:=by
   have:=congrArg List.length hd
   rw[List.length_drop,K9]at this;simp at this;omega
  unfold P0;rw[if_pos this,List.append_nil]
 | @sp c l ks hc _ ih=>
  intro f off acc hd hf;rw[List.length_cons]at hf;obtain⟨f,rfl⟩:∃f',f=f'+1:=⟨f-1,by omega⟩
  have hlt:=LH hd
  obtain⟨toks,h1,h2⟩:=ih f (off+1) acc (by rw[←List.drop_drop,hd];rfl) (by omega)
  refine⟨toks,h1,?_⟩
  unfold P0;rw[if_neg (by omega),DO hd,if_pos hc,h2]
 | @tok c p l k t v ks hc h35 ht _ ih=>
  intro f off acc hd hf;rw[List.length_append]at hf;have hp:0<(c::p).length:=by simp
  obtain⟨f,rfl⟩:∃f',f=f'+1:=⟨f-1,by omega⟩
  have hd':(I6 s).drop off=c::(p++l):=hd
  have hlt:=LH hd'
  obtain⟨toks,h1,h2⟩:=ih f (off+(c::p).length) (acc++[⟨k,t,v,(C7 s off).Line,(C7 s off).Col⟩]) (by rw[←List.drop_drop,hd,List.drop_left]) (by omega)
  refine⟨⟨k,t,v,(C7 s off).Line,(C7 s off).Col⟩::toks,by rw[List.map_cons,h1];rfl,?_⟩
  unfold P0;rw[if_neg (by omega),DO hd',if_neg (by rw[hc];decide),if_neg h35,OG,hd,ht,if_pos rfl]
  dsimp only
  rw[h2,List.append_assoc];rfl
theorem Oj{l:List UInt8}{ks:List V8}(h:Tz l ks)(hl:l.length≤65536):∃toks,toks.map Uk=ks∧H2 (N5 l)=(toks,⟨0,0⟩,0):=by
 obtain⟨toks,h1,h2⟩:=RS (s:=N5 l) h ((N5 l).size+1) 0 [] (by unfold N5;rw[W8];rfl) (by rw[Z4];omega)
 refine⟨toks,h1,?_⟩
 unfold H2;rw[if_neg (by rw[Z4];omega),h2];rfl
def Bu(l:List UInt8):Prop:=match l with|[]=>True|c::_=>I0 c=false
theorem Ng{p l:List UInt8}(hp:p.all I0=true)(hl:Bu l):runN (N5 (p++l))=p.length:=by
 unfold runN;show ((I6 (N5 (p++l))).takeWhile I0).length=_
 unfold N5;rw[W8];have:(p++l).takeWhile I0=p:=by
  rw[List.takeWhile_append_of_pos (fun x hx=>List.all_eq_true.1 hp x hx)];cases l with
  | nil=>simp
  | cons c l=>have hl:I0 c=false:=hl;simp[hl]
 rw[this]
theorem CR{p l:List UInt8}:E9 (N5 (p++l)) 0 p.length=N5 p:=by
 refine Ay ?_
 unfold N5;rw[f8,W8,W8,List.drop_zero,Nat.sub_zero,List.take_left]
theorem NJ{c:UInt8}{p l:List UInt8}(hc:F0 c.toNat=true)(hp:(c::p).all I0=true)(hl:Bu l):J8 (N5 ((c::p)++l))=⟨1,N5 (c::p),0,(c::p).length,0⟩:=by
 unfold J8;rw[if_pos (show F0 (A5 (N5 ((c::p)++l)) 0)=true from hc),Ng hp hl,CR]
theorem Ov{c:UInt8}{l:List UInt8}(hc:c=40∨c=41∨c=44):J8 (N5 ([c]++l))=⟨4,N5 [c],0,1,0⟩:=by
 have hs:(N5 ([c]++l)).size=l.length+1:=by rw[Z4];simp
 have hb:A5 (N5 ([c]++l)) 0=c.toNat:=rfl
 have h2:∀b,o0 c.toNat b=false:=fun b=>by rcases hc with q|q|q <;> subst q <;> unfold o0 <;> simp
 have hP:G0 (N5 ([c]++l))=1:=by
  unfold G0;rw[hb,h2,if_neg (by simp),if_pos ⟨by omega,by show c∈Gw;rcases hc with q|q|q <;> subst q <;> decide⟩]
 unfold J8;rw[hP,hb,if_neg (by rcases hc with q|q|q <;> subst q <;> decide),if_neg (by rcases hc with q|q|q <;> subst q <;> decide),if_neg (by rcases hc with q|q|q <;> subst q <;> decide),if_neg (by decide)]
 rw[show E9 (N5 ([c]++l)) 0 1=N5 [c] from CR (p:=[c])]
theorem Nz{c d:UInt8}{l:List UInt8}(hc:(c=46∧d=10)∨(c=45∧I5 d.toNat=true)):J8 (N5 ([c]++d::l))=⟨4,N5 [c],0,1,0⟩:=by
 have hs:(N5 ([c]++d::l)).size=l.length+2:=by rw[Z4];simp
 have hb:A5 (N5 ([c]++d::l)) 0=c.toNat:=rfl
 have hb1:A5 (N5 ([c]++d::l)) 1=d.toNat:=rfl
 have h2:o0 c.toNat d.toNat=false:=by
  rcases hc with⟨q,r⟩|⟨q,r⟩
  ·subst q;subst r;decide
  ·subst q;unfold I5 at r;simp only[Bool.and_eq_true,decide_eq_true_eq]at r
   unfold o0;simp
   omega
 have hP:G0 (N5 ([c]++d::l))=1:=by
  unfold G0;rw[hb,hb1,h2,if_neg (by simp),if_pos ⟨by omega,by show c∈Gw;rcases hc with⟨q,-⟩|⟨q,-⟩ <;> subst q <;> decide⟩]
 unfold J8;rw[hP,hb,if_neg (by rcases hc with⟨q,-⟩|⟨q,-⟩ <;> subst q <;> decide),if_neg (by rcases hc with⟨q,-⟩|⟨q,-⟩ <;> subst q <;> decide),if_neg (by rcases hc with⟨q,-⟩|⟨q,-⟩ <;> subst q <;> decide),if_neg (by decide)]
 rw[show E9 (N5 ([c]++d::l)) 0 1=N5 [c] from CR (p:=[c])]
theorem QW{p l:List UInt8}(hp:p.all V1=true):J8 (N5 ((34::(p++[34]))++l))=⟨3,N5 p,0,(34::(p++[34])).length,0⟩:=by
 have hB:I6 (N5 ((34::(p++[34]))++l))=34::(p++34::l):=by unfold N5;rw[W8];simp
 have hS:Z6 (N5 ((34::(p++[34]))++l))=p.length+1:=by
  unfold Z6;rw[hB];have:((34::(p++34::l)).drop 1).takeWhile V1=p:=by
   rw[List.drop_succ_cons,List.drop_zero,List.takeWhile_append_of_pos (fun x hx=>List.all_eq_true.1 hp x hx)];have:V1 34=false:=by decide
   simp[this]
  rw[this];omega
 have hz:(N5 ((34::(p++[34]))++l)).size=p.length+2+l.length:=by rw[Z4];simp;omega
 have hq:A5 (N5 ((34::(p++[34]))++l)) (p.length+1)=34:=by
  refine DO (c:=34) (l:=l) ?_
  rw[hB,List.drop_succ_cons,List.drop_left]
 unfold J8;rw[show A5 (N5 ((34::(p++[34]))++l)) 0=34 from rfl,if_neg (by decide),if_neg (by decide),if_pos rfl,hS,if_pos ⟨by omega,hq⟩]
 congr 1
 ·refine Ay ?_
  rw[f8,hB];unfold N5;rw[W8,List.drop_succ_cons,List.drop_zero,Nat.add_sub_cancel,List.take_left]
 ·simp
theorem V0{d:Nat}(h:d<10):(UInt8.ofNat (48+d)).toNat=48+d:=by
 rw[UInt8.toNat_ofNat'];exact Nat.mod_eq_of_lt (by omega)
theorem EI:∀(u:Nat),∀c∈Lib.decDigits u,∃d,d<10∧c=UInt8.ofNat (48+d):=by
 intro u;induction u using Nat.strongRecOn with
 | _ u ih=>
  intro c hc;rw[Lib.decDigits]at hc;split at hc
  ·rename_i h
   exact⟨u,h,List.mem_singleton.1 hc⟩
  ·rename_i h
   rcases List.mem_append.1 hc with q|q
   ·exact ih (u / 10) (by omega) c q
   ·exact⟨u%10,by omega,List.mem_singleton.1 q⟩
theorem Bz:∀(u:Nat),∃d p,d<10∧Lib.decDigits u=UInt8.ofNat (48+d)::p∧(d=0→p=[]):=by
 intro u;induction u using Nat.strongRecOn with
 | _ u ih=>
  rw[Lib.decDigits];split
  ·rename_i h
   exact⟨u,[],h,rfl,fun _=>rfl⟩
  ·rename_i h
   obtain⟨d,p,h1,h2,h3⟩:=ih (u / 10) (by omega)
   refine⟨d,p++[UInt8.ofNat (48+u%10)],h1,by rw[h2];rfl,fun q=>?_⟩
   exfalso
   have h4:=h3 q
   rw[q,h4,Lib.decDigits]at h2;split at h2
   ·rename_i h5
    have h6:=List.cons.inj h2
    have:=congrArg UInt8.toNat h6.1
    rw[V0 h5,V0 (by omega)]at this
    omega
   ·have:=congrArg List.length h2
    have h7:=Lib.nDigits_pos (u / 10 / 10)
    rw[List.length_append,Lib.decDigits_length]at this;simp at this;omega
theorem Ej{d:Nat}(h:d<10):Z9 ((UInt8.ofNat (48+d)).toNat:Int) 10=d:=by
 rw[V0 h];have hd:I5 ((48+d:Nat):Int)=true:=by
  unfold I5;rw[Bool.and_eq_true,decide_eq_true_eq,decide_eq_true_eq];omega
 unfold Z9 Cl;rw[if_pos hd,if_neg (by omega)];omega
theorem GM(b:Nat)(c:UInt8):∀(l:List UInt8) (v:Nat),Dz b (l++[c]) v=Dz b l v*b+(Z9 c.toNat b).toNat
 | [],v=>rfl
 | x::l,v=>GM b c l _
theorem Pu:∀u:Nat,Dz 10 (Lib.decDigits u) 0=u:=by
 intro u;induction u using Nat.strongRecOn with
 | _ u ih=>
  rw[Lib.decDigits];split
  ·rename_i h
   show 0*10+(Z9 ((UInt8.ofNat (48+u)).toNat:Int) ((10:Nat):Int)).toNat=u
   rw[show ((10:Nat):Int)=10 from rfl,Ej h];omega
  ·rename_i h
   rw[GM,ih (u / 10) (by omega),show ((10:Nat):Int)=10 from rfl,Ej (by omega)];omega
theorem AZ{d:Nat}(h:d<10):F0 ((UInt8.ofNat (48+d)).toNat:Int)=false∧I5 ((UInt8.ofNat (48+d)).toNat:Int)=true∧Ah ((UInt8.ofNat (48+d)).toNat:Int)=0∧((UInt8.ofNat (48+d)).toNat:Int)≠120:=by
 rw[V0 h];refine⟨?_,?_,?_,by omega⟩
 ·unfold F0;rw[decide_eq_false (show ¬(97:Int)≤((48+d:Nat):Int) by omega),decide_eq_false (show ¬(65:Int)≤((48+d:Nat):Int) by omega),decide_eq_false (show ¬((48+d:Nat):Int)=95 by omega)];rfl
 ·unfold I5;rw[Bool.and_eq_true,decide_eq_true_eq,decide_eq_true_eq];omega
 ·unfold Ah;rw[if_neg (by omega),if_neg (by omega),if_neg (by omega)]
theorem Nq(u:Nat):(Lib.decDigits u).all I0=true:=List.all_eq_true.2 fun c hc=>by
 obtain⟨d,h,rfl⟩:=EI u c hc
 obtain⟨h1,h2,-,-⟩:=AZ h
 unfold I0;rw[h1,h2];rfl
theorem Iu{l:List UInt8}{i:Nat}(h:i<l.length):∃c∈l,A5 (N5 l) i=c.toNat:=by
 refine⟨l[i],List.getElem_mem h,?_⟩
 show (((I6 (N5 l)).getD i 0).toNat:Int)=_
 unfold N5;rw[W8,List.getD_eq_getElem?_getD,List.getElem?_eq_getElem h];rfl
theorem Qm{u:Nat}(hu:u≤18446744073709551615):BM (N5 (Lib.decDigits u))=(u,0):=by
 obtain⟨d,p,hd,hp,h0⟩:=Bz u
 have hl:0<(Lib.decDigits u).length:=by rw[hp];simp
 obtain⟨c,hc,hb⟩:=Iu (l:=Lib.decDigits u) (i:=(Lib.decDigits u).length-1) (by omega)
 have hsz:=Z4 (Lib.decDigits u)
 have hsh:Ah (A5 (N5 (Lib.decDigits u)) ((N5 (Lib.decDigits u)).size-1))=0:=by
  rw[hsz,hb];obtain⟨d2,h2,rfl⟩:=EI u c hc
  exact(AZ h2).2.2.1
 have hno:¬(2≤(N5 (Lib.decDigits u)).size∧A5 (N5 (Lib.decDigits u)) 0=48∧A5 (N5 (Lib.decDigits u)) 1=120):=fun q=>by
  obtain⟨c2,hc2,hb2⟩:=Iu (l:=Lib.decDigits u) (i:=1) (by omega)
  obtain⟨d2,h2,rfl⟩:=EI u c2 hc2
  exact(AZ h2).2.2.2 (hb2.symm.trans q.2.2)
 have hlz:¬((N5 (Lib.decDigits u)).size=0∨(1<(N5 (Lib.decDigits u)).size∧A5 (N5 (Lib.decDigits u)) 0=48)):=fun q=>by
  rcases q with q|⟨q1,q2⟩
  ·omega
  ·have hb0:A5 (N5 (Lib.decDigits u)) 0=((UInt8.ofNat (48+d)).toNat:Int):=by rw[hp];rfl
   rw[hb0,V0 hd]at q2;have:=h0 (by omega)
   rw[hsz,hp,this]at q1;simp at q1
 have hall:(Lib.decDigits u).all (fun c=>decide (0≤Z9 c.toNat ((10:Nat):Int)))=true:=List.all_eq_true.2 fun c hc=>by
  obtain⟨d2,h2,rfl⟩:=EI u c hc
  rw[show ((10:Nat):Int)=10 from rfl,Ej h2];exact decide_eq_true (by omega)
 have hcore:S5 10 0 (Lib.decDigits u)=(u,0):=by
  unfold S5;rw[hall,if_neg (by decide),Pu,if_neg (by show ¬18446744073709551615 >>> 0<u;rw[Nat.shiftRight_zero];omega),Nat.shiftLeft_zero]
 unfold BM;simp only[hsh]
 rw[if_neg (show ¬(0:Nat)<0 by decide),if_neg hno,if_neg hlz]
 unfold N5;rw[W8];exact hcore
theorem QT{u:Nat}(hu:u≤18446744073709551615){l:List UInt8}(hl:Bu l):J8 (N5 (Lib.decDigits u++l))=⟨2,⟨#[]⟩,u,(Lib.decDigits u).length,0⟩:=by
 have hr:=Ng (Nq u) hl
 have hs:E9 (N5 (Lib.decDigits u++l)) 0 (Lib.decDigits u).length=N5 (Lib.decDigits u):=CR
 have hn:=Qm hu
 obtain⟨d,p,hd,hp,-⟩:=Bz u
 have hb:A5 (N5 (Lib.decDigits u++l)) 0=((UInt8.ofNat (48+d)).toNat:Int):=by rw[hp];rfl
 obtain⟨h1,h2,-,-⟩:=AZ hd
 unfold J8;rw[hr,hs,hn,hb,if_neg (by rw[h1];decide),if_pos h2,if_pos rfl]
theorem Tz.word{t:ByteArray}{l:List UInt8}{ks:List V8}(ht:W2 t=true)(hl:Bu l)(h:Tz l ks):Tz (I6 t++l) ((1,t,0)::ks):=by
 unfold W2 at ht;simp only[Bool.and_eq_true,decide_eq_true_eq]at ht
 obtain⟨⟨h0,h1⟩,h2⟩:=ht;have hb:0<(I6 t).length:=by rw[K9];exact h0
 have h1:F0 (((I6 t).getD 0 0).toNat:Int)=true:=h1
 have h2:(I6 t).all I0=true:=h2
 have hm:=Gs t
 generalize I6 t=b at *
 cases b with
 | nil=>simp at hb
 | cons c p=>
  have hc:F0 (c.toNat:Int)=true:=h1
  have hk:=NJ hc h2 hl
  rw[hm]at hk;have hsp:Z3 (c.toNat:Int)=false∧(c.toNat:Int)≠35:=by
   unfold F0 at hc;simp only[Bool.or_eq_true,Bool.and_eq_true,decide_eq_true_eq]at hc
   unfold Z3;simp only[Bool.or_eq_false_iff,decide_eq_false_iff_not]
   omega
  exact Tz.tok (v:=0) hsp.1 hsp.2 hk h
theorem Tz.num{u:Nat}(hu:u≤18446744073709551615){l:List UInt8}{ks:List V8}(hl:Bu l)(h:Tz l ks):Tz (Lib.decDigits u++l) ((2,⟨#[]⟩,(u:Nat))::ks):=by
 have hk:=QT hu hl
 obtain⟨d,p,hd,hp,-⟩:=Bz u
 rw[hp]at hk ⊢
 refine Tz.tok (v:=u) ?_ ?_ hk h
 ·rw[V0 hd];unfold Z3;simp only[Bool.or_eq_false_iff,decide_eq_false_iff_not];omega
 ·rw[V0 hd];omega
theorem Tz.p1{c:UInt8}{l:List UInt8}{ks:List V8}(hc:c=40∨c=41∨c=44)(h:Tz l ks):Tz (c::l) ((4,N5 [c],0)::ks):=
 Tz.tok (c:=c) (p:=[]) (v:=0) (by rcases hc with q|q|q <;> subst q <;> decide) (by rcases hc with q|q|q <;> subst q <;> decide) (Ov hc) h
theorem Tz.p2{c d:UInt8}{l:List UInt8}{ks:List V8}(hc:(c=46∧d=10)∨(c=45∧I5 d.toNat=true))(h:Tz (d::l) ks):Tz (c::d::l) ((4,N5 [c],0)::ks):=
 Tz.tok (c:=c) (p:=[]) (v:=0) (by rcases hc with⟨q,-⟩|⟨q,-⟩ <;> subst q <;> decide) (by rcases hc with⟨q,-⟩|⟨q,-⟩ <;> subst q <;> decide) (Nz hc) h
theorem Tz.str{t:ByteArray}{l:List UInt8}{ks:List V8}(ht:(I6 t).all V1=true)(h:Tz l ks):Tz ((34::(I6 t++[34]))++l) ((3,t,0)::ks):=by
 have hk:=QW (l:=l) (p:=I6 t) ht
 rw[Gs]at hk;exact Tz.tok (v:=0) (by decide) (by decide) hk h
def OC(t:Tok):Prop:=(t.Kind=1→W2 t.Text=true)∧(t.Kind=3→Af t.Text=true)
theorem RV{s:ByteArray}{k:Nat}:I6 (E9 s 0 k)=(I6 s).take k:=by rw[f8,List.drop_zero,Nat.sub_zero]
theorem k13:¬(1:Int)=3:=by decide
theorem k31:¬(3:Int)=1:=by decide
theorem k21:¬(2:Int)=1:=by decide
theorem k23:¬(2:Int)=3:=by decide
theorem UW:¬(0:Int)=1:=by decide
theorem Uh:¬(0:Int)=3:=by decide
theorem k41:¬(4:Int)=1:=by decide
theorem k43:¬(4:Int)=3:=by decide
theorem Px{s:ByteArray}(h0:0<s.size):((J8 s).kind=1→W2 (J8 s).text=true)∧((J8 s).kind=3→Af (J8 s).text=true):=by
 unfold J8;by_cases h1:F0 (A5 s 0)=true
 ·rw[if_pos h1];refine⟨fun _=>?_,fun q=>absurd q k13⟩
  have hl:0<(I6 s).length:=by rw[K9];exact h0
  have htw:I6 (E9 s 0 (runN s))=(I6 s).takeWhile I0:=by
   rw[RV];unfold runN;exact(List.prefix_iff_eq_take.1 (List.takeWhile_prefix I0)).symm
  have h1':F0 (((I6 s).getD 0 0).toNat:Int)=true:=h1
  unfold W2;show (decide (0<(E9 s 0 (runN s)).size)&&F0 (((I6 (E9 s 0 (runN s))).getD 0 0).toNat:Int)&&(I6 (E9 s 0 (runN s))).all I0)=true
  rw[←K9,htw];generalize I6 s=b at *
  cases b with
  | nil=>simp at hl
  | cons c p=>
   have hc:F0 (c.toNat:Int)=true:=h1'
   have hw:I0 c=true:=by unfold I0;rw[hc];rfl
   rw[List.takeWhile_cons,if_pos hw];simp only[Bool.and_eq_true,decide_eq_true_eq]
   refine⟨⟨by simp,hc⟩,?_⟩
   rw[List.all_cons,hw,Bool.true_and];exact List.all_eq_true.2 fun x hx=>List.all_eq_true.1 List.all_takeWhile x hx
 rw[if_neg h1];by_cases h2:I5 (A5 s 0)=true
 ·rw[if_pos h2];split
  ·exact⟨fun q=>absurd q k21,fun q=>absurd q k23⟩
  ·exact⟨fun q=>absurd q UW,fun q=>absurd q Uh⟩
 rw[if_neg h2];by_cases h3:A5 s 0=34
 ·rw[if_pos h3];split
  ·refine⟨fun q=>absurd q k31,fun _=>?_⟩
   unfold Af;have:I6 (E9 s 1 (Z6 s))=((I6 s).drop 1).takeWhile V1:=by
    rw[f8];unfold Z6;rw[Nat.add_sub_cancel_left];exact(List.prefix_iff_eq_take.1 (List.takeWhile_prefix V1)).symm
   show (I6 (E9 s 1 (Z6 s))).all V1=true
   rw[this];exact List.all_takeWhile
  ·exact⟨fun q=>absurd q UW,fun q=>absurd q Uh⟩
 rw[if_neg h3];split
 ·exact⟨fun q=>absurd q UW,fun q=>absurd q Uh⟩
 ·exact⟨fun q=>absurd q k41,fun q=>absurd q k43⟩
theorem CE{s:ByteArray}:∀(f off:Nat) (acc:List Tok),(∀t∈acc,OC t)→∀t∈(P0 s f off acc).1,OC t
 | 0,off,acc,h=>h
 | f+1,off,acc,h=>by
  unfold P0;split
  ·exact h
  ·rename_i h0
   split
   ·exact CE f _ acc h
   ·split
    ·exact CE f _ acc h
    ·split
     ·refine CE f _ _ fun t ht=>?_
      rcases List.mem_append.1 ht with q|q
      ·exact h t q
      ·rw[List.mem_singleton.1 q];exact Px (by rw[Y7 (Nat.le_refl _)];omega)
     ·exact fun t ht=>by cases ht
theorem Mz{s:ByteArray}:∀t∈(H2 s).1,OC t:=by
 unfold H2;split
 ·exact fun t ht=>by cases ht
 ·exact CE _ _ [] fun t ht=>by cases ht
theorem NU{t:ByteArray}(h:W2 t=true):Af t=true:=by
 unfold W2 at h;simp only[Bool.and_eq_true]at h
 have h2:(I6 t).all I0=true:=h.2
 refine List.all_eq_true.2 fun c hc=>?_
 have:=List.all_eq_true.1 h2 c hc
 unfold I0 F0 I5 at this;unfold V1 Z5;simp only[Bool.or_eq_true,Bool.and_eq_true,decide_eq_true_eq]at this ⊢
 omega
end Go.Proofs.YtlimglpjpcfpdaaGreat
end
section
open Go Mk
namespace Go.Proofs.YtlimglpjpcfpdaaGreat
set_option maxHeartbeats 16000000
attribute [local irreducible] Calls cI cB H2 AW
def j4(s:ByteArray):E7×F1×Int:=if (H2 s).2.2=0 then (match AW (H2 s).1 (Ac s) 0 with|.ok (q,_)=>(q,⟨0,0⟩,0)|.error (p,er)=>(⟨[],[]⟩,p,er)) else (⟨[],[]⟩,(H2 s).2.1,(H2 s).2.2)
def Bs(b2 b3 b4:Nat)(h0:Array Value)(p0:F1)(e0:Int)(S:List A7):List A7:=.blk b2 (.cells h0 26)::.blk b3 (.cells (enc p0).toArray 44)::.blk b4 (.cells #[.int .i64 e0] 45)::S
theorem Jx{s:ByteArray}:EE (H2 s).1:=fun k hk=>by
 have h:K8 (H2 s).1 k∈(H2 s).1:=by
  have hl:=u9 (toks:=(H2 s).1) (at':=k) (by rw[hk];decide)
  unfold K8;rw[List.getD_eq_getElem?_getD,List.getElem?_eq_getElem hl];exact List.getElem_mem hl
 have hw:=(Mz _ h).1 hk
 unfold W2 at hw;simp only[Bool.and_eq_true,decide_eq_true_eq]at hw
 exact hw.1.1
theorem Oq(Γ:B8):QR Γ (.slice none 0 0) (.slice none 0 0) [] ⟨[],[]⟩:=⟨D3.nil,D3.nil,rfl,fun x hx=>by cases hx⟩
section
variable {Γ:B8}{S:List A7}{w:World}{b2 b3 b4:Nat}{h0:Array Value}{p0:F1}{e0:Int}
theorem OR{p:F1}{er:Int}(hz:h0.size=2)(hw:Wd Γ (Bs b2 b3 b4 h0 p0 e0 S) w) :
  CallsD Tryz.prog 39 #[.pointer (some ⟨b2,0,none⟩),.pointer (some ⟨b3,0,none⟩),.pointer (some ⟨b4,0,none⟩)] (.panicking [x7 p er]) w fun e u' w'=>
   e=.returned (.tuple #[])∧settle u'=.returning∧Wd Γ (Bs b2 b3 b4 #[.slice none 0 0,.slice none 0 0] p er S) w':=by
 refine EX Tryz.func39 rfl rfl rfl rfl ?_
 obtain⟨c1,c2,rfl⟩:∃c1 c2,h0 = #[c1,c2]:=by
  obtain⟨l⟩:=h0;match l,hz with
  | [c1,c2],_=>exact⟨c1,c2,rfl⟩
 unfold Bs at hw;have hv:(Cd (.panicking [x7 p er])).1=.iface 103 (.agg #[.int .i64 p.Line,.int .i64 p.Col,.int .i64 er]):=rfl
 rw[hv];refine W7 ?_
 refine P5 ?_
 refine lY (v:=.iface 103 (.agg #[.int .i64 p.Line,.int .i64 p.Col,.int .i64 er])) ?_ (hy:=DK rfl)
 refine lY (v:=.bool true) ?_ (hy:=Qa Tryz.underlying20 rfl)
 refine U5 ?_
 refine A0 rfl (fun _=>?_) (fun h=>by cases h)
 refine W7 ?_
 refine P5 ?_
 refine lY (v:=.iface 103 (.agg #[.int .i64 p.Line,.int .i64 p.Col,.int .i64 er])) ?_ (hy:=DK rfl)
 refine lY (v:=.tuple #[.agg #[.int .i64 p.Line,.int .i64 p.Col,.int .i64 er],.bool true]) ?_ (hy:=Ka Tryz.underlying103 rfl)
 refine A4 ?_;refine B2 ?_;intro b5 w hw;refine A4 ?_;refine B0 ?_;intro w hw;have hw:Wd Γ (.blk b5 (.cells #[.int .i64 p.Line,.int .i64 p.Col,.int .i64 er] 103)::.blk b2 (.cells #[c1,c2] 26)::.blk b3 (.cells (enc p0).toArray 44)::.blk b4 (.cells #[.int .i64 e0] 45)::S) w:=hw
 refine A4 ?_;refine A0 rfl (fun h=>by cases h) (fun _=>?_)
 refine A4 ?_;refine BJ [] [fun _=>[.blk b5 _],fun _=>[.blk b2 _],fun _=>[.blk b3 _],fun _=>.blk b4 _::S] [[],[],[],[],[],[1],[2],[3]] [[],[],[0],[],[0],[1],[2],[3]] [[],[],[],[]] (by simpa[List.range,List.range.loop,ML] using hw) ?_
 refine i9 ?_;refine Q2 (c:=1) ?_
 refine Q2 (c:=2) ?_
 refine Q2 (c:=3) ?_
 refine G6 ?_
 intro w hw;have hw:Wd Γ ((.blk b5 (.cells #[.int .i64 p.Line,.int .i64 p.Col,.int .i64 er] 103)::Bs b2 b3 b4 #[.slice none 0 0,.slice none 0 0] p er S)++[]) w:=hw
 rw[List.append_nil]at hw;exact⟨_,rfl,rfl,rfl,hw.drop⟩
end
section
variable {Γ:B8}{S:List A7}{w:World}
set_option maxRecDepth 8000 in
theorem KL(s:ByteArray)(hs:s.size≤1000000)(hw:Wd Γ S w) :
  Calls Tryz.prog 9 #[.string s] w fun r w'=>∃Γ' vs vg gs,Γ.le Γ'∧r=.returned (.tuple #[.agg #[vs,vg],.agg (enc (j4 s).2.1).toArray,.int .i64 (j4 s).2.2])∧QR Γ' vs vg gs (j4 s).1∧Wd Γ' S w':=by
 haveI hL:=MW s (by omega)
 haveI hCn:=Jf s
 have hlin:=LJ (s:=s) (k:=s.size) (Nat.le_refl _)
 rw[List.take_of_length_le (by simp)]at hlin
 have hcnt:s.data.toList.count 10≤s.size:=by
  have:=List.count_le_length (a:=(10:UInt8)) (l:=s.data.toList)
  simpa using this
 have hcol:1≤(Ac s).Col∧(Ac s).Col≤s.size+1:=by
  have:∀k,1≤(C7 s k).Col∧(C7 s k).Col≤k+1:=fun k=>by
   induction k with
   | zero=>simp[C7]
   | succ k ih=>
    unfold C7;split
    ·simp;omega
    ·simp;omega
  exact this _
 refine Dn Tryz.func9 rfl rfl ?_
 refine x5 (CM ?_)
 refine A4 ?_;refine B2 ?_;intro b2 w hw;refine B2 ?_;intro b3 w hw;refine B2 ?_;intro b4 w hw;refine U5 ?_
 have hw:Wd Γ (Bs b2 b3 b4 #[.slice none 0 0,.slice none 0 0] ⟨0,0⟩ 0 S) w:=hw.ps [1,2]
 unfold Bs at hw;refine x5 (CM ?_)
 refine A4 ?_;refine C5 ?_;refine(OJ Γ _ w s (Nat.le_trans hs (by decide)) hw).mono ?_
 clear hw;rintro r w ⟨v,rfl,hw⟩
 refine⟨_,rfl,?_⟩;refine A4 ?_;refine B0 (i:=2) ?_
 intro w hw;refine B0 (i:=3) ?_
 intro w hw;refine U5 ?_
 have hw:Wd Γ (.own v 178 5 ((H2 s).1.map enc)::Bs b2 b3 b4 #[.slice none 0 0,.slice none 0 0] (H2 s).2.1 (H2 s).2.2 S) w:=hw
 unfold Bs at hw;refine x5 (x5 (CM ?_))
 refine A4 ?_;refine CW rfl (fun h=>?_) (fun h=>?_)
 ·have h:¬(H2 s).2.2=0:=by simpa using h
  have hP:j4 s=(⟨[],[]⟩,(H2 s).2.1,(H2 s).2.2):=by unfold j4;rw[if_neg h]
  rw[hP];refine CM ?_
  refine A4 ?_;refine BJ [] [fun _=>[.own v _ _ _],fun _=>[.blk b2 _],fun _=>[.blk b3 _],fun _=>.blk b4 _::S] [[],[],[],[1],[2],[3]] [[],[2],[3],[1],[2],[3]] [[],[],[],[]] (by simpa[List.range,List.range.loop,ML] using hw) ?_
  refine i9 ?_;refine Q2 (c:=1) ?_
  refine Q2 (c:=2) ?_
  refine Q2 (c:=3) ?_
  refine G6 ?_
  intro w hw;have hw:Wd Γ ((.own v 178 5 ((H2 s).1.map enc)::Bs b2 b3 b4 #[.slice none 0 0,.slice none 0 0] (H2 s).2.1 (H2 s).2.2 S)++[]) w:=hw
  rw[List.append_nil]at hw;refine A4 ?_;have hw:=hw.drop
  unfold Bs at hw;intro a ha hsz;exact⟨_,T9 (vs:=[.agg #[.slice none 0 0,.slice none 0 0],.agg (enc (H2 s).2.1).toArray,.int .i64 (H2 s).2.2]) (by decide) (by rw[ha];exact⟨J6 (i:=0) hw rfl rfl rfl,J6 (i:=1) hw rfl rfl rfl,Sg (i:=2) hw rfl rfl rfl,trivial⟩),Γ,_,_,[],B8.le.refl _,rfl,Oq Γ,hw.ds [0,0,0]⟩
 have h:(H2 s).2.2=0:=by simpa using h
 have hP:j4 s=(match AW (H2 s).1 (Ac s) 0 with|.ok (q,_)=>(q,⟨0,0⟩,0)|.error (p,er)=>(⟨[],[]⟩,p,er)):=by unfold j4;rw[if_pos h]
 rw[hP];clear hP;have hwo:=Jx (s:=s)
 generalize (H2 s).2.1=p1 at *
 generalize (H2 s).2.2=e1 at *
 have hlen:=Mi (s:=s)
 generalize (H2 s).1=toks at *
 obtain⟨at',n,c,rfl,hn,-,-⟩:=hw.own_shape (i:=0) rfl
 simp only[List.length_map]at hn
 obtain⟨Γ1,hle,ht,hw⟩:=hw.freeze;refine CM (k0 ?_)
 refine x5 (EW ?_)
 refine LI ((AH (first:=[]) (cap:=[.tmp 2,.tmp 3,.tmp 4]) (f1:=[]) (c1:=[.pointer (some ⟨b2,0,none⟩),.pointer (some ⟨b3,0,none⟩),.pointer (some ⟨b4,0,none⟩)]) EvL.nil (EvL.cons rfl (EvL.cons rfl (EvL.cons rfl EvL.nil)))).step ?_)
 refine Gi ?_
 refine OW ?_
 refine x5 (Ap ?_)
 refine A4 ?_;refine x5 (Ap ?_)
 refine A4 ?_;refine E5 ?_;intro bp w hw;refine A4 ?_;have hw:Wd Γ1 (B9 bp at' n c 0 (((s.data.toList.count 10:Nat):Int)+1) ((s.size:Int)-((s.size:Int)-(Ac s).Col))::Bs b2 b3 b4 #[.slice none 0 0,.slice none 0 0] p1 e1 S) w:=hw
 rw[show (((s.data.toList.count 10:Nat):Int)+1)=(Ac s).Line from by unfold Ac;rw[hlin];omega,show (s.size:Int)-((s.size:Int)-(Ac s).Col)=(Ac s).Col from by omega]at hw
 refine x5 (Ap ?_)
 refine A4 ?_;refine H0 ?_
 refine(TK hwo (Nat.zero_le _) (by omega) ht hw).mono ?_
 clear hw;rintro r w hr
 cases hH:AW toks (Ac s) 0 with
 | error q=>
  obtain⟨p,er⟩:=q;rw[hH]at hr;obtain⟨Γ2,k,hle2,rfl,hw⟩:=hr;have hw:=hw.drop
  intro a ha hsz;refine leaves_cons (by simp) rfl ((OR rfl hw).mono ?_)
  rintro e u' w ⟨rfl,hu,hw⟩
  show Leaves _ _ _ _ [] (settle u') w
  rw[hu];unfold Bs at hw;exact⟨_,T9 (vs:=[.agg #[.slice none 0 0,.slice none 0 0],.agg (enc p).toArray,.int .i64 er]) (by decide) (by rw[ha];exact⟨J6 (i:=0) hw rfl rfl rfl,J6 (i:=1) hw rfl rfl rfl,Sg (i:=2) hw rfl rfl rfl,trivial⟩),Γ2,_,_,[],hle.trans hle2,rfl,Oq Γ2,hw.ds [0,0,0]⟩
 | ok q=>
  obtain⟨q,k⟩:=q;rw[hH]at hr;obtain⟨Γ2,vs,vg,gs,hle2,rfl,hq,hw⟩:=hr;unfold Bs at hw;obtain⟨ga,gn,gc,rfl,hgn,hgnc,hgc⟩:=hq.goals.shape;obtain⟨sa,sn,sc,rfl,hsn,hsnc,hsc⟩:=hq.sel.shape;show L _ _ _ _ _ _ _
  refine A4 ?_;refine B0 (i:=0) ?_
  intro w hw;refine B0 (i:=1) ?_
  intro w hw;refine B0 (i:=2) ?_
  intro w hw;have hw:Wd Γ2 (Bs b2 b3 b4 #[.slice sa sn sc,.slice ga gn gc] ⟨0,0⟩ 0 S) w:=hw
  refine U5 ?_
  refine Pg ?_
  intro a ha hsz;refine leaves_cons (by simp) rfl ((PQ hw _ rfl).mono ?_)
  rintro e u' w ⟨rfl,rfl,hw⟩
  show Leaves _ _ _ _ [] .returning w
  unfold Bs at hw;exact⟨_,T9 (vs:=[.agg #[.slice sa sn sc,.slice ga gn gc],.agg (enc (⟨0,0⟩:F1)).toArray,.int .i64 0]) (by decide) (by rw[ha];exact⟨J6 (i:=0) hw rfl rfl rfl,J6 (i:=1) hw rfl rfl rfl,Sg (i:=2) hw rfl rfl rfl,trivial⟩),Γ2,_,_,gs,hle.trans hle2,rfl,hq,hw.ds [0,0,0]⟩
end
end Go.Proofs.YtlimglpjpcfpdaaGreat
end
section
open Go
namespace Mk
attribute [local irreducible] Calls
theorem OS{A B C:List A7}:(A++((B++[])++C)).Perm (B++(A++C)):=by
 rw[List.append_nil];exact List.perm_append_comm_assoc _ _ _
theorem NQ{A B C:List A7}:(A++(B++(C++[]))).Perm (C++(A++B)):=by
 rw[List.append_nil,←List.append_assoc];exact List.perm_append_comm
def A7.kn(Γ0:B8)(p:B8→Prop)(hp:∀Γ Γ':B8,Γ.le Γ'→p Γ→p Γ'):A7 where
 holds m bs _:=bs=[]∧p { Γ0 with imm:=m }
 loc m m' bs h h' hm _:=by
  rintro⟨h1,h2⟩;exact⟨h1,hp { Γ0 with imm:=m } { Γ0 with imm:=m' } ⟨hm,rfl,rfl,rfl,rfl⟩ h2⟩
section
variable {Γ0 Γ:B8}{p:B8→Prop}{hp:∀Γ Γ':B8,Γ.le Γ'→p Γ→p Γ'}{S:List A7}{w:World}
theorem Wd.knIn(hl:Γ0.le Γ)(h:p Γ)(hw:Wd Γ S w):Wd Γ (A7.kn Γ0 p hp::S) w:=by
 obtain⟨bss,h1,h2,h3⟩:=hw.own;have h4:p { Γ0 with imm:=Γ.imm }:=hp Γ _ (by
  obtain⟨-,e1,e2,e3,e4⟩:=hl;exact⟨fun _ _ h=>h,e1.symm,e2.symm,e3.symm,e4.symm⟩) h
 exact⟨hw.os,hw.tape,hw.out,hw.dr,hw.imm,[]::bss,⟨⟨rfl,h4⟩,h1⟩,by simpa using h2,by simpa using h3⟩
theorem Wd.knOut{i:Nat}(hl:Γ0.le Γ)(hw:Wd Γ S w)(hi:S[i]? = some (A7.kn Γ0 p hp)):p Γ:=by
 obtain⟨bss,h1,h2,h3⟩:=hw.own;obtain⟨bs,_,hr⟩:=Holds.get S bss i _ h1 hi
 obtain⟨-,h⟩:=hr;refine hp { Γ0 with imm:=Γ.imm } Γ ?_ h
 obtain⟨-,e1,e2,e3,e4⟩:=hl;exact⟨fun _ _ h=>h,e1,e2,e3,e4⟩
end
section
variable {P:Program}{n:Nat}{ops:List Oper}{Γ:B8}{K:List A7}{wr tc stab:List (List Nat)}{Q:Fr→World→Prop}{i:Nat}{rest:List Oper}{ρ:Fr}{M:Nat→Fr→List A7}{v:Value}{o:Oper}
theorem gM2{c c2:Nat}(m m2:Fr→List A7)(hs:∀Γ' Y w g,Γ.le Γ'→Wd Γ' (K++(D5 tc stab i M g++Y)) w→Step P o (D6 stab.flatten g ρ) w fun u w'=>∃Γ'',Γ'.le Γ''∧Wd Γ'' (K++(D5 tc stab i (G9 (G9 M c m) c2 m2) (C3 g o.dst u)++Y)) w'∧(Q6 stab o.dst=false→u=v))
  (h:MSw (Hg P n ops Γ K wr tc stab) Q (i+1) rest ⟨C3 ρ o.dst v,G9 (G9 M c m) c2 m2⟩) (hw0:wr.getD i []=[c,c2]) (hg:o.guard=none):MSw (Hg P n ops Γ K wr tc stab) Q i (o::rest) ⟨ρ,M⟩:=by
 have hn:Mt.nxt (Hg P n ops Γ K wr tc stab) i ⟨ρ,M⟩ ⟨v,G9 (G9 M c m) c2 m2⟩=G9 (G9 M c m) c2 m2:=by
  funext y
  simp only[Mt.nxt,O4.w,hw0]
  unfold G9;by_cases h1:y=c <;> by_cases h2:y=c2 <;> simp[h1,h2]
 refine⟨⟨v,G9 (G9 M c m) c2 m2⟩,⟨fun Γ' Y w g hr hw=>?_⟩,?_⟩
 ·have hle:Γ.le Γ':=hr
  rw[hn];refine⟨fun _=>(hs Γ' Y w g hle hw).mono fun u w' ⟨Γ'',h0,h1,h2⟩=>⟨Γ'',h0,h1,h2⟩,fun hf=>?_⟩
  rw[M5 hg]at hf;cases hf
 ·simp only[Mt.next,hn];exact h
theorem gS2{c c2:Nat}{F G:Fr→List A7}(F' G':Fr→List A7)
  (hs:∀Γ' g w Y,Γ.le Γ'→Wd Γ' (F (D6 (stab.getD c []) g C6)++(G (D6 (stab.getD c2 []) g C6)++(K++Y))) w→Step P o (D6 stab.flatten g ρ) w fun u w'=>∃Γ'',Γ'.le Γ''∧(Q6 stab o.dst=false→u=v)∧Wd Γ'' (F' (D6 (stab.getD c []) (C3 g o.dst u) C6)++(G' (D6 (stab.getD c2 []) (C3 g o.dst u) C6)++(K++Y))) w')
  (h:MSw (Hg P n ops Γ K wr tc stab) Q (i+1) rest ⟨C3 ρ o.dst v,G9 (G9 M c F') c2 G'⟩) (hM:M c=F) (hM2:M c2=G) (hw0:wr.getD i []=[c,c2]:=by exact rfl) (ht:tc.getD i []=[c,c2]:=by exact rfl) (hcc:Nat.beq c c2=false:=by exact rfl) (hg:o.guard=none:=by exact rfl) :
  MSw (Hg P n ops Γ K wr tc stab) Q i (o::rest) ⟨ρ,M⟩:=by
 have hne:c≠c2:=fun e=>by subst e;simp at hcc
 refine gM2 _ _ (fun Γ' Y w g hle hw=>?_) h hw0 hg
 rw[AD ht,hM,hM2]at hw;have hw1:=(hw.perm (by rw[List.append_assoc];exact(List.perm_append_comm_assoc _ _ _).trans (List.Perm.append_left _ (List.perm_append_comm_assoc _ _ _)))  : Wd Γ' (F (D6 (stab.getD c []) g C6)++(G (D6 (stab.getD c2 []) g C6)++(K++Y))) w)
 refine(hs Γ' g w Y hle hw1).mono ?_
 rintro u w' ⟨Γ'',h0,h2,h3⟩
 refine⟨Γ'',h0,?_,h2⟩
 rw[AD ht,A6,A1 hne,A6];exact h3.perm (by rw[List.append_assoc];exact((List.perm_append_comm_assoc _ _ _).trans (List.Perm.append_left _ (List.perm_append_comm_assoc _ _ _))).symm)
variable {d:Option Tmp}{ty:TypeId}{pos:String}{es:Array Edge}{f:Nat}{args:List Operand}{tys:Array TypeId}{vs:List Value}
end
end Mk
end
section
open Go Mk
namespace Go.Proofs.YtlimglpjpcfpdaaGreat
set_option maxHeartbeats 4000000
attribute [local irreducible] Calls
theorem D3.imm{Γ Γ0:B8}{v:Value}{sz:Nat}{rows:List (List Value)}(e:Γ0.imm=Γ.imm)(h:D3 Γ0 v sz rows):D3 Γ v sz rows:=by
 unfold D3 at h ⊢
 rw[e]at h;exact h
def pT(c:UInt8):V8:=(4,N5 [c],0)
def M6(n:Int):List V8:=if n<0 then [pT 45,(2,⟨#[]⟩,(n.natAbs:Nat))] else [(2,⟨#[]⟩,(n.toNat:Nat))]
def Bv(w:ByteArray):Bool:=F9 w && !Fp w && !decide (w=I8) && !T0 w
def An(v:Val):List V8:=if v.Kind=1 then M6 v.Num else if Bv v.Word=true then [(1,v.Word,0)] else [(3,v.Word,0)]
def T6(o:K0):List V8:=if o.Var≠D8 then [(1,o.Var,0)] else An o.Const
def oTail(os:List K0):List V8:=os.flatMap fun o=>pT 44::T6 o
def Av(v:Int):List V8:=if v=0 then [] else if 0<v then [pT 43,(2,⟨#[]⟩,(v.toNat:Nat))] else [pT 45,(2,⟨#[]⟩,(v.natAbs:Nat))]
def w7:List K0→List V8
 | []=>[]
 | o::os=>T6 o++oTail os
def y7(g:F5):List V8:=
 if g.Kind=3 then T6 g.L++(4,j0.getD g.Op.toNat D8,0)::(T6 g.R++Av g.Off)
 else if g.Kind=4 then (1,g.L.Var,0)::(1,Hi,0)::(M6 g.Low++(4,Dj,0)::M6 g.High)
 else (if g.Kind=2 then [(1,X7,0)] else [])++(1,g.Rel,0)::pT 40::(w7 g.Args++[pT 41])
def gTail(gs:List F5):List V8:=gs.flatMap fun g=>pT 44::y7 g
def sTail(ss:List ByteArray):List V8:=ss.flatMap fun s=>[pT 44,(1,s,0)]
def Oa:List ByteArray→List V8
 | []=>[]
 | s::ss=>(1,s,0)::sTail ss
def Y0:List F5→List V8
 | []=>[]
 | g::gs=>y7 g++gTail gs
def Kf(q:E7):List V8:=(1,HM,0)::(Oa q.Sel++(1,J4,0)::Y0 q.Goals)
section
variable {toks:List Tok}{e:F1}
def G8(toks:List Tok)(k:Nat)(ks:List V8):Prop:=(toks.drop k).map Uk=ks
theorem G8.tk{k:Nat}{kd v:Int}{tx:ByteArray}{ks:List V8}(h:G8 toks k ((kd,tx,v)::ks)):(K8 toks k).Kind=kd∧(K8 toks k).Text=tx∧(K8 toks k).Value=v∧k<toks.length:=by
 unfold G8 at h;cases hd:toks.drop k with
 | nil=>rw[hd]at h;cases h
 | cons x l=>
  rw[hd]at h;have h1:=(List.cons.inj h).1
  have hx:toks[k]? = some x:=by
   have:=List.getElem?_drop (xs:=toks) (i:=k) (j:=0)
   rw[hd]at this;simpa using this.symm
  have h2:(x.Kind,x.Text,x.Value)=(kd,tx,v):=h1
  obtain⟨rfl,h3⟩:=Prod.mk.inj h2
  obtain⟨rfl,rfl⟩:=Prod.mk.inj h3
  unfold K8;rw[List.getD_eq_getElem?_getD,hx];exact⟨rfl,rfl,rfl,(List.getElem?_eq_some_iff.1 hx).1⟩
theorem G8.next{k:Nat}{t:V8}{ks:List V8}(h:G8 toks k (t::ks)):G8 toks (k+1) ks:=by
 unfold G8 at *
 rw[←List.drop_drop,List.map_drop,h];rfl
theorem G8.iq{k:Nat}{kind:Int}{text:ByteArray}{v:Int}{ks:List V8}(h:G8 toks k ((kind,text,v)::ks))(k2:Int)(t2:ByteArray):L5 toks k k2 t2=(decide (kind=k2)&&decide (text=t2)):=by
 obtain⟨h1,h2,-,-⟩:=h.tk;unfold L5;rw[h1,h2]
theorem G8.end_{k:Nat}(h:G8 toks k []):toks.length≤k:=by
 unfold G8 at h;have:=congrArg List.length h
 rw[List.length_map,List.length_drop,List.length_nil]at this;omega
theorem G8.nil{k:Nat}(h:G8 toks k []){k2:Int}(h0:k2≠0)(t2:ByteArray):L5 toks k k2 t2=false:=by
 cases hi:L5 toks k k2 t2 with
 | false=>rfl
 | true=>
  have:=Z0 h0 hi
  have:=h.end_
  omega
theorem G8.exp{k:Nat}{kind v:Int}{text:ByteArray}{ks:List V8}(h:G8 toks k ((kind,text,v)::ks)):z1 toks e kind text k=.ok ((),k+1):=by
 unfold z1;rw[h.iq];simp
theorem G8.int{k:Nat}{n:Int}{ks:List V8}(hn:Bq n)(h:G8 toks k (M6 n++ks)):CU toks e k=.ok (n,k+(M6 n).length)∧G8 toks (k+(M6 n).length) ks:=by
 obtain⟨h0,h1⟩:=hn;unfold M6 at h ⊢
 unfold CU;by_cases hn:n<0
 ·rw[if_pos hn]at h ⊢
  have hd:L5 toks k 4 AS=true:=by rw[G8.iq h];rfl
  have h1':G8 toks (k+1) ((2,⟨#[]⟩,(n.natAbs:Nat))::ks):=G8.next h
  obtain⟨p1,-,p3,-⟩:=h1'.tk;refine⟨?_,h1'.next⟩
  rw[hd,if_pos rfl];unfold y9;rw[if_pos p1,p3,if_pos (by omega)]
  show Except.ok (IntKind.i64.wrap (-(IntKind.i64.wrap ((n.natAbs:Nat):Int))),k+1+1)=Except.ok (_,_)
  have:IntKind.i64.wrap (-(IntKind.i64.wrap ((n.natAbs:Nat):Int)))=n:=by
   rw[IntKind.wrap_i64,IntKind.wrap_i64];omega
  rw[this];rfl
 ·rw[if_neg hn]at h ⊢
  obtain⟨p1,-,p3,-⟩:=h.tk;refine⟨?_,h.next⟩
  rw[show L5 toks k 4 AS=false by rw[G8.iq h];rfl,if_neg (by decide)]
  unfold y9;rw[if_pos p1,p3,if_pos (by omega)]
  show Except.ok (IntKind.i64.wrap ((n.toNat:Nat):Int),k+1)=Except.ok (_,_)
  have:IntKind.i64.wrap ((n.toNat:Nat):Int)=n:=by
   rw[IntKind.wrap_i64];omega
  rw[this];rfl
theorem Aq{s:ByteArray}(h:F9 s=true):s.size≤24:=by
 unfold F9 at h;rw[Bool.and_eq_true,decide_eq_true_eq]at h;exact h.2
theorem MN{s:ByteArray}(h:F9 s=true):0<s.size:=by
 unfold F9 W2 at h;simp only[Bool.and_eq_true,decide_eq_true_eq]at h
 exact h.1.1.1
theorem Sf:Fp I8=false:=by decide +kernel
theorem KN{s:ByteArray}(h:T0 s=true):Fp s=false:=by
 unfold T0 at h;simp only[Bool.and_eq_true,decide_eq_true_eq]at h
 unfold Fp;simp only[Bool.or_eq_false_iff,decide_eq_false_iff_not]
 refine⟨⟨⟨fun q=>?_,fun q=>?_⟩,fun q=>?_⟩,fun q=>?_⟩ <;> subst q
 ·have:Jn ⟨#[115,101,108,101,99,116]⟩=115:=rfl
  omega
 ·have:Jn ⟨#[119,104,101,114,101]⟩=119:=rfl
  omega
 ·have:Jn ⟨#[110,111,116]⟩=110:=rfl
  omega
 ·have:Jn ⟨#[105,110]⟩=105:=rfl
  omega
theorem Gv{s:ByteArray}(h:Fp s=false):s≠HM∧s≠J4∧s≠X7∧s≠Hi:=by
 unfold Fp at h;simp only[Bool.or_eq_false_iff,decide_eq_false_iff_not]at h
 exact⟨h.1.1.1,h.1.1.2,h.1.2,h.2⟩
theorem NN{s:ByteArray}(h:s=I8∨T0 s=true):IY s=true:=by
 unfold IY;rcases h with rfl|h
 ·rfl
 ·unfold T0 at h;simp only[Bool.and_eq_true,decide_eq_true_eq]at h
  have h2:Jn s=A5 s 0:=rfl
  rw[←h2,decide_eq_true h.1.2,decide_eq_true h.2];simp
theorem Lp{s:ByteArray}(h:Bv s=true):IY s=false:=by
 unfold Bv at h;simp only[Bool.and_eq_true,Bool.not_eq_true',decide_eq_false_iff_not]at h
 obtain⟨⟨⟨h1,h2⟩,h3⟩,h4⟩:=h;unfold T0 at h4;rw[h1,Bool.true_and]at h4;unfold IY;rw[decide_eq_false (show ¬s=⟨#[95]⟩ from h3),Bool.false_or]
 exact h4
theorem G8.word{k:Nat}{s:ByteArray}{v:Int}{ks:List V8}(hk:Fp s=false)(hl:s.size≤24)(h:G8 toks k ((1,s,v)::ks)):W3 toks e k=.ok (s,k+1):=by
 obtain⟨p1,p2,-,-⟩:=h.tk;unfold W3;rw[p2,if_pos ⟨p1,hk⟩,if_pos hl]
def OV(o:K0):Prop:=(o.Var=D8∧J1 o.Const=true∧Bq o.Const.Num)∨((o.Var=I8∨T0 o.Var=true)∧o.Const=N3)
theorem Sl:I8≠D8:=by decide +kernel
theorem HS{s:ByteArray}(h:s=I8∨T0 s=true):s≠D8:=by
 rcases h with rfl|h
 ·exact Sl
 ·intro q;subst q;have:T0 D8=false:=by decide +kernel
  rw[this]at h;cases h
theorem HF{s:ByteArray}(h:s=I8∨T0 s=true):s.size≤24:=by
 rcases h with rfl|h
 ·decide
 ·unfold T0 at h;simp only[Bool.and_eq_true]at h
  exact Aq h.1.1
theorem HZ{s:ByteArray}(h:s=I8∨T0 s=true):Fp s=false:=by
 rcases h with rfl|h
 ·exact Sf
 ·exact KN h
theorem o5{o:K0}(h:o.Var≠D8):T6 o=[(1,o.Var,0)]:=by unfold T6;rw[if_pos h]
theorem DR{o:K0}(h:o.Var=D8):T6 o=An o.Const:=by unfold T6;rw[if_neg (fun q=>q h)]
theorem KY{o:K0}(hv:OV o):∃kd tx v r,T6 o=(kd,tx,v)::r∧kd≠0∧(kd=1→Fp tx=false∧r=[]):=by
 rcases hv with⟨h1,h2,h3⟩|⟨h1,h2⟩
 ·rw[DR h1];unfold An;split
  ·unfold M6;split
   ·exact⟨_,_,_,_,rfl,by decide,fun q=>absurd q (by decide)⟩
   ·exact⟨_,_,_,_,rfl,by decide,fun q=>absurd q (by decide)⟩
  ·split
   ·rename_i hb
    refine⟨_,_,_,_,rfl,by decide,fun _=>⟨?_,rfl⟩⟩
    unfold Bv at hb;simp only[Bool.and_eq_true,Bool.not_eq_true']at hb
    exact hb.1.1.2
   ·exact⟨_,_,_,_,rfl,by decide,fun q=>absurd q (by decide)⟩
 ·rw[o5 (HS h1)];exact⟨_,_,_,_,rfl,by decide,fun _=>⟨HZ h1,rfl⟩⟩
theorem G8.op{k:Nat}{o:K0}{ks:List V8}(hv:OV o)(h:G8 toks k (T6 o++ks)):Fe toks e k=.ok (o,k+(T6 o).length)∧G8 toks (k+(T6 o).length) ks:=by
 obtain⟨ov,vk,vn,vw⟩:=o;rcases hv with⟨h1,h2,h3⟩|⟨h1,h2⟩
 ·rw[DR h1]at h ⊢
  have h1:ov=D8:=h1
  subst h1;unfold J1 CO at h2;simp only[Bool.or_eq_true,Bool.and_eq_true,decide_eq_true_eq]at h2
  dsimp only at h h2 h3 ⊢
  unfold An at h ⊢
  dsimp only at h ⊢
  by_cases hk:vk=1
  ·have hw:vw=⟨#[]⟩:=h2.elim (fun q=>q.2) (fun q=>absurd (hk.symm.trans q.1.1) (by decide))
   subst hk;subst hw;rw[if_pos rfl]at h ⊢
   obtain⟨q1,q2⟩:=G8.int (e:=e) h3 h
   refine⟨?_,q2⟩
   have hkd:(K8 toks k).Kind≠1∧(K8 toks k).Kind≠3:=by
    unfold M6 at h;split at h
    ·obtain⟨p1,-,-,-⟩:=G8.tk h
     rw[p1];exact⟨by decide,by decide⟩
    ·obtain⟨p1,-,-,-⟩:=G8.tk h
     rw[p1];exact⟨by decide,by decide⟩
   unfold Fe;rw[if_neg hkd.1,if_neg hkd.2,q1];rfl
  ·obtain⟨⟨k2,n0⟩,⟨-,t1⟩,t2⟩:=h2.resolve_left fun q=>hk q.1
   subst k2;subst n0;rw[if_neg hk]at h ⊢
   by_cases hb:Bv vw=true
   ·rw[if_pos hb]at h ⊢
    have hb':=hb
    unfold Bv at hb';simp only[Bool.and_eq_true,Bool.not_eq_true']at hb'
    obtain⟨p1,p2,-,-⟩:=G8.tk h
    refine⟨?_,G8.next h⟩
    unfold Fe;rw[if_pos p1,G8.word hb'.1.1.2 t2 h];show Except.ok (Dc vw,k+1)=_
    unfold Dc;rw[Lp hb,if_neg (by decide)];rfl
   ·rw[if_neg hb]at h ⊢
    obtain⟨p1,p2,-,-⟩:=G8.tk h
    refine⟨?_,G8.next h⟩
    unfold Fe;rw[if_neg (by rw[p1];decide),if_pos p1,p2,if_neg (by
     rintro (q|q)
     ·rw[q]at t1;exact absurd t1 (by decide)
     ·omega)];rfl
 ·have hne:=HS h1
  rw[o5 hne]at h ⊢
  dsimp only at h h1 h2 ⊢
  obtain⟨p1,p2,-,-⟩:=G8.tk h
  refine⟨?_,G8.next h⟩
  unfold Fe;rw[if_pos p1,G8.word (HZ h1) (HF h1) h];show Except.ok (Dc ov,k+1)=_
  unfold Dc;rw[NN h1,if_pos rfl,←h2];rfl
def UV(toks:List Tok)(ks:List V8):Prop:=∀k,G8 toks k ks→L5 toks k 4 O2=false
theorem PF{kd v:Int}{tx:ByteArray}{ks:List V8}(h:¬(kd=4∧tx=O2)):UV toks ((kd,tx,v)::ks):=fun k hk=>by
 rw[hk.iq];by_cases h1:kd=4
 ·rw[decide_eq_false (fun q=>h ⟨h1,q⟩),Bool.and_false]
 ·rw[decide_eq_false h1,Bool.false_and]
theorem RR:UV toks []:=fun k hk=>hk.nil (by decide) _
theorem G8.args{ks:List V8}(hks:UV toks ks):∀(os:List K0) (f k:Nat) (acc:List K0),(∀o∈os,OV o)→os.length≤f→G8 toks k (oTail os++ks)→∃k2,AI toks e f acc k=.ok (acc++os,k2)∧G8 toks k2 ks
 | [],f,k,acc,_,_,h=>by
  refine⟨k,?_,h⟩
  rw[List.append_nil];cases f with
  | zero=>rfl
  | succ f=>unfold AI;rw[hks k h,if_neg (by decide)]
 | o::os,f,k,acc,ho,hf,h=>by
  obtain⟨f,rfl⟩:∃f',f=f'+1:=⟨f-1,by simp at hf;omega⟩
  have h:G8 toks k (pT 44::(T6 o++(oTail os++ks))):=by
   have h2:oTail (o::os)++ks=pT 44::(T6 o++(oTail os++ks)):=by
    unfold oTail;rw[List.flatMap_cons];simp
   rw[←h2];exact h
  obtain⟨h1,h2⟩:=G8.op (e:=e) (ho o (by simp)) h.next
  obtain⟨k2,h3,h4⟩:=G8.args hks os f _ (acc++[o]) (fun u hu=>ho u (List.mem_cons_of_mem _ hu)) (by simp at hf;omega) h2
  refine⟨k2,?_,h4⟩
  unfold AI;rw[show L5 toks k 4 O2=true by rw[G8.iq h];rfl,if_pos rfl,h1,G2,h3,List.append_assoc];rfl
theorem G8.words{ks:List V8}(hks:UV toks ks):∀(ss:List ByteArray) (f k:Nat) (acc:List ByteArray),(∀s∈ss,T0 s=true)→ss.length≤f→G8 toks k (sTail ss++ks)→∃k2,AJ toks e f acc k=.ok (acc++ss,k2)∧G8 toks k2 ks
 | [],f,k,acc,_,_,h=>by
  refine⟨k,?_,h⟩
  rw[List.append_nil];cases f with
  | zero=>rfl
  | succ f=>unfold AJ;rw[hks k h,if_neg (by decide)]
 | s::ss,f,k,acc,ho,hf,h=>by
  obtain⟨f,rfl⟩:∃f',f=f'+1:=⟨f-1,by simp at hf;omega⟩
  have h:G8 toks k (pT 44::(1,s,0)::(sTail ss++ks)):=by
   have h2:sTail (s::ss)++ks=pT 44::(1,s,0)::(sTail ss++ks):=by
    unfold sTail;rw[List.flatMap_cons];simp
   rw[←h2];exact h
  have hs:=ho s (by simp)
  have h1:=G8.word (e:=e) (KN hs) (HF (.inr hs)) h.next
  obtain⟨k2,h3,h4⟩:=G8.words hks ss f _ (acc++[s]) (fun u hu=>ho u (List.mem_cons_of_mem _ hu)) (by simp at hf;omega) h.next.next
  refine⟨k2,?_,h4⟩
  unfold AJ;rw[show L5 toks k 4 O2=true by rw[G8.iq h];rfl,if_pos rfl,h1,G2,h3,List.append_assoc];rfl
theorem GJ:∀os:List K0,os.length≤(oTail os).length
 | []=>Nat.le_refl _
 | o::os=>by
  have:=GJ os
  unfold oTail at *
  rw[List.flatMap_cons,List.length_append,List.length_cons,List.length_cons];omega
theorem GC:∀os:List ByteArray,os.length≤(sTail os).length
 | []=>Nat.le_refl _
 | o::os=>by
  have:=GC os
  unfold sTail at *
  rw[List.flatMap_cons,List.length_append,List.length_cons,List.length_cons];omega
theorem Gm:∀os:List F5,os.length≤(gTail os).length
 | []=>Nat.le_refl _
 | o::os=>by
  have:=Gm os
  unfold gTail at *
  rw[List.flatMap_cons,List.length_append,List.length_cons,List.length_cons];omega
theorem G8.len{k:Nat}{ks:List V8}(h:G8 toks k ks):ks.length≤toks.length:=by
 unfold G8 at h;rw[←h,List.length_map,List.length_drop];omega
def MS(ks:List V8):Prop:=ks=[]∨∃r,ks=pT 44::r
theorem MS.no{ks:List V8}(h:MS ks){k:Nat}(hk:G8 toks k ks){t:ByteArray}(ht:t≠O2):L5 toks k 4 t=false:=by
 rcases h with rfl|⟨r,rfl⟩
 ·exact hk.nil (by decide) _
 ·rw[G8.iq hk,decide_eq_false (show ¬N5 [44]=t from fun q=>ht q.symm),Bool.and_false]
structure GV(g:F5):Prop where
 shape:N4 g=true
 ops:∀o∈H3 g,OV o
 rel:F7 g=true→F9 g.Rel=true∧Fp g.Rel=false∧g.Args≠[]
 num:AB g=true
 off:Bq g.Off
 low:Bq g.Low
 high:Bq g.High
theorem RJ{k:Nat}{j:Nat}{v:Int}{ks:List V8}(h1:1≤j)(h2:j≤6)(h:G8 toks k ((4,j0.getD j D8,v)::ks)):opAt toks k=j:=by
 have hc:j=1∨j=2∨j=3∨j=4∨j=5∨j=6:=by omega
 unfold opAt;rcases hc with rfl|rfl|rfl|rfl|rfl|rfl <;> simp only[h.iq] <;> rfl
theorem Ic{k:Nat}(h1:L5 toks k 1 X7=false)(h2:¬((K8 toks k).Kind=1∧L5 toks (k+1) 4 Y6=true)):X3 toks e k=J5 (Fe toks e k) fun l k1=>if (K8 toks k).Kind=1∧L5 toks k1 1 Hi=true then Lh toks e l (k1+1) else Ly toks e l k1:=by
 unfold X3;rw[h1,if_neg (by decide),if_neg h2]
theorem G8.rel{k:Nat}{kd:Int}{g:F5}{ks:List V8}(hn:F9 g.Rel=true)(hk:Fp g.Rel=false)(ha:g.Args≠[])(hv:∀o∈g.Args,OV o)(h:G8 toks k ((1,g.Rel,0)::pT 40::(w7 g.Args++pT 41::ks))):∃k2,HA toks e kd k=.ok (⟨kd,g.Rel,g.Args,0,F6,F6,0,0,0⟩,k2)∧G8 toks k2 ks:=by
 generalize g.Args=os at *
 cases os with
 | nil=>exact absurd rfl ha
 | cons o os=>
  have h3:G8 toks (k+1+1) (T6 o++(oTail os++pT 41::ks)):=by
   have:=h.next.next
   unfold w7 at this;rw[List.append_assoc]at this;exact this
  obtain⟨h4,h5⟩:=G8.op (e:=e) (hv o (by simp)) h3
  obtain⟨k2,h6,h7⟩:=G8.args (e:=e) (ks:=pT 41::ks) (PF (by rintro⟨-,q⟩;exact absurd q (by decide +kernel))) os (toks.length+1) _ [o] (fun u hu=>hv u (List.mem_cons_of_mem _ hu)) (by
   have:=h5.len
   have:=GJ os
   rw[List.length_append] at *
   omega) h5
  refine⟨k2+1,?_,h7.next⟩
  unfold HA;rw[G8.word hk (Aq hn) h,G2,show z1 toks e 4 Y6 (k+1)=.ok ((),k+1+1) from G8.exp h.next,G2,h4,G2,h6,G2,show z1 toks e 4 IC k2=.ok ((),k2+1) from G8.exp h7,G2];rfl
theorem G8.off{k:Nat}{v:Int}{ks:List V8}(hv:Bq v)(hm:v≠-9223372036854775808)(hks:MS ks)(h:G8 toks k (Av v++ks)):∃k2,Lj toks e k=.ok (v,k2)∧G8 toks k2 ks:=by
 obtain⟨v0,v1⟩:=hv;unfold Av at h;unfold Lj;by_cases h0:v=0
 ·rw[if_pos h0]at h;refine⟨k,?_,h⟩
  rw[hks.no h (by decide +kernel),hks.no h (by decide +kernel),if_neg (by decide),if_neg (by decide),h0]
 ·rw[if_neg h0]at h;by_cases hp:0<v
  ·rw[if_pos hp]at h;have hn:G8 toks (k+1) ((2,⟨#[]⟩,(v.toNat:Nat))::ks):=G8.next h
   obtain⟨p1,-,p3,-⟩:=hn.tk;refine⟨_,?_,hn.next⟩
   rw[show L5 toks k 4 Gc=true by rw[G8.iq h];rfl,if_pos rfl]
   unfold y9;rw[if_pos p1,p3,if_pos (by omega)]
   show Except.ok (IntKind.i64.wrap ((v.toNat:Nat):Int),k+1+1)=Except.ok (_,_)
   have:IntKind.i64.wrap ((v.toNat:Nat):Int)=v:=by
    rw[IntKind.wrap_i64];omega
   rw[this]
  ·rw[if_neg hp]at h;have hn:G8 toks (k+1) ((2,⟨#[]⟩,(v.natAbs:Nat))::ks):=G8.next h
   obtain⟨p1,-,p3,-⟩:=hn.tk;refine⟨_,?_,hn.next⟩
   rw[show L5 toks k 4 Gc=false by rw[G8.iq h];rfl,if_neg (by decide),show L5 toks k 4 AS=true by rw[G8.iq h];rfl,if_pos rfl]
   unfold y9;rw[if_pos p1,p3,if_pos (by omega)]
   show Except.ok (IntKind.i64.wrap (-(IntKind.i64.wrap ((v.natAbs:Nat):Int))),k+1+1)=Except.ok (_,_)
   have:IntKind.i64.wrap (-(IntKind.i64.wrap ((v.natAbs:Nat):Int)))=v:=by
    rw[IntKind.wrap_i64,IntKind.wrap_i64];omega
   rw[this]
theorem G8.goal{k:Nat}{g:F5}{ks:List V8}(hg:GV g)(hks:MS ks)(h:G8 toks k (y7 g++ks)):∃k2,X3 toks e k=.ok (g,k2)∧G8 toks k2 ks:=by
 obtain⟨gs,go,gr,gn,h64,l64,u64⟩:=hg;obtain⟨kind,rel,args,op,l,r,off,low,high⟩:=g;dsimp only at *
 unfold N4 at gs;unfold H3 at go;unfold AB at gn;unfold y7 at h;unfold F7 at gr;dsimp only at *
 by_cases k3:kind=3
 ·subst k3;rw[if_neg (by decide),if_pos rfl]at gs go
  rw[if_pos rfl]at gn h
  simp only[Bool.and_eq_true,decide_eq_true_eq]at gs gn
  obtain⟨⟨⟨rfl,g2⟩,rfl⟩,rfl⟩:=gs;have g2:args=[]:=List.length_eq_zero_iff.1 g2
  subst g2;have hl:=go l (by simp)
  have hr:=go r (by simp)
  have h:G8 toks k (T6 l++((4,j0.getD op.toNat D8,0)::(T6 r++(Av off++ks)))):=by
   have:=h
   rw[List.append_assoc,List.cons_append,List.append_assoc]at this;exact this
  obtain⟨a1,a2⟩:=G8.op (e:=e) hl h
  obtain⟨kd,tx,v,rr,ht,hk0,hk1⟩:=KY hl
  have hrest:=a2
  rw[ht]at h;obtain⟨p1,p2,-,-⟩:=G8.tk h
  have hno:L5 toks k 1 X7=false:=by
   rw[G8.iq h];by_cases q:kd=1
   ·rw[decide_eq_false (Gv (hk1 q).1).2.2.1,Bool.and_false]
   ·rw[decide_eq_false q,Bool.false_and]
  have hpar:∀j:Nat,j=op.toNat→1≤j→j≤6→j0.getD j D8≠Y6:=fun j _ h1 h2=>by
   have hc:j=1∨j=2∨j=3∨j=4∨j=5∨j=6:=by omega
   rcases hc with rfl|rfl|rfl|rfl|rfl|rfl <;> decide +kernel
  have hnp:¬((K8 toks k).Kind=1∧L5 toks (k+1) 4 Y6=true):=by
   rintro⟨q1,q2⟩;rw[p1]at q1;have hrr:=(hk1 q1).2
   subst hrr;have:=G8.next h
   rw[G8.iq this,decide_eq_false (hpar _ rfl (by omega) (by omega)),Bool.and_false]at q2
   cases q2
  rw[Ic hno hnp,a1,G2,if_neg (by rintro⟨-,q⟩;rw[G8.iq a2,decide_eq_false (show ¬(4:Int)=1 by decide),Bool.false_and]at q;cases q)]
  have ho:=RJ (by omega) (by omega) a2
  obtain⟨b1,b2⟩:=G8.op (e:=e) hr a2.next
  obtain⟨k2,c1,c2⟩:=G8.off (e:=e) h64 (by simpa using gn.2) hks b2
  refine⟨k2,?_,c2⟩
  unfold Ly;rw[ho,if_neg (by omega),b1,G2,c1,G2]
  have:((op.toNat:Nat):Int)=op:=by omega
  rw[this]
 ·by_cases k4:kind=4
  ·subst k4;rw[if_neg (by decide),if_neg (by decide),if_pos rfl]at gs go
   rw[if_neg (by decide),if_pos rfl]at gn h
   simp only[Bool.and_eq_true,decide_eq_true_eq]at gs gn
   obtain⟨⟨⟨⟨⟨rfl,g2⟩,rfl⟩,rfl⟩,rfl⟩,g6⟩:=gs;have g2:args=[]:=List.length_eq_zero_iff.1 g2
   subst g2;have hl:=go l (by simp)
   have h:G8 toks k (T6 l++((1,Hi,0)::(M6 low++((4,Dj,0)::(M6 high++ks))))):=by
    rw[o5 g6];have:=h
    rw[List.cons_append,List.cons_append,List.append_assoc,List.cons_append]at this;exact this
   obtain⟨a1,a2⟩:=G8.op (e:=e) hl h
   rw[o5 g6]at h;obtain⟨p1,p2,-,-⟩:=G8.tk h
   have hkw:Fp l.Var=false:=by
    rcases hl with⟨q,-⟩|⟨q,-⟩
    ·exact absurd q g6
    ·exact HZ q
   have hno:L5 toks k 1 X7=false:=by
    rw[G8.iq h,decide_eq_false (Gv hkw).2.2.1,Bool.and_false]
   have hnp:¬((K8 toks k).Kind=1∧L5 toks (k+1) 4 Y6=true):=by
    rintro⟨-,q2⟩;have:=G8.next h
    rw[G8.iq this]at q2;exact absurd q2 (by decide)
   rw[Ic hno hnp,a1,G2,if_pos ⟨p1,by rw[G8.iq a2];rfl⟩]
   obtain⟨b1,b2⟩:=G8.int (e:=e) l64 a2.next
   obtain⟨c1,c2⟩:=G8.int (e:=e) u64 b2.next
   refine⟨_,?_,c2⟩
   unfold Lh;rw[b1,G2,G8.exp b2,G2,c1,G2];rfl
  ·by_cases k12:kind=1∨kind=2
   ·rw[if_pos k12]at gs go
    rw[if_neg k3,if_neg k4]at h;simp only[Bool.and_eq_true,decide_eq_true_eq]at gs
    obtain⟨⟨⟨⟨⟨rfl,rfl⟩,rfl⟩,rfl⟩,rfl⟩,rfl⟩:=gs;obtain⟨q1,q2,q3⟩:=gr (by rcases k12 with rfl|rfl <;> rfl)
    have hrel:∀j,G8 toks j ((1,rel,0)::pT 40::(w7 args++pT 41::ks))→∃k2,HA toks e kind j=.ok (⟨kind,rel,args,0,F6,F6,0,0,0⟩,k2)∧G8 toks k2 ks:=fun j hj=>
     G8.rel (g:=⟨kind,rel,args,0,F6,F6,0,0,0⟩) q1 q2 q3 go hj
    have hz:d5=F6:=rfl
    rw[hz];rcases k12 with rfl|rfl
    ·have h:G8 toks k ((1,rel,0)::pT 40::(w7 args++pT 41::ks)):=by
      have:=h
      rw[if_neg (by decide),List.nil_append,List.cons_append,List.cons_append,List.append_assoc]at this
      exact this
     obtain⟨k2,c1,c2⟩:=hrel k h
     refine⟨k2,?_,c2⟩
     unfold X3;rw[show L5 toks k 1 X7=false by rw[G8.iq h,decide_eq_false (Gv q2).2.2.1,Bool.and_false],if_neg (by decide),if_pos ⟨h.tk.1,by rw[G8.iq h.next];rfl⟩,c1]
    ·have h:G8 toks k ((1,X7,0)::(1,rel,0)::pT 40::(w7 args++pT 41::ks)):=by
      have:=h
      rw[if_pos rfl,List.cons_append,List.nil_append,List.cons_append,List.cons_append,List.cons_append,List.append_assoc]at this;exact this
     obtain⟨k2,c1,c2⟩:=hrel (k+1) h.next
     refine⟨k2,?_,c2⟩
     unfold X3;rw[show L5 toks k 1 X7=true by rw[G8.iq h];rfl,if_pos rfl,c1]
   ·rw[if_neg k12,if_neg k3,if_neg k4]at gs;cases gs
theorem G8.goals:∀(gs:List F5) (f k:Nat) (acc:List F5),(∀g∈gs,GV g)→gs.length≤f→G8 toks k (gTail gs)→∃k2,AQ toks e f acc k=.ok (acc++gs,k2)∧G8 toks k2 []
 | [],f,k,acc,_,_,h=>by
  refine⟨k,?_,h⟩
  rw[List.append_nil];cases f with
  | zero=>rfl
  | succ f=>unfold AQ;rw[RR k h,if_neg (by decide)]
 | g::gs,f,k,acc,ho,hf,h=>by
  obtain⟨f,rfl⟩:∃f',f=f'+1:=⟨f-1,by simp at hf;omega⟩
  have h:G8 toks k (pT 44::(y7 g++gTail gs)):=by
   have h2:gTail (g::gs)=pT 44::(y7 g++gTail gs):=by
    unfold gTail;rw[List.flatMap_cons];simp
   rw[←h2];exact h
  have hend:MS (gTail gs):=by
   cases gs with
   | nil=>exact .inl rfl
   | cons g2 gs=>exact .inr ⟨y7 g2++gTail gs,by unfold gTail;rw[List.flatMap_cons];simp⟩
  obtain⟨k1,h1,h2⟩:=G8.goal (e:=e) (ho g (by simp)) hend h.next
  obtain⟨k2,h3,h4⟩:=G8.goals gs f k1 (acc++[g]) (fun u hu=>ho u (List.mem_cons_of_mem _ hu)) (by simp at hf;omega) h2
  refine⟨k2,?_,h4⟩
  unfold AQ;rw[show L5 toks k 4 O2=true by rw[G8.iq h];rfl,if_pos rfl,h1,G2,h3,List.append_assoc];rfl
structure QV(q:E7):Prop where
 sel:∀s∈q.Sel,T0 s=true
 goals:∀g∈q.Goals,GV g
 some:q.Goals≠[]
theorem G8.query{q:E7}(hq:QV q)(h:G8 toks 0 (Kf q)):∃k,AW toks e 0=.ok (q,k):=by
 obtain⟨sel,gs⟩:=q;obtain⟨hs,hg,hne⟩:=hq;dsimp only at *
 unfold Kf at h;dsimp only at h
 unfold AW;rw[G8.exp h,G2];have h1:=h.next
 obtain⟨k2,h2,h3⟩:∃k2,Nr toks e (0+1)=.ok (sel,k2)∧G8 toks k2 ((1,J4,0)::Y0 gs):=by
  unfold Nr;cases sel with
  | nil=>
   have h1:G8 toks (0+1) ((1,J4,0)::Y0 gs):=h1
   rw[show L5 toks (0+1) 1 J4=true by rw[G8.iq h1];rfl,if_pos rfl]
   exact⟨_,rfl,h1⟩
  | cons s ss=>
   have h1:G8 toks (0+1) ((1,s,0)::(sTail ss++(1,J4,0)::Y0 gs)):=h1
   have hv:=hs s (by simp)
   have hk:=KN hv
   rw[show L5 toks (0+1) 1 J4=false by rw[G8.iq h1,decide_eq_false (Gv hk).2.1,Bool.and_false],if_neg (by decide),G8.word hk (HF (.inr hv)) h1,G2]
   obtain⟨k2,h2,h3⟩:=G8.words (e:=e) (ks:=(1,J4,0)::Y0 gs) (PF (by rintro⟨q,-⟩;exact absurd q (by decide))) ss (toks.length+1) _ [s] (fun u hu=>hs u (List.mem_cons_of_mem _ hu)) (by
    have:=h1.next.len
    have:=GC ss
    rw[List.length_append] at *
    omega) h1.next
   exact⟨k2,h2,h3⟩
 rw[h2,G2];unfold OB;rw[G8.exp h3,G2];cases gs with
 | nil=>exact absurd rfl hne
 | cons g gs=>
  have h4:G8 toks (k2+1) (y7 g++gTail gs):=h3.next
  have hend:MS (gTail gs):=by
   cases gs with
   | nil=>exact .inl rfl
   | cons g2 gs=>exact .inr ⟨y7 g2++gTail gs,by unfold gTail;rw[List.flatMap_cons];simp⟩
  obtain⟨k3,h5,h6⟩:=G8.goal (e:=e) (hg g (by simp)) hend h4
  obtain⟨k4,h7,h8⟩:=G8.goals (e:=e) gs (toks.length+1) k3 [g] (fun u hu=>hg u (List.mem_cons_of_mem _ hu)) (by
   have:=h6.len
   have:=Gm gs
   omega) h6
  rw[h5,G2,h7,G2,if_neg (by have:=h8.end_;omega)]
  exact⟨k4,rfl⟩
end
set_option maxHeartbeats 1000000
def ON(p:List UInt8):Prop:=(∃c,p=[c]∧c∈Gw)∨∃c d,p=[c,d]∧o0 c.toNat d.toNat=true
def Ui(l:List UInt8):Prop:=l=[]∨∃r,l=32::r
theorem Rb(a:Int):o0 a 32=false:=by unfold o0;simp
theorem Qt:∀c∈Gw,F0 (c.toNat:Int)=false∧I5 (c.toNat:Int)=false∧(c.toNat:Int)≠34∧Z3 (c.toNat:Int)=false∧(c.toNat:Int)≠35:=by decide
theorem PU{c d:UInt8}(h:o0 c.toNat d.toNat=true):c∈Gw:=by
 unfold o0 at h;simp only[Bool.or_eq_true,Bool.and_eq_true,decide_eq_true_eq]at h
 have hc:c.toNat=60∨c.toNat=62∨c.toNat=33∨c.toNat=46∨c.toNat=45:=by omega
 have key:∀k:Nat,k<256→c.toNat=k→c=UInt8.ofNat k:=fun k hk e=>UInt8.toNat_inj.1 (by rw[UInt8.toNat_ofNat',Nat.mod_eq_of_lt (by omega)];exact e)
 rcases hc with q|q|q|q|q <;> rw[key _ (by decide) q] <;> decide
theorem QP{c:UInt8}{p l:List UInt8}(hp:ON (c::p))(hl:Ui l):J8 (N5 ((c::p)++l))=⟨4,N5 (c::p),0,(c::p).length,0⟩∧Z3 (c.toNat:Int)=false∧(c.toNat:Int)≠35:=by
 have hb:A5 (N5 ((c::p)++l)) 0=c.toNat:=rfl
 have hz:(N5 ((c::p)++l)).size=p.length+1+l.length:=by rw[Z4];simp;omega
 have hP:G0 (N5 ((c::p)++l))=(c::p).length∧c∈Gw:=by
  rcases hp with⟨c',e,hc⟩|⟨c',d,e,h2⟩
  ·obtain⟨rfl,rfl⟩:=List.cons.inj e
   refine⟨?_,hc⟩
   unfold G0;rw[if_neg (by
    rintro⟨q1,q2⟩;rcases hl with rfl|⟨r,rfl⟩
    ·rw[hz]at q1;simp at q1
    ·have:A5 (N5 ([c]++32::r)) 1=32:=rfl
     rw[this,Rb]at q2;cases q2),if_pos ⟨by rw[hz];omega,hc⟩];rfl
  ·obtain⟨rfl,e2⟩:=List.cons.inj e
   subst e2;refine⟨?_,PU h2⟩
   unfold G0;rw[if_pos ⟨by rw[hz];show 2≤1+1+l.length;omega,h2⟩];rfl
 obtain⟨hP1,hc⟩:=hP;obtain⟨k1,k2,k3,k4,k5⟩:=Qt c hc
 refine⟨?_,k4,k5⟩
 unfold J8;rw[hP1,hb,if_neg (by rw[k1];decide),if_neg (by rw[k2];decide),if_neg k3,if_neg (by simp),CR]
set_option maxHeartbeats 4000000
def IB(n:Int):List UInt8:=Lib.itoa n
def RP(v:Val):List UInt8:=if v.Kind=1 then IB v.Num else if Bv v.Word=true then I6 v.Word else 34::(I6 v.Word++[34])
def oL(o:K0):List UInt8:=if o.Var≠D8 then I6 o.Var else RP o.Const
def Bj(os:List K0):List UInt8:=os.flatMap fun o=>44::32::oL o
def HX:List K0→List UInt8
 | []=>[]
 | o::os=>oL o++Bj os
def QD(v:Int):List UInt8:=if v=0 then [] else if 0<v then 32::43::32::Lib.decDigits v.toNat else 32::45::32::Lib.decDigits v.natAbs
def gL(g:F5):List UInt8:=
 if g.Kind=3 then oL g.L++32::(I6 (j0.getD g.Op.toNat D8)++32::(oL g.R++QD g.Off))
 else if g.Kind=4 then I6 g.L.Var++32::105::110::32::(IB g.Low++32::46::46::32::IB g.High)
 else (if g.Kind=2 then [110,111,116,32] else [])++(I6 g.Rel++40::(HX g.Args++[41]))
def s8(gs:List F5):List UInt8:=gs.flatMap fun g=>44::32::gL g
def BC:List F5→List UInt8
 | []=>[]
 | g::gs=>gL g++s8 gs
def t8(ss:List ByteArray):List UInt8:=ss.flatMap fun s=>44::32::I6 s
def LL:List ByteArray→List UInt8
 | []=>[]
 | s::ss=>32::(I6 s++t8 ss)
def qL(q:E7):List UInt8:=I6 HM++(LL q.Sel++32::(I6 J4++32::BC q.Goals))
theorem Tz.int{n:Int}(hn:Bq n){l:List UInt8}{ks:List V8}(hl:Bu l)(h:Tz l ks):Tz (IB n++l) (M6 n++ks):=by
 obtain⟨hv0,hv1⟩:=hn;unfold IB M6 Lib.itoa;by_cases hn:n<0
 ·rw[if_pos hn,if_pos hn];have:=Tz.num (u:=n.natAbs) (by omega) hl h
  obtain⟨d,p,hd,hp,-⟩:=Bz n.natAbs
  rw[hp]at this ⊢
  exact Tz.p2 (.inr ⟨rfl,(AZ hd).2.1⟩) this
 ·rw[if_neg hn,if_neg hn];exact Tz.num (by omega) hl h
theorem Tz.con{v:Val}(hv:Bq v.Num)(hr:J1 v=true){l:List UInt8}{ks:List V8}(hl:Bu l)(h:Tz l ks):Tz (RP v++l) (An v++ks):=by
 unfold RP An;by_cases hk:v.Kind=1
 ·rw[if_pos hk,if_pos hk];exact Tz.int hv hl h
 ·rw[if_neg hk,if_neg hk];unfold J1 CO at hr;simp only[Bool.or_eq_true,Bool.and_eq_true,decide_eq_true_eq]at hr
  have hr:=hr.resolve_left fun q=>hk q.1
  by_cases hw:Bv v.Word=true
  ·rw[if_pos hw,if_pos hw];unfold Bv F9 at hw;simp only[Bool.and_eq_true]at hw
   exact Tz.word hw.1.1.1.1 hl h
  ·rw[if_neg hw,if_neg hw];exact Tz.str (l:=l) hr.2.1.1 h
theorem Ch{s:ByteArray}(h:s=I8∨T0 s=true):W2 s=true:=by
 rcases h with rfl|h
 ·decide +kernel
 ·unfold T0 F9 at h;simp only[Bool.and_eq_true]at h
  exact h.1.1.1
theorem Tz.op{o:K0}(hv:OV o){l:List UInt8}{ks:List V8}(hl:Bu l)(h:Tz l ks):Tz (oL o++l) (T6 o++ks):=by
 unfold oL;rcases hv with⟨h1,h2,h3⟩|⟨h1,h2⟩
 ·rw[if_neg (fun q=>q h1),DR h1];exact Tz.con h3 h2 hl h
 ·rw[if_pos (HS h1),o5 (HS h1)];exact Tz.word (Ch h1) hl h
theorem Tz.pun{p:List UInt8}(hp:ON p){l:List UInt8}{ks:List V8}(h:Tz l ks):Tz (p++32::l) ((4,N5 p,0)::ks):=by
 cases p with
 | nil=>rcases hp with⟨c,e,-⟩|⟨c,d,e,-⟩ <;> cases e
 | cons c p=>
  obtain⟨k1,k2,k3⟩:=QP (p:=p) (l:=32::l) hp (.inr ⟨_,rfl⟩)
  exact Tz.tok (v:=0) k2 k3 k1 (Tz.sp (by decide) h)
theorem Uj:I0 44=false:=by decide
theorem w41:I0 41=false:=by decide
theorem Mr:I0 32=false:=by decide
theorem Tz.com{l:List UInt8}{ks:List V8}(h:Tz l ks):Tz (44::32::l) (pT 44::ks):=Tz.p1 (.inr (.inr rfl)) (Tz.sp (by decide) h)
theorem FU{l:List UInt8}(hl:Bu l):∀os:List K0,Bu (Bj os++l)
 | []=>hl
 | o::os=>by unfold Bj;rw[List.flatMap_cons];exact Uj
theorem Eu{l:List UInt8}(hl:Bu l):∀os:List ByteArray,Bu (t8 os++l)
 | []=>hl
 | o::os=>by unfold t8;rw[List.flatMap_cons];exact Uj
theorem FE:∀os:List F5,Bu (s8 os)
 | []=>trivial
 | o::os=>by unfold s8;rw[List.flatMap_cons];exact Uj
theorem Tz.oTl{l:List UInt8}{ks:List V8}(hl:Bu l)(h:Tz l ks):∀os:List K0,(∀o∈os,OV o)→Tz (Bj os++l) (oTail os++ks)
 | [],_=>h
 | o::os,hv=>by
  have ih:=Tz.oTl hl h os fun u hu=>hv u (List.mem_cons_of_mem _ hu)
  have e1:Bj (o::os)++l=44::32::(oL o++(Bj os++l)):=by unfold Bj;rw[List.flatMap_cons];simp
  have e2:oTail (o::os)++ks=pT 44::(T6 o++(oTail os++ks)):=by unfold Go.Proofs.YtlimglpjpcfpdaaGreat.oTail;rw[List.flatMap_cons];simp
  rw[e1,e2];exact Tz.com (Tz.op (hv o (by simp)) (FU hl os) ih)
theorem Tz.sTl{l:List UInt8}{ks:List V8}(hl:Bu l)(h:Tz l ks):∀ss:List ByteArray,(∀s∈ss,T0 s=true)→Tz (t8 ss++l) (sTail ss++ks)
 | [],_=>h
 | o::os,hv=>by
  have ih:=Tz.sTl hl h os fun u hu=>hv u (List.mem_cons_of_mem _ hu)
  have e1:t8 (o::os)++l=44::32::(I6 o++(t8 os++l)):=by unfold t8;rw[List.flatMap_cons];simp
  have e2:Go.Proofs.YtlimglpjpcfpdaaGreat.sTail (o::os)++ks=pT 44::(1,o,0)::(Go.Proofs.YtlimglpjpcfpdaaGreat.sTail os++ks):=by unfold Go.Proofs.YtlimglpjpcfpdaaGreat.sTail;rw[List.flatMap_cons];simp
  rw[e1,e2];exact Tz.com (Tz.word (Ch (.inr (hv o (by simp)))) (Eu hl os) ih)
theorem Tz.argsQ{os:List K0}(hn:os≠[])(hv:∀o∈os,OV o){l:List UInt8}{ks:List V8}(hl:Bu l)(h:Tz l ks):Tz (HX os++l) (w7 os++ks):=by
 cases os with
 | nil=>exact absurd rfl hn
 | cons o os=>
  unfold HX w7;rw[List.append_assoc,List.append_assoc];exact Tz.op (hv o (by simp)) (FU hl os) (Tz.oTl hl h os fun u hu=>hv u (List.mem_cons_of_mem _ hu))
theorem Tz.off{v:Int}(hv:Bq v){l:List UInt8}{ks:List V8}(hl:Bu l)(h:Tz l ks):Tz (QD v++l) (Av v++ks)∧Bu (QD v++l):=by
 obtain⟨v0,v1⟩:=hv;unfold QD Av;by_cases h0:v=0
 ·rw[if_pos h0,if_pos h0];exact⟨h,hl⟩
 ·rw[if_neg h0,if_neg h0];by_cases hp:0<v
  ·rw[if_pos hp,if_pos hp];exact⟨Tz.sp (by decide) (Tz.pun (p:=[43]) (.inl ⟨43,rfl,by decide⟩) (Tz.num (by omega) hl h)),Mr⟩
  ·rw[if_neg hp,if_neg hp];exact⟨Tz.sp (by decide) (Tz.pun (p:=[45]) (.inl ⟨45,rfl,by decide⟩) (Tz.num (by omega) hl h)),Mr⟩
theorem Py{j:Nat}(h1:1≤j)(h2:j≤6):ON (I6 (j0.getD j D8)):=by
 have hc:j=1∨j=2∨j=3∨j=4∨j=5∨j=6:=by omega
 rcases hc with rfl|rfl|rfl|rfl|rfl|rfl
 ·exact .inl ⟨61,rfl,by decide⟩
 ·exact .inr ⟨33,61,rfl,by decide⟩
 ·exact .inl ⟨60,rfl,by decide⟩
 ·exact .inr ⟨60,61,rfl,by decide⟩
 ·exact .inl ⟨62,rfl,by decide⟩
 ·exact .inr ⟨62,61,rfl,by decide⟩
theorem Tz.goal{g:F5}(hg:GV g){l:List UInt8}{ks:List V8}(hl:Bu l)(h:Tz l ks):Tz (gL g++l) (y7 g++ks):=by
 obtain⟨gs,go,gr,gn,h64,l64,u64⟩:=hg;unfold N4 at gs;unfold H3 at go;unfold AB at gn;unfold y7 gL;by_cases k3:g.Kind=3
 ·rw[if_neg (by omega),if_pos k3]at go
  rw[if_pos k3]at gn;rw[if_pos k3,if_pos k3];simp only[Bool.and_eq_true,decide_eq_true_eq]at gn
  rw[List.append_assoc,List.append_assoc,List.cons_append,List.cons_append,List.append_assoc,List.cons_append,List.append_assoc,List.append_assoc];obtain⟨t1,t2⟩:=Tz.off h64 hl h
  have t3:=Tz.op (go g.R (by simp)) t2 t1
  have t4:=Tz.pun (Py (j:=g.Op.toNat) (by omega) (by omega)) t3
  rw[Gs]at t4;exact Tz.op (go g.L (by simp)) (show Bu (32::_) from Mr) (Tz.sp (by decide) t4)
 ·by_cases k4:g.Kind=4
  ·rw[if_neg (by omega),if_neg k3,if_pos k4]at gs go
   rw[if_neg k3,if_pos k4,if_neg k3,if_pos k4];simp only[Bool.and_eq_true,decide_eq_true_eq]at gs
   have hv:g.L.Var=I8∨T0 g.L.Var=true:=by
    rcases go g.L (by simp) with⟨q,-⟩|⟨q,-⟩
    ·exact absurd q gs.2
    ·exact q
   have t1:=Tz.int u64 hl h
   have t2:Tz (32::46::46::32::(IB g.High++l)) ((4,Dj,0)::(M6 g.High++ks)):=Tz.sp (by decide) (Tz.pun (p:=[46,46]) (.inr ⟨46,46,rfl,by decide⟩) t1)
   have t3:=Tz.int l64 (show Bu (32::_) from Mr) t2
   have t4:Tz (I6 Hi++32::(IB g.Low++32::46::46::32::(IB g.High++l))) ((1,Hi,0)::(M6 g.Low++(4,Dj,0)::(M6 g.High++ks))):=Tz.word (by decide +kernel) (show Bu (32::_) from Mr) (Tz.sp (by decide) t3)
   have t5:=Tz.word (Ch hv) (show Bu (32::_) from Mr) (Tz.sp (c:=32) (by decide) t4)
   rw[List.append_assoc];simp only[List.cons_append,List.append_assoc]
   exact t5
  ·by_cases k12:g.Kind=1∨g.Kind=2
   ·rw[if_pos k12]at go;rw[if_neg k3,if_neg k4,if_neg k3,if_neg k4];obtain⟨q1,q2,q3⟩:=gr (by unfold F7;rcases k12 with e|e <;> rw[e] <;> rfl)
    unfold F9 at q1;rw[Bool.and_eq_true]at q1;have t1:Tz (41::l) (pT 41::ks):=Tz.p1 (.inr (.inl rfl)) h
    have t2:=Tz.argsQ q3 go (show Bu (41::l) from w41) t1
    have t3:Tz (40::(HX g.Args++41::l)) (pT 40::(w7 g.Args++pT 41::ks)):=Tz.p1 (.inl rfl) t2
    have t4:=Tz.word q1.1 (show Bu (40::_) by show I0 40=false;decide) t3
    rw[List.append_assoc,List.append_assoc,List.append_assoc];simp only[List.cons_append,List.append_assoc,List.nil_append]
    by_cases k2:g.Kind=2
    ·rw[if_pos k2,if_pos k2];exact Tz.word (t:=X7) (by decide +kernel) (show Bu (32::_) from Mr) (Tz.sp (by decide) t4)
    ·rw[if_neg k2,if_neg k2];exact t4
   ·rw[if_neg k12,if_neg k3,if_neg k4]at gs;cases gs
theorem Tz.gTl:∀gs:List F5,(∀g∈gs,GV g)→Tz (s8 gs) (Go.Proofs.YtlimglpjpcfpdaaGreat.gTail gs)
 | [],_=>Tz.nil
 | g::gs,hv=>by
  have ih:=Tz.gTl gs fun u hu=>hv u (List.mem_cons_of_mem _ hu)
  have e1:s8 (g::gs)=44::32::(gL g++s8 gs):=by unfold s8;rw[List.flatMap_cons];simp
  have e2:Go.Proofs.YtlimglpjpcfpdaaGreat.gTail (g::gs)=pT 44::(y7 g++Go.Proofs.YtlimglpjpcfpdaaGreat.gTail gs):=by unfold Go.Proofs.YtlimglpjpcfpdaaGreat.gTail;rw[List.flatMap_cons];simp
  rw[e1,e2];exact Tz.com (Tz.goal (hv g (by simp)) (FE gs) ih)
theorem Tz.query{q:E7}(hq:QV q):Tz (qL q) (Kf q):=by
 obtain⟨sel,gs⟩:=q;obtain⟨hs,hg,hne⟩:=hq;unfold qL Kf;dsimp only at *
 have t1:Tz (BC gs) (Y0 gs):=by
  cases gs with
  | nil=>exact absurd rfl hne
  | cons g gs=>
   exact Tz.goal (hg g (by simp)) (FE gs) (Tz.gTl gs fun u hu=>hg u (List.mem_cons_of_mem _ hu))
 have t2:Tz (I6 J4++32::BC gs) ((1,J4,0)::Y0 gs):=Tz.word (by decide +kernel) (show Bu (32::_) from Mr) (Tz.sp (by decide) t1)
 have t3:Tz (32::(I6 J4++32::BC gs)) ((1,J4,0)::Y0 gs):=Tz.sp (by decide) t2
 have t4:Tz (LL sel++32::(I6 J4++32::BC gs)) (Oa sel++(1,J4,0)::Y0 gs)∧Bu (LL sel++32::(I6 J4++32::BC gs)):=by
  cases sel with
  | nil=>exact⟨t3,Mr⟩
  | cons s ss=>
   refine⟨?_,Mr⟩
   have:=Tz.word (Ch (.inr (hs s (by simp)))) (Eu (show Bu (32::_) from Mr) ss) (Tz.sTl (show Bu (32::_) from Mr) t3 ss fun u hu=>hs u (List.mem_cons_of_mem _ hu))
   unfold LL Oa;rw[List.cons_append,List.cons_append,List.append_assoc];exact Tz.sp (by decide) this
 exact Tz.word (by decide +kernel) t4.2 t4.1
theorem KV{q:E7}(hq:QV q)(hl:(qL q).length≤65536):j4 (N5 (qL q))=(q,⟨0,0⟩,0):=by
 obtain⟨toks,h1,h2⟩:=Oj (Tz.query hq) hl
 unfold j4;rw[h2];dsimp only
 rw[if_pos rfl];obtain⟨k,h3⟩:=G8.query (toks:=toks) (e:=Ac (N5 (qL q))) hq (by unfold G8;rw[List.drop_zero];exact h1)
 rw[h3]
theorem Tp{q:E7}(ho:CQ q)(hv:BR q=0):QV q:=by
 unfold BR at hv;split at hv
 ·cases hv
 rename_i h1
 split at hv
 ·cases hv
 rename_i h2
 split at hv
 ·cases hv
 rename_i h3
 split at hv
 ·cases hv
 rename_i h4
 simp only[Bool.not_eq_false]at h1 h2 h3 h4
 unfold y5 at h1;unfold f9 at h2;unfold S4 at h3;unfold BX at h4;simp only[Bool.and_eq_true,decide_eq_true_eq]at h1 h3
 have i2:=List.all_eq_true.1 h2
 have i3:=List.all_eq_true.1 h3.2
 have i4:=List.all_eq_true.1 h4
 have i1:=List.all_eq_true.1 h1.1.2
 refine⟨fun s hs=>List.all_eq_true.1 h3.1 s hs,fun g hg=>?_,fun q=>?_⟩
 ·have j2:=i2 g hg
  have j3:=i3 g hg
  have j1:=i1 g hg
  have hgo:=ho.goals g hg
  unfold AK at j3;simp only[Bool.and_eq_true,Bool.not_eq_true']at j2 j3
  refine⟨j2.1,fun o hoo=>?_,fun ha=>?_,i4 g hg,hgo.off,hgo.low,hgo.high⟩
  ·have k3:=List.all_eq_true.1 j3.2 o hoo
   have k2:=List.all_eq_true.1 j2.2 o hoo
   have ko:Ab o:=by
    unfold H3 at hoo;split at hoo
    ·exact hgo.args o hoo
    ·split at hoo
     ·rcases List.mem_cons.1 hoo with rfl|hoo
      ·exact hgo.l
      ·rw[List.mem_singleton.1 hoo];exact hgo.r
     ·split at hoo
      ·rw[List.mem_singleton.1 hoo];exact hgo.l
      ·cases hoo
   unfold DZ at k3;unfold plainO at k2;by_cases hv:o.Var=D8
   ·left
    refine⟨hv,?_,ko.2.1⟩
    simp only[hv,decide_true,Bool.true_and]at k3
    simp only[Bool.and_eq_true,Bool.not_not]at k3
    exact k3.1.1
   ·right
    refine⟨?_,?_⟩
    ·by_cases ha:o.Var=I8
     ·exact .inl ha
     ·right
      simp[hv,ha]at k3
      exact k3
    ·simp[hv]at k2
     exact k2
  ·rw[ha,Bool.true_and]at j3;rw[ha]at j1;simp only[Bool.or_eq_false_iff,Bool.not_eq_false',Bool.not_true,Bool.false_or,Bool.and_eq_true,decide_eq_true_eq]at j1 j3
   exact⟨j3.1.1,j3.1.2,fun q=>by rw[q]at j1;simp at j1⟩
 ·rw[q]at h1;simp at h1
end Go.Proofs.YtlimglpjpcfpdaaGreat
end
section
open Go Mk
namespace Go.Proofs.YtlimglpjpcfpdaaGreat
set_option maxHeartbeats 16000000
attribute [local irreducible] Calls cI cB H2 E1 G1 I1
end Go.Proofs.YtlimglpjpcfpdaaGreat
end
section
open Go Mk
namespace Go.Proofs.YtlimglpjpcfpdaaGreat
set_option maxHeartbeats 4000000
theorem Ks:P1 (cL cV):=DX.list
set_option maxHeartbeats 400000
attribute [local irreducible] Calls
theorem Gh:∀ {xs ys:List Service},xs.Pairwise (fun a b=>V9 a.Name b.Name=true)→ys.Pairwise (fun a b=>V9 a.Name b.Name=true)→xs.Perm ys→xs=ys
 | [],_,_,_,h=>(List.nil_perm.1 h).symm
 | x::xs,[],_,_,h=>absurd h.length_eq (by simp)
 | x::xs,y::ys,hx,hy,h=>by
  have hxy:x=y:=by
   have h1:x∈y::ys:=h.subset (List.mem_cons_self ..)
   have h2:y∈x::xs:=h.symm.subset (List.mem_cons_self ..)
   rcases List.mem_cons.1 h1 with e|e
   ·exact e
   ·rcases List.mem_cons.1 h2 with e2|e2
    ·exact e2.symm
    ·have a1:=(List.pairwise_cons.1 hy).1 x e
     have a2:=(List.pairwise_cons.1 hx).1 y e2
     rw[BF a1]at a2;cases a2
  subst hxy;rw[Gh (List.pairwise_cons.1 hx).2 (List.pairwise_cons.1 hy).2 (List.Perm.cons_inv h)]
section
variable {m:List (ByteArray×Service)}{ws:List B4}{ss ys:List Service}
theorem DN(h:Inv m ws)(h1:H9 m ys)(h2:H9 m ss):ys=ss:=Gh (O0 h h1) (O0 h h2) (h1.perm.trans h2.perm.symm)
theorem u1(h2:H9 m ss):ss.length=m.length:=by simpa using h2.perm.length_eq
theorem Gk(h:Inv m ws)(h2:H9 m ss){u v:Service}(hu:u∈ss)(hv:v∈ss)(he:u.Name=v.Name):u=v:=by
 obtain⟨i,hi,rfl⟩:=List.getElem_of_mem hu
 obtain⟨j,hj,rfl⟩:=List.getElem_of_mem hv
 have hp:=List.pairwise_iff_getElem.1 (O0 h h2)
 rcases Nat.lt_trichotomy i j with hlt|e|hlt
 ·have:=hp i j hi hj hlt;rw[he,P2]at this;cases this
 ·subst e;rfl
 ·have:=hp j i hj hi hlt;rw[he,P2]at this;cases this
theorem v8(h:Inv m ws)(h2:H9 m ss)(name:ByteArray):Y9 ss name=D2 m name:=by
 unfold Y9;cases hf:ss.findIdx? (He name) with
 | none=>
  rw[List.findIdx?_eq_none_iff]at hf;symm
  show D2 m name=none
  rw[Az];intro hm;obtain⟨s,hs,he⟩:=List.mem_map.1 ((GT h h2).mem_iff.2 hm)
  have:=hf s hs
  simp[He,he]at this
 | some k=>
  obtain⟨hk,hp,-⟩:=List.findIdx?_eq_some_iff_getElem.1 hf
  have hn:ss[k].Name=name:=by simpa[He] using hp
  show ss[k]? = _
  rw[List.getElem?_eq_getElem hk];have hm:ss[k]∈m.map (·.2):=h2.perm.subset (List.getElem_mem hk)
  cases hg:D2 m name with
  | none=>
   obtain⟨p,hpm,hpe⟩:=List.mem_map.1 hm
   exact absurd (List.mem_map.2 ⟨p,hpm,by rw[h.key p hpm,hpe,hn]⟩) (Az.1 hg)
  | some v=>
   have hv:=OX hg
   have hvs:v∈ss:=h2.perm.symm.subset (List.mem_map.2 ⟨_,hv,rfl⟩)
   rw[Gk h h2 (List.getElem_mem hk) hvs (hn.trans (h.key _ hv))]
theorem On{name:ByteArray}:(Y9 ss name).isSome=(ss.findIdx? (He name)).isSome:=by
 unfold Y9;cases hf:ss.findIdx? (He name) with
 | none=>rfl
 | some k=>simp[List.getElem?_eq_getElem (U8 hf)]
theorem EY(h:Inv m ws)(h2:H9 m ss)(v:Service):O8 ss v=H7 m v:=by
 unfold O8 H7;rw[←On,v8 h h2];have h3:=u1 h2
 have h4:=h.ml
 by_cases e:m.length=64
 ·rw[if_pos e,if_pos (show 64≤ss.length by omega)]
 ·rw[if_neg e,if_neg (show ¬64≤ss.length by omega)]
theorem RX(h:Inv m ws)(h2:H9 m ss){v:Service}(hE:H7 m v=0){ss':List Service}(hp:ss'.Perm (ss++[v]))(ha:Asc ss'):H9 (V2 m v) ss':=by
 have hg:D2 m v.Name=none:=by
  unfold H7 at hE;cases hg:D2 m v.Name with
  | none=>rfl
  | some u=>
   rw[hg]at hE;split at hE
   ·simp at hE
   split at hE
   ·simp at hE
   simp at hE
 rw[show V2 m v=m++[(v.Name,v)] from by unfold V2;rw[if_pos hE,FN hg]]
 refine⟨?_,ha⟩
 rw[List.map_append];exact hp.trans (h2.perm.append_right _)
theorem Da{a:ByteArray}:∀ {m:List (ByteArray×Service)},(m.map (·.1)).Nodup→U9 m a=m.filter fun p=>!decide (p.1=a):=fun {m} hnd=>by
 unfold U9 BY;cases hf:m.findIdx? (fun p=>decide (p.1=a)) with
 | none=>
  rw[List.findIdx?_eq_none_iff]at hf;exact(List.filter_eq_self.2 fun p hp=>by rw[hf p hp];rfl).symm
 | some i=>
  rw[List.Nodup,List.pairwise_map]at hnd;exact u5 (p:=fun p=>decide (p.1=a)) (hnd.imp fun {x y} hxy hh=>hxy (by simp at hh;rw[hh.1,hh.2])) hf
theorem Bi:∀ {l:List Service} {m:List (ByteArray×Service)},(m.map (·.1)).Nodup→U0 m l=m.filter fun p=>!l.any fun s=>decide (p.1=s.Name)
 | [],m,_=>(List.filter_eq_self.2 fun p hp=>by simp).symm
 | x::l,m,hnd=>by
  show U0 (U9 m x.Name) l=_
  rw[Bi (hnd.sublist (CH.map _)),Da hnd,List.filter_filter];refine List.filter_congr fun p hp=>?_
  rw[List.any_cons,Bool.not_or,Bool.and_comm]
theorem Bc(h:Inv m ws)(h2:H9 m ss)(q:ByteArray→Bool):H9 (m.filter fun p=>q p.1) (ss.filter fun s=>q s.Name):=by
 refine⟨?_,h2.asc.sublist List.filter_sublist⟩
 have h3:=h2.perm.filter (fun s=>q s.Name)
 rw[List.filter_map]at h3;refine h3.trans (List.Perm.of_eq ?_)
 congr 1
 exact List.filter_congr fun p hp=>by simp[h.key p hp]
theorem Gl(h:Inv m ws)(h2:H9 m ss)(name:ByteArray)(core:Int):AY ss name core=X4 m name core:=by
 unfold AY X4;rw[v8 h h2];try rfl
theorem TD(h:Inv m ws)(h2:H9 m ss)(name:ByteArray)(core:Int):H9 (Hc m name core) (Mu ss name core):=by
 unfold Hc Mu;rw[Gl h h2];by_cases hE:X4 m name core=0
 ·rw[if_pos hE,if_pos hE];cases hf:ss.findIdx? (He name) with
  | none=>
   have hg:D2 m name=none:=by rw[←v8 h h2];unfold Y9;rw[hf];rfl
   unfold X4 at hE;rw[hg]at hE;simp at hE
  | some k=>
   show H9 _ (ss.eraseIdx k)
   rw[Da h.nd,u5 (p:=He name) ((O0 h h2).imp fun {a b} hab hh=>?_) hf]
   ·exact Bc h h2 (fun n=>!decide (n=name))
   ·simp[He]at hh;rw[hh.1,hh.2,P2]at hab;cases hab
 ·rw[if_neg hE,if_neg hE];exact h2
theorem Mo(h:Inv m ws)(h2:H9 m ss)(name:ByteArray):AR ss name=BW m name:=by
 unfold AR BW;rw[v8 h h2]
theorem Gg(h:Inv m ws)(h2:H9 m ss)(x:B4):M7 ss ws x=Q7 m ws x:=by
 unfold M7 Q7;rw[v8 h h2];have h3:=h.wl
 by_cases e:ws.length=64
 ·simp[e]
 ·have:¬64≤ws.length:=by omega
  simp[e,this]
theorem TM(h:Inv m ws)(h2:H9 m ss)(x:B4):FF ss ws x=JR m ws x∧Fi ss ws x=Ll m ws x∧Fg ss ws x=Lr m ws x:=by
 unfold FF Fi Fg JR Ll Lr;rw[Gg h h2,v8 h h2];exact⟨rfl,rfl,rfl⟩
theorem RI(h:Inv m ws)(h2:H9 m ss)(core:Int):H9 (U0 m (ss.filter (I4 core))) (ss.filter fun s=>!I4 core s):=by
 rw[Bi h.nd];have h3:=Bc h h2 (fun n=>!(ss.filter (I4 core)).any fun s=>decide (n=s.Name))
 rw[show (ss.filter fun s=>!I4 core s)=ss.filter fun u=>!(ss.filter (I4 core)).any fun s=>decide (u.Name=s.Name) from List.filter_congr fun s hs=>?_]
 ·exact h3
 ·congr 1
  cases hc:I4 core s with
  | true=>exact(List.any_eq_true.2 ⟨s,List.mem_filter.2 ⟨hs,hc⟩,by simp⟩).symm
  | false=>
   symm
   rw[List.any_eq_false];intro u hu he;have hu:=List.mem_filter.1 hu
   rw[Gk h h2 hu.1 hs (of_decide_eq_true he).symm,hc]at hu;exact absurd hu.2 (by simp)
end
def Dv(m:List (ByteArray×Service)):Prop:=∀p∈m,F9 p.2.Name=true∧S6 p.2=false
theorem QI:Dv []:=fun _ h=>by simp at h
theorem Kv{m m':List (ByteArray×Service)}(h:Dv m)(hs:m'.Sublist m):Dv m':=fun p hp=>h p (hs.subset hp)
theorem Lx{m:List (ByteArray×Service)}{v:Service}(hE:H7 m v=0):F9 v.Name=true∧S6 v=false∧D2 m v.Name=none:=by
 unfold H7 at hE;split at hE
 ·simp at hE
 split at hE
 ·simp at hE
 rename_i h1 h2
 refine⟨by simpa using h1,by simpa using h2,?_⟩
 cases hg:D2 m v.Name with
 | none=>rfl
 | some u=>rw[hg]at hE;simp at hE
theorem RH{m:List (ByteArray×Service)}(h:Dv m)(v:Service):Dv (V2 m v):=by
 unfold V2;split
 ·rename_i hE
  obtain⟨h1,h2,h3⟩:=Lx hE
  rw[FN h3];intro p hp;rcases List.mem_append.1 hp with hp|hp
  ·exact h p hp
  ·simp at hp;subst hp;exact⟨h1,h2⟩
 ·exact h
theorem Ss{m:List (ByteArray×Service)}(h:Dv m)(name:ByteArray)(core:Int):Dv (Hc m name core):=by
 unfold Hc;split
 ·exact Kv h CH
 ·exact h
theorem Qc{m:List (ByteArray×Service)}(h:Dv m)(l:List Service):Dv (U0 m l):=Kv h (Bl _ _)
end Go.Proofs.YtlimglpjpcfpdaaGreat
end
section
open Go Mk
namespace Go.Proofs.YtlimglpjpcfpdaaGreat
set_option maxHeartbeats 4000000
attribute [local irreducible] Calls H7 V2 j9 BL Q7 JR Ll Lr X4 Hc x9 Hj K1 U0 BW O8 AY Mu AR M7 FF Fi Fg
theorem TP(Γ:B8)(S:List A7)(w:World)(b bm:Nat)(vs:Value)(m:List (ByteArray×Service))(ws:List B4)(r:Nat)(v1 v2:Value)(ss:List Service)(x:Step)(hI:Inv m ws)(hV:Dv m)(h2:H9 m ss)(hw:Wd Γ (D4 b bm vs m ws++(L1 r v1 v2 ss ws++S)) w) :
  Calls Tryz.prog 7 #[.pointer (some ⟨b,0,none⟩),.pointer (some ⟨r,0,none⟩),.agg (enc x).toArray] w fun e w'=>e=.returned (.bool true)∧∃(vs' v1' v2':Value) (m':List (ByteArray×Service)) (ws':List B4) (ss':List Service) (S':List A7),Inv m' ws'∧Dv m'∧H9 m' ss'∧Wd Γ (D4 b bm vs' m' ws'++(L1 r v1' v2' ss' ws'++(S'++S))) w':=by
 have hss:ss.length≤64:=by have:=u1 h2;have:=hI.ml;omega
 have hws:=hI.wl
 refine A3 Tryz.func7 rfl rfl ?_
 refine A4 ?_;refine E5 ?_;intro bx w hw;refine A4 ?_;refine C5 ?_;refine(Ln Γ _ w x hw).mono ?_
 rintro e w ⟨rfl,hw⟩
 refine⟨_,rfl,?_⟩;have sv:SB (Mv x).Name:=inferInstance
 have sw:SB (Mq x).Name:=inferInstance
 refine A4 ?_;refine B2 ?_;intro bs w hw;refine B2 ?_;intro bw w hw;refine B0 ?_;intro w hw;refine B0 ?_;intro w hw;have hw:Wd Γ (.blk bw (.cells (enc (Mq x)).toArray 39)::.blk bs (.cells (enc (Mv x)).toArray 37)::.blk bx (.cells (enc x).toArray 41)::(D4 b bm vs m ws++(L1 r v1 v2 ss ws++S))) w:=hw
 generalize Mv x=v at *
 generalize Mq x=y at *
 refine A4 ?_;refine A0 rfl (fun e0=>?_) (fun e0=>?_)
 ·refine A4 ?_;refine C5 ?_;refine(CG Γ _ w b bm vs m ws v hws (Wd.swapApp (A:=[_,_,_]) hw)).mono ?_
  rintro e w ⟨fv,vs',rfl,hw⟩
  refine⟨_,rfl,?_⟩;refine A4 ?_;refine C5 ?_;refine(Fl Γ _ w r v1 v2 ss ws v hss hws h2.asc (hw.ps [9,9,9])).mono ?_
  rintro e w ⟨fv2,v1',v2',ss',rfl,hs1,hs2,hw⟩
  refine⟨_,rfl,?_⟩;rw[EY hI h2]at hs1 hs2 hw
  rw[show (if H7 m v=0 then K1 v ws else [])=BL m ws v from by unfold BL;rfl,show (if H7 m v=0 then ws.filter (fun x=>!decide (x.Name=v.Name)) else ws)=j9 m ws v from by unfold j9;rfl]at hw
  have hS:H9 (V2 m v) ss':=by
   by_cases hE:H7 m v=0
   ·exact RX hI h2 hE (hs2 hE).1 (hs2 hE).2
   ·rw[hs1 hE,show V2 m v=m from by unfold V2;rw[if_neg hE]];exact h2
  have hI':=RG hI v
  refine A4 ?_;refine C5 ?_;refine(Ft Γ _ w fv fv2 _ _ (hw.ps [4])).mono ?_
  rintro e w ⟨rfl,hw⟩
  refine⟨_,rfl,?_⟩;rw[EY hI h2];refine A4 ?_;refine⟨_,rfl,G7 rfl (by simp),vs',v1',v2',_,_,ss',_::_::_::_::[_],hI',RH hV v,hS,hw.ps [4,4,4,7,7,7]⟩
 ·refine A4 ?_;refine A0 rfl (fun e1=>?_) (fun e1=>?_)
  ·refine A4 ?_;refine Z7 [.blk bw _,.blk bs _,.blk bx _] (D4 b bm vs m ws++(L1 r v1 v2 ss ws++S)) [] [[],[],[],[],[],[0],[],[],[],[],[],[0],[],[]] hw ?_
   refine i9 ?_;refine j7 (T':=Unit) (v:=.int .i64 (X4 m v.Name v.Core)) (fun _ _=>True) (fun _=>D4 b bm vs (Hc m v.Name v.Core) ws++(L1 r v1 v2 ss ws++S)) (fun _ _=>_) (fun t g w Y _ hw=>?_) ?_
   ·refine(FT Γ _ w b bm vs m ws v.Name v.Core hw.as).mono ?_
    rintro e w ⟨rfl,hw⟩
    exact⟨_,rfl,(),trivial,fun _=>rfl,hw.sa⟩
   refine i9 ?_;refine j7 (T':=Value) (v:=.int .i64 (X4 m v.Name v.Core)) (fun _ _=>True) (fun t=>D4 b bm vs (Hc m v.Name v.Core) ws++(L1 r t v2 (Mu ss v.Name v.Core) ws++S)) (fun _ _=>_) (fun t g w Y _ hw=>?_) ?_
   ·refine(EA Γ _ w r v1 v2 ss ws v.Name v.Core hss (hw.ps [5,5,5])).mono ?_
    rintro e w ⟨v1',rfl,hw⟩
    rw[Gl hI h2];exact⟨_,rfl,v1',trivial,fun _=>rfl,hw.ps [5,5,5]⟩
   refine i9 ?_;refine y6 fun v1' w g _ hw=>?_
   refine A4 ?_;exact⟨_,rfl,G7 rfl (by simp),vs,v1',v2,Hc m v.Name v.Core,ws,Mu ss v.Name v.Core,[_,_,_],Sa hI _ _,Ss hV _ _,TD hI h2 _ _,hw.tuck⟩
  ·refine A4 ?_;refine A0 rfl (fun e2=>?_) (fun e2=>?_)
   ·refine A4 ?_;refine C5 ?_;refine(Kd Γ _ w b bm vs m ws v.Name (Wd.swapApp (A:=[_,_,_]) hw)).mono ?_
    rintro e w ⟨rfl,hw⟩
    refine⟨_,rfl,?_⟩;have hr1:=v8 hI h2 v.Name
    have hr2:=Mo hI h2 v.Name
    have hw:=Wd.swapApp (B:=[_,_,_]) hw
    generalize hA:(D2 m v.Name).getD default=A at *
    generalize BW m v.Name=E at *
    refine A4 ?_;refine B2 ?_;intro ba w hw;refine B0 ?_;intro w hw;have hw:Wd Γ (.blk ba (.cells (enc A).toArray 37)::([_,_,_]++(D4 b bm vs m ws++(L1 r v1 v2 ss ws++S)))) w:=hw
    refine A4 ?_;refine C5 ?_;refine(IL Γ _ w r v1 v2 ss ws v.Name (hw.ps [9,9,9])).mono ?_
    rintro e w ⟨rfl,hw⟩
    refine⟨_,rfl,?_⟩;rw[hr1,hA,hr2];refine A4 ?_;refine B2 ?_;intro bb w hw;refine B0 ?_;intro w hw;have hw:Wd Γ (.blk bb (.cells (enc A).toArray 37)::_) w:=hw
    refine A4 ?_;exact⟨_,rfl,G7 rfl (by simp),vs,v1,v2,m,ws,ss,_::_::_::_::[_],hI,hV,h2,hw.ps [3,3,3,10,10,10]⟩
   ·refine A4 ?_;refine A0 rfl (fun e3=>?_) (fun e3=>?_)
    ·refine A4 ?_;refine C5 ?_;refine(GE Γ _ w b bm vs m ws y hws (Wd.swapApp (A:=[_,_,_]) hw)).mono ?_
     rintro e w ⟨vs',rfl,hw⟩
     refine⟨_,rfl,?_⟩;have hw:=Wd.swapApp (B:=[_,_,_]) hw
     obtain⟨w1,w2,w3⟩:=TM hI h2 y
     have w4:=Gg hI h2 y
     have hI':=Sy hI y
     generalize Ll m ws y=F at *
     generalize Q7 m ws y=E at *
     generalize Lr m ws y=A at *
     refine A4 ?_;refine B2 ?_;intro ba w hw;refine B0 ?_;intro w hw;have hw:Wd Γ (.blk ba (.cells (enc A).toArray 37)::([_,_,_]++(D4 b bm vs' m (JR m ws y)++(L1 r v1 v2 ss ws++S)))) w:=hw
     refine A4 ?_;refine C5 ?_;refine(Ju Γ _ w r v1 v2 ss ws y hws (hw.ps [9,9,9])).mono ?_
     rintro e w ⟨v2',rfl,hw⟩
     refine⟨_,rfl,?_⟩;rw[w1]at hw;rw[w2,w3,w4];refine A4 ?_;refine B2 ?_;intro bb w hw;refine B0 ?_;intro w hw;have hw:Wd Γ (.blk bb (.cells (enc A).toArray 37)::_) w:=hw
     refine A4 ?_;exact⟨_,rfl,G7 rfl (by simp),vs',v1,v2',m,_,ss,_::_::_::_::[_],hI',hV,h2,hw.ps [3,3,3,10,10,10]⟩
    ·refine A4 ?_;refine A0 rfl (fun e4=>?_) (fun e4=>?_)
     ·refine A4 ?_;refine Z7 [.blk bw _,.blk bs _,.blk bx _] (D4 b bm vs m ws++(L1 r v1 v2 ss ws++S)) [] [[],[],[],[],[],[0],[],[],[],[],[],[0],[],[]] hw ?_
      refine i9 ?_;refine j7 (T':=Value) (v:=.int .i64 (x9 ws y.Token y.Core)) (fun _ _=>True) (fun t=>D4 b bm t m (Hj ws y.Token y.Core)++(L1 r v1 v2 ss ws++S)) (fun _ _=>_) (fun t g w Y _ hw=>?_) ?_
      ·refine(KO Γ _ w b bm vs m ws y.Token y.Core hws hw.as).mono ?_
       rintro e w ⟨vs',rfl,hw⟩
       exact⟨_,rfl,vs',trivial,fun _=>rfl,hw.sa⟩
      refine i9 ?_;refine j7 (T':=Value×Value) (v:=.int .i64 (x9 ws y.Token y.Core)) (fun _ _=>True) (fun t=>D4 b bm t.1 m (Hj ws y.Token y.Core)++(L1 r v1 t.2 ss (Hj ws y.Token y.Core)++S)) (fun _ _=>_) (fun t g w Y _ hw=>?_) ?_
      ·refine(JF Γ _ w r v1 v2 ss ws y.Token y.Core hws (hw.ps [5,5,5])).mono ?_
       rintro e w ⟨v2',rfl,hw⟩
       exact⟨_,rfl,(t,v2'),trivial,fun _=>rfl,hw.ps [5,5,5]⟩
      refine i9 ?_;refine y6 fun t w g _ hw=>?_
      refine A4 ?_;exact⟨_,rfl,G7 rfl (by simp),t.1,v1,t.2,m,_,ss,[_,_,_],Sd hI _ _,hV,h2,hw.tuck⟩
     ·refine A4 ?_;refine Z7 [.blk bw _,.blk bs _,.blk bx _] (D4 b bm vs m ws++(L1 r v1 v2 ss ws++S)) [139,143] [[],[],[],[0],[],[],[],[0],[0],[]] hw ?_
      have hI':=RU hI (ss.filter (I4 y.Core)) (fun x=>!P8 y.Core x)
      have h2':=RI hI h2 y.Core
      refine i9 ?_;refine j7 (v:=undef) (T':=Value×Value) (fun t g=>g 139=t.1) (fun t=>.own t.1 37 4 ((ss.filter (I4 y.Core)).map enc)::(D4 b bm t.2 (U0 m (ss.filter (I4 y.Core))) (ws.filter fun x=>!P8 y.Core x)++(L1 r v1 v2 ss ws++S))) (fun _ _=>_) (fun t g w Y _ hw=>?_) ?_
      ·refine(Jb Γ _ w b bm vs m ws y.Core hI.ml hw.as).mono ?_
       rintro e w ⟨v',ys,vs',rfl,hys,hw⟩
       obtain rfl:=DN hI hys h2
       exact⟨_,rfl,(v',vs'),rfl,(fun h=>by cases h),Wd.sa (A:=_::D4 b bm vs' _ _) hw⟩
      refine i9 ?_;refine j7 (v:=undef) (T':=(Value×Value)×Value×Value×Value) (fun t g=>g 139=t.1.1∧g 143=t.2.1) (fun t=>.own t.1.1 37 4 ((ss.filter (I4 y.Core)).map enc)::.own t.2.1 37 4 ((ss.filter (I4 y.Core)).map enc)::(D4 b bm t.1.2 (U0 m (ss.filter (I4 y.Core))) (ws.filter fun x=>!P8 y.Core x)++(L1 r t.2.2.1 t.2.2.2 (ss.filter fun x=>!I4 y.Core x) (ws.filter fun x=>!P8 y.Core x)++S))) (fun _ _=>_) (fun t g w Y ht hw=>?_) ?_
      ·refine(Ih Γ _ w r v1 v2 ss ws y.Core hss hws (hw.ps [6,6,6])).mono ?_
       rintro e w ⟨u,v1',v2',rfl,hw⟩
       exact⟨_,rfl,(t,u,v1',v2'),⟨ht,rfl⟩,(fun h=>by cases h),hw.ps [3,3,3,7,7,7,6,7]⟩
      refine j7 (φ:=fun (t:(Value×Value)×Value×Value×Value) g=>g 139=t.1.1∧g 143=t.2.1) (v:=.bool true) (T':=(Value×Value)×Value×Value×Value) (fun _ _=>True) (fun t=>.own t.1.1 37 4 ((ss.filter (I4 y.Core)).map enc)::.own t.2.1 37 4 ((ss.filter (I4 y.Core)).map enc)::(D4 b bm t.1.2 (U0 m (ss.filter (I4 y.Core))) (ws.filter fun x=>!P8 y.Core x)++(L1 r t.2.2.1 t.2.2.2 (ss.filter fun x=>!I4 y.Core x) (ws.filter fun x=>!P8 y.Core x)++S))) (fun t _=>[t.1.1,t.2.1]) (fun t g w Y _ hw=>?_) ?_ (ha:=fun t g ht=>EvL.cons ht.1 (EvL.cons ht.2 EvL.nil))
      ·refine(Ct Γ _ w _ _ _ _ hw).mono ?_
       rintro e w ⟨rfl,hw⟩
       exact⟨_,rfl,t,trivial,(fun _=>by simp),hw⟩
      refine i9 ?_;refine y6 fun t w g _ hw=>?_
      refine A4 ?_;exact⟨_,rfl,rfl,t.1.2,t.2.2.1,t.2.2.2,_,_,_,[_,_,_,_,_],hI',Qc hV _,h2',(Wd.tuck (A:=_::_::D4 b bm t.1.2 _ _) hw).ps [7,7,7,7,7,7]⟩
end Go.Proofs.YtlimglpjpcfpdaaGreat
end
section
open Go Mk
namespace Go.Proofs.YtlimglpjpcfpdaaGreat
set_option maxHeartbeats 4000000
attribute [local irreducible] Calls cI cB I1
def Ci:ByteArray:=⟨#[115,101,114,118,105,99,101]⟩
def R0(s:Service):List Val:=[⟨2,0,s.Name⟩,⟨1,s.Core,⟨#[]⟩⟩,⟨1,s.Object,⟨#[]⟩⟩,⟨1,s.Kind,⟨#[]⟩⟩]
def B3(s:Service):I3:=(Ci,R0 s)
end Go.Proofs.YtlimglpjpcfpdaaGreat
end
section
open Go Mk
namespace Go.Proofs.YtlimglpjpcfpdaaGreat
set_option maxHeartbeats 4000000
attribute [local irreducible] Calls cI cB
theorem MC{a b:Service}(h:V9 a.Name b.Name=true):I1 (B3 a) (B3 b) = -1:=by
 have h1:cV ⟨2,0,a.Name⟩ ⟨2,0,b.Name⟩ = -1:=by
  unfold cV;rw[Cn.refl,Q1 rfl,Cn.refl,Q1 rfl];exact SE.2 h
 show z8 (cB Ci Ci) (z8 (cI 4 4) (cL cV (R0 a) (R0 b))) = -1
 rw[KU.refl,Q1 rfl,Cn.refl,Q1 rfl];show z8 (cV _ _) _ = -1
 rw[h1];rfl
theorem HD{fs:List C1}{ss:List Service}(h:fs.map C1.fact=ss.map B3)(hs:ss.Pairwise fun a b=>V9 a.Name b.Name=true):fs.Pairwise fun a b=>I1 a.fact b.fact = -1:=by
 have h1:(ss.map B3).Pairwise fun a b=>I1 a b = -1:=by
  rw[List.pairwise_map];exact hs.imp fun h=>MC h
 rw[←h,List.pairwise_map]at h1;exact h1
attribute [local irreducible] I1
instance pg_F1(Γ:B8)(v:Int):PG Tryz.prog Γ 55 [.int .i64 v] (.agg (enc (⟨1,v,⟨#[]⟩⟩:Val)).toArray):=⟨fun S w hw=>by
 refine F8 Tryz.func55 rfl rfl ?_
 repeat first|refine B6 ?_|refine B7 ?_;intro w hw
 refine B2 ?_;intro b w hw;repeat first|refine B6 ?_|refine B7 ?_;intro w hw
 refine B0 ?_;intro w hw;have hw:Wd Γ (.blk b (.cells (enc (⟨1,v,⟨#[]⟩⟩:Val)).toArray 54)::S) w:=hw
 repeat first|refine B6 ?_|refine B7 ?_;intro w hw
 exact⟨[.agg (enc (⟨1,v,⟨#[]⟩⟩:Val)).toArray],⟨J6 (i:=0) hw rfl rfl rfl,trivial⟩,rfl,hw.drop⟩⟩
theorem EQ(Γ:B8)(S:List A7)(w:World)(b bm:Nat)(vs:Value)(m:List (ByteArray×Service))(ws:List B4)(ss:List Service)(hI:Inv m ws)(h2:H9 m ss)(hw:Wd Γ (D4 b bm vs m ws++S) w) :
  Calls Tryz.prog 15 #[.pointer (some ⟨b,0,none⟩)] w fun e w'=>∃(v:Value) (Γ':B8) (fs:List C1),e=.returned v∧Γ.le Γ'∧(∀f∈fs,Bt Γ' f)∧fs.map C1.fact=ss.map B3∧Wd Γ' (.own v 135 2 (fs.map cF)::(D4 b bm vs m ws++S)) w':=by
 have hsl:=u1 h2
 have hml:=hI.ml
 refine A3 Tryz.func15 rfl rfl ?_
 repeat first|refine B6 ?_|refine B7 ?_;intro w hw
 refine C5 ?_;refine(X6 Γ _ w b bm vs m ws hI.ml hw).mono ?_
 rintro e w ⟨vsv,ys,rfl,hys,hw⟩
 obtain rfl:=DN hI hys h2
 refine⟨_,rfl,?_⟩;obtain⟨a,n,c,rfl,hn,hnc,hc⟩:=hw.own_shape (i:=0) rfl
 simp only[List.length_map]at hn
 repeat first|refine B6 ?_|refine B7 ?_;intro w hw
 refine C8 (fun μ ρ w=>∃(k:Nat) (g:Value) (Γ':B8) (fs:List C1),μ+k=n∧Has ρ [(3,.func (.func 55) #[] #[]),(4,g),(9,.slice a n c),(10,.int .i64 n),(11,.int .i64 k)]∧Γ.le Γ'∧(∀f∈fs,Bt Γ' f)∧fs.map C1.fact=(ys.take k).map B3∧Wd Γ' (.own g 135 2 (fs.map cF)::.own (.slice a n c) 37 4 (ys.map enc)::(D4 b bm vs m ws++S)) w) n ⟨0,.slice none 0 0,Γ,[],by omega,⟨rfl,rfl,rfl,rfl,rfl,trivial⟩,B8.le.refl _,by simp,by simp,Wd.addNil hw⟩ ?_
 clear hw;rintro μ ρ w ⟨k,g,Γ',fs,hk,hρ,hle,hok,hfs,hw⟩
 rw[hρ.eq];have hfl:fs.length≤64:=by have:=congrArg List.length hfs;simp at this;omega
 obtain⟨ag,ng,cg,rfl,hng,hngc,hcg⟩:=hw.own_shape (i:=0) rfl
 simp only[List.length_map]at hng
 repeat first|refine B6 ?_|refine B7 ?_;intro w hw
 refine A0 rfl (fun h=>?_) (fun h=>?_)
 ·have hkn:k<n:=by simpa using h
  obtain⟨x,hx⟩:=C0 (l:=ys) (k:=k) (by omega)
  repeat first|refine B6 ?_|refine B7 ?_;intro w hw
  refine B2 ?_;intro b6 w hw;refine B0 ?_;intro w hw;have hw:Wd Γ' (.blk b6 (.cells (enc x).toArray 37)::(.own (.slice ag ng cg) 135 2 (fs.map cF)::.own (.slice a n c) 37 4 (ys.map enc)::(D4 b bm vs m ws++S))) w:=hw
  repeat first|refine B6 ?_|refine B7 ?_;intro w hw
  refine Z7 [.blk b6 _] (.own (.slice ag ng cg) 135 2 (fs.map cF)::.own (.slice a n c) 37 4 (ys.map enc)::(D4 b bm vs m ws++S)) [30,7] [[],[],[],[],[],[],[],[],[],[],[],[],[],[],[],[0],[0]] hw ?_
  refine i9 ?_;refine mY (v:=.agg (enc (⟨2,0,x.Name⟩:Val)).toArray) ?_ rfl rfl rfl (fun Y w g hw=>Cc rfl)
  refine i9 ?_;refine TE ?_
  refine i9 ?_;refine TE ?_
  refine i9 ?_;refine TE ?_
  refine i9 ?_;refine Z2 (v:=undef) (T':=Value) (fun t g=>g 30=t) (fun t=>.own t 54 3 ((R0 x).map enc)::(.own (.slice ag ng cg) 135 2 (fs.map cF)::.own (.slice a n c) 37 4 (ys.map enc)::(D4 b bm vs m ws++S))) (fun t g w Y _ hw=>L9 (rws:=(R0 x).map enc) hw rfl rfl rfl (fun r hr=>by obtain⟨v,_,rfl⟩:=List.mem_map.1 hr;rfl) (by decide) fun q w' hw'=>⟨_,rfl,(fun h=>by cases h),hw'⟩) ?_
  refine Z2 (φ:=fun (t:Value) g=>g 30=t) (R:=fun t=>.own t 54 3 ((R0 x).map enc)::(.own (.slice ag ng cg) 135 2 (fs.map cF)::.own (.slice a n c) 37 4 (ys.map enc)::(D4 b bm vs m ws++S))) (v:=undef) (T':=Value) (fun t g=>g 7=t) (fun t=>.own t 54 3 ((R0 x).map enc)::(.own (.slice ag ng cg) 135 2 (fs.map cF)::.own (.slice a n c) 37 4 (ys.map enc)::(D4 b bm vs m ws++S))) (fun t g w Y ht hw=>Yields.step (p8 ht) ⟨t,rfl,(fun h=>by cases h),hw⟩) ?_
  refine y6 (φ:=fun (t:Value) g=>g 7=t) fun t w g ht hw=>?_
  obtain⟨a7,n7,c7,rfl,hn7,hnc7,hc7⟩:=hw.own_shape (i:=0) rfl
  refine Kz (l:=[(3,.func (.func 55) #[] #[]),(4,.slice ag ng cg),(7,.slice a7 n7 c7),(9,.slice a n c),(10,.int .i64 n),(11,.int .i64 k)]) ⟨rfl,rfl,ht,rfl,rfl,rfl,trivial⟩ fun ρ hρ=>?_
  rw[hρ.eq];have hw:Wd Γ' (.own (.slice a7 n7 c7) 54 3 ((R0 x).map enc)::.own (.slice ag ng cg) 135 2 (fs.map cF)::.own (.slice a n c) 37 4 (ys.map enc)::(D4 b bm vs m ws++S)) w:=Wd.left (S:=_::_::_::(D4 b bm vs m ws++S)) hw
  obtain⟨Γ2,hle2,hokf,hw⟩:=hw.freeze;repeat first|refine B6 ?_|refine B7 ?_;intro w hw
  refine D7 [cF ⟨Ci,a7,n7,c7,R0 x⟩] ?_
  intro a34 w hw;refine Bp (i:=1) (rows2:=[cF ⟨Ci,a7,n7,c7,R0 x⟩]) ?_ (Wd.own_rd (i:=0) hw rfl)
  intro v' w hw;repeat first|refine B6 ?_|refine B7 ?_;intro w hw
  refine⟨μ-1,by omega,k+1,v',Γ2,fs++[⟨Ci,a7,n7,c7,R0 x⟩],by omega,⟨rfl,rfl,rfl,rfl,rfl,trivial⟩,hle.trans hle2,?_,?_,?_⟩
  ·intro f' hf';rcases List.mem_append.1 hf' with hf'|hf'
   ·exact(hok f' hf').mono hle2
   ·simp at hf';subst hf';exact hokf
  ·rw[List.take_add_one,hx];simp[hfs,B3,C1.fact]
  ·have e2:(fs++[(⟨Ci,a7,n7,c7,R0 x⟩:C1)]).map cF=fs.map cF++[cF ⟨Ci,a7,n7,c7,R0 x⟩]:=by simp
   rw[e2];exact hw.drop
 ·have hkn:¬k<n:=by simpa using h
  rw[List.take_of_length_le (by omega)]at hfs
  repeat first|refine B6 ?_|refine B7 ?_;intro w hw
  refine C5 ?_;refine(Ez fs _ hok (by omega) hw).mono ?_
  rintro e w ⟨rfl,gs,hp,hs,hw⟩
  have hstr:=HD hfs (O0 hI h2)
  have he:=Gr (lt:=Go.Proofs.ltOf fun a b:C1=>I1 a.fact b.fact) (hstr.imp fun {a b} hab=>Y4.lt_iff.2 hab) hs hp
  rw[he]at hw;refine⟨_,rfl,?_⟩;repeat first|refine B6 ?_|refine B7 ?_;intro w hw
  exact⟨_,rfl,_,Γ',fs,rfl,hle,hok,hfs,hw.dropAt 1⟩
end Go.Proofs.YtlimglpjpcfpdaaGreat
end
section
open Go Mk
namespace Go.Proofs.YtlimglpjpcfpdaaGreat
set_option maxHeartbeats 4000000
def CB:ByteArray:=⟨#[78]⟩
def By:ByteArray:=⟨#[75]⟩
def FY:ByteArray:=⟨#[67]⟩
def iV(i:Int):Val:=⟨1,i,⟨#[]⟩⟩
def wV(s:ByteArray):Val:=⟨2,0,s⟩
def Fb:F5:=⟨1,Ci,[⟨CB,N3⟩,⟨FY,N3⟩,⟨I8,N3⟩,⟨By,N3⟩],0,d5,d5,0,0,0⟩
def HL(c:Int):F5:=⟨3,D8,[],1,⟨FY,N3⟩,⟨D8,iV c⟩,0,0,0⟩
def Dr(c:Int):E7:=⟨[CB,By],[Fb,HL c]⟩
theorem IX:CB≠D8∧By≠D8∧FY≠D8∧CB≠I8∧By≠I8∧FY≠I8∧I8≠D8∧CB≠By∧CB≠FY∧FY≠By:=by decide +kernel
theorem II(i:Int):J1 (iV i)=true:=by simp[J1,iV]
theorem Po{s:ByteArray}(h:F9 s=true):J1 (wV s)=true:=by
 have h1:=Aq h
 have h2:=MN h
 have h3:Af s=true:=by
  unfold F9 at h;rw[Bool.and_eq_true]at h;exact NU h.1
 simp[J1,wV,CO,h1,h2,h3]
theorem TU{a b:Int}:iV a=iV b↔a=b:=⟨fun h=>by injection h,fun h=>by rw[h]⟩
theorem Ix{fin:Env→List (List Val)}{g:F5}{t:List I3}{r:List (F5×List I3)}{e:Env}{x:List Val}(hk:g.Kind=1):x∈u4 fin ((g,t)::r) e↔∃f∈t,L6 e g.Args f.2=true∧∃e',Q8 e g.Args f.2=some e'∧x∈u4 fin r e':=by
 rw[u4,if_pos hk,List.mem_flatMap];constructor
 ·rintro⟨f,hf,h⟩;split at h
  ·rename_i hft
   unfold J3 at h;split at h
   ·rename_i e' he
    exact⟨f,hf,hft,e',he,h⟩
   ·cases h
  ·cases h
 ·rintro⟨f,hf,hft,e',he,h⟩;refine⟨f,hf,?_⟩
  rw[if_pos hft];unfold J3;rw[he];exact h
theorem QE{m:Service}(hn:F9 m.Name=true):L6 [] Fb.Args (B3 m).2=true:=by
 obtain⟨c1,c2,c3,c4,c5,c6,c7,n1,n2,n3⟩:=IX;have g0:∀s,D2 ([]:Env) s=none:=fun s=>rfl
 show (Cz [] ⟨CB,N3⟩ (wV m.Name)&&(Cz [] ⟨FY,N3⟩ (iV m.Core)&&(Cz [] ⟨I8,N3⟩ (iV m.Object)&&(Cz [] ⟨By,N3⟩ (iV m.Kind)&&true))))=true
 simp[Cz,c1,c2,c3,c4,c5,c6,g0,II,Po hn]
theorem Hm{m:Service}:Q8 [] Fb.Args (B3 m).2=some [(CB,wV m.Name),(FY,iV m.Core),(By,iV m.Kind)]:=by
 obtain⟨c1,c2,c3,c4,c5,c6,c7,n1,n2,n3⟩:=IX;have g0:∀s,D2 ([]:Env) s=none:=fun s=>rfl
 show Q8 [] [⟨CB,N3⟩,⟨FY,N3⟩,⟨I8,N3⟩,⟨By,N3⟩] [wV m.Name,iV m.Core,iV m.Object,iV m.Kind]=_
 simp[Q8,c1,c2,c3,c4,c5,c6,c7,n1,n2,n3,g0,T1]
theorem Kq{ss:List Service}{f:I3}:f∈R5 (ss.map B3) Fb↔∃m∈ss,f=B3 m:=by
 show f∈(BS (ss.map B3)).filter (ID Ci 4)↔_
 rw[List.mem_filter,show f∈BS (ss.map B3)↔f∈ss.map B3 from IF Y4,List.mem_map];constructor
 ·rintro⟨⟨m,h1,h2⟩,-⟩;exact⟨m,h1,h2.symm⟩
 ·rintro⟨m,h1,rfl⟩;exact⟨⟨m,h1,rfl⟩,by simp[ID,B3,R0]⟩
def Fa(ss:List Service)(c:Int):List (List Val):=(ss.filter fun m=>decide (m.Core=c)).map fun m=>[wV m.Name,iV m.Kind]
theorem Sk{ss:List Service}(hv:∀m∈ss,F9 m.Name=true){c:Int}{x:List Val}:x∈HC (ss.map B3) (Dr c)↔x∈Fa ss c:=by
 obtain⟨c1,c2,c3,c4,c5,c6,c7,n1,n2,n3⟩:=IX;obtain⟨gt,hgt⟩:∃gt,gt=J2 (ss.map B3) (Dr c):=⟨_,rfl⟩
 have hx:HC (ss.map B3) (Dr c)=u4 (u3 gt [CB,By]) [(Fb,R5 (ss.map B3) Fb),(HL c,[])] []:=by rw[hgt];rfl
 have hone:∀m:Service,x∈u4 (u3 gt [CB,By]) [(HL c,[])] [(CB,wV m.Name),(FY,iV m.Core),(By,iV m.Kind)]↔m.Core=c∧x=[wV m.Name,iV m.Kind]:=fun m=>by
  obtain⟨e,he⟩:∃e:Env,e=[(CB,wV m.Name),(FY,iV m.Core),(By,iV m.Kind)]:=⟨_,rfl⟩
  rw[←he];have v1:W6 e CB=wV m.Name:=by rw[he];unfold W6;rw[T1,if_pos rfl];rfl
  have v2:W6 e FY=iV m.Core:=by rw[he];unfold W6;rw[T1,if_neg n2,T1,if_pos rfl];rfl
  have v3:W6 e By=iV m.Kind:=by rw[he];unfold W6;rw[T1,if_neg n1,T1,if_neg n3,T1,if_pos rfl];rfl
  have h1:u4 (u3 gt [CB,By]) [(HL c,[])] e=u3 gt [CB,By] e:=by simp[u4,HL]
  have d1:∀t,Q9 e (Fb,t)=true:=fun t=>by simp[Q9,Fb]
  have d2:∀t,Q9 e (HL c,t)=decide (m.Core=c):=fun t=>by
   simp[Q9,HL,w6,DG,c3,v2,TU]
  rw[h1];unfold u3;have h2:gt.all (Q9 e)=decide (m.Core=c):=by
   rw[hgt];show (Q9 e (Fb,_)&&(Q9 e (HL c,_)&&true))=_
   rw[d1,d2,Bool.true_and,Bool.and_true]
  have h3:Cm [CB,By] e=[wV m.Name,iV m.Kind]:=by
   show [W6 e CB,W6 e By]=_
   rw[v1,v3]
  rw[h2,h3];by_cases k:m.Core=c
  ·simp[k]
  ·simp[k]
 rw[hx,Ix rfl];unfold Fa;rw[List.mem_map];constructor
 ·rintro⟨f,hf,hft,e',he',h⟩;obtain⟨m,hm,rfl⟩:=Kq.1 hf
  rw[Hm]at he';cases he'
  obtain⟨h1,h2⟩:=(hone m).1 h
  exact⟨m,List.mem_filter.2 ⟨hm,by simp[h1]⟩,h2.symm⟩
 ·rintro⟨m,hm,h⟩;rw[List.mem_filter]at hm;exact⟨B3 m,Kq.2 ⟨m,hm.1,rfl⟩,QE (hv m hm.1),_,Hm,(hone m).2 ⟨by simpa using hm.2,h.symm⟩⟩
theorem Qb{ss:List Service}{c:Int}(hs:ss.Pairwise fun a b=>V9 a.Name b.Name=true):(Fa ss c).Pairwise fun a b=>cL cV a b = -1:=by
 unfold Fa;rw[List.pairwise_map];refine(hs.filter _).imp fun {a b} h=>?_
 simp[cL,cV,z8,cI,wV,iV,cB,h]
theorem GP{n:Int}:l4 (Dr n)=[CB,By,FY]:=by
 unfold l4;rw[show Ea (Dr n)=[CB,By,CB,FY,I8,By,FY,D8] from rfl]
 decide +kernel
theorem Iw{n:Int}:BR (Dr n)=0:=by
 obtain⟨c1,c2,c3,c4,c5,c6,c7,n1,n2,n3⟩:=IX;have h1:y5 (Dr n)=true:=by
  unfold y5;rw[GP];rfl
 have h2:f9 (Dr n)=true:=by
  have e1:N4 Fb=true:=by simp[N4,Fb]
  have e2:N4 (HL n)=true:=by simp[N4,HL]
  show (N4 Fb&&(H3 Fb).all plainO&&(N4 (HL n)&&(H3 (HL n)).all plainO&&true))=true
  rw[e1,e2];simp[H3,Fb,HL,plainO]
 have h3:S4 (Dr n)=true:=by
  have v1:T0 CB=true:=by decide +kernel
  have v2:T0 By=true:=by decide +kernel
  have v3:T0 FY=true:=by decide +kernel
  have k1:F9 Ci=true:=by decide +kernel
  have k2:Fp Ci=false:=by decide +kernel
  simp[S4,Dr,AK,Fb,HL,H3,DZ,F7,II,v1,v2,v3,k1,k2,c1,c2,c3,c4,c5,c6,c7,Ne.symm c7]
 have h4:BX (Dr n)=true:=by simp[BX,Dr,Fb,HL,AB]
 have h5:(Dr n).Sel.Nodup:=by simp[Dr,n1]
 have h6:AM (Dr n)=true:=by
  unfold AM;rw[GP];show ([CB,By,FY].all fun s=>j8 [CB,FY,I8,By] s)=true
  decide +kernel
 simp[BR,h1,h2,h3,h4,h5,h6]
theorem OH{n:Int}(hn:Bq n):CQ (Dr n):=by
 have o:∀s:ByteArray,s.size≤9223372036854775807→Ab ⟨s,N3⟩:=fun s h=>⟨h,by show d3 N3;exact⟨by decide,by decide⟩⟩
 have c:∀i,Bq i→Ab ⟨D8,iV i⟩:=fun i h=>⟨by show D8.size≤9223372036854775807;decide,h,by show (⟨#[]⟩:ByteArray).size≤9223372036854775807;decide⟩
 have z0:Bq 0:=⟨by decide,by decide⟩
 refine⟨show 2≤1000 by decide,fun s hs=>?_,show 2≤1000 by decide,fun g hg=>?_⟩
 ·have:s=CB∨s=By:=by
   have:s∈[CB,By]:=hs
   simpa using this
  rcases this with rfl|rfl <;> decide
 have hg:g=Fb∨g=HL n:=by
  have:g∈[Fb,HL n]:=hg
  simpa using this
 rcases hg with rfl|rfl
 ·refine⟨show Ci.size≤9223372036854775807 by decide,show 4≤1000 by decide,fun x hx=>?_,o D8 (by decide),o D8 (by decide),z0,z0,z0⟩
  have hx:x∈[⟨CB,N3⟩,⟨FY,N3⟩,⟨I8,N3⟩,(⟨By,N3⟩:K0)]:=hx
  simp only[List.mem_cons,List.not_mem_nil,or_false]at hx
  rcases hx with rfl|rfl|rfl|rfl <;> exact o _ (by decide)
 ·exact⟨show D8.size≤9223372036854775807 by decide,show 0≤1000 by decide,fun x hx=>(by cases hx),o FY (by decide),c n hn,z0,z0,z0⟩
theorem Om{ss:List Service}(hv:∀m∈ss,F9 m.Name=true)(hs:ss.Pairwise fun a b=>V9 a.Name b.Name=true)(hl:ss.length≤64){c:Int}:E1 (ss.map B3) (Dr c)=0∧G1 (ss.map B3) (Dr c)=Fa ss c:=by
 have h1:M9 (ss.map B3) (Dr c).Goals≤1000000:=by
  have e:M9 (ss.map B3) (Dr c).Goals=1*max (R5 (ss.map B3) Fb).length 1*1:=rfl
  have:=Hk (db:=ss.map B3) (g:=Fb)
  rw[List.length_map]at this;rw[e];omega
 have h0:E1 (ss.map B3) (Dr c)=0:=by
  unfold E1;rw[Iw];simp
  omega
 refine⟨h0,?_⟩
 unfold G1;rw[if_pos h0];symm
 exact Bh.eq Ks ⟨Qb hs,fun x=>(Sk hv).symm⟩
end Go.Proofs.YtlimglpjpcfpdaaGreat
end
