/- Texts of this proof, one behind another. -/
import Derived.Test.YtlmiakjbogojgaaGreatDoorM7
import Derived.Test.YtlmiakjbogojgaaGreatDoorM3
import Derived.Lib.ItoaNum
import Derived.Test.YtlmiakjbogojgaaGreatDoorM6
import Derived.Test.YtlmiakjbogojgaaGreatDoorM4
import Derived.Test.YtlmiakjbogojgaaGreatDoorM5
set_option linter.unusedVariables false
set_option linter.unusedSimpArgs false
section
open Go Mk
namespace Go.Proofs.YtlmiakjbogojgaaGreatDoor
set_option maxHeartbeats 32000000
def EC(toks:List Tok)(e:H9):Nat→List ByteArray→Nat→PR (List ByteArray)
 | 0,acc,k=>.ok (acc,k)
 | f+1,acc,k=>if Q4 toks k 4 V6=true then O2 (y7 toks e (k+1)) fun s k1=>EC toks e f (acc++[s]) k1 else .ok (acc,k)
def Xq(toks:List Tok)(e:H9)(k:Nat):PR (List ByteArray):=
 if Q4 toks k 1 O1=true then .ok ([],k) else O2 (y7 toks e k) fun s k1=>EC toks e (toks.length+1) [s] k1
def ED(toks:List Tok)(e:H9):Nat→List H3→Nat→PR (List H3)
 | 0,acc,k=>.ok (acc,k)
 | f+1,acc,k=>if Q4 toks k 4 V6=true then O2 (AI toks e (k+1)) fun g k1=>ED toks e f (acc++[g]) k1 else .ok (acc,k)
def Yj(toks:List Tok)(e:H9)(sel:List ByteArray)(k:Nat):PR F7:=
 O2 (De toks e 1 O1 k) fun _ k3=>O2 (AI toks e k3) fun g k4=>O2 (ED toks e (toks.length+1) [g] k4) fun gs k5=>
  if k5<toks.length then .error (R9 toks k5 e,50) else .ok (⟨sel,gs⟩,k5)
def EK(toks:List Tok)(e:H9)(k:Nat):PR F7:=
 O2 (De toks e 1 NC k) fun _ k1=>O2 (Xq toks e k1) fun sel k2=>Yj toks e sel k2
def bM(Γ:C8)(S:List B6)(bp:Nat)(a:Option Addr)(n c:Nat)(e:H9):PR F7→Ending→World→Prop
 | .ok (q,_),r,w=>∃Γ' vs vg gs,Γ.le Γ'∧r=.returned (.agg #[vs,vg])∧QR Γ' vs vg gs q∧Wd Γ' S w
 | .error (p,er),r,w=>∃Γ' k,Γ.le Γ'∧r=.panicked [DO p er]∧Wd Γ' (D3 bp a n c k e.Line e.Col::S) w
section
variable {Γ:C8}{S:List B6}{w:World}{bp:Nat}{a:Option Addr}{n c at':Nat}{e:H9}{toks:List Tok}
theorem I9{α β:Type}{x:α}{k:Nat}{f:α→Nat→PR β}:O2 (.ok (x,k)) f=f x k:=rfl
theorem GQ{α β:Type}{q:H9×Int}{f:α→Nat→PR β}:O2 (.error q) f=.error q:=rfl
theorem U9{α β:Type}{x:PR α}{f:α→Nat→PR β}{y:β×Nat}(h:O2 x f=.ok y):∃a k,x=.ok (a,k)∧f a k=.ok y:=by
 cases x with
 | error q=>cases h
 | ok q=>exact⟨q.1,q.2,rfl,h⟩
theorem Mo{kind:Int}{text:ByteArray}{k k':Nat}{u:Unit}(h:De toks e kind text k=.ok (u,k')):k'=k+1:=by
 unfold De at h;split at h
 ·cases h;rfl
 ·cases h
theorem TO{k k':Nat}{v:Int}(h:GG toks e k=.ok (v,k')):k<k':=by
 unfold GG at h;split at h
 ·obtain⟨z2,hz2,-⟩:=Z7 h
  have:=Cd hz2
  omega
 ·obtain⟨z2,hz2,-⟩:=Z7 h
  have:=Cd hz2
  omega
theorem Oi:∀(f:Nat) {acc os:List O8} {k k':Nat},Dr toks e f acc k=.ok (os,k')→k≤k'
 | 0,acc,os,k,k',h=>by unfold Dr at h;cases h;exact Nat.le_refl _
 | f+1,acc,os,k,k',h=>by
  unfold Dr at h;split at h
  ·obtain⟨o,k1,h1,h2⟩:=U9 h
   have:=HJ h1
   have:=Oi f h2
   omega
  ·cases h;exact Nat.le_refl _
theorem Zt{k k':Nat}{v:Int}(h:Ue toks e k=.ok (v,k')):k≤k':=by
 unfold Ue at h;split at h
 ·obtain⟨z2,hz2,-⟩:=Z7 h
  have:=Cd hz2
  omega
 ·split at h
  ·obtain⟨z2,hz2,-⟩:=Z7 h
   have:=Cd hz2
   omega
  ·cases h;exact Nat.le_refl _
theorem Su{kind:Int}{k k':Nat}{g:H3}(h:MI toks e kind k=.ok (g,k')):k<k':=by
 unfold MI at h;obtain⟨_,_,h1,h⟩:=U9 h
 obtain⟨_,_,h2,h⟩:=U9 h
 obtain⟨_,_,h3,h⟩:=U9 h
 obtain⟨_,_,h4,h⟩:=U9 h
 obtain⟨_,_,h5,h⟩:=U9 h
 cases h
 have:=EM h1
 have:=Mo h2
 have:=HJ h3
 have:=Oi _ h4
 have:=Mo h5
 omega
theorem Xi{k k':Nat}{g:H3}(h:AI toks e k=.ok (g,k')):k<k':=by
 unfold AI at h;split at h
 ·have:=Su h;omega
 ·split at h
  ·exact Su h
  ·obtain⟨l,k1,h1,h⟩:=U9 h
   have:=HJ h1
   split at h
   ·unfold Uk at h;obtain⟨_,_,h1,h⟩:=U9 h
    obtain⟨_,_,h2,h⟩:=U9 h
    obtain⟨_,_,h3,h⟩:=U9 h
    cases h
    have:=TO h1
    have:=Mo h2
    have:=TO h3
    omega
   ·unfold UQ at h;split at h
    ·cases h
    ·obtain⟨_,_,h2,h⟩:=U9 h
     obtain⟨_,_,h3,h⟩:=U9 h
     cases h
     have:=HJ h2
     have:=Zt h3
     omega
theorem PV{k k':Nat}{s:ByteArray}(h:y7 toks e k=.ok (s,k')):k'≤toks.length:=by
 have h1:=EM h
 unfold y7 at h;split at h
 ·rename_i hk
  have:=DG (toks:=toks) (at':=k) (by omega)
  omega
 ·cases h
theorem eI(hW:Im toks)(hat:at'≤n)(hN:toks.length≤1000000)(ht:D7 Γ (.slice a n c) 5 (toks.map enc))(hw:Wd Γ (D3 bp a n c at' e.Line e.Col::S) w) :
  Calls Tryz.prog 32 #[.pointer (some ⟨bp,0,none⟩)] w (bM Γ S bp a n c e (EK toks e at')):=by
 have hn:n=toks.length:=by obtain⟨_,_,_,h1,h2,h3⟩:=ht.shape;cases h1;simpa using h2
 refine I4 Tryz.func32 rfl rfl ?_
 refine A6 ?_;refine B9 ?_;intro b2 w hw;refine A6 ?_;refine B9 ?_;intro b3 w hw;have hw:Wd Γ (D3 bp a n c at' e.Line e.Col::.blk b3 (.cells #[.slice none 0 0,.slice none 0 0] 25)::.blk b2 (.cells #[.slice none 0 0,.slice none 0 0] 25)::S) w:=hw.ps [2]
 unfold EK;refine A6 ?_;refine K1 (vs:=[.pointer (some ⟨bp,0,none⟩),.int .i64 1,.string NC]) ?_
 refine(Fi 1 NC (by decide) hat hN ht hw).mono ?_
 clear hw;rintro r w hr
 cases hE:De toks e 1 NC at' with
 | error q=>
  obtain⟨p,er⟩:=q;rw[hE]at hr;obtain⟨rfl,k,hw⟩:=hr;exact⟨Γ,k,C8.le.refl _,rfl,(hw.dropAt 1).dropAt 1⟩
 | ok q=>
 obtain⟨_,k1⟩:=q;rw[hE]at hr;obtain⟨rfl,hk1,hw⟩:=hr;show L _ _ _ _ _ _ _
 rw[I9];clear hE hat;refine p9 ?_
 refine BK (fun ρ w=>∃(sel:List ByteArray) (k:Nat) (sa:Option Addr) (sn sc:Nat),Xq toks e k1=.ok (sel,k)∧k≤n∧Has ρ [(0,.pointer (some ⟨bp,0,none⟩)),(2,.pointer (some ⟨b2,0,none⟩)),(3,.pointer (some ⟨b3,0,none⟩))]∧Wd Γ (D3 bp a n c k e.Line e.Col::.blk b3 (.cells #[.slice sa sn sc,.slice none 0 0] 25)::.blk b2 (.cells #[.slice none 0 0,.slice none 0 0] 25)::.own (.slice sa sn sc) 9 1 (B7 sel)::S) w) ?_ ?_
 ·refine A6 ?_;refine C9 (vs:=[.pointer (some ⟨bp,0,none⟩),.int .i64 0,.int .i64 1,.string O1]) ?_
  refine(dp (j:=0) (by decide) 1 O1 hk1 hN ht hw).mono ?_
  clear hw;rintro r w ⟨rfl,hw⟩
  rw[Nat.add_zero];refine⟨_,rfl,?_⟩;unfold Xq;generalize Q4 toks k1 1 O1=bi at *
  refine A6 ?_;cases bi with
  | true=>
   refine A0 rfl (fun h=>by cases h) (fun _=>?_)
   refine A6 ?_;have hw:=Wd.addNil (a:=none) (E:=9) (sz:=1) hw
   exact⟨[],k1,none,0,0,by rw[if_pos rfl],hk1,⟨rfl,rfl,rfl,trivial⟩,hw.ps [3,3,3]⟩
  | false=>
   refine A0 rfl (fun _=>?_) (fun h=>by cases h)
   rw[if_neg (by decide)]
   have hw:=Wd.addNil (a:=none) (E:=9) (sz:=1) hw
   have hw:Wd Γ (.own (.slice none 0 0) 9 1 (B7 [])::D3 bp a n c k1 e.Line e.Col::.blk b3 (.cells #[.slice none 0 0,.slice none 0 0] 25)::.blk b2 (.cells #[.slice none 0 0,.slice none 0 0] 25)::S) w:=hw
   refine A6 ?_;have hk9:k1≤n:=hk1
   cases hO:y7 toks e k1 with
   | error q=>
    obtain⟨p,er⟩:=q;rw[GQ,GQ];refine Ed (fun ch w=>ch=[DO p er]∧∃k,Wd Γ (D3 bp a n c k e.Line e.Col::S) w) [.blk b2 (.cells #[.slice none 0 0,.slice none 0 0] 25)] [.blk b3 (.cells #[.slice none 0 0,.slice none 0 0] 25)] (.own (.slice none 0 0) 9 1 (B7 [])::D3 bp a n c k1 e.Line e.Col::S) [] [12,13,14] [] [[],[],[],[1],[1],[1],[],[0,1]] [[],[0],[],[1],[1],[1],[],[0,1]] (by rw[List.append_nil];exact hw.ps [2,3]) (fun ch ρ w ⟨h1,k,h2⟩=>by subst h1;exact⟨Γ,k,C8.le.refl _,rfl,h2⟩) ?_
    refine eY ?_
    refine eY ?_
    refine eY ?_
    refine LN (c:=1) (T:=Unit) (T':=Empty) (vs:=[.pointer (some ⟨bp,0,none⟩)]) (fun t=>t.elim) (fun t=>t.elim) (φ:=fun _ _=>True) (R:=fun _=>.own (.slice none 0 0) 9 1 (B7 [])::D3 bp a n c k1 e.Line e.Col::S) (fun _ Y w hw=>(LA hk9 hN ht (hw.ps [1]:Wd Γ (D3 bp a n c k1 e.Line e.Col::(.own (.slice none 0 0) 9 1 (B7 [])::(S++Y))) w)).mono fun r w h=>?_) ?_
    ·rw[hO]at h;obtain⟨rfl,k,hw⟩:=h;have hw:Wd Γ (D3 bp a n c k e.Line e.Col::(.own (.slice none 0 0) 9 1 (B7 [])::(S++Y))) w:=hw
     exact⟨rfl,k,Wd.left (S:=D3 bp a n c k e.Line e.Col::S) (hw.dropAt 1)⟩
    refine NW (c:=1) ?_
    refine NW (c:=1) ?_
    refine eY ?_
    refine NW (c:=1) ?_
    exact HN (c:=1)
   | ok q=>
   obtain⟨s,k9⟩:=q;rw[I9];refine Gw [.blk b2 (.cells #[.slice none 0 0,.slice none 0 0] 25)] [.blk b3 (.cells #[.slice none 0 0,.slice none 0 0] 25)] (.own (.slice none 0 0) 9 1 (B7 [])::D3 bp a n c k1 e.Line e.Col::S) [] [12,13,14] [] [[],[],[],[1],[1],[1],[],[0,1]] [[],[0],[],[1],[1],[1],[],[0,1]] (by rw[List.append_nil];exact hw.ps [2,3]) ?_
   repeat(first|refine mY ?_|refine mP ?_|refine T9 ?_|refine W3 ?_|refine V1 ?_)
   refine HB (c:=1) (T:=Unit) (T':=Unit) (vs:=[.pointer (some ⟨bp,0,none⟩)]) (fun _=>.string s) (fun _=>D3 bp a n c k9 e.Line e.Col::.own (.slice none 0 0) 9 1 (B7 [])::S) (R:=fun _=>.own (.slice none 0 0) 9 1 (B7 [])::D3 bp a n c k1 e.Line e.Col::S) (fun _ Y w hw=>(LA hk9 hN ht (hw.ps [1]:Wd Γ (D3 bp a n c k1 e.Line e.Col::(.own (.slice none 0 0) 9 1 (B7 [])::(S++Y))) w)).mono fun r w h=>by rw[hO]at h;exact⟨(),h.1,h.2.2⟩) ?_
   refine EW (T:=Unit) (fun _=>[[.string s]]) ?_ ?_
   rotate_left
   ·intro t g h;have h2:g 12=.string s:=h
    show r8 _ _ [(0,g 12)]=_
    rw[h2];rfl
   refine LJ (T:=Unit×Addr) (j:=2) (j2:=0) (fun t=>some t.2) (fun _=>[[.string s]]) ?_ ?_
   rotate_left
   ·intro t g h;exact h.2
   refine P3 ?_;refine HX (T:=(Unit×Addr)×Value) (j:=2) (val:=fun t=>t.2) ?_ ?_
   rotate_left
   ·intro t g h;exact h.2
   refine Ll fun t w g h hw=>?_
   obtain⟨⟨⟨⟩,aB⟩,vv⟩:=t;have hw:Wd Γ (.blk b3 (.cells #[vv,.slice none 0 0] 25)::.own (.slice (some aB) 1 1) 9 1 [[.string s]]::D3 bp a n c k9 e.Line e.Col::.own vv 9 1 (B7 []++[[.string s]])::(S++[.blk b2 (.cells #[.slice none 0 0,.slice none 0 0] 25)])) w:=hw
   obtain⟨A2,N2,C2,hvv,hN2,hNC2,hC2⟩:=hw.own_shape (i:=3) rfl
   rw[hvv]at hw;rw[show B7 []++[[.string s]]=B7 ([]++[s]) from by unfold B7;rw[List.map_append];rfl]at hw hN2
   have hw:Wd Γ (.own (.slice A2 N2 C2) 9 1 (B7 ([]++[s]))::D3 bp a n c k9 e.Line e.Col::.blk b3 (.cells #[.slice A2 N2 C2,.slice none 0 0] 25)::.blk b2 (.cells #[.slice none 0 0,.slice none 0 0] 25)::S) w:=(hw.dropAt 1).perm T1
   have hk9':k9≤n:=by rw[hn];exact PV hO
   obtain⟨tot,htot⟩:∃t,t=EC toks e (toks.length+1) [s] k9:=⟨_,rfl⟩
   rw[←htot];have hw:Wd Γ (.own (.slice A2 N2 C2) 9 1 (B7 [s])::D3 bp a n c k9 e.Line e.Col::.blk b3 (.cells #[.slice A2 N2 C2,.slice none 0 0] 25)::.blk b2 (.cells #[.slice none 0 0,.slice none 0 0] 25)::S) w:=hw
   refine A6 ?_;refine B3 (fun μ ρ w=>∃(f:Nat) (acc:List ByteArray) (k:Nat) (A:Option Addr) (N C:Nat),EC toks e f acc k=tot∧μ=n-k∧k≤n∧n<f+k∧acc.length≤1+k∧Has ρ [(0,.pointer (some ⟨bp,0,none⟩)),(2,.pointer (some ⟨b2,0,none⟩)),(3,.pointer (some ⟨b3,0,none⟩))]∧Wd Γ (.own (.slice A N C) 9 1 (B7 acc)::D3 bp a n c k e.Line e.Col::.blk b3 (.cells #[.slice A N C,.slice none 0 0] 25)::.blk b2 (.cells #[.slice none 0 0,.slice none 0 0] 25)::S) w) (n-k9) ⟨toks.length+1,[s],k9,A2,N2,C2,htot.symm,rfl,hk9',by omega,by simp,⟨rfl,rfl,rfl,trivial⟩,hw⟩ ?_
   clear hw hO hk9;rintro μ ρ w ⟨f,acc,k,A,N,C,hf,hμ,hkn,hfk,hal,hρ,hw⟩
   rw[hρ.eq];clear hρ;have hNl:N=acc.length:=by
    obtain⟨_,_,_,hE,h2,-,-⟩:=hw.own_shape (i:=0) rfl
    cases hE
    simpa[B7] using h2
   obtain⟨f',rfl⟩:∃f',f=f'+1:=⟨f-1,by omega⟩
   unfold EC at hf;refine A6 ?_;refine C9 (vs:=[.pointer (some ⟨bp,0,none⟩),.int .i64 4,.string V6]) ?_
   refine(Z4 (S:=.own (.slice A N C) 9 1 (B7 acc)::.blk b3 (.cells #[.slice A N C,.slice none 0 0] 25)::.blk b2 (.cells #[.slice none 0 0,.slice none 0 0] 25)::S) 4 V6 hkn hN ht (hw.ps [1])).mono ?_
   clear hw;rintro r w ⟨rfl,hw⟩
   refine⟨_,rfl,?_⟩;cases hi:Q4 toks k 4 V6 with
   | true=>
    have hlt:=Al (by decide) hi
    rw[hi,if_pos rfl]at hw hf
    have hk9:k+1≤n:=by omega
    have hw:Wd Γ (.own (.slice A N C) 9 1 (B7 acc)::D3 bp a n c (k+1) e.Line e.Col::.blk b3 (.cells #[.slice A N C,.slice none 0 0] 25)::.blk b2 (.cells #[.slice none 0 0,.slice none 0 0] 25)::S) w:=hw.ps [1]
    refine A6 ?_;refine A0 rfl (fun _=>?_) (fun h=>by cases h)
    refine A6 ?_;cases hO:y7 toks e (k+1) with
    | error q=>
     obtain⟨p,er⟩:=q;have htE:tot=.error (p,er):=by rw[←hf,hO];rfl
     rw[htE,GQ];refine Ed (fun ch w=>ch=[DO p er]∧∃k,Wd Γ (D3 bp a n c k e.Line e.Col::S) w) [.blk b2 (.cells #[.slice none 0 0,.slice none 0 0] 25)] [.blk b3 (.cells #[.slice A N C,.slice none 0 0] 25)] (.own (.slice A N C) 9 1 (B7 acc)::D3 bp a n c (k+1) e.Line e.Col::S) [] [21,22,23] [] [[],[],[],[1],[1],[1],[],[0,1]] [[],[0],[],[1],[1],[1],[],[0,1]] (by rw[List.append_nil];exact hw.ps [2,3]) (fun ch ρ w ⟨h1,k,h2⟩=>by subst h1;exact⟨Γ,k,C8.le.refl _,rfl,h2⟩) ?_
     refine eY ?_
     refine eY ?_
     refine eY ?_
     refine LN (c:=1) (T:=Unit) (T':=Empty) (vs:=[.pointer (some ⟨bp,0,none⟩)]) (fun t=>t.elim) (fun t=>t.elim) (φ:=fun _ _=>True) (R:=fun _=>.own (.slice A N C) 9 1 (B7 acc)::D3 bp a n c (k+1) e.Line e.Col::S) (fun _ Y w hw=>(LA hk9 hN ht (hw.ps [1]:Wd Γ (D3 bp a n c (k+1) e.Line e.Col::(.own (.slice A N C) 9 1 (B7 acc)::(S++Y))) w)).mono fun r w h=>?_) ?_
     ·rw[hO]at h;obtain⟨rfl,k,hw⟩:=h;have hw:Wd Γ (D3 bp a n c k e.Line e.Col::(.own (.slice A N C) 9 1 (B7 acc)::(S++Y))) w:=hw
      exact⟨rfl,k,Wd.left (S:=D3 bp a n c k e.Line e.Col::S) (hw.dropAt 1)⟩
     refine NW (c:=1) ?_
     refine NW (c:=1) ?_
     refine eY ?_
     refine NW (c:=1) ?_
     exact HN (c:=1)
    | ok q=>
    obtain⟨s,k9⟩:=q;have hk9':k9≤n:=by rw[hn];exact PV hO
    have hk9l:=EM hO
    refine Gw [.blk b2 (.cells #[.slice none 0 0,.slice none 0 0] 25)] [.blk b3 (.cells #[.slice A N C,.slice none 0 0] 25)] (.own (.slice A N C) 9 1 (B7 acc)::D3 bp a n c (k+1) e.Line e.Col::S) [] [21,22,23] [] [[],[],[],[1],[1],[1],[],[0,1]] [[],[0],[],[1],[1],[1],[],[0,1]] (by rw[List.append_nil];exact hw.ps [2,3]) ?_
    repeat(first|refine mY ?_|refine mP ?_|refine T9 ?_|refine W3 ?_|refine V1 ?_)
    refine HB (c:=1) (T:=Unit) (T':=Unit) (vs:=[.pointer (some ⟨bp,0,none⟩)]) (fun _=>.string s) (fun _=>D3 bp a n c k9 e.Line e.Col::.own (.slice A N C) 9 1 (B7 acc)::S) (R:=fun _=>.own (.slice A N C) 9 1 (B7 acc)::D3 bp a n c (k+1) e.Line e.Col::S) (fun _ Y w hw=>(LA hk9 hN ht (hw.ps [1]:Wd Γ (D3 bp a n c (k+1) e.Line e.Col::(.own (.slice A N C) 9 1 (B7 acc)::(S++Y))) w)).mono fun r w h=>by rw[hO]at h;exact⟨(),h.1,h.2.2⟩) ?_
    refine EW (T:=Unit) (fun _=>[[.string s]]) ?_ ?_
    rotate_left
    ·intro t g h;have h2:g 21=.string s:=h
     show r8 _ _ [(0,g 21)]=_
     rw[h2];rfl
    refine LJ (T:=Unit×Addr) (j:=2) (j2:=0) (fun t=>some t.2) (fun _=>[[.string s]]) ?_ ?_
    rotate_left
    ·intro t g h;exact h.2
    refine P3 ?_;refine HX (T:=(Unit×Addr)×Value) (j:=2) (val:=fun t=>t.2) ?_ ?_
    rotate_left
    ·intro t g h;exact h.2
    refine Ll fun t w g h hw=>?_
    obtain⟨⟨⟨⟩,aB⟩,vv⟩:=t;have hw:Wd Γ (.blk b3 (.cells #[vv,.slice none 0 0] 25)::.own (.slice (some aB) 1 1) 9 1 [[.string s]]::D3 bp a n c k9 e.Line e.Col::.own vv 9 1 (B7 acc++[[.string s]])::(S++[.blk b2 (.cells #[.slice none 0 0,.slice none 0 0] 25)])) w:=hw
    obtain⟨A2,N2,C2,hvv,hN2,hNC2,hC2⟩:=hw.own_shape (i:=3) rfl
    rw[hvv]at hw;rw[show B7 acc++[[.string s]]=B7 (acc++[s]) from by unfold B7;rw[List.map_append];rfl]at hw hN2
    have hw:Wd Γ (.own (.slice A2 N2 C2) 9 1 (B7 (acc++[s]))::D3 bp a n c k9 e.Line e.Col::.blk b3 (.cells #[.slice A2 N2 C2,.slice none 0 0] 25)::.blk b2 (.cells #[.slice none 0 0,.slice none 0 0] 25)::S) w:=(hw.dropAt 1).perm T1
    refine A6 ?_;exact⟨n-k9,by omega,f',acc++[s],k9,A2,N2,C2,by rw[←hf,hO];rfl,rfl,hk9',by omega,by rw[List.length_append];simp;omega,⟨rfl,rfl,rfl,trivial⟩,hw⟩
   | false=>
    rw[hi,if_neg (by decide)]at hw hf
    refine A6 ?_;refine A0 rfl (fun h=>by cases h) (fun _=>?_)
    refine A6 ?_;exact⟨acc,k,A,N,C,hf.symm,hkn,⟨rfl,rfl,rfl,trivial⟩,hw.ps [3,3,2]⟩
 clear hw hk1;rintro ρ w ⟨sel,k2,sa,sn,sc,hsel,hk2,hρ,hw⟩
 rw[hρ.eq];clear hρ;rw[hsel,I9];obtain⟨_,_,_,hE,hsn,hsc,hscc⟩:=hw.own_shape (i:=3) rfl
 cases hE
 clear hsel;unfold Yj;refine A6 ?_;refine K1 (vs:=[.pointer (some ⟨bp,0,none⟩),.int .i64 1,.string O1]) ?_
 refine(Fi 1 O1 (by decide) hk2 hN ht hw).mono ?_
 clear hw;rintro r w hr
 cases hE:De toks e 1 O1 k2 with
 | error q=>
  obtain⟨p,er⟩:=q;rw[hE]at hr;obtain⟨rfl,k,hw⟩:=hr;exact⟨Γ,k,C8.le.refl _,rfl,((hw.dropAt 1).dropAt 1).dropAt 1⟩
 | ok q=>
 obtain⟨_,k3⟩:=q;rw[hE]at hr;obtain⟨rfl,hk9,hw⟩:=hr;show L _ _ _ _ _ _ _
 rw[I9];clear hE hk2;have hw:=Wd.addNil (a:=none) (E:=77) (sz:=15) hw
 obtain⟨gs,hgs⟩:∃gs:List N0,gs=[]:=⟨_,rfl⟩
 obtain⟨ga,gn,gc,hga,hgn,hgc⟩:∃(ga:Option Addr) (gn gc:Nat),ga=none∧gn=0∧gc=0:=⟨_,_,_,rfl,rfl,rfl⟩
 have hw:Wd Γ (.own (.slice ga gn gc) 77 15 (gs.map cG)::D3 bp a n c k3 e.Line e.Col::.blk b3 (.cells #[.slice sa sn sc,.slice ga gn gc] 25)::.blk b2 (.cells #[.slice none 0 0,.slice none 0 0] 25)::.own (.slice sa sn sc) 9 1 (B7 sel)::S) w:=by
  rw[hga,hgn,hgc,hgs];exact hw
 have hgl:gn=gs.length:=by rw[hgs,hgn];rfl
 have hok:∀x∈gs,Vq Γ x:=fun x hx=>by rw[hgs]at hx;cases hx
 obtain⟨Γ1,hΓ1⟩:∃Γ1,Γ1=Γ:=⟨_,rfl⟩
 rw[←hΓ1]at hw hok
 have ht1:D7 Γ1 (.slice a n c) 5 (toks.map enc):=by rw[hΓ1];exact ht
 have hle1:Γ.le Γ1:=by rw[hΓ1];exact C8.le.refl _
 have hgl0:gn=0:=hgn
 clear hga hgn hgc hΓ1;refine p9 ?_
 refine A6 ?_;cases hO:AI toks e k3 with
 | error q=>
  obtain⟨p,er⟩:=q;rw[GQ];refine Ed (fun ch w=>ch=[DO p er]∧∃k,Wd Γ1 (D3 bp a n c k e.Line e.Col::S) w) [.blk b2 (.cells #[.slice none 0 0,.slice none 0 0] 25)] [.blk b3 (.cells #[.slice sa sn sc,.slice ga gn gc] 25)] (.own (.slice ga gn gc) 77 15 (gs.map cG)::D3 bp a n c k3 e.Line e.Col::.own (.slice sa sn sc) 9 1 (B7 sel)::S) [] [30,31,32] [] [[],[],[],[1],[1],[1],[],[0,1]] [[],[0],[],[1],[1],[1],[],[0,1]] (by rw[List.append_nil];exact hw.ps [2,3]) (fun ch ρ w ⟨h1,k,h2⟩=>by subst h1;exact⟨Γ1,k,hle1,rfl,h2⟩) ?_
  refine eY ?_
  refine eY ?_
  refine eY ?_
  refine LN (c:=1) (T:=Unit) (T':=Empty) (vs:=[.pointer (some ⟨bp,0,none⟩)]) (fun t=>t.elim) (fun t=>t.elim) (φ:=fun _ _=>True) (R:=fun _=>.own (.slice ga gn gc) 77 15 (gs.map cG)::D3 bp a n c k3 e.Line e.Col::.own (.slice sa sn sc) 9 1 (B7 sel)::S) (fun _ Y w hw=>(UH hW hk9 hN ht1 (hw.ps [1]:Wd Γ1 (D3 bp a n c k3 e.Line e.Col::(.own (.slice ga gn gc) 77 15 (gs.map cG)::.own (.slice sa sn sc) 9 1 (B7 sel)::(S++Y))) w)).mono fun r w h=>?_) ?_
  ·rw[hO]at h;obtain⟨rfl,k,hw⟩:=h;have hw:Wd Γ1 (D3 bp a n c k e.Line e.Col::(.own (.slice ga gn gc) 77 15 (gs.map cG)::.own (.slice sa sn sc) 9 1 (B7 sel)::(S++Y))) w:=hw
   exact⟨rfl,k,Wd.left (S:=D3 bp a n c k e.Line e.Col::S) ((hw.dropAt 1).dropAt 1)⟩
  refine NW (c:=1) ?_
  refine NW (c:=1) ?_
  refine eY ?_
  refine NW (c:=1) ?_
  exact HN (c:=1)
 | ok q=>
 obtain⟨g,k9⟩:=q;rw[I9];refine Gw [.blk b2 (.cells #[.slice none 0 0,.slice none 0 0] 25)] [.blk b3 (.cells #[.slice sa sn sc,.slice ga gn gc] 25)] (.own (.slice ga gn gc) 77 15 (gs.map cG)::D3 bp a n c k3 e.Line e.Col::.own (.slice sa sn sc) 9 1 (B7 sel)::S) [] [30,31,32] [] [[],[],[],[1],[1],[1],[],[0,1]] [[],[0],[],[1],[1],[1],[],[0,1]] (by rw[List.append_nil];exact hw.ps [2,3]) ?_
 repeat(first|refine mY ?_|refine mP ?_|refine T9 ?_|refine W3 ?_|refine V1 ?_)
 refine HB (c:=1) (T:=Unit) (T':={v:Za // k9≤n}) (vs:=[.pointer (some ⟨bp,0,none⟩)]) (fun v=>.agg (cG ⟨g,v.1.1,v.1.2.1,v.1.2.2⟩).toArray) (fun v=>.own (gY v.1) 75 4 (g.Args.map enc)::D3 bp a n c k9 e.Line e.Col::.own (.slice ga gn gc) 77 15 (gs.map cG)::.own (.slice sa sn sc) 9 1 (B7 sel)::S) (R:=fun _=>.own (.slice ga gn gc) 77 15 (gs.map cG)::D3 bp a n c k3 e.Line e.Col::.own (.slice sa sn sc) 9 1 (B7 sel)::S) (fun _ Y w hw=>(UH hW hk9 hN ht1 (hw.ps [1]:Wd Γ1 (D3 bp a n c k3 e.Line e.Col::(.own (.slice ga gn gc) 77 15 (gs.map cG)::.own (.slice sa sn sc) 9 1 (B7 sel)::(S++Y))) w)).mono fun r w h=>by rw[hO]at h;obtain⟨v,h1,h2,h3⟩:=h;exact⟨⟨v,h2⟩,h1,h3⟩) ?_
 refine EW (T:={v:Za // k9≤n}) (fun v=>[cG ⟨g,v.1.1,v.1.2.1,v.1.2.2⟩]) ?_ ?_
 rotate_left
 ·intro t gg h;have h2:gg 30=.agg (cG ⟨g,t.1.1,t.1.2.1,t.1.2.2⟩).toArray:=h
  show r8 _ _ [(0,gg 30)]=_
  rw[h2];rfl
 refine LJ (T:={v:Za // k9≤n} × Addr) (j:=3) (j2:=0) (fun t=>some t.2) (fun t=>[cG ⟨g,t.1.1.1,t.1.1.2.1,t.1.1.2.2⟩]) ?_ ?_
 rotate_left
 ·intro t g h;exact h.2
 refine P3 ?_;refine HX (T:=({v:Za // k9≤n} × Addr)×Value) (j:=3) (val:=fun t=>t.2) ?_ ?_
 rotate_left
 ·intro t g h;exact h.2
 refine Ll fun t w g' h hw=>?_
 obtain⟨⟨⟨⟨Ax,Nx,Cx⟩,hk9'⟩,aB⟩,vv⟩:=t;have hw:Wd Γ1 (.blk b3 (.cells #[.slice sa sn sc,vv] 25)::.own (.slice (some aB) 1 1) 77 15 [cG ⟨g,Ax,Nx,Cx⟩]::.own (.slice Ax Nx Cx) 75 4 (g.Args.map enc)::D3 bp a n c k9 e.Line e.Col::.own vv 77 15 (gs.map cG++[cG ⟨g,Ax,Nx,Cx⟩])::.own (.slice sa sn sc) 9 1 (B7 sel)::(S++[.blk b2 (.cells #[.slice none 0 0,.slice none 0 0] 25)])) w:=hw
 obtain⟨A2,N2,C2,hvv,hN2,hNC2,hC2⟩:=hw.own_shape (i:=4) rfl
 rw[hvv]at hw;obtain⟨Γ2,hle2,hfo,hw⟩:=Wd.freeze (hw.ps [2]:Wd Γ1 (.own (.slice Ax Nx Cx) 75 4 (g.Args.map enc)::.blk b3 (.cells #[.slice sa sn sc,.slice A2 N2 C2] 25)::.own (.slice (some aB) 1 1) 77 15 [cG ⟨g,Ax,Nx,Cx⟩]::D3 bp a n c k9 e.Line e.Col::.own (.slice A2 N2 C2) 77 15 (gs.map cG++[cG ⟨g,Ax,Nx,Cx⟩])::.own (.slice sa sn sc) 9 1 (B7 sel)::(S++[.blk b2 (.cells #[.slice none 0 0,.slice none 0 0] 25)])) w)
 have hw:Wd Γ2 (.own (.slice A2 N2 C2) 77 15 ((gs++[(⟨g,Ax,Nx,Cx⟩:N0)]).map cG)::D3 bp a n c k9 e.Line e.Col::.blk b3 (.cells #[.slice sa sn sc,.slice A2 N2 C2] 25)::.blk b2 (.cells #[.slice none 0 0,.slice none 0 0] 25)::.own (.slice sa sn sc) 9 1 (B7 sel)::S) w:=by
  rw[List.map_append];exact(hw.dropAt 1).perm T1
 have hok2:∀x∈gs++[(⟨g,Ax,Nx,Cx⟩:N0)],Vq Γ2 x:=fun x hx=>by
  rcases List.mem_append.1 hx with hx|hx
  ·exact(hok x hx).mono hle2
  ·rw[List.mem_singleton.1 hx];exact hfo
 obtain⟨tot,htot⟩:∃t,t=ED toks e (toks.length+1) [g] k9:=⟨_,rfl⟩
 rw[←htot];have hgs2:(gs++[(⟨g,Ax,Nx,Cx⟩:N0)]).map (·.g)=[g]:=by rw[hgs];rfl
 refine A6 ?_;refine B3 (fun μ ρ w=>∃(f:Nat) (acc:List H3) (k:Nat) (Γ1:C8) (ga:Option Addr) (gn gc:Nat) (gs:List N0),ED toks e f acc k=tot∧μ=n-k∧k≤n∧n<f+k∧acc.length≤1+k∧Γ.le Γ1∧gs.map (·.g)=acc∧(∀x∈gs,Vq Γ1 x)∧Has ρ [(0,.pointer (some ⟨bp,0,none⟩)),(2,.pointer (some ⟨b2,0,none⟩)),(3,.pointer (some ⟨b3,0,none⟩))]∧Wd Γ1 (.own (.slice ga gn gc) 77 15 (gs.map cG)::D3 bp a n c k e.Line e.Col::.blk b3 (.cells #[.slice sa sn sc,.slice ga gn gc] 25)::.blk b2 (.cells #[.slice none 0 0,.slice none 0 0] 25)::.own (.slice sa sn sc) 9 1 (B7 sel)::S) w) (n-k9) ⟨toks.length+1,[g],k9,Γ2,A2,N2,C2,_,htot.symm,rfl,hk9',by omega,by simp,hle1.trans hle2,hgs2,hok2,⟨rfl,rfl,rfl,trivial⟩,hw⟩ ?_
 clear hw hgs hok hgl hgl0 ht1 hle1 hle2 hfo hgs2 hok2 hN2 hNC2 hC2 hk9 hO;rintro μ ρ w ⟨f,acc,k,Γ1,ga,gn,gc,gs,hf,hμ,hkn,hfk,hal,hle1,hgs,hok,hρ,hw⟩
 rw[hρ.eq];clear hρ;have ht1:=ht.mono hle1
 have hgl:gs.length=acc.length:=by rw[←hgs,List.length_map]
 have hgb:gn=gs.length:=by obtain⟨_,_,_,h1,h2,_⟩:=hw.own_shape (i:=0) rfl;cases h1;simpa using h2
 obtain⟨f',rfl⟩:∃f',f=f'+1:=⟨f-1,by omega⟩
 unfold ED at hf;refine A6 ?_;refine C9 (vs:=[.pointer (some ⟨bp,0,none⟩),.int .i64 4,.string V6]) ?_
 refine(Z4 4 V6 hkn hN ht1 (hw.ps [1])).mono ?_
 clear hw;rintro r w ⟨rfl,hw⟩
 refine⟨_,rfl,?_⟩;cases hi:Q4 toks k 4 V6 with
 | true=>
  have hlt:=Al (by decide) hi
  rw[hi,if_pos rfl]at hw hf
  have hk9:k+1≤n:=by omega
  have hw:Wd Γ1 (.own (.slice ga gn gc) 77 15 (gs.map cG)::D3 bp a n c (k+1) e.Line e.Col::.blk b3 (.cells #[.slice sa sn sc,.slice ga gn gc] 25)::.blk b2 (.cells #[.slice none 0 0,.slice none 0 0] 25)::.own (.slice sa sn sc) 9 1 (B7 sel)::S) w:=hw.ps [1]
  refine A6 ?_;refine A0 rfl (fun _=>?_) (fun h=>by cases h)
  refine A6 ?_;cases hO:AI toks e (k+1) with
  | error q=>
   obtain⟨p,er⟩:=q;have htE:tot=.error (p,er):=by rw[←hf,hO];rfl
   rw[htE,GQ];refine Ed (fun ch w=>ch=[DO p er]∧∃k,Wd Γ1 (D3 bp a n c k e.Line e.Col::S) w) [.blk b2 (.cells #[.slice none 0 0,.slice none 0 0] 25)] [.blk b3 (.cells #[.slice sa sn sc,.slice ga gn gc] 25)] (.own (.slice ga gn gc) 77 15 (gs.map cG)::D3 bp a n c (k+1) e.Line e.Col::.own (.slice sa sn sc) 9 1 (B7 sel)::S) [] [39,40,41] [] [[],[],[],[1],[1],[1],[],[0,1]] [[],[0],[],[1],[1],[1],[],[0,1]] (by rw[List.append_nil];exact hw.ps [2,3]) (fun ch ρ w ⟨h1,k,h2⟩=>by subst h1;exact⟨Γ1,k,hle1,rfl,h2⟩) ?_
   refine eY ?_
   refine eY ?_
   refine eY ?_
   refine LN (c:=1) (T:=Unit) (T':=Empty) (vs:=[.pointer (some ⟨bp,0,none⟩)]) (fun t=>t.elim) (fun t=>t.elim) (φ:=fun _ _=>True) (R:=fun _=>.own (.slice ga gn gc) 77 15 (gs.map cG)::D3 bp a n c (k+1) e.Line e.Col::.own (.slice sa sn sc) 9 1 (B7 sel)::S) (fun _ Y w hw=>(UH hW hk9 hN ht1 (hw.ps [1]:Wd Γ1 (D3 bp a n c (k+1) e.Line e.Col::(.own (.slice ga gn gc) 77 15 (gs.map cG)::.own (.slice sa sn sc) 9 1 (B7 sel)::(S++Y))) w)).mono fun r w h=>?_) ?_
   ·rw[hO]at h;obtain⟨rfl,k,hw⟩:=h;have hw:Wd Γ1 (D3 bp a n c k e.Line e.Col::(.own (.slice ga gn gc) 77 15 (gs.map cG)::.own (.slice sa sn sc) 9 1 (B7 sel)::(S++Y))) w:=hw
    exact⟨rfl,k,Wd.left (S:=D3 bp a n c k e.Line e.Col::S) ((hw.dropAt 1).dropAt 1)⟩
   refine NW (c:=1) ?_
   refine NW (c:=1) ?_
   refine eY ?_
   refine NW (c:=1) ?_
   exact HN (c:=1)
  | ok q=>
  obtain⟨g,k9⟩:=q;have hk9l:=Xi hO
  refine Gw [.blk b2 (.cells #[.slice none 0 0,.slice none 0 0] 25)] [.blk b3 (.cells #[.slice sa sn sc,.slice ga gn gc] 25)] (.own (.slice ga gn gc) 77 15 (gs.map cG)::D3 bp a n c (k+1) e.Line e.Col::.own (.slice sa sn sc) 9 1 (B7 sel)::S) [] [39,40,41] [] [[],[],[],[1],[1],[1],[],[0,1]] [[],[0],[],[1],[1],[1],[],[0,1]] (by rw[List.append_nil];exact hw.ps [2,3]) ?_
  repeat(first|refine mY ?_|refine mP ?_|refine T9 ?_|refine W3 ?_|refine V1 ?_)
  refine HB (c:=1) (T:=Unit) (T':={v:Za // k9≤n}) (vs:=[.pointer (some ⟨bp,0,none⟩)]) (fun v=>.agg (cG ⟨g,v.1.1,v.1.2.1,v.1.2.2⟩).toArray) (fun v=>.own (gY v.1) 75 4 (g.Args.map enc)::D3 bp a n c k9 e.Line e.Col::.own (.slice ga gn gc) 77 15 (gs.map cG)::.own (.slice sa sn sc) 9 1 (B7 sel)::S) (R:=fun _=>.own (.slice ga gn gc) 77 15 (gs.map cG)::D3 bp a n c (k+1) e.Line e.Col::.own (.slice sa sn sc) 9 1 (B7 sel)::S) (fun _ Y w hw=>(UH hW hk9 hN ht1 (hw.ps [1]:Wd Γ1 (D3 bp a n c (k+1) e.Line e.Col::(.own (.slice ga gn gc) 77 15 (gs.map cG)::.own (.slice sa sn sc) 9 1 (B7 sel)::(S++Y))) w)).mono fun r w h=>by rw[hO]at h;obtain⟨v,h1,h2,h3⟩:=h;exact⟨⟨v,h2⟩,h1,h3⟩) ?_
  refine EW (T:={v:Za // k9≤n}) (fun v=>[cG ⟨g,v.1.1,v.1.2.1,v.1.2.2⟩]) ?_ ?_
  rotate_left
  ·intro t gg h;have h2:gg 39=.agg (cG ⟨g,t.1.1,t.1.2.1,t.1.2.2⟩).toArray:=h
   show r8 _ _ [(0,gg 39)]=_
   rw[h2];rfl
  refine LJ (T:={v:Za // k9≤n} × Addr) (j:=3) (j2:=0) (fun t=>some t.2) (fun t=>[cG ⟨g,t.1.1.1,t.1.1.2.1,t.1.1.2.2⟩]) ?_ ?_
  rotate_left
  ·intro t g h;exact h.2
  refine P3 ?_;refine HX (T:=({v:Za // k9≤n} × Addr)×Value) (j:=3) (val:=fun t=>t.2) ?_ ?_
  rotate_left
  ·intro t g h;exact h.2
  refine Ll fun t w g' h hw=>?_
  obtain⟨⟨⟨⟨Ax,Nx,Cx⟩,hk9'⟩,aB⟩,vv⟩:=t;have hw:Wd Γ1 (.blk b3 (.cells #[.slice sa sn sc,vv] 25)::.own (.slice (some aB) 1 1) 77 15 [cG ⟨g,Ax,Nx,Cx⟩]::.own (.slice Ax Nx Cx) 75 4 (g.Args.map enc)::D3 bp a n c k9 e.Line e.Col::.own vv 77 15 (gs.map cG++[cG ⟨g,Ax,Nx,Cx⟩])::.own (.slice sa sn sc) 9 1 (B7 sel)::(S++[.blk b2 (.cells #[.slice none 0 0,.slice none 0 0] 25)])) w:=hw
  obtain⟨A2,N2,C2,hvv,hN2,hNC2,hC2⟩:=hw.own_shape (i:=4) rfl
  rw[hvv]at hw;obtain⟨Γ2,hle2,hfo,hw⟩:=Wd.freeze (hw.ps [2]:Wd Γ1 (.own (.slice Ax Nx Cx) 75 4 (g.Args.map enc)::.blk b3 (.cells #[.slice sa sn sc,.slice A2 N2 C2] 25)::.own (.slice (some aB) 1 1) 77 15 [cG ⟨g,Ax,Nx,Cx⟩]::D3 bp a n c k9 e.Line e.Col::.own (.slice A2 N2 C2) 77 15 (gs.map cG++[cG ⟨g,Ax,Nx,Cx⟩])::.own (.slice sa sn sc) 9 1 (B7 sel)::(S++[.blk b2 (.cells #[.slice none 0 0,.slice none 0 0] 25)])) w)
  have hw:Wd Γ2 (.own (.slice A2 N2 C2) 77 15 ((gs++[(⟨g,Ax,Nx,Cx⟩:N0)]).map cG)::D3 bp a n c k9 e.Line e.Col::.blk b3 (.cells #[.slice sa sn sc,.slice A2 N2 C2] 25)::.blk b2 (.cells #[.slice none 0 0,.slice none 0 0] 25)::.own (.slice sa sn sc) 9 1 (B7 sel)::S) w:=by
   rw[List.map_append];exact(hw.dropAt 1).perm T1
  have hok2:∀x∈gs++[(⟨g,Ax,Nx,Cx⟩:N0)],Vq Γ2 x:=fun x hx=>by
   rcases List.mem_append.1 hx with hx|hx
   ·exact(hok x hx).mono hle2
   ·rw[List.mem_singleton.1 hx];exact hfo
  refine A6 ?_;exact⟨n-k9,by omega,f',acc++[g],k9,Γ2,A2,N2,C2,_,by rw[←hf,hO];rfl,rfl,hk9',by omega,by rw[List.length_append];simp;omega,hle1.trans hle2,by rw[List.map_append,hgs];rfl,hok2,⟨rfl,rfl,rfl,trivial⟩,hw⟩
 | false=>
  rw[hi,if_neg (by decide)]at hw hf
  rw[←hf,I9];unfold D3 at hw;refine A6 ?_;refine A0 rfl (fun h=>by cases h) (fun _=>?_)
  refine A6 ?_;refine G9 (by kernel_rfl) (by kernel_rfl) hw ?_
  refine X3 ?_;intro w hw;refine A0 rfl (fun h=>?_) (fun h=>?_)
  ·have h:k<toks.length:=by simp at h;omega
   rw[if_pos h];have hw:Wd Γ1 (D3 bp a n c k e.Line e.Col::.own (.slice ga gn gc) 77 15 (gs.map cG)::.blk b3 (.cells #[.slice sa sn sc,.slice ga gn gc] 25)::.blk b2 (.cells #[.slice none 0 0,.slice none 0 0] 25)::.own (.slice sa sn sc) 9 1 (B7 sel)::S) w:=hw
   refine A6 ?_;refine K1 ?_
   refine(Dq 50 ht1 hw).mono ?_
   rintro r w ⟨rfl,hw⟩
   exact⟨Γ1,k,hle1,rfl,(((hw.dropAt 1).dropAt 1).dropAt 1).dropAt 1⟩
  ·have h:¬k<toks.length:=by simp at h;omega
   rw[if_neg h];have hw:Wd Γ1 (D3 bp a n c k e.Line e.Col::.own (.slice ga gn gc) 77 15 (gs.map cG)::.blk b3 (.cells #[.slice sa sn sc,.slice ga gn gc] 25)::.blk b2 (.cells #[.slice none 0 0,.slice none 0 0] 25)::.own (.slice sa sn sc) 9 1 (B7 sel)::S) w:=hw
   refine A6 ?_;refine B0 (i:=3) ?_
   intro w hw;have hw:Wd Γ1 (.blk b2 (.cells #[.slice sa sn sc,.slice ga gn gc] 25)::.own (.slice ga gn gc) 77 15 (gs.map cG)::.own (.slice sa sn sc) 9 1 (B7 sel)::D3 bp a n c k e.Line e.Col::.blk b3 (.cells #[.slice sa sn sc,.slice ga gn gc] 25)::S) w:=hw.ps [2,1,4,3,4]
   refine A6 ?_;refine⟨[.agg #[.slice sa sn sc,.slice ga gn gc]],⟨U4 (i:=0) hw rfl rfl rfl,trivial⟩,?_⟩
   obtain⟨Γ2,hle2,hg2,hw⟩:=hw.drop.freeze;obtain⟨Γ3,hle3,hs3,hw⟩:=hw.freeze;exact⟨Γ3,_,_,gs,hle1.trans (hle2.trans hle3),rfl,⟨hs3,hg2.mono hle3,hgs,fun x hx=>(hok x hx).mono (hle2.trans hle3)⟩,hw.ds [0,0]⟩
end
end Go.Proofs.YtlmiakjbogojgaaGreatDoor
end
section
open Go Mk
namespace Go.Proofs.YtlmiakjbogojgaaGreatDoor
set_option maxHeartbeats 16000000
attribute [local irreducible] Calls cI cB I6
section
variable {Γ:C8}{S:List B6}{w:World}
theorem Wp(hw:Wd Γ S w)(args:Array Value)(hn:Nat.ble args.size 22=true) :
  CallsD Tryz.prog 29 args .returning w fun e u' w'=>e=.returned (.tuple #[])∧u'=.returning∧Wd Γ S w':=by
 refine KO Tryz.func29 rfl hn rfl rfl ?_
 refine y0 ?_
 refine W7 ?_
 refine lY (v:=.nilIface) ?_ (hy:=Hb rfl)
 refine lY (v:=.bool false) ?_ (hy:=Zp Tryz.underlying20 rfl)
 refine p9 ?_
 refine A0 rfl (fun h=>by cases h) (fun _=>?_)
 refine Bf ?_
 exact⟨_,rfl,rfl,rfl,hw⟩
end
end Go.Proofs.YtlmiakjbogojgaaGreatDoor
end
section
open Go Mk
namespace Go.Proofs.YtlmiakjbogojgaaGreatDoor
set_option maxHeartbeats 4000000
attribute [local irreducible] Calls
theorem Qf(a b:ByteArray):M8 (a++b)=M8 a++M8 b:=by
 unfold M8;rw[ByteArray.data_append,Array.toList_append]
theorem W9(l:List UInt8):M8 ⟨l.toArray⟩=l:=by unfold M8;simp
abbrev x6:=Int×ByteArray×Int
def ge(t:Tok):x6:=(t.Kind,t.Text,t.Value)
def U6(l:List UInt8):ByteArray:=⟨l.toArray⟩
theorem Mz(s:ByteArray):U6 (M8 s)=s:=BL (W9 _)
theorem Aq(l:List UInt8):(U6 l).size=l.length:=by rw[←P2];unfold U6;rw[W9]
inductive Tz:List UInt8→List x6→Prop
 | nil:Tz [] []
 | sp {c:UInt8} {l:List UInt8} {ks:List x6}:BA c.toNat=true→Tz l ks→Tz (c::l) ks
 | tok {c:UInt8} {p l:List UInt8} {k:Int} {t:ByteArray} {v:Nat} {ks:List x6}:BA c.toNat=false→(c.toNat:Int)≠35→O3 (U6 ((c::p)++l))=⟨k,t,v,(c::p).length,0⟩→Tz l ks→Tz ((c::p)++l) ((k,t,v)::ks)
theorem HP{s:ByteArray}{off:Nat}{c:UInt8}{l:List UInt8}(h:(M8 s).drop off=c::l):B1 s off=c.toNat:=by
 have h1:(M8 s)[off]? = some c:=by
  have:=List.getElem?_drop (xs:=M8 s) (i:=off) (j:=0)
  rw[h]at this;simpa using this.symm
 show (((M8 s).getD off 0).toNat:Int)=_
 rw[List.getD_eq_getElem?_getD,h1];rfl
theorem WF{s:ByteArray}{off:Nat}:G2 s off s.size=U6 ((M8 s).drop off):=by
 refine BL ?_
 rw[BX];unfold U6;rw[W9,List.take_of_length_le (by rw[List.length_drop,P2];exact Nat.le_refl _)]
theorem Tg{s:ByteArray}{off:Nat}{c:UInt8}{l:List UInt8}(h:(M8 s).drop off=c::l):off<s.size:=by
 have:=congrArg List.length h
 rw[List.length_drop,P2,List.length_cons]at this;omega
theorem aC{s:ByteArray}:∀ {l:List UInt8} {ks:List x6},Tz l ks→∀(f off:Nat) (acc:List Tok),(M8 s).drop off=l→l.length<f→∃toks,toks.map ge=ks∧W2 s f off acc=(acc++toks,⟨0,0⟩,0):=by
 intro l ks h;induction h with
 | nil=>
  intro f off acc hd hf;obtain⟨f,rfl⟩:∃f',f=f'+1:=⟨f-1,by omega⟩
  refine⟨[],rfl,?_⟩
  have:s.size≤off:=by
   have:=congrArg List.length hd
   rw[List.length_drop,P2]at this;simp at this;omega
  unfold W2;rw[if_pos this,List.append_nil]
 | @sp c l ks hc _ ih=>
  intro f off acc hd hf;rw[List.length_cons]at hf;obtain⟨f,rfl⟩:∃f',f=f'+1:=⟨f-1,by omega⟩
  have hlt:=Tg hd
  obtain⟨toks,h1,h2⟩:=ih f (off+1) acc (by rw[←List.drop_drop,hd];rfl) (by omega)
  refine⟨toks,h1,?_⟩
  unfold W2;rw[if_neg (by omega),HP hd,if_pos hc,h2]
 | @tok c p l k t v ks hc h35 ht _ ih=>
  intro f off acc hd hf;rw[List.length_append]at hf;have hp:0<(c::p).length:=by simp
  obtain⟨f,rfl⟩:∃f',f=f'+1:=⟨f-1,by omega⟩
  have hd':(M8 s).drop off=c::(p++l):=hd
  have hlt:=Tg hd'
  obtain⟨toks,h1,h2⟩:=ih f (off+(c::p).length) (acc++[⟨k,t,v,(D9 s off).Line,(D9 s off).Col⟩]) (by rw[←List.drop_drop,hd,List.drop_left]) (by omega)
  refine⟨⟨k,t,v,(D9 s off).Line,(D9 s off).Col⟩::toks,by rw[List.map_cons,h1];rfl,?_⟩
  unfold W2;rw[if_neg (by omega),HP hd',if_neg (by rw[hc];decide),if_neg h35,WF,hd,ht,if_pos rfl]
  dsimp only
  rw[h2,List.append_assoc];rfl
theorem Wc{l:List UInt8}{ks:List x6}(h:Tz l ks)(hl:l.length≤65536):∃toks,toks.map ge=ks∧I6 (U6 l)=(toks,⟨0,0⟩,0):=by
 obtain⟨toks,h1,h2⟩:=aC (s:=U6 l) h ((U6 l).size+1) 0 [] (by unfold U6;rw[W9];rfl) (by rw[Aq];omega)
 refine⟨toks,h1,?_⟩
 unfold I6;rw[if_neg (by rw[Aq];omega),h2];rfl
def Fg(l:List UInt8):Prop:=match l with|[]=>True|c::_=>L5 c=false
theorem Yw{p l:List UInt8}(hp:p.all L5=true)(hl:Fg l):runN (U6 (p++l))=p.length:=by
 unfold runN;show ((M8 (U6 (p++l))).takeWhile L5).length=_
 unfold U6;rw[W9];have:(p++l).takeWhile L5=p:=by
  rw[List.takeWhile_append_of_pos (fun x hx=>List.all_eq_true.1 hp x hx)];cases l with
  | nil=>simp
  | cons c l=>have hl:L5 c=false:=hl;simp[hl]
 rw[this]
theorem Ga{p l:List UInt8}:G2 (U6 (p++l)) 0 p.length=U6 p:=by
 refine BL ?_
 unfold U6;rw[BX,W9,W9,List.drop_zero,Nat.sub_zero,List.take_left]
theorem Xr{c:UInt8}{p l:List UInt8}(hc:H1 c.toNat=true)(hp:(c::p).all L5=true)(hl:Fg l):O3 (U6 ((c::p)++l))=⟨1,U6 (c::p),0,(c::p).length,0⟩:=by
 unfold O3;rw[if_pos (show H1 (B1 (U6 ((c::p)++l)) 0)=true from hc),Yw hp hl,Ga]
theorem YN{c:UInt8}{l:List UInt8}(hc:c=40∨c=41∨c=44):O3 (U6 ([c]++l))=⟨4,U6 [c],0,1,0⟩:=by
 have hs:(U6 ([c]++l)).size=l.length+1:=by rw[Aq];simp
 have hb:B1 (U6 ([c]++l)) 0=c.toNat:=rfl
 have h2:∀b,CF c.toNat b=false:=fun b=>by rcases hc with q|q|q <;> subst q <;> unfold CF <;> simp
 have hP:I5 (U6 ([c]++l))=1:=by
  unfold I5;rw[hb,h2,if_neg (by simp),if_pos ⟨by omega,by show c∈MX;rcases hc with q|q|q <;> subst q <;> decide⟩]
 unfold O3;rw[hP,hb,if_neg (by rcases hc with q|q|q <;> subst q <;> decide),if_neg (by rcases hc with q|q|q <;> subst q <;> decide),if_neg (by rcases hc with q|q|q <;> subst q <;> decide),if_neg (by decide)]
 rw[show G2 (U6 ([c]++l)) 0 1=U6 [c] from Ga (p:=[c])]
theorem WP{c d:UInt8}{l:List UInt8}(hc:(c=46∧d=10)∨(c=45∧M6 d.toNat=true)):O3 (U6 ([c]++d::l))=⟨4,U6 [c],0,1,0⟩:=by
 have hs:(U6 ([c]++d::l)).size=l.length+2:=by rw[Aq];simp
 have hb:B1 (U6 ([c]++d::l)) 0=c.toNat:=rfl
 have hb1:B1 (U6 ([c]++d::l)) 1=d.toNat:=rfl
 have h2:CF c.toNat d.toNat=false:=by
  rcases hc with⟨q,r⟩|⟨q,r⟩
  ·subst q;subst r;decide
  ·subst q;unfold M6 at r;simp only[Bool.and_eq_true,decide_eq_true_eq]at r
   unfold CF;simp
   omega
 have hP:I5 (U6 ([c]++d::l))=1:=by
  unfold I5;rw[hb,hb1,h2,if_neg (by simp),if_pos ⟨by omega,by show c∈MX;rcases hc with⟨q,-⟩|⟨q,-⟩ <;> subst q <;> decide⟩]
 unfold O3;rw[hP,hb,if_neg (by rcases hc with⟨q,-⟩|⟨q,-⟩ <;> subst q <;> decide),if_neg (by rcases hc with⟨q,-⟩|⟨q,-⟩ <;> subst q <;> decide),if_neg (by rcases hc with⟨q,-⟩|⟨q,-⟩ <;> subst q <;> decide),if_neg (by decide)]
 rw[show G2 (U6 ([c]++d::l)) 0 1=U6 [c] from Ga (p:=[c])]
theorem cK{p l:List UInt8}(hp:p.all u9=true):O3 (U6 ((34::(p++[34]))++l))=⟨3,U6 p,0,(34::(p++[34])).length,0⟩:=by
 have hB:M8 (U6 ((34::(p++[34]))++l))=34::(p++34::l):=by unfold U6;rw[W9];simp
 have hS:Ac (U6 ((34::(p++[34]))++l))=p.length+1:=by
  unfold Ac;rw[hB];have:((34::(p++34::l)).drop 1).takeWhile u9=p:=by
   rw[List.drop_succ_cons,List.drop_zero,List.takeWhile_append_of_pos (fun x hx=>List.all_eq_true.1 hp x hx)];have:u9 34=false:=by decide
   simp[this]
  rw[this];omega
 have hz:(U6 ((34::(p++[34]))++l)).size=p.length+2+l.length:=by rw[Aq];simp;omega
 have hq:B1 (U6 ((34::(p++[34]))++l)) (p.length+1)=34:=by
  refine HP (c:=34) (l:=l) ?_
  rw[hB,List.drop_succ_cons,List.drop_left]
 unfold O3;rw[show B1 (U6 ((34::(p++[34]))++l)) 0=34 from rfl,if_neg (by decide),if_neg (by decide),if_pos rfl,hS,if_pos ⟨by omega,hq⟩]
 congr 1
 ·refine BL ?_
  rw[BX,hB];unfold U6;rw[W9,List.drop_succ_cons,List.drop_zero,Nat.add_sub_cancel,List.take_left]
 ·simp
theorem w6{d:Nat}(h:d<10):(UInt8.ofNat (48+d)).toNat=48+d:=by
 rw[UInt8.toNat_ofNat'];exact Nat.mod_eq_of_lt (by omega)
theorem Ij:∀(u:Nat),∀c∈Lib.decDigits u,∃d,d<10∧c=UInt8.ofNat (48+d):=by
 intro u;induction u using Nat.strongRecOn with
 | _ u ih=>
  intro c hc;rw[Lib.decDigits]at hc;split at hc
  ·rename_i h
   exact⟨u,h,List.mem_singleton.1 hc⟩
  ·rename_i h
   rcases List.mem_append.1 hc with q|q
   ·exact ih (u / 10) (by omega) c q
   ·exact⟨u%10,by omega,List.mem_singleton.1 q⟩
theorem Ge:∀(u:Nat),∃d p,d<10∧Lib.decDigits u=UInt8.ofNat (48+d)::p∧(d=0→p=[]):=by
 intro u;induction u using Nat.strongRecOn with
 | _ u ih=>
  rw[Lib.decDigits];split
  ·rename_i h
   exact⟨u,[],h,rfl,fun _=>rfl⟩
  ·rename_i h
   obtain⟨d,p,h1,h2,h3⟩:=ih (u / 10) (by omega)
   refine⟨d,p++[UInt8.ofNat (48+u%10)],h1,by rw[h2];rfl,fun q=>?_⟩
   exfalso
   have h4:=h3 q
   rw[q,h4,Lib.decDigits]at h2;split at h2
   ·rename_i h5
    have h6:=List.cons.inj h2
    have:=congrArg UInt8.toNat h6.1
    rw[w6 h5,w6 (by omega)]at this
    omega
   ·have:=congrArg List.length h2
    have h7:=Lib.nDigits_pos (u / 10 / 10)
    rw[List.length_append,Lib.decDigits_length]at this;simp at this;omega
theorem JY{d:Nat}(h:d<10):Am ((UInt8.ofNat (48+d)).toNat:Int) 10=d:=by
 rw[w6 h];have hd:M6 ((48+d:Nat):Int)=true:=by
  unfold M6;rw[Bool.and_eq_true,decide_eq_true_eq,decide_eq_true_eq];omega
 unfold Am GA;rw[if_pos hd,if_neg (by omega)];omega
theorem Kw(b:Nat)(c:UInt8):∀(l:List UInt8) (v:Nat),IR b (l++[c]) v=IR b l v*b+(Am c.toNat b).toNat
 | [],v=>rfl
 | x::l,v=>Kw b c l _
theorem Xs:∀u:Nat,IR 10 (Lib.decDigits u) 0=u:=by
 intro u;induction u using Nat.strongRecOn with
 | _ u ih=>
  rw[Lib.decDigits];split
  ·rename_i h
   show 0*10+(Am ((UInt8.ofNat (48+u)).toNat:Int) ((10:Nat):Int)).toNat=u
   rw[show ((10:Nat):Int)=10 from rfl,JY h];omega
  ·rename_i h
   rw[Kw,ih (u / 10) (by omega),show ((10:Nat):Int)=10 from rfl,JY (by omega)];omega
theorem Dh{d:Nat}(h:d<10):H1 ((UInt8.ofNat (48+d)).toNat:Int)=false∧M6 ((UInt8.ofNat (48+d)).toNat:Int)=true∧EJ ((UInt8.ofNat (48+d)).toNat:Int)=0∧((UInt8.ofNat (48+d)).toNat:Int)≠120:=by
 rw[w6 h];refine⟨?_,?_,?_,by omega⟩
 ·unfold H1;rw[decide_eq_false (show ¬(97:Int)≤((48+d:Nat):Int) by omega),decide_eq_false (show ¬(65:Int)≤((48+d:Nat):Int) by omega),decide_eq_false (show ¬((48+d:Nat):Int)=95 by omega)];rfl
 ·unfold M6;rw[Bool.and_eq_true,decide_eq_true_eq,decide_eq_true_eq];omega
 ·unfold EJ;rw[if_neg (by omega),if_neg (by omega),if_neg (by omega)]
theorem XH(u:Nat):(Lib.decDigits u).all L5=true:=List.all_eq_true.2 fun c hc=>by
 obtain⟨d,h,rfl⟩:=Ij u c hc
 obtain⟨h1,h2,-,-⟩:=Dh h
 unfold L5;rw[h1,h2];rfl
theorem Nu{l:List UInt8}{i:Nat}(h:i<l.length):∃c∈l,B1 (U6 l) i=c.toNat:=by
 refine⟨l[i],List.getElem_mem h,?_⟩
 show (((M8 (U6 l)).getD i 0).toNat:Int)=_
 unfold U6;rw[W9,List.getD_eq_getElem?_getD,List.getElem?_eq_getElem h];rfl
theorem bu{u:Nat}(hu:u≤18446744073709551615):Eo (U6 (Lib.decDigits u))=(u,0):=by
 obtain⟨d,p,hd,hp,h0⟩:=Ge u
 have hl:0<(Lib.decDigits u).length:=by rw[hp];simp
 obtain⟨c,hc,hb⟩:=Nu (l:=Lib.decDigits u) (i:=(Lib.decDigits u).length-1) (by omega)
 have hsz:=Aq (Lib.decDigits u)
 have hsh:EJ (B1 (U6 (Lib.decDigits u)) ((U6 (Lib.decDigits u)).size-1))=0:=by
  rw[hsz,hb];obtain⟨d2,h2,rfl⟩:=Ij u c hc
  exact(Dh h2).2.2.1
 have hno:¬(2≤(U6 (Lib.decDigits u)).size∧B1 (U6 (Lib.decDigits u)) 0=48∧B1 (U6 (Lib.decDigits u)) 1=120):=fun q=>by
  obtain⟨c2,hc2,hb2⟩:=Nu (l:=Lib.decDigits u) (i:=1) (by omega)
  obtain⟨d2,h2,rfl⟩:=Ij u c2 hc2
  exact(Dh h2).2.2.2 (hb2.symm.trans q.2.2)
 have hlz:¬((U6 (Lib.decDigits u)).size=0∨(1<(U6 (Lib.decDigits u)).size∧B1 (U6 (Lib.decDigits u)) 0=48)):=fun q=>by
  rcases q with q|⟨q1,q2⟩
  ·omega
  ·have hb0:B1 (U6 (Lib.decDigits u)) 0=((UInt8.ofNat (48+d)).toNat:Int):=by rw[hp];rfl
   rw[hb0,w6 hd]at q2;have:=h0 (by omega)
   rw[hsz,hp,this]at q1;simp at q1
 have hall:(Lib.decDigits u).all (fun c=>decide (0≤Am c.toNat ((10:Nat):Int)))=true:=List.all_eq_true.2 fun c hc=>by
  obtain⟨d2,h2,rfl⟩:=Ij u c hc
  rw[show ((10:Nat):Int)=10 from rfl,JY h2];exact decide_eq_true (by omega)
 have hcore:Z5 10 0 (Lib.decDigits u)=(u,0):=by
  unfold Z5;rw[hall,if_neg (by decide),Xs,if_neg (by show ¬18446744073709551615 >>> 0<u;rw[Nat.shiftRight_zero];omega),Nat.shiftLeft_zero]
 unfold Eo;simp only[hsh]
 rw[if_neg (show ¬(0:Nat)<0 by decide),if_neg hno,if_neg hlz]
 unfold U6;rw[W9];exact hcore
theorem aP{u:Nat}(hu:u≤18446744073709551615){l:List UInt8}(hl:Fg l):O3 (U6 (Lib.decDigits u++l))=⟨2,⟨#[]⟩,u,(Lib.decDigits u).length,0⟩:=by
 have hr:=Yw (XH u) hl
 have hs:G2 (U6 (Lib.decDigits u++l)) 0 (Lib.decDigits u).length=U6 (Lib.decDigits u):=Ga
 have hn:=bu hu
 obtain⟨d,p,hd,hp,-⟩:=Ge u
 have hb:B1 (U6 (Lib.decDigits u++l)) 0=((UInt8.ofNat (48+d)).toNat:Int):=by rw[hp];rfl
 obtain⟨h1,h2,-,-⟩:=Dh hd
 unfold O3;rw[hr,hs,hn,hb,if_neg (by rw[h1];decide),if_pos h2,if_pos rfl]
theorem Tz.word{t:ByteArray}{l:List UInt8}{ks:List x6}(ht:s5 t=true)(hl:Fg l)(h:Tz l ks):Tz (M8 t++l) ((1,t,0)::ks):=by
 unfold s5 at ht;simp only[Bool.and_eq_true,decide_eq_true_eq]at ht
 obtain⟨⟨h0,h1⟩,h2⟩:=ht;have hb:0<(M8 t).length:=by rw[P2];exact h0
 have h1:H1 (((M8 t).getD 0 0).toNat:Int)=true:=h1
 have h2:(M8 t).all L5=true:=h2
 have hm:=Mz t
 generalize M8 t=b at *
 cases b with
 | nil=>simp at hb
 | cons c p=>
  have hc:H1 (c.toNat:Int)=true:=h1
  have hk:=Xr hc h2 hl
  rw[hm]at hk;have hsp:BA (c.toNat:Int)=false∧(c.toNat:Int)≠35:=by
   unfold H1 at hc;simp only[Bool.or_eq_true,Bool.and_eq_true,decide_eq_true_eq]at hc
   unfold BA;simp only[Bool.or_eq_false_iff,decide_eq_false_iff_not]
   omega
  exact Tz.tok (v:=0) hsp.1 hsp.2 hk h
theorem Tz.num{u:Nat}(hu:u≤18446744073709551615){l:List UInt8}{ks:List x6}(hl:Fg l)(h:Tz l ks):Tz (Lib.decDigits u++l) ((2,⟨#[]⟩,(u:Nat))::ks):=by
 have hk:=aP hu hl
 obtain⟨d,p,hd,hp,-⟩:=Ge u
 rw[hp]at hk ⊢
 refine Tz.tok (v:=u) ?_ ?_ hk h
 ·rw[w6 hd];unfold BA;simp only[Bool.or_eq_false_iff,decide_eq_false_iff_not];omega
 ·rw[w6 hd];omega
theorem Tz.p1{c:UInt8}{l:List UInt8}{ks:List x6}(hc:c=40∨c=41∨c=44)(h:Tz l ks):Tz (c::l) ((4,U6 [c],0)::ks):=
 Tz.tok (c:=c) (p:=[]) (v:=0) (by rcases hc with q|q|q <;> subst q <;> decide) (by rcases hc with q|q|q <;> subst q <;> decide) (YN hc) h
theorem Tz.p2{c d:UInt8}{l:List UInt8}{ks:List x6}(hc:(c=46∧d=10)∨(c=45∧M6 d.toNat=true))(h:Tz (d::l) ks):Tz (c::d::l) ((4,U6 [c],0)::ks):=
 Tz.tok (c:=c) (p:=[]) (v:=0) (by rcases hc with⟨q,-⟩|⟨q,-⟩ <;> subst q <;> decide) (by rcases hc with⟨q,-⟩|⟨q,-⟩ <;> subst q <;> decide) (WP hc) h
theorem Tz.str{t:ByteArray}{l:List UInt8}{ks:List x6}(ht:(M8 t).all u9=true)(h:Tz l ks):Tz ((34::(M8 t++[34]))++l) ((3,t,0)::ks):=by
 have hk:=cK (l:=l) (p:=M8 t) ht
 rw[Mz]at hk;exact Tz.tok (v:=0) (by decide) (by decide) hk h
def XK(t:Tok):Prop:=(t.Kind=1→s5 t.Text=true)∧(t.Kind=3→EE t.Text=true)
theorem bg{s:ByteArray}{k:Nat}:M8 (G2 s 0 k)=(M8 s).take k:=by rw[BX,List.drop_zero,Nat.sub_zero]
theorem k13:¬(1:Int)=3:=by decide
theorem k31:¬(3:Int)=1:=by decide
theorem k21:¬(2:Int)=1:=by decide
theorem k23:¬(2:Int)=3:=by decide
theorem gV:¬(0:Int)=1:=by decide
theorem gu:¬(0:Int)=3:=by decide
theorem k41:¬(4:Int)=1:=by decide
theorem k43:¬(4:Int)=3:=by decide
theorem ae{s:ByteArray}(h0:0<s.size):((O3 s).kind=1→s5 (O3 s).text=true)∧((O3 s).kind=3→EE (O3 s).text=true):=by
 unfold O3;by_cases h1:H1 (B1 s 0)=true
 ·rw[if_pos h1];refine⟨fun _=>?_,fun q=>absurd q k13⟩
  have hl:0<(M8 s).length:=by rw[P2];exact h0
  have htw:M8 (G2 s 0 (runN s))=(M8 s).takeWhile L5:=by
   rw[bg];unfold runN;exact(List.prefix_iff_eq_take.1 (List.takeWhile_prefix L5)).symm
  have h1':H1 (((M8 s).getD 0 0).toNat:Int)=true:=h1
  unfold s5;show (decide (0<(G2 s 0 (runN s)).size)&&H1 (((M8 (G2 s 0 (runN s))).getD 0 0).toNat:Int)&&(M8 (G2 s 0 (runN s))).all L5)=true
  rw[←P2,htw];generalize M8 s=b at *
  cases b with
  | nil=>simp at hl
  | cons c p=>
   have hc:H1 (c.toNat:Int)=true:=h1'
   have hw:L5 c=true:=by unfold L5;rw[hc];rfl
   rw[List.takeWhile_cons,if_pos hw];simp only[Bool.and_eq_true,decide_eq_true_eq]
   refine⟨⟨by simp,hc⟩,?_⟩
   rw[List.all_cons,hw,Bool.true_and];exact List.all_eq_true.2 fun x hx=>List.all_eq_true.1 List.all_takeWhile x hx
 rw[if_neg h1];by_cases h2:M6 (B1 s 0)=true
 ·rw[if_pos h2];split
  ·exact⟨fun q=>absurd q k21,fun q=>absurd q k23⟩
  ·exact⟨fun q=>absurd q gV,fun q=>absurd q gu⟩
 rw[if_neg h2];by_cases h3:B1 s 0=34
 ·rw[if_pos h3];split
  ·refine⟨fun q=>absurd q k31,fun _=>?_⟩
   unfold EE;have:M8 (G2 s 1 (Ac s))=((M8 s).drop 1).takeWhile u9:=by
    rw[BX];unfold Ac;rw[Nat.add_sub_cancel_left];exact(List.prefix_iff_eq_take.1 (List.takeWhile_prefix u9)).symm
   show (M8 (G2 s 1 (Ac s))).all u9=true
   rw[this];exact List.all_takeWhile
  ·exact⟨fun q=>absurd q gV,fun q=>absurd q gu⟩
 rw[if_neg h3];split
 ·exact⟨fun q=>absurd q gV,fun q=>absurd q gu⟩
 ·exact⟨fun q=>absurd q k41,fun q=>absurd q k43⟩
theorem Gm{s:ByteArray}:∀(f off:Nat) (acc:List Tok),(∀t∈acc,XK t)→∀t∈(W2 s f off acc).1,XK t
 | 0,off,acc,h=>h
 | f+1,off,acc,h=>by
  unfold W2;split
  ·exact h
  ·rename_i h0
   split
   ·exact Gm f _ acc h
   ·split
    ·exact Gm f _ acc h
    ·split
     ·refine Gm f _ _ fun t ht=>?_
      rcases List.mem_append.1 ht with q|q
      ·exact h t q
      ·rw[List.mem_singleton.1 q];exact ae (by rw[y5 (Nat.le_refl _)];omega)
     ·exact fun t ht=>by cases ht
theorem Wn{s:ByteArray}:∀t∈(I6 s).1,XK t:=by
 unfold I6;split
 ·exact fun t ht=>by cases ht
 ·exact Gm _ _ [] fun t ht=>by cases ht
theorem Vx{t:ByteArray}(h:s5 t=true):EE t=true:=by
 unfold s5 at h;simp only[Bool.and_eq_true]at h
 have h2:(M8 t).all L5=true:=h.2
 refine List.all_eq_true.2 fun c hc=>?_
 have:=List.all_eq_true.1 h2 c hc
 unfold L5 H1 M6 at this;unfold u9 Ae;simp only[Bool.or_eq_true,Bool.and_eq_true,decide_eq_true_eq]at this ⊢
 omega
end Go.Proofs.YtlmiakjbogojgaaGreatDoor
end
section
open Go Mk
namespace Go.Proofs.YtlmiakjbogojgaaGreatDoor
set_option maxHeartbeats 16000000
attribute [local irreducible] Calls cI cB I6 EK
def Bb(s:ByteArray):F7×H9×Int:=if (I6 s).2.2=0 then (match EK (I6 s).1 (Db s) 0 with|.ok (q,_)=>(q,⟨0,0⟩,0)|.error (p,er)=>(⟨[],[]⟩,p,er)) else (⟨[],[]⟩,(I6 s).2.1,(I6 s).2.2)
def FR(b2 b3 b4:Nat)(h0:Array Value)(p0:H9)(e0:Int)(S:List B6):List B6:=.blk b2 (.cells h0 25)::.blk b3 (.cells (enc p0).toArray 29)::.blk b4 (.cells #[.int .i64 e0] 30)::S
theorem RP{s:ByteArray}:Im (I6 s).1:=fun k hk=>by
 have h:P1 (I6 s).1 k∈(I6 s).1:=by
  have hl:=DG (toks:=(I6 s).1) (at':=k) (by rw[hk];decide)
  unfold P1;rw[List.getD_eq_getElem?_getD,List.getElem?_eq_getElem hl];exact List.getElem_mem hl
 have hw:=(Wn _ h).1 hk
 unfold s5 at hw;simp only[Bool.and_eq_true,decide_eq_true_eq]at hw
 exact hw.1.1
theorem Ye(Γ:C8):QR Γ (.slice none 0 0) (.slice none 0 0) [] ⟨[],[]⟩:=⟨D7.nil,D7.nil,rfl,fun x hx=>by cases hx⟩
section
variable {Γ:C8}{S:List B6}{w:World}{b2 b3 b4:Nat}{h0:Array Value}{p0:H9}{e0:Int}
theorem Yq{p:H9}{er:Int}(hz:h0.size=2)(hw:Wd Γ (FR b2 b3 b4 h0 p0 e0 S) w) :
  CallsD Tryz.prog 29 #[.pointer (some ⟨b2,0,none⟩),.pointer (some ⟨b3,0,none⟩),.pointer (some ⟨b4,0,none⟩)] (.panicking [DO p er]) w fun e u' w'=>
   e=.returned (.tuple #[])∧settle u'=.returning∧Wd Γ (FR b2 b3 b4 #[.slice none 0 0,.slice none 0 0] p er S) w':=by
 refine KO Tryz.func29 rfl rfl rfl rfl ?_
 obtain⟨c1,c2,rfl⟩:∃c1 c2,h0 = #[c1,c2]:=by
  obtain⟨l⟩:=h0;match l,hz with
  | [c1,c2],_=>exact⟨c1,c2,rfl⟩
 unfold FR at hw;have hv:(GH (.panicking [DO p er])).1=.iface 87 (.agg #[.int .i64 p.Line,.int .i64 p.Col,.int .i64 er]):=rfl
 rw[hv];refine y0 ?_
 refine W7 ?_
 refine lY (v:=.iface 87 (.agg #[.int .i64 p.Line,.int .i64 p.Col,.int .i64 er])) ?_ (hy:=Hb rfl)
 refine lY (v:=.bool true) ?_ (hy:=bB Tryz.underlying20 rfl)
 refine p9 ?_
 refine A0 rfl (fun _=>?_) (fun h=>by cases h)
 refine y0 ?_
 refine W7 ?_
 refine lY (v:=.iface 87 (.agg #[.int .i64 p.Line,.int .i64 p.Col,.int .i64 er])) ?_ (hy:=Hb rfl)
 refine lY (v:=.tuple #[.agg #[.int .i64 p.Line,.int .i64 p.Col,.int .i64 er],.bool true]) ?_ (hy:=RS Tryz.underlying87 rfl)
 refine A6 ?_;refine B9 ?_;intro b5 w hw;refine A6 ?_;refine B0 ?_;intro w hw;have hw:Wd Γ (.blk b5 (.cells #[.int .i64 p.Line,.int .i64 p.Col,.int .i64 er] 87)::.blk b2 (.cells #[c1,c2] 25)::.blk b3 (.cells (enc p0).toArray 29)::.blk b4 (.cells #[.int .i64 e0] 30)::S) w:=hw
 refine A6 ?_;refine A0 rfl (fun h=>by cases h) (fun _=>?_)
 refine A6 ?_;refine U0 [] [fun _=>[.blk b5 _],fun _=>[.blk b2 _],fun _=>[.blk b3 _],fun _=>.blk b4 _::S] [[],[],[],[],[],[1],[2],[3]] [[],[],[0],[],[0],[1],[2],[3]] [[],[],[],[]] (by simpa[List.range,List.range.loop,ML] using hw) ?_
 refine P3 ?_;refine U2 (c:=1) ?_
 refine U2 (c:=2) ?_
 refine U2 (c:=3) ?_
 refine W3 ?_
 intro w hw;have hw:Wd Γ ((.blk b5 (.cells #[.int .i64 p.Line,.int .i64 p.Col,.int .i64 er] 87)::FR b2 b3 b4 #[.slice none 0 0,.slice none 0 0] p er S)++[]) w:=hw
 rw[List.append_nil]at hw;exact⟨_,rfl,rfl,rfl,hw.drop⟩
end
section
variable {Γ:C8}{S:List B6}{w:World}
set_option maxRecDepth 8000 in
theorem QU(s:ByteArray)(hs:s.size≤1000000)(hw:Wd Γ S w) :
  Calls Tryz.prog 7 #[.string s] w fun r w'=>∃Γ' vs vg gs,Γ.le Γ'∧r=.returned (.tuple #[.agg #[vs,vg],.agg (enc (Bb s).2.1).toArray,.int .i64 (Bb s).2.2])∧QR Γ' vs vg gs (Bb s).1∧Wd Γ' S w':=by
 haveI hL:=VO s (by omega)
 haveI hCn:=QP s
 have hlin:=Ta (s:=s) (k:=s.size) (Nat.le_refl _)
 rw[List.take_of_length_le (by simp)]at hlin
 have hcnt:s.data.toList.count 10≤s.size:=by
  have:=List.count_le_length (a:=(10:UInt8)) (l:=s.data.toList)
  simpa using this
 have hcol:1≤(Db s).Col∧(Db s).Col≤s.size+1:=by
  have:∀k,1≤(D9 s k).Col∧(D9 s k).Col≤k+1:=fun k=>by
   induction k with
   | zero=>simp[D9]
   | succ k ih=>
    unfold D9;split
    ·simp;omega
    ·simp;omega
  exact this _
 refine Hr Tryz.func7 rfl rfl ?_
 refine Ca (Fj ?_)
 refine A6 ?_;refine B9 ?_;intro b2 w hw;refine B9 ?_;intro b3 w hw;refine B9 ?_;intro b4 w hw;refine p9 ?_
 have hw:Wd Γ (FR b2 b3 b4 #[.slice none 0 0,.slice none 0 0] ⟨0,0⟩ 0 S) w:=hw.ps [1,2]
 unfold FR at hw;refine Ca (Fj ?_)
 refine A6 ?_;refine C9 ?_;refine(We Γ _ w s (Nat.le_trans hs (by decide)) hw).mono ?_
 clear hw;rintro r w ⟨v,rfl,hw⟩
 refine⟨_,rfl,?_⟩;refine A6 ?_;refine B0 (i:=2) ?_
 intro w hw;refine B0 (i:=3) ?_
 intro w hw;refine p9 ?_
 have hw:Wd Γ (.own v 102 5 ((I6 s).1.map enc)::FR b2 b3 b4 #[.slice none 0 0,.slice none 0 0] (I6 s).2.1 (I6 s).2.2 S) w:=hw
 unfold FR at hw;refine Ca (Ca (Fj ?_))
 refine A6 ?_;refine Gd rfl (fun h=>?_) (fun h=>?_)
 ·have h:¬(I6 s).2.2=0:=by simpa using h
  have hP:Bb s=(⟨[],[]⟩,(I6 s).2.1,(I6 s).2.2):=by unfold Bb;rw[if_neg h]
  rw[hP];refine Fj ?_
  refine A6 ?_;refine U0 [] [fun _=>[.own v _ _ _],fun _=>[.blk b2 _],fun _=>[.blk b3 _],fun _=>.blk b4 _::S] [[],[],[],[1],[2],[3]] [[],[2],[3],[1],[2],[3]] [[],[],[],[]] (by simpa[List.range,List.range.loop,ML] using hw) ?_
  refine P3 ?_;refine U2 (c:=1) ?_
  refine U2 (c:=2) ?_
  refine U2 (c:=3) ?_
  refine W3 ?_
  intro w hw;have hw:Wd Γ ((.own v 102 5 ((I6 s).1.map enc)::FR b2 b3 b4 #[.slice none 0 0,.slice none 0 0] (I6 s).2.1 (I6 s).2.2 S)++[]) w:=hw
  rw[List.append_nil]at hw;refine A6 ?_;have hw:=hw.drop
  unfold FR at hw;intro a ha hsz;exact⟨_,o6 (vs:=[.agg #[.slice none 0 0,.slice none 0 0],.agg (enc (I6 s).2.1).toArray,.int .i64 (I6 s).2.2]) (by decide) (by rw[ha];exact⟨U4 (i:=0) hw rfl rfl rfl,U4 (i:=1) hw rfl rfl rfl,dR (i:=2) hw rfl rfl rfl,trivial⟩),Γ,_,_,[],C8.le.refl _,rfl,Ye Γ,hw.ds [0,0,0]⟩
 have h:(I6 s).2.2=0:=by simpa using h
 have hP:Bb s=(match EK (I6 s).1 (Db s) 0 with|.ok (q,_)=>(q,⟨0,0⟩,0)|.error (p,er)=>(⟨[],[]⟩,p,er)):=by unfold Bb;rw[if_pos h]
 rw[hP];clear hP;have hwo:=RP (s:=s)
 generalize (I6 s).2.1=p1 at *
 generalize (I6 s).2.2=e1 at *
 have hlen:=VF (s:=s)
 generalize (I6 s).1=toks at *
 obtain⟨at',n,c,rfl,hn,-,-⟩:=hw.own_shape (i:=0) rfl
 simp only[List.length_map]at hn
 obtain⟨Γ1,hle,ht,hw⟩:=hw.freeze;refine Fj (Bf ?_)
 refine Ca (Jv ?_)
 refine TY ((Dm (first:=[]) (cap:=[.tmp 2,.tmp 3,.tmp 4]) (f1:=[]) (c1:=[.pointer (some ⟨b2,0,none⟩),.pointer (some ⟨b3,0,none⟩),.pointer (some ⟨b4,0,none⟩)]) EvL.nil (EvL.cons rfl (EvL.cons rfl (EvL.cons rfl EvL.nil)))).step ?_)
 refine Li ?_
 refine YJ ?_
 refine Ca (Ea ?_)
 refine A6 ?_;refine Ca (Ea ?_)
 refine A6 ?_;refine H2 ?_;intro bp w hw;refine A6 ?_;have hw:Wd Γ1 (D3 bp at' n c 0 (((s.data.toList.count 10:Nat):Int)+1) ((s.size:Int)-((s.size:Int)-(Db s).Col))::FR b2 b3 b4 #[.slice none 0 0,.slice none 0 0] p1 e1 S) w:=hw
 rw[show (((s.data.toList.count 10:Nat):Int)+1)=(Db s).Line from by unfold Db;rw[hlin];omega,show (s.size:Int)-((s.size:Int)-(Db s).Col)=(Db s).Col from by omega]at hw
 refine Ca (Ea ?_)
 refine A6 ?_;refine K1 ?_
 refine(eI hwo (Nat.zero_le _) (by omega) ht hw).mono ?_
 clear hw;rintro r w hr
 cases hH:EK toks (Db s) 0 with
 | error q=>
  obtain⟨p,er⟩:=q;rw[hH]at hr;obtain⟨Γ2,k,hle2,rfl,hw⟩:=hr;have hw:=hw.drop
  intro a ha hsz;refine leaves_cons (by simp) rfl ((Yq rfl hw).mono ?_)
  rintro e u' w ⟨rfl,hu,hw⟩
  show Leaves _ _ _ _ [] (settle u') w
  rw[hu];unfold FR at hw;exact⟨_,o6 (vs:=[.agg #[.slice none 0 0,.slice none 0 0],.agg (enc p).toArray,.int .i64 er]) (by decide) (by rw[ha];exact⟨U4 (i:=0) hw rfl rfl rfl,U4 (i:=1) hw rfl rfl rfl,dR (i:=2) hw rfl rfl rfl,trivial⟩),Γ2,_,_,[],hle.trans hle2,rfl,Ye Γ2,hw.ds [0,0,0]⟩
 | ok q=>
  obtain⟨q,k⟩:=q;rw[hH]at hr;obtain⟨Γ2,vs,vg,gs,hle2,rfl,hq,hw⟩:=hr;unfold FR at hw;obtain⟨ga,gn,gc,rfl,hgn,hgnc,hgc⟩:=hq.goals.shape;obtain⟨sa,sn,sc,rfl,hsn,hsnc,hsc⟩:=hq.sel.shape;show L _ _ _ _ _ _ _
  refine A6 ?_;refine B0 (i:=0) ?_
  intro w hw;refine B0 (i:=1) ?_
  intro w hw;refine B0 (i:=2) ?_
  intro w hw;have hw:Wd Γ2 (FR b2 b3 b4 #[.slice sa sn sc,.slice ga gn gc] ⟨0,0⟩ 0 S) w:=hw
  refine p9 ?_
  refine Wa ?_
  intro a ha hsz;refine leaves_cons (by simp) rfl ((Wp hw _ rfl).mono ?_)
  rintro e u' w ⟨rfl,rfl,hw⟩
  show Leaves _ _ _ _ [] .returning w
  unfold FR at hw;exact⟨_,o6 (vs:=[.agg #[.slice sa sn sc,.slice ga gn gc],.agg (enc (⟨0,0⟩:H9)).toArray,.int .i64 0]) (by decide) (by rw[ha];exact⟨U4 (i:=0) hw rfl rfl rfl,U4 (i:=1) hw rfl rfl rfl,dR (i:=2) hw rfl rfl rfl,trivial⟩),Γ2,_,_,gs,hle.trans hle2,rfl,hq,hw.ds [0,0,0]⟩
end
end Go.Proofs.YtlmiakjbogojgaaGreatDoor
end
section
open Go Mk
namespace Go.Proofs.YtlmiakjbogojgaaGreatDoor
set_option maxHeartbeats 4000000
attribute [local irreducible] Calls
theorem D7.imm{Γ Γ0:C8}{v:Value}{sz:Nat}{rows:List (List Value)}(e:Γ0.imm=Γ.imm)(h:D7 Γ0 v sz rows):D7 Γ v sz rows:=by
 unfold D7 at h ⊢
 rw[e]at h;exact h
end Go.Proofs.YtlmiakjbogojgaaGreatDoor
end
section
open Go Mk
namespace Go.Proofs.YtlmiakjbogojgaaGreatDoor
set_option maxHeartbeats 16000000
attribute [local irreducible] Calls cI cB I6 T0 U1 I7
end Go.Proofs.YtlmiakjbogojgaaGreatDoor
end
section
open Go Mk
namespace Go.Proofs.YtlmiakjbogojgaaGreatDoor
set_option maxHeartbeats 4000000
theorem Ns{db:List F3}{g:H3}:U7 (O4 db) g=U7 db g:=by
 have:O4 (O4 db)=O4 db:=VM J8 db
 unfold U7 RA;rw[this]
theorem UM{db:List F3}{gs:List H3}:Q0 (O4 db) gs=Q0 db gs:=by
 have:S8 (O4 db)=S8 db:=by
  funext g
  unfold S8;rw[Ns]
 unfold Q0;rw[this]
theorem Of{fin:Env→List (List Val)}{P:List Val→Prop}(h:∀e x,x∈fin e→P x):∀(r:List (H3×List F3)) (e:Env) (x:List Val),x∈BH fin r e→P x
 | [],e,x,hx=>h e x hx
 | (g,t)::r,e,x,hx=>by
  have ih:=Of h r
  have hw:∀os vs,x∈M4 (BH fin r) e os vs→P x:=fun os vs hx=>by
   unfold M4 at hx;split at hx
   ·exact ih _ _ hx
   ·cases hx
  unfold BH at hx;by_cases k1:g.Kind=1
  ·rw[if_pos k1]at hx;obtain⟨f,hf1,hf2⟩:=List.mem_flatMap.1 hx
   split at hf2
   ·exact hw _ _ hf2
   ·cases hf2
  rw[if_neg k1]at hx;by_cases k4:g.Kind=4
  ·rw[if_pos k4]at hx;split at hx
   ·split at hx
    ·exact ih _ _ hx
    ·cases hx
   ·obtain⟨n,hn1,hn2⟩:=List.mem_flatMap.1 hx
    exact hw _ _ hn2
  rw[if_neg k4]at hx;exact ih _ _ hx
theorem Zy:U8 (cL cV):=He.list
theorem PD{db:List F3}{q:F7}{x:List Val}:x∈Uv db q↔x∈IT db q:=As Zy
theorem WW{db:List F3}{q:F7}{x:List Val}(h:x∈U1 db q):x.length=q.Sel.length:=by
 unfold U1 at h;split at h
 ·refine Of (P:=fun x=>x.length=q.Sel.length) (fun e y hy=>?_) _ _ _ (PD.1 h)
  unfold Bn at hy;split at hy
  ·rw[List.mem_singleton.1 hy];unfold FT;simp
  ·cases hy
 ·cases h
end Go.Proofs.YtlmiakjbogojgaaGreatDoor
end
section
open Go Mk
namespace Go.Proofs.YtlmiakjbogojgaaGreatDoor
set_option maxHeartbeats 16000000
attribute [local irreducible] Calls cI cB I6 T0 U1 I7
end Go.Proofs.YtlmiakjbogojgaaGreatDoor
end
section
open Go Mk
namespace Go.Proofs.YtlmiakjbogojgaaGreatDoor
set_option maxHeartbeats 4000000
structure Valid(q:F7):Prop where
 lim:An q=true
 shape:x5 q=true
 names:U5 q=true
 num:CO q=true
 nodup:q.Sel.Nodup
 safe:Ak q=true
end Go.Proofs.YtlmiakjbogojgaaGreatDoor
end
section
open Go Mk
namespace Go.Proofs.YtlmiakjbogojgaaGreatDoor
set_option maxHeartbeats 16000000
attribute [local irreducible] Calls cI cB I6 T0 U1 I7 BC
end Go.Proofs.YtlmiakjbogojgaaGreatDoor
end
section
open Go Mk
namespace Go.Proofs.YtlmiakjbogojgaaGreatDoor
set_option maxHeartbeats 4000000
section
variable {α:Type}{K:α→Bool}{N:α→Int}{l:List α}{x b:α}{best bs:List α}
def j5(K:α→Bool)(N:α→Int)(l best:List α):Prop:=
 (best=[]∧∀r∈l,K r=false)∨∃m,(∀r∈l,K r=true→m≤N r)∧(∃r∈l,K r=true∧N r=m)∧best=l.filter fun r=>K r&&decide (N r=m)
def Hu(K:α→Bool)(N:α→Int)(l:List α)(r:α):Bool:=K r&&l.all fun r'=>!K r'||decide (N r≤N r')
theorem j5.nil:j5 K N [] []:=Or.inl ⟨rfl,fun r h=>(by cases h)⟩
theorem p6{r:α}:r∈l++[x]↔r∈l∨r=x:=by simp
theorem j5.skip(h:j5 K N l best)(hk:K x=false):j5 K N (l++[x]) best:=by
 rcases h with⟨h1,h2⟩|⟨m,h1,⟨r,h2,h3⟩,h4⟩
 ·exact Or.inl ⟨h1,fun r hr=>(p6.1 hr).elim (h2 r) fun e=>by rw[e];exact hk⟩
 ·refine Or.inr ⟨m,fun r hr hkr=>?_,⟨r,p6.2 (Or.inl h2),h3⟩,?_⟩
  ·rcases p6.1 hr with hr|hr
   ·exact h1 r hr hkr
   ·rw[hr,hk]at hkr;cases hkr
  ·rw[List.filter_append,←h4];simp[hk]
theorem Hn{p:α→Bool}(h:∀r∈l,p r=false):l.filter p=[]:=List.filter_eq_nil_iff.2 fun r hr=>by rw[h r hr];decide
theorem j5.new(hk:K x=true)(h:∀r∈l,K r=true→N x<N r):j5 K N (l++[x]) [x]:=by
 refine Or.inr ⟨N x,fun r hr hkr=>?_,⟨x,p6.2 (Or.inr rfl),hk,rfl⟩,?_⟩
 ·rcases p6.1 hr with hr|hr
  ·exact Int.le_of_lt (h r hr hkr)
  ·rw[hr];exact Int.le_refl _
 ·rw[List.filter_append,Hn fun r hr=>?_]
  ·simp[hk]
  ·cases hkr:K r with
   | false=>rfl
   | true=>
    have:=h r hr hkr
    rw[Bool.true_and,decide_eq_false_iff_not];omega
theorem j5.first(h:j5 K N l [])(hk:K x=true):j5 K N (l++[x]) [x]:=by
 refine j5.new hk fun r hr hkr=>?_
 rcases h with⟨-,h2⟩|⟨m,-,⟨r,h2,h3,h5⟩,h4⟩
 ·rw[h2 r hr]at hkr;cases hkr
 ·have:r∈([]:List α):=by rw[h4];exact List.mem_filter.2 ⟨h2,by simp[h3,h5]⟩
  cases this
theorem j5.head(h:j5 K N l (b::bs)):(∀r∈l,K r=true→N b≤N r)∧b::bs=l.filter fun r=>K r&&decide (N r=N b):=by
 rcases h with⟨h1,-⟩|⟨m,h1,-,h4⟩
 ·cases h1
 ·have hb:b∈l.filter fun r=>K r&&decide (N r=m):=by rw[←h4];simp
  have hbm:N b=m:=by have:=(List.mem_filter.1 hb).2;simp at this;exact this.2
  subst hbm;exact⟨h1,h4⟩
theorem j5.less(h:j5 K N l (b::bs))(hk:K x=true)(hlt:N x<N b):j5 K N (l++[x]) [x]:=
 j5.new hk fun r hr hkr=>by have:=h.head.1 r hr hkr;omega
theorem j5.bmem(h:j5 K N l (b::bs)):b∈l∧K b=true:=by
 have hb:b∈l.filter fun r=>K r&&decide (N r=N b):=by rw[←h.head.2];simp
 have:=List.mem_filter.1 hb
 exact⟨this.1,by have:=this.2;simp at this;exact this⟩
theorem j5.more(h:j5 K N l (b::bs))(hgt:N b<N x):j5 K N (l++[x]) (b::bs):=by
 obtain⟨h1,h2⟩:=h.head;obtain⟨h3,h4⟩:=h.bmem;refine Or.inr ⟨N b,fun r hr hkr=>?_,⟨b,p6.2 (Or.inl h3),h4,rfl⟩,?_⟩
 ·rcases p6.1 hr with hr|hr
  ·exact h1 r hr hkr
  ·rw[hr];omega
 ·rw[List.filter_append,←h2];have:¬N x=N b:=by omega
  simp[this]
theorem j5.same(h:j5 K N l (b::bs))(hk:K x=true)(he:N x=N b):j5 K N (l++[x]) (b::bs++[x]):=by
 obtain⟨h1,h2⟩:=h.head;obtain⟨h3,h4⟩:=h.bmem;refine Or.inr ⟨N b,fun r hr hkr=>?_,⟨b,p6.2 (Or.inl h3),h4,rfl⟩,?_⟩
 ·rcases p6.1 hr with hr|hr
  ·exact h1 r hr hkr
  ·rw[hr];omega
 ·rw[List.filter_append,←h2];simp[hk,he]
theorem j5.final(h:j5 K N l best):best=l.filter (Hu K N l):=by
 rcases h with⟨h1,h2⟩|⟨m,h1,⟨r0,h2,h3,h5⟩,h4⟩
 ·rw[h1,Hn fun r hr=>by unfold Hu;rw[h2 r hr];rfl]
 ·rw[h4];refine List.filter_congr fun r hr=>?_
  unfold Hu;cases hk:K r with
  | false=>rfl
  | true=>
   rw[Bool.true_and,Bool.true_and];by_cases hm:N r=m
   ·rw[decide_eq_true hm];refine(List.all_eq_true.2 fun r' hr'=>?_).symm
    cases hk':K r' with
    | false=>rfl
    | true=>rw[hm];simpa using h1 r' hr' hk'
   ·rw[decide_eq_false hm];refine Eq.symm (Bool.eq_false_iff.2 fun hall=>hm ?_)
    have:=(List.all_eq_true.1 hall) r0 h2
    rw[h3,h5]at this;have:=h1 r hr hk
    simp at *
    omega
end
def atR(p:Nat)(r:List Val):Val:=r.getD p default
def kR(p:Nat)(r:List Val):Bool:=decide ((atR p r).Kind=1)
def nR(p:Nat)(r:List Val):Int:=(atR p r).Num
theorem MJ{p:Nat}{r:List Val}(h:p<r.length):r[p]? = some (atR p r):=by
 unfold atR;rw[List.getD_eq_getElem?_getD,List.getElem?_eq_getElem h];rfl
theorem Ve{db:List F3}{q:F7}(h:T0 db q=0):(U1 db q).length≤1000000:=by
 have h0:BC q=0∧Q0 db q.Goals≤1000000:=by
  unfold T0 at h;by_cases h1:BC q=0
  ·rw[if_neg (by omega)]at h
   refine⟨h1,?_⟩
   split at h
   ·cases h
   ·omega
  ·rw[if_pos h1]at h;exact absurd h h1
 unfold U1;rw[if_pos h];unfold Uv;refine Nat.le_trans Ah ?_
 unfold IT;refine Nat.le_trans (Iy (fun e=>PY e) _ (fun gt hgt h4=>?_) _) ?_
 ·obtain⟨g,hg,rfl⟩:=List.mem_map.1 hgt
  exact(Nf h0.1 g hg h4).1
 ·rw[←Ip];exact h0.2
end Go.Proofs.YtlmiakjbogojgaaGreatDoor
end
section
open Go Mk
namespace Go.Proofs.YtlmiakjbogojgaaGreatDoor
set_option maxHeartbeats 16000000
attribute [local irreducible] Calls cI cB I6 T0 U1 I7 BC
theorem Xx{Γ:C8}{vs:Value}{l:List ByteArray}{s:ByteArray}{o:Int}(hr:D7 Γ vs 1 (B7 l))(ho:(s∉l∧o = -1)∨∃p:Nat,l[p]? = some s∧(∀j,j<p→l[j]?≠some s)∧o=p):PG Tryz.prog Γ 76 [vs,.string s] (.int .i64 o):=⟨fun S w hw=>by
 obtain⟨a,n,c,rfl,hn,hnc,hc⟩:=hr.shape;simp only[List.length_map]at hn
 refine A7 Tryz.func76 rfl rfl ?_
 repeat first|refine E6 ?_|refine E7 ?_;intro w hw
 refine B3 (fun μ ρ w=>∃(k:Nat),μ+k=n∧Has ρ [(0,.slice a n c),(1,.string s),(7,.int .i64 n),(8,.int .i64 k)]∧(∀j,j<k→l[j]?≠some s)∧Wd Γ S w) n ⟨0,by omega,⟨rfl,rfl,rfl,rfl,trivial⟩,fun j hj=>by omega,hw⟩ ?_
 clear hw;rintro μ ρ w ⟨k,hk,hρ,hno,hw⟩
 rw[hρ.eq];clear hρ;repeat first|refine E6 ?_|refine E7 ?_;intro w hw
 refine A0 rfl (fun h=>?_) (fun h=>?_)
 ·have hkn:k<n:=by have:=of_decide_eq_true h;omega
  clear h;obtain⟨x,hx⟩:=B2 (l:=l) (k:=k) (by omega)
  repeat first|refine E6 ?_|refine E7 ?_;intro w hw
  refine A0 rfl (fun h2=>?_) (fun h2=>?_)
  ·have h2:s=x:=of_decide_eq_true h2
   repeat first|refine E6 ?_|refine E7 ?_;intro w hw
   refine⟨_,rfl,?_,hw⟩
   have:o=k:=by
    rcases ho with⟨h3,-⟩|⟨p,h3,h4,h5⟩
    ·exact absurd (List.mem_of_getElem? hx) (by rw[←h2];exact h3)
    ·have e1:¬p<k:=fun h=>hno p h h3
     have e2:¬k<p:=fun h=>h4 k h (by rw[hx,h2])
     omega
   rw[this];rfl
  ·have h2:¬s=x:=of_decide_eq_false h2
   repeat first|refine E6 ?_|refine E7 ?_;intro w hw
   refine⟨μ-1,by omega,k+1,by omega,⟨rfl,rfl,rfl,rfl,trivial⟩,fun j hj=>?_,hw⟩
   by_cases e:j=k
   ·subst e;rw[hx];exact fun h=>h2 (Option.some.inj h).symm
   ·exact hno j (by omega)
 ·have hkn:n≤k:=by have:=of_decide_eq_false h;omega
  repeat first|refine E6 ?_|refine E7 ?_;intro w hw
  refine⟨_,rfl,?_,hw⟩
  have:o = -1:=by
   rcases ho with⟨-,h⟩|⟨p,h3,-,-⟩
   ·exact h
   ·have:=(List.getElem?_eq_some_iff.1 h3).1
    exact absurd h3 (hno p (by omega))
  rw[this];rfl⟩
def VW(db:List F3)(q:F7)(p:Nat):List (List Val):=(U1 db q).filter (Hu (kR p) (nR p) (U1 db q))
theorem PO{Γ:C8}{S:List B6}{w:World}{va vs vg:Value}{fs:List D1}{gs:List N0}{q:F7}{s:ByteArray}{p:Nat}(hF:RL Γ va fs)(hl:fs.length≤50000)(hq:QR Γ vs vg gs q)(hok:Ek q)(hE:T0 (facts fs) q=0)(hs:q.Sel[p]? = some s)(hno:∀j,j<p→q.Sel[j]?≠some s)(hw:Wd Γ S w) :
  Calls Tryz.prog 23 #[va,.agg #[vs,vg],.string s] w fun e w'=>∃(Γ':C8) (v:Value) (L:List g8),Γ.le Γ'∧e=.returned (.tuple #[v,.int .i64 0])∧RW Γ' v L∧rowsOf L=VW (facts fs) q p∧Wd Γ' S w':=by
 obtain⟨ga,gn,gc,rfl,hgn,hgnc,hgc⟩:=hq.goals.shape;obtain⟨sa,sn,sc,rfl,hsn,hsnc,hsc⟩:=hq.sel.shape;obtain⟨fa,fc,rfl,hfc1,hfc2⟩:=hF.len;have hps:=(List.getElem?_eq_some_iff.1 hs).1
 have hsl:=hok.sel
 refine A7 Tryz.func23 rfl rfl ?_
 repeat first|refine E6 ?_|refine E7 ?_;intro w hw
 refine H2 ?_;intro b4 w hw;have hw:Wd Γ (.blk b4 (.cells #[.slice sa sn sc,.slice ga gn gc] 25)::S) w:=hw
 repeat first|refine E6 ?_|refine E7 ?_;intro w hw
 refine C9 (vs:=[.slice fa fs.length fc,.agg #[.slice sa sn sc,.slice ga gn gc]]) ?_
 refine(VB hF hl hq hok hw).mono ?_
 clear hw;rintro e w ⟨Γ1,v,L,hle1,rfl,hR,hr,hw⟩
 rw[hE];refine⟨_,rfl,?_⟩;have pI:PG Tryz.prog Γ1 76 [.slice sa sn sc,.string s] (.int .i64 p):=Xx (hq.sel.mono hle1) (Or.inr ⟨p,hs,hno,rfl⟩)
 obtain⟨a,n,c,rfl,hn,hnc,hc⟩:=hR.rep.shape;simp only[List.length_map]at hn
 have hrep:=hR.rep
 have hLn:L.length≤1000000:=by
  have:=Ve hE
  rw[←hr]at this;unfold rowsOf at this;rwa [List.length_map]at this
 have hlen:∀x∈L,x.2.length=q.Sel.length:=fun x hx=>WW (by rw[←hr];exact List.mem_map.2 ⟨x,hx,rfl⟩)
 repeat first|refine E6 ?_|refine E7 ?_;intro w hw
 refine A0 rfl (fun h=>by cases h) (fun _=>?_)
 repeat first|refine E6 ?_|refine E7 ?_;intro w hw
 refine A0 rfl (fun h=>absurd (of_decide_eq_true h) (by omega)) (fun _=>?_)
 have hw:=Wd.addNil (a:=none) (E:=70) (sz:=1) hw
 have hw:Wd Γ1 (.own (.slice none 0 0) 70 1 (([]:List g8).map cR)::.blk b4 (.cells #[.slice sa sn sc,.slice ga gn gc] 25)::S) w:=hw
 repeat first|refine E6 ?_|refine E7 ?_;intro w hw
 refine B3 (fun μ ρ w=>∃(k:Nat) (ba:Option Addr) (bn bc:Nat) (B:List g8),μ+k=n∧Has ρ [(4,.pointer (some ⟨b4,0,none⟩)),(10,.int .i64 p),(11,.slice ba bn bc),(30,.slice a n c),(31,.int .i64 n),(32,.int .i64 k)]∧j5 (fun x:g8=>kR p x.2) (fun x=>nR p x.2) (L.take k) B∧(∀x∈B,x∈L)∧B.length≤k∧Wd Γ1 (.own (.slice ba bn bc) 70 1 (B.map cR)::.blk b4 (.cells #[.slice sa sn sc,.slice ga gn gc] 25)::S) w) n ⟨0,none,0,0,[],by omega,⟨rfl,rfl,rfl,rfl,rfl,rfl,trivial⟩,by rw[List.take_zero];exact j5.nil,fun x hx=>(by cases hx),Nat.zero_le _,hw⟩ ?_
 clear hw;rintro μ ρ w ⟨k,ba,bn,bc,B,hk,hρ,hinv,hB,hBk,hw⟩
 rw[hρ.eq];clear hρ;repeat first|refine E6 ?_|refine E7 ?_;intro w hw
 refine A0 rfl (fun h=>?_) (fun h=>?_)
 ·have hkn:k<n:=by have:=of_decide_eq_true h;omega
  clear h;obtain⟨⟨xv,xr⟩,hx⟩:=B2 (l:=L) (k:=k) (by omega)
  have hxm:=List.mem_of_getElem? hx
  have hxo:D7 Γ1 xv 3 (xr.map enc):=hR.ok _ hxm
  have hxl:xr.length=q.Sel.length:=hlen _ hxm
  obtain⟨xa,xn,xc,rfl,hxn,hxnc,hxc⟩:=hxo.shape;rw[List.length_map]at hxn;have hvp:xr[p]? = some (atR p xr):=MJ (by omega)
  have htk:L.take (k+1)=L.take k++[(.slice xa xn xc,xr)]:=by rw[List.take_add_one,hx];rfl
  repeat first|refine E6 ?_|refine E7 ?_;intro w hw
  refine B9 ?_;intro b14 w hw;refine B0 ?_;intro w hw;have hw:Wd Γ1 (.blk b14 (.cells (enc (atR p xr)).toArray 65)::.own (.slice ba bn bc) 70 1 (B.map cR)::.blk b4 (.cells #[.slice sa sn sc,.slice ga gn gc] 25)::S) w:=hw
  have hbn:bn=B.length:=by obtain⟨_,_,_,h1,h2,_⟩:=hw.own_shape (i:=1) rfl;cases h1;simpa using h2
  obtain⟨pa,pn,pc,br,hb⟩:∃(pa:Option Addr) (pn pc:Nat) (br:List Val),0<bn→(B[0]? = some (.slice pa pn pc,br)∧D7 Γ1 (.slice pa pn pc) 3 (br.map enc)∧br.length=q.Sel.length):=by
   cases B with
   | nil=>exact⟨none,0,0,[],fun h=>by rw[hbn]at h;exact absurd h (by decide)⟩
   | cons y B=>
    obtain⟨yv,yr⟩:=y;have hym:=hB (yv,yr) (by simp)
    have hyo:D7 Γ1 yv 3 (yr.map enc):=hR.ok _ hym
    obtain⟨ya,yn,yc,rfl,-,-,-⟩:=hyo.shape;exact⟨ya,yn,yc,yr,fun _=>⟨rfl,hyo,hlen _ hym⟩⟩
  have hbI:decide ((0:Int)<(bn:Int))=true→0<bn:=fun h=>by have:=of_decide_eq_true h;omega
  have hbl:0<bn→pn=q.Sel.length:=fun h=>by
   obtain⟨-,h2,h3⟩:=hb h
   obtain⟨_,_,_,e1,e2,-,-⟩:=h2.shape;cases e1
   rw[List.length_map]at e2;omega
  repeat first|refine E6 ?_|refine E7 ?_;intro w hw
  refine A0 rfl (fun h=>?_) (fun h=>?_)
  ·have hk0:kR p xr=false:=by
    have h:decide ((atR p xr).Kind≠1)=true:=h
    unfold kR;rw[decide_eq_false_iff_not];exact of_decide_eq_true h
   repeat first|refine E6 ?_|refine E7 ?_;intro w hw
   exact⟨μ-1,by omega,k+1,ba,bn,bc,B,by omega,⟨rfl,rfl,rfl,rfl,rfl,rfl,trivial⟩,by rw[htk];exact hinv.skip hk0,hB,by omega,hw.drop⟩
  have hk0:kR p xr=true:=by
   have h:decide ((atR p xr).Kind≠1)=false:=h
   unfold kR;rw[decide_eq_true_eq];exact Classical.not_not.1 (of_decide_eq_false h)
  clear h;repeat first|refine E6 ?_|refine E7 ?_;intro w hw
  refine G9 (by kernel_rfl) (by kernel_rfl) hw ?_
  refine X3 ?_;refine qG ?_ (hy:=by intro hc w hw;exact G6 (k:=0) (u:=.slice pa pn pc) B4 (Wd.own_rd (i:=1) hw rfl) (B8 (hb (hbI hc)).1))
  refine X3 ?_;refine qG ?_ (hy:=by intro hc w hw;exact AF ((hb (hbI hc)).2.1.rd hw) B4 B4 M5 (by have:=hbl (hbI hc);omega) (by have:=hbl (hbI hc);have:=(hb (hbI hc)).2.2;rw[List.length_map];omega))
  refine X3 ?_;refine qG ?_ (hy:=by intro hc w hw;exact J9 (k:=p) (f:=1) (u:=.int .i64 (nR p br)) B4 ((hb (hbI hc)).2.1.rd hw) (B8 (MJ (by have:=(hb (hbI hc)).2.2;omega))) rfl)
  refine X3 ?_;clear hw;intro w hw;refine A0 rfl (fun h=>?_) (fun h=>?_)
  ·have h:decide ((0:Int)<(bn:Int))=true∧nR p xr<nR p br:=by
    have h:(decide ((0:Int)<(bn:Int))&&decide (nR p xr<nR p br))=true:=h
    rw[Bool.and_eq_true,decide_eq_true_eq (p:=nR p xr<nR p br)]at h;exact h
   obtain⟨hb1,-,-⟩:=hb (hbI h.1)
   obtain⟨bs,rfl⟩:∃bs,B=(.slice pa pn pc,br)::bs:=by
    cases B with
    | nil=>cases hb1
    | cons y bs=>exact⟨bs,by rw[show y=_ from Option.some.inj hb1]⟩
   have hw:=Wd.addNil (a:=none) (E:=70) (sz:=1) (hw.dropAt 1)
   have hw:Wd Γ1 (.blk b14 (.cells (enc (atR p xr)).toArray 65)::.own (.slice none 0 0) 70 1 (([]:List g8).map cR)::.blk b4 (.cells #[.slice sa sn sc,.slice ga gn gc] 25)::S) w:=hw.ps [1]
   have hno0:∀x∈([]:List g8),x∈L:=fun x hx=>by cases hx
   repeat first|refine E6 ?_|refine E7 ?_;intro w hw
   refine B5 [[.slice xa xn xc]] ?_
   intro q2 w hw;refine T3 (i:=2) (rows2:=[[.slice xa xn xc]]) ?_ (Wd.own_rd (i:=0) hw rfl)
   intro vt w hw;obtain⟨za,zn,zc,rfl,-,-,-⟩:=hw.own_shape (i:=2) rfl
   have hw:Wd Γ1 (.own (.slice (some q2) 1 1) 70 1 [[.slice xa xn xc]]::.blk b14 (.cells (enc (atR p xr)).toArray 65)::.own (.slice za zn zc) 70 1 ((([]:List g8)++[((.slice xa xn xc,xr):g8)]).map cR)::.blk b4 (.cells #[.slice sa sn sc,.slice ga gn gc] 25)::S) w:=by rw[List.map_append];exact hw
   repeat first|refine E6 ?_|refine E7 ?_;intro w hw
   exact⟨μ-1,by omega,k+1,za,zn,zc,([]:List g8)++[((.slice xa xn xc,xr):g8)],by omega,⟨rfl,rfl,rfl,rfl,rfl,rfl,trivial⟩,by rw[htk];exact hinv.less hk0 h.2,fun x hx=>(List.mem_append.1 hx).elim (hno0 x) fun e=>by rw[List.mem_singleton.1 e];exact hxm,by rw[List.length_append];show _+1≤k+1;first|omega|simp,hw.ds [0,0]⟩
  have hnl:0<bn→nR p br≤nR p xr:=fun h0=>by
   have h:(decide ((0:Int)<(bn:Int))&&decide (nR p xr<nR p br))=false:=h
   rw[decide_eq_true (by omega:(0:Int)<(bn:Int)),Bool.true_and,decide_eq_false_iff_not]at h
   omega
  clear h;repeat first|refine E6 ?_|refine E7 ?_;intro w hw
  refine G9 (by kernel_rfl) (by kernel_rfl) hw ?_
  refine X3 ?_;refine qG ?_ (hy:=by intro hc w hw;exact G6 (k:=0) (u:=.slice pa pn pc) B4 (Wd.own_rd (i:=1) hw rfl) (B8 (hb (hbI hc)).1))
  refine X3 ?_;refine qG ?_ (hy:=by intro hc w hw;exact AF ((hb (hbI hc)).2.1.rd hw) B4 B4 M5 (by have:=hbl (hbI hc);omega) (by have:=hbl (hbI hc);have:=(hb (hbI hc)).2.2;rw[List.length_map];omega))
  refine X3 ?_;refine qG ?_ (hy:=by intro hc w hw;exact J9 (k:=p) (f:=1) (u:=.int .i64 (nR p br)) B4 ((hb (hbI hc)).2.1.rd hw) (B8 (MJ (by have:=(hb (hbI hc)).2.2;omega))) rfl)
  refine X3 ?_;clear hw;intro w hw;refine A0 rfl (fun h=>?_) (fun h=>?_)
  ·have h:decide ((0:Int)<(bn:Int))=true∧nR p br<nR p xr:=by
    have h:(decide ((0:Int)<(bn:Int))&&decide (nR p br<nR p xr))=true:=h
    rw[Bool.and_eq_true,decide_eq_true_eq (p:=nR p br<nR p xr)]at h;exact h
   obtain⟨hb1,-,-⟩:=hb (hbI h.1)
   obtain⟨bs,rfl⟩:∃bs,B=(.slice pa pn pc,br)::bs:=by
    cases B with
    | nil=>cases hb1
    | cons y bs=>exact⟨bs,by rw[show y=_ from Option.some.inj hb1]⟩
   repeat first|refine E6 ?_|refine E7 ?_;intro w hw
   exact⟨μ-1,by omega,k+1,ba,bn,bc,_,by omega,⟨rfl,rfl,rfl,rfl,rfl,rfl,trivial⟩,by rw[htk];exact hinv.more h.2,hB,by omega,hw.drop⟩
  have hng:0<bn→nR p xr≤nR p br:=fun h0=>by
   have h:(decide ((0:Int)<(bn:Int))&&decide (nR p br<nR p xr))=false:=h
   rw[decide_eq_true (by omega:(0:Int)<(bn:Int)),Bool.true_and,decide_eq_false_iff_not]at h
   omega
  clear h;have hinv2:j5 (fun x:g8=>kR p x.2) (fun x=>nR p x.2) (L.take k++[(.slice xa xn xc,xr)]) (B++[((.slice xa xn xc,xr):g8)]):=by
   cases B with
   | nil=>exact hinv.first hk0
   | cons y bs=>
    have h0:0<bn:=by rw[hbn];simp
    obtain⟨hb1,-,-⟩:=hb h0
    have hy:y=(.slice pa pn pc,br):=Option.some.inj hb1
    subst hy;have h1:=hnl h0
    have h2:=hng h0
    exact hinv.same hk0 (by show nR p xr=nR p br;omega)
  repeat first|refine E6 ?_|refine E7 ?_;intro w hw
  refine B5 [[.slice xa xn xc]] ?_
  intro q2 w hw;refine T3 (i:=2) (rows2:=[[.slice xa xn xc]]) ?_ (Wd.own_rd (i:=0) hw rfl)
  intro vt w hw;obtain⟨za,zn,zc,rfl,-,-,-⟩:=hw.own_shape (i:=2) rfl
  have hw:Wd Γ1 (.own (.slice (some q2) 1 1) 70 1 [[.slice xa xn xc]]::.blk b14 (.cells (enc (atR p xr)).toArray 65)::.own (.slice za zn zc) 70 1 ((B++[((.slice xa xn xc,xr):g8)]).map cR)::.blk b4 (.cells #[.slice sa sn sc,.slice ga gn gc] 25)::S) w:=by rw[List.map_append];exact hw
  repeat first|refine E6 ?_|refine E7 ?_;intro w hw
  exact⟨μ-1,by omega,k+1,za,zn,zc,B++[((.slice xa xn xc,xr):g8)],by omega,⟨rfl,rfl,rfl,rfl,rfl,rfl,trivial⟩,by rw[htk];exact hinv2,fun x hx=>(List.mem_append.1 hx).elim (hB x) fun e=>by rw[List.mem_singleton.1 e];exact hxm,by rw[List.length_append];show _+1≤k+1;first|omega|simp,hw.ds [0,0]⟩
 ·have hkn:n≤k:=by have:=of_decide_eq_false h;omega
  clear h;rw[List.take_of_length_le (by omega)]at hinv
  repeat first|refine E6 ?_|refine E7 ?_;intro w hw
  obtain⟨Γ2,hle2,hrp,hw⟩:=hw.freeze;refine⟨_,rfl,Γ2,_,B,hle1.trans hle2,rfl,⟨hrp,fun x hx=>D7.mono (hR.ok x (hB x hx)) hle2⟩,?_,hw.drop⟩
  unfold VW rowsOf;rw[←hr];have:=hinv.final
  rw[this];unfold rowsOf;rw[List.filter_map];congr 1
  refine List.filter_congr fun x _=>?_
  show Hu _ _ L x=Hu (kR p) (nR p) (L.map (·.2)) x.2
  unfold Hu;rw[List.all_map];rfl
end Go.Proofs.YtlmiakjbogojgaaGreatDoor
end
section
open Go Mk
namespace Go.Proofs.YtlmiakjbogojgaaGreatDoor
set_option maxHeartbeats 16000000
attribute [local irreducible] Calls cI cB I6 T0 U1 I7 BC
end Go.Proofs.YtlmiakjbogojgaaGreatDoor
end
section
open Go Mk
namespace Go.Proofs.YtlmiakjbogojgaaGreatDoor
set_option maxHeartbeats 16000000
def iF(i:Int):Val:=⟨1,i,⟨#[]⟩⟩
def wF(s:ByteArray):Val:=⟨2,0,s⟩
def sF(n:Int):Val:=⟨1,IntKind.i64.wrap n,⟨#[]⟩⟩
def Ab:ByteArray:=⟨#[109,97,99,104,105,110,101]⟩
def V7:ByteArray:=⟨#[115,104,97,114,101,115]⟩
def TP(c:F0):F3:=(x8,[iF c.ID,iF c.Width,iF c.Node,iF c.Speed])
def Mb(c:R5):F3:=(o9,[wF c.Name,iF c.Level,sF c.Size,iF c.Line])
def SF(c:R5)(i:Int):F3:=(V7,[wF c.Name,iF i])
def Pb(l:E9):F3:=(CE,[iF (if l.B<l.A then l.B else l.A),iF (if l.A<l.B then l.B else l.A),iF l.Latency])
def IP(m:I3):F3:=(K4,[wF m.Name,sF m.Base,sF m.Size,iF m.Node,iF m.Latency])
def aX(d:AA):F3:=(o7,[wF d.Name,iF d.Node,iF d.IRQ,sF d.Base,sF d.Size])
def I2(c:R5):List F3:=Mb c::c.Cores.map (SF c)
def QG(H:J6):List F3:=[(Ab,[wF H.Name])]
def FO(H:J6):List F3:=QG H++H.Cores.map TP
def GM(H:J6):List F3:=FO H++H.Caches.flatMap I2
def HC(H:J6):List F3:=GM H++H.Links.map Pb
def Fs(H:J6):List F3:=HC H++H.Mems.map IP
def G1(H:J6):List F3:=Fs H++H.Devs.map aX
theorem IB{α β:Type}{g:α→List β}{l:List α}(k:Nat):((l.take k).flatMap g).length≤(l.flatMap g).length:=by
 have h:(l.flatMap g).length=((l.take k++l.drop k).flatMap g).length:=by rw[List.take_append_drop]
 rw[List.flatMap_append,List.length_append]at h;omega
attribute [local irreducible] Calls I7 D8
end Go.Proofs.YtlmiakjbogojgaaGreatDoor
end
section
open Go Mk
namespace Go.Proofs.YtlmiakjbogojgaaGreatDoor
set_option maxHeartbeats 8000000
attribute [local irreducible] Calls
section
variable {P:Program}{n:Nat}{ops:List Oper}{Γ:C8}{K:List B6}{wr tc stab:List (List Nat)}{Q:Fr→World→Prop}{i:Nat}{rest:List Oper}{ρ:Fr}{M:Nat→Fr→List B6}{T ty:TypeId}{pos:String}{es:Array Edge}{x:Operand}
end
theorem Xy{α:Type}{R:α→α→Prop}:∀ {l:List α},l.Pairwise R↔∀(i k:Nat) (a b:α),k<i→l[i]? = some a→l[k]? = some b→R b a
 | []=>by simp
 | x::l=>by
  rw[List.pairwise_cons,Xy];constructor
  ·rintro⟨h1,h2⟩ i k a b hki ha hb
   cases i with
   | zero=>omega
   | succ i=>
    simp at ha
    cases k with
    | zero=>simp at hb;subst hb;exact h1 a (List.mem_of_getElem? ha)
    | succ k=>simp at hb;exact h2 i k a b (by omega) ha hb
  ·intro h;refine⟨fun a ha=>?_,fun i k a b hki ha hb=>h (i+1) (k+1) a b (by omega) (by simpa using ha) (by simpa using hb)⟩
   obtain⟨i,hi,he⟩:=T7 ha
   exact h (i+1) 0 a x (by omega) (by simpa using he) rfl
theorem cM{H:J6}:dN H↔(Ff H).Pairwise fun b a=>q9 a b=true:=by
 rw[Xy];exact Iff.rfl
structure V4(H:J6):Prop where
 n:t6 H=true
 c:S6 H=true
 r:K3 H=true
 g:H4 H=true
 a:o5 H=true
 u:T6 H=true
 k:Ad H=true
 h:JF H=true
 d:KA H=true
 o:GR H=true
theorem Br{H:J6}:D8 H=0↔V4 H:=by
 constructor
 ·intro h;unfold D8 at h;repeat' split at h
  all_goals first|(exact absurd h (by decide))|skip
  rename_i h1 h2 h3 h4 h5 h6 h7 h8 h9
  simp only[Bool.not_eq_false,Bool.and_eq_true]at h1 h2 h3 h4 h5 h6 h7 h8 h9
  exact⟨h1,h2,h3.1,h3.2,h4,h5,h6,h7,h8,h9⟩
 ·rintro⟨h1,h2,h3,h4,h5,h6,h7,h8,h9,h10⟩;simp[D8,h1,h2,h3,h4,h5,h6,h7,h8,h9,h10]
end Go.Proofs.YtlmiakjbogojgaaGreatDoor
end
section
open Go Mk
namespace Go.Proofs.YtlmiakjbogojgaaGreatDoor
set_option maxHeartbeats 4000000
theorem NK{H:J6}(v:V4 H){c:F0}(hc:c∈H.Cores):(0≤c.ID∧c.ID<32)∧(c.Width=32∨c.Width=39)∧(1≤c.Speed∧c.Speed≤1000000)∧0≤c.Node∧c.Node<64:=by
 have h:=v.r
 unfold K3 at h;simp only[Bool.and_eq_true,List.all_eq_true]at h
 have h:=h.1 c hc
 unfold BB J3 at h;simp only[Bool.and_eq_true,Bool.or_eq_true,decide_eq_true_eq]at h
 omega
theorem OF{H:J6}(v:V4 H){c:R5}(hc:c∈H.Caches):(1≤c.Level∧c.Level≤4)∧(16≤c.Line∧c.Line≤256)∧c.Cores.Nodup∧∀i∈c.Cores,i∈H.Cores.map (·.ID):=by
 have h:=v.r
 unfold K3 at h;simp only[Bool.and_eq_true,List.all_eq_true]at h
 have h:=h.2.1 c hc
 unfold BS at h;simp only[Bool.and_eq_true,decide_eq_true_eq]at h
 have h5:=v.u
 unfold T6 at h5;simp only[Bool.and_eq_true,List.all_eq_true,decide_eq_true_eq]at h5
 have h6:=v.k
 unfold Ad at h6;rw[List.all_eq_true]at h6;have h6:=h6 c hc
 rw[List.all_eq_true]at h6;refine⟨by omega,by omega,h5.1 c hc,fun i hi=>?_⟩
 have:=h6 i hi
 rw[List.any_eq_true]at this;obtain⟨x,hx,he⟩:=this;exact List.mem_map.2 ⟨x,hx,of_decide_eq_true he⟩
theorem be{H:J6}(v:V4 H){l:E9}(hl:l∈H.Links):(0≤l.A∧l.A<64)∧(0≤l.B∧l.B<64)∧1≤l.Latency∧l.Latency≤1000000:=by
 have h:=v.r
 unfold K3 at h;simp only[Bool.and_eq_true,List.all_eq_true]at h
 have h:=h.2.2 l hl
 unfold w3 J3 u7 at h;simp only[Bool.and_eq_true,decide_eq_true_eq]at h
 omega
theorem dY{H:J6}(v:V4 H){m:I3}(hm:m∈H.Mems):(0≤m.Node∧m.Node<64)∧1≤m.Latency∧m.Latency≤1000000:=by
 have h:=v.g
 unfold H4 at h;simp only[Bool.and_eq_true,List.all_eq_true]at h
 have h:=h.1 m hm
 unfold CR J3 u7 at h;simp only[Bool.and_eq_true,decide_eq_true_eq]at h
 omega
theorem eG{H:J6}(v:V4 H){d:AA}(hd:d∈H.Devs):(0≤d.Node∧d.Node<64)∧0≤d.IRQ∧d.IRQ<256:=by
 have h:=v.g
 unfold H4 at h;simp only[Bool.and_eq_true,List.all_eq_true]at h
 have h:=h.2 d hd
 unfold FA J3 at h;simp only[Bool.and_eq_true,decide_eq_true_eq]at h
 omega
theorem VH{H:J6}(v:V4 H){c:R5}(hc:c∈H.Caches):c.Cores.length≤32:=by
 obtain⟨-,-,h1,h2⟩:=OF v hc
 have h3:=(w5 v.c).2.1
 have:=Go.Proofs.YtlmiakjbogojgaaGreatDoor.nodup_le _ _ h1 h2
 rw[List.length_map]at this;omega
theorem MN{α β:Type}{f:α→List β}{m:Nat}:∀ {l:List α},(∀x∈l,(f x).length≤m)→(l.flatMap f).length≤l.length*m
 | [],_=>by simp
 | x::l,h=>by
  rw[List.flatMap_cons,List.length_append,List.length_cons,Nat.succ_mul];have h1:=h x (by simp)
  have h2:=MN (f:=f) (m:=m) (l:=l) fun y hy=>h y (by simp[hy])
  omega
theorem Rh{H:J6}(v:V4 H):(G1 H).length≤2497:=by
 obtain⟨-,h1,h2,h3,h4,h5⟩:=w5 v.c
 have h6:(H.Caches.flatMap I2).length≤H.Caches.length*33:=MN fun c hc=>by
  have:=VH v hc
  unfold I2;simp
  omega
 simp only[G1,Fs,HC,GM,FO,QG,List.length_append,List.length_map,List.length_singleton]
 omega
theorem ZX{H:J6}(v:V4 H):H.Name.size≤24∧(∀c∈H.Caches,c.Name.size≤24)∧(∀c∈H.Mems,c.Name.size≤24)∧∀c∈H.Devs,c.Name.size≤24:=by
 have h:=v.n
 unfold t6 AL at h;simp only[Bool.and_eq_true,List.all_eq_true,decide_eq_true_eq]at h
 have k:∀ {s:ByteArray},F8 s=true→s.size≤24:=fun {s} h=>by
  unfold F8 at h;simp only[Bool.and_eq_true,decide_eq_true_eq]at h
  exact h.2
 exact⟨h.1.1.1.1.2,fun c hc=>k (h.1.1.2 c hc),fun c hc=>k (h.1.2 c hc),fun c hc=>k (h.2 c hc)⟩
theorem AK{i:Int}(h:-9223372036854775808≤i∧i≤9223372036854775807):j8 (iF i):=⟨h,by show (⟨#[]⟩:ByteArray).size≤9223372036854775807;decide⟩
theorem OR(i:Int):j8 (sF i):=AK (by simp[IntKind.wrap,IntKind.bits,IntKind.signed];omega)
theorem Oa{s:ByteArray}(h:s.size≤24):j8 (wF s):=⟨by show (-9223372036854775808:Int)≤0∧(0:Int)≤9223372036854775807;decide,by show s.size≤9223372036854775807;omega⟩
theorem dI{H:J6}(v:V4 H):∀f∈G1 H,DC f:=by
 obtain⟨n0,n1,n2,n3⟩:=ZX v
 intro f h;simp only[G1,Fs,HC,GM,FO,QG,List.mem_append,List.mem_map,List.mem_flatMap,List.mem_singleton]at h
 have key:∀ {r:ByteArray} {l:List Val},r.size≤100000→l.length≤100000→(∀v∈l,j8 v)→DC (r,l):=fun a b c=>⟨b,a,c⟩
 rcases h with ((((h|⟨c,hc,h⟩)|⟨c,hc,h⟩)|⟨c,hc,h⟩)|⟨c,hc,h⟩)|⟨c,hc,h⟩
 ·rw[h];exact key (by decide) (by show 1≤100000;decide) fun x hx=>by rw[List.mem_singleton.1 hx];exact Oa n0
 ·obtain⟨a1,a2,a3,a4⟩:=NK v hc
  rw[←h];refine key (by decide) (by show 4≤100000;decide) fun x hx=>?_
  simp only[List.mem_cons,List.not_mem_nil,or_false]at hx
  rcases hx with rfl|rfl|rfl|rfl <;> exact AK (by omega)
 ·obtain⟨a1,a2,a3,a4⟩:=OF v hc
  unfold I2 at h;rcases List.mem_cons.1 h with h|h
  ·rw[h];refine key (by decide) (by show 4≤100000;decide) fun x hx=>?_
   simp only[List.mem_cons,List.not_mem_nil,or_false]at hx
   rcases hx with rfl|rfl|rfl|rfl
   ·exact Oa (n1 c hc)
   ·exact AK (by omega)
   ·exact OR _
   ·exact AK (by omega)
  ·obtain⟨i,hi,rfl⟩:=List.mem_map.1 h
   obtain⟨x,hx,he⟩:=List.mem_map.1 (a4 i hi)
   have:=(NK v hx).1
   refine key (by decide) (by show 2≤100000;decide) fun y hy=>?_
   simp only[List.mem_cons,List.not_mem_nil,or_false]at hy
   rcases hy with rfl|rfl
   ·exact Oa (n1 c hc)
   ·exact AK (by omega)
 ·obtain⟨a1,a2,a3⟩:=be v hc
  rw[←h];refine key (by decide) (by show 3≤100000;decide) fun x hx=>?_
  simp only[List.mem_cons,List.not_mem_nil,or_false]at hx
  rcases hx with rfl|rfl|rfl
  ·exact AK (by split <;> omega)
  ·exact AK (by split <;> omega)
  ·exact AK (by omega)
 ·obtain⟨a1,a2⟩:=dY v hc
  rw[←h];refine key (by decide) (by show 5≤100000;decide) fun x hx=>?_
  simp only[List.mem_cons,List.not_mem_nil,or_false]at hx
  rcases hx with rfl|rfl|rfl|rfl|rfl
  ·exact Oa (n2 c hc)
  ·exact OR _
  ·exact OR _
  ·exact AK (by omega)
  ·exact AK (by omega)
 ·obtain⟨a1,a2⟩:=eG v hc
  rw[←h];refine key (by decide) (by show 5≤100000;decide) fun x hx=>?_
  simp only[List.mem_cons,List.not_mem_nil,or_false]at hx
  rcases hx with rfl|rfl|rfl|rfl|rfl
  ·exact Oa (n3 c hc)
  ·exact AK (by omega)
  ·exact AK (by omega)
  ·exact OR _
  ·exact OR _
def Zb:ByteArray:=⟨#[67]⟩
def ZY:ByteArray:=⟨#[87]⟩
def Ol(n:Int):H3:=⟨1,x8,[⟨Zb,P5⟩,⟨ZY,P5⟩,⟨F1,iF n⟩,⟨I8,P5⟩],0,Ay,Ay,0,0,0⟩
def PT(w:Int):H3:=⟨3,F1,[],1,⟨ZY,P5⟩,⟨F1,iF w⟩,0,0,0⟩
def Vt(n w:Int):F7:=⟨[Zb],[Ol n,PT w]⟩
theorem Gp(i:Int):L0 (iF i)=true:=by simp[L0,iF]
theorem aK{n w:Int}:IL (Vt n w)=[Zb,Zb,ZY,F1,I8,ZY,F1]:=rfl
theorem Lq{n w:Int}:AC (Vt n w)=[Zb,ZY]:=by
 unfold AC;rw[aK];decide +kernel
theorem fo{n w:Int}:BC (Vt n w)=0:=by
 have h1:An (Vt n w)=true:=by
  unfold An;rw[Lq];rfl
 have h2:x5 (Vt n w)=true:=by
  have e1:O7 (Ol n)=true:=by
   simp[O7,Ol,Ay]
  have e2:O7 (PT w)=true:=by simp[O7,PT]
  show (O7 (Ol n)&&(J5 (Ol n)).all plainO&&(O7 (PT w)&&(J5 (PT w)).all plainO&&true))=true
  rw[e1,e2];simp[J5,Ol,PT,plainO]
 have h3:U5 (Vt n w)=true:=by
  have c1:Y3 Zb=true:=by decide +kernel
  have c2:Y3 ZY=true:=by decide +kernel
  have c3:F8 x8=true:=by decide +kernel
  have c4:KW x8=false:=by decide +kernel
  have c5:Zb≠F1:=by decide +kernel
  have c6:ZY≠F1:=by decide +kernel
  have c7:Zb≠I8:=by decide +kernel
  have c8:ZY≠I8:=by decide +kernel
  have c9:I8≠F1:=by decide +kernel
  have c10:F1≠I8:=by decide +kernel
  simp[U5,Vt,DW,Ol,PT,J5,Gg,H8,Gp,c1,c2,c3,c4,c5,c6,c7,c8,c9,c10]
 have h4:CO (Vt n w)=true:=by simp[CO,Vt,Ol,PT,Cz]
 have h5:(Vt n w).Sel.Nodup:=by simp[Vt]
 have h6:Ak (Vt n w)=true:=by
  unfold Ak;rw[Lq];show ([Zb,ZY].all fun s=>BF ([Zb,ZY,F1,I8]) s)=true
  decide +kernel
 simp[BC,h1,h2,h3,h4,h5,h6]
theorem Sc{db:List F3}{q:F7}:L3 (O4 db) q=L3 db q:=by
 unfold L3;refine List.map_congr_left fun g _=>?_
 rw[Ns]
set_option maxHeartbeats 32000000
attribute [local irreducible] Calls
attribute [local irreducible] E4
def y4(i k:Int):Mx:=fun a b=>if a<i then (if a=b then 0 else -1) else if a=i∧b<k then -1 else 0
theorem PH{H:J6}(h:D8 H=0){l:E9}(hl:l∈H.Links):l.A≠l.B:=by
 obtain⟨-,h2,h3,-⟩:=S9 h
 unfold K3 at h3;simp only[Bool.and_eq_true]at h3
 have:=List.all_eq_true.1 h3.1.2.2 l hl
 unfold w3 at this;simp only[Bool.and_eq_true,decide_eq_true_eq]at this
 exact this.1.2
theorem VX{i k:Int}:E4 (Y8 (y4 i k) i k (-1))=E4 (y4 i (k+1)):=Q2 fun a b _ _=>by
 unfold Y8 y4;by_cases e:a=i∧b=k
 ·rw[if_pos e,if_neg (by omega),if_pos (by omega)]
 ·rw[if_neg e];by_cases e1:a<i
  ·rw[if_pos e1,if_pos e1]
  ·rw[if_neg e1,if_neg e1];by_cases e2:a=i∧b<k
   ·rw[if_pos e2,if_pos (by omega)]
   ·rw[if_neg e2,if_neg (by omega)]
theorem Qh{i:Int}:E4 (Y8 (y4 i 64) i i 0)=E4 (y4 (i+1) 0):=Q2 fun a b ha hb=>by
 unfold V3 at ha hb;unfold Y8 y4;by_cases e:a=i∧b=i
 ·rw[if_pos e,if_pos (show a<i+1 by omega),if_pos (show a=b by omega)]
 ·rw[if_neg e];by_cases e1:a<i
  ·rw[if_pos e1,if_pos (show a<i+1 by omega)]
  ·rw[if_neg e1];by_cases e2:a=i
   ·rw[if_pos (show a=i∧b<64 by omega),if_pos (show a<i+1 by omega),if_neg (show ¬a=b by omega)]
   ·rw[if_neg (show ¬(a=i∧b<64) by omega),if_neg (show ¬a<i+1 by omega),if_neg (show ¬(a=i+1∧b<0) by omega)]
theorem Hk:E4 (fun _ _=>0)=E4 (y4 0 0):=Q2 fun a b ha hb=>by
 unfold V3 at ha hb;unfold y4;rw[if_neg (by omega),if_neg (by omega)]
theorem VL:E4 (y4 64 0)=E4 (N9 []):=Q2 fun a b ha hb=>by
 unfold V3 at ha hb;unfold y4 N9;rw[if_pos (by omega)];rfl
noncomputable def Ml(H:J6):Mx:=fun a b=>S2 (G0 H.Links) a b
set_option maxRecDepth 8000 in
theorem SS{Γ:C8}{u:Value}{H:J6}[hh:FG Γ u H](hv:D8 H=0){S:List B6}{w:World}(hw:Wd Γ S w) :
  Calls Tryz.prog 18 #[u] w fun e w'=>e=.returned (.agg (E4 (Ml H)).toArray)∧Wd Γ S w':=by
 obtain⟨a1,n1,c1,a2,n2,c2,a3,n3,c3,a4,n4,c4,a5,n5,c5,cs,rfl,hcs,hok,hsz,r1,r2,r3,r4,r5⟩:=hh.h;obtain⟨hn3,hm3,hx3⟩:=C0 r3
 simp only[List.length_map]at hn3
 have hLk:=W4 hv
 have hLM:DR H.Links (N9 H.Links):=KM _ rfl (fun l hl=>⟨PH hv hl,(MS hLk l hl).1⟩) (JD hv)
 refine I4 Tryz.func18 rfl rfl ?_
 refine A6 ?_;refine H2 ?_;intro b1 w hw;refine B9 ?_;intro b2 w hw;rw[Gz]at hw;have hw:Wd Γ (.blk b2 (.cells (E4 (fun _ _=>0)).toArray 54)::.blk b1 (J2 H a1 n1 c1 a2 n2 c2 a3 n3 c3 a4 n4 c4 a5 n5 c5)::S) w:=hw
 refine A6 ?_;refine B9 ?_;intro b3 w hw;rw[Gz]at hw;have hw:Wd Γ (.blk b3 (.cells (E4 (fun _ _=>0)).toArray 54)::.blk b2 (.cells (E4 (fun _ _=>0)).toArray 54)::.blk b1 (J2 H a1 n1 c1 a2 n2 c2 a3 n3 c3 a4 n4 c4 a5 n5 c5)::S) w:=hw
 rw[Hk]at hw;refine A6 ?_;have hBW:Wd Γ (.blk b3 (.cells (E4 (y4 0 0)).toArray 54)::.blk b2 (.cells (E4 (fun _ _=>0)).toArray 54)::.blk b1 (J2 H a1 n1 c1 a2 n2 c2 a3 n3 c3 a4 n4 c4 a5 n5 c5)::S) w:=by rw[Hk];exact hw
 clear hw;refine B3 (fun μ ρ w=>∃i:Nat,μ+i=64∧Has ρ [(1,.pointer (some ⟨b1,0,none⟩)),(2,.pointer (some ⟨b2,0,none⟩)),(3,.pointer (some ⟨b3,0,none⟩)),(4,.int .i64 i)]∧Wd Γ (.blk b3 (.cells (E4 (y4 i 0)).toArray 54)::.blk b2 (.cells (E4 (fun _ _=>0)).toArray 54)::.blk b1 (J2 H a1 n1 c1 a2 n2 c2 a3 n3 c3 a4 n4 c4 a5 n5 c5)::S) w) 64 ⟨0,by omega,⟨rfl,rfl,rfl,rfl,trivial⟩,hBW⟩ ?_
 clear hBW;rintro μ ρ w ⟨i,hi,hρ,hw⟩
 rw[hρ.eq];clear hρ;refine A6 ?_;refine A0 rfl (fun h=>?_) (fun h=>?_)
 ·have hin:i<64:=by have:=of_decide_eq_true h;omega
  clear h;have hiI:V3 (i:Int):=by unfold V3;omega
  refine A6 ?_;refine B3 (fun μ2 ρ w=>∃k:Nat,μ2+k=64∧Has ρ [(1,.pointer (some ⟨b1,0,none⟩)),(2,.pointer (some ⟨b2,0,none⟩)),(3,.pointer (some ⟨b3,0,none⟩)),(4,.int .i64 i),(5,.int .i64 k)]∧Wd Γ (.blk b3 (.cells (E4 (y4 i k)).toArray 54)::.blk b2 (.cells (E4 (fun _ _=>0)).toArray 54)::.blk b1 (J2 H a1 n1 c1 a2 n2 c2 a3 n3 c3 a4 n4 c4 a5 n5 c5)::S) w) 64 ⟨0,by omega,⟨rfl,rfl,rfl,rfl,rfl,trivial⟩,hw⟩ ?_
  clear hw;rintro μ2 ρ w ⟨k,hk,hρ,hw⟩
  rw[hρ.eq];clear hρ;refine A6 ?_;refine A0 rfl (fun h=>?_) (fun h=>?_)
  ·have hkn:k<64:=by have:=of_decide_eq_true h;omega
   clear h;have hkI:V3 (k:Int):=by unfold V3;omega
   refine A6 ?_;refine B0 (i:=0) (o:=0+(i:Int).toNat*64+(k:Int).toNat*1) (ho:=by rw[List.size_toArray,L1];omega) ?_
   intro w hw;have hw:Wd Γ (.blk b3 (.cells (putCells (E4 (y4 i k)).toArray (0+(i:Int).toNat*64+(k:Int).toNat*1) [.int .i64 (-1)]) 54)::.blk b2 (.cells (E4 (fun _ _=>0)).toArray 54)::.blk b1 (J2 H a1 n1 c1 a2 n2 c2 a3 n3 c3 a4 n4 c4 a5 n5 c5)::S) w:=hw
   rw[Ka _ hiI hkI,VX]at hw;refine A6 ?_;exact⟨μ2-1,by omega,k+1,by omega,⟨rfl,rfl,rfl,rfl,rfl,trivial⟩,hw⟩
  ·have hkn:k=64:=by have:=of_decide_eq_false h;omega
   subst hkn;clear h;have hw:Wd Γ (.blk b3 (.cells (E4 (y4 i 64)).toArray 54)::.blk b2 (.cells (E4 (fun _ _=>0)).toArray 54)::.blk b1 (J2 H a1 n1 c1 a2 n2 c2 a3 n3 c3 a4 n4 c4 a5 n5 c5)::S) w:=hw
   refine A6 ?_;refine B0 (i:=0) (o:=0+(i:Int).toNat*64+(i:Int).toNat*1) (ho:=by rw[List.size_toArray,L1];omega) ?_
   intro w hw;have hw:Wd Γ (.blk b3 (.cells (putCells (E4 (y4 i 64)).toArray (0+(i:Int).toNat*64+(i:Int).toNat*1) [.int .i64 0]) 54)::.blk b2 (.cells (E4 (fun _ _=>0)).toArray 54)::.blk b1 (J2 H a1 n1 c1 a2 n2 c2 a3 n3 c3 a4 n4 c4 a5 n5 c5)::S) w:=hw
   rw[Ka _ hiI hiI,Qh]at hw;refine A6 ?_;exact⟨μ-1,by omega,i+1,by omega,⟨rfl,rfl,rfl,rfl,trivial⟩,hw⟩
 have hin:i=64:=by have:=of_decide_eq_false h;omega
 subst hin;clear h hi;have hw:Wd Γ (.blk b3 (.cells (E4 (y4 64 0)).toArray 54)::.blk b2 (.cells (E4 (fun _ _=>0)).toArray 54)::.blk b1 (J2 H a1 n1 c1 a2 n2 c2 a3 n3 c3 a4 n4 c4 a5 n5 c5)::S) w:=hw
 rw[VL,show ([]:List E9)=H.Links.take 0 from rfl]at hw
 refine A6 ?_;refine B3 (fun μ ρ w=>∃k:Nat,μ+k=n3∧Has ρ [(1,.pointer (some ⟨b1,0,none⟩)),(2,.pointer (some ⟨b2,0,none⟩)),(3,.pointer (some ⟨b3,0,none⟩)),(6,.int .i64 k)]∧Wd Γ (.blk b3 (.cells (E4 (N9 (H.Links.take k))).toArray 54)::.blk b2 (.cells (E4 (fun _ _=>0)).toArray 54)::.blk b1 (J2 H a1 n1 c1 a2 n2 c2 a3 n3 c3 a4 n4 c4 a5 n5 c5)::S) w) n3 ⟨0,by omega,⟨rfl,rfl,rfl,rfl,trivial⟩,hw⟩ ?_
 clear hw;rintro μ ρ w ⟨k,hk,hρ,hw⟩
 rw[hρ.eq];clear hρ;refine A6 ?_;refine A0 rfl (fun h=>?_) (fun h=>?_)
 ·have hkn:k<n3:=by have:=of_decide_eq_true h;omega
  clear h;obtain⟨l,hl⟩:=B2 (l:=H.Links) (k:=k) (by omega)
  obtain⟨hA0,hA1,hB0,hB1,-⟩:=hLk.2 l (List.mem_of_getElem? hl)
  have hAI:V3 l.A:=⟨hA0,hA1⟩
  have hBI:V3 l.B:=⟨hB0,hB1⟩
  have hsn:=FV hl
  generalize N9 (H.Links.take k)=D at *
  refine A6 ?_;refine B9 ?_;intro b7 w hw;refine B0 ?_;intro w hw;have hw:Wd Γ ([.blk b7 (.cells (enc l).toArray 128)]++(.blk b3 (.cells (E4 (D)).toArray 54)::.blk b2 (.cells (E4 (fun _ _=>0)).toArray 54)::.blk b1 (J2 H a1 n1 c1 a2 n2 c2 a3 n3 c3 a4 n4 c4 a5 n5 c5)::S)) w:=hw
  refine A6 ?_;refine Cb [.blk b7 (.cells (enc l).toArray 128)] _ [[],[],[],[],[],[],[],[],[0]] [[],[],[],[],[],[],[],[],[0]] hw ?_
  refine P3 ?_;refine U2 (o:=0+l.A.toNat*64+l.B.toNat*1) (ho:=by rw[List.size_toArray,L1];omega) ?_
  refine W3 ?_
  clear hw;intro w hw;have hw:Wd Γ ([.blk b7 (.cells (enc l).toArray 128)]++((.blk b3 (.cells (putCells (E4 D).toArray (0+l.A.toNat*64+l.B.toNat*1) [.int .i64 l.Latency]) 54)::.blk b2 (.cells (E4 (fun _ _=>0)).toArray 54)::.blk b1 (J2 H a1 n1 c1 a2 n2 c2 a3 n3 c3 a4 n4 c4 a5 n5 c5)::S)++[])) w:=hw
  rw[Ka _ hAI hBI,List.append_nil]at hw;refine A6 ?_;refine Cb [.blk b7 (.cells (enc l).toArray 128)] _ [[],[],[],[],[],[],[],[],[0]] [[],[],[],[],[],[],[],[],[0]] hw ?_
  refine P3 ?_;refine U2 (o:=0+l.B.toNat*64+l.A.toNat*1) (ho:=by rw[List.size_toArray,L1];omega) ?_
  refine W3 ?_
  clear hw;intro w hw;have hw:Wd Γ ([.blk b7 (.cells (enc l).toArray 128)]++((.blk b3 (.cells (putCells (E4 (Y8 D l.A l.B l.Latency)).toArray (0+l.B.toNat*64+l.A.toNat*1) [.int .i64 l.Latency]) 54)::.blk b2 (.cells (E4 (fun _ _=>0)).toArray 54)::.blk b1 (J2 H a1 n1 c1 a2 n2 c2 a3 n3 c3 a4 n4 c4 a5 n5 c5)::S)++[])) w:=hw
  rw[Ka _ hBI hAI,List.append_nil]at hw;have hw:Wd Γ (.blk b3 (.cells (E4 (CS D l)).toArray 54)::.blk b2 (.cells (E4 (fun _ _=>0)).toArray 54)::.blk b1 (J2 H a1 n1 c1 a2 n2 c2 a3 n3 c3 a4 n4 c4 a5 n5 c5)::S) w:=hw.drop
  rw[hsn]at hw;refine A6 ?_;exact⟨μ-1,by omega,k+1,by omega,⟨rfl,rfl,rfl,rfl,trivial⟩,hw⟩
 have hkn:¬k<n3:=by have:=of_decide_eq_false h;omega
 rw[List.take_of_length_le (by omega)]at hw
 clear h hkn hk;have hF0:FW (N9 H.Links) (N9 H.Links) 0 0 0:=fun a b ha hb=>by
  unfold V3 at ha hb;rw[if_neg (by omega)]
  exact Zd.zero hLM.neg ha hb
 refine A6 ?_;refine B3 (fun μ ρ w=>∃(m:Nat) (D:Mx),μ+m=64∧FW (N9 H.Links) D m 0 0∧Has ρ [(2,.pointer (some ⟨b2,0,none⟩)),(3,.pointer (some ⟨b3,0,none⟩)),(8,.int .i64 m)]∧Wd Γ (.blk b3 (.cells (E4 (D)).toArray 54)::.blk b2 (.cells (E4 (fun _ _=>0)).toArray 54)::.blk b1 (J2 H a1 n1 c1 a2 n2 c2 a3 n3 c3 a4 n4 c4 a5 n5 c5)::S) w) 64 ⟨0,_,by omega,hF0,⟨rfl,rfl,rfl,trivial⟩,hw⟩ ?_
 clear hw hF0;rintro μ ρ w ⟨m,D,hm,hF,hρ,hw⟩
 rw[hρ.eq];clear hρ;refine A6 ?_;refine A0 rfl (fun h=>?_) (fun h=>?_)
 ·have hmn:m<64:=by have:=of_decide_eq_true h;omega
  clear h;have hmI:V3 (m:Int):=by unfold V3;omega
  refine A6 ?_;refine B3 (fun μ2 ρ w=>∃(i:Nat) (D:Mx),μ2+i=64∧FW (N9 H.Links) D m i 0∧Has ρ [(2,.pointer (some ⟨b2,0,none⟩)),(3,.pointer (some ⟨b3,0,none⟩)),(8,.int .i64 m),(9,.int .i64 i)]∧Wd Γ (.blk b3 (.cells (E4 (D)).toArray 54)::.blk b2 (.cells (E4 (fun _ _=>0)).toArray 54)::.blk b1 (J2 H a1 n1 c1 a2 n2 c2 a3 n3 c3 a4 n4 c4 a5 n5 c5)::S) w) 64 ⟨0,D,by omega,hF,⟨rfl,rfl,rfl,rfl,trivial⟩,hw⟩ ?_
  clear hw hF;rintro μ2 ρ w ⟨i,D,hi,hF,hρ,hw⟩
  rw[hρ.eq];clear hρ;refine A6 ?_;refine A0 rfl (fun h=>?_) (fun h=>?_)
  ·have hin:i<64:=by have:=of_decide_eq_true h;omega
   clear h;have hiI:V3 (i:Int):=by unfold V3;omega
   refine A6 ?_;refine B3 (fun μ3 ρ w=>∃(k:Nat) (D:Mx),μ3+k=64∧FW (N9 H.Links) D m i k∧Has ρ [(2,.pointer (some ⟨b2,0,none⟩)),(3,.pointer (some ⟨b3,0,none⟩)),(8,.int .i64 m),(9,.int .i64 i),(10,.int .i64 k)]∧Wd Γ (.blk b3 (.cells (E4 (D)).toArray 54)::.blk b2 (.cells (E4 (fun _ _=>0)).toArray 54)::.blk b1 (J2 H a1 n1 c1 a2 n2 c2 a3 n3 c3 a4 n4 c4 a5 n5 c5)::S) w) 64 ⟨0,D,by omega,hF,⟨rfl,rfl,rfl,rfl,rfl,trivial⟩,hw⟩ ?_
   clear hw hF;rintro μ3 ρ w ⟨k,D,hk,hF,hρ,hw⟩
   rw[hρ.eq];clear hρ;refine A6 ?_;refine A0 rfl (fun h=>?_) (fun h=>?_)
   ·have hkn:k<64:=by have:=of_decide_eq_true h;omega
    clear h;have hkI:V3 (k:Int):=by unfold V3;omega
    have g1:=hF.bound hLM hLk hiI hmI
    have g2:=hF.bound hLM hLk hmI hkI
    have g3:=hF.bound hLM hLk hiI hkI
    have hnx:=hF.next hmI hiI hkI
    have q1:=MW D hiI hmI
    have q2:=MW D hmI hkI
    have q3:=MW D hiI hkI
    refine A6 ?_;refine G9 (by kernel_rfl) (by kernel_rfl) hw ?_
    refine X3 ?_;refine qY (v:=.int .i64 (D i m)) ?_ (hy:=fun w hw=>M7 (i:=0) hw rfl rfl q1)
    refine X3 ?_;refine qG (v:=.int .i64 (D m k)) ?_ (hy:=fun hc w hw=>M7 (i:=0) hw (Bi hc rfl) rfl q2)
    refine X3 ?_;refine qG (v:=.int .i64 (D i k)) ?_ (hy:=fun hc w hw=>M7 (i:=0) hw (Bi hc rfl) rfl q3)
    refine X3 ?_;refine qG (v:=.int .i64 (D i m)) ?_ (hy:=fun hc w hw=>M7 (i:=0) hw (Bi hc rfl) rfl q1)
    refine X3 ?_;refine qG (v:=.int .i64 (D m k)) ?_ (hy:=fun hc w hw=>M7 (i:=0) hw (Bi hc rfl) rfl q2)
    refine X3 ?_;refine qG (v:=.int .i64 (D i k)) ?_ (hy:=fun hc w hw=>M7 (i:=0) hw (Bi hc rfl) rfl q3)
    refine X3 ?_;intro w hw;refine A0 rfl (fun h=>?_) (fun h=>?_)
    ·have h:AD D m i k=true:=h
     rw[if_pos h]at hnx;refine A6 ?_;refine Cb [] (.blk b3 (.cells (E4 (D)).toArray 54)::.blk b2 (.cells (E4 (fun _ _=>0)).toArray 54)::.blk b1 (J2 H a1 n1 c1 a2 n2 c2 a3 n3 c3 a4 n4 c4 a5 n5 c5)::S) [[],[],[],[],[],[],[],[],[],[],[],[],[],[],[],[0]] [[],[],[],[],[],[],[0],[],[],[],[],[0],[],[],[],[0]] hw ?_
     refine P3 ?_;refine mY (v:=.int .i64 (D i m)) ?_ (hy:=fun Y w g hw=>M7 (i:=0) hw rfl rfl q1)
     refine P3 ?_;refine mY (v:=.int .i64 (D m k)) ?_ (hy:=fun Y w g hw=>M7 (i:=0) hw rfl rfl q2)
     refine P3 ?_;refine U2 (o:=0+(i:Int).toNat*64+(k:Int).toNat*1) (ho:=by rw[List.size_toArray,L1];omega) ?_
     refine W3 ?_
     clear hw;intro w hw;have hw:Wd Γ ((.blk b3 (.cells (putCells (E4 D).toArray (0+(i:Int).toNat*64+(k:Int).toNat*1) [.int .i64 (D i m+D m k)]) 54)::.blk b2 (.cells (E4 (fun _ _=>0)).toArray 54)::.blk b1 (J2 H a1 n1 c1 a2 n2 c2 a3 n3 c3 a4 n4 c4 a5 n5 c5)::S)++[]) w:=hw
     rw[Ka _ hiI hkI,List.append_nil]at hw;refine A6 ?_;exact⟨μ3-1,by omega,k+1,_,by omega,hnx,⟨rfl,rfl,rfl,rfl,rfl,trivial⟩,hw⟩
    ·have h:AD D m i k=false:=h
     rw[if_neg (by rw[h];simp)]at hnx
     refine A6 ?_;exact⟨μ3-1,by omega,k+1,D,by omega,hnx,⟨rfl,rfl,rfl,rfl,rfl,trivial⟩,hw⟩
   ·have hkn:k=64:=by have:=of_decide_eq_false h;omega
    subst hkn;have hF:FW (N9 H.Links) D m i 64:=hF
    refine A6 ?_;exact⟨μ2-1,by omega,i+1,D,by omega,hF.row,⟨rfl,rfl,rfl,rfl,trivial⟩,hw⟩
  ·have hin:i=64:=by have:=of_decide_eq_false h;omega
   subst hin;have hF:FW (N9 H.Links) D m 64 0:=hF
   refine A6 ?_;exact⟨μ-1,by omega,m+1,D,by omega,hF.phase,⟨rfl,rfl,rfl,trivial⟩,hw⟩
 have hmn:m=64:=by have:=of_decide_eq_false h;omega
 subst hmn;have hfin:E4 D=E4 (Ml H):=Q2 fun a b ha hb=>by
  have h1:=hF a b ha hb
  unfold V3 at ha hb;rw[if_neg (by omega)]at h1
  exact(Zd.dst hLM hLk ha h1).symm
 rw[hfin]at hw;generalize Ml H=DM at *
 clear h;refine A6 ?_;refine lY (v:=.agg (E4 DM).toArray) ?_ (hy:=Au (i:=0) hw rfl rfl (by simp[L1]))
 refine B0 (i:=1) (vs:=E4 DM) ?_ (hl:=L1 DM) (h1:=by rw[List.all_eq_true];exact Xh DM) (ho:=by simp[L1]) (hv:=by simp[Value.cells])
 intro w hw;have hw:Wd Γ (.blk b3 (.cells (E4 (DM)).toArray 54)::.blk b2 (.cells (putCells (E4 (fun _ _=>0)).toArray 0 (E4 DM)) 54)::.blk b1 (J2 H a1 n1 c1 a2 n2 c2 a3 n3 c3 a4 n4 c4 a5 n5 c5)::S) w:=hw
 rw[show putCells (E4 (fun _ _=>0)).toArray 0 (E4 DM)=(E4 DM).toArray from by unfold putCells;simp[L1]]at hw
 refine A6 ?_;exact⟨[.agg (E4 DM).toArray],⟨U4 (i:=1) hw rfl rfl (by simp[L1]),trivial⟩,rfl,hw.ds [0,0,0]⟩
end Go.Proofs.YtlmiakjbogojgaaGreatDoor
end
section
open Go Mk
namespace Go.Proofs.YtlmiakjbogojgaaGreatDoor
set_option maxHeartbeats 16000000
attribute [local irreducible] Calls E4 D8
end Go.Proofs.YtlmiakjbogojgaaGreatDoor
end
section
open Go Mk
namespace Go.Proofs.YtlmiakjbogojgaaGreatDoor
set_option maxHeartbeats 16000000
attribute [local irreducible] Calls E4 D8
end Go.Proofs.YtlmiakjbogojgaaGreatDoor
end
section
open Go Mk
namespace Go.Proofs.YtlmiakjbogojgaaGreatDoor
set_option maxHeartbeats 4000000
theorem HR{a b:Int}(h:iF a=iF b):a=b:=by injection h
theorem RE{a b:ByteArray}(h:wF a=wF b):a=b:=by injection h
theorem GK{α β γ:Type}{f:α→β}{k:α→γ}(hk:∀a b,f a=f b→k a=k b){l:List α}(h:(l.map k).Nodup):(l.map f).Nodup:=by
 rw[List.Nodup,List.pairwise_map]at h ⊢
 exact h.imp fun {a b} hne he=>hne (hk a b he)
theorem fR{H:J6}{f:F3}(h:f∈FO H):f.1=Ab∨f.1=x8:=by
 unfold FO QG at h;rcases List.mem_append.1 h with h|h
 ·rw[List.mem_singleton.1 h];exact .inl rfl
 ·obtain⟨c,_,rfl⟩:=List.mem_map.1 h
  exact .inr rfl
theorem bR{c:R5}{f:F3}(h:f∈I2 c):(f.1=o9∨f.1=V7)∧f.2[0]? = some (wF c.Name):=by
 unfold I2 at h;rcases List.mem_cons.1 h with rfl|h
 ·exact⟨.inl rfl,rfl⟩
 ·obtain⟨i,_,rfl⟩:=List.mem_map.1 h
  exact⟨.inr rfl,rfl⟩
theorem ey{H:J6}{f:F3}(h:f∈GM H):f.1=Ab∨f.1=x8∨f.1=o9∨f.1=V7:=by
 unfold GM at h;rcases List.mem_append.1 h with h|h
 ·rcases fR h with h|h
  ·exact .inl h
  ·exact .inr (.inl h)
 ·obtain⟨c,_,h⟩:=List.mem_flatMap.1 h
  exact .inr (.inr (bR h).1)
theorem fk{H:J6}{f:F3}(h:f∈HC H):f.1=Ab∨f.1=x8∨f.1=o9∨f.1=V7∨f.1=CE:=by
 unfold HC at h;rcases List.mem_append.1 h with h|h
 ·rcases ey h with h|h|h|h <;> simp[h]
 ·obtain⟨c,_,rfl⟩:=List.mem_map.1 h
  simp[Pb]
theorem fu{H:J6}{f:F3}(h:f∈Fs H):f.1=Ab∨f.1=x8∨f.1=o9∨f.1=V7∨f.1=CE∨f.1=K4:=by
 unfold Fs at h;rcases List.mem_append.1 h with h|h
 ·rcases fk h with h|h|h|h|h <;> simp[h]
 ·obtain⟨c,_,rfl⟩:=List.mem_map.1 h
  simp[IP]
theorem Pw{H:J6}(v:V4 H):(G1 H).Nodup:=by
 have hu:=v.u
 unfold T6 at hu;simp only[Bool.and_eq_true,List.all_eq_true,decide_eq_true_eq]at hu
 obtain⟨u0,⟨⟨⟨⟨u1,u2⟩,u3⟩,u4⟩,u5⟩,u6⟩:=hu;have d12:Ab≠x8:=by decide +kernel
 have d13:Ab≠o9:=by decide +kernel
 have d14:Ab≠V7:=by decide +kernel
 have d15:Ab≠CE:=by decide +kernel
 have d16:Ab≠K4:=by decide +kernel
 have d17:Ab≠o7:=by decide +kernel
 have d23:x8≠o9:=by decide +kernel
 have d24:x8≠V7:=by decide +kernel
 have d25:x8≠CE:=by decide +kernel
 have d26:x8≠K4:=by decide +kernel
 have d27:x8≠o7:=by decide +kernel
 have d34:o9≠V7:=by decide +kernel
 have d35:o9≠CE:=by decide +kernel
 have d36:o9≠K4:=by decide +kernel
 have d37:o9≠o7:=by decide +kernel
 have d45:V7≠CE:=by decide +kernel
 have d46:V7≠K4:=by decide +kernel
 have d47:V7≠o7:=by decide +kernel
 have d56:CE≠K4:=by decide +kernel
 have d57:CE≠o7:=by decide +kernel
 have d67:K4≠o7:=by decide +kernel
 have hcore:(H.Cores.map TP).Nodup:=GK (k:=(·.ID)) (fun a b h=>by
  have:=congrArg (fun f:F3=>f.2[0]?) h
  exact HR (Option.some.inj this)) u1
 have hlink:(H.Links.map Pb).Nodup:=GK (k:=Q3) (fun a b h=>by
  have h0:=HR (Option.some.inj (congrArg (fun f:F3=>f.2[0]?) h))
  have h1:=HR (Option.some.inj (congrArg (fun f:F3=>f.2[1]?) h))
  unfold Q3;rw[h0,h1]) u6
 have hmem:(H.Mems.map IP).Nodup:=GK (k:=(·.Name)) (fun a b h=>RE (Option.some.inj (congrArg (fun f:F3=>f.2[0]?) h))) u3
 have hdev:(H.Devs.map aX).Nodup:=GK (k:=(·.Name)) (fun a b h=>RE (Option.some.inj (congrArg (fun f:F3=>f.2[0]?) h))) u4
 have hca:(H.Caches.flatMap I2).Nodup:=by
  rw[List.Nodup,List.pairwise_flatMap];refine⟨fun c hc=>?_,?_⟩
  ·unfold I2;rw[List.pairwise_cons];refine⟨fun f hf he=>?_,?_⟩
   ·obtain⟨i,_,rfl⟩:=List.mem_map.1 hf
    exact d34 (congrArg Prod.fst he)
   ·rw[List.pairwise_map];refine(u0 c hc:c.Cores.Pairwise (·≠·)).imp fun {a b} hne he=>hne ?_
    exact HR (Option.some.inj (congrArg (fun f:F3=>f.2[1]?) he))
  ·have:=List.pairwise_map.1 u2
   refine this.imp fun {a b} hne x hx y hy he=>hne ?_
   have h1:=(bR hx).2
   rw[he,(bR hy).2]at h1;exact(RE (Option.some.inj h1)).symm
 have h1:(FO H).Nodup:=by
  unfold FO QG;refine List.nodup_append.2 ⟨by simp,hcore,fun a ha b hb he=>?_⟩
  obtain⟨c,_,rfl⟩:=List.mem_map.1 hb
  rw[List.mem_singleton.1 ha]at he;exact d12 (congrArg Prod.fst he)
 have h2:(GM H).Nodup:=by
  unfold GM;refine List.nodup_append.2 ⟨h1,hca,fun a ha b hb he=>?_⟩
  obtain⟨c,_,hb⟩:=List.mem_flatMap.1 hb
  have hb:=(bR hb).1
  rw[←he]at hb;rcases fR ha with e|e <;> rcases hb with e2|e2 <;> rw[e]at e2 <;> first|exact d13 e2|exact d14 e2|exact d23 e2|exact d24 e2
 have h3:(HC H).Nodup:=by
  unfold HC;refine List.nodup_append.2 ⟨h2,hlink,fun a ha b hb he=>?_⟩
  obtain⟨c,_,rfl⟩:=List.mem_map.1 hb
  have e2:a.1=CE:=congrArg Prod.fst he
  rcases ey ha with e|e|e|e <;> rw[e]at e2 <;> first|exact d15 e2|exact d25 e2|exact d35 e2|exact d45 e2
 have h4:(Fs H).Nodup:=by
  unfold Fs;refine List.nodup_append.2 ⟨h3,hmem,fun a ha b hb he=>?_⟩
  obtain⟨c,_,rfl⟩:=List.mem_map.1 hb
  have e2:a.1=K4:=congrArg Prod.fst he
  rcases fk ha with e|e|e|e|e <;> rw[e]at e2 <;> first|exact d16 e2|exact d26 e2|exact d36 e2|exact d46 e2|exact d56 e2
 unfold G1;refine List.nodup_append.2 ⟨h4,hdev,fun a ha b hb he=>?_⟩
 obtain⟨c,_,rfl⟩:=List.mem_map.1 hb
 have e2:a.1=o7:=congrArg Prod.fst he
 rcases fu ha with e|e|e|e|e|e <;> rw[e]at e2 <;> first|exact d17 e2|exact d27 e2|exact d37 e2|exact d47 e2|exact d57 e2|exact d67 e2
theorem VS{l:List F3}(h:l.Nodup):(O4 l).Perm l:=by
 have hs:=AW J8 l
 exact(List.perm_ext_iff_of_nodup (UT J8 hs.asc) h).2 hs.mem
end Go.Proofs.YtlmiakjbogojgaaGreatDoor
end
section
open Go Mk
namespace Go.Proofs.YtlmiakjbogojgaaGreatDoor
set_option maxHeartbeats 16000000
def Bt:ByteArray:=⟨#[100,105,115,116,97,110,99,101]⟩
noncomputable def W1(H:J6)(a b:Int):F3:=(Bt,[iF a,iF b,iF (S2 (G0 H.Links) a b)])
noncomputable def BU(H:J6)(X:List Int):List F3:=X.flatMap fun a=>X.map (W1 H a)
noncomputable def Rt(H:J6):List F3:=O4 (G1 H++BU H (F9 H))
theorem Bu{H:J6}{X:List Int}{f:F3}:f∈BU H X↔∃a∈X,∃b∈X,f=W1 H a b:=by
 unfold BU;rw[List.mem_flatMap];constructor
 ·rintro⟨a,ha,h⟩;obtain⟨b,hb,rfl⟩:=List.mem_map.1 h
  exact⟨a,ha,b,hb,rfl⟩
 ·rintro⟨a,ha,b,hb,rfl⟩;exact⟨a,ha,List.mem_map.2 ⟨b,hb,rfl⟩⟩
theorem eO{H:J6}{D:List F3}(h:∀f,f∈D↔f∈G1 H∨∃a∈F9 H,∃b∈F9 H,f=W1 H a b):O4 D=Rt H:=by
 unfold Rt O4;refine Ji J8 fun f=>?_
 rw[h,List.mem_append,Bu]
theorem aU{H:J6}(v:V4 H):∀n∈F9 H,0≤n∧n<64:=(Nt v.r v.g).1
attribute [local irreducible] Calls I7 D8 E4 G1 S2
end Go.Proofs.YtlmiakjbogojgaaGreatDoor
end
section
open Go Mk
namespace Go.Proofs.YtlmiakjbogojgaaGreatDoor
set_option maxHeartbeats 4000000
attribute [local irreducible] Calls
def pT(c:UInt8):x6:=(4,U6 [c],0)
def S7(n:Int):List x6:=if n<0 then [pT 45,(2,⟨#[]⟩,(n.natAbs:Nat))] else [(2,⟨#[]⟩,(n.toNat:Nat))]
def GU(w:ByteArray):Bool:=F8 w && !KW w && !decide (w=I8) && !Y3 w
def EU(v:Val):List x6:=if v.Kind=1 then S7 v.Num else if GU v.Word=true then [(1,v.Word,0)] else [(3,v.Word,0)]
def g9(o:O8):List x6:=if o.Var≠F1 then [(1,o.Var,0)] else EU o.Const
def oTail(os:List O8):List x6:=os.flatMap fun o=>pT 44::g9 o
def Ee(v:Int):List x6:=if v=0 then [] else if 0<v then [pT 43,(2,⟨#[]⟩,(v.toNat:Nat))] else [pT 45,(2,⟨#[]⟩,(v.natAbs:Nat))]
def Cu:List O8→List x6
 | []=>[]
 | o::os=>g9 o++oTail os
def DL(g:H3):List x6:=
 if g.Kind=3 then g9 g.L++(4,Bg.getD g.Op.toNat F1,0)::(g9 g.R++Ee g.Off)
 else if g.Kind=4 then (1,g.L.Var,0)::(1,NV,0)::(S7 g.Low++(4,Hv,0)::S7 g.High)
 else (if g.Kind=2 then [(1,AU,0)] else [])++(1,g.Rel,0)::pT 40::(Cu g.Args++[pT 41])
def gTail(gs:List H3):List x6:=gs.flatMap fun g=>pT 44::DL g
def sTail(ss:List ByteArray):List x6:=ss.flatMap fun s=>[pT 44,(1,s,0)]
def WS:List ByteArray→List x6
 | []=>[]
 | s::ss=>(1,s,0)::sTail ss
def AP:List H3→List x6
 | []=>[]
 | g::gs=>DL g++gTail gs
def TI(q:F7):List x6:=(1,NC,0)::(WS q.Sel++(1,O1,0)::AP q.Goals)
section
variable {toks:List Tok}{e:H9}
def J7(toks:List Tok)(k:Nat)(ks:List x6):Prop:=(toks.drop k).map ge=ks
theorem J7.tk{k:Nat}{kd v:Int}{tx:ByteArray}{ks:List x6}(h:J7 toks k ((kd,tx,v)::ks)):(P1 toks k).Kind=kd∧(P1 toks k).Text=tx∧(P1 toks k).Value=v∧k<toks.length:=by
 unfold J7 at h;cases hd:toks.drop k with
 | nil=>rw[hd]at h;cases h
 | cons x l=>
  rw[hd]at h;have h1:=(List.cons.inj h).1
  have hx:toks[k]? = some x:=by
   have:=List.getElem?_drop (xs:=toks) (i:=k) (j:=0)
   rw[hd]at this;simpa using this.symm
  have h2:(x.Kind,x.Text,x.Value)=(kd,tx,v):=h1
  obtain⟨rfl,h3⟩:=Prod.mk.inj h2
  obtain⟨rfl,rfl⟩:=Prod.mk.inj h3
  unfold P1;rw[List.getD_eq_getElem?_getD,hx];exact⟨rfl,rfl,rfl,(List.getElem?_eq_some_iff.1 hx).1⟩
theorem J7.next{k:Nat}{t:x6}{ks:List x6}(h:J7 toks k (t::ks)):J7 toks (k+1) ks:=by
 unfold J7 at *
 rw[←List.drop_drop,List.map_drop,h];rfl
theorem J7.iq{k:Nat}{kind:Int}{text:ByteArray}{v:Int}{ks:List x6}(h:J7 toks k ((kind,text,v)::ks))(k2:Int)(t2:ByteArray):Q4 toks k k2 t2=(decide (kind=k2)&&decide (text=t2)):=by
 obtain⟨h1,h2,-,-⟩:=h.tk;unfold Q4;rw[h1,h2]
theorem J7.end_{k:Nat}(h:J7 toks k []):toks.length≤k:=by
 unfold J7 at h;have:=congrArg List.length h
 rw[List.length_map,List.length_drop,List.length_nil]at this;omega
theorem J7.nil{k:Nat}(h:J7 toks k []){k2:Int}(h0:k2≠0)(t2:ByteArray):Q4 toks k k2 t2=false:=by
 cases hi:Q4 toks k k2 t2 with
 | false=>rfl
 | true=>
  have:=Al h0 hi
  have:=h.end_
  omega
theorem J7.exp{k:Nat}{kind v:Int}{text:ByteArray}{ks:List x6}(h:J7 toks k ((kind,text,v)::ks)):De toks e kind text k=.ok ((),k+1):=by
 unfold De;rw[h.iq];simp
theorem J7.int{k:Nat}{n:Int}{ks:List x6}(hn:Hc n)(h:J7 toks k (S7 n++ks)):GG toks e k=.ok (n,k+(S7 n).length)∧J7 toks (k+(S7 n).length) ks:=by
 obtain⟨h0,h1⟩:=hn;unfold S7 at h ⊢
 unfold GG;by_cases hn:n<0
 ·rw[if_pos hn]at h ⊢
  have hd:Q4 toks k 4 Dw=true:=by rw[J7.iq h];rfl
  have h1':J7 toks (k+1) ((2,⟨#[]⟩,(n.natAbs:Nat))::ks):=J7.next h
  obtain⟨p1,-,p3,-⟩:=h1'.tk;refine⟨?_,h1'.next⟩
  rw[hd,if_pos rfl];unfold DZ;rw[if_pos p1,p3,if_pos (by omega)]
  show Except.ok (IntKind.i64.wrap (-(IntKind.i64.wrap ((n.natAbs:Nat):Int))),k+1+1)=Except.ok (_,_)
  have:IntKind.i64.wrap (-(IntKind.i64.wrap ((n.natAbs:Nat):Int)))=n:=by
   rw[IntKind.wrap_i64,IntKind.wrap_i64];omega
  rw[this];rfl
 ·rw[if_neg hn]at h ⊢
  obtain⟨p1,-,p3,-⟩:=h.tk;refine⟨?_,h.next⟩
  rw[show Q4 toks k 4 Dw=false by rw[J7.iq h];rfl,if_neg (by decide)]
  unfold DZ;rw[if_pos p1,p3,if_pos (by omega)]
  show Except.ok (IntKind.i64.wrap ((n.toNat:Nat):Int),k+1)=Except.ok (_,_)
  have:IntKind.i64.wrap ((n.toNat:Nat):Int)=n:=by
   rw[IntKind.wrap_i64];omega
  rw[this];rfl
theorem HQ{s:ByteArray}(h:F8 s=true):s.size≤24:=by
 unfold F8 at h;rw[Bool.and_eq_true,decide_eq_true_eq]at h;exact h.2
theorem Vf{s:ByteArray}(h:F8 s=true):0<s.size:=by
 unfold F8 s5 at h;simp only[Bool.and_eq_true,decide_eq_true_eq]at h
 exact h.1.1.1
theorem dn:KW I8=false:=by decide +kernel
theorem Qa{s:ByteArray}(h:Y3 s=true):KW s=false:=by
 unfold Y3 at h;simp only[Bool.and_eq_true,decide_eq_true_eq]at h
 unfold KW;simp only[Bool.or_eq_false_iff,decide_eq_false_iff_not]
 refine⟨⟨⟨fun q=>?_,fun q=>?_⟩,fun q=>?_⟩,fun q=>?_⟩ <;> subst q
 ·have:Qm ⟨#[115,101,108,101,99,116]⟩=115:=rfl
  omega
 ·have:Qm ⟨#[119,104,101,114,101]⟩=119:=rfl
  omega
 ·have:Qm ⟨#[110,111,116]⟩=110:=rfl
  omega
 ·have:Qm ⟨#[105,110]⟩=105:=rfl
  omega
theorem MQ{s:ByteArray}(h:KW s=false):s≠NC∧s≠O1∧s≠AU∧s≠NV:=by
 unfold KW at h;simp only[Bool.or_eq_false_iff,decide_eq_false_iff_not]at h
 exact⟨h.1.1.1,h.1.1.2,h.1.2,h.2⟩
theorem XY{s:ByteArray}(h:s=I8∨Y3 s=true):QB s=true:=by
 unfold QB;rcases h with rfl|h
 ·rfl
 ·unfold Y3 at h;simp only[Bool.and_eq_true,decide_eq_true_eq]at h
  have h2:Qm s=B1 s 0:=rfl
  rw[←h2,decide_eq_true h.1.2,decide_eq_true h.2];simp
theorem Um{s:ByteArray}(h:GU s=true):QB s=false:=by
 unfold GU at h;simp only[Bool.and_eq_true,Bool.not_eq_true',decide_eq_false_iff_not]at h
 obtain⟨⟨⟨h1,h2⟩,h3⟩,h4⟩:=h;unfold Y3 at h4;rw[h1,Bool.true_and]at h4;unfold QB;rw[decide_eq_false (show ¬s=⟨#[95]⟩ from h3),Bool.false_or]
 exact h4
theorem J7.word{k:Nat}{s:ByteArray}{v:Int}{ks:List x6}(hk:KW s=false)(hl:s.size≤24)(h:J7 toks k ((1,s,v)::ks)):y7 toks e k=.ok (s,k+1):=by
 obtain⟨p1,p2,-,-⟩:=h.tk;unfold y7;rw[p2,if_pos ⟨p1,hk⟩,if_pos hl]
def OV(o:O8):Prop:=(o.Var=F1∧L0 o.Const=true∧Hc o.Const.Num)∨((o.Var=I8∨Y3 o.Var=true)∧o.Const=P5)
theorem eQ:I8≠F1:=by decide +kernel
theorem MH{s:ByteArray}(h:s=I8∨Y3 s=true):s≠F1:=by
 rcases h with rfl|h
 ·exact eQ
 ·intro q;subst q;have:Y3 F1=false:=by decide +kernel
  rw[this]at h;cases h
theorem NP{s:ByteArray}(h:s=I8∨Y3 s=true):s.size≤24:=by
 rcases h with rfl|h
 ·decide
 ·unfold Y3 at h;simp only[Bool.and_eq_true]at h
  exact HQ h.1.1
theorem NU{s:ByteArray}(h:s=I8∨Y3 s=true):KW s=false:=by
 rcases h with rfl|h
 ·exact dn
 ·exact Qa h
theorem CB{o:O8}(h:o.Var≠F1):g9 o=[(1,o.Var,0)]:=by unfold g9;rw[if_pos h]
theorem HZ{o:O8}(h:o.Var=F1):g9 o=EU o.Const:=by unfold g9;rw[if_neg (fun q=>q h)]
theorem SU{o:O8}(hv:OV o):∃kd tx v r,g9 o=(kd,tx,v)::r∧kd≠0∧(kd=1→KW tx=false∧r=[]):=by
 rcases hv with⟨h1,h2,h3⟩|⟨h1,h2⟩
 ·rw[HZ h1];unfold EU;split
  ·unfold S7;split
   ·exact⟨_,_,_,_,rfl,by decide,fun q=>absurd q (by decide)⟩
   ·exact⟨_,_,_,_,rfl,by decide,fun q=>absurd q (by decide)⟩
  ·split
   ·rename_i hb
    refine⟨_,_,_,_,rfl,by decide,fun _=>⟨?_,rfl⟩⟩
    unfold GU at hb;simp only[Bool.and_eq_true,Bool.not_eq_true']at hb
    exact hb.1.1.2
   ·exact⟨_,_,_,_,rfl,by decide,fun q=>absurd q (by decide)⟩
 ·rw[CB (MH h1)];exact⟨_,_,_,_,rfl,by decide,fun _=>⟨NU h1,rfl⟩⟩
theorem J7.op{k:Nat}{o:O8}{ks:List x6}(hv:OV o)(h:J7 toks k (g9 o++ks)):Kp toks e k=.ok (o,k+(g9 o).length)∧J7 toks (k+(g9 o).length) ks:=by
 obtain⟨ov,vk,vn,vw⟩:=o;rcases hv with⟨h1,h2,h3⟩|⟨h1,h2⟩
 ·rw[HZ h1]at h ⊢
  have h1:ov=F1:=h1
  subst h1;unfold L0 EA at h2;simp only[Bool.or_eq_true,Bool.and_eq_true,decide_eq_true_eq]at h2
  dsimp only at h h2 h3 ⊢
  unfold EU at h ⊢
  dsimp only at h ⊢
  by_cases hk:vk=1
  ·have hw:vw=⟨#[]⟩:=h2.elim (fun q=>q.2) (fun q=>absurd (hk.symm.trans q.1.1) (by decide))
   subst hk;subst hw;rw[if_pos rfl]at h ⊢
   obtain⟨q1,q2⟩:=J7.int (e:=e) h3 h
   refine⟨?_,q2⟩
   have hkd:(P1 toks k).Kind≠1∧(P1 toks k).Kind≠3:=by
    unfold S7 at h;split at h
    ·obtain⟨p1,-,-,-⟩:=J7.tk h
     rw[p1];exact⟨by decide,by decide⟩
    ·obtain⟨p1,-,-,-⟩:=J7.tk h
     rw[p1];exact⟨by decide,by decide⟩
   unfold Kp;rw[if_neg hkd.1,if_neg hkd.2,q1];rfl
  ·obtain⟨⟨k2,n0⟩,⟨-,t1⟩,t2⟩:=h2.resolve_left fun q=>hk q.1
   subst k2;subst n0;rw[if_neg hk]at h ⊢
   by_cases hb:GU vw=true
   ·rw[if_pos hb]at h ⊢
    have hb':=hb
    unfold GU at hb';simp only[Bool.and_eq_true,Bool.not_eq_true']at hb'
    obtain⟨p1,p2,-,-⟩:=J7.tk h
    refine⟨?_,J7.next h⟩
    unfold Kp;rw[if_pos p1,J7.word hb'.1.1.2 t2 h];show Except.ok (Hs vw,k+1)=_
    unfold Hs;rw[Um hb,if_neg (by decide)];rfl
   ·rw[if_neg hb]at h ⊢
    obtain⟨p1,p2,-,-⟩:=J7.tk h
    refine⟨?_,J7.next h⟩
    unfold Kp;rw[if_neg (by rw[p1];decide),if_pos p1,p2,if_neg (by
     rintro (q|q)
     ·rw[q]at t1;exact absurd t1 (by decide)
     ·omega)];rfl
 ·have hne:=MH h1
  rw[CB hne]at h ⊢
  dsimp only at h h1 h2 ⊢
  obtain⟨p1,p2,-,-⟩:=J7.tk h
  refine⟨?_,J7.next h⟩
  unfold Kp;rw[if_pos p1,J7.word (NU h1) (NP h1) h];show Except.ok (Hs ov,k+1)=_
  unfold Hs;rw[XY h1,if_pos rfl,←h2];rfl
def gE(toks:List Tok)(ks:List x6):Prop:=∀k,J7 toks k ks→Q4 toks k 4 V6=false
theorem ZO{kd v:Int}{tx:ByteArray}{ks:List x6}(h:¬(kd=4∧tx=V6)):gE toks ((kd,tx,v)::ks):=fun k hk=>by
 rw[hk.iq];by_cases h1:kd=4
 ·rw[decide_eq_false (fun q=>h ⟨h1,q⟩),Bool.and_false]
 ·rw[decide_eq_false h1,Bool.false_and]
theorem cD:gE toks []:=fun k hk=>hk.nil (by decide) _
theorem J7.args{ks:List x6}(hks:gE toks ks):∀(os:List O8) (f k:Nat) (acc:List O8),(∀o∈os,OV o)→os.length≤f→J7 toks k (oTail os++ks)→∃k2,Dr toks e f acc k=.ok (acc++os,k2)∧J7 toks k2 ks
 | [],f,k,acc,_,_,h=>by
  refine⟨k,?_,h⟩
  rw[List.append_nil];cases f with
  | zero=>rfl
  | succ f=>unfold Dr;rw[hks k h,if_neg (by decide)]
 | o::os,f,k,acc,ho,hf,h=>by
  obtain⟨f,rfl⟩:∃f',f=f'+1:=⟨f-1,by simp at hf;omega⟩
  have h:J7 toks k (pT 44::(g9 o++(oTail os++ks))):=by
   have h2:oTail (o::os)++ks=pT 44::(g9 o++(oTail os++ks)):=by
    unfold oTail;rw[List.flatMap_cons];simp
   rw[←h2];exact h
  obtain⟨h1,h2⟩:=J7.op (e:=e) (ho o (by simp)) h.next
  obtain⟨k2,h3,h4⟩:=J7.args hks os f _ (acc++[o]) (fun u hu=>ho u (List.mem_cons_of_mem _ hu)) (by simp at hf;omega) h2
  refine⟨k2,?_,h4⟩
  unfold Dr;rw[show Q4 toks k 4 V6=true by rw[J7.iq h];rfl,if_pos rfl,h1,I9,h3,List.append_assoc];rfl
theorem J7.words{ks:List x6}(hks:gE toks ks):∀(ss:List ByteArray) (f k:Nat) (acc:List ByteArray),(∀s∈ss,Y3 s=true)→ss.length≤f→J7 toks k (sTail ss++ks)→∃k2,EC toks e f acc k=.ok (acc++ss,k2)∧J7 toks k2 ks
 | [],f,k,acc,_,_,h=>by
  refine⟨k,?_,h⟩
  rw[List.append_nil];cases f with
  | zero=>rfl
  | succ f=>unfold EC;rw[hks k h,if_neg (by decide)]
 | s::ss,f,k,acc,ho,hf,h=>by
  obtain⟨f,rfl⟩:∃f',f=f'+1:=⟨f-1,by simp at hf;omega⟩
  have h:J7 toks k (pT 44::(1,s,0)::(sTail ss++ks)):=by
   have h2:sTail (s::ss)++ks=pT 44::(1,s,0)::(sTail ss++ks):=by
    unfold sTail;rw[List.flatMap_cons];simp
   rw[←h2];exact h
  have hs:=ho s (by simp)
  have h1:=J7.word (e:=e) (Qa hs) (NP (.inr hs)) h.next
  obtain⟨k2,h3,h4⟩:=J7.words hks ss f _ (acc++[s]) (fun u hu=>ho u (List.mem_cons_of_mem _ hu)) (by simp at hf;omega) h.next.next
  refine⟨k2,?_,h4⟩
  unfold EC;rw[show Q4 toks k 4 V6=true by rw[J7.iq h];rfl,if_pos rfl,h1,I9,h3,List.append_assoc];rfl
theorem Ky:∀os:List O8,os.length≤(oTail os).length
 | []=>Nat.le_refl _
 | o::os=>by
  have:=Ky os
  unfold oTail at *
  rw[List.flatMap_cons,List.length_append,List.length_cons,List.length_cons];omega
theorem Lz:∀os:List ByteArray,os.length≤(sTail os).length
 | []=>Nat.le_refl _
 | o::os=>by
  have:=Lz os
  unfold sTail at *
  rw[List.flatMap_cons,List.length_append,List.length_cons,List.length_cons];omega
theorem Lw:∀os:List H3,os.length≤(gTail os).length
 | []=>Nat.le_refl _
 | o::os=>by
  have:=Lw os
  unfold gTail at *
  rw[List.flatMap_cons,List.length_append,List.length_cons,List.length_cons];omega
theorem J7.len{k:Nat}{ks:List x6}(h:J7 toks k ks):ks.length≤toks.length:=by
 unfold J7 at h;rw[←h,List.length_map,List.length_drop];omega
def Vn(ks:List x6):Prop:=ks=[]∨∃r,ks=pT 44::r
theorem Vn.no{ks:List x6}(h:Vn ks){k:Nat}(hk:J7 toks k ks){t:ByteArray}(ht:t≠V6):Q4 toks k 4 t=false:=by
 rcases h with rfl|⟨r,rfl⟩
 ·exact hk.nil (by decide) _
 ·rw[J7.iq hk,decide_eq_false (show ¬U6 [44]=t from fun q=>ht q.symm),Bool.and_false]
structure GV(g:H3):Prop where
 shape:O7 g=true
 ops:∀o∈J5 g,OV o
 rel:H8 g=true→F8 g.Rel=true∧KW g.Rel=false∧g.Args≠[]
 num:Cz g=true
 off:Hc g.Off
 low:Hc g.Low
 high:Hc g.High
theorem bA{k:Nat}{j:Nat}{v:Int}{ks:List x6}(h1:1≤j)(h2:j≤6)(h:J7 toks k ((4,Bg.getD j F1,v)::ks)):opAt toks k=j:=by
 have hc:j=1∨j=2∨j=3∨j=4∨j=5∨j=6:=by omega
 unfold opAt;rcases hc with rfl|rfl|rfl|rfl|rfl|rfl <;> simp only[h.iq] <;> rfl
theorem OW{k:Nat}(h1:Q4 toks k 1 AU=false)(h2:¬((P1 toks k).Kind=1∧Q4 toks (k+1) 4 Ar=true)):AI toks e k=O2 (Kp toks e k) fun l k1=>if (P1 toks k).Kind=1∧Q4 toks k1 1 NV=true then Uk toks e l (k1+1) else UQ toks e l k1:=by
 unfold AI;rw[h1,if_neg (by decide),if_neg h2]
theorem J7.rel{k:Nat}{kd:Int}{g:H3}{ks:List x6}(hn:F8 g.Rel=true)(hk:KW g.Rel=false)(ha:g.Args≠[])(hv:∀o∈g.Args,OV o)(h:J7 toks k ((1,g.Rel,0)::pT 40::(Cu g.Args++pT 41::ks))):∃k2,MI toks e kd k=.ok (⟨kd,g.Rel,g.Args,0,I1,I1,0,0,0⟩,k2)∧J7 toks k2 ks:=by
 generalize g.Args=os at *
 cases os with
 | nil=>exact absurd rfl ha
 | cons o os=>
  have h3:J7 toks (k+1+1) (g9 o++(oTail os++pT 41::ks)):=by
   have:=h.next.next
   unfold Cu at this;rw[List.append_assoc]at this;exact this
  obtain⟨h4,h5⟩:=J7.op (e:=e) (hv o (by simp)) h3
  obtain⟨k2,h6,h7⟩:=J7.args (e:=e) (ks:=pT 41::ks) (ZO (by rintro⟨-,q⟩;exact absurd q (by decide +kernel))) os (toks.length+1) _ [o] (fun u hu=>hv u (List.mem_cons_of_mem _ hu)) (by
   have:=h5.len
   have:=Ky os
   rw[List.length_append] at *
   omega) h5
  refine⟨k2+1,?_,h7.next⟩
  unfold MI;rw[J7.word hk (HQ hn) h,I9,show De toks e 4 Ar (k+1)=.ok ((),k+1+1) from J7.exp h.next,I9,h4,I9,h6,I9,show De toks e 4 Ox k2=.ok ((),k2+1) from J7.exp h7,I9];rfl
theorem J7.off{k:Nat}{v:Int}{ks:List x6}(hv:Hc v)(hm:v≠-9223372036854775808)(hks:Vn ks)(h:J7 toks k (Ee v++ks)):∃k2,Ue toks e k=.ok (v,k2)∧J7 toks k2 ks:=by
 obtain⟨v0,v1⟩:=hv;unfold Ee at h;unfold Ue;by_cases h0:v=0
 ·rw[if_pos h0]at h;refine⟨k,?_,h⟩
  rw[hks.no h (by decide +kernel),hks.no h (by decide +kernel),if_neg (by decide),if_neg (by decide),h0]
 ·rw[if_neg h0]at h;by_cases hp:0<v
  ·rw[if_pos hp]at h;have hn:J7 toks (k+1) ((2,⟨#[]⟩,(v.toNat:Nat))::ks):=J7.next h
   obtain⟨p1,-,p3,-⟩:=hn.tk;refine⟨_,?_,hn.next⟩
   rw[show Q4 toks k 4 Lp=true by rw[J7.iq h];rfl,if_pos rfl]
   unfold DZ;rw[if_pos p1,p3,if_pos (by omega)]
   show Except.ok (IntKind.i64.wrap ((v.toNat:Nat):Int),k+1+1)=Except.ok (_,_)
   have:IntKind.i64.wrap ((v.toNat:Nat):Int)=v:=by
    rw[IntKind.wrap_i64];omega
   rw[this]
  ·rw[if_neg hp]at h;have hn:J7 toks (k+1) ((2,⟨#[]⟩,(v.natAbs:Nat))::ks):=J7.next h
   obtain⟨p1,-,p3,-⟩:=hn.tk;refine⟨_,?_,hn.next⟩
   rw[show Q4 toks k 4 Lp=false by rw[J7.iq h];rfl,if_neg (by decide),show Q4 toks k 4 Dw=true by rw[J7.iq h];rfl,if_pos rfl]
   unfold DZ;rw[if_pos p1,p3,if_pos (by omega)]
   show Except.ok (IntKind.i64.wrap (-(IntKind.i64.wrap ((v.natAbs:Nat):Int))),k+1+1)=Except.ok (_,_)
   have:IntKind.i64.wrap (-(IntKind.i64.wrap ((v.natAbs:Nat):Int)))=v:=by
    rw[IntKind.wrap_i64,IntKind.wrap_i64];omega
   rw[this]
theorem J7.goal{k:Nat}{g:H3}{ks:List x6}(hg:GV g)(hks:Vn ks)(h:J7 toks k (DL g++ks)):∃k2,AI toks e k=.ok (g,k2)∧J7 toks k2 ks:=by
 obtain⟨gs,go,gr,gn,h64,l64,u64⟩:=hg;obtain⟨kind,rel,args,op,l,r,off,low,high⟩:=g;dsimp only at *
 unfold O7 at gs;unfold J5 at go;unfold Cz at gn;unfold DL at h;unfold H8 at gr;dsimp only at *
 by_cases k3:kind=3
 ·subst k3;rw[if_neg (by decide),if_pos rfl]at gs go
  rw[if_pos rfl]at gn h
  simp only[Bool.and_eq_true,decide_eq_true_eq]at gs gn
  obtain⟨⟨⟨rfl,g2⟩,rfl⟩,rfl⟩:=gs;have g2:args=[]:=List.length_eq_zero_iff.1 g2
  subst g2;have hl:=go l (by simp)
  have hr:=go r (by simp)
  have h:J7 toks k (g9 l++((4,Bg.getD op.toNat F1,0)::(g9 r++(Ee off++ks)))):=by
   have:=h
   rw[List.append_assoc,List.cons_append,List.append_assoc]at this;exact this
  obtain⟨a1,a2⟩:=J7.op (e:=e) hl h
  obtain⟨kd,tx,v,rr,ht,hk0,hk1⟩:=SU hl
  have hrest:=a2
  rw[ht]at h;obtain⟨p1,p2,-,-⟩:=J7.tk h
  have hno:Q4 toks k 1 AU=false:=by
   rw[J7.iq h];by_cases q:kd=1
   ·rw[decide_eq_false (MQ (hk1 q).1).2.2.1,Bool.and_false]
   ·rw[decide_eq_false q,Bool.false_and]
  have hpar:∀j:Nat,j=op.toNat→1≤j→j≤6→Bg.getD j F1≠Ar:=fun j _ h1 h2=>by
   have hc:j=1∨j=2∨j=3∨j=4∨j=5∨j=6:=by omega
   rcases hc with rfl|rfl|rfl|rfl|rfl|rfl <;> decide +kernel
  have hnp:¬((P1 toks k).Kind=1∧Q4 toks (k+1) 4 Ar=true):=by
   rintro⟨q1,q2⟩;rw[p1]at q1;have hrr:=(hk1 q1).2
   subst hrr;have:=J7.next h
   rw[J7.iq this,decide_eq_false (hpar _ rfl (by omega) (by omega)),Bool.and_false]at q2
   cases q2
  rw[OW hno hnp,a1,I9,if_neg (by rintro⟨-,q⟩;rw[J7.iq a2,decide_eq_false (show ¬(4:Int)=1 by decide),Bool.false_and]at q;cases q)]
  have ho:=bA (by omega) (by omega) a2
  obtain⟨b1,b2⟩:=J7.op (e:=e) hr a2.next
  obtain⟨k2,c1,c2⟩:=J7.off (e:=e) h64 (by simpa using gn.2) hks b2
  refine⟨k2,?_,c2⟩
  unfold UQ;rw[ho,if_neg (by omega),b1,I9,c1,I9]
  have:((op.toNat:Nat):Int)=op:=by omega
  rw[this]
 ·by_cases k4:kind=4
  ·subst k4;rw[if_neg (by decide),if_neg (by decide),if_pos rfl]at gs go
   rw[if_neg (by decide),if_pos rfl]at gn h
   simp only[Bool.and_eq_true,decide_eq_true_eq]at gs gn
   obtain⟨⟨⟨⟨⟨rfl,g2⟩,rfl⟩,rfl⟩,rfl⟩,g6⟩:=gs;have g2:args=[]:=List.length_eq_zero_iff.1 g2
   subst g2;have hl:=go l (by simp)
   have h:J7 toks k (g9 l++((1,NV,0)::(S7 low++((4,Hv,0)::(S7 high++ks))))):=by
    rw[CB g6];have:=h
    rw[List.cons_append,List.cons_append,List.append_assoc,List.cons_append]at this;exact this
   obtain⟨a1,a2⟩:=J7.op (e:=e) hl h
   rw[CB g6]at h;obtain⟨p1,p2,-,-⟩:=J7.tk h
   have hkw:KW l.Var=false:=by
    rcases hl with⟨q,-⟩|⟨q,-⟩
    ·exact absurd q g6
    ·exact NU q
   have hno:Q4 toks k 1 AU=false:=by
    rw[J7.iq h,decide_eq_false (MQ hkw).2.2.1,Bool.and_false]
   have hnp:¬((P1 toks k).Kind=1∧Q4 toks (k+1) 4 Ar=true):=by
    rintro⟨-,q2⟩;have:=J7.next h
    rw[J7.iq this]at q2;exact absurd q2 (by decide)
   rw[OW hno hnp,a1,I9,if_pos ⟨p1,by rw[J7.iq a2];rfl⟩]
   obtain⟨b1,b2⟩:=J7.int (e:=e) l64 a2.next
   obtain⟨c1,c2⟩:=J7.int (e:=e) u64 b2.next
   refine⟨_,?_,c2⟩
   unfold Uk;rw[b1,I9,J7.exp b2,I9,c1,I9];rfl
  ·by_cases k12:kind=1∨kind=2
   ·rw[if_pos k12]at gs go
    rw[if_neg k3,if_neg k4]at h;simp only[Bool.and_eq_true,decide_eq_true_eq]at gs
    obtain⟨⟨⟨⟨⟨rfl,rfl⟩,rfl⟩,rfl⟩,rfl⟩,rfl⟩:=gs;obtain⟨q1,q2,q3⟩:=gr (by rcases k12 with rfl|rfl <;> rfl)
    have hrel:∀j,J7 toks j ((1,rel,0)::pT 40::(Cu args++pT 41::ks))→∃k2,MI toks e kind j=.ok (⟨kind,rel,args,0,I1,I1,0,0,0⟩,k2)∧J7 toks k2 ks:=fun j hj=>
     J7.rel (g:=⟨kind,rel,args,0,I1,I1,0,0,0⟩) q1 q2 q3 go hj
    have hz:Ay=I1:=rfl
    rw[hz];rcases k12 with rfl|rfl
    ·have h:J7 toks k ((1,rel,0)::pT 40::(Cu args++pT 41::ks)):=by
      have:=h
      rw[if_neg (by decide),List.nil_append,List.cons_append,List.cons_append,List.append_assoc]at this
      exact this
     obtain⟨k2,c1,c2⟩:=hrel k h
     refine⟨k2,?_,c2⟩
     unfold AI;rw[show Q4 toks k 1 AU=false by rw[J7.iq h,decide_eq_false (MQ q2).2.2.1,Bool.and_false],if_neg (by decide),if_pos ⟨h.tk.1,by rw[J7.iq h.next];rfl⟩,c1]
    ·have h:J7 toks k ((1,AU,0)::(1,rel,0)::pT 40::(Cu args++pT 41::ks)):=by
      have:=h
      rw[if_pos rfl,List.cons_append,List.nil_append,List.cons_append,List.cons_append,List.cons_append,List.append_assoc]at this;exact this
     obtain⟨k2,c1,c2⟩:=hrel (k+1) h.next
     refine⟨k2,?_,c2⟩
     unfold AI;rw[show Q4 toks k 1 AU=true by rw[J7.iq h];rfl,if_pos rfl,c1]
   ·rw[if_neg k12,if_neg k3,if_neg k4]at gs;cases gs
theorem J7.goals:∀(gs:List H3) (f k:Nat) (acc:List H3),(∀g∈gs,GV g)→gs.length≤f→J7 toks k (gTail gs)→∃k2,ED toks e f acc k=.ok (acc++gs,k2)∧J7 toks k2 []
 | [],f,k,acc,_,_,h=>by
  refine⟨k,?_,h⟩
  rw[List.append_nil];cases f with
  | zero=>rfl
  | succ f=>unfold ED;rw[cD k h,if_neg (by decide)]
 | g::gs,f,k,acc,ho,hf,h=>by
  obtain⟨f,rfl⟩:∃f',f=f'+1:=⟨f-1,by simp at hf;omega⟩
  have h:J7 toks k (pT 44::(DL g++gTail gs)):=by
   have h2:gTail (g::gs)=pT 44::(DL g++gTail gs):=by
    unfold gTail;rw[List.flatMap_cons];simp
   rw[←h2];exact h
  have hend:Vn (gTail gs):=by
   cases gs with
   | nil=>exact .inl rfl
   | cons g2 gs=>exact .inr ⟨DL g2++gTail gs,by unfold gTail;rw[List.flatMap_cons];simp⟩
  obtain⟨k1,h1,h2⟩:=J7.goal (e:=e) (ho g (by simp)) hend h.next
  obtain⟨k2,h3,h4⟩:=J7.goals gs f k1 (acc++[g]) (fun u hu=>ho u (List.mem_cons_of_mem _ hu)) (by simp at hf;omega) h2
  refine⟨k2,?_,h4⟩
  unfold ED;rw[show Q4 toks k 4 V6=true by rw[J7.iq h];rfl,if_pos rfl,h1,I9,h3,List.append_assoc];rfl
structure QV(q:F7):Prop where
 sel:∀s∈q.Sel,Y3 s=true
 goals:∀g∈q.Goals,GV g
 some:q.Goals≠[]
theorem J7.query{q:F7}(hq:QV q)(h:J7 toks 0 (TI q)):∃k,EK toks e 0=.ok (q,k):=by
 obtain⟨sel,gs⟩:=q;obtain⟨hs,hg,hne⟩:=hq;dsimp only at *
 unfold TI at h;dsimp only at h
 unfold EK;rw[J7.exp h,I9];have h1:=h.next
 obtain⟨k2,h2,h3⟩:∃k2,Xq toks e (0+1)=.ok (sel,k2)∧J7 toks k2 ((1,O1,0)::AP gs):=by
  unfold Xq;cases sel with
  | nil=>
   have h1:J7 toks (0+1) ((1,O1,0)::AP gs):=h1
   rw[show Q4 toks (0+1) 1 O1=true by rw[J7.iq h1];rfl,if_pos rfl]
   exact⟨_,rfl,h1⟩
  | cons s ss=>
   have h1:J7 toks (0+1) ((1,s,0)::(sTail ss++(1,O1,0)::AP gs)):=h1
   have hv:=hs s (by simp)
   have hk:=Qa hv
   rw[show Q4 toks (0+1) 1 O1=false by rw[J7.iq h1,decide_eq_false (MQ hk).2.1,Bool.and_false],if_neg (by decide),J7.word hk (NP (.inr hv)) h1,I9]
   obtain⟨k2,h2,h3⟩:=J7.words (e:=e) (ks:=(1,O1,0)::AP gs) (ZO (by rintro⟨q,-⟩;exact absurd q (by decide))) ss (toks.length+1) _ [s] (fun u hu=>hs u (List.mem_cons_of_mem _ hu)) (by
    have:=h1.next.len
    have:=Lz ss
    rw[List.length_append] at *
    omega) h1.next
   exact⟨k2,h2,h3⟩
 rw[h2,I9];unfold Yj;rw[J7.exp h3,I9];cases gs with
 | nil=>exact absurd rfl hne
 | cons g gs=>
  have h4:J7 toks (k2+1) (DL g++gTail gs):=h3.next
  have hend:Vn (gTail gs):=by
   cases gs with
   | nil=>exact .inl rfl
   | cons g2 gs=>exact .inr ⟨DL g2++gTail gs,by unfold gTail;rw[List.flatMap_cons];simp⟩
  obtain⟨k3,h5,h6⟩:=J7.goal (e:=e) (hg g (by simp)) hend h4
  obtain⟨k4,h7,h8⟩:=J7.goals (e:=e) gs (toks.length+1) k3 [g] (fun u hu=>hg u (List.mem_cons_of_mem _ hu)) (by
   have:=h6.len
   have:=Lw gs
   omega) h6
  rw[h5,I9,h7,I9,if_neg (by have:=h8.end_;omega)]
  exact⟨k4,rfl⟩
end
set_option maxHeartbeats 1000000
def YH(p:List UInt8):Prop:=(∃c,p=[c]∧c∈MX)∨∃c d,p=[c,d]∧CF c.toNat d.toNat=true
def gS(l:List UInt8):Prop:=l=[]∨∃r,l=32::r
theorem Zo(a:Int):CF a 32=false:=by unfold CF;simp
theorem Zq:∀c∈MX,H1 (c.toNat:Int)=false∧M6 (c.toNat:Int)=false∧(c.toNat:Int)≠34∧BA (c.toNat:Int)=false∧(c.toNat:Int)≠35:=by decide
theorem ZH{c d:UInt8}(h:CF c.toNat d.toNat=true):c∈MX:=by
 unfold CF at h;simp only[Bool.or_eq_true,Bool.and_eq_true,decide_eq_true_eq]at h
 have hc:c.toNat=60∨c.toNat=62∨c.toNat=33∨c.toNat=46∨c.toNat=45:=by omega
 have key:∀k:Nat,k<256→c.toNat=k→c=UInt8.ofNat k:=fun k hk e=>UInt8.toNat_inj.1 (by rw[UInt8.toNat_ofNat',Nat.mod_eq_of_lt (by omega)];exact e)
 rcases hc with q|q|q|q|q <;> rw[key _ (by decide) q] <;> decide
theorem Zu{c:UInt8}{p l:List UInt8}(hp:YH (c::p))(hl:gS l):O3 (U6 ((c::p)++l))=⟨4,U6 (c::p),0,(c::p).length,0⟩∧BA (c.toNat:Int)=false∧(c.toNat:Int)≠35:=by
 have hb:B1 (U6 ((c::p)++l)) 0=c.toNat:=rfl
 have hz:(U6 ((c::p)++l)).size=p.length+1+l.length:=by rw[Aq];simp;omega
 have hP:I5 (U6 ((c::p)++l))=(c::p).length∧c∈MX:=by
  rcases hp with⟨c',e,hc⟩|⟨c',d,e,h2⟩
  ·obtain⟨rfl,rfl⟩:=List.cons.inj e
   refine⟨?_,hc⟩
   unfold I5;rw[if_neg (by
    rintro⟨q1,q2⟩;rcases hl with rfl|⟨r,rfl⟩
    ·rw[hz]at q1;simp at q1
    ·have:B1 (U6 ([c]++32::r)) 1=32:=rfl
     rw[this,Zo]at q2;cases q2),if_pos ⟨by rw[hz];omega,hc⟩];rfl
  ·obtain⟨rfl,e2⟩:=List.cons.inj e
   subst e2;refine⟨?_,ZH h2⟩
   unfold I5;rw[if_pos ⟨by rw[hz];show 2≤1+1+l.length;omega,h2⟩];rfl
 obtain⟨hP1,hc⟩:=hP;obtain⟨k1,k2,k3,k4,k5⟩:=Zq c hc
 refine⟨?_,k4,k5⟩
 unfold O3;rw[hP1,hb,if_neg (by rw[k1];decide),if_neg (by rw[k2];decide),if_neg k3,if_neg (by simp),Ga]
set_option maxHeartbeats 4000000
def OP(n:Int):List UInt8:=Lib.itoa n
def Zx(v:Val):List UInt8:=if v.Kind=1 then OP v.Num else if GU v.Word=true then M8 v.Word else 34::(M8 v.Word++[34])
def oL(o:O8):List UInt8:=if o.Var≠F1 then M8 o.Var else Zx o.Const
def FN(os:List O8):List UInt8:=os.flatMap fun o=>44::32::oL o
def NS:List O8→List UInt8
 | []=>[]
 | o::os=>oL o++FN os
def bV(v:Int):List UInt8:=if v=0 then [] else if 0<v then 32::43::32::Lib.decDigits v.toNat else 32::45::32::Lib.decDigits v.natAbs
def gL(g:H3):List UInt8:=
 if g.Kind=3 then oL g.L++32::(M8 (Bg.getD g.Op.toNat F1)++32::(oL g.R++bV g.Off))
 else if g.Kind=4 then M8 g.L.Var++32::105::110::32::(OP g.Low++32::46::46::32::OP g.High)
 else (if g.Kind=2 then [110,111,116,32] else [])++(M8 g.Rel++40::(NS g.Args++[41]))
def Ce(gs:List H3):List UInt8:=gs.flatMap fun g=>44::32::gL g
def EO:List H3→List UInt8
 | []=>[]
 | g::gs=>gL g++Ce gs
def Cf(ss:List ByteArray):List UInt8:=ss.flatMap fun s=>44::32::M8 s
def UG:List ByteArray→List UInt8
 | []=>[]
 | s::ss=>32::(M8 s++Cf ss)
def qL(q:F7):List UInt8:=M8 NC++(UG q.Sel++32::(M8 O1++32::EO q.Goals))
theorem Tz.int{n:Int}(hn:Hc n){l:List UInt8}{ks:List x6}(hl:Fg l)(h:Tz l ks):Tz (OP n++l) (S7 n++ks):=by
 obtain⟨hv0,hv1⟩:=hn;unfold OP S7 Lib.itoa;by_cases hn:n<0
 ·rw[if_pos hn,if_pos hn];have:=Tz.num (u:=n.natAbs) (by omega) hl h
  obtain⟨d,p,hd,hp,-⟩:=Ge n.natAbs
  rw[hp]at this ⊢
  exact Tz.p2 (.inr ⟨rfl,(Dh hd).2.1⟩) this
 ·rw[if_neg hn,if_neg hn];exact Tz.num (by omega) hl h
theorem Tz.con{v:Val}(hv:Hc v.Num)(hr:L0 v=true){l:List UInt8}{ks:List x6}(hl:Fg l)(h:Tz l ks):Tz (Zx v++l) (EU v++ks):=by
 unfold Zx EU;by_cases hk:v.Kind=1
 ·rw[if_pos hk,if_pos hk];exact Tz.int hv hl h
 ·rw[if_neg hk,if_neg hk];unfold L0 EA at hr;simp only[Bool.or_eq_true,Bool.and_eq_true,decide_eq_true_eq]at hr
  have hr:=hr.resolve_left fun q=>hk q.1
  by_cases hw:GU v.Word=true
  ·rw[if_pos hw,if_pos hw];unfold GU F8 at hw;simp only[Bool.and_eq_true]at hw
   exact Tz.word hw.1.1.1.1 hl h
  ·rw[if_neg hw,if_neg hw];exact Tz.str (l:=l) hr.2.1.1 h
theorem GD{s:ByteArray}(h:s=I8∨Y3 s=true):s5 s=true:=by
 rcases h with rfl|h
 ·decide +kernel
 ·unfold Y3 F8 at h;simp only[Bool.and_eq_true]at h
  exact h.1.1.1
theorem Tz.op{o:O8}(hv:OV o){l:List UInt8}{ks:List x6}(hl:Fg l)(h:Tz l ks):Tz (oL o++l) (g9 o++ks):=by
 unfold oL;rcases hv with⟨h1,h2,h3⟩|⟨h1,h2⟩
 ·rw[if_neg (fun q=>q h1),HZ h1];exact Tz.con h3 h2 hl h
 ·rw[if_pos (MH h1),CB (MH h1)];exact Tz.word (GD h1) hl h
theorem Tz.pun{p:List UInt8}(hp:YH p){l:List UInt8}{ks:List x6}(h:Tz l ks):Tz (p++32::l) ((4,U6 p,0)::ks):=by
 cases p with
 | nil=>rcases hp with⟨c,e,-⟩|⟨c,d,e,-⟩ <;> cases e
 | cons c p=>
  obtain⟨k1,k2,k3⟩:=Zu (p:=p) (l:=32::l) hp (.inr ⟨_,rfl⟩)
  exact Tz.tok (v:=0) k2 k3 k1 (Tz.sp (by decide) h)
theorem gZ:L5 44=false:=by decide
theorem w41:L5 41=false:=by decide
theorem UK:L5 32=false:=by decide
theorem Tz.com{l:List UInt8}{ks:List x6}(h:Tz l ks):Tz (44::32::l) (pT 44::ks):=Tz.p1 (.inr (.inr rfl)) (Tz.sp (by decide) h)
theorem KC{l:List UInt8}(hl:Fg l):∀os:List O8,Fg (FN os++l)
 | []=>hl
 | o::os=>by unfold FN;rw[List.flatMap_cons];exact gZ
theorem Ix{l:List UInt8}(hl:Fg l):∀os:List ByteArray,Fg (Cf os++l)
 | []=>hl
 | o::os=>by unfold Cf;rw[List.flatMap_cons];exact gZ
theorem KB:∀os:List H3,Fg (Ce os)
 | []=>trivial
 | o::os=>by unfold Ce;rw[List.flatMap_cons];exact gZ
theorem Tz.oTl{l:List UInt8}{ks:List x6}(hl:Fg l)(h:Tz l ks):∀os:List O8,(∀o∈os,OV o)→Tz (FN os++l) (oTail os++ks)
 | [],_=>h
 | o::os,hv=>by
  have ih:=Tz.oTl hl h os fun u hu=>hv u (List.mem_cons_of_mem _ hu)
  have e1:FN (o::os)++l=44::32::(oL o++(FN os++l)):=by unfold FN;rw[List.flatMap_cons];simp
  have e2:oTail (o::os)++ks=pT 44::(g9 o++(oTail os++ks)):=by unfold Go.Proofs.YtlmiakjbogojgaaGreatDoor.oTail;rw[List.flatMap_cons];simp
  rw[e1,e2];exact Tz.com (Tz.op (hv o (by simp)) (KC hl os) ih)
theorem Tz.sTl{l:List UInt8}{ks:List x6}(hl:Fg l)(h:Tz l ks):∀ss:List ByteArray,(∀s∈ss,Y3 s=true)→Tz (Cf ss++l) (sTail ss++ks)
 | [],_=>h
 | o::os,hv=>by
  have ih:=Tz.sTl hl h os fun u hu=>hv u (List.mem_cons_of_mem _ hu)
  have e1:Cf (o::os)++l=44::32::(M8 o++(Cf os++l)):=by unfold Cf;rw[List.flatMap_cons];simp
  have e2:Go.Proofs.YtlmiakjbogojgaaGreatDoor.sTail (o::os)++ks=pT 44::(1,o,0)::(Go.Proofs.YtlmiakjbogojgaaGreatDoor.sTail os++ks):=by unfold Go.Proofs.YtlmiakjbogojgaaGreatDoor.sTail;rw[List.flatMap_cons];simp
  rw[e1,e2];exact Tz.com (Tz.word (GD (.inr (hv o (by simp)))) (Ix hl os) ih)
theorem Tz.argsQ{os:List O8}(hn:os≠[])(hv:∀o∈os,OV o){l:List UInt8}{ks:List x6}(hl:Fg l)(h:Tz l ks):Tz (NS os++l) (Cu os++ks):=by
 cases os with
 | nil=>exact absurd rfl hn
 | cons o os=>
  unfold NS Cu;rw[List.append_assoc,List.append_assoc];exact Tz.op (hv o (by simp)) (KC hl os) (Tz.oTl hl h os fun u hu=>hv u (List.mem_cons_of_mem _ hu))
theorem Tz.off{v:Int}(hv:Hc v){l:List UInt8}{ks:List x6}(hl:Fg l)(h:Tz l ks):Tz (bV v++l) (Ee v++ks)∧Fg (bV v++l):=by
 obtain⟨v0,v1⟩:=hv;unfold bV Ee;by_cases h0:v=0
 ·rw[if_pos h0,if_pos h0];exact⟨h,hl⟩
 ·rw[if_neg h0,if_neg h0];by_cases hp:0<v
  ·rw[if_pos hp,if_pos hp];exact⟨Tz.sp (by decide) (Tz.pun (p:=[43]) (.inl ⟨43,rfl,by decide⟩) (Tz.num (by omega) hl h)),UK⟩
  ·rw[if_neg hp,if_neg hp];exact⟨Tz.sp (by decide) (Tz.pun (p:=[45]) (.inl ⟨45,rfl,by decide⟩) (Tz.num (by omega) hl h)),UK⟩
theorem bw{j:Nat}(h1:1≤j)(h2:j≤6):YH (M8 (Bg.getD j F1)):=by
 have hc:j=1∨j=2∨j=3∨j=4∨j=5∨j=6:=by omega
 rcases hc with rfl|rfl|rfl|rfl|rfl|rfl
 ·exact .inl ⟨61,rfl,by decide⟩
 ·exact .inr ⟨33,61,rfl,by decide⟩
 ·exact .inl ⟨60,rfl,by decide⟩
 ·exact .inr ⟨60,61,rfl,by decide⟩
 ·exact .inl ⟨62,rfl,by decide⟩
 ·exact .inr ⟨62,61,rfl,by decide⟩
theorem Tz.goal{g:H3}(hg:GV g){l:List UInt8}{ks:List x6}(hl:Fg l)(h:Tz l ks):Tz (gL g++l) (DL g++ks):=by
 obtain⟨gs,go,gr,gn,h64,l64,u64⟩:=hg;unfold O7 at gs;unfold J5 at go;unfold Cz at gn;unfold DL gL;by_cases k3:g.Kind=3
 ·rw[if_neg (by omega),if_pos k3]at go
  rw[if_pos k3]at gn;rw[if_pos k3,if_pos k3];simp only[Bool.and_eq_true,decide_eq_true_eq]at gn
  rw[List.append_assoc,List.append_assoc,List.cons_append,List.cons_append,List.append_assoc,List.cons_append,List.append_assoc,List.append_assoc];obtain⟨t1,t2⟩:=Tz.off h64 hl h
  have t3:=Tz.op (go g.R (by simp)) t2 t1
  have t4:=Tz.pun (bw (j:=g.Op.toNat) (by omega) (by omega)) t3
  rw[Mz]at t4;exact Tz.op (go g.L (by simp)) (show Fg (32::_) from UK) (Tz.sp (by decide) t4)
 ·by_cases k4:g.Kind=4
  ·rw[if_neg (by omega),if_neg k3,if_pos k4]at gs go
   rw[if_neg k3,if_pos k4,if_neg k3,if_pos k4];simp only[Bool.and_eq_true,decide_eq_true_eq]at gs
   have hv:g.L.Var=I8∨Y3 g.L.Var=true:=by
    rcases go g.L (by simp) with⟨q,-⟩|⟨q,-⟩
    ·exact absurd q gs.2
    ·exact q
   have t1:=Tz.int u64 hl h
   have t2:Tz (32::46::46::32::(OP g.High++l)) ((4,Hv,0)::(S7 g.High++ks)):=Tz.sp (by decide) (Tz.pun (p:=[46,46]) (.inr ⟨46,46,rfl,by decide⟩) t1)
   have t3:=Tz.int l64 (show Fg (32::_) from UK) t2
   have t4:Tz (M8 NV++32::(OP g.Low++32::46::46::32::(OP g.High++l))) ((1,NV,0)::(S7 g.Low++(4,Hv,0)::(S7 g.High++ks))):=Tz.word (by decide +kernel) (show Fg (32::_) from UK) (Tz.sp (by decide) t3)
   have t5:=Tz.word (GD hv) (show Fg (32::_) from UK) (Tz.sp (c:=32) (by decide) t4)
   rw[List.append_assoc];simp only[List.cons_append,List.append_assoc]
   exact t5
  ·by_cases k12:g.Kind=1∨g.Kind=2
   ·rw[if_pos k12]at go;rw[if_neg k3,if_neg k4,if_neg k3,if_neg k4];obtain⟨q1,q2,q3⟩:=gr (by unfold H8;rcases k12 with e|e <;> rw[e] <;> rfl)
    unfold F8 at q1;rw[Bool.and_eq_true]at q1;have t1:Tz (41::l) (pT 41::ks):=Tz.p1 (.inr (.inl rfl)) h
    have t2:=Tz.argsQ q3 go (show Fg (41::l) from w41) t1
    have t3:Tz (40::(NS g.Args++41::l)) (pT 40::(Cu g.Args++pT 41::ks)):=Tz.p1 (.inl rfl) t2
    have t4:=Tz.word q1.1 (show Fg (40::_) by show L5 40=false;decide) t3
    rw[List.append_assoc,List.append_assoc,List.append_assoc];simp only[List.cons_append,List.append_assoc,List.nil_append]
    by_cases k2:g.Kind=2
    ·rw[if_pos k2,if_pos k2];exact Tz.word (t:=AU) (by decide +kernel) (show Fg (32::_) from UK) (Tz.sp (by decide) t4)
    ·rw[if_neg k2,if_neg k2];exact t4
   ·rw[if_neg k12,if_neg k3,if_neg k4]at gs;cases gs
theorem Tz.gTl:∀gs:List H3,(∀g∈gs,GV g)→Tz (Ce gs) (Go.Proofs.YtlmiakjbogojgaaGreatDoor.gTail gs)
 | [],_=>Tz.nil
 | g::gs,hv=>by
  have ih:=Tz.gTl gs fun u hu=>hv u (List.mem_cons_of_mem _ hu)
  have e1:Ce (g::gs)=44::32::(gL g++Ce gs):=by unfold Ce;rw[List.flatMap_cons];simp
  have e2:Go.Proofs.YtlmiakjbogojgaaGreatDoor.gTail (g::gs)=pT 44::(DL g++Go.Proofs.YtlmiakjbogojgaaGreatDoor.gTail gs):=by unfold Go.Proofs.YtlmiakjbogojgaaGreatDoor.gTail;rw[List.flatMap_cons];simp
  rw[e1,e2];exact Tz.com (Tz.goal (hv g (by simp)) (KB gs) ih)
theorem Tz.query{q:F7}(hq:QV q):Tz (qL q) (TI q):=by
 obtain⟨sel,gs⟩:=q;obtain⟨hs,hg,hne⟩:=hq;unfold qL TI;dsimp only at *
 have t1:Tz (EO gs) (AP gs):=by
  cases gs with
  | nil=>exact absurd rfl hne
  | cons g gs=>
   exact Tz.goal (hg g (by simp)) (KB gs) (Tz.gTl gs fun u hu=>hg u (List.mem_cons_of_mem _ hu))
 have t2:Tz (M8 O1++32::EO gs) ((1,O1,0)::AP gs):=Tz.word (by decide +kernel) (show Fg (32::_) from UK) (Tz.sp (by decide) t1)
 have t3:Tz (32::(M8 O1++32::EO gs)) ((1,O1,0)::AP gs):=Tz.sp (by decide) t2
 have t4:Tz (UG sel++32::(M8 O1++32::EO gs)) (WS sel++(1,O1,0)::AP gs)∧Fg (UG sel++32::(M8 O1++32::EO gs)):=by
  cases sel with
  | nil=>exact⟨t3,UK⟩
  | cons s ss=>
   refine⟨?_,UK⟩
   have:=Tz.word (GD (.inr (hs s (by simp)))) (Ix (show Fg (32::_) from UK) ss) (Tz.sTl (show Fg (32::_) from UK) t3 ss fun u hu=>hs u (List.mem_cons_of_mem _ hu))
   unfold UG WS;rw[List.cons_append,List.cons_append,List.append_assoc];exact Tz.sp (by decide) this
 exact Tz.word (by decide +kernel) t4.2 t4.1
theorem SY{q:F7}(hq:QV q)(hl:(qL q).length≤65536):Bb (U6 (qL q))=(q,⟨0,0⟩,0):=by
 obtain⟨toks,h1,h2⟩:=Wc (Tz.query hq) hl
 unfold Bb;rw[h2];dsimp only
 rw[if_pos rfl];obtain⟨k,h3⟩:=J7.query (toks:=toks) (e:=Db (U6 (qL q))) hq (by unfold J7;rw[List.drop_zero];exact h1)
 rw[h3]
theorem fC{q:F7}(ho:Ek q)(hv:BC q=0):QV q:=by
 unfold BC at hv;split at hv
 ·cases hv
 rename_i h1
 split at hv
 ·cases hv
 rename_i h2
 split at hv
 ·cases hv
 rename_i h3
 split at hv
 ·cases hv
 rename_i h4
 simp only[Bool.not_eq_false]at h1 h2 h3 h4
 unfold An at h1;unfold x5 at h2;unfold U5 at h3;unfold CO at h4;simp only[Bool.and_eq_true,decide_eq_true_eq]at h1 h3
 have i2:=List.all_eq_true.1 h2
 have i3:=List.all_eq_true.1 h3.2
 have i4:=List.all_eq_true.1 h4
 have i1:=List.all_eq_true.1 h1.1.2
 refine⟨fun s hs=>List.all_eq_true.1 h3.1 s hs,fun g hg=>?_,fun q=>?_⟩
 ·have j2:=i2 g hg
  have j3:=i3 g hg
  have j1:=i1 g hg
  have hgo:=ho.goals g hg
  unfold DW at j3;simp only[Bool.and_eq_true,Bool.not_eq_true']at j2 j3
  refine⟨j2.1,fun o hoo=>?_,fun ha=>?_,i4 g hg,hgo.off,hgo.low,hgo.high⟩
  ·have k3:=List.all_eq_true.1 j3.2 o hoo
   have k2:=List.all_eq_true.1 j2.2 o hoo
   have ko:GL o:=by
    unfold J5 at hoo;split at hoo
    ·exact hgo.args o hoo
    ·split at hoo
     ·rcases List.mem_cons.1 hoo with rfl|hoo
      ·exact hgo.l
      ·rw[List.mem_singleton.1 hoo];exact hgo.r
     ·split at hoo
      ·rw[List.mem_singleton.1 hoo];exact hgo.l
      ·cases hoo
   unfold Gg at k3;unfold plainO at k2;by_cases hv:o.Var=F1
   ·left
    refine⟨hv,?_,ko.2.1⟩
    simp only[hv,decide_true,Bool.true_and]at k3
    simp only[Bool.and_eq_true,Bool.not_not]at k3
    exact k3.1.1
   ·right
    refine⟨?_,?_⟩
    ·by_cases ha:o.Var=I8
     ·exact .inl ha
     ·right
      simp[hv,ha]at k3
      exact k3
    ·simp[hv]at k2
     exact k2
  ·rw[ha,Bool.true_and]at j3;rw[ha]at j1;simp only[Bool.or_eq_false_iff,Bool.not_eq_false',Bool.not_true,Bool.false_or,Bool.and_eq_true,decide_eq_true_eq]at j1 j3
   exact⟨j3.1.1,j3.1.2,fun q=>by rw[q]at j1;simp at j1⟩
 ·rw[q]at h1;simp at h1
end Go.Proofs.YtlmiakjbogojgaaGreatDoor
end
section
open Go Mk
namespace Go.Proofs.YtlmiakjbogojgaaGreatDoor
set_option maxHeartbeats 4000000
theorem RG{fin:Env→List (List Val)}{g:H3}{t:List F3}{r:List (H3×List F3)}{e:Env}{x:List Val}(hk:g.Kind=1):x∈BH fin ((g,t)::r) e↔∃f∈t,Q5 e g.Args f.2=true∧∃e',Y2 e g.Args f.2=some e'∧x∈BH fin r e':=by
 rw[BH,if_pos hk,List.mem_flatMap];constructor
 ·rintro⟨f,hf,h⟩;split at h
  ·rename_i hft
   unfold M4 at h;split at h
   ·rename_i e' he
    exact⟨f,hf,hft,e',he,h⟩
   ·cases h
  ·cases h
 ·rintro⟨f,hf,hft,e',he,h⟩;refine⟨f,hf,?_⟩
  rw[if_pos hft];unfold M4;rw[he];exact h
theorem dU{a b:Int}:iF a=iF b↔a=b:=⟨fun h=>by injection h,fun h=>by rw[h]⟩
noncomputable def Nk(H:J6):List F3:=G1 H++BU H (F9 H)
def GY:ByteArray:=⟨#[77]⟩
def KS:ByteArray:=⟨#[78]⟩
def Fh:ByteArray:=⟨#[76]⟩
def Jw:H3:=⟨1,K4,[⟨GY,P5⟩,⟨I8,P5⟩,⟨I8,P5⟩,⟨KS,P5⟩,⟨Fh,P5⟩],0,Ay,Ay,0,0,0⟩
def NR(n:Int):H3:=⟨3,F1,[],1,⟨KS,P5⟩,⟨F1,iF n⟩,0,0,0⟩
def FQ(n:Int):F7:=⟨[GY,Fh],[Jw,NR n]⟩
theorem QA:GY≠F1∧KS≠F1∧Fh≠F1∧GY≠I8∧KS≠I8∧Fh≠I8∧I8≠F1∧GY≠KS∧GY≠Fh∧KS≠Fh:=by decide +kernel
theorem Yc{s:ByteArray}(h:F8 s=true):L0 (wF s)=true:=by
 have h1:=HQ h
 have h2:=Vf h
 have h3:EE s=true:=by
  unfold F8 at h;rw[Bool.and_eq_true]at h;exact Vx h.1
 simp[L0,wF,EA,h1,h2,h3]
theorem bU{m:I3}(hn:F8 m.Name=true):Q5 [] Jw.Args (IP m).2=true:=by
 obtain⟨c1,c2,c3,c4,c5,c6,c7,n1,n2,n3⟩:=QA;have g0:∀s,G3 ([]:Env) s=none:=fun s=>rfl
 show (Gh [] ⟨GY,P5⟩ (wF m.Name)&&(Gh [] ⟨I8,P5⟩ (sF m.Base)&&(Gh [] ⟨I8,P5⟩ (sF m.Size)&&(Gh [] ⟨KS,P5⟩ (iF m.Node)&&(Gh [] ⟨Fh,P5⟩ (iF m.Latency)&&true)))))=true
 simp[Gh,c1,c2,c3,c4,c5,c6,g0,Gp,Yc hn]
theorem Ob{m:I3}:Y2 [] Jw.Args (IP m).2=some [(GY,wF m.Name),(KS,iF m.Node),(Fh,iF m.Latency)]:=by
 obtain⟨c1,c2,c3,c4,c5,c6,c7,n1,n2,n3⟩:=QA;have g0:∀s,G3 ([]:Env) s=none:=fun s=>rfl
 show Y2 [] [⟨GY,P5⟩,⟨I8,P5⟩,⟨I8,P5⟩,⟨KS,P5⟩,⟨Fh,P5⟩] [wF m.Name,sF m.Base,sF m.Size,iF m.Node,iF m.Latency]=_
 simp[Y2,c1,c2,c3,c4,c5,c6,c7,n1,n2,n3,g0,L9]
theorem JE{H:J6}{f:F3}:f∈U7 (Nk H) Jw↔∃m∈H.Mems,f=IP m:=by
 have d1:Ab≠K4:=by decide +kernel
 have d2:o9≠K4:=by decide +kernel
 have d3:V7≠K4:=by decide +kernel
 have d4:CE≠K4:=by decide +kernel
 have d5:x8≠K4:=by decide +kernel
 have d6:o7≠K4:=by decide +kernel
 have d7:Bt≠K4:=by decide +kernel
 show f∈(O4 (Nk H)).filter (Kk K4 5)↔_
 rw[List.mem_filter,show f∈O4 (Nk H)↔f∈Nk H from As J8];unfold Nk;rw[List.mem_append];constructor
 ·rintro⟨h,hs⟩;have hs:f.1=K4:=by
   unfold Kk at hs;simp at hs
   exact hs.1
  rcases h with h|h
  ·simp only[G1,Fs,HC,GM,FO,QG,List.mem_append,List.mem_map,List.mem_flatMap,List.mem_singleton]at h
   rcases h with ((((h|⟨c,hc,h⟩)|⟨c,hc,h⟩)|⟨c,hc,h⟩)|⟨c,hc,h⟩)|⟨c,hc,h⟩
   ·exact absurd (by rw[h]at hs;exact hs) d1
   ·exact absurd (by rw[←h]at hs;exact hs) d5
   ·unfold I2 at h;rcases List.mem_cons.1 h with h|h
    ·exact absurd (by rw[h]at hs;exact hs) d2
    ·obtain⟨i,_,h⟩:=List.mem_map.1 h
     exact absurd (by rw[←h]at hs;exact hs) d3
   ·exact absurd (by rw[←h]at hs;exact hs) d4
   ·exact⟨c,hc,h.symm⟩
   ·exact absurd (by rw[←h]at hs;exact hs) d6
  ·obtain⟨a,-,b,-,rfl⟩:=Bu.1 h
   exact absurd hs d7
 ·rintro⟨m,hm,rfl⟩;refine⟨.inl ?_,?_⟩
  ·simp only[G1,Fs,List.mem_append,List.mem_map]
   exact .inl (.inr ⟨m,hm,rfl⟩)
  ·simp[Kk,IP]
theorem eX{H:J6}(v:V4 H){m:I3}(hm:m∈H.Mems):F8 m.Name=true:=by
 have h:=v.n
 unfold t6 at h;simp only[Bool.and_eq_true,List.all_eq_true]at h
 exact h.1.2 m hm
theorem eP{H:J6}(v:V4 H){n:Int}{x:List Val}:x∈IT (Nk H) (FQ n)↔∃m∈H.Mems,m.Node=n∧x=[wF m.Name,iF m.Latency]:=by
 obtain⟨c1,c2,c3,c4,c5,c6,c7,n1,n2,n3⟩:=QA;obtain⟨gt,hgt⟩:∃gt,gt=L3 (Nk H) (FQ n):=⟨_,rfl⟩
 have hx:IT (Nk H) (FQ n)=BH (Bn gt [GY,Fh]) [(Jw,U7 (Nk H) Jw),(NR n,[])] []:=by rw[hgt];rfl
 have hone:∀m:I3,x∈BH (Bn gt [GY,Fh]) [(NR n,[])] [(GY,wF m.Name),(KS,iF m.Node),(Fh,iF m.Latency)]↔m.Node=n∧x=[wF m.Name,iF m.Latency]:=fun m=>by
  obtain⟨e,he⟩:∃e:Env,e=[(GY,wF m.Name),(KS,iF m.Node),(Fh,iF m.Latency)]:=⟨_,rfl⟩
  rw[←he];have v1:y6 e GY=wF m.Name:=by rw[he];unfold y6;rw[L9,if_pos rfl];rfl
  have v2:y6 e KS=iF m.Node:=by rw[he];unfold y6;rw[L9,if_neg n1,L9,if_pos rfl];rfl
  have v3:y6 e Fh=iF m.Latency:=by rw[he];unfold y6;rw[L9,if_neg n2,L9,if_neg n3,L9,if_pos rfl];rfl
  have h1:BH (Bn gt [GY,Fh]) [(NR n,[])] e=Bn gt [GY,Fh] e:=by simp[BH,NR]
  have d1:∀t,Y1 e (Jw,t)=true:=fun t=>by simp[Y1,Jw]
  have d2:∀t,Y1 e (NR n,t)=decide (m.Node=n):=fun t=>by
   simp[Y1,NR,Cj,Gu,c2,v2,dU]
  rw[h1];unfold Bn;have h2:gt.all (Y1 e)=decide (m.Node=n):=by
   rw[hgt];show (Y1 e (Jw,_)&&(Y1 e (NR n,_)&&true))=_
   rw[d1,d2,Bool.true_and,Bool.and_true]
  have h3:FT [GY,Fh] e=[wF m.Name,iF m.Latency]:=by
   show [y6 e GY,y6 e Fh]=_
   rw[v1,v3]
  rw[h2,h3];by_cases k:m.Node=n
  ·simp[k]
  ·simp[k]
 rw[hx,RG rfl];constructor
 ·rintro⟨f,hf,hft,e',he',h⟩;obtain⟨m,hm,rfl⟩:=JE.1 hf
  rw[Ob]at he';cases he'
  exact⟨m,hm,(hone m).1 h⟩
 ·rintro⟨m,hm,h⟩;exact⟨IP m,JE.2 ⟨m,hm,rfl⟩,bU (eX v hm),_,Ob,(hone m).2 h⟩
theorem Lj{n:Int}:AC (FQ n)=[GY,Fh,KS]:=by
 unfold AC;rw[show IL (FQ n)=[GY,Fh,GY,I8,I8,KS,Fh,KS,F1] from rfl]
 decide +kernel
theorem Ov{n:Int}:BC (FQ n)=0:=by
 obtain⟨c1,c2,c3,c4,c5,c6,c7,n1,n2,n3⟩:=QA;have h1:An (FQ n)=true:=by
  unfold An;rw[Lj];rfl
 have h2:x5 (FQ n)=true:=by
  have e1:O7 Jw=true:=by simp[O7,Jw]
  have e2:O7 (NR n)=true:=by simp[O7,NR]
  show (O7 Jw&&(J5 Jw).all plainO&&(O7 (NR n)&&(J5 (NR n)).all plainO&&true))=true
  rw[e1,e2];simp[J5,Jw,NR,plainO]
 have h3:U5 (FQ n)=true:=by
  have v1:Y3 GY=true:=by decide +kernel
  have v2:Y3 KS=true:=by decide +kernel
  have v3:Y3 Fh=true:=by decide +kernel
  have k1:F8 K4=true:=by decide +kernel
  have k2:KW K4=false:=by decide +kernel
  simp[U5,FQ,DW,Jw,NR,J5,Gg,H8,Gp,v1,v2,v3,k1,k2,c1,c2,c3,c4,c5,c6,c7,Ne.symm c7]
 have h4:CO (FQ n)=true:=by simp[CO,FQ,Jw,NR,Cz]
 have h5:(FQ n).Sel.Nodup:=by simp[FQ,n2]
 have h6:Ak (FQ n)=true:=by
  unfold Ak;rw[Lj];show ([GY,Fh,KS].all fun s=>BF [GY,I8,I8,KS,Fh] s)=true
  decide +kernel
 simp[BC,h1,h2,h3,h4,h5,h6]
theorem ZD{n:Int}(hn:Hc n):Ek (FQ n):=by
 have o:∀s:ByteArray,s.size≤9223372036854775807→GL ⟨s,P5⟩:=fun s h=>⟨h,by show j8 P5;exact⟨by decide,by decide⟩⟩
 have c:∀i,Hc i→GL ⟨F1,iF i⟩:=fun i h=>⟨by show F1.size≤9223372036854775807;decide,h,by show (⟨#[]⟩:ByteArray).size≤9223372036854775807;decide⟩
 have z0:Hc 0:=⟨by decide,by decide⟩
 refine⟨show 2≤1000 by decide,fun s hs=>?_,show 2≤1000 by decide,fun g hg=>?_⟩
 ·have:s=GY∨s=Fh:=by
   have:s∈[GY,Fh]:=hs
   simpa using this
  rcases this with rfl|rfl <;> decide
 have hg:g=Jw∨g=NR n:=by
  have:g∈[Jw,NR n]:=hg
  simpa using this
 rcases hg with rfl|rfl
 ·refine⟨show K4.size≤9223372036854775807 by decide,show 5≤1000 by decide,fun x hx=>?_,o F1 (by decide),o F1 (by decide),z0,z0,z0⟩
  have hx:x∈[⟨GY,P5⟩,⟨I8,P5⟩,⟨I8,P5⟩,⟨KS,P5⟩,(⟨Fh,P5⟩:O8)]:=hx
  simp only[List.mem_cons,List.not_mem_nil,or_false]at hx
  rcases hx with rfl|rfl|rfl|rfl|rfl <;> exact o _ (by decide)
 ·exact⟨show F1.size≤9223372036854775807 by decide,show 0≤1000 by decide,fun x hx=>(by cases hx),o KS (by decide),c n hn,z0,z0,z0⟩
theorem bK{H:J6}:(U7 (Nk H) Jw).length≤H.Mems.length:=by
 have h:U7 (Nk H) Jw=O4 (H.Mems.map IP):=by
  refine DY.eq J8 ⟨?_,fun f=>?_⟩
  ·show ((O4 (Nk H)).filter (Kk K4 5)).Pairwise _
   exact(AW J8 (Nk H)).asc.filter _
  ·rw[JE,List.mem_map];exact⟨fun⟨c,h1,h2⟩=>⟨c,h1,h2.symm⟩,fun⟨c,h1,h2⟩=>⟨c,h1,h2.symm⟩⟩
 rw[h];have:=Ah (c:=I7) (db:=H.Mems.map IP)
 rw[List.length_map]at this;exact this
theorem Oe{H:J6}(v:V4 H){n:Int}(h4:H.Mems.length≤4):T0 (Rt H) (FQ n)=0∧∀x,x∈U1 (Rt H) (FQ n)↔∃m∈H.Mems,m.Node=n∧x=[wF m.Name,iF m.Latency]:=by
 have hR:Rt H=O4 (Nk H):=rfl
 have h1:Q0 (Rt H) (FQ n).Goals≤1000000:=by
  rw[hR,UM];have e:Q0 (Nk H) (FQ n).Goals=1*max (U7 (Nk H) Jw).length 1*1:=rfl
  have:=bK (H:=H)
  rw[e];omega
 have h0:T0 (Rt H) (FQ n)=0:=by
  unfold T0;rw[Ov];simp
  omega
 refine⟨h0,fun x=>?_⟩
 unfold U1;rw[if_pos h0];have hs:Uv (Rt H) (FQ n)=Uv (Nk H) (FQ n):=by
  rw[hR];unfold Uv IT;rw[Sc]
 rw[hs,PD,eP v]
theorem eR{H:J6}(v:V4 H){n:Int}(h4:H.Mems.length≤4) :
  (∀m∈H.Mems,m.Node=n→(∀m'∈H.Mems,m'.Node=n→m.Latency≤m'.Latency)→[wF m.Name,iF m.Latency]∈VW (Rt H) (FQ n) 1)∧(∀x∈VW (Rt H) (FQ n) 1,∃m∈H.Mems,m.Node=n∧x=[wF m.Name,iF m.Latency]):=by
 obtain⟨h0,hm⟩:=Oe v (n:=n) h4
 unfold VW;refine⟨fun m hmm hn hle=>?_,fun x hx=>?_⟩
 ·rw[List.mem_filter];refine⟨(hm _).2 ⟨m,hmm,hn,rfl⟩,?_⟩
  unfold Hu;rw[Bool.and_eq_true,List.all_eq_true];refine⟨rfl,fun r hr=>?_⟩
  obtain⟨m',hm',hn',rfl⟩:=(hm r).1 hr
  have:nR 1 [wF m.Name,iF m.Latency]=m.Latency:=rfl
  have e2:nR 1 [wF m'.Name,iF m'.Latency]=m'.Latency:=rfl
  rw[this,e2,decide_eq_true (hle m' hm' hn'),Bool.or_true]
 ·exact(hm x).1 (List.mem_filter.1 hx).1
def fg(n:Nat):List UInt8:=[115,101,108,101,99,116,32,77,44,32,76,32,119,104,101,114,101,32,109,101,109,111,114,121,40,77,44,32,95,44,32,95,44,32,78,44,32,76,41,44,32,78,32,61,32]++Lib.decDigits n
theorem ai{n:Nat}:qL (FQ n)=fg n:=by
 obtain⟨c1,c2,c3,c4,c5,c6,c7,-⟩:=QA;have e1:gL (NR n)=[78,32,61,32]++Lib.decDigits n:=by
  have v1:oL ⟨F1,iF n⟩=Lib.decDigits n:=by
   unfold oL;rw[if_neg (fun q=>q rfl)];unfold Zx;show Lib.itoa n=_
   unfold Lib.itoa;rw[if_neg (show ¬((n:Nat):Int)<0 by omega)];rfl
  have v2:oL ⟨KS,P5⟩=[78]:=by unfold oL;rw[if_pos c2];rfl
  show oL ⟨KS,P5⟩++32::(M8 ek++32::(oL ⟨F1,iF n⟩++[]))=_
  rw[v1,v2];have:M8 ek=[61]:=rfl
  rw[this];simp
 have e2:gL Jw=[109,101,109,111,114,121,40,77,44,32,95,44,32,95,44,32,78,44,32,76,41]:=by decide +kernel
 show M8 NC++((32::(M8 GY++Cf [Fh]))++32::(M8 O1++32::(gL Jw++Ce [NR n])))=_
 unfold Ce Cf;rw[List.flatMap_cons,List.flatMap_cons,List.flatMap_nil,List.flatMap_nil,e1,e2];have s1:M8 NC=[115,101,108,101,99,116]:=rfl
 have s2:M8 O1=[119,104,101,114,101]:=rfl
 have s3:M8 GY=[77]:=rfl
 have s4:M8 Fh=[76]:=rfl
 rw[s1,s2,s3,s4];unfold fg;simp
set_option maxHeartbeats 8000000
attribute [local irreducible] Calls
inductive K5 where
 | i (n:Int)
 | u (n:Int)
 | w (s:ByteArray)
def K5.val:K5→Value
 | .i n=>.iface 3 (.int .i64 n)
 | .u n=>.iface 56 (.int .u64 n)
 | .w s=>.iface 9 (.string s)
def K5.fv:K5→Val
 | .i n=>iF n
 | .u n=>sF n
 | .w s=>wF s
def AV(xs:List K5):List (List Value):=xs.map fun x=>[x.val]
instance tco_i:dO Tryz.prog 3:=⟨by kernel_rfl⟩
instance tco_u:dO Tryz.prog 56:=⟨by kernel_rfl⟩
instance tco_w:dO Tryz.prog 9:=⟨by kernel_rfl⟩
theorem Az{Γ:C8}{S:List B6}{w:World}{va:Value}{rel:ByteArray}(xs:List K5)(hr:P4 Γ S va 1 (AV xs))(hl:xs.length≤1000)(hw:Wd Γ S w) :
  Calls Tryz.prog 136 #[.string rel,va] w fun e w'=>∃f:D1,e=.returned (.agg (cF f).toArray)∧f.fact=(rel,xs.map K5.fv)∧Wd Γ (.own f.hdr 65 3 (f.Args.map enc)::S) w':=by
 obtain⟨a,n,c,rfl,hn,hnc,hc⟩:=hr.shape;simp only[AV,List.length_map]at hn
 refine I4 Tryz.func136 rfl rfl ?_
 refine A6 ?_;refine B9 ?_;intro b4 w hw;refine A6 ?_;refine B9 ?_;intro b5 w hw;refine B0 ?_;intro w hw;have hw:Wd Γ (.blk b5 (.cells #[.string rel,.slice none 0 0] 80)::.blk b4 (.cells #[.string ⟨#[]⟩,.slice none 0 0] 80)::S) w:=hw
 have hw:=Wd.addNil (a:=none) (E:=65) (sz:=3) hw
 refine A6 ?_;refine B3 (fun μ ρ w=>∃(k:Nat) (A:Option Addr) (N C:Nat),μ+k=n∧Has ρ [(4,.pointer (some ⟨b4,0,none⟩)),(5,.pointer (some ⟨b5,0,none⟩)),(13,.slice a n c),(14,.int .i64 n),(15,.int .i64 k)]∧Wd Γ (.own (.slice A N C) 65 3 (((xs.take k).map K5.fv).map enc)::.blk b5 (.cells #[.string rel,.slice A N C] 80)::.blk b4 (.cells #[.string ⟨#[]⟩,.slice none 0 0] 80)::S) w) n ⟨0,none,0,0,by omega,⟨rfl,rfl,rfl,rfl,rfl,trivial⟩,hw⟩ ?_
 clear hw;rintro μ ρ w ⟨k,A,N,C,hk,hρ,hw⟩
 rw[hρ.eq];clear hρ;refine A6 ?_;refine A0 rfl (fun h=>?_) (fun h=>?_)
 ·have hkn:k<n:=by have:=of_decide_eq_true h;omega
  clear h;obtain⟨x,hx⟩:=B2 (l:=xs) (k:=k) (by omega)
  have hN:N=k:=by
   obtain⟨_,_,_,hE,hN,-,-⟩:=hw.own_shape (i:=0) rfl
   cases hE
   simp only[List.length_map,List.length_take]at hN
   omega
  have hd:P4 Γ (.own (.slice A N C) 65 3 (((xs.take k).map K5.fv).map enc)::.blk b5 (.cells #[.string rel,.slice A N C] 80)::.blk b4 (.cells #[.string ⟨#[]⟩,.slice none 0 0] 80)::S) (.slice a n c) 1 (xs.map fun x=>[x.val]):=hr.cons.cons.cons
  cases x with
  | i n=>
   have hdx:=B8 (enc:=fun x:K5=>[x.val]) hx
   refine A6 ?_;refine lY (v:=.tuple #[.int .i64 n,.bool true]) ?_ (hy:=YA (v:=.int .i64 n) rfl)
   refine A6 ?_;refine A0 rfl (fun _=>?_) (fun h=>by cases h)
   refine A6 ?_;refine B5 [enc (iF n)] ?_
   intro q w hw;refine A6 ?_;refine T3 (i:=1) (rows2:=[enc (iF n)]) ?_ (Wd.own_rd (i:=0) hw rfl)
   intro v' w hw;have hw:=hw.drop
   obtain⟨A2,N2,C2,rfl,-,-,-⟩:=hw.own_shape (i:=0) rfl
   refine A6 ?_;refine B0 ?_;intro w hw;refine A6 ?_;refine⟨μ-1,by omega,k+1,A2,N2,C2,by omega,⟨rfl,rfl,rfl,rfl,rfl,trivial⟩,?_⟩
   rw[D4 hx,List.map_append,List.map_append];exact hw
  | u n=>
   have hdx:=B8 (enc:=fun x:K5=>[x.val]) hx
   refine A6 ?_;refine lY (v:=.tuple #[.int .i64 0,.bool false]) ?_ (hy:=Xp (z:=.int .i64 0) (v:=.int .u64 n) (V:=56) rfl rfl)
   refine A6 ?_;refine A0 rfl (fun h=>by cases h) (fun _=>?_)
   refine A6 ?_;refine lY (v:=.tuple #[.int .u64 n,.bool true]) ?_ (hy:=YA (v:=.int .u64 n) rfl)
   refine A6 ?_;refine A0 rfl (fun _=>?_) (fun h=>by cases h)
   refine A6 ?_;refine B5 [enc (sF n)] ?_
   intro q w hw;refine A6 ?_;refine T3 (i:=1) (rows2:=[enc (sF n)]) ?_ (Wd.own_rd (i:=0) hw rfl)
   intro v' w hw;have hw:=hw.drop
   obtain⟨A2,N2,C2,rfl,-,-,-⟩:=hw.own_shape (i:=0) rfl
   refine A6 ?_;refine B0 ?_;intro w hw;refine A6 ?_;refine⟨μ-1,by omega,k+1,A2,N2,C2,by omega,⟨rfl,rfl,rfl,rfl,rfl,trivial⟩,?_⟩
   rw[D4 hx,List.map_append,List.map_append];exact hw
  | w n=>
   have hdx:=B8 (enc:=fun x:K5=>[x.val]) hx
   refine A6 ?_;refine lY (v:=.tuple #[.int .i64 0,.bool false]) ?_ (hy:=Xp (z:=.int .i64 0) (v:=.string n) (V:=9) rfl rfl)
   refine A6 ?_;refine A0 rfl (fun h=>by cases h) (fun _=>?_)
   refine A6 ?_;refine lY (v:=.tuple #[.int .u64 0,.bool false]) ?_ (hy:=Xp (z:=.int .u64 0) (v:=.string n) (V:=9) rfl rfl)
   refine A6 ?_;refine A0 rfl (fun h=>by cases h) (fun _=>?_)
   refine A6 ?_;refine lY (v:=.tuple #[.string n,.bool true]) ?_ (hy:=YA (v:=.string n) rfl)
   refine A6 ?_;refine A0 rfl (fun _=>?_) (fun h=>by cases h)
   refine A6 ?_;refine B5 [enc (wF n)] ?_
   intro q w hw;refine A6 ?_;refine T3 (i:=1) (rows2:=[enc (wF n)]) ?_ (Wd.own_rd (i:=0) hw rfl)
   intro v' w hw;have hw:=hw.drop
   obtain⟨A2,N2,C2,rfl,-,-,-⟩:=hw.own_shape (i:=0) rfl
   refine A6 ?_;refine B0 ?_;intro w hw;refine A6 ?_;refine⟨μ-1,by omega,k+1,A2,N2,C2,by omega,⟨rfl,rfl,rfl,rfl,rfl,trivial⟩,?_⟩
   rw[D4 hx,List.map_append,List.map_append];exact hw
 ·have hkn:¬k<n:=by have:=of_decide_eq_false h;omega
  clear h;rw[List.take_of_length_le (by omega)]at hw
  refine A6 ?_;refine B0 ?_;intro w hw;have hw:Wd Γ (.own (.slice A N C) 65 3 ((xs.map K5.fv).map enc)::.blk b5 (.cells #[.string rel,.slice A N C] 80)::.blk b4 (.cells (cF ⟨rel,A,N,C,xs.map K5.fv⟩).toArray 80)::S) w:=hw
  refine A6 ?_;exact⟨[.agg (cF ⟨rel,A,N,C,xs.map K5.fv⟩).toArray],⟨U4 (i:=2) hw rfl rfl rfl,trivial⟩,⟨rel,A,N,C,xs.map K5.fv⟩,rfl,rfl,(hw.dropAt 2).dropAt 1⟩
end Go.Proofs.YtlmiakjbogojgaaGreatDoor
end
