/- Texts of this proof, one behind another. -/
import Derived.Test.YtlmiakjbogojgaaGreatDoorM2
import Derived.Laws.Externs
import Derived.Lib.Bytealg
set_option linter.unusedVariables false
set_option linter.unusedSimpArgs false
section
open Go Mk
namespace Go.Proofs.YtlmiakjbogojgaaGreatDoor
set_option maxHeartbeats 4000000
attribute [local irreducible] Calls
instance:SX Tryz.prog 207 "multikernel/route.add" 322:=⟨by kernel_rfl,⟨_,Ma.h⟩⟩
instance:SX Tryz.prog 207 "multikernel/route.take" 324:=⟨by kernel_rfl,⟨_,Ma.h⟩⟩
instance:SX Tryz.prog 207 "multikernel/route.empty" 323:=⟨by kernel_rfl,⟨_,Ma.h⟩⟩
instance:SX Tryz.prog 207 "Push" 335:=⟨by kernel_rfl,⟨_,Ma.h⟩⟩
instance:SX Tryz.prog 207 "Pop" 334:=⟨by kernel_rfl,⟨_,Ma.h⟩⟩
instance:Rl Tryz.prog 207 "Len" 321 209:=⟨by kernel_rfl,Ma.h⟩
instance:Rl Tryz.prog 207 "Less" 329 209:=⟨by kernel_rfl,Ma.h⟩
instance:Rl Tryz.prog 207 "Swap" 330 209:=⟨by kernel_rfl,Ma.h⟩
instance:dO Tryz.prog 207:=⟨by kernel_rfl⟩
instance:dO Tryz.prog 216:=⟨by kernel_rfl⟩
def f7(p:Pl):List Value:=[.int .i64 p.1,.int .i64 p.2]
abbrev Hi(a:Option Addr)(n c:Nat)(xs:List Pl):B6:=.own (.slice a n c) 216 2 (xs.map f7)
abbrev BM(b:Nat)(v:Value):B6:=.blk b (.cells #[v] 209)
abbrev UN(b:Nat):Value:=.iface 207 (.pointer (some ⟨b,0,none⟩))
theorem NT{xs:List Pl}{k:Nat}{x:Pl}(h:xs[k]? = some x):(xs.map f7)[k]? = some (f7 x):=by rw[List.getElem?_map,h];rfl
theorem TQ{Γ:C8}{S:List B6}{w:World}{a:Option Addr}{n c:Nat}(hw:Wd Γ S w) :
  Calls Tryz.prog 321 #[.slice a n c] w fun e w'=>e=.returned (.int .i64 n)∧Wd Γ S w':=by
 refine A7 Tryz.func321 rfl rfl ?_
 refine A6 ?_;exact⟨_,rfl,rfl,hw⟩
theorem Yz{Γ:C8}{S:List B6}{w:World}{a:Option Addr}{n c:Nat}{xs:List Pl}{i j:Nat}(hi:i<xs.length)(hj:j<xs.length)(hw:Wd Γ (Hi a n c xs::S) w) :
  Calls Tryz.prog 329 #[.slice a n c,.int .i64 i,.int .i64 j] w fun e w'=>e=.returned (.bool (decide (hk xs i<hk xs j)))∧Wd Γ (Hi a n c xs::S) w':=by
 obtain⟨a',n',c',e,hn,hnc,-⟩:=hw.own_shape (i:=0) rfl
 cases e
 simp only[List.length_map]at hn
 obtain⟨x,hx⟩:=B2 (l:=xs) (k:=i) (by omega)
 obtain⟨y,hy⟩:=B2 (l:=xs) (k:=j) (by omega)
 have hx':=NT hx
 have hy':=NT hy
 rw[Sz hx,Sz hy];refine A7 Tryz.func329 rfl rfl ?_
 refine A6 ?_;refine G9 (by kernel_rfl) (by kernel_rfl) hw ?_
 refine X3 ?_;intro w hw;refine A6 ?_;exact⟨_,rfl,rfl,hw⟩
theorem JP{Γ:C8}{S:List B6}{w:World}{a:Option Addr}{n c:Nat}{xs:List Pl}{i j:Nat}(hi:i<xs.length)(hj:j<xs.length)(hw:Wd Γ (Hi a n c xs::S) w) :
  Calls Tryz.prog 330 #[.slice a n c,.int .i64 i,.int .i64 j] w fun e w'=>e=.returned (.tuple #[])∧Wd Γ (Hi a n c (swp xs i j)::S) w':=by
 obtain⟨a',n',c',e,hn,hnc,-⟩:=hw.own_shape (i:=0) rfl
 cases e
 simp only[List.length_map]at hn
 obtain⟨x,hx⟩:=B2 (l:=xs) (k:=i) (by omega)
 obtain⟨y,hy⟩:=B2 (l:=xs) (k:=j) (by omega)
 have hx':=NT hx
 have hy':=NT hy
 have hsw:swp xs i j=(xs.set i y).set j x:=by unfold swp;rw[List.getD_eq_getElem?_getD,hy,List.getD_eq_getElem?_getD,hx];rfl
 refine A7 Tryz.func330 rfl rfl ?_
 refine A6 ?_;refine Cb [] _ [[],[],[],[],[],[],[],[],[],[],[],[],[],[0],[],[0]] [[],[],[],[],[],[],[0],[0],[],[],[0],[0],[0],[0],[0],[0]] hw ?_
 repeat(first|refine mY ?_|refine mP ?_|refine T9 ?_|refine W3 ?_|refine V1 ?_)
 refine TN (k:=i) (r:=f7 y) ?_
 repeat(first|refine mY ?_|refine mP ?_|refine T9 ?_|refine W3 ?_|refine V1 ?_)
 refine TN (k:=j) (r:=f7 x) ?_
 repeat(first|refine mY ?_|refine mP ?_|refine T9 ?_|refine W3 ?_|refine V1 ?_)
 intro w hw;have hw:=Wd.left (S:=B6.own _ _ _ _::_) hw
 have hw:Wd Γ (.own (.slice a n c) 216 2 (((xs.map f7).set i (f7 y)).set j (f7 x))::S) w:=hw
 rw[←List.map_set,←List.map_set,←hsw]at hw;exact⟨_,rfl,rfl,hw⟩
theorem Xv{Γ:C8}{S:List B6}{w:World}{b:Nat}{v:Value}{xs:List Pl}{x:Pl}(hN:xs.length≤1000000)(hw:Wd Γ (BM b v::.own v 216 2 (xs.map f7)::S) w) :
  Calls Tryz.prog 335 #[.pointer (some ⟨b,0,none⟩),.iface 216 (.agg (f7 x).toArray)] w fun e w'=>e=.returned (.tuple #[])∧∃v',Wd Γ (BM b v'::.own v' 216 2 ((xs++[x]).map f7)::S) w':=by
 obtain⟨a,n,c,rfl,hn,hnc,-⟩:=hw.own_shape (i:=1) rfl
 simp only[List.length_map]at hn
 refine A7 Tryz.func335 rfl rfl ?_
 refine A6 ?_;refine JZ [] _ [[],[],[],[],[],[],[1],[0],[],[0]] [[],[],[],[0],[],[],[1],[0,1],[],[0]] [[11],[10]] hw ?_
 repeat(first|refine mY ?_|refine mP ?_|refine T9 ?_|refine W3 ?_|refine V1 ?_)
 refine mY (v:=.agg (f7 x).toArray) ?_ (hy:=fun Y w g hw=>PX Tryz.underlying216 rfl)
 repeat(first|refine mY ?_|refine mP ?_|refine T9 ?_|refine W3 ?_|refine V1 ?_)
 refine p8 [f7 x] ?_
 refine IX ?_
 repeat(first|refine mY ?_|refine mP ?_|refine T9 ?_|refine W3 ?_|refine V1 ?_)
 refine AO ?_
 refine V1 fun w g hw=>?_
 have hw:=Wd.dropEnd hw
 have hw:Wd Γ (BM b (g 11)::.own (g 11) 216 2 (xs.map f7++[f7 x])::S) w:=hw
 rw[show xs.map f7++[f7 x]=(xs++[x]).map f7 from by simp]at hw
 exact⟨_,rfl,rfl,_,hw⟩
theorem y8{Γ:C8}{S:List B6}{w:World}{b:Nat}{v:Value}(hw:Wd Γ (BM b v::S) w):(loadVar 209 ⟨b,0,none⟩).run Tryz.prog w=.ok v w:=
 MV (i:=0) hw rfl rfl
theorem Mi{Γ:C8}{b:Nat}{a:Option Addr}{n c:Nat}{xs:List Pl}{i j:Nat}(hi:i<xs.length)(hj:j<xs.length) :
  PS Tryz.prog Γ [BM b (.slice a n c),Hi a n c xs] 329 [.slice a n c,.int .i64 i,.int .i64 j] (.bool (decide (hk xs i<hk xs j))):=
 ⟨fun Y w hw=>(Yz hi hj (S:=BM b (.slice a n c)::Y) (Wd.ps [1] hw)).mono fun e w' ⟨h1,h2⟩=>⟨h1,Wd.ps [1] h2⟩⟩
theorem Xj{j:Nat}(h:j≤1000000):IntKind.i64.wrap (((j:Int)-1).tdiv 2)=(((j-1) / 2:Nat):Int):=by
 by_cases e:j=0
 ·subst e;rfl
 ·obtain⟨k,rfl⟩:∃k,j=k+1:=⟨j-1,by omega⟩
  rw[show ((k+1:Nat):Int)-1=(k:Int) from by omega,Nat.add_sub_cancel,Int.tdiv_eq_ediv_of_nonneg (by omega)]
  rw[show (k:Int) / 2=((k / 2:Nat):Int) from by omega]
  exact wrap_i64 (by omega) (by omega)
theorem dc{Γ:C8}{S:List B6}{w:World}{b:Nat}{a:Option Addr}{n c:Nat}{xs:List Pl}{j:Nat}(hN:xs.length≤1000000)(hj:j<xs.length)(hu:eb xs j)(hw:Wd Γ (BM b (.slice a n c)::Hi a n c xs::S) w) :
  Calls Tryz.prog 327 #[UN b,.int .i64 j] w fun e w'=>e=.returned (.tuple #[])∧∃ys,ys.Perm xs∧i6 ys ys.length∧Wd Γ (BM b (.slice a n c)::Hi a n c ys::S) w':=by
 refine A7 Tryz.func327 rfl rfl ?_
 refine A6 ?_;refine B3 (fun μ ρ w=>∃(ys:List Pl),μ<ys.length∧ys.Perm xs∧eb ys μ∧Has ρ [(0,UN b),(1,.int .i64 μ)]∧Wd Γ (BM b (.slice a n c)::Hi a n c ys::S) w) j ⟨xs,hj,.refl _,hu,⟨rfl,rfl,trivial⟩,hw⟩ ?_
 clear hw hu hj;rintro j ρ w ⟨ys,hj,hp,hu,hρ,hw⟩
 have hl:=hp.length_eq
 rw[hρ.eq];clear hρ;refine AT ?_
 refine BK (fun ρ w=>Has ρ [(0,UN b),(1,.int .i64 j),(4,.int .i64 ((j-1) / 2:Nat))]∧Wd Γ (BM b (.slice a n c)::Hi a n c ys::S) w) ?_ ?_
 ·refine A6 ?_;exact⟨⟨rfl,rfl,congrArg (Value.int .i64) (Xj (by omega)),trivial⟩,hw⟩
 clear hw;rintro ρ w ⟨hρ,hw⟩
 rw[hρ.eq];clear hρ;refine A6 ?_;refine Xn (fun _=>Mi (j:=(j-1) / 2) hj (by omega)) (y8 hw) ?_
 intro w hw;refine A6 ?_;refine A0 rfl (fun h=>?_) (fun h=>?_)
 ·have h:(decide (((((j-1) / 2:Nat)):Int)=j) || !decide (hk ys j<hk ys ((j-1) / 2)))=true:=h
  have hs:j=0∨hk ys ((j-1) / 2)≤hk ys j:=by
   rcases Bool.or_eq_true_iff.1 h with h|h
   ·have:=of_decide_eq_true h;omega
   ·have:¬hk ys j<hk ys ((j-1) / 2):=by simpa using h
    omega
  have hw:Wd Γ (BM b (.slice a n c)::Hi a n c ys::S) w:=hw
  refine A6 ?_;exact⟨_,rfl,rfl,ys,hp,Zh hu hs,hw⟩
 ·have h:(decide (((((j-1) / 2:Nat)):Int)=j) || !decide (hk ys j<hk ys ((j-1) / 2)))=false:=h
  obtain⟨h1,h2⟩:=Bool.or_eq_false_iff.1 h
  have h1:=of_decide_eq_false h1
  have h2:hk ys j<hk ys ((j-1) / 2):=by simpa using h2
  have hw:Wd Γ (BM b (.slice a n c)::Hi a n c ys::S) w:=hw
  refine A6 ?_;refine Pk (y8 hw) ((JP (i:=(j-1) / 2) (j:=j) (by omega) hj (Wd.ps [1] hw)).mono fun e w hh=>?_)
  obtain⟨rfl,hw⟩:=hh;refine⟨_,rfl,?_⟩;have hw:Wd Γ (BM b (.slice a n c)::Hi a n c (swp ys ((j-1) / 2) j)::S) w:=Wd.ps [1] hw
  refine A6 ?_;exact⟨(j-1) / 2,by omega,swp ys ((j-1) / 2) j,by rw[El];omega,(Jo (by omega) hj).trans hp,aI hu (by omega) hj h2,⟨rfl,rfl,trivial⟩,hw⟩
theorem Yp{Γ:C8}{S:List B6}{w:World}{b:Nat}{a:Option Addr}{n c:Nat}{xs:List Pl}{m:Nat}(hN:xs.length≤1000000)(hm:m+1=xs.length)(hu:LC xs 0 m)(hw:Wd Γ (BM b (.slice a n c)::Hi a n c xs::S) w) :
  Calls Tryz.prog 328 #[UN b,.int .i64 0,.int .i64 m] w fun e w'=>∃r,e=.returned (.bool r)∧∃ys,ys.Perm xs∧ys[m]? = xs[m]?∧i6 ys m∧Wd Γ (BM b (.slice a n c)::Hi a n c ys::S) w':=by
 refine A7 Tryz.func328 rfl rfl ?_
 refine A6 ?_;refine B3 (fun μ ρ w=>∃(i:Nat) (ys:List Pl),μ=m-i∧i≤m∧ys.Perm xs∧ys[m]? = xs[m]?∧LC ys i m∧Has ρ [(0,UN b),(1,.int .i64 0),(2,.int .i64 m),(6,.bool false),(7,.int .i64 i)]∧Wd Γ (BM b (.slice a n c)::Hi a n c ys::S) w) m ⟨0,xs,by omega,by omega,.refl _,rfl,hu,⟨rfl,rfl,rfl,rfl,rfl,trivial⟩,hw⟩ ?_
 clear hw hu;rintro μ ρ w ⟨i,ys,hμ,hi,hp,hx,hu,hρ,hw⟩
 have hl:=hp.length_eq
 rw[hρ.eq];clear hρ;refine A6 ?_;refine A0 rfl (fun h=>?_) (fun h=>?_)
 ·have h:(decide ((2*(i:Int)+1)≥m)||decide ((2*(i:Int)+1)<0))=true:=h
  have hs:m≤2*i+1:=by
   rcases Bool.or_eq_true_iff.1 h with h|h
   ·have:=of_decide_eq_true h;omega
   ·have:=of_decide_eq_true h;omega
  refine A6 ?_;exact⟨_,rfl,_,rfl,ys,hp,hx,Kt hu (fun k k0 kn kp=>by omega),hw⟩
 ·have h:(decide ((2*(i:Int)+1)≥m)||decide ((2*(i:Int)+1)<0))=false:=h
  have hs:2*i+1<m:=by
   have:=of_decide_eq_false (Bool.or_eq_false_iff.1 h).1;omega
  clear h;iterate 7 (first|refine E6 ?_|(refine E7 ?_;intro w hw))
  refine JA (fun ρ w=>∃j:Nat,j<m∧0<j∧(j-1) / 2=i∧(∀k,0<k→k<m→(k-1) / 2=i→hk ys j≤hk ys k)∧Has ρ [(0,UN b),(1,.int .i64 0),(2,.int .i64 m),(6,.bool false),(7,.int .i64 i),(9,.int .i64 j)]∧Wd Γ (BM b (.slice a n c)::Hi a n c ys::S) w) ?_ ?_
  ·refine A6 ?_;refine Xn (c:=decide (2*(i:Int)+1+1<m)) (fun hc=>Mi (xs:=ys) (i:=2*i+2) (j:=2*i+1) (by have:=of_decide_eq_true hc;omega) (by omega)) (y8 hw) ?_
   intro w hw;have hw:Wd Γ (BM b (.slice a n c)::Hi a n c ys::S) w:=hw
   refine A6 ?_;refine A0 rfl (fun h=>?_) (fun h=>?_)
   ·have h:(decide (2*(i:Int)+1+1<m)&&decide (hk ys (2*i+2)<hk ys (2*i+1)))=true:=h
    obtain⟨h1,h2⟩:=Bool.and_eq_true_iff.1 h
    have h1:=of_decide_eq_true h1
    have h2:=of_decide_eq_true h2
    refine A6 ?_;refine⟨2*i+2,by omega,by omega,by omega,fun k k0 kn kp=>?_,⟨rfl,rfl,rfl,rfl,rfl,rfl,trivial⟩,hw⟩
    rcases (show k=2*i+1∨k=2*i+2 by omega) with rfl|rfl
    ·omega
    ·omega
   ·have h:(decide (2*(i:Int)+1+1<m)&&decide (hk ys (2*i+2)<hk ys (2*i+1)))=false:=h
    refine A6 ?_;refine⟨2*i+1,by omega,by omega,by omega,fun k k0 kn kp=>?_,⟨rfl,rfl,rfl,rfl,rfl,rfl,trivial⟩,hw⟩
    rcases (show k=2*i+1∨k=2*i+2 by omega) with rfl|rfl
    ·omega
    ·rw[decide_eq_true (show 2*(i:Int)+1+1<m by omega),Bool.true_and]at h
     have:=of_decide_eq_false h
     omega
  ·clear hw;rintro ρ w ⟨j,hjm,hj0,hjp,hmin,hρ,hw⟩
   rw[hρ.eq];clear hρ;refine A6 ?_;refine cq (Mi (xs:=ys) (i:=j) (j:=i) (by omega) (by omega)) (y8 hw) ?_
   intro w hw;have hw:Wd Γ (BM b (.slice a n c)::Hi a n c ys::S) w:=hw
   refine A6 ?_;refine A0 rfl (fun h=>?_) (fun h=>?_)
   ·have h:(!decide (hk ys j<hk ys i))=true:=h
    have h:¬hk ys j<hk ys i:=by simpa using h
    refine A6 ?_;refine⟨_,rfl,_,rfl,ys,hp,hx,Kt hu (fun k k0 kn kp=>?_),hw⟩
    have:=hmin k k0 kn kp
    omega
   ·have h:(!decide (hk ys j<hk ys i))=false:=h
    have h:hk ys j<hk ys i:=by simpa using h
    refine A6 ?_;refine Pk (y8 hw) ((JP (i:=i) (j:=j) (by omega) (by omega) (Wd.ps [1] hw)).mono fun e w hh=>?_)
    obtain⟨rfl,hw⟩:=hh;refine⟨_,rfl,?_⟩;have hw:Wd Γ (BM b (.slice a n c)::Hi a n c (swp ys i j)::S) w:=Wd.ps [1] hw
    refine A6 ?_;refine⟨m-j,by omega,j,swp ys i j,rfl,by omega,(Jo (by omega) (by omega)).trans hp,?_,Uz hu (by omega) hjm hj0 hjp h hmin,⟨rfl,rfl,rfl,rfl,rfl,trivial⟩,hw⟩
    rw[swp_get (by omega) (by omega),if_neg (by omega),if_neg (by omega)];exact hx
theorem YF{Γ:C8}{S:List B6}{w:World}{b:Nat}{a:Option Addr}{n c:Nat}{xs:List Pl}{m:Nat}{x:Pl}(hN:xs.length≤1000000)(hm:m+1=xs.length)(hx:xs[m]? = some x)(hw:Wd Γ (BM b (.slice a n c)::Hi a n c xs::S) w) :
  Calls Tryz.prog 334 #[.pointer (some ⟨b,0,none⟩)] w fun e w'=>e=.returned (.iface 216 (.agg (f7 x).toArray))∧∃v',Wd Γ (BM b v'::.own v' 216 2 ((xs.take m).map f7)::S) w':=by
 obtain⟨a',n',c',e,hn,hnc,-⟩:=hw.own_shape (i:=1) rfl
 cases e
 simp only[List.length_map]at hn
 have hx':xs[((n:Int)-1).toNat]? = some x:=by rw[show ((n:Int)-1).toNat=m from by omega];exact hx
 refine A7 Tryz.func334 rfl rfl ?_
 refine A6 ?_;refine U0 [BM b (.slice a n c),Hi a n c xs] [fun _=>[],fun _=>S] [[],[],[],[],[],[],[],[],[],[],[0],[0]] [[],[],[],[],[],[],[],[],[],[],[0],[0]] [[3],[]] (by have:=hw;simpa[List.range,List.range.loop,ML] using this) ?_
 refine P3 ?_;refine HG ?_
 refine Bv ?_
 refine V1 fun w g hw=>?_
 have hw:Wd Γ (BM b (.slice a n c)::Hi a n c xs::NX (g 3) _::(S++[])) w:=hw
 rw[List.append_nil]at hw;obtain⟨b3,hg3,hw⟩:=(Wd.ps [2] hw).openAt
 have hw:Wd Γ (.blk b3 (.cells (f7 x).toArray 216)::BM b (.slice a n c)::Hi a n c xs::S) w:=hw
 refine Ty (l:=[(0,.pointer (some ⟨b,0,none⟩)),(3,.pointer (some ⟨b3,0,none⟩))]) ⟨rfl,hg3,trivial⟩ fun ρ' hρ'=>?_
 rw[hρ'.eq];clear hρ' hg3;refine A6 ?_;refine Cb [.blk b3 (.cells (f7 x).toArray 216)] _ [[],[],[],[],[],[],[],[],[],[],[],[0]] [[],[],[],[0],[],[],[0],[],[],[],[],[0]] hw ?_
 refine P3 ?_;refine U2 (j:=0) (vs:=[.slice a ((n:Int)-1).toNat c]) ?_
 repeat(first|refine mY ?_|refine mP ?_|refine T9 ?_|refine W3 ?_|refine V1 ?_)
 intro w hw;rw[show ((n:Int)-1).toNat=m from by omega]at hw
 have hw:Wd Γ (.blk b3 (.cells (f7 x).toArray 216)::((BM b (.slice a m c)::Hi a n c xs::S)++[])) w:=hw
 rw[List.append_nil]at hw;have hw:=Wd.own_take (i:=2) (m:=m) hw rfl (by omega)
 rw[←List.map_take]at hw;have hw:Wd Γ (.blk b3 (.cells (f7 x).toArray 216)::BM b (.slice a m c)::Hi a m c (xs.take m)::S) w:=hw
 refine A6 ?_;refine lY (v:=.iface 216 (.agg (f7 x).toArray)) ?_ (hy:=R1 rfl)
 refine A6 ?_;exact⟨_,rfl,rfl,_,hw.drop⟩
theorem VE{Γ:C8}{S:List B6}{w:World}{b:Nat}{v:Value}{xs:List Pl}{x:Pl}(hN:xs.length+1≤1000000)(hh:i6 xs xs.length)(hw:Wd Γ (BM b v::.own v 216 2 (xs.map f7)::S) w) :
  Calls Tryz.prog 325 #[UN b,.iface 216 (.agg (f7 x).toArray)] w fun e w'=>e=.returned (.tuple #[])∧∃v' ys,ys.Perm (x::xs)∧i6 ys ys.length∧Wd Γ (BM b v'::.own v' 216 2 (ys.map f7)::S) w':=by
 refine A7 Tryz.func325 rfl rfl ?_
 refine A6 ?_;refine UV ((Xv (by omega) hw).mono fun e w hh'=>?_)
 obtain⟨rfl,v',hw⟩:=hh';obtain⟨a,n,c,rfl,hn,hnc,-⟩:=hw.own_shape (i:=1) rfl
 simp only[List.length_map,List.length_append,List.length_singleton]at hn
 refine⟨_,rfl,?_⟩;refine A6 ?_;refine Pk (y8 hw) ((TQ hw).mono fun e w hh'=>?_)
 obtain⟨rfl,hw⟩:=hh';refine⟨_,rfl,?_⟩;have e1:((n:Int)-1)=(xs.length:Nat):=by omega
 refine A6 ?_;rw[e1];refine C9 ((dc (j:=xs.length) (by simp;omega) (by simp) (bN hh) hw).mono fun e w hh'=>?_)
 obtain⟨rfl,ys,hp,hy,hw⟩:=hh';refine⟨_,rfl,?_⟩;refine A6 ?_;exact⟨_,rfl,rfl,_,ys,hp.trans List.perm_append_comm,hy,hw⟩
theorem YT{Γ:C8}{S:List B6}{w:World}{b:Nat}{v:Value}{xs:List Pl}(hN:xs.length≤1000000)(h0:xs≠[])(hh:i6 xs xs.length)(hw:Wd Γ (BM b v::.own v 216 2 (xs.map f7)::S) w) :
  Calls Tryz.prog 326 #[UN b] w fun e w'=>∃x v' ys,e=.returned (.iface 216 (.agg (f7 x).toArray))∧(x::ys).Perm xs∧(∀y∈xs,x.2≤y.2)∧i6 ys ys.length∧Wd Γ (BM b v'::.own v' 216 2 (ys.map f7)::S) w':=by
 obtain⟨a,n,c,rfl,hn,hnc,-⟩:=hw.own_shape (i:=1) rfl
 simp only[List.length_map]at hn
 obtain⟨m,hm⟩:∃m,xs.length=m+1:=⟨xs.length-1,by have:=List.length_pos_iff.2 h0;omega⟩
 obtain⟨x,hx⟩:=B2 (l:=xs) (k:=0) (by omega)
 have e1:((n:Int)-1)=(m:Nat):=by omega
 refine A7 Tryz.func326 rfl rfl ?_
 refine A6 ?_;refine Pk (y8 hw) ((TQ hw).mono fun e w hh'=>?_)
 obtain⟨rfl,hw⟩:=hh';refine⟨_,rfl,?_⟩;refine A6 ?_;rw[e1];refine Pk (y8 hw) ((JP (i:=0) (j:=m) (by omega) (by omega) (Wd.ps [1] hw)).mono fun e w hh'=>?_)
 obtain⟨rfl,hw⟩:=hh';refine⟨_,rfl,?_⟩;have hw:Wd Γ (BM b (.slice a n c)::Hi a n c (swp xs 0 m)::S) w:=Wd.ps [1] hw
 refine A6 ?_;refine C9 ((Yp (m:=m) (by rw[El];omega) (by rw[El];omega) (US hh hm) hw).mono fun e w hh'=>?_)
 obtain⟨r,rfl,ys,hp,hy,hz,hw⟩:=hh';rw[swp_get (by omega) (by omega),if_pos rfl,hx]at hy
 have hl:=hp.length_eq
 rw[El]at hl;refine⟨_,rfl,?_⟩;refine A6 ?_;refine UV ((YF (m:=m) (by omega) (by omega) hy hw).mono fun e w hh'=>?_)
 obtain⟨rfl,v',hw⟩:=hh';refine⟨_,rfl,?_⟩;refine A6 ?_;exact⟨_,rfl,x,v',ys.take m,rfl,(Uj hp (by omega) hy).trans (Jo (by omega) (by omega)),ZF hh hx,Uu hz (by omega),hw⟩
theorem Pm{Γ:C8}{S:List B6}{w:World}{b:Nat}{v:Value}{xs:List Pl}{n d:Int}(hN:xs.length+1≤1000000)(hh:i6 xs xs.length)(hw:Wd Γ (BM b v::.own v 216 2 (xs.map f7)::S) w) :
  Calls Tryz.prog 322 #[.pointer (some ⟨b,0,none⟩),.int .i64 n,.int .i64 d] w fun e w'=>e=.returned (.tuple #[])∧∃v' ys,ys.Perm ((n,d)::xs)∧i6 ys ys.length∧Wd Γ (BM b v'::.own v' 216 2 (ys.map f7)::S) w':=by
 refine A7 Tryz.func322 rfl rfl ?_
 refine A6 ?_;refine lY (v:=UN b) ?_ (hy:=R1 rfl)
 refine A6 ?_;refine lY (v:=.iface 216 (.agg (f7 (n,d)).toArray)) ?_ (hy:=R1 rfl)
 refine A6 ?_;refine C9 ((VE hN hh hw).mono fun e w hh'=>?_)
 obtain⟨rfl,h⟩:=hh';refine⟨_,rfl,?_⟩;refine A6 ?_;exact⟨_,rfl,rfl,h⟩
theorem SQ{Γ:C8}{S:List B6}{w:World}{b:Nat}{v:Value}{xs:List Pl}(hw:Wd Γ (BM b v::.own v 216 2 (xs.map f7)::S) w) :
  Calls Tryz.prog 323 #[.pointer (some ⟨b,0,none⟩)] w fun e w'=>e=.returned (.bool (decide ((xs.length:Int)=0)))∧Wd Γ (BM b v::.own v 216 2 (xs.map f7)::S) w':=by
 obtain⟨a,n,c,rfl,hn,hnc,-⟩:=hw.own_shape (i:=1) rfl
 simp only[List.length_map]at hn
 subst hn;refine A7 Tryz.func323 rfl rfl ?_
 refine A6 ?_;exact⟨_,rfl,rfl,hw⟩
theorem Uo{Γ:C8}{S:List B6}{w:World}{b:Nat}{v:Value}{xs:List Pl}(hN:xs.length≤1000000)(h0:xs≠[])(hh:i6 xs xs.length)(hw:Wd Γ (BM b v::.own v 216 2 (xs.map f7)::S) w) :
  Calls Tryz.prog 324 #[.pointer (some ⟨b,0,none⟩)] w fun e w'=>∃(x:Pl) (v':Value) (ys:List Pl),e=.returned (.tuple #[.int .i64 x.1,.int .i64 x.2])∧(x::ys).Perm xs∧(∀y∈xs,x.2≤y.2)∧i6 ys ys.length∧Wd Γ (BM b v'::.own v' 216 2 (ys.map f7)::S) w':=by
 refine A7 Tryz.func324 rfl rfl ?_
 refine A6 ?_;refine lY (v:=UN b) ?_ (hy:=R1 rfl)
 refine A6 ?_;refine C9 ((YT hN h0 hh hw).mono fun e w hh'=>?_)
 obtain⟨x,v',ys,rfl,h1,h2,h3,hw⟩:=hh';refine⟨_,rfl,?_⟩;refine A6 ?_;refine lY (v:=.agg (f7 x).toArray) ?_ (hy:=PX Tryz.underlying216 rfl)
 refine B9 ?_;intro b4 w hw;refine B0 ?_;intro w hw;have hw:Wd Γ (.blk b4 (.cells (f7 x).toArray 216)::BM b v'::.own v' 216 2 (ys.map f7)::S) w:=hw
 refine A6 ?_;refine G9 (by kernel_rfl) (by kernel_rfl) hw ?_
 refine X3 ?_;intro w hw;refine A6 ?_;exact⟨_,rfl,x,v',ys,rfl,h1,h2,h3,hw.drop⟩
def H1(c:Int):Bool:=decide (97≤c)&&decide (c≤122)||decide (65≤c)&&decide (c≤90)||decide (c=95)
def M6(c:Int):Bool:=decide (48≤c)&&decide (c≤57)
instance (c:Int):PC Tryz.prog 153 [.int .u8 c] (.bool (H1 c)):=⟨fun w=>by
 refine A7 Tryz.func153 rfl rfl ?_
 refine A6 ?_;exact⟨_,rfl,rfl,rfl⟩⟩
instance (c:Int):PC Tryz.prog 155 [.int .u8 c] (.bool (M6 c)):=⟨fun w=>by
 refine A7 Tryz.func155 rfl rfl ?_
 refine A6 ?_;exact⟨_,rfl,rfl,rfl⟩⟩
instance (c:Int):PC Tryz.prog 144 [.int .u8 c] (.bool (H1 c)):=⟨fun w=>by
 refine A7 Tryz.func144 rfl rfl ?_
 refine A6 ?_;exact⟨_,rfl,rfl,rfl⟩⟩
instance (c:Int):PC Tryz.prog 145 [.int .u8 c] (.bool (M6 c)):=⟨fun w=>by
 refine A7 Tryz.func145 rfl rfl ?_
 refine A6 ?_;exact⟨_,rfl,rfl,rfl⟩⟩
abbrev B1(s:ByteArray)(i:Nat):Int:=((s.data.toList.getD i 0).toNat:Int)
def L5(b:UInt8):Bool:=H1 b.toNat||M6 b.toNat
def runN(s:ByteArray):Nat:=(s.data.toList.takeWhile L5).length
def s5(s:ByteArray):Bool:=decide (0<s.size)&&H1 (B1 s 0)&&s.data.toList.all L5
def F8(s:ByteArray):Bool:=s5 s&&decide (s.size≤24)
theorem x7{p:UInt8→Bool}:∀ {l:List UInt8} {k:Nat},k≤l.length→(∀i,i<k→p (l.getD i 0)=true)→(k<l.length→p (l.getD k 0)=false)→(l.takeWhile p).length=k
 | [],k,h,_,_=>by simp at h;simp[h]
 | x::l,0,_,_,h2=>by
  have:=h2 (by simp)
  simp at this
  simp[this]
 | x::l,k+1,h,h1,h2=>by
  have h0:=h1 0 (by omega)
  simp at h0
  simp only[List.takeWhile_cons,h0,if_true,List.length_cons]
  rw[x7 (l:=l) (k:=k) (by simpa using h) (fun i hi=>h1 (i+1) (by omega)) (fun hk=>h2 (by simp only[List.length_cons];omega))]
theorem x9(s:ByteArray):s.data.toList.length=s.size:=Array.length_toList
class SB(s:ByteArray):Prop where h:s.size≤9223372036854775807
instance (s:ByteArray)[hs:SB s]:PC Tryz.prog 154 [.string s] (.int .i64 (runN s)):=⟨fun w=>by
 have h63:=hs.h
 refine A7 Tryz.func154 rfl rfl ?_
 refine A6 ?_;refine B3 (fun μ ρ w'=>∃k:Nat,μ+k=s.size∧Has ρ [(0,.string s),(3,.int .i64 k)]∧w'=w∧∀i,i<k→L5 (s.data.toList.getD i 0)=true) s.size ⟨0,rfl,⟨rfl,rfl,trivial⟩,rfl,fun i h=>absurd h (Nat.not_lt_zero i)⟩ ?_
 rintro μ ρ w' ⟨k,hk,hρ,rfl,hi⟩
 rw[hρ.eq];refine A6 ?_;refine A0 rfl (fun h=>?_) (fun h=>?_)
 ·have h':=L2 h
  simp only[decide_eq_true_eq]at h'
  refine A6 ?_;refine⟨μ-1,by omega,k+1,by omega,⟨rfl,rfl,trivial⟩,rfl,fun i hi'=>?_⟩
  by_cases e:i=k
  ·subst e;exact gj h
  ·exact hi i (by omega)
 ·refine A6 ?_;refine⟨_,rfl,G4 rfl ?_,rfl⟩
  have:=x7 (p:=L5) (l:=s.data.toList) (k:=k) (by rw[x9];omega) hi (fun hk'=>by
   rw[x9]at hk';rw[show decide ((k:Int)<(s.size:Int))=true from by simp;omega]at h
   exact h)
  show (k:Int)=((s.data.toList.takeWhile L5).length:Int)
  rw[this]⟩
theorem Kh{p:UInt8→Bool}{l:List UInt8}:((l.takeWhile p).length=l.length)↔l.all p=true:=by
 induction l with
 | nil=>simp
 | cons x l ih=>
  simp only[List.takeWhile_cons,List.all_cons]
  cases p x with
  | true=>simp[ih]
  | false=>simp
instance (s:ByteArray)[hs:SB s]:PC Tryz.prog 247 [.string s] (.bool (s5 s)):=⟨fun w=>by
 refine A7 Tryz.func247 rfl rfl ?_
 refine A6 ?_;refine⟨_,rfl,F2 rfl ?_,rfl⟩
 have h1:decide (s≠⟨#[]⟩)=decide (0<s.size):=by simp only[ne_nilB]
 have h2:decide ((runN s:Int)=(s.size:Int))=s.data.toList.all L5:=by
  rw[Bool.eq_iff_iff,decide_eq_true_eq,←Kh,x9];unfold runN;omega
 rw[h1,h2];rfl⟩
instance (s:ByteArray)[hs:SB s]:PC Tryz.prog 170 [.string s] (.bool (F8 s)):=⟨fun w=>by
 refine A7 Tryz.func170 rfl rfl ?_
 refine A6 ?_;refine⟨_,rfl,F2 rfl ?_,rfl⟩
 unfold F8;congr 1
 rw[decide_eq_decide];omega⟩
instance (s:ByteArray)[hs:SB s]:PC Tryz.prog 75 [.string s] (.bool (s5 s)):=⟨fun w=>by
 have h63:=hs.h
 refine A7 Tryz.func75 rfl rfl ?_
 refine A6 ?_;refine A0 rfl (fun h=>?_) (fun h=>?_)
 ·refine A6 ?_;refine⟨_,rfl,F2 rfl ?_,rfl⟩
  unfold s5;by_cases h0:s=⟨#[]⟩
  ·subst h0;rfl
  ·rw[show decide (s=⟨#[]⟩)=false from by simpa using h0]at h
   have h1:H1 (B1 s 0)=false:=by have h':(false || !H1 (B1 s 0))=true:=h;simpa using h'
   rw[h1];simp
 ·simp only[Bool.or_eq_false_iff,Bool.not_eq_false',decide_eq_false_iff_not,eq_nilB]at h
  have h1:H1 (B1 s 0)=true:=h.2
  refine A6 ?_;refine B3 (fun μ ρ w'=>∃k:Nat,μ+k=s.size∧Has ρ [(0,.string s),(3,.int .i64 k)]∧w'=w∧0<k∧∀i,i<k→L5 (s.data.toList.getD i 0)=true) (s.size-1) ⟨1,by omega,⟨rfl,rfl,trivial⟩,rfl,by omega,fun i hi=>?_⟩ ?_
  ·have:i=0:=by omega
   subst this;show (H1 (B1 s 0)||_)=true
   rw[h1];rfl
  rintro μ ρ w' ⟨k,hk,hρ,rfl,hk0,hi⟩
  rw[hρ.eq];refine A6 ?_;refine A0 rfl (fun h2=>?_) (fun h2=>?_)
  ·have h':k<s.size:=by simpa using h2
   refine A6 ?_;refine A0 rfl (fun h3=>?_) (fun h3=>?_)
   ·refine A6 ?_;refine⟨_,rfl,F2 rfl ?_,rfl⟩
    have h4:L5 (s.data.toList.getD k 0)=false:=by
     show (H1 (B1 s k)||M6 (B1 s k))=false
     have h5:(!H1 (B1 s k) && !M6 (B1 s k))=true:=h3
     simpa using h5
    have h6:s.data.toList.all L5=false:=by
     rw[←Bool.not_eq_true,List.all_eq_true];intro hall;have hm:=hall (s.data.toList.getD k 0) (by
      rw[List.getD_eq_getElem?_getD,List.getElem?_eq_getElem (by rw[x9];exact h')]
      exact List.getElem_mem _)
     rw[h4]at hm;cases hm
    unfold s5;rw[h6];simp
   ·refine A6 ?_;refine⟨μ-1,by omega,k+1,by omega,⟨rfl,rfl,trivial⟩,rfl,by omega,fun i hi'=>?_⟩
    by_cases e:i=k
    ·subst e;have h5:(!H1 (B1 s i) && !M6 (B1 s i))=false:=h3
     show (H1 (B1 s i)||M6 (B1 s i))=true
     cases hl:H1 (B1 s i) <;> cases hd:M6 (B1 s i) <;> simp[hl,hd]at h5 ⊢
    ·exact hi i (by omega)
  ·refine A6 ?_;refine⟨_,rfl,F2 rfl ?_,rfl⟩
   have h':¬k<s.size:=by simpa using h2
   have h6:s.data.toList.all L5=true:=by
    rw[List.all_eq_true];intro x hx;obtain⟨i,hil,rfl⟩:=List.getElem_of_mem hx
    have:=hi i (by rw[x9]at hil;omega)
    rwa [List.getD_eq_getElem?_getD,List.getElem?_eq_getElem hil]at this
   unfold s5;rw[h6,h1];simp;omega⟩
class eF(n:Int):Prop where h:0<n∧n≤1099511627776
instance (v n:Int)[hn:eF n]:PC Tryz.prog 15 [.int .i64 v,.int .i64 n] (.int .i64 (v%n)):=⟨fun w=>by
 have h:=hn.h
 have hm:=Int.tmod_lt_of_pos v h.1
 have hm2:-n<v.tmod n:=by
  have:=Int.tmod_lt_of_pos (-v) h.1
  rw[Int.neg_tmod]at this;omega
 have he:v%n=if v.tmod n<0 then v.tmod n+n else v.tmod n:=by
  have h3:v%n=v.tmod n%n:=by
   have h4:=Int.mul_tdiv_add_tmod v n
   have h5:=Int.mul_add_emod_self_left n (v.tdiv n) (v.tmod n)
   rw[h4]at h5;exact h5
  rw[h3];split
  ·rw[←Int.add_emod_right];exact Int.emod_eq_of_lt (by omega) (by omega)
  ·exact Int.emod_eq_of_lt (by omega) hm
 refine A7 Tryz.func15 rfl rfl ?_
 refine A6 ?_;refine A0 rfl (fun h1=>?_) (fun h1=>?_)
 ·refine A6 ?_;refine⟨_,rfl,G4 rfl ?_,rfl⟩
  rw[he,if_pos (by simpa using h1)]
 ·refine A6 ?_;refine⟨_,rfl,G4 rfl ?_,rfl⟩
  rw[he,if_neg (by simpa using h1)]⟩
set_option maxHeartbeats 400000
abbrev M8(s:ByteArray):List UInt8:=s.data.toList
theorem P2(s:ByteArray):(M8 s).length=s.size:=Array.length_toList
theorem BX(s:ByteArray)(a b:Nat):M8 (G2 s a b)=((M8 s).drop a).take (b-a):=by
 unfold G2;show (s.extract a b).data.toList=_
 rw[ByteArray.data_extract,Array.toList_extract,List.extract_eq_take_drop]
theorem BL{s t:ByteArray}(h:M8 s=M8 t):s=t:=by
 cases s;cases t
 congr 1
 exact Array.toList_inj.1 h
theorem y5{s:ByteArray}{a b:Nat}(h:b≤s.size):(G2 s a b).size=b-a:=by
 rw[←P2,BX,List.length_take,List.length_drop,P2];omega
theorem WT{s:ByteArray}{a b j:Nat}(h:a+j<b):B1 (G2 s a b) j=B1 s (a+j):=by
 unfold B1;have:=BX s a b
 unfold M8 at this;rw[this,List.getD_eq_getElem?_getD,List.getD_eq_getElem?_getD,List.getElem?_take_of_lt (by omega),List.getElem?_drop]
def GA(c:Int):Int:=if M6 c=true then c-48 else if decide (97≤c)&&decide (c≤102) then c-97+10 else if decide (65≤c)&&decide (c≤70) then c-65+10 else -1
def Am(c base:Int):Int:=if base≤GA c then -1 else GA c
def Ae(c:Int):Bool:=decide (32≤c)&&decide (c≤126)&&decide (c≠34)&&decide (c≠92)
theorem Ru(c:Int):-1≤GA c∧GA c<16:=by
 unfold GA M6;split
 ·rename_i h;simp at h;omega
 ·split
  ·rename_i h;simp at h;omega
  ·split
   ·rename_i h;simp at h;omega
   ·omega
theorem Sg(c base:Int)(hb:0<base):Am c base = -1∨(0≤Am c base∧Am c base<base∧Am c base<16):=by
 have:=Ru c
 unfold Am;split
 ·exact .inl rfl
 ·by_cases h:GA c = -1
  ·exact .inl h
  ·exact .inr ⟨by omega,by omega,this.2⟩
def IR(base:Nat):List UInt8→Nat→Nat
 | [],v=>v
 | c::l,v=>IR base l (v*base+(Am c.toNat base).toNat)
theorem UC(base:Nat)(hb:0<base):∀(l:List UInt8) (v:Nat),v≤IR base l v
 | [],v=>Nat.le_refl v
 | c::l,v=>Nat.le_trans (by
   have:v≤v*base:=Nat.le_mul_of_pos_right v hb
   omega) (UC base hb l _)
def Z9:Nat:=18446744073709551615
def Z5(base sh:Nat)(l:List UInt8):Nat×Int:=
 if l.all (fun c=>decide (0≤Am c.toNat base))=false then (0,50)
 else if Z9 >>> sh<IR base l 0 then (0,6) else (IR base l 0 <<< sh,0)
def EJ(c:Int):Nat:=if c=71 then 30 else if c=77 then 20 else if c=75 then 10 else 0
def Eo(s:ByteArray):Nat×Int:=
 let sh:=EJ (B1 s (s.size-1))
 let s:=if 0<sh then G2 s 0 (s.size-1) else s
 if 2≤s.size∧B1 s 0=48∧B1 s 1=120 then
  if s.size=2 then (0,50) else Z5 16 sh (M8 (G2 s 2 s.size))
 else if s.size=0∨(1<s.size∧B1 s 0=48) then (0,50) else Z5 10 sh (M8 s)
def CF(a b:Int):Bool:=(decide (a=60)&&decide (b=61))||(decide (a=62)&&decide (b=61))||(decide (a=33)&&decide (b=61))||(decide (a=46)&&decide (b=46))||(decide (a=45)&&decide (b=62))
def MX:List UInt8:=[123,125,40,41,91,93,44,59,58,61,60,62,33,43,45,42,63,46,47]
def I5(s:ByteArray):Nat:=if 2≤s.size∧CF (B1 s 0) (B1 s 1)=true then 2 else if 0<s.size∧(s.data.toList.getD 0 0)∈MX then 1 else 0
def u9(b:UInt8):Bool:=Ae b.toNat
def Ac(s:ByteArray):Nat:=1+(((M8 s).drop 1).takeWhile u9).length
structure eK where
 kind:Int
 text:ByteArray
 value:Nat
 n:Nat
 err:Int
def HV(e:Int):eK:=⟨0,⟨#[]⟩,0,0,e⟩
def O3(s:ByteArray):eK:=
 if H1 (B1 s 0)=true then ⟨1,G2 s 0 (runN s),0,runN s,0⟩
 else if M6 (B1 s 0)=true then (if (Eo (G2 s 0 (runN s))).2=0 then ⟨2,⟨#[]⟩,(Eo (G2 s 0 (runN s))).1,runN s,0⟩ else HV (Eo (G2 s 0 (runN s))).2)
 else if B1 s 0=34 then (if Ac s<s.size∧B1 s (Ac s)=34 then ⟨3,G2 s 1 (Ac s),0,Ac s+1,0⟩ else HV 50)
 else if I5 s=0 then HV 50 else ⟨4,G2 s 0 (I5 s),0,I5 s,0⟩
structure Tok where
 Kind:Int
 Text:ByteArray
 Value:Int
 Line:Int
 Col:Int
 deriving DecidableEq
instance:Inhabited Tok:=⟨⟨0,⟨#[]⟩,0,0,0⟩⟩
instance:KV Tok where
 enc a:=[.int .i64 a.Kind,.string a.Text,.int .u64 a.Value,.int .i64 a.Line,.int .i64 a.Col]
 inj a b h:=by cases a;cases b;simp at h;simp[h]
 ks:=[5,1,9,5,5]
 kinds a:=rfl
structure H9 where
 Line:Int
 Col:Int
 deriving DecidableEq,Inhabited
instance:KV H9 where
 enc a:=[.int .i64 a.Line,.int .i64 a.Col]
 inj a b h:=by cases a;cases b;simp at h;simp[h]
 ks:=[5,5]
 kinds a:=rfl
def D9(s:ByteArray):Nat→H9
 | 0=>⟨1,1⟩
 | k+1=>if B1 s k=10 then ⟨(D9 s k).Line+1,1⟩ else ⟨(D9 s k).Line,(D9 s k).Col+1⟩
def FD(s:ByteArray)(off:Nat):Nat:=off+(((M8 s).drop off).takeWhile fun b=>decide ((b.toNat:Int)≠10)).length
def BA(c:Int):Bool:=decide (c=10)||decide (c=32)||decide (c=9)||decide (c=13)
def W2(s:ByteArray):Nat→Nat→List Tok→List Tok×H9×Int
 | 0,_,acc=>(acc,⟨0,0⟩,0)
 | f+1,off,acc=>
  if s.size≤off then (acc,⟨0,0⟩,0)
  else if BA (B1 s off)=true then W2 s f (off+1) acc
  else if B1 s off=35 then W2 s f (FD s off) acc
  else if (O3 (G2 s off s.size)).err=0 then W2 s f (off+(O3 (G2 s off s.size)).n) (acc++[⟨(O3 (G2 s off s.size)).kind,(O3 (G2 s off s.size)).text,(O3 (G2 s off s.size)).value,(D9 s off).Line,(D9 s off).Col⟩])
  else ([],D9 s off,(O3 (G2 s off s.size)).err)
def I6(s:ByteArray):List Tok×H9×Int:=if 65536<s.size then ([],⟨0,0⟩,15) else W2 s (s.size+1) 0 []
set_option maxHeartbeats 4000000
theorem fO{P:Program}{n:Nat}{opa:Array Oper}{QQ:Exit→Fr→World→Prop}{rest:List Oper}{ρ:Fr}{w:World}{d:Option Tmp}{ty:TypeId}{pos:String}{es:Array Edge}{f:Nat}{args:List Operand}{tys:Array TypeId}{vs:List Value}{v:Value}
  (he:∀w,(callFunc f vs.toArray).run P w=.ok (.value v) w) (h:L P n opa QQ rest (D6 ρ d v) w) (ha:EvL ρ args vs:=by exact AB) (hd:G7 n d=true:=by exact rfl) :
  L P n opa QQ (⟨d,.call { callee:=.value (.func f),args:=args.toArray,argTypes:=tys },ty,pos,es,none⟩::rest) ρ w:=
 eN rfl hd (by
  unfold Mk.Yields;simp only[execOp,resolve,ha.eqA,ev,Deferred.ofValue,Sem.run_bind,Sem.run_pure,Result.andThen_ok,invoke]
  simp[he]) h
instance dF(c:Int):PC Tryz.prog 157 [.int .u8 c] (.bool (Ae c)):=⟨fun w=>by
 refine A7 Tryz.func157 rfl rfl ?_
 refine A6 ?_;exact⟨_,rfl,rfl,rfl⟩⟩
class XI(b:Int):Prop where h:0<b∧b≤16
theorem MY{a:Int}(h0:0≤a)(h1:a≤255):IntKind.u8.wrap a=a:=by
 simp[IntKind.wrap,IntKind.bits,IntKind.signed];omega
theorem bF(b:UInt8):0≤((b.toNat:Nat):Int)∧((b.toNat:Nat):Int)≤255:=by
 have:=b.toNat_lt;omega
instance gO(b:UInt8)(base:Int)[hb:XI base]:PC Tryz.prog 238 [.int .u8 ((b.toNat:Nat):Int),.int .u64 base] (.int .i64 (Am ((b.toNat:Nat):Int) base)):=⟨fun w=>by
 obtain⟨hb0,hb1⟩:=hb.h;obtain⟨hc0,hc1⟩:=bF b
 generalize ((b.toNat:Nat):Int)=c at *
 have hbw:IntKind.i64.wrap base=base:=wrap_i64 (by omega) (by omega)
 refine A7 Tryz.func238 rfl rfl ?_
 iterate 8 (first|refine E6 ?_|(refine E7 ?_;intro w hw))
 refine BK (fun ρ w'=>Has ρ [(1,.int .u64 base),(5,.int .i64 (GA c))]∧w'=w) ?_ ?_
 ·refine A6 ?_;refine A0 rfl (fun h=>?_) (fun h=>?_)
  ·refine A6 ?_;refine⟨⟨rfl,?_,trivial⟩,rfl⟩
   have h1:48≤c∧c≤57:=by simpa[M6] using h
   show Value.int .i64 (IntKind.i64.wrap (IntKind.u8.wrap (c-48)))=_
   rw[MY (by omega) (by omega),wrap_i64 (by omega) (by omega)]
   unfold GA;rw[if_pos h]
  ·refine A6 ?_;refine A0 rfl (fun h2=>?_) (fun h2=>?_)
   ·refine A6 ?_;refine⟨⟨rfl,?_,trivial⟩,rfl⟩
    have h1:97≤c∧c≤102:=by simpa using h2
    show Value.int .i64 (IntKind.i64.wrap (IntKind.i64.wrap (IntKind.u8.wrap (c-97))+10))=_
    rw[MY (by omega) (by omega),wrap_i64 (a:=c-97) (by omega) (by omega),wrap_i64 (by omega) (by omega)]
    unfold GA;rw[if_neg (by simp[h]),if_pos h2]
   ·refine A6 ?_;refine A0 rfl (fun h3=>?_) (fun h3=>?_)
    ·refine A6 ?_;refine⟨⟨rfl,?_,trivial⟩,rfl⟩
     have h1:65≤c∧c≤70:=by simpa using h3
     show Value.int .i64 (IntKind.i64.wrap (IntKind.i64.wrap (IntKind.u8.wrap (c-65))+10))=_
     rw[MY (by omega) (by omega),wrap_i64 (a:=c-65) (by omega) (by omega),wrap_i64 (by omega) (by omega)]
     unfold GA;rw[if_neg (by simp[h]),if_neg (by simpa using h2),if_pos h3]
    ·refine A6 ?_;refine⟨⟨rfl,?_,trivial⟩,rfl⟩
     show Value.int .i64 (-1)=_
     unfold GA;rw[if_neg (by simp[h]),if_neg (by simpa using h2),if_neg (by simpa using h3)]
 ·rintro ρ w' ⟨hρ,rfl⟩
  rw[hρ.eq];refine A6 ?_;rw[hbw];refine A0 rfl (fun h=>?_) (fun h=>?_)
  ·refine A6 ?_;have h:base≤GA c:=by simpa using h
   exact⟨_,rfl,G4 rfl (by unfold Am;rw[if_pos h]),rfl⟩
  ·refine A6 ?_;have h:¬base≤GA c:=by simpa using h
   exact⟨_,rfl,G4 rfl (by unfold Am;rw[if_neg h]),rfl⟩⟩
instance cA(s p:ByteArray):PC Tryz.prog 237 [.string s,.string p] (.bool (decide ((p.size:Int)≤s.size)&&decide (G2 s 0 p.size=p))):=⟨fun w=>by
 have h1:PC Tryz.prog 286 [.string s,.string p] (.bool (decide ((p.size:Int)≤s.size)&&decide (G2 s 0 p.size=p))):=⟨fun w=>by
  refine A7 Tryz.func286 rfl rfl ?_
  refine A6 ?_;exact⟨_,rfl,rfl,rfl⟩⟩
 refine A7 Tryz.func237 rfl rfl ?_
 refine A6 ?_;exact⟨_,rfl,rfl,rfl⟩⟩
theorem Kj(s:ByteArray)(c:Int)(w:World):(callFunc 287 #[.string s,.int .u8 c]).run Tryz.prog w=.ok (.value (.int .i64 (firstIdx s c.toNat.toUInt8))) w:=by
 rw[run_callFunc_extern Tryz.func287 (by kernel_rfl) (by kernel_rfl) (e:=Extern.BytealgIndexByte.indexByte) (by kernel_rfl) (by kernel_rfl),run_indexByte_string]
 rfl
instance ac(s:ByteArray)(c:Int):PC Tryz.prog 239 [.string s,.int .u8 c] (.int .i64 (firstIdx s c.toNat.toUInt8)):=⟨fun w=>by
 have h1:PC Tryz.prog 240 [.string s,.int .u8 c] (.int .i64 (firstIdx s c.toNat.toUInt8)):=⟨fun w=>by
  refine A7 Tryz.func240 rfl rfl ?_
  refine A6 ?_;refine fO (vs:=[.string s,.int .u8 c]) (Kj s c) ?_
  refine A6 ?_;exact⟨_,rfl,rfl,rfl⟩⟩
 refine A7 Tryz.func239 rfl rfl ?_
 refine A6 ?_;exact⟨_,rfl,rfl,rfl⟩⟩
theorem two_bytes{s:ByteArray}(h:2≤s.size):∃x y:UInt8,B1 s 0=x.toNat∧B1 s 1=y.toNat∧G2 s 0 2=⟨#[x,y]⟩:=by
 have hl:=P2 s
 obtain⟨x,y,r,hr⟩:∃x y r,M8 s=x::y::r:=by
  match hb:M8 s with
  | []=>rw[hb]at hl;simp at hl;omega
  | [x]=>rw[hb]at hl;simp at hl;omega
  | x::y::r=>exact⟨x,y,r,rfl⟩
 refine⟨x,y,?_,?_,?_⟩
 ·show (((M8 s).getD 0 0).toNat:Int)=_;rw[hr];rfl
 ·show (((M8 s).getD 1 0).toNat:Int)=_;rw[hr];rfl
 ·apply BL;rw[BX,hr];rfl
theorem Cw(x y a b:UInt8):((⟨#[x,y]⟩:ByteArray)=⟨#[a,b]⟩)↔(x.toNat=a.toNat∧y.toNat=b.toNat):=by
 simp[UInt8.toNat_inj]
theorem VZ:∀n:Fin 256,decide (0≤firstIdx ⟨#[123,125,40,41,91,93,44,59,58,61,60,62,33,43,45,42,63,46,47]⟩ (UInt8.ofNat n.1))=decide (UInt8.ofNat n.1∈MX):=by decide +kernel
instance fQ(s:ByteArray)[hs:SB s]:PC Tryz.prog 158 [.string s] (.int .i64 (I5 s)):=⟨fun w=>by
 have hs:=hs.h
 refine A7 Tryz.func158 rfl rfl ?_
 iterate 4 (first|refine E6 ?_|(refine E7 ?_;intro w hw))
 refine BK (fun ρ w'=>Has ρ [(0,.string s)]∧w'=w∧¬(2≤s.size∧CF (B1 s 0) (B1 s 1)=true)) ?_ ?_
 ·refine A6 ?_;refine A0 rfl (fun h=>?_) (fun h=>?_)
  ·have h:2≤s.size:=by simp at h;omega
   obtain⟨x,y,hx,hy,hxy⟩:=two_bytes h
   have key:CF (B1 s 0) (B1 s 1)=true→Ending.returned (.int .i64 2)=Ending.returned (.int .i64 (I5 s)):=fun ht=>by
    unfold I5;rw[if_pos ⟨h,ht⟩];rfl
   rw[hx,hy]at key;refine A6 ?_;rw[show (2:Int).toNat=2 from rfl,hxy];refine A0 rfl (fun h1=>?_) (fun h1=>?_)
   ·refine A6 ?_;refine O0 (by simp only[h1];rfl) ?_
    refine A6 ?_;have q:=(Cw _ _ _ _).1 (of_decide_eq_true h1)
    exact⟨_,rfl,key (by simp[CF,q]),rfl⟩
   refine A6 ?_;refine A0 rfl (fun h2=>?_) (fun h2=>?_)
   ·refine A6 ?_;refine O0 (by simp only[h2];rfl) ?_
    refine A6 ?_;have q:=(Cw _ _ _ _).1 (of_decide_eq_true h2)
    exact⟨_,rfl,key (by simp[CF,q]),rfl⟩
   refine A6 ?_;refine A0 rfl (fun h3=>?_) (fun h3=>?_)
   ·refine A6 ?_;refine O0 (by simp only[h3];rfl) ?_
    refine A6 ?_;have q:=(Cw _ _ _ _).1 (of_decide_eq_true h3)
    exact⟨_,rfl,key (by simp[CF,q]),rfl⟩
   refine A6 ?_;refine A0 rfl (fun h4=>?_) (fun h4=>?_)
   ·refine A6 ?_;refine O0 (by simp only[h4];rfl) ?_
    refine A6 ?_;have q:=(Cw _ _ _ _).1 (of_decide_eq_true h4)
    exact⟨_,rfl,key (by simp[CF,q]),rfl⟩
   refine A6 ?_;refine A0 rfl (fun h5=>?_) (fun h5=>?_)
   ·refine A6 ?_;have q:=(Cw _ _ _ _).1 (of_decide_eq_true h5)
    exact⟨_,rfl,key (by simp[CF,q]),rfl⟩
   ·refine A6 ?_;refine⟨⟨rfl,trivial⟩,rfl,fun hh=>?_⟩
    have hh:=hh.2
    rw[hx,hy]at hh;have q:=fun a b (hq:decide ((⟨#[x,y]⟩:ByteArray)=⟨#[a,b]⟩)=false)=>mt (Cw x y a b).2 (of_decide_eq_false hq)
    have q1:=q _ _ h1
    have q2:=q _ _ h2
    have q3:=q _ _ h3
    have q4:=q _ _ h4
    have q5:=q _ _ h5
    simp[CF]at hh q1 q2 q3 q4 q5
    omega
  ·have h:¬2≤s.size:=by simp at h;omega
   refine A6 ?_;exact⟨⟨rfl,trivial⟩,rfl,fun hh=>h hh.1⟩
 ·rintro ρ w' ⟨hρ,rfl,hn⟩
  rw[hρ.eq];have key:(decide (s≠⟨#[]⟩)&&decide (0≤firstIdx ⟨#[123,125,40,41,91,93,44,59,58,61,60,62,33,43,45,42,63,46,47]⟩ (B1 s 0).toNat.toUInt8))=decide (I5 s=1):=by
   have h1:=VZ ⟨(s.data.toList.getD 0 0).toNat,(s.data.toList.getD 0 0).toNat_lt⟩
   have h2:(B1 s 0).toNat.toUInt8=s.data.toList.getD 0 0:=by
    show (((s.data.toList.getD 0 0).toNat:Int).toNat).toUInt8=_
    rw[Int.toNat_natCast];simp
   have h3:UInt8.ofNat (s.data.toList.getD 0 0).toNat=s.data.toList.getD 0 0:=by simp
   rw[h3]at h1;rw[h2,h1];unfold I5;rw[if_neg hn];rw[show decide (s≠⟨#[]⟩)=decide (0<s.size) from decide_eq_decide.2 ne_nilB]
   by_cases e1:0<s.size <;> by_cases e2:s.data.toList.getD 0 0∈MX <;> simp[e1,e2]
  have hp:I5 s=1∨I5 s=0:=by
   unfold I5;rw[if_neg hn];split <;> simp
  refine A6 ?_;refine A0 rfl (fun h=>?_) (fun h=>?_)
  ·have h:=of_decide_eq_true (key.symm.trans h)
   refine A6 ?_;exact⟨_,rfl,G4 rfl (by rw[h];rfl),rfl⟩
  ·have h:=of_decide_eq_false (key.symm.trans h)
   have h0:=hp.resolve_left h
   refine A6 ?_;exact⟨_,rfl,G4 rfl (by rw[h0];rfl),rfl⟩⟩
theorem CM{a:Int}(h0:0≤a)(h1:a≤18446744073709551615):IntKind.u64.wrap a=a:=by
 simp[IntKind.wrap,IntKind.bits,IntKind.signed];omega
theorem Qp(c:Int):EJ c=0∨EJ c=10∨EJ c=20∨EJ c=30:=by
 unfold EJ;repeat(first|split|simp)
def Ef(sh:Nat)(s:ByteArray):Nat×Int:=
 if 2≤s.size∧B1 s 0=48∧B1 s 1=120 then
  if s.size=2 then (0,50) else Z5 16 sh (M8 (G2 s 2 s.size))
 else if s.size=0∨(1<s.size∧B1 s 0=48) then (0,50) else Z5 10 sh (M8 s)
def SJ(s:ByteArray):ByteArray:=if 0<EJ (B1 s (s.size-1)) then G2 s 0 (s.size-1) else s
theorem VI(s:ByteArray):Eo s=Ef (EJ (B1 s (s.size-1))) (SJ s):=rfl
def Nz(base sh:Nat)(s:ByteArray):Nat×Int:=if s.size=0∨(base=10∧1<s.size∧B1 s 0=48) then (0,50) else Z5 base sh (M8 s)
theorem ff{s:ByteArray}:(decide (((⟨#[48,120]⟩:ByteArray).size:Int)≤s.size)&&decide (G2 s 0 (⟨#[48,120]⟩:ByteArray).size=⟨#[48,120]⟩))=decide (2≤s.size∧B1 s 0=48∧B1 s 1=120):=by
 show (decide ((2:Int)≤s.size)&&decide (G2 s 0 2=⟨#[48,120]⟩))=_
 by_cases h:2≤s.size
 ·obtain⟨x,y,hx,hy,hxy⟩:=two_bytes h
  rw[hxy,hx,hy];have h1:(2:Int)≤s.size:=by omega
  have h2:=Cw x y 48 120
  simp only[h,h1,h2,decide_true,Bool.true_and,true_and]
  congr 1
  simp
  omega
 ·have h1:¬(2:Int)≤s.size:=by omega
  simp[h,h1]
theorem Yy{sh:Nat}{s:ByteArray}(h:2≤s.size∧B1 s 0=48∧B1 s 1=120):Ef sh s=Nz 16 sh (G2 s 2 s.size):=by
 unfold Ef Nz;rw[if_pos h,y5 (Nat.le_refl _)];by_cases h2:s.size=2
 ·rw[if_pos h2,if_pos (.inl (by omega))]
 ·rw[if_neg h2,if_neg (by omega)]
theorem cH{sh:Nat}{s:ByteArray}(h:¬(2≤s.size∧B1 s 0=48∧B1 s 1=120)):Ef sh s=Nz 10 sh s:=by
 unfold Ef Nz;rw[if_neg h];simp
theorem drop_at{α:Type}{l:List α}{k:Nat}{x:α}(h:l[k]? = some x):l.drop k=x::l.drop (k+1):=by
 obtain⟨h1,h2⟩:=List.getElem?_eq_some_iff.1 h
 rw[←h2];exact List.drop_eq_getElem_cons h1
theorem SE(s:ByteArray)(hs:s.size≤4611686018427387904)(h0:0<s.size)(w:World) :
  Calls Tryz.prog 156 #[.string s] w fun e w'=>e=.returned (.tuple #[.int .u64 (Eo s).1,.int .i64 (Eo s).2])∧w'=w:=by
 refine A7 Tryz.func156 rfl rfl ?_
 iterate 9 (first|refine E6 ?_|(refine E7 ?_;intro w hw))
 refine BK (fun ρ w'=>∃s':ByteArray,∃sh:Nat,Has ρ [(0,.string s'),(4,.int .i64 sh)]∧w'=w∧s'=SJ s∧sh=EJ (B1 s (s.size-1))) ?_ ?_
 ·have e1:((s.size:Int)-1).toNat=s.size-1:=by omega
  refine A6 ?_;rw[e1];refine A0 rfl (fun h=>?_) (fun h=>?_)
  ·have h:B1 s (s.size-1)=71:=of_decide_eq_true h
   have hk:EJ (B1 s (s.size-1))=30:=by rw[h];rfl
   refine A6 ?_;rw[e1];exact⟨_,30,⟨rfl,rfl,trivial⟩,rfl,by unfold SJ;rw[hk];rfl,hk.symm⟩
  refine A6 ?_;refine A0 rfl (fun h2=>?_) (fun h2=>?_)
  ·have h2:B1 s (s.size-1)=77:=of_decide_eq_true h2
   have hk:EJ (B1 s (s.size-1))=20:=by rw[h2];rfl
   refine A6 ?_;rw[e1];exact⟨_,20,⟨rfl,rfl,trivial⟩,rfl,by unfold SJ;rw[hk];rfl,hk.symm⟩
  refine A6 ?_;refine A0 rfl (fun h3=>?_) (fun h3=>?_)
  ·have h3:B1 s (s.size-1)=75:=of_decide_eq_true h3
   have hk:EJ (B1 s (s.size-1))=10:=by rw[h3];rfl
   refine A6 ?_;rw[e1];exact⟨_,10,⟨rfl,rfl,trivial⟩,rfl,by unfold SJ;rw[hk];rfl,hk.symm⟩
  ·have h:¬B1 s (s.size-1)=71:=of_decide_eq_false h
   have h2:¬B1 s (s.size-1)=77:=of_decide_eq_false h2
   have h3:¬B1 s (s.size-1)=75:=of_decide_eq_false h3
   have hk:EJ (B1 s (s.size-1))=0:=by unfold EJ;rw[if_neg h,if_neg h2,if_neg h3]
   refine A6 ?_;exact⟨s,0,⟨rfl,rfl,trivial⟩,rfl,by unfold SJ;rw[hk];rfl,hk.symm⟩
 ·rintro ρ w' ⟨s',sh,hρ,rfl,hs',hsh⟩
  rw[hρ.eq,VI,←hs',←hsh];have hcase:=Qp (B1 s (s.size-1))
  rw[←hsh]at hcase;have hsz:s'.size≤4611686018427387904:=by
   rw[hs'];unfold SJ;split
   ·rw[y5 (by omega)];omega
   ·exact hs
  clear hs' hsh hρ;iterate 4 (first|refine E6 ?_|(refine E7 ?_;intro w hw))
  refine BK (fun ρ w''=>∃s2:ByteArray,∃base:Nat,Has ρ [(0,.string s2),(4,.int .i64 sh),(5,.int .u64 base)]∧w''=w'∧Ef sh s'=Nz base sh s2∧(base=10∨base=16)∧s2.size≤4611686018427387904) ?_ ?_
  ·refine A6 ?_;rw[ff];refine A0 rfl (fun h=>?_) (fun h=>?_)
   ·have h:=of_decide_eq_true h
    obtain⟨hp1,hp2,hp3⟩:=h;refine A6 ?_;exact⟨G2 s' 2 s'.size,16,⟨rfl,rfl,rfl,trivial⟩,rfl,Yy ⟨hp1,hp2,hp3⟩,.inr rfl,by rw[y5 (Nat.le_refl _)];omega⟩
   ·have h:=of_decide_eq_false h
    refine A6 ?_;exact⟨s',10,⟨rfl,rfl,rfl,trivial⟩,rfl,cH h,.inl rfl,hsz⟩
  ·rintro ρ w'' ⟨s2,base,hρ,rfl,hN,hbase,hsz2⟩
   rw[hρ.eq,hN];clear hN hρ hsz;have key:(decide (s2=⟨#[]⟩)||((decide ((base:Int)=10)&&decide ((1:Int)<s2.size))&&decide (B1 s2 0=48)))=decide (s2.size=0∨(base=10∧1<s2.size∧B1 s2 0=48)):=by
    rw[show decide (s2=⟨#[]⟩)=decide (s2.size=0) from decide_eq_decide.2 eq_nilB]
    rw[show decide ((base:Int)=10)=decide (base=10) from decide_eq_decide.2 (by omega),show decide ((1:Int)<s2.size)=decide (1<s2.size) from decide_eq_decide.2 (by omega)]
    by_cases e1:s2.size=0 <;> by_cases e2:base=10 <;> by_cases e3:1<s2.size <;> by_cases e4:B1 s2 0=48 <;> simp[e1,e2,e3,e4]
   refine A6 ?_;refine A0 rfl (fun h=>?_) (fun h=>?_)
   ·have h:=of_decide_eq_true (key.symm.trans h)
    refine A6 ?_;exact⟨_,rfl,by unfold Nz;rw[if_pos h];rfl,rfl⟩
   have h:=of_decide_eq_false (key.symm.trans h)
   have hN:Nz base sh s2=Z5 base sh (M8 s2):=by unfold Nz;rw[if_neg h]
   rw[hN];clear hN key;haveI:XI (base:Int):=⟨by omega⟩
   have hbl:=P2 s2
   refine A6 ?_;refine B3 (fun μ ρ w=>∃k:Nat,μ+k=s2.size∧Has ρ [(0,.string s2),(4,.int .i64 sh),(5,.int .u64 base),(6,.int .i64 k)]∧((M8 s2).take k).all (fun c=>decide (0≤Am c.toNat base))=true∧w=w'') s2.size ⟨0,by omega,⟨rfl,rfl,rfl,rfl,trivial⟩,rfl,rfl⟩ ?_
   rintro μ ρ w ⟨k,hk,hρ,hall,rfl⟩
   rw[hρ.eq];refine A6 ?_;refine A0 rfl (fun h1=>?_) (fun h1=>?_)
   ·have hkn:k<s2.size:=by simpa using h1
    obtain⟨c,hc⟩:=B2 (l:=M8 s2) (k:=k) (by omega)
    have hg:s2.data.toList.getD (k:Int).toNat 0=c:=by
     show (M8 s2).getD k 0=c
     rw[List.getD_eq_getElem?_getD,hc];rfl
    have hmem:c∈M8 s2:=List.mem_of_getElem? hc
    refine A6 ?_;rw[hg];refine A0 rfl (fun h2=>?_) (fun h2=>?_)
    ·have h2:Am c.toNat base<0:=of_decide_eq_true h2
     have hf:(M8 s2).all (fun c=>decide (0≤Am c.toNat base))=false:=by
      rw[List.all_eq_false];exact⟨c,hmem,by simp;omega⟩
     refine A6 ?_;exact⟨_,rfl,by unfold Z5;rw[if_pos hf];rfl,rfl⟩
    ·have h2:¬Am c.toNat base<0:=of_decide_eq_false h2
     refine A6 ?_;refine⟨μ-1,by omega,k+1,by omega,⟨rfl,rfl,rfl,rfl,trivial⟩,?_,rfl⟩
     rw[List.take_add_one,hc,List.all_append,hall];simp;omega
   have hkn:¬k<s2.size:=by simpa using h1
   rw[List.take_of_length_le (by omega)]at hall
   clear h1 hkn;refine A6 ?_;refine B3 (fun μ ρ w'=>∃k v:Nat,μ+k=s2.size∧Has ρ [(0,.string s2),(4,.int .i64 sh),(5,.int .u64 base),(7,.int .u64 v),(8,.int .i64 k)]∧IR base (M8 s2) 0=IR base ((M8 s2).drop k) v∧v≤Z9∧w'=w) s2.size ⟨0,0,by omega,⟨rfl,rfl,rfl,rfl,rfl,trivial⟩,rfl,by unfold Z9;omega,rfl⟩ ?_
   rintro μ ρ w' ⟨k,v,hk,hρ,hval,hvm,rfl⟩
   rw[hρ.eq];refine A6 ?_;refine A0 rfl (fun h1=>?_) (fun h1=>?_)
   ·have hkn:k<s2.size:=by simpa using h1
    obtain⟨c,hc⟩:=B2 (l:=M8 s2) (k:=k) (by omega)
    have hg:s2.data.toList.getD (k:Int).toNat 0=c:=by
     show (M8 s2).getD k 0=c
     rw[List.getD_eq_getElem?_getD,hc];rfl
    have hd0:0≤Am c.toNat base:=by
     have:=List.all_eq_true.1 hall c (List.mem_of_getElem? hc)
     simpa using this
    have hdr:=(Sg c.toNat base (by omega)).resolve_left (by omega)
    rw[drop_at hc]at hval;have hval:IR base (M8 s2) 0=IR base ((M8 s2).drop (k+1)) (v*base+(Am c.toNat base).toNat):=hval
    obtain⟨d,hd⟩:∃d:Nat,Am c.toNat base=(d:Int):=⟨(Am c.toNat base).toNat,by omega⟩
    rw[hd]at hval hdr
    rw[Int.toNat_natCast]at hval;have hmost:(Z9:Int)=18446744073709551615:=rfl
    have S3:IntKind.u64.wrap (d:Int)=d:=CM (by omega) (by omega)
    have ES:IntKind.u64.wrap (18446744073709551615-(d:Int))=18446744073709551615-d:=CM (by omega) (by omega)
    have hdiv:(18446744073709551615-(d:Int)).tdiv base=(18446744073709551615-(d:Int)) / base:=Int.tdiv_eq_ediv_of_nonneg (by omega)
    have hq0:0≤(18446744073709551615-(d:Int)) / base:=Int.ediv_nonneg (by omega) (by omega)
    have hq1:(18446744073709551615-(d:Int)) / base≤18446744073709551615-(d:Int):=Int.ediv_le_self _ (by omega)
    have hw3:IntKind.u64.wrap ((18446744073709551615-(d:Int)) / base)=(18446744073709551615-(d:Int)) / base:=CM hq0 (by omega)
    have hle:(v:Int)≤(18446744073709551615-(d:Int)) / base↔(v:Int)*base≤18446744073709551615-d:=Int.le_ediv_iff_mul_le (by omega)
    refine A6 ?_;rw[hg,hd,S3,ES,hdiv,hw3];refine A0 rfl (fun h2=>?_) (fun h2=>?_)
    ·have h2:(18446744073709551615-(d:Int)) / base<v:=of_decide_eq_true h2
     have h3:¬(v:Int)*base≤18446744073709551615-d:=fun hh=>by have:=hle.2 hh;omega
     have h4:Z9<v*base+d:=by
      have:(Z9:Int)<((v*base+d:Nat):Int):=by rw[hmost];push_cast;omega
      omega
     have h5:=UC base (by omega) ((M8 s2).drop (k+1)) (v*base+d)
     have h6:Z9 >>> sh≤Z9:=Nat.shiftRight_le _ _
     refine A6 ?_;refine⟨_,rfl,?_,rfl⟩
     unfold Z5;rw[if_neg (by rw[hall];simp),if_pos (by rw[hval];omega)];rfl
    ·have h2:¬(18446744073709551615-(d:Int)) / base<v:=of_decide_eq_false h2
     have h3:(v:Int)*base≤18446744073709551615-d:=hle.1 (by omega)
     have h3':0≤(v:Int)*base:=Int.mul_nonneg (by omega) (by omega)
     have hw4:IntKind.u64.wrap ((v:Int)*base)=v*base:=CM h3' (by omega)
     have hw5:IntKind.u64.wrap ((v:Int)*base+d)=v*base+d:=CM (by omega) (by omega)
     refine A6 ?_;refine⟨μ-1,by omega,k+1,v*base+d,by omega,⟨rfl,rfl,rfl,?_,rfl,trivial⟩,hval,?_,rfl⟩
     ·show Value.int .u64 (IntKind.u64.wrap (IntKind.u64.wrap ((v:Int)*base)+d))=_
      rw[hw4,hw5];push_cast;rfl
     ·have:((v*base+d:Nat):Int)≤(Z9:Int):=by rw[hmost];push_cast;omega
      omega
   have hkn:¬k<s2.size:=by simpa using h1
   rw[List.drop_eq_nil_of_le (by omega)]at hval
   have hval:IR base (M8 s2) 0=v:=hval
   have hcore:Z5 base sh (M8 s2)=if Z9 >>> sh<v then (0,6) else (v <<< sh,0):=by
    unfold Z5;rw[if_neg (by rw[hall];simp),hval]
   rw[hcore];have key1:(18446744073709551615:Int).fdiv (2 ^ (min (sh:Int).toNat IntKind.u64.bits))=((Z9 >>> sh:Nat):Int):=by
    rcases hcase with rfl|rfl|rfl|rfl <;> decide +kernel
   have hmin:min (sh:Int).toNat IntKind.u64.bits=sh:=by
    rcases hcase with rfl|rfl|rfl|rfl <;> rfl
   refine A6 ?_;rw[key1];refine A0 rfl (fun h2=>?_) (fun h2=>?_)
   ·have h2:Z9 >>> sh<v:=by have:=of_decide_eq_true h2;omega
    refine A6 ?_;refine⟨_,rfl,?_,rfl⟩
    rw[if_pos h2];rfl
   ·have h2:¬Z9 >>> sh<v:=by have:=of_decide_eq_false h2;omega
    have h3:v*2 ^ sh≤Z9:=by
     rw[Nat.shiftRight_eq_div_pow]at h2;exact(Nat.le_div_iff_mul_le (Nat.two_pow_pos sh)).1 (by omega)
    have h4:IntKind.u64.wrap ((v:Int)*2 ^ (min (sh:Int).toNat IntKind.u64.bits))=((v <<< sh:Nat):Int):=by
     rw[hmin,Nat.shiftLeft_eq];have e:((v*2 ^ sh:Nat):Int)=(v:Int)*2 ^ sh:=by push_cast;rfl
     rw[←e];have hmost:Z9=18446744073709551615:=rfl
     exact CM (by omega) (by omega)
    refine A6 ?_;refine⟨_,rfl,?_,rfl⟩
    rw[if_neg h2];show Ending.returned (.tuple #[.int .u64 (IntKind.u64.wrap ((v:Int)*2 ^ (min (sh:Int).toNat IntKind.u64.bits))),.int .i64 0])=_
    rw[h4]
end Go.Proofs.YtlmiakjbogojgaaGreatDoor
end
section
open Go Mk
namespace Go.Proofs.YtlmiakjbogojgaaGreatDoor
set_option maxHeartbeats 4000000
attribute [local irreducible] Calls Eo I5
def dP(t:eK):Tok:=⟨t.kind,t.text,t.value,0,0⟩
theorem Sj(s:ByteArray):runN s≤s.size:=by
 have:(s.data.toList.takeWhile L5).length≤s.data.toList.length:=(List.takeWhile_sublist _).length_le
 rw[←P2];exact this
theorem JK{s:ByteArray}(h0:0<s.size)(h:L5 (s.data.toList.getD 0 0)=true):0<runN s:=by
 have hl:=P2 s
 unfold runN;cases hb:s.data.toList with
 | nil=>rw[show M8 s=[] from hb]at hl;simp at hl;omega
 | cons c l=>
  rw[hb]at h;have h:L5 c=true:=h
  simp[List.takeWhile_cons,h]
theorem aZ{s:ByteArray}{k:Nat}(h1:1≤k)(hk:k≤s.size)(ha:∀i,1≤i→i<k→Ae (B1 s i)=true)(hn:k<s.size→Ae (B1 s k)=false):Ac s=k:=by
 have hl:=P2 s
 have hg:∀i,((M8 s).drop 1).getD i 0=(M8 s).getD (i+1) 0:=fun i=>by
  rw[List.getD_eq_getElem?_getD,List.getD_eq_getElem?_getD,List.getElem?_drop,Nat.add_comm]
 unfold Ac;rw[x7 (k:=k-1) (by simp[hl];omega) (fun i hi=>by rw[hg];exact ha (i+1) (by omega) (by omega)) (fun hh=>by
  rw[hg,show k-1+1=k from by omega]
  exact hn (by simp[hl]at hh;omega))]
 omega
theorem LZ(s:ByteArray):I5 s≤s.size:=by
 unfold I5;split
 ·rename_i h;exact h.1
 ·split
  ·rename_i h;exact h.1
  ·omega
theorem ZV(Γ:C8)(s:ByteArray)(hs:s.size≤4611686018427387904)(h0:0<s.size):PG Tryz.prog Γ 84 [.string s] (.tuple #[.agg (enc (dP (O3 s))).toArray,.int .i64 (O3 s).n,.int .i64 (O3 s).err]):=⟨fun S w hw=>by
 haveI:SB s:=⟨by omega⟩
 have hrl:=Sj s
 refine I4 Tryz.func84 rfl rfl ?_
 refine A6 ?_;refine B9 ?_;intro b w hw;refine A6 ?_;refine A0 rfl (fun h=>?_) (fun h=>?_)
 ·have h:H1 (B1 s 0)=true:=h
  have hT:O3 s=⟨1,G2 s 0 (runN s),0,runN s,0⟩:=by unfold O3;rw[if_pos h]
  rw[hT];refine A6 ?_;refine B0 ?_;intro w hw;have hw:Wd Γ (.blk b (.cells (enc (⟨1,G2 s 0 (runN s),0,0,0⟩:Tok)).toArray 102)::S) w:=hw
  refine A6 ?_;exact⟨[.agg (enc (⟨1,G2 s 0 (runN s),0,0,0⟩:Tok)).toArray,.int .i64 (runN s),.int .i64 0],⟨U4 (i:=0) hw rfl rfl rfl,rfl,rfl,trivial⟩,rfl,hw.drop⟩
 have h:H1 (B1 s 0)=false:=h
 refine A6 ?_;refine A0 rfl (fun h2=>?_) (fun h2=>?_)
 ·have h2:M6 (B1 s 0)=true:=h2
  have hrp:0<runN s:=JK h0 (by unfold L5;rw[show M6 ((s.data.toList.getD 0 0).toNat:Int)=true from h2];simp)
  have hsz:(G2 s 0 (runN s)).size=runN s:=by rw[y5 hrl];omega
  have hT:O3 s=if (Eo (G2 s 0 (runN s))).2=0 then ⟨2,⟨#[]⟩,(Eo (G2 s 0 (runN s))).1,runN s,0⟩ else HV (Eo (G2 s 0 (runN s))).2:=by unfold O3;rw[if_neg (by rw[h];simp),if_pos h2]
  rw[hT];refine A6 ?_;refine C9 ?_;refine(SE (G2 s 0 (runN s)) (by omega) (by omega) w).mono ?_
  rintro e w' ⟨rfl,rfl⟩
  refine⟨_,rfl,?_⟩;generalize Eo (G2 s 0 (runN s))=r
  obtain⟨v,er⟩:=r;refine A6 ?_;refine A0 rfl (fun h3=>?_) (fun h3=>?_)
  ·have h3:¬er=0:=by simpa using h3
   refine A6 ?_;refine B0 ?_;intro w hw;have hw:Wd Γ (.blk b (.cells (enc (⟨0,⟨#[]⟩,0,0,0⟩:Tok)).toArray 102)::S) w:=hw
   refine A6 ?_;refine⟨[.agg (enc (⟨0,⟨#[]⟩,0,0,0⟩:Tok)).toArray,.int .i64 0,.int .i64 er],⟨U4 (i:=0) hw rfl rfl rfl,rfl,rfl,trivial⟩,?_,hw.drop⟩
   rw[if_neg h3];rfl
  ·have h3:er=0:=by simpa using h3
   refine A6 ?_;refine B0 ?_;intro w hw;have hw:Wd Γ (.blk b (.cells (enc (⟨2,⟨#[]⟩,v,0,0⟩:Tok)).toArray 102)::S) w:=hw
   refine A6 ?_;refine⟨[.agg (enc (⟨2,⟨#[]⟩,v,0,0⟩:Tok)).toArray,.int .i64 (runN s),.int .i64 0],⟨U4 (i:=0) hw rfl rfl rfl,rfl,rfl,trivial⟩,?_,hw.drop⟩
   rw[if_pos h3];rfl
 have h2:M6 (B1 s 0)=false:=h2
 refine A6 ?_;refine A0 rfl (fun h3=>?_) (fun h3=>?_)
 ·have h3:B1 s 0=34:=of_decide_eq_true h3
  have hT:O3 s=if Ac s<s.size∧B1 s (Ac s)=34 then ⟨3,G2 s 1 (Ac s),0,Ac s+1,0⟩ else HV 50:=by unfold O3;rw[if_neg (by rw[h];simp),if_neg (by rw[h2];simp),if_pos h3]
  rw[hT];refine A6 ?_;refine B3 (fun μ ρ w=>∃k:Nat,μ+k=s.size∧1≤k∧Has ρ [(0,.string s),(2,.pointer (some ⟨b,0,none⟩)),(10,.int .i64 k)]∧(∀i,1≤i→i<k→Ae (B1 s i)=true)∧Wd Γ (.blk b (.cells (enc (⟨0,⟨#[]⟩,0,0,0⟩:Tok)).toArray 102)::S) w) (s.size-1) ⟨1,by omega,by omega,⟨rfl,rfl,rfl,trivial⟩,fun i h1 h2=>by omega,hw⟩ ?_
  clear hw;rintro μ ρ w ⟨k,hk,hk1,hρ,hall,hw⟩
  rw[hρ.eq];refine A6 ?_;refine A0 rfl (fun h4=>?_) (fun h4=>?_)
  ·have h4:k<s.size∧Ae (B1 s k)=true:=by
    rw[Bool.and_eq_true,decide_eq_true_eq]at h4;exact⟨by omega,h4.2⟩
   refine A6 ?_;refine⟨μ-1,by omega,k+1,by omega,by omega,⟨rfl,rfl,rfl,trivial⟩,fun i h1 h2=>?_,hw⟩
   by_cases e:i=k
   ·subst e;exact h4.2
   ·exact hall i h1 (by omega)
  ·have hS:Ac s=k:=aZ hk1 (by omega) hall (fun hlt=>by
    have e1:decide ((k:Int)<s.size)=true:=by simp;omega
    rw[e1,Bool.true_and]at h4;exact h4)
   rw[hS];clear h4;have hks:k≤s.size:=by omega
   refine A6 ?_;have key:(decide ((k:Int)=s.size)||decide (B1 s k≠34)) = !decide (k<s.size∧B1 s k=34):=by
    rw[show decide ((k:Int)=s.size)=decide (¬k<s.size) from decide_eq_decide.2 (by omega)]
    by_cases e1:k<s.size <;> by_cases e2:B1 s k=34 <;> simp[e1,e2]
   refine A0 rfl (fun h4=>?_) (fun h4=>?_)
   ·have h4:=key.symm.trans h4
    have h4:¬(k<s.size∧B1 s k=34):=fun hh=>by rw[decide_eq_true hh]at h4;cases h4
    refine A6 ?_;refine B0 ?_;intro w hw;have hw:Wd Γ (.blk b (.cells (enc (⟨0,⟨#[]⟩,0,0,0⟩:Tok)).toArray 102)::S) w:=hw
    refine A6 ?_;refine⟨[.agg (enc (⟨0,⟨#[]⟩,0,0,0⟩:Tok)).toArray,.int .i64 0,.int .i64 50],⟨U4 (i:=0) hw rfl rfl rfl,rfl,rfl,trivial⟩,?_,hw.drop⟩
    rw[if_neg h4];rfl
   ·have h4:=key.symm.trans h4
    have h4:k<s.size∧B1 s k=34:=by simpa using h4
    have hkl:=h4.1
    refine A6 ?_;refine B0 ?_;intro w hw;have hw:Wd Γ (.blk b (.cells (enc (⟨3,G2 s 1 k,0,0,0⟩:Tok)).toArray 102)::S) w:=hw
    refine A6 ?_;refine⟨[.agg (enc (⟨3,G2 s 1 k,0,0,0⟩:Tok)).toArray,.int .i64 ((k:Int)+1),.int .i64 0],⟨U4 (i:=0) hw rfl rfl rfl,rfl,rfl,trivial⟩,?_,hw.drop⟩
    rw[if_pos h4];rfl
 ·have h3:¬B1 s 0=34:=of_decide_eq_false h3
  have hT:O3 s=if I5 s=0 then HV 50 else ⟨4,G2 s 0 (I5 s),0,I5 s,0⟩:=by unfold O3;rw[if_neg (by rw[h];simp),if_neg (by rw[h2];simp),if_neg h3]
  have hpl:=LZ s
  rw[hT];refine A6 ?_;refine A0 rfl (fun h4=>?_) (fun h4=>?_)
  ·have h4:I5 s=0:=by have:=of_decide_eq_true h4;omega
   refine A6 ?_;refine B0 ?_;intro w hw;have hw:Wd Γ (.blk b (.cells (enc (⟨0,⟨#[]⟩,0,0,0⟩:Tok)).toArray 102)::S) w:=hw
   refine A6 ?_;refine⟨[.agg (enc (⟨0,⟨#[]⟩,0,0,0⟩:Tok)).toArray,.int .i64 0,.int .i64 50],⟨U4 (i:=0) hw rfl rfl rfl,rfl,rfl,trivial⟩,?_,hw.drop⟩
   rw[if_pos h4];rfl
  ·have h4:¬I5 s=0:=by have:=of_decide_eq_false h4;omega
   refine A6 ?_;refine B0 ?_;intro w hw;have hw:Wd Γ (.blk b (.cells (enc (⟨4,G2 s 0 (I5 s),0,0,0⟩:Tok)).toArray 102)::S) w:=hw
   refine A6 ?_;refine⟨[.agg (enc (⟨4,G2 s 0 (I5 s),0,0,0⟩:Tok)).toArray,.int .i64 (I5 s),.int .i64 0],⟨U4 (i:=0) hw rfl rfl rfl,rfl,rfl,trivial⟩,?_,hw.drop⟩
   rw[if_neg h4];rfl⟩
end Go.Proofs.YtlmiakjbogojgaaGreatDoor
end
section
open Go Mk
namespace Go.Proofs.YtlmiakjbogojgaaGreatDoor
set_option maxHeartbeats 400000
attribute [local irreducible] Calls Eo I5
theorem af{b:UInt8}(h:L5 b=true):((b.toNat:Nat):Int)≠10:=by
 intro e;unfold L5 H1 M6 at h;rw[e]at h;revert h;decide
theorem XV{c:Int}(h:Ae c=true):c≠10:=by
 intro e;rw[e]at h;revert h;decide
theorem Bj{p:UInt8→Bool}:∀ {l:List UInt8} {i:Nat},i<(l.takeWhile p).length→p (l.getD i 0)=true
 | [],i,h=>by simp at h
 | x::l,i,h=>by
  by_cases hx:p x=true
  ·rw[List.takeWhile_cons,if_pos hx]at h;cases i with
   | zero=>simpa using hx
   | succ i=>exact Bj (l:=l) (i:=i) (by simpa using h)
  ·rw[List.takeWhile_cons,if_neg hx]at h;simp at h
theorem WI{s:ByteArray}(h0:0<s.size)(he:(O3 s).err=0):1≤(O3 s).n∧(O3 s).n≤s.size∧∀i,i<(O3 s).n→B1 s i≠10:=by
 have hrl:=Sj s
 have hrun:∀i,i<runN s→B1 s i≠10:=fun i hi=>af (Bj (p:=L5) hi)
 unfold O3 at he ⊢
 by_cases h1:H1 (B1 s 0)=true
 ·rw[if_pos h1];exact⟨JK h0 (by unfold L5;rw[show H1 ((s.data.toList.getD 0 0).toNat:Int)=true from h1];rfl),hrl,hrun⟩
 rw[if_neg h1]at he ⊢
 by_cases h2:M6 (B1 s 0)=true
 ·rw[if_pos h2]at he ⊢
  by_cases h3:(Eo (G2 s 0 (runN s))).2=0
  ·rw[if_pos h3];exact⟨JK h0 (by unfold L5;rw[show M6 ((s.data.toList.getD 0 0).toNat:Int)=true from h2];simp),hrl,hrun⟩
  ·rw[if_neg h3]at he;exact absurd he h3
 rw[if_neg h2]at he ⊢
 by_cases h3:B1 s 0=34
 ·rw[if_pos h3]at he ⊢
  by_cases h4:Ac s<s.size∧B1 s (Ac s)=34
  ·rw[if_pos h4];refine⟨by show 1≤Ac s+1;omega,by show Ac s+1≤s.size;omega,fun i hi=>?_⟩
   have hi:i<Ac s+1:=hi
   by_cases e0:i=0
   ·subst e0;rw[h3];decide
   ·by_cases e1:i=Ac s
    ·subst e1;rw[h4.2];decide
    ·have hi2:i-1<(((M8 s).drop 1).takeWhile u9).length:=by unfold Ac at hi e1;omega
     have:=Bj (p:=u9) hi2
     rw[List.getD_eq_getElem?_getD,List.getElem?_drop,show 1+(i-1)=i from by omega,←List.getD_eq_getElem?_getD]at this
     exact XV this
  ·rw[if_neg h4]at he;exact absurd he (by decide)
 rw[if_neg h3]at he ⊢
 by_cases h4:I5 s=0
 ·rw[if_pos h4]at he;exact absurd he (by decide)
 rw[if_neg h4];refine⟨by show 1≤I5 s;omega,LZ s,fun i hi=>?_⟩
 have hi:i<I5 s:=hi
 unfold I5 at hi;by_cases h5:2≤s.size∧CF (B1 s 0) (B1 s 1)=true
 ·rw[if_pos h5]at hi;have h6:=h5.2
  intro e;rcases (by omega:i=0∨i=1) with rfl|rfl <;> (rw[e]at h6;unfold CF at h6;simp at h6)
 ·rw[if_neg h5]at hi;split at hi
  ·rename_i h6
   have hi0:i=0:=by omega
   subst hi0;intro e;have:s.data.toList.getD 0 0=10:=by
    apply UInt8.toNat_inj.1
    have e':((s.data.toList.getD 0 0).toNat:Int)=10:=e
    show _=10
    omega
   rw[this]at h6;exact absurd h6.2 (by decide)
  ·omega
theorem AX{s:ByteArray}{off:Nat}:∀(n:Nat),(∀i,i<n→B1 s (off+i)≠10)→D9 s (off+n)=⟨(D9 s off).Line,(D9 s off).Col+n⟩
 | 0,_=>by simp
 | n+1,h=>by
  have ih:=AX n (fun i hi=>h i (by omega))
  rw[show off+(n+1)=(off+n)+1 from by omega]
  rw[show D9 s (off+n+1)=if B1 s (off+n)=10 then ⟨(D9 s (off+n)).Line+1,1⟩ else ⟨(D9 s (off+n)).Line,(D9 s (off+n)).Col+1⟩ from rfl,if_neg (h n (by omega)),ih]
  simp;omega
theorem KR{s:ByteArray}{k:Nat}(h:B1 s k=10):D9 s (k+1)=⟨(D9 s k).Line+1,1⟩:=by
 rw[show D9 s (k+1)=if B1 s k=10 then ⟨(D9 s k).Line+1,1⟩ else ⟨(D9 s k).Line,(D9 s k).Col+1⟩ from rfl,if_pos h]
theorem WY{s:ByteArray}{off k:Nat}(h1:off≤k)(hk:k≤s.size)(ha:∀i,off≤i→i<k→B1 s i≠10)(hn:k<s.size→B1 s k=10):FD s off=k:=by
 have hl:=P2 s
 have hg:∀i,((M8 s).drop off).getD i 0=(M8 s).getD (off+i) 0:=fun i=>by
  rw[List.getD_eq_getElem?_getD,List.getD_eq_getElem?_getD,List.getElem?_drop]
 unfold FD;rw[x7 (k:=k-off) (by simp[hl];omega) (fun i hi=>by rw[hg];exact decide_eq_true (ha (off+i) (by omega) (by omega))) (fun hh=>by
  rw[hg,show off+(k-off)=k from by omega]
  have:=hn (by simp[hl]at hh;omega)
  exact decide_eq_false (fun q=>q this))]
 omega
end Go.Proofs.YtlmiakjbogojgaaGreatDoor
end
section
open Go Mk
namespace Go.Proofs.YtlmiakjbogojgaaGreatDoor
set_option maxHeartbeats 4000000
attribute [local irreducible] Calls Eo I5 O3 D9 FD
theorem We(Γ:C8)(S:List B6)(w:World)(s:ByteArray)(hs:s.size≤4611686018427387904)(hw:Wd Γ S w) :
  Calls Tryz.prog 28 #[.string s] w fun e w'=>∃v,e=.returned (.tuple #[v,.agg (enc (I6 s).2.1).toArray,.int .i64 (I6 s).2.2])∧Wd Γ (.own v 102 5 ((I6 s).1.map enc)::S) w':=by
 refine I4 Tryz.func28 rfl rfl ?_
 refine A6 ?_;refine B9 ?_;intro bp w hw;have hw:Wd Γ (.blk bp (.cells (enc (⟨0,0⟩:H9)).toArray 29)::S) w:=hw
 refine A6 ?_;refine Np ?_
 refine A6 ?_;refine A0 rfl (fun h=>?_) (fun h=>?_)
 ·have h:65536<s.size:=by simp at h;omega
  have hS:I6 s=([],⟨0,0⟩,15):=by unfold I6;rw[if_pos h]
  rw[hS];refine A6 ?_;refine B0 ?_;intro w hw;have hw:Wd Γ (.blk bp (.cells (enc (⟨0,0⟩:H9)).toArray 29)::S) w:=hw
  refine A6 ?_;exact⟨[.slice none 0 0,.agg (enc (⟨0,0⟩:H9)).toArray,.int .i64 15],⟨rfl,U4 (i:=0) hw rfl rfl rfl,rfl,trivial⟩,_,rfl,Wd.addNil hw.drop⟩
 have h:¬65536<s.size:=by simp at h;omega
 have hS:I6 s=W2 s (s.size+1) 0 []:=by unfold I6;rw[if_neg h]
 rw[hS];refine A6 ?_;refine Sq ?_
 refine A6 ?_;refine B3 (fun μ ρ w=>∃(off start:Nat) (g:Value) (toks:List Tok),off≤s.size∧s.size<μ+off∧start≤off∧(D9 s off).Col=(off:Int)-start+1∧(D9 s off).Line≤1+off∧toks.length≤off∧Has ρ [(0,.string s),(3,.pointer (some ⟨bp,0,none⟩)),(5,g),(6,.int .i64 (D9 s off).Line),(7,.int .i64 start),(8,.int .i64 off)]∧W2 s (s.size+1) 0 []=W2 s μ off toks∧0≤(D9 s off).Line∧Wd Γ (.own g 102 5 (toks.map enc)::.blk bp (.cells (enc (⟨0,0⟩:H9)).toArray 29)::S) w) (s.size+1) ?_ ?_
 ·have p0:D9 s 0=⟨1,1⟩:=by unfold D9;rfl
  refine⟨0,0,.slice none 0 0,[],by omega,by omega,by omega,?_,?_,by simp,⟨rfl,rfl,rfl,?_,rfl,rfl,trivial⟩,rfl,?_,Wd.addNil hw⟩
  ·rw[p0];rfl
  ·rw[p0];decide
  ·rw[p0];rfl
  ·rw[p0];decide
 clear hw;rintro μ ρ w ⟨off,start,g,toks,ho,hμ,hst,hcol,hlin,htl,hρ,hN,hl0,hw⟩
 rw[hρ.eq];obtain⟨f,rfl⟩:∃f,μ=f+1:=⟨μ-1,by omega⟩
 rw[hN];clear hS;refine A6 ?_;refine A0 rfl (fun h1=>?_) (fun h1=>?_)
 ·have h1:off<s.size:=by simpa using h1
  have hsp:BA (B1 s off)=true→W2 s (f+1) off toks=W2 s f (off+1) toks:=fun q=>by
   show (if s.size≤off then _ else _)=_
   rw[if_neg (by omega),if_pos q]
  have hp1:B1 s off≠10→D9 s (off+1)=⟨(D9 s off).Line,(D9 s off).Col+1⟩:=fun q=>by
   have:=AX (s:=s) (off:=off) 1 (fun i hi=>by rw[show off+i=off from by omega];exact q)
   simpa using this
  have hp2:B1 s off=10→D9 s (off+1)=⟨(D9 s off).Line+1,1⟩:=KR
  refine A6 ?_;refine A0 rfl (fun e1=>?_) (fun e1=>?_)
  ·have e1:B1 s off=10:=of_decide_eq_true e1
   have hq:=hp2 e1
   refine A6 ?_;refine⟨f,by omega,off+1,off+1,g,toks,by omega,by omega,by omega,by rw[hq];show (1:Int)=_;omega,by rw[hq];show (D9 s off).Line+1≤_;omega,by omega,⟨rfl,rfl,rfl,by rw[hq];rfl,rfl,rfl,trivial⟩,by rw[hsp (by rw[e1];rfl)],by rw[hq];show 0≤(D9 s off).Line+1;omega,hw⟩
  have e1:B1 s off≠10:=of_decide_eq_false e1
  have hq:=hp1 e1
  refine A6 ?_;refine A0 rfl (fun e2=>?_) (fun e2=>?_)
  ·refine A6 ?_;refine O0 (by simp only[e2];rfl) ?_
   have e2:B1 s off=32:=of_decide_eq_true e2
   refine A6 ?_;exact⟨f,by omega,off+1,start,g,toks,by omega,by omega,by omega,by rw[hq];show (D9 s off).Col+1=_;omega,by rw[hq];show (D9 s off).Line≤_;omega,by omega,⟨rfl,rfl,rfl,by rw[hq];rfl,rfl,rfl,trivial⟩,by rw[hsp (by rw[e2];rfl)],by rw[hq];exact hl0,hw⟩
  refine A6 ?_;refine A0 rfl (fun e3=>?_) (fun e3=>?_)
  ·refine A6 ?_;refine O0 (by simp only[e3];rfl) ?_
   have e3:B1 s off=9:=of_decide_eq_true e3
   refine A6 ?_;exact⟨f,by omega,off+1,start,g,toks,by omega,by omega,by omega,by rw[hq];show (D9 s off).Col+1=_;omega,by rw[hq];show (D9 s off).Line≤_;omega,by omega,⟨rfl,rfl,rfl,by rw[hq];rfl,rfl,rfl,trivial⟩,by rw[hsp (by rw[e3];rfl)],by rw[hq];exact hl0,hw⟩
  refine A6 ?_;refine A0 rfl (fun e4=>?_) (fun e4=>?_)
  ·have e4:B1 s off=13:=of_decide_eq_true e4
   refine A6 ?_;exact⟨f,by omega,off+1,start,g,toks,by omega,by omega,by omega,by rw[hq];show (D9 s off).Col+1=_;omega,by rw[hq];show (D9 s off).Line≤_;omega,by omega,⟨rfl,rfl,rfl,by rw[hq];rfl,rfl,rfl,trivial⟩,by rw[hsp (by rw[e4];rfl)],by rw[hq];exact hl0,hw⟩
  have e2:B1 s off≠32:=of_decide_eq_false e2
  have e3:B1 s off≠9:=of_decide_eq_false e3
  have e4:B1 s off≠13:=of_decide_eq_false e4
  have hns:¬BA (B1 s off)=true:=by simp[BA,e1,e2,e3,e4]
  refine A6 ?_;refine A0 rfl (fun e5=>?_) (fun e5=>?_)
  ·have e5:B1 s off=35:=of_decide_eq_true e5
   have hsk:W2 s (f+1) off toks=W2 s f (FD s off) toks:=by
    show (if s.size≤off then _ else _)=_
    rw[if_neg (by omega),if_neg hns,if_pos e5]
   refine A6 ?_;refine B3 (fun μ ρ w=>∃k:Nat,μ+k=s.size∧off≤k∧Has ρ [(0,.string s),(3,.pointer (some ⟨bp,0,none⟩)),(5,g),(6,.int .i64 (D9 s off).Line),(7,.int .i64 start),(8,.int .i64 k)]∧(∀i,off≤i→i<k→B1 s i≠10)∧Wd Γ (.own g 102 5 (toks.map enc)::.blk bp (.cells (enc (⟨0,0⟩:H9)).toArray 29)::S) w) (s.size-off) ⟨off,by omega,by omega,⟨rfl,rfl,rfl,rfl,rfl,rfl,trivial⟩,fun i h1 h2=>by omega,hw⟩ ?_
   clear hw hρ;rintro μ2 ρ w ⟨k,hk,hk1,hρ,hall,hw⟩
   rw[hρ.eq];refine A6 ?_;refine A0 rfl (fun h4=>?_) (fun h4=>?_)
   ·have h4:k<s.size∧B1 s k≠10:=by
     rw[Bool.and_eq_true,decide_eq_true_eq]at h4;exact⟨by omega,of_decide_eq_true h4.2⟩
    have hkl:=h4.1
    refine A6 ?_;refine⟨μ2-1,by omega,k+1,by omega,by omega,⟨rfl,rfl,rfl,rfl,rfl,rfl,trivial⟩,fun i h1 h2=>?_,hw⟩
    by_cases e:i=k
    ·subst e;exact h4.2
    ·exact hall i h1 (by omega)
   ·have hend:k<s.size→B1 s k=10:=fun hlt=>by
     have q1:decide ((k:Int)<s.size)=true:=by simp;omega
     rw[q1,Bool.true_and]at h4;have:=of_decide_eq_false h4
     exact Classical.not_not.1 this
    have hkk:off<k:=by
     rcases Nat.lt_or_ge off k with q|q
     ·exact q
     ·have:k=off:=by omega
      subst this;have:=hend h1
      exact absurd this e1
    have hks:FD s off=k:=WY hk1 (by omega) hall hend
    have hpk:=AX (s:=s) (off:=off) (k-off) (fun i hi=>hall (off+i) (by omega) (by omega))
    rw[show off+(k-off)=k from by omega]at hpk
    refine A6 ?_;exact⟨f,by omega,k,start,g,toks,by omega,by omega,by omega,by rw[hpk];show (D9 s off).Col+_=_;omega,by rw[hpk];show (D9 s off).Line≤_;omega,by omega,⟨rfl,rfl,rfl,by rw[hpk];rfl,rfl,rfl,trivial⟩,by rw[hsk,hks],by rw[hpk];exact hl0,hw⟩
  have e5:B1 s off≠35:=of_decide_eq_false e5
  have hsz:(G2 s off s.size).size=s.size-off:=y5 (Nat.le_refl _)
  have hok:=WI (s:=G2 s off s.size) (by omega)
  have hstep:W2 s (f+1) off toks=if (O3 (G2 s off s.size)).err=0 then W2 s f (off+(O3 (G2 s off s.size)).n) (toks++[⟨(O3 (G2 s off s.size)).kind,(O3 (G2 s off s.size)).text,(O3 (G2 s off s.size)).value,(D9 s off).Line,(D9 s off).Col⟩]) else ([],D9 s off,(O3 (G2 s off s.size)).err):=by
   show (if s.size≤off then _ else _)=_
   rw[if_neg (by omega),if_neg hns,if_neg e5]
  have hbyte:∀i,i<s.size-off→B1 (G2 s off s.size) i=B1 s (off+i):=fun i hi=>WT (by omega)
  rw[hstep];obtain⟨ag,ng,cg,rfl,hng,hngc,hcg⟩:=hw.own_shape (i:=0) rfl
  simp only[List.length_map]at hng
  have hoz:(0:Int)≤off:=by omega
  refine A6 ?_;refine B9 ?_;intro b9 w hw;refine B0 ?_;intro w hw;have hw:Wd Γ (.blk b9 (.cells (enc (⟨(D9 s off).Line,(off:Int)-start+1⟩:H9)).toArray 29)::.own (.slice ag ng cg) 102 5 (toks.map enc)::.blk bp (.cells (enc (⟨0,0⟩:H9)).toArray 29)::S) w:=hw
  rw[←hcol]at hw;refine A6 ?_;refine XN (hp:=ZV Γ (G2 s off s.size) (by omega) (by omega)) ?_
  intro w hw;generalize O3 (G2 s off s.size)=t at *
  refine A6 ?_;refine B9 ?_;intro b10 w hw;refine B0 ?_;intro w hw;have hw:Wd Γ (.blk b10 (.cells (enc (dP t)).toArray 102)::.blk b9 (.cells (enc (⟨(D9 s off).Line,(D9 s off).Col⟩:H9)).toArray 29)::.own (.slice ag ng cg) 102 5 (toks.map enc)::.blk bp (.cells (enc (⟨0,0⟩:H9)).toArray 29)::S) w:=hw
  refine A6 ?_;refine A0 rfl (fun h6=>?_) (fun h6=>?_)
  ·have h6:¬t.err=0:=by simpa using h6
   rw[if_neg h6];refine A6 ?_;refine FJ [.blk b10 _,.blk b9 _,.own _ _ _ _] (.blk bp _::S) [] [[],[],[],[0],[]] hw ?_
   refine P3 ?_;refine Cy (φ:=fun (_:Unit) _=>True) (R:=fun _=>.blk bp (.cells (enc (⟨0,0⟩:H9)).toArray 29)::S) (v:=undef) (T':=Unit) (fun _ _=>True) (fun _=>.blk bp (.cells (enc (⟨(D9 s off).Line,(D9 s off).Col⟩:H9)).toArray 29)::S) (fun t' g w Y _ hw=>AR (i:=0) (inferInstance:Ti Tryz.prog 29 2).h hw rfl rfl rfl rfl (fun u hu=>(List.all_eq_true.1 (Cc (⟨(D9 s off).Line,(D9 s off).Col⟩:H9))) u hu) rfl (Nat.le_refl 2) fun w' hw'=>⟨(),trivial,(fun _=>rfl),hw'⟩) ?_
   refine P3 ?_;refine IA fun t' w g _ hw=>?_
   have hw:Wd Γ (.blk bp (.cells (enc (D9 s off)).toArray 29)::S) w:=Wd.left (S:=.blk bp _::S) hw
   refine A6 ?_;exact⟨[.slice none 0 0,.agg (enc (D9 s off)).toArray,.int .i64 t.err],⟨rfl,U4 (i:=0) hw rfl rfl rfl,rfl,trivial⟩,_,rfl,Wd.addNil hw.drop⟩
  ·have h6:t.err=0:=by simpa using h6
   rw[if_pos h6];obtain⟨hn1,hn2,hnn⟩:=hok h6
   rw[hsz]at hn2;have hpn:=AX (s:=s) (off:=off) t.n (fun i hi=>by rw[←hbyte i (by omega)];exact hnn i hi)
   refine A6 ?_;refine B0 ?_;intro w hw;have hw:Wd Γ (.blk b10 (.cells (enc (⟨t.kind,t.text,t.value,(D9 s off).Line,(D9 s off).Col⟩:Tok)).toArray 102)::.blk b9 (.cells (enc (⟨(D9 s off).Line,(D9 s off).Col⟩:H9)).toArray 29)::.own (.slice ag ng cg) 102 5 (toks.map enc)::.blk bp (.cells (enc (⟨0,0⟩:H9)).toArray 29)::S) w:=hw
   refine A6 ?_;refine B5 [enc (⟨t.kind,t.text,t.value,(D9 s off).Line,(D9 s off).Col⟩:Tok)] ?_
   intro a72 w hw;refine T3 (i:=3) (rows2:=[enc (⟨t.kind,t.text,t.value,(D9 s off).Line,(D9 s off).Col⟩:Tok)]) ?_ (Wd.own_rd (i:=0) hw rfl)
   intro v' w hw;refine A6 ?_;have hw:Wd Γ (.own v' 102 5 (toks.map enc++[enc (⟨t.kind,t.text,t.value,(D9 s off).Line,(D9 s off).Col⟩:Tok)])::.blk bp (.cells (enc (⟨0,0⟩:H9)).toArray 29)::S) w:=hw.drop.drop.drop
   rw[show toks.map enc++[enc (⟨t.kind,t.text,t.value,(D9 s off).Line,(D9 s off).Col⟩:Tok)]=(toks++[(⟨t.kind,t.text,t.value,(D9 s off).Line,(D9 s off).Col⟩:Tok)]).map enc from by simp]at hw
   exact⟨f,by omega,off+t.n,start,v',_,by omega,by omega,by omega,by rw[hpn];show (D9 s off).Col+_=_;omega,by rw[hpn];show (D9 s off).Line≤_;omega,by simp;omega,⟨rfl,rfl,rfl,by rw[hpn];rfl,rfl,rfl,trivial⟩,rfl,by rw[hpn];exact hl0,hw⟩
 ·have h1:¬off<s.size:=by simpa using h1
  have hend:W2 s (f+1) off toks=(toks,⟨0,0⟩,0):=by
   show (if s.size≤off then _ else _)=_
   rw[if_pos (by omega)]
  rw[hend];refine A6 ?_;refine B0 ?_;intro w hw;have hw:Wd Γ (.own g 102 5 (toks.map enc)::.blk bp (.cells (enc (⟨0,0⟩:H9)).toArray 29)::S) w:=hw
  refine A6 ?_;exact⟨[g,.agg (enc (⟨0,0⟩:H9)).toArray,.int .i64 0],⟨rfl,U4 (i:=1) hw rfl rfl rfl,rfl,trivial⟩,_,rfl,hw.dropAt 1⟩
end Go.Proofs.YtlmiakjbogojgaaGreatDoor
end
section
open Go Mk
namespace Go.Proofs.YtlmiakjbogojgaaGreatDoor
set_option maxHeartbeats 4000000
attribute [local irreducible] Calls
theorem Vj{P:Program}{d:Option Tmp}{T ty:TypeId}{pos:String}{es:Array Edge}{g:Option (Nat×Bool)}{x:Operand}{ρ:Fr}{w:World}{v:Value}{fs:Array Field}(hu:P.underlying T=some (.struct fs))(hx:ev ρ x=v):Mk.Yields P ⟨d,.makeInterface T x,ty,pos,es,g⟩ ρ w (.iface T v):=by
 unfold Mk.Yields;simp[execOp,hx,Instr.makeInterface,run_underlying hu,Result.andThen]
def ZZ(toks:List Tok)(at':Nat)(kind:Int)(text:ByteArray):Bool:=match toks[at']? with|some t=>decide (t.Kind=kind)&&decide (t.Text=text)|none=>false
def R9(toks:List Tok)(at':Nat)(e:H9):H9:=match toks[at']? with|some t=>⟨t.Line,t.Col⟩|none=>e
abbrev PR(α:Type):=Except (H9×Int) (α×Nat)
def Ft(toks:List Tok)(e:H9)(kind:Int)(at':Nat):PR Tok:=match toks[at']? with|some t=>if t.Kind=kind then .ok (t,at') else .error (R9 toks at' e,50)|none=>.error (R9 toks at' e,50)
def Em(toks:List Tok)(e:H9)(kind:Int)(text:ByteArray)(at':Nat):PR Unit:=if ZZ toks at' kind text=true then .ok ((),at'+1) else .error (R9 toks at' e,50)
def ZU(toks:List Tok)(e:H9)(kind:Int)(at':Nat):PR ByteArray:=match Ft toks e kind at' with|.ok (t,_)=>if 24<t.Text.size then .error (R9 toks at' e,63) else .ok (t.Text,at'+1)|.error q=>.error q
def Cp(toks:List Tok)(e:H9)(limited:Bool)(at':Nat):PR Int:=match Ft toks e 2 at' with|.ok (t,_)=>if limited=true∧2147483647<t.Value then .error (R9 toks at' e,6) else .ok (t.Value,at'+1)|.error q=>.error q
def Vk(s:ByteArray)(xs:List ByteArray):Bool:=xs.any fun x=>decide (s=x)
def dw:ByteArray:=⟨#[44]⟩
def fY:ByteArray:=⟨#[59]⟩
def dX:ByteArray:=⟨#[125]⟩
theorem Ta{s:ByteArray}:∀ {k:Nat},k≤s.size→(D9 s k).Line=1+(((s.data.toList.take k).count 10:Nat):Int)
 | 0,_=>by simp[D9]
 | k+1,h=>by
  have ih:=Ta (s:=s) (k:=k) (by omega)
  have hk:k<s.data.toList.length:=by rw[show s.data.toList.length=s.size from by simp];omega
  obtain⟨b,hb⟩:∃b,s.data.toList[k]? = some b:=⟨_,List.getElem?_eq_getElem hk⟩
  have hB:B1 s k=((b.toNat:Nat):Int):=by
   show ((s.data.toList.getD k 0).toNat:Int)=_
   rw[List.getD_eq_getElem?_getD,hb];rfl
  rw[List.take_add_one,hb];by_cases h1:b=10
  ·subst h1;rw[KR (by rw[hB];rfl)]
   simp[ih];omega
  ·have h2:B1 s k≠10:=by
    rw[hB];intro h2;exact h1 (UInt8.toNat_inj.1 (by simpa using (show b.toNat=10 by omega)))
   have:=AX (s:=s) (off:=k) 1 (fun i hi=>by
    have:i=0:=by omega
    subst this;exact h2)
   rw[this];simp[ih,h1]
theorem Yd{s:ByteArray}{k:Nat}(h:∀i,k≤i→i<s.size→B1 s i≠10)(hk:k≤s.size):(D9 s s.size).Col=(D9 s k).Col+((s.size-k:Nat):Int):=by
 have:=AX (s:=s) (off:=k) (s.size-k) (fun i hi=>h _ (by omega) (by omega))
 rw[show k+(s.size-k)=s.size by omega]at this
 rw[this]
def Db(s:ByteArray):H9:=D9 s s.size
theorem Wl(s:ByteArray)(hs:s.size≤4611686018427387904)(w:World):Calls Tryz.prog 85 #[.string s,.int .u8 10] w fun e w'=>e=.returned (.int .i64 ((s.size:Int)-(Db s).Col))∧w'=w:=by
 refine A7 Tryz.func85 rfl rfl ?_
 refine A6 ?_;refine B3 (fun μ ρ w'=>∃(i:Int) (k:Nat),i+1=k∧μ=k∧k≤s.size∧Has ρ [(0,.string s),(1,.int .u8 10),(5,.int .i64 i)]∧(∀j,k≤j→j<s.size→B1 s j≠10)∧w'=w) s.size ⟨(s.size:Int)-1,s.size,by omega,rfl,Nat.le_refl _,⟨rfl,rfl,rfl,trivial⟩,fun j h1 h2=>by omega,rfl⟩ ?_
 rintro μ ρ w' ⟨i,k,hik,rfl,hk,hρ,hno,rfl⟩
 rw[hρ.eq];refine A6 ?_;refine A0 rfl (fun h=>?_) (fun h=>?_)
 ·have h:0≤i:=of_decide_eq_true h
  refine A6 ?_;have hi:i.toNat+1=μ:=by omega
  refine A0 rfl (fun h2=>?_) (fun h2=>?_)
  ·have h2:B1 s i.toNat=10:=of_decide_eq_true h2
   refine A6 ?_;refine⟨_,rfl,?_,rfl⟩
   have h3:=Yd (s:=s) (k:=μ) hno hk
   have h4:=KR h2
   rw[hi]at h4;rw[h4]at h3;unfold Db;rw[h3];show Ending.returned (.int .i64 i)=_
   congr 2;dsimp;omega
  ·have h2:¬B1 s i.toNat=10:=of_decide_eq_false h2
   refine A6 ?_;refine⟨i.toNat,by omega,i-1,i.toNat,by omega,rfl,by omega,⟨rfl,rfl,rfl,trivial⟩,fun j h3 h4=>?_,rfl⟩
   by_cases e:j=i.toNat
   ·subst e;exact h2
   ·exact hno j (by omega) h4
 ·have h:¬0≤i:=of_decide_eq_false h
  refine A6 ?_;refine⟨_,rfl,?_,rfl⟩
  have h3:=Yd (s:=s) (k:=0) (fun j h1 h2=>hno j (by omega) h2) (by omega)
  unfold Db;rw[h3];show Ending.returned (.int .i64 (-1))=_
  congr 2;simp[D9];omega
theorem Ui(s:ByteArray)(c:Int)(w:World):(callFunc 87 #[.string s,.int .u8 c]).run Tryz.prog w=.ok (.value (.int .i64 (Go.Lib.countByte s.data.toList c.toNat.toUInt8))) w:=by
 rw[run_callFunc_extern Tryz.func87 (by kernel_rfl) (by kernel_rfl) (e:=Extern.BytealgCount.count) (by kernel_rfl) (by kernel_rfl),Go.Lib.run_countString]
 rfl
theorem QP(s:ByteArray):PC Tryz.prog 31 [.string s,.string ⟨#[10]⟩] (.int .i64 (s.data.toList.count 10:Nat)):=⟨fun w=>by
 refine A7 Tryz.func31 rfl rfl ?_
 refine A6 ?_;refine A0 rfl (fun h=>absurd h (by decide)) (fun _=>?_)
 refine A6 ?_;refine A0 rfl (fun _=>?_) (fun h=>absurd h (by decide))
 refine A6 ?_;refine lY (v:=.int .u8 10) ?_ (hy:=JM (s:=⟨#[10]⟩) (k:=.i64) (i:=0) rfl rfl (by decide) (by decide))
 refine A6 ?_;refine fO (vs:=[.string s,.int .u8 10]) (Ui s 10) ?_
 refine A6 ?_;exact⟨_,rfl,rfl,rfl⟩⟩
theorem VO(s:ByteArray)(hs:s.size≤4611686018427387904):PC Tryz.prog 30 [.string s,.int .u8 10] (.int .i64 ((s.size:Int)-(Db s).Col)):=⟨fun w=>by
 have hL3:PC Tryz.prog 85 [.string s,.int .u8 10] (.int .i64 ((s.size:Int)-(Db s).Col)):=⟨fun w=>Wl s hs w⟩
 refine A7 Tryz.func30 rfl rfl ?_
 refine A6 ?_;exact⟨_,rfl,rfl,rfl⟩⟩
theorem dR{P:Program}{Γ:C8}{S:List B6}{ρ:Fr}{w:World}{t T i b k:Nat}{cs:Array Value}{E:TypeId}{fr:Nat×Nat}{v:Value}[ha:TS P T](hw:Wd Γ S w)(hi:S[i]? = some (.blk b (.cells cs E fr)))(hx:ρ t=.pointer (some ⟨b,k,none⟩))(hv:cs[k]? = some v):Xz P ρ w (.cell t T) v:=by
 refine⟨_,hx,?_⟩
 have hc:=cell_of (hw.at_blk hi) hv
 simp[loadVar,w4 ha.h,hc,go_sem]
theorem EV{s:ByteArray}:∀ {f off:Nat} {acc:List Tok},off≤s.size→(W2 s f off acc).1.length≤acc.length+(s.size-off)
 | 0,off,acc,h=>by simp[W2]
 | f+1,off,acc,h=>by
  unfold W2;split
  ·simp
  ·rename_i h1
   split
   ·have:=EV (s:=s) (f:=f) (off:=off+1) (acc:=acc) (by omega)
    omega
   ·split
    ·have h2:off≤FD s off∧FD s off≤s.size:=by
      unfold FD;have:(((M8 s).drop off).takeWhile fun b=>decide ((b.toNat:Int)≠10)).length≤((M8 s).drop off).length:=(List.takeWhile_sublist _).length_le
      rw[List.length_drop,P2]at this;omega
     have:=EV (s:=s) (f:=f) (off:=FD s off) (acc:=acc) h2.2
     omega
    ·split
     ·rename_i h4
      have hsz:(G2 s off s.size).size=s.size-off:=y5 (Nat.le_refl _)
      obtain⟨a1,a2,-⟩:=WI (s:=G2 s off s.size) (by omega) h4
      have:=EV (s:=s) (f:=f) (off:=off+(O3 (G2 s off s.size)).n) (acc:=acc++[⟨(O3 (G2 s off s.size)).kind,(O3 (G2 s off s.size)).text,(O3 (G2 s off s.size)).value,(D9 s off).Line,(D9 s off).Col⟩]) (by omega)
      simp at this;omega
     ·simp
theorem VF{s:ByteArray}:(I6 s).1.length≤65536:=by
 unfold I6;split
 ·simp
 ·have:=EV (s:=s) (f:=s.size+1) (off:=0) (acc:=[]) (by omega)
  simp at this;omega
end Go.Proofs.YtlmiakjbogojgaaGreatDoor
end
section
open Go Mk
namespace Go.Proofs.YtlmiakjbogojgaaGreatDoor
set_option maxHeartbeats 4000000
attribute [local irreducible] Calls Ft
section
variable {Γ:C8}{S:List B6}{w:World}{bp:Nat}{a:Option Addr}{n c at':Nat}{e:H9}{toks:List Tok}
end
end Go.Proofs.YtlmiakjbogojgaaGreatDoor
end
section
open Go Mk
namespace Go.Proofs.YtlmiakjbogojgaaGreatDoor
set_option maxHeartbeats 4000000
attribute [local irreducible] Calls Ft Cp Em ZZ R9
def ew:ByteArray:=⟨#[98,97,115,101]⟩
def fX:ByteArray:=⟨#[115,105,122,101]⟩
def df:ByteArray:=⟨#[99,111,114,101,115]⟩
def Pr(toks:List Tok)(e:H9)(limited cores:Bool):Nat→Nat→List Int→PR (List Int)
 | 0,k,acc=>.ok (acc,k)
 | f+1,k,acc=>if (cores&&ZZ toks k 4 dw)=true then (match Cp toks e limited (k+1) with|.ok (v,k1)=>Pr toks e limited cores f k1 (acc++[v])|.error q=>.error q) else .ok (acc,k)
def fD(s:ByteArray):Bool:=decide (s≠ew)&&decide (s≠fX)
def ap(toks:List Tok)(e:H9)(names:List ByteArray)(got:List (ByteArray×List Int))(k:Nat):PR (ByteArray×List Int):=
 match Ft toks e 1 k with
 | .error q=>.error q
 | .ok (t,_)=>
  if Vk t.Text names=false then .error (R9 toks k e,50)
  else if Vk t.Text (got.map (·.1))=true then .error (R9 toks k e,56)
  else match Cp toks e (fD t.Text) (k+1) with
   | .error q=>.error q
   | .ok (v,k1)=>match Pr toks e (fD t.Text) (decide (t.Text=df)) (toks.length+1) k1 [v] with
    | .error q=>.error q
    | .ok (l,k2)=>match Em toks e 4 fY k2 with
     | .error q=>.error q
     | .ok (_,k3)=>.ok ((t.Text,l),k3)
def fV(toks:List Tok)(e:H9)(names:List ByteArray):Nat→Nat→List (ByteArray×List Int)→PR (List (ByteArray×List Int))
 | 0,k,got=>.ok (got,k)
 | f+1,k,got=>if ZZ toks k 4 dX=true then .ok (got,k) else
  match ap toks e names got k with
  | .error q=>.error q
  | .ok (p,k3)=>fV toks e names f k3 (got++[p])
end Go.Proofs.YtlmiakjbogojgaaGreatDoor
end
section
open Go Mk
namespace Go.Proofs.YtlmiakjbogojgaaGreatDoor
set_option maxHeartbeats 4000000
attribute [local irreducible] Calls Ft Cp Em ZZ R9 Pr Vk
abbrev D2(l:List ByteArray):List (List Value):=l.map fun x=>[.string x]
section
variable {Γ:C8}{S:List B6}{w:World}{bp:Nat}{a:Option Addr}{n c at':Nat}{e:H9}{toks:List Tok}
end
end Go.Proofs.YtlmiakjbogojgaaGreatDoor
end
section
open Go Mk
namespace Go.Proofs.YtlmiakjbogojgaaGreatDoor
set_option maxHeartbeats 4000000
attribute [local irreducible] Calls Ft Cp Em ZZ R9 Vk ZU
structure F0 where
 ID:Int
 Width:Int
 Node:Int
 Speed:Int
 deriving DecidableEq,Inhabited
instance:KV F0 where
 enc a:=[.int .i64 a.ID,.int .i64 a.Width,.int .i64 a.Node,.int .i64 a.Speed]
 inj a b h:=by cases a;cases b;simp at h;simp[h]
 ks:=[5,5,5,5]
 kinds a:=rfl
structure E9 where
 A:Int
 B:Int
 Latency:Int
 deriving DecidableEq,Inhabited
instance:KV E9 where
 enc a:=[.int .i64 a.A,.int .i64 a.B,.int .i64 a.Latency]
 inj a b h:=by cases a;cases b;simp at h;simp[h]
 ks:=[5,5,5]
 kinds a:=rfl
structure I3 where
 Name:ByteArray
 Base:Int
 Size:Int
 Node:Int
 Latency:Int
 deriving DecidableEq,Inhabited
instance:KV I3 where
 enc a:=[.string a.Name,.int .u64 a.Base,.int .u64 a.Size,.int .i64 a.Node,.int .i64 a.Latency]
 inj a b h:=by cases a;cases b;simp at h;simp[h]
 ks:=[1,9,9,5,5]
 kinds a:=rfl
structure AA where
 Name:ByteArray
 Node:Int
 IRQ:Int
 Base:Int
 Size:Int
 deriving DecidableEq,Inhabited
instance:KV AA where
 enc a:=[.string a.Name,.int .i64 a.Node,.int .i64 a.IRQ,.int .u64 a.Base,.int .u64 a.Size]
 inj a b h:=by cases a;cases b;simp at h;simp[h]
 ks:=[1,5,5,9,9]
 kinds a:=rfl
structure R5 where
 Name:ByteArray
 Level:Int
 Line:Int
 Size:Int
 Cores:List Int
 deriving DecidableEq,Inhabited
structure E1 where
 Name:ByteArray
 Level:Int
 Line:Int
 Size:Int
 A:Option Addr
 N:Nat
 C:Nat
 Cores:List Int
def E1.T(c:E1):R5:=⟨c.Name,c.Level,c.Line,c.Size,c.Cores⟩
def cC(c:E1):List Value:=[.string c.Name,.int .i64 c.Level,.int .i64 c.Line,.int .u64 c.Size,.slice c.A c.N c.C]
def A8(l:List Int):List (List Value):=l.map fun x=>[.int .i64 x]
def SZ(Γ:C8)(c:E1):Prop:=D7 Γ (.slice c.A c.N c.C) 1 (A8 c.Cores)
structure J6 where
 Name:ByteArray
 Cores:List F0
 Caches:List R5
 Links:List E9
 Mems:List I3
 Devs:List AA
 deriving DecidableEq
def x8:ByteArray:=⟨#[99,111,114,101]⟩
def o9:ByteArray:=⟨#[99,97,99,104,101]⟩
def CE:ByteArray:=⟨#[108,105,110,107]⟩
def K4:ByteArray:=⟨#[109,101,109,111,114,121]⟩
def o7:ByteArray:=⟨#[100,101,118,105,99,101]⟩
theorem nodup_le{α:Type}[DecidableEq α]:∀(ks L:List α),ks.Nodup→(∀x∈ks,x∈L)→ks.length≤L.length
 | [],_,_,_=>Nat.zero_le _
 | k::ks,L,hn,hs=>by
  have hk:=hs k (List.mem_cons_self ..)
  have h1:=nodup_le ks (L.erase k) (List.nodup_cons.1 hn).2 fun x hx=>by
   refine(List.mem_erase_of_ne ?_).2 (hs x (List.mem_cons_of_mem _ hx))
   rintro rfl;exact(List.nodup_cons.1 hn).1 hx
  rw[List.length_erase_of_mem hk]at h1;have:=List.length_pos_of_mem hk
  simp;omega
end Go.Proofs.YtlmiakjbogojgaaGreatDoor
end
section
open Go Mk
namespace Go.Proofs.YtlmiakjbogojgaaGreatDoor
set_option maxHeartbeats 4000000
attribute [local irreducible] Calls Ft Cp Em ZZ R9 Pr Vk ZU
def Small(H:J6)(k:Nat):Prop:=H.Cores.length≤k∧H.Caches.length≤k∧H.Links.length≤k∧H.Mems.length≤k∧H.Devs.length≤k
theorem SZ.mono{Γ Γ':C8}{c:E1}(h:SZ Γ c)(hle:Γ.le Γ'):SZ Γ' c:=D7.mono h hle
section
variable {Γ:C8}{S:List B6}{w:World}{bp hb:Nat}{a:Option Addr}{n c at':Nat}{e:H9}{toks:List Tok}{H:J6}
end
end Go.Proofs.YtlmiakjbogojgaaGreatDoor
end
section
open Go Mk
namespace Go.Proofs.YtlmiakjbogojgaaGreatDoor
set_option maxHeartbeats 4000000
attribute [local irreducible] Calls Ft Cp Em ZZ R9 Pr Vk ZU
def WE(Γ:C8)(H:J6)(S:List B6)(u:Value)(w:World):Prop:=∃(v1 v2 v3 v4 v5:Value) (cs:List E1),cs.map E1.T=H.Caches∧(∀c∈cs,SZ Γ c)∧u=.agg #[.string H.Name,v1,v2,v3,v4,v5] ∧
 Wd Γ (.own v1 47 4 (H.Cores.map enc)::.own v2 135 5 (cs.map cC)::.own v3 128 3 (H.Links.map enc)::.own v4 58 5 (H.Mems.map enc)::.own v5 131 5 (H.Devs.map enc)::S) w
section
variable {Γ:C8}{S:List B6}{w:World}{bp hb:Nat}{a:Option Addr}{n c:Nat}{e:H9}{toks:List Tok}
end
end Go.Proofs.YtlmiakjbogojgaaGreatDoor
end
section
open Go Mk
namespace Go.Proofs.YtlmiakjbogojgaaGreatDoor
set_option maxHeartbeats 4000000
attribute [local irreducible] Calls
def maxS:Nat:=9223372036854775807
def Ou(H:J6):Prop:=H.Name.size≤maxS∧(∀c∈H.Caches,c.Name.size≤maxS)∧(∀c∈H.Mems,c.Name.size≤maxS)∧∀c∈H.Devs,c.Name.size≤maxS
class FG(Γ:C8)(u:Value)(H:outParam J6):Prop where
 h:∃(a1:Option Addr) (n1 c1:Nat) (a2:Option Addr) (n2 c2:Nat) (a3:Option Addr) (n3 c3:Nat) (a4:Option Addr) (n4 c4:Nat) (a5:Option Addr) (n5 c5:Nat) (cs:List E1),
  u=.agg #[.string H.Name,.slice a1 n1 c1,.slice a2 n2 c2,.slice a3 n3 c3,.slice a4 n4 c4,.slice a5 n5 c5]∧cs.map E1.T=H.Caches∧(∀c∈cs,SZ Γ c)∧Ou H ∧
  D7 Γ (.slice a1 n1 c1) 4 (H.Cores.map enc)∧D7 Γ (.slice a2 n2 c2) 5 (cs.map cC)∧D7 Γ (.slice a3 n3 c3) 3 (H.Links.map enc)∧D7 Γ (.slice a4 n4 c4) 5 (H.Mems.map enc)∧D7 Γ (.slice a5 n5 c5) 5 (H.Devs.map enc)
theorem FG.mono{Γ Γ':C8}{u:Value}{H:J6}(hh:FG Γ u H)(hle:Γ.le Γ'):FG Γ' u H:=by
 obtain⟨a1,n1,c1,a2,n2,c2,a3,n3,c3,a4,n4,c4,a5,n5,c5,cs,h1,h2,h3,h4,r1,r2,r3,r4,r5⟩:=hh.h;exact⟨a1,n1,c1,a2,n2,c2,a3,n3,c3,a4,n4,c4,a5,n5,c5,cs,h1,h2,fun c hc=>D7.mono (h3 c hc) hle,h4,r1.mono hle,r2.mono hle,r3.mono hle,r4.mono hle,r5.mono hle⟩
theorem C0{Γ:C8}{a:Option Addr}{n c sz:Nat}{rows:List (List Value)}(h:D7 Γ (.slice a n c) sz rows):n=rows.length∧n≤c∧c≤9223372036854775807:=by
 obtain⟨_,_,_,h1,h2,h3⟩:=h.shape;cases h1;exact⟨h2,h3⟩
theorem SZ.facts{Γ:C8}{c:E1}(h:SZ Γ c):c.N=c.Cores.length∧c.N≤c.C∧c.C≤9223372036854775807:=by
 have:=C0 h
 simpa[A8] using this
section
variable {α:Type}{l:List α}{p:α→Bool}{k:Nat}{x:α}
theorem O9(h:∀i x,i<k→l[i]? = some x→p x=true)(hx:l[k]? = some x)(ht:p x=true):∀i x,i<k+1→l[i]? = some x→p x=true:=fun i y hi hy=>by
 by_cases e:i=k
 ·subst e;rw[hx]at hy;cases hy;exact ht
 ·exact h i y (by omega) hy
theorem Y0(h:∀i x,i<k→l[i]? = some x→p x=true)(hk:l.length≤k):l.all p=true:=by
 rw[List.all_eq_true];intro x hm;obtain⟨i,hi,hx⟩:=List.getElem_of_mem hm
 exact h i x (by omega) (by rw[List.getElem?_eq_getElem hi,hx])
theorem BD(hx:l[k]? = some x)(hf:p x=false):l.all p=false:=by
 rw[List.all_eq_false];exact⟨x,List.mem_of_getElem? hx,by rw[hf];simp⟩
theorem GC{a b:Bool}(h:a=false):(a&&b)=false:=by rw[h];rfl
theorem MR{a b:Bool}(h:b=false):(a&&b)=false:=by rw[h];simp
end
def J3(n:Int):Bool:=decide (0≤n)&&decide (n<64)
def u7(n:Int):Bool:=decide (1≤n)&&decide (n≤1000000)
instance eh(n:Int):PC Tryz.prog 183 [.int .i64 n] (.bool (J3 n)):=⟨fun w=>by
 refine A7 Tryz.func183 rfl rfl ?_
 refine A6 ?_;exact⟨_,rfl,rfl,rfl⟩⟩
instance az(n:Int):PC Tryz.prog 184 [.int .i64 n] (.bool (u7 n)):=⟨fun w=>by
 refine A7 Tryz.func184 rfl rfl ?_
 refine A6 ?_;exact⟨_,rfl,rfl,rfl⟩⟩
def l8(b s:Int):Bool:=(decide (4096≤s)&&decide (s≤1099511627776))&&decide (b≤IntKind.u64.wrap (1099511627776-s))
theorem Jq(b s:Int):PC Tryz.prog 185 [.int .u64 b,.int .u64 s] (.bool (l8 b s)):=⟨fun w=>by
 refine A7 Tryz.func185 rfl rfl ?_
 refine A6 ?_;exact⟨_,rfl,rfl,rfl⟩⟩
def BB(c:F0):Bool:=decide (0≤c.ID)&&decide (c.ID<32)&&(decide (c.Width=32)||decide (c.Width=39))&&decide (1≤c.Speed)&&decide (c.Speed≤1000000)&&J3 c.Node
def BS(c:R5):Bool:=decide (1≤c.Level)&&decide (c.Level≤4)&&decide (16≤c.Line)&&decide (c.Line≤256)&&decide (Z1 .and .i64 c.Line (IntKind.i64.wrap (c.Line-1))=0)&&decide (IntKind.u64.wrap c.Line≤c.Size)&&decide (c.Size≤1099511627776)&&decide (0<c.Cores.length)
def EZ(c:E1):Bool:=BS c.T
theorem Hg(cs:List E1):(cs.map E1.T).all BS=cs.all EZ:=by rw[List.all_map];rfl
def w3(l:E9):Bool:=J3 l.A&&J3 l.B&&decide (l.A≠l.B)&&u7 l.Latency
def CR(m:I3):Bool:=J3 m.Node&&u7 m.Latency&&l8 m.Base m.Size
def FA(d:AA):Bool:=J3 d.Node&&decide (0≤d.IRQ)&&decide (d.IRQ<256)&&l8 d.Base d.Size
def GP(m:I3):Bool:=decide (Z1 .and .u64 m.Size (IntKind.u64.wrap (m.Size-1))=0)&&decide (Z1 .and .u64 m.Base (IntKind.u64.wrap (m.Size-1))=0)
def Hm(d:AA):Bool:=decide (d.Base.tmod 4096=0)&&decide (d.Size.tmod 4096=0)
def K3(H:J6):Bool:=H.Cores.all BB&&(H.Caches.all BS&&H.Links.all w3)
def H4(H:J6):Bool:=H.Mems.all CR&&H.Devs.all FA
def o5(H:J6):Bool:=H.Mems.all GP&&H.Devs.all Hm
def S6(H:J6):Bool:=decide (1≤H.Cores.length)&&decide (H.Cores.length≤32)&&decide (H.Caches.length≤64)&&decide (H.Links.length≤256)&&decide (H.Mems.length≤64)&&decide (H.Devs.length≤32)
theorem Tn(x:I3):(!J3 x.Node || !u7 x.Latency || !l8 x.Base x.Size) = !CR x:=by
 simp only[CR,Bool.not_and]
theorem Td(x:AA):(!J3 x.Node||decide (x.IRQ<0)||decide (256≤x.IRQ) || !l8 x.Base x.Size) = !FA x:=by
 simp only[FA,Bool.not_and,←decide_not,Int.not_le,Int.not_lt]
theorem Pp(x:I3):(decide (Z1 .and .u64 x.Size (IntKind.u64.wrap (x.Size-1))≠0)||decide (Z1 .and .u64 x.Base (IntKind.u64.wrap (x.Size-1))≠0)) = !GP x:=by
 simp only[GP,Bool.not_and,←decide_not,ne_eq]
theorem Og(x:AA):(decide (x.Base.tmod 4096≠0)||decide (x.Size.tmod 4096≠0)) = !Hm x:=by
 simp only[Hm,Bool.not_and,←decide_not,ne_eq]
theorem LQ(x:E1)(hn:x.N=x.Cores.length):(decide (x.Level<1)||decide (4<x.Level)||decide (x.Line<16)||decide (256<x.Line)||decide (Z1 .and .i64 x.Line (IntKind.i64.wrap (x.Line-1))≠0)||decide (x.Size<IntKind.u64.wrap x.Line)||decide (1099511627776<x.Size)||decide ((x.N:Int)=0)) = !EZ x:=by
 have h:decide ((x.N:Int)=0) = !decide (0<x.Cores.length):=by rw[←decide_not];exact decide_eq_decide.2 (by omega)
 rw[h];have nle:∀a b:Int,decide (a≤b) = !decide (b<a):=fun a b=>by rw[←decide_not];exact decide_eq_decide.2 Int.not_lt.symm
 show _ = !(decide (1≤x.Level)&&decide (x.Level≤4)&&decide (16≤x.Line)&&decide (x.Line≤256)&&decide (Z1 .and .i64 x.Line (IntKind.i64.wrap (x.Line-1))=0)&&decide (IntKind.u64.wrap x.Line≤x.Size)&&decide (x.Size≤1099511627776)&&decide (0<x.Cores.length))
 rw[nle 1,nle x.Level,nle 16,nle x.Line,nle (IntKind.u64.wrap x.Line),nle x.Size,show decide (Z1 .and .i64 x.Line (IntKind.i64.wrap (x.Line-1))≠0) = !decide (Z1 .and .i64 x.Line (IntKind.i64.wrap (x.Line-1))=0) from decide_not];simp only[Bool.not_and,Bool.not_not]
theorem Jc{a b:Bool}(h:a = !b)(h2:a=true):b=false:=by subst h;simpa using h2
theorem GW{a b:Bool}(h:a = !b)(h2:a=false):b=true:=by subst h;simpa using h2
instance Vv{Γ:C8}{u:Value}{H:J6}[hh:FG Γ u H]:PG Tryz.prog Γ 124 [u] (.bool (K3 H)):=⟨fun S w hw=>by
 obtain⟨a1,n1,c1,a2,n2,c2,a3,n3,c3,a4,n4,c4,a5,n5,c5,cs,rfl,hcs,hok,hsz,r1,r2,r3,r4,r5⟩:=hh.h;obtain⟨hn1,hm1,hx1⟩:=C0 r1
 obtain⟨hn2,hm2,hx2⟩:=C0 r2
 obtain⟨hn3,hm3,hx3⟩:=C0 r3
 obtain⟨hn4,hm4,hx4⟩:=C0 r4
 obtain⟨hn5,hm5,hx5⟩:=C0 r5
 simp only[List.length_map]at hn1 hn2 hn3 hn4 hn5
 refine A7 Tryz.func124 rfl rfl ?_
 refine A6 ?_;refine H2 ?_;intro b1 w hw;have hw:Wd Γ (.blk b1 (.cells #[.string H.Name,.slice a1 n1 c1,.slice a2 n2 c2,.slice a3 n3 c3,.slice a4 n4 c4,.slice a5 n5 c5] 44)::S) w:=hw
 refine A6 ?_;refine B3 (fun μ ρ w=>∃(k:Nat),μ+k=n1∧Has ρ [(1,.pointer (some ⟨b1,0,none⟩)),(10,.slice a1 n1 c1),(11,.int .i64 n1),(12,.int .i64 k)]∧(∀i x,i<k→(H.Cores)[i]? = some x→BB x=true)∧Wd Γ (.blk b1 (.cells #[.string H.Name,.slice a1 n1 c1,.slice a2 n2 c2,.slice a3 n3 c3,.slice a4 n4 c4,.slice a5 n5 c5] 44)::S) w) n1 ⟨0,by omega,⟨rfl,rfl,rfl,rfl,trivial⟩,fun i x h=>by omega,hw⟩ ?_
 clear hw;rintro μ ρ w ⟨k,hk,hρ,hall,hw⟩
 rw[hρ.eq];refine A6 ?_;refine A0 rfl (fun h=>?_) (fun h=>?_)
 ·have hkn:k<n1:=by simpa using h
  obtain⟨x,hx⟩:=B2 (l:=H.Cores) (k:=k) (by omega)
  refine A6 ?_;refine B9 ?_;intro b9 w hw;refine B0 ?_;intro w hw;have hw:Wd Γ (.blk b9 (.cells (enc x).toArray 47)::.blk b1 (.cells #[.string H.Name,.slice a1 n1 c1,.slice a2 n2 c2,.slice a3 n3 c3,.slice a4 n4 c4,.slice a5 n5 c5] 44)::S) w:=hw
  refine A6 ?_;refine A0 rfl (fun h2=>?_) (fun h2=>?_)
  ·have hf:BB x=false:=by
    simp[BB,J3]at h2 ⊢;omega
   refine A6 ?_;exact⟨_,rfl,F2 rfl (by exact(GC (BD hx hf)).symm),hw.drop.drop⟩
  ·have ht:BB x=true:=by
    simp[BB,J3]at h2 ⊢;omega
   refine A6 ?_;exact⟨μ-1,by omega,k+1,by omega,⟨rfl,rfl,rfl,rfl,trivial⟩,O9 hall hx ht,hw.drop⟩
 have hAc:(H.Cores).all BB=true:=Y0 hall (by have hkn:¬k<n1:=(by simpa using h);omega)
 clear h hall hρ hk;refine A6 ?_;refine B3 (fun μ ρ w=>∃(k:Nat),μ+k=n2∧Has ρ [(1,.pointer (some ⟨b1,0,none⟩)),(52,.slice a2 n2 c2),(53,.int .i64 n2),(54,.int .i64 k)]∧(∀i x,i<k→(cs)[i]? = some x→EZ x=true)∧Wd Γ (.blk b1 (.cells #[.string H.Name,.slice a1 n1 c1,.slice a2 n2 c2,.slice a3 n3 c3,.slice a4 n4 c4,.slice a5 n5 c5] 44)::S) w) n2 ⟨0,by omega,⟨rfl,rfl,rfl,rfl,trivial⟩,fun i x h=>by omega,hw⟩ ?_
 clear hw;rintro μ ρ w ⟨k,hk,hρ,hall,hw⟩
 rw[hρ.eq];refine A6 ?_;refine A0 rfl (fun h=>?_) (fun h=>?_)
 ·have hkn:k<n2:=by simpa using h
  obtain⟨x,hx⟩:=B2 (l:=cs) (k:=k) (by omega)
  have hcx:=(hok x (List.mem_of_getElem? hx)).facts
  refine A6 ?_;refine B9 ?_;intro b9 w hw;refine B0 ?_;intro w hw;have hw:Wd Γ (.blk b9 (.cells (cC x).toArray 135)::.blk b1 (.cells #[.string H.Name,.slice a1 n1 c1,.slice a2 n2 c2,.slice a3 n3 c3,.slice a4 n4 c4,.slice a5 n5 c5] 44)::S) w:=hw
  refine A6 ?_;refine A0 rfl (fun h2=>?_) (fun h2=>?_)
  ·have hf:EZ x=false:=by
    exact Jc (LQ x hcx.1) h2
   refine A6 ?_;exact⟨_,rfl,F2 rfl (by rw[K3,←hcs,Hg,hAc];exact(MR (GC (BD hx hf))).symm),hw.drop.drop⟩
  ·have ht:EZ x=true:=by
    exact GW (LQ x hcx.1) h2
   refine A6 ?_;exact⟨μ-1,by omega,k+1,by omega,⟨rfl,rfl,rfl,rfl,trivial⟩,O9 hall hx ht,hw.drop⟩
 have hAh:(cs).all EZ=true:=Y0 hall (by have hkn:¬k<n2:=(by simpa using h);omega)
 clear h hall hρ hk;refine A6 ?_;refine B3 (fun μ ρ w=>∃(k:Nat),μ+k=n3∧Has ρ [(1,.pointer (some ⟨b1,0,none⟩)),(106,.slice a3 n3 c3),(107,.int .i64 n3),(108,.int .i64 k)]∧(∀i x,i<k→(H.Links)[i]? = some x→w3 x=true)∧Wd Γ (.blk b1 (.cells #[.string H.Name,.slice a1 n1 c1,.slice a2 n2 c2,.slice a3 n3 c3,.slice a4 n4 c4,.slice a5 n5 c5] 44)::S) w) n3 ⟨0,by omega,⟨rfl,rfl,rfl,rfl,trivial⟩,fun i x h=>by omega,hw⟩ ?_
 clear hw;rintro μ ρ w ⟨k,hk,hρ,hall,hw⟩
 rw[hρ.eq];refine A6 ?_;refine A0 rfl (fun h=>?_) (fun h=>?_)
 ·have hkn:k<n3:=by simpa using h
  obtain⟨x,hx⟩:=B2 (l:=H.Links) (k:=k) (by omega)
  refine A6 ?_;refine B9 ?_;intro b9 w hw;refine B0 ?_;intro w hw;have hw:Wd Γ (.blk b9 (.cells (enc x).toArray 128)::.blk b1 (.cells #[.string H.Name,.slice a1 n1 c1,.slice a2 n2 c2,.slice a3 n3 c3,.slice a4 n4 c4,.slice a5 n5 c5] 44)::S) w:=hw
  refine A6 ?_;refine A0 rfl (fun h2=>?_) (fun h2=>?_)
  ·have hf:w3 x=false:=by
    simp[w3,J3,u7]at h2 ⊢;omega
   refine A6 ?_;exact⟨_,rfl,F2 rfl (by rw[K3,←hcs,Hg,hAc,hAh];exact(MR (MR (BD hx hf))).symm),hw.drop.drop⟩
  ·have ht:w3 x=true:=by
    simp[w3,J3,u7]at h2 ⊢;omega
   refine A6 ?_;exact⟨μ-1,by omega,k+1,by omega,⟨rfl,rfl,rfl,rfl,trivial⟩,O9 hall hx ht,hw.drop⟩
 have hAl:(H.Links).all w3=true:=Y0 hall (by have hkn:¬k<n3:=(by simpa using h);omega)
 clear h hall hρ hk;refine A6 ?_;exact⟨_,rfl,F2 rfl (by rw[K3,←hcs,Hg,hAc,hAh,hAl];rfl),hw.drop⟩⟩
instance Ss{Γ:C8}{u:Value}{H:J6}[hh:FG Γ u H]:PG Tryz.prog Γ 125 [u] (.bool (H4 H)):=⟨fun S w hw=>by
 obtain⟨a1,n1,c1,a2,n2,c2,a3,n3,c3,a4,n4,c4,a5,n5,c5,cs,rfl,hcs,hok,hsz,r1,r2,r3,r4,r5⟩:=hh.h;obtain⟨hn1,hm1,hx1⟩:=C0 r1
 obtain⟨hn2,hm2,hx2⟩:=C0 r2
 obtain⟨hn3,hm3,hx3⟩:=C0 r3
 obtain⟨hn4,hm4,hx4⟩:=C0 r4
 obtain⟨hn5,hm5,hx5⟩:=C0 r5
 simp only[List.length_map]at hn1 hn2 hn3 hn4 hn5
 refine A7 Tryz.func125 rfl rfl ?_
 refine A6 ?_;refine H2 ?_;intro b1 w hw;have hw:Wd Γ (.blk b1 (.cells #[.string H.Name,.slice a1 n1 c1,.slice a2 n2 c2,.slice a3 n3 c3,.slice a4 n4 c4,.slice a5 n5 c5] 44)::S) w:=hw
 refine A6 ?_;refine B3 (fun μ ρ w=>∃(k:Nat),μ+k=n4∧Has ρ [(1,.pointer (some ⟨b1,0,none⟩)),(3,.func (.func 185) #[] #[]),(9,.slice a4 n4 c4),(10,.int .i64 n4),(11,.int .i64 k)]∧(∀i x,i<k→(H.Mems)[i]? = some x→CR x=true)∧Wd Γ (.blk b1 (.cells #[.string H.Name,.slice a1 n1 c1,.slice a2 n2 c2,.slice a3 n3 c3,.slice a4 n4 c4,.slice a5 n5 c5] 44)::S) w) n4 ⟨0,by omega,⟨rfl,rfl,rfl,rfl,rfl,trivial⟩,fun i x h=>by omega,hw⟩ ?_
 clear hw;rintro μ ρ w ⟨k,hk,hρ,hall,hw⟩
 rw[hρ.eq];refine A6 ?_;refine A0 rfl (fun h=>?_) (fun h=>?_)
 ·have hkn:k<n4:=by simpa using h
  obtain⟨x,hx⟩:=B2 (l:=H.Mems) (k:=k) (by omega)
  refine A6 ?_;refine B9 ?_;intro b9 w hw;refine B0 ?_;intro w hw;have hw:Wd Γ (.blk b9 (.cells (enc x).toArray 58)::.blk b1 (.cells #[.string H.Name,.slice a1 n1 c1,.slice a2 n2 c2,.slice a3 n3 c3,.slice a4 n4 c4,.slice a5 n5 c5] 44)::S) w:=hw
  refine A6 ?_;refine fL (Jq x.Base x.Size) ?_
  refine A6 ?_;refine A0 rfl (fun h2=>?_) (fun h2=>?_)
  ·have hf:CR x=false:=by
    exact Jc (Tn x) h2
   refine A6 ?_;exact⟨_,rfl,F2 rfl (by exact(GC (BD hx hf)).symm),hw.drop.drop⟩
  ·have ht:CR x=true:=by
    exact GW (Tn x) h2
   refine A6 ?_;exact⟨μ-1,by omega,k+1,by omega,⟨rfl,rfl,rfl,rfl,rfl,trivial⟩,O9 hall hx ht,hw.drop⟩
 have hAm:(H.Mems).all CR=true:=Y0 hall (by have hkn:¬k<n4:=(by simpa using h);omega)
 clear h hall hρ hk;refine A6 ?_;refine B3 (fun μ ρ w=>∃(k:Nat),μ+k=n5∧Has ρ [(1,.pointer (some ⟨b1,0,none⟩)),(3,.func (.func 185) #[] #[]),(36,.slice a5 n5 c5),(37,.int .i64 n5),(38,.int .i64 k)]∧(∀i x,i<k→(H.Devs)[i]? = some x→FA x=true)∧Wd Γ (.blk b1 (.cells #[.string H.Name,.slice a1 n1 c1,.slice a2 n2 c2,.slice a3 n3 c3,.slice a4 n4 c4,.slice a5 n5 c5] 44)::S) w) n5 ⟨0,by omega,⟨rfl,rfl,rfl,rfl,rfl,trivial⟩,fun i x h=>by omega,hw⟩ ?_
 clear hw;rintro μ ρ w ⟨k,hk,hρ,hall,hw⟩
 rw[hρ.eq];refine A6 ?_;refine A0 rfl (fun h=>?_) (fun h=>?_)
 ·have hkn:k<n5:=by simpa using h
  obtain⟨x,hx⟩:=B2 (l:=H.Devs) (k:=k) (by omega)
  refine A6 ?_;refine B9 ?_;intro b9 w hw;refine B0 ?_;intro w hw;have hw:Wd Γ (.blk b9 (.cells (enc x).toArray 131)::.blk b1 (.cells #[.string H.Name,.slice a1 n1 c1,.slice a2 n2 c2,.slice a3 n3 c3,.slice a4 n4 c4,.slice a5 n5 c5] 44)::S) w:=hw
  refine A6 ?_;refine fL (Jq x.Base x.Size) ?_
  refine A6 ?_;refine A0 rfl (fun h2=>?_) (fun h2=>?_)
  ·have hf:FA x=false:=by
    exact Jc (Td x) h2
   refine A6 ?_;exact⟨_,rfl,F2 rfl (by rw[H4,hAm];exact(BD hx hf).symm),hw.drop.drop⟩
  ·have ht:FA x=true:=by
    exact GW (Td x) h2
   refine A6 ?_;exact⟨μ-1,by omega,k+1,by omega,⟨rfl,rfl,rfl,rfl,rfl,trivial⟩,O9 hall hx ht,hw.drop⟩
 have hAd:(H.Devs).all FA=true:=Y0 hall (by have hkn:¬k<n5:=(by simpa using h);omega)
 clear h hall hρ hk;refine A6 ?_;exact⟨_,rfl,F2 rfl (by rw[H4,hAm,hAd];rfl),hw.drop⟩⟩
instance aj{Γ:C8}{u:Value}{H:J6}[hh:FG Γ u H]:PG Tryz.prog Γ 126 [u] (.bool (o5 H)):=⟨fun S w hw=>by
 obtain⟨a1,n1,c1,a2,n2,c2,a3,n3,c3,a4,n4,c4,a5,n5,c5,cs,rfl,hcs,hok,hsz,r1,r2,r3,r4,r5⟩:=hh.h;obtain⟨hn1,hm1,hx1⟩:=C0 r1
 obtain⟨hn2,hm2,hx2⟩:=C0 r2
 obtain⟨hn3,hm3,hx3⟩:=C0 r3
 obtain⟨hn4,hm4,hx4⟩:=C0 r4
 obtain⟨hn5,hm5,hx5⟩:=C0 r5
 simp only[List.length_map]at hn1 hn2 hn3 hn4 hn5
 refine A7 Tryz.func126 rfl rfl ?_
 refine A6 ?_;refine H2 ?_;intro b1 w hw;have hw:Wd Γ (.blk b1 (.cells #[.string H.Name,.slice a1 n1 c1,.slice a2 n2 c2,.slice a3 n3 c3,.slice a4 n4 c4,.slice a5 n5 c5] 44)::S) w:=hw
 refine A6 ?_;refine B3 (fun μ ρ w=>∃(k:Nat),μ+k=n4∧Has ρ [(1,.pointer (some ⟨b1,0,none⟩)),(8,.slice a4 n4 c4),(9,.int .i64 n4),(10,.int .i64 k)]∧(∀i x,i<k→(H.Mems)[i]? = some x→GP x=true)∧Wd Γ (.blk b1 (.cells #[.string H.Name,.slice a1 n1 c1,.slice a2 n2 c2,.slice a3 n3 c3,.slice a4 n4 c4,.slice a5 n5 c5] 44)::S) w) n4 ⟨0,by omega,⟨rfl,rfl,rfl,rfl,trivial⟩,fun i x h=>by omega,hw⟩ ?_
 clear hw;rintro μ ρ w ⟨k,hk,hρ,hall,hw⟩
 rw[hρ.eq];refine A6 ?_;refine A0 rfl (fun h=>?_) (fun h=>?_)
 ·have hkn:k<n4:=by simpa using h
  obtain⟨x,hx⟩:=B2 (l:=H.Mems) (k:=k) (by omega)
  refine A6 ?_;refine B9 ?_;intro b9 w hw;refine B0 ?_;intro w hw;have hw:Wd Γ (.blk b9 (.cells (enc x).toArray 58)::.blk b1 (.cells #[.string H.Name,.slice a1 n1 c1,.slice a2 n2 c2,.slice a3 n3 c3,.slice a4 n4 c4,.slice a5 n5 c5] 44)::S) w:=hw
  refine A6 ?_;refine A0 rfl (fun h2=>?_) (fun h2=>?_)
  ·have hf:GP x=false:=by
    exact Jc (Pp x) h2
   refine A6 ?_;exact⟨_,rfl,F2 rfl (by exact(GC (BD hx hf)).symm),hw.drop.drop⟩
  ·have ht:GP x=true:=by
    exact GW (Pp x) h2
   refine A6 ?_;exact⟨μ-1,by omega,k+1,by omega,⟨rfl,rfl,rfl,rfl,trivial⟩,O9 hall hx ht,hw.drop⟩
 have hAm:(H.Mems).all GP=true:=Y0 hall (by have hkn:¬k<n4:=(by simpa using h);omega)
 clear h hall hρ hk;refine A6 ?_;refine B3 (fun μ ρ w=>∃(k:Nat),μ+k=n5∧Has ρ [(1,.pointer (some ⟨b1,0,none⟩)),(32,.slice a5 n5 c5),(33,.int .i64 n5),(34,.int .i64 k)]∧(∀i x,i<k→(H.Devs)[i]? = some x→Hm x=true)∧Wd Γ (.blk b1 (.cells #[.string H.Name,.slice a1 n1 c1,.slice a2 n2 c2,.slice a3 n3 c3,.slice a4 n4 c4,.slice a5 n5 c5] 44)::S) w) n5 ⟨0,by omega,⟨rfl,rfl,rfl,rfl,trivial⟩,fun i x h=>by omega,hw⟩ ?_
 clear hw;rintro μ ρ w ⟨k,hk,hρ,hall,hw⟩
 rw[hρ.eq];refine A6 ?_;refine A0 rfl (fun h=>?_) (fun h=>?_)
 ·have hkn:k<n5:=by simpa using h
  obtain⟨x,hx⟩:=B2 (l:=H.Devs) (k:=k) (by omega)
  refine A6 ?_;refine B9 ?_;intro b9 w hw;refine B0 ?_;intro w hw;have hw:Wd Γ (.blk b9 (.cells (enc x).toArray 131)::.blk b1 (.cells #[.string H.Name,.slice a1 n1 c1,.slice a2 n2 c2,.slice a3 n3 c3,.slice a4 n4 c4,.slice a5 n5 c5] 44)::S) w:=hw
  refine A6 ?_;refine A0 rfl (fun h2=>?_) (fun h2=>?_)
  ·have hf:Hm x=false:=by
    exact Jc (Og x) h2
   refine A6 ?_;exact⟨_,rfl,F2 rfl (by rw[o5,hAm];exact(BD hx hf).symm),hw.drop.drop⟩
  ·have ht:Hm x=true:=by
    exact GW (Og x) h2
   refine A6 ?_;exact⟨μ-1,by omega,k+1,by omega,⟨rfl,rfl,rfl,rfl,trivial⟩,O9 hall hx ht,hw.drop⟩
 have hAd:(H.Devs).all Hm=true:=Y0 hall (by have hkn:¬k<n5:=(by simpa using h);omega)
 clear h hall hρ hk;refine A6 ?_;exact⟨_,rfl,F2 rfl (by rw[o5,hAm,hAd];rfl),hw.drop⟩⟩
class fz(Γ:C8)(v:Value)(sz:outParam Nat)(rows:outParam (List (List Value))):Prop where
 h:D7 Γ v sz rows
instance:cm Tryz.prog 242:=⟨⟨3,by kernel_rfl,by kernel_rfl,by kernel_rfl⟩⟩
abbrev G5(l:List (Int×Int)):List (List Value):=l.map fun p=>[.int .i64 p.1,.int .i64 p.2]
theorem D4{α:Type}{l:List α}{k:Nat}{x:α}(h:l[k]? = some x):l.take (k+1)=l.take k++[x]:=by rw[List.take_add_one,h];rfl
theorem P8{α:Type}{l:List α}{x:α}:(l++[x]).Nodup↔l.Nodup∧x∉l:=by
 rw[List.nodup_append];constructor
 ·rintro⟨h1,-,h3⟩;exact⟨h1,fun hx=>h3 x hx x (by simp) rfl⟩
 ·rintro⟨h1,h2⟩;exact⟨h1,by simp,fun a ha b hb=>by simp at hb;subst hb;rintro rfl;exact h2 ha⟩
theorem Co{α:Type}{l:List α}{k:Nat}{x:α}(h:l[k]? = some x)(hm:x∈l.take k):¬l.Nodup:=fun hn=>by
 have h1:(l.take (k+1)).Nodup:=hn.sublist (List.take_sublist _ _)
 rw[D4 h,P8]at h1;exact h1.2 hm
section
variable {α:Type}[DecidableEq α]{l:List α}{x:α}
abbrev l7(l:List α):List (α×Bool):=l.map fun x=>(x,true)
theorem If:∀ {l:List α},(Dc (l7 l) x).isSome=true↔x∈l
 | []=>by simp[Dc,l7]
 | y::l=>by
  have ih:=If (l:=l)
  unfold Dc at ih ⊢
  by_cases h:y=x
  ·simp[l7,List.findIdx?_cons,h]
  ·simp only[l7,List.map_cons,List.findIdx?_cons,h,decide_false,Bool.false_eq_true,if_false,Option.isSome_map]
   rw[ih];simp[Ne.symm h]
theorem HW(h:x∈l):G3 (l7 l) x=some true:=by
 have h2:=If.2 h
 unfold G3;cases hi:Dc (l7 l) x with
 | none=>rw[hi]at h2;cases h2
 | some i=>
  obtain⟨v,hv⟩:=Ei hi
  obtain⟨y,hy,he⟩:=List.mem_map.1 (List.mem_of_getElem? hv)
  cases he
  simp only[Option.bind_some,hv];rfl
theorem seen_none(h:x∉l):G3 (l7 l) x=none:=by
 unfold G3;cases hi:Dc (l7 l) x with
 | none=>rfl
 | some i=>exact absurd (If.1 (by rw[hi];rfl)) h
theorem Jy(h:x∉l):j6 (l7 l) x true=l7 (l++[x]):=by
 unfold j6;cases hi:Dc (l7 l) x with
 | none=>simp[l7]
 | some i=>exact absurd (If.1 (by rw[hi];rfl)) h
end
theorem s9{Γ:C8}{S:List B6}{w:World}{v:Value}{xs:List (Int)}(hr:P4 Γ S v 1 (A8 xs))(hw:Wd Γ S w):Calls Tryz.prog 186 #[v] w fun e w'=>e=.returned (.bool (decide xs.Nodup))∧Wd Γ S w':=by
 obtain⟨a,n,c,rfl,hn,hnc,hc⟩:=hr.shape;have hnr:=hn
 simp only[A8,List.length_map]at hn
 refine A7 Tryz.func186 rfl rfl ?_
 refine A6 ?_;refine H5 rfl rfl (X8 (K:=3) (α:=Int) (f:=Value.bool) hw fun bm w hw=>?_)
 refine A6 ?_;refine B3 (fun μ ρ w=>∃(k:Nat),μ+k=n∧Has ρ [(3,.map (some bm)),(7,.slice a n c),(8,.int .i64 n),(9,.int .i64 k)]∧(xs.take k).Nodup∧Wd Γ (B6.mpT Tryz.prog 3 Value.bool bm (l7 (xs.take k))::S) w) n ⟨0,by omega,⟨rfl,rfl,rfl,rfl,trivial⟩,by simp,hw⟩ ?_
 clear hw;rintro μ ρ w ⟨k,hk,hρ,hnd,hw⟩
 have hr1:P4 Γ (B6.mpT Tryz.prog 3 Value.bool bm (l7 (xs.take k))::S) (.slice a n c) 1 (A8 xs):=hr.cons
 rw[hρ.eq];refine A6 ?_;refine A0 rfl (fun h=>?_) (fun h=>?_)
 ·have hkn:k<n:=by simpa using h
  obtain⟨x,hx⟩:=B2 (l:=xs) (k:=k) (by omega)
  refine A6 ?_;letI hdm:Decidable (x∈xs.take k):=Classical.propDecidable _
  refine eN rfl rfl (v:=.bool (decide (x∈xs.take k))) ?_ ?_
  ·by_cases hm:x∈xs.take k
   ·rw[decide_eq_true hm];exact Y9 (P:=Tryz.prog) (K:=3) (α:=Int) (f:=Value.bool) (i:=0) hw rfl rfl rfl (HW hm) false
   ·rw[decide_eq_false hm];exact Z3 (P:=Tryz.prog) (K:=3) (α:=Int) (f:=Value.bool) (i:=0) hw rfl rfl rfl (seen_none hm) false
  refine A6 ?_;refine A0 rfl (fun h2=>?_) (fun h2=>?_)
  ·have hm:x∈xs.take k:=by simpa using h2
   refine A6 ?_;exact⟨_,rfl,F2 rfl (decide_eq_false (Co hx hm)).symm,hw.drop⟩
  ·have hm:x∉xs.take k:=by simpa using h2
   refine A6 ?_;refine H5 rfl rfl (BP (P:=Tryz.prog) (K:=3) (α:=Int) (f:=Value.bool) (i:=0) (v:=true) hw rfl rfl rfl rfl fun w hw=>?_)
   rw[Jy hm,←D4 hx]at hw;refine A6 ?_;exact⟨μ-1,by omega,k+1,by omega,⟨rfl,rfl,rfl,rfl,trivial⟩,by rw[D4 hx];exact P8.2 ⟨hnd,hm⟩,hw⟩
 ·have hkn:¬k<n:=by simpa using h
  rw[List.take_of_length_le (by omega)]at hnd
  refine A6 ?_;exact⟨_,rfl,F2 rfl (decide_eq_true hnd).symm,hw.drop⟩
theorem Y4{Γ:C8}{S:List B6}{w:World}{v:Value}{xs:List (ByteArray)}(hr:P4 Γ S v 1 (D2 xs))(hw:Wd Γ S w):Calls Tryz.prog 187 #[v] w fun e w'=>e=.returned (.bool (decide xs.Nodup))∧Wd Γ S w':=by
 obtain⟨a,n,c,rfl,hn,hnc,hc⟩:=hr.shape;have hnr:=hn
 simp only[List.length_map]at hn
 refine A7 Tryz.func187 rfl rfl ?_
 refine A6 ?_;refine H5 rfl rfl (X8 (K:=9) (α:=ByteArray) (f:=Value.bool) hw fun bm w hw=>?_)
 refine A6 ?_;refine B3 (fun μ ρ w=>∃(k:Nat),μ+k=n∧Has ρ [(3,.map (some bm)),(7,.slice a n c),(8,.int .i64 n),(9,.int .i64 k)]∧(xs.take k).Nodup∧Wd Γ (B6.mpT Tryz.prog 9 Value.bool bm (l7 (xs.take k))::S) w) n ⟨0,by omega,⟨rfl,rfl,rfl,rfl,trivial⟩,by simp,hw⟩ ?_
 clear hw;rintro μ ρ w ⟨k,hk,hρ,hnd,hw⟩
 have hr1:P4 Γ (B6.mpT Tryz.prog 9 Value.bool bm (l7 (xs.take k))::S) (.slice a n c) 1 (D2 xs):=hr.cons
 rw[hρ.eq];refine A6 ?_;refine A0 rfl (fun h=>?_) (fun h=>?_)
 ·have hkn:k<n:=by simpa using h
  obtain⟨x,hx⟩:=B2 (l:=xs) (k:=k) (by omega)
  refine A6 ?_;refine A0 rfl (fun h2=>?_) (fun h2=>?_)
  ·have hm:x∈xs.take k:=Classical.byContradiction fun hm=>by rw[seen_none hm]at h2;cases h2
   refine A6 ?_;exact⟨_,rfl,F2 rfl (decide_eq_false (Co hx hm)).symm,hw.drop⟩
  ·have hm:x∉xs.take k:=fun hm=>by rw[HW hm]at h2;cases h2
   refine A6 ?_;refine Xl (i:=0) (f:=Value.bool) (v:=true) ?_
   intro w hw;rw[Jy hm,←D4 hx]at hw;refine A6 ?_;exact⟨μ-1,by omega,k+1,by omega,⟨rfl,rfl,rfl,rfl,trivial⟩,by rw[D4 hx];exact P8.2 ⟨hnd,hm⟩,hw⟩
 ·have hkn:¬k<n:=by simpa using h
  rw[List.take_of_length_le (by omega)]at hnd
  refine A6 ?_;exact⟨_,rfl,F2 rfl (decide_eq_true hnd).symm,hw.drop⟩
theorem EB{Γ:C8}{S:List B6}{w:World}{v:Value}{xs:List (Int×Int)}(hr:P4 Γ S v 2 (G5 xs))(hw:Wd Γ S w):Calls Tryz.prog 188 #[v] w fun e w'=>e=.returned (.bool (decide xs.Nodup))∧Wd Γ S w':=by
 obtain⟨a,n,c,rfl,hn,hnc,hc⟩:=hr.shape;have hnr:=hn
 simp only[List.length_map]at hn
 refine A7 Tryz.func188 rfl rfl ?_
 refine A6 ?_;refine H5 rfl rfl (X8 (K:=242) (α:=Int×Int) (f:=Value.bool) hw fun bm w hw=>?_)
 refine A6 ?_;refine B3 (fun μ ρ w=>∃(k:Nat),μ+k=n∧Has ρ [(3,.map (some bm)),(7,.slice a n c),(8,.int .i64 n),(9,.int .i64 k)]∧(xs.take k).Nodup∧Wd Γ (B6.mpT Tryz.prog 242 Value.bool bm (l7 (xs.take k))::S) w) n ⟨0,by omega,⟨rfl,rfl,rfl,rfl,trivial⟩,by simp,hw⟩ ?_
 clear hw;rintro μ ρ w ⟨k,hk,hρ,hnd,hw⟩
 have hr1:P4 Γ (B6.mpT Tryz.prog 242 Value.bool bm (l7 (xs.take k))::S) (.slice a n c) 2 (G5 xs):=hr.cons
 rw[hρ.eq];refine A6 ?_;refine A0 rfl (fun h=>?_) (fun h=>?_)
 ·have hkn:k<n:=by simpa using h
  obtain⟨x,hx⟩:=B2 (l:=xs) (k:=k) (by omega)
  refine A6 ?_;refine B9 ?_;intro b5 w hw;refine B0 ?_;intro w hw;have hw:Wd Γ (.blk b5 (.cells #[.int .i64 x.1,.int .i64 x.2] 242)::B6.mpT Tryz.prog 242 Value.bool bm (l7 (xs.take k))::S) w:=hw
  refine A6 ?_;letI hdm:Decidable (x∈xs.take k):=Classical.propDecidable _
  refine eN rfl rfl (v:=.bool (decide (x∈xs.take k))) ?_ ?_
  ·by_cases hm:x∈xs.take k
   ·rw[decide_eq_true hm];exact Y9 (P:=Tryz.prog) (K:=242) (α:=Int×Int) (f:=Value.bool) (i:=1) hw rfl rfl rfl (HW hm) false
   ·rw[decide_eq_false hm];exact Z3 (P:=Tryz.prog) (K:=242) (α:=Int×Int) (f:=Value.bool) (i:=1) hw rfl rfl rfl (seen_none hm) false
  refine A6 ?_;refine A0 rfl (fun h2=>?_) (fun h2=>?_)
  ·have hm:x∈xs.take k:=by simpa using h2
   refine A6 ?_;exact⟨_,rfl,F2 rfl (decide_eq_false (Co hx hm)).symm,hw.drop.drop⟩
  ·have hm:x∉xs.take k:=by simpa using h2
   refine A6 ?_;refine H5 rfl rfl (BP (P:=Tryz.prog) (K:=242) (α:=Int×Int) (f:=Value.bool) (i:=1) (v:=true) hw rfl rfl rfl rfl fun w hw=>?_)
   rw[Jy hm,←D4 hx]at hw;refine A6 ?_;exact⟨μ-1,by omega,k+1,by omega,⟨rfl,rfl,rfl,rfl,trivial⟩,by rw[D4 hx];exact P8.2 ⟨hnd,hm⟩,hw.drop⟩
 ·have hkn:¬k<n:=by simpa using h
  rw[List.take_of_length_le (by omega)]at hnd
  refine A6 ?_;exact⟨_,rfl,F2 rfl (decide_eq_true hnd).symm,hw.drop⟩
def Eb(b:UInt8):Bool:=!(((decide (((b.toNat:Nat):Int)<32)||decide (126<((b.toNat:Nat):Int)))||decide (((b.toNat:Nat):Int)=34))||decide (((b.toNat:Nat):Int)=92))
def WU(s:ByteArray):Bool:=s.data.toList.all Eb
instance ej(s:ByteArray)[hs:SB s]:PC Tryz.prog 182 [.string s] (.bool (WU s)):=⟨fun w=>by
 have hs:=hs.h
 have hl:=P2 s
 refine A7 Tryz.func182 rfl rfl ?_
 refine A6 ?_;refine B3 (fun μ ρ w'=>∃k:Nat,μ+k=s.size∧Has ρ [(0,.string s),(3,.int .i64 k)]∧(∀i x,i<k→(M8 s)[i]? = some x→Eb x=true)∧w'=w) s.size ⟨0,by omega,⟨rfl,rfl,trivial⟩,fun i x h=>by omega,rfl⟩ ?_
 rintro μ ρ w' ⟨k,hk,hρ,hall,rfl⟩
 rw[hρ.eq];refine A6 ?_;refine A0 rfl (fun h=>?_) (fun h=>?_)
 ·have hkn:k<s.size:=by simpa using h
  obtain⟨c,hc⟩:=B2 (l:=M8 s) (k:=k) (by omega)
  have hg:s.data.toList.getD (k:Int).toNat 0=c:=by
   show (M8 s).getD k 0=c
   rw[List.getD_eq_getElem?_getD,hc];rfl
  refine A6 ?_;rw[hg];refine A0 rfl (fun h2=>?_) (fun h2=>?_)
  ·have hf:Eb c=false:=by unfold Eb;rw[h2];rfl
   refine A6 ?_;exact⟨_,rfl,F2 rfl (BD hc hf).symm,rfl⟩
  ·have hf:Eb c=true:=by unfold Eb;rw[h2];rfl
   refine A6 ?_;exact⟨μ-1,by omega,k+1,by omega,⟨rfl,rfl,trivial⟩,O9 hall hc hf,rfl⟩
 ·have hkn:¬k<s.size:=by simpa using h
  refine A6 ?_;exact⟨_,rfl,F2 rfl (Y0 hall (by omega)).symm,rfl⟩⟩
def AL(H:J6):Bool:=(decide (H.Name≠⟨#[]⟩)&&decide (H.Name.size≤24))&&WU H.Name
def t6(H:J6):Bool:=((AL H&&H.Caches.all fun c=>F8 c.Name)&&H.Mems.all fun c=>F8 c.Name)&&H.Devs.all fun c=>F8 c.Name
theorem Qj(cs:List E1):((cs.map E1.T).all fun c=>F8 c.Name)=cs.all fun c=>F8 c.Name:=by rw[List.all_map];rfl
theorem Ja{α:Type}{l:List α}{k:Nat}{x:α}{p:α→Bool}{a:Bool}(hx:l[k]? = some x):Value.bool ((a&&(l.take k).all p)&&p x)=.bool (a&&(l.take (k+1)).all p):=by
 rw[D4 hx,List.all_append];simp[Bool.and_assoc]
theorem Wg{p q:Prop}[Decidable p][Decidable q]{a b:Bool}(h:p↔q)(h2:a=b):(decide p&&a)=(decide q&&b):=by rw[decide_eq_decide.2 h,h2]
instance eJ{Γ:C8}{u:Value}{H:J6}[hh:FG Γ u H]:PG Tryz.prog Γ 122 [u] (.bool (t6 H)):=⟨fun S w hw=>by
 obtain⟨a1,n1,c1,a2,n2,c2,a3,n3,c3,a4,n4,c4,a5,n5,c5,cs,rfl,hcs,hok,hsz,r1,r2,r3,r4,r5⟩:=hh.h;obtain⟨hn1,hm1,hx1⟩:=C0 r1
 obtain⟨hn2,hm2,hx2⟩:=C0 r2
 obtain⟨hn3,hm3,hx3⟩:=C0 r3
 obtain⟨hn4,hm4,hx4⟩:=C0 r4
 obtain⟨hn5,hm5,hx5⟩:=C0 r5
 simp only[List.length_map]at hn1 hn2 hn3 hn4 hn5
 refine A7 Tryz.func122 rfl rfl ?_
 refine A6 ?_;refine H2 ?_;intro b1 w hw;have hw:Wd Γ (.blk b1 (.cells #[.string H.Name,.slice a1 n1 c1,.slice a2 n2 c2,.slice a3 n3 c3,.slice a4 n4 c4,.slice a5 n5 c5] 44)::S) w:=hw
 obtain⟨z1,z2,z3,z4⟩:=hsz;haveI:SB H.Name:=⟨z1⟩
 refine A6 ?_;have hk0:((decide (H.Name≠⟨#[]⟩)&&decide ((H.Name.size:Int)≤24))&&WU H.Name)=AL H:=by
  unfold AL;rw[show decide ((H.Name.size:Int)≤24)=decide (H.Name.size≤24) from decide_eq_decide.2 (by omega)]
 rw[hk0];have hq:(AL H)=(AL H&&(cs.take 0).all fun c=>F8 c.Name):=by simp
 rw[hq];refine A6 ?_;refine B3 (fun μ ρ w=>∃(k:Nat),μ+k=n2∧Has ρ [(1,.pointer (some ⟨b1,0,none⟩)),(3,.bool (AL H&&(cs.take k).all fun c=>F8 c.Name)),(25,.slice a2 n2 c2),(26,.int .i64 n2),(27,.int .i64 k)]∧Wd Γ (.blk b1 (.cells #[.string H.Name,.slice a1 n1 c1,.slice a2 n2 c2,.slice a3 n3 c3,.slice a4 n4 c4,.slice a5 n5 c5] 44)::S) w) n2 ⟨0,by omega,⟨rfl,rfl,rfl,rfl,rfl,trivial⟩,hw⟩ ?_
 clear hw hq;rintro μ ρ w ⟨k,hk,hρ,hw⟩
 rw[hρ.eq];refine A6 ?_;refine A0 rfl (fun h=>?_) (fun h=>?_)
 ·have hkn:k<n2:=by simpa using h
  obtain⟨x,hx⟩:=B2 (l:=cs) (k:=k) (by omega)
  haveI:SB x.Name:=⟨z2 x.T (by rw[←hcs];exact List.mem_map.2 ⟨x,List.mem_of_getElem? hx,rfl⟩)⟩
  refine A6 ?_;refine B9 ?_;intro b9 w hw;refine B0 ?_;intro w hw;have hw:Wd Γ (.blk b9 (.cells (cC x).toArray 135)::.blk b1 (.cells #[.string H.Name,.slice a1 n1 c1,.slice a2 n2 c2,.slice a3 n3 c3,.slice a4 n4 c4,.slice a5 n5 c5] 44)::S) w:=hw
  refine A6 ?_;exact⟨μ-1,by omega,k+1,by omega,⟨rfl,Ja hx,rfl,rfl,rfl,trivial⟩,hw.drop⟩
 have hkn:¬k<n2:=by simpa using h
 rw[List.take_of_length_le (l:=cs) (by omega)]
 clear h hkn hρ hk;have hq:((AL H&&cs.all fun c=>F8 c.Name))=((AL H&&cs.all fun c=>F8 c.Name)&&(H.Mems.take 0).all fun c=>F8 c.Name):=by simp
 rw[hq];refine A6 ?_;refine B3 (fun μ ρ w=>∃(k:Nat),μ+k=n4∧Has ρ [(1,.pointer (some ⟨b1,0,none⟩)),(3,.bool ((AL H&&cs.all fun c=>F8 c.Name)&&(H.Mems.take k).all fun c=>F8 c.Name)),(39,.slice a4 n4 c4),(40,.int .i64 n4),(41,.int .i64 k)]∧Wd Γ (.blk b1 (.cells #[.string H.Name,.slice a1 n1 c1,.slice a2 n2 c2,.slice a3 n3 c3,.slice a4 n4 c4,.slice a5 n5 c5] 44)::S) w) n4 ⟨0,by omega,⟨rfl,rfl,rfl,rfl,rfl,trivial⟩,hw⟩ ?_
 clear hw hq;rintro μ ρ w ⟨k,hk,hρ,hw⟩
 rw[hρ.eq];refine A6 ?_;refine A0 rfl (fun h=>?_) (fun h=>?_)
 ·have hkn:k<n4:=by simpa using h
  obtain⟨x,hx⟩:=B2 (l:=H.Mems) (k:=k) (by omega)
  haveI:SB x.Name:=⟨z3 x (List.mem_of_getElem? hx)⟩
  refine A6 ?_;refine B9 ?_;intro b9 w hw;refine B0 ?_;intro w hw;have hw:Wd Γ (.blk b9 (.cells (enc x).toArray 58)::.blk b1 (.cells #[.string H.Name,.slice a1 n1 c1,.slice a2 n2 c2,.slice a3 n3 c3,.slice a4 n4 c4,.slice a5 n5 c5] 44)::S) w:=hw
  refine A6 ?_;exact⟨μ-1,by omega,k+1,by omega,⟨rfl,Ja hx,rfl,rfl,rfl,trivial⟩,hw.drop⟩
 have hkn:¬k<n4:=by simpa using h
 rw[List.take_of_length_le (l:=H.Mems) (by omega)]
 clear h hkn hρ hk;have hq:(((AL H&&cs.all fun c=>F8 c.Name)&&H.Mems.all fun c=>F8 c.Name))=(((AL H&&cs.all fun c=>F8 c.Name)&&H.Mems.all fun c=>F8 c.Name)&&(H.Devs.take 0).all fun c=>F8 c.Name):=by simp
 rw[hq];refine A6 ?_;refine B3 (fun μ ρ w=>∃(k:Nat),μ+k=n5∧Has ρ [(1,.pointer (some ⟨b1,0,none⟩)),(3,.bool (((AL H&&cs.all fun c=>F8 c.Name)&&H.Mems.all fun c=>F8 c.Name)&&(H.Devs.take k).all fun c=>F8 c.Name)),(53,.slice a5 n5 c5),(54,.int .i64 n5),(55,.int .i64 k)]∧Wd Γ (.blk b1 (.cells #[.string H.Name,.slice a1 n1 c1,.slice a2 n2 c2,.slice a3 n3 c3,.slice a4 n4 c4,.slice a5 n5 c5] 44)::S) w) n5 ⟨0,by omega,⟨rfl,rfl,rfl,rfl,rfl,trivial⟩,hw⟩ ?_
 clear hw hq;rintro μ ρ w ⟨k,hk,hρ,hw⟩
 rw[hρ.eq];refine A6 ?_;refine A0 rfl (fun h=>?_) (fun h=>?_)
 ·have hkn:k<n5:=by simpa using h
  obtain⟨x,hx⟩:=B2 (l:=H.Devs) (k:=k) (by omega)
  haveI:SB x.Name:=⟨z4 x (List.mem_of_getElem? hx)⟩
  refine A6 ?_;refine B9 ?_;intro b9 w hw;refine B0 ?_;intro w hw;have hw:Wd Γ (.blk b9 (.cells (enc x).toArray 131)::.blk b1 (.cells #[.string H.Name,.slice a1 n1 c1,.slice a2 n2 c2,.slice a3 n3 c3,.slice a4 n4 c4,.slice a5 n5 c5] 44)::S) w:=hw
  refine A6 ?_;exact⟨μ-1,by omega,k+1,by omega,⟨rfl,Ja hx,rfl,rfl,rfl,trivial⟩,hw.drop⟩
 have hkn:¬k<n5:=by simpa using h
 rw[List.take_of_length_le (l:=H.Devs) (by omega)]
 clear h hkn hρ hk;refine A6 ?_;refine⟨_,rfl,F2 rfl ?_,hw.drop⟩
 unfold t6;rw[←hcs,Qj]⟩
instance dB{Γ:C8}{u:Value}{H:J6}[hh:FG Γ u H]:PG Tryz.prog Γ 123 [u] (.bool (S6 H)):=⟨fun S w hw=>by
 obtain⟨a1,n1,c1,a2,n2,c2,a3,n3,c3,a4,n4,c4,a5,n5,c5,cs,rfl,hcs,hok,hsz,r1,r2,r3,r4,r5⟩:=hh.h;obtain⟨hn1,hm1,hx1⟩:=C0 r1
 obtain⟨hn2,hm2,hx2⟩:=C0 r2
 obtain⟨hn3,hm3,hx3⟩:=C0 r3
 obtain⟨hn4,hm4,hx4⟩:=C0 r4
 obtain⟨hn5,hm5,hx5⟩:=C0 r5
 simp only[List.length_map]at hn1 hn2 hn3 hn4 hn5
 refine A7 Tryz.func123 rfl rfl ?_
 refine A6 ?_;refine H2 ?_;intro b1 w hw;have hw:Wd Γ (.blk b1 (.cells #[.string H.Name,.slice a1 n1 c1,.slice a2 n2 c2,.slice a3 n3 c3,.slice a4 n4 c4,.slice a5 n5 c5] 44)::S) w:=hw
 refine A6 ?_;refine⟨_,rfl,F2 rfl ?_,hw.drop⟩
 have hl:H.Caches.length=cs.length:=by rw[←hcs];simp
 unfold S6;rw[hl,hn1,hn2,hn3,hn4,hn5];simp only[Bool.and_assoc]
 refine Wg (by omega) (Wg (by omega) (Wg (by omega) (Wg (by omega) (Wg (by omega) ?_))))
 exact decide_eq_decide.2 (by omega)⟩
set_option maxHeartbeats 8000000
theorem Q8{Γ:C8}{S:List B6}{w:World}{i e sz n c:Nat}{a:Option Addr}{rows:List (List Value)}(hw:Wd Γ S w)(hi:S[i]? = some (.own (.slice a n c) e sz rows)):n=rows.length:=by
 obtain⟨_,_,_,h1,h2,-,-⟩:=hw.own_shape hi;cases h1;exact h2
def Q3(l:E9):Int×Int:=(if l.B<l.A then l.B else l.A,if l.A<l.B then l.B else l.A)
def T6(H:J6):Bool:=(H.Caches.all fun c=>decide c.Cores.Nodup)&&(decide (H.Cores.map (·.ID)).Nodup&&decide (H.Caches.map (·.Name)).Nodup&&decide (H.Mems.map (·.Name)).Nodup&&decide (H.Devs.map (·.Name)).Nodup&&decide (H.Devs.map (·.IRQ)).Nodup&&decide (H.Links.map Q3).Nodup)
theorem Lr(cs:List E1):((cs.map E1.T).all fun c=>decide c.Cores.Nodup)=cs.all fun c=>decide c.Cores.Nodup:=by rw[List.all_map];rfl
theorem w5{H:J6}(h:S6 H=true):1≤H.Cores.length∧H.Cores.length≤32∧H.Caches.length≤64∧H.Links.length≤256∧H.Mems.length≤64∧H.Devs.length≤32:=by
 unfold S6 at h;simp only[Bool.and_eq_true,decide_eq_true_eq]at h
 omega
instance:TBA Tryz.prog 242 1 [.int .i64 0,.int .i64 0]:=⟨by kernel_rfl,by kernel_rfl⟩
section
attribute [local semireducible] gv
theorem Fp{P:Program}{n:Nat}{opa:Array Oper}{QQ:Exit→Fr→World→Prop}{rest:List Oper}{ρ:Fr}{w:World}{Γ:C8}{S:List B6}{d:Option Tmp}{ty:TypeId}{pos:String}{es:Array Edge}{f j dj:Nat}{want c:Bool}{args:List Operand}{tys:Array TypeId}{vs:List Value}{v:Value}[C7 P f]
  (hcall:c=true→Calls P f vs.toArray w fun e w'=>e=.returned v∧Wd Γ S w') (h:∀w',Wd Γ S w'→L P n opa QQ rest (D6 ρ d (gv c v)) w') (hw:Wd Γ S w:=by exact hw) (hj:(opa[j]?).bind (·.dst)=some dj:=by exact rfl) (hjn:G7 n (some dj)=true:=by exact rfl) (hc:F5 (ρ dj) want c:=by exact Hd) (hd:G7 n d=true:=by exact rfl) (ha:c=true→EvL ρ args vs:=by intro hc;exact Hj) :
  L P n opa QQ (⟨d,.call { callee:=.value (.func f),args:=args.toArray,argTypes:=tys },ty,pos,es,some (j,want)⟩::rest) ρ w:=
 gQ hj hjn hd hc (fun hct=>C9 ((hcall hct).mono fun e w' ⟨h1,h2⟩=>⟨v,h1,by have:=h w' h2;rw[hct]at this;exact this⟩) (ha hct) hd) (fun hcf=>by have:=h w hw;rw[hcf]at this;exact this)
end
theorem FM{α:Type}{f:α→Int}{l:List α}{k:Nat}{x:α}(hx:l[k]? = some x):A8 ((l.take k).map f)++[[.int .i64 (f x)]]=A8 ((l.take (k+1)).map f):=by rw[D4 hx];simp[A8]
theorem FS{α:Type}{f:α→ByteArray}{l:List α}{k:Nat}{x:α}(hx:l[k]? = some x):D2 ((l.take k).map f)++[[.string (f x)]]=D2 ((l.take (k+1)).map f):=by rw[D4 hx];simp[D2]
theorem RD{α:Type}{f:α→Int×Int}{l:List α}{k:Nat}{x:α}(hx:l[k]? = some x):G5 ((l.take k).map f)++[[.int .i64 (f x).1,.int .i64 (f x).2]]=G5 ((l.take (k+1)).map f):=by rw[D4 hx];simp[G5]
theorem RU{Γ:C8}{S:List B6}{w:World}{u:Value}{H:J6}[hh:FG Γ u H](hcnt:S6 H=true)(hw:Wd Γ S w):Calls Tryz.prog 127 #[u] w fun e w'=>e=.returned (.bool (T6 H))∧Wd Γ S w':=by
 obtain⟨-,l1,l2,l3,l4,l5⟩:=w5 hcnt
 obtain⟨a1,n1,c1,a2,n2,c2,a3,n3,c3,a4,n4,c4,a5,n5,c5,cs,rfl,hcs,hok,hsz,r1,r2,r3,r4,r5⟩:=hh.h;obtain⟨hn1,hm1,hx1⟩:=C0 r1
 obtain⟨hn2,hm2,hx2⟩:=C0 r2
 obtain⟨hn3,hm3,hx3⟩:=C0 r3
 obtain⟨hn4,hm4,hx4⟩:=C0 r4
 obtain⟨hn5,hm5,hx5⟩:=C0 r5
 simp only[List.length_map]at hn1 hn2 hn3 hn4 hn5
 have hcl:cs.length=H.Caches.length:=by rw[←hcs];simp
 refine A7 Tryz.func127 rfl rfl ?_
 refine A6 ?_;refine H2 ?_;intro b1 w hw;have hw:Wd Γ (.blk b1 (.cells #[.string H.Name,.slice a1 n1 c1,.slice a2 n2 c2,.slice a3 n3 c3,.slice a4 n4 c4,.slice a5 n5 c5] 44)::S) w:=hw
 have hw:Wd Γ (.own (.slice none 0 0) 3 1 (A8 [])::.own (.slice none 0 0) 3 1 (A8 [])::.own (.slice none 0 0) 9 1 (D2 [])::.own (.slice none 0 0) 9 1 (D2 [])::.own (.slice none 0 0) 9 1 (D2 [])::.own (.slice none 0 0) 242 2 (G5 [])::.blk b1 (.cells #[.string H.Name,.slice a1 n1 c1,.slice a2 n2 c2,.slice a3 n3 c3,.slice a4 n4 c4,.slice a5 n5 c5] 44)::S) w:=Wd.addNil (Wd.addNil (Wd.addNil (Wd.addNil (Wd.addNil (Wd.addNil (hw))))))
 refine A6 ?_;refine B3 (fun μ ρ w=>∃(k:Nat) (q3:Option Addr) (m3 d3:Nat),μ+k=n1∧Has ρ [(1,.pointer (some ⟨b1,0,none⟩)),(3,.slice q3 m3 d3),(4,.slice none 0 0),(5,.slice none 0 0),(6,.slice none 0 0),(7,.slice none 0 0),(8,.slice none 0 0),(20,.slice a1 n1 c1),(21,.int .i64 n1),(22,.int .i64 k)]∧Wd Γ (.own (.slice q3 m3 d3) 3 1 (A8 ((H.Cores.take k).map (fun c=>c.ID)))::.own (.slice none 0 0) 3 1 (A8 [])::.own (.slice none 0 0) 9 1 (D2 [])::.own (.slice none 0 0) 9 1 (D2 [])::.own (.slice none 0 0) 9 1 (D2 [])::.own (.slice none 0 0) 242 2 (G5 [])::.blk b1 (.cells #[.string H.Name,.slice a1 n1 c1,.slice a2 n2 c2,.slice a3 n3 c3,.slice a4 n4 c4,.slice a5 n5 c5] 44)::S) w) n1 ⟨0,none,0,0,by omega,⟨rfl,rfl,rfl,rfl,rfl,rfl,rfl,rfl,rfl,rfl,trivial⟩,hw⟩ ?_
 clear hw;rintro μ ρ w ⟨k,q3,m3,d3,hk,hρ,hw⟩
 have hm3:=Q8 (i:=0) hw rfl
 simp only[A8,D2,G5,List.length_map,List.length_take]at hm3
 rw[hρ.eq];refine A6 ?_;refine A0 rfl (fun h=>?_) (fun h=>?_)
 ·have hkn:k<n1:=by simpa using h
  obtain⟨x,hx⟩:=B2 (l:=H.Cores) (k:=k) (by omega)
  refine A6 ?_;refine B9 ?_;intro b9 w hw;refine B0 ?_;intro w hw;have hw:Wd Γ (.blk b9 (.cells (enc x).toArray 47)::.own (.slice q3 m3 d3) 3 1 (A8 ((H.Cores.take k).map (fun c=>c.ID)))::.own (.slice none 0 0) 3 1 (A8 [])::.own (.slice none 0 0) 9 1 (D2 [])::.own (.slice none 0 0) 9 1 (D2 [])::.own (.slice none 0 0) 9 1 (D2 [])::.own (.slice none 0 0) 242 2 (G5 [])::.blk b1 (.cells #[.string H.Name,.slice a1 n1 c1,.slice a2 n2 c2,.slice a3 n3 c3,.slice a4 n4 c4,.slice a5 n5 c5] 44)::S) w:=hw
  refine A6 ?_;refine B5 [[.int .i64 x.ID]] ?_
  intro ab w hw;refine T3 (i:=2) (rows2:=[[.int .i64 x.ID]]) ?_ (Wd.own_rd (i:=0) hw rfl)
  intro v' w hw;obtain⟨q3',m3',d3',rfl,-,-,-⟩:=hw.own_shape (i:=2) rfl
  have hw:=hw.drop
  have hw:Wd Γ (.blk b9 (.cells (enc x).toArray 47)::.own (.slice q3' m3' d3') 3 1 (A8 ((H.Cores.take (k+1)).map (fun c=>c.ID)))::.own (.slice none 0 0) 3 1 (A8 [])::.own (.slice none 0 0) 9 1 (D2 [])::.own (.slice none 0 0) 9 1 (D2 [])::.own (.slice none 0 0) 9 1 (D2 [])::.own (.slice none 0 0) 242 2 (G5 [])::.blk b1 (.cells #[.string H.Name,.slice a1 n1 c1,.slice a2 n2 c2,.slice a3 n3 c3,.slice a4 n4 c4,.slice a5 n5 c5] 44)::S) w:=by
   rw[←FM hx];exact hw
  refine A6 ?_;exact⟨μ-1,by omega,k+1,_,_,_,by omega,⟨rfl,rfl,rfl,rfl,rfl,rfl,rfl,rfl,rfl,rfl,trivial⟩,hw.drop⟩
 have hkn:¬k<n1:=by simpa using h
 rw[List.take_of_length_le (l:=H.Cores) (by omega)]at hw
 clear h hkn hρ hk hm3;refine A6 ?_;refine B3 (fun μ ρ w=>∃(k:Nat) (q5:Option Addr) (m5 d5:Nat),μ+k=n2∧Has ρ [(1,.pointer (some ⟨b1,0,none⟩)),(3,.slice q3 m3 d3),(4,.slice none 0 0),(5,.slice q5 m5 d5),(6,.slice none 0 0),(7,.slice none 0 0),(8,.slice none 0 0),(33,.slice a2 n2 c2),(34,.int .i64 n2),(35,.int .i64 k)]∧(∀i x,i<k→cs[i]? = some x→(fun c:E1=>decide c.Cores.Nodup) x=true)∧Wd Γ (.own (.slice q3 m3 d3) 3 1 (A8 (H.Cores.map (fun c=>c.ID)))::.own (.slice none 0 0) 3 1 (A8 [])::.own (.slice q5 m5 d5) 9 1 (D2 ((cs.take k).map (fun c=>c.Name)))::.own (.slice none 0 0) 9 1 (D2 [])::.own (.slice none 0 0) 9 1 (D2 [])::.own (.slice none 0 0) 242 2 (G5 [])::.blk b1 (.cells #[.string H.Name,.slice a1 n1 c1,.slice a2 n2 c2,.slice a3 n3 c3,.slice a4 n4 c4,.slice a5 n5 c5] 44)::S) w) n2 ⟨0,none,0,0,by omega,⟨rfl,rfl,rfl,rfl,rfl,rfl,rfl,rfl,rfl,rfl,trivial⟩,fun i x h=>by omega,hw⟩ ?_
 clear hw;rintro μ ρ w ⟨k,q5,m5,d5,hk,hρ,hall,hw⟩
 have hm5:=Q8 (i:=2) hw rfl
 simp only[A8,D2,G5,List.length_map,List.length_take]at hm5
 rw[hρ.eq];refine A6 ?_;refine A0 rfl (fun h=>?_) (fun h=>?_)
 ·have hkn:k<n2:=by simpa using h
  obtain⟨x,hx⟩:=B2 (l:=cs) (k:=k) (by omega)
  refine A6 ?_;refine B9 ?_;intro b9 w hw;refine B0 ?_;intro w hw;have hw:Wd Γ (.blk b9 (.cells (cC x).toArray 135)::.own (.slice q3 m3 d3) 3 1 (A8 (H.Cores.map (fun c=>c.ID)))::.own (.slice none 0 0) 3 1 (A8 [])::.own (.slice q5 m5 d5) 9 1 (D2 ((cs.take k).map (fun c=>c.Name)))::.own (.slice none 0 0) 9 1 (D2 [])::.own (.slice none 0 0) 9 1 (D2 [])::.own (.slice none 0 0) 242 2 (G5 [])::.blk b1 (.cells #[.string H.Name,.slice a1 n1 c1,.slice a2 n2 c2,.slice a3 n3 c3,.slice a4 n4 c4,.slice a5 n5 c5] 44)::S) w:=hw
  refine A6 ?_;refine B5 [[.string x.Name]] ?_
  intro ab w hw;refine T3 (i:=4) (rows2:=[[.string x.Name]]) ?_ (Wd.own_rd (i:=0) hw rfl)
  intro v' w hw;obtain⟨q5',m5',d5',rfl,-,-,-⟩:=hw.own_shape (i:=4) rfl
  have hw:=hw.drop
  have hw:Wd Γ (.blk b9 (.cells (cC x).toArray 135)::.own (.slice q3 m3 d3) 3 1 (A8 (H.Cores.map (fun c=>c.ID)))::.own (.slice none 0 0) 3 1 (A8 [])::.own (.slice q5' m5' d5') 9 1 (D2 ((cs.take (k+1)).map (fun c=>c.Name)))::.own (.slice none 0 0) 9 1 (D2 [])::.own (.slice none 0 0) 9 1 (D2 [])::.own (.slice none 0 0) 242 2 (G5 [])::.blk b1 (.cells #[.string H.Name,.slice a1 n1 c1,.slice a2 n2 c2,.slice a3 n3 c3,.slice a4 n4 c4,.slice a5 n5 c5] 44)::S) w:=by
   rw[←FS hx];exact hw
  refine A6 ?_;refine C9 ?_;refine(s9 (D7.rdS (hok x (List.mem_of_getElem? hx))) hw).mono ?_
  rintro r w ⟨rfl,hw⟩
  refine⟨_,rfl,?_⟩;refine A6 ?_;refine A0 rfl (fun h2=>?_) (fun h2=>?_)
  ·have hf:(fun c:E1=>decide c.Cores.Nodup) x=false:=by simpa using h2
   refine A6 ?_;exact⟨_,rfl,F2 rfl (by rw[T6,←hcs,Lr];exact(GC (BD hx hf)).symm),hw.ds [0,0,0,0,0,0,0,0]⟩
  ·have ht:(fun c:E1=>decide c.Cores.Nodup) x=true:=by simpa using h2
   refine A6 ?_;exact⟨μ-1,by omega,k+1,_,_,_,by omega,⟨rfl,rfl,rfl,rfl,rfl,rfl,rfl,rfl,rfl,rfl,trivial⟩,O9 hall hx ht,hw.drop⟩
 have hkn:¬k<n2:=by simpa using h
 rw[List.take_of_length_le (l:=cs) (by omega)]at hw
 have hA:=Y0 hall (by omega)
 clear h hkn hρ hk hall hm5;refine A6 ?_;refine B3 (fun μ ρ w=>∃(k:Nat) (q6:Option Addr) (m6 d6:Nat),μ+k=n4∧Has ρ [(1,.pointer (some ⟨b1,0,none⟩)),(3,.slice q3 m3 d3),(4,.slice none 0 0),(5,.slice q5 m5 d5),(6,.slice q6 m6 d6),(7,.slice none 0 0),(8,.slice none 0 0),(50,.slice a4 n4 c4),(51,.int .i64 n4),(52,.int .i64 k)]∧Wd Γ (.own (.slice q3 m3 d3) 3 1 (A8 (H.Cores.map (fun c=>c.ID)))::.own (.slice none 0 0) 3 1 (A8 [])::.own (.slice q5 m5 d5) 9 1 (D2 (cs.map (fun c=>c.Name)))::.own (.slice q6 m6 d6) 9 1 (D2 ((H.Mems.take k).map (fun c=>c.Name)))::.own (.slice none 0 0) 9 1 (D2 [])::.own (.slice none 0 0) 242 2 (G5 [])::.blk b1 (.cells #[.string H.Name,.slice a1 n1 c1,.slice a2 n2 c2,.slice a3 n3 c3,.slice a4 n4 c4,.slice a5 n5 c5] 44)::S) w) n4 ⟨0,none,0,0,by omega,⟨rfl,rfl,rfl,rfl,rfl,rfl,rfl,rfl,rfl,rfl,trivial⟩,hw⟩ ?_
 clear hw;rintro μ ρ w ⟨k,q6,m6,d6,hk,hρ,hw⟩
 have hm6:=Q8 (i:=3) hw rfl
 simp only[A8,D2,G5,List.length_map,List.length_take]at hm6
 rw[hρ.eq];refine A6 ?_;refine A0 rfl (fun h=>?_) (fun h=>?_)
 ·have hkn:k<n4:=by simpa using h
  obtain⟨x,hx⟩:=B2 (l:=H.Mems) (k:=k) (by omega)
  refine A6 ?_;refine B9 ?_;intro b9 w hw;refine B0 ?_;intro w hw;have hw:Wd Γ (.blk b9 (.cells (enc x).toArray 58)::.own (.slice q3 m3 d3) 3 1 (A8 (H.Cores.map (fun c=>c.ID)))::.own (.slice none 0 0) 3 1 (A8 [])::.own (.slice q5 m5 d5) 9 1 (D2 (cs.map (fun c=>c.Name)))::.own (.slice q6 m6 d6) 9 1 (D2 ((H.Mems.take k).map (fun c=>c.Name)))::.own (.slice none 0 0) 9 1 (D2 [])::.own (.slice none 0 0) 242 2 (G5 [])::.blk b1 (.cells #[.string H.Name,.slice a1 n1 c1,.slice a2 n2 c2,.slice a3 n3 c3,.slice a4 n4 c4,.slice a5 n5 c5] 44)::S) w:=hw
  refine A6 ?_;refine B5 [[.string x.Name]] ?_
  intro ab w hw;refine T3 (i:=5) (rows2:=[[.string x.Name]]) ?_ (Wd.own_rd (i:=0) hw rfl)
  intro v' w hw;obtain⟨q6',m6',d6',rfl,-,-,-⟩:=hw.own_shape (i:=5) rfl
  have hw:=hw.drop
  have hw:Wd Γ (.blk b9 (.cells (enc x).toArray 58)::.own (.slice q3 m3 d3) 3 1 (A8 (H.Cores.map (fun c=>c.ID)))::.own (.slice none 0 0) 3 1 (A8 [])::.own (.slice q5 m5 d5) 9 1 (D2 (cs.map (fun c=>c.Name)))::.own (.slice q6' m6' d6') 9 1 (D2 ((H.Mems.take (k+1)).map (fun c=>c.Name)))::.own (.slice none 0 0) 9 1 (D2 [])::.own (.slice none 0 0) 242 2 (G5 [])::.blk b1 (.cells #[.string H.Name,.slice a1 n1 c1,.slice a2 n2 c2,.slice a3 n3 c3,.slice a4 n4 c4,.slice a5 n5 c5] 44)::S) w:=by
   rw[←FS hx];exact hw
  refine A6 ?_;exact⟨μ-1,by omega,k+1,_,_,_,by omega,⟨rfl,rfl,rfl,rfl,rfl,rfl,rfl,rfl,rfl,rfl,trivial⟩,hw.drop⟩
 have hkn:¬k<n4:=by simpa using h
 rw[List.take_of_length_le (l:=H.Mems) (by omega)]at hw
 clear h hkn hρ hk hm6;refine A6 ?_;refine B3 (fun μ ρ w=>∃(k:Nat) (q7:Option Addr) (m7 d7:Nat) (q4:Option Addr) (m4 d4:Nat),μ+k=n5∧Has ρ [(1,.pointer (some ⟨b1,0,none⟩)),(3,.slice q3 m3 d3),(4,.slice q4 m4 d4),(5,.slice q5 m5 d5),(6,.slice q6 m6 d6),(7,.slice q7 m7 d7),(8,.slice none 0 0),(63,.slice a5 n5 c5),(64,.int .i64 n5),(65,.int .i64 k)]∧Wd Γ (.own (.slice q3 m3 d3) 3 1 (A8 (H.Cores.map (fun c=>c.ID)))::.own (.slice q4 m4 d4) 3 1 (A8 ((H.Devs.take k).map (fun c=>c.IRQ)))::.own (.slice q5 m5 d5) 9 1 (D2 (cs.map (fun c=>c.Name)))::.own (.slice q6 m6 d6) 9 1 (D2 (H.Mems.map (fun c=>c.Name)))::.own (.slice q7 m7 d7) 9 1 (D2 ((H.Devs.take k).map (fun c=>c.Name)))::.own (.slice none 0 0) 242 2 (G5 [])::.blk b1 (.cells #[.string H.Name,.slice a1 n1 c1,.slice a2 n2 c2,.slice a3 n3 c3,.slice a4 n4 c4,.slice a5 n5 c5] 44)::S) w) n5 ⟨0,none,0,0,none,0,0,by omega,⟨rfl,rfl,rfl,rfl,rfl,rfl,rfl,rfl,rfl,rfl,trivial⟩,hw⟩ ?_
 clear hw;rintro μ ρ w ⟨k,q7,m7,d7,q4,m4,d4,hk,hρ,hw⟩
 have hm7:=Q8 (i:=4) hw rfl
 simp only[A8,D2,G5,List.length_map,List.length_take]at hm7
 have hm4:=Q8 (i:=1) hw rfl
 simp only[A8,D2,G5,List.length_map,List.length_take]at hm4
 rw[hρ.eq];refine A6 ?_;refine A0 rfl (fun h=>?_) (fun h=>?_)
 ·have hkn:k<n5:=by simpa using h
  obtain⟨x,hx⟩:=B2 (l:=H.Devs) (k:=k) (by omega)
  refine A6 ?_;refine B9 ?_;intro b9 w hw;refine B0 ?_;intro w hw;have hw:Wd Γ (.blk b9 (.cells (enc x).toArray 131)::.own (.slice q3 m3 d3) 3 1 (A8 (H.Cores.map (fun c=>c.ID)))::.own (.slice q4 m4 d4) 3 1 (A8 ((H.Devs.take k).map (fun c=>c.IRQ)))::.own (.slice q5 m5 d5) 9 1 (D2 (cs.map (fun c=>c.Name)))::.own (.slice q6 m6 d6) 9 1 (D2 (H.Mems.map (fun c=>c.Name)))::.own (.slice q7 m7 d7) 9 1 (D2 ((H.Devs.take k).map (fun c=>c.Name)))::.own (.slice none 0 0) 242 2 (G5 [])::.blk b1 (.cells #[.string H.Name,.slice a1 n1 c1,.slice a2 n2 c2,.slice a3 n3 c3,.slice a4 n4 c4,.slice a5 n5 c5] 44)::S) w:=hw
  refine A6 ?_;refine B5 [[.string x.Name]] ?_
  intro ab w hw;refine T3 (i:=6) (rows2:=[[.string x.Name]]) ?_ (Wd.own_rd (i:=0) hw rfl)
  intro v' w hw;obtain⟨q7',m7',d7',rfl,-,-,-⟩:=hw.own_shape (i:=6) rfl
  have hw:=hw.drop
  have hw:Wd Γ (.blk b9 (.cells (enc x).toArray 131)::.own (.slice q3 m3 d3) 3 1 (A8 (H.Cores.map (fun c=>c.ID)))::.own (.slice q4 m4 d4) 3 1 (A8 ((H.Devs.take k).map (fun c=>c.IRQ)))::.own (.slice q5 m5 d5) 9 1 (D2 (cs.map (fun c=>c.Name)))::.own (.slice q6 m6 d6) 9 1 (D2 (H.Mems.map (fun c=>c.Name)))::.own (.slice q7' m7' d7') 9 1 (D2 ((H.Devs.take (k+1)).map (fun c=>c.Name)))::.own (.slice none 0 0) 242 2 (G5 [])::.blk b1 (.cells #[.string H.Name,.slice a1 n1 c1,.slice a2 n2 c2,.slice a3 n3 c3,.slice a4 n4 c4,.slice a5 n5 c5] 44)::S) w:=by
   rw[←FS hx];exact hw
  refine A6 ?_;refine B5 [[.int .i64 x.IRQ]] ?_
  intro ab w hw;refine T3 (i:=3) (rows2:=[[.int .i64 x.IRQ]]) ?_ (Wd.own_rd (i:=0) hw rfl)
  intro v' w hw;obtain⟨q4',m4',d4',rfl,-,-,-⟩:=hw.own_shape (i:=3) rfl
  have hw:=hw.drop
  have hw:Wd Γ (.blk b9 (.cells (enc x).toArray 131)::.own (.slice q3 m3 d3) 3 1 (A8 (H.Cores.map (fun c=>c.ID)))::.own (.slice q4' m4' d4') 3 1 (A8 ((H.Devs.take (k+1)).map (fun c=>c.IRQ)))::.own (.slice q5 m5 d5) 9 1 (D2 (cs.map (fun c=>c.Name)))::.own (.slice q6 m6 d6) 9 1 (D2 (H.Mems.map (fun c=>c.Name)))::.own (.slice q7' m7' d7') 9 1 (D2 ((H.Devs.take (k+1)).map (fun c=>c.Name)))::.own (.slice none 0 0) 242 2 (G5 [])::.blk b1 (.cells #[.string H.Name,.slice a1 n1 c1,.slice a2 n2 c2,.slice a3 n3 c3,.slice a4 n4 c4,.slice a5 n5 c5] 44)::S) w:=by
   rw[←FM hx];exact hw
  refine A6 ?_;exact⟨μ-1,by omega,k+1,_,_,_,_,_,_,by omega,⟨rfl,rfl,rfl,rfl,rfl,rfl,rfl,rfl,rfl,rfl,trivial⟩,hw.drop⟩
 have hkn:¬k<n5:=by simpa using h
 rw[List.take_of_length_le (l:=H.Devs) (by omega)]at hw
 clear h hkn hρ hk hm7 hm4;refine A6 ?_;refine B3 (fun μ ρ w=>∃(k:Nat) (q8:Option Addr) (m8 d8:Nat),μ+k=n3∧Has ρ [(1,.pointer (some ⟨b1,0,none⟩)),(3,.slice q3 m3 d3),(4,.slice q4 m4 d4),(5,.slice q5 m5 d5),(6,.slice q6 m6 d6),(7,.slice q7 m7 d7),(8,.slice q8 m8 d8),(81,.slice a3 n3 c3),(82,.int .i64 n3),(83,.int .i64 k)]∧Wd Γ (.own (.slice q3 m3 d3) 3 1 (A8 (H.Cores.map (fun c=>c.ID)))::.own (.slice q4 m4 d4) 3 1 (A8 (H.Devs.map (fun c=>c.IRQ)))::.own (.slice q5 m5 d5) 9 1 (D2 (cs.map (fun c=>c.Name)))::.own (.slice q6 m6 d6) 9 1 (D2 (H.Mems.map (fun c=>c.Name)))::.own (.slice q7 m7 d7) 9 1 (D2 (H.Devs.map (fun c=>c.Name)))::.own (.slice q8 m8 d8) 242 2 (G5 ((H.Links.take k).map Q3))::.blk b1 (.cells #[.string H.Name,.slice a1 n1 c1,.slice a2 n2 c2,.slice a3 n3 c3,.slice a4 n4 c4,.slice a5 n5 c5] 44)::S) w) n3 ⟨0,none,0,0,by omega,⟨rfl,rfl,rfl,rfl,rfl,rfl,rfl,rfl,rfl,rfl,trivial⟩,hw⟩ ?_
 clear hw;rintro μ ρ w ⟨k,q8,m8,d8,hk,hρ,hw⟩
 have hm8:=Q8 (i:=5) hw rfl
 simp only[A8,D2,G5,List.length_map,List.length_take]at hm8
 rw[hρ.eq];refine A6 ?_;refine A0 rfl (fun h=>?_) (fun h=>?_)
 ·have hkn:k<n3:=by simpa using h
  obtain⟨x,hx⟩:=B2 (l:=H.Links) (k:=k) (by omega)
  refine A6 ?_;refine B9 ?_;intro b9 w hw;refine B0 ?_;intro w hw;have hw:Wd Γ (.blk b9 (.cells (enc x).toArray 128)::.own (.slice q3 m3 d3) 3 1 (A8 (H.Cores.map (fun c=>c.ID)))::.own (.slice q4 m4 d4) 3 1 (A8 (H.Devs.map (fun c=>c.IRQ)))::.own (.slice q5 m5 d5) 9 1 (D2 (cs.map (fun c=>c.Name)))::.own (.slice q6 m6 d6) 9 1 (D2 (H.Mems.map (fun c=>c.Name)))::.own (.slice q7 m7 d7) 9 1 (D2 (H.Devs.map (fun c=>c.Name)))::.own (.slice q8 m8 d8) 242 2 (G5 ((H.Links.take k).map Q3))::.blk b1 (.cells #[.string H.Name,.slice a1 n1 c1,.slice a2 n2 c2,.slice a3 n3 c3,.slice a4 n4 c4,.slice a5 n5 c5] 44)::S) w:=hw
  refine A6 ?_;refine B5 [[.int .i64 (Q3 x).1,.int .i64 (Q3 x).2]] ?_
  intro ab w hw;refine T3 (i:=7) (rows2:=[[.int .i64 (Q3 x).1,.int .i64 (Q3 x).2]]) ?_ (Wd.own_rd (i:=0) hw rfl)
  intro v' w hw;obtain⟨q8',m8',d8',rfl,-,-,-⟩:=hw.own_shape (i:=7) rfl
  have hw:=hw.drop
  have hw:Wd Γ (.blk b9 (.cells (enc x).toArray 128)::.own (.slice q3 m3 d3) 3 1 (A8 (H.Cores.map (fun c=>c.ID)))::.own (.slice q4 m4 d4) 3 1 (A8 (H.Devs.map (fun c=>c.IRQ)))::.own (.slice q5 m5 d5) 9 1 (D2 (cs.map (fun c=>c.Name)))::.own (.slice q6 m6 d6) 9 1 (D2 (H.Mems.map (fun c=>c.Name)))::.own (.slice q7 m7 d7) 9 1 (D2 (H.Devs.map (fun c=>c.Name)))::.own (.slice q8' m8' d8') 242 2 (G5 ((H.Links.take (k+1)).map Q3))::.blk b1 (.cells #[.string H.Name,.slice a1 n1 c1,.slice a2 n2 c2,.slice a3 n3 c3,.slice a4 n4 c4,.slice a5 n5 c5] 44)::S) w:=by
   rw[←RD hx];exact hw
  refine A6 ?_;exact⟨μ-1,by omega,k+1,_,_,_,by omega,⟨rfl,rfl,rfl,rfl,rfl,rfl,rfl,rfl,rfl,rfl,trivial⟩,hw.drop⟩
 have hkn:¬k<n3:=by simpa using h
 rw[List.take_of_length_le (l:=H.Links) (by omega)]at hw
 clear h hkn hρ hk hm8;refine A6 ?_;refine C9 ?_;refine(s9 (P4.own (i:=0) hw rfl) hw).mono ?_
 rintro r w ⟨rfl,hw⟩
 refine⟨_,rfl,?_⟩;refine A6 ?_;refine Fp (fun _=>Y4 (P4.own (i:=2) hw rfl) hw) ?_
 clear hw;intro w hw;refine A6 ?_;refine Fp (fun _=>Y4 (P4.own (i:=3) hw rfl) hw) ?_
 clear hw;intro w hw;refine A6 ?_;refine Fp (fun _=>Y4 (P4.own (i:=4) hw rfl) hw) ?_
 clear hw;intro w hw;refine A6 ?_;refine Fp (fun _=>s9 (P4.own (i:=1) hw rfl) hw) ?_
 clear hw;intro w hw;refine A6 ?_;refine Fp (fun _=>EB (P4.own (i:=5) hw rfl) hw) ?_
 clear hw;intro w hw;refine A6 ?_;refine⟨_,rfl,F2 rfl ?_,hw.ds [0,0,0,0,0,0,0]⟩
 have e1:(cs.map fun c=>c.Name)=H.Caches.map fun c=>c.Name:=by rw[←hcs,List.map_map];rfl
 unfold T6;rw[show (H.Caches.all fun c=>decide c.Cores.Nodup)=true from by rw[←hcs,Lr];exact hA,←e1]
 rfl
section
variable {Γ:C8}{S:List B6}{w:World}{a:Option Addr}{n c:Nat}{xs:List F0}
theorem KY(p:F0→Bool)(f:Nat)(fst cap:List Value)[C7 Tryz.prog f](hr:P4 Γ S (.slice a n c) 4 (xs.map enc))
  (hf:∀x w,Wd Γ S w→Calls Tryz.prog f (fst++[Value.agg (enc x).toArray]++cap).toArray w fun e w'=>e=.returned (.bool (p x))∧Wd Γ S w') (hw:Wd Γ S w) :
  Calls Tryz.prog 264 #[.slice a n c,.func (.func f) fst.toArray cap.toArray] w fun e w'=>∃i:Int,e=.returned (.int .i64 i)∧decide (0≤i)=xs.any p∧Wd Γ S w':=by
 obtain⟨_,_,_,he,hn,hnc,hc⟩:=hr.shape;cases he
 have hnr:=hn
 simp only[List.length_map]at hn
 refine A7 Tryz.func264 rfl rfl ?_
 refine A6 ?_;refine B3 (fun μ ρ w=>∃(k:Nat),μ+k=n∧Has ρ [(0,.slice a n c),(1,.func (.func f) fst.toArray cap.toArray),(7,.int .i64 n),(8,.int .i64 k)]∧(∀i x,i<k→xs[i]? = some x→(!p x)=true)∧Wd Γ S w) n ⟨0,by omega,⟨rfl,rfl,rfl,rfl,trivial⟩,fun i x h=>by omega,hw⟩ ?_
 clear hw;rintro μ ρ w ⟨k,hk,hρ,hall,hw⟩
 rw[hρ.eq];refine A6 ?_;refine A0 rfl (fun h=>?_) (fun h=>?_)
 ·have hkn:k<n:=by simpa using h
  obtain⟨x,hx⟩:=B2 (l:=xs) (k:=k) (by omega)
  refine A6 ?_;refine EF (fst:=fst) (cap:=cap) (vs:=[.agg (enc x).toArray]) ?_
  refine(hf x w hw).mono ?_
  rintro r w ⟨rfl,hw⟩
  refine⟨_,rfl,?_⟩;refine A6 ?_;refine A0 rfl (fun h2=>?_) (fun h2=>?_)
  ·refine A6 ?_;exact⟨_,rfl,k,rfl,by rw[decide_eq_true (show (0:Int)≤k by omega)];exact(List.any_eq_true.2 ⟨x,List.mem_of_getElem? hx,h2⟩).symm,hw⟩
  ·refine A6 ?_;exact⟨μ-1,by omega,k+1,by omega,⟨rfl,rfl,rfl,rfl,trivial⟩,O9 hall hx (by rw[h2];rfl),hw⟩
 ·have hkn:¬k<n:=by simpa using h
  refine A6 ?_;refine⟨_,rfl,-1,rfl,?_,hw⟩
  have:=Y0 hall (by omega)
  rw[decide_eq_false (show ¬(0:Int)≤-1 by decide)]
  rw[List.all_eq_true]at this;exact(List.any_eq_false.2 fun x hx=>by simpa using this x hx).symm
theorem Gs(p:F0→Bool)(f:Nat)(fst cap:List Value)[C7 Tryz.prog f](hr:P4 Γ S (.slice a n c) 4 (xs.map enc))
  (hf:∀x w,Wd Γ S w→Calls Tryz.prog f (fst++[Value.agg (enc x).toArray]++cap).toArray w fun e w'=>e=.returned (.bool (p x))∧Wd Γ S w') (hw:Wd Γ S w) :
  Calls Tryz.prog 189 #[.slice a n c,.func (.func f) fst.toArray cap.toArray] w fun e w'=>e=.returned (.bool (xs.any p))∧Wd Γ S w':=by
 refine A7 Tryz.func189 rfl rfl ?_
 refine A6 ?_;refine C9 ?_;refine(KY p f fst cap hr hf hw).mono ?_
 rintro r w ⟨i,rfl,hi,hw⟩
 refine⟨_,rfl,?_⟩;refine A6 ?_;exact⟨_,rfl,F2 rfl hi,hw⟩
theorem Rp{b6 i:Nat}{id:Int}(x:F0)(hi:S[i]? = some (.blk b6 (.cells #[.int .i64 id] 3)))(hw:Wd Γ S w) :
  Calls Tryz.prog 190 #[.agg (enc x).toArray,.pointer (some ⟨b6,0,none⟩)] w fun e w'=>e=.returned (.bool (decide (x.ID=id)))∧Wd Γ S w':=by
 refine A7 Tryz.func190 rfl rfl ?_
 refine A6 ?_;refine H2 ?_;intro b2 w hw;have hw:Wd Γ (.blk b2 (.cells (enc x).toArray 47)::S) w:=hw
 refine A6 ?_;have hi2:(B6.blk b2 (.cells (enc x).toArray 47)::S)[i+1]? = some (.blk b6 (.cells #[.int .i64 id] 3)):=by simpa using hi
 refine lY (v:=.int .i64 id) ?_ (hy:=M7 (i:=i+1) hw rfl hi2 rfl)
 refine A6 ?_;exact⟨_,rfl,rfl,hw.drop⟩
end
def Ad(H:J6):Bool:=H.Caches.all fun c=>c.Cores.all fun id=>H.Cores.any fun x=>decide (x.ID=id)
def Mr(H:J6)(c:E1):Bool:=c.Cores.all fun id=>H.Cores.any fun x=>decide (x.ID=id)
theorem LI(H:J6)(cs:List E1):((cs.map E1.T).all fun c=>c.Cores.all fun id=>H.Cores.any fun x=>decide (x.ID=id))=cs.all (Mr H):=by rw[List.all_map];rfl
abbrev J2(H:J6)(a1:Option Addr)(n1 c1:Nat)(a2:Option Addr)(n2 c2:Nat)(a3:Option Addr)(n3 c3:Nat)(a4:Option Addr)(n4 c4:Nat)(a5:Option Addr)(n5 c5:Nat):Obj:=.cells #[.string H.Name,.slice a1 n1 c1,.slice a2 n2 c2,.slice a3 n3 c3,.slice a4 n4 c4,.slice a5 n5 c5] 44
instance dS{Γ:C8}{u:Value}{H:J6}[hh:FG Γ u H]:PG Tryz.prog Γ 128 [u] (.bool (Ad H)):=⟨fun S w hw=>by
 obtain⟨a1,n1,c1,a2,n2,c2,a3,n3,c3,a4,n4,c4,a5,n5,c5,cs,rfl,hcs,hok,hsz,r1,r2,r3,r4,r5⟩:=hh.h;obtain⟨hn1,hm1,hx1⟩:=C0 r1
 obtain⟨hn2,hm2,hx2⟩:=C0 r2
 simp only[List.length_map]at hn1 hn2
 refine A7 Tryz.func128 rfl rfl ?_
 refine A6 ?_;refine H2 ?_;intro b1 w hw;have hw:Wd Γ (.blk b1 (J2 H a1 n1 c1 a2 n2 c2 a3 n3 c3 a4 n4 c4 a5 n5 c5)::S) w:=hw
 refine A6 ?_;refine B3 (fun μ ρ w=>∃(k:Nat),μ+k=n2∧Has ρ [(1,.pointer (some ⟨b1,0,none⟩)),(8,.slice a2 n2 c2),(9,.int .i64 n2),(10,.int .i64 k)]∧(∀i x,i<k→cs[i]? = some x→Mr H x=true)∧Wd Γ (.blk b1 (J2 H a1 n1 c1 a2 n2 c2 a3 n3 c3 a4 n4 c4 a5 n5 c5)::S) w) n2 ⟨0,by omega,⟨rfl,rfl,rfl,rfl,trivial⟩,fun i x h=>by omega,hw⟩ ?_
 clear hw;rintro μ ρ w ⟨k,hk,hρ,hall,hw⟩
 rw[hρ.eq];refine A6 ?_;refine A0 rfl (fun h=>?_) (fun h=>?_)
 ·have hkn:k<n2:=by simpa using h
  obtain⟨x,hx⟩:=B2 (l:=cs) (k:=k) (by omega)
  have hcok:=hok x (List.mem_of_getElem? hx)
  obtain⟨hxn,hxm,hxc⟩:=hcok.facts;unfold SZ at hcok;refine A6 ?_;refine B9 ?_;intro b9 w hw;refine B0 ?_;intro w hw;have hw:Wd Γ (.blk b9 (.cells (cC x).toArray 135)::.blk b1 (J2 H a1 n1 c1 a2 n2 c2 a3 n3 c3 a4 n4 c4 a5 n5 c5)::S) w:=hw
  refine A6 ?_;refine B3 (fun μ2 ρ w=>∃(j:Nat),μ2+j=x.N∧Has ρ [(1,.pointer (some ⟨b1,0,none⟩)),(8,.slice a2 n2 c2),(9,.int .i64 n2),(10,.int .i64 k),(15,.slice x.A x.N x.C),(16,.int .i64 x.N),(17,.int .i64 j)]∧(∀i id,i<j→x.Cores[i]? = some id→(H.Cores.any fun y=>decide (y.ID=id))=true)∧Wd Γ (.blk b9 (.cells (cC x).toArray 135)::.blk b1 (J2 H a1 n1 c1 a2 n2 c2 a3 n3 c3 a4 n4 c4 a5 n5 c5)::S) w) x.N ⟨0,by omega,⟨rfl,rfl,rfl,rfl,rfl,rfl,rfl,trivial⟩,fun i x h=>by omega,hw⟩ ?_
  clear hw;rintro μ2 ρ w ⟨j,hj,hρ,hall2,hw⟩
  rw[hρ.eq];refine A6 ?_;refine A0 rfl (fun h2=>?_) (fun h2=>?_)
  ·have hjn:j<x.N:=by simpa using h2
   obtain⟨id,hid⟩:=B2 (l:=x.Cores) (k:=j) (by omega)
   refine A6 ?_;refine B9 ?_;intro b6 w hw;refine B0 ?_;intro w hw;have hw:Wd Γ (.blk b6 (.cells #[.int .i64 id] 3)::.blk b9 (.cells (cC x).toArray 135)::.blk b1 (J2 H a1 n1 c1 a2 n2 c2 a3 n3 c3 a4 n4 c4 a5 n5 c5)::S) w:=hw
   refine A6 ?_;refine C9 ?_;refine(Gs (fun y=>decide (y.ID=id)) 190 [] [.pointer (some ⟨b6,0,none⟩)] r1.rdS (fun y w hw=>Rp y (i:=0) rfl hw) hw).mono ?_
   rintro r w ⟨rfl,hw⟩
   refine⟨_,rfl,?_⟩;refine A6 ?_;refine A0 rfl (fun h3=>?_) (fun h3=>?_)
   ·have hf:(H.Cores.any fun y=>decide (y.ID=id))=false:=by simpa using h3
    refine A6 ?_;refine⟨_,rfl,F2 rfl ?_,hw.drop.drop.drop⟩
    have hf2:Mr H x=false:=BD hid hf
    unfold Ad;rw[←hcs,LI];exact(BD hx hf2).symm
   ·have ht:(H.Cores.any fun y=>decide (y.ID=id))=true:=by simpa using h3
    refine A6 ?_;exact⟨μ2-1,by omega,j+1,by omega,⟨rfl,rfl,rfl,rfl,rfl,rfl,rfl,trivial⟩,O9 hall2 hid ht,hw.drop⟩
  ·have hjn:¬j<x.N:=by simpa using h2
   have ht:Mr H x=true:=Y0 hall2 (by omega)
   refine A6 ?_;exact⟨μ-1,by omega,k+1,by omega,⟨rfl,rfl,rfl,rfl,trivial⟩,O9 hall hx ht,hw.drop⟩
 ·have hkn:¬k<n2:=by simpa using h
  refine A6 ?_;refine⟨_,rfl,F2 rfl ?_,hw.drop⟩
  unfold Ad;rw[←hcs,LI];exact(Y0 hall (by omega)).symm⟩
def AQ(l:List Int):Prop:=∀i a b,l[i]? = some a→l[i+1]? = some b→a≤b
noncomputable def RY(p:Prop):Bool:=@decide p (Classical.propDecidable p)
theorem Aw{p:Prop}(h:p):RY p=true:=@decide_eq_true p (Classical.propDecidable p) h
theorem Fb{p:Prop}(h:¬p):RY p=false:=@decide_eq_false p (Classical.propDecidable p) h
theorem QF{p:Prop}:RY p=true↔p:=@decide_eq_true_iff p (Classical.propDecidable p)
noncomputable def EQ(l:List Int):Bool:=RY (AQ l)
instance fH(x:Int):PC Tryz.prog 134 [.int .i64 x] (.bool false):=⟨fun w=>by
 refine A7 Tryz.func134 rfl rfl ?_
 refine A6 ?_;exact⟨_,rfl,F2 rfl (by simp),rfl⟩⟩
instance gP(x y:Int):PC Tryz.prog 211 [.int .i64 x,.int .i64 y] (.bool (decide (x<y))):=⟨fun w=>by
 refine A7 Tryz.func211 rfl rfl ?_
 repeat(first|(first|refine y0 ?_|refine AT ?_|refine W7 ?_|refine Bf ?_|refine Hl ?_|refine Dz ?_)|((first|apply Jx|apply CW);first|(refine lT ?_ ?_;(first|exact rfl|exact decide_eq_true rfl|(simp;done)))|(refine lF ?_ ?_;(first|exact rfl|exact decide_eq_true rfl|(simp;done))))|(first|refine p9 ?_|(apply AN;first|(apply Dd;first|refine lP ?_|(refine XN ?_;intro w hw))|(apply OE;refine i5 ?_)|refine lY ?_)|(apply V2;first|refine QM ?_ (hct:=rfl)|refine Py ?_ (hct:=rfl)|(apply Dd;first|refine cv ?_|(refine Mw ?_;intro w hw))|refine lG ?_))|(refine B9 ?_;intro _ w hw)|(refine H2 ?_;intro _ w hw)|(refine B0 ?_;intro w hw))
 exact⟨_,rfl,F2 rfl (by simp),rfl⟩⟩
section
variable {Γ:C8}{S:List B6}{w:World}{xs:List Int}{v:Value}
theorem NJ(hr:P4 Γ S v 1 (A8 xs))(hw:Wd Γ S w):Calls Tryz.prog 191 #[v] w fun e w'=>e=.returned (.bool (EQ xs))∧Wd Γ S w':=by
 obtain⟨a,n,c,rfl,hn,hnc,hc⟩:=hr.shape;have hnr:=hn
 simp only[A8,List.length_map]at hn
 refine A7 Tryz.func191 rfl rfl ?_
 refine A6 ?_;refine B3 (fun μ ρ w=>∃(m:Nat),μ=m∧m≤n∧Has ρ [(0,.slice a n c),(3,.int .i64 ((m:Int)-1))]∧(∀i a b,m≤i+1→xs[i]? = some a→xs[i+1]? = some b→a≤b)∧Wd Γ S w) n ⟨n,rfl,Nat.le_refl _,⟨rfl,rfl,trivial⟩,fun i a b h1 h2 h3=>by have:=(List.getElem?_eq_some_iff.1 h3).1;omega,hw⟩ ?_
 clear hw;rintro μ ρ w ⟨m,rfl,hm,hρ,hall,hw⟩
 rw[hρ.eq];refine A6 ?_;refine A0 rfl (fun h=>?_) (fun h=>?_)
 ·have hm2:2≤μ:=by have:=of_decide_eq_true h;omega
  obtain⟨x,hx⟩:=B2 (l:=xs) (k:=μ-1) (by omega)
  obtain⟨y,hy⟩:=B2 (l:=xs) (k:=μ-2) (by omega)
  have e1:((μ:Int)-1).toNat=μ-1:=by omega
  have e2:((μ:Int)-1-1).toNat=μ-2:=by omega
  have hx':xs[((μ:Int)-1).toNat]? = some x:=by rw[e1];exact hx
  have hy':xs[((μ:Int)-1-1).toNat]? = some y:=by rw[e2];exact hy
  refine A6 ?_;refine G9 (by kernel_rfl) (by kernel_rfl) hw ?_
  refine X3 ?_;intro w hw;refine A0 rfl (fun h2=>?_) (fun h2=>?_)
  ·have h2:x<y:=of_decide_eq_true h2
   refine A6 ?_;refine⟨_,rfl,F2 rfl ?_,hw⟩
   exact(Fb fun hs=>by have:=hs (μ-2) y x hy (by rw[show μ-2+1=μ-1 by omega];exact hx);omega).symm
  ·have h2:¬x<y:=of_decide_eq_false h2
   refine A6 ?_;refine⟨μ-1,by omega,μ-1,rfl,by omega,⟨rfl,?_,trivial⟩,fun i p q h3 h4 h5=>?_,hw⟩
   ·show Value.int .i64 ((μ:Int)-1-1)=_
    congr 1;omega
   ·by_cases e:μ≤i+1
    ·exact hall i p q e h4 h5
    ·have:i=μ-2:=by omega
     subst this;rw[show μ-2+1=μ-1 by omega,hx]at h5
     rw[hy]at h4;cases h4;cases h5;omega
 ·have hm2:¬2≤μ:=by have:=of_decide_eq_false h;omega
  refine A6 ?_;refine⟨_,rfl,F2 rfl ?_,hw⟩
  exact(Aw fun i p q h1 h2=>hall i p q (by omega) h1 h2).symm
def Om(x:Int)(xs:List Int):Bool:=xs.any fun y=>decide (x=y)
theorem Kn(hr:P4 Γ S v 1 (A8 xs))(x:Int)(hw:Wd Γ S w):Calls Tryz.prog 192 #[v,.int .i64 x] w fun e w'=>e=.returned (.bool (Om x xs))∧Wd Γ S w':=by
 have hI:∀w,Wd Γ S w→Calls Tryz.prog 265 #[v,.int .i64 x] w fun e w'=>∃i:Int,e=.returned (.int .i64 i)∧(decide (0≤i)=Om x xs)∧Wd Γ S w':=by
  intro w hw;obtain⟨a,n,c,rfl,hn,hnc,hc⟩:=hr.shape;have hnr:=hn
  simp only[A8,List.length_map]at hn
  refine A7 Tryz.func265 rfl rfl ?_
  refine A6 ?_;refine B3 (fun μ ρ w=>∃(k:Nat),μ+k=n∧Has ρ [(0,.slice a n c),(1,.int .i64 x),(7,.int .i64 n),(8,.int .i64 k)]∧(∀i y,i<k→xs[i]? = some y→(!decide (x=y))=true)∧Wd Γ S w) n ⟨0,by omega,⟨rfl,rfl,rfl,rfl,trivial⟩,fun i x h=>by omega,hw⟩ ?_
  clear hw;rintro μ ρ w ⟨k,hk,hρ,hno,hw⟩
  rw[hρ.eq];refine A6 ?_;refine A0 rfl (fun h=>?_) (fun h=>?_)
  ·have hkn:k<n:=by simpa using h
   obtain⟨y,hy⟩:=B2 (l:=xs) (k:=k) (by omega)
   refine A6 ?_;refine A0 rfl (fun h2=>?_) (fun h2=>?_)
   ·refine A6 ?_;exact⟨_,rfl,k,rfl,by rw[decide_eq_true (show (0:Int)≤k by omega)];exact(List.any_eq_true.2 ⟨y,List.mem_of_getElem? hy,h2⟩).symm,hw⟩
   ·refine A6 ?_;exact⟨μ-1,by omega,k+1,by omega,⟨rfl,rfl,rfl,rfl,trivial⟩,O9 hno hy (by rw[h2];rfl),hw⟩
  ·have hkn:¬k<n:=by simpa using h
   refine A6 ?_;refine⟨_,rfl,-1,rfl,?_,hw⟩
   have:=Y0 hno (by omega)
   rw[decide_eq_false (show ¬(0:Int)≤-1 by decide)]
   rw[List.all_eq_true]at this;exact(List.any_eq_false.2 fun y hy=>by simpa using this y hy).symm
 refine A7 Tryz.func192 rfl rfl ?_
 refine A6 ?_;refine C9 ?_;refine(hI w hw).mono ?_
 rintro e w ⟨i,rfl,hd,hw⟩
 refine⟨_,rfl,?_⟩;refine A6 ?_;exact⟨_,rfl,F2 rfl hd,hw⟩
end
instance bv{Γ:C8}{v:Value}{xs:List Int}[hr:fz Γ v 1 (A8 xs)](x:Int):PG Tryz.prog Γ 192 [v,.int .i64 x] (.bool (Om x xs)):=⟨fun S w hw=>Kn hr.h.rdS x hw⟩
noncomputable instance cZ {Γ:C8} {v:Value} {xs:List Int} [hr:fz Γ v 1 (A8 xs)]:PG Tryz.prog Γ 191 [v] (.bool (EQ xs)):=⟨fun S w hw=>NJ hr.h.rdS hw⟩
def O5(a b:List Int):Nat:=(a.filter fun v=>Om v b).length
def DT(i k:Nat)(a b:R5):Bool:=decide (i=k)||decide (b.Level<a.Level) || !(decide (0<O5 a.Cores b.Cores)&&(decide (a.Level=b.Level)||decide (O5 a.Cores b.Cores<a.Cores.length)))
def ez(l:List R5):Prop:=(∀c∈l,AQ c.Cores)∧∀(i k:Nat) (a b:R5),l[i]? = some a→l[k]? = some b→DT i k a b=true
noncomputable def JF(H:J6):Bool:=RY (ez H.Caches)
theorem MA{α:Type}{l:List α}{p:Nat→α→Bool}{k:Nat}{x:α}(h:∀i x,i<k→l[i]? = some x→p i x=true)(hx:l[k]? = some x)(ht:p k x=true):∀i x,i<k+1→l[i]? = some x→p i x=true:=fun i y hi hy=>by
 by_cases e:i=k
 ·subst e;rw[hx]at hy;cases hy;exact ht
 ·exact h i y (by omega) hy
instance YR{Γ:C8}{u:Value}{H:J6}[hh:FG Γ u H]:PG Tryz.prog Γ 129 [u] (.bool (JF H)):=⟨fun S w hw=>by
 obtain⟨a1,n1,c1,a2,n2,c2,a3,n3,c3,a4,n4,c4,a5,n5,c5,cs,rfl,hcs,hok,hsz,r1,r2,r3,r4,r5⟩:=hh.h;obtain⟨hn2,hm2,hx2⟩:=C0 r2
 simp only[List.length_map]at hn2
 have hget:∀(i:Nat) (x:E1),cs[i]? = some x→H.Caches[i]? = some x.T:=fun i x h=>by rw[←hcs];simp[h]
 refine A7 Tryz.func129 rfl rfl ?_
 refine A6 ?_;refine H2 ?_;intro b1 w hw;have hw:Wd Γ (.blk b1 (J2 H a1 n1 c1 a2 n2 c2 a3 n3 c3 a4 n4 c4 a5 n5 c5)::S) w:=hw
 refine A6 ?_;refine B3 (fun μ ρ w=>∃(k:Nat),μ+k=n2∧Has ρ [(1,.pointer (some ⟨b1,0,none⟩)),(13,.slice a2 n2 c2),(14,.int .i64 n2),(15,.int .i64 k)]∧(∀(i:Nat) (x:E1),i<k→cs[i]? = some x→EQ x.Cores=true)∧Wd Γ (.blk b1 (J2 H a1 n1 c1 a2 n2 c2 a3 n3 c3 a4 n4 c4 a5 n5 c5)::S) w) n2 ⟨0,by omega,⟨rfl,rfl,rfl,rfl,trivial⟩,fun i x h=>by omega,hw⟩ ?_
 clear hw;rintro μ ρ w ⟨k,hk,hρ,hall,hw⟩
 rw[hρ.eq];refine A6 ?_;refine A0 rfl (fun h=>?_) (fun h=>?_)
 ·have hkn:k<n2:=by simpa using h
  obtain⟨x,hx⟩:=B2 (l:=cs) (k:=k) (by omega)
  haveI:fz Γ (.slice x.A x.N x.C) 1 (A8 x.Cores):=⟨hok x (List.mem_of_getElem? hx)⟩
  refine A6 ?_;refine B9 ?_;intro b9 w hw;refine B0 ?_;intro w hw;have hw:Wd Γ (.blk b9 (.cells (cC x).toArray 135)::.blk b1 (J2 H a1 n1 c1 a2 n2 c2 a3 n3 c3 a4 n4 c4 a5 n5 c5)::S) w:=hw
  repeat first|refine E6 ?_|refine E7 ?_;intro w hw
  refine A0 rfl (fun h2=>?_) (fun h2=>?_)
  ·have hf:EQ x.Cores=false:=by simpa using h2
   refine A6 ?_;refine⟨_,rfl,F2 rfl ?_,hw.drop.drop⟩
   refine(Fb fun hP=>?_).symm
   have:=hP.1 x.T (List.mem_of_getElem? (hget k x hx))
   rw[show EQ x.Cores=true from Aw this]at hf;cases hf
  ·have ht:EQ x.Cores=true:=by simpa using h2
   refine A6 ?_;exact⟨μ-1,by omega,k+1,by omega,⟨rfl,rfl,rfl,rfl,trivial⟩,O9 hall hx ht,hw.drop⟩
 have hkn:¬k<n2:=by simpa using h
 have hsort:∀(i:Nat) (x:E1),cs[i]? = some x→AQ x.Cores:=fun i x hx=>QF.1 (hall i x (by have:=(List.getElem?_eq_some_iff.1 hx).1;omega) hx)
 clear h hkn hall hρ hk;refine A6 ?_;refine B3 (fun μ ρ w=>∃(k:Nat),μ+k=n2∧Has ρ [(1,.pointer (some ⟨b1,0,none⟩)),(25,.slice a2 n2 c2),(26,.int .i64 n2),(27,.int .i64 k)]∧(∀(i j:Nat) (a b:E1),i<k→cs[i]? = some a→cs[j]? = some b→DT i j a.T b.T=true)∧Wd Γ (.blk b1 (J2 H a1 n1 c1 a2 n2 c2 a3 n3 c3 a4 n4 c4 a5 n5 c5)::S) w) n2 ⟨0,by omega,⟨rfl,rfl,rfl,rfl,trivial⟩,fun i j a b h=>by omega,hw⟩ ?_
 clear hw;rintro μ ρ w ⟨i,hi,hρ,hall,hw⟩
 rw[hρ.eq];refine A6 ?_;refine A0 rfl (fun h=>?_) (fun h=>?_)
 ·have hin:i<n2:=by simpa using h
  obtain⟨x,hx⟩:=B2 (l:=cs) (k:=i) (by omega)
  have hcx:=hok x (List.mem_of_getElem? hx)
  obtain⟨hxn,hxm,hxc⟩:=hcx.facts;unfold SZ at hcx;refine A6 ?_;refine B9 ?_;intro b6 w hw;refine A6 ?_;refine B0 ?_;intro w hw;have hw:Wd Γ (.blk b6 (.cells (cC x).toArray 135)::.blk b1 (J2 H a1 n1 c1 a2 n2 c2 a3 n3 c3 a4 n4 c4 a5 n5 c5)::S) w:=hw
  refine A6 ?_;refine B3 (fun μ2 ρ w=>∃(k:Nat),μ2+k=n2∧Has ρ [(1,.pointer (some ⟨b1,0,none⟩)),(5,.int .i64 i),(6,.pointer (some ⟨b6,0,none⟩)),(25,.slice a2 n2 c2),(26,.int .i64 n2),(27,.int .i64 i),(33,.slice a2 n2 c2),(34,.int .i64 n2),(35,.int .i64 k)]∧(∀(j:Nat) (b:E1),j<k→cs[j]? = some b→DT i j x.T b.T=true)∧Wd Γ (.blk b6 (.cells (cC x).toArray 135)::.blk b1 (J2 H a1 n1 c1 a2 n2 c2 a3 n3 c3 a4 n4 c4 a5 n5 c5)::S) w) n2 ⟨0,by omega,⟨rfl,rfl,rfl,rfl,rfl,rfl,rfl,rfl,rfl,trivial⟩,fun j b h=>by omega,hw⟩ ?_
  clear hw;rintro μ2 ρ w ⟨k,hk,hρ,hall2,hw⟩
  rw[hρ.eq];refine A6 ?_;refine A0 rfl (fun h2=>?_) (fun h2=>?_)
  ·have hkn:k<n2:=by simpa using h2
   obtain⟨y,hy⟩:=B2 (l:=cs) (k:=k) (by omega)
   have hcy:=hok y (List.mem_of_getElem? hy)
   haveI:fz Γ (.slice y.A y.N y.C) 1 (A8 y.Cores):=⟨hcy⟩
   refine A6 ?_;refine B9 ?_;intro b8 w hw;refine A6 ?_;refine B0 ?_;intro w hw;have hw:Wd Γ (.blk b8 (.cells (cC y).toArray 135)::.blk b6 (.cells (cC x).toArray 135)::.blk b1 (J2 H a1 n1 c1 a2 n2 c2 a3 n3 c3 a4 n4 c4 a5 n5 c5)::S) w:=hw
   refine A6 ?_;refine A0 rfl (fun h3=>?_) (fun h3=>?_)
   ·have hp:DT i k x.T y.T=true:=by
     have h3:(decide ((i:Int)=k)||decide (y.Level<x.Level))=true:=h3
     unfold DT E1.T;rw[show decide (i=k)=decide ((i:Int)=k) from decide_eq_decide.2 (by omega)]
     rw[h3];rfl
    refine A6 ?_;exact⟨μ2-1,by omega,k+1,by omega,⟨rfl,rfl,rfl,rfl,rfl,rfl,rfl,rfl,rfl,trivial⟩,MA (p:=fun j b=>DT i j x.T b.T) hall2 hy hp,hw.drop⟩
   ·have h3:(decide ((i:Int)=k)||decide (y.Level<x.Level))=false:=h3
    refine A6 ?_;refine B3 (fun μ3 ρ w=>∃(j:Nat),μ3+j=x.N∧Has ρ [(1,.pointer (some ⟨b1,0,none⟩)),(5,.int .i64 i),(6,.pointer (some ⟨b6,0,none⟩)),(8,.pointer (some ⟨b8,0,none⟩)),(9,.int .i64 (O5 (x.Cores.take j) y.Cores)),(25,.slice a2 n2 c2),(26,.int .i64 n2),(27,.int .i64 i),(33,.slice a2 n2 c2),(34,.int .i64 n2),(35,.int .i64 k),(51,.slice x.A x.N x.C),(52,.int .i64 x.N),(53,.int .i64 j)]∧Wd Γ (.blk b8 (.cells (cC y).toArray 135)::.blk b6 (.cells (cC x).toArray 135)::.blk b1 (J2 H a1 n1 c1 a2 n2 c2 a3 n3 c3 a4 n4 c4 a5 n5 c5)::S) w) x.N ⟨0,by omega,⟨rfl,rfl,rfl,rfl,rfl,rfl,rfl,rfl,rfl,rfl,rfl,rfl,rfl,rfl,trivial⟩,hw⟩ ?_
    clear hw;rintro μ3 ρ w ⟨j,hj,hρ,hw⟩
    rw[hρ.eq];have hle:O5 (x.Cores.take j) y.Cores≤j:=Nat.le_trans (List.length_filter_le _ _) (by simp;omega)
    refine A6 ?_;refine A0 rfl (fun h4=>?_) (fun h4=>?_)
    ·have hjn:j<x.N:=by simpa using h4
     obtain⟨v,hv⟩:=B2 (l:=x.Cores) (k:=j) (by omega)
     have hst:O5 (x.Cores.take (j+1)) y.Cores=O5 (x.Cores.take j) y.Cores+(if Om v y.Cores=true then 1 else 0):=by
      unfold O5;rw[D4 hv,List.filter_append,List.length_append];congr 1
      by_cases e:Om v y.Cores=true <;> simp[e]
     repeat first|refine E6 ?_|refine E7 ?_;intro w hw
     refine A0 rfl (fun h5=>?_) (fun h5=>?_)
     ·rw[if_pos h5]at hst;refine A6 ?_;exact⟨μ3-1,by omega,j+1,by omega,⟨rfl,rfl,rfl,rfl,by rw[hst];rfl,rfl,rfl,rfl,rfl,rfl,rfl,rfl,rfl,rfl,trivial⟩,hw⟩
     ·rw[if_neg (by rw[h5];simp)]at hst
      refine A6 ?_;exact⟨μ3-1,by omega,j+1,by omega,⟨rfl,rfl,rfl,rfl,by rw[hst];rfl,rfl,rfl,rfl,rfl,rfl,rfl,rfl,rfl,rfl,trivial⟩,hw⟩
    ·have hjn:¬j<x.N:=by simpa using h4
     rw[List.take_of_length_le (by omega)]
     refine A6 ?_;have key:DT i k x.T y.T = !(decide ((0:Int)<(O5 x.Cores y.Cores:Nat))&&(decide (x.Level=y.Level)||decide (((O5 x.Cores y.Cores:Nat):Int)<x.N))):=by
      unfold DT E1.T;rw[show decide (i=k)=decide ((i:Int)=k) from decide_eq_decide.2 (by omega),h3]
      rw[show decide (0<O5 x.Cores y.Cores)=decide ((0:Int)<(O5 x.Cores y.Cores:Nat)) from decide_eq_decide.2 (by omega)]
      rw[show decide (O5 x.Cores y.Cores<x.Cores.length)=decide (((O5 x.Cores y.Cores:Nat):Int)<x.N) from decide_eq_decide.2 (by omega)]
      rfl
     refine A0 rfl (fun h6=>?_) (fun h6=>?_)
     ·have hp:DT i k x.T y.T=false:=key.trans (congrArg (fun b=>!b) h6)
      refine A6 ?_;refine⟨_,rfl,F2 rfl ?_,hw.drop.drop.drop⟩
      refine(Fb fun hP=>?_).symm
      rw[hP.2 i k x.T y.T (hget i x hx) (hget k y hy)]at hp;cases hp
     ·have hp:DT i k x.T y.T=true:=key.trans (congrArg (fun b=>!b) h6)
      refine A6 ?_;exact⟨μ2-1,by omega,k+1,by omega,⟨rfl,rfl,rfl,rfl,rfl,rfl,rfl,rfl,rfl,trivial⟩,MA (p:=fun j b=>DT i j x.T b.T) hall2 hy hp,hw.drop⟩
  ·have hkn:¬k<n2:=by simpa using h2
   refine A6 ?_;refine⟨μ-1,by omega,i+1,by omega,⟨rfl,rfl,rfl,rfl,trivial⟩,fun i' j a b h1 ha hb=>?_,hw.drop⟩
   by_cases e:i'=i
   ·subst e;rw[hx]at ha;cases ha
    exact hall2 j b (by have:=(List.getElem?_eq_some_iff.1 hb).1;omega) hb
   ·exact hall i' j a b (by omega) ha hb
 ·have hin:¬i<n2:=by simpa using h
  refine A6 ?_;refine⟨_,rfl,F2 rfl ?_,hw.drop⟩
  refine(Aw ⟨fun c hc=>?_,fun p q a b ha hb=>?_⟩).symm
  ·rw[←hcs]at hc;obtain⟨x,hx,rfl⟩:=List.mem_map.1 hc
   obtain⟨q,hq,he⟩:=List.getElem_of_mem hx
   exact hsort q x (by rw[List.getElem?_eq_getElem hq,he])
  ·rw[←hcs,List.getElem?_map]at ha hb
   obtain⟨x,hx,rfl⟩:=Option.map_eq_some_iff.1 ha
   obtain⟨y,hy,rfl⟩:=Option.map_eq_some_iff.1 hb
   exact hall p q x y (by have:=(List.getElem?_eq_some_iff.1 hx).1;omega) hx hy⟩
end Go.Proofs.YtlmiakjbogojgaaGreatDoor
end
